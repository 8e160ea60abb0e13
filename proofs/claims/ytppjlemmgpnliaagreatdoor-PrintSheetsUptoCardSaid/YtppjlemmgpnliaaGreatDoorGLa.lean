/- The lifting: values, states, evaluation, and that it is sound. -/
import Derived.WalkKit
import Derived.Still
import Derived.StillTail
import Derived.Scope
import Derived.LoopN
import Derived.Laws.AppendOwnNone
import Derived.Deep.MidRow
import Derived.Laws.Cover4
open Array renaming eq_empty_of_size_eq_zero->CH,getElem?_eq_some_iff->AX,toList_map->B5
open BitVec renaming ofInt->Au
open Bool renaming and_eq_true->Af,and_self->B3
open Go.Op renaming bytesLess->Lh,equalIn->CI,intArith->L8
open Go.Program renaming cellsOf->Bx
open Go.Result renaming andThen_ok->Bk
open Go.Sem renaming run_bind->BB,run_pure->Dl
open Go.Value renaming int->AQ
open List renaming all_cons->Bg,all_eq_true->As,all_map->LU,cons_append->Al,drop_drop->AV,eq_nil_of_length_eq_zero->AC,extract->Li,foldl_cons->Lo,getElem?_append->B9,getElem?_append_left->Bj,getElem?_append_right->AZ,getElem?_drop->Bm,getElem?_eq_getElem->Ac,getElem?_eq_some_iff->Ad,getElem?_map->Ax,getElem?_set->BK,getElem?_take->AK,getElem_of_mem->A8,length->AW,length_cons->Ae,length_drop->Ay,length_nil->An,length_take->AM,map_cons->A3,map_nil->CB,mem_append->AN,mem_cons_of_mem->Bt,mem_of_getElem? ->Ar,range->Bq,take_set_of_le->Da
open List.cons renaming injEq->BV
open Nat renaming add_assoc->Dd,add_mul->Bf,add_sub_cancel->LV,add_zero->BH,le_refl->Ab,le_trans->AY,lt_of_lt_of_le->Cu,lt_or_ge->AG,mul_le_mul_right->AH,mul_one->Du,zero_add->AE,zero_le->A9
open Option renaming bind_eq_some_iff->CA,isSome_iff_exists->Bi,map_eq_some_iff->Ak,map_some->A6
open Option.some renaming inj->Bs,injEq->Aj
open UInt8 renaming ofNat->Bh
set_option linter.unusedVariables false
set_option linter.unusedSimpArgs false
set_option linter.unusedSectionVars false
theorem om{p:Prop}(h:p:=by omega):p:=h
theorem kr{p:Prop}(h:p:=by kernel_rfl):p:=h
section
namespace Go.Lift
inductive Own where
 |no
 |yes
 |cell (b o:Nat)
 |slot (t:Nat)
 deriving DecidableEq,Inhabited
inductive V where
 |v (x:Value)
 |nil
 |list (k:Own) (rows:List (List V))
 |ptr (b o:Nat)
 |rp (cells:List V)
 |buf (b o n:Nat)
 |stk (b n sz:Nat)
 |mp (b:Nat)
 |agg (cells:List V)
 |tup (vs:List V)
 |fn (f:Nat) (caps:List V)
 |undef
 |any
 deriving Inhabited
inductive Ob where
 |cells (cs:List V)
 |iter (s:ByteArray) (pos:Nat)
 |tab (es:List (Value×Value))
 deriving Inhabited
abbrev Jj:=List (Nat×V)
abbrev JC:=List Ob
abbrev St:=Jj×JC
def look:Jj→Nat→V
 |[],_=> .undef
 |(k,x)::l,t=>if k=t then x else look l t
def ins(t:Nat)(x:V):Jj→Jj
 |[]=>[(t,x)]
 |(k,y)::l=>if t<k then(t,x)::(k,y)::l else if t=k then(t,x)::l else(k,y)::ins t x l
def put(d:Option Nat)(x:V)(g:Jj):Jj:=
 match d with
 |some t=>ins t x g
 |none=>g
def cp:V→V
 | .list _ r=> .list .no r
 |x=>x
def cps:V→V
 | .agg cs=> .agg (cs.map cp)
 |x=>cp x
def own1:V→V
 | .nil=> .list .yes []
 |x=>x
def Kc:V→V
 | .agg cs=> .agg (cs.map own1)
 |x=>own1 x
def fz:V→V
 | .nil=> .list .no []
 | .list _ r=> .list .no r
 |x=>x
def fzs:V→V
 | .agg cs=> .agg (cs.map fz)
 |x=>fz x
def fzr:V→V
 | .tup vs=> .tup (vs.map fzs)
 |x=>fzs x
def okc(b:Nat):V→Bool
 | .v _=>true
 | .nil=>true
 | .list _ _=>true
 | .rp _=>true
 | .ptr i _=>decide (i<b)
 | .buf i _ _=>decide (i<b)
 | .stk i _ _=>decide (i<b)
 | .mp i=>decide (i<b)
 | .undef=>true
 | .any=>true
 |_=>false
def okv(b:Nat):V→Bool
 | .agg cs=>cs.all (okc b)
 | .undef=>true
 | .fn _ cs=>cs.all (okc b)
 |x=>okc b x
def okr(b:Nat):V→Bool
 | .tup vs=>vs.all (okv b)
 |x=>okv b x
def Yu(cs:List V):V→Bool
 | .stk j _ _=>cs.any λu=>match u with
  | .stk i _ _=>i==j
  |_=>false
 |_=>false
def jo:V→Bool
 | .v z=>z.oneCell'
 | .list _ _=>true
 |_=>false
def HZ:V→Bool
 | .v z=>z.oneCell'
 | .list _ _=>true
 | .nil=>true
 |_=>false
def avc(i:Nat):V→Bool
 | .ptr b _=>decide (b≠i)
 | .buf b _ _=>decide (b≠i)
 | .stk b _ _=>decide (b≠i)
 | .mp b=>decide (b≠i)
 |_=>true
def avf(i:Nat):V→Bool
 | .fn _ cs=>cs.all (avc i)
 |x=>avc i x
def avv(i:Nat):V→Bool
 | .agg cs=>cs.all (avf i)
 |x=>avf i x
def avr(i:Nat):V→Bool
 | .tup vs=>vs.all (avv i)
 |x=>avv i x
def kil(i:Nat)(v:V):V:=if avr i v then v else .undef
def kilf(i:Nat)(v:V):V:=if avf i v then v else .undef
def kilE(i:Nat)(g:Jj):Jj:=g.map λp=>(p.1,kil i p.2)
def JGz(i:Nat):Ob→Ob
 | .cells cs=>if cs.all (avf i)then .cells cs else .cells (cs.map (kilf i))
 |o=>o
def y9(base i:Nat)(h:JC):JC:=h.take base++(h.drop base).map (JGz i)
def WW:List V→List V
 | .undef::r=>r
 |_=>[]
def WX:List V→List V
 | .undef::_=>[]
 |cs=>cs
def isU:V→Bool
 | .undef=>true
 |_=>false
def qf:V→Bool
 | .agg _=>false
 | .tup _=>false
 | .fn _ _=>false
 |_=>true
def Jf:V→V
 | .list (.cell _ _) r=> .list .no r
 | .list (.slot _) r=> .list .no r
 |x=>x
def untag(g:Jj):Jj:=g.map λp=>(p.1,Jf p.2)
def Jx:V→V
 | .list (.cell _ _) r=> .list .no r
 |x=>x
def untagC(g:Jj):Jj:=g.map λp=>(p.1,Jx p.2)
def KW:Value→V
 | .slice none 0 0=> .nil
 | .func (.func f) a b=>if a.size=0∧b.size=0 then .fn f []else .v (.func (.func f) a b)
 |x=> .v x
def ofC:Value→V
 | .agg cs=> .agg (cs.toList.map KW)
 |x=>KW x
class BTy where
 bt:List (Nat×TypeId)
 bb:Option TypeId
def QK:V→Bool
 | .v (.pointer none)=>true
 |_=>false
def Zg:List V→Bool
 |x::_=>QK x
 |_=>false
def JBM[BTy](n:Nat):Option TypeId:=BTy.bt.lookup n
def JBN[BTy](t:TypeId)(cs:List V):Bool:=match JBM cs.length with
 |none=>true
 |some T=> !Zg cs||t==T
def JG0:List V→Bool
 |[.v (.int .u8 _)]=>true
 |_=>false
def J0:List (List V)→Bool
 |r::_=>JG0 r
 |[]=>false
def byT[BTy](e:TypeId)(r q:List (List V)):Bool:=match BTy.bb with
 |none=>true
 |some T=>e==T||(!J0 r&& !J0 q)
def JAt[BTy](vs:List V):Bool:=BTy.bt.isEmpty|| !vs.any QK
class GTab where
 tab:Nat→Option (List V)
variable[GTab][BTy]
def opd(g:Jj):Operand→V
 | .tmp t=>look g t
 | .const c=>ofC c
 | .global n=>
  match GTab.tab n with
  |some cs=> .rp cs
  |none=> .v (.pointer (some ⟨n,0,none⟩))
 | .func f=> .fn f []
def cellsV:V→List V
 | .agg cs=>cs
 |x=>[x]
section types
variable(P:Program)
def JG(t:TypeId):Nat:=P.cellsOf t
def Q3(t:TypeId):Option Bool:=
 match P.underlying t with
 |some (.struct _)=>some true
 |some (.array _ _)=>some true
 |some _=>some false
 |none=>none
def K0(t:TypeId):Option (List Value):=((P.info? t).bind (·.zero)).map λz=>z.cells.toList
def tfields(t:TypeId):List (Nat×TypeId):=
 match P.underlying t with
 |some (.struct fs)=>fs.toList.map λf=>(f.offset,f.type)
 |_=>[]
def structOk(t:TypeId):Bool:=(tfields P t).all λp=>(P.info? p.2).isSome
def Ha(t:TypeId):Bool:=
 match P.underlying t with
 |some .string=>true
 |_=>false
def qg(t:TypeId):Bool:=
 match P.underlying t with
 |some (.int .u8)=>true
 |_=>false
def JBO(t:TypeId):Bool:=
 match P.underlying t with
 |some (.int .i32)=>true
 |_=>false
end types
def QQ(op:BinOp)(x y:Value):Option Value:=
 match x,y with
 | .int k a,.int k' b=>
  match op with
  | .shl=>if 0≤b then some (.int k (k.wrap (a*2^ (min b.toNat k.bits))))else none
  | .shr=>if 0≤b then some (.int k (a.fdiv (2^ (min b.toNat k.bits))))else none
  |_=>
   if k=k' then
    match op with
    | .add=>some (.int k (k.wrap (a+b)))
    | .sub=>some (.int k (k.wrap (a-b)))
    | .mul=>some (.int k (k.wrap (a*b)))
    | .quo=>if b=0 then none else some (.int k (k.wrap (a.tdiv b)))
    | .rem=>if b=0 then none else some (.int k (a.tmod b))
    | .and=>some (.int k (k.wrap (Au k.bits a&&&Au k.bits b).toNat))
    | .or=>some (.int k (k.wrap (Au k.bits a|||Au k.bits b).toNat))
    | .xor=>some (.int k (k.wrap (Au k.bits a^^^Au k.bits b).toNat))
    | .andNot=>some (.int k (k.wrap (Au k.bits a&&& ~~~ Au k.bits b).toNat))
    | .eql=>some (.bool (a==b))
    | .neq=>some (.bool (a !=b))
    | .lss=>some (.bool (decide (a<b)))
    | .leq=>some (.bool (decide (a≤b)))
    | .gtr=>some (.bool (decide (b<a)))
    | .geq=>some (.bool (decide (b≤a)))
    | .shl=>none
    | .shr=>none
   else none
 | .string a,.string b=>
  match op with
  | .add=>if a.size+b.size≤9223372036854775807 then some (.string (a++b))else none
  | .eql=>some (.bool (a.toList==b.toList))
  | .neq=>some (.bool (!(a.toList==b.toList)))
  | .lss=>some (.bool (Lh a.toList b.toList))
  | .leq=>some (.bool (Lh a.toList b.toList||a.toList==b.toList))
  | .gtr=>some (.bool (!(Lh a.toList b.toList||a.toList==b.toList)))
  | .geq=>some (.bool (!(Lh a.toList b.toList)))
  |_=>none
 |_,_=>none
def JUL(P:Program)(op:BinOp)(t:TypeId)(x y:Value):Option Value:=
 match x,y with
 | .bool a,.bool b=>
  match P.underlying t with
  |some .bool=>
   match op with
   | .eql=>some (.bool (a==b))
   | .neq=>some (.bool (!(a==b)))
   |_=>none
  |_=>none
 |x,y=>QQ op x y
def eqS(k:Nat)(x y:Value):Option Bool:=
 match k,x,y with
 |0,.bool a,.bool b=>some (a==b)
 |1,.int k a,.int k' b=>if k=k' then some (a==b)else none
 |2,.string a,.string b=>some (a.toList==b.toList)
 |_,_,_=>none
def eqCells:List Nat→List V→List V→Option Bool
 |[],[],[]=>some true
 |k::ks,.v x::l,.v y::m=>
  match eqS k x y,eqCells ks l m with
  |some a,some b=>some (a&&b)
  |_,_=>none
 |_,_,_=>none
def flatFs(f:TypeId→Option (List Nat)):List Field→Nat→Option (List Nat)
 |[],_=>some []
 |x::r,o=>
  if x.offset=o∧x.name≠ "_" then
   match f x.type with
   |some l=>match flatFs f r (o+l.length)with
    |some l'=>some (l++l')
    |none=>none
   |none=>none
  else none
def Ya(P:Program):Nat→TypeId→Option (List Nat)
 |0,_=>none
 |d+1,t=>
  match P.underlying t with
  |some .bool=>some [0]
  |some (.int _)=>some [1]
  |some .string=>some [2]
  |some (.array n e)=>
   match Ya P d e with
   |some l=>if JG P e=l.length then some (List.replicate n l).flatten else none
   |none=>none
  |some (.struct fs)=>if P.stoodInHeld t=false∧(fs.toList.all λf=>match Ya P d f.type with|some l=>JG P f.type==l.length|none=>false)then flatFs (Ya P d) fs.toList 0 else none
  |_=>none
def kC(P:Program)(t:TypeId):Option (List Nat):=if 20≤P.depth∧Q3 P t=some true then Ya P 20 t else none
def unS(op:UnOp)(x:Value):Option Value:=
 match op,x with
 | .neg,.int k n=>some (.int k (k.wrap (0-n)))
 | .not,.bool b=>some (.bool !b)
 |_,_=>none
def JJN(P:Program)(s d:TypeId)(x:V):Option V:=
 match P.underlying s,P.underlying d,x with
 |some (.int _),some (.int k),.v (.int _ n)=>some (.v (.int k (k.wrap n)))
 |some (.int _),some .string,.v (.int _ n)=>some (.v (.string (Utf8.encode n)))
 |some .string,some .string,.v (.string b)=>some (.v (.string b))
 |_,_,_=>none
def bytesOf:List (List V)→Option (List UInt8)
 |[]=>some []
 |[.v (.int .u8 n)]::l=>(bytesOf l).map λr=>Bh n.toNat::r
 |_=>none
def jS:List (List V)→Option (List Int)
 |[]=>some []
 |[.v (.int .i32 n)]::l=>(jS l).map λr=>n::r
 |_=>none
def idx:V→Option Int
 | .v (.int _ n)=>some n
 |_=>none
def yy(g:Jj)(o:Option Operand)(d:Nat):Option Nat:=
 match o with
 |none=>some d
 |some x=>match idx (opd g x)with
  |some n=>if 0≤n then some n.toNat else none
  |none=>none
def KB(P:Program)(t:TypeId)(cs:List V):Option V:=
 match Q3 P t with
 |some true=>if JG P t≤cs.length then some (.agg ((cs.take (JG P t)).map cp))else none
 |some false=>(cs[0]?).map cp
 |none=>none
def tagC(b o:Nat):V→V
 | .list .yes r=> .list (.cell b o) r
 |x=>cp x
def cellsOfOb(h:JC)(b:Nat):Option (List V):=
 match h[b]? with
 |some (.cells cs)=>some cs
 |_=>none
def Yv(P:Program)(h:JC)(t:TypeId)(a:V):Option V:=
 match a with
 | .ptr b o=>
  match cellsOfOb h b with
  |some cs=>match Q3 P t with
   |some true=>KB P t (cs.drop o)
   |some false=>(cs[o]?).map (tagC b o)
   |none=>none
  |none=>none
 | .rp cs=>KB P t cs
 |_=>none
def JZ(P:Program)(t:TypeId)(f:Nat):Option (Nat×TypeId):=(tfields P t)[f]?
def Wo:V→Bool
 | .v z=>z.oneCell'
 | .undef=>false
 | .any=>false
 | .tup _=>false
 |_=>true
def WO:V→Bool
 | .v z=>z.oneCell'
 | .undef=>false
 | .any=>false
 | .tup _=>false
 | .agg _=>false
 |_=>true
def Hb(off:Nat→Option (Nat×Nat)):List (Nat×V)→List V→Option (List V)
 |[],cs=>some cs
 |(i,x)::r,cs=>
  match off i with
  |some (o,n)=>if Wo x=true∧(cellsV x).length=n∧o+n≤cs.length then Hb off r (cs.take o++(cellsV x).map cp++cs.drop (o+n))else none
  |none=>none
def JV(P:Program)(vars:List Nat)(s:St):Op→Option V
 | .move x=>
  match x with
  | .tmp t=>match look s.1 t with
   | .list .yes r=>some (.list (if t∈vars then .slot t else .no) r)
   |y=>some (cps y)
  |x=>some (opd s.1 x)
 | .pick c a b=>
  match opd s.1 c with
  | .v (.bool x)=>some (if x then cps (opd s.1 a)else cps (opd s.1 b))
  |_=>none
 | .build t parts=>
  match K0 P t with
  |none=>none
  |some z=>
   match P.underlying t with
   |some (.struct _)=>if structOk P t then
    (Hb (λi=>(JZ P t i).map λp=>(p.1,JG P p.2)) (parts.toList.map λp=>(p.1,opd s.1 p.2)) (z.map KW)).map .agg else none
   |some (.array _ e)=>if(P.info? e).isSome then
    (Hb (λi=>some (i*JG P e,JG P e)) (parts.toList.map λp=>(p.1,opd s.1 p.2)) (z.map KW)).map .agg else none
   |_=>none
 | .load t a=>Yv P s.2 t (opd s.1 a)
 | .nilCheck x=>
  match opd s.1 x with
  | .ptr b o=>some (.ptr b o)
  | .rp cs=>some (.rp cs)
  | .fn f cs=>some (.fn f cs)
  |_=>none
 | .binOp op t x y _=>
  match opd s.1 x,opd s.1 y with
  | .v a,.v b=>(JUL P op t a b).map .v
  | .agg cs,.agg ds=>
   match kC P t with
   |some ks=>
    match op with
    | .eql=>(eqCells ks cs ds).map λr=> .v (.bool r)
    | .neq=>(eqCells ks cs ds).map λr=> .v (.bool !r)
    |_=>none
   |none=>none
  |_,_=>none
 | .unOp op _ x=>
  match opd s.1 x with
  | .v a=>(unS op a).map .v
  |_=>none
 | .convert a b x=>
  match opd s.1 x with
  | .v y=>JJN P a b (.v y)
  | .list _ rows=>
   if Ha P b then
    match P.underlying a with
    |some (.slice e)=>if qg P e then(bytesOf rows).map λl=> .v (.string ⟨l.toArray⟩)else if JBO P e then(jS rows).map λl=> .v (.string (runesBytes l))else none
    |_=>none
   else none
  | .buf i o n=>
   if Ha P b then
    match P.underlying a,cellsOfOb s.2 i with
    |some (.slice e),some cs=>if qg P e&&decide (o+n≤cs.length)then(bytesOf (((cs.drop o).take n).map λx=>[x])).map λl=> .v (.string ⟨l.toArray⟩)else none
    |_,_=>none
   else none
  |_=>none
 | .fieldAddr t x f=>
  match opd s.1 x,JZ P t f with
  | .ptr b o,some (k,u)=>if 0<JG P u then some (.ptr b (o+k))else none
  | .rp cs,some (k,u)=>if 0<JG P u∧k<cs.length then some (.rp (cs.drop k))else none
  |_,_=>none
 | .field t x f=>
  match opd s.1 x,JZ P t f with
  | .agg cs,some (k,u)=>KB P u (cs.drop k)
  |_,_=>none
 | .indexAddr t x i=>
  match opd s.1 x,idx (opd s.1 i),P.underlying t with
  | .list _ rows,some n,some (.slice e)=>
   if 0≤n then
    match rows[n.toNat]? with
    |some row=>if row.length=JG P e∧0<JG P e then some (.rp row)else none
    |none=>none
   else none
  | .buf b o m,some n,some (.slice e)=>if 0≤n∧n<m∧JG P e=1 then some (.ptr b (o+n.toNat))else none
  | .stk b m sz,some n,some (.slice e)=>if 0≤n∧n<m∧JG P e=sz∧0<sz then some (.ptr b (n.toNat*sz))else none
  | .ptr b o,some n,some (.array m e)=>if 0≤n∧n<m∧0<JG P e then some (.ptr b (o+n.toNat*JG P e))else none
  | .rp cs,some n,some (.array m e)=>if 0≤n∧n<m∧0<JG P e∧n.toNat*JG P e<cs.length then some (.rp (cs.drop (n.toNat*JG P e)))else none
  |_,_,_=>none
 | .index t x i=>
  match opd s.1 x,idx (opd s.1 i),P.underlying t with
  | .v (.string b),some n,some .string=>if 0≤n then(b.data[n.toNat]?).map λc=> .v (.int .u8 c.toNat)else none
  | .agg cs,some n,some (.array m e)=>
   if 0≤n∧n<m then
    KB P e (cs.drop (n.toNat*JG P e))
   else none
  |_,_,_=>none
 | .slice t x lo hi mx=>
  match mx,opd s.1 x,P.underlying t with
  |none,.v (.string b),some .string=>
   match yy s.1 hi b.size with
   |some h=>match yy s.1 lo 0 with
    |some l=>if l≤h∧h≤b.size then some (.v (.string (b.extract l h)))else none
    |none=>none
   |none=>none
  |none,.list _ rows,some (.slice e)=>
   match yy s.1 hi rows.length with
   |some h=>match yy s.1 lo 0 with
    |some l=>if l≤h∧h≤rows.length∧0<JG P e∧(rows.all λr=>r.length==JG P e)then some (.list .no ((rows.take h).drop l))else none
    |none=>none
   |none=>none
  |none,.stk b n sz,some (.slice e)=>
   match yy s.1 hi n with
   |some h=>match yy s.1 lo 0 with
    |some l=>if l=0∧h≤n∧JG P e=sz∧0<sz then some (.stk b h sz)else none
    |none=>none
   |none=>none
  |none,.ptr b o,some (.array n e)=>
   match yy s.1 hi n with
   |some h=>match yy s.1 lo 0 with
    |some l=>if l≤h∧h≤n∧l<n∧JG P e=1 then some (.buf b (o+l) (h-l))else none
    |none=>none
   |none=>none
  |_,_,_=>none
 | .extract x i=>
  match opd s.1 x with
  | .tup vs=>(vs[i]?).map cps
  |_=>none
 | .makeFunc fn first caps=>
  match fn with
  | .func f=>if((first.toList++caps.toList).all λc=>qf (opd s.1 c)&& !isU (opd s.1 c))=true then(if first.size=0 then some (.fn f (caps.toList.map λc=>cp (opd s.1 c)))else if caps.size=0 then some (.fn f (.undef::first.toList.map λc=>cp (opd s.1 c)))else none)else none
  |_=>none
 | .call c=>
  match c.callee with
  | .builtin .len=>
   match(c.args[0]?).map (opd s.1),(c.argTypes[0]?).bind P.underlying with
   |some (.list _ rows),some (.slice _)=>some (.v (.int .i64 rows.length))
   |some .nil,some (.slice _)=>some (.v (.int .i64 0))
   |some (.buf _ _ n),some (.slice _)=>some (.v (.int .i64 n))
   |some (.stk _ n _),some (.slice _)=>some (.v (.int .i64 n))
   |some (.v (.string b)),some .string=>some (.v (.int .i64 b.size))
   |_,_=>none
  | .builtin .min=>
   match c.args.toList.map (opd s.1)with
   |[.v (.int k x),.v (.int k' y)]=>if k=k' then some (.v (.int k (if y<x then y else x)))else none
   |_=>none
  | .builtin .max=>
   match c.args.toList.map (opd s.1)with
   |[.v (.int k x),.v (.int k' y)]=>if k=k' then some (.v (.int k (if y>x then y else x)))else none
   |_=>none
  |_=>none
 |_=>none
def Jk(g:Jj)(x:Operand):V×Jj:=
 match x with
 | .tmp t=>match look g t with
  | .list .yes r=>(.list .yes r,ins t (.list .no r) g)
  |y=>(cps y,g)
 |x=>(opd g x,g)
def setOb(h:JC)(b:Nat)(cs:List V):JC:=h.set b (.cells cs)
def QB:Op→Bool
 | .assign _=>true
 |_=>false
def isRow(P:Program)(a b:TypeId):Bool:=a==b&&match P.underlying a with
 |some (.slice e)=>qg P e
 |_=>false
def WP(P:Program):Op→Bool
 | .assign _=>true
 | .alloc _=>true
 | .box _ _=>true
 | .buildSlice _ _ _=>true
 | .store _ _ _=>true
 | .range _ _=>true
 | .next _ _=>true
 | .makeSlice _ _ _=>true
 | .convert a b _=>Ha P a||isRow P a b
 | .call c=>match c.callee with
  | .value _=>true
  | .builtin .append=>true
  |_=>false
 |_=>false
def KP(s:ByteArray):List (List V):=s.data.toList.map λc=>[.v (.int .u8 c.toNat)]
def QR(s:ByteArray):List V:=s.data.toList.map λc=> .v (.int .u8 c.toNat)
def Hc:TypeDesc→Bool
 | .slice _=>true
 | .string=>true
 |_=>false
def WY(P:Program)(e:TypeId):V→Option (List (List V))
 | .nil=>some []
 | .list _ r=>if r.all λx=>x.length==JG P e then some r else none
 | .v (.string s)=>if qg P e=true∧JG P e=1 then some (KP s)else none
 |_=>none
def GG(lo:Nat)(s:St)(x:Operand):Option (List (List V)×St):=
 match x with
 | .tmp t=>
  match look s.1 t with
  | .nil=>some ([],s)
  | .list .yes r=>some (r,(ins t (.list .no r) s.1,s.2))
  | .list (.slot u) r=>match look s.1 u with
   | .list .yes q=>some (r,(ins u (.list .no q) s.1,s.2))
   |_=>none
  | .list (.cell b o) r=>match cellsOfOb s.2 b with
   |some cs=>match cs[o]? with
    |some (.list .yes q)=>if lo≤b then some (r,(s.1,setOb s.2 b (cs.set o (.list .no q))))else none
    |_=>none
   |none=>none
  |_=>none
 | .const c=>match ofC c with
  | .nil=>some ([],s)
  |_=>none
 |_=>none
def JA1(s:St):Operand→Option (V×St)
 | .tmp t=>match look s.1 t with
  | .list .yes r=>if r.isEmpty then none else some (.list .no r,(untag (ins t (.list .no r) s.1),s.2))
  |_=>none
 |_=>none
abbrev GH:=Nat→Nat→List V→JC→Option (V×JC)
def Z2(call:GH)(lo:Nat)(s:St)(f:Operand)(args:List V):Option (V×St):=
 match opd s.1 f with
 | .fn f caps=>match call lo f (WW caps++(args.map fzs++WX caps)) s.2 with
  |some (r,h)=>some (r,(untagC s.1,h))
  |none=>none
 |_=>none
def Kd(P:Program)(call:GH)(lo:Nat)(mutc:Bool)(s:St):Op→Option (V×St)
 | .assign x=>some (own1 (Jk s.1 x).1,(untag (Jk s.1 x).2,s.2))
 | .alloc t=>
  match K0 P t with
  |some z=>if((z.map KW).all WO&&JBN t (z.map KW))then some (.ptr s.2.length 0,(s.1,s.2++[.cells ((z.map KW).map own1)]))else none
  |none=>none
 | .box t x=>if Wo (cps (opd s.1 x))&&((cellsV (cps (opd s.1 x))).all WO&&JBN t (cellsV (cps (opd s.1 x))))then some (.ptr s.2.length 0,(s.1,s.2++[.cells ((cellsV (cps (opd s.1 x))).map own1)]))else none
 | .buildSlice t n parts=>
  match P.underlying t with
  |some (.slice e)=>
   let rows:=parts.toList.map λp=>cellsV (fzs (opd s.1 p.2))
   if(parts.toList.map (·.1))=Bq n∧(K0 P e).isSome=true∧0<JG P e∧n*JG P e≤16777216∧(rows.all λr=>r.length==JG P e&&r.all jo)∧byT e [] rows=true then
    some (.list .yes rows,s)
   else none
  |_=>none
 | .store t a x=>
  match opd s.1 a with
  | .ptr b o=>
   match cellsOfOb s.2 b with
   |some cs=>
    let v:=(Jk s.1 x).1
    if lo≤b∧o+JG P t≤cs.length∧(cellsV v).length=JG P t∧(P.info? t).isSome∧((cellsV v).all WO&&JAt (cellsV v))=true∧(okv (b+1) v||Yu cs v)=true then
     match Kc v with
     | .agg ds=>some (.v undef,(untag (Jk s.1 x).2,setOb s.2 b (cs.take o++ds++cs.drop (o+JG P t))))
     |u=>some (.v undef,(untag (Jk s.1 x).2,setOb s.2 b (cs.set o u)))
    else none
   |none=>none
  |_=>none
 | .range t x=>
  match opd s.1 x,P.underlying t with
  | .v (.string b),some .string=>some (.ptr s.2.length 0,(s.1,s.2++[.iter b 0]))
  |_,_=>none
 | .next x str=>
  match opd s.1 x,str with
  | .ptr b 0,true=>
   match s.2[b]? with
   |some (.iter t pos)=>
    if lo≤b then
     if pos<t.size then some (.tup [.v (.bool true),.v (.int .i64 pos),.v (.int .i32 (Utf8.decode t pos).1)],(untag s.1,s.2.set b (.iter t (pos+(Utf8.decode t pos).2))))
     else some (.tup [.v (.bool false)],(untag s.1,s.2))
    else none
   |_=>none
  |_,_=>none
 | .convert a b x=>
  if isRow P a b then JA1 s x else
  match P.underlying a,P.underlying b,opd s.1 x with
  |some .string,some (.slice e),.v (.string y)=>
   if qg P e then
    if mutc then some (.buf s.2.length 0 y.size,(s.1,s.2++[.cells (QR y)]))
    else some (.list .no (KP y),s)
   else none
  |some .string,some .string,.v (.string y)=>some (.v (.string y),s)
  |_,_,_=>none
 | .call c=>
  match c.callee with
  | .value f=>Z2 call lo s f (c.args.toList.map (opd s.1))
  | .builtin .append=>
   match c.args.toList,c.argTypes.toList.map P.underlying with
   |[x,y],[some (.slice e),some u]=>
    match GG lo s x,WY P e (opd s.1 y)with
    |some (r,s'),some q=>
     if(K0 P e).map (·.length)=some (JG P e)∧0<JG P e∧(r.all λz=>z.length==JG P e)∧(r.length+q.length)*P.bytesOf e≤140737488355328∧r.length+q.length≤9223372036854775807∧Hc u=true∧byT e r q=true then
      some (.list .yes (r++q),(untag s'.1,s'.2))
     else none
    |_,_=>none
   |_,_=>none
  |_=>none
 |_=>none
def GJ(md:Option Nat→Nat)(d:Option Nat):Op→Bool
 | .makeSlice _ _ _=>true
 | .buildSlice _ _ _=>md d !=0
 | .store _ _ _=>md none==3||md none==4
 | .alloc _=>md d==4
 | .call c=>match c.callee with
  | .builtin .append=>md d==1
  |_=>false
 |_=>false
def Wp:Nat→List V→List V
 |0,_=>[]
 |n+1,z=>z++Wp n z
def Hd(v:V):Bool:=HZ v&& !QK v
def JDR(i:Nat)(v:V):Bool:=avf i v&& !QK v
def Qb(v:V):V:=own1 (cp v)
def JLQ(P:Program)(base lo:Nat)(s:St)(x:Operand)(e:TypeId)(q:List (List V))(sz:Nat):V→Option (V×St)
 | .stk i n z=>
  match cellsOfOb s.2 i with
  |some cs=>if base≤i∧z=sz∧n*sz≤cs.length∧((cs.take (n*sz)).all (JDR i)&&q.flatten.all Hd)=true∧(n+q.length)*P.bytesOf e≤140737488355328∧n+q.length≤9223372036854775807 then
    some (.stk i (n+q.length) sz,(kilE i (untag s.1),(y9 base i s.2).set i (.cells (cs.take (n*sz)++q.flatten.map Qb))))else none
  |none=>none
 |_=>
  match GG lo s x with
  |some ([],s')=>if q.flatten.all Hd=true∧0<q.length∧q.length*P.bytesOf e≤140737488355328∧q.length≤9223372036854775807 then
    some (.stk s'.2.length q.length sz,(untag s'.1,s'.2++[.cells (q.flatten.map Qb)]))else none
  |_=>none
def Zh(P:Program)(base lo md:Nat)(s:St):Op→Option (V×St)
 | .makeSlice t n k=>
  match idx (opd s.1 n),idx (opd s.1 k),P.underlying t with
  |some a,some b,some (.slice e)=>
   match K0 P e with
   |some z=>if 0≤a∧a=b∧z.length=JG P e∧0<JG P e∧a.toNat*P.bytesOf e≤140737488355328∧a≤9223372036854775807∧(z.map KW).all Hd=true then
     some (.stk s.2.length a.toNat (JG P e),(s.1,s.2++[.cells (Wp a.toNat ((z.map KW).map own1))]))else none
   |none=>none
  |_,_,_=>none
 | .buildSlice t n parts=>
  match P.underlying t with
  |some (.slice e)=>
   let rows:=parts.toList.map λp=>cellsV (cps (opd s.1 p.2))
   if(parts.toList.map (·.1))=Bq n∧(K0 P e).isSome=true∧0<JG P e∧n*JG P e≤16777216∧(rows.all λr=>r.length==JG P e&&r.all HZ)∧byT e [] rows=true then
    if md=2 then some (.list .yes rows,s)
    else if rows.flatten.all Hd=true then some (.stk s.2.length n (JG P e),(s.1,s.2++[.cells (rows.flatten.map own1)]))else none
   else none
  |_=>none
 | .alloc t=>
  match K0 P t with
  |some z=>if((z.map KW).all WO&&JBN t (z.map KW))then some (.ptr s.2.length 0,(s.1,s.2++[.cells (z.map KW)]))else none
  |none=>none
 | .store t a x=>
  match opd s.1 a with
  | .ptr b o=>
   match cellsOfOb s.2 b with
   |some cs=>
    if md=4 then
     let v:=(Jk s.1 x).1
     if lo≤b∧o+JG P t≤cs.length∧(cellsV v).length=JG P t∧(P.info? t).isSome∧((cellsV v).all WO&&JAt (cellsV v))=true∧(decide (base≤b)||(okv (b+1) v||Yu cs v))=true then
      some (.v undef,(untag (Jk s.1 x).2,setOb s.2 b (cs.take o++cellsV v++cs.drop (o+JG P t))))
     else none
    else
    let v:=(Jk s.1 x).1
    if lo≤b∧o+JG P t≤cs.length∧(cellsV v).length=JG P t∧(P.info? t).isSome∧((cellsV v).all WO&&JAt (cellsV v))=true∧(decide (base≤b)||(okv (b+1) v||Yu cs v))=true then
     match Kc v with
     | .agg ds=>some (.v undef,(untag (Jk s.1 x).2,setOb s.2 b (cs.take o++ds++cs.drop (o+JG P t))))
     |u=>some (.v undef,(untag (Jk s.1 x).2,setOb s.2 b (cs.set o u)))
    else none
   |none=>none
  |_=>none
 | .call c=>
  match c.args.toList,c.argTypes.toList.map P.underlying with
  |[x,y],[some (.slice e),some u]=>
   match WY P e (opd s.1 y)with
   |some q=>
    if(K0 P e).map (·.length)=some (JG P e)∧0<JG P e∧Hc u=true then
     JLQ P base lo s x e q (JG P e) (opd s.1 x)
    else none
   |none=>none
  |_,_=>none
 |_=>none
def want(ops:Array Oper)(g:Jj)(o:Oper):Option Bool:=
 match o.guard with
 |none=>some true
 |some (j,b)=>
  match(ops[j]?).bind (·.dst)with
  |some t=>match look g t with
   | .v (.bool x)=>some (x==b)
   | .v (.tuple _)=>some false
   |_=>none
  |none=>some false
inductive Tr where
 |fin
 |finS (i:Nat)
 |finL (l:List Nat)
 |head (k:Nat) (t:Tr)
 |one (k:Nat) (t:Tr)
 |alt (a b:Tr)
 |two (k:Nat)
 deriving Inhabited
structure Mix where
 heads:List Nat
 takes:List Nat
 tree:Tr
 deriving Inhabited
structure Hint where
 live:Nat→Option (List Nat)
 keep:Nat→Option Nat
 tail:Nat→Option Nat
 vars:List Nat
 mutc:Bool
 mix:Nat→Option Mix
 mode:Option Nat→Nat:=λ_=>0
 ret:Nat:=0
 rawr:Bool:=false
 late:Nat→Option Nat:=λ_=>none
 deriving Inhabited
structure Cx where
 P:Program
 call:GH
 lo:Nat
 base:Nat
 hint:Hint
def Wq(c:Cx)(s:St)(o:Oper):Option (V×St):=
 if GJ c.hint.mode o.dst o.op then Zh c.P c.base c.lo (c.hint.mode o.dst) s o.op else
 if WP c.P o.op then Kd c.P c.call c.lo c.hint.mutc s o.op else(JV c.P c.hint.vars s o.op).map λv=>(v,s)
def KQ(c:Cx)(ops:Array Oper):List Oper→St→Option St
 |[],s=>some s
 |o::r,s=>
  match want ops s.1 o with
  |some true=>match Wq c s o with
   |some (v,g,h)=>KQ c ops r (put o.dst v g,h)
   |none=>none
  |some false=>if QB o.op then none else KQ c ops r (put o.dst (.v undef) s.1,s.2)
  |none=>none
def JAM(n:Nat):Option (V×JC)→Option V
 |some (v,h)=>if h.length=n then some v else none
 |none=>none
def Kn(c:Cx)(s:St)(o:Oper):Option V:=
 if WP c.P o.op then
  match o.op with
  | .call d=>match d.callee with
   | .value f=>match opd s.1 f with
    | .fn f caps=>JAM s.2.length (c.call s.2.length f (WW caps++((d.args.toList.map (opd s.1)).map fzs++WX caps)) s.2)
    |_=>none
   |_=>none
  | .convert a b x=>if c.hint.mutc||isRow c.P a b then none else(Kd c.P c.call c.lo false s (.convert a b x)).map (·.1)
  | .buildSlice t n parts=>(Kd c.P c.call c.lo false s (.buildSlice t n parts)).map (·.1)
  |_=>none
 else JV c.P c.hint.vars s o.op
def Ju(c:Cx)(ops:Array Oper):List Oper→St→Option St
 |[],s=>some s
 |o::r,s=>
  match want ops s.1 o with
  |some true=>match Kn c s o with
   |some v=>Ju c ops r (put o.dst v s.1,s.2)
   |none=>none
  |some false=>if QB o.op then none else Ju c ops r (put o.dst (.v undef) s.1,s.2)
  |none=>none
def JYR(P:Program):Op→Bool
 | .call c=>match c.callee with
  | .value _=>true
  | .builtin .append=>false
  |_=>true
 | .convert _ _ _=>true
 |o=> !WP P o
def Jn(P:Program)(h:Hint)(id:Nat)(ops:Array Oper):Nat:=
 match h.tail id with
 |some n=>n
 |none=>(ops.toList.findIdx? λo=> !JYR P o.op).getD ops.size
def jT(P:Program)(h:Hint)(id:Nat)(ops:Array Oper):Bool:=
 if Jn P h id ops=ops.size then Region.lexB .any ops else Region.lexTailB .any ops (Jn P h id ops)
def behind(ops:Array Oper)(k:Nat):List Nat:=
 (Bq ops.size).foldl (λacc j=>match ops[j]? with
  |some o=>if o.after.any (λe=>Region.binds .any e&&(e.on==k||acc.contains e.on))then j::acc else acc
  |none=>acc) []
def Tr.firsts:Tr→List Nat
 | .one k _=>[k]
 | .alt a b=>a.firsts++b.firsts
 |_=>[]
def jU:Op→Bool
 | .move _=>true
 | .pick _ _ _=>true
 | .build _ _=>true
 | .load _ _=>true
 | .nilCheck _=>true
 | .binOp _ _ _ _ _=>true
 | .unOp _ _ _=>true
 | .fieldAddr _ _ _=>true
 | .field _ _ _=>true
 | .indexAddr _ _ _=>true
 | .index _ _ _=>true
 | .slice _ _ _ _ _=>true
 | .extract _ _=>true
 | .call c=>match c.callee with
  | .builtin .len=>true
  |_=>false
 |_=>false
def JA2:Op→Bool
 | .alloc _=>true
 | .makeSlice _ _ _=>true
 |_=>false
def JBP(mx:Mix)(ops:Array Oper)(listed:Array Bool)(k:Nat):Bool:=
 match ops[k]? with
 |none=>false
 |some o=>mx.heads.contains k&&(Bq ops.size).all λj=>j==k||listed.getD j true||(behind ops k).contains j||match ops[j]? with
   |some oj=>(mx.heads.contains j||(!mx.takes.contains j&&jU o.op&&JA2 oj.op))&&o.apart ops oj
   |none=>true
def twoB(ops:Array Oper)(k m:Nat):Nat→Nat→Nat→Array Bool→Bool
 |0,p,j,listed=>p==2&&j==m&&(Region.ready .any ops listed).isEmpty
 |f+1,p,j,listed=> !(Region.ready .any ops listed).isEmpty&&(Region.ready .any ops listed).all (λi=>(i==k+1+p&&decide (p<2))||(i==k+3+j&&decide (j<m)))&&
   (decide (2≤p)||twoB ops k m f (p+1) j (listed.setIfInBounds (k+1+p) true))&&(decide (m≤j)||twoB ops k m f p (j+1) (listed.setIfInBounds (k+3+j) true))
def JDl(mx:Mix)(ops:Array Oper)(k n:Nat)(listed:Array Bool):Bool:=
 (Region.ready .any ops listed==[k])&& !mx.heads.contains k&&(match ops[k]? with|some o=> !JA2 o.op|none=>false)&&decide (k+3≤ops.size)&&n==ops.size-k&&
  (match ops[k+1]? with|some o1=>(match o1.dst with|some d1=>(ops.toList.drop (k+3)).all λo=>o.dst !=some d1|none=>false)|none=>false)&&
  twoB ops k (ops.size-(k+3)) (ops.size-(k+1)) 0 0 (listed.setIfInBounds k true)
def YB(mx:Mix)(ops:Array Oper):Tr→Nat→Bool→Array Bool→Bool
 | .fin,n,top,listed=>top&&n==0&&(Region.ready .any ops listed).isEmpty
 | .finS _,n,top,listed=>top&&n==0&&(Region.ready .any ops listed).isEmpty
 | .finL _,n,top,listed=>top&&n==0&&(Region.ready .any ops listed).isEmpty
 | .head k t,n,top,listed=>match n with
  |0=>false
  |n+1=>top&&(Region.ready .any ops listed).contains k&&JBP mx ops listed k&&YB mx ops t n true (listed.setIfInBounds k true)
 | .one k t,n,top,listed=>match n with
  |0=>false
  |n+1=>(!top||(!(Region.ready .any ops listed).isEmpty&&(Region.ready .any ops listed).all (· ==k)))&&YB mx ops t n true (listed.setIfInBounds k true)
 | .alt a b,n,top,listed=>(!top||(!(Region.ready .any ops listed).isEmpty&&(Region.ready .any ops listed).all λk=>(a.firsts++b.firsts).contains k))&&YB mx ops a n false listed&&YB mx ops b n false listed
 | .two k,n,top,listed=>top&&JDl mx ops k n listed
def JBQ(P:Program)(h:Hint)(id:Nat)(ops:Array Oper):Bool:=
 match h.mix id with
 |none=>jT P h id ops
 |some mx=>Region.noSelect ops&&YB mx ops mx.tree ops.size true (Array.replicate ops.size false)
def JQK(h:Hint)(nt:Nat)(o:Oper):Bool:=
 match o.dst with
 |none=>true
 |some t=>decide (t<nt)&&(QB o.op|| !h.vars.contains t)
def codeOk(P:Program)(h:Hint)(nt:Nat):Code→Bool
 | .region id ops draw=>ops.toList.all (JQK h nt)&&(!draw||JBQ P h id ops)
 | .seq a b=>codeOk P h nt a&&codeOk P h nt b
 | .cond _ a b=>codeOk P h nt a&&codeOk P h nt b
 | .block _ a=>codeOk P h nt a
 | .loop a=>codeOk P h nt a
 | .scope a=>codeOk P h nt a
 |_=>true
def Gg(c:Cx)(id:Nat)(ops:Array Oper)(s:St):Option St:=
 match Ju c ops (ops.toList.take (Jn c.P c.hint id ops)) s with
 |some s'=>KQ c ops (ops.toList.drop (Jn c.P c.hint id ops)) s'
 |none=>none
def lives(l:Option (List Nat))(g:Jj):Jj:=
 match l with
 |some ts=>ts.map λt=>(t,look g t)
 |none=>g
def JG1(c:Cx)(s:St)(o:Oper):Option St:=
 match o.dst with
 |some t=>match JV c.P c.hint.vars s o.op with
  |some v=>match GG c.lo (put (some t) v s.1,s.2) (.tmp t)with
   |some (r,g,h)=>some (put (some t) (.list .yes r) (untag g),h)
   |none=>none
  |none=>none
 |none=>none
def QV(c:Cx)(mx:Mix)(ops:Array Oper)(k:Nat)(s:St):Option St:=
 match ops[k]? with
 |none=>none
 |some o=>
  if mx.heads.contains k then Ju c ops [o] s
  else if mx.takes.contains k then(if o.guard.isNone&& !WP c.P o.op then JG1 c s o else none)
  else KQ c ops [o] s
def JOR:Value→Nat
 | .bool _=>0
 | .int _ _=>1
 | .string _=>2
 |_=>3
open Classical in
noncomputable def Zi:Value→Value→Bool
 | .bool a,.bool b=>a==b
 | .int k a,.int j b=>decide (k=j)&&decide (a=b)
 | .string s,.string t=>decide (s.data.toList=t.data.toList)
 | .pointer none,.pointer none=>true
 | .slice none 0 0,.slice none 0 0=>true
 | .map none,.map none=>true
 | .nilFunc,.nilFunc=>true
 | .nilIface,.nilIface=>true
 |x,y=>if JOR x=3∧JOR y=3 then decide (x=y)else false
theorem JBR{x y:Value}(h:Zi x y=true):x=y:=by
 unfold Zi at h
 split at h
 ·rw[beq_iff_eq]at h;rw[h]
 ·simp only[Af,decide_eq_true_eq]at h;rw[h.1,h.2]
 ·rename_i s t
  rw[decide_eq_true_eq]at h;obtain⟨⟨a⟩⟩:=s;obtain⟨⟨b⟩⟩:=t;simp only at h;rw[h]
 ·rfl
 ·rfl
 ·rfl
 ·rfl
 ·rfl
 ·split at h
  ·exact @of_decide_eq_true _ (Classical.propDecidable _) h
  ·cases h
open Classical in
theorem JBS(x:Value):Zi x x=true:=by
 cases x with
 |bool b=>simp[Zi]
 |int k n=>simp only[Zi];simp
 |string s=>simp only[Zi];simp
 |pointer a=>cases a<;>simp[Zi,JOR]
 |map a=>cases a<;>simp[Zi,JOR]
 |slice a l c=>
  unfold Zi
  split<;>first|rfl|simp_all [JOR]
 |_=>simp[Zi,JOR]
mutual
noncomputable def qj:V→V→Bool
 | .v x,u=>match u with| .v y=>Zi x y|_=>false
 | .nil,u=>match u with| .nil=>true|_=>false
 | .list k r,u=>match u with| .list j q=>decide (k=j)&&JLR r q|_=>false
 | .ptr b o,u=>match u with| .ptr c p=>b==c&&o==p|_=>false
 | .rp a,u=>match u with| .rp b=>JAu a b|_=>false
 | .buf b o n,u=>match u with| .buf c p m=>b==c&&(o==p&&n==m)|_=>false
 | .stk b o n,u=>match u with| .stk c p m=>b==c&&(o==p&&n==m)|_=>false
 | .mp b,u=>match u with| .mp c=>b==c|_=>false
 | .agg a,u=>match u with| .agg b=>JAu a b|_=>false
 | .tup a,u=>match u with| .tup b=>JAu a b|_=>false
 | .fn f a,u=>match u with| .fn g b=>f==g&&JAu a b|_=>false
 | .undef,u=>match u with| .undef=>true|_=>false
 | .any,u=>match u with| .any=>true|_=>false
noncomputable def JAu:List V→List V→Bool
 |[],u=>match u with|[]=>true|_=>false
 |v::r,u=>match u with|w::q=>qj v w&&JAu r q|_=>false
noncomputable def JLR:List (List V)→List (List V)→Bool
 |[],u=>match u with|[]=>true|_=>false
 |v::r,u=>match u with|w::q=>JAu v w&&JLR r q|_=>false
end
mutual
theorem JLS:∀(v u:V),qj v u=true→v=u
 | .v x,u,h=>by cases u<;>simp only[qj]at h<;>first|(rw[JBR h])|cases h
 | .nil,u,h=>by cases u<;>simp only[qj]at h<;>first|rfl|cases h
 | .list k r,u,h=>by
  cases u<;>simp only[qj]at h<;>try cases h
  simp only[Af,decide_eq_true_eq]at h
  rw[h.1,JNA r _ h.2]
 | .ptr b o,u,h=>by
  cases u<;>simp only[qj]at h<;>try cases h
  simp only[Af,beq_iff_eq]at h
  rw[h.1,h.2]
 | .rp a,u,h=>by
  cases u<;>simp only[qj]at h<;>try cases h
  rw[Gh a _ h]
 | .buf b o n,u,h=>by
  cases u<;>simp only[qj]at h<;>try cases h
  simp only[Af,beq_iff_eq]at h
  rw[h.1,h.2.1,h.2.2]
 | .stk b o n,u,h=>by
  cases u<;>simp only[qj]at h<;>try cases h
  simp only[Af,beq_iff_eq]at h
  rw[h.1,h.2.1,h.2.2]
 | .mp b,u,h=>by
  cases u<;>simp only[qj]at h<;>try cases h
  simp only[beq_iff_eq]at h
  rw[h]
 | .agg a,u,h=>by
  cases u<;>simp only[qj]at h<;>try cases h
  rw[Gh a _ h]
 | .tup a,u,h=>by
  cases u<;>simp only[qj]at h<;>try cases h
  rw[Gh a _ h]
 | .fn f a,u,h=>by
  cases u<;>simp only[qj]at h<;>try cases h
  simp only[Af,beq_iff_eq]at h
  rw[h.1,Gh a _ h.2]
 | .undef,u,h=>by cases u<;>simp only[qj]at h<;>first|rfl|cases h
 | .any,u,h=>by cases u<;>simp only[qj]at h<;>first|rfl|cases h
theorem Gh:∀(v u:List V),JAu v u=true→v=u
 |[],u,h=>by cases u<;>simp only[JAu]at h<;>first|rfl|cases h
 |v::r,u,h=>by
  cases u<;>simp only[JAu]at h<;>try cases h
  simp only[Af]at h;rw[JLS v _ h.1,Gh r _ h.2]
theorem JNA:∀(v u:List (List V)),JLR v u=true→v=u
 |[],u,h=>by cases u<;>simp only[JLR]at h<;>first|rfl|cases h
 |v::r,u,h=>by
  cases u<;>simp only[JLR]at h<;>try cases h
  simp only[Af]at h;rw[Gh v _ h.1,JNA r _ h.2]
end
noncomputable def JBT:List (Value×Value)→List (Value×Value)→Bool
 |[],u=>match u with|[]=>true|_=>false
 |v::r,u=>match u with|w::q=>Zi v.1 w.1&&(Zi v.2 w.2&&JBT r q)|_=>false
theorem JJO:∀(v u:List (Value×Value)),JBT v u=true→v=u
 |[],u,h=>by cases u<;>simp only[JBT]at h<;>first|rfl|cases h
 |(k,x)::r,u,h=>by
  cases u<;>simp only[JBT]at h<;>try cases h
  rename_i w q;simp only[Af]at h;obtain⟨j,y⟩:=w;rw[show k=j from JBR h.1,show x=y from JBR h.2.1,JJO r _ h.2.2]
theorem JBU:∀v:List (Value×Value),JBT v v=true
 |[]=>rfl
 |v::r=>by simp only[JBT,JBS,JBU r,B3]
noncomputable def JQL:Ob→Ob→Bool
 | .cells a,.cells b=>JAu a b
 | .iter s p,.iter t q=>decide (s.data.toList=t.data.toList)&&p==q
 | .tab a,.tab b=>JBT a b
 |_,_=>false
theorem JUM{a b:Ob}(h:JQL a b=true):a=b:=by
 unfold JQL at h
 split at h
 ·rw[Gh _ _ h]
 ·rename_i s p t q
  simp only[Af,decide_eq_true_eq,beq_iff_eq]at h;obtain⟨⟨a⟩⟩:=s;obtain⟨⟨b⟩⟩:=t;have h1:=h.1;simp only at h1;rw[h1,h.2]
 ·rw[JJO _ _ h]
 ·cases h
noncomputable def heq:JC→JC→Bool
 |[],u=>match u with|[]=>true|_=>false
 |v::r,u=>match u with|w::q=>JQL v w&&heq r q|_=>false
theorem JLT:∀(v u:JC),heq v u=true→v=u
 |[],u,h=>by cases u<;>simp only[heq]at h<;>first|rfl|cases h
 |v::r,u,h=>by
  cases u<;>simp only[heq]at h<;>try cases h
  simp only[Af]at h;rw[JUM h.1,JLT r _ h.2]
noncomputable def JBV:Jj→Jj→Bool
 |[],u=>match u with|[]=>true|_=>false
 |v::r,u=>match u with|w::q=>v.1==w.1&&(qj v.2 w.2&&JBV r q)|_=>false
theorem JJP:∀(v u:Jj),JBV v u=true→v=u
 |[],u,h=>by cases u<;>simp only[JBV]at h<;>first|rfl|cases h
 |(k,v)::r,u,h=>by
  cases u<;>simp only[JBV]at h<;>try cases h
  rename_i w q;simp only[Af,beq_iff_eq]at h;obtain⟨j,w⟩:=w;rw[show k=j from h.1,JLS v w h.2.1,JJP r _ h.2.2]
mutual
theorem JBW:∀v:V,qj v v=true
 | .v x=>by simp only[qj];exact JBS x
 | .nil=>rfl
 | .list k r=>by simp only[qj,JDm r,Bool.and_true,decide_eq_true_eq]
 | .ptr b o=>by simp[qj]
 | .rp a=>by simp only[qj];exact Ws a
 | .buf b o n=>by simp[qj]
 | .stk b o n=>by simp[qj]
 | .mp b=>by simp[qj]
 | .agg a=>by simp only[qj];exact Ws a
 | .tup a=>by simp only[qj];exact Ws a
 | .fn f a=>by simp[qj,Ws a]
 | .undef=>rfl
 | .any=>rfl
theorem Ws:∀v:List V,JAu v v=true
 |[]=>rfl
 |v::r=>by simp only[JAu,JBW v,Ws r,B3]
theorem JDm:∀v:List (List V),JLR v v=true
 |[]=>rfl
 |v::r=>by simp only[JLR,Ws v,JDm r,B3]
end
theorem JOS(a:Ob):JQL a a=true:=by
 cases a with
 |cells a=>exact Ws a
 |iter s p=>simp[JQL]
 |tab a=>exact JBU a
theorem qk:∀h:JC,heq h h=true
 |[]=>rfl
 |v::r=>by simp only[heq,JOS v,qk r,B3]
theorem JBX:∀g:Jj,JBV g g=true
 |[]=>rfl
 |(k,v)::r=>by simp only[JBV,JBW v,JBX r,B3,beq_self_eq_true]
def qm:V→Bool
 | .v (.bool _)=>true
 | .any=>true
 |_=>false
noncomputable def JBY(v u:V):V:=if qj v u=true then v else if qm v=true∧qm u=true then .any else .undef
noncomputable def YC:Jj→Jj→Option Jj
 |[],[]=>some []
 |(k,v)::r,(j,u)::q=>if k=j then(YC r q).map ((k,JBY v u):: ·)else none
 |_,_=>none
noncomputable def jp:Option St→Option St→Option St
 |some x,some y=>if heq x.2 y.2=true then(YC x.1 y.1).map λg=>(g,x.2)else none
 |_,_=>none
def okO(n:Nat):Ob→Bool
 | .cells cs=>cs.all (okv n)
 |_=>true
def sw(j i:Nat):Nat:=if i=j then j+1 else if i=j+1 then j else i
def swc(j:Nat):V→V
 | .ptr b o=> .ptr (sw j b) o
 | .buf b o n=> .buf (sw j b) o n
 | .stk b n z=> .stk (sw j b) n z
 | .mp b=> .mp (sw j b)
 |x=>x
def swf(j:Nat):V→V
 | .fn f cs=> .fn f (cs.map (swc j))
 |x=>swc j x
def swv(j:Nat):V→V
 | .agg cs=> .agg (cs.map (swf j))
 |x=>swf j x
def swr(j:Nat):V→V
 | .tup vs=> .tup (vs.map (swv j))
 |x=>swv j x
def swE(j:Nat)(g:Jj):Jj:=g.map λp=>(p.1,swr j p.2)
def swO(j:Nat):Ob→Ob
 | .cells cs=> .cells (cs.map (swf j))
 |o=>o
def zA{α:Type}(j:Nat)(l:List α):List α:=match l[j]?,l[j+1]? with
 |some x,some y=>(l.set j y).set (j+1) x
 |_,_=>l
def swS(base i:Nat)(s:St):Option St:=if base+i+1<s.2.length then some (swE (base+i) s.1,s.2.take base++zA i ((s.2.drop base).map (swO (base+i))))else none
def JBa(base n:Nat)(s:St):Option St:=
 if(s.1.all λp=>okv (base+n) p.2)&&((s.2.drop base).take n).all (okO (base+n))then
  some (s.1,s.2.take (base+n))
 else none
def JNB(base:Nat)(s:St):V→Option St
 | .ptr b 0=>if base≤b∧b+2=s.2.length then swS base (b-base) s else some s
 |_=>some s
def Wk(base:Nat)(k:Option Nat)(s:St):Option St:=
 match k with
 |none=>some s
 |some n=>if n<1000 then JBa base n s else if n<2000 then JBa base ((s.2.drop base).length-(n-1000)) s else JNB base s (look s.1 (n-2000))
def Yb(P:Program)(lo base u nn ex:Nat):List Oper→St→Option St
 |[],_=>none
 |[o],s=>match o.op,o.guard,o.dst with
  | .store t p (.tmp u'),none,none=>match opd s.1 p,look s.1 u with
   | .ptr i off,.list .yes r=>match cellsOfOb s.2 i with
    |some cs=>if u'=u∧lo≤i∧off+1≤cs.length∧JG P t=1∧(P.info? t).isSome∧JAt [V.list .yes r]=true then
      some (untag (ins u (.list .no r) s.1),setOb s.2 i (cs.take off++[.list .yes r]++cs.drop (off+1)))else none
    |none=>none
   |_,_=>none
  |_,_,_=>none
 |o::q::l,s=>match o.op,o.guard,o.dst with
  | .indexAddr t x i,none,some d=>match opd s.1 x with
   | .stk _ _ _=>if d≠u∧d≠nn∧d≠ex then match JV P [] s (.indexAddr t x i)with
     |some v=>Yb P lo base u nn ex (q::l) (ins d v s.1,s.2)
     |none=>none else none
   |_=>none
  | .fieldAddr t x f,none,some d=>match opd s.1 x with
   | .ptr _ _=>if d≠u∧d≠nn∧d≠ex then match JV P [] s (.fieldAddr t x f)with
     |some v=>Yb P lo base u nn ex (q::l) (ins d v s.1,s.2)
     |none=>none else none
   |_=>none
  | .nilCheck x,none,some d=>match opd s.1 x with
   | .ptr i o=>if d≠u∧d≠nn∧d≠ex then Yb P lo base u nn ex (q::l) (ins d (.ptr i o) s.1,s.2)else none
   |_=>none
  |_,_,_=>none
def evLate1(P:Program)(lo base:Nat)(live:Option (List Nat))(keep:Option Nat)(k:Nat)(ops:Array Oper)(ops':Array Oper)(s1:St):Option St:=
 match ops[k]?,ops'.toList with
 |some o,[o1,o2]=>
  match o.op,o.dst,o1.op,o1.dst,o2.op with
  | .call cl,some u,.indexAddr tt (.tmp u1) (.tmp nn),some d1,.store t2 (.tmp d2) (.tmp ex)=>
   match cl.callee,cl.args.toList,cl.argTypes.toList.map P.underlying,P.underlying tt with
   | .builtin .append,[x,y],[some (.slice e),some du],some (.slice e')=>
    if u1=u∧d2=d1∧e'=e∧d1≠ex∧d1≠u∧d1≠nn∧u≠nn∧u≠ex∧o.guard.isNone=true∧o1.guard.isNone=true∧o2.guard.isNone=true∧o2.dst.isNone=true∧JG P t2=JG P e∧(P.info? t2).isSome∧(P.info? e).isSome∧k<ops.size then
     match GG lo s1 x,WY P e (opd s1.1 y),look s1.1 nn with
     |some (r,g1,h1),some [z],.v (.int _ n)=>
      if n=r.length∧Wo (look s1.1 ex)=true∧(cellsV (fzs (look s1.1 ex))).length=JG P e∧(cellsV (fzs (look s1.1 ex))).all jo=true∧(cellsV (look s1.1 ex)).all WO=true∧(K0 P e).map (·.length)=some (JG P e)∧0<JG P e∧(r.all λz=>z.length==JG P e)=true∧
        (r.length+1)*P.bytesOf e≤140737488355328∧r.length+1≤9223372036854775807∧Hc du=true∧byT e r [cellsV (fzs (look s1.1 ex))]=true then
       match Yb P lo base u nn ex (ops.toList.drop (k+1)) (ins d1 .undef (ins u (.list .yes (r++[cellsV (fzs (look s1.1 ex))])) (untag g1)),h1)with
       |some s2=>Wk base keep (untag (lives live (ins d1 .undef s2.1)),s2.2)
       |none=>none
      else none
     |_,_,_=>none
    else none
   |_,_,_,_=>none
  |_,_,_,_,_=>none
 |_,_=>none
noncomputable def JBb(P:Program)(lo base k:Nat)(ops:Array Oper)(s:St):Option St:=
 match ops.toList.drop (k+1)with
 |o1::o2::mid=>evLate1 P lo base none none k (ops.toList.take (k+1)++mid).toArray #[o1,o2] s
 |_=>none
def JJQ(base:Nat):List Nat→St→Option St
 |[],s=>some s
 |i::l,s=>match swS base i s with
  |some s'=>JJQ base l s'
  |none=>none
def JBc(base:Nat)(live:Option (List Nat))(k:Option Nat)(sw:List Nat)(s:St):Option St:=match JJQ base sw (untag (lives live s.1),s.2)with
 |some s'=>Wk base k s'
 |none=>none
noncomputable def GK(c:Cx)(mx:Mix)(id:Nat)(ops:Array Oper):Tr→St→Option St
 | .fin,s=>JBc c.base (c.hint.live id) (c.hint.keep id) [] s
 | .finS i,s=>JBc c.base (c.hint.live id) (c.hint.keep id) [i] s
 | .finL l,s=>JBc c.base (c.hint.live id) (c.hint.keep id) l s
 | .head k t,s=>match QV c mx ops k s with
  |some s1=>GK c mx id ops t s1
  |none=>none
 | .one k t,s=>match QV c mx ops k s with
  |some s1=>GK c mx id ops t s1
  |none=>none
 | .alt a b,s=>jp (GK c mx id ops a s) (GK c mx id ops b s)
 | .two k,s=>match JBb c.P c.lo c.base k ops s with
  |some s1=>JBc c.base (c.hint.live id) (c.hint.keep id) [] s1
  |none=>none
noncomputable def YQ(c:Cx)(id:Nat)(ops:Array Oper)(s:St):Option St:=
 match c.hint.mix id with
 |none=>Gg c id ops s
 |some mx=>GK c mx id ops mx.tree s
def once(m:Option Mix)(draw:Bool)(k:Option Nat):Option Nat:=
 match k with
 |none=>none
 |some n=>if(draw&&m.isSome&&decide (1000≤n)&&decide (n<2000))=true then none else some n
def JjJ:V→Bool
 | .list .yes _=>false
 |_=>true
def kD(c:Cx)(ops:Array Oper)(s:St):Option Nat→Option St
 |none=>KQ c ops ops.toList s
 |some _=>none
noncomputable def Kj(c:Cx)(id:Nat)(ops:Array Oper)(draw:Bool)(s:St):Option St:=
 match(if draw then YQ c id ops s else kD c ops s (c.hint.tail id))with
 |some s'=>Wk c.base (once (c.hint.mix id) draw (c.hint.keep id)) (untag (lives (c.hint.live id) s'.1),s'.2)
 |none=>none
noncomputable def YR(c:Cx)(k:Nat)(ops:Array Oper)(id':Nat)(ops':Array Oper)(s:St):Option St:=
 match Ju c ops (ops.toList.take k) s with
 |some s1=>evLate1 c.P c.lo c.base (c.hint.live id') (c.hint.keep id') k ops ops' s1
 |none=>none
def Z3(P:Program)(hint:Hint):Code→Option (Nat×Array Oper×Nat×Array Oper)
 | .seq (.region id ops true) (.region id' ops' false)=>match hint.late id,hint.mix id with
  |some _,none=>some (Jn P hint id ops,ops,id',ops')
  |_,_=>none
 |_=>none
inductive Ex where
 |normal
 |exit (id:Nat)
 |ret
 deriving DecidableEq,Inhabited
abbrev Yc:=(St→Option (Ex×St))→St→Option (Ex×St)
noncomputable def JQM:Option (Ex×St)→Option (Ex×St)→Bool
 |some (e,g,h),some (f,q,k)=>decide (e=f)&&(JBV g q&&heq h k)
 |none,none=>true
 |_,_=>false
theorem JUN{x y:Option (Ex×St)}(h:JQM x y=true):x=y:=by
 unfold JQM at h
 split at h
 ·simp only[Af,decide_eq_true_eq]at h
  rw[h.1,JJP _ _ h.2.1,JLT _ _ h.2.2]
 ·rfl
 ·cases h
theorem JDn(x:Option (Ex×St)):JQM x x=true:=by
 cases x with
 |none=>rfl
 |some p=>obtain⟨e,g,h⟩:=p;simp only[JQM,JBX,qk,B3,decide_true]
noncomputable def qo(x y:Option (Ex×St)):Option (Ex×St):=if JQM x y=true then x else none
noncomputable def evCode(c:Cx)(lp:Yc):Code→St→Option (Ex×St)
 | .skip,s=>some (.normal,s)
 | .region id ops draw,s=>(Kj c id ops draw s).map λs'=>(.normal,s')
 | .seq a b,s=>
  match evCode c lp a s with
  |some (.normal,s')=>evCode c lp b s'
  |r=>r
 | .cond x a b,s=>
  match opd s.1 x with
  | .v (.bool t)=>if t then evCode c lp a s else evCode c lp b s
  | .any=>qo (match Z3 c.P c.hint a with|some (k,ops,id',ops')=>(YR c k ops id' ops' s).map λs'=>(Ex.normal,s')|none=>evCode c lp a s) (evCode c lp b s)
  |_=>none
 | .block id a,s=>
  match evCode c lp a s with
  |some (.exit j,s')=>if j=id then some (.normal,s')else some (.exit j,s')
  |r=>r
 | .loop a,s=>lp (evCode c lp a) s
 | .exit id,s=>some (.exit id,s)
 | .scope a,s=>evCode c lp a s
 | .label _,s=>some (.normal,s)
 | .ret,s=>some (.ret,s)
 |_,_=>none
def loopN:Nat→Yc
 |0,_,_=>none
 |n+1,f,s=>
  match f s with
  |some (.normal,s')=>loopN n f s'
  |r=>r
def JDo(P:Program)(s:St):ResultVar→Option V
 | .tmp t=>match look s.1 t with
  | .tup _=>none
  |x=>some (fzs x)
 | .cell a t=>
  match look s.1 a with
  | .ptr b o=>(Yv P s.2 t (.ptr b o)).map fzs
  |_=>none
def Ke(P:Program)(s:St):List ResultVar→Option (List V)
 |[]=>some []
 |r::l=>match JDo P s r,Ke P s l with
  |some x,some xs=>some (x::xs)
  |_,_=>none
def JBd(P:Program)(s:St):ResultVar→Option V
 | .tmp t=>match look s.1 t with
  | .tup _=>none
  |x=>some (cps x)
 | .cell a t=>
  match look s.1 a with
  | .ptr b o=>if Q3 P t=some true then Yv P s.2 t (.ptr b o)else none
  |_=>none
def Kt(P:Program)(s:St):List ResultVar→Option (List V)
 |[]=>some []
 |r::l=>match JBd P s r,Kt P s l with
  |some x,some xs=>some (x::xs)
  |_,_=>none
def zB:List V→V
 |[x]=>x
 |l=> .tup l
def Ku(args:List V):Jj:=args.zipIdx.map λp=>(p.2,p.1)
def bare:V→Bool
 | .list .no _=>true
 | .list _ _=>false
 |_=>true
def zC(P:Program)(fn:Func)(base ret:Nat)(rawr:Bool)(s:St):Option (V×JC):=
 match(if rawr then Kt P s fn.results.toList else Ke P s fn.results.toList)with
 |some vs=>if okr (base+ret) (zB vs)&&(((s.2.drop base).take ret).all (okO (base+ret))&&(ret==0||decide (base+ret≤s.2.length)))then some (zB vs,s.2.take (base+ret))else none
 |none=>none
noncomputable def YS(P:Program)(hints:Nat→Hint)(call:GH)(lp:Yc)(lo f:Nat)(args:List V)(h:JC):Option (V×JC):=
 match P.funcs[f]? with
 |some fn=>
  match fn.body with
  |some b=>
   if codeOk P (hints f) fn.ntmps b&&decide (args.length≤fn.ntmps)&&args.all bare&&fn.name != "runtime.NumGoroutine" then
    match evCode ⟨P,call,lo,h.length,hints f⟩ lp b (Ku args,h)with
    |some (.exit _,_)=>none
    |some (_,s)=>zC P fn h.length (hints f).ret (hints f).rawr s
    |none=>none
   else none
  |none=>none
 |none=>none
noncomputable def evFun(P:Program)(hints:Nat→Hint)(prim:Nat→Option (Nat→List V→JC→Option (V×JC))):Nat→GH
 |0=>λ_ _ _ _=>none
 |n+1=>λlo f args h=>
  match prim f with
  |some p=>p lo args h
  |none=>YS P hints (evFun P hints prim n) (loopN n) lo f args h
end Go.Lift
end

section
namespace Go.Lift
def R2{α β:Type}(R:α->β->Prop)(l:List α)(m:List β):Prop:=
 l.length=m.length/\ ∀(i:Nat) x y,l[i]? =some x->m[i]? =some y->R x y
theorem R2.mono{α β:Type}{R S:α->β->Prop}{l:List α}{m:List β}(h:R2 R l m)(hs:∀x y,R x y->S x y):R2 S l m:=
 ⟨h.1,λi x y hx hy=>hs x y (h.2 i x y hx hy)⟩
theorem R2.nil{α β:Type}{R:α->β->Prop}:R2 R ([]:List α) ([]:List β):=⟨rfl,λi x y hx _=>by simp at hx⟩
theorem R2.cons{α β:Type}{R:α->β->Prop}{x:α}{y:β}{l:List α}{m:List β}(h:R x y)(hs:R2 R l m):R2 R (x::l) (y::m):=
 ⟨by simp[hs.1],λi u v hu hv=>by
  cases i with
  |zero=>simp at hu hv;subst hu;subst hv;exact h
  |succ i=>exact hs.2 i u v (by simpa using hu) (by simpa using hv)⟩
theorem R2.head{α β:Type}{R:α->β->Prop}{x:α}{y:β}{l:List α}{m:List β}(h:R2 R (x::l) (y::m)):R x y:=
 h.2 0 x y rfl rfl
theorem R2.tail{α β:Type}{R:α->β->Prop}{x:α}{y:β}{l:List α}{m:List β}(h:R2 R (x::l) (y::m)):R2 R l m:=
 ⟨by simpa using h.1,λi u v hu hv=>h.2 (i+1) u v (by simpa using hu) (by simpa using hv)⟩
theorem R2.get{α β:Type}{R:α->β->Prop}{l:List α}{m:List β}(h:R2 R l m){i:Nat}{x:α}(hx:l[i]? =some x):∃y,m[i]? =some y/\R x y:=by
 have hi:i<l.length:=(Ad.1 hx).1
 have hm:i<m.length:=by rw[<-h.1];exact hi
 exact⟨m[i],Ac hm,h.2 i x _ hx (Ac hm)⟩
theorem R2.take{α β:Type}{R:α->β->Prop}{l:List α}{m:List β}(h:R2 R l m)(n:Nat):R2 R (l.take n) (m.take n):=
 ⟨by simp[h.1],λi x y hx hy=>by
  rw[AK]at hx hy
  split at hx
  ·exact h.2 i x y hx (by simpa[*]using hy)
  ·cases hx⟩
theorem R2.drop{α β:Type}{R:α->β->Prop}{l:List α}{m:List β}(h:R2 R l m)(n:Nat):R2 R (l.drop n) (m.drop n):=
 ⟨by simp[h.1],λi x y hx hy=>by
  rw[Bm]at hx hy
  exact h.2 _ x y hx hy⟩
theorem R2.append{α β:Type}{R:α->β->Prop}{l l':List α}{m m':List β}(h:R2 R l m)(h':R2 R l' m'):R2 R (l++l') (m++m'):=
 ⟨by simp[h.1,h'.1],λi x y hx hy=>by
  rw[B9]at hx hy
  rw[h.1]at hx
  split at hx
  ·rename_i hi;rw[if_pos hi]at hy;exact h.2 i x y hx hy
  ·rename_i hi;rw[if_neg hi]at hy;exact h'.2 _ x y hx hy⟩
theorem R2.map{α β α' β':Type}{R:α->β->Prop}{S:α'->β'->Prop}{f:α->α'}{g:β->β'}{l:List α}{m:List β}(h:R2 R l m)(hs:∀x y,R x y->S (f x) (g y)):R2 S (l.map f) (m.map g):=
 ⟨by simp[h.1],λi x y hx hy=>by
  simp only[Ax,Ak]at hx hy
  obtain⟨x',hx',rfl⟩:=hx;obtain⟨y',hy',rfl⟩:=hy
  exact hs _ _ (h.2 i x' y' hx' hy')⟩
theorem R2.set{α β:Type}{R:α->β->Prop}{l:List α}{m:List β}(h:R2 R l m){x:α}{y:β}(n:Nat)(hxy:R x y):R2 R (l.set n x) (m.set n y):=
 ⟨by simp[h.1],λi u v hu hv=>by
  rw[BK]at hu hv
  by_cases hi:n=i
  ·subst hi
   by_cases hl:n<l.length
   ·have hl':n<m.length:=by rw[<-h.1];exact hl
    simp[hl]at hu;simp[hl']at hv;subst hu;subst hv;exact hxy
   ·simp[hl]at hu
  ·simp[hi]at hu hv;exact h.2 i u v hu hv⟩
abbrev Cl:=Nat->Nat
inductive VP(c:Cl)(w:World):V->Value->Prop
 |v (x:Value) (h:x.oneCell'=true):VP c w (.v x) x
 |nil:VP c w .nil (.slice none 0 0)
 |empty (k:Own) (ao:Option Addr) (cap:Nat):VP c w (.list k []) (.slice ao 0 cap)
 |list (k:Own) (rows:List (List V)) (a:Addr) (cap sz:Nat) (xs:Nat->Nat->Value)
   (hne:rows≠[]) (hsz:0<sz) (hspot:a.spot=none) (hcap:rows.length<=cap) (hcl:a.off+rows.length*sz<=c a.block)
   (hrow:∀(i:Nat) (row:List V),rows[i]? =some row->row.length=sz)
   (hcell:∀(i j:Nat) (row:List V) (v:V),rows[i]? =some row->row[j]? =some v->w.cell? ⟨a.block,a.off+i*sz+j,none⟩=some (xs i j))
   (hrec:∀(i j:Nat) (row:List V) (v:V),rows[i]? =some row->row[j]? =some v->VP c w v (xs i j)):VP c w (.list k rows) (.slice (some a) rows.length cap)
def Shp(w w':World)(b:Nat):Prop:=∀arr e f,w.heap[b]? =some (.cells arr e f)->∃arr' f',w'.heap[b]? =some (.cells arr' e f')/\arr'.size=arr.size/\ ∀j,j<arr.size->w.frozen? ⟨b,j,none⟩=false->w'.frozen? ⟨b,j,none⟩=false
theorem Shp.refl(w:World)(b:Nat):Shp w w b:=λarr e f h=>⟨arr,f,h,rfl,λ_ _ h=>h⟩
theorem Shp.trans{w w' w'':World}{b:Nat}(h:Shp w w' b)(h':Shp w' w'' b):Shp w w'' b:=λarr e f hb=>by obtain⟨arr',f',k1,k2,k3⟩:=h arr e f hb;obtain⟨arr'',f'',q1,q2,q3⟩:=h' arr' e f' k1;exact⟨arr'',f'',q1,q2.trans k2,λj hj hf=>q3 j (by rw[k2];exact hj) (k3 j hj hf)⟩
theorem Shp.same{w w':World}{b:Nat}(h:w'.heap[b]? =w.heap[b]?):Shp w w' b:=λarr e f hb=>⟨arr,f,by rw[h];exact hb,rfl,λj _ hf=>by
 have:w'.frozen? ⟨b,j,none⟩=w.frozen? ⟨b,j,none⟩:=by simp[World.frozen?,h]
 rw[this];exact hf⟩
theorem Shp.none{w w':World}{b:Nat}(h:w.heap.size<=b):Shp w w' b:=λarr e f hb=>by
 have:=(AX.1 hb).1
 omega
theorem Shp.old{w w':World}(h:∀b,b<w.heap.size->w'.heap[b]? =w.heap[b]?)(b:Nat):Shp w w' b:=by
 rcases AG b w.heap.size with hb|hb
 ·exact Shp.same (h b hb)
 ·exact Shp.none hb
structure Ext(c:Cl)(w:World)(c':Cl)(w':World):Prop where
 cl:∀b,c b<=c' b
 cell:∀b off,off<c b->w'.cell? ⟨b,off,none⟩=w.cell? ⟨b,off,none⟩
 shp:∀b,c' b=0->Shp w w' b
theorem Ext.refl(c:Cl)(w:World):Ext c w c w:=⟨λ_=>Ab _,λ_ _ _=>rfl,λb _=>Shp.refl w b⟩
theorem Ext.trans{c c' c'':Cl}{w w' w'':World}(h:Ext c w c' w')(h':Ext c' w' c'' w''):Ext c w c'' w'':=
 ⟨λb=>AY (h.cl b) (h'.cl b),λb o ho=>(h'.cell b o (Cu ho (h.cl b))).trans (h.cell b o ho),λb hb=>(h.shp b (by have:=h'.cl b;omega)).trans (h'.shp b hb)⟩
theorem VP.mono{c c':Cl}{w w':World}{v:V}{x:Value}(h:VP c w v x)(e:Ext c w c' w'):VP c' w' v x:=by
 induction h with
 |v x h=>exact .v x h
 |nil=>exact .nil
 |empty k ao cap=>exact .empty k ao cap
 |list k rows a cap sz xs hne hsz hspot hcap hcl hrow hcell hrec ih=>
  refine .list k rows a cap sz xs hne hsz hspot hcap (AY hcl (e.cl _)) hrow ?_ ih
  intro i j row v hi hj;rw[e.cell]
  ·exact hcell i j row v hi hj
  ·have h1:j<row.length:=(Ad.1 hj).1
   have h2:i<rows.length:=(Ad.1 hi).1
   rw[hrow i row hi]at h1;have h3:(i+1)*sz<=rows.length*sz:=AH _ h2;rw[Bf]at h3;omega
theorem VP.flag{c:Cl}{w:World}{k:Own}{r:List (List V)}{x:Value}(h:VP c w (.list k r) x)(k':Own):VP c w (.list k' r) x:=by
 cases h with
 |empty k ao cap=>exact .empty k' ao cap
 |list k rows a cap sz xs hne hsz hspot hcap hcl hrow hcell hrec=>exact .list k' _ a cap sz xs hne hsz hspot hcap hcl hrow hcell hrec
theorem VP.oneCell{c:Cl}{w:World}{v:V}{x:Value}(h:VP c w v x):x.oneCell'=true:=by
 cases h with
 |v x h=>exact h
 |nil=>rfl
 |empty=>rfl
 |list=>rfl
def ROs(c:Cl)(w:World)(a:Addr)(cs:List V):Prop:=
 a.off+cs.length<=c a.block/\ ∀(j:Nat) v,cs[j]? =some v->∃x,w.cell? ⟨a.block,a.off+j,none⟩=some x/\VP c w v x
theorem ROs.mono{c c':Cl}{w w':World}{a:Addr}{cs:List V}(h:ROs c w a cs)(e:Ext c w c' w'):ROs c' w' a cs:=
 ⟨AY h.1 (e.cl _),λj v hj=>by
  obtain⟨x,hx,hv⟩:=h.2 j v hj;have hl:j<cs.length:=(Ad.1 hj).1
  exact⟨x,by rw[e.cell _ _ (by have:=h.1;omega)];exact hx,hv.mono e⟩⟩
theorem JDp{u:V}{cs:List V}(h:u∈WW cs):u∈cs:=by
 unfold WW at h
 split at h
 ·exact Bt _ h
 ·cases h
theorem JDq{u:V}{cs:List V}(h:u∈WX cs):u∈cs:=by
 unfold WX at h
 split at h
 ·cases h
 ·exact h
theorem splitB_mem{u:V}{cs:List V}(h:u∈cs):u= .undef\/u∈WW cs\/u∈WX cs:=by
 unfold WW WX
 split
 ·rcases List.mem_cons.1 h with h|h
  ·exact .inl h
  ·exact .inr (.inl h)
 ·exact .inr (.inr h)
theorem JQN{cs:List V}(h:∀u∈cs,isU u=false):WW cs=[]/\WX cs=cs:=by
 unfold WW WX
 split
 ·have:=h .undef (by simp)
  cases this
 ·exact⟨rfl,rfl⟩
def VR0(m:List Nat)(c:Cl)(w:World):V->Value->Prop
 | .v x,y=>y=x
 | .nil,y=>y= .slice none 0 0
 | .list k r,y=>VP c w (.list k r) y
 | .ptr b o,y=>∃g,m[b]? =some g/\y= .pointer (some ⟨g,o,none⟩)
 | .rp cs,y=>∃a:Addr,y= .pointer (some a)/\a.spot=none/\ROs c w a cs
 | .buf b o n,y=>∃g cap,m[b]? =some g/\y= .slice (some ⟨g,o,none⟩) n cap/\n<=cap
 | .stk b n sz,y=>∃g cap,m[b]? =some g/\y= .slice (some ⟨g,0,none⟩) n cap/\n<=cap/\cap<=maxLen/\(c g=0->∃arr e f,w.heap[g]? =some (.cells arr e f)/\arr.size=cap*sz/\ ∀j,j<arr.size->w.frozen? ⟨g,j,none⟩=false)
 | .mp b,y=>∃g,m[b]? =some g/\y= .map (some g)
 | .undef,_=>True
 | .any,y=>∃b,y= .bool b
 | .agg _,_=>False
 | .tup _,_=>False
 | .fn _ _,_=>False
def VR1(m:List Nat)(c:Cl)(w:World):V->Value->Prop
 | .fn f cs,y=>∃fs xs:Array Value,y= .func (.func f) fs xs/\R2 (VR0 m c w) (WW cs) fs.toList/\R2 (VR0 m c w) (WX cs) xs.toList
 |x,y=>VR0 m c w x y
def VR(m:List Nat)(c:Cl)(w:World):V->Value->Prop
 | .agg cs,y=>∃xs:Array Value,y= .agg xs/\R2 (VR1 m c w) cs xs.toList
 |x,y=>VR1 m c w x y
def VRr(m:List Nat)(c:Cl)(w:World):V->Value->Prop
 | .tup vs,y=>∃xs:Array Value,y= .tuple xs/\R2 (VR m c w) vs xs.toList
 |x,y=>VR m c w x y
def Pre(m m':List Nat):Prop:=∀(i:Nat) b,m[i]? =some b->m'[i]? =some b
theorem Pre.refl(m:List Nat):Pre m m:=λ_ _ h=>h
theorem Pre.trans{m m' m'':List Nat}(h:Pre m m')(h':Pre m' m''):Pre m m'':=λi b hb=>h' i b (h i b hb)
theorem Pre.append(m l:List Nat):Pre m (m++l):=λi b h=>by
 have hi:=(Ad.1 h).1
 rw[Bj hi];exact h
section mono
variable{m m':List Nat}{c c':Cl}{w w':World}
theorem VR0.mono(hm:Pre m m')(e:Ext c w c' w'){v:V}{x:Value}(h:VR0 m c w v x):VR0 m' c' w' v x:=by
 cases v with
 |v y=>exact h
 |nil=>exact h
 |list k r=>exact VP.mono h e
 |ptr b o=>obtain⟨g,hg,rfl⟩:=h;exact⟨g,hm _ _ hg,rfl⟩
 |mp b=>obtain⟨g,hg,rfl⟩:=h;exact⟨g,hm _ _ hg,rfl⟩
 |rp cs=>obtain⟨a,rfl,hs,hr⟩:=h;exact⟨a,rfl,hs,hr.mono e⟩
 |buf b o n=>obtain⟨g,cap,hg,rfl,hc⟩:=h;exact⟨g,cap,hm _ _ hg,rfl,hc⟩
 |stk b n sz=>
  obtain⟨g,cap,hg,rfl,hc,hmx,hsh⟩:=h;refine⟨g,cap,hm _ _ hg,rfl,hc,hmx,λhcz=>?_⟩
  obtain⟨arr,e',f,h1,h2,h3⟩:=hsh (by have:=e.cl g;omega)
  obtain⟨arr',f',k1,k2,k3⟩:=e.shp g hcz arr e' f h1
  exact⟨arr',e',f',k1,k2.trans h2,λj hj=>k3 j (by rw[<-k2];exact hj) (h3 j (by rw[<-k2];exact hj))⟩
 |undef=>trivial
 |any=>trivial
 |agg cs=>exact h.elim
 |tup cs=>exact h.elim
 |fn f cs=>exact h.elim
theorem VR1.mono(hm:Pre m m')(e:Ext c w c' w'){v:V}{x:Value}(h:VR1 m c w v x):VR1 m' c' w' v x:=by
 cases v with
 |fn f cs=>obtain⟨fs,xs,rfl,hr1,hr⟩:=h;exact⟨fs,xs,rfl,hr1.mono λ_ _=>VR0.mono hm e,hr.mono λ_ _=>VR0.mono hm e⟩
 |v y=>exact VR0.mono (v:=(.v y)) (x:=x) hm e h
 |nil=>exact VR0.mono (v:= .nil) (x:=x) hm e h
 |list k r=>exact VR0.mono (v:=(.list k r)) (x:=x) hm e h
 |ptr b o=>exact VR0.mono (v:=(.ptr b o)) (x:=x) hm e h
 |mp b=>exact VR0.mono (v:=(.mp b)) (x:=x) hm e h
 |rp cs=>exact VR0.mono (v:=(.rp cs)) (x:=x) hm e h
 |buf b o n=>exact VR0.mono (v:=(.buf b o n)) (x:=x) hm e h
 |stk b n sz=>exact VR0.mono (v:=(.stk b n sz)) (x:=x) hm e h
 |agg cs=>exact VR0.mono (v:=(.agg cs)) (x:=x) hm e h
 |tup vs=>exact VR0.mono (v:=(.tup vs)) (x:=x) hm e h
 |undef=>exact VR0.mono (v:= .undef) (x:=x) hm e h
 |any=>exact VR0.mono (v:= .any) (x:=x) hm e h
theorem VR.mono(hm:Pre m m')(e:Ext c w c' w'){v:V}{x:Value}(h:VR m c w v x):VR m' c' w' v x:=by
 cases v with
 |agg cs=>obtain⟨xs,rfl,hr⟩:=h;exact⟨xs,rfl,hr.mono λ_ _=>VR1.mono hm e⟩
 |v y=>exact VR1.mono (v:=(.v y)) (x:=x) hm e h
 |nil=>exact VR1.mono (v:= .nil) (x:=x) hm e h
 |list k r=>exact VR1.mono (v:=(.list k r)) (x:=x) hm e h
 |ptr b o=>exact VR1.mono (v:=(.ptr b o)) (x:=x) hm e h
 |mp b=>exact VR1.mono (v:=(.mp b)) (x:=x) hm e h
 |rp cs=>exact VR1.mono (v:=(.rp cs)) (x:=x) hm e h
 |buf b o n=>exact VR1.mono (v:=(.buf b o n)) (x:=x) hm e h
 |stk b n sz=>exact VR1.mono (v:=(.stk b n sz)) (x:=x) hm e h
 |tup vs=>exact VR1.mono (v:=(.tup vs)) (x:=x) hm e h
 |fn f cs=>exact VR1.mono (v:=(.fn f cs)) (x:=x) hm e h
 |undef=>exact VR1.mono (v:= .undef) (x:=x) hm e h
 |any=>exact VR1.mono (v:= .any) (x:=x) hm e h
theorem VRr.mono(hm:Pre m m')(e:Ext c w c' w'){v:V}{x:Value}(h:VRr m c w v x):VRr m' c' w' v x:=by
 cases v with
 |tup cs=>obtain⟨xs,rfl,hr⟩:=h;exact⟨xs,rfl,hr.mono λ_ _=>VR.mono hm e⟩
 |v y=>exact VR.mono (v:=(.v y)) hm e h
 |nil=>exact VR.mono (v:= .nil) hm e h
 |list k r=>exact VR.mono (v:=(.list k r)) hm e h
 |ptr b o=>exact VR.mono (v:=(.ptr b o)) hm e h
 |mp b=>exact VR.mono (v:=(.mp b)) hm e h
 |rp cs=>exact VR.mono (v:=(.rp cs)) hm e h
 |buf b o n=>exact VR.mono (v:=(.buf b o n)) hm e h
 |stk b n sz=>exact VR.mono (v:=(.stk b n sz)) hm e h
 |agg cs=>exact VR.mono (v:=(.agg cs)) hm e h
 |fn f cs=>exact VR.mono (v:=(.fn f cs)) hm e h
 |undef=>exact VR.mono (v:= .undef) (x:=x) hm e h
 |any=>exact VR.mono (v:= .any) (x:=x) hm e h
end mono
section flags
variable{m:List Nat}{c:Cl}{w:World}{v:V}{x:Value}
theorem VR0.cp(h:VR0 m c w v x):VR0 m c w (cp v) x:=by
 cases v with
 |list k r=>exact VP.flag h .no
 |_=>exact h
theorem VR1.cp(h:VR1 m c w v x):VR1 m c w (cp v) x:=by
 cases v with
 |list k r=>exact VP.flag h .no
 |_=>exact h
theorem VR1.fz(h:VR1 m c w v x):VR1 m c w (fz v) x:=by
 cases v with
 |list k r=>exact VP.flag h .no
 |nil=>have h':x= .slice none 0 0:=h;subst h';exact VP.empty .no none 0
 |_=>exact h
theorem VRr.cps(h:VRr m c w v x):VRr m c w (cps v) x:=by
 cases v with
 |list k r=>exact VP.flag h .no
 |agg cs=>obtain⟨xs,rfl,hr⟩:=h;exact⟨xs,rfl,by simpa using hr.map (g:=id) λ_ _=>VR1.cp⟩
 |_=>exact h
theorem VR.cps(h:VR m c w v x):VR m c w (cps v) x:=by
 cases v with
 |list k r=>exact VP.flag h .no
 |agg cs=>obtain⟨xs,rfl,hr⟩:=h;exact⟨xs,rfl,by simpa using hr.map (g:=id) λ_ _=>VR1.cp⟩
 |_=>exact h
theorem VR.fzs(h:VR m c w v x):VR m c w (fzs v) x:=by
 cases v with
 |list k r=>exact VP.flag h .no
 |nil=>have h':x= .slice none 0 0:=h;subst h';exact VP.empty .no none 0
 |agg cs=>obtain⟨xs,rfl,hr⟩:=h;exact⟨xs,rfl,by simpa using hr.map (g:=id) λ_ _=>VR1.fz⟩
 |_=>exact h
theorem VRr.fzs(h:VRr m c w v x):VRr m c w (fzs v) x:=by
 cases v with
 |tup vs=>exact h
 |list k r=>exact VP.flag h .no
 |nil=>have h':x= .slice none 0 0:=h;subst h';exact VP.empty .no none 0
 |agg cs=>obtain⟨xs,rfl,hr⟩:=h;exact⟨xs,rfl,by simpa using hr.map (g:=id) λ_ _=>VR1.fz⟩
 |_=>exact h
end flags
/- fewer objects: what reaches none of those that go -/
section less
variable{m:List Nat}{c:Cl}{w:World}{n:Nat}
theorem Qu{m:List Nat}{n b g:Nat}(h:m[b]? =some g)(hb:b<n):(m.take n)[b]? =some g:=by rw[AK,if_pos hb];exact h
theorem VR0.less{v:V}{x:Value}(h:VR0 m c w v x)(hk:okc n v=true\/v= .undef):VR0 (m.take n) c w v x:=by
 cases v with
 |ptr b o=>obtain⟨g,hg,rfl⟩:=h;exact⟨g,Qu hg (by simpa[okc]using hk),rfl⟩
 |mp b=>obtain⟨g,hg,rfl⟩:=h;exact⟨g,Qu hg (by simpa[okc]using hk),rfl⟩
 |buf b o k=>obtain⟨g,cap,hg,rfl,hc⟩:=h;exact⟨g,cap,Qu hg (by simpa[okc]using hk),rfl,hc⟩
 |stk b k sz=>obtain⟨g,cap,hg,rfl,hc⟩:=h;exact⟨g,cap,Qu hg (by simpa[okc]using hk),rfl,hc⟩
 |_=>exact h
theorem VR1.less{v:V}{x:Value}(h:VR1 m c w v x)(hk:okc n v=true\/v= .undef):VR1 (m.take n) c w v x:=by
 cases v with
 |fn f cs=>rcases hk with hk|hk<;>simp[okc]at hk
 |v y=>exact VR0.less (m:=m) (c:=c) (w:=w) (n:=n) (v:=(.v y)) (x:=x) h hk
 |nil=>exact VR0.less (m:=m) (c:=c) (w:=w) (n:=n) (v:= .nil) (x:=x) h hk
 |list k r=>exact VR0.less (m:=m) (c:=c) (w:=w) (n:=n) (v:=(.list k r)) (x:=x) h hk
 |ptr b o=>exact VR0.less (m:=m) (c:=c) (w:=w) (n:=n) (v:=(.ptr b o)) (x:=x) h hk
 |mp b=>exact VR0.less (m:=m) (c:=c) (w:=w) (n:=n) (v:=(.mp b)) (x:=x) h hk
 |rp cs=>exact VR0.less (m:=m) (c:=c) (w:=w) (n:=n) (v:=(.rp cs)) (x:=x) h hk
 |buf b o k=>exact VR0.less (m:=m) (c:=c) (w:=w) (n:=n) (v:=(.buf b o k)) (x:=x) h hk
 |stk b k sz=>exact VR0.less (m:=m) (c:=c) (w:=w) (n:=n) (v:=(.stk b k sz)) (x:=x) h hk
 |agg cs=>exact VR0.less (m:=m) (c:=c) (w:=w) (n:=n) (v:=(.agg cs)) (x:=x) h hk
 |tup vs=>exact VR0.less (m:=m) (c:=c) (w:=w) (n:=n) (v:=(.tup vs)) (x:=x) h hk
 |undef=>exact VR0.less (m:=m) (c:=c) (w:=w) (n:=n) (v:= .undef) (x:=x) h hk
 |any=>exact VR0.less (m:=m) (c:=c) (w:=w) (n:=n) (v:= .any) (x:=x) h hk
theorem VR.less{v:V}{x:Value}(h:VR m c w v x)(hk:okv n v=true):VR (m.take n) c w v x:=by
 cases v with
 |agg cs=>
  obtain⟨xs,rfl,hr⟩:=h;simp only[okv,As]at hk
  exact⟨xs,rfl,hr.1,λi u y hu hy=>(hr.2 i u y hu hy).less (.inl (hk u (Ar hu)))⟩
 |fn f cs=>
  obtain⟨fs,xs,rfl,hr1,hr⟩:=h;simp only[okv,As]at hk
  exact⟨fs,xs,rfl,⟨hr1.1,λi u y hu hy=>(hr1.2 i u y hu hy).less (.inl (hk u (JDp (Ar hu))))⟩,⟨hr.1,λi u y hu hy=>(hr.2 i u y hu hy).less (.inl (hk u (JDq (Ar hu))))⟩⟩
 |undef=>trivial
 |any=>trivial
 |v y=>exact VR1.less (m:=m) (c:=c) (w:=w) (n:=n) (v:=(.v y)) (x:=x) h (.inl (by exact hk))
 |nil=>exact VR1.less (m:=m) (c:=c) (w:=w) (n:=n) (v:= .nil) (x:=x) h (.inl (by exact hk))
 |list k r=>exact VR1.less (m:=m) (c:=c) (w:=w) (n:=n) (v:=(.list k r)) (x:=x) h (.inl (by exact hk))
 |ptr b o=>exact VR1.less (m:=m) (c:=c) (w:=w) (n:=n) (v:=(.ptr b o)) (x:=x) h (.inl (by exact hk))
 |mp b=>exact VR1.less (m:=m) (c:=c) (w:=w) (n:=n) (v:=(.mp b)) (x:=x) h (.inl (by exact hk))
 |rp cs=>exact VR1.less (m:=m) (c:=c) (w:=w) (n:=n) (v:=(.rp cs)) (x:=x) h (.inl (by exact hk))
 |buf b o k=>exact VR1.less (m:=m) (c:=c) (w:=w) (n:=n) (v:=(.buf b o k)) (x:=x) h (.inl (by exact hk))
 |stk b k sz=>exact VR1.less (m:=m) (c:=c) (w:=w) (n:=n) (v:=(.stk b k sz)) (x:=x) h (.inl (by exact hk))
 |tup vs=>exact VR1.less (m:=m) (c:=c) (w:=w) (n:=n) (v:=(.tup vs)) (x:=x) h (.inl (by exact hk))
theorem VRr.less{v:V}{x:Value}(h:VRr m c w v x)(hk:okr n v=true):VRr (m.take n) c w v x:=by
 cases v with
 |tup vs=>
  obtain⟨xs,rfl,hr⟩:=h;simp only[okr,As]at hk
  exact⟨xs,rfl,hr.1,λi u y hu hy=>(hr.2 i u y hu hy).less (hk u (Ar hu))⟩
 |v y=>exact VR.less (m:=m) (c:=c) (w:=w) (n:=n) (v:=(.v y)) (x:=x) h hk
 |nil=>exact VR.less (m:=m) (c:=c) (w:=w) (n:=n) (v:= .nil) (x:=x) h hk
 |list k r=>exact VR.less (m:=m) (c:=c) (w:=w) (n:=n) (v:=(.list k r)) (x:=x) h hk
 |ptr b o=>exact VR.less (m:=m) (c:=c) (w:=w) (n:=n) (v:=(.ptr b o)) (x:=x) h hk
 |mp b=>exact VR.less (m:=m) (c:=c) (w:=w) (n:=n) (v:=(.mp b)) (x:=x) h hk
 |rp cs=>exact VR.less (m:=m) (c:=c) (w:=w) (n:=n) (v:=(.rp cs)) (x:=x) h hk
 |buf b o k=>exact VR.less (m:=m) (c:=c) (w:=w) (n:=n) (v:=(.buf b o k)) (x:=x) h hk
 |stk b k sz=>exact VR.less (m:=m) (c:=c) (w:=w) (n:=n) (v:=(.stk b k sz)) (x:=x) h hk
 |agg cs=>exact VR.less (m:=m) (c:=c) (w:=w) (n:=n) (v:=(.agg cs)) (x:=x) h hk
 |fn f cs=>exact VR.less (m:=m) (c:=c) (w:=w) (n:=n) (v:=(.fn f cs)) (x:=x) h hk
 |undef=>exact VR.less (m:=m) (c:=c) (w:=w) (n:=n) (v:= .undef) (x:=x) h hk
 |any=>exact VR.less (m:=m) (c:=c) (w:=w) (n:=n) (v:= .any) (x:=x) h hk
end less
theorem VR.r{m:List Nat}{c:Cl}{w:World}{v:V}{x:Value}(h:VR m c w v x):VRr m c w v x:=by
 cases v with
 |tup cs=>exact h.elim
 |_=>exact h
theorem VR1.r{m:List Nat}{c:Cl}{w:World}{v:V}{x:Value}(h:VR1 m c w v x):VR m c w v x:=by
 cases v with
 |agg cs=>exact h.elim
 |_=>exact h
theorem VR0.r{m:List Nat}{c:Cl}{w:World}{v:V}{x:Value}(h:VR0 m c w v x):VR1 m c w v x:=by
 cases v with
 |fn f cs=>exact h.elim
 |_=>exact h
theorem zD{m:List Nat}{c:Cl}{w:World}{v:V}{x:Value}(h:VP c w v x):VR1 m c w v x:=by
 cases h with
 |v x h=>rfl
 |nil=>rfl
 |empty=>exact VP.empty _ _ _
 |list k rows a cap sz xs hne hsz hspot hcap hcl hrow hcell hrec=>exact VP.list k rows a cap sz xs hne hsz hspot hcap hcl hrow hcell hrec
theorem JBe{m:List Nat}{c:Cl}{w:World}(x:Value):VR1 m c w (KW x) x:=by
 unfold KW
 split
 ·rfl
 ·rename_i f a b
  split
  ·rename_i h
   have ha:a= #[]:=CH h.1;have hb:b= #[]:=CH h.2;subst ha;subst hb;exact⟨#[],#[],rfl,R2.nil,R2.nil⟩
  ·rfl
 ·rfl
theorem JQO{m:List Nat}{c:Cl}{w:World}(x:Value):VR m c w (ofC x) x:=by
 unfold ofC
 split
 ·refine⟨_,rfl,?_⟩
  refine⟨by simp,λi u y hu hy=>?_⟩
  simp only[Ax,Ak]at hu
  obtain⟨z,hz,rfl⟩:=hu;rw[hy]at hz;cases hz;exact JBe _
 ·exact(JBe _).r
def Jo:Value->Option Nat
 | .slice (some a) _ _=>some a.block
 |_=>none
variable[BTy]
def OwnB(m:List Nat)(c:Cl)(w:World)(r:List (List V))(x:Value):Prop:=
 (x= .slice none 0 0/\r=[])\/
 ∃b cap cur e sz,x= .slice (some ⟨b,0,none⟩) r.length cap/\w.heap[b]? =some (.cells cur e (0,0))/\r.length<=cap/\cap<=maxLen/\cur.size=cap*sz/\
  0<sz/\(∀row∈r,row.length=sz)/\c b=r.length*sz/\b∉m/\(r=[]->cap=0)/\ ∀T,BTy.bb=some T->J0 r=true->e=T
inductive Loc where
 |slot (t:Nat)
 |cell (i j:Nat)
def At(m:List Nat)(w:World)(g:Jj)(h:JC)(a:Act):Loc->List (List V)->Value->Prop
 | .slot t,r,x=>look g t= .list .yes r/\x=a.tmps.getD t undef
 | .cell i j,r,x=>∃cs b,cellsOfOb h i=some cs/\cs[j]? =some (.list .yes r)/\m[i]? =some b/\w.cell? ⟨b,j,none⟩=some x
def ObR(m:List Nat)(c:Cl)(w:World):Ob->Nat->Prop
 | .cells cs,b=>∃arr e f,w.heap[b]? =some (.cells arr e f)/\cs.length<=arr.size/\(∀j,j<cs.length->w.frozen? ⟨b,j,none⟩=false)/\
   (∀(j:Nat) v x,cs[j]? =some v->arr[j]? =some x->VR1 m c w v x/\x.oneCell'=true)/\ ∀T,JBM cs.length=some T->Zg cs=true->e=T/\arr.size=cs.length
 | .iter s pos,b=>w.heap[b]? =some (.stringIter s pos)
 | .tab es,b=>∃arr clock,w.heap[b]? =some (.map arr clock)/\arr.toList.map (λe=>(e.key,e.val))=es
variable[GTab]
structure Core(vars:List Nat)(m:List Nat)(c:Cl)(w:World)(g:Jj)(h:JC)(a:Act):Prop where
 wf1:∀b,0<c b->∃arr e f,w.heap[b]? =some (.cells arr e f)/\c b<=arr.size
 wf2:∀b∈m,c b=0
 nd:m.Nodup
 len:m.length=h.length
 env:∀t,VRr m c w (look g t) (a.tmps.getD t undef)
 ob:∀(i:Nat) o b,h[i]? =some o->m[i]? =some b->ObR m c w o b
 own:∀l r x,At m w g h a l r x->OwnB m c w r x
 uniq:∀l l' r r' x x' b,At m w g h a l r x->At m w g h a l' r' x'->Jo x=some b->Jo x'=some b->l=l'
 tagS:∀t u r,look g t= .list (.slot u) r->u∈vars/\look g u= .list .yes r/\a.tmps.getD t undef=a.tmps.getD u undef
 tagC:∀t i j r,look g t= .list (.cell i j) r->At m w g h a (.cell i j) r (a.tmps.getD t undef)
 gt:∀n cs,GTab.tab n=some cs->ROs c w ⟨n,0,none⟩ cs
structure Fr(lo:Nat)(ho:Nat->Prop)(w0:World)(m0:List Nat)(c0:Cl)(w:World)(m:List Nat)(c:Cl):Prop where
 os:w.os=w0.os
 tape:w.tape=w0.tape
 output:w.output=w0.output
 size:w0.heap.size<=w.heap.size
 pre:Pre m0 m
 new:∀(i:Nat) b,m0.length<=i->m[i]? =some b->w0.heap.size<=b
 ext:Ext c0 w0 c w
 fix:∀b,b<w0.heap.size->(∀i:Nat,lo<=i->m0[i]? ≠some b)->¬ho b->w.heap[b]? =w0.heap[b]? /\c b=c0 b
def JdQ(lo:Nat):Loc->Prop
 | .slot _=>True
 | .cell i _=>lo<=i
def JAN(lo:Nat)(ho:Nat->Prop)(w0:World)(m:List Nat)(w:World)(g:Jj)(h:JC)(a:Act):Prop:=
 ∀l r x b,At m w g h a l r x->JdQ lo l->Jo x=some b->w0.heap.size<=b\/ho b
theorem Fr.refl(lo:Nat)(ho:Nat->Prop)(w:World)(m:List Nat)(c:Cl):Fr lo ho w m c w m c:=
 ⟨rfl,rfl,rfl,Ab _,Pre.refl m,λi b hi hb=>by
  have:=(Ad.1 hb).1;omega,Ext.refl c w,λ_ _ _ _=>⟨rfl,rfl⟩⟩
end Go.Lift
end

section
namespace Go.Lift
variable[GTab][BTy]
section
variable{P:Program}{vars:List Nat}{m:List Nat}{c:Cl}{w:World}{g:Jj}{h:JC}{a:Act}
theorem Core.opd(hC:Core vars m c w g h a)(x:Operand):VRr m c w (opd g x) (a.eval x):=by
 cases x with
 |tmp t=>exact hC.env t
 |const v=>exact(JQO v).r
 |global n=>
  simp only[Lift.opd]
  split
  ·rename_i cs hg
   exact⟨_,rfl,rfl,hC.gt n cs hg⟩
  ·rfl
 |func f=>exact⟨#[],#[],rfl,R2.nil,R2.nil⟩
def TagOK(vars:List Nat)(m:List Nat)(w:World)(g:Jj)(h:JC)(a:Act)(v:V)(x:Value):Prop:=
 (∀r,v≠ .list .yes r)/\(∀u r,v= .list (.slot u) r->u∈vars/\look g u= .list .yes r/\x=a.tmps.getD u undef)/\
  (∀i j r,v= .list (.cell i j) r->At m w g h a (.cell i j) r x)
theorem TagOK.bare{v:V}{x:Value}(hb:bare v=true):TagOK vars m w g h a v x:=by refine⟨λr e=>?_,λu r e=>?_,λi j r e=>?_⟩<;>subst e<;>simp[Lift.bare]at hb
theorem Yw(v:V):bare (cps v)=true:=by cases v<;>rfl
theorem JG2(v:V):bare (cp v)=true:=by cases v<;>rfl
theorem JJR(y:Value):bare (ofC y)=true:=by
 unfold ofC
 split
 ·rfl
 ·unfold KW
  split
  ·rfl
  ·split<;>rfl
  ·rfl
theorem WD{t:TypeId}{i:TypeInfo}(hi:P.info? t=some i):(sizeOf t).run P w= .ok i.size w:=by simp[sizeOf,typeInfo,hi]
def Qm(P:Program)(w:World)(a:Act)(o:Oper)(x:Value):Prop:=(execOp a.eval o).run P w= .ok (.value x) w
theorem JX{o:Oper}{s:Sem Value}{x:Value}(he:execOp a.eval o=(do pure (Next.value (<-s))))(hs:s.run P w= .ok x w):Qm P w a o x:=by unfold Qm;rw[he,BB,hs]<;>rfl
theorem JOU(hC:Core vars m c w g h a){o:Oper}{x:Operand}(ho:o.op= .move x){v:V}(hv:JV P vars (g,h) (.move x)=some v):
  ∃y,Qm P w a o y/\VRr m c w v y/\TagOK vars m w g h a v y:=by
 refine⟨a.eval x,by simp[Qm,execOp,ho],?_⟩
 cases x with
 |tmp t=>
  have he:=hC.env t;simp only[JV]at hv
  split at hv
  ·rename_i r hr
   cases hv;rw[hr]at he;refine⟨VP.flag he _,λr' e=>?_,λu r' e=>?_,λi j r' e=>?_⟩
   ·split at e<;>cases e
   ·split at e
    ·cases e;rename_i hm;exact⟨hm,hr,rfl⟩
    ·cases e
   ·split at e<;>cases e
  ·cases hv
   exact⟨he.cps,TagOK.bare (Yw _)⟩
 |const y=>simp only[JV,Aj]at hv;subst hv;exact⟨(JQO y).r,TagOK.bare (JJR y)⟩
 |global n=>
  have h1:=hC.opd (.global n);simp only[JV,Lift.opd]at hv;simp only[Lift.opd]at h1
  cases hg:GTab.tab n with
  |none=>rw[hg]at hv h1;cases hv;exact⟨h1,TagOK.bare rfl⟩
  |some cs=>rw[hg]at hv h1;cases hv;exact⟨h1,TagOK.bare rfl⟩
 |func f=>cases hv;exact⟨⟨#[],#[],rfl,R2.nil,R2.nil⟩,TagOK.bare rfl⟩
theorem VRr.bool{x:Value}{b:Bool}(h:VRr m c w (.v (.bool b)) x):x= .bool b:=h
theorem VRr.v{x y:Value}(h:VRr m c w (.v y) x):x=y:=h
theorem JOV(hC:Core vars m c w g h a){o:Oper}{k x y:Operand}(ho:o.op= .pick k x y){v:V}(hv:JV P vars (g,h) (.pick k x y)=some v):
  ∃y,Qm P w a o y/\VRr m c w v y/\TagOK vars m w g h a v y:=by
 simp only[JV]at hv
 split at hv
 ·rename_i b hb
  cases hv;have hk:=hC.opd k;rw[hb]at hk;have hk':a.eval k= .bool b:=hk;refine⟨if b then a.eval x else a.eval y,?_,?_,?_⟩
  ·refine JX (s:=do pure (if<-asBool (a.eval k)then a.eval x else a.eval y)) (by simp[execOp,ho]) ?_
   simp[hk',asBool]
  ·cases b
   ·exact(hC.opd y).cps
   ·exact(hC.opd x).cps
  ·cases b
   ·exact TagOK.bare (Yw _)
   ·exact TagOK.bare (Yw _)
 ·cases hv
theorem JBf{cs:List V}{xs:List Value}(hr:R2 (VR1 m c w) cs xs)(n:Nat):R2 (VR1 m c w) ((cs.take n).map cp) (xs.take n):=by simpa using(hr.take n).map (f:=cp) (g:=id) λ_ _=>VR1.cp
theorem JDr{t:TypeId}(ht:Q3 P t=some true):∃d,P.underlying t=some d/\d.isRow=true:=by
 unfold Q3 at ht
 split at ht
 ·rename_i fs hf;exact⟨_,hf,rfl⟩
 ·rename_i n e hf;exact⟨_,hf,rfl⟩
 ·cases ht
 ·cases ht
theorem kG{t:TypeId}(ht:Q3 P t=some false):∃d,P.underlying t=some d/\d.isRow=false:=by
 unfold Q3 at ht
 split at ht
 ·cases ht
 ·cases ht
 ·rename_i d h1 h2 hf
  refine⟨d,hf,?_⟩
  cases d<;>first|rfl|(exact absurd rfl (h1 _))|(exact absurd rfl (h2 _ _))
 ·cases ht
theorem info_of_underlying{t:TypeId}{d:TypeDesc}(hd:P.underlying t=some d):∃i,P.info? t=some i:=by
 unfold Program.underlying at hd
 cases hi:P.info? t with
 |some i=>exact⟨i,rfl⟩
 |none=>simp[hi]at hd
theorem JU{t:TypeId}{i:TypeInfo}(hi:P.info? t=some i):JG P t=i.size:=by simp[JG,Bx,hi]
theorem Qg{t:TypeId}{d:TypeDesc}(hd:P.underlying t=some d):(isAgg t).run P w= .ok d.isRow w:=by unfold isAgg;rw[BB,run_underlying hd];cases d<;>rfl
def CellsAt(R:V->Value->Prop)(w:World)(b o:Nat)(cs:List V):Prop:=∀(j:Nat) v,cs[j]? =some v->∃x,w.cell? ⟨b,o+j,none⟩=some x/\R v x
theorem CellsAt.list{R:V->Value->Prop}{b o:Nat}:∀{cs:List V},CellsAt R w b o cs->∃xs:List Value,xs.length=cs.length/\w.rangeAt b o xs/\R2 R cs xs:=by
 intro cs
 induction cs generalizing o with
 |nil=>intro _;exact⟨[],rfl,λj v hj=>by simp at hj,R2.nil⟩
 |cons v cs ih=>
  intro hc;obtain⟨x,hx,hv⟩:=hc 0 v rfl
  obtain⟨xs,hl,hr,h2⟩:=ih (o:=o+1) (λj u hj=>by
   obtain⟨y,hy,hu⟩:=hc (j+1) u (by simpa using hj)
   exact⟨y,by rw[show o+1+j=o+(j+1)by omega];exact hy,hu⟩)
  refine⟨x::xs,by simp[hl],λj u hj=>?_,R2.cons hv h2⟩
  cases j with
  |zero=>simp at hj;subst hj;exact hx
  |succ j=>rw[show o+(j+1)=o+1+j by omega];exact hr j u (by simpa using hj)
theorem CellsAt.take{R:V->Value->Prop}{b o n:Nat}{cs:List V}(hc:CellsAt R w b o cs):CellsAt R w b o (cs.take n):=λj v hj=>by
 rw[AK]at hj
 split at hj
 ·exact hc j v hj
 ·cases hj
theorem CellsAt.drop{R:V->Value->Prop}{b o n:Nat}{cs:List V}(hc:CellsAt R w b o cs):CellsAt R w b (o+n) (cs.drop n):=λj v hj=>by
 rw[Bm]at hj
 obtain⟨x,hx,hv⟩:=hc _ v hj;exact⟨x,by rw[show o+n+j=o+(n+j)by omega];exact hx,hv⟩
theorem JDs{t:TypeId}{b o:Nat}{cs:List V}(hc:CellsAt (VR1 m c w) w b o cs){v:V}(hv:KB P t cs=some v):
  ∃y,(loadVar t ⟨b,o,none⟩).run P w= .ok y w/\VR m c w v y/\bare v=true:=by
 unfold KB at hv
 split at hv
 ·rename_i ht
  obtain⟨d,hd,hrow⟩:=JDr ht;obtain⟨i,hi⟩:=info_of_underlying hd
  split at hv
  ·rename_i hle
   cases hv;obtain⟨xs,hl,hr,h2⟩:=CellsAt.list hc;refine⟨.agg (xs.take (JG P t)).toArray,?_,⟨_,rfl,?_⟩,rfl⟩
   ·refine run_loadVar_mid (P:=P) w b o t (xs.take (JG P t)) d (λj u hj=>?_) hd hrow ?_
    ·rw[AK]at hj
     split at hj
     ·exact hr j u hj
     ·cases hj
    ·rw[hi]
     have:=JU hi;simp only[A6,AM,hl]
     congr 1
     omega
   ·exact JBf h2 _
  ·cases hv
 ·rename_i ht
  obtain⟨d,hd,hrow⟩:=kG ht
  cases hcs:cs[0]? with
  |none=>simp[hcs]at hv
  |some u=>
   simp only[hcs,A6,Aj]at hv;subst hv;obtain⟨x,hx,hu⟩:=hc 0 u hcs;refine⟨x,?_,hu.cp.r,JG2 _⟩
   simp only[BH]at hx;simp[loadVar,Qg hd,hrow,hx]
 ·cases hv
theorem ROs.cells{ad:Addr}{cs:List V}(h:ROs c w ad cs):CellsAt (VR1 m c w) w ad.block ad.off cs:=λj v hj=>by obtain⟨x,hx,hv⟩:=h.2 j v hj;exact⟨x,hx,zD hv⟩
theorem Core.obCells(hC:Core vars m c w g h a){i b:Nat}{cs:List V}(hh:cellsOfOb h i=some cs)(hm:m[i]? =some b):
  CellsAt (VR1 m c w) w b 0 cs/\ ∀(j:Nat) v x,cs[j]? =some v->w.cell? ⟨b,j,none⟩=some x->VR1 m c w v x/\x.oneCell'=true:=by
 unfold cellsOfOb at hh
 split at hh
 ·rename_i cs' hcs
  cases hh;obtain⟨arr,e,f,hb,hle,_,hall,_⟩:=hC.ob i _ b hcs hm;have hcell:∀j,w.cell? ⟨b,j,none⟩=arr[j]? :=λj=>by simp[World.cell?,hb]
  refine⟨λj v hj=>?_,λj v x hj hx=>hall j v x hj (by rw[<-hcell];exact hx)⟩
  have hlt:j<cs.length:=(Ad.1 hj).1
  have ha:arr[j]? =some arr[j]:=Array.getElem?_eq_getElem om
  exact⟨arr[j],by rw[AE,hcell,ha],(hall j v _ hj ha).1⟩
 ·cases hh
theorem GL{ad:Addr}(hs:ad.spot=none):ad=⟨ad.block,ad.off,none⟩:=by cases ad;simp at hs;simp[hs]
theorem JBg(hC:Core vars m c w g h a){t:TypeId}{p v:V}{y:Value}(hp:VRr m c w p y)(hv:Yv P h t p=some v):
  ∃z,(Instr.loadAt t y).run P w= .ok z w/\VR m c w v z/\TagOK vars m w g h a v z:=by
 unfold Yv at hv
 split at hv
 ·rename_i b o
  obtain⟨gb,hg,rfl⟩:=hp
  split at hv
  ·rename_i cs hcs
   obtain⟨hc1,hc2⟩:=hC.obCells hcs hg
   have hrun:∀z,(loadVar t ⟨gb,o,none⟩).run P w= .ok z w->(Instr.loadAt t (.pointer (some ⟨gb,o,none⟩))).run P w= .ok z w:=λz hz=>by simp[Instr.loadAt,Instr.sureAddr,hz]
   split at hv
   ·obtain⟨z,hz,hr,hb⟩:=JDs (by simpa using hc1.drop (n:=o)) hv
    exact⟨z,hrun z hz,hr,TagOK.bare hb⟩
   ·rename_i ht
    obtain⟨d,hd,hrow⟩:=kG ht
    cases hj:cs[o]? with
    |none=>simp[hj]at hv
    |some u=>
     simp only[hj,A6,Aj]at hv;subst hv;obtain⟨x,hx,hu⟩:=hc1 o u hj;rw[AE]at hx;refine⟨x,hrun x (by simp[loadVar,Qg hd,hrow,hx]),?_,?_⟩
     ·unfold tagC
      split
      ·exact VP.flag hu _
      ·exact hu.cp.r
     ·unfold tagC
      split
      ·rename_i r
       refine⟨λr' e=>(by cases e),λu r' e=>(by cases e),λi j r' e=>?_⟩
       cases e;exact⟨cs,gb,hcs,hj,hg,hx⟩
      ·exact TagOK.bare (JG2 _)
   ·cases hv
  ·cases hv
 ·obtain⟨ad,rfl,hs,hr⟩:=hp
  obtain⟨z,hz,hr,hb⟩:=JDs (m:=m) (hr.cells (m:=m)) hv;refine⟨z,?_,hr,TagOK.bare hb⟩
  rw[GL hs];simp[Instr.loadAt,Instr.sureAddr,hz]
 ·cases hv
theorem JOW(hC:Core vars m c w g h a){o:Oper}{t:TypeId}{x:Operand}(ho:o.op= .load t x){v:V}(hv:JV P vars (g,h) (.load t x)=some v):
  ∃y,Qm P w a o y/\VRr m c w v y/\TagOK vars m w g h a v y:=by
 obtain⟨z,hz,hr,ht⟩:=JBg hC (hC.opd x) hv;exact⟨z,JX (by simp[execOp,ho]) hz,hr.r,ht⟩
end
section
variable{P:Program}{vars:List Nat}{m:List Nat}{c:Cl}{w:World}{g:Jj}{h:JC}{a:Act}
abbrev qr(P:Program)(vars:List Nat)(m:List Nat)(c:Cl)(w:World)(g:Jj)(h:JC)(a:Act)(o:Oper)(v:V):Prop:=
 ∃y,Qm P w a o y/\VRr m c w v y/\TagOK vars m w g h a v y
theorem JDS(hC:Core vars m c w g h a){o:Oper}{x:Operand}(ho:o.op= .nilCheck x){v:V}(hv:JV P vars (g,h) (.nilCheck x)=some v):
  qr P vars m c w g h a o v:=by
 have hx:=hC.opd x;simp only[JV]at hv
 split at hv
 ·rename_i b k he
  cases hv;rw[he]at hx;obtain⟨gb,hg,hy⟩:=hx;exact⟨_,by simp[Qm,execOp,ho,hy],⟨gb,hg,rfl⟩,TagOK.bare rfl⟩
 ·rename_i cs he
  cases hv;rw[he]at hx;obtain⟨ad,hy,hs,hr⟩:=hx;exact⟨_,by simp[Qm,execOp,ho,hy],⟨ad,rfl,hs,hr⟩,TagOK.bare rfl⟩
 ·rename_i f cs he
  cases hv;rw[he]at hx;obtain⟨fs,xs,hy,hr1,hr⟩:=hx;exact⟨_,by simp[Qm,execOp,ho,hy],⟨fs,xs,rfl,hr1,hr⟩,TagOK.bare rfl⟩
 ·cases hv
theorem JOX(hC:Core vars m c w g h a){o:Oper}{op:UnOp}{t:TypeId}{x:Operand}(ho:o.op= .unOp op t x){v:V}(hv:JV P vars (g,h) (.unOp op t x)=some v):
  qr P vars m c w g h a o v:=by
 have hx:=hC.opd x;simp only[JV]at hv
 split at hv
 ·rename_i y he
  rw[he]at hx;have hx':a.eval x=y:=hx;unfold unS at hv
  split at hv
  ·cases hv
   exact⟨_,JX (by simp[execOp,ho,hx'];rfl) (by simp[Op.unary,L8]),rfl,TagOK.bare rfl⟩
  ·cases hv
   exact⟨_,JX (by simp[execOp,ho,hx'];rfl) (by simp[Op.unary]),rfl,TagOK.bare rfl⟩
  ·cases hv
 ·cases hv
theorem W5{t:TypeId}{f k:Nat}{u:TypeId}(hf:JZ P t f=some (k,u)):
  ∃fs fd,P.underlying t=some (.struct fs)/\fs[f]? =some fd/\fd.offset=k/\fd.type=u:=by
 unfold JZ tfields at hf
 split at hf
 ·rename_i fs hfs
  simp only[Ax,Ak]at hf
  obtain⟨fd,h1,h2⟩:=hf;cases h2;exact⟨fs,fd,hfs,by simpa using h1,rfl,rfl⟩
 ·simp at hf
theorem He{t:TypeId}{fs:Array Field}{fd:Field}{f:Nat}(hu:P.underlying t=some (.struct fs))(hf:fs[f]? =some fd)(hs:0<JG P fd.type)(ad:Addr):
  (Instr.fieldAt t (.pointer (some ad)) f).run P w= .ok (.pointer (some (ad.add fd.offset))) w:=by
 have:∃i,P.info? fd.type=some i:=by
  cases hi:P.info? fd.type with
  |some i=>exact⟨i,rfl⟩
  |none=>simp[JG,Bx,hi]at hs
 obtain⟨i,hi⟩:=this;have hne:i.size≠0:=by rw[<-JU hi];omega
 simp[Instr.fieldAt,run_underlying hu,hf,Instr.sureAddr,fieldPlace,sizeOf,typeInfo,hi,hne]
theorem KC(b o n:Nat):(⟨b,o,none⟩:Addr).add n=⟨b,o+n,none⟩:=by unfold Addr.add;split<;>simp_all
theorem JBh(hC:Core vars m c w g h a){o:Oper}{t:TypeId}{x:Operand}{f:Nat}(ho:o.op= .fieldAddr t x f){v:V}(hv:JV P vars (g,h) (.fieldAddr t x f)=some v):
  qr P vars m c w g h a o v:=by
 have hx:=hC.opd x;simp only[JV]at hv
 split at hv
 ·rename_i b k off u he hf
  split at hv
  ·rename_i hs
   cases hv;obtain⟨fs,fd,hu,hfd,rfl,rfl⟩:=W5 hf;rw[he]at hx;obtain⟨gb,hg,hy⟩:=hx;exact⟨_,JX (by simp[execOp,ho,hy];rfl) (He hu hfd hs _),⟨gb,hg,by rw[KC]⟩,TagOK.bare rfl⟩
  ·cases hv
 ·rename_i cs off u he hf
  split at hv
  ·rename_i hs
   cases hv;obtain⟨fs,fd,hu,hfd,rfl,rfl⟩:=W5 hf;rw[he]at hx;obtain⟨ad,hy,hsp,hr⟩:=hx;refine⟨_,JX (by simp[execOp,ho,hy];rfl) (He hu hfd hs.1 _),⟨_,rfl,?_,?_⟩,TagOK.bare rfl⟩
   ·rw[GL hsp,KC]
   ·rw[GL hsp,KC]
    refine⟨?_,λj v hj=>?_⟩
    ·have:=hr.1
     have h2:=hs.2;simp only[Ay];omega
    ·rw[Bm]at hj
     obtain⟨z,hz,hv⟩:=hr.2 _ v hj;exact⟨z,by simpa[Dd]using hz,hv⟩
  ·cases hv
 ·cases hv
theorem JDt{t:TypeId}{cs:List V}{xs:Array Value}(hr:R2 (VR1 m c w) cs xs.toList){off:Nat}{v:V}(hv:KB P t (cs.drop off)=some v):
  ∃y,(part t xs off).run P w= .ok y w/\VR m c w v y/\bare v=true:=by
 unfold KB at hv
 split at hv
 ·rename_i ht
  obtain⟨d,hd,hrow⟩:=JDr ht;obtain⟨i,hi⟩:=info_of_underlying hd
  split at hv
  ·rename_i hle
   cases hv;refine⟨.agg (xs.extract off (off+JG P t)),?_,⟨_,rfl,?_⟩,rfl⟩
   ·simp[part,Qg hd,hrow,sizeOf,typeInfo,hi,JU hi]
   ·have h2:=JBf (hr.drop off) (JG P t)
    simpa[Array.toList_extract,Li]using h2
  ·cases hv
 ·rename_i ht
  obtain⟨d,hd,hrow⟩:=kG ht
  cases hcs:(cs.drop off)[0]? with
  |none=>simp[hcs]at hv
  |some u=>
   simp only[hcs,A6,Aj]at hv;subst hv;rw[Bm,BH]at hcs
   obtain⟨x,hx,hu⟩:=hr.get hcs;refine⟨x,?_,hu.cp.r,JG2 _⟩
   have hx':xs[off]? =some x:=by simpa using hx
   simp[part,Qg hd,hrow,hx']
 ·cases hv
theorem JLU(hC:Core vars m c w g h a){o:Oper}{t:TypeId}{x:Operand}{f:Nat}(ho:o.op= .field t x f){v:V}(hv:JV P vars (g,h) (.field t x f)=some v):
  qr P vars m c w g h a o v:=by
 have hx:=hC.opd x;simp only[JV]at hv
 split at hv
 ·rename_i cs off u he hf
  obtain⟨fs,fd,hu,hfd,rfl,rfl⟩:=W5 hf;rw[he]at hx;obtain⟨xs,hy,hr⟩:=hx;obtain⟨y,hp,hvy,hb⟩:=JDt hr hv;exact⟨y,JX (by simp[execOp,ho,hy];rfl) (by simp[Instr.field,run_underlying hu,hfd,asAgg,hp]),hvy.r,TagOK.bare hb⟩
 ·cases hv
theorem Qn{v:V}{n:Int}(hn:idx v=some n):∃k,v= .v (.int k n):=by
 unfold idx at hn
 split at hn
 ·cases hn;exact⟨_,rfl⟩
 ·cases hn
theorem VP.row{k:Own}{rows:List (List V)}{x:Value}(hp:VP c w (.list k rows) x){n:Nat}{row:List V}(hn:rows[n]? =some row):
  ∃ad cap,x= .slice (some ad) rows.length cap/\ad.spot=none/\ROs c w ⟨ad.block,ad.off+n*row.length,none⟩ row:=by
 cases hp with
 |empty=>simp at hn
 |list k rows ad cap sz xs hne hsz hspot hcap hcl hrow hcell hrec=>
  have hl:=hrow n row hn;subst hl;refine⟨ad,cap,rfl,hspot,?_,λj v hj=>⟨xs n j,hcell n j row v hn hj,hrec n j row v hn hj⟩⟩
  have h2:n<rows.length:=(Ad.1 hn).1
  have h3:(n+1)*row.length<=rows.length*row.length:=AH _ h2;rw[Bf]at h3;show ad.off+n*row.length+row.length<=c ad.block
  omega
theorem jV{ad:Addr}(hs:ad.spot=none)(n:Nat):ad.add n=⟨ad.block,ad.off+n,none⟩:=by rw[GL hs];exact KC _ _ _
theorem JBi(hC:Core vars m c w g h a){o:Oper}{t:TypeId}{x i:Operand}(ho:o.op= .indexAddr t x i){v:V}(hv:JV P vars (g,h) (.indexAddr t x i)=some v):
  qr P vars m c w g h a o v:=by
 have hx:=hC.opd x;have hi:=hC.opd i;simp only[JV]at hv
 split at hv
 ·rename_i k rows n e he hn hu
  obtain⟨kk,hkk⟩:=Qn hn;rw[hkk]at hi;have hi':a.eval i= .int kk n:=hi
  split at hv
  ·rename_i h0
   split at hv
   ·rename_i row hrow
    split at hv
    ·rename_i hlen
     cases hv;rw[he]at hx;obtain⟨ad,cap,hy,hsp,hro⟩:=VP.row hx hrow;have hlt:n.toNat<rows.length:=(Ad.1 hrow).1
     refine⟨.pointer (some (ad.add (n.toNat*JG P e))),JX (by simp[execOp,ho,hy,hi'];rfl) ?_,⟨_,rfl,?_,?_⟩,TagOK.bare rfl⟩
     ·obtain⟨ie,hie⟩:∃ie,P.info? e=some ie:=by
       cases hie:P.info? e with
       |some ie=>exact⟨ie,rfl⟩
       |none=>have:=hlen.2;simp[JG,Bx,hie]at this
      have hb:0<=n/\n<(rows.length:Int):=⟨h0,om⟩;simp[Instr.indexAt,asIntOf,run_underlying hu,hb,sizeOf,typeInfo,hie,JU hie]
     ·rw[jV hsp]
     ·rw[jV hsp,<-hlen.1]
      exact hro
    ·cases hv
   ·cases hv
  ·cases hv
 ·rename_i b off mm n e he hn hu
  obtain⟨kk,hkk⟩:=Qn hn;rw[hkk]at hi;have hi':a.eval i= .int kk n:=hi
  split at hv
  ·rename_i hb
   cases hv;rw[he]at hx;obtain⟨gb,cap,hg,hy,hcap⟩:=hx
   obtain⟨ie,hie⟩:∃ie,P.info? e=some ie:=by
    cases hie:P.info? e with
    |some ie=>exact⟨ie,rfl⟩
    |none=>have:=hb.2.2;simp[JG,Bx,hie]at this
   have hs1:ie.size=1:=by rw[<-JU hie];exact hb.2.2
   refine⟨.pointer (some ((⟨gb,off,none⟩:Addr).add n.toNat)),JX (by simp[execOp,ho,hy,hi'];rfl) ?_,⟨gb,hg,by rw[KC]⟩,TagOK.bare rfl⟩
   have hb':0<=n/\n<(mm:Int):=⟨hb.1,hb.2.1⟩;simp[Instr.indexAt,asIntOf,run_underlying hu,hb',sizeOf,typeInfo,hie,hs1]
  ·cases hv
 ·rename_i b mm sz n e he hn hu
  obtain⟨kk,hkk⟩:=Qn hn;rw[hkk]at hi;have hi':a.eval i= .int kk n:=hi
  split at hv
  ·rename_i hb
   cases hv;rw[he]at hx;obtain⟨gb,cap,hg,hy,hcap,_⟩:=hx
   obtain⟨ie,hie⟩:∃ie,P.info? e=some ie:=by
    cases hie:P.info? e with
    |some ie=>exact⟨ie,rfl⟩
    |none=>have h1:=hb.2.2.1;have h2:=hb.2.2.2;simp[JG,Bx,hie]at h1;omega
   refine⟨.pointer (some ((⟨gb,0,none⟩:Addr).add (n.toNat*JG P e))),JX (by simp[execOp,ho,hy,hi'];rfl) ?_,⟨gb,hg,by rw[KC,AE,hb.2.2.1]⟩,TagOK.bare rfl⟩
   have hb':0<=n/\n<(mm:Int):=⟨hb.1,hb.2.1⟩;simp[Instr.indexAt,asIntOf,run_underlying hu,hb',sizeOf,typeInfo,hie,JU hie]
  ·cases hv
 ·rename_i b off n mm e he hn hu
  obtain⟨kk,hkk⟩:=Qn hn;rw[hkk]at hi;have hi':a.eval i= .int kk n:=hi
  split at hv
  ·rename_i hb
   cases hv;rw[he]at hx;obtain⟨gb,hg,hy⟩:=hx
   obtain⟨ie,hie⟩:∃ie,P.info? e=some ie:=by
    cases hie:P.info? e with
    |some ie=>exact⟨ie,rfl⟩
    |none=>have:=hb.2.2;simp[JG,Bx,hie]at this
   refine⟨.pointer (some ((⟨gb,off,none⟩:Addr).add (n.toNat*JG P e))),JX (by simp[execOp,ho,hy,hi'];rfl) ?_,⟨gb,hg,by rw[KC]⟩,TagOK.bare rfl⟩
   have hb':0<=n/\n<(mm:Int):=⟨hb.1,hb.2.1⟩;simp[Instr.indexAt,Instr.sureAddr,asIntOf,run_underlying hu,hb',sizeOf,typeInfo,hie,JU hie]
  ·cases hv
 ·rename_i cs n mm e he hn hu
  obtain⟨kk,hkk⟩:=Qn hn;rw[hkk]at hi;have hi':a.eval i= .int kk n:=hi
  split at hv
  ·rename_i hb
   cases hv;rw[he]at hx;obtain⟨ad,hy,hsp,hr⟩:=hx
   obtain⟨ie,hie⟩:∃ie,P.info? e=some ie:=by
    cases hie:P.info? e with
    |some ie=>exact⟨ie,rfl⟩
    |none=>have:=hb.2.2.1;simp[JG,Bx,hie]at this
   have hb':0<=n/\n<(mm:Int):=⟨hb.1,hb.2.1⟩;refine⟨.pointer (some (ad.add (n.toNat*JG P e))),JX (by simp[execOp,ho,hy,hi'];rfl) ?_,⟨_,rfl,?_,?_⟩,TagOK.bare rfl⟩
   ·simp[Instr.indexAt,Instr.sureAddr,asIntOf,run_underlying hu,hb',sizeOf,typeInfo,hie,JU hie]
   ·rw[GL hsp,KC]
   ·rw[GL hsp,KC]
    refine⟨?_,λj v hj=>?_⟩
    ·have:=hr.1
     have h2:=hb.2.2.2;simp only[Ay];omega
    ·rw[Bm]at hj
     obtain⟨z,hz,hv⟩:=hr.2 _ v hj;exact⟨z,by simpa[Dd]using hz,hv⟩
  ·cases hv
 ·cases hv
theorem JLV(hC:Core vars m c w g h a){o:Oper}{t:TypeId}{x i:Operand}(ho:o.op= .index t x i){v:V}(hv:JV P vars (g,h) (.index t x i)=some v):
  qr P vars m c w g h a o v:=by
 have hx:=hC.opd x;have hi:=hC.opd i;simp only[JV]at hv
 split at hv
 ·rename_i b n he hn hu
  obtain⟨kk,hkk⟩:=Qn hn;rw[hkk]at hi;have hi':a.eval i= .int kk n:=hi;rw[he]at hx;have hx':a.eval x= .string b:=hx
  split at hv
  ·rename_i h0
   cases hj:b.data[n.toNat]? with
   |none=>simp[hj]at hv
   |some u=>
    simp only[hj,A6,Aj]at hv;subst hv;refine⟨_,JX (by simp[execOp,ho,hx',hi'];rfl) ?_,rfl,TagOK.bare rfl⟩
    have hb:b[n.toNat]? =some u:=by
     obtain⟨hl,hq⟩:=AX.1 hj
     have:b[n.toNat]? =some (b[n.toNat]'hl):=by rw[getElem?_pos]
     rw[this];exact congrArg some hq
    simp[Instr.index,asIntOf,run_underlying hu,h0,hb]
  ·cases hv
 ·rename_i cs n mm e he hn hu
  obtain⟨kk,hkk⟩:=Qn hn;rw[hkk]at hi;have hi':a.eval i= .int kk n:=hi;rw[he]at hx;obtain⟨xs,hy,hr⟩:=hx
  split at hv
  ·rename_i hb
   obtain⟨y,hp,hvy,hbr⟩:=JDt hr hv;refine⟨y,JX (by simp[execOp,ho,hy,hi'];rfl) ?_,hvy.r,TagOK.bare hbr⟩
   obtain⟨ie,hie⟩:∃ie,P.info? e=some ie:=by
    have:(Q3 P e).isSome=true:=by
     unfold KB at hv
     split at hv<;>simp_all
    unfold Q3 at this
    split at this
    ·rename_i hq;exact info_of_underlying hq
    ·rename_i hq;exact info_of_underlying hq
    ·rename_i hq;exact info_of_underlying hq
    ·simp at this
   rw[JU hie]at hp;have hb':0<=n/\n<(mm:Int):=⟨hb.1,hb.2⟩;simp[Instr.index,asIntOf,run_underlying hu,hb',sizeOf,typeInfo,hie,hp]
  ·cases hv
 ·cases hv
theorem JG3(hC:Core vars m c w g h a){o:Oper}{x:Operand}{i:Nat}(ho:o.op= .extract x i){v:V}(hv:JV P vars (g,h) (.extract x i)=some v):
  qr P vars m c w g h a o v:=by
 have hx:=hC.opd x;simp only[JV]at hv
 split at hv
 ·rename_i vs he
  rw[he]at hx;obtain⟨xs,hy,hr⟩:=hx
  cases hj:vs[i]? with
  |none=>simp[hj]at hv
  |some u=>
   simp only[hj,A6,Aj]at hv;subst hv;obtain⟨z,hz,hu⟩:=hr.get hj;have hz':xs[i]? =some z:=by simpa using hz
   exact⟨z,JX (by simp[execOp,ho,hy];rfl) (by simp[Instr.extract,hz']),hu.cps.r,TagOK.bare (Yw _)⟩
 ·cases hv
end
section
variable{P:Program}{vars:List Nat}{m:List Nat}{c:Cl}{w:World}{g:Jj}{h:JC}{a:Act}
theorem JBj(hC:Core vars m c w g h a){o:Option Operand}{d k:Nat}(hk:yy g o d=some k):
  (o=none/\k=d)\/ ∃x kk,o=some x/\a.eval x= .int kk k:=by
 unfold yy at hk
 split at hk
 ·cases hk;exact .inl ⟨rfl,rfl⟩
 ·rename_i x
  split at hk
  ·rename_i n hn
   split at hk
   ·rename_i h0
    cases hk;obtain⟨kk,hkk⟩:=Qn hn;have hx:=hC.opd x;rw[hkk]at hx;have hx':a.eval x= .int kk n:=hx;exact .inr ⟨x,kk,rfl,by rw[hx',Int.toNat_of_nonneg h0]⟩
   ·cases hk
  ·cases hk
theorem WZ(kk:IntKind)(n y:Nat)(code:BoundsCode)(hn:n<=y):(Instr.sliceBound (.int kk n) y code).run P w= .ok n w:=by have hb:0<=(n:Int)/\(n:Int)<=y:=⟨om,om⟩;simp[Instr.sliceBound,asIntOf,hn]
theorem Q8(hC:Core vars m c w g h a){lo hi:Option Operand}{len cap l k:Nat}(b:Bool)(hk:yy g hi len=some k)(hl:yy g lo 0=some l)
  (h1:l<=k)(h2:k<=cap):(Instr.sliceBounds b len cap (lo.map a.eval) (hi.map a.eval) none).run P w= .ok (l,k,cap) w:=by
 unfold Instr.sliceBounds;rcases JBj hC hk with⟨rfl,rfl⟩|⟨x,kk,rfl,hx⟩
 ·rcases JBj hC hl with⟨rfl,rfl⟩|⟨y,kl,rfl,hy⟩
  ·rfl
  ·simp[hy,WZ kl l k _ h1]
 ·rcases JBj hC hl with⟨rfl,rfl⟩|⟨y,kl,rfl,hy⟩
  ·simp[hx,WZ kk k cap _ h2]
  ·simp[hx,hy,WZ kl l k _ h1,WZ kk k cap _ h2]
theorem JLW(hC:Core vars m c w g h a){o:Oper}{t:TypeId}{x:Operand}{lo hi mx:Option Operand}(ho:o.op= .slice t x lo hi mx){v:V}(hv:JV P vars (g,h) (.slice t x lo hi mx)=some v):
  qr P vars m c w g h a o v:=by
 have hx:=hC.opd x;simp only[JV]at hv
 split at hv
 ·rename_i b he hu
  rw[he]at hx;have hx':a.eval x= .string b:=hx
  split at hv
  ·rename_i k hk
   split at hv
   ·rename_i l hl
    split at hv
    ·rename_i hb
     cases hv;refine⟨_,JX (by simp[execOp,ho,hx'];rfl) ?_,rfl,TagOK.bare rfl⟩
     have hs:=Q8 (P:=P) hC (cap:=b.size) false hk hl hb.1 hb.2;simp[Instr.sliceAt,Instr.slice,run_underlying hu,hs]
    ·cases hv
   ·cases hv
  ·cases hv
 ·rename_i kf rows e he hu
  rw[he]at hx
  split at hv
  ·rename_i k hk
   split at hv
   ·rename_i l hl
    split at hv
    ·rename_i hb
     cases hv;obtain⟨hlk,hkn,hsz,hall⟩:=hb;have hp:VP c w (.list kf rows) (a.eval x):=hx
     cases hq:a.eval x with
     |slice ao n cap=>
      rw[hq]at hp
      obtain⟨ie,hie⟩:∃ie,P.info? e=some ie:=by
       cases hie:P.info? e with
       |some ie=>exact⟨ie,rfl⟩
       |none=>simp[JG,Bx,hie]at hsz
      have hn:n=rows.length:=by cases hp<;>rfl
      subst hn
      have hcap:k<=cap:=by cases hp with
       |empty=>simp at hkn;omega
       |list=>omega
      have hs:=Q8 (P:=P) hC (cap:=cap) (len:=rows.length) true hk hl hlk hcap;refine⟨.slice (if cap=l then ao else ao.map (·.add (l*JG P e))) (k-l) (cap-l),JX (by simp[execOp,ho,hq];rfl) ?_,?_,TagOK.bare rfl⟩
      ·simp[Instr.sliceAt,Instr.slice,run_underlying hu,hs,sizeOf,typeInfo,hie,JU hie]
      ·show VP c w (.list .no ((rows.take k).drop l)) _
       by_cases hempty:(rows.take k).drop l=[]
       ·rw[hempty]
        have:k-l=0:=by have:=congrArg AW hempty;simp at this;omega
        rw[this];exact .empty _ _ _
       ·cases hp with
        |empty=>simp at hempty
        |list kf rows ad cap sz xs hne hsz' hspot hcp hcl hrow hcell hrec=>
         have hlen:((rows.take k).drop l).length=k-l:=by simp;omega
         have hlt:l<k:=by have:0<((rows.take k).drop l).length:=List.length_pos_iff.2 hempty;omega
         have hszeq:JG P e=sz:=by
          obtain⟨r0,hr0⟩:=List.exists_mem_of_ne_nil _ hne;obtain⟨i0,hi0,hi1⟩:=A8 hr0;have h1:=As.1 hall r0 hr0;have h2:=hrow i0 r0 (by rw[Ac hi0,hi1])
          simp at h1;omega
         rw[hszeq];have hne':¬cap=l:=om;rw[if_neg hne',<-hlen];simp only[A6,jV hspot]
         have hget:∀(i:Nat) row,((rows.take k).drop l)[i]? =some row->rows[l+i]? =some row:=λi row hi=>by
          rw[Bm,AK]at hi
          split at hi
          ·exact hi
          ·cases hi
         refine VP.list .no _ _ _ sz (λi j=>xs (l+i) j) hempty hsz' rfl om ?_ (λi row hi=>hrow _ row (hget i row hi)) ?_ (λi j row v hi hj=>hrec _ j row v (hget i row hi) hj)
         ·show ad.off+l*sz+((rows.take k).drop l).length*sz<=c ad.block
          rw[hlen];have:(l+(k-l))*sz<=rows.length*sz:=AH _ om;rw[Bf]at this;omega
         ·intro i j row v hi hj
          have:=hcell _ j row v (hget i row hi) hj;rw[Bf]at this;show w.cell? ⟨ad.block,ad.off+l*sz+i*sz+j,none⟩=_
          rw[<-this]
          congr 2
          omega
     |_=>rw[hq]at hp;cases hp
    ·cases hv
   ·cases hv
  ·cases hv
 ·rename_i b n sz e he hu
  rw[he]at hx;obtain⟨gb,cap,hg,hy,hcap,hrest⟩:=hx
  split at hv
  ·rename_i k hk
   split at hv
   ·rename_i l hl
    split at hv
    ·rename_i hb
     cases hv;obtain⟨hl0,hkn,hsz,hsz0⟩:=hb;subst hl0
     obtain⟨ie,hie⟩:∃ie,P.info? e=some ie:=by
      cases hie:P.info? e with
      |some ie=>exact⟨ie,rfl⟩
      |none=>simp[JG,Bx,hie]at hsz;omega
     have hs:=Q8 (P:=P) hC (cap:=cap) (len:=n) true hk hl (A9 _) om;refine⟨.slice (some ⟨gb,0,none⟩) k cap,JX (by simp[execOp,ho,hy];rfl) ?_,⟨gb,cap,hg,rfl,om,hrest⟩,TagOK.bare rfl⟩
     simp[Instr.sliceAt,Instr.slice,run_underlying hu,hs,sizeOf,typeInfo,hie,JU hie,KC]
    ·cases hv
   ·cases hv
  ·cases hv
 ·rename_i b off n e he hu
  rw[he]at hx;obtain⟨gb,hg,hy⟩:=hx
  split at hv
  ·rename_i k hk
   split at hv
   ·rename_i l hl
    split at hv
    ·rename_i hb
     cases hv
     obtain⟨ie,hie⟩:∃ie,P.info? e=some ie:=by
      cases hie:P.info? e with
      |some ie=>exact⟨ie,rfl⟩
      |none=>have:=hb.2.2.2;simp[JG,Bx,hie]at this
     have hs1:ie.size=1:=by rw[<-JU hie];exact hb.2.2.2
     have hs:=Q8 (P:=P) hC (cap:=n) (len:=n) false hk hl hb.1 hb.2.1;have hnl:¬n=l:=by have:=hb.2.2.1;omega
     refine⟨.slice (some ((⟨gb,off,none⟩:Addr).add l)) (k-l) (n-l),JX (by simp[execOp,ho,hy];rfl) ?_,⟨gb,n-l,hg,by rw[KC],om⟩,TagOK.bare rfl⟩
     simp[Instr.sliceAt,run_underlying hu,Instr.sureAddr,hs,sizeOf,typeInfo,hie,hs1,hnl]
    ·cases hv
   ·cases hv
  ·cases hv
 ·cases hv
theorem VRr.leaf{v:V}{x:Value}(hx:VRr m c w v x)(hl:qf v=true):VR0 m c w v x:=by cases v<;>first|exact hx|(simp[qf]at hl)
theorem JJS(hC:Core vars m c w g h a){ops:Array Operand}(hl:∀z∈ops.toList,qf (opd g z)=true/\isU (opd g z)=false):
  R2 (VR0 m c w) (ops.toList.map λc=>cp (opd g c)) (ops.map a.eval).toList/\ ∀u∈(ops.toList.map λc=>cp (opd g c)),isU u=false:=by
 refine⟨⟨by simp,λi u y hu hy=>?_⟩,λu hu=>?_⟩
 ·simp only[Ax,Ak]at hu
  obtain⟨z,hz,rfl⟩:=hu;simp only[B5,Ax,Ak]at hy
  obtain⟨z',hz',rfl⟩:=hy;rw[hz]at hz';cases hz';exact(VRr.leaf (hC.opd z) (hl z (Ar hz)).1).cp
 ·obtain⟨z,hz,rfl⟩:=List.mem_map.1 hu
  have:=(hl z hz).2;cases hv:opd g z<;>rw[hv]at this<;>first|rfl|cases this
theorem JDT(hC:Core vars m c w g h a){o:Oper}{fn:Fn}{first caps:Array Operand}(ho:o.op= .makeFunc fn first caps){v:V}(hv:JV P vars (g,h) (.makeFunc fn first caps)=some v):
  qr P vars m c w g h a o v:=by
 simp only[JV]at hv
 split at hv
 ·rename_i f
  split at hv
  ·rename_i hb
   have hl:∀z,z∈first.toList++caps.toList->qf (opd g z)=true/\isU (opd g z)=false:=λz hz=>by have:=As.1 hb z hz;simpa using this
   obtain⟨r1,u1⟩:=JJS hC (ops:=first) λz hz=>hl z (AN.2 (.inl hz))
   obtain⟨r2,u2⟩:=JJS hC (ops:=caps) λz hz=>hl z (AN.2 (.inr hz))
   split at hv
   ·rename_i hb1
    cases hv;have hf:first= #[]:=CH hb1
    subst hf;obtain⟨e1,e2⟩:=JQN u2;exact⟨.func (.func f) #[] (caps.map a.eval),JX (by simp[execOp,ho];rfl) (by simp[Instr.makeFunc]),⟨#[],_,rfl,by rw[e1];exact R2.nil,by rw[e2];exact r2⟩,TagOK.bare rfl⟩
   ·split at hv
    ·rename_i hb2
     cases hv;have hf:caps= #[]:=CH hb2;subst hf;exact⟨.func (.func f) (first.map a.eval) #[],JX (by simp[execOp,ho];rfl) (by simp[Instr.makeFunc]),⟨_,#[],rfl,r1,R2.nil⟩,TagOK.bare rfl⟩
    ·cases hv
  ·cases hv
 ·cases hv
theorem JQP(hC:Core vars m c w g h a){o:Oper}{k:Call}(ho:o.op= .call k){v:V}(hv:JV P vars (g,h) (.call k)=some v):
  qr P vars m c w g h a o v:=by
 simp only[JV]at hv
 split at hv
 ·rename_i hc
  have hrun:∀(t:TypeId) (x:Operand) (y:Value),k.args[0]? =some x->k.argTypes[0]? =some t->(Builtin.len_ k.argTypes o.type (k.args.map a.eval)).run P w= .ok y w->Qm P w a o y:=λt x y hx ht hr=>by
   refine JX (s:=Builtin.len_ k.argTypes o.type (k.args.map a.eval)) ?_ hr
   simp[execOp,ho,resolve,hc,invoke,builtin]
  split at hv
  ·rename_i kf rows e h1 h2
   cases hv;simp only[Ak]at h1;obtain⟨x,hx,he⟩:=h1;simp only[CA]at h2;obtain⟨t,ht,hu⟩:=h2;have hp:=hC.opd x;rw[he]at hp;have hp':VP c w (.list kf rows) (a.eval x):=hp
   obtain⟨ao,cap,hq⟩:∃ao cap,a.eval x= .slice ao rows.length cap:=by
    generalize a.eval x=y at hp'
    cases hp' with
    |empty k ao cap=>exact⟨ao,cap,rfl⟩
    |list=>exact⟨_,_,rfl⟩
   refine⟨_,hrun t x _ hx ht ?_,rfl,TagOK.bare rfl⟩
   simp[Builtin.len_,ht,hx,hq,run_underlying hu,goInt]
  ·rename_i e h1 h2
   cases hv;simp only[Ak]at h1;obtain⟨x,hx,he⟩:=h1;simp only[CA]at h2;obtain⟨t,ht,hu⟩:=h2;have hp:=hC.opd x;rw[he]at hp;have hq:a.eval x= .slice none 0 0:=hp;refine⟨_,hrun t x _ hx ht ?_,rfl,TagOK.bare rfl⟩
   simp[Builtin.len_,ht,hx,hq,run_underlying hu,goInt]
  ·rename_i b off n e h1 h2
   cases hv;simp only[Ak]at h1;obtain⟨x,hx,he⟩:=h1;simp only[CA]at h2;obtain⟨t,ht,hu⟩:=h2;have hp:=hC.opd x;rw[he]at hp;obtain⟨gb,cap,hg,hq,hcap⟩:=hp;refine⟨_,hrun t x _ hx ht ?_,rfl,TagOK.bare rfl⟩
   simp[Builtin.len_,ht,hx,hq,run_underlying hu,goInt]
  ·rename_i b n sz e h1 h2
   cases hv;simp only[Ak]at h1;obtain⟨x,hx,he⟩:=h1;simp only[CA]at h2;obtain⟨t,ht,hu⟩:=h2;have hp:=hC.opd x;rw[he]at hp;obtain⟨gb,cap,hg,hq,hcap,_⟩:=hp;refine⟨_,hrun t x _ hx ht ?_,rfl,TagOK.bare rfl⟩
   simp[Builtin.len_,ht,hx,hq,run_underlying hu,goInt]
  ·rename_i b h1 h2
   cases hv;simp only[Ak]at h1;obtain⟨x,hx,he⟩:=h1;simp only[CA]at h2;obtain⟨t,ht,hu⟩:=h2;have hp:=hC.opd x;rw[he]at hp;have hq:a.eval x= .string b:=hp;refine⟨_,hrun t x _ hx ht ?_,rfl,TagOK.bare rfl⟩
   simp[Builtin.len_,ht,hx,hq,run_underlying hu,goInt]
  ·cases hv
 ·rename_i hc
  split at hv
  ·rename_i k1 x k2 y he
   split at hv
   ·rename_i hk
    cases hv;subst hk
    have h2:k.args.toList.map a.eval=[.int k1 x,.int k1 y]:=by
     rcases hl:k.args.toList with _|⟨p,_|⟨q,_|⟨p',r⟩⟩⟩
     ·rw[hl]at he;simp at he
     ·rw[hl]at he;simp at he
     ·rw[hl]at he
      simp only[A3,CB,BV,and_true]at he;have h1:=hC.opd p;have h2:=hC.opd q;rw[he.1]at h1;rw[he.2]at h2;have h1':a.eval p=_:=h1;have h2':a.eval q=_:=h2;simp[h1',h2']
     ·rw[hl]at he;simp at he
    refine⟨_,JX (s:=Builtin.min_ k.argTypes o.type (k.args.map a.eval)) (by simp[execOp,ho,resolve,hc,invoke,builtin]) ?_,rfl,TagOK.bare rfl⟩
    simp[Builtin.min_,h2,Builtin.min2]
   ·cases hv
  ·cases hv
 ·rename_i hc
  split at hv
  ·rename_i k1 x k2 y he
   split at hv
   ·rename_i hk
    cases hv;subst hk
    have h2:k.args.toList.map a.eval=[.int k1 x,.int k1 y]:=by
     rcases hl:k.args.toList with _|⟨p,_|⟨q,_|⟨p',r⟩⟩⟩
     ·rw[hl]at he;simp at he
     ·rw[hl]at he;simp at he
     ·rw[hl]at he
      simp only[A3,CB,BV,and_true]at he;have h1:=hC.opd p;have h2:=hC.opd q;rw[he.1]at h1;rw[he.2]at h2;have h1':a.eval p=_:=h1;have h2':a.eval q=_:=h2;simp[h1',h2']
     ·rw[hl]at he;simp at he
    refine⟨_,JX (s:=Builtin.max_ k.argTypes o.type (k.args.map a.eval)) (by simp[execOp,ho,resolve,hc,invoke,builtin]) ?_,rfl,TagOK.bare rfl⟩
    simp[Builtin.max_,h2,Builtin.max2]
   ·cases hv
  ·cases hv
 ·cases hv
theorem Qv{v:V}{y:Value}(hv:VRr m c w v y)(hp:Wo v=true):R2 (VR1 m c w) (cellsV v) y.cells.toList:=by
 cases v with
 |v z=>
  have:y=z:=hv;subst this;have:y.cells= #[y]:=by cases y<;>first|rfl|(simp[Wo,Value.oneCell']at hp)
  rw[this]
  exact R2.cons rfl R2.nil
 |nil=>have:y= .slice none 0 0:=hv;subst this;exact R2.cons rfl R2.nil
 |list k r=>have h2:VP c w (.list k r) y:=hv;cases h2<;>exact R2.cons hv R2.nil
 |ptr b o=>obtain⟨g,hg,rfl⟩:=hv;exact R2.cons ⟨g,hg,rfl⟩ R2.nil
 |mp b=>obtain⟨g,hg,rfl⟩:=hv;exact R2.cons ⟨g,hg,rfl⟩ R2.nil
 |rp cs=>obtain⟨ad,rfl,hs,hr⟩:=hv;exact R2.cons ⟨ad,rfl,hs,hr⟩ R2.nil
 |buf b o n=>obtain⟨g,cap,hg,rfl,hc⟩:=hv;exact R2.cons ⟨g,cap,hg,rfl,hc⟩ R2.nil
 |stk b n sz=>obtain⟨g,cap,hg,rfl,hc⟩:=hv;exact R2.cons ⟨g,cap,hg,rfl,hc⟩ R2.nil
 |agg cs=>obtain⟨xs,rfl,hr⟩:=hv;exact hr
 |tup vs=>simp[Wo]at hp
 |fn f cs=>obtain⟨fs,xs,rfl,hr1,hr⟩:=hv;exact R2.cons ⟨fs,xs,rfl,hr1,hr⟩ R2.nil
 |undef=>simp[Wo]at hp
 |any=>simp[Wo]at hp
theorem Hf(off:Nat):∀(vs:List Value) (k:Nat) (zs:Array Value),off+k+vs.length<=zs.size->
  ((vs.zipIdx k).foldl (λcs p=>cs.setIfInBounds (off+p.2) p.1) zs).toList=zs.toList.take (off+k)++vs++zs.toList.drop (off+k+vs.length)
 |[],k,zs,_=>by simp
 |v::vs,k,zs,hb=>by
  simp only[Ae]at hb;have ih:=Hf off vs (k+1) (zs.setIfInBounds (off+k) v) (by simp;omega)
  simp only[List.zipIdx_cons,Lo];rw[ih];have hlt:off+k<zs.toList.length:=by simp;omega
  simp only[Array.toList_setIfInBounds,Ae];rw[show off+(k+1)=off+k+1 by omega,List.take_succ_eq_append_getElem (by simpa using hlt),List.getElem_set_self,Da om,List.drop_set_of_lt om]
  simp only[List.append_assoc,Al,List.nil_append];rw[show off+k+1+vs.length=off+k+(vs.length+1)by omega]
theorem Hg{place:Nat->Option (Nat×Nat)}:∀(parts:List (Nat×V)) (qs:List (Nat×Value)) (cs:List V) (zs:Array Value) (ds:List V),
  R2 (λp q=>p.1=q.1/\VRr m c w p.2 q.2) parts qs->R2 (VR1 m c w) cs zs.toList->Hb place parts cs=some ds->
  ∃ys:Array Value,Instr.fill place zs qs=some ys/\R2 (VR1 m c w) ds ys.toList
 |[],qs,cs,zs,ds,hp,hc,hd=>by
  have:qs=[]:=AC hp.1.symm;subst this;cases hd
  exact⟨zs,rfl,hc⟩
 |(i,x)::r,qs,cs,zs,ds,hp,hc,hd=>by
  match qs,hp with
  |[],hp=>simp[R2]at hp
  |(j,y)::s,hp=>
   have h0:=hp.head;simp only at h0;obtain⟨rfl,hxy⟩:=h0;unfold Hb at hd
   split at hd
   ·rename_i off n hpl
    split at hd
    ·rename_i hb
     have hcells:R2 (VR1 m c w) (cellsV x) y.cells.toList:=Qv hxy hb.1;have hlen:y.cells.size=n:=by have:=hcells.1;have:=hb.2.1;simp at*;omega
     have hzs:zs.size=cs.length:=by have:=hc.1;simp at this;omega
     have hfold:∃ys:Array Value,y.cells.zipIdx.foldl (λcs (c,j)=>cs.setIfInBounds (off+j) c) zs=ys/\R2 (VR1 m c w) (cs.take off++(cellsV x).map cp++cs.drop (off+n)) ys.toList:=by
      refine⟨_,rfl,?_⟩
      have hf:=Hf off y.cells.toList 0 zs (by have:=hb.2.2;simp[hlen,hzs];omega)
      have he:(y.cells.zipIdx.foldl (λcs (c,j)=>cs.setIfInBounds (off+j) c) zs).toList=zs.toList.take off++y.cells.toList++zs.toList.drop (off+n):=by simp only[BH,Array.length_toList,hlen]at hf;rw[<-hf,<-Array.foldl_toList,Array.toList_zipIdx]
      rw[he];exact((hc.take off).append (by simpa using hcells.map (f:=cp) (g:=id) λ_ _=>VR1.cp)).append (hc.drop _)
     obtain⟨ys,hys,hr⟩:=hfold;obtain⟨us,hus,hr'⟩:=Hg r s _ ys ds hp.tail hr hd;refine⟨us,?_,hr'⟩
     unfold Instr.fill;simp only[hpl];rw[if_neg (by have:=hb.2.2;simp[hlen,hzs];omega),hys]
     exact hus
    ·cases hd
   ·cases hd
theorem Yx(z:Value):R2 (VR1 m c w) (z.cells.toList.map KW) z.cells.toList:=
 ⟨by simp,λi u y hu hy=>by
  simp only[Ax,Ak]at hu
  obtain⟨q,hq,rfl⟩:=hu;rw[hq]at hy;cases hy
  exact JBe _⟩
theorem Wt{t:TypeId}{z:List Value}(hz:K0 P t=some z):∃zv,(zeroValue t).run P w= .ok zv w/\z=zv.cells.toList:=by
 unfold K0 at hz
 cases hi:P.info? t with
 |none=>simp[hi]at hz
 |some i=>
  cases hz0:i.zero with
  |none=>simp[hi,hz0]at hz
  |some zv=>simp only[hi,Option.bind_some,hz0,A6,Aj]at hz;exact⟨zv,by simp[zeroValue,typeInfo,hi,hz0],hz.symm⟩
theorem JLX:∀(l:List Field),(∀f∈l,∃i,P.info? f.type=some i)->
  (l.toArray.mapM (m:=Sem) λf=>do pure (f.offset,<-sizeOf f.type)).run P w= .ok (l.map λf=>(f.offset,JG P f.type)).toArray w:=by
 intro l hl;rw[List.mapM_toArray,Sem.run_map]
 have:∀(l:List Field),(∀f∈l,∃i,P.info? f.type=some i)->(l.mapM (m:=Sem) λf=>do pure (f.offset,<-sizeOf f.type)).run P w= .ok (l.map λf=>(f.offset,JG P f.type)) w:=by
  intro l
  induction l with
  |nil=>intro _;rfl
  |cons f l ih=>
   intro hl;obtain⟨i,hi⟩:=hl f (by simp)
   rw[List.mapM_cons];simp only[BB,WD hi,Bk,Dl,ih (λf hf=>hl f (by simp[hf])),A3,JU hi]
 rw[this l hl]<;>rfl
theorem JLY(hC:Core vars m c w g h a){o:Oper}{t:TypeId}{parts:Array (Nat×Operand)}(ho:o.op= .build t parts){v:V}(hv:JV P vars (g,h) (.build t parts)=some v):
  qr P vars m c w g h a o v:=by
 simp only[JV]at hv
 split at hv
 ·cases hv
 ·rename_i z hz
  obtain⟨zv,hzv,rfl⟩:=Wt (w:=w) hz
  have hparts:R2 (λ(p:Nat×V) (q:Nat×Value)=>p.1=q.1/\VRr m c w p.2 q.2) (parts.toList.map λp=>(p.1,opd g p.2)) (parts.map λ(i,x)=>(i,a.eval x)).toList:=by
   refine⟨by simp,λi u y hu hy=>?_⟩
   simp only[B5,Ax,Ak]at hu hy
   obtain⟨p,hp,rfl⟩:=hu;obtain⟨q,hq,rfl⟩:=hy;rw[hp]at hq;cases hq;exact⟨rfl,hC.opd _⟩
  split at hv
  ·rename_i fs hu
   split at hv
   ·rename_i hok
    simp only[Ak]at hv;obtain⟨ds,hds,rfl⟩:=hv
    have hall:∀f∈fs.toList,∃i,P.info? f.type=some i:=by intro f hf;unfold structOk tfields at hok;simp only[hu,LU,As]at hok;exact Bi.1 (hok f hf)
    have hm:=JLX fs.toList hall (w:=w);rw[Array.toArray_toList]at hm
    have hplace:(λi=>(JZ P t i).map λp=>(p.1,JG P p.2))=λi=>(fs.toList.map λf=>(f.offset,JG P f.type)).toArray[i]? :=by
     funext i
     unfold JZ tfields;simp only[hu];simp only[Ax,Option.map_map,List.getElem?_toArray]
     rfl
    rw[hplace]at hds;obtain⟨ys,hys,hr⟩:=Hg _ _ _ zv.cells ds hparts (Yx zv) hds;refine⟨.agg ys,JX (by simp[execOp,ho];rfl) ?_,⟨ys,rfl,hr⟩,TagOK.bare rfl⟩
    unfold Instr.build;simp only[BB,hzv,Bk,run_underlying hu,hm,hys];rfl
   ·cases hv
  ·rename_i n e hu
   split at hv
   ·rename_i hok
    simp only[Ak]at hv;obtain⟨ds,hds,rfl⟩:=hv;obtain⟨ie,hie⟩:=Bi.1 hok;obtain⟨ys,hys,hr⟩:=Hg _ _ _ zv.cells ds hparts (Yx zv) hds;rw[JU hie]at hys;refine⟨.agg ys,JX (by simp[execOp,ho];rfl) ?_,⟨ys,rfl,hr⟩,TagOK.bare rfl⟩
    unfold Instr.build;simp only[BB,hzv,Bk,run_underlying hu,WD hie,hys];rfl
   ·cases hv
  ·cases hv
theorem VP.v_eq{y x:Value}(hp:VP c w (.v y) x):x=y:=by cases hp;rfl
theorem Gi:∀{rows:List (List V)} {l:List UInt8},bytesOf rows=some l->
  ∃ns:List Int,rows=ns.map (λn=>[.v (.int .u8 n)])/\l=ns.map λn=>Bh n.toNat
 |[],l,hb=>by cases hb;exact⟨[],rfl,rfl⟩
 |r::rows,l,hb=>by
  unfold bytesOf at hb
  split at hb
  ·rename_i h1;cases h1
  ·rename_i n rest h1
   cases h1;simp only[Ak]at hb;obtain⟨l',hl',rfl⟩:=hb;obtain⟨ns,rfl,rfl⟩:=Gi hl';exact⟨n::ns,rfl,rfl⟩
  ·cases hb
theorem zG:∀(ns:List Int) (b:ByteArray),ns.foldl (λr n=>r.push (Bh n.toNat)) b=⟨b.data++(ns.map λn=>Bh n.toNat).toArray⟩
 |[],b=>by simp
 |n::ns,b=>by
  rw[Lo,zG ns]
  congr 1
  simp[ByteArray.push]
theorem Yy{s d e:TypeId}(hs:P.underlying s=some (.slice e))(hd:P.underlying d=some .string)(he:P.underlying e=some (.int .u8))(y:Value)(ao:Option Addr)(n cap:Nat)(hy:y= .slice ao n cap):
  (convert s d y).run P w=(Conv.bytesToString y).run P w:=by
 subst hy;simp[convert,run_underlying hs,run_underlying hd,run_underlying he]
theorem jW{b:TypeId}(h1:Ha P b=true):P.underlying b=some .string:=by
 unfold Ha at h1
 split at h1
 ·assumption
 ·cases h1
theorem JNC{b:TypeId}(h1:qg P b=true):P.underlying b=some (.int .u8):=by
 unfold qg at h1
 split at h1
 ·assumption
 ·cases h1
theorem JYS{b:TypeId}(h1:JBO P b=true):P.underlying b=some (.int .i32):=by
 unfold JBO at h1
 split at h1
 ·assumption
 ·cases h1
theorem qt:∀{rows:List (List V)} {l:List Int},jS rows=some l->rows=l.map (λn=>[.v (.int .i32 n)])
 |[],l,hb=>by cases hb;rfl
 |r::rows,l,hb=>by
  unfold jS at hb
  split at hb
  ·rename_i h1;cases h1
  ·rename_i n rest h1
   cases h1;simp only[Ak]at hb;obtain⟨l',hl',rfl⟩:=hb;rw[qt hl']<;>rfl
  ·cases hb
theorem Hh{s d e:TypeId}(hs:P.underlying s=some (.slice e))(hd:P.underlying d=some .string)(he:P.underlying e=some (.int .i32))(y:Value)(ao:Option Addr)(n cap:Nat)(hy:y= .slice ao n cap):
  (convert s d y).run P w=(Conv.runesToString y).run P w:=by
 subst hy;exact run_convert_runes_string w s d e ao n cap hs he hd
theorem JG4(hC:Core vars m c w g h a){o:Oper}{s d:TypeId}{x:Operand}(ho:o.op= .convert s d x){v:V}(hv:JV P vars (g,h) (.convert s d x)=some v):
  qr P vars m c w g h a o v:=by
 have hx:=hC.opd x;simp only[JV]at hv
 split at hv
 ·rename_i y he
  rw[he]at hx;have hx':a.eval x=y:=hx;unfold JJN at hv
  split at hv
  ·rename_i k' k n h1 h2 h3
   cases h3;cases hv;exact⟨_,JX (by simp[execOp,ho,hx'];rfl) (by simp[convert,run_underlying h1,run_underlying h2,Conv.intToInt]),rfl,TagOK.bare rfl⟩
  ·rename_i k' k n h1 h2 h3
   cases h3;cases hv;exact⟨_,JX (by simp[execOp,ho,hx'];rfl) (by simp[convert,run_underlying h1,run_underlying h2,Conv.intToString]),rfl,TagOK.bare rfl⟩
  ·rename_i b h1 h2 h3
   cases h3;cases hv;exact⟨_,JX (by simp[execOp,ho,hx'];rfl) (by simp[convert,run_underlying h1,run_underlying h2]),rfl,TagOK.bare rfl⟩
  ·cases hv
 ·rename_i kf rows he
  rw[he]at hx;have hp:VP c w (.list kf rows) (a.eval x):=hx
  split at hv
  ·rename_i hd
   have hd:=jW hd
   split at hv
   ·rename_i e hs
    split at hv
    ·rename_i hu
     have hu:=JNC hu;simp only[Ak]at hv;obtain⟨l,hl,rfl⟩:=hv;obtain⟨ns,rfl,rfl⟩:=Gi hl;refine⟨.string ⟨(ns.map λn:Int=>Bh n.toNat).toArray⟩,JX (s:=convert s d (a.eval x)) (by simp[execOp,ho]) ?_,rfl,TagOK.bare rfl⟩
     generalize a.eval x=y at hp;by_cases hns:ns=[]
     ·subst hns
      cases hp with
      |empty k ao cap=>
       rw[Yy hs hd hu _ ao 0 cap rfl]
       cases ao with
       |none=>rfl
       |some ad=>rfl
      |list k rows ad cap sz xs hne=>exact absurd rfl hne
     ·generalize hrw:ns.map (λn=>[V.v (.int .u8 n)])=rows at hp
      cases hp with
      |empty=>simp at hrw;exact absurd hrw hns
      |list k rows ad cap sz xs hne hsz hspot hcap hcl hrow hcell hrec=>
       subst hrw;have hlen:(ns.map (λn=>[V.v (.int .u8 n)])).length=ns.length:=by simp
       rw[Yy hs hd hu _ (some ad) _ cap rfl,hlen]
       have hld:(loadCells ad ns.length).run P w= .ok (ns.map (AQ .u8)).toArray w:=by
        have:=run_loadCells_list (P:=P) w ad (ns.map (AQ .u8)) (λj v hj=>by
         simp only[Ax,Ak]at hj
         obtain⟨n,hn,rfl⟩:=hj;have h1:(ns.map (λn=>[V.v (.int .u8 n)]))[j]? =some [V.v (.int .u8 n)]:=by simp[hn]
         have hs1:=hrow j _ h1;simp only[Ae,An,AE]at hs1;have h2:=hcell j 0 _ _ h1 rfl;have h3:=hrec j 0 _ _ h1 rfl;rw[<-hs1,Du,BH]at h2;rw[jV hspot,h2];have h4:xs j 0= .int .u8 n:=VP.v_eq h3
         rw[h4])
        simpa using this
       rw[run_bytesToString w ad _ _ ns hld,zG];simp
    ·split at hv
     ·rename_i hu
      have hu:=JYS hu;simp only[Ak]at hv;obtain⟨ns,hl,rfl⟩:=hv;obtain rfl:=qt hl;refine⟨.string (runesBytes ns),JX (s:=convert s d (a.eval x)) (by simp[execOp,ho]) ?_,rfl,TagOK.bare rfl⟩
      generalize a.eval x=y at hp;by_cases hns:ns=[]
      ·subst hns
       cases hp with
       |empty k ao cap=>
        rw[Hh hs hd hu _ ao 0 cap rfl]
        cases ao with
        |none=>rfl
        |some ad=>rfl
       |list k rows ad cap sz xs hne=>exact absurd rfl hne
      ·generalize hrw:ns.map (λn=>[V.v (.int .i32 n)])=rows at hp
       cases hp with
       |empty=>simp at hrw;exact absurd hrw hns
       |list k rows ad cap sz xs hne hsz hspot hcap hcl hrow hcell hrec=>
        subst hrw;have hlen:(ns.map (λn=>[V.v (.int .i32 n)])).length=ns.length:=by simp
        rw[Hh hs hd hu _ (some ad) _ cap rfl,hlen]
        have hld:(loadCells ad ns.length).run P w= .ok (ns.map (AQ .i32)).toArray w:=by
         have:=run_loadCells_list (P:=P) w ad (ns.map (AQ .i32)) (λj v hj=>by
          simp only[Ax,Ak]at hj
          obtain⟨n,hn,rfl⟩:=hj;have h1:(ns.map (λn=>[V.v (.int .i32 n)]))[j]? =some [V.v (.int .i32 n)]:=by simp[hn]
          have hs1:=hrow j _ h1;simp only[Ae,An,AE]at hs1;have h2:=hcell j 0 _ _ h1 rfl;have h3:=hrec j 0 _ _ h1 rfl;rw[<-hs1,Du,BH]at h2;rw[jV hspot,h2];have h4:xs j 0= .int .i32 n:=VP.v_eq h3
          rw[h4])
         simpa using this
        rw[run_runesToString w ad _ _ ns hld]
     ·cases hv
   ·cases hv
  ·cases hv
 ·rename_i i off n he
  rw[he]at hx;obtain⟨gb,cap,hg,hy,hcap⟩:=hx
  split at hv
  ·rename_i hd
   have hd:=jW hd
   split at hv
   ·rename_i e cs hs hcs
    split at hv
    ·rename_i hu
     simp only[Af,decide_eq_true_eq]at hu;have hle:=hu.2;have hu:=JNC hu.1;simp only[Ak]at hv;obtain⟨l,hl,rfl⟩:=hv;obtain⟨ns,hns,rfl⟩:=Gi hl;refine⟨.string ⟨(ns.map λn:Int=>Bh n.toNat).toArray⟩,JX (s:=convert s d (a.eval x)) (by simp[execOp,ho]) ?_,rfl,TagOK.bare rfl⟩
     rw[Yy hs hd hu _ _ n cap hy,hy]
     have hlen:n=ns.length:=by have:=congrArg AW hns;simp only[List.length_map,AM,Ay]at this;omega
     have hld:(loadCells ⟨gb,off,none⟩ n).run P w= .ok (ns.map (AQ .u8)).toArray w:=by
      have:=run_loadCells_list (P:=P) w ⟨gb,off,none⟩ (ns.map (AQ .u8)) (λj v hj=>by
       simp only[Ax,Ak]at hj
       obtain⟨k,hk,rfl⟩:=hj;have hjl:j<ns.length:=(Ad.1 hk).1
       have h1:(((cs.drop off).take n).map λx=>[x])[j]? =some [V.v (.int .u8 k)]:=by rw[hns];simp[hk]
       simp only[Ax,Ak,BV,and_true]at h1
       obtain⟨u,hu1,hu2⟩:=h1;subst hu2;rw[AK,if_pos om,Bm]at hu1
       obtain⟨y,hy1,hy2⟩:=(hC.obCells hcs hg).1 _ _ hu1;rw[AE]at hy1;rw[KC,hy1];have:y= .int .u8 k:=hy2
       rw[this])
      simpa[hlen]using this
     rw[run_bytesToString w _ _ _ ns hld,zG];simp
    ·cases hv
   ·cases hv
  ·cases hv
 ·cases hv
end
section
variable{P:Program}{vars:List Nat}{m:List Nat}{c:Cl}{w:World}{g:Jj}{h:JC}{a:Act}
theorem JAv(op:BinOp)(t:TypeId)(x y:Operand)(k k':IntKind)(p q:Int):(eqGuard op t x y (.int k p) (.int k' q)).run P w= .ok () w:=by cases op<;>simp[eqGuard]
theorem kH(op:BinOp)(t:TypeId)(x y:Operand)(p q:ByteArray):(eqGuard op t x y (.string p) (.string q)).run P w= .ok () w:=by cases op<;>simp[eqGuard]
theorem JQQ{op:BinOp}{t:TypeId}{p q r:Value}(hr:QQ op p q=some r):(binOp op t p q).run P w= .ok r w/\(∀x y,(eqGuard op t x y p q).run P w= .ok () w):=by
 unfold QQ at hr
 split at hr
 ·rename_i k u k' v
  refine⟨?_,λx y=>JAv op t x y k k' u v⟩
  split at hr
  ·split at hr
   ·rename_i h0;cases hr;simp[binOp,Op.shift,show¬v<0 by omega]
   ·cases hr
  ·split at hr
   ·rename_i h0;cases hr;simp[binOp,Op.shift,show¬v<0 by omega]
   ·cases hr
  ·rename_i h1 h2
   split at hr
   ·rename_i hk
    subst hk;cases op<;>simp only[Aj]at hr
    case quo=>
     split at hr
     ·cases hr
     ·rename_i h0;cases hr;simp[binOp,Op.intDiv,h0]
    case rem=>
     split at hr
     ·cases hr
     ·rename_i h0;cases hr;simp[binOp,Op.intDiv,h0]
    all_goals first
     |(subst hr;simp[binOp,L8,Op.intBits,Op.intCmp];done)
     |(subst hr;simp[binOp,L8,Op.intBits,Op.intCmp];rfl)
     |exact absurd rfl h1
     |exact absurd rfl h2
     |cases hr
   ·cases hr
 ·rename_i p q
  refine⟨?_,λx y=>kH op t x y p q⟩
  cases op<;>simp only[Aj]at hr
  case add=>
   split at hr
   ·rename_i hb
    cases hr
    have:¬(IntKind.i64.max:Int)<((p.size+q.size:Nat):Int):=by
     have:(IntKind.i64.max:Int)=9223372036854775807:=by decide
     rw[this];omega
    simp only[binOp,Op.stringOp];rw[if_neg (by simpa using this)]
    rfl
   ·cases hr
  all_goals first
   |(subst hr;simp[binOp,Op.stringOp];done)
   |cases hr
 ·cases hr
theorem JQR{op:BinOp}{t:TypeId}{p q r:Value}(hr:JUL P op t p q=some r):(binOp op t p q).run P w= .ok r w/\(∀x y,(eqGuard op t x y p q).run P w= .ok () w):=by
 unfold JUL at hr
 split at hr
 ·rename_i x y
  split at hr
  ·rename_i hu
   refine⟨?_,λx y=>by cases op<;>simp[eqGuard]⟩
   have hq:(Op.equal t (.bool x) (.bool y)).run P w= .ok (x==y) w:=by
    have h1:∀d,(CI (d+1) t (.bool x) (.bool y)).run P w= .ok (x==y) w:=by intro d;unfold CI;simp[run_underlying hu]
    exact h1 9999
   split at hr
   ·cases hr
    show(do pure (.bool (<-Op.equal t (.bool x) (.bool y))):Sem Value).run P w=_
    simp only[BB,hq,Bk];rfl
   ·cases hr
    show(do pure (.bool (!(<-Op.equal t (.bool x) (.bool y)))):Sem Value).run P w=_
    simp only[BB,hq,Bk];rfl
   ·cases hr
  ·cases hr
 ·exact JQQ hr
def eqL:List Nat->List Value->List Value->Option Bool
 |[],[],[]=>some true
 |k::ks,x::l,y::m=>
  match eqS k x y,eqL ks l m with
  |some a,some b=>some (a&&b)
  |_,_=>none
 |_,_,_=>none
theorem JJT:∀{ks:List Nat} {cs ds:List V} {xs ys:List Value} {r:Bool},R2 (VR1 m c w) cs xs->R2 (VR1 m c w) ds ys->eqCells ks cs ds=some r->eqL ks xs ys=some r:=by
 intro ks
 induction ks with
 |nil=>
  intro cs ds xs ys r h1 h2 he;unfold eqCells at he
  split at he
  ·have hx:xs=[]:=AC h1.1.symm
   have hy:ys=[]:=AC h2.1.symm;subst hx;subst hy;exact he
  ·rename_i h0;cases h0
  ·cases he
 |cons k ks ih=>
  intro cs ds xs ys r h1 h2 he;unfold eqCells at he
  split at he
  ·rename_i h0;cases h0
  ·rename_i k' ks' x l y q h0
   cases h0
   match xs,ys,h1,h2 with
   |[],_,h1,_=>simp[R2]at h1
   |_::_,[],_,h2=>simp[R2]at h2
   |x'::xs,y'::ys,h1,h2=>
    have e1:x'=x:=h1.head;have e2:y'=y:=h2.head;subst e1;subst e2
    split at he
    ·rename_i b b' hb hb'
     have:=ih h1.tail h2.tail hb';simp only[eqL,hb,this];exact he
    ·cases he
  ·cases he
theorem JND:∀{ks:List Nat} {xs ys:List Value} {r:Bool},eqL ks xs ys=some r->xs.length=ks.length/\ys.length=ks.length:=by
 intro ks
 induction ks with
 |nil=>
  intro xs ys r he;unfold eqL at he
  split at he
  ·exact⟨rfl,rfl⟩
  ·rename_i h0;cases h0
  ·cases he
 |cons k ks ih=>
  intro xs ys r he;unfold eqL at he
  split at he
  ·rename_i h0;cases h0
  ·rename_i h0
   cases h0
   split at he
   ·rename_i hb'
    have:=ih hb';exact⟨by simp[this.1],by simp[this.2]⟩
   ·cases he
  ·cases he
theorem JBk:∀{k1 k2:List Nat} {xs ys:List Value} {r:Bool},eqL (k1++k2) xs ys=some r->
  ∃a b,eqL k1 (xs.take k1.length) (ys.take k1.length)=some a/\eqL k2 (xs.drop k1.length) (ys.drop k1.length)=some b/\r=(a&&b):=by
 intro k1
 induction k1 with
 |nil=>intro k2 xs ys r he;exact⟨true,r,by simp[eqL],by simpa using he,by simp⟩
 |cons k ks ih=>
  intro k2 xs ys r he;rw[Al]at he;unfold eqL at he
  split at he
  ·rename_i h0;cases h0
  ·rename_i k' ks' x l y q h0
   cases h0
   split at he
   ·rename_i p p' hp hp'
    obtain⟨u,v,hu,hv,rfl⟩:=ih hp';cases he;refine⟨p&&u,v,?_,by simpa using hv,by simp[Bool.and_assoc]⟩
    simp[eqL,hp,hu]
   ·cases he
  ·cases he
def Zj(P:Program)(t:TypeId)(xs:List Value):Value:=if Q3 P t=some true then .agg xs.toArray else xs.headD undef
theorem qu{t:TypeId}{d:TypeDesc}(hd:P.underlying t=some d){xs:List Value}{off:Nat}(h1:Q3 P t=some false->JG P t=1/\off<xs.length):
  (part t xs.toArray off).run P w= .ok (Zj P t ((xs.drop off).take (JG P t))) w:=by
 obtain⟨i,hi⟩:=info_of_underlying hd;unfold Zj;cases hr:d.isRow
 ·have ht:Q3 P t=some false:=by
   unfold Q3;rw[hd];cases d<;>first|rfl|(simp[TypeDesc.isRow]at hr)
  obtain⟨h0,hlt⟩:=h1 ht;rw[ht];simp[part,Qg hd,hr,List.head?_take,List.head?_drop,hlt,h0]
 ·have ht:Q3 P t=some true:=by
   unfold Q3;rw[hd];cases d<;>first|rfl|(simp[TypeDesc.isRow]at hr)
  rw[ht];simp[part,Qg hd,hr,sizeOf,typeInfo,hi,JU hi,Li]
theorem JLZ{d:Nat}{t:TypeId}{l:List Nat}(hf:Ya P d t=some l)(ht:Q3 P t=some false):l.length=1:=by
 cases d with
 |zero=>cases hf
 |succ d=>
  unfold Ya at hf;unfold Q3 at ht
  split at hf
  ·cases hf;rfl
  ·cases hf;rfl
  ·cases hf;rfl
  ·rename_i hu;rw[hu]at ht;cases ht
  ·rename_i hu;rw[hu]at ht;cases ht
  ·cases hf
theorem JAO{d:Nat}{t:TypeId}{l:List Nat}(hf:Ya P d t=some l):∃u,P.underlying t=some u:=by
 cases d with
 |zero=>cases hf
 |succ d=>
  unfold Ya at hf
  split at hf<;>first|exact⟨_,by assumption⟩|cases hf
theorem eqL_nil{xs ys:List Value}{r:Bool}(he:eqL [] xs ys=some r):r=true:=by
 cases xs<;>cases ys<;>simp[eqL]at he
 exact he
theorem JG5{k:Nat}{xs ys:List Value}{r:Bool}(he:eqL [k] xs ys=some r):∃x y,xs=[x]/\ys=[y]/\eqS k x y=some r:=by
 unfold eqL at he
 split at he
 ·rename_i h0;cases h0
 ·rename_i k' ks' x l y q h0
  cases h0
  split at he
  ·rename_i u v hu hv
   have:=JND hv;have hl:l=[]:=AC this.1;have hq:q=[]:=AC this.2;subst hl;subst hq;cases hv;cases he;exact⟨x,y,rfl,rfl,by simpa using hu⟩
  ·cases he
 ·cases he
theorem JG6(f:Nat->Sem Bool)(b:Nat->Bool):∀(l:List Nat),(∀i∈l,(f i).run P w= .ok (b i) w)->
  (do
   for i in l do
    if !(<-f i)then return false
   pure true:Sem Bool).run P w= .ok (l.all b) w:=by
 intro l
 induction l with
 |nil=>intro _;rfl
 |cons i l ih=>
  intro hf;have h1:=hf i (by simp)
  have h2:=ih (λj hj=>hf j (by simp[hj]))
  simp only[List.forIn_cons,BB,h1,Bk,Sem.run_ite,Dl]at h2⊢;cases hb:b i
  ·simp[hb]
  ·simp only[hb,Bool.not_true,Bool.false_eq_true,if_false,Bk,Bg,Bool.true_and]
   exact h2
theorem JDU{n:Nat}(f:Nat->Sem Bool)(b:Nat->Bool)(hf:∀i,i<n->(f i).run P w= .ok (b i) w):
  (do
   for i in[0:n]do
    if !(<-f i)then return false
   pure true:Sem Bool).run P w= .ok ((Bq n).all b) w:=by
 have:=JG6 (P:=P) (w:=w) f b (Bq n) (λi hi=>hf i (List.mem_range.1 hi))
 simp only[Std.Legacy.Range.forIn_eq_forIn_range',Std.Legacy.Range.size,Nat.sub_zero,LV,Nat.div_one]at this⊢;rw[<-List.range_eq_range'];exact this
theorem JJU{d n o:Nat}{t:TypeId}{l:List Nat}(hf:Ya P d t=some l)(hs:JG P t=l.length){xs ys:List Value}{r:Bool}
  (he:eqL l ((xs.drop o).take l.length) ((ys.drop o).take l.length)=some r)
  (ih:∀{xs ys:List Value} {r:Bool},eqL l xs ys=some r->(CI n t (Zj P t xs) (Zj P t ys)).run P w= .ok r w):
  ∃x y,(part t xs.toArray o).run P w= .ok x w/\(part t ys.toArray o).run P w= .ok y w/\(CI n t x y).run P w= .ok r w:=by
 obtain⟨u,hu⟩:=JAO hf;have hl:=JND he
 have hb:∀zs:List Value,((zs.drop o).take l.length).length=l.length->Q3 P t=some false->JG P t=1/\o<zs.length:=λzs hz ht=>by have h1:=JLZ hf ht;rw[h1]at hz;simp only[AM,Ay]at hz;exact⟨om,om⟩
 have hx:=qu (P:=P) (w:=w) hu (hb xs hl.1);have hy:=qu (P:=P) (w:=w) hu (hb ys hl.2);rw[hs]at hx hy;exact⟨_,_,hx,hy,ih he⟩
theorem JLa{d n:Nat}(ih:∀{t:TypeId} {l:List Nat},Ya P d t=some l->∀{xs ys:List Value} {r:Bool},eqL l xs ys=some r->(CI n t (Zj P t xs) (Zj P t ys)).run P w= .ok r w)(xs ys:List Value):
  ∀(fs:List Field) (o:Nat) (ks:List Nat) (r:Bool),flatFs (Ya P d) fs o=some ks->(∀f∈fs,∀l,Ya P d f.type=some l->JG P f.type=l.length)->eqL ks (xs.drop o) (ys.drop o)=some r->
  (Op.eqFields n xs.toArray ys.toArray fs).run P w= .ok r w:=by
 intro fs
 induction fs with
 |nil=>intro o ks r hf _ he;cases hf;rw[eqL_nil he]<;>rfl
 |cons f fs ihf=>
  intro o ks r hf hs he;unfold flatFs at hf
  split at hf
  ·rename_i hb
   split at hf
   ·rename_i l hl
    split at hf
    ·rename_i l' hl'
     cases hf;obtain⟨p,q,hp,hq,rfl⟩:=JBk he;obtain⟨x,y,hx,hy,hxy⟩:=JJU hl (hs f (by simp) l hl) hp (λh=>ih hl h)
     have:=ihf (o+l.length) l' q hl' (λf hf=>hs f (by simp[hf])) (by simpa[AV]using hq)
     unfold Op.eqFields;rw[if_pos hb.2,hb.1];simp only[BB,hx,hy,hxy,Bk,Sem.run_ite,this];cases p<;>simp
    ·cases hf
   ·cases hf
  ·cases hf
theorem JQS:∀(d:Nat) {t:TypeId} {l:List Nat},Ya P d t=some l->∀n,d<=n->∀{xs ys:List Value} {r:Bool},eqL l xs ys=some r->
  (CI n t (Zj P t xs) (Zj P t ys)).run P w= .ok r w:=by
 intro d
 induction d with
 |zero=>intro t l hf;cases hf
 |succ d ih=>
  intro t l hf n hn xs ys r he;obtain⟨n,rfl⟩:∃k,n=k+1:=⟨n-1,om⟩;unfold Ya at hf
  split at hf
  ·rename_i hu
   cases hf;obtain⟨x,y,rfl,rfl,hs⟩:=JG5 he;have ht:Q3 P t=some false:=by unfold Q3;rw[hu]
   simp only[Zj,ht];unfold eqS at hs
   split at hs
   ·cases hs;simp[CI,run_underlying hu]
   ·rename_i h0;cases h0
   ·rename_i h0;cases h0
   ·cases hs
  ·rename_i k hu
   cases hf;obtain⟨x,y,rfl,rfl,hs⟩:=JG5 he;have ht:Q3 P t=some false:=by unfold Q3;rw[hu]
   simp only[Zj,ht];unfold eqS at hs
   split at hs
   ·rename_i h0;cases h0
   ·split at hs
    ·rename_i hk;cases hs;subst hk;simp[CI,run_underlying hu]
    ·cases hs
   ·rename_i h0;cases h0
   ·cases hs
  ·rename_i hu
   cases hf;obtain⟨x,y,rfl,rfl,hs⟩:=JG5 he;have ht:Q3 P t=some false:=by unfold Q3;rw[hu]
   simp only[Zj,ht];unfold eqS at hs
   split at hs
   ·rename_i h0;cases h0
   ·rename_i h0;cases h0
   ·cases hs;simp[CI,run_underlying hu,beq_toListBytes]
   ·cases hs
  ·rename_i k e hu
   split at hf
   ·rename_i l0 hl0
    split at hf
    ·rename_i hsz
     cases hf;have ht:Q3 P t=some true:=by unfold Q3;rw[hu]
     obtain⟨ue,hue⟩:=JAO hl0;obtain⟨ie,hie⟩:=info_of_underlying hue;simp only[Zj,ht,if_true]
     have hall:∃b:Nat->Bool,(∀i,i<k->eqL l0 ((xs.drop (i*l0.length)).take l0.length) ((ys.drop (i*l0.length)).take l0.length)=some (b i))/\r=(Bq k).all b:=by
      clear hu
      induction k generalizing xs ys r with
      |zero=>
       refine⟨λ_=>true,λi hi=>by omega,?_⟩
       simp only[List.replicate_zero,List.flatten_nil]at he;rw[eqL_nil he]
       rfl
      |succ k ihk=>
       rw[List.replicate_succ,List.flatten_cons]at he;obtain⟨p,q,hp,hq,rfl⟩:=JBk he;obtain⟨b,hb,rfl⟩:=ihk hq;refine⟨λi=>if i=0 then p else b (i-1),λi hi=>?_,?_⟩
       ·cases i with
        |zero=>simpa using hp
        |succ i=>
         have:=hb i om;simp only[AV]at this;simp only[Nat.add_one_ne_zero,if_false,LV];rw[show(i+1)*l0.length=l0.length+i*l0.length by rw[Bf];omega]
         exact this
       ·rw[List.range_succ_eq_map,Bg,LU]
        simp;rfl
     obtain⟨b,hb,rfl⟩:=hall
     have hrun:=JDU (P:=P) (w:=w) (n:=k) (λi=>do CI n e (<-part e xs.toArray (i*l0.length)) (<-part e ys.toArray (i*l0.length))) b (λi hi=>by
      obtain⟨x,y,hx,hy,hxy⟩:=JJU (n:=n) (w:=w) hl0 hsz (hb i hi) (λh=>ih hl0 n om h)
      simp[hx,hy,hxy])
     unfold CI;simp only[BB,run_underlying hu,Bk,WD hie,<-JU hie,hsz];simpa using hrun
    ·cases hf
   ·cases hf
  ·rename_i fs hu
   split at hf
   ·rename_i hb
    have ht:Q3 P t=some true:=by unfold Q3;rw[hu]
    simp only[Zj,ht,if_true];have hfo:P.fieldsOf t=fs:=by unfold Program.fieldsOf;rw[hu]
    rw[run_equalIn_struct w n t xs.toArray ys.toArray (by rw[hfo];exact hu) hb.1,hfo]
    refine JLa (λ{_ _} h {_ _ _} he=>ih h n om he) xs ys fs.toList 0 l r hf (λf hm l hl=>?_) (by simpa using he)
    have:=As.1 hb.2 f hm;rw[hl]at this;simpa using this
   ·cases hf
  ·cases hf
theorem JDV:∀(d:Nat) {t:TypeId} {l:List Nat},Ya P d t=some l->∀n,d<=n->P.eqGuardType n t=false:=by
 intro d
 induction d with
 |zero=>intro t l hf;cases hf
 |succ d ih=>
  intro t l hf n hn;obtain⟨n,rfl⟩:∃k,n=k+1:=⟨n-1,om⟩;unfold Ya at hf;unfold Program.eqGuardType
  split at hf
  ·rename_i hu;rw[hu]
  ·rename_i hu;rw[hu]
  ·rename_i hu;rw[hu]
  ·rename_i hu
   rw[hu]
   split at hf
   ·rename_i l0 hl0
    exact ih hl0 n om
   ·cases hf
  ·rename_i fs hu
   rw[hu]
   split at hf
   ·rename_i hb
    simp only[Array.any_eq_false'];intro f hm;have:=As.1 hb.2 f (by simpa using hm)
    split at this
    ·rename_i l hl
     rw[ih hl n om];simp
    ·cases this
   ·cases hf
  ·cases hf
theorem JLb(hC:Core vars m c w g h a){o:Oper}{op:BinOp}{t u:TypeId}{x y:Operand}(ho:o.op= .binOp op t x y u){v:V}(hv:JV P vars (g,h) (.binOp op t x y u)=some v):
  qr P vars m c w g h a o v:=by
 have hx:=hC.opd x;have hy:=hC.opd y;simp only[JV]at hv
 split at hv
 ·rename_i p q hp hq
  rw[hp]at hx;rw[hq]at hy;have hx':a.eval x=p:=hx;have hy':a.eval y=q:=hy;simp only[Ak]at hv;obtain⟨r,hr,rfl⟩:=hv;obtain⟨h1,h2⟩:=JQR (P:=P) (w:=w) (t:=t) hr;exact⟨r,JX (s:=do eqGuard op t x y (a.eval x) (a.eval y);binOp op t (a.eval x) (a.eval y)) (by simp[execOp,ho]) (by simp[hx',hy',h1,h2]),rfl,TagOK.bare rfl⟩
 ·rename_i cs ds hp hq
  rw[hp]at hx;rw[hq]at hy;obtain⟨xs,hx',hrx⟩:=hx;obtain⟨ys,hy',hry⟩:=hy
  split at hv
  ·rename_i ks hks
   unfold kC at hks
   split at hks
   ·rename_i hd
    have hg:=JDV 20 hks P.depth hd.1
    have key:∀r,eqCells ks cs ds=some r->(CI 10000 t (.agg xs) (.agg ys)).run P w= .ok r w:=λr hr=>by have:=JQS (w:=w) 20 hks 10000 om (JJT hrx hry hr);simpa[Zj,hd.2]using this
    split at hv
    ·simp only[Ak]at hv
     obtain⟨r,hr,rfl⟩:=hv;refine⟨.bool r,JX (s:=do eqGuard .eql t x y (a.eval x) (a.eval y);binOp .eql t (a.eval x) (a.eval y)) (by simp[execOp,ho]) ?_,rfl,TagOK.bare rfl⟩
     simp only[hx',hy',BB,run_eqGuard_agg w .eql t x y xs ys hg,Bk,run_eql_struct,key r hr]
    ·simp only[Ak]at hv
     obtain⟨r,hr,rfl⟩:=hv;refine⟨.bool !r,JX (s:=do eqGuard .neq t x y (a.eval x) (a.eval y);binOp .neq t (a.eval x) (a.eval y)) (by simp[execOp,ho]) ?_,rfl,TagOK.bare rfl⟩
     simp only[hx',hy',BB,run_eqGuard_agg w .neq t x y xs ys hg,Bk,run_neq_struct,key r hr]
    ·cases hv
   ·cases hks
  ·cases hv
 ·cases hv
theorem JG7(hC:Core vars m c w g h a){o:Oper}{v:V}(hv:JV P vars (g,h) o.op=some v):qr P vars m c w g h a o v:=by
 generalize hop:o.op=op at hv
 cases op with
 |move x=>exact JOU hC hop hv
 |pick k x y=>exact JOV hC hop hv
 |build t parts=>exact JLY hC hop hv
 |load t x=>exact JOW hC hop hv
 |nilCheck x=>exact JDS hC hop hv
 |binOp op t x y u=>exact JLb hC hop hv
 |unOp op t x=>exact JOX hC hop hv
 |convert s d x=>exact JG4 hC hop hv
 |fieldAddr t x f=>exact JBh hC hop hv
 |field t x f=>exact JLU hC hop hv
 |indexAddr t x i=>exact JBi hC hop hv
 |index t x i=>exact JLV hC hop hv
 |slice t x lo hi mx=>exact JLW hC hop hv
 |extract x i=>exact JG3 hC hop hv
 |makeFunc fn first caps=>exact JDT hC hop hv
 |call k=>exact JQP hC hop hv
 |_=>cases hv
end
theorem Jy(t:Nat)(x:V):∀(g:Jj) (u:Nat),look (ins t x g) u=if u=t then x else look g u
 |[],u=>by
  simp only[ins,look];by_cases h:u=t
  ·simp[h]
  ·simp[h,Ne.symm h]
 |(k,y)::l,u=>by
  unfold ins
  split
  ·simp only[look]
   by_cases h:u=t
   ·simp[h]
   ·simp[h,Ne.symm h]
  ·split
   ·rename_i h1 h2
    subst h2;simp only[look];by_cases h:u=t
    ·simp[h]
    ·simp[h,Ne.symm h]
   ·rename_i h1 h2
    simp only[look,Jy t x l u];by_cases hk:k=u
    ·subst hk
     simp[Ne.symm h2]
    ·simp[hk]
theorem Jp:∀(g:Jj) (u:Nat),look (untag g) u=Jf (look g u)
 |[],u=>rfl
 |(k,y)::l,u=>by
  simp only[untag,A3,look]
  split
  ·rfl
  ·exact Jp l u
theorem YD:∀(g:Jj) (u:Nat),look (untagC g) u=Jx (look g u)
 |[],u=>rfl
 |(k,y)::l,u=>by
  simp only[untagC,A3,look]
  split
  ·rfl
  ·exact YD l u
theorem JOY(v:V):Jf (Jx v)=Jf v:=by
 cases v with
 |list k r=>cases k<;>rfl
 |_=>rfl
theorem JG8(g:Jj):untag (untagC g)=untag g:=by simp only[untag,untagC,List.map_map];exact List.map_congr_left λp _=>by simp only[Function.comp,JOY]
theorem JG9{v:V}{u:Nat}{r:List (List V)}(hv:Jx v= .list (.slot u) r):v= .list (.slot u) r:=by
 cases v with
 |list k q=>cases k<;>simp[Jx]at hv⊢;exact hv
 |_=>simp[Jx]at hv
theorem JHA{v:V}{i j:Nat}{r:List (List V)}:Jx v≠ .list (.cell i j) r:=by
 cases v with
 |list k q=>cases k<;>simp[Jx]
 |_=>simp[Jx]
section
variable{P:Program}{vars:List Nat}{m:List Nat}{c:Cl}{w:World}{g:Jj}{h:JC}{a:Act}
theorem VRr.untagC{v:V}{x:Value}(hv:VRr m c w v x):VRr m c w (Jx v) x:=by
 cases v with
 |list k r=>cases k<;>exact VP.flag hv _
 |_=>exact hv
theorem VRr.untag{v:V}{x:Value}(hv:VRr m c w v x):VRr m c w (Jf v) x:=by
 cases v with
 |list k r=>cases k<;>exact VP.flag hv _
 |_=>exact hv
theorem Qo{v:V}{r:List (List V)}:Jf v= .list .yes r↔v= .list .yes r:=by
 cases v with
 |list k q=>cases k<;>simp[Jf]
 |_=>simp[Jf]
theorem Yz{v:V}{k:Own}{r:List (List V)}(hv:Jf v= .list k r):k= .yes\/k= .no:=by
 cases v with
 |list k q=>cases k<;>simp[Jf]at hv<;>simp[hv.1.symm]
 |_=>simp[Jf]at hv
theorem Core.untag(hC:Core vars m c w g h a):Core vars m c w (untag g) h a:=by
 have hAt:∀{l r x},At m w (Lift.untag g) h a l r x->At m w g h a l r x:=λ{l r x} hl=>by
  cases l with
  |slot t=>exact⟨Qo.1 (by rw[<-Jp];exact hl.1),hl.2⟩
  |cell i j=>exact hl
 refine⟨hC.wf1,hC.wf2,hC.nd,hC.len,λt=>?_,hC.ob,λl r x hl=>hC.own l r x (hAt hl),λl l' r r' x x' b h1 h2=>hC.uniq l l' r r' x x' b (hAt h1) (hAt h2),λt u r ht=>?_,λt i j r ht=>?_,hC.gt⟩
 ·rw[Jp];exact(hC.env t).untag
 ·rw[Jp]at ht;have:=Yz ht;simp at this
 ·rw[Jp]at ht;have:=Yz ht;simp at this
theorem Wa(t u:Nat)(r:List (List V)):look (untag g) t≠ .list (.slot u) r:=λht=>by rw[Jp]at ht;have:=Yz ht;simp at this
theorem JJV(tm:Array Value)(t u:Nat)(x:Value)(ht:t<tm.size):(tm.setIfInBounds t x).getD u undef=if u=t then x else tm.getD u undef:=by
 by_cases h:u=t
 ·subst h;simp[Array.getD,ht]
 ·simp only[if_neg h]
  simp only[Array.getD_eq_getD_getElem?,Array.getElem?_setIfInBounds_ne (Ne.symm h)]
theorem Core.ins(hC:Core vars m c w g h a){t:Nat}{v:V}{x:Value}(ht:t<a.tmps.size)(hv:VRr m c w v x)
  (hown:∀r,v= .list .yes r->OwnB m c w r x/\ ∀l r' x' b,l≠ .slot t->At m w g h a l r' x'->Jo x=some b->Jo x'≠some b)
  (htS:∀u r,v= .list (.slot u) r->u∈vars/\u≠t/\look g u= .list .yes r/\x=a.tmps.getD u undef)
  (htC:∀i j r,v= .list (.cell i j) r->At m w g h a (.cell i j) r x)
  (hno:t∉vars\/ ∀t' u r,look g t'≠ .list (.slot u) r):
  Core vars m c w (ins t v g) h {a with tmps:=a.tmps.setIfInBounds t x}:=by
 have hget:=λu=>JJV a.tmps t u x ht
 have hAt:∀{l r y},At m w (Lift.ins t v g) h {a with tmps:=a.tmps.setIfInBounds t x} l r y->
   (l= .slot t/\v= .list .yes r/\y=x)\/(l≠ .slot t/\At m w g h a l r y):=λ{l r y} hl=>by
  cases l with
  |slot u=>
   obtain⟨h1,h2⟩:=hl;rw[Jy]at h1;simp only[hget]at h2;by_cases hu:u=t
   ·subst hu
    simp only[if_true]at h1 h2;exact .inl ⟨rfl,h1,h2⟩
   ·simp only[if_neg hu]at h1 h2
    exact .inr ⟨λe=>hu (by cases e;rfl),h1,h2⟩
  |cell i j=>exact .inr ⟨λe=>(by cases e),hl⟩
 refine⟨hC.wf1,hC.wf2,hC.nd,hC.len,λu=>?_,hC.ob,λl r y hl=>?_,λl l' r r' y y' b h1 h2 hb hb'=>?_,λu s r hu=>?_,λu i j r hu=>?_,hC.gt⟩
 ·rw[Jy]
  simp only[hget]
  split
  ·exact hv
  ·exact hC.env u
 ·rcases hAt hl with⟨_,he,rfl⟩|⟨_,hl⟩
  ·exact(hown r he).1
  ·exact hC.own l r y hl
 ·rcases hAt h1 with⟨e1,he,hy⟩|⟨n1,g1⟩
  ·rcases hAt h2 with⟨e2,_,_⟩|⟨n2,g2⟩
   ·rw[e1,e2]
   ·exact absurd hb' ((hown r he).2 l' r' y' b n2 g2 (hy▸hb))
  ·rcases hAt h2 with⟨e2,he,hy⟩|⟨n2,g2⟩
   ·exact absurd hb ((hown r' he).2 l r y b n1 g1 (hy▸hb'))
   ·exact hC.uniq l l' r r' y y' b g1 g2 hb hb'
 ·rw[Jy]at hu
  simp only[Jy,hget];by_cases hut:u=t
  ·simp only[hut,if_true]at hu⊢
   obtain⟨h1,h2,h3,h4⟩:=htS s r hu;simp only[if_neg h2];exact⟨h1,h3,h4⟩
  ·simp only[if_neg hut]at hu⊢
   obtain⟨h1,h2,h3⟩:=hC.tagS u s r hu
   have hst:s≠t:=by
    rcases hno with hno|hno
    ·intro e;rw[e]at h1;exact hno h1
    ·exact absurd hu (hno u s r)
   simp only[if_neg hst];exact⟨h1,h2,h3⟩
 ·rw[Jy]at hu
  simp only[hget];by_cases hut:u=t
  ·simp only[hut,if_true]at hu⊢
   exact htC i j r hu
  ·simp only[if_neg hut]at hu⊢
   exact hC.tagC u i j r hu
theorem Core.release(hC:Core vars m c w g h a){u:Nat}{r q:List (List V)}(hu:look g u= .list .yes r)(hq:q=r):Core vars m c w (Lift.untag (Lift.ins u (.list .no q) g)) h a:=by
 subst hq
 have hAt:∀{l r x},At m w (Lift.untag (Lift.ins u (.list .no q) g)) h a l r x->l≠ .slot u/\At m w g h a l r x:=λ{l r x} hl=>by
  cases l with
  |slot t=>
   obtain⟨h1,h2⟩:=hl;rw[Jp,Qo,Jy]at h1
   split at h1
   ·cases h1
   ·rename_i ht
    exact⟨λe=>ht (by cases e;rfl),h1,h2⟩
  |cell i j=>exact⟨λe=>(by cases e),hl⟩
 refine⟨hC.wf1,hC.wf2,hC.nd,hC.len,λt=>?_,hC.ob,λl r x hl=>hC.own l r x (hAt hl).2,λl l' r r' x x' b h1 h2=>hC.uniq l l' r r' x x' b (hAt h1).2 (hAt h2).2,λt s r ht=>?_,λt i j r ht=>?_,hC.gt⟩
 ·rw[Jp,Jy]
  apply VRr.untag
  split
  ·rename_i ht
   subst ht;have:=hC.env t;rw[hu]at this;exact VP.flag this _
  ·exact hC.env t
 ·exact absurd ht (Wa t s r)
 ·rw[Jp]at ht;have:=Yz ht;simp at this
end
section
variable{P:Program}{vars:List Nat}{m:List Nat}{c:Cl}{w:World}{g:Jj}{h:JC}{a:Act}
theorem Core.c_zero(hC:Core vars m c w g h a){b:Nat}(hb:w.heap.size<=b):c b=0:=by
 rcases Nat.eq_zero_or_pos (c b)with h0|h0
 ·exact h0
 ·obtain⟨arr,e,f,he,_⟩:=hC.wf1 b h0
  have:=(AX.1 he).1
  omega
theorem ObR.lt{o:Ob}{b:Nat}(ho:ObR m c w o b):b<w.heap.size:=by
 cases o with
 |cells cs=>obtain⟨arr,e,f,he,_⟩:=ho;exact(AX.1 he).1
 |iter s p=>exact(AX.1 ho).1
 |tab es=>obtain⟨arr,k,he,_⟩:=ho;exact(AX.1 he).1
theorem Core.m_lt(hC:Core vars m c w g h a){i b:Nat}(hi:m[i]? =some b):b<w.heap.size:=by
 have hl:i<h.length:=by rw[<-hC.len];exact(Ad.1 hi).1
 exact(hC.ob i h[i] b (Ac hl) hi).lt
theorem JR{w w':World}{b:Nat}(hb:w'.heap[b]? =w.heap[b]?)(o:Nat):w'.cell? ⟨b,o,none⟩=w.cell? ⟨b,o,none⟩:=by simp[World.cell?,hb]
theorem Hi{w w':World}{b:Nat}(hb:w'.heap[b]? =w.heap[b]?)(o:Nat):w'.frozen? ⟨b,o,none⟩=w.frozen? ⟨b,o,none⟩:=by simp[World.frozen?,hb]
theorem ObR.keep{w':World}{m':List Nat}{c':Cl}{o:Ob}{b:Nat}(ho:ObR m c w o b)(hb:w'.heap[b]? =w.heap[b]?)(hm:Pre m m')(e:Ext c w c' w'):ObR m' c' w' o b:=by
 cases o with
 |cells cs=>
  obtain⟨arr,el,f,he,hle,hfr,hall,hbld⟩:=ho
  exact⟨arr,el,f,by rw[hb];exact he,hle,λj hj=>by rw[Hi hb];exact hfr j hj,λj v x hv hx=>⟨(hall j v x hv hx).1.mono hm e,(hall j v x hv hx).2⟩,hbld⟩
 |iter s p=>show w'.heap[b]? =_;rw[hb];exact ho
 |tab es=>obtain⟨arr,k,he,h2⟩:=ho;exact⟨arr,k,by rw[hb];exact he,h2⟩
theorem OwnB.keep{w':World}{m':List Nat}{c':Cl}{r:List (List V)}{x:Value}(ho:OwnB m c w r x)(hb:∀b,Jo x=some b->w'.heap[b]? =w.heap[b]? /\c' b=c b/\(b∉m->b∉m')):OwnB m' c' w' r x:=by
 rcases ho with h0|⟨b,cap,cur,e,sz,rfl,h1,h2,h3,h4,h5,h6,h7,h8,h9,h10⟩
 ·exact .inl h0
 ·obtain⟨k1,k2,k3⟩:=hb b rfl
  exact .inr ⟨b,cap,cur,e,sz,rfl,by rw[k1];exact h1,h2,h3,h4,h5,h6,by rw[k2];exact h7,k3 h8,h9,h10⟩
theorem OwnB.lt{r:List (List V)}{x:Value}(ho:OwnB m c w r x){b:Nat}(hb:Jo x=some b):b<w.heap.size/\b∉m:=by
 rcases ho with⟨rfl,_⟩|⟨b',cap,cur,e,sz,rfl,h1,h2,h3,h4,h5,h6,h7,h8,h9,h10⟩
 ·cases hb
 ·cases hb;exact⟨(AX.1 h1).1,h8⟩
theorem GM{n k:Nat}(hn:n<=k){v:V}(hv:okc n v=true):okc k v=true:=by cases v<;>first|exact hv|(simp[okc]at hv⊢;omega)
theorem JJW{n k:Nat}{v:V}(hv:okv n v=true)(hn:n<=k):okv k v=true:=by
 cases v with
 |agg cs=>simp only[okv,As]at hv⊢;exact λx hx=>GM hn (hv x hx)
 |fn f cs=>simp only[okv,As]at hv⊢;exact λx hx=>GM hn (hv x hx)
 |undef=>rfl
 |any=>rfl
 |v y=>rfl
 |nil=>rfl
 |list k r=>rfl
 |rp cs=>rfl
 |tup vs=>cases hv
 |ptr b o=>exact GM (v:= .ptr b o) hn hv
 |mp b=>exact GM (v:= .mp b) hn hv
 |buf b o k=>exact GM (v:= .buf b o k) hn hv
 |stk b k sz=>exact GM (v:= .stk b k sz) hn hv
theorem VR0.okc{v:V}{x:Value}(hv:VR0 m c w v x):okc m.length v=true:=by
 cases v with
 |ptr b o=>obtain⟨g,hg,_⟩:=hv;simp[Lift.okc];exact(Ad.1 hg).1
 |mp b=>obtain⟨g,hg,_⟩:=hv;simp[Lift.okc];exact(Ad.1 hg).1
 |buf b o n=>obtain⟨g,cap,hg,_⟩:=hv;simp[Lift.okc];exact(Ad.1 hg).1
 |stk b n sz=>obtain⟨g,cap,hg,_⟩:=hv;simp[Lift.okc];exact(Ad.1 hg).1
 |agg cs=>exact hv.elim
 |tup cs=>exact hv.elim
 |fn f cs=>exact hv.elim
 |_=>rfl
theorem VR1.okv{v:V}{x:Value}(hv:VR1 m c w v x):okv m.length v=true:=by
 cases v with
 |fn f cs=>
  obtain⟨fs,xs,rfl,hr1,hr⟩:=hv;simp only[Lift.okv,As];intro y hy;rcases splitB_mem hy with rfl|hy|hy
  ·rfl
  ·obtain⟨i,hi,rfl⟩:=A8 hy
   obtain⟨z,hz,hv⟩:=hr1.get (Ac hi)
   exact hv.okc
  ·obtain⟨i,hi,rfl⟩:=A8 hy
   obtain⟨z,hz,hv⟩:=hr.get (Ac hi)
   exact hv.okc
 |agg cs=>exact hv.elim
 |tup cs=>exact hv.elim
 |undef=>rfl
 |any=>rfl
 |v y=>rfl
 |nil=>rfl
 |list k r=>rfl
 |ptr b o=>exact VR0.okc (c:=c) (w:=w) (v:= .ptr b o) (x:=x) hv
 |mp b=>exact VR0.okc (c:=c) (w:=w) (v:= .mp b) (x:=x) hv
 |rp cs=>rfl
 |buf b o n=>exact VR0.okc (c:=c) (w:=w) (v:= .buf b o n) (x:=x) hv
 |stk b n sz=>exact VR0.okc (c:=c) (w:=w) (v:= .stk b n sz) (x:=x) hv
structure Grow(m:List Nat)(c:Cl)(w:World)(h:JC)(nm:List Nat)(c':Cl)(w':World)(nh:JC):Prop where
 size:w.heap.size<=w'.heap.size
 old:∀b,b<w.heap.size->w'.heap[b]? =w.heap[b]?
 oldc:∀b,b<w.heap.size->c' b=c b
 newc:∀b,w.heap.size<=b->0<c' b->∃arr e f,w'.heap[b]? =some (.cells arr e f)/\c' b<=arr.size
 nm1:∀b∈nm,w.heap.size<=b/\c' b=0
 nd:nm.Nodup
 len:nm.length=nh.length
 ob:∀(i:Nat) o b,nh[i]? =some o->nm[i]? =some b->ObR (m++nm) c' w' o b
 one:nm.length<=1
 noOwn:∀(i:Nat) (cs:List V) (j:Nat) (r:List (List V)) (b:Nat),nh[i]? =some (.cells cs)->cs[j]? =some (.list .yes r)->nm[i]? =some b->r=[]/\w'.cell? ⟨b,j,none⟩=some (.slice none 0 0)
 os:w'.os=w.os
 tape:w'.tape=w.tape
 output:w'.output=w.output
theorem Grow.ext{nm:List Nat}{c':Cl}{w':World}{nh:JC}(hG:Grow m c w h nm c' w' nh)(hC:Core vars m c w g h a):Ext c w c' w':=by
 refine⟨λb=>?_,λb o ho=>?_,λb _=>?_⟩
 ·rcases AG b w.heap.size with hb|hb
  ·rw[hG.oldc b hb];exact Ab _
  ·rw[hC.c_zero hb];exact A9 _
 ·rcases AG b w.heap.size with hb|hb
  ·exact JR (hG.old b hb) o
  ·rw[hC.c_zero hb]at ho;omega
 ·exact Shp.old hG.old b
theorem Wu{h nh:JC}{i:Nat}{cs:List V}(hi:cellsOfOb (h++nh) i=some cs):(i<h.length/\cellsOfOb h i=some cs)\/(h.length<=i/\nh[i-h.length]? =some (.cells cs)):=by
 unfold cellsOfOb at*;rw[B9]at hi
 split at hi
 ·rename_i cs' hcs
  cases hi
  split at hcs
  ·rename_i hl;rw[hcs];exact .inl ⟨hl,rfl⟩
  ·rename_i hl;exact .inr ⟨om,hcs⟩
 ·cases hi
theorem Core.grow{nm:List Nat}{c':Cl}{w':World}{nh:JC}(hC:Core vars m c w g h a)(hG:Grow m c w h nm c' w' nh):
  Core vars (m++nm) c' w' g (h++nh) a:=by
 have he:=hG.ext hC;have hmm:∀{i b},m[i]? =some b->b∉nm:=λhi hb=>by have:=hC.m_lt hi;have:=(hG.nm1 _ hb).1;omega
 have hAt:∀{l r x},At (m++nm) w' g (h++nh) a l r x->At m w g h a l r x\/(r=[]/\x= .slice none 0 0):=λ{l r x} hl=>by
  cases l with
  |slot t=>exact .inl hl
  |cell i j=>
   obtain⟨cs,b,h1,h2,h3,h4⟩:=hl;rcases Wu h1 with⟨hi,hcs⟩|⟨hi,hcs⟩
   ·rw[Bj (by rw[hC.len];exact hi)]at h3
    exact .inl ⟨cs,b,hcs,h2,h3,by rw[<-JR (hG.old b (hC.m_lt h3))];exact h4⟩
   ·rw[AZ (by rw[hC.len];exact hi),hC.len]at h3
    obtain⟨k1,k2⟩:=hG.noOwn _ cs j r b hcs h2 h3;rw[h4]at k2;exact .inr ⟨k1,Bs k2⟩
 have hAt':∀{l r x},At m w g h a l r x->At (m++nm) w' g (h++nh) a l r x:=λ{l r x} hl=>by
  cases l with
  |slot t=>exact hl
  |cell i j=>
   obtain⟨cs,b,h1,h2,h3,h4⟩:=hl;refine⟨cs,b,?_,h2,Pre.append m nm i b h3,by rw[JR (hG.old b (hC.m_lt h3))];exact h4⟩
   unfold cellsOfOb at*
   split at h1
   ·rename_i cs' hcs
    cases h1;rw[Bj (Ad.1 hcs).1,hcs]
   ·cases h1
 refine⟨λb hb=>?_,λb hb=>?_,?_,by simp[hC.len,hG.len],λt=>(hC.env t).mono (Pre.append m nm) he,λi o b ho hb=>?_,λl r x hl=>?_,λl l' r r' x x' b h1 h2 hb hb'=>?_,hC.tagS,λt i j r ht=>hAt' (hC.tagC t i j r ht),λn cs hg=>(hC.gt n cs hg).mono he⟩
 ·rcases AG b w.heap.size with hl|hl
  ·rw[hG.oldc b hl]at hb
   rw[hG.oldc b hl,hG.old b hl];exact hC.wf1 b hb
  ·exact hG.newc b hl hb
 ·rcases AN.1 hb with hb|hb
  ·obtain⟨i,hi,rfl⟩:=A8 hb
   rw[hG.oldc _ (hC.m_lt (Ac hi))]
   exact hC.wf2 _ hb
  ·exact(hG.nm1 b hb).2
 ·rw[List.nodup_append]
  refine⟨hC.nd,hG.nd,λx hx y hy e=>?_⟩
  obtain⟨i,hi,rfl⟩:=A8 hx;subst e;exact hmm (Ac hi) hy
 ·rw[B9]at ho hb
  rw[hC.len]at hb
  split at ho
  ·rename_i hl
   rw[if_pos hl]at hb;exact(hC.ob i o b ho hb).keep (hG.old b (hC.m_lt hb)) (Pre.append m nm) he
  ·rename_i hl
   rw[if_neg hl]at hb;exact hG.ob _ o b ho hb
 ·rcases hAt hl with hl|⟨rfl,rfl⟩
  ·refine(hC.own l r x hl).keep λb hb=>?_
   have:=(hC.own l r x hl).lt hb
   exact⟨hG.old b this.1,hG.oldc b this.1,λhn hb'=>by
    rcases AN.1 hb' with h'|h'
    ·exact hn h'
    ·have:=(hG.nm1 b h').1;omega⟩
  ·exact .inl ⟨rfl,rfl⟩
 ·rcases hAt h1 with h1|⟨rfl,rfl⟩
  ·rcases hAt h2 with h2|⟨rfl,rfl⟩
   ·exact hC.uniq l l' r r' x x' b h1 h2 hb hb'
   ·cases hb'
  ·cases hb
def Keeps(B:Nat)(h0 h:JC):Prop:=∀(n i:Nat) cs,i<B->i<n->cellsOfOb h i=some cs->(∀cs0,cellsOfOb h0 i=some cs0->∀v∈cs0,okv n v=true)->∀v∈cs,okv n v=true
structure Entry where
 lo:Nat
 base:Nat
 w:World
 m:List Nat
 c:Cl
 ho:Nat->Prop
 h:JC
 nt:Nat
structure InvP(vars:List Nat)(E:Entry)(m:List Nat)(c:Cl)(w:World)(g:Jj)(h:JC)(a:Act):Prop where
 core:Core vars m c w g h a
 fr:Fr E.lo E.ho E.w E.m E.c w m c
 owned:JAN E.lo E.ho E.w m w g h a
 hlo:h.take E.lo=E.h.take E.lo
 hlen:E.base<=h.length
 ml:E.m.length=E.base
 lole:E.lo<=E.base
 nt:a.tmps.size=E.nt
 df:a.defers=[]
 old:Keeps E.base E.h h
 ent:∀(i:Nat) cs,cellsOfOb E.h i=some cs->∀v∈cs,okv E.base v=true
theorem InvP.grow{E:Entry}{nm:List Nat}{c':Cl}{w':World}{nh:JC}(hI:InvP vars E m c w g h a)(hG:Grow m c w h nm c' w' nh):
  InvP vars E (m++nm) c' w' g (h++nh) a:=by
 have hC:=hI.core;refine⟨hC.grow hG,?_,?_,?_,by simp;have:=hI.hlen;omega,hI.ml,hI.lole,hI.nt,hI.df,λn i cs hib hin hcs h0=>?_,hI.ent⟩
 ·refine⟨hG.os.trans hI.fr.os,hG.tape.trans hI.fr.tape,hG.output.trans hI.fr.output,AY hI.fr.size hG.size,hI.fr.pre.trans (Pre.append m nm),λi b hi hb=>?_,hI.fr.ext.trans (hG.ext hC),λb hb h1 h2=>?_⟩
  ·rw[B9]at hb
   split at hb
   ·exact hI.fr.new i b hi hb
   ·exact AY hI.fr.size (hG.nm1 b (Ar hb)).1
  ·have hl:=Cu hb hI.fr.size
   rw[hG.old b hl,hG.oldc b hl];exact hI.fr.fix b hb h1 h2
 ·intro l r x b hl hu hb
  cases l with
  |slot t=>exact hI.owned (.slot t) r x b hl hu hb
  |cell i j=>
   obtain⟨cs,bb,h1,h2,h3,h4⟩:=hl;rcases Wu h1 with⟨hi,hcs⟩|⟨hi,hcs⟩
   ·rw[Bj (by rw[hC.len];exact hi)]at h3
    exact hI.owned (.cell i j) r x b ⟨cs,bb,hcs,h2,h3,by rw[<-JR (hG.old bb (hC.m_lt h3))];exact h4⟩ hu hb
   ·rw[AZ (by rw[hC.len];exact hi),hC.len]at h3
    obtain⟨k1,k2⟩:=hG.noOwn _ cs j r bb hcs h2 h3;rw[h4]at k2;cases k2;cases hb
 ·rw[List.take_append_of_le_length (by have:=hI.hlen;have:=hI.lole;omega)]
  exact hI.hlo
 ·rcases Wu hcs with⟨_,hcs⟩|⟨hi',hcs⟩
  ·exact hI.old n i cs hib hin hcs h0
  ·have:=hI.hlen
   omega
theorem InvP.ins{E:Entry}(hI:InvP vars E m c w g h a){t:Nat}{v:V}{x:Value}(ht:t<E.nt)(hv:VRr m c w v x)
  (hown:∀r,v= .list .yes r->(OwnB m c w r x/\ ∀l r' x' b,l≠ .slot t->At m w g h a l r' x'->Jo x=some b->Jo x'≠some b)/\ ∀b,Jo x=some b->E.w.heap.size<=b\/E.ho b)
  (htS:∀u r,v= .list (.slot u) r->u∈vars/\u≠t/\look g u= .list .yes r/\x=a.tmps.getD u undef)
  (htC:∀i j r,v= .list (.cell i j) r->At m w g h a (.cell i j) r x)
  (hno:t∉vars\/ ∀t' u r,look g t'≠ .list (.slot u) r):
  InvP vars E m c w (Lift.ins t v g) h (a.put (some t) x):=by
 have ht':t<a.tmps.size:=by rw[hI.nt];exact ht
 refine⟨hI.core.ins ht' hv (λr hr=>(hown r hr).1) htS htC hno,hI.fr,?_,hI.hlo,hI.hlen,hI.ml,hI.lole,by simp[Act.put,hI.nt],hI.df,hI.old,hI.ent⟩
 intro l r y b hl hu hb
 cases l with
 |slot u=>
  obtain⟨h1,h2⟩:=hl;rw[Jy]at h1;simp only[Act.put,JJV a.tmps t u x ht']at h2;by_cases hut:u=t
  ·simp only[hut,if_true]at h1 h2
   subst h2;exact(hown r h1).2 b hb
  ·simp only[if_neg hut]at h1 h2
   exact hI.owned (.slot u) r y b ⟨h1,h2⟩ trivial hb
 |cell i j=>exact hI.owned (.cell i j) r y b hl hu hb
theorem InvP.put{E:Entry}(hI:InvP vars E m c w g h a){d:Option Nat}{v:V}{x:Value}(hd:∀t,d=some t->t<E.nt)(hv:VRr m c w v x)(ht:TagOK vars m w g h a v x)
  (hno:(∀t,d=some t->t∉vars)\/((∀t' u r,look g t'≠ .list (.slot u) r)/\bare v=true)):InvP vars E m c w (Lift.put d v g) h (a.put d x):=by
 cases d with
 |none=>exact hI
 |some t=>
  refine hI.ins (hd t rfl) hv (λr e=>absurd e (ht.1 r)) (λu r e=>?_) (λi j r e=>ht.2.2 i j r e) (hno.imp (λh1=>h1 t rfl) (λh1=>h1.1))
  obtain⟨h1,h2,h3⟩:=ht.2.1 u r e;refine⟨h1,?_,h2,h3⟩
  rcases hno with hno|hno
  ·intro e';exact hno t rfl (e'▸h1)
  ·rw[e]at hno;simp[Lift.bare]at hno
theorem InvP.untag{E:Entry}(hI:InvP vars E m c w g h a):InvP vars E m c w (Lift.untag g) h a:=
 ⟨hI.core.untag,hI.fr,λl r x b hl hu hb=>by
  cases l with
  |slot t=>exact hI.owned (.slot t) r x b ⟨Qo.1 (by rw[<-Jp];exact hl.1),hl.2⟩ trivial hb
  |cell i j=>exact hI.owned (.cell i j) r x b hl hu hb,hI.hlo,hI.hlen,hI.ml,hI.lole,hI.nt,hI.df,hI.old,hI.ent⟩
theorem InvP.release{E:Entry}(hI:InvP vars E m c w g h a){u:Nat}{r:List (List V)}(hu:look g u= .list .yes r):InvP vars E m c w (Lift.untag (Lift.ins u (.list .no r) g)) h a:=
 ⟨hI.core.release hu rfl,hI.fr,λl q x b hl hup hb=>by
  cases l with
  |slot t=>
   obtain⟨h1,h2⟩:=hl;rw[Jp,Qo,Jy]at h1
   split at h1
   ·cases h1
   ·exact hI.owned (.slot t) q x b ⟨h1,h2⟩ trivial hb
  |cell i j=>exact hI.owned (.cell i j) q x b hl hup hb,hI.hlo,hI.hlen,hI.ml,hI.lole,hI.nt,hI.df,hI.old,hI.ent⟩
end
section
variable{P:Program}{vars:List Nat}{m:List Nat}{c:Cl}{w:World}{g:Jj}{h:JC}{a:Act}
theorem Z5{h:JC}{i k:Nat}{o:Ob}{cs:List V}(hk:cellsOfOb (h.set i o) k=some cs):(k=i/\o= .cells cs)\/(k≠i/\cellsOfOb h k=some cs):=by
 unfold cellsOfOb at*;rw[BK]at hk
 by_cases hki:i=k
 ·subst hki
  simp only[if_true]at hk;by_cases hl:i<h.length
  ·simp only[hl,if_true]at hk
   split at hk
   ·rename_i cs' hcs
    cases hk;cases hcs;exact .inl ⟨rfl,rfl⟩
   ·cases hk
  ·simp[hl]at hk
 ·simp only[if_neg hki]at hk
  exact .inr ⟨Ne.symm hki,hk⟩
theorem InvP.setOb{E:Entry}(hI:InvP vars E m c w g h a){i gb:Nat}{o':Ob}{w':World}(jf:Nat)
  (hlo:E.lo<=i)(hi:m[i]? =some gb)
  (hsz:w'.heap.size=w.heap.size)(hother:∀b,b≠gb->w'.heap[b]? =w.heap[b]?)(hos:w'.os=w.os)(htape:w'.tape=w.tape)(hout:w'.output=w.output)
  (hob:ObR m c w' o' gb)
  (hown:∀cs' (j:Nat) r x,o'= .cells cs'->cs'[j]? =some (.list .yes r)->w'.cell? ⟨gb,j,none⟩=some x->(r=[]/\x= .slice none 0 0)\/
   (j≠jf->At m w g h a (.cell i j) r x)/\
   (j=jf->OwnB m c w r x/\(∀l r' x' b,At m w g h a l r' x'->l≠ .cell i j->Jo x=some b->Jo x'≠some b)/\ ∀b,Jo x=some b->E.w.heap.size<=b\/E.ho b))
  (hnt:∀t i j r,look g t≠ .list (.cell i j) r)
  (hold:∀cs',o'= .cells cs'->i<E.base->∀n,i<n->(∀cs,cellsOfOb h i=some cs->∀v∈cs,okv n v=true)->∀v∈cs',okv n v=true)(hshp:Shp w w' gb):
  InvP vars E m c w' g (h.set i o') a:=by
 have hC:=hI.core;have hc0:c gb=0:=hC.wf2 gb (Ar hi)
 have he:Ext c w c w':=⟨λ_=>Ab _,λb o ho=>by
  by_cases hb:b=gb
  ·rw[hb,hc0]at ho;omega
  ·exact JR (hother b hb) o,λb _=>by
  by_cases hb:b=gb
  ·rw[hb];exact hshp
  ·exact Shp.same (hother b hb)⟩
 have hmne:∀{k b},m[k]? =some b->k≠i->b≠gb:=λ{k b} hk hki e=>by
  subst e;have h1:=(Ad.1 hk)
  have h2:=(Ad.1 hi)
  obtain⟨l1,e1⟩:=h1;obtain⟨l2,e2⟩:=h2;exact hki ((List.getElem_inj hC.nd).1 (e1.trans e2.symm))
 have hAt:∀{l r x},At m w' g (h.set i o') a l r x->(At m w g h a l r x/\l≠ .cell i jf)\/
   (l= .cell i jf/\OwnB m c w r x/\(∀l r' x' b,At m w g h a l r' x'->l≠ .cell i jf->Jo x=some b->Jo x'≠some b)/\ ∀b,Jo x=some b->E.w.heap.size<=b\/E.ho b)\/(r=[]/\x= .slice none 0 0):=λ{l r x} hl=>by
  cases l with
  |slot t=>exact .inl ⟨hl,λe=>by cases e⟩
  |cell k j=>
   obtain⟨cs,b,h1,h2,h3,h4⟩:=hl;rcases Z5 h1 with⟨rfl,ho⟩|⟨hki,hcs⟩
   ·rw[hi]at h3
    cases h3;rcases hown cs j r x ho h2 h4 with h0|this
    ·exact .inr (.inr h0)
    ·by_cases hj:j=jf
     ·subst hj
      exact .inr (.inl ⟨rfl,this.2 rfl⟩)
     ·exact .inl ⟨this.1 hj,λe=>hj (by cases e;rfl)⟩
   ·exact .inl ⟨⟨cs,b,hcs,h2,h3,by rw[<-JR (hother b (hmne h3 hki))];exact h4⟩,λe=>hki (by cases e;rfl)⟩
 have hkeep:∀{r x},OwnB m c w r x->OwnB m c w' r x:=λ{r x} ho=>ho.keep λb hb=>by have:=ho.lt hb;exact⟨hother b (λe=>this.2 (e▸Ar hi)),rfl,id⟩
 refine⟨⟨λb hb=>?_,hC.wf2,hC.nd,by simp[hC.len],λt=>(hC.env t).mono (Pre.refl m) he,λk o b ho hb=>?_,λl r x hl=>?_,λl l' r r' x x' b h1 h2 hb hb'=>?_,hC.tagS,λt i j r ht=>absurd ht (hnt t i j r),λn cs hg=>(hC.gt n cs hg).mono he⟩,
  ⟨hos.trans hI.fr.os,htape.trans hI.fr.tape,hout.trans hI.fr.output,by rw[hsz];exact hI.fr.size,hI.fr.pre,hI.fr.new,hI.fr.ext.trans he,λb hb h1 h2=>?_⟩,λl r x b hl hu hb=>?_,?_,by simpa using hI.hlen,hI.ml,hI.lole,hI.nt,hI.df,λn k cs hkb hkn hcs h0=>?_,hI.ent⟩
 ·rw[hother b (λe=>by rw[e,hc0]at hb;omega)]
  exact hC.wf1 b hb
 ·rw[BK]at ho
  by_cases hik:i=k
  ·subst hik
   rw[hi]at hb;cases hb;by_cases hl:i<h.length
   ·simp only[hl,if_true,Aj]at ho
    subst ho;exact hob
   ·simp[hl]at ho
  ·simp only[if_neg hik]at ho
   exact(hC.ob k o b ho hb).keep (hother b (hmne hb (Ne.symm hik))) (Pre.refl m) he
 ·rcases hAt hl with⟨hl,_⟩|⟨_,ho,_⟩|h0
  ·exact hkeep (hC.own l r x hl)
  ·exact hkeep ho
  ·exact .inl ⟨h0.2,h0.1⟩
 ·rcases hAt h1 with⟨g1,n1⟩|⟨e1,_,d1,_⟩|⟨_,rfl⟩
  ·rcases hAt h2 with⟨g2,n2⟩|⟨e2,_,d2,_⟩|⟨_,rfl⟩
   ·exact hC.uniq l l' r r' x x' b g1 g2 hb hb'
   ·exact absurd hb (d2 l r x b g1 n1 hb')
   ·cases hb'
  ·rcases hAt h2 with⟨g2,n2⟩|⟨e2,_,d2,_⟩|⟨_,rfl⟩
   ·exact absurd hb' (d1 l' r' x' b g2 n2 hb)
   ·rw[e1,e2]
   ·cases hb'
  ·cases hb
 ·by_cases hbg:b=gb
  ·subst hbg
   by_cases hil:i<E.m.length
   ·have:=hI.fr.pre i _ (Ac hil)
    rw[hi]at this;cases this;exact absurd (Ac hil) (h1 i hlo)
   ·have:=hI.fr.new i b om hi
    omega
  ·rw[hother b hbg]
   exact hI.fr.fix b hb h1 h2
 ·rcases hAt hl with⟨hl,_⟩|⟨_,_,_,ho⟩|⟨_,rfl⟩
  ·exact hI.owned l r x b hl hu hb
  ·exact ho b hb
  ·cases hb
 ·rw[Da om]
  exact hI.hlo
 ·rcases Z5 hcs with⟨rfl,ho⟩|⟨_,hcs⟩
  ·exact hold cs ho hkb n hkn λcs1 h1=>hI.old n _ cs1 hkb hkn h1 h0
  ·exact hI.old n k cs hkb hkn hcs h0
theorem InvP.grown{E:Entry}(hI:InvP vars E m c w g h a){c':Cl}{w':World}(fb:Option Nat)
  (hsz:w.heap.size<=w'.heap.size)(hold:∀b,b<w.heap.size->fb≠some b->w'.heap[b]? =w.heap[b]? /\c' b=c b)
  (hfb:∀b,fb=some b->b∉m/\(∀l r x,At m w g h a l r x->Jo x≠some b)/\(E.w.heap.size<=b\/E.ho b)/\c b<=c' b/\
   (∀o,o<c b->w'.cell? ⟨b,o,none⟩=w.cell? ⟨b,o,none⟩)/\(∃arr e f,w'.heap[b]? =some (.cells arr e f)/\c' b<=arr.size)/\(c' b=0->Shp w w' b))
  (hnew:∀b,w.heap.size<=b->fb≠some b->0<c' b->∃arr e f,w'.heap[b]? =some (.cells arr e f)/\c' b<=arr.size)
  (hos:w'.os=w.os)(htape:w'.tape=w.tape)(hout:w'.output=w.output):InvP vars E m c' w' g h a:=by
 have hC:=hI.core
 have he:Ext c w c' w':=by
  refine⟨λb=>?_,λb o ho=>?_,λb hcz=>?_⟩
  ·by_cases hb:fb=some b
   ·exact(hfb b hb).2.2.2.1
   ·rcases AG b w.heap.size with hl|hl
    ·rw[(hold b hl hb).2];exact Ab _
    ·rw[hC.c_zero hl];exact A9 _
  ·by_cases hb:fb=some b
   ·exact(hfb b hb).2.2.2.2.1 o ho
   ·rcases AG b w.heap.size with hl|hl
    ·exact JR (hold b hl hb).1 o
    ·rw[hC.c_zero hl]at ho;omega
  ·by_cases hb:fb=some b
   ·exact(hfb b hb).2.2.2.2.2.2 hcz
   ·rcases AG b w.heap.size with hl|hl
    ·exact Shp.same (hold b hl hb).1
    ·exact Shp.none hl
 have hm:∀{i b},m[i]? =some b->w'.heap[b]? =w.heap[b]? /\c' b=c b:=λ{i b} hi=>hold b (hC.m_lt hi) (λe=>(hfb b e).1 (Ar hi))
 have hAt:∀{l r x},At m w' g h a l r x->At m w g h a l r x:=λ{l r x} hl=>by
  cases l with
  |slot t=>exact hl
  |cell i j=>obtain⟨cs,b,h1,h2,h3,h4⟩:=hl;exact⟨cs,b,h1,h2,h3,by rw[<-JR (hm h3).1];exact h4⟩
 have hAt':∀{l r x},At m w g h a l r x->At m w' g h a l r x:=λ{l r x} hl=>by
  cases l with
  |slot t=>exact hl
  |cell i j=>obtain⟨cs,b,h1,h2,h3,h4⟩:=hl;exact⟨cs,b,h1,h2,h3,by rw[JR (hm h3).1];exact h4⟩
 refine⟨⟨λb hb=>?_,λb hb=>?_,hC.nd,hC.len,λt=>(hC.env t).mono (Pre.refl m) he,λi o b ho hb=>(hC.ob i o b ho hb).keep (hm hb).1 (Pre.refl m) he,λl r x hl=>?_,λl l' r r' x x' b h1 h2=>hC.uniq l l' r r' x x' b (hAt h1) (hAt h2),hC.tagS,λt i j r ht=>hAt' (hC.tagC t i j r ht),λn cs hg=>(hC.gt n cs hg).mono he⟩,
  ⟨hos.trans hI.fr.os,htape.trans hI.fr.tape,hout.trans hI.fr.output,AY hI.fr.size hsz,hI.fr.pre,hI.fr.new,hI.fr.ext.trans he,λb hb h1 h2=>?_⟩,λl r x b hl hu hb=>hI.owned l r x b (hAt hl) hu hb,hI.hlo,hI.hlen,hI.ml,hI.lole,hI.nt,hI.df,hI.old,hI.ent⟩
 ·by_cases hf:fb=some b
  ·exact(hfb b hf).2.2.2.2.2.1
  ·rcases AG b w.heap.size with hl|hl
   ·rw[(hold b hl hf).1,(hold b hl hf).2]
    exact hC.wf1 b (by rw[<-(hold b hl hf).2];exact hb)
   ·exact hnew b hl hf hb
 ·obtain⟨i,hi,rfl⟩:=A8 hb
  rw[(hm (Ac hi)).2]
  exact hC.wf2 _ hb
 ·refine(hC.own l r x (hAt hl)).keep λb hb=>?_
  have hb1:=(hC.own l r x (hAt hl)).lt hb;have:=hold b hb1.1 (λe=>(hfb b e).2.1 l r x (hAt hl) hb)
  exact⟨this.1,this.2,id⟩
 ·have hne:fb≠some b:=λe=>by
   rcases(hfb b e).2.2.1 with h'|h'
   ·omega
   ·exact h2 h'
  have:=hold b (Cu hb hI.fr.size) hne;rw[this.1,this.2];exact hI.fr.fix b hb h1 h2
theorem InvP.less{E:Entry}(hI:InvP vars E m c w g h a){n:Nat}(hn:E.base<=n)(hno:∀(i:Nat) cs,cellsOfOb h i=some cs->E.base<=i->i<n->∀v∈cs,okv n v=true)(hg:∀p∈g,okv n p.2=true/\Jf p.2=p.2/\(∀vs,p.2≠ .tup vs)):
  InvP vars E (m.take n) c w g (h.take n) a:=by
 have hC:=hI.core
 have hget:∀{i b},(m.take n)[i]? =some b->m[i]? =some b/\i<n:=λ{i b} hi=>by
  rw[AK]at hi
  split at hi
  ·rename_i hl;exact⟨hi,hl⟩
  ·cases hi
 have hgeth:∀{i cs},cellsOfOb (h.take n) i=some cs->cellsOfOb h i=some cs/\i<n:=λ{i cs} hi=>by
  unfold cellsOfOb at*;rw[AK]at hi
  split at hi
  ·rename_i cs' hcs
   split at hcs
   ·rename_i hl;cases hi;rw[hcs];exact⟨rfl,hl⟩
   ·cases hcs
  ·cases hi
 have hlook:∀t,(look g t= .undef)\/ ∃p∈g,p.2=look g t:=by
  intro t;clear hg hI hC
  induction g with
  |nil=>exact .inl rfl
  |cons p g ih=>
   obtain⟨k,y⟩:=p;simp only[look]
   split
   ·exact .inr ⟨_,List.mem_cons_self ..,rfl⟩
   ·rcases ih with h1|⟨p,hp,h1⟩
    ·exact .inl h1
    ·exact .inr ⟨p,Bt _ hp,h1⟩
 have hAt:∀{l r x},At (m.take n) w g (h.take n) a l r x->At m w g h a l r x:=λ{l r x} hl=>by
  cases l with
  |slot t=>exact hl
  |cell i j=>obtain⟨cs,b,h1,h2,h3,h4⟩:=hl;exact⟨cs,b,(hgeth h1).1,h2,(hget h3).1,h4⟩
 have hsub:∀{b},b∈m.take n->b∈m:=λhb=>List.mem_of_mem_take hb
 have hpl:=hI.ml
 refine⟨⟨hC.wf1,λb hb=>hC.wf2 b (hsub hb),hC.nd.sublist (List.take_sublist ..),by simp[hC.len],λt=>?_,λi o b ho hb=>?_,λl r x hl=>?_,λl l' r r' x x' b h1 h2=>hC.uniq l l' r r' x x' b (hAt h1) (hAt h2),hC.tagS,λt i j r ht=>?_,hC.gt⟩,
  ⟨hI.fr.os,hI.fr.tape,hI.fr.output,hI.fr.size,λi b hi=>?_,λi b hi hb=>hI.fr.new i b hi (hget hb).1,hI.fr.ext,hI.fr.fix⟩,λl r x b hl hu hb=>hI.owned l r x b (hAt hl) hu hb,?_,?_,hI.ml,hI.lole,hI.nt,hI.df,λk i cs hib hik hcs h0=>hI.old k i cs hib hik (hgeth hcs).1 h0,hI.ent⟩
 ·rcases hlook t with h1|⟨p,hp,h1⟩
  ·rw[h1];trivial
  ·have:=hC.env t
   rw[<-h1]at this⊢;refine VRr.less this ?_
   have h2:=(hg p hp);cases hq:p.2<;>first|(rw[hq]at h2;exact h2.1)|(exact absurd hq (h2.2.2 _))
 ·obtain⟨h1,h2⟩:=hget hb
  rw[AK,if_pos h2]at ho
  have:=hC.ob i o b ho h1
  cases o with
  |cells cs=>
   obtain⟨arr,e,f,k1,k2,k3,k4,k5⟩:=this;refine⟨arr,e,f,k1,k2,k3,λj v x hv hx=>⟨?_,(k4 j v x hv hx).2⟩,k5⟩
   have hcs:cellsOfOb h i=some cs:=by unfold cellsOfOb;rw[ho]
   have hok:okv n v=true:=by
    rcases AG i E.base with hib|hib
    ·exact hI.old n i cs hib h2 hcs (λcs0 h0 u hu=>JJW (hI.ent i cs0 h0 u hu) hn) v (Ar hv)
    ·exact hno i cs hcs hib h2 v (Ar hv)
   have h5:=VR.less (k4 j v x hv hx).1.r hok;have h6:=(k4 j v x hv hx).1
   cases v<;>first|exact h5|exact h6.elim
  |iter s p=>exact this
  |tab es=>exact this
 ·refine(hC.own l r x (hAt hl)).keep λb hb=>⟨rfl,rfl,λhn hb'=>hn (hsub hb')⟩
 ·rcases hlook t with h1|⟨p,hp,h1⟩
  ·rw[h1]at ht;cases ht
  ·have h2:=(hg p hp).2.1
   rw[h1,ht]at h2;cases h2
 ·rw[AK,if_pos]
  ·exact hI.fr.pre i b hi
  ·have:=(Ad.1 hi).1;omega
 ·rw[List.take_take,Nat.min_eq_left (by have:=hI.lole;omega)]
  exact hI.hlo
 ·have:=hI.hlen;simp;omega
end
end Go.Lift
end
namespace Go.Lift.M1.T
end Go.Lift.M1.T
namespace Go.Lift.Rul
end Go.Lift.Rul
namespace Go.Lift.Spell
end Go.Lift.Spell
namespace Go.Lift.Tok
end Go.Lift.Tok
namespace Go.Lift.Utf
end Go.Lift.Utf
namespace Go.Proofs
end Go.Proofs
