/- Facts of the program that the evaluation asks for: the live slots of each function, its types. Written by a program (gen.py). -/
import Derived.Test.YtppjlemmgpnliaaGreatDoorRows
import Derived.Lib.MapLaws
import Derived.Lib.DecodeN
import Derived.Lib.TrailingZeros
import Derived.Lib.ItoaNum
import Derived.Lib.Repeat
import Derived.Lib.Bytealg
import Derived.Lib.Index
import Derived.Test.YtppjlemmgpnliaaGreatDoorGLd
import Derived.Test.YtppjlemmgpnliaaGreatDoorGKa
open ByteArray renaming empty->AA
open Go.Proofs.Tryz renaming prog->Aa
set_option linter.unusedVariables false
set_option linter.unusedSimpArgs false
set_option linter.unusedSectionVars false
set_option maxRecDepth 20000
namespace Go.Lift.M1
open Go.Proofs
class MX where
 m:Int
 k:Bool
 d:Bool
 n:Bool
class HasK[MX]:Prop where
 h:MX.k=true
class HasD[MX]:Prop where
 h:MX.d=true
class HasN[MX]:Prop where
 h:MX.n=true
instance gtab[MX]:GTab:=⟨λn=>match n with|0=>if MX.k=true then some [.v (.int .i64 21),.v (.int .i64 22),.v (.int .i64 19),.v (.int .i64 20),.v (.int .i64 23),.v (.int .i64 24),.v (.int .i64 18),.v (.int .i64 16),.v (.int .i64 17)]else none|1=>some [.v (.int .i64 MX.m)]|2=>if MX.d=true then some (Go.Lib.deBruijn64tab.map λc:Nat=> .v (.int .u8 (c:Int)))else none|3=>if MX.n=true then some (Go.Lib.pow10Tab.map λc=> .v (.int .u64 c))else none|_=>none⟩
noncomputable def Jfs(lo:Nat)(args:List V)(h:JC):Option (V×JC):=match args with
 |[.v (.string s),.v (.int .u8 c)]=>some (.v (.int .i64 (Go.Lib.indexByte s.data.toList c.toNat.toUInt8)),h)
 |_=>none
noncomputable def ixP(lo:Nat)(args:List V)(h:JC):Option (V×JC):=match args with
 |[.v (.string s),.v (.string t)]=>match t.data.toList with
  |[c]=>some (.v (.int .i64 (Go.Lib.indexByte s.data.toList c)),h)
  |_=>if s.size<4294967281 then some (.v (.int .i64 (Go.Lib.index s.data.toList t.data.toList)),h)else none
 |_=>none
noncomputable def JPQ(lo:Nat)(args:List V)(h:JC):Option (V×JC):=match args with
 |[.v (.int .u64 x)]=>if 0<=x/\x<18446744073709551616 then some (.v (.int .i64 (Go.Lib.ctz 64 x.toNat)),h)else none
 |_=>none
noncomputable def JVX(lo:Nat)(args:List V)(h:JC):Option (V×JC):=match args with
 |[.v (.string s),.v (.int .i64 n)]=>if s.size=1/\0<=n/\n<=1000000 then some (.v (.string ⟨(Go.Lib.repeatL s.data.toList n.toNat).toArray⟩),h)else none
 |_=>none
noncomputable def JPR(lo:Nat)(args:List V)(h:JC):Option (V×JC):=match args with
 |[.v (.int .u64 x),.v (.int .i64 b)]=>if b=10/\0<=x/\x<18446744073709551616 then some (.v (.string ⟨(Go.Lib.decDigits x.toNat).toArray⟩),h)else none
 |_=>none
def ZG:List (List V)->Option (List Int)
 |[]=>some []
 |[.v (.int .u8 n)]::l=>(ZG l).map (n:: ·)
 |_=>none
def H0(i:Nat):V->Bool
 | .v (.pointer none)=>true
 | .ptr j 0=>j==i
 |_=>false
noncomputable def ccP(lo:Nat)(args:List V)(h:JC):Option (V×JC):=match args with
 |[.ptr i 0]=>match h[i]? with
  |some (.cells (p0::x::r))=>if lo<=i/\H0 i p0=true/\r.length<=1 then some (.tup [],Lift.setOb h i (.ptr i 0::x::r))else none
  |_=>none
 |_=>none
noncomputable def wrP(lo:Nat)(args:List V)(h:JC):Option (V×JC):=match args with
 |[.ptr i 0,.v (.int .i32 r)]=>match h[i]? with
  |some (.cells [p0,.list .yes rows])=>match ZG rows with
   |some out=>if lo<=i/\H0 i p0=true/\ -2147483648<=r/\r<=2147483647/\out.length<=1000000000 then
     some (.tup [.v (.int .i64 ((Utf.enc (Utf.JQ r)).length:Nat)),.v .nilIface],Lift.setOb h i [.ptr i 0,.list .yes (ri .u8 (out++Utf.enc (Utf.JQ r)))])else none
   |none=>none
  |_=>none
 |_=>none
noncomputable def stP(lo:Nat)(args:List V)(h:JC):Option (V×JC):=match args with
 |[.ptr i 0]=>match h[i]? with
  |some (.cells (p0:: .list .yes rows::r))=>match ZG rows with
   |some out=>if lo<=i/\(out.all λc=>decide (0<=c)&&decide (c<=255))=true/\out.length<=1000000000 then some (.v (.string ⟨(Q1 out).toArray⟩),Lift.setOb h i (p0:: .list .no rows::r))else none
   |none=>none
  |_=>none
 |_=>none
noncomputable def primz[MX]:Nat->Option (Nat->List V->JC->Option (V×JC)):=λn=>match n with|148=>some Jfs|143=>if MX.d=true then some JPQ else none|121=>some JVX|110=>if MX.n=true then some JPR else none|42=>some ccP|131=>some wrP|24=>some stP|126=>some ixP|_=>none
instance bty:BTy:=⟨[(2,38),(3,40)],some 5⟩
@[go_sem] theorem JqN:BTy.bt=[(2,38),(3,40)]:=rfl
@[go_sem] theorem JqO:(BTy.bt.isEmpty)=false:=rfl
@[go_sem] theorem Jr9:JBM 2=some 38:=rfl
@[go_sem] theorem JsA:JBM 3=some 40:=rfl
@[go_sem] theorem JsB(n:Nat):JBM (n+4)=none:=rfl
@[go_sem] theorem JsC:JBM 0=none:=rfl
@[go_sem] theorem JsD:JBM 1=none:=rfl
@[go_sem] theorem Jiu:((38:TypeId)==38)=true:=rfl
@[go_sem] theorem Jft:((40:TypeId)==40)=true:=rfl
@[go_sem] theorem JqP:BTy.bb=some 5:=rfl
@[go_sem] theorem Jiv:((5:TypeId)==5)=true:=rfl
variable[MX]
abbrev FT(t a:Nat)(b:Option Bool)(c:Nat)(d e f:Bool)(g:List Value):Prop:=JG Aa t=a∧Q3 Aa t=b∧Aa.bytesOf t=c∧Ha Aa t=d∧JBO Aa t=e∧qg Aa t=f∧K0 Aa t=some g∧(Aa.info? t).isSome=true
theorem FK{t a:Nat}{b:Option Bool}{c:Nat}{d e f:Bool}{g:List Value}(h1:JG Aa t=a:=by kernel_rfl)(h2:Q3 Aa t=b:=by kernel_rfl)(h3:Aa.bytesOf t=c:=by kernel_rfl)(h4:Ha Aa t=d:=by kernel_rfl)(h5:JBO Aa t=e:=by kernel_rfl)(h6:qg Aa t=f:=by kernel_rfl)(h7:K0 Aa t=some g:=by kernel_rfl)(h8:(Aa.info? t).isSome=true:=by kernel_rfl):FT t a b c d e f g:=⟨h1,h2,h3,h4,h5,h6,h7,h8⟩
attribute [go_sem] Tryz.underlying2 Tryz.underlying3 Tryz.underlying4 Tryz.underlying5 Tryz.underlying9 Tryz.underlying21 Tryz.underlying22 Tryz.underlying23 Tryz.underlying24 Tryz.underlying32 Tryz.underlying38 Tryz.underlying40 Tryz.underlying46 Tryz.underlying48 Tryz.underlying49 Tryz.underlying51 Tryz.underlying53 Tryz.underlying54 Tryz.underlying58 Tryz.underlying61 Tryz.underlying78 Tryz.underlying79 Tryz.underlying84 Tryz.underlying100 Tryz.underlying108 Tryz.underlying109 Tryz.underlying118 Tryz.underlying125 Tryz.underlying132 Tryz.underlying144 Tryz.underlying145 Tryz.underlying150 Tryz.underlying160 Tryz.underlying163 Tryz.underlying170 Tryz.underlying174 Tryz.underlying185
@[go_sem] theorem z2:FT 2 1 (some false) 8 false false false [.int .i64 0]:=FK
@[go_sem] theorem z3:FT 3 1 (some false) 8 false false false [.int .i64 0]:=FK
@[go_sem] theorem z4:FT 4 1 (some false) 1 false false false [.bool false]:=FK
@[go_sem] theorem z5:FT 5 1 (some false) 1 false false true [.int .u8 0]:=FK
@[go_sem] theorem z9:FT 9 1 (some false) 16 true false false [.string AA]:=FK
@[go_sem] theorem z21:FT 21 1 (some false) 4 false true false [.int .i32 0]:=FK
@[go_sem] theorem z22:FT 22 1 (some false) 24 false false false [.slice none 0 0]:=FK
@[go_sem] theorem z23:FT 23 1 (some false) 24 false false false [.slice none 0 0]:=FK
@[go_sem] theorem z24:FT 24 1 (some false) 8 false false false [.int .i64 0]:=FK
@[go_sem] theorem z32:FT 32 1 (some false) 24 false false false [.slice none 0 0]:=FK
attribute [go_sem] Tryz.underlying35
attribute [go_sem] Tryz.underlying36
@[go_sem] theorem z38:FT 38 2 (some true) 32 false false false [.pointer none,.slice none 0 0]:=FK
@[go_sem] theorem x38:structOk Aa 38=true:=kr
@[go_sem] theorem JqQ:JZ Aa 38 0=some (0,36):=kr
@[go_sem] theorem JqR:JZ Aa 38 1=some (1,22):=kr
@[go_sem] theorem z40:FT 40 3 (some true) 40 false false false [.pointer none,.slice none 0 0,.int .i64 0]:=FK
@[go_sem] theorem x40:structOk Aa 40=true:=kr
@[go_sem] theorem JqS:JZ Aa 40 0=some (0,38):=kr
@[go_sem] theorem JqT:JZ Aa 40 1=some (2,24):=kr
@[go_sem] theorem z46:FT 46 2 (some true) 16 false false false [.int .i64 0,.int .i64 0]:=FK
@[go_sem] theorem x46:structOk Aa 46=true:=kr
@[go_sem] theorem JqU:JZ Aa 46 0=some (0,2):=kr
@[go_sem] theorem JqV:JZ Aa 46 1=some (1,2):=kr
@[go_sem] theorem z48:FT 48 6 (some true) 48 false false false [.int .i64 0,.string AA,.int .i64 0,.int .i64 0,.bool false,.bool false]:=FK
@[go_sem] theorem x48:structOk Aa 48=true:=kr
@[go_sem] theorem JqW:JZ Aa 48 0=some (0,3):=kr
@[go_sem] theorem JqX:JZ Aa 48 1=some (1,9):=kr
@[go_sem] theorem JqY:JZ Aa 48 2=some (2,46):=kr
@[go_sem] theorem JqZ:JZ Aa 48 3=some (4,4):=kr
@[go_sem] theorem Jqa:JZ Aa 48 4=some (5,4):=kr
@[go_sem] theorem z49:FT 49 1 (some false) 24 false false false [.slice none 0 0]:=FK
@[go_sem] theorem z51:FT 51 7 (some true) 72 false false false [.int .i64 0,.string AA,.int .i64 0,.int .i64 0,.bool false,.bool false,.slice none 0 0]:=FK
@[go_sem] theorem x51:structOk Aa 51=true:=kr
@[go_sem] theorem Jqb:JZ Aa 51 0=some (0,48):=kr
@[go_sem] theorem Jqc:JZ Aa 51 1=some (6,49):=kr
@[go_sem] theorem z53:FT 53 3 (some true) 48 false false false [.string AA,.slice none 0 0,.bool false]:=FK
@[go_sem] theorem x53:structOk Aa 53=true:=kr
@[go_sem] theorem Jqd:JZ Aa 53 0=some (0,9):=kr
@[go_sem] theorem Jqe:JZ Aa 53 1=some (1,49):=kr
@[go_sem] theorem Jqf:JZ Aa 53 2=some (2,4):=kr
@[go_sem] theorem z54:FT 54 1 (some false) 24 false false false [.slice none 0 0]:=FK
@[go_sem] theorem z58:FT 58 1 (some false) 24 false false false [.slice none 0 0]:=FK
@[go_sem] theorem z61:FT 61 5 (some true) 96 false false false [.int .i64 0,.string AA,.slice none 0 0,.slice none 0 0,.slice none 0 0]:=FK
@[go_sem] theorem x61:structOk Aa 61=true:=kr
@[go_sem] theorem Jqg:JZ Aa 61 0=some (0,3):=kr
@[go_sem] theorem Jqh:JZ Aa 61 1=some (1,9):=kr
@[go_sem] theorem Jqi:JZ Aa 61 2=some (2,49):=kr
@[go_sem] theorem Jqj:JZ Aa 61 3=some (3,54):=kr
@[go_sem] theorem Jqk:JZ Aa 61 4=some (4,23):=kr
@[go_sem] theorem z78:FT 78 7 (some true) 72 false false false [.int .i64 0,.string AA,.int .i64 0,.int .i64 0,.bool false,.bool false,.slice none 0 0]:=FK
@[go_sem] theorem x78:structOk Aa 78=true:=kr
@[go_sem] theorem Jql:JZ Aa 78 0=some (0,48):=kr
@[go_sem] theorem Jqm:JZ Aa 78 1=some (6,49):=kr
@[go_sem] theorem z79:FT 79 1 (some false) 24 false false false [.slice none 0 0]:=FK
attribute [go_sem] Tryz.underlying82
@[go_sem] theorem z84:FT 84 2 (some true) 32 false false false [.slice none 0 0,.int .i64 0]:=FK
@[go_sem] theorem x84:structOk Aa 84=true:=kr
@[go_sem] theorem Jqn:JZ Aa 84 0=some (0,58):=kr
@[go_sem] theorem Jqo:JZ Aa 84 1=some (1,3):=kr
@[go_sem] theorem JsG:FT 100 9 (some true) 72 false false false [.int .i64 0,.int .i64 0,.int .i64 0,.int .i64 0,.int .i64 0,.int .i64 0,.int .i64 0,.int .i64 0,.int .i64 0]:=FK
@[go_sem] theorem JsH:FT 108 2 (some true) 32 false false false [.slice none 0 0,.int .i64 0]:=FK
@[go_sem] theorem JsJ:structOk Aa 108=true:=kr
@[go_sem] theorem Jli:JZ Aa 108 0=some (0,49):=kr
@[go_sem] theorem Jlj:JZ Aa 108 1=some (1,3):=kr
@[go_sem] theorem Jlk:FT 109 1 (some false) 24 false false false [.slice none 0 0]:=FK
@[go_sem] theorem JsK:FT 118 25 (some true) 400 false false false [.string AA,.string AA,.string AA,.string AA,.string AA,.string AA,.string AA,.string AA,.string AA,.string AA,.string AA,.string AA,.string AA,.string AA,.string AA,.string AA,.string AA,.string AA,.string AA,.string AA,.string AA,.string AA,.string AA,.string AA,.string AA]:=FK
@[go_sem] theorem JsL:FT 125 1 (some false) 8 false false false [.int .u64 0]:=FK
@[go_sem] theorem JsM:FT 132 1 (some false) 8 false false false [.int .u64 0]:=FK
@[go_sem] theorem JsN:FT 144 2 (some true) 16 false false false [.int .u64 0,.int .u64 0]:=FK
@[go_sem] theorem JsO:FT 145 4 (some true) 32 false false false [.int .u64 0,.int .u64 0,.int .u64 0,.int .u64 0]:=FK
@[go_sem] theorem JsP:FT 150 10 (some true) 80 false false false [.int .i64 0,.int .i64 0,.int .i64 0,.int .i64 0,.int .i64 0,.int .i64 0,.int .i64 0,.int .i64 0,.int .i64 0,.int .i64 0]:=FK
@[go_sem] theorem JsQ:FT 160 20 (some true) 20 false false false [.int .u8 0,.int .u8 0,.int .u8 0,.int .u8 0,.int .u8 0,.int .u8 0,.int .u8 0,.int .u8 0,.int .u8 0,.int .u8 0,.int .u8 0,.int .u8 0,.int .u8 0,.int .u8 0,.int .u8 0,.int .u8 0,.int .u8 0,.int .u8 0,.int .u8 0,.int .u8 0]:=FK
@[go_sem] theorem JsR:FT 163 256 (some true) 256 false false false (List.replicate 256 (.bool false)):=FK
attribute [go_sem] Tryz.underlying167
@[go_sem] theorem JsS:FT 170 24 (some true) 24 false false false [.int .u8 0,.int .u8 0,.int .u8 0,.int .u8 0,.int .u8 0,.int .u8 0,.int .u8 0,.int .u8 0,.int .u8 0,.int .u8 0,.int .u8 0,.int .u8 0,.int .u8 0,.int .u8 0,.int .u8 0,.int .u8 0,.int .u8 0,.int .u8 0,.int .u8 0,.int .u8 0,.int .u8 0,.int .u8 0,.int .u8 0,.int .u8 0]:=FK
@[go_sem] theorem JsT:FT 174 1 (some false) 4 false false false [.int .u32 0]:=FK
attribute [go_sem] Tryz.underlying184
@[go_sem] theorem JsU:FT 185 65 (some true) 65 false false false (List.replicate 65 (.int .u8 0)):=FK
attribute [go_sem] Tryz.underlying191
attribute [go_sem] Tryz.underlying192
attribute [go_sem] Tryz.underlying194
attribute [go_sem] Tryz.underlying195
def LL:List (List Nat)->Nat->Option (List Nat)
|[],_=>none
|a::_,0=>some a
|_::l,n+1=>LL l n
attribute [go_sem] LL
def HH:List Nat->Tr->Tr
|[],t=>t
|a::l,t=> .head a (HH l t)
attribute [go_sem] HH
abbrev LT:Type:=Nat->Option (List Nat)
def HM(a:LT)(k t:Nat->Option Nat)(v:List Nat)(m:Bool)(x:Nat->Option Mix)(o:Option Nat->Nat)(r:Nat)(w:Bool)(e:Nat->Option Nat):Hint:=⟨a,k,t,v,m,x,o,r,w,e⟩
section
variable(a:LT)(k t:Nat->Option Nat)(v:List Nat)(m:Bool)(x:Nat->Option Mix)(o:Option Nat->Nat)(r:Nat)(w:Bool)(e:Nat->Option Nat)
@[go_sem] theorem HMl:(HM a k t v m x o r w e).live=a:=rfl
@[go_sem] theorem HMk:(HM a k t v m x o r w e).keep=k:=rfl
@[go_sem] theorem HMt:(HM a k t v m x o r w e).tail=t:=rfl
@[go_sem] theorem HMv:(HM a k t v m x o r w e).vars=v:=rfl
@[go_sem] theorem HMm:(HM a k t v m x o r w e).mutc=m:=rfl
@[go_sem] theorem HMx:(HM a k t v m x o r w e).mix=x:=rfl
@[go_sem] theorem HMo:(HM a k t v m x o r w e).mode=o:=rfl
@[go_sem] theorem HMe:(HM a k t v m x o r w e).late=e:=rfl
end
abbrev NN:Nat->Option Nat:=λ_=>none
abbrev NM:Nat->Option Mix:=λ_=>none
def HQ(a:Nat->Option (List Nat)):Hint:=⟨a,(λ_=>none),(λ_=>none),[],false,(λ_=>none),λ_=>0,0,false,(λ_=>none)⟩
@[go_sem] theorem HQe(a:Nat->Option (List Nat)):(HQ a).late=(λ_=>none):=rfl
@[go_sem] theorem HQx(a:Nat->Option (List Nat)):(HQ a).mix=(λ_=>none):=rfl
@[go_sem] theorem HQl(a:Nat->Option (List Nat)):(HQ a).live=a:=rfl
@[go_sem] theorem HQo(a:Nat->Option (List Nat)):(HQ a).mode=λ_=>0:=rfl
@[go_sem] theorem HQk(a:Nat->Option (List Nat)):(HQ a).keep=(λ_=>none):=rfl
@[go_sem] theorem HQt(a:Nat->Option (List Nat)):(HQ a).tail=(λ_=>none):=rfl
@[go_sem] theorem HQv(a:Nat->Option (List Nat)):(HQ a).vars=[]:=rfl
@[go_sem] theorem HQm(a:Nat->Option (List Nat)):(HQ a).mutc=false:=rfl
@[go_sem] def h3a:LT:=λk=>LL [[0],[3],[3,5,6],[5,6,7,8],[2]] k
abbrev h3:Hint:=HQ h3a
@[go_sem] def h4a:LT:=λk=>LL [[0],[0,6],[2,3],[2,3]] k
abbrev h4:Hint:=HQ h4a
@[go_sem] def h5a:LT:=λk=>LL [[0],[0,7],[2,3],[0,4],[4],[2,3]] k
abbrev h5:Hint:=HQ h5a
@[go_sem] def h6a:LT:=λk=>LL [[0],[2,3]] k
abbrev h6:Hint:=HQ h6a
@[go_sem] def h7a:LT:=λk=>LL [[],[1,2],[0]] k
abbrev h7:Hint:=HQ h7a
@[go_sem] def h8a:LT:=λk=>LL [[0],[2]] k
abbrev h8:Hint:=HQ h8a
@[go_sem] def h9a:LT:=λk=>LL [[0],[2]] k
abbrev h9:Hint:=HQ h9a
@[go_sem] def Jll:LT:=λk=>LL [[0,1],[1,8,9,10],[1,8,9,10,11],[1,6,8,9,10],[1,6,8,9,10,21],[4],[1,6,7,8,9,10],[1,6,7,8,9,10,23],[1,6,7,8,9,10,23,24],[1,6,7,8,9,10,23,24],[1,6,7,8,9,10,40],[1,6,7,8,9,10],[1,6,7,8,9,10,23,24],[1,8,9,10,70],[4],[1,8,9,10],[4]] k
abbrev h10:Hint:=HM Jll (λ|15=>some 0|_=>none) NN [] false NM (λ_=>0) 0 false NN
@[go_sem] def Jlm:LT:=λk=>LL [[0,1,4],[0,4,11,12,13],[0,4,11,12,13,14],[0,4,6,11,12,13],[0,4,6,11,12,13,19],[0,4,6,11,12,13],[0,4,6,11,12,13],[0,4,11,12,13],[0,4,11,12,13],[0,4,6,11,12,13],[0,4,6,11,12,13],[0,4,6,11,12,13],[0,4,11,12,13],[0,4,11,12,13],[0,4,11,12,13]] k
abbrev h11:Hint:=HM Jlm (λ|14=>some 0|_=>none) NN [] false NM (λ_=>0) 0 false NN
@[go_sem] def Jln:LT:=λk=>LL [[0],[0,8],[2,3],[2,3]] k
@[go_sem] def Jlo:Nat->Option Mix:=λ|2=>some ⟨[0,1,2,3],[],.alt (.one 0 (.alt (.one 1 (.alt (.one 2 (.alt (.one 3 (.one 4 (.one 5 (.fin)))) (.one 4 (.head 3 (.one 5 (.fin)))))) (.one 4 (.head 2 (.head 3 (.one 5 (.fin))))))) (.one 4 (HH [1,2,3] (.one 5 (.fin)))))) (.one 4 (HH [0,1,2,3] (.one 5 (.fin))))⟩|_=>none
abbrev h12:Hint:=HM Jln NN (λ|2=>some 4|_=>none) [] false Jlo (λ_=>0) 0 false NN
@[go_sem] def Jlp:LT:=λk=>LL [[0,1],[0,1,6],[1,6,12,13,14],[1,6,12,13,14,15],[1,6,8,12,13,14],[1,6,8,9,10,12,13,14],[1,6,8,9,12,13,14,29],[4,5],[1,6,8,9,11,12,13,14],[1,6,8,9,11,12,13,14,31],[1,6,9,10,11,12,13,14],[1,6,8,9,11,12,13,14,31,32],[1,6,8,9,12,13,14,42],[4,5],[1,6,9,10,11,12,13,14],[1,6,8,9,11,12,13,14,49],[1,6,8,9,12,13,14,69],[4,5],[1,6,8,9,12,13,14],[1,6,9,10,11,12,13,14],[1,6,9,11,12,13,14,85],[4,5],[1,6,12,13,14],[1,6,12,13,14],[4,5]] k
abbrev h13:Hint:=HM Jlp (λ|23=>some 0|_=>none) NN [] false NM (λ_=>0) 0 false NN
@[go_sem] def Jlq:LT:=λk=>LL [[0],[0,7],[2,3],[0,4],[4],[2,3]] k
abbrev h14:Hint:=HQ Jlq
@[go_sem] def Jlr:LT:=λk=>LL [[0,1,2],[0,1,2,7],[0,1,2,7,8],[0,1,2,7,8,17],[0,1,2,7,8,9],[0,1,2,7,8,9,36],[0,1,2,7,8],[0,1,2,7,8,40],[0,1,2,7,8,10],[0,1,2,7,8,10,11,12],[0,1,2,7,8,10,11,82],[0,1,2,7,8,10,11,82],[0,1,2,7,8],[0,1,2,7,8,13],[0,1,2,7,8,13,122],[0,1,2,7,8,13,122],[0,1,2,7,8],[6]] k
@[go_sem] def Jls:Nat->Option Mix:=λ|11=>some ⟨[0,1,2,3,4,5,6,7,8,9,10,11,12,13,14,15,16,17],[],HH [0,1,2,3,4,5,6,7,8,9,10,11,12,13,14,15,16,17] (.one 18 (.one 19 (.fin)))⟩|15=>some ⟨[0,1,2,3,4,5,6,7,8,9,10,11,12,13],[],HH [0,1,2,3,4,5,6,7,8,9,10,11,12,13] (.one 14 (.one 15 (.fin)))⟩|_=>none
abbrev h15:Hint:=HM Jlr NN (λ|11=>some 17|15=>some 13|_=>none) [7] false Jls (λ_=>0) 0 false NN
@[go_sem] def Jlt:LT:=λk=>LL [[0],[0,3],[3,9,10,11],[3,9,10,11,12],[3,5,9,10,11],[3,5,6,9,10,11],[3,5,6,9,10,11,31],[3,9,10,11],[3,5,6,9,10,11,37],[3,9,10,11],[3,9,10,11],[3,9,10,11],[3,59],[3,9,10,11],[2]] k
@[go_sem] def Jlu:Nat->Option Mix:=λ|10=>some ⟨[0,1,2,3,4,5,6,7,8],[],HH [0,1,2,3,4,5,6,7,8] (.two 9)⟩|_=>none
abbrev h16:Hint:=HM Jlt (λ|11=>some 1|_=>none) (λ|6=>some 14|10=>some 8|_=>none) [3] false Jlu (λ|some 8=>1|some 41=>2|some 42=>1|_=>0) 0 false NN
@[go_sem] def Jlv:LT:=λk=>LL [[0],[0,3],[3,4],[3,4],[3,4,12],[2],[3,4]] k
abbrev h17:Hint:=HM Jlv NN NN [3] false NM (λ_=>0) 0 false NN
@[go_sem] def Jlw:LT:=λk=>LL [[0],[0,28],[0,28],[0,3],[0,3,4],[3,4,32,33,34],[3,4,32,33,34,35],[3,4,6,32,33,34],[3,4,6,7,32,33,34],[3,4,6,7,32,33,34,39],[3,4,6,7,32,33,34,39,40],[3,4,6,7,32,33,34,39,40],[3,4,6,7,32,33,34,39,40],[3,4,6,7,32,33,34,43],[3,4,6,7,32,33,34,39,40],[3,6,7,32,33,34,50],[3,6,7,32,33,34,50],[3,4,32,33,34],[3,4,32,33,34],[2]] k
abbrev h18:Hint:=HM Jlw NN NN [3] false NM (λ_=>0) 0 false NN
@[go_sem] def Jlx:LT:=λk=>LL [[0],[0,7],[2],[9,10,11],[9,10,11,12],[4,9,10,11],[9,10,11,17],[2],[9,10,11],[2]] k
abbrev h19:Hint:=HM Jlx (λ|8=>some 0|_=>none) NN [] false NM (λ_=>0) 0 false NN
@[go_sem] def Jly:LT:=λk=>LL [[0],[5,6,7],[5,6,7,8],[4,5,6,7],[5,6,7,20],[2],[5,6,7],[2]] k
abbrev h20:Hint:=HM Jly (λ|6=>some 0|_=>none) NN [] false NM (λ_=>0) 0 false NN
@[go_sem] def Jlz:LT:=λk=>LL [[0,1],[0,1],[1],[4,5]] k
abbrev h21:Hint:=HQ Jlz
@[go_sem] def Jl0:LT:=λk=>LL [[0,4,5],[0,4,5,15],[0,4,5,15],[]] k
abbrev h22:Hint:=HQ Jl0
@[go_sem] def Jl1:LT:=λk=>LL [[0,1,4],[0,4,13,14,15],[0,4,13,14,15,16],[0,4,6,13,14,15],[0,4,6,7,8,13,14,15],[0,4,6,7,8,13,14,15,29],[0,4,6,7,8,13,14,15,29],[0,4,6,13,14,15],[0,4,6,13,14,15],[0,4,6,13,14,15],[0,4,13,14,15,44],[0,4,13,14,15,44],[0,4,13,14,15],[0,4,13,14,15]] k
abbrev h23:Hint:=HM Jl1 (λ|13=>some 0|_=>none) NN [] false NM (λ_=>0) 0 false NN
@[go_sem] def Jl2:LT:=λk=>LL [[0],[0,6],[2,3],[2,3]] k
abbrev h25:Hint:=HQ Jl2
@[go_sem] def Jl3:LT:=λk=>LL [[0],[0,4],[4,11,12,13],[4,11,12,13,14],[4,6,11,12,13],[4,6,7,8,11,12,13],[4,6,7,8,9,10,11,12,13],[4,6,7,9,11,12,13,35],[2,3],[4,6,11,12,13],[4,11,12,13,43],[4,11,12,13,43],[4,11,12,13],[4,11,12,13],[2,3]] k
abbrev h26:Hint:=HM Jl3 (λ|13=>some 0|_=>none) NN [] false NM (λ_=>0) 0 false NN
@[go_sem] def Jl4:LT:=λk=>LL [[0,1,2,3],[0,1,2,3,32],[0,1,2,3],[8]] k
abbrev h27:Hint:=HQ Jl4
@[go_sem] def Jl5:LT:=λk=>LL [[0],[4],[2,3]] k
abbrev h28:Hint:=HQ Jl5
@[go_sem] def Jl6:LT:=λk=>LL [[0],[2]] k
abbrev h29:Hint:=HQ Jl6
@[go_sem] def Jl7:LT:=λk=>LL [[0],[0,3,4],[0,3,4,16],[0,3,4],[0,3,4,29],[0,3,4],[2]] k
abbrev h30:Hint:=HQ Jl7
@[go_sem] def Jl8:LT:=λk=>LL [[0],[0,3],[0,3,4],[0,3,4,11],[0,3,4,17],[0,3,4,5],[0,3,5,6,7],[0,3,5,6,29],[0,3,5,6,29],[0,3,4],[0,3,4,17,35],[0,3,4,17,35],[0,3,4],[0,3,4,40],[0,3,4],[2]] k
abbrev h31:Hint:=HM Jl8 (λ|3=>some 0|_=>none) NN [3] false NM (λ_=>0) 0 false NN
@[go_sem] def Jl9:LT:=λk=>LL [[0],[3],[3,4],[3,4],[2],[3,7],[2],[9],[2],[2]] k
abbrev h32:Hint:=HQ Jl9
@[go_sem] def JmA:LT:=λk=>LL [[0],[0,3],[0,3,4],[0,3,4],[0,3,4,16],[0,30,31,33],[0],[0],[2]] k
@[go_sem] def JmB:Nat->Option Mix:=λ|4=>some ⟨[3],[],.one 0 (.alt (.one 1 (.one 2 (.head 3 (.fin)))) (.one 2 (.one 1 (.head 3 (.fin)))))⟩|7=>some ⟨[0,1,2,3,4,5,6,7,8,9,10,11,12,13,14,16,17],[],HH [3,4,5,6,7,8,9,10,11,12,13,14] (.alt (.one 0 (.alt (.one 1 (.alt (.one 2 (.one 15 (.head 16 (.head 17 (.one 18 (.fin)))))) (.one 15 (HH [2,16,17] (.one 18 (.fin)))))) (.one 15 (HH [1,2,16,17] (.one 18 (.fin)))))) (.alt (.one 1 (.alt (.one 0 (.alt (.one 2 (.one 15 (.head 16 (.head 17 (.one 18 (.fin)))))) (.one 15 (HH [2,16,17] (.one 18 (.fin)))))) (.alt (.one 2 (.alt (.one 0 (.one 15 (.head 16 (.head 17 (.one 18 (.fin)))))) (.one 15 (HH [0,16,17] (.one 18 (.fin)))))) (.one 15 (HH [0,2,16,17] (.one 18 (.fin))))))) (.one 15 (HH [0,1,2,16,17] (.one 18 (.fin))))))⟩|_=>none
abbrev h33:Hint:=HM JmA (λ|4=>some 1001|_=>none) (λ|4=>some 0|5=>some 16|7=>some 14|_=>none) [] false JmB (λ_=>0) 0 false (λ|5=>some 0|_=>none)
@[go_sem] def JmC:LT:=λk=>LL [[0,9],[0],[0,29],[0],[0]] k
abbrev h34:Hint:=HQ JmC
@[go_sem] def JmD:LT:=λk=>LL [[0,1],[0,1,17],[4],[5],[5,31],[4],[4]] k
abbrev h35:Hint:=HM JmD NN (λ|1=>some 12|3=>some 12|_=>none) [] false NM (λ_=>0) 0 false NN
@[go_sem] def JmG:LT:=λk=>LL [[0,2],[0,2,3,4,5],[0,2,3,4,5,14],[0,2,3,4,5,14,15],[0,2,3,4,5,6,14],[0,2,3,4,5,6,14,21],[2,6],[2],[0,2,3,4,5,14],[0,2,3,4,5,34],[2],[2],[0,2,3,4,5,40],[0,2,3],[2],[0,2,3,4,5,57],[0,2,4,5],[0,2,7],[2],[0,2,3,4,5,89],[2],[0,2,3,4,5,96],[2],[2],[0,2,3,4,5,115],[2],[2],[0,2,3,4,5,139],[0,2],[2],[0,2,3,159],[2],[2,3],[2]] k
abbrev h36:Hint:=HQ JmG
@[go_sem] def JmJ:LT:=λk=>LL [[0],[0,3],[0,3,4],[0,3,4,11],[0,3,4,5,6],[0,3,4,6],[0,3,4],[2]] k
abbrev h37:Hint:=HM JmJ NN NN [3] false NM (λ_=>0) 0 false NN
@[go_sem] def JmK:LT:=λk=>LL [[0],[2]] k
abbrev h38:Hint:=HQ JmK
@[go_sem] def JmL:LT:=λk=>LL [[0],[0,3],[3,4],[3,4,13],[3,4,5],[3,4,5,24],[3,4,5,29],[3,4,5,29],[3,4],[3,4,5,6],[3,4,6],[3,4,6],[3,4,6,7],[3,4,6,7,73],[3,4],[2]] k
abbrev h39:Hint:=HM JmL (λ|3=>some 1|_=>none) NN [3,4] false NM (λ|some 10=>1|some 80=>1|_=>0) 0 false NN
@[go_sem] def JmM:LT:=λk=>LL [[1],[1,3],[1,3],[1,3,4],[1,3,4,8],[1,3,4,8,9],[1,3,4,8,9],[1,3,4,8,9],[1,3,4,8,9],[1,3,4,8,9],[1,3,4,8,22],[3,4],[1,3,4,8,9],[1,3,4,8,43],[1,3,4,8,43],[1,3,4,8,9],[1,3,4,8,50],[1,3,4,8,9],[1,3,4,8,56],[3,4],[1,3,4,8,9],[1,3,4,8,74],[1,3,4,8,74],[3,4],[1,3,4,8,9],[3,4,8,82],[3,4,8,82],[3,4,8,82],[3,4,8,82],[3,4,8,82],[3,4,8,82],[3,4,8,82],[3,4,8,82],[3,4,8,91],[3,4,8,91],[3,4,8,91],[3,4,8,91],[3,4,8,91],[3,4,8,91],[2]] k
abbrev h40:Hint:=HQ JmM
@[go_sem] def JmN:LT:=λk=>LL [[0],[2]] k
abbrev h41:Hint:=HQ JmN
@[go_sem] def JmO:LT:=λk=>LL [[0],[0,6],[2,3],[2,3]] k
abbrev h43:Hint:=HQ JmO
@[go_sem] def JmP:LT:=λk=>LL [[0],[2,3]] k
abbrev h44:Hint:=HQ JmP
@[go_sem] def JmQ:LT:=λk=>LL [[0],[2]] k
abbrev h45:Hint:=HQ JmQ
@[go_sem] def JmR:LT:=λk=>LL [[0],[0,4],[0,4,9,10,11],[0,4,9,10,11,12],[0,4,5,6,9,10,11],[0,4,5,6,7,8,9,10,11],[0,4,5,6,7,8,9,10,11,22],[2,3],[0,4,7,9,10,11,34],[0,4,7,9,10,11,34],[0,4,9,10,11],[0,4,9,10,11],[2,3]] k
abbrev h46:Hint:=HM JmR NN (λ|8=>some 11|_=>none) [4] false NM (λ_=>0) 0 false NN
@[go_sem] def JmS:LT:=λk=>LL [[0],[0,3],[3,7,8,9],[3,7,8,9,10],[3,5,7,8,9],[3,5,7,8,9],[3,5,7,8,9],[3,6,7,8,9],[3,6,7,8,9,28],[3,6,7,8,9,28],[3,7,8,9],[2]] k
abbrev h47:Hint:=HM JmS (λ|10=>some 0|_=>none) NN [3] false NM (λ_=>0) 0 false NN
@[go_sem] def JmT:LT:=λk=>LL [[1],[1,9],[2,3],[1,4],[1,4,22],[1,4,22],[1,4,32],[1,4,32,33],[2,3],[1,4,32,38],[2,3],[1,4,32,44],[2,3],[1,4,32,50],[1,53],[2,3],[5],[2,3],[1,4,32,67],[2,3],[1,4,32,72],[2,3],[1,4,32,77],[1,81],[2,3],[2,3],[1,4,32,84],[2,3],[1,4,32,87],[2,3],[1,4,91],[2,3],[2,3]] k
abbrev h48:Hint:=HQ JmT
@[go_sem] def JmU:LT:=λk=>LL [[0],[3],[3,8,9,10],[3,8,9,10,11],[3,4,5,8,9,10],[3,4,5,8,9,10,20],[3,4,5,8,9,10,20],[3,8,9,10],[2]] k
abbrev h49:Hint:=HM JmU NN NN [] true NM (λ_=>0) 0 false NN
@[go_sem] def JmV:LT:=λk=>LL [[0,1],[1,7,8,9],[1,7,8,9,10],[1,6,7,8,9],[1,7,8,9,28],[4],[1,7,8,9],[4]] k
abbrev h50:Hint:=HM JmV (λ|6=>some 0|_=>none) NN [] false NM (λ_=>0) 0 false NN
@[go_sem] def JmW:LT:=λk=>LL [[1],[2]] k
abbrev h51:Hint:=HQ JmW
@[go_sem] def JmX:LT:=λk=>LL [[0,2],[0,2,15],[2,3],[0,2,4],[2,4,5],[2,4,5,36],[2,3],[2,4,6],[2,4,6,7],[2,4,6,7,64],[2,4,6,8],[2,4,6,8,9],[2,4,6,8,9,93],[2,4,8,9],[2,4,6,7,64],[2,4,6,101],[2,3],[2,4],[2,4,120],[2,4,120],[2,3]] k
abbrev h52:Hint:=HQ JmX
@[go_sem] def JmY:LT:=λk=>LL [[0],[2]] k
abbrev h53:Hint:=HQ JmY
@[go_sem] def JmZ:LT:=λk=>LL [[0],[2]] k
abbrev h54:Hint:=HQ JmZ
@[go_sem] def Jma:LT:=λk=>LL [[0,4],[0]] k
abbrev h55:Hint:=HQ Jma
@[go_sem] def Jmb:LT:=λk=>LL [[0,1,4],[0,1,4,5],[0,1,4,5,6],[0,1,4,5,6],[0,1,4,5,6,22],[4],[0,1,4,5],[0,1,4,5,6,30],[4],[0,1,4,5,6,34],[0,1,4,5],[0,1,4,5,6,49],[0,1,4,5],[0,1,4,5,6,64],[0,1,4,5],[0,1,4,5]] k
abbrev h56:Hint:=HM Jmb NN NN [5] false NM (λ_=>0) 0 false NN
@[go_sem] def Jmc:LT:=λk=>LL [[0],[2]] k
abbrev h57:Hint:=HQ Jmc
@[go_sem] def Jmd:LT:=λk=>LL [[0,1],[4]] k
abbrev h58:Hint:=HQ Jmd
@[go_sem] def Jme:LT:=λk=>LL [[0,1,2],[0,1,2,8],[6],[6]] k
abbrev h59:Hint:=HQ Jme
@[go_sem] def Jmf:LT:=λk=>LL [[0],[0,3],[0,3,4],[2],[0,3,4,9],[0,3],[0,3],[0,3,27],[0,3],[0,3]] k
abbrev h60:Hint:=HM Jmf NN NN [3] false NM (λ_=>0) 0 false NN
@[go_sem] def Jmg:LT:=λk=>LL [[0,1,2],[0,1,2,12],[0,1,2,12],[6]] k
abbrev h61:Hint:=HQ Jmg
@[go_sem] def Jmh:LT:=λk=>LL [[0,2],[0,2,3],[0,2,3,4],[0,2,3,23],[0,2,3,23],[0,2,3],[0,2,3,40],[0,2,3],[0,2,3,40],[0,2,3,5],[0,2,3,57],[0,2,3,6],[0,2,3,6,7],[0,2,3,6,65],[0,2,3,6,65],[0,2,3,6,69],[0,2,3],[0,2,3,57],[0,2,8,9],[0,2,11],[0,2,11,105],[0,2,11,105],[0,2,11,112],[0,2,11],[0,2,11,105],[2]] k
@[go_sem] def Jmi:Nat->Option Mix:=λ|18=>some ⟨[0,1,2,3,4,5,6,7,8,9,10,11,12,13,14,15],[],HH [0,1,2,3,4,5,6,7,8,9] (.alt (.one 10 (.alt (.one 11 (.head 12 (.head 13 (.alt (.one 14 (.alt (.one 15 (.one 16 (.one 17 (.one 18 (.one 19 (.fin)))))) (.one 16 (.alt (.one 15 (.one 17 (.one 18 (.one 19 (.fin))))) (.one 17 (.alt (.one 15 (.one 18 (.one 19 (.fin)))) (.one 18 (.head 15 (.one 19 (.fin)))))))))) (.alt (.one 15 (.alt (.one 14 (.one 16 (.one 17 (.one 18 (.one 19 (.fin)))))) (.one 16 (.alt (.one 14 (.one 17 (.one 18 (.one 19 (.fin))))) (.one 17 (.head 14 (.one 18 (.one 19 (.fin))))))))) (.one 16 (.alt (.one 14 (.alt (.one 15 (.one 17 (.one 18 (.one 19 (.fin))))) (.one 17 (.alt (.one 15 (.one 18 (.one 19 (.fin)))) (.one 18 (.head 15 (.one 19 (.fin)))))))) (.alt (.one 15 (.alt (.one 14 (.one 17 (.one 18 (.one 19 (.fin))))) (.one 17 (.head 14 (.one 18 (.one 19 (.fin))))))) (.one 17 (.head 14 (.alt (.one 15 (.one 18 (.one 19 (.fin)))) (.one 18 (.head 15 (.one 19 (.fin))))))))))))))) (.one 16 (HH [11,12,13] (.alt (.one 14 (.alt (.one 15 (.one 17 (.one 18 (.one 19 (.fin))))) (.one 17 (.alt (.one 15 (.one 18 (.one 19 (.fin)))) (.one 18 (.head 15 (.one 19 (.fin)))))))) (.alt (.one 15 (.alt (.one 14 (.one 17 (.one 18 (.one 19 (.fin))))) (.one 17 (.head 14 (.one 18 (.one 19 (.fin))))))) (.one 17 (.head 14 (.alt (.one 15 (.one 18 (.one 19 (.fin)))) (.one 18 (.head 15 (.one 19 (.fin))))))))))))) (.one 16 (HH [10,11,12,13] (.alt (.one 14 (.alt (.one 15 (.one 17 (.one 18 (.one 19 (.fin))))) (.one 17 (.alt (.one 15 (.one 18 (.one 19 (.fin)))) (.one 18 (.head 15 (.one 19 (.fin)))))))) (.alt (.one 15 (.alt (.one 14 (.one 17 (.one 18 (.one 19 (.fin))))) (.one 17 (.head 14 (.one 18 (.one 19 (.fin))))))) (.one 17 (.head 14 (.alt (.one 15 (.one 18 (.one 19 (.fin)))) (.one 18 (.head 15 (.one 19 (.fin))))))))))))⟩|_=>none
abbrev h62:Hint:=HM Jmh NN (λ|18=>some 16|_=>none) [] false Jmi (λ_=>0) 0 false NN
@[go_sem] def Jmj:LT:=λk=>LL [[0,2],[0,2,3],[0,2,3,9],[2],[0,2,3],[0,2,3,21],[2],[0,2,3,31],[0,2,3,21],[0,2,3,4],[0,2,3,4,42],[0,2,3,4,42],[0,2,3,50],[2],[2]] k
abbrev h63:Hint:=HQ Jmj
@[go_sem] def Jmk:LT:=λk=>LL [[0],[2]] k
abbrev h64:Hint:=HQ Jmk
@[go_sem] def Jml:LT:=λk=>LL [[0,1],[0,1,7],[0,1,7,18],[4,5,6],[0,1,7,8,9,10],[0,1,7,8,9,10,28],[4,5,6],[0,1,8,9,10,11],[0,1,8,9,10,11,12],[0,1,8,9,10,11,12,37],[0,1,8,9,10,11,12],[0,1,8,11,12,65],[4,5,6],[0,1,8,11,12],[0,1,8,9,10,11,12],[4,5,6]] k
abbrev h65:Hint:=HQ Jml
@[go_sem] def Jmm:LT:=λk=>LL [[0,1],[1,7,8,9],[1,7,8,9,10],[1,6,7,8,9],[1,6,7,8,9,22],[4],[1,6,7,8,9,27],[1,7,8,9,31],[4],[1,7,8,9,41],[4],[1,7,8,9],[4]] k
abbrev h66:Hint:=HM Jmm (λ|11=>some 0|_=>none) NN [] false NM (λ_=>0) 0 false NN
@[go_sem] def Jmn:LT:=λk=>LL [[0],[3],[3,4],[3,6],[3,8],[10],[2],[2],[2],[2]] k
abbrev h67:Hint:=HQ Jmn
@[go_sem] def Jmo:LT:=λk=>LL [[0],[2]] k
abbrev h68:Hint:=HQ Jmo
@[go_sem] def Jmp:LT:=λk=>LL [[0],[0,14],[2],[2]] k
abbrev h69:Hint:=HQ Jmp
@[go_sem] def Jmq:LT:=λk=>LL [[0],[0,6],[2],[0,3],[2]] k
abbrev h70:Hint:=HQ Jmq
@[go_sem] def Jmr:LT:=λk=>LL [[1],[4],[2]] k
abbrev h71:Hint:=HQ Jmr
@[go_sem] def Jms:LT:=λk=>LL [[0],[0,7],[0,3,4],[0,4,36],[2],[0],[2]] k
abbrev h72:Hint:=HQ Jms
@[go_sem] def Jmt:LT:=λk=>LL [[0,1],[4]] k
abbrev h73:Hint:=HQ Jmt
@[go_sem] def Jmu:LT:=λk=>LL [[0],[0,4],[0,4,9,10,11],[0,4,9,10,11,12],[0,4,5,6,9,10,11],[0,4,5,6,7,8,9,10,11],[0,4,5,6,7,8,9,10,11,22],[2,3],[0,4,7,9,10,11,34],[0,4,7,9,10,11,34],[0,4,9,10,11],[0,4,9,10,11],[2,3]] k
abbrev h75:Hint:=HM Jmu NN (λ|8=>some 11|_=>none) [] false NM (λ_=>0) 0 false NN
@[go_sem] def Jmv:LT:=λk=>LL [[1],[1,8],[2,3],[1,10],[1,10,11],[2,3],[1,10,16],[2,3],[1,10,22],[2,3],[1,10,28],[1,31],[2,3],[2,3],[1,10,40],[2,3],[1,10,47],[2,3],[1,10,54],[1,58],[2,3],[2,3],[1,10,61],[1,10,61],[1,10,61],[1,4],[1,4,74],[1,4,74,75],[1,4,74,75],[1,4,79],[1,4,74,75],[2,3],[2,3]] k
abbrev h76:Hint:=HQ Jmv
@[go_sem] def Jmw:LT:=λk=>LL [[0,1],[1,7,8,9],[1,7,8,9,10],[1,6,7,8,9],[1,6,7,8,9,22],[4],[1,6,7,8,9,27],[1,7,8,9,31],[4],[1,7,8,9,41],[4],[1,7,8,9],[4]] k
abbrev h77:Hint:=HM Jmw (λ|11=>some 0|_=>none) NN [] false NM (λ_=>0) 0 false NN
@[go_sem] def Jmx:LT:=λk=>LL [[2,3],[2,3,12],[4],[3,14],[4],[3,14,15],[3,14,15],[3,14,15],[3,14,15],[3,14,15],[3,14,15],[23],[23,24],[23,24],[23,24],[23,24],[23,24],[23,24],[23,24],[23,24],[23,24],[23,24],[4],[4]] k
abbrev h78:Hint:=HQ Jmx
@[go_sem] def Jmy:LT:=λk=>LL [[1],[1,3],[1,3,4,5],[1,3,4,5,18],[1,3,4,5,18,19],[1,3,4,5,18,19],[1,3,4,5,18,19],[1,3,4,5],[2],[1,3,4,5,18,37],[1,3,4,5],[1,4,56],[2],[2],[1,3,4,5,18,82],[1,3,4,5,18,82],[1,3,5],[2],[1,3,4,5,18,94],[1,3],[2],[1,3,4,5,18,107],[1,3,4,5,18,107],[1,3,4,5,18,107],[1,3,4,5],[1,3,4,5,119],[1,3,4,5],[1,3,129],[2],[1,3,7],[2],[2]] k
@[go_sem] def Jmz:Nat->Option Mix:=λ|10=>some ⟨[0,1,2,3,4,6],[],HH [0,1,4] (.alt (.one 2 (.alt (.one 3 (.one 5 (.head 6 (.one 7 (.fin))))) (.one 5 (.head 3 (.head 6 (.one 7 (.fin))))))) (.one 5 (HH [2,3,6] (.one 7 (.fin)))))⟩|24=>some ⟨[0,1,2,3,4,6],[],HH [0,1,4] (.alt (.one 2 (.alt (.one 3 (.one 5 (.head 6 (.one 7 (.fin))))) (.one 5 (.head 3 (.head 6 (.one 7 (.fin))))))) (.one 5 (HH [2,3,6] (.one 7 (.fin)))))⟩|_=>none
abbrev h79:Hint:=HM Jmy NN (λ|10=>some 5|24=>some 5|_=>none) [] false Jmz (λ_=>0) 0 false NN
@[go_sem] def Jm0:LT:=λk=>LL [[1,2],[1,2,23],[4,5],[1,2,26],[27],[4,5],[4,5],[1,2,6,7,8],[1,2,6,7,8,35],[1,2,6,7,8,43],[4,5],[1,2,6,7,8],[1,2,6,7,8,48],[1,2,6,7,8],[1,2,6,7,8,9],[1,2,6,7,8,9,53],[1,2,6,7,8,9],[1,2,6,7,8,9],[1,2,6,7,8,9],[1,2,6,7,8,9,59],[4,5],[1,2,6,7,8],[1,2,8,10],[1,2,8,10,11],[1,2,8,10,11,75],[1,2,8,10,11],[1,2,8,10,79],[4,5],[1,2,8,10,83],[1,2,8,10,79],[1,2,8,10,12],[2,8,10,12,93],[2,8,10,12],[2,8,10,12,97],[2,8,10,12,97],[2,8,10,12,93],[12,110],[12,110],[4,5]] k
@[go_sem] def Jm1:Nat->Option Mix:=λ|7=>some ⟨[0,1,2,3,4,5],[],HH [0,1,2] (.alt (.one 3 (.alt (.one 4 (.alt (.one 5 (.one 6 (.one 7 (.one 8 (.fin))))) (.one 6 (.head 5 (.one 7 (.one 8 (.fin))))))) (.one 6 (.head 4 (.head 5 (.one 7 (.one 8 (.fin)))))))) (.one 6 (HH [3,4,5] (.one 7 (.one 8 (.fin))))))⟩|_=>none
abbrev h80:Hint:=HM Jm0 NN (λ|7=>some 6|_=>none) [] false Jm1 (λ_=>0) 0 false NN
@[go_sem] def Jm3:LT:=λk=>LL [[0],[0,3],[3,11],[2],[3,20],[2],[3,43],[2],[2]] k
abbrev h81:Hint:=HM Jm3 NN (λ|5=>some 8|7=>some 9|_=>none) [] false NM (λ_=>0) 0 false NN
@[go_sem] def Jm4:LT:=λk=>LL [[0],[0,4],[0,4,10,11,12],[0,4,10,11,12,13],[0,4,6,10,11,12],[0,4,10,11,12,17],[2,3],[0,4,10,11,12],[2,3]] k
abbrev h82:Hint:=HQ Jm4
@[go_sem] def Jm5:LT:=λk=>LL [[0],[0,3],[3,6,7,8],[3,6,7,8,9],[3,5,6,7,8],[3,6,7,8],[3,5,6,7,8,18],[3,6,7,8],[3,5,6,7,8,25],[3,6,7,8],[3,6,7,8],[2]] k
abbrev h83:Hint:=HQ Jm5
@[go_sem] def Jm6:LT:=λk=>LL [[0],[3],[3,5],[5,13,14,15],[5,13,14,15,16],[5,7,13,14,15],[5,13,14,15],[5,7,13,14,15,24],[5,13,14,15],[5,7,13,14,15,31],[5,13,14,15],[5,13,14,15],[2]] k
abbrev h84:Hint:=HQ Jm6
@[go_sem] def Jm7:LT:=λk=>LL [[0],[3],[3,5],[5,13,14,15],[5,13,14,15,16],[5,7,13,14,15],[5,13,14,15],[5,7,13,14,15,24],[5,13,14,15],[5,7,13,14,15,35],[5,13,14,15],[5,13,14,15],[2]] k
abbrev h85:Hint:=HQ Jm7
@[go_sem] def Jm8:LT:=λk=>LL [[0],[0,3],[0,3,19],[0,3,45],[2],[2]] k
abbrev h86:Hint:=HM Jm8 NN (λ|4=>some 8|_=>none) [] false NM (λ_=>0) 0 false NN
@[go_sem] def Jm9:LT:=λk=>LL [[0,1],[4]] k
abbrev h87:Hint:=HQ Jm9
@[go_sem] def JnA:LT:=λk=>LL [[0],[0,3,4],[0,3,4,15],[0,5],[0,5,19],[2],[5],[2],[0,3,4,6],[0,3,4,6,7],[0,3,6,7,32],[0,3,4,6,7],[0,6,7],[0,6,7],[0,3,4,6,7],[0,6,54],[0,6,54],[6,68],[2],[2]] k
abbrev h88:Hint:=HQ JnA
@[go_sem] def JnB:LT:=λk=>LL [[0],[2]] k
abbrev h89:Hint:=HQ JnB
@[go_sem] def JnC:LT:=λk=>LL [[0],[2]] k
abbrev h90:Hint:=HQ JnC
@[go_sem] def JnD:LT:=λk=>LL [[0,4],[0]] k
abbrev h91:Hint:=HQ JnD
@[go_sem] def JnG:LT:=λk=>LL [[0,2],[0,2,5,6],[0,2,5,6,28],[0,2,5,6],[0,2,5,6,28],[0,2,5,6,7],[0,2,6,7,8,9,10],[0,2,5,6,8,9,10],[0,2,5,6,8,9,10,52],[0,2,5,6,7,8],[0,2,5,6,7,8,60],[2,3,4],[0,2,5,6,7,8],[0,2,6,7,8,9,10],[0,2,5,6,8,9,10,52],[0,2,5,6,8,9,10,75],[2,3,4],[0,2,5,6,8,9,10,11],[0,2,5,6,8,9,10,11,80],[0,2,5,6,8,9,11,90],[2,3,4],[0,2,5,6,8,9,10,11],[0,2,5,6,8,9,10,11],[0,2,5,6,8,9,10,11,12],[0,2,5,6,8,9,10,11,12,109],[0,2,5,6,8,9,10,11,12],[0,2,5,6,8,9,10,11,12,109],[0,2,5,6,7,8,9,10,11,12],[0,2,5,6,7,8,9,10,11,12,127],[2,3,4],[0,2,5,6,7,8,9,10,11,12,131],[0,2,5,6,7,8,9,10,11,12,127],[0,2,5,6,7,8,9,10,11,12],[2,6,8,9,10,11,143],[0,2,5,6,8,9,10,11,80],[2,3,4]] k
abbrev h92:Hint:=HQ JnG
@[go_sem] def JnJ:LT:=λk=>LL [[0,2],[0,2],[0,2,3],[0,2,3,4],[0,2,3],[0,2,3],[0,2,3,4,20],[2,3],[2],[0,2,3,4,37],[0,2,3],[0,2,3,4],[0,2,3,49],[2],[0,2,3,4,52],[2],[0,2,3,4,69],[0,2,3,76],[2],[0,2,3],[0,2,3]] k
abbrev h93:Hint:=HM JnJ NN NN [3] false NM (λ_=>0) 0 false NN
@[go_sem] def JnK:LT:=λk=>LL [[0],[0,3],[3,6,7,8],[3,6,7,8,9],[3,5,6,7,8],[3,5,6,7,8,14],[3,5,6,7,8,14],[3,6,7,8],[3,5,6,7,8,36],[3,6,7,8],[3,5,6,7,8,44],[3,6,7,8],[3,5,6,7,8,58],[3,6,7,8],[3,6,7,8],[2]] k
abbrev h94:Hint:=HM JnK NN NN [3] false NM (λ_=>0) 0 false NN
@[go_sem] def JnL:LT:=λk=>LL [[0],[0,5],[2,3,4],[0,12],[2,3,4],[0,15],[2,3,4],[0,18],[2,3,4],[0,25],[2,3,4],[0,28],[2,3,4],[35],[2,3,4],[2,3,4]] k
abbrev h95:Hint:=HQ JnL
@[go_sem] def JnM:LT:=λk=>LL [[0],[2]] k
abbrev h96:Hint:=HQ JnM
@[go_sem] def JnN:LT:=λk=>LL [[1,2],[1,2,15],[4,5],[1,2,27],[4,5],[1,2,35],[4,5],[1,2,6,7,8],[1,2,6,7,48],[4,5],[1,2,6,7,9],[1,2,6,7,9,10],[1,2,9,10,65,66],[1,2,9,10,65,66,67],[1,2,9,10,12,65,66],[1,2,9,10,12,65,66,70,71],[1,2,9,10,12,65,66,70,71,72],[1,2,9,10,12,65,66,70,71,74],[4,5],[1,2,9,10,12,65,66,70,71],[1,2,9,10,12,65,66,70,71],[1,2,9,10,65,66],[1,2,9,13],[1,2,9,13,86],[4,5],[1,2,9,13,90],[1,2,9,13,90],[2,9,13,100],[2,9,13,14],[2,9,13],[2,13,114],[2,9,13,100],[13,119],[13,119],[4,5]] k
abbrev h97:Hint:=HM JnN NN (λ|29=>some 8|_=>none) [] false NM (λ_=>0) 0 false NN
@[go_sem] def JnP:LT:=λk=>LL [[0],[0,4],[0,4,5,6],[0,4,5,6],[2,3],[0,4,5,6,13],[2,3],[0,4,5,6,18],[0,5,6,7,8],[0,4,5,6,28],[0,4,5,6,7,8],[0,5,6,7,8,38],[0,5,6,7,8,38,39],[0,5,6,7,8,38,39],[0,5,6,7,8,41],[0,5,6,7,8,38,39],[0,4,5,6,43],[0,4,5,6,7,8],[0,5,6,7,8,53],[0,5,6,7,8,53,54],[0,5,6,7,8,53,54],[0,5,6,7,8,56],[0,5,6,7,8,53,54],[0,5,6,7,8,58,59],[0,5,6,7,8,58,59,60],[0,5,6,7,8,9,58,59],[0,7,8,9,58,59,84],[2,3],[0,7,8,58,59],[0,5,6,7,8,58,59],[0,5,6,7,8,58,59],[2,3]] k
abbrev h98:Hint:=HQ JnP
@[go_sem] def JnQ:LT:=λk=>LL [[0,1],[4]] k
abbrev h99:Hint:=HQ JnQ
@[go_sem] def Jf3:LT:=λk=>LL [[2,3],[3,6],[3,6,7],[4],[3,6,12],[3,6,12],[3,6,12],[3,6,12],[3,6,12],[3,6,12],[20],[20,21],[20,21],[20,21],[20,21],[20,21],[20,21],[20,21],[20,21],[20,21],[20,21],[4],[4]] k
abbrev Jf4:Hint:=HQ Jf3
@[go_sem] def Jf5:LT:=λk=>LL [[0],[0,5],[2],[0,3],[0,3,7],[0,3,7],[0,3,18],[2],[2]] k
abbrev Jf6:Hint:=HM Jf5 NN (λ|7=>some 15|_=>none) [] false NM (λ_=>0) 0 false NN
@[go_sem] def Jf7:LT:=λk=>LL [[0],[0,3],[3,7],[3,7,8,9],[3,5,7],[3,5,7],[3,7],[3,5,7,14],[3,7],[3,5,7,20],[3,7],[2]] k
abbrev JRo:Hint:=HQ Jf7
@[go_sem] def Jf8:LT:=λk=>LL [[0,1,2],[0,1,2,7],[1,2,7,11],[1,2,7,11,12,13],[1,2,7,9,11],[1,2,7,9,11,15],[1,2,7,11],[1,2,7,9,11,28],[1,2,7,9,11,28],[1,2,7,11],[6]] k
abbrev JRp:Hint:=HQ Jf8
@[go_sem] def Jf9:LT:=λk=>LL [[0],[0,11],[0,3],[0,22],[2],[2]] k
abbrev JgA:Hint:=HM Jf9 NN (λ|4=>some 8|_=>none) [] false NM (λ_=>0) 0 false NN
@[go_sem] def JgB:LT:=λk=>LL [[0],[0,6],[0,6,7],[2],[0,6,9],[2],[0,6,11],[2],[0,13],[2],[0,3],[0,16,17],[0,16,17,18],[0,4,5,16,17],[0,4,16,17,23],[2],[0,16,17],[2]] k
abbrev JVZ:Hint:=HQ JgB
@[go_sem] def JgC:LT:=λk=>LL [[0],[2]] k
abbrev JgD:Hint:=HQ JgC
@[go_sem] def JgG:LT:=λk=>LL [[0],[0,7],[2],[3],[3,10],[3,10,11],[3,4,10],[3,10,16],[2],[3,10],[2]] k
abbrev JVa:Hint:=HQ JgG
@[go_sem] def JgH:LT:=λk=>LL [[1],[1,10],[2],[2]] k
abbrev Ja2:Hint:=HM JgH NN (λ|3=>some 18|_=>none) [] false NM (λ_=>0) 0 false NN
@[go_sem] def JgJ:LT:=λk=>LL [[0],[0,4],[2],[2]] k
abbrev JgK:Hint:=HQ JgJ
@[go_sem] def JgL:LT:=λk=>LL [[0],[2]] k
abbrev JgM:Hint:=HQ JgL
@[go_sem] def JgN:LT:=λk=>LL [[0],[0,3],[0,3,10],[0,3,5,6],[0,3,5,19],[2],[0,3],[2]] k
abbrev JRq:Hint:=HQ JgN
@[go_sem] def JgO:LT:=λk=>LL [[0],[2]] k
abbrev JgP:Hint:=HQ JgO
@[go_sem] def JgQ:LT:=λk=>LL [[0],[0,4],[2,3],[0,9],[2,3],[0,19],[2,3],[2,3]] k
abbrev JgR:Hint:=HQ JgQ
@[go_sem] def JgS:LT:=λk=>LL [[0,1],[0,1,14],[0,1],[4]] k
abbrev JVb:Hint:=HQ JgS
@[go_sem] def JgT:LT:=λk=>LL [[0],[0]] k
abbrev JgU:Hint:=HQ JgT
@[go_sem] def JgV:LT:=λk=>LL [[0,1,2,6],[0,1,2,6,7,8],[0,1,2,6,7,8,25],[0,1,2,6,7,8],[0,1,2,6,7,8,30],[6],[0,1,2,6,7,8,36],[0,1,2,6,7,8],[0,1,2,6,7,8,30],[0,1,2,6,7,8,44],[6],[0,1,2,6,7,8,9],[0,2,6,9,50,51,52],[0,2,6,9,50,51,52,53],[0,2,6,9,11,50,51,52],[0,2,6,9,50,51,52],[0,2,6,9,50,51,52],[0,2,6,9,12],[0,2,6,9,12,64],[0,2,6,9,12],[0,2,6,9,12,68],[6],[0,2,6,9,12],[0,6,9,12,13,14],[0,6,9,12,13,14,82],[0,6,9,12,13,14],[0,6,9,12,13,14,93],[0,6,9,12,13,14],[0,6,9,12,13,14,103],[6],[0,6,9,12,13,14,106],[0,6,9,12,13,14,103],[0,6,9,12,13,14],[0,6,9,12,14,112],[0,6,9,12,13,14,103],[0,6,9,12,14,116],[6],[0,6,9,12,14],[6,9,12,120],[6],[6]] k
abbrev Gw:Hint:=HQ JgV
@[go_sem] def JgW:LT:=λk=>LL [[0,2],[0,2,3],[0,2,3],[0,2,3,18],[2],[0,2,23],[0,2]] k
abbrev JPS:Hint:=HQ JgW
@[go_sem] def JgX:LT:=λk=>LL [[0],[2]] k
abbrev JgY:Hint:=HQ JgX
@[go_sem] def JgZ:LT:=λk=>LL [[1],[2]] k
abbrev Jga:Hint:=HQ JgZ
@[go_sem] def Jgb:LT:=λk=>LL [[0],[0,5],[0,5],[0,5,6],[0,5,6,14],[0,5,6],[0,5,6],[2,3,4]] k
abbrev JVc:Hint:=HQ Jgb
@[go_sem] def Jgc:LT:=λk=>LL [[0],[0,4],[2],[2]] k
abbrev Jgd:Hint:=HQ Jgc
@[go_sem] def Jge:LT:=λk=>LL [[0],[0,3],[0,3,4],[0,3,4],[0,3,4],[0,3,4],[0,3,4,16],[2]] k
abbrev JRr:Hint:=HQ Jge
@[go_sem] def Jgf:LT:=λk=>LL [[0,1],[0,1,12],[4],[0,1,21],[4],[0,1,5,6],[0,1,5,31],[4],[4]] k
abbrev Jgg:Hint:=HQ Jgf
@[go_sem] def Jgh:LT:=λk=>LL [[0,1],[4]] k
abbrev Jgi:Hint:=HQ Jgh
@[go_sem] def Jgj:LT:=λk=>LL [[0],[0,3],[0,3,7],[0,3],[0,3],[3,4],[3,4],[3,4,5],[3,4,5,21],[3,4,5],[3,4,5],[4],[2]] k
abbrev JPT:Hint:=HM Jgj NN NN [3] false NM (λ_=>0) 0 false NN
@[go_sem] def Jgk:LT:=λk=>LL [[0],[2]] k
abbrev Jgl:Hint:=HQ Jgk
@[go_sem] def Jgm:LT:=λk=>LL [[0],[2]] k
abbrev Jgn:Hint:=HQ Jgm
@[go_sem] def Jgo:LT:=λk=>LL [[0,1],[0,1],[],[4]] k
abbrev Jgp:Hint:=HQ Jgo
@[go_sem] def Jgq:LT:=λk=>LL [[0,1],[4]] k
abbrev Jgr:Hint:=HQ Jgq
@[go_sem] def Jgs:LT:=λk=>LL [[0,1],[0,1,6],[0,1],[4]] k
@[go_sem] def Jgt:Nat->Option Mix:=λ|2=>some ⟨[0,1,2,3],[],.head 0 (.head 1 (.alt (.one 2 (.alt (.one 3 (.one 4 (.one 5 (.fin)))) (.one 4 (.head 3 (.one 5 (.fin)))))) (.one 4 (.head 2 (.head 3 (.one 5 (.fin)))))))⟩|_=>none
abbrev JRs:Hint:=HM Jgs NN (λ|2=>some 4|_=>none) [] false Jgt (λ_=>0) 0 false NN
@[go_sem] def Jgu:LT:=λk=>LL [[0,1],[4]] k
abbrev Jgv:Hint:=HQ Jgu
@[go_sem] def Jgw:LT:=λk=>LL [[0],[2]] k
abbrev Jgx:Hint:=HQ Jgw
@[go_sem] def Jgy:LT:=λk=>LL [[0,2],[2]] k
abbrev Jgz:Hint:=HQ Jgy
@[go_sem] def Jg0:LT:=λk=>LL [[1],[2]] k
abbrev Jg1:Hint:=HM Jg0 NN (λ|1=>some 18|_=>none) [] false NM (λ_=>0) 0 false NN
@[go_sem] def Jg2:LT:=λk=>LL [[0,1],[0,1,16],[0,1],[4]] k
abbrev JVd:Hint:=HQ Jg2
@[go_sem] def Jg3:LT:=λk=>LL [[0,2],[0,2,4],[0,2,4,9],[0,2,4],[0,2,4,5],[0,2,4,5,16],[2,3],[0,2,4],[2,3]] k
abbrev JnR:Hint:=HQ Jg3
@[go_sem] def Jg4:LT:=λk=>LL [[0,1],[0,1,7],[0,1,15],[0,1],[4]] k
abbrev JnS:Hint:=HQ Jg4
@[go_sem] def Jg5:LT:=λk=>LL [[0,1],[0,1,9],[0,1,5,6],[0,1,5,6,17],[0,1,5,6,17],[0,1,6,26],[0,1],[4]] k
abbrev JnT:Hint:=HQ Jg5
@[go_sem] def Jg6:LT:=λk=>LL [[0],[2]] k
abbrev JnU:Hint:=HQ Jg6
@[go_sem] def Jg7:LT:=λk=>LL [[0,1],[4]] k
abbrev Jg8:Hint:=HQ Jg7
@[go_sem] def Jg9:LT:=λk=>LL [[0,1],[0,1,7],[4],[4]] k
abbrev JVe:Hint:=HM Jg9 NN NN [0] false NM (λ_=>0) 0 false NN
@[go_sem] def JhA:LT:=λk=>LL [[0,1],[0,1,7],[4],[4]] k
abbrev JhB:Hint:=HQ JhA
@[go_sem] def JhC:LT:=λk=>LL [[0],[0,4],[2],[2]] k
abbrev JnV:Hint:=HQ JhC
@[go_sem] def JhD:LT:=λk=>LL [[0],[0,3],[2]] k
abbrev JnW:Hint:=HQ JhD
@[go_sem] def JhG:LT:=λk=>LL [[0,1,4],[0,1,4,20],[0,1,4,5],[0,1,4,5],[0,1,4,6,7],[0,1,4,6,8,9],[0,1,4,8,9,10,11],[0,1,4,8,10,11],[0,1,4,10,11],[0,1,4,10],[0,1,4],[0,1,4],[0,4,12],[0,4,12,99],[0,4,12,13],[0,4,12,13],[0,4,12,14,15],[0,4,12,14],[0,4,12],[0,4,12,99],[0,4,12,139],[0,4,12,16],[0,4,12,16],[0,4,12],[0,4,12,139],[0,12,161],[0,12,161]] k
abbrev JnX:Hint:=HM JhG NN (λ|7=>some 12|8=>some 12|9=>some 12|10=>some 12|17=>some 12|18=>some 12|23=>some 12|_=>none) [] false NM (λ_=>0) 0 false NN
@[go_sem] def JhH:LT:=λk=>LL [[0,1,2,3,4,10,11],[0,1,2,3,4,10,11,28],[0,1,2,3,4,10,11,28],[0,1,2,3,4,10,11,12],[0,1,2,3,4,10,11,12,13],[0,1,2,3,4,10,11,12,13,30],[0,1,2,3,4,10,11,12,13,30],[0,1,2,3,4,10,11,12,13,34],[0,1,2,3,4,10,11,12,13,14],[0,1,2,3,4,10,11,12,13,14,15],[0,1,3,4,10,11,12,13,14,15,16],[0,1,3,4,10,11,12,13,14,15,16,46],[0,1,3,4,10,11,12,13,14,15,16],[0,1,3,4,10,11,12,13,14,15,16],[0,1,3,4,10,11,12,13,14,15,16],[0,1,3,4,10,11,12,13],[0,3,4,10,11,12,13],[0,1,3,4,10,11,12,13,17],[0,1,3,4,10,11,12,13,17,68],[0,1,3,4,10,11,12,13,17],[0,1,3,4,10,11,12,13,17,18],[0,3,4,10,11,12,13,17,18],[0,1,3,4,10,11,12,13,17],[0,1,3,4,10,11,12,13],[0,3,4,10,11,12,13],[0,4,10,11,12,13,89],[0,4,10,11,12,13],[0,4,10,11,12,13,89],[0,10,11,12,13,94],[10,11],[10,11]] k
abbrev JRt:Hint:=HM JhH NN NN [0] false NM (λ_=>0) 0 false NN
@[go_sem] def JhJ:LT:=λk=>LL [[0,1],[0,1,11],[0,17],[4],[0,5],[0,5,6],[0,5,6,23],[0,5,6,23],[0,5,6,7],[0,5,7],[5,7,34],[5,7],[4],[4],[9],[4]] k
abbrev JhK:Hint:=HQ JhJ
@[go_sem] def JhL:LT:=λk=>LL [[0,1],[0,1,6],[0,1],[4]] k
abbrev JRu:Hint:=HQ JhL
@[go_sem] def JhM:LT:=λk=>LL [[0,1],[4]] k
abbrev JnY:Hint:=HQ JhM
@[go_sem] def JhN:LT:=λk=>LL [[0],[0,4],[0,4,10],[2,3],[0,4,5],[0,2,4,5],[0,2,4,5,18],[2,3],[0,4,5,6],[0,4,5,6],[0,4,5,6,27],[0,4,5,6],[0,4,5,6,33],[0,4,5,35],[0,4,5,35],[2,3,4,5],[2,3,48],[2,3],[2,3]] k
abbrev JnZ:Hint:=HQ JhN
@[go_sem] def JhO:LT:=λk=>LL [[0,1],[4]] k
abbrev Jna:Hint:=HQ JhO
@[go_sem] def JhP:LT:=λk=>LL [[0,1],[0,1,5],[4],[0,1,5,11],[4],[0,1,5,25],[0,1,5,25],[4],[0,1,50],[4]] k
abbrev JVf:Hint:=HM JhP NN NN [0] false NM (λ_=>0) 0 false NN
@[go_sem] def JhQ:LT:=λk=>LL [[0],[2]] k
abbrev Jnb:Hint:=HQ JhQ
@[go_sem] def JhR:LT:=λk=>LL [[0,2],[0,2,4],[0],[0,2,4],[0,2,8],[0,2],[0,2,8],[0,2,14],[0,2],[0,2,14],[2]] k
abbrev Jnc:Hint:=HQ JhR
@[go_sem] def JhS:LT:=λk=>LL [[0],[3],[2],[2]] k
abbrev Jnd:Hint:=HQ JhS
@[go_sem] def JhT:LT:=λk=>LL [[0],[2]] k
abbrev JhU:Hint:=HQ JhT
@[go_sem] def JhV:LT:=λk=>LL [[0],[2],[2]] k
abbrev JhW:Hint:=HQ JhV
@[go_sem] def JhX:LT:=λk=>LL [[0],[2]] k
abbrev Jne:Hint:=HQ JhX
@[go_sem] def JhY:LT:=λk=>LL [[0],[0,10],[2,3],[2,3]] k
abbrev Jnf:Hint:=HQ JhY
@[go_sem] def JhZ:LT:=λk=>LL [[0,1],[0,7],[0,7,8],[0,7,8,9],[0,7,8,9],[0,7,8,9,26],[0,7,8,9,33],[0,7,8,9,11],[0,7,8,9,11,43],[4],[0,7,8,9,33],[0,7,8,9,12],[0,7,8,9,12,51],[0,7,8,9,12],[0,7,8,9,12,64],[4],[0,7,8,9,10],[0,7,8,9,10],[0,7,8,9,98],[4],[8,9,13],[8,9,13,108],[4],[0,7,8,9,14],[0,7,8,9,14,15],[0,7,8,9,14,15,124],[0,7,8,9,14,15],[0,7,8,9,14,15,139],[0,7,8,9,14,15,16],[0,7,8,9,14,15,16,143],[0,7,8,9,14,15,16],[0,7,8,9,14,15,16,156],[4],[4],[0,1,160],[4],[0,1,171],[175],[175,176,177],[5,6,175],[5,175,181],[4],[4],[0,1,183],[4]] k
abbrev Jng:Hint:=HM JhZ NN (λ|6=>some 7|7=>some 8|14=>some 11|31=>some 11|_=>none) [] false NM (λ_=>0) 0 false NN
@[go_sem] def Jha:LT:=λk=>LL [[0],[0,4],[2],[2]] k
abbrev Jnh:Hint:=HQ Jha
@[go_sem] def Jhb:LT:=λk=>LL [[0],[0,4],[0,4,16],[2,3],[0,4,5],[0,4,5,6],[0,4,5,6,23],[0,7],[2,3],[0,4,5,6,8],[0,4,5,8,9],[0,5,8,9,45],[2,3],[0,5,8,9,10],[0,5,8,10,57],[2,3],[0,5,8,10,59],[2,3],[0,5,8,10,11],[0,5,8,10,11,75],[2,3],[0,5,10,11,77],[2,3],[5,10,11,12],[5,10,11,12,98],[2,3],[2,3]] k
abbrev Jni:Hint:=HQ Jhb
@[go_sem] def Jhc:LT:=λk=>LL [[0,1],[4]] k
abbrev Jnj:Hint:=HQ Jhc
@[go_sem] def Jhd:LT:=λk=>LL [[0],[0,3],[2],[10],[2],[2]] k
abbrev Jnl:Hint:=HQ Jhd
def hints(f:Nat):Hint:=match f with|3=>h3|4=>h4|5=>h5|6=>h6|7=>h7|8=>h8|9=>h9|10=>h10|11=>h11|12=>h12|13=>h13|14=>h14|15=>h15|16=>h16|17=>h17|18=>h18|19=>h19|20=>h20|21=>h21|22=>h22|23=>h23|25=>h25|26=>h26|27=>h27|28=>h28|29=>h29|30=>h30|31=>h31|32=>h32|33=>h33|34=>h34|35=>h35|36=>h36|37=>h37|38=>h38|39=>h39|40=>h40|41=>h41|43=>h43|44=>h44|45=>h45|46=>h46|47=>h47|48=>h48|49=>h49|50=>h50|51=>h51|52=>h52|53=>h53|54=>h54|55=>h55|56=>h56|57=>h57|58=>h58|59=>h59|60=>h60|61=>h61|62=>h62|63=>h63|64=>h64|65=>h65|66=>h66|67=>h67|68=>h68|69=>h69|70=>h70|71=>h71|72=>h72|73=>h73|75=>h75|76=>h76|77=>h77|78=>h78|79=>h79|80=>h80|81=>h81|82=>h82|83=>h83|84=>h84|85=>h85|86=>h86|87=>h87|88=>h88|89=>h89|90=>h90|91=>h91|92=>h92|93=>h93|94=>h94|95=>h95|96=>h96|97=>h97|98=>h98|99=>h99|100=>Jf4|101=>Jf6|102=>JRo|103=>JRp|104=>JgA|105=>JVZ|106=>JgD|107=>JVa|108=>Ja2|109=>JgK|111=>JgM|112=>JRq|113=>JgP|114=>JgR|115=>JVb|116=>JgU|117=>Gw|118=>JPS|119=>JgY|120=>Jga|122=>JVc|123=>Jgd|124=>JRr|125=>Jgg|127=>Jgi|128=>JPT|129=>Jgl|130=>Jgn|132=>Jgp|133=>Jgr|134=>JRs|136=>Jgv|137=>Jgx|138=>Jgz|139=>Jg1|144=>JVd|145=>JnR|146=>JnS|147=>JnT|150=>JnU|152=>Jg8|153=>JVe|154=>JhB|155=>JnV|156=>JnW|157=>JnX|158=>JRt|159=>JhK|160=>JRu|164=>JnY|165=>JnZ|166=>Jna|169=>JVf|170=>Jnb|171=>Jnc|172=>Jnd|173=>JhU|174=>JhW|176=>Jne|177=>Jnf|178=>Jng|179=>Jnh|180=>Jni|181=>Jnj|182=>Jnl|_=>⟨λ_=>none,λ_=>none,λ_=>none,[],false,λ_=>none,λ_=>0,0,false,λ_=>none⟩
variable[MX]
noncomputable def E:GH:=ev Aa hints primz
noncomputable def b3:Code:=JB Tryz.f3
abbrev EQ(f n:Nat)(rs:List ResultVar)(hi:Hint)(b:Code):Prop:=∀{lo:Nat} {args:List V} {h:JC},(_:args.length<=n:=by simp)->(_:args.all bare=true:=by rfl)->E lo f args h=fin Aa rs h.length (evCode ⟨Aa,E,lo,h.length,hi⟩ JA b (Ku args,h))
theorem EO{f nt:Nat}{fn:Func}{b:Code}{rs:List ResultVar}{hi:Hint}(hf:Aa.funcs[f]? =some fn)(hn:fn.ntmps=nt)(hname:(fn.name != "runtime.NumGoroutine")=true:=by kernel_rfl) (hcode:codeOk Aa hi nt b=true:=by kernel_rfl) (hp:primz f=none:=by exact rfl) (hb:fn.body=some b:=by exact rfl) (hh:hints f=hi:=by exact rfl) (hrs:fn.results.toList=rs:=by exact rfl) (hret:hi.ret=0:=by exact rfl) (hrr:hi.rawr=false:=by exact rfl):∀{lo:Nat} {args:List V} {h:JC},args.length<=nt->args.all bare=true->E lo f args h=fin Aa rs h.length (evCode ⟨Aa,E,lo,h.length,hi⟩ JA b (Ku args,h)):=λha hb2=>JUy hp hf hb hn hname hh hcode hrs hret hrr ha hb2
theorem e3:EQ 3 35 [.tmp 2] h3 b3:=EO Tryz.func3 Tryz.ntmps3
noncomputable def b4:Code:=JB Tryz.f4
theorem e4:EQ 4 10 [.tmp 2,.tmp 3] h4 b4:=EO Tryz.func4 Tryz.ntmps4
noncomputable def b5:Code:=JB Tryz.f5
theorem e5:EQ 5 17 [.tmp 2,.tmp 3] h5 b5:=EO Tryz.func5 Tryz.ntmps5
noncomputable def b6:Code:=JB Tryz.f6
theorem e6:EQ 6 8 [.tmp 2,.tmp 3] h6 b6:=EO Tryz.func6 Tryz.ntmps6
noncomputable def b7:Code:=JB Tryz.f7
theorem e7:EQ 7 18 [.tmp 0] h7 b7:=EO Tryz.func7 Tryz.ntmps7
noncomputable def b8:Code:=JB Tryz.f8
theorem e8:EQ 8 6 [.tmp 2] h8 b8:=EO Tryz.func8 Tryz.ntmps8
noncomputable def b9:Code:=JB Tryz.f9
theorem e9:EQ 9 6 [.tmp 2] h9 b9:=EO Tryz.func9 Tryz.ntmps9
noncomputable def b10:Code:=JB Tryz.f10
noncomputable def Qd:Code:=JD b10 0
theorem e10:EQ 10 72 [.tmp 4] h10 b10:=EO Tryz.func10 Tryz.ntmps10
noncomputable def b11:Code:=JB Tryz.f11
noncomputable def jv:Code:=JD b11 0
theorem e11:EQ 11 51 [] h11 b11:=EO Tryz.func11 Tryz.ntmps11
noncomputable def b12:Code:=JB Tryz.f12
theorem e12:EQ 12 17 [.tmp 2,.tmp 3] h12 b12:=EO Tryz.func12 Tryz.ntmps12
noncomputable def zX:Code:=JB Tryz.f13
noncomputable def QW:Code:=JD zX 0
theorem e13:EQ 13 95 [.tmp 4,.tmp 5] h13 zX:=EO Tryz.func13 Tryz.ntmps13
noncomputable def b14:Code:=JB Tryz.f14
theorem e14:EQ 14 17 [.tmp 2,.tmp 3] h14 b14:=EO Tryz.func14 Tryz.ntmps14
noncomputable def qX:Code:=JB Tryz.f15
noncomputable def QH:Code:=JD qX 0
theorem e15:EQ 15 141 [.tmp 6] h15 qX:=EO Tryz.func15 Tryz.ntmps15
noncomputable def b16:Code:=JB Tryz.f16
noncomputable def GV:Code:=JD b16 0
noncomputable def JAa:Code:=JD b16 1
theorem e16:EQ 16 66 [.tmp 2] h16 b16:=EO Tryz.func16 Tryz.ntmps16
noncomputable def b17:Code:=JB Tryz.f17
noncomputable def JGP:Code:=JD b17 0
theorem e17:EQ 17 19 [.tmp 2] h17 b17:=EO Tryz.func17 Tryz.ntmps17
noncomputable def b18:Code:=JB Tryz.f18
noncomputable def jw:Code:=JD b18 0
theorem e18:EQ 18 58 [.tmp 2] h18 b18:=EO Tryz.func18 Tryz.ntmps18
noncomputable def b19:Code:=JB Tryz.f19
noncomputable def yS:Code:=JD b19 0
theorem e19:EQ 19 19 [.tmp 2] h19 b19:=EO Tryz.func19 Tryz.ntmps19
noncomputable def b20:Code:=JB Tryz.f20
noncomputable def jx:Code:=JD b20 0
theorem e20:EQ 20 22 [.tmp 2] h20 b20:=EO Tryz.func20 Tryz.ntmps20
noncomputable def b21:Code:=JB Tryz.f21
theorem e21:EQ 21 19 [.tmp 4,.tmp 5] h21 b21:=EO Tryz.func21 Tryz.ntmps21
noncomputable def b22:Code:=JB Tryz.f22
theorem e22:EQ 22 25 [] h22 b22:=EO Tryz.func22 Tryz.ntmps22
noncomputable def b23:Code:=JB Tryz.f23
noncomputable def JCO:Code:=JD b23 0
theorem e23:EQ 23 50 [] h23 b23:=EO Tryz.func23 Tryz.ntmps23
noncomputable def b25:Code:=JB Tryz.f25
theorem e25:EQ 25 12 [.tmp 2,.tmp 3] h25 b25:=EO Tryz.func25 Tryz.ntmps25
noncomputable def b26:Code:=JB Tryz.f26
noncomputable def H3:Code:=JD b26 0
theorem e26:EQ 26 50 [.tmp 2,.tmp 3] h26 b26:=EO Tryz.func26 Tryz.ntmps26
noncomputable def b27:Code:=JB Tryz.f27
noncomputable def JAb:Code:=JD b27 0
theorem e27:EQ 27 36 [.tmp 8] h27 b27:=EO Tryz.func27 Tryz.ntmps27
noncomputable def b28:Code:=JB Tryz.f28
theorem e28:EQ 28 18 [.tmp 2,.tmp 3] h28 b28:=EO Tryz.func28 Tryz.ntmps28
noncomputable def b29:Code:=JB Tryz.f29
theorem e29:EQ 29 5 [.tmp 2] h29 b29:=EO Tryz.func29 Tryz.ntmps29
noncomputable def b30:Code:=JB Tryz.f30
noncomputable def JCP:Code:=JD b30 0
noncomputable def jy:Code:=JD b30 1
theorem e30:EQ 30 36 [.tmp 2] h30 b30:=EO Tryz.func30 Tryz.ntmps30
noncomputable def b31:Code:=JB Tryz.f31
noncomputable def jz:Code:=JD b31 0
theorem e31:EQ 31 47 [.tmp 2] h31 b31:=EO Tryz.func31 Tryz.ntmps31
noncomputable def b32:Code:=JB Tryz.f32
theorem e32:EQ 32 11 [.tmp 2] h32 b32:=EO Tryz.func32 Tryz.ntmps32
noncomputable def b33:Code:=JB Tryz.f33
theorem e33:EQ 33 56 [.tmp 2] h33 b33:=EO Tryz.func33 Tryz.ntmps33
noncomputable def b34:Code:=JB Tryz.f34
noncomputable def JCQ:Code:=JD b34 0
noncomputable def JAc:Code:=JD b34 1
theorem e34:EQ 34 44 [] h34 b34:=EO Tryz.func34 Tryz.ntmps34
noncomputable def b35:Code:=JB Tryz.f35
theorem e35:EQ 35 33 [.tmp 4] h35 b35:=EO Tryz.func35 Tryz.ntmps35
noncomputable def b36:Code:=JB Tryz.f36
noncomputable def Kw:Code:=JD b36 0
theorem e36:EQ 36 177 [.cell 2 48] h36 b36:=EO Tryz.func36 Tryz.ntmps36
noncomputable def b37:Code:=JB Tryz.f37
noncomputable def HL:Code:=JD b37 0
theorem e37:EQ 37 27 [.tmp 2] h37 b37:=EO Tryz.func37 Tryz.ntmps37
noncomputable def b38:Code:=JB Tryz.f38
theorem e38:EQ 38 5 [.tmp 2] h38 b38:=EO Tryz.func38 Tryz.ntmps38
noncomputable def b39:Code:=JB Tryz.f39
noncomputable def YJ:Code:=JD b39 0
theorem e39:EQ 39 82 [.tmp 2] h39 b39:=EO Tryz.func39 Tryz.ntmps39
noncomputable def b40:Code:=JB Tryz.f40
theorem e40:EQ 40 104 [.tmp 2] h40 b40:=EO Tryz.func40 Tryz.ntmps40
noncomputable def b41:Code:=JB Tryz.f41
theorem e41:EQ 41 15 [.tmp 2] h41 b41:=EO Tryz.func41 Tryz.ntmps41
noncomputable def b43:Code:=JB Tryz.f43
theorem e43:EQ 43 12 [.tmp 2,.tmp 3] h43 b43:=EO Tryz.func43 Tryz.ntmps43
noncomputable def b44:Code:=JB Tryz.f44
theorem e44:EQ 44 9 [.tmp 2,.tmp 3] h44 b44:=EO Tryz.func44 Tryz.ntmps44
noncomputable def b45:Code:=JB Tryz.f45
theorem e45:EQ 45 5 [.tmp 2] h45 b45:=EO Tryz.func45 Tryz.ntmps45
noncomputable def b46:Code:=JB Tryz.f46
noncomputable def Zr:Code:=JD b46 0
theorem e46:EQ 46 43 [.tmp 2,.tmp 3] h46 b46:=EO Tryz.func46 Tryz.ntmps46
noncomputable def b47:Code:=JB Tryz.f47
noncomputable def JAd:Code:=JD b47 0
theorem e47:EQ 47 36 [.tmp 2] h47 b47:=EO Tryz.func47 Tryz.ntmps47
noncomputable def b48:Code:=JB Tryz.f48
theorem e48:EQ 48 102 [.tmp 2,.tmp 3] h48 b48:=EO Tryz.func48 Tryz.ntmps48
noncomputable def b49:Code:=JB Tryz.f49
noncomputable def JAe:Code:=JD b49 0
theorem e49:EQ 49 29 [.tmp 2] h49 b49:=EO Tryz.func49 Tryz.ntmps49
noncomputable def b50:Code:=JB Tryz.f50
noncomputable def GW:Code:=JD b50 0
theorem e50:EQ 50 30 [.tmp 4] h50 b50:=EO Tryz.func50 Tryz.ntmps50
noncomputable def b51:Code:=JB Tryz.f51
theorem e51:EQ 51 7 [.tmp 2] h51 b51:=EO Tryz.func51 Tryz.ntmps51
noncomputable def b52:Code:=JB Tryz.f52
theorem e52:EQ 52 126 [.cell 2 53,.tmp 3] h52 b52:=EO Tryz.func52 Tryz.ntmps52
noncomputable def b53:Code:=JB Tryz.f53
theorem e53:EQ 53 17 [.tmp 2] h53 b53:=EO Tryz.func53 Tryz.ntmps53
noncomputable def b54:Code:=JB Tryz.f54
theorem e54:EQ 54 13 [.tmp 2] h54 b54:=EO Tryz.func54 Tryz.ntmps54
noncomputable def b55:Code:=JB Tryz.f55
noncomputable def JGQ:Code:=JD b55 0
theorem e55:EQ 55 12 [] h55 b55:=EO Tryz.func55 Tryz.ntmps55
noncomputable def b56:Code:=JB Tryz.f56
noncomputable def Zs:Code:=JD b56 0
theorem e56:EQ 56 79 [.cell 4 48] h56 b56:=EO Tryz.func56 Tryz.ntmps56
noncomputable def b57:Code:=JB Tryz.f57
theorem e57:EQ 57 13 [.tmp 2] h57 b57:=EO Tryz.func57 Tryz.ntmps57
noncomputable def b58:Code:=JB Tryz.f58
theorem e58:EQ 58 11 [.tmp 4] h58 b58:=EO Tryz.func58 Tryz.ntmps58
noncomputable def b59:Code:=JB Tryz.f59
theorem e59:EQ 59 27 [.tmp 6] h59 b59:=EO Tryz.func59 Tryz.ntmps59
noncomputable def b60:Code:=JB Tryz.f60
noncomputable def yT:Code:=JD b60 0
theorem e60:EQ 60 44 [.tmp 2] h60 b60:=EO Tryz.func60 Tryz.ntmps60
noncomputable def b61:Code:=JB Tryz.f61
theorem e61:EQ 61 25 [.tmp 6] h61 b61:=EO Tryz.func61 Tryz.ntmps61
noncomputable def b62:Code:=JB Tryz.f62
theorem e62:EQ 62 122 [.cell 2 48] h62 b62:=EO Tryz.func62 Tryz.ntmps62
noncomputable def b63:Code:=JB Tryz.f63
noncomputable def JCS:Code:=JD b63 0
theorem e63:EQ 63 55 [.cell 2 48] h63 b63:=EO Tryz.func63 Tryz.ntmps63
noncomputable def b64:Code:=JB Tryz.f64
theorem e64:EQ 64 6 [.tmp 2] h64 b64:=EO Tryz.func64 Tryz.ntmps64
noncomputable def b65:Code:=JB Tryz.f65
noncomputable def yU:Code:=JD b65 0
theorem e65:EQ 65 81 [.tmp 4,.tmp 5,.tmp 6] h65 b65:=EO Tryz.func65 Tryz.ntmps65
noncomputable def b66:Code:=JB Tryz.f66
noncomputable def Ye:Code:=JD b66 0
theorem e66:EQ 66 43 [.tmp 4] h66 b66:=EO Tryz.func66 Tryz.ntmps66
noncomputable def b67:Code:=JB Tryz.f67
theorem e67:EQ 67 12 [.tmp 2] h67 b67:=EO Tryz.func67 Tryz.ntmps67
noncomputable def b68:Code:=JB Tryz.f68
theorem e68:EQ 68 11 [.tmp 2] h68 b68:=EO Tryz.func68 Tryz.ntmps68
noncomputable def b69:Code:=JB Tryz.f69
theorem e69:EQ 69 29 [.tmp 2] h69 b69:=EO Tryz.func69 Tryz.ntmps69
noncomputable def b70:Code:=JB Tryz.f70
theorem e70:EQ 70 35 [.tmp 2] h70 b70:=EO Tryz.func70 Tryz.ntmps70
noncomputable def b71:Code:=JB Tryz.f71
theorem e71:EQ 71 15 [.tmp 2] h71 b71:=EO Tryz.func71 Tryz.ntmps71
noncomputable def b72:Code:=JB Tryz.f72
noncomputable def H4:Code:=JD b72 0
theorem e72:EQ 72 40 [.tmp 2] h72 b72:=EO Tryz.func72 Tryz.ntmps72
noncomputable def b73:Code:=JB Tryz.f73
theorem e73:EQ 73 9 [.tmp 4] h73 b73:=EO Tryz.func73 Tryz.ntmps73
noncomputable def b75:Code:=JB Tryz.f75
noncomputable def Zt:Code:=JD b75 0
theorem e75:EQ 75 40 [.tmp 2,.tmp 3] h75 b75:=EO Tryz.func75 Tryz.ntmps75
noncomputable def b76:Code:=JB Tryz.f76
theorem e76:EQ 76 90 [.tmp 2,.tmp 3] h76 b76:=EO Tryz.func76 Tryz.ntmps76
noncomputable def b77:Code:=JB Tryz.f77
noncomputable def Yf:Code:=JD b77 0
theorem e77:EQ 77 43 [.tmp 4] h77 b77:=EO Tryz.func77 Tryz.ntmps77
noncomputable def b78:Code:=JB Tryz.f78
theorem e78:EQ 78 35 [.tmp 4] h78 b78:=EO Tryz.func78 Tryz.ntmps78
noncomputable def y7:Code:=JB Tryz.f79
theorem e79:EQ 79 158 [.tmp 2] h79 y7:=EO Tryz.func79 Tryz.ntmps79
noncomputable def Gf:Code:=JB Tryz.f80
noncomputable def HN:Code:=JD Gf 0
noncomputable def JGR:Code:=JD Gf 1
noncomputable def JKG:Code:=JD Gf 2
theorem e80:EQ 80 114 [.tmp 4,.tmp 5] h80 Gf:=EO Tryz.func80 Tryz.ntmps80
noncomputable def b81:Code:=JB Tryz.f81
theorem e81:EQ 81 55 [.tmp 2] h81 b81:=EO Tryz.func81 Tryz.ntmps81
noncomputable def b82:Code:=JB Tryz.f82
noncomputable def JCT:Code:=JD b82 0
theorem e82:EQ 82 23 [.tmp 2,.tmp 3] h82 b82:=EO Tryz.func82 Tryz.ntmps82
noncomputable def b83:Code:=JB Tryz.f83
noncomputable def JCU:Code:=JD b83 0
theorem e83:EQ 83 35 [.tmp 2] h83 b83:=EO Tryz.func83 Tryz.ntmps83
noncomputable def b84:Code:=JB Tryz.f84
noncomputable def JAg:Code:=JD b84 0
theorem e84:EQ 84 47 [.tmp 2] h84 b84:=EO Tryz.func84 Tryz.ntmps84
noncomputable def b85:Code:=JB Tryz.f85
noncomputable def HO:Code:=JD b85 0
theorem e85:EQ 85 63 [.tmp 2] h85 b85:=EO Tryz.func85 Tryz.ntmps85
noncomputable def b86:Code:=JB Tryz.f86
theorem e86:EQ 86 56 [.tmp 2] h86 b86:=EO Tryz.func86 Tryz.ntmps86
noncomputable def b87:Code:=JB Tryz.f87
theorem e87:EQ 87 10 [.tmp 4] h87 b87:=EO Tryz.func87 Tryz.ntmps87
noncomputable def b88:Code:=JB Tryz.f88
noncomputable def JCV:Code:=JD b88 0
theorem e88:EQ 88 70 [.tmp 2] h88 b88:=EO Tryz.func88 Tryz.ntmps88
noncomputable def b89:Code:=JB Tryz.f89
theorem e89:EQ 89 25 [.tmp 2] h89 b89:=EO Tryz.func89 Tryz.ntmps89
noncomputable def b90:Code:=JB Tryz.f90
theorem e90:EQ 90 9 [.tmp 2] h90 b90:=EO Tryz.func90 Tryz.ntmps90
noncomputable def b91:Code:=JB Tryz.f91
noncomputable def JGS:Code:=JD b91 0
theorem e91:EQ 91 12 [] h91 b91:=EO Tryz.func91 Tryz.ntmps91
noncomputable def b92:Code:=JB Tryz.f92
noncomputable def JKH:Code:=JD b92 0
theorem e92:EQ 92 153 [.cell 2 46,.tmp 3,.tmp 4] h92 b92:=EO Tryz.func92 Tryz.ntmps92
noncomputable def y8:Code:=JB Tryz.f93
noncomputable def K3:Code:=JD y8 0
theorem e93:EQ 93 91 [.cell 2 48] h93 y8:=EO Tryz.func93 Tryz.ntmps93
noncomputable def b94:Code:=JB Tryz.f94
noncomputable def JKJ:Code:=JD b94 0
theorem e94:EQ 94 79 [.tmp 2] h94 b94:=EO Tryz.func94 Tryz.ntmps94
noncomputable def b95:Code:=JB Tryz.f95
theorem e95:EQ 95 38 [.tmp 2,.tmp 3,.tmp 4] h95 b95:=EO Tryz.func95 Tryz.ntmps95
noncomputable def b96:Code:=JB Tryz.f96
theorem e96:EQ 96 9 [.tmp 2] h96 b96:=EO Tryz.func96 Tryz.ntmps96
noncomputable def HP:Code:=JB Tryz.f97
noncomputable def yV:Code:=JD HP 0
noncomputable def JCW:Code:=JD HP 1
theorem e97:EQ 97 123 [.tmp 4,.tmp 5] h97 HP:=EO Tryz.func97 Tryz.ntmps97
noncomputable def qY:Code:=JB Tryz.f98
noncomputable def ZH:Code:=JD qY 0
theorem e98:EQ 98 101 [.tmp 2,.tmp 3] h98 qY:=EO Tryz.func98 Tryz.ntmps98
noncomputable def b99:Code:=JB Tryz.f99
theorem e99:EQ 99 8 [.tmp 4] h99 b99:=EO Tryz.func99 Tryz.ntmps99
noncomputable def JRz:Code:=JB Tryz.f100
theorem Jn1:EQ 100 32 [.tmp 4] Jf4 JRz:=EO Tryz.func100 Tryz.ntmps100
noncomputable def JMU:Code:=JB Tryz.f101
theorem Jn2:EQ 101 36 [.tmp 2] Jf6 JMU:=EO Tryz.func101 Tryz.ntmps101
noncomputable def JKK:Code:=JB Tryz.f102
noncomputable def H5:Code:=JD JKK 0
theorem Jn3:EQ 102 26 [.tmp 2] JRo JKK:=EO Tryz.func102 Tryz.ntmps102
noncomputable def JCX:Code:=JB Tryz.f103
noncomputable def ZJ:Code:=JD JCX 0
theorem Jn4:EQ 103 37 [.tmp 6] JRp JCX:=EO Tryz.func103 Tryz.ntmps103
noncomputable def JR0:Code:=JB Tryz.f104
theorem JVn:EQ 104 33 [.tmp 2] JgA JR0:=EO Tryz.func104 Tryz.ntmps104
noncomputable def YV:Code:=JB Tryz.f105
noncomputable def Kx:Code:=JD YV 0
theorem Jn5:EQ 105 29 [.tmp 2] JVZ YV:=EO Tryz.func105 Tryz.ntmps105
noncomputable def Ja6:Code:=JB Tryz.f106
theorem Jn6:EQ 106 9 [.tmp 2] JgD Ja6:=EO Tryz.func106 Tryz.ntmps106
noncomputable def Gx:Code:=JB Tryz.f107
noncomputable def kX:Code:=JD Gx 0
theorem Jn7:EQ 107 40 [.tmp 2] JVa Gx:=EO Tryz.func107 Tryz.ntmps107
noncomputable def JHW:Code:=JB Tryz.f108
theorem Jn8:EQ 108 29 [.tmp 2] Ja2 JHW:=EO Tryz.func108 Tryz.ntmps108
noncomputable def Ja7:Code:=JB Tryz.f109
theorem Jn9:EQ 109 12 [.tmp 2] JgK Ja7:=EO Tryz.func109 Tryz.ntmps109
noncomputable def Jhe:Code:=JB Tryz.f111
theorem JoA:EQ 111 8 [.tmp 2] JgM Jhe:=EO Tryz.func111 Tryz.ntmps111
noncomputable def JKL:Code:=JB Tryz.f112
noncomputable def kY:Code:=JD JKL 0
theorem JoB:EQ 112 23 [.tmp 2] JRq JKL:=EO Tryz.func112 Tryz.ntmps112
noncomputable def Jhf:Code:=JB Tryz.f113
theorem JoC:EQ 113 17 [.tmp 2] JgP Jhf:=EO Tryz.func113 Tryz.ntmps113
noncomputable def JR1:Code:=JB Tryz.f114
theorem JoD:EQ 114 29 [.tmp 2,.tmp 3] JgR JR1:=EO Tryz.func114 Tryz.ntmps114
noncomputable def JDg:Code:=JB Tryz.f115
noncomputable def Gy:Code:=JD JDg 0
theorem JoG:EQ 115 18 [.tmp 4] JVb JDg:=EO Tryz.func115 Tryz.ntmps115
noncomputable def Jhg:Code:=JB Tryz.f116
theorem JoH:EQ 116 2 [.cell 0 46] JgU Jhg:=EO Tryz.func116 Tryz.ntmps116
noncomputable def J2:Code:=JB Tryz.f117
noncomputable def zY:Code:=JD J2 0
noncomputable def JCY:Code:=JD J2 1
noncomputable def JCZ:Code:=JD J2 2
noncomputable def kZ:Code:=JD J2 3
noncomputable def zZ:Code:=JD J2 4
noncomputable def Gz:Code:=JD J2 5
noncomputable def JCa:Code:=JD J2 6
noncomputable def GB:Code:=JD J2 7
theorem JoJ:EQ 117 132 [.cell 6 46] Gw J2:=EO Tryz.func117 Tryz.ntmps117
noncomputable def JAz:Code:=JB Tryz.f118
noncomputable def W0:Code:=JD JAz 0
theorem JoK:EQ 118 26 [.cell 2 48] JPS JAz:=EO Tryz.func118 Tryz.ntmps118
noncomputable def Jhh:Code:=JB Tryz.f119
theorem JoL:EQ 119 25 [.tmp 2] JgY Jhh:=EO Tryz.func119 Tryz.ntmps119
noncomputable def Ja8:Code:=JB Tryz.f120
theorem JoM:EQ 120 10 [.tmp 2] Jga Ja8:=EO Tryz.func120 Tryz.ntmps120
noncomputable def JPZ:Code:=JB Tryz.f122
noncomputable def JCb:Code:=JD JPZ 0
theorem JoN:EQ 122 23 [.tmp 2,.tmp 3,.tmp 4] JVc JPZ:=EO Tryz.func122 Tryz.ntmps122
noncomputable def Ja9:Code:=JB Tryz.f123
theorem JoO:EQ 123 10 [.tmp 2] Jgd Ja9:=EO Tryz.func123 Tryz.ntmps123
noncomputable def JPa:Code:=JB Tryz.f124
noncomputable def za:Code:=JD JPa 0
theorem JoP:EQ 124 20 [.tmp 2] JRr JPa:=EO Tryz.func124 Tryz.ntmps124
noncomputable def JbA:Code:=JB Tryz.f125
theorem JoQ:EQ 125 37 [.tmp 4] Jgg JbA:=EO Tryz.func125 Tryz.ntmps125
noncomputable def Jhi:Code:=JB Tryz.f127
theorem JoR:EQ 127 8 [.tmp 4] Jgi Jhi:=EO Tryz.func127 Tryz.ntmps127
noncomputable def JCc:Code:=JB Tryz.f128
noncomputable def zb:Code:=JD JCc 0
noncomputable def JCd:Code:=JD JCc 1
theorem JoS:EQ 128 31 [.tmp 2] JPT JCc:=EO Tryz.func128 Tryz.ntmps128
noncomputable def Jhj:Code:=JB Tryz.f129
theorem JoT:EQ 129 17 [.tmp 2] Jgl Jhj:=EO Tryz.func129 Tryz.ntmps129
noncomputable def JHX:Code:=JB Tryz.f130
theorem JoU:EQ 130 33 [.tmp 2] Jgn JHX:=EO Tryz.func130 Tryz.ntmps130
noncomputable def Jhk:Code:=JB Tryz.f132
theorem JoV:EQ 132 17 [.tmp 4] Jgp Jhk:=EO Tryz.func132 Tryz.ntmps132
noncomputable def Jhl:Code:=JB Tryz.f133
theorem JoW:EQ 133 8 [.tmp 4] Jgr Jhl:=EO Tryz.func133 Tryz.ntmps133
noncomputable def JPb:Code:=JB Tryz.f134
noncomputable def ze:Code:=JD JPb 0
theorem JoX:EQ 134 12 [.tmp 4] JRs JPb:=EO Tryz.func134 Tryz.ntmps134
noncomputable def Jhm:Code:=JB Tryz.f136
theorem JoY:EQ 136 8 [.tmp 4] Jgv Jhm:=EO Tryz.func136 Tryz.ntmps136
noncomputable def Jhn:Code:=JB Tryz.f137
theorem JoZ:EQ 137 9 [.tmp 2] Jgx Jhn:=EO Tryz.func137 Tryz.ntmps137
noncomputable def Jho:Code:=JB Tryz.f138
theorem Joa:EQ 138 5 [.cell 2 46] Jgz Jho:=EO Tryz.func138 Tryz.ntmps138
noncomputable def JVo:Code:=JB Tryz.f139
theorem Job:EQ 139 21 [.tmp 2] Jg1 JVo:=EO Tryz.func139 Tryz.ntmps139
noncomputable def JMV:Code:=JB Tryz.f144
noncomputable def zf:Code:=JD JMV 0
theorem Joc:EQ 144 23 [.tmp 4] JVd JMV:=EO Tryz.func144 Tryz.ntmps144
noncomputable def Jod:Code:=JB Tryz.f145
noncomputable def Joe:Code:=JD Jod 0
noncomputable def Jof:Code:=JB Tryz.f146
noncomputable def Jog:Code:=JD Jof 0
noncomputable def Joh:Code:=JB Tryz.f147
noncomputable def Joi:Code:=JD Joh 0
noncomputable def Jtb:Code:=JB Tryz.f150
noncomputable def JbB:Code:=JB Tryz.f152
theorem Joj:EQ 152 18 [.tmp 4] Jg8 JbB:=EO Tryz.func152 Tryz.ntmps152
noncomputable def JbC:Code:=JB Tryz.f153
theorem Jok:codeOk Aa JVe 16 JbC=true:=kr
noncomputable def JbD:Code:=JB Tryz.f154
theorem Jol:EQ 154 13 [.tmp 4] JhB JbD:=EO Tryz.func154 Tryz.ntmps154
noncomputable def Jtc:Code:=JB Tryz.f155
noncomputable def Jtd:Code:=JB Tryz.f156
noncomputable def Jom:Code:=JB Tryz.f157
noncomputable def Jon:Code:=JD Jom 0
noncomputable def JMW:Code:=JB Tryz.f158
noncomputable def zg:Code:=JD JMW 0
noncomputable def Joo:Code:=JD JMW 1
theorem Jop:EQ 158 102 [.tmp 10,.tmp 11] JRt JMW:=EO Tryz.func158 Tryz.ntmps158
noncomputable def Jhp:Code:=JB Tryz.f159
theorem Joq:EQ 159 54 [.tmp 4] JhK Jhp:=EO Tryz.func159 Tryz.ntmps159
noncomputable def JPc:Code:=JB Tryz.f160
noncomputable def zh:Code:=JD JPc 0
theorem Jor:EQ 160 12 [.tmp 4] JRu JPc:=EO Tryz.func160 Tryz.ntmps160
noncomputable def Jte:Code:=JB Tryz.f164
noncomputable def Jos:Code:=JB Tryz.f165
noncomputable def Jot:Code:=JD Jos 0
noncomputable def Jtf:Code:=JB Tryz.f166
noncomputable def JHY:Code:=JB Tryz.f169
theorem Jou:codeOk Aa JVf 78 JHY=true:=kr
noncomputable def Jtg:Code:=JB Tryz.f170
noncomputable def Jth:Code:=JB Tryz.f171
noncomputable def Jti:Code:=JB Tryz.f172
noncomputable def Jhq:Code:=JB Tryz.f173
theorem Jov:EQ 173 8 [.tmp 2] JhU Jhq:=EO Tryz.func173 Tryz.ntmps173
noncomputable def Jhr:Code:=JB Tryz.f174
theorem Jow:EQ 174 8 [.tmp 2] JhW Jhr:=EO Tryz.func174 Tryz.ntmps174
noncomputable def Jtj:Code:=JB Tryz.f176
noncomputable def Jtk:Code:=JB Tryz.f177
noncomputable def JR2:Code:=JB Tryz.f178
noncomputable def Jox:Code:=JD JR2 0
noncomputable def Joy:Code:=JD JR2 1
noncomputable def Joz:Code:=JD JR2 2
noncomputable def Jo0:Code:=JD JR2 3
noncomputable def Jo1:Code:=JD JR2 4
noncomputable def Jtl:Code:=JB Tryz.f179
noncomputable def Jtm:Code:=JB Tryz.f180
noncomputable def Jtn:Code:=JB Tryz.f181
noncomputable def Jto:Code:=JB Tryz.f182
end Go.Lift.M1
