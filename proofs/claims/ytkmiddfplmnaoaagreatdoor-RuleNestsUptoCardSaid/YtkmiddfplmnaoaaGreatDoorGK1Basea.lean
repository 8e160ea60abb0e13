/- Facts of the program that the evaluation asks for: the live slots of each function, its types. Written by a program (gen.py). -/
import Derived.Test.YtkmiddfplmnaoaaGreatDoorRows
import Derived.Lib.MapLaws
import Derived.Lib.DecodeN
import Derived.Test.YtkmiddfplmnaoaaGreatDoorGLd
import Derived.Test.YtkmiddfplmnaoaaGreatDoorGKa
open ByteArray renaming empty->A6
open Go.Proofs.Tryz renaming prog->Aa
open List renaming range->A9,replicate->BB
set_option linter.unusedVariables false
set_option linter.unusedSimpArgs false
set_option linter.unusedSectionVars false
set_option maxRecDepth 20000
namespace Go.Lift.W1
open Go.Proofs
class MX where
 m:Int
 k:Bool
 d:Bool
 n:Bool
class HasK[MX]:Prop where
 h:MX.k=true
class HasD[MX]:Prop where
 h:MX.d=true
class HasN[MX]:Prop where
 h:MX.n=true
instance gtab[MX]:GTab:=⟨λn=>match n with|0=>if MX.k=true then some [.v (.int .i64 21),.v (.int .i64 22),.v (.int .i64 19),.v (.int .i64 20),.v (.int .i64 23),.v (.int .i64 24),.v (.int .i64 18),.v (.int .i64 16),.v (.int .i64 17)]else none|1=>some ((A9 256).map λc=> .v (.int .u8 (Go.Lib.firstT c)))|2=>some ((A9 16).flatMap λi=>[.v (.int .u8 (Go.Lib.accLo i)),.v (.int .u8 (Go.Lib.accHi i))])|_=>none⟩
def YS(c:Int):Int:=if(decide (65<=c)&&decide (c<=90))=true then c+32 else c
noncomputable def JQZ(lo:Nat)(args:List V)(h:Heap):Option (V×Heap):=match args with
 |[.fn g [],.v (.string s)]=>if g=108/\s.size<35184372088832 then some (.v (.string ⟨(Go.Lib.mapD YS s.data.toList).toArray⟩),h)else none
 |_=>none
noncomputable def primz[MX]:Nat->Option (Nat->List V->Heap->Option (V×Heap)):=λn=>match n with|107=>some JQZ|_=>none
instance bty:BTy:=⟨[(2,148)],some 5⟩
@[go_sem] theorem JnJ:BTy.bt=[(2,148)]:=rfl
@[go_sem] theorem JnK:(BTy.bt.isEmpty)=false:=rfl
@[go_sem] theorem JpC:JGD 2=some 148:=rfl
@[go_sem] theorem JpD(n:Nat):JGD (n+3)=none:=rfl
@[go_sem] theorem JpG:JGD 0=none:=rfl
@[go_sem] theorem JpH:JGD 1=none:=rfl
@[go_sem] theorem JgM:((148:TypeId)==148)=true:=rfl
@[go_sem] theorem JnL:BTy.bb=some 5:=rfl
@[go_sem] theorem JgN:((5:TypeId)==5)=true:=rfl
variable[MX]
abbrev FT(t a:Nat)(b:Option Bool)(c:Nat)(d e f:Bool)(g:List Value):Prop:=JJ Aa t=a∧Qc Aa t=b∧Aa.bytesOf t=c∧W8 Aa t=d∧Zs Aa t=e∧Zr Aa t=f∧Ku Aa t=some g∧(Aa.info? t).isSome=true
theorem FK{t a:Nat}{b:Option Bool}{c:Nat}{d e f:Bool}{g:List Value}(h1:JJ Aa t=a:=by kernel_rfl)(h2:Qc Aa t=b:=by kernel_rfl)(h3:Aa.bytesOf t=c:=by kernel_rfl)(h4:W8 Aa t=d:=by kernel_rfl)(h5:Zs Aa t=e:=by kernel_rfl)(h6:Zr Aa t=f:=by kernel_rfl)(h7:Ku Aa t=some g:=by kernel_rfl)(h8:(Aa.info? t).isSome=true:=by kernel_rfl):FT t a b c d e f g:=⟨h1,h2,h3,h4,h5,h6,h7,h8⟩
attribute [go_sem] Tryz.underlying2 Tryz.underlying3 Tryz.underlying4 Tryz.underlying5 Tryz.underlying9 Tryz.underlying21 Tryz.underlying22 Tryz.underlying23 Tryz.underlying24 Tryz.underlying32 Tryz.underlying34 Tryz.underlying35 Tryz.underlying37 Tryz.underlying41 Tryz.underlying45 Tryz.underlying46 Tryz.underlying49 Tryz.underlying51 Tryz.underlying56 Tryz.underlying61 Tryz.underlying62 Tryz.underlying64 Tryz.underlying74 Tryz.underlying76 Tryz.underlying86 Tryz.underlying87 Tryz.underlying91 Tryz.underlying108 Tryz.underlying115 Tryz.underlying119 Tryz.underlying124 Tryz.underlying128 Tryz.underlying139 Tryz.underlying144 Tryz.underlying163 Tryz.underlying165 Tryz.underlying166
@[go_sem] theorem z2:FT 2 1 (some false) 8 false false false [.int .i64 0]:=FK
@[go_sem] theorem z3:FT 3 1 (some false) 8 false false false [.int .i64 0]:=FK
@[go_sem] theorem z4:FT 4 1 (some false) 1 false false false [.bool false]:=FK
@[go_sem] theorem z5:FT 5 1 (some false) 1 false false true [.int .u8 0]:=FK
@[go_sem] theorem z9:FT 9 1 (some false) 16 true false false [.string A6]:=FK
@[go_sem] theorem z21:FT 21 1 (some false) 4 false true false [.int .i32 0]:=FK
@[go_sem] theorem z22:FT 22 1 (some false) 24 false false false [.slice none 0 0]:=FK
@[go_sem] theorem z23:FT 23 1 (some false) 24 false false false [.slice none 0 0]:=FK
@[go_sem] theorem z24:FT 24 1 (some false) 8 false false false [.int .i64 0]:=FK
@[go_sem] theorem z32:FT 32 1 (some false) 24 false false false [.slice none 0 0]:=FK
@[go_sem] theorem z34:FT 34 1 (some false) 24 false false false [.slice none 0 0]:=FK
@[go_sem] theorem z35:FT 35 1 (some false) 24 false false false [.slice none 0 0]:=FK
@[go_sem] theorem z37:FT 37 5 (some true) 96 false false false [.int .i64 0,.string A6,.slice none 0 0,.slice none 0 0,.slice none 0 0]:=FK
@[go_sem] theorem x37:structOk Aa 37=true:=kr
@[go_sem] theorem JnM:JP Aa 37 0=some (0,3):=kr
@[go_sem] theorem JnN:JP Aa 37 1=some (1,9):=kr
@[go_sem] theorem JnO:JP Aa 37 2=some (2,34):=kr
@[go_sem] theorem JnP:JP Aa 37 3=some (3,35):=kr
@[go_sem] theorem JnQ:JP Aa 37 4=some (4,23):=kr
@[go_sem] theorem z41:FT 41 3 (some true) 48 false false false [.string A6,.slice none 0 0,.bool false]:=FK
@[go_sem] theorem x41:structOk Aa 41=true:=kr
@[go_sem] theorem JnR:JP Aa 41 0=some (0,9):=kr
@[go_sem] theorem JnS:JP Aa 41 1=some (1,34):=kr
@[go_sem] theorem JnT:JP Aa 41 2=some (2,4):=kr
attribute [go_sem] Tryz.underlying42
@[go_sem] theorem z42:JJ Aa 42=1:=kr
@[go_sem] theorem k42:Qc Aa 42=some false:=kr
@[go_sem] theorem y42:Aa.bytesOf 42=8:=kr
@[go_sem] theorem s42:W8 Aa 42=false:=kr
@[go_sem] theorem j42:Zs Aa 42=false:=kr
@[go_sem] theorem w42:Zr Aa 42=false:=kr
@[go_sem] theorem i42:(Aa.info? 42).isSome=true:=kr
@[go_sem] theorem z45:FT 45 8 (some true) 136 false false false [.int .i64 0,.int .i64 0,.slice none 0 0,.int .i64 0,.string A6,.slice none 0 0,.slice none 0 0,.slice none 0 0]:=FK
@[go_sem] theorem x45:structOk Aa 45=true:=kr
@[go_sem] theorem JnU:JP Aa 45 0=some (0,3):=kr
@[go_sem] theorem JnV:JP Aa 45 1=some (1,3):=kr
@[go_sem] theorem JnW:JP Aa 45 2=some (2,23):=kr
@[go_sem] theorem JnX:JP Aa 45 3=some (3,37):=kr
@[go_sem] theorem z46:FT 46 1 (some false) 24 false false false [.slice none 0 0]:=FK
attribute [go_sem] Tryz.underlying47
@[go_sem] theorem z47:JJ Aa 47=1:=kr
@[go_sem] theorem k47:Qc Aa 47=some false:=kr
@[go_sem] theorem y47:Aa.bytesOf 47=8:=kr
@[go_sem] theorem s47:W8 Aa 47=false:=kr
@[go_sem] theorem j47:Zs Aa 47=false:=kr
@[go_sem] theorem w47:Zr Aa 47=false:=kr
@[go_sem] theorem i47:(Aa.info? 47).isSome=true:=kr
@[go_sem] theorem z49:FT 49 2 (some true) 16 false false false [.int .i64 0,.int .i64 0]:=FK
@[go_sem] theorem x49:structOk Aa 49=true:=kr
@[go_sem] theorem JnY:JP Aa 49 0=some (0,2):=kr
@[go_sem] theorem JnZ:JP Aa 49 1=some (1,2):=kr
@[go_sem] theorem z51:FT 51 6 (some true) 48 false false false [.int .i64 0,.string A6,.int .i64 0,.int .i64 0,.bool false,.bool false]:=FK
@[go_sem] theorem x51:structOk Aa 51=true:=kr
@[go_sem] theorem Jna:JP Aa 51 0=some (0,3):=kr
@[go_sem] theorem Jnb:JP Aa 51 1=some (1,9):=kr
@[go_sem] theorem Jnc:JP Aa 51 2=some (2,49):=kr
@[go_sem] theorem Jnd:JP Aa 51 3=some (4,4):=kr
@[go_sem] theorem Jne:JP Aa 51 4=some (5,4):=kr
@[go_sem] theorem z56:FT 56 1 (some false) 24 false false false [.slice none 0 0]:=FK
@[go_sem] theorem z61:FT 61 7 (some true) 72 false false false [.int .i64 0,.string A6,.int .i64 0,.int .i64 0,.bool false,.bool false,.slice none 0 0]:=FK
@[go_sem] theorem x61:structOk Aa 61=true:=kr
@[go_sem] theorem Jnf:JP Aa 61 0=some (0,51):=kr
@[go_sem] theorem Jng:JP Aa 61 1=some (6,34):=kr
@[go_sem] theorem z62:FT 62 1 (some false) 24 false false false [.slice none 0 0]:=FK
@[go_sem] theorem z64:FT 64 3 (some true) 72 false false false [.slice none 0 0,.slice none 0 0,.slice none 0 0]:=FK
@[go_sem] theorem x64:structOk Aa 64=true:=kr
@[go_sem] theorem Jnh:JP Aa 64 0=some (0,32):=kr
@[go_sem] theorem Jni:JP Aa 64 1=some (1,62):=kr
@[go_sem] theorem Jnj:JP Aa 64 2=some (2,62):=kr
@[go_sem] theorem z74:FT 74 2 (some true) 32 false false false [.slice none 0 0,.int .i64 0]:=FK
@[go_sem] theorem x74:structOk Aa 74=true:=kr
@[go_sem] theorem Jnl:JP Aa 74 0=some (0,56):=kr
@[go_sem] theorem Jnm:JP Aa 74 1=some (1,3):=kr
@[go_sem] theorem z76:FT 76 2 (some true) 32 false false false [.slice none 0 0,.int .i64 0]:=FK
@[go_sem] theorem x76:structOk Aa 76=true:=kr
@[go_sem] theorem Jnn:JP Aa 76 0=some (0,74):=kr
@[go_sem] theorem z86:FT 86 7 (some true) 72 false false false [.int .i64 0,.string A6,.int .i64 0,.int .i64 0,.bool false,.bool false,.slice none 0 0]:=FK
@[go_sem] theorem x86:structOk Aa 86=true:=kr
@[go_sem] theorem Jno:JP Aa 86 0=some (0,51):=kr
@[go_sem] theorem Jnp:JP Aa 86 1=some (6,34):=kr
@[go_sem] theorem z87:FT 87 1 (some false) 24 false false false [.slice none 0 0]:=FK
attribute [go_sem] Tryz.underlying89
@[go_sem] theorem z89:JJ Aa 89=1:=kr
@[go_sem] theorem k89:Qc Aa 89=some false:=kr
@[go_sem] theorem y89:Aa.bytesOf 89=8:=kr
@[go_sem] theorem s89:W8 Aa 89=false:=kr
@[go_sem] theorem j89:Zs Aa 89=false:=kr
@[go_sem] theorem w89:Zr Aa 89=false:=kr
@[go_sem] theorem i89:(Aa.info? 89).isSome=true:=kr
@[go_sem] theorem z91:FT 91 2 (some true) 32 false false false [.slice none 0 0,.int .i64 0]:=FK
@[go_sem] theorem x91:structOk Aa 91=true:=kr
@[go_sem] theorem Jnq:JP Aa 91 0=some (0,56):=kr
@[go_sem] theorem Jnr:JP Aa 91 1=some (1,3):=kr
attribute [go_sem] Tryz.underlying94
@[go_sem] theorem z94:JJ Aa 94=1:=kr
@[go_sem] theorem k94:Qc Aa 94=some false:=kr
@[go_sem] theorem y94:Aa.bytesOf 94=8:=kr
@[go_sem] theorem s94:W8 Aa 94=false:=kr
@[go_sem] theorem j94:Zs Aa 94=false:=kr
@[go_sem] theorem w94:Zr Aa 94=false:=kr
@[go_sem] theorem i94:(Aa.info? 94).isSome=true:=kr
attribute [go_sem] Tryz.underlying96
@[go_sem] theorem z96:JJ Aa 96=1:=kr
@[go_sem] theorem k96:Qc Aa 96=some false:=kr
@[go_sem] theorem y96:Aa.bytesOf 96=8:=kr
@[go_sem] theorem s96:W8 Aa 96=false:=kr
@[go_sem] theorem j96:Zs Aa 96=false:=kr
@[go_sem] theorem w96:Zr Aa 96=false:=kr
@[go_sem] theorem i96:(Aa.info? 96).isSome=true:=kr
@[go_sem] theorem JpO:FT 108 9 (some true) 72 false false false [.int .i64 0,.int .i64 0,.int .i64 0,.int .i64 0,.int .i64 0,.int .i64 0,.int .i64 0,.int .i64 0,.int .i64 0]:=FK
@[go_sem] theorem JpP:FT 115 1 (some false) 24 false false false [.slice none 0 0]:=FK
@[go_sem] theorem JjJ:FT 119 1 (some false) 8 false false false [.int .u64 0]:=FK
@[go_sem] theorem JpQ:FT 124 5 (some true) 48 false false false [.bool false,.string A6,.int .i64 0,.int .i64 0,.bool false]:=FK
@[go_sem] theorem JpR:structOk Aa 124=true:=kr
@[go_sem] theorem JjK:JP Aa 124 0=some (0,4):=kr
@[go_sem] theorem JjL:JP Aa 124 1=some (1,9):=kr
@[go_sem] theorem JjM:JP Aa 124 2=some (2,2):=kr
@[go_sem] theorem JjN:JP Aa 124 3=some (3,2):=kr
@[go_sem] theorem JjO:JP Aa 124 4=some (4,4):=kr
@[go_sem] theorem JpS:FT 128 1 (some false) 8 false false false [.int .u64 0]:=FK
@[go_sem] theorem JjP:FT 139 256 (some true) 256 false false false (BB 256 (.bool false)):=FK
attribute [go_sem] Tryz.underlying143
@[go_sem] theorem JpT:JJ Aa 143=1:=kr
@[go_sem] theorem JpU:Qc Aa 143=some false:=kr
@[go_sem] theorem JpV:Aa.bytesOf 143=8:=kr
@[go_sem] theorem JpW:W8 Aa 143=false:=kr
@[go_sem] theorem JpX:Zs Aa 143=false:=kr
@[go_sem] theorem JpY:Zr Aa 143=false:=kr
@[go_sem] theorem JpZ:(Aa.info? 143).isSome=true:=kr
@[go_sem] theorem Jpa:FT 144 1 (some false) 24 false false false [.slice none 0 0]:=FK
@[go_sem] theorem Jpb:FT 163 256 (some true) 256 false false false (BB 256 (.int .u8 0)):=FK
@[go_sem] theorem Jpc:FT 165 2 (some true) 2 false false false [.int .u8 0,.int .u8 0]:=FK
@[go_sem] theorem Jpd:structOk Aa 165=true:=kr
@[go_sem] theorem JjQ:JP Aa 165 0=some (0,5):=kr
@[go_sem] theorem JjR:JP Aa 165 1=some (1,5):=kr
@[go_sem] theorem Jpe:FT 166 32 (some true) 32 false false false (BB 32 (.int .u8 0)):=FK
def LL:List (List Nat)->Nat->Option (List Nat)
|[],_=>none
|a::_,0=>some a
|_::l,n+1=>LL l n
attribute [go_sem] LL
def HH:List Nat->Tr->Tr
|[],t=>t
|a::l,t=> .head a (HH l t)
attribute [go_sem] HH
abbrev LT:Type:=Nat->Option (List Nat)
def HM(a:LT)(k t:Nat->Option Nat)(v:List Nat)(m:Bool)(x:Nat->Option Mix)(o:Option Nat->Nat)(r:Nat)(w:Bool)(e:Nat->Option Nat):Hint:=⟨a,k,t,v,m,x,o,r,w,e⟩
section
variable(a:LT)(k t:Nat->Option Nat)(v:List Nat)(m:Bool)(x:Nat->Option Mix)(o:Option Nat->Nat)(r:Nat)(w:Bool)(e:Nat->Option Nat)
@[go_sem] theorem HMl:(HM a k t v m x o r w e).live=a:=rfl
@[go_sem] theorem HMk:(HM a k t v m x o r w e).keep=k:=rfl
@[go_sem] theorem HMt:(HM a k t v m x o r w e).tail=t:=rfl
@[go_sem] theorem HMv:(HM a k t v m x o r w e).vars=v:=rfl
@[go_sem] theorem HMm:(HM a k t v m x o r w e).mutc=m:=rfl
@[go_sem] theorem HMx:(HM a k t v m x o r w e).mix=x:=rfl
@[go_sem] theorem HMo:(HM a k t v m x o r w e).mode=o:=rfl
@[go_sem] theorem HMe:(HM a k t v m x o r w e).late=e:=rfl
end
abbrev NN:Nat->Option Nat:=λ_=>none
abbrev NM:Nat->Option Mix:=λ_=>none
def HQ(a:Nat->Option (List Nat)):Hint:=⟨a,(λ_=>none),(λ_=>none),[],false,(λ_=>none),λ_=>0,0,false,(λ_=>none)⟩
@[go_sem] theorem HQe(a:Nat->Option (List Nat)):(HQ a).late=(λ_=>none):=rfl
@[go_sem] theorem HQx(a:Nat->Option (List Nat)):(HQ a).mix=(λ_=>none):=rfl
@[go_sem] theorem HQl(a:Nat->Option (List Nat)):(HQ a).live=a:=rfl
@[go_sem] theorem HQo(a:Nat->Option (List Nat)):(HQ a).mode=λ_=>0:=rfl
@[go_sem] theorem HQk(a:Nat->Option (List Nat)):(HQ a).keep=(λ_=>none):=rfl
@[go_sem] theorem HQt(a:Nat->Option (List Nat)):(HQ a).tail=(λ_=>none):=rfl
@[go_sem] theorem HQv(a:Nat->Option (List Nat)):(HQ a).vars=[]:=rfl
@[go_sem] theorem HQm(a:Nat->Option (List Nat)):(HQ a).mutc=false:=rfl
@[go_sem] def h3a:LT:=λk=>LL [[0],[0,3,4],[3,4,5,6],[2]] k
abbrev h3:Hint:=HQ h3a
@[go_sem] def h4a:LT:=λk=>LL [[0,1,2],[1,2,7],[2,7,8],[2,7,8,9],[2,8,9,24,25],[2,8,9,24,25,26],[2,8,9,24,25],[2,8,9,24,25],[2,8,9],[2,9,32,33],[2,9,32,33,34],[2,9,32,33],[2,9,32,33],[2,9,10,11],[10,11,12,13],[6]] k
abbrev h4:Hint:=HQ h4a
@[go_sem] def h5a:LT:=λk=>LL [[0],[0,6],[2,3],[2,3]] k
abbrev h5:Hint:=HQ h5a
@[go_sem] def h6a:LT:=λk=>LL [[0],[0,6],[2,3],[2,3]] k
abbrev h6:Hint:=HQ h6a
@[go_sem] def h7a:LT:=λk=>LL [[0,1],[0,1,12],[4],[0,1,14,15],[0,1,14,15,16],[0,1,5,14,15],[0,1,6,7,14,15],[0,1,14,15,61],[4],[0,1,14,15],[4]] k
@[go_sem] def h7M:Nat->Option Mix:=λ|6=>some ⟨[0,1,2,3,4,5,6,7],[],HH [0,1,2,3] (.alt (.one 4 (.alt (.one 5 (.alt (.one 6 (.alt (.one 7 (.alt (.one 8 (.one 9 (.one 10 (.one 11 (.fin))))) (.one 9 (.one 8 (.one 10 (.one 11 (.finS 0))))))) (.alt (.one 8 (.alt (.one 7 (.one 9 (.one 10 (.one 11 (.fin))))) (.one 9 (.alt (.one 7 (.one 10 (.one 11 (.fin)))) (.one 10 (.head 7 (.one 11 (.fin)))))))) (.one 9 (.alt (.one 7 (.one 8 (.one 10 (.one 11 (.finS 0))))) (.one 8 (.alt (.one 7 (.one 10 (.one 11 (.finS 0)))) (.one 10 (.head 7 (.one 11 (.finS 0))))))))))) (.alt (.one 8 (.alt (.one 6 (.alt (.one 7 (.one 9 (.one 10 (.one 11 (.fin))))) (.one 9 (.alt (.one 7 (.one 10 (.one 11 (.fin)))) (.one 10 (.head 7 (.one 11 (.fin)))))))) (.one 9 (.alt (.one 6 (.alt (.one 7 (.one 10 (.one 11 (.fin)))) (.one 10 (.head 7 (.one 11 (.fin)))))) (.one 10 (.head 6 (.head 7 (.one 11 (.fin))))))))) (.one 9 (.alt (.one 6 (.alt (.one 7 (.one 8 (.one 10 (.one 11 (.finS 0))))) (.one 8 (.alt (.one 7 (.one 10 (.one 11 (.finS 0)))) (.one 10 (.head 7 (.one 11 (.finS 0)))))))) (.one 8 (.alt (.one 6 (.alt (.one 7 (.one 10 (.one 11 (.finS 0)))) (.one 10 (.head 7 (.one 11 (.finS 0)))))) (.one 10 (.head 6 (.head 7 (.one 11 (.finS 0)))))))))))) (.alt (.one 8 (.alt (.one 5 (.alt (.one 6 (.alt (.one 7 (.one 9 (.one 10 (.one 11 (.fin))))) (.one 9 (.alt (.one 7 (.one 10 (.one 11 (.fin)))) (.one 10 (.head 7 (.one 11 (.fin)))))))) (.one 9 (.alt (.one 6 (.alt (.one 7 (.one 10 (.one 11 (.fin)))) (.one 10 (.head 7 (.one 11 (.fin)))))) (.one 10 (.head 6 (.head 7 (.one 11 (.fin))))))))) (.one 9 (.alt (.one 5 (.alt (.one 6 (.alt (.one 7 (.one 10 (.one 11 (.fin)))) (.one 10 (.head 7 (.one 11 (.fin)))))) (.one 10 (.head 6 (.head 7 (.one 11 (.fin))))))) (.one 10 (HH [5,6,7] (.one 11 (.fin)))))))) (.one 9 (.alt (.one 5 (.alt (.one 6 (.alt (.one 7 (.one 8 (.one 10 (.one 11 (.finS 0))))) (.one 8 (.alt (.one 7 (.one 10 (.one 11 (.finS 0)))) (.one 10 (.head 7 (.one 11 (.finS 0)))))))) (.one 8 (.alt (.one 6 (.alt (.one 7 (.one 10 (.one 11 (.finS 0)))) (.one 10 (.head 7 (.one 11 (.finS 0)))))) (.one 10 (.head 6 (.head 7 (.one 11 (.finS 0))))))))) (.one 8 (.alt (.one 5 (.alt (.one 6 (.alt (.one 7 (.one 10 (.one 11 (.finS 0)))) (.one 10 (.head 7 (.one 11 (.finS 0)))))) (.one 10 (.head 6 (.head 7 (.one 11 (.finS 0))))))) (.one 10 (HH [5,6,7] (.one 11 (.finS 0))))))))))) (.alt (.one 5 (.alt (.one 4 (.alt (.one 6 (.alt (.one 7 (.alt (.one 8 (.one 9 (.one 10 (.one 11 (.fin))))) (.one 9 (.one 8 (.one 10 (.one 11 (.finS 0))))))) (.alt (.one 8 (.alt (.one 7 (.one 9 (.one 10 (.one 11 (.fin))))) (.one 9 (.alt (.one 7 (.one 10 (.one 11 (.fin)))) (.one 10 (.head 7 (.one 11 (.fin)))))))) (.one 9 (.alt (.one 7 (.one 8 (.one 10 (.one 11 (.finS 0))))) (.one 8 (.alt (.one 7 (.one 10 (.one 11 (.finS 0)))) (.one 10 (.head 7 (.one 11 (.finS 0))))))))))) (.alt (.one 8 (.alt (.one 6 (.alt (.one 7 (.one 9 (.one 10 (.one 11 (.fin))))) (.one 9 (.alt (.one 7 (.one 10 (.one 11 (.fin)))) (.one 10 (.head 7 (.one 11 (.fin)))))))) (.one 9 (.alt (.one 6 (.alt (.one 7 (.one 10 (.one 11 (.fin)))) (.one 10 (.head 7 (.one 11 (.fin)))))) (.one 10 (.head 6 (.head 7 (.one 11 (.fin))))))))) (.one 9 (.alt (.one 6 (.alt (.one 7 (.one 8 (.one 10 (.one 11 (.finS 0))))) (.one 8 (.alt (.one 7 (.one 10 (.one 11 (.finS 0)))) (.one 10 (.head 7 (.one 11 (.finS 0)))))))) (.one 8 (.alt (.one 6 (.alt (.one 7 (.one 10 (.one 11 (.finS 0)))) (.one 10 (.head 7 (.one 11 (.finS 0)))))) (.one 10 (.head 6 (.head 7 (.one 11 (.finS 0)))))))))))) (.alt (.one 8 (.alt (.one 4 (.alt (.one 6 (.alt (.one 7 (.one 9 (.one 10 (.one 11 (.fin))))) (.one 9 (.alt (.one 7 (.one 10 (.one 11 (.fin)))) (.one 10 (.head 7 (.one 11 (.fin)))))))) (.one 9 (.alt (.one 6 (.alt (.one 7 (.one 10 (.one 11 (.fin)))) (.one 10 (.head 7 (.one 11 (.fin)))))) (.one 10 (.head 6 (.head 7 (.one 11 (.fin))))))))) (.one 9 (.alt (.one 4 (.alt (.one 6 (.alt (.one 7 (.one 10 (.one 11 (.fin)))) (.one 10 (.head 7 (.one 11 (.fin)))))) (.one 10 (.head 6 (.head 7 (.one 11 (.fin))))))) (.one 10 (HH [4,6,7] (.one 11 (.fin)))))))) (.one 9 (.alt (.one 4 (.alt (.one 6 (.alt (.one 7 (.one 8 (.one 10 (.one 11 (.finS 0))))) (.one 8 (.alt (.one 7 (.one 10 (.one 11 (.finS 0)))) (.one 10 (.head 7 (.one 11 (.finS 0)))))))) (.one 8 (.alt (.one 6 (.alt (.one 7 (.one 10 (.one 11 (.finS 0)))) (.one 10 (.head 7 (.one 11 (.finS 0)))))) (.one 10 (.head 6 (.head 7 (.one 11 (.finS 0))))))))) (.one 8 (.alt (.one 4 (.alt (.one 6 (.alt (.one 7 (.one 10 (.one 11 (.finS 0)))) (.one 10 (.head 7 (.one 11 (.finS 0)))))) (.one 10 (.head 6 (.head 7 (.one 11 (.finS 0))))))) (.one 10 (HH [4,6,7] (.one 11 (.finS 0))))))))))) (.alt (.one 8 (.alt (.one 4 (.alt (.one 5 (.alt (.one 6 (.alt (.one 7 (.one 9 (.one 10 (.one 11 (.fin))))) (.one 9 (.alt (.one 7 (.one 10 (.one 11 (.fin)))) (.one 10 (.head 7 (.one 11 (.fin)))))))) (.one 9 (.alt (.one 6 (.alt (.one 7 (.one 10 (.one 11 (.fin)))) (.one 10 (.head 7 (.one 11 (.fin)))))) (.one 10 (.head 6 (.head 7 (.one 11 (.fin))))))))) (.one 9 (.alt (.one 5 (.alt (.one 6 (.alt (.one 7 (.one 10 (.one 11 (.fin)))) (.one 10 (.head 7 (.one 11 (.fin)))))) (.one 10 (.head 6 (.head 7 (.one 11 (.fin))))))) (.one 10 (HH [5,6,7] (.one 11 (.fin)))))))) (.alt (.one 5 (.alt (.one 4 (.alt (.one 6 (.alt (.one 7 (.one 9 (.one 10 (.one 11 (.fin))))) (.one 9 (.alt (.one 7 (.one 10 (.one 11 (.fin)))) (.one 10 (.head 7 (.one 11 (.fin)))))))) (.one 9 (.alt (.one 6 (.alt (.one 7 (.one 10 (.one 11 (.fin)))) (.one 10 (.head 7 (.one 11 (.fin)))))) (.one 10 (.head 6 (.head 7 (.one 11 (.fin))))))))) (.one 9 (.alt (.one 4 (.alt (.one 6 (.alt (.one 7 (.one 10 (.one 11 (.fin)))) (.one 10 (.head 7 (.one 11 (.fin)))))) (.one 10 (.head 6 (.head 7 (.one 11 (.fin))))))) (.one 10 (HH [4,6,7] (.one 11 (.fin)))))))) (.one 9 (.alt (.one 4 (.alt (.one 5 (.alt (.one 6 (.alt (.one 7 (.one 10 (.one 11 (.fin)))) (.one 10 (.head 7 (.one 11 (.fin)))))) (.one 10 (.head 6 (.head 7 (.one 11 (.fin))))))) (.one 10 (HH [5,6,7] (.one 11 (.fin)))))) (.alt (.one 5 (.alt (.one 4 (.alt (.one 6 (.alt (.one 7 (.one 10 (.one 11 (.fin)))) (.one 10 (.head 7 (.one 11 (.fin)))))) (.one 10 (.head 6 (.head 7 (.one 11 (.fin))))))) (.one 10 (HH [4,6,7] (.one 11 (.fin)))))) (.one 10 (HH [4,5,6,7] (.one 11 (.fin)))))))))) (.one 9 (.alt (.one 4 (.alt (.one 5 (.alt (.one 6 (.alt (.one 7 (.one 8 (.one 10 (.one 11 (.finS 0))))) (.one 8 (.alt (.one 7 (.one 10 (.one 11 (.finS 0)))) (.one 10 (.head 7 (.one 11 (.finS 0)))))))) (.one 8 (.alt (.one 6 (.alt (.one 7 (.one 10 (.one 11 (.finS 0)))) (.one 10 (.head 7 (.one 11 (.finS 0)))))) (.one 10 (.head 6 (.head 7 (.one 11 (.finS 0))))))))) (.one 8 (.alt (.one 5 (.alt (.one 6 (.alt (.one 7 (.one 10 (.one 11 (.finS 0)))) (.one 10 (.head 7 (.one 11 (.finS 0)))))) (.one 10 (.head 6 (.head 7 (.one 11 (.finS 0))))))) (.one 10 (HH [5,6,7] (.one 11 (.finS 0)))))))) (.alt (.one 5 (.alt (.one 4 (.alt (.one 6 (.alt (.one 7 (.one 8 (.one 10 (.one 11 (.finS 0))))) (.one 8 (.alt (.one 7 (.one 10 (.one 11 (.finS 0)))) (.one 10 (.head 7 (.one 11 (.finS 0)))))))) (.one 8 (.alt (.one 6 (.alt (.one 7 (.one 10 (.one 11 (.finS 0)))) (.one 10 (.head 7 (.one 11 (.finS 0)))))) (.one 10 (.head 6 (.head 7 (.one 11 (.finS 0))))))))) (.one 8 (.alt (.one 4 (.alt (.one 6 (.alt (.one 7 (.one 10 (.one 11 (.finS 0)))) (.one 10 (.head 7 (.one 11 (.finS 0)))))) (.one 10 (.head 6 (.head 7 (.one 11 (.finS 0))))))) (.one 10 (HH [4,6,7] (.one 11 (.finS 0)))))))) (.one 8 (.alt (.one 4 (.alt (.one 5 (.alt (.one 6 (.alt (.one 7 (.one 10 (.one 11 (.finS 0)))) (.one 10 (.head 7 (.one 11 (.finS 0)))))) (.one 10 (.head 6 (.head 7 (.one 11 (.finS 0))))))) (.one 10 (HH [5,6,7] (.one 11 (.finS 0)))))) (.alt (.one 5 (.alt (.one 4 (.alt (.one 6 (.alt (.one 7 (.one 10 (.one 11 (.finS 0)))) (.one 10 (.head 7 (.one 11 (.finS 0)))))) (.one 10 (.head 6 (.head 7 (.one 11 (.finS 0))))))) (.one 10 (HH [4,6,7] (.one 11 (.finS 0)))))) (.one 10 (HH [4,5,6,7] (.one 11 (.finS 0)))))))))))))⟩|_=>none
abbrev h7:Hint:=HM h7a (λ|9=>some 0|_=>none) (λ|6=>some 8|_=>none) [] false h7M (λ_=>0) 0 false NN
@[go_sem] def h8a:LT:=λk=>LL [[],[1,2],[0]] k
abbrev h8:Hint:=HQ h8a
@[go_sem] def h9a:LT:=λk=>LL [[0],[0,3],[0,3,4],[0,3,4,5],[0,3,4,5,6],[0,3,4,5,6,31],[0,3,4,5,6,33],[2],[0,3,4,5,6,7],[0,3,4,5,7],[0,3,4,5,7],[0,3,4,5,7,52],[0,3,4,62,63,65],[0,3,4],[0,3,4],[0,3,4,5,6,8],[0,3,4],[0,3,4,5,6,8,95],[0,3,4,5,6,8,95],[0,3,4],[0,3,4,5,6,115],[0,3,4,9,10],[0,3,4,9,125],[0,3,4]] k
@[go_sem] def h9M:Nat->Option Mix:=λ|11=>some ⟨[3],[],.one 0 (.alt (.one 1 (.one 2 (.head 3 (.fin)))) (.one 2 (.one 1 (.head 3 (.fin)))))⟩|14=>some ⟨[0,1,2,3,4,5,6,7,8,9,10,12,13],[],HH [3,4,5,6,7,8,9,10] (.alt (.one 0 (.alt (.one 1 (.alt (.one 2 (.one 11 (.head 12 (.head 13 (.one 14 (.fin)))))) (.one 11 (HH [2,12,13] (.one 14 (.fin)))))) (.one 11 (HH [1,2,12,13] (.one 14 (.fin)))))) (.alt (.one 1 (.alt (.one 0 (.alt (.one 2 (.one 11 (.head 12 (.head 13 (.one 14 (.fin)))))) (.one 11 (HH [2,12,13] (.one 14 (.fin)))))) (.alt (.one 2 (.alt (.one 0 (.one 11 (.head 12 (.head 13 (.one 14 (.fin)))))) (.one 11 (HH [0,12,13] (.one 14 (.fin)))))) (.one 11 (HH [0,2,12,13] (.one 14 (.fin))))))) (.one 11 (HH [0,1,2,12,13] (.one 14 (.fin))))))⟩|_=>none
abbrev h9:Hint:=HM h9a (λ|3=>some 4|11=>some 5|13=>some 4|14=>some 4|23=>some 4|_=>none) (λ|5=>some 9|11=>some 0|12=>some 12|14=>some 10|_=>none) [4] false h9M (λ|some 9=>4|some 16=>1|some 128=>2|some 129=>1|none=>4|_=>0) 0 false (λ|12=>some 0|_=>none)
@[go_sem] def JjS:LT:=λk=>LL [[0],[2]] k
abbrev h10:Hint:=HQ JjS
@[go_sem] def JjT:LT:=λk=>LL [[0],[2]] k
abbrev h11:Hint:=HQ JjT
@[go_sem] def JjU:LT:=λk=>LL [[0],[2]] k
abbrev h12:Hint:=HQ JjU
@[go_sem] def JjV:LT:=λk=>LL [[0,1],[0,1,10],[4],[0,1,12,13],[0,1,12,13,14],[0,1,5,12,13],[0,1,12,13,40],[4],[0,1,12,13],[4]] k
abbrev h13:Hint:=HM JjV NN (λ|6=>some 25|_=>none) [] false NM (λ_=>0) 0 false NN
@[go_sem] def JjW:LT:=λk=>LL [[0,1],[0,1,10],[4],[0,1,12,13],[0,1,12,13,14],[0,1,5,12,13],[0,1,12,13,53],[4],[0,1,12,13],[4]] k
abbrev h14:Hint:=HM JjW NN (λ|6=>some 38|_=>none) [] false NM (λ_=>0) 0 false NN
@[go_sem] def JjX:LT:=λk=>LL [[0],[0,3],[0,3,4],[0,3,4,5],[0,3,4,5,19,20,21],[0,3,4,5,19,20,21,22],[0,3,4,5,6,7,19,20,21],[0,3,4,5,6,7,8,19,20,21],[0,3,4,5,6,7,8,19,20,21,28],[0,3,4,5,6,7,8,19,20,21,28],[0,3,4,5,6,19,20,21,37],[0,3,4,5,6,7,8,19,20,21,28],[0,3,4,5,19,20,21],[0,3,4,5,61],[0,3,4,5,19,20,21],[2]] k
@[go_sem] def JjY:Nat->Option Mix:=λ|1=>some ⟨[0,1,2,4,5,7],[],HH [0,1,2,4,5] (.alt (.one 3 (.alt (.one 6 (.head 7 (.alt (.one 8 (.one 9 (.one 10 (.fin)))) (.one 9 (.one 8 (.one 10 (.finS 2))))))) (.one 9 (.one 6 (.head 7 (.one 8 (.one 10 (.finL [1,2])))))))) (.alt (.one 6 (.alt (.one 3 (.head 7 (.alt (.one 8 (.one 9 (.one 10 (.finS 0)))) (.one 9 (.one 8 (.one 10 (.finL [0,2]))))))) (.one 9 (.one 3 (.head 7 (.one 8 (.one 10 (.finL [1,2,0])))))))) (.one 9 (.alt (.one 3 (.one 6 (.head 7 (.one 8 (.one 10 (.finL [0,1,2])))))) (.one 6 (.one 3 (.head 7 (.one 8 (.one 10 (.finL [0,1,2,0]))))))))))⟩|_=>none
abbrev h15:Hint:=HM JjX (λ|9=>some 2007|12=>some 1001|_=>none) (λ|1=>some 3|10=>some 17|_=>none) [] false JjY (λ|some 36=>1|none=>3|_=>0) 3 false NN
@[go_sem] def JjZ:LT:=λk=>LL [[0,1,2,6],[0,1,2,6,8],[0,1,2,6,8,9,10],[0,1,2,6,8,9,10,45],[6],[6,7],[0,1,2,6,8,9,10,11],[0,1,2,6,8,9,10,11],[0,1,6,8,9,11,88],[6,7],[0,1,6,9,12],[6,7]] k
abbrev h16:Hint:=HM JjZ NN (λ|11=>some 16|_=>none) [] false NM (λ|some 6=>4|none=>4|_=>0) 0 true NN
@[go_sem] def Jjb:LT:=λk=>LL [[0,1,2,6],[0,1,2,6,7,8],[0,1,2,6,7,8],[0,1,2,6,7,8,34],[0,1,2,6,7,8],[0,1,6,7,50],[]] k
@[go_sem] def Jjc:Nat->Option Mix:=λ|6=>some ⟨[0,1,2,3,4,5,6,7,8,9,10,11,12,13,14,15,16,17,18,19,20,21,22,23,24,25,26],[],HH [0,1,2,3,4,5,6,7,8,9,10,11,12,13,14,15,16,17,18,19,20,21,22,23,24,25,26] (.two 27)⟩|_=>none
abbrev h17:Hint:=HM Jjb NN (λ|6=>some 26|_=>none) [] false Jjc (λ_=>0) 0 false NN
@[go_sem] def Jjd:LT:=λk=>LL [[0],[3],[3,4],[3,4],[3,4,12],[2],[3,4]] k
abbrev h18:Hint:=HM Jjd NN NN [4] false NM (λ_=>0) 0 false NN
@[go_sem] def Jje:LT:=λk=>LL [[0],[0,28],[0,28],[0,3],[0,3,4],[3,4,32,33,34],[3,4,32,33,34,35],[3,4,6,32,33,34],[3,6,7,32,33,34],[3,4,6,7,32,33,34],[3,4,6,7,32,33,34,41],[3,4,6,7,32,33,34,41,42],[3,4,6,32,33,34,44],[3,4,6,32,33,34,41,45],[3,4,6,32,33,34,41,45],[3,4,6,7,32,33,34,41,42],[3,4,6,32,33,34,48],[3,4,6,7,32,33,34,41,42],[3,4,32,33,34],[3,4,32,33,34],[2]] k
abbrev h19:Hint:=HM Jje NN NN [3] false NM (λ_=>0) 0 false NN
@[go_sem] def Jjf:LT:=λk=>LL [[0,1,2],[0,1,2,7],[0,1,2,7,8],[0,1,2,7,8,17],[0,1,2,7,8,9],[0,1,2,7,8,9,36],[0,1,2,7,8],[0,1,2,7,8,40],[0,1,2,7,8,10],[0,1,2,7,8,10,11,12],[0,1,2,7,8,10,11,82],[0,1,2,7,8,10,11,82],[0,1,2,7,8],[0,1,2,7,8,13],[0,1,2,7,8,13,122],[0,1,2,7,8,13,122],[0,1,2,7,8],[6]] k
@[go_sem] def Jjg:Nat->Option Mix:=λ|11=>some ⟨[0,1,2,3,4,5,6,7,8,9,10,11,12,13,14,15,16,17],[],HH [0,1,2,3,4,5,6,7,8,9,10,11,12,13,14,15,16,17] (.one 18 (.one 19 (.fin)))⟩|15=>some ⟨[0,1,2,3,4,5,6,7,8,9,10,11,12,13],[],HH [0,1,2,3,4,5,6,7,8,9,10,11,12,13] (.one 14 (.one 15 (.fin)))⟩|_=>none
abbrev h20:Hint:=HM Jjf NN (λ|11=>some 17|15=>some 13|_=>none) [7] false Jjg (λ_=>0) 0 false NN
@[go_sem] def Jjh:LT:=λk=>LL [[0],[0,3],[3,9,10,11],[3,9,10,11,12],[3,5,9,10,11],[3,5,6,9,10,11],[3,5,6,9,10,11,31],[3,9,10,11],[3,5,6,9,10,11,37],[3,9,10,11],[3,9,10,11],[3,9,10,11],[3,59],[3,9,10,11],[2]] k
@[go_sem] def Jji:Nat->Option Mix:=λ|10=>some ⟨[0,1,2,3,4,5,6,7,8],[],HH [0,1,2,3,4,5,6,7,8] (.two 9)⟩|_=>none
abbrev h21:Hint:=HM Jjh (λ|11=>some 1|_=>none) (λ|6=>some 14|10=>some 8|_=>none) [3] false Jji (λ|some 8=>1|some 41=>2|some 42=>1|_=>0) 0 false NN
@[go_sem] def Jjj:LT:=λk=>LL [[0],[0,3],[3,4],[3,4],[3,4,12],[2],[3,4]] k
abbrev h22:Hint:=HM Jjj NN NN [3] false NM (λ_=>0) 0 false NN
@[go_sem] def Jjl:LT:=λk=>LL [[0],[0,28],[0,28],[0,3],[0,3,4],[3,4,32,33,34],[3,4,32,33,34,35],[3,4,6,32,33,34],[3,4,6,7,32,33,34],[3,4,6,7,32,33,34,39],[3,4,6,7,32,33,34,39,40],[3,4,6,7,32,33,34,39,40],[3,4,6,7,32,33,34,39,40],[3,4,6,7,32,33,34,43],[3,4,6,7,32,33,34,39,40],[3,6,7,32,33,34,50],[3,6,7,32,33,34,50],[3,4,32,33,34],[3,4,32,33,34],[2]] k
abbrev h23:Hint:=HM Jjl NN NN [3] false NM (λ_=>0) 0 false NN
@[go_sem] def Jjm:LT:=λk=>LL [[0,1,2,4],[0,1,2,4,5],[0,1,2,4,5],[1,2,4,5],[1,2,4,5],[1,2,4,5,33],[1,2,4,5,33]] k
abbrev h24:Hint:=HM Jjm NN (λ|6=>some 29|_=>none) [] false NM (λ_=>0) 0 false NN
@[go_sem] def Jjn:LT:=λk=>LL [[0],[3],[3,4],[3,6],[3,8],[10],[2],[2],[2],[2]] k
abbrev h25:Hint:=HQ Jjn
@[go_sem] def Jjo:LT:=λk=>LL [[0,1,2,3],[0,1,2,3,10],[0,1,2,3,10,15],[0,1,2,3,10,16,17,18],[0,1,2,3,10,16,17,18,19],[0,1,2,3,10,12,16,17,18],[0,1,2,3,10,16,17,18,31],[8,9],[0,1,2,3,10,16,17,18],[0,1,2,3,10],[0,1,2,3,10],[8,9]] k
abbrev h26:Hint:=HQ Jjo
@[go_sem] def Jjp:LT:=λk=>LL [[0],[3],[3,8,9,10],[3,8,9,10,11],[3,4,5,8,9,10],[3,4,5,8,9,10,20],[3,4,5,8,9,10,20],[3,8,9,10],[2]] k
abbrev h27:Hint:=HM Jjp NN NN [] true NM (λ_=>0) 0 false NN
@[go_sem] def Jjq:LT:=λk=>LL [[0,1,2],[0,1,2,16],[6],[6]] k
abbrev h28:Hint:=HQ Jjq
@[go_sem] def Jjr:LT:=λk=>LL [[0,1,2],[6]] k
abbrev h29:Hint:=HQ Jjr
@[go_sem] def Jjs:LT:=λk=>LL [[0,1,2],[0,1,2,7],[0,1,2,7,13],[0,1,2,7,8],[0,1,2,7,8,22],[0,1,2,7,8,22,23],[0,1,2,7,8,22,23],[0,1,2,7],[0,1,2,7,8,28],[0,1,2,7],[0,1,2,7,41],[0,1,2,7,41],[0,1,2,7,8],[0,1,2,7,8,62],[0,1,2,7,9,10],[0,1,2,7,9,70],[0,1,2,7],[6]] k
abbrev h30:Hint:=HM Jjs (λ|2=>some 0|_=>none) NN [7] false NM (λ_=>0) 0 false NN
@[go_sem] def Jjt:LT:=λk=>LL [[0,4],[0],[0,20],[0],[0,30],[0]] k
abbrev h31:Hint:=HQ Jjt
@[go_sem] def Jju:LT:=λk=>LL [[0,1],[0,1,17],[4],[5],[5,43],[4],[4]] k
abbrev h32:Hint:=HM Jju NN (λ|1=>some 12|3=>some 12|_=>none) [] false NM (λ_=>0) 0 false NN
@[go_sem] def Jjv:LT:=λk=>LL [[0,2],[0,2,3],[0,2,3,9],[2],[2],[0,2,3,17],[2],[0,2,3,26],[2,3],[2],[0,2,3,42],[2],[0,2,3,65],[2],[2],[0,2,3,81],[2],[2],[0,2,3,97],[0,2,4],[0,2,4],[2],[0,2,132],[0,2],[2],[0,2,155],[2],[2]] k
abbrev h33:Hint:=HQ Jjv
@[go_sem] def Jjx:LT:=λk=>LL [[0],[0,3],[0,3,8],[0,3,4,5],[0,3,5],[0,3],[2]] k
abbrev h34:Hint:=HM Jjx NN NN [3] false NM (λ_=>0) 0 false NN
@[go_sem] def Jjy:LT:=λk=>LL [[0,1,2,3],[0,1,2,3,32],[0,1,2,3],[8]] k
abbrev h35:Hint:=HQ Jjy
@[go_sem] def Jjz:LT:=λk=>LL [[0],[4],[2,3]] k
abbrev h36:Hint:=HQ Jjz
@[go_sem] def Jj0:LT:=λk=>LL [[0],[2]] k
abbrev h37:Hint:=HQ Jj0
@[go_sem] def Jj1:LT:=λk=>LL [[0],[0,3,4],[0,3,4,16],[0,3,4],[0,3,4,29],[0,3,4],[2]] k
abbrev h38:Hint:=HQ Jj1
@[go_sem] def Jj2:LT:=λk=>LL [[0],[0,3],[0,3,4],[0,3,4,11],[0,3,4,17],[0,3,4,5],[0,3,5,6,7],[0,3,5,6,29],[0,3,5,6,29],[0,3,4],[0,3,4,17,35],[0,3,4,17,35],[0,3,4],[0,3,4,40],[0,3,4],[2]] k
abbrev h39:Hint:=HM Jj2 (λ|3=>some 0|_=>none) NN [3] false NM (λ_=>0) 0 false NN
@[go_sem] def Jj3:LT:=λk=>LL [[0],[3],[3,4],[3,4],[2],[3,7],[2],[9],[2],[2]] k
abbrev h40:Hint:=HQ Jj3
@[go_sem] def Jj4:LT:=λk=>LL [[0],[0,3],[0,3,4],[0,3,4],[0,3,4,16],[0,30,31,33],[0],[0],[2]] k
@[go_sem] def Jj5:Nat->Option Mix:=λ|4=>some ⟨[3],[],.one 0 (.alt (.one 1 (.one 2 (.head 3 (.fin)))) (.one 2 (.one 1 (.head 3 (.fin)))))⟩|7=>some ⟨[0,1,2,3,4,5,6,7,8,9,10,11,12,13,14,16,17],[],HH [3,4,5,6,7,8,9,10,11,12,13,14] (.alt (.one 0 (.alt (.one 1 (.alt (.one 2 (.one 15 (.head 16 (.head 17 (.one 18 (.fin)))))) (.one 15 (HH [2,16,17] (.one 18 (.fin)))))) (.one 15 (HH [1,2,16,17] (.one 18 (.fin)))))) (.alt (.one 1 (.alt (.one 0 (.alt (.one 2 (.one 15 (.head 16 (.head 17 (.one 18 (.fin)))))) (.one 15 (HH [2,16,17] (.one 18 (.fin)))))) (.alt (.one 2 (.alt (.one 0 (.one 15 (.head 16 (.head 17 (.one 18 (.fin)))))) (.one 15 (HH [0,16,17] (.one 18 (.fin)))))) (.one 15 (HH [0,2,16,17] (.one 18 (.fin))))))) (.one 15 (HH [0,1,2,16,17] (.one 18 (.fin))))))⟩|_=>none
abbrev h41:Hint:=HM Jj4 (λ|4=>some 1001|_=>none) (λ|4=>some 0|5=>some 16|7=>some 14|_=>none) [] false Jj5 (λ_=>0) 0 false (λ|5=>some 0|_=>none)
@[go_sem] def Jj6:LT:=λk=>LL [[0,9],[0],[0,29],[0],[0]] k
abbrev h42:Hint:=HQ Jj6
@[go_sem] def Jj7:LT:=λk=>LL [[0,1],[0,1,17],[4],[5],[5,31],[4],[4]] k
abbrev h43:Hint:=HM Jj7 NN (λ|1=>some 12|3=>some 12|_=>none) [] false NM (λ_=>0) 0 false NN
@[go_sem] def Jj8:LT:=λk=>LL [[0,2],[0,2,3,4,5],[0,2,3,4,5,14],[0,2,3,4,5,14,15],[0,2,3,4,5,6,14],[0,2,3,4,5,6,14,21],[2,6],[2],[0,2,3,4,5,14],[0,2,3,4,5,34],[2],[2],[0,2,3,4,5,40],[0,2,3],[2],[0,2,3,4,5,57],[0,2,4,5],[0,2,7],[2],[0,2,3,4,5,89],[2],[0,2,3,4,5,96],[2],[2],[0,2,3,4,5,115],[2],[2],[0,2,3,4,5,139],[0,2],[2],[0,2,3,159],[2],[2,3],[2]] k
abbrev h44:Hint:=HQ Jj8
@[go_sem] def JkA:LT:=λk=>LL [[0],[0,3],[0,3,4],[0,3,4,11],[0,3,4,5,6],[0,3,4,6],[0,3,4],[2]] k
abbrev h45:Hint:=HM JkA NN NN [3] false NM (λ_=>0) 0 false NN
@[go_sem] def JkB:LT:=λk=>LL [[0],[0,11],[0],[0,25],[0],[2]] k
abbrev h46:Hint:=HQ JkB
@[go_sem] def JkC:LT:=λk=>LL [[0],[0,3],[0,3,4],[0,3,4,5],[3,4,5,11,12,13],[3,4,5,11,12,13,14],[3,4,5,7,11,12,13],[3,4,5,7,8,11,12,13],[3,4,5,7,8,11,12,13,20],[3,4,5,11,12,13,26,27,29],[3,4,5,11,12,13],[3,4,5,11,12,13],[3,4,5,7,8,11,12,13,43],[3,4,5,7,11,12,13],[3,4,5,11,12,13],[3,4,5,7,8,11,12,13,55],[3,4,5,11,12,13],[3,4,5,11,12,13],[3,4,5,75],[3,4,5,11,12,13],[2]] k
@[go_sem] def JkD:Nat->Option Mix:=λ|8=>some ⟨[3],[],.one 0 (.alt (.one 1 (.one 2 (.head 3 (.fin)))) (.one 2 (.one 1 (.head 3 (.fin)))))⟩|11=>some ⟨[0,1,2,3,4,5,6,7,8,10],[],HH [2,3,4,5,6,7,8] (.alt (.one 0 (.alt (.one 1 (.one 9 (.head 10 (.one 11 (.fin))))) (.one 9 (.head 1 (.head 10 (.one 11 (.fin))))))) (.alt (.one 1 (.alt (.one 0 (.one 9 (.head 10 (.one 11 (.fin))))) (.one 9 (.head 0 (.head 10 (.one 11 (.fin))))))) (.one 9 (HH [0,1,10] (.one 11 (.fin))))))⟩|_=>none
abbrev h47:Hint:=HM JkC (λ|8=>some 1001|13=>some 2007|17=>some 1001|_=>none) (λ|8=>some 0|9=>some 8|11=>some 8|15=>some 14|_=>none) [] false JkD (λ|some 9=>1|some 51=>1|some 53=>2|some 54=>1|none=>3|_=>0) 0 false (λ|9=>some 0|_=>none)
@[go_sem] def JkG:LT:=λk=>LL [[0,1,2,6],[0,1,2,6,8],[0,1,2,6,8,26],[0,1,2,6,8,26],[0,2,6,8,9],[0,2,6,8,9,46],[0,2,6,8,9],[0,2,6,8,9,62],[6,7],[0,2,6,8,9,11],[0,2,6,8,9,73],[6,7],[6,8],[6,8,12],[6,8,12,107],[6,8,13],[6,8,13,119],[6,8,13],[6,8,13,139],[6,8,12,107],[6,8],[6,7]] k
abbrev h48:Hint:=HQ JkG
@[go_sem] def JkH:LT:=λk=>LL [[0,1],[0,7,8,9],[0,7,8,9,10],[0,5,6,7,8,9],[0,7,8,9,18],[4],[0,7,8,9],[4]] k
abbrev h49:Hint:=HQ JkH
@[go_sem] def JkJ:LT:=λk=>LL [[0],[2]] k
abbrev h50:Hint:=HQ JkJ
@[go_sem] def JkK:LT:=λk=>LL [[0,4],[0]] k
abbrev h51:Hint:=HQ JkK
@[go_sem] def JkL:LT:=λk=>LL [[0,2],[0,2,3],[0,2,3,4],[0,2,3,4,5],[0,2,3,4],[0,2,3,4,5,21],[2],[0,2,3,4,5,25],[2],[0,2,3,4,5,32],[2,4],[2],[0,2,3,4,5,49],[0,2,3,4],[0,2,3,4,83],[0,2,3,4],[0,2,3,4]] k
abbrev h52:Hint:=HM JkL NN (λ|13=>some 17|_=>none) [4] false NM (λ_=>0) 0 false NN
@[go_sem] def JkM:LT:=λk=>LL [[0],[3],[3,4],[2],[3,6],[2],[3,8],[2],[3,10],[2],[3,12],[2],[3,14],[2],[3,16],[2],[3,18],[2],[20],[2],[2]] k
abbrev h53:Hint:=HQ JkM
@[go_sem] def JkN:LT:=λk=>LL [[0],[2]] k
abbrev h54:Hint:=HQ JkN
@[go_sem] def JkO:LT:=λk=>LL [[0,1],[0,1,5],[0,1,14],[0,1,14],[4]] k
abbrev h55:Hint:=HQ JkO
@[go_sem] def JkP:LT:=λk=>LL [[1,2],[1,2,3],[1,2,3,4],[1,2,3,23],[1,2,3,23],[1,2,3,5],[1,2,3,5],[1,2,3,5,47],[1,2,3,5],[1,2,3,5,47],[1,2,3,5,6],[1,2,3,5,68],[1,2,3,5,7],[1,2,3,5,6,7],[1,2,3,5,7,78],[1,2,3,5,7,78],[1,2,3,5,7,84],[1,2,3,5],[1,2,3,5,68],[1,2,3,8],[1,2,8],[2,8],[1,2,8,118],[2,8],[1,2,8,129],[2,8],[2,8],[2]] k
@[go_sem] def JkQ:Nat->Option Mix:=λ|20=>some ⟨[0,1,2,3,4,5,6,7,8,9,10,11,12,13,14,15,16,17,18,20],[],HH [0,1,2,3,4,5,6,7,8,9,10,11,12,13,14,15,18] (.alt (.one 16 (.alt (.one 17 (.one 19 (.head 20 (.one 21 (.fin))))) (.one 19 (.head 20 (.alt (.one 17 (.one 21 (.fin))) (.one 21 (.head 17 (.fin)))))))) (.alt (.one 17 (.alt (.one 16 (.one 19 (.head 20 (.one 21 (.fin))))) (.one 19 (.head 16 (.head 20 (.one 21 (.fin))))))) (.one 19 (.head 16 (.head 20 (.alt (.one 17 (.one 21 (.fin))) (.one 21 (.head 17 (.fin)))))))))⟩|_=>none
abbrev h56:Hint:=HM JkP NN (λ|20=>some 19|_=>none) [] false JkQ (λ_=>0) 0 false NN
@[go_sem] def JkS:LT:=λk=>LL [[0],[2]] k
abbrev h57:Hint:=HQ JkS
@[go_sem] def JkT:LT:=λk=>LL [[0,1],[4]] k
abbrev h58:Hint:=HQ JkT
@[go_sem] def JkU:LT:=λk=>LL [[0,1],[0,1,5],[0,1,5,10],[4],[4]] k
abbrev h59:Hint:=HQ JkU
@[go_sem] def JkV:LT:=λk=>LL [[0],[0,3],[2],[0,3,7],[0,3],[0,3,16],[0,3],[0,3]] k
abbrev h60:Hint:=HM JkV NN NN [3] false NM (λ_=>0) 0 false NN
@[go_sem] def JkW:LT:=λk=>LL [[0,2],[0,2,3],[0,2,3,15],[2],[0,2,3],[0,2,3,29],[2],[0,2,3,43],[0,2,3,29],[0,2,3,4],[0,2,3,4,57],[0,2,3,4,57],[0,2,3,5],[0,2,3,68],[2],[2]] k
abbrev h61:Hint:=HQ JkW
@[go_sem] def JkX:LT:=λk=>LL [[0],[0,3],[3,6,7,8],[3,6,7,8,9],[3,5,6,7,8],[3,5,6,7,8,25],[3,5,6,7,8,25],[3,6,7,8],[3,5,6,7,8,47],[3,6,7,8],[3,5,6,7,8,55],[3,6,7,8],[3,5,6,7,8,69],[3,6,7,8],[3,6,7,8],[2]] k
abbrev h62:Hint:=HM JkX NN NN [3] false NM (λ_=>0) 0 false NN
@[go_sem] def JkY:LT:=λk=>LL [[0],[0,3],[3],[2]] k
abbrev h63:Hint:=HQ JkY
@[go_sem] def JkZ:LT:=λk=>LL [[0],[0,4],[0,4,5,6],[0,4,5,6],[2,3],[0,4,5,6,13],[2,3],[0,4,5,6,18],[0,5,6,7,8],[0,4,5,6,28],[0,4,5,6,7,8],[0,5,6,7,8,38],[0,5,6,7,8,38,39],[0,5,6,7,8,38,39],[0,5,6,7,8,41],[0,5,6,7,8,38,39],[0,4,5,6,43],[0,4,5,6,7,8],[0,5,6,7,8,53],[0,5,6,7,8,53,54],[0,5,6,7,8,53,54],[0,5,6,7,8,56],[0,5,6,7,8,53,54],[0,5,6,7,8,58,59],[0,5,6,7,8,58,59,60],[0,5,6,7,8,9,58,59],[0,7,8,9,58,59,84],[2,3],[0,7,8,58,59],[0,5,6,7,8,58,59],[0,5,6,7,8,58,59],[2,3]] k
abbrev h64:Hint:=HQ JkZ
@[go_sem] def Jka:LT:=λk=>LL [[0],[3],[3,8,9,10],[3,8,9,10,11],[3,4,5,8,9,10],[3,4,5,8,9,10,20],[3,4,5,8,9,10,20],[3,8,9,10],[2]] k
abbrev h65:Hint:=HM Jka NN NN [] true NM (λ_=>0) 0 false NN
@[go_sem] def Jkb:LT:=λk=>LL [[0,1],[1,7,8,9],[1,7,8,9,10],[1,6,7,8,9],[1,7,8,9,28],[4],[1,7,8,9],[4]] k
abbrev h66:Hint:=HM Jkb (λ|6=>some 0|_=>none) NN [] false NM (λ_=>0) 0 false NN
@[go_sem] def Jkc:LT:=λk=>LL [[1],[2]] k
abbrev h67:Hint:=HQ Jkc
@[go_sem] def Jkd:LT:=λk=>LL [[0,2],[0,2,15],[2,3],[0,2,4],[2,4,5],[2,4,5,36],[2,3],[2,4,6],[2,4,6,7],[2,4,6,7,64],[2,4,6,8],[2,4,6,8,9],[2,4,6,8,9,93],[2,4,8,9],[2,4,6,7,64],[2,4,6,101],[2,3],[2,4],[2,4,120],[2,4,120],[2,3]] k
abbrev h68:Hint:=HQ Jkd
@[go_sem] def Jke:LT:=λk=>LL [[0],[2]] k
abbrev h69:Hint:=HQ Jke
@[go_sem] def Jkf:LT:=λk=>LL [[0],[2]] k
abbrev h70:Hint:=HQ Jkf
@[go_sem] def Jkg:LT:=λk=>LL [[0,4],[0]] k
abbrev h71:Hint:=HQ Jkg
@[go_sem] def Jkh:LT:=λk=>LL [[0,1,4],[0,1,4,5],[0,1,4,5,6],[0,1,4,5,6],[0,1,4,5,6,22],[4],[0,1,4,5],[0,1,4,5,6,30],[4],[0,1,4,5,6,34],[0,1,4,5],[0,1,4,5,6,49],[0,1,4,5],[0,1,4,5,6,64],[0,1,4,5],[0,1,4,5]] k
abbrev h72:Hint:=HM Jkh NN NN [5] false NM (λ_=>0) 0 false NN
@[go_sem] def Jki:LT:=λk=>LL [[0],[2]] k
abbrev h73:Hint:=HQ Jki
@[go_sem] def Jkj:LT:=λk=>LL [[0,1],[4]] k
abbrev h74:Hint:=HQ Jkj
@[go_sem] def Jkk:LT:=λk=>LL [[0,1,2],[0,1,2,8],[6],[6]] k
abbrev h75:Hint:=HQ Jkk
@[go_sem] def Jkl:LT:=λk=>LL [[0],[0,3],[0,3,4],[2],[0,3,4,9],[0,3],[0,3],[0,3,27],[0,3],[0,3]] k
abbrev h76:Hint:=HM Jkl NN NN [3] false NM (λ_=>0) 0 false NN
@[go_sem] def Jkm:LT:=λk=>LL [[0,1,2],[0,1,2,12],[0,1,2,12],[6]] k
abbrev h77:Hint:=HQ Jkm
@[go_sem] def Jkn:LT:=λk=>LL [[0,2],[0,2,3],[0,2,3,4],[0,2,3,23],[0,2,3,23],[0,2,3],[0,2,3,40],[0,2,3],[0,2,3,40],[0,2,3,5],[0,2,3,57],[0,2,3,6],[0,2,3,6,7],[0,2,3,6,65],[0,2,3,6,65],[0,2,3,6,69],[0,2,3],[0,2,3,57],[0,2,8,9],[0,2,11],[0,2,11,105],[0,2,11,105],[0,2,11,112],[0,2,11],[0,2,11,105],[2]] k
@[go_sem] def Jko:Nat->Option Mix:=λ|18=>some ⟨[0,1,2,3,4,5,6,7,8,9,10,11,12,13,14,15],[],HH [0,1,2,3,4,5,6,7,8,9] (.alt (.one 10 (.alt (.one 11 (.head 12 (.head 13 (.alt (.one 14 (.alt (.one 15 (.one 16 (.one 17 (.one 18 (.one 19 (.fin)))))) (.one 16 (.alt (.one 15 (.one 17 (.one 18 (.one 19 (.fin))))) (.one 17 (.alt (.one 15 (.one 18 (.one 19 (.fin)))) (.one 18 (.head 15 (.one 19 (.fin)))))))))) (.alt (.one 15 (.alt (.one 14 (.one 16 (.one 17 (.one 18 (.one 19 (.fin)))))) (.one 16 (.alt (.one 14 (.one 17 (.one 18 (.one 19 (.fin))))) (.one 17 (.head 14 (.one 18 (.one 19 (.fin))))))))) (.one 16 (.alt (.one 14 (.alt (.one 15 (.one 17 (.one 18 (.one 19 (.fin))))) (.one 17 (.alt (.one 15 (.one 18 (.one 19 (.fin)))) (.one 18 (.head 15 (.one 19 (.fin)))))))) (.alt (.one 15 (.alt (.one 14 (.one 17 (.one 18 (.one 19 (.fin))))) (.one 17 (.head 14 (.one 18 (.one 19 (.fin))))))) (.one 17 (.head 14 (.alt (.one 15 (.one 18 (.one 19 (.fin)))) (.one 18 (.head 15 (.one 19 (.fin))))))))))))))) (.one 16 (HH [11,12,13] (.alt (.one 14 (.alt (.one 15 (.one 17 (.one 18 (.one 19 (.fin))))) (.one 17 (.alt (.one 15 (.one 18 (.one 19 (.fin)))) (.one 18 (.head 15 (.one 19 (.fin)))))))) (.alt (.one 15 (.alt (.one 14 (.one 17 (.one 18 (.one 19 (.fin))))) (.one 17 (.head 14 (.one 18 (.one 19 (.fin))))))) (.one 17 (.head 14 (.alt (.one 15 (.one 18 (.one 19 (.fin)))) (.one 18 (.head 15 (.one 19 (.fin))))))))))))) (.one 16 (HH [10,11,12,13] (.alt (.one 14 (.alt (.one 15 (.one 17 (.one 18 (.one 19 (.fin))))) (.one 17 (.alt (.one 15 (.one 18 (.one 19 (.fin)))) (.one 18 (.head 15 (.one 19 (.fin)))))))) (.alt (.one 15 (.alt (.one 14 (.one 17 (.one 18 (.one 19 (.fin))))) (.one 17 (.head 14 (.one 18 (.one 19 (.fin))))))) (.one 17 (.head 14 (.alt (.one 15 (.one 18 (.one 19 (.fin)))) (.one 18 (.head 15 (.one 19 (.fin))))))))))))⟩|_=>none
abbrev h78:Hint:=HM Jkn NN (λ|18=>some 16|_=>none) [] false Jko (λ_=>0) 0 false NN
@[go_sem] def Jkq:LT:=λk=>LL [[0,2],[0,2,3],[0,2,3,9],[2],[0,2,3],[0,2,3,21],[2],[0,2,3,31],[0,2,3,21],[0,2,3,4],[0,2,3,4,42],[0,2,3,4,42],[0,2,3,50],[2],[2]] k
abbrev h79:Hint:=HQ Jkq
@[go_sem] def Jks:LT:=λk=>LL [[0],[2]] k
abbrev h80:Hint:=HQ Jks
@[go_sem] def Jkt:LT:=λk=>LL [[0,1],[0,1,7],[0,1,7,18],[4,5,6],[0,1,7,8,9,10],[0,1,7,8,9,10,28],[4,5,6],[0,1,8,9,10,11],[0,1,8,9,10,11,12],[0,1,8,9,10,11,12,37],[0,1,8,9,10,11,12],[0,1,8,11,12,65],[4,5,6],[0,1,8,11,12],[0,1,8,9,10,11,12],[4,5,6]] k
abbrev h81:Hint:=HQ Jkt
@[go_sem] def Jku:LT:=λk=>LL [[1],[2]] k
abbrev h82:Hint:=HQ Jku
@[go_sem] def Jkv:LT:=λk=>LL [[0,1,2],[0,1,2,3],[0,2,3],[0,2,3,25],[34,35,37],[],[]] k
@[go_sem] def Jkw:Nat->Option Mix:=λ|1=>some ⟨[0,1,2,3,4,5,6,7,8,9],[],HH [0,1,2,3,4,5,6,7,8,9] (.one 10 (.one 11 (.fin)))⟩|2=>some ⟨[0,1,2,3,4,5,6],[],HH [0,1,2] (.alt (.one 3 (.alt (.one 4 (.alt (.one 5 (.alt (.one 6 (.one 7 (.one 8 (.fin)))) (.one 7 (.head 6 (.one 8 (.fin)))))) (.one 7 (.head 5 (.head 6 (.one 8 (.fin))))))) (.one 7 (HH [4,5,6] (.one 8 (.fin)))))) (.alt (.one 4 (.alt (.one 3 (.alt (.one 5 (.alt (.one 6 (.one 7 (.one 8 (.fin)))) (.one 7 (.head 6 (.one 8 (.fin)))))) (.one 7 (.head 5 (.head 6 (.one 8 (.fin))))))) (.alt (.one 5 (.alt (.one 3 (.alt (.one 6 (.one 7 (.one 8 (.fin)))) (.one 7 (.head 6 (.one 8 (.fin)))))) (.one 7 (.head 3 (.head 6 (.one 8 (.fin))))))) (.one 7 (HH [3,5,6] (.one 8 (.fin))))))) (.one 7 (HH [3,4,5,6] (.one 8 (.fin))))))⟩|3=>some ⟨[3],[],.one 0 (.alt (.one 1 (.one 2 (.head 3 (.fin)))) (.one 2 (.one 1 (.head 3 (.fin)))))⟩|6=>some ⟨[0,1,2,3,4,5,6,7,8,9,11],[],HH [3,4,5,6,7,8,9] (.alt (.one 0 (.alt (.one 1 (.alt (.one 2 (.one 10 (.head 11 (.one 12 (.fin))))) (.one 10 (.head 2 (.head 11 (.one 12 (.fin))))))) (.one 10 (HH [1,2,11] (.one 12 (.fin)))))) (.alt (.one 1 (.alt (.one 0 (.alt (.one 2 (.one 10 (.head 11 (.one 12 (.fin))))) (.one 10 (.head 2 (.head 11 (.one 12 (.fin))))))) (.alt (.one 2 (.alt (.one 0 (.one 10 (.head 11 (.one 12 (.fin))))) (.one 10 (.head 0 (.head 11 (.one 12 (.fin))))))) (.one 10 (HH [0,2,11] (.one 12 (.fin))))))) (.one 10 (HH [0,1,2,11] (.one 12 (.fin))))))⟩|_=>none
abbrev h83:Hint:=HM Jkv (λ|3=>some 1001|_=>none) (λ|1=>some 10|2=>some 7|3=>some 0|4=>some 11|6=>some 9|_=>none) [] false Jkw (λ_=>0) 0 false (λ|4=>some 0|_=>none)
@[go_sem] def Jkx:LT:=λk=>LL [[0,1],[4]] k
abbrev h84:Hint:=HQ Jkx
@[go_sem] def Jky:LT:=λk=>LL [[0],[0,3],[3,6,7,8],[3,6,7,8,9],[3,5,6,7,8],[3,6,7,8],[3,6,7,8],[2]] k
@[go_sem] def Jkz:Nat->Option Mix:=λ|5=>some ⟨[0,1,2,3,4,5,6,7],[],HH [0,1,2,3,4,5,6,7] (.one 8 (.one 9 (.fin)))⟩|_=>none
abbrev h85:Hint:=HM Jky (λ|6=>some 0|_=>none) (λ|5=>some 7|_=>none) [3] false Jkz (λ_=>0) 0 false NN
@[go_sem] def Jk0:LT:=λk=>LL [[0],[0,8],[0,11],[2],[2],[0,3],[0,3,4],[0,3,4,21],[0,3,4],[0,3,4],[0,3,32],[0,3,32],[3,48],[2],[2]] k
abbrev h86:Hint:=HQ Jk0
@[go_sem] def Jk1:LT:=λk=>LL [[0,5],[0]] k
abbrev h87:Hint:=HQ Jk1
@[go_sem] def Jk2:LT:=λk=>LL [[0,2],[2,5,6],[2,5,18],[2,3,4],[2,5,7],[2,5,7,24],[2,3,4],[2,5,7,8],[2,5,7,8,32],[2,3,4],[2,5,7,8,9],[2,5,7,8,9,37,38,39],[2,5,7,8,9,37,38,39,40],[2,5,7,8,9,11,37,38,39],[2,5,7,8,9,37,38,39],[2,5,7,8,9,37,38,39],[2,3,4]] k
@[go_sem] def Jk3:Nat->Option Mix:=λ|6=>some ⟨[0,1,2],[],.head 0 (.alt (.one 1 (.alt (.one 2 (.one 3 (.one 4 (.one 5 (.fin))))) (.one 3 (.head 2 (.one 4 (.one 5 (.fin))))))) (.one 3 (.head 1 (.head 2 (.one 4 (.one 5 (.fin)))))))⟩|9=>some ⟨[0,1,2],[],.head 0 (.alt (.one 1 (.alt (.one 2 (.one 3 (.one 4 (.one 5 (.fin))))) (.one 3 (.head 2 (.one 4 (.one 5 (.fin))))))) (.one 3 (.head 1 (.head 2 (.one 4 (.one 5 (.fin)))))))⟩|16=>some ⟨[0,1,2,3,4,5,6,7,8,9,10,11,12,13,14,15,16],[],HH [0,1,2,3,4,5,6,7,8,9,10,11,12,13,14] (.alt (.one 15 (.alt (.one 16 (.one 17 (.one 18 (.one 19 (.fin))))) (.one 17 (.head 16 (.one 18 (.one 19 (.fin))))))) (.one 17 (.head 15 (.head 16 (.one 18 (.one 19 (.fin)))))))⟩|_=>none
abbrev h88:Hint:=HM Jk2 NN (λ|6=>some 3|9=>some 3|16=>some 17|_=>none) [] false Jk3 (λ_=>0) 0 false NN
@[go_sem] def Jk5:LT:=λk=>LL [[0],[2]] k
abbrev h89:Hint:=HQ Jk5
@[go_sem] def Jk6:LT:=λk=>LL [[0,1],[4]] k
abbrev h90:Hint:=HQ Jk6
@[go_sem] def Jk7:LT:=λk=>LL [[1,2],[1,2,3],[1,2,3,4],[1,2,3,4],[1,2,3,4,5],[1,2,3,4],[1,2,3,4,5,22],[2],[1,2,3,4,5,31],[1,2,4],[1,2,4,5],[1,2,4,47],[2],[2],[1,2,3,4,5,52],[2],[1,2,3,4,69],[1,2,3,4,76],[2],[1,2,3,4],[1,2,3,4]] k
@[go_sem] def Jk8:Nat->Option Mix:=λ|5=>some ⟨[1,2,3,5],[0],.alt (.one 0 (HH [1,2,3] (.one 4 (.head 5 (.one 6 (.one 7 (.fin))))))) (.one 1 (.alt (.one 0 (.head 2 (.head 3 (.one 4 (.head 5 (.one 6 (.one 7 (.fin)))))))) (.one 2 (.alt (.one 0 (.head 3 (.one 4 (.head 5 (.one 6 (.one 7 (.fin))))))) (.one 3 (.alt (.one 0 (.one 4 (.head 5 (.one 6 (.one 7 (.fin)))))) (.one 4 (.alt (.one 0 (.head 5 (.one 6 (.one 7 (.fin))))) (.one 5 (.one 0 (.one 6 (.one 7 (.fin)))))))))))))⟩|20=>some ⟨[1,2,3,5],[0],.alt (.one 0 (HH [1,2,3] (.one 4 (.head 5 (.one 6 (.one 7 (.fin))))))) (.one 1 (.alt (.one 0 (.head 2 (.head 3 (.one 4 (.head 5 (.one 6 (.one 7 (.fin)))))))) (.one 2 (.alt (.one 0 (.head 3 (.one 4 (.head 5 (.one 6 (.one 7 (.fin))))))) (.one 3 (.alt (.one 0 (.one 4 (.head 5 (.one 6 (.one 7 (.fin)))))) (.one 4 (.alt (.one 0 (.head 5 (.one 6 (.one 7 (.fin))))) (.one 5 (.one 0 (.one 6 (.one 7 (.fin)))))))))))))⟩|_=>none
abbrev h91:Hint:=HM Jk7 NN (λ|5=>some 5|20=>some 5|_=>none) [] false Jk8 (λ_=>0) 0 false NN
@[go_sem] def JlA:LT:=λk=>LL [[0,1],[4]] k
abbrev h92:Hint:=HQ JlA
@[go_sem] def JlB:LT:=λk=>LL [[0],[0,3,4],[0,3,4,15],[0,5],[0,5,19],[2],[5],[2],[0,3,4,6],[0,3,4,6,7],[0,3,6,7,32],[0,3,4,6,7],[0,6,7],[0,6,7],[0,3,4,6,7],[0,6,54],[0,6,54],[6,68],[2],[2]] k
abbrev h93:Hint:=HQ JlB
@[go_sem] def JlC:LT:=λk=>LL [[0],[2]] k
abbrev h94:Hint:=HQ JlC
@[go_sem] def JlD:LT:=λk=>LL [[0],[2]] k
abbrev h95:Hint:=HQ JlD
@[go_sem] def JlG:LT:=λk=>LL [[0,4],[0]] k
abbrev h96:Hint:=HQ JlG
@[go_sem] def JlH:LT:=λk=>LL [[0,2],[0,2,5,6],[0,2,5,6,28],[0,2,5,6],[0,2,5,6,28],[0,2,5,6,7],[0,2,6,7,8,9,10],[0,2,5,6,8,9,10],[0,2,5,6,8,9,10,52],[0,2,5,6,7,8],[0,2,5,6,7,8,60],[2,3,4],[0,2,5,6,7,8],[0,2,6,7,8,9,10],[0,2,5,6,8,9,10,52],[0,2,5,6,8,9,10,75],[2,3,4],[0,2,5,6,8,9,10,11],[0,2,5,6,8,9,10,11,80],[0,2,5,6,8,9,11,90],[2,3,4],[0,2,5,6,8,9,10,11],[0,2,5,6,8,9,10,11],[0,2,5,6,8,9,10,11,12],[0,2,5,6,8,9,10,11,12,109],[0,2,5,6,8,9,10,11,12],[0,2,5,6,8,9,10,11,12,109],[0,2,5,6,7,8,9,10,11,12],[0,2,5,6,7,8,9,10,11,12,127],[2,3,4],[0,2,5,6,7,8,9,10,11,12,131],[0,2,5,6,7,8,9,10,11,12,127],[0,2,5,6,7,8,9,10,11,12],[2,6,8,9,10,11,143],[0,2,5,6,8,9,10,11,80],[2,3,4]] k
abbrev h97:Hint:=HQ JlH
@[go_sem] def JlK:LT:=λk=>LL [[0,2],[0,2],[0,2,3],[0,2,3,4],[0,2,3],[0,2,3],[0,2,3,4,20],[2,3],[2],[0,2,3,4,37],[0,2,3],[0,2,3,4],[0,2,3,49],[2],[0,2,3,4,52],[2],[0,2,3,4,69],[0,2,3,76],[2],[0,2,3],[0,2,3]] k
abbrev h98:Hint:=HM JlK NN NN [3] false NM (λ_=>0) 0 false NN
@[go_sem] def JlL:LT:=λk=>LL [[0],[0,3],[3,6,7,8],[3,6,7,8,9],[3,5,6,7,8],[3,5,6,7,8,14],[3,5,6,7,8,14],[3,6,7,8],[3,5,6,7,8,36],[3,6,7,8],[3,5,6,7,8,44],[3,6,7,8],[3,5,6,7,8,58],[3,6,7,8],[3,6,7,8],[2]] k
abbrev h99:Hint:=HM JlL NN NN [3] false NM (λ_=>0) 0 false NN
@[go_sem] def Jds:LT:=λk=>LL [[0],[0,5],[2,3,4],[0,12],[2,3,4],[0,15],[2,3,4],[0,18],[2,3,4],[0,25],[2,3,4],[0,28],[2,3,4],[35],[2,3,4],[2,3,4]] k
abbrev h100:Hint:=HQ Jds
@[go_sem] def Jdt:LT:=λk=>LL [[0,1],[4]] k
abbrev Jdu:Hint:=HQ Jdt
@[go_sem] def Jdv:LT:=λk=>LL [[0],[0,3],[2],[0,8],[2],[0,18],[2],[2]] k
abbrev Jdw:Hint:=HQ Jdv
@[go_sem] def Jdx:LT:=λk=>LL [[0,2],[0,2,4],[0,2,4,21],[0,2,4,21],[0,2,4,5],[0,2,4],[0,2,4,44],[0,2,4,6],[0,2,4,6,49],[2,3],[0,2,4,6],[0,2,4,44],[0,2,4,68],[2,3],[0,2,4,71],[2,3],[0,2,4,80],[2,3],[0,2,4],[0,2,4,7],[0,2,4,7,96],[0,2,4,7,96],[0,2,4,7,110],[2,3],[2,4,7,113,114,115],[2,4,7,113,114,115,116],[2,4,7,9,113,114,115],[2,4,7,113,114,115],[2,4,7,113,114,115],[2,4,129],[2,4,129],[2,3]] k
@[go_sem] def Jdy:Nat->Option Mix:=λ|3=>some ⟨[0,1,2,3,4,5],[],HH [0,1,2,5] (.alt (.one 3 (.alt (.one 4 (.one 6 (.one 7 (.fin)))) (.one 6 (.head 4 (.one 7 (.fin)))))) (.one 6 (.head 3 (.head 4 (.one 7 (.fin))))))⟩|5=>some ⟨[0,1,2,3,4,5,6,9],[],HH [0,1,2,6] (.alt (.one 3 (.alt (.one 4 (.alt (.one 5 (.one 7 (.one 8 (.head 9 (.one 10 (.fin)))))) (.one 7 (.head 5 (.one 8 (.head 9 (.one 10 (.fin)))))))) (.one 7 (.head 4 (.head 5 (.one 8 (.head 9 (.one 10 (.fin))))))))) (.alt (.one 4 (.alt (.one 3 (.alt (.one 5 (.one 7 (.one 8 (.head 9 (.one 10 (.fin)))))) (.one 7 (.head 5 (.one 8 (.head 9 (.one 10 (.fin)))))))) (.one 7 (.head 3 (.head 5 (.one 8 (.head 9 (.one 10 (.fin))))))))) (.one 7 (HH [3,4,5] (.one 8 (.head 9 (.one 10 (.fin))))))))⟩|10=>some ⟨[0,1,2,3,4,5,6,7,8,10,12],[],HH [0,1,2,3,4,5,6,8] (.alt (.one 7 (.one 9 (.head 10 (.one 11 (.head 12 (.one 13 (.fin))))))) (.one 9 (.head 7 (.head 10 (.one 11 (.head 12 (.one 13 (.fin))))))))⟩|21=>some ⟨[0,1,2,3,4],[],HH [0,1,2] (.alt (.one 3 (.alt (.one 4 (.one 5 (.one 6 (.fin)))) (.one 5 (.head 4 (.one 6 (.fin)))))) (.one 5 (.head 3 (.head 4 (.one 6 (.fin))))))⟩|_=>none
abbrev JYh:Hint:=HM Jdx NN (λ|3=>some 6|5=>some 7|10=>some 9|21=>some 5|_=>none) [] false Jdy (λ_=>0) 0 false NN
@[go_sem] def Jdz:LT:=λk=>LL [[0,1],[0,1,12],[4],[0,1,21],[4],[0,1,5,6],[0,1,5,31],[4],[4]] k
abbrev Jd0:Hint:=HQ Jdz
@[go_sem] def Jd1:LT:=λk=>LL [[0,1],[0,1,12],[4],[0,1,21],[4],[0,1,5,6],[0,1,5,31],[4],[4]] k
abbrev Jd2:Hint:=HQ Jd1
@[go_sem] def Jd3:LT:=λk=>LL [[0,1,2,6],[0,1,2,6,16],[6],[0,1,2,6,19],[0,1,2,6,16],[0,1,2,6,23],[6],[0,1,2,6],[0,1,2,6,7],[0,1,2,6,7,27,28,29],[0,1,2,6,7,27,28,29,30],[0,1,2,6,7,9,27,28,29],[0,1,2,6,7,9,10,27,28,29],[0,1,2,6,7,9,10,27,28,29,35],[0,1,2,6,7,9,10,27,28,29],[0,1,2,6,7,9,10,27,28,29,41],[0,1,2,6,7,9,10,27,28,29],[0,1,2,6,7,9,10,27,28,29,48],[6],[0,1,2,6,7,9,10,27,28,29],[0,1,2,6,7,27,28,29],[6]] k
abbrev JYi:Hint:=HQ Jd3
@[go_sem] def Jd4:LT:=λk=>LL [[0],[0,8],[2],[2]] k
abbrev Jd5:Hint:=HQ Jd4
@[go_sem] def Jd6:LT:=λk=>LL [[0,1,2],[0,1,2,7],[0,1,2,7],[2]] k
abbrev Jd7:Hint:=HQ Jd6
@[go_sem] def Jd8:LT:=λk=>LL [[0,2],[0,2],[0,2,12],[2],[0,2,19],[2],[2],[0,2,35],[0,2],[0,2]] k
abbrev JN6:Hint:=HQ Jd8
@[go_sem] def Jd9:LT:=λk=>LL [[0],[2]] k
abbrev JeA:Hint:=HQ Jd9
@[go_sem] def JeB:LT:=λk=>LL [[0],[0,4],[2,3],[0,9],[2,3],[0,19],[2,3],[2,3]] k
abbrev JeC:Hint:=HQ JeB
@[go_sem] def JeD:LT:=λk=>LL [[0,1],[0,1,14],[0,1],[4]] k
abbrev JTv:Hint:=HQ JeD
@[go_sem] def JeG:LT:=λk=>LL [[0],[0]] k
abbrev JeH:Hint:=HQ JeG
@[go_sem] def JeJ:LT:=λk=>LL [[0,1,2,6],[0,1,2,6,7,8],[0,1,2,6,7,8,25],[0,1,2,6,7,8],[0,1,2,6,7,8,30],[6],[0,1,2,6,7,8,36],[0,1,2,6,7,8],[0,1,2,6,7,8,30],[0,1,2,6,7,8,44],[6],[0,1,2,6,7,8,9],[0,2,6,9,50,51,52],[0,2,6,9,50,51,52,53],[0,2,6,9,11,50,51,52],[0,2,6,9,50,51,52],[0,2,6,9,50,51,52],[0,2,6,9,12],[0,2,6,9,12,64],[0,2,6,9,12],[0,2,6,9,12,68],[6],[0,2,6,9,12],[0,6,9,12,13,14],[0,6,9,12,13,14,82],[0,6,9,12,13,14],[0,6,9,12,13,14,93],[0,6,9,12,13,14],[0,6,9,12,13,14,103],[6],[0,6,9,12,13,14,106],[0,6,9,12,13,14,103],[0,6,9,12,13,14],[0,6,9,12,14,112],[0,6,9,12,13,14,103],[0,6,9,12,14,116],[6],[0,6,9,12,14],[6,9,12,120],[6],[6]] k
abbrev GV:Hint:=HQ JeJ
@[go_sem] def JeK:LT:=λk=>LL [[0,2],[0,2,3],[0,2,3],[0,2,3,18],[2],[0,2,23],[0,2]] k
abbrev JN7:Hint:=HQ JeK
@[go_sem] def JeL:LT:=λk=>LL [[0],[2]] k
abbrev JeM:Hint:=HQ JeL
@[go_sem] def JeN:LT:=λk=>LL [[0],[0,3],[0,3,19],[0,3],[2]] k
abbrev JTw:Hint:=HQ JeN
@[go_sem] def JeO:LT:=λk=>LL [[0,1],[0,1,13],[0,1],[4]] k
abbrev JTx:Hint:=HQ JeO
@[go_sem] def JeP:LT:=λk=>LL [[0,2],[0,2,4],[0,2,4,9],[0,2,4],[0,2,4,5],[0,2,4,5,16],[2,3],[0,2,4],[2,3]] k
abbrev JeQ:Hint:=HQ JeP
@[go_sem] def JeR:LT:=λk=>LL [[0,1],[0,1,7],[0,1,12],[0,1],[4]] k
abbrev JeS:Hint:=HQ JeR
@[go_sem] def JeT:LT:=λk=>LL [[0,1],[0,1,9],[0,1,5,6],[0,1,6,18],[0,1],[4]] k
abbrev JeU:Hint:=HQ JeT
@[go_sem] def JeV:LT:=λk=>LL [[0,1],[0,1,16],[0,1],[4]] k
abbrev JTy:Hint:=HQ JeV
@[go_sem] def JeW:LT:=λk=>LL [[0,1],[0,1,7],[0,1,15],[0,1],[4]] k
abbrev JeX:Hint:=HQ JeW
@[go_sem] def JeY:LT:=λk=>LL [[0,1],[0,1,9],[0,1,5,6],[0,1,5,6,17],[0,1,5,6,17],[0,1,6,26],[0,1],[4]] k
abbrev JeZ:Hint:=HQ JeY
@[go_sem] def Jea:LT:=λk=>LL [[0,1,2,6],[0,1,2,6,16],[6],[1,2,6,18],[6],[6]] k
abbrev Jeb:Hint:=HQ Jea
@[go_sem] def Jec:LT:=λk=>LL [[0],[0,10],[2,3],[2,3]] k
abbrev Jed:Hint:=HQ Jec
@[go_sem] def Jee:LT:=λk=>LL [[0],[2]] k
abbrev Jef:Hint:=HQ Jee
@[go_sem] def Jeg:LT:=λk=>LL [[0,2],[2]] k
abbrev Jeh:Hint:=HQ Jeg
@[go_sem] def Jei:LT:=λk=>LL [[0,1],[4]] k
abbrev Jej:Hint:=HQ Jei
@[go_sem] def Jek:LT:=λk=>LL [[0,1],[4]] k
abbrev Jel:Hint:=HQ Jek
@[go_sem] def Jem:LT:=λk=>LL [[0],[0,4],[0,4,10],[2,3],[0,4,5],[0,2,4,5],[0,2,4,5,18],[2,3],[0,4,5,6],[0,4,5,6],[0,4,5,6,27],[0,4,5,6],[0,4,5,6,33],[0,4,5,35],[0,4,5,35],[2,3,4,5],[2,3,48],[2,3],[2,3]] k
abbrev Jen:Hint:=HQ Jem
@[go_sem] def Jeo:LT:=λk=>LL [[0],[0,4],[0,4,16],[2,3],[0,4,5],[0,4,5,6],[0,4,5,6,23],[0,7],[2,3],[0,4,5,6,8],[0,4,5,8,9],[0,5,8,9,45],[2,3],[0,5,8,9,10],[0,5,8,10,57],[2,3],[0,5,8,10,59],[2,3],[0,5,8,10,11],[0,5,8,10,11,75],[2,3],[0,5,10,11,77],[2,3],[5,10,11,12],[5,10,11,12,98],[2,3],[2,3]] k
abbrev h140:Hint:=HQ Jeo
@[go_sem] def Jep:LT:=λk=>LL [[0,1],[0,7],[0,7,8],[0,7,8,9],[0,7,8,9],[0,7,8,9,26],[0,7,8,9,33],[0,7,8,9,11],[0,7,8,9,11,43],[4],[0,7,8,9,33],[0,7,8,9,12],[0,7,8,9,12,51],[0,7,8,9,12],[0,7,8,9,12,64],[4],[0,7,8,9,10],[0,7,8,9,10],[0,7,8,9,98],[4],[8,9,13],[8,9,13,108],[4],[0,7,8,9,14],[0,7,8,9,14,15],[0,7,8,9,14,15,124],[0,7,8,9,14,15],[0,7,8,9,14,15,139],[0,7,8,9,14,15,16],[0,7,8,9,14,15,16,143],[0,7,8,9,14,15,16],[0,7,8,9,14,15,16,156],[4],[4],[0,1,160],[4],[0,1,171],[175],[175,176,177],[5,6,175],[5,175,181],[4],[4],[0,1,183],[4]] k
abbrev Jeq:Hint:=HM Jep NN (λ|6=>some 7|7=>some 8|14=>some 11|31=>some 11|_=>none) [] false NM (λ_=>0) 0 false NN
@[go_sem] def Jer:LT:=λk=>LL [[0],[2]] k
abbrev Jes:Hint:=HQ Jer
@[go_sem] def Jet:LT:=λk=>LL [[0,1],[4]] k
abbrev Jeu:Hint:=HQ Jet
@[go_sem] def Jev:LT:=λk=>LL [[0],[0,3],[2],[10],[2],[2]] k
abbrev Jew:Hint:=HQ Jev
@[go_sem] def Jex:LT:=λk=>LL [[0],[2]] k
abbrev Jey:Hint:=HQ Jex
@[go_sem] def Jez:LT:=λk=>LL [[0,1],[4]] k
abbrev Je0:Hint:=HQ Jez
def hints(f:Nat):Hint:=match f with|3=>h3|4=>h4|5=>h5|6=>h6|7=>h7|8=>h8|9=>h9|10=>h10|11=>h11|12=>h12|13=>h13|14=>h14|15=>h15|16=>h16|17=>h17|18=>h18|19=>h19|20=>h20|21=>h21|22=>h22|23=>h23|24=>h24|25=>h25|26=>h26|27=>h27|28=>h28|29=>h29|30=>h30|31=>h31|32=>h32|33=>h33|34=>h34|35=>h35|36=>h36|37=>h37|38=>h38|39=>h39|40=>h40|41=>h41|42=>h42|43=>h43|44=>h44|45=>h45|46=>h46|47=>h47|48=>h48|49=>h49|50=>h50|51=>h51|52=>h52|53=>h53|54=>h54|55=>h55|56=>h56|57=>h57|58=>h58|59=>h59|60=>h60|61=>h61|62=>h62|63=>h63|64=>h64|65=>h65|66=>h66|67=>h67|68=>h68|69=>h69|70=>h70|71=>h71|72=>h72|73=>h73|74=>h74|75=>h75|76=>h76|77=>h77|78=>h78|79=>h79|80=>h80|81=>h81|82=>h82|83=>h83|84=>h84|85=>h85|86=>h86|87=>h87|88=>h88|89=>h89|90=>h90|91=>h91|92=>h92|93=>h93|94=>h94|95=>h95|96=>h96|97=>h97|98=>h98|99=>h99|100=>h100|101=>Jdu|102=>Jdw|103=>JYh|104=>Jd0|105=>Jd2|106=>JYi|108=>Jd5|109=>Jd7|110=>JN6|111=>JeA|112=>JeC|113=>JTv|114=>JeH|115=>GV|116=>JN7|117=>JeM|118=>JTw|119=>JTx|120=>JeQ|121=>JeS|122=>JeU|123=>JTy|124=>JeX|125=>JeZ|126=>Jeb|127=>Jed|135=>Jef|136=>Jeh|137=>Jej|138=>Jel|139=>Jen|140=>h140|144=>Jeq|145=>Jes|149=>Jeu|150=>Jew|151=>Jey|153=>Je0|_=>⟨λ_=>none,λ_=>none,λ_=>none,[],false,λ_=>none,λ_=>0,0,false,λ_=>none⟩
variable[MX]
noncomputable def E:Yh:=ev Aa hints primz
noncomputable def b3:Code:=JC Tryz.f3
abbrev EQ(f n:Nat)(rs:List ResultVar)(hi:Hint)(b:Code):Prop:=∀{lo:Nat} {args:List V} {h:Heap},(_:args.length<=n:=by simp)->(_:args.all bare=true:=by rfl)->E lo f args h=fin Aa rs h.length (evCode ⟨Aa,E,lo,h.length,hi⟩ JA b (K2 args,h))
theorem EO{f nt:Nat}{fn:Func}{b:Code}{rs:List ResultVar}{hi:Hint}(hf:Aa.funcs[f]? =some fn)(hn:fn.ntmps=nt)(hname:(fn.name != "runtime.NumGoroutine")=true:=by kernel_rfl) (hcode:codeOk Aa hi nt b=true:=by kernel_rfl) (hp:primz f=none:=by exact rfl) (hb:fn.body=some b:=by exact rfl) (hh:hints f=hi:=by exact rfl) (hrs:fn.results.toList=rs:=by exact rfl) (hret:hi.ret=0:=by exact rfl) (hrr:hi.rawr=false:=by exact rfl):∀{lo:Nat} {args:List V} {h:Heap},args.length<=nt->args.all bare=true->E lo f args h=fin Aa rs h.length (evCode ⟨Aa,E,lo,h.length,hi⟩ JA b (K2 args,h)):=λha hb2=>JTM hp hf hb hn hname hh hcode hrs hret hrr ha hb2
theorem e3:EQ 3 28 [.tmp 2] h3 b3:=EO Tryz.func3 Tryz.ntmps3
noncomputable def b4:Code:=JC Tryz.f4
noncomputable def JQb:Code:=JG b4 0
noncomputable def JQc:Code:=JG b4 1
theorem e4:EQ 4 65 [.tmp 6] h4 b4:=EO Tryz.func4 Tryz.ntmps4
noncomputable def b5:Code:=JC Tryz.f5
theorem e5:EQ 5 10 [.tmp 2,.tmp 3] h5 b5:=EO Tryz.func5 Tryz.ntmps5
noncomputable def b6:Code:=JC Tryz.f6
theorem e6:EQ 6 10 [.tmp 2,.tmp 3] h6 b6:=EO Tryz.func6 Tryz.ntmps6
noncomputable def b7:Code:=JC Tryz.f7
noncomputable def kn:Code:=JG b7 0
theorem e7:EQ 7 63 [.tmp 4] h7 b7:=EO Tryz.func7 Tryz.ntmps7
noncomputable def b8:Code:=JC Tryz.f8
theorem e8:EQ 8 49 [.tmp 0] h8 b8:=EO Tryz.func8 Tryz.ntmps8
noncomputable def b9:Code:=JC Tryz.f9
noncomputable def GW:Code:=JG b9 0
theorem e9:EQ 9 130 [.tmp 2] h9 b9:=EO Tryz.func9 Tryz.ntmps9
noncomputable def b10:Code:=JC Tryz.f10
theorem e10:EQ 10 6 [.tmp 2] h10 b10:=EO Tryz.func10 Tryz.ntmps10
noncomputable def b11:Code:=JC Tryz.f11
theorem e11:EQ 11 6 [.tmp 2] h11 b11:=EO Tryz.func11 Tryz.ntmps11
noncomputable def b12:Code:=JC Tryz.f12
theorem e12:EQ 12 6 [.tmp 2] h12 b12:=EO Tryz.func12 Tryz.ntmps12
noncomputable def b13:Code:=JC Tryz.f13
noncomputable def HL:Code:=JG b13 0
theorem e13:EQ 13 42 [.tmp 4] h13 b13:=EO Tryz.func13 Tryz.ntmps13
noncomputable def b14:Code:=JC Tryz.f14
noncomputable def HN:Code:=JG b14 0
theorem e14:EQ 14 55 [.tmp 4] h14 b14:=EO Tryz.func14 Tryz.ntmps14
noncomputable def b15:Code:=JC Tryz.f15
noncomputable def WW:Code:=JG b15 0
noncomputable def Z3:Code:=JG b15 1
theorem c15:codeOk Aa h15 67 b15=true:=kr
theorem e15{lo:Nat}{args:List V}{h:Heap}(ha:args.length<=67)(hb:args.all bare=true):
  E lo 15 args h=JTL Aa [.tmp 2] h.length 3 false (evCode ⟨Aa,E,lo,h.length,h15⟩ JA b15 (K2 args,h)):=
 JA0 rfl Tryz.func15 rfl Tryz.ntmps15 kr rfl c15 rfl rfl rfl ha hb
noncomputable def b16:Code:=JC Tryz.f16
theorem c16:codeOk Aa h16 113 b16=true:=kr
theorem e16{lo:Nat}{args:List V}{h:Heap}(ha:args.length<=113)(hb:args.all bare=true):
  E lo 16 args h=JTL Aa [.cell 6 45,.tmp 7] h.length 0 true (evCode ⟨Aa,E,lo,h.length,h16⟩ JA b16 (K2 args,h)):=
 JA0 rfl Tryz.func16 rfl Tryz.ntmps16 kr rfl c16 rfl rfl rfl ha hb
noncomputable def b17:Code:=JC Tryz.f17
theorem e17:EQ 17 82 [] h17 b17:=EO Tryz.func17 Tryz.ntmps17
noncomputable def b18:Code:=JC Tryz.f18
noncomputable def JDd:Code:=JG b18 0
theorem e18:EQ 18 18 [.tmp 2] h18 b18:=EO Tryz.func18 Tryz.ntmps18
noncomputable def b19:Code:=JC Tryz.f19
noncomputable def jA:Code:=JG b19 0
theorem e19:EQ 19 56 [.tmp 2] h19 b19:=EO Tryz.func19 Tryz.ntmps19
noncomputable def j9:Code:=JC Tryz.f20
noncomputable def K9:Code:=JG j9 0
theorem e20:EQ 20 141 [.tmp 6] h20 j9:=EO Tryz.func20 Tryz.ntmps20
noncomputable def b21:Code:=JC Tryz.f21
noncomputable def Z4:Code:=JG b21 0
noncomputable def y6:Code:=JG b21 1
theorem e21:EQ 21 66 [.tmp 2] h21 b21:=EO Tryz.func21 Tryz.ntmps21
noncomputable def b22:Code:=JC Tryz.f22
noncomputable def JDe:Code:=JG b22 0
theorem e22:EQ 22 19 [.tmp 2] h22 b22:=EO Tryz.func22 Tryz.ntmps22
noncomputable def b23:Code:=JC Tryz.f23
noncomputable def jB:Code:=JG b23 0
theorem e23:EQ 23 58 [.tmp 2] h23 b23:=EO Tryz.func23 Tryz.ntmps23
noncomputable def b24:Code:=JC Tryz.f24
theorem e24:EQ 24 63 [] h24 b24:=EO Tryz.func24 Tryz.ntmps24
noncomputable def b25:Code:=JC Tryz.f25
theorem e25:EQ 25 12 [.tmp 2] h25 b25:=EO Tryz.func25 Tryz.ntmps25
noncomputable def b26:Code:=JC Tryz.f26
noncomputable def y7:Code:=JG b26 0
noncomputable def y8:Code:=JG b26 1
theorem e26:EQ 26 52 [.tmp 8,.tmp 9] h26 b26:=EO Tryz.func26 Tryz.ntmps26
noncomputable def b27:Code:=JC Tryz.f27
noncomputable def jC:Code:=JG b27 0
theorem e27:EQ 27 30 [.tmp 2] h27 b27:=EO Tryz.func27 Tryz.ntmps27
noncomputable def b28:Code:=JC Tryz.f28
theorem e28:EQ 28 29 [.tmp 6] h28 b28:=EO Tryz.func28 Tryz.ntmps28
noncomputable def b29:Code:=JC Tryz.f29
theorem e29:EQ 29 16 [.tmp 6] h29 b29:=EO Tryz.func29 Tryz.ntmps29
noncomputable def b30:Code:=JC Tryz.f30
noncomputable def Gk:Code:=JG b30 0
theorem e30:EQ 30 76 [.tmp 6] h30 b30:=EO Tryz.func30 Tryz.ntmps30
noncomputable def b31:Code:=JC Tryz.f31
noncomputable def HO:Code:=JG b31 0
noncomputable def JBO:Code:=JG b31 1
theorem e31:EQ 31 38 [] h31 b31:=EO Tryz.func31 Tryz.ntmps31
noncomputable def b32:Code:=JC Tryz.f32
theorem e32:EQ 32 45 [.tmp 4] h32 b32:=EO Tryz.func32 Tryz.ntmps32
noncomputable def b33:Code:=JC Tryz.f33
theorem e33:EQ 33 170 [.cell 2 51] h33 b33:=EO Tryz.func33 Tryz.ntmps33
noncomputable def b34:Code:=JC Tryz.f34
noncomputable def JDf:Code:=JG b34 0
theorem e34:EQ 34 22 [.tmp 2] h34 b34:=EO Tryz.func34 Tryz.ntmps34
noncomputable def b35:Code:=JC Tryz.f35
noncomputable def y9:Code:=JG b35 0
theorem e35:EQ 35 36 [.tmp 8] h35 b35:=EO Tryz.func35 Tryz.ntmps35
noncomputable def b36:Code:=JC Tryz.f36
theorem e36:EQ 36 18 [.tmp 2,.tmp 3] h36 b36:=EO Tryz.func36 Tryz.ntmps36
noncomputable def b37:Code:=JC Tryz.f37
theorem e37:EQ 37 5 [.tmp 2] h37 b37:=EO Tryz.func37 Tryz.ntmps37
noncomputable def b38:Code:=JC Tryz.f38
noncomputable def JBP:Code:=JG b38 0
noncomputable def jD:Code:=JG b38 1
theorem e38:EQ 38 36 [.tmp 2] h38 b38:=EO Tryz.func38 Tryz.ntmps38
noncomputable def b39:Code:=JC Tryz.f39
noncomputable def jG:Code:=JG b39 0
theorem e39:EQ 39 47 [.tmp 2] h39 b39:=EO Tryz.func39 Tryz.ntmps39
noncomputable def b40:Code:=JC Tryz.f40
theorem e40:EQ 40 11 [.tmp 2] h40 b40:=EO Tryz.func40 Tryz.ntmps40
noncomputable def b41:Code:=JC Tryz.f41
theorem e41:EQ 41 56 [.tmp 2] h41 b41:=EO Tryz.func41 Tryz.ntmps41
noncomputable def b42:Code:=JC Tryz.f42
noncomputable def JBQ:Code:=JG b42 0
noncomputable def zA:Code:=JG b42 1
theorem e42:EQ 42 44 [] h42 b42:=EO Tryz.func42 Tryz.ntmps42
noncomputable def b43:Code:=JC Tryz.f43
theorem e43:EQ 43 33 [.tmp 4] h43 b43:=EO Tryz.func43 Tryz.ntmps43
noncomputable def b44:Code:=JC Tryz.f44
noncomputable def K0:Code:=JG b44 0
theorem e44:EQ 44 177 [.cell 2 51] h44 b44:=EO Tryz.func44 Tryz.ntmps44
noncomputable def b45:Code:=JC Tryz.f45
noncomputable def JDg:Code:=JG b45 0
theorem e45:EQ 45 27 [.tmp 2] h45 b45:=EO Tryz.func45 Tryz.ntmps45
noncomputable def b46:Code:=JC Tryz.f46
noncomputable def JBR:Code:=JG b46 0
noncomputable def jH:Code:=JG b46 1
theorem e46:EQ 46 32 [.tmp 2] h46 b46:=EO Tryz.func46 Tryz.ntmps46
noncomputable def b47:Code:=JC Tryz.f47
noncomputable def YL:Code:=JG b47 0
noncomputable def jJ:Code:=JG b47 1
theorem e47:EQ 47 81 [.tmp 2] h47 b47:=EO Tryz.func47 Tryz.ntmps47
noncomputable def qg:Code:=JC Tryz.f48
noncomputable def JBS:Code:=JG qg 0
noncomputable def JBT:Code:=JG qg 1
theorem e48:EQ 48 152 [.cell 6 41,.tmp 7] h48 qg:=EO Tryz.func48 Tryz.ntmps48
noncomputable def b49:Code:=JC Tryz.f49
noncomputable def JBU:Code:=JG b49 0
theorem e49:EQ 49 20 [.tmp 4] h49 b49:=EO Tryz.func49 Tryz.ntmps49
noncomputable def b50:Code:=JC Tryz.f50
theorem e50:EQ 50 13 [.tmp 2] h50 b50:=EO Tryz.func50 Tryz.ntmps50
noncomputable def b51:Code:=JC Tryz.f51
noncomputable def JDh:Code:=JG b51 0
theorem e51:EQ 51 12 [] h51 b51:=EO Tryz.func51 Tryz.ntmps51
noncomputable def b52:Code:=JC Tryz.f52
noncomputable def ZS:Code:=JG b52 0
theorem e52:EQ 52 102 [.cell 2 51] h52 b52:=EO Tryz.func52 Tryz.ntmps52
noncomputable def b53:Code:=JC Tryz.f53
theorem e53:EQ 53 22 [.tmp 2] h53 b53:=EO Tryz.func53 Tryz.ntmps53
noncomputable def b54:Code:=JC Tryz.f54
theorem e54:EQ 54 9 [.tmp 2] h54 b54:=EO Tryz.func54 Tryz.ntmps54
noncomputable def b55:Code:=JC Tryz.f55
theorem e55:EQ 55 34 [.tmp 4] h55 b55:=EO Tryz.func55 Tryz.ntmps55
noncomputable def b56:Code:=JC Tryz.f56
theorem e56:EQ 56 146 [.cell 2 51] h56 b56:=EO Tryz.func56 Tryz.ntmps56
noncomputable def b57:Code:=JC Tryz.f57
theorem e57:EQ 57 13 [.tmp 2] h57 b57:=EO Tryz.func57 Tryz.ntmps57
noncomputable def b58:Code:=JC Tryz.f58
theorem e58:EQ 58 16 [.tmp 4] h58 b58:=EO Tryz.func58 Tryz.ntmps58
noncomputable def b59:Code:=JC Tryz.f59
theorem e59:EQ 59 36 [.tmp 4] h59 b59:=EO Tryz.func59 Tryz.ntmps59
noncomputable def b60:Code:=JC Tryz.f60
noncomputable def ko:Code:=JG b60 0
theorem e60:EQ 60 26 [.tmp 2] h60 b60:=EO Tryz.func60 Tryz.ntmps60
noncomputable def b61:Code:=JC Tryz.f61
noncomputable def JBW:Code:=JG b61 0
theorem e61:EQ 61 73 [.cell 2 51] h61 b61:=EO Tryz.func61 Tryz.ntmps61
noncomputable def b62:Code:=JC Tryz.f62
noncomputable def JJD:Code:=JG b62 0
theorem e62:EQ 62 90 [.tmp 2] h62 b62:=EO Tryz.func62 Tryz.ntmps62
noncomputable def b63:Code:=JC Tryz.f63
theorem e63:EQ 63 14 [.tmp 2] h63 b63:=EO Tryz.func63 Tryz.ntmps63
noncomputable def kA:Code:=JC Tryz.f64
noncomputable def Yw:Code:=JG kA 0
theorem e64:EQ 64 101 [.tmp 2,.tmp 3] h64 kA:=EO Tryz.func64 Tryz.ntmps64
noncomputable def b65:Code:=JC Tryz.f65
noncomputable def zB:Code:=JG b65 0
theorem e65:EQ 65 29 [.tmp 2] h65 b65:=EO Tryz.func65 Tryz.ntmps65
noncomputable def b66:Code:=JC Tryz.f66
noncomputable def Z5:Code:=JG b66 0
theorem e66:EQ 66 30 [.tmp 4] h66 b66:=EO Tryz.func66 Tryz.ntmps66
noncomputable def b67:Code:=JC Tryz.f67
theorem e67:EQ 67 7 [.tmp 2] h67 b67:=EO Tryz.func67 Tryz.ntmps67
noncomputable def zC:Code:=JC Tryz.f68
theorem e68:EQ 68 126 [.cell 2 41,.tmp 3] h68 zC:=EO Tryz.func68 Tryz.ntmps68
noncomputable def b69:Code:=JC Tryz.f69
theorem e69:EQ 69 17 [.tmp 2] h69 b69:=EO Tryz.func69 Tryz.ntmps69
noncomputable def b70:Code:=JC Tryz.f70
theorem e70:EQ 70 13 [.tmp 2] h70 b70:=EO Tryz.func70 Tryz.ntmps70
noncomputable def b71:Code:=JC Tryz.f71
noncomputable def JDi:Code:=JG b71 0
theorem e71:EQ 71 12 [] h71 b71:=EO Tryz.func71 Tryz.ntmps71
noncomputable def b72:Code:=JC Tryz.f72
noncomputable def ZT:Code:=JG b72 0
theorem e72:EQ 72 79 [.cell 4 51] h72 b72:=EO Tryz.func72 Tryz.ntmps72
noncomputable def b73:Code:=JC Tryz.f73
theorem e73:EQ 73 13 [.tmp 2] h73 b73:=EO Tryz.func73 Tryz.ntmps73
noncomputable def b74:Code:=JC Tryz.f74
theorem e74:EQ 74 11 [.tmp 4] h74 b74:=EO Tryz.func74 Tryz.ntmps74
noncomputable def b75:Code:=JC Tryz.f75
theorem e75:EQ 75 27 [.tmp 6] h75 b75:=EO Tryz.func75 Tryz.ntmps75
noncomputable def b76:Code:=JC Tryz.f76
noncomputable def kp:Code:=JG b76 0
theorem e76:EQ 76 44 [.tmp 2] h76 b76:=EO Tryz.func76 Tryz.ntmps76
noncomputable def b77:Code:=JC Tryz.f77
theorem e77:EQ 77 25 [.tmp 6] h77 b77:=EO Tryz.func77 Tryz.ntmps77
noncomputable def zq:Code:=JC Tryz.f78
theorem e78:EQ 78 122 [.cell 2 51] h78 zq:=EO Tryz.func78 Tryz.ntmps78
noncomputable def b79:Code:=JC Tryz.f79
noncomputable def JBY:Code:=JG b79 0
theorem e79:EQ 79 55 [.cell 2 51] h79 b79:=EO Tryz.func79 Tryz.ntmps79
noncomputable def b80:Code:=JC Tryz.f80
theorem e80:EQ 80 6 [.tmp 2] h80 b80:=EO Tryz.func80 Tryz.ntmps80
noncomputable def b81:Code:=JC Tryz.f81
noncomputable def kq:Code:=JG b81 0
theorem e81:EQ 81 81 [.tmp 4,.tmp 5,.tmp 6] h81 b81:=EO Tryz.func81 Tryz.ntmps81
noncomputable def b82:Code:=JC Tryz.f82
theorem e82:EQ 82 7 [.tmp 2] h82 b82:=EO Tryz.func82 Tryz.ntmps82
noncomputable def b83:Code:=JC Tryz.f83
theorem e83:EQ 83 52 [] h83 b83:=EO Tryz.func83 Tryz.ntmps83
noncomputable def b84:Code:=JC Tryz.f84
theorem e84:EQ 84 8 [.tmp 4] h84 b84:=EO Tryz.func84 Tryz.ntmps84
noncomputable def b85:Code:=JC Tryz.f85
noncomputable def JDj:Code:=JG b85 0
theorem e85:EQ 85 23 [.tmp 2] h85 b85:=EO Tryz.func85 Tryz.ntmps85
noncomputable def b86:Code:=JC Tryz.f86
noncomputable def JBZ:Code:=JG b86 0
theorem e86:EQ 86 50 [.tmp 2] h86 b86:=EO Tryz.func86 Tryz.ntmps86
noncomputable def b87:Code:=JC Tryz.f87
noncomputable def JDk:Code:=JG b87 0
theorem e87:EQ 87 15 [] h87 b87:=EO Tryz.func87 Tryz.ntmps87
noncomputable def b88:Code:=JC Tryz.f88
noncomputable def JJH:Code:=JG b88 0
theorem e88:EQ 88 67 [.cell 2 49,.tmp 3,.tmp 4] h88 b88:=EO Tryz.func88 Tryz.ntmps88
noncomputable def b89:Code:=JC Tryz.f89
theorem e89:EQ 89 25 [.tmp 2] h89 b89:=EO Tryz.func89 Tryz.ntmps89
noncomputable def b90:Code:=JC Tryz.f90
theorem e90:EQ 90 9 [.tmp 4] h90 b90:=EO Tryz.func90 Tryz.ntmps90
noncomputable def b91:Code:=JC Tryz.f91
noncomputable def l91x0:Code:=JG b91 0
theorem e91:EQ 91 95 [.cell 2 51] h91 b91:=EO Tryz.func91 Tryz.ntmps91
noncomputable def b92:Code:=JC Tryz.f92
theorem e92:EQ 92 10 [.tmp 4] h92 b92:=EO Tryz.func92 Tryz.ntmps92
noncomputable def b93:Code:=JC Tryz.f93
noncomputable def JBa:Code:=JG b93 0
theorem e93:EQ 93 70 [.tmp 2] h93 b93:=EO Tryz.func93 Tryz.ntmps93
noncomputable def b94:Code:=JC Tryz.f94
theorem e94:EQ 94 25 [.tmp 2] h94 b94:=EO Tryz.func94 Tryz.ntmps94
noncomputable def b95:Code:=JC Tryz.f95
theorem e95:EQ 95 9 [.tmp 2] h95 b95:=EO Tryz.func95 Tryz.ntmps95
noncomputable def b96:Code:=JC Tryz.f96
noncomputable def JDl:Code:=JG b96 0
theorem e96:EQ 96 12 [] h96 b96:=EO Tryz.func96 Tryz.ntmps96
noncomputable def zX:Code:=JC Tryz.f97
noncomputable def JJJ:Code:=JG zX 0
theorem e97:EQ 97 153 [.cell 2 49,.tmp 3,.tmp 4] h97 zX:=EO Tryz.func97 Tryz.ntmps97
noncomputable def qh:Code:=JC Tryz.f98
noncomputable def K5:Code:=JG qh 0
theorem e98:EQ 98 91 [.cell 2 51] h98 qh:=EO Tryz.func98 Tryz.ntmps98
noncomputable def b99:Code:=JC Tryz.f99
noncomputable def JJK:Code:=JG b99 0
theorem e99:EQ 99 79 [.tmp 2] h99 b99:=EO Tryz.func99 Tryz.ntmps99
noncomputable def JGp:Code:=JC Tryz.f100
theorem JlV:EQ 100 38 [.tmp 2,.tmp 3,.tmp 4] h100 JGp:=EO Tryz.func100 Tryz.ntmps100
noncomputable def JYo:Code:=JC Tryz.f101
theorem JlW:EQ 101 18 [.tmp 4] Jdu JYo:=EO Tryz.func101 Tryz.ntmps101
noncomputable def JQh:Code:=JC Tryz.f102
theorem JlX:EQ 102 28 [.tmp 2] Jdw JQh:=EO Tryz.func102 Tryz.ntmps102
noncomputable def YT:Code:=JC Tryz.f103
noncomputable def JBb:Code:=JG YT 0
theorem JlY:EQ 103 135 [.cell 2 124,.tmp 3] JYh YT:=EO Tryz.func103 Tryz.ntmps103
noncomputable def JYp:Code:=JC Tryz.f104
theorem JlZ:EQ 104 37 [.tmp 4] Jd0 JYp:=EO Tryz.func104 Tryz.ntmps104
noncomputable def JYq:Code:=JC Tryz.f105
theorem Jla:EQ 105 37 [.tmp 4] Jd2 JYq:=EO Tryz.func105 Tryz.ntmps105
noncomputable def Qe:Code:=JC Tryz.f106
noncomputable def jh:Code:=JG Qe 0
noncomputable def Zf:Code:=JG Qe 1
noncomputable def Yx:Code:=JG Qe 2
theorem Jlb:EQ 106 58 [.cell 6 49] JYi Qe:=EO Tryz.func106 Tryz.ntmps106
noncomputable def Jlc:Code:=JC Tryz.f108
theorem Jqx:EQ 108 13 [.tmp 2] Jd5 Jlc:=EO Tryz.func108 Tryz.ntmps108
noncomputable def JYr:Code:=JC Tryz.f109
theorem Jld:EQ 109 21 [.cell 2 51] Jd7 JYr:=EO Tryz.func109 Tryz.ntmps109
noncomputable def zY:Code:=JC Tryz.f110
noncomputable def Ww:Code:=JG zY 0
theorem Jle:EQ 110 53 [.cell 2 51] JN6 zY:=EO Tryz.func110 Tryz.ntmps110
noncomputable def Je3:Code:=JC Tryz.f111
theorem Jlf:EQ 111 25 [.tmp 2] JeA Je3:=EO Tryz.func111 Tryz.ntmps111
noncomputable def JQi:Code:=JC Tryz.f112
theorem Jlg:EQ 112 29 [.tmp 2,.tmp 3] JeC JQi:=EO Tryz.func112 Tryz.ntmps112
noncomputable def JCk:Code:=JC Tryz.f113
noncomputable def GX:Code:=JG JCk 0
theorem Jlh:EQ 113 18 [.tmp 4] JTv JCk:=EO Tryz.func113 Tryz.ntmps113
noncomputable def Je4:Code:=JC Tryz.f114
theorem Jli:EQ 114 2 [.cell 0 49] JeH Je4:=EO Tryz.func114 Tryz.ntmps114
noncomputable def J8:Code:=JC Tryz.f115
noncomputable def yC:Code:=JG J8 0
noncomputable def JBc:Code:=JG J8 1
noncomputable def JBd:Code:=JG J8 2
noncomputable def ji:Code:=JG J8 3
noncomputable def yD:Code:=JG J8 4
noncomputable def GY:Code:=JG J8 5
noncomputable def JBe:Code:=JG J8 6
noncomputable def Zg:Code:=JG J8 7
theorem Jlj:EQ 115 132 [.cell 6 49] GV J8:=EO Tryz.func115 Tryz.ntmps115
noncomputable def zZ:Code:=JC Tryz.f116
noncomputable def Wx:Code:=JG zZ 0
theorem Jlk:EQ 116 26 [.cell 2 51] JN7 zZ:=EO Tryz.func116 Tryz.ntmps116
noncomputable def Je5:Code:=JC Tryz.f117
theorem Jll:EQ 117 25 [.tmp 2] JeM Je5:=EO Tryz.func117 Tryz.ntmps117
noncomputable def JJL:Code:=JC Tryz.f118
noncomputable def jj:Code:=JG JJL 0
theorem Jlm:EQ 118 23 [.tmp 2] JTw JJL:=EO Tryz.func118 Tryz.ntmps118
noncomputable def JLK:Code:=JC Tryz.f119
noncomputable def yG:Code:=JG JLK 0
theorem Jln:EQ 119 17 [.tmp 4] JTx JLK:=EO Tryz.func119 Tryz.ntmps119
noncomputable def Je6:Code:=JC Tryz.f120
noncomputable def Jlo:Code:=JG Je6 0
theorem Jqy:EQ 120 21 [.cell 2 139,.tmp 3] JeQ Je6:=EO Tryz.func120 Tryz.ntmps120
noncomputable def Je7:Code:=JC Tryz.f121
noncomputable def Jlp:Code:=JG Je7 0
theorem Jqz:EQ 121 16 [.tmp 4] JeS Je7:=EO Tryz.func121 Tryz.ntmps121
noncomputable def Je8:Code:=JC Tryz.f122
noncomputable def Jlq:Code:=JG Je8 0
theorem Jq0:EQ 122 23 [.tmp 4] JeU Je8:=EO Tryz.func122 Tryz.ntmps122
noncomputable def JLL:Code:=JC Tryz.f123
noncomputable def yH:Code:=JG JLL 0
theorem Jlr:EQ 123 23 [.tmp 4] JTy JLL:=EO Tryz.func123 Tryz.ntmps123
noncomputable def Je9:Code:=JC Tryz.f124
noncomputable def Jls:Code:=JG Je9 0
theorem Jq1:EQ 124 22 [.tmp 4] JeX Je9:=EO Tryz.func124 Tryz.ntmps124
noncomputable def JfA:Code:=JC Tryz.f125
noncomputable def Jlt:Code:=JG JfA 0
theorem Jq2:EQ 125 34 [.tmp 4] JeZ JfA:=EO Tryz.func125 Tryz.ntmps125
noncomputable def JYs:Code:=JC Tryz.f126
theorem Jlu:EQ 126 30 [.cell 6 49] Jeb JYs:=EO Tryz.func126 Tryz.ntmps126
noncomputable def Jlv:Code:=JC Tryz.f127
theorem Jq3:EQ 127 19 [.tmp 2,.tmp 3] Jed Jlv:=EO Tryz.func127 Tryz.ntmps127
noncomputable def JfB:Code:=JC Tryz.f135
theorem Jlw:EQ 135 9 [.tmp 2] Jef JfB:=EO Tryz.func135 Tryz.ntmps135
noncomputable def JfC:Code:=JC Tryz.f136
theorem Jlx:EQ 136 5 [.cell 2 49] Jeh JfC:=EO Tryz.func136 Tryz.ntmps136
noncomputable def Jly:Code:=JC Tryz.f137
theorem Jq4:EQ 137 10 [.tmp 4] Jej Jly:=EO Tryz.func137 Tryz.ntmps137
noncomputable def Jlz:Code:=JC Tryz.f138
theorem Jq5:EQ 138 9 [.tmp 4] Jel Jlz:=EO Tryz.func138 Tryz.ntmps138
noncomputable def JfD:Code:=JC Tryz.f139
noncomputable def Jl0:Code:=JG JfD 0
theorem Jq6:EQ 139 51 [.tmp 2,.tmp 3] Jen JfD:=EO Tryz.func139 Tryz.ntmps139
noncomputable def Jl1:Code:=JC Tryz.f140
theorem Jq7:EQ 140 117 [.tmp 2,.tmp 3] h140 Jl1:=EO Tryz.func140 Tryz.ntmps140
noncomputable def JN9:Code:=JC Tryz.f144
noncomputable def Jl2:Code:=JG JN9 0
noncomputable def Jl3:Code:=JG JN9 1
noncomputable def Jl4:Code:=JG JN9 2
noncomputable def Jl5:Code:=JG JN9 3
noncomputable def Jl6:Code:=JG JN9 4
theorem Jq8:EQ 144 187 [.tmp 4] Jeq JN9:=EO Tryz.func144 Tryz.ntmps144
noncomputable def Jl7:Code:=JC Tryz.f145
theorem Jq9:EQ 145 6 [.tmp 2] Jes Jl7:=EO Tryz.func145 Tryz.ntmps145
noncomputable def Jl8:Code:=JC Tryz.f149
theorem JrA:EQ 149 8 [.tmp 4] Jeu Jl8:=EO Tryz.func149 Tryz.ntmps149
noncomputable def Jl9:Code:=JC Tryz.f150
theorem JrB:EQ 150 17 [.tmp 2] Jew Jl9:=EO Tryz.func150 Tryz.ntmps150
noncomputable def JmA:Code:=JC Tryz.f151
theorem JrC:EQ 151 6 [.tmp 2] Jey JmA:=EO Tryz.func151 Tryz.ntmps151
noncomputable def JmB:Code:=JC Tryz.f153
theorem JrD:EQ 153 8 [.tmp 4] Je0 JmB:=EO Tryz.func153 Tryz.ntmps153
end Go.Lift.W1
