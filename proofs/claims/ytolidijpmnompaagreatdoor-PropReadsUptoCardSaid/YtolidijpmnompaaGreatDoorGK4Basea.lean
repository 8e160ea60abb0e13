/- Facts of the program that the evaluation asks for: the live slots of each function, its types. Written by a program (gen.py). -/
import Derived.Test.YtolidijpmnompaaGreatDoorRows
import Derived.Lib.TrimAscii
import Derived.Shelf.Strings.Fields
import Derived.Test.YtolidijpmnompaaGreatDoorGLd
import Derived.Test.YtolidijpmnompaaGreatDoorGKa
open ByteArray renaming empty->AQ
open Go.Proofs.Tryz renaming prog->Aa
set_option linter.unusedVariables false
set_option linter.unusedSimpArgs false
set_option linter.unusedSectionVars false
set_option maxRecDepth 20000
namespace Go.Lift.Y1
open Go.Proofs
instance gtab:GTab:=⟨λn=>match n with|1=>some ((List.range 256).map λc=>V.v (.int .u8 (if Go.Lib.isSp (UInt8.ofNat c)then 1 else 0)))|0=>some [.v (.int .i64 21),.v (.int .i64 22),.v (.int .i64 19),.v (.int .i64 20),.v (.int .i64 23),.v (.int .i64 24),.v (.int .i64 18),.v (.int .i64 16),.v (.int .i64 17)]|_=>none⟩
noncomputable def Hb(lo:Nat)(args:List V)(h:JG):Option (V×JG):=match args with
 |[.v (.string s)]=>if s.size<4294967281/\(s.data.toList.all λb=>decide (b.toNat<128))=true then some (.list .no ((Go.Lib.fields s.data.toList).map λl=>[.v (.string ⟨l.toArray⟩)]),h)else none
 |_=>none
noncomputable def JXM(lo:Nat)(args:List V)(h:JG):Option (V×JG):=match args with
 |[.agg [.v (.int .u64 a),.v (.int .u64 x)],.agg [.v (.int .u64 b),.v (.int .u64 y)]]=>if a=0/\b=0/\0<=y/\y<=x/\x<18446744073709551616 then some (.agg [.v (.int .u64 0),.v (.int .u64 (x-y))],h)else none
 |_=>none
noncomputable def primz0:Nat->Option (Nat->List V->JG->Option (V×JG)):=λn=>match n with|52=>some Hb|127=>some JXM|_=>none
def wd(a b:Int):V:= .agg [.v (.int .u64 a),.v (.int .u64 b)]
def rt(a b:Int):V:= .agg [.v (.int .i64 a),.v (.int .i64 b)]
def twM:List (List V×V):=[([wd 0 0],wd 0 0),([wd 0 1],wd 0 2),([wd 0 2],wd 0 4),([wd 0 3],wd 0 6)]
def lsM:List (List V×V):=[([wd 0 0,wd 0 1],.v (.bool true)),([wd 0 1,wd 0 1],.v (.bool false))]
def gcM:List (List V×V):=[([wd 0 6,wd 0 5],wd 0 1),([wd 0 1,wd 0 1],wd 0 1),([wd 0 0,wd 0 1],wd 0 1)]
def dvM:List (List V×V):=[([wd 0 6,wd 0 1],wd 0 6),([wd 0 5,wd 0 1],wd 0 5),([wd 0 1,wd 0 1],wd 0 1),([wd 0 0,wd 0 1],wd 0 0)]
def qM:List (List V×V):=[([.v (.int .i64 6),.v (.int .i64 5)],rt 6 5),([.v (.int .i64 1),.v (.int .i64 1)],rt 1 1),([.v (.int .i64 0),.v (.int .i64 1)],rt 0 1)]
noncomputable def primA:Nat->Option (Nat->List V->JG->Option (V×JG)):=λn=>match n with|128=>some (HT twM)|126=>some (HT lsM)|52=>some Hb|127=>some JXM|_=>none
noncomputable def primB:Nat->Option (Nat->List V->JG->Option (V×JG)):=λn=>match n with|104=>some (HT gcM)|105=>some (HT dvM)|52=>some Hb|127=>some JXM|_=>none
def JT6:List (List V×V):=[([],.v (.bool true))]
noncomputable def primz:Nat->Option (Nat->List V->JG->Option (V×JG)):=λn=>match n with|5=>some (HT JT6)|52=>some Hb|45=>some (HT qM)|_=>none
instance bty:BTy:=⟨[],some 5⟩
@[go_sem] theorem JtJ:BTy.bt=[]:=rfl
@[go_sem] theorem JtK:(BTy.bt.isEmpty)=true:=rfl
@[go_sem] theorem JvV(n:Nat):JPm n=none:=rfl
@[go_sem] theorem JtL:BTy.bb=some 5:=rfl
@[go_sem] theorem Jli:((5:TypeId)==5)=true:=rfl
abbrev FT(t a:Nat)(b:Option Bool)(c:Nat)(d e f:Bool)(g:List Value):Prop:=JH Aa t=a∧Qq Aa t=b∧Aa.bytesOf t=c∧Zr Aa t=d∧H0 Aa t=e∧Hv Aa t=f∧K4 Aa t=some g∧(Aa.info? t).isSome=true
theorem FK{t a:Nat}{b:Option Bool}{c:Nat}{d e f:Bool}{g:List Value}(h1:JH Aa t=a:=by kernel_rfl)(h2:Qq Aa t=b:=by kernel_rfl)(h3:Aa.bytesOf t=c:=by kernel_rfl)(h4:Zr Aa t=d:=by kernel_rfl)(h5:H0 Aa t=e:=by kernel_rfl)(h6:Hv Aa t=f:=by kernel_rfl)(h7:K4 Aa t=some g:=by kernel_rfl)(h8:(Aa.info? t).isSome=true:=by kernel_rfl):FT t a b c d e f g:=⟨h1,h2,h3,h4,h5,h6,h7,h8⟩
attribute [go_sem] Tryz.underlying2 Tryz.underlying3 Tryz.underlying4 Tryz.underlying5 Tryz.underlying9 Tryz.underlying21 Tryz.underlying22 Tryz.underlying24 Tryz.underlying26 Tryz.underlying28 Tryz.underlying30 Tryz.underlying32 Tryz.underlying33 Tryz.underlying35 Tryz.underlying37 Tryz.underlying39 Tryz.underlying41 Tryz.underlying42 Tryz.underlying53 Tryz.underlying55 Tryz.underlying56 Tryz.underlying60 Tryz.underlying62 Tryz.underlying88 Tryz.underlying93 Tryz.underlying94 Tryz.underlying102 Tryz.underlying103 Tryz.underlying113 Tryz.underlying115 Tryz.underlying118 Tryz.underlying120 Tryz.underlying137 Tryz.underlying149 Tryz.underlying157 Tryz.underlying180
@[go_sem] theorem z2:FT 2 1 (some false) 8 false false false [.int .i64 0]:=FK
@[go_sem] theorem z3:FT 3 1 (some false) 8 false false false [.int .i64 0]:=FK
@[go_sem] theorem z4:FT 4 1 (some false) 1 false false false [.bool false]:=FK
@[go_sem] theorem z5:FT 5 1 (some false) 1 false false true [.int .u8 0]:=FK
@[go_sem] theorem z9:FT 9 1 (some false) 16 true false false [.string AQ]:=FK
@[go_sem] theorem z21:FT 21 1 (some false) 4 false true false [.int .i32 0]:=FK
@[go_sem] theorem z22:FT 22 1 (some false) 24 false false false [.slice none 0 0]:=FK
@[go_sem] theorem z24:FT 24 1 (some false) 24 false false false [.slice none 0 0]:=FK
@[go_sem] theorem z26:FT 26 1 (some false) 24 false false false [.slice none 0 0]:=FK
@[go_sem] theorem z28:FT 28 2 (some true) 16 false false false [.int .i64 0,.int .i64 0]:=FK
@[go_sem] theorem x28:structOk Aa 28=true:=kr
@[go_sem] theorem JtM:JT Aa 28 0=some (0,2):=kr
@[go_sem] theorem JtN:JT Aa 28 1=some (1,2):=kr
@[go_sem] theorem z30:FT 30 4 (some true) 40 false false false [.int .i64 0,.int .i64 0,.int .i64 0,.string AQ]:=FK
@[go_sem] theorem x30:structOk Aa 30=true:=kr
@[go_sem] theorem JtO:JT Aa 30 0=some (0,3):=kr
@[go_sem] theorem JtP:JT Aa 30 1=some (1,28):=kr
@[go_sem] theorem JtQ:JT Aa 30 2=some (3,9):=kr
@[go_sem] theorem z32:FT 32 9 (some true) 96 false false false [.string AQ,.int .i64 0,.bool false,.bool false,.slice none 0 0,.int .i64 0,.int .i64 0,.int .i64 0,.string AQ]:=FK
@[go_sem] theorem x32:structOk Aa 32=true:=kr
@[go_sem] theorem JtR:JT Aa 32 0=some (0,9):=kr
@[go_sem] theorem JtS:JT Aa 32 1=some (1,3):=kr
@[go_sem] theorem JtT:JT Aa 32 2=some (2,4):=kr
@[go_sem] theorem JtU:JT Aa 32 3=some (3,4):=kr
@[go_sem] theorem JtV:JT Aa 32 4=some (4,26):=kr
@[go_sem] theorem JtW:JT Aa 32 5=some (5,30):=kr
@[go_sem] theorem z33:FT 33 1 (some false) 24 false false false [.slice none 0 0]:=FK
@[go_sem] theorem z35:FT 35 1 (some false) 24 false false false [.slice none 0 0]:=FK
@[go_sem] theorem z37:FT 37 1 (some false) 24 false false false [.slice none 0 0]:=FK
@[go_sem] theorem z39:FT 39 5 (some true) 56 false false false [.int .i64 0,.int .i64 0,.int .i64 0,.int .i64 0,.slice none 0 0]:=FK
@[go_sem] theorem x39:structOk Aa 39=true:=kr
@[go_sem] theorem JtX:JT Aa 39 0=some (0,3):=kr
@[go_sem] theorem JtY:JT Aa 39 1=some (1,28):=kr
@[go_sem] theorem JtZ:JT Aa 39 2=some (3,3):=kr
@[go_sem] theorem Jta:JT Aa 39 3=some (4,37):=kr
@[go_sem] theorem z41:FT 41 8 (some true) 104 false false false [.int .i64 0,.int .i64 0,.int .i64 0,.int .i64 0,.int .i64 0,.slice none 0 0,.string AQ,.slice none 0 0]:=FK
@[go_sem] theorem x41:structOk Aa 41=true:=kr
@[go_sem] theorem Jtb:JT Aa 41 0=some (0,3):=kr
@[go_sem] theorem Jtc:JT Aa 41 1=some (1,39):=kr
@[go_sem] theorem Jtd:JT Aa 41 2=some (6,9):=kr
@[go_sem] theorem Jte:JT Aa 41 3=some (7,35):=kr
@[go_sem] theorem z42:FT 42 1 (some false) 8 false false false [.int .i64 0]:=FK
@[go_sem] theorem z53:FT 53 6 (some true) 48 false false false [.int .i64 0,.string AQ,.int .i64 0,.int .i64 0,.bool false,.bool false]:=FK
@[go_sem] theorem x53:structOk Aa 53=true:=kr
@[go_sem] theorem Jtf:JT Aa 53 0=some (0,3):=kr
@[go_sem] theorem Jtg:JT Aa 53 1=some (1,9):=kr
@[go_sem] theorem Jth:JT Aa 53 2=some (2,28):=kr
@[go_sem] theorem Jti:JT Aa 53 3=some (4,4):=kr
@[go_sem] theorem Jtj:JT Aa 53 4=some (5,4):=kr
@[go_sem] theorem z55:FT 55 7 (some true) 72 false false false [.int .i64 0,.string AQ,.int .i64 0,.int .i64 0,.bool false,.bool false,.slice none 0 0]:=FK
@[go_sem] theorem x55:structOk Aa 55=true:=kr
@[go_sem] theorem Jtk:JT Aa 55 0=some (0,53):=kr
@[go_sem] theorem Jtl:JT Aa 55 1=some (6,33):=kr
@[go_sem] theorem z56:FT 56 1 (some false) 24 false false false [.slice none 0 0]:=FK
@[go_sem] theorem z60:FT 60 7 (some true) 72 false false false [.int .i64 0,.string AQ,.int .i64 0,.int .i64 0,.bool false,.bool false,.slice none 0 0]:=FK
@[go_sem] theorem x60:structOk Aa 60=true:=kr
@[go_sem] theorem Jtm:JT Aa 60 0=some (0,53):=kr
@[go_sem] theorem Jtn:JT Aa 60 1=some (6,33):=kr
@[go_sem] theorem z62:FT 62 1 (some false) 24 false false false [.slice none 0 0]:=FK
attribute [go_sem] Tryz.underlying86
@[go_sem] theorem z86:JH Aa 86=1:=kr
@[go_sem] theorem k86:Qq Aa 86=some false:=kr
@[go_sem] theorem y86:Aa.bytesOf 86=8:=kr
@[go_sem] theorem s86:Zr Aa 86=false:=kr
@[go_sem] theorem j86:H0 Aa 86=false:=kr
@[go_sem] theorem w86:Hv Aa 86=false:=kr
@[go_sem] theorem i86:(Aa.info? 86).isSome=true:=kr
@[go_sem] theorem z88:FT 88 2 (some true) 32 false false false [.slice none 0 0,.int .i64 0]:=FK
@[go_sem] theorem x88:structOk Aa 88=true:=kr
@[go_sem] theorem Jto:JT Aa 88 0=some (0,62):=kr
@[go_sem] theorem Jtp:JT Aa 88 1=some (1,3):=kr
@[go_sem] theorem z93:FT 93 8 (some true) 80 false false false [.string AQ,.int .i64 0,.bool false,.bool false,.string AQ,.string AQ,.int .i64 0,.int .i64 0]:=FK
@[go_sem] theorem x93:structOk Aa 93=true:=kr
@[go_sem] theorem Jtq:JT Aa 93 0=some (0,9):=kr
@[go_sem] theorem Jtr:JT Aa 93 1=some (1,3):=kr
@[go_sem] theorem Jts:JT Aa 93 2=some (2,4):=kr
@[go_sem] theorem Jtt:JT Aa 93 3=some (3,4):=kr
@[go_sem] theorem Jtu:JT Aa 93 4=some (4,9):=kr
@[go_sem] theorem Jtv:JT Aa 93 5=some (5,9):=kr
@[go_sem] theorem Jtw:JT Aa 93 6=some (6,2):=kr
@[go_sem] theorem Jtx:JT Aa 93 7=some (7,2):=kr
@[go_sem] theorem z94:FT 94 1 (some false) 24 false false false [.slice none 0 0]:=FK
attribute [go_sem] Tryz.underlying99
@[go_sem] theorem z99:JH Aa 99=1:=kr
@[go_sem] theorem k99:Qq Aa 99=some false:=kr
@[go_sem] theorem y99:Aa.bytesOf 99=8:=kr
@[go_sem] theorem s99:Zr Aa 99=false:=kr
@[go_sem] theorem j99:H0 Aa 99=false:=kr
@[go_sem] theorem w99:Hv Aa 99=false:=kr
@[go_sem] theorem i99:(Aa.info? 99).isSome=true:=kr
@[go_sem] theorem JvX:FT 102 2 (some true) 32 false false false [.slice none 0 0,.int .i64 0]:=FK
@[go_sem] theorem JvY:structOk Aa 102=true:=kr
@[go_sem] theorem Jop:JT Aa 102 0=some (0,33):=kr
@[go_sem] theorem Joq:JT Aa 102 1=some (1,3):=kr
@[go_sem] theorem JvZ:FT 103 1 (some false) 24 false false false [.slice none 0 0]:=FK
@[go_sem] theorem Jva:FT 113 3 (some true) 24 false false false [.int .i64 0,.int .i64 0,.int .i64 0]:=FK
@[go_sem] theorem Jvb:FT 115 1 (some false) 8 false false false [.int .u64 0]:=FK
@[go_sem] theorem Jvc:FT 118 2 (some true) 16 false false false [.int .u64 0,.int .u64 0]:=FK
@[go_sem] theorem Jvd:structOk Aa 118=true:=kr
@[go_sem] theorem Jor:JT Aa 118 0=some (0,115):=kr
@[go_sem] theorem Jos:JT Aa 118 1=some (1,115):=kr
@[go_sem] theorem Jve:FT 120 9 (some true) 72 false false false [.int .i64 0,.int .i64 0,.int .i64 0,.int .i64 0,.int .i64 0,.int .i64 0,.int .i64 0,.int .i64 0,.int .i64 0]:=FK
attribute [go_sem] Tryz.underlying129
@[go_sem] theorem Jvf:JH Aa 129=1:=kr
@[go_sem] theorem Jvg:Qq Aa 129=some false:=kr
@[go_sem] theorem Jvh:Aa.bytesOf 129=8:=kr
@[go_sem] theorem Jvi:Zr Aa 129=false:=kr
@[go_sem] theorem Jvj:H0 Aa 129=false:=kr
@[go_sem] theorem Jvk:Hv Aa 129=false:=kr
@[go_sem] theorem Jvl:(Aa.info? 129).isSome=true:=kr
@[go_sem] theorem Jvm:FT 137 1 (some false) 24 false false false [.slice none 0 0]:=FK
@[go_sem] theorem Jvn:FT 149 1 (some false) 8 false false false [.int .u64 0]:=FK
@[go_sem] theorem Jvo:FT 157 8 (some true) 128 false false false [.string AQ,.string AQ,.string AQ,.string AQ,.string AQ,.string AQ,.string AQ,.string AQ]:=FK
attribute [go_sem] Tryz.underlying178
@[go_sem] theorem Jvp:JH Aa 178=1:=kr
@[go_sem] theorem Jvq:Qq Aa 178=some false:=kr
@[go_sem] theorem Jvr:Aa.bytesOf 178=8:=kr
@[go_sem] theorem Jvs:Zr Aa 178=false:=kr
@[go_sem] theorem Jvt:H0 Aa 178=false:=kr
@[go_sem] theorem Jvu:Hv Aa 178=false:=kr
@[go_sem] theorem Jvv:(Aa.info? 178).isSome=true:=kr
@[go_sem] theorem Jvw:FT 180 2 (some true) 32 false false false [.slice none 0 0,.int .i64 0]:=FK
@[go_sem] theorem Jvx:structOk Aa 180=true:=kr
@[go_sem] theorem Jot:JT Aa 180 0=some (0,33):=kr
@[go_sem] theorem Jou:JT Aa 180 1=some (1,3):=kr
def LL:List (List Nat)->Nat->Option (List Nat)
|[],_=>none
|a::_,0=>some a
|_::l,n+1=>LL l n
attribute [go_sem] LL
def HH:List Nat->Tr->Tr
|[],t=>t
|a::l,t=> .head a (HH l t)
attribute [go_sem] HH
abbrev LT:Type:=Nat->Option (List Nat)
def HM(a:LT)(k t:Nat->Option Nat)(v:List Nat)(m:Bool)(x:Nat->Option Mix)(o:Option Nat->Nat)(r:Nat)(w:Bool)(e:Nat->Option Nat):Hint:=⟨a,k,t,v,m,x,o,r,w,e⟩
section
variable(a:LT)(k t:Nat->Option Nat)(v:List Nat)(m:Bool)(x:Nat->Option Mix)(o:Option Nat->Nat)(r:Nat)(w:Bool)(e:Nat->Option Nat)
@[go_sem] theorem HMl:(HM a k t v m x o r w e).live=a:=rfl
@[go_sem] theorem HMk:(HM a k t v m x o r w e).keep=k:=rfl
@[go_sem] theorem HMt:(HM a k t v m x o r w e).tail=t:=rfl
@[go_sem] theorem HMv:(HM a k t v m x o r w e).vars=v:=rfl
@[go_sem] theorem HMm:(HM a k t v m x o r w e).mutc=m:=rfl
@[go_sem] theorem HMx:(HM a k t v m x o r w e).mix=x:=rfl
@[go_sem] theorem HMo:(HM a k t v m x o r w e).mode=o:=rfl
@[go_sem] theorem HMe:(HM a k t v m x o r w e).late=e:=rfl
end
abbrev NN:Nat->Option Nat:=λ_=>none
abbrev NM:Nat->Option Mix:=λ_=>none
def HQ(a:Nat->Option (List Nat)):Hint:=⟨a,(λ_=>none),(λ_=>none),[],false,(λ_=>none),λ_=>0,0,false,(λ_=>none)⟩
@[go_sem] theorem HQe(a:Nat->Option (List Nat)):(HQ a).late=(λ_=>none):=rfl
@[go_sem] theorem HQx(a:Nat->Option (List Nat)):(HQ a).mix=(λ_=>none):=rfl
@[go_sem] theorem HQl(a:Nat->Option (List Nat)):(HQ a).live=a:=rfl
@[go_sem] theorem HQo(a:Nat->Option (List Nat)):(HQ a).mode=λ_=>0:=rfl
@[go_sem] theorem HQk(a:Nat->Option (List Nat)):(HQ a).keep=(λ_=>none):=rfl
@[go_sem] theorem HQt(a:Nat->Option (List Nat)):(HQ a).tail=(λ_=>none):=rfl
@[go_sem] theorem HQv(a:Nat->Option (List Nat)):(HQ a).vars=[]:=rfl
@[go_sem] theorem HQm(a:Nat->Option (List Nat)):(HQ a).mutc=false:=rfl
@[go_sem] def h3a:LT:=λk=>LL [[0,1],[0,1,14],[4],[0,1,5],[1,6],[6,7],[6,7,8,9],[8,9,10,11],[4]] k
abbrev h3:Hint:=HQ h3a
@[go_sem] def h4a:LT:=λk=>LL [[0,1],[0,1,5,6],[0,1,5,6,7,8],[4]] k
abbrev h4:Hint:=HQ h4a
@[go_sem] def h5a:LT:=λk=>LL [[],[1,2],[0]] k
abbrev h5:Hint:=HQ h5a
@[go_sem] def h6a:LT:=λk=>LL [[],[1],[0]] k
abbrev h6:Hint:=HQ h6a
@[go_sem] def h7a:LT:=λk=>LL [[0],[0,3],[3,9,10,11],[3,9,10,11,12],[3,5,9,10,11],[3,5,6,9,10,11],[3,5,6,9,10,11,31],[3,9,10,11],[3,5,6,9,10,11,37],[3,9,10,11],[3,9,10,11],[3,9,10,11],[3,59],[3,9,10,11],[2]] k
@[go_sem] def h7M:Nat->Option Mix:=λ|10=>some ⟨[0,1,2,3,4,5,6,7,8],[],HH [0,1,2,3,4,5,6,7,8] (.two 9)⟩|_=>none
abbrev h7:Hint:=HM h7a (λ|11=>some 1|_=>none) (λ|6=>some 14|10=>some 8|_=>none) [3] false h7M (λ|some 8=>1|some 41=>2|some 42=>1|_=>0) 0 false NN
@[go_sem] def h8a:LT:=λk=>LL [[0],[2]] k
abbrev h8:Hint:=HQ h8a
@[go_sem] def h9a:LT:=λk=>LL [[0,1,4],[0,1,4,6,7],[1,4,6,7,14],[4,5],[1,4,6,7,23],[4,5],[1,4,6,7,28],[4,5],[1,4,6,7],[1,4,6,7,8],[1,4,6,7,8,45],[1,4,6,7,8,45],[1,4,6,7,8,52],[4,5],[1,4,6,8,65],[4,5],[1,4,6,8,75],[4,5],[4,5]] k
abbrev h9:Hint:=HQ h9a
@[go_sem] def Jov:LT:=λk=>LL [[0,1,4],[0,1,4,6,7],[1,4,6,7,8],[1,4,6,8,29],[4,5],[1,4,6,8,33],[4,5],[1,4,6,8,9,10],[1,4,6,8,9,44],[4,5],[1,4,6,8,9],[1,4,6,8,9,11],[1,4,6,8,9,11,58],[1,4,6,8,9,11,58],[1,4,6,8,9,11,74],[4,5],[1,4,6,11,80],[4,5],[1,4,6,11,85,86,87],[1,4,6,11,85,86,87,88],[1,4,6,11,13,85,86,87],[1,4,6,11,13,85,86,87,97],[4,5],[1,4,6,11,85,86,87],[1,4,6,103],[4,5],[1,4,6,14,15],[1,4,6,14,15,16],[1,4,6,14,15,16,112],[1,4,6,14,15,16],[4,6,14,15,16,132],[1,4,6,14,15,16,112],[4,14,163],[4,5],[4,5]] k
abbrev h10:Hint:=HM Jov NN (λ|30=>some 20|_=>none) [] false NM (λ_=>0) 0 false NN
@[go_sem] def Jow:LT:=λk=>LL [[2,3],[4]] k
abbrev h11:Hint:=HQ Jow
@[go_sem] def Jox:LT:=λk=>LL [[0,1],[6],[4]] k
abbrev h12:Hint:=HQ Jox
@[go_sem] def Joy:LT:=λk=>LL [[0],[2]] k
abbrev h13:Hint:=HQ Joy
@[go_sem] def Joz:LT:=λk=>LL [[0,2],[2]] k
abbrev h14:Hint:=HQ Joz
@[go_sem] def Jo0:LT:=λk=>LL [[0,2],[2]] k
abbrev h15:Hint:=HQ Jo0
@[go_sem] def Jo1:LT:=λk=>LL [[0,1,4],[4]] k
abbrev h16:Hint:=HQ Jo1
@[go_sem] def Jo2:LT:=λk=>LL [[0],[3],[3,4],[3,4],[2],[3,7],[2],[9],[2],[2]] k
abbrev h17:Hint:=HQ Jo2
@[go_sem] def Jo3:LT:=λk=>LL [[0],[0,3],[0,3,4],[0,3,4],[0,3,4,16],[0,30,31,33],[0],[0],[2]] k
@[go_sem] def Jo4:Nat->Option Mix:=λ|4=>some ⟨[3],[],.one 0 (.alt (.one 1 (.one 2 (.head 3 (.fin)))) (.one 2 (.one 1 (.head 3 (.fin)))))⟩|7=>some ⟨[0,1,2,3,4,5,6,7,8,9,10,11,12,13,14,16,17],[],HH [3,4,5,6,7,8,9,10,11,12,13,14] (.alt (.one 0 (.alt (.one 1 (.alt (.one 2 (.one 15 (.head 16 (.head 17 (.one 18 (.fin)))))) (.one 15 (HH [2,16,17] (.one 18 (.fin)))))) (.one 15 (HH [1,2,16,17] (.one 18 (.fin)))))) (.alt (.one 1 (.alt (.one 0 (.alt (.one 2 (.one 15 (.head 16 (.head 17 (.one 18 (.fin)))))) (.one 15 (HH [2,16,17] (.one 18 (.fin)))))) (.alt (.one 2 (.alt (.one 0 (.one 15 (.head 16 (.head 17 (.one 18 (.fin)))))) (.one 15 (HH [0,16,17] (.one 18 (.fin)))))) (.one 15 (HH [0,2,16,17] (.one 18 (.fin))))))) (.one 15 (HH [0,1,2,16,17] (.one 18 (.fin))))))⟩|_=>none
abbrev h18:Hint:=HM Jo3 (λ|4=>some 1001|_=>none) (λ|4=>some 0|5=>some 16|7=>some 14|_=>none) [] false Jo4 (λ_=>0) 0 false (λ|5=>some 0|_=>none)
@[go_sem] def Jo5:LT:=λk=>LL [[0],[0,3],[3,4],[3,4],[3,4,12],[2],[3,4]] k
abbrev h19:Hint:=HM Jo5 NN NN [3] false NM (λ_=>0) 0 false NN
@[go_sem] def Jo7:LT:=λk=>LL [[0],[0,28],[0,28],[0,3],[0,3,4],[3,4,32,33,34],[3,4,32,33,34,35],[3,4,6,32,33,34],[3,4,6,7,32,33,34],[3,4,6,7,32,33,34,39],[3,4,6,7,32,33,34,39,40],[3,4,6,7,32,33,34,39,40],[3,4,6,7,32,33,34,39,40],[3,4,6,7,32,33,34,43],[3,4,6,7,32,33,34,39,40],[3,6,7,32,33,34,50],[3,6,7,32,33,34,50],[3,4,32,33,34],[3,4,32,33,34],[2]] k
abbrev h20:Hint:=HM Jo7 NN NN [3] false NM (λ_=>0) 0 false NN
@[go_sem] def Jo8:LT:=λk=>LL [[0,2],[2,4],[2,4,10],[2,3],[2,5],[2,5,6],[2,6],[2,5,6,35],[2,6],[2,5,6,43],[2,6],[2,3]] k
@[go_sem] def Jo9:Nat->Option Mix:=λ|5=>some ⟨[0,1,2,3,4,5,6,7,8,9,10,11],[],HH [0,1,2,3,4,5,6,7,8,9] (.alt (.one 10 (.head 11 (.one 12 (.one 13 (.fin))))) (.one 12 (.head 10 (.head 11 (.one 13 (.fin))))))⟩|_=>none
abbrev h21:Hint:=HM Jo8 NN (λ|5=>some 12|_=>none) [] false Jo9 (λ_=>0) 0 false NN
@[go_sem] def JpA:LT:=λk=>LL [[0],[0,5],[0,5,6,7],[0,3,5],[0,5,10],[2],[2]] k
abbrev h22:Hint:=HQ JpA
@[go_sem] def JpB:LT:=λk=>LL [[0],[2]] k
abbrev h23:Hint:=HQ JpB
@[go_sem] def JpC:LT:=λk=>LL [[0,1],[1,7,8,9],[1,7,8,9,10],[1,6,7,8,9],[1,6,7,8,9,15],[1,6,7,8,9,15,16],[1,6,7,8,9,15,16],[1,6,7,8,9,15,16],[1,6,7,8,9,15,16],[1,6,7,8,9,15,16],[4],[1,6,7,8,9,22],[1,6,7,8,9,24],[4],[1,7,8,9,39],[4],[1,7,8,9],[4]] k
abbrev h24:Hint:=HM JpC (λ|16=>some 0|_=>none) NN [] false NM (λ_=>0) 0 false NN
@[go_sem] def JpD:LT:=λk=>LL [[0],[2]] k
abbrev h25:Hint:=HQ JpD
@[go_sem] def JpG:LT:=λk=>LL [[0],[3],[3,8,9,10],[3,8,9,10,11],[3,4,5,8,9,10],[3,4,5,8,9,10,20],[3,4,5,8,9,10,20],[3,8,9,10],[2]] k
abbrev h26:Hint:=HM JpG NN NN [] true NM (λ_=>0) 0 false NN
@[go_sem] def JpH:LT:=λk=>LL [[0],[2]] k
abbrev h27:Hint:=HQ JpH
@[go_sem] def JpJ:LT:=λk=>LL [[0],[0,3],[3,4],[3,4,13],[3,4,5],[3,4,5,24],[3,4,5,29],[3,4,5,29],[3,4],[3,4,5,6],[3,4,6],[3,4,6],[3,4,6,7],[3,4,6,7,73],[3,4],[2]] k
abbrev h28:Hint:=HM JpJ (λ|3=>some 1|_=>none) NN [3,4] false NM (λ|some 10=>1|some 80=>1|_=>0) 0 false NN
@[go_sem] def JpK:LT:=λk=>LL [[0,1],[4]] k
abbrev h29:Hint:=HQ JpK
@[go_sem] def JpL:LT:=λk=>LL [[1,2,4],[1,2,4,14],[4,5],[1,2,4,6],[1,2,4,6,41],[4,5],[2,4,7,8],[2,4,7,51],[4,5],[2,4,7,9],[2,4,7,9,55],[2,4,7,9,55],[2,4,7,9,10],[2,4,7,63],[4,5],[4,7,78],[4,5],[4,5]] k
abbrev h30:Hint:=HM JpL NN (λ|4=>some 25|_=>none) [] false NM (λ_=>0) 0 false NN
@[go_sem] def JpN:LT:=λk=>LL [[0,2],[0,2,6,7,8],[0,2,6,7,8,9],[0,2,4,5,6,7,8],[0,2,4,5,6,7,8,16],[2,3],[0,2,6,7,8],[2,3]] k
abbrev h31:Hint:=HM JpN (λ|6=>some 1|_=>none) NN [] false NM (λ_=>0) 0 false NN
@[go_sem] def JpO:LT:=λk=>LL [[0],[2]] k
abbrev h32:Hint:=HQ JpO
@[go_sem] def JpP:LT:=λk=>LL [[0],[2]] k
abbrev h33:Hint:=HQ JpP
@[go_sem] def JpQ:LT:=λk=>LL [[0],[0,4,5],[4,5,14,15,16],[4,5,14,15,16,17],[4,5,7,14,15,16],[4,5,7,14,15,16,21],[4,5,7,14,15,16],[4,5,7,11,14,15,16],[4,5,7,14,15,16,30],[4,5,7,14,15,16,21],[4,5,12,13,14,15,16],[4,5,14,15,16],[4,5,14,15,16],[2,3]] k
abbrev h34:Hint:=HM JpQ (λ|10=>some 0|_=>none) NN [] false NM (λ_=>0) 0 false NN
@[go_sem] def JpR:LT:=λk=>LL [[0,1],[1,7,8,9],[1,7,8,9,10],[1,6,7,8,9],[1,6,7,8,9,15],[1,6,7,8,9,15,16],[1,6,7,8,9,15,16],[1,6,7,8,9,15,16],[1,6,7,8,9,15,16],[1,6,7,8,9,15,16],[4],[1,6,7,8,9,22],[1,6,7,8,9,24],[4],[1,7,8,9,27],[4],[1,7,8,9],[4]] k
abbrev h35:Hint:=HM JpR (λ|16=>some 0|_=>none) NN [] false NM (λ_=>0) 0 false NN
@[go_sem] def JpS:LT:=λk=>LL [[0],[0,3,4],[0,3,4,16],[0,3,4],[0,3,4,29],[0,3,4],[2]] k
abbrev h36:Hint:=HQ JpS
@[go_sem] def JpT:LT:=λk=>LL [[0],[3],[3,8,9,10],[3,8,9,10,11],[3,4,5,8,9,10],[3,4,5,8,9,10,20],[3,4,5,8,9,10,20],[3,8,9,10],[2]] k
abbrev h37:Hint:=HM JpT NN NN [] true NM (λ_=>0) 0 false NN
@[go_sem] def JpU:LT:=λk=>LL [[0],[0,3],[3,7,8,9],[3,7,8,9,10],[3,5,7,8,9],[3,5,7,8,9],[3,5,7,8,9],[3,6,7,8,9],[3,6,7,8,9,28],[3,6,7,8,9,28],[3,7,8,9],[2]] k
abbrev h38:Hint:=HM JpU (λ|10=>some 0|_=>none) NN [3] false NM (λ_=>0) 0 false NN
@[go_sem] def JpV:LT:=λk=>LL [[0,2],[0,2,8],[2,3],[0,2],[0,2,14],[2,3],[2,4,5],[2,4,24],[2,3],[2,3]] k
abbrev h39:Hint:=HQ JpV
@[go_sem] def JpW:LT:=λk=>LL [[0,2],[2]] k
abbrev h40:Hint:=HQ JpW
@[go_sem] def JpX:LT:=λk=>LL [[1],[2]] k
abbrev h41:Hint:=HQ JpX
@[go_sem] def JpY:LT:=λk=>LL [[1],[1,9],[12],[2],[2],[1,3],[1,3,15,16,17],[1,3,15,16,17,18],[1,3,5,15,16,17],[1,3,15,16,17],[1,3,15,16,17],[1,3,6],[1,3,6,31],[2],[1,3,6,35],[2],[1,3,6,44],[2],[49],[2],[2]] k
abbrev h42:Hint:=HM JpY (λ|10=>some 2|_=>none) NN [] false NM (λ_=>0) 0 false NN
@[go_sem] def JpZ:LT:=λk=>LL [[2,3],[2,3,33],[4],[2,3,36,37],[2,3,36,37,38],[2,3,5,36,37],[2,3,36,37,51],[4],[2,3,36,37],[4]] k
abbrev h43:Hint:=HM JpZ NN (λ|6=>some 12|_=>none) [] false NM (λ_=>0) 0 false NN
@[go_sem] def Jpa:LT:=λk=>LL [[0,1],[0,1,10],[4],[0,1,12,13],[0,1,12,13,14],[0,1,5,12,13],[0,1,12,13,24],[4],[0,1,12,13],[4]] k
abbrev h44:Hint:=HM Jpa NN (λ|6=>some 9|_=>none) [] false NM (λ_=>0) 0 false NN
@[go_sem] def Jpb:LT:=λk=>LL [[0,1,4],[4]] k
abbrev h45:Hint:=HQ Jpb
@[go_sem] def Jpc:LT:=λk=>LL [[0,9],[0],[0,29],[0],[0]] k
abbrev h46:Hint:=HQ Jpc
@[go_sem] def Jpd:LT:=λk=>LL [[0,1],[0,1,17],[4],[5],[5,31],[4],[4]] k
abbrev h47:Hint:=HM Jpd NN (λ|1=>some 12|3=>some 12|_=>none) [] false NM (λ_=>0) 0 false NN
@[go_sem] def Jpe:LT:=λk=>LL [[0,2],[0,2,3,4,5],[0,2,3,4,5,14],[0,2,3,4,5,14,15],[0,2,3,4,5,6,14],[0,2,3,4,5,6,14,21],[2,6],[2],[0,2,3,4,5,14],[0,2,3,4,5,34],[2],[2],[0,2,3,4,5,40],[0,2,3],[2],[0,2,3,4,5,57],[0,2,4,5],[0,2,7],[2],[0,2,3,4,5,89],[2],[0,2,3,4,5,96],[2],[2],[0,2,3,4,5,115],[2],[2],[0,2,3,4,5,139],[0,2],[2],[0,2,3,159],[2],[2,3],[2]] k
abbrev h48:Hint:=HQ Jpe
@[go_sem] def Jpf:LT:=λk=>LL [[0],[0,3],[0,3,4],[0,3,4,11],[0,3,4,5,6],[0,3,4,6],[0,3,4],[2]] k
abbrev h49:Hint:=HM Jpf NN NN [3] false NM (λ_=>0) 0 false NN
@[go_sem] def Jpg:LT:=λk=>LL [[0],[3,4],[3,12],[2],[2]] k
abbrev h50:Hint:=HQ Jpg
@[go_sem] def Jph:LT:=λk=>LL [[],[0]] k
abbrev h51:Hint:=HQ Jph
@[go_sem] def Jpi:LT:=λk=>LL [[0,1],[4]] k
abbrev h53:Hint:=HQ Jpi
@[go_sem] def Jpj:LT:=λk=>LL [[0,1],[1,7,8,9],[1,7,8,9,10],[1,6,7,8,9],[1,6,7,8,9,22],[4],[1,6,7,8,9,27],[1,7,8,9,31],[4],[1,7,8,9,41],[4],[1,7,8,9],[4]] k
abbrev h54:Hint:=HM Jpj (λ|11=>some 0|_=>none) NN [] false NM (λ_=>0) 0 false NN
@[go_sem] def Jpk:LT:=λk=>LL [[1],[2]] k
abbrev h55:Hint:=HQ Jpk
@[go_sem] def Jpl:LT:=λk=>LL [[0],[0,22],[2],[0],[2]] k
abbrev h56:Hint:=HQ Jpl
@[go_sem] def Jpm:LT:=λk=>LL [[0],[0,3],[3,6,7,8],[3,6,7,8,9],[3,5,6,7,8],[3,6,7,8],[3,6,7,8],[2]] k
@[go_sem] def Jpn:Nat->Option Mix:=λ|5=>some ⟨[0,1,2,3,4,5,6,7],[],HH [0,1,2,3,4,5,6,7] (.one 8 (.one 9 (.fin)))⟩|_=>none
abbrev h57:Hint:=HM Jpm (λ|6=>some 0|_=>none) (λ|5=>some 7|_=>none) [3] false Jpn (λ_=>0) 0 false NN
@[go_sem] def Jpo:LT:=λk=>LL [[0],[0,11],[0],[0,25],[0],[2]] k
abbrev h58:Hint:=HQ Jpo
@[go_sem] def Jpp:LT:=λk=>LL [[0,1],[4]] k
abbrev h59:Hint:=HQ Jpp
@[go_sem] def Jpq:LT:=λk=>LL [[1],[2]] k
abbrev h60:Hint:=HQ Jpq
@[go_sem] def Jpr:LT:=λk=>LL [[0],[3],[3,4],[3,6],[3,8],[10],[2],[2],[2],[2]] k
abbrev h61:Hint:=HQ Jpr
@[go_sem] def Jps:LT:=λk=>LL [[0,1],[0,1,7,8],[0,1,7,8,9],[0,1,5,7,8],[0,1,5,7,8,16],[4],[0,1,7,8],[4]] k
abbrev h62:Hint:=HQ Jps
@[go_sem] def Jpt:LT:=λk=>LL [[0,2],[0,2,8],[2,3],[0,2],[0,2,14],[2,3],[2,4,5],[2,4,24],[2,3],[2,3]] k
abbrev h63:Hint:=HQ Jpt
@[go_sem] def Jpu:LT:=λk=>LL [[1],[1,7],[2,3],[4],[4,11],[2,3],[2,3]] k
abbrev h64:Hint:=HQ Jpu
@[go_sem] def Jpv:LT:=λk=>LL [[0,1],[1,7,8,9],[1,7,8,9,10],[1,6,7,8,9],[1,6,7,8,9,22],[4],[1,6,7,8,9,27],[1,7,8,9,31],[4],[1,7,8,9,41],[4],[1,7,8,9],[4]] k
abbrev h65:Hint:=HM Jpv (λ|11=>some 0|_=>none) NN [] false NM (λ_=>0) 0 false NN
@[go_sem] def Jpw:LT:=λk=>LL [[1],[2]] k
abbrev h66:Hint:=HQ Jpw
@[go_sem] def Jpx:LT:=λk=>LL [[1],[6],[6,30],[2,3,4,5],[6,7],[6,7,36],[2,3,4,5],[6,7,47],[2,3,4,5],[2,3,4,5]] k
abbrev h67:Hint:=HM Jpx NN (λ|9=>some 8|_=>none) [] false NM (λ_=>0) 0 false NN
@[go_sem] def Jpy:LT:=λk=>LL [[1],[2]] k
abbrev h68:Hint:=HQ Jpy
@[go_sem] def Jpz:LT:=λk=>LL [[1,2],[1,2,4],[1,2,4,14],[2,3],[1,2,4,22],[2,4,5],[2,3],[1,2,36],[2,3],[1,2],[2,3],[1,2,45],[1,2,6],[1,2,48],[1,2,6],[1,2,51],[1,2,6],[1,2,6,7],[2,6,7,58,59,60],[2,6,7,58,59,60,61],[2,6,7,9,58,59,60],[2,6,7,10,11,58,59,60],[2,6,7,10,58,59,60,70],[2,3],[2,6,7,58,59,60],[2,6,7,58,59,60],[2,3]] k
@[go_sem] def Jp0:Nat->Option Mix:=λ|26=>some ⟨[0,1,2,3,4,5,6,7,8],[],HH [0,1,2,3] (.alt (.one 4 (.alt (.one 5 (.alt (.one 6 (.alt (.one 7 (.alt (.one 8 (.one 9 (.one 10 (.fin)))) (.one 9 (.head 8 (.one 10 (.fin)))))) (.one 9 (.head 7 (.head 8 (.one 10 (.fin))))))) (.one 9 (HH [6,7,8] (.one 10 (.fin)))))) (.one 9 (HH [5,6,7,8] (.one 10 (.fin)))))) (.one 9 (HH [4,5,6,7,8] (.one 10 (.fin)))))⟩|_=>none
abbrev h69:Hint:=HM Jpz (λ|24=>some 4|_=>none) (λ|26=>some 9|_=>none) [] false Jp0 (λ_=>0) 0 false NN
@[go_sem] def Jp1:LT:=λk=>LL [[1,2],[1,2,19],[4],[1,2,5],[1,2,5,25],[4],[1,2,78],[4],[1,80,81,82],[1,80,81,82,83],[1,7,80,81,82],[1,80,81,82,90],[4],[1,80,81,82],[4]] k
abbrev h70:Hint:=HM Jp1 (λ|13=>some 1|_=>none) NN [] false NM (λ_=>0) 0 false NN
@[go_sem] def Jp2:LT:=λk=>LL [[0,4,5,6],[0,4,5,6,9],[6],[0,4,5,6,7],[0,4,5,6],[0,4,5,6,37],[6],[4,5,6,39],[6],[6]] k
abbrev h71:Hint:=HM Jp2 NN (λ|4=>some 6|_=>none) [] false NM (λ_=>0) 0 false NN
@[go_sem] def Jp3:LT:=λk=>LL [[0],[0,4],[2],[2]] k
abbrev h72:Hint:=HQ Jp3
@[go_sem] def Jp4:LT:=λk=>LL [[0],[2]] k
abbrev h73:Hint:=HQ Jp4
@[go_sem] def Jp5:LT:=λk=>LL [[0],[2]] k
abbrev h74:Hint:=HQ Jp5
@[go_sem] def Jp6:LT:=λk=>LL [[0,4],[0]] k
abbrev h75:Hint:=HQ Jp6
@[go_sem] def Jp7:LT:=λk=>LL [[0,1,4],[0,1,4,5],[0,1,4,5,6],[0,1,4,5,6],[0,1,4,5,6,22],[4],[0,1,4,5],[0,1,4,5,6,30],[4],[0,1,4,5,6,34],[0,1,4,5],[0,1,4,5,6,49],[0,1,4,5],[0,1,4,5,6,64],[0,1,4,5],[0,1,4,5]] k
abbrev h76:Hint:=HM Jp7 NN NN [5] false NM (λ_=>0) 0 false NN
@[go_sem] def Jp8:LT:=λk=>LL [[0],[2]] k
abbrev h77:Hint:=HQ Jp8
@[go_sem] def Jp9:LT:=λk=>LL [[0,1],[4]] k
abbrev h78:Hint:=HQ Jp9
@[go_sem] def JqA:LT:=λk=>LL [[0,1,2],[0,1,2,8],[6],[6]] k
abbrev h79:Hint:=HQ JqA
@[go_sem] def JqB:LT:=λk=>LL [[0],[0,3],[0,3,4],[2],[0,3,4,9],[0,3],[0,3],[0,3,27],[0,3],[0,3]] k
abbrev h80:Hint:=HM JqB NN NN [3] false NM (λ_=>0) 0 false NN
@[go_sem] def JqC:LT:=λk=>LL [[0,1,2],[0,1,2,12],[0,1,2,12],[6]] k
abbrev h81:Hint:=HQ JqC
@[go_sem] def JqD:LT:=λk=>LL [[0,2],[0,2,3],[0,2,3,4],[0,2,3,23],[0,2,3,23],[0,2,3],[0,2,3,40],[0,2,3],[0,2,3,40],[0,2,3,5],[0,2,3,57],[0,2,3,6],[0,2,3,6,7],[0,2,3,6,65],[0,2,3,6,65],[0,2,3,6,69],[0,2,3],[0,2,3,57],[0,2,8,9],[0,2,11],[0,2,11,105],[0,2,11,105],[0,2,11,112],[0,2,11],[0,2,11,105],[2]] k
@[go_sem] def JqG:Nat->Option Mix:=λ|18=>some ⟨[0,1,2,3,4,5,6,7,8,9,10,11,12,13,14,15],[],HH [0,1,2,3,4,5,6,7,8,9] (.alt (.one 10 (.alt (.one 11 (.head 12 (.head 13 (.alt (.one 14 (.alt (.one 15 (.one 16 (.one 17 (.one 18 (.one 19 (.fin)))))) (.one 16 (.alt (.one 15 (.one 17 (.one 18 (.one 19 (.fin))))) (.one 17 (.alt (.one 15 (.one 18 (.one 19 (.fin)))) (.one 18 (.head 15 (.one 19 (.fin)))))))))) (.alt (.one 15 (.alt (.one 14 (.one 16 (.one 17 (.one 18 (.one 19 (.fin)))))) (.one 16 (.alt (.one 14 (.one 17 (.one 18 (.one 19 (.fin))))) (.one 17 (.head 14 (.one 18 (.one 19 (.fin))))))))) (.one 16 (.alt (.one 14 (.alt (.one 15 (.one 17 (.one 18 (.one 19 (.fin))))) (.one 17 (.alt (.one 15 (.one 18 (.one 19 (.fin)))) (.one 18 (.head 15 (.one 19 (.fin)))))))) (.alt (.one 15 (.alt (.one 14 (.one 17 (.one 18 (.one 19 (.fin))))) (.one 17 (.head 14 (.one 18 (.one 19 (.fin))))))) (.one 17 (.head 14 (.alt (.one 15 (.one 18 (.one 19 (.fin)))) (.one 18 (.head 15 (.one 19 (.fin))))))))))))))) (.one 16 (HH [11,12,13] (.alt (.one 14 (.alt (.one 15 (.one 17 (.one 18 (.one 19 (.fin))))) (.one 17 (.alt (.one 15 (.one 18 (.one 19 (.fin)))) (.one 18 (.head 15 (.one 19 (.fin)))))))) (.alt (.one 15 (.alt (.one 14 (.one 17 (.one 18 (.one 19 (.fin))))) (.one 17 (.head 14 (.one 18 (.one 19 (.fin))))))) (.one 17 (.head 14 (.alt (.one 15 (.one 18 (.one 19 (.fin)))) (.one 18 (.head 15 (.one 19 (.fin))))))))))))) (.one 16 (HH [10,11,12,13] (.alt (.one 14 (.alt (.one 15 (.one 17 (.one 18 (.one 19 (.fin))))) (.one 17 (.alt (.one 15 (.one 18 (.one 19 (.fin)))) (.one 18 (.head 15 (.one 19 (.fin)))))))) (.alt (.one 15 (.alt (.one 14 (.one 17 (.one 18 (.one 19 (.fin))))) (.one 17 (.head 14 (.one 18 (.one 19 (.fin))))))) (.one 17 (.head 14 (.alt (.one 15 (.one 18 (.one 19 (.fin)))) (.one 18 (.head 15 (.one 19 (.fin))))))))))))⟩|_=>none
abbrev h82:Hint:=HM JqD NN (λ|18=>some 16|_=>none) [] false JqG (λ_=>0) 0 false NN
@[go_sem] def JqJ:LT:=λk=>LL [[0,2],[0,2,3],[0,2,3,9],[2],[0,2,3],[0,2,3,21],[2],[0,2,3,31],[0,2,3,21],[0,2,3,4],[0,2,3,4,42],[0,2,3,4,42],[0,2,3,50],[2],[2]] k
abbrev h83:Hint:=HQ JqJ
@[go_sem] def JqL:LT:=λk=>LL [[0],[2]] k
abbrev h84:Hint:=HQ JqL
@[go_sem] def JqM:LT:=λk=>LL [[0,1],[0,1,7],[0,1,7,18],[4,5,6],[0,1,7,8,9,10],[0,1,7,8,9,10,28],[4,5,6],[0,1,8,9,10,11],[0,1,8,9,10,11,12],[0,1,8,9,10,11,12,37],[0,1,8,9,10,11,12],[0,1,8,11,12,65],[4,5,6],[0,1,8,11,12],[0,1,8,9,10,11,12],[4,5,6]] k
abbrev h85:Hint:=HQ JqM
@[go_sem] def JqN:LT:=λk=>LL [[],[1],[1,5,6,7],[1,5,6,7,8],[1,2,3,5,6,7],[1,5,6,7],[1,5,6,7],[0]] k
abbrev h86:Hint:=HM JqN (λ|6=>some 1|_=>none) NN [] false NM (λ_=>0) 1 false NN
@[go_sem] def JqO:LT:=λk=>LL [[0,1],[4]] k
abbrev h89:Hint:=HQ JqO
@[go_sem] def JqP:LT:=λk=>LL [[1],[2]] k
abbrev h90:Hint:=HQ JqP
@[go_sem] def JqQ:LT:=λk=>LL [[0,1],[0,1,7,8],[0,1,7,8,9],[0,1,5,7,8],[0,1,5,7,8,16],[4],[0,1,7,8],[4]] k
abbrev h91:Hint:=HQ JqQ
@[go_sem] def JqS:LT:=λk=>LL [[1,2],[1,2,4],[1,2,4,14],[2,3],[1,2,4,14,16],[2,3],[1,2,4,14,21],[2,3],[1,2,4,33],[1,2,4],[1,2,37],[2,3],[1,2,37,39],[2,3],[1,2,37,46],[1,2,5],[1,2,37,48],[1,2,5],[1,2,50],[1,2,5],[1,2,5,6],[2,5,6,56,57,58],[2,5,6,56,57,58,59],[2,5,6,8,56,57,58],[2,5,6,9,10,56,57,58],[2,5,6,9,56,57,58,68],[2,3],[2,5,6,56,57,58],[2,5,6,56,57,58],[2,3]] k
@[go_sem] def JqT:Nat->Option Mix:=λ|7=>some ⟨[0,1,2,3,4,5,6,7,8,9],[],HH [0,1,2,3,4,5,6,7,8] (.alt (.one 9 (.one 10 (.one 11 (.fin)))) (.one 10 (.head 9 (.one 11 (.fin)))))⟩|29=>some ⟨[0,1,2,3,4,5,6,7,8],[],HH [0,1,2,3] (.alt (.one 4 (.alt (.one 5 (.alt (.one 6 (.alt (.one 7 (.alt (.one 8 (.one 9 (.one 10 (.fin)))) (.one 9 (.head 8 (.one 10 (.fin)))))) (.one 9 (.head 7 (.head 8 (.one 10 (.fin))))))) (.one 9 (HH [6,7,8] (.one 10 (.fin)))))) (.one 9 (HH [5,6,7,8] (.one 10 (.fin)))))) (.one 9 (HH [4,5,6,7,8] (.one 10 (.fin)))))⟩|_=>none
abbrev h92:Hint:=HM JqS (λ|28=>some 4|_=>none) (λ|7=>some 10|29=>some 9|_=>none) [] false JqT (λ_=>0) 0 false NN
@[go_sem] def JqU:LT:=λk=>LL [[1],[2]] k
abbrev h93:Hint:=HQ JqU
@[go_sem] def JqV:LT:=λk=>LL [[1],[1,8],[11],[2],[2],[1,3],[1,3,13,14,15],[1,3,13,14,15,16],[1,3,5,13,14,15],[1,3,13,14,15,20],[1,3,13,14,15,20,21],[2],[1,3,13,14,15,23],[1,3,13,14,15,23],[1,3,13,14,15],[1,3,28],[2],[1,3,31],[1,3,31],[2],[2]] k
abbrev h94:Hint:=HM JqV (λ|14=>some 1|_=>none) NN [] false NM (λ_=>0) 0 false NN
@[go_sem] def JqW:LT:=λk=>LL [[0,1],[4]] k
abbrev h95:Hint:=HQ JqW
@[go_sem] def JqX:LT:=λk=>LL [[1,2],[1,2,4],[2],[2]] k
abbrev h96:Hint:=HQ JqX
@[go_sem] def JqY:LT:=λk=>LL [[0],[0,5,6],[0,5,6,7],[0,3,4,5,6],[0,3,5,6,16],[2],[0,5,6],[2]] k
abbrev h97:Hint:=HQ JqY
@[go_sem] def JqZ:LT:=λk=>LL [[1,2,3],[6]] k
abbrev h98:Hint:=HQ JqZ
@[go_sem] def Jqa:LT:=λk=>LL [[0,2],[0,2],[0,2,4],[0,2,4,5,6],[0,2,4,5,6,7],[0,2,4,5,6,7,16],[0,2,4,5,6,7],[0,2,4,5,6,7,8],[0,2,4,5,6,7,8,64],[0,2,4,6,7,8,9,10],[0,2,4,6,7,8,9,74],[2,3],[0,2,4,6,7,8,9,76],[0,2,4,6,7,8,9,76],[0,2,4,6,7,8],[0,2,4,6,7,84],[0,2,4,6,7,84],[0,2,4,5,6,7],[2,4,96],[2,3],[2,3]] k
abbrev h99:Hint:=HM Jqa (λ|14=>some 1|_=>none) NN [4] false NM (λ_=>0) 0 false NN
@[go_sem] def Jii:LT:=λk=>LL [[0],[0,3],[0,3,4],[0,3,4,7,8,9],[0,3,4,7,8,9,10],[0,3,4,5,6,7,8,9],[0,3,4,5,7,8,9,17],[0,3,5,7,8,9],[0,3,4,5,7,8,9,17],[0,3,4,7,8,9],[2]] k
abbrev JT7:Hint:=HM Jii (λ|9=>some 0|_=>none) NN [3] false NM (λ_=>0) 0 false NN
@[go_sem] def Jij:LT:=λk=>LL [[1],[1,10],[2],[2]] k
abbrev Jcc:Hint:=HM Jij NN (λ|3=>some 18|_=>none) [] false NM (λ_=>0) 0 false NN
@[go_sem] def Jik:LT:=λk=>LL [[1],[2]] k
abbrev Jil:Hint:=HQ Jik
@[go_sem] def Jim:LT:=λk=>LL [[0],[0]] k
abbrev Jin:Hint:=HQ Jim
@[go_sem] def Jio:LT:=λk=>LL [[2,3,4],[2,3,4,7],[4],[2,3,4,5],[2,3,4,5,18],[2,3,4,5],[2,3,4,5],[2,3,4,5,28],[2,3,4,5],[2,3,4,5,33],[2,3,4,5,37],[2,3,4,5,33],[2,3,4,5,42],[2,3,4,5,42],[2,3,4,5],[2,4,48,49],[2,4,48,49,50],[2,4,48,49],[2,4,48,49],[4]] k
abbrev Jip:Hint:=HM Jio NN (λ|5=>some 4|_=>none) [] false NM (λ_=>0) 0 false NN
@[go_sem] def Jiq:LT:=λk=>LL [[2,3,4],[2,3,4,5,6],[2,3,4,5,6,7],[2,3,4,5,6,7,11],[2,3,4,5,6,7],[2,3,4,5,6,7],[2,3,4,5,6,7,17],[2,3,4,5,6,7],[2,3,4,5,6,7],[2,3,4,5,6,7],[2,3,4,5,6,7,44],[2,3,4,5,6,7],[2,3,4,5,6,7,44],[4]] k
abbrev Jir:Hint:=HQ Jiq
@[go_sem] def Jis:LT:=λk=>LL [[0],[0,3,4],[0,3,4,15],[0,5],[0,5,19],[2],[5],[2],[0,3,4,6],[0,3,4,6,7],[0,3,6,7,32],[0,3,4,6,7],[0,6,7],[0,6,7],[0,3,4,6,7],[0,6,54],[0,6,54],[6,68],[2],[2]] k
abbrev JXN:Hint:=HQ Jis
@[go_sem] def Jit:LT:=λk=>LL [[0],[2]] k
abbrev Jiu:Hint:=HQ Jit
@[go_sem] def Jiv:LT:=λk=>LL [[0],[2]] k
abbrev Jiw:Hint:=HQ Jiv
@[go_sem] def Jix:LT:=λk=>LL [[0,4],[0]] k
abbrev JXO:Hint:=HQ Jix
@[go_sem] def Jiy:LT:=λk=>LL [[0,2],[0,2,5,6],[0,2,5,6,28],[0,2,5,6],[0,2,5,6,28],[0,2,5,6,7],[0,2,6,7,8,9,10],[0,2,5,6,8,9,10],[0,2,5,6,8,9,10,52],[0,2,5,6,7,8],[0,2,5,6,7,8,60],[2,3,4],[0,2,5,6,7,8],[0,2,6,7,8,9,10],[0,2,5,6,8,9,10,52],[0,2,5,6,8,9,10,75],[2,3,4],[0,2,5,6,8,9,10,11],[0,2,5,6,8,9,10,11,80],[0,2,5,6,8,9,11,90],[2,3,4],[0,2,5,6,8,9,10,11],[0,2,5,6,8,9,10,11],[0,2,5,6,8,9,10,11,12],[0,2,5,6,8,9,10,11,12,109],[0,2,5,6,8,9,10,11,12],[0,2,5,6,8,9,10,11,12,109],[0,2,5,6,7,8,9,10,11,12],[0,2,5,6,7,8,9,10,11,12,127],[2,3,4],[0,2,5,6,7,8,9,10,11,12,131],[0,2,5,6,7,8,9,10,11,12,127],[0,2,5,6,7,8,9,10,11,12],[2,6,8,9,10,11,143],[0,2,5,6,8,9,10,11,80],[2,3,4]] k
abbrev Jcd:Hint:=HQ Jiy
@[go_sem] def Jiz:LT:=λk=>LL [[0,2],[0,2],[0,2,3],[0,2,3,4],[0,2,3],[0,2,3],[0,2,3,4,20],[2,3],[2],[0,2,3,4,37],[0,2,3],[0,2,3,4],[0,2,3,49],[2],[0,2,3,4,52],[2],[0,2,3,4,69],[0,2,3,76],[2],[0,2,3],[0,2,3]] k
abbrev JNi:Hint:=HM Jiz NN NN [3] false NM (λ_=>0) 0 false NN
@[go_sem] def Ji0:LT:=λk=>LL [[0],[0,3],[3,6,7,8],[3,6,7,8,9],[3,5,6,7,8],[3,5,6,7,8,14],[3,5,6,7,8,14],[3,6,7,8],[3,5,6,7,8,36],[3,6,7,8],[3,5,6,7,8,44],[3,6,7,8],[3,5,6,7,8,58],[3,6,7,8],[3,6,7,8],[2]] k
abbrev JXP:Hint:=HM Ji0 NN NN [3] false NM (λ_=>0) 0 false NN
@[go_sem] def Ji1:LT:=λk=>LL [[0],[0,5],[2,3,4],[0,12],[2,3,4],[0,15],[2,3,4],[0,18],[2,3,4],[0,25],[2,3,4],[0,28],[2,3,4],[35],[2,3,4],[2,3,4]] k
abbrev Ji2:Hint:=HQ Ji1
@[go_sem] def Ji3:LT:=λk=>LL [[1,2,4],[1,2,4,7],[1,2,4,7],[4]] k
abbrev Ji4:Hint:=HQ Ji3
@[go_sem] def Ji5:LT:=λk=>LL [[0],[0,5,6,7],[0,5,6,7,8],[0,3,4,5,6,7],[0,3,5,6,7,15],[2],[0,5,6,7],[2]] k
abbrev JQw:Hint:=HQ Ji5
@[go_sem] def Ji6:LT:=λk=>LL [[0],[3],[3,8,9,10],[3,8,9,10,11],[3,4,5,8,9,10],[3,4,5,8,9,10,20],[3,4,5,8,9,10,20],[3,8,9,10],[2]] k
abbrev JQx:Hint:=HM Ji6 NN NN [] true NM (λ_=>0) 0 false NN
def yo:Tr:= .fin
@[go_sem] theorem JfM{c:Cx}{mx:Mix}{id:Nat}{ops:Array Oper}{s:St}:Jv c mx id ops yo s=Jv c mx id ops (.fin) s:=rfl
def G4:Tr:= .one 15 yo
@[go_sem] theorem JfN{c:Cx}{mx:Mix}{id:Nat}{ops:Array Oper}{s:St}:Jv c mx id ops G4 s=Jv c mx id ops (.one 15 yo) s:=rfl
def yp:Tr:= .one 14 G4
@[go_sem] theorem JfO{c:Cx}{mx:Mix}{id:Nat}{ops:Array Oper}{s:St}:Jv c mx id ops yp s=Jv c mx id ops (.one 14 G4) s:=rfl
def G5:Tr:= .head 13 G4
@[go_sem] theorem JfP{c:Cx}{mx:Mix}{id:Nat}{ops:Array Oper}{s:St}:Jv c mx id ops G5 s=Jv c mx id ops (.head 13 G4) s:=rfl
def yq:Tr:= .alt (.one 13 yp) (.one 14 G5)
@[go_sem] theorem JfQ{c:Cx}{mx:Mix}{id:Nat}{ops:Array Oper}{s:St}:Jv c mx id ops yq s=Jv c mx id ops (.alt (.one 13 yp) (.one 14 G5)) s:=rfl
def Yd:Tr:= .head 12 G5
@[go_sem] theorem JfR{c:Cx}{mx:Mix}{id:Nat}{ops:Array Oper}{s:St}:Jv c mx id ops Yd s=Jv c mx id ops (.head 12 G5) s:=rfl
def G6:Tr:= .alt (.one 12 yq) (.one 14 Yd)
@[go_sem] theorem JfS{c:Cx}{mx:Mix}{id:Nat}{ops:Array Oper}{s:St}:Jv c mx id ops G6 s=Jv c mx id ops (.alt (.one 12 yq) (.one 14 Yd)) s:=rfl
def Ye:Tr:= .head 11 Yd
@[go_sem] theorem JfT{c:Cx}{mx:Mix}{id:Nat}{ops:Array Oper}{s:St}:Jv c mx id ops Ye s=Jv c mx id ops (.head 11 Yd) s:=rfl
def G7:Tr:= .alt (.one 11 G6) (.one 14 Ye)
@[go_sem] theorem JfU{c:Cx}{mx:Mix}{id:Nat}{ops:Array Oper}{s:St}:Jv c mx id ops G7 s=Jv c mx id ops (.alt (.one 11 G6) (.one 14 Ye)) s:=rfl
def Yf:Tr:= .head 10 Ye
@[go_sem] theorem JfV{c:Cx}{mx:Mix}{id:Nat}{ops:Array Oper}{s:St}:Jv c mx id ops Yf s=Jv c mx id ops (.head 10 Ye) s:=rfl
def Y9:Tr:= .alt (.one 10 G7) (.one 14 Yf)
@[go_sem] theorem Jce{c:Cx}{mx:Mix}{id:Nat}{ops:Array Oper}{s:St}:Jv c mx id ops Y9 s=Jv c mx id ops (.alt (.one 10 G7) (.one 14 Yf)) s:=rfl
def Wf:Tr:= .head 9 Yf
@[go_sem] theorem Jcf{c:Cx}{mx:Mix}{id:Nat}{ops:Array Oper}{s:St}:Jv c mx id ops Wf s=Jv c mx id ops (.head 9 Yf) s:=rfl
def ZA:Tr:= .alt (.one 9 Y9) (.one 14 Wf)
@[go_sem] theorem Jcg{c:Cx}{mx:Mix}{id:Nat}{ops:Array Oper}{s:St}:Jv c mx id ops ZA s=Jv c mx id ops (.alt (.one 9 Y9) (.one 14 Wf)) s:=rfl
def Wg:Tr:= .head 8 Wf
@[go_sem] theorem Jch{c:Cx}{mx:Mix}{id:Nat}{ops:Array Oper}{s:St}:Jv c mx id ops Wg s=Jv c mx id ops (.head 8 Wf) s:=rfl
def ZB:Tr:= .alt (.one 8 ZA) (.one 14 Wg)
@[go_sem] theorem Jci{c:Cx}{mx:Mix}{id:Nat}{ops:Array Oper}{s:St}:Jv c mx id ops ZB s=Jv c mx id ops (.alt (.one 8 ZA) (.one 14 Wg)) s:=rfl
def ZC:Tr:= .head 7 Wg
@[go_sem] theorem Jcj{c:Cx}{mx:Mix}{id:Nat}{ops:Array Oper}{s:St}:Jv c mx id ops ZC s=Jv c mx id ops (.head 7 Wg) s:=rfl
def jt:Tr:= .alt (.one 7 ZB) (.one 14 ZC)
@[go_sem] theorem Jck{c:Cx}{mx:Mix}{id:Nat}{ops:Array Oper}{s:St}:Jv c mx id ops jt s=Jv c mx id ops (.alt (.one 7 ZB) (.one 14 ZC)) s:=rfl
def ZD:Tr:= .head 6 Yd
@[go_sem] theorem Jcl{c:Cx}{mx:Mix}{id:Nat}{ops:Array Oper}{s:St}:Jv c mx id ops ZD s=Jv c mx id ops (.head 6 Yd) s:=rfl
def ZG:Tr:= .alt (.one 6 G6) (.one 14 ZD)
@[go_sem] theorem Jcm{c:Cx}{mx:Mix}{id:Nat}{ops:Array Oper}{s:St}:Jv c mx id ops ZG s=Jv c mx id ops (.alt (.one 6 G6) (.one 14 ZD)) s:=rfl
def ZH:Tr:= .head 6 Ye
@[go_sem] theorem Jcn{c:Cx}{mx:Mix}{id:Nat}{ops:Array Oper}{s:St}:Jv c mx id ops ZH s=Jv c mx id ops (.head 6 Ye) s:=rfl
def ZJ:Tr:= .alt (.one 6 G7) (.alt (.one 11 ZG) (.one 14 ZH))
@[go_sem] theorem Jco{c:Cx}{mx:Mix}{id:Nat}{ops:Array Oper}{s:St}:Jv c mx id ops ZJ s=Jv c mx id ops (.alt (.one 6 G7) (.alt (.one 11 ZG) (.one 14 ZH))) s:=rfl
def ZK:Tr:= .head 6 Yf
@[go_sem] theorem Jcp{c:Cx}{mx:Mix}{id:Nat}{ops:Array Oper}{s:St}:Jv c mx id ops ZK s=Jv c mx id ops (.head 6 Yf) s:=rfl
def ZL:Tr:= .alt (.one 6 Y9) (.alt (.one 10 ZJ) (.one 14 ZK))
@[go_sem] theorem Jcq{c:Cx}{mx:Mix}{id:Nat}{ops:Array Oper}{s:St}:Jv c mx id ops ZL s=Jv c mx id ops (.alt (.one 6 Y9) (.alt (.one 10 ZJ) (.one 14 ZK))) s:=rfl
def ZM:Tr:= .head 6 Wf
@[go_sem] theorem Jcr{c:Cx}{mx:Mix}{id:Nat}{ops:Array Oper}{s:St}:Jv c mx id ops ZM s=Jv c mx id ops (.head 6 Wf) s:=rfl
def ZN:Tr:= .alt (.one 6 ZA) (.alt (.one 9 ZL) (.one 14 ZM))
@[go_sem] theorem Jcs{c:Cx}{mx:Mix}{id:Nat}{ops:Array Oper}{s:St}:Jv c mx id ops ZN s=Jv c mx id ops (.alt (.one 6 ZA) (.alt (.one 9 ZL) (.one 14 ZM))) s:=rfl
def ZO:Tr:= .head 6 Wg
@[go_sem] theorem Jct{c:Cx}{mx:Mix}{id:Nat}{ops:Array Oper}{s:St}:Jv c mx id ops ZO s=Jv c mx id ops (.head 6 Wg) s:=rfl
def ZP:Tr:= .alt (.one 6 ZB) (.alt (.one 8 ZN) (.one 14 ZO))
@[go_sem] theorem Jcu{c:Cx}{mx:Mix}{id:Nat}{ops:Array Oper}{s:St}:Jv c mx id ops ZP s=Jv c mx id ops (.alt (.one 6 ZB) (.alt (.one 8 ZN) (.one 14 ZO))) s:=rfl
def ZQ:Tr:= .head 6 ZC
@[go_sem] theorem Jcv{c:Cx}{mx:Mix}{id:Nat}{ops:Array Oper}{s:St}:Jv c mx id ops ZQ s=Jv c mx id ops (.head 6 ZC) s:=rfl
def ju:Tr:= .alt (.one 6 jt) (.alt (.one 7 ZP) (.one 14 ZQ))
@[go_sem] theorem Jcw{c:Cx}{mx:Mix}{id:Nat}{ops:Array Oper}{s:St}:Jv c mx id ops ju s=Jv c mx id ops (.alt (.one 6 jt) (.alt (.one 7 ZP) (.one 14 ZQ))) s:=rfl
def ZR:Tr:= .head 5 ZD
@[go_sem] theorem Jcx{c:Cx}{mx:Mix}{id:Nat}{ops:Array Oper}{s:St}:Jv c mx id ops ZR s=Jv c mx id ops (.head 5 ZD) s:=rfl
def ZS:Tr:= .alt (.one 5 ZG) (.one 14 ZR)
@[go_sem] theorem Jcy{c:Cx}{mx:Mix}{id:Nat}{ops:Array Oper}{s:St}:Jv c mx id ops ZS s=Jv c mx id ops (.alt (.one 5 ZG) (.one 14 ZR)) s:=rfl
def ZT:Tr:= .head 5 ZH
@[go_sem] theorem Jcz{c:Cx}{mx:Mix}{id:Nat}{ops:Array Oper}{s:St}:Jv c mx id ops ZT s=Jv c mx id ops (.head 5 ZH) s:=rfl
def ZU:Tr:= .alt (.one 5 ZJ) (.alt (.one 11 ZS) (.one 14 ZT))
@[go_sem] theorem Jc0{c:Cx}{mx:Mix}{id:Nat}{ops:Array Oper}{s:St}:Jv c mx id ops ZU s=Jv c mx id ops (.alt (.one 5 ZJ) (.alt (.one 11 ZS) (.one 14 ZT))) s:=rfl
def ZV:Tr:= .head 5 ZK
@[go_sem] theorem Jc1{c:Cx}{mx:Mix}{id:Nat}{ops:Array Oper}{s:St}:Jv c mx id ops ZV s=Jv c mx id ops (.head 5 ZK) s:=rfl
def ZW:Tr:= .alt (.one 5 ZL) (.alt (.one 10 ZU) (.one 14 ZV))
@[go_sem] theorem Jc2{c:Cx}{mx:Mix}{id:Nat}{ops:Array Oper}{s:St}:Jv c mx id ops ZW s=Jv c mx id ops (.alt (.one 5 ZL) (.alt (.one 10 ZU) (.one 14 ZV))) s:=rfl
def ZX:Tr:= .head 5 ZM
@[go_sem] theorem Jc3{c:Cx}{mx:Mix}{id:Nat}{ops:Array Oper}{s:St}:Jv c mx id ops ZX s=Jv c mx id ops (.head 5 ZM) s:=rfl
def ZY:Tr:= .alt (.one 5 ZN) (.alt (.one 9 ZW) (.one 14 ZX))
@[go_sem] theorem Jc4{c:Cx}{mx:Mix}{id:Nat}{ops:Array Oper}{s:St}:Jv c mx id ops ZY s=Jv c mx id ops (.alt (.one 5 ZN) (.alt (.one 9 ZW) (.one 14 ZX))) s:=rfl
def ZZ:Tr:= .head 5 ZO
@[go_sem] theorem Jc5{c:Cx}{mx:Mix}{id:Nat}{ops:Array Oper}{s:St}:Jv c mx id ops ZZ s=Jv c mx id ops (.head 5 ZO) s:=rfl
def Za:Tr:= .alt (.one 5 ZP) (.alt (.one 8 ZY) (.one 14 ZZ))
@[go_sem] theorem Jc6{c:Cx}{mx:Mix}{id:Nat}{ops:Array Oper}{s:St}:Jv c mx id ops Za s=Jv c mx id ops (.alt (.one 5 ZP) (.alt (.one 8 ZY) (.one 14 ZZ))) s:=rfl
def Zb:Tr:= .head 5 ZQ
@[go_sem] theorem Jc7{c:Cx}{mx:Mix}{id:Nat}{ops:Array Oper}{s:St}:Jv c mx id ops Zb s=Jv c mx id ops (.head 5 ZQ) s:=rfl
def jv:Tr:= .alt (.one 5 ju) (.alt (.one 7 Za) (.one 14 Zb))
@[go_sem] theorem Jc8{c:Cx}{mx:Mix}{id:Nat}{ops:Array Oper}{s:St}:Jv c mx id ops jv s=Jv c mx id ops (.alt (.one 5 ju) (.alt (.one 7 Za) (.one 14 Zb))) s:=rfl
def Zc:Tr:= .head 4 ZR
@[go_sem] theorem Jc9{c:Cx}{mx:Mix}{id:Nat}{ops:Array Oper}{s:St}:Jv c mx id ops Zc s=Jv c mx id ops (.head 4 ZR) s:=rfl
def Zd:Tr:= .alt (.one 4 ZS) (.one 14 Zc)
@[go_sem] theorem JdA{c:Cx}{mx:Mix}{id:Nat}{ops:Array Oper}{s:St}:Jv c mx id ops Zd s=Jv c mx id ops (.alt (.one 4 ZS) (.one 14 Zc)) s:=rfl
def Ze:Tr:= .head 4 ZT
@[go_sem] theorem JdB{c:Cx}{mx:Mix}{id:Nat}{ops:Array Oper}{s:St}:Jv c mx id ops Ze s=Jv c mx id ops (.head 4 ZT) s:=rfl
def Zf:Tr:= .alt (.one 4 ZU) (.alt (.one 11 Zd) (.one 14 Ze))
@[go_sem] theorem JdC{c:Cx}{mx:Mix}{id:Nat}{ops:Array Oper}{s:St}:Jv c mx id ops Zf s=Jv c mx id ops (.alt (.one 4 ZU) (.alt (.one 11 Zd) (.one 14 Ze))) s:=rfl
def Zg:Tr:= .head 4 ZV
@[go_sem] theorem JdD{c:Cx}{mx:Mix}{id:Nat}{ops:Array Oper}{s:St}:Jv c mx id ops Zg s=Jv c mx id ops (.head 4 ZV) s:=rfl
def Zh:Tr:= .alt (.one 4 ZW) (.alt (.one 10 Zf) (.one 14 Zg))
@[go_sem] theorem JdG{c:Cx}{mx:Mix}{id:Nat}{ops:Array Oper}{s:St}:Jv c mx id ops Zh s=Jv c mx id ops (.alt (.one 4 ZW) (.alt (.one 10 Zf) (.one 14 Zg))) s:=rfl
def Zi:Tr:= .head 4 ZX
@[go_sem] theorem JdH{c:Cx}{mx:Mix}{id:Nat}{ops:Array Oper}{s:St}:Jv c mx id ops Zi s=Jv c mx id ops (.head 4 ZX) s:=rfl
def Zj:Tr:= .alt (.one 4 ZY) (.alt (.one 9 Zh) (.one 14 Zi))
@[go_sem] theorem JdJ{c:Cx}{mx:Mix}{id:Nat}{ops:Array Oper}{s:St}:Jv c mx id ops Zj s=Jv c mx id ops (.alt (.one 4 ZY) (.alt (.one 9 Zh) (.one 14 Zi))) s:=rfl
def Zk:Tr:= .head 4 ZZ
@[go_sem] theorem JdK{c:Cx}{mx:Mix}{id:Nat}{ops:Array Oper}{s:St}:Jv c mx id ops Zk s=Jv c mx id ops (.head 4 ZZ) s:=rfl
def Zl:Tr:= .alt (.one 4 Za) (.alt (.one 8 Zj) (.one 14 Zk))
@[go_sem] theorem JdL{c:Cx}{mx:Mix}{id:Nat}{ops:Array Oper}{s:St}:Jv c mx id ops Zl s=Jv c mx id ops (.alt (.one 4 Za) (.alt (.one 8 Zj) (.one 14 Zk))) s:=rfl
def Zm:Tr:= .head 4 Zb
@[go_sem] theorem JdM{c:Cx}{mx:Mix}{id:Nat}{ops:Array Oper}{s:St}:Jv c mx id ops Zm s=Jv c mx id ops (.head 4 Zb) s:=rfl
def jw:Tr:= .alt (.one 4 jv) (.alt (.one 7 Zl) (.one 14 Zm))
@[go_sem] theorem JdN{c:Cx}{mx:Mix}{id:Nat}{ops:Array Oper}{s:St}:Jv c mx id ops jw s=Jv c mx id ops (.alt (.one 4 jv) (.alt (.one 7 Zl) (.one 14 Zm))) s:=rfl
def jx:Tr:= .head 3 Zc
@[go_sem] theorem JdO{c:Cx}{mx:Mix}{id:Nat}{ops:Array Oper}{s:St}:Jv c mx id ops jx s=Jv c mx id ops (.head 3 Zc) s:=rfl
def jy:Tr:= .alt (.one 3 Zd) (.one 14 jx)
@[go_sem] theorem JdP{c:Cx}{mx:Mix}{id:Nat}{ops:Array Oper}{s:St}:Jv c mx id ops jy s=Jv c mx id ops (.alt (.one 3 Zd) (.one 14 jx)) s:=rfl
def jz:Tr:= .head 3 Ze
@[go_sem] theorem JdQ{c:Cx}{mx:Mix}{id:Nat}{ops:Array Oper}{s:St}:Jv c mx id ops jz s=Jv c mx id ops (.head 3 Ze) s:=rfl
def j8:Tr:= .alt (.one 3 Zf) (.alt (.one 11 jy) (.one 14 jz))
@[go_sem] theorem JdR{c:Cx}{mx:Mix}{id:Nat}{ops:Array Oper}{s:St}:Jv c mx id ops j8 s=Jv c mx id ops (.alt (.one 3 Zf) (.alt (.one 11 jy) (.one 14 jz))) s:=rfl
def j9:Tr:= .head 3 Zg
@[go_sem] theorem JdS{c:Cx}{mx:Mix}{id:Nat}{ops:Array Oper}{s:St}:Jv c mx id ops j9 s=Jv c mx id ops (.head 3 Zg) s:=rfl
def kA:Tr:= .alt (.one 3 Zh) (.alt (.one 10 j8) (.one 14 j9))
@[go_sem] theorem JdT{c:Cx}{mx:Mix}{id:Nat}{ops:Array Oper}{s:St}:Jv c mx id ops kA s=Jv c mx id ops (.alt (.one 3 Zh) (.alt (.one 10 j8) (.one 14 j9))) s:=rfl
def kB:Tr:= .head 3 Zi
@[go_sem] theorem JdU{c:Cx}{mx:Mix}{id:Nat}{ops:Array Oper}{s:St}:Jv c mx id ops kB s=Jv c mx id ops (.head 3 Zi) s:=rfl
def kC:Tr:= .alt (.one 3 Zj) (.alt (.one 9 kA) (.one 14 kB))
@[go_sem] theorem JdV{c:Cx}{mx:Mix}{id:Nat}{ops:Array Oper}{s:St}:Jv c mx id ops kC s=Jv c mx id ops (.alt (.one 3 Zj) (.alt (.one 9 kA) (.one 14 kB))) s:=rfl
def kD:Tr:= .head 3 Zk
@[go_sem] theorem JdW{c:Cx}{mx:Mix}{id:Nat}{ops:Array Oper}{s:St}:Jv c mx id ops kD s=Jv c mx id ops (.head 3 Zk) s:=rfl
def kG:Tr:= .alt (.one 3 Zl) (.alt (.one 8 kC) (.one 14 kD))
@[go_sem] theorem JdX{c:Cx}{mx:Mix}{id:Nat}{ops:Array Oper}{s:St}:Jv c mx id ops kG s=Jv c mx id ops (.alt (.one 3 Zl) (.alt (.one 8 kC) (.one 14 kD))) s:=rfl
def kH:Tr:= .head 3 Zm
@[go_sem] theorem JdY{c:Cx}{mx:Mix}{id:Nat}{ops:Array Oper}{s:St}:Jv c mx id ops kH s=Jv c mx id ops (.head 3 Zm) s:=rfl
def kJ:Tr:= .alt (.one 3 jw) (.alt (.one 7 kG) (.one 14 kH))
@[go_sem] theorem JdZ{c:Cx}{mx:Mix}{id:Nat}{ops:Array Oper}{s:St}:Jv c mx id ops kJ s=Jv c mx id ops (.alt (.one 3 jw) (.alt (.one 7 kG) (.one 14 kH))) s:=rfl
def kK:Tr:= .head 2 kJ
@[go_sem] theorem Jda{c:Cx}{mx:Mix}{id:Nat}{ops:Array Oper}{s:St}:Jv c mx id ops kK s=Jv c mx id ops (.head 2 kJ) s:=rfl
def kL:Tr:= .head 1 kK
@[go_sem] theorem Jdb{c:Cx}{mx:Mix}{id:Nat}{ops:Array Oper}{s:St}:Jv c mx id ops kL s=Jv c mx id ops (.head 1 kK) s:=rfl
def JQ:Tr:= .head 0 kL
@[go_sem] theorem Jdc{c:Cx}{mx:Mix}{id:Nat}{ops:Array Oper}{s:St}:Jv c mx id ops JQ s=Jv c mx id ops (.head 0 kL) s:=rfl
@[go_sem] def Ji7:LT:=λk=>LL [[0,2],[2,4],[2,4,5,6],[2,3]] k
@[go_sem] def Ji8:Nat->Option Mix:=λ|3=>some ⟨[0,1,2,3,4,5,6,7,8,9,10,11,12,13],[],JQ⟩|_=>none
abbrev Jdd:Hint:=HM Ji7 NN (λ|3=>some 14|_=>none) [] false Ji8 (λ_=>0) 0 false NN
@[go_sem] def Ji9:LT:=λk=>LL [[0],[0,3],[0,3,4],[0,3,4,7,8,9],[0,3,4,7,8,9,10],[0,3,4,5,6,7,8,9],[0,3,4,5,7,8,9,17],[0,3,5,7,8,9],[0,3,4,5,7,8,9,17],[0,3,4,7,8,9],[2]] k
abbrev JT8:Hint:=HM Ji9 (λ|9=>some 0|_=>none) NN [3] false NM (λ_=>0) 0 false NN
@[go_sem] def JjA:LT:=λk=>LL [[1,2],[1,2,9],[4],[1,2,5],[1,2,5,15],[4],[1,2,5,41],[4],[1,2,5,6],[1,2,5,6,43],[1,2,5,6,43,44],[1,2,5,6,43,44],[1,2,5,6,43,44],[1,2,5,6,43,44],[1,2,5,6,43,44],[1,2,5,6,43,51],[1,2,5,6,43,51],[1,2,5,6,43,44],[1,2,5,6,56],[1,2,5,6,43,44],[1,2,5,6,7],[1,2,5,6,7,65],[1,2,5,6,7],[1,2,5,6,7],[4]] k
abbrev JQy:Hint:=HQ JjA
@[go_sem] def JjB:LT:=λk=>LL [[1,2,3],[6]] k
abbrev JjC:Hint:=HQ JjB
@[go_sem] def JjD:LT:=λk=>LL [[1],[2]] k
abbrev JjG:Hint:=HQ JjD
@[go_sem] def JjH:LT:=λk=>LL [[0,2],[0,2,4],[0,2,4,5,6],[0,2,4,5,6,7],[0,2,4,5,6,7,14],[0,2,4,5,6,7],[0,2,4,5,6,7,28],[0,2,4,6,7,8],[0,2,4,6,7,8,36],[2,3],[0,2,4,6,7,8,9,10],[0,2,4,6,7,8,9,10,50],[0,2,4,6,7,8,9,10,50],[0,2,4,6,7,9,60],[2,3],[0,2,4,7,9,62],[0,2,4,7,9,62],[0,2,4,7],[0,2,4,6,7],[0,2,4,5,6,7],[2,4,87],[2,3],[2,3]] k
abbrev Jde:Hint:=HM JjH (λ|17=>some 1|_=>none) NN [4] false NM (λ_=>0) 0 false NN
@[go_sem] def JjJ:LT:=λk=>LL [[0,1],[0,1,6],[0,1],[4]] k
@[go_sem] def JjK:Nat->Option Mix:=λ|2=>some ⟨[0,1,2,3],[],.head 0 (.head 1 (.alt (.one 2 (.alt (.one 3 (.one 4 (.one 5 (.fin)))) (.one 4 (.head 3 (.one 5 (.fin)))))) (.one 4 (.head 2 (.head 3 (.one 5 (.fin)))))))⟩|_=>none
abbrev JT9:Hint:=HM JjJ NN (λ|2=>some 4|_=>none) [] false JjK (λ_=>0) 0 false NN
@[go_sem] def JjL:LT:=λk=>LL [[1,2],[2]] k
abbrev JjM:Hint:=HQ JjL
@[go_sem] def JjN:LT:=λk=>LL [[2,3],[4]] k
abbrev JjO:Hint:=HQ JjN
@[go_sem] def JjP:LT:=λk=>LL [[2,3,4],[2,3,4,5,6],[4,5,7],[4]] k
abbrev Jqc:Hint:=HQ JjP
@[go_sem] def JjQ:LT:=λk=>LL [[1,2],[2]] k
abbrev JjR:Hint:=HQ JjQ
@[go_sem] def JjS:LT:=λk=>LL [[0],[0,4],[2,3],[0,9],[2,3],[0,19],[2,3],[2,3]] k
abbrev JjT:Hint:=HQ JjS
@[go_sem] def JjU:LT:=λk=>LL [[0,1],[0,1,14],[0,1],[4]] k
abbrev JXQ:Hint:=HQ JjU
@[go_sem] def JjV:LT:=λk=>LL [[0,1,2,6],[0,1,2,6,7,8],[0,1,2,6,7,8,25],[0,1,2,6,7,8],[0,1,2,6,7,8,30],[6],[0,1,2,6,7,8,36],[0,1,2,6,7,8],[0,1,2,6,7,8,30],[0,1,2,6,7,8,44],[6],[0,1,2,6,7,8,9],[0,2,6,9,50,51,52],[0,2,6,9,50,51,52,53],[0,2,6,9,11,50,51,52],[0,2,6,9,50,51,52],[0,2,6,9,50,51,52],[0,2,6,9,12],[0,2,6,9,12,64],[0,2,6,9,12],[0,2,6,9,12,68],[6],[0,2,6,9,12],[0,6,9,12,13,14],[0,6,9,12,13,14,82],[0,6,9,12,13,14],[0,6,9,12,13,14,93],[0,6,9,12,13,14],[0,6,9,12,13,14,103],[6],[0,6,9,12,13,14,106],[0,6,9,12,13,14,103],[0,6,9,12,13,14],[0,6,9,12,14,112],[0,6,9,12,13,14,103],[0,6,9,12,14,116],[6],[0,6,9,12,14],[6,9,12,120],[6],[6]] k
abbrev Hc:Hint:=HQ JjV
@[go_sem] def JjW:LT:=λk=>LL [[0,2],[0,2,3],[0,2,3],[0,2,3,18],[2],[0,2,23],[0,2]] k
abbrev JQz:Hint:=HQ JjW
@[go_sem] def JjX:LT:=λk=>LL [[0],[2]] k
abbrev JjY:Hint:=HQ JjX
@[go_sem] def JjZ:LT:=λk=>LL [[1],[2]] k
abbrev Jja:Hint:=HQ JjZ
@[go_sem] def Jjb:LT:=λk=>LL [[],[0]] k
abbrev Jjc:Hint:=HQ Jjb
@[go_sem] def Jjd:LT:=λk=>LL [[0,2],[0,2,4,5],[0,2,4,14],[2,3],[0,2,4,6],[0,2,4,6,7],[0,2,4,6,7,22],[0,2,4,5,6,7],[0,2,4,6,7,29],[2,3],[0,2,4,6,32],[0,2,4,6,32],[0,2,4,6],[2,3]] k
abbrev Jdf:Hint:=HM Jjd NN (λ|4=>some 2|_=>none) [] false NM (λ_=>0) 0 false NN
@[go_sem] def Jje:LT:=λk=>LL [[0],[2]] k
abbrev Jjf:Hint:=HQ Jje
@[go_sem] def Jjg:LT:=λk=>LL [[1],[2]] k
abbrev Jjh:Hint:=HM Jjg NN (λ|1=>some 18|_=>none) [] false NM (λ_=>0) 0 false NN
@[go_sem] def Jji:LT:=λk=>LL [[0,2],[0,2,4,5],[0,2,4,14],[2,3],[0,2,4,6],[0,2,4,6,7],[0,2,4,6,7,22],[0,2,4,5,6,7],[0,2,4,6,7,29],[2,3],[0,2,4,6,32],[0,2,4,6,32],[0,2,4,6],[2,3]] k
abbrev Jdg:Hint:=HM Jji NN (λ|4=>some 2|_=>none) [] false NM (λ_=>0) 0 false NN
@[go_sem] def Jjj:LT:=λk=>LL [[1,2,3,4],[1,2,3,4,9],[1,2,3,4,9,10],[1,2,3,4,9,10,11],[1,2,3,4,9,10,11,45],[1,2,3,4,9,10,11,12],[1,2,3,4,9,10,11,12],[1,2,3,4,9,11,12,13],[4,9,12,84],[8],[],[8]] k
abbrev Jjk:Hint:=HM Jjj NN (λ|4=>some 25|5=>some 12|_=>none) [] false NM (λ_=>0) 0 false NN
@[go_sem] def Jjl:LT:=λk=>LL [[1,2],[1,2,6],[2],[2]] k
abbrev Jjm:Hint:=HQ Jjl
@[go_sem] def Jjn:LT:=λk=>LL [[0,1],[0,1,6],[0,1],[4]] k
abbrev JUA:Hint:=HQ Jjn
@[go_sem] def Jjo:LT:=λk=>LL [[0],[0,4],[2],[2]] k
abbrev Jjp:Hint:=HQ Jjo
@[go_sem] def Jjq:LT:=λk=>LL [[0,2],[0,2,14],[2,3],[0,2,4],[2,4],[2,4,36],[2,3],[2,3]] k
@[go_sem] def Jjr:Nat->Option Mix:=λ|3=>some ⟨[0,1,2,3,4,5,6,7,8,9],[],HH [0,1,2,3,4,5,6,7,8,9] (.one 10 (.one 11 (.fin)))⟩|_=>none
abbrev Jjs:Hint:=HM Jjq NN (λ|1=>some 10|3=>some 10|_=>none) [] false Jjr (λ_=>0) 0 false NN
@[go_sem] def Jjt:LT:=λk=>LL [[0],[0,2],[0,2,31],[0,2],[1]] k
abbrev Jdh:Hint:=HM Jjt NN (λ|2=>some 25|_=>none) [] false NM (λ_=>0) 0 false NN
def hints(f:Nat):Hint:=match f with|3=>h3|4=>h4|5=>h5|6=>h6|7=>h7|8=>h8|9=>h9|10=>h10|11=>h11|12=>h12|13=>h13|14=>h14|15=>h15|16=>h16|17=>h17|18=>h18|19=>h19|20=>h20|21=>h21|22=>h22|23=>h23|24=>h24|25=>h25|26=>h26|27=>h27|28=>h28|29=>h29|30=>h30|31=>h31|32=>h32|33=>h33|34=>h34|35=>h35|36=>h36|37=>h37|38=>h38|39=>h39|40=>h40|41=>h41|42=>h42|43=>h43|44=>h44|45=>h45|46=>h46|47=>h47|48=>h48|49=>h49|50=>h50|51=>h51|53=>h53|54=>h54|55=>h55|56=>h56|57=>h57|58=>h58|59=>h59|60=>h60|61=>h61|62=>h62|63=>h63|64=>h64|65=>h65|66=>h66|67=>h67|68=>h68|69=>h69|70=>h70|71=>h71|72=>h72|73=>h73|74=>h74|75=>h75|76=>h76|77=>h77|78=>h78|79=>h79|80=>h80|81=>h81|82=>h82|83=>h83|84=>h84|85=>h85|86=>h86|89=>h89|90=>h90|91=>h91|92=>h92|93=>h93|94=>h94|95=>h95|96=>h96|97=>h97|98=>h98|99=>h99|100=>JT7|101=>Jcc|102=>Jil|103=>Jin|104=>Jip|105=>Jir|106=>JXN|107=>Jiu|108=>Jiw|109=>JXO|110=>Jcd|111=>JNi|112=>JXP|113=>Ji2|115=>Ji4|116=>JQw|117=>JQx|118=>Jdd|119=>JT8|120=>JQy|121=>JjC|122=>JjG|123=>Jde|124=>JT9|125=>JjM|126=>JjO|127=>Jqc|128=>JjR|129=>JjT|130=>JXQ|131=>Hc|132=>JQz|133=>JjY|136=>Jja|137=>Jjc|138=>Jdf|140=>Jjf|141=>Jjh|142=>Jdg|143=>Jjk|144=>Jjm|145=>JUA|146=>Jjp|147=>Jjs|148=>Jdh|_=>⟨λ_=>none,λ_=>none,λ_=>none,[],false,λ_=>none,λ_=>0,0,false,λ_=>none⟩
noncomputable def E:Zs:=ev Aa hints primz
noncomputable def b3:Code:=JC Tryz.f3
abbrev EQ(f n:Nat)(rs:List ResultVar)(hi:Hint)(b:Code):Prop:=∀{lo:Nat} {args:List V} {h:JG},(_:args.length<=n:=by simp)->(_:args.all bare=true:=by rfl)->E lo f args h=fin Aa rs h.length (evCode ⟨Aa,E,lo,h.length,hi⟩ JA b (QH args,h))
theorem EO{f nt:Nat}{fn:Func}{b:Code}{rs:List ResultVar}{hi:Hint}(hf:Aa.funcs[f]? =some fn)(hn:fn.ntmps=nt)(hname:(fn.name != "runtime.NumGoroutine")=true:=by kernel_rfl) (hcode:codeOk Aa hi nt b=true:=by kernel_rfl) (hp:primz f=none:=by exact rfl) (hb:fn.body=some b:=by exact rfl) (hh:hints f=hi:=by exact rfl) (hrs:fn.results.toList=rs:=by exact rfl) (hret:hi.ret=0:=by exact rfl) (hrr:hi.rawr=false:=by exact rfl):∀{lo:Nat} {args:List V} {h:JG},args.length<=nt->args.all bare=true->E lo f args h=fin Aa rs h.length (evCode ⟨Aa,E,lo,h.length,hi⟩ JA b (QH args,h)):=λha hb2=>JOn hp hf hb hn hname hh hcode hrs hret hrr ha hb2
theorem e3:EQ 3 51 [.tmp 4] h3 b3:=EO Tryz.func3 Tryz.ntmps3
noncomputable def b4:Code:=JC Tryz.f4
theorem e4:EQ 4 40 [.tmp 4] h4 b4:=EO Tryz.func4 Tryz.ntmps4
noncomputable def b5:Code:=JC Tryz.f5
noncomputable def b6:Code:=JC Tryz.f6
theorem e6:EQ 6 40 [.tmp 0] h6 b6:=EO Tryz.func6 Tryz.ntmps6
noncomputable def b7:Code:=JC Tryz.f7
noncomputable def zw:Code:=JK b7 0
noncomputable def JLZ:Code:=JK b7 1
theorem e7:EQ 7 66 [.tmp 2] h7 b7:=EO Tryz.func7 Tryz.ntmps7
noncomputable def b8:Code:=JC Tryz.f8
theorem e8:EQ 8 6 [.tmp 2] h8 b8:=EO Tryz.func8 Tryz.ntmps8
noncomputable def b9:Code:=JC Tryz.f9
theorem e9:EQ 9 91 [.cell 4 41,.tmp 5] h9 b9:=EO Tryz.func9 Tryz.ntmps9
noncomputable def Wy:Code:=JC Tryz.f10
noncomputable def yr:Code:=JK Wy 0
theorem e10:EQ 10 167 [.cell 4 41,.tmp 5] h10 Wy:=EO Tryz.func10 Tryz.ntmps10
noncomputable def b11:Code:=JC Tryz.f11
theorem e11:EQ 11 31 [.tmp 4] h11 b11:=EO Tryz.func11 Tryz.ntmps11
noncomputable def b12:Code:=JC Tryz.f12
theorem e12:EQ 12 15 [.tmp 4] h12 b12:=EO Tryz.func12 Tryz.ntmps12
noncomputable def b13:Code:=JC Tryz.f13
noncomputable def b14:Code:=JC Tryz.f14
theorem e14:EQ 14 5 [.cell 2 30] h14 b14:=EO Tryz.func14 Tryz.ntmps14
noncomputable def b15:Code:=JC Tryz.f15
theorem e15:EQ 15 6 [.cell 2 30] h15 b15:=EO Tryz.func15 Tryz.ntmps15
noncomputable def b16:Code:=JC Tryz.f16
theorem e16:EQ 16 9 [.cell 4 30] h16 b16:=EO Tryz.func16 Tryz.ntmps16
noncomputable def b17:Code:=JC Tryz.f17
theorem e17:EQ 17 11 [.tmp 2] h17 b17:=EO Tryz.func17 Tryz.ntmps17
noncomputable def b18:Code:=JC Tryz.f18
theorem e18:EQ 18 56 [.tmp 2] h18 b18:=EO Tryz.func18 Tryz.ntmps18
noncomputable def b19:Code:=JC Tryz.f19
noncomputable def JGr:Code:=JK b19 0
theorem e19:EQ 19 19 [.tmp 2] h19 b19:=EO Tryz.func19 Tryz.ntmps19
noncomputable def b20:Code:=JC Tryz.f20
noncomputable def qA:Code:=JK b20 0
theorem e20:EQ 20 58 [.tmp 2] h20 b20:=EO Tryz.func20 Tryz.ntmps20
noncomputable def b21:Code:=JC Tryz.f21
theorem e21:EQ 21 55 [.cell 2 32,.tmp 3] h21 b21:=EO Tryz.func21 Tryz.ntmps21
noncomputable def b22:Code:=JC Tryz.f22
noncomputable def Hr:Code:=JK b22 0
theorem e22:EQ 22 13 [.tmp 2] h22 b22:=EO Tryz.func22 Tryz.ntmps22
noncomputable def b23:Code:=JC Tryz.f23
theorem e23:EQ 23 5 [.tmp 2] h23 b23:=EO Tryz.func23 Tryz.ntmps23
noncomputable def b24:Code:=JC Tryz.f24
noncomputable def Qg:Code:=JK b24 0
theorem e24:EQ 24 41 [.tmp 4] h24 b24:=EO Tryz.func24 Tryz.ntmps24
noncomputable def b25:Code:=JC Tryz.f25
theorem e25:EQ 25 6 [.tmp 2] h25 b25:=EO Tryz.func25 Tryz.ntmps25
noncomputable def b26:Code:=JC Tryz.f26
noncomputable def qB:Code:=JK b26 0
theorem e26:EQ 26 30 [.tmp 2] h26 b26:=EO Tryz.func26 Tryz.ntmps26
noncomputable def b27:Code:=JC Tryz.f27
theorem e27:EQ 27 5 [.tmp 2] h27 b27:=EO Tryz.func27 Tryz.ntmps27
noncomputable def b28:Code:=JC Tryz.f28
noncomputable def Yg:Code:=JK b28 0
theorem e28:EQ 28 82 [.tmp 2] h28 b28:=EO Tryz.func28 Tryz.ntmps28
noncomputable def b29:Code:=JC Tryz.f29
theorem e29:EQ 29 9 [.tmp 4] h29 b29:=EO Tryz.func29 Tryz.ntmps29
noncomputable def b30:Code:=JC Tryz.f30
theorem e30:EQ 30 82 [.cell 4 41,.tmp 5] h30 b30:=EO Tryz.func30 Tryz.ntmps30
noncomputable def b31:Code:=JC Tryz.f31
noncomputable def yt:Code:=JK b31 0
theorem e31:EQ 31 21 [.cell 2 32,.tmp 3] h31 b31:=EO Tryz.func31 Tryz.ntmps31
noncomputable def b32:Code:=JC Tryz.f32
theorem e32:EQ 32 16 [.tmp 2] h32 b32:=EO Tryz.func32 Tryz.ntmps32
noncomputable def b33:Code:=JC Tryz.f33
theorem e33:EQ 33 5 [.tmp 2] h33 b33:=EO Tryz.func33 Tryz.ntmps33
noncomputable def b34:Code:=JC Tryz.f34
noncomputable def JCd:Code:=JK b34 0
theorem e34:EQ 34 48 [.tmp 2,.tmp 3] h34 b34:=EO Tryz.func34 Tryz.ntmps34
noncomputable def b35:Code:=JC Tryz.f35
noncomputable def Wp:Code:=JK b35 0
theorem e35:EQ 35 29 [.tmp 4] h35 b35:=EO Tryz.func35 Tryz.ntmps35
noncomputable def b36:Code:=JC Tryz.f36
noncomputable def JCe:Code:=JK b36 0
noncomputable def qC:Code:=JK b36 1
theorem e36:EQ 36 36 [.tmp 2] h36 b36:=EO Tryz.func36 Tryz.ntmps36
noncomputable def b37:Code:=JC Tryz.f37
noncomputable def Yy:Code:=JK b37 0
theorem e37:EQ 37 29 [.tmp 2] h37 b37:=EO Tryz.func37 Tryz.ntmps37
noncomputable def b38:Code:=JC Tryz.f38
noncomputable def JAo:Code:=JK b38 0
theorem e38:EQ 38 36 [.tmp 2] h38 b38:=EO Tryz.func38 Tryz.ntmps38
noncomputable def b39:Code:=JC Tryz.f39
theorem e39:EQ 39 27 [.cell 2 39,.tmp 3] h39 b39:=EO Tryz.func39 Tryz.ntmps39
noncomputable def b40:Code:=JC Tryz.f40
theorem e40:EQ 40 5 [.cell 2 28] h40 b40:=EO Tryz.func40 Tryz.ntmps40
noncomputable def b41:Code:=JC Tryz.f41
theorem e41:EQ 41 5 [.tmp 2] h41 b41:=EO Tryz.func41 Tryz.ntmps41
noncomputable def b42:Code:=JC Tryz.f42
noncomputable def JAp:Code:=JK b42 0
theorem e42:EQ 42 64 [.tmp 2] h42 b42:=EO Tryz.func42 Tryz.ntmps42
noncomputable def b43:Code:=JC Tryz.f43
noncomputable def JGs:Code:=JK b43 0
theorem e43:EQ 43 53 [.tmp 4] h43 b43:=EO Tryz.func43 Tryz.ntmps43
noncomputable def b44:Code:=JC Tryz.f44
noncomputable def JGt:Code:=JK b44 0
theorem e44:EQ 44 26 [.tmp 4] h44 b44:=EO Tryz.func44 Tryz.ntmps44
noncomputable def b45:Code:=JC Tryz.f45
noncomputable def b46:Code:=JC Tryz.f46
noncomputable def JCf:Code:=JK b46 0
noncomputable def JAq:Code:=JK b46 1
theorem e46:EQ 46 44 [] h46 b46:=EO Tryz.func46 Tryz.ntmps46
noncomputable def b47:Code:=JC Tryz.f47
theorem e47:EQ 47 33 [.tmp 4] h47 b47:=EO Tryz.func47 Tryz.ntmps47
noncomputable def b48:Code:=JC Tryz.f48
noncomputable def QA:Code:=JK b48 0
theorem e48:EQ 48 177 [.cell 2 53] h48 b48:=EO Tryz.func48 Tryz.ntmps48
noncomputable def b49:Code:=JC Tryz.f49
noncomputable def JGu:Code:=JK b49 0
theorem e49:EQ 49 27 [.tmp 2] h49 b49:=EO Tryz.func49 Tryz.ntmps49
noncomputable def b50:Code:=JC Tryz.f50
theorem e50:EQ 50 14 [.tmp 2] h50 b50:=EO Tryz.func50 Tryz.ntmps50
noncomputable def b51:Code:=JC Tryz.f51
theorem e51:EQ 51 16 [.tmp 0] h51 b51:=EO Tryz.func51 Tryz.ntmps51
noncomputable def b53:Code:=JC Tryz.f53
theorem e53:EQ 53 8 [.tmp 4] h53 b53:=EO Tryz.func53 Tryz.ntmps53
noncomputable def b54:Code:=JC Tryz.f54
noncomputable def Yz:Code:=JK b54 0
theorem e54:EQ 54 43 [.tmp 4] h54 b54:=EO Tryz.func54 Tryz.ntmps54
noncomputable def b55:Code:=JC Tryz.f55
theorem e55:EQ 55 14 [.tmp 2] h55 b55:=EO Tryz.func55 Tryz.ntmps55
noncomputable def b56:Code:=JC Tryz.f56
theorem e56:EQ 56 37 [.tmp 2] h56 b56:=EO Tryz.func56 Tryz.ntmps56
noncomputable def b57:Code:=JC Tryz.f57
noncomputable def JGv:Code:=JK b57 0
theorem e57:EQ 57 23 [.tmp 2] h57 b57:=EO Tryz.func57 Tryz.ntmps57
noncomputable def b58:Code:=JC Tryz.f58
noncomputable def JCg:Code:=JK b58 0
noncomputable def qD:Code:=JK b58 1
theorem e58:EQ 58 32 [.tmp 2] h58 b58:=EO Tryz.func58 Tryz.ntmps58
noncomputable def b59:Code:=JC Tryz.f59
theorem e59:EQ 59 9 [.tmp 4] h59 b59:=EO Tryz.func59 Tryz.ntmps59
noncomputable def b60:Code:=JC Tryz.f60
theorem e60:EQ 60 10 [.tmp 2] h60 b60:=EO Tryz.func60 Tryz.ntmps60
noncomputable def b61:Code:=JC Tryz.f61
theorem e61:EQ 61 12 [.tmp 2] h61 b61:=EO Tryz.func61 Tryz.ntmps61
noncomputable def b62:Code:=JC Tryz.f62
noncomputable def yv:Code:=JK b62 0
theorem e62:EQ 62 19 [.tmp 4] h62 b62:=EO Tryz.func62 Tryz.ntmps62
noncomputable def b63:Code:=JC Tryz.f63
theorem e63:EQ 63 27 [.cell 2 39,.tmp 3] h63 b63:=EO Tryz.func63 Tryz.ntmps63
noncomputable def b64:Code:=JC Tryz.f64
theorem e64:EQ 64 13 [.tmp 2,.tmp 3] h64 b64:=EO Tryz.func64 Tryz.ntmps64
noncomputable def b65:Code:=JC Tryz.f65
noncomputable def Y0:Code:=JK b65 0
theorem e65:EQ 65 43 [.tmp 4] h65 b65:=EO Tryz.func65 Tryz.ntmps65
noncomputable def b66:Code:=JC Tryz.f66
theorem e66:EQ 66 13 [.tmp 2] h66 b66:=EO Tryz.func66 Tryz.ntmps66
noncomputable def b67:Code:=JC Tryz.f67
theorem e67:EQ 67 56 [.tmp 2,.tmp 3,.tmp 4,.tmp 5] h67 b67:=EO Tryz.func67 Tryz.ntmps67
noncomputable def b68:Code:=JC Tryz.f68
theorem e68:EQ 68 7 [.tmp 2] h68 b68:=EO Tryz.func68 Tryz.ntmps68
noncomputable def b69:Code:=JC Tryz.f69
noncomputable def qG:Code:=JK b69 0
theorem e69:EQ 69 88 [.cell 2 39,.tmp 3] h69 b69:=EO Tryz.func69 Tryz.ntmps69
noncomputable def Ym:Code:=JC Tryz.f70
noncomputable def Qx:Code:=JK Ym 0
theorem e70:EQ 70 92 [.tmp 4] h70 Ym:=EO Tryz.func70 Tryz.ntmps70
noncomputable def b71:Code:=JC Tryz.f71
theorem e71:EQ 71 55 [.cell 6 28] h71 b71:=EO Tryz.func71 Tryz.ntmps71
noncomputable def b72:Code:=JC Tryz.f72
theorem e72:EQ 72 12 [.tmp 2] h72 b72:=EO Tryz.func72 Tryz.ntmps72
noncomputable def b73:Code:=JC Tryz.f73
theorem e73:EQ 73 17 [.tmp 2] h73 b73:=EO Tryz.func73 Tryz.ntmps73
noncomputable def b74:Code:=JC Tryz.f74
theorem e74:EQ 74 13 [.tmp 2] h74 b74:=EO Tryz.func74 Tryz.ntmps74
noncomputable def b75:Code:=JC Tryz.f75
noncomputable def JGw:Code:=JK b75 0
theorem e75:EQ 75 12 [] h75 b75:=EO Tryz.func75 Tryz.ntmps75
noncomputable def b76:Code:=JC Tryz.f76
noncomputable def Gc:Code:=JK b76 0
theorem e76:EQ 76 79 [.cell 4 53] h76 b76:=EO Tryz.func76 Tryz.ntmps76
noncomputable def b77:Code:=JC Tryz.f77
theorem e77:EQ 77 13 [.tmp 2] h77 b77:=EO Tryz.func77 Tryz.ntmps77
noncomputable def b78:Code:=JC Tryz.f78
theorem e78:EQ 78 11 [.tmp 4] h78 b78:=EO Tryz.func78 Tryz.ntmps78
noncomputable def b79:Code:=JC Tryz.f79
theorem e79:EQ 79 27 [.tmp 6] h79 b79:=EO Tryz.func79 Tryz.ntmps79
noncomputable def b80:Code:=JC Tryz.f80
noncomputable def yw:Code:=JK b80 0
theorem e80:EQ 80 44 [.tmp 2] h80 b80:=EO Tryz.func80 Tryz.ntmps80
noncomputable def b81:Code:=JC Tryz.f81
theorem e81:EQ 81 25 [.tmp 6] h81 b81:=EO Tryz.func81 Tryz.ntmps81
noncomputable def b82:Code:=JC Tryz.f82
theorem e82:EQ 82 122 [.cell 2 53] h82 b82:=EO Tryz.func82 Tryz.ntmps82
noncomputable def b83:Code:=JC Tryz.f83
noncomputable def JCi:Code:=JK b83 0
theorem e83:EQ 83 55 [.cell 2 53] h83 b83:=EO Tryz.func83 Tryz.ntmps83
noncomputable def b84:Code:=JC Tryz.f84
theorem e84:EQ 84 6 [.tmp 2] h84 b84:=EO Tryz.func84 Tryz.ntmps84
noncomputable def b85:Code:=JC Tryz.f85
noncomputable def yx:Code:=JK b85 0
theorem e85:EQ 85 81 [.tmp 4,.tmp 5,.tmp 6] h85 b85:=EO Tryz.func85 Tryz.ntmps85
noncomputable def b86:Code:=JC Tryz.f86
noncomputable def JGx:Code:=JK b86 0
theorem c86:codeOk Aa h86 18 b86=true:=kr
theorem e86{lo:Nat}{args:List V}{h:JG}(ha:args.length<=18)(hb:args.all bare=true):
  E lo 86 args h=JaV Aa [.tmp 0] h.length 1 false (evCode ⟨Aa,E,lo,h.length,h86⟩ JA b86 (QH args,h)):=
 JLJ rfl Tryz.func86 rfl Tryz.ntmps86 kr rfl c86 rfl rfl rfl ha hb
noncomputable def b89:Code:=JC Tryz.f89
theorem e89:EQ 89 18 [.tmp 4] h89 b89:=EO Tryz.func89 Tryz.ntmps89
noncomputable def b90:Code:=JC Tryz.f90
theorem e90:EQ 90 7 [.tmp 2] h90 b90:=EO Tryz.func90 Tryz.ntmps90
noncomputable def b91:Code:=JC Tryz.f91
noncomputable def JAr:Code:=JK b91 0
theorem e91:EQ 91 19 [.tmp 4] h91 b91:=EO Tryz.func91 Tryz.ntmps91
noncomputable def b92:Code:=JC Tryz.f92
noncomputable def qH:Code:=JK b92 0
theorem e92:EQ 92 86 [.cell 2 39,.tmp 3] h92 b92:=EO Tryz.func92 Tryz.ntmps92
noncomputable def b93:Code:=JC Tryz.f93
theorem e93:EQ 93 5 [.tmp 2] h93 b93:=EO Tryz.func93 Tryz.ntmps93
noncomputable def b94:Code:=JC Tryz.f94
noncomputable def qJ:Code:=JK b94 0
theorem e94:EQ 94 54 [.tmp 2] h94 b94:=EO Tryz.func94 Tryz.ntmps94
noncomputable def b95:Code:=JC Tryz.f95
theorem e95:EQ 95 10 [.tmp 4] h95 b95:=EO Tryz.func95 Tryz.ntmps95
noncomputable def b96:Code:=JC Tryz.f96
theorem e96:EQ 96 7 [.cell 2 28] h96 b96:=EO Tryz.func96 Tryz.ntmps96
noncomputable def b97:Code:=JC Tryz.f97
noncomputable def Hs:Code:=JK b97 0
theorem e97:EQ 97 19 [.tmp 2] h97 b97:=EO Tryz.func97 Tryz.ntmps97
noncomputable def b98:Code:=JC Tryz.f98
theorem e98:EQ 98 19 [.tmp 6] h98 b98:=EO Tryz.func98 Tryz.ntmps98
noncomputable def b99:Code:=JC Tryz.f99
noncomputable def Qo:Code:=JK b99 0
theorem e99:EQ 99 102 [.cell 2 39,.tmp 3] h99 b99:=EO Tryz.func99 Tryz.ntmps99
noncomputable def JNm:Code:=JC Tryz.f100
noncomputable def qi:Code:=JK JNm 0
theorem Jqt:EQ 100 36 [.tmp 2] JT7 JNm:=EO Tryz.func100 Tryz.ntmps100
noncomputable def JJm:Code:=JC Tryz.f101
theorem Jqu:EQ 101 29 [.tmp 2] Jcc JJm:=EO Tryz.func101 Tryz.ntmps101
noncomputable def Jqv:Code:=JC Tryz.f102
theorem JxB:EQ 102 11 [.tmp 2] Jil Jqv:=EO Tryz.func102 Tryz.ntmps102
noncomputable def Jdn:Code:=JC Tryz.f103
theorem Jjx:EQ 103 2 [.cell 0 28] Jin Jdn:=EO Tryz.func103 Tryz.ntmps103
noncomputable def JQ1:Code:=JC Tryz.f104
noncomputable def Jqw:Code:=JK JQ1 0
noncomputable def Jqx:Code:=JK JQ1 1
noncomputable def Jqy:Code:=JK JQ1 2
noncomputable def Jqz:Code:=JK JQ1 3
noncomputable def Jq0:Code:=JK JQ1 4
theorem JxC:EQ 104 55 [.cell 4 118] Jip JQ1:=EO Tryz.func104 Tryz.ntmps104
noncomputable def Jjy:Code:=JC Tryz.f105
noncomputable def Jq1:Code:=JK Jjy 0
theorem JxD:EQ 105 53 [.cell 4 118] Jir Jjy:=EO Tryz.func105 Tryz.ntmps105
noncomputable def qj:Code:=JC Tryz.f106
noncomputable def ql:Code:=JK qj 0
theorem JXW:EQ 106 70 [.tmp 2] JXN qj:=EO Tryz.func106 Tryz.ntmps106
noncomputable def Jjz:Code:=JC Tryz.f107
theorem Jq2:EQ 107 25 [.tmp 2] Jiu Jjz:=EO Tryz.func107 Tryz.ntmps107
noncomputable def Jj0:Code:=JC Tryz.f108
theorem Jq3:EQ 108 9 [.tmp 2] Jiw Jj0:=EO Tryz.func108 Tryz.ntmps108
noncomputable def JNn:Code:=JC Tryz.f109
noncomputable def zx:Code:=JK JNn 0
theorem Jq4:EQ 109 12 [] JXO JNn:=EO Tryz.func109 Tryz.ntmps109
noncomputable def Yt:Code:=JC Tryz.f110
noncomputable def JCj:Code:=JK Yt 0
theorem Jq5:EQ 110 153 [.cell 2 28,.tmp 3,.tmp 4] Jcd Yt:=EO Tryz.func110 Tryz.ntmps110
noncomputable def W0:Code:=JC Tryz.f111
noncomputable def KT:Code:=JK W0 0
theorem Jq6:EQ 111 91 [.cell 2 53] JNi W0:=EO Tryz.func111 Tryz.ntmps111
noncomputable def JQ2:Code:=JC Tryz.f112
noncomputable def JCk:Code:=JK JQ2 0
theorem Jq7:EQ 112 79 [.tmp 2] JXP JQ2:=EO Tryz.func112 Tryz.ntmps112
noncomputable def JJn:Code:=JC Tryz.f113
theorem Jq8:EQ 113 38 [.tmp 2,.tmp 3,.tmp 4] Ji2 JJn:=EO Tryz.func113 Tryz.ntmps113
noncomputable def Jdo:Code:=JC Tryz.f115
theorem Jq9:EQ 115 12 [.cell 4 39] Ji4 Jdo:=EO Tryz.func115 Tryz.ntmps115
noncomputable def JJo:Code:=JC Tryz.f116
noncomputable def Hd:Code:=JK JJo 0
theorem JrA:EQ 116 19 [.tmp 2] JQw JJo:=EO Tryz.func116 Tryz.ntmps116
noncomputable def JJp:Code:=JC Tryz.f117
noncomputable def Gp:Code:=JK JJp 0
theorem JrB:EQ 117 30 [.tmp 2] JQx JJp:=EO Tryz.func117 Tryz.ntmps117
noncomputable def JQ3:Code:=JC Tryz.f118
noncomputable def Je:Array Oper:=(WK 3 JQ3).headD #[]
theorem JUG:Jk ⟨[0,1,2,3,4,5,6,7,8,9,10,11,12,13],[],JQ⟩ Je yo 0 true #[true,true,true,true,true,true,true,true,true,true,true,true,true,true,true,true]=true:=by exact JcU kr
theorem JLc:Jk ⟨[0,1,2,3,4,5,6,7,8,9,10,11,12,13],[],JQ⟩ Je G4 1 true #[true,true,true,true,true,true,true,true,true,true,true,true,true,true,true,false]=true:=by exact JTo kr kr JUG
theorem JUH:Jk ⟨[0,1,2,3,4,5,6,7,8,9,10,11,12,13],[],JQ⟩ Je yp 2 true #[true,true,true,true,true,true,true,true,true,true,true,true,true,true,false,false]=true:=by exact JTo kr kr JLc
theorem JLd:Jk ⟨[0,1,2,3,4,5,6,7,8,9,10,11,12,13],[],JQ⟩ Je G5 2 true #[true,true,true,true,true,true,true,true,true,true,true,true,true,false,true,false]=true:=by exact Jz kr kr kr JLc
theorem JUJ:Jk ⟨[0,1,2,3,4,5,6,7,8,9,10,11,12,13],[],JQ⟩ Je yq 3 true #[true,true,true,true,true,true,true,true,true,true,true,true,true,false,false,false]=true:=by exact KN kr (JS kr JUH) (JS kr JLd)
theorem JCl:Jk ⟨[0,1,2,3,4,5,6,7,8,9,10,11,12,13],[],JQ⟩ Je Yd 3 true #[true,true,true,true,true,true,true,true,true,true,true,true,false,false,true,false]=true:=by exact Jz kr kr kr JLd
theorem JLe:Jk ⟨[0,1,2,3,4,5,6,7,8,9,10,11,12,13],[],JQ⟩ Je G6 4 true #[true,true,true,true,true,true,true,true,true,true,true,true,false,false,false,false]=true:=by exact KN kr (JS kr JUJ) (JS kr JCl)
theorem JCm:Jk ⟨[0,1,2,3,4,5,6,7,8,9,10,11,12,13],[],JQ⟩ Je Ye 4 true #[true,true,true,true,true,true,true,true,true,true,true,false,false,false,true,false]=true:=by exact Jz kr kr kr JCl
theorem JLf:Jk ⟨[0,1,2,3,4,5,6,7,8,9,10,11,12,13],[],JQ⟩ Je G7 5 true #[true,true,true,true,true,true,true,true,true,true,true,false,false,false,false,false]=true:=by exact KN kr (JS kr JLe) (JS kr JCm)
theorem JCn:Jk ⟨[0,1,2,3,4,5,6,7,8,9,10,11,12,13],[],JQ⟩ Je Yf 5 true #[true,true,true,true,true,true,true,true,true,true,false,false,false,false,true,false]=true:=by exact Jz kr kr kr JCm
theorem JGy:Jk ⟨[0,1,2,3,4,5,6,7,8,9,10,11,12,13],[],JQ⟩ Je Y9 6 true #[true,true,true,true,true,true,true,true,true,true,false,false,false,false,false,false]=true:=by exact KN kr (JS kr JLf) (JS kr JCn)
theorem zy:Jk ⟨[0,1,2,3,4,5,6,7,8,9,10,11,12,13],[],JQ⟩ Je Wf 6 true #[true,true,true,true,true,true,true,true,true,false,false,false,false,false,true,false]=true:=by exact Jz kr kr kr JCn
theorem JGz:Jk ⟨[0,1,2,3,4,5,6,7,8,9,10,11,12,13],[],JQ⟩ Je ZA 7 true #[true,true,true,true,true,true,true,true,true,false,false,false,false,false,false,false]=true:=by exact KN kr (JS kr JGy) (JS kr zy)
theorem z6:Jk ⟨[0,1,2,3,4,5,6,7,8,9,10,11,12,13],[],JQ⟩ Je Wg 7 true #[true,true,true,true,true,true,true,true,false,false,false,false,false,false,true,false]=true:=by exact Jz kr kr kr zy
theorem JG0:Jk ⟨[0,1,2,3,4,5,6,7,8,9,10,11,12,13],[],JQ⟩ Je ZB 8 true #[true,true,true,true,true,true,true,true,false,false,false,false,false,false,false,false]=true:=by exact KN kr (JS kr JGz) (JS kr z6)
theorem JG1:Jk ⟨[0,1,2,3,4,5,6,7,8,9,10,11,12,13],[],JQ⟩ Je ZC 8 true #[true,true,true,true,true,true,true,false,false,false,false,false,false,false,true,false]=true:=by exact Jz kr kr kr z6
theorem JQ4:Jk ⟨[0,1,2,3,4,5,6,7,8,9,10,11,12,13],[],JQ⟩ Je jt 9 true #[true,true,true,true,true,true,true,false,false,false,false,false,false,false,false,false]=true:=by exact KN kr (JS kr JG0) (JS kr JG1)
theorem JG2:Jk ⟨[0,1,2,3,4,5,6,7,8,9,10,11,12,13],[],JQ⟩ Je ZD 4 true #[true,true,true,true,true,true,false,true,true,true,true,true,false,false,true,false]=true:=by exact Jz kr kr kr JCl
theorem JG3:Jk ⟨[0,1,2,3,4,5,6,7,8,9,10,11,12,13],[],JQ⟩ Je ZG 5 true #[true,true,true,true,true,true,false,true,true,true,true,true,false,false,false,false]=true:=by exact KN kr (JS kr JLe) (JS kr JG2)
theorem JG4:Jk ⟨[0,1,2,3,4,5,6,7,8,9,10,11,12,13],[],JQ⟩ Je ZH 5 true #[true,true,true,true,true,true,false,true,true,true,true,false,false,false,true,false]=true:=by exact Jz kr kr kr JCm
theorem JG5:Jk ⟨[0,1,2,3,4,5,6,7,8,9,10,11,12,13],[],JQ⟩ Je ZJ 6 true #[true,true,true,true,true,true,false,true,true,true,true,false,false,false,false,false]=true:=by exact KN kr (JS kr JLf) (Kq (JS kr JG3) (JS kr JG4))
theorem JG6:Jk ⟨[0,1,2,3,4,5,6,7,8,9,10,11,12,13],[],JQ⟩ Je ZK 6 true #[true,true,true,true,true,true,false,true,true,true,false,false,false,false,true,false]=true:=by exact Jz kr kr kr JCn
theorem JG7:Jk ⟨[0,1,2,3,4,5,6,7,8,9,10,11,12,13],[],JQ⟩ Je ZL 7 true #[true,true,true,true,true,true,false,true,true,true,false,false,false,false,false,false]=true:=by exact KN kr (JS kr JGy) (Kq (JS kr JG5) (JS kr JG6))
theorem JG8:Jk ⟨[0,1,2,3,4,5,6,7,8,9,10,11,12,13],[],JQ⟩ Je ZM 7 true #[true,true,true,true,true,true,false,true,true,false,false,false,false,false,true,false]=true:=by exact Jz kr kr kr zy
theorem JG9:Jk ⟨[0,1,2,3,4,5,6,7,8,9,10,11,12,13],[],JQ⟩ Je ZN 8 true #[true,true,true,true,true,true,false,true,true,false,false,false,false,false,false,false]=true:=by exact KN kr (JS kr JGz) (Kq (JS kr JG7) (JS kr JG8))
theorem JHA:Jk ⟨[0,1,2,3,4,5,6,7,8,9,10,11,12,13],[],JQ⟩ Je ZO 8 true #[true,true,true,true,true,true,false,true,false,false,false,false,false,false,true,false]=true:=by exact Jz kr kr kr z6
theorem JHB:Jk ⟨[0,1,2,3,4,5,6,7,8,9,10,11,12,13],[],JQ⟩ Je ZP 9 true #[true,true,true,true,true,true,false,true,false,false,false,false,false,false,false,false]=true:=by exact KN kr (JS kr JG0) (Kq (JS kr JG9) (JS kr JHA))
theorem JHC:Jk ⟨[0,1,2,3,4,5,6,7,8,9,10,11,12,13],[],JQ⟩ Je ZQ 9 true #[true,true,true,true,true,true,false,false,false,false,false,false,false,false,true,false]=true:=by exact Jz kr kr kr JG1
theorem JQ5:Jk ⟨[0,1,2,3,4,5,6,7,8,9,10,11,12,13],[],JQ⟩ Je ju 10 true #[true,true,true,true,true,true,false,false,false,false,false,false,false,false,false,false]=true:=by exact KN kr (JS kr JQ4) (Kq (JS kr JHB) (JS kr JHC))
theorem JHD:Jk ⟨[0,1,2,3,4,5,6,7,8,9,10,11,12,13],[],JQ⟩ Je ZR 5 true #[true,true,true,true,true,false,false,true,true,true,true,true,false,false,true,false]=true:=by exact Jz kr kr kr JG2
theorem JHG:Jk ⟨[0,1,2,3,4,5,6,7,8,9,10,11,12,13],[],JQ⟩ Je ZS 6 true #[true,true,true,true,true,false,false,true,true,true,true,true,false,false,false,false]=true:=by exact KN kr (JS kr JG3) (JS kr JHD)
theorem JHH:Jk ⟨[0,1,2,3,4,5,6,7,8,9,10,11,12,13],[],JQ⟩ Je ZT 6 true #[true,true,true,true,true,false,false,true,true,true,true,false,false,false,true,false]=true:=by exact Jz kr kr kr JG4
theorem JHJ:Jk ⟨[0,1,2,3,4,5,6,7,8,9,10,11,12,13],[],JQ⟩ Je ZU 7 true #[true,true,true,true,true,false,false,true,true,true,true,false,false,false,false,false]=true:=by exact KN kr (JS kr JG5) (Kq (JS kr JHG) (JS kr JHH))
theorem JHK:Jk ⟨[0,1,2,3,4,5,6,7,8,9,10,11,12,13],[],JQ⟩ Je ZV 7 true #[true,true,true,true,true,false,false,true,true,true,false,false,false,false,true,false]=true:=by exact Jz kr kr kr JG6
theorem JHL:Jk ⟨[0,1,2,3,4,5,6,7,8,9,10,11,12,13],[],JQ⟩ Je ZW 8 true #[true,true,true,true,true,false,false,true,true,true,false,false,false,false,false,false]=true:=by exact KN kr (JS kr JG7) (Kq (JS kr JHJ) (JS kr JHK))
theorem JHM:Jk ⟨[0,1,2,3,4,5,6,7,8,9,10,11,12,13],[],JQ⟩ Je ZX 8 true #[true,true,true,true,true,false,false,true,true,false,false,false,false,false,true,false]=true:=by exact Jz kr kr kr JG8
theorem JHN:Jk ⟨[0,1,2,3,4,5,6,7,8,9,10,11,12,13],[],JQ⟩ Je ZY 9 true #[true,true,true,true,true,false,false,true,true,false,false,false,false,false,false,false]=true:=by exact KN kr (JS kr JG9) (Kq (JS kr JHL) (JS kr JHM))
theorem JHO:Jk ⟨[0,1,2,3,4,5,6,7,8,9,10,11,12,13],[],JQ⟩ Je ZZ 9 true #[true,true,true,true,true,false,false,true,false,false,false,false,false,false,true,false]=true:=by exact Jz kr kr kr JHA
theorem JHP:Jk ⟨[0,1,2,3,4,5,6,7,8,9,10,11,12,13],[],JQ⟩ Je Za 10 true #[true,true,true,true,true,false,false,true,false,false,false,false,false,false,false,false]=true:=by exact KN kr (JS kr JHB) (Kq (JS kr JHN) (JS kr JHO))
theorem JHQ:Jk ⟨[0,1,2,3,4,5,6,7,8,9,10,11,12,13],[],JQ⟩ Je Zb 10 true #[true,true,true,true,true,false,false,false,false,false,false,false,false,false,true,false]=true:=by exact Jz kr kr kr JHC
theorem JQ6:Jk ⟨[0,1,2,3,4,5,6,7,8,9,10,11,12,13],[],JQ⟩ Je jv 11 true #[true,true,true,true,true,false,false,false,false,false,false,false,false,false,false,false]=true:=by exact KN kr (JS kr JQ5) (Kq (JS kr JHP) (JS kr JHQ))
theorem JHR:Jk ⟨[0,1,2,3,4,5,6,7,8,9,10,11,12,13],[],JQ⟩ Je Zc 6 true #[true,true,true,true,false,false,false,true,true,true,true,true,false,false,true,false]=true:=by exact Jz kr kr kr JHD
theorem JHS:Jk ⟨[0,1,2,3,4,5,6,7,8,9,10,11,12,13],[],JQ⟩ Je Zd 7 true #[true,true,true,true,false,false,false,true,true,true,true,true,false,false,false,false]=true:=by exact KN kr (JS kr JHG) (JS kr JHR)
theorem JHT:Jk ⟨[0,1,2,3,4,5,6,7,8,9,10,11,12,13],[],JQ⟩ Je Ze 7 true #[true,true,true,true,false,false,false,true,true,true,true,false,false,false,true,false]=true:=by exact Jz kr kr kr JHH
theorem JHU:Jk ⟨[0,1,2,3,4,5,6,7,8,9,10,11,12,13],[],JQ⟩ Je Zf 8 true #[true,true,true,true,false,false,false,true,true,true,true,false,false,false,false,false]=true:=by exact KN kr (JS kr JHJ) (Kq (JS kr JHS) (JS kr JHT))
theorem JHV:Jk ⟨[0,1,2,3,4,5,6,7,8,9,10,11,12,13],[],JQ⟩ Je Zg 8 true #[true,true,true,true,false,false,false,true,true,true,false,false,false,false,true,false]=true:=by exact Jz kr kr kr JHK
theorem JHW:Jk ⟨[0,1,2,3,4,5,6,7,8,9,10,11,12,13],[],JQ⟩ Je Zh 9 true #[true,true,true,true,false,false,false,true,true,true,false,false,false,false,false,false]=true:=by exact KN kr (JS kr JHL) (Kq (JS kr JHU) (JS kr JHV))
theorem JHX:Jk ⟨[0,1,2,3,4,5,6,7,8,9,10,11,12,13],[],JQ⟩ Je Zi 9 true #[true,true,true,true,false,false,false,true,true,false,false,false,false,false,true,false]=true:=by exact Jz kr kr kr JHM
theorem JHY:Jk ⟨[0,1,2,3,4,5,6,7,8,9,10,11,12,13],[],JQ⟩ Je Zj 10 true #[true,true,true,true,false,false,false,true,true,false,false,false,false,false,false,false]=true:=by exact KN kr (JS kr JHN) (Kq (JS kr JHW) (JS kr JHX))
theorem JHZ:Jk ⟨[0,1,2,3,4,5,6,7,8,9,10,11,12,13],[],JQ⟩ Je Zk 10 true #[true,true,true,true,false,false,false,true,false,false,false,false,false,false,true,false]=true:=by exact Jz kr kr kr JHO
theorem JHa:Jk ⟨[0,1,2,3,4,5,6,7,8,9,10,11,12,13],[],JQ⟩ Je Zl 11 true #[true,true,true,true,false,false,false,true,false,false,false,false,false,false,false,false]=true:=by exact KN kr (JS kr JHP) (Kq (JS kr JHY) (JS kr JHZ))
theorem JHb:Jk ⟨[0,1,2,3,4,5,6,7,8,9,10,11,12,13],[],JQ⟩ Je Zm 11 true #[true,true,true,true,false,false,false,false,false,false,false,false,false,false,true,false]=true:=by exact Jz kr kr kr JHQ
theorem JQ7:Jk ⟨[0,1,2,3,4,5,6,7,8,9,10,11,12,13],[],JQ⟩ Je jw 12 true #[true,true,true,true,false,false,false,false,false,false,false,false,false,false,false,false]=true:=by exact KN kr (JS kr JQ6) (Kq (JS kr JHa) (JS kr JHb))
theorem JQ8:Jk ⟨[0,1,2,3,4,5,6,7,8,9,10,11,12,13],[],JQ⟩ Je jx 7 true #[true,true,true,false,false,false,false,true,true,true,true,true,false,false,true,false]=true:=by exact Jz kr kr kr JHR
theorem JQ9:Jk ⟨[0,1,2,3,4,5,6,7,8,9,10,11,12,13],[],JQ⟩ Je jy 8 true #[true,true,true,false,false,false,false,true,true,true,true,true,false,false,false,false]=true:=by exact KN kr (JS kr JHS) (JS kr JQ8)
theorem JRA:Jk ⟨[0,1,2,3,4,5,6,7,8,9,10,11,12,13],[],JQ⟩ Je jz 8 true #[true,true,true,false,false,false,false,true,true,true,true,false,false,false,true,false]=true:=by exact Jz kr kr kr JHT
theorem JRB:Jk ⟨[0,1,2,3,4,5,6,7,8,9,10,11,12,13],[],JQ⟩ Je j8 9 true #[true,true,true,false,false,false,false,true,true,true,true,false,false,false,false,false]=true:=by exact KN kr (JS kr JHU) (Kq (JS kr JQ9) (JS kr JRA))
theorem JRC:Jk ⟨[0,1,2,3,4,5,6,7,8,9,10,11,12,13],[],JQ⟩ Je j9 9 true #[true,true,true,false,false,false,false,true,true,true,false,false,false,false,true,false]=true:=by exact Jz kr kr kr JHV
theorem JRD:Jk ⟨[0,1,2,3,4,5,6,7,8,9,10,11,12,13],[],JQ⟩ Je kA 10 true #[true,true,true,false,false,false,false,true,true,true,false,false,false,false,false,false]=true:=by exact KN kr (JS kr JHW) (Kq (JS kr JRB) (JS kr JRC))
theorem JRG:Jk ⟨[0,1,2,3,4,5,6,7,8,9,10,11,12,13],[],JQ⟩ Je kB 10 true #[true,true,true,false,false,false,false,true,true,false,false,false,false,false,true,false]=true:=by exact Jz kr kr kr JHX
theorem JRH:Jk ⟨[0,1,2,3,4,5,6,7,8,9,10,11,12,13],[],JQ⟩ Je kC 11 true #[true,true,true,false,false,false,false,true,true,false,false,false,false,false,false,false]=true:=by exact KN kr (JS kr JHY) (Kq (JS kr JRD) (JS kr JRG))
theorem JRJ:Jk ⟨[0,1,2,3,4,5,6,7,8,9,10,11,12,13],[],JQ⟩ Je kD 11 true #[true,true,true,false,false,false,false,true,false,false,false,false,false,false,true,false]=true:=by exact Jz kr kr kr JHZ
theorem JRK:Jk ⟨[0,1,2,3,4,5,6,7,8,9,10,11,12,13],[],JQ⟩ Je kG 12 true #[true,true,true,false,false,false,false,true,false,false,false,false,false,false,false,false]=true:=by exact KN kr (JS kr JHa) (Kq (JS kr JRH) (JS kr JRJ))
theorem JRL:Jk ⟨[0,1,2,3,4,5,6,7,8,9,10,11,12,13],[],JQ⟩ Je kH 12 true #[true,true,true,false,false,false,false,false,false,false,false,false,false,false,true,false]=true:=by exact Jz kr kr kr JHb
theorem JRM:Jk ⟨[0,1,2,3,4,5,6,7,8,9,10,11,12,13],[],JQ⟩ Je kJ 13 true #[true,true,true,false,false,false,false,false,false,false,false,false,false,false,false,false]=true:=by exact KN kr (JS kr JQ7) (Kq (JS kr JRK) (JS kr JRL))
theorem JRN:Jk ⟨[0,1,2,3,4,5,6,7,8,9,10,11,12,13],[],JQ⟩ Je kK 14 true #[true,true,false,false,false,false,false,false,false,false,false,false,false,false,false,false]=true:=by exact Jz kr kr kr JRM
theorem JRO:Jk ⟨[0,1,2,3,4,5,6,7,8,9,10,11,12,13],[],JQ⟩ Je kL 15 true #[true,false,false,false,false,false,false,false,false,false,false,false,false,false,false,false]=true:=by exact Jz kr kr kr JRN
theorem JRP:Jk ⟨[0,1,2,3,4,5,6,7,8,9,10,11,12,13],[],JQ⟩ Je JQ 16 true #[false,false,false,false,false,false,false,false,false,false,false,false,false,false,false,false]=true:=by exact Jz kr kr kr JRO
theorem c118:codeOk Aa Jdd 30 JQ3=true:=by
 refine Qw (r:=3) kr λo ho=>?_
 rw[show WK 3 JQ3=[Je]from by kernel_rfl]at ho
 obtain rfl:o=Je:=by simpa using ho
 exact JNd (mx:=⟨[0,1,2,3,4,5,6,7,8,9,10,11,12,13],[],JQ⟩) rfl kr ((show Jk ⟨[0,1,2,3,4,5,6,7,8,9,10,11,12,13],[],JQ⟩ Je JQ (Je.size) true (Array.replicate (Je.size) false)=true from by rw[show Je.size=16 from by kernel_rfl];exact JRP))
theorem JrC{lo:Nat}{args:List V}{h:JG}(ha:args.length<=30)(hb:args.all bare=true):
  E lo 118 args h=fin Aa [.cell 2 39,.tmp 3] h.length (evCode ⟨Aa,E,lo,h.length,Jdd⟩ JA JQ3 (QH args,h)):=
 JOn rfl Tryz.func118 rfl Tryz.ntmps118 kr rfl c118 rfl rfl rfl ha hb
noncomputable def JNo:Code:=JC Tryz.f119
noncomputable def qm:Code:=JK JNo 0
theorem JrD:EQ 119 36 [.tmp 2] JT8 JNo:=EO Tryz.func119 Tryz.ntmps119
noncomputable def Gq:Code:=JC Tryz.f120
noncomputable def jS:Code:=JK Gq 0
theorem JUK:EQ 120 77 [.tmp 4] JQy Gq:=EO Tryz.func120 Tryz.ntmps120
noncomputable def JXX:Code:=JC Tryz.f121
theorem JrG:EQ 121 25 [.tmp 6] JjC JXX:=EO Tryz.func121 Tryz.ntmps121
noncomputable def Jj1:Code:=JC Tryz.f122
theorem JrH:EQ 122 7 [.tmp 2] JjG Jj1:=EO Tryz.func122 Tryz.ntmps122
noncomputable def GN:Code:=JC Tryz.f123
noncomputable def K1:Code:=JK GN 0
theorem JrJ:EQ 123 93 [.cell 2 39,.tmp 3] Jde GN:=EO Tryz.func123 Tryz.ntmps123
noncomputable def JRQ:Code:=JC Tryz.f124
noncomputable def z7:Code:=JK JRQ 0
theorem JrK:EQ 124 12 [.tmp 4] JT9 JRQ:=EO Tryz.func124 Tryz.ntmps124
noncomputable def JrL:Code:=JC Tryz.f125
theorem JxG:EQ 125 14 [.cell 2 118] JjM JrL:=EO Tryz.func125 Tryz.ntmps125
noncomputable def JrM:Code:=JC Tryz.f126
theorem JxH:EQ 126 24 [.tmp 4] JjO JrM:=EO Tryz.func126 Tryz.ntmps126
noncomputable def JxJ:Code:=JC Tryz.f127
noncomputable def JrN:Code:=JC Tryz.f128
theorem JxK:EQ 128 14 [.cell 2 118] JjR JrN:=EO Tryz.func128 Tryz.ntmps128
noncomputable def JUL:Code:=JC Tryz.f129
theorem JrO:EQ 129 29 [.tmp 2,.tmp 3] JjT JUL:=EO Tryz.func129 Tryz.ntmps129
noncomputable def JD0:Code:=JC Tryz.f130
noncomputable def He:Code:=JK JD0 0
theorem JrP:EQ 130 18 [.tmp 4] JXQ JD0:=EO Tryz.func130 Tryz.ntmps130
noncomputable def KB:Code:=JC Tryz.f131
noncomputable def z8:Code:=JK KB 0
noncomputable def JCo:Code:=JK KB 1
noncomputable def JCp:Code:=JK KB 2
noncomputable def qo:Code:=JK KB 3
noncomputable def JAA:Code:=JK KB 4
noncomputable def Hf:Code:=JK KB 5
noncomputable def JCq:Code:=JK KB 6
noncomputable def Gr:Code:=JK KB 7
theorem JrQ:EQ 131 132 [.cell 6 28] Hc KB:=EO Tryz.func131 Tryz.ntmps131
noncomputable def JA4:Code:=JC Tryz.f132
noncomputable def YN:Code:=JK JA4 0
theorem JrR:EQ 132 26 [.cell 2 53] JQz JA4:=EO Tryz.func132 Tryz.ntmps132
noncomputable def Jj2:Code:=JC Tryz.f133
theorem JrS:EQ 133 25 [.tmp 2] JjY Jj2:=EO Tryz.func133 Tryz.ntmps133
noncomputable def Jdp:Code:=JC Tryz.f136
theorem JrT:EQ 136 10 [.tmp 2] Jja Jdp:=EO Tryz.func136 Tryz.ntmps136
noncomputable def Jj3:Code:=JC Tryz.f137
theorem JrU:EQ 137 2 [.tmp 0] Jjc Jj3:=EO Tryz.func137 Tryz.ntmps137
noncomputable def JCr:Code:=JC Tryz.f138
noncomputable def Z8:Code:=JK JCr 0
theorem JrV:EQ 138 44 [.cell 2 39,.tmp 3] Jdf JCr:=EO Tryz.func138 Tryz.ntmps138
noncomputable def Jj4:Code:=JC Tryz.f140
theorem JrW:EQ 140 9 [.tmp 2] Jjf Jj4:=EO Tryz.func140 Tryz.ntmps140
noncomputable def JXY:Code:=JC Tryz.f141
theorem JrX:EQ 141 21 [.tmp 2] Jjh JXY:=EO Tryz.func141 Tryz.ntmps141
noncomputable def JCs:Code:=JC Tryz.f142
noncomputable def Z9:Code:=JK JCs 0
theorem JrY:EQ 142 44 [.cell 2 39,.tmp 3] Jdg JCs:=EO Tryz.func142 Tryz.ntmps142
noncomputable def JA5:Code:=JC Tryz.f143
theorem Jdq:EQ 143 90 [.tmp 8] Jjk JA5:=EO Tryz.func143 Tryz.ntmps143
noncomputable def JXZ:Code:=JC Tryz.f144
theorem JrZ:EQ 144 12 [.cell 2 39] Jjm JXZ:=EO Tryz.func144 Tryz.ntmps144
noncomputable def JRR:Code:=JC Tryz.f145
noncomputable def JAB:Code:=JK JRR 0
theorem Jra:EQ 145 12 [.tmp 4] JUA JRR:=EO Tryz.func145 Tryz.ntmps145
noncomputable def Jdr:Code:=JC Tryz.f146
theorem Jrb:EQ 146 10 [.tmp 2] Jjp Jdr:=EO Tryz.func146 Tryz.ntmps146
noncomputable def JXa:Code:=JC Tryz.f147
theorem Jj5:EQ 147 46 [.cell 2 39,.tmp 3] Jjs JXa:=EO Tryz.func147 Tryz.ntmps147
noncomputable def JNp:Code:=JC Tryz.f148
noncomputable def jT:Code:=JK JNp 0
theorem Jrc:EQ 148 45 [.tmp 1] Jdh JNp:=EO Tryz.func148 Tryz.ntmps148
end Go.Lift.Y1
