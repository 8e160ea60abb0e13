/- Facts of the program that the evaluation asks for: the live slots of each function, its types. Written by a program (gen.py). -/
import Derived.Test.YtolidijpmnompaaGreatDoorRows
import Derived.Lib.TrimAscii
import Derived.Shelf.Strings.Fields
import Derived.Test.YtolidijpmnompaaGreatDoorGLd
import Derived.Test.YtolidijpmnompaaGreatDoorGKa
open ByteArray renaming empty->AE
open Go.Proofs.Tryz renaming prog->Aa
set_option linter.unusedVariables false
set_option linter.unusedSimpArgs false
set_option linter.unusedSectionVars false
set_option maxRecDepth 20000
namespace Go.Lift.Y1
open Go.Proofs
instance gtab:GTab:=⟨λn=>match n with|1=>some ((List.range 256).map λc=>V.v (.int .u8 (if Go.Lib.isSp (UInt8.ofNat c)then 1 else 0)))|0=>some [.v (.int .i64 21),.v (.int .i64 22),.v (.int .i64 19),.v (.int .i64 20),.v (.int .i64 23),.v (.int .i64 24),.v (.int .i64 18),.v (.int .i64 16),.v (.int .i64 17)]|_=>none⟩
noncomputable def GK(lo:Nat)(args:List V)(h:JM):Option (V×JM):=match args with
 |[.v (.string s)]=>if s.size<4294967281/\(s.data.toList.all λb=>decide (b.toNat<128))=true then some (.list .no ((Go.Lib.fields s.data.toList).map λl=>[.v (.string ⟨l.toArray⟩)]),h)else none
 |_=>none
noncomputable def JRJ(lo:Nat)(args:List V)(h:JM):Option (V×JM):=match args with
 |[.agg [.v (.int .u64 a),.v (.int .u64 x)],.agg [.v (.int .u64 b),.v (.int .u64 y)]]=>if a=0/\b=0/\0<=y/\y<=x/\x<18446744073709551616 then some (.agg [.v (.int .u64 0),.v (.int .u64 (x-y))],h)else none
 |_=>none
noncomputable def primz0:Nat->Option (Nat->List V->JM->Option (V×JM)):=λn=>match n with|52=>some GK|127=>some JRJ|_=>none
def wd(a b:Int):V:= .agg [.v (.int .u64 a),.v (.int .u64 b)]
def rt(a b:Int):V:= .agg [.v (.int .i64 a),.v (.int .i64 b)]
def twM:List (List V×V):=[([wd 0 0],wd 0 0),([wd 0 1],wd 0 2),([wd 0 2],wd 0 4),([wd 0 3],wd 0 6)]
def lsM:List (List V×V):=[([wd 0 0,wd 0 1],.v (.bool true)),([wd 0 1,wd 0 1],.v (.bool false))]
def gcM:List (List V×V):=[([wd 0 6,wd 0 5],wd 0 1),([wd 0 1,wd 0 1],wd 0 1),([wd 0 0,wd 0 1],wd 0 1)]
def dvM:List (List V×V):=[([wd 0 6,wd 0 1],wd 0 6),([wd 0 5,wd 0 1],wd 0 5),([wd 0 1,wd 0 1],wd 0 1),([wd 0 0,wd 0 1],wd 0 0)]
def qM:List (List V×V):=[([.v (.int .i64 6),.v (.int .i64 5)],rt 6 5),([.v (.int .i64 1),.v (.int .i64 1)],rt 1 1),([.v (.int .i64 0),.v (.int .i64 1)],rt 0 1)]
noncomputable def primA:Nat->Option (Nat->List V->JM->Option (V×JM)):=λn=>match n with|128=>some (GC twM)|126=>some (GC lsM)|52=>some GK|127=>some JRJ|_=>none
noncomputable def primB:Nat->Option (Nat->List V->JM->Option (V×JM)):=λn=>match n with|104=>some (GC gcM)|105=>some (GC dvM)|52=>some GK|127=>some JRJ|_=>none
def JOu:List (List V×V):=[([],.v (.bool true))]
noncomputable def primz:Nat->Option (Nat->List V->JM->Option (V×JM)):=λn=>match n with|5=>some (GC JOu)|52=>some GK|45=>some (GC qM)|_=>none
instance bty:BTy:=⟨[],some 5⟩
@[go_sem] theorem JlK:BTy.bt=[]:=rfl
@[go_sem] theorem JlL:(BTy.bt.isEmpty)=true:=rfl
@[go_sem] theorem Jn2(n:Nat):JK5 n=none:=rfl
@[go_sem] theorem JlM:BTy.bb=some 5:=rfl
@[go_sem] theorem Jd1:((5:TypeId)==5)=true:=rfl
abbrev FT(t a:Nat)(b:Option Bool)(c:Nat)(d e f:Bool)(g:List Value):Prop:=JD Aa t=a∧QQ Aa t=b∧Aa.bytesOf t=c∧Yq Aa t=d∧Gf Aa t=e∧Ga Aa t=f∧Kr Aa t=some g∧(Aa.info? t).isSome=true
theorem FK{t a:Nat}{b:Option Bool}{c:Nat}{d e f:Bool}{g:List Value}(h1:JD Aa t=a:=by kernel_rfl)(h2:QQ Aa t=b:=by kernel_rfl)(h3:Aa.bytesOf t=c:=by kernel_rfl)(h4:Yq Aa t=d:=by kernel_rfl)(h5:Gf Aa t=e:=by kernel_rfl)(h6:Ga Aa t=f:=by kernel_rfl)(h7:Kr Aa t=some g:=by kernel_rfl)(h8:(Aa.info? t).isSome=true:=by kernel_rfl):FT t a b c d e f g:=⟨h1,h2,h3,h4,h5,h6,h7,h8⟩
attribute [go_sem] Tryz.underlying2 Tryz.underlying3 Tryz.underlying4 Tryz.underlying5 Tryz.underlying9 Tryz.underlying21 Tryz.underlying22 Tryz.underlying24 Tryz.underlying26 Tryz.underlying28 Tryz.underlying30 Tryz.underlying32 Tryz.underlying33 Tryz.underlying35 Tryz.underlying37 Tryz.underlying39 Tryz.underlying41 Tryz.underlying42 Tryz.underlying53 Tryz.underlying55 Tryz.underlying56 Tryz.underlying60 Tryz.underlying62 Tryz.underlying88 Tryz.underlying93 Tryz.underlying94 Tryz.underlying102 Tryz.underlying103 Tryz.underlying113 Tryz.underlying115 Tryz.underlying118 Tryz.underlying120 Tryz.underlying137 Tryz.underlying149 Tryz.underlying157 Tryz.underlying180
@[go_sem] theorem z2:FT 2 1 (some false) 8 false false false [.int .i64 0]:=FK
@[go_sem] theorem z3:FT 3 1 (some false) 8 false false false [.int .i64 0]:=FK
@[go_sem] theorem z4:FT 4 1 (some false) 1 false false false [.bool false]:=FK
@[go_sem] theorem z5:FT 5 1 (some false) 1 false false true [.int .u8 0]:=FK
@[go_sem] theorem z9:FT 9 1 (some false) 16 true false false [.string AE]:=FK
@[go_sem] theorem z21:FT 21 1 (some false) 4 false true false [.int .i32 0]:=FK
@[go_sem] theorem z22:FT 22 1 (some false) 24 false false false [.slice none 0 0]:=FK
@[go_sem] theorem z24:FT 24 1 (some false) 24 false false false [.slice none 0 0]:=FK
@[go_sem] theorem z26:FT 26 1 (some false) 24 false false false [.slice none 0 0]:=FK
@[go_sem] theorem z28:FT 28 2 (some true) 16 false false false [.int .i64 0,.int .i64 0]:=FK
@[go_sem] theorem x28:structOk Aa 28=true:=kr
@[go_sem] theorem JlN:JR Aa 28 0=some (0,2):=kr
@[go_sem] theorem JlO:JR Aa 28 1=some (1,2):=kr
@[go_sem] theorem z30:FT 30 4 (some true) 40 false false false [.int .i64 0,.int .i64 0,.int .i64 0,.string AE]:=FK
@[go_sem] theorem x30:structOk Aa 30=true:=kr
@[go_sem] theorem JlP:JR Aa 30 0=some (0,3):=kr
@[go_sem] theorem JlQ:JR Aa 30 1=some (1,28):=kr
@[go_sem] theorem JlR:JR Aa 30 2=some (3,9):=kr
@[go_sem] theorem z32:FT 32 9 (some true) 96 false false false [.string AE,.int .i64 0,.bool false,.bool false,.slice none 0 0,.int .i64 0,.int .i64 0,.int .i64 0,.string AE]:=FK
@[go_sem] theorem x32:structOk Aa 32=true:=kr
@[go_sem] theorem JlS:JR Aa 32 0=some (0,9):=kr
@[go_sem] theorem JlT:JR Aa 32 1=some (1,3):=kr
@[go_sem] theorem JlU:JR Aa 32 2=some (2,4):=kr
@[go_sem] theorem JlV:JR Aa 32 3=some (3,4):=kr
@[go_sem] theorem JlW:JR Aa 32 4=some (4,26):=kr
@[go_sem] theorem JlX:JR Aa 32 5=some (5,30):=kr
@[go_sem] theorem z33:FT 33 1 (some false) 24 false false false [.slice none 0 0]:=FK
@[go_sem] theorem z35:FT 35 1 (some false) 24 false false false [.slice none 0 0]:=FK
@[go_sem] theorem z37:FT 37 1 (some false) 24 false false false [.slice none 0 0]:=FK
@[go_sem] theorem z39:FT 39 5 (some true) 56 false false false [.int .i64 0,.int .i64 0,.int .i64 0,.int .i64 0,.slice none 0 0]:=FK
@[go_sem] theorem x39:structOk Aa 39=true:=kr
@[go_sem] theorem JlY:JR Aa 39 0=some (0,3):=kr
@[go_sem] theorem JlZ:JR Aa 39 1=some (1,28):=kr
@[go_sem] theorem Jla:JR Aa 39 2=some (3,3):=kr
@[go_sem] theorem Jlb:JR Aa 39 3=some (4,37):=kr
@[go_sem] theorem z41:FT 41 8 (some true) 104 false false false [.int .i64 0,.int .i64 0,.int .i64 0,.int .i64 0,.int .i64 0,.slice none 0 0,.string AE,.slice none 0 0]:=FK
@[go_sem] theorem x41:structOk Aa 41=true:=kr
@[go_sem] theorem Jlc:JR Aa 41 0=some (0,3):=kr
@[go_sem] theorem Jld:JR Aa 41 1=some (1,39):=kr
@[go_sem] theorem Jle:JR Aa 41 2=some (6,9):=kr
@[go_sem] theorem Jlf:JR Aa 41 3=some (7,35):=kr
@[go_sem] theorem z42:FT 42 1 (some false) 8 false false false [.int .i64 0]:=FK
@[go_sem] theorem z53:FT 53 6 (some true) 48 false false false [.int .i64 0,.string AE,.int .i64 0,.int .i64 0,.bool false,.bool false]:=FK
@[go_sem] theorem x53:structOk Aa 53=true:=kr
@[go_sem] theorem Jlg:JR Aa 53 0=some (0,3):=kr
@[go_sem] theorem Jlh:JR Aa 53 1=some (1,9):=kr
@[go_sem] theorem Jli:JR Aa 53 2=some (2,28):=kr
@[go_sem] theorem Jlj:JR Aa 53 3=some (4,4):=kr
@[go_sem] theorem Jlk:JR Aa 53 4=some (5,4):=kr
@[go_sem] theorem z55:FT 55 7 (some true) 72 false false false [.int .i64 0,.string AE,.int .i64 0,.int .i64 0,.bool false,.bool false,.slice none 0 0]:=FK
@[go_sem] theorem x55:structOk Aa 55=true:=kr
@[go_sem] theorem Jll:JR Aa 55 0=some (0,53):=kr
@[go_sem] theorem Jlm:JR Aa 55 1=some (6,33):=kr
@[go_sem] theorem z56:FT 56 1 (some false) 24 false false false [.slice none 0 0]:=FK
@[go_sem] theorem z60:FT 60 7 (some true) 72 false false false [.int .i64 0,.string AE,.int .i64 0,.int .i64 0,.bool false,.bool false,.slice none 0 0]:=FK
@[go_sem] theorem x60:structOk Aa 60=true:=kr
@[go_sem] theorem Jln:JR Aa 60 0=some (0,53):=kr
@[go_sem] theorem Jlo:JR Aa 60 1=some (6,33):=kr
@[go_sem] theorem z62:FT 62 1 (some false) 24 false false false [.slice none 0 0]:=FK
attribute [go_sem] Tryz.underlying86
@[go_sem] theorem z86:JD Aa 86=1:=kr
@[go_sem] theorem k86:QQ Aa 86=some false:=kr
@[go_sem] theorem y86:Aa.bytesOf 86=8:=kr
@[go_sem] theorem s86:Yq Aa 86=false:=kr
@[go_sem] theorem j86:Gf Aa 86=false:=kr
@[go_sem] theorem w86:Ga Aa 86=false:=kr
@[go_sem] theorem i86:(Aa.info? 86).isSome=true:=kr
@[go_sem] theorem z88:FT 88 2 (some true) 32 false false false [.slice none 0 0,.int .i64 0]:=FK
@[go_sem] theorem x88:structOk Aa 88=true:=kr
@[go_sem] theorem Jlp:JR Aa 88 0=some (0,62):=kr
@[go_sem] theorem Jlq:JR Aa 88 1=some (1,3):=kr
@[go_sem] theorem z93:FT 93 8 (some true) 80 false false false [.string AE,.int .i64 0,.bool false,.bool false,.string AE,.string AE,.int .i64 0,.int .i64 0]:=FK
@[go_sem] theorem x93:structOk Aa 93=true:=kr
@[go_sem] theorem Jlr:JR Aa 93 0=some (0,9):=kr
@[go_sem] theorem Jls:JR Aa 93 1=some (1,3):=kr
@[go_sem] theorem Jlt:JR Aa 93 2=some (2,4):=kr
@[go_sem] theorem Jlu:JR Aa 93 3=some (3,4):=kr
@[go_sem] theorem Jlv:JR Aa 93 4=some (4,9):=kr
@[go_sem] theorem Jlw:JR Aa 93 5=some (5,9):=kr
@[go_sem] theorem Jlx:JR Aa 93 6=some (6,2):=kr
@[go_sem] theorem Jly:JR Aa 93 7=some (7,2):=kr
@[go_sem] theorem z94:FT 94 1 (some false) 24 false false false [.slice none 0 0]:=FK
attribute [go_sem] Tryz.underlying99
@[go_sem] theorem z99:JD Aa 99=1:=kr
@[go_sem] theorem k99:QQ Aa 99=some false:=kr
@[go_sem] theorem y99:Aa.bytesOf 99=8:=kr
@[go_sem] theorem s99:Yq Aa 99=false:=kr
@[go_sem] theorem j99:Gf Aa 99=false:=kr
@[go_sem] theorem w99:Ga Aa 99=false:=kr
@[go_sem] theorem i99:(Aa.info? 99).isSome=true:=kr
@[go_sem] theorem Jn4:FT 102 2 (some true) 32 false false false [.slice none 0 0,.int .i64 0]:=FK
@[go_sem] theorem Jn5:structOk Aa 102=true:=kr
@[go_sem] theorem Jg4:JR Aa 102 0=some (0,33):=kr
@[go_sem] theorem Jg5:JR Aa 102 1=some (1,3):=kr
@[go_sem] theorem Jn6:FT 103 1 (some false) 24 false false false [.slice none 0 0]:=FK
@[go_sem] theorem Jn7:FT 113 3 (some true) 24 false false false [.int .i64 0,.int .i64 0,.int .i64 0]:=FK
@[go_sem] theorem Jn8:FT 115 1 (some false) 8 false false false [.int .u64 0]:=FK
@[go_sem] theorem Jn9:FT 118 2 (some true) 16 false false false [.int .u64 0,.int .u64 0]:=FK
@[go_sem] theorem JoA:structOk Aa 118=true:=kr
@[go_sem] theorem Jg6:JR Aa 118 0=some (0,115):=kr
@[go_sem] theorem Jg7:JR Aa 118 1=some (1,115):=kr
@[go_sem] theorem JoB:FT 120 9 (some true) 72 false false false [.int .i64 0,.int .i64 0,.int .i64 0,.int .i64 0,.int .i64 0,.int .i64 0,.int .i64 0,.int .i64 0,.int .i64 0]:=FK
attribute [go_sem] Tryz.underlying129
@[go_sem] theorem JoC:JD Aa 129=1:=kr
@[go_sem] theorem JoD:QQ Aa 129=some false:=kr
@[go_sem] theorem JoG:Aa.bytesOf 129=8:=kr
@[go_sem] theorem JoH:Yq Aa 129=false:=kr
@[go_sem] theorem JoJ:Gf Aa 129=false:=kr
@[go_sem] theorem JoK:Ga Aa 129=false:=kr
@[go_sem] theorem JoL:(Aa.info? 129).isSome=true:=kr
@[go_sem] theorem JoM:FT 137 1 (some false) 24 false false false [.slice none 0 0]:=FK
@[go_sem] theorem JoN:FT 149 1 (some false) 8 false false false [.int .u64 0]:=FK
@[go_sem] theorem JoO:FT 157 8 (some true) 128 false false false [.string AE,.string AE,.string AE,.string AE,.string AE,.string AE,.string AE,.string AE]:=FK
attribute [go_sem] Tryz.underlying178
@[go_sem] theorem JoP:JD Aa 178=1:=kr
@[go_sem] theorem JoQ:QQ Aa 178=some false:=kr
@[go_sem] theorem JoR:Aa.bytesOf 178=8:=kr
@[go_sem] theorem JoS:Yq Aa 178=false:=kr
@[go_sem] theorem JoT:Gf Aa 178=false:=kr
@[go_sem] theorem JoU:Ga Aa 178=false:=kr
@[go_sem] theorem JoV:(Aa.info? 178).isSome=true:=kr
@[go_sem] theorem JoW:FT 180 2 (some true) 32 false false false [.slice none 0 0,.int .i64 0]:=FK
@[go_sem] theorem JoX:structOk Aa 180=true:=kr
@[go_sem] theorem Jg8:JR Aa 180 0=some (0,33):=kr
@[go_sem] theorem Jg9:JR Aa 180 1=some (1,3):=kr
def LL:List (List Nat)->Nat->Option (List Nat)
|[],_=>none
|a::_,0=>some a
|_::l,n+1=>LL l n
attribute [go_sem] LL
def HH:List Nat->Tr->Tr
|[],t=>t
|a::l,t=> .head a (HH l t)
attribute [go_sem] HH
abbrev LT:Type:=Nat->Option (List Nat)
def HM(a:LT)(k t:Nat->Option Nat)(v:List Nat)(m:Bool)(x:Nat->Option Mix)(o:Option Nat->Nat)(r:Nat)(w:Bool)(e:Nat->Option Nat):Hint:=⟨a,k,t,v,m,x,o,r,w,e⟩
section
variable(a:LT)(k t:Nat->Option Nat)(v:List Nat)(m:Bool)(x:Nat->Option Mix)(o:Option Nat->Nat)(r:Nat)(w:Bool)(e:Nat->Option Nat)
@[go_sem] theorem HMl:(HM a k t v m x o r w e).live=a:=rfl
@[go_sem] theorem HMk:(HM a k t v m x o r w e).keep=k:=rfl
@[go_sem] theorem HMt:(HM a k t v m x o r w e).tail=t:=rfl
@[go_sem] theorem HMv:(HM a k t v m x o r w e).vars=v:=rfl
@[go_sem] theorem HMm:(HM a k t v m x o r w e).mutc=m:=rfl
@[go_sem] theorem HMx:(HM a k t v m x o r w e).mix=x:=rfl
@[go_sem] theorem HMo:(HM a k t v m x o r w e).mode=o:=rfl
@[go_sem] theorem HMe:(HM a k t v m x o r w e).late=e:=rfl
end
abbrev NN:Nat->Option Nat:=λ_=>none
abbrev NM:Nat->Option Mix:=λ_=>none
def HQ(a:Nat->Option (List Nat)):Hint:=⟨a,(λ_=>none),(λ_=>none),[],false,(λ_=>none),λ_=>0,0,false,(λ_=>none)⟩
@[go_sem] theorem HQe(a:Nat->Option (List Nat)):(HQ a).late=(λ_=>none):=rfl
@[go_sem] theorem HQx(a:Nat->Option (List Nat)):(HQ a).mix=(λ_=>none):=rfl
@[go_sem] theorem HQl(a:Nat->Option (List Nat)):(HQ a).live=a:=rfl
@[go_sem] theorem HQo(a:Nat->Option (List Nat)):(HQ a).mode=λ_=>0:=rfl
@[go_sem] theorem HQk(a:Nat->Option (List Nat)):(HQ a).keep=(λ_=>none):=rfl
@[go_sem] theorem HQt(a:Nat->Option (List Nat)):(HQ a).tail=(λ_=>none):=rfl
@[go_sem] theorem HQv(a:Nat->Option (List Nat)):(HQ a).vars=[]:=rfl
@[go_sem] theorem HQm(a:Nat->Option (List Nat)):(HQ a).mutc=false:=rfl
@[go_sem] def h3a:LT:=λk=>LL [[0,1],[0,1,14],[4],[0,1,5],[1,6],[6,7],[6,7,8,9],[8,9,10,11],[4]] k
abbrev h3:Hint:=HQ h3a
@[go_sem] def h4a:LT:=λk=>LL [[0,1],[0,1,5,6],[0,1,5,6,7,8],[4]] k
abbrev h4:Hint:=HQ h4a
@[go_sem] def h5a:LT:=λk=>LL [[],[1,2],[0]] k
abbrev h5:Hint:=HQ h5a
@[go_sem] def h6a:LT:=λk=>LL [[],[1],[0]] k
abbrev h6:Hint:=HQ h6a
@[go_sem] def h7a:LT:=λk=>LL [[0],[0,3],[3,9,10,11],[3,9,10,11,12],[3,5,9,10,11],[3,5,6,9,10,11],[3,5,6,9,10,11,31],[3,9,10,11],[3,5,6,9,10,11,37],[3,9,10,11],[3,9,10,11],[3,9,10,11],[3,59],[3,9,10,11],[2]] k
@[go_sem] def h7M:Nat->Option Mix:=λ|10=>some ⟨[0,1,2,3,4,5,6,7,8],[],HH [0,1,2,3,4,5,6,7,8] (.two 9)⟩|_=>none
abbrev h7:Hint:=HM h7a (λ|11=>some 1|_=>none) (λ|6=>some 14|10=>some 8|_=>none) [3] false h7M (λ|some 8=>1|some 41=>2|some 42=>1|_=>0) 0 false NN
@[go_sem] def h8a:LT:=λk=>LL [[0],[2]] k
abbrev h8:Hint:=HQ h8a
@[go_sem] def h9a:LT:=λk=>LL [[0,1,4],[0,1,4,6,7],[1,4,6,7,14],[4,5],[1,4,6,7,23],[4,5],[1,4,6,7,28],[4,5],[1,4,6,7],[1,4,6,7,8],[1,4,6,7,8,45],[1,4,6,7,8,45],[1,4,6,7,8,52],[4,5],[1,4,6,8,65],[4,5],[1,4,6,8,75],[4,5],[4,5]] k
abbrev h9:Hint:=HQ h9a
@[go_sem] def JhA:LT:=λk=>LL [[0,1,4],[0,1,4,6,7],[1,4,6,7,8],[1,4,6,8,29],[4,5],[1,4,6,8,33],[4,5],[1,4,6,8,9,10],[1,4,6,8,9,44],[4,5],[1,4,6,8,9],[1,4,6,8,9,11],[1,4,6,8,9,11,58],[1,4,6,8,9,11,58],[1,4,6,8,9,11,74],[4,5],[1,4,6,11,80],[4,5],[1,4,6,11,85,86,87],[1,4,6,11,85,86,87,88],[1,4,6,11,13,85,86,87],[1,4,6,11,13,85,86,87,97],[4,5],[1,4,6,11,85,86,87],[1,4,6,103],[4,5],[1,4,6,14,15],[1,4,6,14,15,16],[1,4,6,14,15,16,112],[1,4,6,14,15,16],[4,6,14,15,16,132],[1,4,6,14,15,16,112],[4,14,163],[4,5],[4,5]] k
abbrev h10:Hint:=HM JhA NN (λ|30=>some 20|_=>none) [] false NM (λ_=>0) 0 false NN
@[go_sem] def JhB:LT:=λk=>LL [[2,3],[4]] k
abbrev h11:Hint:=HQ JhB
@[go_sem] def JhC:LT:=λk=>LL [[0,1],[6],[4]] k
abbrev h12:Hint:=HQ JhC
@[go_sem] def JhD:LT:=λk=>LL [[0],[2]] k
abbrev h13:Hint:=HQ JhD
@[go_sem] def JhG:LT:=λk=>LL [[0,2],[2]] k
abbrev h14:Hint:=HQ JhG
@[go_sem] def JhH:LT:=λk=>LL [[0,2],[2]] k
abbrev h15:Hint:=HQ JhH
@[go_sem] def JhJ:LT:=λk=>LL [[0,1,4],[4]] k
abbrev h16:Hint:=HQ JhJ
@[go_sem] def JhK:LT:=λk=>LL [[0],[3],[3,4],[3,4],[2],[3,7],[2],[9],[2],[2]] k
abbrev h17:Hint:=HQ JhK
@[go_sem] def JhL:LT:=λk=>LL [[0],[0,3],[0,3,4],[0,3,4],[0,3,4,16],[0,30,31,33],[0],[0],[2]] k
@[go_sem] def JhM:Nat->Option Mix:=λ|4=>some ⟨[3],[],.one 0 (.alt (.one 1 (.one 2 (.head 3 (.fin)))) (.one 2 (.one 1 (.head 3 (.fin)))))⟩|7=>some ⟨[0,1,2,3,4,5,6,7,8,9,10,11,12,13,14,16,17],[],HH [3,4,5,6,7,8,9,10,11,12,13,14] (.alt (.one 0 (.alt (.one 1 (.alt (.one 2 (.one 15 (.head 16 (.head 17 (.one 18 (.fin)))))) (.one 15 (HH [2,16,17] (.one 18 (.fin)))))) (.one 15 (HH [1,2,16,17] (.one 18 (.fin)))))) (.alt (.one 1 (.alt (.one 0 (.alt (.one 2 (.one 15 (.head 16 (.head 17 (.one 18 (.fin)))))) (.one 15 (HH [2,16,17] (.one 18 (.fin)))))) (.alt (.one 2 (.alt (.one 0 (.one 15 (.head 16 (.head 17 (.one 18 (.fin)))))) (.one 15 (HH [0,16,17] (.one 18 (.fin)))))) (.one 15 (HH [0,2,16,17] (.one 18 (.fin))))))) (.one 15 (HH [0,1,2,16,17] (.one 18 (.fin))))))⟩|_=>none
abbrev h18:Hint:=HM JhL (λ|4=>some 1001|_=>none) (λ|4=>some 0|5=>some 16|7=>some 14|_=>none) [] false JhM (λ_=>0) 0 false (λ|5=>some 0|_=>none)
@[go_sem] def JhN:LT:=λk=>LL [[0],[0,3],[3,4],[3,4],[3,4,12],[2],[3,4]] k
abbrev h19:Hint:=HM JhN NN NN [3] false NM (λ_=>0) 0 false NN
@[go_sem] def JhO:LT:=λk=>LL [[0],[0,28],[0,28],[0,3],[0,3,4],[3,4,32,33,34],[3,4,32,33,34,35],[3,4,6,32,33,34],[3,4,6,7,32,33,34],[3,4,6,7,32,33,34,39],[3,4,6,7,32,33,34,39,40],[3,4,6,7,32,33,34,39,40],[3,4,6,7,32,33,34,39,40],[3,4,6,7,32,33,34,43],[3,4,6,7,32,33,34,39,40],[3,6,7,32,33,34,50],[3,6,7,32,33,34,50],[3,4,32,33,34],[3,4,32,33,34],[2]] k
abbrev h20:Hint:=HM JhO NN NN [3] false NM (λ_=>0) 0 false NN
@[go_sem] def JhP:LT:=λk=>LL [[0,2],[2,4],[2,4,10],[2,3],[2,5],[2,5,6],[2,6],[2,5,6,35],[2,6],[2,5,6,43],[2,6],[2,3]] k
@[go_sem] def JhQ:Nat->Option Mix:=λ|5=>some ⟨[0,1,2,3,4,5,6,7,8,9,10,11],[],HH [0,1,2,3,4,5,6,7,8,9] (.alt (.one 10 (.head 11 (.one 12 (.one 13 (.fin))))) (.one 12 (.head 10 (.head 11 (.one 13 (.fin))))))⟩|_=>none
abbrev h21:Hint:=HM JhP NN (λ|5=>some 12|_=>none) [] false JhQ (λ_=>0) 0 false NN
@[go_sem] def JhR:LT:=λk=>LL [[0],[0,5],[0,5,6,7],[0,3,5],[0,5,10],[2],[2]] k
abbrev h22:Hint:=HQ JhR
@[go_sem] def JhS:LT:=λk=>LL [[0],[2]] k
abbrev h23:Hint:=HQ JhS
@[go_sem] def JhT:LT:=λk=>LL [[0,1],[1,7,8,9],[1,7,8,9,10],[1,6,7,8,9],[1,6,7,8,9,15],[1,6,7,8,9,15,16],[1,6,7,8,9,15,16],[1,6,7,8,9,15,16],[1,6,7,8,9,15,16],[1,6,7,8,9,15,16],[4],[1,6,7,8,9,22],[1,6,7,8,9,24],[4],[1,7,8,9,39],[4],[1,7,8,9],[4]] k
abbrev h24:Hint:=HM JhT (λ|16=>some 0|_=>none) NN [] false NM (λ_=>0) 0 false NN
@[go_sem] def JhU:LT:=λk=>LL [[0],[2]] k
abbrev h25:Hint:=HQ JhU
@[go_sem] def JhV:LT:=λk=>LL [[0],[3],[3,8,9,10],[3,8,9,10,11],[3,4,5,8,9,10],[3,4,5,8,9,10,20],[3,4,5,8,9,10,20],[3,8,9,10],[2]] k
abbrev h26:Hint:=HM JhV NN NN [] true NM (λ_=>0) 0 false NN
@[go_sem] def JhW:LT:=λk=>LL [[0],[2]] k
abbrev h27:Hint:=HQ JhW
@[go_sem] def JhX:LT:=λk=>LL [[0],[0,3],[3,4],[3,4,13],[3,4,5],[3,4,5,24],[3,4,5,29],[3,4,5,29],[3,4],[3,4,5,6],[3,4,6],[3,4,6],[3,4,6,7],[3,4,6,7,73],[3,4],[2]] k
abbrev h28:Hint:=HM JhX (λ|3=>some 1|_=>none) NN [3,4] false NM (λ|some 10=>1|some 80=>1|_=>0) 0 false NN
@[go_sem] def JhY:LT:=λk=>LL [[0,1],[4]] k
abbrev h29:Hint:=HQ JhY
@[go_sem] def JhZ:LT:=λk=>LL [[1,2,4],[1,2,4,14],[4,5],[1,2,4,6],[1,2,4,6,41],[4,5],[2,4,7,8],[2,4,7,51],[4,5],[2,4,7,9],[2,4,7,9,55],[2,4,7,9,55],[2,4,7,9,10],[2,4,7,63],[4,5],[4,7,78],[4,5],[4,5]] k
abbrev h30:Hint:=HM JhZ NN (λ|4=>some 25|_=>none) [] false NM (λ_=>0) 0 false NN
@[go_sem] def Jhb:LT:=λk=>LL [[0,2],[0,2,6,7,8],[0,2,6,7,8,9],[0,2,4,5,6,7,8],[0,2,4,5,6,7,8,16],[2,3],[0,2,6,7,8],[2,3]] k
abbrev h31:Hint:=HM Jhb (λ|6=>some 1|_=>none) NN [] false NM (λ_=>0) 0 false NN
@[go_sem] def Jhc:LT:=λk=>LL [[0],[2]] k
abbrev h32:Hint:=HQ Jhc
@[go_sem] def Jhd:LT:=λk=>LL [[0],[2]] k
abbrev h33:Hint:=HQ Jhd
@[go_sem] def Jhe:LT:=λk=>LL [[0],[0,4,5],[4,5,14,15,16],[4,5,14,15,16,17],[4,5,7,14,15,16],[4,5,7,14,15,16,21],[4,5,7,14,15,16],[4,5,7,11,14,15,16],[4,5,7,14,15,16,30],[4,5,7,14,15,16,21],[4,5,12,13,14,15,16],[4,5,14,15,16],[4,5,14,15,16],[2,3]] k
abbrev h34:Hint:=HM Jhe (λ|10=>some 0|_=>none) NN [] false NM (λ_=>0) 0 false NN
@[go_sem] def Jhg:LT:=λk=>LL [[0,1],[1,7,8,9],[1,7,8,9,10],[1,6,7,8,9],[1,6,7,8,9,15],[1,6,7,8,9,15,16],[1,6,7,8,9,15,16],[1,6,7,8,9,15,16],[1,6,7,8,9,15,16],[1,6,7,8,9,15,16],[4],[1,6,7,8,9,22],[1,6,7,8,9,24],[4],[1,7,8,9,27],[4],[1,7,8,9],[4]] k
abbrev h35:Hint:=HM Jhg (λ|16=>some 0|_=>none) NN [] false NM (λ_=>0) 0 false NN
@[go_sem] def Jhh:LT:=λk=>LL [[0],[0,3,4],[0,3,4,16],[0,3,4],[0,3,4,29],[0,3,4],[2]] k
abbrev h36:Hint:=HQ Jhh
@[go_sem] def Jhi:LT:=λk=>LL [[0],[3],[3,8,9,10],[3,8,9,10,11],[3,4,5,8,9,10],[3,4,5,8,9,10,20],[3,4,5,8,9,10,20],[3,8,9,10],[2]] k
abbrev h37:Hint:=HM Jhi NN NN [] true NM (λ_=>0) 0 false NN
@[go_sem] def Jhj:LT:=λk=>LL [[0],[0,3],[3,7,8,9],[3,7,8,9,10],[3,5,7,8,9],[3,5,7,8,9],[3,5,7,8,9],[3,6,7,8,9],[3,6,7,8,9,28],[3,6,7,8,9,28],[3,7,8,9],[2]] k
abbrev h38:Hint:=HM Jhj (λ|10=>some 0|_=>none) NN [3] false NM (λ_=>0) 0 false NN
@[go_sem] def Jhk:LT:=λk=>LL [[0,2],[0,2,8],[2,3],[0,2],[0,2,14],[2,3],[2,4,5],[2,4,24],[2,3],[2,3]] k
abbrev h39:Hint:=HQ Jhk
@[go_sem] def Jhl:LT:=λk=>LL [[0,2],[2]] k
abbrev h40:Hint:=HQ Jhl
@[go_sem] def Jhm:LT:=λk=>LL [[1],[2]] k
abbrev h41:Hint:=HQ Jhm
@[go_sem] def Jhn:LT:=λk=>LL [[1],[1,9],[12],[2],[2],[1,3],[1,3,15,16,17],[1,3,15,16,17,18],[1,3,5,15,16,17],[1,3,15,16,17],[1,3,15,16,17],[1,3,6],[1,3,6,31],[2],[1,3,6,35],[2],[1,3,6,44],[2],[49],[2],[2]] k
abbrev h42:Hint:=HM Jhn (λ|10=>some 2|_=>none) NN [] false NM (λ_=>0) 0 false NN
@[go_sem] def Jho:LT:=λk=>LL [[2,3],[2,3,33],[4],[2,3,36,37],[2,3,36,37,38],[2,3,5,36,37],[2,3,36,37,51],[4],[2,3,36,37],[4]] k
abbrev h43:Hint:=HM Jho NN (λ|6=>some 12|_=>none) [] false NM (λ_=>0) 0 false NN
@[go_sem] def Jhp:LT:=λk=>LL [[0,1],[0,1,10],[4],[0,1,12,13],[0,1,12,13,14],[0,1,5,12,13],[0,1,12,13,24],[4],[0,1,12,13],[4]] k
abbrev h44:Hint:=HM Jhp NN (λ|6=>some 9|_=>none) [] false NM (λ_=>0) 0 false NN
@[go_sem] def Jhq:LT:=λk=>LL [[0,1,4],[4]] k
abbrev h45:Hint:=HQ Jhq
@[go_sem] def Jhr:LT:=λk=>LL [[0,9],[0],[0,29],[0],[0]] k
abbrev h46:Hint:=HQ Jhr
@[go_sem] def Jhs:LT:=λk=>LL [[0,1],[0,1,17],[4],[5],[5,31],[4],[4]] k
abbrev h47:Hint:=HM Jhs NN (λ|1=>some 12|3=>some 12|_=>none) [] false NM (λ_=>0) 0 false NN
@[go_sem] def Jht:LT:=λk=>LL [[0,2],[0,2,3,4,5],[0,2,3,4,5,14],[0,2,3,4,5,14,15],[0,2,3,4,5,6,14],[0,2,3,4,5,6,14,21],[2,6],[2],[0,2,3,4,5,14],[0,2,3,4,5,34],[2],[2],[0,2,3,4,5,40],[0,2,3],[2],[0,2,3,4,5,57],[0,2,4,5],[0,2,7],[2],[0,2,3,4,5,89],[2],[0,2,3,4,5,96],[2],[2],[0,2,3,4,5,115],[2],[2],[0,2,3,4,5,139],[0,2],[2],[0,2,3,159],[2],[2,3],[2]] k
abbrev h48:Hint:=HQ Jht
@[go_sem] def Jhu:LT:=λk=>LL [[0],[0,3],[0,3,4],[0,3,4,11],[0,3,4,5,6],[0,3,4,6],[0,3,4],[2]] k
abbrev h49:Hint:=HM Jhu NN NN [3] false NM (λ_=>0) 0 false NN
@[go_sem] def Jhv:LT:=λk=>LL [[0],[3,4],[3,12],[2],[2]] k
abbrev h50:Hint:=HQ Jhv
@[go_sem] def Jhw:LT:=λk=>LL [[],[0]] k
abbrev h51:Hint:=HQ Jhw
@[go_sem] def Jhx:LT:=λk=>LL [[0,1],[4]] k
abbrev h53:Hint:=HQ Jhx
@[go_sem] def Jhy:LT:=λk=>LL [[0,1],[1,7,8,9],[1,7,8,9,10],[1,6,7,8,9],[1,6,7,8,9,22],[4],[1,6,7,8,9,27],[1,7,8,9,31],[4],[1,7,8,9,41],[4],[1,7,8,9],[4]] k
abbrev h54:Hint:=HM Jhy (λ|11=>some 0|_=>none) NN [] false NM (λ_=>0) 0 false NN
@[go_sem] def Jhz:LT:=λk=>LL [[1],[2]] k
abbrev h55:Hint:=HQ Jhz
@[go_sem] def Jh0:LT:=λk=>LL [[0],[0,22],[2],[0],[2]] k
abbrev h56:Hint:=HQ Jh0
@[go_sem] def Jh1:LT:=λk=>LL [[0],[0,3],[3,6,7,8],[3,6,7,8,9],[3,5,6,7,8],[3,6,7,8],[3,6,7,8],[2]] k
@[go_sem] def Jh2:Nat->Option Mix:=λ|5=>some ⟨[0,1,2,3,4,5,6,7],[],HH [0,1,2,3,4,5,6,7] (.one 8 (.one 9 (.fin)))⟩|_=>none
abbrev h57:Hint:=HM Jh1 (λ|6=>some 0|_=>none) (λ|5=>some 7|_=>none) [3] false Jh2 (λ_=>0) 0 false NN
@[go_sem] def Jh3:LT:=λk=>LL [[0],[0,11],[0],[0,25],[0],[2]] k
abbrev h58:Hint:=HQ Jh3
@[go_sem] def Jh4:LT:=λk=>LL [[0,1],[4]] k
abbrev h59:Hint:=HQ Jh4
@[go_sem] def Jh5:LT:=λk=>LL [[1],[2]] k
abbrev h60:Hint:=HQ Jh5
@[go_sem] def Jh6:LT:=λk=>LL [[0],[3],[3,4],[3,6],[3,8],[10],[2],[2],[2],[2]] k
abbrev h61:Hint:=HQ Jh6
@[go_sem] def Jh7:LT:=λk=>LL [[0,1],[0,1,7,8],[0,1,7,8,9],[0,1,5,7,8],[0,1,5,7,8,16],[4],[0,1,7,8],[4]] k
abbrev h62:Hint:=HQ Jh7
@[go_sem] def Jh8:LT:=λk=>LL [[0,2],[0,2,8],[2,3],[0,2],[0,2,14],[2,3],[2,4,5],[2,4,24],[2,3],[2,3]] k
abbrev h63:Hint:=HQ Jh8
@[go_sem] def Jh9:LT:=λk=>LL [[1],[1,7],[2,3],[4],[4,11],[2,3],[2,3]] k
abbrev h64:Hint:=HQ Jh9
@[go_sem] def JiA:LT:=λk=>LL [[0,1],[1,7,8,9],[1,7,8,9,10],[1,6,7,8,9],[1,6,7,8,9,22],[4],[1,6,7,8,9,27],[1,7,8,9,31],[4],[1,7,8,9,41],[4],[1,7,8,9],[4]] k
abbrev h65:Hint:=HM JiA (λ|11=>some 0|_=>none) NN [] false NM (λ_=>0) 0 false NN
@[go_sem] def JiB:LT:=λk=>LL [[1],[2]] k
abbrev h66:Hint:=HQ JiB
@[go_sem] def JiC:LT:=λk=>LL [[1],[6],[6,30],[2,3,4,5],[6,7],[6,7,36],[2,3,4,5],[6,7,47],[2,3,4,5],[2,3,4,5]] k
abbrev h67:Hint:=HM JiC NN (λ|9=>some 8|_=>none) [] false NM (λ_=>0) 0 false NN
@[go_sem] def JiD:LT:=λk=>LL [[1],[2]] k
abbrev h68:Hint:=HQ JiD
@[go_sem] def JiG:LT:=λk=>LL [[1,2],[1,2,4],[1,2,4,14],[2,3],[1,2,4,22],[2,4,5],[2,3],[1,2,36],[2,3],[1,2],[2,3],[1,2,45],[1,2,6],[1,2,48],[1,2,6],[1,2,51],[1,2,6],[1,2,6,7],[2,6,7,58,59,60],[2,6,7,58,59,60,61],[2,6,7,9,58,59,60],[2,6,7,10,11,58,59,60],[2,6,7,10,58,59,60,70],[2,3],[2,6,7,58,59,60],[2,6,7,58,59,60],[2,3]] k
@[go_sem] def JiH:Nat->Option Mix:=λ|26=>some ⟨[0,1,2,3,4,5,6,7,8],[],HH [0,1,2,3] (.alt (.one 4 (.alt (.one 5 (.alt (.one 6 (.alt (.one 7 (.alt (.one 8 (.one 9 (.one 10 (.fin)))) (.one 9 (.head 8 (.one 10 (.fin)))))) (.one 9 (.head 7 (.head 8 (.one 10 (.fin))))))) (.one 9 (HH [6,7,8] (.one 10 (.fin)))))) (.one 9 (HH [5,6,7,8] (.one 10 (.fin)))))) (.one 9 (HH [4,5,6,7,8] (.one 10 (.fin)))))⟩|_=>none
abbrev h69:Hint:=HM JiG (λ|24=>some 4|_=>none) (λ|26=>some 9|_=>none) [] false JiH (λ_=>0) 0 false NN
@[go_sem] def JiJ:LT:=λk=>LL [[1,2],[1,2,19],[4],[1,2,5],[1,2,5,25],[4],[1,2,78],[4],[1,80,81,82],[1,80,81,82,83],[1,7,80,81,82],[1,80,81,82,90],[4],[1,80,81,82],[4]] k
abbrev h70:Hint:=HM JiJ (λ|13=>some 1|_=>none) NN [] false NM (λ_=>0) 0 false NN
@[go_sem] def JiK:LT:=λk=>LL [[0,4,5,6],[0,4,5,6,9],[6],[0,4,5,6,7],[0,4,5,6],[0,4,5,6,37],[6],[4,5,6,39],[6],[6]] k
abbrev h71:Hint:=HM JiK NN (λ|4=>some 6|_=>none) [] false NM (λ_=>0) 0 false NN
@[go_sem] def JiL:LT:=λk=>LL [[0],[0,4],[2],[2]] k
abbrev h72:Hint:=HQ JiL
@[go_sem] def JiM:LT:=λk=>LL [[0],[2]] k
abbrev h73:Hint:=HQ JiM
@[go_sem] def JiN:LT:=λk=>LL [[0],[2]] k
abbrev h74:Hint:=HQ JiN
@[go_sem] def JiO:LT:=λk=>LL [[0,4],[0]] k
abbrev h75:Hint:=HQ JiO
@[go_sem] def JiP:LT:=λk=>LL [[0,1,4],[0,1,4,5],[0,1,4,5,6],[0,1,4,5,6],[0,1,4,5,6,22],[4],[0,1,4,5],[0,1,4,5,6,30],[4],[0,1,4,5,6,34],[0,1,4,5],[0,1,4,5,6,49],[0,1,4,5],[0,1,4,5,6,64],[0,1,4,5],[0,1,4,5]] k
abbrev h76:Hint:=HM JiP NN NN [5] false NM (λ_=>0) 0 false NN
@[go_sem] def JiQ:LT:=λk=>LL [[0],[2]] k
abbrev h77:Hint:=HQ JiQ
@[go_sem] def JiR:LT:=λk=>LL [[0,1],[4]] k
abbrev h78:Hint:=HQ JiR
@[go_sem] def JiS:LT:=λk=>LL [[0,1,2],[0,1,2,8],[6],[6]] k
abbrev h79:Hint:=HQ JiS
@[go_sem] def JiT:LT:=λk=>LL [[0],[0,3],[0,3,4],[2],[0,3,4,9],[0,3],[0,3],[0,3,27],[0,3],[0,3]] k
abbrev h80:Hint:=HM JiT NN NN [3] false NM (λ_=>0) 0 false NN
@[go_sem] def JiU:LT:=λk=>LL [[0,1,2],[0,1,2,12],[0,1,2,12],[6]] k
abbrev h81:Hint:=HQ JiU
@[go_sem] def JiV:LT:=λk=>LL [[0,2],[0,2,3],[0,2,3,4],[0,2,3,23],[0,2,3,23],[0,2,3],[0,2,3,40],[0,2,3],[0,2,3,40],[0,2,3,5],[0,2,3,57],[0,2,3,6],[0,2,3,6,7],[0,2,3,6,65],[0,2,3,6,65],[0,2,3,6,69],[0,2,3],[0,2,3,57],[0,2,8,9],[0,2,11],[0,2,11,105],[0,2,11,105],[0,2,11,112],[0,2,11],[0,2,11,105],[2]] k
@[go_sem] def JiW:Nat->Option Mix:=λ|18=>some ⟨[0,1,2,3,4,5,6,7,8,9,10,11,12,13,14,15],[],HH [0,1,2,3,4,5,6,7,8,9] (.alt (.one 10 (.alt (.one 11 (.head 12 (.head 13 (.alt (.one 14 (.alt (.one 15 (.one 16 (.one 17 (.one 18 (.one 19 (.fin)))))) (.one 16 (.alt (.one 15 (.one 17 (.one 18 (.one 19 (.fin))))) (.one 17 (.alt (.one 15 (.one 18 (.one 19 (.fin)))) (.one 18 (.head 15 (.one 19 (.fin)))))))))) (.alt (.one 15 (.alt (.one 14 (.one 16 (.one 17 (.one 18 (.one 19 (.fin)))))) (.one 16 (.alt (.one 14 (.one 17 (.one 18 (.one 19 (.fin))))) (.one 17 (.head 14 (.one 18 (.one 19 (.fin))))))))) (.one 16 (.alt (.one 14 (.alt (.one 15 (.one 17 (.one 18 (.one 19 (.fin))))) (.one 17 (.alt (.one 15 (.one 18 (.one 19 (.fin)))) (.one 18 (.head 15 (.one 19 (.fin)))))))) (.alt (.one 15 (.alt (.one 14 (.one 17 (.one 18 (.one 19 (.fin))))) (.one 17 (.head 14 (.one 18 (.one 19 (.fin))))))) (.one 17 (.head 14 (.alt (.one 15 (.one 18 (.one 19 (.fin)))) (.one 18 (.head 15 (.one 19 (.fin))))))))))))))) (.one 16 (HH [11,12,13] (.alt (.one 14 (.alt (.one 15 (.one 17 (.one 18 (.one 19 (.fin))))) (.one 17 (.alt (.one 15 (.one 18 (.one 19 (.fin)))) (.one 18 (.head 15 (.one 19 (.fin)))))))) (.alt (.one 15 (.alt (.one 14 (.one 17 (.one 18 (.one 19 (.fin))))) (.one 17 (.head 14 (.one 18 (.one 19 (.fin))))))) (.one 17 (.head 14 (.alt (.one 15 (.one 18 (.one 19 (.fin)))) (.one 18 (.head 15 (.one 19 (.fin))))))))))))) (.one 16 (HH [10,11,12,13] (.alt (.one 14 (.alt (.one 15 (.one 17 (.one 18 (.one 19 (.fin))))) (.one 17 (.alt (.one 15 (.one 18 (.one 19 (.fin)))) (.one 18 (.head 15 (.one 19 (.fin)))))))) (.alt (.one 15 (.alt (.one 14 (.one 17 (.one 18 (.one 19 (.fin))))) (.one 17 (.head 14 (.one 18 (.one 19 (.fin))))))) (.one 17 (.head 14 (.alt (.one 15 (.one 18 (.one 19 (.fin)))) (.one 18 (.head 15 (.one 19 (.fin))))))))))))⟩|_=>none
abbrev h82:Hint:=HM JiV NN (λ|18=>some 16|_=>none) [] false JiW (λ_=>0) 0 false NN
@[go_sem] def JiX:LT:=λk=>LL [[0,2],[0,2,3],[0,2,3,9],[2],[0,2,3],[0,2,3,21],[2],[0,2,3,31],[0,2,3,21],[0,2,3,4],[0,2,3,4,42],[0,2,3,4,42],[0,2,3,50],[2],[2]] k
abbrev h83:Hint:=HQ JiX
@[go_sem] def JiY:LT:=λk=>LL [[0],[2]] k
abbrev h84:Hint:=HQ JiY
@[go_sem] def JiZ:LT:=λk=>LL [[0,1],[0,1,7],[0,1,7,18],[4,5,6],[0,1,7,8,9,10],[0,1,7,8,9,10,28],[4,5,6],[0,1,8,9,10,11],[0,1,8,9,10,11,12],[0,1,8,9,10,11,12,37],[0,1,8,9,10,11,12],[0,1,8,11,12,65],[4,5,6],[0,1,8,11,12],[0,1,8,9,10,11,12],[4,5,6]] k
abbrev h85:Hint:=HQ JiZ
@[go_sem] def Jia:LT:=λk=>LL [[],[1],[1,5,6,7],[1,5,6,7,8],[1,2,3,5,6,7],[1,5,6,7],[1,5,6,7],[0]] k
abbrev h86:Hint:=HM Jia (λ|6=>some 1|_=>none) NN [] false NM (λ_=>0) 1 false NN
@[go_sem] def Jib:LT:=λk=>LL [[0,1],[4]] k
abbrev h89:Hint:=HQ Jib
@[go_sem] def Jic:LT:=λk=>LL [[1],[2]] k
abbrev h90:Hint:=HQ Jic
@[go_sem] def Jid:LT:=λk=>LL [[0,1],[0,1,7,8],[0,1,7,8,9],[0,1,5,7,8],[0,1,5,7,8,16],[4],[0,1,7,8],[4]] k
abbrev h91:Hint:=HQ Jid
@[go_sem] def Jif:LT:=λk=>LL [[1,2],[1,2,4],[1,2,4,14],[2,3],[1,2,4,14,16],[2,3],[1,2,4,14,21],[2,3],[1,2,4,33],[1,2,4],[1,2,37],[2,3],[1,2,37,39],[2,3],[1,2,37,46],[1,2,5],[1,2,37,48],[1,2,5],[1,2,50],[1,2,5],[1,2,5,6],[2,5,6,56,57,58],[2,5,6,56,57,58,59],[2,5,6,8,56,57,58],[2,5,6,9,10,56,57,58],[2,5,6,9,56,57,58,68],[2,3],[2,5,6,56,57,58],[2,5,6,56,57,58],[2,3]] k
@[go_sem] def Jig:Nat->Option Mix:=λ|7=>some ⟨[0,1,2,3,4,5,6,7,8,9],[],HH [0,1,2,3,4,5,6,7,8] (.alt (.one 9 (.one 10 (.one 11 (.fin)))) (.one 10 (.head 9 (.one 11 (.fin)))))⟩|29=>some ⟨[0,1,2,3,4,5,6,7,8],[],HH [0,1,2,3] (.alt (.one 4 (.alt (.one 5 (.alt (.one 6 (.alt (.one 7 (.alt (.one 8 (.one 9 (.one 10 (.fin)))) (.one 9 (.head 8 (.one 10 (.fin)))))) (.one 9 (.head 7 (.head 8 (.one 10 (.fin))))))) (.one 9 (HH [6,7,8] (.one 10 (.fin)))))) (.one 9 (HH [5,6,7,8] (.one 10 (.fin)))))) (.one 9 (HH [4,5,6,7,8] (.one 10 (.fin)))))⟩|_=>none
abbrev h92:Hint:=HM Jif (λ|28=>some 4|_=>none) (λ|7=>some 10|29=>some 9|_=>none) [] false Jig (λ_=>0) 0 false NN
@[go_sem] def Jih:LT:=λk=>LL [[1],[2]] k
abbrev h93:Hint:=HQ Jih
@[go_sem] def Jii:LT:=λk=>LL [[1],[1,8],[11],[2],[2],[1,3],[1,3,13,14,15],[1,3,13,14,15,16],[1,3,5,13,14,15],[1,3,13,14,15,20],[1,3,13,14,15,20,21],[2],[1,3,13,14,15,23],[1,3,13,14,15,23],[1,3,13,14,15],[1,3,28],[2],[1,3,31],[1,3,31],[2],[2]] k
abbrev h94:Hint:=HM Jii (λ|14=>some 1|_=>none) NN [] false NM (λ_=>0) 0 false NN
@[go_sem] def Jij:LT:=λk=>LL [[0,1],[4]] k
abbrev h95:Hint:=HQ Jij
@[go_sem] def Jik:LT:=λk=>LL [[1,2],[1,2,4],[2],[2]] k
abbrev h96:Hint:=HQ Jik
@[go_sem] def Jil:LT:=λk=>LL [[0],[0,5,6],[0,5,6,7],[0,3,4,5,6],[0,3,5,6,16],[2],[0,5,6],[2]] k
abbrev h97:Hint:=HQ Jil
@[go_sem] def Jim:LT:=λk=>LL [[1,2,3],[6]] k
abbrev h98:Hint:=HQ Jim
@[go_sem] def Jin:LT:=λk=>LL [[0,2],[0,2],[0,2,4],[0,2,4,5,6],[0,2,4,5,6,7],[0,2,4,5,6,7,16],[0,2,4,5,6,7],[0,2,4,5,6,7,8],[0,2,4,5,6,7,8,64],[0,2,4,6,7,8,9,10],[0,2,4,6,7,8,9,74],[2,3],[0,2,4,6,7,8,9,76],[0,2,4,6,7,8,9,76],[0,2,4,6,7,8],[0,2,4,6,7,84],[0,2,4,6,7,84],[0,2,4,5,6,7],[2,4,96],[2,3],[2,3]] k
abbrev h99:Hint:=HM Jin (λ|14=>some 1|_=>none) NN [4] false NM (λ_=>0) 0 false NN
@[go_sem] def JbG:LT:=λk=>LL [[0],[0,3],[0,3,4],[0,3,4,7,8,9],[0,3,4,7,8,9,10],[0,3,4,5,6,7,8,9],[0,3,4,5,7,8,9,17],[0,3,5,7,8,9],[0,3,4,5,7,8,9,17],[0,3,4,7,8,9],[2]] k
abbrev JOv:Hint:=HM JbG (λ|9=>some 0|_=>none) NN [3] false NM (λ_=>0) 0 false NN
@[go_sem] def JbH:LT:=λk=>LL [[1],[1,10],[2],[2]] k
abbrev JVo:Hint:=HM JbH NN (λ|3=>some 18|_=>none) [] false NM (λ_=>0) 0 false NN
@[go_sem] def JbJ:LT:=λk=>LL [[1],[2]] k
abbrev JbK:Hint:=HQ JbJ
@[go_sem] def JbL:LT:=λk=>LL [[0],[0]] k
abbrev JbM:Hint:=HQ JbL
@[go_sem] def JbN:LT:=λk=>LL [[2,3,4],[2,3,4,7],[4],[2,3,4,5],[2,3,4,5,18],[2,3,4,5],[2,3,4,5],[2,3,4,5,28],[2,3,4,5],[2,3,4,5,33],[2,3,4,5,37],[2,3,4,5,33],[2,3,4,5,42],[2,3,4,5,42],[2,3,4,5],[2,4,48,49],[2,4,48,49,50],[2,4,48,49],[2,4,48,49],[4]] k
abbrev JbO:Hint:=HM JbN NN (λ|5=>some 4|_=>none) [] false NM (λ_=>0) 0 false NN
@[go_sem] def JbP:LT:=λk=>LL [[2,3,4],[2,3,4,5,6],[2,3,4,5,6,7],[2,3,4,5,6,7,11],[2,3,4,5,6,7],[2,3,4,5,6,7],[2,3,4,5,6,7,17],[2,3,4,5,6,7],[2,3,4,5,6,7],[2,3,4,5,6,7],[2,3,4,5,6,7,44],[2,3,4,5,6,7],[2,3,4,5,6,7,44],[4]] k
abbrev JbQ:Hint:=HQ JbP
@[go_sem] def JbR:LT:=λk=>LL [[0],[0,3,4],[0,3,4,15],[0,5],[0,5,19],[2],[5],[2],[0,3,4,6],[0,3,4,6,7],[0,3,6,7,32],[0,3,4,6,7],[0,6,7],[0,6,7],[0,3,4,6,7],[0,6,54],[0,6,54],[6,68],[2],[2]] k
abbrev JbS:Hint:=HQ JbR
@[go_sem] def JbT:LT:=λk=>LL [[0],[2]] k
abbrev JbU:Hint:=HQ JbT
@[go_sem] def JbV:LT:=λk=>LL [[0],[2]] k
abbrev JbW:Hint:=HQ JbV
@[go_sem] def JbX:LT:=λk=>LL [[0,4],[0]] k
abbrev JbY:Hint:=HQ JbX
@[go_sem] def JbZ:LT:=λk=>LL [[0,2],[0,2,5,6],[0,2,5,6,28],[0,2,5,6],[0,2,5,6,28],[0,2,5,6,7],[0,2,6,7,8,9,10],[0,2,5,6,8,9,10],[0,2,5,6,8,9,10,52],[0,2,5,6,7,8],[0,2,5,6,7,8,60],[2,3,4],[0,2,5,6,7,8],[0,2,6,7,8,9,10],[0,2,5,6,8,9,10,52],[0,2,5,6,8,9,10,75],[2,3,4],[0,2,5,6,8,9,10,11],[0,2,5,6,8,9,10,11,80],[0,2,5,6,8,9,11,90],[2,3,4],[0,2,5,6,8,9,10,11],[0,2,5,6,8,9,10,11],[0,2,5,6,8,9,10,11,12],[0,2,5,6,8,9,10,11,12,109],[0,2,5,6,8,9,10,11,12],[0,2,5,6,8,9,10,11,12,109],[0,2,5,6,7,8,9,10,11,12],[0,2,5,6,7,8,9,10,11,12,127],[2,3,4],[0,2,5,6,7,8,9,10,11,12,131],[0,2,5,6,7,8,9,10,11,12,127],[0,2,5,6,7,8,9,10,11,12],[2,6,8,9,10,11,143],[0,2,5,6,8,9,10,11,80],[2,3,4]] k
abbrev Jba:Hint:=HQ JbZ
@[go_sem] def Jbb:LT:=λk=>LL [[0,2],[0,2],[0,2,3],[0,2,3,4],[0,2,3],[0,2,3],[0,2,3,4,20],[2,3],[2],[0,2,3,4,37],[0,2,3],[0,2,3,4],[0,2,3,49],[2],[0,2,3,4,52],[2],[0,2,3,4,69],[0,2,3,76],[2],[0,2,3],[0,2,3]] k
abbrev Jbc:Hint:=HM Jbb NN NN [3] false NM (λ_=>0) 0 false NN
@[go_sem] def Jbd:LT:=λk=>LL [[0],[0,3],[3,6,7,8],[3,6,7,8,9],[3,5,6,7,8],[3,5,6,7,8,14],[3,5,6,7,8,14],[3,6,7,8],[3,5,6,7,8,36],[3,6,7,8],[3,5,6,7,8,44],[3,6,7,8],[3,5,6,7,8,58],[3,6,7,8],[3,6,7,8],[2]] k
abbrev Jbe:Hint:=HM Jbd NN NN [3] false NM (λ_=>0) 0 false NN
@[go_sem] def Jbf:LT:=λk=>LL [[0],[0,5],[2,3,4],[0,12],[2,3,4],[0,15],[2,3,4],[0,18],[2,3,4],[0,25],[2,3,4],[0,28],[2,3,4],[35],[2,3,4],[2,3,4]] k
abbrev Jbg:Hint:=HQ Jbf
@[go_sem] def Jbh:LT:=λk=>LL [[1,2,4],[1,2,4,7],[1,2,4,7],[4]] k
abbrev Jbi:Hint:=HQ Jbh
@[go_sem] def Jbj:LT:=λk=>LL [[0],[0,5,6,7],[0,5,6,7,8],[0,3,4,5,6,7],[0,3,5,6,7,15],[2],[0,5,6,7],[2]] k
abbrev JMC:Hint:=HQ Jbj
@[go_sem] def Jbk:LT:=λk=>LL [[0],[3],[3,8,9,10],[3,8,9,10,11],[3,4,5,8,9,10],[3,4,5,8,9,10,20],[3,4,5,8,9,10,20],[3,8,9,10],[2]] k
abbrev JMD:Hint:=HM Jbk NN NN [] true NM (λ_=>0) 0 false NN
def kA:Tr:= .fin
@[go_sem] theorem JXy{c:Cx}{mx:Mix}{id:Nat}{ops:Array Oper}{s:St}:Jt c mx id ops kA s=Jt c mx id ops (.fin) s:=rfl
def Zu:Tr:= .one 15 kA
@[go_sem] theorem JXz{c:Cx}{mx:Mix}{id:Nat}{ops:Array Oper}{s:St}:Jt c mx id ops Zu s=Jt c mx id ops (.one 15 kA) s:=rfl
def kB:Tr:= .one 14 Zu
@[go_sem] theorem JX0{c:Cx}{mx:Mix}{id:Nat}{ops:Array Oper}{s:St}:Jt c mx id ops kB s=Jt c mx id ops (.one 14 Zu) s:=rfl
def Zv:Tr:= .head 13 Zu
@[go_sem] theorem JX1{c:Cx}{mx:Mix}{id:Nat}{ops:Array Oper}{s:St}:Jt c mx id ops Zv s=Jt c mx id ops (.head 13 Zu) s:=rfl
def kC:Tr:= .alt (.one 13 kB) (.one 14 Zv)
@[go_sem] theorem JX2{c:Cx}{mx:Mix}{id:Nat}{ops:Array Oper}{s:St}:Jt c mx id ops kC s=Jt c mx id ops (.alt (.one 13 kB) (.one 14 Zv)) s:=rfl
def Wj:Tr:= .head 12 Zv
@[go_sem] theorem JX3{c:Cx}{mx:Mix}{id:Nat}{ops:Array Oper}{s:St}:Jt c mx id ops Wj s=Jt c mx id ops (.head 12 Zv) s:=rfl
def Zw:Tr:= .alt (.one 12 kC) (.one 14 Wj)
@[go_sem] theorem JX4{c:Cx}{mx:Mix}{id:Nat}{ops:Array Oper}{s:St}:Jt c mx id ops Zw s=Jt c mx id ops (.alt (.one 12 kC) (.one 14 Wj)) s:=rfl
def Wk:Tr:= .head 11 Wj
@[go_sem] theorem JX5{c:Cx}{mx:Mix}{id:Nat}{ops:Array Oper}{s:St}:Jt c mx id ops Wk s=Jt c mx id ops (.head 11 Wj) s:=rfl
def Zx:Tr:= .alt (.one 11 Zw) (.one 14 Wk)
@[go_sem] theorem JX6{c:Cx}{mx:Mix}{id:Nat}{ops:Array Oper}{s:St}:Jt c mx id ops Zx s=Jt c mx id ops (.alt (.one 11 Zw) (.one 14 Wk)) s:=rfl
def Wl:Tr:= .head 10 Wk
@[go_sem] theorem JX7{c:Cx}{mx:Mix}{id:Nat}{ops:Array Oper}{s:St}:Jt c mx id ops Wl s=Jt c mx id ops (.head 10 Wk) s:=rfl
def W9:Tr:= .alt (.one 10 Zx) (.one 14 Wl)
@[go_sem] theorem JVp{c:Cx}{mx:Mix}{id:Nat}{ops:Array Oper}{s:St}:Jt c mx id ops W9 s=Jt c mx id ops (.alt (.one 10 Zx) (.one 14 Wl)) s:=rfl
def Q1:Tr:= .head 9 Wl
@[go_sem] theorem JVq{c:Cx}{mx:Mix}{id:Nat}{ops:Array Oper}{s:St}:Jt c mx id ops Q1 s=Jt c mx id ops (.head 9 Wl) s:=rfl
def YA:Tr:= .alt (.one 9 W9) (.one 14 Q1)
@[go_sem] theorem JVr{c:Cx}{mx:Mix}{id:Nat}{ops:Array Oper}{s:St}:Jt c mx id ops YA s=Jt c mx id ops (.alt (.one 9 W9) (.one 14 Q1)) s:=rfl
def Q2:Tr:= .head 8 Q1
@[go_sem] theorem JVs{c:Cx}{mx:Mix}{id:Nat}{ops:Array Oper}{s:St}:Jt c mx id ops Q2 s=Jt c mx id ops (.head 8 Q1) s:=rfl
def YB:Tr:= .alt (.one 8 YA) (.one 14 Q2)
@[go_sem] theorem JVt{c:Cx}{mx:Mix}{id:Nat}{ops:Array Oper}{s:St}:Jt c mx id ops YB s=Jt c mx id ops (.alt (.one 8 YA) (.one 14 Q2)) s:=rfl
def YC:Tr:= .head 7 Q2
@[go_sem] theorem JVu{c:Cx}{mx:Mix}{id:Nat}{ops:Array Oper}{s:St}:Jt c mx id ops YC s=Jt c mx id ops (.head 7 Q2) s:=rfl
def HR:Tr:= .alt (.one 7 YB) (.one 14 YC)
@[go_sem] theorem JVv{c:Cx}{mx:Mix}{id:Nat}{ops:Array Oper}{s:St}:Jt c mx id ops HR s=Jt c mx id ops (.alt (.one 7 YB) (.one 14 YC)) s:=rfl
def YD:Tr:= .head 6 Wj
@[go_sem] theorem JVw{c:Cx}{mx:Mix}{id:Nat}{ops:Array Oper}{s:St}:Jt c mx id ops YD s=Jt c mx id ops (.head 6 Wj) s:=rfl
def YG:Tr:= .alt (.one 6 Zw) (.one 14 YD)
@[go_sem] theorem JVx{c:Cx}{mx:Mix}{id:Nat}{ops:Array Oper}{s:St}:Jt c mx id ops YG s=Jt c mx id ops (.alt (.one 6 Zw) (.one 14 YD)) s:=rfl
def YH:Tr:= .head 6 Wk
@[go_sem] theorem JVy{c:Cx}{mx:Mix}{id:Nat}{ops:Array Oper}{s:St}:Jt c mx id ops YH s=Jt c mx id ops (.head 6 Wk) s:=rfl
def YJ:Tr:= .alt (.one 6 Zx) (.alt (.one 11 YG) (.one 14 YH))
@[go_sem] theorem JVz{c:Cx}{mx:Mix}{id:Nat}{ops:Array Oper}{s:St}:Jt c mx id ops YJ s=Jt c mx id ops (.alt (.one 6 Zx) (.alt (.one 11 YG) (.one 14 YH))) s:=rfl
def YK:Tr:= .head 6 Wl
@[go_sem] theorem JV0{c:Cx}{mx:Mix}{id:Nat}{ops:Array Oper}{s:St}:Jt c mx id ops YK s=Jt c mx id ops (.head 6 Wl) s:=rfl
def YL:Tr:= .alt (.one 6 W9) (.alt (.one 10 YJ) (.one 14 YK))
@[go_sem] theorem JV1{c:Cx}{mx:Mix}{id:Nat}{ops:Array Oper}{s:St}:Jt c mx id ops YL s=Jt c mx id ops (.alt (.one 6 W9) (.alt (.one 10 YJ) (.one 14 YK))) s:=rfl
def YM:Tr:= .head 6 Q1
@[go_sem] theorem JV2{c:Cx}{mx:Mix}{id:Nat}{ops:Array Oper}{s:St}:Jt c mx id ops YM s=Jt c mx id ops (.head 6 Q1) s:=rfl
def YN:Tr:= .alt (.one 6 YA) (.alt (.one 9 YL) (.one 14 YM))
@[go_sem] theorem JV3{c:Cx}{mx:Mix}{id:Nat}{ops:Array Oper}{s:St}:Jt c mx id ops YN s=Jt c mx id ops (.alt (.one 6 YA) (.alt (.one 9 YL) (.one 14 YM))) s:=rfl
def YO:Tr:= .head 6 Q2
@[go_sem] theorem JV4{c:Cx}{mx:Mix}{id:Nat}{ops:Array Oper}{s:St}:Jt c mx id ops YO s=Jt c mx id ops (.head 6 Q2) s:=rfl
def YP:Tr:= .alt (.one 6 YB) (.alt (.one 8 YN) (.one 14 YO))
@[go_sem] theorem JV5{c:Cx}{mx:Mix}{id:Nat}{ops:Array Oper}{s:St}:Jt c mx id ops YP s=Jt c mx id ops (.alt (.one 6 YB) (.alt (.one 8 YN) (.one 14 YO))) s:=rfl
def YQ:Tr:= .head 6 YC
@[go_sem] theorem JV6{c:Cx}{mx:Mix}{id:Nat}{ops:Array Oper}{s:St}:Jt c mx id ops YQ s=Jt c mx id ops (.head 6 YC) s:=rfl
def HS:Tr:= .alt (.one 6 HR) (.alt (.one 7 YP) (.one 14 YQ))
@[go_sem] theorem JV7{c:Cx}{mx:Mix}{id:Nat}{ops:Array Oper}{s:St}:Jt c mx id ops HS s=Jt c mx id ops (.alt (.one 6 HR) (.alt (.one 7 YP) (.one 14 YQ))) s:=rfl
def YR:Tr:= .head 5 YD
@[go_sem] theorem JV8{c:Cx}{mx:Mix}{id:Nat}{ops:Array Oper}{s:St}:Jt c mx id ops YR s=Jt c mx id ops (.head 5 YD) s:=rfl
def YS:Tr:= .alt (.one 5 YG) (.one 14 YR)
@[go_sem] theorem JV9{c:Cx}{mx:Mix}{id:Nat}{ops:Array Oper}{s:St}:Jt c mx id ops YS s=Jt c mx id ops (.alt (.one 5 YG) (.one 14 YR)) s:=rfl
def YT:Tr:= .head 5 YH
@[go_sem] theorem JWA{c:Cx}{mx:Mix}{id:Nat}{ops:Array Oper}{s:St}:Jt c mx id ops YT s=Jt c mx id ops (.head 5 YH) s:=rfl
def YU:Tr:= .alt (.one 5 YJ) (.alt (.one 11 YS) (.one 14 YT))
@[go_sem] theorem JWB{c:Cx}{mx:Mix}{id:Nat}{ops:Array Oper}{s:St}:Jt c mx id ops YU s=Jt c mx id ops (.alt (.one 5 YJ) (.alt (.one 11 YS) (.one 14 YT))) s:=rfl
def YV:Tr:= .head 5 YK
@[go_sem] theorem JWC{c:Cx}{mx:Mix}{id:Nat}{ops:Array Oper}{s:St}:Jt c mx id ops YV s=Jt c mx id ops (.head 5 YK) s:=rfl
def YW:Tr:= .alt (.one 5 YL) (.alt (.one 10 YU) (.one 14 YV))
@[go_sem] theorem JWD{c:Cx}{mx:Mix}{id:Nat}{ops:Array Oper}{s:St}:Jt c mx id ops YW s=Jt c mx id ops (.alt (.one 5 YL) (.alt (.one 10 YU) (.one 14 YV))) s:=rfl
def YX:Tr:= .head 5 YM
@[go_sem] theorem JWG{c:Cx}{mx:Mix}{id:Nat}{ops:Array Oper}{s:St}:Jt c mx id ops YX s=Jt c mx id ops (.head 5 YM) s:=rfl
def YY:Tr:= .alt (.one 5 YN) (.alt (.one 9 YW) (.one 14 YX))
@[go_sem] theorem JWH{c:Cx}{mx:Mix}{id:Nat}{ops:Array Oper}{s:St}:Jt c mx id ops YY s=Jt c mx id ops (.alt (.one 5 YN) (.alt (.one 9 YW) (.one 14 YX))) s:=rfl
def YZ:Tr:= .head 5 YO
@[go_sem] theorem JWJ{c:Cx}{mx:Mix}{id:Nat}{ops:Array Oper}{s:St}:Jt c mx id ops YZ s=Jt c mx id ops (.head 5 YO) s:=rfl
def Ya:Tr:= .alt (.one 5 YP) (.alt (.one 8 YY) (.one 14 YZ))
@[go_sem] theorem JWK{c:Cx}{mx:Mix}{id:Nat}{ops:Array Oper}{s:St}:Jt c mx id ops Ya s=Jt c mx id ops (.alt (.one 5 YP) (.alt (.one 8 YY) (.one 14 YZ))) s:=rfl
def Yb:Tr:= .head 5 YQ
@[go_sem] theorem JWL{c:Cx}{mx:Mix}{id:Nat}{ops:Array Oper}{s:St}:Jt c mx id ops Yb s=Jt c mx id ops (.head 5 YQ) s:=rfl
def HT:Tr:= .alt (.one 5 HS) (.alt (.one 7 Ya) (.one 14 Yb))
@[go_sem] theorem JWM{c:Cx}{mx:Mix}{id:Nat}{ops:Array Oper}{s:St}:Jt c mx id ops HT s=Jt c mx id ops (.alt (.one 5 HS) (.alt (.one 7 Ya) (.one 14 Yb))) s:=rfl
def Yc:Tr:= .head 4 YR
@[go_sem] theorem JWN{c:Cx}{mx:Mix}{id:Nat}{ops:Array Oper}{s:St}:Jt c mx id ops Yc s=Jt c mx id ops (.head 4 YR) s:=rfl
def Yd:Tr:= .alt (.one 4 YS) (.one 14 Yc)
@[go_sem] theorem JWO{c:Cx}{mx:Mix}{id:Nat}{ops:Array Oper}{s:St}:Jt c mx id ops Yd s=Jt c mx id ops (.alt (.one 4 YS) (.one 14 Yc)) s:=rfl
def Ye:Tr:= .head 4 YT
@[go_sem] theorem JWP{c:Cx}{mx:Mix}{id:Nat}{ops:Array Oper}{s:St}:Jt c mx id ops Ye s=Jt c mx id ops (.head 4 YT) s:=rfl
def Yf:Tr:= .alt (.one 4 YU) (.alt (.one 11 Yd) (.one 14 Ye))
@[go_sem] theorem JWQ{c:Cx}{mx:Mix}{id:Nat}{ops:Array Oper}{s:St}:Jt c mx id ops Yf s=Jt c mx id ops (.alt (.one 4 YU) (.alt (.one 11 Yd) (.one 14 Ye))) s:=rfl
def Yg:Tr:= .head 4 YV
@[go_sem] theorem JWR{c:Cx}{mx:Mix}{id:Nat}{ops:Array Oper}{s:St}:Jt c mx id ops Yg s=Jt c mx id ops (.head 4 YV) s:=rfl
def Yh:Tr:= .alt (.one 4 YW) (.alt (.one 10 Yf) (.one 14 Yg))
@[go_sem] theorem JWS{c:Cx}{mx:Mix}{id:Nat}{ops:Array Oper}{s:St}:Jt c mx id ops Yh s=Jt c mx id ops (.alt (.one 4 YW) (.alt (.one 10 Yf) (.one 14 Yg))) s:=rfl
def Yi:Tr:= .head 4 YX
@[go_sem] theorem JWT{c:Cx}{mx:Mix}{id:Nat}{ops:Array Oper}{s:St}:Jt c mx id ops Yi s=Jt c mx id ops (.head 4 YX) s:=rfl
def Yj:Tr:= .alt (.one 4 YY) (.alt (.one 9 Yh) (.one 14 Yi))
@[go_sem] theorem JWU{c:Cx}{mx:Mix}{id:Nat}{ops:Array Oper}{s:St}:Jt c mx id ops Yj s=Jt c mx id ops (.alt (.one 4 YY) (.alt (.one 9 Yh) (.one 14 Yi))) s:=rfl
def Yk:Tr:= .head 4 YZ
@[go_sem] theorem JWV{c:Cx}{mx:Mix}{id:Nat}{ops:Array Oper}{s:St}:Jt c mx id ops Yk s=Jt c mx id ops (.head 4 YZ) s:=rfl
def Yl:Tr:= .alt (.one 4 Ya) (.alt (.one 8 Yj) (.one 14 Yk))
@[go_sem] theorem JWW{c:Cx}{mx:Mix}{id:Nat}{ops:Array Oper}{s:St}:Jt c mx id ops Yl s=Jt c mx id ops (.alt (.one 4 Ya) (.alt (.one 8 Yj) (.one 14 Yk))) s:=rfl
def Ym:Tr:= .head 4 Yb
@[go_sem] theorem JWX{c:Cx}{mx:Mix}{id:Nat}{ops:Array Oper}{s:St}:Jt c mx id ops Ym s=Jt c mx id ops (.head 4 Yb) s:=rfl
def HU:Tr:= .alt (.one 4 HT) (.alt (.one 7 Yl) (.one 14 Ym))
@[go_sem] theorem JWY{c:Cx}{mx:Mix}{id:Nat}{ops:Array Oper}{s:St}:Jt c mx id ops HU s=Jt c mx id ops (.alt (.one 4 HT) (.alt (.one 7 Yl) (.one 14 Ym))) s:=rfl
def HV:Tr:= .head 3 Yc
@[go_sem] theorem JWZ{c:Cx}{mx:Mix}{id:Nat}{ops:Array Oper}{s:St}:Jt c mx id ops HV s=Jt c mx id ops (.head 3 Yc) s:=rfl
def HW:Tr:= .alt (.one 3 Yd) (.one 14 HV)
@[go_sem] theorem JWa{c:Cx}{mx:Mix}{id:Nat}{ops:Array Oper}{s:St}:Jt c mx id ops HW s=Jt c mx id ops (.alt (.one 3 Yd) (.one 14 HV)) s:=rfl
def HX:Tr:= .head 3 Ye
@[go_sem] theorem JWb{c:Cx}{mx:Mix}{id:Nat}{ops:Array Oper}{s:St}:Jt c mx id ops HX s=Jt c mx id ops (.head 3 Ye) s:=rfl
def HY:Tr:= .alt (.one 3 Yf) (.alt (.one 11 HW) (.one 14 HX))
@[go_sem] theorem JWc{c:Cx}{mx:Mix}{id:Nat}{ops:Array Oper}{s:St}:Jt c mx id ops HY s=Jt c mx id ops (.alt (.one 3 Yf) (.alt (.one 11 HW) (.one 14 HX))) s:=rfl
def HZ:Tr:= .head 3 Yg
@[go_sem] theorem JWd{c:Cx}{mx:Mix}{id:Nat}{ops:Array Oper}{s:St}:Jt c mx id ops HZ s=Jt c mx id ops (.head 3 Yg) s:=rfl
def Ha:Tr:= .alt (.one 3 Yh) (.alt (.one 10 HY) (.one 14 HZ))
@[go_sem] theorem JWe{c:Cx}{mx:Mix}{id:Nat}{ops:Array Oper}{s:St}:Jt c mx id ops Ha s=Jt c mx id ops (.alt (.one 3 Yh) (.alt (.one 10 HY) (.one 14 HZ))) s:=rfl
def Hb:Tr:= .head 3 Yi
@[go_sem] theorem JWf{c:Cx}{mx:Mix}{id:Nat}{ops:Array Oper}{s:St}:Jt c mx id ops Hb s=Jt c mx id ops (.head 3 Yi) s:=rfl
def Hc:Tr:= .alt (.one 3 Yj) (.alt (.one 9 Ha) (.one 14 Hb))
@[go_sem] theorem JWg{c:Cx}{mx:Mix}{id:Nat}{ops:Array Oper}{s:St}:Jt c mx id ops Hc s=Jt c mx id ops (.alt (.one 3 Yj) (.alt (.one 9 Ha) (.one 14 Hb))) s:=rfl
def Hd:Tr:= .head 3 Yk
@[go_sem] theorem JWh{c:Cx}{mx:Mix}{id:Nat}{ops:Array Oper}{s:St}:Jt c mx id ops Hd s=Jt c mx id ops (.head 3 Yk) s:=rfl
def He:Tr:= .alt (.one 3 Yl) (.alt (.one 8 Hc) (.one 14 Hd))
@[go_sem] theorem JWi{c:Cx}{mx:Mix}{id:Nat}{ops:Array Oper}{s:St}:Jt c mx id ops He s=Jt c mx id ops (.alt (.one 3 Yl) (.alt (.one 8 Hc) (.one 14 Hd))) s:=rfl
def Hf:Tr:= .head 3 Ym
@[go_sem] theorem JWj{c:Cx}{mx:Mix}{id:Nat}{ops:Array Oper}{s:St}:Jt c mx id ops Hf s=Jt c mx id ops (.head 3 Ym) s:=rfl
def Hg:Tr:= .alt (.one 3 HU) (.alt (.one 7 He) (.one 14 Hf))
@[go_sem] theorem JWk{c:Cx}{mx:Mix}{id:Nat}{ops:Array Oper}{s:St}:Jt c mx id ops Hg s=Jt c mx id ops (.alt (.one 3 HU) (.alt (.one 7 He) (.one 14 Hf))) s:=rfl
def Hh:Tr:= .head 2 Hg
@[go_sem] theorem JWl{c:Cx}{mx:Mix}{id:Nat}{ops:Array Oper}{s:St}:Jt c mx id ops Hh s=Jt c mx id ops (.head 2 Hg) s:=rfl
def Hi:Tr:= .head 1 Hh
@[go_sem] theorem JWm{c:Cx}{mx:Mix}{id:Nat}{ops:Array Oper}{s:St}:Jt c mx id ops Hi s=Jt c mx id ops (.head 1 Hh) s:=rfl
def JO:Tr:= .head 0 Hi
@[go_sem] theorem JWn{c:Cx}{mx:Mix}{id:Nat}{ops:Array Oper}{s:St}:Jt c mx id ops JO s=Jt c mx id ops (.head 0 Hi) s:=rfl
@[go_sem] def Jbl:LT:=λk=>LL [[0,2],[2,4],[2,4,5,6],[2,3]] k
@[go_sem] def Jbm:Nat->Option Mix:=λ|3=>some ⟨[0,1,2,3,4,5,6,7,8,9,10,11,12,13],[],JO⟩|_=>none
abbrev JWo:Hint:=HM Jbl NN (λ|3=>some 14|_=>none) [] false Jbm (λ_=>0) 0 false NN
@[go_sem] def Jbn:LT:=λk=>LL [[0],[0,3],[0,3,4],[0,3,4,7,8,9],[0,3,4,7,8,9,10],[0,3,4,5,6,7,8,9],[0,3,4,5,7,8,9,17],[0,3,5,7,8,9],[0,3,4,5,7,8,9,17],[0,3,4,7,8,9],[2]] k
abbrev JOw:Hint:=HM Jbn (λ|9=>some 0|_=>none) NN [3] false NM (λ_=>0) 0 false NN
@[go_sem] def Jbo:LT:=λk=>LL [[1,2],[1,2,9],[4],[1,2,5],[1,2,5,15],[4],[1,2,5,41],[4],[1,2,5,6],[1,2,5,6,43],[1,2,5,6,43,44],[1,2,5,6,43,44],[1,2,5,6,43,44],[1,2,5,6,43,44],[1,2,5,6,43,44],[1,2,5,6,43,51],[1,2,5,6,43,51],[1,2,5,6,43,44],[1,2,5,6,56],[1,2,5,6,43,44],[1,2,5,6,7],[1,2,5,6,7,65],[1,2,5,6,7],[1,2,5,6,7],[4]] k
abbrev JMG:Hint:=HQ Jbo
@[go_sem] def Jbp:LT:=λk=>LL [[1,2,3],[6]] k
abbrev Jbq:Hint:=HQ Jbp
@[go_sem] def Jbr:LT:=λk=>LL [[1],[2]] k
abbrev Jbs:Hint:=HQ Jbr
@[go_sem] def Jbt:LT:=λk=>LL [[0,2],[0,2,4],[0,2,4,5,6],[0,2,4,5,6,7],[0,2,4,5,6,7,14],[0,2,4,5,6,7],[0,2,4,5,6,7,28],[0,2,4,6,7,8],[0,2,4,6,7,8,36],[2,3],[0,2,4,6,7,8,9,10],[0,2,4,6,7,8,9,10,50],[0,2,4,6,7,8,9,10,50],[0,2,4,6,7,9,60],[2,3],[0,2,4,7,9,62],[0,2,4,7,9,62],[0,2,4,7],[0,2,4,6,7],[0,2,4,5,6,7],[2,4,87],[2,3],[2,3]] k
abbrev JWp:Hint:=HM Jbt (λ|17=>some 1|_=>none) NN [4] false NM (λ_=>0) 0 false NN
@[go_sem] def Jbu:LT:=λk=>LL [[0,1],[0,1,6],[0,1],[4]] k
@[go_sem] def Jbv:Nat->Option Mix:=λ|2=>some ⟨[0,1,2,3],[],.head 0 (.head 1 (.alt (.one 2 (.alt (.one 3 (.one 4 (.one 5 (.fin)))) (.one 4 (.head 3 (.one 5 (.fin)))))) (.one 4 (.head 2 (.head 3 (.one 5 (.fin)))))))⟩|_=>none
abbrev JOx:Hint:=HM Jbu NN (λ|2=>some 4|_=>none) [] false Jbv (λ_=>0) 0 false NN
@[go_sem] def Jbw:LT:=λk=>LL [[1,2],[2]] k
abbrev Jbx:Hint:=HQ Jbw
@[go_sem] def Jby:LT:=λk=>LL [[2,3],[4]] k
abbrev Jbz:Hint:=HQ Jby
@[go_sem] def Jb0:LT:=λk=>LL [[2,3,4],[2,3,4,5,6],[4,5,7],[4]] k
abbrev Jip:Hint:=HQ Jb0
@[go_sem] def Jb1:LT:=λk=>LL [[1,2],[2]] k
abbrev Jb2:Hint:=HQ Jb1
@[go_sem] def Jb3:LT:=λk=>LL [[0],[0,4],[2,3],[0,9],[2,3],[0,19],[2,3],[2,3]] k
abbrev Jb4:Hint:=HQ Jb3
@[go_sem] def Jb5:LT:=λk=>LL [[0,1],[0,1,14],[0,1],[4]] k
abbrev Jb6:Hint:=HQ Jb5
@[go_sem] def Jb7:LT:=λk=>LL [[0,1,2,6],[0,1,2,6,7,8],[0,1,2,6,7,8,25],[0,1,2,6,7,8],[0,1,2,6,7,8,30],[6],[0,1,2,6,7,8,36],[0,1,2,6,7,8],[0,1,2,6,7,8,30],[0,1,2,6,7,8,44],[6],[0,1,2,6,7,8,9],[0,2,6,9,50,51,52],[0,2,6,9,50,51,52,53],[0,2,6,9,11,50,51,52],[0,2,6,9,50,51,52],[0,2,6,9,50,51,52],[0,2,6,9,12],[0,2,6,9,12,64],[0,2,6,9,12],[0,2,6,9,12,68],[6],[0,2,6,9,12],[0,6,9,12,13,14],[0,6,9,12,13,14,82],[0,6,9,12,13,14],[0,6,9,12,13,14,93],[0,6,9,12,13,14],[0,6,9,12,13,14,103],[6],[0,6,9,12,13,14,106],[0,6,9,12,13,14,103],[0,6,9,12,13,14],[0,6,9,12,14,112],[0,6,9,12,13,14,103],[0,6,9,12,14,116],[6],[0,6,9,12,14],[6,9,12,120],[6],[6]] k
abbrev Jb8:Hint:=HQ Jb7
@[go_sem] def Jb9:LT:=λk=>LL [[0,2],[0,2,3],[0,2,3],[0,2,3,18],[2],[0,2,23],[0,2]] k
abbrev JcA:Hint:=HQ Jb9
@[go_sem] def JcB:LT:=λk=>LL [[0],[2]] k
abbrev JcC:Hint:=HQ JcB
@[go_sem] def JcD:LT:=λk=>LL [[1],[2]] k
abbrev JcG:Hint:=HQ JcD
@[go_sem] def JcH:LT:=λk=>LL [[],[0]] k
abbrev JcJ:Hint:=HQ JcH
@[go_sem] def JcK:LT:=λk=>LL [[0,2],[0,2,4,5],[0,2,4,14],[2,3],[0,2,4,6],[0,2,4,6,7],[0,2,4,6,7,22],[0,2,4,5,6,7],[0,2,4,6,7,29],[2,3],[0,2,4,6,32],[0,2,4,6,32],[0,2,4,6],[2,3]] k
abbrev JWq:Hint:=HM JcK NN (λ|4=>some 2|_=>none) [] false NM (λ_=>0) 0 false NN
@[go_sem] def JcL:LT:=λk=>LL [[0],[2]] k
abbrev JcM:Hint:=HQ JcL
@[go_sem] def JcN:LT:=λk=>LL [[1],[2]] k
abbrev JcO:Hint:=HM JcN NN (λ|1=>some 18|_=>none) [] false NM (λ_=>0) 0 false NN
@[go_sem] def JcP:LT:=λk=>LL [[0,2],[0,2,4,5],[0,2,4,14],[2,3],[0,2,4,6],[0,2,4,6,7],[0,2,4,6,7,22],[0,2,4,5,6,7],[0,2,4,6,7,29],[2,3],[0,2,4,6,32],[0,2,4,6,32],[0,2,4,6],[2,3]] k
abbrev JWr:Hint:=HM JcP NN (λ|4=>some 2|_=>none) [] false NM (λ_=>0) 0 false NN
@[go_sem] def JcQ:LT:=λk=>LL [[1,2,3,4],[1,2,3,4,9],[1,2,3,4,9,10],[1,2,3,4,9,10,11],[1,2,3,4,9,10,11,45],[1,2,3,4,9,10,11,12],[1,2,3,4,9,10,11,12],[1,2,3,4,9,11,12,13],[4,9,12,84],[8],[],[8]] k
abbrev JcR:Hint:=HM JcQ NN (λ|4=>some 25|5=>some 12|_=>none) [] false NM (λ_=>0) 0 false NN
@[go_sem] def JcS:LT:=λk=>LL [[1,2],[1,2,6],[2],[2]] k
abbrev JcT:Hint:=HQ JcS
@[go_sem] def JcU:LT:=λk=>LL [[0,1],[0,1,6],[0,1],[4]] k
abbrev JOy:Hint:=HQ JcU
@[go_sem] def JcV:LT:=λk=>LL [[0],[0,4],[2],[2]] k
abbrev JcW:Hint:=HQ JcV
@[go_sem] def JcX:LT:=λk=>LL [[0,2],[0,2,14],[2,3],[0,2,4],[2,4],[2,4,36],[2,3],[2,3]] k
@[go_sem] def JcY:Nat->Option Mix:=λ|3=>some ⟨[0,1,2,3,4,5,6,7,8,9],[],HH [0,1,2,3,4,5,6,7,8,9] (.one 10 (.one 11 (.fin)))⟩|_=>none
abbrev JcZ:Hint:=HM JcX NN (λ|1=>some 10|3=>some 10|_=>none) [] false JcY (λ_=>0) 0 false NN
@[go_sem] def Jca:LT:=λk=>LL [[0],[0,2],[0,2,31],[0,2],[1]] k
abbrev JWs:Hint:=HM Jca NN (λ|2=>some 25|_=>none) [] false NM (λ_=>0) 0 false NN
def hints(f:Nat):Hint:=match f with|3=>h3|4=>h4|5=>h5|6=>h6|7=>h7|8=>h8|9=>h9|10=>h10|11=>h11|12=>h12|13=>h13|14=>h14|15=>h15|16=>h16|17=>h17|18=>h18|19=>h19|20=>h20|21=>h21|22=>h22|23=>h23|24=>h24|25=>h25|26=>h26|27=>h27|28=>h28|29=>h29|30=>h30|31=>h31|32=>h32|33=>h33|34=>h34|35=>h35|36=>h36|37=>h37|38=>h38|39=>h39|40=>h40|41=>h41|42=>h42|43=>h43|44=>h44|45=>h45|46=>h46|47=>h47|48=>h48|49=>h49|50=>h50|51=>h51|53=>h53|54=>h54|55=>h55|56=>h56|57=>h57|58=>h58|59=>h59|60=>h60|61=>h61|62=>h62|63=>h63|64=>h64|65=>h65|66=>h66|67=>h67|68=>h68|69=>h69|70=>h70|71=>h71|72=>h72|73=>h73|74=>h74|75=>h75|76=>h76|77=>h77|78=>h78|79=>h79|80=>h80|81=>h81|82=>h82|83=>h83|84=>h84|85=>h85|86=>h86|89=>h89|90=>h90|91=>h91|92=>h92|93=>h93|94=>h94|95=>h95|96=>h96|97=>h97|98=>h98|99=>h99|100=>JOv|101=>JVo|102=>JbK|103=>JbM|104=>JbO|105=>JbQ|106=>JbS|107=>JbU|108=>JbW|109=>JbY|110=>Jba|111=>Jbc|112=>Jbe|113=>Jbg|115=>Jbi|116=>JMC|117=>JMD|118=>JWo|119=>JOw|120=>JMG|121=>Jbq|122=>Jbs|123=>JWp|124=>JOx|125=>Jbx|126=>Jbz|127=>Jip|128=>Jb2|129=>Jb4|130=>Jb6|131=>Jb8|132=>JcA|133=>JcC|136=>JcG|137=>JcJ|138=>JWq|140=>JcM|141=>JcO|142=>JWr|143=>JcR|144=>JcT|145=>JOy|146=>JcW|147=>JcZ|148=>JWs|_=>⟨λ_=>none,λ_=>none,λ_=>none,[],false,λ_=>none,λ_=>0,0,false,λ_=>none⟩
noncomputable def E:Yr:=ev Aa hints primz
noncomputable def b3:Code:=JB Tryz.f3
abbrev EQ(f n:Nat)(rs:List ResultVar)(hi:Hint)(b:Code):Prop:=∀{lo:Nat} {args:List V} {h:JM},(_:args.length<=n:=by simp)->(_:args.all bare=true:=by rfl)->E lo f args h=fin Aa rs h.length (evCode ⟨Aa,E,lo,h.length,hi⟩ JA b (QJ args,h))
theorem EO{f nt:Nat}{fn:Func}{b:Code}{rs:List ResultVar}{hi:Hint}(hf:Aa.funcs[f]? =some fn)(hn:fn.ntmps=nt)(hname:(fn.name != "runtime.NumGoroutine")=true:=by kernel_rfl) (hcode:codeOk Aa hi nt b=true:=by kernel_rfl) (hp:primz f=none:=by exact rfl) (hb:fn.body=some b:=by exact rfl) (hh:hints f=hi:=by exact rfl) (hrs:fn.results.toList=rs:=by exact rfl) (hret:hi.ret=0:=by exact rfl) (hrr:hi.rawr=false:=by exact rfl):∀{lo:Nat} {args:List V} {h:JM},args.length<=nt->args.all bare=true->E lo f args h=fin Aa rs h.length (evCode ⟨Aa,E,lo,h.length,hi⟩ JA b (QJ args,h)):=λha hb2=>JKP hp hf hb hn hname hh hcode hrs hret hrr ha hb2
theorem e3:EQ 3 51 [.tmp 4] h3 b3:=EO Tryz.func3 Tryz.ntmps3
noncomputable def b4:Code:=JB Tryz.f4
theorem e4:EQ 4 40 [.tmp 4] h4 b4:=EO Tryz.func4 Tryz.ntmps4
noncomputable def b5:Code:=JB Tryz.f5
noncomputable def b6:Code:=JB Tryz.f6
theorem e6:EQ 6 40 [.tmp 0] h6 b6:=EO Tryz.func6 Tryz.ntmps6
noncomputable def b7:Code:=JB Tryz.f7
noncomputable def Joi:Code:=JK b7 0
noncomputable def Joj:Code:=JK b7 1
theorem e7:EQ 7 66 [.tmp 2] h7 b7:=EO Tryz.func7 Tryz.ntmps7
noncomputable def b8:Code:=JB Tryz.f8
theorem e8:EQ 8 6 [.tmp 2] h8 b8:=EO Tryz.func8 Tryz.ntmps8
noncomputable def b9:Code:=JB Tryz.f9
theorem e9:EQ 9 91 [.cell 4 41,.tmp 5] h9 b9:=EO Tryz.func9 Tryz.ntmps9
noncomputable def WJ:Code:=JB Tryz.f10
noncomputable def kD:Code:=JK WJ 0
theorem e10:EQ 10 167 [.cell 4 41,.tmp 5] h10 WJ:=EO Tryz.func10 Tryz.ntmps10
noncomputable def b11:Code:=JB Tryz.f11
theorem e11:EQ 11 31 [.tmp 4] h11 b11:=EO Tryz.func11 Tryz.ntmps11
noncomputable def b12:Code:=JB Tryz.f12
theorem e12:EQ 12 15 [.tmp 4] h12 b12:=EO Tryz.func12 Tryz.ntmps12
noncomputable def b13:Code:=JB Tryz.f13
noncomputable def b14:Code:=JB Tryz.f14
theorem e14:EQ 14 5 [.cell 2 30] h14 b14:=EO Tryz.func14 Tryz.ntmps14
noncomputable def b15:Code:=JB Tryz.f15
theorem e15:EQ 15 6 [.cell 2 30] h15 b15:=EO Tryz.func15 Tryz.ntmps15
noncomputable def b16:Code:=JB Tryz.f16
theorem e16:EQ 16 9 [.cell 4 30] h16 b16:=EO Tryz.func16 Tryz.ntmps16
noncomputable def b17:Code:=JB Tryz.f17
theorem e17:EQ 17 11 [.tmp 2] h17 b17:=EO Tryz.func17 Tryz.ntmps17
noncomputable def b18:Code:=JB Tryz.f18
theorem e18:EQ 18 56 [.tmp 2] h18 b18:=EO Tryz.func18 Tryz.ntmps18
noncomputable def b19:Code:=JB Tryz.f19
noncomputable def Jm1:Code:=JK b19 0
theorem e19:EQ 19 19 [.tmp 2] h19 b19:=EO Tryz.func19 Tryz.ntmps19
noncomputable def b20:Code:=JB Tryz.f20
noncomputable def Jm3:Code:=JK b20 0
theorem e20:EQ 20 58 [.tmp 2] h20 b20:=EO Tryz.func20 Tryz.ntmps20
noncomputable def b21:Code:=JB Tryz.f21
theorem e21:EQ 21 55 [.cell 2 32,.tmp 3] h21 b21:=EO Tryz.func21 Tryz.ntmps21
noncomputable def b22:Code:=JB Tryz.f22
noncomputable def GW:Code:=JK b22 0
theorem e22:EQ 22 13 [.tmp 2] h22 b22:=EO Tryz.func22 Tryz.ntmps22
noncomputable def b23:Code:=JB Tryz.f23
theorem e23:EQ 23 5 [.tmp 2] h23 b23:=EO Tryz.func23 Tryz.ntmps23
noncomputable def zy:Code:=JB Tryz.f24
noncomputable def QK:Code:=JK zy 0
theorem e24:EQ 24 41 [.tmp 4] h24 zy:=EO Tryz.func24 Tryz.ntmps24
noncomputable def b25:Code:=JB Tryz.f25
theorem e25:EQ 25 6 [.tmp 2] h25 b25:=EO Tryz.func25 Tryz.ntmps25
noncomputable def b26:Code:=JB Tryz.f26
noncomputable def H1:Code:=JK b26 0
theorem e26:EQ 26 30 [.tmp 2] h26 b26:=EO Tryz.func26 Tryz.ntmps26
noncomputable def b27:Code:=JB Tryz.f27
theorem e27:EQ 27 5 [.tmp 2] h27 b27:=EO Tryz.func27 Tryz.ntmps27
noncomputable def b28:Code:=JB Tryz.f28
noncomputable def Wm:Code:=JK b28 0
theorem e28:EQ 28 82 [.tmp 2] h28 b28:=EO Tryz.func28 Tryz.ntmps28
noncomputable def b29:Code:=JB Tryz.f29
theorem e29:EQ 29 9 [.tmp 4] h29 b29:=EO Tryz.func29 Tryz.ntmps29
noncomputable def b30:Code:=JB Tryz.f30
theorem e30:EQ 30 82 [.cell 4 41,.tmp 5] h30 b30:=EO Tryz.func30 Tryz.ntmps30
noncomputable def b31:Code:=JB Tryz.f31
noncomputable def kG:Code:=JK b31 0
theorem e31:EQ 31 21 [.cell 2 32,.tmp 3] h31 b31:=EO Tryz.func31 Tryz.ntmps31
noncomputable def b32:Code:=JB Tryz.f32
theorem e32:EQ 32 16 [.tmp 2] h32 b32:=EO Tryz.func32 Tryz.ntmps32
noncomputable def b33:Code:=JB Tryz.f33
theorem e33:EQ 33 5 [.tmp 2] h33 b33:=EO Tryz.func33 Tryz.ntmps33
noncomputable def b34:Code:=JB Tryz.f34
noncomputable def z6:Code:=JK b34 0
theorem e34:EQ 34 48 [.tmp 2,.tmp 3] h34 b34:=EO Tryz.func34 Tryz.ntmps34
noncomputable def b35:Code:=JB Tryz.f35
noncomputable def WA:Code:=JK b35 0
theorem e35:EQ 35 29 [.tmp 4] h35 b35:=EO Tryz.func35 Tryz.ntmps35
noncomputable def b36:Code:=JB Tryz.f36
noncomputable def z7:Code:=JK b36 0
noncomputable def H3:Code:=JK b36 1
theorem e36:EQ 36 36 [.tmp 2] h36 b36:=EO Tryz.func36 Tryz.ntmps36
noncomputable def b37:Code:=JB Tryz.f37
noncomputable def yH:Code:=JK b37 0
theorem e37:EQ 37 29 [.tmp 2] h37 b37:=EO Tryz.func37 Tryz.ntmps37
noncomputable def b38:Code:=JB Tryz.f38
noncomputable def yJ:Code:=JK b38 0
theorem e38:EQ 38 36 [.tmp 2] h38 b38:=EO Tryz.func38 Tryz.ntmps38
noncomputable def b39:Code:=JB Tryz.f39
theorem e39:EQ 39 27 [.cell 2 39,.tmp 3] h39 b39:=EO Tryz.func39 Tryz.ntmps39
noncomputable def b40:Code:=JB Tryz.f40
theorem e40:EQ 40 5 [.cell 2 28] h40 b40:=EO Tryz.func40 Tryz.ntmps40
noncomputable def b41:Code:=JB Tryz.f41
theorem e41:EQ 41 5 [.tmp 2] h41 b41:=EO Tryz.func41 Tryz.ntmps41
noncomputable def b42:Code:=JB Tryz.f42
noncomputable def yK:Code:=JK b42 0
theorem e42:EQ 42 64 [.tmp 2] h42 b42:=EO Tryz.func42 Tryz.ntmps42
noncomputable def b43:Code:=JB Tryz.f43
noncomputable def JBp:Code:=JK b43 0
theorem e43:EQ 43 53 [.tmp 4] h43 b43:=EO Tryz.func43 Tryz.ntmps43
noncomputable def b44:Code:=JB Tryz.f44
noncomputable def JBq:Code:=JK b44 0
theorem e44:EQ 44 26 [.tmp 4] h44 b44:=EO Tryz.func44 Tryz.ntmps44
noncomputable def b45:Code:=JB Tryz.f45
noncomputable def b46:Code:=JB Tryz.f46
noncomputable def JnD:Code:=JK b46 0
noncomputable def JnG:Code:=JK b46 1
theorem e46:EQ 46 44 [] h46 b46:=EO Tryz.func46 Tryz.ntmps46
noncomputable def b47:Code:=JB Tryz.f47
theorem e47:EQ 47 33 [.tmp 4] h47 b47:=EO Tryz.func47 Tryz.ntmps47
noncomputable def b48:Code:=JB Tryz.f48
noncomputable def JnJ:Code:=JK b48 0
theorem e48:EQ 48 177 [.cell 2 53] h48 b48:=EO Tryz.func48 Tryz.ntmps48
noncomputable def b49:Code:=JB Tryz.f49
noncomputable def JnL:Code:=JK b49 0
theorem e49:EQ 49 27 [.tmp 2] h49 b49:=EO Tryz.func49 Tryz.ntmps49
noncomputable def b50:Code:=JB Tryz.f50
theorem e50:EQ 50 14 [.tmp 2] h50 b50:=EO Tryz.func50 Tryz.ntmps50
noncomputable def b51:Code:=JB Tryz.f51
theorem e51:EQ 51 16 [.tmp 0] h51 b51:=EO Tryz.func51 Tryz.ntmps51
noncomputable def b53:Code:=JB Tryz.f53
theorem e53:EQ 53 8 [.tmp 4] h53 b53:=EO Tryz.func53 Tryz.ntmps53
noncomputable def b54:Code:=JB Tryz.f54
noncomputable def W1:Code:=JK b54 0
theorem e54:EQ 54 43 [.tmp 4] h54 b54:=EO Tryz.func54 Tryz.ntmps54
noncomputable def b55:Code:=JB Tryz.f55
theorem e55:EQ 55 14 [.tmp 2] h55 b55:=EO Tryz.func55 Tryz.ntmps55
noncomputable def b56:Code:=JB Tryz.f56
theorem e56:EQ 56 37 [.tmp 2] h56 b56:=EO Tryz.func56 Tryz.ntmps56
noncomputable def b57:Code:=JB Tryz.f57
noncomputable def JBr:Code:=JK b57 0
theorem e57:EQ 57 23 [.tmp 2] h57 b57:=EO Tryz.func57 Tryz.ntmps57
noncomputable def b58:Code:=JB Tryz.f58
noncomputable def z8:Code:=JK b58 0
noncomputable def H4:Code:=JK b58 1
theorem e58:EQ 58 32 [.tmp 2] h58 b58:=EO Tryz.func58 Tryz.ntmps58
noncomputable def b59:Code:=JB Tryz.f59
theorem e59:EQ 59 9 [.tmp 4] h59 b59:=EO Tryz.func59 Tryz.ntmps59
noncomputable def b60:Code:=JB Tryz.f60
theorem e60:EQ 60 10 [.tmp 2] h60 b60:=EO Tryz.func60 Tryz.ntmps60
noncomputable def b61:Code:=JB Tryz.f61
theorem e61:EQ 61 12 [.tmp 2] h61 b61:=EO Tryz.func61 Tryz.ntmps61
noncomputable def b62:Code:=JB Tryz.f62
noncomputable def kH:Code:=JK b62 0
theorem e62:EQ 62 19 [.tmp 4] h62 b62:=EO Tryz.func62 Tryz.ntmps62
noncomputable def b63:Code:=JB Tryz.f63
theorem e63:EQ 63 27 [.cell 2 39,.tmp 3] h63 b63:=EO Tryz.func63 Tryz.ntmps63
noncomputable def b64:Code:=JB Tryz.f64
theorem e64:EQ 64 13 [.tmp 2,.tmp 3] h64 b64:=EO Tryz.func64 Tryz.ntmps64
noncomputable def b65:Code:=JB Tryz.f65
noncomputable def W2:Code:=JK b65 0
theorem e65:EQ 65 43 [.tmp 4] h65 b65:=EO Tryz.func65 Tryz.ntmps65
noncomputable def b66:Code:=JB Tryz.f66
theorem e66:EQ 66 13 [.tmp 2] h66 b66:=EO Tryz.func66 Tryz.ntmps66
noncomputable def b67:Code:=JB Tryz.f67
theorem e67:EQ 67 56 [.tmp 2,.tmp 3,.tmp 4,.tmp 5] h67 b67:=EO Tryz.func67 Tryz.ntmps67
noncomputable def b68:Code:=JB Tryz.f68
theorem e68:EQ 68 7 [.tmp 2] h68 b68:=EO Tryz.func68 Tryz.ntmps68
noncomputable def b69:Code:=JB Tryz.f69
noncomputable def H5:Code:=JK b69 0
theorem e69:EQ 69 88 [.cell 2 39,.tmp 3] h69 b69:=EO Tryz.func69 Tryz.ntmps69
noncomputable def Wr:Code:=JB Tryz.f70
noncomputable def QW:Code:=JK Wr 0
theorem e70:EQ 70 92 [.tmp 4] h70 Wr:=EO Tryz.func70 Tryz.ntmps70
noncomputable def b71:Code:=JB Tryz.f71
theorem e71:EQ 71 55 [.cell 6 28] h71 b71:=EO Tryz.func71 Tryz.ntmps71
noncomputable def b72:Code:=JB Tryz.f72
theorem e72:EQ 72 12 [.tmp 2] h72 b72:=EO Tryz.func72 Tryz.ntmps72
noncomputable def b73:Code:=JB Tryz.f73
theorem e73:EQ 73 17 [.tmp 2] h73 b73:=EO Tryz.func73 Tryz.ntmps73
noncomputable def b74:Code:=JB Tryz.f74
theorem e74:EQ 74 13 [.tmp 2] h74 b74:=EO Tryz.func74 Tryz.ntmps74
noncomputable def b75:Code:=JB Tryz.f75
noncomputable def JnU:Code:=JK b75 0
theorem e75:EQ 75 12 [] h75 b75:=EO Tryz.func75 Tryz.ntmps75
noncomputable def b76:Code:=JB Tryz.f76
noncomputable def JnW:Code:=JK b76 0
theorem e76:EQ 76 79 [.cell 4 53] h76 b76:=EO Tryz.func76 Tryz.ntmps76
noncomputable def b77:Code:=JB Tryz.f77
theorem e77:EQ 77 13 [.tmp 2] h77 b77:=EO Tryz.func77 Tryz.ntmps77
noncomputable def b78:Code:=JB Tryz.f78
theorem e78:EQ 78 11 [.tmp 4] h78 b78:=EO Tryz.func78 Tryz.ntmps78
noncomputable def b79:Code:=JB Tryz.f79
theorem e79:EQ 79 27 [.tmp 6] h79 b79:=EO Tryz.func79 Tryz.ntmps79
noncomputable def b80:Code:=JB Tryz.f80
noncomputable def JnY:Code:=JK b80 0
theorem e80:EQ 80 44 [.tmp 2] h80 b80:=EO Tryz.func80 Tryz.ntmps80
noncomputable def b81:Code:=JB Tryz.f81
theorem e81:EQ 81 25 [.tmp 6] h81 b81:=EO Tryz.func81 Tryz.ntmps81
noncomputable def b82:Code:=JB Tryz.f82
theorem e82:EQ 82 122 [.cell 2 53] h82 b82:=EO Tryz.func82 Tryz.ntmps82
noncomputable def b83:Code:=JB Tryz.f83
noncomputable def Jna:Code:=JK b83 0
theorem e83:EQ 83 55 [.cell 2 53] h83 b83:=EO Tryz.func83 Tryz.ntmps83
noncomputable def b84:Code:=JB Tryz.f84
theorem e84:EQ 84 6 [.tmp 2] h84 b84:=EO Tryz.func84 Tryz.ntmps84
noncomputable def b85:Code:=JB Tryz.f85
noncomputable def Jnc:Code:=JK b85 0
theorem e85:EQ 85 81 [.tmp 4,.tmp 5,.tmp 6] h85 b85:=EO Tryz.func85 Tryz.ntmps85
noncomputable def b86:Code:=JB Tryz.f86
noncomputable def JBs:Code:=JK b86 0
theorem c86:codeOk Aa h86 18 b86=true:=kr
theorem e86{lo:Nat}{args:List V}{h:JM}(ha:args.length<=18)(hb:args.all bare=true):
  E lo 86 args h=JTj Aa [.tmp 0] h.length 1 false (evCode ⟨Aa,E,lo,h.length,h86⟩ JA b86 (QJ args,h)):=
 JGg rfl Tryz.func86 rfl Tryz.ntmps86 kr rfl c86 rfl rfl rfl ha hb
noncomputable def b89:Code:=JB Tryz.f89
theorem e89:EQ 89 18 [.tmp 4] h89 b89:=EO Tryz.func89 Tryz.ntmps89
noncomputable def b90:Code:=JB Tryz.f90
theorem e90:EQ 90 7 [.tmp 2] h90 b90:=EO Tryz.func90 Tryz.ntmps90
noncomputable def b91:Code:=JB Tryz.f91
noncomputable def yL:Code:=JK b91 0
theorem e91:EQ 91 19 [.tmp 4] h91 b91:=EO Tryz.func91 Tryz.ntmps91
noncomputable def b92:Code:=JB Tryz.f92
noncomputable def H6:Code:=JK b92 0
theorem e92:EQ 92 86 [.cell 2 39,.tmp 3] h92 b92:=EO Tryz.func92 Tryz.ntmps92
noncomputable def b93:Code:=JB Tryz.f93
theorem e93:EQ 93 5 [.tmp 2] h93 b93:=EO Tryz.func93 Tryz.ntmps93
noncomputable def b94:Code:=JB Tryz.f94
noncomputable def H7:Code:=JK b94 0
theorem e94:EQ 94 54 [.tmp 2] h94 b94:=EO Tryz.func94 Tryz.ntmps94
noncomputable def b95:Code:=JB Tryz.f95
theorem e95:EQ 95 10 [.tmp 4] h95 b95:=EO Tryz.func95 Tryz.ntmps95
noncomputable def b96:Code:=JB Tryz.f96
theorem e96:EQ 96 7 [.cell 2 28] h96 b96:=EO Tryz.func96 Tryz.ntmps96
noncomputable def b97:Code:=JB Tryz.f97
noncomputable def GX:Code:=JK b97 0
theorem e97:EQ 97 19 [.tmp 2] h97 b97:=EO Tryz.func97 Tryz.ntmps97
noncomputable def b98:Code:=JB Tryz.f98
theorem e98:EQ 98 19 [.tmp 6] h98 b98:=EO Tryz.func98 Tryz.ntmps98
noncomputable def b99:Code:=JB Tryz.f99
noncomputable def QO:Code:=JK b99 0
theorem e99:EQ 99 102 [.cell 2 39,.tmp 3] h99 b99:=EO Tryz.func99 Tryz.ntmps99
noncomputable def JJV:Code:=JB Tryz.f100
noncomputable def jS:Code:=JK JJV 0
theorem Ji1:EQ 100 36 [.tmp 2] JOv JJV:=EO Tryz.func100 Tryz.ntmps100
noncomputable def JDP:Code:=JB Tryz.f101
theorem Ji2:EQ 101 29 [.tmp 2] JVo JDP:=EO Tryz.func101 Tryz.ntmps101
noncomputable def Ji3:Code:=JB Tryz.f102
theorem Jpo:EQ 102 11 [.tmp 2] JbK Ji3:=EO Tryz.func102 Tryz.ntmps102
noncomputable def Jce:Code:=JB Tryz.f103
theorem Ji4:EQ 103 2 [.cell 0 28] JbM Jce:=EO Tryz.func103 Tryz.ntmps103
noncomputable def JMH:Code:=JB Tryz.f104
noncomputable def Ji5:Code:=JK JMH 0
noncomputable def Ji6:Code:=JK JMH 1
noncomputable def Ji7:Code:=JK JMH 2
noncomputable def Ji8:Code:=JK JMH 3
noncomputable def Ji9:Code:=JK JMH 4
theorem Jpp:EQ 104 55 [.cell 4 118] JbO JMH:=EO Tryz.func104 Tryz.ntmps104
noncomputable def Jcf:Code:=JB Tryz.f105
noncomputable def JjA:Code:=JK Jcf 0
theorem Jpq:EQ 105 53 [.cell 4 118] JbQ Jcf:=EO Tryz.func105 Tryz.ntmps105
noncomputable def Jcg:Code:=JB Tryz.f106
noncomputable def JjB:Code:=JK Jcg 0
theorem Jpr:EQ 106 70 [.tmp 2] JbS Jcg:=EO Tryz.func106 Tryz.ntmps106
noncomputable def JjC:Code:=JB Tryz.f107
theorem Jps:EQ 107 25 [.tmp 2] JbU JjC:=EO Tryz.func107 Tryz.ntmps107
noncomputable def JjD:Code:=JB Tryz.f108
theorem Jpt:EQ 108 9 [.tmp 2] JbW JjD:=EO Tryz.func108 Tryz.ntmps108
noncomputable def Jch:Code:=JB Tryz.f109
noncomputable def JjG:Code:=JK Jch 0
theorem Jpu:EQ 109 12 [] JbY Jch:=EO Tryz.func109 Tryz.ntmps109
noncomputable def Jci:Code:=JB Tryz.f110
noncomputable def JjH:Code:=JK Jci 0
theorem Jpv:EQ 110 153 [.cell 2 28,.tmp 3,.tmp 4] Jba Jci:=EO Tryz.func110 Tryz.ntmps110
noncomputable def Jcj:Code:=JB Tryz.f111
noncomputable def JjJ:Code:=JK Jcj 0
theorem Jpw:EQ 111 91 [.cell 2 53] Jbc Jcj:=EO Tryz.func111 Tryz.ntmps111
noncomputable def Jck:Code:=JB Tryz.f112
noncomputable def JjK:Code:=JK Jck 0
theorem Jpx:EQ 112 79 [.tmp 2] Jbe Jck:=EO Tryz.func112 Tryz.ntmps112
noncomputable def JjL:Code:=JB Tryz.f113
theorem Jpy:EQ 113 38 [.tmp 2,.tmp 3,.tmp 4] Jbg JjL:=EO Tryz.func113 Tryz.ntmps113
noncomputable def JWx:Code:=JB Tryz.f115
theorem JjM:EQ 115 12 [.cell 4 39] Jbi JWx:=EO Tryz.func115 Tryz.ntmps115
noncomputable def JDQ:Code:=JB Tryz.f116
noncomputable def GL:Code:=JK JDQ 0
theorem JjN:EQ 116 19 [.tmp 2] JMC JDQ:=EO Tryz.func116 Tryz.ntmps116
noncomputable def JDR:Code:=JB Tryz.f117
noncomputable def Ze:Code:=JK JDR 0
theorem JjO:EQ 117 30 [.tmp 2] JMD JDR:=EO Tryz.func117 Tryz.ntmps117
noncomputable def JMJ:Code:=JB Tryz.f118
noncomputable def Ja:Array Oper:=(Ql 3 JMJ).headD #[]
theorem JO0:Jh ⟨[0,1,2,3,4,5,6,7,8,9,10,11,12,13],[],JO⟩ Ja kA 0 true #[true,true,true,true,true,true,true,true,true,true,true,true,true,true,true,true]=true:=by exact JVi kr
theorem JGu:Jh ⟨[0,1,2,3,4,5,6,7,8,9,10,11,12,13],[],JO⟩ Ja Zu 1 true #[true,true,true,true,true,true,true,true,true,true,true,true,true,true,true,false]=true:=by exact JOi kr kr JO0
theorem JO1:Jh ⟨[0,1,2,3,4,5,6,7,8,9,10,11,12,13],[],JO⟩ Ja kB 2 true #[true,true,true,true,true,true,true,true,true,true,true,true,true,true,false,false]=true:=by exact JOi kr kr JGu
theorem JGv:Jh ⟨[0,1,2,3,4,5,6,7,8,9,10,11,12,13],[],JO⟩ Ja Zv 2 true #[true,true,true,true,true,true,true,true,true,true,true,true,true,false,true,false]=true:=by exact Jw kr kr kr JGu
theorem JO2:Jh ⟨[0,1,2,3,4,5,6,7,8,9,10,11,12,13],[],JO⟩ Ja kC 3 true #[true,true,true,true,true,true,true,true,true,true,true,true,true,false,false,false]=true:=by exact KG kr (JQ kr JO1) (JQ kr JGv)
theorem JAA:Jh ⟨[0,1,2,3,4,5,6,7,8,9,10,11,12,13],[],JO⟩ Ja Wj 3 true #[true,true,true,true,true,true,true,true,true,true,true,true,false,false,true,false]=true:=by exact Jw kr kr kr JGv
theorem JGw:Jh ⟨[0,1,2,3,4,5,6,7,8,9,10,11,12,13],[],JO⟩ Ja Zw 4 true #[true,true,true,true,true,true,true,true,true,true,true,true,false,false,false,false]=true:=by exact KG kr (JQ kr JO2) (JQ kr JAA)
theorem JAB:Jh ⟨[0,1,2,3,4,5,6,7,8,9,10,11,12,13],[],JO⟩ Ja Wk 4 true #[true,true,true,true,true,true,true,true,true,true,true,false,false,false,true,false]=true:=by exact Jw kr kr kr JAA
theorem JGx:Jh ⟨[0,1,2,3,4,5,6,7,8,9,10,11,12,13],[],JO⟩ Ja Zx 5 true #[true,true,true,true,true,true,true,true,true,true,true,false,false,false,false,false]=true:=by exact KG kr (JQ kr JGw) (JQ kr JAB)
theorem JAC:Jh ⟨[0,1,2,3,4,5,6,7,8,9,10,11,12,13],[],JO⟩ Ja Wl 5 true #[true,true,true,true,true,true,true,true,true,true,false,false,false,false,true,false]=true:=by exact Jw kr kr kr JAB
theorem JBt:Jh ⟨[0,1,2,3,4,5,6,7,8,9,10,11,12,13],[],JO⟩ Ja W9 6 true #[true,true,true,true,true,true,true,true,true,true,false,false,false,false,false,false]=true:=by exact KG kr (JQ kr JGx) (JQ kr JAC)
theorem qS:Jh ⟨[0,1,2,3,4,5,6,7,8,9,10,11,12,13],[],JO⟩ Ja Q1 6 true #[true,true,true,true,true,true,true,true,true,false,false,false,false,false,true,false]=true:=by exact Jw kr kr kr JAC
theorem JBu:Jh ⟨[0,1,2,3,4,5,6,7,8,9,10,11,12,13],[],JO⟩ Ja YA 7 true #[true,true,true,true,true,true,true,true,true,false,false,false,false,false,false,false]=true:=by exact KG kr (JQ kr JBt) (JQ kr qS)
theorem qT:Jh ⟨[0,1,2,3,4,5,6,7,8,9,10,11,12,13],[],JO⟩ Ja Q2 7 true #[true,true,true,true,true,true,true,true,false,false,false,false,false,false,true,false]=true:=by exact Jw kr kr kr qS
theorem JBv:Jh ⟨[0,1,2,3,4,5,6,7,8,9,10,11,12,13],[],JO⟩ Ja YB 8 true #[true,true,true,true,true,true,true,true,false,false,false,false,false,false,false,false]=true:=by exact KG kr (JQ kr JBu) (JQ kr qT)
theorem JBw:Jh ⟨[0,1,2,3,4,5,6,7,8,9,10,11,12,13],[],JO⟩ Ja YC 8 true #[true,true,true,true,true,true,true,false,false,false,false,false,false,false,true,false]=true:=by exact Jw kr kr kr qT
theorem JMK:Jh ⟨[0,1,2,3,4,5,6,7,8,9,10,11,12,13],[],JO⟩ Ja HR 9 true #[true,true,true,true,true,true,true,false,false,false,false,false,false,false,false,false]=true:=by exact KG kr (JQ kr JBv) (JQ kr JBw)
theorem JBx:Jh ⟨[0,1,2,3,4,5,6,7,8,9,10,11,12,13],[],JO⟩ Ja YD 4 true #[true,true,true,true,true,true,false,true,true,true,true,true,false,false,true,false]=true:=by exact Jw kr kr kr JAA
theorem JBy:Jh ⟨[0,1,2,3,4,5,6,7,8,9,10,11,12,13],[],JO⟩ Ja YG 5 true #[true,true,true,true,true,true,false,true,true,true,true,true,false,false,false,false]=true:=by exact KG kr (JQ kr JGw) (JQ kr JBx)
theorem JBz:Jh ⟨[0,1,2,3,4,5,6,7,8,9,10,11,12,13],[],JO⟩ Ja YH 5 true #[true,true,true,true,true,true,false,true,true,true,true,false,false,false,true,false]=true:=by exact Jw kr kr kr JAB
theorem JB0:Jh ⟨[0,1,2,3,4,5,6,7,8,9,10,11,12,13],[],JO⟩ Ja YJ 6 true #[true,true,true,true,true,true,false,true,true,true,true,false,false,false,false,false]=true:=by exact KG kr (JQ kr JGx) (Kf (JQ kr JBy) (JQ kr JBz))
theorem JB1:Jh ⟨[0,1,2,3,4,5,6,7,8,9,10,11,12,13],[],JO⟩ Ja YK 6 true #[true,true,true,true,true,true,false,true,true,true,false,false,false,false,true,false]=true:=by exact Jw kr kr kr JAC
theorem JB2:Jh ⟨[0,1,2,3,4,5,6,7,8,9,10,11,12,13],[],JO⟩ Ja YL 7 true #[true,true,true,true,true,true,false,true,true,true,false,false,false,false,false,false]=true:=by exact KG kr (JQ kr JBt) (Kf (JQ kr JB0) (JQ kr JB1))
theorem JB3:Jh ⟨[0,1,2,3,4,5,6,7,8,9,10,11,12,13],[],JO⟩ Ja YM 7 true #[true,true,true,true,true,true,false,true,true,false,false,false,false,false,true,false]=true:=by exact Jw kr kr kr qS
theorem JB4:Jh ⟨[0,1,2,3,4,5,6,7,8,9,10,11,12,13],[],JO⟩ Ja YN 8 true #[true,true,true,true,true,true,false,true,true,false,false,false,false,false,false,false]=true:=by exact KG kr (JQ kr JBu) (Kf (JQ kr JB2) (JQ kr JB3))
theorem JB5:Jh ⟨[0,1,2,3,4,5,6,7,8,9,10,11,12,13],[],JO⟩ Ja YO 8 true #[true,true,true,true,true,true,false,true,false,false,false,false,false,false,true,false]=true:=by exact Jw kr kr kr qT
theorem JB6:Jh ⟨[0,1,2,3,4,5,6,7,8,9,10,11,12,13],[],JO⟩ Ja YP 9 true #[true,true,true,true,true,true,false,true,false,false,false,false,false,false,false,false]=true:=by exact KG kr (JQ kr JBv) (Kf (JQ kr JB4) (JQ kr JB5))
theorem JB7:Jh ⟨[0,1,2,3,4,5,6,7,8,9,10,11,12,13],[],JO⟩ Ja YQ 9 true #[true,true,true,true,true,true,false,false,false,false,false,false,false,false,true,false]=true:=by exact Jw kr kr kr JBw
theorem JML:Jh ⟨[0,1,2,3,4,5,6,7,8,9,10,11,12,13],[],JO⟩ Ja HS 10 true #[true,true,true,true,true,true,false,false,false,false,false,false,false,false,false,false]=true:=by exact KG kr (JQ kr JMK) (Kf (JQ kr JB6) (JQ kr JB7))
theorem JB8:Jh ⟨[0,1,2,3,4,5,6,7,8,9,10,11,12,13],[],JO⟩ Ja YR 5 true #[true,true,true,true,true,false,false,true,true,true,true,true,false,false,true,false]=true:=by exact Jw kr kr kr JBx
theorem JB9:Jh ⟨[0,1,2,3,4,5,6,7,8,9,10,11,12,13],[],JO⟩ Ja YS 6 true #[true,true,true,true,true,false,false,true,true,true,true,true,false,false,false,false]=true:=by exact KG kr (JQ kr JBy) (JQ kr JB8)
theorem JCA:Jh ⟨[0,1,2,3,4,5,6,7,8,9,10,11,12,13],[],JO⟩ Ja YT 6 true #[true,true,true,true,true,false,false,true,true,true,true,false,false,false,true,false]=true:=by exact Jw kr kr kr JBz
theorem JCB:Jh ⟨[0,1,2,3,4,5,6,7,8,9,10,11,12,13],[],JO⟩ Ja YU 7 true #[true,true,true,true,true,false,false,true,true,true,true,false,false,false,false,false]=true:=by exact KG kr (JQ kr JB0) (Kf (JQ kr JB9) (JQ kr JCA))
theorem JCC:Jh ⟨[0,1,2,3,4,5,6,7,8,9,10,11,12,13],[],JO⟩ Ja YV 7 true #[true,true,true,true,true,false,false,true,true,true,false,false,false,false,true,false]=true:=by exact Jw kr kr kr JB1
theorem JCD:Jh ⟨[0,1,2,3,4,5,6,7,8,9,10,11,12,13],[],JO⟩ Ja YW 8 true #[true,true,true,true,true,false,false,true,true,true,false,false,false,false,false,false]=true:=by exact KG kr (JQ kr JB2) (Kf (JQ kr JCB) (JQ kr JCC))
theorem JCG:Jh ⟨[0,1,2,3,4,5,6,7,8,9,10,11,12,13],[],JO⟩ Ja YX 8 true #[true,true,true,true,true,false,false,true,true,false,false,false,false,false,true,false]=true:=by exact Jw kr kr kr JB3
theorem JCH:Jh ⟨[0,1,2,3,4,5,6,7,8,9,10,11,12,13],[],JO⟩ Ja YY 9 true #[true,true,true,true,true,false,false,true,true,false,false,false,false,false,false,false]=true:=by exact KG kr (JQ kr JB4) (Kf (JQ kr JCD) (JQ kr JCG))
theorem JCJ:Jh ⟨[0,1,2,3,4,5,6,7,8,9,10,11,12,13],[],JO⟩ Ja YZ 9 true #[true,true,true,true,true,false,false,true,false,false,false,false,false,false,true,false]=true:=by exact Jw kr kr kr JB5
theorem JCK:Jh ⟨[0,1,2,3,4,5,6,7,8,9,10,11,12,13],[],JO⟩ Ja Ya 10 true #[true,true,true,true,true,false,false,true,false,false,false,false,false,false,false,false]=true:=by exact KG kr (JQ kr JB6) (Kf (JQ kr JCH) (JQ kr JCJ))
theorem JCL:Jh ⟨[0,1,2,3,4,5,6,7,8,9,10,11,12,13],[],JO⟩ Ja Yb 10 true #[true,true,true,true,true,false,false,false,false,false,false,false,false,false,true,false]=true:=by exact Jw kr kr kr JB7
theorem JMM:Jh ⟨[0,1,2,3,4,5,6,7,8,9,10,11,12,13],[],JO⟩ Ja HT 11 true #[true,true,true,true,true,false,false,false,false,false,false,false,false,false,false,false]=true:=by exact KG kr (JQ kr JML) (Kf (JQ kr JCK) (JQ kr JCL))
theorem JCM:Jh ⟨[0,1,2,3,4,5,6,7,8,9,10,11,12,13],[],JO⟩ Ja Yc 6 true #[true,true,true,true,false,false,false,true,true,true,true,true,false,false,true,false]=true:=by exact Jw kr kr kr JB8
theorem JCN:Jh ⟨[0,1,2,3,4,5,6,7,8,9,10,11,12,13],[],JO⟩ Ja Yd 7 true #[true,true,true,true,false,false,false,true,true,true,true,true,false,false,false,false]=true:=by exact KG kr (JQ kr JB9) (JQ kr JCM)
theorem JCO:Jh ⟨[0,1,2,3,4,5,6,7,8,9,10,11,12,13],[],JO⟩ Ja Ye 7 true #[true,true,true,true,false,false,false,true,true,true,true,false,false,false,true,false]=true:=by exact Jw kr kr kr JCA
theorem JCP:Jh ⟨[0,1,2,3,4,5,6,7,8,9,10,11,12,13],[],JO⟩ Ja Yf 8 true #[true,true,true,true,false,false,false,true,true,true,true,false,false,false,false,false]=true:=by exact KG kr (JQ kr JCB) (Kf (JQ kr JCN) (JQ kr JCO))
theorem JCQ:Jh ⟨[0,1,2,3,4,5,6,7,8,9,10,11,12,13],[],JO⟩ Ja Yg 8 true #[true,true,true,true,false,false,false,true,true,true,false,false,false,false,true,false]=true:=by exact Jw kr kr kr JCC
theorem JCR:Jh ⟨[0,1,2,3,4,5,6,7,8,9,10,11,12,13],[],JO⟩ Ja Yh 9 true #[true,true,true,true,false,false,false,true,true,true,false,false,false,false,false,false]=true:=by exact KG kr (JQ kr JCD) (Kf (JQ kr JCP) (JQ kr JCQ))
theorem JCS:Jh ⟨[0,1,2,3,4,5,6,7,8,9,10,11,12,13],[],JO⟩ Ja Yi 9 true #[true,true,true,true,false,false,false,true,true,false,false,false,false,false,true,false]=true:=by exact Jw kr kr kr JCG
theorem JCT:Jh ⟨[0,1,2,3,4,5,6,7,8,9,10,11,12,13],[],JO⟩ Ja Yj 10 true #[true,true,true,true,false,false,false,true,true,false,false,false,false,false,false,false]=true:=by exact KG kr (JQ kr JCH) (Kf (JQ kr JCR) (JQ kr JCS))
theorem JCU:Jh ⟨[0,1,2,3,4,5,6,7,8,9,10,11,12,13],[],JO⟩ Ja Yk 10 true #[true,true,true,true,false,false,false,true,false,false,false,false,false,false,true,false]=true:=by exact Jw kr kr kr JCJ
theorem JCV:Jh ⟨[0,1,2,3,4,5,6,7,8,9,10,11,12,13],[],JO⟩ Ja Yl 11 true #[true,true,true,true,false,false,false,true,false,false,false,false,false,false,false,false]=true:=by exact KG kr (JQ kr JCK) (Kf (JQ kr JCT) (JQ kr JCU))
theorem JCW:Jh ⟨[0,1,2,3,4,5,6,7,8,9,10,11,12,13],[],JO⟩ Ja Ym 11 true #[true,true,true,true,false,false,false,false,false,false,false,false,false,false,true,false]=true:=by exact Jw kr kr kr JCL
theorem JMN:Jh ⟨[0,1,2,3,4,5,6,7,8,9,10,11,12,13],[],JO⟩ Ja HU 12 true #[true,true,true,true,false,false,false,false,false,false,false,false,false,false,false,false]=true:=by exact KG kr (JQ kr JMM) (Kf (JQ kr JCV) (JQ kr JCW))
theorem JMO:Jh ⟨[0,1,2,3,4,5,6,7,8,9,10,11,12,13],[],JO⟩ Ja HV 7 true #[true,true,true,false,false,false,false,true,true,true,true,true,false,false,true,false]=true:=by exact Jw kr kr kr JCM
theorem JMP:Jh ⟨[0,1,2,3,4,5,6,7,8,9,10,11,12,13],[],JO⟩ Ja HW 8 true #[true,true,true,false,false,false,false,true,true,true,true,true,false,false,false,false]=true:=by exact KG kr (JQ kr JCN) (JQ kr JMO)
theorem JMQ:Jh ⟨[0,1,2,3,4,5,6,7,8,9,10,11,12,13],[],JO⟩ Ja HX 8 true #[true,true,true,false,false,false,false,true,true,true,true,false,false,false,true,false]=true:=by exact Jw kr kr kr JCO
theorem JMR:Jh ⟨[0,1,2,3,4,5,6,7,8,9,10,11,12,13],[],JO⟩ Ja HY 9 true #[true,true,true,false,false,false,false,true,true,true,true,false,false,false,false,false]=true:=by exact KG kr (JQ kr JCP) (Kf (JQ kr JMP) (JQ kr JMQ))
theorem JMS:Jh ⟨[0,1,2,3,4,5,6,7,8,9,10,11,12,13],[],JO⟩ Ja HZ 9 true #[true,true,true,false,false,false,false,true,true,true,false,false,false,false,true,false]=true:=by exact Jw kr kr kr JCQ
theorem JMT:Jh ⟨[0,1,2,3,4,5,6,7,8,9,10,11,12,13],[],JO⟩ Ja Ha 10 true #[true,true,true,false,false,false,false,true,true,true,false,false,false,false,false,false]=true:=by exact KG kr (JQ kr JCR) (Kf (JQ kr JMR) (JQ kr JMS))
theorem JMU:Jh ⟨[0,1,2,3,4,5,6,7,8,9,10,11,12,13],[],JO⟩ Ja Hb 10 true #[true,true,true,false,false,false,false,true,true,false,false,false,false,false,true,false]=true:=by exact Jw kr kr kr JCS
theorem JMV:Jh ⟨[0,1,2,3,4,5,6,7,8,9,10,11,12,13],[],JO⟩ Ja Hc 11 true #[true,true,true,false,false,false,false,true,true,false,false,false,false,false,false,false]=true:=by exact KG kr (JQ kr JCT) (Kf (JQ kr JMT) (JQ kr JMU))
theorem JMW:Jh ⟨[0,1,2,3,4,5,6,7,8,9,10,11,12,13],[],JO⟩ Ja Hd 11 true #[true,true,true,false,false,false,false,true,false,false,false,false,false,false,true,false]=true:=by exact Jw kr kr kr JCU
theorem JMX:Jh ⟨[0,1,2,3,4,5,6,7,8,9,10,11,12,13],[],JO⟩ Ja He 12 true #[true,true,true,false,false,false,false,true,false,false,false,false,false,false,false,false]=true:=by exact KG kr (JQ kr JCV) (Kf (JQ kr JMV) (JQ kr JMW))
theorem JMY:Jh ⟨[0,1,2,3,4,5,6,7,8,9,10,11,12,13],[],JO⟩ Ja Hf 12 true #[true,true,true,false,false,false,false,false,false,false,false,false,false,false,true,false]=true:=by exact Jw kr kr kr JCW
theorem JMZ:Jh ⟨[0,1,2,3,4,5,6,7,8,9,10,11,12,13],[],JO⟩ Ja Hg 13 true #[true,true,true,false,false,false,false,false,false,false,false,false,false,false,false,false]=true:=by exact KG kr (JQ kr JMN) (Kf (JQ kr JMX) (JQ kr JMY))
theorem JMa:Jh ⟨[0,1,2,3,4,5,6,7,8,9,10,11,12,13],[],JO⟩ Ja Hh 14 true #[true,true,false,false,false,false,false,false,false,false,false,false,false,false,false,false]=true:=by exact Jw kr kr kr JMZ
theorem JMb:Jh ⟨[0,1,2,3,4,5,6,7,8,9,10,11,12,13],[],JO⟩ Ja Hi 15 true #[true,false,false,false,false,false,false,false,false,false,false,false,false,false,false,false]=true:=by exact Jw kr kr kr JMa
theorem JMc:Jh ⟨[0,1,2,3,4,5,6,7,8,9,10,11,12,13],[],JO⟩ Ja JO 16 true #[false,false,false,false,false,false,false,false,false,false,false,false,false,false,false,false]=true:=by exact Jw kr kr kr JMb
theorem c118:codeOk Aa JWo 30 JMJ=true:=by
 refine QV (r:=3) kr λo ho=>?_
 rw[show Ql 3 JMJ=[Ja]from by kernel_rfl]at ho
 obtain rfl:o=Ja:=by simpa using ho
 exact JJQ (mx:=⟨[0,1,2,3,4,5,6,7,8,9,10,11,12,13],[],JO⟩) rfl kr ((show Jh ⟨[0,1,2,3,4,5,6,7,8,9,10,11,12,13],[],JO⟩ Ja JO (Ja.size) true (Array.replicate (Ja.size) false)=true from by rw[show Ja.size=16 from by kernel_rfl];exact JMc))
theorem JjP{lo:Nat}{args:List V}{h:JM}(ha:args.length<=30)(hb:args.all bare=true):
  E lo 118 args h=fin Aa [.cell 2 39,.tmp 3] h.length (evCode ⟨Aa,E,lo,h.length,JWo⟩ JA JMJ (QJ args,h)):=
 JKP rfl Tryz.func118 rfl Tryz.ntmps118 kr rfl c118 rfl rfl rfl ha hb
noncomputable def JJW:Code:=JB Tryz.f119
noncomputable def jT:Code:=JK JJW 0
theorem JjQ:EQ 119 36 [.tmp 2] JOw JJW:=EO Tryz.func119 Tryz.ntmps119
noncomputable def Zf:Code:=JB Tryz.f120
noncomputable def G2:Code:=JK Zf 0
theorem JO3:EQ 120 77 [.tmp 4] JMG Zf:=EO Tryz.func120 Tryz.ntmps120
noncomputable def JRP:Code:=JB Tryz.f121
theorem JjR:EQ 121 25 [.tmp 6] Jbq JRP:=EO Tryz.func121 Tryz.ntmps121
noncomputable def Jcl:Code:=JB Tryz.f122
theorem JjS:EQ 122 7 [.tmp 2] Jbs Jcl:=EO Tryz.func122 Tryz.ntmps122
noncomputable def ZH:Code:=JB Tryz.f123
noncomputable def Ko:Code:=JK ZH 0
theorem JjT:EQ 123 93 [.cell 2 39,.tmp 3] JWp ZH:=EO Tryz.func123 Tryz.ntmps123
noncomputable def JMd:Code:=JB Tryz.f124
noncomputable def qU:Code:=JK JMd 0
theorem JjU:EQ 124 12 [.tmp 4] JOx JMd:=EO Tryz.func124 Tryz.ntmps124
noncomputable def JjV:Code:=JB Tryz.f125
theorem Jpz:EQ 125 14 [.cell 2 118] Jbx JjV:=EO Tryz.func125 Tryz.ntmps125
noncomputable def JjW:Code:=JB Tryz.f126
theorem Jp0:EQ 126 24 [.tmp 4] Jbz JjW:=EO Tryz.func126 Tryz.ntmps126
noncomputable def Jp1:Code:=JB Tryz.f127
noncomputable def JjX:Code:=JB Tryz.f128
theorem Jp2:EQ 128 14 [.cell 2 118] Jb2 JjX:=EO Tryz.func128 Tryz.ntmps128
noncomputable def JjY:Code:=JB Tryz.f129
theorem Jp3:EQ 129 29 [.tmp 2,.tmp 3] Jb4 JjY:=EO Tryz.func129 Tryz.ntmps129
noncomputable def Jcm:Code:=JB Tryz.f130
noncomputable def JjZ:Code:=JK Jcm 0
theorem Jp4:EQ 130 18 [.tmp 4] Jb6 Jcm:=EO Tryz.func130 Tryz.ntmps130
noncomputable def JDS:Code:=JB Tryz.f131
noncomputable def Jja:Code:=JK JDS 0
noncomputable def Jjb:Code:=JK JDS 1
noncomputable def Jjc:Code:=JK JDS 2
noncomputable def Jjd:Code:=JK JDS 3
noncomputable def Jje:Code:=JK JDS 4
noncomputable def Jjf:Code:=JK JDS 5
noncomputable def Jjg:Code:=JK JDS 6
noncomputable def Jjh:Code:=JK JDS 7
theorem Jp5:EQ 131 132 [.cell 6 28] Jb8 JDS:=EO Tryz.func131 Tryz.ntmps131
noncomputable def Jcn:Code:=JB Tryz.f132
noncomputable def Jji:Code:=JK Jcn 0
theorem Jp6:EQ 132 26 [.cell 2 53] JcA Jcn:=EO Tryz.func132 Tryz.ntmps132
noncomputable def Jjj:Code:=JB Tryz.f133
theorem Jp7:EQ 133 25 [.tmp 2] JcC Jjj:=EO Tryz.func133 Tryz.ntmps133
noncomputable def JWy:Code:=JB Tryz.f136
theorem Jjk:EQ 136 10 [.tmp 2] JcG JWy:=EO Tryz.func136 Tryz.ntmps136
noncomputable def Jco:Code:=JB Tryz.f137
theorem Jjl:EQ 137 2 [.tmp 0] JcJ Jco:=EO Tryz.func137 Tryz.ntmps137
noncomputable def JAD:Code:=JB Tryz.f138
noncomputable def Y7:Code:=JK JAD 0
theorem Jjm:EQ 138 44 [.cell 2 39,.tmp 3] JWq JAD:=EO Tryz.func138 Tryz.ntmps138
noncomputable def Jjn:Code:=JB Tryz.f140
theorem Jp8:EQ 140 9 [.tmp 2] JcM Jjn:=EO Tryz.func140 Tryz.ntmps140
noncomputable def JRQ:Code:=JB Tryz.f141
theorem Jjo:EQ 141 21 [.tmp 2] JcO JRQ:=EO Tryz.func141 Tryz.ntmps141
noncomputable def JAG:Code:=JB Tryz.f142
noncomputable def Y8:Code:=JK JAG 0
theorem Jjp:EQ 142 44 [.cell 2 39,.tmp 3] JWr JAG:=EO Tryz.func142 Tryz.ntmps142
noncomputable def yV:Code:=JB Tryz.f143
theorem JWz:EQ 143 90 [.tmp 8] JcR yV:=EO Tryz.func143 Tryz.ntmps143
noncomputable def JRR:Code:=JB Tryz.f144
theorem Jjq:EQ 144 12 [.cell 2 39] JcT JRR:=EO Tryz.func144 Tryz.ntmps144
noncomputable def JMe:Code:=JB Tryz.f145
noncomputable def qV:Code:=JK JMe 0
theorem Jjr:EQ 145 12 [.tmp 4] JOy JMe:=EO Tryz.func145 Tryz.ntmps145
noncomputable def JW0:Code:=JB Tryz.f146
theorem Jjs:EQ 146 10 [.tmp 2] JcW JW0:=EO Tryz.func146 Tryz.ntmps146
noncomputable def JRS:Code:=JB Tryz.f147
theorem Jcp:EQ 147 46 [.cell 2 39,.tmp 3] JcZ JRS:=EO Tryz.func147 Tryz.ntmps147
noncomputable def JJX:Code:=JB Tryz.f148
noncomputable def G3:Code:=JK JJX 0
theorem Jjt:EQ 148 45 [.tmp 1] JWs JJX:=EO Tryz.func148 Tryz.ntmps148
end Go.Lift.Y1
