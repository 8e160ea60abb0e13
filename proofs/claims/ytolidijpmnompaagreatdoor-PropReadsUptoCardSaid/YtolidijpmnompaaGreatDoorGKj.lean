/- The reference's next token. -/
import Derived.ProofKit
import Derived.Shelf.Strings.Fields
import Derived.Test.YtolidijpmnompaaGreatDoorProg
import Derived.WalkKit
import Derived.Laws.Externs
import Derived.MapKept
import Derived.Deep.MidRow
import Derived.Lib.LaidTab
import Derived.Lib.LaidU8
import Derived.Lib.LaidIn
import Derived.Deep.DeepHandedRow
import Derived.Deep.DeepWitnessRowRef
import Derived.Test.YtolidijpmnompaaGreatDoorRows
import Derived.JoinedOf
import Derived.Test.YtolidijpmnompaaGreatDoorGLc
import Derived.Test.YtolidijpmnompaaGreatDoorGKa
import Derived.Test.YtolidijpmnompaaGreatDoorGK4Basea
import Derived.Test.YtolidijpmnompaaGreatDoorGKb
import Derived.Test.YtolidijpmnompaaGreatDoorGKc
import Derived.Test.YtolidijpmnompaaGreatDoorGKg
import Derived.Test.YtolidijpmnompaaGreatDoorGKi
import Derived.Test.YtolidijpmnompaaGreatDoorK4Div0
import Derived.Test.YtolidijpmnompaaGreatDoorK4Div1
import Derived.Test.YtolidijpmnompaaGreatDoorK4Div2
import Derived.Test.YtolidijpmnompaaGreatDoorK4Div3
open Bool renaming and_eq_true->Af,false_and->As,true_and->Aw
open Go.IntKind renaming i32->AR,i64->Am,u64->Ba
open Go.Proofs.Tryz renaming prog->Aa
open Go.Value renaming int->A9,string->CK
open Int renaming ofNat->LEq,pow_zero->LD,tmod_eq_emod_of_nonneg->Cj
open List renaming all_eq_true->Ak,append_nil->AE,dropWhile_cons_of_neg->Bn,dropWhile_cons_of_pos->Bz,dropWhile_sublist->BH,drop_drop->AY,eq_nil_of_length_eq_zero->Ar,getElem?_eq_getElem->Ac,getElem?_map->An,length_append->Ao,length_cons->Ae,length_drop->AB,length_map->Aq,length_nil->Ai,map_map->B1,mem_cons->AP,mem_map->AM,mem_of_getElem? ->Aj,nil_append->Au,not_mem_nil->BG,range->Bf
open Nat renaming le_of_lt->DF,le_refl->Ad,lt_or_ge->Ay,zero_le->B9
open Option.some renaming inj->Bh,injEq->Ah
open UInt8 renaming ofNat->B8,toNat->Cu
set_option linter.unusedVariables false
set_option linter.unusedSimpArgs false
set_option linter.unusedSectionVars false
set_option maxRecDepth 100000
set_option maxHeartbeats 4000000
section
open Go.Proofs
namespace Go.Lift.Y1.P.T
@[go_sem] theorem Jxn:GTab.tab 0=some [.v (.int .i64 21),.v (.int .i64 22),.v (.int .i64 19),.v (.int .i64 20),.v (.int .i64 23),.v (.int .i64 24),.v (.int .i64 18),.v (.int .i64 16),.v (.int .i64 17)]:=rfl
open Utf Tok
theorem JH9(c:Int):(plK c=0/\c≠40/\c≠41/\c≠91/\c≠93/\c≠123/\c≠125/\c≠44/\c≠58/\c≠59)\/(0<plK c/\blk c=false/\quo c=false):=by
 unfold plK;by_cases h1:c=40;· subst h1;right;decide
 by_cases h2:c=41;· subst h2;right;decide
 by_cases h3:c=44;· subst h3;right;decide
 by_cases h4:c=58;· subst h4;right;decide
 by_cases h5:c=59;· subst h5;right;decide
 by_cases h6:c=91;· subst h6;right;decide
 by_cases h7:c=93;· subst h7;right;decide
 by_cases h8:c=123;· subst h8;right;decide
 by_cases h9:c=125;· subst h9;right;decide
 left
 simp only[h1,h2,h3,h4,h5,h6,h7,h8,h9,if_false];exact⟨trivial,om⟩
theorem JR3(s:List Int):WN s=
  if 0<plK (chr s 0)then(tk (plK (chr s 0)) [],s.drop 1)
  else if blk (chr s 0)=true then(tk 13 [],QL s)
  else if quo (chr s 0)=true then(JLk (txt (chr s 0) (s.drop 1)),(txt (chr s 0) (s.drop 1)).2.2)
  else if chr s 0=35/\(ltr (chr s 1)||esc (chr s 1) (chr s 2))=true then(⟨4,(name (s.drop 1)).1,(0,0),false,beg (chr s 1) (chr s 2) (chr s 3)⟩,(name (s.drop 1)).2)
  else if num (chr s 0) (chr s 1) (chr s 2)=true then Yu s
  else if chr s 0=45/\chr s 1=45/\chr s 2=62 then(tk 15 [],s.drop 3)
  else if chr s 0=60/\chr s 1=33/\chr s 2=45/\chr s 3=45 then(tk 14 [],s.drop 4)
  else if chr s 0=64/\beg (chr s 1) (chr s 2) (chr s 3)=true then(tk 3 (name (s.drop 1)).1,(name (s.drop 1)).2)
  else if beg (chr s 0) (chr s 1) (chr s 2)=true then word s
  else(tk 9 [chr s 0],s.drop 1):=by
 unfold WN;simp only;rcases JH9 (chr s 0)with⟨h0,_⟩|⟨h0,h1,h2⟩
 ·rw[h0]
  simp only[Int.lt_irrefl,if_false];by_cases h35:chr s 0=35/\(ltr (chr s 1)||esc (chr s 1) (chr s 2))=true
  ·have hc:=h35.1
   rw[if_pos h35,if_pos h35,hc];have e1:num 35 (chr s 1) (chr s 2)=false:=by simp[num,KD]
   rw[e1];simp
  ·rw[if_neg h35,if_neg h35]
 ·rw[h1,h2]
  simp[h0]
noncomputable def GM:Nat->Code
 |0=>inC (nthC b48 4)
 |k+1=>elC (GM k)
theorem n30_0:GM 0=inC (nthC b48 4):=rfl
theorem n30_s(k:Nat):GM (k+1)=elC (GM k):=rfl
theorem s30:∀k,k<=7->GM k= .seq (hdC (GM k)) (.cond (cdC (GM k)) (thC (GM k)) (elC (GM k))):=by intro k hk;have:k=0\/k=1\/k=2\/k=3\/k=4\/k=5\/k=6\/k=7:=om;rcases this with rfl|rfl|rfl|rfl|rfl|rfl|rfl|rfl<;>rfl
theorem JlS:flat b48=[nthC b48 0,nthC b48 1,nthC b48 2,nthC b48 3,.block 2 (GM 0),nthC b48 5,nthC b48 6,nthC b48 7]:=rfl
theorem Yk{c:Cx}{lp:YZ}{N:Code}{s:St}{S:Bool->St}{b:Bool}(hN:N= .seq (hdC N) (.cond (cdC N) (thC N) (elC N)))(hR:evCode c lp (hdC N) s=some (.normal,S b))(hx:opd (S b).1 (cdC N)= .v (.bool b)):
  evCode c lp N s=if b=true then evCode c lp (thC N) (S true)else evCode c lp (elC N) (S false):=by
 rw[JYa hN hR hx];cases b<;>rfl
section
variable{lo i j:Nat}{l:List Int}{p q:List Ob}{c d e:Int}
noncomputable abbrev X95(lo:Nat)(p q:List Ob):Cx:=⟨Aa,E,lo,p.length+(q.length+1),h48⟩
abbrev P30(p q:List Ob)(l:List Int)(i:Nat)(c d e:Int)(ex:Jl):Jl×JG:=
 ((0,.ptr p.length 0)::(2,.ptr (p.length+(q.length+1)) 0)::(3,.v (.int .i32 c))::(4,.v (.int .i32 d))::(5,.v (.int .i32 e))::ex,H27 p q l i)
theorem tk30a(hi:i<=100000000000):WD (X95 lo p q) JA (pc b48 0 3) (QH [.ptr p.length 0],p++R l i::q)=some (.normal,P30 p q l i (chr (suf l i) 0) (chr (suf l i) 1) (chr (suf l i) 2) [(14,.v (.int .i64 0))]):=by
 have k0:=λlo p q=>f47 (lo:=lo) (l:=l) (i:=i) (p:=p) (q:=q) (k:=0) om
 have k1:=λlo p q=>f47 (lo:=lo) (l:=l) (i:=i) (p:=p) (q:=q) (k:=1) om
 have k2:=λlo p q=>f47 (lo:=lo) (l:=l) (i:=i) (p:=p) (q:=q) (k:=2) om
 have n1:((1:Nat):Int)=1:=rfl;have n2:((2:Nat):Int)=2:=rfl;simp only[n0,n1,n2]at k0 k1 k2;simp only[go_sem,X95,P30,H27,b48,Tryz.f48,k0,k1,k2,tokC,str_nil]<;>rfl
theorem qN(hi:i<=100000000000)(hlo:lo<=p.length)(hlo2:lo<=p.length+(q.length+1)):evCode (X95 lo p q) JA QA (P30 p q l i c d e [(14,.v (.int .i64 0))])=if c=40 then ret27 p q l (i+1) (tk 21 [])else some (.normal,P30 p q l i c d e [(14,.v (.int .i64 1))]):=by
 have hw1:=JM (i:=i) om;have hlt:decide ((0:Int)<9)=true:=rfl;have hw:Am.wrap ((0:Int)+1)=1:=rfl;have hu:((Cu 40:Nat):Int)=40:=rfl;have hi3:AR.wrap 40=40:=rfl;have hz:(((0:Int)).toNat)=0:=rfl;have n9:((9:Nat):Int)=9:=rfl;have hlt2:(0:Int)<9:=by decide
 by_cases h:c=40
 ·have t:((40:Int)==c)=true:=by simp[h]
  rw[if_pos h];simp only[go_sem,X95,P30,H27,ret27,QA,b48,Tryz.f48,hlt,hu,hi3,hz,n9,hlt2,t,hw1,hlo,hlo2,tokC,tkC,tk,str_nil]<;>rfl
 ·have t:((40:Int)==c)=false:=by simp;omega
  rw[if_neg h];simp only[go_sem,X95,P30,H27,ret27,QA,b48,Tryz.f48,hlt,hu,hi3,hz,t,hw,tokC,str_nil]<;>rfl
theorem zT(hi:i<=100000000000)(hlo:lo<=p.length)(hlo2:lo<=p.length+(q.length+1)):evCode (X95 lo p q) JA QA (P30 p q l i c d e [(14,.v (.int .i64 1))])=if c=41 then ret27 p q l (i+1) (tk 22 [])else some (.normal,P30 p q l i c d e [(14,.v (.int .i64 2))]):=by
 have hw1:=JM (i:=i) om;have hlt:decide ((1:Int)<9)=true:=rfl;have hw:Am.wrap ((1:Int)+1)=2:=rfl;have hu:((Cu 41:Nat):Int)=41:=rfl;have hi3:AR.wrap 41=41:=rfl;have hz:(((1:Int)).toNat)=1:=rfl;have n9:((9:Nat):Int)=9:=rfl;have hlt2:(1:Int)<9:=by decide
 by_cases h:c=41
 ·have t:((41:Int)==c)=true:=by simp[h]
  rw[if_pos h];simp only[go_sem,X95,P30,H27,ret27,QA,b48,Tryz.f48,hlt,hu,hi3,hz,n9,hlt2,t,hw1,hlo,hlo2,tokC,tkC,tk,str_nil]<;>rfl
 ·have t:((41:Int)==c)=false:=by simp;omega
  rw[if_neg h];simp only[go_sem,X95,P30,H27,ret27,QA,b48,Tryz.f48,hlt,hu,hi3,hz,t,hw,tokC,str_nil]<;>rfl
theorem JAv(hi:i<=100000000000)(hlo:lo<=p.length)(hlo2:lo<=p.length+(q.length+1)):evCode (X95 lo p q) JA QA (P30 p q l i c d e [(14,.v (.int .i64 2))])=if c=91 then ret27 p q l (i+1) (tk 19 [])else some (.normal,P30 p q l i c d e [(14,.v (.int .i64 3))]):=by
 have hw1:=JM (i:=i) om;have hlt:decide ((2:Int)<9)=true:=rfl;have hw:Am.wrap ((2:Int)+1)=3:=rfl;have hu:((Cu 91:Nat):Int)=91:=rfl;have hi3:AR.wrap 91=91:=rfl;have hz:(((2:Int)).toNat)=2:=rfl;have n9:((9:Nat):Int)=9:=rfl;have hlt2:(2:Int)<9:=by decide
 by_cases h:c=91
 ·have t:((91:Int)==c)=true:=by simp[h]
  rw[if_pos h];simp only[go_sem,X95,P30,H27,ret27,QA,b48,Tryz.f48,hlt,hu,hi3,hz,n9,hlt2,t,hw1,hlo,hlo2,tokC,tkC,tk,str_nil]<;>rfl
 ·have t:((91:Int)==c)=false:=by simp;omega
  rw[if_neg h];simp only[go_sem,X95,P30,H27,ret27,QA,b48,Tryz.f48,hlt,hu,hi3,hz,t,hw,tokC,str_nil]<;>rfl
theorem JDZ(hi:i<=100000000000)(hlo:lo<=p.length)(hlo2:lo<=p.length+(q.length+1)):evCode (X95 lo p q) JA QA (P30 p q l i c d e [(14,.v (.int .i64 3))])=if c=93 then ret27 p q l (i+1) (tk 20 [])else some (.normal,P30 p q l i c d e [(14,.v (.int .i64 4))]):=by
 have hw1:=JM (i:=i) om;have hlt:decide ((3:Int)<9)=true:=rfl;have hw:Am.wrap ((3:Int)+1)=4:=rfl;have hu:((Cu 93:Nat):Int)=93:=rfl;have hi3:AR.wrap 93=93:=rfl;have hz:(((3:Int)).toNat)=3:=rfl;have n9:((9:Nat):Int)=9:=rfl;have hlt2:(3:Int)<9:=by decide
 by_cases h:c=93
 ·have t:((93:Int)==c)=true:=by simp[h]
  rw[if_pos h];simp only[go_sem,X95,P30,H27,ret27,QA,b48,Tryz.f48,hlt,hu,hi3,hz,n9,hlt2,t,hw1,hlo,hlo2,tokC,tkC,tk,str_nil]<;>rfl
 ·have t:((93:Int)==c)=false:=by simp;omega
  rw[if_neg h];simp only[go_sem,X95,P30,H27,ret27,QA,b48,Tryz.f48,hlt,hu,hi3,hz,t,hw,tokC,str_nil]<;>rfl
theorem JJA(hi:i<=100000000000)(hlo:lo<=p.length)(hlo2:lo<=p.length+(q.length+1)):evCode (X95 lo p q) JA QA (P30 p q l i c d e [(14,.v (.int .i64 4))])=if c=123 then ret27 p q l (i+1) (tk 23 [])else some (.normal,P30 p q l i c d e [(14,.v (.int .i64 5))]):=by
 have hw1:=JM (i:=i) om;have hlt:decide ((4:Int)<9)=true:=rfl;have hw:Am.wrap ((4:Int)+1)=5:=rfl;have hu:((Cu 123:Nat):Int)=123:=rfl;have hi3:AR.wrap 123=123:=rfl;have hz:(((4:Int)).toNat)=4:=rfl;have n9:((9:Nat):Int)=9:=rfl;have hlt2:(4:Int)<9:=by decide
 by_cases h:c=123
 ·have t:((123:Int)==c)=true:=by simp[h]
  rw[if_pos h];simp only[go_sem,X95,P30,H27,ret27,QA,b48,Tryz.f48,hlt,hu,hi3,hz,n9,hlt2,t,hw1,hlo,hlo2,tokC,tkC,tk,str_nil]<;>rfl
 ·have t:((123:Int)==c)=false:=by simp;omega
  rw[if_neg h];simp only[go_sem,X95,P30,H27,ret27,QA,b48,Tryz.f48,hlt,hu,hi3,hz,t,hw,tokC,str_nil]<;>rfl
theorem JMX(hi:i<=100000000000)(hlo:lo<=p.length)(hlo2:lo<=p.length+(q.length+1)):evCode (X95 lo p q) JA QA (P30 p q l i c d e [(14,.v (.int .i64 5))])=if c=125 then ret27 p q l (i+1) (tk 24 [])else some (.normal,P30 p q l i c d e [(14,.v (.int .i64 6))]):=by
 have hw1:=JM (i:=i) om;have hlt:decide ((5:Int)<9)=true:=rfl;have hw:Am.wrap ((5:Int)+1)=6:=rfl;have hu:((Cu 125:Nat):Int)=125:=rfl;have hi3:AR.wrap 125=125:=rfl;have hz:(((5:Int)).toNat)=5:=rfl;have n9:((9:Nat):Int)=9:=rfl;have hlt2:(5:Int)<9:=by decide
 by_cases h:c=125
 ·have t:((125:Int)==c)=true:=by simp[h]
  rw[if_pos h];simp only[go_sem,X95,P30,H27,ret27,QA,b48,Tryz.f48,hlt,hu,hi3,hz,n9,hlt2,t,hw1,hlo,hlo2,tokC,tkC,tk,str_nil]<;>rfl
 ·have t:((125:Int)==c)=false:=by simp;omega
  rw[if_neg h];simp only[go_sem,X95,P30,H27,ret27,QA,b48,Tryz.f48,hlt,hu,hi3,hz,t,hw,tokC,str_nil]<;>rfl
theorem JPk(hi:i<=100000000000)(hlo:lo<=p.length)(hlo2:lo<=p.length+(q.length+1)):evCode (X95 lo p q) JA QA (P30 p q l i c d e [(14,.v (.int .i64 6))])=if c=44 then ret27 p q l (i+1) (tk 18 [])else some (.normal,P30 p q l i c d e [(14,.v (.int .i64 7))]):=by
 have hw1:=JM (i:=i) om;have hlt:decide ((6:Int)<9)=true:=rfl;have hw:Am.wrap ((6:Int)+1)=7:=rfl;have hu:((Cu 44:Nat):Int)=44:=rfl;have hi3:AR.wrap 44=44:=rfl;have hz:(((6:Int)).toNat)=6:=rfl;have n9:((9:Nat):Int)=9:=rfl;have hlt2:(6:Int)<9:=by decide
 by_cases h:c=44
 ·have t:((44:Int)==c)=true:=by simp[h]
  rw[if_pos h];simp only[go_sem,X95,P30,H27,ret27,QA,b48,Tryz.f48,hlt,hu,hi3,hz,n9,hlt2,t,hw1,hlo,hlo2,tokC,tkC,tk,str_nil]<;>rfl
 ·have t:((44:Int)==c)=false:=by simp;omega
  rw[if_neg h];simp only[go_sem,X95,P30,H27,ret27,QA,b48,Tryz.f48,hlt,hu,hi3,hz,t,hw,tokC,str_nil]<;>rfl
theorem JVm(hi:i<=100000000000)(hlo:lo<=p.length)(hlo2:lo<=p.length+(q.length+1)):evCode (X95 lo p q) JA QA (P30 p q l i c d e [(14,.v (.int .i64 7))])=if c=58 then ret27 p q l (i+1) (tk 16 [])else some (.normal,P30 p q l i c d e [(14,.v (.int .i64 8))]):=by
 have hw1:=JM (i:=i) om;have hlt:decide ((7:Int)<9)=true:=rfl;have hw:Am.wrap ((7:Int)+1)=8:=rfl;have hu:((Cu 58:Nat):Int)=58:=rfl;have hi3:AR.wrap 58=58:=rfl;have hz:(((7:Int)).toNat)=7:=rfl;have n9:((9:Nat):Int)=9:=rfl;have hlt2:(7:Int)<9:=by decide
 by_cases h:c=58
 ·have t:((58:Int)==c)=true:=by simp[h]
  rw[if_pos h];simp only[go_sem,X95,P30,H27,ret27,QA,b48,Tryz.f48,hlt,hu,hi3,hz,n9,hlt2,t,hw1,hlo,hlo2,tokC,tkC,tk,str_nil]<;>rfl
 ·have t:((58:Int)==c)=false:=by simp;omega
  rw[if_neg h];simp only[go_sem,X95,P30,H27,ret27,QA,b48,Tryz.f48,hlt,hu,hi3,hz,t,hw,tokC,str_nil]<;>rfl
theorem JZg(hi:i<=100000000000)(hlo:lo<=p.length)(hlo2:lo<=p.length+(q.length+1)):evCode (X95 lo p q) JA QA (P30 p q l i c d e [(14,.v (.int .i64 8))])=if c=59 then ret27 p q l (i+1) (tk 17 [])else some (.normal,P30 p q l i c d e [(14,.v (.int .i64 9))]):=by
 have hw1:=JM (i:=i) om;have hlt:decide ((8:Int)<9)=true:=rfl;have hw:Am.wrap ((8:Int)+1)=9:=rfl;have hu:((Cu 59:Nat):Int)=59:=rfl;have hi3:AR.wrap 59=59:=rfl;have hz:(((8:Int)).toNat)=8:=rfl;have n9:((9:Nat):Int)=9:=rfl;have hlt2:(8:Int)<9:=by decide
 by_cases h:c=59
 ·have t:((59:Int)==c)=true:=by simp[h]
  rw[if_pos h];simp only[go_sem,X95,P30,H27,ret27,QA,b48,Tryz.f48,hlt,hu,hi3,hz,n9,hlt2,t,hw1,hlo,hlo2,tokC,tkC,tk,str_nil]<;>rfl
 ·have t:((59:Int)==c)=false:=by simp;omega
  rw[if_neg h];simp only[go_sem,X95,P30,H27,ret27,QA,b48,Tryz.f48,hlt,hu,hi3,hz,t,hw,tokC,str_nil]<;>rfl
theorem Jes(hi:i<=100000000000)(hlo:lo<=p.length)(hlo2:lo<=p.length+(q.length+1)):JA (evCode (X95 lo p q) JA QA) (P30 p q l i c d e [(14,.v (.int .i64 0))])=
  if 0<plK c then ret27 p q l (i+1) (tk (plK c) [])else some (.exit 0,P30 p q l i c d e [(14,.v (.int .i64 9)),(15,.v (.bool false))]):=by
 by_cases h0:c=40
 ·rw[JB,qN hi hlo hlo2,if_pos h0]
  subst h0;rfl
 by_cases h1:c=41
 ·rw[JB,qN hi hlo hlo2,if_neg h0,JO,JB,zT hi hlo hlo2,if_pos h1]
  subst h1;rfl
 by_cases h2:c=91
 ·rw[JB,qN hi hlo hlo2,if_neg h0,JO,JB,zT hi hlo hlo2,if_neg h1,JO,JB,JAv hi hlo hlo2,if_pos h2]
  subst h2;rfl
 by_cases h3:c=93
 ·rw[JB,qN hi hlo hlo2,if_neg h0,JO,JB,zT hi hlo hlo2,if_neg h1,JO,JB,JAv hi hlo hlo2,if_neg h2,JO,JB,JDZ hi hlo hlo2,if_pos h3]
  subst h3;rfl
 by_cases h4:c=123
 ·rw[JB,qN hi hlo hlo2,if_neg h0,JO,JB,zT hi hlo hlo2,if_neg h1,JO,JB,JAv hi hlo hlo2,if_neg h2,JO,JB,JDZ hi hlo hlo2,if_neg h3,JO,JB,JJA hi hlo hlo2,if_pos h4]
  subst h4;rfl
 by_cases h5:c=125
 ·rw[JB,qN hi hlo hlo2,if_neg h0,JO,JB,zT hi hlo hlo2,if_neg h1,JO,JB,JAv hi hlo hlo2,if_neg h2,JO,JB,JDZ hi hlo hlo2,if_neg h3,JO,JB,JJA hi hlo hlo2,if_neg h4,JO,JB,JMX hi hlo hlo2,if_pos h5]
  subst h5;rfl
 by_cases h6:c=44
 ·rw[JB,qN hi hlo hlo2,if_neg h0,JO,JB,zT hi hlo hlo2,if_neg h1,JO,JB,JAv hi hlo hlo2,if_neg h2,JO,JB,JDZ hi hlo hlo2,if_neg h3,JO,JB,JJA hi hlo hlo2,if_neg h4,JO,JB,JMX hi hlo hlo2,if_neg h5,JO,JB,JPk hi hlo hlo2,if_pos h6]
  subst h6;rfl
 by_cases h7:c=58
 ·rw[JB,qN hi hlo hlo2,if_neg h0,JO,JB,zT hi hlo hlo2,if_neg h1,JO,JB,JAv hi hlo hlo2,if_neg h2,JO,JB,JDZ hi hlo hlo2,if_neg h3,JO,JB,JJA hi hlo hlo2,if_neg h4,JO,JB,JMX hi hlo hlo2,if_neg h5,JO,JB,JPk hi hlo hlo2,if_neg h6,JO,JB,JVm hi hlo hlo2,if_pos h7]
  subst h7;rfl
 by_cases h8:c=59
 ·rw[JB,qN hi hlo hlo2,if_neg h0,JO,JB,zT hi hlo hlo2,if_neg h1,JO,JB,JAv hi hlo hlo2,if_neg h2,JO,JB,JDZ hi hlo hlo2,if_neg h3,JO,JB,JJA hi hlo hlo2,if_neg h4,JO,JB,JMX hi hlo hlo2,if_neg h5,JO,JB,JPk hi hlo hlo2,if_neg h6,JO,JB,JVm hi hlo hlo2,if_neg h7,JO,JB,JZg hi hlo hlo2,if_pos h8]
  subst h8;rfl
 rw[JB,qN hi hlo hlo2,if_neg h0,JO,JB,zT hi hlo hlo2,if_neg h1,JO,JB,JAv hi hlo hlo2,if_neg h2,JO,JB,JDZ hi hlo hlo2,if_neg h3,JO,JB,JJA hi hlo hlo2,if_neg h4,JO,JB,JMX hi hlo hlo2,if_neg h5,JO,JB,JPk hi hlo hlo2,if_neg h6,JO,JB,JVm hi hlo hlo2,if_neg h7,JO,JB,JZg hi hlo hlo2,if_neg h8,JO,JB]
 have hp:¬0<plK c:=by
  rcases JH9 c with h|h
  ·omega
  ·have:=h.1
   unfold plK at this;simp only[h0,h1,h2,h3,h4,h5,h6,h7,h8,if_false]at this;omega
 rw[if_neg hp];have hlt:decide ((9:Int)<9)=false:=rfl;simp only[go_sem,X95,P30,H27,QA,b48,Tryz.f48,hlt,tokC,str_nil]<;>rfl
theorem tk30b(hi:i<=100000000000)(hlo:lo<=p.length)(hlo2:lo<=p.length+(q.length+1)):WD (X95 lo p q) JA (pc b48 3 1) (P30 p q l i c d e [(14,.v (.int .i64 0))])=
  if 0<plK c then ret27 p q l (i+1) (tk (plK c) [])else some (.normal,P30 p q l i c d e [(14,.v (.int .i64 9)),(15,.v (.bool false))]):=by
 have hL:=Jes (l:=l) (c:=c) (d:=d) (e:=e) hi hlo hlo2;by_cases h:0<plK c
 ·rw[if_pos h]at hL⊢
  simp only[X95,P30,H27,ret27,QA,b48,Tryz.f48,JK,loops,JC,go_sem,tokC,tkC,tk,str_nil]at hL;simp only[go_sem,X95,P30,H27,ret27,b48,Tryz.f48,hL,tokC,tkC,tk,str_nil]
 ·rw[if_neg h]at hL⊢
  simp only[X95,P30,H27,QA,b48,Tryz.f48,JK,loops,JC,go_sem,tokC,str_nil]at hL;simp only[go_sem,X95,P30,H27,b48,Tryz.f48,hL,tokC,str_nil]
theorem vq0{x y:V}:evCode (X95 lo p q) JA (GM 0) (P30 p q l i c d e [(14,x),(15,y)])=if(blk c)=true then evCode (X95 lo p q) JA (thC (GM 0)) (P30 p q l i c d e [(34,.v (.bool true))])else evCode (X95 lo p q) JA (GM 1) (P30 p q l i c d e [(34,.v (.bool false))]):=by
 refine Yk (S:=λb=>P30 p q l i c d e [(34,.v (.bool b))]) (b:=(blk c)) (s30 0 om) ?_ rfl
 simp only[go_sem,n30_0,n30_s,nthC,JMW,in_s,el_s,X95,P30,H27,b48,Tryz.f48,f74,tokC,str_nil]
theorem vq1{x:V}:evCode (X95 lo p q) JA (GM 1) (P30 p q l i c d e [(34,x)])=if(quo c)=true then evCode (X95 lo p q) JA (thC (GM 1)) (P30 p q l i c d e [(40,.v (.bool true))])else evCode (X95 lo p q) JA (GM 2) (P30 p q l i c d e [(40,.v (.bool false))]):=by
 refine Yk (S:=λb=>P30 p q l i c d e [(40,.v (.bool b))]) (b:=(quo c)) (s30 1 om) ?_ rfl
 simp only[go_sem,n30_0,n30_s,nthC,JMW,in_s,el_s,X95,P30,H27,b48,Tryz.f48,quo,tokC,str_nil]
theorem vq2{x:V}:evCode (X95 lo p q) JA (GM 2) (P30 p q l i c d e [(40,x)])=if(c==35&&((d != -1&&ltr d)||esc d e))=true then evCode (X95 lo p q) JA (thC (GM 2)) (P30 p q l i c d e [(57,.v (.bool true))])else evCode (X95 lo p q) JA (GM 3) (P30 p q l i c d e [(57,.v (.bool false))]):=by
 refine Yk (S:=λb=>P30 p q l i c d e [(57,.v (.bool b))]) (b:=(c==35&&((d != -1&&ltr d)||esc d e))) (s30 2 om) ?_ rfl
 cases h1:(c==35)<;>cases h2:(d != -1)<;>cases h3:ltr d<;>
   simp only[go_sem,n30_0,n30_s,nthC,JMW,in_s,el_s,X95,P30,H27,b48,Tryz.f48,f77,f78,h1,h2,h3,Aw,As,Bool.true_or,Bool.false_or,tokC,str_nil]
theorem vq3{x:V}:evCode (X95 lo p q) JA (GM 3) (P30 p q l i c d e [(57,x)])=if(num c d e)=true then evCode (X95 lo p q) JA (thC (GM 3)) (P30 p q l i c d e [(89,.v (.bool true))])else evCode (X95 lo p q) JA (GM 4) (P30 p q l i c d e [(89,.v (.bool false))]):=by
 refine Yk (S:=λb=>P30 p q l i c d e [(89,.v (.bool b))]) (b:=(num c d e)) (s30 3 om) ?_ rfl
 simp only[go_sem,n30_0,n30_s,nthC,JMW,in_s,el_s,X95,P30,H27,b48,Tryz.f48,f81,tokC,str_nil]
theorem vq4{x:V}:evCode (X95 lo p q) JA (GM 4) (P30 p q l i c d e [(89,x)])=if(c==45&&(d==45&&e==62))=true then evCode (X95 lo p q) JA (thC (GM 4)) (P30 p q l i c d e [(96,.v (.bool true))])else evCode (X95 lo p q) JA (GM 5) (P30 p q l i c d e [(96,.v (.bool false))]):=by
 refine Yk (S:=λb=>P30 p q l i c d e [(96,.v (.bool b))]) (b:=(c==45&&(d==45&&e==62))) (s30 4 om) ?_ rfl
 cases h1:(c==45)<;>cases h2:(d==45)<;>
   simp only[go_sem,n30_0,n30_s,nthC,JMW,in_s,el_s,X95,P30,H27,b48,Tryz.f48,h1,h2,Aw,As,tokC,str_nil]
theorem vq5{x:V}(hi:i<=100000000000):evCode (X95 lo p q) JA (GM 5) (P30 p q l i c d e [(96,x)])=if(c==60&&(d==33&&(e==45&&chr (suf l i) 3==45)))=true then evCode (X95 lo p q) JA (thC (GM 5)) (P30 p q l i c d e [(115,.v (.bool true))])else evCode (X95 lo p q) JA (GM 6) (P30 p q l i c d e [(115,.v (.bool false))]):=by
 have k3:=λlo p q=>f47 (lo:=lo) (l:=l) (i:=i) (p:=p) (q:=q) (k:=3) om
 have n3:((3:Nat):Int)=3:=rfl;simp only[n3]at k3;refine Yk (S:=λb=>P30 p q l i c d e [(115,.v (.bool b))]) (b:=(c==60&&(d==33&&(e==45&&chr (suf l i) 3==45)))) (s30 5 om) ?_ rfl
 cases h1:(c==60)<;>cases h2:(d==33)<;>cases h3:(e==45)<;>
   simp only[go_sem,n30_0,n30_s,nthC,JMW,in_s,el_s,X95,P30,H27,b48,Tryz.f48,k3,h1,h2,h3,Aw,As,tokC,str_nil]
theorem vq6{x:V}(hi:i<=100000000000):evCode (X95 lo p q) JA (GM 6) (P30 p q l i c d e [(115,x)])=if(c==64&&beg d e (chr (suf l i) 3))=true then evCode (X95 lo p q) JA (thC (GM 6)) (P30 p q l i c d e [(139,.v (.bool true))])else evCode (X95 lo p q) JA (GM 7) (P30 p q l i c d e [(139,.v (.bool false))]):=by
 have k3:=λlo p q=>f47 (lo:=lo) (l:=l) (i:=i) (p:=p) (q:=q) (k:=3) om
 have n3:((3:Nat):Int)=3:=rfl;simp only[n3]at k3;refine Yk (S:=λb=>P30 p q l i c d e [(139,.v (.bool b))]) (b:=(c==64&&beg d e (chr (suf l i) 3))) (s30 6 om) ?_ rfl
 cases h1:(c==64)<;>
   simp only[go_sem,n30_0,n30_s,nthC,JMW,in_s,el_s,X95,P30,H27,b48,Tryz.f48,k3,f79,h1,Aw,As,tokC,str_nil]
abbrev W30(p q:List Ob)(l:List Int)(i:Nat)(c:Int)(ex:Jl):Jl×JG:=((0,.ptr p.length 0)::(2,.ptr (p.length+(q.length+1)) 0)::(3,.v (.int .i32 c))::ex,H27 p q l i)
theorem Js5:elC (GM 7)= .skip:=rfl
theorem vq7{x:V}:evCode (X95 lo p q) JA (GM 7) (P30 p q l i c d e [(139,x)])=if(beg c d e)=true then evCode (X95 lo p q) JA (thC (GM 7)) (W30 p q l i c [(159,.v (.bool true))])else some (.normal,W30 p q l i c [(159,.v (.bool false))]):=by
 have h:=Yk (c:=X95 lo p q) (lp:=JA) (s:=P30 p q l i c d e [(139,x)]) (S:=λb=>W30 p q l i c [(159,.v (.bool b))]) (b:=(beg c d e)) (s30 7 om) (by simp only[go_sem,n30_0,n30_s,nthC,JMW,in_s,el_s,X95,P30,H27,b48,Tryz.f48,W30,f79,tokC,str_nil]) rfl
 rw[h,Js5,JS4]
theorem an0{x:V}(hl:l.length<=100000000000)(hi:i<=l.length):∃j,j<=l.length+2/\suf l j=QL (suf l i)/\ ∀lo p q,lo<=p.length->lo<=p.length+(q.length+1)->
  evCode (X95 lo p q) JA (thC (GM 0)) (P30 p q l i c d e [(34,x)])=ret27 p q l j (tk 13 []):=by
 obtain⟨j,a1,a2,a3,a4⟩:=f75 (l:=l) (i:=i) hl hi;refine⟨j,om,a3,λlo p q hlo hlo2=>?_⟩
 simp only[go_sem,n30_0,n30_s,nthC,th_s,in_s,el_s,X95,P30,H27,ret27,b48,Tryz.f48,a4 _ _ _ hlo,hlo2,tokC,tkC,tk,str_nil]<;>rfl
theorem an1{x:V}(hl:l.length<=100000000000)(hi:i<l.length)(hq:quo c=true):∃j,j<=l.length+2/\suf l j=(txt c (suf l (i+1))).2.2/\ ∀lo p q,lo<=p.length->lo<=p.length+(q.length+1)->
  evCode (X95 lo p q) JA (thC (GM 1)) (P30 p q l i c d e [(40,x)])=ret27 p q l j (JLk (txt c (suf l (i+1)))):=by
 have hw1:=JM (i:=i) om;obtain⟨j,a1,a2,a3,a4⟩:=f76 (l:=l) (i:=i+1) (sign:=c) hl om hq;simp only[JYb,tkC]at a4;refine⟨j,a1,a3,λlo p q hlo hlo2=>?_⟩
 simp only[go_sem,n30_0,n30_s,nthC,th_s,in_s,el_s,X95,P30,H27,ret27,b48,Tryz.f48,hw1,hlo,a4 _ _ _ hlo,hlo2,tokC,tkC,str_nil]<;>rfl
theorem an2{x:V}(hl:l.length<=100000000000)(hi:i<l.length):∃j,j<=l.length+2/\suf l j=(name ((suf l i).drop 1)).2/\ ∀lo p q,lo<=p.length->lo<=p.length+(q.length+1)->
  evCode (X95 lo p q) JA (thC (GM 2)) (P30 p q l i c d e [(57,x)])=ret27 p q l j ⟨4,(name ((suf l i).drop 1)).1,(0,0),false,beg d e (chr (suf l i) 3)⟩:=by
 have hw1:=JM (i:=i) om;have k2:=λlo p q=>f47 (lo:=lo) (l:=l) (i:=i+1) (p:=p) (q:=q) (k:=2) om
 have n2:((2:Nat):Int)=2:=rfl;have e1:suf l (i+1)=(suf l i).drop 1:=by simp[suf,AY]
 have e2:chr (suf l (i+1)) 2=chr (suf l i) 3:=by rw[e1,JCz]
 simp only[n2,e2]at k2;obtain⟨j,a1,a2,a3,a4⟩:=f80 (l:=l) (i:=i+1) hl om;rw[e1]at a3 a4;refine⟨j,om,a3,λlo p q hlo hlo2=>?_⟩
 simp only[go_sem,n30_0,n30_s,nthC,th_s,in_s,el_s,X95,P30,H27,ret27,b48,Tryz.f48,k2,f79,hw1,a4 _ _ _ hlo,hlo,hlo2,tokC,tkC,str_nil]<;>rfl
theorem an3{x:V}(hl:l.length<=100000000000)(hi:i<=l.length)(hn:num (chr (suf l i) 0) (chr (suf l i) 1) (chr (suf l i) 2)=true):∃j,j<=l.length+2/\suf l j=(Yu (suf l i)).2/\ ∀lo p q,lo<=p.length->lo<=p.length+(q.length+1)->
  evCode (X95 lo p q) JA (thC (GM 3)) (P30 p q l i c d e [(89,x)])=ret27 p q l j (Yu (suf l i)).1:=by
 obtain⟨j,a1,a2,a3,a4⟩:=f82 (l:=l) (i:=i) hl hi hn;simp only[tkC]at a4;refine⟨j,om,a3,λlo p q hlo hlo2=>?_⟩
 simp only[go_sem,n30_0,n30_s,nthC,th_s,in_s,el_s,X95,P30,H27,ret27,b48,Tryz.f48,a4 _ _ _ hlo,hlo2,tokC,tkC,str_nil]<;>rfl
theorem an4{x:V}(hl:i<=100000000000):∀lo p q,lo<=p.length->lo<=p.length+(q.length+1)->
  evCode (X95 lo p q) JA (thC (GM 4)) (P30 p q l i c d e [(96,x)])=ret27 p q l (i+3) (tk 15 []):=by
 have hw1:Am.wrap ((i:Int)+3)=((i+3:Nat):Int):=by rw[JW om om];omega
 intro lo p q hlo hlo2;simp only[go_sem,n30_0,n30_s,nthC,th_s,in_s,el_s,X95,P30,H27,ret27,b48,Tryz.f48,hw1,hlo,hlo2,tokC,tkC,tk,str_nil]<;>rfl
theorem an5{x:V}(hl:i<=100000000000):∀lo p q,lo<=p.length->lo<=p.length+(q.length+1)->
  evCode (X95 lo p q) JA (thC (GM 5)) (P30 p q l i c d e [(115,x)])=ret27 p q l (i+4) (tk 14 []):=by
 have hw1:Am.wrap ((i:Int)+4)=((i+4:Nat):Int):=by rw[JW om om];omega
 intro lo p q hlo hlo2;simp only[go_sem,n30_0,n30_s,nthC,th_s,in_s,el_s,X95,P30,H27,ret27,b48,Tryz.f48,hw1,hlo,hlo2,tokC,tkC,tk,str_nil]<;>rfl
theorem an6{x:V}(hl:l.length<=100000000000)(hi:i<l.length):∃j,j<=l.length+2/\suf l j=(name ((suf l i).drop 1)).2/\ ∀lo p q,lo<=p.length->lo<=p.length+(q.length+1)->
  evCode (X95 lo p q) JA (thC (GM 6)) (P30 p q l i c d e [(139,x)])=ret27 p q l j (tk 3 (name ((suf l i).drop 1)).1):=by
 have hw1:=JM (i:=i) om;obtain⟨j,a1,a2,a3,a4⟩:=f80 (l:=l) (i:=i+1) hl om;have e1:suf l (i+1)=(suf l i).drop 1:=by simp[suf,AY]
 rw[e1]at a3 a4;refine⟨j,om,a3,λlo p q hlo hlo2=>?_⟩
 simp only[go_sem,n30_0,n30_s,nthC,th_s,in_s,el_s,X95,P30,H27,ret27,b48,Tryz.f48,hw1,a4 _ _ _ hlo,hlo,hlo2,tokC,tkC,tk,str_nil]<;>rfl
theorem an7{x:V}(hl:l.length<=100000000000)(hi:i<=l.length):∃j,j<=l.length+2/\suf l j=(word (suf l i)).2/\ ∀lo p q,lo<=p.length->lo<=p.length+(q.length+1)->
  evCode (X95 lo p q) JA (thC (GM 7)) (W30 p q l i c [(159,x)])=ret27 p q l j (word (suf l i)).1:=by
 obtain⟨j,a1,a2,a3,a4⟩:=f83 (l:=l) (i:=i) hl hi;simp only[tkC]at a4;refine⟨j,a1,a3,λlo p q hlo hlo2=>?_⟩
 simp only[go_sem,n30_0,n30_s,nthC,th_s,in_s,el_s,X95,P30,H27,ret27,b48,Tryz.f48,W30,a4 _ _ _ hlo,hlo2,tokC,tkC,str_nil]<;>rfl
theorem an8{x:V}(hi:i<=100000000000):∀lo p q,lo<=p.length->lo<=p.length+(q.length+1)->
  WD (X95 lo p q) JA (pc b48 5 3) (W30 p q l i c [(159,x)])=ret27 p q l (i+1) (tk 9 [c]):=by
 have hw1:=JM (i:=i) om;have k82:=λlo h=>f84 (lo:=lo) (l:=[c]) (h:=h) (by simp)
 simp only[GZ,Z6]at k82;intro lo p q hlo hlo2;simp only[go_sem,X95,W30,H27,ret27,b48,Tryz.f48,hw1,hlo,k82,hlo2,tokC,tkC,tk,str_nil]<;>rfl
theorem f48(hl:l.length<=100000000000)(hi:i<l.length):∃j,j<=l.length+2/\suf l j=(WN (suf l i)).2/\
  ∀lo p q,lo<=p.length->E lo 48 [.ptr p.length 0] (p++R l i::q)=some (.agg (tkC (WN (suf l i)).1),p++R l j::q):=by
 have hH:∀p q:List Ob,(p++R l i::q).length=p.length+(q.length+1):=λp q=>by simp
 have hin:i<=100000000000:=om
 have hdd:(chr (suf l i) 1 != -1&&ltr (chr (suf l i) 1))=ltr (chr (suf l i) 1):=by
  cases h:(chr (suf l i) 1 != -1)with
  |true=>simp
  |false=>
   have:chr (suf l i) 1= -1:=by simpa using h
   rw[this]<;>rfl
 have hd1:∀k,suf l (i+k)=(suf l i).drop k:=λk=>by simp[suf,AY]
 have hgt:∀k c,chr (suf l i) k=c->c≠ -1->i+k<l.length:=λk c h hc=>by
  rcases Ay (i+k) l.length with h2|h2
  ·exact h2
  ·exfalso
   have:(suf l i)[k]? =none:=List.getElem?_eq_none (by rw[QD];omega)
   simp only[chr,this]at h;exact hc h.symm
 rw[JR3];by_cases hp:0<plK (chr (suf l i) 0)
 ·rw[if_pos hp]
  refine⟨i+1,om,hd1 1,λlo p q hlo=>?_⟩
  rw[e48,hH,pc_in,pc_go _ _ _ _ 0 3,tk30a hin,pc_go _ _ _ _ _ 1,tk30b hin hlo om,if_pos hp,ret27,Qr];exact JDX
 rw[if_neg hp]
 have fin_:∀(j:Nat) (t:Tk),(∀lo p q,lo<=p.length->lo<=p.length+(q.length+1)->evCode (X95 lo p q) JA (GM 0) (P30 p q l i (chr (suf l i) 0) (chr (suf l i) 1) (chr (suf l i) 2) [(14,.v (.int .i64 9)),(15,.v (.bool false))])=ret27 p q l j t)->
   ∀lo p q,lo<=p.length->E lo 48 [.ptr p.length 0] (p++R l i::q)=some (.agg (tkC t),p++R l j::q):=by
  intro j t hq lo p q hlo;rw[e48,hH,pc_in,pc_go _ _ _ _ 0 3,tk30a hin,pc_go _ _ _ _ _ 1,tk30b hin hlo om,if_neg hp,pc_go _ _ _ _ _ 1]
  have hB:WD (X95 lo p q) JA (pc b48 4 1) (P30 p q l i (chr (suf l i) 0) (chr (suf l i) 1) (chr (suf l i) 2) [(14,.v (.int .i64 9)),(15,.v (.bool false))])=ret27 p q l j t:=by
   unfold pc;rw[JlS];show WD (X95 lo p q) JA [.block 2 (GM 0)] _=_
   rw[one_l,JJf,hq lo p q hlo om]<;>rfl
  rw[hB,ret27,Qr];exact JDX
 have fin2:(∀lo p q,lo<=p.length->lo<=p.length+(q.length+1)->evCode (X95 lo p q) JA (GM 0) (P30 p q l i (chr (suf l i) 0) (chr (suf l i) 1) (chr (suf l i) 2) [(14,.v (.int .i64 9)),(15,.v (.bool false))])=some (.normal,W30 p q l i (chr (suf l i) 0) [(159,.v (.bool false))]))->
   ∀lo p q,lo<=p.length->E lo 48 [.ptr p.length 0] (p++R l i::q)=some (.agg (tkC (tk 9 [chr (suf l i) 0])),p++R l (i+1)::q):=by
  intro hq lo p q hlo;rw[e48,hH,pc_in,pc_go _ _ _ _ 0 3,tk30a hin,pc_go _ _ _ _ _ 1,tk30b hin hlo om,if_neg hp,pc_go _ _ _ _ _ 1]
  have hB:WD (X95 lo p q) JA (pc b48 4 1) (P30 p q l i (chr (suf l i) 0) (chr (suf l i) 1) (chr (suf l i) 2) [(14,.v (.int .i64 9)),(15,.v (.bool false))])=some (.normal,W30 p q l i (chr (suf l i) 0) [(159,.v (.bool false))]):=by
   unfold pc;rw[JlS];show WD (X95 lo p q) JA [.block 2 (GM 0)] _=_
   rw[one_l,JJf,hq lo p q hlo om]<;>rfl
  rw[hB,pc_go _ _ _ _ _ 3,an8 hin lo p q hlo om,ret27,Qr];exact JDX
 by_cases h0:blk (chr (suf l i) 0)=true
 ·obtain⟨j,a1,a2,a3⟩:=an0 (c:=chr (suf l i) 0) (d:=chr (suf l i) 1) (e:=chr (suf l i) 2) (x:= .v (.bool true)) hl (DF hi)
  rw[if_pos h0];exact⟨j,a1,a2,fin_ j _ λlo p q hlo hlo2=>by rw[vq0,if_pos h0,a3 lo p q hlo hlo2]⟩
 rw[if_neg h0];by_cases h1:quo (chr (suf l i) 0)=true
 ·obtain⟨j,b1,b2,b3⟩:=an1 (d:=chr (suf l i) 1) (e:=chr (suf l i) 2) (x:= .v (.bool true)) hl hi h1
  rw[if_pos h1,<-hd1];exact⟨j,b1,b2,fin_ j _ λlo p q hlo hlo2=>by rw[vq0,if_neg h0,vq1,if_pos h1,b3 lo p q hlo hlo2]⟩
 rw[if_neg h1];by_cases h2:chr (suf l i) 0=35/\(ltr (chr (suf l i) 1)||esc (chr (suf l i) 1) (chr (suf l i) 2))=true
 ·obtain⟨j,b1,b2,b3⟩:=an2 (c:=chr (suf l i) 0) (d:=chr (suf l i) 1) (e:=chr (suf l i) 2) (x:= .v (.bool true)) hl hi
  have h2':(chr (suf l i) 0==35&&(ltr (chr (suf l i) 1)||esc (chr (suf l i) 1) (chr (suf l i) 2)))=true:=by rw[Af,beq_iff_eq];exact h2
  rw[if_pos h2];exact⟨j,b1,b2,fin_ j _ λlo p q hlo hlo2=>by rw[vq0,if_neg h0,vq1,if_neg h1,vq2,hdd,if_pos h2',b3 lo p q hlo hlo2]⟩
 have h2':¬(chr (suf l i) 0==35&&(ltr (chr (suf l i) 1)||esc (chr (suf l i) 1) (chr (suf l i) 2)))=true:=by rw[Af,beq_iff_eq];exact h2
 rw[if_neg h2];by_cases h3:num (chr (suf l i) 0) (chr (suf l i) 1) (chr (suf l i) 2)=true
 ·obtain⟨j,b1,b2,b3⟩:=an3 (c:=chr (suf l i) 0) (d:=chr (suf l i) 1) (e:=chr (suf l i) 2) (x:= .v (.bool true)) hl (DF hi) h3
  rw[if_pos h3];exact⟨j,b1,b2,fin_ j _ λlo p q hlo hlo2=>by rw[vq0,if_neg h0,vq1,if_neg h1,vq2,hdd,if_neg h2',vq3,if_pos h3,b3 lo p q hlo hlo2]⟩
 rw[if_neg h3];by_cases h4:chr (suf l i) 0=45/\chr (suf l i) 1=45/\chr (suf l i) 2=62
 ·have:=hgt 2 62 h4.2.2 (by decide)
  have h4':(chr (suf l i) 0==45&&(chr (suf l i) 1==45&&chr (suf l i) 2==62))=true:=by simpa using h4
  rw[if_pos h4];exact⟨i+3,om,hd1 3,fin_ (i+3) _ λlo p q hlo hlo2=>by rw[vq0,if_neg h0,vq1,if_neg h1,vq2,hdd,if_neg h2',vq3,if_neg h3,vq4,if_pos h4',an4 hin lo p q hlo hlo2]⟩
 have h4':¬(chr (suf l i) 0==45&&(chr (suf l i) 1==45&&chr (suf l i) 2==62))=true:=by simpa using h4
 rw[if_neg h4];by_cases h5:chr (suf l i) 0=60/\chr (suf l i) 1=33/\chr (suf l i) 2=45/\chr (suf l i) 3=45
 ·have:=hgt 3 45 h5.2.2.2 (by decide)
  have h5':(chr (suf l i) 0==60&&(chr (suf l i) 1==33&&(chr (suf l i) 2==45&&chr (suf l i) 3==45)))=true:=by simpa using h5
  rw[if_pos h5];exact⟨i+4,om,hd1 4,fin_ (i+4) _ λlo p q hlo hlo2=>by rw[vq0,if_neg h0,vq1,if_neg h1,vq2,hdd,if_neg h2',vq3,if_neg h3,vq4,if_neg h4',vq5 hin,if_pos h5',an5 hin lo p q hlo hlo2]⟩
 have h5':¬(chr (suf l i) 0==60&&(chr (suf l i) 1==33&&(chr (suf l i) 2==45&&chr (suf l i) 3==45)))=true:=by simpa using h5
 rw[if_neg h5];by_cases h7:chr (suf l i) 0=64/\beg (chr (suf l i) 1) (chr (suf l i) 2) (chr (suf l i) 3)=true
 ·obtain⟨j,b1,b2,b3⟩:=an6 (c:=chr (suf l i) 0) (d:=chr (suf l i) 1) (e:=chr (suf l i) 2) (x:= .v (.bool true)) hl hi
  have h7':(chr (suf l i) 0==64&&beg (chr (suf l i) 1) (chr (suf l i) 2) (chr (suf l i) 3))=true:=by rw[Af,beq_iff_eq];exact h7
  rw[if_pos h7];exact⟨j,b1,b2,fin_ j _ λlo p q hlo hlo2=>by rw[vq0,if_neg h0,vq1,if_neg h1,vq2,hdd,if_neg h2',vq3,if_neg h3,vq4,if_neg h4',vq5 hin,if_neg h5',vq6 hin,if_pos h7',b3 lo p q hlo hlo2]⟩
 have h7':¬(chr (suf l i) 0==64&&beg (chr (suf l i) 1) (chr (suf l i) 2) (chr (suf l i) 3))=true:=by rw[Af,beq_iff_eq];exact h7
 rw[if_neg h7];by_cases h8:beg (chr (suf l i) 0) (chr (suf l i) 1) (chr (suf l i) 2)=true
 ·obtain⟨j,b1,b2,b3⟩:=an7 (c:=chr (suf l i) 0) (x:= .v (.bool true)) hl (DF hi)
  rw[if_pos h8];exact⟨j,b1,b2,fin_ j _ λlo p q hlo hlo2=>by rw[vq0,if_neg h0,vq1,if_neg h1,vq2,hdd,if_neg h2',vq3,if_neg h3,vq4,if_neg h4',vq5 hin,if_neg h5',vq6 hin,if_neg h7',vq7,if_pos h8,b3 lo p q hlo hlo2]⟩
 rw[if_neg h8];exact⟨i+1,om,hd1 1,fin2 λlo p q hlo hlo2=>by rw[vq0,if_neg h0,vq1,if_neg h1,vq2,hdd,if_neg h2',vq3,if_neg h3,vq4,if_neg h4',vq5 hin,if_neg h5',vq6 hin,if_neg h7',vq7,if_neg h8]⟩
end
end Go.Lift.Y1.P.T
end

section
open Go.Proofs
namespace Go.Lift.Y1.P.T
open Utf Tok
theorem Jeu(ts:List Tk):J2 (ts.map tkC)=false:=by cases ts<;>rfl
theorem Jev(ts:List Tk):((ts.map tkC).all λx=>x.length==6)=true:=by rw[Ak];intro x hx;obtain⟨t,_,rfl⟩:=AM.1 hx;rfl
theorem JR4(n:Nat):toksN n []=[]:=by
 cases n with
 |zero=>rfl
 |succ n=>simp only[toksN];rw[if_pos (show HV []=[]from rfl)]
section
variable{lo i j:Nat}{l:List Int}{h:JG}
theorem Js6(l:List Int):suf l 0=l.map K7:=by simp[suf]
noncomputable abbrev X74(lo:Nat)(h:JG):Cx:=⟨Aa,E,lo,h.length,h19⟩
section
theorem Jew(hl:l.length<=100000000000):∀(m i:Nat) (out:List Tk),(suf l i).length<=m->i<=l.length+2->out.length+(suf l i).length<=l.length->
  ∃j,∀lo (h:JG),lo<=h.length->JA (evCode (X74 lo h) JA JGr) ([(3,.list .yes (out.map tkC)),(4,.ptr h.length 0)],h++[R l i])=
   some (.ret,[(2,.list .no ((out++toksN m (suf l i)).map tkC))],h++[R l j]):=by
 have stop:∀(i:Nat) (out:List Tk),i<=l.length+2->HV (suf l i)=[]->∃j,∀lo (h:JG),lo<=h.length->JA (evCode (X74 lo h) JA JGr) ([(3,.list .yes (out.map tkC)),(4,.ptr h.length 0)],h++[R l i])=
   some (.ret,[(2,.list .no (out.map tkC))],h++[R l j]):=by
  intro i out hi hr;obtain⟨j,a1,a2,a3,a4⟩:=f46 (l:=l) (i:=i) hl om;rw[hr]at a3;have k0:=λlo p q=>f47 (lo:=lo) (l:=l) (i:=j) (p:=p) (q:=q) (k:=0) om
  have t:((-1:Int)== -1)=true:=rfl;simp only[n0,a3,QT]at k0;refine⟨j,λlo h hlo=>?_⟩
  rw[JB];simp only[go_sem,X74,JGr,b19,Tryz.f19,a4 _ _ _ hlo,k0,t]<;>rfl
 intro m
 induction m with
 |zero=>
  intro i out h1 h2 h3;have hs:suf l i=[]:=Ar om;obtain⟨j,hj⟩:=stop i out h2 (by rw[hs]<;>rfl)
  refine⟨j,λlo h hlo=>?_⟩
  rw[hj lo h hlo,hs,JR4,AE]
 |succ m ih=>
  intro i out h1 h2 h3;by_cases hr:HV (suf l i)=[]
  ·obtain⟨j,hj⟩:=stop i out h2 hr
   refine⟨j,λlo h hlo=>?_⟩
   rw[hj lo h hlo];simp only[toksN];rw[if_pos hr,AE]
  ·obtain⟨j0,a1,a2,a3,a4⟩:=f46 (l:=l) (i:=i) hl om
   have hj0:j0<l.length:=by
    rcases Ay j0 l.length with h|h
    ·exact h
    ·rw[J9 h]at a3;exact absurd a3.symm hr
   obtain⟨j1,b1,b2,b3⟩:=f48 (l:=l) (i:=j0) hl hj0;have hlt:=yz (s:=suf l j0) (by rw[a3];exact hr)
   have hle:=JBM (suf l i);rw[<-a3]at hle;rw[<-b2]at hlt;obtain⟨j,hj⟩:=ih j1 (out++[(WN (suf l j0)).1]) om b1 (by simp;omega)
   refine⟨j,λlo h hlo=>?_⟩
   have k0:=λlo p q=>f47 (lo:=lo) (l:=l) (i:=j0) (p:=p) (q:=q) (k:=0) om
   have hcp:=Y7 hj0;have t:(chr (suf l j0) 0== -1)=false:=by simp;omega
   simp only[n0]at k0
   have e:toksN (m+1) (suf l i)=(WN (suf l j0)).1::toksN m (suf l j1):=by simp only[toksN];rw[if_neg hr,<-a3,b2]
   rw[e];have hT:∀lo (p q:List Ob),lo<=p.length->E lo 48 [.ptr p.length 0] (p++R l j0::q)=some (.agg (tkC (WN (suf l j0)).1),p++R l j1::q):=b3;generalize (WN (suf l j0)).1=T at*;have hr1:(out.length+1)*48<=140737488355328:=om;have hr2:out.length+1<=9223372036854775807:=om;have app:out.map tkC++[tkC T]=(out++[T]).map tkC:=by simp
   have all:=Jev out;have ibr:=Jeu out
   have er:evCode (X74 lo h) JA JGr ([(3,.list .yes (out.map tkC)),(4,.ptr h.length 0)],h++[R l i])=some (.normal,[(3,.list .yes ((out++[T]).map tkC)),(4,.ptr h.length 0)],h++[R l j1]):=by rw[<-app];simp only[tkC]at hT⊢;simp only[go_sem,X74,JGr,b19,Tryz.f19,a4 _ _ _ hlo,k0,t,hT _ _ _ hlo,Aq,all,ibr,hr1,hr2]<;>rfl
   rw[JB,er,JO,hj lo h hlo];simp
theorem f19(hl:l.length<=100000000000)(hlo:lo<=h.length):E lo 19 [.list .no (ri .i32 l)] h=some (.list .no ((toks (l.map K7)).map tkC),h):=by
 obtain⟨j,hj⟩:=Jew (l:=l) hl (suf l 0).length 0 [] (Ad _) (B9 _) (by rw[QD];simp)
 have hL:=hj lo h hlo;have hR:R l 0= .cells [.list .no (ri .i32 l),.v (.int .i64 0)]:=rfl;rw[Au,Js6,hR]at hL;have e:toks (l.map K7)=toksN (l.map K7).length (l.map K7):=rfl;rw[e19,e];generalize toksN (l.map K7).length (l.map K7)=ts at*;simp only[X74,JGr,b19,Tryz.f19,JK,loops,JC,go_sem]at hL;simp only[go_sem,b19,Tryz.f19,hL,hlo]
end
end
section
variable{lo:Nat}{l b:List Int}{h:JG}
theorem JYd(p:Bool):∀l:List Int,(Utf.dec p l).length<=l.length:=by
 intro l
 induction l generalizing p with
 |nil=>simp[Utf.dec]
 |cons x t ih=>have:=ih (x==13);have h1:=JH4 p x;simp only[Utf.dec,Ao,Ae];omega
theorem JDa(b:List Int):(Utf.decode b).length<=b.length:=by unfold Utf.decode;have h1:=JYd false (raw (W5 b));have h2:=JMN (W5 b);have h3:=JH5 b;omega
def jd(b:List Int):List Tk:=toks ((Utf.decode b).map K7)
theorem f8(hb:b.length<=1000000000)(hy:By b)(hlo:lo<=h.length):E lo 8 [.list .no (ri .u8 b)] h=some (.list .no ((jd b).map tkC),h):=by have hl:=JDa b;have k:=f19 (lo:=lo) (l:=Utf.decode b) (h:=h) om hlo;rw[e8];unfold jd;generalize toks ((Utf.decode b).map K7)=ts at*;simp only[go_sem,b8,Tryz.f8,f20 hb hy,k]
end
end Go.Lift.Y1.P.T
end

section
namespace Go.Lift.Rul
mutual
def JR5(P:Tk4->Prop):CV->Prop
 | .mk t ks=>P t/\JKS P ks
def JKS(P:Tk4->Prop):List CV->Prop
 |[]=>True
 |v::r=>JR5 P v/\JKS P r
end
mutual
theorem JR6{P:Tk4->Prop}:∀v:PV,(∀t∈Qn v,P t)->JR5 P (cvV v)
 | .leaf t,h=>by rw[cvV,JR5,JKS];exact⟨h t (by rw[Qn];simp),trivial⟩
 | .node t ks c,h=>by rw[Qn]at h;rw[cvV,JR5];exact⟨h t (by simp),JAV ks λu hu=>h u (by simp[hu])⟩
theorem JAV{P:Tk4->Prop}:∀F:List PV,(∀t∈Kw F,P t)->JKS P (cvL F)
 |[],_=>by rw[cvL,JKS];trivial
 |v::r,h=>by rw[Kw]at h;rw[cvL,JKS];exact⟨JR6 v λt ht=>h t (by simp[ht]),JAV r λt ht=>h t (by simp[ht])⟩
end
mutual
theorem JMY:∀v:PV,Kj (cvV v)<=(Qn v).length
 | .leaf t=>by rw[cvV,Kj,Qd,Qn];simp
 | .node t ks c=>by have:=je ks;rw[cvV,Kj,Qn];simp only[Ae,Ao];omega
theorem je:∀F:List PV,JN (cvL F)<=(Kw F).length
 |[]=>by rw[cvL,Qd];exact B9 _
 |v::r=>by have:=je r;have:=JMY v;rw[cvL,J6,Kw,Ao];omega
end
theorem JR7{P:Tk4->Prop}{l:List Tk4}(h:∀t∈l,P t):JKS P (JLQ l):=by obtain⟨F,rfl,hg⟩:=JOt l;rw[JGn hg];exact JAV F h
theorem JON(l:List Tk4):JN (JLQ l)<=l.length:=by obtain⟨F,rfl,hg⟩:=JOt l;rw[JGn hg];exact je F
end Go.Lift.Rul
end

section
namespace Go.Lift.Tok
open Utf
section
variable{σ:Int}{y s:List Int}
theorem JDb:∀(n m:Nat) (s:List Int),s.length<=n->s.length<=m->toksN n s=toksN m s
 |0,m,s,h1,h2=>by
  obtain rfl:=Ar (by omega:s.length=0)
  cases m with
  |zero=>rfl
  |succ m=>simp only[toksN];rw[if_pos (show HV []=[]from rfl)]
 |n+1,0,s,h1,h2=>by
  obtain rfl:=Ar (by omega:s.length=0)
  simp only[toksN];rw[if_pos (show HV []=[]from rfl)]
 |n+1,m+1,s,h1,h2=>by
  simp only[toksN];by_cases hr:HV s=[]
  ·rw[if_pos hr,if_pos hr]
  ·rw[if_neg hr,if_neg hr]
   have a:=yz hr;have b:=JBM s;rw[JDb n m _ om om]
theorem JYe(s:List Int):toks s=if HV s=[]then[]else(WN (HV s)).1::toks (WN (HV s)).2:=by
 by_cases hr:HV s=[]
 ·rw[if_pos hr]
  unfold toks
  cases h:s.length with
  |zero=>rfl
  |succ n=>simp only[toksN];rw[if_pos hr]
 ·rw[if_neg hr]
  have a:=yz hr;have b:=JBM s;unfold toks;obtain⟨n,hn⟩:∃n,s.length=n+1:=⟨s.length-1,om⟩;rw[hn];simp only[toksN];rw[if_neg hr,JDb n (WN (HV s)).2.length _ om (Ad _)]
end
end Go.Lift.Tok
end

section
namespace Go.Lift.Spell
open Utf Tok
theorem JVn{l:List Int}(h:∀c∈l,KD c=true):∀c∈core l,KD c=true:=λc hc=>by unfold core at hc;rw[List.mem_reverse]at hc;exact h c (by simpa using(BH _).subset hc)
theorem JR8(c:Int)(t:List Int)(hc:c≠48):∃u,core (c::t)=c::u:=by
 unfold core;rw[List.reverse_cons]
 have:∀l:List Int,∃u,(l++[c]).dropWhile (· ==48)=u++[c]:=by
  intro l
  induction l with
  |nil=>exact⟨[],by rw[Au,Bn (by simpa using hc)]⟩
  |cons x l ih=>
   rw[List.cons_append]
   cases hx:(x==(48:Int))with
   |true=>rw[Bz (p:=(· ==48)) hx];exact ih
   |false=>rw[Bn (p:=(· ==48)) (by simp[hx])];exact⟨x::l,rfl⟩
 obtain⟨u,hu⟩:=this t.reverse;rw[hu];exact⟨u.reverse,by simp⟩
theorem JVo{c:Int}{t:List Int}(hd:∀x∈c::t,KD x=true)(hc:c≠48)(hl:(core (c::t)).length<=18):1<=GB 0 (core (c::t))/\GB 0 (core (c::t))<10^18:=by
 obtain⟨u,hu⟩:=JR8 c t hc;have hmem:=JVn hd;rw[hu]at hl hmem⊢;have h1:=hmem c (by simp)
 simp only[KD,Af,decide_eq_true_eq]at h1;have h2:GB 0 (c::u)=GB (c-48) u:=by simp[GB]
 rw[h2];obtain⟨a,b,d⟩:=qt u (c-48) 1 (λx hx=>hmem x (by simp[hx])) om om
 refine⟨om,?_⟩
 simp only[Ae]at hl;obtain⟨j,hj⟩:∃j,18=1+u.length+j:=⟨18-(1+u.length),om⟩
 have h3:(10:Int)^ (1+u.length)<=10^18:=by rw[hj,Int.pow_add _ (1+u.length) j];have h0:=Kt (y:=10) om (1+u.length);exact kN om (Kt om j)
 omega
theorem JDc{y:Int}:∀(k:Nat) (n:Int),0<(Ky y k n).1->(Ky y k n).2%y≠0
 |0,n,h=>by simp[Ky]at h
 |k+1,n,h=>by
  simp only[Ky]at h⊢
  split
  ·rename_i h1
   rw[if_pos h1]at h;exact JDc k _ h
  ·rename_i h1
   exact h1
theorem JOO{M e N D:Int}(h1:1<=M)(h2:M<10^18)(h:JAD M e=some (N,D)):
  (D=1/\N=M*10^e.toNat/\N<=9223372036854775807/\1<=N)\/
  (e<0/\1<=N/\N<=M/\ ∃a b k:Nat,a<=62/\b<=27/\D=2^a*5^b/\a<=k/\b<=k/\M=N*5^ (k-b)*2^ (k-a)/\(0<a->N%2≠0)/\(0<b->N%5≠0)/\D<=9223372036854775807):=by
 have h18:(10:Int)^18=1000000000000000000:=by decide
 unfold JAD at h
 split at h
 ·cases h
 ·rename_i m hu
  obtain⟨um,ub⟩:=JLi _ _ _ hu;have hp:=pow_pos (x:=10) om e.toNat;have hm1:1<=m:=by rw[um];exact Int.le_trans h1 (kN om hp)
  split at h
  ·cases h
  ·rename_i hnot
   cases hk:kg 5 1844674407370955161 (Ky 5 (-e).toNat (Ky 2 (-e).toNat m).2).1 (2^ (Ky 2 (-e).toNat m).1)with
   |none=>rw[hk]at h;cases h
   |some z=>
    rw[hk]at h;simp only[Option.map_some,Ah,Prod.mk.injEq]at h;obtain⟨hN,rfl⟩:=h;by_cases he:0<=e
    ·left
     have e0:(-e).toNat=0:=om;rw[e0]at hN hk;simp only[Ky,kg,Ah]at hN hk;subst hN;refine⟨by rw[<-hk]<;>rfl,um,?_,hm1⟩
     rcases ub with ub|ub
     ·rw[ub]at um;simp at um;omega
     ·omega
    ·right
     have e0:e.toNat=0:=om;rw[e0,LD,Int.mul_one]at um;subst um;obtain⟨a1,b1,c1,d1⟩:=Zo (y:=2) om (-e).toNat m hm1;obtain⟨a2,b2,c2,d2⟩:=Zo (y:=5) om (-e).toNat _ b1;have o1:=JDc (y:=2) (-e).toNat m;have o2:=JDc (y:=5) (-e).toNat (Ky 2 (-e).toNat m).2;generalize (-e).toNat=k at*;generalize (Ky 2 k m).1=a at*;generalize (Ky 2 k m).2=r at*
     generalize (Ky 5 k r).1=b at*;rw[hN]at b2 c2 d2 o2;obtain⟨v1,v2⟩:=JHf om _ _ _ hk;refine⟨om,b2,om,a,b,k,om,om,v1,a1,a2,by rw[<-d2];exact d1,λha=>?_,o2,?_⟩
     ·have:=o1 ha
      rw[d2]at this;have p5:=JUX (k-b);rw[Int.mul_emod,p5]at this;omega
     ·rcases v2 with v2|v2
      ·rw[v2,LD,Int.mul_one]at v1
       have:=qu (show a<=62 by omega)
       have h62:(2:Int)^62=4611686018427387904:=by decide
       omega
      ·omega
theorem JMZ{nm:Nm}(ok:nm.Ok): -9223372036854775808<=nm.num.1.1/\nm.num.1.1<=9223372036854775807/\0<=nm.num.1.2/\nm.num.1.2<=9223372036854775807:=by
 have h18:(10:Int)^18=1000000000000000000:=by decide
 unfold Nm.num;simp only
 have hdig:∀c∈nm.wr.digits,KD c=true:=by
  intro c hc;rcases List.mem_append.1 (show c∈nm.d1++nm.fr from hc)with h|h
  ·exact Ak.1 ok.d1 c h
  ·exact Ak.1 ok.fr c h
 generalize nm.wr=wr at*;unfold JUU;simp only
 split
 ·simp
 ·rename_i hne
  split
  ·simp
  ·rename_i h18'
   have hsub:∀c∈wr.digits.dropWhile (· ==48),KD c=true:=λc hc=>hdig c ((BH _).subset hc)
   have hhead:∀c t,wr.digits.dropWhile (· ==48)=c::t->c≠48:=by
    intro c t e
    have:∀l:List Int,∀c t,l.dropWhile (· ==48)=c::t->c≠48:=by
     intro l
     induction l with
     |nil=>intro c t h;cases h
     |cons x l ih=>
      intro c t h
      cases hx:(x==(48:Int))with
      |true=>rw[Bz (p:=(· ==48)) hx]at h;exact ih c t h
      |false=>
       rw[Bn (p:=(· ==48)) (by simp[hx])]at h
       cases h;simpa using hx
    exact this _ c t e
   generalize wr.digits.dropWhile (· ==48)=d at*
   obtain⟨c,t,rfl⟩:∃c t,d=c::t:=by
    cases d with
    |nil=>exact absurd rfl hne
    |cons c t=>exact⟨c,t,rfl⟩
   obtain⟨v0,v1⟩:=JVo hsub (hhead c t rfl) om;generalize GB 0 (core (c::t))=M at*;generalize wr.exp-wr.behind+(((c::t).length:Int)-((core (c::t)).length:Int))=e at*
   cases hs:JAD M e with
   |none=>simp[turn]
   |some nd=>
    obtain⟨N,D⟩:=nd;simp only[turn]
    have hb:1<=N/\N<=9223372036854775807/\0<=D/\D<=9223372036854775807:=by
     rcases JOO v0 v1 hs with⟨rfl,hN,hN2,hN1⟩|⟨he,hN1,hNM,a,b,k,ha,hb,hD,hak,hbk,hM,o2,o5,hD2⟩
     ·omega
     ·have pa:=pow_pos (x:=2) om a
      have pb:=pow_pos (x:=5) om b;have:0<=D:=by rw[hD];exact Int.mul_nonneg om om
      omega
    cases wr.below<;>simp<;>omega
theorem JAW:∀(n:Nat) (s:List Int),(QQ n s).1.length+(QQ n s).2.length<=s.length
 |0,s=>by simp[QQ]
 |n+1,[]=>by simp[QQ]
 |n+1,c::t=>by
  simp only[QQ]
  split
  ·have:=JAW n t
   simp only[Ae];omega
  ·split
   ·have:=JAW n (QM t).2
    have:=Gd t;simp only[Ae];omega
   ·simp
theorem zU(s:List Int):(Tok.name s).1.length+(Tok.name s).2.length<=s.length:=JAW _ s
theorem zV(sign:Int):∀(n:Nat) (s:List Int),(QY sign n s).2.1.length+(QY sign n s).2.2.length<=s.length
 |0,s=>by simp[QY]
 |n+1,[]=>by simp[QY]
 |n+1,c::t=>by
  simp only[QY]
  split
  ·simp
  ·split
   ·simp
   ·split
    ·cases t with
     |nil=>simp
     |cons d u=>
      simp only
      split
      ·have:=zV sign n u
       simp only[Ae];omega
      ·have:=zV sign n (QM (d::u)).2
       have:=Gd (d::u);simp only[Ae]at*;omega
    ·have:=zV sign n t
     simp only[Ae];omega
theorem JDd:∀(n:Nat) (s:List Int),(QZ n s).2.1.length+(QZ n s).2.2.length<=s.length
 |0,s=>by simp[QZ]
 |n+1,[]=>by simp[QZ]
 |n+1,c::t=>by
  simp only[QZ]
  split
  ·simp
  ·split
   ·have:=G8 t
    split
    ·simp only[Ai,AB,Ae]
     omega
    ·have:=Ge (QL t).length (QL t)
     simp only[JCP,Ai,Ae];omega
   ·split
    ·have:=Ge (c::t).length (c::t)
     simp only[JCP,Ai,Ae]at*;omega
    ·split
     ·split
      ·have:=JDd n (QM t).2
       have:=Gd t;simp only[Ae];omega
      ·have:=Ge (c::t).length (c::t)
       simp only[JCP,Ai,Ae]at*;omega
     ·have:=JDd n t
      simp only[Ae];omega
theorem JVp(x:Bool×List Int×List Int){n:Nat}(h:x.2.1.length+x.2.2.length<=n):(JCy x).text.length+x.2.2.length<=n:=by
 unfold JCy tk
 split
 ·exact h
 ·simp only[Ai];omega
theorem JYf(s:List Int):(QO s).2.length<=s.length:=by have:=congrArg List.length (JAG s);rw[Ao]at this;omega
theorem JR9(s:List Int)(hne:s≠[]):(WN s).1.text.length+(WN s).2.length<=s.length:=by
 unfold WN;simp only
 split
 ·have:=G8 s
  simp only[tk,Ai];omega
 ·split
  ·have h1:=zV (chr s 0) (s.drop 1).length (s.drop 1)
   have h2:(s.drop 1).length<=s.length:=by rw[AB];omega
   show(JLk (txt (chr s 0) (s.drop 1))).text.length+(txt (chr s 0) (s.drop 1)).2.2.length<=_
   have h1:(txt (chr s 0) (s.drop 1)).2.1.length+(txt (chr s 0) (s.drop 1)).2.2.length<=(s.drop 1).length:=h1;unfold JLk tk
   split
   ·show(txt (chr s 0) (s.drop 1)).2.1.length+_<=_
    omega
   ·simp only[Ai];omega
  ·split
   ·simp only[tk,Ai,AB];omega
   ·split
    ·have h1:=JYf s
     unfold Yu;simp only
     split
     ·have:=zU (QO s).2
      simp only;omega
     ·split
      ·simp only[Ai,AB];omega
      ·simp only[Ai];omega
    ·split
     ·simp only[tk,Ai,AB];omega
     ·split
      ·simp only[tk,Ai,AB];omega
      ·split
       ·have h1:=zU (s.drop 1)
        rw[AB]at h1;simp only;omega
       ·split
        ·have h1:=zU (s.drop 1)
         rw[AB]at h1;simp only[tk];omega
        ·split
         ·have h1:=zU s
          unfold word;simp only
          split
          ·split
           ·have h2:=JLl ((Tok.name s).2.drop 1)
            rw[AB]at h2;have h3:=JDd (QL (WH ((Tok.name s).2.drop 1))).length (QL (WH ((Tok.name s).2.drop 1)));have h4:=G8 (WH ((Tok.name s).2.drop 1))
            have key:∀q:Bool,(if q=true then(tk 2 (Tok.name s).1,WH ((Tok.name s).2.drop 1))else(JCy (url (WH ((Tok.name s).2.drop 1))),(url (WH ((Tok.name s).2.drop 1))).2.2)).1.text.length+
              (if q=true then(tk 2 (Tok.name s).1,WH ((Tok.name s).2.drop 1))else(JCy (url (WH ((Tok.name s).2.drop 1))),(url (WH ((Tok.name s).2.drop 1))).2.2)).2.length<=s.length:=by
             intro q
             cases q with
             |true=>rw[if_pos rfl];show(Tok.name s).1.length+(WH ((Tok.name s).2.drop 1)).length<=_;omega
             |false=>
              rw[if_neg (by simp)]
              exact JVp _ (Nat.le_trans h3 om)
            exact key _
           ·simp only[tk,AB];omega
          ·simp only[tk];omega
         ·cases s with
          |nil=>exact absurd rfl hne
          |cons c t=>simp only[tk,Ae,Ai,List.drop_succ_cons,List.drop_zero];omega
def zW:List Tk->Nat
 |[]=>0
 |t::l=>t.text.length+zW l
theorem JMa:∀(n:Nat) (s:List Int),s.length<=n->zW (toks s)+(toks s).length<=2*s.length
 |0,s,h=>by
  have:s=[]:=Ar om;subst this
  exact Ad _
 |n+1,s,h=>by
  have hl:=JBM s;rw[JYe];by_cases h0:HV s=[]
  ·rw[if_pos h0]
   exact B9 _
  ·rw[if_neg h0]
   have hlt:=yz h0;have hs:=JR9 (HV s) h0;have:=JMa n (WN (HV s)).2 om;simp only[zW,Ae];omega
abbrev JVq(t:Tk):Prop:= -9223372036854775808<=t.num.1/\t.num.1<=9223372036854775807/\0<=t.num.2/\t.num.2<=9223372036854775807
theorem WB{t:Tk}(h:t.num=(0,0)):JVq t:=by unfold JVq;rw[h];omega
theorem JOP(s:List Int):JVq (WN s).1:=by
 unfold WN;simp only
 split
 ·exact WB rfl
 ·split
  ·exact WB (by unfold JLk;split<;>rfl)
  ·split
   ·exact WB rfl
   ·split
    ·rename_i hn
     have hb:=JMZ (JJt hn);unfold Yu;simp only
     split
     ·exact hb
     ·split
      ·exact hb
      ·exact hb
    ·split
     ·exact WB rfl
     ·split
      ·exact WB rfl
      ·split
       ·exact WB rfl
       ·split
        ·exact WB rfl
        ·split
         ·refine WB ?_
          unfold word;simp only
          split
          ·split
           ·have key:∀q:Bool,(if q=true then(tk 2 (Tok.name s).1,WH ((Tok.name s).2.drop 1))else(JCy (url (WH ((Tok.name s).2.drop 1))),(url (WH ((Tok.name s).2.drop 1))).2.2)).1.num=(0,0):=by
             intro q
             cases q with
             |true=>rw[if_pos rfl]<;>rfl
             |false=>rw[if_neg (by simp)];unfold JCy;split<;>rfl
            exact key _
           ·rfl
          ·rfl
         ·exact WB rfl
theorem JJB:∀(n:Nat) (s:List Int),∀t∈toksN n s,JVq t
 |0,s=>λt ht=>by cases ht
 |n+1,s=>by
  intro t ht;simp only[toksN]at ht
  split at ht
  ·cases ht
  ·rcases AP.1 ht with rfl|ht
   ·exact JOP _
   ·exact JJB n _ t ht
end Go.Lift.Spell
end

section
open Go.Proofs
namespace Go.Lift.Y1
open Rul
open Utf (By)
variable{lo:Nat}{h:JG}
def ofK(t:Tok.Tk):Rul.Tk4:=⟨t.kind,Utf.Yr t.text,t.num.1,t.num.2,t.whole,t.id⟩
theorem JVr(l:List Tok.Tk):l.map P.T.tkC=(l.map ofK).map Rul.row:=by rw[B1]<;>rfl
theorem JVs{l:List Tok.Tk}{t:Tok.Tk}(h:t∈l):t.text.length<=Spell.zW l:=by
 induction l with
 |nil=>cases h
 |cons x l ih=>
  simp only[Spell.zW];rcases AP.1 h with rfl|h
  ·omega
  ·have:=ih h;omega
theorem JVt{b:List Int}(hl:b.length<=16384):((P.T.jd b).map ofK).length<=2097152/\((P.T.jd b).map ofK).length<=32768/\ ∀t∈(P.T.jd b).map ofK,okT t:=by
 have hd:((Utf.decode b).map Utf.K7).length<=16384:=by rw[Aq];have:=P.T.JDa b;omega
 have hs:=Spell.JMa _ ((Utf.decode b).map Utf.K7) (Ad _);have hw:=Spell.JJB ((Utf.decode b).map Utf.K7).length ((Utf.decode b).map Utf.K7);unfold P.T.jd;refine⟨by rw[Aq];omega,by rw[Aq];omega,λx hx=>?_⟩
 obtain⟨t,ht,rfl⟩:=AM.1 hx;have h1:=JVs ht
 have h2:(Utf.Yr t.text).length<=4*t.text.length:=by
  generalize t.text=L
  induction L with
  |nil=>simp[Utf.Yr]
  |cons x L ih=>have:=P.T.JMT (Utf.K7 x);rw[Utf.JQr,Ao,Ae];omega
 have h3:=hw t ht;unfold Spell.JVq at h3;exact⟨Utf.JJi _,by show(Utf.Yr t.text).length<=_;omega,⟨h3.1,h3.2.1⟩,by show _<=t.num.2/\t.num.2<=_;omega⟩
mutual
theorem JYh:∀v:CV,JR5 okT v->YQ v
 | .mk t kids,hv=>by rw[JR5]at hv;rw[YQ];exact⟨hv.1,JDe kids hv.2⟩
theorem JDe:∀l:List CV,JKS okT l->QG l
 |[],_=>by rw[QG];trivial
 |v::r,hl=>by rw[JKS]at hl;rw[QG];exact⟨JYh v hl.1,JDe r hl.2⟩
end
theorem JVu(j:Nat)(hj:j<14):∃p,tblP[j]? =some p:=⟨tblP[j]'hj,Ac hj⟩
theorem JVv(s:ByteArray):∃l:List Int,By l/\s=Rul.bs l/\l.length=s.size:=by
 refine⟨s.data.toList.map λc=>(c.toNat:Int),?_,?_,?_⟩
 ·intro c hc
  obtain⟨x,_,rfl⟩:=AM.1 hc;have:=x.toNat_lt;omega
 ·apply ByteArray.ext
  unfold Rul.bs YK;simp only[B1];apply Array.toList_inj.1
  conv=>lhs;rw[<-List.map_id s.data.toList]
  apply List.map_congr_left;intro c _;simp
 ·rw[Aq,Array.length_toList]<;>rfl
theorem JSA:(tblP.all λp=>decide (p.n.size<=1000))=true:=kr
theorem JVw(pl:Int):∃j:Nat,j<14/\(pl.tmod 14+14).tmod 14=(j:Int)/\ -14<pl.tmod 14/\pl.tmod 14<14:=by
 have h1:=Int.tmod_lt_of_pos pl (show(0:Int)<14 by decide)
 have h2: -14<pl.tmod 14:=by
  have:=Int.lt_tmod_of_pos pl (show(0:Int)<14 by decide)
  omega
 have h3:(0:Int)<=pl.tmod 14+14:=om;refine⟨((pl.tmod 14+14).tmod 14).toNat,?_,?_,h2,h1⟩
 ·rw[Cj h3]
  have:=Int.emod_lt_of_pos (pl.tmod 14+14) (show(0:Int)<14 by decide)
  have:=Int.emod_nonneg (pl.tmod 14+14) (show(14:Int)≠0 by decide)
  omega
 ·rw[Cj h3]
  have:=Int.emod_nonneg (pl.tmod 14+14) (show(14:Int)≠0 by decide)
  omega
theorem f3a{pl:Int}{b:List Int}(hlo:lo<=h.length)(hb:¬b.length<=16384):E lo 3 [.v (.int .i64 pl),.list .no (ri .u8 b)] h=some (.v (.bool true),h):=by
 have q:decide ((16384:Int)<(b.length:Int))=true:=by rw[decide_eq_true_iff];omega
 have c5:=λlo h hlo=>f5k (lo:=lo) (h:=h) hlo
 rw[e3];simp only[go_sem,b3,Tryz.f3,hlo,q,c5]<;>rfl
theorem f3{pl:Int}{b:List Int}(hp0: -9223372036854775808<=pl)(hp1:pl<=9223372036854775807)(hlo:lo<=h.length)(hy:By b):E lo 3 [.v (.int .i64 pl),.list .no (ri .u8 b)] h=some (.v (.bool true),h):=by
 by_cases hb:b.length<=16384
 rotate_left
 ·exact f3a hlo hb
 have q:decide ((16384:Int)<(b.length:Int))=false:=by rw[decide_eq_false_iff_not];omega
 obtain⟨j,hj,hmod,g1,g2⟩:=JVw pl;obtain⟨p,hp⟩:=JVu j hj;obtain⟨name,hny,hn,hnl⟩:=JVv p.n;have hns:p.n.size<=1000:=of_decide_eq_true (Ak.1 JSA p (Aj hp));obtain⟨tl1,tl2,tok⟩:=JVt hb;have c8:=λlo h hlo=>P.T.f8 (lo:=lo) (h:=h) (b:=b) om hy hlo
 simp only[JVr]at c8;have c7:=λlo h hlo=>P.f7 (lo:=lo) (h:=h) (l:=(P.T.jd b).map ofK) hlo om
 have hnv:=JON ((P.T.jd b).map ofK);have ho:QG (JLQ ((P.T.jd b).map ofK)):=JDe _ (JR7 tok);have c6:=λlo h hlo=>f6 (lo:=lo) (h:=h) hlo
 generalize JLQ ((P.T.jd b).map ofK)=l at c7 hnv ho;have hl:JN l<=2000000:=om;obtain⟨nm,k,dn,low,ws,ck,a,b',w,kn,at',c21,c31,hat,hws,hkc⟩:=JRv name hny;have c9:=λlo h hlo=>f9 (lo:=lo) (h:=h) (n:=JN l) hlo hny om (Ad _) hl ho hws c21
 have c10:=λlo h hlo=>f10 (lo:=lo) (h:=h) (n:=JN l) hlo hny om (Ad _) hl ho hws c31 hat hkc
 obtain⟨kd,x,word,toks,e,hx,htk⟩:=JOH (kn:=kn) (low:=low) (k:=k) (ws:=ws) (name:=name) (n:=JN l) hl ho;generalize Hk kn k low ws name (JN l) l=r at c9 c10 e;obtain⟨r1,er⟩:=r;simp only at e;subst e;have l1:lo<=h.length+1:=om;have l2:lo<=h.length+1+1:=om;have c11:=λlo h hlo=>Jsq (lo:=lo) (h:=h) (kd:=kd) (x:=x) (word:=word) (l:=toks) hlo hx htk
 have c5:=λlo h hlo=>f5k (lo:=lo) (h:=h) hlo
 have q1:(er==er)=true:=by simp
 obtain⟨a1,a2,a3,a4,ep⟩:=zG p;have hgr:(tblP.map W6)[j]? =some (W6 p):=by simp[hp]
 rw[ep,hn]at hgr;have m0:¬((14:Int)=0):=by decide
 have w1:Am.wrap (pl.tmod 14)=pl.tmod 14:=by rw[JW om om]
 have w2:Am.wrap (pl.tmod 14+14)=pl.tmod 14+14:=by rw[JW om om]
 have w3:Am.wrap (j:Int)=(j:Int):=by rw[JW om om]
 have t1:Int.toNat (j:Int)=j:=om;obtain⟨ek,en,ed,eu,el⟩:=x;generalize toks.map row=R at c9 c10 c11;generalize tblP.map W6=TB at c6 hgr;generalize ((P.T.jd b).map ofK).map row=TK at c7 c8;simp only[Q9]at c9 c10 c11;rw[e3];simp only[go_sem,b3,Tryz.f3,hlo,l1,l2,q,c5,c6,c7,c8,c9,c10,c11,q1,m0,w1,w2,w3,hmod,t1,hgr]<;>rfl
end Go.Lift.Y1
end

section
open Go.Proofs
namespace Go.Lift.Y1
theorem tw0:evFun Aa hints primz0 200 0 128 [wd 0 0] []=some (wd 0 0,[]):=kr
theorem tw1:evFun Aa hints primz0 200 0 128 [wd 0 1] []=some (wd 0 2,[]):=kr
theorem tw2:evFun Aa hints primz0 200 0 128 [wd 0 2] []=some (wd 0 4,[]):=kr
theorem tw3:evFun Aa hints primz0 200 0 128 [wd 0 3] []=some (wd 0 6,[]):=kr
theorem ls0:evFun Aa hints primz0 200 0 126 [wd 0 0,wd 0 1] []=some (.v (.bool true),[]):=kr
theorem ls1:evFun Aa hints primz0 200 0 126 [wd 0 1,wd 0 1] []=some (.v (.bool false),[]):=kr
theorem gc0:evFun Aa hints primz0 200 0 104 [wd 0 6,wd 0 5] []=some (wd 0 1,[]):=kr
theorem gc1:evFun Aa hints primz0 200 0 104 [wd 0 1,wd 0 1] []=some (wd 0 1,[]):=kr
theorem gc2:evFun Aa hints primz0 200 0 104 [wd 0 0,wd 0 1] []=some (wd 0 1,[]):=kr
theorem q0:evFun Aa hints primB 200 0 45 [.v (.int .i64 6),.v (.int .i64 5)] []=some (rt 6 5,[]):=kr
theorem q1:evFun Aa hints primB 200 0 45 [.v (.int .i64 1),.v (.int .i64 1)] []=some (rt 1 1,[]):=kr
theorem q2:evFun Aa hints primB 200 0 45 [.v (.int .i64 0),.v (.int .i64 1)] []=some (rt 0 1,[]):=kr
theorem Js7:evFun Aa hints primz0 200 0 5 [] []=some (.v (.bool true),[]):=kr
end Go.Lift.Y1
end

section
namespace Go.Proofs
open Go.Shelf
def Tryz.lays157_ren:Go.Shelf.Ren:=⟨λ|157=>52|229=>87|199=>88|261=>114|311=>134|312=>135|n=>n,λ|9=>9|31=>26|3=>3|5=>5|4=>4|119=>131|0=>0|40=>119|152=>150|21=>21|154=>152|51=>153|141=>155|196=>169|193=>166|198=>172|49=>170|194=>167|201=>175|226=>185|46=>149|227=>186|n=>n,λ|0=>1|6=>2|n=>n⟩
theorem Tryz.lays157:Go.Proofs.Lays.n157 Aa Tryz.lays157_ren:={
 mixed:=kr
 f157:=Tryz.func52.trans (congrArg some kr)
 f199:=Tryz.func88.trans (congrArg some kr)
 f229:=Tryz.func87.trans (congrArg some kr)
 f261:=Tryz.func114.trans (congrArg some kr)
 f311:=Tryz.func134.trans (congrArg some kr)
 f312:=Tryz.func135.trans (congrArg some kr)
 t0:=Tryz.underlying0
 a0:=Tryz.isAgg0
 z0:=Tryz.sizeOf0
 v0:=Tryz.zeroValue0
 t3:=Tryz.underlying3
 a3:=Tryz.isAgg3
 z3:=Tryz.sizeOf3
 v3:=Tryz.zeroValue3
 t4:=Tryz.underlying4
 a4:=Tryz.isAgg4
 z4:=Tryz.sizeOf4
 v4:=Tryz.zeroValue4
 t5:=Tryz.underlying5
 a5:=Tryz.isAgg5
 z5:=Tryz.sizeOf5
 v5:=Tryz.zeroValue5
 t9:=Tryz.underlying9
 a9:=Tryz.isAgg9
 z9:=Tryz.sizeOf9
 v9:=Tryz.zeroValue9
 t21:=Tryz.underlying21
 a21:=Tryz.isAgg21
 z21:=Tryz.sizeOf21
 v21:=Tryz.zeroValue21
 t31:=Tryz.underlying26
 a31:=Tryz.isAgg26
 z31:=Tryz.sizeOf26
 v31:=Tryz.zeroValue26
 t40:=Tryz.underlying119
 a40:=Tryz.isAgg119
 z40:=Tryz.sizeOf119
 v40:=Tryz.zeroValue119
 t46:=Tryz.underlying149
 a46:=Tryz.isAgg149
 z46:=Tryz.sizeOf149
 v46:=Tryz.zeroValue149
 t49:=Tryz.underlying170
 a49:=Tryz.isAgg170
 z49:=Tryz.sizeOf170
 v49:=Tryz.zeroValue170
 t51:=Tryz.underlying153
 a51:=Tryz.isAgg153
 z51:=Tryz.sizeOf153
 v51:=Tryz.zeroValue153
 t119:=Tryz.underlying131
 a119:=Tryz.isAgg131
 z119:=Tryz.sizeOf131
 t141:=Tryz.underlying155
 a141:=Tryz.isAgg155
 z141:=Tryz.sizeOf155
 v141:=Tryz.zeroValue155
 t152:=Tryz.underlying150
 a152:=Tryz.isAgg150
 z152:=Tryz.sizeOf150
 v152:=Tryz.zeroValue150
 t154:=Tryz.underlying152
 a154:=Tryz.isAgg152
 z154:=Tryz.sizeOf152
 v154:=Tryz.zeroValue152
 t193:=Tryz.underlying166
 a193:=Tryz.isAgg166
 z193:=Tryz.sizeOf166
 v193:=Tryz.zeroValue166
 t194:=Tryz.underlying167
 a194:=Tryz.isAgg167
 z194:=Tryz.sizeOf167
 v194:=Tryz.zeroValue167
 t196:=Tryz.underlying169
 a196:=Tryz.isAgg169
 z196:=Tryz.sizeOf169
 v196:=Tryz.zeroValue169
 t198:=Tryz.underlying172
 a198:=Tryz.isAgg172
 z198:=Tryz.sizeOf172
 v198:=Tryz.zeroValue172
 t201:=Tryz.underlying175
 a201:=Tryz.isAgg175
 z201:=Tryz.sizeOf175
 v201:=Tryz.zeroValue175
 t226:=Tryz.underlying185
 a226:=Tryz.isAgg185
 z226:=Tryz.sizeOf185
 v226:=Tryz.zeroValue185
 t227:=Tryz.underlying186
 a227:=Tryz.isAgg186
 z227:=Tryz.sizeOf186
 v227:=Tryz.zeroValue186
 g0:=kr
 g6:=by kernel_rfl}
end Go.Proofs
end

section
namespace Go.Lift.Y1
open Go.Proofs Go.RowKit
def JYi:Array Value→Sem Value:=λargs=>do
  let(x,y,b)←Extern.MathBitsCarry.three "Sub64" args
  pure (Extern.MathBitsCarry.pair ((x+Extern.MathBitsCarry.m64-y-b)%Extern.MathBitsCarry.m64) (if x<y+b then 1 else 0))
theorem JVx(x y:Nat)(w:World):(JYi #[.int .u64 x,.int .u64 y,.int .u64 0]).run Aa w= .ok (.tuple #[.int .u64 (LEq ((x+2^64-y-0)%2^64)),.int .u64 (LEq (if x<y+0 then 1 else 0))]) w:=rfl
theorem JZi(x y:Nat)(h:y≤x)(hx:x<18446744073709551616):(LEq ((x+2^64-y-0)%2^64))=((x-y:Nat):Int)∧(LEq (if x<y+0 then 1 else 0))=0:=by
 refine⟨?_,?_⟩
 ·show(((x+2^64-y-0)%2^64:Nat):Int)=_
  congr 1
  omega
 ·rw[if_neg om]<;>rfl
theorem JYj(x y:Nat)(h:y≤x)(hx:x<18446744073709551616)(w:World):
  Calls Aa 127 #[.agg #[.int .u64 0,.int .u64 x],.agg #[.int .u64 0,.int .u64 y]] w λe w'=>e= .returned (.agg #[.int .u64 0,.int .u64 ((x-y:Nat):Int)])∧Below w.heap.size w w':=by
 have r1:=JVx x y;rw[(JZi x y h hx).1,(JZi x y h hx).2]at r1;have r2:∀w,(JYi #[.int .u64 0,.int .u64 0,.int .u64 0]).run Aa w= .ok (.tuple #[.int .u64 0,.int .u64 0]) w:=λw=>rfl
 go_enter Tryz.func127,Tryz.ntmps127
 go_wp2
 rw[run_callFunc_extern Tryz.func139 kr kr kr (e:=JYi) kr,r1];simp only[Result.andThen];rw[Oper.upon_value]
 go_wp2
 rw[run_callFunc_extern Tryz.func139 kr kr kr (e:=JYi) kr,r2];simp only[Result.andThen];rw[Oper.upon_value]
 go_wp2
 generalize hW:(((w.alloc (Obj.cells #[A9 Ba 0,A9 Ba ↑x] 118)).alloc (Obj.cells #[A9 Ba 0,A9 Ba ↑y] 118)).alloc (Obj.cells #[A9 Ba 0,A9 Ba ↑(x-y)] 118))=W
 have hb:Below w.heap.size w W:=by
  subst hW;refine⟨rfl,rfl,rfl,?_,λk hk=>?_⟩
  ·show _≤(((w.heap.push _).push _).push _).size
   simp;omega
  ·show(((w.heap.push _).push _).push _)[k]? =_
   rw[Array.getElem?_push_lt (by simp;omega),Array.getElem_push_lt (by simp;omega),Array.getElem_push_lt hk]
   exact(Array.getElem?_eq_getElem hk).symm
 have hh:W.heap[w.heap.size+1+1]? =some (Obj.cells #[A9 Ba 0,A9 Ba ↑(x-y)] 118):=by
  subst hW
  have e:((w.alloc (Obj.cells #[A9 Ba 0,A9 Ba ↑x] 118)).alloc (Obj.cells #[A9 Ba 0,A9 Ba ↑y] 118)).heap.size=w.heap.size+1+1:=by
   show((w.heap.push _).push _).size=_
   simp
  rw[←e];exact(MapKept.heap_alloc _ _).1
 have hl:=run_loadVar_mid (P:=Aa) W (w.heap.size+1+1) 0 118 [.int .u64 0,.int .u64 ((x-y:Nat):Int)] _ (λj v hj=>by
  match j,hj with
  |0,hj=>cases hj;simp[World.cell?,hh]
  |1,hj=>cases hj;simp[World.cell?,hh]
  |j+2,hj=>simp at hj) Tryz.underlying118 rfl kr
 refine⟨rfl,.agg #[.int .u64 0,.int .u64 ((x-y:Nat):Int)],?_,rfl,hb⟩
 rw[JB8,show Tryz.f127.results= #[.cell 4 118]from rfl]
 simp[JDs,asAddr,hl,Result.andThen]
theorem JYk{m:List Nat}{c:Cl}{w:World}{a:Value}{xs:Array Value}(h:R2 (VRr m c w) [.v a] xs.toList):xs= #[a]:=by
 obtain⟨l⟩:=xs
 match l,h.1 with
 |[x],_=>have h0:x=a:=h.2 0 _ _ rfl rfl;rw[h0]
theorem JYl{c:Cl}{w:World}{n:Nat}{cs:List V}(hg:ROs c w ⟨n,0,none⟩ cs){j:Nat}{x:Value}(hj:cs[j]? =some (.v x)):w.cell? ⟨n,j,none⟩=some x:=by obtain⟨_,h⟩:=hg;obtain⟨y,hy,hv⟩:=h j _ hj;rw[Nat.zero_add]at hy;rw[hy,VP.v_eq hv]
theorem JlU{m:List Nat}{c:Cl}{w:World}{h:JG}(hH:HOK m c w h):∀j,j<256→w.cell? ⟨1,j,none⟩=some (.int .u8 (if Go.Lib.isSp (B8 j)then 1 else 0)):=λj hj=>by
 have e:GTab.tab 1=some ((Bf 256).map λc=>V.v (.int .u8 (if Go.Lib.isSp (B8 c)then 1 else 0))):=rfl
 exact JYl (hH.1.gt 1 _ e) (by simp[hj])
theorem JSB{lo:Nat}{s:ByteArray}{h:JG}(hlo:lo≤h.length)(hs:s.size<4294967281)(ha:(s.data.toList.all λb=>decide (b.toNat<128))=true):
  KY Aa lo 52 [.v (.string s)] h (.list .no ((Go.Lib.fields s.data.toList).map λl=>[.v (.string ⟨l.toArray⟩)])) h:=by
 have k:=JNe (P:=Aa) (f:=52) (args:=[.v (.string s)]) (xs:=(Go.Lib.fields s.data.toList).map λl=>CK ⟨l.toArray⟩) hlo (enters_of Tryz.func52 kr rfl)
  (λx hx=>by obtain⟨l,_,rfl⟩:=AM.1 hx;rfl) λm c w ys hH hy=>by
  rw[JYk hy];refine(Any.strings_Fields_core (P:=Aa) (ρ:=Tryz.lays157_ren) Tryz.lays157 kr s w hs (λj b hb=>by simpa using Ak.1 ha b (Aj hb)) (JlU hH)).mono λe w' ⟨h1,h2⟩=>?_
  subst h2;have ka:=MapKept.heap_alloc w (.cells ((Go.Lib.fields s.data.toList).map λl=>CK ⟨l.toArray⟩).toArray (Tryz.lays157_ren.t 9))
  refine⟨w.heap.size,_,_,_,_,by rw[Aq];exact h1,Ad _,by rw[Aq];exact Ad _,ka.1,λi x hx=>by simpa using hx,rfl,rfl,rfl,?_,λk hk=>ka.2 k hk⟩
  show _≤(w.heap.push _).size
  simp
 rw[B1]at k;exact k
theorem JPl{m:List Nat}{c:Cl}{w:World}{a b:Value}{xs:Array Value}(h:R2 (VR1 m c w) [.v a,.v b] xs.toList):xs= #[a,b]:=by
 obtain⟨l⟩:=xs
 match l,h.1 with
 |[x,y],_=>have h0:x=a:=h.2 0 _ _ rfl rfl;have h1:y=b:=h.2 1 _ _ rfl rfl;rw[h0,h1]
theorem Jex{lo:Nat}{x y:Int}{h:JG}(hlo:lo≤h.length)(h0:0≤y)(h1:y≤x)(h2:x<18446744073709551616):
  KY Aa lo 127 [.agg [.v (.int .u64 0),.v (.int .u64 x)],.agg [.v (.int .u64 0),.v (.int .u64 y)]] h (.agg [.v (.int .u64 0),.v (.int .u64 (x-y))]) h:=
 CallOK0.ok ⟨rfl,enters_of Tryz.func127 kr rfl,λm c w ys hH hy=>⟨⟨rfl,rfl,Keeps.refl _ _⟩,by
  have hys:ys= #[.agg #[.int .u64 0,.int .u64 x],.agg #[.int .u64 0,.int .u64 y]]:=by
   obtain⟨l⟩:=ys
   match l,hy.1 with
   |[p,q],_=>have e1:VRr m c w (.agg [.v (.int .u64 0),.v (.int .u64 x)]) p:=hy.2 0 _ _ rfl rfl;have e2:VRr m c w (.agg [.v (.int .u64 0),.v (.int .u64 y)]) q:=hy.2 1 _ _ rfl rfl;obtain⟨xs,rfl,r1⟩:=e1;obtain⟨zs,rfl,r2⟩:=e2;rw[JPl r1,JPl r2]
  obtain⟨a,rfl⟩:∃a:Nat,x=a:=⟨x.toNat,om⟩;obtain⟨b,rfl⟩:∃b:Nat,y=b:=⟨y.toNat,om⟩;rw[hys];refine(JYj a b om om w).mono λe w' ⟨h1',hb⟩=>?_
  have hI:=jH (vars:=[]) (args:=[]) (xs:= #[]) (nt:=0) (lo:=lo) hH R2.nil (by rfl) (Ad _) hlo
  have hI':=hI.grown (c':=c) (w':=w') none hb.size (λk hk _=>⟨hb.block k hk,rfl⟩) (λk hk=>by cases hk) (λk hk _ h0=>by rw[hI.core.c_zero hk]at h0;omega) hb.os hb.tape hb.output
  refine⟨_,c,h1',⟨_,rfl,?_⟩,hI'.hok,hI'.fr,hI'.owned⟩
  have e:((a-b:Nat):Int)=(a:Int)-b:=om;rw[e]
  exact R2.cons rfl (R2.cons rfl R2.nil)⟩⟩
theorem QC:∀f p,primz0 f=some p→ ∀lo args h r h',lo≤h.length→p lo args h=some (r,h')→KY Aa lo f args h r h':=by
 intro f p hp lo args h r h' hlo he;unfold primz0 at hp
 split at hp
 ·cases hp
  unfold Hb at he
  split at he
  ·split at he
   ·rename_i hc
    cases he;exact JSB hlo hc.1 hc.2
   ·cases he
  ·cases he
 ·cases hp
  unfold JXM at he
  split at he
  ·split at he
   ·rename_i hc
    obtain⟨rfl,rfl,h0,h1,h2⟩:=hc;cases he;exact Jex hlo h0 h1 h2
   ·cases he
  ·cases he
 ·cases hp
theorem follows:Aa.follows .mixedOrders=true:=kr
theorem Yl{prim:Nat→Option (Nat→List V→JG→Option (V×JG))}(hp:∀f p,prim f=some p→ ∀lo args h r h',lo≤h.length→p lo args h=some (r,h')→KY Aa lo f args h r h'){n f:Nat}{args:List V}{r:V}
  (he:evFun Aa hints prim n 0 f args []=some (r,[])):KY Aa 0 f args [] r []:=JSu follows hp n 0 f args [] r [] (Ad _) he
theorem JKQ:∀p∈twM,KY Aa 0 128 p.1 [] p.2 []:=by unfold twM;simp only[AP,BG,or_false,forall_eq_or_imp,forall_eq];exact⟨Yl QC tw0,Yl QC tw1,Yl QC tw2,Yl QC tw3⟩
theorem Jey:∀p∈lsM,KY Aa 0 126 p.1 [] p.2 []:=by unfold lsM;simp only[AP,BG,or_false,forall_eq_or_imp,forall_eq];exact⟨Yl QC ls0,Yl QC ls1⟩
theorem Jez:∀p∈gcM,KY Aa 0 104 p.1 [] p.2 []:=by unfold gcM;simp only[AP,BG,or_false,forall_eq_or_imp,forall_eq];exact⟨Yl QC gc0,Yl QC gc1,Yl QC gc2⟩
theorem zX:∀f p,primA f=some p→ ∀lo args h r h',lo≤h.length→p lo args h=some (r,h')→KY Aa lo f args h r h':=by
 intro f p hp lo args h r h' hlo he;unfold primA at hp
 split at hp
 ·cases hp
  exact HU JKQ kr lo args h r h' hlo he
 ·cases hp
  exact HU Jey kr lo args h r h' hlo he
 ·cases hp
  exact QC 52 _ rfl lo args h r h' hlo he
 ·cases hp
  exact QC 127 _ rfl lo args h r h' hlo he
 ·cases hp
theorem Je0:∀p∈dvM,KY Aa 0 105 p.1 [] p.2 []:=by unfold dvM;simp only[AP,BG,or_false,forall_eq_or_imp,forall_eq];exact⟨Yl zX dv0,Yl zX dv1,Yl zX dv2,Yl zX dv3⟩
theorem JDf:∀f p,primB f=some p→ ∀lo args h r h',lo≤h.length→p lo args h=some (r,h')→KY Aa lo f args h r h':=by
 intro f p hp lo args h r h' hlo he;unfold primB at hp
 split at hp
 ·cases hp
  exact HU Jez kr lo args h r h' hlo he
 ·cases hp
  exact HU Je0 kr lo args h r h' hlo he
 ·cases hp
  exact QC 52 _ rfl lo args h r h' hlo he
 ·cases hp
  exact QC 127 _ rfl lo args h r h' hlo he
 ·cases hp
theorem JlV:∀p∈qM,KY Aa 0 45 p.1 [] p.2 []:=by unfold qM;simp only[AP,BG,or_false,forall_eq_or_imp,forall_eq];exact⟨Yl JDf q0,Yl JDf q1,Yl JDf q2⟩
theorem JYm:∀p∈JT6,KY Aa 0 5 p.1 [] p.2 []:=by unfold JT6;simp only[AP,BG,or_false,forall_eq];exact Yl QC Js7
theorem JYn:∀f p,primz f=some p→ ∀lo args h r h',lo≤h.length→p lo args h=some (r,h')→KY Aa lo f args h r h':=by
 intro f p hp lo args h r h' hlo he;unfold primz at hp
 split at hp
 ·cases hp
  exact HU JYm kr lo args h r h' hlo he
 ·cases hp
  exact QC 52 _ rfl lo args h r h' hlo he
 ·cases hp
  exact HU JlV kr lo args h r h' hlo he
 ·cases hp
end Go.Lift.Y1
end

section
namespace Go.Proofs.YtolidijpmnompaaGreatDoor
open Go.Lift Go.Lift.Y1 Go.ChangeShapes Go.WideShapes Go.ChangeAt Go.RowKit
theorem Je1(H:Type):IsBulk (H:=H) Rows.uptoBulk Rows.uptoBulkAll:=
 ⟨rfl,λ_ _=>rfl,λ_=>rfl,λ_=>rfl,λ_ _=>rfl,rfl,λe s=>by show Rows.uptoBulkAll e+1≤Rows.uptoBulkAll e+Rows.uptoBulkAll s+1;omega,λ_=>rfl⟩
theorem own:ownKnob Aa.godebug=none:=kr
theorem JYo:laidOutB Aa=true:=kr
theorem JVy{w:World}{g:Nat}{cs:List V}(h:∀(j:Nat) v,cs[j]? =some v→ ∃x,w.cell? ⟨g,j,none⟩=some x∧VP (Kl w) w v x):ROs (Kl w) w ⟨g,0,none⟩ cs:=by
 refine⟨?_,λj v hj=>by simpa using h j v hj⟩
 cases cs with
 |nil=>exact B9 _
 |cons c t=>
  have hl:(c::t)[t.length]? =some ((c::t)[t.length]'(by simp)):=Ac (by simp)
  obtain⟨x,hx,_⟩:=h t.length _ hl;unfold World.cell? at hx;unfold Kl;simp only at hx⊢
  split at hx
  ·rename_i arr e f he
   rw[he];simp only[Ae];have:=(Array.getElem?_eq_some_iff.1 hx).1
   omega
  ·cases hx
theorem JOQ:(Rows.laid_jalousie_jalousieref3_kinds:DataW Unit)=Lib.tabData .i64 [21,22,19,20,23,24,18,16,17]:=rfl
theorem JOR:(Rows.laid_strings_asciiSpace:DataW Unit)=Lib.tabData .u8 Lib.asciiSpaceTab:=kr
theorem JJC{w:World}{name:String}{k:IntKind}{zs:List Int}{g:Nat}{t e:TypeId}{n:Nat}(hn:Aa.globalNamed name=some g)(hy:(Aa.globals[g]?).map (·.type)=some t)
  (ht:Aa.underlying t=some (.array n e))(he:Aa.underlying e=some (.int k))(hce:Aa.cellsOf e=1)(hct:Aa.cellsOf t=n)(h:Lib.VarReads Aa w name (Lib.tabData k zs)):
  ∀(j:Nat) (z:Int),zs[j]? =some z→w.cell? ⟨g,j,none⟩=some (.int k z):=λj z hz=>by
 obtain⟨g',t',cs,fuel,p,h1,h2,h3,h4⟩:=h;obtain rfl:=Bh (hn.symm.trans h1);obtain rfl:=Bh (hy.symm.trans h2);have hcs:=Lib.cells_of_tab ht he hce hct h4;have:=World.var?_cell hn h3 j
 rw[this,←Array.getElem?_toList,hcs]
 simp[hz]
theorem gok{W:World}(hk:Lib.VarReads Aa W "jalousie/jalousieref3.kinds" Rows.laid_jalousie_jalousieref3_kinds) (hs:Lib.VarReads Aa W "strings.asciiSpace" Rows.laid_strings_asciiSpace):GOK W:=by
 rw[JOQ]at hk;rw[JOR]at hs;intro n cs hc;have e:GTab.tab n=gtab.1 n:=rfl;rw[e]at hc;unfold gtab at hc;simp only at hc
 split at hc
 ·have c0:=JJC (g:=1) (t:=131) (e:=5) (n:=256) kr kr kr kr kr kr hs
  cases hc;refine JVy λj v hj=>?_
  simp only[An,Option.map_eq_some_iff]at hj
  obtain⟨k,hk2,rfl⟩:=hj;obtain⟨hj1,rfl⟩:=List.getElem?_eq_some_iff.1 hk2
  simp only[List.length_range]at hj1;rw[List.getElem_range];exact⟨_,c0 j _ (by unfold Lib.asciiSpaceTab;rw[An,List.getElem?_range hj1]<;>rfl),.v _ rfl⟩
 ·have c0:=JJC (g:=0) (t:=120) (e:=3) (n:=9) kr kr kr kr kr kr hk
  cases hc;refine JVy λj v hj=>?_
  have hj2:(([21,22,19,20,23,24,18,16,17]:List Int).map λz=>V.v (.int .i64 z))[j]? =some v:=hj
  simp only[An,Option.map_eq_some_iff]at hj2
  obtain⟨k,hk2,rfl⟩:=hj2;exact⟨_,c0 j k hk2,.v _ rfl⟩
 ·cases hc
noncomputable def JAX(os:Os):World:=
 let N:=(World.settled Aa os).heap.size
 let w0:=World.holding Aa os ⟨#[.cells ([9,13,1,32,133,101,160,5760,5600,8192,8202,1,8232,8233,1,8239,8287,48,12288,12288,1].map λz=>A9 .u16 z).toArray 172,.cells #[.slice (some ⟨N,0,none⟩) 7 7,.slice none 0 0,.int .i64 2] 169],#[],[]⟩
 let put (h:Array Obj) (g:Nat) (cs:Array Value):Array Obj:=h.modify g fun
  | .cells _ t frozen=> .cells cs t frozen
  |o=>o
 let h1:=put w0.heap 1 (Lib.asciiSpaceTab.map λz=>A9 .u8 z).toArray
 let h2:=put h1 0 ([21,22,19,20,23,24,18,16,17].map λz=>A9 .i64 z).toArray
 let h3:=put h2 2 #[.pointer (some ⟨N+1,0,none⟩)]
 {w0 with heap:=h3}
theorem JlW(os:Os)(args:Array Value):LaidIn Aa ((JAX os).forCall (λ_ _=>0) ⟨#[],args,[]⟩).memory [("jalousie/jalousieref3.kinds",Rows.laid_jalousie_jalousieref3_kinds),("unicode.White_Space",Rows.laid_unicode_White_Space),("strings.asciiSpace",Rows.laid_strings_asciiSpace)] (Bf 200):=
 LaidIn.of_run (Bf 200) 8 kr kr kr kr
theorem Je2{t:TypeId}{k:IntKind}{p:List V}(ht:Aa.underlying t=some (.int k))(h:Ty Aa t p):∃n,p=[.v (.int k n)]∧(Lit.int k n).wf=true:=by
 cases h with
 |int k' n hu hw=>rw[ht]at hu;cases hu;exact⟨n,rfl,hw⟩
 |bool b hu=>rw[ht]at hu;cases hu
 |string s hu=>rw[ht]at hu;cases hu
 |slice rows hu _=>rw[ht]at hu;cases hu
 |struct fs cells hu _=>rw[ht]at hu;cases hu
theorem JlX{n:Int}(h:(Lit.int .i64 n).wf=true): -9223372036854775808≤n∧n≤9223372036854775807:=by simp[Lit.wf,IntKind.min,IntKind.max,IntKind.signed,IntKind.bits]at h;omega
end Go.Proofs.YtolidijpmnompaaGreatDoor
end

section
namespace Go.Proofs.YtolidijpmnompaaGreatDoor
theorem KQ{a b:Bool}(ha:a=true)(hb:b=true):(a&&b)=true:=by rw[ha,hb]<;>rfl
theorem JlY:laidOutB Aa=true:=kr
theorem JlZ:mapsRowed Aa=true:=kr
theorem Jla:(Aa.stops==[])=true:=kr
theorem Jlb:(Aa.stopKnobs==[])=true:=kr
theorem Je3:(Rows.propReadsUptoRow.plainKeys==Aa.plainKeys)=true:=kr
theorem Je4:Aa.stopsHeard=true:=kr
theorem Je5:Aa.mayEnter=true:=kr
theorem Je6:(Rows.propReadsUptoRow.lifted==Aa.liftsFinal)=true:=kr
theorem Je7:(Aa.make==some Rows.propReadsUptoRow.make)=true:=kr
end Go.Proofs.YtolidijpmnompaaGreatDoor
end
