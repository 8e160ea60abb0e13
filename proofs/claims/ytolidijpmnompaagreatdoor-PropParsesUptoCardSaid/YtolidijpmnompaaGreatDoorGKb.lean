/- prop.table, prop.places, prop.Place. -/
import Derived.ProofKit
import Derived.Lib.TrailingZeros
import Derived.Lib.ItoaNum
import Derived.Test.YtolidijpmnompaaGreatDoorGLd
import Derived.Test.YtolidijpmnompaaGreatDoorGKa
import Derived.Test.YtolidijpmnompaaGreatDoorGK3Basea
open Bool renaming and_eq_true->Af,eq_iff_iff->BJ,false_and->An,false_or->A2,true_and->Au
open ByteArray renaming ext->Lp,get! ->Ln,size->Dm
open Go.IntKind renaming bits->CK,i64->AQ,signed->CL,u64->Bm,u8->Dg,wrap->Df
open Go.Proofs.Tryz renaming prog->Aa
open Int renaming toNat->Bp,toNat_natCast->BT
open List renaming append_nil->AH,dropWhile_cons->AV,dropWhile_sublist->CC,dropWhile_suffix->BC,drop_eq_getElem_cons->Ap,drop_zero->AJ,eq_nil_of_length_eq_zero->AG,getElem?_eq_getElem->Ac,getElem?_eq_some_iff->Ab,getElem?_map->Am,length_cons->Ai,length_map->Ao,length_nil->Ak,length_reverse->DU,length_take->As,map_congr_left->AU,map_nil->BG,mem_cons->A1,mem_cons_of_mem->AW,mem_cons_self->Be,mem_map->AC,mem_of_getElem? ->Ah,mem_reverse->B5,mem_singleton->AL,nil_append->Aq,not_mem_nil->BK,take_length->BQ,take_of_length_le->BS
open Nat renaming add_zero->Bn,gcd->CM,le_refl->Ag,zero_add->AA
open Option renaming map_some->AD
open UInt8 renaming toNat_ofNat'->Dn
set_option linter.unusedVariables false
set_option linter.unusedSimpArgs false
set_option linter.unusedSectionVars false
set_option maxRecDepth 100000
set_option maxHeartbeats 4000000
section
open Go.Proofs
namespace Go.Lift.Y1
variable{lo:Nat}{h:JM}
structure PR where
 n:ByteArray
 k:Int
 d:Bool
 l:Bool
 w:ByteArray
 ini:ByteArray
 nu:Int
 de:Int
def tblP:List PR:=[
 ⟨⟨#[99,111,108,111,114]⟩,3,true,false,⟨#[98,108,97,99,107,32,119,104,105,116,101,32,114,101,100,32,103,114,101,101,110,32,98,108,117,101,32,116,114,97,110,115,112,97,114,101,110,116]⟩,⟨#[98,108,97,99,107]⟩,0,0⟩,
 ⟨⟨#[100,105,115,112,108,97,121]⟩,3,false,false,⟨#[105,110,108,105,110,101,32,98,108,111,99,107,32,110,111,110,101,32,102,108,101,120,32,103,114,105,100]⟩,⟨#[105,110,108,105,110,101]⟩,0,0⟩,
 ⟨⟨#[102,111,110,116,45,115,105,122,101]⟩,1,true,false,⟨#[]⟩,⟨#[]⟩,16,1⟩,
 ⟨⟨#[103,97,112]⟩,1,false,false,⟨#[]⟩,⟨#[]⟩,0,1⟩,
 ⟨⟨#[104,101,105,103,104,116]⟩,1,false,false,⟨#[97,117,116,111]⟩,⟨#[97,117,116,111]⟩,0,0⟩,
 ⟨⟨#[108,101,102,116]⟩,1,false,true,⟨#[97,117,116,111]⟩,⟨#[97,117,116,111]⟩,0,0⟩,
 ⟨⟨#[108,105,110,101,45,104,101,105,103,104,116]⟩,2,true,false,⟨#[]⟩,⟨#[]⟩,6,5⟩,
 ⟨⟨#[109,97,114,103,105,110]⟩,1,false,true,⟨#[97,117,116,111]⟩,⟨#[]⟩,0,1⟩,
 ⟨⟨#[111,112,97,99,105,116,121]⟩,2,false,false,⟨#[]⟩,⟨#[]⟩,1,1⟩,
 ⟨⟨#[111,114,100,101,114]⟩,2,false,true,⟨#[]⟩,⟨#[]⟩,0,1⟩,
 ⟨⟨#[112,97,100,100,105,110,103]⟩,1,false,false,⟨#[]⟩,⟨#[]⟩,0,1⟩,
 ⟨⟨#[116,101,120,116,45,97,108,105,103,110]⟩,3,true,false,⟨#[115,116,97,114,116,32,101,110,100,32,99,101,110,116,101,114]⟩,⟨#[115,116,97,114,116]⟩,0,0⟩,
 ⟨⟨#[118,105,115,105,98,105,108,105,116,121]⟩,3,true,false,⟨#[118,105,115,105,98,108,101,32,104,105,100,100,101,110,32,99,111,108,108,97,112,115,101]⟩,⟨#[118,105,115,105,98,108,101]⟩,0,0⟩,
 ⟨⟨#[119,105,100,116,104]⟩,1,false,false,⟨#[97,117,116,111]⟩,⟨#[97,117,116,111]⟩,0,0⟩]
def JAH(p:PR):List V:=[.v (.string p.n),.v (.int .i64 p.k),.v (.bool p.d),.v (.bool p.l),.v (.string p.w),.v (.string p.ini),.v (.int .i64 p.nu),.v (.int .i64 p.de)]
theorem f51:E lo 51 [] h=some (.list .no (tblP.map JAH),h):=by rw[e51];simp only[go_sem,b51,Tryz.f51]<;>rfl
@[go_sem] theorem Jju(b:Nat):Ji (.mp b)= .mp b:=rfl
@[go_sem] theorem Jjv(b:Nat):Jy (.mp b)= .mp b:=rfl
@[go_sem] theorem Jjw(b:Nat):own1 (.mp b)= .mp b:=rfl
@[go_sem] theorem Jjx(b:Nat):cps (.mp b)= .mp b:=rfl
@[go_sem] theorem Jjy(b:Nat):fzs (.mp b)= .mp b:=rfl
@[go_sem] theorem Jnh(vars:List Nat)(t b:Nat):Q9 vars t (.mp b)=some (.mp b):=rfl
def Z5(k:Nat):List (Value×Value):=(tblP.take k).mapIdx λi p=>(.string p.n,.int .i64 i)
theorem Jjz:Gi Aa 9 (.string ⟨#[99,111,108,111,114]⟩) (.int .i64 ((0:Nat):Int)) (Z5 0)=some (Z5 1):=kr
theorem Jj0:Gi Aa 9 (.string ⟨#[100,105,115,112,108,97,121]⟩) (.int .i64 ((1:Nat):Int)) (Z5 1)=some (Z5 2):=kr
theorem Jj1:Gi Aa 9 (.string ⟨#[102,111,110,116,45,115,105,122,101]⟩) (.int .i64 ((2:Nat):Int)) (Z5 2)=some (Z5 3):=kr
theorem Jj2:Gi Aa 9 (.string ⟨#[103,97,112]⟩) (.int .i64 ((3:Nat):Int)) (Z5 3)=some (Z5 4):=kr
theorem Jj3:Gi Aa 9 (.string ⟨#[104,101,105,103,104,116]⟩) (.int .i64 ((4:Nat):Int)) (Z5 4)=some (Z5 5):=kr
theorem Jj4:Gi Aa 9 (.string ⟨#[108,101,102,116]⟩) (.int .i64 ((5:Nat):Int)) (Z5 5)=some (Z5 6):=kr
theorem Jj5:Gi Aa 9 (.string ⟨#[108,105,110,101,45,104,101,105,103,104,116]⟩) (.int .i64 ((6:Nat):Int)) (Z5 6)=some (Z5 7):=kr
theorem Jj6:Gi Aa 9 (.string ⟨#[109,97,114,103,105,110]⟩) (.int .i64 ((7:Nat):Int)) (Z5 7)=some (Z5 8):=kr
theorem Jj7:Gi Aa 9 (.string ⟨#[111,112,97,99,105,116,121]⟩) (.int .i64 ((8:Nat):Int)) (Z5 8)=some (Z5 9):=kr
theorem Jj8:Gi Aa 9 (.string ⟨#[111,114,100,101,114]⟩) (.int .i64 ((9:Nat):Int)) (Z5 9)=some (Z5 10):=kr
theorem Jcq:Gi Aa 9 (.string ⟨#[112,97,100,100,105,110,103]⟩) (.int .i64 ((10:Nat):Int)) (Z5 10)=some (Z5 11):=kr
theorem Jcr:Gi Aa 9 (.string ⟨#[116,101,120,116,45,97,108,105,103,110]⟩) (.int .i64 ((11:Nat):Int)) (Z5 11)=some (Z5 12):=kr
theorem Jcs:Gi Aa 9 (.string ⟨#[118,105,115,105,98,105,108,105,116,121]⟩) (.int .i64 ((12:Nat):Int)) (Z5 12)=some (Z5 13):=kr
theorem Jct:Gi Aa 9 (.string ⟨#[119,105,100,116,104]⟩) (.int .i64 ((13:Nat):Int)) (Z5 13)=some (Z5 14):=kr
theorem Jcu:∀k:Nat,k<14->∀p:PR,tblP[k]? =some p->Gi Aa 9 (.string p.n) (.int .i64 k) (Z5 k)=some (Z5 (k+1)):=by
 intro k hk p hp
 match k,hk with
 |0,_=>cases hp;exact Jjz
 |1,_=>cases hp;exact Jj0
 |2,_=>cases hp;exact Jj1
 |3,_=>cases hp;exact Jj2
 |4,_=>cases hp;exact Jj3
 |5,_=>cases hp;exact Jj4
 |6,_=>cases hp;exact Jj5
 |7,_=>cases hp;exact Jj6
 |8,_=>cases hp;exact Jj7
 |9,_=>cases hp;exact Jj8
 |10,_=>cases hp;exact Jcq
 |11,_=>cases hp;exact Jcr
 |12,_=>cases hp;exact Jcs
 |13,_=>cases hp;exact Jct
 |n+14,hk=>omega
abbrev N30(b:V)(k:Int):Jr:=[(1,b),(5,.list .no (tblP.map JAH)),(6,.v (.int .i64 14)),(7,.v (.int .i64 k))]
theorem r86{k:Nat}{p:PR}(hlo:lo<=h.length)(hk:k<14)(hp:tblP[k]? =some p):
  evCode ⟨Aa,E,lo,h.length,h86⟩ JA JBs (N30 (.mp h.length) k,h++[.tab (Z5 k)])=some (.normal,N30 (.mp h.length) (k+1:Nat),h++[.tab (Z5 (k+1))]):=by
 have l1:lo<=h.length+1:=om;have hput:=Jcu k hk p hp;have hgr:(tblP.map JAH)[k]? =some (JAH p):=by simp[hp]
 have q1:decide ((k:Int)<14)=true:=by rw[decide_eq_true_iff];omega
 have t1:Bp (k:Int)=k:=om;have w1:=Jd (i:=k) om;simp only[JAH,N30,go_sem,ji,JBs,b86,Tryz.f86,hlo,l1,q1,hgr,t1,w1,hput]<;>rfl
theorem JW1(hlo:lo<=h.length):evCode ⟨Aa,E,lo,h.length,h86⟩ JA JBs (N30 (.mp h.length) (14:Nat),h++[.tab (Z5 14)])=some (.exit 0,N30 (.mp h.length) (14:Nat)++[(8,.v (.bool false))],h++[.tab (Z5 14)]):=by have l1:lo<=h.length+1:=om;have q1:decide (((14:Nat):Int)<14)=false:=rfl;simp only[N30,go_sem,JBs,b86,Tryz.f86,hlo,l1,q1]<;>rfl
theorem JO4(hlo:lo<=h.length):∀n k:Nat,k+n=14->
  JA (evCode ⟨Aa,E,lo,h.length,h86⟩ JA JBs) (N30 (.mp h.length) k,h++[.tab (Z5 k)])=some (.exit 0,N30 (.mp h.length) (14:Nat)++[(8,.v (.bool false))],h++[.tab (Z5 14)])
 |0,k,hk=>by
  obtain rfl:k=14:=om
  rw[JJ,JW1 hlo,Jx]
 |n+1,k,hk=>by
  have hlt:k<tblP.length:=by show k<14;omega
  rw[JJ,r86 hlo om (Ac hlt),Jg]
  exact JO4 hlo n (k+1) om
theorem f86(hlo:lo<=h.length):E lo 86 [] h=some (.mp h.length,h++[.tab (Z5 14)]):=by
 have l1:lo<=h.length+1:=om;have c51:=λlo h=>f51 (lo:=lo) (h:=h)
 have hL:=JO4 (h:=h) hlo 14 0 rfl;have hn:((tblP.map JAH).length:Int)=14:=rfl;have e0:Z5 0=[]:=rfl;rw[e0]at hL;rw[e86 (by simp) (by rfl)]
 simp only[JBs,b86,Tryz.f86,JK,loops,JB,N30,go_sem]at hL;simp only[go_sem,b86,Tryz.f86,hlo,l1,c51,hn,hL]<;>rfl
def atL(s:ByteArray):List PR->Nat->Option Nat
 |[],_=>none
 |p::r,i=>if(s.toList==p.n.toList)=true then some i else atL s r (i+1)
def esL:List PR->Nat->List (Value×Value)
 |[],_=>[]
 |p::r,i=>(.string p.n,.int .i64 i)::esL r (i+1)
theorem JGy(s:ByteArray):∀(l:List PR) (i:Nat),Hv .string (.string s) (esL l i) i=some ((atL s l i).map λj=>(j,.int .i64 j))
 |[],_=>rfl
 |p::r,i=>by
  unfold esL Hv atL;simp only[JA9]
  cases q:s.toList==p.n.toList with
  |true=>simp
  |false=>simp[JGy s r (i+1)]
theorem JW2:Z5 14=esL tblP 0:=rfl
def JJY(s:ByteArray):V:=match atL s tblP 0 with
 |some i=> .tup [.v (.int .i64 i),.v (.bool true)]
 |none=> .tup [.v (.int .i64 0),.v (.bool false)]
def JDT(s:ByteArray):Int:=match atL s tblP 0 with
 |some i=>i
 |none=> -1
theorem Jcv:JJ0 Aa 3=some (.int .i64 0):=kr
theorem JRU(s:ByteArray):JJ1 Aa 9 3 (.string s) (Z5 14) true=some (JJY s):=by unfold JJ1;rw[Tryz.underlying9];simp only[ym,if_true,JW2,JGy,Jcv];unfold JJY;cases atL s tblP 0<;>rfl
theorem f50{s:ByteArray}(hlo:lo<=h.length):E lo 50 [.v (.string s)] h=some (.v (.int .i64 (JDT s)),h):=by
 have l1:lo<=h.length+1:=om;have c86:=λlo hlo=>f86 (lo:=lo) (h:=h) hlo
 have hl:=JRU s;rw[e50];unfold JJY at hl;unfold JDT
 cases hq:atL s tblP 0 with
 |none=>
  rw[hq]at hl
  simp only[go_sem,jh,b50,Tryz.f50,hlo,l1,c86,hl,Ag]<;>rfl
 |some i=>rw[hq]at hl;simp only[go_sem,jh,b50,Tryz.f50,hlo,l1,c86,hl,Ag]<;>rfl
noncomputable def JDU(w:ByteArray):List (List V):=(Go.Lib.fields w.data.toList).map λl=>[.v (.string ⟨l.toArray⟩)]
def JO5(p:PR):List V:=
 if(p.de==0)=true then[.v (.int .i64 3),.v (.int .i64 0),.v (.int .i64 0),.v (.string p.ini)]
 else if(p.k==1)=true then[.v (.int .i64 1),.v (.int .i64 p.nu),.v (.int .i64 p.de),.v (.string ⟨#[]⟩)]
 else[.v (.int .i64 2),.v (.int .i64 p.nu),.v (.int .i64 p.de),.v (.string ⟨#[]⟩)]
noncomputable def Y9(p:PR):List V:=[.v (.string p.n),.v (.int .i64 p.k),.v (.bool p.d),.v (.bool p.l),.list .no (JDU p.w)]++JO5 p
def JAJ:List V:=[.v (.string ⟨#[]⟩),.v (.int .i64 0),.v (.bool false),.v (.bool false),.list .no [],.v (.int .i64 0),.v (.int .i64 0),.v (.int .i64 0),.v (.string ⟨#[]⟩)]
theorem JMf:∀p∈tblP,p.w.size<4294967281/\(p.w.data.toList.all λb=>decide (b.toNat<128))=true:=by intro p hp;simp only[tblP,A1,BK,or_false]at hp;rcases hp with rfl|rfl|rfl|rfl|rfl|rfl|rfl|rfl|rfl|rfl|rfl|rfl|rfl|rfl<;>exact⟨by decide,by decide⟩
theorem f52{p:PR}(hp:p∈tblP):E lo 52 [.v (.string p.w)] h=some (.list .no (JDU p.w),h):=by
 refine(JDK (p:=GK) rfl).trans ?_
 unfold GK JDU;exact if_pos (JMf p hp)
theorem Jj9{s:ByteArray}(hlo:lo<=h.length)(hq:atL s tblP 0=none):E lo 21 [.v (.string s)] h=some (.tup [.agg JAJ,.v (.bool false)],h):=by
 have l1:lo<=h.length+1:=om;have c50:=λlo h hlo=>f50 (lo:=lo) (h:=h) (s:=s) hlo
 unfold JDT at c50;rw[hq]at c50;have q:decide ((-1:Int)<0)=true:=rfl;rw[e21];simp only[go_sem,b21,Tryz.f21,hlo,l1,c50,q]<;>rfl
theorem JkA{s:ByteArray}{i:Nat}{p:PR}(hlo:lo<=h.length)(hq:atL s tblP 0=some i)(hp:tblP[i]? =some p):E lo 21 [.v (.string s)] h=some (.tup [.agg (Y9 p),.v (.bool true)],h):=by
 have l1:lo<=h.length+1:=om;have l2:lo<=h.length+1+1:=om;have c50:=λlo h hlo=>f50 (lo:=lo) (h:=h) (s:=s) hlo
 have c51:=λlo h=>f51 (lo:=lo) (h:=h)
 have c52:=λlo h=>f52 (lo:=lo) (h:=h) (Ah hp)
 unfold JDT at c50;rw[hq]at c50;have q:decide ((i:Int)<0)=false:=by rw[decide_eq_false_iff_not];omega
 have hgr:(tblP.map JAH)[i]? =some (JAH p):=by simp[hp]
 have t1:Bp (i:Int)=i:=om;unfold Y9 JO5;rw[e21]
 cases hd:p.de==0 with
 |true=>simp only[JAH,go_sem,b21,Tryz.f21,hlo,l1,l2,c50,c51,c52,q,hgr,t1,hd]<;>rfl
 |false=>
  cases hk:p.k==1 with
  |true=>simp only[JAH,go_sem,b21,Tryz.f21,hlo,l1,l2,c50,c51,c52,q,hgr,t1,hd,hk]<;>rfl
  |false=>simp only[JAH,go_sem,b21,Tryz.f21,hlo,l1,l2,c50,c51,c52,q,hgr,t1,hd,hk]<;>rfl
end Go.Lift.Y1
end

section
open Go.Proofs
namespace Go.Lift.Y1
open Rul
variable{lo:Nat}{h:JM}
theorem f90(hlo:lo<=h.length)(v:CV):E lo 90 [.agg (Jp v)] h=some (.v (.bool (JS v)),h):=by obtain⟨t,ks⟩:=v;rw[JN,e90];simp only[go_sem,b90,Tryz.f90,hlo]<;>rfl
theorem f68(hlo:lo<=h.length)(v:CV):E lo 68 [.agg (Jp v)] h=some (.v (.bool (JS v)),h):=by obtain⟨t,ks⟩:=v;rw[JN,e68];simp only[go_sem,b68,Tryz.f68,hlo]<;>rfl
theorem QX(r:List CV):(JH r).take r.length=JH r:=by rw[Ku,BQ]
abbrev N56(l:List CV):Jr:=[(0,.list .no (JH l))]
theorem JO6{v:CV}{r:List CV}(hlo:lo<=h.length):
  evCode ⟨Aa,E,lo,h.length,h58⟩ JA z8 (N56 (v::r),h)=
   if JS v=true then some (.normal,N56 r,h)else some (.exit 0,N56 (v::r)++[(11,.v (.bool false))],h):=by
 obtain⟨t,ks⟩:=v;have q:decide ((0:Int)<((r.length+1:Nat):Int))=true:=by rw[decide_eq_true_iff];omega
 have c:=λlo hlo=>f90 (lo:=lo) (h:=h) hlo (.mk t ks)
 rw[JN]at c;have ca:=c lo hlo;have cb:=c h.length (Ag _);clear c
 cases hs:JS (.mk t ks)with
 |true=>
  rw[hs]at ca cb;rw[if_pos rfl]
  simp only[go_sem,z8,b58,Tryz.f58,hlo,q,ca,cb,JY,JN,JC,QX,Jn,Ag]<;>rfl
 |false=>
  rw[hs]at ca cb;rw[if_neg (by simp)]
  simp only[N56,go_sem,z8,b58,Tryz.f58,hlo,q,ca,cb,JY,JN,JC,QX,Jn,Ag]<;>rfl
theorem JRV(hlo:lo<=h.length):evCode ⟨Aa,E,lo,h.length,h58⟩ JA z8 (N56 [],h)=some (.exit 0,N56 []++[(11,.v (.bool false))],h):=by have q:decide ((0:Int)<((0:Nat):Int))=false:=rfl;simp only[N56,go_sem,z8,b58,Tryz.f58,hlo,q,JZ]<;>rfl
theorem JKW(hlo:lo<=h.length):∀l:List CV,JA (evCode ⟨Aa,E,lo,h.length,h58⟩ JA z8) (N56 l,h)=some (.exit 0,N56 (Js l)++[(11,.v (.bool false))],h)
 |[]=>by
  rw[JJ,JRV hlo,Jx]
  rfl
 |v::r=>by
  rw[JJ,JO6 hlo]
  have hl:Js (v::r)=if JS v=true then Js r else v::r:=by unfold Js;rw[AV]
  rw[hl]
  split
  ·rw[Jg]
   exact JKW hlo r
  ·rw[Jx]
theorem JO7{v:CV}{r:List CV}{ex:Jr}(hex:ex=[]\/ex=[(11,.v (.bool false))])(hlo:lo<=h.length)(hl:r.length<=1000000000000):
  evCode ⟨Aa,E,lo,h.length,h58⟩ JA H4 (N56 (r++[v])++ex,h)=
   if JS v=true then some (.normal,N56 r,h)else some (.exit 2,N56 (r++[v])++[(25,.v (.bool false))],h):=by
 obtain⟨t,ks⟩:=v;have q:decide ((0:Int)<((r.length+1:Nat):Int))=true:=by rw[decide_eq_true_iff];omega
 have hw:AQ.wrap (((r.length+1:Nat):Int)-1)=(r.length:Int):=by rw[KY]<;>omega
 have hg:(JH (r++[.mk t ks]))[r.length]? =some (Jp (.mk t ks)):=by rw[Jm];simp
 have ht:(JH (r++[.mk t ks])).take r.length=JH r:=by rw[Ku];simp
 have hll:(JH (r++[.mk t ks])).length=r.length+1:=by rw[JC];simp
 have c:=λlo hlo=>f90 (lo:=lo) (h:=h) hlo (.mk t ks)
 rw[JN]at c hg;have ca:=c lo hlo;have cb:=c h.length (Ag _);clear c;have hra:=Jn (r++[.mk t ks]);have hle:r.length<=r.length+1:=om;unfold N56;generalize JH (r++[.mk t ks])=R at*
 cases hs:JS (.mk t ks)with
 |true=>
  rw[hs]at ca cb;rw[if_pos rfl];rcases hex with rfl|rfl
  ·simp only[go_sem,H4,b58,Tryz.f58,hlo,q,ca,cb,hg,ht,hll,hw,hra,hle]<;>rfl
  ·simp only[go_sem,H4,b58,Tryz.f58,hlo,q,ca,cb,hg,ht,hll,hw,hra,hle]<;>rfl
 |false=>
  rw[hs]at ca cb;rw[if_neg (by simp)]
  rcases hex with rfl|rfl
  ·simp only[go_sem,H4,b58,Tryz.f58,hlo,q,ca,cb,hg,ht,hll,hw,hra,hle]<;>rfl
  ·simp only[go_sem,H4,b58,Tryz.f58,hlo,q,ca,cb,hg,ht,hll,hw,hra,hle]<;>rfl
theorem JRW{ex:Jr}(hex:ex=[]\/ex=[(11,.v (.bool false))])(hlo:lo<=h.length):evCode ⟨Aa,E,lo,h.length,h58⟩ JA H4 (N56 []++ex,h)=some (.exit 2,N56 []++[(25,.v (.bool false))],h):=by
 have q:decide ((0:Int)<((0:Nat):Int))=false:=rfl;rcases hex with rfl|rfl
 ·simp only[N56,go_sem,H4,b58,Tryz.f58,hlo,q,JZ]<;>rfl
 ·simp only[N56,go_sem,H4,b58,Tryz.f58,hlo,q,JZ]<;>rfl
theorem JKX(hlo:lo<=h.length):∀(n:Nat) (l:List CV) (ex:Jr),l.length=n->n<=1000000000000->(ex=[]\/ex=[(11,.v (.bool false))])->JA (evCode ⟨Aa,E,lo,h.length,h58⟩ JA H4) (N56 l++ex,h)=some (.exit 2,N56 (Kk l)++[(25,.v (.bool false))],h)
 |0,l,ex,hn,_,hex=>by
  obtain rfl:=AG hn
  rw[JJ,JRW hex hlo,Jx,qR]
 |n+1,l,ex,hn,hb,hex=>by
  obtain⟨r,v,rfl⟩:∃r v,l=r++[v]:=⟨l.dropLast,l.getLast (by intro e;rw[e]at hn;cases hn),(List.dropLast_concat_getLast _).symm⟩
  have hr:r.length=n:=by simpa using hn
  rw[JJ,JO7 hex hlo om,zr]
  split
  ·rw[Jg]
   have:=JKX hlo n r [] hr om (.inl rfl)
   rwa[AH]at this
  ·rw[Jx]
theorem f58{l:List CV}(hlo:lo<=h.length)(hl:l.length<=1000000000):E lo 58 [.list .no (JH l)] h=some (.list .no (JH (Je l)),h):=by have h1:=JKW (lo:=lo) (h:=h) hlo l;have hl2:(Js l).length<=l.length:=(BC _).length_le;have h2:=JKX (lo:=lo) (h:=h) hlo _ (Js l) _ rfl om (.inr rfl);rw[<-HP]at h2;rw[e58];simp only[z8,H4,b58,Tryz.f58,JK,loops,JB,go_sem,N56]at h1 h2;simp only[go_sem,b58,Tryz.f58,hlo,h1,h2]<;>rfl
abbrev yf(l:List CV)(a b:Nat):Jr:=[(0,.list .no (JH l)),(3,.v (.int .i64 a)),(4,.v (.int .i64 b))]
theorem JO8{l:List CV}{v:CV}{a b:Nat}(hlo:lo<=h.length)(hl:l.length<=1000000000)(hg:l[a]? =some v)(hab:a<b):
  evCode ⟨Aa,E,lo,h.length,h36⟩ JA z7 (yf l a b,h)=
   if JS v=true then some (.normal,yf l (a+1) b,h)else some (.exit 0,yf l a b++[(16,.v (.bool false))],h):=by
 obtain⟨t,ks⟩:=v;have hlt:a<l.length:=(Ab.1 hg).1
 have q:decide ((a:Int)<(b:Int))=true:=by simpa using hab
 have hw:=Jd (i:=a) om;have hgr:(JH l)[a]? =some (Jp (.mk t ks)):=by rw[Jm,hg];rfl
 have c:=λlo hlo=>f68 (lo:=lo) (h:=h) hlo (.mk t ks)
 rw[JN]at c hgr;have ca:=c lo hlo;have cb:=c h.length (Ag _);clear c
 cases hs:JS (.mk t ks)with
 |true=>
  rw[hs]at ca cb;rw[if_pos rfl]
  simp only[yf,go_sem,z7,b36,Tryz.f36,hlo,q,ca,cb,hgr,hw]<;>rfl
 |false=>
  rw[hs]at ca cb;rw[if_neg (by simp)]
  simp only[yf,go_sem,z7,b36,Tryz.f36,hlo,q,ca,cb,hgr,hw]<;>rfl
theorem JRX{l:List CV}{b:Nat}(hlo:lo<=h.length):evCode ⟨Aa,E,lo,h.length,h36⟩ JA z7 (yf l b b,h)=some (.exit 0,yf l b b++[(16,.v (.bool false))],h):=by
 have q:decide ((b:Int)<(b:Int))=false:=by simp
 simp only[yf,go_sem,z7,b36,Tryz.f36,hlo,q]<;>rfl
theorem JKY{l:List CV}(hlo:lo<=h.length)(hl:l.length<=1000000000):∀(m a:Nat),a+m=l.length->∃a',a<=a'/\a'<=l.length/\Js (l.drop a)=l.drop a'/\
   JA (evCode ⟨Aa,E,lo,h.length,h36⟩ JA z7) (yf l a l.length,h)=some (.exit 0,yf l a' l.length++[(16,.v (.bool false))],h)
 |0,a,hm=>by
  obtain rfl:a=l.length:=om
  exact⟨l.length,Ag _,Ag _,by rw[List.drop_length];rfl,by rw[JJ,JRX hlo,Jx]⟩
 |m+1,a,hm=>by
  have hlt:a<l.length:=om;have hd:l.drop a=l[a]::l.drop (a+1):=Ap hlt;have hr:=JO8 (h:=h) hlo hl (Ac hlt) hlt
  have he:Js (l.drop a)=if JS l[a]=true then Js (l.drop (a+1))else l.drop a:=by rw[hd];unfold Js;rw[AV]
  rw[he,JJ,hr]
  split
  ·rw[Jg]
   obtain⟨a',h1,h2,h3,h4⟩:=JKY hlo hl m (a+1) om;exact⟨a',om,h2,h3,h4⟩
  ·exact⟨a,Ag _,om,rfl,by rw[Jx]⟩
theorem JO9{l:List CV}{v:CV}{a b:Nat}{ex:Jr}(hex:ex=[]\/ex=[(16,.v (.bool false))])(hlo:lo<=h.length)(hl:l.length<=1000000000)(hg:l[b]? =some v)(hab:a<b+1):
  evCode ⟨Aa,E,lo,h.length,h36⟩ JA H3 (yf l a (b+1)++ex,h)=
   if JS v=true then some (.normal,yf l a b,h)else some (.exit 2,yf l a (b+1)++[(29,.v (.bool false))],h):=by
 obtain⟨t,ks⟩:=v;have hlt:b<l.length:=(Ab.1 hg).1
 have q:decide ((a:Int)<((b+1:Nat):Int))=true:=by simp;omega
 have hw:AQ.wrap (((b+1:Nat):Int)-1)=(b:Int):=by rw[KY]<;>omega
 have hgr:(JH l)[b]? =some (Jp (.mk t ks)):=by rw[Jm,hg];rfl
 have c:=λlo hlo=>f68 (lo:=lo) (h:=h) hlo (.mk t ks)
 rw[JN]at c hgr;have ca:=c lo hlo;have cb:=c h.length (Ag _);clear c
 cases hs:JS (.mk t ks)with
 |true=>
  rw[hs]at ca cb;rw[if_pos rfl];rcases hex with rfl|rfl
  ·simp only[yf,go_sem,H3,b36,Tryz.f36,hlo,q,ca,cb,hgr,hw]<;>rfl
  ·simp only[yf,go_sem,H3,b36,Tryz.f36,hlo,q,ca,cb,hgr,hw]<;>rfl
 |false=>
  rw[hs]at ca cb;rw[if_neg (by simp)]
  rcases hex with rfl|rfl
  ·simp only[yf,go_sem,H3,b36,Tryz.f36,hlo,q,ca,cb,hgr,hw]<;>rfl
  ·simp only[yf,go_sem,H3,b36,Tryz.f36,hlo,q,ca,cb,hgr,hw]<;>rfl
theorem JRY{l:List CV}{b:Nat}{ex:Jr}(hex:ex=[]\/ex=[(16,.v (.bool false))])(hlo:lo<=h.length):evCode ⟨Aa,E,lo,h.length,h36⟩ JA H3 (yf l b b++ex,h)=some (.exit 2,yf l b b++[(29,.v (.bool false))],h):=by
 have q:decide ((b:Int)<(b:Int))=false:=by simp
 rcases hex with rfl|rfl
 ·simp only[yf,go_sem,H3,b36,Tryz.f36,hlo,q]<;>rfl
 ·simp only[yf,go_sem,H3,b36,Tryz.f36,hlo,q]<;>rfl
theorem JKZ{l:List CV}{a:Nat}(hlo:lo<=h.length)(hl:l.length<=1000000000):∀(m b:Nat) (ex:Jr),a+m=b->b<=l.length->(ex=[]\/ex=[(16,.v (.bool false))])->∃b',a<=b'/\b'<=l.length/\Kk ((l.take b).drop a)=(l.take b').drop a/\
   JA (evCode ⟨Aa,E,lo,h.length,h36⟩ JA H3) (yf l a b++ex,h)=some (.exit 2,yf l a b'++[(29,.v (.bool false))],h)
 |0,b,ex,hm,hb,hex=>by
  obtain rfl:a=b:=om;have e0:(l.take a).drop a=[]:=List.drop_eq_nil_of_le (by rw[As];omega)
  exact⟨a,Ag _,hb,by rw[e0,qR],by rw[JJ,JRY hex hlo,Jx]⟩
 |m+1,b,ex,hm,hb,hex=>by
  obtain⟨c,rfl⟩:∃c,b=c+1:=⟨b-1,om⟩;have hlt:c<l.length:=om;have hr:=JO9 (h:=h) (a:=a) hex hlo hl (Ac hlt) om
  have hd:(l.take (c+1)).drop a=(l.take c).drop a++[l[c]]:=by rw[List.take_succ_eq_append_getElem hlt,List.drop_append_of_le_length (by rw[As];omega)]
  rw[hd,zr,JJ,hr]
  split
  ·rw[Jg]
   obtain⟨b',h1,h2,h3,h4⟩:=JKZ (a:=a) hlo hl m c [] om om (.inl rfl);rw[AH]at h4;exact⟨b',h1,h2,h3,h4⟩
  ·exact⟨c+1,om,hb,by rw[hd],by rw[Jx]⟩
theorem f36{l:List CV}(hlo:lo<=h.length)(hl:l.length<=1000000000):E lo 36 [.list .no (JH l)] h=some (.list .no (JH (Je l)),h):=by
 obtain⟨a,a1,a2,a3,h1⟩:=JKY (lo:=lo) (h:=h) hlo hl l.length 0 om;obtain⟨b,b1,b2,b3,h2⟩:=JKZ (lo:=lo) (h:=h) (a:=a) hlo hl (l.length-a) l.length _ om (Ag _) (.inr rfl);rw[BQ,<-a3,AJ,<-HP]at b3;rw[b3];have n0:((0:Nat):Int)=0:=rfl;have q1:a<=b:=b1;have q2:b<=l.length:=b2;have hs:(JH l).drop a=JH (l.drop a):=K3 l a
 have ht:((JH l).take b).drop a=JH ((l.take b).drop a):=by rw[Ku,K3]
 rw[e36];simp only[z7,H3,b36,Tryz.f36,JK,loops,JB,go_sem,yf,n0]at h1 h2;simp only[go_sem,b36,Tryz.f36,hlo,h1,h2,JC,Jn,q1,q2,ht,n0]<;>rfl
end Go.Lift.Y1
end

section
open Go.Proofs
namespace Go.Lift.Y1
open Utf Tok
def low(c:Int):Int:=if(decide (65<=c)&&decide (c<=90))=true then c+32 else c
def bl(l:List Int):List V:=l.map λn=> .v (.int .u8 n)
theorem GM(l:List Int):(bl l).length=l.length:=by simp[bl]
theorem JJZ(l:List Int)(i:Nat):(bl l)[i]? =(l[i]?).map λn=>V.v (.int .u8 n):=by simp[bl]
theorem JJa(l:List Int)(i:Nat)(n:Int):(bl l).set i (.v (.int .u8 n))=bl (l.set i n):=by simp[bl,List.map_set]
theorem Zg{l:List Int}(hy:By l):K7 ⟨(j4 l).toArray⟩=bl l:=by
 simp only[K7,j4,bl,List.map_map];refine AU λn hn=>?_
 have:=hy n hn
 have e:((UInt8.ofNat n.toNat).toNat:Int)=n:=by rw[Dn];omega
 simp only[Function.comp,e]
theorem JW3{lo:Nat}{h:JM}(hlo:lo<=h.length):∀(n:Nat) (a b:List Int),b.length<=n->a.length+b.length<=1000000000000->By b->
  JA (evCode ⟨Aa,E,lo,h.length,h37⟩ JA yH) ([(3,.buf h.length 0 (a.length+b.length)),(8,.buf h.length 0 (a.length+b.length)),(9,.v (.int .i64 (a.length+b.length:Nat))),(10,.v (.int .i64 a.length))],h++[.cells (bl (a++b))])=
   some (.exit 0,[(3,.buf h.length 0 (a.length+b.length)),(8,.buf h.length 0 (a.length+b.length)),(9,.v (.int .i64 (a.length+b.length:Nat))),(10,.v (.int .i64 (a.length+b.length:Nat))),(11,.v (.bool false))],h++[.cells (bl (a++b.map low))]):=by
 intro n
 induction n with
 |zero=>
  intro a b hb hab hy;obtain rfl:b=[]:=AG om;have hd:decide (((a.length:Nat):Int)<((a.length+([]:List Int).length:Nat):Int))=false:=by simp
  rw[JJ];simp only[Ak,Bn]at hd⊢
  simp only[go_sem,yH,b37,Tryz.f37,hd,BG]
 |succ n ih=>
  intro a b hb hab hy
  cases b with
  |nil=>
   have hd:decide (((a.length:Nat):Int)<((a.length+([]:List Int).length:Nat):Int))=false:=by simp
   rw[JJ];simp only[Ak,Bn]at hd⊢
   simp only[go_sem,yH,b37,Tryz.f37,hd,BG]
  |cons c b=>
   have hcy:=hy c (Be ..);have hd:decide ((a.length:Int)<((a.length+(c::b).length:Nat):Int))=true:=by simp;omega
   have hx:(bl (a++c::b))[a.length]? =some (.v (.int .u8 c)):=by simp[JJZ]
   have hw:AQ.wrap ((a.length:Int)+1)=((a.length+1:Nat):Int):=Jd om;have hlt:a.length<a.length+(c::b).length:=by simp
   have hih:=ih (a++[low c]) b (by simp at hb;omega) (by simp at hab⊢;omega) (λx hx=>hy x (AW _ hx))
   have el:(a++[low c]).length+b.length=a.length+(c::b).length:=by simp;omega
   have el2:(a++[low c]).length=a.length+1:=by simp
   have el3:a++[low c]++b.map low=a++(c::b).map low:=by simp
   rw[el,el2,el3]at hih;by_cases hc:(decide (65<=c)&&decide (c<=90))=true
   ·have hs:(bl (a++c::b)).set a.length (.v (.int .u8 (c+32)))=bl (a++[low c]++b):=by
     rw[JJa,low,if_pos hc];simp
    have hc':=hc;simp only[Af,decide_eq_true_eq]at hc';have hwc:Dg.wrap (c+32)=c+32:=j3 om om;have hbl:a.length+1<=(bl (a++c::b)).length:=by rw[GM];simp
    generalize hcs:a.length+(c::b).length=k at*
    have er:evCode ⟨Aa,E,lo,h.length,h37⟩ JA yH ([(3,.buf h.length 0 k),(8,.buf h.length 0 k),(9,.v (.int .i64 (k:Nat))),(10,.v (.int .i64 a.length))],h++[.cells (bl (a++c::b))])=
      some (.normal,[(3,.buf h.length 0 k),(8,.buf h.length 0 k),(9,.v (.int .i64 (k:Nat))),(10,.v (.int .i64 (a.length+1:Nat)))],h++[.cells (bl (a++[low c]++b))]):=by
     have hlt':(a.length:Int)<k:=om;have h0':(0:Int)<=a.length:=om;simp only[go_sem,yH,b37,Tryz.f37,hd,hx,hw,hc,hwc,hs,hlo,hlt,hlt',h0',hbl,AA,BT,and_self]
    rw[JJ,er,Jg];exact hih
   ·have hl2:low c=c:=by rw[low,if_neg hc]
    have hc2:(decide (65<=c)&&decide (c<=90))=false:=by simpa using hc
    rw[hl2]at hih;generalize hcs:a.length+(c::b).length=k at*
    have er:evCode ⟨Aa,E,lo,h.length,h37⟩ JA yH ([(3,.buf h.length 0 k),(8,.buf h.length 0 k),(9,.v (.int .i64 (k:Nat))),(10,.v (.int .i64 a.length))],h++[.cells (bl (a++c::b))])=
      some (.normal,[(3,.buf h.length 0 k),(8,.buf h.length 0 k),(9,.v (.int .i64 (k:Nat))),(10,.v (.int .i64 (a.length+1:Nat)))],h++[.cells (bl (a++c::b))]):=by
     have hlt':(a.length:Int)<k:=om;have h0':(0:Int)<=a.length:=om;simp only[go_sem,yH,b37,Tryz.f37,hd,hx,hw,hc2,hlo,hlt,hlt',h0',AA,BT,and_self]
    rw[JJ,er,Jg];have e4:a++c::b=a++[c]++b:=by simp
    rw[e4];exact hih
theorem f37{lo:Nat}{l:List Int}{h:JM}(hlo:lo<=h.length)(hl:l.length<=1000000000000)(hy:By l):E lo 37 [.v (.string ⟨(j4 l).toArray⟩)] h=some (.v (.string ⟨(j4 (l.map low)).toArray⟩),h):=by
 have hL:=JW3 (lo:=lo) (h:=h) hlo l.length [] l (Ag _) (by simpa using hl) hy
 have hz:(⟨(j4 l).toArray⟩:ByteArray).size=l.length:=by simp[Dm,j4]
 rw[e37];simp only[yH,b37,Tryz.f37,JK,loops,JB,go_sem,Ak,AA]at hL;have hb1:decide (0+l.length<=(bl (l.map low)).length)=true:=by rw[GM];simp
 have hb2:((bl (l.map low)).take l.length).map (λx=>[x])=ri .u8 (l.map low):=by
  rw[BS (by rw[GM];simp)]
  simp[bl,ri]
 simp only[go_sem,b37,Tryz.f37,hz,Zg hy,hL,hb1,hb2]
def JW4(a b:List Int):Bool:=(j4 (a.map low))==(j4 (b.map low))
theorem f95{lo:Nat}{a b:List Int}{h:JM}(hlo:lo<=h.length)(ha:a.length<=1000000000000)(hya:By a)(hb:b.length<=1000000000000)(hyb:By b):
  E lo 95 [.v (.string ⟨(j4 a).toArray⟩),.v (.string ⟨(j4 b).toArray⟩)] h=some (.v (.bool (JW4 a b)),h):=by
 have k1:=f37 (lo:=lo) (h:=h) hlo ha hya;have k2:=f37 (lo:=lo) (h:=h) hlo hb hyb;rw[e95];simp only[go_sem,b95,Tryz.f95,k1,k2,ByteArray.toList_eq];rfl
end Go.Lift.Y1
end

section
open Go.Proofs
namespace Go.Lift.Y1
open Rul
open Utf (By)
variable{lo:Nat}{h:JM}
theorem JPA(c:Int):low c=WK c:=by unfold low WK;simp only[Af,decide_eq_true_eq]
theorem qW(l:List Int):l.map low=Jc l:=AU λc _=>JPA c
theorem JW5(hlo:lo<=h.length):∀(n:Nat) (a b:List Int),b.length<=n->a.length+b.length<=1000000000000->By b->
  JA (evCode ⟨Aa,E,lo,h.length,h26⟩ JA H1) ([(3,.buf h.length 0 (a.length+b.length)),(8,.buf h.length 0 (a.length+b.length)),(9,.v (.int .i64 (a.length+b.length:Nat))),(10,.v (.int .i64 a.length))],h++[.cells (bl (a++b))])=
   some (.exit 0,[(3,.buf h.length 0 (a.length+b.length)),(8,.buf h.length 0 (a.length+b.length)),(9,.v (.int .i64 (a.length+b.length:Nat))),(10,.v (.int .i64 (a.length+b.length:Nat))),(11,.v (.bool false))],h++[.cells (bl (a++Jc b))]):=by
 intro n
 induction n with
 |zero=>
  intro a b hb hab hy;obtain rfl:b=[]:=AG om;have hd:decide (((a.length:Nat):Int)<((a.length+([]:List Int).length:Nat):Int))=false:=by simp
  rw[JJ];simp only[Ak,Bn]at hd⊢
  simp only[go_sem,H1,b26,Tryz.f26,hd,Jc,BG]
 |succ n ih=>
  intro a b hb hab hy
  cases b with
  |nil=>
   have hd:decide (((a.length:Nat):Int)<((a.length+([]:List Int).length:Nat):Int))=false:=by simp
   rw[JJ];simp only[Ak,Bn]at hd⊢
   simp only[go_sem,H1,b26,Tryz.f26,hd,Jc,BG]
  |cons c b=>
   have hcy:=hy c (Be ..);have hd:decide ((a.length:Int)<((a.length+(c::b).length:Nat):Int))=true:=by simp;omega
   have hx:(bl (a++c::b))[a.length]? =some (.v (.int .u8 c)):=by simp[JJZ]
   have hw:AQ.wrap ((a.length:Int)+1)=((a.length+1:Nat):Int):=Jd om;have hlt:a.length<a.length+(c::b).length:=by simp
   have hih:=ih (a++[WK c]) b (by simp at hb;omega) (by simp at hab⊢;omega) (λx hx=>hy x (AW _ hx))
   have el:(a++[WK c]).length+b.length=a.length+(c::b).length:=by simp;omega
   have el2:(a++[WK c]).length=a.length+1:=by simp
   have el3:a++[WK c]++Jc b=a++Jc (c::b):=by simp[Jc]
   rw[el,el2,el3]at hih;by_cases h1:65<=c
   ·have q1:decide (65<=c)=true:=by simpa using h1
    by_cases h2:c<=90
    ·have q2:decide (c<=90)=true:=by simpa using h2
     have hlc:WK c=c+32:=by unfold WK;rw[if_pos ⟨h1,h2⟩]
     have hs:(bl (a++c::b)).set a.length (.v (.int .u8 (c+32)))=bl (a++[WK c]++b):=by rw[JJa,hlc];simp
     have hwa:Dg.wrap (c+97)=c+97:=j3 om om;have hwc:Dg.wrap (c+97-65)=c+32:=by rw[j3 om om];omega
     have hbl:a.length+1<=(bl (a++c::b)).length:=by rw[GM];simp
     generalize hcs:a.length+(c::b).length=k at*
     have er:evCode ⟨Aa,E,lo,h.length,h26⟩ JA H1 ([(3,.buf h.length 0 k),(8,.buf h.length 0 k),(9,.v (.int .i64 (k:Nat))),(10,.v (.int .i64 a.length))],h++[.cells (bl (a++c::b))])=
       some (.normal,[(3,.buf h.length 0 k),(8,.buf h.length 0 k),(9,.v (.int .i64 (k:Nat))),(10,.v (.int .i64 (a.length+1:Nat)))],h++[.cells (bl (a++[WK c]++b))]):=by
      have hlt':(a.length:Int)<k:=om;have h0':(0:Int)<=a.length:=om;simp only[go_sem,H1,b26,Tryz.f26,hd,hx,hw,q1,q2,hwa,hwc,hs,hlo,hlt,hlt',h0',hbl,AA,BT,and_self]<;>rfl
     rw[JJ,er,Jg];exact hih
    ·have q2:decide (c<=90)=false:=by simpa using h2
     have hlc:WK c=c:=by unfold WK;rw[if_neg om]
     rw[hlc]at hih;generalize hcs:a.length+(c::b).length=k at*
     have er:evCode ⟨Aa,E,lo,h.length,h26⟩ JA H1 ([(3,.buf h.length 0 k),(8,.buf h.length 0 k),(9,.v (.int .i64 (k:Nat))),(10,.v (.int .i64 a.length))],h++[.cells (bl (a++c::b))])=
       some (.normal,[(3,.buf h.length 0 k),(8,.buf h.length 0 k),(9,.v (.int .i64 (k:Nat))),(10,.v (.int .i64 (a.length+1:Nat)))],h++[.cells (bl (a++c::b))]):=by
      have hlt':(a.length:Int)<k:=om;have h0':(0:Int)<=a.length:=om;simp only[go_sem,H1,b26,Tryz.f26,hd,hx,hw,q1,q2,hlo,hlt,hlt',h0',AA,BT,and_self]<;>rfl
     rw[JJ,er,Jg];have e4:a++c::b=a++[c]++b:=by simp
     rw[e4];exact hih
   ·have q1:decide (65<=c)=false:=by simpa using h1
    have hlc:WK c=c:=by unfold WK;rw[if_neg om]
    rw[hlc]at hih;generalize hcs:a.length+(c::b).length=k at*
    have er:evCode ⟨Aa,E,lo,h.length,h26⟩ JA H1 ([(3,.buf h.length 0 k),(8,.buf h.length 0 k),(9,.v (.int .i64 (k:Nat))),(10,.v (.int .i64 a.length))],h++[.cells (bl (a++c::b))])=
      some (.normal,[(3,.buf h.length 0 k),(8,.buf h.length 0 k),(9,.v (.int .i64 (k:Nat))),(10,.v (.int .i64 (a.length+1:Nat)))],h++[.cells (bl (a++c::b))]):=by
     have hlt':(a.length:Int)<k:=om;have h0':(0:Int)<=a.length:=om;simp only[go_sem,H1,b26,Tryz.f26,hd,hx,hw,q1,hlo,hlt,hlt',h0',AA,BT,and_self]<;>rfl
    rw[JJ,er,Jg];have e4:a++c::b=a++[c]++b:=by simp
    rw[e4];exact hih
theorem f26{l:List Int}(hlo:lo<=h.length)(hl:l.length<=1000000000000)(hy:By l):E lo 26 [.v (.string (Rul.bs l))] h=some (.v (.string (Rul.bs (Jc l))),h):=by
 have hL:=JW5 (lo:=lo) (h:=h) hlo l.length [] l (Ag _) (by simpa using hl) hy
 have hz:(⟨(j4 l).toArray⟩:ByteArray).size=l.length:=by simp[Dm,j4]
 have hsl:(Jc l).length=l.length:=Ao _;rw[e26];simp only[H1,b26,Tryz.f26,JK,loops,JB,go_sem,Ak,AA,Aq]at hL;have hb1:decide (0+l.length<=(bl (Jc l)).length)=true:=by rw[GM,hsl];simp
 have hb2:((bl (Jc l)).take l.length).map (λx=>[x])=ri .u8 (Jc l):=by
  rw[BS (by rw[GM,hsl];exact Ag _)]
  simp[bl,ri]
 simp only[go_sem,b26,Tryz.f26,hz,Rul.bs,Zg hy,hL,hb1,hb2,Aq]<;>rfl
end Go.Lift.Y1
end

section
namespace Go.Lift.Rul
def wVar:List Int:=[118,97,114]
def jU(t:Tk4):Bool:=t.k==2&&Jc t.b==wVar
mutual
def JA3:CV->Bool
 | .mk t kids=>jU t||QY kids
def QY:List CV->Bool
 |[]=>false
 |v::r=>JA3 v||QY r
end
mutual
def okCV:CV->Prop
 | .mk t kids=>(Utf.By t.b/\t.b.length<=1000000000/\kids.length<=1000000000)/\okCL kids
def okCL:List CV->Prop
 |[]=>True
 |v::r=>okCV v/\okCL r
end
end Go.Lift.Rul
end

section
open Go.Proofs
namespace Go.Lift.Y1
open Rul
open Utf (By)
variable{lo:Nat}{h:JM}
theorem JN(t:Tk4)(kids:List CV):Jp (.mk t kids)=[.v (.int .i64 t.k),.v (.string (Rul.bs t.b)),.v (.int .i64 t.n),.v (.int .i64 t.d),.v (.bool t.w),.v (.bool t.i),.list .no (JH kids)]:=by rw[Jp];rfl
theorem Yn{l:List Int}(h:By l):By (Jc l):=λc hc=>by
 obtain⟨x,hx,rfl⟩:=AC.1 hc;have:=h x hx;unfold WK
 split<;>omega
theorem JDV:∀{a b:List Int},By a->By b->j4 a=j4 b->a=b
 |[],[],_,_,_=>rfl
 |[],y::b,_,_,h=>by cases h
 |x::a,[],_,_,h=>by cases h
 |x::a,y::b,ha,hb,h=>by
  simp only[j4,List.map_cons,List.cons.injEq]at h;have hx:=ha x (by simp)
  have hy:=hb y (by simp)
  have e:x=y:=by have:=congrArg UInt8.toNat h.1;simp only[Dn]at this;omega
  rw[e,JDV (λc hc=>ha c (by simp[hc])) (λc hc=>hb c (by simp[hc])) h.2]
theorem JAK(b:List Int):(Rul.bs b).toList=j4 b:=by simp only[Rul.bs,ByteArray.toList_eq]
theorem K1{a b:List Int}(ha:By a)(hb:By b):((Rul.bs a).toList==(Rul.bs b).toList)=(a==b):=by rw[JAK,JAK,BJ,beq_iff_eq,beq_iff_eq];exact⟨JDV ha hb,λh=>by rw[h]⟩
theorem Jcw:(⟨#[118,97,114]⟩:ByteArray)=Rul.bs wVar:=rfl
theorem f55{t:Tk4}{kids:List CV}(hy:By t.b)(hl:t.b.length<=1000000000)(hlo:lo<=h.length):E lo 55 [.agg (Jp (.mk t kids))] h=some (.v (.bool (jU t)),h):=by
 have l1:lo<=h.length+1:=om;have c26:=λlo h hlo=>f26 (lo:=lo) (h:=h) (l:=t.b) hlo om hy
 have q:=K1 (Yn hy) (show By wVar by intro c hc;simp[wVar]at hc;omega)
 rw[e55,JN];unfold jU
 cases hk:t.k==2 with
 |false=>simp only[go_sem,b55,Tryz.f55,hlo,l1,hk,An]<;>rfl
 |true=>rw[Au];simp only[go_sem,b55,Tryz.f55,hlo,l1,hk,c26,Jcw,q]<;>rfl
def V7(l:List CV):Prop:=∀lo h,lo<=h.length->E lo 27 [.list .no (JH l)] h=some (.v (.bool (QY l)),h)
def V22(v:CV):Prop:=∀lo h,lo<=h.length->E lo 60 [.agg (Jp v)] h=some (.v (.bool (JA3 v)),h)
theorem f60{t:Tk4}{kids:List CV}(hy:By t.b)(hl:t.b.length<=1000000000)(hk:V7 kids):V22 (.mk t kids):=by
 intro lo h hlo;have l1:lo<=h.length+1:=om;have c55:=λlo h hlo=>f55 (lo:=lo) (h:=h) (kids:=kids) hy hl hlo
 have c7:=λlo h hlo=>hk lo h hlo
 rw[JN]at c55⊢;rw[e60,JA3]
 cases hu:jU t with
 |true=>
  rw[hu]at c55
  simp only[go_sem,b60,Tryz.f60,hlo,l1,c55,Bool.true_or]<;>rfl
 |false=>rw[hu]at c55;rw[A2];simp only[go_sem,b60,Tryz.f60,hlo,l1,c55,c7]<;>rfl
noncomputable abbrev X41(lo:Nat)(h:JM):Go.Lift.Cx:=⟨Aa,E,lo,h.length,h91⟩
abbrev N41(l:List CV)(k:Int):Jr:=[(0,.list .no (JH l)),(1,.fn 60 []),(7,.v (.int .i64 l.length)),(8,.v (.int .i64 k))]
theorem r91{l:List CV}{v:CV}{k:Nat}(hlo:lo<=h.length)(hl:l.length<=1000000000)(hg:l[k]? =some v)(hc:V22 v):
  evCode (X41 lo h) JA yL (N41 l k,h)=if JA3 v=true then some (.ret,[(4,.v (.int .i64 k))],h)else some (.normal,N41 l (k+1:Nat),h):=by
 have hlt:k<l.length:=(Ab.1 hg).1
 have hgr:(JH l)[k]? =some (Jp v):=by simp[rowsC_map,hg]
 have c60:=λlo h hlo=>hc lo h hlo
 obtain⟨t,kids⟩:=v;rw[JN]at hgr c60;have q1:decide ((k:Int)<(l.length:Int))=true:=by simp;omega
 have hw:=Jd (i:=k) om
 cases hv:JA3 (.mk t kids)with
 |true=>
  rw[hv]at c60;rw[if_pos rfl]
  simp only[go_sem,yL,b91,Tryz.f91,hlo,q1,hgr,hw,c60]<;>rfl
 |false=>
  rw[hv]at c60;rw[if_neg (by simp)]
  simp only[go_sem,yL,b91,Tryz.f91,hlo,q1,hgr,hw,c60]<;>rfl
theorem jV{a b:List Int}(ha:By a)(hb:By b):JW4 a b=(Jc a==Jc b):=by unfold JW4;rw[qW,qW,BJ,beq_iff_eq,beq_iff_eq];exact⟨JDV (Yn ha) (Yn hb),λh=>by rw[h]⟩
theorem JKa:By wVar:=by intro c hc;simp[wVar]at hc;omega
theorem JJb:Jc wVar=wVar:=by decide
theorem f66{t:Tk4}{kids:List CV}(hy:By t.b)(hl:t.b.length<=1000000000)(hlo:lo<=h.length):E lo 66 [.agg (Jp (.mk t kids))] h=some (.v (.bool (jU t)),h):=by
 have l1:lo<=h.length+1:=om;have c95:=λlo h hlo=>f95 (lo:=lo) (h:=h) (a:=t.b) (b:=wVar) hlo om hy (by simp[wVar]) JKa
 rw[jV hy JKa,JJb]at c95;have k:(⟨(j4 wVar).toArray⟩:ByteArray)=⟨#[118,97,114]⟩:=rfl;rw[k]at c95;rw[e66,JN];unfold jU
 cases hk:t.k==2 with
 |false=>simp only[go_sem,b66,Tryz.f66,hlo,l1,hk,An]<;>rfl
 |true=>rw[Au];simp only[go_sem,b66,Tryz.f66,hlo,l1,hk,c95,Rul.bs]<;>rfl
theorem ZA(l:List Int):(Rul.bs l).size=l.length:=by simp[Rul.bs,Dm,j4]
theorem JPB{l:List Int}(hy:By l)(i:Nat):((Rul.bs l).data[i]?).map (λc=>V.v (.int .u8 c.toNat))=(l[i]?).map λc=>V.v (.int .u8 c):=by
 simp only[Rul.bs,j4,List.getElem?_toArray,Am,Option.map_map]
 rcases hg:l[i]? with _|c
 ·rfl
 ·have:=hy c (Ah hg)
  simp only[AD,Function.comp,Dn];have e:((c.toNat%2^8:Nat):Int)=c:=om;rw[e]
def Kw:List Int->Bool
 |a::b::_::_=>a==45&&b==45
 |_=>false
theorem JW6{L:List Int}(hb:decide ((L.length:Int)>2)=false):E lo 32 [.v (.string (Rul.bs L))] h=some (.v (.bool false),h):=by rw[e32];simp only[go_sem,b32,Tryz.f32,ZA,hb]
theorem JkB{L:List Int}{a b:Int}(hy:By L)(hb:decide ((L.length:Int)>2)=true)(g0:L[0]? =some a)(g1:L[1]? =some b):E lo 32 [.v (.string (Rul.bs L))] h=some (.v (.bool (a==45&&b==45)),h):=by
 have h0:=JPB hy 0;have h1:=JPB hy 1;rw[g0]at h0;rw[g1]at h1;have t0:Bp 0=0:=rfl;have t1:Bp 1=1:=rfl;rw[e32]
 cases ha:a==45 with
 |true=>simp only[go_sem,b32,Tryz.f32,ZA,hb,h0,h1,t0,t1,ha,AD,Au]
 |false=>simp only[go_sem,b32,Tryz.f32,ZA,hb,h0,h1,t0,t1,ha,AD,An]
theorem f32{l:List Int}(hy:By l):E lo 32 [.v (.string (Rul.bs l))] h=some (.v (.bool (Kw l)),h):=by
 match l,hy with
 |[],hy=>exact JW6 (by simp)
 |[_],hy=>exact JW6 (by simp)
 |[_,_],hy=>exact JW6 (by simp)
 |a::b::c::r,hy=>exact JkB hy (by simp;omega) rfl rfl
theorem JGo{l:List CV}{v:CV}(h:v∈Je l):v∈l:=by unfold Je at h;have h1:=(CC _).subset (B5.1 h);exact(CC _).subset (B5.1 h1)
theorem JGz(l:List CV):(Je l).length<=l.length:=by unfold Je;rw[DU];have h1:=(CC JS (l:=(l.dropWhile JS).reverse)).length_le;have h2:=(CC JS (l:=l)).length_le;rw[DU]at h1;omega
theorem kJ:∀{l:List CV},okCL l->∀v∈l,okCV v
 |[],_,_,h=>nomatch h
 |x::r,hs,v,h=>by
  rw[okCL]at hs;rcases A1.1 h with rfl|h
  ·exact hs.1
  ·exact kJ hs.2 v h
theorem JY(v:CV)(l:List CV):JH (v::l)=Jp v::JH l:=by rw[JH]
theorem JZ:JH []=[]:=by rw[JH]
def jW(l:List CV):Bool:=match Je l with
 |[]=>true
 | .mk w _::_=>w.k==18
def H8(kids:List CV):Bool:=match Je kids with
 |[]=>false
 | .mk u _::r=>u.k==1&&Kw u.b&&jW r
theorem f67{t:Tk4}{kids:List CV}(hk:okCL kids)(hl:kids.length<=1000000000):∃(a:ByteArray) (b:List (List V)) (c:Bool),∀lo h,lo<=h.length->E lo 67 [.agg (Jp (.mk t kids))] h=some (.tup [.v (.string a),.list .no b,.v (.bool c),.v (.bool (H8 kids))],h):=by
 have c36:=λlo h hlo=>f36 (lo:=lo) (h:=h) hlo hl
 have hm:∀v∈Je kids,v∈kids:=λv h=>JGo h
 have hln:=JGz kids;unfold H8;generalize Je kids=T at c36 hm hln⊢
 match T,c36,hm,hln with
 |[],c36,hm,hln=>
  rw[JZ]at c36;refine⟨⟨#[]⟩,[],false,λlo h hlo=>?_⟩
  have l1:lo<=h.length+1:=om;rw[e67,JN]
  simp only[go_sem,b67,Tryz.f67,hlo,l1,c36,Ak]<;>rfl
 | .mk u ks::r,c36,hm,hln=>
  have hv:=kJ hk _ (hm _ (Be ..));rw[okCV]at hv;have hr:r.length<=1000000000:=by simp at hln;omega
  have c36b:=λlo h hlo=>f36 (lo:=lo) (h:=h) (l:=r) hlo hr
  have c32:=λlo h=>f32 (lo:=lo) (h:=h) hv.1.1
  rw[JY,JN]at c36;have hL:(List.length (JH r)+1:Nat)=r.length+1:=by rw[JC]
  have q0:((((r.length+1:Nat):Int))==0)=false:=by rw[beq_eq_false_iff_ne];omega
  have hd1:1<=r.length+1:=om
  cases hk1:u.k==1 with
  |false=>
   have hk2:(u.k !=1)=true:=by simp[bne,hk1]
   refine⟨⟨#[]⟩,[],false,λlo h hlo=>?_⟩
   have l1:lo<=h.length+1:=om;rw[e67,JN]
   simp only[go_sem,b67,Tryz.f67,hlo,l1,c36,Ai,JC,q0,hk1,hk2,An]<;>rfl
  |true=>
   have hk2:(u.k !=1)=false:=by simp[bne,hk1]
   cases hc:Kw u.b with
   |false=>
    rw[hc]at c32;refine⟨⟨#[]⟩,[],false,λlo h hlo=>?_⟩
    have l1:lo<=h.length+1:=om;rw[e67,JN]
    simp only[go_sem,b67,Tryz.f67,hlo,l1,c36,Ai,JC,q0,hk1,hk2,hc,c32,An,Au]<;>rfl
   |true=>
    rw[hc]at c32;have hT:=JGz r;have hR:jW r=match Je r with|[]=>true| .mk w _::_=>w.k==18:=rfl
    generalize Je r=S at c36b hT hR
    match S,c36b,hT,hR with
    |[],c36b,hT,hR=>
     have hR':jW r=true:=hR;rw[JZ]at c36b;refine⟨Rul.bs u.b,[],false,λlo h hlo=>?_⟩
     have l1:lo<=h.length+1:=om;rw[e67,JN]
     simp only[go_sem,b67,Tryz.f67,hlo,l1,c36,c36b,Ai,Ak,JC,q0,hk1,hk2,hc,c32,hR',Au,An,Jn,QX,hd1]<;>rfl
    | .mk w ws::z,c36b,hT,hR=>
     have hR':jW r=(w.k==18):=hR;have hz:z.length<=1000000000:=by simp at hT;omega
     have c36c:=λlo h hlo=>f36 (lo:=lo) (h:=h) (l:=z) hlo hz
     rw[JY,JN]at c36b;have q1:((((z.length+1:Nat):Int))==0)=false:=by rw[beq_eq_false_iff_ne];omega
     have hd2:1<=z.length+1:=om
     cases hw1:w.k==18 with
     |false=>
      have hw2:(w.k !=18)=true:=by simp[bne,hw1]
      refine⟨⟨#[]⟩,[],false,λlo h hlo=>?_⟩
      have l1:lo<=h.length+1:=om;rw[e67,JN]
      simp only[go_sem,b67,Tryz.f67,hlo,l1,c36,c36b,Ai,Ak,JC,q0,q1,hk1,hk2,hc,c32,hR',Au,An,Jn,QX,hd1,hd2,hw1,hw2]<;>rfl
     |true=>
      have hw2:(w.k !=18)=false:=by simp[bne,hw1]
      refine⟨Rul.bs u.b,JH (Je z),true,λlo h hlo=>?_⟩
      have l1:lo<=h.length+1:=om;rw[e67,JN];simp only[go_sem,b67,Tryz.f67,hlo,l1,c36,c36b,c36c,Ai,Ak,JC,q0,q1,hk1,hk2,hc,c32,hR',Au,An,Jn,QX,hd1,hd2,hw1,hw2]<;>rfl
end Go.Lift.Y1
end

section
open Go.Proofs
namespace Go.Lift.Y1
variable{lo:Nat}{h:JM}
def JG(n:ByteArray)(k:Int)(d l:Bool)(ws:List ByteArray)(ck a b:Int)(w:ByteArray):List V:=
 [.v (.string n),.v (.int .i64 k),.v (.bool d),.v (.bool l),.list .no (ws.map λx=>[.v (.string x)]),.v (.int .i64 ck),.v (.int .i64 a),.v (.int .i64 b),.v (.string w)]
section
variable{n:ByteArray}{k:Int}{d l:Bool}{ws:List ByteArray}{ck a b:Int}{w:ByteArray}
end
theorem JRZ(s:ByteArray)(p:Nat):1<=(Utf8.decode s p).2:=by
 unfold Utf8.decode;simp only
 repeat' split
 all_goals first|omega|simp
end Go.Lift.Y1
end

section
open Go.Proofs
namespace Go.Lift.Y1
open Rul
open Utf (By)
variable{lo:Nat}{h:JM}
def JCY:ByteArray:=⟨#[45,45]⟩
theorem ex2{L:List Int}(hy:By L)(hl:2<L.length):(((Rul.bs L).extract 0 2).toList==JCY.toList)=Kw L:=by
 match L,hl with
 |a::b::c::r,_=>
  have ha:=hy a (by simp)
  have hb:=hy b (by simp)
  have e:((Rul.bs (a::b::c::r)).extract 0 2)=Rul.bs [a,b]:=by apply Lp;simp[Rul.bs,j4]
  have e2:JCY=Rul.bs [45,45]:=rfl;rw[e,e2,K1 (by intro x hx;simp at hx;omega) (by intro x hx;simp at hx;omega)]
  unfold Kw;simp
theorem f89{L:List Int}(hy:By L)(hl:2<L.length)(hlo:lo<=h.length):E lo 89 [.v (.string (Rul.bs L)),.v (.string JCY)] h=some (.v (.bool (Kw L)),h):=by
 have q1:decide (((2:Nat):Int)<=(L.length:Int))=true:=by rw[decide_eq_true_iff];omega
 have q2:(2<=L.length)=True:=by simp;omega
 have z2:(0<=((2:Nat):Int))=True:=by simp
 have t2:Bp ((2:Nat):Int)=2:=rfl;have s2:JCY.size=2:=rfl;have hx:=ex2 hy hl;rw[e89];simp only[go_sem,b89,Tryz.f89,hlo,ZA,q1,q2,z2,t2,s2,hx]<;>rfl
theorem f53{L:List Int}(hy:By L)(hl:2<L.length)(hlo:lo<=h.length):E lo 53 [.v (.string (Rul.bs L)),.v (.string JCY)] h=some (.v (.bool (Kw L)),h):=by
 have c:=λlo h hlo=>f89 (lo:=lo) (h:=h) hy hl hlo
 rw[e53];simp only[go_sem,b53,Tryz.f53,hlo,c]<;>rfl
abbrev N15(h:JM)(L:List Int)(ex:Jr):Jr:=[(0,.v (.string (Rul.bs L))),(5,.ptr h.length 0)]++ex
abbrev X15(h:JM)(L:List Int):Jr:=[(0,.v (.string (Rul.bs L))),(5,.ptr h.length 0),(6,.tup [.v (.bool false)]),(7,.v (.bool false))]
theorem r22{L:List Int}{pos:Nat}{ex:Jr}(hlo:lo<=h.length)(hp:pos<L.length)(hl:L.length<=1000000000000)(h2:((pos:Int)==2)=false)(hx:ex=[]\/ex=[(10,.v (.bool false))]):
  evCode ⟨Aa,E,lo,h.length,h22⟩ JA GW (N15 h L ex,h++[.iter (Rul.bs L) pos])=some (.normal,N15 h L [(10,.v (.bool false))],h++[.iter (Rul.bs L) (pos+(Utf8.decode (Rul.bs L) pos).2)]):=by
 have l1:lo<=h.length+1:=om;rcases hx with rfl|rfl<;>
 simp only[N15,go_sem,GW,b22,Tryz.f22,hlo,l1,ZA,hp,h2]<;>rfl
theorem Jcz{L:List Int}{ex:Jr}(hy:By L)(hlo:lo<=h.length)(hp:2<L.length)(hl:L.length<=1000000000000)(hx:ex=[]\/ex=[(10,.v (.bool false))]):
  evCode ⟨Aa,E,lo,h.length,h22⟩ JA GW (N15 h L ex,h++[.iter (Rul.bs L) 2])=some (.ret,[(2,.v (.bool (Kw L)))],h++[.iter (Rul.bs L) (2+(Utf8.decode (Rul.bs L) 2).2)]):=by
 have l1:lo<=h.length+1:=om;have c:=λlo h hlo=>f53 (lo:=lo) (h:=h) hy hp hlo
 unfold JCY at c;have h2:(((2:Nat):Int)==2)=true:=rfl;rcases hx with rfl|rfl<;>
 simp only[N15,go_sem,GW,b22,Tryz.f22,hlo,l1,ZA,hp,h2,c]<;>rfl
theorem Jc0{L:List Int}{pos:Nat}{ex:Jr}(hlo:lo<=h.length)(hp:¬pos<L.length)(hx:ex=[]\/ex=[(10,.v (.bool false))]):
  evCode ⟨Aa,E,lo,h.length,h22⟩ JA GW (N15 h L ex,h++[.iter (Rul.bs L) pos])=some (.exit 0,X15 h L,h++[.iter (Rul.bs L) pos]):=by
 have l1:lo<=h.length+1:=om;rcases hx with rfl|rfl<;>
 simp only[N15,go_sem,GW,b22,Tryz.f22,hlo,l1,ZA,hp]<;>rfl
theorem JKb{L:List Int}(hy:By L)(hlo:lo<=h.length)(hl:L.length<=1000000000000)(hc:Kw L=false):∀(n pos:Nat) (ex:Jr),L.length<=pos+n->(ex=[]\/ex=[(10,.v (.bool false))])->
  ∃p,JA (evCode ⟨Aa,E,lo,h.length,h22⟩ JA GW) (N15 h L ex,h++[.iter (Rul.bs L) pos])=some (.exit 0,X15 h L,h++[.iter (Rul.bs L) p])\/
   JA (evCode ⟨Aa,E,lo,h.length,h22⟩ JA GW) (N15 h L ex,h++[.iter (Rul.bs L) pos])=some (.ret,[(2,.v (.bool false))],h++[.iter (Rul.bs L) p])
 |0,pos,ex,hn,hx=>⟨pos,.inl (by rw[JJ,Jc0 hlo om hx,Jx])⟩
 |n+1,pos,ex,hn,hx=>by
  by_cases hp:pos<L.length
  ·by_cases h2:pos=2
   ·subst h2
    refine⟨2+(Utf8.decode (Rul.bs L) 2).2,.inr ?_⟩
    rw[JJ,Jcz hy hlo hp hl hx,Ki,hc]
   ·have hw:=JRZ (Rul.bs L) pos
    rw[JJ,r22 hlo hp hl (by rw[beq_eq_false_iff_ne];omega) hx,Jg]
    exact JKb hy hlo hl hc n _ _ om (.inr rfl)
  ·exact⟨pos,.inl (by rw[JJ,Jc0 hlo hp hx,Jx])⟩
theorem JCZ{s:ByteArray}{p:Nat}(hb:(s.get! p).toNat<128):(Utf8.decode s p).2=1:=by unfold Utf8.decode;simp only[Bn];rw[if_pos hb]
theorem JRa{L:List Int}(hy:By L)(hlo:lo<=h.length)(hl:L.length<=1000000000000)(hc:Kw L=true):
  ∃p,JA (evCode ⟨Aa,E,lo,h.length,h22⟩ JA GW) (N15 h L [],h++[.iter (Rul.bs L) 0])=some (.ret,[(2,.v (.bool true))],h++[.iter (Rul.bs L) p]):=by
 match L,hy,hl,hc with
 |a::b::c::r,hy,hl,hc=>
  have hc':=hc;unfold Kw at hc';simp only[Af,beq_iff_eq]at hc';obtain⟨rfl,rfl⟩:=hc';have g0:((Rul.bs (45::45::c::r)).get! 0).toNat<128:=by simp[Rul.bs,j4,Ln]
  have g1:((Rul.bs (45::45::c::r)).get! 1).toNat<128:=by simp[Rul.bs,j4,Ln]
  refine⟨2+(Utf8.decode (Rul.bs (45::45::c::r)) 2).2,?_⟩
  rw[JJ,r22 hlo (by simp) hl rfl (.inl rfl),Jg,JCZ g0,JJ,r22 hlo (by simp) hl rfl (.inr rfl),Jg,JCZ g1,show(0+1+1:Nat)=2 from rfl,JJ,Jcz hy hlo (by simp) hl (.inr rfl),Ki,hc]
theorem f22{L:List Int}(hy:By L)(hlo:lo<=h.length)(hl:L.length<=1000000000000):E lo 22 [.v (.string (Rul.bs L))] h=some (.v (.bool (Kw L)),h):=by
 have l1:lo<=h.length+1:=om;rw[e22]
 cases hc:Kw L with
 |true=>
  obtain⟨p,hL⟩:=JRa (h:=h) hy hlo hl hc;simp only[GW,b22,Tryz.f22,JK,loops,JB,N15,X15,AH,go_sem]at hL
  simp only[go_sem,b22,Tryz.f22,hlo,l1,hL]<;>rfl
 |false=>
  obtain⟨p,hL|hL⟩:=JKb (h:=h) hy hlo hl hc L.length 0 [] om (.inl rfl)
  ·simp only[GW,b22,Tryz.f22,JK,loops,JB,N15,X15,AH,go_sem]at hL
   simp only[go_sem,b22,Tryz.f22,hlo,l1,hL]<;>rfl
  ·simp only[GW,b22,Tryz.f22,JK,loops,JB,N15,X15,AH,go_sem]at hL
   simp only[go_sem,b22,Tryz.f22,hlo,l1,hL]<;>rfl
theorem JRb(hlo:lo<=h.length):∀(n:Nat) (a b:List Int),b.length<=n->a.length+b.length<=1000000000000->By b->
  JA (evCode ⟨Aa,E,lo,h.length,JMD⟩ JA Ze) ([(3,.buf h.length 0 (a.length+b.length)),(8,.buf h.length 0 (a.length+b.length)),(9,.v (.int .i64 (a.length+b.length:Nat))),(10,.v (.int .i64 a.length))],h++[.cells (bl (a++b))])=
   some (.exit 0,[(3,.buf h.length 0 (a.length+b.length)),(8,.buf h.length 0 (a.length+b.length)),(9,.v (.int .i64 (a.length+b.length:Nat))),(10,.v (.int .i64 (a.length+b.length:Nat))),(11,.v (.bool false))],h++[.cells (bl (a++Jc b))]):=by
 intro n
 induction n with
 |zero=>
  intro a b hb hab hy;obtain rfl:b=[]:=AG om;have hd:decide (((a.length:Nat):Int)<((a.length+([]:List Int).length:Nat):Int))=false:=by simp
  rw[JJ];simp only[Ak,Bn]at hd⊢
  simp only[go_sem,Ze,JDR,Tryz.f117,hd,Jc,BG]
 |succ n ih=>
  intro a b hb hab hy
  cases b with
  |nil=>
   have hd:decide (((a.length:Nat):Int)<((a.length+([]:List Int).length:Nat):Int))=false:=by simp
   rw[JJ];simp only[Ak,Bn]at hd⊢
   simp only[go_sem,Ze,JDR,Tryz.f117,hd,Jc,BG]
  |cons c b=>
   have hcy:=hy c (Be ..);have hd:decide ((a.length:Int)<((a.length+(c::b).length:Nat):Int))=true:=by simp;omega
   have hx:(bl (a++c::b))[a.length]? =some (.v (.int .u8 c)):=by simp[JJZ]
   have hw:AQ.wrap ((a.length:Int)+1)=((a.length+1:Nat):Int):=Jd om;have hlt:a.length<a.length+(c::b).length:=by simp
   have hih:=ih (a++[WK c]) b (by simp at hb;omega) (by simp at hab⊢;omega) (λx hx=>hy x (AW _ hx))
   have el:(a++[WK c]).length+b.length=a.length+(c::b).length:=by simp;omega
   have el2:(a++[WK c]).length=a.length+1:=by simp
   have el3:a++[WK c]++Jc b=a++Jc (c::b):=by simp[Jc]
   rw[el,el2,el3]at hih;by_cases h1:65<=c
   ·have q1:decide (65<=c)=true:=by simpa using h1
    by_cases h2:c<=90
    ·have q2:decide (c<=90)=true:=by simpa using h2
     have hlc:WK c=c+32:=by unfold WK;rw[if_pos ⟨h1,h2⟩]
     have hs:(bl (a++c::b)).set a.length (.v (.int .u8 (c+32)))=bl (a++[WK c]++b):=by rw[JJa,hlc];simp
     have hwa:Dg.wrap (c+97)=c+97:=j3 om om;have hwc:Dg.wrap (c+97-65)=c+32:=by rw[j3 om om];omega
     have hbl:a.length+1<=(bl (a++c::b)).length:=by rw[GM];simp
     generalize hcs:a.length+(c::b).length=k at*
     have er:evCode ⟨Aa,E,lo,h.length,JMD⟩ JA Ze ([(3,.buf h.length 0 k),(8,.buf h.length 0 k),(9,.v (.int .i64 (k:Nat))),(10,.v (.int .i64 a.length))],h++[.cells (bl (a++c::b))])=
       some (.normal,[(3,.buf h.length 0 k),(8,.buf h.length 0 k),(9,.v (.int .i64 (k:Nat))),(10,.v (.int .i64 (a.length+1:Nat)))],h++[.cells (bl (a++[WK c]++b))]):=by
      have hlt':(a.length:Int)<k:=om;have h0':(0:Int)<=a.length:=om;simp only[go_sem,Ze,JDR,Tryz.f117,hd,hx,hw,q1,q2,hwa,hwc,hs,hlo,hlt,hlt',h0',hbl,AA,BT,and_self]<;>rfl
     rw[JJ,er,Jg];exact hih
    ·have q2:decide (c<=90)=false:=by simpa using h2
     have hlc:WK c=c:=by unfold WK;rw[if_neg om]
     rw[hlc]at hih;generalize hcs:a.length+(c::b).length=k at*
     have er:evCode ⟨Aa,E,lo,h.length,JMD⟩ JA Ze ([(3,.buf h.length 0 k),(8,.buf h.length 0 k),(9,.v (.int .i64 (k:Nat))),(10,.v (.int .i64 a.length))],h++[.cells (bl (a++c::b))])=
       some (.normal,[(3,.buf h.length 0 k),(8,.buf h.length 0 k),(9,.v (.int .i64 (k:Nat))),(10,.v (.int .i64 (a.length+1:Nat)))],h++[.cells (bl (a++c::b))]):=by
      have hlt':(a.length:Int)<k:=om;have h0':(0:Int)<=a.length:=om;simp only[go_sem,Ze,JDR,Tryz.f117,hd,hx,hw,q1,q2,hlo,hlt,hlt',h0',AA,BT,and_self]<;>rfl
     rw[JJ,er,Jg];have e4:a++c::b=a++[c]++b:=by simp
     rw[e4];exact hih
   ·have q1:decide (65<=c)=false:=by simpa using h1
    have hlc:WK c=c:=by unfold WK;rw[if_neg om]
    rw[hlc]at hih;generalize hcs:a.length+(c::b).length=k at*
    have er:evCode ⟨Aa,E,lo,h.length,JMD⟩ JA Ze ([(3,.buf h.length 0 k),(8,.buf h.length 0 k),(9,.v (.int .i64 (k:Nat))),(10,.v (.int .i64 a.length))],h++[.cells (bl (a++c::b))])=
      some (.normal,[(3,.buf h.length 0 k),(8,.buf h.length 0 k),(9,.v (.int .i64 (k:Nat))),(10,.v (.int .i64 (a.length+1:Nat)))],h++[.cells (bl (a++c::b))]):=by
     have hlt':(a.length:Int)<k:=om;have h0':(0:Int)<=a.length:=om;simp only[go_sem,Ze,JDR,Tryz.f117,hd,hx,hw,q1,hlo,hlt,hlt',h0',AA,BT,and_self]<;>rfl
    rw[JJ,er,Jg];have e4:a++c::b=a++[c]++b:=by simp
    rw[e4];exact hih
theorem f117{l:List Int}(hlo:lo<=h.length)(hl:l.length<=1000000000000)(hy:By l):E lo 117 [.v (.string (Rul.bs l))] h=some (.v (.string (Rul.bs (Jc l))),h):=by
 have hL:=JRb (lo:=lo) (h:=h) hlo l.length [] l (Ag _) (by simpa using hl) hy
 have hz:(⟨(j4 l).toArray⟩:ByteArray).size=l.length:=by simp[Dm,j4]
 have hsl:(Jc l).length=l.length:=Ao _;rw[JjO];simp only[Ze,JDR,Tryz.f117,JK,loops,JB,go_sem,Ak,AA,Aq]at hL;have hb1:decide (0+l.length<=(bl (Jc l)).length)=true:=by rw[GM,hsl];simp
 have hb2:((bl (Jc l)).take l.length).map (λx=>[x])=ri .u8 (Jc l):=by
  rw[BS (by rw[GM,hsl];exact Ag _)]
  simp[bl,ri]
 simp only[go_sem,JDR,Tryz.f117,hz,Rul.bs,Zg hy,hL,hb1,hb2,Aq]<;>rfl
end Go.Lift.Y1
end

section
namespace Go.Lift.Tok
open Utf
structure Nm where
 sg:List Int
 d1:List Int
 fr:List Int
 ex:List Int
 d3:List Int
def Wa(s:List Int):Nm×List Int:=
 let a:=if(chr s 0==43||chr s 0==45)=true then s.drop 1 else s
 let b:=a.dropWhile dig
 let f:=(chr b 0==46&&dig (chr b 1))
 let c:=if f=true then(b.drop 1).dropWhile dig else b
 let k:=if(chr c 1==43||chr c 1==45)=true then 2 else 1
 let x:=((chr c 0==101||chr c 0==69)&&dig (chr c k))
 (⟨if(chr s 0==43||chr s 0==45)=true then s.take 1 else[],a.takeWhile dig,if f=true then(b.drop 1).takeWhile dig else[],
  if x=true then c.take k else[],if x=true then(c.drop k).takeWhile dig else[]⟩,if x=true then(c.drop k).dropWhile dig else c)
end Go.Lift.Tok
end

section
namespace Go.Lift.Spell
open Utf Tok
def big:Int:=1000000000000000000
def G4:Nat->Int->Int->Nat->Option (Int×Nat)
 |0,_,_,_=>none
 |k+1,n,d,p=>if d<=1 then some (n,p)else if d%2≠0/\d%5≠0 then none else if d%10=0 then G4 k n (d/10) (p+1)
  else if big<=n then none else if d%5=0 then G4 k (n*2) (d/5) (p+1)else G4 k (n*5) (d/2) (p+1)
def JKc(n d:Int):Bool:=decide (1<=d)&&n != -9223372036854775808&&CM n.natAbs d.toNat==1
def kK(n d:Int):Bool:=(n==0&&d==0)||JKc n d
end Go.Lift.Spell
end

section
open Go.Proofs
namespace Go.Lift.Y1
open Utf Tok Spell
theorem Zy{n:Int}(h0:0<=n)(h1:n<=18446744073709551615):Bm.wrap n=n:=by simp only[Df,CL,CK];simp;omega
theorem JMh{n:Int}(h0: -9223372036854775808<=n)(h1:n<0):Bm.wrap n=n+18446744073709551616:=by simp only[Df,CL,CK];simp;omega
section
variable{lo:Nat}{h:JM}
theorem f146{n:Int}(h0: -9223372036854775808<=n)(h1:n<=9223372036854775807):E lo 146 [.v (.int .i64 n)] h=some (.v (.int .u64 n.natAbs),h):=by
 rw[Jjs];by_cases hn:n<0
 ·have q:decide (n<0)=true:=by simp[hn]
  have w1:Bm.wrap n=n+18446744073709551616:=JMh h0 hn
  have w2:Bm.wrap (0-(n+18446744073709551616))=(n.natAbs:Int):=by simp only[Df,CL,CK];simp;omega
  simp only[go_sem,JW0,Tryz.f146,q,w1,w2]<;>rfl
 ·have q:decide (n<0)=false:=by simp;omega
  have w1:Bm.wrap n=(n.natAbs:Int):=by rw[Zy om om];omega
  simp only[go_sem,JW0,Tryz.f146,q,w1]<;>rfl
theorem JG0(a b:Nat):((b:Int).tmod (a:Int))=((b%a:Nat):Int):=by rw[Int.tmod_eq_emod_of_nonneg om];rfl
theorem JRc:∀(m a b:Nat),a<=m->JA (evCode ⟨Aa,E,lo,h.length,JOy⟩ JA qV) ([(0,.v (.int .u64 a)),(1,.v (.int .u64 b))],h)=
  some (.exit 0,[(0,.v (.int .u64 0)),(1,.v (.int .u64 (CM a b))),(6,.v (.bool false))],h):=by
 have stop:∀b:Nat,JA (evCode ⟨Aa,E,lo,h.length,JOy⟩ JA qV) ([(0,.v (.int .u64 (0:Nat))),(1,.v (.int .u64 b))],h)=
  some (.exit 0,[(0,.v (.int .u64 0)),(1,.v (.int .u64 (CM 0 b))),(6,.v (.bool false))],h):=by
  intro b;have q:(((0:Nat):Int) !=0)=false:=rfl;rw[JJ,Nat.gcd_zero_left];simp only[go_sem,qV,JMe,Tryz.f145,q]<;>rfl
 intro m
 induction m with
 |zero=>
  intro a b ha;obtain rfl:a=0:=om
  exact stop b
 |succ m ih=>
  intro a b ha;by_cases h0:a=0
  ·subst h0;exact stop b
  have q:((a:Int) !=0)=true:=by simp;omega
  have z:¬((a:Int)=0):=om;have t:=JG0 a b
  have er:evCode ⟨Aa,E,lo,h.length,JOy⟩ JA qV ([(0,.v (.int .u64 a)),(1,.v (.int .u64 b))],h)=some (.normal,[(0,.v (.int .u64 ((b%a:Nat):Int))),(1,.v (.int .u64 a))],h):=by simp only[go_sem,qV,JMe,Tryz.f145,q,z,t]<;>rfl
  rw[JJ,er,Jg,ih (b%a) a (by have:=Nat.mod_lt b (by omega:0<a);omega),Nat.gcd_rec a b]
theorem f145{a b:Nat}:E lo 145 [.v (.int .u64 a),.v (.int .u64 b)] h=some (.v (.int .u64 (CM a b)),h):=by have hL:=JRc (lo:=lo) (h:=h) a a b (Ag _);simp only[qV,JMe,Tryz.f145,JK,loops,JB,go_sem]at hL;rw[Jjr];simp only[go_sem,JMe,Tryz.f145,hL]<;>rfl
theorem f141{n d:Int}(h0: -9223372036854775808<=n)(h1:n<=9223372036854775807)(h2:d<=9223372036854775807)(hlo:lo<=h.length):
  E lo 141 [.agg [.v (.int .i64 n),.v (.int .i64 d)]] h=some (.v (.bool (JKc n d)),h):=by
 unfold JKc;rw[Jjo];by_cases hd:1<=d
 rotate_left
 ·have q:decide (1<=d)=false:=by simp;omega
  rw[q];simp only[go_sem,JRQ,Tryz.f141,q,An]<;>rfl
 have q:decide (1<=d)=true:=by simp[hd]
 by_cases hn:n= -9223372036854775808
 ·have q2:(n != -9223372036854775808)=false:=by simp[hn]
  rw[q,q2];simp only[go_sem,JRQ,Tryz.f141,q,q2,An,Bool.and_false]<;>rfl
 have q2:(n != -9223372036854775808)=true:=by simp[hn]
 have w1:Bm.wrap d=(d.toNat:Int):=by rw[Zy om om];omega
 have k1:=λlo h=>f146 (lo:=lo) (h:=h) h0 h1
 have k2:=λlo h=>f145 (lo:=lo) (h:=h) (a:=n.natAbs) (b:=d.toNat)
 have k3:((CM n.natAbs d.toNat:Int)==1)=(CM n.natAbs d.toNat==1):=by rw[BJ,beq_iff_eq,beq_iff_eq];omega
 rw[q,q2];simp only[go_sem,JRQ,Tryz.f141,q,q2,w1,k1,k2,k3,hlo,Au,Bool.and_true]<;>rfl
theorem K4:jA Aa 28=some [1,1]:=kr
theorem Zh(n d x y:Int):eqCells [1,1] [.v (.int .i64 n),.v (.int .i64 d)] [.v (.int .i64 x),.v (.int .i64 y)]=some (n==x&&d==y):=by simp[eqCells,eqS]
theorem f136{n d:Int}(h0: -9223372036854775808<=n)(h1:n<=9223372036854775807)(h2:d<=9223372036854775807)(hlo:lo<=h.length):
  E lo 136 [.agg [.v (.int .i64 n),.v (.int .i64 d)]] h=some (.v (.bool (kK n d)),h):=by
 have k:=λlo h hlo=>f141 (lo:=lo) (h:=h) h0 h1 h2 hlo
 have e:=Zh n d 0 0;have hlo2:lo<=h.length+1:=om;unfold kK;rw[Jjk]
 cases q:(n==0&&d==0)with
 |true=>
  rw[q]at e
  simp only[go_sem,JWy,Tryz.f136,K4,e,hlo]<;>rfl
 |false=>
  rw[q]at e;have k':=k lo (h++[.cells [.v (.int .i64 n),.v (.int .i64 d)]]) (by simp;omega)
  simp only[go_sem,JWy,Tryz.f136,K4,e,k',hlo,A2]<;>rfl
end
end Go.Lift.Y1
end

section
namespace Go.Lift.Rul
def QZ:List CV->List CV->List (List CV)
 |acc,[]=>[Je acc]
 |acc,v::r=>if v.k=18 then Je acc::QZ [] r else QZ (acc++[v]) r
def J1(l:List CV):List (List CV):=QZ [] l
theorem ZB:∀(acc l:List CV),(QZ acc l).length<=l.length+1
 |acc,[]=>Ag _
 |acc,v::r=>by
  have h1:=ZB [] r;have h2:=ZB (acc++[v]) r;rw[QZ]
  split
  ·rw[Ai,Ai];omega
  ·rw[Ai];omega
theorem J9{l:List CV}{v:CV}(h:v∈Je l):v∈l:=by unfold Je at h;rw[B5]at h;have h1:=(BC _).subset h;rw[B5]at h1;exact(BC _).subset h1
theorem jX:∀(acc l p:List CV),p∈QZ acc l->∀v∈p,v∈acc\/v∈l
 |acc,[],p,hp,v,hv=>by
  rw[QZ,AL]at hp;subst hp
  exact .inl (J9 hv)
 |acc,u::r,p,hp,v,hv=>by
  rw[QZ]at hp
  split at hp
  ·rcases A1.1 hp with rfl|hp
   ·exact .inl (J9 hv)
   ·rcases jX [] r p hp v hv with h|h
    ·cases h
    ·exact .inr (AW _ h)
  ·rcases jX (acc++[u]) r p hp v hv with h|h
   ·rcases List.mem_append.1 h with h|h
    ·exact .inl h
    ·exact .inr (by rw[AL]at h;subst h;exact Be ..)
   ·exact .inr (AW _ h)
def Wn(ps:List (List CV)):List (List V):=ps.map λp=>[.list .no (JH p)]
theorem yg(ps:List (List CV)):((Wn ps).all λx=>x.length==1)=true:=by rw[List.all_eq_true];intro x hx;obtain⟨t,_,rfl⟩:=AC.1 hx;rfl
theorem Hj(ps:List (List CV)):(Wn ps).length=ps.length:=Ao ..
theorem yh(ps:List (List CV)):J3 (Wn ps)=false:=by cases ps<;>rfl
theorem kL(ps:List (List CV))(p:List CV):Wn (ps++[p])=Wn ps++[[.list .no (JH p)]]:=by simp[Wn]
inductive X
 |mk (k n d u:Int) (kids:List X)
def X.k:X->Int
 | .mk k _ _ _ _=>k
def X.kids:X->List X
 | .mk _ _ _ _ l=>l
def Jq:X:= .mk 0 0 0 0 []
def WB:List (List Int):=[[112,120],[101,109],[114,101,109],[118,119],[118,104],[99,113,119],[99,113,104]]
def unitF(s:List Int):List (List Int)->Nat->Int
 |[],_=>0
 |n::r,i=>if(n==s)=true then(i:Int)+1 else unitF s r (i+1)
def ZC(b:List Int):Int:=unitF (Jc b) WB 0
def yW(n d u:Int):X:=if Spell.kK n d=true then .mk 1 n d u []else .mk 1 0 0 u []
def skipS(l:List CV)(at':Nat):Nat:=at'+((l.drop at').takeWhile JS).length
def KM(l:List CV)(at':Nat)(one other:Int)(apart:Bool):Option Bool×Nat:=
 match l[skipS l at']? with
 |none=>(none,at')
 |some v=>if(v.k==9)=true then
   (
    if((v.t.b==[one]||v.t.b==[other])&&(!apart||(decide (at'<skipS l at')&&decide (skipS l at'+1<skipS l (skipS l at'+1)))))=true
    then(some (!(v.t.b==[one])),skipS l (skipS l at'+1))else(none,at'))
  else(none,at')
def J2(op:CV->X×Bool)(l:List CV)(at':Nat):X×Bool×Nat:=
 match l[at']? with
 |none=>(Jq,false,at')
 |some v=>((op v).1,(op v).2,at'+1)
def KJ(step:Nat->X×Bool×Nat)(sg:Nat->Option Bool×Nat)(inv:Int):Nat->Nat->List X->Sum (X×Nat) (List X×Nat)
 |0,at',ks=> .inr (ks,at')
 |f+1,at',ks=>match sg at' with
  |(none,a)=> .inr (ks,a)
  |(some b,a)=>match step a with
   |(e,false,a')=> .inl (e,a')
   |(e,true,a')=>KJ step sg inv f a' (ks++[if b=true then .mk inv 0 0 0 [e]else e])
def J8:X->X
 | .mk _ _ _ _ [e]=>e
 |e=>e
def Qa(step:Nat->X×Bool×Nat)(sg:Nat->Option Bool×Nat)(kind inv:Int)(f at':Nat):X×Bool×Nat:=
 match step at' with
 |(e,false,a)=>(e,false,a)
 |(e,true,a)=>match KJ step sg inv f a [e]with
  | .inl (e',a')=>(e',false,a')
  | .inr (ks,a')=>(J8 (.mk kind 0 0 0 ks),true,a')
def Qn(op:CV->X×Bool)(l:List CV)(at':Nat):X×Bool×Nat:=Qa (J2 op l) (λa=>KM l a 42 47 false) 4 5 (l.length+1) at'
def JJc(op:CV->X×Bool)(l:List CV)(at':Nat):X×Bool×Nat:=Qa (Qn op l) (λa=>KM l a 43 45 true) 2 3 (l.length+1) at'
def K5(w:List CV->X×Bool):List (List CV)->Option (List X)
 |[]=>some []
 |p::r=>match w p with
  |(_,false)=>none
  |(e,true)=>(K5 w r).map (e:: ·)
def Wo(kind:Int)(w:List CV->X×Bool)(kids:List CV):X×Bool:=
 match K5 w (J1 kids)with
 |none=>(Jq,false)
 |some ks=>(.mk kind 0 0 0 ks,kind !=8||((ks.length:Int)==3))
def W3:List Int:=[99,97,108,99]
def G5:List Int:=[109,105,110]
def G6:List Int:=[109,97,120]
def Qb:List Int:=[99,108,97,109,112]
def KA(w:List CV->X×Bool):CV->X×Bool
 | .mk t kids=>
  if(t.k==10)=true then(yW t.n t.d 0,true)
  else if(t.k==12)=true then(yW t.n t.d (ZC t.b),ZC t.b !=0)
  else if(t.k==2)=true then
   (
    if(Jc t.b==W3)=true then w kids
    else if(Jc t.b==G5)=true then Wo 6 w kids
    else if(Jc t.b==G6)=true then Wo 7 w kids
    else if(Jc t.b==Qb)=true then Wo 8 w kids
    else(Jq,false))
  else(Jq,false)
theorem qX{w:List CV->X×Bool}{t:Tk4}{kids:List CV}(h:(t.k==10)=true):KA w (.mk t kids)=(yW t.n t.d 0,true):=by unfold KA;simp only;rw[if_pos h]
theorem JCa{w:List CV->X×Bool}{t:Tk4}{kids:List CV}(h0:(t.k==10)=false)(h:(t.k==12)=true):KA w (.mk t kids)=(yW t.n t.d (ZC t.b),ZC t.b !=0):=by unfold KA;simp only;rw[if_neg (by rw[h0];simp),if_pos h]
theorem JG1{w:List CV->X×Bool}{t:Tk4}{kids:List CV}(h0:(t.k==10)=false)(h1:(t.k==12)=false)(h:(t.k==2)=false):KA w (.mk t kids)=(Jq,false):=by unfold KA;simp only;rw[if_neg (by rw[h0];simp),if_neg (by rw[h1];simp),if_neg (by rw[h];simp)]
theorem Yo{w:List CV->X×Bool}{t:Tk4}{kids:List CV}(h0:(t.k==10)=false)(h1:(t.k==12)=false)(h:(t.k==2)=true):KA w (.mk t kids)=
  (if(Jc t.b==W3)=true then w kids
    else if(Jc t.b==G5)=true then Wo 6 w kids
    else if(Jc t.b==G6)=true then Wo 7 w kids
    else if(Jc t.b==Qb)=true then Wo 8 w kids
    else(Jq,false)):=by
 unfold KA;simp only;rw[if_neg (by rw[h0];simp),if_neg (by rw[h1];simp),if_pos h]
def kz(w:List CV->X×Bool)(v:CV):X×Bool:=if(v.k==21)=true then w v.ks else KA w v
def KZ:Nat->List CV->X×Bool
 |0,_=>(Jq,false)
 |n+1,l=>let r:=JJc (kz (KZ n)) (Je l) 0;(r.1,r.2.1&&r.2.2==(Je l).length)
def JG2(n:Nat)(v:CV):X×Bool:=KA (KZ n) v
def Jk(n:Nat)(l:List CV):X×Int:=
 if Ky 64 l=true then
  (
   match Je l with
   |[v]=>(match JG2 n v with
    |(e,true)=>(e,0)
    |(_,false)=>(Jq,3))
   |_=>(Jq,3))
 else(Jq,1)
end Go.Lift.Rul
end

section
open Go.Proofs
namespace Go.Lift.Y1
open Rul
open Utf (By)
variable{lo:Nat}{h:JM}
mutual
def xC:X->List V
 | .mk k n d u kids=>[.v (.int .i64 k),.v (.int .i64 n),.v (.int .i64 d),.v (.int .i64 u),.list .no (ZG kids)]
def ZG:List X->List (List V)
 |[]=>[]
 |x::r=>xC x::ZG r
end
theorem JP(k n d u:Int)(l:List X):xC (.mk k n d u l)=[.v (.int .i64 k),.v (.int .i64 n),.v (.int .i64 d),.v (.int .i64 u),.list .no (ZG l)]:=by rw[xC]
theorem JW:ZG []=[]:=by rw[ZG]
theorem J6(x:X)(l:List X):ZG (x::l)=xC x::ZG l:=by rw[ZG]
theorem GN:∀l,ZG l=l.map xC
 |[]=>by rw[ZG];rfl
 |x::r=>by rw[ZG,GN r];rfl
theorem Jf(l:List X):(ZG l).length=l.length:=by rw[GN,Ao]
def JAL:List (List V):=WB.map λn=>[.v (.string (Rul.bs n))]
theorem f137:E lo 137 [] h=some (.list .no JAL,h):=by rw[Jjl];simp only[go_sem,Jco,Tryz.f137]<;>rfl
abbrev N95(b:List Int)(j:Int):Jr:=[(0,.v (.string (Rul.bs b))),(5,.list .no JAL),(6,.v (.int .i64 7)),(7,.v (.int .i64 j))]
theorem JkD{b n:List Int}{j:Nat}(hlo:lo<=h.length)(hy:By b)(hl:b.length<=1000000000)(hg:WB[j]? =some n):
  evCode ⟨Aa,E,lo,h.length,JMC⟩ JA GL (N95 b j,h)=if(n==Jc b)=true then some (.ret,[(2,.v (.int .i64 ((j:Int)+1)))],h)else some (.normal,N95 b (j+1:Nat),h):=by
 have hlt:j<7:=(Ab.1 hg).1
 have hgr:JAL[j]? =some [.v (.string (Rul.bs n))]:=by unfold JAL;rw[Am,hg];rfl
 have hn:By n:=by have hm:=Ah hg;simp only[WB,A1,BK,or_false]at hm;rcases hm with rfl|rfl|rfl|rfl|rfl|rfl|rfl<;>(intro c hc;simp at hc;omega)
 have q1:decide ((j:Int)<7)=true:=by rw[decide_eq_true_iff];omega
 have t1:Bp (j:Int)=j:=om;have hw:AQ.wrap ((j:Int)+1)=(j:Int)+1:=by rw[KY om om]
 have hw2:((j+1:Nat):Int)=(j:Int)+1:=om;have c117:=λlo h hlo=>f117 (lo:=lo) (h:=h) (l:=b) hlo om hy
 have q:=K1 hn (Yn hy);rw[hw2]
 cases hq:n==Jc b with
 |true=>
  rw[hq]at q;rw[if_pos rfl]
  simp only[N95,go_sem,GL,JDQ,Tryz.f116,hlo,q1,hgr,t1,hw,c117,q]<;>rfl
 |false=>
  rw[hq]at q;rw[if_neg (by simp)]
  simp only[N95,go_sem,GL,JDQ,Tryz.f116,hlo,q1,hgr,t1,hw,c117,q]<;>rfl
theorem JRd{b:List Int}(hlo:lo<=h.length):
  evCode ⟨Aa,E,lo,h.length,JMC⟩ JA GL (N95 b (7:Nat),h)=some (.exit 0,N95 b (7:Nat)++[(8,.v (.bool false))],h):=by
 have q1:decide (((7:Nat):Int)<7)=false:=rfl;simp only[N95,go_sem,GL,JDQ,Tryz.f116,hlo,q1]<;>rfl
theorem JCb{s n:List Int}{j:Nat}(hg:WB[j]? =some n):unitF s (WB.drop j) j=if(n==s)=true then(j:Int)+1 else unitF s (WB.drop (j+1)) (j+1):=by
 obtain⟨hlt,rfl⟩:=Ab.1 hg
 rw[Ap hlt];rfl
theorem JKd{b:List Int}(hlo:lo<=h.length)(hy:By b)(hl:b.length<=1000000000):∀m j:Nat,j+m=7->
  JA (evCode ⟨Aa,E,lo,h.length,JMC⟩ JA GL) (N95 b j,h)=some (.ret,[(2,.v (.int .i64 (unitF (Jc b) (WB.drop j) j)))],h)\/
  (unitF (Jc b) (WB.drop j) j=0/\JA (evCode ⟨Aa,E,lo,h.length,JMC⟩ JA GL) (N95 b j,h)=some (.exit 0,N95 b (7:Nat)++[(8,.v (.bool false))],h))
 |0,j,hk=>by
  obtain rfl:j=7:=om
  exact .inr ⟨rfl,by rw[JJ,JRd hlo,Jx]⟩
 |m+1,j,hk=>by
  have hlt:j<WB.length:=by show j<7;omega
  have hp:=Ac hlt
  rw[JCb hp,JJ,JkD hlo hy hl hp];by_cases hq:(WB[j]==Jc b)=true
  ·rw[if_pos hq,if_pos hq,Ki]
   exact .inl rfl
  ·rw[if_neg hq,if_neg hq,Jg]
   exact JKd hlo hy hl m (j+1) om
theorem f116{b:List Int}(hlo:lo<=h.length)(hy:By b)(hl:b.length<=1000000000):E lo 116 [.v (.string (Rul.bs b))] h=some (.v (.int .i64 (ZC b)),h):=by
 have c137:=λlo h=>f137 (lo:=lo) (h:=h)
 have hn:(JAL.length:Int)=7:=rfl;unfold ZC;rw[JjN];rcases JKd hlo hy hl 7 0 rfl with hL|⟨h0,hL⟩
 ·rw[AJ]at hL
  simp only[GL,JDQ,Tryz.f116,JK,loops,JB,N95,go_sem]at hL;simp only[go_sem,JDQ,Tryz.f116,hlo,c137,hn,hL]<;>rfl
 ·rw[AJ]at h0
  rw[h0];simp only[GL,JDQ,Tryz.f116,JK,loops,JB,N95,go_sem]at hL;simp only[go_sem,JDQ,Tryz.f116,hlo,c137,hn,hL]<;>rfl
theorem f115{n d u:Int}(h0: -9223372036854775808<=n)(h1:n<=9223372036854775807)(h2:d<=9223372036854775807)(hlo:lo<=h.length):
  E lo 115 [.agg [.v (.int .i64 n),.v (.int .i64 d)],.v (.int .i64 u)] h=some (.agg (xC (yW n d u)),h):=by
 have l1:lo<=h.length+1:=om;have l2:lo<=h.length+1+1:=om;have c:=λlo h hlo=>f136 (lo:=lo) (h:=h) h0 h1 h2 hlo
 rw[JjM];unfold yW
 cases hm:Spell.kK n d with
 |true=>
  rw[hm]at c;rw[if_pos rfl,JP,JW]
  simp only[go_sem,JWx,Tryz.f115,hlo,l1,l2,c]<;>rfl
 |false=>
  rw[hm]at c;rw[if_neg (by simp),JP,JW]
  simp only[go_sem,JWx,Tryz.f115,hlo,l1,l2,c]<;>rfl
theorem f144{e:X}(hlo:lo<=h.length)(hl:e.kids.length<=1000000000):E lo 144 [.agg (xC e)] h=some (.agg (xC (J8 e)),h):=by
 have l1:lo<=h.length+1:=om;obtain⟨k,n,d,u,kids⟩:=e;rw[Jjq,JP]
 match kids,hl with
 |[],_=>
  have q:(((0:Nat):Int)==1)=false:=rfl;have q':((0:Int)==1)=false:=rfl;rw[JW];show _=some (V.agg (xC (.mk k n d u [])),h)
  rw[JP,JW]
  simp only[go_sem,JRR,Tryz.f144,hlo,l1,q,q',Ak]<;>rfl
 |[x],_=>
  obtain⟨k',n',d',u',kids'⟩:=x;have q:(((0+1:Nat):Int)==1)=true:=rfl;have q':((1:Int)==1)=true:=rfl;rw[J6,JW];show _=some (V.agg (xC (.mk k' n' d' u' kids')),h)
  rw[JP]
  simp only[go_sem,JRR,Tryz.f144,hlo,l1,q,q',Ai,Ak]<;>rfl
 |x::y::r,hl=>
  have q:(((r.length+1+1:Nat):Int)==1)=false:=by rw[beq_eq_false_iff_ne];omega
  show _=some (V.agg (xC (.mk k n d u (x::y::r))),h)
  rw[JP,J6,J6];simp only[go_sem,JRR,Tryz.f144,hlo,l1,q,Ai,Jf]<;>rfl
end Go.Lift.Y1
end
