/- prop.table, prop.places, prop.Place. -/
import Derived.ProofKit
import Derived.Lib.TrailingZeros
import Derived.Lib.ItoaNum
import Derived.Test.YtolidijpmnompaaGreatDoorGLd
import Derived.Test.YtolidijpmnompaaGreatDoorGKa
import Derived.Test.YtolidijpmnompaaGreatDoorGK4Basea
open Bool renaming and_eq_true->Af,eq_iff_iff->BO,false_and->As,false_or->A3,or_eq_true->AU,true_and->Aw
open ByteArray renaming ext->DS,get! ->L3,size->De
open Go.IntKind renaming bits->CA,i64->Am,signed->Cp,u64->Ba,u8->BM,wrap->Dd
open Go.Proofs.Tryz renaming prog->Aa
open Int renaming mul_assoc->DT,mul_comm->DE,pow_succ->Ch,toNat->Bw,toNat_natCast->BS
open List renaming append_eq_nil_iff->CJ,append_nil->AE,dropWhile_cons->A8,dropWhile_cons_of_neg->Bn,dropWhile_sublist->BH,dropWhile_suffix->BR,drop_succ_cons->BQ,drop_zero->AD,eq_nil_of_length_eq_zero->Ar,getElem?_eq_getElem->Ac,getElem?_eq_some_iff->Ab,length->Bq,length_cons->Ae,length_map->Aq,length_nil->Ai,length_reverse->Lt,length_take->Az,map_congr_left->A4,map_nil->BJ,mem_cons->AP,mem_cons_of_mem->AX,mem_cons_self->Bj,mem_map->AM,mem_of_getElem? ->Aj,mem_reverse->B6,mem_singleton->A1,nil_append->Au,takeWhile_cons_of_pos->Be,take_append_drop->Co,take_length->BP,take_of_length_le->BW
open Nat renaming add_zero->Bo,gcd->Df,le_refl->Ad,le_trans->Bt,zero_add->AC
open Option renaming map_some->AK
open UInt8 renaming toNat_ofNat'->Cr
set_option linter.unusedVariables false
set_option linter.unusedSimpArgs false
set_option linter.unusedSectionVars false
set_option maxRecDepth 100000
set_option maxHeartbeats 4000000
section
open Go.Proofs
namespace Go.Lift.Y1
variable{lo:Nat}{h:JG}
structure PR where
 n:ByteArray
 k:Int
 d:Bool
 l:Bool
 w:ByteArray
 ini:ByteArray
 nu:Int
 de:Int
def tblP:List PR:=[
 ⟨⟨#[99,111,108,111,114]⟩,3,true,false,⟨#[98,108,97,99,107,32,119,104,105,116,101,32,114,101,100,32,103,114,101,101,110,32,98,108,117,101,32,116,114,97,110,115,112,97,114,101,110,116]⟩,⟨#[98,108,97,99,107]⟩,0,0⟩,
 ⟨⟨#[100,105,115,112,108,97,121]⟩,3,false,false,⟨#[105,110,108,105,110,101,32,98,108,111,99,107,32,110,111,110,101,32,102,108,101,120,32,103,114,105,100]⟩,⟨#[105,110,108,105,110,101]⟩,0,0⟩,
 ⟨⟨#[102,111,110,116,45,115,105,122,101]⟩,1,true,false,⟨#[]⟩,⟨#[]⟩,16,1⟩,
 ⟨⟨#[103,97,112]⟩,1,false,false,⟨#[]⟩,⟨#[]⟩,0,1⟩,
 ⟨⟨#[104,101,105,103,104,116]⟩,1,false,false,⟨#[97,117,116,111]⟩,⟨#[97,117,116,111]⟩,0,0⟩,
 ⟨⟨#[108,101,102,116]⟩,1,false,true,⟨#[97,117,116,111]⟩,⟨#[97,117,116,111]⟩,0,0⟩,
 ⟨⟨#[108,105,110,101,45,104,101,105,103,104,116]⟩,2,true,false,⟨#[]⟩,⟨#[]⟩,6,5⟩,
 ⟨⟨#[109,97,114,103,105,110]⟩,1,false,true,⟨#[97,117,116,111]⟩,⟨#[]⟩,0,1⟩,
 ⟨⟨#[111,112,97,99,105,116,121]⟩,2,false,false,⟨#[]⟩,⟨#[]⟩,1,1⟩,
 ⟨⟨#[111,114,100,101,114]⟩,2,false,true,⟨#[]⟩,⟨#[]⟩,0,1⟩,
 ⟨⟨#[112,97,100,100,105,110,103]⟩,1,false,false,⟨#[]⟩,⟨#[]⟩,0,1⟩,
 ⟨⟨#[116,101,120,116,45,97,108,105,103,110]⟩,3,true,false,⟨#[115,116,97,114,116,32,101,110,100,32,99,101,110,116,101,114]⟩,⟨#[115,116,97,114,116]⟩,0,0⟩,
 ⟨⟨#[118,105,115,105,98,105,108,105,116,121]⟩,3,true,false,⟨#[118,105,115,105,98,108,101,32,104,105,100,100,101,110,32,99,111,108,108,97,112,115,101]⟩,⟨#[118,105,115,105,98,108,101]⟩,0,0⟩,
 ⟨⟨#[119,105,100,116,104]⟩,1,false,false,⟨#[97,117,116,111]⟩,⟨#[97,117,116,111]⟩,0,0⟩]
def JCt(p:PR):List V:=[.v (.string p.n),.v (.int .i64 p.k),.v (.bool p.d),.v (.bool p.l),.v (.string p.w),.v (.string p.ini),.v (.int .i64 p.nu),.v (.int .i64 p.de)]
theorem f51:E lo 51 [] h=some (.list .no (tblP.map JCt),h):=by rw[e51];simp only[go_sem,b51,Tryz.f51]<;>rfl
@[go_sem] theorem Jrd(b:Nat):Jm (.mp b)= .mp b:=rfl
@[go_sem] theorem Jre(b:Nat):J0 (.mp b)= .mp b:=rfl
@[go_sem] theorem Jrf(b:Nat):own1 (.mp b)= .mp b:=rfl
@[go_sem] theorem Jrg(b:Nat):cps (.mp b)= .mp b:=rfl
@[go_sem] theorem Jrh(b:Nat):fzs (.mp b)= .mp b:=rfl
@[go_sem] theorem Ju8(vars:List Nat)(t b:Nat):Wn vars t (.mp b)=some (.mp b):=rfl
def HK(k:Nat):List (Value×Value):=(tblP.take k).mapIdx λi p=>(.string p.n,.int .i64 i)
theorem Jri:H5 Aa 9 (.string ⟨#[99,111,108,111,114]⟩) (.int .i64 ((0:Nat):Int)) (HK 0)=some (HK 1):=kr
theorem Jrj:H5 Aa 9 (.string ⟨#[100,105,115,112,108,97,121]⟩) (.int .i64 ((1:Nat):Int)) (HK 1)=some (HK 2):=kr
theorem Jrk:H5 Aa 9 (.string ⟨#[102,111,110,116,45,115,105,122,101]⟩) (.int .i64 ((2:Nat):Int)) (HK 2)=some (HK 3):=kr
theorem Jrl:H5 Aa 9 (.string ⟨#[103,97,112]⟩) (.int .i64 ((3:Nat):Int)) (HK 3)=some (HK 4):=kr
theorem Jrm:H5 Aa 9 (.string ⟨#[104,101,105,103,104,116]⟩) (.int .i64 ((4:Nat):Int)) (HK 4)=some (HK 5):=kr
theorem Jrn:H5 Aa 9 (.string ⟨#[108,101,102,116]⟩) (.int .i64 ((5:Nat):Int)) (HK 5)=some (HK 6):=kr
theorem Jro:H5 Aa 9 (.string ⟨#[108,105,110,101,45,104,101,105,103,104,116]⟩) (.int .i64 ((6:Nat):Int)) (HK 6)=some (HK 7):=kr
theorem Jrp:H5 Aa 9 (.string ⟨#[109,97,114,103,105,110]⟩) (.int .i64 ((7:Nat):Int)) (HK 7)=some (HK 8):=kr
theorem Jrq:H5 Aa 9 (.string ⟨#[111,112,97,99,105,116,121]⟩) (.int .i64 ((8:Nat):Int)) (HK 8)=some (HK 9):=kr
theorem Jrr:H5 Aa 9 (.string ⟨#[111,114,100,101,114]⟩) (.int .i64 ((9:Nat):Int)) (HK 9)=some (HK 10):=kr
theorem Jj6:H5 Aa 9 (.string ⟨#[112,97,100,100,105,110,103]⟩) (.int .i64 ((10:Nat):Int)) (HK 10)=some (HK 11):=kr
theorem Jj7:H5 Aa 9 (.string ⟨#[116,101,120,116,45,97,108,105,103,110]⟩) (.int .i64 ((11:Nat):Int)) (HK 11)=some (HK 12):=kr
theorem Jj8:H5 Aa 9 (.string ⟨#[118,105,115,105,98,105,108,105,116,121]⟩) (.int .i64 ((12:Nat):Int)) (HK 12)=some (HK 13):=kr
theorem Jj9:H5 Aa 9 (.string ⟨#[119,105,100,116,104]⟩) (.int .i64 ((13:Nat):Int)) (HK 13)=some (HK 14):=kr
theorem JkA:∀k:Nat,k<14->∀p:PR,tblP[k]? =some p->H5 Aa 9 (.string p.n) (.int .i64 k) (HK k)=some (HK (k+1)):=by
 intro k hk p hp
 match k,hk with
 |0,_=>cases hp;exact Jri
 |1,_=>cases hp;exact Jrj
 |2,_=>cases hp;exact Jrk
 |3,_=>cases hp;exact Jrl
 |4,_=>cases hp;exact Jrm
 |5,_=>cases hp;exact Jrn
 |6,_=>cases hp;exact Jro
 |7,_=>cases hp;exact Jrp
 |8,_=>cases hp;exact Jrq
 |9,_=>cases hp;exact Jrr
 |10,_=>cases hp;exact Jj6
 |11,_=>cases hp;exact Jj7
 |12,_=>cases hp;exact Jj8
 |13,_=>cases hp;exact Jj9
 |n+14,hk=>omega
abbrev N30(b:V)(k:Int):Jl:=[(1,b),(5,.list .no (tblP.map JCt)),(6,.v (.int .i64 14)),(7,.v (.int .i64 k))]
theorem r86{k:Nat}{p:PR}(hlo:lo<=h.length)(hk:k<14)(hp:tblP[k]? =some p):
  evCode ⟨Aa,E,lo,h.length,h86⟩ JA JGx (N30 (.mp h.length) k,h++[.tab (HK k)])=some (.normal,N30 (.mp h.length) (k+1:Nat),h++[.tab (HK (k+1))]):=by
 have l1:lo<=h.length+1:=om;have hput:=JkA k hk p hp;have hgr:(tblP.map JCt)[k]? =some (JCt p):=by simp[hp]
 have q1:decide ((k:Int)<14)=true:=by rw[decide_eq_true_iff];omega
 have t1:Bw (k:Int)=k:=om;have w1:=JM (i:=k) om;simp only[JCt,N30,go_sem,yL,JGx,b86,Tryz.f86,hlo,l1,q1,hgr,t1,w1,hput]<;>rfl
theorem Jds(hlo:lo<=h.length):evCode ⟨Aa,E,lo,h.length,h86⟩ JA JGx (N30 (.mp h.length) (14:Nat),h++[.tab (HK 14)])=some (.exit 0,N30 (.mp h.length) (14:Nat)++[(8,.v (.bool false))],h++[.tab (HK 14)]):=by have l1:lo<=h.length+1:=om;have q1:decide (((14:Nat):Int)<14)=false:=rfl;simp only[N30,go_sem,JGx,b86,Tryz.f86,hlo,l1,q1]<;>rfl
theorem JUM(hlo:lo<=h.length):∀n k:Nat,k+n=14->
  JA (evCode ⟨Aa,E,lo,h.length,h86⟩ JA JGx) (N30 (.mp h.length) k,h++[.tab (HK k)])=some (.exit 0,N30 (.mp h.length) (14:Nat)++[(8,.v (.bool false))],h++[.tab (HK 14)])
 |0,k,hk=>by
  obtain rfl:k=14:=om
  rw[JB,Jds hlo,Jx]
 |n+1,k,hk=>by
  have hlt:k<tblP.length:=by show k<14;omega
  rw[JB,r86 hlo om (Ac hlt),JO]
  exact JUM hlo n (k+1) om
theorem f86(hlo:lo<=h.length):E lo 86 [] h=some (.mp h.length,h++[.tab (HK 14)]):=by
 have l1:lo<=h.length+1:=om;have c51:=λlo h=>f51 (lo:=lo) (h:=h)
 have hL:=JUM (h:=h) hlo 14 0 rfl;have hn:((tblP.map JCt).length:Int)=14:=rfl;have e0:HK 0=[]:=rfl;rw[e0]at hL;rw[e86 (by simp) (by rfl)]
 simp only[JGx,b86,Tryz.f86,JK,loops,JC,N30,go_sem]at hL;simp only[go_sem,b86,Tryz.f86,hlo,l1,c51,hn,hL]<;>rfl
def atL(s:ByteArray):List PR->Nat->Option Nat
 |[],_=>none
 |p::r,i=>if(s.toList==p.n.toList)=true then some i else atL s r (i+1)
def esL:List PR->Nat->List (Value×Value)
 |[],_=>[]
 |p::r,i=>(.string p.n,.int .i64 i)::esL r (i+1)
theorem JLg(s:ByteArray):∀(l:List PR) (i:Nat),km .string (.string s) (esL l i) i=some ((atL s l i).map λj=>(j,.int .i64 j))
 |[],_=>rfl
 |p::r,i=>by
  unfold esL km atL;simp only[JD8]
  cases q:s.toList==p.n.toList with
  |true=>simp
  |false=>simp[JLg s r (i+1)]
theorem Jdt:HK 14=esL tblP 0:=rfl
def JNq(s:ByteArray):V:=match atL s tblP 0 with
 |some i=> .tup [.v (.int .i64 i),.v (.bool true)]
 |none=> .tup [.v (.int .i64 0),.v (.bool false)]
def JJq(s:ByteArray):Int:=match atL s tblP 0 with
 |some i=>i
 |none=> -1
theorem JkB:JOS Aa 3=some (.int .i64 0):=kr
theorem JXc(s:ByteArray):JOT Aa 9 3 (.string s) (HK 14) true=some (JNq s):=by unfold JOT;rw[Tryz.underlying9];simp only[JBV,if_true,Jdt,JLg,JkB];unfold JNq;cases atL s tblP 0<;>rfl
theorem f50{s:ByteArray}(hlo:lo<=h.length):E lo 50 [.v (.string s)] h=some (.v (.int .i64 (JJq s)),h):=by
 have l1:lo<=h.length+1:=om;have c86:=λlo hlo=>f86 (lo:=lo) (h:=h) hlo
 have hl:=JXc s;rw[e50];unfold JNq at hl;unfold JJq
 cases hq:atL s tblP 0 with
 |none=>
  rw[hq]at hl
  simp only[go_sem,yK,b50,Tryz.f50,hlo,l1,c86,hl,Ad]<;>rfl
 |some i=>rw[hq]at hl;simp only[go_sem,yK,b50,Tryz.f50,hlo,l1,c86,hl,Ad]<;>rfl
noncomputable def JJr(w:ByteArray):List (List V):=(Go.Lib.fields w.data.toList).map λl=>[.v (.string ⟨l.toArray⟩)]
def JUN(p:PR):List V:=
 if(p.de==0)=true then[.v (.int .i64 3),.v (.int .i64 0),.v (.int .i64 0),.v (.string p.ini)]
 else if(p.k==1)=true then[.v (.int .i64 1),.v (.int .i64 p.nu),.v (.int .i64 p.de),.v (.string ⟨#[]⟩)]
 else[.v (.int .i64 2),.v (.int .i64 p.nu),.v (.int .i64 p.de),.v (.string ⟨#[]⟩)]
noncomputable def W6(p:PR):List V:=[.v (.string p.n),.v (.int .i64 p.k),.v (.bool p.d),.v (.bool p.l),.list .no (JJr p.w)]++JUN p
def JCu:List V:=[.v (.string ⟨#[]⟩),.v (.int .i64 0),.v (.bool false),.v (.bool false),.list .no [],.v (.int .i64 0),.v (.int .i64 0),.v (.int .i64 0),.v (.string ⟨#[]⟩)]
theorem JRS:∀p∈tblP,p.w.size<4294967281/\(p.w.data.toList.all λb=>decide (b.toNat<128))=true:=by intro p hp;simp only[tblP,AP,List.not_mem_nil,or_false]at hp;rcases hp with rfl|rfl|rfl|rfl|rfl|rfl|rfl|rfl|rfl|rfl|rfl|rfl|rfl|rfl<;>exact⟨by decide,by decide⟩
theorem f52{p:PR}(hp:p∈tblP):E lo 52 [.v (.string p.w)] h=some (.list .no (JJr p.w),h):=by
 refine(JJd (p:=Hb) rfl).trans ?_
 unfold Hb JJr;exact if_pos (JRS p hp)
theorem Jrs{s:ByteArray}(hlo:lo<=h.length)(hq:atL s tblP 0=none):E lo 21 [.v (.string s)] h=some (.tup [.agg JCu,.v (.bool false)],h):=by
 have l1:lo<=h.length+1:=om;have c50:=λlo h hlo=>f50 (lo:=lo) (h:=h) (s:=s) hlo
 unfold JJq at c50;rw[hq]at c50;have q:decide ((-1:Int)<0)=true:=rfl;rw[e21];simp only[go_sem,b21,Tryz.f21,hlo,l1,c50,q]<;>rfl
theorem Jrt{s:ByteArray}{i:Nat}{p:PR}(hlo:lo<=h.length)(hq:atL s tblP 0=some i)(hp:tblP[i]? =some p):E lo 21 [.v (.string s)] h=some (.tup [.agg (W6 p),.v (.bool true)],h):=by
 have l1:lo<=h.length+1:=om;have l2:lo<=h.length+1+1:=om;have c50:=λlo h hlo=>f50 (lo:=lo) (h:=h) (s:=s) hlo
 have c51:=λlo h=>f51 (lo:=lo) (h:=h)
 have c52:=λlo h=>f52 (lo:=lo) (h:=h) (Aj hp)
 unfold JJq at c50;rw[hq]at c50;have q:decide ((i:Int)<0)=false:=by rw[decide_eq_false_iff_not];omega
 have hgr:(tblP.map JCt)[i]? =some (JCt p):=by simp[hp]
 have t1:Bw (i:Int)=i:=om;unfold W6 JUN;rw[e21]
 cases hd:p.de==0 with
 |true=>simp only[JCt,go_sem,b21,Tryz.f21,hlo,l1,l2,c50,c51,c52,q,hgr,t1,hd]<;>rfl
 |false=>
  cases hk:p.k==1 with
  |true=>simp only[JCt,go_sem,b21,Tryz.f21,hlo,l1,l2,c50,c51,c52,q,hgr,t1,hd,hk]<;>rfl
  |false=>simp only[JCt,go_sem,b21,Tryz.f21,hlo,l1,l2,c50,c51,c52,q,hgr,t1,hd,hk]<;>rfl
end Go.Lift.Y1
end

section
open Go.Proofs
namespace Go.Lift.Y1
open Rul
variable{lo:Nat}{h:JG}
theorem f90(hlo:lo<=h.length)(v:CV):E lo 90 [.agg (Js v)] h=some (.v (.bool (JU v)),h):=by obtain⟨t,ks⟩:=v;rw[JP,e90];simp only[go_sem,b90,Tryz.f90,hlo]<;>rfl
theorem f68(hlo:lo<=h.length)(v:CV):E lo 68 [.agg (Js v)] h=some (.v (.bool (JU v)),h):=by obtain⟨t,ks⟩:=v;rw[JP,e68];simp only[go_sem,b68,Tryz.f68,hlo]<;>rfl
theorem Qy(r:List CV):(JJ r).take r.length=JJ r:=by rw[K9,BP]
abbrev N56(l:List CV):Jl:=[(0,.list .no (JJ l))]
theorem JUO{v:CV}{r:List CV}(hlo:lo<=h.length):
  evCode ⟨Aa,E,lo,h.length,h58⟩ JA JCg (N56 (v::r),h)=
   if JU v=true then some (.normal,N56 r,h)else some (.exit 0,N56 (v::r)++[(11,.v (.bool false))],h):=by
 obtain⟨t,ks⟩:=v;have q:decide ((0:Int)<((r.length+1:Nat):Int))=true:=by rw[decide_eq_true_iff];omega
 have c:=λlo hlo=>f90 (lo:=lo) (h:=h) hlo (.mk t ks)
 rw[JP]at c;have ca:=c lo hlo;have cb:=c h.length (Ad _);clear c
 cases hs:JU (.mk t ks)with
 |true=>
  rw[hs]at ca cb;rw[if_pos rfl]
  simp only[go_sem,JCg,b58,Tryz.f58,hlo,q,ca,cb,JZ,JP,JD,Qy,Jn,Ad]<;>rfl
 |false=>
  rw[hs]at ca cb;rw[if_neg (by simp)]
  simp only[N56,go_sem,JCg,b58,Tryz.f58,hlo,q,ca,cb,JZ,JP,JD,Qy,Jn,Ad]<;>rfl
theorem JXd(hlo:lo<=h.length):evCode ⟨Aa,E,lo,h.length,h58⟩ JA JCg (N56 [],h)=some (.exit 0,N56 []++[(11,.v (.bool false))],h):=by have q:decide ((0:Int)<((0:Nat):Int))=false:=rfl;simp only[N56,go_sem,JCg,b58,Tryz.f58,hlo,q,JX]<;>rfl
theorem JOy(hlo:lo<=h.length):∀l:List CV,JA (evCode ⟨Aa,E,lo,h.length,h58⟩ JA JCg) (N56 l,h)=some (.exit 0,N56 (Ju l)++[(11,.v (.bool false))],h)
 |[]=>by
  rw[JB,JXd hlo,Jx]<;>rfl
 |v::r=>by
  rw[JB,JUO hlo]
  have hl:Ju (v::r)=if JU v=true then Ju r else v::r:=by unfold Ju;rw[A8]
  rw[hl]
  split
  ·rw[JO]
   exact JOy hlo r
  ·rw[Jx]
theorem JUP{v:CV}{r:List CV}{ex:Jl}(hex:ex=[]\/ex=[(11,.v (.bool false))])(hlo:lo<=h.length)(hl:r.length<=1000000000000):
  evCode ⟨Aa,E,lo,h.length,h58⟩ JA qD (N56 (r++[v])++ex,h)=
   if JU v=true then some (.normal,N56 r,h)else some (.exit 2,N56 (r++[v])++[(25,.v (.bool false))],h):=by
 obtain⟨t,ks⟩:=v;have q:decide ((0:Int)<((r.length+1:Nat):Int))=true:=by rw[decide_eq_true_iff];omega
 have hw:Am.wrap (((r.length+1:Nat):Int)-1)=(r.length:Int):=by rw[JW]<;>omega
 have hg:(JJ (r++[.mk t ks]))[r.length]? =some (Js (.mk t ks)):=by rw[Jq];simp
 have ht:(JJ (r++[.mk t ks])).take r.length=JJ r:=by rw[K9];simp
 have hll:(JJ (r++[.mk t ks])).length=r.length+1:=by rw[JD];simp
 have c:=λlo hlo=>f90 (lo:=lo) (h:=h) hlo (.mk t ks)
 rw[JP]at c hg;have ca:=c lo hlo;have cb:=c h.length (Ad _);clear c;have hra:=Jn (r++[.mk t ks]);have hle:r.length<=r.length+1:=om;unfold N56;generalize JJ (r++[.mk t ks])=R at*
 cases hs:JU (.mk t ks)with
 |true=>
  rw[hs]at ca cb;rw[if_pos rfl];rcases hex with rfl|rfl
  ·simp only[go_sem,qD,b58,Tryz.f58,hlo,q,ca,cb,hg,ht,hll,hw,hra,hle]<;>rfl
  ·simp only[go_sem,qD,b58,Tryz.f58,hlo,q,ca,cb,hg,ht,hll,hw,hra,hle]<;>rfl
 |false=>
  rw[hs]at ca cb;rw[if_neg (by simp)]
  rcases hex with rfl|rfl
  ·simp only[go_sem,qD,b58,Tryz.f58,hlo,q,ca,cb,hg,ht,hll,hw,hra,hle]<;>rfl
  ·simp only[go_sem,qD,b58,Tryz.f58,hlo,q,ca,cb,hg,ht,hll,hw,hra,hle]<;>rfl
theorem JXe{ex:Jl}(hex:ex=[]\/ex=[(11,.v (.bool false))])(hlo:lo<=h.length):evCode ⟨Aa,E,lo,h.length,h58⟩ JA qD (N56 []++ex,h)=some (.exit 2,N56 []++[(25,.v (.bool false))],h):=by
 have q:decide ((0:Int)<((0:Nat):Int))=false:=rfl;rcases hex with rfl|rfl
 ·simp only[N56,go_sem,qD,b58,Tryz.f58,hlo,q,JX]<;>rfl
 ·simp only[N56,go_sem,qD,b58,Tryz.f58,hlo,q,JX]<;>rfl
theorem JOz(hlo:lo<=h.length):∀(n:Nat) (l:List CV) (ex:Jl),l.length=n->n<=1000000000000->(ex=[]\/ex=[(11,.v (.bool false))])->JA (evCode ⟨Aa,E,lo,h.length,h58⟩ JA qD) (N56 l++ex,h)=some (.exit 2,N56 (Kx l)++[(25,.v (.bool false))],h)
 |0,l,ex,hn,_,hex=>by
  obtain rfl:=Ar hn
  rw[JB,JXe hex hlo,Jx,zt]
 |n+1,l,ex,hn,hb,hex=>by
  obtain⟨r,v,rfl⟩:∃r v,l=r++[v]:=⟨l.dropLast,l.getLast (by intro e;rw[e]at hn;cases hn),(List.dropLast_concat_getLast _).symm⟩
  have hr:r.length=n:=by simpa using hn
  rw[JB,JUP hex hlo om,JCY]
  split
  ·rw[JO]
   have:=JOz hlo n r [] hr om (.inl rfl)
   rwa[AE]at this
  ·rw[Jx]
theorem f58{l:List CV}(hlo:lo<=h.length)(hl:l.length<=1000000000):E lo 58 [.list .no (JJ l)] h=some (.list .no (JJ (Jh l)),h):=by have h1:=JOy (lo:=lo) (h:=h) hlo l;have hl2:(Ju l).length<=l.length:=(BR _).length_le;have h2:=JOz (lo:=lo) (h:=h) hlo _ (Ju l) _ rfl om (.inr rfl);rw[<-jq]at h2;rw[e58];simp only[JCg,qD,b58,Tryz.f58,JK,loops,JC,go_sem,N56]at h1 h2;simp only[go_sem,b58,Tryz.f58,hlo,h1,h2]<;>rfl
abbrev N35(l:List CV)(a b:Nat):Jl:=[(0,.list .no (JJ l)),(3,.v (.int .i64 a)),(4,.v (.int .i64 b))]
theorem JUQ{l:List CV}{v:CV}{a b:Nat}(hlo:lo<=h.length)(hl:l.length<=1000000000)(hg:l[a]? =some v)(hab:a<b):
  evCode ⟨Aa,E,lo,h.length,h36⟩ JA JCe (N35 l a b,h)=
   if JU v=true then some (.normal,N35 l (a+1) b,h)else some (.exit 0,N35 l a b++[(16,.v (.bool false))],h):=by
 obtain⟨t,ks⟩:=v;have hlt:a<l.length:=(Ab.1 hg).1
 have q:decide ((a:Int)<(b:Int))=true:=by simpa using hab
 have hw:=JM (i:=a) om;have hgr:(JJ l)[a]? =some (Js (.mk t ks)):=by rw[Jq,hg]<;>rfl
 have c:=λlo hlo=>f68 (lo:=lo) (h:=h) hlo (.mk t ks)
 rw[JP]at c hgr;have ca:=c lo hlo;have cb:=c h.length (Ad _);clear c
 cases hs:JU (.mk t ks)with
 |true=>
  rw[hs]at ca cb;rw[if_pos rfl]
  simp only[N35,go_sem,JCe,b36,Tryz.f36,hlo,q,ca,cb,hgr,hw]<;>rfl
 |false=>
  rw[hs]at ca cb;rw[if_neg (by simp)]
  simp only[N35,go_sem,JCe,b36,Tryz.f36,hlo,q,ca,cb,hgr,hw]<;>rfl
theorem JXf{l:List CV}{b:Nat}(hlo:lo<=h.length):evCode ⟨Aa,E,lo,h.length,h36⟩ JA JCe (N35 l b b,h)=some (.exit 0,N35 l b b++[(16,.v (.bool false))],h):=by
 have q:decide ((b:Int)<(b:Int))=false:=by simp
 simp only[N35,go_sem,JCe,b36,Tryz.f36,hlo,q]<;>rfl
theorem JO0{l:List CV}(hlo:lo<=h.length)(hl:l.length<=1000000000):∀(m a:Nat),a+m=l.length->∃a',a<=a'/\a'<=l.length/\Ju (l.drop a)=l.drop a'/\
   JA (evCode ⟨Aa,E,lo,h.length,h36⟩ JA JCe) (N35 l a l.length,h)=some (.exit 0,N35 l a' l.length++[(16,.v (.bool false))],h)
 |0,a,hm=>by
  obtain rfl:a=l.length:=om
  exact⟨l.length,Ad _,Ad _,by rw[List.drop_length]<;>rfl,by rw[JB,JXf hlo,Jx]⟩
 |m+1,a,hm=>by
  have hlt:a<l.length:=om;have hd:l.drop a=l[a]::l.drop (a+1):=List.drop_eq_getElem_cons hlt;have hr:=JUQ (h:=h) hlo hl (Ac hlt) hlt
  have he:Ju (l.drop a)=if JU l[a]=true then Ju (l.drop (a+1))else l.drop a:=by rw[hd];unfold Ju;rw[A8]
  rw[he,JB,hr]
  split
  ·rw[JO]
   obtain⟨a',h1,h2,h3,h4⟩:=JO0 hlo hl m (a+1) om;exact⟨a',om,h2,h3,h4⟩
  ·exact⟨a,Ad _,om,rfl,by rw[Jx]⟩
theorem JUR{l:List CV}{v:CV}{a b:Nat}{ex:Jl}(hex:ex=[]\/ex=[(16,.v (.bool false))])(hlo:lo<=h.length)(hl:l.length<=1000000000)(hg:l[b]? =some v)(hab:a<b+1):
  evCode ⟨Aa,E,lo,h.length,h36⟩ JA qC (N35 l a (b+1)++ex,h)=
   if JU v=true then some (.normal,N35 l a b,h)else some (.exit 2,N35 l a (b+1)++[(29,.v (.bool false))],h):=by
 obtain⟨t,ks⟩:=v;have hlt:b<l.length:=(Ab.1 hg).1
 have q:decide ((a:Int)<((b+1:Nat):Int))=true:=by simp;omega
 have hw:Am.wrap (((b+1:Nat):Int)-1)=(b:Int):=by rw[JW]<;>omega
 have hgr:(JJ l)[b]? =some (Js (.mk t ks)):=by rw[Jq,hg]<;>rfl
 have c:=λlo hlo=>f68 (lo:=lo) (h:=h) hlo (.mk t ks)
 rw[JP]at c hgr;have ca:=c lo hlo;have cb:=c h.length (Ad _);clear c
 cases hs:JU (.mk t ks)with
 |true=>
  rw[hs]at ca cb;rw[if_pos rfl];rcases hex with rfl|rfl
  ·simp only[N35,go_sem,qC,b36,Tryz.f36,hlo,q,ca,cb,hgr,hw]<;>rfl
  ·simp only[N35,go_sem,qC,b36,Tryz.f36,hlo,q,ca,cb,hgr,hw]<;>rfl
 |false=>
  rw[hs]at ca cb;rw[if_neg (by simp)]
  rcases hex with rfl|rfl
  ·simp only[N35,go_sem,qC,b36,Tryz.f36,hlo,q,ca,cb,hgr,hw]<;>rfl
  ·simp only[N35,go_sem,qC,b36,Tryz.f36,hlo,q,ca,cb,hgr,hw]<;>rfl
theorem JXg{l:List CV}{b:Nat}{ex:Jl}(hex:ex=[]\/ex=[(16,.v (.bool false))])(hlo:lo<=h.length):evCode ⟨Aa,E,lo,h.length,h36⟩ JA qC (N35 l b b++ex,h)=some (.exit 2,N35 l b b++[(29,.v (.bool false))],h):=by
 have q:decide ((b:Int)<(b:Int))=false:=by simp
 rcases hex with rfl|rfl
 ·simp only[N35,go_sem,qC,b36,Tryz.f36,hlo,q]<;>rfl
 ·simp only[N35,go_sem,qC,b36,Tryz.f36,hlo,q]<;>rfl
theorem JO1{l:List CV}{a:Nat}(hlo:lo<=h.length)(hl:l.length<=1000000000):∀(m b:Nat) (ex:Jl),a+m=b->b<=l.length->(ex=[]\/ex=[(16,.v (.bool false))])->∃b',a<=b'/\b'<=l.length/\Kx ((l.take b).drop a)=(l.take b').drop a/\
   JA (evCode ⟨Aa,E,lo,h.length,h36⟩ JA qC) (N35 l a b++ex,h)=some (.exit 2,N35 l a b'++[(29,.v (.bool false))],h)
 |0,b,ex,hm,hb,hex=>by
  obtain rfl:a=b:=om;have e0:(l.take a).drop a=[]:=List.drop_eq_nil_of_le (by rw[Az];omega)
  exact⟨a,Ad _,hb,by rw[e0,zt],by rw[JB,JXg hex hlo,Jx]⟩
 |m+1,b,ex,hm,hb,hex=>by
  obtain⟨c,rfl⟩:∃c,b=c+1:=⟨b-1,om⟩;have hlt:c<l.length:=om;have hr:=JUR (h:=h) (a:=a) hex hlo hl (Ac hlt) om
  have hd:(l.take (c+1)).drop a=(l.take c).drop a++[l[c]]:=by rw[List.take_succ_eq_append_getElem hlt,List.drop_append_of_le_length (by rw[Az];omega)]
  rw[hd,JCY,JB,hr]
  split
  ·rw[JO]
   obtain⟨b',h1,h2,h3,h4⟩:=JO1 (a:=a) hlo hl m c [] om om (.inl rfl);rw[AE]at h4;exact⟨b',h1,h2,h3,h4⟩
  ·exact⟨c+1,om,hb,by rw[hd],by rw[Jx]⟩
theorem f36{l:List CV}(hlo:lo<=h.length)(hl:l.length<=1000000000):E lo 36 [.list .no (JJ l)] h=some (.list .no (JJ (Jh l)),h):=by
 obtain⟨a,a1,a2,a3,h1⟩:=JO0 (lo:=lo) (h:=h) hlo hl l.length 0 om;obtain⟨b,b1,b2,b3,h2⟩:=JO1 (lo:=lo) (h:=h) (a:=a) hlo hl (l.length-a) l.length _ om (Ad _) (.inr rfl);rw[BP,<-a3,AD,<-jq]at b3;rw[b3];have n0:((0:Nat):Int)=0:=rfl;have q1:a<=b:=b1;have q2:b<=l.length:=b2;have hs:(JJ l).drop a=JJ (l.drop a):=QV l a
 have ht:((JJ l).take b).drop a=JJ ((l.take b).drop a):=by rw[K9,QV]
 rw[e36];simp only[JCe,qC,b36,Tryz.f36,JK,loops,JC,go_sem,N35,n0]at h1 h2;simp only[go_sem,b36,Tryz.f36,hlo,h1,h2,JD,Jn,q1,q2,ht,n0]<;>rfl
end Go.Lift.Y1
end

section
open Go.Proofs
namespace Go.Lift.Y1
open Utf Tok
def low(c:Int):Int:=if(decide (65<=c)&&decide (c<=90))=true then c+32 else c
def bl(l:List Int):List V:=l.map λn=> .v (.int .u8 n)
theorem YO(l:List Int):(bl l).length=l.length:=by simp[bl]
theorem JCv(l:List Int)(i:Nat):(bl l)[i]? =(l[i]?).map λn=>V.v (.int .u8 n):=by simp[bl]
theorem JCw(l:List Int)(i:Nat)(n:Int):(bl l).set i (.v (.int .u8 n))=bl (l.set i n):=by simp[bl,List.map_set]
theorem WM{l:List Int}(hy:By l):K3 ⟨(YK l).toArray⟩=bl l:=by
 simp only[K3,YK,bl,List.map_map];refine A4 λn hn=>?_
 have:=hy n hn
 have e:((UInt8.ofNat n.toNat).toNat:Int)=n:=by rw[Cr];omega
 simp only[Function.comp,e]
theorem JNr{lo:Nat}{h:JG}(hlo:lo<=h.length):∀(n:Nat) (a b:List Int),b.length<=n->a.length+b.length<=1000000000000->By b->
  JA (evCode ⟨Aa,E,lo,h.length,h37⟩ JA Yy) ([(3,.buf h.length 0 (a.length+b.length)),(8,.buf h.length 0 (a.length+b.length)),(9,.v (.int .i64 (a.length+b.length:Nat))),(10,.v (.int .i64 a.length))],h++[.cells (bl (a++b))])=
   some (.exit 0,[(3,.buf h.length 0 (a.length+b.length)),(8,.buf h.length 0 (a.length+b.length)),(9,.v (.int .i64 (a.length+b.length:Nat))),(10,.v (.int .i64 (a.length+b.length:Nat))),(11,.v (.bool false))],h++[.cells (bl (a++b.map low))]):=by
 intro n
 induction n with
 |zero=>
  intro a b hb hab hy;obtain rfl:b=[]:=Ar om;have hd:decide (((a.length:Nat):Int)<((a.length+([]:List Int).length:Nat):Int))=false:=by simp
  rw[JB];simp only[Ai,Bo]at hd⊢
  simp only[go_sem,Yy,b37,Tryz.f37,hd,BJ]
 |succ n ih=>
  intro a b hb hab hy
  cases b with
  |nil=>
   have hd:decide (((a.length:Nat):Int)<((a.length+([]:List Int).length:Nat):Int))=false:=by simp
   rw[JB];simp only[Ai,Bo]at hd⊢
   simp only[go_sem,Yy,b37,Tryz.f37,hd,BJ]
  |cons c b=>
   have hcy:=hy c (Bj ..);have hd:decide ((a.length:Int)<((a.length+(c::b).length:Nat):Int))=true:=by simp;omega
   have hx:(bl (a++c::b))[a.length]? =some (.v (.int .u8 c)):=by simp[JCv]
   have hw:Am.wrap ((a.length:Int)+1)=((a.length+1:Nat):Int):=JM om;have hlt:a.length<a.length+(c::b).length:=by simp
   have hih:=ih (a++[low c]) b (by simp at hb;omega) (by simp at hab⊢;omega) (λx hx=>hy x (AX _ hx))
   have el:(a++[low c]).length+b.length=a.length+(c::b).length:=by simp;omega
   have el2:(a++[low c]).length=a.length+1:=by simp
   have el3:a++[low c]++b.map low=a++(c::b).map low:=by simp
   rw[el,el2,el3]at hih;by_cases hc:(decide (65<=c)&&decide (c<=90))=true
   ·have hs:(bl (a++c::b)).set a.length (.v (.int .u8 (c+32)))=bl (a++[low c]++b):=by
     rw[JCw,low,if_pos hc];simp
    have hc':=hc;simp only[Af,decide_eq_true_eq]at hc';have hwc:BM.wrap (c+32)=c+32:=Qm om om;have hbl:a.length+1<=(bl (a++c::b)).length:=by rw[YO];simp
    generalize hcs:a.length+(c::b).length=k at*
    have er:evCode ⟨Aa,E,lo,h.length,h37⟩ JA Yy ([(3,.buf h.length 0 k),(8,.buf h.length 0 k),(9,.v (.int .i64 (k:Nat))),(10,.v (.int .i64 a.length))],h++[.cells (bl (a++c::b))])=
      some (.normal,[(3,.buf h.length 0 k),(8,.buf h.length 0 k),(9,.v (.int .i64 (k:Nat))),(10,.v (.int .i64 (a.length+1:Nat)))],h++[.cells (bl (a++[low c]++b))]):=by
     have hlt':(a.length:Int)<k:=om;have h0':(0:Int)<=a.length:=om;simp only[go_sem,Yy,b37,Tryz.f37,hd,hx,hw,hc,hwc,hs,hlo,hlt,hlt',h0',hbl,AC,BS,and_self]
    rw[JB,er,JO];exact hih
   ·have hl2:low c=c:=by rw[low,if_neg hc]
    have hc2:(decide (65<=c)&&decide (c<=90))=false:=by simpa using hc
    rw[hl2]at hih;generalize hcs:a.length+(c::b).length=k at*
    have er:evCode ⟨Aa,E,lo,h.length,h37⟩ JA Yy ([(3,.buf h.length 0 k),(8,.buf h.length 0 k),(9,.v (.int .i64 (k:Nat))),(10,.v (.int .i64 a.length))],h++[.cells (bl (a++c::b))])=
      some (.normal,[(3,.buf h.length 0 k),(8,.buf h.length 0 k),(9,.v (.int .i64 (k:Nat))),(10,.v (.int .i64 (a.length+1:Nat)))],h++[.cells (bl (a++c::b))]):=by
     have hlt':(a.length:Int)<k:=om;have h0':(0:Int)<=a.length:=om;simp only[go_sem,Yy,b37,Tryz.f37,hd,hx,hw,hc2,hlo,hlt,hlt',h0',AC,BS,and_self]
    rw[JB,er,JO];have e4:a++c::b=a++[c]++b:=by simp
    rw[e4];exact hih
theorem f37{lo:Nat}{l:List Int}{h:JG}(hlo:lo<=h.length)(hl:l.length<=1000000000000)(hy:By l):E lo 37 [.v (.string ⟨(YK l).toArray⟩)] h=some (.v (.string ⟨(YK (l.map low)).toArray⟩),h):=by
 have hL:=JNr (lo:=lo) (h:=h) hlo l.length [] l (Ad _) (by simpa using hl) hy
 have hz:(⟨(YK l).toArray⟩:ByteArray).size=l.length:=by simp[De,YK]
 rw[e37];simp only[Yy,b37,Tryz.f37,JK,loops,JC,go_sem,Ai,AC]at hL;have hb1:decide (0+l.length<=(bl (l.map low)).length)=true:=by rw[YO];simp
 have hb2:((bl (l.map low)).take l.length).map (λx=>[x])=ri .u8 (l.map low):=by
  rw[BW (by rw[YO];simp)]
  simp[bl,ri]
 simp only[go_sem,b37,Tryz.f37,hz,WM hy,hL,hb1,hb2]
def JNs(a b:List Int):Bool:=(YK (a.map low))==(YK (b.map low))
theorem f95{lo:Nat}{a b:List Int}{h:JG}(hlo:lo<=h.length)(ha:a.length<=1000000000000)(hya:By a)(hb:b.length<=1000000000000)(hyb:By b):
  E lo 95 [.v (.string ⟨(YK a).toArray⟩),.v (.string ⟨(YK b).toArray⟩)] h=some (.v (.bool (JNs a b)),h):=by
 have k1:=f37 (lo:=lo) (h:=h) hlo ha hya;have k2:=f37 (lo:=lo) (h:=h) hlo hb hyb;rw[e95];simp only[go_sem,b95,Tryz.f95,k1,k2,ByteArray.toList_eq];rfl
end Go.Lift.Y1
end

section
open Go.Proofs
namespace Go.Lift.Y1
open Rul
open Utf (By)
variable{lo:Nat}{h:JG}
theorem JUS(c:Int):low c=Wz c:=by unfold low Wz;simp only[Af,decide_eq_true_eq]
theorem JAC(l:List Int):l.map low=Jg l:=A4 λc _=>JUS c
theorem Jdu(hlo:lo<=h.length):∀(n:Nat) (a b:List Int),b.length<=n->a.length+b.length<=1000000000000->By b->
  JA (evCode ⟨Aa,E,lo,h.length,h26⟩ JA qB) ([(3,.buf h.length 0 (a.length+b.length)),(8,.buf h.length 0 (a.length+b.length)),(9,.v (.int .i64 (a.length+b.length:Nat))),(10,.v (.int .i64 a.length))],h++[.cells (bl (a++b))])=
   some (.exit 0,[(3,.buf h.length 0 (a.length+b.length)),(8,.buf h.length 0 (a.length+b.length)),(9,.v (.int .i64 (a.length+b.length:Nat))),(10,.v (.int .i64 (a.length+b.length:Nat))),(11,.v (.bool false))],h++[.cells (bl (a++Jg b))]):=by
 intro n
 induction n with
 |zero=>
  intro a b hb hab hy;obtain rfl:b=[]:=Ar om;have hd:decide (((a.length:Nat):Int)<((a.length+([]:List Int).length:Nat):Int))=false:=by simp
  rw[JB];simp only[Ai,Bo]at hd⊢
  simp only[go_sem,qB,b26,Tryz.f26,hd,Jg,BJ]
 |succ n ih=>
  intro a b hb hab hy
  cases b with
  |nil=>
   have hd:decide (((a.length:Nat):Int)<((a.length+([]:List Int).length:Nat):Int))=false:=by simp
   rw[JB];simp only[Ai,Bo]at hd⊢
   simp only[go_sem,qB,b26,Tryz.f26,hd,Jg,BJ]
  |cons c b=>
   have hcy:=hy c (Bj ..);have hd:decide ((a.length:Int)<((a.length+(c::b).length:Nat):Int))=true:=by simp;omega
   have hx:(bl (a++c::b))[a.length]? =some (.v (.int .u8 c)):=by simp[JCv]
   have hw:Am.wrap ((a.length:Int)+1)=((a.length+1:Nat):Int):=JM om;have hlt:a.length<a.length+(c::b).length:=by simp
   have hih:=ih (a++[Wz c]) b (by simp at hb;omega) (by simp at hab⊢;omega) (λx hx=>hy x (AX _ hx))
   have el:(a++[Wz c]).length+b.length=a.length+(c::b).length:=by simp;omega
   have el2:(a++[Wz c]).length=a.length+1:=by simp
   have el3:a++[Wz c]++Jg b=a++Jg (c::b):=by simp[Jg]
   rw[el,el2,el3]at hih;by_cases h1:65<=c
   ·have q1:decide (65<=c)=true:=by simpa using h1
    by_cases h2:c<=90
    ·have q2:decide (c<=90)=true:=by simpa using h2
     have hlc:Wz c=c+32:=by unfold Wz;rw[if_pos ⟨h1,h2⟩]
     have hs:(bl (a++c::b)).set a.length (.v (.int .u8 (c+32)))=bl (a++[Wz c]++b):=by rw[JCw,hlc];simp
     have hwa:BM.wrap (c+97)=c+97:=Qm om om;have hwc:BM.wrap (c+97-65)=c+32:=by rw[Qm om om];omega
     have hbl:a.length+1<=(bl (a++c::b)).length:=by rw[YO];simp
     generalize hcs:a.length+(c::b).length=k at*
     have er:evCode ⟨Aa,E,lo,h.length,h26⟩ JA qB ([(3,.buf h.length 0 k),(8,.buf h.length 0 k),(9,.v (.int .i64 (k:Nat))),(10,.v (.int .i64 a.length))],h++[.cells (bl (a++c::b))])=
       some (.normal,[(3,.buf h.length 0 k),(8,.buf h.length 0 k),(9,.v (.int .i64 (k:Nat))),(10,.v (.int .i64 (a.length+1:Nat)))],h++[.cells (bl (a++[Wz c]++b))]):=by
      have hlt':(a.length:Int)<k:=om;have h0':(0:Int)<=a.length:=om;simp only[go_sem,qB,b26,Tryz.f26,hd,hx,hw,q1,q2,hwa,hwc,hs,hlo,hlt,hlt',h0',hbl,AC,BS,and_self]<;>rfl
     rw[JB,er,JO];exact hih
    ·have q2:decide (c<=90)=false:=by simpa using h2
     have hlc:Wz c=c:=by unfold Wz;rw[if_neg om]
     rw[hlc]at hih;generalize hcs:a.length+(c::b).length=k at*
     have er:evCode ⟨Aa,E,lo,h.length,h26⟩ JA qB ([(3,.buf h.length 0 k),(8,.buf h.length 0 k),(9,.v (.int .i64 (k:Nat))),(10,.v (.int .i64 a.length))],h++[.cells (bl (a++c::b))])=
       some (.normal,[(3,.buf h.length 0 k),(8,.buf h.length 0 k),(9,.v (.int .i64 (k:Nat))),(10,.v (.int .i64 (a.length+1:Nat)))],h++[.cells (bl (a++c::b))]):=by
      have hlt':(a.length:Int)<k:=om;have h0':(0:Int)<=a.length:=om;simp only[go_sem,qB,b26,Tryz.f26,hd,hx,hw,q1,q2,hlo,hlt,hlt',h0',AC,BS,and_self]<;>rfl
     rw[JB,er,JO];have e4:a++c::b=a++[c]++b:=by simp
     rw[e4];exact hih
   ·have q1:decide (65<=c)=false:=by simpa using h1
    have hlc:Wz c=c:=by unfold Wz;rw[if_neg om]
    rw[hlc]at hih;generalize hcs:a.length+(c::b).length=k at*
    have er:evCode ⟨Aa,E,lo,h.length,h26⟩ JA qB ([(3,.buf h.length 0 k),(8,.buf h.length 0 k),(9,.v (.int .i64 (k:Nat))),(10,.v (.int .i64 a.length))],h++[.cells (bl (a++c::b))])=
      some (.normal,[(3,.buf h.length 0 k),(8,.buf h.length 0 k),(9,.v (.int .i64 (k:Nat))),(10,.v (.int .i64 (a.length+1:Nat)))],h++[.cells (bl (a++c::b))]):=by
     have hlt':(a.length:Int)<k:=om;have h0':(0:Int)<=a.length:=om;simp only[go_sem,qB,b26,Tryz.f26,hd,hx,hw,q1,hlo,hlt,hlt',h0',AC,BS,and_self]<;>rfl
    rw[JB,er,JO];have e4:a++c::b=a++[c]++b:=by simp
    rw[e4];exact hih
theorem f26{l:List Int}(hlo:lo<=h.length)(hl:l.length<=1000000000000)(hy:By l):E lo 26 [.v (.string (Rul.bs l))] h=some (.v (.string (Rul.bs (Jg l))),h):=by
 have hL:=Jdu (lo:=lo) (h:=h) hlo l.length [] l (Ad _) (by simpa using hl) hy
 have hz:(⟨(YK l).toArray⟩:ByteArray).size=l.length:=by simp[De,YK]
 have hsl:(Jg l).length=l.length:=Aq _;rw[e26];simp only[qB,b26,Tryz.f26,JK,loops,JC,go_sem,Ai,AC,Au]at hL;have hb1:decide (0+l.length<=(bl (Jg l)).length)=true:=by rw[YO,hsl];simp
 have hb2:((bl (Jg l)).take l.length).map (λx=>[x])=ri .u8 (Jg l):=by
  rw[BW (by rw[YO,hsl];exact Ad _)]
  simp[bl,ri]
 simp only[go_sem,b26,Tryz.f26,hz,Rul.bs,WM hy,hL,hb1,hb2,Au]<;>rfl
end Go.Lift.Y1
end

section
namespace Go.Lift.Rul
def wVar:List Int:=[118,97,114]
def qp(t:Tk4):Bool:=t.k==2&&Jg t.b==wVar
mutual
def JD1:CV->Bool
 | .mk t kids=>qp t||Qz kids
def Qz:List CV->Bool
 |[]=>false
 |v::r=>JD1 v||Qz r
end
mutual
def okCV:CV->Prop
 | .mk t kids=>(Utf.By t.b/\t.b.length<=1000000000/\kids.length<=1000000000)/\okCL kids
def okCL:List CV->Prop
 |[]=>True
 |v::r=>okCV v/\okCL r
end
end Go.Lift.Rul
end

section
open Go.Proofs
namespace Go.Lift.Y1
open Rul
open Utf (By)
variable{lo:Nat}{h:JG}
theorem JP(t:Tk4)(kids:List CV):Js (.mk t kids)=[.v (.int .i64 t.k),.v (.string (Rul.bs t.b)),.v (.int .i64 t.n),.v (.int .i64 t.d),.v (.bool t.w),.v (.bool t.i),.list .no (JJ kids)]:=by rw[Js]<;>rfl
theorem Zn{l:List Int}(h:By l):By (Jg l):=λc hc=>by
 obtain⟨x,hx,rfl⟩:=AM.1 hc;have:=h x hx;unfold Wz
 split<;>omega
theorem kM:∀{a b:List Int},By a->By b->YK a=YK b->a=b
 |[],[],_,_,_=>rfl
 |[],y::b,_,_,h=>by cases h
 |x::a,[],_,_,h=>by cases h
 |x::a,y::b,ha,hb,h=>by
  simp only[YK,List.map_cons,List.cons.injEq]at h;have hx:=ha x (by simp)
  have hy:=hb y (by simp)
  have e:x=y:=by have:=congrArg UInt8.toNat h.1;simp only[Cr]at this;omega
  rw[e,kM (λc hc=>ha c (by simp[hc])) (λc hc=>hb c (by simp[hc])) h.2]
theorem JCx(b:List Int):(Rul.bs b).toList=YK b:=by simp only[Rul.bs,ByteArray.toList_eq]
theorem QR{a b:List Int}(ha:By a)(hb:By b):((Rul.bs a).toList==(Rul.bs b).toList)=(a==b):=by rw[JCx,JCx,BO,beq_iff_eq,beq_iff_eq];exact⟨kM ha hb,λh=>by rw[h]⟩
theorem JkC:(⟨#[118,97,114]⟩:ByteArray)=Rul.bs wVar:=rfl
theorem f55{t:Tk4}{kids:List CV}(hy:By t.b)(hl:t.b.length<=1000000000)(hlo:lo<=h.length):E lo 55 [.agg (Js (.mk t kids))] h=some (.v (.bool (qp t)),h):=by
 have l1:lo<=h.length+1:=om;have c26:=λlo h hlo=>f26 (lo:=lo) (h:=h) (l:=t.b) hlo om hy
 have q:=QR (Zn hy) (show By wVar by intro c hc;simp[wVar]at hc;omega)
 rw[e55,JP];unfold qp
 cases hk:t.k==2 with
 |false=>simp only[go_sem,b55,Tryz.f55,hlo,l1,hk,As]<;>rfl
 |true=>rw[Aw];simp only[go_sem,b55,Tryz.f55,hlo,l1,hk,c26,JkC,q]<;>rfl
def V7(l:List CV):Prop:=∀lo h,lo<=h.length->E lo 27 [.list .no (JJ l)] h=some (.v (.bool (Qz l)),h)
def V22(v:CV):Prop:=∀lo h,lo<=h.length->E lo 60 [.agg (Js v)] h=some (.v (.bool (JD1 v)),h)
theorem f60{t:Tk4}{kids:List CV}(hy:By t.b)(hl:t.b.length<=1000000000)(hk:V7 kids):V22 (.mk t kids):=by
 intro lo h hlo;have l1:lo<=h.length+1:=om;have c55:=λlo h hlo=>f55 (lo:=lo) (h:=h) (kids:=kids) hy hl hlo
 have c7:=λlo h hlo=>hk lo h hlo
 rw[JP]at c55⊢;rw[e60,JD1]
 cases hu:qp t with
 |true=>
  rw[hu]at c55
  simp only[go_sem,b60,Tryz.f60,hlo,l1,c55,Bool.true_or]<;>rfl
 |false=>rw[hu]at c55;rw[A3];simp only[go_sem,b60,Tryz.f60,hlo,l1,c55,c7]<;>rfl
noncomputable abbrev X41(lo:Nat)(h:JG):Go.Lift.Cx:=⟨Aa,E,lo,h.length,h91⟩
abbrev N41(l:List CV)(k:Int):Jl:=[(0,.list .no (JJ l)),(1,.fn 60 []),(7,.v (.int .i64 l.length)),(8,.v (.int .i64 k))]
theorem r91{l:List CV}{v:CV}{k:Nat}(hlo:lo<=h.length)(hl:l.length<=1000000000)(hg:l[k]? =some v)(hc:V22 v):
  evCode (X41 lo h) JA JAr (N41 l k,h)=if JD1 v=true then some (.ret,[(4,.v (.int .i64 k))],h)else some (.normal,N41 l (k+1:Nat),h):=by
 have hlt:k<l.length:=(Ab.1 hg).1
 have hgr:(JJ l)[k]? =some (Js v):=by simp[rowsC_map,hg]
 have c60:=λlo h hlo=>hc lo h hlo
 obtain⟨t,kids⟩:=v;rw[JP]at hgr c60;have q1:decide ((k:Int)<(l.length:Int))=true:=by simp;omega
 have hw:=JM (i:=k) om
 cases hv:JD1 (.mk t kids)with
 |true=>
  rw[hv]at c60;rw[if_pos rfl]
  simp only[go_sem,JAr,b91,Tryz.f91,hlo,q1,hgr,hw,c60]<;>rfl
 |false=>
  rw[hv]at c60;rw[if_neg (by simp)]
  simp only[go_sem,JAr,b91,Tryz.f91,hlo,q1,hgr,hw,c60]<;>rfl
theorem qq{a b:List Int}(ha:By a)(hb:By b):JNs a b=(Jg a==Jg b):=by unfold JNs;rw[JAC,JAC,BO,beq_iff_eq,beq_iff_eq];exact⟨kM (Zn ha) (Zn hb),λh=>by rw[h]⟩
theorem JO2:By wVar:=by intro c hc;simp[wVar]at hc;omega
theorem JNt:Jg wVar=wVar:=by decide
theorem f66{t:Tk4}{kids:List CV}(hy:By t.b)(hl:t.b.length<=1000000000)(hlo:lo<=h.length):E lo 66 [.agg (Js (.mk t kids))] h=some (.v (.bool (qp t)),h):=by
 have l1:lo<=h.length+1:=om;have c95:=λlo h hlo=>f95 (lo:=lo) (h:=h) (a:=t.b) (b:=wVar) hlo om hy (by simp[wVar]) JO2
 rw[qq hy JO2,JNt]at c95;have k:(⟨(YK wVar).toArray⟩:ByteArray)=⟨#[118,97,114]⟩:=rfl;rw[k]at c95;rw[e66,JP];unfold qp
 cases hk:t.k==2 with
 |false=>simp only[go_sem,b66,Tryz.f66,hlo,l1,hk,As]<;>rfl
 |true=>rw[Aw];simp only[go_sem,b66,Tryz.f66,hlo,l1,hk,c95,Rul.bs]<;>rfl
theorem GA(l:List Int):(Rul.bs l).size=l.length:=by simp[Rul.bs,De,YK]
theorem JUT{l:List Int}(hy:By l)(i:Nat):((Rul.bs l).data[i]?).map (λc=>V.v (.int .u8 c.toNat))=(l[i]?).map λc=>V.v (.int .u8 c):=by
 simp only[Rul.bs,YK,List.getElem?_toArray,List.getElem?_map,Option.map_map]
 rcases hg:l[i]? with _|c
 ·rfl
 ·have:=hy c (Aj hg)
  simp only[AK,Function.comp,Cr];have e:((c.toNat%2^8:Nat):Int)=c:=om;rw[e]
def QJ:List Int->Bool
 |a::b::_::_=>a==45&&b==45
 |_=>false
theorem Jdv{L:List Int}(hb:decide ((L.length:Int)>2)=false):E lo 32 [.v (.string (Rul.bs L))] h=some (.v (.bool false),h):=by rw[e32];simp only[go_sem,b32,Tryz.f32,GA,hb]
theorem Jru{L:List Int}{a b:Int}(hy:By L)(hb:decide ((L.length:Int)>2)=true)(g0:L[0]? =some a)(g1:L[1]? =some b):E lo 32 [.v (.string (Rul.bs L))] h=some (.v (.bool (a==45&&b==45)),h):=by
 have h0:=JUT hy 0;have h1:=JUT hy 1;rw[g0]at h0;rw[g1]at h1;have t0:Bw 0=0:=rfl;have t1:Bw 1=1:=rfl;rw[e32]
 cases ha:a==45 with
 |true=>simp only[go_sem,b32,Tryz.f32,GA,hb,h0,h1,t0,t1,ha,AK,Aw]
 |false=>simp only[go_sem,b32,Tryz.f32,GA,hb,h0,h1,t0,t1,ha,AK,As]
theorem f32{l:List Int}(hy:By l):E lo 32 [.v (.string (Rul.bs l))] h=some (.v (.bool (QJ l)),h):=by
 match l,hy with
 |[],hy=>exact Jdv (by simp)
 |[_],hy=>exact Jdv (by simp)
 |[_,_],hy=>exact Jdv (by simp)
 |a::b::c::r,hy=>exact Jru hy (by simp;omega) rfl rfl
theorem JLV{l:List CV}{v:CV}(h:v∈Jh l):v∈l:=by unfold Jh at h;have h1:=(BH _).subset (B6.1 h);exact(BH _).subset (B6.1 h1)
theorem JLh(l:List CV):(Jh l).length<=l.length:=by unfold Jh;rw[Lt];have h1:=(BH JU (l:=(l.dropWhile JU).reverse)).length_le;have h2:=(BH JU (l:=l)).length_le;rw[Lt]at h1;omega
theorem yy:∀{l:List CV},okCL l->∀v∈l,okCV v
 |[],_,_,h=>nomatch h
 |x::r,hs,v,h=>by
  rw[okCL]at hs;rcases AP.1 h with rfl|h
  ·exact hs.1
  ·exact yy hs.2 v h
theorem JZ(v:CV)(l:List CV):JJ (v::l)=Js v::JJ l:=by rw[JJ]
theorem JX:JJ []=[]:=by rw[JJ]
def qr(l:List CV):Bool:=match Jh l with
 |[]=>true
 | .mk w _::_=>w.k==18
def qK(kids:List CV):Bool:=match Jh kids with
 |[]=>false
 | .mk u _::r=>u.k==1&&QJ u.b&&qr r
theorem f67{t:Tk4}{kids:List CV}(hk:okCL kids)(hl:kids.length<=1000000000):∃(a:ByteArray) (b:List (List V)) (c:Bool),∀lo h,lo<=h.length->E lo 67 [.agg (Js (.mk t kids))] h=some (.tup [.v (.string a),.list .no b,.v (.bool c),.v (.bool (qK kids))],h):=by
 have c36:=λlo h hlo=>f36 (lo:=lo) (h:=h) hlo hl
 have hm:∀v∈Jh kids,v∈kids:=λv h=>JLV h
 have hln:=JLh kids;unfold qK;generalize Jh kids=T at c36 hm hln⊢
 match T,c36,hm,hln with
 |[],c36,hm,hln=>
  rw[JX]at c36;refine⟨⟨#[]⟩,[],false,λlo h hlo=>?_⟩
  have l1:lo<=h.length+1:=om;rw[e67,JP]
  simp only[go_sem,b67,Tryz.f67,hlo,l1,c36,Ai]<;>rfl
 | .mk u ks::r,c36,hm,hln=>
  have hv:=yy hk _ (hm _ (Bj ..));rw[okCV]at hv;have hr:r.length<=1000000000:=by simp at hln;omega
  have c36b:=λlo h hlo=>f36 (lo:=lo) (h:=h) (l:=r) hlo hr
  have c32:=λlo h=>f32 (lo:=lo) (h:=h) hv.1.1
  rw[JZ,JP]at c36;have hL:(Bq (JJ r)+1:Nat)=r.length+1:=by rw[JD]
  have q0:((((r.length+1:Nat):Int))==0)=false:=by rw[beq_eq_false_iff_ne];omega
  have hd1:1<=r.length+1:=om
  cases hk1:u.k==1 with
  |false=>
   have hk2:(u.k !=1)=true:=by simp[bne,hk1]
   refine⟨⟨#[]⟩,[],false,λlo h hlo=>?_⟩
   have l1:lo<=h.length+1:=om;rw[e67,JP]
   simp only[go_sem,b67,Tryz.f67,hlo,l1,c36,Ae,JD,q0,hk1,hk2,As]<;>rfl
  |true=>
   have hk2:(u.k !=1)=false:=by simp[bne,hk1]
   cases hc:QJ u.b with
   |false=>
    rw[hc]at c32;refine⟨⟨#[]⟩,[],false,λlo h hlo=>?_⟩
    have l1:lo<=h.length+1:=om;rw[e67,JP]
    simp only[go_sem,b67,Tryz.f67,hlo,l1,c36,Ae,JD,q0,hk1,hk2,hc,c32,As,Aw]<;>rfl
   |true=>
    rw[hc]at c32;have hT:=JLh r;have hR:qr r=match Jh r with|[]=>true| .mk w _::_=>w.k==18:=rfl
    generalize Jh r=S at c36b hT hR
    match S,c36b,hT,hR with
    |[],c36b,hT,hR=>
     have hR':qr r=true:=hR;rw[JX]at c36b;refine⟨Rul.bs u.b,[],false,λlo h hlo=>?_⟩
     have l1:lo<=h.length+1:=om;rw[e67,JP]
     simp only[go_sem,b67,Tryz.f67,hlo,l1,c36,c36b,Ae,Ai,JD,q0,hk1,hk2,hc,c32,hR',Aw,As,Jn,Qy,hd1]<;>rfl
    | .mk w ws::z,c36b,hT,hR=>
     have hR':qr r=(w.k==18):=hR;have hz:z.length<=1000000000:=by simp at hT;omega
     have c36c:=λlo h hlo=>f36 (lo:=lo) (h:=h) (l:=z) hlo hz
     rw[JZ,JP]at c36b;have q1:((((z.length+1:Nat):Int))==0)=false:=by rw[beq_eq_false_iff_ne];omega
     have hd2:1<=z.length+1:=om
     cases hw1:w.k==18 with
     |false=>
      have hw2:(w.k !=18)=true:=by simp[bne,hw1]
      refine⟨⟨#[]⟩,[],false,λlo h hlo=>?_⟩
      have l1:lo<=h.length+1:=om;rw[e67,JP]
      simp only[go_sem,b67,Tryz.f67,hlo,l1,c36,c36b,Ae,Ai,JD,q0,q1,hk1,hk2,hc,c32,hR',Aw,As,Jn,Qy,hd1,hd2,hw1,hw2]<;>rfl
     |true=>
      have hw2:(w.k !=18)=false:=by simp[bne,hw1]
      refine⟨Rul.bs u.b,JJ (Jh z),true,λlo h hlo=>?_⟩
      have l1:lo<=h.length+1:=om;rw[e67,JP];simp only[go_sem,b67,Tryz.f67,hlo,l1,c36,c36b,c36c,Ae,Ai,JD,q0,q1,hk1,hk2,hc,c32,hR',Aw,As,Jn,Qy,hd1,hd2,hw1,hw2]<;>rfl
end Go.Lift.Y1
end

section
open Go.Proofs
namespace Go.Lift.Y1
variable{lo:Nat}{h:JG}
def JL(n:ByteArray)(k:Int)(d l:Bool)(ws:List ByteArray)(ck a b:Int)(w:ByteArray):List V:=
 [.v (.string n),.v (.int .i64 k),.v (.bool d),.v (.bool l),.list .no (ws.map λx=>[.v (.string x)]),.v (.int .i64 ck),.v (.int .i64 a),.v (.int .i64 b),.v (.string w)]
section
variable{n:ByteArray}{k:Int}{d l:Bool}{ws:List ByteArray}{ck a b:Int}{w:ByteArray}
end
theorem JXh(s:ByteArray)(p:Nat):1<=(Utf8.decode s p).2:=by
 unfold Utf8.decode;simp only
 repeat' split
 all_goals first|omega|simp
end Go.Lift.Y1
end

section
open Go.Proofs
namespace Go.Lift.Y1
open Rul
open Utf (By)
variable{lo:Nat}{h:JG}
def JHd:ByteArray:=⟨#[45,45]⟩
theorem ex2{L:List Int}(hy:By L)(hl:2<L.length):(((Rul.bs L).extract 0 2).toList==JHd.toList)=QJ L:=by
 match L,hl with
 |a::b::c::r,_=>
  have ha:=hy a (by simp)
  have hb:=hy b (by simp)
  have e:((Rul.bs (a::b::c::r)).extract 0 2)=Rul.bs [a,b]:=by apply DS;simp[Rul.bs,YK]
  have e2:JHd=Rul.bs [45,45]:=rfl;rw[e,e2,QR (by intro x hx;simp at hx;omega) (by intro x hx;simp at hx;omega)]
  unfold QJ;simp
theorem f89{L:List Int}(hy:By L)(hl:2<L.length)(hlo:lo<=h.length):E lo 89 [.v (.string (Rul.bs L)),.v (.string JHd)] h=some (.v (.bool (QJ L)),h):=by
 have q1:decide (((2:Nat):Int)<=(L.length:Int))=true:=by rw[decide_eq_true_iff];omega
 have q2:(2<=L.length)=True:=by simp;omega
 have z2:(0<=((2:Nat):Int))=True:=by simp
 have t2:Bw ((2:Nat):Int)=2:=rfl;have s2:JHd.size=2:=rfl;have hx:=ex2 hy hl;rw[e89];simp only[go_sem,b89,Tryz.f89,hlo,GA,q1,q2,z2,t2,s2,hx]<;>rfl
theorem f53{L:List Int}(hy:By L)(hl:2<L.length)(hlo:lo<=h.length):E lo 53 [.v (.string (Rul.bs L)),.v (.string JHd)] h=some (.v (.bool (QJ L)),h):=by
 have c:=λlo h hlo=>f89 (lo:=lo) (h:=h) hy hl hlo
 rw[e53];simp only[go_sem,b53,Tryz.f53,hlo,c]<;>rfl
abbrev N15(h:JG)(L:List Int)(ex:Jl):Jl:=[(0,.v (.string (Rul.bs L))),(5,.ptr h.length 0)]++ex
abbrev X15(h:JG)(L:List Int):Jl:=[(0,.v (.string (Rul.bs L))),(5,.ptr h.length 0),(6,.tup [.v (.bool false)]),(7,.v (.bool false))]
theorem r22{L:List Int}{pos:Nat}{ex:Jl}(hlo:lo<=h.length)(hp:pos<L.length)(hl:L.length<=1000000000000)(h2:((pos:Int)==2)=false)(hx:ex=[]\/ex=[(10,.v (.bool false))]):
  evCode ⟨Aa,E,lo,h.length,h22⟩ JA Hr (N15 h L ex,h++[.iter (Rul.bs L) pos])=some (.normal,N15 h L [(10,.v (.bool false))],h++[.iter (Rul.bs L) (pos+(Utf8.decode (Rul.bs L) pos).2)]):=by
 have l1:lo<=h.length+1:=om;rcases hx with rfl|rfl<;>
 simp only[N15,go_sem,Hr,b22,Tryz.f22,hlo,l1,GA,hp,h2]<;>rfl
theorem JkH{L:List Int}{ex:Jl}(hy:By L)(hlo:lo<=h.length)(hp:2<L.length)(hl:L.length<=1000000000000)(hx:ex=[]\/ex=[(10,.v (.bool false))]):
  evCode ⟨Aa,E,lo,h.length,h22⟩ JA Hr (N15 h L ex,h++[.iter (Rul.bs L) 2])=some (.ret,[(2,.v (.bool (QJ L)))],h++[.iter (Rul.bs L) (2+(Utf8.decode (Rul.bs L) 2).2)]):=by
 have l1:lo<=h.length+1:=om;have c:=λlo h hlo=>f53 (lo:=lo) (h:=h) hy hp hlo
 unfold JHd at c;have h2:(((2:Nat):Int)==2)=true:=rfl;rcases hx with rfl|rfl<;>
 simp only[N15,go_sem,Hr,b22,Tryz.f22,hlo,l1,GA,hp,h2,c]<;>rfl
theorem JkJ{L:List Int}{pos:Nat}{ex:Jl}(hlo:lo<=h.length)(hp:¬pos<L.length)(hx:ex=[]\/ex=[(10,.v (.bool false))]):
  evCode ⟨Aa,E,lo,h.length,h22⟩ JA Hr (N15 h L ex,h++[.iter (Rul.bs L) pos])=some (.exit 0,X15 h L,h++[.iter (Rul.bs L) pos]):=by
 have l1:lo<=h.length+1:=om;rcases hx with rfl|rfl<;>
 simp only[N15,go_sem,Hr,b22,Tryz.f22,hlo,l1,GA,hp]<;>rfl
theorem JO3{L:List Int}(hy:By L)(hlo:lo<=h.length)(hl:L.length<=1000000000000)(hc:QJ L=false):∀(n pos:Nat) (ex:Jl),L.length<=pos+n->(ex=[]\/ex=[(10,.v (.bool false))])->
  ∃p,JA (evCode ⟨Aa,E,lo,h.length,h22⟩ JA Hr) (N15 h L ex,h++[.iter (Rul.bs L) pos])=some (.exit 0,X15 h L,h++[.iter (Rul.bs L) p])\/
   JA (evCode ⟨Aa,E,lo,h.length,h22⟩ JA Hr) (N15 h L ex,h++[.iter (Rul.bs L) pos])=some (.ret,[(2,.v (.bool false))],h++[.iter (Rul.bs L) p])
 |0,pos,ex,hn,hx=>⟨pos,.inl (by rw[JB,JkJ hlo om hx,Jx])⟩
 |n+1,pos,ex,hn,hx=>by
  by_cases hp:pos<L.length
  ·by_cases h2:pos=2
   ·subst h2
    refine⟨2+(Utf8.decode (Rul.bs L) 2).2,.inr ?_⟩
    rw[JB,JkH hy hlo hp hl hx,Kh,hc]
   ·have hw:=JXh (Rul.bs L) pos
    rw[JB,r22 hlo hp hl (by rw[beq_eq_false_iff_ne];omega) hx,JO]
    exact JO3 hy hlo hl hc n _ _ om (.inr rfl)
  ·exact⟨pos,.inl (by rw[JB,JkJ hlo hp hx,Jx])⟩
theorem JHe{s:ByteArray}{p:Nat}(hb:(s.get! p).toNat<128):(Utf8.decode s p).2=1:=by unfold Utf8.decode;simp only[Bo];rw[if_pos hb]
theorem JXi{L:List Int}(hy:By L)(hlo:lo<=h.length)(hl:L.length<=1000000000000)(hc:QJ L=true):
  ∃p,JA (evCode ⟨Aa,E,lo,h.length,h22⟩ JA Hr) (N15 h L [],h++[.iter (Rul.bs L) 0])=some (.ret,[(2,.v (.bool true))],h++[.iter (Rul.bs L) p]):=by
 match L,hy,hl,hc with
 |a::b::c::r,hy,hl,hc=>
  have hc':=hc;unfold QJ at hc';simp only[Af,beq_iff_eq]at hc';obtain⟨rfl,rfl⟩:=hc';have g0:((Rul.bs (45::45::c::r)).get! 0).toNat<128:=by simp[Rul.bs,YK,L3]
  have g1:((Rul.bs (45::45::c::r)).get! 1).toNat<128:=by simp[Rul.bs,YK,L3]
  refine⟨2+(Utf8.decode (Rul.bs (45::45::c::r)) 2).2,?_⟩
  rw[JB,r22 hlo (by simp) hl rfl (.inl rfl),JO,JHe g0,JB,r22 hlo (by simp) hl rfl (.inr rfl),JO,JHe g1,show(0+1+1:Nat)=2 from rfl,JB,JkH hy hlo (by simp) hl (.inr rfl),Kh,hc]
theorem f22{L:List Int}(hy:By L)(hlo:lo<=h.length)(hl:L.length<=1000000000000):E lo 22 [.v (.string (Rul.bs L))] h=some (.v (.bool (QJ L)),h):=by
 have l1:lo<=h.length+1:=om;rw[e22]
 cases hc:QJ L with
 |true=>
  obtain⟨p,hL⟩:=JXi (h:=h) hy hlo hl hc;simp only[Hr,b22,Tryz.f22,JK,loops,JC,N15,X15,AE,go_sem]at hL
  simp only[go_sem,b22,Tryz.f22,hlo,l1,hL]<;>rfl
 |false=>
  obtain⟨p,hL|hL⟩:=JO3 (h:=h) hy hlo hl hc L.length 0 [] om (.inl rfl)
  ·simp only[Hr,b22,Tryz.f22,JK,loops,JC,N15,X15,AE,go_sem]at hL
   simp only[go_sem,b22,Tryz.f22,hlo,l1,hL]<;>rfl
  ·simp only[Hr,b22,Tryz.f22,JK,loops,JC,N15,X15,AE,go_sem]at hL
   simp only[go_sem,b22,Tryz.f22,hlo,l1,hL]<;>rfl
theorem JXj(hlo:lo<=h.length):∀(n:Nat) (a b:List Int),b.length<=n->a.length+b.length<=1000000000000->By b->
  JA (evCode ⟨Aa,E,lo,h.length,JQx⟩ JA Gp) ([(3,.buf h.length 0 (a.length+b.length)),(8,.buf h.length 0 (a.length+b.length)),(9,.v (.int .i64 (a.length+b.length:Nat))),(10,.v (.int .i64 a.length))],h++[.cells (bl (a++b))])=
   some (.exit 0,[(3,.buf h.length 0 (a.length+b.length)),(8,.buf h.length 0 (a.length+b.length)),(9,.v (.int .i64 (a.length+b.length:Nat))),(10,.v (.int .i64 (a.length+b.length:Nat))),(11,.v (.bool false))],h++[.cells (bl (a++Jg b))]):=by
 intro n
 induction n with
 |zero=>
  intro a b hb hab hy;obtain rfl:b=[]:=Ar om;have hd:decide (((a.length:Nat):Int)<((a.length+([]:List Int).length:Nat):Int))=false:=by simp
  rw[JB];simp only[Ai,Bo]at hd⊢
  simp only[go_sem,Gp,JJp,Tryz.f117,hd,Jg,BJ]
 |succ n ih=>
  intro a b hb hab hy
  cases b with
  |nil=>
   have hd:decide (((a.length:Nat):Int)<((a.length+([]:List Int).length:Nat):Int))=false:=by simp
   rw[JB];simp only[Ai,Bo]at hd⊢
   simp only[go_sem,Gp,JJp,Tryz.f117,hd,Jg,BJ]
  |cons c b=>
   have hcy:=hy c (Bj ..);have hd:decide ((a.length:Int)<((a.length+(c::b).length:Nat):Int))=true:=by simp;omega
   have hx:(bl (a++c::b))[a.length]? =some (.v (.int .u8 c)):=by simp[JCv]
   have hw:Am.wrap ((a.length:Int)+1)=((a.length+1:Nat):Int):=JM om;have hlt:a.length<a.length+(c::b).length:=by simp
   have hih:=ih (a++[Wz c]) b (by simp at hb;omega) (by simp at hab⊢;omega) (λx hx=>hy x (AX _ hx))
   have el:(a++[Wz c]).length+b.length=a.length+(c::b).length:=by simp;omega
   have el2:(a++[Wz c]).length=a.length+1:=by simp
   have el3:a++[Wz c]++Jg b=a++Jg (c::b):=by simp[Jg]
   rw[el,el2,el3]at hih;by_cases h1:65<=c
   ·have q1:decide (65<=c)=true:=by simpa using h1
    by_cases h2:c<=90
    ·have q2:decide (c<=90)=true:=by simpa using h2
     have hlc:Wz c=c+32:=by unfold Wz;rw[if_pos ⟨h1,h2⟩]
     have hs:(bl (a++c::b)).set a.length (.v (.int .u8 (c+32)))=bl (a++[Wz c]++b):=by rw[JCw,hlc];simp
     have hwa:BM.wrap (c+97)=c+97:=Qm om om;have hwc:BM.wrap (c+97-65)=c+32:=by rw[Qm om om];omega
     have hbl:a.length+1<=(bl (a++c::b)).length:=by rw[YO];simp
     generalize hcs:a.length+(c::b).length=k at*
     have er:evCode ⟨Aa,E,lo,h.length,JQx⟩ JA Gp ([(3,.buf h.length 0 k),(8,.buf h.length 0 k),(9,.v (.int .i64 (k:Nat))),(10,.v (.int .i64 a.length))],h++[.cells (bl (a++c::b))])=
       some (.normal,[(3,.buf h.length 0 k),(8,.buf h.length 0 k),(9,.v (.int .i64 (k:Nat))),(10,.v (.int .i64 (a.length+1:Nat)))],h++[.cells (bl (a++[Wz c]++b))]):=by
      have hlt':(a.length:Int)<k:=om;have h0':(0:Int)<=a.length:=om;simp only[go_sem,Gp,JJp,Tryz.f117,hd,hx,hw,q1,q2,hwa,hwc,hs,hlo,hlt,hlt',h0',hbl,AC,BS,and_self]<;>rfl
     rw[JB,er,JO];exact hih
    ·have q2:decide (c<=90)=false:=by simpa using h2
     have hlc:Wz c=c:=by unfold Wz;rw[if_neg om]
     rw[hlc]at hih;generalize hcs:a.length+(c::b).length=k at*
     have er:evCode ⟨Aa,E,lo,h.length,JQx⟩ JA Gp ([(3,.buf h.length 0 k),(8,.buf h.length 0 k),(9,.v (.int .i64 (k:Nat))),(10,.v (.int .i64 a.length))],h++[.cells (bl (a++c::b))])=
       some (.normal,[(3,.buf h.length 0 k),(8,.buf h.length 0 k),(9,.v (.int .i64 (k:Nat))),(10,.v (.int .i64 (a.length+1:Nat)))],h++[.cells (bl (a++c::b))]):=by
      have hlt':(a.length:Int)<k:=om;have h0':(0:Int)<=a.length:=om;simp only[go_sem,Gp,JJp,Tryz.f117,hd,hx,hw,q1,q2,hlo,hlt,hlt',h0',AC,BS,and_self]<;>rfl
     rw[JB,er,JO];have e4:a++c::b=a++[c]++b:=by simp
     rw[e4];exact hih
   ·have q1:decide (65<=c)=false:=by simpa using h1
    have hlc:Wz c=c:=by unfold Wz;rw[if_neg om]
    rw[hlc]at hih;generalize hcs:a.length+(c::b).length=k at*
    have er:evCode ⟨Aa,E,lo,h.length,JQx⟩ JA Gp ([(3,.buf h.length 0 k),(8,.buf h.length 0 k),(9,.v (.int .i64 (k:Nat))),(10,.v (.int .i64 a.length))],h++[.cells (bl (a++c::b))])=
      some (.normal,[(3,.buf h.length 0 k),(8,.buf h.length 0 k),(9,.v (.int .i64 (k:Nat))),(10,.v (.int .i64 (a.length+1:Nat)))],h++[.cells (bl (a++c::b))]):=by
     have hlt':(a.length:Int)<k:=om;have h0':(0:Int)<=a.length:=om;simp only[go_sem,Gp,JJp,Tryz.f117,hd,hx,hw,q1,hlo,hlt,hlt',h0',AC,BS,and_self]<;>rfl
    rw[JB,er,JO];have e4:a++c::b=a++[c]++b:=by simp
    rw[e4];exact hih
theorem f117{l:List Int}(hlo:lo<=h.length)(hl:l.length<=1000000000000)(hy:By l):E lo 117 [.v (.string (Rul.bs l))] h=some (.v (.string (Rul.bs (Jg l))),h):=by
 have hL:=JXj (lo:=lo) (h:=h) hlo l.length [] l (Ad _) (by simpa using hl) hy
 have hz:(⟨(YK l).toArray⟩:ByteArray).size=l.length:=by simp[De,YK]
 have hsl:(Jg l).length=l.length:=Aq _;rw[JrB];simp only[Gp,JJp,Tryz.f117,JK,loops,JC,go_sem,Ai,AC,Au]at hL;have hb1:decide (0+l.length<=(bl (Jg l)).length)=true:=by rw[YO,hsl];simp
 have hb2:((bl (Jg l)).take l.length).map (λx=>[x])=ri .u8 (Jg l):=by
  rw[BW (by rw[YO,hsl];exact Ad _)]
  simp[bl,ri]
 simp only[go_sem,JJp,Tryz.f117,hz,Rul.bs,WM hy,hL,hb1,hb2,Au]<;>rfl
end Go.Lift.Y1
end

section
namespace Go.Lift.Tok
open Utf
theorem kN{a b:Int}(ha:0<=a)(hb:1<=b):a<=a*b:=by have:=Int.mul_le_mul_of_nonneg_left hb ha;omega
theorem Kt{y:Int}(hy:1<=y):∀j:Nat,1<=y^j
 |0=>by simp
 |j+1=>by rw[Ch];exact Int.le_trans (Kt hy j) (kN (by have:=Kt hy j;omega) hy)
def kc(n:Int):List Int->Int
 |[]=>n
 |c::t=>kc (if 1099511627776<n*10+(c-48)then 1099511627776 else n*10+(c-48)) t
def GB(n:Int):List Int->Int
 |[]=>n
 |c::t=>GB (n*10+(c-48)) t
theorem qt:∀(l:List Int) (n:Int) (k:Nat),(∀c∈l,KD c=true)->0<=n->n<10^k->0<=GB n l/\GB n l<10^ (k+l.length)/\n<=GB n l
 |[],n,k,_,h0,h1=>⟨h0,by simpa[GB]using h1,Int.le_refl _⟩
 |c::t,n,k,hl,h0,h1=>by
  have hc:KD c=true:=hl c (by simp)
  simp only[KD,Af,decide_eq_true_eq]at hc;have h2:(10:Int)^ (k+1)=10^k*10:=Ch 10 k;obtain⟨a,b,d⟩:=qt t (n*10+(c-48)) (k+1) (λx hx=>hl x (by simp[hx])) om om
  refine⟨a,?_,?_⟩
  ·have e:k+(c::t).length=k+1+t.length:=by simp;omega
   rw[e];exact b
  ·simp only[GB];omega
def upN:Nat->Int->Option Int
 |0,n=>some n
 |k+1,n=>if 922337203685477580<n then none else upN k (n*10)
def Ky(y:Int):Nat->Int->Nat×Int
 |0,n=>(0,n)
 |k+1,n=>if n%y=0 then Ky y k (n/y)else(k+1,n)
def kg(y b:Int):Nat->Int->Option Int
 |0,d=>some d
 |k+1,d=>if b<d then none else kg y b k (d*y)
theorem JLi:∀(k:Nat) (n m:Int),upN k n=some m->m=n*10^k/\(k=0\/m<=9223372036854775800)
 |0,n,m,h=>by simp only[upN,Option.some.injEq]at h;exact⟨by simp[h],.inl rfl⟩
 |k+1,n,m,h=>by
  simp only[upN]at h
  split at h
  ·cases h
  ·rename_i h1
   obtain⟨a,b⟩:=JLi k (n*10) m h;refine⟨by rw[a,Ch,DT,DE 10],.inr ?_⟩
   rcases b with b|b
   ·subst b
    simp at a;omega
   ·exact b
theorem JHf{y b:Int}(hy:0<y):∀(k:Nat) (n m:Int),kg y b k n=some m->m=n*y^k/\(k=0\/m<=b*y)
 |0,n,m,h=>by simp only[kg,Option.some.injEq]at h;exact⟨by simp[h],.inl rfl⟩
 |k+1,n,m,h=>by
  simp only[kg]at h
  split at h
  ·cases h
  ·rename_i h1
   obtain⟨a,c⟩:=JHf hy k (n*y) m h;refine⟨by rw[a,Ch,DT,DE y],.inr ?_⟩
   rcases c with c|c
   ·subst c
    simp at a;rw[a];exact Int.mul_le_mul_of_nonneg_right om om
   ·exact c
theorem qu{a c:Nat}(h:a<=c):(2:Int)^a<=2^c:=by obtain⟨j,rfl⟩:∃j,c=a+j:=⟨c-a,om⟩;rw[Int.pow_add];have h0:(0:Int)<2^a:=Kt om a;have:(1:Int)<=2^j:=Kt om j;exact kN om this
theorem Zo{y:Int}(hy:0<y):∀(k:Nat) (n:Int),1<=n->(Ky y k n).1<=k/\1<=(Ky y k n).2/\(Ky y k n).2<=n/\n=(Ky y k n).2*y^ (k-(Ky y k n).1)
 |0,n,h=>by simp[Ky,h]
 |k+1,n,h=>by
  simp only[Ky]
  split
  ·rename_i h1
   have h2:n=n/y*y:=by have:=Int.mul_ediv_add_emod n y;rw[h1,Int.add_zero]at this;rw[DE];exact this.symm
   have h3:1<=n/y:=by
    rcases Int.lt_or_le (n/y) 1 with h4|h4
    ·have:n/y*y<=0:=Int.mul_nonpos_of_nonpos_of_nonneg om om
     omega
    ·exact h4
   obtain⟨a,b,c,d⟩:=Zo hy k (n/y) h3;have h5:n/y<=n:=Int.ediv_le_self y om;refine⟨om,b,om,?_⟩
   have e:k+1-(Ky y k (n/y)).1=k-(Ky y k (n/y)).1+1:=om;rw[e,Ch,<-DT,<-d];exact h2
  ·simp[h]
def JAD(n p:Int):Option (Int×Int):=
 match upN p.toNat n with
 |none=>none
 |some m=>
  if 62<(Ky 2 (-p).toNat m).1\/27<(Ky 5 (-p).toNat (Ky 2 (-p).toNat m).2).1 then none
  else(kg 5 1844674407370955161 (Ky 5 (-p).toNat (Ky 2 (-p).toNat m).2).1 (2^ (Ky 2 (-p).toNat m).1)).map λd=>((Ky 5 (-p).toNat (Ky 2 (-p).toNat m).2).2,d)
structure Wr where
 below:Bool
 digits:List Int
 behind:Nat
 exp:Int
 whole:Bool
def core(d:List Int):List Int:=(d.reverse.dropWhile (· ==48)).reverse
def turn(below:Bool)(x:Option (Int×Int)):Int×Int:=match x with
 |none=>(0,0)
 |some (n,d)=>(if below=true then-n else n,d)
def JUU(w:Wr):Int×Int:=
 let d:=w.digits.dropWhile (· ==48)
 if d=[]then(0,1)else
 if 18<(core d).length then(0,0)else
 turn w.below (JAD (GB 0 (core d)) (w.exp-w.behind+(d.length-(core d).length)))
structure Nm where
 sg:List Int
 d1:List Int
 fr:List Int
 ex:List Int
 d3:List Int
def Nm.text(n:Nm):List Int:=n.sg++n.d1++(if n.fr=[]then[]else 46::n.fr)++n.ex++n.d3
def Nm.wr(n:Nm):Wr:=⟨n.sg==[45],n.d1++n.fr,n.fr.length,if chr n.ex 1=45 then-kc 0 n.d3 else kc 0 n.d3,n.fr.isEmpty&&n.ex.isEmpty⟩
def Nm.num(n:Nm):(Int×Int)×Bool:=(JUU n.wr,n.wr.whole)
structure Nm.Ok(n:Nm):Prop where
 sg:n.sg=[]\/n.sg=[43]\/n.sg=[45]
 d1:n.d1.all KD=true
 fr:n.fr.all KD=true
 some:n.d1++n.fr≠[]
 ex:(n.ex=[]/\n.d3=[])\/((∃e,(e=101\/e=69)/\(n.ex=[e]\/n.ex=[e,43]\/n.ex=[e,45]))/\n.d3≠[])
 d3:n.d3.all KD=true
def QO(s:List Int):Nm×List Int:=
 let a:=if(chr s 0==43||chr s 0==45)=true then s.drop 1 else s
 let b:=a.dropWhile KD
 let f:=(chr b 0==46&&KD (chr b 1))
 let c:=if f=true then(b.drop 1).dropWhile KD else b
 let k:=if(chr c 1==43||chr c 1==45)=true then 2 else 1
 let x:=((chr c 0==101||chr c 0==69)&&KD (chr c k))
 (⟨if(chr s 0==43||chr s 0==45)=true then s.take 1 else[],a.takeWhile KD,if f=true then(b.drop 1).takeWhile KD else[],
  if x=true then c.take k else[],if x=true then(c.drop k).takeWhile KD else[]⟩,if x=true then(c.drop k).dropWhile KD else c)
def JLj(c:Int):Int:=if(decide (65<=c)&&decide (c<=90))=true then c+32 else c
def JHg(n:List Int):Bool:=n.map JLj==[117,114,108]
def qv:Nat->List Int->List Int
 |0,s=>s
 |n+1,s=>if(blk (chr s 0)&&blk (chr s 1))=true then qv n (s.drop 1)else s
def WH(s:List Int):List Int:=qv s.length s
def tk(k:Int)(t:List Int):Tk:=⟨k,t,(0,0),false,false⟩
def JCy(x:Bool×List Int×List Int):Tk:=if x.1=true then tk 7 x.2.1 else tk 8 []
def JLk(x:Bool×List Int×List Int):Tk:=if x.1=true then tk 5 x.2.1 else tk 6 []
def word(s:List Int):Tk×List Int:=
 let n:=(name s).1
 let r:=(name s).2
 if chr r 0=40 then
  if JHg n=true then
   let b:=WH (r.drop 1)
   if quo (if blk (chr b 0)=true then chr b 1 else chr b 0)=true then(tk 2 n,b)else(JCy (url b),(url b).2.2)
  else(tk 2 n,r.drop 1)
 else(tk 1 n,r)
def Yu(s:List Int):Tk×List Int:=
 let d:=(QO s).1.num
 let r:=(QO s).2
 if beg (chr r 0) (chr r 1) (chr r 2)=true then(⟨12,(name r).1,d.1,d.2,false⟩,(name r).2)
 else if chr r 0=37 then(⟨11,[],d.1,d.2,false⟩,r.drop 1)
 else(⟨10,[],d.1,d.2,false⟩,r)
def plK(c:Int):Int:=
 if c=40 then 21 else if c=41 then 22 else if c=44 then 18 else if c=58 then 16 else if c=59 then 17
 else if c=91 then 19 else if c=93 then 20 else if c=123 then 23 else if c=125 then 24 else 0
def WN(s:List Int):Tk×List Int:=
 let c:=chr s 0
 let d:=chr s 1
 let e:=chr s 2
 if blk c=true then(tk 13 [],QL s)
 else if quo c=true then(JLk (txt c (s.drop 1)),(txt c (s.drop 1)).2.2)
 else if 0<plK c then(tk (plK c) [],s.drop 1)
 else if num c d e=true then Yu s
 else if c=45/\d=45/\e=62 then(tk 15 [],s.drop 3)
 else if c=60/\d=33/\e=45/\chr s 3=45 then(tk 14 [],s.drop 4)
 else if c=35/\(ltr d||esc d e)=true then(⟨4,(name (s.drop 1)).1,(0,0),false,beg d e (chr s 3)⟩,(name (s.drop 1)).2)
 else if c=64/\beg d e (chr s 3)=true then(tk 3 (name (s.drop 1)).1,(name (s.drop 1)).2)
 else if beg c d e=true then word s
 else(tk 9 [c],s.drop 1)
def toksN:Nat->List Int->List Tk
 |0,_=>[]
 |n+1,s=>if HV s=[]then[]else(WN (HV s)).1::toksN n (WN (HV s)).2
def toks(s:List Int):List Tk:=toksN s.length s
theorem JNv{s:List Int}{c:Int}(h:chr s 0=c)(hc:c≠ -1):∃t,s=c::t:=by
 cases s with
 |nil=>simp only[chr,List.getElem?_nil]at h;exact absurd h.symm hc
 |cons x t=>simp only[chr,List.getElem?_cons_zero]at h;exact⟨t,by rw[h]⟩
theorem JJs{s:List Int}(h:KD (chr s 1)=true):∃a b t,s=a::b::t/\KD b=true:=by
 match s with
 |[]=>simp[chr,KD]at h
 |[x]=>simp[chr,KD]at h
 |a::b::t=>exact⟨a,b,t,rfl,by simpa[chr]using h⟩
theorem JCz(s:List Int)(n k:Nat):chr (s.drop n) k=chr s (n+k):=by simp[chr]
theorem JUV(p:Int->Bool)(l:List Int):l.takeWhile p++l.dropWhile p=l:=List.takeWhile_append_dropWhile
theorem JNw:∀l:List Int,(l.takeWhile KD).all KD=true
 |[]=>rfl
 |c::t=>by
  cases hc:KD c with
  |true=>rw[Be hc,List.all_cons,hc,JNw t]<;>rfl
  |false=>rw[List.takeWhile_cons_of_neg (by simp[hc])]<;>rfl
theorem JUW{b:Bool}{l:List Int}:(if b=true then l.takeWhile KD else[]).all KD=true:=by
 cases b with
 |true=>exact JNw l
 |false=>rfl
theorem JAG(s:List Int):(QO s).1.text++(QO s).2=s:=by
 unfold QO Nm.text;simp only;generalize hf:(chr ((if(chr s 0==43||chr s 0==45)=true then s.drop 1 else s).dropWhile KD) 0==46&&KD (chr ((if(chr s 0==43||chr s 0==45)=true then s.drop 1 else s).dropWhile KD) 1))=f
 have hs:(if(chr s 0==43||chr s 0==45)=true then s.take 1 else[])++(if(chr s 0==43||chr s 0==45)=true then s.drop 1 else s)=s:=by
  split
  ·exact Co 1 s
  ·rfl
 generalize (if(chr s 0==43||chr s 0==45)=true then s.drop 1 else s)=a at*
 generalize (if(chr s 0==43||chr s 0==45)=true then s.take 1 else[])=sg at*
 have ha:=JUV KD a;generalize a.takeWhile KD=d1 at*;generalize a.dropWhile KD=b at*
 have hb:(if(if f=true then(b.drop 1).takeWhile KD else[])=[]then[]else 46::(if f=true then(b.drop 1).takeWhile KD else[]))++(if f=true then(b.drop 1).dropWhile KD else b)=b:=by
  cases f with
  |false=>simp
  |true=>
   simp only[Af,beq_iff_eq]at hf;obtain⟨u,hu⟩:=JNv hf.1 (by decide)
   obtain⟨x,y,v,hv,hy⟩:=JJs hf.2;rw[hu]at hv;cases hv;rw[hu];simp only[BQ,AD,if_true];rw[if_neg (by rw[Be hy];simp),List.cons_append,JUV]
 generalize (if f=true then(b.drop 1).takeWhile KD else[])=fr at*
 generalize (if f=true then(b.drop 1).dropWhile KD else b)=c at*
 generalize (if(chr c 1==43||chr c 1==45)=true then 2 else 1)=k at*
 have hc:(if((chr c 0==101||chr c 0==69)&&KD (chr c k))=true then c.take k else[])++((if((chr c 0==101||chr c 0==69)&&KD (chr c k))=true then(c.drop k).takeWhile KD else[])++(if((chr c 0==101||chr c 0==69)&&KD (chr c k))=true then(c.drop k).dropWhile KD else c))=c:=by
  split
  ·rw[JUV,Co]
  ·rfl
 simp only[List.append_assoc];rw[hc,hb,ha,hs]
theorem JJt{s:List Int}(hn:num (chr s 0) (chr s 1) (chr s 2)=true):(QO s).1.Ok:=by
 unfold QO;simp only;refine⟨?_,JNw _,?_,?_,?_,?_⟩
 ·simp only
  split
  ·rename_i h
   simp only[AU,beq_iff_eq]at h;rcases h with h|h
   ·obtain⟨t,ht⟩:=JNv h (by decide)
    right;left;rw[ht]<;>rfl
   ·obtain⟨t,ht⟩:=JNv h (by decide)
    right;right;rw[ht]<;>rfl
  ·exact .inl rfl
 ·exact JUW
 ·simp only
  unfold num at hn;by_cases hsg:(chr s 0==43||chr s 0==45)=true
  ·rw[if_pos hsg]at hn⊢
   have e0:chr (s.drop 1) 0=chr s 1:=JCz s 1 0;have e1:chr (s.drop 1) 1=chr s 2:=JCz s 1 1;rw[<-e0,<-e1]at hn;generalize s.drop 1=a at*;rw[AU,Af,beq_iff_eq]at hn;intro h0;rw[CJ]at h0;obtain⟨h1,h2⟩:=h0
   cases a with
   |nil=>rcases hn with hn|⟨hn,_⟩<;>simp[chr,KD]at hn
   |cons c t=>
    have hc0:KD c=false:=by
     cases hc:KD c with
     |true=>rw[Be hc]at h1;cases h1
     |false=>rfl
    rw[Bn (by simp[hc0])]at h2
    rcases hn with hn|⟨hn,hm⟩
    ·have:KD c=true:=hn
     rw[hc0]at this;cases this
    ·have hf:(chr (c::t) 0==46&&KD (chr (c::t) 1))=true:=by simp[hn,hm]
     rw[if_pos hf]at h2;obtain⟨x,y,v,hv,hy⟩:=JJs hm;cases hv;simp only[BQ,AD]at h2;rw[Be hy]at h2;cases h2
  ·rw[if_neg hsg]at hn⊢
   rw[AU,Af,beq_iff_eq]at hn;intro h0;rw[CJ]at h0;obtain⟨h1,h2⟩:=h0
   cases s with
   |nil=>rcases hn with hn|⟨hn,_⟩<;>simp[chr,KD]at hn
   |cons c t=>
    have hc0:KD c=false:=by
     cases hc:KD c with
     |true=>rw[Be hc]at h1;cases h1
     |false=>rfl
    rw[Bn (by simp[hc0])]at h2
    rcases hn with hn|⟨hn,hm⟩
    ·have:KD c=true:=hn
     rw[hc0]at this;cases this
    ·have hf:(chr (c::t) 0==46&&KD (chr (c::t) 1))=true:=by simp[hn,hm]
     rw[if_pos hf]at h2;obtain⟨x,y,v,hv,hy⟩:=JJs hm;cases hv;simp only[BQ,AD]at h2;rw[Be hy]at h2;cases h2
 ·simp only
  generalize (if(chr ((if(chr s 0==43||chr s 0==45)=true then s.drop 1 else s).dropWhile KD) 0==46&&KD (chr ((if(chr s 0==43||chr s 0==45)=true then s.drop 1 else s).dropWhile KD) 1))=true then(((if(chr s 0==43||chr s 0==45)=true then s.drop 1 else s).dropWhile KD).drop 1).dropWhile KD else(if(chr s 0==43||chr s 0==45)=true then s.drop 1 else s).dropWhile KD)=c
  by_cases hx:((chr c 0==101||chr c 0==69)&&KD (chr c (if(chr c 1==43||chr c 1==45)=true then 2 else 1)))=true
  ·rw[if_pos hx,if_pos hx]
   right
   rw[Af]at hx;obtain⟨he,hd⟩:=hx;rw[AU,beq_iff_eq,beq_iff_eq]at he
   obtain⟨e,t,hc⟩:∃e t,c=e::t:=by
    cases c with
    |nil=>simp[chr]at he
    |cons e t=>exact⟨e,t,rfl⟩
   subst hc;have he':e=101\/e=69:=by simpa[chr]using he
   by_cases hk:(chr (e::t) 1==43||chr (e::t) 1==45)=true
   ·rw[if_pos hk]
    rw[if_pos hk]at hd;rw[AU,beq_iff_eq,beq_iff_eq]at hk
    cases t with
    |nil=>simp[chr]at hk
    |cons s2 t2=>
     have hs2:s2=43\/s2=45:=by simpa[chr]using hk
     refine⟨⟨e,he',?_⟩,?_⟩
     ·rcases hs2 with rfl|rfl
      ·right;left;rfl
      ·right;right;rfl
     ·simp only[BQ,AD]
      cases t2 with
      |nil=>simp[chr,KD]at hd
      |cons y v=>
       have hy:KD y=true:=by simpa[chr]using hd
       rw[Be hy];simp
   ·rw[if_neg hk]
    rw[if_neg hk]at hd;refine⟨⟨e,he',.inl rfl⟩,?_⟩
    simp only[BQ,AD]
    cases t with
    |nil=>simp[chr,KD]at hd
    |cons y v=>
     have hy:KD y=true:=by simpa[chr]using hd
     rw[Be hy];simp
  ·rw[if_neg hx,if_neg hx]
   exact .inl ⟨rfl,rfl⟩
 ·exact JUW
theorem JO5:∀(k:Nat) (n:Int) (s:List Int),(Ys k n s).2.length<=s.length
 |0,n,s=>Ad _
 |k+1,n,[]=>Ad _
 |k+1,n,c::t=>by
  simp only[Ys]
  split
  ·exact Ad _
  ·have:=JO5 k (n*16+hex c) t
   simp;omega
theorem JXk(s:List Int):(JDz s).length<=s.length:=by
 cases s with
 |nil=>exact Ad _
 |cons d u=>simp only[JDz];split<;>simp
theorem Gd(s:List Int):(QM s).2.length<=s.length:=by
 cases s with
 |nil=>exact Ad _
 |cons c t=>
  simp only[QM]
  split
  ·simp
  ·have:=JXk (Ys 6 0 (c::t)).2
   have:=JO5 6 0 (c::t);simp only at*;omega
theorem jU:∀(n:Nat) (s:List Int),(QQ n s).2.length<=s.length
 |0,s=>Ad _
 |n+1,[]=>Ad _
 |n+1,c::t=>by
  simp only[QQ]
  split
  ·have:=jU n t
   simp;omega
  ·split
   ·have:=jU n (QM t).2
    have:=Gd t;simp;omega
   ·simp
theorem JJu(s:List Int):(name s).2.length<=s.length:=jU _ _
theorem JXl{c:Int}{t:List Int}(h:(ltr c||esc c (chr t 0))=true):(name (c::t)).2.length<=t.length:=by
 unfold name;simp only[Ae,QQ]
 split
 ·exact jU _ _
 ·rename_i h2
  rw[if_pos (by simpa[h2]using h)]
  exact Bt (jU _ _) (Gd t)
theorem JBL(sign:Int):∀(n:Nat) (s:List Int),(QY sign n s).2.2.length<=s.length
 |0,s=>Ad _
 |n+1,[]=>Ad _
 |n+1,c::t=>by
  simp only[QY]
  split
  ·exact Ad _
  ·split
   ·simp
   ·split
    ·cases t with
     |nil=>simp
     |cons d u=>
      simp only
      split
      ·have:=JBL sign n u
       simp;omega
      ·have:=JBL sign n (QM (d::u)).2
       have:=Gd (d::u);simp at*;omega
    ·have:=JBL sign n t
     simp;omega
theorem Ge:∀(n:Nat) (s:List Int),(kZ n s).length<=s.length
 |0,s=>Ad _
 |n+1,[]=>Ad _
 |n+1,c::t=>by
  simp only[kZ]
  split
  ·simp
  ·split
   ·have:=Ge n (QM t).2
    have:=Gd t;simp;omega
   ·have:=Ge n t
    simp;omega
theorem G8(s:List Int):(QL s).length<=s.length:=(BH _).length_le
theorem JJv:∀(n:Nat) (s:List Int),(QZ n s).2.2.length<=s.length
 |0,s=>Ad _
 |n+1,[]=>Ad _
 |n+1,c::t=>by
  simp only[QZ]
  split
  ·simp
  ·split
   ·have:=G8 t
    split
    ·simp
     omega
    ·have:=Ge (QL t).length (QL t)
     simp[JCP];omega
   ·split
    ·exact Ge _ _
    ·split
     ·split
      ·have:=JJv n (QM t).2
       have:=Gd t;simp;omega
      ·exact Ge _ _
     ·have:=JJv n t
      simp;omega
theorem Jdw(s:List Int):(url s).2.2.length<=s.length:=Bt (JJv _ _) (G8 s)
theorem JHh:∀(n:Nat) (s:List Int),(qv n s).length<=s.length
 |0,s=>Ad _
 |n+1,s=>by
  simp only[qv]
  split
  ·have:=JHh n (s.drop 1)
   simp at*;omega
  ·exact Ad _
theorem JLl(s:List Int):(WH s).length<=s.length:=JHh _ _
theorem JLm:∀s:List Int,(yh s).length<=s.length
 |[]=>Ad _
 |[_]=>by simp[yh]
 |c::d::t=>by
  simp only[yh]
  split
  ·simp;omega
  ·have:=JLm (d::t)
   simp at*;omega
theorem JO6:∀(n:Nat) (s:List Int),(JCO n s).length<=s.length
 |0,s=>Ad _
 |n+1,[]=>Ad _
 |n+1,[_]=>Ad _
 |n+1,c::d::t=>by
  simp only[JCO]
  split
  ·have:=JO6 n (yh t)
   have:=JLm t;simp;omega
  ·exact Ad _
theorem JBM(s:List Int):(HV s).length<=s.length:=JO6 _ _
theorem JXm{c d e:Int}(h:beg c d e=true):(ltr c||esc c d)=true:=by
 unfold beg at h
 split at h
 ·rename_i h45
  simp only[beq_iff_eq]at h45;subst h45;rfl
 ·rw[AU]at h
  rcases h with h|h
  ·unfold ltr;simp[h]
  ·simp[h]
theorem JXn{c:Int}{t:List Int}(h:beg c (chr t 0) (chr t 1)=true):(word (c::t)).2.length<=t.length:=by
 have h1:=JXl (JXm h);unfold word;simp only
 split
 ·split
  ·have h2:=JLl ((name (c::t)).2.drop 1)
   rw[List.length_drop]at h2;have h3:=Jdw (WH ((name (c::t)).2.drop 1))
   have key:∀b:Bool,(if b=true then(tk 2 (name (c::t)).1,WH ((name (c::t)).2.drop 1))else(JCy (url (WH ((name (c::t)).2.drop 1))),(url (WH ((name (c::t)).2.drop 1))).2.2)).2.length<=t.length:=by
    intro b
    cases b with
    |true=>rw[if_pos rfl];show(WH ((name (c::t)).2.drop 1)).length<=_;omega
    |false=>rw[if_neg (by simp)];show(url (WH ((name (c::t)).2.drop 1))).2.2.length<=_;omega
   exact key _
  ·simp
   omega
 ·exact h1
theorem JRU{c:Int}{t:List Int}(h:num c (chr t 0) (chr t 1)=true):(Yu (c::t)).2.length<=t.length:=by
 have h0:num (chr (c::t) 0) (chr (c::t) 1) (chr (c::t) 2)=true:=by
  have e1:chr (c::t) 1=chr t 0:=by simp[chr]
  have e2:chr (c::t) 2=chr t 1:=by simp[chr]
  rw[e1,e2];exact h
 have hok:=JJt h0;have ht:=congrArg Bq (JAG (c::t));rw[List.length_append,Ae]at ht
 have hpos:0<(QO (c::t)).1.text.length:=by
  have:=hok.some;rcases Nat.eq_zero_or_pos (QO (c::t)).1.text.length with h2|h2
  ·exfalso
   have h3:=Ar h2;unfold Nm.text at h3;simp only[CJ]at h3
   have h4:(QO (c::t)).1.fr=[]:=by
    have:=h3.1.1.2
    split at this
    ·assumption
    ·cases this
   exact this (by rw[h3.1.1.1.2,h4]<;>rfl)
  ·exact h2
 unfold Yu;simp only
 split
 ·have:=JJu (QO (c::t)).2
  simp only;omega
 ·split
  ·simp
   omega
  ·simp only
   omega
theorem yz{s:List Int}(h:s≠[]):(WN s).2.length<s.length:=by
 obtain⟨c,t,rfl⟩:∃c t,s=c::t:=by
  cases s with
  |nil=>exact absurd rfl h
  |cons c t=>exact⟨c,t,rfl⟩
 have e0:chr (c::t) 0=c:=rfl;have e1:chr (c::t) 1=chr t 0:=by simp[chr]
 have e2:chr (c::t) 2=chr t 1:=by simp[chr]
 have e3:chr (c::t) 3=chr t 2:=by simp[chr]
 unfold WN;simp only[e0,e1,e2,e3,Ae,BQ,AD]
 split
 ·rename_i hb
  have:(QL (c::t)).length<=t.length:=by unfold QL;rw[List.dropWhile_cons_of_pos hb];exact(BH _).length_le
  simp only;omega
 ·split
  ·have:=JBL c t.length t
   unfold txt;simp only;omega
  ·split
   ·simp
   ·split
    ·rename_i hn
     have:=JRU hn;omega
    ·split
     ·simp;omega
     ·split
      ·simp;omega
      ·split
       ·have:=JJu t
        simp only;omega
       ·split
        ·have:=JJu t
         simp only;omega
        ·split
         ·rename_i hb
          have:=JXn hb;omega
         ·simp
end Go.Lift.Tok
end

section
namespace Go.Lift.Spell
open Utf Tok
def big:Int:=1000000000000000000
def jV:Nat->Int->Int->Nat->Option (Int×Nat)
 |0,_,_,_=>none
 |k+1,n,d,p=>if d<=1 then some (n,p)else if d%2≠0/\d%5≠0 then none else if d%10=0 then jV k n (d/10) (p+1)
  else if big<=n then none else if d%5=0 then jV k (n*2) (d/5) (p+1)else jV k (n*5) (d/2) (p+1)
theorem pow_pos{x:Int}(hx:0<x)(k:Nat):0<x^k:=by
 induction k with
 |zero=>simp
 |succ k ih=>rw[Ch];exact Int.mul_pos ih hx
theorem JUX(b:Nat):((5:Int)^b)%2=1:=by
 induction b with
 |zero=>simp
 |succ b ih=>rw[Ch];omega
def JO7(n d:Int):Bool:=decide (1<=d)&&n != -9223372036854775808&&Df n.natAbs d.toNat==1
def y0(n d:Int):Bool:=(n==0&&d==0)||JO7 n d
end Go.Lift.Spell
end

section
open Go.Proofs
namespace Go.Lift.Y1
open Utf Tok Spell
theorem QB{n:Int}(h0:0<=n)(h1:n<=18446744073709551615):Ba.wrap n=n:=by simp only[Dd,Cp,CA];simp;omega
theorem JRV{n:Int}(h0: -9223372036854775808<=n)(h1:n<0):Ba.wrap n=n+18446744073709551616:=by simp only[Dd,Cp,CA];simp;omega
section
variable{lo:Nat}{h:JG}
theorem f146{n:Int}(h0: -9223372036854775808<=n)(h1:n<=9223372036854775807):E lo 146 [.v (.int .i64 n)] h=some (.v (.int .u64 n.natAbs),h):=by
 rw[Jrb];by_cases hn:n<0
 ·have q:decide (n<0)=true:=by simp[hn]
  have w1:Ba.wrap n=n+18446744073709551616:=JRV h0 hn
  have w2:Ba.wrap (0-(n+18446744073709551616))=(n.natAbs:Int):=by simp only[Dd,Cp,CA];simp;omega
  simp only[go_sem,Jdr,Tryz.f146,q,w1,w2]<;>rfl
 ·have q:decide (n<0)=false:=by simp;omega
  have w1:Ba.wrap n=(n.natAbs:Int):=by rw[QB om om];omega
  simp only[go_sem,Jdr,Tryz.f146,q,w1]<;>rfl
theorem JLn(a b:Nat):((b:Int).tmod (a:Int))=((b%a:Nat):Int):=by rw[Int.tmod_eq_emod_of_nonneg om]<;>rfl
theorem JXo:∀(m a b:Nat),a<=m->JA (evCode ⟨Aa,E,lo,h.length,JUA⟩ JA JAB) ([(0,.v (.int .u64 a)),(1,.v (.int .u64 b))],h)=
  some (.exit 0,[(0,.v (.int .u64 0)),(1,.v (.int .u64 (Df a b))),(6,.v (.bool false))],h):=by
 have stop:∀b:Nat,JA (evCode ⟨Aa,E,lo,h.length,JUA⟩ JA JAB) ([(0,.v (.int .u64 (0:Nat))),(1,.v (.int .u64 b))],h)=
  some (.exit 0,[(0,.v (.int .u64 0)),(1,.v (.int .u64 (Df 0 b))),(6,.v (.bool false))],h):=by
  intro b;have q:(((0:Nat):Int) !=0)=false:=rfl;rw[JB,Nat.gcd_zero_left];simp only[go_sem,JAB,JRR,Tryz.f145,q]<;>rfl
 intro m
 induction m with
 |zero=>
  intro a b ha;obtain rfl:a=0:=om
  exact stop b
 |succ m ih=>
  intro a b ha;by_cases h0:a=0
  ·subst h0;exact stop b
  have q:((a:Int) !=0)=true:=by simp;omega
  have z:¬((a:Int)=0):=om;have t:=JLn a b
  have er:evCode ⟨Aa,E,lo,h.length,JUA⟩ JA JAB ([(0,.v (.int .u64 a)),(1,.v (.int .u64 b))],h)=some (.normal,[(0,.v (.int .u64 ((b%a:Nat):Int))),(1,.v (.int .u64 a))],h):=by simp only[go_sem,JAB,JRR,Tryz.f145,q,z,t]<;>rfl
  rw[JB,er,JO,ih (b%a) a (by have:=Nat.mod_lt b (by omega:0<a);omega),Nat.gcd_rec a b]
theorem f145{a b:Nat}:E lo 145 [.v (.int .u64 a),.v (.int .u64 b)] h=some (.v (.int .u64 (Df a b)),h):=by have hL:=JXo (lo:=lo) (h:=h) a a b (Ad _);simp only[JAB,JRR,Tryz.f145,JK,loops,JC,go_sem]at hL;rw[Jra];simp only[go_sem,JRR,Tryz.f145,hL]<;>rfl
theorem f141{n d:Int}(h0: -9223372036854775808<=n)(h1:n<=9223372036854775807)(h2:d<=9223372036854775807)(hlo:lo<=h.length):
  E lo 141 [.agg [.v (.int .i64 n),.v (.int .i64 d)]] h=some (.v (.bool (JO7 n d)),h):=by
 unfold JO7;rw[JrX];by_cases hd:1<=d
 rotate_left
 ·have q:decide (1<=d)=false:=by simp;omega
  rw[q];simp only[go_sem,JXY,Tryz.f141,q,As]<;>rfl
 have q:decide (1<=d)=true:=by simp[hd]
 by_cases hn:n= -9223372036854775808
 ·have q2:(n != -9223372036854775808)=false:=by simp[hn]
  rw[q,q2];simp only[go_sem,JXY,Tryz.f141,q,q2,As,Bool.and_false]<;>rfl
 have q2:(n != -9223372036854775808)=true:=by simp[hn]
 have w1:Ba.wrap d=(d.toNat:Int):=by rw[QB om om];omega
 have k1:=λlo h=>f146 (lo:=lo) (h:=h) h0 h1
 have k2:=λlo h=>f145 (lo:=lo) (h:=h) (a:=n.natAbs) (b:=d.toNat)
 have k3:((Df n.natAbs d.toNat:Int)==1)=(Df n.natAbs d.toNat==1):=by rw[BO,beq_iff_eq,beq_iff_eq];omega
 rw[q,q2];simp only[go_sem,JXY,Tryz.f141,q,q2,w1,k1,k2,k3,hlo,Aw,Bool.and_true]<;>rfl
theorem QW:qO Aa 28=some [1,1]:=kr
theorem Gs(n d x y:Int):eqCells [1,1] [.v (.int .i64 n),.v (.int .i64 d)] [.v (.int .i64 x),.v (.int .i64 y)]=some (n==x&&d==y):=by simp[eqCells,eqS]
theorem f136{n d:Int}(h0: -9223372036854775808<=n)(h1:n<=9223372036854775807)(h2:d<=9223372036854775807)(hlo:lo<=h.length):
  E lo 136 [.agg [.v (.int .i64 n),.v (.int .i64 d)]] h=some (.v (.bool (y0 n d)),h):=by
 have k:=λlo h hlo=>f141 (lo:=lo) (h:=h) h0 h1 h2 hlo
 have e:=Gs n d 0 0;have hlo2:lo<=h.length+1:=om;unfold y0;rw[JrT]
 cases q:(n==0&&d==0)with
 |true=>
  rw[q]at e
  simp only[go_sem,Jdp,Tryz.f136,QW,e,hlo]<;>rfl
 |false=>
  rw[q]at e;have k':=k lo (h++[.cells [.v (.int .i64 n),.v (.int .i64 d)]]) (by simp;omega)
  simp only[go_sem,Jdp,Tryz.f136,QW,e,k',hlo,A3]<;>rfl
end
end Go.Lift.Y1
end

section
namespace Go.Lift.Rul
def Q0:List CV->List CV->List (List CV)
 |acc,[]=>[Jh acc]
 |acc,v::r=>if v.k=18 then Jh acc::Q0 [] r else Q0 (acc++[v]) r
def J4(l:List CV):List (List CV):=Q0 [] l
theorem GC:∀(acc l:List CV),(Q0 acc l).length<=l.length+1
 |acc,[]=>Ad _
 |acc,v::r=>by
  have h1:=GC [] r;have h2:=GC (acc++[v]) r;rw[Q0]
  split
  ·rw[Ae,Ae];omega
  ·rw[Ae];omega
theorem KH{l:List CV}{v:CV}(h:v∈Jh l):v∈l:=by unfold Jh at h;rw[B6]at h;have h1:=(BR _).subset h;rw[B6]at h1;exact(BR _).subset h1
theorem qw:∀(acc l p:List CV),p∈Q0 acc l->∀v∈p,v∈acc\/v∈l
 |acc,[],p,hp,v,hv=>by
  rw[Q0,A1]at hp;subst hp
  exact .inl (KH hv)
 |acc,u::r,p,hp,v,hv=>by
  rw[Q0]at hp
  split at hp
  ·rcases AP.1 hp with rfl|hp
   ·exact .inl (KH hv)
   ·rcases qw [] r p hp v hv with h|h
    ·cases h
    ·exact .inr (AX _ h)
  ·rcases qw (acc++[u]) r p hp v hv with h|h
   ·rcases List.mem_append.1 h with h|h
    ·exact .inl h
    ·exact .inr (by rw[A1]at h;subst h;exact Bj ..)
   ·exact .inr (AX _ h)
def Yh(ps:List (List CV)):List (List V):=ps.map λp=>[.list .no (JJ p)]
theorem JBN(ps:List (List CV)):((Yh ps).all λx=>x.length==1)=true:=by rw[List.all_eq_true];intro x hx;obtain⟨t,_,rfl⟩:=AM.1 hx;rfl
theorem kO(ps:List (List CV)):(Yh ps).length=ps.length:=Aq ..
theorem JBO(ps:List (List CV)):J2 (Yh ps)=false:=by cases ps<;>rfl
theorem y4(ps:List (List CV))(p:List CV):Yh (ps++[p])=Yh ps++[[.list .no (JJ p)]]:=by simp[Yh]
end Go.Lift.Rul
end
