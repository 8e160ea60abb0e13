/- jalousieref14.Parse: the words, the kind. -/
import Derived.Test.YtolidijpmnompaaGreatDoorGLd
import Derived.Test.YtolidijpmnompaaGreatDoorGKa
import Derived.Test.YtolidijpmnompaaGreatDoorGK4Basea
import Derived.Test.YtolidijpmnompaaGreatDoorGKf
open BitVec renaming ofInt->Ap
open Bool renaming and_eq_true->Af,and_false->Bl,false_eq_true->Al,not_false->A5,not_true->AN,true_and->Aw
open Go.IntKind renaming i32->AR,i64->Am,u64->Ba,u8->BM
open Go.Proofs.Tryz renaming prog->Aa
open Go.Value renaming pointer->DU
open List renaming all_append->CM,all_cons->Bi,all_eq_true->Ak,any_eq_true->Dy,append_assoc->Ax,cons_append->AA,drop_eq_getElem_cons->Av,drop_eq_nil_of_le->AZ,drop_length->A0,drop_zero->AD,getElem?_append_right->Bb,getElem?_eq_getElem->Ac,getElem?_eq_some_iff->Ab,getElem?_map->An,getElem_mem->AW,length_append->Ao,length_cons->Ae,length_drop->AB,length_map->Aq,length_nil->Ai,length_set->B4,mem_cons->AP,mem_cons_of_mem->AX,mem_reverse->B6,nil_append->Au,set_set->Dg
open Nat renaming add_sub_cancel_left->BD,le_refl->Ad,zero_add->AC
set_option linter.unusedVariables false
set_option linter.unusedSimpArgs false
set_option linter.unusedSectionVars false
set_option maxRecDepth 20000
set_option maxHeartbeats 4000000
section
open Go.Proofs
namespace Go.Lift.Y1
open Rul
open Utf (By)
variable{lo:Nat}{h:JG}
section
variable{nm:ByteArray}{k:Int}{dn low:Bool}{ws:List ByteArray}{ck a b:Int}{w:ByteArray}{L:List CV}{n:Nat}{wd:List Int}
abbrev W10(h:JG)(L:List CV)(ws:List ByteArray)(wd:List Int)(i:Int):Jl:=[(1,.list .no (JJ L)),(4,.ptr h.length 0),(6,.ptr (h.length+1) 0),(11,.v (.string (Rul.bs wd))),(85,.list .no (W7 ws)),(86,.v (.int .i64 ws.length)),(87,.v (.int .i64 i))]
theorem Jsf{x:ByteArray}{i:Nat}(hlo:lo<=h.length)(hl:ws.length<=1000000000)(hwd:By wd)(hg:ws[i]? =some x):
  evCode (Ww lo h) JA yr (W10 h L ws wd i,W1 h (JL nm k dn low ws ck a b w))=if(!(wd==[])&&(x.toList==(Rul.bs wd).toList))=true then Q5 h (JL nm k dn low ws ck a b w) (jZ 2 x) 0 else some (.normal,W10 h L ws wd (i+1:Nat),W1 h (JL nm k dn low ws ck a b w)):=by
 have hlt:i<ws.length:=(Ab.1 hg).1
 have hgr:(W7 ws)[i]? =some [.v (.string x)]:=by unfold W7;rw[An,hg]<;>rfl
 have l1:lo<=h.length+1:=om;have q1:decide ((i:Int)<(ws.length:Int))=true:=by rw[decide_eq_true_iff];omega
 have t1:Int.toNat (i:Int)=i:=om;have hwr:=JM (i:=i) om;have e4:=QR hwd (byW (b:=[]) (by decide))
 rw[show Rul.bs []=⟨#[]⟩from rfl]at e4
 have e4':((Rul.bs wd).toList !=(⟨#[]⟩:ByteArray).toList)= !(wd==[]):=by unfold bne;rw[e4]
 simp only[W10,W1,Q5,jZ,vZ,JL];generalize W7 ws=S at hgr⊢
 cases z:wd==[]with
 |true=>
  rw[z]at e4 e4';rw[AN]at e4';rw[AN,Bool.false_and,if_neg (by simp)]
  simp only[Ww,go_sem,yr,Wy,Tryz.f10,hlo,l1,q1,hgr,t1,hwr,e4,e4',AN]<;>rfl
 |false=>
  rw[z]at e4 e4';rw[A5]at e4';rw[A5,Aw]
  cases z2:x.toList==(Rul.bs wd).toList with
  |true=>
   rw[if_pos rfl]
   simp only[Ww,go_sem,yr,Wy,Tryz.f10,hlo,l1,q1,hgr,t1,hwr,e4,e4',z2,A5]<;>rfl
  |false=>
   rw[if_neg (by simp)]
   simp only[Ww,go_sem,yr,Wy,Tryz.f10,hlo,l1,q1,hgr,t1,hwr,e4,e4',z2,A5]<;>rfl
theorem Jsg(hlo:lo<=h.length):evCode (Ww lo h) JA yr (W10 h L ws wd (ws.length:Nat),W1 h (JL nm k dn low ws ck a b w))=some (.exit 0,W10 h L ws wd (ws.length:Nat)++[(88,.v (.bool false))],W1 h (JL nm k dn low ws ck a b w)):=by
 have q1:decide ((ws.length:Int)<(ws.length:Int))=false:=by rw[decide_eq_false_iff_not];omega
 simp only[Ww,W10,W1,vZ,JL,go_sem,yr,Wy,Tryz.f10,hlo,q1]<;>rfl
theorem JU8{x y:ByteArray}(h:(x.toList==y.toList)=true):x=y:=by rw[beq_iff_eq,ByteArray.toList_eq,ByteArray.toList_eq]at h;obtain⟨⟨a⟩⟩:=x;obtain⟨⟨b⟩⟩:=y;have:a=b:=h;rw[this]
theorem JPZ(hlo:lo<=h.length)(hl:ws.length<=1000000000)(hwd:By wd):∀m i:Nat,i+m=ws.length->
  JA (evCode (Ww lo h) JA yr) (W10 h L ws wd i,W1 h (JL nm k dn low ws ck a b w))=
   if(!(wd==[])&&Y3 (ws.drop i) (Rul.bs wd))=true then Q5 h (JL nm k dn low ws ck a b w) (jZ 2 (Rul.bs wd)) 0
   else some (.exit 0,W10 h L ws wd (ws.length:Nat)++[(88,.v (.bool false))],W1 h (JL nm k dn low ws ck a b w))
 |0,i,hm=>by
  obtain rfl:i=ws.length:=om
  rw[A0,show Y3 [] (Rul.bs wd)=false from rfl,Bl,if_neg (by simp),JB,Jsg hlo,Jx]
 |m+1,i,hm=>by
  have hlt:i<ws.length:=om;rw[JB,Jsf hlo hl hwd (Ac hlt),Av hlt]
  have e:Y3 (ws[i]::ws.drop (i+1)) (Rul.bs wd)=((ws[i].toList==(Rul.bs wd).toList)||Y3 (ws.drop (i+1)) (Rul.bs wd)):=by unfold Y3;rw[List.any_cons,Bool.beq_comm]
  rw[e];by_cases z:(!(wd==[])&&(ws[i].toList==(Rul.bs wd).toList))=true
  ·have z1:(!(wd==[]))=true:=by rw[Af]at z;exact z.1
   have z2:(ws[i].toList==(Rul.bs wd).toList)=true:=by rw[Af]at z;exact z.2
   rw[if_pos z,z1,z2,if_pos (by simp),JU8 z2,Q5,Kh]
  ·rw[if_neg z,JO,JPZ hlo hl hwd m (i+1) om]
   have e2:(!(wd==[])&&((ws[i].toList==(Rul.bs wd).toList)||Y3 (ws.drop (i+1)) (Rul.bs wd)))=(!(wd==[])&&Y3 (ws.drop (i+1)) (Rul.bs wd)):=by
    cases z1:wd==[]with
    |true=>rfl
    |false=>
     rw[z1]at z;have z3:(ws[i].toList==(Rul.bs wd).toList)=false:=by simpa using z
     rw[z3,Bool.false_or]
   rw[e2]
theorem Jsh(hlo:lo<=h.length)(hl:ws.length<=1000000000)(hwd:By wd):WD (Ww lo h) JA (pc Wy 18 2) (M10 h L wd,W1 h (JL nm k dn low ws ck a b w))=
  if(!(wd==[])&&Y3 ws (Rul.bs wd))=true then Q5 h (JL nm k dn low ws ck a b w) (jZ 2 (Rul.bs wd)) 0
  else some (.normal,W10 h L ws wd (ws.length:Nat)++[(88,.v (.bool false))],W1 h (JL nm k dn low ws ck a b w)):=by
 have l1:lo<=h.length+1:=om;have hL:=JPZ (nm:=nm) (k:=k) (dn:=dn) (low:=low) (ck:=ck) (a:=a) (b:=b) (w:=w) (L:=L) (lo:=lo) (h:=h) hlo hl hwd ws.length 0 om;rw[AD]at hL;have sl:(W7 ws).length=ws.length:=by unfold W7;rw[Aq]
 have se:(ws.map λx=>[V.v (Value.string x)])=W7 ws:=rfl
 simp only[W10,M10,W1,vZ,JL,se]at hL⊢;generalize W7 ws=S at hL sl⊢;by_cases z:(!(wd==[])&&Y3 ws (Rul.bs wd))=true
 ·rw[if_pos z]at hL⊢
  simp only[Q5,jZ,se,yr,Wy,Tryz.f10,JK,loops,JC,Ww,show((0:Nat):Int)=0 from rfl,go_sem]at hL⊢
  simp only[Ww,go_sem,Wy,Tryz.f10,hlo,l1,sl,hL]<;>rfl
 ·rw[if_neg z]at hL⊢
  simp only[yr,Wy,Tryz.f10,JK,loops,JC,Ww,show((0:Nat):Int)=0 from rfl,go_sem]at hL
  simp only[Ww,go_sem,Wy,Tryz.f10,hlo,l1,sl,hL]<;>rfl
end
section
variable{nm:ByteArray}{k:Int}{dn low:Bool}{ws:List ByteArray}{ck a b:Int}{w:ByteArray}{L:List CV}{n:Nat}{wd:List Int}
abbrev K10(h:JG)(L:List CV):Jl:=[(1,.list .no (JJ L)),(4,.ptr h.length 0),(6,.ptr (h.length+1) 0),(103,.v (.bool false))]
theorem Jsi(hlo:lo<=h.length):WD (Ww lo h) JA (pc Wy 20 2) (W10 h L ws wd (ws.length:Nat)++[(88,.v (.bool false))],W1 h (JL nm k dn low ws ck a b w))=
  if(k==3)=true then Q5 h (JL nm k dn low ws ck a b w) vZ 3
  else some (.normal,K10 h L,W1 h (JL nm k dn low ws ck a b w)):=by
 have l1:lo<=h.length+1:=om;simp only[W10,W1,vZ,JL];generalize W7 ws=S
 cases z:k==3 with
 |true=>
  rw[if_pos rfl]
  simp only[Ww,Q5,vZ,go_sem,Wy,Tryz.f10,hlo,l1,z]<;>rfl
 |false=>
  rw[if_neg (by simp)]
  simp only[Ww,go_sem,Wy,Tryz.f10,hlo,l1,z]<;>rfl
abbrev H10(h:JG)(cs:List V)(e:X):JG:=h++[.cells vZ,.cells cs,.cells (xC e)]
abbrev J10(h:JG)(L:List CV)(er:Int)(z:Bool):Jl:=[(1,.list .no (JJ L)),(4,.ptr h.length 0),(6,.ptr (h.length+1) 0),(14,.ptr (h.length+2) 0),(15,.v (.int .i64 er)),(16,.v (.int .i64 1)),(112,.v (.bool z))]
theorem Jsj(hlo:lo<=h.length)(hn:JN L<=n)(hl:JN L<=2000000)(ho:QG L):WD (Ww lo h) JA (pc Wy 22 3) (K10 h L,W1 h (JL nm k dn low ws ck a b w))=
  some (.normal,J10 h L (Jo n L).2 (k==1),H10 h (JL nm k dn low ws ck a b w) (Jo n L).1):=by
 have l1:lo<=h.length+1:=om;have l2:lo<=h.length+1+1:=om;have c39:=λlo h hlo=>f39 (lo:=lo) (h:=h) (l:=L) (n:=n) hlo hn om ho
 generalize Jo n L=r at c39⊢;obtain⟨⟨ek,en,ed,eu,el⟩,er⟩:=r;simp only[JR]at c39;simp only[Ww,K10,J10,H10,W1,vZ,JL,JR,go_sem,Wy,Tryz.f10,hlo,l1,l2,c39]<;>rfl
abbrev G10(h:JG)(er want:Int)(z:Bool):Jl:=[(4,.ptr h.length 0),(6,.ptr (h.length+1) 0),(14,.ptr (h.length+2) 0),(15,.v (.int .i64 er)),(16,.v (.int .i64 want)),(132,.v (.bool z))]
abbrev U10(h:JG)(er:Int):Jl:=[(1,.undef),(4,.ptr h.length 0),(6,.ptr (h.length+1) 0),(14,.ptr (h.length+2) 0),(15,.v (.int .i64 er)),(16,.v (.int .i64 2)),(112,.undef)]
def Kn(h:JG)(L:List CV)(er want:Int)(g:Jl):Prop:=(g=J10 h L er false/\want=1)\/(g=G10 h er 2 false/\want=2)\/(g=U10 h er/\want=2)
theorem Jk0{er:Int}{e:X}(hlo:lo<=h.length)(hk:(k==1)=false):∃g,Kn h L er 1 g/\WD (Ww lo h) JA (pc Wy 25 1) (J10 h L er (k==1),H10 h (JL nm k dn low ws ck a b w) e)=some (.normal,g,H10 h (JL nm k dn low ws ck a b w) e):=by
 rw[hk];refine⟨J10 h L er false,.inl ⟨rfl,rfl⟩,?_⟩
 obtain⟨ek,en,ed,eu,el⟩:=e;simp only[Ww,J10,H10,vZ,JL,JR,go_sem,Wy,Tryz.f10,hlo]<;>rfl
theorem Jk1:∀lo h,lo<=h.length->E lo 40 [.v (.int .i64 0)] h=some (.agg [.v (.int .i64 0),.v (.int .i64 1)],h):=λlo h hlo=>f40 hlo
theorem Jk2{er:Int}{e:X}(hlo:lo<=h.length)(hk:(k==1)=true)(hz:HB L=false):∃g,Kn h L er 2 g/\WD (Ww lo h) JA (pc Wy 25 1) (J10 h L er (k==1),H10 h (JL nm k dn low ws ck a b w) e)=some (.normal,g,H10 h (JL nm k dn low ws ck a b w) e):=by
 have l1:lo<=h.length+1:=om;have l2:lo<=h.length+1+1:=om;have l3:lo<=h.length+3:=om;have c:=Jk1;rw[hk];refine⟨G10 h er 2 false,.inr (.inl ⟨rfl,rfl⟩),?_⟩
 obtain⟨ek,en,ed,eu,el⟩:=e
 match L,hz with
 |[],_=>
  have q1:(((0:Nat):Int)==1)=false:=rfl;have q1':((0:Int)==1)=false:=rfl
  simp only[Ww,J10,G10,H10,vZ,JL,JR,JX,go_sem,Wy,Tryz.f10,hlo,l1,l2,l3,q1,q1',Ai]<;>rfl
 |v::u::r,_=>
  have q1:(((r.length+1+1:Nat):Int)==1)=false:=by rw[beq_eq_false_iff_ne];omega
  simp only[Ww,J10,G10,H10,vZ,JL,JR,JZ,go_sem,Wy,Tryz.f10,hlo,l1,l2,l3,q1,Ae,JD]<;>rfl
 |[.mk t kids],hz=>
  have q1:(((0+1:Nat):Int)==1)=true:=rfl;have q1':((1:Int)==1)=true:=rfl;have hz':(t.k==10&&(t.n==0&&t.d==1))=false:=hz
  cases z1:t.k==10 with
  |false=>simp only[Ww,J10,G10,H10,vZ,JL,JR,JZ,JX,JP,go_sem,Wy,Tryz.f10,hlo,l1,l2,l3,q1,q1',z1,Ae,Ai]<;>rfl
  |true=>rw[z1,Aw]at hz';have e:=Gs t.n t.d 0 1;rw[hz']at e;simp only[Ww,J10,G10,H10,vZ,JL,JR,JZ,JX,JP,go_sem,Wy,Tryz.f10,hlo,l1,l2,l3,q1,q1',z1,c,QW,e,Ae,Ai]<;>rfl
def eC(ow:Own):X->List V
 | .mk ek en ed eu el=>[.v (.int .i64 ek),.v (.int .i64 en),.v (.int .i64 ed),.v (.int .i64 eu),.list ow (GL el)]
theorem JZZ(e:X):eC .no e=xC e:=by obtain⟨ek,en,ed,eu,el⟩:=e;rw[JR]<;>rfl
abbrev JAS(h:JG)(cs:List V)(ow:Own)(e:X):JG:=h++[.cells vZ,.cells cs,.cells (eC ow e)]
theorem Jk3{er:Int}{e:X}(hlo:lo<=h.length)(hk:(k==1)=true)(hz:HB L=true):∃g,Kn h L er 2 g/\WD (Ww lo h) JA (pc Wy 25 1) (J10 h L er (k==1),H10 h (JL nm k dn low ws ck a b w) e)=some (.normal,g,JAS h (JL nm k dn low ws ck a b w) .yes (.mk 1 0 1 1 [])):=by
 have l1:lo<=h.length+1:=om;have l2:lo<=h.length+1+1:=om;have l3:lo<=h.length+3:=om;have c:=Jk1;rw[hk];refine⟨U10 h er,.inr (.inr ⟨rfl,rfl⟩),?_⟩
 obtain⟨ek,en,ed,eu,el⟩:=e
 match L,hz with
 |[.mk t kids],hz=>have q1:(((0+1:Nat):Int)==1)=true:=rfl;have q1':((1:Int)==1)=true:=rfl;unfold HB at hz;simp only[Af]at hz;obtain⟨z1,z2,z3⟩:=hz;have e:=Gs t.n t.d 0 1;rw[z2,z3]at e;simp only[Ww,J10,U10,H10,JAS,eC,vZ,JL,JR,Jc,JZ,JX,JP,go_sem,Wy,Tryz.f10,hlo,l1,l2,l3,q1,q1',z1,c,QW,e,Ae,Ai,Bool.and_true]<;>rfl
abbrev R10(h:JG)(cs vc:List V)(ow:Own)(e:X)(er:Int):Option (Ex×Jl×JG):=some (.ret,[(4,.ptr h.length 0),(5,.v (.int .i64 er))],h++[.cells vc,.cells cs,.cells (eC ow e)])
def JDP(low:Bool)(er want:Int)(e:X):Option X:=
 if(er !=0)=true then none
 else if(!Y4 e 1)=true then none
 else if(QS e !=want)=true then none
 else if(!low&&(e.k==1&&decide (JL0 e<0)))=true then none
 else some e
theorem Jsk{g:Jl}{er want:Int}{e:X}{ow:Own}(how:ow= .no\/ow= .yes)(hlo:lo<=h.length)(hg:Kn h L er want g)(hx:Yn e):
  WD (Ww lo h) JA (pc Wy 26 4) (g,JAS h (JL nm k dn low ws ck a b w) ow e)=
   match JDP low er want e with
   |none=>R10 h (JL nm k dn low ws ck a b w) vZ ow e 3
   |some x=>R10 h (JL nm k dn low ws ck a b w) (JJ5 1 x) ow e 0:=by
 have l1:lo<=h.length+1:=om;have l2:lo<=h.length+1+1:=om;have l3:lo<=h.length+3:=om;have c41:=λlo h hlo=>f41 (lo:=lo) (h:=h) hlo hx
 have c42:=Jky e hx;unfold P20 at c42;unfold JDP;obtain⟨ek,en,ed,eu,el⟩:=e;generalize Y4 (.mk ek en ed eu el) 1=my at c41⊢;generalize QS (.mk ek en ed eu el)=kx at c42⊢;simp only[JR]at c41 c42;rw[show(X.mk ek en ed eu el).k=ek from rfl,show JL0 (X.mk ek en ed eu el)=en from rfl]
 cases z1:er !=0 with
 |true=>
  rw[if_pos rfl];rcases hg with⟨rfl,rfl⟩|⟨rfl,rfl⟩|⟨rfl,rfl⟩<;>rcases how with rfl|rfl<;>
  simp only[Ww,J10,G10,U10,JAS,R10,eC,vZ,JL,go_sem,Wy,Tryz.f10,hlo,l1,l2,l3,z1]<;>rfl
 |false=>
 rw[if_neg (by simp)]
 cases my with
 |false=>
  rw[if_pos (by simp)]
  rcases hg with⟨rfl,rfl⟩|⟨rfl,rfl⟩|⟨rfl,rfl⟩<;>rcases how with rfl|rfl<;>
  simp only[Ww,J10,G10,U10,JAS,R10,eC,vZ,JL,go_sem,Wy,Tryz.f10,hlo,l1,l2,l3,z1,c41]<;>rfl
 |true=>
 rw[if_neg (by simp)]
 cases z2:kx !=want with
 |true=>
  rw[if_pos rfl];rcases hg with⟨rfl,rfl⟩|⟨rfl,rfl⟩|⟨rfl,rfl⟩<;>rcases how with rfl|rfl<;>
  simp only[Ww,J10,G10,U10,JAS,R10,eC,vZ,JL,go_sem,Wy,Tryz.f10,hlo,l1,l2,l3,z1,c41,c42,z2,AN]<;>rfl
 |false=>
 rw[if_neg (by simp)]
 cases low with
 |true=>
  rw[if_neg (by simp)]
  rcases hg with⟨rfl,rfl⟩|⟨rfl,rfl⟩|⟨rfl,rfl⟩<;>rcases how with rfl|rfl<;>
  simp only[Ww,J10,G10,U10,JAS,R10,eC,vZ,Hj,JL,go_sem,Wy,Tryz.f10,hlo,l1,l2,l3,z1,c41,c42,z2,AN]<;>rfl
 |false=>
  cases z3:ek==1 with
  |false=>
   rw[if_neg (by simp)]
   rcases hg with⟨rfl,rfl⟩|⟨rfl,rfl⟩|⟨rfl,rfl⟩<;>rcases how with rfl|rfl<;>
   simp only[Ww,J10,G10,U10,JAS,R10,eC,vZ,Hj,JL,go_sem,Wy,Tryz.f10,hlo,l1,l2,l3,z1,c41,c42,z2,z3,AN,A5]<;>rfl
  |true=>
   cases z4:decide (en<0)with
   |true=>
    rw[if_pos (by simp)]
    rcases hg with⟨rfl,rfl⟩|⟨rfl,rfl⟩|⟨rfl,rfl⟩<;>rcases how with rfl|rfl<;>
    simp only[Ww,J10,G10,U10,JAS,R10,eC,vZ,Hj,JL,go_sem,Wy,Tryz.f10,hlo,l1,l2,l3,z1,c41,c42,z2,z3,z4,AN,A5]<;>rfl
   |false=>
    rw[if_neg (by simp)]
    rcases hg with⟨rfl,rfl⟩|⟨rfl,rfl⟩|⟨rfl,rfl⟩<;>rcases how with rfl|rfl<;>
    simp only[Ww,J10,G10,U10,JAS,R10,eC,vZ,Hj,JL,go_sem,Wy,Tryz.f10,hlo,l1,l2,l3,z1,c41,c42,z2,z3,z4,AN,A5]<;>rfl
end
theorem JDQ(n:Nat):∀l:List CV,QN n l=l.all (JJl n)
 |[]=>by rw[JC5]<;>rfl
 |v::r=>by rw[JAJ,JDQ n r]<;>rfl
theorem JRt{n:Nat}{l:List CV}(h:QN n l=true):QN n (Jh l)=true:=by rw[JDQ,Ak]at h⊢;exact λv hv=>h v (KH hv)
theorem JU9{l:List CV}{v:CV}(hv:v∈l)(hs:JU v=false):v∈Jh l:=by
 have drop_has:∀{l:List CV},v∈l->v∈l.dropWhile JU:=by
  intro l
  induction l with
  |nil=>intro h;cases h
  |cons x r ih=>
   intro h;rw[List.dropWhile_cons]
   split
   ·rename_i hx
    rcases AP.1 h with rfl|h
    ·rw[hs]at hx;cases hx
    ·exact ih h
   ·exact h
 unfold Jh;rw[B6];exact drop_has (B6.2 (drop_has hv))
theorem JDR:∀l:List CV,Qz l=l.any JD1
 |[]=>by rw[Qz]<;>rfl
 |v::r=>by rw[Qz,JDR r]<;>rfl
theorem JRu{l:List CV}(hm:QN 64 l=true):Qz (Jh l)=Qz l:=by
 rw[Bool.eq_iff_iff,JDR,JDR,Dy,Dy]
 constructor
 ·rintro⟨v,hv,h⟩
  exact⟨v,KH hv,h⟩
 ·rintro⟨v,hv,h⟩
  refine⟨v,JU9 hv ?_,h⟩
  cases hs:JU v with
  |false=>rfl
  |true=>
   exfalso;rw[JDQ,Ak]at hm;have hmv:=hm v hv;obtain⟨t,kids⟩:=v
   have hk:t.k=13:=by have:(t.k==13)=true:=hs;simpa using this
   rw[JJ0,hk]at hmv;have hc:Ja 13=0:=by decide
   rw[hc,if_pos rfl,Af]at hmv;have hn:kids=[]:=List.isEmpty_iff.1 hmv.2;rw[JD1,hn,Qz]at h;unfold qp at h;rw[hk]at h;cases h
theorem JOD{n:Nat}{L:List CV}(hz:HB L=true)(hm:QN 64 L=true):(Jo n L).2=0:=by
 match L,hz with
 |[.mk t kids],hz=>
  unfold HB at hz;simp only[Af]at hz
  have ht:Jh [CV.mk t kids]=[.mk t kids]:=by
   have hs:JU (.mk t kids)=false:=by
    show(t.k==13)=false
    have:t.k=10:=by simpa using hz.1
    rw[this]<;>rfl
   have:=Hn (sp:=[]) (x:=[]) rfl hs;rw[Au]at this;exact this
  rw[JHy hm ht,JAH hz.1]<;>rfl
theorem JH0{k:Int}{low:Bool}{n:Nat}{L:List CV}(hk3:(k==3)=false)(hz:(k==1&&HB L)=false):JDP low (Jo n L).2 (if(k==1)=true then 2 else 1) (Jo n L).1=QO k low n L:=by
 have hR:QO k low n L=(if((Jo n L).2 !=0)=true then none
   else if((jY (Jo n L).1).1 !=(if(k==1)=true then 2 else 1))=true then none
   else if(!low&&((Jo n L).1.k==1&&decide (JL0 (Jo n L).1<0)))=true then none
   else some (Jo n L).1):=by
  unfold QO;rw[hk3,if_neg (by simp),hz,if_neg (by simp)]
 rw[hR];unfold JDP;generalize Jo n L=r;obtain⟨e,er⟩:=r;simp only;by_cases z:(er !=0)=true
 ·rw[if_pos z,if_pos z]
 rw[if_neg z,if_neg z]
 have hq:((jY e).1 !=(if(k==1)=true then 2 else 1))=(!Y4 e 1||(QS e !=(if(k==1)=true then 2 else 1))):=by unfold jY;rcases zA e with q|q|q<;>rw[q]<;>cases Y4 e 1<;>cases k==1<;>rfl
 rw[hq]
 cases Y4 e 1 with
 |false=>rfl
 |true=>rfl
theorem JOG(low:Bool):JDP low 0 2 (.mk 1 0 1 1 [])=some (.mk 1 0 1 1 []):=by
 have h1:Y4 (.mk 1 0 1 1 []) 1=true:=by
  rw[JJ1]
  decide
 have h2:QS (.mk 1 0 1 1 [])=2:=by
  rw[zC]
  decide
 unfold JDP;rw[h1,h2];cases low<;>rfl
section
variable{nm:ByteArray}{k:Int}{dn low kn:Bool}{ws:List ByteArray}{ck a b:Int}{w:ByteArray}{l:List CV}{n:Nat}{name:List Int}{at':Int}
theorem JZa{cs vc:List V}{er:Int}{e:X}{ow:Own}{r:List V}(hc:∃nm k dn low ws ck a b w,cs=JL nm k dn low ws ck a b w)(hv:vc=vZ/\r=GQ 0 Jt ⟨#[]⟩ []\/ ∃x,vc=JJ5 1 x/\r=GQ 1 x ⟨#[]⟩ [])(how:ow= .no\/ow= .yes):
  fin Aa [.cell 4 41,.tmp 5] h.length (R10 h cs vc ow e er)=some (.tup [.agg r,.v (.int .i64 er)],h):=by
 obtain⟨nm,k,dn,low,ws,ck,a,b,w,rfl⟩:=hc;obtain⟨ek,en,ed,eu,el⟩:=e;rcases hv with⟨rfl,rfl⟩|⟨⟨xk,xn,xd,xu,xl⟩,rfl,rfl⟩
 ·unfold Jt
  rcases how with rfl|rfl<;>simp only[R10,eC,JL,Q9,Jc,vZ,go_sem]<;>rfl
 ·rcases how with rfl|rfl<;>simp only[R10,eC,JL,Q9,Hj,vZ,go_sem]<;>rfl
theorem Jsl{L:List CV}(hlo:lo<=h.length)(hn:JN L<=n)(hl:JN L<=2000000)(ho:QG L)(hk3:(k==3)=false)(hm:QN 64 L=true):
  ∃vc ow e er,(ow=Own.no\/ow=Own.yes)/\((QO k low n L=none/\vc=vZ/\er=3)\/ ∃x,QO k low n L=some x/\vc=JJ5 1 x/\er=0)/\
   JGl (Ww lo h) JA Wy 22 (some (.normal,K10 h L,W1 h (JL nm k dn low ws ck a b w)))=R10 h (JL nm k dn low ws ck a b w) vc ow e er:=by
 have hf:=Jsj (nm:=nm) (k:=k) (dn:=dn) (low:=low) (ws:=ws) (ck:=ck) (a:=a) (b:=b) (w:=w) (lo:=lo) (h:=h) hlo hn hl ho;have hx:Yn (Jo n L).1:=JAN hl ho
 have out:∀(x:Option X) (ow:Own) (e:X) (g:Jl) (er want:Int),(ow=Own.no\/ow=Own.yes)->Kn h L er want g->Yn e->JDP low er want e=x->QO k low n L=x->
   ∃vc ow' e' er',(ow'=Own.no\/ow'=Own.yes)/\((QO k low n L=none/\vc=vZ/\er'=3)\/ ∃x,QO k low n L=some x/\vc=JJ5 1 x/\er'=0)/\
   JGl (Ww lo h) JA Wy 26 (some (.normal,g,JAS h (JL nm k dn low ws ck a b w) ow e))=R10 h (JL nm k dn low ws ck a b w) vc ow' e' er':=by
  intro x ow e g er want how hg hxe ht hnp;have hh:=Jsk (nm:=nm) (k:=k) (dn:=dn) (low:=low) (ws:=ws) (ck:=ck) (a:=a) (b:=b) (w:=w) (L:=L) (e:=e) how hlo hg hxe;rw[ht]at hh;rw[pc_go _ _ _ _ _ 4,hh]
  cases x with
  |none=>exact⟨vZ,ow,e,3,how,.inl ⟨hnp,rfl,rfl⟩,by simp only[R10];rw[Qr]⟩
  |some x=>exact⟨JJ5 1 x,ow,e,0,how,.inr ⟨x,hnp,rfl,rfl⟩,by simp only[R10];rw[Qr]⟩
 rw[pc_go _ _ _ _ _ 3,hf]
 cases hk:k==1 with
 |false=>
  obtain⟨g,hg,he⟩:=Jk0 (nm:=nm) (k:=k) (dn:=dn) (low:=low) (ws:=ws) (ck:=ck) (a:=a) (b:=b) (w:=w) (L:=L) (er:=(Jo n L).2) (e:=(Jo n L).1) hlo hk;rw[hk]at he;rw[pc_go _ _ _ _ _ 1,he];have ht:=JH0 (k:=k) (low:=low) (n:=n) (L:=L) hk3 (by rw[hk]<;>rfl)
  rw[hk,if_neg (by simp)]at ht
  have:=out _ .no _ g _ _ (.inl rfl) hg hx ht rfl;rw[JAS,JZZ]at this
  exact this
 |true=>
  cases hz:HB L with
  |false=>
   obtain⟨g,hg,he⟩:=Jk2 (nm:=nm) (k:=k) (dn:=dn) (low:=low) (ws:=ws) (ck:=ck) (a:=a) (b:=b) (w:=w) (L:=L) (er:=(Jo n L).2) (e:=(Jo n L).1) hlo hk hz;rw[hk]at he;rw[pc_go _ _ _ _ _ 1,he];have ht:=JH0 (k:=k) (low:=low) (n:=n) (L:=L) hk3 (by rw[hk,hz]<;>rfl)
   rw[hk,if_pos rfl]at ht;have:=out _ .no _ g _ _ (.inl rfl) hg hx ht rfl;rw[JAS,JZZ]at this
   exact this
  |true=>
   obtain⟨g,hg,he⟩:=Jk3 (nm:=nm) (k:=k) (dn:=dn) (low:=low) (ws:=ws) (ck:=ck) (a:=a) (b:=b) (w:=w) (L:=L) (er:=(Jo n L).2) (e:=(Jo n L).1) hlo hk hz;rw[hk]at he;rw[pc_go _ _ _ _ _ 1,he]
   have hnp:QO k low n L=some (.mk 1 0 1 1 []):=by unfold QO;rw[hk3,hk,hz,if_neg (by simp),if_pos (show(true&&true)=true from rfl)]
   rw[JOD hz hm]at hg;exact out _ .yes _ g _ _ (.inr rfl) hg (by rw[Yn,Q3];simp) (JOG low) hnp
theorem f10(hlo:lo<=h.length)(hy:By name)(hnl:name.length<=1000000000)(hn:JN l<=n)(hl:JN l<=2000000)(ho:QG l)(hws:ws.length<=1000000000)
  (c31:∀lo h,lo<=h.length->E lo 31 [.v (.string (Rul.bs name))] h=some (.tup [.agg (JL nm k dn low ws ck a b w),.v (.int .i64 at')],h))(hat:decide (at'<0)= !kn)(hkc:kn=true->QJ name=false):
  E lo 10 [.v (.string (Rul.bs name)),.list .no (JJ l)] h=some (.tup [.agg (Hk kn k low ws name n l).1,.v (.int .i64 (Hk kn k low ws name n l).2)],h):=by
 have htn:=Kf l;have hot:QG (Jh l):=kS λv hv=>Kb ho v (KH hv)
 have ha:=JsX (kn:=kn) (lo:=lo) (h:=h) hlo hy hnl hl ho c31 hat;obtain⟨q,hb⟩:=JsY (lo:=lo) (h:=h) (nm:=nm) (k:=k) (dn:=dn) (low:=low) (ws:=ws) (ck:=ck) (a:=a) (b:=b) (w:=w) (cu:=QJ name) (sm:=Qz l) hlo hl ho rfl;have hc:=JsZ (lo:=lo) (h:=h) (nm:=nm) (k:=k) (dn:=dn) (low:=low) (ws:=ws) (ck:=ck) (a:=a) (b:=b) (w:=w) (L:=Jh l) (q:=q) (cu:=QJ name) (sm:=Qz l) (wd:=Qh (Jh l)) hlo om hot (JJ8 (Kb hot))
 have hd:=Jsh (lo:=lo) (h:=h) (nm:=nm) (k:=k) (dn:=dn) (low:=low) (ws:=ws) (ck:=ck) (a:=a) (b:=b) (w:=w) (L:=Jh l) (wd:=Qh (Jh l)) hlo hws (JJ8 (Kb hot));have he:=Jsi (lo:=lo) (h:=h) (nm:=nm) (k:=k) (dn:=dn) (low:=low) (ws:=ws) (ck:=ck) (a:=a) (b:=b) (w:=w) (L:=Jh l) (wd:=Qh (Jh l)) hlo;have cs:∃nm' k' dn' low' ws' ck' a' b' w',JL nm k dn low ws ck a b w=JL nm' k' dn' low' ws' ck' a' b' w':=⟨_,_,_,_,_,_,_,_,_,rfl⟩
 unfold Hk;rw[e10,pc_in,pc_go _ _ _ _ 0 10,ha];by_cases c1:(!kn&& !QJ name)=true
 ·rw[if_pos c1,if_pos c1,Q5,Qr];exact Gi cs (.inl ⟨rfl,rfl⟩)
 rw[if_neg c1,if_neg c1]
 cases hmy:QN 64 l with
 |false=>rw[if_pos (by simp),if_pos (by simp),Q5,Qr];exact Gi cs (.inl ⟨rfl,rfl⟩)
 |true=>
 rw[if_neg (show¬(!true)=true by simp),if_neg (show¬(!true)=true by simp),JAM,Bool.not_not]
 by_cases c3:(GO l true||WL l)=true
 ·rw[if_pos c3,if_pos c3,Q5,Qr];exact Gi cs (.inl ⟨rfl,rfl⟩)
 rw[if_neg c3,if_neg c3,pc_go _ _ _ _ _ 4,hb,pc_go _ _ _ _ _ 4,hc];by_cases c4:JDB (Qh (Jh l))=true
 ·rw[if_pos c4,if_pos c4,Q5,Qr];exact Gi cs (.inr (.inl ⟨_,_,rfl,rfl⟩))
 rw[if_neg c4,if_neg c4]
 have hvt:(QJ name||Qz l)=(!kn||Qz (Jh l)):=by
  rw[JRu hmy]
  cases hkn:kn with
  |true=>rw[hkc hkn]<;>rfl
  |false=>
   rw[hkn]at c1;have:QJ name=true:=by simpa using c1
   rw[this]<;>rfl
 rw[hvt];by_cases c5:(!kn||Qz (Jh l))=true
 ·rw[if_pos c5,if_pos c5,Q5,Qr];exact Gi cs (.inr (.inr (.inl ⟨_,rfl,rfl⟩)))
 rw[if_neg c5,if_neg c5,pc_go _ _ _ _ _ 2,hd];by_cases c6:(!(Qh (Jh l)==[])&&Y3 ws (Rul.bs (Qh (Jh l))))=true
 ·rw[if_pos c6,if_pos c6,Q5,Qr];exact Gi cs (.inr (.inl ⟨_,_,rfl,rfl⟩))
 rw[if_neg c6,if_neg c6,pc_go _ _ _ _ _ 2,he]
 cases hk3:k==3 with
 |true=>
  have hnp:QO k low n (Jh l)=none:=by unfold QO;rw[hk3,if_pos rfl]
  rw[if_pos rfl,Q5,Qr,hnp]
  exact Gi cs (.inl ⟨rfl,rfl⟩)
 |false=>
  rw[if_neg (by simp)]
  obtain⟨vc,ow,e,er,how,hv,hz⟩:=Jsl (nm:=nm) (k:=k) (dn:=dn) (low:=low) (ws:=ws) (ck:=ck) (a:=a) (b:=b) (w:=w) (L:=Jh l) (n:=n) (lo:=lo) (h:=h) hlo om om hot hk3 (JRt hmy);rw[hz];rcases hv with⟨h1,rfl,rfl⟩|⟨x,h1,rfl,rfl⟩
  ·rw[h1]
   exact JZa cs (.inl ⟨rfl,rfl⟩) how
  ·rw[h1]
   exact JZa cs (.inr ⟨x,rfl,rfl⟩) how
end
theorem Jsm:qO Aa 53=some [1,2,1,1,0,0]:=kr
theorem JVA(t:Tk4):eqCells [1,2,1,1,0,0] [.v (.int .i64 t.k),.v (.string (Rul.bs t.b)),.v (.int .i64 t.n),.v (.int .i64 t.d),.v (.bool t.w),.v (.bool t.i)] [.v (.int .i64 t.k),.v (.string (Rul.bs t.b)),.v (.int .i64 t.n),.v (.int .i64 t.d),.v (.bool t.w),.v (.bool t.i)]=some true:=by
 simp[eqCells,eqS]
abbrev JKL(l:List Tk4)(i:Int):Jl:=[(0,.list .no (l.map row)),(1,.list .no (l.map row)),(12,.v (.int .i64 l.length)),(13,.v (.int .i64 i))]
theorem Jsn{l:List Tk4}{i:Nat}(hlo:lo<=h.length)(hl:l.length<=1000000000)(hlt:i<l.length):
  evCode ⟨Aa,E,lo,h.length,h44⟩ JA JGt (JKL l i,h)=some (.normal,JKL l (i+1:Nat),h):=by
 have hgr:(l.map row)[i]? =some (row l[i]):=by rw[An,Ac hlt]<;>rfl
 have q1:decide ((i:Int)<(l.length:Int))=true:=by rw[decide_eq_true_iff];omega
 have t1:Int.toNat (i:Int)=i:=om;have hwr:=JM (i:=i) om;have e:=JVA l[i];have rr:∀t:Tk4,row t=[.v (.int .i64 t.k),.v (.string (Rul.bs t.b)),.v (.int .i64 t.n),.v (.int .i64 t.d),.v (.bool t.w),.v (.bool t.i)]:=λt=>rfl
 rw[rr]at hgr;generalize l[i]=t at hgr e;simp only[JKL];generalize l.map row=R at hgr⊢;simp only[go_sem,JGt,b44,Tryz.f44,hlo,hgr,q1,t1,hwr,Jsm,e,AN]<;>rfl
theorem Jso{l:List Tk4}(hlo:lo<=h.length):
  evCode ⟨Aa,E,lo,h.length,h44⟩ JA JGt (JKL l (l.length:Nat),h)=some (.exit 0,JKL l (l.length:Nat)++[(14,.v (.bool false))],h):=by
 have q1:decide ((l.length:Int)<(l.length:Int))=false:=by rw[decide_eq_false_iff_not];omega
 simp only[JKL,go_sem,JGt,b44,Tryz.f44,hlo,q1]<;>rfl
theorem JPa{l:List Tk4}(hlo:lo<=h.length)(hl:l.length<=1000000000):∀m i:Nat,i+m=l.length->
  JA (evCode ⟨Aa,E,lo,h.length,h44⟩ JA JGt) (JKL l i,h)=some (.exit 0,JKL l (l.length:Nat)++[(14,.v (.bool false))],h)
 |0,i,hm=>by
  obtain rfl:i=l.length:=om
  rw[JB,Jso hlo,Jx]
 |m+1,i,hm=>by rw[JB,Jsn hlo hl om,JO];exact JPa hlo hl m (i+1) om
theorem Jsp{l:List Tk4}(hlo:lo<=h.length)(hl:l.length<=1000000000):E lo 44 [.list .no (l.map row),.list .no (l.map row)] h=some (.v (.bool true),h):=by
 have z4:((l.length:Int) !=(l.length:Int))=false:=by simp
 have hL:=JPa (lo:=lo) (h:=h) hlo hl l.length 0 om;have ml:(l.map row).length=l.length:=Aq ..;rw[e44];simp only[JKL]at hL;generalize l.map row=R at hL ml⊢;simp only[JGt,b44,Tryz.f44,JK,loops,JC,show((0:Nat):Int)=0 from rfl,go_sem]at hL
 simp only[go_sem,b44,Tryz.f44,hlo,z4,ml,hL]<;>rfl
theorem Jsq{kd:Int}{x:X}{word:ByteArray}{l:List Tk4}(hlo:lo<=h.length)(hx:Yn x)(hl:l.length<=1000000000):E lo 11 [.agg (GQ kd x word (l.map row)),.agg (GQ kd x word (l.map row))] h=some (.v (.bool true),h):=by
 have l1:lo<=h.length+1:=om;have l2:lo<=h.length+1+1:=om;have c43:=Jkw x hx;unfold P39 at c43;have c44:=λlo h hlo=>Jsp (lo:=lo) (h:=h) (l:=l) hlo hl
 have z1:(kd==kd)=true:=by simp
 have z2:(word.toList==word.toList)=true:=by simp
 obtain⟨ek,en,ed,eu,el⟩:=x;generalize l.map row=R at c44⊢;simp only[JR,Q9]at c43⊢;rw[e11];simp only[go_sem,b11,Tryz.f11,hlo,l1,l2,c43,c44,z1,z2]<;>rfl
theorem f5k(hlo:lo<=h.length):E lo 5 [] h=some (.v (.bool true),h):=by
 refine(JJd (p:=HT JT6) rfl).trans ?_
 unfold JT6 HT;rw[if_pos kr]
theorem JVB:(tblP.all λp=> !(p.n.data.toList.head? ==some 45))=true:=kr
theorem JeQ{s:ByteArray}:∀(l:List PR) (j i:Nat),atL s l j=some i->∃p,j<=i/\l[i-j]? =some p/\(s.toList==p.n.toList)=true:=by
 intro l
 induction l with
 |nil=>intro j i h;cases h
 |cons q r ih=>
  intro j i h;unfold atL at h
  split at h
  ·rename_i hq
   cases h;exact⟨q,Ad _,by simp,hq⟩
  ·obtain⟨p,h1,h2,h3⟩:=ih (j+1) i h
   refine⟨p,om,?_,h3⟩
   rw[show i-j=(i-(j+1))+1 by omega,List.getElem?_cons_succ]
   exact h2
theorem JRv(name:List Int)(hy:By name):∃(nm:ByteArray) (k:Int) (dn low:Bool) (ws:List ByteArray) (ck a b:Int) (w:ByteArray) (kn:Bool) (at':Int),(∀lo h,lo<=h.length->E lo 21 [.v (.string (Rul.bs name))] h=some (.tup [.agg (JL nm k dn low ws ck a b w),.v (.bool kn)],h))/\
  (∀lo h,lo<=h.length->E lo 31 [.v (.string (Rul.bs name))] h=some (.tup [.agg (JL nm k dn low ws ck a b w),.v (.int .i64 at')],h))/\decide (at'<0)= !kn/\ws.length<=1000000000/\(kn=true->QJ name=false):=by
 cases hq:atL (Rul.bs name) tblP 0 with
 |none=>
  refine⟨⟨#[]⟩,0,false,false,[],0,0,0,⟨#[]⟩,false,-1,λlo h hlo=>Jrs hlo hq,λlo h hlo=>?_,rfl,by simp,λh=>by cases h⟩
  rcases f31 (lo:=lo) (h:=h) (s:=Rul.bs name) hlo with⟨i,p,h1,_⟩|⟨_,h2⟩
  ·rw[hq]at h1;cases h1
  ·rw[h2,JN7]
 |some i=>
  obtain⟨p,_,hp,hn⟩:=JeQ tblP 0 i hq;rw[Nat.sub_zero]at hp;have hm:=List.mem_of_getElem? hp;obtain⟨nm,k,dn,low,ws,ck,a,b,w,e,hws⟩:=JN8 hm;refine⟨nm,k,dn,low,ws,ck,a,b,w,true,i,λlo h hlo=>by rw[Jrt hlo hq hp,e],λlo h hlo=>?_,?_,hws,λ_=>?_⟩
  ·rcases f31 (lo:=lo) (h:=h) (s:=Rul.bs name) hlo with⟨j,p',h1,h2,h3⟩|⟨h1,_⟩
   ·rw[hq]at h1
    cases h1;rw[hp]at h2;cases h2;rw[h3,e]
   ·rw[hq]at h1;cases h1
  ·show decide ((i:Int)<0)=false
   rw[decide_eq_false_iff_not];omega
  ·have hd:=Ak.1 JVB p hm
   rw[beq_iff_eq,JCx,ByteArray.toList_eq]at hn;rw[<-hn]at hd
   match name,hd with
   |[],_=>rfl
   |[_],_=>rfl
   |[_,_],_=>rfl
   |x::y::z::r,hd=>
    show(x==45&&y==45)=false
    cases hx:x==45 with
    |false=>rfl
    |true=>
     exfalso;have:x=45:=by simpa using hx
     subst this;simp[YK]at hd
theorem JOH{kn low:Bool}{k:Int}{ws:List ByteArray}{name:List Int}{n:Nat}{l:List CV}(hl:JN l<=2000000)(ho:QG l):
  ∃(kd:Int) (x:X) (word:ByteArray) (toks:List Tk4),(Hk kn k low ws name n l).1=GQ kd x word (toks.map row)/\Yn x/\toks.length<=1000000000:=by
 have htn:=Kf l;have hot:QG (Jh l):=kS λv hv=>Kb ho v (KH hv)
 have z:∀(kd:Int) (word:ByteArray),∃(kd':Int) (x:X) (word':ByteArray) (toks:List Tk4),GQ kd Jt word []=GQ kd' x word' (List.map row toks)/\Yn x/\toks.length<=1000000000:=λkd word=>⟨kd,Jt,word,[],rfl,Q4,by simp⟩
 unfold Hk
 split
 ·exact z _ _
 split
 ·exact z _ _
 split
 ·exact z _ _
 split
 ·exact z _ _
 split
 ·exact⟨4,Jt,⟨#[]⟩,Ka (Jh l),rfl,Q4,by have:=G3 (Jh l);omega⟩
 split
 ·exact z _ _
 ·cases hq:QO k low n (Jh l)with
  |none=>exact z _ _
  |some x=>
   refine⟨1,x,⟨#[]⟩,[],rfl,?_,by simp⟩
   unfold QO at hq;have hx:=JAN (n:=n) (l:=Jh l) om hot;by_cases c1:(k==3)=true
   ·rw[if_pos c1]at hq;cases hq
   rw[if_neg c1]at hq;by_cases c2:(k==1&&HB (Jh l))=true
   ·rw[if_pos c2]at hq
    cases hq;rw[Yn,Q3];simp
   rw[if_neg c2]at hq;by_cases c3:((Jo n (Jh l)).2 !=0)=true
   ·rw[if_pos c3]at hq;cases hq
   rw[if_neg c3]at hq;by_cases c4:((jY (Jo n (Jh l)).1).1 !=(if(k==1)=true then 2 else 1))=true
   ·rw[if_pos c4]at hq;cases hq
   rw[if_neg c4]at hq;by_cases c5:(!low&&((Jo n (Jh l)).1.k==1&&decide (JL0 (Jo n (Jh l)).1<0)))=true
   ·rw[if_pos c5]at hq;cases hq
   rw[if_neg c5]at hq;cases hq;exact hx
end Go.Lift.Y1
end

section
open Go.Proofs
namespace Go.Lift.Y1.P
open Rul
variable{lo:Nat}{h:JG}
theorem f17(hlo:lo<=h.length)(k:Int):E lo 17 [.v (.int .i64 k)] h=some (.v (.int .i64 (Ja k)),h):=by
 rw[e17];unfold Ja;by_cases a:k=19
 ·subst a;simp only[go_sem,b17,Tryz.f17,hlo];all_goals rfl
 ·by_cases b:k=23
  ·subst b;simp only[go_sem,b17,Tryz.f17,hlo];all_goals rfl
  ·by_cases c:k=2
   ·subst c;simp only[go_sem,b17,Tryz.f17,hlo];all_goals rfl
   ·by_cases d:k=21
    ·subst d;simp only[go_sem,b17,Tryz.f17,hlo];all_goals rfl
    ·have ha:(k==19)=false:=by simpa using a
     have hb:(k==23)=false:=by simpa using b
     have hc:(k==2)=false:=by simpa using c
     have hd:(k==21)=false:=by simpa using d
     simp only[go_sem,b17,Tryz.f17,hlo,ha,hb,hc,hd,a,b,c,d,or_self,if_false]
end Go.Lift.Y1.P
end

section
namespace Go.Lift.Rul
def yA:Wx->List CV->List CV
 |[],b=>b
 |(_,ks)::_,_=>ks
def W2:Wx->List CV->List V
 |[],b=>row (bare 0)++[.list .yes (JJ b)]
 |(o,ks)::r,b=>W2 r b++(row o++[.list .yes (JJ ks)])
theorem YX:∀(s:Wx) (b:List CV),(W2 s b).length=(s.length+1)*7
 |[],_=>rfl
 |(_,_)::r,b=>by simp[W2,YX r b,row];omega
theorem JMC(p:V->Bool)(h:∀z,(∀q,z≠DU q)->p (.v z)=true)(t:Tk4):(row t).all p=true:=by
 simp only[row,Bi,List.all_nil];rw[h _ (by simp),h _ (by simp),h _ (by simp),h _ (by simp),h _ (by simp),h _ (by simp)]
 rfl
theorem JBR(p:V->Bool)(h:∀z,(∀q,z≠DU q)->p (.v z)=true)(h2:∀l,p (.list .yes (JJ l))=true):∀(s:Wx) (b:List CV),(W2 s b).all p=true
 |[],b=>by rw[W2,CM,JMC p h];simp[h2]
 |(o,ks)::r,b=>by rw[W2,CM,CM,JBR p h h2 r b,JMC p h];simp[h2]
theorem JeR{z:Value}(h:∀q,z≠DU q):QU (.v z)=false:=by
 cases z with
 |pointer q=>exact absurd rfl (h q)
 |_=>rfl
theorem Jk4(i:Nat)(z:Value)(h:∀q,z≠DU q):JDl i (.v z)=true:=by unfold JDl;rw[JeR h]<;>rfl
theorem Jk5(i:Nat)(l:List CV):JDl i (.list .yes (JJ l))=true:=rfl
theorem JYD(i:Nat)(s:Wx)(b:List CV):(W2 s b).all (JDl i)=true:=JBR _ (Jk4 i) (Jk5 i) s b
theorem JVC(s:Wx)(b:List CV)(j:List V):(W2 s b++j).take ((s.length+1)*7)=W2 s b:=by rw[<-YX s b,List.take_left]
theorem JPb:∀(s:Wx) (b:List CV) (j:List V),(W2 s b++j)[s.length*7+6]? =some (.list .yes (JJ (yA s b)))
 |[],_,_=>rfl
 |(o,ks)::r,b,j=>by
  have hl:=YX r b;rw[W2,Ax,Bb (by simp only[Ae];omega),Ae,hl,BD]
  rfl
theorem JH1(p:Tk4×List CV)(r:Wx)(b:List CV)(j:List V):(W2 (p::r) b++j)[r.length*7+6]? =some (.list .yes (JJ (yA r b))):=by obtain⟨o,ks⟩:=p;rw[W2,Ax];exact JPb r b _
theorem JPc:∀(s:Wx) (b:List CV) (j:List V) (v:CV),(W2 s b++j).set (s.length*7+6) (.list .yes (JJ (yA s b++[v])))=W2 (K0 v s b).1 (K0 v s b).2++j
 |[],_,_,_=>rfl
 |(o,ks)::r,b,j,v=>by have hl:=YX r b;simp only[W2,K0,yA,Ae,Ax];rw[List.set_append,if_neg om,hl,BD]<;>rfl
theorem JMD(o:Tk4)(ks:List CV)(r:Wx)(b:List CV)(j:List V):(W2 ((o,ks)::r) b++j).set (r.length*7+6) (.list .yes (JJ (yA r b++[.mk o ks])))=W2 (Qf ((o,ks)::r) b).1 (Qf ((o,ks)::r) b).2++(row o++[.list .yes (JJ ks)]++j):=by rw[W2,Ax,JPc r b _ (.mk o ks)]<;>rfl
theorem JH2(o:Tk4)(ks:List CV)(r:Wx)(b:List CV)(j:List V):((W2 ((o,ks)::r) b++j).drop ((r.length+1)*7)).take 7=row o++[.list .yes (JJ ks)]:=by rw[W2,Ax,<-YX r b,List.drop_left]<;>rfl
theorem JMG(o:Tk4)(ks:List CV)(r:Wx)(b:List CV)(j:List V):(W2 ((o,ks)::r) b++j)[(r.length+1)*7]? =some (.v (.int .i64 o.k)):=by
 rw[W2,Ax,<-YX r b,Bb (Ad _),Nat.sub_self]<;>rfl
def szS:Wx->Nat
 |[]=>0
 |p::r=>1+p.2.length+szS r
theorem JBS:∀s:Wx,s.length<=szS s
 |[]=>Ad _
 |p::r=>by have:=JBS r;simp only[szS,Ae];omega
theorem JKM:∀(s:Wx) (b:List CV),(yA s b).length<=szS s+b.length
 |[],b=>by simp[yA]
 |(o,ks)::r,b=>by simp only[yA,szS];omega
theorem JPd(v:CV):∀(s:Wx) (b:List CV),szS (K0 v s b).1+(K0 v s b).2.length=szS s+b.length+1
 |[],b=>by simp[K0,szS]
 |(o,ks)::r,b=>by simp only[K0,szS,Ao,Ae,Ai];omega
theorem JMH(o:Tk4)(ks:List CV)(r:Wx)(b:List CV):szS (Qf ((o,ks)::r) b).1+(Qf ((o,ks)::r) b).2.length<=szS ((o,ks)::r)+b.length:=by have:=JPd (.mk o ks) r b;simp only[Qf,szS]at*;omega
def Opn(s:Wx):Prop:=∀p∈s,Ja p.1.k≠0
theorem JPe{v:CV}:∀{s:Wx} {b:List CV},Opn s->Opn (K0 v s b).1
 |[],_,h=>h
 |(o,ks)::r,_,h=>by
  intro p hp;rcases AP.1 hp with rfl|hp
  ·exact h (o,ks) (List.mem_cons_self ..)
  ·exact h _ (AX _ hp)
theorem JVD{o:Tk4}{ks:List CV}{r:Wx}{b:List CV}(h:Opn ((o,ks)::r)):Opn (Qf ((o,ks)::r) b).1:=
 JPe λp hp=>h p (AX _ hp)
theorem JVG{t:Tk4}{s:Wx}{b:List CV}(h:Opn s):Opn (WG t s b).1:=by
 unfold WG
 split
 ·cases s with
  |nil=>exact h
  |cons p r=>obtain⟨o,ks⟩:=p;exact JVD h
 ·split
  ·intro p hp
   rcases AP.1 hp with rfl|hp
   ·assumption
   ·exact h p hp
  ·exact JPe h
theorem JVH(t:Tk4)(s:Wx)(b:List CV):szS (WG t s b).1+(WG t s b).2.length<=szS s+b.length+1:=by
 unfold WG
 split
 ·cases s with
  |nil=>exact Nat.le_succ _
  |cons p r=>obtain⟨o,ks⟩:=p;have:=JMH o ks r b;omega
 ·split
  ·simp only[szS,Ai];omega
  ·have:=JPd (.mk t []) s b;omega
end Go.Lift.Rul
end

section
open Go.Proofs
namespace Go.Lift.Y1.P
open Rul
variable{lo:Nat}{h:JG}
theorem JLt{n:Nat}(h:n<=1000000000):(n+1)*72<=140737488355328:=om
theorem JUa{n:Nat}(h:n<=1000000000):n<=9223372036854775806:=om
def Jnk(j:List V):Prop:=∀i,j.all (avf i)=true/\j.all (okv i)=true
theorem JBT:Jnk []:=λ_=>⟨rfl,rfl⟩
theorem Hp{a b:List V}(ha:Jnk a)(hb:Jnk b):Jnk (a++b):=λi=>by rw[CM,(ha i).1,(hb i).1,CM,(ha i).2,(hb i).2];exact⟨rfl,rfl⟩
theorem JZb{l:List CV}{a:List V}(ha:Jnk a):Jnk (.list .yes (JJ l)::a):=λi=>by rw[Bi,Bi,(ha i).1,(ha i).2];exact⟨rfl,rfl⟩
theorem Jsr{n:Nat}(h:n<=1000000000):n<=9223372036854775805:=om
theorem Jss{p:List Ob}{F:List V}{n:Nat}{t:Tk4}{r ks:List CV}(hlo:lo<=p.length)(hn:n<=1000000000)
  (h1:F[n*7+6]? =some (.list .yes (JJ r)))(h2:(F.drop ((n+1)*7)).take 7=row t++[.list .yes (JJ ks)])(hl:(n+2)*7<=F.length)(hr:r.length<=1000000000):
  E lo 18 [.stk p.length (n+2) 7] (p++[.cells F])=
   some (.stk p.length (n+1) 7,p++[.cells (F.set (n*7+6) (.list .yes (JJ (r++[.mk t ks]))))]):=by
 have w1:Am.wrap (((n+2:Nat):Int)-1)=((n+1:Nat):Int):=by rw[JW]<;>omega
 have w2:Am.wrap (((n+1:Nat):Int)-1)=(n:Int):=by rw[JW]<;>omega
 have q1:(n:Int)<((n+1:Nat):Int):=om;have q2:((n+1:Nat):Int)<((n+2:Nat):Int):=om;have hs:n*7+6<F.length:=om;have hs1:n*7+6+1<=F.length:=hs;have hs2:n*7+7<=F.length:=om;have e2:7<=(F.drop ((n+1)*7)).length:=by rw[AB];omega
 have hk:∀(x y:V),(F.set (n*7+6) y).take (n*7+6)++x::(F.set (n*7+6) y).drop (n*7+6+1)=F.set (n*7+6) x:=λx y=>by rw[JNa (by rw[B4];exact hs),Dg]
 have hk2:∀(x y:V),(F.set (n*7+6) y).take (n*7+6)++x::(F.set (n*7+6) y).drop (n*7+7)=F.set (n*7+6) x:=hk;have o1:=JLt hr;have o2:=JUa hr;have ra:=Jn r;have rl:=JD r;have rb:=YU r;have l1:lo<=p.length+1:=om;have l2:lo<=p.length+2:=om;have l3:lo<=p.length+3:=om;have l4:lo<=p.length+4:=om;have l5:lo<=p.length+5:=om
 rw[jr,JZ,JX,JP];generalize JJ r=R at*;rw[e18];simp only[row,AA,Au]at h2;simp only[go_sem,b18,Tryz.f18,hlo,w1,w2,q1,q2,h1,h2,hs,hs1,hs2,hk,hk2,e2,o1,o2,ra,rl,rb,l1,l2,l3,l4,l5,B4,Dg]<;>rfl
theorem Jst{p:List Ob}{F xs:List V}{n:Nat}{t:Tk4}{r ks:List CV}(hlo:lo<=p.length)(hn:n<=1000000000)
  (h1:F[n*7+6]? =some (.list .yes (JJ r)))(h2:(F.drop ((n+1)*7)).take 7=row t++[.list .yes (JJ ks)])(hl:(n+2)*7<=F.length)(hr:r.length<=1000000000):
  E lo 18 [.stk p.length (n+2) 7] (p++[.cells F,.cells xs])=
   some (.stk p.length (n+1) 7,p++[.cells (F.set (n*7+6) (.list .yes (JJ (r++[.mk t ks])))),.cells xs]):=by
 have w1:Am.wrap (((n+2:Nat):Int)-1)=((n+1:Nat):Int):=by rw[JW]<;>omega
 have w2:Am.wrap (((n+1:Nat):Int)-1)=(n:Int):=by rw[JW]<;>omega
 have q1:(n:Int)<((n+1:Nat):Int):=om;have q2:((n+1:Nat):Int)<((n+2:Nat):Int):=om;have hs:n*7+6<F.length:=om;have hs1:n*7+6+1<=F.length:=hs;have hs2:n*7+7<=F.length:=om;have e2:7<=(F.drop ((n+1)*7)).length:=by rw[AB];omega
 have hk:∀(x y:V),(F.set (n*7+6) y).take (n*7+6)++x::(F.set (n*7+6) y).drop (n*7+6+1)=F.set (n*7+6) x:=λx y=>by rw[JNa (by rw[B4];exact hs),Dg]
 have hk2:∀(x y:V),(F.set (n*7+6) y).take (n*7+6)++x::(F.set (n*7+6) y).drop (n*7+7)=F.set (n*7+6) x:=hk;have o1:=JLt hr;have o2:=JUa hr;have ra:=Jn r;have rl:=JD r;have rb:=YU r;have l1:lo<=p.length+1:=om;have l2:lo<=p.length+2:=om;have l3:lo<=p.length+3:=om;have l4:lo<=p.length+4:=om;have l5:lo<=p.length+5:=om
 rw[jr,JZ,JX,JP];generalize JJ r=R at*;rw[e18];simp only[row,AA,Au]at h2;simp only[go_sem,b18,Tryz.f18,hlo,w1,w2,q1,q2,h1,h2,hs,hs1,hs2,hk,hk2,e2,o1,o2,ra,rl,rb,l1,l2,l3,l4,l5,B4,Dg]<;>rfl
abbrev N45(h:JG)(l:List Tk4)(n i:Nat):Jl:=[(3,.stk h.length n 7),(9,.list .no (l.map row)),(10,.v (.int .i64 l.length)),(11,.v (.int .i64 i))]
theorem JOJ(s:Wx)(b:List CV):Jnk (W2 s b):=λi=>⟨JBR _ (λ_ _=>rfl) (λ_=>rfl) s b,JBR _ (λ_ _=>rfl) (λ_=>rfl) s b⟩
theorem JeS{n:Nat}(h:n<=1000000000):(n+1+1)*72<=140737488355328:=om
def JDT:Wx->Int
 |[]=>0
 |(o,_)::_=>o.k
theorem JH3:∀(s:Wx) (b:List CV) (j:List V),(W2 s b++j)[s.length*7]? =some (.v (.int .i64 (JDT s)))
 |[],_,_=>rfl
 |(o,ks)::r,b,j=>JMG o ks r b j
theorem JeT{l:List Tk4}{t:Tk4}{i:Nat}{s:Wx}{b:List CV}{j:List V}(hlo:lo<=h.length)(hg:l[i]? =some t)(hl:l.length<=1000000000)(hs:s.length<=1000000000)(hj:Jnk j)(hc:Ja t.k≠0)(he:(decide (0<s.length)&&(t.k==Ja (JDT s)))=false):
  evCode ⟨Aa,E,lo,h.length,h7⟩ JA zw (N45 h l (s.length+1) i,h++[.cells (W2 s b++j)])=some (.normal,N45 h l (s.length+2) (i+1),h++[.cells (W2 ((t,[])::s) b)]):=by
 have hlt:i<l.length:=(Ab.1 hg).1
 have q:decide ((i:Int)<(l.length:Int))=true:=by simpa using hlt
 have hgr:(l.map row)[i]? =some (row t):=by rw[An,hg]<;>rfl
 have hw:=JM (i:=i) om;have w1:Am.wrap (((s.length+1:Nat):Int)-1)=(s.length:Int):=by rw[JW om om];omega
 have l1:lo<=h.length+1:=om;have l2:lo<=h.length+2:=om;have l3:lo<=h.length+3:=om;have qc:(Ja t.k !=0)=true:=by simpa using hc
 have hF0:=JVC s b j;have hT:=JYD h.length s b;have hTk:=(JOJ s b (h.length+1)).2;have hkd:=JH3 s b j;have hFl:(s.length+1)*7<=(W2 s b++j).length:=by rw[Ao,YX];omega
 have a2:(s.length:Int)<((s.length+1:Nat):Int):=om;have o1:=JeS hs;have o2:=Jsr hs;simp only[N45,W2];generalize W2 s b++j=F at*;generalize W2 s b=T at*;have c17:=λlo k hlo=>f17 (lo:=lo) (h:=h++[.cells F,.cells (row t)]) hlo k
 have c17a:=c17 lo t.k (by simp;omega);have c17b:=c17 (h.length+2) (JDT s) (by simp)
 clear c17;simp only[row]at hgr c17a c17b
 cases hs0:decide (0<s.length)with
 |true=>
  rw[hs0,Aw]at he;have hql:decide ((0:Int)<(s.length:Int))=true:=by rw[decide_eq_true_iff]at hs0⊢;omega
  simp only[row,go_sem,zw,b7,Tryz.f7,hlo,l1,l2,l3,q,hgr,hw,w1,qc,hF0,hT,hTk,hkd,hFl,a2,o1,o2,c17a,c17b,hql,he,JX,Aq]<;>rfl
 |false=>
  have hql:decide ((0:Int)<(s.length:Int))=false:=by rw[decide_eq_false_iff_not]at hs0⊢;omega
  simp only[row,go_sem,zw,b7,Tryz.f7,hlo,l1,l2,l3,q,hgr,hw,w1,qc,hF0,hT,hTk,hkd,hFl,a2,o1,o2,c17a,c17b,hql,he,JX,Aq]<;>rfl
theorem JeU{l:List Tk4}{t o:Tk4}{i:Nat}{ks:List CV}{s:Wx}{b:List CV}{j:List V}(hlo:lo<=h.length)(hg:l[i]? =some t)(hl:l.length<=1000000000)(hs:s.length<=1000000000)(hr:(yA s b).length<=1000000000)(hj:Jnk j)(he:Ja o.k=t.k):
  evCode ⟨Aa,E,lo,h.length,h7⟩ JA zw (N45 h l (s.length+2) i,h++[.cells (W2 ((o,ks)::s) b++j)])=
   some (.normal,N45 h l (s.length+1) (i+1),h++[.cells (W2 (Qf ((o,ks)::s) b).1 (Qf ((o,ks)::s) b).2++(row o++[.list .yes (JJ ks)]++j))]):=by
 have hlt:i<l.length:=(Ab.1 hg).1
 have q:decide ((i:Int)<(l.length:Int))=true:=by simpa using hlt
 have hgr:(l.map row)[i]? =some (row t):=by rw[An,hg]<;>rfl
 have hw:=JM (i:=i) om;have w1:Am.wrap (((s.length+2:Nat):Int)-1)=((s.length+1:Nat):Int):=by rw[JW om om];omega
 have l1:lo<=h.length+1:=om;have l2:lo<=h.length+2:=om;have l3:lo<=h.length+3:=om;have hkd:=JMG o ks s b j;have hcl:=JMD o ks s b j;have h5:=Jst (lo:=lo) (p:=h) (xs:=row t) (t:=o) (ks:=ks) (F:=W2 ((o,ks)::s) b++j) hlo hs (JH1 (o,ks) s b j) (JH2 o ks s b j) (by rw[Ao,YX,Ae];omega) hr
 rw[hcl]at h5;have hSk:=(Hp (JOJ (Qf ((o,ks)::s) b).1 (Qf ((o,ks)::s) b).2) (Hp (a:=row o++[.list .yes (JJ ks)]) (λi=>⟨rfl,rfl⟩) hj) (h.length+1)).2
 have hql:decide ((0:Int)<((s.length+1:Nat):Int))=true:=by rw[decide_eq_true_iff];omega
 have a2:((s.length+1:Nat):Int)<((s.length+2:Nat):Int):=om;have qe:(t.k==Ja o.k)=true:=by rw[he,beq_self_eq_true]
 simp only[N45];generalize W2 ((o,ks)::s) b++j=F at*;generalize W2 (Qf ((o,ks)::s) b).1 (Qf ((o,ks)::s) b).2++(row o++[.list .yes (JJ ks)]++j)=F2 at*;have c17b:=f17 (lo:=h.length+2) (h:=h++[.cells F,.cells (row t)]) (by simp) o.k
 simp only[row]at hgr c17b h5;simp only[row,go_sem,zw,b7,Tryz.f7,hlo,l1,l2,l3,q,hgr,hw,w1,hkd,h5,hSk,hql,a2,qe,c17b,Aq]<;>rfl
theorem Jk6{l:List Tk4}{t:Tk4}{i:Nat}{s:Wx}{b:List CV}{j:List V}(hlo:lo<=h.length)(hg:l[i]? =some t)(hl:l.length<=1000000000)(hs:s.length<=1000000000)(hr:(yA s b).length<=1000000000)(hj:Jnk j)(hc:Ja t.k=0)(he:(decide (0<s.length)&&(t.k==Ja (JDT s)))=false):
  evCode ⟨Aa,E,lo,h.length,h7⟩ JA zw (N45 h l (s.length+1) i,h++[.cells (W2 s b++j)])=
   some (.normal,N45 h l (s.length+1) (i+1),h++[.cells (W2 (K0 (.mk t []) s b).1 (K0 (.mk t []) s b).2++j)]):=by
 have hlt:i<l.length:=(Ab.1 hg).1
 have q:decide ((i:Int)<(l.length:Int))=true:=by simpa using hlt
 have hgr:(l.map row)[i]? =some (row t):=by rw[An,hg]<;>rfl
 have hw:=JM (i:=i) om;have w1:Am.wrap (((s.length+1:Nat):Int)-1)=(s.length:Int):=by rw[JW om om];omega
 have l1:lo<=h.length+1:=om;have l2:lo<=h.length+2:=om;have l3:lo<=h.length+3:=om;have qc:(Ja t.k !=0)=false:=by simpa using hc
 have hkd:=JH3 s b j;have htop:=JPb s b j;have hset:=JPc s b j (.mk t []);have hTk:=(Hp (JOJ (K0 (.mk t []) s b).1 (K0 (.mk t []) s b).2) hj (h.length+1)).2;have hFs:s.length*7+6<(W2 s b++j).length:=by rw[Ao,YX];omega
 have hFs1:s.length*7+6+1<=(W2 s b++j).length:=hFs;have hFs2:s.length*7+7<=(W2 s b++j).length:=hFs;have hkk:∀(x y:V),((W2 s b++j).set (s.length*7+6) y).take (s.length*7+6)++x::((W2 s b++j).set (s.length*7+6) y).drop (s.length*7+6+1)=(W2 s b++j).set (s.length*7+6) x:=λx y=>by rw[JNa (by rw[B4];exact hFs),Dg]
 have hk2:∀(x y:V),((W2 s b++j).set (s.length*7+6) y).take (s.length*7+6)++x::((W2 s b++j).set (s.length*7+6) y).drop (s.length*7+7)=(W2 s b++j).set (s.length*7+6) x:=hkk;have a2:(s.length:Int)<((s.length+1:Nat):Int):=om;have o1:=JLt hr;have o2:=JUa hr;have ra:=Jn (yA s b);have rl:=JD (yA s b);have rb:=YU (yA s b)
 simp only[N45];rw[<-hset]at hTk⊢;rw[jr,JZ,JX,JP,JX]at hTk⊢;generalize W2 s b++j=F at*;generalize JJ (yA s b)=R at*;have c17:=λlo k hlo=>f17 (lo:=lo) (h:=h++[.cells F,.cells (row t)]) hlo k
 have c17a:=c17 lo t.k (by simp;omega);have c17b:=c17 (h.length+2) (JDT s) (by simp)
 clear c17;simp only[row]at hgr c17a c17b
 cases hs0:decide (0<s.length)with
 |true=>
  rw[hs0,Aw]at he;have hql:decide ((0:Int)<(s.length:Int))=true:=by rw[decide_eq_true_iff]at hs0⊢;omega
  simp only[row,go_sem,zw,b7,Tryz.f7,hlo,l1,l2,l3,q,hgr,hw,w1,qc,hkd,htop,hTk,hFs,hFs1,hFs2,hkk,hk2,a2,o1,o2,ra,rl,rb,c17a,c17b,hql,he,JX,Aq,B4,Dg]<;>rfl
 |false=>
  have hql:decide ((0:Int)<(s.length:Int))=false:=by rw[decide_eq_false_iff_not]at hs0⊢;omega
  simp only[row,go_sem,zw,b7,Tryz.f7,hlo,l1,l2,l3,q,hgr,hw,w1,qc,hkd,htop,hTk,hFs,hFs1,hFs2,hkk,hk2,a2,o1,o2,ra,rl,rb,c17a,c17b,hql,he,JX,Aq,B4,Dg]<;>rfl
theorem JYH:Opn []:=λp hp=>by cases hp
def H45(h:JG)(s:Wx)(b:List CV)(H:JG):Prop:=∃j,Jnk j/\H=h++[.cells (W2 s b++j)]
theorem JeW{l:List Tk4}{t:Tk4}{i:Nat}{s:Wx}{b:List CV}{H:JG}(hlo:lo<=h.length)(hg:l[i]? =some t)(hl:l.length<=1000000000)(hz:szS s+b.length<=1000000000)(ho:Opn s)(hH:H45 h s b H):
  ∃H',evCode ⟨Aa,E,lo,h.length,h7⟩ JA zw (N45 h l (s.length+1) i,H)=some (.normal,N45 h l ((WG t s b).1.length+1) (i+1),H')/\H45 h (WG t s b).1 (WG t s b).2 H':=by
 obtain⟨j,hj,rfl⟩:=hH;have hsl:=JBS s;by_cases hx:ctx s=some t.k
 ·cases s with
  |nil=>cases hx
  |cons p r=>
   obtain⟨o,ks⟩:=p;have he:Ja o.k=t.k:=Option.some.inj hx;simp only[szS]at hz;have hrl:=JBS r;have hrt:=JKM r b;have:=JeU (h:=h) (j:=j) (b:=b) (ks:=ks) hlo hg hl (by omega:r.length<=1000000000) om hj he
   have hst:WG t ((o,ks)::r) b=Qf ((o,ks)::r) b:=by unfold WG;rw[if_pos hx]
   rw[hst,zq];exact⟨_,this,_,Hp (Hp (λi=>⟨rfl,rfl⟩:Jnk (row o)) (JZb JBT)) hj,rfl⟩
 ·have he:(decide (0<s.length)&&(t.k==Ja (JDT s)))=false:=by
   cases s with
   |nil=>rfl
   |cons p r=>
    obtain⟨o,ks⟩:=p;have:t.k≠Ja o.k:=λe=>hx (by show some (Ja o.k)=some t.k;rw[e])
    simp only[JDT,Ae];rw[beq_eq_false_iff_ne.2 this,Bl]
  by_cases hc:Ja t.k=0
  ·have hst:WG t s b=K0 (.mk t []) s b:=by unfold WG;rw[if_neg hx,if_neg (by simp[hc])]
   have hrt:=JKM s b;rw[hst,JCQ];exact⟨_,Jk6 hlo hg hl om om hj hc he,j,hj,rfl⟩
  ·have hst:WG t s b=((t,[])::s,b):=by unfold WG;rw[if_neg hx,if_pos hc]
   rw[hst];exact⟨_,JeT hlo hg hl om hj hc he,[],JBT,by simp⟩
theorem Jk7{l:List Tk4}{n:Nat}{s:Wx}{b:List CV}{H:JG}(hlo:lo<=h.length)(hH:H45 h s b H):
  evCode ⟨Aa,E,lo,h.length,h7⟩ JA zw (N45 h l n l.length,H)=some (.exit 0,N45 h l n l.length++[(12,.v (.bool false))],H):=by
 obtain⟨j,_,rfl⟩:=hH;have q:decide ((l.length:Int)<(l.length:Int))=false:=by simp
 simp only[N45,go_sem,zw,b7,Tryz.f7,hlo,q]<;>rfl
theorem JZc{l:List Tk4}(hlo:lo<=h.length)(hl:l.length<=1000000000):∀(m i:Nat) (s:Wx) (b:List CV) (H:JG),i+m=l.length->szS s+b.length+m<=1000000000->Opn s->H45 h s b H->
  ∃H',JA (evCode ⟨Aa,E,lo,h.length,h7⟩ JA zw) (N45 h l (s.length+1) i,H)=some (.exit 0,N45 h l ((runS (l.drop i) s b).1.length+1) l.length++[(12,.v (.bool false))],H')/\H45 h (runS (l.drop i) s b).1 (runS (l.drop i) s b).2 H'/\szS (runS (l.drop i) s b).1+(runS (l.drop i) s b).2.length<=1000000000
 |0,i,s,b,H,hm,hz,ho,hH=>by
  obtain rfl:i=l.length:=om;rw[A0,runS]
  exact⟨H,by rw[JB,Jk7 hlo hH,Jx],hH,om⟩
 |m+1,i,s,b,H,hm,hz,ho,hH=>by
  have hlt:i<l.length:=om;have hd:l.drop i=l[i]::l.drop (i+1):=Av hlt;obtain⟨H1,hr,h1⟩:=JeW hlo (Ac hlt) hl om ho hH
  have hz1:=JVH l[i] s b;obtain⟨H2,h2,h3,h4⟩:=JZc hlo hl m (i+1) _ _ H1 om om (JVG ho) h1;rw[hd,runS];exact⟨H2,by rw[JB,hr,JO,h2],h3,h4⟩
abbrev M45(h:JG)(n:Nat)(ex:Jl):Jl:=(3,.stk h.length n 7)::ex
def JeX(ex:Jl):Prop:=(∃a b c,ex=[(9,a),(10,b),(11,c)])\/ ∃a b c d,ex=[(9,a),(10,b),(11,c),(12,d)]
theorem JYJ{o:Tk4}{ks:List CV}{s:Wx}{b:List CV}{j:List V}{ex:Jl}(he:JeX ex)(hlo:lo<=h.length)(hs:s.length<=1000000000)(hr:(yA s b).length<=1000000000):
  evCode ⟨Aa,E,lo,h.length,h7⟩ JA JLZ (M45 h (s.length+2) ex,h++[.cells (W2 ((o,ks)::s) b++j)])=
   some (.normal,M45 h (s.length+1) [(9,.undef),(10,.undef),(11,.undef)],h++[.cells (W2 (Qf ((o,ks)::s) b).1 (Qf ((o,ks)::s) b).2++(row o++[.list .yes (JJ ks)]++j))]):=by
 have hcl:=JMD o ks s b j;have h5:=Jss (lo:=lo) (p:=h) (t:=o) (ks:=ks) (F:=W2 ((o,ks)::s) b++j) hlo hs (JH1 (o,ks) s b j) (JH2 o ks s b j) (by rw[Ao,YX,Ae];omega) hr
 rw[hcl]at h5;have q:decide ((1:Int)<((s.length+2:Nat):Int))=true:=by rw[decide_eq_true_iff];omega
 generalize W2 ((o,ks)::s) b++j=F at*;generalize W2 (Qf ((o,ks)::s) b).1 (Qf ((o,ks)::s) b).2++(row o++[.list .yes (JJ ks)]++j)=F2 at*;rcases he with⟨x,y,z,rfl⟩|⟨x,y,z,w,rfl⟩
 ·simp only[M45,go_sem,JLZ,b7,Tryz.f7,hlo,q,h5]<;>rfl
 ·simp only[M45,go_sem,JLZ,b7,Tryz.f7,hlo,q,h5]<;>rfl
theorem Jk8{H:JG}{ex:Jl}(he:JeX ex)(hlo:lo<=h.length):
  evCode ⟨Aa,E,lo,h.length,h7⟩ JA JLZ (M45 h 1 ex,H)=some (.exit 2,M45 h 1 [(59,.v (.bool false))],H):=by
 have q:decide ((1:Int)<((1:Nat):Int))=false:=rfl;rcases he with⟨x,y,z,rfl⟩|⟨x,y,z,w,rfl⟩
 ·simp only[M45,go_sem,JLZ,b7,Tryz.f7,hlo,q,Ai]<;>rfl
 ·simp only[M45,go_sem,JLZ,b7,Tryz.f7,hlo,q,Ai]<;>rfl
theorem JVK(hlo:lo<=h.length):∀(n:Nat) (s:Wx) (b:List CV) (H:JG) (ex:Jl),s.length=n->szS s+b.length<=1000000000->JeX ex->H45 h s b H->
  ∃H',JA (evCode ⟨Aa,E,lo,h.length,h7⟩ JA JLZ) (M45 h (s.length+1) ex,H)=some (.exit 2,M45 h 1 [(59,.v (.bool false))],H')/\H45 h [] (Wo s b) H'
 |0,s,b,H,ex,hn,hz,he,hH=>by
  obtain rfl:=List.eq_nil_of_length_eq_zero hn
  exact⟨H,by rw[JB];simp only[Ai,AC];rw[Jk8 he hlo,Jx],hH⟩
 |n+1,[],b,H,ex,hn,hz,he,hH=>by cases hn
 |n+1,(o,ks)::r,b,H,ex,hn,hz,he,hH=>by
  have hz1:=JMH o ks r b;simp only[szS,Ae]at hz hn;have hrl:=JBS r;have hrt:=JKM r b;obtain⟨j,hj,rfl⟩:=hH;have hc:=JYJ (o:=o) (ks:=ks) (s:=r) (b:=b) (j:=j) he hlo om om;rw[yi];have hlen:=zq (o,ks) r b
  obtain⟨H2,h2,h3⟩:=JVK hlo n (Qf ((o,ks)::r) b).1 (Qf ((o,ks)::r) b).2 _ [(9,.undef),(10,.undef),(11,.undef)] om (by simp only[szS]at hz1;omega) (.inl ⟨_,_,_,rfl⟩)
   ⟨row o++[.list .yes (JJ ks)]++j,Hp (Hp (λi=>⟨rfl,rfl⟩:Jnk (row o)) (JZb JBT)) hj,rfl⟩
  refine⟨H2,?_,h3⟩
  rw[hlen]at h2;rw[JB];simp only[Ae];rw[hc,JO];exact h2
theorem f7{l:List Tk4}(hlo:lo<=h.length)(hl:l.length<=1000000000):E lo 7 [.list .no (l.map row)] h=some (.list .no (JJ (JLQ l)),h):=by
 obtain⟨H1,h1,h2,h3⟩:=JZc (lo:=lo) (h:=h) hlo hl l.length 0 [] [] (h++[.cells (W2 [] [])]) om (by simp only[szS,Ai];omega) JYH ⟨[],JBT,by simp⟩
 rw[AD]at h1 h2 h3;obtain⟨H2,h4,h5⟩:=JVK (lo:=lo) (h:=h) hlo _ _ _ H1 [(9,.list .no (l.map row)),(10,.v (.int .i64 l.length)),(11,.v (.int .i64 l.length)),(12,.v (.bool false))] rfl h3 (.inr ⟨_,_,_,_,rfl⟩) h2;have hv:Wo (runS l [] []).1 (runS l [] []).2=JLQ l:=rfl;rw[hv]at h5;have n0:((0:Nat):Int)=0:=rfl;have l1:lo<=h.length+1:=om
 have l2:lo<=h.length+2:=om;have e0:Rul.bs []=ByteArray.empty:=rfl;have p1:(0:Int)<((1:Nat):Int):=by decide
 rw[e7];simp only[zw,JLZ,b7,Tryz.f7,JK,loops,JC,go_sem,N45,M45,W2,row,Rul.bare,e0,n0,JX,AA,Au,Ai,AC]at h1 h4;obtain⟨j,_,rfl⟩:=h5;simp only[go_sem,b7,Tryz.f7,hlo,l1,l2,h1,h4,n0,p1,W2,row,Rul.bare,e0,JX,Aq,AA,Au,Ai,AC]<;>rfl
end Go.Lift.Y1.P
end

section
open Go.Proofs
namespace Go.Lift.Y1.P.T
open Utf Tok
def suf(l:List Int)(i:Nat):List Int:=(l.map K7).drop i
abbrev R(l:List Int)(i:Nat):Ob:= .cells [.list .no (ri .i32 l),.v (.int .i64 i)]
theorem JBU(l:List Int)(i k:Nat):chr (suf l i) k=match l[i+k]? with
  |some x=>K7 x
  |none=> -1:=by
 unfold chr suf;rw[List.getElem?_drop,An]
 cases l[i+k]? <;>rfl
theorem JVL(l:List Int)(i k:Nat): -1<=chr (suf l i) k/\chr (suf l i) k<=1114111:=by
 rw[JBU]
 cases l[i+k]? with
 |none=>simp
 |some x=>have:=yg x;simp only;omega
section
variable{lo i:Nat}{l:List Int}{p q:List Ob}
theorem Kc{i:Nat}(hi:i<l.length):suf l i=chr (suf l i) 0::suf l (i+1):=by
 have h1:i<(l.map K7).length:=by simpa using hi
 rw[JBU];unfold suf;have e:l[i+0]? =some l[i]:=Ac hi
 rw[Av h1,e];simp
theorem J9{i:Nat}(hi:l.length<=i):suf l i=[]:=AZ (by simpa using hi)
theorem QD(l:List Int)(i:Nat):(suf l i).length=l.length-i:=by simp[suf]
end
section
variable{lo i:Nat}{l:List Int}{p q:List Ob}
theorem JMK:hex (-1)= -1:=by decide
theorem JeY(c:Int):hex c<=15:=by
 unfold hex KD
 split
 ·rename_i h;simp at h;omega
 ·split
  ·rename_i h;simp at h;omega
  ·split
   ·rename_i h;simp at h;omega
   ·omega
theorem JML:blk (-1)=false:=by decide
theorem QT(k:Nat):chr [] k= -1:=by simp[chr]
theorem JVM(l:List Int){j:Nat}(hj:j<=l.length):(blk (chr (suf l j) 0)=true->j<l.length/\JDz (suf l j)=suf l (j+1))/\(blk (chr (suf l j) 0)=false->JDz (suf l j)=suf l j):=by
 rcases Nat.lt_or_ge j l.length with h|h
 ·have h1:=Kc h
  generalize chr (suf l j) 0=c at h1;rw[h1];refine⟨λhb=>⟨h,?_⟩,λhb=>?_⟩
  ·simp only[JDz];rw[if_pos hb]
  ·simp only[JDz];rw[if_neg (by simp[hb])]
 ·rw[J9 h,QT,JML]
  exact⟨λh=>by simp at h,λ_=>rfl⟩
end
end Go.Lift.Y1.P.T
end

section
open Go.Proofs
namespace Go.Lift.Y1.P
open Utf
theorem JOK(y:Int)(k:Nat):y.fdiv (2^min k 32)=y/2^min k 32:=by rw[Int.fdiv_eq_ediv_of_nonneg];exact Int.le_of_lt (Int.pow_pos om)
def isc(x:Int):Bool:=decide (0<=x)&&decide (x<=1114111)&&(decide (x<55296)||decide (57343<x))
theorem zQ(x:Int):(if(!isc x)=true then 65533 else x)=K7 x:=by unfold isc K7;by_cases a:x<0<;>by_cases b:1114111<x<;>by_cases c:55296<=x<;>by_cases d:x<=57343<;>simp[a,b,c,d]<;>omega
theorem f73{lo:Nat}{x:Int}{h:JG}:E lo 73 [.v (.int .i32 x)] h=some (.v (.bool (isc x)),h):=by rw[e73];simp only[go_sem,b73,Tryz.f73,isc]
theorem JRx(y:Int)(h0:0<=y)(h1:y<=1114111)(out:List Int):
  (
   if decide (y<128)=true then ri .u8 out++[[V.v (.int .u8 (BM.wrap y))]]
   else if decide (y<2048)=true then ri .u8 out++[[V.v (.int .u8 (BM.wrap (AR.wrap ↑(Ap 32 192|||Ap 32 (y.fdiv (2^min 6 32))).toNat)))],
    [V.v (.int .u8 (BM.wrap (AR.wrap ↑(Ap 32 128|||Ap 32 (AR.wrap ↑(Ap 32 y&&&Ap 32 63).toNat)).toNat)))]]
   else if decide (y<65536)=true then ri .u8 out++[[V.v (.int .u8 (BM.wrap (AR.wrap ↑(Ap 32 224|||Ap 32 (y.fdiv (2^min 12 32))).toNat)))],
    [V.v (.int .u8 (BM.wrap (AR.wrap ↑(Ap 32 128|||Ap 32 (AR.wrap ↑(Ap 32 (y.fdiv (2^min 6 32))&&&Ap 32 63).toNat)).toNat)))],
    [V.v (.int .u8 (BM.wrap (AR.wrap ↑(Ap 32 128|||Ap 32 (AR.wrap ↑(Ap 32 y&&&Ap 32 63).toNat)).toNat)))]]
   else ri .u8 out++[[V.v (.int .u8 (BM.wrap (AR.wrap ↑(Ap 32 240|||Ap 32 (y.fdiv (2^min 18 32))).toNat)))],
    [V.v (.int .u8 (BM.wrap (AR.wrap ↑(Ap 32 128|||Ap 32 (AR.wrap ↑(Ap 32 (y.fdiv (2^min 12 32))&&&Ap 32 63).toNat)).toNat)))],
    [V.v (.int .u8 (BM.wrap (AR.wrap ↑(Ap 32 128|||Ap 32 (AR.wrap ↑(Ap 32 (y.fdiv (2^min 6 32))&&&Ap 32 63).toNat)).toNat)))],
    [V.v (.int .u8 (BM.wrap (AR.wrap ↑(Ap 32 128|||Ap 32 (AR.wrap ↑(Ap 32 y&&&Ap 32 63).toNat)).toNat)))]])
  =ri .u8 (out++enc y):=by
 have lo6:∀z:Int,0<=z->z<=1114111->BM.wrap (AR.wrap ↑(Ap 32 128|||Ap 32 (AR.wrap ↑(Ap 32 z&&&Ap 32 63).toNat)).toNat)=128+z%64:=by intro z z0 z1;rw[and63 z0 om,wrap_i32 (n:=z%64) om om,Utf.o32 (n:=64) om om om,wrap_i32 om om,Qm om om]
 have e6:y.fdiv (2^min 6 32)=y/64:=JOK y 6;have e12:y.fdiv (2^min 12 32)=y/4096:=JOK y 12;have e18:y.fdiv (2^min 18 32)=y/262144:=JOK y 18;rw[e6,e12,e18,lo6 y h0 h1,lo6 (y/64) om om,lo6 (y/4096) om om,<-ri_app];unfold enc;by_cases c1:y<128
 ·simp only[c1,decide_true,if_true,GZ,Z6]
  rw[Qm om om]
 ·by_cases c2:y<2048
  ·simp only[c1,c2,decide_true,decide_false,if_true,if_false,GZ,Z6,Al]
   rw[Utf.o32 (n:=32) om om om,wrap_i32 om om,Qm om om]
  ·by_cases c3:y<65536
   ·simp only[c1,c2,c3,decide_true,decide_false,if_true,if_false,GZ,Z6,Al]
    rw[Utf.o32 (n:=16) om om om,wrap_i32 om om,Qm om om]
   ·simp only[c1,c2,c3,decide_true,decide_false,if_true,if_false,GZ,Z6,Al]
    rw[Utf.o32 (n:=8) om om om,wrap_i32 om om,Qm om om]
theorem JVN{lo:Nat}{l out:List Int}{h:JG}{i:Nat}{x:Int}(hx:l[i]? =some x)(hi:i<l.length)(hl:l.length<=35184372088832)(ho:out.length<=140737488355324):
  evCode ⟨Aa,E,lo,h.length,JXP⟩ JA JCk ([(3,.list .yes (ri .u8 out)),(6,.list .no (ri .i32 l)),(7,.v (.int .i64 l.length)),(8,.v (.int .i64 i))],h)=
   some (.normal,[(3,.list .yes (ri .u8 (out++enc (K7 x)))),(6,.list .no (ri .i32 l)),(7,.v (.int .i64 l.length)),(8,.v (.int .i64 (i+1:Nat)))],h):=by
 have hd:decide ((i:Int)<l.length)=true:=by simpa using hi
 have hr:∀k,k<=4->(out.length+k)*1<=140737488355328:=by intro k hk;omega
 have hq:∀k,9223372036854775800<=k->out.length<=k:=by intro k hk;omega
 have hw:=JM (i:=i) om;have hs:=zQ x;simp only[go_sem,JCk,JQ2,Tryz.f112,hd,hx,hr,hq,hw,f73,hs];have hy:=yg x;exact congrArg (λr=>(Ex.normal,(([(3,V.list .yes r),(6,V.list .no (ri .i32 l)),(7,.v (.int .i64 l.length)),(8,.v (.int .i64 (i+1:Nat)))]:Jl),h))) (JRx (K7 x) hy.1 hy.2 out)
theorem JYK{lo:Nat}{l:List Int}{h:JG}(hl:l.length<=35184372088832):∀(n i:Nat) (out:List Int),n=l.length-i->i<=l.length->out.length<=4*i->
  JA (evCode ⟨Aa,E,lo,h.length,JXP⟩ JA JCk) ([(3,.list .yes (ri .u8 out)),(6,.list .no (ri .i32 l)),(7,.v (.int .i64 l.length)),(8,.v (.int .i64 i))],h)=
   some (.exit 0,[(3,.list .yes (ri .u8 (out++(l.drop i).flatMap λx=>enc (K7 x)))),(6,.list .no (ri .i32 l)),(7,.v (.int .i64 l.length)),(8,.v (.int .i64 l.length)),(9,.v (.bool false))],h):=by
 intro n
 induction n with
 |zero=>
  intro i out hn hi ho;obtain rfl:i=l.length:=om;rw[JB];have hd:decide ((l.length:Int)<l.length)=false:=by simp
  simp only[go_sem,JCk,JQ2,Tryz.f112,hd,A0,List.flatMap_nil]
 |succ n ih=>
  intro i out hn hi ho;have hlt:i<l.length:=om;have hx:l[i]? =some l[i]:=Ac hlt
  have he:(enc (K7 l[i])).length<=4:=by
   unfold enc
   split
   ·simp
   ·split
    ·simp
    ·split<;>simp
  rw[JB,JVN hx hlt hl om,JO,ih (i+1) _ om om (by rw[Ao];omega),Av hlt,List.flatMap_cons,Ax]
theorem f112{lo:Nat}{l:List Int}{h:JG}(hl:l.length<=35184372088832):
  E lo 112 [.list .no (ri .i32 l)] h=some (.list .no (ri .u8 (l.flatMap λx=>enc (K7 x))),h):=by
 rw[Jq7];have hL:=JYK (lo:=lo) (h:=h) hl _ 0 [] rfl om (by simp)
 simp only[JCk,JQ2,Tryz.f112,JK,loops,JC,go_sem,AD,Z6]at hL;simp only[go_sem,JQ2,Tryz.f112,hL]
theorem JMM:∀(n:Nat) (r lo hi:Int) (k:Nat) (t:List Int),(more n r lo hi k t).2.2=true->(more n r lo hi k t).2.1=k+n
 |0,_,_,_,_,_,_=>rfl
 |n+1,r,lo,hi,k,[],h=>by simp[more]at h
 |n+1,r,lo,hi,k,c::t,h=>by
  unfold more at h⊢
  split at h
  ·simp at h
  ·rename_i hc
   rw[if_neg hc,JMM n _ _ _ _ _ h];omega
theorem f113{lo:Nat}{c:Int}{h:JG}(h0:0<=c)(h1:c<=255):E lo 113 [.v (.int .u8 c)] h=some (.tup [.v (.int .i64 (nd c).1),.v (.int .u8 (nd c).2.1),.v (.int .u8 (nd c).2.2)],h):=by
 rw[Jq8];by_cases ha:194<=c/\c<=223
 ·have e:nd c=(1,128,191):=by unfold nd;rw[if_pos ha]
  have t1:(decide (194<=c)&&decide (c<=223))=true:=by simp;omega
  rw[e];simp only[go_sem,JJn,Tryz.f113,t1];rfl
 have t1:(decide (194<=c)&&decide (c<=223))=false:=by simp;omega
 by_cases hb1:c=224
 ·have e:nd c=(2,160,191):=by unfold nd;rw[if_neg ha,if_pos hb1]
  have t2:(c==224)=true:=by simp;omega
  rw[e];simp only[go_sem,JJn,Tryz.f113,t1,t2];rfl
 have t2:(c==224)=false:=by simp;omega
 by_cases hc1:c=237
 ·have e:nd c=(2,128,159):=by unfold nd;rw[if_neg ha,if_neg hb1,if_pos hc1]
  have t3:(c==237)=true:=by simp;omega
  rw[e];simp only[go_sem,JJn,Tryz.f113,t1,t2,t3];rfl
 have t3:(c==237)=false:=by simp;omega
 by_cases hd1:225<=c/\c<=239
 ·have e:nd c=(2,128,191):=by unfold nd;rw[if_neg ha,if_neg hb1,if_neg hc1,if_pos hd1]
  have t4:(decide (225<=c)&&decide (c<=239))=true:=by simp;omega
  rw[e];simp only[go_sem,JJn,Tryz.f113,t1,t2,t3,t4];rfl
 have t4:(decide (225<=c)&&decide (c<=239))=false:=by simp;omega
 by_cases he1:c=240
 ·have e:nd c=(3,144,191):=by unfold nd;rw[if_neg ha,if_neg hb1,if_neg hc1,if_neg hd1,if_pos he1]
  have t5:(c==240)=true:=by simp;omega
  rw[e];simp only[go_sem,JJn,Tryz.f113,t1,t2,t3,t4,t5];rfl
 have t5:(c==240)=false:=by simp;omega
 by_cases hf1:241<=c/\c<=243
 ·have e:nd c=(3,128,191):=by unfold nd;rw[if_neg ha,if_neg hb1,if_neg hc1,if_neg hd1,if_neg he1,if_pos hf1]
  have t6:(decide (241<=c)&&decide (c<=243))=true:=by simp;omega
  rw[e];simp only[go_sem,JJn,Tryz.f113,t1,t2,t3,t4,t5,t6];rfl
 have t6:(decide (241<=c)&&decide (c<=243))=false:=by simp;omega
 by_cases hg1:c=244
 ·have e:nd c=(3,128,143):=by unfold nd;rw[if_neg ha,if_neg hb1,if_neg hc1,if_neg hd1,if_neg he1,if_neg hf1,if_pos hg1]
  have t7:(c==244)=true:=by simp;omega
  rw[e];simp only[go_sem,JJn,Tryz.f113,t1,t2,t3,t4,t5,t6,t7];rfl
 have t7:(c==244)=false:=by simp;omega
 have e:nd c=(0,0,0):=by unfold nd;rw[if_neg ha,if_neg hb1,if_neg hc1,if_neg hd1,if_neg he1,if_neg hf1,if_neg hg1]
 rw[e];simp only[go_sem,JJn,Tryz.f113,t1,t2,t3,t4,t5,t6,t7]
theorem JYL{lo:Nat}{b:List Int}{h:JG}{i k n:Nat}{r low high c:Int}(hc:b[i+k]? =some c)(hi:k<=n)(hn:n<=3)(hb:b.length<=140737488355328)(hl:i+k<b.length)
  (c0:0<=c)(c1:c<=255)(r0:0<=r)(r1:r<=1000000)(hx:¬(c<low\/high<c)):
  evCode ⟨Aa,E,lo,h.length,h85⟩ JA yx ([(0,.list .no (ri .u8 b)),(1,.v (.int .i64 i)),(8,.v (.int .i64 n)),(9,.v (.int .u8 low)),(10,.v (.int .u8 high)),(11,.v (.int .i32 r)),(12,.v (.int .i64 k))],h)=
   some (.normal,[(0,.list .no (ri .u8 b)),(1,.v (.int .i64 i)),(8,.v (.int .i64 n)),(9,.v (.int .u8 128)),(10,.v (.int .u8 191)),(11,.v (.int .i32 (r*64+c%64))),(12,.v (.int .i64 (k+1:Nat)))],h):=by
 have hd:decide ((k:Int)<=n)=true:=by simpa using hi
 have hw:Am.wrap ((i:Int)+k)=((i+k:Nat):Int):=by rw[JW om om];omega
 have hw1:=JM (i:=k) om;have hg:decide ((b.length:Int)<=(i+k:Nat))=false:=by simp;omega
 have hx1:decide (c<low)=false:=by simp;omega
 have hx2:decide (high<c)=false:=by simp;omega
 simp only[go_sem,yx,b85,Tryz.f85,hd,hc,hw,hw1,hg,hx1,hx2];rw[Joh r0 r1,a63 c0 c1,Qm om om,wrap_i32 (n:=c%64) om om,Jof r0 r1 om om,wrap_i32 om om]
theorem JVO{lo:Nat}{b:List Int}{h:JG}{i k n:Nat}{r low high:Int}(hi:k<=n)(hn:n<=3)(hb:b.length<=140737488355328)(hib:i<=140737488355328)
  (hs:b.length<=i+k\/ ∃c,b[i+k]? =some c/\i+k<b.length/\(c<low\/high<c)):
  evCode ⟨Aa,E,lo,h.length,h85⟩ JA yx ([(0,.list .no (ri .u8 b)),(1,.v (.int .i64 i)),(8,.v (.int .i64 n)),(9,.v (.int .u8 low)),(10,.v (.int .u8 high)),(11,.v (.int .i32 r)),(12,.v (.int .i64 k))],h)=
   some (.ret,[(4,.v (.int .i32 65533)),(5,.v (.int .i64 k)),(6,.v (.bool false))],h):=by
 have hd:decide ((k:Int)<=n)=true:=by simpa using hi
 have hw:Am.wrap ((i:Int)+k)=((i+k:Nat):Int):=by rw[JW om om];omega
 have hw1:=JM (i:=k) om;rcases hs with hs|⟨c,hc,hl,hs⟩
 ·have hg:decide ((b.length:Int)<=(i+k:Nat))=true:=by simp;omega
  have hc:b[i+k]? =none:=List.getElem?_eq_none hs
  simp only[go_sem,yx,b85,Tryz.f85,hd,hw,hw1,hg,hc]
 ·have hg:decide ((b.length:Int)<=(i+k:Nat))=false:=by simp;omega
  by_cases h1:c<low
  ·have hx1:decide (c<low)=true:=by simp;omega
   simp only[go_sem,yx,b85,Tryz.f85,hd,hc,hw,hw1,hg,hx1]
  ·have hx1:decide (c<low)=false:=by simp;omega
   have hx2:decide (high<c)=true:=by simp;omega
   simp only[go_sem,yx,b85,Tryz.f85,hd,hc,hw,hw1,hg,hx1,hx2]
def JVP(b:List Int)(i n:Nat)(x:Int×Nat×Bool)(h:JG)(z:Ex×St):Prop:=
 if x.2.2=true then∃low high,z=(.exit 0,[(0,.list .no (ri .u8 b)),(1,.v (.int .i64 i)),(8,.v (.int .i64 n)),(9,.v (.int .u8 low)),(10,.v (.int .u8 high)),(11,.v (.int .i32 x.1)),(12,.v (.int .i64 (n+1:Nat))),(37,.v (.bool false))],h)
 else z=(.ret,[(4,.v (.int .i32 x.1)),(5,.v (.int .i64 x.2.1)),(6,.v (.bool false))],h)
theorem Jea{lo:Nat}{b:List Int}{h:JG}{i n:Nat}(hn:n<=3)(hb:b.length<=140737488355328)(hib:i<=140737488355328)(hy:By b):∀(m k:Nat) (r low high:Int),k+m=n+1->0<=r->(r+1)*64^m<=64000000->
  ∃z,JA (evCode ⟨Aa,E,lo,h.length,h85⟩ JA yx) ([(0,.list .no (ri .u8 b)),(1,.v (.int .i64 i)),(8,.v (.int .i64 n)),(9,.v (.int .u8 low)),(10,.v (.int .u8 high)),(11,.v (.int .i32 r)),(12,.v (.int .i64 k))],h)=some z
   /\JVP b i n (more m r low high k (b.drop (i+k))) h z:=by
 intro m
 induction m with
 |zero=>
  intro k r low high hm h0 h1;obtain rfl:k=n+1:=om;have hd:decide (((n+1:Nat):Int)<=n)=false:=by simp;omega
  rw[JB];simp only[go_sem,yx,b85,Tryz.f85,hd]
  exact⟨_,rfl,low,high,rfl⟩
 |succ m ih=>
  intro k r low high hm h0 h1;have hlt:k<=n:=om;rw[JB];by_cases hl:i+k<b.length
  ·have hc:b[i+k]? =some b[i+k]:=Ac hl
   have hcy:=hy b[i+k] (AW hl);rw[Av hl];by_cases hx:b[i+k]<low\/high<b[i+k]
   ·rw[JVO hlt hn hb hib (.inr ⟨_,hc,hl,hx⟩),Kh]
    exact⟨_,rfl,by simp only[more,if_pos hx];rfl⟩
   ·rw[Int.pow_succ]at h1
    have hp:(1:Int)<=64^m:=Int.pow_pos om;have hr:(r+1)*64*64^m=(r+1)*(64^m*64):=by rw[Int.mul_assoc,Int.mul_comm 64]
    have h2:(r+1)*64*1<=(r+1)*64*64^m:=Int.mul_le_mul_of_nonneg_left hp om;have h3:(r*64+b[i+k]%64+1)*64^m<=(r+1)*64*64^m:=Int.mul_le_mul_of_nonneg_right om om;rw[JYL hc hlt hn hb hl hcy.1 hcy.2 h0 om hx,JO];have:=ih (k+1) (r*64+b[i+k]%64) 128 191 om om om;simpa only[more,if_neg hx,<-Nat.add_assoc]using this
  ·have hs:b.length<=i+k:=om
   rw[JVO hlt hn hb hib (.inl hs),Kh,AZ hs];exact⟨_,rfl,rfl⟩
def three(x:Int×Nat×Bool):V:= .tup [.v (.int .i32 x.1),.v (.int .i64 x.2.1),.v (.bool x.2.2)]
theorem f85{lo:Nat}{b:List Int}{i:Nat}{h:JG}(hi:i<b.length)(hb:b.length<=140737488355328)(hy:By b):
  E lo 85 [.list .no (ri .u8 b),.v (.int .i64 i)] h=some (three (one (b.drop i)),h):=by
 have hx:b[i]? =some b[i]:=Ac hi
 have hcy:=hy b[i] (AW hi);rw[Av hi];generalize hc:b[i]=c at hx hcy;simp only[one];by_cases h0:c<128
 ·rw[if_pos h0]
  have t0:decide (c<128)=true:=by simp;omega
  have hm:AR.wrap c=c:=wrap_i32 om om;rw[e85];simp only[go_sem,b85,Tryz.f85,hx,t0,hm];rfl
 rw[if_neg h0];have t0:decide (c<128)=false:=by simp;omega
 by_cases hz:(nd c).1=0
 ·rw[if_pos hz]
  have t1:(((nd c).1:Int)==0)=true:=by simp;omega
  rw[e85];simp only[go_sem,b85,Tryz.f85,hx,t0,f113 hcy.1 hcy.2,t1];rfl
 rw[if_neg hz];have hn:=JYt c;have t1:(((nd c).1:Int)==0)=false:=by simp;omega
 have hm:AR.wrap (JA0 .i32 (AR.wrap c) (Jfs .i32 63 (Ba.wrap (nd c).1)))=c%2^ (6-(nd c).1):=by
  rw[wrap_i32 (n:=c) om om];have:(nd c).1=1\/(nd c).1=2\/(nd c).1=3:=om;rcases this with h|h|h<;>rw[h]
  ·show AR.wrap (JA0 .i32 c 31)=c%32
   rw[Utf.c31 hcy.1 hcy.2,wrap_i32 om om]
  ·show AR.wrap (JA0 .i32 c 15)=c%16
   rw[Utf.c15 hcy.1 hcy.2,wrap_i32 om om]
  ·show AR.wrap (JA0 .i32 c 7)=c%8
   rw[Utf.c7 hcy.1 hcy.2,wrap_i32 om om]
 have hr:0<=c%2^ (6-(nd c).1)/\(c%2^ (6-(nd c).1)+1)*64^ (nd c).1<=64000000:=by
  have:(nd c).1=1\/(nd c).1=2\/(nd c).1=3:=om;rcases this with h|h|h<;>rw[h]
  ·show 0<=c%32/\(c%32+1)*64<=64000000;omega
  ·show 0<=c%16/\(c%16+1)*4096<=64000000;omega
  ·show 0<=c%8/\(c%8+1)*262144<=64000000;omega
 have ht:b.drop (i+1)=b.drop (i+1):=rfl;obtain⟨z,hL,hz⟩:=Jea (lo:=lo) (b:=b) (h:=h) (i:=i) hn hb om hy (nd c).1 1 (c%2^ (6-(nd c).1)) (nd c).2.1 (nd c).2.2 om hr.1 hr.2;have n1:((1:Nat):Int)=1:=rfl
 have hg:decide (0<=Ba.wrap ((nd c).1:Int))=true:=by have:(nd c).1=1\/(nd c).1=2\/(nd c).1=3:=om;rcases this with h|h|h<;>rw[h]<;>rfl
 have hg':0<=Ba.wrap ((nd c).1:Int):=of_decide_eq_true hg;have hw1:Am.wrap (((nd c).1:Int)+1)=(((nd c).1+1:Nat):Int):=JM om;simp only[yx,b85,Tryz.f85,JK,loops,JC,go_sem,n1]at hL;rw[e85];unfold JVP at hz
 split at hz
 ·rename_i hk
  obtain⟨low,high,rfl⟩:=hz;simp only[go_sem,b85,Tryz.f85,hx,t0,t1,f113 hcy.1 hcy.2,hm,hL,hg,hg',hw1];rw[three,JMM _ _ _ _ _ _ hk,hk,Nat.add_comm 1]
 ·rename_i hk
  subst hz;simp only[go_sem,b85,Tryz.f85,hx,t0,t1,f113 hcy.1 hcy.2,hm,hL,hg,hg',hw1];simp only[three,Bool.not_eq_true]at hk⊢;rw[hk]
end Go.Lift.Y1.P
end

section
open Go.Proofs
namespace Go.Lift.Y1.P.T
open Utf
theorem JYM{lo i:Nat}{b out:List Int}{h:JG}(hi:i<b.length)(hb:b.length<=1000000000)(ho:out.length<=1000000000)(hy:By b):
  evCode ⟨Aa,E,lo,h.length,h49⟩ JA JGu ([(0,.list .no (ri .u8 b)),(3,.list .yes (ri .i32 out)),(4,.v (.int .i64 i))],h)=
   some (.normal,[(0,.list .no (ri .u8 b)),(3,.list .yes (ri .i32 (out++[(one (b.drop i)).1]))),(4,.v (.int .i64 (i+(one (b.drop i)).2.1:Nat)))],h):=by
 have hd:decide ((i:Int)<b.length)=true:=by simpa using hi
 have hn:b.drop i≠[]:=by simp;omega
 have hk:=JOs hn;have hw:Am.wrap ((i:Int)+(one (b.drop i)).2.1)=((i+(one (b.drop i)).2.1:Nat):Int):=by rw[JW om om];omega
 have hr:∀k,k<=4->(out.length+k)*4<=140737488355328:=by intro k hk;omega
 have hq:∀k,9223372036854775800<=k->out.length<=k:=by intro k hk;omega
 have e1:ri .i32 (out++[(one (b.drop i)).1])=ri .i32 out++[[V.v (.int .i32 (one (b.drop i)).1)]]:=by rw[<-ri_app]<;>rfl
 simp only[go_sem,JGu,b49,Tryz.f49,hd,f85 hi om hy,three,hr,hq,hw,e1]
theorem Jeb{lo:Nat}{b:List Int}{h:JG}(hb:b.length<=1000000000)(hy:By b):∀(n i:Nat) (out:List Int),b.length-i<=n->i<=b.length->out.length<=i->
  JA (evCode ⟨Aa,E,lo,h.length,h49⟩ JA JGu) ([(0,.list .no (ri .u8 b)),(3,.list .yes (ri .i32 out)),(4,.v (.int .i64 i))],h)=
   some (.exit 0,[(0,.list .no (ri .u8 b)),(3,.list .yes (ri .i32 (out++raw (b.drop i)))),(4,.v (.int .i64 b.length)),(11,.v (.bool false))],h):=by
 have stop:∀(i:Nat) (out:List Int),i=b.length->JA (evCode ⟨Aa,E,lo,h.length,h49⟩ JA JGu) ([(0,.list .no (ri .u8 b)),(3,.list .yes (ri .i32 out)),(4,.v (.int .i64 i))],h)=
   some (.exit 0,[(0,.list .no (ri .u8 b)),(3,.list .yes (ri .i32 (out++raw (b.drop i)))),(4,.v (.int .i64 b.length)),(11,.v (.bool false))],h):=by
  intro i out hi;subst hi;have hd:decide ((b.length:Int)<b.length)=false:=by simp
  rw[JB];simp only[go_sem,JGu,b49,Tryz.f49,hd,A0,JOr]
 intro n
 induction n with
 |zero=>intro i out h1 h2 h3;exact stop i out om
 |succ n ih=>
  intro i out h1 h2 h3;by_cases hi:i<b.length
  ·have hn:b.drop i≠[]:=by simp;omega
   have hk:=JOs hn;rw[AB]at hk;rw[JB,JYM hi hb om hy,JO,ih _ _ om om (by rw[Ao,List.length_singleton];omega),JYu hn,Ax,List.drop_drop]
   rfl
  ·exact stop i out om
theorem f49{lo:Nat}{b:List Int}{h:JG}(hb:b.length<=1000000000)(hy:By b):E lo 49 [.list .no (ri .u8 b)] h=some (.list .no (ri .i32 (raw b)),h):=by
 rw[e49];have hL:=Jeb (lo:=lo) (h:=h) hb hy b.length 0 [] om om (by simp)
 simp only[JGu,b49,Tryz.f49,JK,loops,JC,go_sem,Z6,AD]at hL;simp only[go_sem,b49,Tryz.f49,hL]
theorem JH4(back:Bool)(x:Int):(Hq back x).length<=1:=by
 unfold Hq
 split<;>simp
theorem JYN{lo i:Nat}{l out:List Int}{h:JG}{x last:Int}(hx:l[i]? =some x)(hi:i<l.length)(hl:l.length<=1000000000)(ho:out.length<=1000000000):
  evCode ⟨Aa,E,lo,h.length,h20⟩ JA qA ([(3,.list .yes (ri .i32 out)),(4,.v (.int .i32 last)),(32,.list .no (ri .i32 l)),(33,.v (.int .i64 l.length)),(34,.v (.int .i64 i))],h)=
   some (.normal,[(3,.list .yes (ri .i32 (out++Hq (last==13) x))),(4,.v (.int .i32 x)),(32,.list .no (ri .i32 l)),(33,.v (.int .i64 l.length)),(34,.v (.int .i64 (i+1:Nat)))],h):=by
 have hd:decide ((i:Int)<l.length)=true:=by simpa using hi
 have hr:∀k,k<=4->(out.length+k)*4<=140737488355328:=by intro k hk;omega
 have hq:∀k,9223372036854775800<=k->out.length<=k:=by intro k hk;omega
 have hw:=JM (i:=i) om;have app:∀y:Int,ri .i32 (out++[y])=ri .i32 out++[[V.v (.int .i32 y)]]:=by intro y;rw[<-ri_app]<;>rfl
 by_cases h10:x=10
 ·subst h10
  have e13:((10:Int)==13)=false:=rfl;have e12:((10:Int)==12)=false:=rfl;have e0:((10:Int)==0)=false:=rfl;have n10:((10:Int) !=10)=false:=rfl
  cases hb:last==13 with
  |true=>
   have nl:(last !=13)=false:=by simp[bne,hb]
   have ed:Hq true 10=[]:=rfl
   simp only[go_sem,qA,b20,Tryz.f20,hd,hx,hr,hq,hw,ed,e13,e12,e0,n10,nl,List.append_nil]
  |false=>
   have nl:(last !=13)=true:=by simp[bne,hb]
   have ed:Hq false 10=[10]:=rfl;simp only[go_sem,qA,b20,Tryz.f20,hd,hx,hr,hq,hw,ed,e13,e12,e0,n10,nl,app]
 have n10:(x !=10)=true:=by simp[h10]
 have e10:(x==10)=false:=by simp[h10]
 by_cases h13:x=13
 ·subst h13
  have e13:((13:Int)==13)=true:=rfl;have ed:Hq (last==13) 13=[10]:=rfl;simp only[go_sem,qA,b20,Tryz.f20,hd,hx,hr,hq,hw,ed,e13,n10,app]
 have e13:(x==13)=false:=by simp[h13]
 by_cases h12:x=12
 ·subst h12
  have e12:((12:Int)==12)=true:=rfl;have ed:Hq (last==13) 12=[10]:=rfl;simp only[go_sem,qA,b20,Tryz.f20,hd,hx,hr,hq,hw,ed,e13,n10,e12,app]
 have e12:(x==12)=false:=by simp[h12]
 by_cases h0:x=0
 ·subst h0
  have e0:((0:Int)==0)=true:=rfl;have ed:Hq (last==13) 0=[65533]:=rfl;simp only[go_sem,qA,b20,Tryz.f20,hd,hx,hr,hq,hw,ed,e13,n10,e12,e0,app]
 have e0:(x==0)=false:=by simp[h0]
 have ed:Hq (last==13) x=[x]:=by simp[Hq,e10,e13,e12,e0]
 simp only[go_sem,qA,b20,Tryz.f20,hd,hx,hr,hq,hw,ed,e13,n10,e12,e0,app]
theorem Jec{lo:Nat}{l:List Int}{h:JG}(hl:l.length<=1000000000):∀(n i:Nat) (out:List Int) (last:Int),n=l.length-i->i<=l.length->out.length<=i->
  ∃last':Int,JA (evCode ⟨Aa,E,lo,h.length,h20⟩ JA qA) ([(3,.list .yes (ri .i32 out)),(4,.v (.int .i32 last)),(32,.list .no (ri .i32 l)),(33,.v (.int .i64 l.length)),(34,.v (.int .i64 i))],h)=
   some (.exit 0,[(3,.list .yes (ri .i32 (out++dec (last==13) (l.drop i)))),(4,.v (.int .i32 last')),(32,.list .no (ri .i32 l)),(33,.v (.int .i64 l.length)),(34,.v (.int .i64 l.length)),(35,.v (.bool false))],h):=by
 intro n
 induction n with
 |zero=>
  intro i out last hn hi ho;obtain rfl:i=l.length:=om;rw[JB];have hd:decide ((l.length:Int)<l.length)=false:=by simp
  refine⟨last,?_⟩
  simp only[go_sem,qA,b20,Tryz.f20,hd,A0,dec]
 |succ n ih=>
  intro i out last hn hi ho;have hlt:i<l.length:=om;have hx:l[i]? =some l[i]:=Ac hlt
  have he:=JH4 (last==13) l[i];obtain⟨b',hb⟩:=ih (i+1) (out++Hq (last==13) l[i]) l[i] om om (by rw[Ao];omega)
  refine⟨b',?_⟩
  rw[JB,JYN hx hlt hl om,JO,hb,Av hlt,dec,Ax]
theorem JMN(b:List Int):(raw b).length<=b.length:=(JQq b).1
theorem JH5(b:List Int):(W5 b).length<=b.length:=by
 unfold W5
 split
 ·rw[AB];omega
 ·omega
theorem f20{lo:Nat}{b:List Int}{h:JG}(hb:b.length<=1000000000)(hy:By b):E lo 20 [.list .no (ri .u8 b)] h=some (.list .no (ri .i32 (Utf.decode b)),h):=by
 rw[e20];have hr:=JMN (W5 b);have hs:=JH5 b;have hf:=λlo h=>f49 (lo:=lo) (h:=h) (b:=W5 b) om (JT0 hy)
 obtain⟨q,hL⟩:=Jec (lo:=lo) (h:=h) (l:=raw (W5 b)) om _ 0 [] 0 rfl om (by simp)
 have z:((0:Int)==13)=false:=rfl;simp only[qA,b20,Tryz.f20,JK,loops,JC,go_sem,Z6,AD,z]at hL;rw[Utf.decode];by_cases h3:3<=b.length
 ·have t3:decide ((3:Int)<=b.length)=true:=by simp;omega
  obtain⟨a1,a2,a3,t,he⟩:∃a1 a2 a3 t,b=a1::a2::a3::t:=by
   match b,h3 with
   |a1::a2::a3::t,_=>exact⟨_,_,_,_,rfl⟩
  have x1:b[0]? =some a1:=by rw[he]<;>rfl
  have x2:b[1]? =some a2:=by rw[he]<;>rfl
  have x3:b[2]? =some a3:=by rw[he]<;>rfl
  have hv:bom b=(a1==239&&(a2==187&&a3==191)):=by rw[he];simp[bom]
  cases hm:bom b with
  |true=>
   have hd:W5 b=b.drop 3:=by rw[W5,if_pos hm]
   rw[hv]at hm;simp only[Af]at hm;rw[hd]at hf hL⊢
   simp only[go_sem,b20,Tryz.f20,t3,x1,x2,x3,hm.1,hm.2.1,hm.2.2,JWa,JWb,h3,Ad,and_self,hf,hL]
  |false=>
   have hd:W5 b=b:=by rw[W5,if_neg (by simp[hm])]
   rw[hv]at hm;rw[hd]at hf hL⊢
   cases g1:a1==239 with
   |false=>simp only[go_sem,b20,Tryz.f20,t3,x1,x2,x3,g1,hf,hL]
   |true=>
    cases g2:a2==187 with
    |false=>simp only[go_sem,b20,Tryz.f20,t3,x1,x2,x3,g1,g2,hf,hL]
    |true=>
     cases g3:a3==191 with
     |false=>simp only[go_sem,b20,Tryz.f20,t3,x1,x2,x3,g1,g2,g3,hf,hL]
     |true=>simp[g1,g2,g3]at hm
 ·have t3:decide ((3:Int)<=b.length)=false:=by simp;omega
  have hm:bom b=false:=by
   match b,h3 with
   |[],_=>rfl
   |[_],_=>simp[bom]
   |[_,_],_=>simp[bom]
   |_::_::_::_,h3=>simp at h3
  have hd:W5 b=b:=by rw[W5,if_neg (by simp[hm])]
  rw[hd]at hf hL⊢;simp only[go_sem,b20,Tryz.f20,t3,hf,hL]
end Go.Lift.Y1.P.T
end
