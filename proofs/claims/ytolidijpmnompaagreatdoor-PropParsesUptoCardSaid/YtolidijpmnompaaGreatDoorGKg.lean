/- jalousieref14.Parse tells what prop.Parse tells. -/
import Derived.ProofKit
import Derived.Shelf.Strings.Fields
import Derived.Test.YtolidijpmnompaaGreatDoorProg
import Derived.WalkKit
import Derived.Laws.Externs
import Derived.MapKept
import Derived.Deep.MidRow
import Derived.Lib.LaidTab
import Derived.Lib.LaidU8
import Derived.Lib.LaidIn
import Derived.Deep.DeepHandedRow
import Derived.Deep.DeepWitnessRowRef
import Derived.Test.YtolidijpmnompaaGreatDoorRows
import Derived.JoinedOf
import Derived.Test.YtolidijpmnompaaGreatDoorGLc
import Derived.Test.YtolidijpmnompaaGreatDoorGK3Basea
import Derived.Test.YtolidijpmnompaaGreatDoorGKc
import Derived.Test.YtolidijpmnompaaGreatDoorGKf
import Derived.Test.YtolidijpmnompaaGreatDoorK3Div0
import Derived.Test.YtolidijpmnompaaGreatDoorK3Div1
import Derived.Test.YtolidijpmnompaaGreatDoorK3Div2
import Derived.Test.YtolidijpmnompaaGreatDoorK3Div3
open Go.IntKind renaming u64->Bm
open Go.Proofs.Tryz renaming prog->Aa
open Go.Value renaming int->Bb,string->BX
open List renaming all_eq_true->Aj,any_eq_true->C4,getElem?_eq_getElem->Ac,getElem?_map->Am,length_map->Ao,map_map->B3,mem_cons->A1,mem_cons_self->Be,mem_map->AC,mem_of_getElem? ->Ah,mem_reverse->B5,not_mem_nil->BK,range->A4
open Nat renaming le_refl->Ag
set_option linter.unusedVariables false
set_option linter.unusedSimpArgs false
set_option linter.unusedSectionVars false
set_option maxRecDepth 100000
set_option maxHeartbeats 4000000
section
open Go.Proofs
namespace Go.Lift.Y1
open Rul
open Utf (By)
variable{lo:Nat}{h:JM}
theorem JAj(n:Nat):∀l:List CV,Ky n l=l.all (JDO n)
 |[]=>by rw[JAQ]<;>rfl
 |v::r=>by rw[qY,JAj n r]<;>rfl
theorem JM6{n:Nat}{l:List CV}(h:Ky n l=true):Ky n (Je l)=true:=by rw[JAj,Aj]at h⊢;exact λv hv=>h v (J9 hv)
theorem JPp{l:List CV}{v:CV}(hv:v∈l)(hs:JS v=false):v∈Je l:=by
 have drop_has:∀{l:List CV},v∈l->v∈l.dropWhile JS:=by
  intro l
  induction l with
  |nil=>intro h;cases h
  |cons x r ih=>
   intro h;rw[List.dropWhile_cons]
   split
   ·rename_i hx
    rcases A1.1 h with rfl|h
    ·rw[hs]at hx;cases hx
    ·exact ih h
   ·exact h
 unfold Je;rw[B5];exact drop_has (B5.2 (drop_has hv))
theorem JAk:∀l:List CV,QY l=l.any JA3
 |[]=>by rw[QY]<;>rfl
 |v::r=>by rw[QY,JAk r]<;>rfl
theorem JM7{l:List CV}(hm:Ky 64 l=true):QY (Je l)=QY l:=by
 rw[Bool.eq_iff_iff,JAk,JAk,C4,C4]
 constructor
 ·rintro⟨v,hv,h⟩
  exact⟨v,J9 hv,h⟩
 ·rintro⟨v,hv,h⟩
  refine⟨v,JPp hv ?_,h⟩
  cases hs:JS v with
  |false=>rfl
  |true=>
   exfalso;rw[JAj,Aj]at hm;have hmv:=hm v hv;obtain⟨t,kids⟩:=v
   have hk:t.k=13:=by have:(t.k==13)=true:=hs;simpa using this
   rw[JDa,hk]at hmv;have hc:Jj 13=0:=by decide
   rw[hc,if_pos rfl,Bool.and_eq_true]at hmv;have hn:kids=[]:=List.isEmpty_iff.1 hmv.2;rw[JA3,hn,QY]at h;unfold jU at h;rw[hk]at h;cases h
theorem JJs{n:Nat}{L:List CV}(hz:Z1 L=true)(hm:Ky 64 L=true):(Jk n L).2=0:=by
 match L,hz with
 |[.mk t kids],hz=>
  unfold Z1 at hz;simp only[Bool.and_eq_true]at hz
  have ht:Je [CV.mk t kids]=[.mk t kids]:=by
   have hs:JS (.mk t kids)=false:=by
    show(t.k==13)=false
    have:t.k=10:=by simpa using hz.1
    rw[this]<;>rfl
   have:=GU (sp:=[]) (x:=[]) rfl hs;rw[List.nil_append]at this;exact this
  rw[JCq hm ht,qX hz.1]<;>rfl
theorem JCs{k:Int}{low:Bool}{n:Nat}{L:List CV}(hk3:(k==3)=false)(hz:(k==1&&Z1 L)=false):JAi low (Jk n L).2 (if(k==1)=true then 2 else 1) (Jk n L).1=Wa k low n L:=by
 have hR:Wa k low n L=(if((Jk n L).2 !=0)=true then none
   else if((G7 (Jk n L).1).1 !=(if(k==1)=true then 2 else 1))=true then none
   else if(!low&&((Jk n L).1.k==1&&decide (JHC (Jk n L).1<0)))=true then none
   else some (Jk n L).1):=by
  unfold Wa;rw[hk3,if_neg (by simp),hz,if_neg (by simp)]
 rw[hR];unfold JAi;generalize Jk n L=r;obtain⟨e,er⟩:=r;simp only;by_cases z:(er !=0)=true
 ·rw[if_pos z,if_pos z]
 rw[if_neg z,if_neg z]
 have hq:((G7 e).1 !=(if(k==1)=true then 2 else 1))=(!W5 e 1||(K2 e !=(if(k==1)=true then 2 else 1))):=by unfold G7;rcases kR e with q|q|q<;>rw[q]<;>cases W5 e 1<;>cases k==1<;>rfl
 rw[hq]
 cases W5 e 1 with
 |false=>rfl
 |true=>rfl
theorem JJt(low:Bool):JAi low 0 2 (.mk 1 0 1 1 [])=some (.mk 1 0 1 1 []):=by
 have h1:W5 (.mk 1 0 1 1 []) 1=true:=by
  rw[JDb]
  decide
 have h2:K2 (.mk 1 0 1 1 [])=2:=by
  rw[kT]
  decide
 unfold JAi;rw[h1,h2];cases low<;>rfl
section
variable{nm:ByteArray}{k:Int}{dn low kn:Bool}{ws:List ByteArray}{ck a b:Int}{w:ByteArray}{l:List CV}{n:Nat}{name:List Int}{at':Int}
theorem JSq{cs vc:List V}{er:Int}{e:X}{ow:Own}{r:List V}(hc:∃nm k dn low ws ck a b w,cs=JG nm k dn low ws ck a b w)(hv:vc=vZ/\r=ZL 0 Jq ⟨#[]⟩ []\/ ∃x,vc=JDf 1 x/\r=ZL 1 x ⟨#[]⟩ [])(how:ow= .no\/ow= .yes):
  fin Aa [.cell 4 41,.tmp 5] h.length (R10 h cs vc ow e er)=some (.tup [.agg r,.v (.int .i64 er)],h):=by
 obtain⟨nm,k,dn,low,ws,ck,a,b,w,rfl⟩:=hc;obtain⟨ek,en,ed,eu,el⟩:=e;rcases hv with⟨rfl,rfl⟩|⟨⟨xk,xn,xd,xu,xl⟩,rfl,rfl⟩
 ·unfold Jq
  rcases how with rfl|rfl<;>simp only[R10,eC,JG,QP,JW,vZ,go_sem]<;>rfl
 ·rcases how with rfl|rfl<;>simp only[R10,eC,JG,QP,GQ,vZ,go_sem]<;>rfl
theorem Jk3{L:List CV}(hlo:lo<=h.length)(hn:JL L<=n)(hl:JL L<=2000000)(ho:Kq L)(hk3:(k==3)=false)(hm:Ky 64 L=true):
  ∃vc ow e er,(ow=Own.no\/ow=Own.yes)/\((Wa k low n L=none/\vc=vZ/\er=3)\/ ∃x,Wa k low n L=some x/\vc=JDf 1 x/\er=0)/\
   JBm (WH lo h) JA WJ 22 (some (.normal,K10 h L,WL h (JG nm k dn low ws ck a b w)))=R10 h (JG nm k dn low ws ck a b w) vc ow e er:=by
 have hf:=Jk1 (nm:=nm) (k:=k) (dn:=dn) (low:=low) (ws:=ws) (ck:=ck) (a:=a) (b:=b) (w:=w) (lo:=lo) (h:=h) hlo hn hl ho;have hx:Ws (Jk n L).1:=qh hl ho
 have out:∀(x:Option X) (ow:Own) (e:X) (g:Jr) (er want:Int),(ow=Own.no\/ow=Own.yes)->Kn h L er want g->Ws e->JAi low er want e=x->Wa k low n L=x->
   ∃vc ow' e' er',(ow'=Own.no\/ow'=Own.yes)/\((Wa k low n L=none/\vc=vZ/\er'=3)\/ ∃x,Wa k low n L=some x/\vc=JDf 1 x/\er'=0)/\
   JBm (WH lo h) JA WJ 26 (some (.normal,g,qo h (JG nm k dn low ws ck a b w) ow e))=R10 h (JG nm k dn low ws ck a b w) vc ow' e' er':=by
  intro x ow e g er want how hg hxe ht hnp;have hh:=Jk2 (nm:=nm) (k:=k) (dn:=dn) (low:=low) (ws:=ws) (ck:=ck) (a:=a) (b:=b) (w:=w) (L:=L) (e:=e) how hlo hg hxe;rw[ht]at hh;rw[W0 _ _ _ _ _ 4,hh]
  cases x with
  |none=>exact⟨vZ,ow,e,3,how,.inl ⟨hnp,rfl,rfl⟩,by simp only[R10];rw[Zs]⟩
  |some x=>exact⟨JDf 1 x,ow,e,0,how,.inr ⟨x,hnp,rfl,rfl⟩,by simp only[R10];rw[Zs]⟩
 rw[W0 _ _ _ _ _ 3,hf]
 cases hk:k==1 with
 |false=>
  obtain⟨g,hg,he⟩:=Jdl (nm:=nm) (k:=k) (dn:=dn) (low:=low) (ws:=ws) (ck:=ck) (a:=a) (b:=b) (w:=w) (L:=L) (er:=(Jk n L).2) (e:=(Jk n L).1) hlo hk;rw[hk]at he;rw[W0 _ _ _ _ _ 1,he];have ht:=JCs (k:=k) (low:=low) (n:=n) (L:=L) hk3 (by rw[hk]<;>rfl)
  rw[hk,if_neg (by simp)]at ht
  have:=out _ .no _ g _ _ (.inl rfl) hg hx ht rfl;rw[qo,JSp]at this
  exact this
 |true=>
  cases hz:Z1 L with
  |false=>
   obtain⟨g,hg,he⟩:=Jdn (nm:=nm) (k:=k) (dn:=dn) (low:=low) (ws:=ws) (ck:=ck) (a:=a) (b:=b) (w:=w) (L:=L) (er:=(Jk n L).2) (e:=(Jk n L).1) hlo hk hz;rw[hk]at he;rw[W0 _ _ _ _ _ 1,he];have ht:=JCs (k:=k) (low:=low) (n:=n) (L:=L) hk3 (by rw[hk,hz]<;>rfl)
   rw[hk,if_pos rfl]at ht;have:=out _ .no _ g _ _ (.inl rfl) hg hx ht rfl;rw[qo,JSp]at this
   exact this
  |true=>
   obtain⟨g,hg,he⟩:=Jdo (nm:=nm) (k:=k) (dn:=dn) (low:=low) (ws:=ws) (ck:=ck) (a:=a) (b:=b) (w:=w) (L:=L) (er:=(Jk n L).2) (e:=(Jk n L).1) hlo hk hz;rw[hk]at he;rw[W0 _ _ _ _ _ 1,he]
   have hnp:Wa k low n L=some (.mk 1 0 1 1 []):=by unfold Wa;rw[hk3,hk,hz,if_neg (by simp),if_pos (show(true&&true)=true from rfl)]
   rw[JJs hz hm]at hg;exact out _ .yes _ g _ _ (.inr rfl) hg (by rw[Ws,Qc];simp) (JJt low) hnp
theorem f10(hlo:lo<=h.length)(hy:By name)(hnl:name.length<=1000000000)(hn:JL l<=n)(hl:JL l<=2000000)(ho:Kq l)(hws:ws.length<=1000000000)
  (c31:∀lo h,lo<=h.length->E lo 31 [.v (.string (Rul.bs name))] h=some (.tup [.agg (JG nm k dn low ws ck a b w),.v (.int .i64 at')],h))(hat:decide (at'<0)= !kn)(hkc:kn=true->Kw name=false):
  E lo 10 [.v (.string (Rul.bs name)),.list .no (JH l)] h=some (.tup [.agg (GR kn k low ws name n l).1,.v (.int .i64 (GR kn k low ws name n l).2)],h):=by
 have htn:=KX l;have hot:Kq (Je l):=Hn λv hv=>KU ho v (J9 hv)
 have ha:=Jkp (kn:=kn) (lo:=lo) (h:=h) hlo hy hnl hl ho c31 hat;obtain⟨q,hb⟩:=Jkq (lo:=lo) (h:=h) (nm:=nm) (k:=k) (dn:=dn) (low:=low) (ws:=ws) (ck:=ck) (a:=a) (b:=b) (w:=w) (cu:=Kw name) (sm:=QY l) hlo hl ho rfl;have hc:=Jkr (lo:=lo) (h:=h) (nm:=nm) (k:=k) (dn:=dn) (low:=low) (ws:=ws) (ck:=ck) (a:=a) (b:=b) (w:=w) (L:=Je l) (q:=q) (cu:=Kw name) (sm:=QY l) (wd:=QL (Je l)) hlo om hot (JDi (KU hot))
 have hd:=Jkz (lo:=lo) (h:=h) (nm:=nm) (k:=k) (dn:=dn) (low:=low) (ws:=ws) (ck:=ck) (a:=a) (b:=b) (w:=w) (L:=Je l) (wd:=QL (Je l)) hlo hws (JDi (KU hot));have he:=Jk0 (lo:=lo) (h:=h) (nm:=nm) (k:=k) (dn:=dn) (low:=low) (ws:=ws) (ck:=ck) (a:=a) (b:=b) (w:=w) (L:=Je l) (wd:=QL (Je l)) hlo;have cs:∃nm' k' dn' low' ws' ck' a' b' w',JG nm k dn low ws ck a b w=JG nm' k' dn' low' ws' ck' a' b' w':=⟨_,_,_,_,_,_,_,_,_,rfl⟩
 unfold GR;rw[e10,JOl,W0 _ _ _ _ 0 10,ha];by_cases c1:(!kn&& !Kw name)=true
 ·rw[if_pos c1,if_pos c1,Qe,Zs];exact ZY cs (.inl ⟨rfl,rfl⟩)
 rw[if_neg c1,if_neg c1]
 cases hmy:Ky 64 l with
 |false=>rw[if_pos (by simp),if_pos (by simp),Qe,Zs];exact ZY cs (.inl ⟨rfl,rfl⟩)
 |true=>
 rw[if_neg (show¬(!true)=true by simp),if_neg (show¬(!true)=true by simp),qg,Bool.not_not]
 by_cases c3:(ZJ l true||Qm l)=true
 ·rw[if_pos c3,if_pos c3,Qe,Zs];exact ZY cs (.inl ⟨rfl,rfl⟩)
 rw[if_neg c3,if_neg c3,W0 _ _ _ _ _ 4,hb,W0 _ _ _ _ _ 4,hc];by_cases c4:JAW (QL (Je l))=true
 ·rw[if_pos c4,if_pos c4,Qe,Zs];exact ZY cs (.inr (.inl ⟨_,_,rfl,rfl⟩))
 rw[if_neg c4,if_neg c4]
 have hvt:(Kw name||QY l)=(!kn||QY (Je l)):=by
  rw[JM7 hmy]
  cases hkn:kn with
  |true=>rw[hkc hkn]<;>rfl
  |false=>
   rw[hkn]at c1;have:Kw name=true:=by simpa using c1
   rw[this]<;>rfl
 rw[hvt];by_cases c5:(!kn||QY (Je l))=true
 ·rw[if_pos c5,if_pos c5,Qe,Zs];exact ZY cs (.inr (.inr (.inl ⟨_,rfl,rfl⟩)))
 rw[if_neg c5,if_neg c5,W0 _ _ _ _ _ 2,hd];by_cases c6:(!(QL (Je l)==[])&&W4 ws (Rul.bs (QL (Je l))))=true
 ·rw[if_pos c6,if_pos c6,Qe,Zs];exact ZY cs (.inr (.inl ⟨_,_,rfl,rfl⟩))
 rw[if_neg c6,if_neg c6,W0 _ _ _ _ _ 2,he]
 cases hk3:k==3 with
 |true=>
  have hnp:Wa k low n (Je l)=none:=by unfold Wa;rw[hk3,if_pos rfl]
  rw[if_pos rfl,Qe,Zs,hnp]
  exact ZY cs (.inl ⟨rfl,rfl⟩)
 |false=>
  rw[if_neg (by simp)]
  obtain⟨vc,ow,e,er,how,hv,hz⟩:=Jk3 (nm:=nm) (k:=k) (dn:=dn) (low:=low) (ws:=ws) (ck:=ck) (a:=a) (b:=b) (w:=w) (L:=Je l) (n:=n) (lo:=lo) (h:=h) hlo om om hot hk3 (JM6 hmy);rw[hz];rcases hv with⟨h1,rfl,rfl⟩|⟨x,h1,rfl,rfl⟩
  ·rw[h1]
   exact JSq cs (.inl ⟨rfl,rfl⟩) how
  ·rw[h1]
   exact JSq cs (.inr ⟨x,rfl,rfl⟩) how
end
theorem Jk4:jA Aa 53=some [1,2,1,1,0,0]:=kr
theorem JPq(t:Tk4):eqCells [1,2,1,1,0,0] [.v (.int .i64 t.k),.v (.string (Rul.bs t.b)),.v (.int .i64 t.n),.v (.int .i64 t.d),.v (.bool t.w),.v (.bool t.i)] [.v (.int .i64 t.k),.v (.string (Rul.bs t.b)),.v (.int .i64 t.n),.v (.int .i64 t.d),.v (.bool t.w),.v (.bool t.i)]=some true:=by
 simp[eqCells,eqS]
abbrev JDs(l:List Tk4)(i:Int):Jr:=[(0,.list .no (l.map row)),(1,.list .no (l.map row)),(12,.v (.int .i64 l.length)),(13,.v (.int .i64 i))]
theorem Jk5{l:List Tk4}{i:Nat}(hlo:lo<=h.length)(hl:l.length<=1000000000)(hlt:i<l.length):
  evCode ⟨Aa,E,lo,h.length,h44⟩ JA JBq (JDs l i,h)=some (.normal,JDs l (i+1:Nat),h):=by
 have hgr:(l.map row)[i]? =some (row l[i]):=by rw[Am,Ac hlt]<;>rfl
 have q1:decide ((i:Int)<(l.length:Int))=true:=by rw[decide_eq_true_iff];omega
 have t1:Int.toNat (i:Int)=i:=om;have hwr:=Jd (i:=i) om;have e:=JPq l[i];have rr:∀t:Tk4,row t=[.v (.int .i64 t.k),.v (.string (Rul.bs t.b)),.v (.int .i64 t.n),.v (.int .i64 t.d),.v (.bool t.w),.v (.bool t.i)]:=λt=>rfl
 rw[rr]at hgr;generalize l[i]=t at hgr e;simp only[JDs];generalize l.map row=R at hgr⊢;simp only[go_sem,JBq,b44,Tryz.f44,hlo,hgr,q1,t1,hwr,Jk4,e,Bool.not_true]<;>rfl
theorem Jk6{l:List Tk4}(hlo:lo<=h.length):
  evCode ⟨Aa,E,lo,h.length,h44⟩ JA JBq (JDs l (l.length:Nat),h)=some (.exit 0,JDs l (l.length:Nat)++[(14,.v (.bool false))],h):=by
 have q1:decide ((l.length:Int)<(l.length:Int))=false:=by rw[decide_eq_false_iff_not];omega
 simp only[JDs,go_sem,JBq,b44,Tryz.f44,hlo,q1]<;>rfl
theorem JK2{l:List Tk4}(hlo:lo<=h.length)(hl:l.length<=1000000000):∀m i:Nat,i+m=l.length->
  JA (evCode ⟨Aa,E,lo,h.length,h44⟩ JA JBq) (JDs l i,h)=some (.exit 0,JDs l (l.length:Nat)++[(14,.v (.bool false))],h)
 |0,i,hm=>by
  obtain rfl:i=l.length:=om
  rw[JJ,Jk6 hlo,Jx]
 |m+1,i,hm=>by rw[JJ,Jk5 hlo hl om,Jg];exact JK2 hlo hl m (i+1) om
theorem Jk7{l:List Tk4}(hlo:lo<=h.length)(hl:l.length<=1000000000):E lo 44 [.list .no (l.map row),.list .no (l.map row)] h=some (.v (.bool true),h):=by
 have z4:((l.length:Int) !=(l.length:Int))=false:=by simp
 have hL:=JK2 (lo:=lo) (h:=h) hlo hl l.length 0 om;have ml:(l.map row).length=l.length:=Ao ..;rw[e44];simp only[JDs]at hL;generalize l.map row=R at hL ml⊢;simp only[JBq,b44,Tryz.f44,JK,loops,JB,show((0:Nat):Int)=0 from rfl,go_sem]at hL
 simp only[go_sem,b44,Tryz.f44,hlo,z4,ml,hL]<;>rfl
theorem Jk8{kd:Int}{x:X}{word:ByteArray}{l:List Tk4}(hlo:lo<=h.length)(hx:Ws x)(hl:l.length<=1000000000):E lo 11 [.agg (ZL kd x word (l.map row)),.agg (ZL kd x word (l.map row))] h=some (.v (.bool true),h):=by
 have l1:lo<=h.length+1:=om;have l2:lo<=h.length+1+1:=om;have c43:=Jdh x hx;unfold P39 at c43;have c44:=λlo h hlo=>Jk7 (lo:=lo) (h:=h) (l:=l) hlo hl
 have z1:(kd==kd)=true:=by simp
 have z2:(word.toList==word.toList)=true:=by simp
 obtain⟨ek,en,ed,eu,el⟩:=x;generalize l.map row=R at c44⊢;simp only[JP,QP]at c43⊢;rw[e11];simp only[go_sem,b11,Tryz.f11,hlo,l1,l2,c43,c44,z1,z2]<;>rfl
theorem f5k(hlo:lo<=h.length):E lo 5 [] h=some (.v (.bool true),h):=by
 refine(JDK (p:=GC JOu) rfl).trans ?_
 unfold JOu GC;rw[if_pos kr]
theorem JPr:(tblP.all λp=> !(p.n.data.toList.head? ==some 45))=true:=kr
theorem JXa{s:ByteArray}:∀(l:List PR) (j i:Nat),atL s l j=some i->∃p,j<=i/\l[i-j]? =some p/\(s.toList==p.n.toList)=true:=by
 intro l
 induction l with
 |nil=>intro j i h;cases h
 |cons q r ih=>
  intro j i h;unfold atL at h
  split at h
  ·rename_i hq
   cases h;exact⟨q,Ag _,by simp,hq⟩
  ·obtain⟨p,h1,h2,h3⟩:=ih (j+1) i h
   refine⟨p,om,?_,h3⟩
   rw[show i-j=(i-(j+1))+1 by omega,List.getElem?_cons_succ]
   exact h2
theorem JM8(name:List Int)(hy:By name):∃(nm:ByteArray) (k:Int) (dn low:Bool) (ws:List ByteArray) (ck a b:Int) (w:ByteArray) (kn:Bool) (at':Int),(∀lo h,lo<=h.length->E lo 21 [.v (.string (Rul.bs name))] h=some (.tup [.agg (JG nm k dn low ws ck a b w),.v (.bool kn)],h))/\
  (∀lo h,lo<=h.length->E lo 31 [.v (.string (Rul.bs name))] h=some (.tup [.agg (JG nm k dn low ws ck a b w),.v (.int .i64 at')],h))/\decide (at'<0)= !kn/\ws.length<=1000000000/\(kn=true->Kw name=false):=by
 cases hq:atL (Rul.bs name) tblP 0 with
 |none=>
  refine⟨⟨#[]⟩,0,false,false,[],0,0,0,⟨#[]⟩,false,-1,λlo h hlo=>Jj9 hlo hq,λlo h hlo=>?_,rfl,by simp,λh=>by cases h⟩
  rcases f31 (lo:=lo) (h:=h) (s:=Rul.bs name) hlo with⟨i,p,h1,_⟩|⟨_,h2⟩
  ·rw[hq]at h1;cases h1
  ·rw[h2,JJm]
 |some i=>
  obtain⟨p,_,hp,hn⟩:=JXa tblP 0 i hq;rw[Nat.sub_zero]at hp;have hm:=Ah hp;obtain⟨nm,k,dn,low,ws,ck,a,b,w,e,hws⟩:=JJn hm;refine⟨nm,k,dn,low,ws,ck,a,b,w,true,i,λlo h hlo=>by rw[JkA hlo hq hp,e],λlo h hlo=>?_,?_,hws,λ_=>?_⟩
  ·rcases f31 (lo:=lo) (h:=h) (s:=Rul.bs name) hlo with⟨j,p',h1,h2,h3⟩|⟨h1,_⟩
   ·rw[hq]at h1
    cases h1;rw[hp]at h2;cases h2;rw[h3,e]
   ·rw[hq]at h1;cases h1
  ·show decide ((i:Int)<0)=false
   rw[decide_eq_false_iff_not];omega
  ·have hd:=Aj.1 JPr p hm
   rw[beq_iff_eq,JAK,ByteArray.toList_eq]at hn;rw[<-hn]at hd
   match name,hd with
   |[],_=>rfl
   |[_],_=>rfl
   |[_,_],_=>rfl
   |x::y::z::r,hd=>
    show(x==45&&y==45)=false
    cases hx:x==45 with
    |false=>rfl
    |true=>
     exfalso;have:x=45:=by simpa using hx
     subst this;simp[j4]at hd
theorem JJu{kn low:Bool}{k:Int}{ws:List ByteArray}{name:List Int}{n:Nat}{l:List CV}(hl:JL l<=2000000)(ho:Kq l):
  ∃(kd:Int) (x:X) (word:ByteArray) (toks:List Tk4),(GR kn k low ws name n l).1=ZL kd x word (toks.map row)/\Ws x/\toks.length<=1000000000:=by
 have htn:=KX l;have hot:Kq (Je l):=Hn λv hv=>KU ho v (J9 hv)
 have z:∀(kd:Int) (word:ByteArray),∃(kd':Int) (x:X) (word':ByteArray) (toks:List Tk4),ZL kd Jq word []=ZL kd' x word' (List.map row toks)/\Ws x/\toks.length<=1000000000:=λkd word=>⟨kd,Jq,word,[],rfl,Qd,by simp⟩
 unfold GR
 split
 ·exact z _ _
 split
 ·exact z _ _
 split
 ·exact z _ _
 split
 ·exact z _ _
 split
 ·exact⟨4,Jq,⟨#[]⟩,KT (Je l),rfl,Qd,by have:=Zt (Je l);omega⟩
 split
 ·exact z _ _
 ·cases hq:Wa k low n (Je l)with
  |none=>exact z _ _
  |some x=>
   refine⟨1,x,⟨#[]⟩,[],rfl,?_,by simp⟩
   unfold Wa at hq;have hx:=qh (n:=n) (l:=Je l) om hot;by_cases c1:(k==3)=true
   ·rw[if_pos c1]at hq;cases hq
   rw[if_neg c1]at hq;by_cases c2:(k==1&&Z1 (Je l))=true
   ·rw[if_pos c2]at hq
    cases hq;rw[Ws,Qc];simp
   rw[if_neg c2]at hq;by_cases c3:((Jk n (Je l)).2 !=0)=true
   ·rw[if_pos c3]at hq;cases hq
   rw[if_neg c3]at hq;by_cases c4:((G7 (Jk n (Je l)).1).1 !=(if(k==1)=true then 2 else 1))=true
   ·rw[if_pos c4]at hq;cases hq
   rw[if_neg c4]at hq;by_cases c5:(!low&&((Jk n (Je l)).1.k==1&&decide (JHC (Jk n (Je l)).1<0)))=true
   ·rw[if_pos c5]at hq;cases hq
   rw[if_neg c5]at hq;cases hq;exact hx
theorem f4{l:List CV}{name:List Int}(hlo:lo<=h.length)(hy:By name)(hnl:name.length<=1000000000)(hl:JL l<=2000000)(ho:Kq l):
  E lo 4 [.v (.string (Rul.bs name)),.list .no (JH l)] h=some (.v (.bool true),h):=by
 obtain⟨nm,k,dn,low,ws,ck,a,b,w,kn,at',c21,c31,hat,hws,hkc⟩:=JM8 name hy;have c9:=λlo h hlo=>f9 (lo:=lo) (h:=h) (n:=JL l) hlo hy hnl (Ag _) hl ho hws c21
 have c10:=λlo h hlo=>f10 (lo:=lo) (h:=h) (n:=JL l) hlo hy hnl (Ag _) hl ho hws c31 hat hkc
 obtain⟨kd,x,word,toks,e,hx,htk⟩:=JJu (kn:=kn) (low:=low) (k:=k) (ws:=ws) (name:=name) (n:=JL l) hl ho;generalize GR kn k low ws name (JL l) l=r at c9 c10 e;obtain⟨r1,er⟩:=r;simp only at e;subst e;have l1:lo<=h.length+1:=om;have l2:lo<=h.length+1+1:=om;have c11:=λlo h hlo=>Jk8 (lo:=lo) (h:=h) (kd:=kd) (x:=x) (word:=word) (l:=toks) hlo hx htk
 have c5:=λlo h hlo=>f5k (lo:=lo) (h:=h) hlo
 have c12:∀lo h,lo<=h.length->E lo 12 [.v (.string (Rul.bs name)),.list .no (JH l)] h=some (.v (.bool (er==0)),h):=λlo h hlo=>by have l1:lo<=h.length+1:=om;obtain⟨ek,en,ed,eu,el⟩:=x;simp only[QP]at c9;rw[e12];simp only[go_sem,b12,Tryz.f12,hlo,l1,c9]<;>rfl
 have q1:(er==er)=true:=by simp
 have q2:((er==0)==(er==0))=true:=by simp
 obtain⟨ek,en,ed,eu,el⟩:=x;generalize toks.map row=R at c9 c10 c11;simp only[QP]at c9 c10 c11;rw[e4];simp only[go_sem,b4,Tryz.f4,hlo,l1,l2,c9,c10,c11,c12,c5,q1,q2]<;>rfl
end Go.Lift.Y1
end

section
open Go.Proofs
namespace Go.Lift.Y1
theorem tw0:evFun Aa hints primz0 200 0 128 [wd 0 0] []=some (wd 0 0,[]):=kr
theorem tw1:evFun Aa hints primz0 200 0 128 [wd 0 1] []=some (wd 0 2,[]):=kr
theorem tw2:evFun Aa hints primz0 200 0 128 [wd 0 2] []=some (wd 0 4,[]):=kr
theorem tw3:evFun Aa hints primz0 200 0 128 [wd 0 3] []=some (wd 0 6,[]):=kr
theorem ls0:evFun Aa hints primz0 200 0 126 [wd 0 0,wd 0 1] []=some (.v (.bool true),[]):=kr
theorem ls1:evFun Aa hints primz0 200 0 126 [wd 0 1,wd 0 1] []=some (.v (.bool false),[]):=kr
theorem gc0:evFun Aa hints primz0 200 0 104 [wd 0 6,wd 0 5] []=some (wd 0 1,[]):=kr
theorem gc1:evFun Aa hints primz0 200 0 104 [wd 0 1,wd 0 1] []=some (wd 0 1,[]):=kr
theorem gc2:evFun Aa hints primz0 200 0 104 [wd 0 0,wd 0 1] []=some (wd 0 1,[]):=kr
theorem q0:evFun Aa hints primB 200 0 45 [.v (.int .i64 6),.v (.int .i64 5)] []=some (rt 6 5,[]):=kr
theorem q1:evFun Aa hints primB 200 0 45 [.v (.int .i64 1),.v (.int .i64 1)] []=some (rt 1 1,[]):=kr
theorem q2:evFun Aa hints primB 200 0 45 [.v (.int .i64 0),.v (.int .i64 1)] []=some (rt 0 1,[]):=kr
theorem Jk9:evFun Aa hints primz0 200 0 5 [] []=some (.v (.bool true),[]):=kr
end Go.Lift.Y1
end

section
namespace Go.Proofs
open Go.Shelf
def Tryz.lays157_ren:Go.Shelf.Ren:=⟨λ|157=>52|229=>87|199=>88|261=>114|311=>134|312=>135|n=>n,λ|9=>9|31=>26|3=>3|5=>5|4=>4|119=>131|0=>0|40=>119|152=>150|21=>21|154=>152|51=>153|141=>155|196=>169|193=>166|198=>172|49=>170|194=>167|201=>175|226=>185|46=>149|227=>186|n=>n,λ|0=>1|6=>2|n=>n⟩
theorem Tryz.lays157:Go.Proofs.Lays.n157 Aa Tryz.lays157_ren:={
 mixed:=kr
 f157:=Tryz.func52.trans (congrArg some kr)
 f199:=Tryz.func88.trans (congrArg some kr)
 f229:=Tryz.func87.trans (congrArg some kr)
 f261:=Tryz.func114.trans (congrArg some kr)
 f311:=Tryz.func134.trans (congrArg some kr)
 f312:=Tryz.func135.trans (congrArg some kr)
 t0:=Tryz.underlying0
 a0:=Tryz.isAgg0
 z0:=Tryz.sizeOf0
 v0:=Tryz.zeroValue0
 t3:=Tryz.underlying3
 a3:=Tryz.isAgg3
 z3:=Tryz.sizeOf3
 v3:=Tryz.zeroValue3
 t4:=Tryz.underlying4
 a4:=Tryz.isAgg4
 z4:=Tryz.sizeOf4
 v4:=Tryz.zeroValue4
 t5:=Tryz.underlying5
 a5:=Tryz.isAgg5
 z5:=Tryz.sizeOf5
 v5:=Tryz.zeroValue5
 t9:=Tryz.underlying9
 a9:=Tryz.isAgg9
 z9:=Tryz.sizeOf9
 v9:=Tryz.zeroValue9
 t21:=Tryz.underlying21
 a21:=Tryz.isAgg21
 z21:=Tryz.sizeOf21
 v21:=Tryz.zeroValue21
 t31:=Tryz.underlying26
 a31:=Tryz.isAgg26
 z31:=Tryz.sizeOf26
 v31:=Tryz.zeroValue26
 t40:=Tryz.underlying119
 a40:=Tryz.isAgg119
 z40:=Tryz.sizeOf119
 v40:=Tryz.zeroValue119
 t46:=Tryz.underlying149
 a46:=Tryz.isAgg149
 z46:=Tryz.sizeOf149
 v46:=Tryz.zeroValue149
 t49:=Tryz.underlying170
 a49:=Tryz.isAgg170
 z49:=Tryz.sizeOf170
 v49:=Tryz.zeroValue170
 t51:=Tryz.underlying153
 a51:=Tryz.isAgg153
 z51:=Tryz.sizeOf153
 v51:=Tryz.zeroValue153
 t119:=Tryz.underlying131
 a119:=Tryz.isAgg131
 z119:=Tryz.sizeOf131
 t141:=Tryz.underlying155
 a141:=Tryz.isAgg155
 z141:=Tryz.sizeOf155
 v141:=Tryz.zeroValue155
 t152:=Tryz.underlying150
 a152:=Tryz.isAgg150
 z152:=Tryz.sizeOf150
 v152:=Tryz.zeroValue150
 t154:=Tryz.underlying152
 a154:=Tryz.isAgg152
 z154:=Tryz.sizeOf152
 v154:=Tryz.zeroValue152
 t193:=Tryz.underlying166
 a193:=Tryz.isAgg166
 z193:=Tryz.sizeOf166
 v193:=Tryz.zeroValue166
 t194:=Tryz.underlying167
 a194:=Tryz.isAgg167
 z194:=Tryz.sizeOf167
 v194:=Tryz.zeroValue167
 t196:=Tryz.underlying169
 a196:=Tryz.isAgg169
 z196:=Tryz.sizeOf169
 v196:=Tryz.zeroValue169
 t198:=Tryz.underlying172
 a198:=Tryz.isAgg172
 z198:=Tryz.sizeOf172
 v198:=Tryz.zeroValue172
 t201:=Tryz.underlying175
 a201:=Tryz.isAgg175
 z201:=Tryz.sizeOf175
 v201:=Tryz.zeroValue175
 t226:=Tryz.underlying185
 a226:=Tryz.isAgg185
 z226:=Tryz.sizeOf185
 v226:=Tryz.zeroValue185
 t227:=Tryz.underlying186
 a227:=Tryz.isAgg186
 z227:=Tryz.sizeOf186
 v227:=Tryz.zeroValue186
 g0:=kr
 g6:=by kernel_rfl}
end Go.Proofs
end

section
namespace Go.Lift.Y1
open Go.Proofs Go.RowKit
def JR1:Array Value→Sem Value:=λargs=>do
  let(x,y,b)←Extern.MathBitsCarry.three "Sub64" args
  pure (Extern.MathBitsCarry.pair ((x+Extern.MathBitsCarry.m64-y-b)%Extern.MathBitsCarry.m64) (if x<y+b then 1 else 0))
theorem JPs(x y:Nat)(w:World):(JR1 #[.int .u64 x,.int .u64 y,.int .u64 0]).run Aa w= .ok (.tuple #[.int .u64 (Int.ofNat ((x+2^64-y-0)%2^64)),.int .u64 (Int.ofNat (if x<y+0 then 1 else 0))]) w:=rfl
theorem JSr(x y:Nat)(h:y≤x)(hx:x<18446744073709551616):(Int.ofNat ((x+2^64-y-0)%2^64))=((x-y:Nat):Int)∧(Int.ofNat (if x<y+0 then 1 else 0))=0:=by
 refine⟨?_,?_⟩
 ·show(((x+2^64-y-0)%2^64:Nat):Int)=_
  congr 1
  omega
 ·rw[if_neg om]<;>rfl
theorem JR2(x y:Nat)(h:y≤x)(hx:x<18446744073709551616)(w:World):
  Calls Aa 127 #[.agg #[.int .u64 0,.int .u64 x],.agg #[.int .u64 0,.int .u64 y]] w λe w'=>e= .returned (.agg #[.int .u64 0,.int .u64 ((x-y:Nat):Int)])∧Below w.heap.size w w':=by
 have r1:=JPs x y;rw[(JSr x y h hx).1,(JSr x y h hx).2]at r1;have r2:∀w,(JR1 #[.int .u64 0,.int .u64 0,.int .u64 0]).run Aa w= .ok (.tuple #[.int .u64 0,.int .u64 0]) w:=λw=>rfl
 go_enter Tryz.func127,Tryz.ntmps127
 go_wp2
 rw[run_callFunc_extern Tryz.func139 kr kr kr (e:=JR1) kr,r1];simp only[Result.andThen];rw[Oper.upon_value]
 go_wp2
 rw[run_callFunc_extern Tryz.func139 kr kr kr (e:=JR1) kr,r2];simp only[Result.andThen];rw[Oper.upon_value]
 go_wp2
 generalize hW:(((w.alloc (Obj.cells #[Bb Bm 0,Bb Bm ↑x] 118)).alloc (Obj.cells #[Bb Bm 0,Bb Bm ↑y] 118)).alloc (Obj.cells #[Bb Bm 0,Bb Bm ↑(x-y)] 118))=W
 have hb:Below w.heap.size w W:=by
  subst hW;refine⟨rfl,rfl,rfl,?_,λk hk=>?_⟩
  ·show _≤(((w.heap.push _).push _).push _).size
   simp;omega
  ·show(((w.heap.push _).push _).push _)[k]? =_
   rw[Array.getElem?_push_lt (by simp;omega),Array.getElem_push_lt (by simp;omega),Array.getElem_push_lt hk]
   exact(Array.getElem?_eq_getElem hk).symm
 have hh:W.heap[w.heap.size+1+1]? =some (Obj.cells #[Bb Bm 0,Bb Bm ↑(x-y)] 118):=by
  subst hW
  have e:((w.alloc (Obj.cells #[Bb Bm 0,Bb Bm ↑x] 118)).alloc (Obj.cells #[Bb Bm 0,Bb Bm ↑y] 118)).heap.size=w.heap.size+1+1:=by
   show((w.heap.push _).push _).size=_
   simp
  rw[←e];exact(MapKept.heap_alloc _ _).1
 have hl:=run_loadVar_mid (P:=Aa) W (w.heap.size+1+1) 0 118 [.int .u64 0,.int .u64 ((x-y:Nat):Int)] _ (λj v hj=>by
  match j,hj with
  |0,hj=>cases hj;simp[World.cell?,hh]
  |1,hj=>cases hj;simp[World.cell?,hh]
  |j+2,hj=>simp at hj) Tryz.underlying118 rfl kr
 refine⟨rfl,.agg #[.int .u64 0,.int .u64 ((x-y:Nat):Int)],?_,rfl,hb⟩
 rw[zY,show Tryz.f127.results= #[.cell 4 118]from rfl]
 simp[JAw,asAddr,hl,Result.andThen]
theorem JR3{m:List Nat}{c:Cl}{w:World}{a:Value}{xs:Array Value}(h:R2 (VRr m c w) [.v a] xs.toList):xs= #[a]:=by
 obtain⟨l⟩:=xs
 match l,h.1 with
 |[x],_=>have h0:x=a:=h.2 0 _ _ rfl rfl;rw[h0]
theorem JR4{c:Cl}{w:World}{n:Nat}{cs:List V}(hg:ROs c w ⟨n,0,none⟩ cs){j:Nat}{x:Value}(hj:cs[j]? =some (.v x)):w.cell? ⟨n,j,none⟩=some x:=by obtain⟨_,h⟩:=hg;obtain⟨y,hy,hv⟩:=h j _ hj;rw[Nat.zero_add]at hy;rw[hy,VP.v_eq hv]
theorem Jdp{m:List Nat}{c:Cl}{w:World}{h:JM}(hH:HOK m c w h):∀j,j<256→w.cell? ⟨1,j,none⟩=some (.int .u8 (if Go.Lib.isSp (UInt8.ofNat j)then 1 else 0)):=λj hj=>by
 have e:GTab.tab 1=some ((A4 256).map λc=>V.v (.int .u8 (if Go.Lib.isSp (UInt8.ofNat c)then 1 else 0))):=rfl
 exact JR4 (hH.1.gt 1 _ e) (by simp[hj])
theorem JM9{lo:Nat}{s:ByteArray}{h:JM}(hlo:lo≤h.length)(hs:s.size<4294967281)(ha:(s.data.toList.all λb=>decide (b.toNat<128))=true):
  KR Aa lo 52 [.v (.string s)] h (.list .no ((Go.Lib.fields s.data.toList).map λl=>[.v (.string ⟨l.toArray⟩)])) h:=by
 have k:=JJR (P:=Aa) (f:=52) (args:=[.v (.string s)]) (xs:=(Go.Lib.fields s.data.toList).map λl=>BX ⟨l.toArray⟩) hlo (enters_of Tryz.func52 kr rfl)
  (λx hx=>by obtain⟨l,_,rfl⟩:=AC.1 hx;rfl) λm c w ys hH hy=>by
  rw[JR3 hy];refine(Any.strings_Fields_core (P:=Aa) (ρ:=Tryz.lays157_ren) Tryz.lays157 kr s w hs (λj b hb=>by simpa using Aj.1 ha b (Ah hb)) (Jdp hH)).mono λe w' ⟨h1,h2⟩=>?_
  subst h2;have ka:=MapKept.heap_alloc w (.cells ((Go.Lib.fields s.data.toList).map λl=>BX ⟨l.toArray⟩).toArray (Tryz.lays157_ren.t 9))
  refine⟨w.heap.size,_,_,_,_,by rw[Ao];exact h1,Ag _,by rw[Ao];exact Ag _,ka.1,λi x hx=>by simpa using hx,rfl,rfl,rfl,?_,λk hk=>ka.2 k hk⟩
  show _≤(w.heap.push _).size
  simp
 rw[B3]at k;exact k
theorem JK3{m:List Nat}{c:Cl}{w:World}{a b:Value}{xs:Array Value}(h:R2 (VR1 m c w) [.v a,.v b] xs.toList):xs= #[a,b]:=by
 obtain⟨l⟩:=xs
 match l,h.1 with
 |[x,y],_=>have h0:x=a:=h.2 0 _ _ rfl rfl;have h1:y=b:=h.2 1 _ _ rfl rfl;rw[h0,h1]
theorem JXb{lo:Nat}{x y:Int}{h:JM}(hlo:lo≤h.length)(h0:0≤y)(h1:y≤x)(h2:x<18446744073709551616):
  KR Aa lo 127 [.agg [.v (.int .u64 0),.v (.int .u64 x)],.agg [.v (.int .u64 0),.v (.int .u64 y)]] h (.agg [.v (.int .u64 0),.v (.int .u64 (x-y))]) h:=
 CallOK0.ok ⟨rfl,enters_of Tryz.func127 kr rfl,λm c w ys hH hy=>⟨⟨rfl,rfl,Keeps.refl _ _⟩,by
  have hys:ys= #[.agg #[.int .u64 0,.int .u64 x],.agg #[.int .u64 0,.int .u64 y]]:=by
   obtain⟨l⟩:=ys
   match l,hy.1 with
   |[p,q],_=>have e1:VRr m c w (.agg [.v (.int .u64 0),.v (.int .u64 x)]) p:=hy.2 0 _ _ rfl rfl;have e2:VRr m c w (.agg [.v (.int .u64 0),.v (.int .u64 y)]) q:=hy.2 1 _ _ rfl rfl;obtain⟨xs,rfl,r1⟩:=e1;obtain⟨zs,rfl,r2⟩:=e2;rw[JK3 r1,JK3 r2]
  obtain⟨a,rfl⟩:∃a:Nat,x=a:=⟨x.toNat,om⟩;obtain⟨b,rfl⟩:∃b:Nat,y=b:=⟨y.toNat,om⟩;rw[hys];refine(JR2 a b om om w).mono λe w' ⟨h1',hb⟩=>?_
  have hI:=Gt (vars:=[]) (args:=[]) (xs:= #[]) (nt:=0) (lo:=lo) hH R2.nil (by rfl) (Ag _) hlo
  have hI':=hI.grown (c':=c) (w':=w') none hb.size (λk hk _=>⟨hb.block k hk,rfl⟩) (λk hk=>by cases hk) (λk hk _ h0=>by rw[hI.core.c_zero hk]at h0;omega) hb.os hb.tape hb.output
  refine⟨_,c,h1',⟨_,rfl,?_⟩,hI'.hok,hI'.fr,hI'.owned⟩
  have e:((a-b:Nat):Int)=(a:Int)-b:=om;rw[e]
  exact R2.cons rfl (R2.cons rfl R2.nil)⟩⟩
theorem Kv:∀f p,primz0 f=some p→ ∀lo args h r h',lo≤h.length→p lo args h=some (r,h')→KR Aa lo f args h r h':=by
 intro f p hp lo args h r h' hlo he;unfold primz0 at hp
 split at hp
 ·cases hp
  unfold GK at he
  split at he
  ·split at he
   ·rename_i hc
    cases he;exact JM9 hlo hc.1 hc.2
   ·cases he
  ·cases he
 ·cases hp
  unfold JRJ at he
  split at he
  ·split at he
   ·rename_i hc
    obtain⟨rfl,rfl,h0,h1,h2⟩:=hc;cases he;exact JXb hlo h0 h1 h2
   ·cases he
  ·cases he
 ·cases hp
theorem follows:Aa.follows .mixedOrders=true:=kr
theorem Wq{prim:Nat→Option (Nat→List V→JM→Option (V×JM))}(hp:∀f p,prim f=some p→ ∀lo args h r h',lo≤h.length→p lo args h=some (r,h')→KR Aa lo f args h r h'){n f:Nat}{args:List V}{r:V}
  (he:evFun Aa hints prim n 0 f args []=some (r,[])):KR Aa 0 f args [] r []:=JNs follows hp n 0 f args [] r [] (Ag _) he
theorem JXc:∀p∈twM,KR Aa 0 128 p.1 [] p.2 []:=by unfold twM;simp only[A1,BK,or_false,forall_eq_or_imp,forall_eq];exact⟨Wq Kv tw0,Wq Kv tw1,Wq Kv tw2,Wq Kv tw3⟩
theorem JXd:∀p∈lsM,KR Aa 0 126 p.1 [] p.2 []:=by unfold lsM;simp only[A1,BK,or_false,forall_eq_or_imp,forall_eq];exact⟨Wq Kv ls0,Wq Kv ls1⟩
theorem JXe:∀p∈gcM,KR Aa 0 104 p.1 [] p.2 []:=by unfold gcM;simp only[A1,BK,or_false,forall_eq_or_imp,forall_eq];exact⟨Wq Kv gc0,Wq Kv gc1,Wq Kv gc2⟩
theorem ki:∀f p,primA f=some p→ ∀lo args h r h',lo≤h.length→p lo args h=some (r,h')→KR Aa lo f args h r h':=by
 intro f p hp lo args h r h' hlo he;unfold primA at hp
 split at hp
 ·cases hp
  exact GD JXc kr lo args h r h' hlo he
 ·cases hp
  exact GD JXd kr lo args h r h' hlo he
 ·cases hp
  exact Kv 52 _ rfl lo args h r h' hlo he
 ·cases hp
  exact Kv 127 _ rfl lo args h r h' hlo he
 ·cases hp
theorem JXf:∀p∈dvM,KR Aa 0 105 p.1 [] p.2 []:=by unfold dvM;simp only[A1,BK,or_false,forall_eq_or_imp,forall_eq];exact⟨Wq ki dv0,Wq ki dv1,Wq ki dv2,Wq ki dv3⟩
theorem JAl:∀f p,primB f=some p→ ∀lo args h r h',lo≤h.length→p lo args h=some (r,h')→KR Aa lo f args h r h':=by
 intro f p hp lo args h r h' hlo he;unfold primB at hp
 split at hp
 ·cases hp
  exact GD JXe kr lo args h r h' hlo he
 ·cases hp
  exact GD JXf kr lo args h r h' hlo he
 ·cases hp
  exact Kv 52 _ rfl lo args h r h' hlo he
 ·cases hp
  exact Kv 127 _ rfl lo args h r h' hlo he
 ·cases hp
theorem Jdq:∀p∈qM,KR Aa 0 45 p.1 [] p.2 []:=by unfold qM;simp only[A1,BK,or_false,forall_eq_or_imp,forall_eq];exact⟨Wq JAl q0,Wq JAl q1,Wq JAl q2⟩
theorem JR5:∀p∈JOu,KR Aa 0 5 p.1 [] p.2 []:=by unfold JOu;simp only[A1,BK,or_false,forall_eq];exact Wq Kv Jk9
theorem JR6:∀f p,primz f=some p→ ∀lo args h r h',lo≤h.length→p lo args h=some (r,h')→KR Aa lo f args h r h':=by
 intro f p hp lo args h r h' hlo he;unfold primz at hp
 split at hp
 ·cases hp
  exact GD JR5 kr lo args h r h' hlo he
 ·cases hp
  exact Kv 52 _ rfl lo args h r h' hlo he
 ·cases hp
  exact GD Jdq kr lo args h r h' hlo he
 ·cases hp
end Go.Lift.Y1
end

section
namespace Go.Proofs.YtolidijpmnompaaGreatDoor
open Go.Lift Go.Lift.Y1 Go.ChangeShapes Go.WideShapes Go.ChangeAt Go.RowKit
theorem JXg(H:Type):IsBulk (H:=H) Rows.uptoBulk Rows.uptoBulkAll:=
 ⟨rfl,λ_ _=>rfl,λ_=>rfl,λ_=>rfl,λ_ _=>rfl,rfl,λe s=>by show Rows.uptoBulkAll e+1≤Rows.uptoBulkAll e+Rows.uptoBulkAll s+1;omega,λ_=>rfl⟩
theorem own:ownKnob Aa.godebug=none:=kr
theorem JR7:laidOutB Aa=true:=kr
theorem JPt{w:World}{g:Nat}{cs:List V}(h:∀(j:Nat) v,cs[j]? =some v→ ∃x,w.cell? ⟨g,j,none⟩=some x∧VP (Kb w) w v x):ROs (Kb w) w ⟨g,0,none⟩ cs:=by
 refine⟨?_,λj v hj=>by simpa using h j v hj⟩
 cases cs with
 |nil=>exact Nat.zero_le _
 |cons c t=>
  have hl:(c::t)[t.length]? =some ((c::t)[t.length]'(by simp)):=Ac (by simp)
  obtain⟨x,hx,_⟩:=h t.length _ hl;unfold World.cell? at hx;unfold Kb;simp only at hx⊢
  split at hx
  ·rename_i arr e f he
   rw[he];simp only[List.length_cons];have:=(Array.getElem?_eq_some_iff.1 hx).1
   omega
  ·cases hx
theorem JJv:(Rows.laid_jalousie_jalousieref3_kinds:DataW Unit)=Lib.tabData .i64 [21,22,19,20,23,24,18,16,17]:=rfl
theorem JJw:(Rows.laid_strings_asciiSpace:DataW Unit)=Lib.tabData .u8 Lib.asciiSpaceTab:=kr
theorem JCt{w:World}{name:String}{k:IntKind}{zs:List Int}{g:Nat}{t e:TypeId}{n:Nat}(hn:Aa.globalNamed name=some g)(hy:(Aa.globals[g]?).map (·.type)=some t)
  (ht:Aa.underlying t=some (.array n e))(he:Aa.underlying e=some (.int k))(hce:Aa.cellsOf e=1)(hct:Aa.cellsOf t=n)(h:Lib.VarReads Aa w name (Lib.tabData k zs)):
  ∀(j:Nat) (z:Int),zs[j]? =some z→w.cell? ⟨g,j,none⟩=some (.int k z):=λj z hz=>by
 obtain⟨g',t',cs,fuel,p,h1,h2,h3,h4⟩:=h;obtain rfl:=Option.some.inj (hn.symm.trans h1);obtain rfl:=Option.some.inj (hy.symm.trans h2);have hcs:=Lib.cells_of_tab ht he hce hct h4;have:=World.var?_cell hn h3 j
 rw[this,←Array.getElem?_toList,hcs]
 simp[hz]
theorem gok{W:World}(hk:Lib.VarReads Aa W "jalousie/jalousieref3.kinds" Rows.laid_jalousie_jalousieref3_kinds) (hs:Lib.VarReads Aa W "strings.asciiSpace" Rows.laid_strings_asciiSpace):GOK W:=by
 rw[JJv]at hk;rw[JJw]at hs;intro n cs hc;have e:GTab.tab n=gtab.1 n:=rfl;rw[e]at hc;unfold gtab at hc;simp only at hc
 split at hc
 ·have c0:=JCt (g:=1) (t:=131) (e:=5) (n:=256) kr kr kr kr kr kr hs
  cases hc;refine JPt λj v hj=>?_
  simp only[Am,Option.map_eq_some_iff]at hj
  obtain⟨k,hk2,rfl⟩:=hj;obtain⟨hj1,rfl⟩:=List.getElem?_eq_some_iff.1 hk2
  simp only[List.length_range]at hj1;rw[List.getElem_range];exact⟨_,c0 j _ (by unfold Lib.asciiSpaceTab;rw[Am,List.getElem?_range hj1]<;>rfl),.v _ rfl⟩
 ·have c0:=JCt (g:=0) (t:=120) (e:=3) (n:=9) kr kr kr kr kr kr hk
  cases hc;refine JPt λj v hj=>?_
  have hj2:(([21,22,19,20,23,24,18,16,17]:List Int).map λz=>V.v (.int .i64 z))[j]? =some v:=hj
  simp only[Am,Option.map_eq_some_iff]at hj2
  obtain⟨k,hk2,rfl⟩:=hj2;exact⟨_,c0 j k hk2,.v _ rfl⟩
 ·cases hc
noncomputable def qp(os:Os):World:=
 let N:=(World.settled Aa os).heap.size
 let w0:=World.holding Aa os ⟨#[.cells ([9,13,1,32,133,101,160,5760,5600,8192,8202,1,8232,8233,1,8239,8287,48,12288,12288,1].map λz=>Bb .u16 z).toArray 172,.cells #[.slice (some ⟨N,0,none⟩) 7 7,.slice none 0 0,.int .i64 2] 169],#[],[]⟩
 let put (h:Array Obj) (g:Nat) (cs:Array Value):Array Obj:=h.modify g fun
  | .cells _ t frozen=> .cells cs t frozen
  |o=>o
 let h1:=put w0.heap 1 (Lib.asciiSpaceTab.map λz=>Bb .u8 z).toArray
 let h2:=put h1 0 ([21,22,19,20,23,24,18,16,17].map λz=>Bb .i64 z).toArray
 let h3:=put h2 2 #[.pointer (some ⟨N+1,0,none⟩)]
 {w0 with heap:=h3}
theorem Jdr(os:Os)(args:Array Value):LaidIn Aa ((qp os).forCall (λ_ _=>0) ⟨#[],args,[]⟩).memory [("jalousie/jalousieref3.kinds",Rows.laid_jalousie_jalousieref3_kinds),("unicode.White_Space",Rows.laid_unicode_White_Space),("strings.asciiSpace",Rows.laid_strings_asciiSpace)] (A4 200):=
 LaidIn.of_run (A4 200) 8 kr kr kr kr
theorem JJx{t:TypeId}{k:IntKind}{p:List V}(ht:Aa.underlying t=some (.int k))(h:Ty Aa t p):∃n,p=[.v (.int k n)]∧(Lit.int k n).wf=true:=by
 cases h with
 |int k' n hu hw=>rw[ht]at hu;cases hu;exact⟨n,rfl,hw⟩
 |bool b hu=>rw[ht]at hu;cases hu
 |string s hu=>rw[ht]at hu;cases hu
 |slice rows hu _=>rw[ht]at hu;cases hu
 |struct fs cells hu _=>rw[ht]at hu;cases hu
theorem JK4{t:TypeId}{p:List V}(ht:Aa.underlying t=some .bool)(h:Ty Aa t p):∃b,p=[.v (.bool b)]:=by
 cases h with
 |int k' n hu hw=>rw[ht]at hu;cases hu
 |bool b hu=>exact⟨b,rfl⟩
 |string s hu=>rw[ht]at hu;cases hu
 |slice rows hu _=>rw[ht]at hu;cases hu
 |struct fs cells hu _=>rw[ht]at hu;cases hu
theorem JXh{t:TypeId}{p:List V}(ht:Aa.underlying t=some .string)(h:Ty Aa t p):∃s,p=[.v (.string s)]:=by
 cases h with
 |int k' n hu hw=>rw[ht]at hu;cases hu
 |bool b hu=>rw[ht]at hu;cases hu
 |string s hu=>exact⟨s,rfl⟩
 |slice rows hu _=>rw[ht]at hu;cases hu
 |struct fs cells hu _=>rw[ht]at hu;cases hu
theorem qq{t:TypeId}{fs:Array Field}{p:List V}(ht:Aa.underlying t=some (.struct fs))(h:Ty Aa t p):TyFs Aa fs.toList p:=by
 cases h with
 |int k' n hu hw=>rw[ht]at hu;cases hu
 |bool b hu=>rw[ht]at hu;cases hu
 |string s hu=>rw[ht]at hu;cases hu
 |slice rows hu _=>rw[ht]at hu;cases hu
 |struct fs' cells hu hf=>rw[ht]at hu;cases hu;exact hf
theorem W8{f:Field}{fs:List Field}{p:List V}(h:TyFs Aa (f::fs) p):∃a b,p=a++b∧Ty Aa f.type a∧TyFs Aa fs b:=by
 cases h with
 |cons h1 h2=>exact⟨_,_,rfl,h1,h2⟩
theorem JJy{p:List V}(h:TyFs Aa [] p):p=[]:=by cases h;rfl
theorem JPu(s:ByteArray):∃l:List Int,Utf.By l∧s=Rul.bs l∧l.length=s.size:=by
 refine⟨s.data.toList.map λc=>(c.toNat:Int),?_,?_,?_⟩
 ·intro c hc
  obtain⟨x,_,rfl⟩:=AC.1 hc;have:=x.toNat_lt;omega
 ·apply ByteArray.ext
  unfold Rul.bs j4;simp only[B3];apply Array.toList_inj.1
  conv=>lhs;rw[←List.map_id s.data.toList]
  apply List.map_congr_left;intro c _;simp
 ·rw[Ao,Array.length_toList]<;>rfl
theorem JHR{t e:TypeId}{p:List V}(ht:Aa.underlying t=some (.slice e))(h:Ty Aa t p):∃rows,p=[.list .no rows]∧ ∀row∈rows,Ty Aa e row:=by
 cases h with
 |int k' n hu hw=>rw[ht]at hu;cases hu
 |bool b hu=>rw[ht]at hu;cases hu
 |string s hu=>rw[ht]at hu;cases hu
 |slice rows hu hr=>rw[ht]at hu;cases hu;exact⟨rows,rfl,hr⟩
 |struct fs cells hu _=>rw[ht]at hu;cases hu
theorem tv{t e:TypeId}{v:V}(ht:Aa.underlying t=some (.slice e))(h:TyV Aa t v):Ty Aa t [v]:=by unfold TyV at h;rw[ht]at h;exact h
theorem JSs{n:Int}(h:(Lit.int .i64 n).wf=true): -9223372036854775808≤n∧n≤9223372036854775807:=by simp[Lit.wf,IntKind.min,IntKind.max,IntKind.signed,IntKind.bits]at h;omega
theorem Jds{p:List V}(hc:Ty Aa 53 p):∃t:Rul.Tk4,p=Rul.row t∧Utf.By t.b∧(-9223372036854775808≤t.n∧t.n≤9223372036854775807)∧(-9223372036854775808≤t.d∧t.d≤9223372036854775807)∧K8 p=t.b.length+6:=by
 have h1:=qq Tryz.underlying53 hc;obtain⟨p1,q1,rfl,t1,h1⟩:=W8 h1;obtain⟨p2,q2,rfl,t2,h1⟩:=W8 h1;obtain⟨p3,q3,rfl,t3,h1⟩:=W8 h1;obtain⟨p4,q4,rfl,t4,h1⟩:=W8 h1;obtain⟨p5,q5,rfl,t5,h1⟩:=W8 h1;obtain rfl:=JJy h1;obtain⟨k,rfl,_⟩:=JJx Tryz.underlying3 t1;obtain⟨s,rfl⟩:=JXh Tryz.underlying9 t2;have h2:=qq Tryz.underlying28 t3
 obtain⟨p6,q6,rfl,t6,h2⟩:=W8 h2;obtain⟨p7,q7,rfl,t7,h2⟩:=W8 h2;obtain rfl:=JJy h2;obtain⟨n,rfl,hn⟩:=JJx Tryz.underlying2 t6;obtain⟨d,rfl,hd⟩:=JJx Tryz.underlying2 t7;obtain⟨w,rfl⟩:=JK4 Tryz.underlying4 t4;obtain⟨i,rfl⟩:=JK4 Tryz.underlying4 t5;obtain⟨b,hb,rfl,hl⟩:=JPu s;refine⟨⟨k,b,n,d,w,i⟩,rfl,hb,JSs hn,JSs hd,?_⟩
 simp[K8,Gx];omega
theorem JPv{p:List V}(hc:Ty Aa 60 p):∃(t:Rul.Tk4) (rows:List (List V)),p=Rul.row t++[.list .no rows]∧(∀row∈rows,Ty Aa 60 row)∧(Utf.By t.b∧(-9223372036854775808≤t.n∧t.n≤9223372036854775807)∧(-9223372036854775808≤t.d∧t.d≤9223372036854775807))∧K8 p=t.b.length+7+Wx rows:=by
 have h1:=qq Tryz.underlying60 hc;obtain⟨p1,q1,rfl,t1,h1⟩:=W8 h1;obtain⟨p2,q2,rfl,t2,h1⟩:=W8 h1;obtain rfl:=JJy h1;obtain⟨t,rfl,a,b,c,e⟩:=Jds t1;obtain⟨rows,rfl,hr⟩:=JHR Tryz.underlying33 t2;refine⟨t,rows,rfl,hr,⟨a,b,c⟩,?_⟩
 rw[j1,e,List.append_nil];simp[K8,Gx];omega
theorem JR8:∀(n:Nat) (rows:List (List V)),Wx rows≤n→n≤1048576→(∀row∈rows,Ty Aa 60 row)→
  ∃l:List Rul.CV,rows=Rul.JH l∧Kq l∧Rul.JL l≤Wx rows:=by
 intro n
 induction n with
 |zero=>
  intro rows hs hn h
  cases rows with
  |nil=>exact⟨[],by rw[Rul.JZ],by rw[Kq];trivial,by rw[Rul.QG];omega⟩
  |cons r rs=>
   obtain⟨t,ks,rfl,_,_,e⟩:=JPv (h r (Be ..));simp only[Wx]at hs
   omega
 |succ n ih=>
  intro rows hs hn h
  cases rows with
  |nil=>exact⟨[],by rw[Rul.JZ],by rw[Kq];trivial,by rw[Rul.QG];omega⟩
  |cons r rs=>
   obtain⟨t,ks,rfl,hk,a,e⟩:=JPv (h r (Be ..));simp only[Wx,e]at hs⊢;obtain⟨kl,rfl,k1,k2⟩:=ih ks om om hk;obtain⟨l,rfl,l1,l2⟩:=ih rs om om λrow hm=>h row (List.mem_cons_of_mem _ hm)
   refine⟨.mk t kl::l,?_,?_,?_⟩
   ·rw[Rul.JY,Rul.Jp]
   ·rw[Kq,Wp]
    exact⟨⟨⟨a.1,om,a.2.1,a.2.2⟩,k1⟩,l1⟩
   ·rw[Rul.J4,Rul.QA,show(Rul.CV.mk t kl).ks=kl from rfl]
    omega
theorem Jdt{v:V}{n:Nat}(h:TyV Aa 33 v)(hs:Gy v≤n)(hn:n≤1048576):∃l:List Rul.CV,v= .list .no (Rul.JH l)∧Kq l∧Rul.JL l≤n:=by
 obtain⟨rows,hp,hr⟩:=JHR Tryz.underlying33 (tv Tryz.underlying33 h);obtain rfl:v= .list .no rows:=by simpa using hp
 have hv:Wx rows≤n:=by simp only[Gy,Gx]at hs;omega
 obtain⟨l,rfl,a,b⟩:=JR8 n rows hv hn hr;exact⟨l,rfl,a,om⟩
end Go.Proofs.YtolidijpmnompaaGreatDoor
end

section
namespace Go.Proofs.YtolidijpmnompaaGreatDoor
theorem KK{a b:Bool}(ha:a=true)(hb:b=true):(a&&b)=true:=by rw[ha,hb]<;>rfl
theorem Jdu:laidOutB Aa=true:=kr
theorem Jdv:mapsRowed Aa=true:=kr
theorem Jdw:(Aa.stops==[])=true:=kr
theorem Jdx:(Aa.stopKnobs==[])=true:=kr
theorem JXi:(Rows.propParsesUptoRow.plainKeys==Aa.plainKeys)=true:=kr
theorem JXj:Aa.stopsHeard=true:=kr
theorem JXk:Aa.mayEnter=true:=kr
theorem JXl:(Rows.propParsesUptoRow.lifted==Aa.liftsFinal)=true:=kr
theorem JXm:(Aa.make==some Rows.propParsesUptoRow.make)=true:=kr
end Go.Proofs.YtolidijpmnompaaGreatDoor
end
