/- prop.Parse. -/
import Derived.Test.YtolidijpmnompaaGreatDoorGKb
import Derived.Test.YtolidijpmnompaaGreatDoorGKc
import Derived.Test.YtolidijpmnompaaGreatDoorGKd
open Bool renaming and_eq_true->Af,and_false->Bl,and_true->B7,eq_iff_iff->BO,false_and->As,false_eq_true->Al,false_or->A3,not_false->A5,or_eq_true->AU,true_and->Aw,true_or->Bp
open ByteArray renaming empty->AQ
open Go.IntKind renaming i64->Am,u64->Ba
open Go.Proofs.Tryz renaming prog->Aa
open List renaming all_cons->Bi,all_eq_true->Ak,append_assoc->Ax,append_nil->AE,cons_append->AA,dropWhile_cons->A8,dropWhile_suffix->BR,drop_drop->AY,drop_eq_getElem_cons->Av,drop_eq_nil_of_le->AZ,drop_length->A0,drop_nil->CB,drop_zero->AD,getElem?_eq_getElem->Ac,getElem?_eq_some_iff->Ab,head?_drop->DA,length_append->Ao,length_cons->Ae,length_map->Aq,length_nil->Ai,map_nil->BJ,mem_singleton->A1,nil_append->Au,takeWhile_cons->CD
open Nat renaming gcd->Df,le_refl->Ad,lt_or_ge->Ay,not_lt_zero->Dr,zero_add->AC
set_option linter.unusedVariables false
set_option linter.unusedSimpArgs false
set_option linter.unusedSectionVars false
set_option maxRecDepth 100000
set_option maxHeartbeats 4000000
section
open Go.Proofs
namespace Go.Lift.Y1
open Rul
open Utf (By)
variable{lo:Nat}{h:JG}
theorem JBP:∀{l:List CV},QG l->JN l<=1000000000->okCL l
 |[],_,_=>by rw[okCL];trivial
 | .mk t kids::r,ho,hn=>by
  rw[QG,YQ]at ho;have e:=Qj (.mk t kids);rw[show(CV.mk t kids).ks=kids from rfl]at e
  rw[J6,e]at hn;have hk:=JV kids;rw[okCL,okCV];exact⟨⟨⟨ho.1.1.1,ho.1.1.2.1,om⟩,JBP ho.1.2 om⟩,JBP ho.2 om⟩
theorem JsJ{l:List CV}(hlo:lo<=h.length)(hl:JN l<=1000000000)(ho:QG l):E lo 27 [.list .no (JJ l)] h=some (.v (.bool (Qz l)),h):=
 f27 hlo (by have:=JV l;omega) (JBP ho hl)
noncomputable abbrev X17(lo:Nat)(h:JG):Go.Lift.Cx:=⟨Aa,E,lo,h.length,h9⟩
section
variable{nm:ByteArray}{k:Int}{dn low kn:Bool}{ws:List ByteArray}{ck a b:Int}{w:ByteArray}{l:List CV}{n:Nat}{name:List Int}
abbrev W1(h:JG)(cs:List V):JG:=h++[.cells vZ,.cells cs]
abbrev N17(h:JG)(l:List CV)(kn:Bool)(ex:Jl):Jl:=[(1,.list .no (JJ l)),(4,.ptr h.length 0),(6,.ptr (h.length+1) 0),(7,.v (.bool kn))]++ex
abbrev Q5(h:JG)(cs vc:List V)(er:Int):Option (Ex×Jl×JG):=some (.ret,[(4,.ptr h.length 0),(5,.v (.int .i64 er))],h++[.cells vc,.cells cs])
theorem JsK(hlo:lo<=h.length)(hy:By name)(hnl:name.length<=1000000000)(hl:JN l<=2000000)(ho:QG l)
  (c21:∀lo h,lo<=h.length->E lo 21 [.v (.string (Rul.bs name))] h=some (.tup [.agg (JL nm k dn low ws ck a b w),.v (.bool kn)],h)):
  WD (X17 lo h) JA (pc b9 0 3) (QH [.v (.string (Rul.bs name)),.list .no (JJ l)],h)=
   if(!kn&& !QJ name)=true then Q5 h (JL nm k dn low ws ck a b w) vZ 10
   else if(!QN 64 l)=true then Q5 h (JL nm k dn low ws ck a b w) vZ 1
   else if(!KG l true)=true then Q5 h (JL nm k dn low ws ck a b w) vZ 3
   else some (.normal,N17 h l kn [(28,.v (.bool false))],W1 h (JL nm k dn low ws ck a b w)):=by
 have l1:lo<=h.length+1:=om;have l2:lo<=h.length+1+1:=om;have c22:=λlo h hlo=>f22 (lo:=lo) (h:=h) hy hlo om
 have c23:=λlo h hlo=>f23 (lo:=lo) (h:=h) (l:=l) hlo om
 have c24:=λlo h hlo=>f24 (lo:=lo) (h:=h) (l:=l) (top:=true) hlo om ho
 simp only[JL]at c21;generalize QJ name=cu at c22⊢;generalize QN 64 l=my at c23⊢;generalize KG l true=gd at c24⊢
 have rest:∀(q:(!kn&& !cu)=false),WD (X17 lo h) JA (pc b9 0 3) (QH [.v (.string (Rul.bs name)),.list .no (JJ l)],h)=if(!my)=true then Q5 h (JL nm k dn low ws ck a b w) vZ 1
   else if(!gd)=true then Q5 h (JL nm k dn low ws ck a b w) vZ 3
   else some (.normal,N17 h l kn [(28,.v (.bool false))],W1 h (JL nm k dn low ws ck a b w)):=by
  intro q
  cases kn with
  |true=>
   cases my with
   |false=>
    rw[if_pos (by simp)]
    simp only[X17,Q5,vZ,JL,go_sem,b9,Tryz.f9,hlo,l1,l2,c21,c23]<;>rfl
   |true=>
    rw[if_neg (by simp)]
    cases gd with
    |false=>
     rw[if_pos (by simp)]
     simp only[X17,Q5,vZ,JL,go_sem,b9,Tryz.f9,hlo,l1,l2,c21,c23,c24]<;>rfl
    |true=>
     rw[if_neg (by simp)]
     simp only[X17,Q5,N17,W1,vZ,JL,go_sem,b9,Tryz.f9,hlo,l1,l2,c21,c23,c24]<;>rfl
  |false=>
   cases cu with
   |false=>cases q
   |true=>
    cases my with
    |false=>
     rw[if_pos (by simp)]
     simp only[X17,Q5,vZ,JL,go_sem,b9,Tryz.f9,hlo,l1,l2,c21,c22,c23]<;>rfl
    |true=>
     rw[if_neg (by simp)]
     cases gd with
     |false=>
      rw[if_pos (by simp)]
      simp only[X17,Q5,vZ,JL,go_sem,b9,Tryz.f9,hlo,l1,l2,c21,c22,c23,c24]<;>rfl
     |true=>
      rw[if_neg (by simp)]
      simp only[X17,Q5,N17,W1,vZ,JL,go_sem,b9,Tryz.f9,hlo,l1,l2,c21,c22,c23,c24]<;>rfl
 by_cases q:(!kn&& !cu)=true
 ·rw[if_pos q]
  cases kn with
  |true=>cases q
  |false=>
   cases cu with
   |true=>cases q
   |false=>simp only[X17,Q5,vZ,JL,go_sem,b9,Tryz.f9,hlo,l1,l2,c21,c22]<;>rfl
 ·rw[if_neg q]
  exact rest (by simpa using q)
def Qh(l:List CV):List Int:=match l with
 |[.mk t _]=>if(t.k==1)=true then Jg t.b else[]
 |_=>[]
theorem JsL{L:List CV}(hlo:lo<=h.length)(hl:JN l<=2000000)(ho:QG l)(hL:Jh l=L):
  ∃q:Bool,WD (X17 lo h) JA (pc b9 3 4) (N17 h l kn [(28,.v (.bool false))],W1 h (JL nm k dn low ws ck a b w))=
   some (.normal,N17 h L kn [(8,.v (.string (Rul.bs (Qh L)))),(45,.v (.bool q))],W1 h (JL nm k dn low ws ck a b w)):=by
 have l1:lo<=h.length+1:=om;have l2:lo<=h.length+1+1:=om;have hm:∀v∈L,YQ v:=λv hv=>by rw[<-hL]at hv;exact Kb ho v (KH hv)
 have c25:=λlo h hlo=>f25 (lo:=lo) (h:=h) (l:=l) hlo om
 rw[hL]at c25
 match L,c25,hm with
 |[],c25,hm=>
  have q1:(((0:Nat):Int)==1)=false:=rfl;have q1':((0:Int)==1)=false:=rfl;rw[JX]at c25;refine⟨false,?_⟩
  simp only[X17,N17,W1,vZ,JL,JX,go_sem,b9,Tryz.f9,hlo,l1,l2,c25,q1,q1',Ai]<;>rfl
 |v::u::r,c25,hm=>
  have q1:(((r.length+1+1:Nat):Int)==1)=false:=by rw[beq_eq_false_iff_ne];omega
  rw[JZ,JZ]at c25;refine⟨false,?_⟩
  rw[show Qh (v::u::r)=[]by obtain⟨t,ks⟩:=v;rfl]
  simp only[X17,N17,W1,vZ,JL,JZ,go_sem,b9,Tryz.f9,hlo,l1,l2,c25,q1,Ae,JD]<;>rfl
 |[.mk t kids],c25,hm=>
  have ht:okT t:=qy (hm _ (A1.2 rfl));have q1:(((0+1:Nat):Int)==1)=true:=rfl;have q1':((1:Int)==1)=true:=rfl;have c26:=λlo h hlo=>f26 (lo:=lo) (h:=h) (l:=t.b) hlo (by have:=ht.2.1;omega) ht.1
  rw[JZ,JX,JP]at c25;unfold Qh;simp only
  cases z1:t.k==1 with
  |false=>
   rw[if_neg (by simp)]
   refine⟨false,?_⟩
   simp only[X17,N17,W1,vZ,JL,JZ,JX,JP,go_sem,b9,Tryz.f9,hlo,l1,l2,c25,q1,q1',z1,Ae,Ai]<;>rfl
  |true=>
   rw[if_pos rfl];refine⟨true,?_⟩
   simp only[X17,N17,W1,vZ,JL,JZ,JX,JP,go_sem,b9,Tryz.f9,hlo,l1,l2,c25,c26,q1,q1',z1,Ae,Ai]<;>rfl
def JN4:List Int:=[105,110,104,101,114,105,116]
def JN5:List Int:=[105,110,105,116,105,97,108]
def JN6:List Int:=[117,110,115,101,116]
def JDB(b:List Int):Bool:=b==JN4||(b==JN5||b==JN6)
theorem byW{b:List Int}(h:b.all (λc=>decide (0<=c)&&decide (c<256))=true):By b:=λc hc=>by have:=Ak.1 h c hc;simp only[Af,decide_eq_true_eq]at this;omega
def jZ(kind:Int)(word:ByteArray):List V:=[.v (.int .i64 kind),.v (.int .i64 0),.v (.int .i64 0),.v (.int .i64 0),.v (.int .i64 0),.list .yes [],.v (.string word),.list .yes []]
def JL1(toks:List (List V)):List V:=[.v (.int .i64 4),.v (.int .i64 0),.v (.int .i64 0),.v (.int .i64 0),.v (.int .i64 0),.list .yes [],.v (.string AQ),.list .no toks]
abbrev M17(h:JG)(l:List CV)(wd:List Int):Jl:=[(1,.list .no (JJ l)),(4,.ptr h.length 0),(6,.ptr (h.length+1) 0),(8,.v (.string (Rul.bs wd))),(75,.v (.bool false))]
theorem JsM{L:List CV}{q:Bool}{wd:List Int}(hlo:lo<=h.length)(hl:JN L<=2000000)(ho:QG L)(hwd:By wd)(hws:ws.length<=1000000000):
  WD (X17 lo h) JA (pc b9 7 1) (N17 h L kn [(8,.v (.string (Rul.bs wd))),(45,.v (.bool q))],W1 h (JL nm k dn low ws ck a b w))=
   (
    if JDB wd=true then Q5 h (JL nm k dn low ws ck a b w) (jZ 3 (Rul.bs wd)) 0
    else if(!kn||Qz L)=true then Q5 h (JL nm k dn low ws ck a b w) (JL1 ((Ka L).map row)) 0
    else if(!(wd==[])&&Y3 ws (Rul.bs wd))=true then Q5 h (JL nm k dn low ws ck a b w) (jZ 2 (Rul.bs wd)) 0
    else some (.normal,M17 h L wd,W1 h (JL nm k dn low ws ck a b w))):=by
 have l1:lo<=h.length+1:=om;have l2:lo<=h.length+1+1:=om;have e1:=QR hwd (byW (b:=JN4) (by decide))
 have e2:=QR hwd (byW (b:=JN5) (by decide))
 have e3:=QR hwd (byW (b:=JN6) (by decide))
 have e4:=QR hwd (byW (b:=[]) (by decide))
 rw[show Rul.bs JN4=⟨#[105,110,104,101,114,105,116]⟩from rfl]at e1
 rw[show Rul.bs JN5=⟨#[105,110,105,116,105,97,108]⟩from rfl]at e2
 rw[show Rul.bs JN6=⟨#[117,110,115,101,116]⟩from rfl]at e3
 rw[show Rul.bs []=⟨#[]⟩from rfl]at e4
 have c7:=λlo h hlo=>JsJ (lo:=lo) (h:=h) (l:=L) hlo om ho
 have c28:=λlo h hlo=>f28 (lo:=lo) (h:=h) (l:=L) hlo om
 have c29:=λlo h hlo=>f29 (lo:=lo) (h:=h) (ws:=ws) (s:=Rul.bs wd) hlo hws
 unfold JDB;generalize (wd==JN4)=b1 at e1⊢;generalize (wd==JN5)=b2 at e2⊢;generalize (wd==JN6)=b3 at e3⊢;generalize (wd==[])=b4 at e4⊢;generalize Qz L=vl at c7⊢;generalize Y3 ws (Rul.bs wd)=hs at c29⊢;unfold W7 at c29;generalize (Ka L).map row=FL at c28⊢
 cases b1 with
 |true=>
  rw[if_pos (by simp)]
  simp only[X17,N17,M17,W1,Q5,vZ,jZ,JL,go_sem,b9,Tryz.f9,hlo,l1,l2,e1]<;>rfl
 |false=>
  cases b2 with
  |true=>
   rw[if_pos (by simp)]
   simp only[X17,N17,M17,W1,Q5,vZ,jZ,JL,go_sem,b9,Tryz.f9,hlo,l1,l2,e1,e2]<;>rfl
  |false=>
   cases b3 with
   |true=>
    rw[if_pos (by simp)]
    simp only[X17,N17,M17,W1,Q5,vZ,jZ,JL,go_sem,b9,Tryz.f9,hlo,l1,l2,e1,e2,e3]<;>rfl
   |false=>
    rw[if_neg (by simp)]
    cases kn with
    |false=>
     rw[if_pos (by simp)]
     simp only[X17,N17,M17,W1,Q5,vZ,JL1,JL,go_sem,b9,Tryz.f9,hlo,l1,l2,e1,e2,e3,c28]<;>rfl
    |true=>
     cases vl with
     |true=>
      rw[if_pos (by simp)]
      simp only[X17,N17,M17,W1,Q5,vZ,JL1,JL,go_sem,b9,Tryz.f9,hlo,l1,l2,e1,e2,e3,c7,c28]<;>rfl
     |false=>
      rw[if_neg (by simp)]
      cases b4 with
      |true=>
       rw[if_neg (by simp)]
       simp only[X17,N17,M17,W1,Q5,vZ,JL,go_sem,b9,Tryz.f9,hlo,l1,l2,e1,e2,e3,e4,c7,Bool.not_true]<;>rfl
      |false=>
       cases hs with
       |true=>
        rw[if_pos (by simp)]
        simp only[X17,N17,M17,W1,Q5,vZ,jZ,JL,go_sem,b9,Tryz.f9,hlo,l1,l2,e1,e2,e3,e4,c7,c29,A5]<;>rfl
       |false=>
        rw[if_neg (by simp)]
        simp only[X17,N17,M17,W1,Q5,vZ,JL,go_sem,b9,Tryz.f9,hlo,l1,l2,e1,e2,e3,e4,c7,c29,A5]<;>rfl
theorem JDC(o:Option X):∃kd ek en ed eu el,Hw o=([.v (.int .i64 kd),.v (.int .i64 ek),.v (.int .i64 en),.v (.int .i64 ed),.v (.int .i64 eu),.list .no (GL el),.v (.string ⟨#[]⟩),.list .no []],(Hw o).2):=by
 cases o with
 |none=>exact⟨0,0,0,0,0,[],by unfold Hw Jt;simp only[Q9,Jc]⟩
 |some x=>obtain⟨ek,en,ed,eu,el⟩:=x;exact⟨1,ek,en,ed,eu,el,by unfold Hw;simp only[Q9]⟩
theorem JsN{L:List CV}{wd:List Int}(hlo:lo<=h.length)(hn:JN L<=n)(hl:JN L<=2000000)(ho:QG L):
  WD (X17 lo h) JA (pc b9 8 2) (M17 h L wd,W1 h (JL nm k dn low ws ck a b w))=Q5 h (JL nm k dn low ws ck a b w) (Hw (QO k low n L)).1 (Hw (QO k low n L)).2:=by
 have l1:lo<=h.length+1:=om;have l2:lo<=h.length+1+1:=om;have c30:=λlo h hlo=>f30 (lo:=lo) (h:=h) (nm:=nm) (k:=k) (dn:=dn) (low:=low) (ws:=ws) (ck:=ck) (a:=a) (b:=b) (w:=w) (l:=L) (n:=n) hlo hn hl ho
 obtain⟨kd,ek,en,ed,eu,el,e⟩:=JDC (QO k low n L);generalize Hw (QO k low n L)=r at c30 e⊢;obtain⟨vc,er⟩:=r;cases e;simp only[JL]at c30⊢;simp only[X17,M17,W1,Q5,vZ,go_sem,b9,Tryz.f9,hlo,l1,l2,c30]<;>rfl
theorem Gi{cs vc:List V}{er:Int}{r:List V}(hc:∃nm k dn low ws ck a b w,cs=JL nm k dn low ws ck a b w)(hv:vc=vZ/\r=GQ 0 Jt ⟨#[]⟩ []\/(∃kd wd,vc=jZ kd wd/\r=GQ kd Jt wd [])\/(∃toks,vc=JL1 toks/\r=GQ 4 Jt ⟨#[]⟩ toks)\/ ∃o,vc=(Hw o).1/\r=(Hw o).1):
  fin Aa [.cell 4 41,.tmp 5] h.length (Q5 h cs vc er)=some (.tup [.agg r,.v (.int .i64 er)],h):=by
 obtain⟨nm,k,dn,low,ws,ck,a,b,w,rfl⟩:=hc;rcases hv with⟨rfl,rfl⟩|⟨kd,wd,rfl,rfl⟩|⟨toks,rfl,rfl⟩|⟨o,rfl,rfl⟩
 ·unfold Jt
  simp only[Q5,JL,Q9,Jc,vZ,go_sem]<;>rfl
 ·unfold Jt
  simp only[Q5,JL,Q9,Jc,jZ,go_sem]<;>rfl
 ·unfold Jt
  simp only[Q5,JL,Q9,Jc,JL1,go_sem]<;>rfl
 ·obtain⟨kd,ek,en,ed,eu,el,e⟩:=JDC o
  rw[e];simp only[Q5,JL,go_sem]<;>rfl
def Hk(kn:Bool)(k:Int)(low:Bool)(ws:List ByteArray)(name:List Int)(n:Nat)(l:List CV):List V×Int:=
 if(!kn&& !QJ name)=true then(GQ 0 Jt ⟨#[]⟩ [],10)
 else if(!QN 64 l)=true then(GQ 0 Jt ⟨#[]⟩ [],1)
 else if(!KG l true)=true then(GQ 0 Jt ⟨#[]⟩ [],3)
 else if JDB (Qh (Jh l))=true then(GQ 3 Jt (Rul.bs (Qh (Jh l))) [],0)
 else if(!kn||Qz (Jh l))=true then(GQ 4 Jt ⟨#[]⟩ ((Ka (Jh l)).map row),0)
 else if(!(Qh (Jh l)==[])&&Y3 ws (Rul.bs (Qh (Jh l))))=true then(GQ 2 Jt (Rul.bs (Qh (Jh l))) [],0)
 else Hw (QO k low n (Jh l))
theorem JJ8{L:List CV}(ho:∀v∈L,YQ v):By (Qh L):=by
 match L,ho with
 |[],_=>exact byW (by decide)
 |[.mk t kids],ho=>
  have ht:okT t:=qy (ho _ (A1.2 rfl));unfold Qh;simp only
  split
  ·exact Zn ht.1
  ·exact byW (by decide)
 | .mk t ks::u::r,_=>
  rw[show Qh (.mk t ks::u::r)=[]from rfl]
  exact byW (by decide)
theorem f9(hlo:lo<=h.length)(hy:By name)(hnl:name.length<=1000000000)(hn:JN l<=n)(hl:JN l<=2000000)(ho:QG l)(hws:ws.length<=1000000000)
  (c21:∀lo h,lo<=h.length->E lo 21 [.v (.string (Rul.bs name))] h=some (.tup [.agg (JL nm k dn low ws ck a b w),.v (.bool kn)],h)):
  E lo 9 [.v (.string (Rul.bs name)),.list .no (JJ l)] h=some (.tup [.agg (Hk kn k low ws name n l).1,.v (.int .i64 (Hk kn k low ws name n l).2)],h):=by
 have htn:=Kf l;have hot:QG (Jh l):=kS λv hv=>Kb ho v (KH hv)
 have ha:=JsK (k:=k) (lo:=lo) (h:=h) hlo hy hnl hl ho c21;obtain⟨q,hb⟩:=JsL (lo:=lo) (h:=h) (nm:=nm) (k:=k) (dn:=dn) (low:=low) (kn:=kn) (ws:=ws) (ck:=ck) (a:=a) (b:=b) (w:=w) hlo hl ho rfl;have hc:=JsM (lo:=lo) (h:=h) (nm:=nm) (k:=k) (dn:=dn) (low:=low) (kn:=kn) (ws:=ws) (ck:=ck) (a:=a) (b:=b) (w:=w) (L:=Jh l) (q:=q) (wd:=Qh (Jh l)) hlo om hot (JJ8 (Kb hot)) hws
 have hd:=JsN (lo:=lo) (h:=h) (nm:=nm) (k:=k) (dn:=dn) (low:=low) (ws:=ws) (ck:=ck) (a:=a) (b:=b) (w:=w) (L:=Jh l) (wd:=Qh (Jh l)) (n:=n) hlo om om hot;have cs:∃nm' k' dn' low' ws' ck' a' b' w',JL nm k dn low ws ck a b w=JL nm' k' dn' low' ws' ck' a' b' w':=⟨_,_,_,_,_,_,_,_,_,rfl⟩;unfold Hk;rw[e9,pc_in,pc_go _ _ _ _ 0 3,ha];by_cases c1:(!kn&& !QJ name)=true
 ·rw[if_pos c1,if_pos c1,Q5,Qr];exact Gi cs (.inl ⟨rfl,rfl⟩)
 rw[if_neg c1,if_neg c1];by_cases c2:(!QN 64 l)=true
 ·rw[if_pos c2,if_pos c2,Q5,Qr];exact Gi cs (.inl ⟨rfl,rfl⟩)
 rw[if_neg c2,if_neg c2];by_cases c3:(!KG l true)=true
 ·rw[if_pos c3,if_pos c3,Q5,Qr];exact Gi cs (.inl ⟨rfl,rfl⟩)
 rw[if_neg c3,if_neg c3,pc_go _ _ _ _ _ 4,hb,pc_go _ _ _ _ _ 1,hc];by_cases c4:JDB (Qh (Jh l))=true
 ·rw[if_pos c4,if_pos c4,Q5,Qr];exact Gi cs (.inr (.inl ⟨_,_,rfl,rfl⟩))
 rw[if_neg c4,if_neg c4];by_cases c5:(!kn||Qz (Jh l))=true
 ·rw[if_pos c5,if_pos c5,Q5,Qr];exact Gi cs (.inr (.inr (.inl ⟨_,rfl,rfl⟩)))
 rw[if_neg c5,if_neg c5];by_cases c6:(!(Qh (Jh l)==[])&&Y3 ws (Rul.bs (Qh (Jh l))))=true
 ·rw[if_pos c6,if_pos c6,Q5,Qr];exact Gi cs (.inr (.inl ⟨_,_,rfl,rfl⟩))
 rw[if_neg c6,if_neg c6,pc_go _ _ _ _ _ 2,hd,Q5,Qr];exact Gi cs (.inr (.inr (.inr ⟨_,rfl,rfl⟩)))
end
end Go.Lift.Y1
end

section
open Go.Proofs
namespace Go.Lift.Y1
open Rul
variable{lo:Nat}{h:JG}
abbrev N48(l:List CV)(d k:Int):Jl:=[(1,.v (.int .i64 d)),(7,.list .no (JJ l)),(8,.v (.int .i64 l.length)),(9,.v (.int .i64 k))]
theorem JX0{l:List CV}{v:CV}{n k:Nat}(hn:n<=64)(hlo:lo<=h.length)(hl:JN l<=1000000000000000000)(hg:l[k]? =some v)
  (ih:∀m,n=m+1->∀lo ks h,lo<=h.length->JN ks<=1000000000000000000->E lo 65 [.list .no (JJ ks),.v (.int .i64 ((m:Int)))] h=some (.v (.bool (QN m ks)),h)):
  evCode ⟨Aa,E,lo,h.length,h65⟩ JA Y0 (N48 l ((n:Int)) k,h)=
   if JJl n v=true then some (.normal,N48 l ((n:Int)) (k+1:Nat),h)else some (.ret,[(4,.v (.bool false))],h++[.cells (Js v)]):=by
 obtain⟨t,ks⟩:=v;have hlt:k<l.length:=(Ab.1 hg).1
 have hgr:(JJ l)[k]? =some (Js (.mk t ks)):=by rw[Jq,hg]<;>rfl
 have q:decide ((k:Int)<(l.length:Int))=true:=by simp;omega
 have hll:=JV l;have hkk:JN ks<=JN l:=JCb (v:= .mk t ks) hg;have hw:=JM (i:=k) om;have hlo':lo<=h.length+1:=om;have c42:=λlo hlo=>f17 (lo:=lo) (h:=h++[.cells (Js (.mk t ks))]) hlo t.k
 have c42a:=c42 lo (by simp;omega);have c42b:=c42 h.length (by simp);have c42c:=c42 (h.length+1) (by simp)
 clear c42;rw[JJ0];rw[JP]at*;by_cases a1:t.k<1
 ·have q1:decide (t.k<1)=true:=by simpa using a1
  have:decide (1<=t.k/\t.k<=24)=false:=by rw[decide_eq_false_iff_not];omega
  rw[this,As,if_neg (by simp)]
  simp only[go_sem,Y0,b65,Tryz.f65,hlo,hlo',q,hgr,q1,JD]<;>rfl
 have q1:decide (t.k<1)=false:=by simpa using a1
 by_cases a2:24<t.k
 ·have q2:decide (24<t.k)=true:=by simpa using a2
  have:decide (1<=t.k/\t.k<=24)=false:=by rw[decide_eq_false_iff_not];omega
  rw[this,As,if_neg (by simp)]
  simp only[go_sem,Y0,b65,Tryz.f65,hlo,hlo',q,hgr,q1,q2,JD]<;>rfl
 have q2:decide (24<t.k)=false:=by simpa using a2
 have:decide (1<=t.k/\t.k<=24)=true:=by rw[decide_eq_true_iff];omega
 rw[this,Aw];by_cases a3:Ja t.k=0
 ·rw[if_pos a3]
  have q3:(Ja t.k==0)=true:=by simpa using a3
  cases ks with
  |nil=>
   have q4:decide ((0:Int)<((0:Nat):Int))=false:=rfl;rw[if_pos (show([]:List CV).isEmpty=true from rfl)]
   simp only[go_sem,Y0,b65,Tryz.f65,hlo,hlo',q,hgr,q1,q2,q3,q4,hw,c42a,c42b,c42c,JD,Ai]<;>rfl
  |cons x r=>
   have q4:decide ((0:Int)<((r.length+1:Nat):Int))=true:=by rw[decide_eq_true_iff];omega
   rw[if_neg (show¬(x::r).isEmpty=true by simp)]
   simp only[go_sem,Y0,b65,Tryz.f65,hlo,hlo',q,hgr,q1,q2,q3,q4,hw,c42a,c42b,c42c,JD,Ae]<;>rfl
 ·rw[if_neg a3]
  have q3:(Ja t.k==0)=false:=by simpa using a3
  cases n with
  |zero=>
   have q5:(((0:Nat):Int)==0)=true:=rfl;rw[if_neg (show¬false=true by simp)]
   simp only[go_sem,Y0,b65,Tryz.f65,hlo,hlo',q,hgr,q1,q2,q3,q5,hw,c42a,c42b,c42c,JD]<;>rfl
  |succ m=>
   have q5:(((m+1:Nat):Int)==0)=false:=by rw[beq_eq_false_iff_ne];omega
   have w2:Am.wrap (((m+1:Nat):Int)-1)=(m:Int):=by rw[JW om om];omega
   have c17:=λlo hlo=>ih m rfl lo ks (h++[.cells (Js (.mk t ks))]) hlo om
   rw[JP]at c17;have c17a:=c17 lo (by simp;omega);have c17b:=c17 h.length (by simp);have c17c:=c17 (h.length+1) (by simp)
   clear c17 ih;show _=if QN m ks=true then _ else _
   cases hm:QN m ks with
   |true=>
    rw[hm]at c17a c17b c17c;rw[if_pos rfl]
    simp only[go_sem,Y0,b65,Tryz.f65,hlo,hlo',q,hgr,q1,q2,q3,q5,hw,w2,c42a,c42b,c42c,c17a,c17b,c17c,JD]<;>rfl
   |false=>
    rw[hm]at c17a c17b c17c;rw[if_neg (by simp)]
    simp only[go_sem,Y0,b65,Tryz.f65,hlo,hlo',q,hgr,q1,q2,q3,q5,hw,w2,c42a,c42b,c42c,c17a,c17b,c17c,JD]<;>rfl
theorem JeB{l:List CV}{d:Int}(hlo:lo<=h.length):evCode ⟨Aa,E,lo,h.length,h65⟩ JA Y0 (N48 l d l.length,h)=
   some (.exit 0,N48 l d l.length++[(10,.v (.bool false))],h):=by
 have q:decide ((l.length:Int)<(l.length:Int))=false:=by simp
 simp only[go_sem,Y0,b65,Tryz.f65,hlo,q]<;>rfl
theorem JUt{l:List CV}{n:Nat}(hn:n<=64)(hlo:lo<=h.length)(hl:JN l<=1000000000000000000)
  (ih:∀m,n=m+1->∀lo ks h,lo<=h.length->JN ks<=1000000000000000000->E lo 65 [.list .no (JJ ks),.v (.int .i64 ((m:Int)))] h=some (.v (.bool (QN m ks)),h)):
  ∀(m k:Nat),k+m=l.length->if QN n (l.drop k)=true then
    JA (evCode ⟨Aa,E,lo,h.length,h65⟩ JA Y0) (N48 l ((n:Int)) k,h)=some (.exit 0,N48 l ((n:Int)) l.length++[(10,.v (.bool false))],h)
   else∃X,JA (evCode ⟨Aa,E,lo,h.length,h65⟩ JA Y0) (N48 l ((n:Int)) k,h)=some (.ret,[(4,.v (.bool false))],h++X):=by
 intro m
 induction m with
 |zero=>
  intro k hk;obtain rfl:k=l.length:=om
  rw[A0,if_pos (JC5 n),JB,JeB hlo,Jx]
 |succ m ihm=>
  intro k hk;have hlt:k<l.length:=om;have hg:l[k]? =some l[k]:=Ac hlt
  have hd:l.drop k=l[k]::l.drop (k+1):=Av hlt;rw[hd,JAJ];generalize l[k]=v at*;have hr:=JX0 hn hlo hl hg ih
  cases hm:JJl n v with
  |false=>
   rw[hm,if_neg (by simp)]at hr
   rw[As,if_neg (by simp)]
   exact⟨_,by rw[JB,hr,Kh]⟩
  |true=>rw[hm,if_pos rfl]at hr;rw[Aw,JB,hr,JO];exact ihm (k+1) om
theorem f65:∀(n:Nat),n<=64->∀(lo:Nat) (l:List CV) (h:JG),lo<=h.length->JN l<=1000000000000000000->E lo 65 [.list .no (JJ l),.v (.int .i64 ((n:Int)))] h=some (.v (.bool (QN n l)),h):=by
 intro n
 induction n with
 |zero=>
  intro hn lo l h hlo hl;have hL:=JUt (lo:=lo) (h:=h) hn hlo hl (λm hm=>by omega) l.length 0 om
  have n0:((0:Nat):Int)=0:=rfl;rw[AD]at hL;rw[e65]
  cases hm:QN 0 l with
  |false=>
   rw[hm,if_neg (by simp)]at hL
   obtain⟨X,hL⟩:=hL;simp only[Y0,b65,Tryz.f65,JK,loops,JC,go_sem,N48,n0]at hL
   simp only[go_sem,b65,Tryz.f65,hlo,hL,JD,n0]<;>rfl
  |true=>
   rw[hm,if_pos rfl]at hL;simp only[Y0,b65,Tryz.f65,JK,loops,JC,go_sem,N48,n0,AA,Au]at hL
   simp only[go_sem,b65,Tryz.f65,hlo,hL,JD,n0]<;>rfl
 |succ n ih=>
  intro hn lo l h hlo hl
  have hL:=JUt (lo:=lo) (h:=h) hn hlo hl (λm hm=>by
   obtain rfl:n=m:=om
   exact λlo ks h hlo hk=>ih om lo ks h hlo hk) l.length 0 om
  have n0:((0:Nat):Int)=0:=rfl;rw[AD]at hL;rw[e65]
  cases hm:QN (n+1) l with
  |false=>
   rw[hm,if_neg (by simp)]at hL
   obtain⟨X,hL⟩:=hL;simp only[Y0,b65,Tryz.f65,JK,loops,JC,go_sem,N48,n0]at hL
   simp only[go_sem,b65,Tryz.f65,hlo,hL,JD,n0]<;>rfl
  |true=>rw[hm,if_pos rfl]at hL;simp only[Y0,b65,Tryz.f65,JK,loops,JC,go_sem,N48,n0,AA,Au]at hL;simp only[go_sem,b65,Tryz.f65,hlo,hL,JD,n0]<;>rfl
theorem f33{l:List CV}(hlo:lo<=h.length)(hl:JN l<=1000000000000000000):E lo 33 [.list .no (JJ l)] h=some (.v (.bool (QN 64 l)),h):=by
 have k:=λlo hlo=>f65 64 om lo l h hlo hl
 rw[show((64:Nat):Int)=64 from rfl]at k
 have ka:=k lo hlo;have kb:=k h.length (Ad _);rw[e33];simp only[go_sem,b33,Tryz.f33,hlo,ka,kb]<;>rfl
abbrev JL2(out:List Tk4)(l:List CV)(k:Int):Jl:=[(3,.list .yes (out.map row)),(7,.list .no (JJ l)),(8,.v (.int .i64 l.length)),(9,.v (.int .i64 k))]
theorem JPU(out m:List Tk4):out.map row++m.map row=(out++m).map row:=by rw[List.map_append]
theorem JZR{n:Nat}(h:n<=1000000000):n*48<=140737488355328:=om
theorem JZS{n:Nat}(h:n<=1000000000):n<=9223372036854775807:=om
theorem JX1{l ks:List CV}{t:Tk4}{out:List Tk4}{k:Nat}(hlo:lo<=h.length)(hl:l.length<=1000000000)(hg:l[k]? =some (.mk t ks))(ho:out.length+(Ka ks).length+2<=1000000000)
  (ih:∀lo h,lo<=h.length->E lo 38 [.list .no (JJ ks)] h=some (.list .no ((Ka ks).map row),h)):
  evCode ⟨Aa,E,lo,h.length,h38⟩ JA JAo (JL2 out l k,h)=some (.normal,JL2 (out++JCX (.mk t ks)) l (k+1:Nat),h):=by
 have hlt:k<l.length:=(Ab.1 hg).1
 have hgr:(JJ l)[k]? =some (Js (.mk t ks)):=by rw[Jq,hg]<;>rfl
 have q:decide ((k:Int)<(l.length:Int))=true:=by simp;omega
 have hw:=JM (i:=k) om;have hlo':lo<=h.length+1:=om;have c42:=λlo hlo=>f17 (lo:=lo) (h:=h++[.cells (Js (.mk t ks))]) hlo t.k
 have c42a:=c42 lo (by simp;omega);have c42b:=c42 h.length (by simp);have c42c:=c42 (h.length+1) (by simp)
 have c30:=λlo hlo=>ih lo (h++[.cells (Js (.mk t ks))]) hlo
 have c30a:=c30 lo (by simp;omega);have c30b:=c30 h.length (by simp);have c30c:=c30 (h.length+1) (by simp)
 clear c42 c30 ih
 have hf:JCX (.mk t ks)=[t]++(Ka ks++clT (Ja t.k)):=by have:=JDA t ks [];rw[Wh,AE,Ka,Wh,AE]at this;exact this
 rw[hf];rw[JP]at*;have ra:=HZ out;have rb:=HZ (out++[t]);have rc:=HZ (out++[t]++Ka ks);have rk:=HZ (Ka ks);have rd:=HZ (out++t::Ka ks);have o8:(out.length+((Ka ks).length+1)+1)*48<=140737488355328:=JPP om;have o9:out.length+((Ka ks).length+1)<=9223372036854775806:=JUn om;have o1:(out.length+1)*48<=140737488355328:=JPP om
 have o2:out.length<=9223372036854775806:=JUn om;have o3:(out.length+1+(Ka ks).length)*48<=140737488355328:=JZR om;have o4:out.length+1+(Ka ks).length<=9223372036854775807:=JZS om;have o5:(out.length+1+(Ka ks).length+1)*48<=140737488355328:=JZR om;have o6:out.length+1+(Ka ks).length<=9223372036854775806:=JUn om;have o7:out.length+1<=9223372036854775807:=JZS om
 have hn:=jp t.k;by_cases hc:Ja t.k=0
 ·have qc:(Ja t.k !=0)=false:=by rw[hc]<;>rfl
  have e:clT (Ja t.k)=[]:=by rw[hc]<;>rfl
  rw[e,AE,<-Ax];simp only[go_sem,JAo,b38,Tryz.f38,hlo,hlo',q,hgr,hw,qc,c42a,c42b,c42c,c30a,c30b,c30c,ra,rb,rc,rk,o1,o2,o3,o4,o5,o6,o7,o8,o9,rd,Gh,JPU,zD,JD,Aq,Ao,Ae,Ai,AC]<;>rfl
 ·have qc:(Ja t.k !=0)=true:=by rw[bne_iff_ne];exact hc
  have e:clT (Ja t.k)=[Rul.bare (Ja t.k)]:=by unfold clT;rw[if_pos om]
  rw[e,<-Ax,<-Ax];simp only[go_sem,JAo,b38,Tryz.f38,hlo,hlo',q,hgr,hw,qc,c42a,c42b,c42c,c30a,c30b,c30c,ra,rb,rc,rk,o1,o2,o3,o4,o5,o6,o7,o8,o9,rd,Gh,JPU,zD,JD,Aq,Ao,Ae,Ai,AC]<;>rfl
theorem JeC{l:List CV}{out:List Tk4}(hlo:lo<=h.length):evCode ⟨Aa,E,lo,h.length,h38⟩ JA JAo (JL2 out l l.length,h)=
   some (.exit 0,JL2 out l l.length++[(10,.v (.bool false))],h):=by
 have q:decide ((l.length:Int)<(l.length:Int))=false:=by simp
 simp only[go_sem,JAo,b38,Tryz.f38,hlo,q]<;>rfl
theorem JRe(v:CV)(r:List CV):Ka (v::r)=JCX v++Ka r:=by rw[Ka]
theorem JUu{l:List CV}(hlo:lo<=h.length)(hl:JN l<=100000000)(ih:∀v∈l,∀lo h,lo<=h.length->E lo 38 [.list .no (JJ v.ks)] h=some (.list .no ((Ka v.ks).map row),h)):
  ∀(m k:Nat) (out:List Tk4),k+m=l.length->out.length+2*JN (l.drop k)<=900000000->
   JA (evCode ⟨Aa,E,lo,h.length,h38⟩ JA JAo) (JL2 out l k,h)=some (.exit 0,JL2 (out++Ka (l.drop k)) l l.length++[(10,.v (.bool false))],h):=by
 have hlen:=JV l;intro m
 induction m with
 |zero=>
  intro k out hk _;obtain rfl:k=l.length:=om
  rw[A0,Wh,AE,JB,JeC hlo,Jx]
 |succ m ihm=>
  intro k out hk ho;have hlt:k<l.length:=om;have hg:l[k]? =some l[k]:=Ac hlt
  have hd:l.drop k=l[k]::l.drop (k+1):=Av hlt;have him:=ih l[k] (List.getElem_mem hlt);rw[hd,JRe];rw[hd,J6]at ho;generalize l[k]=v at*;obtain⟨t,ks⟩:=v;rw[Kj]at ho;have hfl:=G3 ks;have hfv:=JGq (.mk t ks);rw[Kj]at hfv;rw[JB,JX1 hlo om hg om him,JO,ihm (k+1) _ om (by rw[Ao];omega),Ax]
theorem f38:∀(n:Nat) (l:List CV),JN l<=n->n<=100000000->∀(lo:Nat) (h:JG),lo<=h.length->E lo 38 [.list .no (JJ l)] h=some (.list .no ((Ka l).map row),h):=by
 intro n
 induction n with
 |zero=>
  intro l hl hn lo h hlo
  have:l=[]:=by have:=JV l;exact List.eq_nil_of_length_eq_zero om
  subst this;have hL:=JUu (lo:=lo) (h:=h) (l:=[]) hlo om (λv hv=>by cases hv) 0 0 [] rfl (by rw[CB,Qd];simp)
  have n0:((0:Nat):Int)=0:=rfl;rw[e38];simp only[JAo,b38,Tryz.f38,JK,loops,JC,go_sem,JL2,n0,BJ,AA,Au,CB,Wh,JX,Ai]at hL
  simp only[go_sem,b38,Tryz.f38,hlo,hL,JX,Ai,n0,Wh,BJ]<;>rfl
 |succ n ihn=>
  intro l hl hn lo h hlo;have hL:=JUu (lo:=lo) (h:=h) (l:=l) hlo om (λv hv lo h hlo=>ihn v.ks (by have:=KO hv;rw[Qj]at this;omega) om lo h hlo) l.length 0 [] om (by rw[AD];simp;omega)
  have n0:((0:Nat):Int)=0:=rfl;rw[AD,Au]at hL;rw[e38];simp only[JAo,b38,Tryz.f38,JK,loops,JC,go_sem,JL2,n0,BJ,AA,Au]at hL;simp only[go_sem,b38,Tryz.f38,hlo,hL,JD,n0]<;>rfl
end Go.Lift.Y1
end

section
open Go.Proofs
namespace Go.Lift.Y1
variable{lo:Nat}{h:JG}
theorem JeD{a b:Int}{r:V}(hm:HT qM lo [.v (.int .i64 a),.v (.int .i64 b)] h=some (r,h)):E lo 45 [.v (.int .i64 a),.v (.int .i64 b)] h=some (r,h):=(JJd (p:=HT qM) rfl).trans hm
theorem q65:E lo 45 [.v (.int .i64 6),.v (.int .i64 5)] h=some (rt 6 5,h):=JeD (by unfold qM HT;rw[if_pos kr])
theorem v1:kY [.v (.int .i64 1),.v (.int .i64 1)] [.v (.int .i64 6),.v (.int .i64 5)]=false:=kr
theorem v2:kY [.v (.int .i64 0),.v (.int .i64 1)] [.v (.int .i64 6),.v (.int .i64 5)]=false:=kr
theorem v3:kY [.v (.int .i64 0),.v (.int .i64 1)] [.v (.int .i64 1),.v (.int .i64 1)]=false:=kr
theorem q11:E lo 45 [.v (.int .i64 1),.v (.int .i64 1)] h=some (rt 1 1,h):=JeD (by unfold qM HT;rw[v1,if_neg (by simp)];unfold HT;rw[if_pos kr])
theorem q01:E lo 45 [.v (.int .i64 0),.v (.int .i64 1)] h=some (rt 0 1,h):=JeD (by unfold qM HT;rw[v2,if_neg (by simp)];unfold HT;rw[v3,if_neg (by simp)];unfold HT;rw[if_pos kr])
theorem f40{n:Int}(hlo:lo<=h.length):E lo 40 [.v (.int .i64 n)] h=some (rt n 1,h):=by rw[e40];simp only[go_sem,b40,Tryz.f40,hlo]<;>rfl
theorem f15{n:Int}(hlo:lo<=h.length):E lo 15 [.v (.int .i64 n)] h=some (.agg [.v (.int .i64 1),.v (.int .i64 n),.v (.int .i64 1),.v (.string ⟨#[]⟩)],h):=by
 have l1:lo<=h.length+1:=om;have c:=λlo h hlo=>f40 (lo:=lo) (h:=h) (n:=n) hlo
 unfold rt at c;rw[e15];simp only[go_sem,b15,Tryz.f15,hlo,l1,c,Ad]<;>rfl
theorem f14{s:ByteArray}(hlo:lo<=h.length):E lo 14 [.v (.string s)] h=some (.agg [.v (.int .i64 3),.v (.int .i64 0),.v (.int .i64 0),.v (.string s)],h):=by rw[e14];simp only[go_sem,b14,Tryz.f14,hlo]<;>rfl
theorem f16{a b:Int}(hlo:lo<=h.length)(hq:∀lo h,E lo 45 [.v (.int .i64 a),.v (.int .i64 b)] h=some (rt a b,h)):E lo 16 [.v (.int .i64 a),.v (.int .i64 b)] h=some (.agg [.v (.int .i64 2),.v (.int .i64 a),.v (.int .i64 b),.v (.string ⟨#[]⟩)],h):=by unfold rt at hq;rw[e16];simp only[go_sem,b16,Tryz.f16,hlo,hq]<;>rfl
theorem f6(hlo:lo<=h.length):E lo 6 [] h=some (.list .no (tblP.map W6),h):=by
 have k48:=λlo h s hlo=>f14 (lo:=lo) (h:=h) hlo (s:=s)
 have k49:=λlo h n hlo=>f15 (lo:=lo) (h:=h) hlo (n:=n)
 have k65:=λlo h hlo=>f16 (lo:=lo) (h:=h) hlo (a:=6) (b:=5) λ_ _=>q65
 have k11:=λlo h hlo=>f16 (lo:=lo) (h:=h) hlo (a:=1) (b:=1) λ_ _=>q11
 have k01:=λlo h hlo=>f16 (lo:=lo) (h:=h) hlo (a:=0) (b:=1) λ_ _=>q01
 rw[e6];simp only[go_sem,b6,Tryz.f6,hlo,k48,k49,k65,k11,k01];all_goals(refine congrArg (λx=>(x,h)) ?_;show _=_;kernel_rfl)
end Go.Lift.Y1
end

section
open Go.Proofs
namespace Go.Lift.Y1
open Rul
open Utf (By)
variable{lo:Nat}{h:JG}
noncomputable abbrev N11(h:JG)(s:ByteArray)(j:Int):Jl:=[(0,.v (.string s)),(2,.ptr h.length 0),(6,.list .no (tblP.map W6)),(7,.v (.int .i64 14)),(8,.v (.int .i64 j))]
def Hu:List V:=[.v (.string AQ),.v (.int .i64 0),.v (.bool false),.v (.bool false),.list .yes [],.v (.int .i64 0),.v (.int .i64 0),.v (.int .i64 0),.v (.string AQ)]
theorem zG(p:PR):∃a b c d,W6 p=[.v (.string p.n),.v (.int .i64 p.k),.v (.bool p.d),.v (.bool p.l),.list .no (JJr p.w),.v (.int .i64 a),.v (.int .i64 b),.v (.int .i64 c),.v (.string d)]:=by
 unfold W6 JUN
 split
 ·exact⟨_,_,_,_,rfl⟩
 ·split
  ·exact⟨_,_,_,_,rfl⟩
  ·exact⟨_,_,_,_,rfl⟩
theorem r31{s:ByteArray}{j:Nat}{p:PR}(hlo:lo<=h.length)(hp:tblP[j]? =some p):
  evCode ⟨Aa,E,lo,h.length,h31⟩ JA yt (N11 h s j,h++[.cells Hu])=if(s.toList==p.n.toList)=true then some (.ret,[(2,.ptr h.length 0),(3,.v (.int .i64 j))],h++[.cells (W6 p),.cells (W6 p)])else some (.normal,N11 h s (j+1:Nat),h++[.cells Hu]):=by
 have l1:lo<=h.length+1:=om;have hlt:j<14:=(Ab.1 hp).1
 have hgr:(tblP.map W6)[j]? =some (W6 p):=by simp[hp]
 have q1:decide ((j:Int)<14)=true:=by rw[decide_eq_true_iff];omega
 have t1:Int.toNat (j:Int)=j:=om;have hw:=JM (i:=j) om;have hs:(p.n.toList==s.toList)=(s.toList==p.n.toList):=by rw[BO,beq_iff_eq,beq_iff_eq];exact⟨Eq.symm,Eq.symm⟩
 obtain⟨a,b,c,d,e⟩:=zG p;rw[e]at hgr⊢
 cases hq:s.toList==p.n.toList with
 |true=>
  rw[hq]at hs;rw[if_pos rfl]
  simp only[N11,Hu,go_sem,yt,b31,Tryz.f31,hlo,l1,q1,hgr,t1,hw,hs]<;>rfl
 |false=>
  rw[hq]at hs;rw[if_neg (by simp)]
  simp only[N11,Hu,go_sem,yt,b31,Tryz.f31,hlo,l1,q1,hgr,t1,hw,hs]<;>rfl
theorem JeG{s:ByteArray}(hlo:lo<=h.length):
  evCode ⟨Aa,E,lo,h.length,h31⟩ JA yt (N11 h s (14:Nat),h++[.cells Hu])=some (.exit 0,N11 h s (14:Nat)++[(9,.v (.bool false))],h++[.cells Hu]):=by
 have l1:lo<=h.length+1:=om;have q1:decide (((14:Nat):Int)<14)=false:=rfl;simp only[N11,Hu,go_sem,yt,b31,Tryz.f31,hlo,l1,q1]<;>rfl
theorem JUv{s:ByteArray}{j:Nat}{p:PR}(hp:tblP[j]? =some p):atL s (tblP.drop j) j=if(s.toList==p.n.toList)=true then some j else atL s (tblP.drop (j+1)) (j+1):=by
 obtain⟨hlt,rfl⟩:=Ab.1 hp
 rw[Av hlt]<;>rfl
theorem JUw{s:ByteArray}(hlo:lo<=h.length):∀m j:Nat,j+m=14->
  (∃i p,atL s (tblP.drop j) j=some i/\tblP[i]? =some p/\JA (evCode ⟨Aa,E,lo,h.length,h31⟩ JA yt) (N11 h s j,h++[.cells Hu])=some (.ret,[(2,.ptr h.length 0),(3,.v (.int .i64 i))],h++[.cells (W6 p),.cells (W6 p)]))\/
  (atL s (tblP.drop j) j=none/\JA (evCode ⟨Aa,E,lo,h.length,h31⟩ JA yt) (N11 h s j,h++[.cells Hu])=some (.exit 0,N11 h s (14:Nat)++[(9,.v (.bool false))],h++[.cells Hu]))
 |0,j,hk=>by
  obtain rfl:j=14:=om
  exact .inr ⟨rfl,by rw[JB,JeG hlo,Jx]⟩
 |m+1,j,hk=>by
  have hlt:j<tblP.length:=by show j<14;omega
  have hp:=Ac hlt
  rw[JUv hp,JB,r31 hlo hp];by_cases hq:(s.toList==tblP[j].n.toList)=true
  ·rw[if_pos hq,if_pos hq,Kh]
   exact .inl ⟨j,_,rfl,hp,rfl⟩
  ·rw[if_neg hq,if_neg hq,JO]
   exact JUw hlo m (j+1) om
theorem f31{s:ByteArray}(hlo:lo<=h.length):
  (∃i p,atL s tblP 0=some i/\tblP[i]? =some p/\E lo 31 [.v (.string s)] h=some (.tup [.agg (W6 p),.v (.int .i64 i)],h))\/
  (atL s tblP 0=none/\E lo 31 [.v (.string s)] h=some (.tup [.agg JCu,.v (.int .i64 (-1))],h)):=by
 have l1:lo<=h.length+1:=om;have c6:=λlo h hlo=>f6 (lo:=lo) (h:=h) hlo
 have hn:((tblP.map W6).length:Int)=14:=rfl;have hL:=JUw (s:=s) hlo 14 0 rfl;rw[AD]at hL;rw[e31];rcases hL with⟨i,p,h1,h2,hL⟩|⟨h1,hL⟩
 ·refine .inl ⟨i,p,h1,h2,?_⟩
  obtain⟨a,b,c,d,e⟩:=zG p;rw[e]at hL⊢;simp only[yt,b31,Tryz.f31,JK,loops,JC,N11,Hu,go_sem]at hL;simp only[go_sem,b31,Tryz.f31,hlo,l1,c6,hn,hL]<;>rfl
 ·refine .inr ⟨h1,?_⟩
  simp only[yt,b31,Tryz.f31,JK,loops,JC,N11,Hu,go_sem]at hL;simp only[go_sem,b31,Tryz.f31,hlo,l1,c6,hn,hL]<;>rfl
theorem JRf:(tblP.all λp=>decide ((Go.Lib.fields p.w.data.toList).length<=1000000000))=true:=kr
theorem JN7:JCu=JL ⟨#[]⟩ 0 false false [] 0 0 0 ⟨#[]⟩:=rfl
theorem JN8{p:PR}(hp:p∈tblP):∃n k d l ws ck a b w,W6 p=JL n k d l ws ck a b w/\ws.length<=1000000000:=by
 have hw:=Ak.1 JRf p hp;obtain⟨a,b,c,d,e⟩:=zG p;refine⟨p.n,p.k,p.d,p.l,(Go.Lib.fields p.w.data.toList).map λl=>⟨l.toArray⟩,a,b,c,d,?_,?_⟩
 rotate_left
 ·rw[Aq]
  exact of_decide_eq_true hw
 ·rw[e]
  unfold JL;rw[List.map_map]<;>rfl
end Go.Lift.Y1
end

section
open Go.Proofs
namespace Go.Lift.Y1
open Utf Tok Spell
section
variable{lo:Nat}{h:JG}
theorem f72{n:Int}(h0: -9223372036854775808<=n)(h1:n<=9223372036854775807):E lo 72 [.v (.int .i64 n)] h=some (.v (.int .u64 n.natAbs),h):=by
 rw[e72];by_cases hn:n<0
 ·have q:decide (n<0)=true:=by simp[hn]
  have w1:Am.wrap (n+1)=n+1:=JW om om;have w2:Am.wrap (0-(n+1))=0-(n+1):=JW om om;have w3:Ba.wrap (0-(n+1))=0-(n+1):=QB om om;have w4:Ba.wrap (0-(n+1)+1)=(n.natAbs:Int):=by rw[QB om om];omega
  simp only[go_sem,b72,Tryz.f72,q,w1,w2,w3,w4]<;>rfl
 ·have q:decide (n<0)=false:=by simp;omega
  have w1:Ba.wrap n=(n.natAbs:Int):=by rw[QB om om];omega
  simp only[go_sem,b72,Tryz.f72,q,w1]<;>rfl
theorem JX2:∀(m a b:Nat),b<=m->JA (evCode ⟨Aa,E,lo,h.length,JT9⟩ JA z7) ([(0,.v (.int .u64 a)),(1,.v (.int .u64 b))],h)=
  some (.exit 0,[(0,.v (.int .u64 (Df a b))),(1,.v (.int .u64 0)),(6,.v (.bool false))],h):=by
 have stop:∀a:Nat,JA (evCode ⟨Aa,E,lo,h.length,JT9⟩ JA z7) ([(0,.v (.int .u64 a)),(1,.v (.int .u64 (0:Nat)))],h)=
  some (.exit 0,[(0,.v (.int .u64 (Df a 0))),(1,.v (.int .u64 0)),(6,.v (.bool false))],h):=by
  intro a;have q:decide (0<((0:Nat):Int))=false:=rfl;rw[JB,Nat.gcd_zero_right];simp only[go_sem,z7,JRQ,Tryz.f124,q]<;>rfl
 intro m
 induction m with
 |zero=>
  intro a b ha;obtain rfl:b=0:=om
  exact stop a
 |succ m ih=>
  intro a b ha;by_cases h0:b=0
  ·subst h0;exact stop a
  have q:decide (0<(b:Int))=true:=by simp;omega
  have z:¬((b:Int)=0):=om;have t:=JLn b a
  have er:evCode ⟨Aa,E,lo,h.length,JT9⟩ JA z7 ([(0,.v (.int .u64 a)),(1,.v (.int .u64 b))],h)=some (.normal,[(0,.v (.int .u64 b)),(1,.v (.int .u64 ((a%b:Nat):Int)))],h):=by simp only[go_sem,z7,JRQ,Tryz.f124,q,z,t]<;>rfl
  rw[JB,er,JO,ih b (a%b) (by have:=Nat.mod_lt a (by omega:0<b);omega),Nat.gcd_comm a b,Nat.gcd_rec b a,Nat.gcd_comm (a%b) b]
theorem f124{a b:Nat}:E lo 124 [.v (.int .u64 a),.v (.int .u64 b)] h=some (.v (.int .u64 (Df a b)),h):=by have hL:=JX2 (lo:=lo) (h:=h) b a b (Ad _);simp only[z7,JRQ,Tryz.f124,JK,loops,JC,go_sem]at hL;rw[JrK];simp only[go_sem,JRQ,Tryz.f124,hL]<;>rfl
theorem f101{n d:Int}(h0: -9223372036854775808<=n)(h1:n<=9223372036854775807)(h2:d<=9223372036854775807)(hlo:lo<=h.length):
  E lo 101 [.agg [.v (.int .i64 n),.v (.int .i64 d)]] h=some (.v (.bool (y0 n d)),h):=by
 unfold y0 JO7;rw[Jqu]
 cases q0:(n==0&&d==0)with
 |true=>
  rw[Af]at q0;obtain⟨qn,qd⟩:=q0
  simp only[go_sem,JJm,Tryz.f101,qn,qd,hlo,Bp]<;>rfl
 |false=>
  rw[A3];have k1:=λlo h=>f72 (lo:=lo) (h:=h) h0 h1
  have k2:=λlo h=>f124 (lo:=lo) (h:=h) (a:=n.natAbs) (b:=d.toNat)
  have k3:((Df n.natAbs d.toNat:Int)==1)=(Df n.natAbs d.toNat==1):=by rw[BO,beq_iff_eq,beq_iff_eq];omega
  have main:∀b1 b2:Bool,(n==0)=b1->(d==0)=b2->(b1&&b2)=false->fin Aa [.tmp 2] h.length (evCode ⟨Aa,E,lo,h.length,Jcc⟩ JA JJm (QH [.agg [.v (.int .i64 n),.v (.int .i64 d)]],h))=
    some (.v (.bool (decide (1<=d)&&n != -9223372036854775808&&Df n.natAbs d.toNat==1)),h):=by
   intro b1 b2 e1 e2 e3;by_cases hd:1<=d
   rotate_left
   ·have q:decide (1<=d)=false:=by simp;omega
    rw[q]
    cases b1 with
    |false=>simp only[go_sem,JJm,Tryz.f101,e1,q,hlo,As]
    |true=>
     cases b2 with
     |true=>cases e3
     |false=>simp only[go_sem,JJm,Tryz.f101,e1,e2,q,hlo,As]
   have q:decide (1<=d)=true:=by simp[hd]
   by_cases hn:n= -9223372036854775808
   ·have q2:(n != -9223372036854775808)=false:=by simp[hn]
    rw[q,q2]
    cases b1 with
    |false=>simp only[go_sem,JJm,Tryz.f101,e1,q,q2,hlo,As,Bl]
    |true=>
     cases b2 with
     |true=>cases e3
     |false=>simp only[go_sem,JJm,Tryz.f101,e1,e2,q,q2,hlo,As,Bl]
   have q2:(n != -9223372036854775808)=true:=by simp[hn]
   have w1:Ba.wrap d=(d.toNat:Int):=by rw[QB om om];omega
   rw[q,q2]
   cases b1 with
   |false=>simp only[go_sem,JJm,Tryz.f101,e1,q,q2,w1,k1,k2,k3,hlo,Aw,B7]
   |true=>
    cases b2 with
    |true=>cases e3
    |false=>simp only[go_sem,JJm,Tryz.f101,e1,e2,q,q2,w1,k1,k2,k3,hlo,Aw,B7]
  exact main _ _ rfl rfl q0
end
section
variable{lo:Nat}{h:JG}
theorem f96{n d:Int}(h0: -9223372036854775808<=n)(h1:n<=9223372036854775807)(h2:d<=9223372036854775807)(hlo:lo<=h.length):
  E lo 96 [.agg [.v (.int .i64 n),.v (.int .i64 d)]] h=some (.agg (if y0 n d=true then[.v (.int .i64 n),.v (.int .i64 d)]else[.v (.int .i64 0),.v (.int .i64 0)]),h):=by
 have l1:lo<=h.length+1:=om;have l2:lo<=h.length+1+1:=om;have c:=λlo h hlo=>f101 (lo:=lo) (h:=h) h0 h1 h2 hlo
 have c103:∀lo h,lo<=h.length->E lo 103 [] h=some (.agg [.v (.int .i64 0),.v (.int .i64 0)],h):=λlo h hlo=>by rw[Jjx];simp only[go_sem,Jdn,Tryz.f103,hlo]<;>rfl
 rw[e96]
 cases hm:y0 n d with
 |true=>
  rw[hm]at c;rw[if_pos rfl]
  simp only[go_sem,b96,Tryz.f96,hlo,l1,l2,c]<;>rfl
 |false=>
  rw[hm]at c;rw[if_neg (by simp)]
  simp only[go_sem,b96,Tryz.f96,hlo,l1,l2,c,c103]<;>rfl
end
end Go.Lift.Y1
end

section
namespace Go.Lift.Rul
def Hy(r:X×Bool):Option X:=if r.2=true then some r.1 else none
def yD:Option X->X×Bool
 |none=>(Jt,false)
 |some e=>(e,true)
theorem JJ9(o:Option X):Hy (yD o)=o:=by cases o<;>rfl
def mdC(v:CV):Bool:=v.k==9&&(v.t.b==[42]||v.t.b==[47])
def pmC(v:CV):Bool:=v.k==9&&(v.t.b==[43]||v.t.b==[45])
def kU(k:Int)(b:Bool)(x:X):X:=if b=true then .mk k 0 0 0 [x]else x
def Kk(op:CV->Option X)(c:List CV)(over:Bool)(ks:List X):Option (List X):=
 match Jh c with
 |[v]=>(op v).map λx=>ks++[kU 5 over x]
 |_=>none
def zH(op:CV->Option X):List CV->Bool->List X->List CV->Option (List X)
 |c,over,ks,[]=>Kk op c over ks
 |c,over,ks,v::r=>if mdC v=true then(match Kk op c over ks with
   |some ks'=>zH op [] (v.t.b==[47]) ks' r
   |none=>none)
  else zH op (c++[v]) over ks r
def HC(op:CV->Option X)(l:List CV):Option X:=(zH op [] false [] l).map λks=>KC (.mk 4 0 0 0 ks)
def QK:List CV->Bool
 |[]=>false
 |v::_=>JU v
def WA(op:CV->Option X):List CV->Bool->Bool->List X->List CV->Option (List X)
 |c,sp,m,ks,[]=>(HC op c).map λx=>ks++[kU 3 m x]
 |c,sp,m,ks,v::r=>if(pmC v&&(sp&&QK r))=true then(match HC op c with
   |some x=>WA op [] false (v.t.b==[45]) (ks++[kU 3 m x]) r
   |none=>none)
  else WA op (c++[v]) (JU v) m ks r
def JN9(op:CV->Option X)(l:List CV):Option X:=(WA op [] false false [] (Jh l)).map λks=>KC (.mk 2 0 0 0 ks)
def jV:Nat->List CV->Option X
 |0,_=>none
 |n+1,l=>JN9 (λv=>Hy (zZ (λp=>yD (jV n p)) v)) l
def JKA(op:CV->Option X):Nat->Bool->List X->List X->List CV->Option (List X)
 |0,_,_,_,_=>none
 |n+1,m,ks,ps,s=>
  match Ju s with
  |[]=>if s.isEmpty=true then some (ks++[kU 3 m (KC (.mk 4 0 0 0 ps))])else none
  |v::r=>
   match Ju r with
   |[]=>none
   |u::r'=>
    match op u with
    |none=>none
    |some x=>
     if mdC v=true then JKA op n m ks (ps++[kU 5 (v.t.b==[47]) x]) r'
     else if(pmC v&&(QK s&&QK r))=true then JKA op n (v.t.b==[45]) (ks++[kU 3 m (KC (.mk 4 0 0 0 ps))]) [x] r'
     else none
theorem drop_take(l:List CV):l.drop (l.takeWhile JU).length=Ju l:=by
 unfold Ju
 induction l with
 |nil=>rfl
 |cons v l ih=>
  rw[CD,A8]
  split
  ·rw[Ae,List.drop_succ_cons];exact ih
  ·rfl
theorem JAO(t:List CV)(a:Nat):t.drop (skipS t a)=Ju (t.drop a):=by unfold skipS;rw[<-AY,drop_take]
theorem JL3(t:List CV)(a:Nat):t[skipS t a]? =(Ju (t.drop a)).head? :=by rw[<-JAO,DA]
theorem JL4(t:List CV)(a:Nat):decide (a<skipS t a)=QK (t.drop a):=by
 unfold skipS
 cases t.drop a with
 |nil=>simp[QK]
 |cons v r=>
  rw[CD];unfold QK
  split
  ·rename_i h;simp[h]
  ·rename_i h;simp at h;simp[h]
theorem zJ{l:List CV}{v:CV}{r:List CV}(h:Ju l=v::r):JU v=false:=by
 unfold Ju at h;have:=List.head?_dropWhile_not JU l
 rw[h]at this;simpa using this
theorem JL5{t:List CV}{a:Nat}{x y:Int}{ap:Bool}(h:Ju (t.drop a)=[]):KS t a x y ap=(none,a):=by unfold KS;rw[JL3,h]<;>rfl
theorem JHp{t:List CV}{a:Nat}{x y:Int}{ap:Bool}{v:CV}{r:List CV}(h:Ju (t.drop a)=v::r):
  ∃p,t.drop p=Ju r/\a<p/\KS t a x y ap=if(v.k==9&&((v.t.b==[x]||v.t.b==[y])&&(!ap||(QK (t.drop a)&&QK r))))=true then(some (!(v.t.b==[x])),p)else(none,a):=by
 have hd:t.drop (skipS t a+1)=r:=by rw[<-AY,JAO,h]<;>rfl
 refine⟨skipS t (skipS t a+1),?_,?_,?_⟩
 ·rw[JAO,hd]
 ·unfold skipS;omega
 ·unfold KS
  rw[JL3,h];simp only[List.head?_cons]
  rw[JL4,JL4,hd]
  cases v.k==9 with
  |false=>simp
  |true=>simp
section
variable{op':CV->X×Bool}{t:List CV}
def WS(op':CV->X×Bool)(t:List CV)(f a:Nat)(ps:List X):X×Bool×Nat:=
 match KP (J5 op' t) (λa=>KS t a 42 47 false) 5 f a ps with
 | .inl (e',a')=>(e',false,a')
 | .inr (ks,a')=>(KC (.mk 4 0 0 0 ks),true,a')
def ja(op':CV->X×Bool)(t:List CV)(g:Nat)(m:Bool)(ks:List X):X×Bool×Nat->Option (List X)
 |(_,false,_)=>none
 |(e,true,a)=>match KP (WO op' t) (λa=>KS t a 43 45 true) 3 g a (ks++[kU 3 m e])with
  | .inl _=>none
  | .inr (ks',a')=>if a'=t.length then some ks' else none
theorem Hl{a:Nat}(h:t.drop a=[]):J5 op' t a=(Jt,false,a):=by unfold J5;rw[show t[a]? =none by rw[<-DA,h]<;>rfl]
theorem Hm{a:Nat}{u:CV}{r:List CV}(h:t.drop a=u::r):J5 op' t a=((op' u).1,(op' u).2,a+1):=by unfold J5;rw[show t[a]? =some u by rw[<-DA,h]<;>rfl]
theorem JDG{r:X×Bool}(h:r.2=false):Hy r=none:=by unfold Hy;rw[h]<;>rfl
theorem JDH{r:X×Bool}(h:r.2=true):Hy r=some r.1:=by unfold Hy;rw[h]<;>rfl
theorem JeH{v:CV}(h:mdC v=true):(!(v.t.b==[42]))=(v.t.b==[47]):=by
 unfold mdC at h;rw[Af,AU]at h;rcases h.2 with h|h
 ·have e:v.t.b=[42]:=by simpa using h
  rw[e]<;>rfl
 ·have e:v.t.b=[47]:=by simpa using h
  rw[e]<;>rfl
theorem JeJ{v:CV}(h:pmC v=true):(!(v.t.b==[43]))=(v.t.b==[45]):=by
 unfold pmC at h;rw[Af,AU]at h;rcases h.2 with h|h
 ·have e:v.t.b=[43]:=by simpa using h
  rw[e]<;>rfl
 ·have e:v.t.b=[45]:=by simpa using h
  rw[e]<;>rfl
theorem JDJ:∀(d a f g:Nat) (m:Bool) (ks ps:List X),a<=t.length->t.length-a<d->t.length-a<f->t.length-a<g->
  ja op' t g m ks (WS op' t f a ps)=JKA (λv=>Hy (op' v)) d m ks ps (t.drop a)
 |0,_,_,_,_,_,_,_,h,_,_=>absurd h (Dr _)
 |_+1,_,0,_,_,_,_,_,_,h,_=>absurd h (Dr _)
 |_+1,_,_+1,0,_,_,_,_,_,_,h=>absurd h (Dr _)
 |d+1,a,f+1,g+1,m,ks,ps,ha,hd,hf,hg=>by
  have stop:∀(hs:KS t a 42 47 false=(none,a)),WS op' t (f+1) a ps=(KC (.mk 4 0 0 0 ps),true,a):=λhs=>by unfold WS;rw[KP,hs]
  have stop2:∀(e:X) (hs:KS t a 43 45 true=(none,a)),ja op' t (g+1) m ks (e,true,a)=if a=t.length then some (ks++[kU 3 m e])else none:=λe hs=>by unfold ja;simp only;rw[KP,hs]
  cases hl:Ju (t.drop a)with
  |nil=>
   rw[stop (JL5 hl),stop2 _ (JL5 hl)];rw[JKA,hl];simp only
   have:(a=t.length)↔((t.drop a).isEmpty=true):=by rw[List.isEmpty_iff,List.drop_eq_nil_iff];omega
   by_cases q:a=t.length
   ·rw[if_pos q,if_pos (this.1 q)]
   ·rw[if_neg q,if_neg (λc=>q (this.2 c))]
  |cons v r=>
   have hne:a≠t.length:=λq=>by rw[q,A0]at hl;cases hl
   obtain⟨p,hp,hap,hs⟩:=JHp (x:=42) (y:=47) (ap:=false) hl;obtain⟨p2,hp2,hap2,hs2⟩:=JHp (x:=43) (y:=45) (ap:=true) hl;rw[show(v.k==9&&((v.t.b==[42]||v.t.b==[47])&&(!false||(QK (t.drop a)&&QK r))))=mdC v by unfold mdC;simp]at hs
   rw[show(v.k==9&&((v.t.b==[43]||v.t.b==[45])&&(!true||(QK (t.drop a)&&QK r))))=(pmC v&&(QK (t.drop a)&&QK r))by unfold pmC;simp[Bool.and_assoc]]at hs2
   rw[JKA,hl];simp only;by_cases hm:mdC v=true
   ·rw[if_pos hm]at hs
    have eP:WS op' t (f+1) a ps=(match J5 op' t p with
      |(e,false,a')=>(e,false,a')
      |(e,true,a')=>WS op' t f a' (ps++[kU 5 (v.t.b==[47]) e])):=by
     unfold WS;rw[KP,hs];simp only;rcases J5 op' t p with⟨e,b,a'⟩
     cases b with
     |false=>rfl
     |true=>simp only;rw[JeH hm]<;>rfl
    rw[eP]
    cases hr:Ju r with
    |nil=>rw[Hl (hp.trans hr)]<;>rfl
    |cons u r'=>
     have hu:=hp.trans hr
     have hlen:p<t.length:=by
      rcases Ay p t.length with h|h
      ·exact h
      ·rw[AZ h]at hu;cases hu
     rw[Hm hu]
     cases ho:(op' u).2 with
     |false=>simp only;rw[JDG ho]<;>rfl
     |true=>simp only;rw[JDH ho];simp only;rw[if_pos hm,JDJ d (p+1) f (g+1) m ks _ om om om om];rw[<-AY,hu]<;>rfl
   ·rw[if_neg hm]at hs
    rw[stop hs];by_cases hq:(pmC v&&(QK (t.drop a)&&QK r))=true
    ·rw[if_pos hq]at hs2
     have hpm:pmC v=true:=by rw[Af]at hq;exact hq.1
     have eS:ja op' t (g+1) m ks (KC (.mk 4 0 0 0 ps),true,a)=(match J5 op' t p2 with
       |(e,false,a')=>none
       |(e,true,a')=>ja op' t g (v.t.b==[45]) (ks++[kU 3 m (KC (.mk 4 0 0 0 ps))]) (WS op' t (t.length+1) a' [e])):=by
      rw[show ja op' t (g+1) m ks (KC (.mk 4 0 0 0 ps),true,a)=(match KP (WO op' t) (λa=>KS t a 43 45 true) 3 (g+1) a (ks++[kU 3 m (KC (.mk 4 0 0 0 ps))])with
       | .inl _=>none
       | .inr (ks',a')=>if a'=t.length then some ks' else none)from rfl]
      rw[KP,hs2];simp only
      have ep:WO op' t p2=(match J5 op' t p2 with
       |(e,false,a)=>(e,false,a)
       |(e,true,a)=>WS op' t (t.length+1) a [e]):=by
       unfold WO Q1;rcases J5 op' t p2 with⟨e,b,a'⟩
       cases b<;>rfl
      rw[ep];rcases J5 op' t p2 with⟨e,b,a'⟩
      cases b with
      |false=>rfl
      |true=>
       simp only;rcases WS op' t (t.length+1) a' [e]with⟨e2,b2,a2⟩
       cases b2 with
       |false=>rfl
       |true=>simp only[ja];rw[JeJ hpm]<;>rfl
     rw[eS]
     cases hr:Ju r with
     |nil=>rw[Hl (hp2.trans hr)]
     |cons u r'=>
      have hu:=hp2.trans hr
      have hlen:p2<t.length:=by
       rcases Ay p2 t.length with h|h
       ·exact h
       ·rw[AZ h]at hu;cases hu
      rw[Hm hu]
      cases ho:(op' u).2 with
      |false=>simp only;rw[JDG ho]
      |true=>simp only;rw[JDH ho];simp only;rw[if_neg hm,if_pos hq,JDJ d (p2+1) (t.length+1) g _ _ _ om om om om];rw[<-AY,hu]<;>rfl
    ·rw[if_neg hq]at hs2
     rw[stop2 _ hs2,if_neg hne]
     cases Ju r with
     |nil=>rfl
     |cons u r'=>
      simp only
      cases Hy (op' u)with
      |none=>rfl
      |some x=>simp only;rw[if_neg hm,if_neg hq]
theorem JRg{n:Nat}{l:List CV}:Hy (Ki (n+1) l)=(match Jh l with
  |[]=>none
  |u::r=>match Hy (zZ (Ki n) u)with
   |none=>none
   |some x=>(JKA (λv=>Hy (zZ (Ki n) v)) (r.length+1) false [] [x] r).map λks=>KC (.mk 2 0 0 0 ks)):=by
 rw[Ki];generalize Jh l=t;generalize zZ (Ki n)=op'
 have e:JNx op' t 0=(match J5 op' t 0 with
   |(e,false,a)=>(e,false,a)
   |(e,true,a)=>match WS op' t (t.length+1) a [e]with
    |(e,false,a)=>(e,false,a)
    |(e,true,a)=>match KP (WO op' t) (λa=>KS t a 43 45 true) 3 (t.length+1) a [e]with
     | .inl (e',a')=>(e',false,a')
     | .inr (ks,a')=>(KC (.mk 2 0 0 0 ks),true,a')):=by
  unfold JNx Q1
  rw[show WO op' t 0=(match J5 op' t 0 with
   |(e,false,a)=>(e,false,a)
   |(e,true,a)=>WS op' t (t.length+1) a [e])by
    unfold WO Q1;rcases J5 op' t 0 with⟨e,b,a'⟩
    cases b<;>rfl]
  rcases J5 op' t 0 with⟨e,b,a'⟩
  cases b<;>rfl
 cases t with
 |nil=>
  simp only;rw[e,Hl rfl]
  rfl
 |cons u r=>
  simp only;rw[e,Hm rfl]
  cases ho:(op' u).2 with
  |false=>simp only;rw[JDG ho]<;>rfl
  |true=>
   simp only;rw[JDH ho];simp only;have h:=JDJ (op':=op') (t:=u::r) (r.length+1) 1 (r.length+1+1) (r.length+1+1) false [] [(op' u).1] (by simp) (by simp) (by simp;omega) (by simp;omega)
   rw[show(u::r).drop 1=r from rfl]at h
   rw[<-h];simp only[Ae,AC];rcases WS op' (u::r) (r.length+1+1) 1 [(op' u).1]with⟨e2,b2,a2⟩
   cases b2 with
   |false=>rfl
   |true=>
    simp only[ja,Au,kU,Al,if_false,Ae];rcases KP (WO op' (u::r)) (λa=>KS (u::r) a 43 45 true) 3 (r.length+1+1) a2 [e2]with⟨e3,a3⟩|⟨ks,a3⟩
    ·rfl
    ·simp only
     by_cases q:a3=r.length+1
     ·rw[if_pos q]
      simp[Hy,q]
     ·rw[if_neg q]
      simp[Hy,q]
end
section
variable{op:CV->Option X}
def HD(op:CV->Option X):List CV->Bool->List X->List CV->Option (List X×Bool×List CV)
 |c,o,ks,[]=>some (ks,o,c)
 |c,o,ks,v::r=>if mdC v=true then(match Kk op c o ks with
   |some ks'=>HD op [] (v.t.b==[47]) ks' r
   |none=>none)
  else HD op (c++[v]) o ks r
theorem kV:∀(a b c:List CV) (o:Bool) (ks:List X),HD op c o ks (a++b)=(HD op c o ks a).bind λs=>HD op s.2.2 s.2.1 s.1 b
 |[],b,c,o,ks=>rfl
 |v::r,b,c,o,ks=>by
  rw[AA,HD,HD]
  split
  ·cases Kk op c o ks with
   |none=>rfl
   |some ks'=>exact kV r b _ _ _
  ·exact kV r b _ _ _
theorem zK:∀(a c:List CV) (o:Bool) (ks:List X),zH op c o ks a=(HD op c o ks a).bind λs=>Kk op s.2.2 s.2.1 s.1
 |[],c,o,ks=>rfl
 |v::r,c,o,ks=>by
  rw[zH,HD]
  split
  ·cases Kk op c o ks with
   |none=>rfl
   |some ks'=>exact zK r _ _ _
  ·exact zK r _ _ _
abbrev St(op:CV->Option X)(c:List CV):Option (List X×Bool×List CV):=HD op [] false [] c
theorem zL{c:List CV}{v:CV}{ks:List X}{o:Bool}{k:List CV}(h:St op c=some (ks,o,k)):
  St op (c++[v])=if mdC v=true then(Kk op k o ks).map (λks'=>(ks',v.t.b==[47],[]))else some (ks,o,k++[v]):=by
 unfold St at*;rw[kV,h];simp only[Option.bind_some];rw[HD]
 split
 ·cases Kk op k o ks<;>rfl
 ·rfl
theorem kW:∀(sp:List CV),sp.all JU=true->∀{c:List CV} {ks:List X} {o:Bool} {k:List CV},St op c=some (ks,o,k)->St op (c++sp)=some (ks,o,k++sp)
 |[],_,c,ks,o,k,h=>by rw[AE,AE];exact h
 |v::r,hs,c,ks,o,k,h=>by
  rw[Bi,Af]at hs
  have hv:mdC v=false:=by
   have:v.k=13:=by simpa[JU]using hs.1
   unfold mdC;rw[this]<;>rfl
  have:=zL (v:=v) h;rw[hv]at this;simp only[Al,if_false]at this;rw[show c++v::r=(c++[v])++r by simp,show k++v::r=(k++[v])++r by simp]
  exact kW r hs.2 this
theorem HG{c:List CV}{ks:List X}{o:Bool}{k:List CV}(h:St op c=some (ks,o,k)):HC op c=(Kk op k o ks).map λks=>KC (.mk 4 0 0 0 ks):=by
 unfold HC;rw[zK,show HD op [] false [] c=some (ks,o,k)from h]
 rfl
def JRh(op:CV->Option X)(c:List CV):Prop:=St op c=none\/ ∃ks o k,St op c=some (ks,o,k)/\ ∀x o ks,Kk op (k++x) o ks=none
theorem JHq{c:List CV}(h:JRh op c):HC op c=none:=by
 rcases h with h|⟨ks,o,k,h,hd⟩
 ·unfold HC
  rw[zK,show HD op [] false [] c=none from h]<;>rfl
 ·rw[HG h]
  have:=hd [] o ks;rw[AE]at this;rw[this]<;>rfl
theorem JRi{c:List CV}(v:CV)(h:JRh op c):JRh op (c++[v]):=by
 rcases h with h|⟨ks,o,k,h,hd⟩
 ·left
  unfold St at*;rw[kV,h]<;>rfl
 ·rw[JRh,zL h]
  have:=hd [] o ks;rw[AE]at this
  split
  ·left;rw[this]<;>rfl
  ·right
   exact⟨ks,o,_,rfl,λx o ks=>by rw[Ax];exact hd _ o ks⟩
theorem JDK:∀(s:List CV) {c:List CV} {b m:Bool} {ks:List X},JRh op c->WA op c b m ks s=none
 |[],c,b,m,ks,h=>by rw[WA,JHq h]<;>rfl
 |v::r,c,b,m,ks,h=>by
  rw[WA]
  split
  ·rw[JHq h]
  ·exact JDK r (JRi v h)
theorem Hn{sp:List CV}{u:CV}{x:List CV}(hs:sp.all JU=true)(hu:JU u=false):Jh (sp++u::x)=u::Kx x:=by
 rw[jq]
 have:Ju (sp++u::x)=u::x:=by
  unfold Ju
  induction sp with
  |nil=>rw[Au,A8,hu]<;>rfl
  |cons a l ih=>rw[Bi,Af]at hs;rw[AA,A8,hs.1];exact ih hs.2
 rw[this,HY hu]
theorem JOA{sp:List CV}{u:CV}{x:List CV}{o:Bool}{ks:List X}(hs:sp.all JU=true)(hu:JU u=false)(ho:op u=none):Kk op (sp++u::x) o ks=none:=by
 unfold Kk;rw[Hn hs hu]
 split
 ·rename_i v e
  injection e with e1 e2
  subst e1;rw[ho]<;>rfl
 ·rfl
theorem JRj{sp sp2:List CV}{u v:CV}{x:List CV}{o:Bool}{ks:List X}(hs:sp.all JU=true)(hu:JU u=false)(hv:JU v=false):Kk op (sp++u::(sp2++v::x)) o ks=none:=by
 unfold Kk;rw[Hn hs hu]
 split
 ·rename_i w e
  injection e with e1 e2
  exfalso;rw[JGp,List.all_append,Bi,hv]at e2;simp at e2
 ·rfl
theorem Y5{sp:List CV}{o:Bool}{ks:List X}(hs:sp.all JU=true):Kk op sp o ks=none:=by
 unfold Kk;rw[jq,show Ju sp=[]from yj hs]
 rfl
theorem JAP{sp sp2:List CV}{u:CV}{x:X}{o:Bool}{ks:List X}(hs:sp.all JU=true)(hs2:sp2.all JU=true)(hu:JU u=false)(ho:op u=some x):Kk op (sp++u::sp2) o ks=some (ks++[kU 5 o x]):=by unfold Kk;rw[Hn hs hu,ym hs2];simp only;rw[ho]<;>rfl
def Jke(op:CV->Option X)(c:List CV)(ps:List X):Prop:=∃ks o sp u x,St op c=some (ks,o,sp++[u])/\sp.all JU=true/\JU u=false/\op u=some x/\ps=ks++[kU 5 o x]
theorem JDL{v:CV}(h:JU v=true):pmC v=false:=by
 have:v.k=13:=by simpa[JU]using h
 unfold pmC;rw[this]<;>rfl
theorem JHr:∀(sp:List CV),sp.all JU=true->∀{c s:List CV} {b m:Bool} {ks:List X},sp≠[]->WA op c b m ks (sp++s)=WA op (c++sp) true m ks s
 |[],_,c,s,b,m,ks,h=>absurd rfl h
 |[v],hs,c,s,b,m,ks,_=>by
  have hv:JU v=true:=by simpa using hs
  rw[AA,Au,WA,JDL hv,As,if_neg (by simp),hv]
 |v::w::r,hs,c,s,b,m,ks,_=>by
  have hv:JU v=true:=by rw[Bi,Af]at hs;exact hs.1
  have hr:(w::r).all JU=true:=by rw[Bi,Af]at hs;exact hs.2
  rw[AA,WA,JDL hv,As,if_neg (by simp),hv,JHr (w::r) hr (by simp)]
  congr 1
  simp
theorem JOB{sp:List CV}(hs:sp.all JU=true){c s:List CV}{b m:Bool}{ks:List X}:WA op c b m ks (sp++s)=WA op (c++sp) (b|| !sp.isEmpty) m ks s:=by
 cases sp with
 |nil=>simp
 |cons v r=>rw[JHr (v::r) hs (by simp)];simp
theorem JDM{c sp r':List CV}{u:CV}{b m o:Bool}{ks ps:List X}(h9:∀v,(v.k==9)=true->op v=none)(h:St op c=some (ps,o,sp))(hs:sp.all JU=true)(hu:JU u=false):
  (op u=none->WA op c b m ks (u::r')=none)/\(∀x,op u=some x->WA op c b m ks (u::r')=WA op (c++[u]) false m ks r'/\Jke op (c++[u]) (ps++[kU 5 o x])):=by
 have hst:=zL (v:=u) h;refine⟨λho=>?_,λx ho=>?_⟩
 ·rw[WA]
  split
  ·rw[HG h,Y5 hs]<;>rfl
  ·refine JDK _ ?_
   rw[JRh,hst]
   split
   ·left;rw[Y5 hs]<;>rfl
   ·right
    exact⟨_,_,_,rfl,λx o ks=>by rw[Ax];exact JOA hs hu ho⟩
 ·have h9':(u.k==9)=false:=by
   cases q:u.k==9 with
   |false=>rfl
   |true=>rw[h9 u q]at ho;cases ho
  have hm:mdC u=false:=by unfold mdC;rw[h9']<;>rfl
  have hp:pmC u=false:=by unfold pmC;rw[h9']<;>rfl
  rw[WA,hp,As,if_neg (by simp),hu]
  refine⟨rfl,?_⟩
  rw[hm]at hst;simp only[Al,if_false]at hst;exact⟨ps,o,sp,u,x,hst,hs,hu,ho,rfl⟩
theorem Gt(l:List CV):(l.takeWhile JU).all JU=true:=by
 induction l with
 |nil=>rfl
 |cons v l ih=>
  rw[CD]
  split
  ·rename_i h;rw[Bi,h,ih]<;>rfl
  ·rfl
theorem JHs(l:List CV):QK l= !(l.takeWhile JU).isEmpty:=by
 cases l with
 |nil=>rfl
 |cons v r=>
  rw[CD,QK]
  split
  ·rename_i h;simp[h]
  ·rename_i h;simp at h;simp[h]
theorem JDN(l:List CV):l=l.takeWhile JU++Ju l:=(List.takeWhile_append_dropWhile ..).symm
theorem JX3{l:List CV}(h:Kx l=l)(hl:Ju l=[]):l=[]:=by
 rw[<-h];refine JGp.2 ?_
 have e:=JDN l;rw[hl,AE]at e;rw[e];exact Gt l
theorem Ho{v:CV}{r:List CV}(h:Kx (v::r)=v::r):Kx r=r:=by
 cases hv:JU v with
 |false=>
  rw[HY hv]at h
  injection h
 |true=>
  rw[JCZ hv]at h
  split at h
  ·cases h
  ·injection h
theorem qz{l:List CV}(h:Kx l=l):Kx (Ju l)=Ju l:=by rw[<-jR,h]
theorem JKB(h9:∀v,(v.k==9)=true->op v=none):∀(n:Nat) (s c:List CV) (m:Bool) (ks ps:List X),s.length<n->Kx s=s->Jke op c ps->
  WA op c false m ks s=JKA op n m ks ps s
 |0,_,_,_,_,_,h,_,_=>absurd h (Dr _)
 |n+1,s,c,m,ks,ps,hn,hr,hg=>by
  obtain⟨k0,o0,sp0,u0,x0,hst,hs0,hu0,hx0,rfl⟩:=hg;have hsp:=Gt s;have hst1:=kW (op:=op) _ hsp hst;have e:=JDN s;have hnx:=JHs s;rw[JKA]
  cases hl:Ju s with
  |nil=>
   have:s=[]:=JX3 hr hl;subst this;simp only;rw[show([]:List CV).isEmpty=true from rfl,if_pos rfl,WA,HG hst]
   rw[show Kk op (sp0++[u0]) o0 k0=some (k0++[kU 5 o0 x0])from JAP hs0 rfl hu0 hx0]<;>rfl
  |cons v r=>
   have hv:=zJ hl
   have hrr:Kx r=r:=by have:=qz hr;rw[hl]at this;exact Ho this
   have hlen:r.length+1<=s.length:=by
    have:(Ju s).length<=s.length:=by unfold Ju;exact(BR _).length_le
    rw[hl]at this;simpa using this
   have hlr:(Ju r).length<=r.length:=by unfold Ju;exact(BR _).length_le
   have e0:WA op c false m ks s=WA op (c++s.takeWhile JU) (QK s) m ks (v::r):=by
    conv=>lhs;rw[e,hl]
    rw[JOB hsp,hnx,A3]
   rw[e0];generalize hSP:s.takeWhile JU=sp at*;have hspr:=Gt r;have er:=JDN r;have hnr:=JHs r;generalize hSPr:r.takeWhile JU=spr at*;simp only;by_cases hm:mdC v=true
   ·have hp:pmC v=false:=by
     unfold mdC at hm;unfold pmC;rw[Af,AU]at hm;rcases hm.2 with h|h
     ·rw[show v.t.b=[42]by simpa using h];simp
     ·rw[show v.t.b=[47]by simpa using h];simp
    have hcl:Kk op (sp0++[u0]++sp) o0 k0=some (k0++[kU 5 o0 x0]):=by rw[Ax];exact JAP hs0 hsp hu0 hx0
    have hst2:=zL (v:=v) hst1;rw[if_pos hm,hcl]at hst2;simp only[Option.map_some]at hst2;have hst3:=kW (op:=op) spr hspr hst2;rw[Au]at hst3;rw[WA,hp,As,if_neg (by simp),hv]
    rw[show WA op (c++sp++[v]) false m ks r=WA op (c++sp++[v]++spr) (QK r) m ks (Ju r)by
     conv=>lhs;rw[er]
     rw[JOB hspr,hnr,A3]]
    cases hr2:Ju r with
    |nil=>
     simp only;rw[WA,HG hst3,Y5 hspr]
     rfl
    |cons u r'=>
     have hu:=zJ hr2;obtain⟨a1,a2⟩:=JDM (b:=QK r) (m:=m) (ks:=ks) (r':=r') h9 hst3 hspr hu;simp only
     cases ho:op u with
     |none=>exact a1 ho
     |some x=>
      obtain⟨b1,b2⟩:=a2 x ho;simp only;rw[b1,if_pos hm];refine JKB h9 n r' _ m ks _ ?_ ?_ b2
      ·rw[hr2,Ae]at hlr;omega
      ·have:=qz hrr
       rw[hr2]at this;exact Ho this
   ·have dead:WA op (c++sp++[v]) (JU v) m ks r=none:=by
     refine JDK _ ?_
     have hst2:=zL (v:=v) hst1;rw[if_neg hm]at hst2
     exact .inr ⟨_,_,_,hst2,λx o ks=>by
      rw[show sp0++[u0]++sp++[v]++x=sp0++u0::(sp++v::x)by simp]
      exact JRj hs0 hu0 hv⟩
    rw[WA];by_cases hq:(pmC v&&(QK s&&QK r))=true
    ·rw[if_pos hq,HG hst1,show Kk op (sp0++[u0]++sp) o0 k0=some (k0++[kU 5 o0 x0])by rw[Ax];exact JAP hs0 hsp hu0 hx0]
     simp only[Option.map_some]
     have hst3:St op spr=some ([],false,spr):=by have:=kW (op:=op) spr hspr (c:=[]) (ks:=[]) (o:=false) (k:=[]) rfl;simpa using this
     rw[show WA op [] false (v.t.b==[45]) (ks++[kU 3 m (KC (.mk 4 0 0 0 (k0++[kU 5 o0 x0])))]) r=WA op spr (QK r) (v.t.b==[45]) (ks++[kU 3 m (KC (.mk 4 0 0 0 (k0++[kU 5 o0 x0])))]) (Ju r)by
      conv=>lhs;rw[er]
      rw[JOB hspr,hnr,A3,Au]]
     cases hr2:Ju r with
     |nil=>
      simp only;rw[WA,HG hst3,Y5 hspr]
      rfl
     |cons u r'=>
      have hu:=zJ hr2;obtain⟨a1,a2⟩:=JDM (b:=QK r) (m:=v.t.b==[45]) (ks:=ks++[kU 3 m (KC (.mk 4 0 0 0 (k0++[kU 5 o0 x0])))]) (r':=r') h9 hst3 hspr hu;simp only
      cases ho:op u with
      |none=>exact a1 ho
      |some x=>
       obtain⟨b1,b2⟩:=a2 x ho;simp only;rw[b1,if_neg hm,if_pos hq];refine JKB h9 n r' _ _ _ _ ?_ ?_ b2
       ·rw[hr2,Ae]at hlr;omega
       ·have:=qz hrr
        rw[hr2]at this;exact Ho this
    ·rw[if_neg hq,dead]
     cases Ju r with
     |nil=>rfl
     |cons u r'=>
      simp only
      cases op u with
      |none=>rfl
      |some x=>simp only;rw[if_neg hm,if_neg hq]
theorem JUx(h9:∀v,(v.k==9)=true->op v=none)(l:List CV):JN9 op l=(match Jh l with
  |[]=>none
  |u::r=>match op u with
   |none=>none
   |some x=>(JKA op (r.length+1) false [] [x] r).map λks=>KC (.mk 2 0 0 0 ks)):=by
 unfold JN9
 cases hl:Jh l with
 |nil=>rfl
 |cons u r=>
  have ht:Kx (u::r)=u::r:=by rw[<-hl,jq,JLW]
  have hu:JU u=false:=by
   have h1:Ju (Jh l)=Jh l:=by rw[jq,jR,JLX]
   rw[hl]at h1;exact zJ h1
  obtain⟨a1,a2⟩:=JDM (op:=op) (c:=[]) (sp:=[]) (r':=r) (u:=u) (b:=false) (m:=false) (o:=false) (ks:=[]) (ps:=[]) h9 rfl rfl hu;simp only
  cases ho:op u with
  |none=>rw[a1 ho]<;>rfl
  |some x=>obtain⟨b1,b2⟩:=a2 x ho;rw[b1,JKB h9 (r.length+1) r _ false [] _ (Nat.lt_succ_self _) (Ho ht) b2]<;>rfl
end
theorem zM{w w':List CV->X×Bool}(h:∀l,Hy (w l)=Hy (w' l)):∀ps,QX w ps=QX w' ps
 |[]=>rfl
 |p::r=>by
  have hp:=h p;unfold Hy at hp;rw[QX,QX,zM h r];rcases hw:w p with⟨e,b⟩
  rcases hw':w' p with⟨e',b'⟩
  rw[hw,hw']at hp;cases b<;>cases b'<;>simp_all
theorem JL6{w w':List CV->X×Bool}(h:∀l,Hy (w l)=Hy (w' l))(k:Int)(l:List CV):Yi k w l=Yi k w' l:=by unfold Yi;rw[zM h]
theorem JAt{w w':List CV->X×Bool}(h:∀l,Hy (w l)=Hy (w' l)):∀v,Hy (KJ w v)=Hy (KJ w' v)
 | .mk t kids=>by
  unfold KJ;simp only[JL6 h]
  repeat' split
  all_goals first|rfl|exact h _
theorem JRk{w w':List CV->X×Bool}(h:∀l,Hy (w l)=Hy (w' l))(v:CV):Hy (zZ w v)=Hy (zZ w' v):=by
 unfold zZ
 split
 ·exact h _
 ·exact JAt h v
theorem op9{w:List CV->X×Bool}(v:CV)(h:(v.k==9)=true):Hy (zZ w v)=none:=by
 obtain⟨t,kids⟩:=v;obtain⟨k,b,n,d,i,w⟩:=t;have hk:k=9:=by have:(k==9)=true:=h;simpa using this
 subst hk;rfl
theorem JHt:∀(n:Nat) (l:List CV),Hy (Ki n l)=jV n l
 |0,l=>rfl
 |n+1,l=>by
  have e:(λv=>Hy (zZ (λp=>yD (jV n p)) v))=λv=>Hy (zZ (Ki n) v):=by
   funext v
   refine JRk (λp=>?_) v
   rw[JJ9,JHt n p]
  rw[jV,e,JUx op9,JRg]<;>rfl
theorem JRl(n:Nat)(v:CV):Hy (JLp n v)=Hy (KJ (λp=>yD (jV n p)) v):=
 JAt (λp=>by rw[JJ9,JHt]) v
end Go.Lift.Rul
end

section
open Go.Proofs
namespace Go.Lift.Y1
open Rul
open Utf (By)
variable{lo:Nat}{h:JG}
theorem f122{t:Tk4}{kids:List CV}(hlo:lo<=h.length):E lo 122 [.agg (Js (.mk t kids))] h=some (.v (.bool (JU (.mk t kids))),h):=by
 have l1:lo<=h.length+1:=om;rw[JrH,JP];show _=some (V.v (Value.bool (t.k==13)),h)
 simp only[go_sem,Jj1,Tryz.f122,hlo,l1]<;>rfl
theorem JKC{x:Int}(h0:0<=x)(h1:x<256):By [x]:=by intro c hc;rw[A1]at hc;omega
theorem f121{t:Tk4}{kids:List CV}{x y:Int}(hlo:lo<=h.length)(hy:By t.b)(hx:By [x])(hz:By [y]):
  E lo 121 [.agg (Js (.mk t kids)),.v (.string (Rul.bs [x])),.v (.string (Rul.bs [y]))] h=some (.v (.bool (t.k==9&&(t.b==[x]||t.b==[y]))),h):=by
 have l1:lo<=h.length+1:=om;have e1:=QR hy hx;have e2:=QR hy hz;rw[JrG,JP];generalize (t.b==[x])=b1 at e1⊢;generalize (t.b==[y])=b2 at e2⊢
 cases hk:t.k==9 with
 |false=>simp only[go_sem,JXX,Tryz.f121,hlo,l1,hk,As]<;>rfl
 |true=>
  rw[Aw]
  cases b1 with
  |true=>simp only[go_sem,JXX,Tryz.f121,hlo,l1,hk,e1,Bp]<;>rfl
  |false=>simp only[go_sem,JXX,Tryz.f121,hlo,l1,hk,e1,e2,A3]<;>rfl
theorem f98{t:Tk4}{kids:List CV}{K:Int}{w:List Int}(hlo:lo<=h.length)(ht:okT t)(hw:By w)(hl:w.length<=1000)(hs:Jg w=w):
  E lo 98 [.agg (Js (.mk t kids)),.v (.int .i64 K),.v (.string (Rul.bs w))] h=some (.v (.bool (t.k==K&&Jg t.b==w)),h):=by
 have l1:lo<=h.length+1:=om;have c95:=λlo h hlo=>f95 (lo:=lo) (h:=h) (a:=t.b) (b:=w) hlo (by have:=ht.2.1;omega) ht.1 om hw
 rw[qq ht.1 hw,hs]at c95;unfold Rul.bs;rw[e98,JP]
 cases hk:t.k==K with
 |false=>simp only[go_sem,b98,Tryz.f98,hlo,l1,hk,As]<;>rfl
 |true=>rw[Aw];simp only[go_sem,b98,Tryz.f98,hlo,l1,hk,c95,Rul.bs]<;>rfl
def JHu:List (List Int):=[]::Wq
def JHv:List V:=JHu.map λn=> .v (.string (Rul.bs n))
theorem JL7:JHv=[.v (.string AQ),.v (.string ⟨#[112,120]⟩),.v (.string ⟨#[101,109]⟩),.v (.string ⟨#[114,101,109]⟩),.v (.string ⟨#[118,119]⟩),.v (.string ⟨#[118,104]⟩),.v (.string ⟨#[99,113,119]⟩),.v (.string ⟨#[99,113,104]⟩)]:=rfl
abbrev zN(b:List Int)(j:Int):Jl:=[(0,.v (.string (Rul.bs b))),(5,.agg JHv),(6,.v (.int .i64 j))]
theorem JX4{j:Nat}{n:List Int}(hg:JHu[j]? =some n):By n/\n.length<=3/\Jg n=n:=by have hm:=List.mem_of_getElem? hg;simp only[JHu,Wq,List.mem_cons,List.not_mem_nil,or_false]at hm;rcases hm with rfl|rfl|rfl|rfl|rfl|rfl|rfl|rfl<;>(refine⟨?_,by decide,by decide⟩;intro c hc;simp at hc;try omega)
theorem Jkf{b n:List Int}{j:Nat}(hlo:lo<=h.length)(hy:By b)(hl:b.length<=1000000000)(hg:JHu[j]? =some n):
  evCode ⟨Aa,E,lo,h.length,h97⟩ JA Hs (zN b j,h)=if(decide (0<j)&&n==Jg b)=true then some (.ret,[(2,.v (.int .i64 j))],h)else some (.normal,zN b (j+1:Nat),h):=by
 have hlt:j<8:=(Ab.1 hg).1
 have hgr:JHv[j]? =some (.v (.string (Rul.bs n))):=by unfold JHv;rw[List.getElem?_map,hg]<;>rfl
 obtain⟨hn,hnl,hns⟩:=JX4 hg;have q1:decide ((j:Int)<8)=true:=by rw[decide_eq_true_iff];omega
 have t1:Int.toNat (j:Int)=j:=om;have hw:=JM (i:=j) om;have c95:=λlo h hlo=>f95 (lo:=lo) (h:=h) (a:=b) (b:=n) hlo om hy om hn
 rw[qq hy hn,hns,Bool.beq_comm]at c95;have a1:(0:Int)<=(j:Int)/\(j:Int)<((8:Nat):Int):=om;have ls:JHv.length=8:=rfl;unfold Rul.bs at hgr;simp only[zN,Rul.bs];generalize JHv=S at hgr ls⊢;have hg2:(List.drop (j*1) S)[0]? =some (.v (.string ⟨(YK n).toArray⟩)):=by rw[Nat.mul_one,List.getElem?_drop];exact hgr
 cases q:decide (0<j)with
 |false=>
  have q2:decide ((0:Int)<(j:Int))=false:=by rw[decide_eq_false_iff_not]at q⊢;omega
  rw[As,if_neg (by simp)]
  simp only[go_sem,Hs,b97,Tryz.f97,hlo,q1,q2,hg2,t1,hw,a1,ls]<;>rfl
 |true=>
  have q2:decide ((0:Int)<(j:Int))=true:=by rw[decide_eq_true_iff]at q⊢;omega
  rw[Aw];generalize (n==Jg b)=bb at c95⊢
  cases bb with
  |true=>
   rw[if_pos rfl]
   simp only[go_sem,Hs,b97,Tryz.f97,hlo,q1,q2,hg2,t1,hw,a1,ls,c95]<;>rfl
  |false=>
   rw[if_neg (by simp)]
   simp only[go_sem,Hs,b97,Tryz.f97,hlo,q1,q2,hg2,t1,hw,a1,ls,c95]<;>rfl
theorem JX5{b:List Int}(hlo:lo<=h.length):
  evCode ⟨Aa,E,lo,h.length,h97⟩ JA Hs (zN b (8:Nat),h)=some (.exit 0,zN b (8:Nat)++[(7,.v (.bool false))],h):=by
 have q1:decide (((8:Nat):Int)<8)=false:=rfl;simp only[zN,go_sem,Hs,b97,Tryz.f97,hlo,q1]<;>rfl
theorem JPV{b:List Int}(hlo:lo<=h.length)(hy:By b)(hl:b.length<=1000000000):∀m j:Nat,j+m=7->
  JA (evCode ⟨Aa,E,lo,h.length,h97⟩ JA Hs) (zN b (j+1:Nat),h)=some (.ret,[(2,.v (.int .i64 (unitF (Jg b) (Wq.drop j) j)))],h)\/
  (unitF (Jg b) (Wq.drop j) j=0/\JA (evCode ⟨Aa,E,lo,h.length,h97⟩ JA Hs) (zN b (j+1:Nat),h)=some (.exit 0,zN b (8:Nat)++[(7,.v (.bool false))],h))
 |0,j,hk=>by
  obtain rfl:j=7:=om
  exact .inr ⟨rfl,by rw[JB,JX5 hlo,Jx]⟩
 |m+1,j,hk=>by
  have hlt:j<Wq.length:=by show j<7;omega
  have hp:=Ac hlt
  have hp2:JHu[j+1]? =some Wq[j]:=hp;rw[JHj hp,JB,Jkf hlo hy hl hp2];rw[show decide (0<j+1)=true by simp,Aw]
  by_cases hq:(Wq[j]==Jg b)=true
  ·rw[if_pos hq,if_pos hq,Kh]
   exact .inl rfl
  ·rw[if_neg hq,if_neg hq,JO]
   exact JPV hlo hy hl m (j+1) om
theorem f97{b:List Int}(hlo:lo<=h.length)(hy:By b)(hl:b.length<=1000000000):E lo 97 [.v (.string (Rul.bs b))] h=some (.v (.int .i64 (GD b)),h):=by
 have h0:JHu[0]? =some []:=rfl;have e0:=Jkf (lo:=lo) (h:=h) (b:=b) (j:=0) hlo hy hl h0;rw[show decide (0<0)=false from rfl,As,if_neg (by simp)]at e0
 unfold GD;rw[e97];rcases JPV (lo:=lo) (h:=h) hlo hy hl 7 0 rfl with hL|⟨z,hL⟩
 ·rw[AD]at hL
  have hL2:JA (evCode ⟨Aa,E,lo,h.length,h97⟩ JA Hs) (zN b (0:Nat),h)=some (.ret,[(2,.v (.int .i64 (unitF (Jg b) Wq 0)))],h):=by rw[JB,e0,JO];exact hL
  simp only[Hs,b97,Tryz.f97,JK,loops,JC,zN,JL7,show((0:Nat):Int)=0 from rfl,go_sem]at hL2
  simp only[go_sem,b97,Tryz.f97,hlo,hL2]<;>rfl
 ·rw[AD]at z
  rw[z];have hL2:JA (evCode ⟨Aa,E,lo,h.length,h97⟩ JA Hs) (zN b (0:Nat),h)=some (.exit 0,zN b (8:Nat)++[(7,.v (.bool false))],h):=by rw[JB,e0,JO];exact hL
  simp only[Hs,b97,Tryz.f97,JK,loops,JC,zN,JL7,show((0:Nat):Int)=0 from rfl,go_sem]at hL2
  simp only[go_sem,b97,Tryz.f97,hlo,hL2]<;>rfl
def W99(w:List CV->Option X)(l:List CV):Prop:=∀lo h,lo<=h.length->E lo 99 [.list .no (JJ l)] h=some (.tup [.agg (xC (yD (w l)).1),.v (.bool (yD (w l)).2)],h)
def W69(w:List CV->Option X)(v:CV):Prop:=∀lo h,lo<=h.length->E lo 69 [.agg (Js v)] h=some (.tup [.agg (xC (KJ (λp=>yD (w p)) v).1),.v (.bool (KJ (λp=>yD (w p)) v).2)],h)
abbrev opR(w:List CV->Option X)(v:CV):Option X:=Hy (zZ (λp=>yD (w p)) v)
noncomputable abbrev Y6(lo:Nat)(h:JG):Go.Lift.Cx:=⟨Aa,E,lo,h.length,Jde⟩
abbrev Wu(h:JG)(l:List CV)(ks:List X)(f:Int)(o:Bool)(i:Int):Jl:=[(0,.list .no (JJ l)),(2,.ptr h.length 0),(4,.list .yes (GL ks)),(5,.v (.int .i64 f)),(6,.v (.bool o)),(7,.v (.int .i64 i))]
abbrev KV(h:JG):JG:=h++[.cells xZ]
section
variable{l:List CV}{ks:List X}{f i:Nat}{o:Bool}{w:List CV->Option X}
theorem JKD:By [42]:=JKC om om
theorem zO:By [47]:=JKC om om
theorem Jkg{v:CV}(hlo:lo<=h.length)(hl:l.length<=1000000000)(hg:l[i]? =some v)(hy:By v.t.b)(hm:mdC v=false):
  evCode (Y6 lo h) JA K1 (Wu h l ks f o i,KV h)=some (.normal,Wu h l ks f o (i+1:Nat),KV h):=by
 obtain⟨t,kids⟩:=v;have hlt:i<l.length:=(Ab.1 hg).1
 have hgr:(JJ l)[i]? =some (Js (.mk t kids)):=by rw[Jq,hg]<;>rfl
 have l1:lo<=h.length+1:=om;have q0:decide ((i:Int)<=(l.length:Int))=true:=by rw[decide_eq_true_iff];omega
 have q:decide ((i:Int)<(l.length:Int))=true:=by simpa using hlt
 have hw:=JM (i:=i) om;have c121:=λlo h hlo=>f121 (lo:=lo) (h:=h) (t:=t) (kids:=kids) (x:=42) (y:=47) hlo hy JKD zO
 rw[show(t.k==9&&(t.b==[42]||t.b==[47]))=false from hm,show Rul.bs [42]=⟨#[42]⟩from rfl,show Rul.bs [47]=⟨#[47]⟩from rfl]at c121
 rw[JP]at*;simp only[Y6,Wu,KV,xZ,go_sem,K1,GN,Tryz.f123,hlo,l1,q0,q,hgr,hw,c121,JD]<;>rfl
def Top(l:List CV)(i:Nat)(ov:Bool):Prop:=(i=l.length/\ov=false)\/ ∃t k,l[i]? =some (.mk t k)/\mdC (.mk t k)=true/\By t.b/\(t.b==[47])=ov
abbrev jb(h:JG)(tl:JG):Option (Ex×Jl×JG):=some (.ret,[(2,.ptr h.length 0),(3,.v (.bool false))],h++ .cells xZ::tl)
theorem JsO{b:List Int}(hy:By b):((Rul.bs b).toList==(⟨#[47]⟩:ByteArray).toList)=(b==[47]):=QR hy zO
theorem JZT{ov:Bool}{P:List CV}(hlo:lo<=h.length)(hl:JN l<=1000000000)(hf:f<=i)(hi:i<=l.length)(ht:Top l i ov)(hP:Jh ((l.take i).drop f)=P)(h1:P.length≠1):
  evCode (Y6 lo h) JA K1 (Wu h l ks f o i,KV h)=jb h []:=by
 have hll:l.length<=1000000000:=by have:=JV l;omega
 have l1:lo<=h.length+1:=om;have q0:decide ((i:Int)<=(l.length:Int))=true:=by rw[decide_eq_true_iff];omega
 have c36:=λlo h hlo=>f36 (lo:=lo) (h:=h) (l:=(l.take i).drop f) hlo (by have:=YP (l:=l) (i:=i) (f:=f);have:=JV ((l.take i).drop f);omega)
 rw[hP]at c36;have ed:((JJ l).take i).drop f=JJ ((l.take i).drop f):=by rw[K9,QV]
 have ra:=Jn ((l.take i).drop f);have rl:=Jn l;have pl:=JD P;have q1:((P.length:Int) !=1)=true:=by rw[bne_iff_ne];omega
 rcases ht with⟨he,_⟩|⟨t,k,hg,hm,hy,_⟩
 ·have q:decide ((i:Int)<(l.length:Int))=false:=by rw[decide_eq_false_iff_not];omega
  simp only[Y6,Wu,KV,jb,xZ,go_sem,K1,GN,Tryz.f123,hlo,l1,q0,q,hi,hf,c36,ed,ra,rl,pl,q1,JD]<;>rfl
 ·have hlt:i<l.length:=(Ab.1 hg).1
  have hgr:(JJ l)[i]? =some (Js (.mk t k)):=by rw[Jq,hg]<;>rfl
  have q:decide ((i:Int)<(l.length:Int))=true:=by simpa using hlt
  have c121:=λlo h hlo=>f121 (lo:=lo) (h:=h) (t:=t) (kids:=k) (x:=42) (y:=47) hlo hy JKD zO
  rw[show(t.k==9&&(t.b==[42]||t.b==[47]))=true from hm,show Rul.bs [42]=⟨#[42]⟩from rfl,show Rul.bs [47]=⟨#[47]⟩from rfl]at c121
  rw[JP]at hgr c121;simp only[Y6,Wu,KV,jb,xZ,go_sem,K1,GN,Tryz.f123,hlo,l1,q0,q,hgr,c121,hi,hf,c36,ed,ra,rl,pl,q1,JD]<;>rfl
theorem JZU{ov:Bool}{t:Tk4}{kids:List CV}{x:X}{b:Bool}{y:X}(hlo:lo<=h.length)(hl:JN l<=1000000000)(hf:f<=i)(hi:i<=l.length)(htp:Top l i ov)(hP:Jh ((l.take i).drop f)=[.mk t kids])
  (c69:∀lo h,lo<=h.length->E lo 69 [.agg (Js (.mk t kids))] h=some (.tup [.agg (xC x),.v (.bool b)],h))(hb:(t.k==21)=false->b=false)
  (c99:(t.k==21)=true->∀lo h,lo<=h.length->E lo 99 [.list .no (JJ kids)] h=some (.tup [.agg (xC y),.v (.bool false)],h)):
  ∃e,evCode (Y6 lo h) JA K1 (Wu h l ks f o i,KV h)=jb h [.cells (xC e)]:=by
 have hll:l.length<=1000000000:=by have:=JV l;omega
 have l1:lo<=h.length+1:=om;have l2:lo<=h.length+1+1:=om;have q0:decide ((i:Int)<=(l.length:Int))=true:=by rw[decide_eq_true_iff];omega
 have c36:=λlo h hlo=>f36 (lo:=lo) (h:=h) (l:=(l.take i).drop f) hlo (by have:=YP (l:=l) (i:=i) (f:=f);have:=JV ((l.take i).drop f);omega)
 rw[hP,JZ,JX,JP]at c36;rw[JP]at c69;have ed:((JJ l).take i).drop f=JJ ((l.take i).drop f):=by rw[K9,QV]
 have ra:=Jn ((l.take i).drop f);have rl:=Jn l;have q1:(((0+1:Nat):Int) !=1)=false:=rfl;have q1':((1:Int) !=1)=false:=rfl;obtain⟨xk,xn,xd,xu,xl⟩:=x;obtain⟨yk,yn,yd,yu,yl⟩:=y;simp only[JR]at c69 c99;rcases htp with⟨he,_⟩|⟨t',k',hg,hm,hy,_⟩
 ·have q:decide ((i:Int)<(l.length:Int))=false:=by rw[decide_eq_false_iff_not];omega
  cases hk:t.k==21 with
  |false=>
   have:=hb hk;subst this;refine⟨.mk xk xn xd xu xl,?_⟩
   simp only[JR,Y6,Wu,KV,jb,xZ,go_sem,K1,GN,Tryz.f123,hlo,l1,l2,q0,q,hi,hf,c36,c69,hk,ed,ra,rl,q1,q1',JD,Ae,Ai]<;>rfl
  |true=>
   have c99:=c99 hk;refine⟨.mk yk yn yd yu yl,?_⟩
   simp only[JR,Y6,Wu,KV,jb,xZ,go_sem,K1,GN,Tryz.f123,hlo,l1,l2,q0,q,hi,hf,c36,c69,c99,hk,ed,ra,rl,q1,q1',JD,Ae,Ai]<;>rfl
 ·have hlt:i<l.length:=(Ab.1 hg).1
  have hgr:(JJ l)[i]? =some (Js (.mk t' k')):=by rw[Jq,hg]<;>rfl
  have q:decide ((i:Int)<(l.length:Int))=true:=by simpa using hlt
  have c121:=λlo h hlo=>f121 (lo:=lo) (h:=h) (t:=t') (kids:=k') (x:=42) (y:=47) hlo hy JKD zO
  rw[show(t'.k==9&&(t'.b==[42]||t'.b==[47]))=true from hm,show Rul.bs [42]=⟨#[42]⟩from rfl,show Rul.bs [47]=⟨#[47]⟩from rfl]at c121
  rw[JP]at hgr c121
  cases hk:t.k==21 with
  |false=>
   have:=hb hk;subst this;refine⟨.mk xk xn xd xu xl,?_⟩
   simp only[JR,Y6,Wu,KV,jb,xZ,go_sem,K1,GN,Tryz.f123,hlo,l1,l2,q0,q,hgr,c121,hi,hf,c36,c69,hk,ed,ra,rl,q1,q1',JD,Ae,Ai]<;>rfl
  |true=>
   have c99:=c99 hk;refine⟨.mk yk yn yd yu yl,?_⟩
   simp only[JR,Y6,Wu,KV,jb,xZ,go_sem,K1,GN,Tryz.f123,hlo,l1,l2,q0,q,hgr,c121,hi,hf,c36,c69,c99,hk,ed,ra,rl,q1,q1',JD,Ae,Ai]<;>rfl
theorem JZV{ov:Bool}{t:Tk4}{kids:List CV}{x:X}{b:Bool}{y z:X}(hlo:lo<=h.length)(hl:JN l<=1000000000)(hf:f<=i)(hi:i<=l.length)(hks:ks.length<=1000000000)(htp:Top l i ov)(hP:Jh ((l.take i).drop f)=[.mk t kids])
  (c69:∀lo h,lo<=h.length->E lo 69 [.agg (Js (.mk t kids))] h=some (.tup [.agg (xC x),.v (.bool b)],h))(hb:(t.k==21)=false->b=true/\x=z)
  (c99:(t.k==21)=true->∀lo h,lo<=h.length->E lo 99 [.list .no (JJ kids)] h=some (.tup [.agg (xC z),.v (.bool true)],h)):
  evCode (Y6 lo h) JA K1 (Wu h l ks f o i,KV h)=some (.normal,Wu h l (ks++[kU 5 o z]) (i+1:Nat) ov (i+1:Nat),KV h):=by
 have hll:l.length<=1000000000:=by have:=JV l;omega
 have l1:lo<=h.length+1:=om;have l2:lo<=h.length+1+1:=om;have q0:decide ((i:Int)<=(l.length:Int))=true:=by rw[decide_eq_true_iff];omega
 have c36:=λlo h hlo=>f36 (lo:=lo) (h:=h) (l:=(l.take i).drop f) hlo (by have:=YP (l:=l) (i:=i) (f:=f);have:=JV ((l.take i).drop f);omega)
 rw[hP,JZ,JX,JP]at c36;rw[JP]at c69;have ed:((JJ l).take i).drop f=JJ ((l.take i).drop f):=by rw[K9,QV]
 have ra:=Jn ((l.take i).drop f);have rl:=Jn l;have q1:(((0+1:Nat):Int) !=1)=false:=rfl;have q1':((1:Int) !=1)=false:=rfl;have hw:=JM (i:=i) om;have o1:=JHk hks;have o2:=JHl hks;have ka:=kP ks;have kl:=Ji ks;have kb:=kQ ks;rcases htp with⟨he,rfl⟩|⟨t',k',hg,hm,hy,hov⟩
 ·have q:decide ((i:Int)<(l.length:Int))=false:=by rw[decide_eq_false_iff_not];omega
  cases hk:t.k==21 with
  |false=>
   obtain⟨rfl,rfl⟩:=hb hk;obtain⟨xk,xn,xd,xu,xl⟩:=x;simp only[JR]at c69;unfold kU;cases o<;>
   simp only[Wu,<-WR,J8,Jc,JR,if_true,if_false,Al]<;>
   generalize GL ks=K at ka kl kb⊢ <;>
   simp only[Y6,KV,xZ,go_sem,K1,GN,Tryz.f123,hlo,l1,l2,q0,q,hi,hf,c36,c69,hk,ed,ra,rl,q1,q1',hw,o1,o2,ka,kl,kb,JD,Ae,Ai]<;>rfl
  |true=>
   have c99:=c99 hk;obtain⟨xk,xn,xd,xu,xl⟩:=x;obtain⟨zk,zn,zd,zu,zl⟩:=z;simp only[JR]at c69 c99;unfold kU;cases o<;>
   simp only[Wu,<-WR,J8,Jc,JR,if_true,if_false,Al]<;>
   generalize GL ks=K at ka kl kb⊢ <;>
   simp only[Y6,KV,xZ,go_sem,K1,GN,Tryz.f123,hlo,l1,l2,q0,q,hi,hf,c36,c69,c99,hk,ed,ra,rl,q1,q1',hw,o1,o2,ka,kl,kb,JD,Ae,Ai]<;>rfl
 ·have hlt:i<l.length:=(Ab.1 hg).1
  have hgr:(JJ l)[i]? =some (Js (.mk t' k')):=by rw[Jq,hg]<;>rfl
  have q:decide ((i:Int)<(l.length:Int))=true:=by simpa using hlt
  have c121:=λlo h hlo=>f121 (lo:=lo) (h:=h) (t:=t') (kids:=k') (x:=42) (y:=47) hlo hy JKD zO
  rw[show(t'.k==9&&(t'.b==[42]||t'.b==[47]))=true from hm,show Rul.bs [42]=⟨#[42]⟩from rfl,show Rul.bs [47]=⟨#[47]⟩from rfl]at c121
  have e7:=JsO hy;rw[hov]at e7;rw[JP]at hgr c121
  cases hk:t.k==21 with
  |false=>
   obtain⟨rfl,rfl⟩:=hb hk;obtain⟨xk,xn,xd,xu,xl⟩:=x;simp only[JR]at c69;unfold kU;cases o<;>
   simp only[Wu,<-WR,J8,Jc,JR,if_true,if_false,Al]<;>
   generalize GL ks=K at ka kl kb⊢ <;>
   simp only[Y6,KV,xZ,go_sem,K1,GN,Tryz.f123,hlo,l1,l2,q0,q,hgr,c121,e7,hi,hf,c36,c69,hk,ed,ra,rl,q1,q1',hw,o1,o2,ka,kl,kb,JD,Ae,Ai]<;>rfl
  |true=>
   have c99:=c99 hk;obtain⟨xk,xn,xd,xu,xl⟩:=x;obtain⟨zk,zn,zd,zu,zl⟩:=z;simp only[JR]at c69 c99;unfold kU;cases o<;>
   simp only[Wu,<-WR,J8,Jc,JR,if_true,if_false,Al]<;>
   generalize GL ks=K at ka kl kb⊢ <;>
   simp only[Y6,KV,xZ,go_sem,K1,GN,Tryz.f123,hlo,l1,l2,q0,q,hgr,c121,e7,hi,hf,c36,c69,c99,hk,ed,ra,rl,q1,q1',hw,o1,o2,ka,kl,kb,JD,Ae,Ai]<;>rfl
end
end Go.Lift.Y1
end
