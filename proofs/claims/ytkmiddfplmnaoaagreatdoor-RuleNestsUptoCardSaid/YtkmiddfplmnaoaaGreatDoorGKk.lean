/- The tokens of characters, both sides; the same tokens. -/
import Derived.Lib.TrailingZeros
import Derived.Lib.ItoaNum
import Derived.Shelf.LaysM
import Derived.Shelf.Strings.MapAny
import Derived.Test.YtkmiddfplmnaoaaGreatDoorProg
import Derived.WalkKit
import Derived.Lib.LaidU8
import Derived.Lib.LaidTab
import Derived.Lib.LaidIn
import Derived.Deep.DeepHandedRow
import Derived.Deep.DeepWitnessRowRef
import Derived.Test.YtkmiddfplmnaoaaGreatDoorRows
import Derived.JoinedOf
import Derived.ProofKit
import Derived.Test.YtkmiddfplmnaoaaGreatDoorGLd
import Derived.Test.YtkmiddfplmnaoaaGreatDoorGKa
import Derived.Test.YtkmiddfplmnaoaaGreatDoorGK1Basea
import Derived.Test.YtkmiddfplmnaoaaGreatDoorGKb
import Derived.Test.YtkmiddfplmnaoaaGreatDoorGKc
import Derived.Test.YtkmiddfplmnaoaaGreatDoorGKe
import Derived.Test.YtkmiddfplmnaoaaGreatDoorGKg
import Derived.Test.YtkmiddfplmnaoaaGreatDoorGKh
import Derived.Test.YtkmiddfplmnaoaaGreatDoorGKj
open Go.IntKind renaming bits->Dl,i32->Az,i64->Ak,max->ML,min->MK,signed->Dm
open Go.Proofs.Tryz renaming prog->Aa
open Int renaming tmod_lt_of_pos->GF,tmod_nonneg->MB
open List renaming append_assoc->Aw,append_nil->Aq,eq_nil_of_length_eq_zero->Au,flatMap_append->LV,getElem?_append_left->AQ,getElem?_append_right->AL,getElem?_eq_some_iff->Ab,getElem?_map->Ao,length_append->An,length_cons->Ag,length_drop->Ay,length_map->Av,length_nil->Am,map_map->Cn,mem_append->AW,mem_cons->Bg,mem_map->AK,nil_append->Af,range->A9,range_succ->MA
open Nat renaming le_refl->Ac,lt_or_ge->Ax,zero_add->AB,zero_le->A0
set_option linter.unusedVariables false
set_option linter.unusedSimpArgs false
set_option linter.unusedSectionVars false
set_option maxRecDepth 100000
set_option maxHeartbeats 4000000
section
open Go.Proofs
namespace Go.Lift.W1.T
variable[MX]
open Utf Tok
theorem JSC(ts:List Tk):J5 (ts.map tkC)=false:=by cases ts<;>rfl
theorem JSD(ts:List Tk):((ts.map tkC).all λx=>x.length==6)=true:=by rw[List.all_eq_true];intro x hx;obtain⟨t,_,rfl⟩:=AK.1 hx;rfl
theorem JGA(n:Nat):toksN n []=[]:=by
 cases n with
 |zero=>rfl
 |succ n=>simp only[toksN];rw[if_pos (show Y9 []=[]from rfl)]
section
variable{lo i j:Nat}{l:List Int}{h:Heap}
noncomputable abbrev X72(lo:Nat)(h:Heap):Cx:=⟨Aa,E,lo,h.length,h18⟩
theorem JaN(hl:l.length<=100000000000):∀(m i:Nat) (out:List Tk),(suf l i).length<=m->i<=l.length->out.length+(suf l i).length<=l.length->
  ∃j,∀lo (h:Heap),lo<=h.length->JA (evCode (X72 lo h) JA JDd) ([(3,.ptr h.length 0),(4,.list .yes (out.map tkC))],h++[R l i])=
   some (.ret,[(2,.list .no ((out++toksN m (suf l i)).map tkC))],h++[R l j]):=by
 have stop:∀(i:Nat) (out:List Tk),i<=l.length->Y9 (suf l i)=[]->∃j,∀lo (h:Heap),lo<=h.length->JA (evCode (X72 lo h) JA JDd) ([(3,.ptr h.length 0),(4,.list .yes (out.map tkC))],h++[R l i])=
   some (.ret,[(2,.list .no (out.map tkC))],h++[R l j]):=by
  intro i out hi hr;obtain⟨j,a1,a2,a3,a4⟩:=f31 (l:=l) (i:=i) hl hi;rw[hr]at a3;have k0:=λlo p q=>f32 (lo:=lo) (l:=l) (i:=j) (p:=p) (q:=q) (k:=0) om
  have t:((-1:Int)== -1)=true:=rfl;simp only[n0,a3,Jw]at k0;refine⟨j,λlo h hlo=>?_⟩
  rw[JB];simp only[go_sem,X72,JDd,b18,Tryz.f18,a4 _ _ _ hlo,k0,t]<;>rfl
 intro m
 induction m with
 |zero=>
  intro i out h1 h2 h3;have hs:suf l i=[]:=Au om;obtain⟨j,hj⟩:=stop i out h2 (by rw[hs];rfl)
  refine⟨j,λlo h hlo=>?_⟩
  rw[hj lo h hlo,hs,JGA,Aq]
 |succ m ih=>
  intro i out h1 h2 h3;by_cases hr:Y9 (suf l i)=[]
  ·obtain⟨j,hj⟩:=stop i out h2 hr
   refine⟨j,λlo h hlo=>?_⟩
   rw[hj lo h hlo];simp only[toksN];rw[if_pos hr,Aq]
  ·obtain⟨j0,a1,a2,a3,a4⟩:=f31 (l:=l) (i:=i) hl h2
   have hj0:j0<l.length:=by
    rcases Ax j0 l.length with h|h
    ·exact h
    ·rw[JV h]at a3;exact absurd a3.symm hr
   obtain⟨j1,b1,b2,b3⟩:=f33 (l:=l) (i:=j0) hl hj0;have hlt:=HV (s:=suf l j0) (by rw[a3];exact hr)
   have hle:=qJ (suf l i);rw[<-a3]at hle;rw[<-b2]at hlt;obtain⟨j,hj⟩:=ih j1 (out++[(QK (suf l j0)).1]) om b1 (by simp;omega)
   refine⟨j,λlo h hlo=>?_⟩
   have k0:=λlo p q=>f32 (lo:=lo) (l:=l) (i:=j0) (p:=p) (q:=q) (k:=0) om
   have hcp:=Qa hj0;have t:(chr (suf l j0) 0== -1)=false:=by simp;omega
   simp only[n0]at k0
   have e:toksN (m+1) (suf l i)=(QK (suf l j0)).1::toksN m (suf l j1):=by simp only[toksN];rw[if_neg hr,<-a3,b2]
   rw[e];have hT:∀lo (p q:List Ob),lo<=p.length->E lo 33 [.ptr p.length 0] (p++R l j0::q)=some (.agg (tkC (QK (suf l j0)).1),p++R l j1::q):=b3;generalize (QK (suf l j0)).1=T at*;have hr1:(out.length+1)*48<=140737488355328:=om;have hr2:out.length+1<=9223372036854775807:=om;have app:out.map tkC++[tkC T]=(out++[T]).map tkC:=by simp
   have all:=JSD out;have ibr:=JSC out
   have er:evCode (X72 lo h) JA JDd ([(3,.ptr h.length 0),(4,.list .yes (out.map tkC))],h++[R l i])=some (.normal,[(3,.ptr h.length 0),(4,.list .yes ((out++[T]).map tkC))],h++[R l j1]):=by rw[<-app];simp only[tkC]at hT⊢;simp only[go_sem,X72,JDd,b18,Tryz.f18,a4 _ _ _ hlo,k0,t,hT _ _ _ hlo,Av,all,ibr,hr1,hr2]<;>rfl
   rw[JB,er,JK,hj lo h hlo];simp
theorem JgB(l:List Int):suf l 0=l.map KQ:=by simp[suf]
theorem f18(hl:l.length<=100000000000)(hlo:lo<=h.length):E lo 18 [.list .no (ri .i32 l)] h=some (.list .no ((qH (l.map KQ)).map tkC),h):=by
 obtain⟨j,hj⟩:=JaN (l:=l) hl (suf l 0).length 0 [] (Ac _) (A0 _) (by rw[Jv];simp)
 have hL:=hj lo h hlo;have hR:R l 0= .cells [.list .no (ri .i32 l),.v (.int .i64 0)]:=rfl;rw[Af,JgB,hR]at hL;have e:qH (l.map KQ)=toksN (l.map KQ).length (l.map KQ):=rfl;rw[e18,e];generalize toksN (l.map KQ).length (l.map KQ)=ts at*;simp only[X72,JDd,b18,Tryz.f18,JG,JT,JC,go_sem]at hL;simp only[go_sem,b18,Tryz.f18,hL,hlo]
noncomputable abbrev X74(lo:Nat)(h:Heap):Cx:=⟨Aa,E,lo,h.length,h22⟩
section
variable[HasK]
theorem JaO(hl:l.length<=100000000000):∀(m i:Nat) (out:List Tk),(suf l i).length<=m->i<=l.length+2->out.length+(suf l i).length<=l.length->
  ∃j,∀lo (h:Heap),lo<=h.length->JA (evCode (X74 lo h) JA JDe) ([(3,.list .yes (out.map tkC)),(4,.ptr h.length 0)],h++[R l i])=
   some (.ret,[(2,.list .no ((out++toksN m (suf l i)).map tkC))],h++[R l j]):=by
 have stop:∀(i:Nat) (out:List Tk),i<=l.length+2->Y9 (suf l i)=[]->∃j,∀lo (h:Heap),lo<=h.length->JA (evCode (X74 lo h) JA JDe) ([(3,.list .yes (out.map tkC)),(4,.ptr h.length 0)],h++[R l i])=
   some (.ret,[(2,.list .no (out.map tkC))],h++[R l j]):=by
  intro i out hi hr;obtain⟨j,a1,a2,a3,a4⟩:=f42 (l:=l) (i:=i) hl om;rw[hr]at a3;have k0:=λlo p q=>f43 (lo:=lo) (l:=l) (i:=j) (p:=p) (q:=q) (k:=0) om
  have t:((-1:Int)== -1)=true:=rfl;simp only[n0,a3,Jw]at k0;refine⟨j,λlo h hlo=>?_⟩
  rw[JB];simp only[go_sem,X74,JDe,b22,Tryz.f22,a4 _ _ _ hlo,k0,t]<;>rfl
 intro m
 induction m with
 |zero=>
  intro i out h1 h2 h3;have hs:suf l i=[]:=Au om;obtain⟨j,hj⟩:=stop i out h2 (by rw[hs];rfl)
  refine⟨j,λlo h hlo=>?_⟩
  rw[hj lo h hlo,hs,JGA,Aq]
 |succ m ih=>
  intro i out h1 h2 h3;by_cases hr:Y9 (suf l i)=[]
  ·obtain⟨j,hj⟩:=stop i out h2 hr
   refine⟨j,λlo h hlo=>?_⟩
   rw[hj lo h hlo];simp only[toksN];rw[if_pos hr,Aq]
  ·obtain⟨j0,a1,a2,a3,a4⟩:=f42 (l:=l) (i:=i) hl om
   have hj0:j0<l.length:=by
    rcases Ax j0 l.length with h|h
    ·exact h
    ·rw[JV h]at a3;exact absurd a3.symm hr
   obtain⟨j1,b1,b2,b3⟩:=f44 (l:=l) (i:=j0) hl hj0;have hlt:=HV (s:=suf l j0) (by rw[a3];exact hr)
   have hle:=qJ (suf l i);rw[<-a3]at hle;rw[<-b2]at hlt;obtain⟨j,hj⟩:=ih j1 (out++[(QK (suf l j0)).1]) om b1 (by simp;omega)
   refine⟨j,λlo h hlo=>?_⟩
   have k0:=λlo p q=>f43 (lo:=lo) (l:=l) (i:=j0) (p:=p) (q:=q) (k:=0) om
   have hcp:=Qa hj0;have t:(chr (suf l j0) 0== -1)=false:=by simp;omega
   simp only[n0]at k0
   have e:toksN (m+1) (suf l i)=(QK (suf l j0)).1::toksN m (suf l j1):=by simp only[toksN];rw[if_neg hr,<-a3,b2]
   rw[e];have hT:∀lo (p q:List Ob),lo<=p.length->E lo 44 [.ptr p.length 0] (p++R l j0::q)=some (.agg (tkC (QK (suf l j0)).1),p++R l j1::q):=b3;generalize (QK (suf l j0)).1=T at*;have hr1:(out.length+1)*48<=140737488355328:=om;have hr2:out.length+1<=9223372036854775807:=om;have app:out.map tkC++[tkC T]=(out++[T]).map tkC:=by simp
   have all:=JSD out;have ibr:=JSC out
   have er:evCode (X74 lo h) JA JDe ([(3,.list .yes (out.map tkC)),(4,.ptr h.length 0)],h++[R l i])=some (.normal,[(3,.list .yes ((out++[T]).map tkC)),(4,.ptr h.length 0)],h++[R l j1]):=by rw[<-app];simp only[tkC]at hT⊢;simp only[go_sem,X74,JDe,b22,Tryz.f22,a4 _ _ _ hlo,k0,t,hT _ _ _ hlo,Av,all,ibr,hr1,hr2]<;>rfl
   rw[JB,er,JK,hj lo h hlo];simp
theorem f22(hl:l.length<=100000000000)(hlo:lo<=h.length):E lo 22 [.list .no (ri .i32 l)] h=some (.list .no ((qH (l.map KQ)).map tkC),h):=by
 obtain⟨j,hj⟩:=JaO (l:=l) hl (suf l 0).length 0 [] (Ac _) (A0 _) (by rw[Jv];simp)
 have hL:=hj lo h hlo;have hR:R l 0= .cells [.list .no (ri .i32 l),.v (.int .i64 0)]:=rfl;rw[Af,JgB,hR]at hL;have e:qH (l.map KQ)=toksN (l.map KQ).length (l.map KQ):=rfl;rw[e22,e];generalize toksN (l.map KQ).length (l.map KQ)=ts at*;simp only[X74,JDe,b22,Tryz.f22,JG,JT,JC,go_sem]at hL;simp only[go_sem,b22,Tryz.f22,hL,hlo]
end
end
section
variable{lo:Nat}{l b:List Int}{h:Heap}
theorem JVB(p:Bool):∀l:List Int,(Utf.dec p l).length<=l.length:=by
 intro l
 induction l generalizing p with
 |nil=>simp[Utf.dec]
 |cons x t ih=>have:=ih (x==13);have h1:=yJ p x;simp only[Utf.dec,An,Ag];omega
theorem jy(b:List Int):(Utf.decode b).length<=b.length:=by unfold Utf.decode;have h1:=JVB false (raw (QO b));have h2:=JBo (QO b);have h3:=yK b;omega
def ZY(b:List Int):List Tk:=qH ((Utf.decode b).map KQ)
theorem f10(hb:b.length<=1000000000)(hy:By b)(hlo:lo<=h.length):E lo 10 [.list .no (ri .u8 b)] h=some (.list .no ((ZY b).map tkC),h):=by have hl:=jy b;have k:=f18 (lo:=lo) (l:=Utf.decode b) (h:=h) om hlo;rw[e10];unfold ZY;generalize qH ((Utf.decode b).map KQ)=ts at*;simp only[go_sem,b10,Tryz.f10,f19 hb hy,k]
theorem f12[HasK](hb:b.length<=1000000000)(hy:By b)(hlo:lo<=h.length):E lo 12 [.list .no (ri .u8 b)] h=some (.list .no ((ZY b).map tkC),h):=by have hl:=jy b;have k:=f22 (lo:=lo) (l:=Utf.decode b) (h:=h) om hlo;rw[e12];unfold ZY;generalize qH ((Utf.decode b).map KQ)=ts at*;simp only[go_sem,b12,Tryz.f12,f23 hb hy,k]
end
end Go.Lift.W1.T
end

section
namespace Go.Lift.Tok
open Utf
section
variable{σ:Int}{y s:List Int}
theorem JCL:∀(n m:Nat) (s:List Int),s.length<=n->s.length<=m->toksN n s=toksN m s
 |0,m,s,h1,h2=>by
  obtain rfl:=Au (by omega:s.length=0)
  cases m with
  |zero=>rfl
  |succ m=>simp only[toksN];rw[if_pos (show Y9 []=[]from rfl)]
 |n+1,0,s,h1,h2=>by
  obtain rfl:=Au (by omega:s.length=0)
  simp only[toksN];rw[if_pos (show Y9 []=[]from rfl)]
 |n+1,m+1,s,h1,h2=>by
  simp only[toksN];by_cases hr:Y9 s=[]
  ·rw[if_pos hr,if_pos hr]
  ·rw[if_neg hr,if_neg hr]
   have a:=HV hr;have b:=qJ s;rw[JCL n m _ om om]
theorem JVC(s:List Int):qH s=if Y9 s=[]then[]else(QK (Y9 s)).1::qH (QK (Y9 s)).2:=by
 by_cases hr:Y9 s=[]
 ·rw[if_pos hr]
  unfold qH
  cases h:s.length with
  |zero=>rfl
  |succ n=>simp only[toksN];rw[if_pos hr]
 ·rw[if_neg hr]
  have a:=HV hr;have b:=qJ s;unfold qH;obtain⟨n,hn⟩:∃n,s.length=n+1:=⟨s.length-1,om⟩;rw[hn];simp only[toksN];rw[if_neg hr,JCL n (QK (Y9 s)).2.length _ om (Ac _)]
end
end Go.Lift.Tok
end

section
namespace Go.Lift.Spell
open Utf Tok
theorem yX:∀(n:Nat) (s:List Int),(KW n s).1.length+(KW n s).2.length<=s.length
 |0,s=>by simp[KW]
 |n+1,[]=>by simp[KW]
 |n+1,c::t=>by
  simp only[KW]
  split
  ·have:=yX n t
   simp only[Ag];omega
  ·split
   ·have:=yX n (KD t).2
    have:=ZU t;simp only[Ag];omega
   ·simp
theorem qX(s:List Int):(Tok.name s).1.length+(Tok.name s).2.length<=s.length:=yX _ s
theorem qY(sign:Int):∀(n:Nat) (s:List Int),(KC sign n s).2.1.length+(KC sign n s).2.2.length<=s.length
 |0,s=>by simp[KC]
 |n+1,[]=>by simp[KC]
 |n+1,c::t=>by
  simp only[KC]
  split
  ·simp
  ·split
   ·simp
   ·split
    ·cases t with
     |nil=>simp
     |cons d u=>
      simp only
      split
      ·have:=qY sign n u
       simp only[Ag];omega
      ·have:=qY sign n (KD (d::u)).2
       have:=ZU (d::u);simp only[Ag]at*;omega
    ·have:=qY sign n t
     simp only[Ag];omega
theorem JCM:∀(n:Nat) (s:List Int),(KJ n s).2.1.length+(KJ n s).2.2.length<=s.length
 |0,s=>by simp[KJ]
 |n+1,[]=>by simp[KJ]
 |n+1,c::t=>by
  simp only[KJ]
  split
  ·simp
  ·split
   ·have:=Z8 t
    split
    ·simp only[Am,Ay,Ag]
     omega
    ·have:=ZV (Kb t).length (Kb t)
     simp only[HC,Am,Ag];omega
   ·split
    ·have:=ZV (c::t).length (c::t)
     simp only[HC,Am,Ag]at*;omega
    ·split
     ·split
      ·have:=JCM n (KD t).2
       have:=ZU t;simp only[Ag];omega
      ·have:=ZV (c::t).length (c::t)
       simp only[HC,Am,Ag]at*;omega
     ·have:=JCM n t
      simp only[Ag];omega
theorem JSG(x:Bool×List Int×List Int){n:Nat}(h:x.2.1.length+x.2.2.length<=n):(Hz x).text.length+x.2.2.length<=n:=by
 unfold Hz tk
 split
 ·exact h
 ·simp only[Am];omega
theorem JVD(s:List Int):(numP s).2.length<=s.length:=by have:=congrArg List.length (Hu s);rw[An]at this;omega
theorem JOd(s:List Int)(hne:s≠[]):(QK s).1.text.length+(QK s).2.length<=s.length:=by
 unfold QK;simp only
 split
 ·have:=Z8 s
  simp only[tk,Am];omega
 ·split
  ·have h1:=qY (chr s 0) (s.drop 1).length (s.drop 1)
   have h2:(s.drop 1).length<=s.length:=by rw[Ay];omega
   show(JCm (txt (chr s 0) (s.drop 1))).text.length+(txt (chr s 0) (s.drop 1)).2.2.length<=_
   have h1:(txt (chr s 0) (s.drop 1)).2.1.length+(txt (chr s 0) (s.drop 1)).2.2.length<=(s.drop 1).length:=h1;unfold JCm tk
   split
   ·show(txt (chr s 0) (s.drop 1)).2.1.length+_<=_
    omega
   ·simp only[Am];omega
  ·split
   ·simp only[tk,Am,Ay];omega
   ·split
    ·have h1:=JVD s
     unfold Qb;simp only
     split
     ·have:=qX (numP s).2
      simp only;omega
     ·split
      ·simp only[Am,Ay];omega
      ·simp only[Am];omega
    ·split
     ·simp only[tk,Am,Ay];omega
     ·split
      ·simp only[tk,Am,Ay];omega
      ·split
       ·have h1:=qX (s.drop 1)
        rw[Ay]at h1;simp only;omega
       ·split
        ·have h1:=qX (s.drop 1)
         rw[Ay]at h1;simp only[tk];omega
        ·split
         ·have h1:=qX s
          unfold HT;simp only
          split
          ·split
           ·have h2:=JJa ((Tok.name s).2.drop 1)
            rw[Ay]at h2;have h3:=JCM (Kb (Qq ((Tok.name s).2.drop 1))).length (Kb (Qq ((Tok.name s).2.drop 1)));have h4:=Z8 (Qq ((Tok.name s).2.drop 1))
            have key:∀q:Bool,(if q=true then(tk 2 (Tok.name s).1,Qq ((Tok.name s).2.drop 1))else(Hz (yy (Qq ((Tok.name s).2.drop 1))),(yy (Qq ((Tok.name s).2.drop 1))).2.2)).1.text.length+
              (if q=true then(tk 2 (Tok.name s).1,Qq ((Tok.name s).2.drop 1))else(Hz (yy (Qq ((Tok.name s).2.drop 1))),(yy (Qq ((Tok.name s).2.drop 1))).2.2)).2.length<=s.length:=by
             intro q
             cases q with
             |true=>rw[if_pos rfl];show(Tok.name s).1.length+(Qq ((Tok.name s).2.drop 1)).length<=_;omega
             |false=>
              rw[if_neg (by simp)]
              exact JSG _ (Nat.le_trans h3 om)
            exact key _
           ·simp only[tk,Ay];omega
          ·simp only[tk];omega
         ·cases s with
          |nil=>exact absurd rfl hne
          |cons c t=>simp only[tk,Ag,Am,List.drop_succ_cons,List.drop_zero];omega
def qZ:List Tk->Nat
 |[]=>0
 |t::l=>t.text.length+qZ l
theorem JJx:∀(n:Nat) (s:List Int),s.length<=n->qZ (qH s)+(qH s).length<=2*s.length
 |0,s,h=>by
  have:s=[]:=Au om;subst this
  exact Ac _
 |n+1,s,h=>by
  have hl:=qJ s;rw[JVC];by_cases h0:Y9 s=[]
  ·rw[if_pos h0]
   exact A0 _
  ·rw[if_neg h0]
   have hlt:=HV h0;have hs:=JOd (Y9 s) h0;have:=JJx n (QK (Y9 s)).2 om;simp only[qZ,Ag];omega
end Go.Lift.Spell
end

section
open Go.Proofs
namespace Go.Lift.W1
open Rul (rules vals J2)
open Utf (By)
variable[MX]
def ofK(t:Tok.Tk):Rul.Tk4:=⟨t.kind,Utf.Q2 t.text,t.num.1,t.num.2,t.whole,t.id⟩
theorem JJy(l:List Tok.Tk):l.map T.tkC=(l.map ofK).map Rul.row:=by rw[Cn];rfl
theorem JSH{l:List Tok.Tk}{t:Tok.Tk}(h:t∈l):t.text.length<=Spell.qZ l:=by
 induction l with
 |nil=>cases h
 |cons x l ih=>
  simp only[Spell.qZ];rcases Bg.1 h with rfl|h
  ·omega
  ·have:=ih h;omega
theorem JCN{b:List Int}(hl:b.length<=1048576):((T.ZY b).map ofK).length<=2097152/\ ∀t∈(T.ZY b).map ofK,jM t/\1<=t.k/\t.k<=24:=by
 have hd:((Utf.decode b).map Utf.KQ).length<=1048576:=by rw[Av];have:=T.jy b;omega
 have hs:=Spell.JJx _ ((Utf.decode b).map Utf.KQ) (Ac _);have hf:=Tok.JRM ((Utf.decode b).map Utf.KQ);unfold T.ZY;refine⟨by rw[Av];omega,λx hx=>?_⟩
 obtain⟨t,ht,rfl⟩:=AK.1 hx;have h1:=JSH ht
 have h2:(Utf.Q2 t.text).length<=4*t.text.length:=by
  generalize t.text=L
  induction L with
  |nil=>simp[Utf.Q2]
  |cons x L ih=>have:=T.JJr (Utf.KQ x);rw[Utf.JNz,An,Ag];omega
 have h3:=hf t ht;exact⟨⟨Utf.zo _,by show(Utf.Q2 t.text).length<=_;omega⟩,h3.lo,h3.hi⟩
theorem f5s{lo:Nat}{h:Heap}{b:List Int}(hlo:lo<=h.length)(hb:b.length<=16384)(hy:By b):
  E lo 5 [.list .no (ri .u8 b)] h=some (.tup [.list .no (J2 (rules (vals ((T.ZY b).map ofK)))),.v (.int .i64 0)],h):=by
 have hk:=JCN (b:=b) om;have c10:=T.f10 (lo:=lo) (h:=h) (b:=b) om hy hlo;rw[JJy]at c10;have c9:=f9 (lo:=lo) (h:=h) (l:=(T.ZY b).map ofK) hlo om λt ht=>(hk.2 t ht).1
 have q:decide ((16384:Int)<(b.length:Int))=false:=by simp;omega
 rw[e5];simp only[go_sem,b5,Tryz.f5,hlo,c10,c9,q]<;>rfl
theorem f5l{lo:Nat}{h:Heap}{b:List Int}(hlo:lo<=h.length)(hb:¬b.length<=16384):
  E lo 5 [.list .no (ri .u8 b)] h=some (.tup [.list .no [],.v (.int .i64 2)],h):=by
 have q:decide ((16384:Int)<(b.length:Int))=true:=by simp;omega
 rw[e5];simp only[go_sem,b5,Tryz.f5,hlo,q]<;>rfl
theorem f6s[HasK]{lo:Nat}{h:Heap}{b:List Int}(hlo:lo<=h.length)(hb:b.length<=16384)(hy:By b):
  E lo 6 [.list .no (ri .u8 b)] h=some (.tup [.list .no (J2 (rules (vals ((T.ZY b).map ofK)))),.v (.int .i64 0)],h):=by
 have hk:=JCN (b:=b) om;have c12:=T.f12 (lo:=lo) (h:=h) (b:=b) om hy hlo;rw[JJy]at c12;have c11:=f11 (lo:=lo) (h:=h) (l:=(T.ZY b).map ofK) hlo om λt ht=>(hk.2 t ht).1
 have q:decide ((16384:Int)<(b.length:Int))=false:=by simp;omega
 rw[e6];simp only[go_sem,b6,Tryz.f6,hlo,c12,c11,q]<;>rfl
theorem f6l{lo:Nat}{h:Heap}{b:List Int}(hlo:lo<=h.length)(hb:¬b.length<=16384):
  E lo 6 [.list .no (ri .u8 b)] h=some (.tup [.list .no [],.v (.int .i64 2)],h):=by
 have q:decide ((16384:Int)<(b.length:Int))=true:=by simp;omega
 rw[e6];simp only[go_sem,b6,Tryz.f6,hlo,q]<;>rfl
theorem JSJ[HasK]{b:List Int}(hy:By b):∃(R:List Rul.Ru) (e:Int),(∀(lo:Nat) (h:Heap),lo<=h.length->E lo 5 [.list .no (ri .u8 b)] h=some (.tup [.list .no (J2 R),.v (.int .i64 e)],h))/\
  (∀(lo:Nat) (h:Heap),lo<=h.length->E lo 6 [.list .no (ri .u8 b)] h=some (.tup [.list .no (J2 R),.v (.int .i64 e)],h))/\
  (∀(lo:Nat) (h:Heap),lo<=h.length->E lo 7 [.list .no (J2 R),.list .no (J2 R)] h=some (.v (.bool true),h)):=by
 by_cases hb:b.length<=16384
 ·have hk:=JCN (b:=b) om
  have hw:=JOX (l:=(T.ZY b).map ofK) om λt ht=>(hk.2 t ht).1
  refine⟨_,0,λlo h hlo=>f5s hlo hb hy,λlo h hlo=>f6s hlo hb hy,λlo h hlo=>?_⟩
  have c7:=f7 _ (rules (vals ((T.ZY b).map ofK))) (rules (vals ((T.ZY b).map ofK))) lo h (Ac _) hw.2 hw.2 hw.1 hw.1 hlo;rw[Hw]at c7;exact c7
 ·refine⟨[],2,λlo h hlo=>?_,λlo h hlo=>?_,λlo h hlo=>?_⟩
  ·rw[Rul.rusC_map];exact f5l hlo hb
  ·rw[Rul.rusC_map];exact f6l hlo hb
  ·have c7:=f7 _ [] [] lo h (Ac _) (by rw[HZ];trivial) (by rw[HZ];trivial) (by simp) (by simp) hlo
   rw[Hw]at c7;exact c7
theorem f3[HasK]{b:List Int}(hl:b.length<=1048576)(hy:By b):E 0 3 [.list .no (ri .u8 b)] []=some (.v (.bool true),[]):=by have c8:=f8;obtain⟨R,e,c5,c6,c7⟩:=JSJ hy;have c5:=c5 0 [] (A0 _);have c6:=c6 0 [] (A0 _);have c7:=c7 0 [] (A0 _);have q:(e==e)=true:=beq_self_eq_true e;rw[e3];simp only[go_sem,b3,Tryz.f3,c8,c5,c6,c7,q,Am,Ac]<;>rfl
end Go.Lift.W1
end

section
namespace Go.Proofs
open Go.Shelf
def Tryz.lays230_ren:Go.Shelf.Ren:=⟨λ|230=>107|197=>127|118=>128|165=>129|166=>130|168=>131|270=>132|167=>133|169=>134|260=>140|240=>141|241=>142|242=>143|276=>146|277=>147|278=>148|n=>n,λ|107=>122|9=>9|72=>148|0=>0|4=>4|3=>3|21=>21|105=>103|76=>152|5=>5|75=>151|70=>146|20=>20|37=>22|127=>161|119=>163|46=>119|139=>166|138=>165|164=>167|51=>170|80=>100|n=>n,λ|3=>1|4=>2|n=>n⟩
theorem Tryz.lays230:Go.Proofs.Lays.n230 Aa Tryz.lays230_ren:={
 mixed:=kr
 f118:=Tryz.func128.trans (congrArg some kr)
 f165:=Tryz.func129.trans (congrArg some kr)
 f166:=Tryz.func130.trans (congrArg some kr)
 f167:=Tryz.func133.trans (congrArg some kr)
 f168:=Tryz.func131.trans (congrArg some kr)
 f169:=Tryz.func134.trans (congrArg some kr)
 f197:=Tryz.func127.trans (congrArg some kr)
 f230:=Tryz.func107.trans (congrArg some kr)
 f240:=Tryz.func141.trans (congrArg some kr)
 f241:=Tryz.func142.trans (congrArg some kr)
 f242:=Tryz.func143.trans (congrArg some kr)
 f260:=Tryz.func140.trans (congrArg some kr)
 f270:=Tryz.func132.trans (congrArg some kr)
 f276:=Tryz.func146.trans (congrArg some kr)
 f277:=Tryz.func147.trans (congrArg some kr)
 f278:=Tryz.func148.trans (congrArg some kr)
 t0:=Tryz.underlying0
 a0:=Tryz.isAgg0
 z0:=Tryz.sizeOf0
 v0:=Tryz.zeroValue0
 t3:=Tryz.underlying3
 a3:=Tryz.isAgg3
 z3:=Tryz.sizeOf3
 v3:=Tryz.zeroValue3
 t4:=Tryz.underlying4
 a4:=Tryz.isAgg4
 z4:=Tryz.sizeOf4
 v4:=Tryz.zeroValue4
 t5:=Tryz.underlying5
 a5:=Tryz.isAgg5
 z5:=Tryz.sizeOf5
 v5:=Tryz.zeroValue5
 t9:=Tryz.underlying9
 a9:=Tryz.isAgg9
 z9:=Tryz.sizeOf9
 v9:=Tryz.zeroValue9
 t20:=Tryz.underlying20
 a20:=Tryz.isAgg20
 z20:=Tryz.sizeOf20
 v20:=Tryz.zeroValue20
 t21:=Tryz.underlying21
 a21:=Tryz.isAgg21
 z21:=Tryz.sizeOf21
 v21:=Tryz.zeroValue21
 t37:=Tryz.underlying22
 a37:=Tryz.isAgg22
 z37:=Tryz.sizeOf22
 v37:=Tryz.zeroValue22
 t46:=Tryz.underlying119
 a46:=Tryz.isAgg119
 z46:=Tryz.sizeOf119
 v46:=Tryz.zeroValue119
 t51:=Tryz.underlying170
 a51:=Tryz.isAgg170
 z51:=Tryz.sizeOf170
 v51:=Tryz.zeroValue170
 t70:=Tryz.underlying146
 a70:=Tryz.isAgg146
 z70:=Tryz.sizeOf146
 v70:=Tryz.zeroValue146
 t72:=Tryz.underlying148
 a72:=Tryz.isAgg148
 z72:=Tryz.sizeOf148
 v72:=Tryz.zeroValue148
 t75:=Tryz.underlying151
 a75:=Tryz.isAgg151
 z75:=Tryz.sizeOf151
 v75:=Tryz.zeroValue151
 t76:=Tryz.underlying152
 a76:=Tryz.isAgg152
 z76:=Tryz.sizeOf152
 v76:=Tryz.zeroValue152
 t105:=Tryz.underlying103
 a105:=Tryz.isAgg103
 z105:=Tryz.sizeOf103
 v105:=Tryz.zeroValue103
 t107:=Tryz.underlying122
 a107:=Tryz.isAgg122
 z107:=Tryz.sizeOf122
 v107:=Tryz.zeroValue122
 t119:=Tryz.underlying163
 a119:=Tryz.isAgg163
 z119:=Tryz.sizeOf163
 t127:=Tryz.underlying161
 a127:=Tryz.isAgg161
 z127:=Tryz.sizeOf161
 v127:=Tryz.zeroValue161
 t138:=Tryz.underlying165
 a138:=Tryz.isAgg165
 z138:=Tryz.sizeOf165
 v138:=Tryz.zeroValue165
 t139:=Tryz.underlying166
 a139:=Tryz.isAgg166
 z139:=Tryz.sizeOf166
 v139:=Tryz.zeroValue166
 t164:=Tryz.underlying167
 a164:=Tryz.isAgg167
 z164:=Tryz.sizeOf167
 v164:=Tryz.zeroValue167
 g3:=kr
 g4:=by kernel_rfl}
end Go.Proofs
end

section
namespace Go.Lift.W1
variable[MX]
open Go.Proofs Go.RowKit
theorem JgC:Builder.Extra Aa Tryz.lays230_ren where
 sizeBuilder:=kr
 liesBuilder:=kr
 t5:=kr
 a5:=Tryz.lays230.a5
 z5:=Tryz.lays230.z5
 v5:=Tryz.lays230.v5
 infoByte:=kr
 cellsByte:=kr
 sizeByte:=kr
 neB5:=by decide
theorem JVG(x:Int)(w:World):Calls Aa 108 #[.int .i32 x] w λe w'=>e= .returned (.int .i32 (YS x))/\ ∃q,w'=w.drewN q:=by
 by_cases h1:65<=x
 ·by_cases h2:x<=90
  ·have e1:Az.wrap (x+97)=x+97:=wrap_i32 om om
   have e2:Az.wrap (x+97-65)=x+32:=by rw[wrap_i32 om om];omega
   have e3:YS x=x+32:=by unfold YS;rw[if_pos (by simp[h1,h2])]
   rw[e3]
   go_enter Tryz.func108,Tryz.ntmps108
   go_wp2
   all_goals go_ret
   exact⟨rfl,0,rfl⟩
  ·have e3:YS x=x:=by unfold YS;rw[if_neg (by simp[h2])]
   rw[e3]
   go_enter Tryz.func108,Tryz.ntmps108
   go_wp2
   all_goals go_ret
   exact⟨rfl,0,rfl⟩
 ·have e3:YS x=x:=by unfold YS;rw[if_neg (by simp[h1])]
  rw[e3]
  go_enter Tryz.func108,Tryz.ntmps108
  go_wp2
  all_goals go_ret
  exact⟨rfl,0,rfl⟩
theorem g3:Tryz.lays230_ren.g 3=1:=rfl
theorem g4:Tryz.lays230_ren.g 4=2:=rfl
theorem Jm5:GTab.tab 1=some ((A9 256).map λc=>V.v (.int .u8 (Go.Lib.firstT c))):=rfl
theorem Jm6:GTab.tab 2=some ((A9 16).flatMap λi=>[V.v (.int .u8 (Go.Lib.accLo i)),V.v (.int .u8 (Go.Lib.accHi i))]):=rfl
theorem JGB{f g:Nat->V}:∀(n i:Nat),i<n->((A9 n).flatMap λi=>[f i,g i])[2*i]? =some (f i)/\((A9 n).flatMap λi=>[f i,g i])[2*i+1]? =some (g i):=by
 intro n
 have hlen:∀n,((A9 n).flatMap λi=>[f i,g i]).length=2*n:=by
  intro n
  induction n with
  |zero=>rfl
  |succ n ih=>rw[MA,LV,An,ih];simp;omega
 induction n with
 |zero=>intro i hi;omega
 |succ n ih=>
  intro i hi;rw[MA,LV];by_cases h:i<n
  ·obtain⟨a,b⟩:=ih i h
   rw[AQ (by rw[hlen];omega),AQ (by rw[hlen];omega)]
   exact⟨a,b⟩
  ·obtain rfl:i=n:=om
   rw[AL (by rw[hlen];omega),AL (by rw[hlen];omega),hlen]
   have e1:2*i-2*i=0:=om;have e2:2*i+1-2*i=1:=om;rw[e1,e2];exact⟨rfl,rfl⟩
theorem JVH{c:Cl}{w:World}(hg:∀n cs,GTab.tab n=some cs->ROs c w ⟨n,0,none⟩ cs):Go.Lib.Utf8Tabs 1 2 w:=by
 refine⟨λk hk=>?_,λi hi=>?_⟩
 ·obtain⟨_,h⟩:=hg 1 _ Jm5
  obtain⟨x,hx,hv⟩:=h k (.v (.int .u8 (Go.Lib.firstT k))) (by simp[hk])
  rw[AB]at hx;rw[hx,VP.v_eq hv]
 ·obtain⟨_,h⟩:=hg 2 _ Jm6
  obtain⟨p1,p2⟩:=JGB (f:=λi=>V.v (.int .u8 (Go.Lib.accLo i))) (g:=λi=>V.v (.int .u8 (Go.Lib.accHi i))) 16 i hi
  obtain⟨x,hx,hv⟩:=h _ _ p1;obtain⟨y,hy,hu⟩:=h _ _ p2;rw[AB]at hx hy;rw[hx,hy,VP.v_eq hv,VP.v_eq hu];exact⟨rfl,rfl⟩
theorem JSK{m:List Nat}{c:Cl}{w w':World}{h:Heap}{lo:Nat}(hH:HOK m c w h)(hb:Below w.heap.size w w'):
  HOK m c w' h/\Fr lo (hoOf m w h lo) w m c w' m c/\JC0 lo (hoOf m w h lo) w m w' [] h kS:=by
 obtain⟨hC,hold⟩:=hH;have hcell:∀b o,b<w.heap.size->w'.cell? ⟨b,o,none⟩=w.cell? ⟨b,o,none⟩:=λb o hl=>JQ (hb.block b hl) o
 have hce:∀b,0<c b->b<w.heap.size:=λb h0=>by
  rcases Ax b w.heap.size with hl|hl
  ·exact hl
  ·rw[hC.c_zero hl]at h0;omega
 have he:Ext c w c w':=⟨λ_=>Ac _,λb o ho=>hcell b o (hce b om),λb _=>by
  rcases Ax b w.heap.size with hl|hl
  ·exact Shp.same (hb.block b hl)
  ·exact Shp.none hl⟩
 have hm:∀{i b},m[i]? =some b->w'.heap[b]? =w.heap[b]? /\c b=c b:=λ{i b} hi=>⟨hb.block b (hC.m_lt hi),rfl⟩
 have hAt:∀{l r x},At m w' [] h kS l r x->At m w [] h kS l r x:=λ{l r x} hl=>by
  cases l with
  |slot t=>exact hl
  |cell i j=>obtain⟨cs,b,h1,h2,h3,h4⟩:=hl;exact⟨cs,b,h1,h2,h3,by rw[<-JQ (hm h3).1];exact h4⟩
 have hAt':∀{l r x},At m w [] h kS l r x->At m w' [] h kS l r x:=λ{l r x} hl=>by
  cases l with
  |slot t=>exact hl
  |cell i j=>obtain⟨cs,b,h1,h2,h3,h4⟩:=hl;exact⟨cs,b,h1,h2,h3,by rw[JQ (hm h3).1];exact h4⟩
 refine⟨⟨⟨λb h0=>?_,hC.wf2,hC.nd,hC.len,λt=>(hC.env t).mono (Pre.refl m) he,λi o b ho hbm=>(hC.ob i o b ho hbm).keep (hm hbm).1 (Pre.refl m) he,λl r x hl=>?_,
   λl l' r r' x x' b h1 h2=>hC.uniq l l' r r' x x' b (hAt h1) (hAt h2),hC.tagS,λt i j r ht=>hAt' (hC.tagC t i j r ht),λn cs hg=>(hC.gt n cs hg).mono he⟩,hold⟩,
  ⟨hb.os,hb.tape,hb.output,hb.size,Pre.refl m,λi b hi hbm=>?_,he,λb hl _ _=>⟨hb.block b hl,rfl⟩⟩,λl r x b hl hu hbx=>?_⟩
 ·rw[hb.block b (hce b h0)]
  exact hC.wf1 b h0
 ·refine(hC.own l r x (hAt hl)).keep λb hbx=>?_
  exact⟨hb.block b ((hC.own l r x (hAt hl)).lt hbx).1,rfl,id⟩
 ·have:=(Ab.1 hbm).1
  omega
 ·right
  cases l with
  |slot t=>exact absurd hl.1 (by simp[look])
  |cell i j=>exact⟨i,j,r,x,hu,hAt hl,hbx⟩
theorem JLi{f lo:Nat}{args:List V}{h:Heap}{x:Value}(he:∀xs w,(callFunc f xs).run Aa w= .ok (.enter f xs) w)
  (hx:∀m c w (xs:Array Value),HOK m c w h->R2 (VRr m c w) args xs.toList->Calls Aa f xs w λe w'=>e= .returned x/\Below w.heap.size w w'):
  Wl Aa lo f args h (.v x) h:=
 CallOK0.ok ⟨rfl,he,λm c w xs hH ha=>⟨⟨rfl,rfl,Keeps.refl _ _⟩,(hx m c w xs hH ha).mono λe w' ⟨h1,hb⟩=>by
  obtain⟨q1,q2,q3⟩:=JSK (lo:=lo) hH hb
  exact⟨_,c,h1,rfl,q1,q2,q3⟩⟩⟩
theorem JaP{lo:Nat}{args:List V}{h:Heap}{r:V}{h':Heap}(hlo:lo<=h.length)(he:JQZ lo args h=some (r,h')):Wl Aa lo 107 args h r h':=by
 unfold JQZ at he
 split at he
 ·rename_i g s
  split at he
  ·rename_i hc
   obtain⟨rfl,hs⟩:=hc;cases he
   exact JLi (enters_of Tryz.func107 kr rfl) λm c w xs hH ha=>by
    obtain⟨hlen,hall⟩:=ha
    have hx2:∃x y,xs= #[x,y]:=by
     obtain⟨l⟩:=xs
     match l,hlen with
     |[x,y],_=>exact⟨x,y,rfl⟩
    obtain⟨x,y,rfl⟩:=hx2;have h0:=hall 0 _ _ rfl rfl;have h1:=hall 1 _ _ rfl rfl;obtain⟨cs,ds,rfl,hcs,hds⟩:=h0;obtain rfl:y= .string s:=h1
    have hcs0:cs= #[]:=by
     obtain⟨l⟩:=cs
     match l,hcs.1 with
     |[],_=>rfl
    have hds0:ds= #[]:=by
     obtain⟨l⟩:=ds
     match l,hds.1 with
     |[],_=>rfl
    subst hcs0;subst hds0
    have hT:Go.Lib.Utf8Tabs (Tryz.lays230_ren.g 3) (Tryz.lays230_ren.g 4) w:=by rw[g3,g4];exact JVH hH.1.gt
    have hM:MapAtRunes Aa 108 #[] YS w:=λW k hk _=>JVG k W
    exact Any.strings_Map_runes Tryz.lays230 JgC 108 #[] (enters_of Tryz.func108 kr rfl) YS s w hs hM (λk hk=>by unfold YS;split<;>omega) hT
  ·cases he
 ·cases he
theorem JMs:∀f p,primz f=some p->∀lo args h r h',lo<=h.length->p lo args h=some (r,h')->Wl Aa lo f args h r h':=by
 intro f p hp lo args h r h' hlo he;unfold primz at hp
 split at hp
 ·cases hp
  exact JaP hlo he
 ·cases hp
end Go.Lift.W1
end

section
namespace Go.Proofs.YtkmiddfplmnaoaaGreatDoor
open Go.Lift Go.Lift.W1 Go.ChangeShapes Go.WideShapes Go.ChangeAt Go.RowKit
theorem JSL(H:Type):IsBulk (H:=H) Rows.uptoBulk Rows.uptoBulkAll:=
 ⟨rfl,λ_ _=>rfl,λ_=>rfl,λ_=>rfl,λ_ _=>rfl,rfl,λe s=>by show Rows.uptoBulkAll e+1≤Rows.uptoBulkAll e+Rows.uptoBulkAll s+1;omega,λ_=>rfl⟩
theorem own:ownKnob Aa.godebug=none:=kr
theorem JMt:laidOutB Aa=true:=kr
theorem follows:Aa.follows .mixedOrders=true:=kr
theorem JLj{w:World}{g:Nat}{cs:List V}(h:∀(j:Nat) v,cs[j]? =some v→ ∃x,w.cell? ⟨g,j,none⟩=some x∧VP (Ki w) w v x):ROs (Ki w) w ⟨g,0,none⟩ cs:=by
 refine⟨?_,λj v hj=>by simpa using h j v hj⟩
 cases cs with
 |nil=>exact A0 _
 |cons c t=>
  have hl:(c::t)[t.length]? =some ((c::t)[t.length]'(by simp)):=List.getElem?_eq_getElem (by simp)
  obtain⟨x,hx,_⟩:=h t.length _ hl;unfold World.cell? at hx;unfold Ki;simp only at hx⊢
  split at hx
  ·rename_i arr e f he
   rw[he];simp only[Ag];have:=(Array.getElem?_eq_some_iff.1 hx).1
   omega
  ·cases hx
theorem JLk:(Rows.laid_jalousie_jalousieref3_kinds:DataW Unit)=Lib.tabData .i64 [21,22,19,20,23,24,18,16,17]:=rfl
theorem JLl:Rows.laid_unicode_utf8_first=Lib.firstData:=kr
theorem JJz:(Rows.laid_unicode_utf8_acceptRanges:DataW Unit)=Lib.acceptData:=kr
theorem JOe{w:World}{name:String}{k:IntKind}{zs:List Int}{g:Nat}{t e:TypeId}{n:Nat}(hn:Aa.globalNamed name=some g)(hy:(Aa.globals[g]?).map (·.type)=some t)
  (ht:Aa.underlying t=some (.array n e))(he:Aa.underlying e=some (.int k))(hce:Aa.cellsOf e=1)(hct:Aa.cellsOf t=n)(h:Lib.VarReads Aa w name (Lib.tabData k zs)):
  ∀(j:Nat) (z:Int),zs[j]? =some z→w.cell? ⟨g,j,none⟩=some (.int k z):=λj z hz=>by
 obtain⟨g',t',cs,fuel,p,h1,h2,h3,h4⟩:=h;obtain rfl:=Option.some.inj (hn.symm.trans h1);obtain rfl:=Option.some.inj (hy.symm.trans h2);have hcs:=Lib.cells_of_tab ht he hce hct h4;have:=World.var?_cell hn h3 j
 rw[this,←Array.getElem?_toList,hcs]
 simp[hz]
theorem gok[MX]{W:World}(hk:MX.k=true→Lib.VarReads Aa W "jalousie/jalousieref3.kinds" Rows.laid_jalousie_jalousieref3_kinds)
  (h2:Lib.VarReads Aa W "unicode/utf8.first" Rows.laid_unicode_utf8_first) (h3:Lib.VarReads Aa W "unicode/utf8.acceptRanges" Rows.laid_unicode_utf8_acceptRanges):GOK W:=by
 rw[JLk]at hk;rw[JLl]at h2;rw[JJz]at h3
 have hU:Lib.Utf8Tabs (Tryz.lays230_ren.g 3) (Tryz.lays230_ren.g 4) W:=
  utf8Tabs_of_reads (ρ:=Tryz.lays230_ren) {Tryz.lays230 with} ⟨by kernel_rfl,by kernel_rfl,by kernel_rfl,by kernel_rfl,by kernel_rfl,by kernel_rfl,by kernel_rfl⟩ h2 h3
 rw[g3,g4]at hU;intro n cs hc;have e:GTab.tab n=gtab.1 n:=rfl;rw[e]at hc;unfold gtab at hc;simp only at hc
 split at hc
 ·split at hc
  ·rename_i hf
   have c0:=JOe (g:=0) (t:=108) (e:=3) (n:=9) kr kr kr kr kr kr (hk hf);cases hc;refine JLj λj v hj=>?_
   have hj2:(([21,22,19,20,23,24,18,16,17]:List Int).map λz=>V.v (.int .i64 z))[j]? =some v:=hj
   simp only[Ao,Option.map_eq_some_iff]at hj2
   obtain⟨k,hk2,rfl⟩:=hj2;exact⟨_,c0 j k hk2,.v _ rfl⟩
  ·cases hc
 ·cases hc
  refine JLj λj v hj=>?_
  simp only[Ao,Option.map_eq_some_iff]at hj
  obtain⟨k,hk2,rfl⟩:=hj
  have hlt:j<256:=by
   have:=(Ab.1 hk2).1
   simpa using this
  rw[List.getElem?_range hlt]at hk2
  cases hk2;exact⟨_,hU.1 j hlt,.v _ rfl⟩
 ·cases hc
  refine JLj λj v hj=>?_
  have hjl:j<32:=by
   rcases Ax j 32 with h|h
   ·exact h
   ·exfalso
    have hl:((A9 16).flatMap λi=>[V.v (.int .u8 (Go.Lib.accLo i)),V.v (.int .u8 (Go.Lib.accHi i))]).length=32:=rfl
    rw[List.getElem?_eq_none (by rw[hl];exact h)]at hj
    cases hj
  obtain⟨i,hi,hj2⟩:∃i,i<16∧(j=2*i∨j=2*i+1):=⟨j/2,om,om⟩;obtain⟨p1,p2⟩:=JGB (f:=λi=>V.v (.int .u8 (Go.Lib.accLo i))) (g:=λi=>V.v (.int .u8 (Go.Lib.accHi i))) 16 i hi
  rcases hj2 with rfl|rfl
  ·rw[p1]at hj
   cases hj;exact⟨_,(hU.2 i hi).1,.v _ rfl⟩
  ·rw[p2]at hj
   cases hj;exact⟨_,(hU.2 i hi).2,.v _ rfl⟩
 ·cases hc
noncomputable def GD(os:Os):World:=
 let w0:=World.holding Aa os ⟨#[],#[],[]⟩
 let put (h:Array Obj) (g:Nat) (cs:Array Value):Array Obj:=h.modify g fun
  | .cells _ t frozen=> .cells cs t frozen
  |o=>o
 let h1:=put w0.heap 1 (Lib.firstTab.map λz=>Value.int .u8 z).toArray
 let h2:=put h1 2 ((A9 16).flatMap λi=>[Value.int .u8 (Lib.accLo i),Value.int .u8 (Lib.accHi i)]).toArray
 let h3:=put h2 0 ([21,22,19,20,23,24,18,16,17].map λz=>Value.int .i64 z).toArray
 {w0 with heap:=h3}
theorem JVq(os:Os)(args:Array Value):LaidIn Aa ((GD os).forCall (λ_ _=>0) ⟨#[],args,[]⟩).memory [("unicode/utf8.acceptRanges",Rows.laid_unicode_utf8_acceptRanges),("jalousie/jalousieref3.kinds",Rows.laid_jalousie_jalousieref3_kinds),("unicode/utf8.first",Rows.laid_unicode_utf8_first)] [2,0,1]:=
 LaidIn.of_run [2,0,1] 8 kr kr kr kr
theorem JaQ{t:TypeId}{k:IntKind}{p:List V}(ht:Aa.underlying t=some (.int k))(h:Ty Aa t p):∃n,p=[.v (.int k n)]∧(Lit.int k n).wf=true:=by
 cases h with
 |int k' n hu hw=>rw[ht]at hu;cases hu;exact⟨n,rfl,hw⟩
 |bool b hu=>rw[ht]at hu;cases hu
 |string s hu=>rw[ht]at hu;cases hu
 |slice rows hu _=>rw[ht]at hu;cases hu
 |struct fs cells hu _=>rw[ht]at hu;cases hu
theorem JaR{t:TypeId}{p:List V}(ht:Aa.underlying t=some .string)(h:Ty Aa t p):∃s,p=[.v (.string s)]:=by
 cases h with
 |int k' n hu hw=>rw[ht]at hu;cases hu
 |bool b hu=>rw[ht]at hu;cases hu
 |string s hu=>exact⟨s,rfl⟩
 |slice rows hu _=>rw[ht]at hu;cases hu
 |struct fs cells hu _=>rw[ht]at hu;cases hu
theorem JaS{n:Int}(h:(Lit.int .i64 n).wf=true): -9223372036854775808≤n∧n≤9223372036854775807:=by simp[Lit.wf,MK,ML,Dm,Dl]at h;omega
theorem JaT(s:ByteArray):∃l:List Int,Utf.By l∧s=Rul.bs l∧l.length=s.size:=by
 refine⟨s.data.toList.map λc=>(c.toNat:Int),?_,?_,?_⟩
 ·intro c hc
  obtain⟨x,_,rfl⟩:=AK.1 hc;have:=x.toNat_lt;omega
 ·apply ByteArray.ext
  unfold Rul.bs WN;simp only[Cn];apply Array.toList_inj.1
  conv=>lhs;rw[←List.map_id s.data.toList]
  apply List.map_congr_left;intro c _;simp
 ·rw[Av,Array.length_toList];rfl
theorem JgD{t e:TypeId}{k:IntKind}(ht:Aa.underlying t=some (.slice e))(hk:Aa.underlying e=some (.int k)){v:V}(h:TyV Aa t v):
  ∃l:List Int,v= .list .no (ri k l)/\ ∀c∈l,(Lit.int k c).wf=true:=by
 unfold TyV at h;rw[ht]at h;simp only at h
 cases h with
 |slice rows hu hr=>
  rw[ht]at hu;cases hu
  have each:∀rows:List (List V),(∀row∈rows,Ty Aa e row)->∃l:List Int,rows=ri k l/\ ∀c∈l,(Lit.int k c).wf=true:=by
   intro rows
   induction rows with
   |nil=>intro _;exact⟨[],rfl,λ_ hc=>by cases hc⟩
   |cons r rs ih=>
    intro h;obtain⟨l,rfl,hl⟩:=ih λrow hm=>h row (List.mem_cons_of_mem _ hm)
    have h0:=h r (List.mem_cons_self ..)
    cases h0 with
    |int k' n hk' hw=>
     rw[hk]at hk';cases hk';refine⟨n::l,rfl,λc hc=>?_⟩
     rcases Bg.mp hc with rfl|hc
     ·exact hw
     ·exact hl c hc
    |bool b hk'=>rw[hk]at hk';cases hk'
    |string s hk'=>rw[hk]at hk';cases hk'
    |slice rows hk' _=>rw[hk]at hk';cases hk'
    |struct fs cells hk' _=>rw[hk]at hk';cases hk'
  obtain⟨l,rfl,hl⟩:=each rows hr
  exact⟨l,rfl,hl⟩
 |struct fs cells hu _=>rw[ht]at hu;cases hu
 |bool b hu=>rw[ht]at hu;cases hu
 |int k n hu _=>rw[ht]at hu;cases hu
 |string s hu=>rw[ht]at hu;cases hu
theorem JgG{v:V}(h:TyV Aa 22 v):∃l:List Int,v= .list .no (ri .u8 l)/\ ∀c∈l,0<=c/\c<=255:=by
 obtain⟨l,h1,h2⟩:=JgD Tryz.underlying22 Tryz.underlying5 h;refine⟨l,h1,λc hc=>?_⟩
 have:=h2 c hc;simp[Lit.wf,MK,ML,Dm,Dl]at this;omega
theorem JSM(k:IntKind)(l:List Int):l.length<=G5 (ri k l):=by
 induction l with
 |nil=>simp
 |cons n l ih=>simp only[Ka,G5,Qj,H8,Ag];omega
theorem Jm7{v:V}{n:Nat}(h:TyV Aa 22 v)(hs:ZN v<=n)(hn:n<=1048576):∃l:List Int,v= .list .no (ri .u8 l)/\Utf.By l/\l.length<=n:=by obtain⟨l,rfl,hl⟩:=JgG h;have:=JSM .u8 l;exact⟨l,rfl,hl,by simp only[ZN,H8]at hs;omega⟩
theorem ty3{v:V}{n:Nat}(h:TyV Aa 3 v)(hs:ZN v<=n)(hn:n<=1048576):∃a:Int,v= .v (.int .i64 a)/\ -9223372036854775808<=a/\a<=9223372036854775807:=by
 unfold TyV at h;rw[Tryz.underlying3]at h;obtain⟨a,hp,hw⟩:=JaQ Tryz.underlying3 h;obtain rfl:v= .v (.int .i64 a):=by simpa using hp
 have:=JaS hw;exact⟨a,rfl,this.1,this.2⟩
theorem ty9{v:V}{n:Nat}(h:TyV Aa 9 v)(hs:ZN v<=n)(hn:n<=1048576):∃l:List Int,v= .v (.string (Go.Lift.W1.bs l))/\Utf.By l/\l.length<=n:=by
 unfold TyV at h;rw[Tryz.underlying9]at h;obtain⟨s,hp⟩:=JaR Tryz.underlying9 h;obtain rfl:v= .v (.string s):=by simpa using hp
 obtain⟨l,hl,rfl,hk⟩:=JaT s;refine⟨l,rfl,hl,?_⟩
 simp only[ZN,H8]at hs;omega
end Go.Proofs.YtkmiddfplmnaoaaGreatDoor
end

section
namespace Go.Proofs.YtkmiddfplmnaoaaGreatDoor
theorem JY{a b:Bool}(ha:a=true)(hb:b=true):(a&&b)=true:=by rw[ha,hb];rfl
theorem JVr:laidOutB Aa=true:=kr
theorem JVs:mapsRowed Aa=true:=kr
theorem JVt:(Aa.stops==[])=true:=kr
theorem JVu:(Aa.stopKnobs==[])=true:=kr
theorem JSN:(Rows.ruleSheetUptoRow.plainKeys==Aa.plainKeys)=true:=kr
theorem JSO:Aa.stopsHeard=true:=kr
theorem JSP:Aa.mayEnter=true:=kr
theorem JSQ:(Rows.ruleSheetUptoRow.lifted==Aa.liftsFinal)=true:=kr
theorem JSR:(Aa.make==some Rows.ruleSheetUptoRow.make)=true:=kr
end Go.Proofs.YtkmiddfplmnaoaaGreatDoor
end

section
open Go.Proofs
namespace Go.Lift.W1
open Rul (J2)
open Utf (By)
variable[MX]
def yY:List Int:=[64,109,101,100,105,97,32,120,123]
def JCO:List Int:=[102,40]
def rep(p:List Int):Nat->List Int
 |0=>[]
 |n+1=>p++rep p n
theorem JCP(p:List Int):∀n,rep p (n+1)=rep p n++p
 |0=>by simp[rep]
 |n+1=>by
  show p++rep p (n+1)=(p++rep p n)++p
  rw[JCP p n,Aw]
theorem qa(p:List Int):∀n,(rep p n).length=n*p.length
 |0=>by simp[rep]
 |n+1=>by rw[rep,An,qa p n,Nat.succ_mul];omega
theorem JLm{p:List Int}(hp:By p):∀n,By (rep p n)
 |0=>λc hc=>by cases hc
 |n+1=>λc hc=>by
  rcases AW.1 hc with h|h
  ·exact hp c h
  ·exact JLm hp n c h
abbrev N5a(x:List Int)(k n i:Nat)(t:List Int):Ja:=[(2,.v (.string (bs x))),(8,.v (.int .i64 k)),(9,.v (.string (bs t))),(24,.v (.int .i64 n)),(25,.v (.int .i64 i))]
theorem JVJ{x t:List Int}{k n i:Nat}(hi:i<n)(hn:n<=1000)(ht:t.length<=1000000):
  evCode ⟨Aa,E,0,0,h4⟩ JA JQb (N5a x k n i t,[])=some (.normal,N5a x k n (i+1) (t++yY),[]):=by
 have q:decide ((i:Int)<(n:Int))=true:=by simpa using hi
 have hw:=JD (i:=i) om;have e:(⟨#[64,109,101,100,105,97,32,120,123]⟩:ByteArray)=bs yY:=by decide
 have z:t.length+9<=9223372036854775807:=om;have hm:yY.length=9:=rfl;simp only[N5a,go_sem,JQb,b4,Tryz.f4,q,hw,e,bs_app,JZ,hm,z]<;>rfl
theorem JSS{x:List Int}{k n:Nat}(hn:n<=1000):∀(m i:Nat),m=n-i->i<=n->
  JA (evCode ⟨Aa,E,0,0,h4⟩ JA JQb) (N5a x k n i (rep yY i),[])=some (.exit 0,N5a x k n n (rep yY n)++[(26,.v (.bool false))],[])
 |0,i,hm,hi=>by
  obtain rfl:i=n:=om;have hd:decide ((i:Int)<(i:Int))=false:=by simp
  rw[JB]
  simp only[N5a,go_sem,JQb,b4,Tryz.f4,hd]<;>rfl
 |m+1,i,hm,hi=>by have hl:=qa yY i;have h9:yY.length=9:=rfl;rw[h9]at hl;rw[JB,JVJ om hn om,JK,<-JCP];exact JSS hn m (i+1) om om
abbrev N5b(x:List Int)(k j:Nat)(t:List Int):Ja:=[(2,.v (.string (bs x))),(9,.v (.string (bs t))),(32,.v (.int .i64 k)),(33,.v (.int .i64 j))]
theorem JVK{x t:List Int}{k j:Nat}(hj:j<k)(hk:k<=1000)(ht:t.length<=1000000):
  evCode ⟨Aa,E,0,0,h4⟩ JA JQc (N5b x k j t,[])=some (.normal,N5b x k (j+1) (t++JCO),[]):=by
 have q:decide ((j:Int)<(k:Int))=true:=by simpa using hj
 have hw:=JD (i:=j) om;have e:(⟨#[102,40]⟩:ByteArray)=bs JCO:=by decide
 have z:t.length+2<=9223372036854775807:=om;have hm:JCO.length=2:=rfl;simp only[N5b,go_sem,JQc,b4,Tryz.f4,q,hw,e,bs_app,JZ,hm,z]<;>rfl
theorem JST{x t:List Int}{k:Nat}(hk:k<=1000)(ht:t.length<=10000):∀(m j:Nat),m=k-j->j<=k->
  JA (evCode ⟨Aa,E,0,0,h4⟩ JA JQc) (N5b x k j (t++rep JCO j),[])=some (.exit 2,N5b x k k (t++rep JCO k)++[(34,.v (.bool false))],[])
 |0,j,hm,hj=>by
  obtain rfl:j=k:=om;have hd:decide ((j:Int)<(j:Int))=false:=by simp
  rw[JB]
  simp only[N5b,go_sem,JQc,b4,Tryz.f4,hd]<;>rfl
 |m+1,j,hm,hj=>by
  have hl:=qa JCO j;have h9:JCO.length=2:=rfl;rw[h9]at hl;rw[JB,JVK om hk (by rw[An];omega),JK,Aw,<-JCP]
  exact JST hk ht m (j+1) om om
theorem JSU{a:Int}(h0: -9223372036854775808<=a)(h1:a<=9223372036854775807):∃n:Nat,n<=140/\Ak.wrap (a.tmod 140+140)=a.tmod 140+140/\
  Ak.wrap ((a.tmod 140+140).tmod 140+1)=(n:Int):=by
 have e1: -140<a.tmod 140/\a.tmod 140<140:=⟨by
  rcases(show a<0\/0<=a by omega)with h|h
  ·have h3:=GF (-a) (show(0:Int)<140 by omega)
   rw[Int.neg_tmod]at h3;omega
  ·have:=MB 140 h
   omega,GF a om⟩
 have e2:0<=(a.tmod 140+140).tmod 140:=MB _ om;have e3:(a.tmod 140+140).tmod 140<140:=GF _ om;refine⟨((a.tmod 140+140).tmod 140+1).toNat,om,by rw[JL]<;>omega,by rw[JL]<;>omega⟩
theorem f4[HasK]{a c:Int}{x:List Int}(ha0: -9223372036854775808<=a)(ha1:a<=9223372036854775807)(hc0: -9223372036854775808<=c)(hc1:c<=9223372036854775807)(hx:By x)(hl:x.length<=1048576):
  E 0 4 [.v (.int .i64 a),.v (.int .i64 c),.v (.string (bs x))] []=some (.v (.bool true),[]):=by
 have c8:=f8;obtain⟨n,hn,n1,n2⟩:=JSU ha0 ha1;obtain⟨k,hk,k1,k2⟩:=JSU hc0 hc1;have h9:yY.length=9:=rfl;have h2:JCO.length=2:=rfl;have ln:=qa yY n;have lk:=qa JCO k;rw[h9]at ln;rw[h2]at lk;have hLa:=JSS (x:=x) (k:=k) (n:=n) om n 0 om om;have hLb:=JST (x:=x) (t:=rep yY n++[97,123,98,58]) (k:=k) om (by rw[An,ln];simp;omega) k 0 om om
 have hy:By (rep yY n++97::123::98::58::(rep JCO k++x)):=λy hy=>by
  simp only[AW,Bg]at hy;rcases hy with hy|rfl|rfl|rfl|rfl|hy|hy
  ·exact JLm (by decide) n y hy
  ·omega
  ·omega
  ·omega
  ·omega
  ·exact JLm (by decide) k y hy
  ·exact hx y hy
 have hB:=Y0 hy;obtain⟨R,e,c19,c20,c15⟩:=JSJ hy;have c19:=c19 0 [] (A0 _);have c20:=c20 0 [] (A0 _);have c15:=c15 0 [] (A0 _);have q:(e==e)=true:=beq_self_eq_true e;have e4:(⟨#[97,123,98,58]⟩:ByteArray)=bs [97,123,98,58]:=by decide
 have z1:(rep yY n).length+4<=9223372036854775807:=om;have z2:(rep yY n++97::123::98::58::rep JCO k).length+x.length<=9223372036854775807:=by simp only[An,Ag];omega
 have e0:bs []=(⟨#[]⟩:ByteArray):=rfl;simp only[N5a,JQb,b4,Tryz.f4,JG,JT,JC,go_sem,rep,e0]at hLa;simp only[N5b,JQc,b4,Tryz.f4,JG,JT,JC,go_sem,rep,Aq]at hLb;have h140:¬((140:Int)=0):=by decide
 rw[W1.e4];simp only[go_sem,b4,Tryz.f4,c8,c19,c20,c15,q,h140,n1,n2,k1,k2,hLa,hLb,hB,e4,bs_app,JZ,z1,z2,Ag,Am,Ac]<;>rfl
end Go.Lift.W1
end
