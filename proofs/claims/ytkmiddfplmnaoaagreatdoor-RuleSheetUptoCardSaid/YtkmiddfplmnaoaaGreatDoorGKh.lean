/- The check that something is told at all: a{b:c}, read by computing. -/
import Derived.ProofKit
import Derived.Test.YtkmiddfplmnaoaaGreatDoorGLd
import Derived.Test.YtkmiddfplmnaoaaGreatDoorGKd
import Derived.Test.YtkmiddfplmnaoaaGreatDoorGKe
import Derived.Test.YtkmiddfplmnaoaaGreatDoorGKg
open Bool renaming and_eq_true->Ah,false_eq_true->As,false_or->Br,not_eq_true->BU,or_eq_false_iff->B2,or_eq_true->AN,true_or->Cb
open ByteArray renaming data_extract->Ls,empty->A6,ext->DR,size->DH
open Go.IntKind renaming i64->Ak,u64->BP,u8->AX
open Go.Proofs.Tryz renaming prog->Aa
open Go.Value renaming int->Bp
open Int renaming pow_add->Dx,pow_succ->Cc,tdiv->Mv,tdiv_eq_ediv_of_nonneg->Du,tmod_eq_emod_of_nonneg->Dt
open List renaming append_nil->Aq,cons_append->Ae,dropWhile_cons_of_neg->Bt,dropWhile_cons_of_pos->Bu,dropWhile_sublist->B3,drop_drop->AC,drop_eq_nil_of_le->A4,drop_left->Ce,getElem?_eq_getElem->Ad,getElem?_eq_none->Bi,getElem?_eq_some_iff->Ab,length_append->An,length_cons->Ag,length_drop->Ay,length_nil->Am,length_take->AP,map_cons->AU,map_drop->Ds,map_take->Dr,mem_append->AW,mem_cons->Bg,mem_of_getElem? ->Ap,nil_append->Af,reverse_cons->BD,takeWhile_append_dropWhile->BW,takeWhile_cons_of_neg->Cd,takeWhile_cons_of_pos->Ba,take_drop->D8,take_left->Cf
open Nat renaming le_refl->Ac,lt_or_ge->Ax,zero_add->AB
open UInt8 renaming ofNat->BE,toNat_ofNat'->BR
set_option linter.unusedVariables false
set_option linter.unusedSimpArgs false
set_option linter.unusedSectionVars false
set_option maxRecDepth 100000
set_option maxHeartbeats 4000000
section
open Go.Proofs
namespace Go.Lift.W1
open Rul (rules vals J2 row)
open Utf (By)
variable[MX]
variable{lo:Nat}{h:Heap}
def awk:List Rul.Tk4:=[⟨1,[97],0,0,false,false⟩,⟨23,[],0,0,false,false⟩,⟨1,[98],0,0,false,false⟩,⟨16,[],0,0,false,false⟩,⟨1,[99],0,0,false,false⟩,⟨24,[],0,0,false,false⟩]
theorem JOY:rules (vals awk)=[.mk 1 [] [.mk ⟨1,[97],0,0,false,false⟩ []] [⟨[98],[.mk ⟨1,[99],0,0,false,false⟩ []],false⟩] []]:=by rfl
theorem JRn:J2 (rules (vals awk))=[[.v (.int .i64 1),.v (.string (Rul.bs [])),.list .no [[.v (.int .i64 1),.v (.string (Rul.bs [97])),.v (.int .i64 0),.v (.int .i64 0),.v (.bool false),.v (.bool false),.list .no []]],
  .list .no [[.v (.string (Rul.bs [98])),.list .no (Rul.JH [.mk ⟨1,[99],0,0,false,false⟩ []]),.v (.bool false)]],.list .no []]]:=by
 rw[JOY];simp only[Rul.J2,Rul.ruV,Rul.JH,Rul.Qy,Rul.J1,Rul.row,AU,List.map_nil,Ae,Af,Aq]
theorem JZu:∀t∈awk,jM t:=by unfold awk;intro t ht;simp only[Bg,List.mem_nil_iff,or_false]at ht;rcases ht with rfl|rfl|rfl|rfl|rfl|rfl<;>refine⟨λc hc=>?_,?_⟩<;>simp_all<;>omega
theorem JRo:E 0 10 [.list .no (ri .u8 [97,123,98,58,99,125])] []=some (.list .no (awk.map Rul.row),[]):=
 JLx (n:=60) kr
theorem f5a:E 0 5 [.list .no (ri .u8 [97,123,98,58,99,125])] []=some (.tup [.list .no (J2 (rules (vals awk))),.v (.int .i64 0)],[]):=by
 have c10:E 0 10 [.list .no [[V.v (.int .u8 97)],[V.v (.int .u8 123)],[V.v (.int .u8 98)],[V.v (.int .u8 58)],[V.v (.int .u8 99)],[V.v (.int .u8 125)]]] []=some (.list .no (awk.map Rul.row),[]):=JRo;have c9:=f9 (lo:=0) (h:=[]) (l:=awk) (Nat.zero_le _) (by decide) JZu
 generalize J2 (rules (vals awk))=R at*;generalize awk.map Rul.row=K at*;show E 0 5 [.list .no [[V.v (.int .u8 97)],[V.v (.int .u8 123)],[V.v (.int .u8 98)],[V.v (.int .u8 58)],[V.v (.int .u8 99)],[V.v (.int .u8 125)]]] []=_
 have q:decide ((16384:Int)<((6:Nat):Int))=false:=by decide
 rw[e5];simp only[go_sem,b5,Tryz.f5,c10,c9,q,Am,Ag,AB,Nat.reduceAdd,Ac]<;>rfl
theorem f8:E 0 8 [] []=some (.v (.bool true),[]):=by
 have k:=f5a;rw[JRn]at k;generalize hZ:Rul.JH [.mk ⟨1,[99],0,0,false,false⟩ []]=Z at k;generalize hW:[V.v (Bp Ak 1),.v (.string (Rul.bs [97])),.v (.int .i64 0),.v (.int .i64 0),.v (.bool false),.v (.bool false),.list .no []]=W at k
 have k:E 0 5 [.list .no [[.v (.int .u8 97)],[.v (.int .u8 123)],[.v (.int .u8 98)],[.v (.int .u8 58)],[.v (.int .u8 99)],[.v (.int .u8 125)]]] []=
   some (.tup [.list .no [[.v (.int .i64 1),.v (.string ⟨#[]⟩),.list .no [W],.list .no [[.v (.string ⟨#[98]⟩),.list .no Z,.v (.bool false)]],.list .no []]],.v (.int .i64 0)],[]):=k
 have q:((⟨#[98]⟩:ByteArray).toList==(⟨#[98]⟩:ByteArray).toList)=true:=by simp
 have e11:(((1:Nat):Int)==1)=true:=rfl;rw[e8];simp only[go_sem,b8,Tryz.f8,k,q,e11,Int.reduceBEq,Am,Ac]<;>rfl
end Go.Lift.W1
end

section
open Go.Proofs
namespace Go.Lift.W1.T
variable[MX]
open Utf Tok
section
variable{lo i:Nat}{l:List Int}{p q:List Ob}
abbrev JG6(p q:List Ob)(l:List Int)(i:Nat)(out:List Int)(ex:Ja):Ja×Heap:=
 ((0,.ptr p.length 0)::(2,.ptr (p.length+(q.length+1)) 0)::(3,.list .yes (ri .i32 out))::ex,p++R l i::(q++[.cells (tokC 0 [])]))
def Y4(out:List Int)(x:Bool×List Int×List Int):List V:=if x.1=true then tokC 7 (out++x.2.1)else tokC 8 []
theorem JZv(hl:l.length<=100000000000):∀(m i:Nat) (out:List Int),(suf l i).length<=m->i<=l.length->out.length<=i->
  ∃j,j<=l.length+2/\i<=j/\suf l j=(KJ m (suf l i)).2.2/\
   ∀lo (p q:List Ob) (ex:Ja),(ex=[]\/ ∃b,ex=[(49,.v (.bool b))])->lo<=p.length->lo<=p.length+(q.length+1)->
   JA (evCode ⟨Aa,E,lo,p.length+(q.length+1),h98⟩ JA K5) (JG6 p q l i out ex)=
    some (.ret,[(2,.ptr (p.length+(q.length+1)) 0)],p++R l j::(q++[.cells (Y4 out (KJ m (suf l i)))])):=by
 have stop:∀(m i:Nat) (out:List Int),(suf l i=[]\/ ∃t,suf l i=41::t)->i<=l.length->out.length<=i->
  ∃j,j<=l.length+2/\i<=j/\suf l j=(suf l i).drop 1/\
   ∀lo (p q:List Ob) (ex:Ja),(ex=[]\/ ∃b,ex=[(49,.v (.bool b))])->lo<=p.length->lo<=p.length+(q.length+1)->
   JA (evCode ⟨Aa,E,lo,p.length+(q.length+1),h98⟩ JA K5) (JG6 p q l i out ex)=
    some (.ret,[(2,.ptr (p.length+(q.length+1)) 0)],p++R l j::(q++[.cells (tokC 7 out)])):=by
  intro m i out hs h2 h3;have k0:=λlo p q=>f43 (lo:=lo) (l:=l) (i:=i) (p:=p) (q:=q) (k:=0) om
  have kf:=λlo h=>f80 (lo:=lo) (l:=out) (h:=h) om
  have hwi:=JD (i:=i) om;simp only[n0]at k0;refine⟨i+1,om,om,by simp[suf,AC],λlo p q ex hex hlo hlo2=>?_⟩
  rw[JB];rcases hs with hs|⟨t,hs⟩
  ·have t1:((-1:Int)== -1)=true:=rfl
   rw[hs,Jw]at k0;rcases hex with rfl|⟨b,rfl⟩
   ·simp only[go_sem,K5,qh,Tryz.f98,k0,kf,t1,hlo,hlo2,hwi,tokC]<;>rfl
   ·simp only[go_sem,K5,qh,Tryz.f98,k0,kf,t1,hlo,hlo2,hwi,tokC]<;>rfl
  ·have t0:((41:Int)== -1)=false:=rfl
   have t1:((41:Int)==41)=true:=rfl;rw[hs,QP]at k0;rcases hex with rfl|⟨b,rfl⟩
   ·simp only[go_sem,K5,qh,Tryz.f98,k0,kf,t0,t1,hlo,hlo2,hwi,tokC]<;>rfl
   ·simp only[go_sem,K5,qh,Tryz.f98,k0,kf,t0,t1,hlo,hlo2,hwi,tokC]<;>rfl
 intro m
 induction m with
 |zero=>
  intro i out h1 h2 h3;have hs:suf l i=[]:=List.eq_nil_of_length_eq_zero om;obtain⟨j,j1,j2,j3,j4⟩:=stop 0 i out (.inl hs) h2 h3;refine⟨j,j1,j2,by rw[j3,hs];rfl,λlo p q ex hex hlo hlo2=>?_⟩
  rw[j4 lo p q ex hex hlo hlo2,hs]
  simp[Y4,KJ]
 |succ m ih=>
  intro i out h1 h2 h3;rcases Ax i l.length with hi|hi
  rotate_left
  ·have hs:suf l i=[]:=JV hi
   obtain⟨j,j1,j2,j3,j4⟩:=stop 0 i out (.inl hs) h2 h3;refine⟨j,j1,j2,by rw[j3,hs];rfl,λlo p q ex hex hlo hlo2=>?_⟩
   rw[j4 lo p q ex hex hlo hlo2,hs];simp[Y4,KJ]
  have hcp:=Qa hi;have k0:=λlo p q=>f43 (lo:=lo) (l:=l) (i:=i) (p:=p) (q:=q) (k:=0) om
  have k1:=λlo p q=>f43 (lo:=lo) (l:=l) (i:=i) (p:=p) (q:=q) (k:=1) om
  have hr:∀k,k<=4->(out.length+k)*4<=140737488355328:=by intro k hk;omega
  have hq:∀k,9223372036854775800<=k->out.length<=k:=by intro k hk;omega
  have app:∀y:Int,ri .i32 out++[[V.v (.int .i32 y)]]=ri .i32 (out++[y]):=by intro y;rw[<-ri_app];rfl
  have hw1:=JD (i:=i) om;have n1:((1:Nat):Int)=1:=rfl;simp only[n0,n1]at k0 k1;have hs:=Jb hi;have hs0:=hs;have hn:chr (suf l i) 1=chr (suf l (i+1)) 0:=by rw[hs];exact Kl _ _ 0
  rw[hn]at k1;generalize chr (suf l i) 0=c at hs k0 hcp;have te:(c== -1)=false:=by simp;omega
  by_cases c41:c=41
  ·subst c41
   obtain⟨j,j1,j2,j3,j4⟩:=stop 0 i out (.inr ⟨_,hs⟩) h2 h3;have e:KJ (m+1) (41::suf l (i+1))=(true,[],suf l (i+1)):=by simp[KJ]
   refine⟨j,j1,j2,by rw[j3,hs,e];rfl,λlo p q ex hex hlo hlo2=>?_⟩
   rw[j4 lo p q ex hex hlo hlo2,hs,e];simp[Y4]
  have t41:(c==41)=false:=by simp[c41]
  cases hb:blk c with
  |true=>
   obtain⟨j0,a1,a2,a3,a4⟩:=f71 (l:=l) (i:=i) hl h2;have hbl:Kb (suf l i)=Kb (suf l (i+1)):=by rw[hs];exact Bu hb
   have kj:=λlo p q=>f43 (lo:=lo) (l:=l) (i:=j0) (p:=p) (q:=q) (k:=0) om
   simp only[n0]at kj;by_cases hend:chr (suf l j0) 0= -1\/chr (suf l j0) 0=41
   ·have hs2:suf l j0=[]\/ ∃t,suf l j0=41::t:=by
     rcases Ax j0 l.length with h|h
     ·have h4:=Jb h
      have h5:=Qa h;rcases hend with h6|h6
      ·omega
      ·rw[h6]at h4;exact .inr ⟨_,h4⟩
     ·exact .inl (JV h)
    obtain⟨j,j1,j2,j3,j4⟩:=stop 0 j0 out hs2 a1 om
    have e:KJ (m+1) (suf l i)=(true,[],(suf l j0).drop 1):=by rw[hs,a3,hbl]at*;simp only[KJ];rw[if_neg c41,if_pos hb,if_pos hend]
    refine⟨j,j1,om,by rw[j3,e],λlo p q ex hex hlo hlo2=>?_⟩
    have er:evCode ⟨Aa,E,lo,p.length+(q.length+1),h98⟩ JA K5 (JG6 p q l i out ex)=some (.normal,JG6 p q l j0 out [(49,.v (.bool false))]):=by
     rcases hend with h6|h6
     ·have u0:(chr (suf l j0) 0 != -1)=false:=by simp[h6]
      rcases hex with rfl|⟨b,rfl⟩
      ·simp only[go_sem,K5,qh,Tryz.f98,k0,f70,te,t41,hb,a4 _ _ _ hlo,kj,u0,tokC]<;>rfl
      ·simp only[go_sem,K5,qh,Tryz.f98,k0,f70,te,t41,hb,a4 _ _ _ hlo,kj,u0,tokC]<;>rfl
     ·have u0:(chr (suf l j0) 0 != -1)=true:=by simp[h6]
      have u1:(chr (suf l j0) 0 !=41)=false:=by simp[h6]
      rcases hex with rfl|⟨b,rfl⟩
      ·simp only[go_sem,K5,qh,Tryz.f98,k0,f70,te,t41,hb,a4 _ _ _ hlo,kj,u0,u1,tokC]<;>rfl
      ·simp only[go_sem,K5,qh,Tryz.f98,k0,f70,te,t41,hb,a4 _ _ _ hlo,kj,u0,u1,tokC]<;>rfl
    rw[JB,er,JK,j4 lo p q _ (.inr ⟨_,rfl⟩) hlo hlo2,e];simp[Y4]
   ·obtain⟨j,j1,j2,j3,j4⟩:=f116 (l:=l) (i:=j0) hl a1
    have e:KJ (m+1) (suf l i)=(false,[],HC (suf l j0)):=by rw[hs,a3,hbl]at*;simp only[KJ];rw[if_neg c41,if_pos hb,if_neg hend]
    refine⟨j,j1,om,by rw[j3,e],λlo p q ex hex hlo hlo2=>?_⟩
    have u0:(chr (suf l j0) 0 != -1)=true:=by simp;exact λh=>hend (.inl h)
    have u1:(chr (suf l j0) 0 !=41)=true:=by simp;exact λh=>hend (.inr h)
    rw[JB,e];rcases hex with rfl|⟨b,rfl⟩
    ·simp only[go_sem,K5,qh,Tryz.f98,k0,f70,te,t41,hb,a4 _ _ _ hlo,kj,u0,u1,j4 _ _ _ hlo,hlo2,Y4,tokC]<;>rfl
    ·simp only[go_sem,K5,qh,Tryz.f98,k0,f70,te,t41,hb,a4 _ _ _ hlo,kj,u0,u1,j4 _ _ _ hlo,hlo2,Y4,tokC]<;>rfl
  |false=>
   by_cases hq1:(quo c||c==40||unp c)=true
   ·obtain⟨j,j1,j2,j3,j4⟩:=f116 (l:=l) (i:=i) hl h2
    have e:KJ (m+1) (suf l i)=(false,[],HC (suf l i)):=by rw[hs];simp only[KJ];rw[if_neg c41,if_neg (by simp[hb]),if_pos hq1]
    refine⟨j,j1,om,by rw[j3,e],λlo p q ex hex hlo hlo2=>?_⟩
    have hcase:(c==34)=true\/((c==34)=false/\((c==39)=true\/((c==39)=false/\((c==40)=true\/((c==40)=false/\unp c=true))))):=by
     simp only[quo,AN]at hq1;cases a1:(c==34)<;>cases a2:(c==39)<;>cases a3:(c==40)<;>simp[a1,a2,a3]at hq1⊢
     exact hq1
    rw[JB,e];rcases hcase with u1|⟨u1,u2|⟨u2,u3|⟨u3,u4⟩⟩⟩
    ·rcases hex with rfl|⟨b,rfl⟩
     ·simp only[go_sem,K5,qh,Tryz.f98,k0,f70,te,t41,hb,u1,j4 _ _ _ hlo,hlo2,Y4,tokC]<;>rfl
     ·simp only[go_sem,K5,qh,Tryz.f98,k0,f70,te,t41,hb,u1,j4 _ _ _ hlo,hlo2,Y4,tokC]<;>rfl
    ·rcases hex with rfl|⟨b,rfl⟩
     ·simp only[go_sem,K5,qh,Tryz.f98,k0,f70,te,t41,hb,u1,u2,j4 _ _ _ hlo,hlo2,Y4,tokC]<;>rfl
     ·simp only[go_sem,K5,qh,Tryz.f98,k0,f70,te,t41,hb,u1,u2,j4 _ _ _ hlo,hlo2,Y4,tokC]<;>rfl
    ·rcases hex with rfl|⟨b,rfl⟩
     ·simp only[go_sem,K5,qh,Tryz.f98,k0,f70,te,t41,hb,u1,u2,u3,j4 _ _ _ hlo,hlo2,Y4,tokC]<;>rfl
     ·simp only[go_sem,K5,qh,Tryz.f98,k0,f70,te,t41,hb,u1,u2,u3,j4 _ _ _ hlo,hlo2,Y4,tokC]<;>rfl
    ·rcases hex with rfl|⟨b,rfl⟩
     ·simp only[go_sem,K5,qh,Tryz.f98,k0,f70,f117,te,t41,hb,u1,u2,u3,u4,j4 _ _ _ hlo,hlo2,Y4,tokC]<;>rfl
     ·simp only[go_sem,K5,qh,Tryz.f98,k0,f70,f117,te,t41,hb,u1,u2,u3,u4,j4 _ _ _ hlo,hlo2,Y4,tokC]<;>rfl
   ·have hcase:(c==34)=false/\(c==39)=false/\(c==40)=false/\unp c=false:=by
     simp only[quo,AN]at hq1;cases a1:(c==34)<;>cases a2:(c==39)<;>cases a3:(c==40)<;>cases a4:unp c<;>simp[a1,a2,a3,a4]at hq1⊢
    obtain⟨u1,u2,u3,u4⟩:=hcase;by_cases c92:c=92
    ·have t92:(c==92)=true:=by simp[c92]
     cases he:Gi c (chr (suf l (i+1)) 0)with
     |true=>
      obtain⟨j0,a1,a2,a3,a4⟩:=f93 (l:=l) (i:=i+1) hl om
      have e:KJ (m+1) (suf l i)=((KJ m (KD (suf l (i+1))).2).1,(KD (suf l (i+1))).1::(KJ m (KD (suf l (i+1))).2).2.1,(KJ m (KD (suf l (i+1))).2).2.2):=by rw[hs];simp only[KJ];rw[if_neg c41,if_neg (by simp[hb]),if_neg hq1,if_pos c92,if_pos he]
      obtain⟨j,j1,j2,j3,j4⟩:=ih j0 (out++[(KD (suf l (i+1))).1]) (by rw[Jv]at h1⊢;omega) a1 (by simp;omega)
      refine⟨j,j1,om,by rw[j3,e,a3],λlo p q ex hex hlo hlo2=>?_⟩
      have er:evCode ⟨Aa,E,lo,p.length+(q.length+1),h98⟩ JA K5 (JG6 p q l i out ex)=some (.normal,JG6 p q l j0 (out++[(KD (suf l (i+1))).1]) []):=by
       rcases hex with rfl|⟨b,rfl⟩
       ·simp only[go_sem,K5,qh,Tryz.f98,k0,k1,f70,f117,f74,te,t41,hb,u1,u2,u3,u4,t92,he,hlo,hw1,a4 _ _ _ hlo,hr,hq,app,and_self,tokC]<;>rfl
       ·simp only[go_sem,K5,qh,Tryz.f98,k0,k1,f70,f117,f74,te,t41,hb,u1,u2,u3,u4,t92,he,hlo,hw1,a4 _ _ _ hlo,hr,hq,app,and_self,tokC]<;>rfl
      rw[JB,er,JK,j4 lo p q _ (.inl rfl) hlo hlo2,e,a3]
      simp[Y4]
     |false=>
      obtain⟨j,j1,j2,j3,j4⟩:=f116 (l:=l) (i:=i) hl h2
      have e:KJ (m+1) (suf l i)=(false,[],HC (suf l i)):=by rw[hs];simp only[KJ];rw[if_neg c41,if_neg (by simp[hb]),if_neg hq1,if_pos c92,if_neg (by simp[he])]
      refine⟨j,j1,om,by rw[j3,e],λlo p q ex hex hlo hlo2=>?_⟩
      rw[JB,e];rcases hex with rfl|⟨b,rfl⟩
      ·simp only[go_sem,K5,qh,Tryz.f98,k0,k1,f70,f117,f74,te,t41,hb,u1,u2,u3,u4,t92,he,j4 _ _ _ hlo,hlo2,Y4,tokC]<;>rfl
      ·simp only[go_sem,K5,qh,Tryz.f98,k0,k1,f70,f117,f74,te,t41,hb,u1,u2,u3,u4,t92,he,j4 _ _ _ hlo,hlo2,Y4,tokC]<;>rfl
    ·have t92:(c==92)=false:=by simp[c92]
     have e:KJ (m+1) (suf l i)=((KJ m (suf l (i+1))).1,c::(KJ m (suf l (i+1))).2.1,(KJ m (suf l (i+1))).2.2):=by rw[hs];simp only[KJ];rw[if_neg c41,if_neg (by simp[hb]),if_neg hq1,if_neg c92]
     obtain⟨j,j1,j2,j3,j4⟩:=ih (i+1) (out++[c]) (by rw[Jv]at h1⊢;omega) om (by simp;omega)
     refine⟨j,j1,om,by rw[j3,e],λlo p q ex hex hlo hlo2=>?_⟩
     have er:evCode ⟨Aa,E,lo,p.length+(q.length+1),h98⟩ JA K5 (JG6 p q l i out ex)=some (.normal,JG6 p q l (i+1) (out++[c]) []):=by
      rcases hex with rfl|⟨b,rfl⟩
      ·simp only[go_sem,K5,qh,Tryz.f98,k0,f70,f117,te,t41,hb,u1,u2,u3,u4,t92,hlo,hw1,hr,hq,app,and_self,tokC]<;>rfl
      ·simp only[go_sem,K5,qh,Tryz.f98,k0,f70,f117,te,t41,hb,u1,u2,u3,u4,t92,hlo,hw1,hr,hq,app,and_self,tokC]<;>rfl
     rw[JB,er,JK,j4 lo p q _ (.inl rfl) hlo hlo2,e];simp[Y4]
theorem f98(hl:l.length<=100000000000)(hi:i<=l.length):∃j,j<=l.length+2/\i<=j/\suf l j=(yy (suf l i)).2.2/\
  ∀lo p q,lo<=p.length->E lo 98 [.ptr p.length 0] (p++R l i::q)=some (.agg (Y4 [] (yy (suf l i))),p++R l j::q):=by
 obtain⟨j0,a1,a2,a3,a4⟩:=f71 (l:=l) (i:=i) hl hi;obtain⟨j,j1,j2,j3,j4⟩:=JZv (l:=l) hl (suf l j0).length j0 [] (Ac _) a1 (by simp)
 have e:yy (suf l i)=KJ (suf l j0).length (suf l j0):=by unfold yy;rw[a3]
 refine⟨j,j1,om,by rw[j3,e],λlo p q hlo=>?_⟩
 have hL:=j4 lo p q [] (.inl rfl) hlo om;rw[e98,e];simp only[JG6,tokC,K5,qh,Tryz.f98,JG,JT,JC,go_sem,J4,str_nil]at hL;simp only[go_sem,qh,Tryz.f98,a4 _ _ _ hlo,hL];unfold Y4;cases(KJ (suf l j0).length (suf l j0)).1<;>rfl
end
def bs(l:List Int):ByteArray:=⟨(WN l).toArray⟩
theorem JZ(l:List Int):(bs l).size=l.length:=by simp[bs,DH,WN]
theorem Q3(l:List Int)(a b:Nat):(bs l).extract a b=bs ((l.take b).drop a):=by
 apply DR;simp only[bs,Ls];apply Array.toList_inj.1;rw[Array.toList_extract];simp only[List.extract,WN,List.toList_toArray,Ds,Dr];rw[D8];rcases Nat.le_total a b with h|h
 ·rw[Nat.add_sub_cancel' h]
 ·rw[A4 (by simp;omega),A4 (by simp;omega)]
theorem bs_app(a b:List Int):bs a++bs b=bs (a++b):=by apply DR;simp[bs,WN]
theorem QU{l:List Int}(hy:By l)(i:Nat):((bs l).data[i]?).map (λc=>V.v (.int .u8 c.toNat))=(l[i]?).map λc=>V.v (.int .u8 c):=by
 simp only[bs,List.getElem?_toArray,WN,List.getElem?_map]
 cases h:l[i]? with
 |none=>rfl
 |some c=>
  have:=hy c (Ap h);simp only[Option.map_some]
  congr 4
  show((BE c.toNat).toNat:Int)=c
  simp only[BR];omega
theorem qK(l:List Int):(bs l).toList=WN l:=by simp[bs,ByteArray.toList_eq]
theorem JZw:bs []=A6:=rfl
theorem JD5(l:List Int):((bs l).toList==(A6).toList)=decide (l=[]):=by
 rw[<-JZw,qK,qK]
 cases l with
 |nil=>rfl
 |cons c t=>simp[WN]
theorem By.take{l:List Int}(h:By l)(n:Nat):By (l.take n):=λc hc=>h c (List.mem_of_mem_take hc)
theorem By.drop{l:List Int}(h:By l)(n:Nat):By (l.drop n):=λc hc=>h c (List.mem_of_mem_drop hc)
section
variable{lo i:Nat}{l:List Int}{p q:List Ob}
theorem JZx(hl:l.length<=100000000000):∀(n i:Nat),l.length-i<=n->i<=l.length->
  ∃j,j<=l.length/\i<=j/\suf l j=(suf l i).dropWhile Jn/\
   ∀lo (p q:List Ob),lo<=p.length->JA (evCode ⟨Aa,E,lo,p.length+(q.length+1),h96⟩ JA JDl) ([(0,.ptr p.length 0)],p++R l i::q)=some (.exit 0,[(0,.ptr p.length 0),(4,.v (.bool false))],p++R l j::q):=by
 intro n
 induction n with
 |zero=>
  intro i h1 h2;obtain rfl:i=l.length:=om;have k0:=λlo p q=>f43 (lo:=lo) (l:=l) (i:=l.length) (p:=p) (q:=q) (k:=0) om
  have hs:suf l l.length=[]:=JV (Ac _);have hb:Jn (-1)=false:=rfl;simp only[n0,hs,Jw]at k0;refine⟨l.length,Ac _,Ac _,by rw[hs];rfl,λlo p q hlo=>?_⟩
  rw[JB]
  simp only[go_sem,JDl,b96,Tryz.f96,k0,f95,hb]
 |succ n ih=>
  intro i h1 h2;have k0:=λlo p q=>f43 (lo:=lo) (l:=l) (i:=i) (p:=p) (q:=q) (k:=0) om
  simp only[n0]at k0;have hw:=JD (i:=i) om
  cases hb:Jn (chr (suf l i) 0)with
  |false=>
   refine⟨i,h2,Ac _,?_,λlo p q hlo=>?_⟩
   ·by_cases hi:i<l.length
    ·rw[Jb hi]at hb⊢
     exact(Bt (by simpa[chr]using hb)).symm
    ·rw[JV om];rfl
   ·rw[JB]
    simp only[go_sem,JDl,b96,Tryz.f96,k0,f95,hb]
  |true=>
   have hi:i<l.length:=by
    rcases Ax i l.length with h|h
    ·exact h
    ·rw[JV h]at hb;exact absurd hb (by decide)
   obtain⟨j,j1,j2,j3,j4⟩:=ih (i+1) om om;refine⟨j,j1,om,?_,λlo p q hlo=>?_⟩
   ·rw[j3,Jb hi]
    exact(Bu (by simpa using hb)).symm
   ·rw[JB]
    have e:evCode ⟨Aa,E,lo,p.length+(q.length+1),h96⟩ JA JDl ([(0,.ptr p.length 0)],p++R l i::q)=some (.normal,[(0,.ptr p.length 0)],p++R l (i+1)::q):=by simp only[go_sem,JDl,b96,Tryz.f96,k0,f95,hb,hw,hlo]
    rw[e,JK];exact j4 lo p q hlo
theorem f96(hl:l.length<=100000000000)(hi:i<=l.length):∃j,j<=l.length/\i<=j/\suf l j=(suf l i).dropWhile Jn/\
  ∀lo p q,lo<=p.length->E lo 96 [.ptr p.length 0] (p++R l i::q)=some (.tup [],p++R l j::q):=by
 obtain⟨j,j1,j2,j3,j4⟩:=JZx (l:=l) hl l.length i om hi;refine⟨j,j1,j2,j3,λlo p q hlo=>?_⟩
 have hL:=j4 lo p q hlo;rw[e96];simp only[JDl,b96,Tryz.f96,JG,JT,JC,go_sem]at hL;simp only[go_sem,b96,Tryz.f96,hL]
end
theorem f135{lo:Nat}{c:Int}{h:Heap}:E lo 135 [.v (.int .u8 c)] h=some (.v (.bool (Jn c)),h):=by rw[Jlw];simp only[go_sem,JfB,Tryz.f135,Jn]
def JO(x:Int×Int):List V:=[.v (.int .i64 x.1),.v (.int .i64 x.2)]
theorem f114{lo:Nat}{h:Heap}(hlo:lo<=h.length):E lo 114 [] h=some (.agg (JO (0,0)),h):=by rw[Jli];simp only[go_sem,Je4,Tryz.f114,hlo];rfl
theorem f136{lo:Nat}{n:Int}{h:Heap}(hlo:lo<=h.length):E lo 136 [.v (.int .i64 n)] h=some (.agg (JO (n,1)),h):=by rw[Jlx];simp only[go_sem,JfC,Tryz.f136,hlo];rfl
theorem yU{t:List Int}{i:Nat}{c:Int}(h:t[i]? =some c):t.drop i=c::t.drop (i+1):=by
 obtain⟨hi,rfl⟩:=Ab.1 h
 exact List.drop_eq_getElem_cons hi
theorem JUy{lo:Nat}{t:List Int}{h:Heap}(hy:By t)(hl:t.length<=100000000000):∀(m i:Nat) (ex:Ja),(ex=[]\/ex=[(14,.v (.bool true))])->t.length-i<=m->i<=t.length->
  JA (evCode ⟨Aa,E,lo,h.length,JTv⟩ JA GX) ((0,.v (.string (bs t)))::(1,.v (.int .i64 i))::ex,h)=
   some (.exit 0,[(0,.v (.string (bs t))),(1,.v (.int .i64 (i+((t.drop i).takeWhile Jn).length:Nat))),(14,.v (.bool false))],h):=by
 intro m
 induction m with
 |zero=>
  intro i ex hex h1 h2;obtain rfl:i=t.length:=om;have hd:decide ((t.length:Int)<(t.length:Int))=false:=by simp
  rw[JB];rcases hex with rfl|rfl
  ·simp only[go_sem,GX,JCk,Tryz.f113,JZ,hd]
   all_goals simp
  ·simp only[go_sem,GX,JCk,Tryz.f113,JZ,hd]
   all_goals simp
 |succ m ih=>
  intro i ex hex h1 h2;rcases Ax i t.length with hi|hi
  rotate_left
  ·exact ih i ex hex om h2
  have hd:decide ((i:Int)<(t.length:Int))=true:=by simp;omega
  have hw:=JD (i:=i) om;have hc:t[i]? =some t[i]:=Ad hi
  have hdr:=yU hc;generalize t[i]=c at hc hdr
  cases hb:Jn c with
  |false=>
   rw[hdr,Cd (by simp[hb]),JB]
   rcases hex with rfl|rfl
   ·simp only[go_sem,GX,JCk,Tryz.f113,JZ,hd,QU hy,hc,f135,hb]
    all_goals simp
   ·simp only[go_sem,GX,JCk,Tryz.f113,JZ,hd,QU hy,hc,f135,hb]
    all_goals simp
  |true=>
   rw[hdr,Ba hb,JB]
   have e:∀ex,(ex=[]\/ex=[(14,.v (.bool true))])->evCode ⟨Aa,E,lo,h.length,JTv⟩ JA GX ((0,.v (.string (bs t)))::(1,.v (.int .i64 i))::ex,h)=some (.normal,[(0,.v (.string (bs t))),(1,.v (.int .i64 (i+1:Nat)))],h):=by
    intro ex hex;rcases hex with rfl|rfl
    ·simp only[go_sem,GX,JCk,Tryz.f113,JZ,hd,QU hy,hc,f135,hb,hw]
    ·simp only[go_sem,GX,JCk,Tryz.f113,JZ,hd,QU hy,hc,f135,hb,hw]
   rw[e ex hex,JK,ih (i+1) [] (.inl rfl) om om];have e2:i+(c::(t.drop (i+1)).takeWhile Jn).length=i+1+((t.drop (i+1)).takeWhile Jn).length:=by simp;omega
   rw[e2]
theorem f113{lo i:Nat}{t:List Int}{h:Heap}(hy:By t)(hl:t.length<=100000000000)(hi:i<=t.length):
  E lo 113 [.v (.string (bs t)),.v (.int .i64 i)] h=some (.v (.int .i64 (i+((t.drop i).takeWhile Jn).length:Nat)),h):=by
 have hL:=JUy (lo:=lo) (h:=h) hy hl t.length i [] (.inl rfl) om hi;rw[Jlh];simp only[GX,JCk,Tryz.f113,JG,JT,JC,go_sem]at hL;simp only[go_sem,JCk,Tryz.f113,hL]
theorem K1{n:Int}(h0:0<=n)(h1:n<=18446744073709551615):BP.wrap n=n:=by unfold IntKind.wrap;simp only[IntKind.bits,IntKind.signed];simp;omega
theorem JD6(l:List Int)(c:Int):core (l++[c])=if c=48 then core l else l++[c]:=by
 unfold core;rw[List.reverse_append];simp only[BD,List.reverse_nil,Af,Ae,List.dropWhile_cons,beq_iff_eq]
 split<;>simp
abbrev GC(below:Bool)(ds:List Int)(e:Int)(h:Heap)(a b:Int)(ex:Ja):Ja×Heap:=
 ((0,.v (.bool below))::(1,.v (.string (bs ds)))::(2,.v (.int .i64 e))::(6,.ptr h.length 0)::(7,.v (.int .i64 a))::(8,.v (.int .i64 b))::ex,h++[.cells (JO (0,0))])
theorem JRp{lo:Nat}{below:Bool}{ds:List Int}{e:Int}{h:Heap}(hy:By ds)(hl:ds.length<=100000000000):∀(m a:Nat),ds.length-a<=m->a<=ds.length->
  JA (evCode ⟨Aa,E,lo,h.length,GV⟩ JA yC) (GC below ds e h a ds.length [])=
   some (.exit 0,GC below ds e h (a+((ds.drop a).takeWhile (· ==48)).length:Nat) ds.length [(25,.v (.bool false))]):=by
 intro m
 induction m with
 |zero=>
  intro a h1 h2;obtain rfl:a=ds.length:=om;have hd:decide ((ds.length:Int)<(ds.length:Int))=false:=by simp
  rw[JB];simp only[go_sem,yC,J8,Tryz.f115,JZ,hd,JO];all_goals simp
  all_goals rfl
 |succ m ih=>
  intro i h1 h2;rcases Ax i ds.length with hi|hi
  rotate_left
  ·exact ih i om h2
  have hd:decide ((i:Int)<(ds.length:Int))=true:=by simp;omega
  have hw:=JD (i:=i) om;have hc:ds[i]? =some ds[i]:=Ad hi
  have hdr:=yU hc;generalize ds[i]=c at hc hdr
  cases hb:(c==48)with
  |false=>
   rw[hdr,Cd (by simp[hb]),JB]
   simp only[go_sem,yC,J8,Tryz.f115,JZ,hd,QU hy,hc,hb,JO];all_goals simp
   all_goals rfl
  |true=>
   rw[hdr,Ba (p:=(· ==48)) (by simpa using hb),JB]
   have e1:evCode ⟨Aa,E,lo,h.length,GV⟩ JA yC (GC below ds e h i ds.length [])=some (.normal,GC below ds e h (i+1:Nat) ds.length []):=by simp only[go_sem,yC,J8,Tryz.f115,JZ,hd,QU hy,hc,hb,hw,JO]<;>rfl
   rw[e1,JK,ih (i+1) om om];have e2:i+(c::(ds.drop (i+1)).takeWhile (· ==48)).length=i+1+((ds.drop (i+1)).takeWhile (· ==48)).length:=by simp;omega
   rw[e2]
theorem JRq{lo:Nat}{below:Bool}{ds:List Int}{h:Heap}{a:Nat}{c0:Int}(hy:By ds)(hl:ds.length<=100000000000)(ha:ds[a]? =some c0)(hc0:c0≠48):
  ∀(m b:Nat) (e:Int) (x:V),b-a<=m->a<b->b<=ds.length-> -4000000000000<=e->e+b<=4000000000000->
  ∃b',a<b'/\b'<=b/\(ds.take b').drop a=core ((ds.take b).drop a)/\
   JA (evCode ⟨Aa,E,lo,h.length,GV⟩ JA JBc) (GC below ds e h a b [(30,x)])=
    some (.exit 2,GC below ds (e+b-b') h a b' [(36,.v (.bool false))]):=by
 intro m
 induction m with
 |zero=>intro b e x h1 h2;omega
 |succ m ih=>
  intro b e x h1 h2 h3 h4 h5;obtain⟨k,rfl⟩:∃k,b=k+1:=⟨b-1,om⟩;have hw:Ak.wrap (((k+1:Nat):Int)-1)=(k:Int):=by rw[JL]<;>omega
  have hwe:Ak.wrap (e+1)=e+1:=by rw[JL]<;>omega
  have hc:ds[k]? =some ds[k]:=Ad om
  have hsn:(ds.take (k+1)).drop a=(ds.take k).drop a++[ds[k]]:=by
   rw[List.take_add_one,hc];rw[List.drop_append_of_le_length (by simp;omega)]
   rfl
  generalize ds[k]=c at hc hsn;rw[hsn,JD6]
  cases hb:(c==48)with
  |false=>
   have hn:¬c=48:=by simpa using hb
   rw[if_neg hn];refine⟨k+1,h2,Ac _,hsn,?_⟩
   rw[JB];have e2:e+((k+1:Nat):Int)-((k+1:Nat):Int)=e:=om;rw[e2]
   simp only[go_sem,JBc,J8,Tryz.f115,hw,QU hy,hc,hb,JO]<;>rfl
  |true=>
   have hn:c=48:=by simpa using hb
   rw[if_pos hn]
   have hka:a<k:=by
    rcases Ax a k with h|h
    ·exact h
    ·have:a=k:=om
     subst this;rw[hc]at ha;cases ha;exact absurd hn hc0
   obtain⟨b',q1,q2,q3,q4⟩:=ih k (e+1) .undef om hka om om om;refine⟨b',q1,om,q3,?_⟩
   have e1:evCode ⟨Aa,E,lo,h.length,GV⟩ JA JBc (GC below ds e h a (k+1:Nat) [(30,x)])=some (.normal,GC below ds (e+1) h a k [(30,.undef)]):=by simp only[go_sem,JBc,J8,Tryz.f115,hw,hwe,QU hy,hc,hb,JO]<;>rfl
   rw[JB,e1,JK,q4];have e2:e+1+(k:Int)-(b':Int)=e+((k+1:Nat):Int)-(b':Int):=om;rw[e2]
abbrev JCp(below:Bool)(e:Int)(h:Heap)(n:Int)(rows:List (List V))(len k:Int)(ex:Ja):Ja×Heap:=
 ((0,.v (.bool below))::(2,.v (.int .i64 e))::(6,.ptr h.length 0)::(9,.v (.int .u64 n))::(50,.list .no rows)::(51,.v (.int .i64 len))::(52,.v (.int .i64 k))::ex,h++[.cells (JO (0,0))])
theorem JRr{lo:Nat}{below:Bool}{e:Int}{h:Heap}{d:List Int}(hd:∀c∈d,Jn c=true)(hl:d.length<=18):∀(r:List Int) (k:Nat) (n:Int),d.drop k=r->k+r.length=d.length->0<=n->n<10^k->
  JA (evCode ⟨Aa,E,lo,h.length,GV⟩ JA JBd) (JCp below e h n (ri .u8 d) d.length k [])=
   some (.exit 4,JCp below e h (ZA n r) (ri .u8 d) d.length d.length [(53,.v (.bool false))]):=by
 intro r
 induction r with
 |nil=>
  intro k n hr hk h0 h1;have hk':k=d.length:=by simpa using hk
  subst hk';have hlt:decide ((d.length:Int)<(d.length:Int))=false:=by simp
  rw[JB]
  simp only[go_sem,JBd,J8,Tryz.f115,hlt,ZA,JO]<;>rfl
 |cons c r ih=>
  intro k n hr hk h0 h1;simp only[Ag]at hk;have hlt:decide ((k:Int)<(d.length:Int))=true:=by simp;omega
  have hc:d[k]? =some c:=by
   have:=congrArg (·[0]?) hr
   simpa using this
  have hcd:=hd c (Ap hc);simp only[Jn,Ah,decide_eq_true_eq]at hcd;have hw:=JD (i:=k) om
  have h17:(10:Int)^k<=100000000000000000:=by
   have:(10:Int)^k<=10^17:=by obtain⟨j,hj⟩:∃j,17=k+j:=⟨17-k,om⟩;rw[hj,Dx];have h0:=Jm (y:=10) om k;exact Q8 om (Jm om j)
   exact this
  have w1:BP.wrap (n*10)=n*10:=K1 om om;have w2:AX.wrap (c-48)=c-48:=wrap_u8 om om;have w3:BP.wrap (c-48)=c-48:=K1 om om;have w4:BP.wrap (n*10+(c-48))=n*10+(c-48):=K1 om om
  have e1:evCode ⟨Aa,E,lo,h.length,GV⟩ JA JBd (JCp below e h n (ri .u8 d) d.length k [])=some (.normal,JCp below e h (n*10+(c-48)) (ri .u8 d) d.length (k+1:Nat) []):=by simp only[go_sem,JBd,J8,Tryz.f115,hlt,hc,w1,w2,w3,w4,hw,JO]<;>rfl
  have hp:(10:Int)^ (k+1)=10^k*10:=Cc 10 k;rw[JB,e1,JK,ih (k+1) (n*10+(c-48)) (by rw[<-AC,hr];rfl) om om om]
  rfl
abbrev JCq(below:Bool)(e:Int)(h:Heap)(n:Int)(ex:Ja):Ja×Heap:=
 ((0,.v (.bool below))::(2,.v (.int .i64 e))::(6,.ptr h.length 0)::(9,.v (.int .u64 n))::(12,.v (.int .u64 1))::ex,h++[.cells (JO (0,0))])
abbrev Ql(h:Heap):Option (Ex×Ja×Heap):=some (.ret,[(6,.ptr h.length 0)],h++[.cells (JO (0,0))])
theorem JB8{lo:Nat}{h:Heap}{x:Ob}(hlo:lo<=h.length):E lo 114 [] (h++[x])=some (.agg (JO (0,0)),h++[x]):=f114 (by simp;omega)
theorem JRs{lo:Nat}{below:Bool}{h:Heap}(hlo:lo<=h.length):∀(m:Nat) (e n:Int),e.toNat=m->e<=4000000000000->0<=n->n<=9223372036854775807->
  JA (evCode ⟨Aa,E,lo,h.length,GV⟩ JA ji) (JCq below e h n [])=
   match za m n with
   |some n'=>some (.exit 6,JCq below (if 0<e then 0 else e) h n' [(64,.v (.bool false))])
   |none=>Ql h:=by
 intro m
 induction m with
 |zero=>
  intro e n hm he h0 h1;have hd:decide (0<e)=false:=by simp;omega
  rw[JB,if_neg om]
  simp only[go_sem,ji,J8,Tryz.f115,hd,za,JO]<;>rfl
 |succ m ih=>
  intro e n hm he h0 h1;have hd:decide (0<e)=true:=by simp;omega
  have hw:Ak.wrap (e-1)=e-1:=by rw[JL]<;>omega
  rw[JB];simp only[za];by_cases hb:922337203685477580<n
  ·have hb':decide (922337203685477580<n)=true:=by simp[hb]
   rw[if_pos hb];simp only[go_sem,ji,J8,Tryz.f115,hd,hb',JB8 hlo,hlo,JO]<;>rfl
  ·have hb':decide (922337203685477580<n)=false:=by simp[hb]
   rw[if_neg hb];have w1:BP.wrap (n*10)=n*10:=K1 om om
   have e1:evCode ⟨Aa,E,lo,h.length,GV⟩ JA ji (JCq below e h n [])=some (.normal,JCq below (e-1) h (n*10) []):=by simp only[go_sem,ji,J8,Tryz.f115,hd,hb',w1,hw,JO]<;>rfl
   rw[e1,JK,ih (e-1) (n*10) om om om om];have e2:(if 0<e-1 then(0:Int)else e-1)=if 0<e then 0 else e:=by split<;>split<;>omega
   rw[e2]
abbrev W3(below:Bool)(h:Heap)(n d a b:Int)(ex:Ja):Ja×Heap:=
 ((0,.v (.bool below))::(6,.ptr h.length 0)::(9,.v (.int .u64 n))::(12,.v (.int .u64 d))::(13,.v (.int .i64 a))::(14,.v (.int .i64 b))::ex,h++[.cells (JO (0,0))])
theorem JRt{lo:Nat}{below:Bool}{h:Heap}{d b:Int}:∀(k:Nat) (n:Int),(k:Int)<=9223372036854775807->0<=n->n<=9223372036854775807->
  JA (evCode ⟨Aa,E,lo,h.length,GV⟩ JA yD) (W3 below h n d k b [])=
   some (.exit 8,W3 below h (Kh 2 k n).2 d (Kh 2 k n).1 b [(82,.v (.bool false))]):=by
 intro k
 induction k with
 |zero=>
  intro n hk h0 h1;have hd:decide ((0:Int)<0)=false:=rfl;rw[JB];simp only[n0,Kh]
  simp only[go_sem,yD,J8,Tryz.f115,hd,JO]<;>rfl
 |succ k ih=>
  intro n hk h0 h1;have hd:decide ((0:Int)<((k+1:Nat):Int))=true:=by simp
  have hw:Ak.wrap (((k+1:Nat):Int)-1)=(k:Int):=by rw[JL]<;>omega
  have hr:Int.tmod n 2=n%2:=Dt h0;have hq:Mv n 2=n/2:=Du h0;have wq:BP.wrap (n/2)=n/2:=K1 om om;have z2:((2:Int)=0)=False:=by simp
  rw[JB];by_cases hm:n%2=0
  ·have hb:(n%2==0)=true:=by simp[hm]
   have e1:evCode ⟨Aa,E,lo,h.length,GV⟩ JA yD (W3 below h n d (k+1:Nat) b [])=some (.normal,W3 below h (n/2) d k b []):=by simp only[go_sem,yD,J8,Tryz.f115,hd,hr,hq,wq,hb,hw,z2,JO]<;>rfl
   rw[e1,JK,ih (n/2) om om om];simp only[Kh,hm,if_true]
  ·have hb:(n%2==0)=false:=by simp;omega
   have e2:Kh 2 (k+1) n=(k+1,n):=by simp only[Kh];rw[if_neg hm]
   rw[e2];simp only[go_sem,yD,J8,Tryz.f115,hd,hr,hb,z2,JO]<;>rfl
theorem JRu{lo:Nat}{below:Bool}{h:Heap}{d a:Int}:∀(k:Nat) (n:Int) (ex:Ja),(ex=[]\/ex=[(82,.v (.bool false))])->(k:Int)<=9223372036854775807->0<=n->n<=9223372036854775807->
  JA (evCode ⟨Aa,E,lo,h.length,GV⟩ JA GY) (W3 below h n d a k ex)=
   some (.exit 10,W3 below h (Kh 5 k n).2 d a (Kh 5 k n).1 [(93,.v (.bool false))]):=by
 intro k
 induction k with
 |zero=>
  intro n ex hex hk h0 h1;have hd:decide ((0:Int)<0)=false:=rfl;rw[JB];simp only[n0,Kh];rcases hex with rfl|rfl
  ·simp only[go_sem,GY,J8,Tryz.f115,hd,JO]<;>rfl
  ·simp only[go_sem,GY,J8,Tryz.f115,hd,JO]<;>rfl
 |succ k ih=>
  intro n ex hex hk h0 h1;have hd:decide ((0:Int)<((k+1:Nat):Int))=true:=by simp
  have hw:Ak.wrap (((k+1:Nat):Int)-1)=(k:Int):=by rw[JL]<;>omega
  have hr:Int.tmod n 5=n%5:=Dt h0;have hq:Mv n 5=n/5:=Du h0;have wq:BP.wrap (n/5)=n/5:=K1 om om;have z2:((5:Int)=0)=False:=by simp
  rw[JB];by_cases hm:n%5=0
  ·have hb:(n%5==0)=true:=by simp[hm]
   have e1:evCode ⟨Aa,E,lo,h.length,GV⟩ JA GY (W3 below h n d a (k+1:Nat) ex)=some (.normal,W3 below h (n/5) d a k []):=by
    rcases hex with rfl|rfl
    ·simp only[go_sem,GY,J8,Tryz.f115,hd,hr,hq,wq,hb,hw,z2,JO]<;>rfl
    ·simp only[go_sem,GY,J8,Tryz.f115,hd,hr,hq,wq,hb,hw,z2,JO]<;>rfl
   rw[e1,JK,ih (n/5) [] (.inl rfl) om om om];simp only[Kh,hm,if_true]
  ·have hb:(n%5==0)=false:=by simp;omega
   have e2:Kh 5 (k+1) n=(k+1,n):=by simp only[Kh];rw[if_neg hm]
   rw[e2];rcases hex with rfl|rfl
   ·simp only[go_sem,GY,J8,Tryz.f115,hd,hr,hb,z2,JO]<;>rfl
   ·simp only[go_sem,GY,J8,Tryz.f115,hd,hr,hb,z2,JO]<;>rfl
theorem JRv{lo:Nat}{below:Bool}{h:Heap}{n b:Int}:∀(k a:Nat) (x:V),a+k<=62->
  JA (evCode ⟨Aa,E,lo,h.length,GV⟩ JA JBe) (W3 below h n (2^a) k b [(103,x)])=
   some (.exit 12,W3 below h n (2^ (a+k)) 0 b [(106,.v (.bool false))]):=by
 intro k
 induction k with
 |zero=>
  intro a x ha;have hd:decide ((0:Int)<0)=false:=rfl;rw[JB];simp only[n0]
  simp only[go_sem,JBe,J8,Tryz.f115,hd,JO]<;>rfl
 |succ k ih=>
  intro a x ha;have hd:decide ((0:Int)<((k+1:Nat):Int))=true:=by simp
  have hw:Ak.wrap (((k+1:Nat):Int)-1)=(k:Int):=by rw[JL]<;>omega
  have h61:(2:Int)^61=2305843009213693952:=by decide
  have hp:=jn (show a<=61 by omega)
  have hp0:=Jm (y:=2) om a;have w1:BP.wrap (2^a*2)=2^ (a+1):=by rw[Cc];exact K1 om om
  generalize hX:(2:Int)^a=X at*
  have e1:evCode ⟨Aa,E,lo,h.length,GV⟩ JA JBe (W3 below h n X (k+1:Nat) b [(103,x)])=some (.normal,W3 below h n (2^ (a+1)) k b [(103,.undef)]):=by simp only[go_sem,JBe,J8,Tryz.f115,hd,w1,hw,JO]<;>rfl
  rw[JB,e1,JK,ih (a+1) .undef om];have e2:a+1+k=a+(k+1):=om;rw[e2]
abbrev JB9(below:Bool)(h:Heap)(n d:Int)(ex:Ja):Ja×Heap:=
 ((0,.v (.bool below))::(6,.ptr h.length 0)::(9,.v (.int .u64 n))::(12,.v (.int .u64 d))::ex,h++[.cells (JO (0,0))])
theorem JUz{lo:Nat}{below:Bool}{h:Heap}{n:Int}(hlo:lo<=h.length):∀(k:Nat) (d:Int) (x y:V) (ex:Ja),(ex=[(103,y)]\/ex=[(106,y)])->(k:Int)<=9223372036854775807->0<=d->d<=9223372036854775807->
  JA (evCode ⟨Aa,E,lo,h.length,GV⟩ JA Zg) (JB9 below h n d ((13,x)::(14,.v (.int .i64 k))::ex))=
   match ZB 5 1844674407370955161 k d with
   |some d'=>some (.exit 14,JB9 below h n d' [(14,.v (.int .i64 0)),(112,.v (.bool false))])
   |none=>Ql h:=by
 intro k
 induction k with
 |zero=>
  intro d x y ex hex hk h0 h1;have hd:decide ((0:Int)<0)=false:=rfl;rw[JB];simp only[n0,ZB];rcases hex with rfl|rfl
  ·simp only[go_sem,Zg,J8,Tryz.f115,hd,JO]<;>rfl
  ·simp only[go_sem,Zg,J8,Tryz.f115,hd,JO]<;>rfl
 |succ k ih=>
  intro d x y ex hex hk h0 h1;have hd:decide ((0:Int)<((k+1:Nat):Int))=true:=by simp
  have hw:Ak.wrap (((k+1:Nat):Int)-1)=(k:Int):=by rw[JL]<;>omega
  rw[JB];simp only[ZB];by_cases hb:1844674407370955161<d
  ·have hb':decide (1844674407370955161<d)=true:=by simp[hb]
   rw[if_pos hb];rcases hex with rfl|rfl
   ·simp only[go_sem,Zg,J8,Tryz.f115,hd,hb',JB8 hlo,hlo,JO]<;>rfl
   ·simp only[go_sem,Zg,J8,Tryz.f115,hd,hb',JB8 hlo,hlo,JO]<;>rfl
  ·have hb':decide (1844674407370955161<d)=false:=by simp[hb]
   rw[if_neg hb];have w1:BP.wrap (d*5)=d*5:=K1 om om
   have e1:evCode ⟨Aa,E,lo,h.length,GV⟩ JA Zg (JB9 below h n d ((13,x)::(14,.v (.int .i64 (k+1:Nat)))::ex))=some (.normal,JB9 below h n (d*5) [(13,.undef),(14,.v (.int .i64 k)),(103,.undef)]):=by
    rcases hex with rfl|rfl
    ·simp only[go_sem,Zg,J8,Tryz.f115,hd,hb',w1,hw,JO]<;>rfl
    ·simp only[go_sem,Zg,J8,Tryz.f115,hd,hb',w1,hw,JO]<;>rfl
   rw[e1,JK,ih (d*5) .undef .undef _ (.inl rfl) om om om]
def JLe(below:Bool)(ds:List Int)(e:Int):Int×Int:=
 let d:=ds.dropWhile (· ==48)
 if d=[]then(0,1)else
 if 18<(core d).length then(0,0)else
 turn below (Zl (ZA 0 (core d)) (e+(d.length-(core d).length)))
theorem drop_take(p:Int->Bool):∀l:List Int,l.drop (l.takeWhile p).length=l.dropWhile p
 |[]=>rfl
 |c::t=>by
  cases h:p c with
  |true=>rw[Ba h,Bu h];exact drop_take p t
  |false=>rw[Cd (by simp[h]),Bt (by simp[h])];rfl
theorem yV(p:Int->Bool):∀l:List Int,∀c t,l.dropWhile p=c::t->p c=false
 |[],c,t,h=>by cases h
 |x::l,c,t,h=>by
  cases hx:p x with
  |true=>rw[Bu hx]at h;exact yV p l c t h
  |false=>rw[Bt (by simp[hx])]at h;cases h;exact hx
theorem JCA{l:List Int}(h:∀c∈l,Jn c=true):∀c∈core l,Jn c=true:=λc hc=>by unfold core at hc;rw[List.mem_reverse]at hc;exact h c (by simpa using(B3 _).subset hc)
section
variable{lo:Nat}{below:Bool}{ds:List Int}{e:Int}{h:Heap}
noncomputable abbrev W4(lo:Nat)(h:Heap):Cx:=⟨Aa,E,lo,h.length,GV⟩
theorem Jfb(hy:By ds)(hl:ds.length<=100000000000)(hlo:lo<=h.length):QM (W4 lo h) JA (pc J8 0 5) (K2 [.v (.bool below),.v (.string (bs ds)),.v (.int .i64 e)],h)=
  if ds.dropWhile (· ==48)=[]then some (.ret,[(6,.ptr h.length 0)],h++[.cells (JO (0,1))])
  else some (.normal,GC below ds e h (ds.takeWhile (· ==48)).length ds.length [(30,.v (.bool false))]):=by
 have hL0:=JRp (lo:=lo) (below:=below) (e:=e) (h:=h) hy hl ds.length 0 om om;simp only[List.drop_zero,AB]at hL0
 have hsum:((ds.takeWhile (· ==48)).length)+(ds.dropWhile (· ==48)).length=ds.length:=by rw[<-An,BW]
 have hk:=f136 (h:=h++[Ob.cells [V.v (Bp Ak 0),V.v (Bp Ak 0)]]) (lo:=lo) (n:=0) (by simp;omega)
 generalize (ds.takeWhile (· ==48)).length=a at*
 generalize ds.dropWhile (· ==48)=D at*
 simp only[GC,yC,J8,Tryz.f115,JG,JT,JC,go_sem,JO]at hL0 hk
 cases D with
 |nil=>
  have t1:((a:Int)==(ds.length:Int))=true:=by simp at hsum⊢;omega
  rw[if_pos rfl]
  simp only[go_sem,W4,J8,Tryz.f115,JZ,hL0,t1,hk,JO,hlo]<;>rfl
 |cons c0 t0=>
  have t1:((a:Int)==(ds.length:Int))=false:=by simp at hsum⊢;omega
  rw[if_neg (by simp)]
  simp only[go_sem,W4,J8,Tryz.f115,JZ,hL0,t1,JO]<;>rfl
theorem Jfc{a:Nat}{c0:Int}(hy:By ds)(hl:ds.length<=100000000000)(ha:ds[a]? =some c0)(hc0:c0≠48)(he0: -2000000000000<=e)(he1:e<=2000000000000):
  ∃b',a<b'/\b'<=ds.length/\(ds.take b').drop a=core (ds.drop a)/\
   QM (W4 lo h) JA (pc J8 5 1) (GC below ds e h a ds.length [(30,.v (.bool false))])=some (.normal,GC below ds (e+ds.length-b') h a b' [(36,.v (.bool false))]):=by
 have hal:a<ds.length:=(Ab.1 ha).1
 obtain⟨b',q1,q2,q3,q4⟩:=JRq (lo:=lo) (below:=below) (h:=h) hy hl ha hc0 ds.length ds.length e (.v (.bool false)) om hal (Ac _) om om;rw[List.take_length]at q3;refine⟨b',q1,q2,q3,?_⟩
 simp only[GC,JBc,J8,Tryz.f115,JG,JT,JC,go_sem,JO]at q4;simp only[go_sem,W4,GC,J8,Tryz.f115,q4,JO]
theorem Jfd{a b:Nat}(hab:a<=b)(hb:b<=100000000000)(hlo:lo<=h.length):QM (W4 lo h) JA (pc J8 6 2) (GC below ds e h a b [(36,.v (.bool false))])=
  if 18<b-a then Ql h else some (.normal,GC below ds e h a b [(44,.v (.bool false))]):=by
 have hw:Ak.wrap ((b:Int)-a)=((b-a:Nat):Int):=by rw[JL om om];omega
 have hk:=JB8 (lo:=lo) (h:=h) (x:=Ob.cells [V.v (Bp Ak 0),V.v (Bp Ak 0)]) hlo;by_cases h18:18<b-a
 ·have t:decide (18<((b-a:Nat):Int))=true:=by simp;omega
  rw[if_pos h18];simp only[go_sem,W4,GC,J8,Tryz.f115,hw,t,hk,hlo,JO]<;>rfl
 ·have t:decide (18<((b-a:Nat):Int))=false:=by simp;omega
  rw[if_neg h18];simp only[go_sem,W4,GC,J8,Tryz.f115,hw,t,JO]<;>rfl
theorem Y0{l:List Int}(hy:By l):Kg (bs l)=ri .u8 l:=by
 unfold Kg bs WN ri;simp only[List.map_map];apply List.map_congr_left;intro c hc;have:=hy c hc;simp only[Function.comp]
 congr 4
 show((BE c.toNat).toNat:Int)=c
 simp only[BR];omega
theorem Jfe{a b:Nat}{d:List Int}(hd:∀c∈d,Jn c=true)(hdl:d.length<=18)(hab:a<=b)(hbl:b<=ds.length)(hdd:(ds.take b).drop a=d):
  QM (W4 lo h) JA (pc J8 8 3) (GC below ds e h a b [(44,.v (.bool false))])=some (.normal,JCp below e h (ZA 0 d) (ri .u8 d) d.length d.length [(53,.v (.bool false))]):=by
 have hy:By d:=λc hc=>by have:=hd c hc;simp only[Jn,Ah,decide_eq_true_eq]at this;omega
 have hL:=JRr (lo:=lo) (below:=below) (e:=e) (h:=h) hd hdl d 0 0 rfl (by simp) om (by simp)
 simp only[JCp,JBd,J8,Tryz.f115,JG,JT,JC,go_sem,JO]at hL;simp only[go_sem,W4,GC,JCp,J8,Tryz.f115,JZ,Q3,hab,hbl,hdd,Y0 hy,hL,JO]<;>rfl
theorem Jff{rows:List (List V)}{len k n:Int}(hlo:lo<=h.length)(he1:e<=4000000000000)(h0:0<=n)(h1:n<=9223372036854775807):
  QM (W4 lo h) JA (pc J8 11 2) (JCp below e h n rows len k [(53,.v (.bool false))])=
   match za e.toNat n with
   |some n'=>some (.normal,JCq below (if 0<e then 0 else e) h n' [(64,.v (.bool false))])
   |none=>Ql h:=by
 have hL:=JRs (lo:=lo) (below:=below) (h:=h) hlo e.toNat e n rfl he1 h0 h1
 cases hu:za e.toNat n with
 |some n'=>
  rw[hu]at hL;simp only[JCq,ji,J8,Tryz.f115,JG,JT,JC,go_sem,JO]at hL
  simp only[go_sem,W4,JCp,JCq,J8,Tryz.f115,hL,JO]<;>rfl
 |none=>rw[hu]at hL;simp only[JCq,Ql,ji,J8,Tryz.f115,JG,JT,JC,go_sem,JO]at hL;simp only[go_sem,W4,JCp,Ql,J8,Tryz.f115,hL,JO]<;>rfl
theorem Jfg{n:Int}(he0: -4000000000000<=e)(he1:e<=0)(h0:1<=n)(h1:n<=9223372036854775807):
  QM (W4 lo h) JA (pc J8 13 3) (JCq below e h n [(64,.v (.bool false))])=
   some (.normal,W3 below h (Kh 5 (-e).toNat (Kh 2 (-e).toNat n).2).2 1 (Kh 2 (-e).toNat n).1 (Kh 5 (-e).toNat (Kh 2 (-e).toNat n).2).1 [(93,.v (.bool false))]):=by
 obtain⟨k,hk⟩:∃k,(-e).toNat=k:=⟨_,rfl⟩;have hw:Ak.wrap (0-e)=(k:Int):=by rw[JL om om];omega
 rw[hk];obtain⟨a1,b1,c1,d1⟩:=Wy (y:=2) om k n h0;have hL:=JRt (lo:=lo) (below:=below) (h:=h) (d:=1) (b:=k) k n om om om;generalize Kh 2 k n=r at*;have hM:=JRu (lo:=lo) (below:=below) (h:=h) (d:=1) (a:=r.1) k r.2 [(82,.v (.bool false))] (.inr rfl) om om om;simp only[W3,yD,GY,J8,Tryz.f115,JG,JT,JC,go_sem,JO]at hL hM
 simp only[go_sem,W4,JCq,W3,J8,Tryz.f115,hw,hL,hM,JO]<;>rfl
theorem Jfh{n:Int}{a b:Nat}(hlo:lo<=h.length):QM (W4 lo h) JA (pc J8 16 2) (W3 below h n 1 a b [(93,.v (.bool false))])=
  if 62<a\/27<b then Ql h else some (.normal,W3 below h n 1 a b [(103,.v (.bool false))]):=by
 have hk:=JB8 (lo:=lo) (h:=h) (x:=Ob.cells [V.v (Bp Ak 0),V.v (Bp Ak 0)]) hlo;by_cases h62:62<a
 ·have t:decide (62<(a:Int))=true:=by simp;omega
  rw[if_pos (.inl h62)];simp only[go_sem,W4,W3,J8,Tryz.f115,t,hk,hlo,JO]<;>rfl
 ·have t:decide (62<(a:Int))=false:=by simp;omega
  by_cases h27:27<b
  ·have t2:decide (27<(b:Int))=true:=by simp;omega
   rw[if_pos (.inr h27)];simp only[go_sem,W4,W3,J8,Tryz.f115,t,t2,hk,hlo,JO]<;>rfl
  ·have t2:decide (27<(b:Int))=false:=by simp;omega
   rw[if_neg om];simp only[go_sem,W4,W3,J8,Tryz.f115,t,t2,JO]<;>rfl
theorem Jfi{n b:Int}{a:Nat}(ha:a<=62):QM (W4 lo h) JA (pc J8 18 1) (W3 below h n 1 a b [(103,.v (.bool false))])=some (.normal,W3 below h n (2^a) 0 b [(106,.v (.bool false))]):=by have hL:=JRv (lo:=lo) (below:=below) (h:=h) (n:=n) (b:=b) a 0 (.v (.bool false)) om;rw[AB]at hL;simp only[W3,JBe,J8,Tryz.f115,JG,JT,JC,go_sem,JO,Int.pow_zero]at hL;simp only[go_sem,W4,W3,J8,Tryz.f115,hL,JO]
theorem Jfj{n d:Int}{b:Nat}(hlo:lo<=h.length)(hb:(b:Int)<=9223372036854775807)(h0:0<=d)(h1:d<=9223372036854775807):QM (W4 lo h) JA (pc J8 19 1) (W3 below h n d 0 b [(106,.v (.bool false))])=
  match ZB 5 1844674407370955161 b d with
  |some d'=>some (.normal,JB9 below h n d' [(14,.v (.int .i64 0)),(112,.v (.bool false))])
  |none=>Ql h:=by
 have hL:=JUz (lo:=lo) (below:=below) (h:=h) (n:=n) hlo b d (.v (.int .i64 0)) (.v (.bool false)) [(106,.v (.bool false))] (.inr rfl) hb h0 h1
 cases hu:ZB 5 1844674407370955161 b d with
 |some d'=>
  rw[hu]at hL;simp only[JB9,Zg,J8,Tryz.f115,JG,JT,JC,go_sem,JO]at hL
  simp only[go_sem,W4,W3,JB9,J8,Tryz.f115,hL,JO]
 |none=>rw[hu]at hL;simp only[JB9,Ql,Zg,J8,Tryz.f115,JG,JT,JC,go_sem,JO]at hL;simp only[go_sem,W4,W3,Ql,J8,Tryz.f115,hL,JO]
theorem Jfk{n d:Int}(hlo:lo<=h.length)(h0:0<=n)(h1:n<=9223372036854775807)(g0:0<=d)(g1:d<=9223372036854775807):QM (W4 lo h) JA (pc J8 20 4) (JB9 below h n d [(14,.v (.int .i64 0)),(112,.v (.bool false))])=
  some (.ret,[(6,.ptr h.length 0)],h++[.cells (JO (turn below (some (n,d))))]):=by
 have w1:Ak.wrap n=n:=by rw[JL]<;>omega
 have w2:Ak.wrap d=d:=by rw[JL]<;>omega
 have w3:Ak.wrap (0-n)= -n:=by rw[JL]<;>omega
 cases below with
 |true=>simp only[go_sem,W4,JB9,J8,Tryz.f115,w1,w2,w3,hlo,turn,JO]<;>rfl
 |false=>simp only[go_sem,W4,JB9,J8,Tryz.f115,w1,w2,w3,hlo,turn,JO]<;>rfl
end
theorem JU0(c:Int)(t:List Int)(hc:c≠48):∃u,core (c::t)=c::u:=by
 unfold core;rw[BD]
 have:∀l:List Int,∃u,(l++[c]).dropWhile (· ==48)=u++[c]:=by
  intro l
  induction l with
  |nil=>exact⟨[],by rw[Af,Bt (by simpa using hc)]⟩
  |cons x l ih=>
   rw[Ae]
   cases hx:(x==(48:Int))with
   |true=>rw[Bu (p:=(· ==48)) hx];exact ih
   |false=>rw[Bt (p:=(· ==48)) (by simp[hx])];exact⟨x::l,rfl⟩
 obtain⟨u,hu⟩:=this t.reverse;rw[hu];exact⟨u.reverse,by simp⟩
theorem JJn{c:Int}{t:List Int}(hd:∀x∈c::t,Jn x=true)(hc:c≠48)(hl:(core (c::t)).length<=18):1<=ZA 0 (core (c::t))/\ZA 0 (core (c::t))<10^18:=by
 obtain⟨u,hu⟩:=JU0 c t hc;have hmem:=JCA hd;rw[hu]at hl hmem⊢;have h1:=hmem c (by simp)
 simp only[Jn,Ah,decide_eq_true_eq]at h1;have h2:ZA 0 (c::u)=ZA (c-48) u:=by simp[ZA]
 rw[h2];obtain⟨a,b,d⟩:=JBq u (c-48) 1 (λx hx=>hmem x (by simp[hx])) om om
 refine⟨om,?_⟩
 simp only[Ag]at hl;obtain⟨j,hj⟩:∃j,18=1+u.length+j:=⟨18-(1+u.length),om⟩
 have h3:(10:Int)^ (1+u.length)<=10^18:=by rw[hj,Dx _ (1+u.length) j];have h0:=Jm (y:=10) om (1+u.length);exact Q8 om (Jm om j)
 omega
theorem JLf:∀(k:Nat) (n m:Int),1<=n->n<=9223372036854775807->za k n=some m->1<=m/\m<=9223372036854775807
 |0,n,m,h0,h1,h=>by simp only[za,Option.some.injEq]at h;omega
 |k+1,n,m,h0,h1,h=>by
  simp only[za]at h
  split at h
  ·cases h
  ·exact JLf k (n*10) m om om h
theorem JMk:∀(k:Nat) (n m:Int),1<=n->n<=9223372036854775807->ZB 5 1844674407370955161 k n=some m->1<=m/\m<=9223372036854775807
 |0,n,m,h0,h1,h=>by simp only[ZB,Option.some.injEq]at h;omega
 |k+1,n,m,h0,h1,h=>by
  simp only[ZB]at h
  split at h
  ·cases h
  ·exact JMk k (n*5) m om om h
theorem jw{h:Heap}{x:Int×Int}:fin Aa [.cell 6 49] h.length (some (.ret,[(6,.ptr h.length 0)],h++[.cells (JO x)]))=some (.agg (JO x),h):=by simp only[go_sem,JO]<;>rfl
theorem f115{lo:Nat}{below:Bool}{ds:List Int}{e:Int}{h:Heap}(hd:∀c∈ds,Jn c=true)(hl:ds.length<=100000000000)(he0: -2000000000000<=e)(he1:e<=2000000000000)(hlo:lo<=h.length):
  E lo 115 [.v (.bool below),.v (.string (bs ds)),.v (.int .i64 e)] h=some (.agg (JO (JLe below ds e)),h):=by
 have hy:By ds:=λc hc=>by have:=hd c hc;simp only[Jn,Ah,decide_eq_true_eq]at this;omega
 have hdt:=drop_take (· ==48) ds
 have hsum:((ds.takeWhile (· ==48)).length)+(ds.dropWhile (· ==48)).length=ds.length:=by rw[<-An,BW]
 have hhead:=yV (· ==48) ds
 have hmem:∀c∈ds.dropWhile (· ==48),Jn c=true:=λc hc=>hd c ((B3 _).subset hc)
 rw[Jlj,pc_in,pc_go _ _ _ _ 0 5,Jfb hy hl hlo];unfold JLe;generalize (ds.takeWhile (· ==48)).length=a at*
 generalize hD:ds.dropWhile (· ==48)=D at*
 cases D with
 |nil=>
  rw[if_pos rfl,Qw]
  exact jw
 |cons c0 t0=>
  rw[if_neg (by simp),pc_go _ _ _ _ _ 1]
  have hc0:c0≠48:=by have:=hhead c0 t0 rfl;simpa using this
  have ha:ds[a]? =some c0:=by
   have:=congrArg (·[0]?) hdt
   simpa using this
  obtain⟨b',q1,q2,q3,q4⟩:=Jfc (lo:=lo) (below:=below) (h:=h) hy hl ha hc0 he0 he1;rw[q4,pc_go _ _ _ _ _ 2,Jfd om om hlo];rw[hdt]at q3;have hlen:(core (c0::t0)).length=b'-a:=by rw[<-q3,Ay,AP];omega
  simp only[reduceCtorEq,if_false];by_cases h18:18<b'-a
  ·rw[if_pos h18,if_pos om,Ql,Qw]
   exact jw
  rw[if_neg h18,if_neg om,pc_go _ _ _ _ _ 3,Jfe (JCA hmem) om om q2 q3,pc_go _ _ _ _ _ 2];obtain⟨n0',n1⟩:=JJn hmem hc0 om;have h1018:(10:Int)^18=1000000000000000000:=by decide
  rw[Jff hlo om om om]
  have hE:e+(((c0::t0).length:Int)-((core (c0::t0)).length:Int))=e+ds.length-b':=by rw[hlen];omega
  rw[hE];generalize ZA 0 (core (c0::t0))=n at*;have hEb: -4000000000000<=e+ds.length-b'/\e+ds.length-b'<=4000000000000:=om;generalize e+(ds.length:Int)-(b':Int)=p at*;unfold Zl
  cases hu:za p.toNat n with
  |none=>
   rw[Ql];simp only;rw[Qw]
   exact jw
  |some m=>
   obtain⟨m0,m1⟩:=JLf _ _ _ n0' om hu;simp only;have hp0:(if 0<p then(0:Int)else p)<=0:=by split<;>omega
   have hpn:(-(if 0<p then(0:Int)else p)).toNat=(-p).toNat:=by split<;>omega
   rw[pc_go _ _ _ _ _ 3,Jfg (by split<;>omega) hp0 m0 m1,hpn]
   obtain⟨a1,b1,c1,d1⟩:=Wy (y:=2) om (-p).toNat m m0;obtain⟨a2,b2,c2,d2⟩:=Wy (y:=5) om (-p).toNat _ b1;generalize Kh 2 (-p).toNat m=r at*;generalize Kh 5 (-p).toNat r.2=s at*;rw[pc_go _ _ _ _ _ 2,Jfh hlo];by_cases hov:62<r.1\/27<s.1
   ·rw[if_pos hov,if_pos hov,Ql,Qw]
    exact jw
   ·rw[if_neg hov,if_neg hov,pc_go _ _ _ _ _ 1,Jfi om,pc_go _ _ _ _ _ 1]
    have h62:(2:Int)^62=4611686018427387904:=by decide
    have g1:=jn (show r.1<=62 by omega)
    have g0:=Jm (y:=2) om r.1;rw[Jfj hlo om om om]
    cases hm:ZB 5 1844674407370955161 s.1 (2^r.1)with
    |none=>
     simp only[Option.map_none];rw[Ql,Qw]
     exact jw
    |some d=>obtain⟨d0,d1⟩:=JMk _ _ _ om om hm;simp only[Option.map_some];rw[pc_go _ _ _ _ _ 4,Jfk hlo om om om om,Qw];exact jw
theorem qT:∀(l:List Int) (e:Int),(∀c∈l,Jn c=true)->0<=e->e<=1099511627776->0<=WQ e l/\WQ e l<=1099511627776
 |[],e,_,h0,h1=>⟨h0,h1⟩
 |c::t,e,hl,h0,h1=>by
  have hc:=hl c (by simp)
  simp only[Jn,Ah,decide_eq_true_eq]at hc;simp only[WQ];exact qT t _ (λx hx=>hl x (by simp[hx])) (by split<;>omega) (by split<;>omega)
theorem JLg:∀{l:List Int},(∀c∈l,Jn c=true)->l.takeWhile Jn=l
 |[],_=>rfl
 |c::t,h=>by rw[Ba (h c (by simp)),JLg λx hx=>h x (by simp[hx])]
section
variable{lo:Nat}{t:List Int}{h:Heap}{neg:Bool}
noncomputable abbrev YV(lo:Nat)(h:Heap):Cx:=⟨Aa,E,lo,h.length,h97⟩
abbrev JRw(t:List Int)(h:Heap)(i:Int)(neg:Bool)(j:Int)(ds:List Int)(fr:Int)(whole:Bool)(e:Int)(down:Bool)(ex:Ja):Ja×Heap:=
 ((0,.v (.string (bs t)))::(2,.ptr h.length 0)::(5,.v (.int .i64 i))::(6,.v (.bool neg))::(7,.v (.int .i64 j))::(8,.v (.string (bs ds)))::(9,.v (.int .i64 fr))::(10,.v (.bool whole))::(11,.v (.int .i64 e))::(12,.v (.bool down))::ex,h++[.cells (JO (0,0))])
theorem JZy{ds:List Int}{fr:Int}{whole down:Bool}(hy:By t)(hl:t.length<=100000000000):∀(r:List Int) (i:Nat) (e:Int) (x:V),t.drop i=r->i+r.length=t.length->(∀c∈r,Jn c=true)->0<=e->e<=1099511627776->
  JA (evCode (YV lo h) JA JJJ) (JRw t h i neg t.length ds fr whole e down [(127,x)])=
   some (.exit 0,JRw t h t.length neg t.length ds fr whole (WQ e r) down [(131,.v (.bool false))]):=by
 intro r
 induction r with
 |nil=>
  intro i e x hr hi hd h0 h1;obtain rfl:i=t.length:=by simpa using hi
  have hlt:decide ((t.length:Int)<(t.length:Int))=false:=by simp
  rw[JB]
  simp only[go_sem,YV,JJJ,zX,Tryz.f97,hlt,WQ,JO]<;>rfl
 |cons c r ih=>
  intro i e x hr hi hd h0 h1;simp only[Ag]at hi;have hlt:decide ((i:Int)<(t.length:Int))=true:=by simp;omega
  have hc:t[i]? =some c:=by
   have:=congrArg (·[0]?) hr
   simpa using this
  have hcd:=hd c (by simp)
  simp only[Jn,Ah,decide_eq_true_eq]at hcd;have hw:=JD (i:=i) om;have w1:Ak.wrap (e*10)=e*10:=JL om om;have w2:AX.wrap (c-48)=c-48:=wrap_u8 om om;have w3:Ak.wrap (c-48)=c-48:=JL om om;have w4:Ak.wrap (e*10+(c-48))=e*10+(c-48):=JL om om
  have e1:evCode (YV lo h) JA JJJ (JRw t h i neg t.length ds fr whole e down [(127,x)])=
    some (.normal,JRw t h (i+1:Nat) neg t.length ds fr whole (if 1099511627776<e*10+(c-48)then 1099511627776 else e*10+(c-48)) down [(127,.undef)]):=by
   simp only[go_sem,YV,JJJ,zX,Tryz.f97,hlt,QU hy,hc,w1,w2,w3,w4,hw,JO]<;>rfl
  rw[JB,e1,JK,ih (i+1) _ .undef (by rw[<-AC,hr];rfl) om (λx hx=>hd x (by simp[hx])) (by split<;>omega) (by split<;>omega)]
  rfl
theorem Jfl{k:Nat}(hy:By t)(hl:t.length<=100000000000)(hlo:lo<=h.length)
  (ht:(∃c,t[0]? =some c/\(c==43)=false/\(c==45)=false/\k=0/\neg=false)\/(t[0]? =some 43/\k=1/\neg=false)\/(t[0]? =some 45/\k=1/\neg=true)):
  ∃x,QM (YV lo h) JA (pc zX 0 4) (K2 [.v (.string (bs t))],h)=some (.normal,[(0,.v (.string (bs t))),(2,.ptr h.length 0),(5,.v (.int .i64 k)),(6,.v (.bool neg)),(28,x)],h++[.cells (JO (0,0))]):=by
 have hlen:0<t.length:=by rcases ht with⟨c,h,_⟩|⟨h,_⟩|⟨h,_⟩<;>exact(Ab.1 h).1
 have t0:decide ((0:Int)<(t.length:Int))=true:=by simp;omega
 have z0:(0:Int).toNat=0:=rfl;have w1:Ak.wrap (0+1)=1:=rfl;rcases ht with⟨c,hc,c1,c2,rfl,rfl⟩|⟨hc,rfl,rfl⟩|⟨hc,rfl,rfl⟩
 ·refine⟨.v (.bool false),?_⟩
  simp only[go_sem,YV,zX,Tryz.f97,JZ,t0,QU hy,z0,hc,c1,c2,JO]<;>rfl
 ·have c1:((43:Int)==43)=true:=rfl
  have c2:((43:Int)==45)=false:=rfl;refine⟨.undef,?_⟩
  simp only[go_sem,YV,zX,Tryz.f97,JZ,t0,QU hy,z0,hc,c1,c2,w1,JO]<;>rfl
 ·have c1:((45:Int)==43)=false:=rfl
  have c2:((45:Int)==45)=true:=rfl;refine⟨.undef,?_⟩
  simp only[go_sem,YV,zX,Tryz.f97,JZ,t0,QU hy,z0,hc,c1,c2,w1,JO]<;>rfl
theorem Jfm{k j:Nat}{d:List Int}{x:V}{pt:Bool}(hy:By t)(hl:t.length<=100000000000)(hk:k<=t.length)(hj:k+((t.drop k).takeWhile Jn).length=j)(hjl:j<=t.length)(hd:(t.take j).drop k=d)
  (hpt:(∃c,t[j]? =some c/\(c==46)=pt)\/(t.length<=j/\pt=false)):
  QM (YV lo h) JA (pc zX 4 4) ([(0,.v (.string (bs t))),(2,.ptr h.length 0),(5,.v (.int .i64 k)),(6,.v (.bool neg)),(28,x)],h++[.cells (JO (0,0))])=
   some (.normal,[(0,.v (.string (bs t))),(2,.ptr h.length 0),(5,.v (.int .i64 j)),(6,.v (.bool neg)),(8,.v (.string (bs d))),(9,.v (.int .i64 0)),(10,.v (.bool true)),(52,.v (.bool pt))],h++[.cells (JO (0,0))]):=by
 have k152:=λh=>f113 (lo:=lo) (h:=h) hy hl hk
 have hkj:k<=j:=om;simp only[hj]at k152;rcases hpt with⟨c,hc,rfl⟩|⟨hn,rfl⟩
 ·have hlt:=(Ab.1 hc).1
  have t1:decide ((j:Int)<(t.length:Int))=true:=by simp;omega
  simp only[go_sem,YV,zX,Tryz.f97,JZ,k152,Q3,hd,hkj,hjl,t1,QU hy,hc,JO]<;>rfl
 ·have t1:decide ((j:Int)<(t.length:Int))=false:=by simp;omega
  have hnn:t[j]? =none:=Bi hn
  simp only[go_sem,YV,zX,Tryz.f97,JZ,k152,Q3,hd,hkj,hjl,t1,QU hy,hnn,JO]<;>rfl
theorem JZz{j:Nat}{d:List Int}:QM (YV lo h) JA (pc zX 8 1) ([(0,.v (.string (bs t))),(2,.ptr h.length 0),(5,.v (.int .i64 j)),(6,.v (.bool neg)),(8,.v (.string (bs d))),(9,.v (.int .i64 0)),(10,.v (.bool true)),(52,.v (.bool false))],h++[.cells (JO (0,0))])=
   some (.normal,[(0,.v (.string (bs t))),(2,.ptr h.length 0),(5,.v (.int .i64 j)),(6,.v (.bool neg)),(8,.v (.string (bs d))),(9,.v (.int .i64 0)),(10,.v (.bool true)),(52,.v (.bool false))],h++[.cells (JO (0,0))]):=by
 simp only[go_sem,YV,zX,Tryz.f97,JO]
theorem JZ0{j n:Nat}{d f:List Int}(hy:By t)(hl:t.length<=100000000000)(hdl:d.length<=100000000000)(hjl:j+1<=t.length)(hn:j+1+((t.drop (j+1)).takeWhile Jn).length=n)(hnl:n<=t.length)(hnj:j+1<n)(hf:(t.take n).drop (j+1)=f):
  QM (YV lo h) JA (pc zX 8 1) ([(0,.v (.string (bs t))),(2,.ptr h.length 0),(5,.v (.int .i64 j)),(6,.v (.bool neg)),(8,.v (.string (bs d))),(9,.v (.int .i64 0)),(10,.v (.bool true)),(52,.v (.bool true))],h++[.cells (JO (0,0))])=
   some (.normal,[(0,.v (.string (bs t))),(2,.ptr h.length 0),(5,.v (.int .i64 n)),(6,.v (.bool neg)),(8,.v (.string (bs (d++f)))),(9,.v (.int .i64 f.length)),(10,.v (.bool false)),(52,.undef)],h++[.cells (JO (0,0))]):=by
 have hw:=JD (i:=j) om;have k152:=λh=>f113 (lo:=lo) (h:=h) hy hl hjl
 simp only[hn]at k152;have t1:((n:Int)==((j+1:Nat):Int))=false:=by simp;omega
 have hflen:f.length=n-(j+1):=by rw[<-hf,Ay,AP];omega
 have w2:Ak.wrap ((n:Int)-j)=((n-j:Nat):Int):=by rw[JL om om];omega
 have w3:Ak.wrap (((n-j:Nat):Int)-1)=(f.length:Int):=by rw[JL om om];omega
 have hjn:j+1<=n:=om;have hsz:d.length+f.length<=9223372036854775807:=om;simp only[go_sem,YV,zX,Tryz.f97,JZ,hw,k152,t1,Q3,hf,hjn,hnl,hsz,bs_app,w2,w3,JO]<;>rfl
theorem JVj{j:Nat}{d:List Int}{fr:Int}{whole more:Bool}{x:V}(hd:d≠[])(hm:decide (j<t.length)=more):
  QM (YV lo h) JA (pc zX 9 4) ([(0,.v (.string (bs t))),(2,.ptr h.length 0),(5,.v (.int .i64 j)),(6,.v (.bool neg)),(8,.v (.string (bs d))),(9,.v (.int .i64 fr)),(10,.v (.bool whole)),(52,x)],h++[.cells (JO (0,0))])=
   some (.normal,[(0,.v (.string (bs t))),(2,.ptr h.length 0),(5,.v (.int .i64 j)),(6,.v (.bool neg)),(8,.v (.string (bs d))),(9,.v (.int .i64 fr)),(10,.v (.bool whole)),(11,.v (.int .i64 0)),(80,.v (.bool more))],h++[.cells (JO (0,0))]):=by
 have t1:((bs d).toList==(⟨#[]⟩:ByteArray).toList)=false:=(JD5 d).trans (by simp[hd])
 have t2:decide ((j:Int)<(t.length:Int))=more:=by rw[<-hm];simp
 simp only[go_sem,YV,zX,Tryz.f97,JZ,t1,t2,JO]<;>rfl
theorem JZ1{d:List Int}{fr j:Int}{whole:Bool}{y:Int×Int}(hlo:lo<=h.length)(hw:Ak.wrap (0-fr)= -fr)
  (hv:∀h,lo<=h.length->E lo 115 [.v (.bool neg),.v (.string (bs d)),.v (.int .i64 (-fr))] h=some (.agg (JO y),h)):
  QM (YV lo h) JA (pc zX 13 3) ([(0,.v (.string (bs t))),(2,.ptr h.length 0),(5,.v (.int .i64 j)),(6,.v (.bool neg)),(8,.v (.string (bs d))),(9,.v (.int .i64 fr)),(10,.v (.bool whole)),(11,.v (.int .i64 0)),(80,.v (.bool false))],h++[.cells (JO (0,0))])=
   some (.ret,[(2,.ptr h.length 0),(3,.v (.bool whole)),(4,.v (.int .i64 0))],h++[.cells (JO y)]):=by
 have k:=hv (h++[.cells (JO (0,0))]) (by simp;omega)
 simp only[JO]at k;simp only[go_sem,YV,zX,Tryz.f97,hw,k,hlo,JO]<;>rfl
theorem JZ2{d r:List Int}{fr c:Int}{j i:Nat}{whole down:Bool}{y:Int×Int}(hy:By t)(hl:t.length<=100000000000)(hlo:lo<=h.length)
  (hc:t[j]? =some c)(hce:(c !=101&&c !=69)=false)
  (hi:(∃s,t[j+1]? =some s/\(s==43||s==45)=true/\i=j+2/\down=(s==45))\/(∃s,t[j+1]? =some s/\(s==43||s==45)=false/\i=j+1/\down=false))
  (hr:t.drop i=r)(hrd:∀x∈r,Jn x=true)(hr0:r≠[])(hil:i+r.length=t.length)(hf0:0<=fr)(hf1:fr<=100000000000)
  (hv:∀h,lo<=h.length->E lo 115 [.v (.bool neg),.v (.string (bs d)),.v (.int .i64 ((if down=true then-WQ 0 r else WQ 0 r)-fr))] h=some (.agg (JO y),h)):
  QM (YV lo h) JA (pc zX 13 3) ([(0,.v (.string (bs t))),(2,.ptr h.length 0),(5,.v (.int .i64 j)),(6,.v (.bool neg)),(8,.v (.string (bs d))),(9,.v (.int .i64 fr)),(10,.v (.bool whole)),(11,.v (.int .i64 0)),(80,.v (.bool true))],h++[.cells (JO (0,0))])=
   some (.ret,[(2,.ptr h.length 0),(3,.v (.bool false)),(4,.v (.int .i64 0))],h++[.cells (JO y)]):=by
 have k:=hv (h++[.cells (JO (0,0))]) (by simp;omega)
 have w1:Ak.wrap ((j:Int)+1)=((j+1:Nat):Int):=JD (by have:=(Ab.1 hc).1;omega)
 have w2:Ak.wrap (((j+1:Nat):Int)+1)=((j+2:Nat):Int):=JD (by have:=(Ab.1 hc).1;omega)
 have htw:((t.drop i).takeWhile Jn).length=r.length:=by rw[hr,JLg hrd]
 have hrl:1<=r.length:=by
  cases r with
  |nil=>exact absurd rfl hr0
  |cons _ _=>simp
 have hil2:i<=t.length:=om;have k152:=λh=>f113 (lo:=lo) (h:=h) hy hl hil2
 simp only[htw,hil]at k152;have t1:((t.length:Int)==(i:Int))=false:=by simp;omega
 have t2:((t.length:Int) !=(t.length:Int))=false:=by simp
 have hL:=JZy (lo:=lo) (h:=h) (neg:=neg) (ds:=d) (fr:=fr) (whole:=false) (down:=down) hy hl r i 0 (.v (.bool false)) hr hil hrd om om;obtain⟨x0,x1⟩:=qT r 0 hrd om om;generalize WQ 0 r=ee at*;simp only[JRw,YV,JJJ,zX,Tryz.f97,JG,JT,JC,go_sem,JO]at hL;simp only[JO]at k;rcases hi with⟨s,hs,hss,rfl,rfl⟩|⟨s,hs,hss,rfl,rfl⟩
 ·have hlt:decide (((j+1:Nat):Int)<(t.length:Int))=true:=by have:=(Ab.1 hs).1;simp;omega
  cases hdn:(s==45)with
  |true=>
   rw[hdn]at k hL;simp only[if_true]at k;have w3:Ak.wrap (0-ee)= -ee:=by rw[JL om om];omega
   have w4:Ak.wrap (-ee-fr)= -ee-fr:=by rw[JL om om]
   simp only[hdn,Bool.or_true]at hss
   simp only[go_sem,YV,zX,Tryz.f97,JZ,QU hy,hc,hce,w1,w2,hs,hss,hdn,hlt,k152,t1,t2,hL,w3,w4,k,hlo,JO]<;>rfl
  |false=>
   have h43:(s==43)=true:=by simpa[hdn]using hss
   rw[hdn]at k hL hss;simp only[As,if_false]at k;have w4:Ak.wrap (ee-fr)=ee-fr:=by rw[JL om om]
   simp only[go_sem,YV,zX,Tryz.f97,JZ,QU hy,hc,hce,w1,w2,hs,h43,hdn,hlt,k152,t1,t2,hL,w4,k,hlo,JO]<;>rfl
 ·have hlt:decide (((j+1:Nat):Int)<(t.length:Int))=true:=by have:=(Ab.1 hs).1;simp;omega
  simp only[As,if_false]at k;have w4:Ak.wrap (ee-fr)=ee-fr:=by rw[JL om om]
  simp only[go_sem,YV,zX,Tryz.f97,JZ,QU hy,hc,hce,w1,w2,hs,hss,hlt,k152,t1,t2,hL,w4,k,hlo,JO]<;>rfl
end
theorem JCB{r:List Int}(hr:∀c u,r=c::u->Jn c=false):∀{l:List Int},(∀c∈l,Jn c=true)->(l++r).takeWhile Jn=l
 |[],_=>by
  cases r with
  |nil=>rfl
  |cons c u=>rw[Af,Cd (by simp[hr c u rfl])]
 |c::t,h=>by rw[Ae,Ba (h c (by simp)),JCB hr λx hx=>h x (by simp[hx])]
theorem Wa{l:List Int}(h:l.all Jn=true):∀c∈l,Jn c=true:=λc hc=>List.all_eq_true.1 h c hc
def nmF(n:Nm):List Int:=if n.fr=[]then[]else 46::n.fr
def nmR(n:Nm):List Int:=n.ex++n.d3
theorem nm_text(n:Nm):n.text=n.sg++(n.d1++(nmF n++nmR n)):=by simp[Nm.text,nmF,nmR]
theorem JCC{n:Nm}(ok:n.Ok):∀c u,nmR n=c::u->Jn c=false/\(c=101\/c=69):=by
 intro c u h;unfold nmR at h;rcases ok.ex with⟨h1,h2⟩|⟨⟨e,he,h1|h1|h1⟩,h2⟩
 ·rw[h1,h2]at h;cases h
 all_goals
  rw[h1]at h;cases h;rcases he with rfl|rfl
  ·exact⟨rfl,.inl rfl⟩
  ·exact⟨rfl,.inr rfl⟩
theorem JJo{n:Nm}(ok:n.Ok):∀c u,nmF n++nmR n=c::u->Jn c=false:=by
 intro c u h;unfold nmF at h
 split at h
 ·exact(JCC ok c u h).1
 ·cases h;rfl
theorem JVk{n:Nm}(ok:n.Ok):By n.text:=by
 have dg:∀{l:List Int},l.all Jn=true->∀c∈l,0<=c/\c<=255:=λh c hc=>by have:=Wa h c hc;simp only[Jn,Ah,decide_eq_true_eq]at this;omega
 intro c hc;rw[nm_text,AW,AW,AW]at hc;rcases hc with hc|hc|hc|hc
 ·rcases ok.sg with h|h|h<;>rw[h]at hc<;>simp at hc<;>subst hc<;>decide
 ·exact dg ok.d1 c hc
 ·unfold nmF at hc
  split at hc
  ·cases hc
  ·rcases Bg.1 hc with rfl|hc
   ·decide
   ·exact dg ok.fr c hc
 ·unfold nmR at hc
  rcases AW.1 hc with hc|hc
  ·rcases ok.ex with⟨h1,h2⟩|⟨⟨e,he,h1|h1|h1⟩,h2⟩
   ·rw[h1]at hc;cases hc
   all_goals
    rw[h1]at hc;simp at hc;omega
  ·exact dg ok.d3 c hc
theorem JD7(w:Wr):qG w=JLe w.below w.digits (w.exp-w.behind):=rfl
theorem JRx{h:Heap}{x:Int×Int}{whole:Bool}:fin Aa [.cell 2 49,.tmp 3,.tmp 4] h.length (some (.ret,[(2,.ptr h.length 0),(3,.v (.bool whole)),(4,.v (.int .i64 0))],h++[.cells (JO x)]))=some (.tup [.agg (JO x),.v (.bool whole),.v (.int .i64 0)],h):=by simp only[go_sem,JO]<;>rfl
theorem f97{lo:Nat}{n:Nm}{h:Heap}(ok:n.Ok)(hl:n.text.length<=100000000000)(hlo:lo<=h.length):
  E lo 97 [.v (.string (bs n.text))] h=some (.tup [.agg (JO n.num.1),.v (.bool n.num.2),.v (.int .i64 0)],h):=by
 have hy:=JVk ok;have hT:=nm_text n;have hF:=JJo ok;have hRh:=JCC ok;obtain⟨k,hk⟩:∃k,n.sg.length=k:=⟨_,rfl⟩;obtain⟨j,hj⟩:∃j,k+n.d1.length=j:=⟨_,rfl⟩;obtain⟨m,hm⟩:∃m,j+(nmF n).length=m:=⟨_,rfl⟩;generalize n.text=t at*;have hlen:t.length=m+(nmR n).length:=by rw[hT];simp;omega
 have D1:t.drop k=n.d1++(nmF n++nmR n):=by rw[hT,<-hk,Ce]
 have D2:t.drop j=nmF n++nmR n:=by rw[<-hj,<-AC,D1,Ce]
 have D3:t.drop m=nmR n:=by rw[<-hm,<-AC,D2,Ce]
 have at_:∀i,t[i]? =(t.drop i)[0]? :=λi=>by simp
 have hd1:=Wa ok.d1;have hfr:=Wa ok.fr;have hd3:=Wa ok.d3
 have ht0:(∃c,t[0]? =some c/\(c==43)=false/\(c==45)=false/\k=0/\(n.sg==[45])=false)\/(t[0]? =some 43/\k=1/\(n.sg==[45])=false)\/(t[0]? =some 45/\k=1/\(n.sg==[45])=true):=by
  rcases ok.sg with hs|hs|hs
  ·left
   rw[hs]at hk hT⊢;rw[Af]at hT
   cases hd:n.d1 with
   |cons c u=>
    have hc:=hd1 c (by rw[hd];simp)
    simp only[Jn,Ah,decide_eq_true_eq]at hc
    exact⟨c,by rw[hT,hd];rfl,by simp;omega,by simp;omega,hk.symm,rfl⟩
   |nil=>
    have hne:n.fr≠[]:=λh=>ok.some (by rw[hd,h];rfl)
    exact⟨46,by rw[hT,hd];unfold nmF;rw[if_neg hne];rfl,rfl,rfl,hk.symm,rfl⟩
  ·exact .inr (.inl ⟨by rw[hT,hs];rfl,by rw[<-hk,hs];rfl,by rw[hs];rfl⟩)
  ·exact .inr (.inr ⟨by rw[hT,hs];rfl,by rw[<-hk,hs];rfl,by rw[hs];rfl⟩)
 obtain⟨x,hA⟩:=Jfl (lo:=lo) (h:=h) (neg:=n.sg==[45]) hy hl hlo ht0;rw[e97,pc_in,pc_go _ _ _ _ 0 4,hA,pc_go _ _ _ _ _ 4];have htw:((t.drop k).takeWhile Jn).length=n.d1.length:=by rw[D1,JCB hF hd1]
 have hex1:(t.take j).drop k=n.d1:=by rw[<-hj,<-D8,D1,Cf]
 rw[Jfm (pt:= !n.fr.isEmpty) hy hl om om om hex1 (by
  cases hfe:n.fr with
  |cons c u=>exact .inl ⟨46,by rw[at_,D2];unfold nmF;rw[hfe];rfl,rfl⟩
  |nil=>
   cases hr:nmR n with
   |nil=>exact .inr ⟨by rw[hlen,hr,<-hm];unfold nmF;rw[hfe];simp,rfl⟩
   |cons c u=>
    refine .inl ⟨c,by rw[at_,D2,hr];unfold nmF;rw[hfe];rfl,?_⟩
    rcases(hRh c u hr).2 with rfl|rfl<;>rfl)]
 rw[pc_go _ _ _ _ _ 1]
 have hB:∃y,QM (YV lo h) JA (pc zX 8 1) ([(0,.v (.string (bs t))),(2,.ptr h.length 0),(5,.v (.int .i64 j)),(6,.v (.bool (n.sg==[45]))),(8,.v (.string (bs n.d1))),(9,.v (.int .i64 0)),(10,.v (.bool true)),(52,.v (.bool (!n.fr.isEmpty)))],h++[.cells (JO (0,0))])=
   some (.normal,[(0,.v (.string (bs t))),(2,.ptr h.length 0),(5,.v (.int .i64 m)),(6,.v (.bool (n.sg==[45]))),(8,.v (.string (bs (n.d1++n.fr)))),(9,.v (.int .i64 n.fr.length)),(10,.v (.bool n.fr.isEmpty)),(52,y)],h++[.cells (JO (0,0))]):=by
  cases hfe:n.fr with
  |nil=>
   have:m=j:=by rw[<-hm];unfold nmF;rw[hfe];simp
   subst this;refine⟨.v (.bool false),?_⟩
   rw[Aq]
   exact JZz
  |cons c u=>
   have hnF:nmF n=46::n.fr:=by unfold nmF;rw[if_neg (by simp[hfe])]
   have D2':t.drop (j+1)=n.fr++nmR n:=by rw[<-AC,D2,hnF];rfl
   have hm':m=j+1+n.fr.length:=by rw[<-hm,hnF];simp;omega
   have h1:((t.drop (j+1)).takeWhile Jn).length=n.fr.length:=by rw[D2',JCB (λc u h=>(hRh c u h).1) hfr]
   have h2:(t.take m).drop (j+1)=n.fr:=by rw[hm',<-D8,D2',Cf]
   have hpos:0<n.fr.length:=by rw[hfe];simp
   refine⟨.undef,?_⟩
   have:=JZ0 (lo:=lo) (h:=h) (neg:=n.sg==[45]) (j:=j) (n:=m) (d:=n.d1) (f:=n.fr) hy hl om om om om om h2;rw[<-hfe];simpa[hfe]using this
 obtain⟨y,hB⟩:=hB;rw[hB,pc_go _ _ _ _ _ 4];have hne:n.d1++n.fr≠[]:=ok.some
 have hall:∀c∈n.d1++n.fr,Jn c=true:=λc hc=>by
  rcases AW.1 hc with hc|hc
  ·exact hd1 c hc
  ·exact hfr c hc
 have hfl:n.fr.length<=(nmF n).length:=by unfold nmF;split<;>simp_all
 have hsz:(n.d1++n.fr).length<=100000000000:=by simp;omega
 rcases ok.ex with⟨h1,h2⟩|⟨⟨e,he,hx⟩,h2⟩
 ·have hr:nmR n=[]:=by unfold nmR;rw[h1,h2];rfl
  rw[JVj (more:=false) hne (by rw[hlen,hr];simp),pc_go _ _ _ _ _ 3]
  have hq:n.num=(JLe (n.sg==[45]) (n.d1++n.fr) (-(n.fr.length:Int)),n.fr.isEmpty):=by unfold Nm.num;rw[JD7];simp[Nm.wr,h1,h2,chr,WQ]
  rw[hq,JZ1 (y:=JLe (n.sg==[45]) (n.d1++n.fr) (-(n.fr.length:Int))) hlo (by rw[JL om om];omega) (λh hh=>f115 hall hsz om om hh),Qw]
  exact JRx
 ·have hd3l:0<n.d3.length:=by
   cases hd:n.d3 with
   |nil=>exact absurd hd h2
   |cons _ _=>simp
  obtain⟨s3,u3,hs3⟩:∃s u,n.d3=s::u:=by
   cases hd:n.d3 with
   |nil=>exact absurd hd h2
   |cons s u=>exact⟨s,u,rfl⟩
  have hs3d:=hd3 s3 (by rw[hs3];simp)
  simp only[Jn,Ah,decide_eq_true_eq]at hs3d;have hexl:n.ex≠[]:=by rcases hx with h|h|h<;>rw[h]<;>simp
  have hrl:(nmR n).length=n.ex.length+n.d3.length:=by simp[nmR]
  have hxl:0<n.ex.length:=by rcases hx with h|h|h<;>rw[h]<;>simp
  rw[JVj (more:=true) hne (by rw[hlen];simp;omega),pc_go _ _ _ _ _ 3]
  have hce:(e !=101&&e !=69)=false:=by rcases he with rfl|rfl<;>rfl
  obtain⟨x0,x1⟩:=qT n.d3 0 hd3 om om
  have hq:n.num=(JLe (n.sg==[45]) (n.d1++n.fr) ((if(chr n.ex 1==45)=true then-WQ 0 n.d3 else WQ 0 n.d3)-(n.fr.length:Int)),false):=by
   unfold Nm.num;rw[JD7];have:n.ex.isEmpty=false:=by rcases hx with h|h|h<;>rw[h]<;>rfl
   simp[Nm.wr,this]
  have hat0:t[m]? =some e:=by rw[at_,D3];unfold nmR;rcases hx with h|h|h<;>rw[h]<;>rfl
  have D3':t.drop (m+n.ex.length)=n.d3:=by rw[<-AC,D3];unfold nmR;rw[Ce]
  have hi:(∃s,t[m+1]? =some s/\(s==43||s==45)=true/\m+n.ex.length=m+2/\(chr n.ex 1==45)=(s==45))\/(∃s,t[m+1]? =some s/\(s==43||s==45)=false/\m+n.ex.length=m+1/\(chr n.ex 1==45)=false):=by
   have a1:t[m+1]? =(nmR n)[1]? :=by rw[<-D3];simp
   rw[a1];unfold nmR;rcases hx with h|h|h
   ·right
    rw[h,hs3];refine⟨s3,rfl,?_,rfl,rfl⟩
    simp;omega
   ·left;rw[h];exact⟨43,rfl,rfl,rfl,rfl⟩
   ·left;rw[h];exact⟨45,rfl,rfl,rfl,rfl⟩
  rw[hq,JZ2 (y:=JLe (n.sg==[45]) (n.d1++n.fr) ((if(chr n.ex 1==45)=true then-WQ 0 n.d3 else WQ 0 n.d3)-(n.fr.length:Int))) hy hl hlo hat0 hce hi D3' hd3 h2 (by rw[hlen,hrl];omega) om om (λh hh=>f115 hall hsz (by split<;>omega) (by split<;>omega) hh),Qw]
  exact JRx
def Asc(l:List Int):Prop:=∀c∈l,0<=c/\c<128
theorem JJp{c:Int}(h:0<=c/\c<128):KQ c=c:=by unfold KQ;rw[if_neg];simp;omega
theorem qU{x c:Int}(h:KQ x=c)(hc:c<128):x=c:=by
 unfold KQ at h
 split at h
 ·omega
 ·exact h
theorem JJq:∀{l:List Int},Asc l->Q2 l=l
 |[],_=>rfl
 |c::t,h=>by
  have hc:=h c (by simp)
  have e:Q2 (c::t)=enc (KQ c)++Q2 t:=rfl;rw[e,JJq λx hx=>h x (by simp[hx]),JJp hc]
  unfold enc;simp[hc.2]
theorem JMl:∀{l t:List Int},l.map KQ=t->Asc t->l=t
 |[],t,h,_=>by simpa using h
 |x::l,[],h,_=>by simp at h
 |x::l,c::t,h,ha=>by simp only[AU,List.cons.injEq]at h;rw[qU h.1 (ha c (by simp)).2,JMl h.2 λy hy=>ha y (by simp[hy])]
theorem JRy{n:Nm}(ok:n.Ok):Asc n.text:=by
 have dg:∀{l:List Int},l.all Jn=true->∀c∈l,0<=c/\c<128:=λh c hc=>by have:=Wa h c hc;simp only[Jn,Ah,decide_eq_true_eq]at this;omega
 intro c hc;rw[nm_text,AW,AW,AW]at hc;rcases hc with hc|hc|hc|hc
 ·rcases ok.sg with h|h|h<;>rw[h]at hc<;>simp at hc<;>subst hc<;>decide
 ·exact dg ok.d1 c hc
 ·unfold nmF at hc
  split at hc
  ·cases hc
  ·rcases Bg.1 hc with rfl|hc
   ·decide
   ·exact dg ok.fr c hc
 ·unfold nmR at hc
  rcases AW.1 hc with hc|hc
  ·rcases ok.ex with⟨h1,h2⟩|⟨⟨e,he,h1|h1|h1⟩,h2⟩
   ·rw[h1]at hc;cases hc
   all_goals
    rw[h1]at hc;simp at hc;omega
  ·exact dg ok.d3 c hc
theorem JMm{l t:List Int}{i j:Nat}(hij:i<=j)(hj:j<=l.length)(hs:suf l i=t++suf l j)(ha:Asc t):(l.take j).drop i=t:=by
 have hlen:=congrArg List.length hs;rw[An,Jv,Jv]at hlen;refine JMl ?_ ha
 rw[Ds,Dr]
 have h1:((l.map KQ).take j).drop i=(suf l i).take (j-i):=by unfold suf;rw[List.drop_take]
 rw[h1,hs];have h2:j-i=t.length:=om;rw[h2,Cf]
theorem JG7(k:IntKind)(l:List Int)(a b:Nat):((ri k l).take b).drop a=ri k ((l.take b).drop a):=by simp[ri,Ds,Dr]
def tkC(t:Tk):List V:=[.v (.int .i64 t.kind),.v (.string (str t.text)),.v (.int .i64 t.num.1),.v (.int .i64 t.num.2),.v (.bool t.whole),.v (.bool t.id)]
section
variable{lo i j:Nat}{l:List Int}{p q:List Ob}
noncomputable abbrev Y5(lo:Nat)(p q:List Ob):Cx:=⟨Aa,E,lo,p.length+(q.length+1),h78⟩
abbrev H80(p q:List Ob)(l:List Int)(j:Nat)(more:List Ob):Heap:=p++R l j::(q++(.cells (tokC 0 [])::more))
abbrev P80(p q:List Ob)(l:List Int)(i j:Nat)(ex:Ja):Ja×Heap:=
 ((0,.ptr p.length 0)::(2,.ptr (p.length+(q.length+1)) 0)::(3,.v (.int .i64 i))::ex,H80 p q l j [])
theorem Jmj(hl:l.length<=100000000000)(hi:i<=l.length):∃j,j<=l.length/\i<=j/\suf l j=(if(chr (suf l i) 0==43||chr (suf l i) 0==45)=true then(suf l i).drop 1 else suf l i)/\
  ∃x,∀lo p q,lo<=p.length->QM (Y5 lo p q) JA (pc zq 0 5) (K2 [.ptr p.length 0],p++R l i::q)=some (.normal,P80 p q l i j [(23,x)]):=by
 have k0:=λlo p q=>f43 (lo:=lo) (l:=l) (i:=i) (p:=p) (q:=q) (k:=0) om
 have hw:=JD (i:=i) om;simp only[n0]at k0;generalize hc:chr (suf l i) 0=c at*;by_cases hs:(c==43||c==45)=true
 ·have hne:i<l.length:=by
   rcases Ax i l.length with h|h
   ·exact h
   ·rw[JV h]at hc
    rw[<-hc]at hs;exact absurd hs (by decide)
  rw[if_pos hs];refine⟨i+1,om,om,by simp[suf,AC],?_⟩
  cases h43:(c==43)with
  |true=>
   refine⟨.v (.bool true),λlo p q hlo=>?_⟩
   simp only[go_sem,Y5,P80,H80,zq,Tryz.f78,k0,h43,hw,hlo,tokC,str_nil]<;>rfl
  |false=>
   have h45:(c==45)=true:=by simpa[h43]using hs
   refine⟨.v (.bool true),λlo p q hlo=>?_⟩
   simp only[go_sem,Y5,P80,H80,zq,Tryz.f78,k0,h43,h45,hw,hlo,tokC,str_nil]<;>rfl
 ·rw[if_neg hs]
  have h43:(c==43)=false:=by simp at hs⊢;omega
  have h45:(c==45)=false:=by simp at hs⊢;omega
  refine⟨i,hi,Ac _,rfl,.v (.bool false),λlo p q hlo=>?_⟩
  simp only[go_sem,Y5,P80,H80,zq,Tryz.f78,k0,h43,h45,hw,hlo,tokC,str_nil]<;>rfl
theorem Jmk{x:V}(hl:l.length<=100000000000)(hj:j<=l.length):∃j',j'<=l.length/\j<=j'/\
  suf l j'=(if(chr ((suf l j).dropWhile Jn) 0==46&&Jn (chr ((suf l j).dropWhile Jn) 1))=true then(((suf l j).dropWhile Jn).drop 1).dropWhile Jn else(suf l j).dropWhile Jn)/\
  ∃y,∀lo p q (i:Nat),lo<=p.length->QM (Y5 lo p q) JA (pc zq 5 3) (P80 p q l i j [(23,x)])=some (.normal,P80 p q l i j' [(40,y)]):=by
 obtain⟨j1,a1,a2,a3,a4⟩:=f96 (l:=l) (i:=j) hl hj;have k0:=λlo p q=>f43 (lo:=lo) (l:=l) (i:=j1) (p:=p) (q:=q) (k:=0) om
 have k1:=λlo p q=>f43 (lo:=lo) (l:=l) (i:=j1) (p:=p) (q:=q) (k:=1) om
 have hw:=JD (i:=j1) om;have n1:((1:Nat):Int)=1:=rfl;simp only[n0,n1]at k0 k1;rw[<-a3];by_cases hf:(chr (suf l j1) 0==46&&Jn (chr (suf l j1) 1))=true
 ·rw[if_pos hf]
  rw[Ah]at hf;obtain⟨h46,hd⟩:=hf
  have hne:j1<l.length:=by
   rcases Ax j1 l.length with h|h
   ·exact h
   ·rw[JV h]at h46
    exact absurd h46 (by decide)
  obtain⟨j2,b1,b2,b3,b4⟩:=f96 (l:=l) (i:=j1+1) hl om;refine⟨j2,b1,om,by rw[b3];simp[suf,AC],.undef,λlo p q i hlo=>?_⟩
  simp only[go_sem,Y5,P80,H80,zq,Tryz.f78,a4 _ _ _ hlo,k0,k1,f95,h46,hd,hw,hlo,b4 _ _ _ hlo,tokC,str_nil]<;>rfl
 ·rw[if_neg hf]
  refine⟨j1,a1,a2,rfl,.v (.bool false),λlo p q i hlo=>?_⟩
  cases h46:(chr (suf l j1) 0==46)with
  |true=>
   have hd:Jn (chr (suf l j1) 1)=false:=by simpa[h46]using hf
   simp only[go_sem,Y5,P80,H80,zq,Tryz.f78,a4 _ _ _ hlo,k0,k1,f95,h46,hd,tokC,str_nil]<;>rfl
  |false=>simp only[go_sem,Y5,P80,H80,zq,Tryz.f78,a4 _ _ _ hlo,k0,k1,f95,h46,tokC,str_nil]<;>rfl
theorem Jml{x:V}(hl:l.length<=100000000000)(hj:j<=l.length):∃j',j'<=l.length/\j<=j'/\
  suf l j'=(if((chr (suf l j) 0==101||chr (suf l j) 0==69)&&Jn (chr (suf l j) (if(chr (suf l j) 1==43||chr (suf l j) 1==45)=true then 2 else 1)))=true
   then((suf l j).drop (if(chr (suf l j) 1==43||chr (suf l j) 1==45)=true then 2 else 1)).dropWhile Jn else suf l j)/\
  ∃ex:Ja,((∃x,ex=[(57,x)])\/ ∃x y,ex=[(6,x),(69,y)])/\ ∀lo p q (i:Nat),lo<=p.length->QM (Y5 lo p q) JA (pc zq 8 3) (P80 p q l i j [(40,x)])=some (.normal,P80 p q l i j' ex):=by
 have k0:=λlo p q=>f43 (lo:=lo) (l:=l) (i:=j) (p:=p) (q:=q) (k:=0) om
 have k1:=λlo p q=>f43 (lo:=lo) (l:=l) (i:=j) (p:=p) (q:=q) (k:=1) om
 have k2:=λlo p q=>f43 (lo:=lo) (l:=l) (i:=j) (p:=p) (q:=q) (k:=2) om
 have hw1:=JD (i:=j) om;have hw2:Ak.wrap ((j:Int)+2)=((j+2:Nat):Int):=by rw[JL om om];omega
 have n1:((1:Nat):Int)=1:=rfl;have n2:((2:Nat):Int)=2:=rfl;simp only[n0,n1,n2]at k0 k1 k2;have hlen:=Jv l j;by_cases he:(chr (suf l j) 0==101||chr (suf l j) 0==69)=true
 rotate_left
 ·rw[BU]at he
  rw[he,Bool.false_and,if_neg (by simp)]
  rw[B2]at he;obtain⟨h1,h2⟩:=he;refine⟨j,hj,Ac _,rfl,[(57,.v (.bool false))],.inl ⟨_,rfl⟩,λlo p q i hlo=>?_⟩
  simp only[go_sem,Y5,P80,H80,zq,Tryz.f78,k0,h1,h2,tokC,str_nil]<;>rfl
 rw[he,Bool.true_and];by_cases hs:(chr (suf l j) 1==43||chr (suf l j) 1==45)=true
 ·rw[if_pos hs]
  by_cases hd:Jn (chr (suf l j) 2)=true
  ·rw[if_pos hd]
   have hne:j+2<=l.length:=by
    rcases Ax (j+1) l.length with h|h
    ·omega
    ·exfalso
     have:chr (suf l j) 1= -1:=by simp only[chr];rw[Bi om]
     rw[this]at hs;exact absurd hs (by decide)
   obtain⟨j2,b1,b2,b3,b4⟩:=f96 (l:=l) (i:=j+2) hl om;refine⟨j2,b1,om,by rw[b3];simp[suf,AC],[(57,.undef)],.inl ⟨_,rfl⟩,λlo p q i hlo=>?_⟩
   cases h1:(chr (suf l j) 0==101)<;>cases h43:(chr (suf l j) 1==43)<;>simp only[h1,h43,Br,Cb]at he hs<;>
    simp only[go_sem,Y5,P80,H80,zq,Tryz.f78,k0,k1,k2,f95,h1,he,h43,hs,hd,hw2,hlo,b4 _ _ _ hlo,tokC,str_nil]<;>rfl
  ·rw[if_neg hd]
   rw[BU]at hd;refine⟨j,hj,Ac _,rfl,[(6,.v (.int .i64 2)),(69,.v (.bool false))],.inr ⟨_,_,rfl⟩,λlo p q i hlo=>?_⟩
   cases h1:(chr (suf l j) 0==101)<;>cases h43:(chr (suf l j) 1==43)<;>simp only[h1,h43,Br,Cb]at he hs<;>
    simp only[go_sem,Y5,P80,H80,zq,Tryz.f78,k0,k1,k2,f95,h1,he,h43,hs,hd,tokC,str_nil]<;>rfl
 ·rw[if_neg hs]
  rw[BU,B2]at hs;obtain⟨h43,h45⟩:=hs;by_cases hd:Jn (chr (suf l j) 1)=true
  ·rw[if_pos hd]
   have hne:j+1<=l.length:=by
    rcases Ax j l.length with h|h
    ·omega
    ·exfalso
     rw[JV h]at he;exact absurd he (by decide)
   obtain⟨j2,b1,b2,b3,b4⟩:=f96 (l:=l) (i:=j+1) hl om;refine⟨j2,b1,om,by rw[b3];simp[suf,AC],[(57,.undef)],.inl ⟨_,rfl⟩,λlo p q i hlo=>?_⟩
   cases h1:(chr (suf l j) 0==101)<;>simp only[h1,Br,Cb]at he<;>
    simp only[go_sem,Y5,P80,H80,zq,Tryz.f78,k0,k1,k2,f95,h1,he,h43,h45,hd,hw1,hlo,b4 _ _ _ hlo,tokC,str_nil]<;>rfl
  ·rw[if_neg hd]
   rw[BU]at hd;refine⟨j,hj,Ac _,rfl,[(6,.v (.int .i64 1)),(69,.v (.bool false))],.inr ⟨_,_,rfl⟩,λlo p q i hlo=>?_⟩
   cases h1:(chr (suf l j) 0==101)<;>simp only[h1,Br,Cb]at he<;>
    simp only[go_sem,Y5,P80,H80,zq,Tryz.f78,k0,k1,k2,f95,h1,he,h43,h45,hd,tokC,str_nil]<;>rfl
end
end Go.Lift.W1.T
end
