/- The reference's reader of characters: urls. -/
import Derived.Test.YtppjlemmgpnliaaGreatDoorGLd
import Derived.Test.YtppjlemmgpnliaaGreatDoorGKb
import Derived.Test.YtppjlemmgpnliaaGreatDoorGKh
open Bool renaming and_eq_true->Af,false_eq_true->Am,false_or->Bb,not_eq_true->CS,or_eq_false_iff->C6,or_eq_true->A7,true_or->B1
open ByteArray renaming data_extract->Ls,empty->AA,ext->DQ,size->Lx
open Go.IntKind renaming i64->Aq,u64->AJ,u8->AO
open Go.Proofs.Tryz renaming prog->Aa
open Go.Value renaming int->AQ
open Int renaming pow_add->La,pow_succ->Bc,tdiv_eq_ediv_of_nonneg->BN,tmod_eq_emod_of_nonneg->BC
open List renaming cons_append->Al,dropWhile_cons_of_neg->Br,dropWhile_cons_of_pos->BM,dropWhile_sublist->Cp,drop_drop->AV,drop_eq_nil_of_le->Bo,drop_left->CF,getElem?_eq_getElem->Ac,getElem?_eq_none->Bv,getElem?_eq_some_iff->Ad,length->AW,length_append->Ah,length_cons->Ae,length_drop->Ay,length_take->AM,map_drop->DP,map_take->DO,mem_append->AN,mem_cons->A2,mem_of_getElem? ->Ar,nil_append->Ai,reverse_cons->BS,takeWhile_append_dropWhile->Co,takeWhile_cons_of_neg->CC,takeWhile_cons_of_pos->Bl,take_drop->GF,take_left->CR
open Nat renaming le_refl->Ab,lt_or_ge->AG,zero_add->AE
open UInt8 renaming ofNat->Bh,toNat_ofNat'->BU
set_option linter.unusedVariables false
set_option linter.unusedSimpArgs false
set_option linter.unusedSectionVars false
set_option maxRecDepth 20000
set_option maxHeartbeats 4000000
section
open Go.Proofs
namespace Go.Lift.M1.T
variable[MX]
open Utf Tok
section
variable{lo i:Nat}{l:List Int}{p q:List Ob}
abbrev JH8(p q:List Ob)(l:List Int)(i:Nat)(out:List Int)(ex:Jj):Jj×JC:=
 ((0,.ptr p.length 0)::(2,.ptr (p.length+(q.length+1)) 0)::(3,.list .yes (ri .i32 out))::ex,p++R l i::(q++[.cells (tokC 0 [])]))
def Za(out:List Int)(x:Bool×List Int×List Int):List V:=if x.1=true then tokC 7 (out++x.2.1)else tokC 8 []
theorem JcW(hl:l.length<=100000000000):∀(m i:Nat) (out:List Int),(suf l i).length<=m->i<=l.length->out.length<=i->
  ∃j,j<=l.length+2/\i<=j/\suf l j=(QU m (suf l i)).2.2/\
   ∀lo (p q:List Ob) (ex:Jj),(ex=[]\/ ∃b,ex=[(49,.v (.bool b))])->lo<=p.length->lo<=p.length+(q.length+1)->
   JA (evCode ⟨Aa,E,lo,p.length+(q.length+1),h93⟩ JA K3) (JH8 p q l i out ex)=
    some (.ret,[(2,.ptr (p.length+(q.length+1)) 0)],p++R l j::(q++[.cells (Za out (QU m (suf l i)))])):=by
 have stop:∀(m i:Nat) (out:List Int),(suf l i=[]\/ ∃t,suf l i=41::t)->i<=l.length->out.length<=i->
  ∃j,j<=l.length+2/\i<=j/\suf l j=(suf l i).drop 1/\
   ∀lo (p q:List Ob) (ex:Jj),(ex=[]\/ ∃b,ex=[(49,.v (.bool b))])->lo<=p.length->lo<=p.length+(q.length+1)->
   JA (evCode ⟨Aa,E,lo,p.length+(q.length+1),h93⟩ JA K3) (JH8 p q l i out ex)=
    some (.ret,[(2,.ptr (p.length+(q.length+1)) 0)],p++R l j::(q++[.cells (tokC 7 out)])):=by
  intro m i out hs h2 h3;have k0:=λlo p q=>f35 (lo:=lo) (l:=l) (i:=i) (p:=p) (q:=q) (k:=0) om
  have kf:=λlo h=>f64 (lo:=lo) (l:=out) (h:=h) om
  have hwi:=JH (i:=i) om;simp only[n0]at k0;refine⟨i+1,om,om,by simp[suf,AV],λlo p q ex hex hlo hlo2=>?_⟩
  rw[loop_eq];rcases hs with hs|⟨t,hs⟩
  ·have t1:((-1:Int)== -1)=true:=rfl
   rw[hs,QJ]at k0;rcases hex with rfl|⟨b,rfl⟩
   ·simp only[go_sem,K3,y8,Tryz.f93,k0,kf,t1,hlo,hlo2,hwi,tokC]<;>rfl
   ·simp only[go_sem,K3,y8,Tryz.f93,k0,kf,t1,hlo,hlo2,hwi,tokC]<;>rfl
  ·have t0:((41:Int)== -1)=false:=rfl
   have t1:((41:Int)==41)=true:=rfl;rw[hs,jH]at k0;rcases hex with rfl|⟨b,rfl⟩
   ·simp only[go_sem,K3,y8,Tryz.f93,k0,kf,t0,t1,hlo,hlo2,hwi,tokC]<;>rfl
   ·simp only[go_sem,K3,y8,Tryz.f93,k0,kf,t0,t1,hlo,hlo2,hwi,tokC]<;>rfl
 intro m
 induction m with
 |zero=>
  intro i out h1 h2 h3;have hs:suf l i=[]:=List.eq_nil_of_length_eq_zero om;obtain⟨j,j1,j2,j3,j4⟩:=stop 0 i out (.inl hs) h2 h3;refine⟨j,j1,j2,by rw[j3,hs]<;>rfl,λlo p q ex hex hlo hlo2=>?_⟩
  rw[j4 lo p q ex hex hlo hlo2,hs]
  simp[Za,QU]
 |succ m ih=>
  intro i out h1 h2 h3;rcases AG i l.length with hi|hi
  rotate_left
  ·have hs:suf l i=[]:=Jz hi
   obtain⟨j,j1,j2,j3,j4⟩:=stop 0 i out (.inl hs) h2 h3;refine⟨j,j1,j2,by rw[j3,hs]<;>rfl,λlo p q ex hex hlo hlo2=>?_⟩
   rw[j4 lo p q ex hex hlo hlo2,hs];simp[Za,QU]
  have hcp:=Yk hi;have k0:=λlo p q=>f35 (lo:=lo) (l:=l) (i:=i) (p:=p) (q:=q) (k:=0) om
  have k1:=λlo p q=>f35 (lo:=lo) (l:=l) (i:=i) (p:=p) (q:=q) (k:=1) om
  have hr:∀k,k<=4->(out.length+k)*4<=140737488355328:=by intro k hk;omega
  have hq:∀k,9223372036854775800<=k->out.length<=k:=by intro k hk;omega
  have app:∀y:Int,ri .i32 out++[[V.v (.int .i32 y)]]=ri .i32 (out++[y]):=by intro y;rw[<-ri_app]<;>rfl
  have hw1:=JH (i:=i) om;have n1:((1:Nat):Int)=1:=rfl;simp only[n0,n1]at k0 k1;have hs:=KK hi;have hs0:=hs;have hn:chr (suf l i) 1=chr (suf l (i+1)) 0:=by rw[hs];exact ZY _ _ 0
  rw[hn]at k1;generalize chr (suf l i) 0=c at hs k0 hcp;have te:(c== -1)=false:=by simp;omega
  by_cases c41:c=41
  ·subst c41
   obtain⟨j,j1,j2,j3,j4⟩:=stop 0 i out (.inr ⟨_,hs⟩) h2 h3;have e:QU (m+1) (41::suf l (i+1))=(true,[],suf l (i+1)):=by simp[QU]
   refine⟨j,j1,j2,by rw[j3,hs,e]<;>rfl,λlo p q ex hex hlo hlo2=>?_⟩
   rw[j4 lo p q ex hex hlo hlo2,hs,e];simp[Za]
  have t41:(c==41)=false:=by simp[c41]
  cases hb:blk c with
  |true=>
   obtain⟨j0,a1,a2,a3,a4⟩:=f55 (l:=l) (i:=i) hl h2;have hbl:K5 (suf l i)=K5 (suf l (i+1)):=by rw[hs];exact BM hb
   have kj:=λlo p q=>f35 (lo:=lo) (l:=l) (i:=j0) (p:=p) (q:=q) (k:=0) om
   simp only[n0]at kj;by_cases hend:chr (suf l j0) 0= -1\/chr (suf l j0) 0=41
   ·have hs2:suf l j0=[]\/ ∃t,suf l j0=41::t:=by
     rcases AG j0 l.length with h|h
     ·have h4:=KK h
      have h5:=Yk h;rcases hend with h6|h6
      ·omega
      ·rw[h6]at h4;exact .inr ⟨_,h4⟩
     ·exact .inl (Jz h)
    obtain⟨j,j1,j2,j3,j4⟩:=stop 0 j0 out hs2 a1 om
    have e:QU (m+1) (suf l i)=(true,[],(suf l j0).drop 1):=by rw[hs,a3,hbl]at*;simp only[QU];rw[if_neg c41,if_pos hb,if_pos hend]
    refine⟨j,j1,om,by rw[j3,e],λlo p q ex hex hlo hlo2=>?_⟩
    have er:evCode ⟨Aa,E,lo,p.length+(q.length+1),h93⟩ JA K3 (JH8 p q l i out ex)=some (.normal,JH8 p q l j0 out [(49,.v (.bool false))]):=by
     rcases hend with h6|h6
     ·have u0:(chr (suf l j0) 0 != -1)=false:=by simp[h6]
      rcases hex with rfl|⟨b,rfl⟩
      ·simp only[go_sem,K3,y8,Tryz.f93,k0,f54,te,t41,hb,a4 _ _ _ hlo,kj,u0,tokC]<;>rfl
      ·simp only[go_sem,K3,y8,Tryz.f93,k0,f54,te,t41,hb,a4 _ _ _ hlo,kj,u0,tokC]<;>rfl
     ·have u0:(chr (suf l j0) 0 != -1)=true:=by simp[h6]
      have u1:(chr (suf l j0) 0 !=41)=false:=by simp[h6]
      rcases hex with rfl|⟨b,rfl⟩
      ·simp only[go_sem,K3,y8,Tryz.f93,k0,f54,te,t41,hb,a4 _ _ _ hlo,kj,u0,u1,tokC]<;>rfl
      ·simp only[go_sem,K3,y8,Tryz.f93,k0,f54,te,t41,hb,a4 _ _ _ hlo,kj,u0,u1,tokC]<;>rfl
    rw[loop_eq,er,JK,j4 lo p q _ (.inr ⟨_,rfl⟩) hlo hlo2,e];simp[Za]
   ·obtain⟨j,j1,j2,j3,j4⟩:=f118 (l:=l) (i:=j0) hl a1
    have e:QU (m+1) (suf l i)=(false,[],JCC (suf l j0)):=by rw[hs,a3,hbl]at*;simp only[QU];rw[if_neg c41,if_pos hb,if_neg hend]
    refine⟨j,j1,om,by rw[j3,e],λlo p q ex hex hlo hlo2=>?_⟩
    have u0:(chr (suf l j0) 0 != -1)=true:=by simp;exact λh=>hend (.inl h)
    have u1:(chr (suf l j0) 0 !=41)=true:=by simp;exact λh=>hend (.inr h)
    rw[loop_eq,e];rcases hex with rfl|⟨b,rfl⟩
    ·simp only[go_sem,K3,y8,Tryz.f93,k0,f54,te,t41,hb,a4 _ _ _ hlo,kj,u0,u1,j4 _ _ _ hlo,hlo2,Za,tokC]<;>rfl
    ·simp only[go_sem,K3,y8,Tryz.f93,k0,f54,te,t41,hb,a4 _ _ _ hlo,kj,u0,u1,j4 _ _ _ hlo,hlo2,Za,tokC]<;>rfl
  |false=>
   by_cases hq1:(quo c||c==40||unp c)=true
   ·obtain⟨j,j1,j2,j3,j4⟩:=f118 (l:=l) (i:=i) hl h2
    have e:QU (m+1) (suf l i)=(false,[],JCC (suf l i)):=by rw[hs];simp only[QU];rw[if_neg c41,if_neg (by simp[hb]),if_pos hq1]
    refine⟨j,j1,om,by rw[j3,e],λlo p q ex hex hlo hlo2=>?_⟩
    have hcase:(c==34)=true\/((c==34)=false/\((c==39)=true\/((c==39)=false/\((c==40)=true\/((c==40)=false/\unp c=true))))):=by
     simp only[quo,A7]at hq1;cases a1:(c==34)<;>cases a2:(c==39)<;>cases a3:(c==40)<;>simp[a1,a2,a3]at hq1⊢
     exact hq1
    rw[loop_eq,e];rcases hcase with u1|⟨u1,u2|⟨u2,u3|⟨u3,u4⟩⟩⟩
    ·rcases hex with rfl|⟨b,rfl⟩
     ·simp only[go_sem,K3,y8,Tryz.f93,k0,f54,te,t41,hb,u1,j4 _ _ _ hlo,hlo2,Za,tokC]<;>rfl
     ·simp only[go_sem,K3,y8,Tryz.f93,k0,f54,te,t41,hb,u1,j4 _ _ _ hlo,hlo2,Za,tokC]<;>rfl
    ·rcases hex with rfl|⟨b,rfl⟩
     ·simp only[go_sem,K3,y8,Tryz.f93,k0,f54,te,t41,hb,u1,u2,j4 _ _ _ hlo,hlo2,Za,tokC]<;>rfl
     ·simp only[go_sem,K3,y8,Tryz.f93,k0,f54,te,t41,hb,u1,u2,j4 _ _ _ hlo,hlo2,Za,tokC]<;>rfl
    ·rcases hex with rfl|⟨b,rfl⟩
     ·simp only[go_sem,K3,y8,Tryz.f93,k0,f54,te,t41,hb,u1,u2,u3,j4 _ _ _ hlo,hlo2,Za,tokC]<;>rfl
     ·simp only[go_sem,K3,y8,Tryz.f93,k0,f54,te,t41,hb,u1,u2,u3,j4 _ _ _ hlo,hlo2,Za,tokC]<;>rfl
    ·rcases hex with rfl|⟨b,rfl⟩
     ·simp only[go_sem,K3,y8,Tryz.f93,k0,f54,f119,te,t41,hb,u1,u2,u3,u4,j4 _ _ _ hlo,hlo2,Za,tokC]<;>rfl
     ·simp only[go_sem,K3,y8,Tryz.f93,k0,f54,f119,te,t41,hb,u1,u2,u3,u4,j4 _ _ _ hlo,hlo2,Za,tokC]<;>rfl
   ·have hcase:(c==34)=false/\(c==39)=false/\(c==40)=false/\unp c=false:=by
     simp only[quo,A7]at hq1;cases a1:(c==34)<;>cases a2:(c==39)<;>cases a3:(c==40)<;>cases a4:unp c<;>simp[a1,a2,a3,a4]at hq1⊢
    obtain⟨u1,u2,u3,u4⟩:=hcase;by_cases c92:c=92
    ·have t92:(c==92)=true:=by simp[c92]
     cases he:esc c (chr (suf l (i+1)) 0)with
     |true=>
      obtain⟨j0,a1,a2,a3,a4⟩:=f88 (l:=l) (i:=i+1) hl om
      have e:QU (m+1) (suf l i)=((QU m (K6 (suf l (i+1))).2).1,(K6 (suf l (i+1))).1::(QU m (K6 (suf l (i+1))).2).2.1,(QU m (K6 (suf l (i+1))).2).2.2):=by rw[hs];simp only[QU];rw[if_neg c41,if_neg (by simp[hb]),if_neg hq1,if_pos c92,if_pos he]
      obtain⟨j,j1,j2,j3,j4⟩:=ih j0 (out++[(K6 (suf l (i+1))).1]) (by rw[Kz]at h1⊢;omega) a1 (by simp;omega)
      refine⟨j,j1,om,by rw[j3,e,a3],λlo p q ex hex hlo hlo2=>?_⟩
      have er:evCode ⟨Aa,E,lo,p.length+(q.length+1),h93⟩ JA K3 (JH8 p q l i out ex)=some (.normal,JH8 p q l j0 (out++[(K6 (suf l (i+1))).1]) []):=by
       rcases hex with rfl|⟨b,rfl⟩
       ·simp only[go_sem,K3,y8,Tryz.f93,k0,k1,f54,f119,f58,te,t41,hb,u1,u2,u3,u4,t92,he,hlo,hw1,a4 _ _ _ hlo,hr,hq,app,and_self,tokC]<;>rfl
       ·simp only[go_sem,K3,y8,Tryz.f93,k0,k1,f54,f119,f58,te,t41,hb,u1,u2,u3,u4,t92,he,hlo,hw1,a4 _ _ _ hlo,hr,hq,app,and_self,tokC]<;>rfl
      rw[loop_eq,er,JK,j4 lo p q _ (.inl rfl) hlo hlo2,e,a3]
      simp[Za]
     |false=>
      obtain⟨j,j1,j2,j3,j4⟩:=f118 (l:=l) (i:=i) hl h2
      have e:QU (m+1) (suf l i)=(false,[],JCC (suf l i)):=by rw[hs];simp only[QU];rw[if_neg c41,if_neg (by simp[hb]),if_neg hq1,if_pos c92,if_neg (by simp[he])]
      refine⟨j,j1,om,by rw[j3,e],λlo p q ex hex hlo hlo2=>?_⟩
      rw[loop_eq,e];rcases hex with rfl|⟨b,rfl⟩
      ·simp only[go_sem,K3,y8,Tryz.f93,k0,k1,f54,f119,f58,te,t41,hb,u1,u2,u3,u4,t92,he,j4 _ _ _ hlo,hlo2,Za,tokC]<;>rfl
      ·simp only[go_sem,K3,y8,Tryz.f93,k0,k1,f54,f119,f58,te,t41,hb,u1,u2,u3,u4,t92,he,j4 _ _ _ hlo,hlo2,Za,tokC]<;>rfl
    ·have t92:(c==92)=false:=by simp[c92]
     have e:QU (m+1) (suf l i)=((QU m (suf l (i+1))).1,c::(QU m (suf l (i+1))).2.1,(QU m (suf l (i+1))).2.2):=by rw[hs];simp only[QU];rw[if_neg c41,if_neg (by simp[hb]),if_neg hq1,if_neg c92]
     obtain⟨j,j1,j2,j3,j4⟩:=ih (i+1) (out++[c]) (by rw[Kz]at h1⊢;omega) om (by simp;omega)
     refine⟨j,j1,om,by rw[j3,e],λlo p q ex hex hlo hlo2=>?_⟩
     have er:evCode ⟨Aa,E,lo,p.length+(q.length+1),h93⟩ JA K3 (JH8 p q l i out ex)=some (.normal,JH8 p q l (i+1) (out++[c]) []):=by
      rcases hex with rfl|⟨b,rfl⟩
      ·simp only[go_sem,K3,y8,Tryz.f93,k0,f54,f119,te,t41,hb,u1,u2,u3,u4,t92,hlo,hw1,hr,hq,app,and_self,tokC]<;>rfl
      ·simp only[go_sem,K3,y8,Tryz.f93,k0,f54,f119,te,t41,hb,u1,u2,u3,u4,t92,hlo,hw1,hr,hq,app,and_self,tokC]<;>rfl
     rw[loop_eq,er,JK,j4 lo p q _ (.inl rfl) hlo hlo2,e];simp[Za]
theorem f93(hl:l.length<=100000000000)(hi:i<=l.length):∃j,j<=l.length+2/\i<=j/\suf l j=(url (suf l i)).2.2/\
  ∀lo p q,lo<=p.length->E lo 93 [.ptr p.length 0] (p++R l i::q)=some (.agg (Za [] (url (suf l i))),p++R l j::q):=by
 obtain⟨j0,a1,a2,a3,a4⟩:=f55 (l:=l) (i:=i) hl hi;obtain⟨j,j1,j2,j3,j4⟩:=JcW (l:=l) hl (suf l j0).length j0 [] (Ab _) a1 (by simp)
 have e:url (suf l i)=QU (suf l j0).length (suf l j0):=by unfold url;rw[a3]
 refine⟨j,j1,om,by rw[j3,e],λlo p q hlo=>?_⟩
 have hL:=j4 lo p q [] (.inl rfl) hlo om;rw[e93,e];simp only[JH8,tokC,K3,y8,Tryz.f93,JD,JT,JB,go_sem,Ko,str_nil]at hL;simp only[go_sem,y8,Tryz.f93,a4 _ _ _ hlo,hL];unfold Za;cases(QU (suf l j0).length (suf l j0)).1<;>rfl
end
def bs(l:List Int):ByteArray:=⟨(Q1 l).toArray⟩
theorem bs_size(l:List Int):(bs l).size=l.length:=by simp[bs,Lx,Q1]
theorem KN(l:List Int)(a b:Nat):(bs l).extract a b=bs ((l.take b).drop a):=by
 apply DQ;simp only[bs,Ls];apply Array.toList_inj.1;rw[Array.toList_extract];simp only[List.extract,Q1,List.toList_toArray,DP,DO];rw[GF];rcases Nat.le_total a b with h|h
 ·rw[Nat.add_sub_cancel' h]
 ·rw[Bo (by simp;omega),Bo (by simp;omega)]
theorem Jb(a b:List Int):bs a++bs b=bs (a++b):=by apply DQ;simp[bs,Q1]
theorem Kl{l:List Int}(hy:By l)(i:Nat):((bs l).data[i]?).map (λc=>V.v (.int .u8 c.toNat))=(l[i]?).map λc=>V.v (.int .u8 c):=by
 simp only[bs,List.getElem?_toArray,Q1,List.getElem?_map]
 cases h:l[i]? with
 |none=>rfl
 |some c=>
  have:=hy c (Ar h);simp only[Option.map_some]
  congr 4
  show((Bh c.toNat).toNat:Int)=c
  simp only[BU];omega
theorem G1(l:List Int):(bs l).toList=Q1 l:=by simp[bs,ByteArray.toList_eq]
theorem JMc:bs []=AA:=rfl
theorem WS(l:List Int):((bs l).toList==(AA).toList)=decide (l=[]):=by
 rw[<-JMc,G1,G1]
 cases l with
 |nil=>rfl
 |cons c t=>simp[Q1]
theorem By.take{l:List Int}(h:By l)(n:Nat):By (l.take n):=λc hc=>h c (List.mem_of_mem_take hc)
theorem By.drop{l:List Int}(h:By l)(n:Nat):By (l.drop n):=λc hc=>h c (List.mem_of_mem_drop hc)
section
variable{lo i:Nat}{l:List Int}{p q:List Ob}
theorem JcX(hl:l.length<=100000000000):∀(n i:Nat),l.length-i<=n->i<=l.length->
  ∃j,j<=l.length/\i<=j/\suf l j=(suf l i).dropWhile dig/\
   ∀lo (p q:List Ob),lo<=p.length->JA (evCode ⟨Aa,E,lo,p.length+(q.length+1),h91⟩ JA JGS) ([(0,.ptr p.length 0)],p++R l i::q)=some (.exit 0,[(0,.ptr p.length 0),(4,.v (.bool false))],p++R l j::q):=by
 intro n
 induction n with
 |zero=>
  intro i h1 h2;obtain rfl:i=l.length:=om;have k0:=λlo p q=>f35 (lo:=lo) (l:=l) (i:=l.length) (p:=p) (q:=q) (k:=0) om
  have hs:suf l l.length=[]:=Jz (Ab _);have hb:dig (-1)=false:=rfl;simp only[n0,hs,QJ]at k0;refine⟨l.length,Ab _,Ab _,by rw[hs]<;>rfl,λlo p q hlo=>?_⟩
  rw[loop_eq]
  simp only[go_sem,JGS,b91,Tryz.f91,k0,f90,hb]
 |succ n ih=>
  intro i h1 h2;have k0:=λlo p q=>f35 (lo:=lo) (l:=l) (i:=i) (p:=p) (q:=q) (k:=0) om
  simp only[n0]at k0;have hw:=JH (i:=i) om
  cases hb:dig (chr (suf l i) 0)with
  |false=>
   refine⟨i,h2,Ab _,?_,λlo p q hlo=>?_⟩
   ·by_cases hi:i<l.length
    ·rw[KK hi]at hb⊢
     exact(Br (by simpa[chr]using hb)).symm
    ·rw[Jz om]<;>rfl
   ·rw[loop_eq]
    simp only[go_sem,JGS,b91,Tryz.f91,k0,f90,hb]
  |true=>
   have hi:i<l.length:=by
    rcases AG i l.length with h|h
    ·exact h
    ·rw[Jz h]at hb;exact absurd hb (by decide)
   obtain⟨j,j1,j2,j3,j4⟩:=ih (i+1) om om;refine⟨j,j1,om,?_,λlo p q hlo=>?_⟩
   ·rw[j3,KK hi]
    exact(BM (by simpa using hb)).symm
   ·rw[loop_eq]
    have e:evCode ⟨Aa,E,lo,p.length+(q.length+1),h91⟩ JA JGS ([(0,.ptr p.length 0)],p++R l i::q)=some (.normal,[(0,.ptr p.length 0)],p++R l (i+1)::q):=by simp only[go_sem,JGS,b91,Tryz.f91,k0,f90,hb,hw,hlo]
    rw[e,JK];exact j4 lo p q hlo
theorem f91(hl:l.length<=100000000000)(hi:i<=l.length):∃j,j<=l.length/\i<=j/\suf l j=(suf l i).dropWhile dig/\
  ∀lo p q,lo<=p.length->E lo 91 [.ptr p.length 0] (p++R l i::q)=some (.tup [],p++R l j::q):=by
 obtain⟨j,j1,j2,j3,j4⟩:=JcX (l:=l) hl l.length i om hi;refine⟨j,j1,j2,j3,λlo p q hlo=>?_⟩
 have hL:=j4 lo p q hlo;rw[e91];simp only[JGS,b91,Tryz.f91,JD,JT,JB,go_sem]at hL;simp only[go_sem,b91,Tryz.f91,hL]
end
theorem f137{lo:Nat}{c:Int}{h:JC}:E lo 137 [.v (.int .u8 c)] h=some (.v (.bool (dig c)),h):=by rw[JoZ];simp only[go_sem,Jhn,Tryz.f137,dig]
def Jd(x:Int×Int):List V:=[.v (.int .i64 x.1),.v (.int .i64 x.2)]
theorem f116{lo:Nat}{h:JC}(hlo:lo<=h.length):E lo 116 [] h=some (.agg (Jd (0,0)),h):=by rw[JoH];simp only[go_sem,Jhg,Tryz.f116,hlo];rfl
theorem f138{lo:Nat}{n:Int}{h:JC}(hlo:lo<=h.length):E lo 138 [.v (.int .i64 n)] h=some (.agg (Jd (n,1)),h):=by rw[Joa];simp only[go_sem,Jho,Tryz.f138,hlo];rfl
theorem JGs{t:List Int}{i:Nat}{c:Int}(h:t[i]? =some c):t.drop i=c::t.drop (i+1):=by
 obtain⟨hi,rfl⟩:=Ad.1 h
 exact List.drop_eq_getElem_cons hi
theorem JXC{lo:Nat}{t:List Int}{h:JC}(hy:By t)(hl:t.length<=100000000000):∀(m i:Nat) (ex:Jj),(ex=[]\/ex=[(14,.v (.bool true))])->t.length-i<=m->i<=t.length->
  JA (evCode ⟨Aa,E,lo,h.length,JVb⟩ JA Gy) ((0,.v (.string (bs t)))::(1,.v (.int .i64 i))::ex,h)=
   some (.exit 0,[(0,.v (.string (bs t))),(1,.v (.int .i64 (i+((t.drop i).takeWhile dig).length:Nat))),(14,.v (.bool false))],h):=by
 intro m
 induction m with
 |zero=>
  intro i ex hex h1 h2;obtain rfl:i=t.length:=om;have hd:decide ((t.length:Int)<(t.length:Int))=false:=by simp
  rw[loop_eq];rcases hex with rfl|rfl
  ·simp only[go_sem,Gy,JDg,Tryz.f115,bs_size,hd]
   all_goals simp
  ·simp only[go_sem,Gy,JDg,Tryz.f115,bs_size,hd]
   all_goals simp
 |succ m ih=>
  intro i ex hex h1 h2;rcases AG i t.length with hi|hi
  rotate_left
  ·exact ih i ex hex om h2
  have hd:decide ((i:Int)<(t.length:Int))=true:=by simp;omega
  have hw:=JH (i:=i) om;have hc:t[i]? =some t[i]:=Ac hi
  have hdr:=JGs hc;generalize t[i]=c at hc hdr
  cases hb:dig c with
  |false=>
   rw[hdr,CC (by simp[hb]),loop_eq]
   rcases hex with rfl|rfl
   ·simp only[go_sem,Gy,JDg,Tryz.f115,bs_size,hd,Kl hy,hc,f137,hb]
    all_goals simp
   ·simp only[go_sem,Gy,JDg,Tryz.f115,bs_size,hd,Kl hy,hc,f137,hb]
    all_goals simp
  |true=>
   rw[hdr,Bl hb,loop_eq]
   have e:∀ex,(ex=[]\/ex=[(14,.v (.bool true))])->evCode ⟨Aa,E,lo,h.length,JVb⟩ JA Gy ((0,.v (.string (bs t)))::(1,.v (.int .i64 i))::ex,h)=some (.normal,[(0,.v (.string (bs t))),(1,.v (.int .i64 (i+1:Nat)))],h):=by
    intro ex hex;rcases hex with rfl|rfl
    ·simp only[go_sem,Gy,JDg,Tryz.f115,bs_size,hd,Kl hy,hc,f137,hb,hw]
    ·simp only[go_sem,Gy,JDg,Tryz.f115,bs_size,hd,Kl hy,hc,f137,hb,hw]
   rw[e ex hex,JK,ih (i+1) [] (.inl rfl) om om];have e2:i+(c::(t.drop (i+1)).takeWhile dig).length=i+1+((t.drop (i+1)).takeWhile dig).length:=by simp;omega
   rw[e2]
theorem f115{lo i:Nat}{t:List Int}{h:JC}(hy:By t)(hl:t.length<=100000000000)(hi:i<=t.length):
  E lo 115 [.v (.string (bs t)),.v (.int .i64 i)] h=some (.v (.int .i64 (i+((t.drop i).takeWhile dig).length:Nat)),h):=by
 have hL:=JXC (lo:=lo) (h:=h) hy hl t.length i [] (.inl rfl) om hi;rw[JoG];simp only[Gy,JDg,Tryz.f115,JD,JT,JB,go_sem]at hL;simp only[go_sem,JDg,Tryz.f115,hL]
theorem Jc{n:Int}(h0:0<=n)(h1:n<=18446744073709551615):AJ.wrap n=n:=by unfold IntKind.wrap;simp only[IntKind.bits,IntKind.signed];simp;omega
theorem jZ(l:List Int)(c:Int):core (l++[c])=if c=48 then core l else l++[c]:=by
 unfold core;rw[List.reverse_append];simp only[BS,List.reverse_nil,Ai,Al,List.dropWhile_cons,beq_iff_eq]
 split<;>simp
abbrev Gd(below:Bool)(ds:List Int)(e:Int)(h:JC)(a b:Int)(ex:Jj):Jj×JC:=
 ((0,.v (.bool below))::(1,.v (.string (bs ds)))::(2,.v (.int .i64 e))::(6,.ptr h.length 0)::(7,.v (.int .i64 a))::(8,.v (.int .i64 b))::ex,h++[.cells (Jd (0,0))])
theorem JTZ{lo:Nat}{below:Bool}{ds:List Int}{e:Int}{h:JC}(hy:By ds)(hl:ds.length<=100000000000):∀(m a:Nat),ds.length-a<=m->a<=ds.length->
  JA (evCode ⟨Aa,E,lo,h.length,Gw⟩ JA zY) (Gd below ds e h a ds.length [])=
   some (.exit 0,Gd below ds e h (a+((ds.drop a).takeWhile (· ==48)).length:Nat) ds.length [(25,.v (.bool false))]):=by
 intro m
 induction m with
 |zero=>
  intro a h1 h2;obtain rfl:a=ds.length:=om;have hd:decide ((ds.length:Int)<(ds.length:Int))=false:=by simp
  rw[loop_eq];simp only[go_sem,zY,J2,Tryz.f117,bs_size,hd,Jd];all_goals simp
  all_goals rfl
 |succ m ih=>
  intro i h1 h2;rcases AG i ds.length with hi|hi
  rotate_left
  ·exact ih i om h2
  have hd:decide ((i:Int)<(ds.length:Int))=true:=by simp;omega
  have hw:=JH (i:=i) om;have hc:ds[i]? =some ds[i]:=Ac hi
  have hdr:=JGs hc;generalize ds[i]=c at hc hdr
  cases hb:(c==48)with
  |false=>
   rw[hdr,CC (by simp[hb]),loop_eq]
   simp only[go_sem,zY,J2,Tryz.f117,bs_size,hd,Kl hy,hc,hb,Jd];all_goals simp
   all_goals rfl
  |true=>
   rw[hdr,Bl (p:=(· ==48)) (by simpa using hb),loop_eq]
   have e1:evCode ⟨Aa,E,lo,h.length,Gw⟩ JA zY (Gd below ds e h i ds.length [])=some (.normal,Gd below ds e h (i+1:Nat) ds.length []):=by simp only[go_sem,zY,J2,Tryz.f117,bs_size,hd,Kl hy,hc,hb,hw,Jd]<;>rfl
   rw[e1,JK,ih (i+1) om om];have e2:i+(c::(ds.drop (i+1)).takeWhile (· ==48)).length=i+1+((ds.drop (i+1)).takeWhile (· ==48)).length:=by simp;omega
   rw[e2]
theorem JTa{lo:Nat}{below:Bool}{ds:List Int}{h:JC}{a:Nat}{c0:Int}(hy:By ds)(hl:ds.length<=100000000000)(ha:ds[a]? =some c0)(hc0:c0≠48):
  ∀(m b:Nat) (e:Int) (x:V),b-a<=m->a<b->b<=ds.length-> -4000000000000<=e->e+b<=4000000000000->
  ∃b',a<b'/\b'<=b/\(ds.take b').drop a=core ((ds.take b).drop a)/\
   JA (evCode ⟨Aa,E,lo,h.length,Gw⟩ JA JCY) (Gd below ds e h a b [(30,x)])=
    some (.exit 2,Gd below ds (e+b-b') h a b' [(36,.v (.bool false))]):=by
 intro m
 induction m with
 |zero=>intro b e x h1 h2;omega
 |succ m ih=>
  intro b e x h1 h2 h3 h4 h5;obtain⟨k,rfl⟩:∃k,b=k+1:=⟨b-1,om⟩;have hw:Aq.wrap (((k+1:Nat):Int)-1)=(k:Int):=by rw[JN]<;>omega
  have hwe:Aq.wrap (e+1)=e+1:=by rw[JN]<;>omega
  have hc:ds[k]? =some ds[k]:=Ac om
  have hsn:(ds.take (k+1)).drop a=(ds.take k).drop a++[ds[k]]:=by
   rw[List.take_add_one,hc];rw[List.drop_append_of_le_length (by simp;omega)]
   rfl
  generalize ds[k]=c at hc hsn;rw[hsn,jZ]
  cases hb:(c==48)with
  |false=>
   have hn:¬c=48:=by simpa using hb
   rw[if_neg hn];refine⟨k+1,h2,Ab _,hsn,?_⟩
   rw[loop_eq];have e2:e+((k+1:Nat):Int)-((k+1:Nat):Int)=e:=om;rw[e2]
   simp only[go_sem,JCY,J2,Tryz.f117,hw,Kl hy,hc,hb,Jd]<;>rfl
  |true=>
   have hn:c=48:=by simpa using hb
   rw[if_pos hn]
   have hka:a<k:=by
    rcases AG a k with h|h
    ·exact h
    ·have:a=k:=om
     subst this;rw[hc]at ha;cases ha;exact absurd hn hc0
   obtain⟨b',q1,q2,q3,q4⟩:=ih k (e+1) .undef om hka om om om;refine⟨b',q1,om,q3,?_⟩
   have e1:evCode ⟨Aa,E,lo,h.length,Gw⟩ JA JCY (Gd below ds e h a (k+1:Nat) [(30,x)])=some (.normal,Gd below ds (e+1) h a k [(30,.undef)]):=by simp only[go_sem,JCY,J2,Tryz.f117,hw,hwe,Kl hy,hc,hb,Jd]<;>rfl
   rw[loop_eq,e1,JK,q4];have e2:e+1+(k:Int)-(b':Int)=e+((k+1:Nat):Int)-(b':Int):=om;rw[e2]
abbrev JDj(below:Bool)(e:Int)(h:JC)(n:Int)(rows:List (List V))(len k:Int)(ex:Jj):Jj×JC:=
 ((0,.v (.bool below))::(2,.v (.int .i64 e))::(6,.ptr h.length 0)::(9,.v (.int .u64 n))::(50,.list .no rows)::(51,.v (.int .i64 len))::(52,.v (.int .i64 k))::ex,h++[.cells (Jd (0,0))])
theorem JTb{lo:Nat}{below:Bool}{e:Int}{h:JC}{d:List Int}(hd:∀c∈d,dig c=true)(hl:d.length<=18):∀(r:List Int) (k:Nat) (n:Int),d.drop k=r->k+r.length=d.length->0<=n->n<10^k->
  JA (evCode ⟨Aa,E,lo,h.length,Gw⟩ JA JCZ) (JDj below e h n (ri .u8 d) d.length k [])=
   some (.exit 4,JDj below e h (ZL n r) (ri .u8 d) d.length d.length [(53,.v (.bool false))]):=by
 intro r
 induction r with
 |nil=>
  intro k n hr hk h0 h1;have hk':k=d.length:=by simpa using hk
  subst hk';have hlt:decide ((d.length:Int)<(d.length:Int))=false:=by simp
  rw[loop_eq]
  simp only[go_sem,JCZ,J2,Tryz.f117,hlt,ZL,Jd]<;>rfl
 |cons c r ih=>
  intro k n hr hk h0 h1;simp only[Ae]at hk;have hlt:decide ((k:Int)<(d.length:Int))=true:=by simp;omega
  have hc:d[k]? =some c:=by
   have:=congrArg (·[0]?) hr
   simpa using this
  have hcd:=hd c (Ar hc);simp only[dig,Af,decide_eq_true_eq]at hcd;have hw:=JH (i:=k) om
  have h17:(10:Int)^k<=100000000000000000:=by
   have:(10:Int)^k<=10^17:=by obtain⟨j,hj⟩:∃j,17=k+j:=⟨17-k,om⟩;rw[hj,La];have h0:=Ki (y:=10) om k;exact Zw om (Ki om j)
   exact this
  have w1:AJ.wrap (n*10)=n*10:=Jc om om;have w2:AO.wrap (c-48)=c-48:=QC om om;have w3:AJ.wrap (c-48)=c-48:=Jc om om;have w4:AJ.wrap (n*10+(c-48))=n*10+(c-48):=Jc om om
  have e1:evCode ⟨Aa,E,lo,h.length,Gw⟩ JA JCZ (JDj below e h n (ri .u8 d) d.length k [])=some (.normal,JDj below e h (n*10+(c-48)) (ri .u8 d) d.length (k+1:Nat) []):=by simp only[go_sem,JCZ,J2,Tryz.f117,hlt,hc,w1,w2,w3,w4,hw,Jd]<;>rfl
  have hp:(10:Int)^ (k+1)=10^k*10:=Bc 10 k;rw[loop_eq,e1,JK,ih (k+1) (n*10+(c-48)) (by rw[<-AV,hr]<;>rfl) om om om]
  rfl
abbrev JDk(below:Bool)(e:Int)(h:JC)(n:Int)(ex:Jj):Jj×JC:=
 ((0,.v (.bool below))::(2,.v (.int .i64 e))::(6,.ptr h.length 0)::(9,.v (.int .u64 n))::(12,.v (.int .u64 1))::ex,h++[.cells (Jd (0,0))])
abbrev Ql(h:JC):Option (Ex×Jj×JC):=some (.ret,[(6,.ptr h.length 0)],h++[.cells (Jd (0,0))])
theorem JC9{lo:Nat}{h:JC}{x:Ob}(hlo:lo<=h.length):E lo 116 [] (h++[x])=some (.agg (Jd (0,0)),h++[x]):=f116 (by simp;omega)
theorem JTc{lo:Nat}{below:Bool}{h:JC}(hlo:lo<=h.length):∀(m:Nat) (e n:Int),e.toNat=m->e<=4000000000000->0<=n->n<=9223372036854775807->
  JA (evCode ⟨Aa,E,lo,h.length,Gw⟩ JA kZ) (JDk below e h n [])=
   match upN m n with
   |some n'=>some (.exit 6,JDk below (if 0<e then 0 else e) h n' [(64,.v (.bool false))])
   |none=>Ql h:=by
 intro m
 induction m with
 |zero=>
  intro e n hm he h0 h1;have hd:decide (0<e)=false:=by simp;omega
  rw[loop_eq,if_neg om]
  simp only[go_sem,kZ,J2,Tryz.f117,hd,upN,Jd]<;>rfl
 |succ m ih=>
  intro e n hm he h0 h1;have hd:decide (0<e)=true:=by simp;omega
  have hw:Aq.wrap (e-1)=e-1:=by rw[JN]<;>omega
  rw[loop_eq];simp only[upN];by_cases hb:922337203685477580<n
  ·have hb':decide (922337203685477580<n)=true:=by simp[hb]
   rw[if_pos hb];simp only[go_sem,kZ,J2,Tryz.f117,hd,hb',JC9 hlo,hlo,Jd]<;>rfl
  ·have hb':decide (922337203685477580<n)=false:=by simp[hb]
   rw[if_neg hb];have w1:AJ.wrap (n*10)=n*10:=Jc om om
   have e1:evCode ⟨Aa,E,lo,h.length,Gw⟩ JA kZ (JDk below e h n [])=some (.normal,JDk below (e-1) h (n*10) []):=by simp only[go_sem,kZ,J2,Tryz.f117,hd,hb',w1,hw,Jd]<;>rfl
   rw[e1,JK,ih (e-1) (n*10) om om om om];have e2:(if 0<e-1 then(0:Int)else e-1)=if 0<e then 0 else e:=by split<;>split<;>omega
   rw[e2]
abbrev W2(below:Bool)(h:JC)(n d a b:Int)(ex:Jj):Jj×JC:=
 ((0,.v (.bool below))::(6,.ptr h.length 0)::(9,.v (.int .u64 n))::(12,.v (.int .u64 d))::(13,.v (.int .i64 a))::(14,.v (.int .i64 b))::ex,h++[.cells (Jd (0,0))])
theorem JTd{lo:Nat}{below:Bool}{h:JC}{d b:Int}:∀(k:Nat) (n:Int),(k:Int)<=9223372036854775807->0<=n->n<=9223372036854775807->
  JA (evCode ⟨Aa,E,lo,h.length,Gw⟩ JA zZ) (W2 below h n d k b [])=
   some (.exit 8,W2 below h (Kk 2 k n).2 d (Kk 2 k n).1 b [(82,.v (.bool false))]):=by
 intro k
 induction k with
 |zero=>
  intro n hk h0 h1;have hd:decide ((0:Int)<0)=false:=rfl;rw[loop_eq];simp only[n0,Kk]
  simp only[go_sem,zZ,J2,Tryz.f117,hd,Jd]<;>rfl
 |succ k ih=>
  intro n hk h0 h1;have hd:decide ((0:Int)<((k+1:Nat):Int))=true:=by simp
  have hw:Aq.wrap (((k+1:Nat):Int)-1)=(k:Int):=by rw[JN]<;>omega
  have hr:Int.tmod n 2=n%2:=BC h0;have hq:Int.tdiv n 2=n/2:=BN h0;have wq:AJ.wrap (n/2)=n/2:=Jc om om;have z2:((2:Int)=0)=False:=by simp
  rw[loop_eq];by_cases hm:n%2=0
  ·have hb:(n%2==0)=true:=by simp[hm]
   have e1:evCode ⟨Aa,E,lo,h.length,Gw⟩ JA zZ (W2 below h n d (k+1:Nat) b [])=some (.normal,W2 below h (n/2) d k b []):=by simp only[go_sem,zZ,J2,Tryz.f117,hd,hr,hq,wq,hb,hw,z2,Jd]<;>rfl
   rw[e1,JK,ih (n/2) om om om];simp only[Kk,hm,if_true]
  ·have hb:(n%2==0)=false:=by simp;omega
   have e2:Kk 2 (k+1) n=(k+1,n):=by simp only[Kk];rw[if_neg hm]
   rw[e2];simp only[go_sem,zZ,J2,Tryz.f117,hd,hr,hb,z2,Jd]<;>rfl
theorem JTe{lo:Nat}{below:Bool}{h:JC}{d a:Int}:∀(k:Nat) (n:Int) (ex:Jj),(ex=[]\/ex=[(82,.v (.bool false))])->(k:Int)<=9223372036854775807->0<=n->n<=9223372036854775807->
  JA (evCode ⟨Aa,E,lo,h.length,Gw⟩ JA Gz) (W2 below h n d a k ex)=
   some (.exit 10,W2 below h (Kk 5 k n).2 d a (Kk 5 k n).1 [(93,.v (.bool false))]):=by
 intro k
 induction k with
 |zero=>
  intro n ex hex hk h0 h1;have hd:decide ((0:Int)<0)=false:=rfl;rw[loop_eq];simp only[n0,Kk];rcases hex with rfl|rfl
  ·simp only[go_sem,Gz,J2,Tryz.f117,hd,Jd]<;>rfl
  ·simp only[go_sem,Gz,J2,Tryz.f117,hd,Jd]<;>rfl
 |succ k ih=>
  intro n ex hex hk h0 h1;have hd:decide ((0:Int)<((k+1:Nat):Int))=true:=by simp
  have hw:Aq.wrap (((k+1:Nat):Int)-1)=(k:Int):=by rw[JN]<;>omega
  have hr:Int.tmod n 5=n%5:=BC h0;have hq:Int.tdiv n 5=n/5:=BN h0;have wq:AJ.wrap (n/5)=n/5:=Jc om om;have z2:((5:Int)=0)=False:=by simp
  rw[loop_eq];by_cases hm:n%5=0
  ·have hb:(n%5==0)=true:=by simp[hm]
   have e1:evCode ⟨Aa,E,lo,h.length,Gw⟩ JA Gz (W2 below h n d a (k+1:Nat) ex)=some (.normal,W2 below h (n/5) d a k []):=by
    rcases hex with rfl|rfl
    ·simp only[go_sem,Gz,J2,Tryz.f117,hd,hr,hq,wq,hb,hw,z2,Jd]<;>rfl
    ·simp only[go_sem,Gz,J2,Tryz.f117,hd,hr,hq,wq,hb,hw,z2,Jd]<;>rfl
   rw[e1,JK,ih (n/5) [] (.inl rfl) om om om];simp only[Kk,hm,if_true]
  ·have hb:(n%5==0)=false:=by simp;omega
   have e2:Kk 5 (k+1) n=(k+1,n):=by simp only[Kk];rw[if_neg hm]
   rw[e2];rcases hex with rfl|rfl
   ·simp only[go_sem,Gz,J2,Tryz.f117,hd,hr,hb,z2,Jd]<;>rfl
   ·simp only[go_sem,Gz,J2,Tryz.f117,hd,hr,hb,z2,Jd]<;>rfl
theorem JTf{lo:Nat}{below:Bool}{h:JC}{n b:Int}:∀(k a:Nat) (x:V),a+k<=62->
  JA (evCode ⟨Aa,E,lo,h.length,Gw⟩ JA JCa) (W2 below h n (2^a) k b [(103,x)])=
   some (.exit 12,W2 below h n (2^ (a+k)) 0 b [(106,.v (.bool false))]):=by
 intro k
 induction k with
 |zero=>
  intro a x ha;have hd:decide ((0:Int)<0)=false:=rfl;rw[loop_eq];simp only[n0]
  simp only[go_sem,JCa,J2,Tryz.f117,hd,Jd]<;>rfl
 |succ k ih=>
  intro a x ha;have hd:decide ((0:Int)<((k+1:Nat):Int))=true:=by simp
  have hw:Aq.wrap (((k+1:Nat):Int)-1)=(k:Int):=by rw[JN]<;>omega
  have h61:(2:Int)^61=2305843009213693952:=by decide
  have hp:=kg (show a<=61 by omega)
  have hp0:=Ki (y:=2) om a;have w1:AJ.wrap (2^a*2)=2^ (a+1):=by rw[Bc];exact Jc om om
  generalize hX:(2:Int)^a=X at*
  have e1:evCode ⟨Aa,E,lo,h.length,Gw⟩ JA JCa (W2 below h n X (k+1:Nat) b [(103,x)])=some (.normal,W2 below h n (2^ (a+1)) k b [(103,.undef)]):=by simp only[go_sem,JCa,J2,Tryz.f117,hd,w1,hw,Jd]<;>rfl
  rw[loop_eq,e1,JK,ih (a+1) .undef om];have e2:a+1+k=a+(k+1):=om;rw[e2]
abbrev JDA(below:Bool)(h:JC)(n d:Int)(ex:Jj):Jj×JC:=
 ((0,.v (.bool below))::(6,.ptr h.length 0)::(9,.v (.int .u64 n))::(12,.v (.int .u64 d))::ex,h++[.cells (Jd (0,0))])
theorem JP3{lo:Nat}{below:Bool}{h:JC}{n:Int}(hlo:lo<=h.length):∀(k:Nat) (d:Int) (x y:V) (ex:Jj),(ex=[(103,y)]\/ex=[(106,y)])->(k:Int)<=9223372036854775807->0<=d->d<=9223372036854775807->
  JA (evCode ⟨Aa,E,lo,h.length,Gw⟩ JA GB) (JDA below h n d ((13,x)::(14,.v (.int .i64 k))::ex))=
   match jn 5 1844674407370955161 k d with
   |some d'=>some (.exit 14,JDA below h n d' [(14,.v (.int .i64 0)),(112,.v (.bool false))])
   |none=>Ql h:=by
 intro k
 induction k with
 |zero=>
  intro d x y ex hex hk h0 h1;have hd:decide ((0:Int)<0)=false:=rfl;rw[loop_eq];simp only[n0,jn];rcases hex with rfl|rfl
  ·simp only[go_sem,GB,J2,Tryz.f117,hd,Jd]<;>rfl
  ·simp only[go_sem,GB,J2,Tryz.f117,hd,Jd]<;>rfl
 |succ k ih=>
  intro d x y ex hex hk h0 h1;have hd:decide ((0:Int)<((k+1:Nat):Int))=true:=by simp
  have hw:Aq.wrap (((k+1:Nat):Int)-1)=(k:Int):=by rw[JN]<;>omega
  rw[loop_eq];simp only[jn];by_cases hb:1844674407370955161<d
  ·have hb':decide (1844674407370955161<d)=true:=by simp[hb]
   rw[if_pos hb];rcases hex with rfl|rfl
   ·simp only[go_sem,GB,J2,Tryz.f117,hd,hb',JC9 hlo,hlo,Jd]<;>rfl
   ·simp only[go_sem,GB,J2,Tryz.f117,hd,hb',JC9 hlo,hlo,Jd]<;>rfl
  ·have hb':decide (1844674407370955161<d)=false:=by simp[hb]
   rw[if_neg hb];have w1:AJ.wrap (d*5)=d*5:=Jc om om
   have e1:evCode ⟨Aa,E,lo,h.length,Gw⟩ JA GB (JDA below h n d ((13,x)::(14,.v (.int .i64 (k+1:Nat)))::ex))=some (.normal,JDA below h n (d*5) [(13,.undef),(14,.v (.int .i64 k)),(103,.undef)]):=by
    rcases hex with rfl|rfl
    ·simp only[go_sem,GB,J2,Tryz.f117,hd,hb',w1,hw,Jd]<;>rfl
    ·simp only[go_sem,GB,J2,Tryz.f117,hd,hb',w1,hw,Jd]<;>rfl
   rw[e1,JK,ih (d*5) .undef .undef _ (.inl rfl) om om om]
def JM2(below:Bool)(ds:List Int)(e:Int):Int×Int:=
 let d:=ds.dropWhile (· ==48)
 if d=[]then(0,1)else
 if 18<(core d).length then(0,0)else
 turn below (zi (ZL 0 (core d)) (e+(d.length-(core d).length)))
theorem drop_take(p:Int->Bool):∀l:List Int,l.drop (l.takeWhile p).length=l.dropWhile p
 |[]=>rfl
 |c::t=>by
  cases h:p c with
  |true=>rw[Bl h,BM h];exact drop_take p t
  |false=>rw[CC (by simp[h]),Br (by simp[h])]<;>rfl
theorem JGt(p:Int->Bool):∀l:List Int,∀c t,l.dropWhile p=c::t->p c=false
 |[],c,t,h=>by cases h
 |x::l,c,t,h=>by
  cases hx:p x with
  |true=>rw[BM hx]at h;exact JGt p l c t h
  |false=>rw[Br (by simp[hx])]at h;cases h;exact hx
theorem JK2{l:List Int}(h:∀c∈l,dig c=true):∀c∈core l,dig c=true:=λc hc=>by unfold core at hc;rw[List.mem_reverse]at hc;exact h c (by simpa using(Cp _).subset hc)
section
variable{lo:Nat}{below:Bool}{ds:List Int}{e:Int}{h:JC}
noncomputable abbrev W3(lo:Nat)(h:JC):Cx:=⟨Aa,E,lo,h.length,Gw⟩
theorem JiJ(hy:By ds)(hl:ds.length<=100000000000)(hlo:lo<=h.length):Wc (W3 lo h) JA (pc J2 0 5) (Ku [.v (.bool below),.v (.string (bs ds)),.v (.int .i64 e)],h)=
  if ds.dropWhile (· ==48)=[]then some (.ret,[(6,.ptr h.length 0)],h++[.cells (Jd (0,1))])
  else some (.normal,Gd below ds e h (ds.takeWhile (· ==48)).length ds.length [(30,.v (.bool false))]):=by
 have hL0:=JTZ (lo:=lo) (below:=below) (e:=e) (h:=h) hy hl ds.length 0 om om;simp only[List.drop_zero,AE]at hL0
 have hsum:((ds.takeWhile (· ==48)).length)+(ds.dropWhile (· ==48)).length=ds.length:=by rw[<-Ah,Co]
 have hk:=f138 (h:=h++[Ob.cells [V.v (AQ Aq 0),V.v (AQ Aq 0)]]) (lo:=lo) (n:=0) (by simp;omega)
 generalize (ds.takeWhile (· ==48)).length=a at*
 generalize ds.dropWhile (· ==48)=D at*
 simp only[Gd,zY,J2,Tryz.f117,JD,JT,JB,go_sem,Jd]at hL0 hk
 cases D with
 |nil=>
  have t1:((a:Int)==(ds.length:Int))=true:=by simp at hsum⊢;omega
  rw[if_pos rfl]
  simp only[go_sem,W3,J2,Tryz.f117,bs_size,hL0,t1,hk,Jd,hlo]<;>rfl
 |cons c0 t0=>
  have t1:((a:Int)==(ds.length:Int))=false:=by simp at hsum⊢;omega
  rw[if_neg (by simp)]
  simp only[go_sem,W3,J2,Tryz.f117,bs_size,hL0,t1,Jd]<;>rfl
theorem JiK{a:Nat}{c0:Int}(hy:By ds)(hl:ds.length<=100000000000)(ha:ds[a]? =some c0)(hc0:c0≠48)(he0: -2000000000000<=e)(he1:e<=2000000000000):
  ∃b',a<b'/\b'<=ds.length/\(ds.take b').drop a=core (ds.drop a)/\
   Wc (W3 lo h) JA (pc J2 5 1) (Gd below ds e h a ds.length [(30,.v (.bool false))])=some (.normal,Gd below ds (e+ds.length-b') h a b' [(36,.v (.bool false))]):=by
 have hal:a<ds.length:=(Ad.1 ha).1
 obtain⟨b',q1,q2,q3,q4⟩:=JTa (lo:=lo) (below:=below) (h:=h) hy hl ha hc0 ds.length ds.length e (.v (.bool false)) om hal (Ab _) om om;rw[List.take_length]at q3;refine⟨b',q1,q2,q3,?_⟩
 simp only[Gd,JCY,J2,Tryz.f117,JD,JT,JB,go_sem,Jd]at q4;simp only[go_sem,W3,Gd,J2,Tryz.f117,q4,Jd]
theorem JiL{a b:Nat}(hab:a<=b)(hb:b<=100000000000)(hlo:lo<=h.length):Wc (W3 lo h) JA (pc J2 6 2) (Gd below ds e h a b [(36,.v (.bool false))])=
  if 18<b-a then Ql h else some (.normal,Gd below ds e h a b [(44,.v (.bool false))]):=by
 have hw:Aq.wrap ((b:Int)-a)=((b-a:Nat):Int):=by rw[JN om om];omega
 have hk:=JC9 (lo:=lo) (h:=h) (x:=Ob.cells [V.v (AQ Aq 0),V.v (AQ Aq 0)]) hlo;by_cases h18:18<b-a
 ·have t:decide (18<((b-a:Nat):Int))=true:=by simp;omega
  rw[if_pos h18];simp only[go_sem,W3,Gd,J2,Tryz.f117,hw,t,hk,hlo,Jd]<;>rfl
 ·have t:decide (18<((b-a:Nat):Int))=false:=by simp;omega
  rw[if_neg h18];simp only[go_sem,W3,Gd,J2,Tryz.f117,hw,t,Jd]<;>rfl
theorem QT{l:List Int}(hy:By l):KP (bs l)=ri .u8 l:=by
 unfold KP bs Q1 ri;simp only[List.map_map];apply List.map_congr_left;intro c hc;have:=hy c hc;simp only[Function.comp]
 congr 4
 show((Bh c.toNat).toNat:Int)=c
 simp only[BU];omega
theorem JiM{a b:Nat}{d:List Int}(hd:∀c∈d,dig c=true)(hdl:d.length<=18)(hab:a<=b)(hbl:b<=ds.length)(hdd:(ds.take b).drop a=d):
  Wc (W3 lo h) JA (pc J2 8 3) (Gd below ds e h a b [(44,.v (.bool false))])=some (.normal,JDj below e h (ZL 0 d) (ri .u8 d) d.length d.length [(53,.v (.bool false))]):=by
 have hy:By d:=λc hc=>by have:=hd c hc;simp only[dig,Af,decide_eq_true_eq]at this;omega
 have hL:=JTb (lo:=lo) (below:=below) (e:=e) (h:=h) hd hdl d 0 0 rfl (by simp) om (by simp)
 simp only[JDj,JCZ,J2,Tryz.f117,JD,JT,JB,go_sem,Jd]at hL;simp only[go_sem,W3,Gd,JDj,J2,Tryz.f117,bs_size,KN,hab,hbl,hdd,QT hy,hL,Jd]<;>rfl
theorem JiN{rows:List (List V)}{len k n:Int}(hlo:lo<=h.length)(he1:e<=4000000000000)(h0:0<=n)(h1:n<=9223372036854775807):
  Wc (W3 lo h) JA (pc J2 11 2) (JDj below e h n rows len k [(53,.v (.bool false))])=
   match upN e.toNat n with
   |some n'=>some (.normal,JDk below (if 0<e then 0 else e) h n' [(64,.v (.bool false))])
   |none=>Ql h:=by
 have hL:=JTc (lo:=lo) (below:=below) (h:=h) hlo e.toNat e n rfl he1 h0 h1
 cases hu:upN e.toNat n with
 |some n'=>
  rw[hu]at hL;simp only[JDk,kZ,J2,Tryz.f117,JD,JT,JB,go_sem,Jd]at hL
  simp only[go_sem,W3,JDj,JDk,J2,Tryz.f117,hL,Jd]<;>rfl
 |none=>rw[hu]at hL;simp only[JDk,Ql,kZ,J2,Tryz.f117,JD,JT,JB,go_sem,Jd]at hL;simp only[go_sem,W3,JDj,Ql,J2,Tryz.f117,hL,Jd]<;>rfl
theorem JiO{n:Int}(he0: -4000000000000<=e)(he1:e<=0)(h0:1<=n)(h1:n<=9223372036854775807):
  Wc (W3 lo h) JA (pc J2 13 3) (JDk below e h n [(64,.v (.bool false))])=
   some (.normal,W2 below h (Kk 5 (-e).toNat (Kk 2 (-e).toNat n).2).2 1 (Kk 2 (-e).toNat n).1 (Kk 5 (-e).toNat (Kk 2 (-e).toNat n).2).1 [(93,.v (.bool false))]):=by
 obtain⟨k,hk⟩:∃k,(-e).toNat=k:=⟨_,rfl⟩;have hw:Aq.wrap (0-e)=(k:Int):=by rw[JN om om];omega
 rw[hk];obtain⟨a1,b1,c1,d1⟩:=Yp (y:=2) om k n h0;have hL:=JTd (lo:=lo) (below:=below) (h:=h) (d:=1) (b:=k) k n om om om;generalize Kk 2 k n=r at*;have hM:=JTe (lo:=lo) (below:=below) (h:=h) (d:=1) (a:=r.1) k r.2 [(82,.v (.bool false))] (.inr rfl) om om om;simp only[W2,zZ,Gz,J2,Tryz.f117,JD,JT,JB,go_sem,Jd]at hL hM
 simp only[go_sem,W3,JDk,W2,J2,Tryz.f117,hw,hL,hM,Jd]<;>rfl
theorem JiP{n:Int}{a b:Nat}(hlo:lo<=h.length):Wc (W3 lo h) JA (pc J2 16 2) (W2 below h n 1 a b [(93,.v (.bool false))])=
  if 62<a\/27<b then Ql h else some (.normal,W2 below h n 1 a b [(103,.v (.bool false))]):=by
 have hk:=JC9 (lo:=lo) (h:=h) (x:=Ob.cells [V.v (AQ Aq 0),V.v (AQ Aq 0)]) hlo;by_cases h62:62<a
 ·have t:decide (62<(a:Int))=true:=by simp;omega
  rw[if_pos (.inl h62)];simp only[go_sem,W3,W2,J2,Tryz.f117,t,hk,hlo,Jd]<;>rfl
 ·have t:decide (62<(a:Int))=false:=by simp;omega
  by_cases h27:27<b
  ·have t2:decide (27<(b:Int))=true:=by simp;omega
   rw[if_pos (.inr h27)];simp only[go_sem,W3,W2,J2,Tryz.f117,t,t2,hk,hlo,Jd]<;>rfl
  ·have t2:decide (27<(b:Int))=false:=by simp;omega
   rw[if_neg om];simp only[go_sem,W3,W2,J2,Tryz.f117,t,t2,Jd]<;>rfl
theorem JiQ{n b:Int}{a:Nat}(ha:a<=62):Wc (W3 lo h) JA (pc J2 18 1) (W2 below h n 1 a b [(103,.v (.bool false))])=some (.normal,W2 below h n (2^a) 0 b [(106,.v (.bool false))]):=by have hL:=JTf (lo:=lo) (below:=below) (h:=h) (n:=n) (b:=b) a 0 (.v (.bool false)) om;rw[AE]at hL;simp only[W2,JCa,J2,Tryz.f117,JD,JT,JB,go_sem,Jd,Int.pow_zero]at hL;simp only[go_sem,W3,W2,J2,Tryz.f117,hL,Jd]
theorem JiR{n d:Int}{b:Nat}(hlo:lo<=h.length)(hb:(b:Int)<=9223372036854775807)(h0:0<=d)(h1:d<=9223372036854775807):Wc (W3 lo h) JA (pc J2 19 1) (W2 below h n d 0 b [(106,.v (.bool false))])=
  match jn 5 1844674407370955161 b d with
  |some d'=>some (.normal,JDA below h n d' [(14,.v (.int .i64 0)),(112,.v (.bool false))])
  |none=>Ql h:=by
 have hL:=JP3 (lo:=lo) (below:=below) (h:=h) (n:=n) hlo b d (.v (.int .i64 0)) (.v (.bool false)) [(106,.v (.bool false))] (.inr rfl) hb h0 h1
 cases hu:jn 5 1844674407370955161 b d with
 |some d'=>
  rw[hu]at hL;simp only[JDA,GB,J2,Tryz.f117,JD,JT,JB,go_sem,Jd]at hL
  simp only[go_sem,W3,W2,JDA,J2,Tryz.f117,hL,Jd]
 |none=>rw[hu]at hL;simp only[JDA,Ql,GB,J2,Tryz.f117,JD,JT,JB,go_sem,Jd]at hL;simp only[go_sem,W3,W2,Ql,J2,Tryz.f117,hL,Jd]
theorem JiS{n d:Int}(hlo:lo<=h.length)(h0:0<=n)(h1:n<=9223372036854775807)(g0:0<=d)(g1:d<=9223372036854775807):Wc (W3 lo h) JA (pc J2 20 4) (JDA below h n d [(14,.v (.int .i64 0)),(112,.v (.bool false))])=
  some (.ret,[(6,.ptr h.length 0)],h++[.cells (Jd (turn below (some (n,d))))]):=by
 have w1:Aq.wrap n=n:=by rw[JN]<;>omega
 have w2:Aq.wrap d=d:=by rw[JN]<;>omega
 have w3:Aq.wrap (0-n)= -n:=by rw[JN]<;>omega
 cases below with
 |true=>simp only[go_sem,W3,JDA,J2,Tryz.f117,w1,w2,w3,hlo,turn,Jd]<;>rfl
 |false=>simp only[go_sem,W3,JDA,J2,Tryz.f117,w1,w2,w3,hlo,turn,Jd]<;>rfl
end
theorem JXD(c:Int)(t:List Int)(hc:c≠48):∃u,core (c::t)=c::u:=by
 unfold core;rw[BS]
 have:∀l:List Int,∃u,(l++[c]).dropWhile (· ==48)=u++[c]:=by
  intro l
  induction l with
  |nil=>exact⟨[],by rw[Ai,Br (by simpa using hc)]⟩
  |cons x l ih=>
   rw[Al]
   cases hx:(x==(48:Int))with
   |true=>rw[BM (p:=(· ==48)) hx];exact ih
   |false=>rw[Br (p:=(· ==48)) (by simp[hx])];exact⟨x::l,rfl⟩
 obtain⟨u,hu⟩:=this t.reverse;rw[hu];exact⟨u.reverse,by simp⟩
theorem JTg{c:Int}{t:List Int}(hd:∀x∈c::t,dig x=true)(hc:c≠48)(hl:(core (c::t)).length<=18):1<=ZL 0 (core (c::t))/\ZL 0 (core (c::t))<10^18:=by
 obtain⟨u,hu⟩:=JXD c t hc;have hmem:=JK2 hd;rw[hu]at hl hmem⊢;have h1:=hmem c (by simp)
 simp only[dig,Af,decide_eq_true_eq]at h1;have h2:ZL 0 (c::u)=ZL (c-48) u:=by simp[ZL]
 rw[h2];obtain⟨a,b,d⟩:=ke u (c-48) 1 (λx hx=>hmem x (by simp[hx])) om om
 refine⟨om,?_⟩
 simp only[Ae]at hl;obtain⟨j,hj⟩:∃j,18=1+u.length+j:=⟨18-(1+u.length),om⟩
 have h3:(10:Int)^ (1+u.length)<=10^18:=by rw[hj,La _ (1+u.length) j];have h0:=Ki (y:=10) om (1+u.length);exact Zw om (Ki om j)
 omega
theorem JTh:∀(k:Nat) (n m:Int),1<=n->n<=9223372036854775807->upN k n=some m->1<=m/\m<=9223372036854775807
 |0,n,m,h0,h1,h=>by simp only[upN,Option.some.injEq]at h;omega
 |k+1,n,m,h0,h1,h=>by
  simp only[upN]at h
  split at h
  ·cases h
  ·exact JTh k (n*10) m om om h
theorem JOL:∀(k:Nat) (n m:Int),1<=n->n<=9223372036854775807->jn 5 1844674407370955161 k n=some m->1<=m/\m<=9223372036854775807
 |0,n,m,h0,h1,h=>by simp only[jn,Option.some.injEq]at h;omega
 |k+1,n,m,h0,h1,h=>by
  simp only[jn]at h
  split at h
  ·cases h
  ·exact JOL k (n*5) m om om h
theorem JAD{h:JC}{x:Int×Int}:fin Aa [.cell 6 46] h.length (some (.ret,[(6,.ptr h.length 0)],h++[.cells (Jd x)]))=some (.agg (Jd x),h):=by simp only[go_sem,Jd]<;>rfl
theorem f117{lo:Nat}{below:Bool}{ds:List Int}{e:Int}{h:JC}(hd:∀c∈ds,dig c=true)(hl:ds.length<=100000000000)(he0: -2000000000000<=e)(he1:e<=2000000000000)(hlo:lo<=h.length):
  E lo 117 [.v (.bool below),.v (.string (bs ds)),.v (.int .i64 e)] h=some (.agg (Jd (JM2 below ds e)),h):=by
 have hy:By ds:=λc hc=>by have:=hd c hc;simp only[dig,Af,decide_eq_true_eq]at this;omega
 have hdt:=drop_take (· ==48) ds
 have hsum:((ds.takeWhile (· ==48)).length)+(ds.dropWhile (· ==48)).length=ds.length:=by rw[<-Ah,Co]
 have hhead:=JGt (· ==48) ds
 have hmem:∀c∈ds.dropWhile (· ==48),dig c=true:=λc hc=>hd c ((Cp _).subset hc)
 rw[JoJ,pc_in,pc_go _ _ _ _ 0 5,JiJ hy hl hlo];unfold JM2;generalize (ds.takeWhile (· ==48)).length=a at*
 generalize hD:ds.dropWhile (· ==48)=D at*
 cases D with
 |nil=>
  rw[if_pos rfl,Zd]
  exact JAD
 |cons c0 t0=>
  rw[if_neg (by simp),pc_go _ _ _ _ _ 1]
  have hc0:c0≠48:=by have:=hhead c0 t0 rfl;simpa using this
  have ha:ds[a]? =some c0:=by
   have:=congrArg (·[0]?) hdt
   simpa using this
  obtain⟨b',q1,q2,q3,q4⟩:=JiK (lo:=lo) (below:=below) (h:=h) hy hl ha hc0 he0 he1;rw[q4,pc_go _ _ _ _ _ 2,JiL om om hlo];rw[hdt]at q3;have hlen:(core (c0::t0)).length=b'-a:=by rw[<-q3,Ay,AM];omega
  simp only[reduceCtorEq,if_false];by_cases h18:18<b'-a
  ·rw[if_pos h18,if_pos om,Ql,Zd]
   exact JAD
  rw[if_neg h18,if_neg om,pc_go _ _ _ _ _ 3,JiM (JK2 hmem) om om q2 q3,pc_go _ _ _ _ _ 2];obtain⟨n0',n1⟩:=JTg hmem hc0 om;have h1018:(10:Int)^18=1000000000000000000:=by decide
  rw[JiN hlo om om om]
  have hE:e+(((c0::t0).length:Int)-((core (c0::t0)).length:Int))=e+ds.length-b':=by rw[hlen];omega
  rw[hE];generalize ZL 0 (core (c0::t0))=n at*;have hEb: -4000000000000<=e+ds.length-b'/\e+ds.length-b'<=4000000000000:=om;generalize e+(ds.length:Int)-(b':Int)=p at*;unfold zi
  cases hu:upN p.toNat n with
  |none=>
   rw[Ql];simp only;rw[Zd]
   exact JAD
  |some m=>
   obtain⟨m0,m1⟩:=JTh _ _ _ n0' om hu;simp only;have hp0:(if 0<p then(0:Int)else p)<=0:=by split<;>omega
   have hpn:(-(if 0<p then(0:Int)else p)).toNat=(-p).toNat:=by split<;>omega
   rw[pc_go _ _ _ _ _ 3,JiO (by split<;>omega) hp0 m0 m1,hpn]
   obtain⟨a1,b1,c1,d1⟩:=Yp (y:=2) om (-p).toNat m m0;obtain⟨a2,b2,c2,d2⟩:=Yp (y:=5) om (-p).toNat _ b1;generalize Kk 2 (-p).toNat m=r at*;generalize Kk 5 (-p).toNat r.2=s at*;rw[pc_go _ _ _ _ _ 2,JiP hlo];by_cases hov:62<r.1\/27<s.1
   ·rw[if_pos hov,if_pos hov,Ql,Zd]
    exact JAD
   ·rw[if_neg hov,if_neg hov,pc_go _ _ _ _ _ 1,JiQ om,pc_go _ _ _ _ _ 1]
    have h62:(2:Int)^62=4611686018427387904:=by decide
    have g1:=kg (show r.1<=62 by omega)
    have g0:=Ki (y:=2) om r.1;rw[JiR hlo om om om]
    cases hm:jn 5 1844674407370955161 s.1 (2^r.1)with
    |none=>
     simp only[Option.map_none];rw[Ql,Zd]
     exact JAD
    |some d=>obtain⟨d0,d1⟩:=JOL _ _ _ om om hm;simp only[Option.map_some];rw[pc_go _ _ _ _ _ 4,JiS hlo om om om om,Zd];exact JAD
theorem JH9:∀(l:List Int) (e:Int),(∀c∈l,dig c=true)->0<=e->e<=1099511627776->0<=jm e l/\jm e l<=1099511627776
 |[],e,_,h0,h1=>⟨h0,h1⟩
 |c::t,e,hl,h0,h1=>by
  have hc:=hl c (by simp)
  simp only[dig,Af,decide_eq_true_eq]at hc;simp only[jm];exact JH9 t _ (λx hx=>hl x (by simp[hx])) (by split<;>omega) (by split<;>omega)
theorem JTi:∀{l:List Int},(∀c∈l,dig c=true)->l.takeWhile dig=l
 |[],_=>rfl
 |c::t,h=>by rw[Bl (h c (by simp)),JTi λx hx=>h x (by simp[hx])]
section
variable{lo:Nat}{t:List Int}{h:JC}{neg:Bool}
noncomputable abbrev YZ(lo:Nat)(h:JC):Cx:=⟨Aa,E,lo,h.length,h92⟩
abbrev JTj(t:List Int)(h:JC)(i:Int)(neg:Bool)(j:Int)(ds:List Int)(fr:Int)(whole:Bool)(e:Int)(down:Bool)(ex:Jj):Jj×JC:=
 ((0,.v (.string (bs t)))::(2,.ptr h.length 0)::(5,.v (.int .i64 i))::(6,.v (.bool neg))::(7,.v (.int .i64 j))::(8,.v (.string (bs ds)))::(9,.v (.int .i64 fr))::(10,.v (.bool whole))::(11,.v (.int .i64 e))::(12,.v (.bool down))::ex,h++[.cells (Jd (0,0))])
theorem JcY{ds:List Int}{fr:Int}{whole down:Bool}(hy:By t)(hl:t.length<=100000000000):∀(r:List Int) (i:Nat) (e:Int) (x:V),t.drop i=r->i+r.length=t.length->(∀c∈r,dig c=true)->0<=e->e<=1099511627776->
  JA (evCode (YZ lo h) JA JKH) (JTj t h i neg t.length ds fr whole e down [(127,x)])=
   some (.exit 0,JTj t h t.length neg t.length ds fr whole (jm e r) down [(131,.v (.bool false))]):=by
 intro r
 induction r with
 |nil=>
  intro i e x hr hi hd h0 h1;obtain rfl:i=t.length:=by simpa using hi
  have hlt:decide ((t.length:Int)<(t.length:Int))=false:=by simp
  rw[loop_eq]
  simp only[go_sem,YZ,JKH,b92,Tryz.f92,hlt,jm,Jd]<;>rfl
 |cons c r ih=>
  intro i e x hr hi hd h0 h1;simp only[Ae]at hi;have hlt:decide ((i:Int)<(t.length:Int))=true:=by simp;omega
  have hc:t[i]? =some c:=by
   have:=congrArg (·[0]?) hr
   simpa using this
  have hcd:=hd c (by simp)
  simp only[dig,Af,decide_eq_true_eq]at hcd;have hw:=JH (i:=i) om;have w1:Aq.wrap (e*10)=e*10:=JN om om;have w2:AO.wrap (c-48)=c-48:=QC om om;have w3:Aq.wrap (c-48)=c-48:=JN om om;have w4:Aq.wrap (e*10+(c-48))=e*10+(c-48):=JN om om
  have e1:evCode (YZ lo h) JA JKH (JTj t h i neg t.length ds fr whole e down [(127,x)])=
    some (.normal,JTj t h (i+1:Nat) neg t.length ds fr whole (if 1099511627776<e*10+(c-48)then 1099511627776 else e*10+(c-48)) down [(127,.undef)]):=by
   simp only[go_sem,YZ,JKH,b92,Tryz.f92,hlt,Kl hy,hc,w1,w2,w3,w4,hw,Jd]<;>rfl
  rw[loop_eq,e1,JK,ih (i+1) _ .undef (by rw[<-AV,hr]<;>rfl) om (λx hx=>hd x (by simp[hx])) (by split<;>omega) (by split<;>omega)]
  rfl
theorem JiT{k:Nat}(hy:By t)(hl:t.length<=100000000000)(hlo:lo<=h.length)
  (ht:(∃c,t[0]? =some c/\(c==43)=false/\(c==45)=false/\k=0/\neg=false)\/(t[0]? =some 43/\k=1/\neg=false)\/(t[0]? =some 45/\k=1/\neg=true)):
  ∃x,Wc (YZ lo h) JA (pc b92 0 4) (Ku [.v (.string (bs t))],h)=some (.normal,[(0,.v (.string (bs t))),(2,.ptr h.length 0),(5,.v (.int .i64 k)),(6,.v (.bool neg)),(28,x)],h++[.cells (Jd (0,0))]):=by
 have hlen:0<t.length:=by rcases ht with⟨c,h,_⟩|⟨h,_⟩|⟨h,_⟩<;>exact(Ad.1 h).1
 have t0:decide ((0:Int)<(t.length:Int))=true:=by simp;omega
 have z0:(0:Int).toNat=0:=rfl;have w1:Aq.wrap (0+1)=1:=rfl;rcases ht with⟨c,hc,c1,c2,rfl,rfl⟩|⟨hc,rfl,rfl⟩|⟨hc,rfl,rfl⟩
 ·refine⟨.v (.bool false),?_⟩
  simp only[go_sem,YZ,b92,Tryz.f92,bs_size,t0,Kl hy,z0,hc,c1,c2,Jd]<;>rfl
 ·have c1:((43:Int)==43)=true:=rfl
  have c2:((43:Int)==45)=false:=rfl;refine⟨.undef,?_⟩
  simp only[go_sem,YZ,b92,Tryz.f92,bs_size,t0,Kl hy,z0,hc,c1,c2,w1,Jd]<;>rfl
 ·have c1:((45:Int)==43)=false:=rfl
  have c2:((45:Int)==45)=true:=rfl;refine⟨.undef,?_⟩
  simp only[go_sem,YZ,b92,Tryz.f92,bs_size,t0,Kl hy,z0,hc,c1,c2,w1,Jd]<;>rfl
theorem JiU{k j:Nat}{d:List Int}{x:V}{pt:Bool}(hy:By t)(hl:t.length<=100000000000)(hk:k<=t.length)(hj:k+((t.drop k).takeWhile dig).length=j)(hjl:j<=t.length)(hd:(t.take j).drop k=d)
  (hpt:(∃c,t[j]? =some c/\(c==46)=pt)\/(t.length<=j/\pt=false)):
  Wc (YZ lo h) JA (pc b92 4 4) ([(0,.v (.string (bs t))),(2,.ptr h.length 0),(5,.v (.int .i64 k)),(6,.v (.bool neg)),(28,x)],h++[.cells (Jd (0,0))])=
   some (.normal,[(0,.v (.string (bs t))),(2,.ptr h.length 0),(5,.v (.int .i64 j)),(6,.v (.bool neg)),(8,.v (.string (bs d))),(9,.v (.int .i64 0)),(10,.v (.bool true)),(52,.v (.bool pt))],h++[.cells (Jd (0,0))]):=by
 have k152:=λh=>f115 (lo:=lo) (h:=h) hy hl hk
 have hkj:k<=j:=om;simp only[hj]at k152;rcases hpt with⟨c,hc,rfl⟩|⟨hn,rfl⟩
 ·have hlt:=(Ad.1 hc).1
  have t1:decide ((j:Int)<(t.length:Int))=true:=by simp;omega
  simp only[go_sem,YZ,b92,Tryz.f92,bs_size,k152,KN,hd,hkj,hjl,t1,Kl hy,hc,Jd]<;>rfl
 ·have t1:decide ((j:Int)<(t.length:Int))=false:=by simp;omega
  have hnn:t[j]? =none:=Bv hn
  simp only[go_sem,YZ,b92,Tryz.f92,bs_size,k152,KN,hd,hkj,hjl,t1,Kl hy,hnn,Jd]<;>rfl
theorem JcZ{j:Nat}{d:List Int}:Wc (YZ lo h) JA (pc b92 8 1) ([(0,.v (.string (bs t))),(2,.ptr h.length 0),(5,.v (.int .i64 j)),(6,.v (.bool neg)),(8,.v (.string (bs d))),(9,.v (.int .i64 0)),(10,.v (.bool true)),(52,.v (.bool false))],h++[.cells (Jd (0,0))])=
   some (.normal,[(0,.v (.string (bs t))),(2,.ptr h.length 0),(5,.v (.int .i64 j)),(6,.v (.bool neg)),(8,.v (.string (bs d))),(9,.v (.int .i64 0)),(10,.v (.bool true)),(52,.v (.bool false))],h++[.cells (Jd (0,0))]):=by
 simp only[go_sem,YZ,b92,Tryz.f92,Jd]
theorem Jca{j n:Nat}{d f:List Int}(hy:By t)(hl:t.length<=100000000000)(hdl:d.length<=100000000000)(hjl:j+1<=t.length)(hn:j+1+((t.drop (j+1)).takeWhile dig).length=n)(hnl:n<=t.length)(hnj:j+1<n)(hf:(t.take n).drop (j+1)=f):
  Wc (YZ lo h) JA (pc b92 8 1) ([(0,.v (.string (bs t))),(2,.ptr h.length 0),(5,.v (.int .i64 j)),(6,.v (.bool neg)),(8,.v (.string (bs d))),(9,.v (.int .i64 0)),(10,.v (.bool true)),(52,.v (.bool true))],h++[.cells (Jd (0,0))])=
   some (.normal,[(0,.v (.string (bs t))),(2,.ptr h.length 0),(5,.v (.int .i64 n)),(6,.v (.bool neg)),(8,.v (.string (bs (d++f)))),(9,.v (.int .i64 f.length)),(10,.v (.bool false)),(52,.undef)],h++[.cells (Jd (0,0))]):=by
 have hw:=JH (i:=j) om;have k152:=λh=>f115 (lo:=lo) (h:=h) hy hl hjl
 simp only[hn]at k152;have t1:((n:Int)==((j+1:Nat):Int))=false:=by simp;omega
 have hflen:f.length=n-(j+1):=by rw[<-hf,Ay,AM];omega
 have w2:Aq.wrap ((n:Int)-j)=((n-j:Nat):Int):=by rw[JN om om];omega
 have w3:Aq.wrap (((n-j:Nat):Int)-1)=(f.length:Int):=by rw[JN om om];omega
 have hjn:j+1<=n:=om;have hsz:d.length+f.length<=9223372036854775807:=om;simp only[go_sem,YZ,b92,Tryz.f92,bs_size,hw,k152,t1,KN,hf,hjn,hnl,hsz,Jb,w2,w3,Jd]<;>rfl
theorem JYL{j:Nat}{d:List Int}{fr:Int}{whole more:Bool}{x:V}(hd:d≠[])(hm:decide (j<t.length)=more):
  Wc (YZ lo h) JA (pc b92 9 4) ([(0,.v (.string (bs t))),(2,.ptr h.length 0),(5,.v (.int .i64 j)),(6,.v (.bool neg)),(8,.v (.string (bs d))),(9,.v (.int .i64 fr)),(10,.v (.bool whole)),(52,x)],h++[.cells (Jd (0,0))])=
   some (.normal,[(0,.v (.string (bs t))),(2,.ptr h.length 0),(5,.v (.int .i64 j)),(6,.v (.bool neg)),(8,.v (.string (bs d))),(9,.v (.int .i64 fr)),(10,.v (.bool whole)),(11,.v (.int .i64 0)),(80,.v (.bool more))],h++[.cells (Jd (0,0))]):=by
 have t1:((bs d).toList==(⟨#[]⟩:ByteArray).toList)=false:=(WS d).trans (by simp[hd])
 have t2:decide ((j:Int)<(t.length:Int))=more:=by rw[<-hm];simp
 simp only[go_sem,YZ,b92,Tryz.f92,bs_size,t1,t2,Jd]<;>rfl
theorem Jcb{d:List Int}{fr j:Int}{whole:Bool}{y:Int×Int}(hlo:lo<=h.length)(hw:Aq.wrap (0-fr)= -fr)
  (hv:∀h,lo<=h.length->E lo 117 [.v (.bool neg),.v (.string (bs d)),.v (.int .i64 (-fr))] h=some (.agg (Jd y),h)):
  Wc (YZ lo h) JA (pc b92 13 3) ([(0,.v (.string (bs t))),(2,.ptr h.length 0),(5,.v (.int .i64 j)),(6,.v (.bool neg)),(8,.v (.string (bs d))),(9,.v (.int .i64 fr)),(10,.v (.bool whole)),(11,.v (.int .i64 0)),(80,.v (.bool false))],h++[.cells (Jd (0,0))])=
   some (.ret,[(2,.ptr h.length 0),(3,.v (.bool whole)),(4,.v (.int .i64 0))],h++[.cells (Jd y)]):=by
 have k:=hv (h++[.cells (Jd (0,0))]) (by simp;omega)
 simp only[Jd]at k;simp only[go_sem,YZ,b92,Tryz.f92,hw,k,hlo,Jd]<;>rfl
theorem Jcc{d r:List Int}{fr c:Int}{j i:Nat}{whole down:Bool}{y:Int×Int}(hy:By t)(hl:t.length<=100000000000)(hlo:lo<=h.length)
  (hc:t[j]? =some c)(hce:(c !=101&&c !=69)=false)
  (hi:(∃s,t[j+1]? =some s/\(s==43||s==45)=true/\i=j+2/\down=(s==45))\/(∃s,t[j+1]? =some s/\(s==43||s==45)=false/\i=j+1/\down=false))
  (hr:t.drop i=r)(hrd:∀x∈r,dig x=true)(hr0:r≠[])(hil:i+r.length=t.length)(hf0:0<=fr)(hf1:fr<=100000000000)
  (hv:∀h,lo<=h.length->E lo 117 [.v (.bool neg),.v (.string (bs d)),.v (.int .i64 ((if down=true then-jm 0 r else jm 0 r)-fr))] h=some (.agg (Jd y),h)):
  Wc (YZ lo h) JA (pc b92 13 3) ([(0,.v (.string (bs t))),(2,.ptr h.length 0),(5,.v (.int .i64 j)),(6,.v (.bool neg)),(8,.v (.string (bs d))),(9,.v (.int .i64 fr)),(10,.v (.bool whole)),(11,.v (.int .i64 0)),(80,.v (.bool true))],h++[.cells (Jd (0,0))])=
   some (.ret,[(2,.ptr h.length 0),(3,.v (.bool false)),(4,.v (.int .i64 0))],h++[.cells (Jd y)]):=by
 have k:=hv (h++[.cells (Jd (0,0))]) (by simp;omega)
 have w1:Aq.wrap ((j:Int)+1)=((j+1:Nat):Int):=JH (by have:=(Ad.1 hc).1;omega)
 have w2:Aq.wrap (((j+1:Nat):Int)+1)=((j+2:Nat):Int):=JH (by have:=(Ad.1 hc).1;omega)
 have htw:((t.drop i).takeWhile dig).length=r.length:=by rw[hr,JTi hrd]
 have hrl:1<=r.length:=by
  cases r with
  |nil=>exact absurd rfl hr0
  |cons _ _=>simp
 have hil2:i<=t.length:=om;have k152:=λh=>f115 (lo:=lo) (h:=h) hy hl hil2
 simp only[htw,hil]at k152;have t1:((t.length:Int)==(i:Int))=false:=by simp;omega
 have t2:((t.length:Int) !=(t.length:Int))=false:=by simp
 have hL:=JcY (lo:=lo) (h:=h) (neg:=neg) (ds:=d) (fr:=fr) (whole:=false) (down:=down) hy hl r i 0 (.v (.bool false)) hr hil hrd om om;obtain⟨x0,x1⟩:=JH9 r 0 hrd om om;generalize jm 0 r=ee at*;simp only[JTj,YZ,JKH,b92,Tryz.f92,JD,JT,JB,go_sem,Jd]at hL;simp only[Jd]at k;rcases hi with⟨s,hs,hss,rfl,rfl⟩|⟨s,hs,hss,rfl,rfl⟩
 ·have hlt:decide (((j+1:Nat):Int)<(t.length:Int))=true:=by have:=(Ad.1 hs).1;simp;omega
  cases hdn:(s==45)with
  |true=>
   rw[hdn]at k hL;simp only[if_true]at k;have w3:Aq.wrap (0-ee)= -ee:=by rw[JN om om];omega
   have w4:Aq.wrap (-ee-fr)= -ee-fr:=by rw[JN om om]
   simp only[hdn,Bool.or_true]at hss
   simp only[go_sem,YZ,b92,Tryz.f92,bs_size,Kl hy,hc,hce,w1,w2,hs,hss,hdn,hlt,k152,t1,t2,hL,w3,w4,k,hlo,Jd]<;>rfl
  |false=>
   have h43:(s==43)=true:=by simpa[hdn]using hss
   rw[hdn]at k hL hss;simp only[Am,if_false]at k;have w4:Aq.wrap (ee-fr)=ee-fr:=by rw[JN om om]
   simp only[go_sem,YZ,b92,Tryz.f92,bs_size,Kl hy,hc,hce,w1,w2,hs,h43,hdn,hlt,k152,t1,t2,hL,w4,k,hlo,Jd]<;>rfl
 ·have hlt:decide (((j+1:Nat):Int)<(t.length:Int))=true:=by have:=(Ad.1 hs).1;simp;omega
  simp only[Am,if_false]at k;have w4:Aq.wrap (ee-fr)=ee-fr:=by rw[JN om om]
  simp only[go_sem,YZ,b92,Tryz.f92,bs_size,Kl hy,hc,hce,w1,w2,hs,hss,hlt,k152,t1,t2,hL,w4,k,hlo,Jd]<;>rfl
end
theorem JM3{r:List Int}(hr:∀c u,r=c::u->dig c=false):∀{l:List Int},(∀c∈l,dig c=true)->(l++r).takeWhile dig=l
 |[],_=>by
  cases r with
  |nil=>rfl
  |cons c u=>rw[Ai,CC (by simp[hr c u rfl])]
 |c::t,h=>by rw[Al,Bl (h c (by simp)),JM3 hr λx hx=>h x (by simp[hx])]
theorem yl{l:List Int}(h:l.all dig=true):∀c∈l,dig c=true:=λc hc=>List.all_eq_true.1 h c hc
def nmF(n:Nm):List Int:=if n.fr=[]then[]else 46::n.fr
def nmR(n:Nm):List Int:=n.ex++n.d3
theorem nm_text(n:Nm):n.text=n.sg++(n.d1++(nmF n++nmR n)):=by simp[Nm.text,nmF,nmR]
theorem JK3{n:Nm}(ok:n.Ok):∀c u,nmR n=c::u->dig c=false/\(c=101\/c=69):=by
 intro c u h;unfold nmR at h;rcases ok.ex with⟨h1,h2⟩|⟨⟨e,he,h1|h1|h1⟩,h2⟩
 ·rw[h1,h2]at h;cases h
 all_goals
  rw[h1]at h;cases h;rcases he with rfl|rfl
  ·exact⟨rfl,.inl rfl⟩
  ·exact⟨rfl,.inr rfl⟩
theorem JTk{n:Nm}(ok:n.Ok):∀c u,nmF n++nmR n=c::u->dig c=false:=by
 intro c u h;unfold nmF at h
 split at h
 ·exact(JK3 ok c u h).1
 ·cases h;rfl
theorem JiV{n:Nm}(ok:n.Ok):By n.text:=by
 have dg:∀{l:List Int},l.all dig=true->∀c∈l,0<=c/\c<=255:=λh c hc=>by have:=yl h c hc;simp only[dig,Af,decide_eq_true_eq]at this;omega
 intro c hc;rw[nm_text,AN,AN,AN]at hc;rcases hc with hc|hc|hc|hc
 ·rcases ok.sg with h|h|h<;>rw[h]at hc<;>simp at hc<;>subst hc<;>decide
 ·exact dg ok.d1 c hc
 ·unfold nmF at hc
  split at hc
  ·cases hc
  ·rcases A2.1 hc with rfl|hc
   ·decide
   ·exact dg ok.fr c hc
 ·unfold nmR at hc
  rcases AN.1 hc with hc|hc
  ·rcases ok.ex with⟨h1,h2⟩|⟨⟨e,he,h1|h1|h1⟩,h2⟩
   ·rw[h1]at hc;cases hc
   all_goals
    rw[h1]at hc;simp at hc;omega
  ·exact dg ok.d3 c hc
theorem JGu(w:Wr):JSA w=JM2 w.below w.digits (w.exp-w.behind):=rfl
theorem JTl{h:JC}{x:Int×Int}{whole:Bool}:fin Aa [.cell 2 46,.tmp 3,.tmp 4] h.length (some (.ret,[(2,.ptr h.length 0),(3,.v (.bool whole)),(4,.v (.int .i64 0))],h++[.cells (Jd x)]))=some (.tup [.agg (Jd x),.v (.bool whole),.v (.int .i64 0)],h):=by simp only[go_sem,Jd]<;>rfl
theorem f92{lo:Nat}{n:Nm}{h:JC}(ok:n.Ok)(hl:n.text.length<=100000000000)(hlo:lo<=h.length):
  E lo 92 [.v (.string (bs n.text))] h=some (.tup [.agg (Jd n.num.1),.v (.bool n.num.2),.v (.int .i64 0)],h):=by
 have hy:=JiV ok;have hT:=nm_text n;have hF:=JTk ok;have hRh:=JK3 ok;obtain⟨k,hk⟩:∃k,n.sg.length=k:=⟨_,rfl⟩;obtain⟨j,hj⟩:∃j,k+n.d1.length=j:=⟨_,rfl⟩;obtain⟨m,hm⟩:∃m,j+(nmF n).length=m:=⟨_,rfl⟩;generalize n.text=t at*;have hlen:t.length=m+(nmR n).length:=by rw[hT];simp;omega
 have D1:t.drop k=n.d1++(nmF n++nmR n):=by rw[hT,<-hk,CF]
 have D2:t.drop j=nmF n++nmR n:=by rw[<-hj,<-AV,D1,CF]
 have D3:t.drop m=nmR n:=by rw[<-hm,<-AV,D2,CF]
 have at_:∀i,t[i]? =(t.drop i)[0]? :=λi=>by simp
 have hd1:=yl ok.d1;have hfr:=yl ok.fr;have hd3:=yl ok.d3
 have ht0:(∃c,t[0]? =some c/\(c==43)=false/\(c==45)=false/\k=0/\(n.sg==[45])=false)\/(t[0]? =some 43/\k=1/\(n.sg==[45])=false)\/(t[0]? =some 45/\k=1/\(n.sg==[45])=true):=by
  rcases ok.sg with hs|hs|hs
  ·left
   rw[hs]at hk hT⊢;rw[Ai]at hT
   cases hd:n.d1 with
   |cons c u=>
    have hc:=hd1 c (by rw[hd];simp)
    simp only[dig,Af,decide_eq_true_eq]at hc
    exact⟨c,by rw[hT,hd]<;>rfl,by simp;omega,by simp;omega,hk.symm,rfl⟩
   |nil=>
    have hne:n.fr≠[]:=λh=>ok.some (by rw[hd,h]<;>rfl)
    exact⟨46,by rw[hT,hd];unfold nmF;rw[if_neg hne]<;>rfl,rfl,rfl,hk.symm,rfl⟩
  ·exact .inr (.inl ⟨by rw[hT,hs]<;>rfl,by rw[<-hk,hs]<;>rfl,by rw[hs]<;>rfl⟩)
  ·exact .inr (.inr ⟨by rw[hT,hs]<;>rfl,by rw[<-hk,hs]<;>rfl,by rw[hs]<;>rfl⟩)
 obtain⟨x,hA⟩:=JiT (lo:=lo) (h:=h) (neg:=n.sg==[45]) hy hl hlo ht0;rw[e92,pc_in,pc_go _ _ _ _ 0 4,hA,pc_go _ _ _ _ _ 4];have htw:((t.drop k).takeWhile dig).length=n.d1.length:=by rw[D1,JM3 hF hd1]
 have hex1:(t.take j).drop k=n.d1:=by rw[<-hj,<-GF,D1,CR]
 rw[JiU (pt:= !n.fr.isEmpty) hy hl om om om hex1 (by
  cases hfe:n.fr with
  |cons c u=>exact .inl ⟨46,by rw[at_,D2];unfold nmF;rw[hfe]<;>rfl,rfl⟩
  |nil=>
   cases hr:nmR n with
   |nil=>exact .inr ⟨by rw[hlen,hr,<-hm];unfold nmF;rw[hfe];simp,rfl⟩
   |cons c u=>
    refine .inl ⟨c,by rw[at_,D2,hr];unfold nmF;rw[hfe]<;>rfl,?_⟩
    rcases(hRh c u hr).2 with rfl|rfl<;>rfl)]
 rw[pc_go _ _ _ _ _ 1]
 have hB:∃y,Wc (YZ lo h) JA (pc b92 8 1) ([(0,.v (.string (bs t))),(2,.ptr h.length 0),(5,.v (.int .i64 j)),(6,.v (.bool (n.sg==[45]))),(8,.v (.string (bs n.d1))),(9,.v (.int .i64 0)),(10,.v (.bool true)),(52,.v (.bool (!n.fr.isEmpty)))],h++[.cells (Jd (0,0))])=
   some (.normal,[(0,.v (.string (bs t))),(2,.ptr h.length 0),(5,.v (.int .i64 m)),(6,.v (.bool (n.sg==[45]))),(8,.v (.string (bs (n.d1++n.fr)))),(9,.v (.int .i64 n.fr.length)),(10,.v (.bool n.fr.isEmpty)),(52,y)],h++[.cells (Jd (0,0))]):=by
  cases hfe:n.fr with
  |nil=>
   have:m=j:=by rw[<-hm];unfold nmF;rw[hfe];simp
   subst this;refine⟨.v (.bool false),?_⟩
   rw[List.append_nil]
   exact JcZ
  |cons c u=>
   have hnF:nmF n=46::n.fr:=by unfold nmF;rw[if_neg (by simp[hfe])]
   have D2':t.drop (j+1)=n.fr++nmR n:=by rw[<-AV,D2,hnF]<;>rfl
   have hm':m=j+1+n.fr.length:=by rw[<-hm,hnF];simp;omega
   have h1:((t.drop (j+1)).takeWhile dig).length=n.fr.length:=by rw[D2',JM3 (λc u h=>(hRh c u h).1) hfr]
   have h2:(t.take m).drop (j+1)=n.fr:=by rw[hm',<-GF,D2',CR]
   have hpos:0<n.fr.length:=by rw[hfe];simp
   refine⟨.undef,?_⟩
   have:=Jca (lo:=lo) (h:=h) (neg:=n.sg==[45]) (j:=j) (n:=m) (d:=n.d1) (f:=n.fr) hy hl om om om om om h2;rw[<-hfe];simpa[hfe]using this
 obtain⟨y,hB⟩:=hB;rw[hB,pc_go _ _ _ _ _ 4];have hne:n.d1++n.fr≠[]:=ok.some
 have hall:∀c∈n.d1++n.fr,dig c=true:=λc hc=>by
  rcases AN.1 hc with hc|hc
  ·exact hd1 c hc
  ·exact hfr c hc
 have hfl:n.fr.length<=(nmF n).length:=by unfold nmF;split<;>simp_all
 have hsz:(n.d1++n.fr).length<=100000000000:=by simp;omega
 rcases ok.ex with⟨h1,h2⟩|⟨⟨e,he,hx⟩,h2⟩
 ·have hr:nmR n=[]:=by unfold nmR;rw[h1,h2]<;>rfl
  rw[JYL (more:=false) hne (by rw[hlen,hr];simp),pc_go _ _ _ _ _ 3]
  have hq:n.num=(JM2 (n.sg==[45]) (n.d1++n.fr) (-(n.fr.length:Int)),n.fr.isEmpty):=by unfold Nm.num;rw[JGu];simp[Nm.wr,h1,h2,chr,jm]
  rw[hq,Jcb (y:=JM2 (n.sg==[45]) (n.d1++n.fr) (-(n.fr.length:Int))) hlo (by rw[JN om om];omega) (λh hh=>f117 hall hsz om om hh),Zd]
  exact JTl
 ·have hd3l:0<n.d3.length:=by
   cases hd:n.d3 with
   |nil=>exact absurd hd h2
   |cons _ _=>simp
  obtain⟨s3,u3,hs3⟩:∃s u,n.d3=s::u:=by
   cases hd:n.d3 with
   |nil=>exact absurd hd h2
   |cons s u=>exact⟨s,u,rfl⟩
  have hs3d:=hd3 s3 (by rw[hs3];simp)
  simp only[dig,Af,decide_eq_true_eq]at hs3d;have hexl:n.ex≠[]:=by rcases hx with h|h|h<;>rw[h]<;>simp
  have hrl:(nmR n).length=n.ex.length+n.d3.length:=by simp[nmR]
  have hxl:0<n.ex.length:=by rcases hx with h|h|h<;>rw[h]<;>simp
  rw[JYL (more:=true) hne (by rw[hlen];simp;omega),pc_go _ _ _ _ _ 3]
  have hce:(e !=101&&e !=69)=false:=by rcases he with rfl|rfl<;>rfl
  obtain⟨x0,x1⟩:=JH9 n.d3 0 hd3 om om
  have hq:n.num=(JM2 (n.sg==[45]) (n.d1++n.fr) ((if(chr n.ex 1==45)=true then-jm 0 n.d3 else jm 0 n.d3)-(n.fr.length:Int)),false):=by
   unfold Nm.num;rw[JGu];have:n.ex.isEmpty=false:=by rcases hx with h|h|h<;>rw[h]<;>rfl
   simp[Nm.wr,this]
  have hat0:t[m]? =some e:=by rw[at_,D3];unfold nmR;rcases hx with h|h|h<;>rw[h]<;>rfl
  have D3':t.drop (m+n.ex.length)=n.d3:=by rw[<-AV,D3];unfold nmR;rw[CF]
  have hi:(∃s,t[m+1]? =some s/\(s==43||s==45)=true/\m+n.ex.length=m+2/\(chr n.ex 1==45)=(s==45))\/(∃s,t[m+1]? =some s/\(s==43||s==45)=false/\m+n.ex.length=m+1/\(chr n.ex 1==45)=false):=by
   have a1:t[m+1]? =(nmR n)[1]? :=by rw[<-D3];simp
   rw[a1];unfold nmR;rcases hx with h|h|h
   ·right
    rw[h,hs3];refine⟨s3,rfl,?_,rfl,rfl⟩
    simp;omega
   ·left;rw[h];exact⟨43,rfl,rfl,rfl,rfl⟩
   ·left;rw[h];exact⟨45,rfl,rfl,rfl,rfl⟩
  rw[hq,Jcc (y:=JM2 (n.sg==[45]) (n.d1++n.fr) ((if(chr n.ex 1==45)=true then-jm 0 n.d3 else jm 0 n.d3)-(n.fr.length:Int))) hy hl hlo hat0 hce hi D3' hd3 h2 (by rw[hlen,hrl];omega) om om (λh hh=>f117 hall hsz (by split<;>omega) (by split<;>omega) hh),Zd]
  exact JTl
def Asc(l:List Int):Prop:=∀c∈l,0<=c/\c<128
theorem JK4{c:Int}(h:0<=c/\c<128):JQ c=c:=by unfold JQ;rw[if_neg];simp;omega
theorem ym{x c:Int}(h:JQ x=c)(hc:c<128):x=c:=by
 unfold JQ at h
 split at h
 ·omega
 ·exact h
theorem JK5:∀{l:List Int},Asc l->JJ l=l
 |[],_=>rfl
 |c::t,h=>by
  have hc:=h c (by simp)
  have e:JJ (c::t)=enc (JQ c)++JJ t:=rfl;rw[e,JK5 λx hx=>h x (by simp[hx]),JK4 hc]
  unfold enc;simp[hc.2]
theorem JOM:∀{l t:List Int},l.map JQ=t->Asc t->l=t
 |[],t,h,_=>by simpa using h
 |x::l,[],h,_=>by simp at h
 |x::l,c::t,h,ha=>by simp only[List.map_cons,List.cons.injEq]at h;rw[ym h.1 (ha c (by simp)).2,JOM h.2 λy hy=>ha y (by simp[hy])]
theorem Jcd{n:Nm}(ok:n.Ok):Asc n.text:=by
 have dg:∀{l:List Int},l.all dig=true->∀c∈l,0<=c/\c<128:=λh c hc=>by have:=yl h c hc;simp only[dig,Af,decide_eq_true_eq]at this;omega
 intro c hc;rw[nm_text,AN,AN,AN]at hc;rcases hc with hc|hc|hc|hc
 ·rcases ok.sg with h|h|h<;>rw[h]at hc<;>simp at hc<;>subst hc<;>decide
 ·exact dg ok.d1 c hc
 ·unfold nmF at hc
  split at hc
  ·cases hc
  ·rcases A2.1 hc with rfl|hc
   ·decide
   ·exact dg ok.fr c hc
 ·unfold nmR at hc
  rcases AN.1 hc with hc|hc
  ·rcases ok.ex with⟨h1,h2⟩|⟨⟨e,he,h1|h1|h1⟩,h2⟩
   ·rw[h1]at hc;cases hc
   all_goals
    rw[h1]at hc;simp at hc;omega
  ·exact dg ok.d3 c hc
theorem JXG{l t:List Int}{i j:Nat}(hij:i<=j)(hj:j<=l.length)(hs:suf l i=t++suf l j)(ha:Asc t):(l.take j).drop i=t:=by
 have hlen:=congrArg AW hs;rw[Ah,Kz,Kz]at hlen;refine JOM ?_ ha
 rw[DP,DO]
 have h1:((l.map JQ).take j).drop i=(suf l i).take (j-i):=by unfold suf;rw[List.drop_take]
 rw[h1,hs];have h2:j-i=t.length:=om;rw[h2,CR]
theorem JTm(k:IntKind)(l:List Int)(a b:Nat):((ri k l).take b).drop a=ri k ((l.take b).drop a):=by simp[ri,DP,DO]
def tkC(t:Tk):List V:=[.v (.int .i64 t.kind),.v (.string (str t.text)),.v (.int .i64 t.num.1),.v (.int .i64 t.num.2),.v (.bool t.whole),.v (.bool t.id)]
section
variable{lo i j:Nat}{l:List Int}{p q:List Ob}
noncomputable abbrev Zb(lo:Nat)(p q:List Ob):Cx:=⟨Aa,E,lo,p.length+(q.length+1),h62⟩
abbrev H80(p q:List Ob)(l:List Int)(j:Nat)(more:List Ob):JC:=p++R l j::(q++(.cells (tokC 0 [])::more))
abbrev P80(p q:List Ob)(l:List Int)(i j:Nat)(ex:Jj):Jj×JC:=
 ((0,.ptr p.length 0)::(2,.ptr (p.length+(q.length+1)) 0)::(3,.v (.int .i64 i))::ex,H80 p q l j [])
theorem Jpv(hl:l.length<=100000000000)(hi:i<=l.length):∃j,j<=l.length/\i<=j/\suf l j=(if(chr (suf l i) 0==43||chr (suf l i) 0==45)=true then(suf l i).drop 1 else suf l i)/\
  ∃x,∀lo p q,lo<=p.length->Wc (Zb lo p q) JA (pc b62 0 5) (Ku [.ptr p.length 0],p++R l i::q)=some (.normal,P80 p q l i j [(23,x)]):=by
 have k0:=λlo p q=>f35 (lo:=lo) (l:=l) (i:=i) (p:=p) (q:=q) (k:=0) om
 have hw:=JH (i:=i) om;simp only[n0]at k0;generalize hc:chr (suf l i) 0=c at*;by_cases hs:(c==43||c==45)=true
 ·have hne:i<l.length:=by
   rcases AG i l.length with h|h
   ·exact h
   ·rw[Jz h]at hc
    rw[<-hc]at hs;exact absurd hs (by decide)
  rw[if_pos hs];refine⟨i+1,om,om,by simp[suf,AV],?_⟩
  cases h43:(c==43)with
  |true=>
   refine⟨.v (.bool true),λlo p q hlo=>?_⟩
   simp only[go_sem,Zb,P80,H80,b62,Tryz.f62,k0,h43,hw,hlo,tokC,str_nil]<;>rfl
  |false=>
   have h45:(c==45)=true:=by simpa[h43]using hs
   refine⟨.v (.bool true),λlo p q hlo=>?_⟩
   simp only[go_sem,Zb,P80,H80,b62,Tryz.f62,k0,h43,h45,hw,hlo,tokC,str_nil]<;>rfl
 ·rw[if_neg hs]
  have h43:(c==43)=false:=by simp at hs⊢;omega
  have h45:(c==45)=false:=by simp at hs⊢;omega
  refine⟨i,hi,Ab _,rfl,.v (.bool false),λlo p q hlo=>?_⟩
  simp only[go_sem,Zb,P80,H80,b62,Tryz.f62,k0,h43,h45,hw,hlo,tokC,str_nil]<;>rfl
theorem Jpw{x:V}(hl:l.length<=100000000000)(hj:j<=l.length):∃j',j'<=l.length/\j<=j'/\
  suf l j'=(if(chr ((suf l j).dropWhile dig) 0==46&&dig (chr ((suf l j).dropWhile dig) 1))=true then(((suf l j).dropWhile dig).drop 1).dropWhile dig else(suf l j).dropWhile dig)/\
  ∃y,∀lo p q (i:Nat),lo<=p.length->Wc (Zb lo p q) JA (pc b62 5 3) (P80 p q l i j [(23,x)])=some (.normal,P80 p q l i j' [(40,y)]):=by
 obtain⟨j1,a1,a2,a3,a4⟩:=f91 (l:=l) (i:=j) hl hj;have k0:=λlo p q=>f35 (lo:=lo) (l:=l) (i:=j1) (p:=p) (q:=q) (k:=0) om
 have k1:=λlo p q=>f35 (lo:=lo) (l:=l) (i:=j1) (p:=p) (q:=q) (k:=1) om
 have hw:=JH (i:=j1) om;have n1:((1:Nat):Int)=1:=rfl;simp only[n0,n1]at k0 k1;rw[<-a3];by_cases hf:(chr (suf l j1) 0==46&&dig (chr (suf l j1) 1))=true
 ·rw[if_pos hf]
  rw[Af]at hf;obtain⟨h46,hd⟩:=hf
  have hne:j1<l.length:=by
   rcases AG j1 l.length with h|h
   ·exact h
   ·rw[Jz h]at h46
    exact absurd h46 (by decide)
  obtain⟨j2,b1,b2,b3,b4⟩:=f91 (l:=l) (i:=j1+1) hl om;refine⟨j2,b1,om,by rw[b3];simp[suf,AV],.undef,λlo p q i hlo=>?_⟩
  simp only[go_sem,Zb,P80,H80,b62,Tryz.f62,a4 _ _ _ hlo,k0,k1,f90,h46,hd,hw,hlo,b4 _ _ _ hlo,tokC,str_nil]<;>rfl
 ·rw[if_neg hf]
  refine⟨j1,a1,a2,rfl,.v (.bool false),λlo p q i hlo=>?_⟩
  cases h46:(chr (suf l j1) 0==46)with
  |true=>
   have hd:dig (chr (suf l j1) 1)=false:=by simpa[h46]using hf
   simp only[go_sem,Zb,P80,H80,b62,Tryz.f62,a4 _ _ _ hlo,k0,k1,f90,h46,hd,tokC,str_nil]<;>rfl
  |false=>simp only[go_sem,Zb,P80,H80,b62,Tryz.f62,a4 _ _ _ hlo,k0,k1,f90,h46,tokC,str_nil]<;>rfl
theorem Jpx{x:V}(hl:l.length<=100000000000)(hj:j<=l.length):∃j',j'<=l.length/\j<=j'/\
  suf l j'=(if((chr (suf l j) 0==101||chr (suf l j) 0==69)&&dig (chr (suf l j) (if(chr (suf l j) 1==43||chr (suf l j) 1==45)=true then 2 else 1)))=true
   then((suf l j).drop (if(chr (suf l j) 1==43||chr (suf l j) 1==45)=true then 2 else 1)).dropWhile dig else suf l j)/\
  ∃ex:Jj,((∃x,ex=[(57,x)])\/ ∃x y,ex=[(6,x),(69,y)])/\ ∀lo p q (i:Nat),lo<=p.length->Wc (Zb lo p q) JA (pc b62 8 3) (P80 p q l i j [(40,x)])=some (.normal,P80 p q l i j' ex):=by
 have k0:=λlo p q=>f35 (lo:=lo) (l:=l) (i:=j) (p:=p) (q:=q) (k:=0) om
 have k1:=λlo p q=>f35 (lo:=lo) (l:=l) (i:=j) (p:=p) (q:=q) (k:=1) om
 have k2:=λlo p q=>f35 (lo:=lo) (l:=l) (i:=j) (p:=p) (q:=q) (k:=2) om
 have hw1:=JH (i:=j) om;have hw2:Aq.wrap ((j:Int)+2)=((j+2:Nat):Int):=by rw[JN om om];omega
 have n1:((1:Nat):Int)=1:=rfl;have n2:((2:Nat):Int)=2:=rfl;simp only[n0,n1,n2]at k0 k1 k2;have hlen:=Kz l j;by_cases he:(chr (suf l j) 0==101||chr (suf l j) 0==69)=true
 rotate_left
 ·rw[CS]at he
  rw[he,Bool.false_and,if_neg (by simp)]
  rw[C6]at he;obtain⟨h1,h2⟩:=he;refine⟨j,hj,Ab _,rfl,[(57,.v (.bool false))],.inl ⟨_,rfl⟩,λlo p q i hlo=>?_⟩
  simp only[go_sem,Zb,P80,H80,b62,Tryz.f62,k0,h1,h2,tokC,str_nil]<;>rfl
 rw[he,Bool.true_and];by_cases hs:(chr (suf l j) 1==43||chr (suf l j) 1==45)=true
 ·rw[if_pos hs]
  by_cases hd:dig (chr (suf l j) 2)=true
  ·rw[if_pos hd]
   have hne:j+2<=l.length:=by
    rcases AG (j+1) l.length with h|h
    ·omega
    ·exfalso
     have:chr (suf l j) 1= -1:=by simp only[chr];rw[Bv om]
     rw[this]at hs;exact absurd hs (by decide)
   obtain⟨j2,b1,b2,b3,b4⟩:=f91 (l:=l) (i:=j+2) hl om;refine⟨j2,b1,om,by rw[b3];simp[suf,AV],[(57,.undef)],.inl ⟨_,rfl⟩,λlo p q i hlo=>?_⟩
   cases h1:(chr (suf l j) 0==101)<;>cases h43:(chr (suf l j) 1==43)<;>simp only[h1,h43,Bb,B1]at he hs<;>
    simp only[go_sem,Zb,P80,H80,b62,Tryz.f62,k0,k1,k2,f90,h1,he,h43,hs,hd,hw2,hlo,b4 _ _ _ hlo,tokC,str_nil]<;>rfl
  ·rw[if_neg hd]
   rw[CS]at hd;refine⟨j,hj,Ab _,rfl,[(6,.v (.int .i64 2)),(69,.v (.bool false))],.inr ⟨_,_,rfl⟩,λlo p q i hlo=>?_⟩
   cases h1:(chr (suf l j) 0==101)<;>cases h43:(chr (suf l j) 1==43)<;>simp only[h1,h43,Bb,B1]at he hs<;>
    simp only[go_sem,Zb,P80,H80,b62,Tryz.f62,k0,k1,k2,f90,h1,he,h43,hs,hd,tokC,str_nil]<;>rfl
 ·rw[if_neg hs]
  rw[CS,C6]at hs;obtain⟨h43,h45⟩:=hs;by_cases hd:dig (chr (suf l j) 1)=true
  ·rw[if_pos hd]
   have hne:j+1<=l.length:=by
    rcases AG j l.length with h|h
    ·omega
    ·exfalso
     rw[Jz h]at he;exact absurd he (by decide)
   obtain⟨j2,b1,b2,b3,b4⟩:=f91 (l:=l) (i:=j+1) hl om;refine⟨j2,b1,om,by rw[b3];simp[suf,AV],[(57,.undef)],.inl ⟨_,rfl⟩,λlo p q i hlo=>?_⟩
   cases h1:(chr (suf l j) 0==101)<;>simp only[h1,Bb,B1]at he<;>
    simp only[go_sem,Zb,P80,H80,b62,Tryz.f62,k0,k1,k2,f90,h1,he,h43,h45,hd,hw1,hlo,b4 _ _ _ hlo,tokC,str_nil]<;>rfl
  ·rw[if_neg hd]
   rw[CS]at hd;refine⟨j,hj,Ab _,rfl,[(6,.v (.int .i64 1)),(69,.v (.bool false))],.inr ⟨_,_,rfl⟩,λlo p q i hlo=>?_⟩
   cases h1:(chr (suf l j) 0==101)<;>simp only[h1,Bb,B1]at he<;>
    simp only[go_sem,Zb,P80,H80,b62,Tryz.f62,k0,k1,k2,f90,h1,he,h43,h45,hd,tokC,str_nil]<;>rfl
end
section
variable{lo i j:Nat}{l:List Int}{p q:List Ob}
theorem JXH{t:List Int}(h:Asc t):str t=bs t:=by unfold str bs;rw[JK5 h]
theorem Jpy{n:Nm}(hl:l.length<=100000000000)(hij:i<=j)(hj:j<=l.length)(ok:n.Ok)(hs:suf l i=n.text++suf l j){ex:Jj}(hex:(∃x,ex=[(57,x)])\/ ∃x y,ex=[(6,x),(69,y)])(hlo:lo<=p.length)(hlo2:lo<=p.length+(q.length+2)):
  Wc (Zb lo p q) JA (pc b62 11 1) (P80 p q l i j ex)=some (.normal,[(0,.ptr p.length 0),(2,.ptr (p.length+(q.length+1)) 0),(8,.ptr (p.length+(q.length+2)) 0),(9,.v (.bool n.num.2))],H80 p q l j [.cells (Jd n.num.1)]):=by
 have hasc:=Jcd ok;have hbt:=JXG hij hj hs hasc
 have hlen:n.text.length<=100000000000:=by have:=congrArg AW hs;rw[Kz,Ah]at this;omega
 have k82:∀lo h,E lo 64 [.list .no (ri .i32 n.text)] h=some (.v (.string (bs n.text)),h):=λlo h=>by rw[f64 om,JXH hasc]
 have k120:∀lo h,lo<=h.length->E lo 92 [.v (.string (bs n.text))] h=some (.tup [.agg (Jd n.num.1),.v (.bool n.num.2),.v (.int .i64 0)],h):=λlo h hh=>f92 ok hlen hh
 simp only[Jd]at k120;have hlA:∀h:JC,h.length<=h.length:=λh=>Ab _
 rcases hex with⟨x,rfl⟩|⟨x,y,rfl⟩
 ·simp only[go_sem,Zb,P80,H80,b62,Tryz.f62,JTm,hbt,hij,hj,k82,k120,Ab,hlo,hlo2,tokC,str_nil,Jd]<;>rfl
 ·simp only[go_sem,Zb,P80,H80,b62,Tryz.f62,JTm,hbt,hij,hj,k82,k120,Ab,hlo,hlo2,tokC,str_nil,Jd]<;>rfl
theorem Jpz{n:Nm}(hlo:lo<=p.length)(hlo2:lo<=p.length+(q.length+3)):
  Wc (Zb lo p q) JA (pc b62 12 1) ([(0,.ptr p.length 0),(2,.ptr (p.length+(q.length+1)) 0),(8,.ptr (p.length+(q.length+2)) 0),(9,.v (.bool n.num.2))],H80 p q l j [.cells (Jd n.num.1)])=
   some (.normal,[(0,.ptr p.length 0),(2,.ptr (p.length+(q.length+1)) 0),(11,.ptr (p.length+(q.length+3)) 0)],H80 p q l j [.cells (Jd n.num.1),.cells (tkC ⟨10,[],n.num.1,n.num.2,false⟩)]):=by
 simp only[go_sem,Zb,H80,b62,Tryz.f62,hlo2,tokC,tkC,str_nil,Jd]<;>rfl
theorem Jp0{r:List V}{m:Int×Int}{w:Bool}(hl:l.length<=100000000000)(hj:j<=l.length):∃j',j'<=l.length/\j<=j'/\
  ∃t:Tk,(t,suf l j')=(if beg (chr (suf l j) 0) (chr (suf l j) 1) (chr (suf l j) 2)=true then(⟨12,(name (suf l j)).1,m,w,false⟩,(name (suf l j)).2)
   else if chr (suf l j) 0=37 then(⟨11,[],m,w,false⟩,(suf l j).drop 1)else(⟨10,[],m,w,false⟩,suf l j))/\
  ∀lo p q,lo<=p.length->lo<=p.length+(q.length+1)->lo<=p.length+(q.length+3)->
   Wc (Zb lo p q) JA (pc b62 13 4) ([(0,.ptr p.length 0),(2,.ptr (p.length+(q.length+1)) 0),(11,.ptr (p.length+(q.length+3)) 0)],H80 p q l j [.cells r,.cells (tkC ⟨10,[],m,w,false⟩)])=
    some (.ret,[(2,.ptr (p.length+(q.length+1)) 0)],p++R l j'::(q++[.cells (tkC t),.cells r,.cells (tkC t)])):=by
 have k0:=λlo p q=>f35 (lo:=lo) (l:=l) (i:=j) (p:=p) (q:=q) (k:=0) om
 have k1:=λlo p q=>f35 (lo:=lo) (l:=l) (i:=j) (p:=p) (q:=q) (k:=1) om
 have k2:=λlo p q=>f35 (lo:=lo) (l:=l) (i:=j) (p:=p) (q:=q) (k:=2) om
 have hw1:=JH (i:=j) om;have n1:((1:Nat):Int)=1:=rfl;have n2:((2:Nat):Int)=2:=rfl;simp only[n0,n1,n2]at k0 k1 k2;by_cases hb:beg (chr (suf l j) 0) (chr (suf l j) 1) (chr (suf l j) 2)=true
 ·obtain⟨j2,b1,b2,b3,b4⟩:=f60 (l:=l) (i:=j) hl hj
  refine⟨j2,b1,b2,⟨12,(name (suf l j)).1,m,w,false⟩,by rw[if_pos hb,b3],λlo p q hlo hlo2 hlo3=>?_⟩
  simp only[go_sem,Zb,H80,b62,Tryz.f62,k0,k1,k2,f59,hb,b4 _ _ _ hlo,hlo,hlo2,hlo3,tokC,tkC,str_nil]<;>rfl
 ·rw[if_neg hb]
  rw[CS]at hb;by_cases h37:chr (suf l j) 0=37
  ·have hne:j<l.length:=by
    rcases AG j l.length with h|h
    ·exact h
    ·rw[Jz h]at h37;cases h37
   rw[if_pos h37];have t37:(chr (suf l j) 0==37)=true:=by simp[h37]
   refine⟨j+1,om,om,⟨11,[],m,w,false⟩,by simp[suf,AV],λlo p q hlo hlo2 hlo3=>?_⟩
   simp only[go_sem,Zb,H80,b62,Tryz.f62,k0,k1,k2,f59,hb,t37,hw1,hlo,hlo2,hlo3,tokC,tkC,str_nil]<;>rfl
  ·rw[if_neg h37]
   have t37:(chr (suf l j) 0==37)=false:=by simp[h37]
   refine⟨j,hj,Ab _,⟨10,[],m,w,false⟩,rfl,λlo p q hlo hlo2 hlo3=>?_⟩
   simp only[go_sem,Zb,H80,b62,Tryz.f62,k0,k1,k2,f59,hb,t37,hlo,hlo2,hlo3,tokC,tkC,str_nil]<;>rfl
theorem JYM{t:Tk}{h r r2:List Ob}{o:Ob}:fin Aa [.cell 2 48] (p.length+(q.length+1)) (some (.ret,[(2,.ptr (p.length+(q.length+1)) 0)],p++o::(q++ .cells (tkC t)::r)))=some (.agg (tkC t),p++o::q):=by simp only[go_sem,tkC]<;>rfl
theorem f62(hl:l.length<=100000000000)(hi:i<=l.length)(hn:num (chr (suf l i) 0) (chr (suf l i) 1) (chr (suf l i) 2)=true):
  ∃j,j<=l.length/\i<=j/\suf l j=(YW (suf l i)).2/\
   ∀lo p q,lo<=p.length->E lo 62 [.ptr p.length 0] (p++R l i::q)=some (.agg (tkC (YW (suf l i)).1),p++R l j::q):=by
 obtain⟨j1,a1,a2,a3,x,a4⟩:=Jpv (l:=l) (i:=i) hl hi;obtain⟨j2,b1,b2,b3,y,b4⟩:=Jpw (l:=l) (j:=j1) (x:=x) hl a1;obtain⟨j3,c1,c2,c3,ex,hex,c4⟩:=Jpx (l:=l) (j:=j2) (x:=y) hl b1
 have hrest:suf l j3=(HW (suf l i)).2:=by rw[c3,b3,a3];unfold HW;simp only
 have hok:=JHc hn;have htext:=zj (suf l i);rw[<-hrest]at htext;obtain⟨j4,d1,d2,t,d3,d4⟩:=Jp0 (l:=l) (j:=j3) (r:=Jd (HW (suf l i)).1.num.1) (m:=(HW (suf l i)).1.num.1) (w:=(HW (suf l i)).1.num.2) hl c1
 have hfig:(t,suf l j4)=YW (suf l i):=by rw[d3,hrest];unfold YW;simp only
 refine⟨j4,d1,om,by rw[<-hfig],λlo p q hlo=>?_⟩
 have hlo1:lo<=p.length+(q.length+1):=om;have hlo2:lo<=p.length+(q.length+2):=om;have hlo3:lo<=p.length+(q.length+3):=om;have hH:(p++R l i::q).length=p.length+(q.length+1):=by simp
 rw[e62,hH]
 rw[pc_in,pc_go _ _ _ _ 0 5,a4 lo p q hlo,pc_go _ _ _ _ _ 3,b4 lo p q i hlo,pc_go _ _ _ _ _ 3,c4 lo p q i hlo,pc_go _ _ _ _ _ 1,
  Jpy hl om c1 hok htext.symm hex hlo hlo2,pc_go _ _ _ _ _ 1,Jpz hlo hlo3,pc_go _ _ _ _ _ 4,d4 lo p q hlo hlo1 hlo3,Zd,<-hfig]
 exact JYM (h:=[]) (r2:=[])
end
end Go.Lift.M1.T
end
