/- The reference's value of digits, second part: powers of ten. -/
import Derived.Lib.MapLaws
import Derived.Lib.DecodeN
import Derived.Test.YtolidijpmnompaaGreatDoorGKb
import Derived.Test.YtolidijpmnompaaGreatDoorGKh
open Bool renaming and_eq_true->Af,false_eq_true->Al,false_or->A3,not_eq_true->CH,or_eq_false_iff->Dh,true_or->Bp
open Go.IntKind renaming i64->Am,u64->Ba
open Go.Proofs.Tryz renaming prog->Aa
open Go.Value renaming int->A9
open Int renaming tdiv_eq_ediv_of_nonneg->DV,tmod_eq_emod_of_nonneg->Cj
open List renaming cons_append->AA,dropWhile_cons_of_neg->Bn,dropWhile_cons_of_pos->Bz,dropWhile_sublist->BH,drop_drop->AY,drop_left->CF,getElem?_eq_none->B2,getElem?_eq_some_iff->Ab,length->Bq,length_append->Ao,length_cons->Ae,length_drop->AB,length_take->Az,map_cons->A2,map_drop->DR,map_take->DQ,mem_append->AO,mem_cons->AP,nil_append->Au,takeWhile_append_dropWhile->Ct,takeWhile_cons_of_neg->Ci,takeWhile_cons_of_pos->Be,take_drop->Le,take_left->CG
open List.cons renaming injEq->Cb
open Nat renaming le_refl->Ad,lt_or_ge->Ay,zero_add->AC
set_option linter.unusedVariables false
set_option linter.unusedSimpArgs false
set_option linter.unusedSectionVars false
set_option maxRecDepth 20000
set_option maxHeartbeats 4000000
section
open Go.Proofs
namespace Go.Lift.Y1.P.T
open Utf Tok
abbrev JD7(below:Bool)(e:Int)(h:JG)(n:Int)(ex:Jl):Jl×JG:=
 ((0,.v (.bool below))::(2,.v (.int .i64 e))::(6,.ptr h.length 0)::(9,.v (.int .u64 n))::(12,.v (.int .u64 1))::ex,h++[.cells (Jj (0,0))])
abbrev Qp(h:JG):Option (Ex×Jl×JG):=some (.ret,[(6,.ptr h.length 0)],h++[.cells (Jj (0,0))])
theorem JDV{lo:Nat}{h:JG}{x:Ob}(hlo:lo<=h.length):E lo 103 [] (h++[x])=some (.agg (Jj (0,0)),h++[x]):=f103 (by simp;omega)
theorem JVX{lo:Nat}{below:Bool}{h:JG}(hlo:lo<=h.length):∀(m:Nat) (e n:Int),e.toNat=m->e<=4000000000000->0<=n->n<=9223372036854775807->
  JA (evCode ⟨Aa,E,lo,h.length,Hc⟩ JA qo) (JD7 below e h n [])=
   match upN m n with
   |some n'=>some (.exit 6,JD7 below (if 0<e then 0 else e) h n' [(64,.v (.bool false))])
   |none=>Qp h:=by
 intro m
 induction m with
 |zero=>
  intro e n hm he h0 h1;have hd:decide (0<e)=false:=by simp;omega
  rw[JB,if_neg om]
  simp only[go_sem,qo,KB,Tryz.f131,hd,upN,Jj]<;>rfl
 |succ m ih=>
  intro e n hm he h0 h1;have hd:decide (0<e)=true:=by simp;omega
  have hw:Am.wrap (e-1)=e-1:=by rw[JW]<;>omega
  rw[JB];simp only[upN];by_cases hb:922337203685477580<n
  ·have hb':decide (922337203685477580<n)=true:=by simp[hb]
   rw[if_pos hb];simp only[go_sem,qo,KB,Tryz.f131,hd,hb',JDV hlo,hlo,Jj]<;>rfl
  ·have hb':decide (922337203685477580<n)=false:=by simp[hb]
   rw[if_neg hb];have w1:Ba.wrap (n*10)=n*10:=QB om om
   have e1:evCode ⟨Aa,E,lo,h.length,Hc⟩ JA qo (JD7 below e h n [])=some (.normal,JD7 below (e-1) h (n*10) []):=by simp only[go_sem,qo,KB,Tryz.f131,hd,hb',w1,hw,Jj]<;>rfl
   rw[e1,JO,ih (e-1) (n*10) om om om om];have e2:(if 0<e-1 then(0:Int)else e-1)=if 0<e then 0 else e:=by split<;>split<;>omega
   rw[e2]
abbrev YR(below:Bool)(h:JG)(n d a b:Int)(ex:Jl):Jl×JG:=
 ((0,.v (.bool below))::(6,.ptr h.length 0)::(9,.v (.int .u64 n))::(12,.v (.int .u64 d))::(13,.v (.int .i64 a))::(14,.v (.int .i64 b))::ex,h++[.cells (Jj (0,0))])
theorem JVY{lo:Nat}{below:Bool}{h:JG}{d b:Int}:∀(k:Nat) (n:Int),(k:Int)<=9223372036854775807->0<=n->n<=9223372036854775807->
  JA (evCode ⟨Aa,E,lo,h.length,Hc⟩ JA JAA) (YR below h n d k b [])=
   some (.exit 8,YR below h (Ky 2 k n).2 d (Ky 2 k n).1 b [(82,.v (.bool false))]):=by
 intro k
 induction k with
 |zero=>
  intro n hk h0 h1;have hd:decide ((0:Int)<0)=false:=rfl;rw[JB];simp only[n0,Ky]
  simp only[go_sem,JAA,KB,Tryz.f131,hd,Jj]<;>rfl
 |succ k ih=>
  intro n hk h0 h1;have hd:decide ((0:Int)<((k+1:Nat):Int))=true:=by simp
  have hw:Am.wrap (((k+1:Nat):Int)-1)=(k:Int):=by rw[JW]<;>omega
  have hr:Int.tmod n 2=n%2:=Cj h0;have hq:Int.tdiv n 2=n/2:=DV h0;have wq:Ba.wrap (n/2)=n/2:=QB om om;have z2:((2:Int)=0)=False:=by simp
  rw[JB];by_cases hm:n%2=0
  ·have hb:(n%2==0)=true:=by simp[hm]
   have e1:evCode ⟨Aa,E,lo,h.length,Hc⟩ JA JAA (YR below h n d (k+1:Nat) b [])=some (.normal,YR below h (n/2) d k b []):=by simp only[go_sem,JAA,KB,Tryz.f131,hd,hr,hq,wq,hb,hw,z2,Jj]<;>rfl
   rw[e1,JO,ih (n/2) om om om];simp only[Ky,hm,if_true]
  ·have hb:(n%2==0)=false:=by simp;omega
   have e2:Ky 2 (k+1) n=(k+1,n):=by simp only[Ky];rw[if_neg hm]
   rw[e2];simp only[go_sem,JAA,KB,Tryz.f131,hd,hr,hb,z2,Jj]<;>rfl
theorem JVZ{lo:Nat}{below:Bool}{h:JG}{d a:Int}:∀(k:Nat) (n:Int) (ex:Jl),(ex=[]\/ex=[(82,.v (.bool false))])->(k:Int)<=9223372036854775807->0<=n->n<=9223372036854775807->
  JA (evCode ⟨Aa,E,lo,h.length,Hc⟩ JA Hf) (YR below h n d a k ex)=
   some (.exit 10,YR below h (Ky 5 k n).2 d a (Ky 5 k n).1 [(93,.v (.bool false))]):=by
 intro k
 induction k with
 |zero=>
  intro n ex hex hk h0 h1;have hd:decide ((0:Int)<0)=false:=rfl;rw[JB];simp only[n0,Ky];rcases hex with rfl|rfl
  ·simp only[go_sem,Hf,KB,Tryz.f131,hd,Jj]<;>rfl
  ·simp only[go_sem,Hf,KB,Tryz.f131,hd,Jj]<;>rfl
 |succ k ih=>
  intro n ex hex hk h0 h1;have hd:decide ((0:Int)<((k+1:Nat):Int))=true:=by simp
  have hw:Am.wrap (((k+1:Nat):Int)-1)=(k:Int):=by rw[JW]<;>omega
  have hr:Int.tmod n 5=n%5:=Cj h0;have hq:Int.tdiv n 5=n/5:=DV h0;have wq:Ba.wrap (n/5)=n/5:=QB om om;have z2:((5:Int)=0)=False:=by simp
  rw[JB];by_cases hm:n%5=0
  ·have hb:(n%5==0)=true:=by simp[hm]
   have e1:evCode ⟨Aa,E,lo,h.length,Hc⟩ JA Hf (YR below h n d a (k+1:Nat) ex)=some (.normal,YR below h (n/5) d a k []):=by
    rcases hex with rfl|rfl
    ·simp only[go_sem,Hf,KB,Tryz.f131,hd,hr,hq,wq,hb,hw,z2,Jj]<;>rfl
    ·simp only[go_sem,Hf,KB,Tryz.f131,hd,hr,hq,wq,hb,hw,z2,Jj]<;>rfl
   rw[e1,JO,ih (n/5) [] (.inl rfl) om om om];simp only[Ky,hm,if_true]
  ·have hb:(n%5==0)=false:=by simp;omega
   have e2:Ky 5 (k+1) n=(k+1,n):=by simp only[Ky];rw[if_neg hm]
   rw[e2];rcases hex with rfl|rfl
   ·simp only[go_sem,Hf,KB,Tryz.f131,hd,hr,hb,z2,Jj]<;>rfl
   ·simp only[go_sem,Hf,KB,Tryz.f131,hd,hr,hb,z2,Jj]<;>rfl
theorem JVa{lo:Nat}{below:Bool}{h:JG}{n b:Int}:∀(k a:Nat) (x:V),a+k<=62->
  JA (evCode ⟨Aa,E,lo,h.length,Hc⟩ JA JCq) (YR below h n (2^a) k b [(103,x)])=
   some (.exit 12,YR below h n (2^ (a+k)) 0 b [(106,.v (.bool false))]):=by
 intro k
 induction k with
 |zero=>
  intro a x ha;have hd:decide ((0:Int)<0)=false:=rfl;rw[JB];simp only[n0]
  simp only[go_sem,JCq,KB,Tryz.f131,hd,Jj]<;>rfl
 |succ k ih=>
  intro a x ha;have hd:decide ((0:Int)<((k+1:Nat):Int))=true:=by simp
  have hw:Am.wrap (((k+1:Nat):Int)-1)=(k:Int):=by rw[JW]<;>omega
  have h61:(2:Int)^61=2305843009213693952:=by decide
  have hp:=qu (show a<=61 by omega)
  have hp0:=Kt (y:=2) om a;have w1:Ba.wrap (2^a*2)=2^ (a+1):=by rw[Int.pow_succ];exact QB om om
  generalize hX:(2:Int)^a=X at*
  have e1:evCode ⟨Aa,E,lo,h.length,Hc⟩ JA JCq (YR below h n X (k+1:Nat) b [(103,x)])=some (.normal,YR below h n (2^ (a+1)) k b [(103,.undef)]):=by simp only[go_sem,JCq,KB,Tryz.f131,hd,w1,hw,Jj]<;>rfl
  rw[JB,e1,JO,ih (a+1) .undef om];have e2:a+1+k=a+(k+1):=om;rw[e2]
abbrev JDW(below:Bool)(h:JG)(n d:Int)(ex:Jl):Jl×JG:=
 ((0,.v (.bool below))::(6,.ptr h.length 0)::(9,.v (.int .u64 n))::(12,.v (.int .u64 d))::ex,h++[.cells (Jj (0,0))])
theorem JR1{lo:Nat}{below:Bool}{h:JG}{n:Int}(hlo:lo<=h.length):∀(k:Nat) (d:Int) (x y:V) (ex:Jl),(ex=[(103,y)]\/ex=[(106,y)])->(k:Int)<=9223372036854775807->0<=d->d<=9223372036854775807->
  JA (evCode ⟨Aa,E,lo,h.length,Hc⟩ JA Gr) (JDW below h n d ((13,x)::(14,.v (.int .i64 k))::ex))=
   match kg 5 1844674407370955161 k d with
   |some d'=>some (.exit 14,JDW below h n d' [(14,.v (.int .i64 0)),(112,.v (.bool false))])
   |none=>Qp h:=by
 intro k
 induction k with
 |zero=>
  intro d x y ex hex hk h0 h1;have hd:decide ((0:Int)<0)=false:=rfl;rw[JB];simp only[n0,kg];rcases hex with rfl|rfl
  ·simp only[go_sem,Gr,KB,Tryz.f131,hd,Jj]<;>rfl
  ·simp only[go_sem,Gr,KB,Tryz.f131,hd,Jj]<;>rfl
 |succ k ih=>
  intro d x y ex hex hk h0 h1;have hd:decide ((0:Int)<((k+1:Nat):Int))=true:=by simp
  have hw:Am.wrap (((k+1:Nat):Int)-1)=(k:Int):=by rw[JW]<;>omega
  rw[JB];simp only[kg];by_cases hb:1844674407370955161<d
  ·have hb':decide (1844674407370955161<d)=true:=by simp[hb]
   rw[if_pos hb];rcases hex with rfl|rfl
   ·simp only[go_sem,Gr,KB,Tryz.f131,hd,hb',JDV hlo,hlo,Jj]<;>rfl
   ·simp only[go_sem,Gr,KB,Tryz.f131,hd,hb',JDV hlo,hlo,Jj]<;>rfl
  ·have hb':decide (1844674407370955161<d)=false:=by simp[hb]
   rw[if_neg hb];have w1:Ba.wrap (d*5)=d*5:=QB om om
   have e1:evCode ⟨Aa,E,lo,h.length,Hc⟩ JA Gr (JDW below h n d ((13,x)::(14,.v (.int .i64 (k+1:Nat)))::ex))=some (.normal,JDW below h n (d*5) [(13,.undef),(14,.v (.int .i64 k)),(103,.undef)]):=by
    rcases hex with rfl|rfl
    ·simp only[go_sem,Gr,KB,Tryz.f131,hd,hb',w1,hw,Jj]<;>rfl
    ·simp only[go_sem,Gr,KB,Tryz.f131,hd,hb',w1,hw,Jj]<;>rfl
   rw[e1,JO,ih (d*5) .undef .undef _ (.inl rfl) om om om]
def JOL(below:Bool)(ds:List Int)(e:Int):Int×Int:=
 let d:=ds.dropWhile (· ==48)
 if d=[]then(0,1)else
 if 18<(core d).length then(0,0)else
 turn below (JAD (GB 0 (core d)) (e+(d.length-(core d).length)))
theorem drop_take(p:Int->Bool):∀l:List Int,l.drop (l.takeWhile p).length=l.dropWhile p
 |[]=>rfl
 |c::t=>by
  cases h:p c with
  |true=>rw[Be h,Bz h];exact drop_take p t
  |false=>rw[Ci (by simp[h]),Bn (by simp[h])]<;>rfl
theorem JH7(p:Int->Bool):∀l:List Int,∀c t,l.dropWhile p=c::t->p c=false
 |[],c,t,h=>by cases h
 |x::l,c,t,h=>by
  cases hx:p x with
  |true=>rw[Bz hx]at h;exact JH7 p l c t h
  |false=>rw[Bn (by simp[hx])]at h;cases h;exact hx
theorem JMP{l:List Int}(h:∀c∈l,KD c=true):∀c∈core l,KD c=true:=λc hc=>by unfold core at hc;rw[List.mem_reverse]at hc;exact h c (by simpa using(BH _).subset hc)
section
variable{lo:Nat}{below:Bool}{ds:List Int}{e:Int}{h:JG}
noncomputable abbrev YS(lo:Nat)(h:JG):Cx:=⟨Aa,E,lo,h.length,Hc⟩
theorem JlA(hy:By ds)(hl:ds.length<=100000000000)(hlo:lo<=h.length):WD (YS lo h) JA (pc KB 0 5) (QH [.v (.bool below),.v (.string (bs ds)),.v (.int .i64 e)],h)=
  if ds.dropWhile (· ==48)=[]then some (.ret,[(6,.ptr h.length 0)],h++[.cells (Jj (0,1))])
  else some (.normal,HJ below ds e h (ds.takeWhile (· ==48)).length ds.length [(30,.v (.bool false))]):=by
 have hL0:=JVU (lo:=lo) (below:=below) (e:=e) (h:=h) hy hl ds.length 0 om om;simp only[List.drop_zero,AC]at hL0
 have hsum:((ds.takeWhile (· ==48)).length)+(ds.dropWhile (· ==48)).length=ds.length:=by rw[<-Ao,Ct]
 have hk:=f40 (h:=h++[Ob.cells [V.v (A9 Am 0),V.v (A9 Am 0)]]) (lo:=lo) (n:=0) (by simp;omega)
 generalize (ds.takeWhile (· ==48)).length=a at*
 generalize ds.dropWhile (· ==48)=D at*
 simp only[HJ,z8,KB,Tryz.f131,JK,loops,JC,go_sem,Jj]at hL0 hk
 cases D with
 |nil=>
  have t1:((a:Int)==(ds.length:Int))=true:=by simp at hsum⊢;omega
  rw[if_pos rfl]
  simp only[go_sem,YS,KB,Tryz.f131,Kg,hL0,t1,hk,Jj,hlo]<;>rfl
 |cons c0 t0=>
  have t1:((a:Int)==(ds.length:Int))=false:=by simp at hsum⊢;omega
  rw[if_neg (by simp)]
  simp only[go_sem,YS,KB,Tryz.f131,Kg,hL0,t1,Jj]<;>rfl
theorem JlB{a:Nat}{c0:Int}(hy:By ds)(hl:ds.length<=100000000000)(ha:ds[a]? =some c0)(hc0:c0≠48)(he0: -2000000000000<=e)(he1:e<=2000000000000):
  ∃b',a<b'/\b'<=ds.length/\(ds.take b').drop a=core (ds.drop a)/\
   WD (YS lo h) JA (pc KB 5 1) (HJ below ds e h a ds.length [(30,.v (.bool false))])=some (.normal,HJ below ds (e+ds.length-b') h a b' [(36,.v (.bool false))]):=by
 have hal:a<ds.length:=(Ab.1 ha).1
 obtain⟨b',q1,q2,q3,q4⟩:=JVV (lo:=lo) (below:=below) (h:=h) hy hl ha hc0 ds.length ds.length e (.v (.bool false)) om hal (Ad _) om om;rw[List.take_length]at q3;refine⟨b',q1,q2,q3,?_⟩
 simp only[HJ,JCo,KB,Tryz.f131,JK,loops,JC,go_sem,Jj]at q4;simp only[go_sem,YS,HJ,KB,Tryz.f131,q4,Jj]
theorem JlC{a b:Nat}(hab:a<=b)(hb:b<=100000000000)(hlo:lo<=h.length):WD (YS lo h) JA (pc KB 6 2) (HJ below ds e h a b [(36,.v (.bool false))])=
  if 18<b-a then Qp h else some (.normal,HJ below ds e h a b [(44,.v (.bool false))]):=by
 have hw:Am.wrap ((b:Int)-a)=((b-a:Nat):Int):=by rw[JW om om];omega
 have hk:=JDV (lo:=lo) (h:=h) (x:=Ob.cells [V.v (A9 Am 0),V.v (A9 Am 0)]) hlo;by_cases h18:18<b-a
 ·have t:decide (18<((b-a:Nat):Int))=true:=by simp;omega
  rw[if_pos h18];simp only[go_sem,YS,HJ,KB,Tryz.f131,hw,t,hk,hlo,Jj]<;>rfl
 ·have t:decide (18<((b-a:Nat):Int))=false:=by simp;omega
  rw[if_neg h18];simp only[go_sem,YS,HJ,KB,Tryz.f131,hw,t,Jj]<;>rfl
theorem JVb{l:List Int}(hy:By l):Ku (bs l)=ri .u8 l:=by
 unfold Ku bs YK ri;simp only[List.map_map];apply List.map_congr_left;intro c hc;have:=hy c hc;simp only[Function.comp]
 congr 4
 show((UInt8.ofNat c.toNat).toNat:Int)=c
 simp only[UInt8.toNat_ofNat'];omega
theorem JlD{a b:Nat}{d:List Int}(hd:∀c∈d,KD c=true)(hdl:d.length<=18)(hab:a<=b)(hbl:b<=ds.length)(hdd:(ds.take b).drop a=d):
  WD (YS lo h) JA (pc KB 8 3) (HJ below ds e h a b [(44,.v (.bool false))])=some (.normal,JD6 below e h (GB 0 d) (ri .u8 d) d.length d.length [(53,.v (.bool false))]):=by
 have hy:By d:=λc hc=>by have:=hd c hc;simp only[KD,Af,decide_eq_true_eq]at this;omega
 have hL:=JVW (lo:=lo) (below:=below) (e:=e) (h:=h) hd hdl d 0 0 rfl (by simp) om (by simp)
 simp only[JD6,JCp,KB,Tryz.f131,JK,loops,JC,go_sem,Jj]at hL;simp only[go_sem,YS,HJ,JD6,KB,Tryz.f131,Kg,JKO,hab,hbl,hdd,JVb hy,hL,Jj]<;>rfl
theorem JlG{rows:List (List V)}{len k n:Int}(hlo:lo<=h.length)(he1:e<=4000000000000)(h0:0<=n)(h1:n<=9223372036854775807):
  WD (YS lo h) JA (pc KB 11 2) (JD6 below e h n rows len k [(53,.v (.bool false))])=
   match upN e.toNat n with
   |some n'=>some (.normal,JD7 below (if 0<e then 0 else e) h n' [(64,.v (.bool false))])
   |none=>Qp h:=by
 have hL:=JVX (lo:=lo) (below:=below) (h:=h) hlo e.toNat e n rfl he1 h0 h1
 cases hu:upN e.toNat n with
 |some n'=>
  rw[hu]at hL;simp only[JD7,qo,KB,Tryz.f131,JK,loops,JC,go_sem,Jj]at hL
  simp only[go_sem,YS,JD6,JD7,KB,Tryz.f131,hL,Jj]<;>rfl
 |none=>rw[hu]at hL;simp only[JD7,Qp,qo,KB,Tryz.f131,JK,loops,JC,go_sem,Jj]at hL;simp only[go_sem,YS,JD6,Qp,KB,Tryz.f131,hL,Jj]<;>rfl
theorem JlH{n:Int}(he0: -4000000000000<=e)(he1:e<=0)(h0:1<=n)(h1:n<=9223372036854775807):
  WD (YS lo h) JA (pc KB 13 3) (JD7 below e h n [(64,.v (.bool false))])=
   some (.normal,YR below h (Ky 5 (-e).toNat (Ky 2 (-e).toNat n).2).2 1 (Ky 2 (-e).toNat n).1 (Ky 5 (-e).toNat (Ky 2 (-e).toNat n).2).1 [(93,.v (.bool false))]):=by
 obtain⟨k,hk⟩:∃k,(-e).toNat=k:=⟨_,rfl⟩;have hw:Am.wrap (0-e)=(k:Int):=by rw[JW om om];omega
 rw[hk];obtain⟨a1,b1,c1,d1⟩:=Zo (y:=2) om k n h0;have hL:=JVY (lo:=lo) (below:=below) (h:=h) (d:=1) (b:=k) k n om om om;generalize Ky 2 k n=r at*;have hM:=JVZ (lo:=lo) (below:=below) (h:=h) (d:=1) (a:=r.1) k r.2 [(82,.v (.bool false))] (.inr rfl) om om om;simp only[YR,JAA,Hf,KB,Tryz.f131,JK,loops,JC,go_sem,Jj]at hL hM
 simp only[go_sem,YS,JD7,YR,KB,Tryz.f131,hw,hL,hM,Jj]<;>rfl
theorem JlJ{n:Int}{a b:Nat}(hlo:lo<=h.length):WD (YS lo h) JA (pc KB 16 2) (YR below h n 1 a b [(93,.v (.bool false))])=
  if 62<a\/27<b then Qp h else some (.normal,YR below h n 1 a b [(103,.v (.bool false))]):=by
 have hk:=JDV (lo:=lo) (h:=h) (x:=Ob.cells [V.v (A9 Am 0),V.v (A9 Am 0)]) hlo;by_cases h62:62<a
 ·have t:decide (62<(a:Int))=true:=by simp;omega
  rw[if_pos (.inl h62)];simp only[go_sem,YS,YR,KB,Tryz.f131,t,hk,hlo,Jj]<;>rfl
 ·have t:decide (62<(a:Int))=false:=by simp;omega
  by_cases h27:27<b
  ·have t2:decide (27<(b:Int))=true:=by simp;omega
   rw[if_pos (.inr h27)];simp only[go_sem,YS,YR,KB,Tryz.f131,t,t2,hk,hlo,Jj]<;>rfl
  ·have t2:decide (27<(b:Int))=false:=by simp;omega
   rw[if_neg om];simp only[go_sem,YS,YR,KB,Tryz.f131,t,t2,Jj]<;>rfl
theorem JlK{n b:Int}{a:Nat}(ha:a<=62):WD (YS lo h) JA (pc KB 18 1) (YR below h n 1 a b [(103,.v (.bool false))])=some (.normal,YR below h n (2^a) 0 b [(106,.v (.bool false))]):=by have hL:=JVa (lo:=lo) (below:=below) (h:=h) (n:=n) (b:=b) a 0 (.v (.bool false)) om;rw[AC]at hL;simp only[YR,JCq,KB,Tryz.f131,JK,loops,JC,go_sem,Jj,Int.pow_zero]at hL;simp only[go_sem,YS,YR,KB,Tryz.f131,hL,Jj]
theorem JlL{n d:Int}{b:Nat}(hlo:lo<=h.length)(hb:(b:Int)<=9223372036854775807)(h0:0<=d)(h1:d<=9223372036854775807):WD (YS lo h) JA (pc KB 19 1) (YR below h n d 0 b [(106,.v (.bool false))])=
  match kg 5 1844674407370955161 b d with
  |some d'=>some (.normal,JDW below h n d' [(14,.v (.int .i64 0)),(112,.v (.bool false))])
  |none=>Qp h:=by
 have hL:=JR1 (lo:=lo) (below:=below) (h:=h) (n:=n) hlo b d (.v (.int .i64 0)) (.v (.bool false)) [(106,.v (.bool false))] (.inr rfl) hb h0 h1
 cases hu:kg 5 1844674407370955161 b d with
 |some d'=>
  rw[hu]at hL;simp only[JDW,Gr,KB,Tryz.f131,JK,loops,JC,go_sem,Jj]at hL
  simp only[go_sem,YS,YR,JDW,KB,Tryz.f131,hL,Jj]
 |none=>rw[hu]at hL;simp only[JDW,Qp,Gr,KB,Tryz.f131,JK,loops,JC,go_sem,Jj]at hL;simp only[go_sem,YS,YR,Qp,KB,Tryz.f131,hL,Jj]
theorem JlM{n d:Int}(hlo:lo<=h.length)(h0:0<=n)(h1:n<=9223372036854775807)(g0:0<=d)(g1:d<=9223372036854775807):WD (YS lo h) JA (pc KB 20 4) (JDW below h n d [(14,.v (.int .i64 0)),(112,.v (.bool false))])=
  some (.ret,[(6,.ptr h.length 0)],h++[.cells (Jj (turn below (some (n,d))))]):=by
 have w1:Am.wrap n=n:=by rw[JW]<;>omega
 have w2:Am.wrap d=d:=by rw[JW]<;>omega
 have w3:Am.wrap (0-n)= -n:=by rw[JW]<;>omega
 cases below with
 |true=>simp only[go_sem,YS,JDW,KB,Tryz.f131,w1,w2,w3,hlo,turn,Jj]<;>rfl
 |false=>simp only[go_sem,YS,JDW,KB,Tryz.f131,w1,w2,w3,hlo,turn,Jj]<;>rfl
end
theorem JYV(c:Int)(t:List Int)(hc:c≠48):∃u,core (c::t)=c::u:=by
 unfold core;rw[List.reverse_cons]
 have:∀l:List Int,∃u,(l++[c]).dropWhile (· ==48)=u++[c]:=by
  intro l
  induction l with
  |nil=>exact⟨[],by rw[Au,Bn (by simpa using hc)]⟩
  |cons x l ih=>
   rw[AA]
   cases hx:(x==(48:Int))with
   |true=>rw[Bz (p:=(· ==48)) hx];exact ih
   |false=>rw[Bn (p:=(· ==48)) (by simp[hx])];exact⟨x::l,rfl⟩
 obtain⟨u,hu⟩:=this t.reverse;rw[hu];exact⟨u.reverse,by simp⟩
theorem JVc{c:Int}{t:List Int}(hd:∀x∈c::t,KD x=true)(hc:c≠48)(hl:(core (c::t)).length<=18):1<=GB 0 (core (c::t))/\GB 0 (core (c::t))<10^18:=by
 obtain⟨u,hu⟩:=JYV c t hc;have hmem:=JMP hd;rw[hu]at hl hmem⊢;have h1:=hmem c (by simp)
 simp only[KD,Af,decide_eq_true_eq]at h1;have h2:GB 0 (c::u)=GB (c-48) u:=by simp[GB]
 rw[h2];obtain⟨a,b,d⟩:=qt u (c-48) 1 (λx hx=>hmem x (by simp[hx])) om om
 refine⟨om,?_⟩
 simp only[Ae]at hl;obtain⟨j,hj⟩:∃j,18=1+u.length+j:=⟨18-(1+u.length),om⟩
 have h3:(10:Int)^ (1+u.length)<=10^18:=by rw[hj,Int.pow_add _ (1+u.length) j];have h0:=Kt (y:=10) om (1+u.length);exact kN om (Kt om j)
 omega
theorem JVd:∀(k:Nat) (n m:Int),1<=n->n<=9223372036854775807->upN k n=some m->1<=m/\m<=9223372036854775807
 |0,n,m,h0,h1,h=>by simp only[upN,Option.some.injEq]at h;omega
 |k+1,n,m,h0,h1,h=>by
  simp only[upN]at h
  split at h
  ·cases h
  ·exact JVd k (n*10) m om om h
theorem JPh:∀(k:Nat) (n m:Int),1<=n->n<=9223372036854775807->kg 5 1844674407370955161 k n=some m->1<=m/\m<=9223372036854775807
 |0,n,m,h0,h1,h=>by simp only[kg,Option.some.injEq]at h;omega
 |k+1,n,m,h0,h1,h=>by
  simp only[kg]at h
  split at h
  ·cases h
  ·exact JPh k (n*5) m om om h
theorem JAT{h:JG}{x:Int×Int}:fin Aa [.cell 6 28] h.length (some (.ret,[(6,.ptr h.length 0)],h++[.cells (Jj x)]))=some (.agg (Jj x),h):=by simp only[go_sem,Jj]<;>rfl
theorem f131{lo:Nat}{below:Bool}{ds:List Int}{e:Int}{h:JG}(hd:∀c∈ds,KD c=true)(hl:ds.length<=100000000000)(he0: -2000000000000<=e)(he1:e<=2000000000000)(hlo:lo<=h.length):
  E lo 131 [.v (.bool below),.v (.string (bs ds)),.v (.int .i64 e)] h=some (.agg (Jj (JOL below ds e)),h):=by
 have hy:By ds:=λc hc=>by have:=hd c hc;simp only[KD,Af,decide_eq_true_eq]at this;omega
 have hdt:=drop_take (· ==48) ds
 have hsum:((ds.takeWhile (· ==48)).length)+(ds.dropWhile (· ==48)).length=ds.length:=by rw[<-Ao,Ct]
 have hhead:=JH7 (· ==48) ds
 have hmem:∀c∈ds.dropWhile (· ==48),KD c=true:=λc hc=>hd c ((BH _).subset hc)
 rw[JrQ,pc_in,pc_go _ _ _ _ 0 5,JlA hy hl hlo];unfold JOL;generalize (ds.takeWhile (· ==48)).length=a at*
 generalize hD:ds.dropWhile (· ==48)=D at*
 cases D with
 |nil=>
  rw[if_pos rfl,Qr]
  exact JAT
 |cons c0 t0=>
  rw[if_neg (by simp),pc_go _ _ _ _ _ 1]
  have hc0:c0≠48:=by have:=hhead c0 t0 rfl;simpa using this
  have ha:ds[a]? =some c0:=by
   have:=congrArg (·[0]?) hdt
   simpa using this
  obtain⟨b',q1,q2,q3,q4⟩:=JlB (lo:=lo) (below:=below) (h:=h) hy hl ha hc0 he0 he1;rw[q4,pc_go _ _ _ _ _ 2,JlC om om hlo];rw[hdt]at q3;have hlen:(core (c0::t0)).length=b'-a:=by rw[<-q3,AB,Az];omega
  simp only[reduceCtorEq,if_false];by_cases h18:18<b'-a
  ·rw[if_pos h18,if_pos om,Qp,Qr]
   exact JAT
  rw[if_neg h18,if_neg om,pc_go _ _ _ _ _ 3,JlD (JMP hmem) om om q2 q3,pc_go _ _ _ _ _ 2];obtain⟨n0',n1⟩:=JVc hmem hc0 om;have h1018:(10:Int)^18=1000000000000000000:=by decide
  rw[JlG hlo om om om]
  have hE:e+(((c0::t0).length:Int)-((core (c0::t0)).length:Int))=e+ds.length-b':=by rw[hlen];omega
  rw[hE];generalize GB 0 (core (c0::t0))=n at*;have hEb: -4000000000000<=e+ds.length-b'/\e+ds.length-b'<=4000000000000:=om;generalize e+(ds.length:Int)-(b':Int)=p at*;unfold JAD
  cases hu:upN p.toNat n with
  |none=>
   rw[Qp];simp only;rw[Qr]
   exact JAT
  |some m=>
   obtain⟨m0,m1⟩:=JVd _ _ _ n0' om hu;simp only;have hp0:(if 0<p then(0:Int)else p)<=0:=by split<;>omega
   have hpn:(-(if 0<p then(0:Int)else p)).toNat=(-p).toNat:=by split<;>omega
   rw[pc_go _ _ _ _ _ 3,JlH (by split<;>omega) hp0 m0 m1,hpn]
   obtain⟨a1,b1,c1,d1⟩:=Zo (y:=2) om (-p).toNat m m0;obtain⟨a2,b2,c2,d2⟩:=Zo (y:=5) om (-p).toNat _ b1;generalize Ky 2 (-p).toNat m=r at*;generalize Ky 5 (-p).toNat r.2=s at*;rw[pc_go _ _ _ _ _ 2,JlJ hlo];by_cases hov:62<r.1\/27<s.1
   ·rw[if_pos hov,if_pos hov,Qp,Qr]
    exact JAT
   ·rw[if_neg hov,if_neg hov,pc_go _ _ _ _ _ 1,JlK om,pc_go _ _ _ _ _ 1]
    have h62:(2:Int)^62=4611686018427387904:=by decide
    have g1:=qu (show r.1<=62 by omega)
    have g0:=Kt (y:=2) om r.1;rw[JlL hlo om om om]
    cases hm:kg 5 1844674407370955161 s.1 (2^r.1)with
    |none=>
     simp only[Option.map_none];rw[Qp,Qr]
     exact JAT
    |some d=>obtain⟨d0,d1⟩:=JPh _ _ _ om om hm;simp only[Option.map_some];rw[pc_go _ _ _ _ _ 4,JlM hlo om om om om,Qr];exact JAT
theorem JKP:∀(l:List Int) (e:Int),(∀c∈l,KD c=true)->0<=e->e<=1099511627776->0<=kc e l/\kc e l<=1099511627776
 |[],e,_,h0,h1=>⟨h0,h1⟩
 |c::t,e,hl,h0,h1=>by
  have hc:=hl c (by simp)
  simp only[KD,Af,decide_eq_true_eq]at hc;simp only[kc];exact JKP t _ (λx hx=>hl x (by simp[hx])) (by split<;>omega) (by split<;>omega)
theorem JKQ:∀{l:List Int},(∀c∈l,KD c=true)->l.takeWhile KD=l
 |[],_=>rfl
 |c::t,h=>by rw[Be (h c (by simp)),JKQ λx hx=>h x (by simp[hx])]
section
variable{lo:Nat}{t:List Int}{h:JG}{neg:Bool}
noncomputable abbrev Yv(lo:Nat)(h:JG):Cx:=⟨Aa,E,lo,h.length,Jcd⟩
abbrev JVe(t:List Int)(h:JG)(i:Int)(neg:Bool)(j:Int)(ds:List Int)(fr:Int)(whole:Bool)(e:Int)(down:Bool)(ex:Jl):Jl×JG:=
 ((0,.v (.string (bs t)))::(2,.ptr h.length 0)::(5,.v (.int .i64 i))::(6,.v (.bool neg))::(7,.v (.int .i64 j))::(8,.v (.string (bs ds)))::(9,.v (.int .i64 fr))::(10,.v (.bool whole))::(11,.v (.int .i64 e))::(12,.v (.bool down))::ex,h++[.cells (Jj (0,0))])
theorem JYW{ds:List Int}{fr:Int}{whole down:Bool}(hy:By t)(hl:t.length<=100000000000):∀(r:List Int) (i:Nat) (e:Int) (x:V),t.drop i=r->i+r.length=t.length->(∀c∈r,KD c=true)->0<=e->e<=1099511627776->
  JA (evCode (Yv lo h) JA JCj) (JVe t h i neg t.length ds fr whole e down [(127,x)])=
   some (.exit 0,JVe t h t.length neg t.length ds fr whole (kc e r) down [(131,.v (.bool false))]):=by
 intro r
 induction r with
 |nil=>
  intro i e x hr hi hd h0 h1;obtain rfl:i=t.length:=by simpa using hi
  have hlt:decide ((t.length:Int)<(t.length:Int))=false:=by simp
  rw[JB]
  simp only[go_sem,Yv,JCj,Yt,Tryz.f110,hlt,kc,Jj]<;>rfl
 |cons c r ih=>
  intro i e x hr hi hd h0 h1;simp only[Ae]at hi;have hlt:decide ((i:Int)<(t.length:Int))=true:=by simp;omega
  have hc:t[i]? =some c:=by
   have:=congrArg (·[0]?) hr
   simpa using this
  have hcd:=hd c (by simp)
  simp only[KD,Af,decide_eq_true_eq]at hcd;have hw:=JM (i:=i) om;have w1:Am.wrap (e*10)=e*10:=JW om om;have w2:IntKind.u8.wrap (c-48)=c-48:=Qm om om;have w3:Am.wrap (c-48)=c-48:=JW om om;have w4:Am.wrap (e*10+(c-48))=e*10+(c-48):=JW om om
  have e1:evCode (Yv lo h) JA JCj (JVe t h i neg t.length ds fr whole e down [(127,x)])=
    some (.normal,JVe t h (i+1:Nat) neg t.length ds fr whole (if 1099511627776<e*10+(c-48)then 1099511627776 else e*10+(c-48)) down [(127,.undef)]):=by
   simp only[go_sem,Yv,JCj,Yt,Tryz.f110,hlt,Yj hy,hc,w1,w2,w3,w4,hw,Jj]<;>rfl
  rw[JB,e1,JO,ih (i+1) _ .undef (by rw[<-AY,hr]<;>rfl) om (λx hx=>hd x (by simp[hx])) (by split<;>omega) (by split<;>omega)]
  rfl
theorem JlN{k:Nat}(hy:By t)(hl:t.length<=100000000000)(hlo:lo<=h.length)
  (ht:(∃c,t[0]? =some c/\(c==43)=false/\(c==45)=false/\k=0/\neg=false)\/(t[0]? =some 43/\k=1/\neg=false)\/(t[0]? =some 45/\k=1/\neg=true)):
  ∃x,WD (Yv lo h) JA (pc Yt 0 4) (QH [.v (.string (bs t))],h)=some (.normal,[(0,.v (.string (bs t))),(2,.ptr h.length 0),(5,.v (.int .i64 k)),(6,.v (.bool neg)),(28,x)],h++[.cells (Jj (0,0))]):=by
 have hlen:0<t.length:=by rcases ht with⟨c,h,_⟩|⟨h,_⟩|⟨h,_⟩<;>exact(Ab.1 h).1
 have t0:decide ((0:Int)<(t.length:Int))=true:=by simp;omega
 have z0:(0:Int).toNat=0:=rfl;have w1:Am.wrap (0+1)=1:=rfl;rcases ht with⟨c,hc,c1,c2,rfl,rfl⟩|⟨hc,rfl,rfl⟩|⟨hc,rfl,rfl⟩
 ·refine⟨.v (.bool false),?_⟩
  simp only[go_sem,Yv,Yt,Tryz.f110,Kg,t0,Yj hy,z0,hc,c1,c2,Jj]<;>rfl
 ·have c1:((43:Int)==43)=true:=rfl
  have c2:((43:Int)==45)=false:=rfl;refine⟨.undef,?_⟩
  simp only[go_sem,Yv,Yt,Tryz.f110,Kg,t0,Yj hy,z0,hc,c1,c2,w1,Jj]<;>rfl
 ·have c1:((45:Int)==43)=false:=rfl
  have c2:((45:Int)==45)=true:=rfl;refine⟨.undef,?_⟩
  simp only[go_sem,Yv,Yt,Tryz.f110,Kg,t0,Yj hy,z0,hc,c1,c2,w1,Jj]<;>rfl
theorem JlO{k j:Nat}{d:List Int}{x:V}{pt:Bool}(hy:By t)(hl:t.length<=100000000000)(hk:k<=t.length)(hj:k+((t.drop k).takeWhile KD).length=j)(hjl:j<=t.length)(hd:(t.take j).drop k=d)
  (hpt:(∃c,t[j]? =some c/\(c==46)=pt)\/(t.length<=j/\pt=false)):
  WD (Yv lo h) JA (pc Yt 4 4) ([(0,.v (.string (bs t))),(2,.ptr h.length 0),(5,.v (.int .i64 k)),(6,.v (.bool neg)),(28,x)],h++[.cells (Jj (0,0))])=
   some (.normal,[(0,.v (.string (bs t))),(2,.ptr h.length 0),(5,.v (.int .i64 j)),(6,.v (.bool neg)),(8,.v (.string (bs d))),(9,.v (.int .i64 0)),(10,.v (.bool true)),(52,.v (.bool pt))],h++[.cells (Jj (0,0))]):=by
 have k152:=λh=>f130 (lo:=lo) (h:=h) hy hl hk
 have hkj:k<=j:=om;simp only[hj]at k152;rcases hpt with⟨c,hc,rfl⟩|⟨hn,rfl⟩
 ·have hlt:=(Ab.1 hc).1
  have t1:decide ((j:Int)<(t.length:Int))=true:=by simp;omega
  simp only[go_sem,Yv,Yt,Tryz.f110,Kg,k152,JKO,hd,hkj,hjl,t1,Yj hy,hc,Jj]<;>rfl
 ·have t1:decide ((j:Int)<(t.length:Int))=false:=by simp;omega
  have hnn:t[j]? =none:=B2 hn
  simp only[go_sem,Yv,Yt,Tryz.f110,Kg,k152,JKO,hd,hkj,hjl,t1,Yj hy,hnn,Jj]<;>rfl
theorem Jek{j:Nat}{d:List Int}:WD (Yv lo h) JA (pc Yt 8 1) ([(0,.v (.string (bs t))),(2,.ptr h.length 0),(5,.v (.int .i64 j)),(6,.v (.bool neg)),(8,.v (.string (bs d))),(9,.v (.int .i64 0)),(10,.v (.bool true)),(52,.v (.bool false))],h++[.cells (Jj (0,0))])=
   some (.normal,[(0,.v (.string (bs t))),(2,.ptr h.length 0),(5,.v (.int .i64 j)),(6,.v (.bool neg)),(8,.v (.string (bs d))),(9,.v (.int .i64 0)),(10,.v (.bool true)),(52,.v (.bool false))],h++[.cells (Jj (0,0))]):=by
 simp only[go_sem,Yv,Yt,Tryz.f110,Jj]
theorem Jel{j n:Nat}{d f:List Int}(hy:By t)(hl:t.length<=100000000000)(hdl:d.length<=100000000000)(hjl:j+1<=t.length)(hn:j+1+((t.drop (j+1)).takeWhile KD).length=n)(hnl:n<=t.length)(hnj:j+1<n)(hf:(t.take n).drop (j+1)=f):
  WD (Yv lo h) JA (pc Yt 8 1) ([(0,.v (.string (bs t))),(2,.ptr h.length 0),(5,.v (.int .i64 j)),(6,.v (.bool neg)),(8,.v (.string (bs d))),(9,.v (.int .i64 0)),(10,.v (.bool true)),(52,.v (.bool true))],h++[.cells (Jj (0,0))])=
   some (.normal,[(0,.v (.string (bs t))),(2,.ptr h.length 0),(5,.v (.int .i64 n)),(6,.v (.bool neg)),(8,.v (.string (bs (d++f)))),(9,.v (.int .i64 f.length)),(10,.v (.bool false)),(52,.undef)],h++[.cells (Jj (0,0))]):=by
 have hw:=JM (i:=j) om;have k152:=λh=>f130 (lo:=lo) (h:=h) hy hl hjl
 simp only[hn]at k152;have t1:((n:Int)==((j+1:Nat):Int))=false:=by simp;omega
 have hflen:f.length=n-(j+1):=by rw[<-hf,AB,Az];omega
 have w2:Am.wrap ((n:Int)-j)=((n-j:Nat):Int):=by rw[JW om om];omega
 have w3:Am.wrap (((n-j:Nat):Int)-1)=(f.length:Int):=by rw[JW om om];omega
 have hjn:j+1<=n:=om;have hsz:d.length+f.length<=9223372036854775807:=om;simp only[go_sem,Yv,Yt,Tryz.f110,Kg,hw,k152,t1,JKO,hf,hjn,hnl,hsz,Jei,w2,w3,Jj]<;>rfl
theorem JZd{j:Nat}{d:List Int}{fr:Int}{whole more:Bool}{x:V}(hd:d≠[])(hm:decide (j<t.length)=more):
  WD (Yv lo h) JA (pc Yt 9 4) ([(0,.v (.string (bs t))),(2,.ptr h.length 0),(5,.v (.int .i64 j)),(6,.v (.bool neg)),(8,.v (.string (bs d))),(9,.v (.int .i64 fr)),(10,.v (.bool whole)),(52,x)],h++[.cells (Jj (0,0))])=
   some (.normal,[(0,.v (.string (bs t))),(2,.ptr h.length 0),(5,.v (.int .i64 j)),(6,.v (.bool neg)),(8,.v (.string (bs d))),(9,.v (.int .i64 fr)),(10,.v (.bool whole)),(11,.v (.int .i64 0)),(80,.v (.bool more))],h++[.cells (Jj (0,0))]):=by
 have t1:((bs d).toList==(⟨#[]⟩:ByteArray).toList)=false:=(JRz d).trans (by simp[hd])
 have t2:decide ((j:Int)<(t.length:Int))=more:=by rw[<-hm];simp
 simp only[go_sem,Yv,Yt,Tryz.f110,Kg,t1,t2,Jj]<;>rfl
theorem Jem{d:List Int}{fr j:Int}{whole:Bool}{y:Int×Int}(hlo:lo<=h.length)(hw:Am.wrap (0-fr)= -fr)
  (hv:∀h,lo<=h.length->E lo 131 [.v (.bool neg),.v (.string (bs d)),.v (.int .i64 (-fr))] h=some (.agg (Jj y),h)):
  WD (Yv lo h) JA (pc Yt 13 3) ([(0,.v (.string (bs t))),(2,.ptr h.length 0),(5,.v (.int .i64 j)),(6,.v (.bool neg)),(8,.v (.string (bs d))),(9,.v (.int .i64 fr)),(10,.v (.bool whole)),(11,.v (.int .i64 0)),(80,.v (.bool false))],h++[.cells (Jj (0,0))])=
   some (.ret,[(2,.ptr h.length 0),(3,.v (.bool whole)),(4,.v (.int .i64 0))],h++[.cells (Jj y)]):=by
 have k:=hv (h++[.cells (Jj (0,0))]) (by simp;omega)
 simp only[Jj]at k;simp only[go_sem,Yv,Yt,Tryz.f110,hw,k,hlo,Jj]<;>rfl
theorem Jen{d r:List Int}{fr c:Int}{j i:Nat}{whole down:Bool}{y:Int×Int}(hy:By t)(hl:t.length<=100000000000)(hlo:lo<=h.length)
  (hc:t[j]? =some c)(hce:(c !=101&&c !=69)=false)
  (hi:(∃s,t[j+1]? =some s/\(s==43||s==45)=true/\i=j+2/\down=(s==45))\/(∃s,t[j+1]? =some s/\(s==43||s==45)=false/\i=j+1/\down=false))
  (hr:t.drop i=r)(hrd:∀x∈r,KD x=true)(hr0:r≠[])(hil:i+r.length=t.length)(hf0:0<=fr)(hf1:fr<=100000000000)
  (hv:∀h,lo<=h.length->E lo 131 [.v (.bool neg),.v (.string (bs d)),.v (.int .i64 ((if down=true then-kc 0 r else kc 0 r)-fr))] h=some (.agg (Jj y),h)):
  WD (Yv lo h) JA (pc Yt 13 3) ([(0,.v (.string (bs t))),(2,.ptr h.length 0),(5,.v (.int .i64 j)),(6,.v (.bool neg)),(8,.v (.string (bs d))),(9,.v (.int .i64 fr)),(10,.v (.bool whole)),(11,.v (.int .i64 0)),(80,.v (.bool true))],h++[.cells (Jj (0,0))])=
   some (.ret,[(2,.ptr h.length 0),(3,.v (.bool false)),(4,.v (.int .i64 0))],h++[.cells (Jj y)]):=by
 have k:=hv (h++[.cells (Jj (0,0))]) (by simp;omega)
 have w1:Am.wrap ((j:Int)+1)=((j+1:Nat):Int):=JM (by have:=(Ab.1 hc).1;omega)
 have w2:Am.wrap (((j+1:Nat):Int)+1)=((j+2:Nat):Int):=JM (by have:=(Ab.1 hc).1;omega)
 have htw:((t.drop i).takeWhile KD).length=r.length:=by rw[hr,JKQ hrd]
 have hrl:1<=r.length:=by
  cases r with
  |nil=>exact absurd rfl hr0
  |cons _ _=>simp
 have hil2:i<=t.length:=om;have k152:=λh=>f130 (lo:=lo) (h:=h) hy hl hil2
 simp only[htw,hil]at k152;have t1:((t.length:Int)==(i:Int))=false:=by simp;omega
 have t2:((t.length:Int) !=(t.length:Int))=false:=by simp
 have hL:=JYW (lo:=lo) (h:=h) (neg:=neg) (ds:=d) (fr:=fr) (whole:=false) (down:=down) hy hl r i 0 (.v (.bool false)) hr hil hrd om om;obtain⟨x0,x1⟩:=JKP r 0 hrd om om;generalize kc 0 r=ee at*;simp only[JVe,Yv,JCj,Yt,Tryz.f110,JK,loops,JC,go_sem,Jj]at hL;simp only[Jj]at k;rcases hi with⟨s,hs,hss,rfl,rfl⟩|⟨s,hs,hss,rfl,rfl⟩
 ·have hlt:decide (((j+1:Nat):Int)<(t.length:Int))=true:=by have:=(Ab.1 hs).1;simp;omega
  cases hdn:(s==45)with
  |true=>
   rw[hdn]at k hL;simp only[if_true]at k;have w3:Am.wrap (0-ee)= -ee:=by rw[JW om om];omega
   have w4:Am.wrap (-ee-fr)= -ee-fr:=by rw[JW om om]
   simp only[hdn,Bool.or_true]at hss
   simp only[go_sem,Yv,Yt,Tryz.f110,Kg,Yj hy,hc,hce,w1,w2,hs,hss,hdn,hlt,k152,t1,t2,hL,w3,w4,k,hlo,Jj]<;>rfl
  |false=>
   have h43:(s==43)=true:=by simpa[hdn]using hss
   rw[hdn]at k hL hss;simp only[Al,if_false]at k;have w4:Am.wrap (ee-fr)=ee-fr:=by rw[JW om om]
   simp only[go_sem,Yv,Yt,Tryz.f110,Kg,Yj hy,hc,hce,w1,w2,hs,h43,hdn,hlt,k152,t1,t2,hL,w4,k,hlo,Jj]<;>rfl
 ·have hlt:decide (((j+1:Nat):Int)<(t.length:Int))=true:=by have:=(Ab.1 hs).1;simp;omega
  simp only[Al,if_false]at k;have w4:Am.wrap (ee-fr)=ee-fr:=by rw[JW om om]
  simp only[go_sem,Yv,Yt,Tryz.f110,Kg,Yj hy,hc,hce,w1,w2,hs,hss,hlt,k152,t1,t2,hL,w4,k,hlo,Jj]<;>rfl
end
theorem JOM{r:List Int}(hr:∀c u,r=c::u->KD c=false):∀{l:List Int},(∀c∈l,KD c=true)->(l++r).takeWhile KD=l
 |[],_=>by
  cases r with
  |nil=>rfl
  |cons c u=>rw[Au,Ci (by simp[hr c u rfl])]
 |c::t,h=>by rw[AA,Be (h c (by simp)),JOM hr λx hx=>h x (by simp[hx])]
theorem zR{l:List Int}(h:l.all KD=true):∀c∈l,KD c=true:=λc hc=>List.all_eq_true.1 h c hc
def nmF(n:Nm):List Int:=if n.fr=[]then[]else 46::n.fr
def nmR(n:Nm):List Int:=n.ex++n.d3
theorem nm_text(n:Nm):n.text=n.sg++(n.d1++(nmF n++nmR n)):=by simp[Nm.text,nmF,nmR]
theorem JMQ{n:Nm}(ok:n.Ok):∀c u,nmR n=c::u->KD c=false/\(c=101\/c=69):=by
 intro c u h;unfold nmR at h;rcases ok.ex with⟨h1,h2⟩|⟨⟨e,he,h1|h1|h1⟩,h2⟩
 ·rw[h1,h2]at h;cases h
 all_goals
  rw[h1]at h;cases h;rcases he with rfl|rfl
  ·exact⟨rfl,.inl rfl⟩
  ·exact⟨rfl,.inr rfl⟩
theorem JVf{n:Nm}(ok:n.Ok):∀c u,nmF n++nmR n=c::u->KD c=false:=by
 intro c u h;unfold nmF at h
 split at h
 ·exact(JMQ ok c u h).1
 ·cases h;rfl
theorem JlP{n:Nm}(ok:n.Ok):By n.text:=by
 have dg:∀{l:List Int},l.all KD=true->∀c∈l,0<=c/\c<=255:=λh c hc=>by have:=zR h c hc;simp only[KD,Af,decide_eq_true_eq]at this;omega
 intro c hc;rw[nm_text,AO,AO,AO]at hc;rcases hc with hc|hc|hc|hc
 ·rcases ok.sg with h|h|h<;>rw[h]at hc<;>simp at hc<;>subst hc<;>decide
 ·exact dg ok.d1 c hc
 ·unfold nmF at hc
  split at hc
  ·cases hc
  ·rcases AP.1 hc with rfl|hc
   ·decide
   ·exact dg ok.fr c hc
 ·unfold nmR at hc
  rcases AO.1 hc with hc|hc
  ·rcases ok.ex with⟨h1,h2⟩|⟨⟨e,he,h1|h1|h1⟩,h2⟩
   ·rw[h1]at hc;cases hc
   all_goals
    rw[h1]at hc;simp at hc;omega
  ·exact dg ok.d3 c hc
theorem JH8(w:Wr):JUU w=JOL w.below w.digits (w.exp-w.behind):=rfl
theorem JVg{h:JG}{x:Int×Int}{whole:Bool}:fin Aa [.cell 2 28,.tmp 3,.tmp 4] h.length (some (.ret,[(2,.ptr h.length 0),(3,.v (.bool whole)),(4,.v (.int .i64 0))],h++[.cells (Jj x)]))=some (.tup [.agg (Jj x),.v (.bool whole),.v (.int .i64 0)],h):=by simp only[go_sem,Jj]<;>rfl
theorem f110{lo:Nat}{n:Nm}{h:JG}(ok:n.Ok)(hl:n.text.length<=100000000000)(hlo:lo<=h.length):
  E lo 110 [.v (.string (bs n.text))] h=some (.tup [.agg (Jj n.num.1),.v (.bool n.num.2),.v (.int .i64 0)],h):=by
 have hy:=JlP ok;have hT:=nm_text n;have hF:=JVf ok;have hRh:=JMQ ok;obtain⟨k,hk⟩:∃k,n.sg.length=k:=⟨_,rfl⟩;obtain⟨j,hj⟩:∃j,k+n.d1.length=j:=⟨_,rfl⟩;obtain⟨m,hm⟩:∃m,j+(nmF n).length=m:=⟨_,rfl⟩;generalize n.text=t at*;have hlen:t.length=m+(nmR n).length:=by rw[hT];simp;omega
 have D1:t.drop k=n.d1++(nmF n++nmR n):=by rw[hT,<-hk,CF]
 have D2:t.drop j=nmF n++nmR n:=by rw[<-hj,<-AY,D1,CF]
 have D3:t.drop m=nmR n:=by rw[<-hm,<-AY,D2,CF]
 have at_:∀i,t[i]? =(t.drop i)[0]? :=λi=>by simp
 have hd1:=zR ok.d1;have hfr:=zR ok.fr;have hd3:=zR ok.d3
 have ht0:(∃c,t[0]? =some c/\(c==43)=false/\(c==45)=false/\k=0/\(n.sg==[45])=false)\/(t[0]? =some 43/\k=1/\(n.sg==[45])=false)\/(t[0]? =some 45/\k=1/\(n.sg==[45])=true):=by
  rcases ok.sg with hs|hs|hs
  ·left
   rw[hs]at hk hT⊢;rw[Au]at hT
   cases hd:n.d1 with
   |cons c u=>
    have hc:=hd1 c (by rw[hd];simp)
    simp only[KD,Af,decide_eq_true_eq]at hc
    exact⟨c,by rw[hT,hd]<;>rfl,by simp;omega,by simp;omega,hk.symm,rfl⟩
   |nil=>
    have hne:n.fr≠[]:=λh=>ok.some (by rw[hd,h]<;>rfl)
    exact⟨46,by rw[hT,hd];unfold nmF;rw[if_neg hne]<;>rfl,rfl,rfl,hk.symm,rfl⟩
  ·exact .inr (.inl ⟨by rw[hT,hs]<;>rfl,by rw[<-hk,hs]<;>rfl,by rw[hs]<;>rfl⟩)
  ·exact .inr (.inr ⟨by rw[hT,hs]<;>rfl,by rw[<-hk,hs]<;>rfl,by rw[hs]<;>rfl⟩)
 obtain⟨x,hA⟩:=JlN (lo:=lo) (h:=h) (neg:=n.sg==[45]) hy hl hlo ht0;rw[Jq5,pc_in,pc_go _ _ _ _ 0 4,hA,pc_go _ _ _ _ _ 4];have htw:((t.drop k).takeWhile KD).length=n.d1.length:=by rw[D1,JOM hF hd1]
 have hex1:(t.take j).drop k=n.d1:=by rw[<-hj,<-Le,D1,CG]
 rw[JlO (pt:= !n.fr.isEmpty) hy hl om om om hex1 (by
  cases hfe:n.fr with
  |cons c u=>exact .inl ⟨46,by rw[at_,D2];unfold nmF;rw[hfe]<;>rfl,rfl⟩
  |nil=>
   cases hr:nmR n with
   |nil=>exact .inr ⟨by rw[hlen,hr,<-hm];unfold nmF;rw[hfe];simp,rfl⟩
   |cons c u=>
    refine .inl ⟨c,by rw[at_,D2,hr];unfold nmF;rw[hfe]<;>rfl,?_⟩
    rcases(hRh c u hr).2 with rfl|rfl<;>rfl)]
 rw[pc_go _ _ _ _ _ 1]
 have hB:∃y,WD (Yv lo h) JA (pc Yt 8 1) ([(0,.v (.string (bs t))),(2,.ptr h.length 0),(5,.v (.int .i64 j)),(6,.v (.bool (n.sg==[45]))),(8,.v (.string (bs n.d1))),(9,.v (.int .i64 0)),(10,.v (.bool true)),(52,.v (.bool (!n.fr.isEmpty)))],h++[.cells (Jj (0,0))])=
   some (.normal,[(0,.v (.string (bs t))),(2,.ptr h.length 0),(5,.v (.int .i64 m)),(6,.v (.bool (n.sg==[45]))),(8,.v (.string (bs (n.d1++n.fr)))),(9,.v (.int .i64 n.fr.length)),(10,.v (.bool n.fr.isEmpty)),(52,y)],h++[.cells (Jj (0,0))]):=by
  cases hfe:n.fr with
  |nil=>
   have:m=j:=by rw[<-hm];unfold nmF;rw[hfe];simp
   subst this;refine⟨.v (.bool false),?_⟩
   rw[List.append_nil]
   exact Jek
  |cons c u=>
   have hnF:nmF n=46::n.fr:=by unfold nmF;rw[if_neg (by simp[hfe])]
   have D2':t.drop (j+1)=n.fr++nmR n:=by rw[<-AY,D2,hnF]<;>rfl
   have hm':m=j+1+n.fr.length:=by rw[<-hm,hnF];simp;omega
   have h1:((t.drop (j+1)).takeWhile KD).length=n.fr.length:=by rw[D2',JOM (λc u h=>(hRh c u h).1) hfr]
   have h2:(t.take m).drop (j+1)=n.fr:=by rw[hm',<-Le,D2',CG]
   have hpos:0<n.fr.length:=by rw[hfe];simp
   refine⟨.undef,?_⟩
   have:=Jel (lo:=lo) (h:=h) (neg:=n.sg==[45]) (j:=j) (n:=m) (d:=n.d1) (f:=n.fr) hy hl om om om om om h2;rw[<-hfe];simpa[hfe]using this
 obtain⟨y,hB⟩:=hB;rw[hB,pc_go _ _ _ _ _ 4];have hne:n.d1++n.fr≠[]:=ok.some
 have hall:∀c∈n.d1++n.fr,KD c=true:=λc hc=>by
  rcases AO.1 hc with hc|hc
  ·exact hd1 c hc
  ·exact hfr c hc
 have hfl:n.fr.length<=(nmF n).length:=by unfold nmF;split<;>simp_all
 have hsz:(n.d1++n.fr).length<=100000000000:=by simp;omega
 rcases ok.ex with⟨h1,h2⟩|⟨⟨e,he,hx⟩,h2⟩
 ·have hr:nmR n=[]:=by unfold nmR;rw[h1,h2]<;>rfl
  rw[JZd (more:=false) hne (by rw[hlen,hr];simp),pc_go _ _ _ _ _ 3]
  have hq:n.num=(JOL (n.sg==[45]) (n.d1++n.fr) (-(n.fr.length:Int)),n.fr.isEmpty):=by unfold Nm.num;rw[JH8];simp[Nm.wr,h1,h2,chr,kc]
  rw[hq,Jem (y:=JOL (n.sg==[45]) (n.d1++n.fr) (-(n.fr.length:Int))) hlo (by rw[JW om om];omega) (λh hh=>f131 hall hsz om om hh),Qr]
  exact JVg
 ·have hd3l:0<n.d3.length:=by
   cases hd:n.d3 with
   |nil=>exact absurd hd h2
   |cons _ _=>simp
  obtain⟨s3,u3,hs3⟩:∃s u,n.d3=s::u:=by
   cases hd:n.d3 with
   |nil=>exact absurd hd h2
   |cons s u=>exact⟨s,u,rfl⟩
  have hs3d:=hd3 s3 (by rw[hs3];simp)
  simp only[KD,Af,decide_eq_true_eq]at hs3d;have hexl:n.ex≠[]:=by rcases hx with h|h|h<;>rw[h]<;>simp
  have hrl:(nmR n).length=n.ex.length+n.d3.length:=by simp[nmR]
  have hxl:0<n.ex.length:=by rcases hx with h|h|h<;>rw[h]<;>simp
  rw[JZd (more:=true) hne (by rw[hlen];simp;omega),pc_go _ _ _ _ _ 3]
  have hce:(e !=101&&e !=69)=false:=by rcases he with rfl|rfl<;>rfl
  obtain⟨x0,x1⟩:=JKP n.d3 0 hd3 om om
  have hq:n.num=(JOL (n.sg==[45]) (n.d1++n.fr) ((if(chr n.ex 1==45)=true then-kc 0 n.d3 else kc 0 n.d3)-(n.fr.length:Int)),false):=by
   unfold Nm.num;rw[JH8];have:n.ex.isEmpty=false:=by rcases hx with h|h|h<;>rw[h]<;>rfl
   simp[Nm.wr,this]
  have hat0:t[m]? =some e:=by rw[at_,D3];unfold nmR;rcases hx with h|h|h<;>rw[h]<;>rfl
  have D3':t.drop (m+n.ex.length)=n.d3:=by rw[<-AY,D3];unfold nmR;rw[CF]
  have hi:(∃s,t[m+1]? =some s/\(s==43||s==45)=true/\m+n.ex.length=m+2/\(chr n.ex 1==45)=(s==45))\/(∃s,t[m+1]? =some s/\(s==43||s==45)=false/\m+n.ex.length=m+1/\(chr n.ex 1==45)=false):=by
   have a1:t[m+1]? =(nmR n)[1]? :=by rw[<-D3];simp
   rw[a1];unfold nmR;rcases hx with h|h|h
   ·right
    rw[h,hs3];refine⟨s3,rfl,?_,rfl,rfl⟩
    simp;omega
   ·left;rw[h];exact⟨43,rfl,rfl,rfl,rfl⟩
   ·left;rw[h];exact⟨45,rfl,rfl,rfl,rfl⟩
  rw[hq,Jen (y:=JOL (n.sg==[45]) (n.d1++n.fr) ((if(chr n.ex 1==45)=true then-kc 0 n.d3 else kc 0 n.d3)-(n.fr.length:Int))) hy hl hlo hat0 hce hi D3' hd3 h2 (by rw[hlen,hrl];omega) om om (λh hh=>f131 hall hsz (by split<;>omega) (by split<;>omega) hh),Qr]
  exact JVg
def Asc(l:List Int):Prop:=∀c∈l,0<=c/\c<128
theorem JMR{c:Int}(h:0<=c/\c<128):K7 c=c:=by unfold K7;rw[if_neg];simp;omega
theorem zS{x c:Int}(h:K7 x=c)(hc:c<128):x=c:=by
 unfold K7 at h
 split at h
 ·omega
 ·exact h
theorem JMS:∀{l:List Int},Asc l->Yr l=l
 |[],_=>rfl
 |c::t,h=>by
  have hc:=h c (by simp)
  have e:Yr (c::t)=enc (K7 c)++Yr t:=rfl;rw[e,JMS λx hx=>h x (by simp[hx]),JMR hc]
  unfold enc;simp[hc.2]
theorem JPi:∀{l t:List Int},l.map K7=t->Asc t->l=t
 |[],t,h,_=>by simpa using h
 |x::l,[],h,_=>by simp at h
 |x::l,c::t,h,ha=>by simp only[A2,Cb]at h;rw[zS h.1 (ha c (by simp)).2,JPi h.2 λy hy=>ha y (by simp[hy])]
theorem Jeo{n:Nm}(ok:n.Ok):Asc n.text:=by
 have dg:∀{l:List Int},l.all KD=true->∀c∈l,0<=c/\c<128:=λh c hc=>by have:=zR h c hc;simp only[KD,Af,decide_eq_true_eq]at this;omega
 intro c hc;rw[nm_text,AO,AO,AO]at hc;rcases hc with hc|hc|hc|hc
 ·rcases ok.sg with h|h|h<;>rw[h]at hc<;>simp at hc<;>subst hc<;>decide
 ·exact dg ok.d1 c hc
 ·unfold nmF at hc
  split at hc
  ·cases hc
  ·rcases AP.1 hc with rfl|hc
   ·decide
   ·exact dg ok.fr c hc
 ·unfold nmR at hc
  rcases AO.1 hc with hc|hc
  ·rcases ok.ex with⟨h1,h2⟩|⟨⟨e,he,h1|h1|h1⟩,h2⟩
   ·rw[h1]at hc;cases hc
   all_goals
    rw[h1]at hc;simp at hc;omega
  ·exact dg ok.d3 c hc
theorem JYX{l t:List Int}{i j:Nat}(hij:i<=j)(hj:j<=l.length)(hs:suf l i=t++suf l j)(ha:Asc t):(l.take j).drop i=t:=by
 have hlen:=congrArg Bq hs;rw[Ao,QD,QD]at hlen;refine JPi ?_ ha
 rw[DR,DQ]
 have h1:((l.map K7).take j).drop i=(suf l i).take (j-i):=by unfold suf;rw[List.drop_take]
 rw[h1,hs];have h2:j-i=t.length:=om;rw[h2,CG]
theorem JVh(k:IntKind)(l:List Int)(a b:Nat):((ri k l).take b).drop a=ri k ((l.take b).drop a):=by simp[ri,DR,DQ]
def tkC(t:Tk):List V:=[.v (.int .i64 t.kind),.v (.string (str t.text)),.v (.int .i64 t.num.1),.v (.int .i64 t.num.2),.v (.bool t.whole),.v (.bool t.id)]
section
variable{lo i j:Nat}{l:List Int}{p q:List Ob}
noncomputable abbrev GK(lo:Nat)(p q:List Ob):Cx:=⟨Aa,E,lo,p.length+(q.length+1),h82⟩
abbrev H80(p q:List Ob)(l:List Int)(j:Nat)(more:List Ob):JG:=p++R l j::(q++(.cells (tokC 0 [])::more))
abbrev P80(p q:List Ob)(l:List Int)(i j:Nat)(ex:Jl):Jl×JG:=
 ((0,.ptr p.length 0)::(2,.ptr (p.length+(q.length+1)) 0)::(3,.v (.int .i64 i))::ex,H80 p q l j [])
theorem Jsu(hl:l.length<=100000000000)(hi:i<=l.length):∃j,j<=l.length/\i<=j/\suf l j=(if(chr (suf l i) 0==43||chr (suf l i) 0==45)=true then(suf l i).drop 1 else suf l i)/\
  ∃x,∀lo p q,lo<=p.length->WD (GK lo p q) JA (pc b82 0 5) (QH [.ptr p.length 0],p++R l i::q)=some (.normal,P80 p q l i j [(23,x)]):=by
 have k0:=λlo p q=>f47 (lo:=lo) (l:=l) (i:=i) (p:=p) (q:=q) (k:=0) om
 have hw:=JM (i:=i) om;simp only[n0]at k0;generalize hc:chr (suf l i) 0=c at*;by_cases hs:(c==43||c==45)=true
 ·have hne:i<l.length:=by
   rcases Ay i l.length with h|h
   ·exact h
   ·rw[J9 h]at hc
    rw[<-hc]at hs;exact absurd hs (by decide)
  rw[if_pos hs];refine⟨i+1,om,om,by simp[suf,AY],?_⟩
  cases h43:(c==43)with
  |true=>
   refine⟨.v (.bool true),λlo p q hlo=>?_⟩
   simp only[go_sem,GK,P80,H80,b82,Tryz.f82,k0,h43,hw,hlo,tokC,str_nil]<;>rfl
  |false=>
   have h45:(c==45)=true:=by simpa[h43]using hs
   refine⟨.v (.bool true),λlo p q hlo=>?_⟩
   simp only[go_sem,GK,P80,H80,b82,Tryz.f82,k0,h43,h45,hw,hlo,tokC,str_nil]<;>rfl
 ·rw[if_neg hs]
  have h43:(c==43)=false:=by simp at hs⊢;omega
  have h45:(c==45)=false:=by simp at hs⊢;omega
  refine⟨i,hi,Ad _,rfl,.v (.bool false),λlo p q hlo=>?_⟩
  simp only[go_sem,GK,P80,H80,b82,Tryz.f82,k0,h43,h45,hw,hlo,tokC,str_nil]<;>rfl
theorem Jsv{x:V}(hl:l.length<=100000000000)(hj:j<=l.length):∃j',j'<=l.length/\j<=j'/\
  suf l j'=(if(chr ((suf l j).dropWhile KD) 0==46&&KD (chr ((suf l j).dropWhile KD) 1))=true then(((suf l j).dropWhile KD).drop 1).dropWhile KD else(suf l j).dropWhile KD)/\
  ∃y,∀lo p q (i:Nat),lo<=p.length->WD (GK lo p q) JA (pc b82 5 3) (P80 p q l i j [(23,x)])=some (.normal,P80 p q l i j' [(40,y)]):=by
 obtain⟨j1,a1,a2,a3,a4⟩:=f109 (l:=l) (i:=j) hl hj;have k0:=λlo p q=>f47 (lo:=lo) (l:=l) (i:=j1) (p:=p) (q:=q) (k:=0) om
 have k1:=λlo p q=>f47 (lo:=lo) (l:=l) (i:=j1) (p:=p) (q:=q) (k:=1) om
 have hw:=JM (i:=j1) om;have n1:((1:Nat):Int)=1:=rfl;simp only[n0,n1]at k0 k1;rw[<-a3];by_cases hf:(chr (suf l j1) 0==46&&KD (chr (suf l j1) 1))=true
 ·rw[if_pos hf]
  rw[Af]at hf;obtain⟨h46,hd⟩:=hf
  have hne:j1<l.length:=by
   rcases Ay j1 l.length with h|h
   ·exact h
   ·rw[J9 h]at h46
    exact absurd h46 (by decide)
  obtain⟨j2,b1,b2,b3,b4⟩:=f109 (l:=l) (i:=j1+1) hl om;refine⟨j2,b1,om,by rw[b3];simp[suf,AY],.undef,λlo p q i hlo=>?_⟩
  simp only[go_sem,GK,P80,H80,b82,Tryz.f82,a4 _ _ _ hlo,k0,k1,f108,h46,hd,hw,hlo,b4 _ _ _ hlo,tokC,str_nil]<;>rfl
 ·rw[if_neg hf]
  refine⟨j1,a1,a2,rfl,.v (.bool false),λlo p q i hlo=>?_⟩
  cases h46:(chr (suf l j1) 0==46)with
  |true=>
   have hd:KD (chr (suf l j1) 1)=false:=by simpa[h46]using hf
   simp only[go_sem,GK,P80,H80,b82,Tryz.f82,a4 _ _ _ hlo,k0,k1,f108,h46,hd,tokC,str_nil]<;>rfl
  |false=>simp only[go_sem,GK,P80,H80,b82,Tryz.f82,a4 _ _ _ hlo,k0,k1,f108,h46,tokC,str_nil]<;>rfl
theorem Jsw{x:V}(hl:l.length<=100000000000)(hj:j<=l.length):∃j',j'<=l.length/\j<=j'/\
  suf l j'=(if((chr (suf l j) 0==101||chr (suf l j) 0==69)&&KD (chr (suf l j) (if(chr (suf l j) 1==43||chr (suf l j) 1==45)=true then 2 else 1)))=true
   then((suf l j).drop (if(chr (suf l j) 1==43||chr (suf l j) 1==45)=true then 2 else 1)).dropWhile KD else suf l j)/\
  ∃ex:Jl,((∃x,ex=[(57,x)])\/ ∃x y,ex=[(6,x),(69,y)])/\ ∀lo p q (i:Nat),lo<=p.length->WD (GK lo p q) JA (pc b82 8 3) (P80 p q l i j [(40,x)])=some (.normal,P80 p q l i j' ex):=by
 have k0:=λlo p q=>f47 (lo:=lo) (l:=l) (i:=j) (p:=p) (q:=q) (k:=0) om
 have k1:=λlo p q=>f47 (lo:=lo) (l:=l) (i:=j) (p:=p) (q:=q) (k:=1) om
 have k2:=λlo p q=>f47 (lo:=lo) (l:=l) (i:=j) (p:=p) (q:=q) (k:=2) om
 have hw1:=JM (i:=j) om;have hw2:Am.wrap ((j:Int)+2)=((j+2:Nat):Int):=by rw[JW om om];omega
 have n1:((1:Nat):Int)=1:=rfl;have n2:((2:Nat):Int)=2:=rfl;simp only[n0,n1,n2]at k0 k1 k2;have hlen:=QD l j;by_cases he:(chr (suf l j) 0==101||chr (suf l j) 0==69)=true
 rotate_left
 ·rw[CH]at he
  rw[he,Bool.false_and,if_neg (by simp)]
  rw[Dh]at he;obtain⟨h1,h2⟩:=he;refine⟨j,hj,Ad _,rfl,[(57,.v (.bool false))],.inl ⟨_,rfl⟩,λlo p q i hlo=>?_⟩
  simp only[go_sem,GK,P80,H80,b82,Tryz.f82,k0,h1,h2,tokC,str_nil]<;>rfl
 rw[he,Bool.true_and];by_cases hs:(chr (suf l j) 1==43||chr (suf l j) 1==45)=true
 ·rw[if_pos hs]
  by_cases hd:KD (chr (suf l j) 2)=true
  ·rw[if_pos hd]
   have hne:j+2<=l.length:=by
    rcases Ay (j+1) l.length with h|h
    ·omega
    ·exfalso
     have:chr (suf l j) 1= -1:=by simp only[chr];rw[B2 om]
     rw[this]at hs;exact absurd hs (by decide)
   obtain⟨j2,b1,b2,b3,b4⟩:=f109 (l:=l) (i:=j+2) hl om;refine⟨j2,b1,om,by rw[b3];simp[suf,AY],[(57,.undef)],.inl ⟨_,rfl⟩,λlo p q i hlo=>?_⟩
   cases h1:(chr (suf l j) 0==101)<;>cases h43:(chr (suf l j) 1==43)<;>simp only[h1,h43,A3,Bp]at he hs<;>
    simp only[go_sem,GK,P80,H80,b82,Tryz.f82,k0,k1,k2,f108,h1,he,h43,hs,hd,hw2,hlo,b4 _ _ _ hlo,tokC,str_nil]<;>rfl
  ·rw[if_neg hd]
   rw[CH]at hd;refine⟨j,hj,Ad _,rfl,[(6,.v (.int .i64 2)),(69,.v (.bool false))],.inr ⟨_,_,rfl⟩,λlo p q i hlo=>?_⟩
   cases h1:(chr (suf l j) 0==101)<;>cases h43:(chr (suf l j) 1==43)<;>simp only[h1,h43,A3,Bp]at he hs<;>
    simp only[go_sem,GK,P80,H80,b82,Tryz.f82,k0,k1,k2,f108,h1,he,h43,hs,hd,tokC,str_nil]<;>rfl
 ·rw[if_neg hs]
  rw[CH,Dh]at hs;obtain⟨h43,h45⟩:=hs;by_cases hd:KD (chr (suf l j) 1)=true
  ·rw[if_pos hd]
   have hne:j+1<=l.length:=by
    rcases Ay j l.length with h|h
    ·omega
    ·exfalso
     rw[J9 h]at he;exact absurd he (by decide)
   obtain⟨j2,b1,b2,b3,b4⟩:=f109 (l:=l) (i:=j+1) hl om;refine⟨j2,b1,om,by rw[b3];simp[suf,AY],[(57,.undef)],.inl ⟨_,rfl⟩,λlo p q i hlo=>?_⟩
   cases h1:(chr (suf l j) 0==101)<;>simp only[h1,A3,Bp]at he<;>
    simp only[go_sem,GK,P80,H80,b82,Tryz.f82,k0,k1,k2,f108,h1,he,h43,h45,hd,hw1,hlo,b4 _ _ _ hlo,tokC,str_nil]<;>rfl
  ·rw[if_neg hd]
   rw[CH]at hd;refine⟨j,hj,Ad _,rfl,[(6,.v (.int .i64 1)),(69,.v (.bool false))],.inr ⟨_,_,rfl⟩,λlo p q i hlo=>?_⟩
   cases h1:(chr (suf l j) 0==101)<;>simp only[h1,A3,Bp]at he<;>
    simp only[go_sem,GK,P80,H80,b82,Tryz.f82,k0,k1,k2,f108,h1,he,h43,h45,hd,tokC,str_nil]<;>rfl
end
section
variable{lo i j:Nat}{l:List Int}{p q:List Ob}
theorem JYY{t:List Int}(h:Asc t):str t=bs t:=by unfold str bs;rw[JMS h]
theorem Jsx{n:Nm}(hl:l.length<=100000000000)(hij:i<=j)(hj:j<=l.length)(ok:n.Ok)(hs:suf l i=n.text++suf l j){ex:Jl}(hex:(∃x,ex=[(57,x)])\/ ∃x y,ex=[(6,x),(69,y)])(hlo:lo<=p.length)(hlo2:lo<=p.length+(q.length+2)):
  WD (GK lo p q) JA (pc b82 11 1) (P80 p q l i j ex)=some (.normal,[(0,.ptr p.length 0),(2,.ptr (p.length+(q.length+1)) 0),(8,.ptr (p.length+(q.length+2)) 0),(9,.v (.bool n.num.2))],H80 p q l j [.cells (Jj n.num.1)]):=by
 have hasc:=Jeo ok;have hbt:=JYX hij hj hs hasc
 have hlen:n.text.length<=100000000000:=by have:=congrArg Bq hs;rw[QD,Ao]at this;omega
 have k82:∀lo h,E lo 84 [.list .no (ri .i32 n.text)] h=some (.v (.string (bs n.text)),h):=λlo h=>by rw[f84 om,JYY hasc]
 have k120:∀lo h,lo<=h.length->E lo 110 [.v (.string (bs n.text))] h=some (.tup [.agg (Jj n.num.1),.v (.bool n.num.2),.v (.int .i64 0)],h):=λlo h hh=>f110 ok hlen hh
 simp only[Jj]at k120;have hlA:∀h:JG,h.length<=h.length:=λh=>Ad _
 rcases hex with⟨x,rfl⟩|⟨x,y,rfl⟩
 ·simp only[go_sem,GK,P80,H80,b82,Tryz.f82,JVh,hbt,hij,hj,k82,k120,Ad,hlo,hlo2,tokC,str_nil,Jj]<;>rfl
 ·simp only[go_sem,GK,P80,H80,b82,Tryz.f82,JVh,hbt,hij,hj,k82,k120,Ad,hlo,hlo2,tokC,str_nil,Jj]<;>rfl
theorem Jsy{n:Nm}(hlo:lo<=p.length)(hlo2:lo<=p.length+(q.length+3)):
  WD (GK lo p q) JA (pc b82 12 1) ([(0,.ptr p.length 0),(2,.ptr (p.length+(q.length+1)) 0),(8,.ptr (p.length+(q.length+2)) 0),(9,.v (.bool n.num.2))],H80 p q l j [.cells (Jj n.num.1)])=
   some (.normal,[(0,.ptr p.length 0),(2,.ptr (p.length+(q.length+1)) 0),(11,.ptr (p.length+(q.length+3)) 0)],H80 p q l j [.cells (Jj n.num.1),.cells (tkC ⟨10,[],n.num.1,n.num.2,false⟩)]):=by
 simp only[go_sem,GK,H80,b82,Tryz.f82,hlo2,tokC,tkC,str_nil,Jj]<;>rfl
theorem Jsz{r:List V}{m:Int×Int}{w:Bool}(hl:l.length<=100000000000)(hj:j<=l.length):∃j',j'<=l.length/\j<=j'/\
  ∃t:Tk,(t,suf l j')=(if beg (chr (suf l j) 0) (chr (suf l j) 1) (chr (suf l j) 2)=true then(⟨12,(name (suf l j)).1,m,w,false⟩,(name (suf l j)).2)
   else if chr (suf l j) 0=37 then(⟨11,[],m,w,false⟩,(suf l j).drop 1)else(⟨10,[],m,w,false⟩,suf l j))/\
  ∀lo p q,lo<=p.length->lo<=p.length+(q.length+1)->lo<=p.length+(q.length+3)->
   WD (GK lo p q) JA (pc b82 13 4) ([(0,.ptr p.length 0),(2,.ptr (p.length+(q.length+1)) 0),(11,.ptr (p.length+(q.length+3)) 0)],H80 p q l j [.cells r,.cells (tkC ⟨10,[],m,w,false⟩)])=
    some (.ret,[(2,.ptr (p.length+(q.length+1)) 0)],p++R l j'::(q++[.cells (tkC t),.cells r,.cells (tkC t)])):=by
 have k0:=λlo p q=>f47 (lo:=lo) (l:=l) (i:=j) (p:=p) (q:=q) (k:=0) om
 have k1:=λlo p q=>f47 (lo:=lo) (l:=l) (i:=j) (p:=p) (q:=q) (k:=1) om
 have k2:=λlo p q=>f47 (lo:=lo) (l:=l) (i:=j) (p:=p) (q:=q) (k:=2) om
 have hw1:=JM (i:=j) om;have n1:((1:Nat):Int)=1:=rfl;have n2:((2:Nat):Int)=2:=rfl;simp only[n0,n1,n2]at k0 k1 k2;by_cases hb:beg (chr (suf l j) 0) (chr (suf l j) 1) (chr (suf l j) 2)=true
 ·obtain⟨j2,b1,b2,b3,b4⟩:=f80 (l:=l) (i:=j) hl hj
  refine⟨j2,b1,b2,⟨12,(name (suf l j)).1,m,w,false⟩,by rw[if_pos hb,b3],λlo p q hlo hlo2 hlo3=>?_⟩
  simp only[go_sem,GK,H80,b82,Tryz.f82,k0,k1,k2,f79,hb,b4 _ _ _ hlo,hlo,hlo2,hlo3,tokC,tkC,str_nil]<;>rfl
 ·rw[if_neg hb]
  rw[CH]at hb;by_cases h37:chr (suf l j) 0=37
  ·have hne:j<l.length:=by
    rcases Ay j l.length with h|h
    ·exact h
    ·rw[J9 h]at h37;cases h37
   rw[if_pos h37];have t37:(chr (suf l j) 0==37)=true:=by simp[h37]
   refine⟨j+1,om,om,⟨11,[],m,w,false⟩,by simp[suf,AY],λlo p q hlo hlo2 hlo3=>?_⟩
   simp only[go_sem,GK,H80,b82,Tryz.f82,k0,k1,k2,f79,hb,t37,hw1,hlo,hlo2,hlo3,tokC,tkC,str_nil]<;>rfl
  ·rw[if_neg h37]
   have t37:(chr (suf l j) 0==37)=false:=by simp[h37]
   refine⟨j,hj,Ad _,⟨10,[],m,w,false⟩,rfl,λlo p q hlo hlo2 hlo3=>?_⟩
   simp only[go_sem,GK,H80,b82,Tryz.f82,k0,k1,k2,f79,hb,t37,hlo,hlo2,hlo3,tokC,tkC,str_nil]<;>rfl
theorem JZe{t:Tk}{h r r2:List Ob}{o:Ob}:fin Aa [.cell 2 53] (p.length+(q.length+1)) (some (.ret,[(2,.ptr (p.length+(q.length+1)) 0)],p++o::(q++ .cells (tkC t)::r)))=some (.agg (tkC t),p++o::q):=by simp only[go_sem,tkC]<;>rfl
theorem f82(hl:l.length<=100000000000)(hi:i<=l.length)(hn:num (chr (suf l i) 0) (chr (suf l i) 1) (chr (suf l i) 2)=true):
  ∃j,j<=l.length/\i<=j/\suf l j=(Yu (suf l i)).2/\
   ∀lo p q,lo<=p.length->E lo 82 [.ptr p.length 0] (p++R l i::q)=some (.agg (tkC (Yu (suf l i)).1),p++R l j::q):=by
 obtain⟨j1,a1,a2,a3,x,a4⟩:=Jsu (l:=l) (i:=i) hl hi;obtain⟨j2,b1,b2,b3,y,b4⟩:=Jsv (l:=l) (j:=j1) (x:=x) hl a1;obtain⟨j3,c1,c2,c3,ex,hex,c4⟩:=Jsw (l:=l) (j:=j2) (x:=y) hl b1
 have hrest:suf l j3=(Tok.QO (suf l i)).2:=by rw[c3,b3,a3];unfold Tok.QO;simp only
 have hok:=JJt hn;have htext:=JAG (suf l i);rw[<-hrest]at htext;obtain⟨j4,d1,d2,t,d3,d4⟩:=Jsz (l:=l) (j:=j3) (r:=Jj (Tok.QO (suf l i)).1.num.1) (m:=(Tok.QO (suf l i)).1.num.1) (w:=(Tok.QO (suf l i)).1.num.2) hl c1
 have hfig:(t,suf l j4)=Yu (suf l i):=by rw[d3,hrest];unfold Yu;simp only
 refine⟨j4,d1,om,by rw[<-hfig],λlo p q hlo=>?_⟩
 have hlo1:lo<=p.length+(q.length+1):=om;have hlo2:lo<=p.length+(q.length+2):=om;have hlo3:lo<=p.length+(q.length+3):=om;have hH:(p++R l i::q).length=p.length+(q.length+1):=by simp
 rw[e82,hH]
 rw[pc_in,pc_go _ _ _ _ 0 5,a4 lo p q hlo,pc_go _ _ _ _ _ 3,b4 lo p q i hlo,pc_go _ _ _ _ _ 3,c4 lo p q i hlo,pc_go _ _ _ _ _ 1,
  Jsx hl om c1 hok htext.symm hex hlo hlo2,pc_go _ _ _ _ _ 1,Jsy hlo hlo3,pc_go _ _ _ _ _ 4,d4 lo p q hlo hlo1 hlo3,Qr,<-hfig]
 exact JZe (h:=[]) (r2:=[])
end
theorem JMT(x:Int):(enc x).length<=4:=by
 unfold enc
 split
 ·simp
 ·split
  ·simp
  ·split<;>simp
theorem JMU:∀l:List Int,(Yr l).length<=4*l.length
 |[]=>by simp[Yr]
 |c::t=>by have e:Yr (c::t)=enc (K7 c)++Yr t:=rfl;have:=JMU t;have:=JMT (K7 c);rw[e,Ao,Ae];omega
theorem JMV:∀(k:Nat) (n:Int) (s:List Int),(Ys k n s).2.length<=s.length
 |0,n,s=>Ad _
 |k+1,n,[]=>Ad _
 |k+1,n,c::t=>by
  simp only[Ys]
  split
  ·exact Ad _
  ·have:=JMV k (n*16+hex c) t
   simp;omega
theorem JVi(s:List Int):(JDz s).length<=s.length:=by
 cases s with
 |nil=>exact Ad _
 |cons d u=>simp only[JDz];split<;>simp
theorem JVj(s:List Int):(QM s).2.length<=s.length:=by
 cases s with
 |nil=>exact Ad _
 |cons c t=>
  simp only[QM]
  split
  ·simp
  ·have:=JVi (Ys 6 0 (c::t)).2
   have:=JMV 6 0 (c::t);simp only at*;omega
theorem JAU:∀(n:Nat) (s:List Int),(QQ n s).1.length+(QQ n s).2.length<=s.length
 |0,s=>by simp[QQ]
 |n+1,[]=>by simp[QQ]
 |n+1,c::t=>by
  simp only[QQ]
  split
  ·have:=JAU n t
   simp;omega
  ·split
   ·have:=JAU n (QM t).2
    have:=JVj t;simp;omega
   ·simp
theorem JVk(s:List Int):(name s).1.length<=s.length:=by have:=JAU s.length s;unfold name;omega
theorem kM:∀{a b:List Int},By a->By b->YK a=YK b->a=b
 |[],[],_,_,_=>rfl
 |[],_::_,_,_,h=>by simp[YK]at h
 |_::_,[],_,_,h=>by simp[YK]at h
 |x::a,y::b,ha,hb,h=>by
  simp only[YK,A2,Cb]at h;have hx:=ha x (by simp)
  have hy:=hb y (by simp)
  have h1:x=y:=by have:=congrArg UInt8.toNat h.1;simp only[UInt8.toNat_ofNat']at this;omega
  rw[h1,kM (λc hc=>ha c (by simp[hc])) (λc hc=>hb c (by simp[hc])) h.2]
theorem JR2(x:Int)(h0:0<=x)(h1:128<=x)(h2:x<=1114111):∃b r,enc x=b::r/\128<=b/\b<=255:=by
 unfold enc;rw[if_neg om]
 split
 ·exact⟨_,_,rfl,om,om⟩
 ·split
  ·exact⟨_,_,rfl,om,om⟩
  ·exact⟨_,_,rfl,om,om⟩
theorem JPj:∀(n ks:List Int),(∀k∈ks,97<=k/\k<128)->(((Yr n).map JLj=ks)↔(n.map JLj=ks))
 |[],ks,_=>Iff.rfl
 |c::t,ks,hk=>by
  have e:Yr (c::t)=enc (K7 c)++Yr t:=rfl;have hs:=yg c;by_cases hc:0<=c/\c<128
  ·have e1:enc (K7 c)=[c]:=by
    rw[JMR hc];unfold enc;rw[if_pos hc.2]
   rw[e,e1]
   cases ks with
   |nil=>simp
   |cons k ks=>simp only[AA,Au,A2,Cb];rw[JPj t ks λx hx=>hk x (by simp[hx])]
  ·have hsc:128<=K7 c:=by
    rcases Int.lt_or_le (K7 c) 128 with h|h
    ·have:=zS rfl h
     omega
    ·exact h
   obtain⟨b,r,e1,b1,b2⟩:=JR2 (K7 c) hs.1 hsc hs.2;rw[e,e1]
   cases ks with
   |nil=>simp
   |cons k ks=>
    have hk0:=hk k (by simp)
    simp only[AA,A2,Cb]
    constructor
    ·rintro⟨h,_⟩
     exfalso;unfold JLj at h
     split at h
     ·rename_i h2;simp at h2;omega
     ·omega
    ·rintro⟨h,_⟩
     exfalso;unfold JLj at h
     split at h
     ·rename_i h2;simp at h2;omega
     ·omega
theorem Jep{l:List Int}(h:By l):By (l.map JLj):=by
 intro c hc;obtain⟨x,hx,rfl⟩:=List.mem_map.1 hc;have:=h x hx;unfold JLj
 split
 ·rename_i h2;simp at h2;omega
 ·exact this
theorem JVl(n:List Int):JNs (Yr n) [117,114,108]=JHg n:=by
 unfold JNs JHg;have h1:([117,114,108]:List Int).map low=[117,114,108]:=by decide
 have h2:(Yr n).map low=(Yr n).map JLj:=rfl;rw[h1,h2,Bool.eq_iff_iff,beq_iff_eq,beq_iff_eq,<-JPj n [117,114,108] (by decide)]
 constructor
 ·exact kM (Jep (JJi n)) (by decide)
 ·intro h;rw[h]
section
variable{lo i j:Nat}{l:List Int}{p q:List Ob}
noncomputable abbrev Y8(lo:Nat)(p q:List Ob):Cx:=⟨Aa,E,lo,p.length+(q.length+1),h83⟩
abbrev yG(p q:List Ob)(l:List Int)(j:Nat)(n:List Int)(ex:Jl):Jl×JG:=
 ((0,.ptr p.length 0)::(2,.ptr (p.length+(q.length+1)) 0)::(3,.v (.string (str n)))::ex,p++R l j::(q++[.cells (tokC 0 [])]))
abbrev JAu(p q:List Ob)(l:List Int)(j:Nat)(t:Tk):Option (Ex×Jl×JG):=some (.ret,[(2,.ptr (p.length+(q.length+1)) 0)],p++R l j::(q++[.cells (tkC t)]))
theorem Js0(hl:l.length<=100000000000)(hi:i<=l.length):∃j,j<=l.length/\i<=j/\suf l j=(name (suf l i)).2/\
  ∀lo p q,lo<=p.length->lo<=p.length+(q.length+1)->WD (Y8 lo p q) JA (pc b83 0 4) (QH [.ptr p.length 0],p++R l i::q)=
   if chr (suf l j) 0=40 then some (.normal,yG p q l j (name (suf l i)).1 [(9,.v (.bool false))])else JAu p q l j (tk 1 (name (suf l i)).1):=by
 obtain⟨j,a1,a2,a3,a4⟩:=f80 (l:=l) (i:=i) hl hi;have k0:=λlo p q=>f47 (lo:=lo) (l:=l) (i:=j) (p:=p) (q:=q) (k:=0) om
 simp only[n0]at k0;refine⟨j,a1,a2,a3,λlo p q hlo hlo2=>?_⟩
 by_cases hc:chr (suf l j) 0=40
 ·have t:(chr (suf l j) 0 !=40)=false:=by simp[hc]
  rw[if_pos hc];simp only[go_sem,Y8,yG,b83,Tryz.f83,a4 _ _ _ hlo,k0,t,tokC,str_nil]<;>rfl
 ·have t:(chr (suf l j) 0 !=40)=true:=by simp[hc]
  rw[if_neg hc];simp only[go_sem,Y8,yG,b83,Tryz.f83,a4 _ _ _ hlo,k0,t,hlo2,tokC,tkC,tk,str_nil]<;>rfl
theorem Jeq{n:List Int}(hn:n.length<=200000000000)(hj:j<=100000000000):∀lo p q,lo<=p.length->lo<=p.length+(q.length+1)->
  WD (Y8 lo p q) JA (pc b83 4 3) (yG p q l j n [(9,.v (.bool false))])=
   if JHg n=true then some (.normal,yG p q l (j+1) n [(21,.v (.bool false))])else JAu p q l (j+1) (tk 2 n):=by
 intro lo p q hlo hlo2;have hw1:=JM (i:=j) om
 have hel:(Yr n).length<=1000000000000:=by have:=JMU n;omega
 have k24:=λ(h:JG) (hh:lo<=h.length)=>f95 (lo:=lo) (h:=h) (a:=Yr n) (b:=[117,114,108]) hh hel (JJi n) (by decide) (by decide)
 have es:(⟨(YK (Yr n)).toArray⟩:ByteArray)=str n:=rfl;have eu:(⟨(YK [117,114,108]).toArray⟩:ByteArray)=⟨#[117,114,108]⟩:=rfl;simp only[es,eu,JVl]at k24;have k:=k24 (p++R l (j+1)::(q++[.cells (tokC 0 [])])) (by simp;omega)
 simp only[tokC,str_nil]at k
 cases hu:JHg n with
 |true=>
  rw[hu]at k;rw[if_pos rfl]
  simp only[go_sem,Y8,yG,b83,Tryz.f83,hw1,hlo,k,tokC,str_nil]<;>rfl
 |false=>
  rw[hu]at k;rw[if_neg (by simp)]
  simp only[go_sem,Y8,yG,b83,Tryz.f83,hw1,hlo,hlo2,k,tokC,tkC,tk,str_nil]<;>rfl
theorem Jer{n:List Int}(hl:l.length<=100000000000):∀(m i:Nat) (x:V),(suf l i).length<=m->i<=l.length->
  ∃j,j<=l.length/\i<=j/\suf l j=qv m (suf l i)/\
   ∀lo (p q:List Ob),lo<=p.length->JA (evCode (Y8 lo p q) JA JCi) (yG p q l i n [(21,x)])=some (.exit 0,yG p q l j n [(31,.v (.bool false))]):=by
 have stop:∀(i:Nat) (x:V),i<=l.length->(blk (chr (suf l i) 0)&&blk (chr (suf l i) 1))=false->
   ∀lo (p q:List Ob),lo<=p.length->JA (evCode (Y8 lo p q) JA JCi) (yG p q l i n [(21,x)])=some (.exit 0,yG p q l i n [(31,.v (.bool false))]):=by
  intro i x hi hb lo p q hlo;have k0:=λlo p q=>f47 (lo:=lo) (l:=l) (i:=i) (p:=p) (q:=q) (k:=0) om
  have k1:=λlo p q=>f47 (lo:=lo) (l:=l) (i:=i) (p:=p) (q:=q) (k:=1) om
  have n1:((1:Nat):Int)=1:=rfl;simp only[n0,n1]at k0 k1;rw[JB]
  cases h0:blk (chr (suf l i) 0)with
  |true=>
   have h1:blk (chr (suf l i) 1)=false:=by simpa[h0]using hb
   simp only[go_sem,Y8,yG,JCi,b83,Tryz.f83,k0,k1,f74,h0,h1,tokC,str_nil]<;>rfl
  |false=>simp only[go_sem,Y8,yG,JCi,b83,Tryz.f83,k0,k1,f74,h0,tokC,str_nil]<;>rfl
 intro m
 induction m with
 |zero=>
  intro i x h1 h2;have hs:suf l i=[]:=List.eq_nil_of_length_eq_zero om
  exact⟨i,h2,Ad _,rfl,stop i x h2 (by rw[hs]<;>rfl)⟩
 |succ m ih=>
  intro i x h1 h2;by_cases hb:(blk (chr (suf l i) 0)&&blk (chr (suf l i) 1))=true
  ·have hi:i<l.length:=by
    rcases Ay i l.length with h|h
    ·exact h
    ·rw[J9 h]at hb;exact absurd hb (by decide)
   have k0:=λlo p q=>f47 (lo:=lo) (l:=l) (i:=i) (p:=p) (q:=q) (k:=0) om
   have k1:=λlo p q=>f47 (lo:=lo) (l:=l) (i:=i) (p:=p) (q:=q) (k:=1) om
   have hw1:=JM (i:=i) om;have n1:((1:Nat):Int)=1:=rfl;simp only[n0,n1]at k0 k1;obtain⟨j,j1,j2,j3,j4⟩:=ih (i+1) .undef (by rw[QD]at h1⊢;omega) om
   have e1:suf l (i+1)=(suf l i).drop 1:=by simp[suf,AY]
   refine⟨j,j1,om,by rw[j3,e1];simp only[qv];rw[if_pos hb],λlo p q hlo=>?_⟩
   rw[Af]at hb
   have e:evCode (Y8 lo p q) JA JCi (yG p q l i n [(21,x)])=some (.normal,yG p q l (i+1) n [(21,.undef)]):=by simp only[go_sem,Y8,yG,JCi,b83,Tryz.f83,k0,k1,f74,hb.1,hb.2,hw1,hlo,tokC,str_nil]<;>rfl
   rw[JB,e,JO];exact j4 lo p q hlo
  ·refine⟨i,h2,Ad _,by simp only[qv];rw[if_neg hb],stop i x h2 (by simpa using hb)⟩
theorem Js1{n:List Int}(hl:l.length<=100000000000)(hi:i<=l.length):∃j,j<=l.length/\i<=j/\suf l j=WH (suf l i)/\
  ∀lo p q,lo<=p.length->WD (Y8 lo p q) JA (pc b83 7 1) (yG p q l i n [(21,.v (.bool false))])=some (.normal,yG p q l j n [(31,.v (.bool false))]):=by
 obtain⟨j,j1,j2,j3,j4⟩:=Jer (n:=n) hl (suf l i).length i (.v (.bool false)) (Ad _) hi;refine⟨j,j1,j2,j3,λlo p q hlo=>?_⟩
 have hL:=j4 lo p q hlo;simp only[Y8,yG,JCi,b83,Tryz.f83,JK,loops,JC,go_sem,tokC,str_nil]at hL;simp only[go_sem,Y8,yG,b83,Tryz.f83,hL,tokC,str_nil]
theorem JlR{n:List Int}(hj:j<=100000000000):∀lo p q,lo<=p.length->lo<=p.length+(q.length+1)->
  WD (Y8 lo p q) JA (pc b83 8 5) (yG p q l j n [(31,.v (.bool false))])=
   if quo (if blk (chr (suf l j) 0)=true then chr (suf l j) 1 else chr (suf l j) 0)=true then JAu p q l j (tk 2 n)else some (.normal,yG p q l j n [(50,.v (.bool false))]):=by
 intro lo p q hlo hlo2;have k0:=λlo p q=>f47 (lo:=lo) (l:=l) (i:=j) (p:=p) (q:=q) (k:=0) om
 have k1:=λlo p q=>f47 (lo:=lo) (l:=l) (i:=j) (p:=p) (q:=q) (k:=1) om
 have n1:((1:Nat):Int)=1:=rfl;simp only[n0,n1]at k0 k1
 cases hb:blk (chr (suf l j) 0)with
 |true=>
  simp only[if_true];generalize chr (suf l j) 1=c at*
  cases h34:(c==34)with
  |true=>
   rw[if_pos (by simp[quo,h34])]
   simp only[go_sem,Y8,yG,b83,Tryz.f83,k0,k1,f74,hb,h34,hlo2,tokC,tkC,tk,str_nil]<;>rfl
  |false=>
   cases h39:(c==39)with
   |true=>
    rw[if_pos (by simp[quo,h39])]
    simp only[go_sem,Y8,yG,b83,Tryz.f83,k0,k1,f74,hb,h34,h39,hlo2,tokC,tkC,tk,str_nil]<;>rfl
   |false=>
    rw[if_neg (by simp[quo,h34,h39])]
    simp only[go_sem,Y8,yG,b83,Tryz.f83,k0,k1,f74,hb,h34,h39,tokC,str_nil]<;>rfl
 |false=>
  simp only[Al,if_false];generalize chr (suf l j) 0=c at*
  cases h34:(c==34)with
  |true=>
   rw[if_pos (by simp[quo,h34])]
   simp only[go_sem,Y8,yG,b83,Tryz.f83,k0,k1,f74,hb,h34,hlo2,tokC,tkC,tk,str_nil]<;>rfl
  |false=>
   cases h39:(c==39)with
   |true=>
    rw[if_pos (by simp[quo,h39])]
    simp only[go_sem,Y8,yG,b83,Tryz.f83,k0,k1,f74,hb,h34,h39,hlo2,tokC,tkC,tk,str_nil]<;>rfl
   |false=>
    rw[if_neg (by simp[quo,h34,h39])]
    simp only[go_sem,Y8,yG,b83,Tryz.f83,k0,k1,f74,hb,h34,h39,tokC,str_nil]<;>rfl
theorem JYZ(x:Bool×List Int×List Int):GJ [] x=tkC (JCy x):=by unfold GJ JCy;cases x.1<;>rfl
theorem Js2{n:List Int}(hl:l.length<=100000000000)(hi:i<=l.length):∃j,j<=l.length+2/\i<=j/\suf l j=(url (suf l i)).2.2/\
  ∀lo p q,lo<=p.length->lo<=p.length+(q.length+1)->WD (Y8 lo p q) JA (pc b83 13 2) (yG p q l i n [(50,.v (.bool false))])=JAu p q l j (JCy (url (suf l i))):=by
 obtain⟨j,a1,a2,a3,a4⟩:=f111 (l:=l) (i:=i) hl hi;refine⟨j,a1,a2,a3,λlo p q hlo hlo2=>?_⟩
 have k:=a4 lo p (q++[.cells (tokC 0 [])]) hlo;rw[JYZ]at k;simp only[tokC,tkC,str_nil]at k;simp only[go_sem,Y8,yG,b83,Tryz.f83,k,hlo2,tokC,tkC,str_nil]<;>rfl
theorem JDX{t:Tk}{o:Ob}:fin Aa [.cell 2 53] (p.length+(q.length+1)) (some (.ret,[(2,.ptr (p.length+(q.length+1)) 0)],p++o::(q++[.cells (tkC t)])))=some (.agg (tkC t),p++o::q):=JZe (h:=[]) (r2:=[])
theorem f83(hl:l.length<=100000000000)(hi:i<=l.length):∃j,j<=l.length+2/\i<=j/\suf l j=(word (suf l i)).2/\
  ∀lo p q,lo<=p.length->E lo 83 [.ptr p.length 0] (p++R l i::q)=some (.agg (tkC (word (suf l i)).1),p++R l j::q):=by
 obtain⟨j1,a1,a2,a3,a4⟩:=Js0 (l:=l) (i:=i) hl hi;have hnl:=JVk (suf l i);rw[QD]at hnl;have hH:∀p q:List Ob,(p++R l i::q).length=p.length+(q.length+1):=λp q=>by simp
 unfold word;simp only;rw[<-a3];by_cases h40:chr (suf l j1) 0=40
 ·have hne:j1<l.length:=by
   rcases Ay j1 l.length with h|h
   ·exact h
   ·rw[J9 h]at h40;cases h40
  have e1:suf l (j1+1)=(suf l j1).drop 1:=by simp[suf,AY]
  rw[if_pos h40]
  cases hu:JHg (name (suf l i)).1 with
  |true=>
   obtain⟨j2,b1,b2,b3,b4⟩:=Js1 (n:=(name (suf l i)).1) (l:=l) (i:=j1+1) hl om;rw[if_pos rfl,<-e1,<-b3];by_cases hq:quo (if blk (chr (suf l j2) 0)=true then chr (suf l j2) 1 else chr (suf l j2) 0)=true
   ·rw[if_pos hq]
    refine⟨j2,om,om,rfl,λlo p q hlo=>?_⟩
    rw[e83,hH,pc_in,pc_go _ _ _ _ 0 4,a4 lo p q hlo om,if_pos h40,pc_go _ _ _ _ _ 3,Jeq om om lo p q hlo om,hu,if_pos rfl,
     pc_go _ _ _ _ _ 1,b4 lo p q hlo,pc_go _ _ _ _ _ 5,JlR om lo p q hlo om,if_pos hq,JAu,Qr]
    exact JDX
   ·obtain⟨j3,c1,c2,c3,c4⟩:=Js2 (n:=(name (suf l i)).1) (l:=l) (i:=j2) hl b1
    rw[if_neg hq];refine⟨j3,c1,om,c3,λlo p q hlo=>?_⟩
    rw[e83,hH,pc_in,pc_go _ _ _ _ 0 4,a4 lo p q hlo om,if_pos h40,pc_go _ _ _ _ _ 3,Jeq om om lo p q hlo om,hu,if_pos rfl,
     pc_go _ _ _ _ _ 1,b4 lo p q hlo,pc_go _ _ _ _ _ 5,JlR om lo p q hlo om,if_neg hq,pc_go _ _ _ _ _ 2,c4 lo p q hlo om,JAu,Qr]
    exact JDX
  |false=>
   rw[if_neg (by simp)]
   refine⟨j1+1,om,om,e1,λlo p q hlo=>?_⟩
   rw[e83,hH,pc_in,pc_go _ _ _ _ 0 4,a4 lo p q hlo om,if_pos h40,pc_go _ _ _ _ _ 3,Jeq om om lo p q hlo om,hu,if_neg (by simp),JAu,Qr]
   exact JDX
 ·rw[if_neg h40]
  refine⟨j1,om,om,rfl,λlo p q hlo=>?_⟩
  rw[e83,hH,pc_in,pc_go _ _ _ _ 0 4,a4 lo p q hlo om,if_neg h40,JAu,Qr];exact JDX
end
def hdC:Code->Code
 | .seq a _=>a
 |_=> .skip
def cdC:Code->Operand
 | .seq _ (.cond x _ _)=>x
 |_=> .const (.bool false)
def thC:Code->Code
 | .seq _ (.cond _ a _)=>a
 |_=> .skip
def elC:Code->Code
 | .seq _ (.cond _ _ b)=>b
 |_=> .skip
def inC:Code->Code
 | .block _ a=>a
 |_=> .skip
def nthC(b:Code)(n:Nat):Code:=((flat b)[n]?).getD .skip
theorem JMW(a b:Code):hdC (.seq a b)=a:=rfl
theorem th_s(r:Code)(x:Operand)(a b:Code):thC (.seq r (.cond x a b))=a:=rfl
theorem el_s(r:Code)(x:Operand)(a b:Code):elC (.seq r (.cond x a b))=b:=rfl
theorem in_s(id:Nat)(a:Code):inC (.block id a)=a:=rfl
theorem JYa{c:Cx}{lp:YZ}{N:Code}{s s':St}{b:Bool}(hN:N= .seq (hdC N) (.cond (cdC N) (thC N) (elC N)))(hR:evCode c lp (hdC N) s=some (.normal,s'))(hx:opd s'.1 (cdC N)= .v (.bool b)):
  evCode c lp N s=if b=true then evCode c lp (thC N) s' else evCode c lp (elC N) s':=by
 have e1:evCode c lp N s=evCode c lp (.seq (hdC N) (.cond (cdC N) (thC N) (elC N))) s:=congrArg (λx=>evCode c lp x s) hN
 rw[e1,c_seq,hR,JNL,JS6,hx,JS9]
section
variable{lo i j:Nat}{l:List Int}{p q:List Ob}
abbrev H27(p q:List Ob)(l:List Int)(i:Nat):JG:=p++R l i::(q++[.cells (tokC 0 [])])
abbrev ret27(p q:List Ob)(l:List Int)(j:Nat)(t:Tk):Option (Ex×Jl×JG):=some (.ret,[(2,.ptr (p.length+(q.length+1)) 0)],p++R l j::(q++[.cells (tkC t)]))
theorem JYb(x:Bool×List Int×List Int):(if x.1=true then tokC 5 x.2.1 else tokC 6 [])=tkC (JLk x):=by unfold JLk;cases x.1<;>rfl
end
end Go.Lift.Y1.P.T
end
