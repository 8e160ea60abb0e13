/- The lifting: values, states, evaluation, and that it is sound. -/
import Derived.ProofKit
import Derived.JoinedCond
import Derived.Test.YtolidijpmnompaaGreatDoorGLb
open Array renaming getD->Li,getD_eq_getD_getElem? ->B5,getElem?_append_left->BT,getElem?_eq_getElem->BE,getElem?_eq_some_iff->AL,getElem?_push->BI,getElem?_setIfInBounds_ne->Cs,getElem?_toList->Bk,length_toList->AJ,mem_of_getElem? ->C8,mem_toList_iff->CT,replicate->Cv,size_append->CR,toArray_toList->BV,toList_inj->C0,toList_map->BF
open Bool renaming and_eq_true->Af,false_eq_true->Al,not_eq_true'->BX,or_eq_true->AU
open Classical renaming choose->CI,choose_spec->BB
open Go.Region renaming Mode->Dv,wanted->Bv
open Go.Result renaming andThen_ok->Bc
open Go.Sem renaming run_bind->Bm
open Go.Value renaming okWide->D0
open Go.World renaming cells?_some->C6,frozen? ->BN
open List renaming all_cons->Bi,all_eq_true->Ak,append_assoc->Ax,append_nil->AE,cons_append->AA,drop_drop->AY,drop_eq_nil_of_le->AZ,drop_left->CF,exists_mem_of_ne_nil->Ca,ext_getElem? ->C5,getD_eq_getElem?_getD->CP,getElem?_append_left->Bd,getElem?_append_right->Bb,getElem?_cons_succ->Cf,getElem?_cons_zero->BC,getElem?_drop->Bg,getElem?_eq_getElem->Ac,getElem?_eq_none->B2,getElem?_eq_some_iff->Ab,getElem?_map->An,getElem?_set->Br,getElem?_take->AH,getElem?_toArray->B0,getElem_mem->AW,getElem_of_mem->AV,length->Bq,length_append->Ao,length_drop->AB,length_map->Aq,length_take->Az,mapM_cons->Lb,map_congr_left->A4,map_cons->A2,map_id->GF,mem_append->AO,mem_cons->AP,mem_cons_of_mem->AX,mem_cons_self->Bj,mem_map->AM,mem_of_getElem? ->Aj,mem_of_mem_drop->BL,mem_singleton->A1,nil_append->Au,range->Bf,size_toArray->BZ,take_append_drop->Co,take_take->Du
open Nat renaming add_mul->A6,add_zero->Bo,le_add_right->Ck,le_max_left->LZ,le_max_right->LR,le_of_lt->DF,le_refl->Ad,lt_irrefl->C1,min_eq_left->B3,mul_le_mul_right->AF,one_mul->Dj,sub_self->Db,zero_add->AC,zero_le->B9,zero_mul->DX
open Option renaming getD_some->DZ,isNone_iff_eq_none->Dq,isSome_iff_exists->A7,map_eq_some_iff->Ag,map_some->AK
open Option.some renaming inj->Bh,injEq->Ah
open Prod.mk renaming injEq->AG
set_option linter.unusedVariables false
set_option linter.unusedSimpArgs false
set_option linter.unusedSectionVars false
section
namespace Go.Lift
variable[GTab][BTy]
section
variable{vars:List Nat}{m:List Nat}{c:Cl}{w:World}{g:Jl}{h:JG}{a:Act}{E:Entry}
theorem InvP.weak(hI:InvP vars E m c w g h a){g':Jl}(hw:∀t,WeakV (look g t) (look g' t))(hS:∀t u r,look g' t≠ .list (.slot u) r)(hT:∀t i j r,look g' t≠ .list (.cell i j) r):InvP vars E m c w g' h a:=by
 have hC:=hI.core
 have hAt:∀{k r x},At m w g' h a k r x->At m w g h a k r x:=λ{k r x} hl=>by
  cases k with
  |slot t=>
   refine⟨?_,hl.2⟩
   rcases hw t with e|e|⟨e,_⟩
   ·exact e.symm.trans hl.1
   ·have:=hl.1;rw[e]at this;cases this
   ·have:=hl.1;rw[e]at this;cases this
  |cell i j=>exact hl
 refine⟨⟨hC.wf1,hC.wf2,hC.nd,hC.len,λt=>?_,hC.ob,λk r x hl=>hC.own k r x (hAt hl),λk k' r r' x x' b h1 h2=>hC.uniq k k' r r' x x' b (hAt h1) (hAt h2),λt u r ht=>absurd ht (hS t u r),λt i j r ht=>absurd ht (hT t i j r),hC.gt⟩,
  hI.fr,λk r x b hl hu hb=>hI.owned k r x b (hAt hl) hu hb,hI.hlo,hI.hlen,hI.ml,hI.lole,hI.nt,hI.df,hI.old,hI.ent⟩
 have h0:=hC.env t;rcases hw t with e|e|⟨e,b,e2⟩
 ·rw[e];exact h0
 ·rw[e];trivial
 ·rw[e]
  rw[e2]at h0;exact⟨b,h0⟩
theorem JKw(j i:Nat):sw j (sw j i)=i:=by
 unfold sw
 split
 ·rename_i h1
  rw[if_neg om,if_pos rfl];exact h1.symm
 ·split
  ·rename_i h1 h2
   rw[if_pos rfl];exact h2.symm
  ·rfl
theorem Jfn{j i n:Nat}(hj:j+1<n)(hi:i<n):sw j i<n:=by
 unfold sw
 split
 ·omega
 ·split<;>omega
theorem swL_len{α:Type}(j:Nat)(l:List α):(zb j l).length=l.length:=by
 unfold zb
 split<;>simp
theorem swL_get{α:Type}{j:Nat}{l:List α}(hj:j+1<l.length)(i:Nat):(zb j l)[i]? =l[sw j i]? :=by
 have e1:l[j]? =some l[j]:=Ac om
 have e2:l[j+1]? =some l[j+1]:=Ac hj
 unfold zb sw;rw[e1,e2];simp only;rw[Br,Br]
 by_cases h1:i=j
 ·subst h1
  rw[if_neg om,if_pos rfl,if_pos rfl,if_pos om,e2]
 ·by_cases h2:i=j+1
  ·subst h2
   rw[if_pos rfl,if_neg h1,if_pos rfl,if_pos (by simpa using hj),e1]
  ·rw[if_neg om,if_neg om,if_neg h1,if_neg h2]
theorem JOc{α:Type}{j:Nat}{l:List α}(hj:j+1<l.length){x:α}(hx:x∈zb j l):x∈l:=by
 obtain⟨i,hi⟩:=List.getElem?_of_mem hx
 rw[swL_get hj]at hi;exact Aj hi
theorem JP7{j:Nat}{l:List Nat}(hj:j+1<l.length)(hl:l.Nodup):(zb j l).Nodup:=by
 show List.Pairwise _ _
 rw[List.pairwise_iff_getElem];intro i k hi hk hik e;rw[swL_len]at hi hk;have h1:=swL_get hj i;have h2:=swL_get hj k;rw[Ac (by rw[swL_len];exact hi)]at h1
 rw[Ac (by rw[swL_len];exact hk)]at h2
 have h3:l[sw j i]? =l[sw j k]? :=by rw[<-h1,<-h2,e]
 have h4:=(List.getElem?_inj (Jfn hj hi) hl).1 h3
 have h5:=congrArg (sw j) h4;rw[JKw,JKw]at h5;omega
theorem G0(j:Nat):∀(g:Jl) (t:Nat),look (swE j g) t=swr j (look g t)
 |[],_=>rfl
 |(k,v)::g,t=>by
  simp only[swE,A2,look]
  split
  ·rfl
  ·exact G0 j g t
section
variable{m':List Nat}{j:Nat}
theorem VR0.sw(hm:∀(i:Nat) b,m[i]? =some b->m'[Lift.sw j i]? =some b){v:V}{x:Value}(h:VR0 m c w v x):VR0 m' c w (swc j v) x:=by
 cases v with
 |ptr b o=>obtain⟨g,hg,rfl⟩:=h;exact⟨g,hm _ _ hg,rfl⟩
 |mp b=>obtain⟨g,hg,rfl⟩:=h;exact⟨g,hm _ _ hg,rfl⟩
 |buf b o n=>obtain⟨g,cap,hg,rfl,hc⟩:=h;exact⟨g,cap,hm _ _ hg,rfl,hc⟩
 |stk b n z=>obtain⟨g,cap,hg,rfl,hc⟩:=h;exact⟨g,cap,hm _ _ hg,rfl,hc⟩
 |_=>exact h
theorem JWG(cs:List V):Wi (cs.map (swc j))=(Wi cs).map (swc j):=by
 cases cs with
 |nil=>rfl
 |cons v r=>cases v<;>rfl
theorem JWH(cs:List V):Wj (cs.map (swc j))=(Wj cs).map (swc j):=by
 cases cs with
 |nil=>rfl
 |cons v r=>cases v<;>rfl
theorem VR1.sw(hm:∀(i:Nat) b,m[i]? =some b->m'[Lift.sw j i]? =some b){v:V}{x:Value}(h:VR1 m c w v x):VR1 m' c w (swf j v) x:=by
 cases v with
 |fn f cs=>
  obtain⟨fs,xs,rfl,h1,h2⟩:=h;refine⟨fs,xs,rfl,?_,?_⟩
  ·rw[JWG];simpa using h1.map (g:=id) λ_ _=>VR0.sw hm
  ·rw[JWH];simpa using h2.map (g:=id) λ_ _=>VR0.sw hm
 |v y=>exact VR0.sw (m:=m) (c:=c) (w:=w) (v:= .v y) (x:=x) hm h
 |nil=>exact VR0.sw (m:=m) (c:=c) (w:=w) (v:= .nil) (x:=x) hm h
 |list k r=>exact VR0.sw (m:=m) (c:=c) (w:=w) (v:= .list k r) (x:=x) hm h
 |ptr b o=>exact VR0.sw (m:=m) (c:=c) (w:=w) (v:= .ptr b o) (x:=x) hm h
 |mp b=>exact VR0.sw (m:=m) (c:=c) (w:=w) (v:= .mp b) (x:=x) hm h
 |rp cs=>exact VR0.sw (m:=m) (c:=c) (w:=w) (v:= .rp cs) (x:=x) hm h
 |buf b o n=>exact VR0.sw (m:=m) (c:=c) (w:=w) (v:= .buf b o n) (x:=x) hm h
 |stk b n z=>exact VR0.sw (m:=m) (c:=c) (w:=w) (v:= .stk b n z) (x:=x) hm h
 |agg cs=>exact h.elim
 |tup cs=>exact h.elim
 |undef=>exact VR0.sw (m:=m) (c:=c) (w:=w) (v:= .undef) (x:=x) hm h
 |any=>exact VR0.sw (m:=m) (c:=c) (w:=w) (v:= .any) (x:=x) hm h
theorem VR.sw(hm:∀(i:Nat) b,m[i]? =some b->m'[Lift.sw j i]? =some b){v:V}{x:Value}(h:VR m c w v x):VR m' c w (swv j v) x:=by
 cases v with
 |agg cs=>
  obtain⟨xs,rfl,h1⟩:=h
  exact⟨xs,rfl,by simpa using h1.map (g:=id) λ_ _=>VR1.sw hm⟩
 |v y=>exact VR1.sw (m:=m) (c:=c) (w:=w) (v:= .v y) (x:=x) hm h
 |nil=>exact VR1.sw (m:=m) (c:=c) (w:=w) (v:= .nil) (x:=x) hm h
 |list k r=>exact VR1.sw (m:=m) (c:=c) (w:=w) (v:= .list k r) (x:=x) hm h
 |ptr b o=>exact VR1.sw (m:=m) (c:=c) (w:=w) (v:= .ptr b o) (x:=x) hm h
 |mp b=>exact VR1.sw (m:=m) (c:=c) (w:=w) (v:= .mp b) (x:=x) hm h
 |rp cs=>exact VR1.sw (m:=m) (c:=c) (w:=w) (v:= .rp cs) (x:=x) hm h
 |buf b o n=>exact VR1.sw (m:=m) (c:=c) (w:=w) (v:= .buf b o n) (x:=x) hm h
 |stk b n z=>exact VR1.sw (m:=m) (c:=c) (w:=w) (v:= .stk b n z) (x:=x) hm h
 |fn f cs=>exact VR1.sw (m:=m) (c:=c) (w:=w) (v:= .fn f cs) (x:=x) hm h
 |tup cs=>exact h.elim
 |undef=>exact VR1.sw (m:=m) (c:=c) (w:=w) (v:= .undef) (x:=x) hm h
 |any=>exact VR1.sw (m:=m) (c:=c) (w:=w) (v:= .any) (x:=x) hm h
theorem VRr.sw(hm:∀(i:Nat) b,m[i]? =some b->m'[Lift.sw j i]? =some b){v:V}{x:Value}(h:VRr m c w v x):VRr m' c w (swr j v) x:=by
 cases v with
 |tup cs=>
  obtain⟨xs,rfl,h1⟩:=h
  exact⟨xs,rfl,by simpa using h1.map (g:=id) λ_ _=>VR.sw hm⟩
 |v y=>exact VR.sw (m:=m) (c:=c) (w:=w) (v:= .v y) (x:=x) hm h
 |nil=>exact VR.sw (m:=m) (c:=c) (w:=w) (v:= .nil) (x:=x) hm h
 |list k r=>exact VR.sw (m:=m) (c:=c) (w:=w) (v:= .list k r) (x:=x) hm h
 |ptr b o=>exact VR.sw (m:=m) (c:=c) (w:=w) (v:= .ptr b o) (x:=x) hm h
 |mp b=>exact VR.sw (m:=m) (c:=c) (w:=w) (v:= .mp b) (x:=x) hm h
 |rp cs=>exact VR.sw (m:=m) (c:=c) (w:=w) (v:= .rp cs) (x:=x) hm h
 |buf b o n=>exact VR.sw (m:=m) (c:=c) (w:=w) (v:= .buf b o n) (x:=x) hm h
 |stk b n z=>exact VR.sw (m:=m) (c:=c) (w:=w) (v:= .stk b n z) (x:=x) hm h
 |fn f cs=>exact VR.sw (m:=m) (c:=c) (w:=w) (v:= .fn f cs) (x:=x) hm h
 |agg cs=>exact VR.sw (m:=m) (c:=c) (w:=w) (v:= .agg cs) (x:=x) hm h
 |undef=>exact VR.sw (m:=m) (c:=c) (w:=w) (v:= .undef) (x:=x) hm h
 |any=>exact VR.sw (m:=m) (c:=c) (w:=w) (v:= .any) (x:=x) hm h
theorem JSj{v:V}{k:Own}{r:List (List V)}:swf j v= .list k r↔v= .list k r:=by cases v<;>simp[swf,swc]
theorem JBz{v:V}{k:Own}{r:List (List V)}:swr j v= .list k r↔v= .list k r:=by cases v<;>simp[swr,swv,swf,swc]
theorem JB0{B:Nat}(hB:B<=j){v:V}(h:okc B v=true):swc j v=v:=by
 have e:∀{b:Nat},b<B->Lift.sw j b=b:=λ{b} hb=>by unfold Lift.sw;rw[if_neg om,if_neg om]
 cases v with
 |ptr b o=>simp only[okc,decide_eq_true_eq]at h;simp only[swc,e h]
 |mp b=>simp only[okc,decide_eq_true_eq]at h;simp only[swc,e h]
 |buf b o n=>simp only[okc,decide_eq_true_eq]at h;simp only[swc,e h]
 |stk b n z=>simp only[okc,decide_eq_true_eq]at h;simp only[swc,e h]
 |_=>rfl
theorem JSk{B:Nat}(hB:B<=j){v:V}(h:okv B v=true):swf j v=v:=by
 cases v with
 |fn f cs=>
  simp only[okv,Ak]at h;simp only[swf]
  congr 1
  conv=>rhs;rw[<-GF cs]
  exact A4 λu hu=>by rw[JB0 hB (h u hu)]<;>rfl
 |agg cs=>rfl
 |undef=>rfl
 |v x=>rfl
 |nil=>rfl
 |list k r=>rfl
 |rp cs=>rfl
 |tup vs=>rfl
 |any=>rfl
 |ptr b o=>exact JB0 (v:= .ptr b o) hB h
 |mp b=>exact JB0 (v:= .mp b) hB h
 |buf b o n=>exact JB0 (v:= .buf b o n) hB h
 |stk b n z=>exact JB0 (v:= .stk b n z) hB h
end
theorem JJb{j i:Nat}{h:JG}(hj:j+1<h.length){cs:List V}(hc:cellsOfOb (zb j (h.map (swO j))) i=some cs):∃cs0,cellsOfOb h (sw j i)=some cs0/\cs=cs0.map (swf j):=by
 unfold cellsOfOb at hc;rw[swL_get (by simpa using hj),An]at hc
 cases hq:h[sw j i]? with
 |none=>rw[hq]at hc;cases hc
 |some o=>
  rw[hq]at hc
  cases o with
  |cells cs0=>
   simp only[AK,swO,Ah]at hc
   exact⟨cs0,by unfold cellsOfOb;rw[hq],hc.symm⟩
  |iter s p=>cases hc
  |tab es=>cases hc
theorem InvP.swap(hI:InvP vars E m c w g h a){j:Nat}(hj:E.base<=j)(hl:j+1<h.length)(hT:∀t i k r,look g t≠ .list (.cell i k) r):
  InvP vars E (zb j m) c w (swE j g) (zb j (h.map (swO j))) a:=by
 have hC:=hI.core;have hlm:j+1<m.length:=by rw[hC.len];exact hl
 have hm:∀(i:Nat) b,m[i]? =some b->(zb j m)[sw j i]? =some b:=λi b hi=>by rw[swL_get hlm,JKw];exact hi
 have hold:∀{i},i<E.base->sw j i=i:=λ{i} hi=>by unfold sw;rw[if_neg om,if_neg om]
 have hlow:∀{i cs},i<E.base->cellsOfOb h i=some cs->cs.map (swf j)=cs:=λ{i cs} hi hcs=>by
  conv=>rhs;rw[<-GF cs]
  refine A4 λv hv=>?_
  exact JSk hj (hI.old E.base i cs hi hi hcs (λcs0 h0 u hu=>hI.ent i cs0 h0 u hu) v hv)
 have hob:∀{i},i<E.base->(zb j (h.map (swO j)))[i]? =h[i]? :=λ{i} hi=>by
  rw[swL_get (by simpa using hl),hold hi,An]
  cases hq:h[i]? with
  |none=>rfl
  |some o=>
   cases o with
   |cells cs=>
    have:=hlow hi (show cellsOfOb h i=some cs by unfold cellsOfOb;rw[hq])
    simp only[AK,swO,this]
   |iter s p=>rfl
   |tab es=>rfl
 have hAt:∀{l r x},At (zb j m) w (swE j g) (zb j (h.map (swO j))) a l r x->∃l',At m w g h a l' r x/\(l'=match l with| .slot t=> .slot t| .cell i k=> .cell (sw j i) k):=λ{l r x} hl'=>by
  cases l with
  |slot t=>
   obtain⟨h1,h2⟩:=hl';rw[G0]at h1
   exact⟨.slot t,⟨JBz.1 h1,h2⟩,rfl⟩
  |cell i k=>
   obtain⟨cs,b,h1,h2,h3,h4⟩:=hl';obtain⟨cs0,h5,rfl⟩:=JJb hl h1;rw[An,Ag]at h2
   obtain⟨v,hv,hv2⟩:=h2;rw[swL_get hlm]at h3;exact⟨.cell (sw j i) k,⟨cs0,b,h5,by rw[hv,JSj.1 hv2],h3,h4⟩,rfl⟩
 have hml:=hI.ml
 refine⟨⟨hC.wf1,λb hb=>hC.wf2 b (JOc hlm hb),JP7 hlm hC.nd,by rw[swL_len,swL_len,Aq];exact hC.len,λt=>?_,λi o b ho hb=>?_,λl r x hl'=>?_,λl l' r r' x x' b h1 h2 hb hb'=>?_,λt u r ht=>?_,λt i k r ht=>?_,hC.gt⟩,
  ⟨hI.fr.os,hI.fr.tape,hI.fr.output,hI.fr.size,λi b hi=>?_,λi b hi hb=>?_,hI.fr.ext,hI.fr.fix⟩,λl r x b hl' hu hb=>?_,?_,by rw[swL_len,Aq];exact hI.hlen,hI.ml,hI.lole,hI.nt,hI.df,λn i cs hib hin hcs h0=>?_,hI.ent⟩
 ·rw[G0];exact(hC.env t).sw hm
 ·rw[swL_get (by simpa using hl),An,Ag]at ho
  obtain⟨o0,ho0,rfl⟩:=ho;rw[swL_get hlm]at hb;have:=hC.ob (sw j i) o0 b ho0 hb
  cases o0 with
  |cells cs=>
   obtain⟨arr,e,f,k1,k2,k3,k4,k5⟩:=this;refine⟨arr,e,f,k1,by rw[Aq];exact k2,λk hk=>k3 k (by rw[Aq]at hk;exact hk),λk v x hv hx=>?_,λT hT' hb'=>?_⟩
   ·rw[An,Ag]at hv
    obtain⟨v0,hv0,rfl⟩:=hv;exact⟨(k4 k v0 x hv0 hx).1.sw hm,(k4 k v0 x hv0 hx).2⟩
   ·rw[Aq]at hT'⊢
    refine k5 T hT' ?_
    cases cs with
    |nil=>exact hb'
    |cons v r=>
     simp only[A2,Gu]at hb'⊢
     cases v<;>first|exact hb'|(simp[swf,swc,QU]at hb')
  |iter s p=>exact this
  |tab es=>exact this
 ·obtain⟨l',h1,_⟩:=hAt hl'
  rcases hC.own l' r x h1 with h2|⟨b,cap,cur,e,z,q1,q2,q3,q4,q5,q6,q7,q8,q9,q10⟩
  ·exact .inl h2
  ·exact .inr ⟨b,cap,cur,e,z,q1,q2,q3,q4,q5,q6,q7,q8,λhb=>q9 (JOc hlm hb),q10⟩
 ·obtain⟨k1,h3,e1⟩:=hAt h1
  obtain⟨k2,h4,e2⟩:=hAt h2;have e3:=hC.uniq k1 k2 r r' x x' b h3 h4 hb hb';rw[e1,e2]at e3
  cases l with
  |slot t=>
   cases l' with
   |slot t'=>exact e3
   |cell i k=>cases e3
  |cell i k=>
   cases l' with
   |slot t'=>cases e3
   |cell i' k'=>simp only[Loc.cell.injEq]at e3;have:=congrArg (sw j) e3.1;rw[JKw,JKw]at this;rw[this,e3.2]
 ·rw[G0]at ht
  have:=hC.tagS t u r (JBz.1 ht);exact⟨this.1,by rw[G0,this.2.1]<;>rfl,this.2.2⟩
 ·rw[G0]at ht
  exact absurd (JBz.1 ht) (hT t i k r)
 ·have hib:i<E.base:=by
   have:=(Ab.1 hi).1
   omega
  rw[swL_get hlm,hold hib];exact hI.fr.pre i b hi
 ·rw[swL_get hlm]at hb
  refine hI.fr.new (sw j i) b ?_ hb
  unfold sw
  split
  ·omega
  ·split<;>omega
 ·obtain⟨l',h1,e1⟩:=hAt hl'
  refine hI.owned l' r x b h1 ?_ hb
  cases l with
  |slot t=>subst e1;trivial
  |cell i k=>
   subst e1;show E.lo<=sw j i
   have h0:E.lo<=i:=hu;have:=hI.lole;unfold sw
   split
   ·omega
   ·split<;>omega
 ·rw[<-hI.hlo]
  apply C5;intro i;rw[AH,AH]
  split
  ·rename_i hi
   exact hob (Nat.lt_of_lt_of_le hi hI.lole)
  ·rfl
 ·refine hI.old n i cs hib hin ?_ h0
  unfold cellsOfOb at hcs⊢;rw[hob hib]at hcs;exact hcs
theorem InvP.swapS(hI:InvP vars E m c w g h a){i:Nat}(hl:E.base+i+1<h.length)(hT:∀t i k r,look g t≠ .list (.cell i k) r):
  InvP vars E (zb (E.base+i) m) c w (swE (E.base+i) g) (h.take E.base++zb i ((h.drop E.base).map (swO (E.base+i)))) a:=by
 have hS:=hI.swap (j:=E.base+i) (Ck _ _) hl hT
 have e:h.take E.base++zb i ((h.drop E.base).map (swO (E.base+i)))=zb (E.base+i) (h.map (swO (E.base+i))):=by
  have hlen:=hI.hlen;apply C5;intro k;rw[swL_get (by simpa using hl)]
  by_cases hk:k<E.base
  ·rw[Bd (by rw[Az];omega),AH,if_pos hk]
   have e1:sw (E.base+i) k=k:=by unfold sw;rw[if_neg om,if_neg om]
   rw[e1,An]
   cases hq:h[k]? with
   |none=>rfl
   |some o=>
    cases o with
    |cells cs=>
     have hcs:cellsOfOb h k=some cs:=by unfold cellsOfOb;rw[hq]
     have:cs.map (swf (E.base+i))=cs:=by
      conv=>rhs;rw[<-GF cs]
      refine A4 λv hv=>?_
      exact JSk (Ck _ _) (hI.old E.base k cs hk hk hcs (λcs0 h0 u hu=>hI.ent k cs0 h0 u hu) v hv)
     simp only[AK,swO,this]
    |iter s p=>rfl
    |tab es=>rfl
  ·rw[Bb (by rw[Az];omega),Az,B3 hlen,swL_get (by rw[Aq,AB];omega)]
   rw[An,An,Bg]
   have e2:E.base+sw i (k-E.base)=sw (E.base+i) k:=by
    unfold sw
    repeat' split
    all_goals omega
   rw[e2]
 rw[e];exact hS
end
section
variable{P:Program}{vars:List Nat}{m:List Nat}{c:Cl}{w:World}{g:Jl}{h:JG}{a:Act}{E:Entry}
theorem JSl(hI:InvP vars E m c w g h a){o:Oper}{r q:List (List V)}{olds news:List Value}{rest:Array Value}{e:TypeId}{cap sz:Nat}(hsz:0<sz)
  (hlo:olds.length=r.length*sz)(hln:news.length=q.length*sz)(hr:∀row∈r,row.length=sz)(hq:∀row∈q,row.length=sz)
  (h1:∀(i j:Nat) row v,r[i]? =some row->row[j]? =some v->∃x,olds[i*sz+j]? =some x/\VP c w v x)(h2:∀(i j:Nat) row v,q[i]? =some row->row[j]? =some v->∃x,news[i*sz+j]? =some x/\VP c w v x)
  (hbt:∀T,BTy.bb=some T->J2 (r++q)=true->e=T)(hcap:r.length+q.length<=cap)(hrest:rest.size=(cap-(r.length+q.length))*sz)(hmax:cap<=maxLen)(hne:r++q≠[])
  (hd:∀t,o.dst=some t->t<E.nt)(hv:∀t,o.dst=some t->t∉vars):InvP vars E m (λb=>if b=w.heap.size then(r.length+q.length)*sz else c b) (w.drew.alloc (.cells (olds.toArray++news.toArray++rest) e)) (put o.dst (.list .yes (r++q)) g) h (a.put o.dst (.slice (some ⟨w.heap.size,0,none⟩) (r.length+q.length) cap)):=by
 have hasz:(olds.toArray++news.toArray++rest).size=cap*sz:=by
  simp only[CR,BZ,hlo,hln,hrest];rw[<-A6,<-A6]
  congr 1
  omega
 have hnle:(r.length+q.length)*sz<=cap*sz:=AF _ hcap;have hI':=Zz hI (arr:=olds.toArray++news.toArray++rest) (e:=e) (f:=(0,0)) (w':=w.drew.alloc (.cells (olds.toArray++news.toArray++rest) e)) ((r.length+q.length)*sz) rfl rfl rfl rfl (by rw[hasz];exact hnle)
 have hheap:(w.drew.alloc (.cells (olds.toArray++news.toArray++rest) e)).heap[w.heap.size]? =some (.cells (olds.toArray++news.toArray++rest) e (0,0)):=heap_alloc_new w.drew _
 have hold:∀b,b<w.heap.size->(w.drew.alloc (.cells (olds.toArray++news.toArray++rest) e)).heap[b]? =w.heap[b]? :=λb hb=>by
  show(w.heap.push _)[b]? =_
  rw[BI];simp[show¬b=w.heap.size by omega]
 have hext:Ext c w (λb=>if b=w.heap.size then(r.length+q.length)*sz else c b) (w.drew.alloc (.cells (olds.toArray++news.toArray++rest) e)):=by
  refine⟨λb=>?_,λb o ho=>?_,λb _=>Shp.old hold b⟩
  ·by_cases hb:b=w.heap.size
   ·subst hb;rw[hI.core.c_zero (Ad _)];exact B9 _
   ·simp[hb]
  ·rcases Nat.lt_or_ge b w.heap.size with hb|hb
   ·exact Jb (hold b hb) o
   ·rw[hI.core.c_zero hb]at ho;omega
 have hl2:(r++q).length=r.length+q.length:=by simp
 have hrq:∀row∈r++q,row.length=sz:=λrow hm=>by
  rcases AO.1 hm with hm|hm
  ·exact hr row hm
  ·exact hq row hm
 have hvp:=jA (k:= .yes) (cap:=cap) (c:=λb=>if b=w.heap.size then(r.length+q.length)*sz else c b) (rows:=r++q) hheap hsz hrq (by rw[hl2];exact hcap) (by simp only[hl2,if_true];exact Ad _) (λi j row v hi hj=>by
  obtain⟨x,hx,hxv⟩:=GW hlo h1 h2 i j row v hi hj;refine⟨x,?_,hxv.mono hext⟩
  rw[BT]
  ·rw[<-Bk];simpa using hx
  ·have:=(Ab.1 hx).1
   simpa using this)
 rw[hl2]at hvp;refine hI'.putOwn hd hvp ?_ ?_ ?_ (.inl hv)
 ·refine .inr ⟨w.heap.size,cap,_,e,sz,by rw[hl2],hheap,by rw[hl2];exact hcap,hmax,hasz,hsz,hrq,by simp,?_,λh0=>absurd h0 hne,hbt⟩
  intro hb;obtain⟨i,hi,hb⟩:=AV hb;have:=hI.core.m_lt (Ac hi)
  omega
 ·intro l r' x' b hl hb hb'
  cases hb
  have hl':At m w g h a l r' x':=by
   cases l with
   |slot t=>exact hl
   |cell i j=>obtain⟨cs,b,k1,k2,k3,k4⟩:=hl;exact⟨cs,b,k1,k2,k3,by rw[<-Jb (hold b (hI.core.m_lt k3))];exact k4⟩
  exact absurd ((hI.core.own l r' x' hl').lt hb').1 (C1 _)
 ·intro b hb
  cases hb;exact .inl hI.fr.size
theorem JSm(hI:InvP vars E m c w g h a){o:Oper}{r q:List (List V)}{news:List Value}{b cap sz:Nat}{cur:Array Value}{e:TypeId}(hb:w.heap[b]? =some (.cells cur e (0,0)))
  (hO:JP1 E m c w g h a r (.slice (some ⟨b,0,none⟩) r.length cap))(hcur:cur.size=cap*sz)(hsz:0<sz)(hr:∀row∈r,row.length=sz)(hq:∀row∈q,row.length=sz)(hc:c b=r.length*sz)(hbm:b∉m)(hmax:cap<=maxLen)
  (hln:news.length=q.length*sz)(h2:∀(i j:Nat) row v,q[i]? =some row->row[j]? =some v->∃x,news[i*sz+j]? =some x/\VP c w v x)(hbt:∀T,BTy.bb=some T->J2 (r++q)=true->e=T)(hcap:r.length+q.length<=cap)(hne:r++q=[]->cap=0)
  (hd:∀t,o.dst=some t->t<E.nt)(hv:∀t,o.dst=some t->t∉vars):InvP vars E m (λk=>if k=b then(r.length+q.length)*sz else c k) (w.setCells b (r.length*sz) news) (put o.dst (.list .yes (r++q)) g) h (a.put o.dst (.slice (some ⟨b,0,none⟩) (r.length+q.length) cap)):=by
 have hnle:(r.length+q.length)*sz<=cap*sz:=AF _ hcap;have hfit:r.length*sz+news.length<=cur.size:=by rw[hln,hcur,<-A6];exact hnle
 obtain⟨k1,k2,k3,k4,k5,arr',k6,k7⟩:=Jp b news (r.length*sz) w cur e (0,0) hb hfit;have hbl:b<w.heap.size:=(AL.1 hb).1
 have hasz:arr'.size=cap*sz:=by rw[<-hcur,<-AJ,k7];simp only[Ao,Az,AB,AJ];omega
 have hget:∀k,k<r.length*sz->arr'[k]? =cur[k]? :=λk hk=>by
  rw[<-Bk,k7,QP (by simpa using hfit),if_neg om]
  simp
 have hI':=hI.grown (c':=λk=>if k=b then(r.length+q.length)*sz else c k) (w':=w.setCells b (r.length*sz) news) (some b) (by rw[k1];exact Ad _)
  (λk hk hne=>⟨k2 k (λe=>hne (by rw[e])),by simp[show¬k=b from λe=>hne (by rw[e])]⟩)
  (λk hk=>by
   cases hk;refine⟨hbm,λl r' x' hl=>?_,hO.2.2.2 b rfl,?_,λo ho=>?_,⟨arr',e,(0,0),k6,by simp only[if_true];rw[hasz];exact hnle⟩,λ_=>Qb hb hfit⟩
   ·exact hO.2.2.1 l r' x' b hl rfl
   ·simp only[if_true,hc];exact AF _ om
   ·rw[J1 k6,J1 hb]
    exact hget o (by rw[<-hc];exact ho))
  (λk hk hne h0=>by
   have:¬k=b:=λe=>hne (by rw[e])
   simp only[if_neg this]at h0
   rw[hI.core.c_zero hk]at h0;omega) k3 k4 k5
 have hext:Ext c w (λk=>if k=b then(r.length+q.length)*sz else c k) (w.setCells b (r.length*sz) news):=by
  refine⟨λk=>?_,λk o ho=>?_,λk _=>?_⟩
  rotate_left 2
  ·by_cases hk:k=b
   ·rw[hk];exact Qb hb hfit
   ·exact Shp.same (k2 k hk)
  ·by_cases hk:k=b
   ·subst hk;simp only[if_true,hc];exact AF _ om
   ·simp[hk]
  ·by_cases hk:k=b
   ·subst hk
    rw[J1 k6,J1 hb];exact hget o (by rw[<-hc];exact ho)
   ·exact Jb (k2 k hk) o
 have hl2:(r++q).length=r.length+q.length:=by simp
 have hrq:∀row∈r++q,row.length=sz:=λrow hm=>by
  rcases AO.1 hm with hm|hm
  ·exact hr row hm
  ·exact hq row hm
 have holds:=jn hO.1 rfl hb hr
 have holdl:(cur.toList.take (r.length*sz)).length=r.length*sz:=by rw[Az,AJ];exact B3 (Nat.le_trans (Ck _ _) hfit)
 have hvp:=jA (k:= .yes) (cap:=cap) (c:=λk=>if k=b then(r.length+q.length)*sz else c k) (rows:=r++q) k6 hsz hrq (by rw[hl2];exact hcap) (by simp only[hl2,if_true];exact Ad _) (λi j row v hi hj=>by
  obtain⟨x,hx,hxv⟩:=GW (olds:=cur.toList.take (r.length*sz)) (news:=news) holdl (λi j row v hi hj=>by
   obtain⟨x,hx,hxv⟩:=holds i j row v hi hj;refine⟨x,?_,hxv⟩
   have hjl:j<sz:=by rw[<-hr row (Aj hi)];exact(Ab.1 hj).1
   have hil:i<r.length:=(Ab.1 hi).1
   have:(i+1)*sz<=r.length*sz:=AF _ hil;rw[A6]at this;rw[AH,if_pos om]
   simpa using hx) h2 i j row v hi hj
  refine⟨x,?_,hxv.mono hext⟩
  rw[<-Bk,k7,Bd (Ab.1 hx).1]
  exact hx)
 rw[hl2]at hvp;refine hI'.putOwn hd hvp ?_ ?_ ?_ (.inl hv)
 ·exact .inr ⟨b,cap,arr',e,sz,by rw[hl2],k6,by rw[hl2];exact hcap,hmax,hasz,hsz,hrq,by simp,hbm,hne,hbt⟩
 ·intro l r' x' k hl hk
  cases hk
  have hl':At m w g h a l r' x':=by
   cases l with
   |slot t=>exact hl
   |cell i j=>obtain⟨cs,b',q1,q2,q3,q4⟩:=hl;exact⟨cs,b',q1,q2,q3,by rw[<-Jb (k2 b' (λe=>hbm (e▸Aj q3)))];exact q4⟩
  exact hO.2.2.1 l r' x' b hl' rfl
 ·intro k hk
  cases hk;exact hO.2.2.2 b rfl
theorem zm{w w':World}(h1:∀k:Nat,w.heap[k]? =w'.heap[k]?)(h2:w.os=w'.os)(h3:w.tape=w'.tape)(h4:w.output=w'.output)(h5:w.drawn=w'.drawn):w=w':=by
 obtain⟨hp,tp,dr,os,out⟩:=w;obtain⟨hp',tp',dr',os',out'⟩:=w';simp only at h1 h2 h3 h4 h5;subst h2 h3 h4 h5
 congr 1
 exact Array.ext_getElem? h1
theorem KZ(b:Nat):∀(vs:List Value) (o:Nat) (w:World),(w.setCells b o vs).drawn=w.drawn
 |[],o,w=>rfl
 |v::vs,o,w=>by rw[World.setCells,KZ b vs]<;>rfl
theorem Gl{b o:Nat}{vs us:List Value}{w:World}{cur:Array Value}{e:TypeId}{f:Nat×Nat}(hb:w.heap[b]? =some (.cells cur e f))(hfit:o+vs.length<=cur.size)(hl:vs.length=us.length):(w.setCells b o vs).setCells b o us=w.setCells b o us:=by
 obtain⟨a1,a2,a3,a4,a5,ar,a6,a7⟩:=Jp b vs o w cur e f hb hfit
 have hs:ar.size=cur.size:=by have:=congrArg Bq a7;simp only[Ao,Az,AB,AJ]at this;omega
 obtain⟨b1,b2,b3,b4,b5,br,b6,b7⟩:=Jp b us o (w.setCells b o vs) ar e f a6 om;obtain⟨c1,c2,c3,c4,c5,cr,c6,c7⟩:=Jp b us o w cur e f hb om;refine zm (λk=>?_) (by rw[b3,a3,c3]) (by rw[b4,a4,c4]) (by rw[b5,a5,c5]) (by rw[KZ,KZ,KZ])
 by_cases hk:k=b
 ·subst hk
  rw[b6,c6]
  congr 2
  apply C0.1;rw[b7,c7,a7]
  have e1:(cur.toList.take o++vs++cur.toList.drop (o+vs.length)).take o=cur.toList.take o:=by rw[Ax,List.take_append_of_le_length (by rw[Az,AJ];omega),Du,Nat.min_self]
  have e2:(cur.toList.take o++vs++cur.toList.drop (o+vs.length)).drop (o+us.length)=cur.toList.drop (o+us.length):=by
   have hlen:(cur.toList.take o++vs).length=o+us.length:=by rw[Ao,Az,AJ];omega
   rw[<-hlen,CF,hlen,hl]
  rw[e1,e2]
 ·rw[b2 k hk,a2 k hk,c2 k hk]
theorem JB1{b k o p:Nat}{vs us:List Value}{w:World}{cur cur':Array Value}{e e':TypeId}{f f':Nat×Nat}(hbk:b≠k)(hb:w.heap[b]? =some (.cells cur e f))(hfit:o+vs.length<=cur.size)(hk:w.heap[k]? =some (.cells cur' e' f'))(hfit':p+us.length<=cur'.size):
  (w.setCells b o vs).setCells k p us=(w.setCells k p us).setCells b o vs:=by
 obtain⟨a1,a2,a3,a4,a5,ar,a6,a7⟩:=Jp b vs o w cur e f hb hfit;obtain⟨b1,b2,b3,b4,b5,br,b6,b7⟩:=Jp k us p (w.setCells b o vs) cur' e' f' (by rw[a2 k (Ne.symm hbk)];exact hk) hfit'
 obtain⟨c1,c2,c3,c4,c5,cr,c6,c7⟩:=Jp k us p w cur' e' f' hk hfit';obtain⟨d1,d2,d3,d4,d5,dr,d6,d7⟩:=Jp b vs o (w.setCells k p us) cur e f (by rw[c2 b hbk];exact hb) hfit
 refine zm (λj=>?_) (by rw[b3,a3,d3,c3]) (by rw[b4,a4,d4,c4]) (by rw[b5,a5,d5,c5]) (by rw[KZ,KZ,KZ,KZ])
 by_cases h1:j=k
 ·subst h1
  rw[b6,d2 j (Ne.symm hbk),c6]
  congr 2
  apply C0.1;rw[b7,c7]
 ·by_cases h2:j=b
  ·subst h2
   rw[b2 j hbk,a6,d6]
   congr 2
   apply C0.1;rw[a7,d7]
  ·rw[b2 j h1,a2 j h2,d2 j h2,c2 j h1]
theorem JB2{vs us:List Value}{w:World}{xs:List Value}{rest:Array Value}{e:TypeId}(hl:vs.length=us.length):
  (w.alloc (.cells (xs.toArray++vs.toArray++rest) e)).setCells w.heap.size xs.length us=w.alloc (.cells (xs.toArray++us.toArray++rest) e):=by
 obtain⟨a1,a2,a3,a4,a5,ar,a6,a7⟩:=Jp w.heap.size us xs.length (w.alloc (.cells (xs.toArray++vs.toArray++rest) e)) _ e (0,0) (heap_alloc_new w _) (by simp;omega)
 refine zm (λj=>?_) a3 a4 a5 (KZ _ _ _ _)
 by_cases hj:j=w.heap.size
 ·subst hj
  rw[a6,heap_alloc_new w _]
  congr 2
  apply C0.1;rw[a7];have e1:(xs.toArray++vs.toArray++rest).toList=xs++vs++rest.toList:=by simp
  have e2:(xs.toArray++us.toArray++rest).toList=xs++us++rest.toList:=by simp
  rw[e1,e2];have e3:(xs++vs++rest.toList).take xs.length=xs:=by rw[Ax,List.take_left]
  have e4:(xs++vs++rest.toList).drop (xs.length+us.length)=rest.toList:=by
   have:xs.length+us.length=(xs++vs).length:=by rw[Ao,hl]
   rw[this,CF]
  rw[e3,e4]
 ·rw[a2 j hj]
  show(w.heap.push _)[j]? =(w.heap.push _)[j]?
  rw[BI,BI,if_neg hj,if_neg hj]
theorem JAj(hI:InvP vars E m c w g h a){o:Oper}{k:Call}{x y:Operand}{e:TypeId}{du:TypeDesc}{r:List (List V)}{z ev:List V}{es:List Value}{g1:Jl}{h1:JG}(ho:o.op= .call k)(hc:k.callee= .builtin .append)(hargs:k.args.toList=[x,y])
  (htypes:k.argTypes.toList.map P.underlying=[some (.slice e),some du])(hown:Gv E.lo (g,h) x=some (r,g1,h1))(hq:Wk P e (opd g y)=some [z])
  (hcond:(K4 P e).map (·.length)=some (JH P e)/\0<JH P e/\(r.all λz=>z.length==JH P e)=true/\(r.length+1)*P.bytesOf e<=140737488355328/\r.length+1<=9223372036854775807/\H4 du=true/\byT e r [ev]=true)
  (hev:ev.length=JH P e)(hes:es.length=JH P e)(hrel:∀(j:Nat) v,ev[j]? =some v->∃x,es[j]? =some x/\VP c w v x)
  (hd:∀t,o.dst=some t->t<E.nt)(hv:∀t,o.dst=some t->t∉vars):
  ∃b cap wz c' arr ty,Does P w a o (.slice (some ⟨b,0,none⟩) (r.length+1) cap) wz/\InvP vars E m c' (wz.setCells b (r.length*JH P e) es) (put o.dst (.list .yes (r++[ev])) (Lift.untag g1)) h1 (a.put o.dst (.slice (some ⟨b,0,none⟩) (r.length+1) cap))/\
   wz.heap[b]? =some (.cells arr ty (0,0))/\(r.length+1)*JH P e<=arr.size/\b∉m:=by
 obtain⟨c1,c2,c3,c4,c5,c6,c7⟩:=hcond;obtain⟨hI1,hO⟩:=HR hI hown
 obtain⟨ie,hie⟩:∃ie,P.info? e=some ie:=by
  cases hie:P.info? e with
  |some ie=>exact⟨ie,rfl⟩
  |none=>simp[JH,Program.cellsOf,hie]at c2
 have hsz:=JY hie;have hsz0:0<ie.size:=by rw[<-hsz];exact c2
 obtain⟨z0,hz,hzl⟩:∃z,ie.zero=some z/\z.cells.size=ie.size:=by
  unfold K4 at c1;rw[hie]at c1
  cases hz:ie.zero with
  |none=>simp[hz]at c1
  |some z=>simp[hz]at c1;exact⟨z,rfl,by rw[c1,hsz]⟩
 have hby:P.bytesOf e=ie.bytes:=by simp[Program.bytesOf,hie]
 rw[hby]at c4;obtain⟨news,hsrc,hnl,hqr,hnew⟩:=yV hie (hI.core.opd y) hq hsz0;rw[List.length_singleton,Dj]at hnl;rw[hsz]at hev hes⊢
 have hrr:∀row∈r,row.length=ie.size:=λrow hr=>by have:=Ak.1 c3 row hr;rw[hsz]at this;simpa using this
 have hqq:∀row∈[ev],row.length=ie.size:=λrow hr=>by rw[A1.1 hr];exact hev
 have hrel':∀(i j:Nat) row v,[ev][i]? =some row->row[j]? =some v->∃x,es[i*ie.size+j]? =some x/\VP c w v x:=λi j row v hi hj=>by
  cases i with
  |zero=>
   simp at hi;subst hi;rw[DX,AC]
   exact hrel j v hj
  |succ i=>simp at hi
 obtain⟨t,u,ht2,htu,huu⟩:∃t u,k.argTypes= #[t,u]/\P.underlying t=some (.slice e)/\P.underlying u=some du:=by
  rcases hl:k.argTypes.toList with _|⟨t,_|⟨u,_|⟨v,l⟩⟩⟩<;>rw[hl]at htypes<;>simp at htypes
  exact⟨t,u,by rw[<-BV (xs:=k.argTypes),hl],htypes.1,htypes.2⟩
 have hdu:∀kk,du≠ .int kk:=λkk e=>by subst e;cases c6
 have hargs':k.args.map a.eval= #[a.eval x,a.eval y]:=by rw[<-BV (xs:=k.args),hargs];simp
 have hdo:∀v w',(Builtin.append_ #[t,u] o.type #[a.eval x,a.eval y]).run P w= .ok v w'->Does P w a o v w':=λv w' hr=>by
  refine Kz (jC a.eval ho hc) ?_
  rw[ht2,hargs'];exact hr
 have hone:∀v∈news,v.oneCell'=true:=λv hv=>by
  obtain⟨p,hp,rfl⟩:=AV hv;have hm:p<z.length:=by rw[hqr z (by simp)];rw[hnl]at hp;exact hp
  obtain⟨z',hz',hvp⟩:=hnew 0 p z _ rfl (Ac hm)
  rw[DX,AC,Ac hp]at hz'
  cases hz';exact hvp.oneCell
 have hnes:news.length=es.length:=by rw[hnl,hes]
 have hgrow:∀{base:Option Addr} {cap:Nat} {olds:List Value},a.eval x= .slice base r.length cap->(∀w',w'.heap=w.heap->(Builtin.firstCells ie.size r.length (.slice base r.length cap)).run P w'= .ok olds.toArray w')->
   olds.length=r.length*ie.size->(∀(i j:Nat) row v,r[i]? =some row->row[j]? =some v->∃x,olds[i*ie.size+j]? =some x/\VP c w v x)->cap<r.length+1->
   ∃b cap wz c' arr ty,Does P w a o (.slice (some ⟨b,0,none⟩) (r.length+1) cap) wz/\InvP vars E m c' (wz.setCells b (r.length*ie.size) es) (put o.dst (.list .yes (r++[ev])) (Lift.untag g1)) h1 (a.put o.dst (.slice (some ⟨b,0,none⟩) (r.length+1) cap))/\
   wz.heap[b]? =some (.cells arr ty (0,0))/\(r.length+1)*ie.size<=arr.size/\b∉m:=λ{base cap olds} hx hf hol hoc hlt=>by
  have hrun:=yU (P:=P) (w:=w) (ty:=o.type) htu huu hdu hie hz hsrc hf hlt c5 c4;rw[<-hx]at hrun;have hge:=grownCap_ge w (r.length+1) cap e;have hrest:(Builtin.zeroCells z0.cells (grownCap w (r.length+1) cap e-(r.length+1))).size=(grownCap w (r.length+1) cap e-(r.length+1))*ie.size:=by rw[size_zeroCells,hzl]
  have hinv:=JSl (q:=[ev]) (news:=es) hI1 (o:=o) hsz0 hol (by rw[hes];simp) hrr hqq hoc hrel' (JJT c7) hge hrest (grownCap_le_maxLen w _ _ e (by unfold maxLen;exact c5)) (by simp) hd hv
  rw[<-JB2 (vs:=news) hnes,hol]at hinv;refine⟨_,_,_,_,_,_,hdo _ _ hrun,hinv,heap_alloc_new w.drew _,?_,λhb=>?_⟩
  ·simp only[CR,BZ,hol,hnl,hrest]
   rw[A6,Dj];exact Ck _ _
  ·obtain⟨i,hi,hb⟩:=AV hb
   have:=hI1.core.m_lt (Ac hi)
   rw[hb]at this;exact absurd this (C1 _)
 rcases hO.2.1 with⟨hx,hr0⟩|⟨b,cap,cur,e',sz,hx,k1,k2,k3,k4,k5,k6,k7,k8,k9,k10⟩
 ·subst hr0
  exact hgrow (base:=none) (cap:=0) (olds:=[]) hx (λw' _=>by simp[Builtin.firstCells]) (by simp) (λi j row v hi=>by simp at hi) (by simp)
 ·by_cases hroom:r.length+1<=cap
  ·by_cases hr0:r=[]
   ·subst hr0
    have hcap0:=k9 rfl;subst hcap0;simp at hroom
   ·have hse:sz=ie.size:=by
     obtain⟨r0,hm⟩:=Ca _ hr0;rw[<-k6 r0 hm,hrr r0 hm]
    subst hse;have hfit:r.length*ie.size+news.length<=cur.size:=by rw[hnl,k4,show r.length*ie.size+ie.size=(r.length+1)*ie.size by rw[A6,Dj]];exact AF _ hroom
    rw[hx]at hO;have hrun:=JBt (P:=P) (w:=w) (ty:=o.type) htu huu hdu hie hsrc k1 hroom hfit hone;have hinv:=JSm (q:=[ev]) (news:=es) hI1 (o:=o) k1 hO k4 k5 hrr hqq k7 k8 k3 (by rw[hes];simp) hrel' (λT hT hb=>k10 T hT (by rw[kq hr0]at hb;exact hb)) hroom (λh0=>absurd (List.append_eq_nil_iff.1 h0).1 hr0) hd hv
    rw[<-Gl k1 hfit hnes]at hinv;obtain⟨_,_,_,_,_,arr',j6,j7⟩:=Jp b news (r.length*ie.size) w cur e' (0,0) k1 hfit;refine⟨b,cap,_,_,arr',e',hdo _ _ (by rw[hx];exact hrun),hinv,j6,?_,k8⟩
    have:=congrArg Bq j7;simp only[Ao,Az,AB,AJ]at this;rw[A6,Dj];omega
  ·by_cases hr0:r=[]
   ·subst hr0
    exact hgrow (olds:=[]) hx (λw' _=>run_firstCells_some w' ie.size 0 ⟨b,0,none⟩ 0 cap [] (by simp) (λj v hj=>by simp at hj)) (by simp) (λi j row v hi=>by simp at hi) om
   ·have hse:sz=ie.size:=by
     obtain⟨r0,hm⟩:=Ca _ hr0;rw[<-k6 r0 hm,hrr r0 hm]
    subst hse;rw[hx]at hO;have hle:r.length*ie.size<=cur.size:=by rw[k4];exact AF _ k2
    have hol:(cur.toList.take (r.length*ie.size)).length=r.length*ie.size:=by rw[Az,AJ];exact B3 hle
    refine hgrow (olds:=cur.toList.take (r.length*ie.size)) hx (λw' hw'=>run_firstCells_some w' ie.size r.length ⟨b,0,none⟩ r.length cap _ hol (λj v hj=>?_)) hol (λi j row v hi hj=>?_) om
    ·rw[KR,AC,Jb (w:=w) (w':=w') (by rw[hw']),J1 k1]
     rw[AH]at hj
     split at hj
     ·simpa using hj
     ·cases hj
    ·obtain⟨x',hx',hxv⟩:=jn hO.1 rfl k1 hrr i j row v hi hj
     refine⟨x',?_,hxv⟩
     have hjl:j<ie.size:=by rw[<-hrr row (Aj hi)];exact(Ab.1 hj).1
     have hil:i<r.length:=(Ab.1 hi).1
     have:(i+1)*ie.size<=r.length*ie.size:=AF _ hil;rw[A6]at this;rw[AH,if_pos om]
     simpa using hx'
end
section
variable{P:Program}{vars:List Nat}{m:List Nat}{c:Cl}{w:World}{g:Jl}{h:JG}{a:Act}{E:Entry}
theorem JWJ(hC:Core vars m c w g h a){o:Oper}{t:TypeId}{x i:Operand}(ho:o.op= .indexAddr t x i){b mm sz:Nat}(hx0:opd g x= .stk b mm sz){v:V}(hv:Jd P vars (g,h) (.indexAddr t x i)=some v):
  ∃y,(∀w':World,Qk P w' a o y)/\VRr m c w v y/\bare v=true:=by
 have hx:=hC.opd x;have hi:=hC.opd i;simp only[Jd]at hv;rw[hx0]at hv hx
 split at hv
 ·rename_i he _ _;cases he
 ·rename_i he _ _;cases he
 ·rename_i b mm sz n e he hn hu
  cases he;obtain⟨kk,hkk⟩:=Qt hn;rw[hkk]at hi;have hi':a.eval i= .int kk n:=hi
  split at hv
  ·rename_i hb
   cases hv;obtain⟨gb,cap,hg,hy,hcap,_⟩:=hx
   obtain⟨ie,hie⟩:∃ie,P.info? e=some ie:=by
    cases hie:P.info? e with
    |some ie=>exact⟨ie,rfl⟩
    |none=>have h1:=hb.2.2.1;have h2:=hb.2.2.2;simp[JH,Program.cellsOf,hie]at h1;omega
   refine⟨.pointer (some ((⟨gb,0,none⟩:Addr).add (n.toNat*JH P e))),λw'=>Jf (by simp[execOp,ho,hy,hi'];rfl) ?_,⟨gb,hg,by rw[KR,AC,hb.2.2.1]⟩,rfl⟩
   have hb':0<=n/\n<(mm:Int):=⟨hb.1,hb.2.1⟩;simp[Instr.indexAt,asIntOf,run_underlying hu,hb',sizeOf,typeInfo,hie,JY hie]
  ·cases hv
 ·rename_i he _ _;cases he
 ·rename_i he _ _;cases he
 ·cases hv
theorem JP8(hC:Core vars m c w g h a){o:Oper}{t:TypeId}{x:Operand}{f:Nat}(ho:o.op= .fieldAddr t x f){b k:Nat}(hx0:opd g x= .ptr b k){v:V}(hv:Jd P vars (g,h) (.fieldAddr t x f)=some v):
  ∃y,(∀w':World,Qk P w' a o y)/\VRr m c w v y/\bare v=true:=by
 have hx:=hC.opd x;simp only[Jd]at hv;rw[hx0]at hv hx
 split at hv
 ·rename_i b k off u he hf
  cases he
  split at hv
  ·rename_i hs
   cases hv;obtain⟨fs,fd,hu,hfd,rfl,rfl⟩:=YT hf;obtain⟨gb,hg,hy⟩:=hx;exact⟨_,λw'=>Jf (by simp[execOp,ho,hy];rfl) (H7 hu hfd hs _),⟨gb,hg,by rw[KR]⟩,rfl⟩
  ·cases hv
 ·rename_i he _;cases he
 ·cases hv
theorem JWK(hC:Core vars m c w g h a){o:Oper}{x:Operand}(ho:o.op= .nilCheck x){b k:Nat}(hx0:opd g x= .ptr b k):
  ∃y,(∀w':World,Qk P w' a o y)/\VRr m c w (.ptr b k) y/\bare (V.ptr b k)=true:=by
 have hx:=hC.opd x;rw[hx0]at hx;obtain⟨gb,hg,hy⟩:=hx;exact⟨_,λw'=>by simp[Qk,execOp,ho,hy],⟨gb,hg,rfl⟩,rfl⟩
theorem JKx{o:Oper}{t e:TypeId}{u nn n b cap:Nat}{kk:IntKind}(ho:o.op= .indexAddr t (.tmp u) (.tmp nn))(hu:P.underlying t=some (.slice e))(hi:(P.info? e).isSome)(hy:a.eval (.tmp u)= .slice (some ⟨b,0,none⟩) (n+1) cap)(hn:a.eval (.tmp nn)= .int kk n)(w':World):
  Qk P w' a o (.pointer (some ⟨b,n*JH P e,none⟩)):=by
 obtain⟨ie,hie⟩:=A7.1 hi;refine Jf (by simp[execOp,ho,hy,hn];rfl) ?_
 have hb':(0:Int)<=(n:Int)/\(n:Int)<((n+1:Nat):Int):=⟨om,om⟩;simp[Instr.indexAt,asIntOf,run_underlying hu,hb',sizeOf,typeInfo,hie,JY hie];rw[KR,AC]
theorem JNB(hI:InvP vars E m c w g h a){p:Operand}{u i off:Nat}{cs:List V}{r:List (List V)}{t:TypeId}(hp:opd g p= .ptr i off)(hcs:cellsOfOb h i=some cs)(hl:look g u= .list .yes r)
  (c1:E.lo<=i)(c2:off+1<=cs.length)(ht:JH P t=1)(hinfo:(P.info? t).isSome)(c7:yJ [V.list .yes r]=true):
  ∃gb arr e f,m[i]? =some gb/\w.heap[gb]? =some (.cells arr e f)/\off+1<=arr.size/\
   InvP vars E m c (w.setCells gb off [a.tmps.getD u undef]) (Lift.untag (Lift.ins u (.list .no r) g)) (Lift.setOb h i (cs.take off++[.list .yes r]++cs.drop (off+1))) a/\
   ∀(o:Oper) (w1:World) (arr1:Array Value),o.op= .store t p (.tmp u)->w1.heap[gb]? =some (.cells arr1 e f)->off+1<=arr1.size->Does P w1 a o undef (w1.setCells gb off [a.tmps.getD u undef]):=by
 obtain⟨gb,hm,hpv⟩:=(by have:=hI.core.opd p;rw[hp]at this;exact this:∃gb,m[i]? =some gb/\a.eval p= .pointer (some ⟨gb,off,none⟩))
 obtain⟨ie,hie⟩:=A7.1 hinfo
 have hcs0:h[i]? =some (.cells cs):=by
  unfold cellsOfOb at hcs
  split at hcs
  ·rename_i h0;cases hcs;exact h0
  ·cases hcs
 obtain⟨arr,e,f,hw,hle,hfr,hall,hbld⟩:=hI.core.ob i _ gb hcs0 hm;have hat:At m w g h a (.slot u) r (a.tmps.getD u undef):=⟨hl,rfl⟩;have hv:=hI.core.env u;rw[hl]at hv;have hv':VP c w (.list .yes r) (a.tmps.getD u undef):=hv;have hone:(a.tmps.getD u undef).oneCell'=true:=hv'.oneCell;have hI1:=hI.release hl
 obtain⟨hI',_⟩:=Yc (P:=P) (vs:=[.list .yes r]) (ys:=[a.tmps.getD u undef]) hI1 off hcs hm c1 c2 ⟨rfl,λj v x hj hx=>by
   cases j with
   |succ j=>simp at hj
   |zero=>
    simp only[BC,Ah]at hj hx
    subst hj hx
    exact hv'⟩ (λy hy=>by rw[A1.1 hy];exact hone) (λj q y hj hy=>by
   cases j with
   |succ j=>simp at hj
   |zero=>
    simp only[BC,Ah,V.list.injEq,true_and]at hj hy
    subst hj hy;refine .inr ⟨om,hI.core.own _ _ _ hat,λl r' x' b hl' hb hb'=>?_,λb hb=>hI.owned _ _ _ b hat trivial hb⟩
    obtain⟨n1,hl''⟩:=Zy hl'
    exact n1 (hI.core.uniq l _ r' _ x' _ b hl'' hat hb' hb)) (.inl ⟨Ad _,by simp⟩) (λt i j r=>WW t i j r) (λ_ v hv=> .inl (by rw[A1.1 hv]<;>rfl)) c7
 refine⟨gb,arr,e,f,hm,hw,om,hI',λo w1 arr1 ho hw1 hs1=>?_⟩
 have hfz:w1.frozen? ⟨gb,off,none⟩=false:=by have:=hfr off om;simp only[BN,hw,hw1]at this⊢;exact this
 have hrun:=run_storeCells_cells (P:=P) gb off [a.tmps.getD u undef] 0 w1 (λj hj=>by
  have hj0:j=0:=by simpa using hj
  subst hj0;show(w1.cell? ⟨gb,off,none⟩).isSome=true
  rw[J1 hw1];simp only[A7]
  exact⟨_,BE om⟩) (λj hj=>by
  have hj0:j=0:=by simpa using hj
  subst hj0
  exact hfz) (λv hv=>by rw[A1.1 hv];exact hone)
 have hcells:(a.eval (.tmp u)).cells= #[a.tmps.getD u undef]:=by
  show(a.tmps.getD u undef).cells=_
  generalize a.tmps.getD u undef=z at hv';cases hv'<;>rfl
 refine .inr ⟨?_,rfl⟩
 have hsz:ie.size=1:=by rw[<-JY hie];exact ht
 have hsz2:(a.eval (.tmp u)).cells.size=ie.size:=by rw[hcells,hsz]<;>rfl
 have hcl:(a.eval (.tmp u)).cells.toList=[a.tmps.getD u undef]:=by rw[hcells]
 obtain⟨zz,hz⟩:∃zz,a.tmps.getD u undef=zz:=⟨_,rfl⟩;rw[hz]at hrun hcl⊢;simp[execOp,ho,Instr.storeAt,hpv,Instr.sureAddr,storeVar,sizeOf,typeInfo,hie,hsz2,hcl,hrun]
structure Pend(vars:List Nat)(E:Entry)(b off:Nat)(es:List Value)(u nn ex:Nat)(yu yn ye:Value)(m:List Nat)(c:Cl)(w:World)(g:Jl)(h:JG)(a:Act):Prop where
 inv:InvP vars E m c (w.setCells b off es) g h a
 blk:∃arr ty,w.heap[b]? =some (.cells arr ty (0,0))/\off+es.length<=arr.size
 nm:b∉m
 su:a.eval (.tmp u)=yu
 sn:a.eval (.tmp nn)=yn
 se:a.eval (.tmp ex)=ye
theorem Ke{a:Act}{d t:Nat}{y:Value}(h:d≠t):(a.put (some d) y).eval (.tmp t)=a.eval (.tmp t):=by simp[Act.eval,Act.put,B5,Cs h]
def NT(g:Jl):Prop:=(∀t u r,look g t≠ .list (.slot u) r)/\ ∀t i j r,look g t≠ .list (.cell i j) r
theorem Jfo{b off u nn ex:Nat}{es:List Value}{yu yn ye:Value}{o:Oper}{l:List Oper}{s':St}(hO:(∀t,o.dst=some t->t<E.nt)/\((∃x,o.op= .assign x)\/ ∀t,o.dst=some t->t∉vars))(hP:Pend vars E b off es u nn ex yu yn ye m c w g h a)
  (he:Yx P E.lo E.base u nn ex (o::l) (g,h)=some s'):o.guard=none/\ ∃y w' g' h',Does P w a o y w'/\Pend vars E b off es u nn ex yu yn ye m c w' g' h' (a.put o.dst y)/\(NT g->NT g')/\
   (∀t,look g t= .undef->o.dst≠some t->t≠u->look g' t= .undef)/\(l=[]->(g',h')=s')/\(l≠[]->Yx P E.lo E.base u nn ex l (g',h')=some s')/\(w.setCells b off es=w->w'.setCells b off es=w'):=by
 have step:∀{d:Nat} {v:V} {y:Value},l≠[]->o.dst=some d->(∀x,o.op≠ .assign x)->o.guard=none->d≠u->d≠nn->d≠ex->(∀w':World,Qk P w' a o y)->VRr m c (w.setCells b off es) v y->bare v=true->Yx P E.lo E.base u nn ex l (ins d v g,h)=some s'->o.guard=none/\ ∃y w' g' h',Does P w a o y w'/\Pend vars E b off es u nn ex yu yn ye m c w' g' h' (a.put o.dst y)/\(NT g->NT g')/\
   (∀t,look g t= .undef->o.dst≠some t->t≠u->look g' t= .undef)/\(l=[]->(g',h')=s')/\(l≠[]->Yx P E.lo E.base u nn ex l (g',h')=some s')/\(w.setCells b off es=w->w'.setCells b off es=w'):=λ{d v y} hl hdst hna hgd h1 h2 h3 hy hv hb hrest=>by
  have hd:d<E.nt/\d∉vars:=⟨hO.1 d hdst,by
   rcases hO.2 with⟨x,hx⟩|h'
   ·exact absurd hx (hna x)
   ·exact h' d hdst⟩
  have hI2:=hP.inv.put (d:=some d) (λt e=>by cases e;exact hd.1) hv (TagOK.bare hb) (.inl λt e=>by cases e;exact hd.2)
  refine⟨hgd,y,w,ins d v g,h,.inl (hy w),?_,λhn=>⟨λt u r e=>?_,λt i j r e=>?_⟩,λt ht hne htu=>?_,λe=>absurd e hl,λ_=>hrest,id⟩
  ·rw[hdst]
   exact⟨hI2,hP.blk,hP.nm,(Ke h1).trans hP.su,(Ke h2).trans hP.sn,(Ke h3).trans hP.se⟩
  ·rw[look_ins]at e
   split at e
   ·rw[e]at hb;cases hb
   ·exact hn.1 t u r e
  ·rw[look_ins]at e
   split at e
   ·rw[e]at hb;cases hb
   ·exact hn.2 t i j r e
  ·rw[look_ins,if_neg (λe=>hne (by rw[hdst,e]))]
   exact ht
 cases l with
 |nil=>
  simp only[Yx]at he
  split at he
  ·rename_i t p u' hop hgd hdst
   split at he
   ·rename_i i off' r hp hl
    split at he
    ·rename_i cs hcs
     split at he
     ·rename_i hcond
      obtain⟨rfl,c1,c2,c3,c4,c5⟩:=hcond;simp only[Ah]at he;subst he;obtain⟨gb,arr,e,f,hm,hw,hle,hI',hdo⟩:=JNB hP.inv hp hcs hl c1 c2 c3 c4 c5;obtain⟨arr0,ty0,hb0,hf0⟩:=hP.blk;have hne:b≠gb:=λe=>hP.nm (e▸Aj hm)
      obtain⟨k1,k2,_⟩:=Jp b es off w arr0 ty0 (0,0) hb0 hf0;have hwg:w.heap[gb]? =some (.cells arr e f):=by rw[<-k2 gb (Ne.symm hne)];exact hw
      have hap:=JB1 hne hb0 hf0 hwg (show off'+[a.tmps.getD u' undef].length<=arr.size by simpa using hle)
      refine⟨hgd,_,_,_,_,hdo o w arr hop hwg hle,?_,λ_=>⟨λt u r=>WV t u r,λt i j r=>WW t i j r⟩,λt ht _ htu=>?_,λ_=>rfl,λe=>absurd rfl e,λe=>?_⟩
      ·rw[hdst]
       refine⟨?_,?_,hP.nm,hP.su,hP.sn,hP.se⟩
       ·rw[<-hap]
        exact hI'
       ·obtain⟨_,q2,_⟩:=Jp gb [a.tmps.getD u' undef] off' w arr e f hwg (by simpa using hle)
        exact⟨arr0,ty0,by rw[q2 b hne];exact hb0,hf0⟩
      ·rw[Jy,look_ins,if_neg htu,ht]
       rfl
      ·rw[<-hap,e]
     ·cases he
    ·cases he
   ·cases he
  ·cases he
 |cons q l=>
  simp only[Yx]at he
  split at he
  ·rename_i t x i d hop hgd hdst
   split at he
   ·rename_i b' mm sz hx
    split at he
    ·rename_i hne
     split at he
     ·rename_i v hv
      obtain⟨y,hy,hvr,hb⟩:=JWJ hP.inv.core hop hx (show Jd P vars (g,h) (.indexAddr t x i)=some v from hv)
      exact step (by simp) hdst (λx e=>by rw[hop]at e;cases e) hgd hne.1 hne.2.1 hne.2.2 hy hvr hb he
     ·cases he
    ·cases he
   ·cases he
  ·rename_i t x f d hop hgd hdst
   split at he
   ·rename_i b' kk hx
    split at he
    ·rename_i hne
     split at he
     ·rename_i v hv
      obtain⟨y,hy,hvr,hb⟩:=JP8 hP.inv.core hop hx (show Jd P vars (g,h) (.fieldAddr t x f)=some v from hv)
      exact step (by simp) hdst (λx e=>by rw[hop]at e;cases e) hgd hne.1 hne.2.1 hne.2.2 hy hvr hb he
     ·cases he
    ·cases he
   ·cases he
  ·rename_i x d hop hgd hdst
   split at he
   ·rename_i b' kk hx
    split at he
    ·rename_i hne
     obtain⟨y,hy,hvr,hb⟩:=JWK hP.inv.core hop hx;exact step (by simp) hdst (λx e=>by rw[hop]at e;cases e) hgd hne.1 hne.2.1 hne.2.2 hy hvr hb he
    ·cases he
   ·cases he
  ·cases he
theorem JSn{b off u nn ex:Nat}{es:List Value}{yu yn ye:Value}{ops:Array Oper}{Q:Exit->Act->World->Prop}:∀(l:List Oper) (m:List Nat) (c:Cl) (w:World) (g:Jl) (h:JG) (a:Act) (s':St),
  (∀o∈l,(∀t,o.dst=some t->t<E.nt)/\((∃x,o.op= .assign x)\/ ∀t,o.dst=some t->t∉vars))->Pend vars E b off es u nn ex yu yn ye m c w g h a->Yx P E.lo E.base u nn ex l (g,h)=some s'->
  (∀m' c' w' a',Pend vars E b off es u nn ex yu yn ye m' c' w' s'.1 s'.2 a'->Q .normal a' w')->wpList P ops Q l a w
 |[],m,c,w,g,h,a,s',hO,hP,he,hQ=>by simp[Yx]at he
 |o::l,m,c,w,g,h,a,s',hO,hP,he,hQ=>by
  obtain⟨hgd,y,w',g',h',hdo,hP',_,_,h1,h2,_⟩:=Jfo (hO o (by simp)) hP he
  refine wpList_step λK hK=>?_
  have hwant:Bv o (yielded ops a.tmps)=true:=by simp[Bv,hgd]
  rw[if_pos hwant];refine hdo.wp (hK _ _ ?_)
  cases l with
  |nil=>
   have:=h1 rfl;subst this
   exact wpList_nil (hQ m c _ _ hP')
  |cons q l=>exact JSn (q::l) m c w' g' h' _ s' (λo' ho'=>hO o' (AX _ ho')) hP' (h2 (by simp)) hQ
theorem JKy{v:V}{x:Value}(hp:ki v=true)(h:VR1 m c w v x):VP c w v x:=by
 cases v with
 |v y=>
  have h':x=y:=h;subst h'
  exact .v _ (by simpa[ki]using hp)
 |list k r=>exact h
 |_=>simp[ki]at hp
theorem JB3(v:V):cellsV (fzs v)=(cellsV v).map fz:=by cases v<;>rfl
theorem GX{a:Act}{d:Nat}{y:Value}(h:d<a.tmps.size):(a.put (some d) y).eval (.tmp d)=y:=by simp[Act.eval,Act.put,Li,h]
theorem zo(u:Nat)(r:List (List V))(g:Jl):NT (put (some u) (.list .yes r) (Lift.untag g)):=by
 refine⟨λt u' r' e=>?_,λt i j r' e=>?_⟩
 ·rw[show put (some u) (V.list .yes r) (Lift.untag g)=ins u (V.list .yes r) (Lift.untag g)from rfl,look_ins]at e
  split at e
  ·cases e
  ·exact WV t u' r' e
 ·rw[show put (some u) (V.list .yes r) (Lift.untag g)=ins u (V.list .yes r) (Lift.untag g)from rfl,look_ins]at e
  split at e
  ·cases e
  ·exact WW t i j r' e
theorem NT.forget(hn:NT g)(d:Nat):NT (Lift.ins d .undef g):=by
 refine⟨λt u' r' e=>?_,λt i j r' e=>?_⟩
 ·rw[look_ins]at e
  split at e
  ·cases e
  ·exact hn.1 t u' r' e
 ·rw[look_ins]at e
  split at e
  ·cases e
  ·exact hn.2 t i j r' e
theorem InvP.forget(hI:InvP vars E m c w g h a){d:Nat}(hn:NT g):InvP vars E m c w (Lift.ins d .undef g) h a:=by
 refine hI.weak (λt=>?_) (hn.forget d).1 (hn.forget d).2
 rw[look_ins]
 split
 ·exact .inr (.inl rfl)
 ·exact .inl rfl
structure Two(P:Program)(vars:List Nat)(E:Entry)(b off:Nat)(es:List Value)(u nn ex d1:Nat)(yu yn ye y1:Value)(mid:List Oper)(s2:St)(p j:Nat)(a:Act)(w:World):Prop where
 it:∃m c g h,Pend vars E b off es u nn ex yu yn ye m c w g h a/\NT g/\look g d1= .undef/\(mid.drop j=[]->(g,h)=s2)/\(mid.drop j≠[]->Yx P E.lo E.base u nn ex (mid.drop j) (g,h)=some s2)
 one:p=1->a.eval (.tmp d1)=y1
 two:p=2->w.setCells b off es=w
theorem JWL{b off u nn ex d1 k:Nat}{es:List Value}{yu yn ye y1:Value}{ops:Array Oper}{mid:List Oper}{s2:St}{o1 o2:Oper}{Q:Exit->Act->World->Prop}(hk:ops.toList.drop (k+1)=o1::o2::mid)
  (hdx:d1≠ex)(hdu:d1≠u)(hdn:d1≠nn)(hdst1:o1.dst=some d1)(hd2:o2.dst=none)(hg1:o1.guard=none)(hg2:o2.guard=none)(hd1:d1<E.nt)(hd1v:d1∉vars)(hmd:∀o∈mid,o.dst≠some d1)
  (hmo:∀o∈mid,(∀t,o.dst=some t->t<E.nt)/\((∃x,o.op= .assign x)\/ ∀t,o.dst=some t->t∉vars))
  (h1:∀(w:World) (a:Act),a.eval (.tmp u)=yu->a.eval (.tmp nn)=yn->Does P w a o1 y1 w)(h2:∀(w:World) (a:Act),a.eval (.tmp d1)=y1->a.eval (.tmp ex)=ye->(∃arr ty,w.heap[b]? =some (.cells arr ty (0,0))/\off+es.length<=arr.size)->Does P w a o2 undef (w.setCells b off es))
  (hQ:∀m' c' w' a',NT s2.1->InvP vars E m' c' w' s2.1 s2.2 a'->Q .normal a' w'):
  ∀(f p j:Nat) (listed:Array Bool) (a:Act) (w:World),twoB ops k mid.length f p j listed=true->p<=2->j<=mid.length->Two P vars E b off es u nn ex d1 yu yn ye y1 mid s2 p j a w->wpAny P .any ops Q f listed a w:=by
 have hat:∀i,ops[k+1+i]? =(o1::o2::mid)[i]? :=λi=>by
  rw[<-hk,Bg]
  simp
 intro f
 induction f with
 |zero=>
  intro p j listed a w hb hp hj hT;simp only[twoB,Af,beq_iff_eq,List.isEmpty_iff]at hb;obtain⟨⟨rfl,rfl⟩,hr⟩:=hb;obtain⟨m,c,g,h,hP,hn,_,he,_⟩:=hT.it;have:=he (by simp)
  subst this;have hI:=hP.inv;rw[hT.two rfl]at hI
  exact⟨hr,hQ m c w a hn hI⟩
 |succ f ih=>
  intro p j listed a w hb hp hj hT;simp only[twoB,Af,AU,BX,Ak,decide_eq_true_eq,beq_iff_eq,List.isEmpty_eq_false_iff]at hb;obtain⟨⟨⟨hne,hall⟩,hbp⟩,hbj⟩:=hb;refine⟨λe=>absurd e hne,λi hi=>?_⟩
  obtain⟨m,c,g,h,hP,hn,hu,he0,he1⟩:=hT.it;rcases hall i hi with⟨rfl,hp2⟩|⟨rfl,hjm⟩
  ·have hb':=hbp.resolve_left om
   unfold wpOp;have hp01:p=0\/p=1:=om;rcases hp01 with rfl|rfl
   ·rw[show k+1+0=k+1+0 from rfl,hat 0]
    simp only[BC]
    rw[if_pos (by simp[Bv,hg1])]
    refine .inl ((h1 w a hP.su hP.sn).wp (ih 1 j _ _ _ hb' om hj ⟨⟨m,c,g,h,⟨?_,hP.blk,hP.nm,?_,?_,?_⟩,hn,hu,he0,he1⟩,λ_=>?_,λe=>by omega⟩))
    ·rw[hdst1]
     refine(hP.inv.put (d:=some d1) (v:= .undef) (x:=y1) (λt e=>by cases e;exact hd1) trivial (TagOK.bare rfl) (.inl λt e=>by cases e;exact hd1v)).weak (λt=> .inl ?_) hn.1 hn.2
     show look g t=look (ins d1 .undef g) t
     rw[look_ins]
     split
     ·rename_i e;rw[e,hu]
     ·rfl
    ·rw[hdst1];exact(Ke hdu).trans hP.su
    ·rw[hdst1];exact(Ke hdn).trans hP.sn
    ·rw[hdst1];exact(Ke hdx).trans hP.se
    ·rw[hdst1];exact GX (by rw[hP.inv.nt];exact hd1)
   ·rw[hat 1]
    simp only[Cf,BC]
    rw[if_pos (by simp[Bv,hg2])]
    obtain⟨arr,ty,hb0,hf0⟩:=hP.blk;refine .inl ((h2 w a (hT.one rfl) hP.se hP.blk).wp (ih 2 j _ _ _ hb' om hj ⟨⟨m,c,g,h,⟨?_,?_,hP.nm,?_,?_,?_⟩,hn,hu,he0,he1⟩,λe=>by omega,λ_=>Gl hb0 hf0 rfl⟩))
    ·rw[Gl hb0 hf0 rfl,hd2]
     exact hP.inv
    ·obtain⟨a1,a2,a3,a4,a5,ar,a6,a7⟩:=Jp b es off w arr ty (0,0) hb0 hf0
     have hs:ar.size=arr.size:=by have:=congrArg Bq a7;simp only[Ao,Az,AB,AJ]at this;omega
     exact⟨ar,ty,a6,om⟩
    ·rw[hd2];exact hP.su
    ·rw[hd2];exact hP.sn
    ·rw[hd2];exact hP.se
  ·have hb':=hbj.resolve_left om
   obtain⟨o,ho⟩:∃o,mid[j]? =some o:=⟨mid[j],Ac hjm⟩
   have hcut:mid.drop j=o::mid.drop (j+1):=by
    rw[List.drop_eq_getElem_cons hjm];rw[Ac hjm]at ho
    cases ho;rfl
   have hom:o∈mid:=Aj ho;have hev:=he1 (by rw[hcut];simp)
   rw[hcut]at hev;obtain⟨hgd,y,w',g',h',hdo,hP',hn',hu',e0,e1,hsame⟩:=Jfo (hmo o hom) hP hev;unfold wpOp;rw[show k+3+j=k+1+(j+2)by omega,hat (j+2)]
   simp only[Cf]
   rw[ho];simp only;rw[if_pos (by simp[Bv,hgd])]
   rw[show k+1+(j+2)=k+3+j by omega]
   refine .inl (hdo.wp (ih p (j+1) _ _ _ hb' hp om ⟨⟨m,c,g',h',hP',hn' hn,hu' d1 hu (hmd o hom) hdu,e0,e1⟩,λe=>?_,λe=>hsame (hT.two e)⟩))
   have h3:=hT.one e
   cases hd:o.dst with
   |none=>exact h3
   |some t=>exact(Ke (λe=>hmd o hom (by rw[hd,e]))).trans h3
theorem JZm{cx:Cx}(hX:CxOK cx E){ops:Array Oper}(hO:W4 cx E ops.toList){mx:Mix}{k n:Nat}{listed:Array Bool}(hI:InvP cx.hint.vars E m c w g h a)(hok:JD9 mx ops k n listed=true){r:St}(he:JBg cx.P cx.lo cx.base k ops (g,h)=some r){Q:Exit->Act->World->Prop}:
  ∃g2,r.1=Lift.untag g2/\((∀m' c' w' a',InvP cx.hint.vars E m' c' w' g2 r.2 a'->Q .normal a' w')->wpAny cx.P .any ops Q n listed a w):=by
 simp only[JD9,Af,beq_iff_eq,decide_eq_true_eq,BX]at hok;obtain⟨⟨⟨⟨⟨⟨hready,_⟩,_⟩,hsz3⟩,hn⟩,hmd0⟩,hrun⟩:=hok;unfold JBg at he
 split at he
 case h_2=>cases he
 rename_i p1 p2 mid hdrop
 have hat:∀i,ops[k+1+i]? =(p1::p2::mid)[i]? :=λi=>by
  rw[<-hdrop,Bg]
  simp
 have hml:mid.length=ops.size-(k+3):=by have:=congrArg Bq hdrop;simp only[AB,AJ,List.length_cons]at this;omega
 have hmid3:ops.toList.drop (k+3)=mid:=by
  rw[show k+3=(k+1)+2 by omega,<-AY,hdrop]<;>rfl
 have htk:(ops.toList.take (k+1)).length=k+1:=by simp;omega
 unfold evLate1 at he
 split at he
 ·rename_i o o1 o2 hok hl'
  simp only[List.cons.injEq,and_true]at hl';obtain⟨rfl,rfl⟩:=hl'
  have hok:ops[k]? =some o:=by
   rw[B0,Bd om,AH,if_pos om]at hok
   simpa using hok
  have hdk:(ops.toList.take (k+1)++mid).toArray.toList.drop (k+1)=mid:=by
   show(ops.toList.take (k+1)++mid).drop (k+1)=mid
   rw[List.drop_append_of_le_length om,AZ om]<;>rfl
  rw[hdk]at he
  split at he
  ·rename_i cl u tt u1 nn d1 t2 d2 ex hop hdst hop1 hdst1 hop2
   split at he
   ·rename_i x y e0 du e hcal hargs htys htt
    split at he
    ·rename_i hcond
     obtain⟨rfl,rfl,rfl,hdx,hdu,hdn,hun,hux,hg0,hg1,hg2,hd2,hts2,hi2,hie,hks⟩:=hcond;rw[Dq]at hg0 hg1 hg2 hd2
     split at he
     ·rename_i r0 g1 h1' z kk nlen how hrows hnn
      split at he
      ·rename_i hc
       obtain⟨rfl,hpart,hlen,hpure,hsto,htz,hsz,hall,hby,hlen2,hnot,hbyt⟩:=hc
       split at he
       ·rename_i s2 hmid
        simp only[W3,lives,Ah]at he;subst he;refine⟨_,rfl,λhQ=>?_⟩
        rw[hX.lo]at how hmid;rw[hX.base]at hmid;have hv:=hI.core.opd (.tmp ex);have hrel0:=Q7 (v:=look g ex) hv hpart
        have hrel1:R2 (VR1 m c w) (cellsV (fzs (look g ex))) (a.eval (.tmp ex)).cells.toList:=by rw[JB3];simpa using hrel0.map (g:=id) λ_ _=>VR1.fz
        have hes:(a.eval (.tmp ex)).cells.toList.length=JH cx.P e:=by rw[<-hrel1.1];exact hlen
        have hone:∀y∈(a.eval (.tmp ex)).cells.toList,y.oneCell'=true:=λy hy=>by
         obtain⟨j,hj,rfl⟩:=AV hy;have hj':j<(cellsV (look g ex)).length:=by rw[hrel0.1];exact hj
         exact KW (hrel0.2 j _ _ (Ac hj') (Ac hj)) (Ak.1 hsto _ (AW hj'))
        have hoo:=hO o (CT.2 (C8 hok))
        have hnv:∀t,o.dst=some t->t∉cx.hint.vars:=by
         rcases hoo.2 with⟨x,hx⟩|h'
         ·rw[hop]at hx;cases hx
         ·exact h'
        obtain⟨b,cap,wz,c',arr,ty,hdo,hinv,hblk,hsize,hnm⟩:=JAj hI hop hcal hargs htys how hrows ⟨htz,hsz,hall,hby,hlen2,hnot,hbyt⟩ hlen hes (λj v hj=>by
         obtain⟨x,hx,hvx⟩:=hrel1.get hj
         exact⟨x,hx,JKy (Ak.1 hpure _ (Aj hj)) hvx⟩) hoo.1 hnv
        have hua:u1<a.tmps.size:=by rw[hI.nt];exact hoo.1 u1 hdst
        have hnv0:a.eval (.tmp nn)= .int kk r0.length:=by
         have:=hI.core.opd (.tmp nn);rw[show opd g (.tmp nn)=look g nn from rfl,hnn]at this
         exact this
        have ho1:=hO p1 (BL (i:=k+1) (by rw[hdrop];simp))
        have hd1:d2<E.nt:=ho1.1 d2 hdst1
        have hd1v:d2∉cx.hint.vars:=by
         rcases ho1.2 with⟨x,hx⟩|h'
         ·rw[hop1]at hx;cases hx
         ·exact h' d2 hdst1
        have hmd:∀o∈mid,o.dst≠some d2:=by
         have e0:ops[k+1]? =some p1:=by rw[show k+1=k+1+0 from rfl,hat 0]<;>rfl
         rw[e0]at hmd0;simp only[hdst1,Ak,bne_iff_ne,hmid3]at hmd0;exact hmd0
        rw[hn,show ops.size-k=(ops.size-(k+1))+1 by omega]
        refine⟨λe0=>(by rw[hready]at e0;cases e0),λi hi=>?_⟩
        rw[hready]at hi;have hik:i=k:=by simpa using hi
        subst hik;unfold wpOp;rw[hok];simp only;rw[if_pos (by simp[Bv,hg0])]
        refine .inl (hdo.wp ?_)
        rw[hdst]at hinv⊢;obtain⟨ie2,hie2⟩:=A7.1 hi2
        have hsz2:(a.eval (.tmp ex)).cells.size=ie2.size:=by
         have h3:=JY hie2;have h4:(a.eval (.tmp ex)).cells.size=(a.eval (.tmp ex)).cells.toList.length:=by simp
         rw[h4,hes,<-hts2,h3]
        refine JWL (P:=cx.P) (vars:=cx.hint.vars) (E:=E) (b:=b) (off:=r0.length*JH cx.P e) (es:=(a.eval (.tmp ex)).cells.toList) (u:=u1) (nn:=nn) (ex:=ex) (d1:=d2) (yu:= .slice (some ⟨b,0,none⟩) (r0.length+1) cap) (yn:= .int kk r0.length) (ye:=a.eval (.tmp ex)) (y1:= .pointer (some ⟨b,r0.length*JH cx.P e,none⟩)) (s2:=s2)
         hdrop hdx hdu hdn hdst1 hd2 hg1 hg2 hd1 hd1v hmd (λo' ho'=>hO o' (BL (i:=i+3) (by rw[hmid3];exact ho'))) (λw a hu hn=> .inl (JKx hop1 htt hie hu hn w)) (λw0 a0 ha1 ha2 hb=>?_) ?_ _ 0 0 _ _ _ (by rw[hml];exact hrun) om om ⟨⟨m,c',_,h1',⟨?_,⟨arr,ty,hblk,by rw[hes];rw[A6,Dj]at hsize;exact hsize⟩,hnm,GX hua,(Ke hun).trans hnv0,Ke hux⟩,?_,?_,λe0=>?_,λ_=>hmid⟩,λe0=>by omega,λe0=>by omega⟩
        ·obtain⟨arr2,ty2,hb2,hf2⟩:=hb
         have hrun:=run_storeCells_cells (P:=cx.P) b (r0.length*JH cx.P e) (a.eval (.tmp ex)).cells.toList 0 w0 (λj hj=>by
          rw[J1 hb2];simp only[A7]
          exact⟨_,BE om⟩) (λj hj=>by
          simp[BN,hb2]) hone
         rw[Bo]at hrun;refine .inr ⟨?_,rfl⟩
         generalize a.eval (.tmp ex)=ye at*;simp[execOp,hop2,Instr.storeAt,ha1,ha2,Instr.sureAddr,storeVar,sizeOf,typeInfo,hie2,hsz2,hrun]
        ·intro m' c2 w' a' hnt hI2
         exact hQ m' c2 w' a' (hI2.forget hnt)
        ·exact hinv.forget (zo _ _ _)
        ·exact(zo _ _ _).forget d2
        ·rw[look_ins,if_pos rfl]
        ·rw[show mid.drop 0=mid from rfl]at e0
         rw[e0]at hmid;simp[Yx]at hmid
       ·cases he
      ·cases he
     ·cases he
    ·cases he
   ·cases he
  ·cases he
 ·cases he
end
theorem JGX{place:Nat->Option (Nat×Nat)}{i off:Nat}{y:Value}(hp:place i=some (off,1))(hy:y.cells= #[y]):∀(init:List (Nat×Value)) (zs us:Array Value),
  Instr.fill place zs (init++[(i,y)])=some us->us[off]? =some y
 |[],zs,us,h=>by
  simp only[Au,Instr.fill,hp,hy]at h
  split at h
  ·cases h
  ·rename_i hc
   simp only[Ah]at h;subst h;simp only[ne_eq,AU,decide_eq_true_eq,not_or,Nat.not_lt]at hc;have h2:=hc.2;simp at h2;simp[Array.zipIdx,Array.getElem?_setIfInBounds]
   omega
 |(j,z)::init,zs,us,h=>by
  simp only[AA,Instr.fill]at h
  split at h
  ·cases h
  ·split at h
   ·cases h
   ·exact JGX hp hy init _ us h
section
variable{vars:List Nat}{m:List Nat}{c:Cl}{w:World}{g:Jl}{h:JG}{a:Act}{E:Entry}{cx:Cx}{P:Program}
theorem JNC(hC:Core vars m c w g h a){o:Oper}{t:TypeId}{parts:Array (Nat×Operand)}(ho:o.op= .build t parts){ds:List V}(hv:Jd P vars (g,h) (.build t parts)=some (.agg ds))
  {i off:Nat}{et:TypeId}{x:Operand}(hl:parts.toList.getLast? =some (i,x))(hf:JT P t i=some (off,et))(ht:JH P et=1)(hx:(a.eval x).cells= #[a.eval x]):
  ∃ys:Array Value,Qk P w a o (.agg ys)/\R2 (VR1 m c w) ds ys.toList/\ys[off]? =some (a.eval x):=by
 simp only[Jd]at hv
 split at hv
 ·cases hv
 ·rename_i z hz
  obtain⟨zv,hzv,rfl⟩:=WU (w:=w) hz
  have hparts:R2 (λ(p:Nat×V) (q:Nat×Value)=>p.1=q.1/\VRr m c w p.2 q.2) (parts.toList.map λp=>(p.1,opd g p.2)) (parts.map λ(i,x)=>(i,a.eval x)).toList:=by
   refine⟨by simp,λi u y hu hy=>?_⟩
   simp only[BF,An,Ag]at hu hy
   obtain⟨p,hp,rfl⟩:=hu;obtain⟨q,hq,rfl⟩:=hy;rw[hp]at hq;cases hq;exact⟨rfl,hC.opd _⟩
  have hlist:∃init,(parts.map λ(i,x)=>(i,a.eval x)).toList=init++[(i,a.eval x)]:=by
   obtain⟨init,hi⟩:=List.getLast?_eq_some_iff.1 hl
   refine⟨init.map λ(i,x)=>(i,a.eval x),?_⟩
   rw[BF,hi];simp
  obtain⟨init,hlist⟩:=hlist
  split at hv
  ·rename_i fs hu
   split at hv
   ·rename_i hok
    simp only[Ag]at hv;obtain⟨ds',hds,hde⟩:=hv;cases hde
    have hall:∀f∈fs.toList,∃i,P.info? f.type=some i:=by intro f hf;unfold structOk tfields at hok;simp only[hu,List.all_map,Ak]at hok;exact A7.1 (hok f hf)
    have hm:=JBo fs.toList hall (w:=w);rw[BV]at hm
    have hplace:(λi=>(JT P t i).map λp=>(p.1,JH P p.2))=λi=>(fs.toList.map λf=>(f.offset,JH P f.type)).toArray[i]? :=by
     funext i
     unfold JT tfields;simp only[hu];simp only[An,Option.map_map,B0]
     rfl
    have hpl:(λi=>(fs.toList.map λf=>(f.offset,JH P f.type)).toArray[i]?) i=some (off,1):=by rw[<-hplace];simp only[hf,AK,ht]
    rw[hplace]at hds;obtain⟨ys,hys,hr⟩:=GU _ _ _ zv.cells ds hparts (YC zv) hds;refine⟨ys,Jf (by simp[execOp,ho];rfl) ?_,hr,?_⟩
    ·unfold Instr.build
     simp only[Bm,hzv,Bc,run_underlying hu,hm,hys];rfl
    ·rw[hlist]at hys
     exact JGX hpl hx init _ _ hys
   ·cases hv
  ·rename_i n e hu
   unfold JT tfields at hf;simp[hu]at hf
  ·cases hv
theorem JWM{ds:List V}(h:ds.all JJH=true):∀r,V.list .yes r∉ds:=λr hr=>by have:=Ak.1 h _ hr;cases this
theorem JND(hI:InvP vars E m c w g h a){o:Oper}{t:TypeId}{p x:Operand}{i j tA:Nat}{cs ds:List V}{r:List (List V)}{ys:Array Value}(ho:o.op= .store t p x)(hp:opd g p= .ptr i 0)(hcs:cellsOfOb h i=some cs)
  (hx:opd g x= .agg ds)(hxa:a.eval x= .agg ys)(hA:look g tA= .list .yes r)(hj:ys[j]? =some (a.eval (.tmp tA)))(c0:E.lo<=i)(cb:E.base<=i)(c1:cs.length=JH P t)(c2:ds.length=JH P t)(c3:(P.info? t).isSome)
  (c4:ds.all Qs=true)(c5:ds.all JJH=true)(c6:yJ ((ds.map own1).set j (.list .yes r))=true)(hd:∀t,o.dst=some t->t<E.nt):
  Done P vars E w a o (.v undef) (Lift.untag (Lift.ins tA (.list .no r) g)) (Lift.setOb h i ((ds.map own1).set j (.list .yes r))):=by
 obtain⟨gb,hm,hpv⟩:=(by have:=hI.core.opd p;rw[hp]at this;exact this:∃gb,m[i]? =some gb/\a.eval p= .pointer (some ⟨gb,0,none⟩))
 obtain⟨ie,hie⟩:=A7.1 c3
 have hrel:R2 (VR1 m c w) ds ys.toList:=by have h1:=hI.core.opd x;rw[hx]at h1;obtain⟨xs,he,hr⟩:=(h1:∃xs:Array Value,a.eval x= .agg xs/\R2 (VR1 m c w) ds xs.toList);rw[hxa]at he;cases he;exact hr
 have hv:VP c w (.list .yes r) (a.eval (.tmp tA)):=by have h1:=hI.core.env tA;rw[hA]at h1;exact h1
 have hat:At m w g h a (.slot tA) r (a.eval (.tmp tA)):=⟨hA,rfl⟩
 have hone:∀y∈ys.toList,y.oneCell'=true:=λy hy=>by
  obtain⟨k,hk,rfl⟩:=AV hy;have hk':k<ds.length:=by rw[hrel.1];exact hk
  exact KW (hrel.2 k _ _ (Ac hk') (Ac hk)) (Ak.1 c4 _ (AW hk'))
 obtain⟨hrel1,hno⟩:=YG hrel (JWM c5);have hjl:ys.toList[j]? =some (a.eval (.tmp tA)):=by simpa using hj
 have hrel2:R2 (VR1 m c w) ((ds.map own1).set j (.list .yes r)) ys.toList:=by
  refine⟨by simpa using hrel.1,λn u y hu hy=>?_⟩
  rw[Br]at hu
  split at hu
  ·rename_i hjn
   subst hjn
   split at hu
   ·cases hu
    rw[hjl]at hy;cases hy;exact hv
   ·cases hu
  ·exact hrel1.2 n u y hu hy
 have hlen:((ds.map own1).set j (.list .yes r)).length=JH P t:=by simpa using c2
 have hjd:j<ds.length:=by rw[hrel.1];exact(Ab.1 hjl).1
 have hI1:=hI.release hA
 obtain⟨hI',hst⟩:=Yc (P:=P) (vs:=(ds.map own1).set j (.list .yes r)) (ys:=ys.toList) (off:=0) hI1 j hcs hm c0 (by rw[hlen,c1];omega) hrel2 hone (λn q y hn hy=>by
  rw[Br]at hn
  split at hn
  ·rename_i hjn
   subst hjn
   split at hn
   ·cases hn
    rw[hjl]at hy;cases hy;refine .inr ⟨om,hI.core.own _ _ _ hat,λl r' x' b hl' hb hb'=>?_,λb hb=>hI.owned _ _ _ b hat trivial hb⟩
    obtain⟨n1,hl''⟩:=Zy hl';exact n1 (hI.core.uniq l _ r' _ x' _ b hl'' hat hb' hb)
   ·cases hn
  ·obtain⟨k1,k2⟩:=hno n q hn
   rw[hy]at k2
   exact .inl ⟨k1,Bh k2⟩) (.inl ⟨B9 _,by rw[hlen,<-c2];omega⟩) (λt i j r=>WW t i j r) (λhib=>by omega) c6
 rw[hlen]at hI'
 have hcut:cs.take 0++(ds.map own1).set j (.list .yes r)++cs.drop (0+JH P t)=(ds.map own1).set j (.list .yes r):=by rw[List.take_zero,Au,AZ om,AE]
 rw[hcut]at hI'
 have hdo:Does P w a o undef (w.setCells gb 0 ys.toList):=by
  refine .inr ⟨?_,rfl⟩
  have hsz:ys.size=ie.size:=by have:=hrel.1;rw[<-JY hie];simp at this;omega
  have hcl:(a.eval x).cells=ys:=by rw[hxa]<;>rfl
  simp[execOp,ho,Instr.storeAt,hpv,Instr.sureAddr,storeVar,sizeOf,typeInfo,hie,hcl,hsz,hst]
 exact⟨_,_,m,c,hdo,hI'.putBare hd rfl rfl (.inr λt u r=>WV t u r)⟩
theorem act_ne{a:Act}{d t:Nat}{y:Value}(h:d≠t):(a.put (some d) y).eval (.tmp t)=a.eval (.tmp t):=by simp[Act.eval,Act.put,B5,Cs h]
theorem act_eq{a:Act}{d:Nat}{y:Value}(h:d<a.tmps.size):(a.put (some d) y).eval (.tmp d)=y:=by simp[Act.eval,Act.put,Li,h]
theorem JSo(hX:CxOK cx E){ops:Array Oper}{k:Nat}(hO:W4 cx E ops.toList)(hI:InvP cx.hint.vars E m c w g h a){s':St}(he:jj cx ops k (g,h)=some s'){Q:Exit->Act->World->Prop}
  (hQ:∀m' c' w' a',InvP cx.hint.vars E m' c' w' s'.1 s'.2 a'->Q .normal a' w'):wpList cx.P ops Q (ops.toList.drop k) a w:=by
 unfold jj at he
 split at he
 ·rename_i _ _ _ tB T parts y1 p1 a1 tC T1 y2 p2 a2 T2 u1 u2 y3 p3 a3 hB hC hD
  split at he
  ·rename_i _ i tA hl
   split at he
   ·rename_i _ _ _ _ off et r z ds hf hA hz hb
    split at he
    ·rename_i hc
     obtain⟨⟨rfl,rfl,rfl,rfl,n1,n2,n3⟩,⟨e1,e2,e3,e4,e5⟩,hall,b1,b2,hk⟩:=hc;simp only[Ah]at he;subst he;simp only[Af]at hall;obtain⟨d1,d2,d3,d4,d5⟩:=hall;rw[hX.base]at b1;rw[hX.lo]at b2
     have hdrop:ops.toList.drop k=[⟨some u2,.build T2 parts,y1,p1,a1,none⟩,⟨some u1,.alloc T2,y2,p2,a2,none⟩,⟨none,.store T2 (.tmp u1) (.tmp u2),y3,p3,a3,none⟩]:=by
      apply C5;intro n;rw[Bg,Bk]
      match n with
      |0=>exact hB
      |1=>exact hC
      |2=>exact hD
      |n+3=>
       rw[Array.getElem?_eq_none om]<;>rfl
     have hmem:∀o∈ops.toList.drop k,o∈ops.toList:=λo ho=>BL ho
     rw[hdrop]at hmem⊢;have oB:=hO _ (hmem _ (Bj ..));have oC:=hO _ (hmem _ (AX _ (Bj ..)));have oD:=hO _ (hmem _ (AX _ (AX _ (Bj ..))));have vB:=YH (by rfl) oB.2
     have vC:=YH (by rfl) oC.2
     have hv:VP c w (.list .yes r) (a.eval (.tmp tA)):=by have h1:=hI.core.env tA;simp only at hA;rw[hA]at h1;exact h1
     have hcell:(a.eval (.tmp tA)).cells= #[a.eval (.tmp tA)]:=by generalize a.eval (.tmp tA)=x at hv;cases hv<;>rfl
     obtain⟨ys,hy,hr,hyo⟩:=JNC (o:=⟨some u2,.build T2 parts,y1,p1,a1,none⟩) hI.core rfl hb hl hf e1 hcell;have hI1:=hI.putBare (d:=some u2) (v:= .agg ds) (x:= .agg ys) oB.1 ⟨ys,rfl,hr⟩ rfl (.inl vB);refine wpList_step λK hK=>?_
     rw[if_pos (by simp[Bv])]
     refine(show Does cx.P w a _ _ w from .inl hy).wp (hK _ _ ?_)
     obtain⟨x,w2,m2,c2,hdo,hI2⟩:=JGN (P:=cx.P) (o:=⟨some u1,.alloc T2,y2,p2,a2,none⟩) hI1 rfl hz d4 d5 oC.1 vC;refine wpList_step λK hK=>?_
     rw[if_pos (by simp[Bv])]
     refine hdo.wp (hK _ _ ?_)
     have hsz:(a.put (some u2) (.agg ys)).tmps.size=a.tmps.size:=by simp[Act.put]
     have hu2:u2<a.tmps.size:=by rw[hI.nt];exact oB.1 _ rfl
     have hst:=JND (P:=cx.P) (o:=⟨none,.store T2 (.tmp u1) (.tmp u2),y3,p3,a3,none⟩) (p:= .tmp u1) (x:= .tmp u2) (i:=h.length) (j:=off) (tA:=tA) (cs:=(z.map Kd).map own1) (ds:=ds) (r:=r) (ys:=ys) hI2 rfl
      (by show look (ins u1 _ _) u1=_;rw[look_ins,if_pos rfl])
      (by unfold cellsOfOb;rw[Bb (Ad _),Db]<;>rfl)
      (by show look (ins u1 _ (ins u2 _ g)) u2=_;rw[look_ins,if_neg (by intro e;first|exact n1 e|exact n1 e.symm|exact n2 e|exact n2 e.symm|exact n3 e|exact n3 e.symm),look_ins,if_pos rfl])
      (by rw[act_ne (by intro e;first|exact n1 e|exact n1 e.symm|exact n2 e|exact n2 e.symm|exact n3 e|exact n3 e.symm)];exact act_eq hu2)
      (by show look (ins u1 _ (ins u2 _ g)) tA=_;rw[look_ins,if_neg (by intro e;first|exact n1 e|exact n1 e.symm|exact n2 e|exact n2 e.symm|exact n3 e|exact n3 e.symm),look_ins,if_neg (by intro e;first|exact n1 e|exact n1 e.symm|exact n2 e|exact n2 e.symm|exact n3 e|exact n3 e.symm)];exact hA)
      (by rw[act_ne (by intro e;first|exact n1 e|exact n1 e.symm|exact n2 e|exact n2 e.symm|exact n3 e|exact n3 e.symm),act_ne (by intro e;first|exact n1 e|exact n1 e.symm|exact n2 e|exact n2 e.symm|exact n3 e|exact n3 e.symm)];exact hyo) b2 b1 (by simpa using e4) e3 e5 d1 d2 d3 oD.1
     obtain⟨x3,w3,m3,c3,hdo3,hI3⟩:=hst;refine wpList_step λK hK=>?_
     rw[if_pos (by simp[Bv])]
     refine hdo3.wp (hK _ _ ?_)
     refine hQ m3 c3 w3 _ ?_
     have hh:Lift.setOb (h++[.cells ((z.map Kd).map own1)]) h.length ((ds.map own1).set off (.list .yes r))=h++[.cells ((ds.map own1).set off (.list .yes r))]:=by unfold Lift.setOb;rw[List.set_append_right _ _ (Ad _),Db]<;>rfl
     rw[hh]at hI3;exact hI3
    ·cases he
   ·cases he
  ·cases he
 ·cases he
theorem JB4(hX:CxOK cx E){ops:Array Oper}{Q:Exit->Act->World->Prop}{l2:List Oper}:∀(l:List Oper) (m:List Nat) (c:Cl) (w:World) (g:Jl) (h:JG) (a:Act) (s':St),W4 cx E l->InvP cx.hint.vars E m c w g h a->KL cx ops l (g,h)=some s'->
  (∀m' c' w' a',InvP cx.hint.vars E m' c' w' s'.1 s'.2 a'->wpList cx.P ops Q l2 a' w')->wpList cx.P ops Q (l++l2) a w
 |[],m,c,w,g,h,a,s',_,hI,he,hQ=>by
  simp only[KL,Ah]at he;subst he
  exact hQ m c w a hI
 |o::l,m,c,w,g,h,a,s',hO,hI,he,hQ=>by
  have ho:=hO o (by simp)
  have hO':W4 cx E l:=λo' h'=>hO o' (by simp[h'])
  refine wpList_step λK hK=>?_
  simp only[KL]at he
  split at he
  ·rename_i hw
   rw[Wd hI hw,if_pos rfl]
   split at he
   ·rename_i v g' h' hop
    refine JSh hI hX hop ho.1 ho.2 K Q λx w' m' c' hI'=>hK _ _ ?_
    exact JB4 hX l m' c' w' _ _ _ s' hO' hI' he hQ
   ·cases he
  ·rename_i hw
   rw[Wd hI hw,if_neg (by simp)]
   split at he
   ·cases he
   ·rename_i hna
    exact hK _ _ (JB4 hX l m c w _ _ _ s' hO' (jo hI ho.1 (YH (by simpa using hna) ho.2)) he hQ)
  ·cases he
theorem JWN(hX:CxOK cx E){ops:Array Oper}{t:Option Nat}(hO:W4 cx E ops.toList)(hI:InvP cx.hint.vars E m c w g h a){s':St}(he:Zu cx ops (g,h) t=some s'){Q:Exit->Act->World->Prop}
  (hQ:∀m' c' w' a',InvP cx.hint.vars E m' c' w' s'.1 s'.2 a'->Q .normal a' w'):wpList cx.P ops Q ops.toList a w:=by
 cases t with
 |none=>exact JJX hX ops.toList m c w g h a s' hO hI he hQ
 |some k=>
  simp only[Zu]at he
  split at he
  ·rename_i s1 h1
   rw[<-Co k ops.toList];exact JB4 hX _ m c w g h a s1 (λo ho=>hO o (List.mem_of_mem_take ho)) hI h1 λm' c' w' a' hI'=>JSo hX hO hI' he hQ
  ·cases he
end
section
variable{m:List Nat}{c:Cl}{w:World}{g:Jl}{h:JG}{a:Act}{E:Entry}{cx:Cx}
theorem JWO(hI:InvP cx.hint.vars E m c w g h a)(hX:CxOK cx E){o:Oper}{v:V}(he:Km cx (g,h) o=some v)(hd:∀t,o.dst=some t->t<E.nt)
  (hv:(∃x,o.op= .assign x)\/ ∀t,o.dst=some t->t∉cx.hint.vars):JZl cx E a w o v g h:=by
 unfold Km at he
 split at he
 ·rename_i heff
  generalize hop:o.op=op at he heff
  have hv':(∀x,op≠ .assign x)->∀t,o.dst=some t->t∉cx.hint.vars:=λhne=>by
   rcases hv with⟨x,hx⟩|hv
   ·rw[hop]at hx;exact absurd hx (hne x)
   ·exact hv
  cases op with
  |call k=>
   simp only at he
   split at he
   ·rename_i f hc
    split at he
    ·rename_i fid caps hf
     unfold JAd at he
     split at he
     ·rename_i r h2 hcall
      split at he
      ·rename_i hsm
       cases he;exact λnext Q hn=>JMy hI hop hc hf (hX.call _ _ _ _ _ _ (Ad _) hcall) hsm hd (hv' (λx e=>by cases e)) hn
      ·cases he
     ·cases he
    ·cases he
   ·cases he
  |convert s d x=>
   simp only at he
   split at he
   ·cases he
   ·rename_i hnr
    have hr2:isRow cx.P s d=false:=by rw[Bool.not_eq_true,Bool.or_eq_false_iff]at hnr;exact hnr.2
    simp only[Ag]at he;obtain⟨⟨v',g',h'⟩,hev,rfl⟩:=he;have hs:=jl (P:=cx.P) (by simpa[WC,hr2]using heff)
    simp only[KX,hr2,Al,if_false]at hev
    have hgh:g'=g/\h'=h:=by
     split at hev
     ·split at hev
      ·simp only[Al,if_false,Ah,AG]at hev
       exact⟨hev.2.1.symm,hev.2.2.symm⟩
      ·cases hev
     ·simp only[Ah,AG]at hev
      exact⟨hev.2.1.symm,hev.2.2.symm⟩
     ·cases hev
    obtain⟨rfl,rfl⟩:=hgh
    exact(JAg (mutc:=false) hI hop hs (by simp only[Al,if_false];exact hev) hd (hv' (λx e=>by cases e))).goes
  |buildSlice t n parts=>
   simp only[Ag]at he;obtain⟨⟨v',g',h'⟩,hev,rfl⟩:=he;simp only[KX]at hev
   split at hev
   ·rename_i e hu
    split at hev
    ·rename_i hc
     simp only[Ah,AG]at hev;obtain⟨rfl,rfl,rfl⟩:=hev;exact(jB hI hop hu hc hd (hv' (λx e=>by cases e))).goes
    ·cases hev
   ·cases hev
  |_=>cases he
 ·rename_i heff
  have hna:∀t,o.dst=some t->t∉cx.hint.vars:=by
   rcases hv with⟨x,hx⟩|hv
   ·rw[hx]at heff;exact absurd rfl heff
   ·exact hv
  obtain⟨y,hy,hvr,ht⟩:=JJO hI.core he;intro next Q hn;exact(show Does cx.P w a o y w from .inl hy).wp (hn y w m c (hI.put hd hvr ht (.inl hna)))
theorem JSp(hI:InvP cx.hint.vars E m c w g h a)(hX:CxOK cx E){ops:Array Oper}(hO:W4 cx E ops.toList){i:Nat}{s1:St}(he:opA cx ops i (g,h)=some s1){K:Act->World->Prop}{Q:Exit->Act->World->Prop}
  (hK:∀m' c' w' a',InvP cx.hint.vars E m' c' w' s1.1 s1.2 a'->K a' w'):wpOp cx.P ops Q i K a w:=by
 unfold opA at he;unfold wpOp
 split
 ·rename_i hn
  rw[hn]at he;simp only[Ah]at he;subst he;exact hK m c w a hI
 ·rename_i o ho
  rw[ho]at he;simp only at he;have hoo:=hO o (CT.2 (C8 ho))
  split at he
  ·rename_i hw
   split at he
   ·rename_i v hv
    simp only[Ah]at he;subst he;rw[Wd hI hw,if_pos rfl];exact .inl (JWO hI hX hv hoo.1 hoo.2 _ Q λx w' m' c' hI'=>hK m' c' w' _ hI')
   ·cases he
  ·rename_i hw
   split at he
   ·cases he
   ·rename_i hna
    simp only[Ah]at he;subst he;rw[Wd hI hw,if_neg (by simp)]
    exact hK m c w _ (jo hI hoo.1 (YH (by simpa using hna) hoo.2))
  ·cases he
theorem JJc(hX:CxOK cx E){ops:Array Oper}(hO:W4 cx E ops.toList){md:Dv}{n gg:Nat}{s':St}{Q:Exit->Act->World->Prop}
  (hL:∀listed m c w a,Region.seqB md ops gg n listed=true->InvP cx.hint.vars E m c w s'.1 s'.2 a->wpAny cx.P md ops Q gg listed a w):
  ∀(f:Nat) (listed:Array Bool) (s:St) (m:List Nat) (c:Cl) (w:World) (a:Act),JSi cx md ops n (λlisted' s2=>Region.seqB md ops gg n listed'=true/\s2=s') f listed s->InvP cx.hint.vars E m c w s.1 s.2 a->wpAny cx.P md ops Q (f+gg) listed a w
 |0,listed,s,m,c,w,a,h,hI=>by
  obtain⟨h1,rfl⟩:=h;rw[AC]
  exact hL listed m c w a h1 hI
 |f+1,listed,s,m,c,w,a,h,hI=>by
  rw[show f+1+gg=(f+gg)+1 by omega]
  refine⟨λh0=>absurd h0 h.1,λi hi=>?_⟩
  obtain⟨_,s1,h1,h2⟩:=h.2 i hi;exact JSp (g:=s.1) (h:=s.2) hI hX hO h1 λm' c' w' a' hI'=>JJc hX hO hL f _ s1 m' c' w' a' h2 hI'
theorem yZ{md:Dv}{ops:Array Oper}:∀(f k:Nat) (listed:Array Bool),Region.lexFrom md ops f k listed=Region.lexHead md ops 0 f k listed
 |0,k,listed=>rfl
 |f+1,k,listed=>by simp only[Region.lexFrom,Region.lexHead,yZ f (k+1)]
theorem JB5{md:Dv}(ops:Array Oper)(n:Nat):HeadInv md ops n (Cv ops.size false):=
 ⟨by simp,λj oj _ hl=>(by rw[getD_replicate_false]at hl;cases hl),λt _ ht=>getD_in (by simpa using ht) (getD_replicate_false _ _)⟩
theorem JP9(hX:CxOK cx E)(hm:cx.P.follows .mixedOrders=true){id:Nat}{ops:Array Oper}(hO:W4 cx E ops.toList)(hdr:jg cx.P cx.hint id ops=true)(hI:InvP cx.hint.vars E m c w g h a){s':St}(he:HN cx id ops (g,h)=some s'){Q:Exit->Act->World->Prop}
  (hQ:∀m' c' w' a',InvP cx.hint.vars E m' c' w' s'.1 s'.2 a'->Q .normal a' w'):(Code.region id ops true).wp cx.P Q a w:=by
 have hI0:InvP cx.hint.vars E m c {w with drawn:=w.drawn+1} g h a:=hI.grown (c':=c) none (Ad _) (λb _ _=>⟨rfl,rfl⟩) (λb hb=>by cases hb) (λb hb _ h0=>by rw[hI.core.c_zero hb]at h0;omega) rfl rfl rfl
 unfold HN at he
 split at he
 ·rename_i s1 h1
  refine wp_region_any hm ?_
  unfold jg at hdr
  split at hdr
  ·-- all of them
   rename_i hn;rw[hn]at h1 he;have ht:ops.toList.take ops.size=ops.toList:=List.take_of_length_le (by simp)
   have hdp:ops.toList.drop ops.size=[]:=AZ (by simp)
   rw[ht]at h1;rw[hdp]at he;simp only[KL,Ah]at he;subst he;simp only[Region.lexB,Af]at hdr;have hany:=yX (cx:=cx) (md:= .any) (n:=ops.size) (gg:=0) (s':=s1) (λh0=>absurd h0 (C1 _)) (Ad _) ops.toList 0 _ (g,h) (λj _=>by simp) (by simp) (JB5 ops ops.size) (by rw[<-yZ];simpa using hdr.2) h1
   have:=JJc (Q:=Q) hX hO (λlisted m c w a hs hI'=>by
    refine⟨?_,hQ m c w a hI'⟩
    simpa[Region.seqB]using hs) _ _ (g,h) m c _ a hany hI0
   simpa using this
  ·rename_i hn
   simp only[Region.lexTailB,Af,decide_eq_true_eq]at hdr;obtain⟨⟨⟨⟨hsel,hlt⟩,hs⟩,hc⟩,hlex⟩:=hdr;have htl:(ops.toList.take (Jw cx.P cx.hint id ops)).length=Jw cx.P cx.hint id ops:=by simp;omega
   have hdl:(ops.toList.drop (Jw cx.P cx.hint id ops)).length=ops.size-Jw cx.P cx.hint id ops:=by simp
   have hany:=yX (cx:=cx) (md:= .any) (n:=Jw cx.P cx.hint id ops) (gg:=ops.size-Jw cx.P cx.hint id ops) (s':=s1) (λ_=>⟨hs,hc⟩) (DF hlt) (ops.toList.take (Jw cx.P cx.hint id ops)) 0 _ (g,h)
    (λj hj=>by rw[AH,if_pos om];simp) (by rw[AC,htl]) (JB5 ops _) (by rw[htl];exact hlex) h1
   have:=JJc (Q:=Q) hX hO (λlisted m c w a hsq hI'=>by
    have hw:=JJX hX (ops:=ops) (Q:=Q) (ops.toList.drop (Jw cx.P cx.hint id ops)) m c w s1.1 s1.2 a s' (λo ho=>hO o (BL ho)) hI' he hQ
    have:=wpAny_of_seq (md:= .any) (ops.toList.drop (Jw cx.P cx.hint id ops)) (Jw cx.P cx.hint id ops) listed a w (λj=>by rw[Bg];simp) (by rw[hdl];exact hsq) hw
    rw[hdl]at this
    exact this) _ _ (g,h) m c _ a hany hI0
   rw[htl,show Jw cx.P cx.hint id ops+(ops.size-Jw cx.P cx.hint id ops)=ops.size by omega]at this
   exact this
 ·cases he
theorem qX{l:List Nat}{t:Nat}:look (l.map λu=>(u,look g u)) t=if t∈l then look g t else .undef:=by
 induction l with
 |nil=>rfl
 |cons u l ih=>
  simp only[A2,look,ih,AP];by_cases h:u=t
  ·simp[h]
  ·simp[h,Ne.symm h]
theorem InvP.lives{vars:List Nat}(hI:InvP vars E m c w g h a)(l:Option (List Nat)):InvP vars E m c w (Lift.untag (Lift.lives l g)) h a:=by
 cases l with
 |none=>exact hI.untag
 |some l=>
  have hlk:∀t v,look (Lift.untag (Lift.lives (some l) g)) t=v->v= .undef\/v=Jm (look g t):=λt v hv=>by
   rw[Jy,Lift.lives,qX]at hv
   split at hv
   ·exact .inr hv.symm
   ·exact .inl hv.symm
  have hC:=hI.core
  have hAt:∀{k r x},At m w (Lift.untag (Lift.lives (some l) g)) h a k r x->At m w g h a k r x:=λ{k r x} hl=>by
   cases k with
   |slot t=>
    rcases hlk t _ hl.1 with h1|h1
    ·cases h1
    ·exact⟨Qu.1 h1.symm,hl.2⟩
   |cell i j=>exact hl
  refine⟨⟨hC.wf1,hC.wf2,hC.nd,hC.len,λt=>?_,hC.ob,λk r x hl=>hC.own k r x (hAt hl),λk k' r r' x x' b h1 h2=>hC.uniq k k' r r' x x' b (hAt h1) (hAt h2),λt u r ht=>absurd ht (WV t u r),λt i j r ht=>absurd ht (WW t i j r),hC.gt⟩,
   hI.fr,λk r x b hl hu hb=>hI.owned k r x b (hAt hl) hu hb,hI.hlo,hI.hlen,hI.ml,hI.lole,hI.nt,hI.df,hI.old,hI.ent⟩
  rcases hlk t _ rfl with h1|h1
  ·rw[h1];trivial
  ·rw[h1];exact(hC.env t).untag
theorem JWP(hI:InvP cx.hint.vars E m c w g h a)(hX:CxOK cx E){o:Oper}{s1:St}(he:JBW cx (g,h) o=some s1)(hd:∀t,o.dst=some t->t<E.nt)
  (hv:∀t,o.dst=some t->t∉cx.hint.vars){next:Act->World->Prop}{Q:Exit->Act->World->Prop}
  (hn:∀x w' m' c',InvP cx.hint.vars E m' c' w' s1.1 s1.2 (a.put o.dst x)->next (a.put o.dst x) w'):o.wp cx.P a w next Q:=by
 unfold JBW at he
 split at he
 ·rename_i t ht
  split at he
  ·rename_i v hp
   split at he
   ·rename_i r g1 h1 how
    simp only[Ah]at he;subst he;obtain⟨y,hy,hvr,htag⟩:=JJO hI.core hp;have hI1:=hI.put (d:=some t) (λu e=>hd u (ht.trans e)) hvr htag (.inl λu e=>hv u (ht.trans e))
    rw[hX.lo]at how;obtain⟨hI2,hvp,hob,huq,how2⟩:=HR hI1 how;have hts:t<a.tmps.size:=by rw[hI.nt];exact hd t ht
    have hev:(a.put (some t) y).eval (.tmp t)=y:=by simp[Act.eval,Act.put,Li,hts]
    rw[hev]at hvp hob huq how2;have hI3:=hI2.putOwn (d:=some t) (λu e=>hd u (ht.trans e)) hvp hob huq how2 (.inl λu e=>hv u (ht.trans e))
    have hpp:(a.put (some t) y).put (some t) y=a.put o.dst y:=by rw[ht];simp[Act.put]
    rw[hpp]at hI3;exact(show Does cx.P w a o y w from .inl hy).wp (hn y w m c hI3)
   ·cases he
  ·cases he
 ·cases he
theorem JSq(hI:InvP cx.hint.vars E m c w g h a)(hX:CxOK cx E){mx:Mix}{ops:Array Oper}(hO:W4 cx E ops.toList){i:Nat}{s1:St}(he:Qa cx mx ops i (g,h)=some s1){K:Act->World->Prop}{Q:Exit->Act->World->Prop}
  (hK:∀m' c' w' a',InvP cx.hint.vars E m' c' w' s1.1 s1.2 a'->K a' w'):wpOp cx.P ops Q i K a w:=by
 have he0:=he;unfold Qa at he
 split at he
 ·cases he
 ·rename_i o ho
  have hoo:=hO o (CT.2 (C8 ho))
  split at he
  ·rename_i hh
   rw[Z3 ho hh]at he0;exact JSp hI hX hO he0 hK
  ·split at he
   ·split at he
    ·rename_i hgd
     simp only[Af,Dq,BX]at hgd;unfold wpOp;rw[ho];simp only;have hw:Bv o (yielded ops a.tmps)=true:=by simp[Bv,hgd.1]
     rw[hw,if_pos rfl];refine .inl (JWP hI hX he hoo.1 ?_ λx w' m' c' hI'=>hK m' c' w' _ hI')
     rcases hoo.2 with⟨x,hx⟩|hv
     ·rw[hx]at hgd;exact absurd hgd.2 (by simp[WC])
     ·exact hv
    ·cases he
   ·unfold wpOp
    rw[ho];simp only[KL]at he;simp only
    split at he
    ·rename_i hw
     split at he
     ·rename_i v g' h' hop
      simp only[Ah]at he;subst he;rw[Wd hI hw,if_pos rfl];exact .inl (JSh hI hX hop hoo.1 hoo.2 _ Q λx w' m' c' hI'=>hK m' c' w' _ hI')
     ·cases he
    ·rename_i hw
     split at he
     ·cases he
     ·rename_i hna
      simp only[Ah]at he;subst he;rw[Wd hI hw,if_neg (by simp)]
      exact hK m c w _ (jo hI hoo.1 (YH (by simpa using hna) hoo.2))
    ·cases he
theorem JOd(hX:CxOK cx E){mx:Mix}{ops:Array Oper}(hO:W4 cx E ops.toList){K:St->Prop}{Q:Exit->Act->World->Prop}
  (hQ:∀s m c w a,K s->InvP cx.hint.vars E m c w s.1 s.2 a->Q .normal a w):
  ∀(f:Nat) (listed:Array Bool) (s:St) (m:List Nat) (c:Cl) (w:World) (a:Act),JKv cx mx ops K f listed s->InvP cx.hint.vars E m c w s.1 s.2 a->wpAny cx.P .any ops Q f listed a w
 |0,listed,s,m,c,w,a,h,hI=>⟨h.1,hQ s m c w a h.2 hI⟩
 |f+1,listed,s,m,c,w,a,h,hI=>by
  rcases h with⟨k,r,he,hK,hok⟩|h
  ·obtain⟨g2,hg2,H⟩:=JZm (g:=s.1) (h:=s.2) (Q:=Q) hX hO hI hok he
   refine H λm' c' w' a' hI'=>hQ r m' c' w' a' hK ?_
   rw[hg2];exact hI'.lives none
  refine⟨λh0=>absurd h0 h.1,λi hi=>?_⟩
  obtain⟨s1,h1,h2⟩:=h.2 i hi;exact JSq (g:=s.1) (h:=s.2) hI hX hO h1 λm' c' w' a' hI'=>JOd hX hO hQ f _ s1 m' c' w' a' h2 hI'
theorem JSr{h:JG}{B n:Nat}(hk:((h.drop B).take n).all (okO (B+n))=true){i:Nat}{cs:List V}(hcs:cellsOfOb h i=some cs)(hbi:B<=i)(hin:i<B+n):∀v∈cs,okv (B+n) v=true:=by
 have hcs0:h[i]? =some (.cells cs):=by
  unfold cellsOfOb at hcs
  split at hcs
  ·rename_i h0;cases hcs;exact h0
  ·cases hcs
 have hm:Ob.cells cs∈(h.drop B).take n:=by
  apply Aj (i:=i-B);rw[AH,if_pos om,Bg,show B+(i-B)=i by omega]
  exact hcs0
 have:=Ak.1 hk _ hm;exact Ak.1 this
theorem zp{g:Jl}:∀p∈Lift.untag g,Jm p.2=p.2:=λp hp=>by
 simp only[Lift.untag,AM]at hp;obtain⟨q,_,rfl⟩:=hp
 cases hq:q.2 with
 |list k r=>cases k<;>simp[Jm]
 |_=>simp[Jm]
theorem JWQ{j:Nat}{g:Jl}(h:∀p∈g,Jm p.2=p.2):∀p∈swE j g,Jm p.2=p.2:=λp hp=>by
 simp only[swE,AM]at hp;obtain⟨q,hq,rfl⟩:=hp;have:=h q hq
 cases hv:q.2 with
 |list k r=>rw[hv]at this;exact this
 |_=>simp[swr,swv,swf,swc,Jm]
theorem JGY{g:Jl}(h:∀p∈g,Jm p.2=p.2)(t:Nat):Jm (look g t)=look g t:=by
 induction g with
 |nil=>rfl
 |cons p g ih=>
  obtain⟨k,v⟩:=p;simp only[look]
  split
  ·exact h _ (Bj ..)
  ·exact ih λp hp=>h p (AX _ hp)
theorem JKz{vars:List Nat}(hI:InvP vars E m c w g h a)(hn:∀p∈g,Jm p.2=p.2){n:Nat}{s':St}(he:JBf E.base n (g,h)=some s'):∃m',InvP vars E m' c w s'.1 s'.2 a/\ ∀p∈s'.1,Jm p.2=p.2:=by
 unfold JBf at he
 split at he
 ·rename_i hok
  simp only[Ah]at he;subst he;simp only[Af]at hok;refine⟨_,hI.less (Ck _ _) (λi cs hcs hbi hin=>JSr hok.2 hcs hbi hin) λp hp=>?_,hn⟩
  have h2:=Ak.1 hok.1 p hp;exact⟨h2,hn p hp,λvs e=>by rw[e]at h2;cases h2⟩
 ·cases he
theorem JSs{vars:List Nat}(hI:InvP vars E m c w g h a)(hn:∀p∈g,Jm p.2=p.2){i:Nat}{s':St}(he:swS E.base i (g,h)=some s'):∃m',InvP vars E m' c w s'.1 s'.2 a/\ ∀p∈s'.1,Jm p.2=p.2:=by
 unfold swS at he
 split at he
 ·rename_i hlt
  simp only[Ah]at he;subst he;exact⟨_,hI.swapS (i:=i) hlt (λt i k r e=>by have:=JGY hn t;rw[e]at this;simp[Jm]at this),JWQ hn⟩
 ·cases he
theorem JB6{vars:List Nat}(hI:InvP vars E m c w g h a)(hn:∀p∈g,Jm p.2=p.2){k:Option Nat}{s':St}(he:W3 E.base k (g,h)=some s'):∃m',InvP vars E m' c w s'.1 s'.2 a/\ ∀p∈s'.1,Jm p.2=p.2:=by
 unfold W3 at he
 split at he
 ·simp only[Ah]at he
  subst he;exact⟨m,hI,hn⟩
 ·rename_i n
  split at he
  ·exact JKz hI hn he
  ·split at he
   ·exact JKz hI hn he
   ·unfold JOW at he
    split at he
    ·split at he
     ·exact JSs hI hn he
     ·simp only[Ah]at he
      subst he;exact⟨m,hI,hn⟩
    ·simp only[Ah]at he
     subst he;exact⟨m,hI,hn⟩
theorem JOe{vars:List Nat}:∀(l:List Nat) {m:List Nat} {g:Jl} {h:JG} (hI:InvP vars E m c w g h a) (hn:∀p∈g,Jm p.2=p.2) {s':St} (he:zc E.base l (g,h)=some s'),∃m',InvP vars E m' c w s'.1 s'.2 a/\ ∀p∈s'.1,Jm p.2=p.2
 |[],m,g,h,hI,hn,s',he=>by
  simp only[zc,Ah]at he;subst he
  exact⟨m,hI,hn⟩
 |i::l,m,g,h,hI,hn,s',he=>by
  simp only[zc]at he
  split at he
  ·rename_i s1 h1
   obtain⟨m1,hI1,hn1⟩:=JSs hI hn h1;exact JOe l hI1 hn1 he
  ·cases he
theorem JWR{vars:List Nat}(hI:InvP vars E m c w g h a){live:Option (List Nat)}{k:Option Nat}{sw:List Nat}{s1:St}(he:kp E.base live k sw (g,h)=some s1):
  ∃m',InvP vars E m' c w s1.1 s1.2 a/\ ∀t,Jm (look s1.1 t)=look s1.1 t:=by
 have hI1:=hI.lives live;unfold kp at he
 split at he
 ·rename_i s2 h2
  obtain⟨m1,hI2,hn2⟩:=JOe sw hI1 zp h2;obtain⟨m2,hI3,hn3⟩:=JB6 hI2 hn2 he;exact⟨m2,hI3,λt=>JGY hn3 t⟩
 ·cases he
theorem JNG{v u:V}(h:WeakV v u):WeakV (Jm v) (Jm u):=by
 rcases h with rfl|rfl|⟨rfl,b,rfl⟩
 ·exact .inl rfl
 ·exact .inr (.inl rfl)
 ·exact .inr (.inr ⟨rfl,b,rfl⟩)
theorem JNH{g g':Jl}(h:∀t,WeakV (look g t) (look g' t))(l:Option (List Nat))(t:Nat):WeakV (look (Lift.untag (Lift.lives l g)) t) (look (Lift.untag (Lift.lives l g')) t):=by
 rw[Jy,Jy];refine JNG ?_
 cases l with
 |none=>exact h t
 |some l=>
  rw[Lift.lives,qX,Lift.lives,qX]
  split
  ·exact h t
  ·exact .inl rfl
theorem JSt(hX:CxOK cx E)(hm:cx.P.follows .mixedOrders=true){id:Nat}{ops:Array Oper}(hO:W4 cx E ops.toList)(hdr:HL cx.P cx.hint id ops=true)(hI:InvP cx.hint.vars E m c w g h a){s':St}(he:Yo cx id ops (g,h)=some s'){Q:Exit->Act->World->Prop}
  (hQ:∀m' c' w' a',InvP cx.hint.vars E m' c' w' (Lift.untag (Lift.lives (cx.hint.live id) s'.1)) s'.2 a'->Q .normal a' w'):(Code.region id ops true).wp cx.P Q a w:=by
 unfold Yo at he;unfold HL at hdr
 split at he
 ·rename_i hm0
  rw[hm0]at hdr;exact JP9 hX hm hO hdr hI he λm' c' w' a' hI'=>hQ m' c' w' a' (hI'.lives _)
 ·rename_i mx hmx
  rw[hmx]at hdr;simp only[Af]at hdr;have hI0:InvP cx.hint.vars E m c {w with drawn:=w.drawn+1} g h a:=hI.grown (c':=c) none (Ad _) (λb _ _=>⟨rfl,rfl⟩) (λb hb=>by cases hb) (λb hb _ h0=>by rw[hI.core.c_zero hb]at h0;omega) rfl rfl rfl
  refine wp_region_any hm ?_
  refine JOd (mx:=mx) hX hO (K:=JBy cx id s') (λs m c w a hs hI'=>?_) _ _ (g,h) m c _ a ((jG mx.tree ops.size _ (g,h) s' (JWC ops) he (Weak.refl s')).1 hdr.2) hI0
  obtain⟨k,s1,h1,hw⟩:=hs;rw[hX.base]at h1;obtain⟨m',hI1,_⟩:=JWR hI' h1;have hI2:=(hI1.lives (cx.hint.live id)).weak (JNH hw.env (cx.hint.live id)) (λt u r=>WV t u r) (λt i k r=>WW t i k r)
  rw[<-hw.heap]at hI2;exact hQ m' c w a hI2
theorem JQA(hX:CxOK cx E)(hm:cx.P.follows .mixedOrders=true){id:Nat}{ops:Array Oper}{draw:Bool}(hO:W4 cx E ops.toList)(hdr:draw=true->HL cx.P cx.hint id ops=true)(hI:InvP cx.hint.vars E m c w g h a){s':St}(he:Kv cx id ops draw (g,h)=some s'){Q:Exit->Act->World->Prop}
  (hQ:∀m' c' w' a',InvP cx.hint.vars E m' c' w' s'.1 s'.2 a'->Q .normal a' w'):(Code.region id ops draw).wp cx.P Q a w:=by
 unfold Kv at he
 split at he
 ·rename_i s1 h1
  have hfin:∀m' c' w' a',InvP cx.hint.vars E m' c' w' (Lift.untag (Lift.lives (cx.hint.live id) s1.1)) s1.2 a'->Q .normal a' w':=λm' c' w' a' hI2=>by rw[hX.base]at he;obtain⟨m2,hI3,_⟩:=JB6 hI2 zp he;exact hQ _ _ _ _ hI3
  cases draw with
  |false=>
   simp only[Al,if_false]at h1
   exact wp_region_list (JWN hX hO hI h1 λm' c' w' a' hI'=>hfin m' c' w' a' (hI'.lives _))
  |true=>simp only[if_true]at h1;exact JSt hX hm hO (hdr rfl) hI h1 hfin
 ·cases he
end
section
variable{P:Program}{vars:List Nat}{m:List Nat}{c:Cl}{w:World}{g:Jl}{h:JG}{a:Act}{E:Entry}
theorem JQB{cx:Cx}(hX:CxOK cx E){id':Nat}{ops ops':Array Oper}(hO:W4 cx E ops.toList)(hO':W4 cx E ops'.toList){s1 s2 s':St}(hI':InvP cx.hint.vars E m c w s1.1 s1.2 a){o o1 o2:Oper}{cl:Call}{u nn d1 ex tt t2 e:Nat}{du:TypeDesc}{x y:Operand}{r:List (List V)}{z:List V}{g1:Jl}{h1:JG}{kk:IntKind}
  (hop:o.op= .call cl)(hdst:o.dst=some u)(hop1:o1.op= .indexAddr tt (.tmp u) (.tmp nn))(hdst1:o1.dst=some d1)(hop2:o2.op= .store t2 (.tmp d1) (.tmp ex))(hcal:cl.callee= .builtin .append)(hargs:cl.args.toList=[x,y])(htys:cl.argTypes.toList.map cx.P.underlying=[some (.slice e),some du])(htt:cx.P.underlying tt=some (.slice e))
  (hdx:d1≠ex)(hun:u≠nn)(hux:u≠ex)(hg0:o.guard=none)(hg1:o1.guard=none)(hg2:o2.guard=none)(hd2:o2.dst=none)(hts2:JH cx.P t2=JH cx.P e)(hi2:(cx.P.info? t2).isSome)(hie:(cx.P.info? e).isSome)
  (how:Gv cx.lo s1 x=some (r,g1,h1))(hrows:Wk cx.P e (opd s1.1 y)=some [z])(hnn:look s1.1 nn= .v (.int kk r.length))(hpart:W8 (look s1.1 ex)=true)(hlen:(cellsV (fzs (look s1.1 ex))).length=JH cx.P e)(hpure:(cellsV (fzs (look s1.1 ex))).all ki=true)(hsto:(cellsV (look s1.1 ex)).all Qs=true)
  (htz:(K4 cx.P e).map (·.length)=some (JH cx.P e))(hsz:0<JH cx.P e)(hall:(r.all λz=>z.length==JH cx.P e)=true)(hby:(r.length+1)*cx.P.bytesOf e<=140737488355328)(hlen2:r.length+1<=9223372036854775807)(hnot:H4 du=true)(hbyt:byT e r [cellsV (fzs (look s1.1 ex))]=true)
  (hoo:(∀t,o.dst=some t->t<E.nt)/\((∃x,o.op= .assign x)\/ ∀t,o.dst=some t->t∉cx.hint.vars))(hl':ops'.toList=[o1,o2]){mid:List Oper}(hmo:∀o∈mid,(∀t,o.dst=some t->t<E.nt)/\((∃x,o.op= .assign x)\/ ∀t,o.dst=some t->t∉cx.hint.vars))
  (hmid:Yx cx.P cx.lo cx.base u nn ex mid (ins d1 .undef (ins u (.list .yes (r++[cellsV (fzs (look s1.1 ex))])) (untag g1)),h1)=some s2)(he:W3 cx.base (cx.hint.keep id') (untag (lives (cx.hint.live id') (ins d1 .undef s2.1)),s2.2)=some s')
  {Q:Exit->Act->World->Prop}(hQ:∀m' c' w' a',InvP cx.hint.vars E m' c' w' s'.1 s'.2 a'->Q .normal a' w'):wpList cx.P ops (Exit.then (Code.wp cx.P (Code.region id' ops' false) Q) Q) (o::mid) a w:=by
 rw[hX.lo]at how hmid;rw[hX.base]at hmid he;have hv:=hI'.core.opd (.tmp ex);have hrel0:=Q7 (v:=look s1.1 ex) hv hpart
 have hrel1:R2 (VR1 m c w) (cellsV (fzs (look s1.1 ex))) (a.eval (.tmp ex)).cells.toList:=by rw[JB3];simpa using hrel0.map (g:=id) λ_ _=>VR1.fz
 have hes:(a.eval (.tmp ex)).cells.toList.length=JH cx.P e:=by rw[<-hrel1.1];exact hlen
 have hone:∀y∈(a.eval (.tmp ex)).cells.toList,y.oneCell'=true:=λy hy=>by
  obtain⟨j,hj,rfl⟩:=AV hy;have hj':j<(cellsV (look s1.1 ex)).length:=by rw[hrel0.1];exact hj
  exact KW (hrel0.2 j _ _ (Ac hj') (Ac hj)) (Ak.1 hsto _ (AW hj'))
 have hnv:∀t,o.dst=some t->t∉cx.hint.vars:=by
  rcases hoo.2 with⟨x,hx⟩|h'
  ·rw[hop]at hx;cases hx
  ·exact h'
 obtain⟨b,cap,wz,c',arr,ty,hdo,hinv,hblk,hsize,hnm⟩:=JAj hI' hop hcal hargs htys how hrows ⟨htz,hsz,hall,hby,hlen2,hnot,hbyt⟩ hlen hes (λj v hj=>by
  obtain⟨x,hx,hvx⟩:=hrel1.get hj
  exact⟨x,hx,JKy (Ak.1 hpure _ (Aj hj)) hvx⟩) hoo.1 hnv
 have hua:u<a.tmps.size:=by rw[hI'.nt];exact hoo.1 u hdst
 have hnv0:a.eval (.tmp nn)= .int kk r.length:=by
  have:=hI'.core.opd (.tmp nn);rw[show opd s1.1 (.tmp nn)=look s1.1 nn from rfl,hnn]at this
  exact this
 refine wpList_step λK hK=>?_
 have hwant:Bv o (yielded ops a.tmps)=true:=by simp[Bv,hg0]
 rw[if_pos hwant];refine hdo.wp (hK _ _ ?_)
 rw[hdst]at hinv⊢;have hinv':=hinv.forget (d:=d1) (zo _ _ _);refine JSn (E:=E) (vars:=cx.hint.vars) (yu:= .slice (some ⟨b,0,none⟩) (r.length+1) cap) (yn:= .int kk r.length) (ye:=a.eval (.tmp ex)) mid m c' wz _ h1 _ s2 hmo ⟨hinv',⟨arr,ty,hblk,by rw[hes];rw[A6,Dj]at hsize;exact hsize⟩,hnm,GX hua,(Ke hun).trans hnv0,Ke hux⟩ hmid λm2 c2 w2 a2 hP=>?_
 show(Code.region id' ops' false).wp cx.P Q a2 w2
 refine wp_region_list ?_
 rw[hl'];have ho1:=hO' o1 (by rw[hl'];simp)
 have hd1:d1<E.nt:=ho1.1 d1 hdst1
 have hd1v:d1∉cx.hint.vars:=by
  rcases ho1.2 with⟨x,hx⟩|h'
  ·rw[hop1]at hx;cases hx
  ·exact h' d1 hdst1
 refine wpList_step λK hK=>?_
 have hwant1:Bv o1 (yielded ops' a2.tmps)=true:=by simp[Bv,hg1]
 rw[if_pos hwant1];have hy1:=JKx (P:=cx.P) hop1 htt hie hP.su hP.sn w2;refine(show Does cx.P w2 a2 o1 _ w2 from .inl hy1).wp (hK _ _ ?_)
 rw[hdst1];refine wpList_step λK hK=>?_
 have hwant2:Bv o2 (yielded ops' (a2.put (some d1) (.pointer (some ⟨b,r.length*JH cx.P e,none⟩))).tmps)=true:=by simp[Bv,hg2]
 rw[if_pos hwant2];obtain⟨arr2,ty2,hb2,hf2⟩:=hP.blk;have ha2:d1<a2.tmps.size:=by rw[hP.inv.nt];exact hd1
 obtain⟨ie2,hie2⟩:=A7.1 hi2
 have hrun:=run_storeCells_cells (P:=cx.P) b (r.length*JH cx.P e) (a.eval (.tmp ex)).cells.toList 0 w2 (λj hj=>by
  rw[J1 hb2];simp only[A7]
  exact⟨_,BE om⟩) (λj hj=>by
  simp[BN,hb2]) hone
 rw[Bo]at hrun;have hpv:(a2.put (some d1) (.pointer (some ⟨b,r.length*JH cx.P e,none⟩))).eval (.tmp d1)= .pointer (some ⟨b,r.length*JH cx.P e,none⟩):=GX ha2;have hxv:(a2.put (some d1) (.pointer (some ⟨b,r.length*JH cx.P e,none⟩))).eval (.tmp ex)=a.eval (.tmp ex):=(Ke hdx).trans hP.se
 have hsz2:(a.eval (.tmp ex)).cells.size=ie2.size:=by
  have h3:=JY hie2;have h4:(a.eval (.tmp ex)).cells.size=(a.eval (.tmp ex)).cells.toList.length:=by simp
  rw[h4,hes,<-hts2,h3]
 have hdo2:Does cx.P w2 (a2.put (some d1) (.pointer (some ⟨b,r.length*JH cx.P e,none⟩))) o2 undef (w2.setCells b (r.length*JH cx.P e) (a.eval (.tmp ex)).cells.toList):=by
  refine .inr ⟨?_,rfl⟩
  generalize a.eval (.tmp ex)=ye at*;simp[execOp,hop2,Instr.storeAt,hpv,hxv,Instr.sureAddr,storeVar,sizeOf,typeInfo,hie2,hsz2,hrun]
 refine hdo2.wp (hK _ _ (wpList_nil ?_))
 rw[hd2];have hI3:=hP.inv.put (d:=some d1) (v:= .undef) (x:= .pointer (some ⟨b,r.length*JH cx.P e,none⟩)) (λt e=>by cases e;exact hd1) trivial (TagOK.bare rfl) (.inl λt e=>by cases e;exact hd1v)
 obtain⟨m4,hI4,_⟩:=JB6 (hI3.lives (cx.hint.live id')) zp he;exact hQ m4 c2 _ _ hI4
theorem JWS{cx:Cx}(hX:CxOK cx E)(hm:cx.P.follows .mixedOrders=true){id id':Nat}{ops ops':Array Oper}(hO:W4 cx E ops.toList)(hO':W4 cx E ops'.toList)(hdr:jg cx.P cx.hint id ops=true)(hI:InvP cx.hint.vars E m c w g h a){s':St}
  (he:Yp cx (Jw cx.P cx.hint id ops) ops id' ops' (g,h)=some s'){Q:Exit->Act->World->Prop}(hQ:∀m' c' w' a',InvP cx.hint.vars E m' c' w' s'.1 s'.2 a'->Q .normal a' w'):
  ((Code.region id ops true).seq (.region id' ops' false)).wp cx.P Q a w:=by
 have hI0:InvP cx.hint.vars E m c {w with drawn:=w.drawn+1} g h a:=hI.grown (c':=c) none (Ad _) (λb _ _=>⟨rfl,rfl⟩) (λb hb=>by cases hb) (λb hb _ h0=>by rw[hI.core.c_zero hb]at h0;omega) rfl rfl rfl
 unfold Yp at he
 split at he
 case h_2=>cases he
 rename_i s1 h1;unfold evLate1 at he
 split at he
 ·rename_i o o1 o2 hok hl'
  split at he
  ·rename_i cl u tt u1 nn d1 t2 d2 ex hop hdst hop1 hdst1 hop2
   split at he
   ·rename_i x y e du e' hcal hargs htys htt
    split at he
    ·rename_i hcond
     obtain⟨rfl,rfl,rfl,hdx,hdu,hdn,hun,hux,hg0,hg1,hg2,hd2,hts2,hi2,hie,hks⟩:=hcond;rw[Dq]at hg0 hg1 hg2 hd2
     ·split at he
      ·rename_i r g1 h1' z kk n how hrows hnn
       split at he
       ·rename_i hc
        obtain⟨rfl,hpart,hlen,hpure,hsto,htz,hsz,hall,hby,hlen2,hnot,hbyt⟩:=hc
        split at he
        ·rename_i s2 hmid
         refine wp_seq (wp_region_any hm ?_)
         unfold jg at hdr
         split at hdr
         ·rename_i hn;omega
         ·rename_i hn
          simp only[Region.lexTailB,Af,decide_eq_true_eq]at hdr;obtain⟨⟨⟨⟨hsel,hlt⟩,hs⟩,hcc⟩,hlex⟩:=hdr;have htl:(ops.toList.take (Jw cx.P cx.hint id ops)).length=Jw cx.P cx.hint id ops:=by simp;omega
          have hdl:(ops.toList.drop (Jw cx.P cx.hint id ops)).length=ops.size-Jw cx.P cx.hint id ops:=by simp
          have hany:=yX (cx:=cx) (md:= .any) (n:=Jw cx.P cx.hint id ops) (gg:=ops.size-Jw cx.P cx.hint id ops) (s':=s1) (λ_=>⟨hs,hcc⟩) (DF hlt) (ops.toList.take (Jw cx.P cx.hint id ops)) 0 _ (g,h)
           (λj hj=>by rw[AH,if_pos om];simp) (by rw[AC,htl]) (JB5 ops _) (by rw[htl];exact hlex) h1
          have hcut:ops.toList.drop (Jw cx.P cx.hint id ops)=o::ops.toList.drop (Jw cx.P cx.hint id ops+1):=by
           have:ops.toList[Jw cx.P cx.hint id ops]? =some o:=by simpa using hok
           exact List.drop_eq_getElem?_toList_append.trans (by rw[this]<;>rfl)
          have:=JJc hX hO (λlisted m c w a hsq hI'=>by
           have hw:wpList cx.P ops (Exit.then (Code.wp cx.P (Code.region id' ops' false) Q) Q) (ops.toList.drop (Jw cx.P cx.hint id ops)) a w:=by
            rw[hcut];have hoo:=hO o (by rw[<-Co (Jw cx.P cx.hint id ops) ops.toList,hcut];simp)
            exact JQB hX hO hO' hI' hop hdst hop1 hdst1 hop2 hcal hargs htys htt hdx hun hux hg0 hg1 hg2 hd2 hts2 hi2 hie how hrows hnn hpart hlen hpure hsto htz hsz hall hby hlen2 hnot hbyt hoo hl' (λo' ho'=>hO o' (BL ho')) hmid he hQ
           have:=wpAny_of_seq (md:= .any) (ops.toList.drop (Jw cx.P cx.hint id ops)) (Jw cx.P cx.hint id ops) listed a w (λj=>by rw[Bg];simp) (by rw[hdl];exact hsq) hw
           rw[hdl]at this
           exact this) _ _ (g,h) m c _ a hany hI0
          rw[htl,show Jw cx.P cx.hint id ops+(ops.size-Jw cx.P cx.hint id ops)=ops.size by omega]at this
          exact this
        ·cases he
       ·cases he
      ·cases he
    ·cases he
   ·cases he
  ·cases he
 ·cases he
end
def Ex.to:Ex->Exit
 | .normal=> .normal
 | .exit id=> .exit id
 | .ret=> .ret
section
variable{m:List Nat}{c:Cl}{w:World}{g:Jl}{h:JG}{a:Act}{E:Entry}{cx:Cx}
theorem JB7{hint:Hint}{nt:Nat}{l:List Oper}(hl:l.all (JOU hint nt)=true):∀o∈l,(∀t,o.dst=some t->t<nt)/\((∃x,o.op= .assign x)\/ ∀t,o.dst=some t->t∉hint.vars):=λo ho=>by
 have:=Ak.1 hl o ho;unfold JOU at this
 cases hd:o.dst with
 |none=>exact⟨λt e=>(by cases e),.inr λt e=>(by cases e)⟩
 |some t=>
  rw[hd]at this;simp only[Af,decide_eq_true_eq,AU]at this;refine⟨λu e=>by cases e;exact this.1,?_⟩
  rcases this.2 with h1|h1
  ·refine .inl ?_
   unfold K5 at h1
   split at h1
   ·exact⟨_,by assumption⟩
   ·cases h1
  ·refine .inr λu e=>?_
   cases e;simpa using h1
theorem qY{x y:Option (Ex×St)}{r:Ex×St}(h:yO x y=some r):x=some r/\y=some r:=by
 unfold yO at h
 split at h
 ·rename_i e
  obtain rfl:=JV8 e;exact⟨h,h⟩
 ·cases h
theorem ya{r:Ex×St}:yO (some r) (some r)=some r:=by simp[yO,JGB]
theorem JK0{P:Program}{hint:Hint}{a:Code}{k id':Nat}{ops ops':Array Oper}(h:Gj P hint a=some (k,ops,id',ops')):∃id,a= .seq (.region id ops true) (.region id' ops' false)/\k=Jw P hint id ops/\hint.mix id=none:=by
 unfold Gj at h
 split at h
 ·rename_i id ops0 id0 ops0'
  split at h
  ·rename_i x hl hm
   simp only[Ah,AG]at h;obtain⟨rfl,rfl,rfl,rfl⟩:=h;exact⟨id,rfl,rfl,hm⟩
  ·cases h
 ·cases h
theorem JOf(hX:CxOK cx E)(hm:cx.P.follows .mixedOrders=true)(k:Nat):∀(b:Code) (m:List Nat) (c:Cl) (w:World) (g:Jl) (h:JG) (a:Act) (e:Ex) (s':St) (Q:Exit->Act->World->Prop),codeOk cx.P cx.hint E.nt b=true->InvP cx.hint.vars E m c w g h a->
  evCode cx (loopN k) b (g,h)=some (e,s')->(∀m' c' w' a',InvP cx.hint.vars E m' c' w' s'.1 s'.2 a'->Q e.to a' w')->b.wp cx.P Q a w:=by
 intro b
 induction b with
 |skip=>
  intro m c w g h a e s' Q _ hI he hQ;simp only[evCode,Ah,AG]at he;obtain⟨rfl,rfl⟩:=he
  exact wp_skip (hQ m c w a hI)
 |region id ops draw=>
  intro m c w g h a e s' Q hok hI he hQ;simp only[evCode,Ag,AG]at he;obtain⟨s1,h1,rfl,rfl⟩:=he;simp only[codeOk,Af,AU]at hok
  exact JQA hX hm (JB7 hok.1) (λhd=>by
    subst hd;rcases hok.2 with h2|h2
    ·cases h2
    ·exact h2) hI h1 hQ
 |seq x y ihx ihy=>
  intro m c w g h a e s' Q hok hI he hQ;simp only[codeOk,Af]at hok;simp only[evCode]at he;refine wp_seq ?_
  split at he
  ·rename_i s1 h1
   exact ihx m c w g h a .normal s1 _ hok.1 hI h1 λm' c' w' a' hI'=>ihy m' c' w' s1.1 s1.2 a' e s' Q hok.2 hI' he hQ
  ·rename_i hne
   cases hr:evCode cx (loopN k) x (g,h)with
   |none=>rw[hr]at he;cases he
   |some p=>
    obtain⟨e1,s1⟩:=p;rw[hr]at he;simp only[Ah,AG]at he;obtain⟨rfl,rfl⟩:=he;refine ihx m c w g h a e1 s1 _ hok.1 hI hr λm' c' w' a' hI'=>?_
    cases e1 with
    |normal=>exact absurd hr (hne s1)
    |exit id=>exact hQ m' c' w' a' hI'
    |ret=>exact hQ m' c' w' a' hI'
 |cond x p q ihp ihq=>
  intro m c w g h a e s' Q hok hI he hQ;simp only[codeOk,Af]at hok;simp only[evCode]at he
  split at he
  ·rename_i t ht
   have hv:=hI.core.opd x;rw[ht]at hv;have hv':a.eval x= .bool t:=hv
   cases t with
   |true=>simp only[if_true]at he;exact wp_cond_true hv' (ihp m c w g h a e s' Q hok.1 hI he hQ)
   |false=>simp only[Al,if_false]at he;exact wp_cond_false hv' (ihq m c w g h a e s' Q hok.2 hI he hQ)
  ·rename_i ht
   have hv:=hI.core.opd x;rw[ht]at hv;obtain⟨t,hv'⟩:=hv;obtain⟨he1,he2⟩:=qY he
   cases t with
   |true=>
    refine wp_cond_true hv' ?_
    split at he1
    ·rename_i k ops id' ops' hla
     rw[Ag]at he1;obtain⟨s1,hs1,hs2⟩:=he1;simp only[AG]at hs2;obtain⟨rfl,rfl⟩:=hs2;obtain⟨id,rfl,rfl,hmx⟩:=JK0 hla;have hok1:=hok.1;simp only[codeOk,Af,AU]at hok1
     have hdr:jg cx.P cx.hint id ops=true:=by have:=hok1.1.2;unfold HL at this;rw[hmx]at this;simpa using this
     exact JWS hX hm (JB7 hok1.1.1) (JB7 hok1.2.1) hdr hI hs1 hQ
    ·exact ihp m c w g h a e s' Q hok.1 hI he1 hQ
   |false=>exact wp_cond_false hv' (ihq m c w g h a e s' Q hok.2 hI he2 hQ)
  ·cases he
 |block id p ih=>
  intro m c w g h a e s' Q hok hI he hQ;simp only[codeOk]at hok;simp only[evCode]at he;refine wp_block ?_
  split at he
  ·rename_i j s1 h1
   refine ih m c w g h a (.exit j) s1 _ hok hI h1 λm' c' w' a' hI'=>?_
   simp only[Ex.to,Exit.inBlock]
   split at he
   ·rename_i hj
    simp only[Ah,AG]at he;obtain⟨rfl,rfl⟩:=he;rw[if_pos hj];exact hQ m' c' w' a' hI'
   ·rename_i hj
    simp only[Ah,AG]at he;obtain⟨rfl,rfl⟩:=he;rw[if_neg hj];exact hQ m' c' w' a' hI'
  ·rename_i hne
   refine ih m c w g h a e s' _ hok hI he λm' c' w' a' hI'=>?_
   cases e with
   |normal=>exact hQ m' c' w' a' hI'
   |exit j=>exact absurd he (hne j s')
   |ret=>exact hQ m' c' w' a' hI'
 |loop p ih=>
  intro m c w g h a e s' Q hok hI he hQ;simp only[codeOk]at hok;simp only[evCode]at he;refine wp_loop_rounds k ?_
  clear hX
  have key:∀(n:Nat) (m:List Nat) (c:Cl) (w:World) (s:St) (a:Act),InvP cx.hint.vars E m c w s.1 s.2 a->loopN n (evCode cx (loopN k) p) s=some (e,s')->Code.rounds cx.P p Q n a w:=by
   intro n
   induction n with
   |zero=>intro m c w s a _ h0;cases h0
   |succ n ihn=>
    intro m c w s a hI h0;rw[rounds_succ];simp only[loopN]at h0
    split at h0
    ·rename_i s1 h1
     exact ih m c w s.1 s.2 a .normal s1 _ hok hI h1 λm' c' w' a' hI'=>ihn m' c' w' s1 a' hI' h0
    ·rename_i hne
     refine ih m c w s.1 s.2 a e s' _ hok hI h0 λm' c' w' a' hI'=>?_
     cases e with
     |normal=>exact absurd h0 (hne s')
     |exit id=>exact hQ m' c' w' a' hI'
     |ret=>exact hQ m' c' w' a' hI'
  exact key k m c w (g,h) a hI he
 |rangeFunc f ps x y _ _=>
  intro m c w g h a e s' Q _ _ he _
  cases he
 |exit id=>
  intro m c w g h a e s' Q _ hI he hQ;simp only[evCode,Ah,AG]at he;obtain⟨rfl,rfl⟩:=he
  exact wp_exit (hQ m c w a hI)
 |scope p ih=>
  intro m c w g h a e s' Q hok hI he hQ;simp only[codeOk]at hok;simp only[evCode]at he;refine wp_scope_straight (ih m c w g h a e s' _ hok hI he λm' c' w' a' hI'=>?_)
  cases e<;>exact hQ m' c' w' a' hI'
 |label l=>
  intro m c w g h a e s' Q _ hI he hQ;simp only[evCode,Ah,AG]at he;obtain⟨rfl,rfl⟩:=he
  exact wp_label (hQ m c w a hI)
 |goto l=>
  intro m c w g h a e s' Q _ _ he _
  cases he
 |ret=>
  intro m c w g h a e s' Q _ hI he hQ;simp only[evCode,Ah,AG]at he;obtain⟨rfl,rfl⟩:=he
  exact wp_ret (hQ m c w a hI)
 |refuse s=>intro m c w g h a e s' Q _ _ he _;cases he
theorem JWT{x y x' y':Option St}{r:St}(hx:∀r,x=some r->x'=some r)(hy:∀r,y=some r->y'=some r)(h:ko x y=some r):ko x' y'=some r:=by obtain⟨s1,s2,rfl,rfl,_,_⟩:=qW h;rw[hx s1 rfl,hy s2 rfl];exact h
end
section
variable{vars:List Nat}{P:Program}{m:List Nat}{c:Cl}{w:World}{g:Jl}{h:JG}{a:Act}{E:Entry}
theorem VRr.noTup{v:V}{x:Value}(hv:VRr m c w v x)(hn:∀vs,v≠ .tup vs):VR m c w v x:=by
 cases v with
 |tup vs=>exact absurd rfl (hn vs)
 |_=>exact hv
theorem yb{v:V}:bare (fzs v)=true:=by cases v<;>rfl
def JDs(tmps:Array Value):ResultVar->Sem Value
 | .tmp t=>pure (tmps.getD t undef)
 | .cell b t=>do loadVar t (<-asAddr (tmps.getD b undef))
theorem JB8(fn:Func)(tmps:Array Value):results fn tmps=(do
  let vs<-fn.results.mapM (JDs tmps)
  pure (if h:vs.size=1 then vs[0]else .tuple vs)):=by
 unfold results
 have:(λ(x:ResultVar)=>(match x with| .tmp t=>pure (tmps.getD t undef)| .cell a t=>do loadVar t (<-asAddr (tmps.getD a undef)):Sem Value))=JDs tmps:=by
  funext r
  cases r<;>rfl
 rw[<-this]<;>rfl
theorem JWU(hI:InvP vars E m c w g h a){r:ResultVar}{v:V}(hr:JGC P (g,h) r=some v):
  ∃x,(JDs a.tmps r).run P w= .ok x w/\VR m c w v x/\bare v=true:=by
 cases r with
 |tmp t=>
  simp only[JGC]at hr
  split at hr
  ·cases hr
  ·rename_i hn
   simp only[Ah]at hr;subst hr
   exact⟨a.tmps.getD t undef,rfl,((hI.core.env t).noTup hn).fzs,yb⟩
 |cell b t=>
  simp only[JGC]at hr
  split at hr
  ·rename_i i o hl
   simp only[Ag]at hr;obtain⟨u,hu,rfl⟩:=hr;have he:=hI.core.env b;rw[hl]at he;obtain⟨z,hz,hv,_⟩:=JBk (P:=P) hI.core he hu;obtain⟨gb,hg,hy⟩:=he;refine⟨z,?_,hv.fzs,yb⟩
   rw[hy]at hz;simp only[JDs,hy];simpa[Instr.loadAt,Instr.sureAddr,asAddr]using hz
  ·cases hr
theorem JK1(hI:InvP vars E m c w g h a):∀(rs:List ResultVar) (vs:List V),Kp P (g,h) rs=some vs->
  ∃xs:List Value,(rs.mapM (JDs a.tmps)).run P w= .ok xs w/\R2 (VR m c w) vs xs/\ ∀v∈vs,bare v=true
 |[],vs,hr=>by
  simp only[Kp,Ah]at hr;subst hr
  exact⟨[],rfl,R2.nil,λv hv=>by cases hv⟩
 |r::rs,vs,hr=>by
  simp only[Kp]at hr
  split at hr
  ·rename_i x xs h1 h2
   simp only[Ah]at hr;subst hr;obtain⟨y,hy,hv,hb⟩:=JWU hI h1;obtain⟨ys,hys,hvs,hbs⟩:=JK1 hI rs xs h2;refine⟨y::ys,?_,R2.cons hv hvs,λv hv=>?_⟩
   ·rw[Lb]
    simp only[Bm,hy,Bc,hys];rfl
   ·rcases AP.1 hv with rfl|hv
    ·exact hb
    ·exact hbs v hv
  ·cases hr
theorem JGZ(hI:InvP vars E m c w g h a):∀(rs:List ResultVar) (vs:List V),K6 P (g,h) rs=some vs->
  ∃xs:List Value,(rs.mapM (JDs a.tmps)).run P w= .ok xs w/\R2 (VR m c w) vs xs/\ ∀v∈vs,bare v=true
 |[],vs,hr=>by
  simp only[K6,Ah]at hr;subst hr
  exact⟨[],rfl,R2.nil,λv hv=>by cases hv⟩
 |r::rs,vs,hr=>by
  simp only[K6]at hr
  split at hr
  ·rename_i x xs h1 h2
   simp only[Ah]at hr;subst hr
   obtain⟨y,hy,hv,hb⟩:∃y,(JDs a.tmps r).run P w= .ok y w/\VR m c w x y/\bare x=true:=by
    cases r with
    |tmp t=>
     simp only[JBh]at h1
     split at h1
     ·cases h1
     ·rename_i hn
      simp only[Ah]at h1;subst h1
      exact⟨a.tmps.getD t undef,rfl,((hI.core.env t).noTup hn).cps,Zv _⟩
    |cell b t=>
     simp only[JBh]at h1
     split at h1
     ·rename_i i o hl
      split at h1
      ·rename_i htt
       have he:=hI.core.env b;rw[hl]at he;obtain⟨z,hz,hv,_⟩:=JBk (P:=P) hI.core he h1
       have hx:∃cs,x= .agg cs:=by
        simp only[YY]at h1
        split at h1
        ·rw[htt]at h1
         simp only[KK,htt]at h1
         split at h1
         ·cases h1;exact⟨_,rfl⟩
         ·cases h1
        ·cases h1
       obtain⟨cs,rfl⟩:=hx;obtain⟨gb,hg,hy⟩:=he;refine⟨z,?_,hv,rfl⟩
       rw[hy]at hz;simp only[JDs,hy];simpa[Instr.loadAt,Instr.sureAddr,asAddr]using hz
      ·cases h1
     ·cases h1
   obtain⟨ys,hys,hvs,hbs⟩:=JGZ hI rs xs h2;refine⟨y::ys,?_,R2.cons hv hvs,λv hv=>?_⟩
   ·rw[Lb]
    simp only[Bm,hy,Bc,hys];rfl
   ·rcases AP.1 hv with rfl|hv
    ·exact hb
    ·exact hbs v hv
  ·cases hr
theorem JNJ(hI:InvP vars E m c w g h a){fn:Func}{vs:List V}{rr:Bool}(hr:(if rr then K6 P (g,h) fn.results.toList else Kp P (g,h) fn.results.toList)=some vs):
  ∃x,(results fn a.tmps).run P w= .ok x w/\VRr m c w (ze vs) x/\bare (ze vs)=true:=by
 obtain⟨xs,hxs,hv,hb⟩:∃xs:List Value,(fn.results.toList.mapM (JDs a.tmps)).run P w= .ok xs w/\R2 (VR m c w) vs xs/\ ∀v∈vs,bare v=true:=by
  cases rr with
  |true=>simp only[if_true]at hr;exact JGZ hI _ _ hr
  |false=>simp only[Al,if_false]at hr;exact JK1 hI _ _ hr
 have hrun:(results fn a.tmps).run P w= .ok (if h:xs.toArray.size=1 then xs.toArray[0]else .tuple xs.toArray) w:=by rw[JB8,<-BV (xs:=fn.results),List.mapM_toArray];simp only[Bm,Sem.run_map,hxs,Bc];rfl
 match vs,xs,hv,hb,hrun with
 |[],[],_,_,hrun=>exact⟨_,hrun,⟨#[],rfl,R2.nil⟩,rfl⟩
 |[v],[x],hv,hb,hrun=>exact⟨x,by simpa using hrun,hv.head.r,hb v (by simp)⟩
 |u::v::vs,x::y::xs,hv,_,hrun=>exact⟨.tuple (x::y::xs).toArray,by simpa using hrun,⟨_,rfl,by simpa using hv⟩,rfl⟩
 |[],_::_,hv,_,_=>simp[R2]at hv
 |[_],[],hv,_,_=>simp[R2]at hv
 |[_],_::_::_,hv,_,_=>simp[R2]at hv
 |_::_::_,[],hv,_,_=>simp[R2]at hv
 |_::_::_,[_],hv,_,_=>simp[R2]at hv
theorem JK2{s:St}:∀(rs:List ResultVar) (vs:List V),Kp P s rs=some vs->∀v∈vs,bare v=true
 |[],vs,hr=>by
  simp only[Kp,Ah]at hr;subst hr
  exact λv hv=>by cases hv
 |r::rs,vs,hr=>by
  simp only[Kp]at hr
  split at hr
  ·rename_i x xs h1 h2
   simp only[Ah]at hr;subst hr
   have hx:bare x=true:=by
    unfold JGC at h1
    split at h1
    ·split at h1
     ·cases h1
     ·simp only[Ah]at h1;subst h1;exact yb
    ·split at h1
     ·simp only[Ag]at h1
      obtain⟨u,_,rfl⟩:=h1;exact yb
     ·cases h1
   exact λv hv=>by
    rcases AP.1 hv with rfl|hv
    ·exact hx
    ·exact JK2 rs xs h2 v hv
  ·cases hr
theorem JGa{s:St}:∀(rs:List ResultVar) (vs:List V),K6 P s rs=some vs->∀v∈vs,bare v=true
 |[],vs,hr=>by
  simp only[K6,Ah]at hr;subst hr
  exact λv hv=>by cases hv
 |r::rs,vs,hr=>by
  simp only[K6]at hr
  split at hr
  ·rename_i x xs h1 h2
   simp only[Ah]at hr;subst hr
   have hx:bare x=true:=by
    unfold JBh at h1
    split at h1
    ·split at h1
     ·cases h1
     ·simp only[Ah]at h1;subst h1;exact Zv _
    ·split at h1
     ·split at h1
      ·rename_i htt
       simp only[YY]at h1
       split at h1
       ·rw[htt]at h1
        simp only[KK,htt]at h1
        split at h1
        ·cases h1;rfl
        ·cases h1
       ·cases h1
      ·cases h1
     ·cases h1
   exact λv hv=>by
    rcases AP.1 hv with rfl|hv
    ·exact hx
    ·exact JGa rs xs h2 v hv
  ·cases hr
theorem JK3{s:St}{fn:Func}{b k:Nat}{rr:Bool}{r:V}{h':JG}(hf:zf P fn b k rr s=some (r,h')):bare r=true:=by
 unfold zf at hf
 split at hf
 ·rename_i vs hvs
  split at hf
  ·simp only[Ah,AG]at hf
   obtain⟨rfl,_⟩:=hf
   have:∀v∈vs,bare v=true:=by
    cases rr with
    |true=>simp only[if_true]at hvs;exact JGa _ _ hvs
    |false=>simp only[Al,if_false]at hvs;exact JK2 _ _ hvs
   match vs,this with
   |[],_=>rfl
   |[v],h1=>exact h1 v (by simp)
   |_::_::_,_=>rfl
  ·cases hf
 ·cases hf
theorem JGb(args:List V):∀(t:Nat),look (QH args) t=args.getD t .undef:=by
 have key:∀(l:List V) (k t:Nat),look ((l.zipIdx k).map λp=>(p.2,p.1)) t=if k<=t then l.getD (t-k) .undef else .undef:=by
  intro l
  induction l with
  |nil=>intro k t;simp[look]
  |cons x l ih=>
   intro k t;simp only[List.zipIdx_cons,A2,look,ih];by_cases h:k=t
   ·subst h;simp
   ·by_cases h2:k<=t
    ·rw[if_neg h,if_pos om,if_pos h2]
     rw[show t-k=(t-(k+1))+1 by omega]
     simp
    ·rw[if_neg h,if_neg om,if_neg h2]
 intro t;have:=key args 0 t;simpa[QH]using this
theorem jH{args:List V}{xs:Array Value}{nt lo:Nat}(hH:HOK m c w h)(hargs:R2 (VRr m c w) args xs.toList)(hb:args.all bare=true)(hn:args.length<=nt)(hlo:lo<=h.length):
  InvP vars ⟨lo,h.length,w,m,c,hoOf m w h lo,h,nt⟩ m c w (QH args) h ⟨xs++Cv (nt-xs.size) undef,[]⟩:=by
 obtain⟨hC,hold⟩:=hH
 have hbl:∀t k r,look (QH args) t= .list k r->k= .no:=λt k r ht=>by
  rw[JGb]at ht;by_cases hl:t<args.length
  ·rw[CP,Ac hl]at ht
   have:=Ak.1 hb _ (AW hl);simp only[DZ]at ht;rw[ht]at this;cases k<;>simp[bare]at this
   rfl
  ·rw[CP,B2 om]at ht
   cases ht
 have hAt:∀{l r x},At m w (QH args) h ⟨xs++Cv (nt-xs.size) undef,[]⟩ l r x->At m w [] h JBu l r x:=λ{l r x} hl=>by
  cases l with
  |slot t=>have:=hbl t _ r hl.1;cases this
  |cell i j=>exact hl
 refine⟨⟨hC.wf1,hC.wf2,hC.nd,hC.len,λt=>?_,hC.ob,λl r x hl=>hC.own l r x (hAt hl),λl l' r r' x x' b h1 h2=>hC.uniq l l' r r' x x' b (hAt h1) (hAt h2),λt u r ht=>(by have:=hbl t _ r ht;cases this),λt i j r ht=>(by have:=hbl t _ r ht;cases this),hC.gt⟩,
  Fr.refl _ _ _ _ _,λl r x b hl hu hb'=>?_,rfl,Ad _,hC.len,hlo,?_,rfl,Keeps.refl _ _,hold⟩
 ·rw[JGb]
  by_cases hl:t<args.length
  ·obtain⟨y,hy,hv⟩:=hargs.get (Ac hl)
   rw[CP,Ac hl,DZ]
   have hxs:t<xs.size:=by have:=hargs.1;simp at this;omega
   have:(xs++Cv (nt-xs.size) undef).getD t undef=y:=by
    rw[B5,BT hxs]
    have:xs[t]? =some y:=by simpa using hy
    simp[this]
   rw[this];exact hv
  ·rw[CP,B2 om]
   trivial
 ·cases l with
  |slot t=>have:=hbl t _ r hl.1;cases this
  |cell i j=>exact .inr ⟨i,j,r,x,hu,hl,hb'⟩
 ·have:=hargs.1
  simp at this⊢;omega
theorem JGc(hI:InvP vars E m c w g h a){fn:Func}{r:V}{h':JG}{k:Nat}{rr:Bool}(hf:zf P fn E.base k rr (g,h)=some (r,h')):
  ∃x m',(results fn a.tmps).run P w= .ok x w/\VRr m' c w r x/\bare r=true/\HOK m' c w h'/\Fr E.lo E.ho E.w E.m E.c w m' c/\JGJ E.lo E.ho E.w m' w [] h' JBu/\h'=h.take (E.base+k)/\E.base+k<=h.length/\Keeps E.base E.h h':=by
 unfold zf at hf
 split at hf
 ·rename_i vs hvs
  split at hf
  ·rename_i hok
   simp only[Af,AU,beq_iff_eq,decide_eq_true_eq]at hok;simp only[Ah,AG]at hf;obtain⟨rfl,rfl⟩:=hf;obtain⟨x,hx,hv,hb⟩:=JNJ hI hvs
   have hle:E.base+k<=h.length:=by
    rcases hok.2.2 with h0|h0
    ·have:=hI.hlen;omega
    ·exact h0
   have hv':=hv.less (n:=E.base+k) hok.1;have hI2:=(hI.lives (some [])).less (n:=E.base+k) (Ck _ _) (λi cs hcs hbi hin=>JSr hok.2.1 hcs hbi hin) (λp hp=>by simp[Lift.lives,Lift.untag]at hp)
   refine⟨x,m.take (E.base+k),hx,hv',hb,hI2.hok,hI2.fr,λl r y b hl hu hb'=>?_,rfl,hle,hI2.old⟩
   cases l with
   |slot t=>exact absurd hl.1 (by simp[look])
   |cell i j=>exact hI2.owned (.cell i j) r y b hl hu hb'
  ·cases hf
 ·cases hf
theorem JSu{hints:Nat->Hint}{prim:Nat->Option (Nat->List V->JG->Option (V×JG))}(hm:P.follows .mixedOrders=true)
  (hprim:∀f p,prim f=some p->∀lo args h r h',lo<=h.length->p lo args h=some (r,h')->KY P lo f args h r h'):
  ∀(n lo f:Nat) (args:List V) (h:JG) (r:V) (h':JG),lo<=h.length->evFun P hints prim n lo f args h=some (r,h')->KY P lo f args h r h':=by
 intro n
 induction n with
 |zero=>intro lo f args h r h' _ he;cases he
 |succ n ih=>
  intro lo f args h r h' hlo he;simp only[evFun]at he
  split at he
  ·rename_i p hp
   exact hprim f p hp lo args h r h' hlo he
  ·unfold Yq at he
   split at he
   ·rename_i fn hfn
    split at he
    ·rename_i b hb
     split at he
     ·rename_i hck
      simp only[Af,decide_eq_true_eq,bne_iff_ne,ne_eq]at hck;obtain⟨⟨⟨hco,hle⟩,hba⟩,hname⟩:=hck
      have hX:∀m c w,CxOK ⟨P,evFun P hints prim n,lo,h.length,hints f⟩ ⟨lo,h.length,w,m,c,hoOf m w h lo,h,fn.ntmps⟩:=λm c w=>⟨rfl,rfl,λlo f args h r h' hl hc=>ih lo f args h r h' hl hc⟩
      have hcf:∀xs w,(callFunc f xs).run P w= .ok (.enter f xs) w:=λxs w=>by simp[callFunc,hfn,hname,hb]
      have hend:∀(e:Ex) (s:St),(e= .normal\/e= .ret)->evCode ⟨P,evFun P hints prim n,lo,h.length,hints f⟩ (loopN n) b (QH args,h)=some (e,s)->zf P fn h.length (hints f).ret (hints f).rawr s=some (r,h')->KY P lo f args h r h':=λe s hes hev hfin=>by
       refine⟨JK3 hfin,hcf,λm c w xs hH hargs=>⟨?_,?_⟩⟩
       ·have hI:=jH (vars:=(hints f).vars) hH hargs hba hle hlo
        have hwp:=JOf (hX m c w) hm n b m c w (QH args) h _ e s (λ_ _ _=>h.length<=h'.length/\h'.take lo=h.take lo/\Keeps h.length h h') hco hI hev λm' c' w' a' hI'=>by
         obtain⟨_,_,_,_,_,_,_,_,rfl,hbl,hkp⟩:=JGc (P:=P) hI' hfin;have hbl':h.length+(hints f).ret<=s.2.length:=hbl;refine⟨?_,?_,hkp⟩
         ·simp only[Az]
          show h.length<=min (h.length+(hints f).ret) s.2.length
          omega
         ·rw[Du,B3 (show lo<=h.length+(hints f).ret by omega)]
          exact hI'.hlo
        obtain⟨_,_,_,hq,_⟩:=hwp default [] [];exact hq
       have hI:=jH (vars:=(hints f).vars) hH hargs hba hle hlo;refine calls_of_wp hfn hb ?_
       refine JOf (hX m c w) hm n b m c w (QH args) h _ e s _ hco hI hev λm' c' w' a' hI'=>?_
       obtain⟨x,mm,hx,hv,_,hH',hF,hO,_⟩:=JGc (P:=P) hI' hfin
       have:bodyPost P fn (λe w'=>∃x c' m',e= .returned x/\VRr m' c' w' r x/\HOK m' c' w' h'/\Fr lo (hoOf m w h lo) w m c w' m' c'/\JGJ lo (hoOf m w h lo) w m' w' [] h' JBu) .normal a' w':=
        ⟨hI'.df,x,hx,x,c',mm,rfl,hv,hH',hF,hO⟩
       rcases hes with rfl|rfl
       ·exact this
       ·exact this
      split at he
      ·cases he
      ·rename_i e s hne hs
       cases e with
       |normal=>exact hend .normal s (.inl rfl) hs he
       |exit j=>exact absurd rfl (hne j)
       |ret=>exact hend .ret s (.inr rfl) hs he
      ·cases he
     ·cases he
    ·cases he
   ·cases he
end
def CLe(a b:Zs):Prop:=∀lo f args h r,a lo f args h=some r->b lo f args h=some r
def FLe(a b:St->Option (Ex×St)):Prop:=∀s r,a s=some r->b s=some r
def LLe(a b:YZ):Prop:=∀f g,FLe f g->FLe (a f) (b g)
section le
variable{P:Program}{call call':Zs}(hc:CLe call call')
include hc
theorem JB9{lo:Nat}{mutc:Bool}{s:St}{op:Op}{r:V×St}(h:KX P call lo mutc s op=some r):KX P call' lo mutc s op=some r:=by
 cases op with
 |call c=>
  simp only[KX]at h⊢
  split at h
  ·unfold WJ at h⊢
   split at h
   ·split at h
    ·rename_i hcall
     rw[hc _ _ _ _ _ hcall];exact h
    ·cases h
   ·cases h
  ·exact h
  ·cases h
 |makeMap t r=>cases r<;>exact h
 |_=>exact h
theorem JWV{c:Cx}{s:St}{o:Oper}{r:V×St}(hcc:c.call=call)(h:YA c s o=some r):YA {c with call:=call'} s o=some r:=by
 unfold YA at h⊢
 split at h
 ·rename_i hn
  rw[if_pos hn];exact h
 rename_i hn;rw[if_neg hn]
 split at h
 ·rename_i he
  rw[if_pos he];rw[hcc]at h;exact JB9 hc h
 ·rename_i he
  rw[if_neg he];exact h
theorem JQC{c:Cx}{s:St}{o:Oper}{v:V}(hcc:c.call=call)(h:Km c s o=some v):Km {c with call:=call'} s o=some v:=by
 unfold Km at h⊢
 split at h
 ·rename_i he
  rw[if_pos he]
  split at h
  ·split at h
   ·split at h
    ·rw[hcc]at h
     unfold JAd at h⊢
     split at h
     ·rename_i hp
      simp only[hc _ _ _ _ _ hp];exact h
     ·cases h
    ·cases h
   ·cases h
  ·split at h
   ·cases h
   ·rename_i hm
    obtain⟨p,hp,hv⟩:=Ag.mp h;rw[if_neg hm];rw[hcc]at hp;exact Ag.mpr ⟨p,JB9 hc hp,hv⟩
  ·obtain⟨p,hp,hv⟩:=Ag.mp h
   rw[hcc]at hp;exact Ag.mpr ⟨p,JB9 hc hp,hv⟩
  ·cases h
 ·rename_i he
  rw[if_neg he];exact h
theorem G1{c:Cx}(hcc:c.call=call){ops:Array Oper}:∀{l:List Oper} {s r:St},KL c ops l s=some r->KL {c with call:=call'} ops l s=some r
 |[],_,_,h=>h
 |o::l,s,r,h=>by
  simp only[KL]at h⊢
  split at h
  ·split at h
   ·rename_i hop
    simp only[JWV hc hcc hop];exact G1 hcc h
   ·cases h
  ·split at h
   ·cases h
   ·rename_i hna
    rw[if_neg hna];exact G1 hcc h
  ·cases h
theorem Z4{c:Cx}(hcc:c.call=call){ops:Array Oper}:∀{l:List Oper} {s r:St},J3 c ops l s=some r->J3 {c with call:=call'} ops l s=some r
 |[],_,_,h=>h
 |o::l,s,r,h=>by
  simp only[J3]at h⊢
  split at h
  ·split at h
   ·rename_i hop
    simp only[JQC hc hcc hop];exact Z4 hcc h
   ·cases h
  ·split at h
   ·cases h
   ·rename_i hna
    rw[if_neg hna];exact Z4 hcc h
  ·cases h
theorem JK4{c:Cx}(hcc:c.call=call){mx:Mix}{ops:Array Oper}{k:Nat}{s r:St}(h:Qa c mx ops k s=some r):Qa {c with call:=call'} mx ops k s=some r:=by
 unfold Qa at h⊢
 split at h
 ·cases h
 ·rename_i o ho
  split at h
  ·rename_i hh
   rw[if_pos hh];exact Z4 hc hcc h
  ·rename_i hh
   rw[if_neg hh]
   split at h
   ·rename_i ht
    rw[if_pos ht];exact h
   ·rename_i ht
    rw[if_neg ht];exact G1 hc hcc h
theorem JCA{c:Cx}(hcc:c.call=call){mx:Mix}{id:Nat}{ops:Array Oper}:∀{T:Tr} {s r:St},Jv c mx id ops T s=some r->Jv {c with call:=call'} mx id ops T s=some r
 | .fin,s,r,h=>h
 | .finS _,s,r,h=>h
 | .finL _,s,r,h=>h
 | .two k,s,r,h=>h
 | .head k t,s,r,h=>by
  simp only[Jv]at h⊢
  split at h
  ·rename_i h1
   rw[JK4 hc hcc h1];exact JCA hcc h
  ·cases h
 | .one k t,s,r,h=>by
  simp only[Jv]at h⊢
  split at h
  ·rename_i h1
   rw[JK4 hc hcc h1];exact JCA hcc h
  ·cases h
 | .alt a b,s,r,h=>by simp only[Jv]at h⊢;exact JWT (λr h=>JCA hcc h) (λr h=>JCA hcc h) h
theorem JQD{c:Cx}(hcc:c.call=call){k id':Nat}{ops ops':Array Oper}{s r:St}(h:Yp c k ops id' ops' s=some r):Yp {c with call:=call'} k ops id' ops' s=some r:=by
 unfold Yp at h⊢
 split at h
 ·rename_i s1 h1
  rw[Z4 hc hcc h1];exact h
 ·cases h
theorem JK5{c:Cx}(hcc:c.call=call){id:Nat}{ops:Array Oper}{draw:Bool}{s r:St}(h:Kv c id ops draw s=some r):Kv {c with call:=call'} id ops draw s=some r:=by
 unfold Kv at h⊢
 split at h
 ·rename_i s1 h1
  have:(if draw=true then Yo {c with call:=call'} id ops s else Zu {c with call:=call'} ops s (c.hint.tail id))=some s1:=by
   cases draw with
   |false=>
    simp only[Al,if_false]at h1⊢
    cases ht:c.hint.tail id with
    |none=>rw[ht]at h1;exact G1 hc hcc h1
    |some k=>
     rw[ht]at h1;simp only[Zu]at h1⊢
     split at h1
     ·rename_i s2 h2
      rw[G1 hc hcc h2];exact h1
     ·cases h1
   |true=>
    simp only[if_true]at h1⊢;unfold Yo at h1⊢
    split at h1
    ·rename_i hmx
     simp only[hmx];unfold HN at h1⊢
     split at h1
     ·rename_i s2 h2
      rw[Z4 hc hcc h2];exact G1 hc hcc h1
     ·cases h1
    ·rename_i mx hmx
     simp only[hmx];exact JCA hc hcc h1
  rw[this];exact h
 ·cases h
theorem JGd{c:Cx}(hcc:c.call=call){lp lp':YZ}(hl:LLe lp lp'):∀(b:Code) (s:St) (r:Ex×St),evCode c lp b s=some r->evCode {c with call:=call'} lp' b s=some r:=by
 intro b
 induction b with
 |region id ops draw=>
  intro s r h;simp only[evCode,Ag]at h⊢;obtain⟨s1,h1,h2⟩:=h
  exact⟨s1,JK5 hc hcc h1,h2⟩
 |seq x y ihx ihy=>
  intro s r h;simp only[evCode]at h⊢
  cases hx:evCode c lp x s with
  |none=>rw[hx]at h;cases h
  |some p=>
   obtain⟨e,s1⟩:=p;rw[hx]at h;rw[ihx s _ hx]
   cases e with
   |normal=>exact ihy s1 r h
   |_=>exact h
 |cond x p q ihp ihq=>
  intro s r h;simp only[evCode]at h⊢
  split at h
  ·split at h
   ·rename_i ht
    rw[if_pos ht];exact ihp s r h
   ·rename_i ht
    rw[if_neg ht];exact ihq s r h
  ·obtain⟨h1,h2⟩:=qY h
   rw[ihq s r h2]
   split at h1
   ·rename_i k ops id' ops' hla
    rw[Ag]at h1;obtain⟨s1,hs1,rfl⟩:=h1;have:=JQD hc hcc hs1;simp only[hla,this,AK];exact ya
   ·rename_i hla
    simp only[hla,ihp s r h1];exact ya
  ·cases h
 |block id p ih=>
  intro s r h;simp only[evCode]at h⊢
  cases hx:evCode c lp p s with
  |none=>rw[hx]at h;cases h
  |some q=>
   rw[hx]at h;rw[ih s _ hx]
   exact h
 |loop p ih=>
  intro s r h;simp only[evCode]at h⊢
  exact hl _ _ ih s r h
 |scope p ih=>intro s r h;exact ih s r h
 |skip=>intro s r h;exact h
 |exit id=>intro s r h;exact h
 |label l=>intro s r h;exact h
 |ret=>intro s r h;exact h
 |rangeFunc f ps x y _ _=>intro s r h;cases h
 |goto l=>intro s r h;cases h
 |refuse w=>intro s r h;cases h
theorem JGe{hints:Nat->Hint}{lp lp':YZ}(hl:LLe lp lp'){lo f:Nat}{args:List V}{h:JG}{r:V×JG}(he:Yq P hints call lp lo f args h=some r):Yq P hints call' lp' lo f args h=some r:=by
 unfold Yq at he⊢
 split at he
 ·split at he
  ·split at he
   ·rename_i hck
    simp only[hck,if_true]
    split at he
    ·cases he
    ·rename_i hne hs
     rw[JGd hc (c:=⟨P,call,lo,h.length,hints f⟩) rfl hl _ _ _ hs]
     split
     ·rename_i heq;cases heq;exact absurd rfl (hne _)
     ·rename_i heq;cases heq;exact he
     ·rename_i heq;cases heq
    ·cases he
   ·cases he
  ·cases he
 ·cases he
end le
theorem qZ{n:Nat}{f:St->Option (Ex×St)}{s:St}:loopN (n+1) f s=match f s with
  |some (.normal,s')=>loopN n f s'
  |r=>r:=rfl
theorem Z5:∀{n k:Nat},n<=k->LLe (loopN n) (loopN k)
 |0,_,_,f,g,_,s,r,h=>by cases h
 |n+1,0,hn,_,_,_,_,_,_=>by omega
 |n+1,k+1,hn,f,g,hfg,s,r,h=>by
  simp only[loopN]at h⊢
  cases hx:f s with
  |none=>rw[hx]at h;cases h
  |some p=>
   obtain⟨e,s1⟩:=p;rw[hx]at h;rw[hfg s _ hx]
   cases e with
   |normal=>exact Z5 om f g hfg s1 r h
   |_=>exact h
theorem jJ{P:Program}{hints:Nat->Hint}{prim:Nat->Option (Nat->List V->JG->Option (V×JG))}:∀{n k:Nat},n<=k->CLe (evFun P hints prim n) (evFun P hints prim k)
 |0,_,_,lo,f,args,h,r,he=>by cases he
 |n+1,0,hn,_,_,_,_,_,_=>by omega
 |n+1,k+1,hn,lo,f,args,h,r,he=>by
  simp only[evFun]at he⊢
  split at he
  ·exact he
  ·exact JGe (jJ om) (Z5 om) he
noncomputable def JA:YZ:=λf s=>open Classical in if hx:∃n r,loopN n f s=some r then some (CI (BB hx))else none
theorem jK{f:St->Option (Ex×St)}{s:St}{n:Nat}{r:Ex×St}(h:loopN n f s=some r):JA f s=some r:=by
 have hx:∃n r,loopN n f s=some r:=⟨n,r,h⟩;unfold JA;rw[dif_pos hx];have h1:=BB (BB hx);have e1:=Z5 (LZ (CI hx) n) f f (λ_ _ h=>h) s _ h1
 have e2:=Z5 (LR (CI hx) n) f f (λ_ _ h=>h) s _ h
 rw[e1]at e2;exact e2
theorem yc{f:St->Option (Ex×St)}{s:St}{r:Ex×St}(h:JA f s=some r):∃n,loopN n f s=some r:=by
 unfold JA at h
 split at h
 ·rename_i hx
  cases h;exact⟨_,BB (BB hx)⟩
 ·cases h
theorem JSv(f:St->Option (Ex×St))(s:St):JA f s=match f s with
  |some (.normal,s')=>JA f s'
  |r=>r:=by
 cases hx:f s with
 |none=>
  cases hw:JA f s with
  |none=>rfl
  |some r=>
   obtain⟨n,hn⟩:=yc hw
   cases n with
   |zero=>cases hn
   |succ n=>simp only[loopN,hx]at hn;cases hn
 |some p=>
  obtain⟨e,s1⟩:=p
  cases e with
  |normal=>
   simp only
   cases hw:JA f s1 with
   |some r=>
    obtain⟨n,hn⟩:=yc hw
    exact jK (n:=n+1) (by simp only[loopN,hx];exact hn)
   |none=>
    cases hw':JA f s with
    |none=>rfl
    |some r=>
     obtain⟨n,hn⟩:=yc hw'
     cases n with
     |zero=>cases hn
     |succ n=>
      simp only[loopN,hx]at hn;rw[jK hn]at hw
      cases hw
  |exit id=>exact jK (n:=1) (by simp only[loopN,hx])
  |ret=>exact jK (n:=1) (by simp only[loopN,hx])
theorem JWW{n:Nat}:LLe (loopN n) JA:=λf g hfg s r h=>jK (Z5 (Ad n) f g hfg s r h)
section ev
variable(P:Program)(hints:Nat->Hint)(prim:Nat->Option (Nat->List V->JG->Option (V×JG)))
noncomputable def ev:Zs:=λlo f args h=>open Classical in if hx:∃n r,evFun P hints prim n lo f args h=some r then some (CI (BB hx))else none
variable{P hints prim}
theorem JSw{n lo f:Nat}{args:List V}{h:JG}{r:V×JG}(he:evFun P hints prim n lo f args h=some r):ev P hints prim lo f args h=some r:=by have hx:∃n r,evFun P hints prim n lo f args h=some r:=⟨n,r,he⟩;unfold ev;rw[dif_pos hx];have h1:=BB (BB hx);have e1:=jJ (LZ (CI hx) n) _ _ _ _ _ h1;have e2:=jJ (LR (CI hx) n) _ _ _ _ _ he;rw[e1]at e2;exact e2
theorem JOg{lo f:Nat}{args:List V}{h:JG}{r:V×JG}(he:ev P hints prim lo f args h=some r):∃n,evFun P hints prim n lo f args h=some r:=by
 unfold ev at he
 split at he
 ·rename_i hx
  cases he;exact⟨_,BB (BB hx)⟩
 ·cases he
theorem JK6{lo f:Nat}{args:List V}{h:JG}{r:V×JG}(he:ev P hints prim lo f args h=some r):∃N,∀n,N<=n->evFun P hints prim n lo f args h=some r:=by obtain⟨N,hN⟩:=JOg he;exact⟨N,λn hn=>jJ hn _ _ _ _ _ hN⟩
noncomputable def cxN(P:Program)(hints:Nat->Hint)(prim:Nat->Option (Nat->List V->JG->Option (V×JG)))(c:Cx)(n:Nat):Cx:={c with call:=evFun P hints prim n}
theorem qf{lo:Nat}{mutc:Bool}{s:St}{op:Op}{r:V×St}(h:KX P (ev P hints prim) lo mutc s op=some r):∃N,∀n,N<=n->KX P (evFun P hints prim n) lo mutc s op=some r:=by
 cases op with
 |call c=>
  simp only[KX]at h⊢
  split at h
  ·unfold WJ at h⊢
   split at h
   ·split at h
    ·rename_i hcall
     obtain⟨N,hN⟩:=JK6 hcall;exact⟨N,λn hn=>by rw[hN n hn];exact h⟩
    ·cases h
   ·cases h
  ·exact⟨0,λ_ _=>h⟩
  ·cases h
 |makeMap t r=>exact⟨0,λ_ _=>by cases r<;>exact h⟩
 |_=>exact⟨0,λ_ _=>h⟩
theorem JQG{c:Cx}(hP:c.P=P){s:St}{o:Oper}{r:V×St}(h:YA {c with call:=ev P hints prim} s o=some r):∃N,∀n,N<=n->YA (cxN P hints prim c n) s o=some r:=by
 subst hP;unfold YA at h;unfold YA cxN
 split at h
 ·rename_i hn
  exact⟨0,λn _=>by rw[if_pos hn];exact h⟩
 rename_i hn;simp only[if_neg hn]
 split at h
 ·rename_i he
  obtain⟨N,hN⟩:=qf h;exact⟨N,λn hn=>by rw[if_pos he];exact hN n hn⟩
 ·rename_i he
  exact⟨0,λn _=>by rw[if_neg he];exact h⟩
theorem JK7{c:Cx}(hP:c.P=P){s:St}{o:Oper}{v:V}(h:Km {c with call:=ev P hints prim} s o=some v):∃N,∀n,N<=n->Km (cxN P hints prim c n) s o=some v:=by
 subst hP;unfold Km at h;unfold Km cxN
 split at h
 ·rename_i he
  simp only[he,if_true]
  split at h
  ·split at h
   ·split at h
    ·unfold JAd at h
     split at h
     ·rename_i hp
      obtain⟨N,hN⟩:=JK6 hp;exact⟨N,λn hn=>by simp only[hN n hn,JAd];exact h⟩
     ·cases h
    ·cases h
   ·cases h
  ·split at h
   ·cases h
   ·rename_i hm
    simp only[Ag]at h⊢;obtain⟨p,hp,rfl⟩:=h;obtain⟨N,hN⟩:=qf hp;refine⟨N,λn hn=>?_⟩
    rw[if_neg hm];simp only[Ag];exact⟨p,hN n hn,rfl⟩
  ·simp only[Ag]at h⊢
   obtain⟨p,hp,rfl⟩:=h;obtain⟨N,hN⟩:=qf hp;exact⟨N,λn hn=>⟨p,hN n hn,rfl⟩⟩
  ·cases h
 ·rename_i he
  exact⟨0,λn _=>by rw[if_neg he];exact h⟩
theorem YJ{c:Cx}(hP:c.P=P){ops:Array Oper}:∀{l:List Oper} {s r:St},KL {c with call:=ev P hints prim} ops l s=some r->∃N,∀n,N<=n->KL (cxN P hints prim c n) ops l s=some r
 |[],_,_,h=>⟨0,λ_ _=>h⟩
 |o::l,s,r,h=>by
  simp only[KL]at h⊢
  split at h
  ·rename_i _
   split at h
   ·rename_i hop
    obtain⟨N,hN⟩:=JQG hP hop;obtain⟨K,hK⟩:=YJ hP h;refine⟨max N K,λn hn=>?_⟩
    simp only[hN n om];exact hK n om
   ·cases h
  ·rename_i _
   split at h
   ·cases h
   ·rename_i hna
    obtain⟨K,hK⟩:=YJ hP h;refine⟨K,λn hn=>?_⟩
    simp only[if_neg hna];exact hK n hn
  ·cases h
theorem Wm{c:Cx}(hP:c.P=P){ops:Array Oper}:∀{l:List Oper} {s r:St},J3 {c with call:=ev P hints prim} ops l s=some r->∃N,∀n,N<=n->J3 (cxN P hints prim c n) ops l s=some r
 |[],_,_,h=>⟨0,λ_ _=>h⟩
 |o::l,s,r,h=>by
  simp only[J3]at h⊢
  split at h
  ·rename_i _
   split at h
   ·rename_i hop
    obtain⟨N,hN⟩:=JK7 hP hop;obtain⟨K,hK⟩:=Wm hP h;refine⟨max N K,λn hn=>?_⟩
    simp only[hN n om];exact hK n om
   ·cases h
  ·rename_i _
   split at h
   ·cases h
   ·rename_i hna
    obtain⟨K,hK⟩:=Wm hP h;refine⟨K,λn hn=>?_⟩
    simp only[if_neg hna];exact hK n hn
  ·cases h
theorem JCB{c:Cx}(hP:c.P=P){mx:Mix}{ops:Array Oper}{k:Nat}{s r:St}(h:Qa {c with call:=ev P hints prim} mx ops k s=some r):∃N,∀n,N<=n->Qa (cxN P hints prim c n) mx ops k s=some r:=by
 unfold Qa at h⊢
 split at h
 ·cases h
 ·rename_i o ho
  split at h
  ·rename_i hh
   obtain⟨N,hN⟩:=Wm hP h;exact⟨N,λn hn=>by rw[if_pos hh];exact hN n hn⟩
  ·rename_i hh
   split at h
   ·rename_i ht
    exact⟨0,λn _=>by rw[if_neg hh,if_pos ht];exact h⟩
   ·rename_i ht
    obtain⟨N,hN⟩:=YJ hP h;exact⟨N,λn hn=>by rw[if_neg hh,if_neg ht];exact hN n hn⟩
theorem jM{c:Cx}(hP:c.P=P){mx:Mix}{id:Nat}{ops:Array Oper}:∀{T:Tr} {s r:St},Jv {c with call:=ev P hints prim} mx id ops T s=some r->∃N,∀n,N<=n->Jv (cxN P hints prim c n) mx id ops T s=some r
 | .fin,s,r,h=>⟨0,λ_ _=>h⟩
 | .finS _,s,r,h=>⟨0,λ_ _=>h⟩
 | .finL _,s,r,h=>⟨0,λ_ _=>h⟩
 | .two k,s,r,h=>⟨0,λ_ _=>h⟩
 | .head k t,s,r,h=>by
  simp only[Jv]at h
  split at h
  ·rename_i h1
   obtain⟨N,hN⟩:=JCB hP h1;obtain⟨K,hK⟩:=jM hP h;refine⟨max N K,λn hn=>?_⟩
   simp only[Jv,hN n om];exact hK n om
  ·cases h
 | .one k t,s,r,h=>by
  simp only[Jv]at h
  split at h
  ·rename_i h1
   obtain⟨N,hN⟩:=JCB hP h1;obtain⟨K,hK⟩:=jM hP h;refine⟨max N K,λn hn=>?_⟩
   simp only[Jv,hN n om];exact hK n om
  ·cases h
 | .alt a b,s,r,h=>by
  simp only[Jv]at h;obtain⟨r1,r2,h1,h2,_,_⟩:=qW h;obtain⟨N,hN⟩:=jM hP h1;obtain⟨K,hK⟩:=jM hP h2;refine⟨max N K,λn hn=>?_⟩
  simp only[Jv,hN n om,hK n om];rw[h1,h2]at h;exact h
theorem JK8{c:Cx}(hP:c.P=P){k id':Nat}{ops ops':Array Oper}{s r:St}(h:Yp {c with call:=ev P hints prim} k ops id' ops' s=some r):∃N,∀n,N<=n->Yp (cxN P hints prim c n) k ops id' ops' s=some r:=by
 unfold Yp at h
 split at h
 ·rename_i s1 h1
  obtain⟨N,hN⟩:=Wm hP h1;refine⟨N,λn hn=>?_⟩
  unfold Yp;rw[hN n hn];exact h
 ·cases h
theorem JK9{c:Cx}(hP:c.P=P){id:Nat}{ops:Array Oper}{s s1:St}(h1:Yo {c with call:=ev P hints prim} id ops s=some s1):∃N,∀n,N<=n->Yo (cxN P hints prim c n) id ops s=some s1:=by
 unfold Yo at h1
 split at h1
 ·rename_i hmx
  unfold HN at h1
  split at h1
  ·rename_i s2 h2
   obtain⟨N,hN⟩:=Wm hP h2;obtain⟨K,hK⟩:=YJ hP h1;refine⟨max N K,λn hn=>?_⟩
   have e1:=hN n om;have e2:=hK n om;unfold Yo;rw[show(cxN P hints prim c n).hint.mix id=none from hmx]
   unfold HN;exact(congrArg (λx:Option St=>match x with|some s'=>KL (cxN P hints prim c n) ops (ops.toList.drop (Jw c.P c.hint id ops)) s'|none=>none) e1).trans e2
  ·cases h1
 ·rename_i mx hmx
  obtain⟨N,hN⟩:=jM hP h1;refine⟨N,λn hn=>?_⟩
  unfold Yo;rw[show(cxN P hints prim c n).hint.mix id=some mx from hmx]
  exact hN n hn
theorem JDt{c:Cx}(hP:c.P=P){id:Nat}{ops:Array Oper}{draw:Bool}{s r:St}(h:Kv {c with call:=ev P hints prim} id ops draw s=some r):∃N,∀n,N<=n->Kv (cxN P hints prim c n) id ops draw s=some r:=by
 unfold Kv at h
 split at h
 ·rename_i s1 h1
  have:∃N,∀n,N<=n->(if draw=true then Yo (cxN P hints prim c n) id ops s else Zu (cxN P hints prim c n) ops s (c.hint.tail id))=some s1:=by
   cases draw with
   |false=>
    simp only[Al,if_false]at h1⊢
    cases ht:c.hint.tail id with
    |none=>rw[show({c with call:=ev P hints prim}:Cx).hint.tail id=none from ht]at h1;exact YJ hP h1
    |some k=>
     rw[show({c with call:=ev P hints prim}:Cx).hint.tail id=some k from ht]at h1
     simp only[Zu]at h1⊢
     split at h1
     ·rename_i s2 h2
      obtain⟨N,hN⟩:=YJ hP h2;refine⟨N,λn hn=>?_⟩
      rw[hN n hn];exact h1
     ·cases h1
   |true=>simp only[if_true]at h1⊢;exact JK9 hP h1
  obtain⟨N,hN⟩:=this;refine⟨N,λn hn=>?_⟩
  unfold Kv;rw[show(cxN P hints prim c n).hint.tail id=c.hint.tail id from rfl,hN n hn]
  exact h
 ·cases h
theorem JLA{c:Cx}(hP:c.P=P):∀(b:Code) (s:St) (r:Ex×St),evCode {c with call:=ev P hints prim} JA b s=some r->∃N,∀n,N<=n->evCode (cxN P hints prim c n) (loopN n) b s=some r:=by
 intro b
 induction b with
 |region id ops draw=>
  intro s r h;simp only[evCode,Ag]at h⊢;obtain⟨s1,h1,h2⟩:=h;obtain⟨N,hN⟩:=JDt hP h1
  exact⟨N,λn hn=>⟨s1,hN n hn,h2⟩⟩
 |seq x y ihx ihy=>
  intro s r h;simp only[evCode]at h⊢
  cases hx:evCode {c with call:=ev P hints prim} JA x s with
  |none=>rw[hx]at h;cases h
  |some p=>
   obtain⟨e,s1⟩:=p;rw[hx]at h;obtain⟨N,hN⟩:=ihx s _ hx
   cases e with
   |normal=>
    obtain⟨K,hK⟩:=ihy s1 r h;refine⟨max N K,λn hn=>?_⟩
    rw[hN n om]
    exact hK n om
   |exit id=>exact⟨N,λn hn=>by rw[hN n hn];exact h⟩
   |ret=>exact⟨N,λn hn=>by rw[hN n hn];exact h⟩
 |cond x p q ihp ihq=>
  intro s r h;simp only[evCode]at h⊢
  split at h
  ·split at h
   ·rename_i ht
    obtain⟨N,hN⟩:=ihp s r h;exact⟨N,λn hn=>by rw[if_pos ht];exact hN n hn⟩
   ·rename_i ht
    obtain⟨N,hN⟩:=ihq s r h;exact⟨N,λn hn=>by rw[if_neg ht];exact hN n hn⟩
  ·obtain⟨h1,h2⟩:=qY h
   obtain⟨K,hK⟩:=ihq s r h2
   split at h1
   ·rename_i k ops id' ops' hla
    rw[Ag]at h1;obtain⟨s1,hs1,rfl⟩:=h1;obtain⟨N,hN⟩:=JK8 hP hs1
    exact⟨max N K,λn hn=>by
     have e1:=hN n om;have e2:=hK n om;have e3:Gj (cxN P hints prim c n).P (cxN P hints prim c n).hint p=some (k,ops,id',ops'):=hla;simp only[e3,e1,e2,AK]
     exact ya⟩
   ·rename_i hla
    obtain⟨N,hN⟩:=ihp s r h1
    exact⟨max N K,λn hn=>by
     have e3:Gj (cxN P hints prim c n).P (cxN P hints prim c n).hint p=none:=hla;simp only[e3,hN n om,hK n om]
     exact ya⟩
  ·cases h
 |block id p ih=>
  intro s r h;simp only[evCode]at h⊢
  cases hx:evCode {c with call:=ev P hints prim} JA p s with
  |none=>rw[hx]at h;cases h
  |some q=>
   rw[hx]at h;obtain⟨N,hN⟩:=ih s _ hx
   exact⟨N,λn hn=>by rw[hN n hn];exact h⟩
 |loop p ih=>
  intro s r h;simp only[evCode]at h⊢;obtain⟨k,hk⟩:=yc h;clear h
  induction k generalizing s with
  |zero=>cases hk
  |succ k ihk=>
   simp only[loopN]at hk
   cases hx:evCode {c with call:=ev P hints prim} JA p s with
   |none=>rw[hx]at hk;cases hk
   |some q=>
    obtain⟨e,s1⟩:=q;rw[hx]at hk;obtain⟨N,hN⟩:=ih s _ hx
    cases e with
    |normal=>
     obtain⟨K,hK⟩:=ihk s1 hk;refine⟨max N K+1,λn hn=>?_⟩
     obtain⟨j,rfl⟩:∃j,n=j+1:=⟨n-1,om⟩;have h2:=hK j om
     have h3:=Z5 (Ad j) _ (evCode (cxN P hints prim c (j+1)) (loopN (j+1)) p)
      (λs r hr=>JGd (c:=cxN P hints prim c j) (call:=evFun P hints prim j) (call':=evFun P hints prim (j+1)) (jJ om) rfl (Z5 om) p s r hr) s1 r h2
     rw[qZ,hN (j+1) om]
     exact h3
    |exit id=>exact⟨N+1,λn hn=>by obtain⟨j,rfl⟩:∃j,n=j+1:=⟨n-1,om⟩;rw[qZ,hN (j+1) om];exact hk⟩
    |ret=>exact⟨N+1,λn hn=>by obtain⟨j,rfl⟩:∃j,n=j+1:=⟨n-1,om⟩;rw[qZ,hN (j+1) om];exact hk⟩
 |scope p ih=>intro s r h;exact ih s r h
 |skip=>intro s r h;exact⟨0,λ_ _=>h⟩
 |exit id=>intro s r h;exact⟨0,λ_ _=>h⟩
 |label l=>intro s r h;exact⟨0,λ_ _=>h⟩
 |ret=>intro s r h;exact⟨0,λ_ _=>h⟩
 |rangeFunc f ps x y _ _=>intro s r h;cases h
 |goto l=>intro s r h;cases h
 |refuse w=>intro s r h;cases h
theorem JLB{lo f:Nat}{args:List V}{h:JG}{r:V×JG}(he:Yq P hints (ev P hints prim) JA lo f args h=some r):∃n,Yq P hints (evFun P hints prim n) (loopN n) lo f args h=some r:=by
 unfold Yq at he
 split at he
 ·rename_i fn hfn
  split at he
  ·rename_i b hb
   split at he
   ·rename_i hck
    split at he
    ·cases he
    ·rename_i e s hne hs
     obtain⟨N,hN⟩:=JLA (c:=⟨P,ev P hints prim,lo,h.length,hints f⟩) rfl b _ _ hs;refine⟨N,?_⟩
     have:=hN N (Ad _);unfold cxN at this;unfold Yq;simp only[hfn,hb,hck,if_true];rw[this]
     split
     ·rename_i heq;cases heq;exact absurd rfl (hne _)
     ·rename_i heq;cases heq;exact he
     ·rename_i heq;cases heq
    ·cases he
   ·cases he
  ·cases he
 ·cases he
theorem Jfp{lo f:Nat}{args:List V}{h:JG}(hp:prim f=none):ev P hints prim lo f args h=Yq P hints (ev P hints prim) JA lo f args h:=by
 cases hb:Yq P hints (ev P hints prim) JA lo f args h with
 |some r=>
  obtain⟨n,hn⟩:=JLB hb
  exact JSw (n:=n+1) (by simp only[evFun,hp];exact hn)
 |none=>
  cases he:ev P hints prim lo f args h with
  |none=>rfl
  |some r=>
   obtain⟨n,hn⟩:=JOg he
   cases n with
   |zero=>cases hn
   |succ n=>
    simp only[evFun,hp]at hn;have:=JGe (λlo f args h r hr=>JSw (n:=n) hr) JWW hn
    rw[this]at hb;cases hb
theorem JJd{lo f:Nat}{args:List V}{h:JG}{p:Nat->List V->JG->Option (V×JG)}(hp:prim f=some p):ev P hints prim lo f args h=p lo args h:=by
 cases hb:p lo args h with
 |some r=>exact JSw (n:=1) (by simp only[evFun,hp];exact hb)
 |none=>
  cases he:ev P hints prim lo f args h with
  |none=>rfl
  |some r=>
   obtain⟨n,hn⟩:=JOg he
   cases n with
   |zero=>cases hn
   |succ n=>simp only[evFun,hp]at hn;rw[hb]at hn;cases hn
end ev
end Go.Lift
end

section
namespace Go.Lift
open Go.ChangeShapes Go.WideShapes Go.RowKit
mutual
inductive Ty(P:Program):TypeId->List V->Prop
 |bool {t:TypeId} (b:Bool):P.underlying t=some .bool->Ty P t [.v (.bool b)]
 |int {t:TypeId} (k:IntKind) (n:Int):P.underlying t=some (.int k)->(Lit.int k n).wf=true->Ty P t [.v (.int k n)]
 |string {t:TypeId} (s:ByteArray):P.underlying t=some .string->Ty P t [.v (.string s)]
 |slice {t e:TypeId} (rows:List (List V)):P.underlying t=some (.slice e)->(∀row∈rows,Ty P e row)->Ty P t [.list .no rows]
 |struct {t:TypeId} (fs:Array Field) (cells:List V):P.underlying t=some (.struct fs)->TyFs P fs.toList cells->Ty P t cells
inductive TyFs(P:Program):List Field->List V->Prop
 |nil:TyFs P [] []
 |cons {f:Field} {fs:List Field} {p q:List V}:Ty P f.type p->TyFs P fs q->TyFs P (f::fs) (p++q)
end
mutual
def yf:V->Nat
 | .v (.string s)=>s.size+1
 | .list _ rows=>jN rows+1
 |_=>1
def Ql:List V->Nat
 |[]=>0
 |v::r=>yf v+Ql r
def jN:List (List V)->Nat
 |[]=>0
 |r::rs=>Ql r+jN rs
end
theorem JJe(l r:List V):Ql (l++r)=Ql l+Ql r:=by
 induction l with
 |nil=>simp[Ql]
 |cons x l ih=>simp only[AA,Ql,ih];omega
def Qv(P:Program)(ts:List Nat):Nat->List Field->Nat->Bool
 |o,[],n=>o==n
 |o,f::fs,n=>ts.contains f.type&&f.offset==o&&Qv P ts (o+P.cellsOf f.type) fs n
def GY(P:Program)(ts:List Nat)(t:Nat):Bool:=match P.underlying t with
 |some .bool=>true
 |some (.int _)=>true
 |some .string=>true
 |some (.slice e)=>ts.contains e&&decide (0<P.cellsOf e)
 |some (.struct fs)=>Qv P ts 0 fs.toList (P.cellsOf t)
 |_=>false
structure IsBulk{H:Type}(B:DataW H->Nat)(BA:List (DataW H)->Nat):Prop where
 nil:BA []=0
 cons:∀d r,BA (d::r)=B d+BA r
 str:∀b,B (.lit (.string b))=b.length+1
 bool:∀b,B (.lit (.bool b))=1
 int:∀k n,B (.lit (.int k n))=1
 none:B .nil=1
 slice:∀e s,BA e+1<=B (.slice e s)
 agg:∀p,B (.agg p)=BA p+1
theorem JLC{H:Type}{B:DataW H->Nat}{BA:List (DataW H)->Nat}(hB:IsBulk B BA):∀(l:List (DataW H)) (rows:List (List V)),l.length=rows.length->
  (∀(i:Nat) d row,l[i]? =some d->rows[i]? =some row->Ql row<=B d)->jN rows<=BA l
 |[],[],_,_=>by simp[jN,hB.nil]
 |d::l,row::rows,hl,h=>by
  have h0:=h 0 d row rfl rfl;have h1:=JLC hB l rows (by simpa using hl) (λi d' row' a b=>h (i+1) d' row' (by simpa using a) (by simpa using b))
  simp only[jN,hB.cons];omega
section
variable{H:Type}{enc:TypeId×Value->H}{P:Program}{w:World}{c:Cl}
def Kl(w:World):Cl:=λb=>match w.heap[b]? with
 |some (.cells arr _ _)=>arr.size
 |_=>0
theorem JGf{a:Addr}{x:Value}(h:w.cell? a=some x):a.spot=none/\a.off<Kl w a.block:=by
 unfold World.cell? at h;unfold Kl
 split at h
 ·rename_i arr _ _ hb
  rw[hb]
  split at h
  ·cases h
  ·rename_i hs
   refine⟨by simpa using hs,?_⟩
   exact(AL.1 h).1
 ·cases h
theorem JAk{B:DataW H->Nat}{BA:List (DataW H)->Nat}(hB:IsBulk B BA){ts:List Nat}{fuel n:Nat}{cs:List Value}
  (ih:∀t cs d p,ts.contains t=true->DataW.trod enc P w 0 (λ_=>true) true fuel t cs=some (d,p)->∃vs,R2 (VP (Kl w) w) vs cs/\Ty P t vs/\Ql vs<=B d):
  ∀(fs:List Field) (o:Nat) (xs:List (DataW H×List MemPlace)),Qv P ts o fs n=true->cs.length=n->xs.length=fs.length->
   (∀(i:Nat) (f:Field),fs[i]? =some f->DataW.trod enc P w 0 (λ_=>true) true fuel f.type ((cs.drop f.offset).take (P.cellsOf f.type))=xs[i]?)->
   (∀(i:Nat) (f:Field),fs[i]? =some f->f.offset+P.cellsOf f.type<=n)->
   ∃vs,R2 (VP (Kl w) w) vs (cs.drop o)/\TyFs P fs vs/\Ql vs<=BA (xs.map (·.1))
 |[],o,xs,hf,hc,hx,_,_=>by
  simp only[Qv,beq_iff_eq]at hf;refine⟨[],?_,.nil,by simp[Ql]⟩
  rw[AZ om]
  exact R2.nil
 |f::fs,o,x::xs,hf,hc,hx,hg,hin=>by
  simp only[Qv,Af,beq_iff_eq]at hf;obtain⟨⟨hm,ho⟩,hr⟩:=hf;have h0:=hg 0 f rfl;simp only[BC]at h0
  obtain⟨p,hp1,hp2,hp3⟩:=ih f.type _ x.1 x.2 hm h0;obtain⟨q,hq1,hq2,hq3⟩:=JAk hB ih fs _ xs hr hc (by simpa using hx) (λi g h=>hg (i+1) g (by simpa using h)) (λi g h=>hin (i+1) g (by simpa using h))
  refine⟨p++q,?_,.cons hp2 hq2,?_⟩
  ·have:cs.drop o=(cs.drop f.offset).take (P.cellsOf f.type)++cs.drop (o+P.cellsOf f.type):=by
    rw[<-ho,<-AY,Co]
   rw[this];exact hp1.append hq1
  ·rw[JJe,A2,hB.cons]
   omega
theorem JOh{ts:List Nat}{n:Nat}:∀{fs:List Field} {o:Nat},Qv P ts o fs n=true->o<=n/\ ∀(i:Nat) (f:Field),fs[i]? =some f->f.offset+P.cellsOf f.type<=n
 |[],o,h=>by
  simp only[Qv,beq_iff_eq]at h
  exact⟨om,λi f hf=>by simp at hf⟩
 |f::fs,o,h=>by
  simp only[Qv,Af,beq_iff_eq]at h;obtain⟨⟨_,ho⟩,hr⟩:=h;obtain⟨h1,h2⟩:=JOh hr;refine⟨om,λi g hg=>?_⟩
  cases i with
  |zero=>simp at hg;subst hg;omega
  |succ i=>exact h2 i g (by simpa using hg)
theorem JWX{B:DataW H->Nat}{BA:List (DataW H)->Nat}(hB:IsBulk B BA){ts:List Nat}(hts:ts.all (GY P ts)=true):
  ∀(fuel:Nat) (t:TypeId) (cs:List Value) (d:DataW H) (p:List MemPlace),ts.contains t=true->DataW.trod enc P w 0 (λ_=>true) true fuel t cs=some (d,p)->
   ∃vs,R2 (VP (Kl w) w) vs cs/\Ty P t vs/\Ql vs<=B d:=by
 intro fuel
 induction fuel with
 |zero=>intro t cs d p _ h;simp[DataW.trod]at h
 |succ fuel ih=>
  intro t cs d p ht h;have hp:GY P ts t=true:=Ak.1 hts t (by simpa using ht)
  unfold GY at hp
  split at hp
  ·rename_i hu
   obtain⟨b,rfl,hx⟩:=DataW.trod_bool hu h;cases hx;exact⟨[.v (.bool b)],.cons (.v _ rfl) .nil,.bool b hu,by simp[Ql,yf,hB.bool]⟩
  ·rename_i k hu
   obtain⟨n,rfl,hx,hw⟩:=DataW.trod_int hu h;cases hx;exact⟨[.v (.int k n)],.cons (.v _ rfl) .nil,.int k n hu hw,by simp[Ql,yf,hB.int]⟩
  ·rename_i hu
   obtain⟨s,rfl,hx,hw⟩:=DataW.trod_string hu h;cases hx;refine⟨[.v (.string s)],.cons (.v _ rfl) .nil,.string s hu,?_⟩
   rw[hB.str];simp[Ql,yf]
  ·rename_i e hu
   simp only[Af,decide_eq_true_eq]at hp;rcases DataW.trod_slice hu h with⟨rfl,hx⟩|⟨a,len,cap,elems,rest,n,hn,rfl,hx,_,hl,hm,hlen,hel,_,_⟩
   ·cases hx
    exact⟨[.list .no []],.cons (.empty _ _ _) .nil,.slice [] hu (by simp),by simp[Ql,yf,jN,hB.none]⟩
   ·obtain rfl:fuel=n:=om
    cases hx
    have each:∀i:Nat,i<len->∃r:List V×List Value,w.cells? 0 (a.add (i*P.cellsOf e)) (P.cellsOf e)=some r.2/\R2 (VP (Kl w) w) r.1 r.2/\Ty P e r.1/\
      ∀y,elems[i]? =some y->Ql r.1<=B y.1:=by
     intro i hi;have hy:=hel i hi;have hi':i<elems.length:=om;rw[Ac hi']at hy
     obtain⟨cs',h1,h2⟩:=Option.bind_eq_some_iff.1 hy;obtain⟨vs,g1,g2,g3⟩:=ih e cs' elems[i].1 elems[i].2 (by simpa using hp.1) h2
     refine⟨(vs,cs'),h1,g1,g2,λy hy=>?_⟩
     rw[Ac hi']at hy
     cases hy;exact g3
    have hch:∃F:Nat->List V×List Value,∀i,i<len->w.cells? 0 (a.add (i*P.cellsOf e)) (P.cellsOf e)=some (F i).2/\R2 (VP (Kl w) w) (F i).1 (F i).2/\Ty P e (F i).1/\
      ∀y,elems[i]? =some y->Ql (F i).1<=B y.1:=by
     classical
     refine⟨λi=>if hi:i<len then CI (each i hi)else([],[]),λi hi=>?_⟩
     simp only[dif_pos hi];exact BB (each i hi)
    obtain⟨F,hF⟩:=hch
    have hget:∀(i:Nat) (row:List V),((Bf len).map λi=>(F i).1)[i]? =some row->i<len/\row=(F i).1:=by
     intro i row hr;simp only[An,Ag]at hr
     obtain⟨j,hj,rfl⟩:=hr;obtain⟨hj1,rfl⟩:=Ab.1 hj
     simp at hj1⊢;exact hj1
    have hrows:∀row∈(Bf len).map λi=>(F i).1,Ty P e row:=by intro row hr;simp only[AM,List.mem_range]at hr;obtain⟨i,hi,rfl⟩:=hr;exact(hF i hi).2.2.1
    have hbulk:Ql [V.list .no ((Bf len).map λi=>(F i).1)]<=B (DataW.slice (elems.map (·.1)) (rest.map (·.1))):=by
     have:=JLC hB (elems.map (·.1)) ((Bf len).map λi=>(F i).1) (by simp[hlen]) (λi d row hd hr=>by
      obtain⟨hi,rfl⟩:=hget i row hr;simp only[An,Ag]at hd
      obtain⟨y,hy,rfl⟩:=hd
      exact(hF i hi).2.2.2 y hy)
     have h9:=hB.slice (elems.map (·.1)) (rest.map (·.1))
     simp only[Ql,yf];omega
    by_cases h0:len=0
    ·subst h0
     exact⟨[.list .no []],.cons (.empty _ _ _) .nil,.slice [] hu (by simp),by simpa using hbulk⟩
    ·refine⟨[.list .no ((Bf len).map λi=>(F i).1)],.cons ?_ .nil,.slice _ hu hrows,hbulk⟩
     have hcell:∀i j,i<len->j<P.cellsOf e->∃x,(F i).2[j]? =some x/\w.cell? ⟨a.block,a.off+i*P.cellsOf e+j,none⟩=some x/\a.spot=none/\a.off+i*P.cellsOf e+j<Kl w a.block:=by
      intro i j hi hj;obtain⟨h1,h2,h3⟩:=C6 (hF i hi).1
      have hx:=h3 j hj;have hj':j<(F i).2.length:=om;rw[Ac hj']at hx
      refine⟨(F i).2[j],Ac hj',?_⟩
      obtain⟨hs,ho⟩:=JGf hx
      have hsp:a.spot=none:=by
       obtain⟨_,_,k3⟩:=C6 (hF 0 om).1
       have kx:=k3 0 hp.2
       have kj:0<(F 0).2.length:=by
        obtain⟨_,k2,_⟩:=C6 (hF 0 om).1
        omega
       rw[Ac kj]at kx
       have:=(JGf kx).1;simpa[Addr.add]using this
      have hadr:(a.add (i*P.cellsOf e)).add j=⟨a.block,a.off+i*P.cellsOf e+j,none⟩:=by obtain⟨ab,ao,as⟩:=a;simp only at hsp;subst hsp;unfold Addr.add;by_cases e1:i*P.cellsOf e=0<;>by_cases e2:j=0<;>simp[e1,e2,Nat.add_assoc]
      rw[hadr]at hx ho;exact⟨hx,hsp,ho⟩
     obtain⟨x0,_,_,hsp,_⟩:=hcell 0 0 om hp.2;have hlen2:((Bf len).map λi=>(F i).1).length=len:=by simp
     have hrec:∀(i j:Nat) (row:List V) (v:V),((Bf len).map λi=>(F i).1)[i]? =some row->row[j]? =some v->j<P.cellsOf e/\w.cell? ⟨a.block,a.off+i*P.cellsOf e+j,none⟩=some ((F i).2.getD j default)/\VP (Kl w) w v ((F i).2.getD j default):=by
      intro i j row v hr hv;obtain⟨hi,rfl⟩:=hget i row hr;obtain⟨_,k2,_⟩:=C6 (hF i hi).1
      have hj:j<P.cellsOf e:=by
       have:=(Ab.1 hv).1
       rw[(hF i hi).2.1.1]at this;omega
      obtain⟨x,hx1,hx2,_,_⟩:=hcell i j hi hj;have hx3:(F i).2.getD j default=x:=by simp[List.getD,hx1]
      rw[hx3];exact⟨hj,hx2,(hF i hi).2.1.2 j v x hv hx1⟩
     have key:=VP.list (c:=Kl w) (w:=w) .no ((Bf len).map λi=>(F i).1) a cap (P.cellsOf e) (λi j=>(F i).2.getD j default)
      (by intro he;have:=congrArg Bq he;simp at this;omega) hp.2 hsp (by rw[hlen2];exact hl)
      (by
       rw[hlen2];obtain⟨_,_,_,_,hb⟩:=hcell (len-1) (P.cellsOf e-1) om om
       have e1:len*P.cellsOf e=(len-1)*P.cellsOf e+P.cellsOf e:=by rw[<-Nat.succ_mul,show(len-1).succ=len by omega]
       omega)
      (λi row hr=>by
       obtain⟨hi,rfl⟩:=hget i row hr;obtain⟨_,k2,_⟩:=C6 (hF i hi).1
       rw[(hF i hi).2.1.1];omega)
      (λi j row v hr hv=>(hrec i j row v hr hv).2.1) (λi j row v hr hv=>(hrec i j row v hr hv).2.2)
     rw[hlen2]at key;exact key
  ·rename_i fs hu
   obtain⟨xs,n,hn,hx,hcs,hxs,hg⟩:=DataW.trod_struct hu h;obtain rfl:fuel=n:=om;cases hx;obtain⟨vs,h1,h2,h3⟩:=JAk hB ih fs.toList 0 xs hp hcs (by simpa using hxs) (λi f hf=>hg i f (by simpa using hf)) (JOh hp).2
   refine⟨vs,by simpa using h1,.struct fs vs hu h2,?_⟩
   rw[hB.agg];omega
  ·cases hp
def TyV(P:Program)(t:TypeId)(v:V):Prop:=match P.underlying t with
 |some (.struct _)=>∃cs,v= .agg cs/\Ty P t cs
 |_=>Ty P t [v]
theorem VP.vr0{m:List Nat}{v:V}{x:Value}(h:VP c w v x):VR0 m c w v x:=by
 cases h with
 |v x h=>rfl
 |nil=>rfl
 |empty k ao cap=>exact .empty k ao cap
 |list k rows a cap sz xs h1 h2 h3 h4 h5 h6 h7 h8=>exact .list k rows a cap sz xs h1 h2 h3 h4 h5 h6 h7 h8
theorem VP.vr1{m:List Nat}{v:V}{x:Value}(h:VP c w v x):VR1 m c w v x:=by
 have h0:=h.vr0 (m:=m)
 cases h with
 |v x h=>exact h0
 |nil=>exact h0
 |empty k ao cap=>exact h0
 |list k rows a cap sz xs h1 h2 h3 h4 h5 h6 h7 h8=>exact h0
theorem VP.vrr{m:List Nat}{v:V}{x:Value}(h:VP c w v x):VRr m c w v x:=by
 have h0:=h.vr0 (m:=m)
 cases h with
 |v x h=>exact h0
 |nil=>exact h0
 |empty k ao cap=>exact h0
 |list k rows a cap sz xs h1 h2 h3 h4 h5 h6 h7 h8=>exact h0
def ky:V->Nat
 | .agg cs=>Ql cs
 |v=>yf v
def qg:List V->Nat
 |[]=>0
 |v::r=>ky v+qg r
end
def JWY(P:Program):List TypeId->List V->Prop
 |[],[]=>True
 |t::ts,v::vs=>TyV P t v/\JWY P ts vs
 |_,_=>False
theorem Jfq(v:V)(h:∀cs,v≠ .agg cs):ky v=Ql [v]:=by
 cases v with
 |agg cs=>exact absurd rfl (h cs)
 |_=>simp[ky,Ql]
section
variable{H:Type}{enc:TypeId×Value->H}{P:Program}{w:World}
theorem JZn{c:Cl}{vs:List V}{y:Value}(h:R2 (VP c w) vs [y]):∃v,vs=[v]/\VP c w v y:=by
 match vs,h.1 with
 |[v],_=>exact⟨v,rfl,h.head⟩
theorem JSy{B:DataW H->Nat}{BA:List (DataW H)->Nat}(hB:IsBulk B BA){ts:List Nat}(hts:ts.all (GY P ts)=true){t:TypeId}{y:Value}{d:DataW H}{p:List MemPlace}
  (ht:ts.contains t=true)(hok:D0 P w .any 0 t y)(h:DataW.Trod enc P w 0 (λ_=>true) true t y d p):
  ∃v,VRr [] (Kl w) w v y/\TyV P t v/\ky v<=B d:=by
 obtain⟨fuel,hf⟩:=h;obtain⟨vs,h1,h2,h3⟩:=JWX hB hts fuel t _ d p ht hf;have hp:GY P ts t=true:=Ak.1 hts t (by simpa using ht)
 have one:(∀xs,y≠ .agg xs)->(∀fs,P.underlying t≠some (.struct fs))->∃v,VRr [] (Kl w) w v y/\TyV P t v/\ky v<=B d:=by
  intro hy hn
  have:y.cells.toList=[y]:=by
   cases y with
   |agg xs=>exact absurd rfl (hy xs)
   |_=>rfl
  rw[this]at h1;obtain⟨v,rfl,hv⟩:=JZn h1;refine⟨v,hv.vrr,?_,?_⟩
  ·unfold TyV
   split
   ·rename_i fs he
    exact absurd he (hn fs)
   ·exact h2
  ·rw[Jfq]
   ·exact h3
   ·intro cs hc
    subst hc;cases hv
 unfold GY at hp
 split at hp
 ·rename_i hu
  obtain⟨b,rfl⟩:=okWide_bool hu hok;exact one (λ_ h=>by cases h) (λfs h=>by rw[hu]at h;cases h)
 ·rename_i k hu
  obtain⟨b,rfl⟩:=okWide_int hu hok;exact one (λ_ h=>by cases h) (λfs h=>by rw[hu]at h;cases h)
 ·rename_i hu
  obtain⟨b,rfl⟩:=okWide_string hu hok;exact one (λ_ h=>by cases h) (λfs h=>by rw[hu]at h;cases h)
 ·rename_i e hu
  obtain⟨a,len,cap,rfl⟩:=okWide_slice hu hok;exact one (λ_ h=>by cases h) (λfs h=>by rw[hu]at h;cases h)
 ·rename_i fs hu
  obtain⟨xs,rfl,_⟩:=okWide_struct hu hok;refine⟨.agg vs,⟨xs,rfl,h1.mono λ_ _ hv=>hv.vr1⟩,?_,h3⟩
  unfold TyV;rw[hu];exact⟨vs,rfl,h2⟩
 ·cases hp
theorem JGg{B:DataW H->Nat}{BA:List (DataW H)->Nat}(hB:IsBulk B BA){ts:List Nat}(hts:ts.all (GY P ts)=true):
  ∀{us:List TypeId} {ys:List Value} {ds:List (DataW H)} {p:List MemPlace},us.all ts.contains=true->(∀(j:Nat) t v,us[j]? =some t->ys[j]? =some v->D0 P w .any 0 t v)->
   DataW.TrodAll enc P w 0 (λ_=>true) true us ys ds p->∃vs,R2 (VRr [] (Kl w) w) vs ys/\JWY P us vs/\qg vs<=BA ds
 |[],ys,ds,p,_,_,h=>by
  obtain⟨rfl,rfl,rfl⟩:=trodAll_nil h
  exact⟨[],R2.nil,trivial,by simp[qg]⟩
 |u::us,ys,ds,p,hu,hok,h=>by
  obtain⟨y,ys',d,ds',a,b,rfl,rfl,rfl,h1,h2⟩:=trodAll_cons h;simp only[Bi,Af]at hu;obtain⟨v,v1,v2,v3⟩:=JSy hB hts hu.1 (hok 0 u y rfl rfl) h1;obtain⟨vs,w1,w2,w3⟩:=JGg hB hts hu.2 (λj t x hj hx=>hok (j+1) t x (by simpa using hj) (by simpa using hx)) h2
  refine⟨v::vs,R2.cons v1 w1,⟨v2,w2⟩,?_⟩
  simp only[qg,hB.cons];omega
variable[GTab][BTy]
def GOK(w:World):Prop:=∀n cs,GTab.tab n=some cs->ROs (Kl w) w ⟨n,0,none⟩ cs
theorem JQH(w:World)(hG:GOK w):HOK [] (Kl w) w []:=by
 refine⟨⟨?_,?_,List.nodup_nil,rfl,?_,?_,?_,?_,?_,?_,hG⟩,?_⟩
 ·intro b hb
  unfold Kl at hb⊢
  split at hb
  ·rename_i arr e f he
   exact⟨arr,e,f,he,by simp⟩
  ·cases hb
 ·intro b hb;cases hb
 ·intro t;trivial
 ·intro i o b ho;simp at ho
 ·intro l r x hl
  cases l with
  |slot t=>exact absurd hl.1 (by simp[look])
  |cell i j=>obtain⟨os,b,ho,_⟩:=hl;simp[cellsOfOb]at ho
 ·intro l l' r r' x x' b hl
  cases l with
  |slot t=>exact absurd hl.1 (by simp[look])
  |cell i j=>obtain⟨os,b,ho,_⟩:=hl;simp[cellsOfOb]at ho
 ·intro t u r ht;simp[look]at ht
 ·intro t i j r ht;simp[look]at ht
 ·intro i cs hi;simp[cellsOfOb]at hi
theorem JWZ{hints:Nat->Hint}{prim:Nat->Option (Nat->List V->JG->Option (V×JG))}(hm:P.follows .mixedOrders=true)
  (hprim:∀f p,prim f=some p->∀lo args h r h',lo<=h.length->p lo args h=some (r,h')->KY P lo f args h r h')
  {f:Nat}{vs:List V}{x:Value}{args:Array Value}(hG:GOK w)(he:ev P hints prim 0 f vs []=some (.v x,[]))(ha:R2 (VRr [] (Kl w) w) vs args.toList):
  Calls P f args w λe w'=>e= .returned x/\Below w.heap.size w w':=by
 obtain⟨n,hn⟩:=JOg he;have hc:=JSu hm hprim n 0 f vs [] (.v x) [] (Ad _) hn;obtain⟨_,hcall⟩:=hc.2.2 [] (Kl w) w args (JQH w hG) ha;refine hcall.mono λe w' ⟨y,c',m',h1,h2,_,h4,_⟩=>?_
 obtain rfl:y=x:=h2;refine⟨h1,h4.os,h4.tape,h4.output,h4.size,λk hk=>(h4.fix k hk (λi _ h=>by simp at h) ?_).1⟩
 rintro⟨i,j,r,z,_,hl,_⟩
 obtain⟨os,b,ho,_⟩:=hl;simp[cellsOfOb]at ho
theorem JDu{f:Func}{s:ChangeSpec}{apart fresh handsOn again:Bool}{W W':World}{args:Array Value}{v:Value}{ds gs:List (DataW H)}{before pa pv:List MemPlace}
  (hW:DataW.Whole enc P f.params.toList s.vars apart W args.toList ds gs before)
  (hres:∀(b:Nat) (sp:Nat->Bool) (hd:Bool),DataW.TrodAll enc P W' b sp hd f.resultTypes.toList (v.resultList f.resultTypes.size) (s.fn H (ds++gs)).results [])
  (hargs:DataW.TrodAll enc P W' 0 (λb=>decide (b<W.heap.size)) true f.params.toList args.toList (s.fn H (ds++gs)).args pa)
  (hargs2:DataW.TrodAll enc P W' 0 (λ_=>true) true f.params.toList args.toList (s.fn H (ds++gs)).args pa)
  (hvars:∀sp:Nat->Bool,(∀p∈before,sp p.block=true)->DataW.TrodVars enc P W' sp s.vars (s.fn H (ds++gs)).vars pv)
  (hps:before=pa++pv)(hb:Below W.heap.size W W')
  (hok:∀(j:Nat) (t:TypeId) (r:Value),f.resultTypes[j]? =some t->(v.resultList f.resultTypes.size)[j]? =some r->D0 P W' .any 0 t r):
  s.post enc P f apart fresh handsOn again W args v W':=by
 have hold:∀p∈before,(λb=>decide (b<W.heap.size)) p.block=true:=λp hp=>by simpa using hW.lt p hp
 refine⟨ds,gs,before,[],pa,pv,hW,hres _ _ _,hargs,hvars _ hold,World.keptBut_mono (λp hp=>⟨hp,?_⟩) (hb.frame _),λ_=>?_⟩
 ·rw[hps,AO]at hp
  exact Or.inr hp
 ·have hlt:=hW.lt
  obtain⟨_,_,_,_,_,hz,hn⟩:=hW;refine⟨hok,_,_,([]++pa)++pv,⟨[]++pa,pv,trodAll_append hargs2 (hres _ _ _),hvars _ (λ_ _=>rfl),rfl,?_,?_⟩,?_⟩
  ·intro b off hp
   have hm:MemPlace.cell b off∈before:=by rw[hps];simpa using hp
   rw[hb.frozen (p:=⟨b,off,none⟩) (show b<W.heap.size from hlt _ hm)]
   exact hz b off hm
  ·intro ha
   have:=hn ha;rw[hps]at this;simpa using this
  ·intro p hp _
   rw[hps];simpa using hp
theorem JNK{t:TypeId}(hl:laidOutB P=true)(hr:P.readableRec t=true)(hrow:t<P.types.size){W W':World}{v:Value}{d:DataW H}{ps:List MemPlace}
  (h:DataW.Trod enc P W 0 (λ_=>true) true t v d ps)(hb:Below W.heap.size W W')(hlt:∀x∈ps,x.block<W.heap.size)(sp:Nat->Bool)(hsp:∀x∈ps,sp x.block=true):
  DataW.Trod enc P W' 0 sp true t v d ps:=
 WideElems.Trod_stays hl hr hrow h (λx hx=>hb.same (hlt x hx)) (λx hx=>by simpa using hsp x hx)
theorem Gm(hl:laidOutB P=true){W W':World}(hb:Below W.heap.size W W'):
  ∀{us:List TypeId} {ys:List Value} {ds:List (DataW H)} {p:List MemPlace},us.all (λt=>P.readableRec t&&decide (t<P.types.size))=true->
   DataW.TrodAll enc P W 0 (λ_=>true) true us ys ds p->(∀x∈p,x.block<W.heap.size)->∀(sp:Nat->Bool),(∀x∈p,sp x.block=true)->DataW.TrodAll enc P W' 0 sp true us ys ds p
 |[],ys,ds,p,_,h,_,sp,_=>by
  obtain⟨rfl,rfl,rfl⟩:=trodAll_nil h
  rfl
 |u::us,ys,ds,p,hu,h,hlt,sp,hsp=>by
  obtain⟨y,ys',d,ds',a,b,rfl,rfl,rfl,h1,h2⟩:=trodAll_cons h;simp only[Bi,Af,decide_eq_true_eq]at hu
  exact⟨a,b,JNK hl hu.1.1 hu.1.2 h1 hb (λx hx=>hlt x (by simp[hx])) sp (λx hx=>hsp x (by simp[hx])),
   Gm hl hb (by simpa using hu.2) h2 (λx hx=>hlt x (by simp[hx])) sp (λx hx=>hsp x (by simp[hx])),rfl⟩
theorem JZo{hints:Nat->Hint}{prim:Nat->Option (Nat->List V->JG->Option (V×JG))}(hm:P.follows .mixedOrders=true)
  (hprim:∀f p,prim f=some p->∀lo args h r h',lo<=h.length->p lo args h=some (r,h')->KY P lo f args h r h')
  {B:DataW H->Nat}{BA:List (DataW H)->Nat}(hB:IsBulk B BA){ts:List Nat}(hts:ts.all (GY P ts)=true){fn:Func}{f bt N:Nat}
  (hin:fn.params.toList.all ts.contains=true)(hrd:fn.params.toList.all (λt=>P.readableRec t&&decide (t<P.types.size))=true)(hlaid:laidOutB P=true)
  (hrt:fn.resultTypes= #[bt])(hbt:P.underlying bt=some .bool)
  {s:ChangeSpec}(hv:s.vars=[])(hs:∀l:List (DataW H),l.length=fn.params.size->s.fn H l={results:=[.lit (.bool true)],args:=l})
  (he:∀vs,JWY P fn.params.toList vs->qg vs<=N->ev P hints prim 0 f vs []=some (.v (.bool true),[]))
  {W:World}(hG:GOK W){args:Array Value}{ds gs:List (DataW H)}{before:List MemPlace}{fresh handsOn again:Bool}
  (hval:∀(j:Nat) t v,fn.params[j]? =some t->args[j]? =some v->D0 P W .any 0 t v)
  (hW:DataW.Whole enc P fn.params.toList s.vars false W args.toList ds gs before)(hk:BA (ds++gs)<=N):
  Calls P f args W λe W'=>∃v,e= .returned v/\s.post enc P fn false fresh handsOn again W args v W':=by
 have hW':=hW;have hlt:=hW.lt;obtain⟨p,q,hA,hV,rfl,hfz,hnd⟩:=hW;rw[hv]at hV;obtain⟨rfl,rfl⟩:=trodVars_none hV;simp only[AE]at hW' hk hlt;obtain⟨vs,h1,h2,h3⟩:=JGg hB hts hin (λj t v hj hx=>hval j t v (by simpa using hj) (by simpa using hx)) hA
 refine(JWZ hm hprim hG (he vs h2 om) h1).mono λe W' ⟨he,hb⟩=>?_
 subst he;refine⟨_,rfl,?_⟩
 have hlen:∀{us:List TypeId} {ys:List Value} {ds:List (DataW H)} {p:List MemPlace},DataW.TrodAll enc P W 0 (λ_=>true) true us ys ds p->ds.length=us.length:=by
  intro us
  induction us with
  |nil=>intro ys ds p h;obtain⟨rfl,rfl,rfl⟩:=trodAll_nil h;rfl
  |cons u us ih=>intro ys ds p h;obtain⟨y,ys',d,ds',a,b,rfl,rfl,rfl,h1,h2⟩:=trodAll_cons h;simp[ih h2]
 have hs':=hs ds (by simpa using hlen hA)
 refine JDu (gs:=[]) (pa:=p) (pv:=[]) hW' ?_ ?_ ?_ ?_ (by simp) hb ?_
 ·intro b sp hd
  rw[AE,hs',hrt];exact trodAll_mk1 (shut_bool hbt _)
 ·rw[AE,hs']
  exact Gm hlaid hb hrd hA hlt _ (λx hx=>by simpa using hlt x hx)
 ·rw[AE,hs']
  exact Gm hlaid hb hrd hA hlt _ (λx hx=>rfl)
 ·intro sp _
  rw[AE,hs',hv]<;>rfl
 ·exact ok_one hrt rfl (okWide_bool_mk hbt _)
end
end Go.Lift
end
