/- The lifting: values, states, evaluation, and that it is sound. -/
import Derived.Laws.IdiomStrings
import Derived.MapKept
import Derived.Laws.StructEq
import Derived.Laws.MakeOwn
import Derived.Test.YtolidijpmnompaaGreatDoorGLa
open Array renaming append_assoc->Lx,getD_eq_getD_getElem? ->B5,getElem?_append_left->BT,getElem?_eq_getElem->BE,getElem?_eq_some_iff->AL,getElem?_modify->CL,getElem?_push->BI,getElem?_toList->Bk,length_toList->AJ,mem_append->LQ,mem_toList_iff->CT,setIfInBounds_comm->DY,size_append->CR,toArray_toList->BV,toList_append->Dm,toList_map->BF
open Bool renaming and_eq_true->Af,and_true->B7,false_eq_true->Al,not_eq_true'->BX,not_false->A5,not_true->AN,or_eq_true->AU,or_eq_true_iff->Lr
open Go.Op renaming operands->Dk
open Go.Program renaming bytesOf->Do,cellsOf->Bs
open Go.Region renaming Mode->Dv,binds->Ds,wanted->Bv
open Go.Result renaming andThen->Cn,andThen_ok->Bc
open Go.Sem renaming run_bind->Bm,run_pure->C7
open Go.World renaming cell? ->C4,freeze->L7,frozen? ->BN,setCell->Ll
open List renaming all_cons->Bi,all_eq_true->Ak,all_nil->Dt,any_eq_true->Dy,append_assoc->Ax,append_nil->AE,contains_iff_mem->C9,drop_eq_nil_of_le->AZ,eq_nil_of_length_eq_zero->Ar,exists_mem_of_ne_nil->Ca,ext_getElem? ->C5,flatten_cons->CQ,getElem?_append->BU,getElem?_append_left->Bd,getElem?_append_right->Bb,getElem?_cons_succ->Cf,getElem?_cons_zero->BC,getElem?_drop->Bg,getElem?_eq_getElem->Ac,getElem?_eq_some_iff->Ab,getElem?_map->An,getElem?_set->Br,getElem?_take->AH,getElem?_toArray->B0,getElem_inj->Dx,getElem_mem->AW,getElem_of_mem->AV,isEmpty_eq_false_iff->Dp,isEmpty_iff->CE,length->Bq,length_append->Ao,length_cons->Ae,length_drop->AB,length_map->Aq,length_nil->Ai,length_set->B4,length_take->Az,map_congr_left->A4,map_cons->A2,map_map->B1,mem_append->AO,mem_cons_of_mem->AX,mem_map->AM,mem_of_getElem? ->Aj,mem_or_eq_of_mem_set->CS,mem_singleton->A1,nil_append->Au,nodup_cons->DD,range->Bf,set_eq_take_append_cons_drop->CX,size_toArray->BZ,take_append_of_le_length->CC,take_of_length_le->BW,take_set_of_le->Dl,take_take->Du
open Nat renaming add_assoc->CO,add_mul->A6,add_sub_cancel_left->BD,add_zero->Bo,div_add_mod->D9,div_lt_of_lt_mul->DB,le_refl->Ad,le_trans->Bt,lt_irrefl->C1,lt_of_lt_of_le->Cm,lt_or_ge->Ay,lt_or_gt_of_ne->LA,lt_trichotomy->LH,min_eq_left->B3,mod_eq_of_lt->LP,mod_lt->DC,mul_comm->CZ,mul_le_mul_left->DL,mul_le_mul_right->AF,zero_add->AC,zero_le->B9,zero_mul->DX
open Option renaming isSome_iff_exists->A7,map_eq_some_iff->Ag,map_some->AK
open Option.some renaming inj->Bh,injEq->Ah
open Prod.mk renaming injEq->AG
set_option linter.unusedVariables false
set_option linter.unusedSimpArgs false
set_option linter.unusedSectionVars false
section
namespace Go.Lift
variable[GTab][BTy]
def Does(P:Program)(w:World)(a:Act)(o:Oper)(x:Value)(w':World):Prop:=
 (execOp a.eval o).run P w= .ok (.value x) w'\/((execOp a.eval o).run P w= .ok .skip w'/\x=undef)
theorem Kz{P:Program}{w w':World}{a:Act}{o:Oper}{s:Sem Value}{x:Value}(he:execOp a.eval o=(do pure (Next.value (<-s))))(hs:s.run P w= .ok x w'):Does P w a o x w':=by
 refine .inl ?_
 rw[he,Bm,hs]<;>rfl
section
variable{P:Program}{vars:List Nat}{m:List Nat}{c:Cl}{w:World}{g:Jl}{h:JG}{a:Act}{E:Entry}
def Done(P:Program)(vars:List Nat)(E:Entry)(w:World)(a:Act)(o:Oper)(v:V)(g':Jl)(h':JG):Prop:=
 ∃x w' m' c',Does P w a o x w'/\InvP vars E m' c' w' (put o.dst v g') h' (a.put o.dst x)
theorem Zy{u:Nat}{q r:List (List V)}{l:Loc}{x:Value}(hl:At m w (Lift.untag (Lift.ins u (.list .no q) g)) h a l r x):l≠ .slot u/\At m w g h a l r x:=by
 cases l with
 |slot t=>
  obtain⟨h1,h2⟩:=hl;rw[Jy,Qu,look_ins]at h1
  split at h1
  ·cases h1
  ·rename_i ht
   exact⟨λe=>ht (by cases e;rfl),h1,h2⟩
 |cell i j=>exact⟨λe=>(by cases e),hl⟩
theorem JKl{r:List (List V)}{l:Loc}{x:Value}(hl:At m w (Lift.untag g) h a l r x):At m w g h a l r x:=by
 cases l with
 |slot t=>exact⟨Qu.1 (by rw[<-Jy];exact hl.1),hl.2⟩
 |cell i j=>exact hl
theorem WW(t i j:Nat)(r:List (List V)):look (untag g) t≠ .list (.cell i j) r:=λht=>by rw[Jy]at ht;have:=Zx ht;simp at this
theorem jm(v:V)(r:List (List V)):V.list .yes r∉cellsV (cps v):=by
 cases v with
 |agg cs=>
  simp only[cps,cellsV,AM,not_exists,not_and];intro x _ hx
  cases x<;>simp[cp]at hx
 |_=>simp[cps,cp,cellsV]
theorem JPw(y:Value)(r:List (List V)):V.list .yes r∉cellsV (ofC y):=by
 have h1:∀z,Kd z≠ .list .yes r:=λz hz=>by
  unfold Kd at hz
  split at hz
  ·cases hz
  ·split at hz<;>cases hz
  ·cases hz
 unfold ofC
 split
 ·simp only[cellsV,AM,not_exists,not_and]
  intro z _;exact h1 z
 ·have:∀z,cellsV (Kd z)=[Kd z]:=λz=>by
   unfold Kd
   split
   ·rfl
   ·split<;>rfl
   ·rfl
  rw[this];simp only[A1];exact λe=>h1 _ e.symm
theorem HP(hI:InvP vars E m c w g h a)(x:Operand):
  (bare (Jr g x).1=true/\VRr m c w (Jr g x).1 (a.eval x)/\(Jr g x).2=g/\ ∀r,V.list .yes r∉cellsV (Jr g x).1)\/
  (∃t r,x= .tmp t/\look g t= .list .yes r/\(Jr g x).1= .list .yes r/\(Jr g x).2=Lift.ins t (.list .no r) g/\VRr m c w (.list .yes r) (a.eval x)/\At m w g h a (.slot t) r (a.eval x)):=by
 cases x with
 |tmp t=>
  have he:=hI.core.env t
  cases hl:look g t with
  |list k r=>
   cases k with
   |yes=>
    right
    rw[hl]at he
    exact⟨t,r,rfl,hl,by simp[Jr,hl],by simp[Jr,hl],he,hl,rfl⟩
   |_=>
    left
    rw[hl]at he;simp only[Jr,hl]
    exact⟨rfl,VRr.cps he,trivial,jm (.list _ r)⟩
  |_=>
   left
   rw[hl]at he;simp only[Jr,hl]
   exact⟨Zv _,VRr.cps he,trivial,jm _⟩
 |const v=>exact .inl ⟨JKf v,hI.core.opd (.const v),rfl,JPw v⟩
 |global n=>
  refine .inl ⟨?_,hI.core.opd (.global n),rfl,λr=>?_⟩
  ·simp only[Jr,opd]
   split<;>rfl
  ·simp only[Jr,opd]
   split<;>simp[cellsV]
 |func f=>exact .inl ⟨rfl,hI.core.opd (.func f),rfl,λr=>by simp[Jr,opd,cellsV]⟩
theorem InvP.putBare{E:Entry}(hI:InvP vars E m c w g h a){d:Option Nat}{v:V}{x:Value}(hd:∀t,d=some t->t<E.nt)(hv:VRr m c w v x)(hb:bare v=true)
  (hno:(∀t,d=some t->t∉vars)\/(∀t' u r,look g t'≠ .list (.slot u) r)):InvP vars E m c w (Lift.put d v g) h (a.put d x):=
 hI.put hd hv (TagOK.bare hb) (hno.imp id λh1=>⟨h1,hb⟩)
theorem InvP.putOwn{E:Entry}(hI:InvP vars E m c w g h a){d:Option Nat}{r:List (List V)}{x:Value}(hd:∀t,d=some t->t<E.nt)(hv:VRr m c w (.list .yes r) x)
  (ho:OwnB m c w r x)(hu:∀l r' x' b,At m w g h a l r' x'->KM x=some b->KM x'≠some b)(hE:∀b,KM x=some b->E.w.heap.size<=b\/E.ho b)
  (hno:(∀t,d=some t->t∉vars)\/(∀t' u r,look g t'≠ .list (.slot u) r)):InvP vars E m c w (Lift.put d (.list .yes r) g) h (a.put d x):=by
 cases d with
 |none=>exact hI
 |some t=>
  refine hI.ins (hd t rfl) hv (λq e=>?_) (λu q e=>(by cases e)) (λi j q e=>(by cases e)) (hno.imp (λh1=>h1 t rfl) id)
  cases e;exact⟨⟨ho,λl r' x' b _ hl hb=>hu l r' x' b hl hb⟩,hE⟩
theorem JMp(hI:InvP vars E m c w g h a){o:Oper}{x:Operand}(ho:o.op= .assign x)(hd:∀t,o.dst=some t->t<E.nt):
  Done P vars E w a o (own1 (Jr g x).1) (Lift.untag (Jr g x).2) h:=by
 have hr:Does P w a o (a.eval x) w:= .inl (by simp[execOp,ho])
 rcases HP hI x with⟨hb,hv,hg,hny⟩|⟨t,r,rfl,hl,h1,h2,hv,hat⟩
 ·rw[hg]
  by_cases hn:(Jr g x).1= .nil
  ·rw[hn]at hv⊢
   have hv':a.eval x= .slice none 0 0:=hv;rw[hv']at hr;exact⟨_,_,m,c,hr,hI.untag.putOwn hd (.empty _ _ _) (.inl ⟨rfl,rfl⟩) (λ_ _ _ _ _ hb=>by cases hb) (λ_ hb=>by cases hb) (.inr λt u r=>WV t u r)⟩
  ·have:own1 (Jr g x).1=(Jr g x).1:=by cases hq:(Jr g x).1<;>first|rfl|exact absurd hq hn
   rw[this];exact⟨_,_,m,c,hr,hI.untag.putBare hd hv hb (.inr λt u r=>WV t u r)⟩
 ·rw[h1,h2]
  refine⟨_,_,m,c,hr,(hI.release hl).putOwn hd hv (hI.core.own _ _ _ hat) (λl r' x' b hl' hb hb'=>?_) (λb hb=>hI.owned _ _ _ b hat trivial hb) (.inr λt u r=>WV t u r)⟩
  obtain⟨n1,hl''⟩:=Zy hl';exact n1 (hI.core.uniq l (.slot t) r' r x' _ b hl'' hat hb' hb)
theorem Q8{cs:List V}:Gu cs=true↔ ∃x,cs[0]? =some x/\QU x=true:=by
 match cs with
 |[]=>simp[Gu]
 |x::l=>simp[Gu]
theorem Yb(v:V):QU (Lift.own1 v)=QU v:=by cases v<;>rfl
theorem JBr(cs:List V):Gu (cs.map Lift.own1)=Gu cs:=by
 match cs with
 |[]=>rfl
 |x::l=>exact Yb x
theorem JJS{t:TypeId}{cs:List V}(hb:JAw t cs=true):∀T,JPm cs.length=some T->Gu cs=true->t=T:=λT hT hc=>by
 unfold JAw at hb;rw[hT]at hb;simp only[AU,beq_iff_eq,BX]at hb;rcases hb with hb|hb
 ·rw[hb]at hc;cases hc
 ·exact hb
theorem WX(hI:InvP vars E m c w g h a){cs:List V}{arr:Array Value}{e:TypeId}{f:Nat×Nat}{w':World}(hw:w'.heap=w.heap.push (.cells arr e f))(hos:w'.os=w.os)(htape:w'.tape=w.tape)(hout:w'.output=w.output)
  (hf:∀j,j<cs.length->¬(f.1<=j/\j<f.2))(hle:cs.length<=arr.size)(hrel:∀(j:Nat) v x,cs[j]? =some v->arr[j]? =some x->VR1 m c w v x/\x.oneCell'=true)
  (hno:∀(j:Nat) (r:List (List V)),cs[j]? =some (.list .yes r)->r=[]/\arr[j]? =some (.slice none 0 0))(hbt:∀T,JPm cs.length=some T->Gu cs=true->e=T/\arr.size=cs.length):InvP vars E (m++[w.heap.size]) c w' g (h++[.cells cs]) a:=by
 have hnew:w'.heap[w.heap.size]? =some (.cells arr e f):=by rw[hw];simp
 have hold:∀b,b<w.heap.size->w'.heap[b]? =w.heap[b]? :=λb hb=>by rw[hw,BI];simp[show¬b=w.heap.size by omega]
 have hext:Ext c w c w':=⟨λ_=>Ad _,λb o ho=>by
  rcases Ay b w.heap.size with hb|hb
  ·exact Jb (hold b hb) o
  ·rw[hI.core.c_zero hb]at ho;omega,λb _=>Shp.old hold b⟩
 refine hI.grow ⟨by rw[hw];simp,hold,λ_ _=>rfl,λb hb h0=>?_,λb hb=>?_,by simp,rfl,λi o b ho hb=>?_,Ad _,λi cs' j r b ho hj hb=>?_,hos,htape,hout⟩
 ·rw[hI.core.c_zero hb]at h0;omega
 ·simp at hb;subst hb;exact⟨Ad _,hI.core.c_zero (Ad _)⟩
 ·cases i with
  |zero=>
   simp at ho hb;subst ho;subst hb;refine⟨arr,e,f,hnew,hle,λj hj=>?_,λj v x hv hx=>⟨(hrel j v x hv hx).1.mono (Pre.append m _) hext,(hrel j v x hv hx).2⟩,hbt⟩
   have:=hf j hj;simp only[BN,hnew]
   simpa using this
  |succ i=>simp at ho
 ·cases i with
  |zero=>
   simp at ho hb;subst ho;subst hb;obtain⟨k1,k2⟩:=hno j r hj;refine⟨k1,?_⟩
   simp only[C4,hnew]
   simpa using k2
  |succ i=>simp at ho
theorem JBH{w':World}(hl:m.length=h.length):VRr (m++[w.heap.size]) c w' (.ptr h.length 0) (.pointer (some ⟨w.heap.size,0,none⟩)):=
 ⟨w.heap.size,by rw[<-hl];simp,rfl⟩
theorem VR1.own1{v:V}{x:Value}(hv:VR1 m c w v x):VR1 m c w (Lift.own1 v) x:=by
 cases v with
 |nil=>have:x= .slice none 0 0:=hv;subst this;exact VP.empty _ _ _
 |_=>exact hv
theorem YG{cs:List V}{xs:List Value}(hr:R2 (VR1 m c w) cs xs)(hno:∀r,V.list .yes r∉cs):R2 (VR1 m c w) (cs.map Lift.own1) xs/\
  ∀(j:Nat) (r:List (List V)),(cs.map Lift.own1)[j]? =some (.list .yes r)->r=[]/\xs[j]? =some (.slice none 0 0):=by
 refine⟨by simpa using hr.map (g:=id) λ_ _ h=>VR1.own1 h,λj r hj=>?_⟩
 simp only[An,Ag]at hj
 obtain⟨v,hv,he⟩:=hj;obtain⟨y,hy,hvy⟩:=hr.get hv
 cases v with
 |nil=>
  have:y= .slice none 0 0:=hvy;subst this;simp[Lift.own1]at he
  exact⟨he,hy⟩
 |list k q=>
  simp only[Lift.own1]at he;cases he
  exact absurd (Aj hv) (hno r)
 |_=>simp[Lift.own1]at he
theorem KW{v:V}{x:Value}(hv:VR1 m c w v x)(hs:Qs v=true):x.oneCell'=true:=by
 cases v with
 |v z=>have:x=z:=hv;subst this;exact hs
 |nil=>have:x= .slice none 0 0:=hv;subst this;rfl
 |list k r=>exact VP.oneCell hv
 |ptr b o=>obtain⟨g,hg,rfl⟩:=hv;rfl
 |mp b=>obtain⟨g,hg,rfl⟩:=hv;rfl
 |rp cs=>obtain⟨ad,rfl,_⟩:=hv;rfl
 |buf b o n=>obtain⟨g,cap,hg,rfl,_⟩:=hv;rfl
 |stk b n sz=>obtain⟨g,cap,hg,rfl,_⟩:=hv;rfl
 |agg cs=>cases hs
 |tup vs=>cases hs
 |fn f cs=>obtain⟨fs,xs,rfl,_⟩:=hv;rfl
 |undef=>cases hs
 |any=>cases hs
theorem JGN(hI:InvP vars E m c w g h a){o:Oper}{t:TypeId}{z:List Value}(ho:o.op= .alloc t)(hz:K4 P t=some z)(hs:(z.map Kd).all Qs=true)(hbl:JAw t (z.map Kd)=true)(hd:∀t,o.dst=some t->t<E.nt)(hv:∀t,o.dst=some t->t∉vars):
  Done P vars E w a o (.ptr h.length 0) g (h++[.cells ((z.map Kd).map own1)]):=by
 obtain⟨zv,hzv,rfl⟩:=WU (w:=w) hz;have hrel:=YC (m:=m) (c:=c) (w:=w) zv
 obtain⟨hrel1,hno⟩:=YG hrel (λr hr=>by
  obtain⟨y,_,hy⟩:=AM.1 hr;unfold Kd at hy
  split at hy
  ·cases hy
  ·split at hy<;>cases hy
  ·cases hy)
 have hone:∀(j:Nat) x,zv.cells[j]? =some x->x.oneCell'=true:=λj x hx=>by
  have hx':zv.cells.toList[j]? =some x:=by simpa using hx
  have hj:(zv.cells.toList.map Kd)[j]? =some (Kd x):=by simp[hx]
  exact KW (hrel.2 j _ _ hj hx') (Ak.1 hs _ (Aj hj))
 have hI':=WX hI (cs:=(zv.cells.toList.map Kd).map own1) (arr:=zv.cells) (e:=t) (f:=(0,0)) (w':={w with heap:=w.heap.push (.cells zv.cells t)}) rfl rfl rfl rfl (λj _=>by simp) (by simp)
  (λj v x hv hx=>⟨hrel1.2 j v x hv (by simpa using hx),hone j x hx⟩) (λj r hj=>by simpa using hno j r hj)
  (λT hT hc=>by
   rw[JBr]at hc;rw[Aq]at hT
   exact⟨JJS hbl T hT hc,by simp⟩)
 refine⟨_,_,_,_,Kz (s:=Instr.alloc t true (.tuple #[])) (by simp[execOp,ho]) (x:= .pointer (some ⟨w.heap.size,0,none⟩)) (w':={w with heap:=w.heap.push (.cells zv.cells t)}) ?_,hI'.putBare hd (JBH hI.core.len) rfl (.inl hv)⟩
 simp[Instr.alloc,hzv,newVar,newRow]
theorem JV9(hI:InvP vars E m c w g h a){o:Oper}{t:TypeId}{x:Operand}(ho:o.op= .box t x)(hp:W8 (cps (opd g x))=true)(hs:(cellsV (cps (opd g x))).all Qs=true)(hbl:JAw t (cellsV (cps (opd g x)))=true)(hd:∀t,o.dst=some t->t<E.nt)(hv:∀t,o.dst=some t->t∉vars):
  Done P vars E w a o (.ptr h.length 0) g (h++[.cells ((cellsV (cps (opd g x))).map own1)]):=by
 have hx:=(hI.core.opd x).cps;have hrel:=Q7 hx hp;obtain⟨hrel1,hno⟩:=YG hrel (λr hr=>jm _ r hr)
 have hone:∀(j:Nat) y,(a.eval x).cells[j]? =some y->y.oneCell'=true:=λj y hy=>by
  have hy':(a.eval x).cells.toList[j]? =some y:=by simpa using hy
  have hj:j<(cellsV (cps (opd g x))).length:=by rw[hrel.1];exact(Ab.1 hy').1
  exact KW (hrel.2 j _ _ (Ac hj) hy') (Ak.1 hs _ (AW hj))
 have hI':=WX hI (cs:=(cellsV (cps (opd g x))).map own1) (arr:=(a.eval x).cells) (e:=t) (f:=(0,0)) (w':={w with heap:=w.heap.push (.cells (a.eval x).cells t)}) rfl rfl rfl rfl (λj _=>by simp) (by have:=hrel.1;simp at this⊢;omega)
  (λj v y hv hy=>⟨hrel1.2 j v y hv (by simpa using hy),hone j y hy⟩) (λj r hj=>by simpa using hno j r hj)
  (λT hT hc=>by
   rw[JBr]at hc;rw[Aq]at hT;have:=hrel.1;simp at this
   exact⟨JJS hbl T hT hc,by simp;omega⟩)
 refine⟨_,_,_,_,Kz (s:=Instr.box t (a.eval x)) (by simp[execOp,ho]) (x:= .pointer (some ⟨w.heap.size,0,none⟩)) (w':={w with heap:=w.heap.push (.cells (a.eval x).cells t)}) ?_,hI'.putBare hd (JBH hI.core.len) rfl (.inl hv)⟩
 simp[Instr.box,newVar,newRow]
theorem QP{α:Type}{l vs:List α}{o j:Nat}(hb:o+vs.length<=l.length):
  (l.take o++vs++l.drop (o+vs.length))[j]? =if o<=j/\j<o+vs.length then vs[j-o]? else l[j]? :=by
 have ho:(l.take o).length=o:=by simp;omega
 by_cases h1:j<o
 ·rw[if_neg om,Ax,Bd om,AH,if_pos h1]
 ·by_cases h2:j<o+vs.length
  ·rw[if_pos ⟨om,h2⟩,Bd (by simp;omega),Bb om,ho]
  ·rw[if_neg om,Bb (by simp;omega),Bg]
   congr 1
   simp only[Ao,ho];omega
theorem Jp(b:Nat):∀(vs:List Value) (o:Nat) (w:World) (arr:Array Value) (e:TypeId) (f:Nat×Nat),w.heap[b]? =some (.cells arr e f)->o+vs.length<=arr.size->
  (w.setCells b o vs).heap.size=w.heap.size/\(∀k,k≠b->(w.setCells b o vs).heap[k]? =w.heap[k]?)/\(w.setCells b o vs).os=w.os/\(w.setCells b o vs).tape=w.tape/\(w.setCells b o vs).output=w.output/\
  ∃arr':Array Value,(w.setCells b o vs).heap[b]? =some (.cells arr' e f)/\arr'.toList=arr.toList.take o++vs++arr.toList.drop (o+vs.length)
 |[],o,w,arr,e,f,hw,hb=>⟨rfl,λ_ _=>rfl,rfl,rfl,rfl,arr,hw,by simp⟩
 |v::vs,o,w,arr,e,f,hw,hb=>by
  simp only[Ae]at hb
  have hset:(w.setCell ⟨b,o,none⟩ v).heap[b]? =some (.cells (arr.setIfInBounds o v) e f):=by simp[Ll,CL,hw]
  obtain⟨h1,h2,h3,h4,h5,arr',h6,h7⟩:=Jp b vs (o+1) (w.setCell ⟨b,o,none⟩ v) _ e f hset (by simp;omega)
  refine⟨by rw[World.setCells,h1];simp[Ll],λk hk=>?_,h3,h4,h5,arr',h6,?_⟩
  ·rw[World.setCells,h2 k hk]
   simp[Ll,CL,Ne.symm hk]
  ·rw[h7]
   have hlt:o<arr.toList.length:=by simp;omega
   simp only[Array.toList_setIfInBounds,Ae];rw[List.take_succ_eq_append_getElem (by simpa using hlt),List.getElem_set_self,Dl om,List.drop_set_of_lt om]
   simp only[Ax,List.cons_append,Au];rw[show o+1+vs.length=o+(vs.length+1)by omega]
theorem Qb{b o:Nat}{vs:List Value}{arr:Array Value}{e:TypeId}{f:Nat×Nat}(hw:w.heap[b]? =some (.cells arr e f))(hle:o+vs.length<=arr.size):Shp w (w.setCells b o vs) b:=λarr0 e0 f0 h0=>by
 rw[hw]at h0;cases h0;obtain⟨_,_,_,_,_,arr',h6,h7⟩:=Jp b vs o w arr e f hw hle;refine⟨arr',f,h6,?_,λj hj hf=>?_⟩
 ·have:=congrArg Bq h7
  simp only[AJ,Ao,Az,AB]at this;omega
 ·simp only[BN,hw,h6]at hf⊢
  exact hf
theorem J1{b j:Nat}{arr:Array Value}{e:TypeId}{f:Nat×Nat}(hw:w.heap[b]? =some (.cells arr e f)):w.cell? ⟨b,j,none⟩=arr[j]? :=by simp[C4,hw]
theorem JSa{cs:List V}{v:V}{n:Nat}(hk:Zq cs v=true)(h:∀u∈cs,okv n u=true):okv n v=true:=by
 cases v with
 |stk j k z=>
  simp only[Zq,Dy]at hk;obtain⟨u,hu,hj⟩:=hk;have h1:=h u hu
  cases u with
  |stk i k' z'=>
   simp only[beq_iff_eq]at hj;subst hj
   exact h1
  |_=>cases hj
 |_=>cases hk
theorem JKm{cs:List V}{v:V}(hk:Zq cs v=true):∀u∈cellsV (Ko v),Zq cs u=true:=by
 cases v with
 |stk j k z=>
  intro u hu;have:u= .stk j k z:=by simpa[Ko,own1,cellsV]using hu
  rw[this];exact hk
 |_=>cases hk
theorem Yc(hI:InvP vars E m c w g h a){i gb off:Nat}{cs vs:List V}{ys:List Value}(jf:Nat)(hcs:cellsOfOb h i=some cs)(hm:m[i]? =some gb)(hlo:E.lo<=i)
  (hb:off+vs.length<=cs.length)(hr:R2 (VR1 m c w) vs ys)(hone:∀y∈ys,y.oneCell'=true)
  (hown:∀(j:Nat) r x,vs[j]? =some (.list .yes r)->ys[j]? =some x->(r=[]/\x= .slice none 0 0)\/off+j=jf/\OwnB m c w r x/\(∀l r' x' b,At m w g h a l r' x'->KM x=some b->KM x'≠some b)/\ ∀b,KM x=some b->E.w.heap.size<=b\/E.ho b)
  (hjf:off<=jf/\jf<off+vs.length\/cs.length<=jf)
  (hnt:∀t i j r,look g t≠ .list (.cell i j) r)(hok:i<E.base->∀v∈vs,okv (i+1) v=true\/Zq cs v=true)(hbl:yJ vs=true):
  InvP vars E m c (w.setCells gb off ys) g (Lift.setOb h i (cs.take off++vs++cs.drop (off+vs.length))) a/\
  (storeCells ⟨gb,off,none⟩ ys).run P w= .ok () (w.setCells gb off ys):=by
 have hcs0:h[i]? =some (.cells cs):=by
  unfold cellsOfOb at hcs
  split at hcs
  ·rename_i h0;cases hcs;exact h0
  ·cases hcs
 obtain⟨arr,e,f,hw,hle,hfr,hall,hbld⟩:=hI.core.ob i _ gb hcs0 hm;have hlen:ys.length=vs.length:=hr.1.symm;obtain⟨h1,h2,h3,h4,h5,arr',h6,h7⟩:=Jp gb ys off w arr e f hw om;have hc0:c gb=0:=hI.core.wf2 gb (Aj hm)
 have hext:Ext c w c (w.setCells gb off ys):=⟨λ_=>Ad _,λb o ho=>by
  by_cases hb':b=gb
  ·rw[hb',hc0]at ho;omega
  ·exact Jb (h2 b hb') o,λb _=>by
  by_cases hb':b=gb
  ·rw[hb'];exact Qb hw om
  ·exact Shp.same (h2 b hb')⟩
 have hget:∀j,arr'[j]? =if off<=j/\j<off+vs.length then ys[j-off]? else arr[j]? :=λj=>by
  rw[<-Bk,h7,QP (by simp;omega),hlen]
  simp
 have hgetc:∀j,(cs.take off++vs++cs.drop (off+vs.length))[j]? =if off<=j/\j<off+vs.length then vs[j-off]? else cs[j]? :=λj=>QP hb
 have hsize:arr'.size=arr.size:=by have:=congrArg Bq h7;simp only[AJ,Ao,Az,AB]at this;omega
 have hlen':(cs.take off++vs++cs.drop (off+vs.length)).length=cs.length:=by simp;omega
 refine⟨hI.setOb (w':=w.setCells gb off ys) jf hlo hm h1 h2 h3 h4 h5 ?_ ?_ hnt ?_ (Qb hw om),?_⟩
 ·refine⟨arr',e,f,h6,by rw[hlen',hsize];exact hle,λj hj=>?_,λj v x hv hx=>?_,λT hT hc=>?_⟩
  ·rw[hlen']at hj
   have:=hfr j hj;simp only[BN,hw,h6]at this⊢;exact this
  ·rw[hgetc]at hv
   rw[hget]at hx
   split at hv
   ·rename_i hj
    rw[if_pos hj]at hx;exact⟨(hr.2 _ v x hv hx).mono (Pre.refl m) hext,hone x (Aj hx)⟩
   ·rename_i hj
    rw[if_neg hj]at hx;exact⟨(hall j v x hv hx).1.mono (Pre.refl m) hext,(hall j v x hv hx).2⟩
  ·rw[hsize]
   obtain⟨x,k2,k3⟩:=Q8.1 hc;rw[hlen']at hT⊢;rw[hgetc]at k2
   split at k2
   ·exfalso
    have hne:BTy.bt.isEmpty=false:=by
     unfold JPm at hT
     cases hb:BTy.bt with
     |nil=>rw[hb]at hT;cases hT
     |cons x l=>rfl
    unfold yJ at hbl;rw[hne,Bool.false_or]at hbl;have:=Dy.2 ⟨x,Aj k2,k3⟩;rw[this]at hbl;cases hbl
   ·exact hbld T hT (Q8.2 ⟨x,k2,k3⟩)
 ·intro cs' j r x hcs' hj hx
  cases hcs';rw[J1 h6,hget]at hx;rw[hgetc]at hj
  split at hj
  ·rename_i hjb
   rw[if_pos hjb]at hx;rcases hown (j-off) r x hj hx with h0|⟨k1,k2,k3,k4⟩
   ·exact .inl h0
   ·exact .inr ⟨λhne=>absurd om hne,λ_=>⟨k2,λl r' x' b hl _ hb=>k3 l r' x' b hl hb,k4⟩⟩
  ·rename_i hjb
   rw[if_neg hjb]at hx;refine .inr ⟨λ_=>⟨cs,gb,hcs,hj,hm,by rw[J1 hw];exact hx⟩,λhjj=>?_⟩
   have:=(Ab.1 hj).1
   omega
 ·intro cs' hcs' hib n hin h0 v hv
  cases hcs';rw[AO,AO]at hv;rcases hv with(hv|hv)|hv
  ·exact h0 cs hcs v (List.mem_of_mem_take hv)
  ·rcases hok hib v hv with h8|h8
   ·exact JKk h8 hin
   ·exact JSa h8 (h0 cs hcs)
  ·exact h0 cs hcs v (List.mem_of_mem_drop hv)
 ·have:=run_storeCells_cells (P:=P) gb off ys 0 w (λj hj=>by
    rw[J1 hw];have:off+j<arr.size:=om
    simp[this]) (λj hj=>hfr _ om) hone
  simpa using this
theorem cellsV_own1s(v:V):cellsV (Ko v)=(cellsV v).map own1:=by cases v<;>rfl
theorem JPx{n:Nat}{v:V}(hv:okv n v=true):∀u∈cellsV (Ko v),okv n u=true:=by
 intro u hu;rw[cellsV_own1s,AM]at hu;obtain⟨y,hy,rfl⟩:=hu
 have hy':okv n y=true:=by
  cases v with
  |agg ds=>
   have:=Ak.1 hv y hy
   cases y<;>first|exact this|(simp[okc]at this)
  |_=>simp only[cellsV,A1]at hy;subst hy;exact hv
 cases y<;>first|rfl|exact hy'
theorem zh(hI:InvP vars E m c w g h a){o:Oper}{t:TypeId}{p x:Operand}{i off:Nat}{cs:List V}(ho:o.op= .store t p x)(hp:opd g p= .ptr i off)(hcs:cellsOfOb h i=some cs)
  (hc:E.lo<=i/\off+JH P t<=cs.length/\(cellsV (Jr g x).1).length=JH P t/\(P.info? t).isSome/\((cellsV (Jr g x).1).all Qs&&yJ (cellsV (Jr g x).1))=true/\(i<E.base->(okv (i+1) (Jr g x).1||Zq cs (Jr g x).1)=true))
  (hd:∀t,o.dst=some t->t<E.nt):
  Done P vars E w a o (.v undef) (Lift.untag (Jr g x).2) (Lift.setOb h i (cs.take off++cellsV (Ko (Jr g x).1)++cs.drop (off+JH P t))):=by
 obtain⟨c1,c2,c3,c4,c57,c6⟩:=hc;rw[Af]at c57;obtain⟨c5,c7⟩:=c57
 have c8:yJ (cellsV (Ko (Jr g x).1))=true:=by
  rw[cellsV_own1s];unfold yJ at c7⊢
  cases hT:BTy.bt.isEmpty with
  |true=>rfl
  |false=>rw[hT]at c7;simpa[List.any_map,Function.comp_def,Yb]using c7
 obtain⟨gb,hm,hpv⟩:=(by have:=hI.core.opd p;rw[hp]at this;exact this:∃gb,m[i]? =some gb/\a.eval p= .pointer (some ⟨gb,off,none⟩))
 obtain⟨ie,hie⟩:=A7.1 c4
 have hx:VRr m c w (Jr g x).1 (a.eval x):=by
  rcases HP hI x with⟨_,hv,_,_⟩|⟨t',r,rfl,hl,h1,h2,hv,hat⟩
  ·exact hv
  ·rw[h1];exact hv
 have hpart:W8 (Jr g x).1=true:=by cases hq:(Jr g x).1<;>first|rfl|(rw[hq]at c5;simp only[cellsV,Bi,Dt,Qs,B7]at c5;first|exact c5|cases c5)
 have hrel:=Q7 hx hpart
 have hone:∀y∈(a.eval x).cells.toList,y.oneCell'=true:=λy hy=>by
  obtain⟨j,hj,rfl⟩:=AV hy;have hj':j<(cellsV (Jr g x).1).length:=by rw[hrel.1];exact hj
  exact KW (hrel.2 j _ _ (Ac hj') (Ac hj)) (Ak.1 c5 _ (AW hj'))
 have hok:i<E.base->∀u∈cellsV (Ko (Jr g x).1),okv (i+1) u=true\/Zq cs u=true:=λhib u hu=>by
  rcases Lr.1 (c6 hib)with h8|h8
  ·exact .inl (JPx h8 u hu)
  ·exact .inr (JKm h8 u hu)
 have c3':(cellsV (Ko (Jr g x).1)).length=JH P t:=by rw[cellsV_own1s,Aq];exact c3
 have hrun:∀w',(storeCells ⟨gb,off,none⟩ (a.eval x).cells.toList).run P w= .ok () w'->Does P w a o undef w':=λw' hw'=>by
  refine .inr ⟨?_,rfl⟩
  have hsz:(a.eval x).cells.size=ie.size:=by have:=hrel.1;rw[<-JY hie];simp at this;omega
  simp[execOp,ho,Instr.storeAt,hpv,Instr.sureAddr,storeVar,sizeOf,typeInfo,hie,hsz,hw']
 rcases HP hI x with⟨hb,hv,hg,hny⟩|⟨t',r,rfl,hl,h1,h2,hv,hat⟩
 ·rw[hg]
  obtain⟨hrel1,hno⟩:=YG hrel hny;rw[<-cellsV_own1s]at hrel1 hno
  obtain⟨hI',hst⟩:=Yc (P:=P) hI.untag cs.length hcs hm c1 (by rw[c3'];exact c2) hrel1 hone (λj r y hj hy=>by
   obtain⟨k1,k2⟩:=hno j r hj;rw[hy]at k2
   exact .inl ⟨k1,Bh k2⟩) (.inr (Ad _)) (λt i j r=>WW t i j r) hok c8
  rw[c3']at hI';exact⟨_,_,m,c,hrun _ hst,hI'.putBare hd rfl rfl (.inr λt u r=>WV t u r)⟩
 ·have h1':Ko (Jr g (.tmp t')).1= .list .yes r:=by rw[h1]<;>rfl
  rw[h1']at hok c3' c8⊢;rw[h1]at hrel;rw[h2];have hI1:=hI.release hl
  obtain⟨hI',hst⟩:=Yc (P:=P) (vs:=[.list .yes r]) hI1 off hcs hm c1 (by rw[show[V.list .yes r].length=JH P t from c3'];exact c2) hrel hone (λj q y hj hy=>by
   cases j with
   |succ j=>simp at hj
   |zero=>
    simp only[BC,Ah]at hj
    cases hj
    have hy':y=a.eval (.tmp t'):=by
     have:(a.eval (.tmp t')).cells= #[a.eval (.tmp t')]:=by have hv':VP c w (.list .yes r) (a.eval (.tmp t')):=hv;generalize a.eval (.tmp t')=z at hv';cases hv'<;>rfl
     rw[this]at hy;simpa using hy.symm
    subst hy';refine .inr ⟨om,hI.core.own _ _ _ hat,λl r' x' b hl' hb hb'=>?_,λb hb=>hI.owned _ _ _ b hat trivial hb⟩
    obtain⟨n1,hl''⟩:=Zy hl'
    exact n1 (hI.core.uniq l _ r' _ x' _ b hl'' hat hb' hb)) (.inl ⟨Ad _,by simp⟩) (λt i j r=>WW t i j r) hok c8
  rw[show[V.list .yes r].length=JH P t from c3']at hI'
  exact⟨_,_,m,c,hrun _ hst,hI'.putBare hd rfl rfl (.inr λt u r=>WV t u r)⟩
theorem JMq(hI:InvP vars E m c w g h a){o:Oper}{t:TypeId}{z:List Value}(ho:o.op= .alloc t)(hz:K4 P t=some z)(hs:(z.map Kd).all Qs=true)(hbl:JAw t (z.map Kd)=true)(hd:∀t,o.dst=some t->t<E.nt)(hv:∀t,o.dst=some t->t∉vars):
  Done P vars E w a o (.ptr h.length 0) g (h++[.cells (z.map Kd)]):=by
 obtain⟨zv,hzv,rfl⟩:=WU (w:=w) hz;have hrel:=YC (m:=m) (c:=c) (w:=w) zv
 have hno:∀r,V.list .yes r∉zv.cells.toList.map Kd:=λr hr=>by
  obtain⟨y,_,hy⟩:=AM.1 hr;unfold Kd at hy
  split at hy
  ·cases hy
  ·split at hy<;>cases hy
  ·cases hy
 have hone:∀(j:Nat) x,zv.cells[j]? =some x->x.oneCell'=true:=λj x hx=>by
  have hx':zv.cells.toList[j]? =some x:=by simpa using hx
  have hj:(zv.cells.toList.map Kd)[j]? =some (Kd x):=by simp[hx]
  exact KW (hrel.2 j _ _ hj hx') (Ak.1 hs _ (Aj hj))
 have hI':=WX hI (cs:=zv.cells.toList.map Kd) (arr:=zv.cells) (e:=t) (f:=(0,0)) (w':={w with heap:=w.heap.push (.cells zv.cells t)}) rfl rfl rfl rfl (λj _=>by simp) (by simp)
  (λj v x hv hx=>⟨hrel.2 j v x hv (by simpa using hx),hone j x hx⟩) (λj r hj=>absurd (Aj hj) (hno r))
  (λT hT hc=>by
   rw[Aq]at hT
   exact⟨JJS hbl T (by rw[Aq];exact hT) hc,by simp⟩)
 refine⟨_,_,_,_,Kz (s:=Instr.alloc t true (.tuple #[])) (by simp[execOp,ho]) (x:= .pointer (some ⟨w.heap.size,0,none⟩)) (w':={w with heap:=w.heap.push (.cells zv.cells t)}) ?_,hI'.putBare hd (JBH hI.core.len) rfl (.inl hv)⟩
 simp[Instr.alloc,hzv,newVar,newRow]
theorem JPy{n:Nat}{v:V}(hv:okv n v=true):∀u∈cellsV v,okv n u=true:=by
 intro y hy
 cases v with
 |agg ds=>
  have:=Ak.1 hv y hy
  cases y<;>first|exact this|(simp[okc]at this)
 |_=>simp only[cellsV,A1]at hy;subst hy;exact hv
theorem JKn{cs:List V}{v:V}(hk:Zq cs v=true):∀u∈cellsV v,Zq cs u=true:=by
 cases v with
 |stk b n z=>intro u hu;simp only[cellsV,A1]at hu;subst hu;exact hk
 |_=>cases hk
theorem JMr(hI:InvP vars E m c w g h a){o:Oper}{t:TypeId}{p x:Operand}{i off:Nat}{cs:List V}(ho:o.op= .store t p x)(hp:opd g p= .ptr i off)(hcs:cellsOfOb h i=some cs)
  (hc:E.lo<=i/\off+JH P t<=cs.length/\(cellsV (Jr g x).1).length=JH P t/\(P.info? t).isSome/\((cellsV (Jr g x).1).all Qs&&yJ (cellsV (Jr g x).1))=true/\(i<E.base->(okv (i+1) (Jr g x).1||Zq cs (Jr g x).1)=true))
  (hd:∀t,o.dst=some t->t<E.nt):
  Done P vars E w a o (.v undef) (Lift.untag (Jr g x).2) (Lift.setOb h i (cs.take off++cellsV (Jr g x).1++cs.drop (off+JH P t))):=by
 have hst0:=zh hI ho hp hcs hc hd;obtain⟨c1,c2,c3,c4,c57,c6⟩:=hc;rw[Af]at c57;obtain⟨c5,c7⟩:=c57;obtain⟨gb,hm,hpv⟩:=(by have:=hI.core.opd p;rw[hp]at this;exact this:∃gb,m[i]? =some gb/\a.eval p= .pointer (some ⟨gb,off,none⟩))
 obtain⟨ie,hie⟩:=A7.1 c4;rcases HP hI x with⟨hb,hx,hg,hny⟩|⟨t',r,rfl,hl,h1,h2,hv,hat⟩
 case inr=>rw[h1]at hst0⊢;exact hst0
 rw[hg]
 have hpart:W8 (Jr g x).1=true:=by cases hq:(Jr g x).1<;>first|rfl|(rw[hq]at c5;simp only[cellsV,Bi,Dt,Qs,B7]at c5;first|exact c5|cases c5)
 have hrel:=Q7 hx hpart
 have hone:∀y∈(a.eval x).cells.toList,y.oneCell'=true:=λy hy=>by
  obtain⟨j,hj,rfl⟩:=AV hy;have hj':j<(cellsV (Jr g x).1).length:=by rw[hrel.1];exact hj
  exact KW (hrel.2 j _ _ (Ac hj') (Ac hj)) (Ak.1 c5 _ (AW hj'))
 have hok:i<E.base->∀u∈cellsV (Jr g x).1,okv (i+1) u=true\/Zq cs u=true:=λhib u hu=>by
  rcases Lr.1 (c6 hib)with h8|h8
  ·exact .inl (JPy h8 u hu)
  ·exact .inr (JKn h8 u hu)
 have hrun:∀w',(storeCells ⟨gb,off,none⟩ (a.eval x).cells.toList).run P w= .ok () w'->Does P w a o undef w':=λw' hw'=>by
  refine .inr ⟨?_,rfl⟩
  have hsz:(a.eval x).cells.size=ie.size:=by have:=hrel.1;rw[<-JY hie];simp at this;omega
  simp[execOp,ho,Instr.storeAt,hpv,Instr.sureAddr,storeVar,sizeOf,typeInfo,hie,hsz,hw']
 obtain⟨hI',hst⟩:=Yc (P:=P) hI.untag cs.length hcs hm c1 (by rw[c3];exact c2) hrel hone (λj r y hj hy=>absurd (Aj hj) (hny r)) (.inr (Ad _)) (λt i j r=>WW t i j r) hok c7
 rw[c3]at hI';exact⟨_,_,m,c,hrun _ hst,hI'.putBare hd rfl rfl (.inr λt u r=>WV t u r)⟩
end
section
variable{P:Program}{vars:List Nat}{m:List Nat}{c:Cl}{w:World}{g:Jl}{h:JG}{a:Act}{E:Entry}
theorem JPz(hI:InvP vars E m c w g h a){o:Oper}{t:TypeId}{x:Operand}{b:ByteArray}(ho:o.op= .range t x)(hx:opd g x= .v (.string b))(hu:P.underlying t=some .string)(hd:∀t,o.dst=some t->t<E.nt)(hv:∀t,o.dst=some t->t∉vars):
  Done P vars E w a o (.ptr h.length 0) g (h++[.iter b 0]):=by
 have hx':a.eval x= .string b:=by have:=hI.core.opd x;rw[hx]at this;exact this
 have hw:∀k,k<w.heap.size->({w with heap:=w.heap.push (.stringIter b 0)}:World).heap[k]? =w.heap[k]? :=λk hk=>by
  show(w.heap.push _)[k]? =_
  rw[BI];simp[show¬k=w.heap.size by omega]
 have hI':InvP vars E (m++[w.heap.size]) c {w with heap:=w.heap.push (.stringIter b 0)} g (h++[.iter b 0]) a:=by
  refine hI.grow ⟨by simp,hw,λ_ _=>rfl,λk hk h0=>?_,λk hk=>?_,by simp,rfl,λi o k ho hk=>?_,Ad _,λi cs j r b ho=>?_,rfl,rfl,rfl⟩
  ·rw[hI.core.c_zero hk]at h0;omega
  ·simp at hk;subst hk;exact⟨Ad _,hI.core.c_zero (Ad _)⟩
  ·cases i with
   |zero=>simp at ho hk;subst ho;subst hk;simp[ObR]
   |succ i=>simp at ho
  ·cases i with
   |zero=>simp at ho
   |succ i=>simp at ho
 refine⟨_,_,_,_,Kz (s:=Instr.range t (a.eval x)) (by simp[execOp,ho]) (x:= .pointer (some ⟨w.heap.size,0,none⟩)) (w':={w with heap:=w.heap.push (.stringIter b 0)}) ?_,hI'.putBare hd (JBH hI.core.len) rfl (.inl hv)⟩
 simp[Instr.range,hx',run_underlying hu]
theorem JSb(hI:InvP vars E m c w g h a){o:Oper}{x:Operand}{i pos:Nat}{s:ByteArray}(ho:o.op= .next x true)(hx:opd g x= .ptr i 0)(hh:h[i]? =some (.iter s pos))(hlo:E.lo<=i)(hnt:∀t i j r,look g t≠ .list (.cell i j) r)
  (hd:∀t,o.dst=some t->t<E.nt)(hv:∀t,o.dst=some t->t∉vars):
  if pos<s.size then Done P vars E w a o (.tup [.v (.bool true),.v (.int .i64 pos),.v (.int .i32 (Utf8.decode s pos).1)]) g (h.set i (.iter s (pos+(Utf8.decode s pos).2)))
  else Done P vars E w a o (.tup [.v (.bool false)]) g h:=by
 obtain⟨gb,hm,hxv⟩:=(by have:=hI.core.opd x;rw[hx]at this;exact this:∃gb,m[i]? =some gb/\a.eval x= .pointer (some ⟨gb,0,none⟩))
 have hob:w.heap[gb]? =some (.stringIter s pos):=hI.core.ob i _ gb hh hm;have hget:(getObj gb).run P w= .ok (.stringIter s pos) w:=by simp[getObj,Sem.run,hob]
 split
 ·rename_i hlt
  have hset:∀o',({w with heap:=w.heap.setIfInBounds gb o'}:World).heap[gb]? =some o':=λo'=>by
   have:=(AL.1 hob).1
   simp[this]
  have hoth:∀o' k,k≠gb->({w with heap:=w.heap.setIfInBounds gb o'}:World).heap[k]? =w.heap[k]? :=λo' k hk=>by
   show(w.heap.setIfInBounds gb o')[k]? =_
   rw[Array.getElem?_setIfInBounds_ne (Ne.symm hk)]
  have hI':=hI.setOb (o':= .iter s (pos+(Utf8.decode s pos).2)) (w':={w with heap:=w.heap.setIfInBounds gb (.stringIter s (pos+(Utf8.decode s pos).2))}) 0 hlo hm (by simp) (hoth _) rfl rfl rfl (hset _)
   (λcs' j r x hc=>by cases hc) hnt (λcs' hc=>by cases hc) (λarr e f hb=>by rw[hob]at hb;cases hb)
  refine⟨.tuple #[.bool true,.int .i64 pos,.int .i32 (Utf8.decode s pos).1],_,m,c,Kz (s:=Instr.next (a.eval x) true o.type) (by simp[execOp,ho]) ?_,hI'.putBare hd ?_ rfl (.inl hv)⟩
  ·simp only[Instr.next,hxv,Bm,hget,Bc,hlt,if_true]
   simp[setObj,Sem.run,hob,goInt]
  ·exact⟨_,rfl,R2.cons rfl (R2.cons rfl (R2.cons rfl R2.nil))⟩
 ·rename_i hge
  refine⟨.tuple #[.bool false],w,m,c,Kz (s:=Instr.next (a.eval x) true o.type) (by simp[execOp,ho]) ?_,hI.putBare hd ⟨_,rfl,R2.cons rfl R2.nil⟩ rfl (.inl hv)⟩
  simp only[Instr.next,hxv,Bm,hget,Bc,if_neg hge];rfl
theorem jA{k:Own}{rows:List (List V)}{b cap sz:Nat}{arr:Array Value}{e:TypeId}{f:Nat×Nat}(hw:w.heap[b]? =some (.cells arr e f))(hsz:0<sz)(hrow:∀row∈rows,row.length=sz)(hcap:rows.length<=cap)(hc:rows.length*sz<=c b)
  (hrel:∀(i j:Nat) row v,rows[i]? =some row->row[j]? =some v->∃x,arr[i*sz+j]? =some x/\VP c w v x):VP c w (.list k rows) (.slice (some ⟨b,0,none⟩) rows.length cap):=by
 by_cases hne:rows=[]
 ·subst hne;exact .empty _ _ _
 ·refine .list k rows ⟨b,0,none⟩ cap sz (λi j=>arr.getD (i*sz+j) undef) hne hsz rfl hcap (by simpa using hc) (λi row hi=>hrow row (Aj hi)) (λi j row v hi hj=>?_) (λi j row v hi hj=>?_)
  ·obtain⟨x,hx,hv⟩:=hrel i j row v hi hj
   rw[J1 hw];simp[hx]
  ·obtain⟨x,hx,hv⟩:=hrel i j row v hi hj
   simpa[hx]using hv
theorem JMs{v:V}{x:Value}(hv:VR1 m c w v x)(hp:ki v=true):VP c w v x:=by
 cases v with
 |v z=>have:x=z:=hv;subst this;exact .v _ hp
 |list k r=>exact hv
 |_=>cases hp
theorem Zz(hI:InvP vars E m c w g h a){arr:Array Value}{e:TypeId}{f:Nat×Nat}{w':World}(n:Nat)(hw:w'.heap=w.heap.push (.cells arr e f))(hos:w'.os=w.os)(htape:w'.tape=w.tape)(hout:w'.output=w.output)(hn:n<=arr.size):
  InvP vars E m (λb=>if b=w.heap.size then n else c b) w' g h a:=by
 have hold:∀b,b<w.heap.size->w'.heap[b]? =w.heap[b]? :=λb hb=>by rw[hw,BI];simp[show¬b=w.heap.size by omega]
 refine hI.grown none (by rw[hw];simp) (λb hb _=>⟨hold b hb,by simp[show¬b=w.heap.size by omega]⟩) (λb hb=>by cases hb) (λb hb _ h0=>?_) hos htape hout
 by_cases hbe:b=w.heap.size
 ·subst hbe
  exact⟨arr,e,f,by rw[hw];simp,by simpa using hn⟩
 ·simp only[if_neg hbe]at h0
  rw[hI.core.c_zero hb]at h0;omega
theorem yS{s:ByteArray}{i j:Nat}{row:List V}{v:V}(hi:(Ku s)[i]? =some row)(hj:row[j]? =some v):∃c:UInt8,s.data[i]? =some c/\j=0/\v= .v (.int .u8 c.toNat):=by
 unfold Ku at hi;simp only[An,Ag]at hi
 obtain⟨c,hc,rfl⟩:=hi
 cases j with
 |zero=>simp at hj;exact⟨c,by simpa using hc,rfl,hj.symm⟩
 |succ j=>simp at hj
theorem JAg(hI:InvP vars E m c w g h a){o:Oper}{s d:TypeId}{x:Operand}{mutc:Bool}{v:V}{g':Jl}{h':JG}(ho:o.op= .convert s d x)(hs:P.underlying s=some .string)
  (he:(match P.underlying s,P.underlying d,opd g x with
   |some .string,some (.slice e),.v (.string y)=>
    if Hv P e then
     if mutc then some (V.buf h.length 0 y.size,(g,h++[Ob.cells (K3 y)]))
     else some (.list .no (Ku y),(g,h))
    else none
   |some .string,some .string,.v (.string y)=>some (.v (.string y),(g,h))
   |_,_,_=>none)=some (v,g',h'))(hd:∀t,o.dst=some t->t<E.nt)(hv:∀t,o.dst=some t->t∉vars):
  Done P vars E w a o v g' h':=by
 split at he
 ·rename_i e y h1 h2 h3
  have hx':a.eval x= .string y:=by have:=hI.core.opd x;rw[h3]at this;exact this
  split at he
  ·rename_i hu
   have hu:=JOX hu;have hrun:=run_bytes_of_string (P:=P) w s d e y hs h2 hu;have hdo:Does P w a o (.slice (some ⟨w.heap.size,0,none⟩) y.size (grownCap w y.size 0 e)) _:=Kz (s:=convert s d (a.eval x)) (by simp[execOp,ho]) (by rw[hx'];exact hrun)
   have hge:y.size<=grownCap w y.size 0 e:=grownCap_ge w y.size 0 e
   have hrowget:∀(j:Nat) (c:UInt8),y.data[j]? =some c->(bytesRow y (grownCap w y.size 0 e))[j]? =some (.int .u8 c.toNat):=λj c hc=>by
    have hl:=(AL.1 hc).1
    unfold bytesRow;rw[BT (by simpa using hl)]
    simp[hc]
   have hrowsz:y.size<=(bytesRow y (grownCap w y.size 0 e)).size:=by unfold bytesRow;simp
   split at he
   ·cases he
    have hI':=WX hI (cs:=K3 y) (arr:=bytesRow y (grownCap w y.size 0 e)) (e:=e) (f:=((bytesRow y (grownCap w y.size 0 e)).size,(bytesRow y (grownCap w y.size 0 e)).size+1)) (w':=w.drew.alloc (.cells (bytesRow y (grownCap w y.size 0 e)) e ((bytesRow y (grownCap w y.size 0 e)).size,(bytesRow y (grownCap w y.size 0 e)).size+1))) rfl rfl rfl rfl
     (λj hj=>by
      have:(K3 y).length=y.size:=by simp[K3]
      omega) (by simp[K3];exact hrowsz)
     (λj v x hv hx=>by
      unfold K3 at hv;simp only[An,Ag]at hv
      obtain⟨c,hc,rfl⟩:=hv;rw[hrowget j c (by simpa using hc)]at hx
      cases hx
      exact⟨rfl,rfl⟩)
     (λj r hj=>by
      unfold K3 at hj;simp only[An,Ag]at hj
      obtain⟨c,_,hc⟩:=hj
      cases hc)
     (λT hT hc=>by
      exfalso;obtain⟨x,k2,k3⟩:=Q8.1 hc;unfold K3 at k2;simp only[An,Ag]at k2
      obtain⟨c,_,rfl⟩:=k2
      cases k3)
    refine⟨_,_,_,_,hdo,hI'.putBare hd ⟨w.heap.size,_,by rw[<-hI.core.len];simp,rfl,hge⟩ rfl (.inl hv)⟩
   ·cases he
    have hI':=Zz hI (arr:=bytesRow y (grownCap w y.size 0 e)) (e:=e) (f:=((bytesRow y (grownCap w y.size 0 e)).size,(bytesRow y (grownCap w y.size 0 e)).size+1)) (w':=w.drew.alloc (.cells (bytesRow y (grownCap w y.size 0 e)) e ((bytesRow y (grownCap w y.size 0 e)).size,(bytesRow y (grownCap w y.size 0 e)).size+1))) y.size rfl rfl rfl rfl hrowsz;refine⟨_,_,_,_,hdo,hI'.putBare hd ?_ rfl (.inl hv)⟩
    have hlen:(Ku y).length=y.size:=by simp[Ku]
    have key:VP (λb=>if b=w.heap.size then y.size else c b) (w.drew.alloc (.cells (bytesRow y (grownCap w y.size 0 e)) e ((bytesRow y (grownCap w y.size 0 e)).size,(bytesRow y (grownCap w y.size 0 e)).size+1)))
      (.list .no (Ku y)) (.slice (some ⟨w.heap.size,0,none⟩) (Ku y).length (grownCap w y.size 0 e)):=by
     refine jA (sz:=1) (hw:=heap_alloc_new w.drew _) Nat.one_pos (λrow hr=>?_) (by rw[hlen];exact hge) (by simp[hlen]) (λi j row v hi hj=>?_)
     ·unfold Ku at hr
      simp only[AM]at hr;obtain⟨c,_,rfl⟩:=hr;rfl
     ·obtain⟨c,hc,rfl,rfl⟩:=yS hi hj
      exact⟨_,by simpa using hrowget i c hc,.v _ rfl⟩
    rw[hlen]at key;exact key
  ·cases he
 ·rename_i y h1 h2 h3
  cases he;have hx':a.eval x= .string y:=by have:=hI.core.opd x;rw[h3]at this;exact this
  exact⟨.string y,w,m,c,Kz (s:=convert s d (a.eval x)) (by simp[execOp,ho]) (by simp[hx',convert,run_underlying h1,run_underlying h2]),hI.putBare hd rfl rfl (.inl hv)⟩
 ·cases he
end
end Go.Lift
end

section
namespace Go.Lift
open Go.MapKept
variable[GTab][BTy]
theorem JP0{d:TypeDesc}{k:Value}(hk:JBV d k=true)(j:Value):Instr.sameNow d k j=JD8 d k j:=by
 cases d<;>cases k<;>simp[JBV]at hk<;>cases j<;>simp[Instr.sameNow,JD8]
 rw[beq_toListBytes]
theorem zi{d:TypeDesc}{k:Value}(hk:JBV d k=true):∀(l:List MapEntry) (i:Nat),Instr.findNow d k l i=km d k (l.map λe=>(e.key,e.val)) i
 |[],_=>rfl
 |e::es,i=>by
  simp only[Instr.findNow,A2,km,JP0 hk];rw[zi hk es (i+1)]
  split<;>simp_all
theorem JOZ{d:TypeDesc}{k:Value}(h:JBV d k=true):IsKey d k:=by
 cases d<;>cases k<;>simp[JBV]at h<;>simp[IsKey]
 exact h.symm
theorem JSc{d:TypeDesc}{k j:Value}(hk:JBV d k=true)(h:JD8 d k j=some true):k=j:=by
 cases d<;>cases k<;>simp[JBV]at hk<;>cases j<;>simp[JD8]at h
 ·rw[h.1,h.2]
 ·rename_i a b
  have:(a==b)=true:=by rw[beq_toListBytes];simpa using h
  rw[(bytes_beq a b).1 this]
theorem JGO{d:TypeDesc}{k:Value}(hk:JBV d k=true):∀{l:List (Value×Value)} {i n:Nat} {x:Value},km d k l i=some (some (n,x))->∃j,n=i+j/\l[j]? =some (k,x)
 |[],_,_,_,h=>by simp[km]at h
 |e::es,i,n,x,h=>by
  simp only[km]at h
  split at h
  ·rename_i hs
   simp only[Ah,AG]at h;obtain⟨rfl,rfl⟩:=h;refine⟨0,rfl,?_⟩
   have:=JSc hk hs;obtain⟨a,b⟩:=e;simp only at this;rw[this]<;>rfl
  ·obtain⟨j,hj,hl⟩:=JGO hk h
   exact⟨j+1,om,by simpa using hl⟩
  ·cases h
theorem JMt{P:Program}{w:World}{t:TypeId}{z:Value}(hz:JOS P t=some z):(zeroValue t).run P w= .ok z w:=by
 unfold JOS at hz
 cases hi:P.info? t with
 |none=>simp[hi]at hz
 |some i=>
  cases hz0:i.zero with
  |none=>simp[hi,hz0]at hz
  |some zv=>
   simp only[hi,Option.bind_some,hz0]at hz
   have:zv=z:=by split at hz<;>first|(rename_i q;cases q;cases hz;rfl)|cases hz
   subst this;simp[zeroValue,typeInfo,hi,hz0]
section
variable{P:Program}{vars:List Nat}{m:List Nat}{c:Cl}{w:World}{g:Jl}{h:JG}{a:Act}{E:Entry}
theorem JKo(hI:InvP vars E m c w g h a){o:Oper}{t kt et:TypeId}(ho:o.op= .makeMap t none)(hd:∀t,o.dst=some t->t<E.nt)(hv:∀t,o.dst=some t->t∉vars):
  Done P vars E w a o (.mp h.length) g (h++[.tab []]):=by
 have hw:∀k,k<w.heap.size->({w with heap:=w.heap.push (.map #[] 0)}:World).heap[k]? =w.heap[k]? :=λk hk=>by
  show(w.heap.push _)[k]? =_
  rw[BI];simp[show¬k=w.heap.size by omega]
 have hI':InvP vars E (m++[w.heap.size]) c {w with heap:=w.heap.push (.map #[] 0)} g (h++[.tab []]) a:=by
  refine hI.grow ⟨by simp,hw,λ_ _=>rfl,λk hk h0=>?_,λk hk=>?_,by simp,rfl,λi o k ho hk=>?_,Ad _,λi cs j r b ho=>?_,rfl,rfl,rfl⟩
  ·rw[hI.core.c_zero hk]at h0;omega
  ·simp at hk;subst hk;exact⟨Ad _,hI.core.c_zero (Ad _)⟩
  ·cases i with
   |zero=>simp at ho hk;subst ho;subst hk;exact⟨#[],0,by simp,rfl⟩
   |succ i=>simp at ho
  ·cases i with
   |zero=>simp at ho
   |succ i=>simp at ho
 refine⟨.map (some w.heap.size),_,_,_,Kz (s:=Instr.makeMap t none) (by simp[execOp,ho]) (w':={w with heap:=w.heap.push (.map #[] 0)}) rfl,hI'.putBare hd ⟨w.heap.size,?_,rfl⟩ rfl (.inl hv)⟩
 have:=hI.core.len;rw[<-this];simp
theorem JSd(hI:InvP vars E m c w g h a){x:Operand}{i:Nat}{es:List (Value×Value)}(hx:opd g x= .mp i)(hh:h[i]? =some (.tab es)):
  ∃gb arr clock,m[i]? =some gb/\a.eval x= .map (some gb)/\w.heap[gb]? =some (.map arr clock)/\arr.toList.map (λe=>(e.key,e.val))=es:=by
 obtain⟨gb,hm,hxv⟩:=(by have:=hI.core.opd x;rw[hx]at this;exact this:∃gb,m[i]? =some gb/\a.eval x= .map (some gb))
 obtain⟨arr,clock,h1,h2⟩:=hI.core.ob i _ gb hh hm;exact⟨gb,arr,clock,hm,hxv,h1,h2⟩
theorem JMu(hI:InvP vars E m c w g h a){o:Oper}{t:TypeId}{x k:Operand}{two:Bool}{v:V}(ho:o.op= .lookup t x k two)(hl:yK P (g,h) t two (opd g x) (opd g k)=some v)
  (hd:∀t,o.dst=some t->t<E.nt)(hv:∀t,o.dst=some t->t∉vars):Done P vars E w a o v g h:=by
 unfold yK at hl
 split at hl
 ·rename_i b kv hx hk
  split at hl
  ·rename_i es kt et hes hu
   obtain⟨gb,arr,clock,hm,hxv,hb,he⟩:=JSd hI hx hes;have hkv:a.eval k=kv:=by have:=hI.core.opd k;rw[hk]at this;exact this
   unfold JOT at hl
   split at hl
   ·rename_i d hdd
    split at hl
    ·rename_i hkey
     have hIs:=JOZ hkey;have hfe:=zi hkey arr.toList 0;rw[he]at hfe
     split at hl
     ·rename_i _ n y hf
      rw[hf]at hfe;simp only[Ah]at hl;subst hl
      cases two with
      |true=>
       refine⟨.tuple #[y,.bool true],w,m,c,Kz (s:=Instr.lookup t (a.eval x) (a.eval k) true) (by simp[execOp,ho]) ?_,hI.putBare hd ⟨_,rfl,R2.cons rfl (R2.cons rfl R2.nil)⟩ rfl (.inl hv)⟩
       rw[hxv,hkv]
       simp[Instr.lookup,run_underlying hu,MapKept.run_getObj_map hb,run_checkKey hdd hIs,run_findKey hdd hfe,Cn]
      |false=>
       refine⟨y,w,m,c,Kz (s:=Instr.lookup t (a.eval x) (a.eval k) false) (by simp[execOp,ho]) ?_,hI.putBare hd rfl rfl (.inl hv)⟩
       rw[hxv,hkv];simp[Instr.lookup,run_underlying hu,MapKept.run_getObj_map hb,run_checkKey hdd hIs,run_findKey hdd hfe,Cn]
     ·rename_i z hf hz
      rw[hf]at hfe;simp only[Ah]at hl;subst hl;have hz1:=JMt (w:=w) hz
      cases two with
      |true=>
       refine⟨.tuple #[z,.bool false],w,m,c,Kz (s:=Instr.lookup t (a.eval x) (a.eval k) true) (by simp[execOp,ho]) ?_,hI.putBare hd ⟨_,rfl,R2.cons rfl (R2.cons rfl R2.nil)⟩ rfl (.inl hv)⟩
       rw[hxv,hkv]
       simp[Instr.lookup,run_underlying hu,MapKept.run_getObj_map hb,run_checkKey hdd hIs,run_findKey hdd hfe,hz1,Cn]
      |false=>
       refine⟨z,w,m,c,Kz (s:=Instr.lookup t (a.eval x) (a.eval k) false) (by simp[execOp,ho]) ?_,hI.putBare hd rfl rfl (.inl hv)⟩
       rw[hxv,hkv];simp[Instr.lookup,run_underlying hu,MapKept.run_getObj_map hb,run_checkKey hdd hIs,run_findKey hdd hfe,hz1,Cn]
     ·cases hl
    ·cases hl
   ·cases hl
  ·cases hl
 ·cases hl
theorem JBs(hI:InvP vars E m c w g h a){o:Oper}{t:TypeId}{x k y:Operand}{s':St}(ho:o.op= .insert t x k y\/o.op= .mapUpdate t x k y)(hl:yL P E.lo (g,h) t (opd g x) (opd g k) (opd g y)=some s')
  (hd:∀t,o.dst=some t->t<E.nt)(hv:∀t,o.dst=some t->t∉vars):Done P vars E w a o (.v undef) s'.1 s'.2:=by
 unfold yL at hl
 split at hl
 ·rename_i b kv xv hx hk hy
  split at hl
  ·rename_i es kt et hes hu
   split at hl
   ·rename_i hlo
    simp only[Ag]at hl;obtain⟨es',hp,rfl⟩:=hl;obtain⟨gb,arr,clock,hm,hxv,hb,he⟩:=JSd hI hx hes;have hkv:a.eval k=kv:=by have:=hI.core.opd k;rw[hk]at this;exact this
    have hyv:a.eval y=xv:=by have:=hI.core.opd y;rw[hy]at this;exact this
    have hsz:∀o',({w with heap:=w.heap.setIfInBounds gb o'}:World).heap.size=w.heap.size:=λo'=>by simp
    have hset:∀o',({w with heap:=w.heap.setIfInBounds gb o'}:World).heap[gb]? =some o':=λo'=>(heap_set hb).1
    have hoth:∀o' k,k≠gb->({w with heap:=w.heap.setIfInBounds gb o'}:World).heap[k]? =w.heap[k]? :=λo' k hk=>(heap_set hb).2 k hk
    have fin:∀(arr':Array MapEntry) (clock':Nat),(Instr.mapUpdate t (.map (some gb)) kv xv).run P w= .ok () {w with heap:=w.heap.setIfInBounds gb (.map arr' clock')}->arr'.toList.map (λe=>(e.key,e.val))=es'->
      Done P vars E w a o (.v undef) (untag g) (h.set b (.tab es')):=by
     intro arr' clock' hrun hes'
     have hI':=hI.untag.setOb (o':= .tab es') (w':={w with heap:=w.heap.setIfInBounds gb (.map arr' clock')}) 0 hlo hm (by simp) (hoth _) rfl rfl rfl ⟨arr',clock',hset _,hes'⟩
      (λcs' j r x hc=>by cases hc) (λt i j r=>WW t i j r) (λcs' hc=>by cases hc) (λarr e f hb'=>by rw[hb]at hb';cases hb')
     refine⟨undef,_,m,c,?_,hI'.putBare hd rfl rfl (.inl hv)⟩
     refine .inr ⟨?_,rfl⟩
     have he:execOp a.eval o=(do Instr.mapUpdate t (a.eval x) (a.eval k) (a.eval y);pure Next.skip):=by rcases ho with ho|ho<;>simp[execOp,ho]
     rw[he,hxv,hkv,hyv,Bm,hrun]<;>rfl
    unfold H5 at hp
    split at hp
    ·rename_i d hdd
     split at hp
     ·rename_i hkey
      have hIs:=JOZ hkey;have hfe:=zi hkey arr.toList 0;rw[he]at hfe
      split at hp
      ·rename_i n y hf
       rw[hf]at hfe;simp only[Ah]at hp;obtain⟨j,hj,hge⟩:=JGO hkey hf;rw[AC]at hj;subst hj
       have hgj:∃e,arr[n]? =some e/\e.key=kv:=by
        rw[<-he,An,Ag]at hge
        obtain⟨e,h1,h2⟩:=hge;exact⟨e,by simpa using h1,(Prod.mk.inj h2).1⟩
       obtain⟨e,hen,hek⟩:=hgj;refine fin (arr.modify n λe=>{e with key:=kv,val:=xv}) clock ?_ ?_
       ·simp[Instr.mapUpdate,run_underlying hu,MapKept.run_getObj_map hb,run_checkKey hdd hIs,run_findKey hdd hfe,hen,hek,run_keyThatStays hIs,run_setObj_map _ hb,Cn]
       ·rw[<-hp,<-he]
        apply C5;intro q;simp only[An,Bk,CL,Br,Aq,AJ]
        by_cases hq:n=q
        ·subst hq
         simp[hen,(AL.1 hen).1]
        ·simp[hq]
      ·rename_i hf
       rw[hf]at hfe;simp only[Ah]at hp;refine fin (arr.push {key:=kv,val:=xv,born:=clock}) (clock+1) ?_ ?_
       ·simp[Instr.mapUpdate,run_underlying hu,MapKept.run_getObj_map hb,run_checkKey hdd hIs,run_findKey hdd hfe,run_setObj_map _ hb,Cn]
       ·rw[<-hp,<-he];simp
      ·cases hp
     ·cases hp
    ·cases hp
   ·cases hl
  ·cases hl
 ·cases hl
end
end Go.Lift
end

section
namespace Go.Lift
variable[GTab][BTy]
section
variable{P:Program}{vars:List Nat}{m:List Nat}{c:Cl}{w:World}{g:Jl}{h:JG}{a:Act}{E:Entry}
theorem JGP(sz:Nat):∀(qs:List (Nat×Value)) (k:Nat) (zs:Array Value),qs.map (·.1)=List.range' k qs.length->(∀q∈qs,q.2.cells.size=sz)->(k+qs.length)*sz<=zs.size->
  ∃ys:Array Value,Instr.fill (λi=>some (i*sz,sz)) zs qs=some ys/\ys.toList=zs.toList.take (k*sz)++(qs.map (λq=>q.2.cells.toList)).flatten++zs.toList.drop ((k+qs.length)*sz)
 |[],k,zs,_,_,_=>⟨zs,rfl,by simp⟩
 |(i,v)::qs,k,zs,hi,hs,hz=>by
  simp only[A2,Ae,List.range'_succ,List.cons.injEq]at hi;obtain⟨rfl,hi⟩:=hi;have hv:v.cells.size=sz:=hs (i,v) (by simp)
  simp only[Ae]at hz;have hb:(i+1)*sz<=zs.size:=Bt (AF _ om) hz;rw[A6,Nat.one_mul]at hb
  have hfold:(v.cells.zipIdx.foldl (λcs (x,j)=>cs.setIfInBounds (i*sz+j) x) zs).toList=zs.toList.take (i*sz)++v.cells.toList++zs.toList.drop (i*sz+sz):=by
   have hf:=H8 (i*sz) v.cells.toList 0 zs (by simp[hv];omega)
   simp only[Bo,AJ,hv]at hf;rw[<-hf,<-Array.foldl_toList,Array.toList_zipIdx]
  obtain⟨ys,hy1,hy2⟩:=JGP sz qs (i+1) (v.cells.zipIdx.foldl (λcs (x,j)=>cs.setIfInBounds (i*sz+j) x) zs) hi (λq hq=>hs q (by simp[hq])) (by
   have:=congrArg Bq hfold;simp only[AJ,Ao,Az,AB,hv]at this;rw[this,show i+1+qs.length=i+(qs.length+1)by omega]
   omega)
  refine⟨ys,?_,?_⟩
  ·unfold Instr.fill
   simp only[hv];rw[if_neg (by simp;omega)]
   exact hy1
  ·rw[hy2,hfold]
   have hl1:(zs.toList.take (i*sz)++v.cells.toList).length=(i+1)*sz:=by simp only[Ao,Az,AJ,hv];rw[A6];omega
   rw[CC (by rw[hl1];exact Ad _),BW (by rw[hl1];exact Ad _)]
   rw[List.drop_append,hl1]
   have hd:(zs.toList.take (i*sz)++v.cells.toList).drop ((i+1+qs.length)*sz)=[]:=by apply AZ;rw[hl1];exact AF _ om
   rw[hd,Au,List.drop_drop];simp only[A2,CQ,Ae,Ax]
   congr 4
   rw[show i+(qs.length+1)=(i+1+qs.length)by omega]
   have:(i+1)*sz<=(i+1+qs.length)*sz:=AF _ om;rw[A6 i 1]at this⊢;omega
theorem yT{α:Type}{sz:Nat}:∀{l:List (List α)} {i j:Nat} {row:List α},(∀r∈l,r.length=sz)->l[i]? =some row->j<sz->l.flatten[i*sz+j]? =row[j]?
 |[],i,j,row,_,hi,_=>by simp at hi
 |r::l,i,j,row,hs,hi,hj=>by
  have hr:r.length=sz:=hs r (by simp)
  rw[CQ]
  cases i with
  |zero=>
   simp at hi;subst hi
   rw[DX,AC,Bd om]
  |succ i=>
   rw[Bb (by rw[hr,A6];omega),hr,show(i+1)*sz+j-sz=i*sz+j by rw[A6];omega]
   exact yT (λq hq=>hs q (by simp[hq])) (by simpa using hi) hj
theorem Z0{α:Type}{sz:Nat}:∀{l:List (List α)},(∀r∈l,r.length=sz)->l.flatten.length=l.length*sz
 |[],_=>by simp
 |r::l,hs=>by
  rw[CQ,Ao,hs r (by simp),Z0 (λq hq=>hs q (by simp[hq])),Ae,A6]
  omega
theorem JAy(ρ:Operand->Value){o:Oper}{t:TypeId}{n:Nat}{parts:Array (Nat×Operand)}(ho:o.op= .buildSlice t n parts):
  execOp ρ o=(do pure (Next.value (<-Instr.buildSlice t n (parts.map λp=>(p.1,ρ p.2))))):=by
 unfold execOp;rw[ho]
theorem qR{w':World}{o:Oper}{t:TypeId}{n:Nat}{parts:Array (Nat×Operand)}(ho:o.op= .buildSlice t n parts){x:Value}
  (hr:(Instr.buildSlice t n (parts.map λp=>(p.1,a.eval p.2))).run P w= .ok x w'):Does P w a o x w':=Kz (JAy a.eval ho) hr
theorem zj(w:World){t e:TypeId}{n:Nat}{qs:Array (Nat×Value)}{ie:TypeInfo}{zv:Value}(hu:P.underlying t=some (.slice e))(hie:P.info? e=some ie)(hzv:(zeroValue e).run P w= .ok zv w)
  (hn:qs.size=n)(hi:qs.toList.map (·.1)=Bf n)(hs:∀q∈qs.toList,q.2.cells.size=ie.size)(hle:n*ie.size<=16777216):
  ∃arr:Array Value,arr.toList=(qs.toList.map λq=>q.2.cells.toList).flatten/\
   (Instr.buildSlice t n qs).run P w= .ok (.slice (some ⟨w.heap.size,0,none⟩) n n) {w with heap:=w.heap.push (.cells arr e)}:=by
 have hle':¬n*ie.size>2^24:=by
  have:(2:Nat)^24=16777216:=by decide
  omega
 have hfill:=λz:Array Value=>JGP ie.size qs.toList 0 ((Array.range (n*ie.size)).map (z[· %z.size]!)) (by rw[hi,List.range_eq_range',AJ,hn]) hs (by simp[hn])
 by_cases h0:n*ie.size=0
 ·obtain⟨ys,h1,h2⟩:=hfill #[]
  refine⟨ys,?_,?_⟩
  ·rw[h2]
   have hz1:((Array.range (n*ie.size)).map ((#[]:Array Value)[· % (#[]:Array Value).size]!)).toList=[]:=by rw[h0];simp
   rw[hz1];simp
  ·unfold Instr.buildSlice
   simp only[Bm,run_underlying hu,Bc,WT hie,if_neg hle',if_pos h0,C7];simp only[h1];rfl
 ·obtain⟨ys,h1,h2⟩:=hfill zv.cells
  refine⟨ys,?_,?_⟩
  ·rw[h2,DX,List.take_zero,Au,AZ,AE]
   simp[hn]
  ·unfold Instr.buildSlice
   simp only[Bm,run_underlying hu,Bc,WT hie,if_neg hle',if_neg h0,C7,hzv];simp only[h1];rfl
set_option maxHeartbeats 400000 in
theorem JJT{e:TypeId}{r q:List (List V)}(hb:byT e r q=true):∀T,BTy.bb=some T->J2 (r++q)=true->e=T:=λT hT hc=>by
 unfold byT at hb;rw[hT]at hb;simp only[AU,beq_iff_eq,Af,BX]at hb;rcases hb with hb|⟨h1,h2⟩
 ·exact hb
 ·exfalso
  cases r with
  |nil=>rw[Au,h2]at hc;cases hc
  |cons x r=>have:J2 (x::r++q)=J2 (x::r):=rfl;rw[this,h1]at hc;cases hc
theorem kq{r q:List (List V)}(h:r≠[]):J2 (r++q)=J2 r:=by
 cases r with
 |nil=>exact absurd rfl h
 |cons x r=>rfl
theorem jB(hI:InvP vars E m c w g h a){o:Oper}{t e:TypeId}{n:Nat}{parts:Array (Nat×Operand)}(ho:o.op= .buildSlice t n parts)(hu:P.underlying t=some (.slice e))
  (hc:(parts.toList.map (·.1))=Bf n/\(K4 P e).isSome=true/\0<JH P e/\n*JH P e<=16777216/\((parts.toList.map λp=>cellsV (fzs (opd g p.2))).all λr=>r.length==JH P e&&r.all ki)=true/\byT e [] (parts.toList.map λp=>cellsV (fzs (opd g p.2)))=true)
  (hd:∀t,o.dst=some t->t<E.nt)(hv:∀t,o.dst=some t->t∉vars):
  Done P vars E w a o (.list .yes (parts.toList.map λp=>cellsV (fzs (opd g p.2)))) g h:=by
 obtain⟨c1,c2,c3,c4,c5,c6⟩:=hc;have hn:parts.toList.length=n:=by have:=congrArg Bq c1;simpa using this
 have hall:∀p∈parts.toList,(cellsV (fzs (opd g p.2))).length=JH P e/\ ∀v∈cellsV (fzs (opd g p.2)),ki v=true:=λp hp=>by have:=Ak.1 c5 _ (AM.2 ⟨p,hp,rfl⟩);simpa using this
 have hrel:∀p∈parts.toList,R2 (VR1 m c w) (cellsV (fzs (opd g p.2))) (a.eval p.2).cells.toList:=λp hp=>by
  refine Q7 (hI.core.opd p.2).fzs ?_
  have h2:=(hall p hp).2;cases hq:fzs (opd g p.2)<;>first|rfl|(rw[hq]at h2;have:=h2 _ (A1.2 rfl);first|exact this|cases this)
 obtain⟨ie,hie⟩:∃ie,P.info? e=some ie:=by
  cases hie:P.info? e with
  |some ie=>exact⟨ie,rfl⟩
  |none=>simp[JH,Bs,hie]at c3
 have hsz:=JY hie;obtain⟨z0,hz0⟩:=A7.1 c2;obtain⟨zv,hzv,rfl⟩:=WU (w:=w) hz0
 have hflat:(((parts.map λp=>(p.1,a.eval p.2)).toList).map (λq=>q.2.cells.toList))=parts.toList.map λp=>(a.eval p.2).cells.toList:=by simp only[BF,B1];apply A4;intro p _;rfl
 have hlen2:∀r∈parts.toList.map λp=>(a.eval p.2).cells.toList,r.length=JH P e:=λr hr=>by obtain⟨p,hp,rfl⟩:=AM.1 hr;rw[<-(hrel p hp).1,(hall p hp).1]
 obtain⟨arr,harr,hrun⟩:=zj w (qs:=parts.map λp=>(p.1,a.eval p.2)) hu hie hzv (by simpa using hn) (by
   simp only[BF,B1];have:(parts.toList.map ((λx=>x.1)∘λx:Nat×Operand=>(x.1,a.eval x.2)))=parts.toList.map (·.1):=by apply A4;intro p _;rfl
   rw[this,c1]) (λq hq=>by
   simp only[BF,AM]at hq;obtain⟨p,hp,rfl⟩:=hq;have:=(hrel p hp).1;rw[(hall p hp).1,hsz]at this
   simpa using this.symm) (by rw[<-hsz];exact c4)
 rw[hflat]at harr
 have hasz:arr.size=n*JH P e:=by rw[<-AJ,harr,Z0 hlen2,Aq,hn]
 have hI':=Zz hI (arr:=arr) (e:=e) (f:=(0,0)) (w':={w with heap:=w.heap.push (.cells arr e)}) (n*JH P e) rfl rfl rfl rfl (by rw[hasz];exact Ad _)
 have hheap:({w with heap:=w.heap.push (.cells arr e)}:World).heap[w.heap.size]? =some (.cells arr e (0,0)):=by simp
 have hlr:(parts.toList.map λp=>cellsV (fzs (opd g p.2))).length=n:=by simpa using hn
 have hold:∀b,b<w.heap.size->({w with heap:=w.heap.push (.cells arr e)}:World).heap[b]? =w.heap[b]? :=λb hb=>by
  show(w.heap.push _)[b]? =_
  rw[BI];simp[show¬b=w.heap.size by omega]
 have hext:Ext c w (λb=>if b=w.heap.size then n*JH P e else c b) {w with heap:=w.heap.push (.cells arr e)}:=by
  refine⟨λb=>?_,λb o ho=>?_,λb _=>Shp.old hold b⟩
  ·by_cases hb:b=w.heap.size
   ·subst hb;rw[hI.core.c_zero (Ad _)];exact B9 _
   ·simp[hb]
  ·rcases Ay b w.heap.size with hb|hb
   ·exact Jb (hold b hb) o
   ·rw[hI.core.c_zero hb]at ho;omega
 have hvp:VP (λb=>if b=w.heap.size then n*JH P e else c b) {w with heap:=w.heap.push (.cells arr e)} (.list .yes (parts.toList.map λp=>cellsV (fzs (opd g p.2)))) (.slice (some ⟨w.heap.size,0,none⟩) n n):=by
  have:=jA (k:= .yes) (cap:=n) (c:=λb=>if b=w.heap.size then n*JH P e else c b) (rows:=parts.toList.map λp=>cellsV (fzs (opd g p.2))) hheap c3 (λrow hr=>by
    obtain⟨p,hp,rfl⟩:=AM.1 hr
    exact(hall p hp).1) (by rw[hlr];exact Ad _) (by simp only[hlr,if_true];exact Ad _) (λi j row v hi hj=>by
    simp only[An,Ag]at hi
    obtain⟨p,hp,rfl⟩:=hi;have hpm:=Aj hp;obtain⟨x,hx,hvx⟩:=(hrel p hpm).get hj;have hjl:j<JH P e:=by rw[<-(hall p hpm).1];exact(Ab.1 hj).1
    refine⟨x,?_,(JMs hvx ((hall p hpm).2 v (Aj hj))).mono hext⟩
    rw[<-Bk,harr,yT hlen2 (i:=i) (row:=(a.eval p.2).cells.toList) (by simp[hp]) hjl]
    exact hx)
  rwa[hlr]at this
 have hdo:Does P w a o (.slice (some ⟨w.heap.size,0,none⟩) n n) {w with heap:=w.heap.push (.cells arr e)}:=qR ho hrun
 refine⟨.slice (some ⟨w.heap.size,0,none⟩) n n,{w with heap:=w.heap.push (.cells arr e)},m,λb=>if b=w.heap.size then n*JH P e else c b,hdo,?_⟩
 refine hI'.putOwn hd hvp ?_ ?_ ?_ (.inl hv)
 ·refine .inr ⟨w.heap.size,n,arr,e,JH P e,by rw[hlr],hheap,by rw[hlr];exact Ad _,?_,hasz,c3,λrow hr=>?_,by simp[hlr],?_,λh0=>?_,λT hT hb=>JJT c6 T hT hb⟩
  ·have:n*1<=n*JH P e:=DL _ c3
   unfold maxLen;omega
  ·obtain⟨p,hp,rfl⟩:=AM.1 hr
   exact(hall p hp).1
  ·intro hb
   obtain⟨i,hi,hb⟩:=AV hb;have:=hI.core.m_lt (Ac hi)
   omega
  ·have:=congrArg Bq h0
   rw[hlr]at this;simpa using this
 ·intro l r' x' b hl hb hb'
  cases hb
  have hl':At m w g h a l r' x':=by
   cases l with
   |slot t=>exact hl
   |cell i j=>obtain⟨cs,b,k1,k2,k3,k4⟩:=hl;exact⟨cs,b,k1,k2,k3,by rw[<-Jb (hold b (hI.core.m_lt k3))];exact k4⟩
  exact absurd ((hI.core.own l r' x' hl').lt hb').1 (C1 _)
 ·intro b hb
  cases hb;exact .inl hI.fr.size
end
section
variable{P:Program}{vars:List Nat}{m:List Nat}{c:Cl}{w:World}{g:Jl}{h:JG}{a:Act}{E:Entry}
def Src(P:Program)(w:World)(size k:Nat)(x:Value)(news:List Value):Prop:=
 ∀w',w'.heap=w.heap->(Builtin.lenOf x).run P w'= .ok k w'/\(Builtin.firstCells size k x).run P w'= .ok news.toArray w'
theorem JBt{t u e ty:TypeId}{ie:TypeInfo}{du:TypeDesc}(ht:P.underlying t=some (.slice e))(hu:P.underlying u=some du)(hdu:∀k,du≠ .int k)(hi:P.info? e=some ie)
  {b n cap k:Nat}{x:Value}{news:List Value}{cur:Array Value}{e':TypeId}(hs:Src P w ie.size k x news)(hb:w.heap[b]? =some (.cells cur e' (0,0)))
  (hroom:n+k<=cap)(hfit:n*ie.size+news.length<=cur.size)(hone:∀y∈news,y.oneCell'=true):
  (Builtin.append_ #[t,u] ty #[.slice (some ⟨b,0,none⟩) n cap,x]).run P w= .ok (.slice (some ⟨b,0,none⟩) (n+k) cap) (w.setCells b (n*ie.size) news):=by
 obtain⟨h1,h2⟩:=hs w rfl
 have hst:=run_storeCells_cells (P:=P) b (n*ie.size) news 0 w (λj hj=>by
   rw[J1 hb];have:n*ie.size+j<cur.size:=om
   simp[this]) (λj hj=>by simp[BN,hb]) hone
 unfold Builtin.append_;simp only[Bm,run_underlying ht,run_underlying hu,Bc,WT hi,C7,B0,BC,Cf,h1,Al,if_false,if_pos hroom,KR,AC,A5,if_true,h2]
 simp only[Bo]at hst;simp[hst]
theorem yU{t u e ty:TypeId}{ie:TypeInfo}{z:Value}{du:TypeDesc}(ht:P.underlying t=some (.slice e))(hu:P.underlying u=some du)(hdu:∀k,du≠ .int k)(hi:P.info? e=some ie)(hz:ie.zero=some z)
  {base:Option Addr}{n cap k:Nat}{x:Value}{olds news:List Value}(hs:Src P w ie.size k x news)(ho:∀w',w'.heap=w.heap->(Builtin.firstCells ie.size n (.slice base n cap)).run P w'= .ok olds.toArray w')
  (hroom:cap<n+k)(h63:n+k<=9223372036854775807)(hfit:(n+k)*ie.bytes<=140737488355328):
  (Builtin.append_ #[t,u] ty #[.slice base n cap,x]).run P w=
   .ok (.slice (some ⟨w.heap.size,0,none⟩) (n+k) (grownCap w (n+k) cap e)) (w.drew.alloc (.cells (olds.toArray++news.toArray++Builtin.zeroCells z.cells (grownCap w (n+k) cap e-(n+k))) e)):=by
 obtain⟨h1,_⟩:=hs w rfl;obtain⟨_,h2⟩:=hs w.drew rfl;have h3:=ho w.drew rfl;have hn:¬(n+k<=cap):=om;have h63':¬(9223372036854775807<((n:Int)+(k:Int))):=om;have h48:=growslice_fits hroom hfit;have h48':¬(281474976710656<Builtin.nextslicecap (n+k) cap*ie.bytes):=om;simp[Builtin.append_,run_underlying ht,run_underlying hu,sizeOf,typeInfo,zeroValue,hi,hz,h1,hn,h63',h48',Question.forced,newRow,grownCap,h3,h2]
 congr 2
 apply Array.ext';simp[Ax]
theorem yV{e:TypeId}{ie:TypeInfo}(hie:P.info? e=some ie){v:V}{x:Value}{q:List (List V)}(hv:VRr m c w v x)(hq:Wk P e v=some q)(hsz:0<ie.size):
  ∃news:List Value,Src P w ie.size q.length x news/\news.length=q.length*ie.size/\(∀row∈q,row.length=ie.size)/\
   ∀(i j:Nat) row u,q[i]? =some row->row[j]? =some u->∃y,news[i*ie.size+j]? =some y/\VP c w u y:=by
 have hts:=JY hie;unfold Wk at hq
 split at hq
 ·cases hq
  have:x= .slice none 0 0:=hv;subst this;exact⟨[],λw' _=>⟨rfl,rfl⟩,by simp,λrow hr=>by simp at hr,λi j row u hi=>by simp at hi⟩
 ·rename_i k r
  split at hq
  ·rename_i hall
   have hq':=Bh hq;subst hq'
   have hall':∀row∈r,row.length=ie.size:=λrow hr=>by have:=Ak.1 hall row hr;rw[hts]at this;simpa using this
   have hp:VP c w (.list k r) x:=hv
   cases hp with
   |empty k ao cap=>
    refine⟨[],λw' _=>⟨rfl,?_⟩,by simp,hall',λi j row u hi=>by simp at hi⟩
    cases ao<;>simp[Builtin.firstCells,loadCells,loadCellsFrom]
   |list k rows ad cap sz xs hne hsz' hspot hcap hcl hrow hcell hrec=>
    have hseq:sz=ie.size:=by
     obtain⟨r0,hr0⟩:=Ca _ hne;obtain⟨i0,hi0,hi1⟩:=AV hr0;have h2:=hrow i0 r0 (by rw[Ac hi0,hi1])
     rw[<-h2,hall' r0 hr0]
    subst hseq;have hlt:∀j,j<r.length*ie.size->j/ie.size<r.length:=λj hj=>DB (by rw[CZ];exact hj)
    have hdm:∀j,j/ie.size*ie.size+j%ie.size=j:=λj=>by rw[CZ];exact D9 j ie.size
    have hcells:∀j,j<r.length*ie.size->∀w':World,w'.heap=w.heap->w'.cell? (ad.add j)=some (xs (j/ie.size) (j%ie.size)):=λj hj w' hw'=>by
     have h1:r[j/ie.size]? =some (r[j/ie.size]'(hlt j hj)):=Ac (hlt j hj)
     have h2:=hrow _ _ h1;have h3:j%ie.size<(r[j/ie.size]'(hlt j hj)).length:=by rw[h2];exact DC _ hsz
     have h4:=hcell _ _ _ _ h1 (Ac h3)
     rw[CO,hdm]at h4;rw[jk hspot,Jb (w:=w) (w':=w') (by rw[hw'])]
     exact h4
    refine⟨(Bf (r.length*ie.size)).map λj=>xs (j/ie.size) (j%ie.size),λw' hw'=>⟨rfl,?_⟩,by simp,hall',λi j row u hi hj=>?_⟩
    ·simp only[Builtin.firstCells]
     exact run_loadCells w' ad _ _ (λj hj=>hcells j hj w' hw')
    ·have h1:=hrow i row hi
     have hjl:j<ie.size:=by rw[<-h1];exact(Ab.1 hj).1
     have hil:i<r.length:=(Ab.1 hi).1
     have hb:i*ie.size+j<r.length*ie.size:=by have:(i+1)*ie.size<=r.length*ie.size:=AF _ hil;rw[A6]at this;omega
     have hd:(i*ie.size+j)/ie.size=i:=by rw[CZ,Nat.mul_add_div hsz,Nat.div_eq_of_lt hjl,Bo]
     have hm:(i*ie.size+j)%ie.size=j:=by rw[CZ,Nat.mul_add_mod,LP hjl]
     refine⟨xs i j,?_,hrec i j row u hi hj⟩
     simp[hb,hd,hm]
  ·cases hq
 ·rename_i s
  split at hq
  ·rename_i hu
   cases hq;have:x= .string s:=hv;subst this;have h1:ie.size=1:=by rw[<-hts];exact hu.2
   rw[h1];have hl:(Ku s).length=s.size:=by simp[Ku]
   refine⟨s.data.toList.map λb=> .int .u8 b.toNat,λw' _=>⟨by rw[hl]<;>rfl,?_⟩,by simp[Ku],λrow hr=>?_,λi j row u hi hj=>?_⟩
   ·rw[hl]
    simp only[Builtin.firstCells,C7]
    congr 1
    apply Array.ext';simp
   ·unfold Ku at hr
    simp only[AM]at hr;obtain⟨c,_,rfl⟩:=hr;rfl
   ·obtain⟨c,hc,rfl,rfl⟩:=yS hi hj
    exact⟨.int .u8 c.toNat,by simp[hc],.v _ rfl⟩
  ·cases hq
 ·cases hq
def JP1(E:Entry)(m:List Nat)(c:Cl)(w:World)(g:Jl)(h:JG)(a:Act)(r:List (List V))(y:Value):Prop:=
 VP c w (.list .yes r) y/\OwnB m c w r y/\(∀l r' x' b,At m w g h a l r' x'->KM y=some b->KM x'≠some b)/\ ∀b,KM y=some b->E.w.heap.size<=b\/E.ho b
theorem JGQ(hI:InvP vars E m c w g h a):InvP vars E m c w (Lift.untag g) h a/\JP1 E m c w (Lift.untag g) h a [] (.slice none 0 0):=
 ⟨hI.untag,.empty _ _ _,.inl ⟨rfl,rfl⟩,λ_ _ _ _ _ hb=>(by cases hb),λ_ hb=>(by cases hb)⟩
theorem qS(hI:InvP vars E m c w g h a){u:Nat}{r:List (List V)}(hu:look g u= .list .yes r):InvP vars E m c w (Lift.untag (Lift.ins u (.list .no r) g)) h a/\JP1 E m c w (Lift.untag (Lift.ins u (.list .no r) g)) h a r (a.tmps.getD u undef):=by
 have hat:At m w g h a (.slot u) r (a.tmps.getD u undef):=⟨hu,rfl⟩;have hv:=hI.core.env u;rw[hu]at hv;refine⟨hI.release hu,hv,hI.core.own _ _ _ hat,λl r' x' b hl hb hb'=>?_,λb hb=>hI.owned _ _ _ b hat trivial hb⟩
 obtain⟨n1,hl'⟩:=Zy hl;exact n1 (hI.core.uniq l _ r' r x' _ b hl' hat hb' hb)
theorem JJU(hI:InvP vars E m c w g h a){i j:Nat}{cs:List V}{q:List (List V)}(hcs:cellsOfOb h i=some cs)(hj:cs[j]? =some (.list .yes q))(hlo:E.lo<=i):
  ∃y,At m w g h a (.cell i j) q y/\InvP vars E m c w (Lift.untag g) (Lift.setOb h i (cs.set j (.list .no q))) a/\JP1 E m c w (Lift.untag g) (Lift.setOb h i (cs.set j (.list .no q))) a q y:=by
 have hcs0:h[i]? =some (.cells cs):=by
  unfold cellsOfOb at hcs
  split at hcs
  ·rename_i h0;cases hcs;exact h0
  ·cases hcs
 have hil:i<m.length:=by rw[hI.core.len];exact(Ab.1 hcs0).1
 have hm:=Ac hil
 obtain⟨arr,e,f,hw,hle,hfr,hall,hbld⟩:=hI.core.ob i _ _ hcs0 hm;have hjl:j<cs.length:=(Ab.1 hj).1
 have haj:arr[j]? =some arr[j]:=BE om
 have hat:At m w g h a (.cell i j) q arr[j]:=⟨cs,m[i],hcs,hj,hm,by rw[J1 hw];exact haj⟩
 have hcq:∀(k:Nat) (r:List (List V)),(cs.set j (.list .no q))[k]? =some (.list .yes r)->k≠j/\cs[k]? =some (.list .yes r):=λk r hk=>by
  rw[Br]at hk
  by_cases hjk:j=k
  ·subst hjk;simp[hjl]at hk
  ·exact⟨Ne.symm hjk,by simpa[hjk]using hk⟩
 refine⟨arr[j],hat,hI.untag.setOb (w':=w) cs.length hlo hm rfl (λ_ _=>rfl) rfl rfl rfl ?_ ?_ (λt i j r=>WW t i j r) ?_ (Shp.refl w _),?_⟩
 ·refine⟨arr,e,f,hw,by simpa using hle,λk hk=>hfr k (by simpa using hk),λk v x hv hx=>?_,λT hT hc=>?_⟩
  ·rw[Br]at hv
   by_cases hjk:j=k
   ·subst hjk
    simp only[if_true,hjl,Ah]at hv;subst hv;have:=hall j _ x hj hx;exact⟨VP.flag this.1 _,this.2⟩
   ·simp only[if_neg hjk]at hv
    exact hall k v x hv hx
  ·obtain⟨x,k2,k3⟩:=Q8.1 hc
   rw[B4]at hT⊢;rw[Br]at k2
   by_cases hj0:j=0
   ·subst hj0
    simp only[if_true,hjl,Ah]at k2;subst k2;cases k3
   ·simp only[if_neg hj0]at k2
    exact hbld T hT (Q8.2 ⟨x,k2,k3⟩)
 ·intro cs' k r x hc hk hx
  cases hc;obtain⟨hne,hk'⟩:=hcq k r hk;refine .inr ⟨λ_=>⟨cs,m[i],hcs,hk',hm,hx⟩,λhkl=>?_⟩
  have:=(Ab.1 hk').1
  omega
 ·intro cs' hc hib n hin h0 v hv
  cases hc;rcases CS hv with hv|rfl
  ·exact h0 cs hcs v hv
  ·rfl
 ·have h1:=(hall j _ _ hj haj).1
  refine⟨h1,hI.core.own _ _ _ hat,λl r' x' b hl hb hb'=>?_,λb hb=>hI.owned _ _ _ b hat hlo hb⟩
  have:At m w g h a l r' x'/\l≠ .cell i j:=by
   cases l with
   |slot t=>exact⟨JKl (h:=h) hl,λe=>by cases e⟩
   |cell k s=>
    obtain⟨cs',b',k1,k2,k3,k4⟩:=hl;rcases Gk k1 with⟨rfl,ho⟩|⟨hki,hcs'⟩
    ·cases ho
     obtain⟨hne,hk'⟩:=hcq s r' k2;exact⟨⟨cs,b',hcs,hk',k3,k4⟩,λe=>hne (by cases e;rfl)⟩
    ·exact⟨⟨cs',b',hcs',k2,k3,k4⟩,λe=>hki (by cases e;rfl)⟩
  exact this.2 (hI.core.uniq l _ r' q x' _ b this.1 hat hb' hb)
theorem HR(hI:InvP vars E m c w g h a){x:Operand}{r:List (List V)}{g1:Jl}{h1:JG}(ho:Gv E.lo (g,h) x=some (r,g1,h1)):
  InvP vars E m c w (Lift.untag g1) h1 a/\JP1 E m c w (Lift.untag g1) h1 a r (a.eval x):=by
 unfold Gv at ho
 split at ho
 ·rename_i t
  split at ho
  ·rename_i hl
   cases ho;have hv:=hI.core.env t;rw[hl]at hv;have hv':a.eval (.tmp t)= .slice none 0 0:=hv;rw[hv'];exact JGQ hI
  ·rename_i q hl
   cases ho;exact qS hI hl
  ·rename_i u q hl
   split at ho
   ·rename_i q' hu
    cases ho;obtain⟨_,k1,k2⟩:=hI.core.tagS t u r hl;simp only at hu;rw[hu]at k1;cases k1;have:=qS hI hu;rw[show a.eval (.tmp t)=a.tmps.getD u undef from k2]
    exact this
   ·cases ho
  ·rename_i i j q hl
   split at ho
   ·rename_i cs hcs
    split at ho
    ·rename_i q' hj
     split at ho
     ·rename_i hlo
      cases ho;have hat:=hI.core.tagC t i j r hl;obtain⟨cs2,b2,k1,k2,k3,k4⟩:=hat;simp only at hcs;rw[hcs]at k1;cases k1;rw[hj]at k2;cases k2;obtain⟨y,hy,hI',hO⟩:=JJU hI hcs hj hlo;obtain⟨cs3,b3,e1,e2,e3,e4⟩:=hy;rw[k3]at e3;cases e3;rw[k4]at e4;have:a.eval (.tmp t)=y:=Bh e4;rw[this];exact⟨hI',hO⟩
     ·cases ho
    ·cases ho
   ·cases ho
  ·cases ho
 ·rename_i k
  split at ho
  ·rename_i hk
   cases ho
   have:a.eval (.const k)= .slice none 0 0:=by have:=hI.core.opd (.const k);simp only[opd,hk]at this;exact this
   rw[this];exact JGQ hI
  ·cases ho
 ·cases ho
theorem jn{r:List (List V)}{b cap sz:Nat}{cur:Array Value}{e:TypeId}{f:Nat×Nat}{ao:Option Addr}(hp:VP c w (.list .yes r) (.slice ao r.length cap))(ha:ao=some ⟨b,0,none⟩)(hb:w.heap[b]? =some (.cells cur e f))(hrow:∀row∈r,row.length=sz):
  ∀(i j:Nat) row v,r[i]? =some row->row[j]? =some v->∃x,cur[i*sz+j]? =some x/\VP c w v x:=by
 intro i j row v hi hj;generalize hn:r.length=n at hp
 cases hp with
 |empty=>simp at hi
 |list k rows ad cap sz' xs hne hsz hspot hcap hcl hrow' hcell hrec=>cases ha;have h1:=hrow' i row hi;have h2:=hrow row (Aj hi);rw[h2]at h1;subst h1;have h3:=hcell i j row v hi hj;rw[J1 hb,AC]at h3;exact⟨_,h3,hrec i j row v hi hj⟩
theorem GW{r q:List (List V)}{olds news:List Value}{sz:Nat}{R:V->Value->Prop}(hl:olds.length=r.length*sz)
  (h1:∀(i j:Nat) row v,r[i]? =some row->row[j]? =some v->∃x,olds[i*sz+j]? =some x/\R v x)(h2:∀(i j:Nat) row v,q[i]? =some row->row[j]? =some v->∃x,news[i*sz+j]? =some x/\R v x):
  ∀(i j:Nat) row v,(r++q)[i]? =some row->row[j]? =some v->∃x,(olds++news)[i*sz+j]? =some x/\R v x:=by
 intro i j row v hi hj;rw[BU]at hi
 split at hi
 ·rename_i hlt
  obtain⟨x,hx,hv⟩:=h1 i j row v hi hj;exact⟨x,by rw[Bd (Ab.1 hx).1];exact hx,hv⟩
 ·rename_i hge
  obtain⟨x,hx,hv⟩:=h2 _ j row v hi hj;refine⟨x,?_,hv⟩
  have:r.length*sz<=i*sz:=AF _ om;rw[Bb (by rw[hl];omega),hl]
  rw[Nat.sub_mul]at hx;rw[show i*sz+j-r.length*sz=i*sz-r.length*sz+j by omega]
  exact hx
theorem JP2(hI:InvP vars E m c w g h a){o:Oper}{r q:List (List V)}{olds news:List Value}{rest:Array Value}{e:TypeId}{cap sz:Nat}(hsz:0<sz)
  (hlo:olds.length=r.length*sz)(hln:news.length=q.length*sz)(hr:∀row∈r,row.length=sz)(hq:∀row∈q,row.length=sz)
  (h1:∀(i j:Nat) row v,r[i]? =some row->row[j]? =some v->∃x,olds[i*sz+j]? =some x/\VP c w v x)(h2:∀(i j:Nat) row v,q[i]? =some row->row[j]? =some v->∃x,news[i*sz+j]? =some x/\VP c w v x)
  (hbt:∀T,BTy.bb=some T->J2 (r++q)=true->e=T)(hcap:r.length+q.length<=cap)(hrest:rest.size=(cap-(r.length+q.length))*sz)(hmax:cap<=maxLen)(hne:r++q≠[])
  (hdo:Does P w a o (.slice (some ⟨w.heap.size,0,none⟩) (r.length+q.length) cap) (w.drew.alloc (.cells (olds.toArray++news.toArray++rest) e)))
  (hd:∀t,o.dst=some t->t<E.nt)(hv:∀t,o.dst=some t->t∉vars):Done P vars E w a o (.list .yes (r++q)) g h:=by
 have hasz:(olds.toArray++news.toArray++rest).size=cap*sz:=by
  simp only[CR,BZ,hlo,hln,hrest];rw[<-A6,<-A6]
  congr 1
  omega
 have hnle:(r.length+q.length)*sz<=cap*sz:=AF _ hcap;have hI':=Zz hI (arr:=olds.toArray++news.toArray++rest) (e:=e) (f:=(0,0)) (w':=w.drew.alloc (.cells (olds.toArray++news.toArray++rest) e)) ((r.length+q.length)*sz) rfl rfl rfl rfl (by rw[hasz];exact hnle)
 have hheap:(w.drew.alloc (.cells (olds.toArray++news.toArray++rest) e)).heap[w.heap.size]? =some (.cells (olds.toArray++news.toArray++rest) e (0,0)):=heap_alloc_new w.drew _
 have hold:∀b,b<w.heap.size->(w.drew.alloc (.cells (olds.toArray++news.toArray++rest) e)).heap[b]? =w.heap[b]? :=λb hb=>by
  show(w.heap.push _)[b]? =_
  rw[BI];simp[show¬b=w.heap.size by omega]
 have hext:Ext c w (λb=>if b=w.heap.size then(r.length+q.length)*sz else c b) (w.drew.alloc (.cells (olds.toArray++news.toArray++rest) e)):=by
  refine⟨λb=>?_,λb o ho=>?_,λb _=>Shp.old hold b⟩
  ·by_cases hb:b=w.heap.size
   ·subst hb;rw[hI.core.c_zero (Ad _)];exact B9 _
   ·simp[hb]
  ·rcases Ay b w.heap.size with hb|hb
   ·exact Jb (hold b hb) o
   ·rw[hI.core.c_zero hb]at ho;omega
 have hl2:(r++q).length=r.length+q.length:=by simp
 have hrq:∀row∈r++q,row.length=sz:=λrow hm=>by
  rcases AO.1 hm with hm|hm
  ·exact hr row hm
  ·exact hq row hm
 have hvp:=jA (k:= .yes) (cap:=cap) (c:=λb=>if b=w.heap.size then(r.length+q.length)*sz else c b) (rows:=r++q) hheap hsz hrq (by rw[hl2];exact hcap) (by simp only[hl2,if_true];exact Ad _) (λi j row v hi hj=>by
  obtain⟨x,hx,hxv⟩:=GW hlo h1 h2 i j row v hi hj;refine⟨x,?_,hxv.mono hext⟩
  rw[BT]
  ·rw[<-Bk];simpa using hx
  ·have:=(Ab.1 hx).1
   simpa using this)
 rw[hl2]at hvp;refine⟨_,_,m,λb=>if b=w.heap.size then(r.length+q.length)*sz else c b,hdo,?_⟩
 refine hI'.putOwn hd hvp ?_ ?_ ?_ (.inl hv)
 ·refine .inr ⟨w.heap.size,cap,_,e,sz,by rw[hl2],hheap,by rw[hl2];exact hcap,hmax,hasz,hsz,hrq,by simp,?_,λh0=>absurd h0 hne,hbt⟩
  intro hb;obtain⟨i,hi,hb⟩:=AV hb;have:=hI.core.m_lt (Ac hi)
  omega
 ·intro l r' x' b hl hb hb'
  cases hb
  have hl':At m w g h a l r' x':=by
   cases l with
   |slot t=>exact hl
   |cell i j=>obtain⟨cs,b,k1,k2,k3,k4⟩:=hl;exact⟨cs,b,k1,k2,k3,by rw[<-Jb (hold b (hI.core.m_lt k3))];exact k4⟩
  exact absurd ((hI.core.own l r' x' hl').lt hb').1 (C1 _)
 ·intro b hb
  cases hb;exact .inl hI.fr.size
theorem JGR(hI:InvP vars E m c w g h a){o:Oper}{r q:List (List V)}{news:List Value}{b cap sz:Nat}{cur:Array Value}{e:TypeId}(hb:w.heap[b]? =some (.cells cur e (0,0)))
  (hO:JP1 E m c w g h a r (.slice (some ⟨b,0,none⟩) r.length cap))(hcur:cur.size=cap*sz)(hsz:0<sz)(hr:∀row∈r,row.length=sz)(hq:∀row∈q,row.length=sz)(hc:c b=r.length*sz)(hbm:b∉m)(hmax:cap<=maxLen)
  (hln:news.length=q.length*sz)(h2:∀(i j:Nat) row v,q[i]? =some row->row[j]? =some v->∃x,news[i*sz+j]? =some x/\VP c w v x)(hbt:∀T,BTy.bb=some T->J2 (r++q)=true->e=T)(hcap:r.length+q.length<=cap)(hne:r++q=[]->cap=0)
  (hdo:Does P w a o (.slice (some ⟨b,0,none⟩) (r.length+q.length) cap) (w.setCells b (r.length*sz) news))
  (hd:∀t,o.dst=some t->t<E.nt)(hv:∀t,o.dst=some t->t∉vars):Done P vars E w a o (.list .yes (r++q)) g h:=by
 have hnle:(r.length+q.length)*sz<=cap*sz:=AF _ hcap;have hfit:r.length*sz+news.length<=cur.size:=by rw[hln,hcur,<-A6];exact hnle
 obtain⟨k1,k2,k3,k4,k5,arr',k6,k7⟩:=Jp b news (r.length*sz) w cur e (0,0) hb hfit;have hbl:b<w.heap.size:=(AL.1 hb).1
 have hasz:arr'.size=cap*sz:=by rw[<-hcur,<-AJ,k7];simp only[Ao,Az,AB,AJ];omega
 have hget:∀k,k<r.length*sz->arr'[k]? =cur[k]? :=λk hk=>by
  rw[<-Bk,k7,QP (by simpa using hfit),if_neg om]
  simp
 have hI':=hI.grown (c':=λk=>if k=b then(r.length+q.length)*sz else c k) (w':=w.setCells b (r.length*sz) news) (some b) (by rw[k1];exact Ad _)
  (λk hk hne=>⟨k2 k (λe=>hne (by rw[e])),by simp[show¬k=b from λe=>hne (by rw[e])]⟩)
  (λk hk=>by
   cases hk;refine⟨hbm,λl r' x' hl=>?_,hO.2.2.2 b rfl,?_,λo ho=>?_,⟨arr',e,(0,0),k6,by simp only[if_true];rw[hasz];exact hnle⟩,λ_=>Qb hb hfit⟩
   ·exact hO.2.2.1 l r' x' b hl rfl
   ·simp only[if_true,hc];exact AF _ om
   ·rw[J1 k6,J1 hb]
    exact hget o (by rw[<-hc];exact ho))
  (λk hk hne h0=>by
   have:¬k=b:=λe=>hne (by rw[e])
   simp only[if_neg this]at h0
   rw[hI.core.c_zero hk]at h0;omega) k3 k4 k5
 have hext:Ext c w (λk=>if k=b then(r.length+q.length)*sz else c k) (w.setCells b (r.length*sz) news):=by
  refine⟨λk=>?_,λk o ho=>?_,λk _=>?_⟩
  rotate_left 2
  ·by_cases hk:k=b
   ·rw[hk];exact Qb hb hfit
   ·exact Shp.same (k2 k hk)
  ·by_cases hk:k=b
   ·subst hk;simp only[if_true,hc];exact AF _ om
   ·simp[hk]
  ·by_cases hk:k=b
   ·subst hk
    rw[J1 k6,J1 hb];exact hget o (by rw[<-hc];exact ho)
   ·exact Jb (k2 k hk) o
 have hl2:(r++q).length=r.length+q.length:=by simp
 have hrq:∀row∈r++q,row.length=sz:=λrow hm=>by
  rcases AO.1 hm with hm|hm
  ·exact hr row hm
  ·exact hq row hm
 have holds:=jn hO.1 rfl hb hr
 have holdl:(cur.toList.take (r.length*sz)).length=r.length*sz:=by rw[Az,AJ];exact B3 (Bt (Nat.le_add_right _ _) hfit)
 have hvp:=jA (k:= .yes) (cap:=cap) (c:=λk=>if k=b then(r.length+q.length)*sz else c k) (rows:=r++q) k6 hsz hrq (by rw[hl2];exact hcap) (by simp only[hl2,if_true];exact Ad _) (λi j row v hi hj=>by
  obtain⟨x,hx,hxv⟩:=GW (olds:=cur.toList.take (r.length*sz)) (news:=news) holdl (λi j row v hi hj=>by
   obtain⟨x,hx,hxv⟩:=holds i j row v hi hj;refine⟨x,?_,hxv⟩
   have hjl:j<sz:=by rw[<-hr row (Aj hi)];exact(Ab.1 hj).1
   have hil:i<r.length:=(Ab.1 hi).1
   have:(i+1)*sz<=r.length*sz:=AF _ hil;rw[A6]at this;rw[AH,if_pos om]
   simpa using hx) h2 i j row v hi hj
  refine⟨x,?_,hxv.mono hext⟩
  rw[<-Bk,k7,Bd (Ab.1 hx).1]
  exact hx)
 rw[hl2]at hvp;refine⟨_,_,m,λk=>if k=b then(r.length+q.length)*sz else c k,hdo,?_⟩
 refine hI'.putOwn hd hvp ?_ ?_ ?_ (.inl hv)
 ·exact .inr ⟨b,cap,arr',e,sz,by rw[hl2],k6,by rw[hl2];exact hcap,hmax,hasz,hsz,hrq,by simp,hbm,hne,hbt⟩
 ·intro l r' x' k hl hk
  cases hk
  have hl':At m w g h a l r' x':=by
   cases l with
   |slot t=>exact hl
   |cell i j=>obtain⟨cs,b',q1,q2,q3,q4⟩:=hl;exact⟨cs,b',q1,q2,q3,by rw[<-Jb (k2 b' (λe=>hbm (e▸Aj q3)))];exact q4⟩
  exact hO.2.2.1 l r' x' b hl' rfl
 ·intro k hk
  cases hk;exact hO.2.2.2 b rfl
theorem jC(ρ:Operand->Value){o:Oper}{k:Call}(ho:o.op= .call k)(hc:k.callee= .builtin .append):execOp ρ o=(do pure (Next.value (<-Builtin.append_ k.argTypes o.type (k.args.map ρ)))):=by simp[execOp,ho,resolve,hc,invoke,builtin]
theorem JMv(hI:InvP vars E m c w g h a){o:Oper}{k:Call}{x y:Operand}{e:TypeId}{du:TypeDesc}{r q:List (List V)}{g1:Jl}{h1:JG}(ho:o.op= .call k)(hc:k.callee= .builtin .append)(hargs:k.args.toList=[x,y])
  (htypes:k.argTypes.toList.map P.underlying=[some (.slice e),some du])(hown:Gv E.lo (g,h) x=some (r,g1,h1))(hq:Wk P e (opd g y)=some q)
  (hcond:(K4 P e).map (·.length)=some (JH P e)/\0<JH P e/\(r.all λz=>z.length==JH P e)=true/\(r.length+q.length)*P.bytesOf e<=140737488355328/\r.length+q.length<=9223372036854775807/\H4 du=true/\byT e r q=true)
  (hd:∀t,o.dst=some t->t<E.nt)(hv:∀t,o.dst=some t->t∉vars):Done P vars E w a o (.list .yes (r++q)) (Lift.untag g1) h1:=by
 obtain⟨c1,c2,c3,c4,c5,c6,c7⟩:=hcond;obtain⟨hI1,hO⟩:=HR hI hown
 obtain⟨ie,hie⟩:∃ie,P.info? e=some ie:=by
  cases hie:P.info? e with
  |some ie=>exact⟨ie,rfl⟩
  |none=>simp[JH,Bs,hie]at c2
 have hsz:=JY hie;have hsz0:0<ie.size:=by rw[<-hsz];exact c2
 obtain⟨z,hz,hzl⟩:∃z,ie.zero=some z/\z.cells.size=ie.size:=by
  unfold K4 at c1;rw[hie]at c1
  cases hz:ie.zero with
  |none=>simp[hz]at c1
  |some z=>simp[hz]at c1;exact⟨z,rfl,by rw[c1,hsz]⟩
 have hby:P.bytesOf e=ie.bytes:=by simp[Do,hie]
 rw[hby]at c4;obtain⟨news,hsrc,hnl,hqr,hnew⟩:=yV hie (hI.core.opd y) hq hsz0
 have hrr:∀row∈r,row.length=ie.size:=λrow hr=>by have:=Ak.1 c3 row hr;rw[hsz]at this;simpa using this
 obtain⟨t,u,ht2,htu,huu⟩:∃t u,k.argTypes= #[t,u]/\P.underlying t=some (.slice e)/\P.underlying u=some du:=by
  rcases hl:k.argTypes.toList with _|⟨t,_|⟨u,_|⟨v,l⟩⟩⟩<;>rw[hl]at htypes<;>simp at htypes
  exact⟨t,u,by rw[<-BV (xs:=k.argTypes),hl],htypes.1,htypes.2⟩
 have hdu:∀kk,du≠ .int kk:=λkk e=>by subst e;cases c6
 have hargs':k.args.map a.eval= #[a.eval x,a.eval y]:=by rw[<-BV (xs:=k.args),hargs];simp
 have hdo:∀v w',(Builtin.append_ #[t,u] o.type #[a.eval x,a.eval y]).run P w= .ok v w'->Does P w a o v w':=λv w' hr=>by
  refine Kz (jC a.eval ho hc) ?_
  rw[ht2,hargs'];exact hr
 have hone:∀v∈news,v.oneCell'=true:=λv hv=>by
  obtain⟨p,hp,rfl⟩:=AV hv;have hp':p/ie.size<q.length:=DB (by rw[CZ,<-hnl];exact hp)
  have hrow:=hqr _ (AW hp');have hm:p%ie.size<(q[p/ie.size]).length:=by rw[hrow];exact DC _ hsz0
  obtain⟨z',hz',hvp⟩:=hnew _ _ _ _ (Ac hp') (Ac hm)
  rw[CZ,D9,Ac hp]at hz'
  cases hz';exact hvp.oneCell
 have hgrow:∀{base:Option Addr} {cap:Nat} {olds:List Value},a.eval x= .slice base r.length cap->(∀w',w'.heap=w.heap->(Builtin.firstCells ie.size r.length (.slice base r.length cap)).run P w'= .ok olds.toArray w')->
   olds.length=r.length*ie.size->(∀(i j:Nat) row v,r[i]? =some row->row[j]? =some v->∃x,olds[i*ie.size+j]? =some x/\VP c w v x)->cap<r.length+q.length->Done P vars E w a o (.list .yes (r++q)) (Lift.untag g1) h1:=λ{base cap olds} hx hf hol hoc hlt=>by
  have hrun:=yU (P:=P) (w:=w) (ty:=o.type) htu huu hdu hie hz hsrc hf hlt c5 c4;rw[<-hx]at hrun;have hge:=grownCap_ge w (r.length+q.length) cap e;refine JP2 hI1 hsz0 hol hnl hrr hqr hoc hnew (JJT c7) hge ?_ (grownCap_le_maxLen w _ _ e (by unfold maxLen;exact c5)) ?_ (hdo _ _ hrun) hd hv
  ·rw[size_zeroCells,hzl]
  ·intro h0
   have:=congrArg Bq h0;rw[Ao,Ai]at this;omega
 rcases hO.2.1 with⟨hx,hr0⟩|⟨b,cap,cur,e',sz,hx,k1,k2,k3,k4,k5,k6,k7,k8,k9,k10⟩
 ·subst hr0
  by_cases hk:q.length=0
  ·have hq0:q=[]:=Ar hk
   subst hq0;refine⟨.slice none 0 0,w,m,c,hdo _ _ ?_,hI1.putOwn hd (.empty _ _ _) (.inl ⟨rfl,rfl⟩) (λ_ _ _ _ _ hb=>by cases hb) (λ_ hb=>by cases hb) (.inl hv)⟩
   obtain⟨s1,s2⟩:=hsrc w rfl
   have hzz:(match du with| .int _=>true|_=>false)=false:=by cases du<;>first|rfl|(exact absurd rfl (hdu _))
   have hnews:news=[]:=Ar (by rw[hnl];simp)
   subst hnews;rw[hx];simp only[Ai]at s1 s2;simp[Builtin.append_,run_underlying htu,run_underlying huu,sizeOf,typeInfo,hie,s1,s2]
  ·exact hgrow (base:=none) (cap:=0) (olds:=[]) hx (λw' _=>by simp[Builtin.firstCells]) (by simp) (λi j row v hi=>by simp at hi) (by simp;omega)
 ·by_cases hroom:r.length+q.length<=cap
  ·by_cases hr0:r=[]
   ·subst hr0
    have hcap0:=k9 rfl;subst hcap0;have hq0:q=[]:=Ar (by rw[Ai]at hroom;omega)
    subst hq0;have hnews:news=[]:=Ar (by rw[hnl];simp)
    subst hnews;rw[hx]at hO;refine JGR (news:=[]) hI1 k1 hO k4 k5 (λ_ h0=>by cases h0) (λ_ h0=>by cases h0) k7 k8 k3 (by simp) (λi j row v hi=>by simp at hi) (λT hT hb=>by cases hb) hroom (λ_=>rfl) (hdo _ _ ?_) hd hv
    have:=JBt (P:=P) (w:=w) (ty:=o.type) htu huu hdu hie hsrc k1 hroom (by simp) (λ_ h0=>by cases h0)
    rw[hx];simpa using this
   ·have hse:sz=ie.size:=by
     obtain⟨r0,hm⟩:=Ca _ hr0;rw[<-k6 r0 hm,hrr r0 hm]
    subst hse;have hfit:r.length*ie.size+news.length<=cur.size:=by rw[hnl,k4,<-A6];exact AF _ hroom
    rw[hx]at hO;refine JGR hI1 k1 hO k4 k5 hrr hqr k7 k8 k3 hnl hnew (λT hT hb=>k10 T hT (by rw[kq hr0]at hb;exact hb)) hroom (λh0=>absurd (List.append_eq_nil_iff.1 h0).1 hr0) (hdo _ _ ?_) hd hv
    rw[hx];exact JBt (P:=P) (w:=w) (ty:=o.type) htu huu hdu hie hsrc k1 hroom hfit hone
  ·by_cases hr0:r=[]
   ·subst hr0
    exact hgrow (olds:=[]) hx (λw' _=>run_firstCells_some w' ie.size 0 ⟨b,0,none⟩ 0 cap [] (by simp) (λj v hj=>by simp at hj)) (by simp) (λi j row v hi=>by simp at hi) om
   ·have hse:sz=ie.size:=by
     obtain⟨r0,hm⟩:=Ca _ hr0;rw[<-k6 r0 hm,hrr r0 hm]
    subst hse;rw[hx]at hO;have hle:r.length*ie.size<=cur.size:=by rw[k4];exact AF _ k2
    have hol:(cur.toList.take (r.length*ie.size)).length=r.length*ie.size:=by rw[Az,AJ];exact B3 hle
    refine hgrow (olds:=cur.toList.take (r.length*ie.size)) hx (λw' hw'=>run_firstCells_some w' ie.size r.length ⟨b,0,none⟩ r.length cap _ hol (λj v hj=>?_)) hol (λi j row v hi hj=>?_) om
    ·rw[KR,AC,Jb (w:=w) (w':=w') (by rw[hw']),J1 k1]
     rw[AH]at hj
     split at hj
     ·simpa using hj
     ·cases hj
    ·obtain⟨x',hx',hxv⟩:=jn hO.1 rfl k1 hrr i j row v hi hj
     refine⟨x',?_,hxv⟩
     have hjl:j<ie.size:=by rw[<-hrr row (Aj hi)];exact(Ab.1 hj).1
     have hil:i<r.length:=(Ab.1 hi).1
     have:(i+1)*ie.size<=r.length*ie.size:=AF _ hil;rw[A6]at this;rw[AH,if_pos om]
     simpa using hx'
theorem JMw(hI:InvP vars E m c w g h a){o:Oper}{s d:TypeId}{x:Operand}{v:V}{g':Jl}{h':JG}(ho:o.op= .convert s d x)(hr:isRow P s d=true)
  (he:JBD (g,h) x=some (v,g',h'))(hd:∀t,o.dst=some t->t<E.nt)(hv:∀t,o.dst=some t->t∉vars):Done P vars E w a o v g' h':=by
 unfold isRow at hr;simp only[Af,beq_iff_eq]at hr;obtain⟨rfl,hr⟩:=hr
 split at hr
 ·rename_i e hs
  have hu:=JOX hr;unfold JBD at he
  split at he
  ·rename_i t
   split at he
   ·rename_i r hl
    split at he
    ·cases he
    ·rename_i hre
     simp only[Ah,AG]at he;obtain⟨rfl,rfl,rfl⟩:=he;have hne:r≠[]:=λh=>hre (by rw[h]<;>rfl)
     obtain⟨hI1,hO⟩:=qS hI hl;rcases hO.2.1 with⟨_,h0⟩|⟨b,cap,cur,e',sz,hy,hb,hcap,hmax,hcur,hsz,hrow,hc,hbm,_⟩
     ·exact absurd h0 hne
     ·have hbl:b<w.heap.size:=(AL.1 hb).1
      have hmod:∀k,(w.freeze ⟨b,cur.size,none⟩ 1).heap[k]? =if k=b then some (.cells cur e' (cur.size,cur.size+1))else w.heap[k]? :=by
       intro k;unfold L7;rw[if_neg (by decide)]
       simp only;by_cases hk:k=b
       ·subst hk
        rw[if_pos rfl,CL,if_pos rfl,hb]<;>rfl
       ·rw[if_neg hk,CL,if_neg (λe=>hk e.symm)]
      have hrest:(w.freeze ⟨b,cur.size,none⟩ 1).os=w.os/\(w.freeze ⟨b,cur.size,none⟩ 1).tape=w.tape/\(w.freeze ⟨b,cur.size,none⟩ 1).output=w.output/\(w.freeze ⟨b,cur.size,none⟩ 1).heap.size=w.heap.size:=by
       unfold L7;rw[if_neg (by decide)]
       exact⟨rfl,rfl,rfl,by simp⟩
      have hcell:∀k o,(w.freeze ⟨b,cur.size,none⟩ 1).cell? ⟨k,o,none⟩=w.cell? ⟨k,o,none⟩:=λk o=>by
       by_cases hk:k=b
       ·subst hk
        rw[J1 (by rw[hmod,if_pos rfl]),J1 hb]
       ·exact Jb (by rw[hmod,if_neg hk]) o
      have hrun:(convert s s (a.eval (.tmp t))).run P w= .ok (.slice (some ⟨b,0,none⟩) r.length cap) (w.freeze ⟨b,cur.size,none⟩ 1):=by
       have hsh:w.shape? b=some (e',cur.size):=by unfold World.shape?;rw[hb]
       have hyy:a.eval (.tmp t)= .slice (some ⟨b,0,none⟩) r.length cap:=hy;rw[hyy];simp[convert,run_underlying hs,run_underlying hu,markStringish,hsh]
      have hdo:Does P w a o (.slice (some ⟨b,0,none⟩) r.length cap) (w.freeze ⟨b,cur.size,none⟩ 1):=Kz (s:=convert s s (a.eval (.tmp t))) (by simp[execOp,ho]) hrun
      have hshp:Shp w (w.freeze ⟨b,cur.size,none⟩ 1) b:=λarr0 e0 f0 h0=>by
       rw[hb]at h0;cases h0;refine⟨cur,_,by rw[hmod,if_pos rfl],rfl,λj hj _=>?_⟩
       have h1:(w.freeze ⟨b,cur.size,none⟩ 1).heap[b]? =some (.cells cur e' (cur.size,cur.size+1)):=by rw[hmod,if_pos rfl]
       simp only[BN,h1];simp;omega
      have hI':=hI1.grown (c':=c) (w':=w.freeze ⟨b,cur.size,none⟩ 1) (some b) (by rw[hrest.2.2.2];exact Ad _)
       (λk hk hkb=>⟨by rw[hmod,if_neg (λe=>hkb (by rw[e]))],rfl⟩)
       (λk hk=>by
        cases hk;refine⟨hbm,λl r' x' hl'=>?_,?_,Ad _,λo _=>hcell b o,⟨cur,e',_,by rw[hmod,if_pos rfl],?_⟩,λ_=>hshp⟩
        ·exact hO.2.2.1 l r' x' b hl' (by rw[hy]<;>rfl)
        ·exact hO.2.2.2 b (by rw[hy]<;>rfl)
        ·rw[hc,hcur];exact AF _ hcap)
       (λk hk hkb h0=>by rw[hI.core.c_zero hk]at h0;omega) hrest.1 hrest.2.1 hrest.2.2.1
      have hext:Ext c w c (w.freeze ⟨b,cur.size,none⟩ 1):=⟨λ_=>Ad _,λk o _=>hcell k o,λk _=>by
       by_cases hk:k=b
       ·rw[hk];exact hshp
       ·exact Shp.same (by rw[hmod,if_neg hk])⟩
      have hvp:VP c w (.list .yes r) (.slice (some ⟨b,0,none⟩) r.length cap):=by rw[<-hy];exact hO.1
      have hvn:VP c w (.list .no r) (.slice (some ⟨b,0,none⟩) r.length cap):=by
       cases hvp with
       |empty k ao cap=>exact .empty _ _ _
       |list k rows ad cap sz xs q1 q2 q3 q4 q5 q6 q7 q8=>exact .list _ _ _ _ _ xs q1 q2 q3 q4 q5 q6 q7 q8
      exact⟨_,_,m,c,hdo,hI'.putBare hd (hvn.mono hext) rfl (.inl hv)⟩
   ·cases he
  ·cases he
 ·cases hr
end
def JBu:Act:=⟨#[],[]⟩
def HOK(m:List Nat)(c:Cl)(w:World)(h:JG):Prop:=Core [] m c w [] h JBu/\ ∀(i:Nat) cs,cellsOfOb h i=some cs->∀v∈cs,okv h.length v=true
def hoOf(m:List Nat)(w:World)(h:JG)(lo:Nat):Nat->Prop:=λb=>∃i j r x,lo<=i/\At m w [] h JBu (.cell i j) r x/\KM x=some b
def KY(P:Program)(lo f:Nat)(args:List V)(h:JG)(r:V)(h':JG):Prop:=
 bare r=true/\(∀xs w,(callFunc f xs).run P w= .ok (.enter f xs) w)/\
 ∀m c w (xs:Array Value),HOK m c w h->R2 (VRr m c w) args xs.toList->(h.length<=h'.length/\h'.take lo=h.take lo/\Keeps h.length h h')/\
  Calls P f xs w λe w'=>∃x c' m',e= .returned x/\VRr m' c' w' r x/\HOK m' c' w' h'/\Fr lo (hoOf m w h lo) w m c w' m' c'/\JGJ lo (hoOf m w h lo) w m' w' [] h' JBu
def CallOK0(P:Program)(lo f:Nat)(args:List V)(h:JG)(r:V)(h':JG):Prop:=
 bare r=true/\(∀xs w,(callFunc f xs).run P w= .ok (.enter f xs) w)/\
 ∀m c w (xs:Array Value),HOK m c w h->R2 (VRr m c w) args xs.toList->(h'.length=h.length/\h'.take lo=h.take lo/\Keeps h.length h h')/\
  Calls P f xs w λe w'=>∃x c',e= .returned x/\VRr m c' w' r x/\HOK m c' w' h'/\Fr lo (hoOf m w h lo) w m c w' m c'/\JGJ lo (hoOf m w h lo) w m w' [] h' JBu
theorem Keeps.refl(B:Nat)(h:JG):Keeps B h h:=λ_ _ cs _ _ hcs h0=>h0 cs hcs
theorem Keeps.trans{B C:Nat}{h h' h'':JG}(k:Keeps B h h')(k':Keeps C h' h'')(hBC:B<=C):Keeps B h h'':=λn i cs hi hn hcs h0=>k' n i cs (Cm hi hBC) hn hcs λcs1 h1=>k n i cs1 hi hn h1 h0
theorem CallOK0.ok{P:Program}{lo f:Nat}{args:List V}{h h':JG}{r:V}(hk:CallOK0 P lo f args h r h'):KY P lo f args h r h':=
 ⟨hk.1,hk.2.1,λm c w xs hH hargs=>by
  obtain⟨⟨h1,h2,h3⟩,h4⟩:=hk.2.2 m c w xs hH hargs
  exact⟨⟨om,h2,h3⟩,h4.mono λe w' ⟨x,c',k⟩=>⟨x,c',m,k⟩⟩⟩
section
variable{P:Program}{vars:List Nat}{m:List Nat}{c:Cl}{w:World}{g:Jl}{h:JG}{a:Act}{E:Entry}
theorem Core.okAll(hC:Core vars m c w g h a):∀(i:Nat) cs,cellsOfOb h i=some cs->∀v∈cs,okv h.length v=true:=λi cs hcs v hv=>by
 have hcs0:h[i]? =some (.cells cs):=by
  unfold cellsOfOb at hcs
  split at hcs
  ·rename_i h0;cases hcs;exact h0
  ·cases hcs
 have hil:i<m.length:=by rw[hC.len];exact(Ab.1 hcs0).1
 obtain⟨arr,e,f,hw,hle,_,hall,_⟩:=hC.ob i _ _ hcs0 (Ac hil)
 obtain⟨j,hj,rfl⟩:=AV hv;have:=(hall j _ _ (Ac hj) (BE om)).1.okv
 rw[hC.len]at this;exact this
theorem InvP.hok(hI:InvP vars E m c w g h a):HOK m c w h:=by
 have hC:=hI.core
 have hAt:∀{l r x},At m w [] h JBu l r x->At m w g h a l r x:=λ{l r x} hl=>by
  cases l with
  |slot t=>exact absurd hl.1 (by simp[look])
  |cell i j=>exact hl
 refine⟨⟨hC.wf1,hC.wf2,hC.nd,hC.len,λt=>trivial,hC.ob,λl r x hl=>hC.own l r x (hAt hl),λl l' r r' x x' b h1 h2=>hC.uniq l l' r r' x x' b (hAt h1) (hAt h2),λt u r ht=>by simp[look]at ht,λt i j r ht=>by simp[look]at ht,hC.gt⟩,hC.okAll⟩
theorem JKp{α:Type}{l l':List α}{n i:Nat}(h:l.take n=l'.take n)(hi:i<n):l[i]? =l'[i]? :=by
 have:=congrArg (·[i]?) h
 simpa[AH,hi]using this
theorem JGS(hI:InvP vars E m c w g h a){lo f:Nat}{args:List V}{r:V}{h':JG}{xs:Array Value}(hlo:E.lo<=lo)(hll:lo<=h.length)(hOK:KY P lo f args h r h')(hargs:R2 (VRr m c w) args xs.toList):
  Calls P f xs w λe w'=>∃x c' m',e= .returned x/\VRr m' c' w' r x/\InvP vars E m' c' w' (Lift.untag g) h' a/\Ext c w c' w'/\Pre m m'/\(m'.length=h'.length)/\
   ∀i j r x,i<lo->At m w g h a (.cell i j) r x->At m' w' g h' a (.cell i j) r x:=by
 obtain⟨hbare,hcf,hcall⟩:=hOK;obtain⟨⟨hlen,htake,hkeep⟩,hcall⟩:=hcall m c w xs hI.hok hargs;refine hcall.mono λe w' ⟨x,c',m',he,hr,⟨hC',hold'⟩,hF,hO⟩=>⟨x,c',m',he,hr,?_,hF.ext,hF.pre,hC'.len,?_⟩
 rotate_left
 ·intro i j r x hi ⟨cs,b,k1,k2,k3,k4⟩
  have hC:=hI.core;refine⟨cs,b,?_,k2,hF.pre i b k3,?_⟩
  ·unfold cellsOfOb at*
   rw[JKp htake hi];exact k1
  ·rw[Jb (hF.fix b (hC.m_lt k3) (λk hk hkb=>?_) (λ⟨i',j',r',x',_,hat,hb'⟩=>?_)).1]
   ·exact k4
   ·obtain⟨l1,e1⟩:=Ab.1 k3
    obtain⟨l2,e2⟩:=Ab.1 hkb
    have:=(Dx hC.nd).1 (e1.trans e2.symm);omega
   ·have hat':At m w g h a (.cell i' j') r' x':=hat
    exact((hC.own _ _ _ hat').lt hb').2 (Aj k3)
 have hC:=hI.core;have hml:m.length=h.length:=hC.len
 have hslot:∀{t r x b},At m w g h a (.slot t) r x->KM x=some b->b<w.heap.size/\b∉m/\ ¬hoOf m w h lo b:=λ{t r x b} hl hb=>by
  have h1:=(hC.own _ _ _ hl).lt hb;refine⟨h1.1,h1.2,λ⟨i,j,r',x',_,hat,hb'⟩=>?_⟩
  have hat':At m w g h a (.cell i j) r' x':=hat;have:=hC.uniq _ _ _ _ _ _ b hl hat' hb hb';cases this
 have hfix:∀{b},b<w.heap.size->b∉m->¬hoOf m w h lo b->w'.heap[b]? =w.heap[b]? /\c' b=c b:=λ{b} h1 h2 h3=>hF.fix b h1 (λi _ hi=>h2 (Aj hi)) h3
 have hnm:∀{b},b<w.heap.size->b∉m->b∉m':=λ{b} h1 h2 h3=>by
  obtain⟨i,hi,e⟩:=AV h3;have hi':m'[i]? =some b:=by rw[Ac hi,e]
  by_cases hil:i<m.length
  ·have:=hF.pre i _ (Ac hil)
   rw[hi']at this;exact h2 (Bh this▸AW hil)
  ·have:=hF.new i b om hi'
   omega
 have hnho:∀{b},b∈m->¬hoOf m w h lo b:=λ{b} hb ⟨i,j,r',x',_,hat,hb'⟩=>by have hat':At m w g h a (.cell i j) r' x':=hat;exact((hC.own _ _ _ hat').lt hb').2 hb
 have hlow:∀{i j r x},i<lo->At m' w' (Lift.untag g) h' a (.cell i j) r x->At m w g h a (.cell i j) r x:=λ{i j r x} hi hl=>by
  obtain⟨cs,b,k1,k2,k3',k4⟩:=hl
  have e1:cellsOfOb h i=some cs:=by unfold cellsOfOb at*;rw[<-JKp htake hi];exact k1
  have k3:m[i]? =some b:=by
   have hil:i<m.length:=om;have:=hF.pre i _ (Ac hil)
   rw[k3']at this;rw[Ac hil,Bh this]
  refine⟨cs,b,e1,k2,k3,?_⟩
  rw[<-Jb (hF.fix b (hC.m_lt k3) (λk hk hkb=>?_) (hnho (Aj k3))).1]
  ·exact k4
  ·have h1:=Ab.1 k3
   have h2:=Ab.1 hkb
   obtain⟨l1,e1⟩:=h1;obtain⟨l2,e2⟩:=h2;have:=(Dx hC.nd).1 (e1.trans e2.symm);omega
 have hcell:∀{i j r x},At m' w' (Lift.untag g) h' a (.cell i j) r x->At m' w' [] h' JBu (.cell i j) r x:=λhl=>hl
 have hslot':∀{t r x},At m' w' (Lift.untag g) h' a (.slot t) r x->At m w g h a (.slot t) r x:=λ{t r x} hl=>JKl (h:=h) hl
 have hnew:∀{t i j r r' x x' b},At m w g h a (.slot t) r x->At m' w' (Lift.untag g) h' a (.cell i j) r' x'->KM x=some b->KM x'=some b->False:=λ{t i j r r' x x' b} h1 h2 hb hb'=>by
  obtain⟨k1,k2,k3⟩:=hslot h1 hb;rcases Ay i lo with hi|hi
  ·have:=hC.uniq _ _ _ _ _ _ b h1 (hlow hi h2) hb hb'
   cases this
  ·rcases hO _ _ _ b (hcell h2) hi hb' with h3|h3
   ·omega
   ·exact k3 h3
 refine⟨⟨hC'.wf1,hC'.wf2,hC'.nd,hC'.len,λt=>?_,hC'.ob,λl r x hl=>?_,λl l' r r' x x' b h1 h2 hb hb'=>?_,λt u r ht=>absurd ht (WV t u r),λt i j r ht=>absurd ht (WW t i j r),hC'.gt⟩,?_,λl r x b hl hu hb=>?_,?_,Bt hI.hlen hlen,hI.ml,hI.lole,hI.nt,hI.df,hI.old.trans hkeep hI.hlen,hI.ent⟩
 ·rw[Jy]
  exact((hC.env t).mono hF.pre hF.ext).untag
 ·cases l with
  |slot t=>
   have h1:=hslot' hl;refine(hC.own _ _ _ h1).keep λb hb=>?_
   obtain⟨k1,k2,k3⟩:=hslot h1 hb;have:=hfix k1 k2 k3
   exact⟨this.1,this.2,hnm k1⟩
  |cell i j=>exact hC'.own _ _ _ (hcell hl)
 ·cases l with
  |slot t=>
   cases l' with
   |slot u=>exact hC.uniq _ _ _ _ _ _ b (hslot' h1) (hslot' h2) hb hb'
   |cell i j=>exact(hnew (hslot' h1) h2 hb hb').elim
  |cell i j=>
   cases l' with
   |slot u=>exact(hnew (hslot' h2) h1 hb' hb).elim
   |cell i' j'=>exact hC'.uniq _ _ _ _ _ _ b (hcell h1) (hcell h2) hb hb'
 ·refine⟨hF.os.trans hI.fr.os,hF.tape.trans hI.fr.tape,hF.output.trans hI.fr.output,Bt hI.fr.size hF.size,hI.fr.pre.trans hF.pre,λi b hi hb=>?_,hI.fr.ext.trans hF.ext,λb hb h1 h2=>?_⟩
  ·by_cases hil:i<m.length
   ·have:=hF.pre i _ (Ac hil)
    rw[hb]at this;exact hI.fr.new i b hi (by rw[Ac hil,Bh this])
   ·exact Bt hI.fr.size (hF.new i b om hb)
  have:=hF.fix b (Cm hb hI.fr.size) (λi hi hib=>?_) (λ⟨i,j,r',x',hi,hat,hb'⟩=>?_)
  ·have h3:=hI.fr.fix b hb h1 h2
   exact⟨this.1.trans h3.1,this.2.trans h3.2⟩
  ·by_cases hil:i<E.m.length
   ·have:=hI.fr.pre i _ (Ac hil)
    rw[hib]at this;cases this;exact h1 i om (Ac hil)
   ·have:=hI.fr.new i b om hib
    omega
  ·have hat':At m w g h a (.cell i j) r' x':=hat
   rcases hI.owned _ _ _ b hat' (show E.lo<=i by omega) hb' with h3|h3
   ·omega
   ·exact h2 h3
 ·cases l with
  |slot t=>exact hI.owned _ _ _ b (hslot' hl) trivial hb
  |cell i j=>
   rcases Ay i lo with hi|hi
   ·exact hI.owned _ _ _ b (hlow hi hl) hu hb
   ·rcases hO _ _ _ b (hcell hl) hi hb with h3|⟨i',j',r',x',hi',hat,hb'⟩
    ·exact .inl (Bt hI.fr.size h3)
    ·have hat':At m w g h a (.cell i' j') r' x':=hat
     exact hI.owned _ _ _ b hat' (show E.lo<=i' by omega) hb'
 ·have:=congrArg (List.take E.lo) htake
  simp only[Du,B3 hlo]at this;rw[this];exact hI.hlo
theorem Wd(hI:InvP vars E m c w g h a){ops:Array Oper}{o:Oper}{b:Bool}(hw:want ops g o=some b):Bv o (yielded ops a.tmps)=b:=by
 unfold want at hw;unfold Bv
 cases hg:o.guard with
 |none=>rw[hg]at hw;simp only[Ah]at hw;exact hw
 |some p=>
  obtain⟨j,want⟩:=p;rw[hg]at hw;simp only at hw⊢;unfold yielded
  cases hd:(ops[j]?).bind (·.dst)with
  |none=>rw[hd]at hw;simp at hw;simp[hw]
  |some t=>
   rw[hd]at hw;simp only at hw;have he:=hI.core.env t
   split at hw
   ·rename_i x hx
    rw[hx]at he;have he':a.tmps.getD t undef= .bool x:=he;simp only[Ah]at hw;subst hw
    have:a.tmps[t]? =some (.bool x):=by
     rw[B5]at he'
     cases hq:a.tmps[t]? with
     |none=>rw[hq]at he';simp[undef]at he'
     |some y=>rw[hq]at he';simpa using he'
    simp[this]
   ·rename_i y hx
    rw[hx]at he;have he':a.tmps.getD t undef= .tuple y:=he;simp only[Ah]at hw;subst hw
    have:∀z,a.tmps[t]? =some z->z= .tuple y:=λz hz=>by rw[B5,hz]at he';simpa using he'
    cases hq:a.tmps[t]? with
    |none=>simp[hq]
    |some z=>rw[this z hq]at hq;simp[hq]
   ·cases hw
structure CxOK(cx:Cx)(E:Entry):Prop where
 lo:cx.lo=E.lo
 base:cx.base=E.base
 call:∀lo f args h r h',lo<=h.length->cx.call lo f args h=some (r,h')->KY cx.P lo f args h r h'
theorem Does.wp{o:Oper}{x:Value}{w':World}{next:Act->World->Prop}{Q:Exit->Act->World->Prop}(hd:Does P w a o x w')(hn:next (a.put o.dst x) w'):o.wp P a w next Q:=by
 unfold Oper.wp;rcases hd with hd|⟨hd,rfl⟩
 ·rw[hd];exact hn
 ·rw[hd];exact hn
theorem JGT{o:Oper}{k:Call}{f:Operand}{fid:Nat}{caps:Array Value}(ho:o.op= .call k)(hc:k.callee= .value f){fs:Array Value}(hf:a.eval f= .func (.func fid) fs caps)(hcf:∀xs w,(callFunc fid xs).run P w= .ok (.enter fid xs) w):
  (execOp a.eval o).run P w= .ok (.enter fid (fs++(k.args.map a.eval++caps))) w:=by
 simp[execOp,ho,resolve,hc,Deferred.ofValue,hf,invoke,hcf,Lx]
theorem JKq(hC:Core vars m c w g h a)(args:Array Operand):R2 (VRr m c w) ((args.toList.map (opd g)).map fzs) (args.map a.eval).toList:=by
 refine⟨by simp,λi u y hu hy=>?_⟩
 simp only[An,Ag,BF]at hu hy
 obtain⟨v,⟨x,hx,rfl⟩,rfl⟩:=hu;obtain⟨x',hx',rfl⟩:=hy;rw[hx]at hx';cases hx';exact(hC.opd x).fzs
theorem InvP.retag(hI:InvP vars E m c w (Lift.untag g) h a)(henv:∀t,VRr m c w (look g t) (a.tmps.getD t undef))(hS:∀t u r,look g t= .list (.slot u) r->u∈vars/\look g u= .list .yes r/\a.tmps.getD t undef=a.tmps.getD u undef)
  (hT:∀t i j r,look g t= .list (.cell i j) r->At m w g h a (.cell i j) r (a.tmps.getD t undef)):InvP vars E m c w g h a:=by
 have hC:=hI.core
 have hAt:∀{l r x},At m w g h a l r x->At m w (Lift.untag g) h a l r x:=λ{l r x} hl=>by
  cases l with
  |slot t=>exact⟨by rw[Jy];exact Qu.2 hl.1,hl.2⟩
  |cell i j=>exact hl
 exact⟨⟨hC.wf1,hC.wf2,hC.nd,hC.len,henv,hC.ob,λl r x hl=>hC.own l r x (hAt hl),λl l' r r' x x' b h1 h2=>hC.uniq l l' r r' x x' b (hAt h1) (hAt h2),hS,hT,hC.gt⟩,
  hI.fr,λl r x b hl hu hb=>hI.owned l r x b (hAt hl) hu hb,hI.hlo,hI.hlen,hI.ml,hI.lole,hI.nt,hI.df,hI.old,hI.ent⟩
theorem JWA(hI:InvP vars E m c w g h a){o:Oper}{k:Call}{f:Operand}{fid lo:Nat}{caps:List V}{r:V}{h':JG}(ho:o.op= .call k)(hc:k.callee= .value f)(hf:opd g f= .fn fid caps)(hlo:E.lo<=lo)(hll:lo<=h.length)
  (hOK:KY P lo fid (Wi caps++((k.args.toList.map (opd g)).map fzs++Wj caps)) h r h'){next:Act->World->Prop}{Q:Exit->Act->World->Prop}
  (hd:∀t,o.dst=some t->t<E.nt)(hv:∀t,o.dst=some t->t∉vars)(hn:∀x w' m' c',InvP vars E m' c' w' (put o.dst r (Lift.untagC g)) h' (a.put o.dst x)->next (a.put o.dst x) w'):o.wp P a w next Q:=by
 have hfv:=hI.core.opd f;rw[hf]at hfv;obtain⟨fs,xs,hxs,hfst,hcaps⟩:=hfv;unfold Oper.wp;rw[JGT ho hc hxs hOK.2.1]
 have hargs:R2 (VRr m c w) (Wi caps++((k.args.toList.map (opd g)).map fzs++Wj caps)) (fs++(k.args.map a.eval++xs)).toList:=by rw[Dm,Dm];exact(hfst.mono λ_ _ hv=>VR.r (VR1.r hv.r)).append ((JKq hI.core k.args).append (hcaps.mono λ_ _ hv=>VR.r (VR1.r hv.r)))
 refine(JGS hI hlo hll hOK hargs).mono λe w' ⟨x,c',m',he,hr,hI',hE,hP,_,_⟩=>?_
 subst he
 have hI2:InvP vars E m' c' w' (Lift.untagC g) h' a:=InvP.retag (by rw[JJP];exact hI')
  (λt=>by rw[Ya];exact((hI.core.env t).mono hP hE).untagC)
  (λt u r ht=>by
   rw[Ya]at ht;obtain⟨h1,h2,h3⟩:=hI.core.tagS t u r (JJQ ht)
   exact⟨h1,by rw[Ya,h2]<;>rfl,h3⟩)
  (λt i j r ht=>by rw[Ya]at ht;exact absurd ht JJR)
 exact hn x w' m' c' (hI2.putBare hd hr hOK.1 (.inl hv))
theorem JJV{h:JG}{i:Nat}{cs:List V}(hi:cellsOfOb h i=some cs):i<h.length:=by
 unfold cellsOfOb at hi
 split at hi
 ·rename_i h0;exact(Ab.1 h0).1
 ·cases hi
theorem JMy(hI:InvP vars E m c w g h a){o:Oper}{k:Call}{f:Operand}{fid:Nat}{caps:List V}{r:V}{h':JG}(ho:o.op= .call k)(hc:k.callee= .value f)(hf:opd g f= .fn fid caps)
  (hOK:KY P h.length fid (Wi caps++((k.args.toList.map (opd g)).map fzs++Wj caps)) h r h')(hsm:h'.length=h.length){next:Act->World->Prop}{Q:Exit->Act->World->Prop}
  (hd:∀t,o.dst=some t->t<E.nt)(hv:∀t,o.dst=some t->t∉vars)(hn:∀x w' m' c',InvP vars E m' c' w' (put o.dst r g) h (a.put o.dst x)->next (a.put o.dst x) w'):o.wp P a w next Q:=by
 have hfv:=hI.core.opd f;rw[hf]at hfv;obtain⟨fs,xs,hxs,hfst,hcaps⟩:=hfv
 have hargs:R2 (VRr m c w) (Wi caps++((k.args.toList.map (opd g)).map fzs++Wj caps)) (fs++(k.args.map a.eval++xs)).toList:=by rw[Dm,Dm];exact(hfst.mono λ_ _ hv=>VR.r (VR1.r hv.r)).append ((JKq hI.core k.args).append (hcaps.mono λ_ _ hv=>VR.r (VR1.r hv.r)))
 have hh:h'=h:=by
  obtain⟨_,h1,_⟩:=(hOK.2.2 m c w _ hI.hok hargs).1;rw[List.take_length,BW (by rw[hsm];exact Ad _)]at h1
  exact h1
 subst hh;unfold Oper.wp;rw[JGT ho hc hxs hOK.2.1];refine(JGS hI (Bt hI.lole hI.hlen) (Ad _) hOK hargs).mono λe w' ⟨x,c',m',he,hr,hI',hE,hP,hl',hAt⟩=>?_
 subst he;refine hn x w' m' c' (InvP.putBare (hI'.retag (λt=>(hI.core.env t).mono hP hE) hI.core.tagS λt i j r ht=>?_) hd hr hOK.1 (.inl hv))
 have h1:=hI.core.tagC t i j r ht;have h2:=h1;obtain⟨cs,b,k1,_⟩:=h2;exact hAt i j r _ (JJV k1) h1
end
section kill
variable{m:List Nat}{c:Cl}{w:World}{i nb:Nat}
theorem Z1{m:List Nat}{i k nb g:Nat}(h:m[k]? =some g)(hk:k≠i):(m.set i nb)[k]? =some g:=by rw[Br,if_neg (Ne.symm hk)];exact h
theorem VR0.kil{v:V}{x:Value}(h:VR0 m c w v x)(hk:avc i v=true):VR0 (m.set i nb) c w v x:=by
 cases v with
 |ptr b o=>obtain⟨g,hg,rfl⟩:=h;exact⟨g,Z1 hg (by simpa[avc]using hk),rfl⟩
 |mp b=>obtain⟨g,hg,rfl⟩:=h;exact⟨g,Z1 hg (by simpa[avc]using hk),rfl⟩
 |buf b o k=>obtain⟨g,cap,hg,rfl,hc⟩:=h;exact⟨g,cap,Z1 hg (by simpa[avc]using hk),rfl,hc⟩
 |stk b k sz=>obtain⟨g,cap,hg,rfl,hc⟩:=h;exact⟨g,cap,Z1 hg (by simpa[avc]using hk),rfl,hc⟩
 |_=>exact h
theorem VR1.kil{v:V}{x:Value}(h:VR1 m c w v x)(hk:avf i v=true):VR1 (m.set i nb) c w v x:=by
 cases v with
 |fn f cs=>
  obtain⟨fs,xs,rfl,hr1,hr⟩:=h;simp only[avf,Ak]at hk
  exact⟨fs,xs,rfl,⟨hr1.1,λj u y hu hy=>(hr1.2 j u y hu hy).kil (hk u (JGD (Aj hu)))⟩,⟨hr.1,λj u y hu hy=>(hr.2 j u y hu hy).kil (hk u (JGG (Aj hu)))⟩⟩
 |ptr b o=>exact VR0.kil (c:=c) (w:=w) (v:= .ptr b o) (x:=x) h hk
 |mp b=>exact VR0.kil (c:=c) (w:=w) (v:= .mp b) (x:=x) h hk
 |buf b o k=>exact VR0.kil (c:=c) (w:=w) (v:= .buf b o k) (x:=x) h hk
 |stk b k sz=>exact VR0.kil (c:=c) (w:=w) (v:= .stk b k sz) (x:=x) h hk
 |v y=>exact h
 |nil=>exact h
 |list k r=>exact h
 |rp cs=>exact h
 |undef=>exact h
 |any=>exact h
 |agg cs=>exact h.elim
 |tup vs=>exact h.elim
theorem VR.kil{v:V}{x:Value}(h:VR m c w v x)(hk:avv i v=true):VR (m.set i nb) c w v x:=by
 cases v with
 |agg cs=>
  obtain⟨xs,rfl,hr⟩:=h;simp only[avv,Ak]at hk
  exact⟨xs,rfl,hr.1,λj u y hu hy=>(hr.2 j u y hu hy).kil (hk u (Aj hu))⟩
 |tup vs=>exact h.elim
 |ptr b o=>exact VR1.kil (c:=c) (w:=w) (v:= .ptr b o) (x:=x) h hk
 |mp b=>exact VR1.kil (c:=c) (w:=w) (v:= .mp b) (x:=x) h hk
 |buf b o k=>exact VR1.kil (c:=c) (w:=w) (v:= .buf b o k) (x:=x) h hk
 |stk b k sz=>exact VR1.kil (c:=c) (w:=w) (v:= .stk b k sz) (x:=x) h hk
 |fn f cs=>exact VR1.kil (c:=c) (w:=w) (v:= .fn f cs) (x:=x) h hk
 |v y=>exact h
 |nil=>exact h
 |list k r=>exact h
 |rp cs=>exact h
 |undef=>exact h
 |any=>exact h
theorem VRr.kil0{v:V}{x:Value}(h:VRr m c w v x)(hk:avr i v=true):VRr (m.set i nb) c w v x:=by
 cases v with
 |tup vs=>
  obtain⟨xs,rfl,hr⟩:=h;simp only[avr,Ak]at hk
  exact⟨xs,rfl,hr.1,λj u y hu hy=>(hr.2 j u y hu hy).kil (hk u (Aj hu))⟩
 |agg cs=>exact VR.kil (c:=c) (w:=w) (v:= .agg cs) (x:=x) h hk
 |ptr b o=>exact VR.kil (c:=c) (w:=w) (v:= .ptr b o) (x:=x) h hk
 |mp b=>exact VR.kil (c:=c) (w:=w) (v:= .mp b) (x:=x) h hk
 |buf b o k=>exact VR.kil (c:=c) (w:=w) (v:= .buf b o k) (x:=x) h hk
 |stk b k sz=>exact VR.kil (c:=c) (w:=w) (v:= .stk b k sz) (x:=x) h hk
 |fn f cs=>exact VR.kil (c:=c) (w:=w) (v:= .fn f cs) (x:=x) h hk
 |v y=>exact h
 |nil=>exact h
 |list k r=>exact h
 |rp cs=>exact h
 |undef=>exact h
 |any=>exact h
theorem VRr.kil{v:V}{x:Value}(h:VRr m c w v x):VRr (m.set i nb) c w (Lift.kil i v) x:=by
 unfold Lift.kil
 split
 ·rename_i hk;exact h.kil0 hk
 ·trivial
theorem VR1.kilf{v:V}{x:Value}(h:VR1 m c w v x):VR1 (m.set i nb) c w (Lift.kilf i v) x:=by
 unfold Lift.kilf
 split
 ·rename_i hk;exact h.kil hk
 ·trivial
theorem Gz:∀(g:Jl) (u:Nat),look (kilE i g) u=Lift.kil i (look g u)
 |[],u=>rfl
 |(k,y)::l,u=>by
  simp only[kilE,A2,look]
  split
  ·rfl
  ·exact Gz l u
theorem JBv{v:V}{k:Own}{r:List (List V)}(h:Lift.kil i v= .list k r):v= .list k r:=by
 unfold Lift.kil at h
 split at h
 ·exact h
 ·cases h
theorem JP3{v:V}{k:Own}{r:List (List V)}(h:Lift.kilf i v= .list k r):v= .list k r:=by
 unfold Lift.kilf at h
 split at h
 ·exact h
 ·cases h
theorem yW{n:Nat}(hn:n<=i){v:V}(h:okc n v=true):avc i v=true:=by cases v<;>first|rfl|(simp[okc,avc]at h⊢;omega)
theorem okv_avf{n:Nat}(hn:n<=i){v:V}(h:okv n v=true):avf i v=true:=by
 cases v with
 |fn f cs=>simp only[okv,avf,Ak]at h⊢;exact λx hx=>yW hn (h x hx)
 |ptr b o=>exact yW hn (v:= .ptr b o) h
 |mp b=>exact yW hn (v:= .mp b) h
 |buf b o k=>exact yW hn (v:= .buf b o k) h
 |stk b k sz=>exact yW hn (v:= .stk b k sz) h
 |_=>rfl
theorem JKr(v:V):QU (Lift.kilf i v)=true->QU v=true:=λh=>by
 unfold Lift.kilf at h
 split at h
 ·exact h
 ·cases h
theorem ObR.kil{o:Ob}{b:Nat}(h:ObR m c w o b):ObR (m.set i nb) c w (JJD i o) b:=by
 cases o with
 |iter s p=>exact h
 |tab es=>exact h
 |cells cs=>
  obtain⟨arr,e,f,h1,h2,h3,h4,h5⟩:=h;unfold JJD;simp only
  split
  ·rename_i hk
   simp only[Ak]at hk;exact⟨arr,e,f,h1,h2,h3,λj v x hv hx=>⟨(h4 j v x hv hx).1.kil (hk v (Aj hv)),(h4 j v x hv hx).2⟩,h5⟩
  ·refine⟨arr,e,f,h1,by simpa using h2,λj hj=>h3 j (by simpa using hj),λj v x hv hx=>?_,λT hT hb=>?_⟩
   ·simp only[An,Ag]at hv
    obtain⟨u,hu,rfl⟩:=hv;exact⟨(h4 j u x hu hx).1.kilf,(h4 j u x hu hx).2⟩
   ·obtain⟨x,k2,k3⟩:=Q8.1 hb
    rw[Aq]at hT⊢;simp only[An,Ag]at k2
    obtain⟨u,hu,rfl⟩:=k2;exact h5 T hT (Q8.2 ⟨u,hu,JKr u k3⟩)
theorem JMz{o:Ob}{cs:List V}(h:JJD i o= .cells cs):∃cs0,o= .cells cs0/\ ∀(j:Nat) (k:Own) (r:List (List V)),cs[j]? =some (.list k r)->cs0[j]? =some (.list k r):=by
 cases o with
 |iter s p=>cases h
 |tab es=>cases h
 |cells cs0=>
  refine⟨cs0,rfl,?_⟩
  unfold JJD at h;simp only at h
  split at h
  ·cases h;exact λ_ _ _ h=>h
  ·cases h
   intro j k r hj;simp only[An,Ag]at hj
   obtain⟨u,hu,he⟩:=hj;rw[hu,JP3 he]
theorem JGU:∀{l:List Nat} {i x:Nat},l.Nodup->x∉l->(l.set i x).Nodup
 |[],i,x,_,_=>by simp
 |a::l,0,x,h,hx=>by
  rw[DD]at h;simp only[List.set_cons_zero,DD]
  exact⟨λhm=>hx (AX _ hm),h.2⟩
 |a::l,i+1,x,h,hx=>by
  rw[DD]at h;simp only[List.set_cons_succ,DD];refine⟨λhm=>?_,JGU h.2 λhm=>hx (AX _ hm)⟩
  rcases CS hm with hm|rfl
  ·exact h.1 hm
  ·exact hx (List.mem_cons_self ..)
end kill
section
variable{P:Program}{vars:List Nat}{m:List Nat}{c:Cl}{w:World}{g:Jl}{h:JG}{a:Act}{E:Entry}
theorem InvP.restk(hI:InvP vars E m c w g h a){i gb nb:Nat}{cs':List V}{w':World}(hib:E.base<=i)(hi:m[i]? =some gb)(hnb:nb=gb\/w.heap.size<=nb)
  (hsz:w.heap.size<=w'.heap.size)(hother:∀b,b<w.heap.size->b≠nb->w'.heap[b]? =w.heap[b]?)(hos:w'.os=w.os)(htape:w'.tape=w.tape)(hout:w'.output=w.output)
  (hob:∃arr e f,w'.heap[nb]? =some (.cells arr e f)/\cs'.length<=arr.size/\(∀j,j<cs'.length->w'.frozen? ⟨nb,j,none⟩=false)/\
   (∀(j:Nat) v x,cs'[j]? =some v->arr[j]? =some x->VR1 m c w v x/\avf i v=true/\x.oneCell'=true))
  (hnil:∀v∈cs',QU v=false)(hshp:nb=gb->Shp w w' gb)
  (hown:∀(j:Nat) r x,cs'[j]? =some (.list .yes r)->w'.cell? ⟨nb,j,none⟩=some x->(r=[]/\x= .slice none 0 0)\/At m w g h a (.cell i j) r x)
  (hnS:∀t u r,look g t≠ .list (.slot u) r)(hnC:∀t i j r,look g t≠ .list (.cell i j) r):
  InvP vars E (m.set i nb) c w' (kilE i g) ((za E.base i h).set i (.cells cs')) a:=by
 have hC:=hI.core;have him:i<m.length:=(Ab.1 hi).1
 have hgl:gb<w.heap.size:=hC.m_lt hi
 have hc0:c nb=0:=by
  rcases hnb with rfl|hnb
  ·exact hC.wf2 nb (Aj hi)
  ·exact hC.c_zero hnb
 have hmi:(m.set i nb)[i]? =some nb:=by simp[him]
 have hmk:∀{k b},(m.set i nb)[k]? =some b->k≠i->m[k]? =some b:=λ{k b} hk hne=>by rw[Br,if_neg (Ne.symm hne)]at hk;exact hk
 have hEb:E.w.heap.size<=nb:=by
  rcases hnb with rfl|hnb
  ·exact hI.fr.new i _ (by rw[hI.ml];exact hib) hi
  ·exact Bt hI.fr.size hnb
 have hkl:(za E.base i h).length=h.length:=by have:=hI.hlen;simp[za];omega
 have hbase:∀{k:Nat} {o:Ob},k<E.base->h[k]? =some o->JJD i o=o:=λ{k o} hk ho=>by
  cases o with
  |iter s p=>rfl
  |tab es=>rfl
  |cells cs=>unfold JJD;simp only;rw[if_pos];rw[Ak];intro v hv;refine okv_avf hib (hI.old E.base k cs hk hk (by unfold cellsOfOb;rw[ho]) (λcs0 h0=>hI.ent k cs0 h0) v hv)
 have hhk:∀{k:Nat} {o:Ob},((za E.base i h).set i (.cells cs'))[k]? =some o->k≠i->∃o0,h[k]? =some o0/\o=JJD i o0:=λ{k o} hk hne=>by
  rw[Br,if_neg (Ne.symm hne)]at hk
  unfold za at hk;have hlen:=hI.hlen;rw[BU,Az,B3 hlen]at hk
  split at hk
  ·rename_i hlt
   rw[AH,if_pos hlt]at hk
   exact⟨o,hk,(hbase hlt hk).symm⟩
  ·rename_i hge
   simp only[An,Ag,Bg]at hk
   obtain⟨o0,h0,rfl⟩:=hk;rw[show E.base+(k-E.base)=k by omega]at h0
   exact⟨o0,h0,rfl⟩
 have hhi:∀{o:Ob},((za E.base i h).set i (.cells cs'))[i]? =some o->o= .cells cs':=λ{o} ho=>by
  rw[Br,if_pos rfl]at ho
  split at ho
  ·exact(Bh ho).symm
  ·cases ho
 have hmne:∀{k b},m[k]? =some b->k≠i->b≠nb:=λ{k b} hk hki e=>by
  subst e;rcases hnb with rfl|hnb
  ·obtain⟨l1,e1⟩:=Ab.1 hk
   obtain⟨l2,e2⟩:=Ab.1 hi
   exact hki ((Dx hC.nd).1 (e1.trans e2.symm))
  ·have:=hC.m_lt hk
   omega
 have hext:Ext c w c w':=by
  refine⟨λ_=>Ad _,λb o ho=>?_,λb _=>?_⟩
  ·have hb:b≠nb:=λe=>by rw[e,hc0]at ho;omega
   have hl:b<w.heap.size:=by
    rcases Ay b w.heap.size with hl|hl
    ·exact hl
    ·rw[hC.c_zero hl]at ho;omega
   exact Jb (hother b hl hb) o
  ·rcases Ay b w.heap.size with hl|hl
   ·by_cases hb:b=nb
    ·rcases hnb with e|e
     ·rw[hb,e];exact hshp e
     ·omega
    ·exact Shp.same (hother b hl hb)
   ·exact Shp.none hl
 have hAt:∀{l r x},At (m.set i nb) w' (kilE i g) ((za E.base i h).set i (.cells cs')) a l r x->At m w g h a l r x\/(r=[]/\x= .slice none 0 0):=λ{l r x} hl=>by
  cases l with
  |slot t=>
   obtain⟨h1,h2⟩:=hl;rw[Gz]at h1
   exact .inl ⟨JBv h1,h2⟩
  |cell k j=>
   obtain⟨cs,b,h1,h2,h3,h4⟩:=hl
   have h1':((za E.base i h).set i (.cells cs'))[k]? =some (.cells cs):=by
    unfold cellsOfOb at h1
    split at h1
    ·rename_i hq;cases h1;exact hq
    ·cases h1
   by_cases hki:k=i
   ·subst hki
    have:=hhi h1';cases this;rw[hmi]at h3;cases h3;rcases hown j r x h2 h4 with h0|h0
    ·exact .inr h0
    ·exact .inl h0
   ·obtain⟨o0,ho0,he⟩:=hhk h1' hki
    obtain⟨cs0,rfl,hq⟩:=JMz he.symm;have h3':=hmk h3 hki;refine .inl ⟨cs0,b,by unfold cellsOfOb;rw[ho0],hq j _ _ h2,h3',?_⟩
    rw[<-Jb (hother b (hC.m_lt h3') (hmne h3' hki))];exact h4
 have hblk:∀{l r x b},At m w g h a l r x->KM x=some b->b<w.heap.size/\b≠nb/\b∉m.set i nb:=λ{l r x b} hl hb=>by
  have h1:=(hC.own l r x hl).lt hb
  have h2:b≠nb:=λe=>by
   rcases hnb with e'|e'
   ·rw[e,e']at h1;exact h1.2 (Aj hi)
   ·omega
  refine⟨h1.1,h2,λhm=>?_⟩
  rcases CS hm with hm|e
  ·exact h1.2 hm
  ·exact h2 e
 refine⟨⟨λb hb=>?_,λb hb=>?_,?_,by rw[B4,B4,hkl];exact hC.len,λt=>?_,λk o b ho hb=>?_,λl r x hl=>?_,λl l' r r' x x' b h1 h2 hb hb'=>?_,λt u r ht=>?_,λt k j r ht=>?_,λn cs hg=>(hC.gt n cs hg).mono hext⟩,
  ⟨hos.trans hI.fr.os,htape.trans hI.fr.tape,hout.trans hI.fr.output,Bt hI.fr.size hsz,λk b hk=>?_,λk b hk hb=>?_,hI.fr.ext.trans hext,λb hb h1 h2=>?_⟩,λl r x b hl hu hb=>?_,?_,?_,hI.ml,hI.lole,hI.nt,hI.df,λn k cs hkb hkn hcs h0=>?_,hI.ent⟩
 ·have hbn:b≠nb:=λe=>by rw[e,hc0]at hb;omega
  have hl:b<w.heap.size:=by
   rcases Ay b w.heap.size with hl|hl
   ·exact hl
   ·rw[hC.c_zero hl]at hb;omega
  rw[hother b hl hbn];exact hC.wf1 b hb
 ·rcases CS hb with hb|rfl
  ·exact hC.wf2 b hb
  ·exact hc0
 ·rcases hnb with rfl|hnb
  ·have:m.set i nb=m:=by
    apply C5;intro k;rw[Br]
    by_cases hk:i=k
    ·subst hk;rw[if_pos rfl,if_pos him,hi]
    ·rw[if_neg hk]
   rw[this];exact hC.nd
  ·refine JGU hC.nd λhm=>?_
   obtain⟨k,hk,e⟩:=AV hm;have:=hC.m_lt (i:=k) (b:=nb) (by rw[Ac hk,e])
   omega
 ·rw[Gz]
  exact((hC.env t).kil).mono (Pre.refl _) hext
 ·by_cases hki:k=i
  ·subst hki
   have:=hhi ho;subst this;rw[hmi]at hb;cases hb;obtain⟨arr,e,f,k1,k2,k3,k4⟩:=hob;refine⟨arr,e,f,k1,k2,k3,λj v x hv hx=>⟨((k4 j v x hv hx).1.kil (k4 j v x hv hx).2.1).mono (Pre.refl _) hext,(k4 j v x hv hx).2.2⟩,λT hT hc=>?_⟩
   obtain⟨x,q2,q3⟩:=Q8.1 hc;rw[hnil x (Aj q2)]at q3;cases q3
  ·obtain⟨o0,ho0,rfl⟩:=hhk ho hki
   have hb':=hmk hb hki;exact((hC.ob k o0 b ho0 hb').kil).keep (hother b (hC.m_lt hb') (hmne hb' hki)) (Pre.refl _) hext
 ·rcases hAt hl with hl|h0
  ·refine(hC.own l r x hl).keep λb hb=>?_
   obtain⟨k1,k2,k3⟩:=hblk hl hb;exact⟨hother b k1 k2,rfl,λ_=>k3⟩
  ·exact .inl ⟨h0.2,h0.1⟩
 ·rcases hAt h1 with g1|⟨_,rfl⟩
  ·rcases hAt h2 with g2|⟨_,rfl⟩
   ·exact hC.uniq l l' r r' x x' b g1 g2 hb hb'
   ·cases hb'
  ·cases hb
 ·rw[Gz]at ht
  exact absurd (JBv ht) (hnS t u r)
 ·rw[Gz]at ht
  exact absurd (JBv ht) (hnC t k j r)
 ·exact Z1 (hI.fr.pre k b hk) (λe=>by
   have:=(Ab.1 hk).1
   rw[hI.ml]at this
   omega)
 ·by_cases hki:k=i
  ·subst hki
   rw[hmi]at hb;cases hb;exact hEb
  ·exact hI.fr.new k b hk (hmk hb hki)
 ·have hbn:b≠nb:=λe=>by omega
  have hl:=Cm hb hI.fr.size;rw[hother b hl hbn];exact hI.fr.fix b hb h1 h2
 ·rcases hAt hl with hl|⟨_,rfl⟩
  ·exact hI.owned l r x b hl hu hb
  ·cases hb
 ·have h1:=hI.lole
  have h2:=hI.hlen;rw[Dl om];unfold za;rw[CC (by simp;omega),Du,B3 h1]
  exact hI.hlo
 ·rw[B4,hkl];exact hI.hlen
 ·have h1':((za E.base i h).set i (.cells cs'))[k]? =some (.cells cs):=by
   unfold cellsOfOb at hcs
   split at hcs
   ·rename_i hq;cases hcs;exact hq
   ·cases hcs
  obtain⟨o0,ho0,he⟩:=hhk h1' om;rw[hbase hkb ho0]at he;subst he;exact hI.old n k cs hkb hkn (by unfold cellsOfOb;rw[ho0]) h0
end
section
variable{P:Program}{vars:List Nat}{m:List Nat}{c:Cl}{w:World}{g:Jl}{h:JG}{a:Act}{E:Entry}
theorem JJW{w':World}{arr:Array Value}{e:TypeId}{n cap sz:Nat}(hl:m.length=h.length)(hw:w'.heap=w.heap.push (.cells arr e))(hn:n<=cap)(hm:cap<=maxLen)(hs:arr.size=cap*sz):
  VRr (m++[w.heap.size]) c w' (.stk h.length n sz) (.slice (some ⟨w.heap.size,0,none⟩) n cap):=by
 have hnew:w'.heap[w.heap.size]? =some (.cells arr e (0,0)):=by rw[hw];simp
 exact⟨w.heap.size,cap,by rw[<-hl];simp,rfl,hn,hm,λ_=>⟨arr,e,(0,0),hnew,hs,λj _=>by simp[BN,hnew]⟩⟩
theorem JM0{v:V}{r:List (List V)}(h:Qe v= .list .yes r):v= .nil/\r=[]:=by
 cases v<;>simp[Qe,own1,cp]at h
 exact⟨rfl,h⟩
theorem JM1{v:V}{x:Value}(hv:VP c w v x):VR1 m c w (Qe v) x:=VR1.own1 (VR1.cp (JGH hv))
theorem JBw(v:V):QU (Qe v)=QU v:=by unfold Qe;rw[Yb];cases v<;>rfl
theorem JP4{i:Nat}{v:V}(h:Hz v=true):avf i (Qe v)=true:=by cases v<;>first|rfl|cases h
theorem WY{v:V}(h:H6 v=true):Hz v=true/\QU v=false:=by unfold H6 at h;simpa using h
theorem JAh{v:V}(h:Hz v=true):Qs v=true:=by cases v<;>first|exact h|rfl|cases h
theorem JM2{cs:List V}(h:∀v∈cs,QU v=false):Gu cs=false:=by
 cases hb:Gu cs with
 |false=>rfl
 |true=>obtain⟨x,h2,h3⟩:=Q8.1 hb;rw[h x (Aj h2)]at h3;cases h3
theorem kw{z:List V}:∀(n:Nat),(W9 n z).length=n*z.length
 |0=>by simp[W9]
 |n+1=>by rw[W9,Ao,kw n,A6];omega
theorem qT{z:List V}:∀(n j:Nat),j<n*z.length->(W9 n z)[j]? =z[j%z.length]?
 |0,j,h=>by simp at h
 |n+1,j,h=>by
  rw[W9,BU]
  split
  ·rename_i hl;rw[LP hl]
  ·rename_i hl
   rw[qT n (j-z.length) (by rw[A6]at h;omega)]
   congr 1
   exact(Nat.mod_eq_sub_mod om).symm
theorem JBx{z:List V}{v:V}:∀(n:Nat),v∈W9 n z->v∈z
 |0,h=>by cases h
 |n+1,h=>by
  rw[W9,AO]at h;rcases h with h|h
  ·exact h
  ·exact JBx n h
theorem JSe(hI:InvP vars E m c w g h a){o:Oper}{t e:TypeId}{n k:Operand}{na:Int}{z:List Value}(ho:o.op= .makeSlice t n k)(h1:idx (opd g n)=some na)(h2:idx (opd g k)=some na)(hu:P.underlying t=some (.slice e))(hz:K4 P e=some z)
  (c1:0<=na)(c3:z.length=JH P e)(c4:0<JH P e)(c5:na.toNat*P.bytesOf e<=140737488355328)(c6:na<=9223372036854775807)(c7:(z.map Kd).all H6=true)
  (hd:∀t,o.dst=some t->t<E.nt)(hv:∀t,o.dst=some t->t∉vars):
  Done P vars E w a o (.stk h.length na.toNat (JH P e)) g (h++[.cells (W9 na.toNat ((z.map Kd).map own1))]):=by
 obtain⟨ie,hie⟩:∃ie,P.info? e=some ie:=by
  cases hie:P.info? e with
  |some ie=>exact⟨ie,rfl⟩
  |none=>simp[JH,Bs,hie]at c4
 have hsz:=JY hie
 obtain⟨zv,hzv,hzc⟩:∃zv,ie.zero=some zv/\z=zv.cells.toList:=by
  unfold K4 at hz;rw[hie]at hz
  cases hz0:ie.zero with
  |none=>simp[hz0]at hz
  |some zv=>simp[hz0]at hz;exact⟨zv,rfl,hz.symm⟩
 obtain⟨k1,hk1⟩:=Qt h1;obtain⟨k2,hk2⟩:=Qt h2;have e1:a.eval n= .int k1 na:=by have:=hI.core.opd n;rw[hk1]at this;exact this
 have e2:a.eval k= .int k2 na:=by have:=hI.core.opd k;rw[hk2]at this;exact this
 have hby:P.bytesOf e=ie.bytes:=by simp[Do,hie]
 rw[hby]at c5
 have hb':(ie.bytes:Int)*na<=281474976710656:=by have h3:((na.toNat*ie.bytes:Nat):Int)<=281474976710656:=om;rw[Int.natCast_mul,Int.toNat_of_nonneg c1,Int.mul_comm]at h3;exact h3
 have hrun:=run_make (P:=P) w t e ie zv hu hie hzv k1 k2 na na c1 (Int.le_refl _) hb' c6;subst hzc;have hzs:zv.cells.size=ie.size:=by rw[<-hsz];simpa using c3
 have hrel:=YC (m:=m) (c:=c) (w:=w) zv
 obtain⟨hrel1,hno⟩:=YG hrel (λr hr=>by
  obtain⟨y,_,hy⟩:=AM.1 hr;unfold Kd at hy
  split at hy
  ·cases hy
  ·split at hy<;>cases hy
  ·cases hy)
 have hmc:∀j x,(madeCells zv.cells (na.toNat*ie.size))[j]? =some x->j<na.toNat*ie.size/\zv.cells[j%ie.size]? =some x:=λj x hx=>by
  have hj:j<na.toNat*ie.size:=by have:=(AL.1 hx).1;simpa[madeCells]using this
  have h0:0<ie.size:=by rw[<-hsz];exact c4
  have hm:j%ie.size<zv.cells.size:=by rw[hzs];exact DC _ h0
  refine⟨hj,?_⟩
  simp only[madeCells,Array.getElem?_map,Array.getElem?_range,hj,if_true,AK,hzs,Ah]at hx
  rw[<-hx,getElem!_pos zv.cells _ hm,BE hm]
 have hzl:((zv.cells.toList.map Kd).map own1).length=ie.size:=by simp[hzs]
 have hone:∀(j:Nat) x,zv.cells[j]? =some x->x.oneCell'=true:=λj x hx=>by
  have hx':zv.cells.toList[j]? =some x:=by simpa using hx
  have hj:(zv.cells.toList.map Kd)[j]? =some (Kd x):=by simp[hx]
  exact KW (hrel.2 j _ _ hj hx') (JAh (WY (Ak.1 c7 _ (Aj hj))).1)
 have hl:(W9 na.toNat ((zv.cells.toList.map Kd).map own1)).length=na.toNat*ie.size:=by rw[kw,hzl]
 have hnil:∀v∈W9 na.toNat ((zv.cells.toList.map Kd).map own1),QU v=false:=λv hv=>by obtain⟨u,hu,rfl⟩:=AM.1 (JBx _ hv);rw[Yb];exact(WY (Ak.1 c7 _ hu)).2
 have hI':=WX hI (cs:=W9 na.toNat ((zv.cells.toList.map Kd).map own1)) (arr:=madeCells zv.cells (na.toNat*ie.size)) (e:=e) (f:=(0,0)) (w':=w.alloc (.cells (madeCells zv.cells (na.toNat*ie.size)) e)) rfl rfl rfl rfl (λj _=>by simp)
  (by rw[hl,size_madeCells];exact Ad _)
  (λj v x hv hx=>by
   obtain⟨hj,hx'⟩:=hmc j x hx;rw[qT _ _ (by rw[hzl];exact hj),hzl]at hv
   exact⟨hrel1.2 _ v x hv (by simpa using hx'),hone _ x hx'⟩)
  (λj r hj=>by
   have hjl:j<na.toNat*ie.size:=by rw[<-hl];exact(Ab.1 hj).1
   rw[qT _ _ (by rw[hzl];exact hjl),hzl]at hj
   obtain⟨q1,q2⟩:=hno _ r hj;refine⟨q1,?_⟩
   have hx:(madeCells zv.cells (na.toNat*ie.size))[j]? =some ((madeCells zv.cells (na.toNat*ie.size))[j]'(by rw[size_madeCells];exact hjl)):=BE _
   have h3:=(hmc j _ hx).2;have h4:zv.cells[j%ie.size]? =some (.slice none 0 0):=by simpa using q2
   rw[h4]at h3
   rw[hx,<-Bh h3])
  (λT hT hc=>by rw[JM2 hnil]at hc;cases hc)
 have hstk:=JJW (c:=c) (n:=na.toNat) (cap:=na.toNat) (sz:=ie.size) (w':=w.alloc (.cells (madeCells zv.cells (na.toNat*ie.size)) e)) (arr:=madeCells zv.cells (na.toNat*ie.size)) (e:=e) hI.core.len rfl (Ad _) (by unfold maxLen;omega) (size_madeCells _ _)
 rw[hsz];refine⟨_,_,_,_,Kz (s:=Instr.makeSlice t (a.eval n) (a.eval k)) (by simp[execOp,ho]) (by rw[e1,e2];exact hrun),hI'.putBare hd hstk rfl (.inl hv)⟩
theorem JM3(hI:InvP vars E m c w g h a){o:Oper}{t e:TypeId}{n:Nat}{parts:Array (Nat×Operand)}(ho:o.op= .buildSlice t n parts)(hu:P.underlying t=some (.slice e))
  (hc:(parts.toList.map (·.1))=Bf n/\(K4 P e).isSome=true/\0<JH P e/\n*JH P e<=16777216/\((parts.toList.map λp=>cellsV (cps (opd g p.2))).all λr=>r.length==JH P e&&r.all Hz)=true)
  (hn3:((parts.toList.map λp=>cellsV (cps (opd g p.2))).flatten).all H6=true)(hd:∀t,o.dst=some t->t<E.nt)(hv:∀t,o.dst=some t->t∉vars):
  Done P vars E w a o (.stk h.length n (JH P e)) g (h++[.cells (((parts.toList.map λp=>cellsV (cps (opd g p.2))).flatten).map own1)]):=by
 obtain⟨c1,c2,c3,c4,c5⟩:=hc;have hn:parts.toList.length=n:=by have:=congrArg Bq c1;simpa using this
 have hall:∀p∈parts.toList,(cellsV (cps (opd g p.2))).length=JH P e/\ ∀v∈cellsV (cps (opd g p.2)),Hz v=true:=λp hp=>by have:=Ak.1 c5 _ (AM.2 ⟨p,hp,rfl⟩);simpa using this
 have hrel:∀p∈parts.toList,R2 (VR1 m c w) (cellsV (cps (opd g p.2))) (a.eval p.2).cells.toList:=λp hp=>by
  refine Q7 (hI.core.opd p.2).cps ?_
  have h2:=(hall p hp).2;cases hq:cps (opd g p.2)<;>first|rfl|(rw[hq]at h2;have:=h2 _ (A1.2 rfl);first|exact this|cases this)
 obtain⟨ie,hie⟩:∃ie,P.info? e=some ie:=by
  cases hie:P.info? e with
  |some ie=>exact⟨ie,rfl⟩
  |none=>simp[JH,Bs,hie]at c3
 have hsz:=JY hie;obtain⟨z0,hz0⟩:=A7.1 c2;obtain⟨zv,hzv,rfl⟩:=WU (w:=w) hz0
 have hflat:(((parts.map λp=>(p.1,a.eval p.2)).toList).map (λq=>q.2.cells.toList))=parts.toList.map λp=>(a.eval p.2).cells.toList:=by simp only[BF,B1];apply A4;intro p _;rfl
 have hlen2:∀r∈parts.toList.map λp=>(a.eval p.2).cells.toList,r.length=JH P e:=λr hr=>by obtain⟨p,hp,rfl⟩:=AM.1 hr;rw[<-(hrel p hp).1,(hall p hp).1]
 obtain⟨arr,harr,hrun⟩:=zj w (qs:=parts.map λp=>(p.1,a.eval p.2)) hu hie hzv (by simpa using hn) (by
   simp only[BF,B1];have:(parts.toList.map ((λx=>x.1)∘λx:Nat×Operand=>(x.1,a.eval x.2)))=parts.toList.map (·.1):=by apply A4;intro p _;rfl
   rw[this,c1]) (λq hq=>by
   simp only[BF,AM]at hq;obtain⟨p,hp,rfl⟩:=hq;have:=(hrel p hp).1;rw[(hall p hp).1,hsz]at this
   simpa using this.symm) (by rw[<-hsz];exact c4)
 rw[hflat]at harr
 have hasz:arr.size=n*JH P e:=by rw[<-AJ,harr,Z0 hlen2,Aq,hn]
 have hcells:∀(l:List (Nat×Operand)),(∀p∈l,R2 (VR1 m c w) (cellsV (cps (opd g p.2))) (a.eval p.2).cells.toList)->R2 (VR1 m c w) ((l.map λp=>cellsV (cps (opd g p.2))).flatten) ((l.map λp=>(a.eval p.2).cells.toList).flatten):=by
  intro l
  induction l with
  |nil=>intro _;exact R2.nil
  |cons p l ih=>intro hl;simp only[A2,CQ];exact(hl p (by simp)).append (ih λq hq=>hl q (by simp[hq]))
 have hR:=hcells parts.toList hrel;rw[<-harr]at hR
 obtain⟨hR1,hno⟩:=YG hR (λr hr=>by
  obtain⟨l,hl,hr⟩:=List.mem_flatten.1 hr;obtain⟨p,hp,rfl⟩:=AM.1 hl
  exact jm _ r hr)
 have hone:∀(j:Nat) x,arr[j]? =some x->x.oneCell'=true:=λj x hx=>by
  have hx':arr.toList[j]? =some x:=by simpa using hx
  have hj:j<((parts.toList.map λp=>cellsV (cps (opd g p.2))).flatten).length:=by rw[hR.1];exact(Ab.1 hx').1
  exact KW (hR.2 j _ _ (Ac hj) hx') (JAh (WY (Ak.1 hn3 _ (AW hj))).1)
 have hnil:∀v∈((parts.toList.map λp=>cellsV (cps (opd g p.2))).flatten).map own1,QU v=false:=λv hv=>by obtain⟨u,hu,rfl⟩:=AM.1 hv;rw[Yb];exact(WY (Ak.1 hn3 _ hu)).2
 have hI':=WX hI (cs:=((parts.toList.map λp=>cellsV (cps (opd g p.2))).flatten).map own1) (arr:=arr) (e:=e) (f:=(0,0)) (w':={w with heap:=w.heap.push (.cells arr e)}) rfl rfl rfl rfl (λj _=>by simp)
  (by rw[Aq,hR.1];simp) (λj v x hv hx=>⟨hR1.2 j v x hv (by simpa using hx),hone j x hx⟩) (λj r hj=>by
   obtain⟨q1,q2⟩:=hno j r hj
   exact⟨q1,by simpa using q2⟩) (λT hT hc=>by rw[JM2 hnil]at hc;cases hc)
 have hle:n<=maxLen:=by have:n*1<=n*JH P e:=DL _ c3;unfold maxLen;omega
 have hstk:=JJW (c:=c) (n:=n) (cap:=n) (sz:=JH P e) (w':={w with heap:=w.heap.push (.cells arr e)}) (arr:=arr) (e:=e) hI.core.len rfl (Ad _) hle hasz
 exact⟨_,_,_,_,qR ho hrun,hI'.putBare hd hstk rfl (.inl hv)⟩
theorem JKs{v:V}{x:Value}(hv:VR1 m c w v x)(hp:Hz v=true):VP c w v x:=by
 cases v with
 |v z=>have:x=z:=hv;subst this;exact .v _ hp
 |list k r=>exact hv
 |nil=>have:x= .slice none 0 0:=hv;subst this;exact .nil
 |_=>cases hp
theorem JM4(hI:InvP vars E m c w g h a){o:Oper}{t e:TypeId}{n:Nat}{parts:Array (Nat×Operand)}(ho:o.op= .buildSlice t n parts)(hu:P.underlying t=some (.slice e))
  (hc:(parts.toList.map (·.1))=Bf n/\(K4 P e).isSome=true/\0<JH P e/\n*JH P e<=16777216/\((parts.toList.map λp=>cellsV (cps (opd g p.2))).all λr=>r.length==JH P e&&r.all Hz)=true/\byT e [] (parts.toList.map λp=>cellsV (cps (opd g p.2)))=true)
  (hd:∀t,o.dst=some t->t<E.nt)(hv:∀t,o.dst=some t->t∉vars):
  Done P vars E w a o (.list .yes (parts.toList.map λp=>cellsV (cps (opd g p.2)))) g h:=by
 obtain⟨c1,c2,c3,c4,c5,c6⟩:=hc;have hn:parts.toList.length=n:=by have:=congrArg Bq c1;simpa using this
 have hall:∀p∈parts.toList,(cellsV (cps (opd g p.2))).length=JH P e/\ ∀v∈cellsV (cps (opd g p.2)),Hz v=true:=λp hp=>by have:=Ak.1 c5 _ (AM.2 ⟨p,hp,rfl⟩);simpa using this
 have hrel:∀p∈parts.toList,R2 (VR1 m c w) (cellsV (cps (opd g p.2))) (a.eval p.2).cells.toList:=λp hp=>by
  refine Q7 (hI.core.opd p.2).cps ?_
  have h2:=(hall p hp).2;cases hq:cps (opd g p.2)<;>first|rfl|(rw[hq]at h2;have:=h2 _ (A1.2 rfl);first|exact this|cases this)
 obtain⟨ie,hie⟩:∃ie,P.info? e=some ie:=by
  cases hie:P.info? e with
  |some ie=>exact⟨ie,rfl⟩
  |none=>simp[JH,Bs,hie]at c3
 have hsz:=JY hie;obtain⟨z0,hz0⟩:=A7.1 c2;obtain⟨zv,hzv,rfl⟩:=WU (w:=w) hz0
 have hflat:(((parts.map λp=>(p.1,a.eval p.2)).toList).map (λq=>q.2.cells.toList))=parts.toList.map λp=>(a.eval p.2).cells.toList:=by simp only[BF,B1];apply A4;intro p _;rfl
 have hlen2:∀r∈parts.toList.map λp=>(a.eval p.2).cells.toList,r.length=JH P e:=λr hr=>by obtain⟨p,hp,rfl⟩:=AM.1 hr;rw[<-(hrel p hp).1,(hall p hp).1]
 obtain⟨arr,harr,hrun⟩:=zj w (qs:=parts.map λp=>(p.1,a.eval p.2)) hu hie hzv (by simpa using hn) (by
   simp only[BF,B1];have:(parts.toList.map ((λx=>x.1)∘λx:Nat×Operand=>(x.1,a.eval x.2)))=parts.toList.map (·.1):=by apply A4;intro p _;rfl
   rw[this,c1]) (λq hq=>by
   simp only[BF,AM]at hq;obtain⟨p,hp,rfl⟩:=hq;have:=(hrel p hp).1;rw[(hall p hp).1,hsz]at this
   simpa using this.symm) (by rw[<-hsz];exact c4)
 rw[hflat]at harr
 have hasz:arr.size=n*JH P e:=by rw[<-AJ,harr,Z0 hlen2,Aq,hn]
 have hI':=Zz hI (arr:=arr) (e:=e) (f:=(0,0)) (w':={w with heap:=w.heap.push (.cells arr e)}) (n*JH P e) rfl rfl rfl rfl (by rw[hasz];exact Ad _)
 have hheap:({w with heap:=w.heap.push (.cells arr e)}:World).heap[w.heap.size]? =some (.cells arr e (0,0)):=by simp
 have hlr:(parts.toList.map λp=>cellsV (cps (opd g p.2))).length=n:=by simpa using hn
 have hold:∀b,b<w.heap.size->({w with heap:=w.heap.push (.cells arr e)}:World).heap[b]? =w.heap[b]? :=λb hb=>by
  show(w.heap.push _)[b]? =_
  rw[BI];simp[show¬b=w.heap.size by omega]
 have hext:Ext c w (λb=>if b=w.heap.size then n*JH P e else c b) {w with heap:=w.heap.push (.cells arr e)}:=by
  refine⟨λb=>?_,λb o ho=>?_,λb _=>Shp.old hold b⟩
  ·by_cases hb:b=w.heap.size
   ·subst hb;rw[hI.core.c_zero (Ad _)];exact B9 _
   ·simp[hb]
  ·rcases Ay b w.heap.size with hb|hb
   ·exact Jb (hold b hb) o
   ·rw[hI.core.c_zero hb]at ho;omega
 have hvp:VP (λb=>if b=w.heap.size then n*JH P e else c b) {w with heap:=w.heap.push (.cells arr e)} (.list .yes (parts.toList.map λp=>cellsV (cps (opd g p.2)))) (.slice (some ⟨w.heap.size,0,none⟩) n n):=by
  have:=jA (k:= .yes) (cap:=n) (c:=λb=>if b=w.heap.size then n*JH P e else c b) (rows:=parts.toList.map λp=>cellsV (cps (opd g p.2))) hheap c3 (λrow hr=>by
    obtain⟨p,hp,rfl⟩:=AM.1 hr
    exact(hall p hp).1) (by rw[hlr];exact Ad _) (by simp only[hlr,if_true];exact Ad _) (λi j row v hi hj=>by
    simp only[An,Ag]at hi
    obtain⟨p,hp,rfl⟩:=hi;have hpm:=Aj hp;obtain⟨x,hx,hvx⟩:=(hrel p hpm).get hj;have hjl:j<JH P e:=by rw[<-(hall p hpm).1];exact(Ab.1 hj).1
    refine⟨x,?_,(JKs hvx ((hall p hpm).2 v (Aj hj))).mono hext⟩
    rw[<-Bk,harr,yT hlen2 (i:=i) (row:=(a.eval p.2).cells.toList) (by simp[hp]) hjl]
    exact hx)
  rwa[hlr]at this
 have hdo:Does P w a o (.slice (some ⟨w.heap.size,0,none⟩) n n) {w with heap:=w.heap.push (.cells arr e)}:=qR ho hrun
 refine⟨.slice (some ⟨w.heap.size,0,none⟩) n n,{w with heap:=w.heap.push (.cells arr e)},m,λb=>if b=w.heap.size then n*JH P e else c b,hdo,?_⟩
 refine hI'.putOwn hd hvp ?_ ?_ ?_ (.inl hv)
 ·refine .inr ⟨w.heap.size,n,arr,e,JH P e,by rw[hlr],hheap,by rw[hlr];exact Ad _,?_,hasz,c3,λrow hr=>?_,by simp[hlr],?_,λh0=>?_,λT hT hb=>JJT c6 T hT hb⟩
  ·have:n*1<=n*JH P e:=DL _ c3
   unfold maxLen;omega
  ·obtain⟨p,hp,rfl⟩:=AM.1 hr
   exact(hall p hp).1
  ·intro hb
   obtain⟨i,hi,hb⟩:=AV hb;have:=hI.core.m_lt (Ac hi)
   omega
  ·have:=congrArg Bq h0
   rw[hlr]at this;simpa using this
 ·intro l r' x' b hl hb hb'
  cases hb
  have hl':At m w g h a l r' x':=by
   cases l with
   |slot t=>exact hl
   |cell i j=>obtain⟨cs,b,k1,k2,k3,k4⟩:=hl;exact⟨cs,b,k1,k2,k3,by rw[<-Jb (hold b (hI.core.m_lt k3))];exact k4⟩
  exact absurd ((hI.core.own l r' x' hl').lt hb').1 (C1 _)
 ·intro b hb
  cases hb;exact .inl hI.fr.size
theorem JGV{q:List (List V)}{news:List Value}{sz:Nat}(hq:∀row∈q,row.length=sz)(hn:news.length=q.length*sz)(h2:∀(i j:Nat) row v,q[i]? =some row->row[j]? =some v->∃x,news[i*sz+j]? =some x/\VP c w v x)(hsz:0<sz):
  R2 (VP c w) q.flatten news:=by
 refine⟨by rw[Z0 hq,hn],λk v x hv hx=>?_⟩
 have hk:k<q.length*sz:=by rw[<-hn];exact(Ab.1 hx).1
 have hi:k/sz<q.length:=DB (by rw[CZ];exact hk)
 have hm:k%sz<sz:=DC _ hsz;have hrow:=Ac hi
 have hfl:=yT hq hrow hm;have hdm:k/sz*sz+k%sz=k:=by rw[CZ];exact D9 k sz
 rw[hdm,hv]at hfl;obtain⟨y,hy,hvy⟩:=h2 _ _ _ v hrow hfl.symm;rw[hdm,hx]at hy;cases hy;exact hvy
theorem JOa{q:List V}{news:List Value}(h:R2 (VP c w) q news):R2 (VR1 m c w) (q.map Qe) news/\(∀(j:Nat) (r:List (List V)),(q.map Qe)[j]? =some (.list .yes r)->r=[]/\news[j]? =some (.slice none 0 0))/\ ∀(j:Nat) x,news[j]? =some x->x.oneCell'=true:=by
 refine⟨by simpa using h.map (f:=Qe) (g:=id) λ_ _=>JM1,λj r hj=>?_,λj x hx=>?_⟩
 ·simp only[An,Ag]at hj
  obtain⟨u,hu,he⟩:=hj;obtain⟨rfl,rfl⟩:=JM0 he;obtain⟨y,hy,hvy⟩:=h.get hu;cases hvy;exact⟨rfl,hy⟩
 ·have hj:j<q.length:=by rw[h.1];exact(Ab.1 hx).1
  exact(h.2 j _ x (Ac hj) hx).oneCell
theorem JP5{t u e ty:TypeId}{ie:TypeInfo}{du:TypeDesc}(ht:P.underlying t=some (.slice e))(hu:P.underlying u=some du)(hdu:∀k,du≠ .int k)(hi:P.info? e=some ie)
  {b n cap k:Nat}{x:Value}{news:List Value}{cur:Array Value}{e':TypeId}{f:Nat×Nat}(hs:Src P w ie.size k x news)(hb:w.heap[b]? =some (.cells cur e' f))(hfr:∀j,j<cur.size->w.frozen? ⟨b,j,none⟩=false)
  (hroom:n+k<=cap)(hfit:n*ie.size+news.length<=cur.size)(hone:∀y∈news,y.oneCell'=true):
  (Builtin.append_ #[t,u] ty #[.slice (some ⟨b,0,none⟩) n cap,x]).run P w= .ok (.slice (some ⟨b,0,none⟩) (n+k) cap) (w.setCells b (n*ie.size) news):=by
 obtain⟨h1,h2⟩:=hs w rfl
 have hst:=run_storeCells_cells (P:=P) b (n*ie.size) news 0 w (λj hj=>by
   rw[J1 hb];have:n*ie.size+j<cur.size:=om
   simp[this]) (λj hj=>hfr _ om) hone
 unfold Builtin.append_;simp only[Bm,run_underlying ht,run_underlying hu,Bc,WT hi,C7,B0,BC,Cf,h1,Al,if_false,if_pos hroom,KR,AC,A5,if_true,h2]
 simp only[Bo]at hst;simp[hst]
structure AppT(P:Program)(o:Oper)(k:Call)(x y:Operand)(e:TypeId)(du:TypeDesc):Prop where
 ho:o.op= .call k
 hc:k.callee= .builtin .append
 hargs:k.args.toList=[x,y]
 htypes:k.argTypes.toList.map P.underlying=[some (.slice e),some du]
 c1:(K4 P e).map (·.length)=some (JH P e)
 c2:0<JH P e
 c3:H4 du=true
theorem AppT.spec{o:Oper}{k:Call}{x y:Operand}{e:TypeId}{du:TypeDesc}(hT:AppT P o k x y e du):
  ∃t u ie z,P.info? e=some ie/\P.underlying t=some (.slice e)/\P.underlying u=some du/\(∀kk,du≠ .int kk)/\ie.zero=some z/\z.cells.size=ie.size/\
   ∀v w',(Builtin.append_ #[t,u] o.type #[a.eval x,a.eval y]).run P w= .ok v w'->Does P w a o v w':=by
 obtain⟨ho,hc,hargs,htypes,c1,c2,c3⟩:=hT
 obtain⟨ie,hie⟩:∃ie,P.info? e=some ie:=by
  cases hie:P.info? e with
  |some ie=>exact⟨ie,rfl⟩
  |none=>simp[JH,Bs,hie]at c2
 have hsz:=JY hie
 obtain⟨z,hz,hzl⟩:∃z,ie.zero=some z/\z.cells.size=ie.size:=by
  unfold K4 at c1;rw[hie]at c1
  cases hz:ie.zero with
  |none=>simp[hz]at c1
  |some z=>simp[hz]at c1;exact⟨z,rfl,by rw[c1,hsz]⟩
 obtain⟨t,u,ht2,htu,huu⟩:∃t u,k.argTypes= #[t,u]/\P.underlying t=some (.slice e)/\P.underlying u=some du:=by
  rcases hl:k.argTypes.toList with _|⟨t,_|⟨u,_|⟨v,l⟩⟩⟩<;>rw[hl]at htypes<;>simp at htypes
  exact⟨t,u,by rw[<-BV (xs:=k.argTypes),hl],htypes.1,htypes.2⟩
 have hargs':k.args.map a.eval= #[a.eval x,a.eval y]:=by rw[<-BV (xs:=k.args),hargs];simp
 refine⟨t,u,ie,z,hie,htu,huu,λkk e=>(by subst e;cases c3),hz,hzl,λv w' hr=>?_⟩
 refine Kz (jC a.eval ho hc) ?_
 rw[ht2,hargs'];exact hr
theorem JSf(hI:InvP vars E m c w g h a){o:Oper}{k:Call}{x y:Operand}{e:TypeId}{du:TypeDesc}{q:List (List V)}{g1:Jl}{h1:JG}(hT:AppT P o k x y e du)(hown:Gv E.lo (g,h) x=some ([],g1,h1))(hq:Wk P e (opd g y)=some q)
  (c5:q.flatten.all H6=true)(c6:0<q.length)(c7:q.length*P.bytesOf e<=140737488355328)(c8:q.length<=9223372036854775807)
  (hd:∀t,o.dst=some t->t<E.nt)(hv:∀t,o.dst=some t->t∉vars):Done P vars E w a o (.stk h1.length q.length (JH P e)) (Lift.untag g1) (h1++[.cells (q.flatten.map Qe)]):=by
 obtain⟨hI1,hO⟩:=HR hI hown;obtain⟨t,u,ie,z,hie,htu,huu,hdu,hz,hzl,hdo⟩:=hT.spec (a:=a) (w:=w);have hsz:=JY hie;have hsz0:0<ie.size:=by rw[<-hsz];exact hT.c2
 have hby:P.bytesOf e=ie.bytes:=by simp[Do,hie]
 rw[hby]at c7;obtain⟨news,hsrc,hnl,hqr,hnew⟩:=yV hie (hI.core.opd y) hq hsz0;obtain⟨k1,k2,k3⟩:=JOa (m:=m) (JGV hqr hnl hnew hsz0)
 have key:∀{base:Option Addr},a.eval x= .slice base 0 0->(∀w',w'.heap=w.heap->(Builtin.firstCells ie.size 0 (.slice base 0 0)).run P w'= .ok #[] w')->Done P vars E w a o (.stk h1.length q.length (JH P e)) (Lift.untag g1) (h1++[.cells (q.flatten.map Qe)]):=λ{base} hx hf=>by
  have hrun:=yU (P:=P) (w:=w) (ty:=o.type) (n:=0) (cap:=0) (olds:=[]) htu huu hdu hie hz hsrc hf om om (by rw[AC];exact c7)
  rw[<-hx]at hrun;rw[AC]at hrun;have hge:=grownCap_ge w q.length 0 e
  have hasz:(([]:List Value).toArray++news.toArray++Builtin.zeroCells z.cells (grownCap w q.length 0 e-q.length)).size=grownCap w q.length 0 e*ie.size:=by
   simp only[CR,BZ,Ai,hnl,size_zeroCells,hzl];rw[AC,<-A6]
   congr 1
   omega
  have hnil:∀v∈q.flatten.map Qe,QU v=false:=λv hv=>by obtain⟨u,hu,rfl⟩:=AM.1 hv;rw[JBw];exact(WY (Ak.1 c5 _ hu)).2
  have hnlt:∀(j:Nat) y,news[j]? =some y->(([]:List Value).toArray++news.toArray++Builtin.zeroCells z.cells (grownCap w q.length 0 e-q.length))[j]? =some y:=λj y hy=>by
   have hjl:=(Ab.1 hy).1
   rw[BT (by simpa using hjl)]
   simpa using hy
  have hklen:(q.flatten.map Qe).length=q.length*ie.size:=by rw[Aq,Z0 hqr]
  have hI':=WX hI1 (cs:=q.flatten.map Qe) (arr:=([]:List Value).toArray++news.toArray++Builtin.zeroCells z.cells (grownCap w q.length 0 e-q.length)) (e:=e) (f:=(0,0)) (w':=w.drew.alloc (.cells (([]:List Value).toArray++news.toArray++Builtin.zeroCells z.cells (grownCap w q.length 0 e-q.length)) e)) rfl rfl rfl rfl (λj _=>by simp)
   (by rw[hasz,hklen];exact AF _ hge)
   (λj v y hv hy=>by
    have hj:j<news.length:=by rw[<-k1.1];exact(Ab.1 hv).1
    have h3:=hnlt j _ (Ac hj)
    rw[hy]at h3;cases h3
    exact⟨k1.2 j v _ hv (Ac hj),k3 j _ (Ac hj)⟩)
   (λj r hj=>by
    obtain⟨q1,q2⟩:=k2 j r hj
    exact⟨q1,hnlt j _ q2⟩) (λT hT hc=>by rw[JM2 hnil]at hc;cases hc)
  have hstk:=JJW (c:=c) (n:=q.length) (cap:=grownCap w q.length 0 e) (sz:=ie.size) (w:=w) (w':=w.drew.alloc (.cells (([]:List Value).toArray++news.toArray++Builtin.zeroCells z.cells (grownCap w q.length 0 e-q.length)) e)) (e:=e) hI1.core.len rfl hge (grownCap_le_maxLen w _ _ e (by unfold maxLen;exact c8)) hasz
  rw[hsz];exact⟨_,_,_,_,hdo _ _ hrun,hI'.putBare hd hstk rfl (.inl hv)⟩
 rcases hO.2.1 with⟨hx,_⟩|⟨b,cap,cur,e',sz,hx,_,_,_,_,_,_,_,_,k9,_⟩
 ·exact key hx (λw' _=>by simp[Builtin.firstCells])
 ·have:=k9 rfl
  subst this;exact key hx (λw' _=>run_firstCells_some w' ie.size 0 ⟨b,0,none⟩ 0 0 [] (by simp) (λj v hj=>by simp at hj))
theorem JSg(hI:InvP vars E m c w g h a){o:Oper}{k:Call}{x y:Operand}{e:TypeId}{du:TypeDesc}{q:List (List V)}{i n:Nat}{cs:List V}(hT:AppT P o k x y e du)(hx:opd g x= .stk i n (JH P e))(hcs:cellsOfOb h i=some cs)(hq:Wk P e (opd g y)=some q)
  (hib:E.base<=i)(c4:n*JH P e<=cs.length)(c5:(cs.take (n*JH P e)).all (JDl i)=true)(c6:q.flatten.all H6=true)(c7:(n+q.length)*P.bytesOf e<=140737488355328)(c8:n+q.length<=9223372036854775807)
  (hd:∀t,o.dst=some t->t<E.nt)(hv:∀t,o.dst=some t->t∉vars):
  Done P vars E w a o (.stk i (n+q.length) (JH P e)) (kilE i (Lift.untag g)) ((za E.base i h).set i (.cells (cs.take (n*JH P e)++q.flatten.map Qe))):=by
 obtain⟨t,u,ie,z,hie,htu,huu,hdu,hz,hzl,hdo⟩:=hT.spec (a:=a) (w:=w);have hsz:=JY hie;have hsz0:0<ie.size:=by rw[<-hsz];exact hT.c2
 have hby:P.bytesOf e=ie.bytes:=by simp[Do,hie]
 rw[hby]at c7;rw[hsz]at hx c4 c5⊢;obtain⟨news,hsrc,hnl,hqr,hnew⟩:=yV hie (hI.core.opd y) hq hsz0;obtain⟨k1,k2,k3⟩:=JOa (m:=m) (JGV hqr hnl hnew hsz0);have hxv:=hI.core.opd x;rw[hx]at hxv;obtain⟨gb,cap,hm,hy,hncap,hmx,hshp⟩:=hxv;obtain⟨arr,e',f,hw,hasz,hfr⟩:=hshp (hI.core.wf2 gb (Aj hm))
 have hcs0:h[i]? =some (.cells cs):=by
  unfold cellsOfOb at hcs
  split at hcs
  ·rename_i h0;cases hcs;exact h0
  ·cases hcs
 obtain⟨arr0,e0,f0,hw0,hle,_,hall,_⟩:=hI.core.ob i _ gb hcs0 hm;rw[hw]at hw0;cases hw0;have hIu:=hI.untag;have htl:(cs.take (n*ie.size)).length=n*ie.size:=by simp;omega
 have hql:(q.flatten.map Qe).length=q.length*ie.size:=by rw[Aq,Z0 hqr]
 have hcl:(cs.take (n*ie.size)++q.flatten.map Qe).length=(n+q.length)*ie.size:=by rw[Ao,htl,hql,A6]
 have hnil:∀v∈cs.take (n*ie.size)++q.flatten.map Qe,QU v=false:=λv hv=>by
  rcases AO.1 hv with hv|hv
  ·have:=Ak.1 c5 _ hv
   unfold JDl at this;simp at this;exact this.2
  ·obtain⟨u,hu,rfl⟩:=AM.1 hv
   rw[JBw];exact(WY (Ak.1 c6 _ hu)).2
 have hone:∀v∈news,v.oneCell'=true:=λv hv=>by obtain⟨j,hj,rfl⟩:=AV hv;exact k3 j _ (Ac hj)
 have hcell:∀{arr':Array Value},(∀j,j<n*ie.size->arr'[j]? =arr[j]?)->(∀j y,news[j]? =some y->arr'[n*ie.size+j]? =some y)->
   ∀(j:Nat) v x,(cs.take (n*ie.size)++q.flatten.map Qe)[j]? =some v->arr'[j]? =some x->VR1 m c w v x/\avf i v=true/\x.oneCell'=true:=λ{arr'} ha hb j v x hv hx=>by
  rw[BU,htl]at hv
  split at hv
  ·rename_i hj
   rw[ha j hj]at hx;have h3:=Ak.1 c5 _ (Aj hv);rw[AH,if_pos hj]at hv
   unfold JDl at h3;simp at h3;exact⟨(hall j v x hv hx).1,h3.1,(hall j v x hv hx).2⟩
  ·rename_i hj
   have hjl:j-n*ie.size<news.length:=by rw[<-k1.1];exact(Ab.1 hv).1
   have h3:=hb _ _ (Ac hjl)
   rw[show n*ie.size+(j-n*ie.size)=j by omega,hx]at h3
   cases h3;refine⟨k1.2 _ v _ hv (Ac hjl),?_,k3 _ _ (Ac hjl)⟩
   simp only[An,Ag]at hv
   obtain⟨u,hu,rfl⟩:=hv;exact JP4 (WY (Ak.1 c6 _ (Aj hu))).1
 have hownc:∀{arr':Array Value} {w':World} {nb:Nat} {e2:TypeId} {f2:Nat×Nat},w'.heap[nb]? =some (.cells arr' e2 f2)->(∀j,j<n*ie.size->arr'[j]? =arr[j]?)->(∀j y,news[j]? =some y->arr'[n*ie.size+j]? =some y)->
   ∀(j:Nat) r x,(cs.take (n*ie.size)++q.flatten.map Qe)[j]? =some (.list .yes r)->w'.cell? ⟨nb,j,none⟩=some x->(r=[]/\x= .slice none 0 0)\/At m w (Lift.untag g) h a (.cell i j) r x:=λ{arr' w' nb e2 f2} hw' ha hb j r x hv hx=>by
  rw[J1 hw']at hx;rw[BU,htl]at hv
  split at hv
  ·rename_i hj
   rw[ha j hj]at hx;rw[AH,if_pos hj]at hv
   exact .inr ⟨cs,gb,hcs,hv,hm,by rw[J1 hw];exact hx⟩
  ·rename_i hj
   obtain⟨q1,q2⟩:=k2 _ r hv;have h3:=hb _ _ q2;rw[show n*ie.size+(j-n*ie.size)=j by omega,hx]at h3
   exact .inl ⟨q1,Bh h3⟩
 have him:i<m.length:=(Ab.1 hm).1
 by_cases hroom:n+q.length<=cap
 ·have hle2:(n+q.length)*ie.size<=cap*ie.size:=AF _ hroom
  have hfit:n*ie.size+news.length<=arr.size:=by rw[hnl,<-A6,hasz];exact hle2
  have hrun:=JP5 (P:=P) (w:=w) (ty:=o.type) htu huu hdu hie hsrc hw hfr hroom hfit hone;rw[<-hy]at hrun;obtain⟨s1,s2,s3,s4,s5,arr',s6,s7⟩:=Jp gb news (n*ie.size) w arr e' f hw hfit
  have hsize:arr'.size=arr.size:=by have:=congrArg Bq s7;simp only[AJ,Ao,Az,AB]at this;omega
  have ha:∀j,j<n*ie.size->arr'[j]? =arr[j]? :=λj hj=>by
   rw[<-Bk,s7,QP (by simpa using hfit),if_neg om]
   simp
  have hb:∀j y,news[j]? =some y->arr'[n*ie.size+j]? =some y:=λj y hy=>by
   have hjl:=(Ab.1 hy).1
   rw[<-Bk,s7,QP (by simpa using hfit),if_pos om,BD]
   exact hy
  have hI':=hIu.restk (nb:=gb) (cs':=cs.take (n*ie.size)++q.flatten.map Qe) (w':=w.setCells gb (n*ie.size) news) hib hm (.inl rfl) (by rw[s1];exact Ad _) (λb _ hb=>s2 b hb) s3 s4 s5
   ⟨arr',e',f,s6,by rw[hcl,hsize,hasz];exact hle2,λj hj=>by
    have h3:=hfr j (by rw[hcl]at hj;rw[hasz];omega)
    simp only[BN,hw,s6]at h3⊢
    exact h3,hcell ha hb⟩ hnil (λ_=>Qb hw hfit) (hownc s6 ha hb) (λt u r=>WV t u r) (λt i j r=>WW t i j r)
  refine⟨_,_,_,_,hdo _ _ hrun,hI'.putBare hd ?_ rfl (.inl hv)⟩
  exact⟨gb,cap,by simp[him],rfl,hroom,hmx,λ_=>⟨arr',e',f,s6,by rw[hsize,hasz],λj hj=>by
   have h3:=hfr j (by rw[<-hsize];exact hj)
   simp only[BN,hw,s6]at h3⊢
   exact h3⟩⟩
 ·have hole:n*ie.size<=arr.size:=by rw[hasz];exact AF _ hncap
  have hol:(arr.toList.take (n*ie.size)).length=n*ie.size:=by rw[Az,AJ];exact B3 hole
  have hrun:=yU (P:=P) (w:=w) (ty:=o.type) (base:=some ⟨gb,0,none⟩) (n:=n) (cap:=cap) (olds:=arr.toList.take (n*ie.size)) htu huu hdu hie hz hsrc (λw' hw'=>run_firstCells_some w' ie.size n ⟨gb,0,none⟩ n cap _ hol (λj v hj=>by
   rw[KR,AC,Jb (w:=w) (w':=w') (by rw[hw']),J1 hw]
   rw[AH]at hj
   split at hj
   ·simpa using hj
   ·cases hj)) om c8 c7
  rw[<-hy]at hrun;have hge:=grownCap_ge w (n+q.length) cap e
  have hasz':((arr.toList.take (n*ie.size)).toArray++news.toArray++Builtin.zeroCells z.cells (grownCap w (n+q.length) cap e-(n+q.length))).size=grownCap w (n+q.length) cap e*ie.size:=by
   simp only[CR,BZ,hol,hnl,size_zeroCells,hzl];rw[<-A6,<-A6]
   congr 1
   omega
  have ha:∀j,j<n*ie.size->((arr.toList.take (n*ie.size)).toArray++news.toArray++Builtin.zeroCells z.cells (grownCap w (n+q.length) cap e-(n+q.length)))[j]? =arr[j]? :=λj hj=>by
   rw[Lx,BT (by simp only[BZ,hol];exact hj)]
   simp[AH,hj]
  have hb:∀j y,news[j]? =some y->((arr.toList.take (n*ie.size)).toArray++news.toArray++Builtin.zeroCells z.cells (grownCap w (n+q.length) cap e-(n+q.length)))[n*ie.size+j]? =some y:=λj y hy=>by
   have hjl:=(Ab.1 hy).1
   rw[BT (by simp only[CR,BZ,hol];omega),Array.getElem?_append_right (by simp only[BZ,hol];omega)]
   simp only[BZ,hol,BD];simpa using hy
  have hnew2:(w.drew.alloc (.cells ((arr.toList.take (n*ie.size)).toArray++news.toArray++Builtin.zeroCells z.cells (grownCap w (n+q.length) cap e-(n+q.length))) e)).heap[w.heap.size]? =some (.cells ((arr.toList.take (n*ie.size)).toArray++news.toArray++Builtin.zeroCells z.cells (grownCap w (n+q.length) cap e-(n+q.length))) e (0,0)):=heap_alloc_new w.drew _
  have hold:∀b,b<w.heap.size->(w.drew.alloc (.cells ((arr.toList.take (n*ie.size)).toArray++news.toArray++Builtin.zeroCells z.cells (grownCap w (n+q.length) cap e-(n+q.length))) e)).heap[b]? =w.heap[b]? :=λb hb=>by
   show(w.heap.push _)[b]? =_
   rw[BI];simp[show¬b=w.heap.size by omega]
  have hI':=hIu.restk (nb:=w.heap.size) (cs':=cs.take (n*ie.size)++q.flatten.map Qe) (w':=w.drew.alloc (.cells ((arr.toList.take (n*ie.size)).toArray++news.toArray++Builtin.zeroCells z.cells (grownCap w (n+q.length) cap e-(n+q.length))) e)) hib hm (.inr (Ad _))
   (by show w.heap.size<=(w.heap.push _).size;simp) (λb hb _=>hold b hb) rfl rfl rfl
   ⟨_,e,(0,0),hnew2,by rw[hcl,hasz'];exact AF _ hge,λj hj=>by simp only[BN,hnew2];simp,hcell ha hb⟩ hnil (λhe=>by
    have:=hI.core.m_lt hm
    omega) (hownc hnew2 ha hb) (λt u r=>WV t u r) (λt i j r=>WW t i j r)
  refine⟨_,_,_,_,hdo _ _ hrun,hI'.putBare hd ?_ rfl (.inl hv)⟩
  exact⟨w.heap.size,grownCap w (n+q.length) cap e,by simp[him],rfl,hge,grownCap_le_maxLen w _ _ e (by unfold maxLen;exact c8),λ_=>⟨_,e,(0,0),hnew2,hasz',λj hj=>by simp only[BN,hnew2];simp⟩⟩
theorem JWB(hI:InvP vars E m c w g h a){o:Oper}{md:Option Nat->Nat}{v:V}{g':Jl}{h':JG}(hn:Gw md o.dst o.op=true)(he:GS P E.base E.lo (md o.dst) (g,h) o.op=some (v,g',h'))(hd:∀t,o.dst=some t->t<E.nt)
  (hv:(∃x,o.op= .assign x)\/ ∀t,o.dst=some t->t∉vars):Done P vars E w a o v g' h':=by
 generalize hop:o.op=op at he hn hv
 have hv':(∀x,op≠ .assign x)->∀t,o.dst=some t->t∉vars:=λhne=>by
  rcases hv with⟨x,hx⟩|hv
  ·exact absurd hx (hne x)
  ·exact hv
 cases op with
 |makeSlice t n k=>
  simp only[GS]at he
  split at he
  ·rename_i na nb e h1 h2 hu
   split at he
   ·rename_i z hz
    split at he
    ·rename_i hc
     obtain⟨c1,rfl,c3,c4,c5,c6,c7⟩:=hc;simp only[Ah,AG]at he;obtain⟨rfl,rfl,rfl⟩:=he;exact JSe hI hop h1 h2 hu hz c1 c3 c4 c5 c6 c7 hd (hv' (λx e=>by cases e))
    ·cases he
   ·cases he
  ·cases he
 |buildSlice t n parts=>
  simp only[GS]at he
  split at he
  ·rename_i e hu
   split at he
   ·rename_i hc
    split at he
    ·simp only[Ah,AG]at he
     obtain⟨rfl,rfl,rfl⟩:=he;exact JM4 hI hop hu hc hd (hv' (λx e=>by cases e))
    ·split at he
     ·rename_i h3
      simp only[Ah,AG]at he;obtain⟨rfl,rfl,rfl⟩:=he;exact JM3 hI hop hu ⟨hc.1,hc.2.1,hc.2.2.1,hc.2.2.2.1,hc.2.2.2.2.1⟩ h3 hd (hv' (λx e=>by cases e))
     ·cases he
   ·cases he
  ·cases he
 |alloc t=>
  simp only[GS]at he
  split at he
  ·rename_i z hz
   split at he
   ·rename_i hc
    rw[Af]at hc;simp only[Ah,AG]at he;obtain⟨rfl,rfl,rfl⟩:=he;exact JMq hI hop hz hc.1 hc.2 hd (hv' (λx e=>by cases e))
   ·cases he
  ·cases he
 |store t p x=>
  simp only[GS]at he
  split at he
  ·rename_i b off hp
   split at he
   ·rename_i cs hcs
    split at he
    ·split at he
     ·rename_i hc
      simp only[Ah,AG]at he;obtain⟨rfl,rfl,rfl⟩:=he
      exact JMr hI hop hp hcs (⟨hc.1,hc.2.1,hc.2.2.1,hc.2.2.2.1,hc.2.2.2.2.1,λhib=>by
       have:=hc.2.2.2.2.2;simp only[AU,decide_eq_true_eq]at this;rcases this with h1|h1
       ·omega
       ·rw[AU];exact h1⟩) hd
     ·cases he
    ·split at he
     ·rename_i hc
      have hst:=zh hI hop hp hcs (⟨hc.1,hc.2.1,hc.2.2.1,hc.2.2.2.1,hc.2.2.2.2.1,λhib=>by
       have:=hc.2.2.2.2.2;simp only[AU,decide_eq_true_eq]at this;rcases this with h1|h1
       ·omega
       ·rw[AU];exact h1⟩) hd
      split at he
      ·rename_i ds hds
       simp only[Ah,AG]at he;obtain⟨rfl,rfl,rfl⟩:=he;rw[hds]at hst;exact hst
      ·rename_i hna
       simp only[Ah,AG]at he;obtain⟨rfl,rfl,rfl⟩:=he
       have h1:cellsV (Ko (Jr g x).1)=[Ko (Jr g x).1]:=by cases hq:Ko (Jr g x).1<;>first|rfl|(exact absurd hq (hna _))
       have h2:JH P t=1:=by have h3:=hc.2.2.1;have h4:=congrArg Bq h1;rw[cellsV_own1s,Aq]at h4;rw[h4]at h3;simpa using h3.symm
       rw[h1,h2]at hst;have h3:off<cs.length:=by have:=hc.2.1;omega
       rw[show cs.take off++[Ko (Jr g x).1]++cs.drop (off+1)=cs.set off (Ko (Jr g x).1)by rw[CX,if_pos h3];simp]at hst
       exact hst
     ·cases he
   ·cases he
  ·cases he
 |call k=>
  have hc:k.callee= .builtin .append:=by
   simp only[Gw]at hn
   split at hn
   ·assumption
   ·cases hn
  simp only[GS]at he
  split at he
  ·rename_i x y e u hargs htypes
   split at he
   ·rename_i q hq
    split at he
    ·rename_i hcond
     have hT:AppT P o k x y e u:=⟨hop,hc,hargs,htypes,hcond.1,hcond.2.1,hcond.2.2⟩;unfold JMe at he
     split at he
     ·rename_i i n z hx
      split at he
      ·rename_i cs hcs
       split at he
       ·rename_i hcc
        obtain⟨d1,rfl,d3,d4,d5,d6⟩:=hcc;simp only[Af]at d4;simp only[Ah,AG]at he;obtain⟨rfl,rfl,rfl⟩:=he;exact JSg hI hT hx hcs hq d1 d3 d4.1 d4.2 d5 d6 hd (hv' (λx e=>by cases e))
       ·cases he
      ·cases he
     ·split at he
      ·rename_i s' hown
       split at he
       ·rename_i hcc
        simp only[Ah,AG]at he;obtain⟨rfl,rfl,rfl⟩:=he;exact JSf hI hT hown hq hcc.1 hcc.2.1 hcc.2.2.1 hcc.2.2.2 hd (hv' (λx e=>by cases e))
       ·cases he
      ·cases he
    ·cases he
   ·cases he
  ·cases he
 |_=>cases hn
end
section
variable{vars:List Nat}{m:List Nat}{c:Cl}{w:World}{g:Jl}{h:JG}{a:Act}{E:Entry}{cx:Cx}
theorem JDq{x:Operand}{i o:Nat}(hx:opd g x= .ptr i o):opd (untag g) x= .ptr i o:=by
 cases x with
 |tmp t=>simp only[opd]at hx⊢;rw[Jy,hx]<;>rfl
 |_=>exact hx
abbrev JZl(cx:Cx)(E:Entry)(a:Act)(w:World)(o:Oper)(v:V)(g':Jl)(h':JG):Prop:=
 ∀(next:Act->World->Prop) (Q:Exit->Act->World->Prop),(∀x w' m' c',InvP cx.hint.vars E m' c' w' (put o.dst v g') h' (a.put o.dst x)->next (a.put o.dst x) w')->o.wp cx.P a w next Q
theorem Done.goes{o:Oper}{v:V}{g':Jl}{h':JG}(hd:Done cx.P cx.hint.vars E w a o v g' h'):JZl cx E a w o v g' h':=λnext Q hn=>by obtain⟨x,w',m',c',hdo,hI⟩:=hd;exact hdo.wp (hn x w' m' c' hI)
theorem JSh(hI:InvP cx.hint.vars E m c w g h a)(hX:CxOK cx E){o:Oper}{v:V}{g':Jl}{h':JG}(he:YA cx (g,h) o=some (v,g',h'))(hd:∀t,o.dst=some t->t<E.nt)
  (hv:(∃x,o.op= .assign x)\/ ∀t,o.dst=some t->t∉cx.hint.vars):JZl cx E a w o v g' h':=by
 unfold YA at he
 split at he
 ·rename_i hnew
  rw[hX.base,hX.lo]at he;exact(JWB hI hnew he hd hv).goes
 split at he
 ·rename_i heff
  generalize hop:o.op=op at he heff
  have hv':(∀x,op≠ .assign x)->∀t,o.dst=some t->t∉cx.hint.vars:=λhne=>by
   rcases hv with⟨x,hx⟩|hv
   ·rw[hop]at hx;exact absurd hx (hne x)
   ·exact hv
  cases op with
  |assign x=>
   simp only[KX,Ah,AG]at he;obtain⟨rfl,rfl,rfl⟩:=he
   exact(JMp hI hop hd).goes
  |alloc t=>
   simp only[KX]at he
   split at he
   ·rename_i z hz
    split at he
    ·rename_i hs
     simp only[Ah,AG]at he;obtain⟨rfl,rfl,rfl⟩:=he;rw[Af]at hs;exact(JGN hI hop hz hs.1 hs.2 hd (hv' (λx e=>by cases e))).goes
    ·cases he
   ·cases he
  |box t x=>
   simp only[KX]at he
   split at he
   ·rename_i hs
    simp only[Af]at hs;simp only[Ah,AG]at he;obtain⟨rfl,rfl,rfl⟩:=he;exact(JV9 hI hop hs.1 hs.2.1 hs.2.2 hd (hv' (λx e=>by cases e))).goes
   ·cases he
  |buildSlice t n parts=>
   simp only[KX]at he
   split at he
   ·rename_i e hu
    split at he
    ·rename_i hc
     simp only[Ah,AG]at he;obtain⟨rfl,rfl,rfl⟩:=he;exact(jB hI hop hu hc hd (hv' (λx e=>by cases e))).goes
    ·cases he
   ·cases he
  |store t p x=>
   simp only[KX]at he
   split at he
   ·rename_i b off hp
    split at he
    ·rename_i cs hcs
     split at he
     ·rename_i hc
      have hst:=zh hI hop hp hcs (by rw[hX.lo]at hc;exact⟨hc.1,hc.2.1,hc.2.2.1,hc.2.2.2.1,hc.2.2.2.2.1,λ_=>hc.2.2.2.2.2⟩) hd
      split at he
      ·rename_i ds hds
       simp only[Ah,AG]at he;obtain⟨rfl,rfl,rfl⟩:=he;rw[hds]at hst;exact hst.goes
      ·rename_i hna
       simp only[Ah,AG]at he;obtain⟨rfl,rfl,rfl⟩:=he
       have h1:cellsV (Ko (Jr g x).1)=[Ko (Jr g x).1]:=by cases hq:Ko (Jr g x).1<;>first|rfl|(exact absurd hq (hna _))
       have h2:JH cx.P t=1:=by have h3:=hc.2.2.1;have h4:=congrArg Bq h1;rw[cellsV_own1s,Aq]at h4;rw[h4]at h3;simpa using h3.symm
       rw[h1,h2]at hst;have h3:off<cs.length:=by have:=hc.2.1;omega
       rw[show cs.take off++[Ko (Jr g x).1]++cs.drop (off+1)=cs.set off (Ko (Jr g x).1)by rw[CX,if_pos h3];simp]at hst
       exact hst.goes
     ·cases he
    ·cases he
   ·cases he
  |range t x=>
   simp only[KX]at he
   split at he
   ·rename_i b hx hu
    simp only[Ah,AG]at he;obtain⟨rfl,rfl,rfl⟩:=he;exact(JPz hI hop hx hu hd (hv' (λx e=>by cases e))).goes
   ·cases he
  |next x str=>
   simp only[KX]at he
   split at he
   ·rename_i b hx
    split at he
    ·rename_i s pos hs
     split at he
     ·rename_i hlo
      have:=JSb (P:=cx.P) hI.untag hop (JDq hx) hs (by rw[<-hX.lo];exact hlo) (λt i j r=>WW t i j r) hd (hv' (λx e=>by cases e))
      split at he
      ·rename_i hlt
       rw[if_pos hlt]at this;simp only[Ah,AG]at he;obtain⟨rfl,rfl,rfl⟩:=he;exact this.goes
      ·rename_i hlt
       rw[if_neg hlt]at this;simp only[Ah,AG]at he;obtain⟨rfl,rfl,rfl⟩:=he;exact this.goes
     ·cases he
    ·cases he
   ·cases he
  |convert s d x=>
   cases hr2:isRow cx.P s d with
   |true=>
    simp only[KX,hr2,if_true]at he
    exact(JMw hI hop hr2 he hd (hv' (λx e=>by cases e))).goes
   |false=>
    simp only[KX,hr2,Al,if_false]at he
    exact(JAg hI hop (jl (by simpa[WC,hr2]using heff)) he hd (hv' (λx e=>by cases e))).goes
  |call k=>
   simp only[KX]at he
   split at he
   ·rename_i f hc
    unfold WJ at he
    split at he
    ·rename_i fid caps hf
     split at he
     ·rename_i r h2 hcall
      simp only[Ah,AG]at he;obtain⟨rfl,rfl,rfl⟩:=he;have hle:E.lo<=h.length:=Bt hI.lole hI.hlen;rw[hX.lo]at hcall;exact λnext Q hn=>JWA hI hop hc hf (Ad _) hle (hX.call _ _ _ _ _ _ hle hcall) hd (hv' (λx e=>by cases e)) hn
     ·cases he
    ·cases he
   ·rename_i hc
    split at he
    ·rename_i x y e u hargs htypes
     split at he
     ·rename_i r s' q hown hq
      split at he
      ·rename_i hcond
       simp only[Ah,AG]at he;obtain⟨rfl,rfl,rfl⟩:=he;rw[hX.lo]at hown;exact(JMv hI hop hc hargs htypes hown hq hcond hd (hv' (λx e=>by cases e))).goes
      ·cases he
     ·cases he
    ·cases he
   ·cases he
  |makeSlice t n k=>
   simp only[KX]at he
   cases he
  |makeMap t r=>
   cases r with
   |some x=>simp only[KX]at he;cases he
   |none=>
    simp only[KX]at he
    split at he
    ·rename_i kt et hu
     simp only[Ah,AG]at he;obtain⟨rfl,rfl,rfl⟩:=he;exact(JKo (kt:=kt) (et:=et) hI hop hd (hv' (λx e=>by cases e))).goes
    ·cases he
  |insert t x k y=>
   simp only[KX,Ag,AG]at he;obtain⟨s',hs,rfl,rfl,rfl⟩:=he
   exact(JBs hI (.inl hop) (by rw[<-hX.lo];exact hs) hd (hv' (λx e=>by cases e))).goes
  |mapUpdate t x k y=>
   simp only[KX,Ag,AG]at he;obtain⟨s',hs,rfl,rfl,rfl⟩:=he
   exact(JBs hI (.inr hop) (by rw[<-hX.lo];exact hs) hd (hv' (λx e=>by cases e))).goes
  |lookup t x k two=>
   simp only[KX,Ag,AG]at he;obtain⟨v',hs,rfl,rfl,rfl⟩:=he
   exact(JMu hI hop hs hd (hv' (λx e=>by cases e))).goes
  |_=>cases heff
 ·rename_i heff
  simp only[Ag,AG]at he;obtain⟨v',hp,rfl,rfl,rfl⟩:=he
  have hna:∀t,o.dst=some t->t∉cx.hint.vars:=by
   rcases hv with⟨x,hx⟩|hv
   ·rw[hx]at heff;exact absurd rfl heff
   ·exact hv
  obtain⟨y,hy,hvr,ht⟩:=JJO hI.core hp;intro next Q hn;exact(show Does cx.P w a o y w from .inl hy).wp (hn y w m c (hI.put hd hvr ht (.inl hna)))
def W4(cx:Cx)(E:Entry)(l:List Oper):Prop:=∀o∈l,(∀t,o.dst=some t->t<E.nt)/\((∃x,o.op= .assign x)\/ ∀t,o.dst=some t->t∉cx.hint.vars)
theorem jo(hI:InvP cx.hint.vars E m c w g h a){o:Oper}(hd:∀t,o.dst=some t->t<E.nt)(hv:∀t,o.dst=some t->t∉cx.hint.vars):
  InvP cx.hint.vars E m c w (put o.dst (.v undef) g) h (a.put o.dst undef):=hI.putBare hd rfl rfl (.inl hv)
theorem YH{o:Oper}(h:K5 o.op=false)(hv:(∃x,o.op= .assign x)\/ ∀t,o.dst=some t->t∉vars):∀t,o.dst=some t->t∉vars:=by
 rcases hv with⟨x,hx⟩|hv
 ·rw[hx]at h;cases h
 ·exact hv
theorem JJX(hX:CxOK cx E){ops:Array Oper}{Q:Exit->Act->World->Prop}:∀(l:List Oper) (m:List Nat) (c:Cl) (w:World) (g:Jl) (h:JG) (a:Act) (s':St),W4 cx E l->InvP cx.hint.vars E m c w g h a->KL cx ops l (g,h)=some s'->
  (∀m' c' w' a',InvP cx.hint.vars E m' c' w' s'.1 s'.2 a'->Q .normal a' w')->wpList cx.P ops Q l a w
 |[],m,c,w,g,h,a,s',_,hI,he,hQ=>by
  simp only[KL,Ah]at he;subst he
  exact hQ m c w a hI
 |o::l,m,c,w,g,h,a,s',hO,hI,he,hQ=>by
  have ho:=hO o (by simp)
  have hO':W4 cx E l:=λo' h'=>hO o' (by simp[h'])
  refine wpList_step λK hK=>?_
  simp only[KL]at he
  split at he
  ·rename_i hw
   rw[Wd hI hw,if_pos rfl]
   split at he
   ·rename_i v g' h' hop
    refine JSh hI hX hop ho.1 ho.2 K Q λx w' m' c' hI'=>hK _ _ ?_
    exact JJX hX l m' c' w' _ _ _ s' hO' hI' he hQ
   ·cases he
  ·rename_i hw
   rw[Wd hI hw,if_neg (by simp)]
   split at he
   ·cases he
   ·rename_i hna
    exact hK _ _ (JJX hX l m c w _ _ _ s' hO' (jo hI ho.1 (YH (by simpa using hna) ho.2)) he hQ)
  ·cases he
end
section
variable{m:List Nat}{c:Cl}{w:World}{g:Jl}{h:JG}{a:Act}{E:Entry}{cx:Cx}
theorem JOb{t:Nat}{v:V}{x:Operand}(hx:x≠ .tmp t):opd (ins t v g) x=opd g x:=by
 cases x with
 |tmp u=>
  simp only[opd,look_ins]
  rw[if_neg (λe=>hx (by rw[e]))]
 |_=>rfl
theorem JGW{g g':Jl}{o:Option Operand}{d:Nat}(ho:∀x,o=some x->opd g x=opd g' x):zY g o d=zY g' o d:=by
 cases o with
 |none=>rfl
 |some x=>simp only[zY,ho x rfl]
theorem JJY{P:Program}{vars:List Nat}{g g':Jl}{op:Op}(hx:∀x∈op.operands,opd g x=opd g' x):Jd P vars (g,h) op=Jd P vars (g',h) op:=by
 have pairs:∀ps:Array (Nat×Operand),(∀x∈(ps.toList.map (·.2)),opd g x=opd g' x)->(ps.toList.map λp=>(p.1,opd g p.2))=ps.toList.map λp=>(p.1,opd g' p.2):=λps hp=>A4 λp hm=>by rw[hp p.2 (AM.2 ⟨p,hm,rfl⟩)]
 cases op<;>simp only[Dk]at hx<;>simp only[Jd]
 case move x=>
  have:=hx x (by simp)
  cases x with
  |tmp t=>simp only[opd]at this;simp only[this]
  |const v=>rfl
  |global n=>rfl
  |func f=>rfl
 case pick k x y=>rw[hx k (by simp),hx x (by simp),hx y (by simp)]
 case build t ps=>rw[pairs ps λx hm=>hx x (by simpa using hm)]
 case load t x=>rw[hx x (by simp)]
 case nilCheck x=>rw[hx x (by simp)]
 case binOp op t x y u=>rw[hx x (by simp),hx y (by simp)]
 case unOp op t x=>rw[hx x (by simp)]
 case convert s d x=>rw[hx x (by simp)]
 case makeFunc fn first caps=>
  have hx1:∀k,k∈first.toList++caps.toList->opd g k=opd g' k:=λk hk=>hx k (by
   rcases AO.1 hk with hk|hk
   ·exact LQ.2 (.inl (CT.1 hk))
   ·exact LQ.2 (.inr (CT.1 hk)))
  have h1:((first.toList++caps.toList).all λk=>yH (opd g k)&& !isU (opd g k))=((first.toList++caps.toList).all λk=>yH (opd g' k)&& !isU (opd g' k)):=by rw[Bool.eq_iff_iff,Ak,Ak];exact⟨λhh k hk=>by rw[<-hx1 k hk];exact hh k hk,λhh k hk=>by rw[hx1 k hk];exact hh k hk⟩
  have h2:(caps.toList.map λk=>cp (opd g k))=caps.toList.map λk=>cp (opd g' k):=A4 λk hk=>by rw[hx1 k (AO.2 (.inr hk))]
  have h3:(first.toList.map λk=>cp (opd g k))=first.toList.map λk=>cp (opd g' k):=A4 λk hk=>by rw[hx1 k (AO.2 (.inl hk))]
  rw[h1,h2,h3]
 case slice t x lo hi mx=>
  rw[hx x (by simp)]
  have hlo:∀d,zY g lo d=zY g' lo d:=λd=>JGW λy hy=>hx y (by subst hy;simp)
  have hhi:∀d,zY g hi d=zY g' hi d:=λd=>JGW λy hy=>hx y (by subst hy;simp)
  simp only[hlo,hhi]
 case fieldAddr t x f=>rw[hx x (by simp)]
 case field t x f=>rw[hx x (by simp)]
 case indexAddr t x i=>rw[hx x (by simp),hx i (by simp)]
 case index t x i=>rw[hx x (by simp),hx i (by simp)]
 case extract x i=>rw[hx x (by simp)]
 case call k=>
  have h1:(k.args[0]?).map (opd g)=(k.args[0]?).map (opd g'):=by
   cases hq:k.args[0]? with
   |none=>rfl
   |some x=>simp only[AK];rw[hx x (by simp[Call.operands];exact .inr (Array.mem_of_getElem? hq))]
  have h2:k.args.toList.map (opd g)=k.args.toList.map (opd g'):=A4 λx hm=>hx x (by simp[Call.operands];simp at hm;exact .inr hm)
  rw[h1,h2]
theorem JJZ{g g':Jl}{o:Oper}(hx:∀x∈o.op.operands,opd g x=opd g' x):Km cx (g,h) o=Km cx (g',h) o:=by
 unfold Km
 split
 ·generalize o.op=op at*
  cases op with
  |call k=>
   simp only
   split
   ·rename_i f hc
    rw[hx f (by simp[Dk,Call.operands,hc])]
    have h2:k.args.toList.map (opd g)=k.args.toList.map (opd g'):=A4 λx hm=>hx x (by simp[Dk,Call.operands];simp at hm;exact .inr hm)
    rw[h2]
   ·rfl
  |convert s d x=>
   cases hr:(cx.hint.mutc||isRow cx.P s d)with
   |true=>simp only[hr,if_true]
   |false=>
   simp only[hr,Al,if_false];have hr2:isRow cx.P s d=false:=by rw[Bool.or_eq_false_iff]at hr;exact hr.2
   simp only[KX,hr2,Al,if_false];rw[hx x (by simp[Dk])]
   split
   ·split
    ·simp
    ·rfl
   ·rfl
   ·rfl
  |buildSlice t n parts=>
   have h2:(parts.toList.map λp=>cellsV (fzs (opd g p.2)))=parts.toList.map λp=>cellsV (fzs (opd g' p.2)):=A4 λp hm=>by rw[hx p.2 (by simp[Dk];exact⟨p.1,by simpa using hm⟩)]
   simp only[KX,h2]
   split
   ·split<;>rfl
   ·rfl
  |_=>rfl
 ·exact JJY hx
theorem JKt(t u:Nat)(x y:V)(htu:t≠u):∀g:Jl,ins t x (ins u y g)=ins u y (ins t x g)
 |[]=>by
  simp only[ins];rcases LA htu with h1|h1
  ·simp[h1,show¬u<t by omega,Ne.symm htu]
  ·simp[h1,show¬t<u by omega,htu]
 |(k,z)::l=>by
  have ih:=JKt t u x y htu l;rcases LH t k with h1|h1|h1<;>rcases LH u k with h2|h2|h2
  ·rcases LA htu with h3|h3
   ·simp[ins,h1,h2,h3,show¬u<t by omega,Ne.symm htu]
   ·simp[ins,h1,h2,h3,show¬t<u by omega,htu]
  ·subst h2;simp[ins,h1,show¬u<t by omega,Ne.symm htu]
  ·simp[ins,h1,show¬u<k by omega,show¬u=k by omega,show¬u<t by omega,Ne.symm htu]
  ·subst h1;simp[ins,h2,show¬t<u by omega,htu]
  ·omega
  ·subst h1;simp[ins,show¬u<t by omega,Ne.symm htu]
  ·simp[ins,h2,show¬t<k by omega,show¬t=k by omega,show¬t<u by omega,htu]
  ·subst h2;simp[ins,show¬t<u by omega,htu]
  ·simp[ins,show¬t<k by omega,show¬t=k by omega,show¬u<k by omega,show¬u=k by omega,ih]
theorem jD{d e:Option Nat}(x y:V)(h:∀t,d=some t->e≠some t):put d x (put e y g)=put e y (put d x g):=by
 cases d with
 |none=>rfl
 |some t=>cases e with
  |none=>rfl
  |some u=>exact JKt t u x y (λe=>h t rfl (by rw[e])) g
def opA(cx:Cx)(ops:Array Oper)(i:Nat)(s:St):Option St:=
 match ops[i]? with
 |none=>some s
 |some o=>
  match want ops s.1 o with
  |some true=>match Km cx s o with
   |some v=>some (put o.dst v s.1,s.2)
   |none=>none
  |some false=>if K5 o.op then none else some (put o.dst (.v undef) s.1,s.2)
  |none=>none
theorem Z2{ops:Array Oper}{o:Oper}{d:Option Nat}{v:V}(h:∀t,d=some t->t∉o.looksAt ops):want ops (put d v g) o=want ops g o:=by
 cases d with
 |none=>rfl
 |some t=>
  unfold want
  cases hg:o.guard with
  |none=>rfl
  |some p=>
   obtain⟨j,b⟩:=p;simp only
   cases hd:(ops[j]?).bind (·.dst)with
   |none=>rfl
   |some u=>
    have hne:u≠t:=λe=>h t rfl (by subst e;simp[Oper.looksAt,hg,hd])
    simp only[put,look_ins,if_neg hne]
theorem qU{ops:Array Oper}{o:Oper}{d:Option Nat}{v:V}(h':∀t,d=some t->t∉o.looksAt ops):Km cx (put d v g,h) o=Km cx (g,h) o:=by
 cases d with
 |none=>rfl
 |some t=>
  refine JJZ λx hx=>JOb λe=>h' t rfl ?_
  subst e;exact List.mem_append_left _ (List.mem_filterMap.2 ⟨.tmp t,by simpa using hx,rfl⟩)
theorem JKu{ops:Array Oper}{i j:Nat}{oi oj:Oper}(hi:ops[i]? =some oi)(hj:ops[j]? =some oj)(hap:oi.apart ops oj=true){s s1 s2:St}(h1:opA cx ops i s=some s1)(h2:opA cx ops j s1=some s2):
  ∃s1',opA cx ops j s=some s1'/\opA cx ops i s1'=some s2:=by
 obtain⟨a1,a2,a3⟩:=Oper.apart_spec hap;obtain⟨g,h⟩:=s
 have hstep:∀{k:Nat} {o:Oper},ops[k]? =some o->∀{s s':St},opA cx ops k s=some s'->∃v,s'=(put o.dst v s.1,s.2)/\ ∀(d:Option Nat) (u:V),(∀t,d=some t->t∉o.looksAt ops)->opA cx ops k (put d u s.1,s.2)=some (put o.dst v (put d u s.1),s.2):=by
  intro k o hk s s' hs;unfold opA at hs;rw[hk]at hs;simp only at hs
  split at hs
  ·rename_i hw
   split at hs
   ·rename_i v hv
    cases hs;refine⟨v,rfl,λd u hd=>?_⟩
    unfold opA;rw[hk];simp only[Z2 hd,hw,qU hd,hv]
   ·cases hs
  ·rename_i hw
   split at hs
   ·cases hs
   ·rename_i hna
    cases hs;refine⟨.v undef,rfl,λd u hd=>?_⟩
    unfold opA;rw[hk];simp only[Z2 hd,hw,hna];simp
  ·cases hs
 obtain⟨v,rfl,hiv⟩:=hstep hi h1
 have hj0:∃u,opA cx ops j (g,h)=some (put oj.dst u g,h)/\s2=(put oj.dst u (put oi.dst v g),h):=by
  unfold opA at h2;rw[hj]at h2;simp only[Z2 a1,qU a1]at h2
  split at h2
  ·rename_i hw
   split at h2
   ·rename_i u hu
    cases h2;exact⟨u,by unfold opA;rw[hj];simp only[hw,hu],rfl⟩
   ·cases h2
  ·rename_i hw
   split at h2
   ·cases h2
   ·rename_i hna
    cases h2;exact⟨.v undef,by unfold opA;rw[hj];simp only[hw,hna];simp,rfl⟩
  ·cases h2
 obtain⟨u,hu1,rfl⟩:=hj0;refine⟨_,hu1,?_⟩
 rw[hiv oj.dst u a3];rw[jD v u a2]
def JSi(cx:Cx)(md:Dv)(ops:Array Oper)(n:Nat)(L:Array Bool->St->Prop):Nat->Array Bool->St->Prop
 |0,listed,s=>L listed s
 |f+1,listed,s=>Region.ready md ops listed≠[]/\ ∀i∈Region.ready md ops listed,i<n/\ ∃s',opA cx ops i s=some s'/\JSi cx md ops n L f (listed.setIfInBounds i true) s'
theorem JM5{md:Dv}{ops:Array Oper}{n i:Nat}{oi:Oper}{L:Array Bool->St->Prop}(hi:ops[i]? =some oi)
  (hsc:n<ops.size->Region.sinkB md ops n=true/\Region.chainB md ops n=true)(hn:n<=ops.size)(hin:i<n)(hdone:∀listed s,L listed s->∀j∈Region.ready md ops listed,n<=j):
  ∀(f:Nat) (listed:Array Bool) (s s1:St),HeadInv md ops n listed->
   (∀j oj,ops[j]? =some oj->j≠i->listed.getD j true=false->(∀e∈oj.after,Ds md e=true->e.on≠i)->oi.apart ops oj=true)->
   i∈Region.ready md ops listed->opA cx ops i s=some s1->
   JSi cx md ops n L f (listed.setIfInBounds i true) s1->JSi cx md ops n L (f+1) listed s:=by
 have hjn:∀(listed:Array Bool),HeadInv md ops n listed->i∈Region.ready md ops listed->∀j∈Region.ready md ops listed,j<n:=λlisted inv hr j hj=>by
  rcases Ay j n with h|h
  ·exact h
  ·rcases Ay n ops.size with h'|h'
   ·exact absurd hj (tail_waits (hsc h').1 (hsc h').2 h' inv _ i rfl hin (mem_ready.1 hr).1 j h)
   ·have:=(mem_ready.1 hj).2
    obtain⟨o,ho,_⟩:=this;have:=(AL.1 ho).1
    omega
 intro f
 induction f with
 |zero=>
  intro listed s s1 inv _ hr h1 H;refine⟨λh=>(by rw[h]at hr;cases hr),λj hj=>⟨hjn listed inv hr j hj,?_⟩⟩
  by_cases hji:j=i
  ·subst hji;exact⟨s1,h1,H⟩
  ·have:=hdone _ _ H j (ready_mono hj hji)
   have:=hjn listed inv hr j hj
   omega
 |succ f ih=>
  intro listed s s1 inv hfree hr h1 H;have hun:=(mem_ready.1 hr).1;refine⟨λh=>(by rw[h]at hr;cases hr),λj hj=>⟨hjn listed inv hr j hj,?_⟩⟩
  by_cases hji:j=i
  ·subst hji;exact⟨s1,h1,H⟩
  ·obtain⟨s2,h2,H2⟩:=(H.2 j (ready_mono hj hji)).2
   obtain⟨hjun,oj,hoj,hall⟩:=mem_ready.1 hj
   have hnot:∀e∈oj.after,Ds md e=true->e.on≠i:=λe he hb heq=>by have h1:=hall e he hb;rw[heq,getD_both hun]at h1;cases h1
   obtain⟨s1',hs1',hs2⟩:=JKu hi hoj (hfree j oj hoj hji hjun hnot) h1 h2;refine⟨s1',hs1',?_⟩
   have hfree':∀k ok,ops[k]? =some ok->k≠i->(listed.setIfInBounds j true).getD k true=false->
     (∀e∈ok.after,Ds md e=true->e.on≠i)->oi.apart ops ok=true:=λk ok hk hki hun hno=>by
    refine hfree k ok hk hki ?_ hno
    by_cases hjk:j=k
    ·subst hjk;exact hjun
    ·rw[getD_set_ne true hjk]at hun;exact hun
   refine ih (listed.setIfInBounds j true) s1' s2 (inv.set hj (hjn listed inv hr j hj)) hfree' (ready_mono hr (Ne.symm hji)) hs2 ?_
   rw[DY _ _ hji];exact H2
theorem JJa{ops:Array Oper}{o:Oper}{l:List Oper}{k:Nat}{s s':St}(hk:ops[k]? =some o)(he:J3 cx ops (o::l) s=some s'):∃s1,opA cx ops k s=some s1/\J3 cx ops l s1=some s':=by
 simp only[J3]at he;unfold opA;rw[hk];simp only
 split at he
 ·rename_i hw
  split at he
  ·rename_i v hv
   exact⟨_,by simp only[hw,hv],he⟩
  ·cases he
 ·rename_i hw
  split at he
  ·cases he
  ·rename_i hna
   exact⟨_,by simp only[hw,hna];simp,he⟩
 ·cases he
theorem yX{md:Dv}{ops:Array Oper}{n gg:Nat}{s':St}(hsc:n<ops.size->Region.sinkB md ops n=true/\Region.chainB md ops n=true)(hn:n<=ops.size):
  ∀(l:List Oper) (k:Nat) (listed:Array Bool) (s:St),(∀j,j<l.length->l[j]? =ops[k+j]?)->k+l.length=n->HeadInv md ops n listed->
  Region.lexHead md ops gg l.length k listed=true->J3 cx ops l s=some s'->
  JSi cx md ops n (λlisted' s2=>Region.seqB md ops gg n listed'=true/\s2=s') l.length listed s
 |[],k,listed,s,_,hk,_,hB,h=>by
  have:k=n:=by simpa using hk
  subst this;simp only[J3,Ah]at h
  exact⟨by simpa[Region.lexHead]using hB,h⟩
 |o::l,k,listed,s,hl,hk,inv,hB,h=>by
  have h0:ops[k]? =some o:=by simpa using(hl 0 (by simp)).symm
  simp only[Ae,Region.lexHead,Af]at hB;obtain⟨⟨hr,hf⟩,hB'⟩:=hB;have hkn:k<n:=by simp only[Ae]at hk;omega
  have hr':k∈Region.ready md ops listed:=by simpa using hr
  obtain⟨s1,h1,h2⟩:=JJa h0 h
  exact JM5 h0 hsc hn hkn (λlisted' s2 hL=>seqB_ready hL.1) l.length listed s s1 inv (Region.free_spec h0 hf) hr' h1
   (yX hsc hn l (k+1) _ _ (λj hj=>by have:=hl (j+1) (by simp;omega);simpa[CO,Nat.add_comm 1 j]using this) (by simp only[Ae]at hk;omega) (inv.set hr' hkn) hB' h2)
structure Closed(ops:Array Oper)(listed:Array Bool):Prop where
 size:listed.size=ops.size
 closed:∀j oj,ops[j]? =some oj->listed.getD j false=true->∀e∈oj.after,Ds .any e=true->listed.getD e.on false=true
theorem JWC(ops:Array Oper):Closed ops (Array.replicate ops.size false):=
 ⟨by simp,λj oj _ hl=>(by rw[getD_replicate_false]at hl;cases hl)⟩
theorem Closed.set{ops:Array Oper}{listed:Array Bool}{i:Nat}(inv:Closed ops listed)(hi:i∈Region.ready .any ops listed):Closed ops (listed.setIfInBounds i true):=by
 obtain⟨_,oi,hoi,hall⟩:=mem_ready.1 hi;refine⟨by simp[inv.size],λj oj hj hl e he hb=>?_⟩
 by_cases hij:i=j
 ·subst hij
  have:oj=oi:=Bh (hj.symm.trans hoi);subst this;exact getD_set_true (hall e he hb)
 ·rw[getD_set_ne false hij]at hl
  exact getD_set_true (inv.closed j oj hj hl e he hb)
theorem yY{ops:Array Oper}{k:Nat}{listed:Array Bool}(inv:Closed ops listed)(hk:listed.getD k true=false):∀j∈behind ops k,listed.getD j false=false/\j∉Region.ready .any ops listed:=by
 have step:∀(l acc:List Nat),(∀j∈acc,listed.getD j false=false/\j∉Region.ready .any ops listed)->
   ∀j∈l.foldl (λacc j=>match ops[j]? with
    |some o=>if o.after.any (λe=>Ds .any e&&(e.on==k||acc.contains e.on))then j::acc else acc
    |none=>acc) acc,listed.getD j false=false/\j∉Region.ready .any ops listed:=by
  intro l
  induction l with
  |nil=>intro acc hacc;exact hacc
  |cons x l ih=>
   intro acc hacc;rw[List.foldl_cons];refine ih _ ?_
   split
   ·rename_i o ho
    split
    ·rename_i hany
     intro j hj;rcases List.mem_cons.1 hj with rfl|hj
     ·obtain⟨e,he,hb⟩:=Array.any_eq_true'.1 hany
      simp only[Af,AU,beq_iff_eq,C9]at hb
      have hoff:listed.getD e.on false=false:=by
       rcases hb.2 with h1|h1
       ·rw[h1];exact getD_both hk
       ·exact(hacc _ h1).1
      refine⟨?_,λhr=>?_⟩
      ·cases hl:listed.getD j false with
       |false=>rfl
       |true=>have:=inv.closed j o ho hl e he hb.1;rw[hoff]at this;cases this
      ·obtain⟨_,o',ho',hall⟩:=mem_ready.1 hr
       have:o'=o:=Bh (ho'.symm.trans ho);subst this;have:=hall e he hb.1;rw[hoff]at this;cases this
     ·exact hacc j hj
    ·exact hacc
   ·exact hacc
 exact step _ [] (λj hj=>by cases hj)
def JKv(cx:Cx)(mx:Mix)(ops:Array Oper)(K:St->Prop):Nat->Array Bool->St->Prop
 |0,listed,s=>Region.ready .any ops listed=[]/\K s
 |f+1,listed,s=>(∃k r,JBg cx.P cx.lo cx.base k ops s=some r/\K r/\JD9 mx ops k (f+1) listed=true)\/
  (Region.ready .any ops listed≠[]/\ ∀i∈Region.ready .any ops listed,∃s',Qa cx mx ops i s=some s'/\JKv cx mx ops K f (listed.setIfInBounds i true) s')
theorem Z3{mx:Mix}{ops:Array Oper}{k:Nat}{o:Oper}(ho:ops[k]? =some o)(hk:mx.heads.contains k=true)(s:St):Qa cx mx ops k s=opA cx ops k s:=by unfold Qa opA;rw[ho];simp only[hk,if_true,J3];rfl
def JM6(mx:Mix)(ops:Array Oper)(ok:Oper)(j:Nat)(oj:Oper):Prop:=
 (mx.heads.contains j=true\/(mx.heads.contains j=false/\mx.takes.contains j=false/\jh ok.op=true/\JBG oj.op=true))/\ok.apart ops oj=true
theorem JDr{mx:Mix}{ops:Array Oper}{listed:Array Bool}{k:Nat}(h:yM mx ops listed k=true):∃ok,ops[k]? =some ok/\mx.heads.contains k=true/\
  ∀j oj,ops[j]? =some oj->j≠k->listed.getD j true=false->j∈behind ops k\/JM6 mx ops ok j oj:=by
 unfold yM at h
 split at h
 ·cases h
 ·rename_i ok hok
  simp only[Af,Ak,List.mem_range]at h;refine⟨ok,hok,h.1,λj oj hj hne hun=>?_⟩
  have h1:=h.2 j (AL.1 hj).1
  simp only[hj,AU,beq_iff_eq,hne,false_or,hun,Al,C9,Af,BX]at h1;rcases h1 with h1|⟨h1,h2⟩
  ·exact .inl h1
  ·refine .inr ⟨?_,h2⟩
   cases hh:mx.heads.contains j with
   |true=>exact .inl rfl
   |false=>
    rcases h1 with h1|h1
    ·have:mx.heads.contains j=true:=by simpa using h1
     rw[hh]at this;cases this
    ·exact .inr ⟨rfl,h1.1.1,h1.1.2,h1.2⟩
theorem JWD{h z:JG}{b:Nat}{cs:List V}(hc:cellsOfOb h b=some cs):cellsOfOb (h++z) b=some cs:=by
 unfold cellsOfOb at hc⊢;rcases Ay b h.length with hb|hb
 ·rw[Bd hb];exact hc
 ·rw[List.getElem?_eq_none hb]at hc;cases hc
theorem JP6{P:Program}{h z:JG}{t:TypeId}{a v:V}(hl:YY P h t a=some v):YY P (h++z) t a=some v:=by
 unfold YY at hl⊢
 cases a with
 |ptr b o=>
  simp only at hl⊢
  cases hc:cellsOfOb h b with
  |none=>rw[hc]at hl;cases hl
  |some cs=>rw[JWD hc];rw[hc]at hl;exact hl
 |_=>exact hl
theorem JM7{o:Oper}(hp:jh o.op=true){g:Jl}{h z:JG}{v:V}(he:Km cx (g,h) o=some v):Km cx (g,h++z) o=some v:=by
 unfold Km at he⊢;generalize o.op=op at hp he⊢;cases op
 case call c=>
  have hc:c.callee= .builtin .len:=by
   simp only[jh]at hp
   split at hp
   ·assumption
   ·cases hp
  have hne:WC cx.P (.call c)=false:=by simp[WC,hc]
  rw[if_neg (by rw[hne];decide)]at he⊢
  simp only[Jd,hc]at he⊢;exact he
 all_goals simp only[jh,Al]at hp<;>simp only[WC,Al,if_false,Jd]at he⊢ <;>first|exact he|exact JP6 he
theorem JM8{ops:Array Oper}{i:Nat}{oi oj:Oper}(hi:ops[i]? =some oi)(hp:jh oi.op=true)(hal:JBG oj.op=true)(hap:oi.apart ops oj=true){s s1 s2:St}
  (h1:opA cx ops i s=some s1)(h2:KL cx ops [oj] s1=some s2):∃s1',KL cx ops [oj] s=some s1'/\opA cx ops i s1'=some s2:=by
 obtain⟨a1,a2,a3⟩:=Oper.apart_spec hap;obtain⟨g,h⟩:=s
 have hstep:∃v,s1=(put oi.dst v g,h)/\ ∀(u:V) (z:JG),opA cx ops i (put oj.dst u g,h++z)=some (put oi.dst v (put oj.dst u g),h++z):=by
  unfold opA at h1;rw[hi]at h1;simp only at h1
  split at h1
  ·rename_i hw
   split at h1
   ·rename_i v hv
    cases h1;refine⟨v,rfl,λu z=>?_⟩
    unfold opA;rw[hi];simp only[Z2 a3,hw,qU a3,JM7 hp hv]
   ·cases h1
  ·rename_i hw
   split at h1
   ·cases h1
   ·rename_i hna
    cases h1;refine⟨.v undef,rfl,λu z=>?_⟩
    unfold opA;rw[hi];simp only[Z2 a3,hw,hna];simp
  ·cases h1
 obtain⟨v,rfl,hiv⟩:=hstep
 cases hop:oj.op with
 |alloc t=>
  have hE:∃A:Option Ob,∀(g:Jl),YA cx (g,h) oj=A.map λz=>(.ptr h.length 0,(g,h++[z])):=by
   cases hm:(cx.hint.mode oj.dst==4)with
   |false=>
    cases hz:K4 cx.P t with
    |none=>exact⟨none,λg=>by unfold YA;rw[hop];simp only[Gw,hm,Al,if_false,WC,if_true,KX,hz];rfl⟩
    |some z=>
     by_cases hs:((z.map Kd).all Qs&&JAw t (z.map Kd))=true
     ·exact⟨some (.cells ((z.map Kd).map own1)),λg=>by unfold YA;rw[hop];simp only[Gw,hm,Al,if_false,WC,if_true,KX,hz,hs];rfl⟩
     ·exact⟨none,λg=>by unfold YA;rw[hop];simp only[Gw,hm,Al,if_false,WC,if_true,KX,hz];rw[if_neg hs]<;>rfl⟩
   |true=>
    cases hz:K4 cx.P t with
    |none=>exact⟨none,λg=>by unfold YA;rw[hop];simp only[Gw,hm,if_true,GS,hz];rfl⟩
    |some z=>
     by_cases hs:((z.map Kd).all Qs&&JAw t (z.map Kd))=true
     ·exact⟨some (.cells (z.map Kd)),λg=>by unfold YA;rw[hop];simp only[Gw,hm,if_true,GS,hz,hs];rfl⟩
     ·exact⟨none,λg=>by unfold YA;rw[hop];simp only[Gw,hm,if_true,GS,hz];rw[if_neg hs]<;>rfl⟩
  obtain⟨A,hE⟩:=hE;have hna:K5 oj.op=false:=by rw[hop]<;>rfl
  simp only[KL,Z2 a1,hE,hna]at h2;simp only[KL,hE,hna]
  cases hw:want ops g oj with
  |none=>rw[hw]at h2;cases h2
  |some b=>
   rw[hw]at h2
   cases b with
   |true=>
    cases A with
    |none=>cases h2
    |some z=>
     simp only[AK]at h2⊢;cases h2
     exact⟨_,rfl,by rw[hiv];rw[jD _ _ a2]⟩
   |false=>
    simp only[Al,if_false]at h2⊢;cases h2;refine⟨_,rfl,?_⟩
    have:=hiv (.v undef) [];rw[AE]at this
    rw[this,jD _ _ a2]
 |makeSlice t n k=>
  have hE:∃A:Option (V×Ob),YA cx (g,h) oj=A.map (λz=>(z.1,(g,h++[z.2])))/\YA cx (put oi.dst v g,h) oj=A.map (λz=>(z.1,(put oi.dst v g,h++[z.2]))):=by
   have hn:∀x∈oj.op.operands,opd (put oi.dst v g) x=opd g x:=λx hx=>by
    cases hd:oi.dst with
    |none=>rfl
    |some t=>exact JOb λe=>a1 t hd (by subst e;simp[Oper.looksAt];exact .inl ⟨_,hx,rfl⟩)
   have e1:=hn n (by rw[hop];simp[Dk])
   have e2:=hn k (by rw[hop];simp[Dk])
   unfold YA;rw[hop];simp only[Gw,if_true,GS,e1,e2]
   split
   ·split
    ·split
     ·exact⟨some (_,_),rfl,rfl⟩
     ·exact⟨none,rfl,rfl⟩
    ·exact⟨none,rfl,rfl⟩
   ·exact⟨none,rfl,rfl⟩
  obtain⟨A,hE1,hE2⟩:=hE;have hna:K5 oj.op=false:=by rw[hop]<;>rfl
  simp only[KL,Z2 a1,hE2,hna]at h2;simp only[KL,hE1,hna]
  cases hw:want ops g oj with
  |none=>rw[hw]at h2;cases h2
  |some b=>
   rw[hw]at h2
   cases b with
   |true=>
    cases A with
    |none=>cases h2
    |some z=>
     simp only[AK]at h2⊢;cases h2
     exact⟨_,rfl,by rw[hiv];rw[jD _ _ a2]⟩
   |false=>
    simp only[Al,if_false]at h2⊢;cases h2;refine⟨_,rfl,?_⟩
    have:=hiv (.v undef) [];rw[AE]at this
    rw[this,jD _ _ a2]
 |_=>rw[hop]at hal;cases hal
theorem JAi{mx:Mix}{ops:Array Oper}{k:Nat}{o:Oper}(ho:ops[k]? =some o)(hk:mx.heads.contains k=false)(ht:mx.takes.contains k=false)(s:St):Qa cx mx ops k s=KL cx ops [o] s:=by unfold Qa;rw[ho];simp only[hk,ht,Al,if_false]
theorem JM9{mx:Mix}{ops:Array Oper}{k:Nat}{ok:Oper}{K:St->Prop}(hk:ops[k]? =some ok)(hkh:mx.heads.contains k=true):
  ∀(f:Nat) (listed:Array Bool) (s s1:St),Closed ops listed->
   (∀j oj,ops[j]? =some oj->j≠k->listed.getD j true=false->j∈behind ops k\/JM6 mx ops ok j oj)->
   k∈Region.ready .any ops listed->Qa cx mx ops k s=some s1->JKv cx mx ops K f (listed.setIfInBounds k true) s1->JKv cx mx ops K (f+1) listed s:=by
 intro f
 induction f with
 |zero=>
  intro listed s s1 inv hfree hr h1 H;refine .inr ⟨λh=>(by rw[h]at hr;cases hr),λj hj=>?_⟩
  by_cases hjk:j=k
  ·subst hjk;exact⟨s1,h1,H⟩
  ·have:=ready_mono hj hjk
   rw[H.1]at this
   cases this
 |succ f ih=>
  intro listed s s1 inv hfree hr h1 H;have hun:=(mem_ready.1 hr).1;refine .inr ⟨λh=>(by rw[h]at hr;cases hr),λj hj=>?_⟩
  by_cases hjk:j=k
  ·subst hjk;exact⟨s1,h1,H⟩
  ·rcases H with⟨k',r,_,_,hok⟩|H
   ·exfalso
    have hj2:=ready_mono hj hjk;simp only[JD9,Af,beq_iff_eq,BX]at hok;rw[hok.1.1.1.1.1.1]at hj2;have hjk':j=k':=by simpa using hj2
    subst hjk';obtain⟨hjun,oj,hoj,hall⟩:=mem_ready.1 hj;rcases hfree j oj hoj hjk hjun with hb|⟨hjh,hap⟩
    ·exact absurd hj (yY inv hun j hb).2
    ·have h3:=hok.1.1.1.1.2
     rw[hoj]at h3;simp only[BX]at h3;rcases hjh with hjh|⟨_,_,_,hal⟩
     ·rw[hok.1.1.1.1.1.2]at hjh;cases hjh
     ·rw[h3]at hal;cases hal
   obtain⟨s2,h2,H2⟩:=H.2 j (ready_mono hj hjk);obtain⟨hjun,oj,hoj,hall⟩:=mem_ready.1 hj;rcases hfree j oj hoj hjk hjun with hb|⟨hjh,hap⟩
   ·exact absurd hj (yY inv hun j hb).2
   ·rw[Z3 hk hkh]at h1
    have hsw:∃s1',Qa cx mx ops j s=some s1'/\opA cx ops k s1'=some s2:=by
     rcases hjh with hjh|⟨hjh,hjt,hp,hal⟩
     ·rw[Z3 hoj hjh]at h2
      obtain⟨s1',hs1',hs2⟩:=JKu hk hoj hap h1 h2;exact⟨s1',by rw[Z3 hoj hjh];exact hs1',hs2⟩
     ·rw[JAi hoj hjh hjt]at h2
      obtain⟨s1',hs1',hs2⟩:=JM8 hk hp hal hap h1 h2;exact⟨s1',by rw[JAi hoj hjh hjt];exact hs1',hs2⟩
    obtain⟨s1',hs1',hs2⟩:=hsw;refine⟨s1',hs1',?_⟩
    have hfree':∀i oi,ops[i]? =some oi->i≠k->(listed.setIfInBounds j true).getD i true=false->i∈behind ops k\/JM6 mx ops ok i oi:=λi oi hi hik hun=>by
     refine hfree i oi hi hik ?_
     by_cases hji:j=i
     ·subst hji;exact hjun
     ·rw[getD_set_ne true hji]at hun;exact hun
    refine ih (listed.setIfInBounds j true) s1' s2 (inv.set hj) hfree' (ready_mono hr (Ne.symm hjk)) (by rw[Z3 hk hkh];exact hs2) ?_
    rw[DY _ _ hjk];exact H2
def WeakV(v u:V):Prop:=u=v\/u= .undef\/(u= .any/\ ∃b,v= .v (.bool b))
theorem WeakV.trans{v u t:V}(h:WeakV v u)(h':WeakV u t):WeakV v t:=by
 rcases h' with rfl|rfl|⟨rfl,b,rfl⟩
 ·exact h
 ·exact .inr (.inl rfl)
 ·rcases h with h|h|⟨h,_⟩
  ·exact .inr (.inr ⟨rfl,b,h.symm⟩)
  ·cases h
  ·cases h
structure Weak(s s':St):Prop where
 env:∀t,WeakV (look s.1 t) (look s'.1 t)
 heap:s'.2=s.2
theorem Weak.refl(s:St):Weak s s:=⟨λ_=> .inl rfl,rfl⟩
theorem Weak.trans{s s' s'':St}(h:Weak s s')(h':Weak s' s''):Weak s s'':=⟨λt=>(h.env t).trans (h'.env t),h'.heap.trans h.heap⟩
theorem JNA{v u:V}:WeakV v (JAe v u)/\WeakV u (JAe v u):=by
 unfold JAe
 split
 ·rename_i e
  obtain rfl:=JMg _ _ e;exact⟨.inl rfl,.inl rfl⟩
 ·split
  ·rename_i hb
   have key:∀{x:V},ji x=true->WeakV x .any:=λ{x} hx=>by
    unfold ji at hx
    split at hx
    ·exact .inr (.inr ⟨rfl,_,rfl⟩)
    ·exact .inl rfl
    ·cases hx
   exact⟨key hb.1,key hb.2⟩
  ·exact⟨.inr (.inl rfl),.inr (.inl rfl)⟩
theorem qV:∀{g q r:Jl},Wc g q=some r->∀t,WeakV (look g t) (look r t)/\WeakV (look q t) (look r t)
 |[],[],r,h,t=>by
  simp only[Wc,Ah]at h;subst h
  exact⟨.inl rfl,.inl rfl⟩
 |(k,v)::g,(j,u)::q,r,h,t=>by
  simp only[Wc]at h
  split at h
  ·rename_i e
   subst e;rw[Ag]at h;obtain⟨r',hr,rfl⟩:=h;have ih:=qV hr t;simp only[look]
   split
   ·exact JNA
   ·exact ih
  ·cases h
 |[],_::_,r,h,t=>by simp[Wc]at h
 |_::_,[],r,h,t=>by simp[Wc]at h
theorem qW{x y:Option St}{s:St}(h:ko x y=some s):∃s1 s2,x=some s1/\y=some s2/\Weak s1 s/\Weak s2 s:=by
 unfold ko at h
 split at h
 ·rename_i s1 s2
  split at h
  ·rename_i e
   have e:=JMh _ _ e;rw[Ag]at h;obtain⟨g,hg,rfl⟩:=h;exact⟨s1,s2,rfl,rfl,⟨λt=>(qV hg t).1,rfl⟩,⟨λt=>(qV hg t).2,e⟩⟩
  ·cases h
 ·cases h
def JBy(cx:Cx)(id:Nat)(s':St)(s2:St):Prop:=∃(k:List Nat) (s1:St),kp cx.base (cx.hint.live id) (cx.hint.keep id) k s2=some s1/\Weak s1 s'
theorem jG{mx:Mix}{id:Nat}{ops:Array Oper}{s':St}:∀(T:Tr) (n:Nat) (listed:Array Bool) (s r:St),Closed ops listed->Jv cx mx id ops T s=some r->Weak r s'->
  (Jk mx ops T n true listed=true->JKv cx mx ops (JBy cx id s') n listed s)/\
  (Jk mx ops T n false listed=true->∀k∈T.firsts,k∈Region.ready .any ops listed->∃m,n=m+1/\ ∃s1,Qa cx mx ops k s=some s1/\JKv cx mx ops (JBy cx id s') m (listed.setIfInBounds k true) s1)
 | .fin,n,listed,s,r,inv,he,hw=>by
  simp only[Jv]at he;refine⟨λh=>?_,λh=>by simp[Jk]at h⟩
  simp only[Jk,Af,beq_iff_eq,CE]at h;obtain⟨⟨_,rfl⟩,hr⟩:=h
  exact⟨hr,[],r,he,hw⟩
 | .finS i,n,listed,s,r,inv,he,hw=>by
  simp only[Jv]at he;refine⟨λh=>?_,λh=>by simp[Jk]at h⟩
  simp only[Jk,Af,beq_iff_eq,CE]at h;obtain⟨⟨_,rfl⟩,hr⟩:=h
  exact⟨hr,[i],r,he,hw⟩
 | .finL l,n,listed,s,r,inv,he,hw=>by
  simp only[Jv]at he;refine⟨λh=>?_,λh=>by simp[Jk]at h⟩
  simp only[Jk,Af,beq_iff_eq,CE]at h;obtain⟨⟨_,rfl⟩,hr⟩:=h
  exact⟨hr,l,r,he,hw⟩
 | .head k t,n,listed,s,r,inv,he,hw=>by
  simp only[Jv]at he;refine⟨λh=>?_,λh=>?_⟩
  ·cases n with
   |zero=>simp[Jk]at h
   |succ n=>
    simp only[Jk,Af,C9]at h;obtain⟨⟨⟨_,hr⟩,hf⟩,ht⟩:=h;obtain⟨ok,hok,hkh,hfree⟩:=JDr hf
    split at he
    ·rename_i s1 h1
     exact JM9 hok hkh n listed s s1 inv hfree hr h1 ((jG t n _ s1 r (inv.set hr) he hw).1 ht)
    ·cases he
  ·cases n<;>simp[Jk]at h
 | .one k t,n,listed,s,r,inv,he,hw=>by
  simp only[Jv]at he
  have key:∀{top:Bool} {n:Nat},Jk mx ops (.one k t) n top listed=true->k∈Region.ready .any ops listed->∃m,n=m+1/\ ∃s1,Qa cx mx ops k s=some s1/\JKv cx mx ops (JBy cx id s') m (listed.setIfInBounds k true) s1:=λ{top n} h hr=>by
   cases n with
   |zero=>simp[Jk]at h
   |succ n=>
    simp only[Jk,Af]at h
    split at he
    ·rename_i s1 h1
     exact⟨n,rfl,s1,h1,(jG t n _ s1 r (inv.set hr) he hw).1 h.2⟩
    ·cases he
  refine⟨λh=>?_,λh j hj hr=>?_⟩
  ·have h0:=h
   cases n with
   |zero=>simp[Jk]at h
   |succ n=>
    simp only[Jk,Af,AU,AN,Al,false_or,BX,Dp,Ak,beq_iff_eq]at h;refine .inr ⟨h.1.1,λi hi=>?_⟩
    have:=h.1.2 i hi;subst this;obtain⟨m,hm,r⟩:=key h0 hi;cases hm;exact r
  ·simp only[Tr.firsts,A1]at hj
   subst hj
   exact key h hr
 | .alt a b,n,listed,s,r,inv,he,hw=>by
  simp only[Jv]at he;obtain⟨r1,r2,ha,hb,hw1,hw2⟩:=qW he
  have key:∀{top:Bool},Jk mx ops (.alt a b) n top listed=true->∀k∈a.firsts++b.firsts,k∈Region.ready .any ops listed->∃m,n=m+1/\ ∃s1,Qa cx mx ops k s=some s1/\JKv cx mx ops (JBy cx id s') m (listed.setIfInBounds k true) s1:=λ{top} h k hk hr=>by
   simp only[Jk,Af]at h;rcases AO.1 hk with hk|hk
   ·exact(jG a n listed s r1 inv ha (hw1.trans hw)).2 h.1.2 k hk hr
   ·exact(jG b n listed s r2 inv hb (hw2.trans hw)).2 h.2 k hk hr
  refine⟨λh=>?_,λh j hj hr=>key h j hj hr⟩
  have h0:=h;simp only[Jk,Af,AU,AN,Al,false_or,BX,Dp,Ak,C9]at h;obtain⟨i0,l,hl⟩:=List.exists_cons_of_ne_nil h.1.1.1;obtain⟨m,hm,_⟩:=key h0 i0 (h.1.1.2 i0 (by rw[hl];simp)) (by rw[hl];simp)
  subst hm;refine .inr ⟨h.1.1.1,λi hi=>?_⟩
  obtain⟨m',hm',r⟩:=key h0 i (h.1.1.2 i hi) hi;cases hm'
  exact r
 | .two k,n,listed,s,r,inv,he,hw=>by
  simp only[Jv]at he;refine⟨λh=>?_,λh=>by simp[Jk]at h⟩
  simp only[Jk,Bool.true_and]at h
  split at he
  ·rename_i s1 h1
   have h0:=h;simp only[JD9,Af,decide_eq_true_eq,beq_iff_eq]at h0;obtain⟨n',rfl⟩:∃n',n=n'+1:=⟨n-1,by have:=h0.1.1.2;have:=h0.1.1.1.2;omega⟩
   exact .inl ⟨k,s1,h1,⟨[],r,he,hw⟩,h⟩
  ·cases he
end
end Go.Lift
end
