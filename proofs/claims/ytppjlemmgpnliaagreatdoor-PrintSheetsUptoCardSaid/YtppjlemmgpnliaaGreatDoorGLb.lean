/- The lifting: values, states, evaluation, and that it is sound. -/
import Derived.Laws.IdiomStrings
import Derived.Laws.MakeOwn
import Derived.Test.YtppjlemmgpnliaaGreatDoorGLa
open Array renaming append_assoc->LZ,getD_eq_getD_getElem? ->BT,getElem?_append_left->BL,getElem?_eq_getElem->BQ,getElem?_eq_some_iff->AX,getElem?_modify->CE,getElem?_push->B7,getElem?_toList->BF,length_toList->AU,mem_append->Mi,mem_toList_iff->C5,setIfInBounds_comm->Lk,size_append->C1,toArray_toList->Cm,toList_append->Dy,toList_map->B5
open Bool renaming and_eq_true->Af,and_true->Cz,false_eq_true->Am,not_eq_true'->Ce,not_false->DH,not_true->Dt,or_eq_true->A7,or_eq_true_iff->LO
open Go.Op renaming operands->Dw
open Go.Program renaming bytesOf->DA,cellsOf->Bx
open Go.Region renaming Mode->DK,binds->DE,wanted->BX
open Go.Result renaming andThen_ok->Bk
open Go.Sem renaming run_bind->BB,run_pure->Dl
open Go.World renaming cell? ->DJ,freeze->LX,frozen? ->B4,setCell->LG
open List renaming all_cons->Bg,all_eq_true->As,all_nil->Dm,any_eq_true->Mf,append_assoc->Ao,append_nil->Av,contains_iff_mem->CY,drop_eq_nil_of_le->Bo,eq_nil_of_length_eq_zero->AC,exists_mem_of_ne_nil->Cr,flatten_cons->C0,getElem?_append->B9,getElem?_append_left->Bj,getElem?_append_right->AZ,getElem?_cons_succ->CM,getElem?_cons_zero->BP,getElem?_drop->Bm,getElem?_eq_getElem->Ac,getElem?_eq_some_iff->Ad,getElem?_map->Ax,getElem?_set->BK,getElem?_take->AK,getElem?_toArray->Cs,getElem_inj->DR,getElem_mem->Ba,getElem_of_mem->A8,isEmpty_eq_false_iff->DB,isEmpty_iff->Dq,length->AW,length_append->Ah,length_cons->Ae,length_drop->Ay,length_map->Ag,length_nil->An,length_set->Ca,length_take->AM,map_congr_left->A4,map_cons->A3,map_map->Cn,mem_append->AN,mem_cons_of_mem->Bt,mem_map->AP,mem_of_getElem? ->Ar,mem_or_eq_of_mem_set->C4,mem_singleton->Bp,nil_append->Ai,nodup_cons->D0,range->Bq,set_eq_take_append_cons_drop->C7,size_toArray->Cf,take_append_of_le_length->CL,take_of_length_le->B2,take_set_of_le->Da,take_take->DG
open Nat renaming add_assoc->Dd,add_mul->Bf,add_sub_cancel_left->BE,add_zero->BH,div_add_mod->Lp,div_lt_of_lt_mul->DX,le_refl->Ab,le_trans->AY,lt_irrefl->De,lt_of_lt_of_le->Cu,lt_or_ge->AG,lt_or_gt_of_ne->L2,lt_trichotomy->L7,min_eq_left->Ci,mod_eq_of_lt->Mh,mod_lt->DY,mul_comm->C8,mul_le_mul_left->D9,mul_le_mul_right->AH,zero_add->AE,zero_le->A9,zero_mul->Lj
open Option renaming isSome_iff_exists->Bi,map_eq_some_iff->Ak,map_some->A6
open Option.some renaming inj->Bs,injEq->Aj
open Prod.mk renaming injEq->AL
set_option linter.unusedVariables false
set_option linter.unusedSimpArgs false
set_option linter.unusedSectionVars false
section
namespace Go.Lift
variable[GTab][BTy]
def Does(P:Program)(w:World)(a:Act)(o:Oper)(x:Value)(w':World):Prop:=
 (execOp a.eval o).run P w= .ok (.value x) w'\/((execOp a.eval o).run P w= .ok .skip w'/\x=undef)
theorem Qj{P:Program}{w w':World}{a:Act}{o:Oper}{s:Sem Value}{x:Value}(he:execOp a.eval o=(do pure (Next.value (<-s))))(hs:s.run P w= .ok x w'):Does P w a o x w':=by
 refine .inl ?_
 rw[he,BB,hs]<;>rfl
section
variable{P:Program}{vars:List Nat}{m:List Nat}{c:Cl}{w:World}{g:Jj}{h:JC}{a:Act}{E:Entry}
def Done(P:Program)(vars:List Nat)(E:Entry)(w:World)(a:Act)(o:Oper)(v:V)(g':Jj)(h':JC):Prop:=
 ∃x w' m' c',Does P w a o x w'/\InvP vars E m' c' w' (put o.dst v g') h' (a.put o.dst x)
theorem Gj{u:Nat}{q r:List (List V)}{l:Loc}{x:Value}(hl:At m w (Lift.untag (Lift.ins u (.list .no q) g)) h a l r x):l≠ .slot u/\At m w g h a l r x:=by
 cases l with
 |slot t=>
  obtain⟨h1,h2⟩:=hl;rw[Jp,Qo,Jy]at h1
  split at h1
  ·cases h1
  ·rename_i ht
   exact⟨λe=>ht (by cases e;rfl),h1,h2⟩
 |cell i j=>exact⟨λe=>(by cases e),hl⟩
theorem JJX{r:List (List V)}{l:Loc}{x:Value}(hl:At m w (Lift.untag g) h a l r x):At m w g h a l r x:=by
 cases l with
 |slot t=>exact⟨Qo.1 (by rw[<-Jp];exact hl.1),hl.2⟩
 |cell i j=>exact hl
theorem Wv(t i j:Nat)(r:List (List V)):look (untag g) t≠ .list (.cell i j) r:=λht=>by rw[Jp]at ht;have:=Yz ht;simp at this
theorem jX(v:V)(r:List (List V)):V.list .yes r∉cellsV (cps v):=by
 cases v with
 |agg cs=>
  simp only[cps,cellsV,AP,not_exists,not_and];intro x _ hx
  cases x<;>simp[cp]at hx
 |_=>simp[cps,cp,cellsV]
theorem JOZ(y:Value)(r:List (List V)):V.list .yes r∉cellsV (ofC y):=by
 have h1:∀z,KW z≠ .list .yes r:=λz hz=>by
  unfold KW at hz
  split at hz
  ·cases hz
  ·split at hz<;>cases hz
  ·cases hz
 unfold ofC
 split
 ·simp only[cellsV,AP,not_exists,not_and]
  intro z _;exact h1 z
 ·have:∀z,cellsV (KW z)=[KW z]:=λz=>by
   unfold KW
   split
   ·rfl
   ·split<;>rfl
   ·rfl
  rw[this];simp only[Bp];exact λe=>h1 _ e.symm
theorem Gk(hI:InvP vars E m c w g h a)(x:Operand):
  (bare (Jk g x).1=true/\VRr m c w (Jk g x).1 (a.eval x)/\(Jk g x).2=g/\ ∀r,V.list .yes r∉cellsV (Jk g x).1)\/
  (∃t r,x= .tmp t/\look g t= .list .yes r/\(Jk g x).1= .list .yes r/\(Jk g x).2=Lift.ins t (.list .no r) g/\VRr m c w (.list .yes r) (a.eval x)/\At m w g h a (.slot t) r (a.eval x)):=by
 cases x with
 |tmp t=>
  have he:=hI.core.env t
  cases hl:look g t with
  |list k r=>
   cases k with
   |yes=>
    right
    rw[hl]at he
    exact⟨t,r,rfl,hl,by simp[Jk,hl],by simp[Jk,hl],he,hl,rfl⟩
   |_=>
    left
    rw[hl]at he;simp only[Jk,hl]
    exact⟨rfl,VRr.cps he,trivial,jX (.list _ r)⟩
  |_=>
   left
   rw[hl]at he;simp only[Jk,hl]
   exact⟨Yw _,VRr.cps he,trivial,jX _⟩
 |const v=>exact .inl ⟨JJR v,hI.core.opd (.const v),rfl,JOZ v⟩
 |global n=>
  refine .inl ⟨?_,hI.core.opd (.global n),rfl,λr=>?_⟩
  ·simp only[Jk,opd]
   split<;>rfl
  ·simp only[Jk,opd]
   split<;>simp[cellsV]
 |func f=>exact .inl ⟨rfl,hI.core.opd (.func f),rfl,λr=>by simp[Jk,opd,cellsV]⟩
theorem InvP.putBare{E:Entry}(hI:InvP vars E m c w g h a){d:Option Nat}{v:V}{x:Value}(hd:∀t,d=some t->t<E.nt)(hv:VRr m c w v x)(hb:bare v=true)
  (hno:(∀t,d=some t->t∉vars)\/(∀t' u r,look g t'≠ .list (.slot u) r)):InvP vars E m c w (Lift.put d v g) h (a.put d x):=
 hI.put hd hv (TagOK.bare hb) (hno.imp id λh1=>⟨h1,hb⟩)
theorem InvP.putOwn{E:Entry}(hI:InvP vars E m c w g h a){d:Option Nat}{r:List (List V)}{x:Value}(hd:∀t,d=some t->t<E.nt)(hv:VRr m c w (.list .yes r) x)
  (ho:OwnB m c w r x)(hu:∀l r' x' b,At m w g h a l r' x'->Jo x=some b->Jo x'≠some b)(hE:∀b,Jo x=some b->E.w.heap.size<=b\/E.ho b)
  (hno:(∀t,d=some t->t∉vars)\/(∀t' u r,look g t'≠ .list (.slot u) r)):InvP vars E m c w (Lift.put d (.list .yes r) g) h (a.put d x):=by
 cases d with
 |none=>exact hI
 |some t=>
  refine hI.ins (hd t rfl) hv (λq e=>?_) (λu q e=>(by cases e)) (λi j q e=>(by cases e)) (hno.imp (λh1=>h1 t rfl) id)
  cases e;exact⟨⟨ho,λl r' x' b _ hl hb=>hu l r' x' b hl hb⟩,hE⟩
theorem JLc(hI:InvP vars E m c w g h a){o:Oper}{x:Operand}(ho:o.op= .assign x)(hd:∀t,o.dst=some t->t<E.nt):
  Done P vars E w a o (own1 (Jk g x).1) (Lift.untag (Jk g x).2) h:=by
 have hr:Does P w a o (a.eval x) w:= .inl (by simp[execOp,ho])
 rcases Gk hI x with⟨hb,hv,hg,hny⟩|⟨t,r,rfl,hl,h1,h2,hv,hat⟩
 ·rw[hg]
  by_cases hn:(Jk g x).1= .nil
  ·rw[hn]at hv⊢
   have hv':a.eval x= .slice none 0 0:=hv;rw[hv']at hr;exact⟨_,_,m,c,hr,hI.untag.putOwn hd (.empty _ _ _) (.inl ⟨rfl,rfl⟩) (λ_ _ _ _ _ hb=>by cases hb) (λ_ hb=>by cases hb) (.inr λt u r=>Wa t u r)⟩
  ·have:own1 (Jk g x).1=(Jk g x).1:=by cases hq:(Jk g x).1<;>first|rfl|exact absurd hq hn
   rw[this];exact⟨_,_,m,c,hr,hI.untag.putBare hd hv hb (.inr λt u r=>Wa t u r)⟩
 ·rw[h1,h2]
  refine⟨_,_,m,c,hr,(hI.release hl).putOwn hd hv (hI.core.own _ _ _ hat) (λl r' x' b hl' hb hb'=>?_) (λb hb=>hI.owned _ _ _ b hat trivial hb) (.inr λt u r=>Wa t u r)⟩
  obtain⟨n1,hl''⟩:=Gj hl';exact n1 (hI.core.uniq l (.slot t) r' r x' _ b hl'' hat hb' hb)
theorem Qw{cs:List V}:Zg cs=true↔ ∃x,cs[0]? =some x/\QK x=true:=by
 match cs with
 |[]=>simp[Zg]
 |x::l=>simp[Zg]
theorem YG(v:V):QK (Lift.own1 v)=QK v:=by cases v<;>rfl
theorem JBl(cs:List V):Zg (cs.map Lift.own1)=Zg cs:=by
 match cs with
 |[]=>rfl
 |x::l=>exact YG x
theorem JHB{t:TypeId}{cs:List V}(hb:JBN t cs=true):∀T,JBM cs.length=some T->Zg cs=true->t=T:=λT hT hc=>by
 unfold JBN at hb;rw[hT]at hb;simp only[A7,beq_iff_eq,Ce]at hb;rcases hb with hb|hb
 ·rw[hb]at hc;cases hc
 ·exact hb
theorem WG(hI:InvP vars E m c w g h a){cs:List V}{arr:Array Value}{e:TypeId}{f:Nat×Nat}{w':World}(hw:w'.heap=w.heap.push (.cells arr e f))(hos:w'.os=w.os)(htape:w'.tape=w.tape)(hout:w'.output=w.output)
  (hf:∀j,j<cs.length->¬(f.1<=j/\j<f.2))(hle:cs.length<=arr.size)(hrel:∀(j:Nat) v x,cs[j]? =some v->arr[j]? =some x->VR1 m c w v x/\x.oneCell'=true)
  (hno:∀(j:Nat) (r:List (List V)),cs[j]? =some (.list .yes r)->r=[]/\arr[j]? =some (.slice none 0 0))(hbt:∀T,JBM cs.length=some T->Zg cs=true->e=T/\arr.size=cs.length):InvP vars E (m++[w.heap.size]) c w' g (h++[.cells cs]) a:=by
 have hnew:w'.heap[w.heap.size]? =some (.cells arr e f):=by rw[hw];simp
 have hold:∀b,b<w.heap.size->w'.heap[b]? =w.heap[b]? :=λb hb=>by rw[hw,B7];simp[show¬b=w.heap.size by omega]
 have hext:Ext c w c w':=⟨λ_=>Ab _,λb o ho=>by
  rcases AG b w.heap.size with hb|hb
  ·exact JR (hold b hb) o
  ·rw[hI.core.c_zero hb]at ho;omega,λb _=>Shp.old hold b⟩
 refine hI.grow ⟨by rw[hw];simp,hold,λ_ _=>rfl,λb hb h0=>?_,λb hb=>?_,by simp,rfl,λi o b ho hb=>?_,Ab _,λi cs' j r b ho hj hb=>?_,hos,htape,hout⟩
 ·rw[hI.core.c_zero hb]at h0;omega
 ·simp at hb;subst hb;exact⟨Ab _,hI.core.c_zero (Ab _)⟩
 ·cases i with
  |zero=>
   simp at ho hb;subst ho;subst hb;refine⟨arr,e,f,hnew,hle,λj hj=>?_,λj v x hv hx=>⟨(hrel j v x hv hx).1.mono (Pre.append m _) hext,(hrel j v x hv hx).2⟩,hbt⟩
   have:=hf j hj;simp only[B4,hnew]
   simpa using this
  |succ i=>simp at ho
 ·cases i with
  |zero=>
   simp at ho hb;subst ho;subst hb;obtain⟨k1,k2⟩:=hno j r hj;refine⟨k1,?_⟩
   simp only[DJ,hnew]
   simpa using k2
  |succ i=>simp at ho
theorem JA3{w':World}(hl:m.length=h.length):VRr (m++[w.heap.size]) c w' (.ptr h.length 0) (.pointer (some ⟨w.heap.size,0,none⟩)):=
 ⟨w.heap.size,by rw[<-hl];simp,rfl⟩
theorem VR1.own1{v:V}{x:Value}(hv:VR1 m c w v x):VR1 m c w (Lift.own1 v) x:=by
 cases v with
 |nil=>have:x= .slice none 0 0:=hv;subst this;exact VP.empty _ _ _
 |_=>exact hv
theorem Y0{cs:List V}{xs:List Value}(hr:R2 (VR1 m c w) cs xs)(hno:∀r,V.list .yes r∉cs):R2 (VR1 m c w) (cs.map Lift.own1) xs/\
  ∀(j:Nat) (r:List (List V)),(cs.map Lift.own1)[j]? =some (.list .yes r)->r=[]/\xs[j]? =some (.slice none 0 0):=by
 refine⟨by simpa using hr.map (g:=id) λ_ _ h=>VR1.own1 h,λj r hj=>?_⟩
 simp only[Ax,Ak]at hj
 obtain⟨v,hv,he⟩:=hj;obtain⟨y,hy,hvy⟩:=hr.get hv
 cases v with
 |nil=>
  have:y= .slice none 0 0:=hvy;subst this;simp[Lift.own1]at he
  exact⟨he,hy⟩
 |list k q=>
  simp only[Lift.own1]at he;cases he
  exact absurd (Ar hv) (hno r)
 |_=>simp[Lift.own1]at he
theorem KX{v:V}{x:Value}(hv:VR1 m c w v x)(hs:WO v=true):x.oneCell'=true:=by
 cases v with
 |v z=>have:x=z:=hv;subst this;exact hs
 |nil=>have:x= .slice none 0 0:=hv;subst this;rfl
 |list k r=>exact VP.oneCell hv
 |ptr b o=>obtain⟨g,hg,rfl⟩:=hv;rfl
 |mp b=>obtain⟨g,hg,rfl⟩:=hv;rfl
 |rp cs=>obtain⟨ad,rfl,_⟩:=hv;rfl
 |buf b o n=>obtain⟨g,cap,hg,rfl,_⟩:=hv;rfl
 |stk b n sz=>obtain⟨g,cap,hg,rfl,_⟩:=hv;rfl
 |agg cs=>cases hs
 |tup vs=>cases hs
 |fn f cs=>obtain⟨fs,xs,rfl,_⟩:=hv;rfl
 |undef=>cases hs
 |any=>cases hs
theorem JOa(hI:InvP vars E m c w g h a){o:Oper}{t:TypeId}{z:List Value}(ho:o.op= .alloc t)(hz:K0 P t=some z)(hs:(z.map KW).all WO=true)(hbl:JBN t (z.map KW)=true)(hd:∀t,o.dst=some t->t<E.nt)(hv:∀t,o.dst=some t->t∉vars):
  Done P vars E w a o (.ptr h.length 0) g (h++[.cells ((z.map KW).map own1)]):=by
 obtain⟨zv,hzv,rfl⟩:=Wt (w:=w) hz;have hrel:=Yx (m:=m) (c:=c) (w:=w) zv
 obtain⟨hrel1,hno⟩:=Y0 hrel (λr hr=>by
  obtain⟨y,_,hy⟩:=AP.1 hr;unfold KW at hy
  split at hy
  ·cases hy
  ·split at hy<;>cases hy
  ·cases hy)
 have hone:∀(j:Nat) x,zv.cells[j]? =some x->x.oneCell'=true:=λj x hx=>by
  have hx':zv.cells.toList[j]? =some x:=by simpa using hx
  have hj:(zv.cells.toList.map KW)[j]? =some (KW x):=by simp[hx]
  exact KX (hrel.2 j _ _ hj hx') (As.1 hs _ (Ar hj))
 have hI':=WG hI (cs:=(zv.cells.toList.map KW).map own1) (arr:=zv.cells) (e:=t) (f:=(0,0)) (w':={w with heap:=w.heap.push (.cells zv.cells t)}) rfl rfl rfl rfl (λj _=>by simp) (by simp)
  (λj v x hv hx=>⟨hrel1.2 j v x hv (by simpa using hx),hone j x hx⟩) (λj r hj=>by simpa using hno j r hj)
  (λT hT hc=>by
   rw[JBl]at hc;rw[Ag]at hT
   exact⟨JHB hbl T hT hc,by simp⟩)
 refine⟨_,_,_,_,Qj (s:=Instr.alloc t true (.tuple #[])) (by simp[execOp,ho]) (x:= .pointer (some ⟨w.heap.size,0,none⟩)) (w':={w with heap:=w.heap.push (.cells zv.cells t)}) ?_,hI'.putBare hd (JA3 hI.core.len) rfl (.inl hv)⟩
 simp[Instr.alloc,hzv,newVar,newRow]
theorem JUO(hI:InvP vars E m c w g h a){o:Oper}{t:TypeId}{x:Operand}(ho:o.op= .box t x)(hp:Wo (cps (opd g x))=true)(hs:(cellsV (cps (opd g x))).all WO=true)(hbl:JBN t (cellsV (cps (opd g x)))=true)(hd:∀t,o.dst=some t->t<E.nt)(hv:∀t,o.dst=some t->t∉vars):
  Done P vars E w a o (.ptr h.length 0) g (h++[.cells ((cellsV (cps (opd g x))).map own1)]):=by
 have hx:=(hI.core.opd x).cps;have hrel:=Qv hx hp;obtain⟨hrel1,hno⟩:=Y0 hrel (λr hr=>jX _ r hr)
 have hone:∀(j:Nat) y,(a.eval x).cells[j]? =some y->y.oneCell'=true:=λj y hy=>by
  have hy':(a.eval x).cells.toList[j]? =some y:=by simpa using hy
  have hj:j<(cellsV (cps (opd g x))).length:=by rw[hrel.1];exact(Ad.1 hy').1
  exact KX (hrel.2 j _ _ (Ac hj) hy') (As.1 hs _ (Ba hj))
 have hI':=WG hI (cs:=(cellsV (cps (opd g x))).map own1) (arr:=(a.eval x).cells) (e:=t) (f:=(0,0)) (w':={w with heap:=w.heap.push (.cells (a.eval x).cells t)}) rfl rfl rfl rfl (λj _=>by simp) (by have:=hrel.1;simp at this⊢;omega)
  (λj v y hv hy=>⟨hrel1.2 j v y hv (by simpa using hy),hone j y hy⟩) (λj r hj=>by simpa using hno j r hj)
  (λT hT hc=>by
   rw[JBl]at hc;rw[Ag]at hT;have:=hrel.1;simp at this
   exact⟨JHB hbl T hT hc,by simp;omega⟩)
 refine⟨_,_,_,_,Qj (s:=Instr.box t (a.eval x)) (by simp[execOp,ho]) (x:= .pointer (some ⟨w.heap.size,0,none⟩)) (w':={w with heap:=w.heap.push (.cells (a.eval x).cells t)}) ?_,hI'.putBare hd (JA3 hI.core.len) rfl (.inl hv)⟩
 simp[Instr.box,newVar,newRow]
theorem K9{α:Type}{l vs:List α}{o j:Nat}(hb:o+vs.length<=l.length):
  (l.take o++vs++l.drop (o+vs.length))[j]? =if o<=j/\j<o+vs.length then vs[j-o]? else l[j]? :=by
 have ho:(l.take o).length=o:=by simp;omega
 by_cases h1:j<o
 ·rw[if_neg om,Ao,Bj om,AK,if_pos h1]
 ·by_cases h2:j<o+vs.length
  ·rw[if_pos ⟨om,h2⟩,Bj (by simp;omega),AZ om,ho]
  ·rw[if_neg om,AZ (by simp;omega),Bm]
   congr 1
   simp only[Ah,ho];omega
theorem Jg(b:Nat):∀(vs:List Value) (o:Nat) (w:World) (arr:Array Value) (e:TypeId) (f:Nat×Nat),w.heap[b]? =some (.cells arr e f)->o+vs.length<=arr.size->
  (w.setCells b o vs).heap.size=w.heap.size/\(∀k,k≠b->(w.setCells b o vs).heap[k]? =w.heap[k]?)/\(w.setCells b o vs).os=w.os/\(w.setCells b o vs).tape=w.tape/\(w.setCells b o vs).output=w.output/\
  ∃arr':Array Value,(w.setCells b o vs).heap[b]? =some (.cells arr' e f)/\arr'.toList=arr.toList.take o++vs++arr.toList.drop (o+vs.length)
 |[],o,w,arr,e,f,hw,hb=>⟨rfl,λ_ _=>rfl,rfl,rfl,rfl,arr,hw,by simp⟩
 |v::vs,o,w,arr,e,f,hw,hb=>by
  simp only[Ae]at hb
  have hset:(w.setCell ⟨b,o,none⟩ v).heap[b]? =some (.cells (arr.setIfInBounds o v) e f):=by simp[LG,CE,hw]
  obtain⟨h1,h2,h3,h4,h5,arr',h6,h7⟩:=Jg b vs (o+1) (w.setCell ⟨b,o,none⟩ v) _ e f hset (by simp;omega)
  refine⟨by rw[World.setCells,h1];simp[LG],λk hk=>?_,h3,h4,h5,arr',h6,?_⟩
  ·rw[World.setCells,h2 k hk]
   simp[LG,CE,Ne.symm hk]
  ·rw[h7]
   have hlt:o<arr.toList.length:=by simp;omega
   simp only[Array.toList_setIfInBounds,Ae];rw[List.take_succ_eq_append_getElem (by simpa using hlt),List.getElem_set_self,Da om,List.drop_set_of_lt om]
   simp only[Ao,List.cons_append,Ai];rw[show o+1+vs.length=o+(vs.length+1)by omega]
theorem QX{b o:Nat}{vs:List Value}{arr:Array Value}{e:TypeId}{f:Nat×Nat}(hw:w.heap[b]? =some (.cells arr e f))(hle:o+vs.length<=arr.size):Shp w (w.setCells b o vs) b:=λarr0 e0 f0 h0=>by
 rw[hw]at h0;cases h0;obtain⟨_,_,_,_,_,arr',h6,h7⟩:=Jg b vs o w arr e f hw hle;refine⟨arr',f,h6,?_,λj hj hf=>?_⟩
 ·have:=congrArg AW h7
  simp only[AU,Ah,AM,Ay]at this;omega
 ·simp only[B4,hw,h6]at hf⊢
  exact hf
theorem Jm{b j:Nat}{arr:Array Value}{e:TypeId}{f:Nat×Nat}(hw:w.heap[b]? =some (.cells arr e f)):w.cell? ⟨b,j,none⟩=arr[j]? :=by simp[DJ,hw]
theorem JQT{cs:List V}{v:V}{n:Nat}(hk:Yu cs v=true)(h:∀u∈cs,okv n u=true):okv n v=true:=by
 cases v with
 |stk j k z=>
  simp only[Yu,Mf]at hk;obtain⟨u,hu,hj⟩:=hk;have h1:=h u hu
  cases u with
  |stk i k' z'=>
   simp only[beq_iff_eq]at hj;subst hj
   exact h1
  |_=>cases hj
 |_=>cases hk
theorem JJY{cs:List V}{v:V}(hk:Yu cs v=true):∀u∈cellsV (Kc v),Yu cs u=true:=by
 cases v with
 |stk j k z=>
  intro u hu;have:u= .stk j k z:=by simpa[Kc,own1,cellsV]using hu
  rw[this];exact hk
 |_=>cases hk
theorem WQ(hI:InvP vars E m c w g h a){i gb off:Nat}{cs vs:List V}{ys:List Value}(jf:Nat)(hcs:cellsOfOb h i=some cs)(hm:m[i]? =some gb)(hlo:E.lo<=i)
  (hb:off+vs.length<=cs.length)(hr:R2 (VR1 m c w) vs ys)(hone:∀y∈ys,y.oneCell'=true)
  (hown:∀(j:Nat) r x,vs[j]? =some (.list .yes r)->ys[j]? =some x->(r=[]/\x= .slice none 0 0)\/off+j=jf/\OwnB m c w r x/\(∀l r' x' b,At m w g h a l r' x'->Jo x=some b->Jo x'≠some b)/\ ∀b,Jo x=some b->E.w.heap.size<=b\/E.ho b)
  (hjf:off<=jf/\jf<off+vs.length\/cs.length<=jf)
  (hnt:∀t i j r,look g t≠ .list (.cell i j) r)(hok:i<E.base->∀v∈vs,okv (i+1) v=true\/Yu cs v=true)(hbl:JAt vs=true):
  InvP vars E m c (w.setCells gb off ys) g (Lift.setOb h i (cs.take off++vs++cs.drop (off+vs.length))) a/\
  (storeCells ⟨gb,off,none⟩ ys).run P w= .ok () (w.setCells gb off ys):=by
 have hcs0:h[i]? =some (.cells cs):=by
  unfold cellsOfOb at hcs
  split at hcs
  ·rename_i h0;cases hcs;exact h0
  ·cases hcs
 obtain⟨arr,e,f,hw,hle,hfr,hall,hbld⟩:=hI.core.ob i _ gb hcs0 hm;have hlen:ys.length=vs.length:=hr.1.symm;obtain⟨h1,h2,h3,h4,h5,arr',h6,h7⟩:=Jg gb ys off w arr e f hw om;have hc0:c gb=0:=hI.core.wf2 gb (Ar hm)
 have hext:Ext c w c (w.setCells gb off ys):=⟨λ_=>Ab _,λb o ho=>by
  by_cases hb':b=gb
  ·rw[hb',hc0]at ho;omega
  ·exact JR (h2 b hb') o,λb _=>by
  by_cases hb':b=gb
  ·rw[hb'];exact QX hw om
  ·exact Shp.same (h2 b hb')⟩
 have hget:∀j,arr'[j]? =if off<=j/\j<off+vs.length then ys[j-off]? else arr[j]? :=λj=>by
  rw[<-BF,h7,K9 (by simp;omega),hlen]
  simp
 have hgetc:∀j,(cs.take off++vs++cs.drop (off+vs.length))[j]? =if off<=j/\j<off+vs.length then vs[j-off]? else cs[j]? :=λj=>K9 hb
 have hsize:arr'.size=arr.size:=by have:=congrArg AW h7;simp only[AU,Ah,AM,Ay]at this;omega
 have hlen':(cs.take off++vs++cs.drop (off+vs.length)).length=cs.length:=by simp;omega
 refine⟨hI.setOb (w':=w.setCells gb off ys) jf hlo hm h1 h2 h3 h4 h5 ?_ ?_ hnt ?_ (QX hw om),?_⟩
 ·refine⟨arr',e,f,h6,by rw[hlen',hsize];exact hle,λj hj=>?_,λj v x hv hx=>?_,λT hT hc=>?_⟩
  ·rw[hlen']at hj
   have:=hfr j hj;simp only[B4,hw,h6]at this⊢;exact this
  ·rw[hgetc]at hv
   rw[hget]at hx
   split at hv
   ·rename_i hj
    rw[if_pos hj]at hx;exact⟨(hr.2 _ v x hv hx).mono (Pre.refl m) hext,hone x (Ar hx)⟩
   ·rename_i hj
    rw[if_neg hj]at hx;exact⟨(hall j v x hv hx).1.mono (Pre.refl m) hext,(hall j v x hv hx).2⟩
  ·rw[hsize]
   obtain⟨x,k2,k3⟩:=Qw.1 hc;rw[hlen']at hT⊢;rw[hgetc]at k2
   split at k2
   ·exfalso
    have hne:BTy.bt.isEmpty=false:=by
     unfold JBM at hT
     cases hb:BTy.bt with
     |nil=>rw[hb]at hT;cases hT
     |cons x l=>rfl
    unfold JAt at hbl;rw[hne,Bool.false_or]at hbl;have:=Mf.2 ⟨x,Ar k2,k3⟩;rw[this]at hbl;cases hbl
   ·exact hbld T hT (Qw.2 ⟨x,k2,k3⟩)
 ·intro cs' j r x hcs' hj hx
  cases hcs';rw[Jm h6,hget]at hx;rw[hgetc]at hj
  split at hj
  ·rename_i hjb
   rw[if_pos hjb]at hx;rcases hown (j-off) r x hj hx with h0|⟨k1,k2,k3,k4⟩
   ·exact .inl h0
   ·exact .inr ⟨λhne=>absurd om hne,λ_=>⟨k2,λl r' x' b hl _ hb=>k3 l r' x' b hl hb,k4⟩⟩
  ·rename_i hjb
   rw[if_neg hjb]at hx;refine .inr ⟨λ_=>⟨cs,gb,hcs,hj,hm,by rw[Jm hw];exact hx⟩,λhjj=>?_⟩
   have:=(Ad.1 hj).1
   omega
 ·intro cs' hcs' hib n hin h0 v hv
  cases hcs';rw[AN,AN]at hv;rcases hv with(hv|hv)|hv
  ·exact h0 cs hcs v (List.mem_of_mem_take hv)
  ·rcases hok hib v hv with h8|h8
   ·exact JJW h8 hin
   ·exact JQT h8 (h0 cs hcs)
  ·exact h0 cs hcs v (List.mem_of_mem_drop hv)
 ·have:=run_storeCells_cells (P:=P) gb off ys 0 w (λj hj=>by
    rw[Jm hw];have:off+j<arr.size:=om
    simp[this]) (λj hj=>hfr _ om) hone
  simpa using this
theorem cellsV_own1s(v:V):cellsV (Kc v)=(cellsV v).map own1:=by cases v<;>rfl
theorem JOb{n:Nat}{v:V}(hv:okv n v=true):∀u∈cellsV (Kc v),okv n u=true:=by
 intro u hu;rw[cellsV_own1s,AP]at hu;obtain⟨y,hy,rfl⟩:=hu
 have hy':okv n y=true:=by
  cases v with
  |agg ds=>
   have:=As.1 hv y hy
   cases y<;>first|exact this|(simp[okc]at this)
  |_=>simp only[cellsV,Bp]at hy;subst hy;exact hv
 cases y<;>first|rfl|exact hy'
theorem zH(hI:InvP vars E m c w g h a){o:Oper}{t:TypeId}{p x:Operand}{i off:Nat}{cs:List V}(ho:o.op= .store t p x)(hp:opd g p= .ptr i off)(hcs:cellsOfOb h i=some cs)
  (hc:E.lo<=i/\off+JG P t<=cs.length/\(cellsV (Jk g x).1).length=JG P t/\(P.info? t).isSome/\((cellsV (Jk g x).1).all WO&&JAt (cellsV (Jk g x).1))=true/\(i<E.base->(okv (i+1) (Jk g x).1||Yu cs (Jk g x).1)=true))
  (hd:∀t,o.dst=some t->t<E.nt):
  Done P vars E w a o (.v undef) (Lift.untag (Jk g x).2) (Lift.setOb h i (cs.take off++cellsV (Kc (Jk g x).1)++cs.drop (off+JG P t))):=by
 obtain⟨c1,c2,c3,c4,c57,c6⟩:=hc;rw[Af]at c57;obtain⟨c5,c7⟩:=c57
 have c8:JAt (cellsV (Kc (Jk g x).1))=true:=by
  rw[cellsV_own1s];unfold JAt at c7⊢
  cases hT:BTy.bt.isEmpty with
  |true=>rfl
  |false=>rw[hT]at c7;simpa[List.any_map,Function.comp_def,YG]using c7
 obtain⟨gb,hm,hpv⟩:=(by have:=hI.core.opd p;rw[hp]at this;exact this:∃gb,m[i]? =some gb/\a.eval p= .pointer (some ⟨gb,off,none⟩))
 obtain⟨ie,hie⟩:=Bi.1 c4
 have hx:VRr m c w (Jk g x).1 (a.eval x):=by
  rcases Gk hI x with⟨_,hv,_,_⟩|⟨t',r,rfl,hl,h1,h2,hv,hat⟩
  ·exact hv
  ·rw[h1];exact hv
 have hpart:Wo (Jk g x).1=true:=by cases hq:(Jk g x).1<;>first|rfl|(rw[hq]at c5;simp only[cellsV,Bg,Dm,WO,Cz]at c5;first|exact c5|cases c5)
 have hrel:=Qv hx hpart
 have hone:∀y∈(a.eval x).cells.toList,y.oneCell'=true:=λy hy=>by
  obtain⟨j,hj,rfl⟩:=A8 hy;have hj':j<(cellsV (Jk g x).1).length:=by rw[hrel.1];exact hj
  exact KX (hrel.2 j _ _ (Ac hj') (Ac hj)) (As.1 c5 _ (Ba hj'))
 have hok:i<E.base->∀u∈cellsV (Kc (Jk g x).1),okv (i+1) u=true\/Yu cs u=true:=λhib u hu=>by
  rcases LO.1 (c6 hib)with h8|h8
  ·exact .inl (JOb h8 u hu)
  ·exact .inr (JJY h8 u hu)
 have c3':(cellsV (Kc (Jk g x).1)).length=JG P t:=by rw[cellsV_own1s,Ag];exact c3
 have hrun:∀w',(storeCells ⟨gb,off,none⟩ (a.eval x).cells.toList).run P w= .ok () w'->Does P w a o undef w':=λw' hw'=>by
  refine .inr ⟨?_,rfl⟩
  have hsz:(a.eval x).cells.size=ie.size:=by have:=hrel.1;rw[<-JU hie];simp at this;omega
  simp[execOp,ho,Instr.storeAt,hpv,Instr.sureAddr,storeVar,sizeOf,typeInfo,hie,hsz,hw']
 rcases Gk hI x with⟨hb,hv,hg,hny⟩|⟨t',r,rfl,hl,h1,h2,hv,hat⟩
 ·rw[hg]
  obtain⟨hrel1,hno⟩:=Y0 hrel hny;rw[<-cellsV_own1s]at hrel1 hno
  obtain⟨hI',hst⟩:=WQ (P:=P) hI.untag cs.length hcs hm c1 (by rw[c3'];exact c2) hrel1 hone (λj r y hj hy=>by
   obtain⟨k1,k2⟩:=hno j r hj;rw[hy]at k2
   exact .inl ⟨k1,Bs k2⟩) (.inr (Ab _)) (λt i j r=>Wv t i j r) hok c8
  rw[c3']at hI';exact⟨_,_,m,c,hrun _ hst,hI'.putBare hd rfl rfl (.inr λt u r=>Wa t u r)⟩
 ·have h1':Kc (Jk g (.tmp t')).1= .list .yes r:=by rw[h1]<;>rfl
  rw[h1']at hok c3' c8⊢;rw[h1]at hrel;rw[h2];have hI1:=hI.release hl
  obtain⟨hI',hst⟩:=WQ (P:=P) (vs:=[.list .yes r]) hI1 off hcs hm c1 (by rw[show[V.list .yes r].length=JG P t from c3'];exact c2) hrel hone (λj q y hj hy=>by
   cases j with
   |succ j=>simp at hj
   |zero=>
    simp only[BP,Aj]at hj
    cases hj
    have hy':y=a.eval (.tmp t'):=by
     have:(a.eval (.tmp t')).cells= #[a.eval (.tmp t')]:=by have hv':VP c w (.list .yes r) (a.eval (.tmp t')):=hv;generalize a.eval (.tmp t')=z at hv';cases hv'<;>rfl
     rw[this]at hy;simpa using hy.symm
    subst hy';refine .inr ⟨om,hI.core.own _ _ _ hat,λl r' x' b hl' hb hb'=>?_,λb hb=>hI.owned _ _ _ b hat trivial hb⟩
    obtain⟨n1,hl''⟩:=Gj hl'
    exact n1 (hI.core.uniq l _ r' _ x' _ b hl'' hat hb' hb)) (.inl ⟨Ab _,by simp⟩) (λt i j r=>Wv t i j r) hok c8
  rw[show[V.list .yes r].length=JG P t from c3']at hI'
  exact⟨_,_,m,c,hrun _ hst,hI'.putBare hd rfl rfl (.inr λt u r=>Wa t u r)⟩
theorem JLd(hI:InvP vars E m c w g h a){o:Oper}{t:TypeId}{z:List Value}(ho:o.op= .alloc t)(hz:K0 P t=some z)(hs:(z.map KW).all WO=true)(hbl:JBN t (z.map KW)=true)(hd:∀t,o.dst=some t->t<E.nt)(hv:∀t,o.dst=some t->t∉vars):
  Done P vars E w a o (.ptr h.length 0) g (h++[.cells (z.map KW)]):=by
 obtain⟨zv,hzv,rfl⟩:=Wt (w:=w) hz;have hrel:=Yx (m:=m) (c:=c) (w:=w) zv
 have hno:∀r,V.list .yes r∉zv.cells.toList.map KW:=λr hr=>by
  obtain⟨y,_,hy⟩:=AP.1 hr;unfold KW at hy
  split at hy
  ·cases hy
  ·split at hy<;>cases hy
  ·cases hy
 have hone:∀(j:Nat) x,zv.cells[j]? =some x->x.oneCell'=true:=λj x hx=>by
  have hx':zv.cells.toList[j]? =some x:=by simpa using hx
  have hj:(zv.cells.toList.map KW)[j]? =some (KW x):=by simp[hx]
  exact KX (hrel.2 j _ _ hj hx') (As.1 hs _ (Ar hj))
 have hI':=WG hI (cs:=zv.cells.toList.map KW) (arr:=zv.cells) (e:=t) (f:=(0,0)) (w':={w with heap:=w.heap.push (.cells zv.cells t)}) rfl rfl rfl rfl (λj _=>by simp) (by simp)
  (λj v x hv hx=>⟨hrel.2 j v x hv (by simpa using hx),hone j x hx⟩) (λj r hj=>absurd (Ar hj) (hno r))
  (λT hT hc=>by
   rw[Ag]at hT
   exact⟨JHB hbl T (by rw[Ag];exact hT) hc,by simp⟩)
 refine⟨_,_,_,_,Qj (s:=Instr.alloc t true (.tuple #[])) (by simp[execOp,ho]) (x:= .pointer (some ⟨w.heap.size,0,none⟩)) (w':={w with heap:=w.heap.push (.cells zv.cells t)}) ?_,hI'.putBare hd (JA3 hI.core.len) rfl (.inl hv)⟩
 simp[Instr.alloc,hzv,newVar,newRow]
theorem JOc{n:Nat}{v:V}(hv:okv n v=true):∀u∈cellsV v,okv n u=true:=by
 intro y hy
 cases v with
 |agg ds=>
  have:=As.1 hv y hy
  cases y<;>first|exact this|(simp[okc]at this)
 |_=>simp only[cellsV,Bp]at hy;subst hy;exact hv
theorem JJZ{cs:List V}{v:V}(hk:Yu cs v=true):∀u∈cellsV v,Yu cs u=true:=by
 cases v with
 |stk b n z=>intro u hu;simp only[cellsV,Bp]at hu;subst hu;exact hk
 |_=>cases hk
theorem JLe(hI:InvP vars E m c w g h a){o:Oper}{t:TypeId}{p x:Operand}{i off:Nat}{cs:List V}(ho:o.op= .store t p x)(hp:opd g p= .ptr i off)(hcs:cellsOfOb h i=some cs)
  (hc:E.lo<=i/\off+JG P t<=cs.length/\(cellsV (Jk g x).1).length=JG P t/\(P.info? t).isSome/\((cellsV (Jk g x).1).all WO&&JAt (cellsV (Jk g x).1))=true/\(i<E.base->(okv (i+1) (Jk g x).1||Yu cs (Jk g x).1)=true))
  (hd:∀t,o.dst=some t->t<E.nt):
  Done P vars E w a o (.v undef) (Lift.untag (Jk g x).2) (Lift.setOb h i (cs.take off++cellsV (Jk g x).1++cs.drop (off+JG P t))):=by
 have hst0:=zH hI ho hp hcs hc hd;obtain⟨c1,c2,c3,c4,c57,c6⟩:=hc;rw[Af]at c57;obtain⟨c5,c7⟩:=c57;obtain⟨gb,hm,hpv⟩:=(by have:=hI.core.opd p;rw[hp]at this;exact this:∃gb,m[i]? =some gb/\a.eval p= .pointer (some ⟨gb,off,none⟩))
 obtain⟨ie,hie⟩:=Bi.1 c4;rcases Gk hI x with⟨hb,hx,hg,hny⟩|⟨t',r,rfl,hl,h1,h2,hv,hat⟩
 case inr=>rw[h1]at hst0⊢;exact hst0
 rw[hg]
 have hpart:Wo (Jk g x).1=true:=by cases hq:(Jk g x).1<;>first|rfl|(rw[hq]at c5;simp only[cellsV,Bg,Dm,WO,Cz]at c5;first|exact c5|cases c5)
 have hrel:=Qv hx hpart
 have hone:∀y∈(a.eval x).cells.toList,y.oneCell'=true:=λy hy=>by
  obtain⟨j,hj,rfl⟩:=A8 hy;have hj':j<(cellsV (Jk g x).1).length:=by rw[hrel.1];exact hj
  exact KX (hrel.2 j _ _ (Ac hj') (Ac hj)) (As.1 c5 _ (Ba hj'))
 have hok:i<E.base->∀u∈cellsV (Jk g x).1,okv (i+1) u=true\/Yu cs u=true:=λhib u hu=>by
  rcases LO.1 (c6 hib)with h8|h8
  ·exact .inl (JOc h8 u hu)
  ·exact .inr (JJZ h8 u hu)
 have hrun:∀w',(storeCells ⟨gb,off,none⟩ (a.eval x).cells.toList).run P w= .ok () w'->Does P w a o undef w':=λw' hw'=>by
  refine .inr ⟨?_,rfl⟩
  have hsz:(a.eval x).cells.size=ie.size:=by have:=hrel.1;rw[<-JU hie];simp at this;omega
  simp[execOp,ho,Instr.storeAt,hpv,Instr.sureAddr,storeVar,sizeOf,typeInfo,hie,hsz,hw']
 obtain⟨hI',hst⟩:=WQ (P:=P) hI.untag cs.length hcs hm c1 (by rw[c3];exact c2) hrel hone (λj r y hj hy=>absurd (Ar hj) (hny r)) (.inr (Ab _)) (λt i j r=>Wv t i j r) hok c7
 rw[c3]at hI';exact⟨_,_,m,c,hrun _ hst,hI'.putBare hd rfl rfl (.inr λt u r=>Wa t u r)⟩
end
section
variable{P:Program}{vars:List Nat}{m:List Nat}{c:Cl}{w:World}{g:Jj}{h:JC}{a:Act}{E:Entry}
theorem JOd(hI:InvP vars E m c w g h a){o:Oper}{t:TypeId}{x:Operand}{b:ByteArray}(ho:o.op= .range t x)(hx:opd g x= .v (.string b))(hu:P.underlying t=some .string)(hd:∀t,o.dst=some t->t<E.nt)(hv:∀t,o.dst=some t->t∉vars):
  Done P vars E w a o (.ptr h.length 0) g (h++[.iter b 0]):=by
 have hx':a.eval x= .string b:=by have:=hI.core.opd x;rw[hx]at this;exact this
 have hw:∀k,k<w.heap.size->({w with heap:=w.heap.push (.stringIter b 0)}:World).heap[k]? =w.heap[k]? :=λk hk=>by
  show(w.heap.push _)[k]? =_
  rw[B7];simp[show¬k=w.heap.size by omega]
 have hI':InvP vars E (m++[w.heap.size]) c {w with heap:=w.heap.push (.stringIter b 0)} g (h++[.iter b 0]) a:=by
  refine hI.grow ⟨by simp,hw,λ_ _=>rfl,λk hk h0=>?_,λk hk=>?_,by simp,rfl,λi o k ho hk=>?_,Ab _,λi cs j r b ho=>?_,rfl,rfl,rfl⟩
  ·rw[hI.core.c_zero hk]at h0;omega
  ·simp at hk;subst hk;exact⟨Ab _,hI.core.c_zero (Ab _)⟩
  ·cases i with
   |zero=>simp at ho hk;subst ho;subst hk;simp[ObR]
   |succ i=>simp at ho
  ·cases i with
   |zero=>simp at ho
   |succ i=>simp at ho
 refine⟨_,_,_,_,Qj (s:=Instr.range t (a.eval x)) (by simp[execOp,ho]) (x:= .pointer (some ⟨w.heap.size,0,none⟩)) (w':={w with heap:=w.heap.push (.stringIter b 0)}) ?_,hI'.putBare hd (JA3 hI.core.len) rfl (.inl hv)⟩
 simp[Instr.range,hx',run_underlying hu]
theorem JQU(hI:InvP vars E m c w g h a){o:Oper}{x:Operand}{i pos:Nat}{s:ByteArray}(ho:o.op= .next x true)(hx:opd g x= .ptr i 0)(hh:h[i]? =some (.iter s pos))(hlo:E.lo<=i)(hnt:∀t i j r,look g t≠ .list (.cell i j) r)
  (hd:∀t,o.dst=some t->t<E.nt)(hv:∀t,o.dst=some t->t∉vars):
  if pos<s.size then Done P vars E w a o (.tup [.v (.bool true),.v (.int .i64 pos),.v (.int .i32 (Utf8.decode s pos).1)]) g (h.set i (.iter s (pos+(Utf8.decode s pos).2)))
  else Done P vars E w a o (.tup [.v (.bool false)]) g h:=by
 obtain⟨gb,hm,hxv⟩:=(by have:=hI.core.opd x;rw[hx]at this;exact this:∃gb,m[i]? =some gb/\a.eval x= .pointer (some ⟨gb,0,none⟩))
 have hob:w.heap[gb]? =some (.stringIter s pos):=hI.core.ob i _ gb hh hm;have hget:(getObj gb).run P w= .ok (.stringIter s pos) w:=by simp[getObj,Sem.run,hob]
 split
 ·rename_i hlt
  have hset:∀o',({w with heap:=w.heap.setIfInBounds gb o'}:World).heap[gb]? =some o':=λo'=>by
   have:=(AX.1 hob).1
   simp[this]
  have hoth:∀o' k,k≠gb->({w with heap:=w.heap.setIfInBounds gb o'}:World).heap[k]? =w.heap[k]? :=λo' k hk=>by
   show(w.heap.setIfInBounds gb o')[k]? =_
   rw[Array.getElem?_setIfInBounds_ne (Ne.symm hk)]
  have hI':=hI.setOb (o':= .iter s (pos+(Utf8.decode s pos).2)) (w':={w with heap:=w.heap.setIfInBounds gb (.stringIter s (pos+(Utf8.decode s pos).2))}) 0 hlo hm (by simp) (hoth _) rfl rfl rfl (hset _)
   (λcs' j r x hc=>by cases hc) hnt (λcs' hc=>by cases hc) (λarr e f hb=>by rw[hob]at hb;cases hb)
  refine⟨.tuple #[.bool true,.int .i64 pos,.int .i32 (Utf8.decode s pos).1],_,m,c,Qj (s:=Instr.next (a.eval x) true o.type) (by simp[execOp,ho]) ?_,hI'.putBare hd ?_ rfl (.inl hv)⟩
  ·simp only[Instr.next,hxv,BB,hget,Bk,hlt,if_true]
   simp[setObj,Sem.run,hob,goInt]
  ·exact⟨_,rfl,R2.cons rfl (R2.cons rfl (R2.cons rfl R2.nil))⟩
 ·rename_i hge
  refine⟨.tuple #[.bool false],w,m,c,Qj (s:=Instr.next (a.eval x) true o.type) (by simp[execOp,ho]) ?_,hI.putBare hd ⟨_,rfl,R2.cons rfl R2.nil⟩ rfl (.inl hv)⟩
  simp only[Instr.next,hxv,BB,hget,Bk,if_neg hge];rfl
theorem kJ{k:Own}{rows:List (List V)}{b cap sz:Nat}{arr:Array Value}{e:TypeId}{f:Nat×Nat}(hw:w.heap[b]? =some (.cells arr e f))(hsz:0<sz)(hrow:∀row∈rows,row.length=sz)(hcap:rows.length<=cap)(hc:rows.length*sz<=c b)
  (hrel:∀(i j:Nat) row v,rows[i]? =some row->row[j]? =some v->∃x,arr[i*sz+j]? =some x/\VP c w v x):VP c w (.list k rows) (.slice (some ⟨b,0,none⟩) rows.length cap):=by
 by_cases hne:rows=[]
 ·subst hne;exact .empty _ _ _
 ·refine .list k rows ⟨b,0,none⟩ cap sz (λi j=>arr.getD (i*sz+j) undef) hne hsz rfl hcap (by simpa using hc) (λi row hi=>hrow row (Ar hi)) (λi j row v hi hj=>?_) (λi j row v hi hj=>?_)
  ·obtain⟨x,hx,hv⟩:=hrel i j row v hi hj
   rw[Jm hw];simp[hx]
  ·obtain⟨x,hx,hv⟩:=hrel i j row v hi hj
   simpa[hx]using hv
theorem JLf{v:V}{x:Value}(hv:VR1 m c w v x)(hp:jo v=true):VP c w v x:=by
 cases v with
 |v z=>have:x=z:=hv;subst this;exact .v _ hp
 |list k r=>exact hv
 |_=>cases hp
theorem Y1(hI:InvP vars E m c w g h a){arr:Array Value}{e:TypeId}{f:Nat×Nat}{w':World}(n:Nat)(hw:w'.heap=w.heap.push (.cells arr e f))(hos:w'.os=w.os)(htape:w'.tape=w.tape)(hout:w'.output=w.output)(hn:n<=arr.size):
  InvP vars E m (λb=>if b=w.heap.size then n else c b) w' g h a:=by
 have hold:∀b,b<w.heap.size->w'.heap[b]? =w.heap[b]? :=λb hb=>by rw[hw,B7];simp[show¬b=w.heap.size by omega]
 refine hI.grown none (by rw[hw];simp) (λb hb _=>⟨hold b hb,by simp[show¬b=w.heap.size by omega]⟩) (λb hb=>by cases hb) (λb hb _ h0=>?_) hos htape hout
 by_cases hbe:b=w.heap.size
 ·subst hbe
  exact⟨arr,e,f,by rw[hw];simp,by simpa using hn⟩
 ·simp only[if_neg hbe]at h0
  rw[hI.core.c_zero hb]at h0;omega
theorem qv{s:ByteArray}{i j:Nat}{row:List V}{v:V}(hi:(KP s)[i]? =some row)(hj:row[j]? =some v):∃c:UInt8,s.data[i]? =some c/\j=0/\v= .v (.int .u8 c.toNat):=by
 unfold KP at hi;simp only[Ax,Ak]at hi
 obtain⟨c,hc,rfl⟩:=hi
 cases j with
 |zero=>simp at hj;exact⟨c,by simpa using hc,rfl,hj.symm⟩
 |succ j=>simp at hj
theorem JAP(hI:InvP vars E m c w g h a){o:Oper}{s d:TypeId}{x:Operand}{mutc:Bool}{v:V}{g':Jj}{h':JC}(ho:o.op= .convert s d x)(hs:P.underlying s=some .string)
  (he:(match P.underlying s,P.underlying d,opd g x with
   |some .string,some (.slice e),.v (.string y)=>
    if qg P e then
     if mutc then some (V.buf h.length 0 y.size,(g,h++[Ob.cells (QR y)]))
     else some (.list .no (KP y),(g,h))
    else none
   |some .string,some .string,.v (.string y)=>some (.v (.string y),(g,h))
   |_,_,_=>none)=some (v,g',h'))(hd:∀t,o.dst=some t->t<E.nt)(hv:∀t,o.dst=some t->t∉vars):
  Done P vars E w a o v g' h':=by
 split at he
 ·rename_i e y h1 h2 h3
  have hx':a.eval x= .string y:=by have:=hI.core.opd x;rw[h3]at this;exact this
  split at he
  ·rename_i hu
   have hu:=JNC hu;have hrun:=run_bytes_of_string (P:=P) w s d e y hs h2 hu;have hdo:Does P w a o (.slice (some ⟨w.heap.size,0,none⟩) y.size (grownCap w y.size 0 e)) _:=Qj (s:=convert s d (a.eval x)) (by simp[execOp,ho]) (by rw[hx'];exact hrun)
   have hge:y.size<=grownCap w y.size 0 e:=grownCap_ge w y.size 0 e
   have hrowget:∀(j:Nat) (c:UInt8),y.data[j]? =some c->(bytesRow y (grownCap w y.size 0 e))[j]? =some (.int .u8 c.toNat):=λj c hc=>by
    have hl:=(AX.1 hc).1
    unfold bytesRow;rw[BL (by simpa using hl)]
    simp[hc]
   have hrowsz:y.size<=(bytesRow y (grownCap w y.size 0 e)).size:=by unfold bytesRow;simp
   split at he
   ·cases he
    have hI':=WG hI (cs:=QR y) (arr:=bytesRow y (grownCap w y.size 0 e)) (e:=e) (f:=((bytesRow y (grownCap w y.size 0 e)).size,(bytesRow y (grownCap w y.size 0 e)).size+1)) (w':=w.drew.alloc (.cells (bytesRow y (grownCap w y.size 0 e)) e ((bytesRow y (grownCap w y.size 0 e)).size,(bytesRow y (grownCap w y.size 0 e)).size+1))) rfl rfl rfl rfl
     (λj hj=>by
      have:(QR y).length=y.size:=by simp[QR]
      omega) (by simp[QR];exact hrowsz)
     (λj v x hv hx=>by
      unfold QR at hv;simp only[Ax,Ak]at hv
      obtain⟨c,hc,rfl⟩:=hv;rw[hrowget j c (by simpa using hc)]at hx
      cases hx
      exact⟨rfl,rfl⟩)
     (λj r hj=>by
      unfold QR at hj;simp only[Ax,Ak]at hj
      obtain⟨c,_,hc⟩:=hj
      cases hc)
     (λT hT hc=>by
      exfalso;obtain⟨x,k2,k3⟩:=Qw.1 hc;unfold QR at k2;simp only[Ax,Ak]at k2
      obtain⟨c,_,rfl⟩:=k2
      cases k3)
    refine⟨_,_,_,_,hdo,hI'.putBare hd ⟨w.heap.size,_,by rw[<-hI.core.len];simp,rfl,hge⟩ rfl (.inl hv)⟩
   ·cases he
    have hI':=Y1 hI (arr:=bytesRow y (grownCap w y.size 0 e)) (e:=e) (f:=((bytesRow y (grownCap w y.size 0 e)).size,(bytesRow y (grownCap w y.size 0 e)).size+1)) (w':=w.drew.alloc (.cells (bytesRow y (grownCap w y.size 0 e)) e ((bytesRow y (grownCap w y.size 0 e)).size,(bytesRow y (grownCap w y.size 0 e)).size+1))) y.size rfl rfl rfl rfl hrowsz;refine⟨_,_,_,_,hdo,hI'.putBare hd ?_ rfl (.inl hv)⟩
    have hlen:(KP y).length=y.size:=by simp[KP]
    have key:VP (λb=>if b=w.heap.size then y.size else c b) (w.drew.alloc (.cells (bytesRow y (grownCap w y.size 0 e)) e ((bytesRow y (grownCap w y.size 0 e)).size,(bytesRow y (grownCap w y.size 0 e)).size+1)))
      (.list .no (KP y)) (.slice (some ⟨w.heap.size,0,none⟩) (KP y).length (grownCap w y.size 0 e)):=by
     refine kJ (sz:=1) (hw:=heap_alloc_new w.drew _) Nat.one_pos (λrow hr=>?_) (by rw[hlen];exact hge) (by simp[hlen]) (λi j row v hi hj=>?_)
     ·unfold KP at hr
      simp only[AP]at hr;obtain⟨c,_,rfl⟩:=hr;rfl
     ·obtain⟨c,hc,rfl,rfl⟩:=qv hi hj
      exact⟨_,by simpa using hrowget i c hc,.v _ rfl⟩
    rw[hlen]at key;exact key
  ·cases he
 ·rename_i y h1 h2 h3
  cases he;have hx':a.eval x= .string y:=by have:=hI.core.opd x;rw[h3]at this;exact this
  exact⟨.string y,w,m,c,Qj (s:=convert s d (a.eval x)) (by simp[execOp,ho]) (by simp[hx',convert,run_underlying h1,run_underlying h2]),hI.putBare hd rfl rfl (.inl hv)⟩
 ·cases he
end
section
variable{P:Program}{vars:List Nat}{m:List Nat}{c:Cl}{w:World}{g:Jj}{h:JC}{a:Act}{E:Entry}
theorem JDu(sz:Nat):∀(qs:List (Nat×Value)) (k:Nat) (zs:Array Value),qs.map (·.1)=List.range' k qs.length->(∀q∈qs,q.2.cells.size=sz)->(k+qs.length)*sz<=zs.size->
  ∃ys:Array Value,Instr.fill (λi=>some (i*sz,sz)) zs qs=some ys/\ys.toList=zs.toList.take (k*sz)++(qs.map (λq=>q.2.cells.toList)).flatten++zs.toList.drop ((k+qs.length)*sz)
 |[],k,zs,_,_,_=>⟨zs,rfl,by simp⟩
 |(i,v)::qs,k,zs,hi,hs,hz=>by
  simp only[A3,Ae,List.range'_succ,List.cons.injEq]at hi;obtain⟨rfl,hi⟩:=hi;have hv:v.cells.size=sz:=hs (i,v) (by simp)
  simp only[Ae]at hz;have hb:(i+1)*sz<=zs.size:=AY (AH _ om) hz;rw[Bf,Nat.one_mul]at hb
  have hfold:(v.cells.zipIdx.foldl (λcs (x,j)=>cs.setIfInBounds (i*sz+j) x) zs).toList=zs.toList.take (i*sz)++v.cells.toList++zs.toList.drop (i*sz+sz):=by
   have hf:=Hf (i*sz) v.cells.toList 0 zs (by simp[hv];omega)
   simp only[BH,AU,hv]at hf;rw[<-hf,<-Array.foldl_toList,Array.toList_zipIdx]
  obtain⟨ys,hy1,hy2⟩:=JDu sz qs (i+1) (v.cells.zipIdx.foldl (λcs (x,j)=>cs.setIfInBounds (i*sz+j) x) zs) hi (λq hq=>hs q (by simp[hq])) (by
   have:=congrArg AW hfold;simp only[AU,Ah,AM,Ay,hv]at this;rw[this,show i+1+qs.length=i+(qs.length+1)by omega]
   omega)
  refine⟨ys,?_,?_⟩
  ·unfold Instr.fill
   simp only[hv];rw[if_neg (by simp;omega)]
   exact hy1
  ·rw[hy2,hfold]
   have hl1:(zs.toList.take (i*sz)++v.cells.toList).length=(i+1)*sz:=by simp only[Ah,AM,AU,hv];rw[Bf];omega
   rw[CL (by rw[hl1];exact Ab _),B2 (by rw[hl1];exact Ab _)]
   rw[List.drop_append,hl1]
   have hd:(zs.toList.take (i*sz)++v.cells.toList).drop ((i+1+qs.length)*sz)=[]:=by apply Bo;rw[hl1];exact AH _ om
   rw[hd,Ai,List.drop_drop];simp only[A3,C0,Ae,Ao]
   congr 4
   rw[show i+(qs.length+1)=(i+1+qs.length)by omega]
   have:(i+1)*sz<=(i+1+qs.length)*sz:=AH _ om;rw[Bf i 1]at this⊢;omega
theorem qw{α:Type}{sz:Nat}:∀{l:List (List α)} {i j:Nat} {row:List α},(∀r∈l,r.length=sz)->l[i]? =some row->j<sz->l.flatten[i*sz+j]? =row[j]?
 |[],i,j,row,_,hi,_=>by simp at hi
 |r::l,i,j,row,hs,hi,hj=>by
  have hr:r.length=sz:=hs r (by simp)
  rw[C0]
  cases i with
  |zero=>
   simp at hi;subst hi
   rw[Lj,AE,Bj om]
  |succ i=>
   rw[AZ (by rw[hr,Bf];omega),hr,show(i+1)*sz+j-sz=i*sz+j by rw[Bf];omega]
   exact qw (λq hq=>hs q (by simp[hq])) (by simpa using hi) hj
theorem Y2{α:Type}{sz:Nat}:∀{l:List (List α)},(∀r∈l,r.length=sz)->l.flatten.length=l.length*sz
 |[],_=>by simp
 |r::l,hs=>by
  rw[C0,Ah,hs r (by simp),Y2 (λq hq=>hs q (by simp[hq])),Ae,Bf]
  omega
theorem JAw(ρ:Operand->Value){o:Oper}{t:TypeId}{n:Nat}{parts:Array (Nat×Operand)}(ho:o.op= .buildSlice t n parts):
  execOp ρ o=(do pure (Next.value (<-Instr.buildSlice t n (parts.map λp=>(p.1,ρ p.2))))):=by
 unfold execOp;rw[ho]
theorem kK{w':World}{o:Oper}{t:TypeId}{n:Nat}{parts:Array (Nat×Operand)}(ho:o.op= .buildSlice t n parts){x:Value}
  (hr:(Instr.buildSlice t n (parts.map λp=>(p.1,a.eval p.2))).run P w= .ok x w'):Does P w a o x w':=Qj (JAw a.eval ho) hr
theorem zJ(w:World){t e:TypeId}{n:Nat}{qs:Array (Nat×Value)}{ie:TypeInfo}{zv:Value}(hu:P.underlying t=some (.slice e))(hie:P.info? e=some ie)(hzv:(zeroValue e).run P w= .ok zv w)
  (hn:qs.size=n)(hi:qs.toList.map (·.1)=Bq n)(hs:∀q∈qs.toList,q.2.cells.size=ie.size)(hle:n*ie.size<=16777216):
  ∃arr:Array Value,arr.toList=(qs.toList.map λq=>q.2.cells.toList).flatten/\
   (Instr.buildSlice t n qs).run P w= .ok (.slice (some ⟨w.heap.size,0,none⟩) n n) {w with heap:=w.heap.push (.cells arr e)}:=by
 have hle':¬n*ie.size>2^24:=by
  have:(2:Nat)^24=16777216:=by decide
  omega
 have hfill:=λz:Array Value=>JDu ie.size qs.toList 0 ((Array.range (n*ie.size)).map (z[· %z.size]!)) (by rw[hi,List.range_eq_range',AU,hn]) hs (by simp[hn])
 by_cases h0:n*ie.size=0
 ·obtain⟨ys,h1,h2⟩:=hfill #[]
  refine⟨ys,?_,?_⟩
  ·rw[h2]
   have hz1:((Array.range (n*ie.size)).map ((#[]:Array Value)[· % (#[]:Array Value).size]!)).toList=[]:=by rw[h0];simp
   rw[hz1];simp
  ·unfold Instr.buildSlice
   simp only[BB,run_underlying hu,Bk,WD hie,if_neg hle',if_pos h0,Dl];simp only[h1];rfl
 ·obtain⟨ys,h1,h2⟩:=hfill zv.cells
  refine⟨ys,?_,?_⟩
  ·rw[h2,Lj,List.take_zero,Ai,Bo,Av]
   simp[hn]
  ·unfold Instr.buildSlice
   simp only[BB,run_underlying hu,Bk,WD hie,if_neg hle',if_neg h0,Dl,hzv];simp only[h1];rfl
set_option maxHeartbeats 400000 in
theorem JHC{e:TypeId}{r q:List (List V)}(hb:byT e r q=true):∀T,BTy.bb=some T->J0 (r++q)=true->e=T:=λT hT hc=>by
 unfold byT at hb;rw[hT]at hb;simp only[A7,beq_iff_eq,Af,Ce]at hb;rcases hb with hb|⟨h1,h2⟩
 ·exact hb
 ·exfalso
  cases r with
  |nil=>rw[Ai,h2]at hc;cases hc
  |cons x r=>have:J0 (x::r++q)=J0 (x::r):=rfl;rw[this,h1]at hc;cases hc
theorem jq{r q:List (List V)}(h:r≠[]):J0 (r++q)=J0 r:=by
 cases r with
 |nil=>exact absurd rfl h
 |cons x r=>rfl
theorem Hj(hI:InvP vars E m c w g h a){o:Oper}{t e:TypeId}{n:Nat}{parts:Array (Nat×Operand)}(ho:o.op= .buildSlice t n parts)(hu:P.underlying t=some (.slice e))
  (hc:(parts.toList.map (·.1))=Bq n/\(K0 P e).isSome=true/\0<JG P e/\n*JG P e<=16777216/\((parts.toList.map λp=>cellsV (fzs (opd g p.2))).all λr=>r.length==JG P e&&r.all jo)=true/\byT e [] (parts.toList.map λp=>cellsV (fzs (opd g p.2)))=true)
  (hd:∀t,o.dst=some t->t<E.nt)(hv:∀t,o.dst=some t->t∉vars):
  Done P vars E w a o (.list .yes (parts.toList.map λp=>cellsV (fzs (opd g p.2)))) g h:=by
 obtain⟨c1,c2,c3,c4,c5,c6⟩:=hc;have hn:parts.toList.length=n:=by have:=congrArg AW c1;simpa using this
 have hall:∀p∈parts.toList,(cellsV (fzs (opd g p.2))).length=JG P e/\ ∀v∈cellsV (fzs (opd g p.2)),jo v=true:=λp hp=>by have:=As.1 c5 _ (AP.2 ⟨p,hp,rfl⟩);simpa using this
 have hrel:∀p∈parts.toList,R2 (VR1 m c w) (cellsV (fzs (opd g p.2))) (a.eval p.2).cells.toList:=λp hp=>by
  refine Qv (hI.core.opd p.2).fzs ?_
  have h2:=(hall p hp).2;cases hq:fzs (opd g p.2)<;>first|rfl|(rw[hq]at h2;have:=h2 _ (Bp.2 rfl);first|exact this|cases this)
 obtain⟨ie,hie⟩:∃ie,P.info? e=some ie:=by
  cases hie:P.info? e with
  |some ie=>exact⟨ie,rfl⟩
  |none=>simp[JG,Bx,hie]at c3
 have hsz:=JU hie;obtain⟨z0,hz0⟩:=Bi.1 c2;obtain⟨zv,hzv,rfl⟩:=Wt (w:=w) hz0
 have hflat:(((parts.map λp=>(p.1,a.eval p.2)).toList).map (λq=>q.2.cells.toList))=parts.toList.map λp=>(a.eval p.2).cells.toList:=by simp only[B5,Cn];apply A4;intro p _;rfl
 have hlen2:∀r∈parts.toList.map λp=>(a.eval p.2).cells.toList,r.length=JG P e:=λr hr=>by obtain⟨p,hp,rfl⟩:=AP.1 hr;rw[<-(hrel p hp).1,(hall p hp).1]
 obtain⟨arr,harr,hrun⟩:=zJ w (qs:=parts.map λp=>(p.1,a.eval p.2)) hu hie hzv (by simpa using hn) (by
   simp only[B5,Cn];have:(parts.toList.map ((λx=>x.1)∘λx:Nat×Operand=>(x.1,a.eval x.2)))=parts.toList.map (·.1):=by apply A4;intro p _;rfl
   rw[this,c1]) (λq hq=>by
   simp only[B5,AP]at hq;obtain⟨p,hp,rfl⟩:=hq;have:=(hrel p hp).1;rw[(hall p hp).1,hsz]at this
   simpa using this.symm) (by rw[<-hsz];exact c4)
 rw[hflat]at harr
 have hasz:arr.size=n*JG P e:=by rw[<-AU,harr,Y2 hlen2,Ag,hn]
 have hI':=Y1 hI (arr:=arr) (e:=e) (f:=(0,0)) (w':={w with heap:=w.heap.push (.cells arr e)}) (n*JG P e) rfl rfl rfl rfl (by rw[hasz];exact Ab _)
 have hheap:({w with heap:=w.heap.push (.cells arr e)}:World).heap[w.heap.size]? =some (.cells arr e (0,0)):=by simp
 have hlr:(parts.toList.map λp=>cellsV (fzs (opd g p.2))).length=n:=by simpa using hn
 have hold:∀b,b<w.heap.size->({w with heap:=w.heap.push (.cells arr e)}:World).heap[b]? =w.heap[b]? :=λb hb=>by
  show(w.heap.push _)[b]? =_
  rw[B7];simp[show¬b=w.heap.size by omega]
 have hext:Ext c w (λb=>if b=w.heap.size then n*JG P e else c b) {w with heap:=w.heap.push (.cells arr e)}:=by
  refine⟨λb=>?_,λb o ho=>?_,λb _=>Shp.old hold b⟩
  ·by_cases hb:b=w.heap.size
   ·subst hb;rw[hI.core.c_zero (Ab _)];exact A9 _
   ·simp[hb]
  ·rcases AG b w.heap.size with hb|hb
   ·exact JR (hold b hb) o
   ·rw[hI.core.c_zero hb]at ho;omega
 have hvp:VP (λb=>if b=w.heap.size then n*JG P e else c b) {w with heap:=w.heap.push (.cells arr e)} (.list .yes (parts.toList.map λp=>cellsV (fzs (opd g p.2)))) (.slice (some ⟨w.heap.size,0,none⟩) n n):=by
  have:=kJ (k:= .yes) (cap:=n) (c:=λb=>if b=w.heap.size then n*JG P e else c b) (rows:=parts.toList.map λp=>cellsV (fzs (opd g p.2))) hheap c3 (λrow hr=>by
    obtain⟨p,hp,rfl⟩:=AP.1 hr
    exact(hall p hp).1) (by rw[hlr];exact Ab _) (by simp only[hlr,if_true];exact Ab _) (λi j row v hi hj=>by
    simp only[Ax,Ak]at hi
    obtain⟨p,hp,rfl⟩:=hi;have hpm:=Ar hp;obtain⟨x,hx,hvx⟩:=(hrel p hpm).get hj;have hjl:j<JG P e:=by rw[<-(hall p hpm).1];exact(Ad.1 hj).1
    refine⟨x,?_,(JLf hvx ((hall p hpm).2 v (Ar hj))).mono hext⟩
    rw[<-BF,harr,qw hlen2 (i:=i) (row:=(a.eval p.2).cells.toList) (by simp[hp]) hjl]
    exact hx)
  rwa[hlr]at this
 have hdo:Does P w a o (.slice (some ⟨w.heap.size,0,none⟩) n n) {w with heap:=w.heap.push (.cells arr e)}:=kK ho hrun
 refine⟨.slice (some ⟨w.heap.size,0,none⟩) n n,{w with heap:=w.heap.push (.cells arr e)},m,λb=>if b=w.heap.size then n*JG P e else c b,hdo,?_⟩
 refine hI'.putOwn hd hvp ?_ ?_ ?_ (.inl hv)
 ·refine .inr ⟨w.heap.size,n,arr,e,JG P e,by rw[hlr],hheap,by rw[hlr];exact Ab _,?_,hasz,c3,λrow hr=>?_,by simp[hlr],?_,λh0=>?_,λT hT hb=>JHC c6 T hT hb⟩
  ·have:n*1<=n*JG P e:=D9 _ c3
   unfold maxLen;omega
  ·obtain⟨p,hp,rfl⟩:=AP.1 hr
   exact(hall p hp).1
  ·intro hb
   obtain⟨i,hi,hb⟩:=A8 hb;have:=hI.core.m_lt (Ac hi)
   omega
  ·have:=congrArg AW h0
   rw[hlr]at this;simpa using this
 ·intro l r' x' b hl hb hb'
  cases hb
  have hl':At m w g h a l r' x':=by
   cases l with
   |slot t=>exact hl
   |cell i j=>obtain⟨cs,b,k1,k2,k3,k4⟩:=hl;exact⟨cs,b,k1,k2,k3,by rw[<-JR (hold b (hI.core.m_lt k3))];exact k4⟩
  exact absurd ((hI.core.own l r' x' hl').lt hb').1 (De _)
 ·intro b hb
  cases hb;exact .inl hI.fr.size
end
section
variable{P:Program}{vars:List Nat}{m:List Nat}{c:Cl}{w:World}{g:Jj}{h:JC}{a:Act}{E:Entry}
def Src(P:Program)(w:World)(size k:Nat)(x:Value)(news:List Value):Prop:=
 ∀w',w'.heap=w.heap->(Builtin.lenOf x).run P w'= .ok k w'/\(Builtin.firstCells size k x).run P w'= .ok news.toArray w'
theorem JBm{t u e ty:TypeId}{ie:TypeInfo}{du:TypeDesc}(ht:P.underlying t=some (.slice e))(hu:P.underlying u=some du)(hdu:∀k,du≠ .int k)(hi:P.info? e=some ie)
  {b n cap k:Nat}{x:Value}{news:List Value}{cur:Array Value}{e':TypeId}(hs:Src P w ie.size k x news)(hb:w.heap[b]? =some (.cells cur e' (0,0)))
  (hroom:n+k<=cap)(hfit:n*ie.size+news.length<=cur.size)(hone:∀y∈news,y.oneCell'=true):
  (Builtin.append_ #[t,u] ty #[.slice (some ⟨b,0,none⟩) n cap,x]).run P w= .ok (.slice (some ⟨b,0,none⟩) (n+k) cap) (w.setCells b (n*ie.size) news):=by
 obtain⟨h1,h2⟩:=hs w rfl
 have hst:=run_storeCells_cells (P:=P) b (n*ie.size) news 0 w (λj hj=>by
   rw[Jm hb];have:n*ie.size+j<cur.size:=om
   simp[this]) (λj hj=>by simp[B4,hb]) hone
 unfold Builtin.append_;simp only[BB,run_underlying ht,run_underlying hu,Bk,WD hi,Dl,Cs,BP,CM,h1,Am,if_false,if_pos hroom,KC,AE,DH,if_true,h2]
 simp only[BH]at hst;simp[hst]
theorem yA{t u e ty:TypeId}{ie:TypeInfo}{z:Value}{du:TypeDesc}(ht:P.underlying t=some (.slice e))(hu:P.underlying u=some du)(hdu:∀k,du≠ .int k)(hi:P.info? e=some ie)(hz:ie.zero=some z)
  {base:Option Addr}{n cap k:Nat}{x:Value}{olds news:List Value}(hs:Src P w ie.size k x news)(ho:∀w',w'.heap=w.heap->(Builtin.firstCells ie.size n (.slice base n cap)).run P w'= .ok olds.toArray w')
  (hroom:cap<n+k)(h63:n+k<=9223372036854775807)(hfit:(n+k)*ie.bytes<=140737488355328):
  (Builtin.append_ #[t,u] ty #[.slice base n cap,x]).run P w=
   .ok (.slice (some ⟨w.heap.size,0,none⟩) (n+k) (grownCap w (n+k) cap e)) (w.drew.alloc (.cells (olds.toArray++news.toArray++Builtin.zeroCells z.cells (grownCap w (n+k) cap e-(n+k))) e)):=by
 obtain⟨h1,_⟩:=hs w rfl;obtain⟨_,h2⟩:=hs w.drew rfl;have h3:=ho w.drew rfl;have hn:¬(n+k<=cap):=om;have h63':¬(9223372036854775807<((n:Int)+(k:Int))):=om;have h48:=growslice_fits hroom hfit;have h48':¬(281474976710656<Builtin.nextslicecap (n+k) cap*ie.bytes):=om;simp[Builtin.append_,run_underlying ht,run_underlying hu,sizeOf,typeInfo,zeroValue,hi,hz,h1,hn,h63',h48',Question.forced,newRow,grownCap,h3,h2]
 congr 2
 apply Array.ext';simp[Ao]
theorem yB{e:TypeId}{ie:TypeInfo}(hie:P.info? e=some ie){v:V}{x:Value}{q:List (List V)}(hv:VRr m c w v x)(hq:WY P e v=some q)(hsz:0<ie.size):
  ∃news:List Value,Src P w ie.size q.length x news/\news.length=q.length*ie.size/\(∀row∈q,row.length=ie.size)/\
   ∀(i j:Nat) row u,q[i]? =some row->row[j]? =some u->∃y,news[i*ie.size+j]? =some y/\VP c w u y:=by
 have hts:=JU hie;unfold WY at hq
 split at hq
 ·cases hq
  have:x= .slice none 0 0:=hv;subst this;exact⟨[],λw' _=>⟨rfl,rfl⟩,by simp,λrow hr=>by simp at hr,λi j row u hi=>by simp at hi⟩
 ·rename_i k r
  split at hq
  ·rename_i hall
   have hq':=Bs hq;subst hq'
   have hall':∀row∈r,row.length=ie.size:=λrow hr=>by have:=As.1 hall row hr;rw[hts]at this;simpa using this
   have hp:VP c w (.list k r) x:=hv
   cases hp with
   |empty k ao cap=>
    refine⟨[],λw' _=>⟨rfl,?_⟩,by simp,hall',λi j row u hi=>by simp at hi⟩
    cases ao<;>simp[Builtin.firstCells,loadCells,loadCellsFrom]
   |list k rows ad cap sz xs hne hsz' hspot hcap hcl hrow hcell hrec=>
    have hseq:sz=ie.size:=by
     obtain⟨r0,hr0⟩:=Cr _ hne;obtain⟨i0,hi0,hi1⟩:=A8 hr0;have h2:=hrow i0 r0 (by rw[Ac hi0,hi1])
     rw[<-h2,hall' r0 hr0]
    subst hseq;have hlt:∀j,j<r.length*ie.size->j/ie.size<r.length:=λj hj=>DX (by rw[C8];exact hj)
    have hdm:∀j,j/ie.size*ie.size+j%ie.size=j:=λj=>by rw[C8];exact Lp j ie.size
    have hcells:∀j,j<r.length*ie.size->∀w':World,w'.heap=w.heap->w'.cell? (ad.add j)=some (xs (j/ie.size) (j%ie.size)):=λj hj w' hw'=>by
     have h1:r[j/ie.size]? =some (r[j/ie.size]'(hlt j hj)):=Ac (hlt j hj)
     have h2:=hrow _ _ h1;have h3:j%ie.size<(r[j/ie.size]'(hlt j hj)).length:=by rw[h2];exact DY _ hsz
     have h4:=hcell _ _ _ _ h1 (Ac h3)
     rw[Dd,hdm]at h4;rw[jV hspot,JR (w:=w) (w':=w') (by rw[hw'])]
     exact h4
    refine⟨(Bq (r.length*ie.size)).map λj=>xs (j/ie.size) (j%ie.size),λw' hw'=>⟨rfl,?_⟩,by simp,hall',λi j row u hi hj=>?_⟩
    ·simp only[Builtin.firstCells]
     exact run_loadCells w' ad _ _ (λj hj=>hcells j hj w' hw')
    ·have h1:=hrow i row hi
     have hjl:j<ie.size:=by rw[<-h1];exact(Ad.1 hj).1
     have hil:i<r.length:=(Ad.1 hi).1
     have hb:i*ie.size+j<r.length*ie.size:=by have:(i+1)*ie.size<=r.length*ie.size:=AH _ hil;rw[Bf]at this;omega
     have hd:(i*ie.size+j)/ie.size=i:=by rw[C8,Nat.mul_add_div hsz,Nat.div_eq_of_lt hjl,BH]
     have hm:(i*ie.size+j)%ie.size=j:=by rw[C8,Nat.mul_add_mod,Mh hjl]
     refine⟨xs i j,?_,hrec i j row u hi hj⟩
     simp[hb,hd,hm]
  ·cases hq
 ·rename_i s
  split at hq
  ·rename_i hu
   cases hq;have:x= .string s:=hv;subst this;have h1:ie.size=1:=by rw[<-hts];exact hu.2
   rw[h1];have hl:(KP s).length=s.size:=by simp[KP]
   refine⟨s.data.toList.map λb=> .int .u8 b.toNat,λw' _=>⟨by rw[hl]<;>rfl,?_⟩,by simp[KP],λrow hr=>?_,λi j row u hi hj=>?_⟩
   ·rw[hl]
    simp only[Builtin.firstCells,Dl]
    congr 1
    apply Array.ext';simp
   ·unfold KP at hr
    simp only[AP]at hr;obtain⟨c,_,rfl⟩:=hr;rfl
   ·obtain⟨c,hc,rfl,rfl⟩:=qv hi hj
    exact⟨.int .u8 c.toNat,by simp[hc],.v _ rfl⟩
  ·cases hq
 ·cases hq
def JOe(E:Entry)(m:List Nat)(c:Cl)(w:World)(g:Jj)(h:JC)(a:Act)(r:List (List V))(y:Value):Prop:=
 VP c w (.list .yes r) y/\OwnB m c w r y/\(∀l r' x' b,At m w g h a l r' x'->Jo y=some b->Jo x'≠some b)/\ ∀b,Jo y=some b->E.w.heap.size<=b\/E.ho b
theorem JDv(hI:InvP vars E m c w g h a):InvP vars E m c w (Lift.untag g) h a/\JOe E m c w (Lift.untag g) h a [] (.slice none 0 0):=
 ⟨hI.untag,.empty _ _ _,.inl ⟨rfl,rfl⟩,λ_ _ _ _ _ hb=>(by cases hb),λ_ hb=>(by cases hb)⟩
theorem kL(hI:InvP vars E m c w g h a){u:Nat}{r:List (List V)}(hu:look g u= .list .yes r):InvP vars E m c w (Lift.untag (Lift.ins u (.list .no r) g)) h a/\JOe E m c w (Lift.untag (Lift.ins u (.list .no r) g)) h a r (a.tmps.getD u undef):=by
 have hat:At m w g h a (.slot u) r (a.tmps.getD u undef):=⟨hu,rfl⟩;have hv:=hI.core.env u;rw[hu]at hv;refine⟨hI.release hu,hv,hI.core.own _ _ _ hat,λl r' x' b hl hb hb'=>?_,λb hb=>hI.owned _ _ _ b hat trivial hb⟩
 obtain⟨n1,hl'⟩:=Gj hl;exact n1 (hI.core.uniq l _ r' r x' _ b hl' hat hb' hb)
theorem Gl(hI:InvP vars E m c w g h a){i j:Nat}{cs:List V}{q:List (List V)}(hcs:cellsOfOb h i=some cs)(hj:cs[j]? =some (.list .yes q))(hlo:E.lo<=i):
  ∃y,At m w g h a (.cell i j) q y/\InvP vars E m c w (Lift.untag g) (Lift.setOb h i (cs.set j (.list .no q))) a/\JOe E m c w (Lift.untag g) (Lift.setOb h i (cs.set j (.list .no q))) a q y:=by
 have hcs0:h[i]? =some (.cells cs):=by
  unfold cellsOfOb at hcs
  split at hcs
  ·rename_i h0;cases hcs;exact h0
  ·cases hcs
 have hil:i<m.length:=by rw[hI.core.len];exact(Ad.1 hcs0).1
 have hm:=Ac hil
 obtain⟨arr,e,f,hw,hle,hfr,hall,hbld⟩:=hI.core.ob i _ _ hcs0 hm;have hjl:j<cs.length:=(Ad.1 hj).1
 have haj:arr[j]? =some arr[j]:=BQ om
 have hat:At m w g h a (.cell i j) q arr[j]:=⟨cs,m[i],hcs,hj,hm,by rw[Jm hw];exact haj⟩
 have hcq:∀(k:Nat) (r:List (List V)),(cs.set j (.list .no q))[k]? =some (.list .yes r)->k≠j/\cs[k]? =some (.list .yes r):=λk r hk=>by
  rw[BK]at hk
  by_cases hjk:j=k
  ·subst hjk;simp[hjl]at hk
  ·exact⟨Ne.symm hjk,by simpa[hjk]using hk⟩
 refine⟨arr[j],hat,hI.untag.setOb (w':=w) cs.length hlo hm rfl (λ_ _=>rfl) rfl rfl rfl ?_ ?_ (λt i j r=>Wv t i j r) ?_ (Shp.refl w _),?_⟩
 ·refine⟨arr,e,f,hw,by simpa using hle,λk hk=>hfr k (by simpa using hk),λk v x hv hx=>?_,λT hT hc=>?_⟩
  ·rw[BK]at hv
   by_cases hjk:j=k
   ·subst hjk
    simp only[if_true,hjl,Aj]at hv;subst hv;have:=hall j _ x hj hx;exact⟨VP.flag this.1 _,this.2⟩
   ·simp only[if_neg hjk]at hv
    exact hall k v x hv hx
  ·obtain⟨x,k2,k3⟩:=Qw.1 hc
   rw[Ca]at hT⊢;rw[BK]at k2
   by_cases hj0:j=0
   ·subst hj0
    simp only[if_true,hjl,Aj]at k2;subst k2;cases k3
   ·simp only[if_neg hj0]at k2
    exact hbld T hT (Qw.2 ⟨x,k2,k3⟩)
 ·intro cs' k r x hc hk hx
  cases hc;obtain⟨hne,hk'⟩:=hcq k r hk;refine .inr ⟨λ_=>⟨cs,m[i],hcs,hk',hm,hx⟩,λhkl=>?_⟩
  have:=(Ad.1 hk').1
  omega
 ·intro cs' hc hib n hin h0 v hv
  cases hc;rcases C4 hv with hv|rfl
  ·exact h0 cs hcs v hv
  ·rfl
 ·have h1:=(hall j _ _ hj haj).1
  refine⟨h1,hI.core.own _ _ _ hat,λl r' x' b hl hb hb'=>?_,λb hb=>hI.owned _ _ _ b hat hlo hb⟩
  have:At m w g h a l r' x'/\l≠ .cell i j:=by
   cases l with
   |slot t=>exact⟨JJX (h:=h) hl,λe=>by cases e⟩
   |cell k s=>
    obtain⟨cs',b',k1,k2,k3,k4⟩:=hl;rcases Z5 k1 with⟨rfl,ho⟩|⟨hki,hcs'⟩
    ·cases ho
     obtain⟨hne,hk'⟩:=hcq s r' k2;exact⟨⟨cs,b',hcs,hk',k3,k4⟩,λe=>hne (by cases e;rfl)⟩
    ·exact⟨⟨cs',b',hcs',k2,k3,k4⟩,λe=>hki (by cases e;rfl)⟩
  exact this.2 (hI.core.uniq l _ r' q x' _ b this.1 hat hb' hb)
theorem Gm(hI:InvP vars E m c w g h a){x:Operand}{r:List (List V)}{g1:Jj}{h1:JC}(ho:GG E.lo (g,h) x=some (r,g1,h1)):
  InvP vars E m c w (Lift.untag g1) h1 a/\JOe E m c w (Lift.untag g1) h1 a r (a.eval x):=by
 unfold GG at ho
 split at ho
 ·rename_i t
  split at ho
  ·rename_i hl
   cases ho;have hv:=hI.core.env t;rw[hl]at hv;have hv':a.eval (.tmp t)= .slice none 0 0:=hv;rw[hv'];exact JDv hI
  ·rename_i q hl
   cases ho;exact kL hI hl
  ·rename_i u q hl
   split at ho
   ·rename_i q' hu
    cases ho;obtain⟨_,k1,k2⟩:=hI.core.tagS t u r hl;simp only at hu;rw[hu]at k1;cases k1;have:=kL hI hu;rw[show a.eval (.tmp t)=a.tmps.getD u undef from k2]
    exact this
   ·cases ho
  ·rename_i i j q hl
   split at ho
   ·rename_i cs hcs
    split at ho
    ·rename_i q' hj
     split at ho
     ·rename_i hlo
      cases ho;have hat:=hI.core.tagC t i j r hl;obtain⟨cs2,b2,k1,k2,k3,k4⟩:=hat;simp only at hcs;rw[hcs]at k1;cases k1;rw[hj]at k2;cases k2;obtain⟨y,hy,hI',hO⟩:=Gl hI hcs hj hlo;obtain⟨cs3,b3,e1,e2,e3,e4⟩:=hy;rw[k3]at e3;cases e3;rw[k4]at e4;have:a.eval (.tmp t)=y:=Bs e4;rw[this];exact⟨hI',hO⟩
     ·cases ho
    ·cases ho
   ·cases ho
  ·cases ho
 ·rename_i k
  split at ho
  ·rename_i hk
   cases ho
   have:a.eval (.const k)= .slice none 0 0:=by have:=hI.core.opd (.const k);simp only[opd,hk]at this;exact this
   rw[this];exact JDv hI
  ·cases ho
 ·cases ho
theorem GN{r:List (List V)}{b cap sz:Nat}{cur:Array Value}{e:TypeId}{f:Nat×Nat}{ao:Option Addr}(hp:VP c w (.list .yes r) (.slice ao r.length cap))(ha:ao=some ⟨b,0,none⟩)(hb:w.heap[b]? =some (.cells cur e f))(hrow:∀row∈r,row.length=sz):
  ∀(i j:Nat) row v,r[i]? =some row->row[j]? =some v->∃x,cur[i*sz+j]? =some x/\VP c w v x:=by
 intro i j row v hi hj;generalize hn:r.length=n at hp
 cases hp with
 |empty=>simp at hi
 |list k rows ad cap sz' xs hne hsz hspot hcap hcl hrow' hcell hrec=>cases ha;have h1:=hrow' i row hi;have h2:=hrow row (Ar hi);rw[h2]at h1;subst h1;have h3:=hcell i j row v hi hj;rw[Jm hb,AE]at h3;exact⟨_,h3,hrec i j row v hi hj⟩
theorem Zk{r q:List (List V)}{olds news:List Value}{sz:Nat}{R:V->Value->Prop}(hl:olds.length=r.length*sz)
  (h1:∀(i j:Nat) row v,r[i]? =some row->row[j]? =some v->∃x,olds[i*sz+j]? =some x/\R v x)(h2:∀(i j:Nat) row v,q[i]? =some row->row[j]? =some v->∃x,news[i*sz+j]? =some x/\R v x):
  ∀(i j:Nat) row v,(r++q)[i]? =some row->row[j]? =some v->∃x,(olds++news)[i*sz+j]? =some x/\R v x:=by
 intro i j row v hi hj;rw[B9]at hi
 split at hi
 ·rename_i hlt
  obtain⟨x,hx,hv⟩:=h1 i j row v hi hj;exact⟨x,by rw[Bj (Ad.1 hx).1];exact hx,hv⟩
 ·rename_i hge
  obtain⟨x,hx,hv⟩:=h2 _ j row v hi hj;refine⟨x,?_,hv⟩
  have:r.length*sz<=i*sz:=AH _ om;rw[AZ (by rw[hl];omega),hl]
  rw[Nat.sub_mul]at hx;rw[show i*sz+j-r.length*sz=i*sz-r.length*sz+j by omega]
  exact hx
theorem JOf(hI:InvP vars E m c w g h a){o:Oper}{r q:List (List V)}{olds news:List Value}{rest:Array Value}{e:TypeId}{cap sz:Nat}(hsz:0<sz)
  (hlo:olds.length=r.length*sz)(hln:news.length=q.length*sz)(hr:∀row∈r,row.length=sz)(hq:∀row∈q,row.length=sz)
  (h1:∀(i j:Nat) row v,r[i]? =some row->row[j]? =some v->∃x,olds[i*sz+j]? =some x/\VP c w v x)(h2:∀(i j:Nat) row v,q[i]? =some row->row[j]? =some v->∃x,news[i*sz+j]? =some x/\VP c w v x)
  (hbt:∀T,BTy.bb=some T->J0 (r++q)=true->e=T)(hcap:r.length+q.length<=cap)(hrest:rest.size=(cap-(r.length+q.length))*sz)(hmax:cap<=maxLen)(hne:r++q≠[])
  (hdo:Does P w a o (.slice (some ⟨w.heap.size,0,none⟩) (r.length+q.length) cap) (w.drew.alloc (.cells (olds.toArray++news.toArray++rest) e)))
  (hd:∀t,o.dst=some t->t<E.nt)(hv:∀t,o.dst=some t->t∉vars):Done P vars E w a o (.list .yes (r++q)) g h:=by
 have hasz:(olds.toArray++news.toArray++rest).size=cap*sz:=by
  simp only[C1,Cf,hlo,hln,hrest];rw[<-Bf,<-Bf]
  congr 1
  omega
 have hnle:(r.length+q.length)*sz<=cap*sz:=AH _ hcap;have hI':=Y1 hI (arr:=olds.toArray++news.toArray++rest) (e:=e) (f:=(0,0)) (w':=w.drew.alloc (.cells (olds.toArray++news.toArray++rest) e)) ((r.length+q.length)*sz) rfl rfl rfl rfl (by rw[hasz];exact hnle)
 have hheap:(w.drew.alloc (.cells (olds.toArray++news.toArray++rest) e)).heap[w.heap.size]? =some (.cells (olds.toArray++news.toArray++rest) e (0,0)):=heap_alloc_new w.drew _
 have hold:∀b,b<w.heap.size->(w.drew.alloc (.cells (olds.toArray++news.toArray++rest) e)).heap[b]? =w.heap[b]? :=λb hb=>by
  show(w.heap.push _)[b]? =_
  rw[B7];simp[show¬b=w.heap.size by omega]
 have hext:Ext c w (λb=>if b=w.heap.size then(r.length+q.length)*sz else c b) (w.drew.alloc (.cells (olds.toArray++news.toArray++rest) e)):=by
  refine⟨λb=>?_,λb o ho=>?_,λb _=>Shp.old hold b⟩
  ·by_cases hb:b=w.heap.size
   ·subst hb;rw[hI.core.c_zero (Ab _)];exact A9 _
   ·simp[hb]
  ·rcases AG b w.heap.size with hb|hb
   ·exact JR (hold b hb) o
   ·rw[hI.core.c_zero hb]at ho;omega
 have hl2:(r++q).length=r.length+q.length:=by simp
 have hrq:∀row∈r++q,row.length=sz:=λrow hm=>by
  rcases AN.1 hm with hm|hm
  ·exact hr row hm
  ·exact hq row hm
 have hvp:=kJ (k:= .yes) (cap:=cap) (c:=λb=>if b=w.heap.size then(r.length+q.length)*sz else c b) (rows:=r++q) hheap hsz hrq (by rw[hl2];exact hcap) (by simp only[hl2,if_true];exact Ab _) (λi j row v hi hj=>by
  obtain⟨x,hx,hxv⟩:=Zk hlo h1 h2 i j row v hi hj;refine⟨x,?_,hxv.mono hext⟩
  rw[BL]
  ·rw[<-BF];simpa using hx
  ·have:=(Ad.1 hx).1
   simpa using this)
 rw[hl2]at hvp;refine⟨_,_,m,λb=>if b=w.heap.size then(r.length+q.length)*sz else c b,hdo,?_⟩
 refine hI'.putOwn hd hvp ?_ ?_ ?_ (.inl hv)
 ·refine .inr ⟨w.heap.size,cap,_,e,sz,by rw[hl2],hheap,by rw[hl2];exact hcap,hmax,hasz,hsz,hrq,by simp,?_,λh0=>absurd h0 hne,hbt⟩
  intro hb;obtain⟨i,hi,hb⟩:=A8 hb;have:=hI.core.m_lt (Ac hi)
  omega
 ·intro l r' x' b hl hb hb'
  cases hb
  have hl':At m w g h a l r' x':=by
   cases l with
   |slot t=>exact hl
   |cell i j=>obtain⟨cs,b,k1,k2,k3,k4⟩:=hl;exact⟨cs,b,k1,k2,k3,by rw[<-JR (hold b (hI.core.m_lt k3))];exact k4⟩
  exact absurd ((hI.core.own l r' x' hl').lt hb').1 (De _)
 ·intro b hb
  cases hb;exact .inl hI.fr.size
theorem JDw(hI:InvP vars E m c w g h a){o:Oper}{r q:List (List V)}{news:List Value}{b cap sz:Nat}{cur:Array Value}{e:TypeId}(hb:w.heap[b]? =some (.cells cur e (0,0)))
  (hO:JOe E m c w g h a r (.slice (some ⟨b,0,none⟩) r.length cap))(hcur:cur.size=cap*sz)(hsz:0<sz)(hr:∀row∈r,row.length=sz)(hq:∀row∈q,row.length=sz)(hc:c b=r.length*sz)(hbm:b∉m)(hmax:cap<=maxLen)
  (hln:news.length=q.length*sz)(h2:∀(i j:Nat) row v,q[i]? =some row->row[j]? =some v->∃x,news[i*sz+j]? =some x/\VP c w v x)(hbt:∀T,BTy.bb=some T->J0 (r++q)=true->e=T)(hcap:r.length+q.length<=cap)(hne:r++q=[]->cap=0)
  (hdo:Does P w a o (.slice (some ⟨b,0,none⟩) (r.length+q.length) cap) (w.setCells b (r.length*sz) news))
  (hd:∀t,o.dst=some t->t<E.nt)(hv:∀t,o.dst=some t->t∉vars):Done P vars E w a o (.list .yes (r++q)) g h:=by
 have hnle:(r.length+q.length)*sz<=cap*sz:=AH _ hcap;have hfit:r.length*sz+news.length<=cur.size:=by rw[hln,hcur,<-Bf];exact hnle
 obtain⟨k1,k2,k3,k4,k5,arr',k6,k7⟩:=Jg b news (r.length*sz) w cur e (0,0) hb hfit;have hbl:b<w.heap.size:=(AX.1 hb).1
 have hasz:arr'.size=cap*sz:=by rw[<-hcur,<-AU,k7];simp only[Ah,AM,Ay,AU];omega
 have hget:∀k,k<r.length*sz->arr'[k]? =cur[k]? :=λk hk=>by
  rw[<-BF,k7,K9 (by simpa using hfit),if_neg om]
  simp
 have hI':=hI.grown (c':=λk=>if k=b then(r.length+q.length)*sz else c k) (w':=w.setCells b (r.length*sz) news) (some b) (by rw[k1];exact Ab _)
  (λk hk hne=>⟨k2 k (λe=>hne (by rw[e])),by simp[show¬k=b from λe=>hne (by rw[e])]⟩)
  (λk hk=>by
   cases hk;refine⟨hbm,λl r' x' hl=>?_,hO.2.2.2 b rfl,?_,λo ho=>?_,⟨arr',e,(0,0),k6,by simp only[if_true];rw[hasz];exact hnle⟩,λ_=>QX hb hfit⟩
   ·exact hO.2.2.1 l r' x' b hl rfl
   ·simp only[if_true,hc];exact AH _ om
   ·rw[Jm k6,Jm hb]
    exact hget o (by rw[<-hc];exact ho))
  (λk hk hne h0=>by
   have:¬k=b:=λe=>hne (by rw[e])
   simp only[if_neg this]at h0
   rw[hI.core.c_zero hk]at h0;omega) k3 k4 k5
 have hext:Ext c w (λk=>if k=b then(r.length+q.length)*sz else c k) (w.setCells b (r.length*sz) news):=by
  refine⟨λk=>?_,λk o ho=>?_,λk _=>?_⟩
  rotate_left 2
  ·by_cases hk:k=b
   ·rw[hk];exact QX hb hfit
   ·exact Shp.same (k2 k hk)
  ·by_cases hk:k=b
   ·subst hk;simp only[if_true,hc];exact AH _ om
   ·simp[hk]
  ·by_cases hk:k=b
   ·subst hk
    rw[Jm k6,Jm hb];exact hget o (by rw[<-hc];exact ho)
   ·exact JR (k2 k hk) o
 have hl2:(r++q).length=r.length+q.length:=by simp
 have hrq:∀row∈r++q,row.length=sz:=λrow hm=>by
  rcases AN.1 hm with hm|hm
  ·exact hr row hm
  ·exact hq row hm
 have holds:=GN hO.1 rfl hb hr
 have holdl:(cur.toList.take (r.length*sz)).length=r.length*sz:=by rw[AM,AU];exact Ci (AY (Nat.le_add_right _ _) hfit)
 have hvp:=kJ (k:= .yes) (cap:=cap) (c:=λk=>if k=b then(r.length+q.length)*sz else c k) (rows:=r++q) k6 hsz hrq (by rw[hl2];exact hcap) (by simp only[hl2,if_true];exact Ab _) (λi j row v hi hj=>by
  obtain⟨x,hx,hxv⟩:=Zk (olds:=cur.toList.take (r.length*sz)) (news:=news) holdl (λi j row v hi hj=>by
   obtain⟨x,hx,hxv⟩:=holds i j row v hi hj;refine⟨x,?_,hxv⟩
   have hjl:j<sz:=by rw[<-hr row (Ar hi)];exact(Ad.1 hj).1
   have hil:i<r.length:=(Ad.1 hi).1
   have:(i+1)*sz<=r.length*sz:=AH _ hil;rw[Bf]at this;rw[AK,if_pos om]
   simpa using hx) h2 i j row v hi hj
  refine⟨x,?_,hxv.mono hext⟩
  rw[<-BF,k7,Bj (Ad.1 hx).1]
  exact hx)
 rw[hl2]at hvp;refine⟨_,_,m,λk=>if k=b then(r.length+q.length)*sz else c k,hdo,?_⟩
 refine hI'.putOwn hd hvp ?_ ?_ ?_ (.inl hv)
 ·exact .inr ⟨b,cap,arr',e,sz,by rw[hl2],k6,by rw[hl2];exact hcap,hmax,hasz,hsz,hrq,by simp,hbm,hne,hbt⟩
 ·intro l r' x' k hl hk
  cases hk
  have hl':At m w g h a l r' x':=by
   cases l with
   |slot t=>exact hl
   |cell i j=>obtain⟨cs,b',q1,q2,q3,q4⟩:=hl;exact⟨cs,b',q1,q2,q3,by rw[<-JR (k2 b' (λe=>hbm (e▸Ar q3)))];exact q4⟩
  exact hO.2.2.1 l r' x' b hl' rfl
 ·intro k hk
  cases hk;exact hO.2.2.2 b rfl
theorem Hk(ρ:Operand->Value){o:Oper}{k:Call}(ho:o.op= .call k)(hc:k.callee= .builtin .append):execOp ρ o=(do pure (Next.value (<-Builtin.append_ k.argTypes o.type (k.args.map ρ)))):=by simp[execOp,ho,resolve,hc,invoke,builtin]
theorem JLg(hI:InvP vars E m c w g h a){o:Oper}{k:Call}{x y:Operand}{e:TypeId}{du:TypeDesc}{r q:List (List V)}{g1:Jj}{h1:JC}(ho:o.op= .call k)(hc:k.callee= .builtin .append)(hargs:k.args.toList=[x,y])
  (htypes:k.argTypes.toList.map P.underlying=[some (.slice e),some du])(hown:GG E.lo (g,h) x=some (r,g1,h1))(hq:WY P e (opd g y)=some q)
  (hcond:(K0 P e).map (·.length)=some (JG P e)/\0<JG P e/\(r.all λz=>z.length==JG P e)=true/\(r.length+q.length)*P.bytesOf e<=140737488355328/\r.length+q.length<=9223372036854775807/\Hc du=true/\byT e r q=true)
  (hd:∀t,o.dst=some t->t<E.nt)(hv:∀t,o.dst=some t->t∉vars):Done P vars E w a o (.list .yes (r++q)) (Lift.untag g1) h1:=by
 obtain⟨c1,c2,c3,c4,c5,c6,c7⟩:=hcond;obtain⟨hI1,hO⟩:=Gm hI hown
 obtain⟨ie,hie⟩:∃ie,P.info? e=some ie:=by
  cases hie:P.info? e with
  |some ie=>exact⟨ie,rfl⟩
  |none=>simp[JG,Bx,hie]at c2
 have hsz:=JU hie;have hsz0:0<ie.size:=by rw[<-hsz];exact c2
 obtain⟨z,hz,hzl⟩:∃z,ie.zero=some z/\z.cells.size=ie.size:=by
  unfold K0 at c1;rw[hie]at c1
  cases hz:ie.zero with
  |none=>simp[hz]at c1
  |some z=>simp[hz]at c1;exact⟨z,rfl,by rw[c1,hsz]⟩
 have hby:P.bytesOf e=ie.bytes:=by simp[DA,hie]
 rw[hby]at c4;obtain⟨news,hsrc,hnl,hqr,hnew⟩:=yB hie (hI.core.opd y) hq hsz0
 have hrr:∀row∈r,row.length=ie.size:=λrow hr=>by have:=As.1 c3 row hr;rw[hsz]at this;simpa using this
 obtain⟨t,u,ht2,htu,huu⟩:∃t u,k.argTypes= #[t,u]/\P.underlying t=some (.slice e)/\P.underlying u=some du:=by
  rcases hl:k.argTypes.toList with _|⟨t,_|⟨u,_|⟨v,l⟩⟩⟩<;>rw[hl]at htypes<;>simp at htypes
  exact⟨t,u,by rw[<-Cm (xs:=k.argTypes),hl],htypes.1,htypes.2⟩
 have hdu:∀kk,du≠ .int kk:=λkk e=>by subst e;cases c6
 have hargs':k.args.map a.eval= #[a.eval x,a.eval y]:=by rw[<-Cm (xs:=k.args),hargs];simp
 have hdo:∀v w',(Builtin.append_ #[t,u] o.type #[a.eval x,a.eval y]).run P w= .ok v w'->Does P w a o v w':=λv w' hr=>by
  refine Qj (Hk a.eval ho hc) ?_
  rw[ht2,hargs'];exact hr
 have hone:∀v∈news,v.oneCell'=true:=λv hv=>by
  obtain⟨p,hp,rfl⟩:=A8 hv;have hp':p/ie.size<q.length:=DX (by rw[C8,<-hnl];exact hp)
  have hrow:=hqr _ (Ba hp');have hm:p%ie.size<(q[p/ie.size]).length:=by rw[hrow];exact DY _ hsz0
  obtain⟨z',hz',hvp⟩:=hnew _ _ _ _ (Ac hp') (Ac hm)
  rw[C8,Lp,Ac hp]at hz'
  cases hz';exact hvp.oneCell
 have hgrow:∀{base:Option Addr} {cap:Nat} {olds:List Value},a.eval x= .slice base r.length cap->(∀w',w'.heap=w.heap->(Builtin.firstCells ie.size r.length (.slice base r.length cap)).run P w'= .ok olds.toArray w')->
   olds.length=r.length*ie.size->(∀(i j:Nat) row v,r[i]? =some row->row[j]? =some v->∃x,olds[i*ie.size+j]? =some x/\VP c w v x)->cap<r.length+q.length->Done P vars E w a o (.list .yes (r++q)) (Lift.untag g1) h1:=λ{base cap olds} hx hf hol hoc hlt=>by
  have hrun:=yA (P:=P) (w:=w) (ty:=o.type) htu huu hdu hie hz hsrc hf hlt c5 c4;rw[<-hx]at hrun;have hge:=grownCap_ge w (r.length+q.length) cap e;refine JOf hI1 hsz0 hol hnl hrr hqr hoc hnew (JHC c7) hge ?_ (grownCap_le_maxLen w _ _ e (by unfold maxLen;exact c5)) ?_ (hdo _ _ hrun) hd hv
  ·rw[size_zeroCells,hzl]
  ·intro h0
   have:=congrArg AW h0;rw[Ah,An]at this;omega
 rcases hO.2.1 with⟨hx,hr0⟩|⟨b,cap,cur,e',sz,hx,k1,k2,k3,k4,k5,k6,k7,k8,k9,k10⟩
 ·subst hr0
  by_cases hk:q.length=0
  ·have hq0:q=[]:=AC hk
   subst hq0;refine⟨.slice none 0 0,w,m,c,hdo _ _ ?_,hI1.putOwn hd (.empty _ _ _) (.inl ⟨rfl,rfl⟩) (λ_ _ _ _ _ hb=>by cases hb) (λ_ hb=>by cases hb) (.inl hv)⟩
   obtain⟨s1,s2⟩:=hsrc w rfl
   have hzz:(match du with| .int _=>true|_=>false)=false:=by cases du<;>first|rfl|(exact absurd rfl (hdu _))
   have hnews:news=[]:=AC (by rw[hnl];simp)
   subst hnews;rw[hx];simp only[An]at s1 s2;simp[Builtin.append_,run_underlying htu,run_underlying huu,sizeOf,typeInfo,hie,s1,s2]
  ·exact hgrow (base:=none) (cap:=0) (olds:=[]) hx (λw' _=>by simp[Builtin.firstCells]) (by simp) (λi j row v hi=>by simp at hi) (by simp;omega)
 ·by_cases hroom:r.length+q.length<=cap
  ·by_cases hr0:r=[]
   ·subst hr0
    have hcap0:=k9 rfl;subst hcap0;have hq0:q=[]:=AC (by rw[An]at hroom;omega)
    subst hq0;have hnews:news=[]:=AC (by rw[hnl];simp)
    subst hnews;rw[hx]at hO;refine JDw (news:=[]) hI1 k1 hO k4 k5 (λ_ h0=>by cases h0) (λ_ h0=>by cases h0) k7 k8 k3 (by simp) (λi j row v hi=>by simp at hi) (λT hT hb=>by cases hb) hroom (λ_=>rfl) (hdo _ _ ?_) hd hv
    have:=JBm (P:=P) (w:=w) (ty:=o.type) htu huu hdu hie hsrc k1 hroom (by simp) (λ_ h0=>by cases h0)
    rw[hx];simpa using this
   ·have hse:sz=ie.size:=by
     obtain⟨r0,hm⟩:=Cr _ hr0;rw[<-k6 r0 hm,hrr r0 hm]
    subst hse;have hfit:r.length*ie.size+news.length<=cur.size:=by rw[hnl,k4,<-Bf];exact AH _ hroom
    rw[hx]at hO;refine JDw hI1 k1 hO k4 k5 hrr hqr k7 k8 k3 hnl hnew (λT hT hb=>k10 T hT (by rw[jq hr0]at hb;exact hb)) hroom (λh0=>absurd (List.append_eq_nil_iff.1 h0).1 hr0) (hdo _ _ ?_) hd hv
    rw[hx];exact JBm (P:=P) (w:=w) (ty:=o.type) htu huu hdu hie hsrc k1 hroom hfit hone
  ·by_cases hr0:r=[]
   ·subst hr0
    exact hgrow (olds:=[]) hx (λw' _=>run_firstCells_some w' ie.size 0 ⟨b,0,none⟩ 0 cap [] (by simp) (λj v hj=>by simp at hj)) (by simp) (λi j row v hi=>by simp at hi) om
   ·have hse:sz=ie.size:=by
     obtain⟨r0,hm⟩:=Cr _ hr0;rw[<-k6 r0 hm,hrr r0 hm]
    subst hse;rw[hx]at hO;have hle:r.length*ie.size<=cur.size:=by rw[k4];exact AH _ k2
    have hol:(cur.toList.take (r.length*ie.size)).length=r.length*ie.size:=by rw[AM,AU];exact Ci hle
    refine hgrow (olds:=cur.toList.take (r.length*ie.size)) hx (λw' hw'=>run_firstCells_some w' ie.size r.length ⟨b,0,none⟩ r.length cap _ hol (λj v hj=>?_)) hol (λi j row v hi hj=>?_) om
    ·rw[KC,AE,JR (w:=w) (w':=w') (by rw[hw']),Jm k1]
     rw[AK]at hj
     split at hj
     ·simpa using hj
     ·cases hj
    ·obtain⟨x',hx',hxv⟩:=GN hO.1 rfl k1 hrr i j row v hi hj
     refine⟨x',?_,hxv⟩
     have hjl:j<ie.size:=by rw[<-hrr row (Ar hi)];exact(Ad.1 hj).1
     have hil:i<r.length:=(Ad.1 hi).1
     have:(i+1)*ie.size<=r.length*ie.size:=AH _ hil;rw[Bf]at this;rw[AK,if_pos om]
     simpa using hx'
theorem JLh(hI:InvP vars E m c w g h a){o:Oper}{s d:TypeId}{x:Operand}{v:V}{g':Jj}{h':JC}(ho:o.op= .convert s d x)(hr:isRow P s d=true)
  (he:JA1 (g,h) x=some (v,g',h'))(hd:∀t,o.dst=some t->t<E.nt)(hv:∀t,o.dst=some t->t∉vars):Done P vars E w a o v g' h':=by
 unfold isRow at hr;simp only[Af,beq_iff_eq]at hr;obtain⟨rfl,hr⟩:=hr
 split at hr
 ·rename_i e hs
  have hu:=JNC hr;unfold JA1 at he
  split at he
  ·rename_i t
   split at he
   ·rename_i r hl
    split at he
    ·cases he
    ·rename_i hre
     simp only[Aj,AL]at he;obtain⟨rfl,rfl,rfl⟩:=he;have hne:r≠[]:=λh=>hre (by rw[h]<;>rfl)
     obtain⟨hI1,hO⟩:=kL hI hl;rcases hO.2.1 with⟨_,h0⟩|⟨b,cap,cur,e',sz,hy,hb,hcap,hmax,hcur,hsz,hrow,hc,hbm,_⟩
     ·exact absurd h0 hne
     ·have hbl:b<w.heap.size:=(AX.1 hb).1
      have hmod:∀k,(w.freeze ⟨b,cur.size,none⟩ 1).heap[k]? =if k=b then some (.cells cur e' (cur.size,cur.size+1))else w.heap[k]? :=by
       intro k;unfold LX;rw[if_neg (by decide)]
       simp only;by_cases hk:k=b
       ·subst hk
        rw[if_pos rfl,CE,if_pos rfl,hb]<;>rfl
       ·rw[if_neg hk,CE,if_neg (λe=>hk e.symm)]
      have hrest:(w.freeze ⟨b,cur.size,none⟩ 1).os=w.os/\(w.freeze ⟨b,cur.size,none⟩ 1).tape=w.tape/\(w.freeze ⟨b,cur.size,none⟩ 1).output=w.output/\(w.freeze ⟨b,cur.size,none⟩ 1).heap.size=w.heap.size:=by
       unfold LX;rw[if_neg (by decide)]
       exact⟨rfl,rfl,rfl,by simp⟩
      have hcell:∀k o,(w.freeze ⟨b,cur.size,none⟩ 1).cell? ⟨k,o,none⟩=w.cell? ⟨k,o,none⟩:=λk o=>by
       by_cases hk:k=b
       ·subst hk
        rw[Jm (by rw[hmod,if_pos rfl]),Jm hb]
       ·exact JR (by rw[hmod,if_neg hk]) o
      have hrun:(convert s s (a.eval (.tmp t))).run P w= .ok (.slice (some ⟨b,0,none⟩) r.length cap) (w.freeze ⟨b,cur.size,none⟩ 1):=by
       have hsh:w.shape? b=some (e',cur.size):=by unfold World.shape?;rw[hb]
       have hyy:a.eval (.tmp t)= .slice (some ⟨b,0,none⟩) r.length cap:=hy;rw[hyy];simp[convert,run_underlying hs,run_underlying hu,markStringish,hsh]
      have hdo:Does P w a o (.slice (some ⟨b,0,none⟩) r.length cap) (w.freeze ⟨b,cur.size,none⟩ 1):=Qj (s:=convert s s (a.eval (.tmp t))) (by simp[execOp,ho]) hrun
      have hshp:Shp w (w.freeze ⟨b,cur.size,none⟩ 1) b:=λarr0 e0 f0 h0=>by
       rw[hb]at h0;cases h0;refine⟨cur,_,by rw[hmod,if_pos rfl],rfl,λj hj _=>?_⟩
       have h1:(w.freeze ⟨b,cur.size,none⟩ 1).heap[b]? =some (.cells cur e' (cur.size,cur.size+1)):=by rw[hmod,if_pos rfl]
       simp only[B4,h1];simp;omega
      have hI':=hI1.grown (c':=c) (w':=w.freeze ⟨b,cur.size,none⟩ 1) (some b) (by rw[hrest.2.2.2];exact Ab _)
       (λk hk hkb=>⟨by rw[hmod,if_neg (λe=>hkb (by rw[e]))],rfl⟩)
       (λk hk=>by
        cases hk;refine⟨hbm,λl r' x' hl'=>?_,?_,Ab _,λo _=>hcell b o,⟨cur,e',_,by rw[hmod,if_pos rfl],?_⟩,λ_=>hshp⟩
        ·exact hO.2.2.1 l r' x' b hl' (by rw[hy]<;>rfl)
        ·exact hO.2.2.2 b (by rw[hy]<;>rfl)
        ·rw[hc,hcur];exact AH _ hcap)
       (λk hk hkb h0=>by rw[hI.core.c_zero hk]at h0;omega) hrest.1 hrest.2.1 hrest.2.2.1
      have hext:Ext c w c (w.freeze ⟨b,cur.size,none⟩ 1):=⟨λ_=>Ab _,λk o _=>hcell k o,λk _=>by
       by_cases hk:k=b
       ·rw[hk];exact hshp
       ·exact Shp.same (by rw[hmod,if_neg hk])⟩
      have hvp:VP c w (.list .yes r) (.slice (some ⟨b,0,none⟩) r.length cap):=by rw[<-hy];exact hO.1
      have hvn:VP c w (.list .no r) (.slice (some ⟨b,0,none⟩) r.length cap):=by
       cases hvp with
       |empty k ao cap=>exact .empty _ _ _
       |list k rows ad cap sz xs q1 q2 q3 q4 q5 q6 q7 q8=>exact .list _ _ _ _ _ xs q1 q2 q3 q4 q5 q6 q7 q8
      exact⟨_,_,m,c,hdo,hI'.putBare hd (hvn.mono hext) rfl (.inl hv)⟩
   ·cases he
  ·cases he
 ·cases hr
end
def YT:Act:=⟨#[],[]⟩
def zK(m:List Nat)(c:Cl)(w:World)(h:JC):Prop:=Core [] m c w [] h YT/\ ∀(i:Nat) cs,cellsOfOb h i=some cs->∀v∈cs,okv h.length v=true
def hoOf(m:List Nat)(w:World)(h:JC)(lo:Nat):Nat->Prop:=λb=>∃i j r x,lo<=i/\At m w [] h YT (.cell i j) r x/\Jo x=some b
def Ww(P:Program)(lo f:Nat)(args:List V)(h:JC)(r:V)(h':JC):Prop:=
 bare r=true/\(∀xs w,(callFunc f xs).run P w= .ok (.enter f xs) w)/\
 ∀m c w (xs:Array Value),zK m c w h->R2 (VRr m c w) args xs.toList->(h.length<=h'.length/\h'.take lo=h.take lo/\Keeps h.length h h')/\
  Calls P f xs w λe w'=>∃x c' m',e= .returned x/\VRr m' c' w' r x/\zK m' c' w' h'/\Fr lo (hoOf m w h lo) w m c w' m' c'/\JAN lo (hoOf m w h lo) w m' w' [] h' YT
def CallOK0(P:Program)(lo f:Nat)(args:List V)(h:JC)(r:V)(h':JC):Prop:=
 bare r=true/\(∀xs w,(callFunc f xs).run P w= .ok (.enter f xs) w)/\
 ∀m c w (xs:Array Value),zK m c w h->R2 (VRr m c w) args xs.toList->(h'.length=h.length/\h'.take lo=h.take lo/\Keeps h.length h h')/\
  Calls P f xs w λe w'=>∃x c',e= .returned x/\VRr m c' w' r x/\zK m c' w' h'/\Fr lo (hoOf m w h lo) w m c w' m c'/\JAN lo (hoOf m w h lo) w m w' [] h' YT
theorem Keeps.refl(B:Nat)(h:JC):Keeps B h h:=λ_ _ cs _ _ hcs h0=>h0 cs hcs
theorem Keeps.trans{B C:Nat}{h h' h'':JC}(k:Keeps B h h')(k':Keeps C h' h'')(hBC:B<=C):Keeps B h h'':=λn i cs hi hn hcs h0=>k' n i cs (Cu hi hBC) hn hcs λcs1 h1=>k n i cs1 hi hn h1 h0
theorem CallOK0.ok{P:Program}{lo f:Nat}{args:List V}{h h':JC}{r:V}(hk:CallOK0 P lo f args h r h'):Ww P lo f args h r h':=
 ⟨hk.1,hk.2.1,λm c w xs hH hargs=>by
  obtain⟨⟨h1,h2,h3⟩,h4⟩:=hk.2.2 m c w xs hH hargs
  exact⟨⟨om,h2,h3⟩,h4.mono λe w' ⟨x,c',k⟩=>⟨x,c',m,k⟩⟩⟩
section
variable{P:Program}{vars:List Nat}{m:List Nat}{c:Cl}{w:World}{g:Jj}{h:JC}{a:Act}{E:Entry}
theorem Core.okAll(hC:Core vars m c w g h a):∀(i:Nat) cs,cellsOfOb h i=some cs->∀v∈cs,okv h.length v=true:=λi cs hcs v hv=>by
 have hcs0:h[i]? =some (.cells cs):=by
  unfold cellsOfOb at hcs
  split at hcs
  ·rename_i h0;cases hcs;exact h0
  ·cases hcs
 have hil:i<m.length:=by rw[hC.len];exact(Ad.1 hcs0).1
 obtain⟨arr,e,f,hw,hle,_,hall,_⟩:=hC.ob i _ _ hcs0 (Ac hil)
 obtain⟨j,hj,rfl⟩:=A8 hv;have:=(hall j _ _ (Ac hj) (BQ om)).1.okv
 rw[hC.len]at this;exact this
theorem InvP.hok(hI:InvP vars E m c w g h a):zK m c w h:=by
 have hC:=hI.core
 have hAt:∀{l r x},At m w [] h YT l r x->At m w g h a l r x:=λ{l r x} hl=>by
  cases l with
  |slot t=>exact absurd hl.1 (by simp[look])
  |cell i j=>exact hl
 refine⟨⟨hC.wf1,hC.wf2,hC.nd,hC.len,λt=>trivial,hC.ob,λl r x hl=>hC.own l r x (hAt hl),λl l' r r' x x' b h1 h2=>hC.uniq l l' r r' x x' b (hAt h1) (hAt h2),λt u r ht=>by simp[look]at ht,λt i j r ht=>by simp[look]at ht,hC.gt⟩,hC.okAll⟩
theorem JJa{α:Type}{l l':List α}{n i:Nat}(h:l.take n=l'.take n)(hi:i<n):l[i]? =l'[i]? :=by
 have:=congrArg (·[i]?) h
 simpa[AK,hi]using this
theorem JDx(hI:InvP vars E m c w g h a){lo f:Nat}{args:List V}{r:V}{h':JC}{xs:Array Value}(hlo:E.lo<=lo)(hll:lo<=h.length)(hOK:Ww P lo f args h r h')(hargs:R2 (VRr m c w) args xs.toList):
  Calls P f xs w λe w'=>∃x c' m',e= .returned x/\VRr m' c' w' r x/\InvP vars E m' c' w' (Lift.untag g) h' a/\Ext c w c' w'/\Pre m m'/\(m'.length=h'.length)/\
   ∀i j r x,i<lo->At m w g h a (.cell i j) r x->At m' w' g h' a (.cell i j) r x:=by
 obtain⟨hbare,hcf,hcall⟩:=hOK;obtain⟨⟨hlen,htake,hkeep⟩,hcall⟩:=hcall m c w xs hI.hok hargs;refine hcall.mono λe w' ⟨x,c',m',he,hr,⟨hC',hold'⟩,hF,hO⟩=>⟨x,c',m',he,hr,?_,hF.ext,hF.pre,hC'.len,?_⟩
 rotate_left
 ·intro i j r x hi ⟨cs,b,k1,k2,k3,k4⟩
  have hC:=hI.core;refine⟨cs,b,?_,k2,hF.pre i b k3,?_⟩
  ·unfold cellsOfOb at*
   rw[JJa htake hi];exact k1
  ·rw[JR (hF.fix b (hC.m_lt k3) (λk hk hkb=>?_) (λ⟨i',j',r',x',_,hat,hb'⟩=>?_)).1]
   ·exact k4
   ·obtain⟨l1,e1⟩:=Ad.1 k3
    obtain⟨l2,e2⟩:=Ad.1 hkb
    have:=(DR hC.nd).1 (e1.trans e2.symm);omega
   ·have hat':At m w g h a (.cell i' j') r' x':=hat
    exact((hC.own _ _ _ hat').lt hb').2 (Ar k3)
 have hC:=hI.core;have hml:m.length=h.length:=hC.len
 have hslot:∀{t r x b},At m w g h a (.slot t) r x->Jo x=some b->b<w.heap.size/\b∉m/\ ¬hoOf m w h lo b:=λ{t r x b} hl hb=>by
  have h1:=(hC.own _ _ _ hl).lt hb;refine⟨h1.1,h1.2,λ⟨i,j,r',x',_,hat,hb'⟩=>?_⟩
  have hat':At m w g h a (.cell i j) r' x':=hat;have:=hC.uniq _ _ _ _ _ _ b hl hat' hb hb';cases this
 have hfix:∀{b},b<w.heap.size->b∉m->¬hoOf m w h lo b->w'.heap[b]? =w.heap[b]? /\c' b=c b:=λ{b} h1 h2 h3=>hF.fix b h1 (λi _ hi=>h2 (Ar hi)) h3
 have hnm:∀{b},b<w.heap.size->b∉m->b∉m':=λ{b} h1 h2 h3=>by
  obtain⟨i,hi,e⟩:=A8 h3;have hi':m'[i]? =some b:=by rw[Ac hi,e]
  by_cases hil:i<m.length
  ·have:=hF.pre i _ (Ac hil)
   rw[hi']at this;exact h2 (Bs this▸Ba hil)
  ·have:=hF.new i b om hi'
   omega
 have hnho:∀{b},b∈m->¬hoOf m w h lo b:=λ{b} hb ⟨i,j,r',x',_,hat,hb'⟩=>by have hat':At m w g h a (.cell i j) r' x':=hat;exact((hC.own _ _ _ hat').lt hb').2 hb
 have hlow:∀{i j r x},i<lo->At m' w' (Lift.untag g) h' a (.cell i j) r x->At m w g h a (.cell i j) r x:=λ{i j r x} hi hl=>by
  obtain⟨cs,b,k1,k2,k3',k4⟩:=hl
  have e1:cellsOfOb h i=some cs:=by unfold cellsOfOb at*;rw[<-JJa htake hi];exact k1
  have k3:m[i]? =some b:=by
   have hil:i<m.length:=om;have:=hF.pre i _ (Ac hil)
   rw[k3']at this;rw[Ac hil,Bs this]
  refine⟨cs,b,e1,k2,k3,?_⟩
  rw[<-JR (hF.fix b (hC.m_lt k3) (λk hk hkb=>?_) (hnho (Ar k3))).1]
  ·exact k4
  ·have h1:=Ad.1 k3
   have h2:=Ad.1 hkb
   obtain⟨l1,e1⟩:=h1;obtain⟨l2,e2⟩:=h2;have:=(DR hC.nd).1 (e1.trans e2.symm);omega
 have hcell:∀{i j r x},At m' w' (Lift.untag g) h' a (.cell i j) r x->At m' w' [] h' YT (.cell i j) r x:=λhl=>hl
 have hslot':∀{t r x},At m' w' (Lift.untag g) h' a (.slot t) r x->At m w g h a (.slot t) r x:=λ{t r x} hl=>JJX (h:=h) hl
 have hnew:∀{t i j r r' x x' b},At m w g h a (.slot t) r x->At m' w' (Lift.untag g) h' a (.cell i j) r' x'->Jo x=some b->Jo x'=some b->False:=λ{t i j r r' x x' b} h1 h2 hb hb'=>by
  obtain⟨k1,k2,k3⟩:=hslot h1 hb;rcases AG i lo with hi|hi
  ·have:=hC.uniq _ _ _ _ _ _ b h1 (hlow hi h2) hb hb'
   cases this
  ·rcases hO _ _ _ b (hcell h2) hi hb' with h3|h3
   ·omega
   ·exact k3 h3
 refine⟨⟨hC'.wf1,hC'.wf2,hC'.nd,hC'.len,λt=>?_,hC'.ob,λl r x hl=>?_,λl l' r r' x x' b h1 h2 hb hb'=>?_,λt u r ht=>absurd ht (Wa t u r),λt i j r ht=>absurd ht (Wv t i j r),hC'.gt⟩,?_,λl r x b hl hu hb=>?_,?_,AY hI.hlen hlen,hI.ml,hI.lole,hI.nt,hI.df,hI.old.trans hkeep hI.hlen,hI.ent⟩
 ·rw[Jp]
  exact((hC.env t).mono hF.pre hF.ext).untag
 ·cases l with
  |slot t=>
   have h1:=hslot' hl;refine(hC.own _ _ _ h1).keep λb hb=>?_
   obtain⟨k1,k2,k3⟩:=hslot h1 hb;have:=hfix k1 k2 k3
   exact⟨this.1,this.2,hnm k1⟩
  |cell i j=>exact hC'.own _ _ _ (hcell hl)
 ·cases l with
  |slot t=>
   cases l' with
   |slot u=>exact hC.uniq _ _ _ _ _ _ b (hslot' h1) (hslot' h2) hb hb'
   |cell i j=>exact(hnew (hslot' h1) h2 hb hb').elim
  |cell i j=>
   cases l' with
   |slot u=>exact(hnew (hslot' h2) h1 hb' hb).elim
   |cell i' j'=>exact hC'.uniq _ _ _ _ _ _ b (hcell h1) (hcell h2) hb hb'
 ·refine⟨hF.os.trans hI.fr.os,hF.tape.trans hI.fr.tape,hF.output.trans hI.fr.output,AY hI.fr.size hF.size,hI.fr.pre.trans hF.pre,λi b hi hb=>?_,hI.fr.ext.trans hF.ext,λb hb h1 h2=>?_⟩
  ·by_cases hil:i<m.length
   ·have:=hF.pre i _ (Ac hil)
    rw[hb]at this;exact hI.fr.new i b hi (by rw[Ac hil,Bs this])
   ·exact AY hI.fr.size (hF.new i b om hb)
  have:=hF.fix b (Cu hb hI.fr.size) (λi hi hib=>?_) (λ⟨i,j,r',x',hi,hat,hb'⟩=>?_)
  ·have h3:=hI.fr.fix b hb h1 h2
   exact⟨this.1.trans h3.1,this.2.trans h3.2⟩
  ·by_cases hil:i<E.m.length
   ·have:=hI.fr.pre i _ (Ac hil)
    rw[hib]at this;cases this;exact h1 i om (Ac hil)
   ·have:=hI.fr.new i b om hib
    omega
  ·have hat':At m w g h a (.cell i j) r' x':=hat
   rcases hI.owned _ _ _ b hat' (show E.lo<=i by omega) hb' with h3|h3
   ·omega
   ·exact h2 h3
 ·cases l with
  |slot t=>exact hI.owned _ _ _ b (hslot' hl) trivial hb
  |cell i j=>
   rcases AG i lo with hi|hi
   ·exact hI.owned _ _ _ b (hlow hi hl) hu hb
   ·rcases hO _ _ _ b (hcell hl) hi hb with h3|⟨i',j',r',x',hi',hat,hb'⟩
    ·exact .inl (AY hI.fr.size h3)
    ·have hat':At m w g h a (.cell i' j') r' x':=hat
     exact hI.owned _ _ _ b hat' (show E.lo<=i' by omega) hb'
 ·have:=congrArg (List.take E.lo) htake
  simp only[DG,Ci hlo]at this;rw[this];exact hI.hlo
theorem Yo(hI:InvP vars E m c w g h a){ops:Array Oper}{o:Oper}{b:Bool}(hw:want ops g o=some b):BX o (yielded ops a.tmps)=b:=by
 unfold want at hw;unfold BX
 cases hg:o.guard with
 |none=>rw[hg]at hw;simp only[Aj]at hw;exact hw
 |some p=>
  obtain⟨j,want⟩:=p;rw[hg]at hw;simp only at hw⊢;unfold yielded
  cases hd:(ops[j]?).bind (·.dst)with
  |none=>rw[hd]at hw;simp at hw;simp[hw]
  |some t=>
   rw[hd]at hw;simp only at hw;have he:=hI.core.env t
   split at hw
   ·rename_i x hx
    rw[hx]at he;have he':a.tmps.getD t undef= .bool x:=he;simp only[Aj]at hw;subst hw
    have:a.tmps[t]? =some (.bool x):=by
     rw[BT]at he'
     cases hq:a.tmps[t]? with
     |none=>rw[hq]at he';simp[undef]at he'
     |some y=>rw[hq]at he';simpa using he'
    simp[this]
   ·rename_i y hx
    rw[hx]at he;have he':a.tmps.getD t undef= .tuple y:=he;simp only[Aj]at hw;subst hw
    have:∀z,a.tmps[t]? =some z->z= .tuple y:=λz hz=>by rw[BT,hz]at he';simpa using he'
    cases hq:a.tmps[t]? with
    |none=>simp[hq]
    |some z=>rw[this z hq]at hq;simp[hq]
   ·cases hw
structure CxOK(cx:Cx)(E:Entry):Prop where
 lo:cx.lo=E.lo
 base:cx.base=E.base
 call:∀lo f args h r h',lo<=h.length->cx.call lo f args h=some (r,h')->Ww cx.P lo f args h r h'
theorem Does.wp{o:Oper}{x:Value}{w':World}{next:Act->World->Prop}{Q:Exit->Act->World->Prop}(hd:Does P w a o x w')(hn:next (a.put o.dst x) w'):o.wp P a w next Q:=by
 unfold Oper.wp;rcases hd with hd|⟨hd,rfl⟩
 ·rw[hd];exact hn
 ·rw[hd];exact hn
theorem JDy{o:Oper}{k:Call}{f:Operand}{fid:Nat}{caps:Array Value}(ho:o.op= .call k)(hc:k.callee= .value f){fs:Array Value}(hf:a.eval f= .func (.func fid) fs caps)(hcf:∀xs w,(callFunc fid xs).run P w= .ok (.enter fid xs) w):
  (execOp a.eval o).run P w= .ok (.enter fid (fs++(k.args.map a.eval++caps))) w:=by
 simp[execOp,ho,resolve,hc,Deferred.ofValue,hf,invoke,hcf,LZ]
theorem JJb(hC:Core vars m c w g h a)(args:Array Operand):R2 (VRr m c w) ((args.toList.map (opd g)).map fzs) (args.map a.eval).toList:=by
 refine⟨by simp,λi u y hu hy=>?_⟩
 simp only[Ax,Ak,B5]at hu hy
 obtain⟨v,⟨x,hx,rfl⟩,rfl⟩:=hu;obtain⟨x',hx',rfl⟩:=hy;rw[hx]at hx';cases hx';exact(hC.opd x).fzs
theorem InvP.retag(hI:InvP vars E m c w (Lift.untag g) h a)(henv:∀t,VRr m c w (look g t) (a.tmps.getD t undef))(hS:∀t u r,look g t= .list (.slot u) r->u∈vars/\look g u= .list .yes r/\a.tmps.getD t undef=a.tmps.getD u undef)
  (hT:∀t i j r,look g t= .list (.cell i j) r->At m w g h a (.cell i j) r (a.tmps.getD t undef)):InvP vars E m c w g h a:=by
 have hC:=hI.core
 have hAt:∀{l r x},At m w g h a l r x->At m w (Lift.untag g) h a l r x:=λ{l r x} hl=>by
  cases l with
  |slot t=>exact⟨by rw[Jp];exact Qo.2 hl.1,hl.2⟩
  |cell i j=>exact hl
 exact⟨⟨hC.wf1,hC.wf2,hC.nd,hC.len,henv,hC.ob,λl r x hl=>hC.own l r x (hAt hl),λl l' r r' x x' b h1 h2=>hC.uniq l l' r r' x x' b (hAt h1) (hAt h2),hS,hT,hC.gt⟩,
  hI.fr,λl r x b hl hu hb=>hI.owned l r x b (hAt hl) hu hb,hI.hlo,hI.hlen,hI.ml,hI.lole,hI.nt,hI.df,hI.old,hI.ent⟩
theorem JUP(hI:InvP vars E m c w g h a){o:Oper}{k:Call}{f:Operand}{fid lo:Nat}{caps:List V}{r:V}{h':JC}(ho:o.op= .call k)(hc:k.callee= .value f)(hf:opd g f= .fn fid caps)(hlo:E.lo<=lo)(hll:lo<=h.length)
  (hOK:Ww P lo fid (WW caps++((k.args.toList.map (opd g)).map fzs++WX caps)) h r h'){next:Act->World->Prop}{Q:Exit->Act->World->Prop}
  (hd:∀t,o.dst=some t->t<E.nt)(hv:∀t,o.dst=some t->t∉vars)(hn:∀x w' m' c',InvP vars E m' c' w' (put o.dst r (Lift.untagC g)) h' (a.put o.dst x)->next (a.put o.dst x) w'):o.wp P a w next Q:=by
 have hfv:=hI.core.opd f;rw[hf]at hfv;obtain⟨fs,xs,hxs,hfst,hcaps⟩:=hfv;unfold Oper.wp;rw[JDy ho hc hxs hOK.2.1]
 have hargs:R2 (VRr m c w) (WW caps++((k.args.toList.map (opd g)).map fzs++WX caps)) (fs++(k.args.map a.eval++xs)).toList:=by rw[Dy,Dy];exact(hfst.mono λ_ _ hv=>VR.r (VR1.r hv.r)).append ((JJb hI.core k.args).append (hcaps.mono λ_ _ hv=>VR.r (VR1.r hv.r)))
 refine(JDx hI hlo hll hOK hargs).mono λe w' ⟨x,c',m',he,hr,hI',hE,hP,_,_⟩=>?_
 subst he
 have hI2:InvP vars E m' c' w' (Lift.untagC g) h' a:=InvP.retag (by rw[JG8];exact hI')
  (λt=>by rw[YD];exact((hI.core.env t).mono hP hE).untagC)
  (λt u r ht=>by
   rw[YD]at ht;obtain⟨h1,h2,h3⟩:=hI.core.tagS t u r (JG9 ht)
   exact⟨h1,by rw[YD,h2]<;>rfl,h3⟩)
  (λt i j r ht=>by rw[YD]at ht;exact absurd ht JHA)
 exact hn x w' m' c' (hI2.putBare hd hr hOK.1 (.inl hv))
theorem JHD{h:JC}{i:Nat}{cs:List V}(hi:cellsOfOb h i=some cs):i<h.length:=by
 unfold cellsOfOb at hi
 split at hi
 ·rename_i h0;exact(Ad.1 h0).1
 ·cases hi
theorem JLi(hI:InvP vars E m c w g h a){o:Oper}{k:Call}{f:Operand}{fid:Nat}{caps:List V}{r:V}{h':JC}(ho:o.op= .call k)(hc:k.callee= .value f)(hf:opd g f= .fn fid caps)
  (hOK:Ww P h.length fid (WW caps++((k.args.toList.map (opd g)).map fzs++WX caps)) h r h')(hsm:h'.length=h.length){next:Act->World->Prop}{Q:Exit->Act->World->Prop}
  (hd:∀t,o.dst=some t->t<E.nt)(hv:∀t,o.dst=some t->t∉vars)(hn:∀x w' m' c',InvP vars E m' c' w' (put o.dst r g) h (a.put o.dst x)->next (a.put o.dst x) w'):o.wp P a w next Q:=by
 have hfv:=hI.core.opd f;rw[hf]at hfv;obtain⟨fs,xs,hxs,hfst,hcaps⟩:=hfv
 have hargs:R2 (VRr m c w) (WW caps++((k.args.toList.map (opd g)).map fzs++WX caps)) (fs++(k.args.map a.eval++xs)).toList:=by rw[Dy,Dy];exact(hfst.mono λ_ _ hv=>VR.r (VR1.r hv.r)).append ((JJb hI.core k.args).append (hcaps.mono λ_ _ hv=>VR.r (VR1.r hv.r)))
 have hh:h'=h:=by
  obtain⟨_,h1,_⟩:=(hOK.2.2 m c w _ hI.hok hargs).1;rw[List.take_length,B2 (by rw[hsm];exact Ab _)]at h1
  exact h1
 subst hh;unfold Oper.wp;rw[JDy ho hc hxs hOK.2.1];refine(JDx hI (AY hI.lole hI.hlen) (Ab _) hOK hargs).mono λe w' ⟨x,c',m',he,hr,hI',hE,hP,hl',hAt⟩=>?_
 subst he;refine hn x w' m' c' (InvP.putBare (hI'.retag (λt=>(hI.core.env t).mono hP hE) hI.core.tagS λt i j r ht=>?_) hd hr hOK.1 (.inl hv))
 have h1:=hI.core.tagC t i j r ht;have h2:=h1;obtain⟨cs,b,k1,_⟩:=h2;exact hAt i j r _ (JHD k1) h1
end
section kill
variable{m:List Nat}{c:Cl}{w:World}{i nb:Nat}
theorem Y3{m:List Nat}{i k nb g:Nat}(h:m[k]? =some g)(hk:k≠i):(m.set i nb)[k]? =some g:=by rw[BK,if_neg (Ne.symm hk)];exact h
theorem VR0.kil{v:V}{x:Value}(h:VR0 m c w v x)(hk:avc i v=true):VR0 (m.set i nb) c w v x:=by
 cases v with
 |ptr b o=>obtain⟨g,hg,rfl⟩:=h;exact⟨g,Y3 hg (by simpa[avc]using hk),rfl⟩
 |mp b=>obtain⟨g,hg,rfl⟩:=h;exact⟨g,Y3 hg (by simpa[avc]using hk),rfl⟩
 |buf b o k=>obtain⟨g,cap,hg,rfl,hc⟩:=h;exact⟨g,cap,Y3 hg (by simpa[avc]using hk),rfl,hc⟩
 |stk b k sz=>obtain⟨g,cap,hg,rfl,hc⟩:=h;exact⟨g,cap,Y3 hg (by simpa[avc]using hk),rfl,hc⟩
 |_=>exact h
theorem VR1.kil{v:V}{x:Value}(h:VR1 m c w v x)(hk:avf i v=true):VR1 (m.set i nb) c w v x:=by
 cases v with
 |fn f cs=>
  obtain⟨fs,xs,rfl,hr1,hr⟩:=h;simp only[avf,As]at hk
  exact⟨fs,xs,rfl,⟨hr1.1,λj u y hu hy=>(hr1.2 j u y hu hy).kil (hk u (JDp (Ar hu)))⟩,⟨hr.1,λj u y hu hy=>(hr.2 j u y hu hy).kil (hk u (JDq (Ar hu)))⟩⟩
 |ptr b o=>exact VR0.kil (c:=c) (w:=w) (v:= .ptr b o) (x:=x) h hk
 |mp b=>exact VR0.kil (c:=c) (w:=w) (v:= .mp b) (x:=x) h hk
 |buf b o k=>exact VR0.kil (c:=c) (w:=w) (v:= .buf b o k) (x:=x) h hk
 |stk b k sz=>exact VR0.kil (c:=c) (w:=w) (v:= .stk b k sz) (x:=x) h hk
 |v y=>exact h
 |nil=>exact h
 |list k r=>exact h
 |rp cs=>exact h
 |undef=>exact h
 |any=>exact h
 |agg cs=>exact h.elim
 |tup vs=>exact h.elim
theorem VR.kil{v:V}{x:Value}(h:VR m c w v x)(hk:avv i v=true):VR (m.set i nb) c w v x:=by
 cases v with
 |agg cs=>
  obtain⟨xs,rfl,hr⟩:=h;simp only[avv,As]at hk
  exact⟨xs,rfl,hr.1,λj u y hu hy=>(hr.2 j u y hu hy).kil (hk u (Ar hu))⟩
 |tup vs=>exact h.elim
 |ptr b o=>exact VR1.kil (c:=c) (w:=w) (v:= .ptr b o) (x:=x) h hk
 |mp b=>exact VR1.kil (c:=c) (w:=w) (v:= .mp b) (x:=x) h hk
 |buf b o k=>exact VR1.kil (c:=c) (w:=w) (v:= .buf b o k) (x:=x) h hk
 |stk b k sz=>exact VR1.kil (c:=c) (w:=w) (v:= .stk b k sz) (x:=x) h hk
 |fn f cs=>exact VR1.kil (c:=c) (w:=w) (v:= .fn f cs) (x:=x) h hk
 |v y=>exact h
 |nil=>exact h
 |list k r=>exact h
 |rp cs=>exact h
 |undef=>exact h
 |any=>exact h
theorem VRr.kil0{v:V}{x:Value}(h:VRr m c w v x)(hk:avr i v=true):VRr (m.set i nb) c w v x:=by
 cases v with
 |tup vs=>
  obtain⟨xs,rfl,hr⟩:=h;simp only[avr,As]at hk
  exact⟨xs,rfl,hr.1,λj u y hu hy=>(hr.2 j u y hu hy).kil (hk u (Ar hu))⟩
 |agg cs=>exact VR.kil (c:=c) (w:=w) (v:= .agg cs) (x:=x) h hk
 |ptr b o=>exact VR.kil (c:=c) (w:=w) (v:= .ptr b o) (x:=x) h hk
 |mp b=>exact VR.kil (c:=c) (w:=w) (v:= .mp b) (x:=x) h hk
 |buf b o k=>exact VR.kil (c:=c) (w:=w) (v:= .buf b o k) (x:=x) h hk
 |stk b k sz=>exact VR.kil (c:=c) (w:=w) (v:= .stk b k sz) (x:=x) h hk
 |fn f cs=>exact VR.kil (c:=c) (w:=w) (v:= .fn f cs) (x:=x) h hk
 |v y=>exact h
 |nil=>exact h
 |list k r=>exact h
 |rp cs=>exact h
 |undef=>exact h
 |any=>exact h
theorem VRr.kil{v:V}{x:Value}(h:VRr m c w v x):VRr (m.set i nb) c w (Lift.kil i v) x:=by
 unfold Lift.kil
 split
 ·rename_i hk;exact h.kil0 hk
 ·trivial
theorem VR1.kilf{v:V}{x:Value}(h:VR1 m c w v x):VR1 (m.set i nb) c w (Lift.kilf i v) x:=by
 unfold Lift.kilf
 split
 ·rename_i hk;exact h.kil hk
 ·trivial
theorem GO:∀(g:Jj) (u:Nat),look (kilE i g) u=Lift.kil i (look g u)
 |[],u=>rfl
 |(k,y)::l,u=>by
  simp only[kilE,A3,look]
  split
  ·rfl
  ·exact GO l u
theorem JBn{v:V}{k:Own}{r:List (List V)}(h:Lift.kil i v= .list k r):v= .list k r:=by
 unfold Lift.kil at h
 split at h
 ·exact h
 ·cases h
theorem JOg{v:V}{k:Own}{r:List (List V)}(h:Lift.kilf i v= .list k r):v= .list k r:=by
 unfold Lift.kilf at h
 split at h
 ·exact h
 ·cases h
theorem yC{n:Nat}(hn:n<=i){v:V}(h:okc n v=true):avc i v=true:=by cases v<;>first|rfl|(simp[okc,avc]at h⊢;omega)
theorem okv_avf{n:Nat}(hn:n<=i){v:V}(h:okv n v=true):avf i v=true:=by
 cases v with
 |fn f cs=>simp only[okv,avf,As]at h⊢;exact λx hx=>yC hn (h x hx)
 |ptr b o=>exact yC hn (v:= .ptr b o) h
 |mp b=>exact yC hn (v:= .mp b) h
 |buf b o k=>exact yC hn (v:= .buf b o k) h
 |stk b k sz=>exact yC hn (v:= .stk b k sz) h
 |_=>rfl
theorem JJc(v:V):QK (Lift.kilf i v)=true->QK v=true:=λh=>by
 unfold Lift.kilf at h
 split at h
 ·exact h
 ·cases h
theorem ObR.kil{o:Ob}{b:Nat}(h:ObR m c w o b):ObR (m.set i nb) c w (JGz i o) b:=by
 cases o with
 |iter s p=>exact h
 |tab es=>exact h
 |cells cs=>
  obtain⟨arr,e,f,h1,h2,h3,h4,h5⟩:=h;unfold JGz;simp only
  split
  ·rename_i hk
   simp only[As]at hk;exact⟨arr,e,f,h1,h2,h3,λj v x hv hx=>⟨(h4 j v x hv hx).1.kil (hk v (Ar hv)),(h4 j v x hv hx).2⟩,h5⟩
  ·refine⟨arr,e,f,h1,by simpa using h2,λj hj=>h3 j (by simpa using hj),λj v x hv hx=>?_,λT hT hb=>?_⟩
   ·simp only[Ax,Ak]at hv
    obtain⟨u,hu,rfl⟩:=hv;exact⟨(h4 j u x hu hx).1.kilf,(h4 j u x hu hx).2⟩
   ·obtain⟨x,k2,k3⟩:=Qw.1 hb
    rw[Ag]at hT⊢;simp only[Ax,Ak]at k2
    obtain⟨u,hu,rfl⟩:=k2;exact h5 T hT (Qw.2 ⟨u,hu,JJc u k3⟩)
theorem JLj{o:Ob}{cs:List V}(h:JGz i o= .cells cs):∃cs0,o= .cells cs0/\ ∀(j:Nat) (k:Own) (r:List (List V)),cs[j]? =some (.list k r)->cs0[j]? =some (.list k r):=by
 cases o with
 |iter s p=>cases h
 |tab es=>cases h
 |cells cs0=>
  refine⟨cs0,rfl,?_⟩
  unfold JGz at h;simp only at h
  split at h
  ·cases h;exact λ_ _ _ h=>h
  ·cases h
   intro j k r hj;simp only[Ax,Ak]at hj
   obtain⟨u,hu,he⟩:=hj;rw[hu,JOg he]
theorem JDz:∀{l:List Nat} {i x:Nat},l.Nodup->x∉l->(l.set i x).Nodup
 |[],i,x,_,_=>by simp
 |a::l,0,x,h,hx=>by
  rw[D0]at h;simp only[List.set_cons_zero,D0]
  exact⟨λhm=>hx (Bt _ hm),h.2⟩
 |a::l,i+1,x,h,hx=>by
  rw[D0]at h;simp only[List.set_cons_succ,D0];refine⟨λhm=>?_,JDz h.2 λhm=>hx (Bt _ hm)⟩
  rcases C4 hm with hm|rfl
  ·exact h.1 hm
  ·exact hx (List.mem_cons_self ..)
end kill
section
variable{P:Program}{vars:List Nat}{m:List Nat}{c:Cl}{w:World}{g:Jj}{h:JC}{a:Act}{E:Entry}
theorem InvP.restk(hI:InvP vars E m c w g h a){i gb nb:Nat}{cs':List V}{w':World}(hib:E.base<=i)(hi:m[i]? =some gb)(hnb:nb=gb\/w.heap.size<=nb)
  (hsz:w.heap.size<=w'.heap.size)(hother:∀b,b<w.heap.size->b≠nb->w'.heap[b]? =w.heap[b]?)(hos:w'.os=w.os)(htape:w'.tape=w.tape)(hout:w'.output=w.output)
  (hob:∃arr e f,w'.heap[nb]? =some (.cells arr e f)/\cs'.length<=arr.size/\(∀j,j<cs'.length->w'.frozen? ⟨nb,j,none⟩=false)/\
   (∀(j:Nat) v x,cs'[j]? =some v->arr[j]? =some x->VR1 m c w v x/\avf i v=true/\x.oneCell'=true))
  (hnil:∀v∈cs',QK v=false)(hshp:nb=gb->Shp w w' gb)
  (hown:∀(j:Nat) r x,cs'[j]? =some (.list .yes r)->w'.cell? ⟨nb,j,none⟩=some x->(r=[]/\x= .slice none 0 0)\/At m w g h a (.cell i j) r x)
  (hnS:∀t u r,look g t≠ .list (.slot u) r)(hnC:∀t i j r,look g t≠ .list (.cell i j) r):
  InvP vars E (m.set i nb) c w' (kilE i g) ((y9 E.base i h).set i (.cells cs')) a:=by
 have hC:=hI.core;have him:i<m.length:=(Ad.1 hi).1
 have hgl:gb<w.heap.size:=hC.m_lt hi
 have hc0:c nb=0:=by
  rcases hnb with rfl|hnb
  ·exact hC.wf2 nb (Ar hi)
  ·exact hC.c_zero hnb
 have hmi:(m.set i nb)[i]? =some nb:=by simp[him]
 have hmk:∀{k b},(m.set i nb)[k]? =some b->k≠i->m[k]? =some b:=λ{k b} hk hne=>by rw[BK,if_neg (Ne.symm hne)]at hk;exact hk
 have hEb:E.w.heap.size<=nb:=by
  rcases hnb with rfl|hnb
  ·exact hI.fr.new i _ (by rw[hI.ml];exact hib) hi
  ·exact AY hI.fr.size hnb
 have hkl:(y9 E.base i h).length=h.length:=by have:=hI.hlen;simp[y9];omega
 have hbase:∀{k:Nat} {o:Ob},k<E.base->h[k]? =some o->JGz i o=o:=λ{k o} hk ho=>by
  cases o with
  |iter s p=>rfl
  |tab es=>rfl
  |cells cs=>unfold JGz;simp only;rw[if_pos];rw[As];intro v hv;refine okv_avf hib (hI.old E.base k cs hk hk (by unfold cellsOfOb;rw[ho]) (λcs0 h0=>hI.ent k cs0 h0) v hv)
 have hhk:∀{k:Nat} {o:Ob},((y9 E.base i h).set i (.cells cs'))[k]? =some o->k≠i->∃o0,h[k]? =some o0/\o=JGz i o0:=λ{k o} hk hne=>by
  rw[BK,if_neg (Ne.symm hne)]at hk
  unfold y9 at hk;have hlen:=hI.hlen;rw[B9,AM,Ci hlen]at hk
  split at hk
  ·rename_i hlt
   rw[AK,if_pos hlt]at hk
   exact⟨o,hk,(hbase hlt hk).symm⟩
  ·rename_i hge
   simp only[Ax,Ak,Bm]at hk
   obtain⟨o0,h0,rfl⟩:=hk;rw[show E.base+(k-E.base)=k by omega]at h0
   exact⟨o0,h0,rfl⟩
 have hhi:∀{o:Ob},((y9 E.base i h).set i (.cells cs'))[i]? =some o->o= .cells cs':=λ{o} ho=>by
  rw[BK,if_pos rfl]at ho
  split at ho
  ·exact(Bs ho).symm
  ·cases ho
 have hmne:∀{k b},m[k]? =some b->k≠i->b≠nb:=λ{k b} hk hki e=>by
  subst e;rcases hnb with rfl|hnb
  ·obtain⟨l1,e1⟩:=Ad.1 hk
   obtain⟨l2,e2⟩:=Ad.1 hi
   exact hki ((DR hC.nd).1 (e1.trans e2.symm))
  ·have:=hC.m_lt hk
   omega
 have hext:Ext c w c w':=by
  refine⟨λ_=>Ab _,λb o ho=>?_,λb _=>?_⟩
  ·have hb:b≠nb:=λe=>by rw[e,hc0]at ho;omega
   have hl:b<w.heap.size:=by
    rcases AG b w.heap.size with hl|hl
    ·exact hl
    ·rw[hC.c_zero hl]at ho;omega
   exact JR (hother b hl hb) o
  ·rcases AG b w.heap.size with hl|hl
   ·by_cases hb:b=nb
    ·rcases hnb with e|e
     ·rw[hb,e];exact hshp e
     ·omega
    ·exact Shp.same (hother b hl hb)
   ·exact Shp.none hl
 have hAt:∀{l r x},At (m.set i nb) w' (kilE i g) ((y9 E.base i h).set i (.cells cs')) a l r x->At m w g h a l r x\/(r=[]/\x= .slice none 0 0):=λ{l r x} hl=>by
  cases l with
  |slot t=>
   obtain⟨h1,h2⟩:=hl;rw[GO]at h1
   exact .inl ⟨JBn h1,h2⟩
  |cell k j=>
   obtain⟨cs,b,h1,h2,h3,h4⟩:=hl
   have h1':((y9 E.base i h).set i (.cells cs'))[k]? =some (.cells cs):=by
    unfold cellsOfOb at h1
    split at h1
    ·rename_i hq;cases h1;exact hq
    ·cases h1
   by_cases hki:k=i
   ·subst hki
    have:=hhi h1';cases this;rw[hmi]at h3;cases h3;rcases hown j r x h2 h4 with h0|h0
    ·exact .inr h0
    ·exact .inl h0
   ·obtain⟨o0,ho0,he⟩:=hhk h1' hki
    obtain⟨cs0,rfl,hq⟩:=JLj he.symm;have h3':=hmk h3 hki;refine .inl ⟨cs0,b,by unfold cellsOfOb;rw[ho0],hq j _ _ h2,h3',?_⟩
    rw[<-JR (hother b (hC.m_lt h3') (hmne h3' hki))];exact h4
 have hblk:∀{l r x b},At m w g h a l r x->Jo x=some b->b<w.heap.size/\b≠nb/\b∉m.set i nb:=λ{l r x b} hl hb=>by
  have h1:=(hC.own l r x hl).lt hb
  have h2:b≠nb:=λe=>by
   rcases hnb with e'|e'
   ·rw[e,e']at h1;exact h1.2 (Ar hi)
   ·omega
  refine⟨h1.1,h2,λhm=>?_⟩
  rcases C4 hm with hm|e
  ·exact h1.2 hm
  ·exact h2 e
 refine⟨⟨λb hb=>?_,λb hb=>?_,?_,by rw[Ca,Ca,hkl];exact hC.len,λt=>?_,λk o b ho hb=>?_,λl r x hl=>?_,λl l' r r' x x' b h1 h2 hb hb'=>?_,λt u r ht=>?_,λt k j r ht=>?_,λn cs hg=>(hC.gt n cs hg).mono hext⟩,
  ⟨hos.trans hI.fr.os,htape.trans hI.fr.tape,hout.trans hI.fr.output,AY hI.fr.size hsz,λk b hk=>?_,λk b hk hb=>?_,hI.fr.ext.trans hext,λb hb h1 h2=>?_⟩,λl r x b hl hu hb=>?_,?_,?_,hI.ml,hI.lole,hI.nt,hI.df,λn k cs hkb hkn hcs h0=>?_,hI.ent⟩
 ·have hbn:b≠nb:=λe=>by rw[e,hc0]at hb;omega
  have hl:b<w.heap.size:=by
   rcases AG b w.heap.size with hl|hl
   ·exact hl
   ·rw[hC.c_zero hl]at hb;omega
  rw[hother b hl hbn];exact hC.wf1 b hb
 ·rcases C4 hb with hb|rfl
  ·exact hC.wf2 b hb
  ·exact hc0
 ·rcases hnb with rfl|hnb
  ·have:m.set i nb=m:=by
    apply List.ext_getElem?;intro k;rw[BK]
    by_cases hk:i=k
    ·subst hk;rw[if_pos rfl,if_pos him,hi]
    ·rw[if_neg hk]
   rw[this];exact hC.nd
  ·refine JDz hC.nd λhm=>?_
   obtain⟨k,hk,e⟩:=A8 hm;have:=hC.m_lt (i:=k) (b:=nb) (by rw[Ac hk,e])
   omega
 ·rw[GO]
  exact((hC.env t).kil).mono (Pre.refl _) hext
 ·by_cases hki:k=i
  ·subst hki
   have:=hhi ho;subst this;rw[hmi]at hb;cases hb;obtain⟨arr,e,f,k1,k2,k3,k4⟩:=hob;refine⟨arr,e,f,k1,k2,k3,λj v x hv hx=>⟨((k4 j v x hv hx).1.kil (k4 j v x hv hx).2.1).mono (Pre.refl _) hext,(k4 j v x hv hx).2.2⟩,λT hT hc=>?_⟩
   obtain⟨x,q2,q3⟩:=Qw.1 hc;rw[hnil x (Ar q2)]at q3;cases q3
  ·obtain⟨o0,ho0,rfl⟩:=hhk ho hki
   have hb':=hmk hb hki;exact((hC.ob k o0 b ho0 hb').kil).keep (hother b (hC.m_lt hb') (hmne hb' hki)) (Pre.refl _) hext
 ·rcases hAt hl with hl|h0
  ·refine(hC.own l r x hl).keep λb hb=>?_
   obtain⟨k1,k2,k3⟩:=hblk hl hb;exact⟨hother b k1 k2,rfl,λ_=>k3⟩
  ·exact .inl ⟨h0.2,h0.1⟩
 ·rcases hAt h1 with g1|⟨_,rfl⟩
  ·rcases hAt h2 with g2|⟨_,rfl⟩
   ·exact hC.uniq l l' r r' x x' b g1 g2 hb hb'
   ·cases hb'
  ·cases hb
 ·rw[GO]at ht
  exact absurd (JBn ht) (hnS t u r)
 ·rw[GO]at ht
  exact absurd (JBn ht) (hnC t k j r)
 ·exact Y3 (hI.fr.pre k b hk) (λe=>by
   have:=(Ad.1 hk).1
   rw[hI.ml]at this
   omega)
 ·by_cases hki:k=i
  ·subst hki
   rw[hmi]at hb;cases hb;exact hEb
  ·exact hI.fr.new k b hk (hmk hb hki)
 ·have hbn:b≠nb:=λe=>by omega
  have hl:=Cu hb hI.fr.size;rw[hother b hl hbn];exact hI.fr.fix b hb h1 h2
 ·rcases hAt hl with hl|⟨_,rfl⟩
  ·exact hI.owned l r x b hl hu hb
  ·cases hb
 ·have h1:=hI.lole
  have h2:=hI.hlen;rw[Da om];unfold y9;rw[CL (by simp;omega),DG,Ci h1]
  exact hI.hlo
 ·rw[Ca,hkl];exact hI.hlen
 ·have h1':((y9 E.base i h).set i (.cells cs'))[k]? =some (.cells cs):=by
   unfold cellsOfOb at hcs
   split at hcs
   ·rename_i hq;cases hcs;exact hq
   ·cases hcs
  obtain⟨o0,ho0,he⟩:=hhk h1' om;rw[hbase hkb ho0]at he;subst he;exact hI.old n k cs hkb hkn (by unfold cellsOfOb;rw[ho0]) h0
end
section
variable{P:Program}{vars:List Nat}{m:List Nat}{c:Cl}{w:World}{g:Jj}{h:JC}{a:Act}{E:Entry}
theorem JHG{w':World}{arr:Array Value}{e:TypeId}{n cap sz:Nat}(hl:m.length=h.length)(hw:w'.heap=w.heap.push (.cells arr e))(hn:n<=cap)(hm:cap<=maxLen)(hs:arr.size=cap*sz):
  VRr (m++[w.heap.size]) c w' (.stk h.length n sz) (.slice (some ⟨w.heap.size,0,none⟩) n cap):=by
 have hnew:w'.heap[w.heap.size]? =some (.cells arr e (0,0)):=by rw[hw];simp
 exact⟨w.heap.size,cap,by rw[<-hl];simp,rfl,hn,hm,λ_=>⟨arr,e,(0,0),hnew,hs,λj _=>by simp[B4,hnew]⟩⟩
theorem JLk{v:V}{r:List (List V)}(h:Qb v= .list .yes r):v= .nil/\r=[]:=by
 cases v<;>simp[Qb,own1,cp]at h
 exact⟨rfl,h⟩
theorem JLl{v:V}{x:Value}(hv:VP c w v x):VR1 m c w (Qb v) x:=VR1.own1 (VR1.cp (zD hv))
theorem JBo(v:V):QK (Qb v)=QK v:=by unfold Qb;rw[YG];cases v<;>rfl
theorem JOh{i:Nat}{v:V}(h:HZ v=true):avf i (Qb v)=true:=by cases v<;>first|rfl|cases h
theorem WH{v:V}(h:Hd v=true):HZ v=true/\QK v=false:=by unfold Hd at h;simpa using h
theorem JAQ{v:V}(h:HZ v=true):WO v=true:=by cases v<;>first|exact h|rfl|cases h
theorem JLm{cs:List V}(h:∀v∈cs,QK v=false):Zg cs=false:=by
 cases hb:Zg cs with
 |false=>rfl
 |true=>obtain⟨x,h2,h3⟩:=Qw.1 hb;rw[h x (Ar h2)]at h3;cases h3
theorem jr{z:List V}:∀(n:Nat),(Wp n z).length=n*z.length
 |0=>by simp[Wp]
 |n+1=>by rw[Wp,Ah,jr n,Bf];omega
theorem kM{z:List V}:∀(n j:Nat),j<n*z.length->(Wp n z)[j]? =z[j%z.length]?
 |0,j,h=>by simp at h
 |n+1,j,h=>by
  rw[Wp,B9]
  split
  ·rename_i hl;rw[Mh hl]
  ·rename_i hl
   rw[kM n (j-z.length) (by rw[Bf]at h;omega)]
   congr 1
   exact(Nat.mod_eq_sub_mod om).symm
theorem JBp{z:List V}{v:V}:∀(n:Nat),v∈Wp n z->v∈z
 |0,h=>by cases h
 |n+1,h=>by
  rw[Wp,AN]at h;rcases h with h|h
  ·exact h
  ·exact JBp n h
theorem JQV(hI:InvP vars E m c w g h a){o:Oper}{t e:TypeId}{n k:Operand}{na:Int}{z:List Value}(ho:o.op= .makeSlice t n k)(h1:idx (opd g n)=some na)(h2:idx (opd g k)=some na)(hu:P.underlying t=some (.slice e))(hz:K0 P e=some z)
  (c1:0<=na)(c3:z.length=JG P e)(c4:0<JG P e)(c5:na.toNat*P.bytesOf e<=140737488355328)(c6:na<=9223372036854775807)(c7:(z.map KW).all Hd=true)
  (hd:∀t,o.dst=some t->t<E.nt)(hv:∀t,o.dst=some t->t∉vars):
  Done P vars E w a o (.stk h.length na.toNat (JG P e)) g (h++[.cells (Wp na.toNat ((z.map KW).map own1))]):=by
 obtain⟨ie,hie⟩:∃ie,P.info? e=some ie:=by
  cases hie:P.info? e with
  |some ie=>exact⟨ie,rfl⟩
  |none=>simp[JG,Bx,hie]at c4
 have hsz:=JU hie
 obtain⟨zv,hzv,hzc⟩:∃zv,ie.zero=some zv/\z=zv.cells.toList:=by
  unfold K0 at hz;rw[hie]at hz
  cases hz0:ie.zero with
  |none=>simp[hz0]at hz
  |some zv=>simp[hz0]at hz;exact⟨zv,rfl,hz.symm⟩
 obtain⟨k1,hk1⟩:=Qn h1;obtain⟨k2,hk2⟩:=Qn h2;have e1:a.eval n= .int k1 na:=by have:=hI.core.opd n;rw[hk1]at this;exact this
 have e2:a.eval k= .int k2 na:=by have:=hI.core.opd k;rw[hk2]at this;exact this
 have hby:P.bytesOf e=ie.bytes:=by simp[DA,hie]
 rw[hby]at c5
 have hb':(ie.bytes:Int)*na<=281474976710656:=by have h3:((na.toNat*ie.bytes:Nat):Int)<=281474976710656:=om;rw[Int.natCast_mul,Int.toNat_of_nonneg c1,Int.mul_comm]at h3;exact h3
 have hrun:=run_make (P:=P) w t e ie zv hu hie hzv k1 k2 na na c1 (Int.le_refl _) hb' c6;subst hzc;have hzs:zv.cells.size=ie.size:=by rw[<-hsz];simpa using c3
 have hrel:=Yx (m:=m) (c:=c) (w:=w) zv
 obtain⟨hrel1,hno⟩:=Y0 hrel (λr hr=>by
  obtain⟨y,_,hy⟩:=AP.1 hr;unfold KW at hy
  split at hy
  ·cases hy
  ·split at hy<;>cases hy
  ·cases hy)
 have hmc:∀j x,(madeCells zv.cells (na.toNat*ie.size))[j]? =some x->j<na.toNat*ie.size/\zv.cells[j%ie.size]? =some x:=λj x hx=>by
  have hj:j<na.toNat*ie.size:=by have:=(AX.1 hx).1;simpa[madeCells]using this
  have h0:0<ie.size:=by rw[<-hsz];exact c4
  have hm:j%ie.size<zv.cells.size:=by rw[hzs];exact DY _ h0
  refine⟨hj,?_⟩
  simp only[madeCells,Array.getElem?_map,Array.getElem?_range,hj,if_true,A6,hzs,Aj]at hx
  rw[<-hx,getElem!_pos zv.cells _ hm,BQ hm]
 have hzl:((zv.cells.toList.map KW).map own1).length=ie.size:=by simp[hzs]
 have hone:∀(j:Nat) x,zv.cells[j]? =some x->x.oneCell'=true:=λj x hx=>by
  have hx':zv.cells.toList[j]? =some x:=by simpa using hx
  have hj:(zv.cells.toList.map KW)[j]? =some (KW x):=by simp[hx]
  exact KX (hrel.2 j _ _ hj hx') (JAQ (WH (As.1 c7 _ (Ar hj))).1)
 have hl:(Wp na.toNat ((zv.cells.toList.map KW).map own1)).length=na.toNat*ie.size:=by rw[jr,hzl]
 have hnil:∀v∈Wp na.toNat ((zv.cells.toList.map KW).map own1),QK v=false:=λv hv=>by obtain⟨u,hu,rfl⟩:=AP.1 (JBp _ hv);rw[YG];exact(WH (As.1 c7 _ hu)).2
 have hI':=WG hI (cs:=Wp na.toNat ((zv.cells.toList.map KW).map own1)) (arr:=madeCells zv.cells (na.toNat*ie.size)) (e:=e) (f:=(0,0)) (w':=w.alloc (.cells (madeCells zv.cells (na.toNat*ie.size)) e)) rfl rfl rfl rfl (λj _=>by simp)
  (by rw[hl,size_madeCells];exact Ab _)
  (λj v x hv hx=>by
   obtain⟨hj,hx'⟩:=hmc j x hx;rw[kM _ _ (by rw[hzl];exact hj),hzl]at hv
   exact⟨hrel1.2 _ v x hv (by simpa using hx'),hone _ x hx'⟩)
  (λj r hj=>by
   have hjl:j<na.toNat*ie.size:=by rw[<-hl];exact(Ad.1 hj).1
   rw[kM _ _ (by rw[hzl];exact hjl),hzl]at hj
   obtain⟨q1,q2⟩:=hno _ r hj;refine⟨q1,?_⟩
   have hx:(madeCells zv.cells (na.toNat*ie.size))[j]? =some ((madeCells zv.cells (na.toNat*ie.size))[j]'(by rw[size_madeCells];exact hjl)):=BQ _
   have h3:=(hmc j _ hx).2;have h4:zv.cells[j%ie.size]? =some (.slice none 0 0):=by simpa using q2
   rw[h4]at h3
   rw[hx,<-Bs h3])
  (λT hT hc=>by rw[JLm hnil]at hc;cases hc)
 have hstk:=JHG (c:=c) (n:=na.toNat) (cap:=na.toNat) (sz:=ie.size) (w':=w.alloc (.cells (madeCells zv.cells (na.toNat*ie.size)) e)) (arr:=madeCells zv.cells (na.toNat*ie.size)) (e:=e) hI.core.len rfl (Ab _) (by unfold maxLen;omega) (size_madeCells _ _)
 rw[hsz];refine⟨_,_,_,_,Qj (s:=Instr.makeSlice t (a.eval n) (a.eval k)) (by simp[execOp,ho]) (by rw[e1,e2];exact hrun),hI'.putBare hd hstk rfl (.inl hv)⟩
theorem JLn(hI:InvP vars E m c w g h a){o:Oper}{t e:TypeId}{n:Nat}{parts:Array (Nat×Operand)}(ho:o.op= .buildSlice t n parts)(hu:P.underlying t=some (.slice e))
  (hc:(parts.toList.map (·.1))=Bq n/\(K0 P e).isSome=true/\0<JG P e/\n*JG P e<=16777216/\((parts.toList.map λp=>cellsV (cps (opd g p.2))).all λr=>r.length==JG P e&&r.all HZ)=true)
  (hn3:((parts.toList.map λp=>cellsV (cps (opd g p.2))).flatten).all Hd=true)(hd:∀t,o.dst=some t->t<E.nt)(hv:∀t,o.dst=some t->t∉vars):
  Done P vars E w a o (.stk h.length n (JG P e)) g (h++[.cells (((parts.toList.map λp=>cellsV (cps (opd g p.2))).flatten).map own1)]):=by
 obtain⟨c1,c2,c3,c4,c5⟩:=hc;have hn:parts.toList.length=n:=by have:=congrArg AW c1;simpa using this
 have hall:∀p∈parts.toList,(cellsV (cps (opd g p.2))).length=JG P e/\ ∀v∈cellsV (cps (opd g p.2)),HZ v=true:=λp hp=>by have:=As.1 c5 _ (AP.2 ⟨p,hp,rfl⟩);simpa using this
 have hrel:∀p∈parts.toList,R2 (VR1 m c w) (cellsV (cps (opd g p.2))) (a.eval p.2).cells.toList:=λp hp=>by
  refine Qv (hI.core.opd p.2).cps ?_
  have h2:=(hall p hp).2;cases hq:cps (opd g p.2)<;>first|rfl|(rw[hq]at h2;have:=h2 _ (Bp.2 rfl);first|exact this|cases this)
 obtain⟨ie,hie⟩:∃ie,P.info? e=some ie:=by
  cases hie:P.info? e with
  |some ie=>exact⟨ie,rfl⟩
  |none=>simp[JG,Bx,hie]at c3
 have hsz:=JU hie;obtain⟨z0,hz0⟩:=Bi.1 c2;obtain⟨zv,hzv,rfl⟩:=Wt (w:=w) hz0
 have hflat:(((parts.map λp=>(p.1,a.eval p.2)).toList).map (λq=>q.2.cells.toList))=parts.toList.map λp=>(a.eval p.2).cells.toList:=by simp only[B5,Cn];apply A4;intro p _;rfl
 have hlen2:∀r∈parts.toList.map λp=>(a.eval p.2).cells.toList,r.length=JG P e:=λr hr=>by obtain⟨p,hp,rfl⟩:=AP.1 hr;rw[<-(hrel p hp).1,(hall p hp).1]
 obtain⟨arr,harr,hrun⟩:=zJ w (qs:=parts.map λp=>(p.1,a.eval p.2)) hu hie hzv (by simpa using hn) (by
   simp only[B5,Cn];have:(parts.toList.map ((λx=>x.1)∘λx:Nat×Operand=>(x.1,a.eval x.2)))=parts.toList.map (·.1):=by apply A4;intro p _;rfl
   rw[this,c1]) (λq hq=>by
   simp only[B5,AP]at hq;obtain⟨p,hp,rfl⟩:=hq;have:=(hrel p hp).1;rw[(hall p hp).1,hsz]at this
   simpa using this.symm) (by rw[<-hsz];exact c4)
 rw[hflat]at harr
 have hasz:arr.size=n*JG P e:=by rw[<-AU,harr,Y2 hlen2,Ag,hn]
 have hcells:∀(l:List (Nat×Operand)),(∀p∈l,R2 (VR1 m c w) (cellsV (cps (opd g p.2))) (a.eval p.2).cells.toList)->R2 (VR1 m c w) ((l.map λp=>cellsV (cps (opd g p.2))).flatten) ((l.map λp=>(a.eval p.2).cells.toList).flatten):=by
  intro l
  induction l with
  |nil=>intro _;exact R2.nil
  |cons p l ih=>intro hl;simp only[A3,C0];exact(hl p (by simp)).append (ih λq hq=>hl q (by simp[hq]))
 have hR:=hcells parts.toList hrel;rw[<-harr]at hR
 obtain⟨hR1,hno⟩:=Y0 hR (λr hr=>by
  obtain⟨l,hl,hr⟩:=List.mem_flatten.1 hr;obtain⟨p,hp,rfl⟩:=AP.1 hl
  exact jX _ r hr)
 have hone:∀(j:Nat) x,arr[j]? =some x->x.oneCell'=true:=λj x hx=>by
  have hx':arr.toList[j]? =some x:=by simpa using hx
  have hj:j<((parts.toList.map λp=>cellsV (cps (opd g p.2))).flatten).length:=by rw[hR.1];exact(Ad.1 hx').1
  exact KX (hR.2 j _ _ (Ac hj) hx') (JAQ (WH (As.1 hn3 _ (Ba hj))).1)
 have hnil:∀v∈((parts.toList.map λp=>cellsV (cps (opd g p.2))).flatten).map own1,QK v=false:=λv hv=>by obtain⟨u,hu,rfl⟩:=AP.1 hv;rw[YG];exact(WH (As.1 hn3 _ hu)).2
 have hI':=WG hI (cs:=((parts.toList.map λp=>cellsV (cps (opd g p.2))).flatten).map own1) (arr:=arr) (e:=e) (f:=(0,0)) (w':={w with heap:=w.heap.push (.cells arr e)}) rfl rfl rfl rfl (λj _=>by simp)
  (by rw[Ag,hR.1];simp) (λj v x hv hx=>⟨hR1.2 j v x hv (by simpa using hx),hone j x hx⟩) (λj r hj=>by
   obtain⟨q1,q2⟩:=hno j r hj
   exact⟨q1,by simpa using q2⟩) (λT hT hc=>by rw[JLm hnil]at hc;cases hc)
 have hle:n<=maxLen:=by have:n*1<=n*JG P e:=D9 _ c3;unfold maxLen;omega
 have hstk:=JHG (c:=c) (n:=n) (cap:=n) (sz:=JG P e) (w':={w with heap:=w.heap.push (.cells arr e)}) (arr:=arr) (e:=e) hI.core.len rfl (Ab _) hle hasz
 exact⟨_,_,_,_,kK ho hrun,hI'.putBare hd hstk rfl (.inl hv)⟩
theorem JJd{v:V}{x:Value}(hv:VR1 m c w v x)(hp:HZ v=true):VP c w v x:=by
 cases v with
 |v z=>have:x=z:=hv;subst this;exact .v _ hp
 |list k r=>exact hv
 |nil=>have:x= .slice none 0 0:=hv;subst this;exact .nil
 |_=>cases hp
theorem JLo(hI:InvP vars E m c w g h a){o:Oper}{t e:TypeId}{n:Nat}{parts:Array (Nat×Operand)}(ho:o.op= .buildSlice t n parts)(hu:P.underlying t=some (.slice e))
  (hc:(parts.toList.map (·.1))=Bq n/\(K0 P e).isSome=true/\0<JG P e/\n*JG P e<=16777216/\((parts.toList.map λp=>cellsV (cps (opd g p.2))).all λr=>r.length==JG P e&&r.all HZ)=true/\byT e [] (parts.toList.map λp=>cellsV (cps (opd g p.2)))=true)
  (hd:∀t,o.dst=some t->t<E.nt)(hv:∀t,o.dst=some t->t∉vars):
  Done P vars E w a o (.list .yes (parts.toList.map λp=>cellsV (cps (opd g p.2)))) g h:=by
 obtain⟨c1,c2,c3,c4,c5,c6⟩:=hc;have hn:parts.toList.length=n:=by have:=congrArg AW c1;simpa using this
 have hall:∀p∈parts.toList,(cellsV (cps (opd g p.2))).length=JG P e/\ ∀v∈cellsV (cps (opd g p.2)),HZ v=true:=λp hp=>by have:=As.1 c5 _ (AP.2 ⟨p,hp,rfl⟩);simpa using this
 have hrel:∀p∈parts.toList,R2 (VR1 m c w) (cellsV (cps (opd g p.2))) (a.eval p.2).cells.toList:=λp hp=>by
  refine Qv (hI.core.opd p.2).cps ?_
  have h2:=(hall p hp).2;cases hq:cps (opd g p.2)<;>first|rfl|(rw[hq]at h2;have:=h2 _ (Bp.2 rfl);first|exact this|cases this)
 obtain⟨ie,hie⟩:∃ie,P.info? e=some ie:=by
  cases hie:P.info? e with
  |some ie=>exact⟨ie,rfl⟩
  |none=>simp[JG,Bx,hie]at c3
 have hsz:=JU hie;obtain⟨z0,hz0⟩:=Bi.1 c2;obtain⟨zv,hzv,rfl⟩:=Wt (w:=w) hz0
 have hflat:(((parts.map λp=>(p.1,a.eval p.2)).toList).map (λq=>q.2.cells.toList))=parts.toList.map λp=>(a.eval p.2).cells.toList:=by simp only[B5,Cn];apply A4;intro p _;rfl
 have hlen2:∀r∈parts.toList.map λp=>(a.eval p.2).cells.toList,r.length=JG P e:=λr hr=>by obtain⟨p,hp,rfl⟩:=AP.1 hr;rw[<-(hrel p hp).1,(hall p hp).1]
 obtain⟨arr,harr,hrun⟩:=zJ w (qs:=parts.map λp=>(p.1,a.eval p.2)) hu hie hzv (by simpa using hn) (by
   simp only[B5,Cn];have:(parts.toList.map ((λx=>x.1)∘λx:Nat×Operand=>(x.1,a.eval x.2)))=parts.toList.map (·.1):=by apply A4;intro p _;rfl
   rw[this,c1]) (λq hq=>by
   simp only[B5,AP]at hq;obtain⟨p,hp,rfl⟩:=hq;have:=(hrel p hp).1;rw[(hall p hp).1,hsz]at this
   simpa using this.symm) (by rw[<-hsz];exact c4)
 rw[hflat]at harr
 have hasz:arr.size=n*JG P e:=by rw[<-AU,harr,Y2 hlen2,Ag,hn]
 have hI':=Y1 hI (arr:=arr) (e:=e) (f:=(0,0)) (w':={w with heap:=w.heap.push (.cells arr e)}) (n*JG P e) rfl rfl rfl rfl (by rw[hasz];exact Ab _)
 have hheap:({w with heap:=w.heap.push (.cells arr e)}:World).heap[w.heap.size]? =some (.cells arr e (0,0)):=by simp
 have hlr:(parts.toList.map λp=>cellsV (cps (opd g p.2))).length=n:=by simpa using hn
 have hold:∀b,b<w.heap.size->({w with heap:=w.heap.push (.cells arr e)}:World).heap[b]? =w.heap[b]? :=λb hb=>by
  show(w.heap.push _)[b]? =_
  rw[B7];simp[show¬b=w.heap.size by omega]
 have hext:Ext c w (λb=>if b=w.heap.size then n*JG P e else c b) {w with heap:=w.heap.push (.cells arr e)}:=by
  refine⟨λb=>?_,λb o ho=>?_,λb _=>Shp.old hold b⟩
  ·by_cases hb:b=w.heap.size
   ·subst hb;rw[hI.core.c_zero (Ab _)];exact A9 _
   ·simp[hb]
  ·rcases AG b w.heap.size with hb|hb
   ·exact JR (hold b hb) o
   ·rw[hI.core.c_zero hb]at ho;omega
 have hvp:VP (λb=>if b=w.heap.size then n*JG P e else c b) {w with heap:=w.heap.push (.cells arr e)} (.list .yes (parts.toList.map λp=>cellsV (cps (opd g p.2)))) (.slice (some ⟨w.heap.size,0,none⟩) n n):=by
  have:=kJ (k:= .yes) (cap:=n) (c:=λb=>if b=w.heap.size then n*JG P e else c b) (rows:=parts.toList.map λp=>cellsV (cps (opd g p.2))) hheap c3 (λrow hr=>by
    obtain⟨p,hp,rfl⟩:=AP.1 hr
    exact(hall p hp).1) (by rw[hlr];exact Ab _) (by simp only[hlr,if_true];exact Ab _) (λi j row v hi hj=>by
    simp only[Ax,Ak]at hi
    obtain⟨p,hp,rfl⟩:=hi;have hpm:=Ar hp;obtain⟨x,hx,hvx⟩:=(hrel p hpm).get hj;have hjl:j<JG P e:=by rw[<-(hall p hpm).1];exact(Ad.1 hj).1
    refine⟨x,?_,(JJd hvx ((hall p hpm).2 v (Ar hj))).mono hext⟩
    rw[<-BF,harr,qw hlen2 (i:=i) (row:=(a.eval p.2).cells.toList) (by simp[hp]) hjl]
    exact hx)
  rwa[hlr]at this
 have hdo:Does P w a o (.slice (some ⟨w.heap.size,0,none⟩) n n) {w with heap:=w.heap.push (.cells arr e)}:=kK ho hrun
 refine⟨.slice (some ⟨w.heap.size,0,none⟩) n n,{w with heap:=w.heap.push (.cells arr e)},m,λb=>if b=w.heap.size then n*JG P e else c b,hdo,?_⟩
 refine hI'.putOwn hd hvp ?_ ?_ ?_ (.inl hv)
 ·refine .inr ⟨w.heap.size,n,arr,e,JG P e,by rw[hlr],hheap,by rw[hlr];exact Ab _,?_,hasz,c3,λrow hr=>?_,by simp[hlr],?_,λh0=>?_,λT hT hb=>JHC c6 T hT hb⟩
  ·have:n*1<=n*JG P e:=D9 _ c3
   unfold maxLen;omega
  ·obtain⟨p,hp,rfl⟩:=AP.1 hr
   exact(hall p hp).1
  ·intro hb
   obtain⟨i,hi,hb⟩:=A8 hb;have:=hI.core.m_lt (Ac hi)
   omega
  ·have:=congrArg AW h0
   rw[hlr]at this;simpa using this
 ·intro l r' x' b hl hb hb'
  cases hb
  have hl':At m w g h a l r' x':=by
   cases l with
   |slot t=>exact hl
   |cell i j=>obtain⟨cs,b,k1,k2,k3,k4⟩:=hl;exact⟨cs,b,k1,k2,k3,by rw[<-JR (hold b (hI.core.m_lt k3))];exact k4⟩
  exact absurd ((hI.core.own l r' x' hl').lt hb').1 (De _)
 ·intro b hb
  cases hb;exact .inl hI.fr.size
theorem JD0{q:List (List V)}{news:List Value}{sz:Nat}(hq:∀row∈q,row.length=sz)(hn:news.length=q.length*sz)(h2:∀(i j:Nat) row v,q[i]? =some row->row[j]? =some v->∃x,news[i*sz+j]? =some x/\VP c w v x)(hsz:0<sz):
  R2 (VP c w) q.flatten news:=by
 refine⟨by rw[Y2 hq,hn],λk v x hv hx=>?_⟩
 have hk:k<q.length*sz:=by rw[<-hn];exact(Ad.1 hx).1
 have hi:k/sz<q.length:=DX (by rw[C8];exact hk)
 have hm:k%sz<sz:=DY _ hsz;have hrow:=Ac hi
 have hfl:=qw hq hrow hm;have hdm:k/sz*sz+k%sz=k:=by rw[C8];exact Lp k sz
 rw[hdm,hv]at hfl;obtain⟨y,hy,hvy⟩:=h2 _ _ _ v hrow hfl.symm;rw[hdm,hx]at hy;cases hy;exact hvy
theorem JNG{q:List V}{news:List Value}(h:R2 (VP c w) q news):R2 (VR1 m c w) (q.map Qb) news/\(∀(j:Nat) (r:List (List V)),(q.map Qb)[j]? =some (.list .yes r)->r=[]/\news[j]? =some (.slice none 0 0))/\ ∀(j:Nat) x,news[j]? =some x->x.oneCell'=true:=by
 refine⟨by simpa using h.map (f:=Qb) (g:=id) λ_ _=>JLl,λj r hj=>?_,λj x hx=>?_⟩
 ·simp only[Ax,Ak]at hj
  obtain⟨u,hu,he⟩:=hj;obtain⟨rfl,rfl⟩:=JLk he;obtain⟨y,hy,hvy⟩:=h.get hu;cases hvy;exact⟨rfl,hy⟩
 ·have hj:j<q.length:=by rw[h.1];exact(Ad.1 hx).1
  exact(h.2 j _ x (Ac hj) hx).oneCell
theorem JOi{t u e ty:TypeId}{ie:TypeInfo}{du:TypeDesc}(ht:P.underlying t=some (.slice e))(hu:P.underlying u=some du)(hdu:∀k,du≠ .int k)(hi:P.info? e=some ie)
  {b n cap k:Nat}{x:Value}{news:List Value}{cur:Array Value}{e':TypeId}{f:Nat×Nat}(hs:Src P w ie.size k x news)(hb:w.heap[b]? =some (.cells cur e' f))(hfr:∀j,j<cur.size->w.frozen? ⟨b,j,none⟩=false)
  (hroom:n+k<=cap)(hfit:n*ie.size+news.length<=cur.size)(hone:∀y∈news,y.oneCell'=true):
  (Builtin.append_ #[t,u] ty #[.slice (some ⟨b,0,none⟩) n cap,x]).run P w= .ok (.slice (some ⟨b,0,none⟩) (n+k) cap) (w.setCells b (n*ie.size) news):=by
 obtain⟨h1,h2⟩:=hs w rfl
 have hst:=run_storeCells_cells (P:=P) b (n*ie.size) news 0 w (λj hj=>by
   rw[Jm hb];have:n*ie.size+j<cur.size:=om
   simp[this]) (λj hj=>hfr _ om) hone
 unfold Builtin.append_;simp only[BB,run_underlying ht,run_underlying hu,Bk,WD hi,Dl,Cs,BP,CM,h1,Am,if_false,if_pos hroom,KC,AE,DH,if_true,h2]
 simp only[BH]at hst;simp[hst]
structure AppT(P:Program)(o:Oper)(k:Call)(x y:Operand)(e:TypeId)(du:TypeDesc):Prop where
 ho:o.op= .call k
 hc:k.callee= .builtin .append
 hargs:k.args.toList=[x,y]
 htypes:k.argTypes.toList.map P.underlying=[some (.slice e),some du]
 c1:(K0 P e).map (·.length)=some (JG P e)
 c2:0<JG P e
 c3:Hc du=true
theorem AppT.spec{o:Oper}{k:Call}{x y:Operand}{e:TypeId}{du:TypeDesc}(hT:AppT P o k x y e du):
  ∃t u ie z,P.info? e=some ie/\P.underlying t=some (.slice e)/\P.underlying u=some du/\(∀kk,du≠ .int kk)/\ie.zero=some z/\z.cells.size=ie.size/\
   ∀v w',(Builtin.append_ #[t,u] o.type #[a.eval x,a.eval y]).run P w= .ok v w'->Does P w a o v w':=by
 obtain⟨ho,hc,hargs,htypes,c1,c2,c3⟩:=hT
 obtain⟨ie,hie⟩:∃ie,P.info? e=some ie:=by
  cases hie:P.info? e with
  |some ie=>exact⟨ie,rfl⟩
  |none=>simp[JG,Bx,hie]at c2
 have hsz:=JU hie
 obtain⟨z,hz,hzl⟩:∃z,ie.zero=some z/\z.cells.size=ie.size:=by
  unfold K0 at c1;rw[hie]at c1
  cases hz:ie.zero with
  |none=>simp[hz]at c1
  |some z=>simp[hz]at c1;exact⟨z,rfl,by rw[c1,hsz]⟩
 obtain⟨t,u,ht2,htu,huu⟩:∃t u,k.argTypes= #[t,u]/\P.underlying t=some (.slice e)/\P.underlying u=some du:=by
  rcases hl:k.argTypes.toList with _|⟨t,_|⟨u,_|⟨v,l⟩⟩⟩<;>rw[hl]at htypes<;>simp at htypes
  exact⟨t,u,by rw[<-Cm (xs:=k.argTypes),hl],htypes.1,htypes.2⟩
 have hargs':k.args.map a.eval= #[a.eval x,a.eval y]:=by rw[<-Cm (xs:=k.args),hargs];simp
 refine⟨t,u,ie,z,hie,htu,huu,λkk e=>(by subst e;cases c3),hz,hzl,λv w' hr=>?_⟩
 refine Qj (Hk a.eval ho hc) ?_
 rw[ht2,hargs'];exact hr
theorem JQW(hI:InvP vars E m c w g h a){o:Oper}{k:Call}{x y:Operand}{e:TypeId}{du:TypeDesc}{q:List (List V)}{g1:Jj}{h1:JC}(hT:AppT P o k x y e du)(hown:GG E.lo (g,h) x=some ([],g1,h1))(hq:WY P e (opd g y)=some q)
  (c5:q.flatten.all Hd=true)(c6:0<q.length)(c7:q.length*P.bytesOf e<=140737488355328)(c8:q.length<=9223372036854775807)
  (hd:∀t,o.dst=some t->t<E.nt)(hv:∀t,o.dst=some t->t∉vars):Done P vars E w a o (.stk h1.length q.length (JG P e)) (Lift.untag g1) (h1++[.cells (q.flatten.map Qb)]):=by
 obtain⟨hI1,hO⟩:=Gm hI hown;obtain⟨t,u,ie,z,hie,htu,huu,hdu,hz,hzl,hdo⟩:=hT.spec (a:=a) (w:=w);have hsz:=JU hie;have hsz0:0<ie.size:=by rw[<-hsz];exact hT.c2
 have hby:P.bytesOf e=ie.bytes:=by simp[DA,hie]
 rw[hby]at c7;obtain⟨news,hsrc,hnl,hqr,hnew⟩:=yB hie (hI.core.opd y) hq hsz0;obtain⟨k1,k2,k3⟩:=JNG (m:=m) (JD0 hqr hnl hnew hsz0)
 have key:∀{base:Option Addr},a.eval x= .slice base 0 0->(∀w',w'.heap=w.heap->(Builtin.firstCells ie.size 0 (.slice base 0 0)).run P w'= .ok #[] w')->Done P vars E w a o (.stk h1.length q.length (JG P e)) (Lift.untag g1) (h1++[.cells (q.flatten.map Qb)]):=λ{base} hx hf=>by
  have hrun:=yA (P:=P) (w:=w) (ty:=o.type) (n:=0) (cap:=0) (olds:=[]) htu huu hdu hie hz hsrc hf om om (by rw[AE];exact c7)
  rw[<-hx]at hrun;rw[AE]at hrun;have hge:=grownCap_ge w q.length 0 e
  have hasz:(([]:List Value).toArray++news.toArray++Builtin.zeroCells z.cells (grownCap w q.length 0 e-q.length)).size=grownCap w q.length 0 e*ie.size:=by
   simp only[C1,Cf,An,hnl,size_zeroCells,hzl];rw[AE,<-Bf]
   congr 1
   omega
  have hnil:∀v∈q.flatten.map Qb,QK v=false:=λv hv=>by obtain⟨u,hu,rfl⟩:=AP.1 hv;rw[JBo];exact(WH (As.1 c5 _ hu)).2
  have hnlt:∀(j:Nat) y,news[j]? =some y->(([]:List Value).toArray++news.toArray++Builtin.zeroCells z.cells (grownCap w q.length 0 e-q.length))[j]? =some y:=λj y hy=>by
   have hjl:=(Ad.1 hy).1
   rw[BL (by simpa using hjl)]
   simpa using hy
  have hklen:(q.flatten.map Qb).length=q.length*ie.size:=by rw[Ag,Y2 hqr]
  have hI':=WG hI1 (cs:=q.flatten.map Qb) (arr:=([]:List Value).toArray++news.toArray++Builtin.zeroCells z.cells (grownCap w q.length 0 e-q.length)) (e:=e) (f:=(0,0)) (w':=w.drew.alloc (.cells (([]:List Value).toArray++news.toArray++Builtin.zeroCells z.cells (grownCap w q.length 0 e-q.length)) e)) rfl rfl rfl rfl (λj _=>by simp)
   (by rw[hasz,hklen];exact AH _ hge)
   (λj v y hv hy=>by
    have hj:j<news.length:=by rw[<-k1.1];exact(Ad.1 hv).1
    have h3:=hnlt j _ (Ac hj)
    rw[hy]at h3;cases h3
    exact⟨k1.2 j v _ hv (Ac hj),k3 j _ (Ac hj)⟩)
   (λj r hj=>by
    obtain⟨q1,q2⟩:=k2 j r hj
    exact⟨q1,hnlt j _ q2⟩) (λT hT hc=>by rw[JLm hnil]at hc;cases hc)
  have hstk:=JHG (c:=c) (n:=q.length) (cap:=grownCap w q.length 0 e) (sz:=ie.size) (w:=w) (w':=w.drew.alloc (.cells (([]:List Value).toArray++news.toArray++Builtin.zeroCells z.cells (grownCap w q.length 0 e-q.length)) e)) (e:=e) hI1.core.len rfl hge (grownCap_le_maxLen w _ _ e (by unfold maxLen;exact c8)) hasz
  rw[hsz];exact⟨_,_,_,_,hdo _ _ hrun,hI'.putBare hd hstk rfl (.inl hv)⟩
 rcases hO.2.1 with⟨hx,_⟩|⟨b,cap,cur,e',sz,hx,_,_,_,_,_,_,_,_,k9,_⟩
 ·exact key hx (λw' _=>by simp[Builtin.firstCells])
 ·have:=k9 rfl
  subst this;exact key hx (λw' _=>run_firstCells_some w' ie.size 0 ⟨b,0,none⟩ 0 0 [] (by simp) (λj v hj=>by simp at hj))
theorem JQX(hI:InvP vars E m c w g h a){o:Oper}{k:Call}{x y:Operand}{e:TypeId}{du:TypeDesc}{q:List (List V)}{i n:Nat}{cs:List V}(hT:AppT P o k x y e du)(hx:opd g x= .stk i n (JG P e))(hcs:cellsOfOb h i=some cs)(hq:WY P e (opd g y)=some q)
  (hib:E.base<=i)(c4:n*JG P e<=cs.length)(c5:(cs.take (n*JG P e)).all (JDR i)=true)(c6:q.flatten.all Hd=true)(c7:(n+q.length)*P.bytesOf e<=140737488355328)(c8:n+q.length<=9223372036854775807)
  (hd:∀t,o.dst=some t->t<E.nt)(hv:∀t,o.dst=some t->t∉vars):
  Done P vars E w a o (.stk i (n+q.length) (JG P e)) (kilE i (Lift.untag g)) ((y9 E.base i h).set i (.cells (cs.take (n*JG P e)++q.flatten.map Qb))):=by
 obtain⟨t,u,ie,z,hie,htu,huu,hdu,hz,hzl,hdo⟩:=hT.spec (a:=a) (w:=w);have hsz:=JU hie;have hsz0:0<ie.size:=by rw[<-hsz];exact hT.c2
 have hby:P.bytesOf e=ie.bytes:=by simp[DA,hie]
 rw[hby]at c7;rw[hsz]at hx c4 c5⊢;obtain⟨news,hsrc,hnl,hqr,hnew⟩:=yB hie (hI.core.opd y) hq hsz0;obtain⟨k1,k2,k3⟩:=JNG (m:=m) (JD0 hqr hnl hnew hsz0);have hxv:=hI.core.opd x;rw[hx]at hxv;obtain⟨gb,cap,hm,hy,hncap,hmx,hshp⟩:=hxv;obtain⟨arr,e',f,hw,hasz,hfr⟩:=hshp (hI.core.wf2 gb (Ar hm))
 have hcs0:h[i]? =some (.cells cs):=by
  unfold cellsOfOb at hcs
  split at hcs
  ·rename_i h0;cases hcs;exact h0
  ·cases hcs
 obtain⟨arr0,e0,f0,hw0,hle,_,hall,_⟩:=hI.core.ob i _ gb hcs0 hm;rw[hw]at hw0;cases hw0;have hIu:=hI.untag;have htl:(cs.take (n*ie.size)).length=n*ie.size:=by simp;omega
 have hql:(q.flatten.map Qb).length=q.length*ie.size:=by rw[Ag,Y2 hqr]
 have hcl:(cs.take (n*ie.size)++q.flatten.map Qb).length=(n+q.length)*ie.size:=by rw[Ah,htl,hql,Bf]
 have hnil:∀v∈cs.take (n*ie.size)++q.flatten.map Qb,QK v=false:=λv hv=>by
  rcases AN.1 hv with hv|hv
  ·have:=As.1 c5 _ hv
   unfold JDR at this;simp at this;exact this.2
  ·obtain⟨u,hu,rfl⟩:=AP.1 hv
   rw[JBo];exact(WH (As.1 c6 _ hu)).2
 have hone:∀v∈news,v.oneCell'=true:=λv hv=>by obtain⟨j,hj,rfl⟩:=A8 hv;exact k3 j _ (Ac hj)
 have hcell:∀{arr':Array Value},(∀j,j<n*ie.size->arr'[j]? =arr[j]?)->(∀j y,news[j]? =some y->arr'[n*ie.size+j]? =some y)->
   ∀(j:Nat) v x,(cs.take (n*ie.size)++q.flatten.map Qb)[j]? =some v->arr'[j]? =some x->VR1 m c w v x/\avf i v=true/\x.oneCell'=true:=λ{arr'} ha hb j v x hv hx=>by
  rw[B9,htl]at hv
  split at hv
  ·rename_i hj
   rw[ha j hj]at hx;have h3:=As.1 c5 _ (Ar hv);rw[AK,if_pos hj]at hv
   unfold JDR at h3;simp at h3;exact⟨(hall j v x hv hx).1,h3.1,(hall j v x hv hx).2⟩
  ·rename_i hj
   have hjl:j-n*ie.size<news.length:=by rw[<-k1.1];exact(Ad.1 hv).1
   have h3:=hb _ _ (Ac hjl)
   rw[show n*ie.size+(j-n*ie.size)=j by omega,hx]at h3
   cases h3;refine⟨k1.2 _ v _ hv (Ac hjl),?_,k3 _ _ (Ac hjl)⟩
   simp only[Ax,Ak]at hv
   obtain⟨u,hu,rfl⟩:=hv;exact JOh (WH (As.1 c6 _ (Ar hu))).1
 have hownc:∀{arr':Array Value} {w':World} {nb:Nat} {e2:TypeId} {f2:Nat×Nat},w'.heap[nb]? =some (.cells arr' e2 f2)->(∀j,j<n*ie.size->arr'[j]? =arr[j]?)->(∀j y,news[j]? =some y->arr'[n*ie.size+j]? =some y)->
   ∀(j:Nat) r x,(cs.take (n*ie.size)++q.flatten.map Qb)[j]? =some (.list .yes r)->w'.cell? ⟨nb,j,none⟩=some x->(r=[]/\x= .slice none 0 0)\/At m w (Lift.untag g) h a (.cell i j) r x:=λ{arr' w' nb e2 f2} hw' ha hb j r x hv hx=>by
  rw[Jm hw']at hx;rw[B9,htl]at hv
  split at hv
  ·rename_i hj
   rw[ha j hj]at hx;rw[AK,if_pos hj]at hv
   exact .inr ⟨cs,gb,hcs,hv,hm,by rw[Jm hw];exact hx⟩
  ·rename_i hj
   obtain⟨q1,q2⟩:=k2 _ r hv;have h3:=hb _ _ q2;rw[show n*ie.size+(j-n*ie.size)=j by omega,hx]at h3
   exact .inl ⟨q1,Bs h3⟩
 have him:i<m.length:=(Ad.1 hm).1
 by_cases hroom:n+q.length<=cap
 ·have hle2:(n+q.length)*ie.size<=cap*ie.size:=AH _ hroom
  have hfit:n*ie.size+news.length<=arr.size:=by rw[hnl,<-Bf,hasz];exact hle2
  have hrun:=JOi (P:=P) (w:=w) (ty:=o.type) htu huu hdu hie hsrc hw hfr hroom hfit hone;rw[<-hy]at hrun;obtain⟨s1,s2,s3,s4,s5,arr',s6,s7⟩:=Jg gb news (n*ie.size) w arr e' f hw hfit
  have hsize:arr'.size=arr.size:=by have:=congrArg AW s7;simp only[AU,Ah,AM,Ay]at this;omega
  have ha:∀j,j<n*ie.size->arr'[j]? =arr[j]? :=λj hj=>by
   rw[<-BF,s7,K9 (by simpa using hfit),if_neg om]
   simp
  have hb:∀j y,news[j]? =some y->arr'[n*ie.size+j]? =some y:=λj y hy=>by
   have hjl:=(Ad.1 hy).1
   rw[<-BF,s7,K9 (by simpa using hfit),if_pos om,BE]
   exact hy
  have hI':=hIu.restk (nb:=gb) (cs':=cs.take (n*ie.size)++q.flatten.map Qb) (w':=w.setCells gb (n*ie.size) news) hib hm (.inl rfl) (by rw[s1];exact Ab _) (λb _ hb=>s2 b hb) s3 s4 s5
   ⟨arr',e',f,s6,by rw[hcl,hsize,hasz];exact hle2,λj hj=>by
    have h3:=hfr j (by rw[hcl]at hj;rw[hasz];omega)
    simp only[B4,hw,s6]at h3⊢
    exact h3,hcell ha hb⟩ hnil (λ_=>QX hw hfit) (hownc s6 ha hb) (λt u r=>Wa t u r) (λt i j r=>Wv t i j r)
  refine⟨_,_,_,_,hdo _ _ hrun,hI'.putBare hd ?_ rfl (.inl hv)⟩
  exact⟨gb,cap,by simp[him],rfl,hroom,hmx,λ_=>⟨arr',e',f,s6,by rw[hsize,hasz],λj hj=>by
   have h3:=hfr j (by rw[<-hsize];exact hj)
   simp only[B4,hw,s6]at h3⊢
   exact h3⟩⟩
 ·have hole:n*ie.size<=arr.size:=by rw[hasz];exact AH _ hncap
  have hol:(arr.toList.take (n*ie.size)).length=n*ie.size:=by rw[AM,AU];exact Ci hole
  have hrun:=yA (P:=P) (w:=w) (ty:=o.type) (base:=some ⟨gb,0,none⟩) (n:=n) (cap:=cap) (olds:=arr.toList.take (n*ie.size)) htu huu hdu hie hz hsrc (λw' hw'=>run_firstCells_some w' ie.size n ⟨gb,0,none⟩ n cap _ hol (λj v hj=>by
   rw[KC,AE,JR (w:=w) (w':=w') (by rw[hw']),Jm hw]
   rw[AK]at hj
   split at hj
   ·simpa using hj
   ·cases hj)) om c8 c7
  rw[<-hy]at hrun;have hge:=grownCap_ge w (n+q.length) cap e
  have hasz':((arr.toList.take (n*ie.size)).toArray++news.toArray++Builtin.zeroCells z.cells (grownCap w (n+q.length) cap e-(n+q.length))).size=grownCap w (n+q.length) cap e*ie.size:=by
   simp only[C1,Cf,hol,hnl,size_zeroCells,hzl];rw[<-Bf,<-Bf]
   congr 1
   omega
  have ha:∀j,j<n*ie.size->((arr.toList.take (n*ie.size)).toArray++news.toArray++Builtin.zeroCells z.cells (grownCap w (n+q.length) cap e-(n+q.length)))[j]? =arr[j]? :=λj hj=>by
   rw[LZ,BL (by simp only[Cf,hol];exact hj)]
   simp[AK,hj]
  have hb:∀j y,news[j]? =some y->((arr.toList.take (n*ie.size)).toArray++news.toArray++Builtin.zeroCells z.cells (grownCap w (n+q.length) cap e-(n+q.length)))[n*ie.size+j]? =some y:=λj y hy=>by
   have hjl:=(Ad.1 hy).1
   rw[BL (by simp only[C1,Cf,hol];omega),Array.getElem?_append_right (by simp only[Cf,hol];omega)]
   simp only[Cf,hol,BE];simpa using hy
  have hnew2:(w.drew.alloc (.cells ((arr.toList.take (n*ie.size)).toArray++news.toArray++Builtin.zeroCells z.cells (grownCap w (n+q.length) cap e-(n+q.length))) e)).heap[w.heap.size]? =some (.cells ((arr.toList.take (n*ie.size)).toArray++news.toArray++Builtin.zeroCells z.cells (grownCap w (n+q.length) cap e-(n+q.length))) e (0,0)):=heap_alloc_new w.drew _
  have hold:∀b,b<w.heap.size->(w.drew.alloc (.cells ((arr.toList.take (n*ie.size)).toArray++news.toArray++Builtin.zeroCells z.cells (grownCap w (n+q.length) cap e-(n+q.length))) e)).heap[b]? =w.heap[b]? :=λb hb=>by
   show(w.heap.push _)[b]? =_
   rw[B7];simp[show¬b=w.heap.size by omega]
  have hI':=hIu.restk (nb:=w.heap.size) (cs':=cs.take (n*ie.size)++q.flatten.map Qb) (w':=w.drew.alloc (.cells ((arr.toList.take (n*ie.size)).toArray++news.toArray++Builtin.zeroCells z.cells (grownCap w (n+q.length) cap e-(n+q.length))) e)) hib hm (.inr (Ab _))
   (by show w.heap.size<=(w.heap.push _).size;simp) (λb hb _=>hold b hb) rfl rfl rfl
   ⟨_,e,(0,0),hnew2,by rw[hcl,hasz'];exact AH _ hge,λj hj=>by simp only[B4,hnew2];simp,hcell ha hb⟩ hnil (λhe=>by
    have:=hI.core.m_lt hm
    omega) (hownc hnew2 ha hb) (λt u r=>Wa t u r) (λt i j r=>Wv t i j r)
  refine⟨_,_,_,_,hdo _ _ hrun,hI'.putBare hd ?_ rfl (.inl hv)⟩
  exact⟨w.heap.size,grownCap w (n+q.length) cap e,by simp[him],rfl,hge,grownCap_le_maxLen w _ _ e (by unfold maxLen;exact c8),λ_=>⟨_,e,(0,0),hnew2,hasz',λj hj=>by simp only[B4,hnew2];simp⟩⟩
theorem JUQ(hI:InvP vars E m c w g h a){o:Oper}{md:Option Nat->Nat}{v:V}{g':Jj}{h':JC}(hn:GJ md o.dst o.op=true)(he:Zh P E.base E.lo (md o.dst) (g,h) o.op=some (v,g',h'))(hd:∀t,o.dst=some t->t<E.nt)
  (hv:(∃x,o.op= .assign x)\/ ∀t,o.dst=some t->t∉vars):Done P vars E w a o v g' h':=by
 generalize hop:o.op=op at he hn hv
 have hv':(∀x,op≠ .assign x)->∀t,o.dst=some t->t∉vars:=λhne=>by
  rcases hv with⟨x,hx⟩|hv
  ·exact absurd hx (hne x)
  ·exact hv
 cases op with
 |makeSlice t n k=>
  simp only[Zh]at he
  split at he
  ·rename_i na nb e h1 h2 hu
   split at he
   ·rename_i z hz
    split at he
    ·rename_i hc
     obtain⟨c1,rfl,c3,c4,c5,c6,c7⟩:=hc;simp only[Aj,AL]at he;obtain⟨rfl,rfl,rfl⟩:=he;exact JQV hI hop h1 h2 hu hz c1 c3 c4 c5 c6 c7 hd (hv' (λx e=>by cases e))
    ·cases he
   ·cases he
  ·cases he
 |buildSlice t n parts=>
  simp only[Zh]at he
  split at he
  ·rename_i e hu
   split at he
   ·rename_i hc
    split at he
    ·simp only[Aj,AL]at he
     obtain⟨rfl,rfl,rfl⟩:=he;exact JLo hI hop hu hc hd (hv' (λx e=>by cases e))
    ·split at he
     ·rename_i h3
      simp only[Aj,AL]at he;obtain⟨rfl,rfl,rfl⟩:=he;exact JLn hI hop hu ⟨hc.1,hc.2.1,hc.2.2.1,hc.2.2.2.1,hc.2.2.2.2.1⟩ h3 hd (hv' (λx e=>by cases e))
     ·cases he
   ·cases he
  ·cases he
 |alloc t=>
  simp only[Zh]at he
  split at he
  ·rename_i z hz
   split at he
   ·rename_i hc
    rw[Af]at hc;simp only[Aj,AL]at he;obtain⟨rfl,rfl,rfl⟩:=he;exact JLd hI hop hz hc.1 hc.2 hd (hv' (λx e=>by cases e))
   ·cases he
  ·cases he
 |store t p x=>
  simp only[Zh]at he
  split at he
  ·rename_i b off hp
   split at he
   ·rename_i cs hcs
    split at he
    ·split at he
     ·rename_i hc
      simp only[Aj,AL]at he;obtain⟨rfl,rfl,rfl⟩:=he
      exact JLe hI hop hp hcs (⟨hc.1,hc.2.1,hc.2.2.1,hc.2.2.2.1,hc.2.2.2.2.1,λhib=>by
       have:=hc.2.2.2.2.2;simp only[A7,decide_eq_true_eq]at this;rcases this with h1|h1
       ·omega
       ·rw[A7];exact h1⟩) hd
     ·cases he
    ·split at he
     ·rename_i hc
      have hst:=zH hI hop hp hcs (⟨hc.1,hc.2.1,hc.2.2.1,hc.2.2.2.1,hc.2.2.2.2.1,λhib=>by
       have:=hc.2.2.2.2.2;simp only[A7,decide_eq_true_eq]at this;rcases this with h1|h1
       ·omega
       ·rw[A7];exact h1⟩) hd
      split at he
      ·rename_i ds hds
       simp only[Aj,AL]at he;obtain⟨rfl,rfl,rfl⟩:=he;rw[hds]at hst;exact hst
      ·rename_i hna
       simp only[Aj,AL]at he;obtain⟨rfl,rfl,rfl⟩:=he
       have h1:cellsV (Kc (Jk g x).1)=[Kc (Jk g x).1]:=by cases hq:Kc (Jk g x).1<;>first|rfl|(exact absurd hq (hna _))
       have h2:JG P t=1:=by have h3:=hc.2.2.1;have h4:=congrArg AW h1;rw[cellsV_own1s,Ag]at h4;rw[h4]at h3;simpa using h3.symm
       rw[h1,h2]at hst;have h3:off<cs.length:=by have:=hc.2.1;omega
       rw[show cs.take off++[Kc (Jk g x).1]++cs.drop (off+1)=cs.set off (Kc (Jk g x).1)by rw[C7,if_pos h3];simp]at hst
       exact hst
     ·cases he
   ·cases he
  ·cases he
 |call k=>
  have hc:k.callee= .builtin .append:=by
   simp only[GJ]at hn
   split at hn
   ·assumption
   ·cases hn
  simp only[Zh]at he
  split at he
  ·rename_i x y e u hargs htypes
   split at he
   ·rename_i q hq
    split at he
    ·rename_i hcond
     have hT:AppT P o k x y e u:=⟨hop,hc,hargs,htypes,hcond.1,hcond.2.1,hcond.2.2⟩;unfold JLQ at he
     split at he
     ·rename_i i n z hx
      split at he
      ·rename_i cs hcs
       split at he
       ·rename_i hcc
        obtain⟨d1,rfl,d3,d4,d5,d6⟩:=hcc;simp only[Af]at d4;simp only[Aj,AL]at he;obtain⟨rfl,rfl,rfl⟩:=he;exact JQX hI hT hx hcs hq d1 d3 d4.1 d4.2 d5 d6 hd (hv' (λx e=>by cases e))
       ·cases he
      ·cases he
     ·split at he
      ·rename_i s' hown
       split at he
       ·rename_i hcc
        simp only[Aj,AL]at he;obtain⟨rfl,rfl,rfl⟩:=he;exact JQW hI hT hown hq hcc.1 hcc.2.1 hcc.2.2.1 hcc.2.2.2 hd (hv' (λx e=>by cases e))
       ·cases he
      ·cases he
    ·cases he
   ·cases he
  ·cases he
 |_=>cases hn
end
section
variable{vars:List Nat}{m:List Nat}{c:Cl}{w:World}{g:Jj}{h:JC}{a:Act}{E:Entry}{cx:Cx}
theorem JDW{x:Operand}{i o:Nat}(hx:opd g x= .ptr i o):opd (untag g) x= .ptr i o:=by
 cases x with
 |tmp t=>simp only[opd]at hx⊢;rw[Jp,hx]<;>rfl
 |_=>exact hx
abbrev JYT(cx:Cx)(E:Entry)(a:Act)(w:World)(o:Oper)(v:V)(g':Jj)(h':JC):Prop:=
 ∀(next:Act->World->Prop) (Q:Exit->Act->World->Prop),(∀x w' m' c',InvP cx.hint.vars E m' c' w' (put o.dst v g') h' (a.put o.dst x)->next (a.put o.dst x) w')->o.wp cx.P a w next Q
theorem Done.goes{o:Oper}{v:V}{g':Jj}{h':JC}(hd:Done cx.P cx.hint.vars E w a o v g' h'):JYT cx E a w o v g' h':=λnext Q hn=>by obtain⟨x,w',m',c',hdo,hI⟩:=hd;exact hdo.wp (hn x w' m' c' hI)
theorem JXi(hI:InvP cx.hint.vars E m c w g h a)(hX:CxOK cx E){o:Oper}{v:V}{g':Jj}{h':JC}(he:Wq cx (g,h) o=some (v,g',h'))(hd:∀t,o.dst=some t->t<E.nt)
  (hv:(∃x,o.op= .assign x)\/ ∀t,o.dst=some t->t∉cx.hint.vars):JYT cx E a w o v g' h':=by
 unfold Wq at he
 split at he
 ·rename_i hnew
  rw[hX.base,hX.lo]at he;exact(JUQ hI hnew he hd hv).goes
 split at he
 ·rename_i heff
  generalize hop:o.op=op at he heff
  have hv':(∀x,op≠ .assign x)->∀t,o.dst=some t->t∉cx.hint.vars:=λhne=>by
   rcases hv with⟨x,hx⟩|hv
   ·rw[hop]at hx;exact absurd hx (hne x)
   ·exact hv
  cases op with
  |assign x=>
   simp only[Kd,Aj,AL]at he;obtain⟨rfl,rfl,rfl⟩:=he
   exact(JLc hI hop hd).goes
  |alloc t=>
   simp only[Kd]at he
   split at he
   ·rename_i z hz
    split at he
    ·rename_i hs
     simp only[Aj,AL]at he;obtain⟨rfl,rfl,rfl⟩:=he;rw[Af]at hs;exact(JOa hI hop hz hs.1 hs.2 hd (hv' (λx e=>by cases e))).goes
    ·cases he
   ·cases he
  |box t x=>
   simp only[Kd]at he
   split at he
   ·rename_i hs
    simp only[Af]at hs;simp only[Aj,AL]at he;obtain⟨rfl,rfl,rfl⟩:=he;exact(JUO hI hop hs.1 hs.2.1 hs.2.2 hd (hv' (λx e=>by cases e))).goes
   ·cases he
  |buildSlice t n parts=>
   simp only[Kd]at he
   split at he
   ·rename_i e hu
    split at he
    ·rename_i hc
     simp only[Aj,AL]at he;obtain⟨rfl,rfl,rfl⟩:=he;exact(Hj hI hop hu hc hd (hv' (λx e=>by cases e))).goes
    ·cases he
   ·cases he
  |store t p x=>
   simp only[Kd]at he
   split at he
   ·rename_i b off hp
    split at he
    ·rename_i cs hcs
     split at he
     ·rename_i hc
      have hst:=zH hI hop hp hcs (by rw[hX.lo]at hc;exact⟨hc.1,hc.2.1,hc.2.2.1,hc.2.2.2.1,hc.2.2.2.2.1,λ_=>hc.2.2.2.2.2⟩) hd
      split at he
      ·rename_i ds hds
       simp only[Aj,AL]at he;obtain⟨rfl,rfl,rfl⟩:=he;rw[hds]at hst;exact hst.goes
      ·rename_i hna
       simp only[Aj,AL]at he;obtain⟨rfl,rfl,rfl⟩:=he
       have h1:cellsV (Kc (Jk g x).1)=[Kc (Jk g x).1]:=by cases hq:Kc (Jk g x).1<;>first|rfl|(exact absurd hq (hna _))
       have h2:JG cx.P t=1:=by have h3:=hc.2.2.1;have h4:=congrArg AW h1;rw[cellsV_own1s,Ag]at h4;rw[h4]at h3;simpa using h3.symm
       rw[h1,h2]at hst;have h3:off<cs.length:=by have:=hc.2.1;omega
       rw[show cs.take off++[Kc (Jk g x).1]++cs.drop (off+1)=cs.set off (Kc (Jk g x).1)by rw[C7,if_pos h3];simp]at hst
       exact hst.goes
     ·cases he
    ·cases he
   ·cases he
  |range t x=>
   simp only[Kd]at he
   split at he
   ·rename_i b hx hu
    simp only[Aj,AL]at he;obtain⟨rfl,rfl,rfl⟩:=he;exact(JOd hI hop hx hu hd (hv' (λx e=>by cases e))).goes
   ·cases he
  |next x str=>
   simp only[Kd]at he
   split at he
   ·rename_i b hx
    split at he
    ·rename_i s pos hs
     split at he
     ·rename_i hlo
      have:=JQU (P:=cx.P) hI.untag hop (JDW hx) hs (by rw[<-hX.lo];exact hlo) (λt i j r=>Wv t i j r) hd (hv' (λx e=>by cases e))
      split at he
      ·rename_i hlt
       rw[if_pos hlt]at this;simp only[Aj,AL]at he;obtain⟨rfl,rfl,rfl⟩:=he;exact this.goes
      ·rename_i hlt
       rw[if_neg hlt]at this;simp only[Aj,AL]at he;obtain⟨rfl,rfl,rfl⟩:=he;exact this.goes
     ·cases he
    ·cases he
   ·cases he
  |convert s d x=>
   cases hr2:isRow cx.P s d with
   |true=>
    simp only[Kd,hr2,if_true]at he
    exact(JLh hI hop hr2 he hd (hv' (λx e=>by cases e))).goes
   |false=>
    simp only[Kd,hr2,Am,if_false]at he
    exact(JAP hI hop (jW (by simpa[WP,hr2]using heff)) he hd (hv' (λx e=>by cases e))).goes
  |call k=>
   simp only[Kd]at he
   split at he
   ·rename_i f hc
    unfold Z2 at he
    split at he
    ·rename_i fid caps hf
     split at he
     ·rename_i r h2 hcall
      simp only[Aj,AL]at he;obtain⟨rfl,rfl,rfl⟩:=he;have hle:E.lo<=h.length:=AY hI.lole hI.hlen;rw[hX.lo]at hcall;exact λnext Q hn=>JUP hI hop hc hf (Ab _) hle (hX.call _ _ _ _ _ _ hle hcall) hd (hv' (λx e=>by cases e)) hn
     ·cases he
    ·cases he
   ·rename_i hc
    split at he
    ·rename_i x y e u hargs htypes
     split at he
     ·rename_i r s' q hown hq
      split at he
      ·rename_i hcond
       simp only[Aj,AL]at he;obtain⟨rfl,rfl,rfl⟩:=he;rw[hX.lo]at hown;exact(JLg hI hop hc hargs htypes hown hq hcond hd (hv' (λx e=>by cases e))).goes
      ·cases he
     ·cases he
    ·cases he
   ·cases he
  |makeSlice t n k=>
   simp only[Kd]at he
   cases he
  |_=>cases heff
 ·rename_i heff
  simp only[Ak,AL]at he;obtain⟨v',hp,rfl,rfl,rfl⟩:=he
  have hna:∀t,o.dst=some t->t∉cx.hint.vars:=by
   rcases hv with⟨x,hx⟩|hv
   ·rw[hx]at heff;exact absurd rfl heff
   ·exact hv
  obtain⟨y,hy,hvr,ht⟩:=JG7 hI.core hp;intro next Q hn;exact(show Does cx.P w a o y w from .inl hy).wp (hn y w m c (hI.put hd hvr ht (.inl hna)))
def Y4(cx:Cx)(E:Entry)(l:List Oper):Prop:=∀o∈l,(∀t,o.dst=some t->t<E.nt)/\((∃x,o.op= .assign x)\/ ∀t,o.dst=some t->t∉cx.hint.vars)
theorem zL(hI:InvP cx.hint.vars E m c w g h a){o:Oper}(hd:∀t,o.dst=some t->t<E.nt)(hv:∀t,o.dst=some t->t∉cx.hint.vars):
  InvP cx.hint.vars E m c w (put o.dst (.v undef) g) h (a.put o.dst undef):=hI.putBare hd rfl rfl (.inl hv)
theorem kN{o:Oper}(h:QB o.op=false)(hv:(∃x,o.op= .assign x)\/ ∀t,o.dst=some t->t∉vars):∀t,o.dst=some t->t∉vars:=by
 rcases hv with⟨x,hx⟩|hv
 ·rw[hx]at h;cases h
 ·exact hv
theorem JHH(hX:CxOK cx E){ops:Array Oper}{Q:Exit->Act->World->Prop}:∀(l:List Oper) (m:List Nat) (c:Cl) (w:World) (g:Jj) (h:JC) (a:Act) (s':St),Y4 cx E l->InvP cx.hint.vars E m c w g h a->KQ cx ops l (g,h)=some s'->
  (∀m' c' w' a',InvP cx.hint.vars E m' c' w' s'.1 s'.2 a'->Q .normal a' w')->wpList cx.P ops Q l a w
 |[],m,c,w,g,h,a,s',_,hI,he,hQ=>by
  simp only[KQ,Aj]at he;subst he
  exact hQ m c w a hI
 |o::l,m,c,w,g,h,a,s',hO,hI,he,hQ=>by
  have ho:=hO o (by simp)
  have hO':Y4 cx E l:=λo' h'=>hO o' (by simp[h'])
  refine wpList_step λK hK=>?_
  simp only[KQ]at he
  split at he
  ·rename_i hw
   rw[Yo hI hw,if_pos rfl]
   split at he
   ·rename_i v g' h' hop
    refine JXi hI hX hop ho.1 ho.2 K Q λx w' m' c' hI'=>hK _ _ ?_
    exact JHH hX l m' c' w' _ _ _ s' hO' hI' he hQ
   ·cases he
  ·rename_i hw
   rw[Yo hI hw,if_neg (by simp)]
   split at he
   ·cases he
   ·rename_i hna
    exact hK _ _ (JHH hX l m c w _ _ _ s' hO' (zL hI ho.1 (kN (by simpa using hna) ho.2)) he hQ)
  ·cases he
end
section
variable{m:List Nat}{c:Cl}{w:World}{g:Jj}{h:JC}{a:Act}{E:Entry}{cx:Cx}
theorem JNH{t:Nat}{v:V}{x:Operand}(hx:x≠ .tmp t):opd (ins t v g) x=opd g x:=by
 cases x with
 |tmp u=>
  simp only[opd,Jy]
  rw[if_neg (λe=>hx (by rw[e]))]
 |_=>rfl
theorem JD1{g g':Jj}{o:Option Operand}{d:Nat}(ho:∀x,o=some x->opd g x=opd g' x):yy g o d=yy g' o d:=by
 cases o with
 |none=>rfl
 |some x=>simp only[yy,ho x rfl]
theorem JHJ{P:Program}{vars:List Nat}{g g':Jj}{op:Op}(hx:∀x∈op.operands,opd g x=opd g' x):JV P vars (g,h) op=JV P vars (g',h) op:=by
 have pairs:∀ps:Array (Nat×Operand),(∀x∈(ps.toList.map (·.2)),opd g x=opd g' x)->(ps.toList.map λp=>(p.1,opd g p.2))=ps.toList.map λp=>(p.1,opd g' p.2):=λps hp=>A4 λp hm=>by rw[hp p.2 (AP.2 ⟨p,hm,rfl⟩)]
 cases op<;>simp only[Dw]at hx<;>simp only[JV]
 case move x=>
  have:=hx x (by simp)
  cases x with
  |tmp t=>simp only[opd]at this;simp only[this]
  |const v=>rfl
  |global n=>rfl
  |func f=>rfl
 case pick k x y=>rw[hx k (by simp),hx x (by simp),hx y (by simp)]
 case build t ps=>rw[pairs ps λx hm=>hx x (by simpa using hm)]
 case load t x=>rw[hx x (by simp)]
 case nilCheck x=>rw[hx x (by simp)]
 case binOp op t x y u=>rw[hx x (by simp),hx y (by simp)]
 case unOp op t x=>rw[hx x (by simp)]
 case convert s d x=>rw[hx x (by simp)]
 case makeFunc fn first caps=>
  have hx1:∀k,k∈first.toList++caps.toList->opd g k=opd g' k:=λk hk=>hx k (by
   rcases AN.1 hk with hk|hk
   ·exact Mi.2 (.inl (C5.1 hk))
   ·exact Mi.2 (.inr (C5.1 hk)))
  have h1:((first.toList++caps.toList).all λk=>qf (opd g k)&& !isU (opd g k))=((first.toList++caps.toList).all λk=>qf (opd g' k)&& !isU (opd g' k)):=by rw[Bool.eq_iff_iff,As,As];exact⟨λhh k hk=>by rw[<-hx1 k hk];exact hh k hk,λhh k hk=>by rw[hx1 k hk];exact hh k hk⟩
  have h2:(caps.toList.map λk=>cp (opd g k))=caps.toList.map λk=>cp (opd g' k):=A4 λk hk=>by rw[hx1 k (AN.2 (.inr hk))]
  have h3:(first.toList.map λk=>cp (opd g k))=first.toList.map λk=>cp (opd g' k):=A4 λk hk=>by rw[hx1 k (AN.2 (.inl hk))]
  rw[h1,h2,h3]
 case slice t x lo hi mx=>
  rw[hx x (by simp)]
  have hlo:∀d,yy g lo d=yy g' lo d:=λd=>JD1 λy hy=>hx y (by subst hy;simp)
  have hhi:∀d,yy g hi d=yy g' hi d:=λd=>JD1 λy hy=>hx y (by subst hy;simp)
  simp only[hlo,hhi]
 case fieldAddr t x f=>rw[hx x (by simp)]
 case field t x f=>rw[hx x (by simp)]
 case indexAddr t x i=>rw[hx x (by simp),hx i (by simp)]
 case index t x i=>rw[hx x (by simp),hx i (by simp)]
 case extract x i=>rw[hx x (by simp)]
 case call k=>
  have h1:(k.args[0]?).map (opd g)=(k.args[0]?).map (opd g'):=by
   cases hq:k.args[0]? with
   |none=>rfl
   |some x=>simp only[A6];rw[hx x (by simp[Call.operands];exact .inr (Array.mem_of_getElem? hq))]
  have h2:k.args.toList.map (opd g)=k.args.toList.map (opd g'):=A4 λx hm=>hx x (by simp[Call.operands];simp at hm;exact .inr hm)
  rw[h1,h2]
theorem JHK{g g':Jj}{o:Oper}(hx:∀x∈o.op.operands,opd g x=opd g' x):Kn cx (g,h) o=Kn cx (g',h) o:=by
 unfold Kn
 split
 ·generalize o.op=op at*
  cases op with
  |call k=>
   simp only
   split
   ·rename_i f hc
    rw[hx f (by simp[Dw,Call.operands,hc])]
    have h2:k.args.toList.map (opd g)=k.args.toList.map (opd g'):=A4 λx hm=>hx x (by simp[Dw,Call.operands];simp at hm;exact .inr hm)
    rw[h2]
   ·rfl
  |convert s d x=>
   cases hr:(cx.hint.mutc||isRow cx.P s d)with
   |true=>simp only[hr,if_true]
   |false=>
   simp only[hr,Am,if_false];have hr2:isRow cx.P s d=false:=by rw[Bool.or_eq_false_iff]at hr;exact hr.2
   simp only[Kd,hr2,Am,if_false];rw[hx x (by simp[Dw])]
   split
   ·split
    ·simp
    ·rfl
   ·rfl
   ·rfl
  |buildSlice t n parts=>
   have h2:(parts.toList.map λp=>cellsV (fzs (opd g p.2)))=parts.toList.map λp=>cellsV (fzs (opd g' p.2)):=A4 λp hm=>by rw[hx p.2 (by simp[Dw];exact⟨p.1,by simpa using hm⟩)]
   simp only[Kd,h2]
   split
   ·split<;>rfl
   ·rfl
  |_=>rfl
 ·exact JHJ hx
theorem JJe(t u:Nat)(x y:V)(htu:t≠u):∀g:Jj,ins t x (ins u y g)=ins u y (ins t x g)
 |[]=>by
  simp only[ins];rcases L2 htu with h1|h1
  ·simp[h1,show¬u<t by omega,Ne.symm htu]
  ·simp[h1,show¬t<u by omega,htu]
 |(k,z)::l=>by
  have ih:=JJe t u x y htu l;rcases L7 t k with h1|h1|h1<;>rcases L7 u k with h2|h2|h2
  ·rcases L2 htu with h3|h3
   ·simp[ins,h1,h2,h3,show¬u<t by omega,Ne.symm htu]
   ·simp[ins,h1,h2,h3,show¬t<u by omega,htu]
  ·subst h2;simp[ins,h1,show¬u<t by omega,Ne.symm htu]
  ·simp[ins,h1,show¬u<k by omega,show¬u=k by omega,show¬u<t by omega,Ne.symm htu]
  ·subst h1;simp[ins,h2,show¬t<u by omega,htu]
  ·omega
  ·subst h1;simp[ins,show¬u<t by omega,Ne.symm htu]
  ·simp[ins,h2,show¬t<k by omega,show¬t=k by omega,show¬t<u by omega,htu]
  ·subst h2;simp[ins,show¬t<u by omega,htu]
  ·simp[ins,show¬t<k by omega,show¬t=k by omega,show¬u<k by omega,show¬u=k by omega,ih]
theorem Hl{d e:Option Nat}(x y:V)(h:∀t,d=some t->e≠some t):put d x (put e y g)=put e y (put d x g):=by
 cases d with
 |none=>rfl
 |some t=>cases e with
  |none=>rfl
  |some u=>exact JJe t u x y (λe=>h t rfl (by rw[e])) g
def opA(cx:Cx)(ops:Array Oper)(i:Nat)(s:St):Option St:=
 match ops[i]? with
 |none=>some s
 |some o=>
  match want ops s.1 o with
  |some true=>match Kn cx s o with
   |some v=>some (put o.dst v s.1,s.2)
   |none=>none
  |some false=>if QB o.op then none else some (put o.dst (.v undef) s.1,s.2)
  |none=>none
theorem Y5{ops:Array Oper}{o:Oper}{d:Option Nat}{v:V}(h:∀t,d=some t->t∉o.looksAt ops):want ops (put d v g) o=want ops g o:=by
 cases d with
 |none=>rfl
 |some t=>
  unfold want
  cases hg:o.guard with
  |none=>rfl
  |some p=>
   obtain⟨j,b⟩:=p;simp only
   cases hd:(ops[j]?).bind (·.dst)with
   |none=>rfl
   |some u=>
    have hne:u≠t:=λe=>h t rfl (by subst e;simp[Oper.looksAt,hg,hd])
    simp only[put,Jy,if_neg hne]
theorem kO{ops:Array Oper}{o:Oper}{d:Option Nat}{v:V}(h':∀t,d=some t->t∉o.looksAt ops):Kn cx (put d v g,h) o=Kn cx (g,h) o:=by
 cases d with
 |none=>rfl
 |some t=>
  refine JHK λx hx=>JNH λe=>h' t rfl ?_
  subst e;exact List.mem_append_left _ (List.mem_filterMap.2 ⟨.tmp t,by simpa using hx,rfl⟩)
theorem JJf{ops:Array Oper}{i j:Nat}{oi oj:Oper}(hi:ops[i]? =some oi)(hj:ops[j]? =some oj)(hap:oi.apart ops oj=true){s s1 s2:St}(h1:opA cx ops i s=some s1)(h2:opA cx ops j s1=some s2):
  ∃s1',opA cx ops j s=some s1'/\opA cx ops i s1'=some s2:=by
 obtain⟨a1,a2,a3⟩:=Oper.apart_spec hap;obtain⟨g,h⟩:=s
 have hstep:∀{k:Nat} {o:Oper},ops[k]? =some o->∀{s s':St},opA cx ops k s=some s'->∃v,s'=(put o.dst v s.1,s.2)/\ ∀(d:Option Nat) (u:V),(∀t,d=some t->t∉o.looksAt ops)->opA cx ops k (put d u s.1,s.2)=some (put o.dst v (put d u s.1),s.2):=by
  intro k o hk s s' hs;unfold opA at hs;rw[hk]at hs;simp only at hs
  split at hs
  ·rename_i hw
   split at hs
   ·rename_i v hv
    cases hs;refine⟨v,rfl,λd u hd=>?_⟩
    unfold opA;rw[hk];simp only[Y5 hd,hw,kO hd,hv]
   ·cases hs
  ·rename_i hw
   split at hs
   ·cases hs
   ·rename_i hna
    cases hs;refine⟨.v undef,rfl,λd u hd=>?_⟩
    unfold opA;rw[hk];simp only[Y5 hd,hw,hna];simp
  ·cases hs
 obtain⟨v,rfl,hiv⟩:=hstep hi h1
 have hj0:∃u,opA cx ops j (g,h)=some (put oj.dst u g,h)/\s2=(put oj.dst u (put oi.dst v g),h):=by
  unfold opA at h2;rw[hj]at h2;simp only[Y5 a1,kO a1]at h2
  split at h2
  ·rename_i hw
   split at h2
   ·rename_i u hu
    cases h2;exact⟨u,by unfold opA;rw[hj];simp only[hw,hu],rfl⟩
   ·cases h2
  ·rename_i hw
   split at h2
   ·cases h2
   ·rename_i hna
    cases h2;exact⟨.v undef,by unfold opA;rw[hj];simp only[hw,hna];simp,rfl⟩
  ·cases h2
 obtain⟨u,hu1,rfl⟩:=hj0;refine⟨_,hu1,?_⟩
 rw[hiv oj.dst u a3];rw[Hl v u a2]
def JQY(cx:Cx)(md:DK)(ops:Array Oper)(n:Nat)(L:Array Bool->St->Prop):Nat->Array Bool->St->Prop
 |0,listed,s=>L listed s
 |f+1,listed,s=>Region.ready md ops listed≠[]/\ ∀i∈Region.ready md ops listed,i<n/\ ∃s',opA cx ops i s=some s'/\JQY cx md ops n L f (listed.setIfInBounds i true) s'
theorem JLp{md:DK}{ops:Array Oper}{n i:Nat}{oi:Oper}{L:Array Bool->St->Prop}(hi:ops[i]? =some oi)
  (hsc:n<ops.size->Region.sinkB md ops n=true/\Region.chainB md ops n=true)(hn:n<=ops.size)(hin:i<n)(hdone:∀listed s,L listed s->∀j∈Region.ready md ops listed,n<=j):
  ∀(f:Nat) (listed:Array Bool) (s s1:St),HeadInv md ops n listed->
   (∀j oj,ops[j]? =some oj->j≠i->listed.getD j true=false->(∀e∈oj.after,DE md e=true->e.on≠i)->oi.apart ops oj=true)->
   i∈Region.ready md ops listed->opA cx ops i s=some s1->
   JQY cx md ops n L f (listed.setIfInBounds i true) s1->JQY cx md ops n L (f+1) listed s:=by
 have hjn:∀(listed:Array Bool),HeadInv md ops n listed->i∈Region.ready md ops listed->∀j∈Region.ready md ops listed,j<n:=λlisted inv hr j hj=>by
  rcases AG j n with h|h
  ·exact h
  ·rcases AG n ops.size with h'|h'
   ·exact absurd hj (tail_waits (hsc h').1 (hsc h').2 h' inv _ i rfl hin (mem_ready.1 hr).1 j h)
   ·have:=(mem_ready.1 hj).2
    obtain⟨o,ho,_⟩:=this;have:=(AX.1 ho).1
    omega
 intro f
 induction f with
 |zero=>
  intro listed s s1 inv _ hr h1 H;refine⟨λh=>(by rw[h]at hr;cases hr),λj hj=>⟨hjn listed inv hr j hj,?_⟩⟩
  by_cases hji:j=i
  ·subst hji;exact⟨s1,h1,H⟩
  ·have:=hdone _ _ H j (ready_mono hj hji)
   have:=hjn listed inv hr j hj
   omega
 |succ f ih=>
  intro listed s s1 inv hfree hr h1 H;have hun:=(mem_ready.1 hr).1;refine⟨λh=>(by rw[h]at hr;cases hr),λj hj=>⟨hjn listed inv hr j hj,?_⟩⟩
  by_cases hji:j=i
  ·subst hji;exact⟨s1,h1,H⟩
  ·obtain⟨s2,h2,H2⟩:=(H.2 j (ready_mono hj hji)).2
   obtain⟨hjun,oj,hoj,hall⟩:=mem_ready.1 hj
   have hnot:∀e∈oj.after,DE md e=true->e.on≠i:=λe he hb heq=>by have h1:=hall e he hb;rw[heq,getD_both hun]at h1;cases h1
   obtain⟨s1',hs1',hs2⟩:=JJf hi hoj (hfree j oj hoj hji hjun hnot) h1 h2;refine⟨s1',hs1',?_⟩
   have hfree':∀k ok,ops[k]? =some ok->k≠i->(listed.setIfInBounds j true).getD k true=false->
     (∀e∈ok.after,DE md e=true->e.on≠i)->oi.apart ops ok=true:=λk ok hk hki hun hno=>by
    refine hfree k ok hk hki ?_ hno
    by_cases hjk:j=k
    ·subst hjk;exact hjun
    ·rw[getD_set_ne true hjk]at hun;exact hun
   refine ih (listed.setIfInBounds j true) s1' s2 (inv.set hj (hjn listed inv hr j hj)) hfree' (ready_mono hr (Ne.symm hji)) hs2 ?_
   rw[Lk _ _ hji];exact H2
theorem JHL{ops:Array Oper}{o:Oper}{l:List Oper}{k:Nat}{s s':St}(hk:ops[k]? =some o)(he:Ju cx ops (o::l) s=some s'):∃s1,opA cx ops k s=some s1/\Ju cx ops l s1=some s':=by
 simp only[Ju]at he;unfold opA;rw[hk];simp only
 split at he
 ·rename_i hw
  split at he
  ·rename_i v hv
   exact⟨_,by simp only[hw,hv],he⟩
  ·cases he
 ·rename_i hw
  split at he
  ·cases he
  ·rename_i hna
   exact⟨_,by simp only[hw,hna];simp,he⟩
 ·cases he
theorem yD{md:DK}{ops:Array Oper}{n gg:Nat}{s':St}(hsc:n<ops.size->Region.sinkB md ops n=true/\Region.chainB md ops n=true)(hn:n<=ops.size):
  ∀(l:List Oper) (k:Nat) (listed:Array Bool) (s:St),(∀j,j<l.length->l[j]? =ops[k+j]?)->k+l.length=n->HeadInv md ops n listed->
  Region.lexHead md ops gg l.length k listed=true->Ju cx ops l s=some s'->
  JQY cx md ops n (λlisted' s2=>Region.seqB md ops gg n listed'=true/\s2=s') l.length listed s
 |[],k,listed,s,_,hk,_,hB,h=>by
  have:k=n:=by simpa using hk
  subst this;simp only[Ju,Aj]at h
  exact⟨by simpa[Region.lexHead]using hB,h⟩
 |o::l,k,listed,s,hl,hk,inv,hB,h=>by
  have h0:ops[k]? =some o:=by simpa using(hl 0 (by simp)).symm
  simp only[Ae,Region.lexHead,Af]at hB;obtain⟨⟨hr,hf⟩,hB'⟩:=hB;have hkn:k<n:=by simp only[Ae]at hk;omega
  have hr':k∈Region.ready md ops listed:=by simpa using hr
  obtain⟨s1,h1,h2⟩:=JHL h0 h
  exact JLp h0 hsc hn hkn (λlisted' s2 hL=>seqB_ready hL.1) l.length listed s s1 inv (Region.free_spec h0 hf) hr' h1
   (yD hsc hn l (k+1) _ _ (λj hj=>by have:=hl (j+1) (by simp;omega);simpa[Dd,Nat.add_comm 1 j]using this) (by simp only[Ae]at hk;omega) (inv.set hr' hkn) hB' h2)
structure Closed(ops:Array Oper)(listed:Array Bool):Prop where
 size:listed.size=ops.size
 closed:∀j oj,ops[j]? =some oj->listed.getD j false=true->∀e∈oj.after,DE .any e=true->listed.getD e.on false=true
theorem JUR(ops:Array Oper):Closed ops (Array.replicate ops.size false):=
 ⟨by simp,λj oj _ hl=>(by rw[getD_replicate_false]at hl;cases hl)⟩
theorem Closed.set{ops:Array Oper}{listed:Array Bool}{i:Nat}(inv:Closed ops listed)(hi:i∈Region.ready .any ops listed):Closed ops (listed.setIfInBounds i true):=by
 obtain⟨_,oi,hoi,hall⟩:=mem_ready.1 hi;refine⟨by simp[inv.size],λj oj hj hl e he hb=>?_⟩
 by_cases hij:i=j
 ·subst hij
  have:oj=oi:=Bs (hj.symm.trans hoi);subst this;exact getD_set_true (hall e he hb)
 ·rw[getD_set_ne false hij]at hl
  exact getD_set_true (inv.closed j oj hj hl e he hb)
theorem yG{ops:Array Oper}{k:Nat}{listed:Array Bool}(inv:Closed ops listed)(hk:listed.getD k true=false):∀j∈behind ops k,listed.getD j false=false/\j∉Region.ready .any ops listed:=by
 have step:∀(l acc:List Nat),(∀j∈acc,listed.getD j false=false/\j∉Region.ready .any ops listed)->
   ∀j∈l.foldl (λacc j=>match ops[j]? with
    |some o=>if o.after.any (λe=>DE .any e&&(e.on==k||acc.contains e.on))then j::acc else acc
    |none=>acc) acc,listed.getD j false=false/\j∉Region.ready .any ops listed:=by
  intro l
  induction l with
  |nil=>intro acc hacc;exact hacc
  |cons x l ih=>
   intro acc hacc;rw[List.foldl_cons];refine ih _ ?_
   split
   ·rename_i o ho
    split
    ·rename_i hany
     intro j hj;rcases List.mem_cons.1 hj with rfl|hj
     ·obtain⟨e,he,hb⟩:=Array.any_eq_true'.1 hany
      simp only[Af,A7,beq_iff_eq,CY]at hb
      have hoff:listed.getD e.on false=false:=by
       rcases hb.2 with h1|h1
       ·rw[h1];exact getD_both hk
       ·exact(hacc _ h1).1
      refine⟨?_,λhr=>?_⟩
      ·cases hl:listed.getD j false with
       |false=>rfl
       |true=>have:=inv.closed j o ho hl e he hb.1;rw[hoff]at this;cases this
      ·obtain⟨_,o',ho',hall⟩:=mem_ready.1 hr
       have:o'=o:=Bs (ho'.symm.trans ho);subst this;have:=hall e he hb.1;rw[hoff]at this;cases this
     ·exact hacc j hj
    ·exact hacc
   ·exact hacc
 exact step _ [] (λj hj=>by cases hj)
def JJg(cx:Cx)(mx:Mix)(ops:Array Oper)(K:St->Prop):Nat->Array Bool->St->Prop
 |0,listed,s=>Region.ready .any ops listed=[]/\K s
 |f+1,listed,s=>(∃k r,JBb cx.P cx.lo cx.base k ops s=some r/\K r/\JDl mx ops k (f+1) listed=true)\/
  (Region.ready .any ops listed≠[]/\ ∀i∈Region.ready .any ops listed,∃s',QV cx mx ops i s=some s'/\JJg cx mx ops K f (listed.setIfInBounds i true) s')
theorem Y6{mx:Mix}{ops:Array Oper}{k:Nat}{o:Oper}(ho:ops[k]? =some o)(hk:mx.heads.contains k=true)(s:St):QV cx mx ops k s=opA cx ops k s:=by unfold QV opA;rw[ho];simp only[hk,if_true,Ju];rfl
def JLq(mx:Mix)(ops:Array Oper)(ok:Oper)(j:Nat)(oj:Oper):Prop:=
 (mx.heads.contains j=true\/(mx.heads.contains j=false/\mx.takes.contains j=false/\jU ok.op=true/\JA2 oj.op=true))/\ok.apart ops oj=true
theorem JDX{mx:Mix}{ops:Array Oper}{listed:Array Bool}{k:Nat}(h:JBP mx ops listed k=true):∃ok,ops[k]? =some ok/\mx.heads.contains k=true/\
  ∀j oj,ops[j]? =some oj->j≠k->listed.getD j true=false->j∈behind ops k\/JLq mx ops ok j oj:=by
 unfold JBP at h
 split at h
 ·cases h
 ·rename_i ok hok
  simp only[Af,As,List.mem_range]at h;refine⟨ok,hok,h.1,λj oj hj hne hun=>?_⟩
  have h1:=h.2 j (AX.1 hj).1
  simp only[hj,A7,beq_iff_eq,hne,false_or,hun,Am,CY,Af,Ce]at h1;rcases h1 with h1|⟨h1,h2⟩
  ·exact .inl h1
  ·refine .inr ⟨?_,h2⟩
   cases hh:mx.heads.contains j with
   |true=>exact .inl rfl
   |false=>
    rcases h1 with h1|h1
    ·have:mx.heads.contains j=true:=by simpa using h1
     rw[hh]at this;cases this
    ·exact .inr ⟨rfl,h1.1.1,h1.1.2,h1.2⟩
theorem JUS{h z:JC}{b:Nat}{cs:List V}(hc:cellsOfOb h b=some cs):cellsOfOb (h++z) b=some cs:=by
 unfold cellsOfOb at hc⊢;rcases AG b h.length with hb|hb
 ·rw[Bj hb];exact hc
 ·rw[List.getElem?_eq_none hb]at hc;cases hc
theorem JOj{P:Program}{h z:JC}{t:TypeId}{a v:V}(hl:Yv P h t a=some v):Yv P (h++z) t a=some v:=by
 unfold Yv at hl⊢
 cases a with
 |ptr b o=>
  simp only at hl⊢
  cases hc:cellsOfOb h b with
  |none=>rw[hc]at hl;cases hl
  |some cs=>rw[JUS hc];rw[hc]at hl;exact hl
 |_=>exact hl
theorem JLr{o:Oper}(hp:jU o.op=true){g:Jj}{h z:JC}{v:V}(he:Kn cx (g,h) o=some v):Kn cx (g,h++z) o=some v:=by
 unfold Kn at he⊢;generalize o.op=op at hp he⊢;cases op
 case call c=>
  have hc:c.callee= .builtin .len:=by
   simp only[jU]at hp
   split at hp
   ·assumption
   ·cases hp
  have hne:WP cx.P (.call c)=false:=by simp[WP,hc]
  rw[if_neg (by rw[hne];decide)]at he⊢
  simp only[JV,hc]at he⊢;exact he
 all_goals simp only[jU,Am]at hp<;>simp only[WP,Am,if_false,JV]at he⊢ <;>first|exact he|exact JOj he
theorem JLs{ops:Array Oper}{i:Nat}{oi oj:Oper}(hi:ops[i]? =some oi)(hp:jU oi.op=true)(hal:JA2 oj.op=true)(hap:oi.apart ops oj=true){s s1 s2:St}
  (h1:opA cx ops i s=some s1)(h2:KQ cx ops [oj] s1=some s2):∃s1',KQ cx ops [oj] s=some s1'/\opA cx ops i s1'=some s2:=by
 obtain⟨a1,a2,a3⟩:=Oper.apart_spec hap;obtain⟨g,h⟩:=s
 have hstep:∃v,s1=(put oi.dst v g,h)/\ ∀(u:V) (z:JC),opA cx ops i (put oj.dst u g,h++z)=some (put oi.dst v (put oj.dst u g),h++z):=by
  unfold opA at h1;rw[hi]at h1;simp only at h1
  split at h1
  ·rename_i hw
   split at h1
   ·rename_i v hv
    cases h1;refine⟨v,rfl,λu z=>?_⟩
    unfold opA;rw[hi];simp only[Y5 a3,hw,kO a3,JLr hp hv]
   ·cases h1
  ·rename_i hw
   split at h1
   ·cases h1
   ·rename_i hna
    cases h1;refine⟨.v undef,rfl,λu z=>?_⟩
    unfold opA;rw[hi];simp only[Y5 a3,hw,hna];simp
  ·cases h1
 obtain⟨v,rfl,hiv⟩:=hstep
 cases hop:oj.op with
 |alloc t=>
  have hE:∃A:Option Ob,∀(g:Jj),Wq cx (g,h) oj=A.map λz=>(.ptr h.length 0,(g,h++[z])):=by
   cases hm:(cx.hint.mode oj.dst==4)with
   |false=>
    cases hz:K0 cx.P t with
    |none=>exact⟨none,λg=>by unfold Wq;rw[hop];simp only[GJ,hm,Am,if_false,WP,if_true,Kd,hz];rfl⟩
    |some z=>
     by_cases hs:((z.map KW).all WO&&JBN t (z.map KW))=true
     ·exact⟨some (.cells ((z.map KW).map own1)),λg=>by unfold Wq;rw[hop];simp only[GJ,hm,Am,if_false,WP,if_true,Kd,hz,hs];rfl⟩
     ·exact⟨none,λg=>by unfold Wq;rw[hop];simp only[GJ,hm,Am,if_false,WP,if_true,Kd,hz];rw[if_neg hs]<;>rfl⟩
   |true=>
    cases hz:K0 cx.P t with
    |none=>exact⟨none,λg=>by unfold Wq;rw[hop];simp only[GJ,hm,if_true,Zh,hz];rfl⟩
    |some z=>
     by_cases hs:((z.map KW).all WO&&JBN t (z.map KW))=true
     ·exact⟨some (.cells (z.map KW)),λg=>by unfold Wq;rw[hop];simp only[GJ,hm,if_true,Zh,hz,hs];rfl⟩
     ·exact⟨none,λg=>by unfold Wq;rw[hop];simp only[GJ,hm,if_true,Zh,hz];rw[if_neg hs]<;>rfl⟩
  obtain⟨A,hE⟩:=hE;have hna:QB oj.op=false:=by rw[hop]<;>rfl
  simp only[KQ,Y5 a1,hE,hna]at h2;simp only[KQ,hE,hna]
  cases hw:want ops g oj with
  |none=>rw[hw]at h2;cases h2
  |some b=>
   rw[hw]at h2
   cases b with
   |true=>
    cases A with
    |none=>cases h2
    |some z=>
     simp only[A6]at h2⊢;cases h2
     exact⟨_,rfl,by rw[hiv];rw[Hl _ _ a2]⟩
   |false=>
    simp only[Am,if_false]at h2⊢;cases h2;refine⟨_,rfl,?_⟩
    have:=hiv (.v undef) [];rw[Av]at this
    rw[this,Hl _ _ a2]
 |makeSlice t n k=>
  have hE:∃A:Option (V×Ob),Wq cx (g,h) oj=A.map (λz=>(z.1,(g,h++[z.2])))/\Wq cx (put oi.dst v g,h) oj=A.map (λz=>(z.1,(put oi.dst v g,h++[z.2]))):=by
   have hn:∀x∈oj.op.operands,opd (put oi.dst v g) x=opd g x:=λx hx=>by
    cases hd:oi.dst with
    |none=>rfl
    |some t=>exact JNH λe=>a1 t hd (by subst e;simp[Oper.looksAt];exact .inl ⟨_,hx,rfl⟩)
   have e1:=hn n (by rw[hop];simp[Dw])
   have e2:=hn k (by rw[hop];simp[Dw])
   unfold Wq;rw[hop];simp only[GJ,if_true,Zh,e1,e2]
   split
   ·split
    ·split
     ·exact⟨some (_,_),rfl,rfl⟩
     ·exact⟨none,rfl,rfl⟩
    ·exact⟨none,rfl,rfl⟩
   ·exact⟨none,rfl,rfl⟩
  obtain⟨A,hE1,hE2⟩:=hE;have hna:QB oj.op=false:=by rw[hop]<;>rfl
  simp only[KQ,Y5 a1,hE2,hna]at h2;simp only[KQ,hE1,hna]
  cases hw:want ops g oj with
  |none=>rw[hw]at h2;cases h2
  |some b=>
   rw[hw]at h2
   cases b with
   |true=>
    cases A with
    |none=>cases h2
    |some z=>
     simp only[A6]at h2⊢;cases h2
     exact⟨_,rfl,by rw[hiv];rw[Hl _ _ a2]⟩
   |false=>
    simp only[Am,if_false]at h2⊢;cases h2;refine⟨_,rfl,?_⟩
    have:=hiv (.v undef) [];rw[Av]at this
    rw[this,Hl _ _ a2]
 |_=>rw[hop]at hal;cases hal
theorem JAR{mx:Mix}{ops:Array Oper}{k:Nat}{o:Oper}(ho:ops[k]? =some o)(hk:mx.heads.contains k=false)(ht:mx.takes.contains k=false)(s:St):QV cx mx ops k s=KQ cx ops [o] s:=by unfold QV;rw[ho];simp only[hk,ht,Am,if_false]
theorem JLt{mx:Mix}{ops:Array Oper}{k:Nat}{ok:Oper}{K:St->Prop}(hk:ops[k]? =some ok)(hkh:mx.heads.contains k=true):
  ∀(f:Nat) (listed:Array Bool) (s s1:St),Closed ops listed->
   (∀j oj,ops[j]? =some oj->j≠k->listed.getD j true=false->j∈behind ops k\/JLq mx ops ok j oj)->
   k∈Region.ready .any ops listed->QV cx mx ops k s=some s1->JJg cx mx ops K f (listed.setIfInBounds k true) s1->JJg cx mx ops K (f+1) listed s:=by
 intro f
 induction f with
 |zero=>
  intro listed s s1 inv hfree hr h1 H;refine .inr ⟨λh=>(by rw[h]at hr;cases hr),λj hj=>?_⟩
  by_cases hjk:j=k
  ·subst hjk;exact⟨s1,h1,H⟩
  ·have:=ready_mono hj hjk
   rw[H.1]at this
   cases this
 |succ f ih=>
  intro listed s s1 inv hfree hr h1 H;have hun:=(mem_ready.1 hr).1;refine .inr ⟨λh=>(by rw[h]at hr;cases hr),λj hj=>?_⟩
  by_cases hjk:j=k
  ·subst hjk;exact⟨s1,h1,H⟩
  ·rcases H with⟨k',r,_,_,hok⟩|H
   ·exfalso
    have hj2:=ready_mono hj hjk;simp only[JDl,Af,beq_iff_eq,Ce]at hok;rw[hok.1.1.1.1.1.1]at hj2;have hjk':j=k':=by simpa using hj2
    subst hjk';obtain⟨hjun,oj,hoj,hall⟩:=mem_ready.1 hj;rcases hfree j oj hoj hjk hjun with hb|⟨hjh,hap⟩
    ·exact absurd hj (yG inv hun j hb).2
    ·have h3:=hok.1.1.1.1.2
     rw[hoj]at h3;simp only[Ce]at h3;rcases hjh with hjh|⟨_,_,_,hal⟩
     ·rw[hok.1.1.1.1.1.2]at hjh;cases hjh
     ·rw[h3]at hal;cases hal
   obtain⟨s2,h2,H2⟩:=H.2 j (ready_mono hj hjk);obtain⟨hjun,oj,hoj,hall⟩:=mem_ready.1 hj;rcases hfree j oj hoj hjk hjun with hb|⟨hjh,hap⟩
   ·exact absurd hj (yG inv hun j hb).2
   ·rw[Y6 hk hkh]at h1
    have hsw:∃s1',QV cx mx ops j s=some s1'/\opA cx ops k s1'=some s2:=by
     rcases hjh with hjh|⟨hjh,hjt,hp,hal⟩
     ·rw[Y6 hoj hjh]at h2
      obtain⟨s1',hs1',hs2⟩:=JJf hk hoj hap h1 h2;exact⟨s1',by rw[Y6 hoj hjh];exact hs1',hs2⟩
     ·rw[JAR hoj hjh hjt]at h2
      obtain⟨s1',hs1',hs2⟩:=JLs hk hp hal hap h1 h2;exact⟨s1',by rw[JAR hoj hjh hjt];exact hs1',hs2⟩
    obtain⟨s1',hs1',hs2⟩:=hsw;refine⟨s1',hs1',?_⟩
    have hfree':∀i oi,ops[i]? =some oi->i≠k->(listed.setIfInBounds j true).getD i true=false->i∈behind ops k\/JLq mx ops ok i oi:=λi oi hi hik hun=>by
     refine hfree i oi hi hik ?_
     by_cases hji:j=i
     ·subst hji;exact hjun
     ·rw[getD_set_ne true hji]at hun;exact hun
    refine ih (listed.setIfInBounds j true) s1' s2 (inv.set hj) hfree' (ready_mono hr (Ne.symm hjk)) (by rw[Y6 hk hkh];exact hs2) ?_
    rw[Lk _ _ hjk];exact H2
def WeakV(v u:V):Prop:=u=v\/u= .undef\/(u= .any/\ ∃b,v= .v (.bool b))
theorem WeakV.trans{v u t:V}(h:WeakV v u)(h':WeakV u t):WeakV v t:=by
 rcases h' with rfl|rfl|⟨rfl,b,rfl⟩
 ·exact h
 ·exact .inr (.inl rfl)
 ·rcases h with h|h|⟨h,_⟩
  ·exact .inr (.inr ⟨rfl,b,h.symm⟩)
  ·cases h
  ·cases h
structure Weak(s s':St):Prop where
 env:∀t,WeakV (look s.1 t) (look s'.1 t)
 heap:s'.2=s.2
theorem Weak.refl(s:St):Weak s s:=⟨λ_=> .inl rfl,rfl⟩
theorem Weak.trans{s s' s'':St}(h:Weak s s')(h':Weak s' s''):Weak s s'':=⟨λt=>(h.env t).trans (h'.env t),h'.heap.trans h.heap⟩
theorem JLu{v u:V}:WeakV v (JBY v u)/\WeakV u (JBY v u):=by
 unfold JBY
 split
 ·rename_i e
  obtain rfl:=JLS _ _ e;exact⟨.inl rfl,.inl rfl⟩
 ·split
  ·rename_i hb
   have key:∀{x:V},qm x=true->WeakV x .any:=λ{x} hx=>by
    unfold qm at hx
    split at hx
    ·exact .inr (.inr ⟨rfl,_,rfl⟩)
    ·exact .inl rfl
    ·cases hx
   exact⟨key hb.1,key hb.2⟩
  ·exact⟨.inr (.inl rfl),.inr (.inl rfl)⟩
theorem kP:∀{g q r:Jj},YC g q=some r->∀t,WeakV (look g t) (look r t)/\WeakV (look q t) (look r t)
 |[],[],r,h,t=>by
  simp only[YC,Aj]at h;subst h
  exact⟨.inl rfl,.inl rfl⟩
 |(k,v)::g,(j,u)::q,r,h,t=>by
  simp only[YC]at h
  split at h
  ·rename_i e
   subst e;rw[Ak]at h;obtain⟨r',hr,rfl⟩:=h;have ih:=kP hr t;simp only[look]
   split
   ·exact JLu
   ·exact ih
  ·cases h
 |[],_::_,r,h,t=>by simp[YC]at h
 |_::_,[],r,h,t=>by simp[YC]at h
theorem kQ{x y:Option St}{s:St}(h:jp x y=some s):∃s1 s2,x=some s1/\y=some s2/\Weak s1 s/\Weak s2 s:=by
 unfold jp at h
 split at h
 ·rename_i s1 s2
  split at h
  ·rename_i e
   have e:=JLT _ _ e;rw[Ak]at h;obtain⟨g,hg,rfl⟩:=h;exact⟨s1,s2,rfl,rfl,⟨λt=>(kP hg t).1,rfl⟩,⟨λt=>(kP hg t).2,e⟩⟩
  ·cases h
 ·cases h
def JBq(cx:Cx)(id:Nat)(s':St)(s2:St):Prop:=∃(k:List Nat) (s1:St),JBc cx.base (cx.hint.live id) (cx.hint.keep id) k s2=some s1/\Weak s1 s'
theorem Hm{mx:Mix}{id:Nat}{ops:Array Oper}{s':St}:∀(T:Tr) (n:Nat) (listed:Array Bool) (s r:St),Closed ops listed->GK cx mx id ops T s=some r->Weak r s'->
  (YB mx ops T n true listed=true->JJg cx mx ops (JBq cx id s') n listed s)/\
  (YB mx ops T n false listed=true->∀k∈T.firsts,k∈Region.ready .any ops listed->∃m,n=m+1/\ ∃s1,QV cx mx ops k s=some s1/\JJg cx mx ops (JBq cx id s') m (listed.setIfInBounds k true) s1)
 | .fin,n,listed,s,r,inv,he,hw=>by
  simp only[GK]at he;refine⟨λh=>?_,λh=>by simp[YB]at h⟩
  simp only[YB,Af,beq_iff_eq,Dq]at h;obtain⟨⟨_,rfl⟩,hr⟩:=h
  exact⟨hr,[],r,he,hw⟩
 | .finS i,n,listed,s,r,inv,he,hw=>by
  simp only[GK]at he;refine⟨λh=>?_,λh=>by simp[YB]at h⟩
  simp only[YB,Af,beq_iff_eq,Dq]at h;obtain⟨⟨_,rfl⟩,hr⟩:=h
  exact⟨hr,[i],r,he,hw⟩
 | .finL l,n,listed,s,r,inv,he,hw=>by
  simp only[GK]at he;refine⟨λh=>?_,λh=>by simp[YB]at h⟩
  simp only[YB,Af,beq_iff_eq,Dq]at h;obtain⟨⟨_,rfl⟩,hr⟩:=h
  exact⟨hr,l,r,he,hw⟩
 | .head k t,n,listed,s,r,inv,he,hw=>by
  simp only[GK]at he;refine⟨λh=>?_,λh=>?_⟩
  ·cases n with
   |zero=>simp[YB]at h
   |succ n=>
    simp only[YB,Af,CY]at h;obtain⟨⟨⟨_,hr⟩,hf⟩,ht⟩:=h;obtain⟨ok,hok,hkh,hfree⟩:=JDX hf
    split at he
    ·rename_i s1 h1
     exact JLt hok hkh n listed s s1 inv hfree hr h1 ((Hm t n _ s1 r (inv.set hr) he hw).1 ht)
    ·cases he
  ·cases n<;>simp[YB]at h
 | .one k t,n,listed,s,r,inv,he,hw=>by
  simp only[GK]at he
  have key:∀{top:Bool} {n:Nat},YB mx ops (.one k t) n top listed=true->k∈Region.ready .any ops listed->∃m,n=m+1/\ ∃s1,QV cx mx ops k s=some s1/\JJg cx mx ops (JBq cx id s') m (listed.setIfInBounds k true) s1:=λ{top n} h hr=>by
   cases n with
   |zero=>simp[YB]at h
   |succ n=>
    simp only[YB,Af]at h
    split at he
    ·rename_i s1 h1
     exact⟨n,rfl,s1,h1,(Hm t n _ s1 r (inv.set hr) he hw).1 h.2⟩
    ·cases he
  refine⟨λh=>?_,λh j hj hr=>?_⟩
  ·have h0:=h
   cases n with
   |zero=>simp[YB]at h
   |succ n=>
    simp only[YB,Af,A7,Dt,Am,false_or,Ce,DB,As,beq_iff_eq]at h;refine .inr ⟨h.1.1,λi hi=>?_⟩
    have:=h.1.2 i hi;subst this;obtain⟨m,hm,r⟩:=key h0 hi;cases hm;exact r
  ·simp only[Tr.firsts,Bp]at hj
   subst hj
   exact key h hr
 | .alt a b,n,listed,s,r,inv,he,hw=>by
  simp only[GK]at he;obtain⟨r1,r2,ha,hb,hw1,hw2⟩:=kQ he
  have key:∀{top:Bool},YB mx ops (.alt a b) n top listed=true->∀k∈a.firsts++b.firsts,k∈Region.ready .any ops listed->∃m,n=m+1/\ ∃s1,QV cx mx ops k s=some s1/\JJg cx mx ops (JBq cx id s') m (listed.setIfInBounds k true) s1:=λ{top} h k hk hr=>by
   simp only[YB,Af]at h;rcases AN.1 hk with hk|hk
   ·exact(Hm a n listed s r1 inv ha (hw1.trans hw)).2 h.1.2 k hk hr
   ·exact(Hm b n listed s r2 inv hb (hw2.trans hw)).2 h.2 k hk hr
  refine⟨λh=>?_,λh j hj hr=>key h j hj hr⟩
  have h0:=h;simp only[YB,Af,A7,Dt,Am,false_or,Ce,DB,As,CY]at h;obtain⟨i0,l,hl⟩:=List.exists_cons_of_ne_nil h.1.1.1;obtain⟨m,hm,_⟩:=key h0 i0 (h.1.1.2 i0 (by rw[hl];simp)) (by rw[hl];simp)
  subst hm;refine .inr ⟨h.1.1.1,λi hi=>?_⟩
  obtain⟨m',hm',r⟩:=key h0 i (h.1.1.2 i hi) hi;cases hm'
  exact r
 | .two k,n,listed,s,r,inv,he,hw=>by
  simp only[GK]at he;refine⟨λh=>?_,λh=>by simp[YB]at h⟩
  simp only[YB,Bool.true_and]at h
  split at he
  ·rename_i s1 h1
   have h0:=h;simp only[JDl,Af,decide_eq_true_eq,beq_iff_eq]at h0;obtain⟨n',rfl⟩:∃n',n=n'+1:=⟨n-1,by have:=h0.1.1.2;have:=h0.1.1.1.2;omega⟩
   exact .inl ⟨k,s1,h1,⟨[],r,he,hw⟩,h⟩
  ·cases he
end
end Go.Lift
end
