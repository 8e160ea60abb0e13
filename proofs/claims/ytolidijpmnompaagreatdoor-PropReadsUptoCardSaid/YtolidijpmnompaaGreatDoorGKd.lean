/- slices.Contains of texts, prop.named, prop.good. -/
import Derived.Test.YtolidijpmnompaaGreatDoorGLd
import Derived.Test.YtolidijpmnompaaGreatDoorGKb
import Derived.Test.YtolidijpmnompaaGreatDoorGKc
open Bool renaming and_eq_true->Af,and_false->Bl,and_true->B7,false_and->As,false_eq_true->Al,false_or->A3,not_false->A5,not_true->AN,or_assoc->L6,or_false->C2,or_true->D4,true_and->Aw,true_or->Bp
open ByteArray renaming empty->AQ
open Go.IntKind renaming i64->Am
open Go.Proofs.Tryz renaming prog->Aa
open Go.Value renaming bool->CU,int->A9,string->CK
open List renaming all_cons->Bi,any_cons->DP,append_assoc->Ax,append_nil->AE,cons_append->AA,drop_eq_getElem_cons->Av,drop_length->A0,drop_zero->AD,forall_mem_cons->CW,getElem?_append_right->Bb,getElem?_eq_getElem->Ac,getElem?_eq_some_iff->Ab,getElem?_map->An,getElem_mem->AW,length_append->Ao,length_cons->Ae,length_map->Aq,length_nil->Ai,map_append->DJ,mem_cons->AP,mem_of_getElem? ->Aj,nil_append->Au
open Nat renaming le_refl->Ad,sub_self->Db
set_option linter.unusedVariables false
set_option linter.unusedSimpArgs false
set_option linter.unusedSectionVars false
set_option maxRecDepth 20000
set_option maxHeartbeats 4000000
section
open Go.Proofs
namespace Go.Lift.Y1
open Rul
open Utf (By)
variable{lo:Nat}{h:JG}
def W7(ws:List ByteArray):List (List V):=ws.map λx=>[.v (.string x)]
def Y3(ws:List ByteArray)(s:ByteArray):Bool:=ws.any λx=>s.toList==x.toList
abbrev N59(ws:List ByteArray)(s:ByteArray)(i:Int):Jl:=[(0,.list .no (W7 ws)),(1,.v (.string s)),(7,.v (.int .i64 ws.length)),(8,.v (.int .i64 i))]
section
variable{ws:List ByteArray}{s:ByteArray}
theorem r62{x:ByteArray}{i:Nat}(hlo:lo<=h.length)(hl:ws.length<=1000000000)(hg:ws[i]? =some x):
  evCode ⟨Aa,E,lo,h.length,h62⟩ JA yv (N59 ws s i,h)=if(s.toList==x.toList)=true then some (.ret,[(4,.v (.int .i64 i))],h)else some (.normal,N59 ws s (i+1:Nat),h):=by
 have hlt:i<ws.length:=(Ab.1 hg).1
 have hgr:(W7 ws)[i]? =some [.v (.string x)]:=by unfold W7;rw[An,hg]<;>rfl
 have q1:decide ((i:Int)<(ws.length:Int))=true:=by rw[decide_eq_true_iff];omega
 have t1:Int.toNat (i:Int)=i:=om;have hwr:=JM (i:=i) om
 cases q:s.toList==x.toList with
 |true=>
  rw[if_pos rfl]
  simp only[N59,go_sem,yv,b62,Tryz.f62,hlo,hgr,q1,t1,hwr,q]<;>rfl
 |false=>
  rw[if_neg (by simp)]
  simp only[N59,go_sem,yv,b62,Tryz.f62,hlo,hgr,q1,t1,hwr,q]<;>rfl
theorem s59(hlo:lo<=h.length):evCode ⟨Aa,E,lo,h.length,h62⟩ JA yv (N59 ws s (ws.length:Nat),h)=some (.exit 0,N59 ws s (ws.length:Nat)++[(9,.v (.bool false))],h):=by
 have q1:decide ((ws.length:Int)<(ws.length:Int))=false:=by rw[decide_eq_false_iff_not];omega
 simp only[N59,go_sem,yv,b62,Tryz.f62,hlo,q1]<;>rfl
theorem JN0(hlo:lo<=h.length)(hl:ws.length<=1000000000):∀m i:Nat,i+m=ws.length->
  (Y3 (ws.drop i) s=true/\ ∃j:Nat,JA (evCode ⟨Aa,E,lo,h.length,h62⟩ JA yv) (N59 ws s i,h)=some (.ret,[(4,.v (.int .i64 j))],h))\/
  (Y3 (ws.drop i) s=false/\JA (evCode ⟨Aa,E,lo,h.length,h62⟩ JA yv) (N59 ws s i,h)=some (.exit 0,N59 ws s (ws.length:Nat)++[(9,.v (.bool false))],h))
 |0,i,hm=>by
  obtain rfl:i=ws.length:=om;rw[A0]
  exact .inr ⟨rfl,by rw[JB,s59 hlo,Jx]⟩
 |m+1,i,hm=>by
  have hlt:i<ws.length:=om;rw[JB,r62 hlo hl (Ac hlt),Av hlt]
  by_cases q:(s.toList==ws[i].toList)=true
  ·rw[if_pos q,Kh]
   exact .inl ⟨by unfold Y3;rw[DP,q,Bp],i,rfl⟩
  ·rw[if_neg q,JO]
   have e:Y3 (ws[i]::ws.drop (i+1)) s=Y3 (ws.drop (i+1)) s:=by unfold Y3;rw[DP,show(s.toList==ws[i].toList)=false from by simpa using q,A3]
   rw[e];exact JN0 hlo hl m (i+1) om
theorem f29(hlo:lo<=h.length)(hl:ws.length<=1000000000):E lo 29 [.list .no (W7 ws),.v (.string s)] h=some (.v (.bool (Y3 ws s)),h):=by
 have sl:(W7 ws).length=ws.length:=by unfold W7;rw[Aq]
 have c62:(Y3 ws s=true/\ ∀lo h,lo<=h.length->∃j:Nat,E lo 62 [.list .no (W7 ws),.v (.string s)] h=some (.v (.int .i64 j),h))\/
   (Y3 ws s=false/\ ∀lo h,lo<=h.length->E lo 62 [.list .no (W7 ws),.v (.string s)] h=some (.v (.int .i64 (-1)),h)):=by
  cases hs:Y3 ws s with
  |true=>
   refine .inl ⟨rfl,λlo h hlo=>?_⟩
   rcases JN0 (s:=s) hlo hl ws.length 0 om with⟨_,j,hL⟩|⟨h0,_⟩
   ·refine⟨j,?_⟩
    rw[e62];simp only[yv,b62,Tryz.f62,JK,loops,JC,N59,show((0:Nat):Int)=0 from rfl,go_sem]at hL
    simp only[go_sem,b62,Tryz.f62,hlo,sl,hL]<;>rfl
   ·rw[AD,hs]at h0;cases h0
  |false=>
   refine .inr ⟨rfl,λlo h hlo=>?_⟩
   rcases JN0 (s:=s) hlo hl ws.length 0 om with⟨h0,_⟩|⟨_,hL⟩
   ·rw[AD,hs]at h0;cases h0
   ·rw[e62]
    simp only[yv,b62,Tryz.f62,JK,loops,JC,N59,show((0:Nat):Int)=0 from rfl,go_sem]at hL
    simp only[go_sem,b62,Tryz.f62,hlo,sl,hL]<;>rfl
 rw[e29];rcases c62 with⟨h1,c⟩|⟨h1,c⟩
 ·rw[h1]
  obtain⟨j,cj⟩:=c lo h hlo;have q:decide ((0:Int)<=(j:Int))=true:=by rw[decide_eq_true_iff];omega
  simp only[go_sem,b29,Tryz.f29,hlo,cj,q]<;>rfl
 ·rw[h1]
  have q:decide ((0:Int)<=(-1:Int))=false:=rfl;simp only[go_sem,b29,Tryz.f29,hlo,c,q]<;>rfl
end
def JN1:List CV->Bool
 |[]=>false
 | .mk u _::r=>u.k==1&&QJ u.b&&qr r
theorem JLu(kids:List CV):qK kids=JN1 (Jh kids):=by unfold qK JN1;rfl
theorem f56{l:List CV}(hlo:lo<=h.length)(hl:JN l<=10000000)(ho:QG l):E lo 56 [.list .no (JJ l)] h=some (.v (.bool (JN1 l)),h):=by
 match l,hl,ho with
 |[],_,_=>
  have q1':((0:Int)==0)=true:=rfl;rw[e56,JX]
  simp only[go_sem,b56,Tryz.f56,hlo,q1',Ai]<;>rfl
 | .mk u ks::r,hl,ho=>
  rw[QG,YQ]at ho;rw[J6]at hl;have ht:=ho.1.1;have hln:=JV r;have c22:=λlo h hlo=>f22 (lo:=lo) (h:=h) ht.1 hlo (by have:=ht.2.1;omega)
  have c25:=λlo h hlo=>f25 (lo:=lo) (h:=h) (l:=r) hlo om
  have q0:(((r.length+1:Nat):Int)==0)=false:=by rw[beq_eq_false_iff_ne];omega
  have s1:(1:Nat)<=r.length+1:=om;show _=some (V.v (.bool (u.k==1&&QJ u.b&&qr r)),h)
  rw[e56,JZ,JP];have nk:(u.k !=1)= !(u.k==1):=rfl
  cases hk:u.k==1 with
  |false=>
   rw[hk]at nk;rw[As,As]
   simp only[go_sem,b56,Tryz.f56,hlo,q0,nk,JD,Ae,A5]<;>rfl
  |true=>
   rw[hk]at nk
   cases hc:QJ u.b with
   |false=>
    rw[hc]at c22;rw[Bl,As]
    simp only[go_sem,b56,Tryz.f56,hlo,q0,nk,c22,JD,Ae,AN]<;>rfl
   |true=>
    rw[hc]at c22;rw[B7,Aw];unfold qr;generalize Jh r=T at c25⊢;have d1:List.drop 1 ([V.v (.int .i64 u.k),.v (.string (Rul.bs u.b)),.v (.int .i64 u.n),.v (.int .i64 u.d),.v (.bool u.w),.v (.bool u.i),.list .no (JJ ks)]::JJ r)=JJ r:=rfl
    match T,c25 with
    |[],c25=>
     have q1':((0:Int)==0)=true:=rfl;rw[JX]at c25
     simp only[go_sem,b56,Tryz.f56,hlo,q0,nk,c22,c25,q1',JD,Qy,Jn,Ae,Ai,AN]<;>rfl
    | .mk y yk::T',c25=>
     have q2:(((T'.length+1:Nat):Int)==0)=false:=by rw[beq_eq_false_iff_ne];omega
     rw[JZ,JP]at c25;simp only[go_sem,b56,Tryz.f56,hlo,q0,nk,c22,c25,q2,JD,Qy,Jn,Ae,AN]<;>rfl
def JRa(k:Int):Bool:=k==6||(k==8||(k==22||(k==20||k==24)))
mutual
def K8:CV->Bool->Bool
 | .mk t kids,top=> !JRa t.k&&(!(t.k==17&&top)&&((!qp t||qK kids)&&KG kids false))
def KG:List CV->Bool->Bool
 |[],_=>true
 |v::r,top=>K8 v top&&KG r top
end
theorem JLv(t:Tk4)(kids:List CV)(top:Bool):K8 (.mk t kids) top=(!JRa t.k&&(!(t.k==17&&top)&&((!qp t||qK kids)&&KG kids false))):=by rw[K8]
abbrev yC(l:List CV)(top:Bool)(i:Int):Jl:=[(1,.v (.bool top)),(7,.list .no (JJ l)),(8,.v (.int .i64 l.length)),(9,.v (.int .i64 i))]
theorem r24{l:List CV}{v:CV}{top:Bool}{i:Nat}(hlo:lo<=h.length)(hl:JN l<=10000000)(ho:YQ v)(hg:l[i]? =some v)
  (hk:∀lo h,lo<=h.length->E lo 24 [.list .no (JJ v.ks),.v (.bool false)] h=some (.v (.bool (KG v.ks false)),h)):
  evCode ⟨Aa,E,lo,h.length,h24⟩ JA Qg (yC l top i,h)=if K8 v top=true then some (.normal,yC l top (i+1:Nat),h)else some (.ret,[(4,.v (.bool false))],h++[.cells (Js v)]):=by
 have hll:=JV l;have hnv:=KO (Aj hg);have hkn:=Wt v;obtain⟨t,kids⟩:=v;have ht:okT t:=qy ho;have hko:QG kids:=Gf ho;have l1:lo<=h.length+1:=om;have hlt:i<l.length:=(Ab.1 hg).1
 have hgr:(JJ l)[i]? =some (Js (.mk t kids)):=by rw[Jq,hg]<;>rfl
 have q1:decide ((i:Int)<(l.length:Int))=true:=by rw[decide_eq_true_iff];omega
 have t1:Int.toNat (i:Int)=i:=om;have hwr:=JM (i:=i) om;have hkids:JN kids<=10000000:=by have:(CV.mk t kids).ks=kids:=rfl;rw[this]at hkn;omega
 have c55:=λlo h hlo=>f55 (lo:=lo) (h:=h) (kids:=kids) ht.1 ht.2.1 hlo
 have c25:=λlo h hlo=>f25 (lo:=lo) (h:=h) (l:=kids) hlo om
 have c56:=λlo h hlo=>f56 (lo:=lo) (h:=h) (l:=Jh kids) hlo (by have:=Kf kids;omega) (kS λv hv=>Kb hko v (KH hv))
 have c24:∀lo h,lo<=h.length->E lo 24 [.list .no (JJ kids),.v (.bool false)] h=some (.v (.bool (KG kids false)),h):=hk;rw[<-JLu]at c56;rw[JLv];rw[JP]at*;generalize qK kids=uo at c56⊢;generalize KG kids false=gk at c24⊢;unfold JRa
 cases q6:t.k==6 with
 |true=>
  rw[if_neg (by simp)]
  simp only[yC,go_sem,Qg,b24,Tryz.f24,hlo,l1,hgr,q1,t1,q6]<;>rfl
 |false=>
 cases q8:t.k==8 with
 |true=>
  rw[if_neg (by simp)]
  simp only[yC,go_sem,Qg,b24,Tryz.f24,hlo,l1,hgr,q1,t1,q6,q8]<;>rfl
 |false=>
 cases q22:t.k==22 with
 |true=>
  rw[if_neg (by simp)]
  simp only[yC,go_sem,Qg,b24,Tryz.f24,hlo,l1,hgr,q1,t1,q6,q8,q22]<;>rfl
 |false=>
 cases q20:t.k==20 with
 |true=>
  rw[if_neg (by simp)]
  simp only[yC,go_sem,Qg,b24,Tryz.f24,hlo,l1,hgr,q1,t1,q6,q8,q22,q20]<;>rfl
 |false=>
 cases q24:t.k==24 with
 |true=>
  rw[if_neg (by simp)]
  simp only[yC,go_sem,Qg,b24,Tryz.f24,hlo,l1,hgr,q1,t1,q6,q8,q22,q20,q24]<;>rfl
 |false=>
 have main:∀b9:Bool,(t.k==17)=b9->(b9&&top)=false->
   evCode ⟨Aa,E,lo,h.length,h24⟩ JA Qg (yC l top i,h)=if((!qp t||uo)&&gk)=true then some (.normal,yC l top (i+1:Nat),h)else some (.ret,[(4,.v (.bool false))],h++[.cells [.v (.int .i64 t.k),.v (.string (Rul.bs t.b)),.v (.int .i64 t.n),.v (.int .i64 t.d),.v (.bool t.w),.v (.bool t.i),.list .no (JJ kids)]]):=by
  intro b9 q17 hb
  have fin:∀tp:Bool,(b9&&tp)=false->evCode ⟨Aa,E,lo,h.length,h24⟩ JA Qg (yC l tp i,h)=if((!qp t||uo)&&gk)=true then some (.normal,yC l tp (i+1:Nat),h)else some (.ret,[(4,.v (.bool false))],h++[.cells [.v (.int .i64 t.k),.v (.string (Rul.bs t.b)),.v (.int .i64 t.n),.v (.int .i64 t.d),.v (.bool t.w),.v (.bool t.i),.list .no (JJ kids)]]):=by
   intro tp hb
   cases hu:qp t with
   |true=>
    rw[hu]at c55
    cases uo with
    |false=>
     rw[if_neg (by simp)]
     cases b9 with
     |true=>
      cases tp with
      |true=>cases hb
      |false=>simp only[yC,go_sem,Qg,b24,Tryz.f24,hlo,l1,hgr,q1,t1,q6,q8,q22,q20,q24,q17,c55,c25,c56,c24,hwr]<;>rfl
     |false=>simp only[yC,go_sem,Qg,b24,Tryz.f24,hlo,l1,hgr,q1,t1,q6,q8,q22,q20,q24,q17,c55,c25,c56,c24,hwr]<;>rfl
    |true=>
     cases gk with
     |false=>
      rw[if_neg (by simp)]
      cases b9 with
      |true=>
       cases tp with
       |true=>cases hb
       |false=>simp only[yC,go_sem,Qg,b24,Tryz.f24,hlo,l1,hgr,q1,t1,q6,q8,q22,q20,q24,q17,c55,c25,c56,c24,hwr]<;>rfl
      |false=>simp only[yC,go_sem,Qg,b24,Tryz.f24,hlo,l1,hgr,q1,t1,q6,q8,q22,q20,q24,q17,c55,c25,c56,c24,hwr]<;>rfl
     |true=>
      rw[if_pos (by simp)]
      cases b9 with
      |true=>
       cases tp with
       |true=>cases hb
       |false=>simp only[yC,go_sem,Qg,b24,Tryz.f24,hlo,l1,hgr,q1,t1,q6,q8,q22,q20,q24,q17,c55,c25,c56,c24,hwr]<;>rfl
      |false=>simp only[yC,go_sem,Qg,b24,Tryz.f24,hlo,l1,hgr,q1,t1,q6,q8,q22,q20,q24,q17,c55,c25,c56,c24,hwr]<;>rfl
   |false=>
    rw[hu]at c55
    cases gk with
    |false=>
     rw[if_neg (by simp)]
     cases b9 with
     |true=>
      cases tp with
      |true=>cases hb
      |false=>simp only[yC,go_sem,Qg,b24,Tryz.f24,hlo,l1,hgr,q1,t1,q6,q8,q22,q20,q24,q17,c55,c25,c56,c24,hwr]<;>rfl
     |false=>simp only[yC,go_sem,Qg,b24,Tryz.f24,hlo,l1,hgr,q1,t1,q6,q8,q22,q20,q24,q17,c55,c25,c56,c24,hwr]<;>rfl
    |true=>
     rw[if_pos (by simp)]
     cases b9 with
     |true=>
      cases tp with
      |true=>cases hb
      |false=>simp only[yC,go_sem,Qg,b24,Tryz.f24,hlo,l1,hgr,q1,t1,q6,q8,q22,q20,q24,q17,c55,c25,c56,c24,hwr]<;>rfl
     |false=>simp only[yC,go_sem,Qg,b24,Tryz.f24,hlo,l1,hgr,q1,t1,q6,q8,q22,q20,q24,q17,c55,c25,c56,c24,hwr]<;>rfl
  exact fin top hb
 cases q17:t.k==17 with
 |false=>
  rw[main false q17 rfl]
  simp only[As,C2,A5,Aw]
 |true=>
  cases top with
  |false=>
   rw[main true q17 rfl]
   simp only[Bl,C2,A5,Aw]
  |true=>
   rw[if_neg (by simp)]
   simp only[yC,go_sem,Qg,b24,Tryz.f24,hlo,l1,hgr,q1,t1,q6,q8,q22,q20,q24,q17]<;>rfl
theorem Jr4{l:List CV}{top:Bool}(hlo:lo<=h.length):evCode ⟨Aa,E,lo,h.length,h24⟩ JA Qg (yC l top (l.length:Nat),h)=some (.exit 0,yC l top (l.length:Nat)++[(10,.v (.bool false))],h):=by
 have q1:decide ((l.length:Int)<(l.length:Int))=false:=by rw[decide_eq_false_iff_not];omega
 simp only[yC,go_sem,Qg,b24,Tryz.f24,hlo,q1]<;>rfl
theorem JN2{l:List CV}{v:CV}{top:Bool}{i:Nat}(hg:l[i]? =some v):KG (l.drop i) top=(K8 v top&&KG (l.drop (i+1)) top):=by
 obtain⟨hlt,rfl⟩:=Ab.1 hg
 rw[Av hlt,KG]
theorem JPJ{l:List CV}{top:Bool}(hlo:lo<=h.length)(hl:JN l<=10000000)(ho:QG l)
  (hk:∀v∈l,∀lo h,lo<=h.length->E lo 24 [.list .no (JJ v.ks),.v (.bool false)] h=some (.v (.bool (KG v.ks false)),h)):∀m i:Nat,i+m=l.length->
  if KG (l.drop i) top=true then JA (evCode ⟨Aa,E,lo,h.length,h24⟩ JA Qg) (yC l top i,h)=some (.exit 0,yC l top (l.length:Nat)++[(10,.v (.bool false))],h)
  else∃v,JA (evCode ⟨Aa,E,lo,h.length,h24⟩ JA Qg) (yC l top i,h)=some (.ret,[(4,.v (.bool false))],h++[.cells (Js v)])
 |0,i,hm=>by
  obtain rfl:i=l.length:=om
  rw[A0,KG,if_pos rfl,JB,Jr4 hlo,Jx]
 |m+1,i,hm=>by
  have hlt:i<l.length:=om;have hg:=Ac hlt
  have hmem:=AW hlt;rw[JN2 hg,JB,r24 hlo hl (Kb ho _ hmem) hg (hk _ hmem)]
  cases q:K8 l[i] top with
  |false=>
   rw[As,if_neg (by simp),if_neg (by simp),Kh]
   exact⟨_,rfl⟩
  |true=>rw[Aw,if_pos rfl,JO];exact JPJ hlo hl ho hk m (i+1) om
theorem JkV:∀(n:Nat) (l:List CV),JN l<n->JN l<=10000000->QG l->∀(top:Bool) lo h,lo<=h.length->E lo 24 [.list .no (JJ l),.v (.bool top)] h=some (.v (.bool (KG l top)),h)
 |0,l,hn,_,_=>by omega
 |n+1,l,hn,hl,ho=>by
  intro top lo h hlo
  have hk:∀v∈l,∀lo h,lo<=h.length->E lo 24 [.list .no (JJ v.ks),.v (.bool false)] h=some (.v (.bool (KG v.ks false)),h):=λv hv lo h hlo=>by have h1:=KO hv;have h2:=Wt v;exact JkV n v.ks om om (Gf (Kb ho v hv)) false lo h hlo
  have hL:=JPJ (lo:=lo) (h:=h) (top:=top) hlo hl ho hk l.length 0 om;rw[AD]at hL;rw[e24]
  cases q:KG l top with
  |true=>
   rw[q,if_pos rfl]at hL;simp only[Qg,b24,Tryz.f24,JK,loops,JC,yC,show((0:Nat):Int)=0 from rfl,go_sem]at hL
   simp only[go_sem,b24,Tryz.f24,hlo,JD,hL]<;>rfl
  |false=>
   rw[q,if_neg (by simp)]at hL
   obtain⟨v,hL⟩:=hL;simp only[Qg,b24,Tryz.f24,JK,loops,JC,yC,show((0:Nat):Int)=0 from rfl,go_sem]at hL
   simp only[go_sem,b24,Tryz.f24,hlo,JD,hL]<;>rfl
theorem f24{l:List CV}{top:Bool}(hlo:lo<=h.length)(hl:JN l<=10000000)(ho:QG l):E lo 24 [.list .no (JJ l),.v (.bool top)] h=some (.v (.bool (KG l top)),h):=
 JkV (JN l+1) l om hl ho top lo h hlo
mutual
def JAL:CV->Bool
 | .mk t kids=>(qp t&& !qK kids)||WL kids
def WL:List CV->Bool
 |[]=>false
 |v::r=>JAL v||WL r
end
def V24(l:List CV):Prop:=∀lo h,lo<=h.length->E lo 34 [.list .no (JJ l)] h=some (.tup [.v (.bool (Qz l)),.v (.bool (WL l))],h)
noncomputable abbrev X24(lo:Nat)(h:JG):Go.Lift.Cx:=⟨Aa,E,lo,h.length,h34⟩
abbrev N24(s w:Bool)(l:List CV)(k:Int):Jl:=[(4,.v (.bool s)),(5,.v (.bool w)),(14,.list .no (JJ l)),(15,.v (.int .i64 l.length)),(16,.v (.int .i64 k))]
theorem r34{l:List CV}{t:Tk4}{kids:List CV}{k:Nat}{s w:Bool}(hlo:lo<=h.length)(hl:l.length<=1000000000)(hg:l[k]? =some (.mk t kids))(hv:okCV (.mk t kids))(hc:V24 kids):
  evCode (X24 lo h) JA JCd (N24 s w l k,h)=some (.normal,N24 (s||JD1 (.mk t kids)) (w||JAL (.mk t kids)) l (k+1:Nat),h):=by
 have hlt:k<l.length:=(Ab.1 hg).1
 have hgr:(JJ l)[k]? =some (Js (.mk t kids)):=by simp[rowsC_map,hg]
 rw[okCV]at hv;have l1:lo<=h.length+1:=om;have c34:=λlo h hlo=>hc lo h hlo
 have c66:=λlo h hlo=>f66 (lo:=lo) (h:=h) (kids:=kids) hv.1.1 hv.1.2.1 hlo
 obtain⟨a,b,c,c67⟩:=f67 (t:=t) hv.2 hv.1.2.2;rw[JP]at hgr c66 c67;have q1:decide ((k:Int)<(l.length:Int))=true:=by simp;omega
 have hw:=JM (i:=k) om;rw[JD1,JAL];generalize Qz kids=x1 at c34⊢;generalize WL kids=x2 at c34⊢;generalize qp t=x3 at c66⊢;generalize qK kids=x4 at c67⊢
 cases s<;>cases w<;>cases x3<;>first
  |(
    simp only[go_sem,JCd,b34,Tryz.f34,hlo,l1,q1,hgr,hw,c34,c66,Aw,As,D4,Bp,A3,C2]
    done)
  |(
    cases x4<;>simp only[go_sem,JCd,b34,Tryz.f34,hlo,l1,q1,hgr,hw,c34,c66,c67,Aw,As,D4,Bp,A3,C2,AN,A5]
    done)
theorem Jd7{l:List CV}:evCode (X41 lo h) JA JAr (N41 l l.length,h)=some (.exit 0,N41 l l.length++[(9,.v (.bool false))],h):=by
 have q1:decide ((l.length:Int)<(l.length:Int))=false:=by simp
 simp only[go_sem,JAr,b91,Tryz.f91,q1]<;>rfl
theorem JUg{l:List CV}(hlo:lo<=h.length)(hl:l.length<=1000000000)(hc:∀v∈l,V22 v):∀(m k:Nat),k+m=l.length->∃j:Nat,
  JA (evCode (X41 lo h) JA JAr) (N41 l k,h)=if Qz (l.drop k)=true then some (.ret,[(4,.v (.int .i64 j))],h)else some (.exit 0,N41 l l.length++[(9,.v (.bool false))],h)
 |0,k,hk=>by
  have e:k=l.length:=om;subst e;refine⟨0,?_⟩
  rw[A0,Qz,if_neg (by simp),JB,Jd7,Jx]
 |m+1,k,hk=>by
  have hlt:k<l.length:=om;obtain⟨v,hg⟩:∃v,l[k]? =some v:=⟨l[k],Ac hlt⟩
  have hd:l.drop k=v::l.drop (k+1):=by
   rw[Av hlt];rw[Ac hlt]at hg
   rw[Option.some.inj hg]
  have hm:v∈l:=Aj hg;have hr:=r91 (lo:=lo) (h:=h) hlo hl hg (hc v hm);obtain⟨j,hj⟩:=JUg hlo hl hc m (k+1) om;rw[hd,Qz]
  cases hv:JD1 v with
  |true=>
   rw[if_pos hv]at hr;refine⟨k,?_⟩
   rw[JB,hr,Kh,Bp,if_pos rfl]
  |false=>
   rw[if_neg (by simp[hv])]at hr
   refine⟨j,?_⟩
   rw[JB,hr,JO,A3];exact hj
theorem f91{l:List CV}(hlo:lo<=h.length)(hl:l.length<=1000000000)(hc:∀v∈l,V22 v):∃j:Nat,E lo 91 [.list .no (JJ l),.fn 60 []] h=some (.v (.int .i64 (if Qz l=true then(j:Int)else-1)),h):=by
 obtain⟨j,hj⟩:=JUg (lo:=lo) (h:=h) hlo hl hc l.length 0 om;refine⟨j,?_⟩
 rw[AD]at hj;have n0:((0:Nat):Int)=0:=rfl;rw[e91]
 cases hv:Qz l with
 |true=>
  rw[hv,if_pos rfl]at hj;simp only[JAr,b91,Tryz.f91,JK,loops,JC,go_sem,N41,X41,n0]at hj
  simp only[go_sem,b91,Tryz.f91,hlo,hj,JD,n0]<;>rfl
 |false=>
  rw[hv,if_neg (by simp)]at hj
  simp only[JAr,b91,Tryz.f91,JK,loops,JC,go_sem,N41,X41,n0]at hj;simp only[go_sem,b91,Tryz.f91,hlo,hj,JD,n0]<;>rfl
theorem f59{l:List CV}(hlo:lo<=h.length)(hl:l.length<=1000000000)(hc:∀v∈l,V22 v):E lo 59 [.list .no (JJ l),.fn 60 []] h=some (.v (.bool (Qz l)),h):=by
 obtain⟨j,hj⟩:=f91 (lo:=lo) (h:=h) hlo hl hc;obtain⟨j2,hj2⟩:=f91 (lo:=h.length) (h:=h) (Ad _) hl hc;rw[e59]
 cases hv:Qz l with
 |true=>
  rw[hv,if_pos rfl]at hj hj2;have q:decide ((j:Int)>=0)=true:=by simp
  have q2:decide ((j2:Int)>=0)=true:=by simp
  have q':decide ((0:Int)<=j)=true:=by simp
  have q2':decide ((0:Int)<=j2)=true:=by simp
  simp only[go_sem,b59,Tryz.f59,hlo,hj,hj2,q,q2,q',q2']<;>rfl
 |false=>
  rw[hv,if_neg (by simp)]at hj hj2
  simp only[go_sem,b59,Tryz.f59,hlo,hj,hj2]<;>rfl
theorem f7_of{l:List CV}(hl:l.length<=1000000000)(hc:∀v∈l,V22 v):V7 l:=by intro lo h hlo;have k1:=f59 (lo:=lo) (h:=h) hlo hl hc;have k2:=f59 (lo:=h.length) (h:=h) (Ad _) hl hc;rw[e27];simp only[go_sem,b27,Tryz.f27,hlo,k1,k2]<;>rfl
mutual
theorem JkW:∀v:CV,okCV v->V22 v
 | .mk t kids=>by have ih:=JUh kids;intro hs;rw[okCV]at hs;exact f60 hs.1.1 hs.1.2.1 (f7_of hs.1.2.2 (ih hs.2))
theorem JUh:∀l:List CV,okCL l->∀v∈l,V22 v
 |[]=>λ_ _ h=>nomatch h
 |x::r=>by
  have i1:=JkW x;have i2:=JUh r;intro hs v hm;rw[okCL]at hs;rcases AP.1 hm with rfl|hm
  ·exact i1 hs.1
  ·exact i2 hs.2 v hm
end
theorem f27{l:List CV}(hlo:lo<=h.length)(hl:l.length<=1000000000)(hs:okCL l):E lo 27 [.list .no (JJ l)] h=some (.v (.bool (Qz l)),h):=f7_of hl (JUh l hs) lo h hlo
theorem Jd8{s w:Bool}{l:List CV}:evCode (X24 lo h) JA JCd (N24 s w l l.length,h)=some (.exit 0,N24 s w l l.length++[(17,.v (.bool false))],h):=by
 have q1:decide ((l.length:Int)<(l.length:Int))=false:=by simp
 simp only[go_sem,JCd,b34,Tryz.f34,q1]<;>rfl
theorem JUi{l:List CV}(hlo:lo<=h.length)(hl:l.length<=1000000000)(hv:∀v∈l,okCV v)(hc:∀t kids,CV.mk t kids∈l->V24 kids):∀(m k:Nat) (s w:Bool),k+m=l.length->
  JA (evCode (X24 lo h) JA JCd) (N24 s w l k,h)=some (.exit 0,N24 (s||Qz (l.drop k)) (w||WL (l.drop k)) l l.length++[(17,.v (.bool false))],h)
 |0,k,s,w,hk=>by
  have e:k=l.length:=om;subst e
  rw[A0,Qz,WL,JB,Jd8,Jx,C2,C2]
 |m+1,k,s,w,hk=>by
  have hlt:k<l.length:=om;obtain⟨v,hg⟩:∃v,l[k]? =some v:=⟨l[k],Ac hlt⟩
  have hd:l.drop k=v::l.drop (k+1):=by
   rw[Av hlt];rw[Ac hlt]at hg
   rw[Option.some.inj hg]
  have hm:v∈l:=Aj hg;have hj:=JUi hlo hl hv hc m (k+1);obtain⟨t,kids⟩:=v;have hr:=r34 (s:=s) (w:=w) (lo:=lo) (h:=h) hlo hl hg (hv _ hm) (hc t kids hm);rw[hd,Qz,WL,JB,hr,JO,hj _ _ om,L6,L6]
theorem JUj{l:List CV}(hl:l.length<=1000000000)(hv:∀v∈l,okCV v)(hc:∀t kids,CV.mk t kids∈l->V24 kids):V24 l:=by intro lo h hlo;have hj:=JUi (lo:=lo) (h:=h) hlo hl hv hc l.length 0 false false om;rw[AD,A3,A3]at hj;have n0:((0:Nat):Int)=0:=rfl;rw[e34];simp only[JCd,b34,Tryz.f34,JK,loops,JC,go_sem,N24,X24,n0]at hj;simp only[go_sem,b34,Tryz.f34,hlo,hj,JD,n0]<;>rfl
mutual
theorem JkX:∀v:CV,okCV v->∀t kids,v= .mk t kids->V24 kids
 | .mk t' kids'=>by have ih:=JUk kids';intro hs t kids he;obtain⟨rfl,rfl⟩:=CV.mk.inj he;rw[okCV]at hs;exact JUj hs.1.2.2 (yy hs.2) (ih hs.2)
theorem JUk:∀l:List CV,okCL l->∀t kids,CV.mk t kids∈l->V24 kids
 |[]=>λ_ _ _ h=>nomatch h
 |x::r=>by
  have i1:=JkX x;have i2:=JUk r;intro hs t kids hm;rw[okCL]at hs;rcases AP.1 hm with he|hm
  ·exact i1 hs.1 t kids he.symm
  ·exact i2 hs.2 t kids hm
end
theorem f34{l:List CV}(hl:l.length<=1000000000)(hs:okCL l):V24 l:=JUj hl (yy hs) (JUk l hs)
def JUl(k:Int)(top:Bool):Bool:=(k==6||(k==8||(k==22||(k==20||k==24))))||(k==17&&top)
mutual
def JLw:CV->Bool->Bool
 | .mk t kids,top=>JUl t.k top||GO kids false
def GO:List CV->Bool->Bool
 |[],_=>false
 |v::r,top=>JLw v top||GO r top
end
theorem JPK(t:Tk4)(kids:List CV)(top:Bool):JLw (.mk t kids) top=(JUl t.k top||GO kids false):=by rw[JLw]
theorem JHm(v:CV)(r:List CV)(top:Bool):GO (v::r) top=(JLw v top||GO r top):=by rw[GO]
theorem JLx(top:Bool):GO [] top=false:=by rw[GO]
abbrev GP(l:List CV)(top:Bool)(i:Int):Jl:=[(1,.v (.bool top)),(7,.list .no (JJ l)),(8,.v (.int .i64 l.length)),(9,.v (.int .i64 i))]
theorem Jr5{l:List CV}{t:Tk4}{kids:List CV}{i:Nat}{top:Bool}(hlo:lo<=h.length)(hl:l.length<=1000000000)(hg:l[i]? =some (.mk t kids))
  (hc:∀lo h,lo<=h.length->E lo 35 [.list .no (JJ kids),.v (.bool false)] h=some (.v (.bool (GO kids false)),h)):
  evCode ⟨Aa,E,lo,h.length,h35⟩ JA Wp (GP l top i,h)=if JLw (.mk t kids) top=true then some (.ret,[(4,.v (.bool true))],h++[.cells (Js (.mk t kids))])else some (.normal,GP l top (i+1:Nat),h):=by
 have hlt:i<l.length:=(Ab.1 hg).1
 have hgr:(JJ l)[i]? =some (Js (.mk t kids)):=by rw[Jq,hg]<;>rfl
 have q:decide ((i:Int)<(l.length:Int))=true:=by simpa using hlt
 have hw:=JM (i:=i) om;have l1:lo<=h.length+1:=om;rw[JPK];unfold JUl;generalize GO kids false=bb at hc⊢;rw[JP]at*
 cases k6:t.k==6 with
 |true=>
  rw[if_pos (by simp)]
  simp only[GP,go_sem,Wp,b35,Tryz.f35,hlo,l1,q,hgr,hw,k6]<;>rfl
 |false=>
 cases k8:t.k==8 with
 |true=>
  rw[if_pos (by simp)]
  simp only[GP,go_sem,Wp,b35,Tryz.f35,hlo,l1,q,hgr,hw,k6,k8]<;>rfl
 |false=>
 cases k22:t.k==22 with
 |true=>
  rw[if_pos (by simp)]
  simp only[GP,go_sem,Wp,b35,Tryz.f35,hlo,l1,q,hgr,hw,k6,k8,k22]<;>rfl
 |false=>
 cases k20:t.k==20 with
 |true=>
  rw[if_pos (by simp)]
  simp only[GP,go_sem,Wp,b35,Tryz.f35,hlo,l1,q,hgr,hw,k6,k8,k22,k20]<;>rfl
 |false=>
 cases k24:t.k==24 with
 |true=>
  rw[if_pos (by simp)]
  simp only[GP,go_sem,Wp,b35,Tryz.f35,hlo,l1,q,hgr,hw,k6,k8,k22,k20,k24]<;>rfl
 |false=>
 cases k17:t.k==17 with
 |true=>
  cases top with
  |true=>
   rw[if_pos (by simp)]
   simp only[GP,go_sem,Wp,b35,Tryz.f35,hlo,l1,q,hgr,hw,k6,k8,k22,k20,k24,k17]<;>rfl
  |false=>
   cases bb with
   |true=>
    rw[if_pos (by simp)]
    simp only[GP,go_sem,Wp,b35,Tryz.f35,hlo,l1,q,hgr,hw,k6,k8,k22,k20,k24,k17,hc]<;>rfl
   |false=>
    rw[if_neg (by simp)]
    simp only[GP,go_sem,Wp,b35,Tryz.f35,hlo,l1,q,hgr,hw,k6,k8,k22,k20,k24,k17,hc]<;>rfl
 |false=>
  cases bb with
  |true=>
   rw[if_pos (by simp)]
   simp only[GP,go_sem,Wp,b35,Tryz.f35,hlo,l1,q,hgr,hw,k6,k8,k22,k20,k24,k17,hc]<;>rfl
  |false=>
   rw[if_neg (by simp)]
   simp only[GP,go_sem,Wp,b35,Tryz.f35,hlo,l1,q,hgr,hw,k6,k8,k22,k20,k24,k17,hc]<;>rfl
theorem Jr6{l:List CV}{top:Bool}(hlo:lo<=h.length):evCode ⟨Aa,E,lo,h.length,h35⟩ JA Wp (GP l top (l.length:Nat),h)=some (.exit 0,GP l top (l.length:Nat)++[(10,.v (.bool false))],h):=by
 have q:decide ((l.length:Int)<(l.length:Int))=false:=by simp
 simp only[GP,go_sem,Wp,b35,Tryz.f35,hlo,q]<;>rfl
theorem JPL{l:List CV}{top:Bool}(hlo:lo<=h.length)(hl:l.length<=1000000000)(hc:∀t kids,CV.mk t kids∈l->∀lo h,lo<=h.length->E lo 35 [.list .no (JJ kids),.v (.bool false)] h=some (.v (.bool (GO kids false)),h)):∀m i:Nat,i+m=l.length->
  if GO (l.drop i) top=true then∃v,JA (evCode ⟨Aa,E,lo,h.length,h35⟩ JA Wp) (GP l top i,h)=some (.ret,[(4,.v (.bool true))],h++[.cells (Js v)])
  else JA (evCode ⟨Aa,E,lo,h.length,h35⟩ JA Wp) (GP l top i,h)=some (.exit 0,GP l top (l.length:Nat)++[(10,.v (.bool false))],h)
 |0,i,hm=>by
  obtain rfl:i=l.length:=om
  rw[A0,JLx,if_neg (by simp),JB,Jr6 hlo,Jx]
 |m+1,i,hm=>by
  have hlt:i<l.length:=om;have hg:=Ac hlt
  have ih:=JPL (top:=top) hlo hl hc m (i+1) om;have hmem:=AW hlt;rw[Av hlt,JHm];generalize l[i]=v at hg hmem;obtain⟨t,kids⟩:=v;have hr:=Jr5 (lo:=lo) (h:=h) (top:=top) hlo hl hg (hc t kids hmem)
  cases hb:JLw (.mk t kids) top with
  |true=>
   rw[hb,if_pos rfl]at hr;rw[Bp,if_pos rfl]
   exact⟨_,by rw[JB,hr,Kh]⟩
  |false=>
   rw[hb,if_neg (by simp)]at hr
   rw[A3]
   have e:JA (evCode ⟨Aa,E,lo,h.length,h35⟩ JA Wp) (GP l top i,h)=JA (evCode ⟨Aa,E,lo,h.length,h35⟩ JA Wp) (GP l top (i+1:Nat),h):=by conv=>lhs;rw[JB,hr,JO]
   rw[e];exact ih
theorem Jd9{l:List CV}(hl:l.length<=1000000000)(hc:∀t kids,CV.mk t kids∈l->∀lo h,lo<=h.length->E lo 35 [.list .no (JJ kids),.v (.bool false)] h=some (.v (.bool (GO kids false)),h))(top:Bool)(lo:Nat)(h:JG)(hlo:lo<=h.length):
  E lo 35 [.list .no (JJ l),.v (.bool top)] h=some (.v (.bool (GO l top)),h):=by
 have hL:=JPL (top:=top) hlo hl hc l.length 0 om;rw[AD]at hL;have n0:((0:Nat):Int)=0:=rfl;rw[e35]
 cases hb:GO l top with
 |true=>
  rw[hb,if_pos rfl]at hL;obtain⟨⟨t,kids⟩,hL⟩:=hL;rw[JP]at hL;simp only[Wp,b35,Tryz.f35,JK,loops,JC,GP,n0,go_sem]at hL
  simp only[go_sem,b35,Tryz.f35,hlo,hL,JD]<;>rfl
 |false=>
  rw[hb,if_neg (by simp)]at hL
  simp only[Wp,b35,Tryz.f35,JK,loops,JC,GP,n0,go_sem]at hL;simp only[go_sem,b35,Tryz.f35,hlo,hL,JD]<;>rfl
theorem f35:∀(n:Nat) (l:List CV),JN l<n->JN l<=1000000000->∀(top:Bool) (lo:Nat) (h:JG),lo<=h.length->E lo 35 [.list .no (JJ l),.v (.bool top)] h=some (.v (.bool (GO l top)),h)
 |0,l,hn,_=>by omega
 |n+1,l,hn,hl=>by
  have hll:=JV l;refine Jd9 om λt kids hm=>?_
  have h1:JN kids+1<=JN l:=by have:=KO hm;rw[Qj]at this;have e:(CV.mk t kids).ks=kids:=rfl;rw[e]at this;omega
  exact f35 n kids om om false
theorem JXw(k:Int)(top:Bool):JUl k top=(JRa k||(k==17&&top)):=by unfold JUl JRa;cases k==6<;>cases k==8<;>cases k==20<;>cases k==22<;>cases k==24<;>rfl
mutual
theorem JRb:∀(v:CV) (top:Bool),K8 v top= !(JLw v top||JAL v)
 | .mk t kids,top=>by rw[JLv,JPK,JXw,JAL,JAM kids false];cases JRa t.k<;>cases(t.k==17&&top)<;>cases qp t<;>cases qK kids<;>cases GO kids false<;>cases WL kids<;>rfl
theorem JAM:∀(l:List CV) (top:Bool),KG l top= !(GO l top||WL l)
 |[],top=>by rw[KG,JLx,WL]<;>rfl
 |v::r,top=>by rw[KG,JHm,WL,JRb v top,JAM r top];cases JLw v top<;>cases GO r top<;>cases JAL v<;>cases WL r<;>rfl
end
end Go.Lift.Y1
end

section
namespace Go.Lift.Rul
def GG(k:Int)(n:Nat):Bool:=
 if(k==2||k==4||k==6||k==7)=true then decide ((n:Int)>=1)
 else if(k==3||k==5)=true then((n:Int)==1)
 else if(k==8)=true then((n:Int)==3)
 else false
mutual
def Y4:X->Int->Bool
 | .mk k n d u kids,dep=>
  if dep>340 then false
  else if(k==1)=true then kids.length==0&&(Spell.y0 n d&&(decide (u>=0)&&decide (u<=7)))
  else if(!(n==0&&d==0)||u !=0)=true then false
  else GG k kids.length&&HA kids (dep+1)
def HA:List X->Int->Bool
 |[],_=>true
 |x::r,dep=>Y4 x dep&&HA r dep
end
mutual
def QS:X->Int
 | .mk k n d u kids=>
  if(k==1)=true then(if(u==0)=true then 1 else 2)
  else match Ht kids 0 with
   |none=>0
   |some c=>if(c==0)=true then 1 else if((k==4&&c==1)||(k !=4&&(k !=5&&c==(kids.length:Int))))=true then 2 else 0
def Ht:List X->Int->Option Int
 |[],c=>some c
 |x::r,c=>if(QS x==0)=true then none else Ht r (if(QS x==2)=true then c+1 else c)
end
theorem zA:∀x:X,QS x=0\/QS x=1\/QS x=2
 | .mk k n d u kids=>by
  unfold QS
  split
  ·split<;>simp
  ·split
   ·simp
   ·split
    ·simp
    ·split<;>simp
mutual
def Yn:X->Prop
 | .mk k n d u kids=>((-9223372036854775808<=n/\n<=9223372036854775807)/\d<=9223372036854775807)/\kids.length<=100000000/\Q3 kids
def Q3:List X->Prop
 |[]=>True
 |x::r=>Yn x/\Q3 r
end
theorem JLy:∀{a b:List X},Q3 a->Q3 b->Q3 (a++b)
 |[],_,_,h=>h
 |x::r,b,ha,hb=>by rw[Q3]at ha;rw[AA,Q3];exact⟨ha.1,JLy ha.2 hb⟩
end Go.Lift.Rul
end

section
open Go.Proofs
namespace Go.Lift.Y1
open Rul
open Utf (By)
variable{lo:Nat}{h:JG}
theorem zB(l:List X)(k:Nat):(GL l)[k]? =(l[k]?).map xC:=by rw[Hg,An]
theorem JJ1(k n d u dep:Int)(kids:List X):Y4 (.mk k n d u kids) dep=(if dep>340 then false
  else if(k==1)=true then kids.length==0&&(Spell.y0 n d&&(decide (u>=0)&&decide (u<=7)))
  else if(!(n==0&&d==0)||u !=0)=true then false
  else GG k kids.length&&HA kids (dep+1)):=by rw[Y4]
abbrev N99(h:JG)(dep:Int)(n:Nat)(ok:Bool)(i:Int):Jl:=[(1,.v (.int .i64 dep)),(2,.ptr h.length 0),(5,.v (.int .i64 n)),(6,.v (.bool ok)),(7,.v (.int .i64 i))]
section
variable{k n d u dep:Int}{kids:List X}
theorem Jr7{x:X}{i:Nat}(hlo:lo<=h.length)(hl:kids.length<=100000000)(hd:0<=dep/\dep<=340)(hg:kids[i]? =some x)
  (hx:∀lo h,lo<=h.length->E lo 120 [.agg (xC x),.v (.int .i64 (dep+1))] h=some (.v (.bool (Y4 x (dep+1))),h)):
  evCode ⟨Aa,E,lo,h.length,JQy⟩ JA jS (N99 h dep kids.length true i,h++[.cells (xC (.mk k n d u kids))])=some (.normal,N99 h dep kids.length (Y4 x (dep+1)) (i+1:Nat),h++[.cells (xC (.mk k n d u kids))]):=by
 have l1:lo<=h.length+1:=om;have hlt:i<kids.length:=(Ab.1 hg).1
 have hgr:(GL kids)[i]? =some (xC x):=by rw[zB,hg]<;>rfl
 have q1:decide ((i:Int)<(kids.length:Int))=true:=by rw[decide_eq_true_iff];omega
 have t1:Int.toNat (i:Int)=i:=om;have hwr:=JM (i:=i) om;have hwd:Am.wrap (dep+1)=dep+1:=JW om om;obtain⟨ek,en,ed,eu,el⟩:=x;simp only[JR]at hx hgr⊢;simp only[N99,go_sem,jS,Gq,Tryz.f120,hlo,l1,hgr,q1,t1,hwr,hwd,hx]<;>rfl
theorem Jr8{i:Nat}(hlo:lo<=h.length)(hg:i=kids.length)(ok:Bool):
  evCode ⟨Aa,E,lo,h.length,JQy⟩ JA jS (N99 h dep kids.length ok i,h++[.cells (xC (.mk k n d u kids))])=some (.exit 1,N99 h dep kids.length ok i++[(65,.v (.bool false))],h++[.cells (xC (.mk k n d u kids))]):=by
 have l1:lo<=h.length+1:=om;have q1:decide ((i:Int)<(kids.length:Int))=false:=by rw[decide_eq_false_iff_not];omega
 simp only[N99,JR,go_sem,jS,Gq,Tryz.f120,hlo,l1,q1]<;>rfl
theorem Jr9{i:Nat}(hlo:lo<=h.length)(hg:i<kids.length):
  evCode ⟨Aa,E,lo,h.length,JQy⟩ JA jS (N99 h dep kids.length false i,h++[.cells (xC (.mk k n d u kids))])=some (.exit 1,N99 h dep kids.length false i++[(65,.v (.bool false))],h++[.cells (xC (.mk k n d u kids))]):=by
 have l1:lo<=h.length+1:=om;have q1:decide ((i:Int)<(kids.length:Int))=true:=by rw[decide_eq_true_iff];omega
 simp only[N99,JR,go_sem,jS,Gq,Tryz.f120,hlo,l1,q1]<;>rfl
theorem JC6{i:Nat}{x:X}{dep:Int}(hg:kids[i]? =some x):HA (kids.drop i) dep=(Y4 x dep&&HA (kids.drop (i+1)) dep):=by
 obtain⟨hlt,rfl⟩:=Ab.1 hg
 rw[Av hlt,HA]
def P99(x:X):Prop:=∀(dep:Int) (lo:Nat) (h:JG),0<=dep->dep<=341->lo<=h.length->E lo 120 [.agg (xC x),.v (.int .i64 dep)] h=some (.v (.bool (Y4 x dep)),h)
theorem JPM(hlo:lo<=h.length)(hl:kids.length<=100000000)(hd:0<=dep/\dep<=340)(hk:∀x∈kids,P99 x):∀(m i:Nat) (ok:Bool),i+m=kids.length->
  ∃j:Int,JA (evCode ⟨Aa,E,lo,h.length,JQy⟩ JA jS) (N99 h dep kids.length ok i,h++[.cells (xC (.mk k n d u kids))])=some (.exit 1,N99 h dep kids.length (ok&&HA (kids.drop i) (dep+1)) j++[(65,.v (.bool false))],h++[.cells (xC (.mk k n d u kids))])
 |0,i,ok,hm=>by
  have hi:i=kids.length:=om;refine⟨i,?_⟩
  rw[JB,Jr8 hlo hi ok,Jx,hi,A0,HA,B7]
 |m+1,i,ok,hm=>by
  have hlt:i<kids.length:=om
  cases ok with
  |false=>
   refine⟨i,?_⟩
   rw[JB,Jr9 hlo hlt,Jx,As]
  |true=>
   have hg:=Ac hlt
   obtain⟨j,ih⟩:=JPM hlo hl hd hk m (i+1) (Y4 kids[i] (dep+1)) om;refine⟨j,?_⟩
   rw[JB,Jr7 hlo hl hd hg (λlo h hlo=>hk _ (AW hlt) (dep+1) lo h om om hlo),JO,ih,JC6 hg,Aw]
theorem JkY(hlo:lo<=h.length)(hl:kids.length<=100000000)(hd0:0<=dep)(hd1:dep<=340)(hk:∀x∈kids,P99 x)(h1:(k==1)=false):
  E lo 120 [.agg (xC (.mk k 0 0 0 kids)),.v (.int .i64 dep)] h=some (.v (.bool (GG k kids.length&&HA kids (dep+1))),h):=by
 have l1:lo<=h.length+1:=om;have d1:decide (340<dep)=false:=by rw[decide_eq_false_iff_not];omega
 have e:=Gs 0 0 0 0;obtain⟨j,hL⟩:=JPM (k:=k) (n:=0) (d:=0) (u:=0) (dep:=dep) (h:=h) hlo hl ⟨hd0,hd1⟩ hk kids.length 0 (GG k kids.length) om;rw[AD]at hL;simp only[show((0:Nat):Int)=0 from rfl]at hL
 rw[JUK];unfold GG at hL⊢;have z0:((0:Int)==0&&(0:Int)==0)=true:=rfl;have z1:((0:Int) !=0)=false:=rfl;rw[z0]at e;simp only[jS,Gq,Tryz.f120,JK,loops,JC,N99,JR,go_sem]at hL;simp only[JR]
 cases q2:k==2 with
 |true=>
  simp only[q2,Bp,if_true]at hL⊢
  simp only[go_sem,Gq,Tryz.f120,hlo,l1,d1,h1,QW,e,z1,q2,Ji,hL]<;>rfl
 |false=>
  cases q4:k==4 with
  |true=>
   simp only[q2,q4,Bp,A3,if_true]at hL⊢
   simp only[go_sem,Gq,Tryz.f120,hlo,l1,d1,h1,QW,e,z1,q2,q4,Ji,hL]<;>rfl
  |false=>
   cases q6:k==6 with
   |true=>
    simp only[q2,q4,q6,Bp,A3,if_true]at hL⊢
    simp only[go_sem,Gq,Tryz.f120,hlo,l1,d1,h1,QW,e,z1,q2,q4,q6,Ji,hL]<;>rfl
   |false=>
    cases q7:k==7 with
    |true=>
     simp only[q2,q4,q6,q7,Bp,A3,if_true]at hL⊢
     simp only[go_sem,Gq,Tryz.f120,hlo,l1,d1,h1,QW,e,z1,q2,q4,q6,q7,Ji,hL]<;>rfl
    |false=>
     cases q3:k==3 with
     |true=>
      simp only[q2,q4,q6,q7,q3,Bp,A3,if_true,Al,if_false]at hL⊢
      simp only[go_sem,Gq,Tryz.f120,hlo,l1,d1,h1,QW,e,z1,q2,q4,q6,q7,q3,Ji,hL]<;>rfl
     |false=>
      cases q5:k==5 with
      |true=>
       simp only[q2,q4,q6,q7,q3,q5,Bp,A3,if_true,Al,if_false]at hL⊢
       simp only[go_sem,Gq,Tryz.f120,hlo,l1,d1,h1,QW,e,z1,q2,q4,q6,q7,q3,q5,Ji,hL]<;>rfl
      |false=>
       cases q8:k==8 with
       |true=>
        simp only[q2,q4,q6,q7,q3,q5,q8,Bp,A3,if_true,Al,if_false]at hL⊢
        simp only[go_sem,Gq,Tryz.f120,hlo,l1,d1,h1,QW,e,z1,q2,q4,q6,q7,q3,q5,q8,Ji,hL]<;>rfl
       |false=>simp only[q2,q4,q6,q7,q3,q5,q8,Bp,A3,if_true,Al,if_false]at hL⊢;simp only[go_sem,Gq,Tryz.f120,hlo,l1,d1,h1,QW,e,z1,q2,q4,q6,q7,q3,q5,q8,Ji,hL]<;>rfl
theorem JkZ(hl:kids.length<=100000000)(hn:(-9223372036854775808<=n/\n<=9223372036854775807)/\d<=9223372036854775807)(hk:∀x∈kids,P99 x):P99 (.mk k n d u kids):=by
 intro dep lo h hd0 hd1 hlo;have l1:lo<=h.length+1:=om;rw[JJ1];by_cases hd:dep>340
 ·have d1:decide (340<dep)=true:=by rw[decide_eq_true_iff];omega
  rw[if_pos hd,JUK,JR];simp only[go_sem,Gq,Tryz.f120,hlo,l1,d1]<;>rfl
 have d1:decide (340<dep)=false:=by rw[decide_eq_false_iff_not];omega
 rw[if_neg hd]
 cases h1:k==1 with
 |true=>
  rw[if_pos rfl];have hz:(((kids.length:Nat):Int)==0)=(kids.length==0):=by rw[Bool.eq_iff_iff,beq_iff_eq,beq_iff_eq];omega
  have c136:=λlo h hlo=>f136 (lo:=lo) (h:=h) hn.1.1 hn.1.2 hn.2 hlo
  rw[JUK,JR]
  cases q1:kids.length==0 with
  |false=>
   rw[q1]at hz
   simp only[go_sem,Gq,Tryz.f120,hlo,l1,d1,h1,Ji,hz,As]<;>rfl
  |true=>
   rw[q1]at hz
   cases q2:Spell.y0 n d with
   |false=>
    rw[q2]at c136
    simp only[go_sem,Gq,Tryz.f120,hlo,l1,d1,h1,Ji,hz,c136,As,Aw]<;>rfl
   |true=>
    rw[q2]at c136
    cases q3:decide (u>=0)with
    |false=>
     have q3':decide (0<=u)=false:=q3
     simp only[go_sem,Gq,Tryz.f120,hlo,l1,d1,h1,Ji,hz,c136,q3',As,Aw]<;>rfl
    |true=>
     have q3':decide (0<=u)=true:=q3
     simp only[go_sem,Gq,Tryz.f120,hlo,l1,d1,h1,Ji,hz,c136,q3',As,Aw]<;>rfl
 |false=>
  rw[if_neg (by simp)]
  have e:=Gs n d 0 0
  cases q1:(n==0&&d==0)with
  |false=>
   rw[q1]at e;rw[if_pos (by simp),JUK,JR]
   simp only[go_sem,Gq,Tryz.f120,hlo,l1,d1,h1,Ji,QW,e,A5]<;>rfl
  |true=>
   cases q2:u !=0 with
   |true=>
    rw[q1]at e;rw[if_pos (by simp),JUK,JR]
    simp only[go_sem,Gq,Tryz.f120,hlo,l1,d1,h1,Ji,QW,e,q2,AN]<;>rfl
   |false=>
    rw[if_neg (by simp)]
    simp only[Af,beq_iff_eq]at q1;obtain⟨rfl,rfl⟩:=q1;obtain rfl:u=0:=by simpa using q2
    exact JkY hlo hl hd0 om hk h1
end
mutual
theorem JZO:∀(x:X),Yn x->P99 x
 | .mk k n d u kids,h=>by rw[Yn]at h;exact JkZ h.2.1 h.1 (JZP kids h.2.2)
theorem JZP:∀(l:List X),Q3 l->∀x∈l,P99 x
 |[],_=>λx hx=>nomatch hx
 |y::r,h=>by rw[Q3]at h;exact CW.2 ⟨JZO y h.1,JZP r h.2⟩
end
theorem f93{x:X}(hlo:lo<=h.length)(hx:Yn x):E lo 93 [.agg (xC x)] h=some (.v (.bool (Y4 x 1)),h):=by
 have c120:=λlo h hlo=>JZO x hx 1 lo h om om hlo
 have l1:lo<=h.length+1:=om;generalize Y4 x 1=b at c120⊢;obtain⟨k,n,d,u,kids⟩:=x;simp only[JR]at c120⊢;rw[e93];simp only[go_sem,b93,Tryz.f93,hlo,l1,c120]<;>rfl
theorem zC(k n d u:Int)(kids:List X):QS (.mk k n d u kids)=(if(k==1)=true then(if(u==0)=true then 1 else 2)
  else match Ht kids 0 with
   |none=>0
   |some c=>if(c==0)=true then 1 else if((k==4&&c==1)||(k !=4&&(k !=5&&c==(kids.length:Int))))=true then 2 else 0):=by rw[QS];all_goals rfl
def P74(x:X):Prop:=∀(lo:Nat) (h:JG),lo<=h.length->E lo 94 [.agg (xC x)] h=some (.v (.int .i64 (QS x)),h)
abbrev N74(h:JG)(kids:List X)(c i:Int):Jl:=[(1,.ptr h.length 0),(3,.v (.int .i64 c)),(13,.list .no (GL kids)),(14,.v (.int .i64 kids.length)),(15,.v (.int .i64 i))]
section
variable{k n d u:Int}{kids:List X}
theorem r94{x:X}{i:Nat}{c:Int}(hlo:lo<=h.length)(hl:kids.length<=100000000)(hc:0<=c/\c<=1000000000)(hg:kids[i]? =some x)(hx:P74 x):
  evCode ⟨Aa,E,lo,h.length,h94⟩ JA qJ (N74 h kids c i,h++[.cells (xC (.mk k n d u kids))])=
   if(QS x==0)=true then some (.ret,[(2,.v (.int .i64 0))],h++[.cells (xC (.mk k n d u kids)),.cells (xC x)])
   else some (.normal,N74 h kids (if(QS x==2)=true then c+1 else c) (i+1:Nat),h++[.cells (xC (.mk k n d u kids))]):=by
 have l1:lo<=h.length+1:=om;have l2:lo<=h.length+1+1:=om;have hlt:i<kids.length:=(Ab.1 hg).1
 have hgr:(GL kids)[i]? =some (xC x):=by rw[zB,hg]<;>rfl
 have q1:decide ((i:Int)<(kids.length:Int))=true:=by rw[decide_eq_true_iff];omega
 have t1:Int.toNat (i:Int)=i:=om;have hwr:=JM (i:=i) om;have hwc:Am.wrap (c+1)=c+1:=JW om om;unfold P74 at hx;generalize QS x=K at hx⊢;obtain⟨ek,en,ed,eu,el⟩:=x;simp only[JR]at hx hgr⊢
 cases k0:K==0 with
 |true=>
  rw[if_pos rfl]
  simp only[N74,go_sem,qJ,b94,Tryz.f94,hlo,l1,l2,hgr,q1,t1,hwr,hx,k0]<;>rfl
 |false=>
  rw[if_neg (by simp)]
  cases k2:K==2 with
  |true=>
   rw[if_pos rfl]
   simp only[N74,go_sem,qJ,b94,Tryz.f94,hlo,l1,l2,hgr,q1,t1,hwr,hwc,hx,k0,k2]<;>rfl
  |false=>
   rw[if_neg (by simp)]
   simp only[N74,go_sem,qJ,b94,Tryz.f94,hlo,l1,l2,hgr,q1,t1,hwr,hx,k0,k2]<;>rfl
theorem s74{c:Int}(hlo:lo<=h.length):
  evCode ⟨Aa,E,lo,h.length,h94⟩ JA qJ (N74 h kids c (kids.length:Nat),h++[.cells (xC (.mk k n d u kids))])=some (.exit 0,N74 h kids c (kids.length:Nat)++[(16,.v (.bool false))],h++[.cells (xC (.mk k n d u kids))]):=by
 have l1:lo<=h.length+1:=om;have q1:decide ((kids.length:Int)<(kids.length:Int))=false:=by rw[decide_eq_false_iff_not];omega
 simp only[N74,JR,go_sem,qJ,b94,Tryz.f94,hlo,l1,q1]<;>rfl
theorem JRd{i:Nat}{x:X}{c:Int}(hg:kids[i]? =some x):Ht (kids.drop i) c=if(QS x==0)=true then none else Ht (kids.drop (i+1)) (if(QS x==2)=true then c+1 else c):=by
 obtain⟨hlt,rfl⟩:=Ab.1 hg
 rw[Av hlt,Ht]
theorem JUm(hlo:lo<=h.length)(hl:kids.length<=100000000)(hk:∀x∈kids,P74 x):∀(m i:Nat) (c:Int),i+m=kids.length->0<=c->c+m<=1000000000->
  match Ht (kids.drop i) c with
  |none=>∃x,JA (evCode ⟨Aa,E,lo,h.length,h94⟩ JA qJ) (N74 h kids c i,h++[.cells (xC (.mk k n d u kids))])=some (.ret,[(2,.v (.int .i64 0))],h++[.cells (xC (.mk k n d u kids)),.cells (xC x)])
  |some c'=>JA (evCode ⟨Aa,E,lo,h.length,h94⟩ JA qJ) (N74 h kids c i,h++[.cells (xC (.mk k n d u kids))])=some (.exit 0,N74 h kids c' (kids.length:Nat)++[(16,.v (.bool false))],h++[.cells (xC (.mk k n d u kids))])
 |0,i,c,hm,h0,h1=>by
  obtain rfl:i=kids.length:=om;rw[A0,Ht];show JA _ _=_
  rw[JB,s74 hlo,Jx]
 |m+1,i,c,hm,h0,h1=>by
  have hlt:i<kids.length:=om;have hg:=Ac hlt
  rw[JRd hg];by_cases q0:(QS kids[i]==0)=true
  ·rw[if_pos q0]
   exact⟨kids[i],by rw[JB,r94 hlo hl ⟨h0,om⟩ hg (hk _ (AW hlt)),if_pos q0,Kh]⟩
  ·rw[if_neg q0,JB,r94 hlo hl ⟨h0,om⟩ hg (hk _ (AW hlt)),if_neg q0,JO]
   exact JUm hlo hl hk m (i+1) _ om (by split<;>omega) (by split<;>omega)
theorem JsA(hl:kids.length<=100000000)(hk:∀x∈kids,P74 x):P74 (.mk k n d u kids):=by
 intro lo h hlo;have l1:lo<=h.length+1:=om;rw[zC,e94]
 cases h1:k==1 with
 |true=>
  rw[if_pos rfl]
  cases h2:u==0 with
  |true=>
   rw[if_pos rfl,JR]
   simp only[go_sem,b94,Tryz.f94,hlo,l1,h1,h2]<;>rfl
  |false=>
   rw[if_neg (by simp),JR]
   simp only[go_sem,b94,Tryz.f94,hlo,l1,h1,h2]<;>rfl
 |false=>
  rw[if_neg (by simp)]
  have hL:=JUm (k:=k) (n:=n) (d:=d) (u:=u) (lo:=lo) (h:=h) hlo hl hk kids.length 0 0 om om om;rw[AD]at hL;simp only[show((0:Nat):Int)=0 from rfl]at hL
  cases hx:Ht kids 0 with
  |none=>
   rw[hx]at hL;obtain⟨⟨ek,en,ed,eu,el⟩,hL⟩:=hL;simp only[qJ,b94,Tryz.f94,JK,loops,JC,N74,JR,go_sem]at hL
   simp only[JR,go_sem,b94,Tryz.f94,hlo,l1,h1,Ji,hL]<;>rfl
  |some c=>
   rw[hx]at hL;simp only;simp only[qJ,b94,Tryz.f94,JK,loops,JC,N74,JR,go_sem]at hL
   cases q0:c==0 with
   |true=>
    rw[if_pos rfl]
    simp only[JR,go_sem,b94,Tryz.f94,hlo,l1,h1,Ji,hL,q0]<;>rfl
   |false=>
    rw[if_neg (by simp)]
    have n4:(k !=4)= !(k==4):=rfl;have n5:(k !=5)= !(k==5):=rfl;rw[n4,n5]
    cases q4:k==4 with
    |true=>
     rw[q4]at n4
     cases q1:c==1 with
     |true=>
      rw[if_pos (by simp)]
      simp only[JR,go_sem,b94,Tryz.f94,hlo,l1,h1,Ji,hL,q0,q4,q1]<;>rfl
     |false=>
      rw[if_neg (by simp)]
      simp only[JR,go_sem,b94,Tryz.f94,hlo,l1,h1,Ji,hL,q0,q4,q1,n4,AN]<;>rfl
    |false=>
     rw[q4]at n4
     cases q5:k==5 with
     |true=>
      rw[q5]at n5;rw[if_neg (by simp)]
      simp only[JR,go_sem,b94,Tryz.f94,hlo,l1,h1,Ji,hL,q0,q4,n4,n5,AN,A5]<;>rfl
     |false=>
      rw[q5]at n5
      cases q6:c==(kids.length:Int)with
      |true=>
       rw[if_pos (by simp)]
       simp only[JR,go_sem,b94,Tryz.f94,hlo,l1,h1,Ji,hL,q0,q4,n4,n5,q6,AN,A5]<;>rfl
      |false=>
       rw[if_neg (by simp)]
       simp only[JR,go_sem,b94,Tryz.f94,hlo,l1,h1,Ji,hL,q0,q4,n4,n5,q6,AN,A5]<;>rfl
end
mutual
theorem Jka:∀(x:X),Yn x->P74 x
 | .mk k n d u kids,h=>by rw[Yn]at h;exact JsA h.2.1 (Jkb kids h.2.2)
theorem Jkb:∀(l:List X),Q3 l->∀x∈l,P74 x
 |[],_=>λx hx=>nomatch hx
 |y::r,h=>by rw[Q3]at h;exact CW.2 ⟨Jka y h.1,Jkb r h.2⟩
end
def jY(x:X):Int×Int:=if Y4 x 1=true then(if(QS x==0)=true then(0,4)else(QS x,0))else(0,1)
theorem f64{x:X}(hlo:lo<=h.length)(hx:Yn x):E lo 64 [.agg (xC x)] h=some (.tup [.v (.int .i64 (jY x).1),.v (.int .i64 (jY x).2)],h):=by
 have l1:lo<=h.length+1:=om;have c93:=λlo h hlo=>f93 (lo:=lo) (h:=h) hlo hx
 have c94:=Jka x hx;unfold P74 at c94;unfold jY;generalize Y4 x 1=b at c93⊢;generalize QS x=K at c94⊢;obtain⟨k,n,d,u,kids⟩:=x;simp only[JR]at c93 c94⊢;rw[e64]
 cases b with
 |false=>
  rw[if_neg (by simp)]
  simp only[go_sem,b64,Tryz.f64,hlo,l1,c93,c94]<;>rfl
 |true=>
  rw[if_pos rfl]
  cases q:K==0 with
  |true=>
   rw[if_pos rfl]
   simp only[go_sem,b64,Tryz.f64,hlo,l1,c93,c94,q]<;>rfl
  |false=>
   rw[if_neg (by simp)]
   simp only[go_sem,b64,Tryz.f64,hlo,l1,c93,c94,q]<;>rfl
end Go.Lift.Y1
end

section
open Go.Proofs
namespace Go.Lift.Y1
open Rul
open Utf (By)
theorem Q4:Yn Jt:=by unfold Jt;rw[Yn,Q3];exact⟨om,by simp,trivial⟩
theorem JPN{n d u:Int}(h:(-9223372036854775808<=n/\n<=9223372036854775807)/\d<=9223372036854775807):Yn (JA6 n d u):=by
 unfold JA6
 split
 ·rw[Yn,Q3];exact⟨h,by simp,trivial⟩
 ·rw[Yn,Q3];exact⟨om,by simp,trivial⟩
theorem JXx{k:Int}{e:X}(h:Yn e):Yn (.mk k 0 0 0 [e]):=by rw[Yn,Q3,Q3];exact⟨om,by simp,h,trivial⟩
theorem JN3{k:Int}{ks:List X}(h:Q3 ks)(hl:ks.length<=100000000):Yn (KC (.mk k 0 0 0 ks)):=by
 match ks,h,hl with
 |[],h,hl=>show Yn (.mk k 0 0 0 []);rw[Yn];exact⟨by omega,hl,h⟩
 |[e],h,hl=>show Yn e;rw[Q3]at h;exact h.1
 |e::f::r,h,hl=>show Yn (.mk k 0 0 0 (e::f::r));rw[Yn];exact⟨by omega,hl,h⟩
theorem JHn{step:Nat->X×Bool×Nat}{sg:Nat->Option Bool×Nat}{inv:Int}(hs:∀a,Yn (step a).1):∀(f a:Nat) (ks:List X),Q3 ks->
  match KP step sg inv f a ks with
  | .inl (e,_)=>Yn e
  | .inr (ks',_)=>Q3 ks'
 |0,a,ks,h=>by unfold KP;exact h
 |f+1,a,ks,h=>by
  unfold KP;generalize sg a=r;obtain⟨o,a1⟩:=r
  cases o with
  |none=>exact h
  |some b=>
   have h2:=hs a1;simp only;generalize step a1=t at h2⊢;obtain⟨e,ok,a2⟩:=t
   cases ok with
   |false=>exact h2
   |true=>
    refine JHn hs f a2 _ (JLy h ?_)
    rw[Q3,Q3];refine⟨?_,trivial⟩
    cases b with
    |true=>exact JXx h2
    |false=>exact h2
theorem JHo{step:Nat->X×Bool×Nat}{sg:Nat->Option Bool×Nat}{kind inv:Int}{f a:Nat}(hs:∀a,Yn (step a).1)(hf:f<=10000000):Yn (Q1 step sg kind inv f a).1:=by
 have h1:=hs a;unfold Q1;generalize step a=t at h1⊢;obtain⟨e,ok,a1⟩:=t
 cases ok with
 |false=>exact h1
 |true=>
  simp only;have h2:=JHn (sg:=sg) (inv:=inv) hs f a1 [e] (by rw[Q3,Q3];exact⟨h1,trivial⟩)
  have h3:=kR (step:=step) (sg:=sg) (inv:=inv) f a1 [e];generalize KP step sg inv f a1 [e]=r at h2 h3⊢
  match r,h2,h3 with
  | .inl (e',_),h2,_=>exact h2
  | .inr (ks',a'),h2,h3=>exact JN3 h2 (by have:=h3 ks' a' rfl;simp at this;omega)
theorem JC7{w:List CV->X×Bool}:∀{ps:List (List CV)} {xs:List X},(∀p∈ps,Yn (w p).1)->QX w ps=some xs->Q3 xs
 |[],xs,_,h=>by cases h;rw[Q3];trivial
 |p::r,xs,hw,h=>by
  have h1:=hw p (List.mem_cons_self ..);unfold QX at h
  split at h
  ·cases h
  ·rename_i e he
   obtain⟨ys,hy,rfl⟩:=Option.map_eq_some_iff.1 h;rw[he]at h1;rw[Q3];exact⟨h1,JC7 (λp hp=>hw p (List.mem_cons_of_mem _ hp)) hy⟩
theorem JC8{w:List CV->X×Bool}{K:Int}{kids:List CV}(hl:JN kids<=10000000)(hw:∀p∈J4 kids,Yn (w p).1):Yn (Yi K w kids).1:=by
 have hln:=JV kids;have hsl:=GC [] kids;unfold Yi
 cases hx:QX w (J4 kids)with
 |none=>exact Q4
 |some xs=>
  have:=Hh hx;unfold J4 at this;show Yn (.mk K 0 0 0 xs)
  rw[Yn];exact⟨om,om,JC7 hw hx⟩
theorem JLz{w:List CV->X×Bool}{v:CV}(hv:YQ v)(hl:Kj v<=10000000)(h1:Yn (w v.ks).1)(h2:∀p∈J4 v.ks,Yn (w p).1):Yn (KJ w v).1:=by
 obtain⟨t,kids⟩:=v;have hk:=Wt (.mk t kids);have ht:=qy hv;have hkl:JN kids<=10000000:=by have:(CV.mk t kids).ks=kids:=rfl;rw[this]at hk;omega
 unfold KJ;simp only
 split
 ·exact JPN ⟨ht.2.2.1,ht.2.2.2.2⟩
 ·split
  ·exact JPN ⟨ht.2.2.1,ht.2.2.2.2⟩
  ·split
   ·split
    ·exact h1
    ·split
     ·exact JC8 hkl h2
     ·split
      ·exact JC8 hkl h2
      ·split
       ·exact JC8 hkl h2
       ·exact Q4
   ·exact Q4
theorem kT:∀(n:Nat) (l:List CV),JN l<=2000000->QG l->Yn (Ki n l).1
 |0,l,_,_=>Q4
 |n+1,l,hl,ho=>by
  have hll:=JV (Jh l);have htl:=Kf l
  have hop:∀a,Yn (J5 (zZ (Ki n)) (Jh l) a).1:=λa=>by
   unfold J5
   cases hg:(Jh l)[a]? with
   |none=>exact Q4
   |some v=>
    have hm:=KH (Aj hg);have hv:=Kb ho v hm;have hn:=KO hm;have hk:=Wt v;have a1:=kT n v.ks om (Gf hv);show Yn (zZ (Ki n) v).1
    unfold zZ
    split
    ·exact a1
    ·exact JLz hv om a1 λp hp=>kT n p (by have:=K2 hp;omega) (G9 (Gf hv) hp)
  exact JHo (λa=>JHo hop om) om
theorem JAN{n:Nat}{l:List CV}(hl:JN l<=2000000)(ho:QG l):Yn (Jo n l).1:=by
 unfold Jo
 split
 ·have hm:∀v∈Jh l,YQ v/\Kj v<=JN l:=λv hv=>⟨Kb ho v (KH hv),KO (KH hv)⟩
  generalize Jh l=L at hm⊢
  match L,hm with
  |[],_=>exact Q4
  |[v],hm=>
   have hv:=hm v (List.mem_singleton.2 rfl);have hk:=Wt v;have h1:=JLz (w:=Ki n) hv.1 om (kT n v.ks om (Gf hv.1)) λp hp=>kT n p (by have:=K2 hp;omega) (G9 (Gf hv.1) hp)
   simp only;unfold JLp;generalize KJ (Ki n) v=r at h1⊢;obtain⟨e,b⟩:=r
   cases b with
   |true=>exact h1
   |false=>exact Q4
  |v::u::r,_=>exact Q4
 ·exact Q4
end Go.Lift.Y1
end

section
open Go.Proofs
namespace Go.Lift.Y1
open Rul
open Utf (By)
variable{lo:Nat}{h:JG}
def GQ(kind:Int)(x:X)(word:ByteArray)(toks:List (List V)):List V:=[.v (.int .i64 kind)]++xC x++[.v (.string word),.list .no toks]
theorem Q9(kind k n d u:Int)(kids:List X)(word:ByteArray)(toks:List (List V)):GQ kind (.mk k n d u kids) word toks=[.v (.int .i64 kind),.v (.int .i64 k),.v (.int .i64 n),.v (.int .i64 d),.v (.int .i64 u),.list .no (GL kids),.v (.string word),.list .no toks]:=by unfold GQ;rw[JR]<;>rfl
def HB(l:List CV):Bool:=match l with
 |[.mk t _]=>t.k==10&&(t.n==0&&t.d==1)
 |_=>false
def JL0:X->Int
 | .mk _ n _ _ _=>n
def QO(k:Int)(low:Bool)(n:Nat)(l:List CV):Option X:=
 if(k==3)=true then none
 else if(k==1&&HB l)=true then some (.mk 1 0 1 1 [])
 else if((Jo n l).2 !=0)=true then none
 else if((jY (Jo n l).1).1 !=(if(k==1)=true then 2 else 1))=true then none
 else if(!low&&((Jo n l).1.k==1&&decide (JL0 (Jo n l).1<0)))=true then none
 else some (Jo n l).1
def Hw:Option X->List V×Int
 |none=>(GQ 0 Jt ⟨#[]⟩ [],3)
 |some x=>(GQ 1 x ⟨#[]⟩ [],0)
section
variable{nm:ByteArray}{k:Int}{dn low:Bool}{ws:List ByteArray}{ck a b:Int}{w:ByteArray}{l:List CV}{n:Nat}
theorem JsB(hlo:lo<=h.length)(hk:(k==3)=true):E lo 30 [.agg (JL nm k dn low ws ck a b w),.list .no (JJ l)] h=some (.tup [.agg (Hw none).1,.v (.int .i64 (Hw none).2)],h):=by have l1:lo<=h.length+1:=om;unfold Hw Jt;simp only[Q9,Jc];rw[e30];simp only[JL,go_sem,b30,Tryz.f30,hlo,l1,hk]<;>rfl
theorem JsC(hlo:lo<=h.length)(hk:(k==3)=false)(k1:(k==1)=true)(hz:HB l=true):E lo 30 [.agg (JL nm k dn low ws ck a b w),.list .no (JJ l)] h=some (.tup [.agg (Hw (some (.mk 1 0 1 1 []))).1,.v (.int .i64 (Hw (some (.mk 1 0 1 1 []))).2)],h):=by
 have l1:lo<=h.length+1:=om;have l2:lo<=h.length+1+1:=om
 match l,hz with
 |[.mk t kids],hz=>unfold HB at hz;simp only[Af]at hz;obtain⟨z1,z2,z3⟩:=hz;have e:=Gs t.n t.d 0 1;rw[z2,z3]at e;have q1':((1:Int)==1)=true:=rfl;have q1:(((0+1:Nat):Int)==1)=true:=rfl;unfold Hw;simp only[Q9,Jc];rw[e30,JZ,JX,JP];simp only[JL,go_sem,b30,Tryz.f30,hlo,l1,l2,hk,k1,q1,q1',z1,QW,e,Ae,Ai,B7]<;>rfl
noncomputable abbrev X38(lo:Nat)(h:JG):Go.Lift.Cx:=⟨Aa,E,lo,h.length,h30⟩
def vZ:List V:=[.v (.int .i64 0),.v (.int .i64 0),.v (.int .i64 0),.v (.int .i64 0),.v (.int .i64 0),.list .yes [],.v (.string AQ),.list .yes []]
abbrev N38(h:JG)(l:List CV):Jl:=[(1,.list .no (JJ l)),(2,.ptr h.length 0),(4,.ptr (h.length+1) 0),(6,.ptr (h.length+2) 0),(41,.v (.bool false))]
abbrev H38(h:JG)(cs:List V):JG:=h++[.cells cs,.cells vZ,.cells [.v (.int .i64 0),.v (.int .i64 1)]]
theorem JsD(hlo:lo<=h.length)(hk:(k==3)=false)(k1:(k==1)=false):WD (X38 lo h) JA (pc b30 0 6) (QH [.agg (JL nm k dn low ws ck a b w),.list .no (JJ l)],h)=some (.normal,N38 h l,H38 h (JL nm k dn low ws ck a b w)):=by have l1:lo<=h.length+1:=om;have l2:lo<=h.length+1+1:=om;simp only[X38,N38,H38,vZ,JL,go_sem,b30,Tryz.f30,hlo,l1,l2,hk,k1]<;>rfl
theorem p38(hlo:lo<=h.length)(hk:(k==3)=false)(hz:(k==1&&HB l)=false):WD (X38 lo h) JA (pc b30 0 6) (QH [.agg (JL nm k dn low ws ck a b w),.list .no (JJ l)],h)=some (.normal,N38 h l,H38 h (JL nm k dn low ws ck a b w)):=by
 cases k1:k==1 with
 |false=>exact JsD hlo hk k1
 |true=>
  rw[k1,Aw]at hz;have l1:lo<=h.length+1:=om;have l2:lo<=h.length+1+1:=om
  match l,hz with
  |[],_=>
   have q1:(((0:Nat):Int)==1)=false:=rfl;have q1':((0:Int)==1)=false:=rfl;rw[JX]
   simp only[X38,N38,H38,vZ,JL,JX,go_sem,b30,Tryz.f30,hlo,l1,l2,hk,k1,q1,q1',Ai]<;>rfl
  |v::u::r,_=>
   have q1:(((r.length+1+1:Nat):Int)==1)=false:=by rw[beq_eq_false_iff_ne];omega
   rw[JZ,JZ]
   simp only[X38,N38,H38,vZ,JL,JZ,go_sem,b30,Tryz.f30,hlo,l1,l2,hk,k1,q1,Ae,JD]<;>rfl
  |[.mk t kids],hz=>
   have q1:(((0+1:Nat):Int)==1)=true:=rfl;have q1':((1:Int)==1)=true:=rfl;have hz':(t.k==10&&(t.n==0&&t.d==1))=false:=hz;rw[JZ,JX,JP]
   cases z1:t.k==10 with
   |false=>simp only[X38,N38,H38,vZ,JL,JZ,JX,JP,go_sem,b30,Tryz.f30,hlo,l1,l2,hk,k1,q1,q1',z1,Ae,Ai]<;>rfl
   |true=>rw[z1,Aw]at hz';have e:=Gs t.n t.d 0 1;rw[hz']at e;simp only[X38,N38,H38,vZ,JL,JZ,JX,JP,go_sem,b30,Tryz.f30,hlo,l1,l2,hk,k1,q1,q1',z1,QW,e,Ae,Ai]<;>rfl
def JJ5(kind:Int)(x:X):List V:=[.v (.int .i64 kind)]++xC x++[.v (.string AQ),.list .yes []]
theorem Hj(kind k n d u:Int)(kids:List X):JJ5 kind (.mk k n d u kids)=[.v (.int .i64 kind),.v (.int .i64 k),.v (.int .i64 n),.v (.int .i64 d),.v (.int .i64 u),.list .no (GL kids),.v (.string AQ),.list .yes []]:=by unfold JJ5;rw[JR]<;>rfl
abbrev R38(h:JG)(cs vc:List V)(e:X)(er:Int):Option (Ex×Jl×JG):=some (.ret,[(4,.ptr (h.length+1) 0),(5,.v (.int .i64 er))],h++[.cells cs,.cells vc,.cells [.v (.int .i64 0),.v (.int .i64 1)],.cells (xC e)])
theorem JsG(hlo:lo<=h.length)(hn:JN l<=n)(hl:JN l<=2000000)(ho:QG l)(hk:(k==3)=false):∃e,WD (X38 lo h) JA (pc b30 6 20) (N38 h l,H38 h (JL nm k dn low ws ck a b w))=
  (if((Jo n l).2 !=0)=true then R38 h (JL nm k dn low ws ck a b w) vZ e 3
   else if((jY (Jo n l).1).1 !=(if(k==1)=true then 2 else 1))=true then R38 h (JL nm k dn low ws ck a b w) vZ e 3
   else if(!low&&((Jo n l).1.k==1&&decide (JL0 (Jo n l).1<0)))=true then R38 h (JL nm k dn low ws ck a b w) vZ e 3
   else R38 h (JL nm k dn low ws ck a b w) (JJ5 1 (Jo n l).1) e 0):=by
 have l1:lo<=h.length+1:=om;have l2:lo<=h.length+1+1:=om;have l3:lo<=h.length+3:=om;have l4:lo<=h.length+4:=om;have c63:=λlo h hlo=>f63 (lo:=lo) (h:=h) (l:=l) (n:=n) hlo hn om ho
 have hx:=JAN (n:=n) hl ho;have c64:=λlo h hlo=>f64 (lo:=lo) (h:=h) (x:=(Jo n l).1) hlo hx
 refine⟨(Jo n l).1,?_⟩
 generalize Jo n l=r at c63 c64 hx⊢;obtain⟨x,er⟩:=r;simp only at c63 c64⊢;generalize jY x=ke at c64⊢;obtain⟨kd,ke2⟩:=ke;obtain⟨ek,en,ed,eu,el⟩:=x;simp only[JR,Hj,JL0,X.k]at c63 c64⊢
 cases qe:er !=0 with
 |true=>
  rw[if_pos rfl]
  simp only[X38,N38,H38,R38,vZ,JR,JL,go_sem,b30,Tryz.f30,hlo,l1,l2,l3,l4,hk,c63,c64,qe]<;>rfl
 |false=>
  rw[if_neg (by simp)]
  cases k1:k==1 with
  |true=>
   rw[if_pos rfl]
   cases qk:kd !=2 with
   |true=>
    rw[if_pos rfl]
    simp only[X38,N38,H38,R38,vZ,JR,JL,go_sem,b30,Tryz.f30,hlo,l1,l2,l3,l4,hk,k1,c63,c64,qe,qk]<;>rfl
   |false=>
    rw[if_neg (by simp)]
    cases low with
    |true=>
     rw[if_neg (by simp)]
     simp only[X38,N38,H38,R38,vZ,JR,JL,go_sem,b30,Tryz.f30,hlo,l1,l2,l3,l4,hk,k1,c63,c64,qe,qk]<;>rfl
    |false=>
     cases q1:ek==1 with
     |false=>
      rw[if_neg (by simp)]
      simp only[X38,N38,H38,R38,vZ,JR,JL,go_sem,b30,Tryz.f30,hlo,l1,l2,l3,l4,hk,k1,c63,c64,qe,qk,q1]<;>rfl
     |true=>
      cases q2:decide (en<0)with
      |true=>
       refine Eq.trans ?_ (if_pos (show _=true from q2)).symm
       simp only[X38,N38,H38,R38,vZ,JR,JL,go_sem,b30,Tryz.f30,hlo,l1,l2,l3,l4,hk,k1,c63,c64,qe,qk,q1,q2]<;>rfl
      |false=>
       refine Eq.trans ?_ (if_neg (λhc=>by have hc':decide (en<0)=true:=hc;rw[q2]at hc';cases hc')).symm
       simp only[X38,N38,H38,R38,vZ,JR,JL,go_sem,b30,Tryz.f30,hlo,l1,l2,l3,l4,hk,k1,c63,c64,qe,qk,q1,q2]<;>rfl
  |false=>
   rw[if_neg (show¬(false=true)by simp)]
   cases qk:kd !=1 with
   |true=>
    rw[if_pos rfl]
    simp only[X38,N38,H38,R38,vZ,JR,JL,go_sem,b30,Tryz.f30,hlo,l1,l2,l3,l4,hk,k1,c63,c64,qe,qk]<;>rfl
   |false=>
    rw[if_neg (by simp)]
    cases low with
    |true=>
     rw[if_neg (by simp)]
     simp only[X38,N38,H38,R38,vZ,JR,JL,go_sem,b30,Tryz.f30,hlo,l1,l2,l3,l4,hk,k1,c63,c64,qe,qk]<;>rfl
    |false=>
     cases q1:ek==1 with
     |false=>
      rw[if_neg (by simp)]
      simp only[X38,N38,H38,R38,vZ,JR,JL,go_sem,b30,Tryz.f30,hlo,l1,l2,l3,l4,hk,k1,c63,c64,qe,qk,q1]<;>rfl
     |true=>
      cases q2:decide (en<0)with
      |true=>
       refine Eq.trans ?_ (if_pos (show _=true from q2)).symm
       simp only[X38,N38,H38,R38,vZ,JR,JL,go_sem,b30,Tryz.f30,hlo,l1,l2,l3,l4,hk,k1,c63,c64,qe,qk,q1,q2]<;>rfl
      |false=>
       refine Eq.trans ?_ (if_neg (λhc=>by have hc':decide (en<0)=true:=hc;rw[q2]at hc';cases hc')).symm
       simp only[X38,N38,H38,R38,vZ,JR,JL,go_sem,b30,Tryz.f30,hlo,l1,l2,l3,l4,hk,k1,c63,c64,qe,qk,q1,q2]<;>rfl
theorem JPO{cs vc:List V}{e:X}{er:Int}{r:List V}(hv:vc=vZ/\r=GQ 0 Jt ⟨#[]⟩ []\/ ∃x,vc=JJ5 1 x/\r=GQ 1 x ⟨#[]⟩ []):
  fin Aa [.cell 4 41,.tmp 5] h.length (R38 h cs vc e er)=some (.tup [.agg r,.v (.int .i64 er)],h):=by
 obtain⟨ek,en,ed,eu,el⟩:=e;rcases hv with⟨rfl,rfl⟩|⟨⟨fk,fn,fd,fu,fl⟩,rfl,rfl⟩
 ·unfold Jt
  simp only[R38,Q9,Jc,vZ,JR,go_sem]<;>rfl
 ·simp only[R38,Q9,Hj,JR,go_sem]<;>rfl
theorem f30(hlo:lo<=h.length)(hn:JN l<=n)(hl:JN l<=2000000)(ho:QG l):E lo 30 [.agg (JL nm k dn low ws ck a b w),.list .no (JJ l)] h=some (.tup [.agg (Hw (QO k low n l)).1,.v (.int .i64 (Hw (QO k low n l)).2)],h):=by
 cases hk:k==3 with
 |true=>
  have e:QO k low n l=none:=by unfold QO;rw[if_pos hk]
  rw[e]
  exact JsB hlo hk
 |false=>
  cases hz:(k==1&&HB l)with
  |true=>
   have e:QO k low n l=some (.mk 1 0 1 1 []):=by unfold QO;rw[if_neg (by rw[hk];simp),if_pos hz]
   rw[e];rw[Af]at hz
   exact JsC hlo hk hz.1 hz.2
  |false=>
   obtain⟨e,hr⟩:=JsG (nm:=nm) (dn:=dn) (low:=low) (ws:=ws) (ck:=ck) (a:=a) (b:=b) (w:=w) hlo hn hl ho hk;have hp:=p38 (nm:=nm) (dn:=dn) (low:=low) (ws:=ws) (ck:=ck) (a:=a) (b:=b) (w:=w) (l:=l) hlo hk hz;unfold QO;rw[if_neg (by rw[hk];simp),if_neg (by rw[hz];simp),e30,pc_in,pc_go _ _ _ _ 0 6,hp,pc_go _ _ _ _ _ 20,hr]
   by_cases c1:((Jo n l).2 !=0)=true
   ·rw[if_pos c1,if_pos c1,R38,Qr];exact JPO (.inl ⟨rfl,rfl⟩)
   ·rw[if_neg c1,if_neg c1]
    by_cases c2:((jY (Jo n l).1).1 !=(if(k==1)=true then 2 else 1))=true
    ·rw[if_pos c2,if_pos c2,R38,Qr];exact JPO (.inl ⟨rfl,rfl⟩)
    ·rw[if_neg c2,if_neg c2]
     by_cases c3:(!low&&((Jo n l).1.k==1&&decide (JL0 (Jo n l).1<0)))=true
     ·rw[if_pos c3,if_pos c3,R38,Qr];exact JPO (.inl ⟨rfl,rfl⟩)
     ·rw[if_neg c3,if_neg c3,R38,Qr];exact JPO (.inr ⟨_,rfl,rfl⟩)
end
end Go.Lift.Y1
end

section
open Go.Proofs
namespace Go.Lift.Y1
open Rul
variable{lo:Nat}{h:JG}
theorem JPP{n:Nat}(h:n<=1000000000):(n+1)*48<=140737488355328:=om
theorem Jkc{n:Nat}(h:n<=1000000000):(n+1+1)*32<=140737488355328:=om
theorem JUn{n:Nat}(h:n<=1000000000):n<=9223372036854775806:=om
theorem JsH{n:Nat}(h:n<=1000000000):n+1+1<=9223372036854775807:=om
def Hx:List (List CV×Int)->List V
 |[]=>[]
 |p::r=> .list .no (JJ p.1):: .v (.int .i64 p.2)::Hx r
theorem YW:∀l,(Hx l).length=l.length*2
 |[]=>rfl
 |p::r=>by simp[Hx,YW r];omega
theorem Gg:∀l m,Hx (l++m)=Hx l++Hx m
 |[],m=>rfl
 |p::r,m=>by simp[Hx,Gg r m]
theorem JJ6(n:Nat):∀l,(Hx l).all (okv n)=true
 |[]=>rfl
 |p::r=>by simp only[Hx,Bi,JJ6 n r];rfl
theorem JPQ(n:Nat):∀l,(Hx l).all (JDl n)=true
 |[]=>rfl
 |p::r=>by simp only[Hx,Bi,JPQ n r];rfl
theorem JPR(f:List (List CV×Int))(p:List CV×Int)(r:List (List CV×Int)):(Hx (f++p::r))[f.length*2]? =some (.list .no (JJ p.1)):=by
 rw[Gg,Bb (by rw[YW];omega),YW,Db]
 rfl
theorem JPS(f:List (List CV×Int))(p:List CV×Int)(r:List (List CV×Int)):(Hx (f++p::r))[f.length*2+1]? =some (.v (.int .i64 p.2)):=by
 rw[Gg,Bb (by rw[YW];omega),YW,Nat.add_sub_cancel_left]
 rfl
theorem JXy(f:List (List CV×Int))(p:List CV×Int)(r:List (List CV×Int))(l:List CV):(Hx (f++p::r)).set (f.length*2) (.list .no (JJ l))=Hx (f++(l,p.2)::r):=by
 rw[Gg,List.set_append,if_neg (by rw[YW];omega),YW,Db,Gg]
 rfl
theorem JUo(f r:List (List CV×Int)):(Hx (f++r)).take (f.length*2)=Hx f:=by rw[Gg,<-YW,List.take_left]
abbrev JC9(h:JG)(out:List Tk4)(n:Nat)(ex:Jl):Jl:=(3,.list .yes (out.map row))::(4,.stk h.length n 2)::ex
def JPT(ex:Jl):Prop:=ex=[]\/ ∃p c b,ex=[(6,p),(7,c),(73,b)]
theorem zD(out:List Tk4)(c:Int):out.map row++[[V.v (A9 Am c),V.v (CK AQ),V.v (A9 Am 0),V.v (A9 Am 0),V.v (CU false),V.v (CU false)]]=(out++[Rul.bare c]).map row:=by rw[DJ]<;>rfl
theorem JUp{fs js:List (List CV×Int)}{c:Int}{Y:JG}{out:List Tk4}{ex:Jl}(hlo:lo<=h.length)(hn:fs.length<=1000000000000000000)(ho:out.length<=1000000000)(he:JPT ex):
  evCode ⟨Aa,E,lo,h.length,h28⟩ JA Yg (JC9 h out (fs.length+1) ex,h++ .cells (Hx (fs++([],c)::js))::Y)=
   some (.normal,JC9 h (out++(if 0<c then[Rul.bare c]else[])) fs.length [],h++[.cells (Hx (fs++([],c)::js))]):=by
 have hgr:=JPR fs ([],c) js;have hgc:=JPS fs ([],c) js;have hok:=JJ6 (h.length+1) (fs++([],c)::js);have hlt:h.length<h.length+1:=om;have hle:fs.length<=fs.length+1:=om;generalize Hx (fs++([],c)::js)=C at*;rw[JX]at hgr;have q:decide ((0:Int)<((fs.length+1:Nat):Int))=true:=by rw[decide_eq_true_iff];omega
 have w1:Am.wrap (((fs.length+1:Nat):Int)-1)=(fs.length:Int):=by rw[JW om om];omega
 have a1:(0:Int)<=(fs.length:Int)/\(fs.length:Int)<((fs.length+1:Nat):Int):=om;have ra:=HZ out;have o1:(out.length+1)*48<=140737488355328:=JPP ho;have o2:out.length<=9223372036854775806:=JUn ho;have q3:(((0:Nat):Int)==0)=true:=rfl;by_cases hc:0<c
 ·have qc:decide (0<c)=true:=by simpa using hc
  rw[if_pos hc];rcases he with rfl|⟨x,y,b,rfl⟩
  ·simp only[go_sem,Yg,b28,Tryz.f28,hlo,hlt,hle,q,q3,w1,a1,hgr,hgc,hok,ra,o1,o2,qc,zD,Aq]<;>rfl
  ·simp only[go_sem,Yg,b28,Tryz.f28,hlo,hlt,hle,q,q3,w1,a1,hgr,hgc,hok,ra,o1,o2,qc,zD,Aq]<;>rfl
 ·have qc:decide (0<c)=false:=by simpa using hc
  rw[if_neg hc,AE];rcases he with rfl|⟨x,y,b,rfl⟩
  ·simp only[go_sem,Yg,b28,Tryz.f28,hlo,hlt,hle,q,q3,w1,a1,hgr,hgc,hok,qc,Aq]<;>rfl
  ·simp only[go_sem,Yg,b28,Tryz.f28,hlo,hlt,hle,q,q3,w1,a1,hgr,hgc,hok,qc,Aq]<;>rfl
theorem Gh(out:List Tk4)(t:Tk4):out.map row++[[V.v (A9 Am t.k),V.v (CK (Rul.bs t.b)),V.v (A9 Am t.n),V.v (A9 Am t.d),V.v (CU t.w),V.v (CU t.i)]]=(out++[t]).map row:=by rw[DJ]<;>rfl
theorem Jkd{fs js:List (List CV×Int)}{l ks:List CV}{t:Tk4}{c:Int}{Y:JG}{out:List Tk4}{ex:Jl}(hlo:lo<=h.length)(hn:fs.length<=1000000000)(ho:out.length<=1000000000)(he:JPT ex):
  ∃ex' Y',JPT ex'/\evCode ⟨Aa,E,lo,h.length,h28⟩ JA Yg (JC9 h out (fs.length+1) ex,h++ .cells (Hx (fs++(.mk t ks::l,c)::js))::Y)=
   if(decide (Ja t.k=0)&&ks.isEmpty)=true then some (.normal,JC9 h (out++[t]) (fs.length+1) ex',h++ .cells (Hx (fs++(l,c)::js))::Y')
   else some (.normal,JC9 h (out++[t]) (fs.length+1+1) ex',h++ .cells (Hx (fs++[(l,c),(ks,Ja t.k)]))::Y'):=by
 have hgr:=JPR fs (.mk t ks::l,c) js;have hgc:=JPS fs (.mk t ks::l,c) js;have hok:=JJ6 (h.length+1) (fs++(.mk t ks::l,c)::js);have hst:=JXy fs (.mk t ks::l,c) js l
 have htk:(Hx (fs++(l,c)::js)).take ((fs.length+1)*2)=Hx (fs++[(l,c)]):=by
  have e:fs++(l,c)::js=(fs++[(l,c)])++js:=by simp
  rw[e,<-JUo (fs++[(l,c)]) js,Ao]<;>rfl
 have hC:fs.length*2+1<=(Hx (fs++(.mk t ks::l,c)::js)).length:=by rw[YW];simp;omega
 have hsk:=JPQ h.length (fs++[(l,c)]);have hln:(fs.length+1)*2<=(Hx (fs++(l,c)::js)).length:=by rw[YW];simp;omega
 have hpp:Hx (fs++[(l,c)])++[.list .no (JJ ks),.v (.int .i64 (Ja t.k))]=Hx (fs++[(l,c),(ks,Ja t.k)]):=by rw[Gg,Gg,Ax]<;>rfl
 have hlt:h.length<h.length+1:=om;have hle:fs.length<=fs.length+1:=om;generalize Hx (fs++(.mk t ks::l,c)::js)=C at*;generalize Hx (fs++(l,c)::js)=D at*;generalize Hx (fs++[(l,c)])=F at*;simp only[JZ,JP,JX]at hgr;have q:decide ((0:Int)<((fs.length+1:Nat):Int))=true:=by rw[decide_eq_true_iff];omega
 have w1:Am.wrap (((fs.length+1:Nat):Int)-1)=(fs.length:Int):=by rw[JW om om];omega
 have a1:(0:Int)<=(fs.length:Int)/\(fs.length:Int)<((fs.length+1:Nat):Int):=om;have ra:=HZ out;have q3:(((l.length+1:Nat):Int)==0)=false:=by rw[beq_eq_false_iff_ne];omega
 have c46:=λlo hlo=>f61 (lo:=lo) (h:=h++[.cells D,.cells (Js (.mk t ks))]) hlo t.k
 rw[JP]at c46;have c46a:=c46 lo (by simp;omega);have c46b:=c46 h.length (by simp);have c46c:=c46 (h.length+1) (by simp);have c46d:=c46 (h.length+2) (by simp)
 clear c46;have hcl:=jp t.k;have hlo1:lo<=h.length+1:=om;have rl:=Jn l;have tl:(JJ l).take l.length=JJ l:=by rw[<-JD l,List.take_length]
 have hne:0<Ja t.k->¬(decide (Ja t.k=0)&&ks.isEmpty)=true:=λhc=>by rw[show decide (Ja t.k=0)=false by rw[decide_eq_false_iff_not];omega,As];simp
 have o1:(out.length+1)*48<=140737488355328:=JPP ho;have o2:out.length<=9223372036854775806:=JUn ho;have o3:(fs.length+1+1)*32<=140737488355328:=Jkc hn;have o4:fs.length+1+1<=9223372036854775807:=JsH hn;by_cases hc:0<Ja t.k
 ·have qc:decide (0<Ja t.k)=true:=by simpa using hc
  refine⟨[],[.cells (Js (.mk t ks))],.inl rfl,?_⟩
  rw[if_neg (hne hc),JP];rcases he with rfl|⟨x,y,b,rfl⟩
  ·simp only[go_sem,Yg,b28,Tryz.f28,hlo,hlo1,rl,tl,Ad,hC,hlt,hle,q,q3,w1,a1,hgr,hgc,hok,ra,o1,o2,o3,o4,hst,htk,hsk,hln,hpp,qc,c46a,c46b,c46c,c46d,Gh,Aq,JD,Ae]<;>rfl
  ·simp only[go_sem,Yg,b28,Tryz.f28,hlo,hlo1,rl,tl,Ad,hC,hlt,hle,q,q3,w1,a1,hgr,hgc,hok,ra,o1,o2,o3,o4,hst,htk,hsk,hln,hpp,qc,c46a,c46b,c46c,c46d,Gh,Aq,JD,Ae]<;>rfl
 ·have qc:decide (0<Ja t.k)=false:=by simpa using hc
  have q0:decide (Ja t.k=0)=true:=by rw[decide_eq_true_iff];omega
  rw[q0,Aw]
  cases ks with
  |nil=>
   refine⟨[(6,.ptr (h.length+1) 0),(7,.v (.int .i64 (Ja t.k))),(73,.v (.bool false))],[.cells (Js (.mk t []))],.inr ⟨_,_,_,rfl⟩,?_⟩
   have q4:decide ((0:Int)<((0:Nat):Int))=false:=rfl;rw[if_pos (show([]:List CV).isEmpty=true from rfl),JP]
   rcases he with rfl|⟨x,y,b,rfl⟩
   ·simp only[go_sem,Yg,b28,Tryz.f28,hlo,hlo1,rl,tl,Ad,hC,hlt,hle,q,q3,q4,w1,a1,hgr,hgc,hok,ra,o1,o2,o3,o4,hst,htk,hsk,hln,hpp,qc,c46a,c46b,c46c,c46d,Gh,Aq,JD,Ae,Ai]<;>rfl
   ·simp only[go_sem,Yg,b28,Tryz.f28,hlo,hlo1,rl,tl,Ad,hC,hlt,hle,q,q3,q4,w1,a1,hgr,hgc,hok,ra,o1,o2,o3,o4,hst,htk,hsk,hln,hpp,qc,c46a,c46b,c46c,c46d,Gh,Aq,JD,Ae,Ai]<;>rfl
  |cons z ks=>
   refine⟨[],[.cells (Js (.mk t (z::ks)))],.inl rfl,?_⟩
   have q4:decide ((0:Int)<((ks.length+1:Nat):Int))=true:=by rw[decide_eq_true_iff];omega
   rw[if_neg (show¬(z::ks).isEmpty=true by simp),JP]
   rcases he with rfl|⟨x,y,b,rfl⟩
   ·simp only[go_sem,Yg,b28,Tryz.f28,hlo,hlo1,rl,tl,Ad,hC,hlt,hle,q,q3,q4,w1,a1,hgr,hgc,hok,ra,o1,o2,o3,o4,hst,htk,hsk,hln,hpp,qc,c46a,c46b,c46c,c46d,Gh,Aq,JD,Ae]<;>rfl
   ·simp only[go_sem,Yg,b28,Tryz.f28,hlo,hlo1,rl,tl,Ad,hC,hlt,hle,q,q3,q4,w1,a1,hgr,hgc,hok,ra,o1,o2,o3,o4,hst,htk,hsk,hln,hpp,qc,c46a,c46b,c46c,c46d,Gh,Aq,JD,Ae]<;>rfl
def clT(c:Int):List Tk4:=if 0<c then[Rul.bare c]else[]
theorem JDA(t:Tk4)(ks r:List CV):Ka (.mk t ks::r)=t::(Ka ks++(clT (Ja t.k)++Ka r)):=by
 rw[Ka,JCX];unfold clT;have hcl:=jp t.k;by_cases hc:Ja t.k=0
 ·rw[if_pos hc,if_neg om];simp
 ·rw[if_neg hc,if_pos om];simp
theorem Wh:Ka []=[]:=by rw[Ka]
theorem JXz(hlo:lo<=h.length):∀(n:Nat) (l:List CV),JN l<=n->∀(fs js:List (List CV×Int)) (c:Int) (Y:JG) (out:List Tk4) (ex:Jl),JPT ex->fs.length+JN l<=1000000000->out.length+2*JN l<=1000000000->
  ∃js',JA (evCode ⟨Aa,E,lo,h.length,h28⟩ JA Yg) (JC9 h out (fs.length+1) ex,h++ .cells (Hx (fs++(l,c)::js))::Y)=
   JA (evCode ⟨Aa,E,lo,h.length,h28⟩ JA Yg) (JC9 h (out++(Ka l++clT c)) fs.length [],h++[.cells (Hx (fs++js'))]):=by
 intro n
 induction n with
 |zero=>
  intro l hl fs js c Y out ex he hf ho
  have:l=[]:=by have:=JV l;exact List.eq_nil_of_length_eq_zero om
  subst this;refine⟨([],c)::js,?_⟩
  rw[JB,JUp hlo om om he,JO,Wh,Au]<;>rfl
 |succ n ih=>
  intro l hl fs js c Y out ex he hf ho
  cases l with
  |nil=>
   refine⟨([],c)::js,?_⟩
   rw[JB,JUp hlo om om he,JO,Wh,Au]<;>rfl
  |cons v r=>
   obtain⟨t,ks⟩:=v;rw[J6,Kj]at hl hf ho;obtain⟨ex',Y',he',hr⟩:=Jkd (js:=js) (l:=r) (ks:=ks) (t:=t) (c:=c) (Y:=Y) (out:=out) hlo (by omega:fs.length<=1000000000) om he
   rw[JDA];by_cases hq:(decide (Ja t.k=0)&&ks.isEmpty)=true
   ·rw[if_pos hq]at hr
    simp only[Af,decide_eq_true_eq,List.isEmpty_iff]at hq;obtain⟨hq,rfl⟩:=hq;obtain⟨js',h1⟩:=ih r om fs js c Y' (out++[t]) ex' he' om (by simp only[Ao,Ae,Ai];omega)
    refine⟨js',?_⟩
    rw[JB,hr,JO,h1,hq,Wh];have:clT 0=[]:=rfl;rw[this];simp only[Ax,Au,AA]
   ·rw[if_neg hq]at hr
    have e1:fs++[(r,c),(ks,Ja t.k)]=(fs++[(r,c)])++(ks,Ja t.k)::[]:=by simp
    have e2:fs.length+1=(fs++[(r,c)]).length:=by simp
    obtain⟨js1,h1⟩:=ih ks om (fs++[(r,c)]) [] (Ja t.k) Y' (out++[t]) ex' he' (by simp only[Ao,Ae,Ai];omega) (by simp only[Ao,Ae,Ai];omega)
    have hfl:=G3 ks;have hcl:(clT (Ja t.k)).length<=1:=by unfold clT;split<;>simp
    obtain⟨js2,h2⟩:=ih r om fs js1 c [] (out++[t]++(Ka ks++clT (Ja t.k))) [] (.inl rfl) om (by simp only[Ao,Ae,Ai];omega)
    refine⟨js2,?_⟩
    rw[JB,hr,JO,e1];rw[<-e2]at h1;rw[h1];have e3:(fs++[(r,c)])++js1=fs++(r,c)::js1:=by simp
    rw[e3,h2];simp only[Ax,Au,AA]
theorem JeA{js:List (List CV×Int)}{out:List Tk4}(hlo:lo<=h.length):evCode ⟨Aa,E,lo,h.length,h28⟩ JA Yg (JC9 h out 0 [],h++[.cells (Hx js)])=
   some (.exit 0,JC9 h out 0 [(13,.v (.bool false))],h++[.cells (Hx js)]):=by
 have q:decide ((0:Int)<((0:Nat):Int))=false:=rfl;have hok:=JJ6 (h.length+1) js;have hlt:h.length<h.length+1:=om;simp only[go_sem,Yg,b28,Tryz.f28,hlo,q,hok,hlt]<;>rfl
theorem f28{l:List CV}(hlo:lo<=h.length)(hl:JN l<=100000000):E lo 28 [.list .no (JJ l)] h=some (.list .no ((Ka l).map row),h):=by
 obtain⟨js,hL⟩:=JXz hlo (JN l) l (Ad _) [] [] 0 [] [] [] (.inl rfl) (by simp;omega) (by simp;omega)
 rw[JB (s:=(JC9 h _ ([]:List (List CV×Int)).length _,_)),Ai,Au js,JeA hlo,Jx]at hL;have e:clT 0=[]:=rfl;rw[e,AE,Au]at hL;have e2:Hx [(l,0)]=[.list .no (JJ l),.v (.int .i64 0)]:=rfl;rw[e2]at hL;rw[e28];simp only[Yg,b28,Tryz.f28,JK,loops,JC,go_sem,JC9,List.map_nil,AA,Au,Nat.zero_add]at hL
 have nb:((1:Nat) !=0)=true:=rfl;have rl:=Jn l;simp only[go_sem,b28,Tryz.f28,hlo,hL,nb,rl]<;>rfl
end Go.Lift.Y1
end
