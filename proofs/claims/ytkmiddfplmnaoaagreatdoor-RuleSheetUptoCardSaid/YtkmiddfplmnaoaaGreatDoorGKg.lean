/- jalousieref5.Values: a round. -/
import Derived.Test.YtkmiddfplmnaoaaGreatDoorGKb
import Derived.Test.YtkmiddfplmnaoaaGreatDoorGKf
open Bool renaming and_eq_true->Ah,and_false->BZ,and_self->BS,eq_iff_iff->Cu,false_eq_true->As,false_or->Br,not_false->Bh,not_true->Bm,or_eq_false_iff->B2,or_eq_true->AN,or_false->DO,true_and->AR
open ByteArray renaming empty->A6
open Go.IntKind renaming i64->Ak
open Go.Proofs.Tryz renaming prog->Aa
open List renaming all_eq_true->Ar,append_assoc->Aw,append_nil->Aq,cons_append->Ae,contains_cons->C9,contains_nil->DK,dropWhile_cons->AD,dropWhile_suffix->AA,drop_zero->AG,getElem?_eq_some_iff->Ab,getElem?_map->Ao,getElem?_set_ne->Dq,head?_cons->Mz,head?_dropWhile_not->Lo,isEmpty_cons->DJ,isEmpty_nil->Ll,length_append->An,length_cons->Ag,length_drop->Ay,length_map->Av,length_nil->Am,length_set->AO,map_append->D4,map_nil->Cm,mem_append->AW,mem_cons_of_mem->AV,mem_map->AK,mem_singleton->Bz,nil_append->Af,not_mem_nil->Cp,set_set->BL,tail_suffix->Dp,takeWhile_cons->BK,takeWhile_prefix->Bj
open Nat renaming le_refl->Ac,le_trans->A3,mul_one->BC,zero_add->AB,zero_le->A0,zero_mul->DE
set_option linter.unusedVariables false
set_option linter.unusedSimpArgs false
set_option linter.unusedSectionVars false
set_option maxRecDepth 20000
set_option maxHeartbeats 4000000
section
open Go.Proofs
namespace Go.Lift.W1
open Rul
variable[MX]
variable{lo:Nat}{h:Heap}
abbrev N45(h:Heap)(l:List Tk4)(n i:Nat):Ja:=[(3,.stk h.length n 7),(9,.list .no (l.map row)),(10,.v (.int .i64 l.length)),(11,.v (.int .i64 i))]
theorem JLb(s:K7)(b:List CV):Gm (Wb s b):=λi=>⟨zt _ (λ_ _=>rfl) (λ_=>rfl) s b,zt _ (λ_ _=>rfl) (λ_=>rfl) s b⟩
theorem JZe{n:Nat}(h:n<=1000000000):(n+1+1)*72<=140737488355328:=om
def JB3:K7->Int
 |[]=>0
 |(o,_)::_=>o.k
theorem JD3:∀(s:K7) (b:List CV) (j:List V),(Wb s b++j)[s.length*7]? =some (.v (.int .i64 (JB3 s)))
 |[],_,_=>rfl
 |(o,ks)::r,b,j=>JJP o ks r b j
theorem JZf{l:List Tk4}{t:Tk4}{i:Nat}{s:K7}{b:List CV}{j:List V}(hlo:lo<=h.length)(hg:l[i]? =some t)(hl:l.length<=1000000000)(hs:s.length<=1000000000)(hj:Gm j)(hc:JN t.k≠0)(he:(decide (0<s.length)&&(t.k==JN (JB3 s)))=false):
  evCode ⟨Aa,E,lo,h.length,h21⟩ JA Z4 (N45 h l (s.length+1) i,h++[.cells (Wb s b++j)])=some (.normal,N45 h l (s.length+2) (i+1),h++[.cells (Wb ((t,[])::s) b)]):=by
 have hlt:i<l.length:=(Ab.1 hg).1
 have q:decide ((i:Int)<(l.length:Int))=true:=by simpa using hlt
 have hgr:(l.map row)[i]? =some (row t):=by rw[Ao,hg];rfl
 have hw:=JD (i:=i) om;have w1:Ak.wrap (((s.length+1:Nat):Int)-1)=(s.length:Int):=by rw[JL om om];omega
 have l1:lo<=h.length+1:=om;have l2:lo<=h.length+2:=om;have l3:lo<=h.length+3:=om;have qc:(JN t.k !=0)=true:=by simpa using hc
 have hF0:=JQn s b j;have hT:=JT5 h.length s b;have hTk:=(JLb s b (h.length+1)).2;have hkd:=JD3 s b j;have hFl:(s.length+1)*7<=(Wb s b++j).length:=by rw[An,W6];omega
 have a2:(s.length:Int)<((s.length+1:Nat):Int):=om;have o1:=JZe hs;have o2:=JfJ hs;simp only[N45,Wb];generalize Wb s b++j=F at*;generalize Wb s b=T at*;have c40:=λlo k hlo=>f40 (lo:=lo) (h:=h++[.cells F,.cells (row t)]) hlo k
 have c40a:=c40 lo t.k (by simp;omega);have c40b:=c40 (h.length+2) (JB3 s) (by simp)
 clear c40;simp only[row]at hgr c40a c40b
 cases hs0:decide (0<s.length)with
 |true=>
  rw[hs0,AR]at he;have hql:decide ((0:Int)<(s.length:Int))=true:=by rw[decide_eq_true_iff]at hs0⊢;omega
  simp only[row,go_sem,Z4,b21,Tryz.f21,hlo,l1,l2,l3,q,hgr,hw,w1,qc,hF0,hT,hTk,hkd,hFl,a2,o1,o2,c40a,c40b,hql,he,Jc,Av]<;>rfl
 |false=>
  have hql:decide ((0:Int)<(s.length:Int))=false:=by rw[decide_eq_false_iff_not]at hs0⊢;omega
  simp only[row,go_sem,Z4,b21,Tryz.f21,hlo,l1,l2,l3,q,hgr,hw,w1,qc,hF0,hT,hTk,hkd,hFl,a2,o1,o2,c40a,c40b,hql,he,Jc,Av]<;>rfl
theorem JZg{l:List Tk4}{t o:Tk4}{i:Nat}{ks:List CV}{s:K7}{b:List CV}{j:List V}(hlo:lo<=h.length)(hg:l[i]? =some t)(hl:l.length<=1000000000)(hs:s.length<=1000000000)(hr:(Yy s b).length<=1000000000)(hj:Gm j)(he:JN o.k=t.k):
  evCode ⟨Aa,E,lo,h.length,h21⟩ JA Z4 (N45 h l (s.length+2) i,h++[.cells (Wb ((o,ks)::s) b++j)])=
   some (.normal,N45 h l (s.length+1) (i+1),h++[.cells (Wb (KT ((o,ks)::s) b).1 (KT ((o,ks)::s) b).2++(row o++[.list .yes (JH ks)]++j))]):=by
 have hlt:i<l.length:=(Ab.1 hg).1
 have q:decide ((i:Int)<(l.length:Int))=true:=by simpa using hlt
 have hgr:(l.map row)[i]? =some (row t):=by rw[Ao,hg];rfl
 have hw:=JD (i:=i) om;have w1:Ak.wrap (((s.length+2:Nat):Int)-1)=((s.length+1:Nat):Int):=by rw[JL om om];omega
 have l1:lo<=h.length+1:=om;have l2:lo<=h.length+2:=om;have l3:lo<=h.length+3:=om;have hkd:=JJP o ks s b j;have hcl:=JJO o ks s b j;have h5:=Jmf (lo:=lo) (p:=h) (xs:=row t) (t:=o) (ks:=ks) (F:=Wb ((o,ks)::s) b++j) hlo hs (JDp (o,ks) s b j) (JDq o ks s b j) (by rw[An,W6,Ag];omega) hr
 rw[hcl]at h5;have hSk:=(KB (JLb (KT ((o,ks)::s) b).1 (KT ((o,ks)::s) b).2) (KB (a:=row o++[.list .yes (JH ks)]) (λi=>⟨rfl,rfl⟩) hj) (h.length+1)).2
 have hql:decide ((0:Int)<((s.length+1:Nat):Int))=true:=by rw[decide_eq_true_iff];omega
 have a2:((s.length+1:Nat):Int)<((s.length+2:Nat):Int):=om;have qe:(t.k==JN o.k)=true:=by rw[he,beq_self_eq_true]
 simp only[N45];generalize Wb ((o,ks)::s) b++j=F at*;generalize Wb (KT ((o,ks)::s) b).1 (KT ((o,ks)::s) b).2++(row o++[.list .yes (JH ks)]++j)=F2 at*;have c40b:=f40 (lo:=h.length+2) (h:=h++[.cells F,.cells (row t)]) (by simp) o.k
 simp only[row]at hgr c40b h5;simp only[row,go_sem,Z4,b21,Tryz.f21,hlo,l1,l2,l3,q,hgr,hw,w1,hkd,h5,hSk,hql,a2,qe,c40b,Av]<;>rfl
theorem JfX{l:List Tk4}{t:Tk4}{i:Nat}{s:K7}{b:List CV}{j:List V}(hlo:lo<=h.length)(hg:l[i]? =some t)(hl:l.length<=1000000000)(hs:s.length<=1000000000)(hr:(Yy s b).length<=1000000000)(hj:Gm j)(hc:JN t.k=0)(he:(decide (0<s.length)&&(t.k==JN (JB3 s)))=false):
  evCode ⟨Aa,E,lo,h.length,h21⟩ JA Z4 (N45 h l (s.length+1) i,h++[.cells (Wb s b++j)])=
   some (.normal,N45 h l (s.length+1) (i+1),h++[.cells (Wb (KM (.mk t []) s b).1 (KM (.mk t []) s b).2++j)]):=by
 have hlt:i<l.length:=(Ab.1 hg).1
 have q:decide ((i:Int)<(l.length:Int))=true:=by simpa using hlt
 have hgr:(l.map row)[i]? =some (row t):=by rw[Ao,hg];rfl
 have hw:=JD (i:=i) om;have w1:Ak.wrap (((s.length+1:Nat):Int)-1)=(s.length:Int):=by rw[JL om om];omega
 have l1:lo<=h.length+1:=om;have l2:lo<=h.length+2:=om;have l3:lo<=h.length+3:=om;have qc:(JN t.k !=0)=false:=by simpa using hc
 have hkd:=JD3 s b j;have htop:=JMM s b j;have hset:=JMN s b j (.mk t []);have hTk:=(KB (JLb (KM (.mk t []) s b).1 (KM (.mk t []) s b).2) hj (h.length+1)).2;have hFs:s.length*7+6<(Wb s b++j).length:=by rw[An,W6];omega
 have hFs1:s.length*7+6+1<=(Wb s b++j).length:=hFs;have hFs2:s.length*7+7<=(Wb s b++j).length:=hFs;have hkk:∀(x y:V),((Wb s b++j).set (s.length*7+6) y).take (s.length*7+6)++x::((Wb s b++j).set (s.length*7+6) y).drop (s.length*7+6+1)=(Wb s b++j).set (s.length*7+6) x:=λx y=>by rw[Zd (by rw[AO];exact hFs),BL]
 have hk2:∀(x y:V),((Wb s b++j).set (s.length*7+6) y).take (s.length*7+6)++x::((Wb s b++j).set (s.length*7+6) y).drop (s.length*7+7)=(Wb s b++j).set (s.length*7+6) x:=hkk;have a2:(s.length:Int)<((s.length+1:Nat):Int):=om;have o1:=ky hr;have o2:=Hy hr;have ra:=J7 (Yy s b);have rl:=JU (Yy s b);have rb:=QG (Yy s b)
 simp only[N45];rw[<-hset]at hTk⊢;rw[Wu,Kc,Jc,Jq,Jc]at hTk⊢;generalize Wb s b++j=F at*;generalize JH (Yy s b)=R at*;have c40:=λlo k hlo=>f40 (lo:=lo) (h:=h++[.cells F,.cells (row t)]) hlo k
 have c40a:=c40 lo t.k (by simp;omega);have c40b:=c40 (h.length+2) (JB3 s) (by simp)
 clear c40;simp only[row]at hgr c40a c40b
 cases hs0:decide (0<s.length)with
 |true=>
  rw[hs0,AR]at he;have hql:decide ((0:Int)<(s.length:Int))=true:=by rw[decide_eq_true_iff]at hs0⊢;omega
  simp only[row,go_sem,Z4,b21,Tryz.f21,hlo,l1,l2,l3,q,hgr,hw,w1,qc,hkd,htop,hTk,hFs,hFs1,hFs2,hkk,hk2,a2,o1,o2,ra,rl,rb,c40a,c40b,hql,he,Jc,Av,AO,BL]<;>rfl
 |false=>
  have hql:decide ((0:Int)<(s.length:Int))=false:=by rw[decide_eq_false_iff_not]at hs0⊢;omega
  simp only[row,go_sem,Z4,b21,Tryz.f21,hlo,l1,l2,l3,q,hgr,hw,w1,qc,hkd,htop,hTk,hFs,hFs1,hFs2,hkk,hk2,a2,o1,o2,ra,rl,rb,c40a,c40b,hql,he,Jc,Av,AO,BL]<;>rfl
def H45(h:Heap)(s:K7)(b:List CV)(H:Heap):Prop:=∃j,Gm j/\H=h++[.cells (Wb s b++j)]
theorem JUo{l:List Tk4}{t:Tk4}{i:Nat}{s:K7}{b:List CV}{H:Heap}(hlo:lo<=h.length)(hg:l[i]? =some t)(hl:l.length<=1000000000)(hz:jK s+b.length<=1000000000)(ho:Opn s)(hH:H45 h s b H):
  ∃H',evCode ⟨Aa,E,lo,h.length,h21⟩ JA Z4 (N45 h l (s.length+1) i,H)=some (.normal,N45 h l ((K3 t s b).1.length+1) (i+1),H')/\H45 h (K3 t s b).1 (K3 t s b).2 H':=by
 obtain⟨j,hj,rfl⟩:=hH;have hsl:=Ga s;by_cases hx:ctx s=some t.k
 ·cases s with
  |nil=>cases hx
  |cons p r=>
   obtain⟨o,ks⟩:=p;have he:JN o.k=t.k:=Option.some.inj hx;simp only[jK]at hz;have hrl:=Ga r;have hrt:=kw r b;have:=JZg (h:=h) (j:=j) (b:=b) (ks:=ks) hlo hg hl (by omega:r.length<=1000000000) om hj he
   have hst:K3 t ((o,ks)::r) b=KT ((o,ks)::r) b:=by unfold K3;rw[if_pos hx]
   rw[hst,Z2];exact⟨_,this,_,KB (KB (λi=>⟨rfl,rfl⟩:Gm (row o)) (JJS Qz)) hj,rfl⟩
 ·have he:(decide (0<s.length)&&(t.k==JN (JB3 s)))=false:=by
   cases s with
   |nil=>rfl
   |cons p r=>
    obtain⟨o,ks⟩:=p;have:t.k≠JN o.k:=λe=>hx (by show some (JN o.k)=some t.k;rw[e])
    simp only[JB3,Ag];rw[beq_eq_false_iff_ne.2 this,BZ]
  by_cases hc:JN t.k=0
  ·have hst:K3 t s b=KM (.mk t []) s b:=by unfold K3;rw[if_neg hx,if_neg (by simp[hc])]
   have hrt:=kw s b;rw[hst,JA7];exact⟨_,JfX hlo hg hl om om hj hc he,j,hj,rfl⟩
  ·have hst:K3 t s b=((t,[])::s,b):=by unfold K3;rw[if_neg hx,if_pos hc]
   rw[hst];exact⟨_,JZf hlo hg hl om hj hc he,[],Qz,by simp⟩
theorem JZi{l:List Tk4}{n:Nat}{s:K7}{b:List CV}{H:Heap}(hlo:lo<=h.length)(hH:H45 h s b H):
  evCode ⟨Aa,E,lo,h.length,h21⟩ JA Z4 (N45 h l n l.length,H)=some (.exit 0,N45 h l n l.length++[(12,.v (.bool false))],H):=by
 obtain⟨j,_,rfl⟩:=hH;have q:decide ((l.length:Int)<(l.length:Int))=false:=by simp
 simp only[N45,go_sem,Z4,b21,Tryz.f21,hlo,q]<;>rfl
theorem JRf{l:List Tk4}(hlo:lo<=h.length)(hl:l.length<=1000000000):∀(m i:Nat) (s:K7) (b:List CV) (H:Heap),i+m=l.length->jK s+b.length+m<=1000000000->Opn s->H45 h s b H->
  ∃H',JA (evCode ⟨Aa,E,lo,h.length,h21⟩ JA Z4) (N45 h l (s.length+1) i,H)=some (.exit 0,N45 h l ((runS (l.drop i) s b).1.length+1) l.length++[(12,.v (.bool false))],H')/\H45 h (runS (l.drop i) s b).1 (runS (l.drop i) s b).2 H'/\jK (runS (l.drop i) s b).1+(runS (l.drop i) s b).2.length<=1000000000
 |0,i,s,b,H,hm,hz,ho,hH=>by
  obtain rfl:i=l.length:=om;rw[List.drop_length,runS]
  exact⟨H,by rw[JB,JZi hlo hH,KP],hH,om⟩
 |m+1,i,s,b,H,hm,hz,ho,hH=>by
  have hlt:i<l.length:=om;have hd:l.drop i=l[i]::l.drop (i+1):=List.drop_eq_getElem_cons hlt;obtain⟨H1,hr,h1⟩:=JUo hlo (List.getElem?_eq_getElem hlt) hl om ho hH
  have hz1:=JJR l[i] s b;obtain⟨H2,h2,h3,h4⟩:=JRf hlo hl m (i+1) _ _ H1 om om (JJQ ho) h1;rw[hd,runS];exact⟨H2,by rw[JB,hr,JK,h2],h3,h4⟩
abbrev M45(h:Heap)(n:Nat)(ex:Ja):Ja:=(3,.stk h.length n 7)::ex
def JZj(ex:Ja):Prop:=(∃a b c,ex=[(9,a),(10,b),(11,c)])\/ ∃a b c d,ex=[(9,a),(10,b),(11,c),(12,d)]
theorem JUp{o:Tk4}{ks:List CV}{s:K7}{b:List CV}{j:List V}{ex:Ja}(he:JZj ex)(hlo:lo<=h.length)(hs:s.length<=1000000000)(hr:(Yy s b).length<=1000000000):
  evCode ⟨Aa,E,lo,h.length,h21⟩ JA y6 (M45 h (s.length+2) ex,h++[.cells (Wb ((o,ks)::s) b++j)])=
   some (.normal,M45 h (s.length+1) [(9,.undef),(10,.undef),(11,.undef)],h++[.cells (Wb (KT ((o,ks)::s) b).1 (KT ((o,ks)::s) b).2++(row o++[.list .yes (JH ks)]++j))]):=by
 have hcl:=JJO o ks s b j;have h5:=Jme (lo:=lo) (p:=h) (t:=o) (ks:=ks) (F:=Wb ((o,ks)::s) b++j) hlo hs (JDp (o,ks) s b j) (JDq o ks s b j) (by rw[An,W6,Ag];omega) hr
 rw[hcl]at h5;have q:decide ((1:Int)<((s.length+2:Nat):Int))=true:=by rw[decide_eq_true_iff];omega
 generalize Wb ((o,ks)::s) b++j=F at*;generalize Wb (KT ((o,ks)::s) b).1 (KT ((o,ks)::s) b).2++(row o++[.list .yes (JH ks)]++j)=F2 at*;rcases he with⟨x,y,z,rfl⟩|⟨x,y,z,w,rfl⟩
 ·simp only[M45,go_sem,y6,b21,Tryz.f21,hlo,q,h5]<;>rfl
 ·simp only[M45,go_sem,y6,b21,Tryz.f21,hlo,q,h5]<;>rfl
theorem JfY{H:Heap}{ex:Ja}(he:JZj ex)(hlo:lo<=h.length):
  evCode ⟨Aa,E,lo,h.length,h21⟩ JA y6 (M45 h 1 ex,H)=some (.exit 2,M45 h 1 [(59,.v (.bool false))],H):=by
 have q:decide ((1:Int)<((1:Nat):Int))=false:=rfl;rcases he with⟨x,y,z,rfl⟩|⟨x,y,z,w,rfl⟩
 ·simp only[M45,go_sem,y6,b21,Tryz.f21,hlo,q,Am]<;>rfl
 ·simp only[M45,go_sem,y6,b21,Tryz.f21,hlo,q,Am]<;>rfl
theorem JMj(hlo:lo<=h.length):∀(n:Nat) (s:K7) (b:List CV) (H:Heap) (ex:Ja),s.length=n->jK s+b.length<=1000000000->JZj ex->H45 h s b H->
  ∃H',JA (evCode ⟨Aa,E,lo,h.length,h21⟩ JA y6) (M45 h (s.length+1) ex,H)=some (.exit 2,M45 h 1 [(59,.v (.bool false))],H')/\H45 h [] (Qx s b) H'
 |0,s,b,H,ex,hn,hz,he,hH=>by
  obtain rfl:=List.eq_nil_of_length_eq_zero hn
  exact⟨H,by rw[JB];simp only[Am,AB];rw[JfY he hlo,KP],hH⟩
 |n+1,[],b,H,ex,hn,hz,he,hH=>by cases hn
 |n+1,(o,ks)::r,b,H,ex,hn,hz,he,hH=>by
  have hz1:=JBg o ks r b;simp only[jK,Ag]at hz hn;have hrl:=Ga r;have hrt:=kw r b;obtain⟨j,hj,rfl⟩:=hH;have hc:=JUp (o:=o) (ks:=ks) (s:=r) (b:=b) (j:=j) he hlo om om;rw[GP];have hlen:=Z2 (o,ks) r b
  obtain⟨H2,h2,h3⟩:=JMj hlo n (KT ((o,ks)::r) b).1 (KT ((o,ks)::r) b).2 _ [(9,.undef),(10,.undef),(11,.undef)] om (by simp only[jK]at hz1;omega) (.inl ⟨_,_,_,rfl⟩)
   ⟨row o++[.list .yes (JH ks)]++j,KB (KB (λi=>⟨rfl,rfl⟩:Gm (row o)) (JJS Qz)) hj,rfl⟩
  refine⟨H2,?_,h3⟩
  rw[hlen]at h2;rw[JB];simp only[Ag];rw[hc,JK];exact h2
theorem f21{l:List Tk4}(hlo:lo<=h.length)(hl:l.length<=1000000000):E lo 21 [.list .no (l.map row)] h=some (.list .no (JH (vals l)),h):=by
 obtain⟨H1,h1,h2,h3⟩:=JRf (lo:=lo) (h:=h) hlo hl l.length 0 [] [] (h++[.cells (Wb [] [])]) om (by simp only[jK,Am];omega) JMR ⟨[],Qz,by simp⟩
 rw[AG]at h1 h2 h3;obtain⟨H2,h4,h5⟩:=JMj (lo:=lo) (h:=h) hlo _ _ _ H1 [(9,.list .no (l.map row)),(10,.v (.int .i64 l.length)),(11,.v (.int .i64 l.length)),(12,.v (.bool false))] rfl h3 (.inr ⟨_,_,_,_,rfl⟩) h2;have hv:Qx (runS l [] []).1 (runS l [] []).2=vals l:=rfl;rw[hv]at h5;have n0:((0:Nat):Int)=0:=rfl;have l1:lo<=h.length+1:=om
 have l2:lo<=h.length+2:=om;have e0:Rul.bs []=A6:=rfl;have p1:(0:Int)<((1:Nat):Int):=by decide
 rw[e21];simp only[Z4,y6,b21,Tryz.f21,JG,JT,JC,go_sem,N45,M45,Wb,row,Rul.bare,e0,n0,Jc,Ae,Af,Am,AB]at h1 h4;obtain⟨j,_,rfl⟩:=h5;simp only[go_sem,b21,Tryz.f21,hlo,l1,l2,h1,h4,n0,p1,Wb,row,Rul.bare,e0,Jc,Av,Ae,Af,Am,AB]<;>rfl
end Go.Lift.W1
end

section
open Go.Proofs
namespace Go.Lift.W1
open Rul
open Utf (By)
variable[MX]
variable{lo:Nat}{h:Heap}
theorem JZk{l:List CV}{top:Bool}{d:Nat}{out:List Ru}{i:Nat}(hlo:lo<=h.length)(hi:l.length<=i):
  evCode ⟨Aa,E,lo,h.length,h20⟩ JA K9 (N44 l top d out i,h)=some (.exit 0,N44 l top d out i++[(17,.v (.bool false))],h):=by
 have q:decide ((i:Int)<(l.length:Int))=false:=by rw[decide_eq_false_iff_not];omega
 have rl:=JU l;simp only[N44];generalize JH l=R at*;simp only[go_sem,K9,j9,Tryz.f20,hlo,q,rl]<;>rfl
theorem JLc{l:List CV}{top:Bool}{d:Nat}{sub:List CV->List Ru}(hlo:lo<=h.length)(hl:JM l<=1000000000)(hB:Qf jM l)(hdd:d<=1000)
  (hsub:d<=64->∀ks,Qf jM ks->JM ks<=1000000000->∀lo h,lo<=h.length->E lo 20 [.list .no (JH ks),.v (.bool false),.v (.int .i64 (d+1:Nat))] h=some (.list .no (J2 (sub ks)),h)):
  ∀(n i:Nat) (out:List Ru),(l.drop i).length<n->out.length+(l.drop i).length<=1000000000->
  ∃i',JA (evCode ⟨Aa,E,lo,h.length,h20⟩ JA K9) (N44 l top d out i,h)=some (.exit 0,N44 l top d (out++Kr sub (decide (d<=64)) top n (l.drop i)) i'++[(17,.v (.bool false))],h)
 |0,i,out,hn,_=>by omega
 |n+1,i,out,hn,ho=>by
  cases hd:l.drop i with
  |nil=>
   have hi:l.length<=i:=by have:=congrArg List.length hd;rw[Ay,Am]at this;omega
   refine⟨i,?_⟩
   rw[JB,JZk hlo hi,KP,Gg,Aq]
  |cons v r=>
   rw[hd]at hn ho;simp only[Ag]at hn ho;obtain⟨i1,hr,h1⟩:=JUn (top:=top) (out:=out) hlo hl om hd hB hdd hsub;have hs:=JOT sub (decide (d<=64)) top v r;obtain⟨i2,h2⟩:=JLc hlo hl hB hdd hsub n i1 (out++(KH sub (decide (d<=64)) top v r).1) (by rw[h1];omega) (by rw[h1,An];omega)
   refine⟨i2,?_⟩
   rw[JB,hr,JK,h2,h1,ZX,Aw]
theorem f20:∀(f:Nat),f<=64->∀(top:Bool) (l:List CV),Qf jM l->JM l<=1000000000->∀(lo:Nat) (h:Heap),lo<=h.length->
  E lo 20 [.list .no (JH l),.v (.bool top),.v (.int .i64 (65-f:Nat))] h=some (.list .no (J2 (QD f top l)),h):=by
 intro f
 induction f with
 |zero=>
  intro hf top l hB hl lo h hlo;have hll:=Jk l;obtain⟨i',hL⟩:=JLc (lo:=lo) (h:=h) (top:=top) (d:=65) (sub:=λ_=>[]) hlo hl hB om (λh=>by omega) (l.length+1) 0 [] (by rw[AG];omega) (by rw[AG,Am];omega)
  rw[AG,Af]at hL;have ed:decide (65<=64)=false:=rfl;rw[ed]at hL;have er:QD 0 top l=Kr (λ_=>[]) false top (l.length+1) l:=by rw[QD]
  rw[er];generalize Kr (λ_=>[]) false top (l.length+1) l=Z at*
  have n0:((0:Nat):Int)=0:=rfl;rw[e20];simp only[K9,j9,Tryz.f20,JG,JT,JC,go_sem,N44,n0,Y3,Ae,Af]at hL
  simp only[go_sem,j9,Tryz.f20,hlo,hL,n0]<;>rfl
 |succ f ih=>
  intro hf top l hB hl lo h hlo;have hll:=Jk l;have e1:65-(f+1)=64-f:=om;have e2:64-f+1=65-f:=om;rw[e1];obtain⟨i',hL⟩:=JLc (lo:=lo) (h:=h) (top:=top) (d:=64-f) (sub:=QD f false) hlo hl hB om (λ_ ks hk hn lo h hlo=>by rw[e2];exact ih om false ks hk hn lo h hlo) (l.length+1) 0 [] (by rw[AG];omega) (by rw[AG,Am];omega)
  rw[AG,Af]at hL;have ed:decide (64-f<=64)=true:=by rw[decide_eq_true_iff];omega
  rw[ed]at hL;have er:QD (f+1) top l=Kr (QD f false) true top (l.length+1) l:=by rw[QD]
  rw[er];generalize Kr (QD f false) true top (l.length+1) l=Z at*;have n0:((0:Nat):Int)=0:=rfl;rw[e20];simp only[K9,j9,Tryz.f20,JG,JT,JC,go_sem,N44,n0,Y3,Ae,Af]at hL;simp only[go_sem,j9,Tryz.f20,hlo,hL,n0]<;>rfl
theorem f11{l:List Tk4}(hlo:lo<=h.length)(hl:l.length<=500000000)(hB:∀t∈l,jM t):E lo 11 [.list .no (l.map row)] h=some (.list .no (J2 (rules (vals l))),h):=by have hn:=js l;have c21:=f21 (lo:=lo) (h:=h) (l:=l) hlo om;have c20:=f20 64 (Ac _) true (vals l) (yS hB) om lo h hlo;have e1:((65-64:Nat):Int)=1:=rfl;rw[e1]at c20;rw[e11];simp only[go_sem,b11,Tryz.f11,hlo,c21,c20]<;>rfl
abbrev N49(t p q:Nat)(out:List Dc):Ja:=[(0,.ptr t 0),(1,.v (.int .i64 p)),(2,.v (.int .i64 q)),(7,.list .yes (out.map J1))]
theorem nh2(a b:Int)(v:PV):JX [a,b] v=KA a b (cvV v):=by unfold JX KA;rw[HG];simp only[C9,DK,DO,Bool.not_or];rfl
theorem nh1(a:Int)(v:PV):JX [a] v=KA a a (cvV v):=by unfold JX KA;rw[HG];simp only[C9,DK,DO,BS];rfl
theorem GB{x:Option Int}{b:Bool}{v:PV}(hg:QJ x b v)(h:JN v.t.k=0):(Jl v).length=1:=by
 cases v with
 |leaf t=>rw[Jl];rfl
 |node t ks c=>
  have hc:JN t.k≠0:=by
   cases c with
   |none=>exact(J9.1 hg).1
   |some e=>exact(KG.1 hg).1
  exact absurd h hc
theorem ri2(a b:Int):ri .i64 [a,b]=[[.v (.int .i64 a)],[.v (.int .i64 b)]]:=rfl
theorem ri1(a:Int):ri .i64 [a]=[[.v (.int .i64 a)]]:=rfl
structure TOk(h:Heap)(l:List Tk4)(E D:List Nat)(t:Nat):Prop where
 tx:TX h l E D t
 le:E.length=l.length
 ld:D.length=l.length
 ll:l.length<=1000000000
 bd:∀p,E.getD p 0<=l.length
theorem TX.lt{H:Heap}{l:List Tk4}{E' D:List Nat}{t:Nat}(h:TX H l E' D t):decide (t<H.length)=true:=by obtain⟨e,d,_,_,h3⟩:=h;rw[decide_eq_true_iff];exact(Ab.1 h3).1
theorem JUq{l:List Tk4}{E' D:List Nat}{t p q:Nat}{out:List Dc}{v:PV}{r:List PV}{X:Heap}{ex:Ja}(hT:TOk h l E' D t)(hlo:lo<=h.length)(hA:LaidAt l E' D p q (v::r))(ho:out.length<=1000000000)(hB:∀y∈Jh (v::r),BtV y)(hn:JM (Jh (v::r))<=1000000000):
  ∃X' G' p' ex',evCode ⟨Aa,E,lo,h.length,h30⟩ JA Gk (N49 t p q out++ex,h++X)=some (.normal,
   N49 t p' q (out++(if(v.t.k==13||v.t.k==17)=true then[]else if(v.t.k==3)=true then[]else(Wt (Jh ((v::r).takeWhile (JX [17])))).toList))++ex',h++X')/\LaidAt l E' D p' q G'/\
   G'=(if(v.t.k==13||v.t.k==17)=true then r else if(v.t.k==3)=true then((v::r).dropWhile (JX [17,23])).tail else(v::r).dropWhile (JX [17])):=by
 obtain⟨e,d,t1,t2,t3⟩:=hT.tx.look;have t30:=t3 [];rw[Aq]at t30;have tlt:=hT.tx.lt;have hl:=hT.ll;have hhd:=hA.head;have hp:p<l.length:=(Ab.1 hhd).1
 have hgr:(l.map row)[p]? =some (row v.t):=by rw[Ao,hhd];rfl
 have hpq:=hA.lt;have hql:=hA.le;have q1:decide ((p:Int)<(q:Int))=true:=by simpa using hpq
 have hw:=JD (i:=p) om;obtain⟨x0,b0,hg0⟩:=hA.good;have hgv:=(Ju.1 hg0).1;have htl:=hA.tail;simp only[row]at hgr;by_cases h1:(v.t.k==13)=true
 ·have hone:=GB hgv (by rw[show v.t.k=13 by simpa using h1];rfl)
  rw[hone]at htl;refine⟨[],r,p+1,[],?_,htl,by rw[if_pos (by rw[h1];rfl)]⟩
  rw[if_pos (by rw[h1];rfl),Aq]
  simp only[N49,Ae,Af,go_sem,Gk,b30,Tryz.f30,hlo,q1,tlt,t3,t30,hgr,hw,h1,Aq]<;>rfl
 have h1:(v.t.k==13)=false:=by simpa using h1
 by_cases h2:(v.t.k==17)=true
 ·have hone:=GB hgv (by rw[show v.t.k=17 by simpa using h2];rfl)
  rw[hone]at htl;refine⟨[],r,p+1,[],?_,htl,by rw[if_pos (by rw[h2];simp)]⟩
  rw[if_pos (by rw[h2];simp),Aq]
  simp only[N49,Ae,Af,go_sem,Gk,b30,Tryz.f30,hlo,q1,tlt,t3,t30,hgr,hw,h1,h2,Aq]<;>rfl
 have h2:(v.t.k==17)=false:=by simpa using h2
 have h12:¬(v.t.k==13||v.t.k==17)=true:=by rw[h1,h2];simp
 by_cases h3:(v.t.k==3)=true
 ·have hk3:v.t.k=3:=by simpa using h3
  have hone:=GB hgv (by rw[hk3];rfl)
  rw[hone]at htl;have hnv:JX [17,23] v=true:=by unfold JX;rw[hk3];rfl
  have c26:=f26 (lo:=lo) (ks:=[17,23]) hT.tx hlo (by simp) hT.le hT.ld hl hT.bd htl
  have hC:=htl.cut (JX [17,23]);rw[ri2]at c26;generalize hp':p+1+(toksL (r.takeWhile (JX [17,23]))).length=p' at*;generalize Jf 64 (Jh (r.takeWhile (JX [17,23])))=fine at*;have eG:(v::r).dropWhile (JX [17,23])=r.dropWhile (JX [17,23]):=by rw[AD,if_pos hnv]
  rw[eG]
  cases hG:r.dropWhile (JX [17,23])with
  |nil=>
   rw[hG]at hC;have hpq':=hC.nil;have q2:decide ((p':Int)<(q:Int))=false:=by rw[decide_eq_false_iff_not];omega
   refine⟨[],[],p',[(41,.v (.bool false))],?_,hC,by rw[if_neg h12,if_pos h3];rfl⟩
   rw[if_neg h12,if_pos h3,Aq]
   simp only[N49,Ae,Af,go_sem,Gk,b30,Tryz.f30,hlo,q1,q2,tlt,t3,t30,hgr,hw,h1,h2,h3,c26,Aq]<;>rfl
  |cons c R=>
   rw[hG]at hC;have q2:decide ((p':Int)<(q:Int))=true:=by have:=hC.lt;rw[decide_eq_true_iff];omega
   have c28:=f28 (lo:=lo) (q:=q) hT.tx hlo hT.le hl (hT.bd p') hC.head;rw[hC.over]at c28;refine⟨[],R,p'+(Jl c).length,[(41,.v (.bool true))],?_,hC.tail,by rw[if_neg h12,if_pos h3];rfl⟩
   rw[if_neg h12,if_pos h3,Aq];simp only[N49,Ae,Af,go_sem,Gk,b30,Tryz.f30,hlo,q1,q2,tlt,t3,t30,hgr,hw,h1,h2,h3,c26,c28,Aq]<;>rfl
 have h3:(v.t.k==3)=false:=by simpa using h3
 have h3n:¬(v.t.k==3)=true:=by rw[h3];simp
 rw[if_neg h12,if_neg h3n];have c26:=f26 (lo:=lo) (ks:=[17]) hT.tx hlo (by simp) hT.le hT.ld hl hT.bd hA
 have hC:=hA.cut (JX [17]);have hF:=hA.front (JX [17]);rw[ri1]at c26
 have hnv:JX [17] v=true:=by rw[nh1];unfold KA;rw[HG];simp[bne,h2]
 have etw:(v::r).takeWhile (JX [17])=v::r.takeWhile (JX [17]):=by rw[BK,if_pos hnv]
 have hsub:∀y∈Jh ((v::r).takeWhile (JX [17])),y∈Jh (v::r):=λy hy=>by rw[GA (JX [17]) (KA 17 17) (nh1 17)]at hy;exact(Bj _).subset hy
 have hnn:JM (Jh ((v::r).takeWhile (JX [17])))<=JM (Jh (v::r)):=by rw[GA (JX [17]) (KA 17 17) (nh1 17)];exact QH (Bj _)
 refine⟨if(v.t.k==1)=true then(match Wt (Jh ((v::r).takeWhile (JX [17])))with
   |some dd=>[.cells (J1 dd)]
   |none=>[.cells (J1 zd)])else[],(v::r).dropWhile (JX [17]),p+(toksL ((v::r).takeWhile (JX [17]))).length,if(v.t.k==1)=true then(match Wt (Jh ((v::r).takeWhile (JX [17])))with
   |some dd=>[]
   |none=>[(9,.ptr h.length 0),(70,.v (.bool false))])else[(8,.v (.int .i64 p)),(62,.v (.bool false))],?_,hC,by rw[if_neg h12,if_neg h3n]⟩
 have hnn2:=hnn;rw[etw]at hnn2;generalize hfin:Jf 64 (Jh ((v::r).takeWhile (JX [17])))=fine at*;by_cases hk1:(v.t.k==1)=true
 ·rw[if_pos hk1,if_pos hk1]
  rw[etw]at hF;have c48:=f48 (lo:=lo) (h:=h) hT.tx hlo hT.le hT.ld hl hT.bd hF (by simpa using hk1) (λy hy=>hB y (hsub y (by rw[etw];exact hy))) om
  rw[<-etw]at c48;generalize p+(toksL ((v::r).takeWhile (JX [17]))).length=p' at*;generalize Jh ((v::r).takeWhile (JX [17]))=m at*;have l1:lo<=h.length+1:=om
  cases hdc:Wt m with
  |none=>
   rw[hdc]at c48;simp only[dcR,J1,zd,Jc]at c48⊢;rw[Option.toList_none,Aq]
   simp only[N49,Ae,Af,go_sem,Gk,b30,Tryz.f30,hlo,l1,q1,tlt,t3,t30,hgr,h1,h2,h3,hk1,c26,c48,Aq]<;>rfl
  |some dd=>
   rw[hdc]at c48;simp only[dcR,J1]at c48⊢;have eo:out.map J1++[[.v (.string (Rul.bs dd.name)),.list .no (JH dd.val),.v (.bool dd.imp)]]=(out++[dd]).map J1:=by rw[D4];rfl
   have o1:=JRd ho;have o2:=Hy ho;have rao:=JDc out;have rbo:=km out;rw[Option.toList_some];simp only[N49];rw[<-eo];have rlo:(out.map J1).length=out.length:=Av _;generalize out.map J1=O at*;simp only[Ae,Af,go_sem,Gk,b30,Tryz.f30,hlo,l1,q1,tlt,t3,t30,hgr,h1,h2,h3,hk1,c26,c48,o1,o2,rao,rbo,rlo,Aq]<;>rfl
 ·have hk1:(v.t.k==1)=false:=by simpa using hk1
  rw[if_neg (by rw[hk1];simp),if_neg (by rw[hk1];simp)]
  have hdn:Wt (Jh ((v::r).takeWhile (JX [17])))=none:=by rw[etw,Jh,Wt,if_pos (by rw[HG];simp[bne,hk1])]
  rw[hdn,Option.toList_none,Aq];generalize p+(toksL ((v::r).takeWhile (JX [17]))).length=p' at*;simp only[N49,Ae,Af,go_sem,Gk,b30,Tryz.f30,hlo,q1,tlt,t3,t30,hgr,h1,h2,h3,hk1,c26,Aq]<;>rfl
theorem JZl{t q:Nat}{out:List Dc}{X:Heap}{ex:Ja}(hlo:lo<=h.length)(tlt:decide (t<h.length)=true):
  evCode ⟨Aa,E,lo,h.length,h30⟩ JA Gk (N49 t q q out++ex,h++X)=some (.exit 0,N49 t q q out++[(13,.v (.bool false))],h):=by
 have q1:decide ((q:Int)<(q:Int))=false:=by simp
 simp only[N49,Ae,Af,go_sem,Gk,b30,Tryz.f30,hlo,q1,tlt]<;>rfl
theorem JRh{l:List Tk4}{E' D:List Nat}{t q:Nat}(hT:TOk h l E' D t)(hlo:lo<=h.length):∀(n:Nat) (G:List PV) (p:Nat) (out:List Dc) (X:Heap) (ex:Ja),G.length<n->LaidAt l E' D p q G->out.length+G.length<=1000000000->(∀y∈Jh G,BtV y)->JM (Jh G)<=1000000000->
  JA (evCode ⟨Aa,E,lo,h.length,h30⟩ JA Gk) (N49 t p q out++ex,h++X)=some (.exit 0,N49 t q q (out++QC n (Jh G))++[(13,.v (.bool false))],h)
 |0,G,p,out,X,ex,hn,_,_,_,_=>by omega
 |n+1,[],p,out,X,ex,hn,hA,ho,hB,hnn=>by
  obtain rfl:=hA.nil
  rw[JB,JZl hlo hT.tx.lt,KP,Jh,QC,Aq]
 |n+1,v::r,p,out,X,ex,hn,hA,ho,hB,hnn=>by
  simp only[Ag]at hn ho;obtain⟨X',G',p',ex',hr,hA',hG'⟩:=JUq (X:=X) (out:=out) (ex:=ex) hT hlo hA om hB hnn
  have hnv:∀{f:PV->Bool},((v::r).dropWhile f).length<=r.length+1:=λ{f}=>by
   have:=(AA (p:=f) (l:=v::r)).length_le
   rwa[Ag]at this
  have hsub:∀y∈Jh G',y∈Jh (v::r):=by
   rw[hG'];intro y hy
   split at hy
   ·rw[Jh];simp[hy]
   ·split at hy
    ·rw[ZW]at hy⊢
     obtain⟨z,hz,rfl⟩:=AK.1 hy;exact AK.2 ⟨z,(AA _).subset (List.mem_of_mem_tail hz),rfl⟩
    ·rw[ZW]at hy⊢
     obtain⟨z,hz,rfl⟩:=AK.1 hy;exact AK.2 ⟨z,(AA _).subset hz,rfl⟩
  have hnodes:JM (Jh G')<=JM (Jh (v::r)):=by
   have hs:Jh G'<:+Jh (v::r):=by
    rw[hG',ZW,ZW]
    have key:∀{a b:List PV},a<:+b->a.map cvV<:+b.map cvV:=λh=>by obtain⟨p,rfl⟩:=h;exact⟨p.map cvV,by rw[D4]⟩
    apply key
    split
    ·exact List.suffix_cons _ _
    ·split
     ·exact(Dp _).trans (AA _)
     ·exact AA _
   exact Jy hs
  have hlen:G'.length<=r.length:=by
   rw[hG']
   split
   ·exact Ac _
   ·rename_i h12
    split
    ·rw[List.length_tail];have:= @hnv (JX [17,23]);omega
    ·have hh:JX [17] v=true:=by
      rw[nh1];unfold KA;rw[HG];simp only[AN,beq_iff_eq,not_or]at h12;simp[h12.2]
     rw[AD,if_pos hh];exact(AA _).length_le
  rw[JB,hr,JK];generalize hput:(if(v.t.k==13||v.t.k==17)=true then[]else if(v.t.k==3)=true then[]else(Wt (Jh ((v::r).takeWhile (JX [17])))).toList)=put at*
  have hpl:put.length<=1:=by
   rw[<-hput]
   repeat' split
   ·exact A0 _
   ·exact A0 _
   ·cases Wt (Jh ((v::r).takeWhile (JX [17])))<;>simp
  rw[JRh hT hlo n G' p' (out++put) X' ex' om hA' (by rw[An];omega) (λy hy=>hB y (hsub y hy)) om]
  have ed:QC (n+1) (Jh (v::r))=put++QC n (Jh G'):=by
   rw[Jh,QC,HG,<-hput,hG'];by_cases h1:(v.t.k==13||v.t.k==17)=true
   ·rw[if_pos h1,if_pos h1,if_pos h1];rfl
   ·rw[if_neg h1,if_neg h1,if_neg h1]
    by_cases h3:(v.t.k==3)=true
    ·rw[if_pos h3,if_pos h3,if_pos h3,Af]
     congr 1
     have e2:∀L:List PV,Jh L.tail=(Jh L).tail:=λL=>by rw[ZW,ZW,List.map_tail]
     rw[e2,Z9 (JX [17,23]) (KA 17 23) (nh2 17 23),Jh]
    ·rw[if_neg h3,if_neg h3,if_neg h3,Z9 (JX [17]) (KA 17 17) (nh1 17),GA (JX [17]) (KA 17 17) (nh1 17),Jh]
  rw[ed,Aw]
theorem f30{l:List Tk4}{E' D:List Nat}{t p q:Nat}{G:List PV}(hT:TOk h l E' D t)(hlo:lo<=h.length)(hA:LaidAt l E' D p q G)(hB:∀y∈Jh G,BtV y)(hn:JM (Jh G)<=1000000000):
  E lo 30 [.ptr t 0,.v (.int .i64 p),.v (.int .i64 q)] h=some (.list .no ((decls (Jh G)).map J1),h):=by
 have hgl:G.length<=1000000000:=by have:=Jk (Jh G);rw[JGm]at this;omega
 have hL:=JRh (lo:=lo) (h:=h) hT hlo (G.length+1) G p [] [] [] om hA (by rw[Am];omega) hB hn
 have ed:QC (G.length+1) (Jh G)=decls (Jh G):=by unfold decls;rw[JGm]
 rw[ed,Af]at hL;rw[e30];simp only[Gk,b30,Tryz.f30,JG,JT,JC,go_sem,N49,Cm,Aq,Ae,Af]at hL;simp only[go_sem,b30,Tryz.f30,hlo,hL]<;>rfl
theorem JUr(l:List Tk4):∀p,(YZ l).E.getD p 0<=l.length:=by
 have hs:∀(a:Nat) (s:LS),a<=l.length->(∀p,s.E.getD p 0<=l.length)->∀p,(Qk a s).E.getD p 0<=l.length:=λa s ha hE=>by
  obtain⟨st,E',D⟩:=s
  match st with
  |[]=>exact hE
  |[i]=>exact YM hE ha
  |i::j::r=>exact YM hE ha
 have hr:∀(m:List Tk4) (i:Nat) (s:LS),i+m.length<=l.length->(∀p,s.E.getD p 0<=l.length)->∀p,(runL l i m s).E.getD p 0<=l.length:=by
  intro m
  induction m with
  |nil=>intro i s _ h;rw[runL];exact h
  |cons x m ih=>
   intro i s hi h;rw[Ag]at hi;rw[runL];refine ih (i+1) _ om ?_
   unfold Gj
   split
   ·exact h
   ·split
    ·exact hs i s om h
    ·exact h
 have hk:∀(k:Nat) (s:LS),(∀p,s.E.getD p 0<=l.length)->∀p,(shutK l.length k s).E.getD p 0<=l.length:=by
  intro k
  induction k with
  |zero=>intro s h;rw[shutK];exact h
  |succ k ih=>intro s h;rw[shutK];exact ih _ (hs _ s (Ac _) h)
 exact hk _ _ (hr l 0 _ om λp=>by by_cases hq:p<l.length<;>simp[List.getD_eq_getElem?_getD,hq])
theorem JZm{l:List Tk4}(p q:Heap)(hl:l.length<=500000000):TOk (p++(tx p l (YZ l).E (YZ l).D++q)) l (YZ l).E (YZ l).D (p.length+2):=by obtain⟨F,rfl,hg⟩:=zp l;have h:=JMA hg;exact⟨TX.of p _ _ _ q,h.2.1,h.2.2,om,JUr _⟩
theorem JUs{F:List PV}{x:Option Int}{b:Bool}(hg:Ko x b F):LaidAt (toksL F) (YZ (toksL F)).E (YZ (toksL F)).D 0 (toksL F).length F:=
 ⟨λk hk=>by rw[AB],(JMA hg).1,⟨x,b,hg⟩,AB _,Ac _⟩
def Lv(l:List Tk4)(E D:List Nat)(a q:Nat)(G:List PV):Prop:=LaidAt l E D a q G\/(G=[]/\q<=a)
theorem JB4{S:List V}{i j:Nat}{x y:V}(hij:i≠j)(h:S[j]? =some y):(S.set i x).set j y=S.set i x:=by
 apply List.ext_getElem?;intro k;rw[List.getElem?_set]
 split
 ·rename_i e
  subst e;rw[Dq hij,h]
  have:j<S.length:=(Ab.1 h).1
  simp[this]
 ·rfl
theorem f17{p:Heap}{l:List Tk4}{E' D:List Nat}{a q n d:Nat}{S:List V}{out:List Ru}{v:PV}{r:List PV}{top:Bool}(hlo:lo<=p.length)
  (hT:∀Q:Heap,TOk (p++(tx p l E' D++Q)) l E' D (p.length+2))(hA:LaidAt l E' D a q (v::r))
  (g0:S[n*8]? =some (.v (.int .i64 a)))(g1:S[n*8+1]? =some (.v (.int .i64 q)))(g2:S[n*8+2]? =some (.list .yes (J2 out)))(hS:n*8+8<=S.length)
  (ho:out.length<=1000000000)(hB:Qf jM (Jh (v::r)))(hn:JM (Jh (v::r))<=1000000000)(hd:d<=1000)
  (k1:(v.t.k==13||(top&&(v.t.k==14||v.t.k==15)))=false)(k3:(v.t.k==3)=false)(sub:List CV->List Ru):
  ∃a' G',E lo 17 [.ptr (p.length+2) 0,.ptr (p.length+3) (n*8),.v (.int .i64 d)] (p++(tx p l E' D++[.cells S]))=
   some (.tup [],p++(tx p l E' D++[.cells ((S.set (n*8) (.v (.int .i64 (a':Nat)))).set (n*8+2) (.list .yes (J2 (out++(KH sub (decide (d<=64)) top (cvV v) (Jh r)).1))))]))/\
   Lv l E' D a' q G'/\Jh G'=(KH sub (decide (d<=64)) top (cvV v) (Jh r)).2:=by
 have hll:=(hT []).ll;have hTQ:=λQ:List V=>hT [.cells Q]
 have hlh:∀Q:List V,lo<=(p++(tx p l E' D++[Ob.cells Q])).length:=λQ=>by simp;omega
 have hlh2:∀Q:List V,p.length+4<=(p++(tx p l E' D++[Ob.cells Q])).length:=λQ=>by simp
 have c26:=λQ=>f26 (ks:=[23]) (hTQ Q).tx (hlh Q) (by simp) (hT []).le (hT []).ld hll (hT []).bd hA
 rw[ri1]at c26;have hC:=hA.cut (JX [23]);have hF:=hA.front (JX [23]);have c29:=λQ=>f29 (hTQ Q).tx (hlh2 Q) hll hF
 have hql:=hA.le;have hlt:=hA.lt;have ek1:((cvV v).k==13||(top&&((cvV v).k==14||(cvV v).k==15)))=false:=by rw[HG];exact k1
 have ek3:((cvV v).k==3)=false:=by rw[HG];exact k3
 have e0:cvV v::Jh r=Jh (v::r):=by rw[Jh]
 have es:KH sub (decide (d<=64)) top (cvV v) (Jh r)=match Jh ((v::r).dropWhile (JX [23]))with
   |[]=>([],[])
   |x::s=>(if(!Jf 64 (Jh ((v::r).takeWhile (JX [23])))&&decide (d<=64))=true then[Ru.mk 1 [] (trim (Jh ((v::r).takeWhile (JX [23])))) (decls x.ks) []]else[],s):=by
  unfold KH;rw[ek1,ek3,if_neg (by simp),if_neg (by simp),e0,Z9 (JX [23]) (KA 23 23) (nh1 23),GA (JX [23]) (KA 23 23) (nh1 23)]
  all_goals rfl
 rw[es];have hsub:∀y∈(v::r).dropWhile (JX [23]),y∈v::r:=λy hy=>(AA _).subset hy
 generalize hb:a+(toksL ((v::r).takeWhile (JX [23]))).length=b at*;generalize (v::r).takeWhile (JX [23])=P at*;generalize hG:(v::r).dropWhile (JX [23])=G at*;have hbl:b<=l.length:=by have:=hC.len;omega
 have hw:=JD (i:=b) om;have l1:lo<=p.length+1:=om;have l2:lo<=p.length+2:=om;have l3:lo<=p.length+3:=om;have s1:∀x,(S.set (n*8) x)[n*8+1]? =some (.v (.int .i64 q)):=λx=>by rw[Dq om];exact g1
 have s2:∀x,(S.set (n*8) x)[n*8+2]? =some (.list .yes (J2 out)):=λx=>by rw[Dq om];exact g2
 have m0:n*8+1<=S.length:=om;have m1:n*8+2+1<=S.length:=om;have m2:n*8+3<=S.length:=om
 have hkk:∀(x y z:V),((S.set (n*8) z).set (n*8+2) y).take (n*8+2)++x::((S.set (n*8) z).set (n*8+2) y).drop (n*8+2+1)=(S.set (n*8) z).set (n*8+2) x:=λx y z=>by rw[Zd (by rw[AO,AO];omega),BL]
 have hkk3:∀(x y z:V),((S.set (n*8) z).set (n*8+2) y).take (n*8+2)++x::((S.set (n*8) z).set (n*8+2) y).drop (n*8+3)=(S.set (n*8) z).set (n*8+2) x:=hkk
 have qd:decide (64<(d:Int))= !decide (d<=64):=by rw[Cu];simp;omega
 simp only[tx,Ae,Af]at c26 c29
 cases G with
 |nil=>
  have hbq:=hC.nil;have q2:decide ((q:Int)<=(b:Int))=true:=by rw[decide_eq_true_iff];omega
  refine⟨b+1,[],?_,.inr ⟨rfl,om⟩,by rw[Jh]⟩
  rw[Jh];simp only[Aq];rw[JB4 om g2];rw[e17]
  simp only[tx,Ae,Af,go_sem,b17,Tryz.f17,hlo,l1,l2,l3,g0,g1,s1,m0,c26,hw,q2,AO]<;>rfl
 |cons x s=>
  have hbq:=hC.lt;have q2:decide ((q:Int)<=(b:Int))=false:=by rw[decide_eq_false_iff_not];omega
  have c28:=λQ=>f28 (q:=q) (hTQ Q).tx (hlh Q) (hT []).le hll ((hT []).bd b) hC.head
  rw[hC.over]at c28;simp only[tx,Ae,Af]at c28
  have hxk:x.t.k=23:=by
   have:=Lo (JX [23]) (v::r)
   rw[hG]at this;simp only[Mz]at this
   have h5:JX [23] x=false:=by simpa using this
   unfold JX at h5;simp only[C9,DK,DO,Bool.not_eq_false',beq_iff_eq]at h5;exact h5
  rw[Jh];have hov:=hC.tail;refine⟨b+(Jl x).length,s,?_,.inl hov,rfl⟩
  generalize hbo:b+(Jl x).length=bo at*
  cases hdp:Jf 64 (Jh P)with
  |true=>
   rw[hdp]at c26;simp only[Bm,Bool.false_and,As,if_false,Aq];rw[JB4 om g2];rw[e17]
   simp only[tx,Ae,Af,go_sem,b17,Tryz.f17,hlo,l1,l2,l3,g0,g1,s1,m0,c26,c28,hw,q2,Bm,Bh,AO,BL]<;>rfl
  |false=>
   rw[hdp]at c26
   cases hlv:decide (d<=64)with
   |false=>
    rw[hlv]at qd;simp only[Bm,BZ,As,if_false,Aq];rw[JB4 om g2];rw[e17]
    simp only[tx,Ae,Af,go_sem,b17,Tryz.f17,hlo,l1,l2,l3,g0,g1,s1,m0,c26,c28,hw,q2,qd,Bm,Bh,AO,BL]<;>rfl
   |true=>
    rw[hlv]at qd;have hxm:=hsub x (by simp)
    have hxc:cvV x∈Jh (v::r):=by rw[ZW];exact AK.2 ⟨x,hxm,rfl⟩
    obtain⟨y0,b0,hg0⟩:=hC.good;have hgx:=(Ju.1 hg0).1
    cases x with
    |leaf t=>
     exfalso;have h5:=(Ky.1 hgx).1;have h6:t.k=23:=hxk;rw[h6]at h5
     exact absurd h5 (by decide)
    |node t ks c=>
     have hK:=hC.kids;have hxa:=(Ks.1 hB _ hxc).2
     have hxn:JM (Jh ks)<=JM (Jh (v::r)):=by
      have:=WJ hxc;rw[Qh]at this;have e5:(cvV (.node t ks c)).ks=Jh ks:=by rw[cvV];rfl
      rw[e5]at this;omega
     have e5:(cvV (.node t ks c)).ks=Jh ks:=by rw[cvV];rfl
     rw[e5]at hxa;have c30:=λQ=>f30 (hTQ Q) (hlh2 Q) hK (λy hy=>(Ks.1 hxa y hy).1) om
     have hmin:(if(q:Int)<((E'.getD b 0:Nat):Int)then(q:Int)else((E'.getD b 0:Nat):Int))=((min (E'.getD b 0) q:Nat):Int):=by split<;>omega
     have gE:=Gl (show b<E'.length by rw[(hT []).le];omega)
     have qb:(b:Int)<(l.length:Int):=om;simp only[tx,Ae,Af]at c30;have hrl:=K8 out;have o1:=JRe ho;have o2:=Hy ho;have rao:=JBM out;have rbo:=HK out;have ez:Rul.bs []=A6:=rfl;simp only[Bh,BS,if_true];rw[e5];rw[<-qR,ruV,Y3,ez];generalize (decls (Jh ks)).map J1=Z at*
     generalize JH (trim (Jh P))=W at*;generalize J2 out=O at*;rw[e17];simp only[tx,Ae,Af,go_sem,b17,Tryz.f17,hlo,l1,l2,l3,g0,g1,s1,s2,m0,m1,m2,hkk,hkk3,c26,c28,c29,c30,hw,q2,qd,qb,gE,hmin,o1,o2,rao,rbo,hrl,Bm,Bh,AO,BL,BC]<;>rfl
def Hc:List V:=[.v (.int .i64 0),.v (.int .i64 0),.nil,.v (.int .i64 0),.v (.string A6),.nil,.nil,.nil]
def Hd(a q:Nat)(nm:List Int)(pr:List CV):List V:=[.v (.int .i64 a),.v (.int .i64 q),.nil,.v (.int .i64 2),.v (.string (Rul.bs nm)),.list .no (JH pr),.nil,.nil]
theorem f16{p:Heap}{l:List Tk4}{E' D:List Nat}{a q n d:Nat}{S:List V}{v:PV}{r:List PV}{top:Bool}(hlo:lo<=p.length)
  (hT:∀Q:Heap,TOk (p++(tx p l E' D++Q)) l E' D (p.length+2))(hA:LaidAt l E' D a q (v::r))
  (g0:S[n*8]? =some (.v (.int .i64 a)))(g1:S[n*8+1]? =some (.v (.int .i64 q)))(hS:n*8+8<=S.length)
  (hB:Qf jM (Jh (v::r)))(hn:JM (Jh (v::r))<=1000000000)(hd:d<=1000)(k3:(v.t.k==3)=true):
  ∃a' G',Lv l E' D a' q G'/\
   ((∃nm pr K a1 q1,E lo 16 [.ptr (p.length+2) 0,.ptr (p.length+3) (n*8),.v (.int .i64 d)] (p++(tx p l E' D++[.cells S]))=
     some (.tup [.agg (Hd a1 q1 nm pr),.v (.bool true)],p++(tx p l E' D++[.cells (S.set (n*8) (.v (.int .i64 (a':Nat))))]))/\LaidAt l E' D a1 q1 K/\d<=64/\(∀y∈Jh K,∃z∈Jh (v::r),y∈z.ks)/\JM (Jh K)+1+JM (Jh G')<=JM (Jh r)/\
     ∀sub,KH sub (decide (d<=64)) top (cvV v) (Jh r)=([Ru.mk 2 nm pr [] (sub (Jh K))],Jh G'))\/
    (E lo 16 [.ptr (p.length+2) 0,.ptr (p.length+3) (n*8),.v (.int .i64 d)] (p++(tx p l E' D++[.cells S]))=
     some (.tup [.agg Hc,.v (.bool false)],p++(tx p l E' D++[.cells (S.set (n*8) (.v (.int .i64 (a':Nat))))]))/\
     ∀sub,KH sub (decide (d<=64)) top (cvV v) (Jh r)=([],Jh G'))):=by
 have hll:=(hT []).ll;have hTQ:=λ(Q:List V) (X:Ob)=>hT [.cells Q,X]
 have hlh:∀(Q:List V) (X:Ob),lo<=(p++(tx p l E' D++[Ob.cells Q,X])).length:=λQ X=>by simp;omega
 have hk3:v.t.k=3:=by simpa using k3
 obtain⟨y1,b1,hg1⟩:=hA.good;have hone:=GB (Ju.1 hg1).1 (by rw[hk3];rfl)
 have hA1:=hA.tail;rw[hone]at hA1;have hhd:=hA.head;have hal:a<l.length:=(Ab.1 hhd).1
 have hgr:(l.map row)[a]? =some (row v.t):=by rw[Ao,hhd];rfl
 have hBv:jM v.t:=by
  have:=(Ks.1 hB (cvV v) (by rw[Jh];simp)).1
  rw[JQT]at this;exact this
 have hwa:=JD (i:=a) om;have c26:=λQ X=>f26 (ks:=[17,23]) (hTQ Q X).tx (hlh Q X) (by simp) (hT []).le (hT []).ld hll (hT []).bd hA1
 rw[ri2]at c26;have hC:=hA1.cut (JX [17,23]);have hF:=hA1.front (JX [17,23]);have c29:=λQ X=>f29 (hTQ Q X).tx (hlh Q X) hll hF
 have c27:=λ(Q:List V) (X:Ob)=>f27 (lo:=lo) (h:=p++(tx p l E' D++[Ob.cells Q,X])) (l:=v.t.b) (hlh Q X) (by have:=hBv.2;omega) hBv.1
 have c27:∀(Q:List V) (X:Ob),E lo 27 [.v (.string (Rul.bs v.t.b))] (p++(tx p l E' D++[Ob.cells Q,X]))=some (.v (.string (Rul.bs (Js v.t.b))),p++(tx p l E' D++[Ob.cells Q,X])):=c27;have hql:=hA.le;have ek1:((cvV v).k==13||(top&&((cvV v).k==14||(cvV v).k==15)))=false:=by rw[HG,hk3];simp
 have ek3:((cvV v).k==3)=true:=by rw[HG];exact k3
 have hnv:KA 17 23 (cvV v)=true:=by unfold KA;rw[HG,hk3];rfl
 have es:∀sub,KH sub (decide (d<=64)) top (cvV v) (Jh r)=match Jh (r.dropWhile (JX [17,23]))with
   |[]=>([],[])
   |x::s=>(if(x.k==23&&Q7 (Js v.t.b)&& !Jf 64 (Jh (r.takeWhile (JX [17,23])))&&decide (d<=64))=true then[Ru.mk 2 (Js v.t.b) (trim (Jh (r.takeWhile (JX [17,23])))) [] (sub x.ks)]else[],s):=λsub=>by
  unfold KH;rw[ek1,ek3,if_neg (by simp),if_pos rfl,AD,if_pos hnv,BK,if_pos hnv,Z9 (JX [17,23]) (KA 17 23) (nh2 17 23),GA (JX [17,23]) (KA 17 23) (nh2 17 23),JQT]
  all_goals rfl
 have hrn:JM (Jh (r.takeWhile (JX [17,23])))+JM (Jh (r.dropWhile (JX [17,23])))=JM (Jh r):=by rw[<-Wv,<-JTs,List.takeWhile_append_dropWhile]
 have hrm:∀y∈r.dropWhile (JX [17,23]),y∈r:=λy hy=>(AA _).subset hy
 have hhit:∀x s,r.dropWhile (JX [17,23])=x::s->x.t.k=17\/x.t.k=23:=λx s e=>by
  have:=Lo (JX [17,23]) r
  rw[e]at this;simp only[Mz]at this
  have h5:JX [17,23] x=false:=by simpa using this
  unfold JX at h5;have h6:¬x.t.k=17->x.t.k=23:=by simpa using h5
  exact Decidable.or_iff_not_imp_left.2 h6
 generalize hb:a+1+(toksL (r.takeWhile (JX [17,23]))).length=b at*;generalize r.takeWhile (JX [17,23])=P at*;generalize r.dropWhile (JX [17,23])=G at*;have hbl:b<=l.length:=by have:=hC.len;omega
 have hw:=JD (i:=b) om;have l1:lo<=p.length+1:=om;have l2:lo<=p.length+2:=om;have l3:lo<=p.length+3:=om;have l4:lo<=p.length+4:=om;have l5:lo<=p.length+5:=om;have s1:∀x,(S.set (n*8) x)[n*8+1]? =some (.v (.int .i64 q)):=λx=>by rw[Dq om];exact g1
 have m0:n*8+1<=S.length:=om;have hk1:∀x:V,S.take (n*8)++x::S.drop (n*8+1)=S.set (n*8) x:=λx=>Zd om
 have qd:decide (64<(d:Int))= !decide (d<=64):=by rw[Cu];simp;omega
 simp only[row]at hgr;simp only[tx,Ae,Af]at c26 c27 c29
 cases G with
 |nil=>
  have hbq:=hC.nil;have q2:decide ((q:Int)<=(b:Int))=true:=by rw[decide_eq_true_iff];omega
  refine⟨b+1,[],.inr ⟨rfl,om⟩,.inr ⟨?_,λsub=>by rw[es,Jh]⟩⟩
  rw[e16 (by simp) (by rfl)]
  simp only[Hc,tx,Ae,Af,go_sem,b16,Tryz.f16,hlo,l1,l2,l3,l4,l5,g0,g1,s1,m0,hk1,c26,hw,hwa,q2,AO]<;>rfl
 |cons x s=>
  have hbq:=hC.lt;have q2:decide ((q:Int)<=(b:Int))=false:=by rw[decide_eq_false_iff_not];omega
  have hxr:(l.map row)[b]? =some (row x.t):=by rw[Ao,hC.head];rfl
  simp only[row]at hxr;obtain⟨y0,b0,hg0⟩:=hC.good;have hgx:=(Ju.1 hg0).1;rcases hhit x s rfl with hx17|hx23
  ·have hx1:=GB hgx (by rw[hx17];rfl)
   have hov:=hC.tail;rw[hx1]at hov;have k17:(x.t.k==17)=true:=by rw[hx17];rfl
   refine⟨b+1,s,.inl hov,.inr ⟨?_,λsub=>by
    rw[es,Jh];simp only[HG];rw[hx17]
    simp⟩⟩
   rw[e16 (by simp) (by rfl)]
   simp only[Hc,tx,Ae,Af,go_sem,b16,Tryz.f16,hlo,l1,l2,l3,l4,l5,g0,g1,s1,m0,hk1,c26,hw,hwa,q2,hxr,k17,AO]<;>rfl
  ·have k17:(x.t.k==17)=false:=by rw[hx23];rfl
   have c28:=λQ X=>f28 (q:=q) (hTQ Q X).tx (hlh Q X) (hT []).le hll ((hT []).bd b) hC.head
   rw[hC.over]at c28;simp only[tx,Ae,Af]at c28;have hov:=hC.tail
   have es2:∀sub,KH sub (decide (d<=64)) top (cvV v) (Jh r)=(if(Q7 (Js v.t.b)&& !Jf 64 (Jh P)&&decide (d<=64))=true then[Ru.mk 2 (Js v.t.b) (trim (Jh P)) [] (sub (cvV x).ks)]else[],Jh s):=λsub=>by rw[es,Jh];simp only[HG];rw[hx23];simp only[beq_self_eq_true,AR]
   have sm:=Y1 hBv.1;have e1:=WY sm JJc;have e2:=WY sm zK;have e3:=WY sm qM;refine⟨b+(Jl x).length,s,.inl hov,?_⟩
   generalize hbo:b+(Jl x).length=bo at*;generalize hsmall:Js v.t.b=m at*
   cases hdp:Jf 64 (Jh P)with
   |true=>
    rw[hdp]at c26
    right
    refine⟨?_,λsub=>by rw[es2,hdp];simp⟩
    rw[e16 (by simp) (by rfl)]
    simp only[Hc,tx,Ae,Af,go_sem,b16,Tryz.f16,hlo,l1,l2,l3,l4,l5,g0,g1,s1,m0,hk1,c26,c27,c28,hw,hwa,q2,hgr,hxr,k17,Bm,Bh,AO]<;>rfl
   |false=>
    rw[hdp]at c26
    cases hlv:decide (d<=64)with
    |false=>
     rw[hlv]at qd
     right
     refine⟨?_,λsub=>by have:=es2 sub;rw[hlv]at this;rw[this];simp⟩
     rw[e16 (by simp) (by rfl)]
     simp only[Hc,tx,Ae,Af,go_sem,b16,Tryz.f16,hlo,l1,l2,l3,l4,l5,g0,g1,s1,m0,hk1,c26,c27,c28,hw,hwa,q2,qd,hgr,hxr,k17,Bm,Bh,AO]<;>rfl
    |true=>
     rw[hlv]at qd;have eg:=JBv m
     cases hgp:Q7 m with
     |false=>
      rw[hgp]at eg;have h1:(m==jo)=false:=by cases hh:(m==jo)with|false=>rfl|true=>rw[hh]at eg;simp at eg
      have h2:(m==Wz)=false:=by cases hh:(m==Wz)with|false=>rfl|true=>rw[hh]at eg;simp at eg
      have h3:(m==W2)=false:=by cases hh:(m==W2)with|false=>rfl|true=>rw[hh]at eg;simp at eg
      rw[h1]at e1;rw[h2]at e2;rw[h3]at e3
      right
      refine⟨?_,λsub=>by have:=es2 sub;rw[hgp]at this;rw[hlv]at this;rw[this];simp⟩
      rw[e16 (by simp) (by rfl)]
      simp only[Hc,tx,Ae,Af,go_sem,b16,Tryz.f16,hlo,l1,l2,l3,l4,l5,g0,g1,s1,m0,hk1,c26,c27,c28,hw,hwa,q2,qd,hgr,hxr,k17,Gd,WK,Qr,e1,e2,e3,Bm,Bh,AO]<;>rfl
     |true=>
      left
      cases x with
      |leaf t=>
       exfalso;have h5:=(Ky.1 hgx).1;have h6:t.k=23:=hx23;rw[h6]at h5
       exact absurd h5 (by decide)
      |node t ks c=>
       have hK:=hC.kids;have e5:(cvV (.node t ks c)).ks=Jh ks:=by rw[cvV];rfl
       have hmin:(if(q:Int)<((E'.getD b 0:Nat):Int)then(q:Int)else((E'.getD b 0:Nat):Int))=((min (E'.getD b 0) q:Nat):Int):=by split<;>omega
       have gE:=Gl (show b<E'.length by rw[(hT []).le];omega)
       have qb:(b:Int)<(l.length:Int):=om;refine⟨m,trim (Jh P),ks,b+1,min (E'.getD b 0) q,?_,hK,by simpa using hlv,λy hy=>⟨cvV (.node t ks c),by rw[Jh,ZW r];exact AV _ (AK.2 ⟨_,hrm _ (by simp),rfl⟩),by rw[e5];exact hy⟩,?_,λsub=>by have:=es2 sub;rw[hgp]at this;rw[hlv]at this;rw[hdp]at this;rw[this,e5];simp⟩
       ·rw[e16 (by simp) (by rfl)]
        rw[hgp]at eg
        cases h1:(m==jo)with
        |true=>
         rw[h1]at e1
         simp only[Hd,tx,Ae,Af,go_sem,b16,Tryz.f16,hlo,l1,l2,l3,l4,l5,g0,g1,s1,m0,hk1,c26,c27,c28,c29,hw,hwa,q2,qd,qb,gE,hmin,hgr,hxr,k17,Gd,WK,Qr,e1,Bm,Bh,AO,BC]<;>rfl
        |false=>
         rw[h1]at e1
         cases h2:(m==Wz)with
         |true=>
          rw[h2]at e2
          simp only[Hd,tx,Ae,Af,go_sem,b16,Tryz.f16,hlo,l1,l2,l3,l4,l5,g0,g1,s1,m0,hk1,c26,c27,c28,c29,hw,hwa,q2,qd,qb,gE,hmin,hgr,hxr,k17,Gd,WK,Qr,e1,e2,Bm,Bh,AO,BC]<;>rfl
         |false=>
          rw[h2]at e2;have h3:(m==W2)=true:=by rw[h1,h2]at eg;simpa using eg.symm
          rw[h3]at e3;simp only[Hd,tx,Ae,Af,go_sem,b16,Tryz.f16,hlo,l1,l2,l3,l4,l5,g0,g1,s1,m0,hk1,c26,c27,c28,c29,hw,hwa,q2,qd,qb,gE,hmin,hgr,hxr,k17,Gd,WK,Qr,e1,e2,e3,Bm,Bh,AO,BC]<;>rfl
       ·rw[Jh,Jr,Qh,e5]at hrn
        omega
abbrev N16(h:Heap)(l:List Tk4)(n:Nat)(ex:Ja):Ja:=(0,.list .no (l.map row))::(3,.ptr (h.length+2) 0)::(4,.stk (h.length+3) n 8)::ex
abbrev H16(h:Heap)(l:List Tk4)(E D:List Nat)(S:List V)(X:Heap):Heap:=h++(tx h l E D++(.cells S::X))
theorem JZn{n:Nat}(h:n<=1000000000):(n+1)*136<=140737488355328:=om
structure In16(h:Heap)(l:List Tk4)(E' D:List Nat)(S:List V)(m a q:Nat)(out:List Ru):Prop where
 tok:∀Q:Heap,TOk (h++(tx h l E' D++Q)) l E' D (h.length+2)
 g0:S[m*8]? =some (.v (.int .i64 a))
 g1:S[m*8+1]? =some (.v (.int .i64 q))
 g2:S[m*8+2]? =some (.list .yes (J2 out))
 len:m*8+8<=S.length
 ok:Gm S
 hm:m<=1000
theorem JZo{l:List Tk4}{E' D:List Nat}{S:List V}{a q:Nat}{out:List Ru}{X:Heap}{ex:Ja}(hlo:lo<=h.length)(hI:In16 h l E' D S 0 a q out)(haq:q<=a):
  ∃k s',evCode ⟨Aa,E,lo,h.length,h9⟩ JA GW (N16 h l 1 ex,H16 h l E' D S X)=some (.ret,[(2,.list k (J2 out))],s')/\(∃Y,s'=h++Y):=by
 generalize hm0:0=m at hI;obtain⟨hT,g0,g1,g2,hS,hJ,hm⟩:=hI;have w1:Ak.wrap (((m+1:Nat):Int)-1)=(m:Int):=by rw[JL om om];omega
 have a1:(m:Int)<((m+1:Nat):Int):=om;have l1:lo<=h.length+1:=om;have l2:lo<=h.length+2:=om;have l3:lo<=h.length+3:=om;have l4:lo<=h.length+4:=om;have l5:lo<=h.length+5:=om;have l6:lo<=h.length+6:=om;have eE:=Ji (h.length+4) E';have eD:=Ji (h.length+4) D;have eS:=(hJ (h.length+4)).2;subst hm0;have q1:decide ((q:Int)<=(a:Int))=true:=by rw[decide_eq_true_iff];omega
 have p1:(0:Int)<((1:Nat):Int):=by decide
 have e11:(((1:Nat):Int)==1)=true:=rfl;simp only[DE,AB]at g0 g1 g2 w1;refine⟨?k,h++?Y,?g,⟨?Y,rfl⟩⟩
 case g=>simp only[N16,H16,tx,Ae,Af,go_sem,GW,b9,Tryz.f9,hlo,l1,l2,l3,l4,l5,l6,w1,a1,eE,eD,eS,g0,g1,g2,q1,p1,e11,DE,AB];rfl
theorem JZp{l:List Tk4}{E' D:List Nat}{S:List V}{m a q:Nat}{out:List Ru}{X:Heap}{ex:Ja}{t:Tk4}(hlo:lo<=h.length)(hI:In16 h l E' D S m a q out)(haq:a<q)(hl:l.length<=1000000000)(hg:l[a]? =some t)
  (hk:(t.k==13||(m==0&&(t.k==14||t.k==15)))=true):
  evCode ⟨Aa,E,lo,h.length,h9⟩ JA GW (N16 h l (m+1) ex,H16 h l E' D S X)=some (.normal,N16 h l (m+1) [],H16 h l E' D (S.set (m*8) (.v (.int .i64 (a+1:Nat)))) []):=by
 obtain⟨hT,g0,g1,g2,hS,hJ,hm⟩:=hI;have w1:Ak.wrap (((m+1:Nat):Int)-1)=(m:Int):=by rw[JL om om];omega
 have a1:(m:Int)<((m+1:Nat):Int):=om;have l1:lo<=h.length+1:=om;have l2:lo<=h.length+2:=om;have l3:lo<=h.length+3:=om;have l4:lo<=h.length+4:=om;have l5:lo<=h.length+5:=om;have l6:lo<=h.length+6:=om;have eE:=Ji (h.length+4) E';have eD:=Ji (h.length+4) D;have eS:=(hJ (h.length+4)).2;have q1:decide ((q:Int)<=(a:Int))=false:=by rw[decide_eq_false_iff_not];omega
 have hal:a<l.length:=(Ab.1 hg).1
 have hgr:(l.map row)[a]? =some (row t):=by rw[Ao,hg];rfl
 have hw:=JD (i:=a) om;have m0:m*8+1<=S.length:=om;have hk1:∀x:V,S.take (m*8)++x::S.drop (m*8+1)=S.set (m*8) x:=λx=>Zd om
 simp only[row]at hgr
 cases k13:(t.k==13)with
 |true=>simp only[N16,H16,tx,Ae,Af,go_sem,GW,b9,Tryz.f9,hlo,l1,l2,l3,l4,l5,l6,w1,a1,eE,eD,eS,g0,g1,q1,hgr,hw,m0,hk1,k13]<;>rfl
 |false=>
  rw[k13,Br,Ah]at hk;obtain⟨h0,hk⟩:=hk;have em:m=0:=by simpa using h0
  have e1:(((m+1:Nat):Int)==1)=true:=by rw[em];rfl
  cases k14:(t.k==14)with
  |true=>simp only[N16,H16,tx,Ae,Af,go_sem,GW,b9,Tryz.f9,hlo,l1,l2,l3,l4,l5,l6,w1,a1,eE,eD,eS,g0,g1,q1,hgr,hw,m0,hk1,k13,k14,e1]<;>rfl
  |false=>rw[k14,Br]at hk;simp only[N16,H16,tx,Ae,Af,go_sem,GW,b9,Tryz.f9,hlo,l1,l2,l3,l4,l5,l6,w1,a1,eE,eD,eS,g0,g1,q1,hgr,hw,m0,hk1,k13,k14,hk,e1]<;>rfl
theorem JRi{t:Tk4}{m:Nat}(hk:(t.k==13||(m==0&&(t.k==14||t.k==15)))=false):(t.k==13)=false/\((((m+1:Nat):Int)==1)=false\/((((m+1:Nat):Int)==1)=true/\(t.k==14)=false/\(t.k==15)=false)):=by
 rw[B2]at hk;refine⟨hk.1,?_⟩
 cases m with
 |zero=>
  right
  have h2:=hk.2;have e0:((0:Nat)==0)=true:=rfl;rw[e0,AR,B2]at h2
  exact⟨rfl,h2⟩
 |succ m=>left;rw[beq_eq_false_iff_ne];omega
theorem JUt{l:List Tk4}{E' D:List Nat}{S S':List V}{m a q:Nat}{out:List Ru}{X:Heap}{ex:Ja}{t:Tk4}(hlo:lo<=h.length)(hI:In16 h l E' D S m a q out)(haq:a<q)(hl:l.length<=1000000000)(hg:l[a]? =some t)
  (hk:(t.k==13||(m==0&&(t.k==14||t.k==15)))=false)(hk3:(t.k==3)=false)
  (c17:E lo 17 [.ptr (h.length+2) 0,.ptr (h.length+3) (m*8),.v (.int .i64 (m+1:Nat))] (h++(tx h l E' D++[.cells S]))=some (.tup [],h++(tx h l E' D++[.cells S']))):
  evCode ⟨Aa,E,lo,h.length,h9⟩ JA GW (N16 h l (m+1) ex,H16 h l E' D S X)=some (.normal,N16 h l (m+1) [],H16 h l E' D S' []):=by
 obtain⟨hT,g0,g1,g2,hS,hJ,hm⟩:=hI;have w1:Ak.wrap (((m+1:Nat):Int)-1)=(m:Int):=by rw[JL om om];omega
 have a1:(m:Int)<((m+1:Nat):Int):=om;have l1:lo<=h.length+1:=om;have l2:lo<=h.length+2:=om;have l3:lo<=h.length+3:=om;have l4:lo<=h.length+4:=om;have l5:lo<=h.length+5:=om;have l6:lo<=h.length+6:=om;have eE:=Ji (h.length+4) E';have eD:=Ji (h.length+4) D;have eS:=(hJ (h.length+4)).2;have q1:decide ((q:Int)<=(a:Int))=false:=by rw[decide_eq_false_iff_not];omega
 have hgr:(l.map row)[a]? =some (row t):=by rw[Ao,hg];rfl
 obtain⟨k13,hk⟩:=JRi hk;simp only[row]at hgr;simp only[tx,Ae,Af]at c17;rcases hk with e1|⟨e1,k14,k15⟩
 ·simp only[N16,H16,tx,Ae,Af,go_sem,GW,b9,Tryz.f9,hlo,l1,l2,l3,l4,l5,l6,w1,a1,eE,eD,eS,g0,g1,q1,hgr,k13,hk3,e1,c17]<;>rfl
 ·simp only[N16,H16,tx,Ae,Af,go_sem,GW,b9,Tryz.f9,hlo,l1,l2,l3,l4,l5,l6,w1,a1,eE,eD,eS,g0,g1,q1,hgr,k13,k14,k15,hk3,e1,c17]<;>rfl
theorem JZq{l:List Tk4}{E' D:List Nat}{S S':List V}{m a q:Nat}{out:List Ru}{X:Heap}{ex:Ja}{t:Tk4}(hlo:lo<=h.length)(hI:In16 h l E' D S m a q out)(haq:a<q)(hl:l.length<=1000000000)(hg:l[a]? =some t)
  (hk:(t.k==13||(m==0&&(t.k==14||t.k==15)))=false)(hk3:(t.k==3)=true)
  (c16:E lo 16 [.ptr (h.length+2) 0,.ptr (h.length+3) (m*8),.v (.int .i64 (m+1:Nat))] (h++(tx h l E' D++[.cells S]))=some (.tup [.agg Hc,.v (.bool false)],h++(tx h l E' D++[.cells S']))):
  ∃ex' X',evCode ⟨Aa,E,lo,h.length,h9⟩ JA GW (N16 h l (m+1) ex,H16 h l E' D S X)=some (.normal,N16 h l (m+1) ex',H16 h l E' D S' X'):=by
 obtain⟨hT,g0,g1,g2,hS,hJ,hm⟩:=hI;have w1:Ak.wrap (((m+1:Nat):Int)-1)=(m:Int):=by rw[JL om om];omega
 have a1:(m:Int)<((m+1:Nat):Int):=om;have l1:lo<=h.length+1:=om;have l2:lo<=h.length+2:=om;have l3:lo<=h.length+3:=om;have l4:lo<=h.length+4:=om;have l5:lo<=h.length+5:=om;have l6:lo<=h.length+6:=om;have eE:=Ji (h.length+4) E';have eD:=Ji (h.length+4) D;have eS:=(hJ (h.length+4)).2;have q1:decide ((q:Int)<=(a:Int))=false:=by rw[decide_eq_false_iff_not];omega
 have hgr:(l.map row)[a]? =some (row t):=by rw[Ao,hg];rfl
 obtain⟨k13,hk⟩:=JRi hk;simp only[row]at hgr;simp only[Hc,tx,Ae,Af]at c16;refine⟨[(9,.ptr (h.length+4) 0),(125,.v (.bool false))],[.cells Hc],?_⟩
 rcases hk with e1|⟨e1,k14,k15⟩
 ·simp only[N16,H16,tx,Ae,Af,go_sem,GW,b9,Tryz.f9,hlo,l1,l2,l3,l4,l5,l6,w1,a1,eE,eD,eS,g0,g1,Hc,q1,hgr,k13,hk3,e1,c16]<;>rfl
 ·simp only[N16,H16,tx,Ae,Af,go_sem,GW,b9,Tryz.f9,hlo,l1,l2,l3,l4,l5,l6,w1,a1,eE,eD,eS,g0,g1,Hc,q1,hgr,k13,k14,k15,hk3,e1,c16]<;>rfl
theorem JZr{l:List Tk4}{E' D:List Nat}{S S':List V}{m a q a1 q1':Nat}{nm:List Int}{pr:List CV}{out:List Ru}{X:Heap}{ex:Ja}{t:Tk4}(hlo:lo<=h.length)(hI:In16 h l E' D S m a q out)(haq:a<q)(hl:l.length<=1000000000)(hg:l[a]? =some t)
  (hk:(t.k==13||(m==0&&(t.k==14||t.k==15)))=false)(hk3:(t.k==3)=true)
  (c16:E lo 16 [.ptr (h.length+2) 0,.ptr (h.length+3) (m*8),.v (.int .i64 (m+1:Nat))] (h++(tx h l E' D++[.cells S]))=some (.tup [.agg (Hd a1 q1' nm pr),.v (.bool true)],h++(tx h l E' D++[.cells S'])))
  {T j:List V}(hS':S'=T++j)(hTl:T.length=(m+1)*8)(hTs:T.all (qk (h.length+3))=true)(hTk:T.all (okv (h.length+4))=true):
  evCode ⟨Aa,E,lo,h.length,h9⟩ JA GW (N16 h l (m+1) ex,H16 h l E' D S X)=some (.normal,N16 h l (m+1+1) [],H16 h l E' D (T++[.v (.int .i64 a1),.v (.int .i64 q1'),.list .yes [],.v (.int .i64 2),.v (.string (Rul.bs nm)),.list .no (JH pr),.list .yes [],.list .yes []]) []):=by
 obtain⟨hT,g0,g1,g2,hS,hJ,hm⟩:=hI;have w1:Ak.wrap (((m+1:Nat):Int)-1)=(m:Int):=by rw[JL om om];omega
 have a1:(m:Int)<((m+1:Nat):Int):=om;have l1:lo<=h.length+1:=om;have l2:lo<=h.length+2:=om;have l3:lo<=h.length+3:=om;have l4:lo<=h.length+4:=om;have l5:lo<=h.length+5:=om;have l6:lo<=h.length+6:=om;have eE:=Ji (h.length+4) E';have eD:=Ji (h.length+4) D;have eS:=(hJ (h.length+4)).2;have q1:decide ((q:Int)<=(a:Int))=false:=by rw[decide_eq_false_iff_not];omega
 have hgr:(l.map row)[a]? =some (row t):=by rw[Ao,hg];rfl
 obtain⟨k13,hk⟩:=JRi hk;have hS0:S'.take ((m+1)*8)=T:=by rw[hS',List.take_left' hTl]
 have hSl:(m+1)*8<=S'.length:=by rw[hS',An,hTl];omega
 have o1:=JZn (show m+1<=1000000000 by omega)
 have o2:m+1<=9223372036854775806:=om;have o3:m<=9223372036854775805:=om;have aE:=JBj (h.length+3) E';have aD:=JBj (h.length+3) D;simp only[row]at hgr;simp only[Hd,tx,Ae,Af]at c16;rcases hk with e1|⟨e1,k14,k15⟩
 ·simp only[N16,H16,tx,Ae,Af,go_sem,GW,b9,Tryz.f9,hlo,l1,l2,l3,l4,l5,l6,w1,a1,eE,eD,eS,g0,g1,Hd,q1,hgr,k13,hk3,e1,c16,hS0,hSl,hTs,hTk,o1,o2,o3,aE,aD]<;>rfl
 ·simp only[N16,H16,tx,Ae,Af,go_sem,GW,b9,Tryz.f9,hlo,l1,l2,l3,l4,l5,l6,w1,a1,eE,eD,eS,g0,g1,Hd,q1,hgr,k13,k14,k15,hk3,e1,c16,hS0,hSl,hTs,hTk,o1,o2,o3,aE,aD]<;>rfl
theorem JfZ{l:List Tk4}{E' D:List Nat}{S:List V}{k a q:Nat}{out gout:List Ru}{nm:List Int}{pr:List CV}{X:Heap}{ex:Ja}(hlo:lo<=h.length)(hI:In16 h l E' D S (k+1) a q out)(haq:q<=a)(ho:gout.length<=1000000000)
  (hh:(S.drop ((k+1)*8+3)).take 5=[.v (.int .i64 2),.v (.string (Rul.bs nm)),.list .no (JH pr),.list .yes [],.list .yes []])(hg:S[k*8+2]? =some (.list .yes (J2 gout))):
  evCode ⟨Aa,E,lo,h.length,h9⟩ JA GW (N16 h l (k+1+1) ex,H16 h l E' D S X)=some (.normal,N16 h l (k+1) [],H16 h l E' D (S.set (k*8+2) (.list .yes (J2 (gout++[Ru.mk 2 nm pr [] out])))) []):=by
 generalize hmk:k+1=m at*;obtain⟨hT,g0,g1,g2,hS,hJ,hm⟩:=hI;have w1:Ak.wrap (((m+1:Nat):Int)-1)=(m:Int):=by rw[JL om om];omega
 have a1:(m:Int)<((m+1:Nat):Int):=om;have l1:lo<=h.length+1:=om;have l2:lo<=h.length+2:=om;have l3:lo<=h.length+3:=om;have l4:lo<=h.length+4:=om;have l5:lo<=h.length+5:=om;have l6:lo<=h.length+6:=om;have eE:=Ji (h.length+4) E';have eD:=Ji (h.length+4) D;have eS:=(hJ (h.length+4)).2;have q1:decide ((q:Int)<=(a:Int))=true:=by rw[decide_eq_true_iff];omega
 have e1:(((m+1:Nat):Int)==1)=false:=by rw[beq_eq_false_iff_ne];omega
 have w2:Ak.wrap (((m+1:Nat):Int)-2)=(k:Int):=by rw[JL om om];omega
 have a2:(k:Int)<(m:Int):=om;have hml:m<=m+1:=om;have d5:5<=(S.drop (m*8+3)).length:=by rw[Ay];omega
 have m1:k*8+2+1<=S.length:=om;have m2:k*8+3<=S.length:=om
 have hkk:∀(x y:V),(S.set (k*8+2) y).take (k*8+2)++x::(S.set (k*8+2) y).drop (k*8+2+1)=S.set (k*8+2) x:=λx y=>by rw[Zd (by rw[AO];omega),BL]
 have hkk3:∀(x y:V),(S.set (k*8+2) y).take (k*8+2)++x::(S.set (k*8+2) y).drop (k*8+3)=S.set (k*8+2) x:=hkk;have o1:=JRe ho;have o2:=Hy ho;have rao:=JBM gout;have rbo:=HK gout;have rlo:=K8 gout;have eE5:=Ji (h.length+5) E';have eD5:=Ji (h.length+5) D;have eS5:=(hJ (h.length+5)).2
 have eF:(S.set (k*8+2) (.list .yes (J2 gout++[ruV (Ru.mk 2 nm pr [] out)]))).all (okv (h.length+4))=true:=by
  rw[Ar];intro x hx;rcases List.mem_or_eq_of_mem_set hx with hx|rfl
  ·exact Ar.1 eS x hx
  ·rfl
 rw[<-qR];rw[ruV,Cm]at eF⊢;generalize J2 gout=O at*;simp only[N16,H16,tx,Ae,Af,go_sem,GW,b9,Tryz.f9,hlo,l1,l2,l3,l4,l5,l6,w1,a1,eE,eD,eS,g0,g1,g2,hh,hg,d5,q1,e1,w2,a2,hml,m1,m2,hkk,hkk3,o1,o2,rao,rbo,rlo,eE5,eD5,eS5,eF,AO,BL]<;>rfl
theorem JRj{L M:List V}{i:Nat}(k:Nat)(h:L.length=i)(x:V):(L++M).set (i+k) x=L++M.set k x:=by
 subst h;rw[List.set_append_right _ _ om]
 congr 2
 omega
theorem JZs{L M:List V}{i:Nat}(k:Nat)(h:L.length=i):(L++M)[i+k]? =M[k]? :=by
 subst h;rw[List.getElem?_append_right om]
 congr 1
 omega
theorem JB5{a a' q:Nat}{v:PV}{G G':List PV}{out o:List Ru}{nm:List Int}{pr:List CV}{hd:List V}{r:List Rul.Fr}(hn:r.length+1<=65)
  (h:KH (QL (r.length+2)) (decide (r.length+1<=64)) (r.length+1==1) (cvV v) (Jh G)=(o,Jh G')):
  Rul.fin (⟨a,q,v::G,out,nm,pr,hd⟩::r)=Rul.fin (⟨a',q,G',out++o,nm,pr,hd⟩::r):=by
 rw[Rul.fin,Rul.fin];simp only[Jh];rw[JB1 om hn,h,Aw];exact JG5 (by rfl) (by rfl) _ r
theorem JRk{a a' q a1 q1:Nat}{v:PV}{G G' K:List PV}{out:List Ru}{nm nm1:List Int}{pr pr1:List CV}{hd hd1:List V}{r:List Rul.Fr}(hn:r.length+1<=65)
  (h:KH (QL (r.length+2)) (decide (r.length+1<=64)) (r.length+1==1) (cvV v) (Jh G)=([Ru.mk 2 nm1 pr1 [] (QL (r.length+2) (Jh K))],Jh G')):
  Rul.fin (⟨a,q,v::G,out,nm,pr,hd⟩::r)=Rul.fin (⟨a1,q1,K,[],nm1,pr1,hd1⟩::⟨a',q,G',out,nm,pr,hd⟩::r):=by
 rw[Rul.fin,Rul.fin,up];simp only[Jh,Ag,Af];rw[JB1 om hn,h,Aw];exact JG5 (by rfl) (by rfl) _ r
theorem JUu{a q:Nat}{out:List Ru}{nm:List Int}{pr:List CV}{hd:List V}{g:Rul.Fr}{r:List Rul.Fr}:
  Rul.fin (⟨a,q,[],out,nm,pr,hd⟩::g::r)=Rul.fin (⟨g.a,g.q,g.G,g.out++[Ru.mk 2 nm pr [] out],g.nm,g.pr,g.hd⟩::r):=by
 rw[Rul.fin,Rul.fin,up];simp only[Jh,JD2,Aq];exact JG5 (by rfl) (by rfl) _ r
theorem JRl{a q:Nat}{out:List Ru}{nm:List Int}{pr:List CV}{hd:List V}:Rul.fin [⟨a,q,[],out,nm,pr,hd⟩]=out:=by rw[Rul.fin,up];simp only[Jh,JD2,Aq]
def JCo(l:List Tk4)(E D:List Nat)(B:Nat):Nat->List Rul.Fr->Prop
 |_,[]=>True
 |d,f::r=>(Lv l E D f.a f.q f.G/\Qf jM (Jh f.G)/\f.out.length+JM (Jh f.G)+d<=B/\f.hd=bif r.isEmpty then hd0 else hdF f)/\JCo l E D B 1 r
theorem yT{l:List Tk4}{E D:List Nat}{B:Nat}:∀{d:Nat} {fs:List Rul.Fr},JCo l E D B d fs->(kB fs).length=fs.length*8
 |_,[],_=>rfl
 |d,f::r,h=>by obtain⟨⟨_,_,_,h4⟩,h5⟩:=h;rw[kB,An,yT h5,Ag,ju,h4];cases r<;>simp only[Ll,DJ,cond_true,cond_false,hd0,hdF,Ag,Am]<;>omega
theorem JB6(P:V->Bool)(h1:∀i:Int,P (.v (.int .i64 i))=true)(h2:∀o x,P (.list o x)=true)(h3:∀s,P (.v (.string s))=true){l:List Tk4}{E D:List Nat}{B:Nat}:∀{d:Nat} {fs:List Rul.Fr},JCo l E D B d fs->(kB fs).all P=true
 |_,[],_=>rfl
 |d,f::r,h=>by obtain⟨⟨_,_,_,h4⟩,h5⟩:=h;rw[kB,List.all_append,JB6 P h1 h2 h3 h5,ju,h4];cases r<;>simp only[Ll,DJ,cond_true,cond_false,hd0,hdF,List.all_cons,List.all_nil,h1,h2,h3,BS]
theorem JZt{l:List Tk4}{E D:List Nat}{B d:Nat}{fs:List Rul.Fr}(hk:JCo l E D B d fs):Gm (kB fs):=λi=>⟨JB6 _ (λ_=>rfl) (λ_ _=>rfl) (λ_=>rfl) hk,JB6 _ (λ_=>rfl) (λ_ _=>rfl) (λ_=>rfl) hk⟩
theorem JUv{a q:Nat}{G:List PV}{out:List Ru}{nm:List Int}{pr:List CV}{hd:List V}{r:List Rul.Fr}{j:List V}(a':Nat)(G':List PV)(hl:(kB r).length=r.length*8):(kB (⟨a,q,G,out,nm,pr,hd⟩::r)++j).set (r.length*8) (.v (.int .i64 a'))=kB (⟨a',q,G',out,nm,pr,hd⟩::r)++j:=by
 rw[kB,kB,Aw,Aw];exact JRj 0 hl _
theorem Jfa{a q:Nat}{G:List PV}{out:List Ru}{nm:List Int}{pr:List CV}{hd:List V}{r:List Rul.Fr}{j:List V}(o:List Ru)(hl:(kB r).length=r.length*8):(kB (⟨a,q,G,out,nm,pr,hd⟩::r)++j).set (r.length*8+2) (.list .yes (J2 o))=kB (⟨a,q,G,o,nm,pr,hd⟩::r)++j:=by
 rw[kB,kB,Aw,Aw];exact JRj 2 hl _
theorem JUw(f:Rul.Fr)(r:List Rul.Fr)(j:List V)(k:Nat)(hl:(kB r).length=r.length*8):(kB (f::r)++j)[r.length*8+k]? =(ju f++j)[k]? :=by rw[kB,Aw];exact JZs k hl
theorem He{l:List Tk4}{E D:List Nat}{B d:Nat}{f:Rul.Fr}{r:List Rul.Fr}(hk:JCo l E D B d (f::r)){G':List PV}{out':List Ru}{a':Nat}(d':Nat)(h1:Lv l E D a' f.q G')(h2:Qf jM (Jh G'))(h3:out'.length+JM (Jh G')+d'<=B):
  JCo l E D B d' (⟨a',f.q,G',out',f.nm,f.pr,f.hd⟩::r):=⟨⟨h1,h2,h3,hk.1.2.2.2⟩,hk.2⟩
theorem Jmh{l:List Tk4}{E' D:List Nat}{B d:Nat}{f:Rul.Fr}{r:List Rul.Fr}{j:List V}(hT:∀Q:Heap,TOk (h++(tx h l E' D++Q)) l E' D (h.length+2))(hk:JCo l E' D B d (f::r))(hj:Gm j)(hm:r.length<=1000):
  In16 h l E' D (kB (f::r)++j) r.length f.a f.q f.out:=by
 have hl:=yT hk.2;have hl1:=yT hk;refine⟨hT,?_,?_,?_,?_,KB (JZt hk) hj,hm⟩
 ·exact JUw f r j 0 hl
 ·exact JUw f r j 1 hl
 ·exact JUw f r j 2 hl
 ·rw[An,hl1,Ag];omega
theorem Jmi(n:Nat):(n+1==1)=(n==0):=by cases n<;>rfl
theorem JD4{l:List Tk4}{E' D:List Nat}{B:Nat}(hlo:lo<=h.length)(hT:∀Q:Heap,TOk (h++(tx h l E' D++Q)) l E' D (h.length+2))(hB:B<=1000000000):
  ∀(m:Nat) (f:Rul.Fr) (r:List Rul.Fr) (j:List V) (X:Heap) (ex:Ja),muF (f::r)<=m->r.length+1<=65->JCo l E' D B 0 (f::r)->Gm j->
   ∃k Y,JA (evCode ⟨Aa,E,lo,h.length,h9⟩ JA GW) (N16 h l (r.length+1) ex,H16 h l E' D (kB (f::r)++j) X)=some (.ret,[(2,.list k (J2 (Rul.fin (f::r))))],h++Y)
 |0,f,r,j,X,ex,hm,hn,hk,hj=>by rw[muF]at hm;omega
 |m+1,f,r,j,X,ex,hm,hn,hk,hj=>by
  have hll:=(hT []).ll;have hI:=Jmh hT hk hj om;have hlr:=yT hk.2;obtain⟨h1,h2,h3,h4⟩:=hk.1;rw[muF]at hm;rw[JB];by_cases haq:f.q<=f.a
  ·have hG:f.G=[]:=by
    rcases h1 with h1|⟨h1,_⟩
    ·cases hg:f.G with
     |nil=>rfl
     |cons v G=>rw[hg]at h1;have:=h1.lt;omega
    ·exact h1
   cases r with
   |nil=>
    obtain⟨k,s',hs,Y,hY⟩:=JZo (X:=X) (ex:=ex) hlo hI haq;subst hY;obtain⟨a,q,G,out,nm,pr,hd⟩:=f;cases hG;refine⟨k,Y,?_⟩
    rw[JRl]
    rw[Am,AB,hs,Wo]
   |cons g r=>
    obtain⟨a,q,G,out,nm,pr,hd⟩:=f;obtain⟨ga,gq,gG,gout,gnm,gpr,ghd⟩:=g;cases hG;have hkg:=hk.2;have hlg:=yT hkg.2;obtain⟨g1,g2,g3,g4⟩:=hkg.1
    replace g3:gout.length+JM (Jh gG)+1<=B:=g3
    replace hm:2*JM (Jh [])+1+(2*JM (Jh gG)+1+muF r)<=m+1:=hm
    have eS:kB (⟨a,q,[],out,nm,pr,hd⟩::⟨ga,gq,gG,gout,gnm,gpr,ghd⟩::r)++j=kB (⟨ga,gq,gG,gout,gnm,gpr,ghd⟩::r)++(ju ⟨a,q,[],out,nm,pr,hd⟩++j):=by rw[kB,Aw]
    have hp:=JfZ (k:=r.length) (gout:=gout) (nm:=nm) (pr:=pr) (X:=X) (ex:=ex) hlo hI haq om (by
     have h4:hd=hdF ⟨a,q,[],out,nm,pr,hd⟩:=h4;rw[eS,show(r.length+1)*8+3=(kB (⟨ga,gq,gG,gout,gnm,gpr,ghd⟩::r)).length+3 by rw[hlr,Ag],<-List.drop_drop,List.drop_left,ju,h4]
     rfl) (by
     rw[eS]
     exact JUw ⟨ga,gq,gG,gout,gnm,gpr,ghd⟩ r _ 2 hlg)
    rw[eS,Jfa _ hlg]at hp;rw[Ag,eS,hp,JK];have hk2:JCo l E' D B 0 (⟨ga,gq,gG,gout++[Ru.mk 2 nm pr [] out],gnm,gpr,ghd⟩::r):=He hkg 0 g1 g2 (by rw[An,List.length_singleton];omega)
    rw[JUu];refine JD4 hlo hT hB m _ r _ [] [] ?_ (by rw[Ag]at hn;omega) hk2 (KB ?_ hj)
    ·rw[muF]
     simp only;omega
    ·have h4:hd=hdF ⟨a,q,[],out,nm,pr,hd⟩:=h4
     rw[h4];exact λi=>⟨rfl,rfl⟩
  ·replace haq:f.a<f.q:=om
   obtain⟨a,q,G,out,nm,pr,hd⟩:=f;simp only at haq h1 h2 h3 h4 hm
   replace hI:In16 h l E' D (kB (⟨a,q,G,out,nm,pr,hd⟩::r)++j) r.length a q out:=hI
   have hA:LaidAt l E' D a q G:=by
    rcases h1 with h1|⟨_,h1⟩
    ·exact h1
    ·omega
   cases G with
   |nil=>have:=hA.nil;omega
   |cons v G=>
    have hhd:=hA.head;obtain⟨y1,b1,hg1⟩:=hA.good;have e0:Jh (v::G)=cvV v::Jh G:=by rw[Jh]
    have en:JM (Jh (v::G))=GS (cvV v)+JM (Jh G):=by rw[e0,Jr]
    have en2:=Qh (cvV v);have et:(r.length+1==1)=(r.length==0):=Jmi r.length;have ho9:out.length<=1000000000:=om;have hn9:JM (Jh (v::G))<=1000000000:=om;have hd9:r.length+1<=1000:=om;have hsubG:∀{W:List CV},W<:+Jh G->Qf jM W:=λhw=>WZ h2 λy hy=>by rw[e0];exact AV _ (hw.subset hy)
    cases hk1:(v.t.k==13||(r.length==0&&(v.t.k==14||v.t.k==15)))with
    |true=>
     have hp:=JZp (X:=X) (ex:=ex) hlo hI haq hll hhd hk1;rw[JUv _ G hlr]at hp;rw[hp,JK]
     have hc:JN v.t.k=0:=by
      have:v.t.k=13\/v.t.k=14\/v.t.k=15:=by simp only[AN,Ah,beq_iff_eq]at hk1;omega
      rcases this with h|h|h<;>rw[h]<;>rfl
     have hone:=GB (Ju.1 hg1).1 hc;have hA1:=hA.tail;rw[hone]at hA1
     have hst:KH (QL (r.length+2)) (decide (r.length+1<=64)) (r.length+1==1) (cvV v) (Jh G)=([],Jh G):=by unfold KH;rw[HG,et,hk1,if_pos rfl]
     rw[JB5 (a':=a+1) (G':=G) hn hst,Aq]
     exact JD4 hlo hT hB m _ r j [] [] (by rw[muF];simp only;omega) hn (He hk 0 (.inl hA1) (hsubG (List.suffix_refl _)) om) hj
    |false=>
     cases hk3:(v.t.k==3)with
     |false=>
      obtain⟨a',G',c17,hv,he⟩:=f17 (lo:=lo) (d:=r.length+1) (top:=r.length+1==1) hlo hT hA hI.g0 hI.g1 hI.g2 hI.len ho9 h2 hn9 hd9 (by rw[et];exact hk1) hk3 (QL (r.length+2))
      have hp:=JUt (X:=X) (ex:=ex) hlo hI haq hll hhd hk1 hk3 c17;rw[JUv _ G' hlr,Jfa _ hlr]at hp;rw[hp,JK];have hsf:=WP (QL (r.length+2)) (decide (r.length+1<=64)) (r.length+1==1) (cvV v) (Jh G);have hst:KH (QL (r.length+2)) (decide (r.length+1<=64)) (r.length+1==1) (cvV v) (Jh G)=((KH (QL (r.length+2)) (decide (r.length+1<=64)) (r.length+1==1) (cvV v) (Jh G)).1,Jh G'):=by rw[he]
      rw[JB5 (a':=a') hn hst];rw[<-he]at hsf;have hns:=jt hsf.1
      exact JD4 hlo hT hB m _ r j [] [] (by rw[muF];simp only;omega) hn (He hk 0 hv (hsubG hsf.1) (by rw[An];have:=hsf.2;omega)) hj
     |true=>
      obtain⟨a',G',hv,hc|hc⟩:=f16 (lo:=lo) (d:=r.length+1) (top:=r.length+1==1) hlo hT hA hI.g0 hI.g1 hI.len h2 hn9 hd9 hk3
      ·obtain⟨nm1,pr1,K,a1,q1,c16,hK,hd64,hKm,hKn,hst⟩:=hc
       have hst:=hst (QL (r.length+2));have hsf:=WP (QL (r.length+2)) (decide (r.length+1<=64)) (r.length+1==1) (cvV v) (Jh G);rw[hst]at hsf
       replace hsf:Jh G'<:+Jh G:=hsf.1
       have hns:=jt hsf;have hk2:JCo l E' D B 1 (⟨a',q,G',out,nm,pr,hd⟩::r):=He hk 1 hv (hsubG hsf) om;rw[JUv _ G' hlr]at c16;have hp:=JZr (X:=X) (ex:=ex) hlo hI haq hll hhd hk1 hk3 c16 rfl (by rw[yT hk2,Ag]) (JB6 _ (λ_=>rfl) (λ_ _=>rfl) (λ_=>rfl) hk2) (JB6 _ (λ_=>rfl) (λ_ _=>rfl) (λ_=>rfl) hk2)
       rw[hp,JK]
       have eS:∀hd':List V,hd'=[.v (.int .i64 2),.v (.string (Rul.bs nm1)),.list .no (JH pr1),.list .yes [],.list .yes []]->kB (⟨a',q,G',out,nm,pr,hd⟩::r)++[.v (.int .i64 a1),.v (.int .i64 q1),.list .yes [],.v (.int .i64 2),.v (.string (Rul.bs nm1)),.list .no (JH pr1),.list .yes [],.list .yes []]=
         kB (⟨a1,q1,K,[],nm1,pr1,hd'⟩::⟨a',q,G',out,nm,pr,hd⟩::r)++[]:=λhd' e=>by
        rw[e,Aq];show _=kB (⟨a',q,G',out,nm,pr,hd⟩::r)++[.v (.int .i64 a1),.v (.int .i64 q1),.list .yes (J2 []),.v (.int .i64 2),.v (.string (Rul.bs nm1)),.list .no (JH pr1),.list .yes [],.list .yes []]
        rw[Y3]
       rw[eS _ rfl];rw[JRk (a':=a') (a1:=a1) (q1:=q1) (hd1:=[.v (.int .i64 2),.v (.string (Rul.bs nm1)),.list .no (JH pr1),.list .yes [],.list .yes []]) hn hst]
       have hKb:Qf jM (Jh K):=Ks.2 λy hy=>by obtain⟨z,hz,hyz⟩:=hKm y hy;exact Ks.1 (Ks.1 h2 z hz).2 y hyz
       exact JD4 hlo hT hB m _ (⟨a',q,G',out,nm,pr,hd⟩::r) [] [] [] (by rw[muF,muF];simp only;omega) (by rw[Ag];omega) ⟨⟨.inl hK,hKb,by simp only[Am];omega,rfl⟩,hk2⟩ Qz
      ·obtain⟨c16,hst⟩:=hc
       have hst:=hst (QL (r.length+2));have hsf:=WP (QL (r.length+2)) (decide (r.length+1<=64)) (r.length+1==1) (cvV v) (Jh G);rw[hst]at hsf
       replace hsf:Jh G'<:+Jh G:=hsf.1
       have hns:=jt hsf;rw[JUv _ G' hlr]at c16;obtain⟨ex',X',hp⟩:=JZq (X:=X) (ex:=ex) hlo hI haq hll hhd hk1 hk3 c16;rw[hp,JK];rw[JB5 (a':=a') hn hst,Aq];exact JD4 hlo hT hB m _ r j X' ex' (by rw[muF];simp only;omega) hn (He hk 0 hv (hsubG hsf) om) hj
theorem f9{l:List Tk4}(hlo:lo<=h.length)(hl:l.length<=500000000)(hB:∀t∈l,jM t):E lo 9 [.list .no (l.map row)] h=some (.list .no (J2 (rules (vals l))),h):=by
 have hn:=js l;have hBa:=yS hB;obtain⟨F,rfl,hg⟩:=zp l;rw[Hs hg]at hn hBa⊢;have c15:=f15 (lo:=lo) (h:=h) (l:=toksL F) hlo hl;have hT:=λQ:Heap=>JZm (l:=toksL F) h Q hl
 obtain⟨k,Y,hL⟩:=JD4 (B:=500000000) hlo hT om (muF [⟨0,(toksL F).length,F,[],[],[],hd0⟩]) ⟨0,(toksL F).length,F,[],[],[],hd0⟩ [] [] [] [] (Ac _) (by simp) ⟨⟨.inl (JUs hg),hBa,by simp only[Am];omega,rfl⟩,trivial⟩ Qz
 have ef:Rul.fin [⟨0,(toksL F).length,F,[],[],[],hd0⟩]=rules (Jh F):=by rw[Rul.fin,up,Af];rfl
 rw[ef]at hL;have n0:((0:Nat):Int)=0:=rfl;have l1:lo<=h.length+1:=om;have l2:lo<=h.length+2:=om;have l3:lo<=h.length+3:=om;have l4:lo<=h.length+4:=om;rw[e9];simp only[tx]at c15;simp only[GW,b9,Tryz.f9,JG,JT,JC,go_sem,N16,H16,tx,kB,ju,hd0,n0,Y3,Ae,Af,Aq,Am,AB]at hL
 simp only[go_sem,b9,Tryz.f9,hlo,l1,l2,l3,l4,c15,hL,tx,n0,Av,Ae,Af]<;>rfl
end Go.Lift.W1
end

section
open Go.Proofs
namespace Go.Lift.W1
open Rul
open Utf (By)
variable[MX]
mutual
theorem JUx:∀v:CV,JJk jM v->ByV v
 | .mk t ks,h=>by rw[JJk]at h;exact JLX.2 ⟨h.1.1,qS ks h.2⟩
theorem qS:∀l:List CV,Qf jM l->ByL l
 |[],_=>by rw[ByL];trivial
 |v::r,h=>by rw[Qf]at h;exact JBz.2 ⟨JUx v h.1,qS r h.2⟩
end
theorem JMB{l:List CV}{v:CV}(h:v∈(impOf l).1):v∈l:=by
 revert h;unfold impOf
 split
 ·rename_i x y r e
  split
  ·split
   ·rename_i z s e2
    split
    ·intro h
     have h1:=YK h;have h2:v∈s:=by simpa using h1
     have h3:v∈y::r:=by
      have h4:v∈(y::r).dropWhile Jd:=by rw[e2];exact AV _ h2
      exact(AA _).subset h4
     have h5:v∈l.reverse:=by rw[e];exact AV _ h3
     simpa using h5
    ·exact id
   ·exact id
  ·exact id
 ·exact id
theorem JOU{b:List Int}(h:By b):By (nameOf b):=by
 unfold nameOf
 split
 ·exact h
 ·exact Y1 h
theorem JRm{l:List CV}{d:Dc}(hB:Qf jM l)(hn:JM l<=100000000)(h:Wt l=some d):OkE d:=by
 cases l with
 |nil=>rw[Wt]at h;cases h
 |cons x l=>
  rw[Wt]at h
  split at h
  ·cases h
  ·split at h
   ·cases h
   ·rename_i c r e
    split at h
    ·cases h
    ·split at h
     ·cases h
     ·cases h
      have hm:∀v∈r,v∈x::l:=λv hv=>by
       have h4:v∈l.dropWhile Jd:=by rw[e];exact AV _ hv
       exact AV _ ((AA _).subset h4)
      have h1:=jq (trim r);have h2:=Qs r;have h3:JM (c::r)<=JM l:=by rw[<-e];exact Jy (AA _)
      rw[Jr]at h3 hn;exact⟨JOU (Ks.1 hB x (by simp)).1.1,qS _ (WZ hB λv hv=>hm v (YK (JMB hv))),by show JM (impOf (trim r)).1<=_;omega⟩
theorem Gh:∀(n:Nat) (l:List CV),Qf jM l->JM l<=100000000->∀d∈QC n l,OkE d
 |0,l,_,_,d,hd=>by rw[QC]at hd;cases hd
 |n+1,[],_,_,d,hd=>by rw[QC]at hd;cases hd
 |n+1,v::r,hB,hn,d,hd=>by
  rw[QC]at hd
  split at hd
  ·exact Gh n r (WZ hB λy hy=>AV _ hy) (by rw[Jr]at hn;omega) d hd
  ·split at hd
   ·have hs:((v::r).dropWhile (KA 17 23)).tail<:+v::r:=(Dp _).trans (AA _)
    exact Gh n _ (WZ hB λy hy=>hs.subset hy) (A3 (Jy hs) hn) d hd
   ·rcases AW.1 hd with hd|hd
    ·have hd:Wt ((v::r).takeWhile (KA 17 17))=some d:=by
      cases hh:Wt ((v::r).takeWhile (KA 17 17))with
      |none=>rw[hh]at hd;cases hd
      |some y=>rw[hh]at hd;simp only[Option.toList,Bz]at hd;rw[hd]
     have hs:=Bj (p:=KA 17 17) (l:=v::r);exact JRm (WZ hB λy hy=>hs.subset hy) (A3 (QH hs) hn) hd
    ·have hs:=AA (p:=KA 17 17) (l:=v::r)
     exact Gh n _ (WZ hB λy hy=>hs.subset hy) (A3 (Jy hs) hn) d hd
theorem JOV{l:List CV}(hB:Qf jM l)(hn:JM l<=100000000):(decls l).length<=1000000000/\ ∀d∈decls l,OkE d:=by
 have h1:=Gf (l.length+1) l;have h2:=Jk l;refine⟨?_,Gh _ l hB hn⟩
 unfold decls;omega
theorem JOW{sub:List CV->List Ru}{live top:Bool}{v:CV}{r:List CV}(hB:Qf jM (v::r))(hn:JM (v::r)<=100000000)
  (hsub:live=true->∀l,Qf jM l->JM l<=100000000->(sub l).length<=1000000000/\ ∀x∈sub l,WkR x):∀x∈(KH sub live top v r).1,WkR x:=by
 intro u hu
 have kid:∀(f:CV->Bool) (x:CV) (s:List CV),(v::r).dropWhile f=x::s->Qf jM x.ks/\JM x.ks<=100000000:=λf x s e=>by
  have hm:x∈v::r:=(AA f).subset (by rw[e];simp)
  have h1:=WJ hm;rw[Qh]at h1;exact⟨(Ks.1 hB x hm).2,om⟩
 have pre:∀f:CV->Bool,ByL (trim ((v::r).takeWhile f))/\JM (trim ((v::r).takeWhile f))<=100000000:=λf=>by have hs:=Bj (p:=f) (l:=v::r);have h1:=Qs ((v::r).takeWhile f);have h2:=QH hs;exact⟨qS _ (WZ hB λy hy=>hs.subset (YK hy)),om⟩
 have pre2:∀f:CV->Bool,ByL (trim ((v::r).takeWhile f).tail)/\JM (trim ((v::r).takeWhile f).tail)<=100000000:=λf=>by have hs:=Bj (p:=f) (l:=v::r);have h1:=Qs ((v::r).takeWhile f).tail;have h2:=QH hs;have h3:=Jy (Dp ((v::r).takeWhile f));exact⟨qS _ (WZ hB λy hy=>hs.subset ((Dp _).subset (YK hy))),om⟩
 unfold KH at hu
 split at hu
 ·cases hu
 ·split at hu
  ·split at hu
   ·cases hu
   ·rename_i x s e
    simp only at hu
    split at hu
    ·rename_i hc
     have hl:live=true:=by simp only[Ah]at hc;exact hc.2
     rw[Bz]at hu;subst hu;have hk:=kid _ x s e;have hs:=hsub hl x.ks hk.1 hk.2;exact JG3.2 ⟨Y1 (Ks.1 hB v (by simp)).1.1,(pre2 _).1,(pre2 _).2,by simp,λd hd=>(Cp hd).elim,hs.1,JAB hs.2⟩
    ·cases hu
  ·split at hu
   ·cases hu
   ·rename_i x s e
    simp only at hu
    split at hu
    ·rw[Bz]at hu
     subst hu;have hk:=kid _ x s e;have hd:=JOV hk.1 hk.2;exact JG3.2 ⟨λc hc=>(Cp hc).elim,(pre _).1,(pre _).2,hd.1,hd.2,by simp,JAB λy hy=>(Cp hy).elim⟩
    ·cases hu
theorem jv{sub:List CV->List Ru}{live top:Bool}(hsub:live=true->∀l,Qf jM l->JM l<=100000000->(sub l).length<=1000000000/\ ∀x∈sub l,WkR x):∀(n:Nat) (l:List CV),Qf jM l->JM l<=100000000->
  (Kr sub live top n l).length<=l.length/\ ∀x∈Kr sub live top n l,WkR x
 |0,l,_,_=>by rw[Kr];exact⟨A0 _,λx hx=>(Cp hx).elim⟩
 |n+1,[],_,_=>by rw[Kr];exact⟨A0 _,λx hx=>(Cp hx).elim⟩
 |n+1,v::r,hB,hn=>by
  have hs:=WP sub live top v r;have hw:=JOW (top:=top) hB hn hsub;have h1:=hs.1.length_le;have h2:=Jy hs.1;obtain⟨h3,h4⟩:=jv (top:=top) hsub n (KH sub live top v r).2 (WZ hB λy hy=>AV _ (hs.1.subset hy)) (by rw[Jr]at hn;omega)
  rw[ZX];refine⟨?_,λx hx=>?_⟩
  ·rw[An,Ag]
   have:=hs.2;omega
  ·rcases AW.1 hx with hx|hx
   ·exact hw x hx
   ·exact h4 x hx
theorem JB7:∀(f:Nat) (top:Bool) (l:List CV),Qf jM l->JM l<=100000000->(QD f top l).length<=1000000000/\ ∀x∈QD f top l,WkR x
 |0,top,l,hB,hn=>by
  have h1:=Jk l;rw[QD];have:=jv (sub:=λ_=>[]) (live:=false) (top:=top) (λh=>by cases h) (l.length+1) l hB hn
  exact⟨om,this.2⟩
 |f+1,top,l,hB,hn=>by
  have h1:=Jk l;rw[QD];have:=jv (sub:=QD f false) (live:=true) (top:=top) (λ_=>JB7 f false) (l.length+1) l hB hn
  exact⟨om,this.2⟩
theorem JOX{l:List Rul.Tk4}(hl:l.length<=100000000)(hB:∀t∈l,jM t):(rules (vals l)).length<=1000000000/\HZ (rules (vals l)):=by have hn:=js l;have:=JB7 64 true (vals l) (yS hB) om;exact⟨this.1,JAB this.2⟩
end Go.Lift.W1
end
