/- May component values be? -/
import Derived.Test.YtkmiddfplmnaoaaGreatDoorGLd
import Derived.Test.YtkmiddfplmnaoaaGreatDoorGKa
import Derived.Test.YtkmiddfplmnaoaaGreatDoorGK1Basea
open Go.IntKind renaming i64->Ak
open Go.Proofs.Tryz renaming prog->Aa
open Go.Value renaming bool->DG,int->Bp,pointer->DP
open List renaming all_append->Cv,all_cons->BF,append_assoc->Aw,append_nil->Aq,cons_append->Ae,dropWhile_cons->AD,drop_eq_getElem_cons->AE,drop_left->Ce,drop_length->Bw,drop_zero->AG,eq_nil_of_length_eq_zero->Au,getD_eq_getElem?_getD->Bs,getElem?_append_left->AQ,getElem?_append_right->AL,getElem?_eq_getElem->Ad,getElem?_eq_some_iff->Ab,getElem?_map->Ao,isEmpty_iff->Cy,length_append->An,length_cons->Ag,length_drop->Ay,length_map->Av,length_nil->Am,length_reverse->Ch,length_set->AO,map_cons->AU,mem_cons->Bg,mem_cons_of_mem->AV,mem_cons_self->Be,nil_append->Af,replicate->BB,reverse_cons->BD,set_append->DZ,set_set->BL,singleton_append->CC,take_left->Cf
open Nat renaming add_le_add_iff_left->DI,add_sub_cancel_left->Bv,add_zero->Bl,le_add_right->Ca,le_refl->Ac,mul_one->BC,sub_self->CR,zero_add->AB
open Option renaming toList->C7
open Option.some renaming inj->Bc
set_option linter.unusedVariables false
set_option linter.unusedSimpArgs false
set_option linter.unusedSectionVars false
set_option maxRecDepth 20000
set_option maxHeartbeats 4000000
section
open Go.Proofs
namespace Go.Lift.W1
open Rul
variable[MX]
variable{lo:Nat}{h:Heap}
theorem f25(hlo:lo<=h.length)(k:Int):E lo 25 [.v (.int .i64 k)] h=some (.v (.int .i64 (JN k)),h):=by
 rw[e25];unfold JN;by_cases a:k=19
 ·subst a;simp only[go_sem,b25,Tryz.f25,hlo];all_goals rfl
 ·by_cases b:k=23
  ·subst b;simp only[go_sem,b25,Tryz.f25,hlo];all_goals rfl
  ·by_cases c:k=2
   ·subst c;simp only[go_sem,b25,Tryz.f25,hlo];all_goals rfl
   ·by_cases d:k=21
    ·subst d;simp only[go_sem,b25,Tryz.f25,hlo];all_goals rfl
    ·have ha:(k==19)=false:=by simpa using a
     have hb:(k==23)=false:=by simpa using b
     have hc:(k==2)=false:=by simpa using c
     have hd:(k==21)=false:=by simpa using d
     simp only[go_sem,b25,Tryz.f25,hlo,ha,hb,hc,hd,a,b,c,d,or_self,if_false]
theorem f40(hlo:lo<=h.length)(k:Int):E lo 40 [.v (.int .i64 k)] h=some (.v (.int .i64 (JN k)),h):=by
 rw[e40];unfold JN;by_cases a:k=19
 ·subst a;simp only[go_sem,b40,Tryz.f40,hlo];all_goals rfl
 ·by_cases b:k=23
  ·subst b;simp only[go_sem,b40,Tryz.f40,hlo];all_goals rfl
  ·by_cases c:k=2
   ·subst c;simp only[go_sem,b40,Tryz.f40,hlo];all_goals rfl
   ·by_cases d:k=21
    ·subst d;simp only[go_sem,b40,Tryz.f40,hlo];all_goals rfl
    ·have ha:(k==19)=false:=by simpa using a
     have hb:(k==23)=false:=by simpa using b
     have hc:(k==2)=false:=by simpa using c
     have hd:(k==21)=false:=by simpa using d
     simp only[go_sem,b40,Tryz.f40,hlo,ha,hb,hc,hd,a,b,c,d,or_self,if_false]
theorem f82(hlo:lo<=h.length)(v:CV):E lo 82 [.agg (Qy v)] h=some (.v (.bool (Jd v)),h):=by obtain⟨t,ks⟩:=v;rw[Jq,e82];simp only[go_sem,b82,Tryz.f82,hlo]<;>rfl
theorem f67(hlo:lo<=h.length)(v:CV):E lo 67 [.agg (Qy v)] h=some (.v (.bool (Jd v)),h):=by obtain⟨t,ks⟩:=v;rw[Jq,e67];simp only[go_sem,b67,Tryz.f67,hlo]<;>rfl
theorem zD(r:List CV):(JH r).take r.length=JH r:=by rw[QX,List.take_length]
abbrev N56(l:List CV):Ja:=[(0,.list .no (JH l))]
theorem JQj{v:CV}{r:List CV}(hlo:lo<=h.length):
  evCode ⟨Aa,E,lo,h.length,h46⟩ JA JBR (N56 (v::r),h)=
   if Jd v=true then some (.normal,N56 r,h)else some (.exit 0,N56 (v::r)++[(11,.v (.bool false))],h):=by
 obtain⟨t,ks⟩:=v;have q:decide ((0:Int)<((r.length+1:Nat):Int))=true:=by rw[decide_eq_true_iff];omega
 have c:=λlo hlo=>f82 (lo:=lo) (h:=h) hlo (.mk t ks)
 rw[Jq]at c;have ca:=c lo hlo;have cb:=c h.length (Ac _);clear c
 cases hs:Jd (.mk t ks)with
 |true=>
  rw[hs]at ca cb;rw[if_pos rfl]
  simp only[go_sem,JBR,b46,Tryz.f46,hlo,q,ca,cb,Kc,Jq,JU,zD,J7,Ac]<;>rfl
 |false=>
  rw[hs]at ca cb;rw[if_neg (by simp)]
  simp only[N56,go_sem,JBR,b46,Tryz.f46,hlo,q,ca,cb,Kc,Jq,JU,zD,J7,Ac]<;>rfl
theorem JT2(hlo:lo<=h.length):evCode ⟨Aa,E,lo,h.length,h46⟩ JA JBR (N56 [],h)=some (.exit 0,N56 []++[(11,.v (.bool false))],h):=by have q:decide ((0:Int)<((0:Nat):Int))=false:=rfl;simp only[N56,go_sem,JBR,b46,Tryz.f46,hlo,q,Jc]<;>rfl
theorem JMJ(hlo:lo<=h.length):∀l:List CV,JA (evCode ⟨Aa,E,lo,h.length,h46⟩ JA JBR) (N56 l,h)=some (.exit 0,N56 (ltrim l)++[(11,.v (.bool false))],h)
 |[]=>by
  rw[JB,JT2 hlo,KP]
  rfl
 |v::r=>by
  rw[JB,JQj hlo]
  have hl:ltrim (v::r)=if Jd v=true then ltrim r else v::r:=by unfold ltrim;rw[AD]
  rw[hl]
  split
  ·rw[JK]
   exact JMJ hlo r
  ·rw[KP]
theorem JQk{v:CV}{r:List CV}{ex:Ja}(hex:ex=[]\/ex=[(11,.v (.bool false))])(hlo:lo<=h.length)(hl:r.length<=1000000000000):
  evCode ⟨Aa,E,lo,h.length,h46⟩ JA jH (N56 (r++[v])++ex,h)=
   if Jd v=true then some (.normal,N56 r,h)else some (.exit 2,N56 (r++[v])++[(25,.v (.bool false))],h):=by
 obtain⟨t,ks⟩:=v;have q:decide ((0:Int)<((r.length+1:Nat):Int))=true:=by rw[decide_eq_true_iff];omega
 have hw:Ak.wrap (((r.length+1:Nat):Int)-1)=(r.length:Int):=by rw[JL]<;>omega
 have hg:(JH (r++[.mk t ks]))[r.length]? =some (Qy (.mk t ks)):=by rw[KU];simp
 have ht:(JH (r++[.mk t ks])).take r.length=JH r:=by rw[QX];simp
 have hll:(JH (r++[.mk t ks])).length=r.length+1:=by rw[JU];simp
 have c:=λlo hlo=>f82 (lo:=lo) (h:=h) hlo (.mk t ks)
 rw[Jq]at c hg;have ca:=c lo hlo;have cb:=c h.length (Ac _);clear c;have hra:=J7 (r++[.mk t ks]);have hle:r.length<=r.length+1:=om;unfold N56;generalize JH (r++[.mk t ks])=R at*
 cases hs:Jd (.mk t ks)with
 |true=>
  rw[hs]at ca cb;rw[if_pos rfl];rcases hex with rfl|rfl
  ·simp only[go_sem,jH,b46,Tryz.f46,hlo,q,ca,cb,hg,ht,hll,hw,hra,hle]<;>rfl
  ·simp only[go_sem,jH,b46,Tryz.f46,hlo,q,ca,cb,hg,ht,hll,hw,hra,hle]<;>rfl
 |false=>
  rw[hs]at ca cb;rw[if_neg (by simp)]
  rcases hex with rfl|rfl
  ·simp only[go_sem,jH,b46,Tryz.f46,hlo,q,ca,cb,hg,ht,hll,hw,hra,hle]<;>rfl
  ·simp only[go_sem,jH,b46,Tryz.f46,hlo,q,ca,cb,hg,ht,hll,hw,hra,hle]<;>rfl
theorem JT3{ex:Ja}(hex:ex=[]\/ex=[(11,.v (.bool false))])(hlo:lo<=h.length):evCode ⟨Aa,E,lo,h.length,h46⟩ JA jH (N56 []++ex,h)=some (.exit 2,N56 []++[(25,.v (.bool false))],h):=by
 have q:decide ((0:Int)<((0:Nat):Int))=false:=rfl;rcases hex with rfl|rfl
 ·simp only[N56,go_sem,jH,b46,Tryz.f46,hlo,q,Jc]<;>rfl
 ·simp only[N56,go_sem,jH,b46,Tryz.f46,hlo,q,Jc]<;>rfl
theorem JMK(hlo:lo<=h.length):∀(n:Nat) (l:List CV) (ex:Ja),l.length=n->n<=1000000000000->(ex=[]\/ex=[(11,.v (.bool false))])->JA (evCode ⟨Aa,E,lo,h.length,h46⟩ JA jH) (N56 l++ex,h)=some (.exit 2,N56 (K4 l)++[(25,.v (.bool false))],h)
 |0,l,ex,hn,_,hex=>by
  obtain rfl:=Au hn
  rw[JB,JT3 hex hlo,KP,JDZ]
 |n+1,l,ex,hn,hb,hex=>by
  obtain⟨r,v,rfl⟩:∃r v,l=r++[v]:=⟨l.dropLast,l.getLast (by intro e;rw[e]at hn;cases hn),(List.dropLast_concat_getLast _).symm⟩
  have hr:r.length=n:=by simpa using hn
  rw[JB,JQk hex hlo om,JBK]
  split
  ·rw[JK]
   have:=JMK hlo n r [] hr om (.inl rfl)
   rwa[Aq]at this
  ·rw[KP]
theorem f46{l:List CV}(hlo:lo<=h.length)(hl:l.length<=1000000000):E lo 46 [.list .no (JH l)] h=some (.list .no (JH (trim l)),h):=by have h1:=JMJ (lo:=lo) (h:=h) hlo l;have hl2:(ltrim l).length<=l.length:=(List.dropWhile_suffix _).length_le;have h2:=JMK (lo:=lo) (h:=h) hlo _ (ltrim l) _ rfl om (.inr rfl);rw[<-Ht]at h2;rw[e46];simp only[JBR,jH,b46,Tryz.f46,JG,JT,JC,go_sem,N56]at h1 h2;simp only[go_sem,b46,Tryz.f46,hlo,h1,h2]<;>rfl
end Go.Lift.W1
end

section
namespace Go.Lift.Rul
def Yy:K7->List CV->List CV
 |[],b=>b
 |(_,ks)::_,_=>ks
def Yb:K7->List CV->List V
 |[],b=>[.list .yes (JH b)]
 |(_,ks)::r,b=>Yb r b++[.list .yes (JH ks)]
def QY:K7->List V
 |[]=>[]
 |(o,_)::r=>QY r++row o
def Wb:K7->List CV->List V
 |[],b=>row (bare 0)++[.list .yes (JH b)]
 |(o,ks)::r,b=>Wb r b++(row o++[.list .yes (JH ks)])
theorem GZ:∀(s:K7) (b:List CV),(Yb s b).length=s.length+1
 |[],_=>rfl
 |(_,_)::r,b=>by simp[Yb,GZ r b]
theorem Yz:∀s:K7,(QY s).length=s.length*6
 |[]=>rfl
 |(_,_)::r=>by simp[QY,Yz r,row];omega
theorem W6:∀(s:K7) (b:List CV),(Wb s b).length=(s.length+1)*7
 |[],_=>rfl
 |(_,_)::r,b=>by simp[Wb,W6 r b,row];omega
theorem zr(p:V->Bool)(h:∀l,p (.list .yes (JH l))=true):∀(s:K7) (b:List CV),(Yb s b).all p=true
 |[],b=>by simp[Yb,h]
 |(_,ks)::r,b=>by rw[Yb,Cv,zr p h r b];simp[h]
theorem JBf(p:V->Bool)(h:∀z,(∀q,z≠DP q)->p (.v z)=true)(t:Tk4):(row t).all p=true:=by
 simp only[row,BF,List.all_nil];rw[h _ (by simp),h _ (by simp),h _ (by simp),h _ (by simp),h _ (by simp),h _ (by simp)]
 rfl
theorem ku(p:V->Bool)(h:∀z,(∀q,z≠DP q)->p (.v z)=true):∀s:K7,(QY s).all p=true
 |[]=>rfl
 |(o,_)::r=>by rw[QY,Cv,ku p h r,JBf p h];rfl
theorem zt(p:V->Bool)(h:∀z,(∀q,z≠DP q)->p (.v z)=true)(h2:∀l,p (.list .yes (JH l))=true):∀(s:K7) (b:List CV),(Wb s b).all p=true
 |[],b=>by rw[Wb,Cv,JBf p h];simp[h2]
 |(o,ks)::r,b=>by rw[Wb,Cv,Cv,zt p h h2 r b,JBf p h];simp[h2]
theorem JYt{z:Value}(h:∀q,z≠DP q):QB (.v z)=false:=by
 cases z with
 |pointer q=>exact absurd rfl (h q)
 |_=>rfl
theorem JVd(i:Nat)(z:Value)(h:∀q,z≠DP q):qk i (.v z)=true:=by unfold qk;rw[JYt h];rfl
theorem JVe(i:Nat)(l:List CV):qk i (.list .yes (JH l))=true:=rfl
theorem JT4(i:Nat)(s:K7)(b:List CV):(Yb s b).all (qk i)=true:=zr _ (JVe i) s b
theorem JQl(i:Nat)(s:K7):(QY s).all (qk i)=true:=ku _ (JVd i) s
theorem JT5(i:Nat)(s:K7)(b:List CV):(Wb s b).all (qk i)=true:=zt _ (JVd i) (JVe i) s b
theorem zu:∀(s:K7) (b:List CV) (j:List V),(Yb s b++j)[s.length]? =some (.list .yes (JH (Yy s b)))
 |[],_,_=>rfl
 |(_,ks)::r,b,j=>by
  have e:((Yb r b)++[V.list .yes (JH ks)])[r.length+1]? =some (V.list .yes (JH ks)):=by rw[<-GZ r b];exact List.getElem?_concat_length
  rw[AQ (by rw[GZ];exact Nat.lt_succ_self _)]
  exact e
theorem JDn(p:Tk4×List CV)(r:K7)(b:List CV)(j:List V):(Yb (p::r) b++j)[r.length]? =some (.list .yes (JH (Yy r b))):=by obtain⟨o,ks⟩:=p;rw[Yb,Aw];exact zu r b _
theorem JML:∀(s:K7) (b:List CV) (j:List V) (v:CV),(Yb s b++j).set s.length (.list .yes (JH (Yy s b++[v])))=Yb (KM v s b).1 (KM v s b).2++j
 |[],_,_,_=>rfl
 |(o,ks)::r,b,j,v=>by have hl:=GZ r b;simp only[Yb,KM,Yy,Ag,Aw,CC];rw[DZ,if_neg om,hl,CR];rfl
theorem JJM(o:Tk4)(ks:List CV)(r:K7)(b:List CV)(j:List V):(Yb ((o,ks)::r) b++j).set r.length (.list .yes (JH (Yy r b++[.mk o ks])))=Yb (KT ((o,ks)::r) b).1 (KT ((o,ks)::r) b).2++(.list .yes (JH ks)::j):=by rw[Yb,Aw,CC,JML r b _ (.mk o ks)];rfl
theorem JQm(s:K7)(b:List CV)(j:List V):(Yb s b++j).take ((s.length+1)*1)=Yb s b:=by rw[BC,<-GZ s b,Cf]
theorem JOA(s:K7)(j:List V):(QY s++j).take (s.length*6)=QY s:=by rw[<-Yz s,Cf]
theorem JQn(s:K7)(b:List CV)(j:List V):(Wb s b++j).take ((s.length+1)*7)=Wb s b:=by rw[<-W6 s b,Cf]
theorem JJN(o:Tk4)(ks:List CV)(r:K7)(j:List V):((QY ((o,ks)::r)++j).drop (r.length*6)).take 6=row o:=by rw[QY,Aw,<-Yz r,Ce];rfl
theorem JDo(o:Tk4)(ks:List CV)(r:K7)(j:List V):(QY ((o,ks)::r)++j)[r.length*6]? =some (.v (.int .i64 o.k)):=by
 rw[QY,Aw,<-Yz r,AL (Ac _),CR]
 rfl
theorem JMM:∀(s:K7) (b:List CV) (j:List V),(Wb s b++j)[s.length*7+6]? =some (.list .yes (JH (Yy s b)))
 |[],_,_=>rfl
 |(o,ks)::r,b,j=>by
  have hl:=W6 r b;rw[Wb,Aw,AL (by simp only[Ag];omega),Ag,hl,Bv]
  rfl
theorem JDp(p:Tk4×List CV)(r:K7)(b:List CV)(j:List V):(Wb (p::r) b++j)[r.length*7+6]? =some (.list .yes (JH (Yy r b))):=by obtain⟨o,ks⟩:=p;rw[Wb,Aw];exact JMM r b _
theorem JMN:∀(s:K7) (b:List CV) (j:List V) (v:CV),(Wb s b++j).set (s.length*7+6) (.list .yes (JH (Yy s b++[v])))=Wb (KM v s b).1 (KM v s b).2++j
 |[],_,_,_=>rfl
 |(o,ks)::r,b,j,v=>by have hl:=W6 r b;simp only[Wb,KM,Yy,Ag,Aw];rw[DZ,if_neg om,hl,Bv];rfl
theorem JJO(o:Tk4)(ks:List CV)(r:K7)(b:List CV)(j:List V):(Wb ((o,ks)::r) b++j).set (r.length*7+6) (.list .yes (JH (Yy r b++[.mk o ks])))=Wb (KT ((o,ks)::r) b).1 (KT ((o,ks)::r) b).2++(row o++[.list .yes (JH ks)]++j):=by rw[Wb,Aw,JMN r b _ (.mk o ks)];rfl
theorem JDq(o:Tk4)(ks:List CV)(r:K7)(b:List CV)(j:List V):((Wb ((o,ks)::r) b++j).drop ((r.length+1)*7)).take 7=row o++[.list .yes (JH ks)]:=by rw[Wb,Aw,<-W6 r b,Ce];rfl
theorem JJP(o:Tk4)(ks:List CV)(r:K7)(b:List CV)(j:List V):(Wb ((o,ks)::r) b++j)[(r.length+1)*7]? =some (.v (.int .i64 o.k)):=by
 rw[Wb,Aw,<-W6 r b,AL (Ac _),CR]
 rfl
theorem zG(v:CV):∀(s:K7) (b:List CV),QY (KM v s b).1=QY s
 |[],_=>rfl
 |(_,_)::_,_=>rfl
def jK:K7->Nat
 |[]=>0
 |p::r=>1+p.2.length+jK r
theorem Ga:∀s:K7,s.length<=jK s
 |[]=>Ac _
 |p::r=>by have:=Ga r;simp only[jK,Ag];omega
theorem kw:∀(s:K7) (b:List CV),(Yy s b).length<=jK s+b.length
 |[],b=>by simp[Yy]
 |(o,ks)::r,b=>by simp only[Yy,jK];omega
theorem JMO(v:CV):∀(s:K7) (b:List CV),jK (KM v s b).1+(KM v s b).2.length=jK s+b.length+1
 |[],b=>by simp[KM,jK]
 |(o,ks)::r,b=>by simp only[KM,jK,An,Ag,Am];omega
theorem JBg(o:Tk4)(ks:List CV)(r:K7)(b:List CV):jK (KT ((o,ks)::r) b).1+(KT ((o,ks)::r) b).2.length<=jK ((o,ks)::r)+b.length:=by have:=JMO (.mk o ks) r b;simp only[KT,jK]at*;omega
def Opn(s:K7):Prop:=∀p∈s,JN p.1.k≠0
theorem JMP{v:CV}:∀{s:K7} {b:List CV},Opn s->Opn (KM v s b).1
 |[],_,h=>h
 |(o,ks)::r,_,h=>by
  intro p hp;rcases Bg.1 hp with rfl|hp
  ·exact h (o,ks) (Be ..)
  ·exact h _ (AV _ hp)
theorem JQo{o:Tk4}{ks:List CV}{r:K7}{b:List CV}(h:Opn ((o,ks)::r)):Opn (KT ((o,ks)::r) b).1:=
 JMP λp hp=>h p (AV _ hp)
theorem JJQ{t:Tk4}{s:K7}{b:List CV}(h:Opn s):Opn (K3 t s b).1:=by
 unfold K3
 split
 ·cases s with
  |nil=>exact h
  |cons p r=>obtain⟨o,ks⟩:=p;exact JQo h
 ·split
  ·intro p hp
   rcases Bg.1 hp with rfl|hp
   ·assumption
   ·exact h p hp
  ·exact JMP h
theorem JJR(t:Tk4)(s:K7)(b:List CV):jK (K3 t s b).1+(K3 t s b).2.length<=jK s+b.length+1:=by
 unfold K3
 split
 ·cases s with
  |nil=>exact Nat.le_succ _
  |cons p r=>obtain⟨o,ks⟩:=p;have:=JBg o ks r b;omega
 ·split
  ·simp only[jK,Am];omega
  ·have:=JMO (.mk t []) s b;omega
end Go.Lift.Rul
end

section
open Go.Proofs
namespace Go.Lift.W1
open Rul
variable[MX]
variable{lo:Nat}{h:Heap}
theorem ky{n:Nat}(h:n<=1000000000):(n+1)*72<=140737488355328:=om
theorem Hy{n:Nat}(h:n<=1000000000):n<=9223372036854775806:=om
theorem JmC{p:List Ob}{sc oc:List V}{n:Nat}{t:Tk4}{r ks:List CV}(hlo:lo<=p.length)(hn:n<=1000000000)
  (h1:sc[n]? =some (.list .yes (JH r)))(h2:sc[n+1]? =some (.list .yes (JH ks)))(hr:r.length<=1000000000)
  (hol:(n+1)*6<=oc.length)(hoc:(oc.drop (n*6)).take 6=row t):
  E lo 83 [.ptr (p.length+1) 0,.ptr (p.length+2) 0] (p++[.cells sc,.cells [.stk p.length (n+2) 1],.cells [.stk (p.length+3) (n+1) 6],.cells oc])=
   some (.tup [],p++[.cells (sc.set n (.list .yes (JH (r++[.mk t ks])))),.cells [.stk p.length (n+1) 1],.cells [.stk (p.length+3) n 6],.cells oc]):=by
 have w1:Ak.wrap (((n+2:Nat):Int)-1)=((n+1:Nat):Int):=by rw[JL]<;>omega
 have w2:Ak.wrap (((n+1:Nat):Int)-1)=(n:Int):=by rw[JL]<;>omega
 have q1:(n:Int)<((n+1:Nat):Int):=om;have q2:((n+1:Nat):Int)<((n+2:Nat):Int):=om;have q3:(n:Int)<((n+2:Nat):Int):=om;have hs0:n+1<sc.length:=(Ab.1 h2).1
 have hs:n<sc.length:=om;have hs1:n+1<=sc.length:=hs;have hk:∀(x y:V),(sc.set n y).take n++x::(sc.set n y).drop (n+1)=sc.set n x:=λx y=>by rw[Zd (by rw[AO];exact hs),BL]
 have e1:(n+2)*1<=sc.length:=om;have e2:6<=(oc.drop (n*6)).length:=by rw[Ay];omega
 have o1:(r.length+1)*72<=140737488355328:=ky hr;have o2:r.length<=9223372036854775806:=Hy hr;have ra:=J7 r;have l1:lo<=p.length+1:=om;have l2:lo<=p.length+2:=om;have l3:lo<=p.length+3:=om;have l4:lo<=p.length+4:=om;have l5:lo<=p.length+5:=om;have l6:lo<=p.length+6:=om;rw[e83];simp only[go_sem,b83,Tryz.f83,hlo,w1,w2,q1,q2,q3,h1,h2,hol,hoc,row,e1,e2,hs,hs0,o1,o2,ra,hs1,hk,AO,BL,JU,Wu,Kc,Jc,Jq,l1,l2,l3,l4,l5,l6,BC,Ca,Ac,DI]<;>rfl
def nt(l:List Nat):List V:=l.map λn:Nat=>V.v (.int .i64 (n:Int))
theorem Zh(l:List Nat):(nt l).length=l.length:=Av _
theorem JYu(l:List Nat)(i:Nat):(nt l)[i]? =(l[i]?).map λn:Nat=>V.v (.int .i64 (n:Int)):=Ao ..
theorem Zi(l:List Nat)(i n:Nat):(nt l).set i (.v (.int .i64 n))=nt (l.set i n):=by simp[nt,List.map_set]
theorem Gl{l:List Nat}{i:Nat}(h:i<l.length):(nt l)[i]? =some (.v (.int .i64 (l.getD i 0:Nat))):=by
 rw[JYu,Ad h]
 simp[Bs,h]
abbrev tx(p:Heap)(l:List Tk4)(E D:List Nat):List Ob:=[.cells (nt E),.cells (nt D),.cells [.list .no (l.map row),.stk p.length l.length 1,.stk (p.length+1) l.length 1]]
theorem JmD{p:List Ob}{S:List V}{l:List Tk4}{E' D:List Nat}{i a:Nat}(hlo:lo<=p.length)(hN:l.length<=1000000000)(hE:E'.length=l.length)(hD:D.length=l.length)(hb:∀q,D.getD q 0<=1000000000)
  (h1:S[0]? =some (.v (.int .i64 (i:Nat))))(hi:i<l.length):
  E lo 24 [.v (.int .i64 (a:Nat)),.ptr (p.length+4) 0,.ptr (p.length+3) 0] (p++(tx p l E' D++[.cells [.ptr (p.length+2) 0],.cells [.stk (p.length+5) 1 1],.cells S]))=
   some (.tup [],p++(tx p l (E'.set i a) (D.set i (D.getD i 0+1))++[.cells [.ptr (p.length+2) 0],.cells [.stk (p.length+5) 0 1],.cells S])):=by
 have w1:Ak.wrap (((1:Nat):Int)-1)=((0:Nat):Int):=by rw[JL]<;>omega
 have w2:Ak.wrap (((D.getD i 0:Nat):Int)+1)=((D.getD i 0+1:Nat):Int):=JD (by have:=hb i;omega)
 have q1:(0:Int)<((1:Nat):Int):=by decide
 have q2:(i:Int)<(l.length:Int):=om;have g0:∀L:List Nat,L.length=l.length->i+1<=(nt L).length:=λL hL=>by rw[Zh,hL];exact hi
 have gE:=g0 E' hE;have gD:=g0 D hD;have dD:=Gl (show i<D.length by omega)
 have sE:=Zi E' i a;have sD:=Zi D i (D.getD i 0+1);have q3:decide ((0:Int)<((0:Nat):Int))=false:=rfl;have l1:lo<=p.length+1:=om;have l2:lo<=p.length+2:=om;have l3:lo<=p.length+3:=om;have l4:lo<=p.length+4:=om;have l5:lo<=p.length+5:=om;have l6:lo<=p.length+6:=om;have l7:lo<=p.length+7:=om;rw[e24];simp only[tx,Ae,Af,go_sem,b24,Tryz.f24,hlo,w1,w2,q1,q2,h1,gE,gD,dD,sE,sD,q3,l1,l2,l3,l4,l5,l6,l7,BC]<;>rfl
theorem JmG{p:List Ob}{S xs:List V}{l:List Tk4}{E' D:List Nat}{i a:Nat}(hlo:lo<=p.length)(hN:l.length<=1000000000)(hE:E'.length=l.length)(hD:D.length=l.length)(hb:∀q,D.getD q 0<=1000000000)
  (h1:S[0]? =some (.v (.int .i64 (i:Nat))))(hi:i<l.length):
  E lo 24 [.v (.int .i64 (a:Nat)),.ptr (p.length+4) 0,.ptr (p.length+3) 0] (p++(tx p l E' D++[.cells [.ptr (p.length+2) 0],.cells [.stk (p.length+5) 1 1],.cells S,.cells xs]))=
   some (.tup [],p++(tx p l (E'.set i a) (D.set i (D.getD i 0+1))++[.cells [.ptr (p.length+2) 0],.cells [.stk (p.length+5) 0 1],.cells S,.cells xs])):=by
 have w1:Ak.wrap (((1:Nat):Int)-1)=((0:Nat):Int):=by rw[JL]<;>omega
 have w2:Ak.wrap (((D.getD i 0:Nat):Int)+1)=((D.getD i 0+1:Nat):Int):=JD (by have:=hb i;omega)
 have q1:(0:Int)<((1:Nat):Int):=by decide
 have q2:(i:Int)<(l.length:Int):=om;have g0:∀L:List Nat,L.length=l.length->i+1<=(nt L).length:=λL hL=>by rw[Zh,hL];exact hi
 have gE:=g0 E' hE;have gD:=g0 D hD;have dD:=Gl (show i<D.length by omega)
 have sE:=Zi E' i a;have sD:=Zi D i (D.getD i 0+1);have q3:decide ((0:Int)<((0:Nat):Int))=false:=rfl;have l1:lo<=p.length+1:=om;have l2:lo<=p.length+2:=om;have l3:lo<=p.length+3:=om;have l4:lo<=p.length+4:=om;have l5:lo<=p.length+5:=om;have l6:lo<=p.length+6:=om;have l7:lo<=p.length+7:=om;rw[e24];simp only[tx,Ae,Af,go_sem,b24,Tryz.f24,hlo,w1,w2,q1,q2,h1,gE,gD,dD,sE,sD,q3,l1,l2,l3,l4,l5,l6,l7,BC]<;>rfl
theorem JmH{p:List Ob}{S:List V}{l:List Tk4}{E' D:List Nat}{i a:Nat}{m j:Nat}(hlo:lo<=p.length)(hN:l.length<=1000000000)(hE:E'.length=l.length)(hD:D.length=l.length)(hb:∀q,D.getD q 0<=1000000000)
  (h1:S[m+1]? =some (.v (.int .i64 (i:Nat))))(hi:i<l.length)(h2:S[m]? =some (.v (.int .i64 (j:Nat))))(hj:j<l.length)(hm:m<=1000000000):
  E lo 24 [.v (.int .i64 (a:Nat)),.ptr (p.length+4) 0,.ptr (p.length+3) 0] (p++(tx p l E' D++[.cells [.ptr (p.length+2) 0],.cells [.stk (p.length+5) ((m+1)+1) 1],.cells S]))=
   some (.tup [],p++(tx p l (E'.set i a) ((D.set i (D.getD i 0+1)).set j (max (D.getD j 0) (D.getD i 0+1)))++[.cells [.ptr (p.length+2) 0],.cells [.stk (p.length+5) (m+1) 1],.cells S])):=by
 have w1:Ak.wrap ((((m+1)+1:Nat):Int)-1)=(((m+1):Nat):Int):=by rw[JL]<;>omega
 have w2:Ak.wrap (((D.getD i 0:Nat):Int)+1)=((D.getD i 0+1:Nat):Int):=JD (by have:=hb i;omega)
 have q1:(((m+1):Nat):Int)<(((m+1)+1:Nat):Int):=om;have q2:(i:Int)<(l.length:Int):=om;have g0:∀L:List Nat,L.length=l.length->i+1<=(nt L).length:=λL hL=>by rw[Zh,hL];exact hi
 have gE:=g0 E' hE;have gD:=g0 D hD;have dD:=Gl (show i<D.length by omega)
 have sE:=Zi E' i a;have sD:=Zi D i (D.getD i 0+1);have q3:decide ((0:Int)<((m+1:Nat):Int))=true:=by rw[decide_eq_true_iff];omega
 have w3:Ak.wrap (((m+1:Nat):Int)-1)=(m:Int):=by rw[JL]<;>omega
 have q4:(m:Int)<((m+1:Nat):Int):=om;have q5:(j:Int)<(l.length:Int):=om;have hD2:(D.set i (D.getD i 0+1)).length=l.length:=by rw[AO];exact hD
 have d2i:(nt (D.set i (D.getD i 0+1)))[i]? =some (.v (.int .i64 ((D.getD i 0+1:Nat):Int))):=by rw[Gl (by rw[hD2];exact hi),Kv om]
 have d2j:=Gl (show j<(D.set i (D.getD i 0+1)).length by rw[hD2];exact hj)
 have gD2:j+1<=(nt (D.set i (D.getD i 0+1))).length:=by rw[Zh,hD2];exact hj
 have ex:(if(((D.set i (D.getD i 0+1)).getD j 0:Nat):Int)<((D.getD i 0+1:Nat):Int)then((D.getD i 0+1:Nat):Int)else(((D.set i (D.getD i 0+1)).getD j 0:Nat):Int))=((max (D.getD j 0) (D.getD i 0+1):Nat):Int):=by
  by_cases hij:j=i
  ·subst hij
   rw[Kv om]
   split<;>omega
  ·rw[Jp hij]
   split<;>omega
 have sD2:=Zi (D.set i (D.getD i 0+1)) j (max (D.getD j 0) (D.getD i 0+1));have l1:lo<=p.length+1:=om;have l2:lo<=p.length+2:=om;have l3:lo<=p.length+3:=om;have l4:lo<=p.length+4:=om;have l5:lo<=p.length+5:=om;have l6:lo<=p.length+6:=om;have l7:lo<=p.length+7:=om;rw[e24];simp only[tx,Ae,Af,go_sem,b24,Tryz.f24,hlo,w1,w2,q1,q2,h1,h2,gE,gD,dD,sE,sD,q3,w3,q4,q5,d2i,d2j,gD2,sD2,ex,GT.gt,l1,l2,l3,l4,l5,l6,l7,BC]<;>rfl
theorem JmJ{p:List Ob}{S xs:List V}{l:List Tk4}{E' D:List Nat}{i a:Nat}{m j:Nat}(hlo:lo<=p.length)(hN:l.length<=1000000000)(hE:E'.length=l.length)(hD:D.length=l.length)(hb:∀q,D.getD q 0<=1000000000)
  (h1:S[m+1]? =some (.v (.int .i64 (i:Nat))))(hi:i<l.length)(h2:S[m]? =some (.v (.int .i64 (j:Nat))))(hj:j<l.length)(hm:m<=1000000000):
  E lo 24 [.v (.int .i64 (a:Nat)),.ptr (p.length+4) 0,.ptr (p.length+3) 0] (p++(tx p l E' D++[.cells [.ptr (p.length+2) 0],.cells [.stk (p.length+5) ((m+1)+1) 1],.cells S,.cells xs]))=
   some (.tup [],p++(tx p l (E'.set i a) ((D.set i (D.getD i 0+1)).set j (max (D.getD j 0) (D.getD i 0+1)))++[.cells [.ptr (p.length+2) 0],.cells [.stk (p.length+5) (m+1) 1],.cells S,.cells xs])):=by
 have w1:Ak.wrap ((((m+1)+1:Nat):Int)-1)=(((m+1):Nat):Int):=by rw[JL]<;>omega
 have w2:Ak.wrap (((D.getD i 0:Nat):Int)+1)=((D.getD i 0+1:Nat):Int):=JD (by have:=hb i;omega)
 have q1:(((m+1):Nat):Int)<(((m+1)+1:Nat):Int):=om;have q2:(i:Int)<(l.length:Int):=om;have g0:∀L:List Nat,L.length=l.length->i+1<=(nt L).length:=λL hL=>by rw[Zh,hL];exact hi
 have gE:=g0 E' hE;have gD:=g0 D hD;have dD:=Gl (show i<D.length by omega)
 have sE:=Zi E' i a;have sD:=Zi D i (D.getD i 0+1);have q3:decide ((0:Int)<((m+1:Nat):Int))=true:=by rw[decide_eq_true_iff];omega
 have w3:Ak.wrap (((m+1:Nat):Int)-1)=(m:Int):=by rw[JL]<;>omega
 have q4:(m:Int)<((m+1:Nat):Int):=om;have q5:(j:Int)<(l.length:Int):=om;have hD2:(D.set i (D.getD i 0+1)).length=l.length:=by rw[AO];exact hD
 have d2i:(nt (D.set i (D.getD i 0+1)))[i]? =some (.v (.int .i64 ((D.getD i 0+1:Nat):Int))):=by rw[Gl (by rw[hD2];exact hi),Kv om]
 have d2j:=Gl (show j<(D.set i (D.getD i 0+1)).length by rw[hD2];exact hj)
 have gD2:j+1<=(nt (D.set i (D.getD i 0+1))).length:=by rw[Zh,hD2];exact hj
 have ex:(if(((D.set i (D.getD i 0+1)).getD j 0:Nat):Int)<((D.getD i 0+1:Nat):Int)then((D.getD i 0+1:Nat):Int)else(((D.set i (D.getD i 0+1)).getD j 0:Nat):Int))=((max (D.getD j 0) (D.getD i 0+1):Nat):Int):=by
  by_cases hij:j=i
  ·subst hij
   rw[Kv om]
   split<;>omega
  ·rw[Jp hij]
   split<;>omega
 have sD2:=Zi (D.set i (D.getD i 0+1)) j (max (D.getD j 0) (D.getD i 0+1));have l1:lo<=p.length+1:=om;have l2:lo<=p.length+2:=om;have l3:lo<=p.length+3:=om;have l4:lo<=p.length+4:=om;have l5:lo<=p.length+5:=om;have l6:lo<=p.length+6:=om;have l7:lo<=p.length+7:=om;rw[e24];simp only[tx,Ae,Af,go_sem,b24,Tryz.f24,hlo,w1,w2,q1,q2,h1,h2,gE,gD,dD,sE,sD,q3,w3,q4,q5,d2i,d2j,gD2,sD2,ex,GT.gt,l1,l2,l3,l4,l5,l6,l7,BC]<;>rfl
theorem JmK{p:List Ob}{sc oc xs:List V}{n:Nat}{t:Tk4}{r ks:List CV}(hlo:lo<=p.length)(hn:n<=1000000000)
  (h1:sc[n]? =some (.list .yes (JH r)))(h2:sc[n+1]? =some (.list .yes (JH ks)))(hr:r.length<=1000000000)
  (hol:(n+1)*6<=oc.length)(hoc:(oc.drop (n*6)).take 6=row t):
  E lo 83 [.ptr (p.length+1) 0,.ptr (p.length+2) 0] (p++[.cells sc,.cells [.stk p.length (n+2) 1],.cells [.stk (p.length+3) (n+1) 6],.cells oc,.cells xs])=
   some (.tup [],p++[.cells (sc.set n (.list .yes (JH (r++[.mk t ks])))),.cells [.stk p.length (n+1) 1],.cells [.stk (p.length+3) n 6],.cells oc,.cells xs]):=by
 have w1:Ak.wrap (((n+2:Nat):Int)-1)=((n+1:Nat):Int):=by rw[JL]<;>omega
 have w2:Ak.wrap (((n+1:Nat):Int)-1)=(n:Int):=by rw[JL]<;>omega
 have q1:(n:Int)<((n+1:Nat):Int):=om;have q2:((n+1:Nat):Int)<((n+2:Nat):Int):=om;have q3:(n:Int)<((n+2:Nat):Int):=om;have hs0:n+1<sc.length:=(Ab.1 h2).1
 have hs:n<sc.length:=om;have hs1:n+1<=sc.length:=hs;have hk:∀(x y:V),(sc.set n y).take n++x::(sc.set n y).drop (n+1)=sc.set n x:=λx y=>by rw[Zd (by rw[AO];exact hs),BL]
 have e1:(n+2)*1<=sc.length:=om;have e2:6<=(oc.drop (n*6)).length:=by rw[Ay];omega
 have o1:(r.length+1)*72<=140737488355328:=ky hr;have o2:r.length<=9223372036854775806:=Hy hr;have ra:=J7 r;have l1:lo<=p.length+1:=om;have l2:lo<=p.length+2:=om;have l3:lo<=p.length+3:=om;have l4:lo<=p.length+5:=om;have l5:lo<=p.length+6:=om;have l6:lo<=p.length+7:=om;rw[e83];simp only[go_sem,b83,Tryz.f83,hlo,w1,w2,q1,q2,q3,h1,h2,hol,hoc,row,e1,e2,hs,hs0,o1,o2,ra,hs1,hk,AO,BL,JU,Wu,Kc,Jc,Jq,l1,l2,l3,l4,l5,l6,BC,Ca,Ac,DI]<;>rfl
abbrev zH(h:Heap)(l:List Tk4)(i:Nat):Ja:=[(3,.ptr (h.length+1) 0),(4,.ptr (h.length+2) 0),(5,.fn 83 [.ptr (h.length+1) 0,.ptr (h.length+2) 0]),(11,.list .no (l.map row)),(12,.v (.int .i64 l.length)),(13,.v (.int .i64 i))]
abbrev HA(h:Heap)(b:List CV):Heap:=h++[.cells [.list .yes (JH b)],.cells [.stk h.length 1 1],.cells [.list .yes []]]
abbrev HB(h:Heap)(S O:List V)(n:Nat):Heap:=h++[.cells S,.cells [.stk h.length (n+1) 1],.cells [.stk (h.length+3) n 6],.cells O]
theorem JfG{l:List Tk4}{t:Tk4}{i:Nat}{b:List CV}(hlo:lo<=h.length)(hg:l[i]? =some t)(hl:l.length<=1000000000)(hc:0<JN t.k):
  evCode ⟨Aa,E,lo,h.length,h47⟩ JA YL (zH h l i,HA h b)=some (.normal,zH h l (i+1),HB h (Yb [(t,[])] b) (QY [(t,[])]) 1):=by
 have hlt:i<l.length:=(Ab.1 hg).1
 have q:decide ((i:Int)<(l.length:Int))=true:=by simpa using hlt
 have hgr:(l.map row)[i]? =some (row t):=by rw[Ao,hg];rfl
 have hw:=JD (i:=i) om;have qc:decide (0<JN t.k)=true:=by simpa using hc
 have c25:=f25 (lo:=lo) (h:=h++[.cells [.list .yes (JH b)],.cells [.stk h.length 1 1],.cells [.list .yes []],.cells (row t)]) (by simp;omega) t.k
 have l1:lo<=h.length+1:=om;have l2:lo<=h.length+2:=om;have l3:lo<=h.length+3:=om;have l4:lo<=h.length+4:=om;simp only[row]at hgr c25;simp only[zH,HA,HB,Yb,QY,row,go_sem,YL,b47,Tryz.f47,hlo,l1,l2,l3,l4,q,hgr,hw,qc,c25,Jc,Av,Af,Aq,Ae]<;>rfl
def Gm(j:List V):Prop:=∀i,j.all (avf i)=true/\j.all (okv i)=true
theorem Qz:Gm []:=λ_=>⟨rfl,rfl⟩
theorem KB{a b:List V}(ha:Gm a)(hb:Gm b):Gm (a++b):=λi=>by rw[Cv,(ha i).1,(hb i).1,Cv,(ha i).2,(hb i).2];exact⟨rfl,rfl⟩
theorem JJS{l:List CV}{a:List V}(ha:Gm a):Gm (.list .yes (JH l)::a):=λi=>by rw[BF,BF,(ha i).1,(ha i).2];exact⟨rfl,rfl⟩
theorem JBh(s:K7)(b:List CV):Gm (Yb s b):=λi=>⟨zr _ (λ_=>rfl) s b,zr _ (λ_=>rfl) s b⟩
theorem JBi(s:K7):Gm (QY s):=λi=>⟨ku _ (λ_ _=>rfl) s,ku _ (λ_ _=>rfl) s⟩
theorem JfH{n:Nat}(h:n<=1000000000):(n+1+1)*24<=140737488355328:=om
theorem JmL{n:Nat}(h:n<=1000000000):(n+1)*48<=140737488355328:=om
theorem JfJ{n:Nat}(h:n<=1000000000):n<=9223372036854775805:=om
theorem JfK{l:List Tk4}{t:Tk4}{i:Nat}{s:K7}{b:List CV}{j k:List V}(hlo:lo<=h.length)(hg:l[i]? =some t)(hl:l.length<=1000000000)(hs:s.length<=1000000000)(hj:Gm j)(hk:Gm k)(hc:0<JN t.k):
  evCode ⟨Aa,E,lo,h.length,h47⟩ JA YL (zH h l i,HB h (Yb s b++j) (QY s++k) s.length)=some (.normal,zH h l (i+1),HB h (Yb ((t,[])::s) b) (QY ((t,[])::s)) (s.length+1)):=by
 have hlt:i<l.length:=(Ab.1 hg).1
 have q:decide ((i:Int)<(l.length:Int))=true:=by simpa using hlt
 have hgr:(l.map row)[i]? =some (row t):=by rw[Ao,hg];rfl
 have hw:=JD (i:=i) om;have l1:lo<=h.length+1:=om;have l2:lo<=h.length+2:=om;have l3:lo<=h.length+3:=om;have l4:lo<=h.length+4:=om;have l5:lo<=h.length+5:=om;have qc:decide (0<JN t.k)=true:=by simpa using hc
 have hS0:=JQm s b j;have hT:=JT4 h.length s b;have hSl:s.length+1<=(Yb s b++j).length:=by rw[An,GZ];omega
 have hSa:=(KB (JBh s b) hj (h.length+3)).1;have hTk:=(JBh s b (h.length+4)).2;have hUk:=(JBi s (h.length+4)).2;have hO0:=JOA s k;have hU:=JQl (h.length+3) s;have hUa:=(JBi s h.length).1;have hOl:s.length*6<=(QY s++k).length:=by rw[An,Yz];omega
 rw[BC]at hS0;have o1:=JfH hs;have o2:=JmL hs;have o3:=JfJ hs;have o4:=Hy hs;simp only[zH,HB,Yb,QY];generalize Yb s b++j=S at*;generalize QY s++k=O at*;generalize Yb s b=T at*;generalize QY s=U at*;have c25:=f25 (lo:=lo) (h:=h++[.cells S,.cells [.stk h.length (s.length+1) 1],.cells [.stk (h.length+3) s.length 6],.cells O,.cells (row t)]) (by simp;omega) t.k
 simp only[row]at hgr c25;simp only[row,go_sem,YL,b47,Tryz.f47,hlo,l1,l2,l3,l4,l5,q,hgr,hw,qc,c25,hS0,hT,hSl,hSa,hTk,hUk,hO0,hU,hUa,hOl,o1,o2,o3,o4,Jc,BC,Av]<;>rfl
theorem JfL{l:List Tk4}{t o:Tk4}{i:Nat}{ks:List CV}{s:K7}{b:List CV}{j k:List V}(hlo:lo<=h.length)(hg:l[i]? =some t)(hl:l.length<=1000000000)(hs:s.length<=1000000000)(hr:(Yy s b).length<=1000000000)(hj:Gm j)(hk:Gm k)(hc:¬0<JN t.k)(he:JN o.k=t.k):
  evCode ⟨Aa,E,lo,h.length,h47⟩ JA YL (zH h l i,HB h (Yb ((o,ks)::s) b++j) (QY ((o,ks)::s)++k) (s.length+1))=
   some (.normal,zH h l (i+1),HB h (Yb (KT ((o,ks)::s) b).1 (KT ((o,ks)::s) b).2++(.list .yes (JH ks)::j)) (QY ((o,ks)::s)++k) s.length):=by
 have hlt:i<l.length:=(Ab.1 hg).1
 have q:decide ((i:Int)<(l.length:Int))=true:=by simpa using hlt
 have hgr:(l.map row)[i]? =some (row t):=by rw[Ao,hg];rfl
 have hw:=JD (i:=i) om;have l1:lo<=h.length+1:=om;have l2:lo<=h.length+2:=om;have l3:lo<=h.length+3:=om;have l4:lo<=h.length+4:=om;have l5:lo<=h.length+5:=om;have qc:decide (0<JN t.k)=false:=by simpa using hc
 have hkd:=JDo o ks s k;have hcl:=JJM o ks s b j;have hSk:=(KB (JBh (KT ((o,ks)::s) b).1 (KT ((o,ks)::s) b).2) (JJS (l:=ks) hj) (h.length+4)).2;have hOk:=(KB (JBi ((o,ks)::s)) hk (h.length+4)).2;have h5:=JmK (lo:=lo) (p:=h) (xs:=row t) (t:=o) (ks:=ks) (sc:=Yb ((o,ks)::s) b++j) (oc:=QY ((o,ks)::s)++k) hlo hs (JDn (o,ks) s b j) (zu ((o,ks)::s) b j) hr (by rw[An,Yz,Ag];omega) (JJN o ks s k)
 rw[hcl]at h5;have hql:decide ((0:Int)<((s.length+1:Nat):Int))=true:=by rw[decide_eq_true_iff];omega
 have w1:Ak.wrap (((s.length+1:Nat):Int)-1)=(s.length:Int):=by rw[JL om om];omega
 have a1:(0:Int)<=(s.length:Int)/\(s.length:Int)<((s.length+1:Nat):Int):=om;have a2:(s.length:Int)<((s.length+1:Nat):Int):=om;have qe:(JN o.k==t.k)=true:=by rw[he,beq_self_eq_true]
 simp only[zH,HB];generalize Yb ((o,ks)::s) b++j=S at*;generalize QY ((o,ks)::s)++k=O at*;generalize Yb (KT ((o,ks)::s) b).1 (KT ((o,ks)::s) b).2++(.list .yes (JH ks)::j)=S2 at*;have c25:=λlo kd hlo=>f25 (lo:=lo) (h:=h++[.cells S,.cells [.stk h.length (s.length+2) 1],.cells [.stk (h.length+3) (s.length+1) 6],.cells O,.cells (row t)]) hlo kd
 have c25a:=c25 lo t.k (by simp;omega);have c25b:=c25 (h.length+5) o.k (by simp)
 clear c25;simp only[row]at hgr c25a c25b h5;simp only[row,go_sem,YL,b47,Tryz.f47,hlo,l1,l2,l3,l4,l5,q,hgr,hw,qc,c25a,c25b,hkd,h5,hql,w1,a1,a2,qe,hSk,hOk,BC,Av]<;>rfl
abbrev qA(h:Heap)(l:List Tk4)(i:Nat):Ja:=[(0,.list .no (l.map row)),(3,.ptr (h.length+3) 0),(4,.ptr (h.length+4) 0),(5,.fn 24 [.ptr (h.length+4) 0,.ptr (h.length+3) 0]),(19,.list .no (l.map row)),(20,.v (.int .i64 l.length)),(21,.v (.int .i64 i))]
abbrev HX(h:Heap)(l:List Tk4)(E D:List Nat):Heap:=h++(tx h l E D++[.cells [.ptr (h.length+2) 0],.cells [.list .yes []]])
abbrev HY(h:Heap)(l:List Tk4)(E D:List Nat)(n:Nat)(S:List V):Heap:=h++(tx h l E D++[.cells [.ptr (h.length+2) 0],.cells [.stk (h.length+5) n 1],.cells S])
theorem JGq(p:V->Bool)(h:∀n:Int,p (.v (.int .i64 n))=true):∀l:List Nat,(nt l).all p=true
 |[]=>rfl
 |n::r=>by have:=JGq p h r;unfold nt at this⊢;rw[AU,BF,h,this];rfl
theorem JBj(i:Nat)(l:List Nat):(nt l).all (avf i)=true:=JGq _ (λ_=>rfl) l
theorem Ji(i:Nat)(l:List Nat):(nt l).all (okv i)=true:=JGq _ (λ_=>rfl) l
theorem JYv(i:Nat)(l:List Nat):(nt l).all (qk i)=true:=JGq _ (λ_=>rfl) l
theorem HP(l:List Nat):Gm (nt l):=λi=>⟨JBj i l,Ji i l⟩
theorem JBk(l m:List Nat):nt (l++m)=nt l++nt m:=List.map_append
theorem JT6(l:List Nat)(j:List V):(nt l++j).take l.length=nt l:=by rw[<-Zh l,Cf]
theorem HR(i:Nat)(r:List Nat)(j:List V):(nt (i::r).reverse++j)[r.length]? =some (.v (.int .i64 (i:Nat))):=by
 rw[BD,JBk,Aw,AL (by rw[Zh,Ch];exact Ac _),Zh,Ch,CR]
 rfl
theorem JJT(i k:Nat)(r:List Nat)(j:List V):(nt (i::k::r).reverse++j)[r.length]? =some (.v (.int .i64 (k:Nat))):=by rw[BD,JBk,Aw];exact HR k r _
theorem JT7(l:List Nat)(i:Nat):nt l++[V.v (.int .i64 (i:Int))]=nt (l++[i]):=by rw[JBk];rfl
theorem Zj(j:Nat):∀l:List Nat,(nt l).map (zl j)=nt l
 |[]=>rfl
 |n::r=>by have:=Zj j r;unfold nt at this⊢;rw[AU,AU,this];rfl
theorem JmM{n:Nat}(h:n<=1000000000):(n+1)*8<=140737488355328:=om
theorem JfM{l:List Tk4}{t:Tk4}{i:Nat}{E' D:List Nat}(hlo:lo<=h.length)(hg:l[i]? =some t)(hl:l.length<=1000000000)(hc:0<JN t.k):
  evCode ⟨Aa,E,lo,h.length,h15⟩ JA WW (qA h l i,HX h l E' D)=some (.normal,qA h l (i+1),HY h l E' D 1 (nt [i])):=by
 have hlt:i<l.length:=(Ab.1 hg).1
 have q:decide ((i:Int)<(l.length:Int))=true:=by simpa using hlt
 have hgr:(l.map row)[i]? =some (row t):=by rw[Ao,hg];rfl
 have hw:=JD (i:=i) om;have l1:lo<=h.length+1:=om;have l2:lo<=h.length+2:=om;have l3:lo<=h.length+3:=om;have l4:lo<=h.length+4:=om;have l5:lo<=h.length+5:=om;have l6:lo<=h.length+6:=om;have l7:lo<=h.length+7:=om;have eE:=Ji (h.length+5) E';have eD:=Ji (h.length+5) D;have eE6:=Ji (h.length+6) E';have eD6:=Ji (h.length+6) D
 have qc:decide (0<JN t.k)=true:=by simpa using hc
 have c25:=f25 (lo:=lo) (h:=h++(tx h l E' D++[.cells [.ptr (h.length+2) 0],.cells [.list .yes []],.cells (row t)])) (by simp;omega) t.k
 have en:nt [i]=[V.v (.int .i64 (i:Int))]:=rfl;simp only[row,tx,Ae,Af]at hgr c25;simp only[qA,HX,HY,en,tx,row,Ae,Af,go_sem,WW,b15,Tryz.f15,hlo,l1,l2,l3,l4,l5,l6,l7,q,hgr,hw,eE,eD,eE6,eD6,Zj,Av,qc,c25]<;>rfl
theorem JfN{l:List Tk4}{t:Tk4}{i:Nat}{E' D st:List Nat}{j:List V}(hlo:lo<=h.length)(hg:l[i]? =some t)(hl:l.length<=1000000000)(hs:st.length<=1000000000)(hj:Gm j)(hc:0<JN t.k):
  evCode ⟨Aa,E,lo,h.length,h15⟩ JA WW (qA h l i,HY h l E' D st.length (nt st.reverse++j))=some (.normal,qA h l (i+1),HY h l E' D (st.length+1) (nt (i::st).reverse)):=by
 have hlt:i<l.length:=(Ab.1 hg).1
 have q:decide ((i:Int)<(l.length:Int))=true:=by simpa using hlt
 have hgr:(l.map row)[i]? =some (row t):=by rw[Ao,hg];rfl
 have hw:=JD (i:=i) om;have l1:lo<=h.length+1:=om;have l2:lo<=h.length+2:=om;have l3:lo<=h.length+3:=om;have l4:lo<=h.length+4:=om;have l5:lo<=h.length+5:=om;have l6:lo<=h.length+6:=om;have l7:lo<=h.length+7:=om;have eE:=Ji (h.length+5) E';have eD:=Ji (h.length+5) D;have eE6:=Ji (h.length+6) E';have eD6:=Ji (h.length+6) D
 have qc:decide (0<JN t.k)=true:=by simpa using hc
 have hS0:=JT6 st.reverse j;have hSl:st.length<=(nt st.reverse++j).length:=by rw[An,Zh,Ch];omega
 have hT:=JYv (h.length+5) st.reverse;have hTk:=Ji (h.length+6) st.reverse;have aE:=JBj (h.length+5) E';have aD:=JBj (h.length+5) D;have o1:=JmM hs;have o2:=Hy hs;rw[Ch]at hS0;simp only[HY];rw[BD,<-JT7];generalize nt st.reverse++j=S at*;generalize nt st.reverse=T at*;have c25:=f25 (lo:=lo) (h:=h++(tx h l E' D++[.cells [.ptr (h.length+2) 0],.cells [.stk (h.length+5) st.length 1],.cells S,.cells (row t)])) (by simp;omega) t.k
 simp only[row,tx,Ae,Af]at hgr c25;simp only[qA,tx,row,Ae,Af,go_sem,WW,b15,Tryz.f15,hlo,l1,l2,l3,l4,l5,l6,l7,q,hgr,hw,eE,eD,eE6,eD6,Zj,Av,qc,c25,hS0,hSl,hT,hTk,aE,aD,o1,o2,BC]<;>rfl
theorem JYw{l:List Tk4}{t:Tk4}{i:Nat}{E' D:List Nat}(hlo:lo<=h.length)(hg:l[i]? =some t)(hl:l.length<=1000000000)(hc:¬0<JN t.k):
  evCode ⟨Aa,E,lo,h.length,h15⟩ JA WW (qA h l i,HX h l E' D)=some (.normal,qA h l (i+1),HX h l E' D):=by
 have hlt:i<l.length:=(Ab.1 hg).1
 have q:decide ((i:Int)<(l.length:Int))=true:=by simpa using hlt
 have hgr:(l.map row)[i]? =some (row t):=by rw[Ao,hg];rfl
 have hw:=JD (i:=i) om;have l1:lo<=h.length+1:=om;have l2:lo<=h.length+2:=om;have l3:lo<=h.length+3:=om;have l4:lo<=h.length+4:=om;have l5:lo<=h.length+5:=om;have l6:lo<=h.length+6:=om;have l7:lo<=h.length+7:=om;have eE:=Ji (h.length+5) E';have eD:=Ji (h.length+5) D;have eE6:=Ji (h.length+6) E';have eD6:=Ji (h.length+6) D
 have qc:decide (0<JN t.k)=false:=by simpa using hc
 have q0:decide ((0:Int)<((0:Nat):Int))=false:=rfl;have c25:=f25 (lo:=lo) (h:=h++(tx h l E' D++[.cells [.ptr (h.length+2) 0],.cells [.list .yes []],.cells (row t)])) (by simp;omega) t.k
 simp only[row,tx,Ae,Af]at hgr c25;simp only[qA,HX,tx,row,Ae,Af,go_sem,WW,b15,Tryz.f15,hlo,l1,l2,l3,l4,l5,l6,l7,q,hgr,hw,eE,eD,eE6,eD6,Zj,Av,qc,q0,c25,Am]<;>rfl
theorem JT8{l:List Tk4}{t:Tk4}{i:Nat}{E' D:List Nat}{j:List V}(hlo:lo<=h.length)(hg:l[i]? =some t)(hl:l.length<=1000000000)(hj:Gm j)(hc:¬0<JN t.k):
  evCode ⟨Aa,E,lo,h.length,h15⟩ JA WW (qA h l i,HY h l E' D 0 j)=some (.normal,qA h l (i+1),HY h l E' D 0 j):=by
 have hlt:i<l.length:=(Ab.1 hg).1
 have q:decide ((i:Int)<(l.length:Int))=true:=by simpa using hlt
 have hgr:(l.map row)[i]? =some (row t):=by rw[Ao,hg];rfl
 have hw:=JD (i:=i) om;have l1:lo<=h.length+1:=om;have l2:lo<=h.length+2:=om;have l3:lo<=h.length+3:=om;have l4:lo<=h.length+4:=om;have l5:lo<=h.length+5:=om;have l6:lo<=h.length+6:=om;have l7:lo<=h.length+7:=om;have eE:=Ji (h.length+5) E';have eD:=Ji (h.length+5) D;have eE6:=Ji (h.length+6) E';have eD6:=Ji (h.length+6) D
 have qc:decide (0<JN t.k)=false:=by simpa using hc
 have q0:decide ((0:Int)<((0:Nat):Int))=false:=rfl;have hj6:=(hj (h.length+6)).2;have c25:=f25 (lo:=lo) (h:=h++(tx h l E' D++[.cells [.ptr (h.length+2) 0],.cells [.stk (h.length+5) 0 1],.cells j,.cells (row t)])) (by simp;omega) t.k
 simp only[row,tx,Ae,Af]at hgr c25;simp only[qA,HY,tx,row,Ae,Af,go_sem,WW,b15,Tryz.f15,hlo,l1,l2,l3,l4,l5,l6,l7,q,hgr,hw,eE,eD,eE6,eD6,Zj,Av,qc,q0,c25,hj6,Am]<;>rfl
theorem JYx{l:List Tk4}{t o:Tk4}{i k:Nat}{E' D st:List Nat}{j:List V}(hlo:lo<=h.length)(hg:l[i]? =some t)(hl:l.length<=1000000000)(hs:st.length<=1000000000)(hj:Gm j)(hc:¬0<JN t.k)(hk:l[k]? =some o)(he:¬JN o.k=t.k):
  evCode ⟨Aa,E,lo,h.length,h15⟩ JA WW (qA h l i,HY h l E' D (st.length+1) (nt (k::st).reverse++j))=some (.normal,qA h l (i+1),HY h l E' D (st.length+1) (nt (k::st).reverse++j)):=by
 have hlt:i<l.length:=(Ab.1 hg).1
 have q:decide ((i:Int)<(l.length:Int))=true:=by simpa using hlt
 have hgr:(l.map row)[i]? =some (row t):=by rw[Ao,hg];rfl
 have hw:=JD (i:=i) om;have l1:lo<=h.length+1:=om;have l2:lo<=h.length+2:=om;have l3:lo<=h.length+3:=om;have l4:lo<=h.length+4:=om;have l5:lo<=h.length+5:=om;have l6:lo<=h.length+6:=om;have l7:lo<=h.length+7:=om;have eE:=Ji (h.length+5) E';have eD:=Ji (h.length+5) D;have eE6:=Ji (h.length+6) E';have eD6:=Ji (h.length+6) D
 have qc:decide (0<JN t.k)=false:=by simpa using hc
 have hql:decide ((0:Int)<((st.length+1:Nat):Int))=true:=by rw[decide_eq_true_iff];omega
 have w1:Ak.wrap (((st.length+1:Nat):Int)-1)=(st.length:Int):=by rw[JL om om];omega
 have a1:(0:Int)<=(st.length:Int)/\(st.length:Int)<((st.length+1:Nat):Int):=om;have a2:(st.length:Int)<((st.length+1:Nat):Int):=om;have hgk:(l.map row)[k]? =some (row o):=by rw[Ao,hk];rfl
 have hkt:=HR k st j;have qe:(JN o.k==t.k)=false:=by rw[beq_eq_false_iff_ne];exact he
 have hS6:=(KB (HP (k::st).reverse) hj (h.length+6)).2;simp only[HY];generalize nt (k::st).reverse++j=S at*;have c25:=λlo kd hlo=>f25 (lo:=lo) (h:=h++(tx h l E' D++[.cells [.ptr (h.length+2) 0],.cells [.stk (h.length+5) (st.length+1) 1],.cells S,.cells (row t)])) hlo kd
 have c25a:=c25 lo t.k (by simp;omega);have c25b:=c25 (h.length+7) o.k (by simp)
 clear c25;simp only[row,tx,Ae,Af]at hgr hgk c25a c25b;simp only[qA,tx,row,Ae,Af,go_sem,WW,b15,Tryz.f15,hlo,l1,l2,l3,l4,l5,l6,l7,q,hgr,hw,eE,eD,eE6,eD6,Zj,Av,qc,hql,w1,a1,a2,hgk,hkt,qe,c25a,c25b,hS6,BC]<;>rfl
theorem JYy{l:List Tk4}{t o:Tk4}{i k:Nat}{E' D:List Nat}{j:List V}(hlo:lo<=h.length)(hg:l[i]? =some t)(hl:l.length<=1000000000)(hE:E'.length=l.length)(hD:D.length=l.length)(hb:∀q,D.getD q 0<=1000000000)(hj:Gm j)(hc:¬0<JN t.k)(hk:l[k]? =some o)(he:JN o.k=t.k):
  evCode ⟨Aa,E,lo,h.length,h15⟩ JA WW (qA h l i,HY h l E' D 1 (nt [k].reverse++j))=some (.normal,qA h l (i+1),HY h l (E'.set k i) (D.set k (D.getD k 0+1)) 0 (nt [k].reverse++j)):=by
 have hlt:i<l.length:=(Ab.1 hg).1
 have q:decide ((i:Int)<(l.length:Int))=true:=by simpa using hlt
 have hgr:(l.map row)[i]? =some (row t):=by rw[Ao,hg];rfl
 have hw:=JD (i:=i) om;have l1:lo<=h.length+1:=om;have l2:lo<=h.length+2:=om;have l3:lo<=h.length+3:=om;have l4:lo<=h.length+4:=om;have l5:lo<=h.length+5:=om;have l6:lo<=h.length+6:=om;have l7:lo<=h.length+7:=om;have eE:=Ji (h.length+5) E';have eD:=Ji (h.length+5) D;have eE6:=Ji (h.length+6) E';have eD6:=Ji (h.length+6) D
 have qc:decide (0<JN t.k)=false:=by simpa using hc
 have hql:decide ((0:Int)<((1:Nat):Int))=true:=rfl;have w1:Ak.wrap (((1:Nat):Int)-1)=((0:Nat):Int):=by rw[JL om om];omega
 have a2:(0:Int)<((1:Nat):Int):=by decide
 have hkt:=HR k [] j;have hgk:(l.map row)[k]? =some (row o):=by rw[Ao,hk];rfl
 have hkl:k<l.length:=(Ab.1 hk).1
 have qe:(JN o.k==t.k)=true:=by rw[he,beq_self_eq_true]
 have hS6:=(KB (HP (k::[]).reverse) hj (h.length+6)).2;have eE7:=Ji (h.length+6) (E'.set k i);have eD7:=Ji (h.length+6) (D.set k (D.getD k 0+1));have h5:=JmG (lo:=lo) (p:=h) (xs:=row t) (S:=nt [k].reverse++j) (l:=l) (E':=E') (D:=D) (i:=k) (a:=i) hlo hl hE hD hb (HR k [] j) hkl;simp only[HY];generalize nt (k::[]).reverse++j=S at*;have c25:=λlo kd hlo=>f25 (lo:=lo) (h:=h++(tx h l E' D++[.cells [.ptr (h.length+2) 0],.cells [.stk (h.length+5) 1 1],.cells S,.cells (row t)])) hlo kd
 have c25a:=c25 lo t.k (by simp;omega);have c25b:=c25 (h.length+7) o.k (by simp)
 clear c25;simp only[row,tx,Ae,Af,Am]at hgr hgk c25a c25b h5 hkt;simp only[qA,tx,row,Ae,Af,go_sem,WW,b15,Tryz.f15,hlo,l1,l2,l3,l4,l5,l6,l7,q,hgr,hw,eE,eD,eE6,eD6,Zj,Av,qc,hql,w1,a2,hgk,hkt,qe,c25a,c25b,hS6,eE7,eD7,h5,Ag,BC]<;>rfl
theorem JYz{l:List Tk4}{t o:Tk4}{i k:Nat}{m:Nat}{E' D st:List Nat}{j:List V}(hlo:lo<=h.length)(hg:l[i]? =some t)(hl:l.length<=1000000000)(hs:st.length<=1000000000)(hE:E'.length=l.length)(hD:D.length=l.length)(hb:∀q,D.getD q 0<=1000000000)(hj:Gm j)(hc:¬0<JN t.k)(hk:l[k]? =some o)(hm:m<l.length)(he:JN o.k=t.k):
  evCode ⟨Aa,E,lo,h.length,h15⟩ JA WW (qA h l i,HY h l E' D ((st.length+1)+1) (nt (k::m::st).reverse++j))=some (.normal,qA h l (i+1),HY h l (E'.set k i) ((D.set k (D.getD k 0+1)).set m (max (D.getD m 0) (D.getD k 0+1))) (st.length+1) (nt (k::m::st).reverse++j)):=by
 have hlt:i<l.length:=(Ab.1 hg).1
 have q:decide ((i:Int)<(l.length:Int))=true:=by simpa using hlt
 have hgr:(l.map row)[i]? =some (row t):=by rw[Ao,hg];rfl
 have hw:=JD (i:=i) om;have l1:lo<=h.length+1:=om;have l2:lo<=h.length+2:=om;have l3:lo<=h.length+3:=om;have l4:lo<=h.length+4:=om;have l5:lo<=h.length+5:=om;have l6:lo<=h.length+6:=om;have l7:lo<=h.length+7:=om;have eE:=Ji (h.length+5) E';have eD:=Ji (h.length+5) D;have eE6:=Ji (h.length+6) E';have eD6:=Ji (h.length+6) D
 have qc:decide (0<JN t.k)=false:=by simpa using hc
 have hql:decide ((0:Int)<(((st.length+1)+1:Nat):Int))=true:=by rw[decide_eq_true_iff];omega
 have w1:Ak.wrap ((((st.length+1)+1:Nat):Int)-1)=((st.length+1:Nat):Int):=by rw[JL om om];omega
 have a2:((st.length+1:Nat):Int)<(((st.length+1)+1:Nat):Int):=om;have hkt:=HR k (m::st) j;have hgk:(l.map row)[k]? =some (row o):=by rw[Ao,hk];rfl
 have hkl:k<l.length:=(Ab.1 hk).1
 have qe:(JN o.k==t.k)=true:=by rw[he,beq_self_eq_true]
 have hS6:=(KB (HP (k::m::st).reverse) hj (h.length+6)).2;have eE7:=Ji (h.length+6) (E'.set k i);have eD7:=Ji (h.length+6) ((D.set k (D.getD k 0+1)).set m (max (D.getD m 0) (D.getD k 0+1)));have h5:=JmJ (lo:=lo) (p:=h) (xs:=row t) (S:=nt (k::m::st).reverse++j) (l:=l) (E':=E') (D:=D) (i:=k) (a:=i) (m:=st.length) (j:=m) hlo hl hE hD hb (HR k (m::st) j) hkl (JJT k m st j) hm hs
 simp only[HY];generalize nt (k::m::st).reverse++j=S at*;have c25:=λlo kd hlo=>f25 (lo:=lo) (h:=h++(tx h l E' D++[.cells [.ptr (h.length+2) 0],.cells [.stk (h.length+5) ((st.length+1)+1) 1],.cells S,.cells (row t)])) hlo kd
 have c25a:=c25 lo t.k (by simp;omega);have c25b:=c25 (h.length+7) o.k (by simp)
 clear c25;simp only[row,tx,Ae,Af,Ag]at hgr hgk c25a c25b h5 hkt;simp only[qA,tx,row,Ae,Af,go_sem,WW,b15,Tryz.f15,hlo,l1,l2,l3,l4,l5,l6,l7,q,hgr,hw,eE,eD,eE6,eD6,Zj,Av,qc,hql,w1,a2,hgk,hkt,qe,c25a,c25b,hS6,eE7,eD7,h5,Ag,BC]<;>rfl
def H41(h:Heap)(l:List Tk4)(s:LS)(H:Heap):Prop:=
 (s.st=[]/\H=HX h l s.E s.D)\/ ∃j,Gm j/\H=HY h l s.E s.D s.st.length (nt s.st.reverse++j)
structure W41(l:List Tk4)(i:Nat)(s:LS):Prop where
 le:s.E.length=l.length
 ld:s.D.length=l.length
 lt:∀k∈s.st,k<l.length
 sz:s.st.length<=i
 bd:∀q,s.D.getD q 0<=i
theorem YM{D:List Nat}{i x B:Nat}(h:∀q,D.getD q 0<=B)(hx:x<=B):∀q,(D.set i x).getD q 0<=B:=λq=>by
 by_cases hq:q=i
 ·subst hq
  by_cases hl:q<D.length
  ·rw[Kv hl];exact hx
  ·simp[Bs,hl]
 ·rw[Jp hq];exact h q
theorem JBl{l:List Tk4}{i a:Nat}{s:LS}(h:W41 l i s):W41 l (i+1) (Qk a s):=by
 obtain⟨st,E',D⟩:=s;have h1:=h.le;have h2:=h.ld;have h3:=h.lt;have h4:=h.sz;have h5:=h.bd;simp only at h1 h2 h3 h4 h5;have h6:∀q,D.getD q 0<=i+1:=λq=>by have:=h5 q;omega
 match st,h3,h4 with
 |[],h3,h4=>exact⟨h1,h2,h3,by simp[Qk],h6⟩
 |[k],h3,h4=>exact⟨by simp[Qk,h1],by simp[Qk,h2],λx hx=>by simp[Qk]at hx,by simp[Qk],YM h6 (by have:=h5 k;show D.getD k 0+1<=i+1;omega)⟩
 |k::m::r,h3,h4=>
  refine⟨by simp[Qk,h1],by simp[Qk,h2],λx hx=>h3 x (by simp[Qk]at hx;simp[hx]),by simp[Qk]at h4⊢;omega,?_⟩
  have a1:=h5 k;have a2:=h5 m;exact YM (YM h6 (by show D.getD k 0+1<=_;omega)) (by show max (D.getD m 0) (D.getD k 0+1)<=_;omega)
theorem JQp{l:List Tk4}{i k:Nat}{s:LS}(h:W41 l i s)(hk:k<l.length):W41 l (i+1) ⟨k::s.st,s.E,s.D⟩:=
 ⟨h.le,h.ld,λx hx=>by
  rcases Bg.1 hx with rfl|hx
  ·exact hk
  ·exact h.lt x hx,by simp;exact h.sz,λq=>by have:=h.bd q;show s.D.getD q 0<=_;omega⟩
theorem W41.succ{l:List Tk4}{i:Nat}{s:LS}(h:W41 l i s):W41 l (i+1) s:=
 ⟨h.le,h.ld,h.lt,by have:=h.sz;omega,λq=>by have:=h.bd q;omega⟩
theorem JQq{l:List Tk4}{t:Tk4}{i:Nat}{s:LS}(h:W41 l i s)(hi:i<l.length):W41 l (i+1) (Gj l i t s):=by
 unfold Gj
 split
 ·exact JQp h hi
 ·split
  ·exact JBl h
  ·exact h.succ
theorem JT9{l:List Tk4}{t:Tk4}{i:Nat}{s:LS}{H:Heap}(hlo:lo<=h.length)(hg:l[i]? =some t)(hl:l.length<=1000000000)(hw:W41 l i s)(hH:H41 h l s H):
  ∃H',evCode ⟨Aa,E,lo,h.length,h15⟩ JA WW (qA h l i,H)=some (.normal,qA h l (i+1),H')/\H41 h l (Gj l i t s) H':=by
 obtain⟨st,E',D⟩:=s;have hE:=hw.le;have hD:=hw.ld;have hlt:=hw.lt;have hsz:=hw.sz;have hbd:=hw.bd;have hil:i<l.length:=(Ab.1 hg).1
 simp only at hE hD hlt hsz hbd;have hnn:=qx t.k;unfold Gj;by_cases hc:0<JN t.k
 ·rw[if_pos om]
  rcases hH with⟨h0,rfl⟩|⟨j,hj,rfl⟩
  ·simp only at h0
   subst h0;exact⟨_,JfM hlo hg hl hc,.inr ⟨[],Qz,by simp⟩⟩
  ·exact⟨_,JfN hlo hg hl (by simp only;omega) hj hc,.inr ⟨[],Qz,by simp⟩⟩
 ·rw[if_neg om]
  match st,hlt,hsz,hH with
  |[],hlt,hsz,hH=>
   rw[if_neg (by simp[JCj])]
   rcases hH with⟨h0,rfl⟩|⟨j,hj,rfl⟩
   ·exact⟨_,JYw hlo hg hl hc,.inl ⟨rfl,rfl⟩⟩
   ·exact⟨_,JT8 hlo hg hl (KB (HP []) hj) hc,.inr ⟨j,hj,rfl⟩⟩
  |k::st,hlt,hsz,hH=>
   have hkl:=hlt k (Be ..);obtain⟨o,hk⟩:∃o,l[k]? =some o:=⟨l[k],Ad hkl⟩
   have hcx:JCj l (k::st)=some (JN o.k):=by simp[JCj,JYf,hk]
   rcases hH with⟨h0,_⟩|⟨j,hj,rfl⟩
   ·cases h0
   simp only[Ag]at hsz;by_cases he:JN o.k=t.k
   ·rw[if_pos (by rw[hcx,he])]
    match st,hlt,hsz with
    |[],hlt,hsz=>
     refine⟨_,JYy hlo hg hl hE hD (λq=>by have:=hbd q;show D.getD q 0<=_;omega) hj hc hk he,.inr ⟨nt [k]++j,KB (HP _) hj,?_⟩⟩
     simp[Qk,nt]
    |m::st,hlt,hsz=>
     have hm:=hlt m (by simp)
     simp only[Ag]at hsz;refine⟨_,JYz hlo hg hl (by omega:st.length<=1000000000) hE hD (λq=>by have:=hbd q;show D.getD q 0<=_;omega) hj hc hk hm he,.inr ⟨nt [k]++j,KB (HP _) hj,?_⟩⟩
     simp only[Qk,Ag];rw[BD (a:=k),JBk,Aw]
   ·rw[if_neg (by rw[hcx];intro e;exact he (Bc e))]
    exact⟨_,JYx hlo hg hl (by omega:st.length<=1000000000) hj hc hk he,.inr ⟨j,hj,rfl⟩⟩
theorem JY0{l:List Tk4}{s:LS}{H:Heap}(hlo:lo<=h.length)(hH:H41 h l s H):
  evCode ⟨Aa,E,lo,h.length,h15⟩ JA WW (qA h l l.length,H)=some (.exit 0,qA h l l.length++[(22,.v (.bool false))],H):=by
 have q:decide ((l.length:Int)<(l.length:Int))=false:=by simp
 simp only[qA,go_sem,WW,b15,Tryz.f15,hlo,q]<;>rfl
theorem JQr{l:List Tk4}(hlo:lo<=h.length)(hl:l.length<=1000000000):∀(m i:Nat) (s:LS) (H:Heap),i+m=l.length->W41 l i s->H41 h l s H->
  ∃H',JA (evCode ⟨Aa,E,lo,h.length,h15⟩ JA WW) (qA h l i,H)=some (.exit 0,qA h l l.length++[(22,.v (.bool false))],H')/\H41 h l (runL l i (l.drop i) s) H'/\W41 l l.length (runL l i (l.drop i) s)
 |0,i,s,H,hm,hw,hH=>by
  obtain rfl:i=l.length:=om;rw[Bw,runL]
  exact⟨H,by rw[JB,JY0 hlo hH,KP],hH,hw⟩
 |m+1,i,s,H,hm,hw,hH=>by
  have hlt:i<l.length:=om;have hd:l.drop i=l[i]::l.drop (i+1):=AE hlt;obtain⟨H1,hr,h1⟩:=JT9 hlo (Ad hlt) hl hw hH
  obtain⟨H2,h2,h3,h4⟩:=JQr hlo hl m (i+1) _ H1 om (JQq hw hlt) h1;rw[hd,runL];exact⟨H2,by rw[JB,hr,JK,h2],h3,h4⟩
abbrev M41(h:Heap)(l:List Tk4)(ex:Ja):Ja:=(0,.list .no (l.map row))::(3,.ptr (h.length+3) 0)::(4,.ptr (h.length+4) 0)::(5,.fn 24 [.ptr (h.length+4) 0,.ptr (h.length+3) 0])::ex
def JUA(ex:Ja):Prop:=(∃a b c,ex=[(19,a),(20,b),(21,c)])\/ ∃a b c d,ex=[(19,a),(20,b),(21,c),(22,d)]
theorem JQs{l:List Tk4}{E' D:List Nat}{k:Nat}{j:List V}{ex:Ja}(he:JUA ex)(hlo:lo<=h.length)(hl:l.length<=1000000000)(hE:E'.length=l.length)(hD:D.length=l.length)(hb:∀q,D.getD q 0<=1000000000)(hk:k<l.length):
  evCode ⟨Aa,E,lo,h.length,h15⟩ JA Z3 (M41 h l ex,HY h l E' D 1 (nt [k].reverse++j))=some (.normal,M41 h l [(19,.undef),(20,.undef),(21,.undef)],HY h l (E'.set k l.length) (D.set k (D.getD k 0+1)) 0 (nt [k].reverse++j)):=by
 have h5:=JmD (lo:=lo) (p:=h) (S:=nt [k].reverse++j) (l:=l) (E':=E') (D:=D) (i:=k) (a:=l.length) hlo hl hE hD hb (HR k [] j) hk;have q:decide ((0:Int)<((1:Nat):Int))=true:=rfl;simp only[HY];generalize nt [k].reverse++j=S at*;simp only[tx,Ae,Af]at h5;rcases he with⟨x,y,z,rfl⟩|⟨x,y,z,w,rfl⟩
 ·simp only[M41,tx,Ae,Af,go_sem,Z3,b15,Tryz.f15,hlo,q,h5,Av]<;>rfl
 ·simp only[M41,tx,Ae,Af,go_sem,Z3,b15,Tryz.f15,hlo,q,h5,Av]<;>rfl
theorem JQt{l:List Tk4}{E' D st:List Nat}{k m:Nat}{j:List V}{ex:Ja}(he:JUA ex)(hlo:lo<=h.length)(hl:l.length<=1000000000)(hs:st.length<=1000000000)(hE:E'.length=l.length)(hD:D.length=l.length)(hb:∀q,D.getD q 0<=1000000000)(hk:k<l.length)(hm:m<l.length):
  evCode ⟨Aa,E,lo,h.length,h15⟩ JA Z3 (M41 h l ex,HY h l E' D (st.length+1+1) (nt (k::m::st).reverse++j))=some (.normal,M41 h l [(19,.undef),(20,.undef),(21,.undef)],HY h l (E'.set k l.length) ((D.set k (D.getD k 0+1)).set m (max (D.getD m 0) (D.getD k 0+1))) (st.length+1) (nt (k::m::st).reverse++j)):=by
 have h5:=JmH (lo:=lo) (p:=h) (S:=nt (k::m::st).reverse++j) (l:=l) (E':=E') (D:=D) (i:=k) (a:=l.length) (m:=st.length) (j:=m) hlo hl hE hD hb (HR k (m::st) j) hk (JJT k m st j) hm hs;have q:decide ((0:Int)<((st.length+1+1:Nat):Int))=true:=by rw[decide_eq_true_iff];omega
 simp only[HY];generalize nt (k::m::st).reverse++j=S at*;simp only[tx,Ae,Af]at h5;rcases he with⟨x,y,z,rfl⟩|⟨x,y,z,w,rfl⟩
 ·simp only[M41,tx,Ae,Af,go_sem,Z3,b15,Tryz.f15,hlo,q,h5,Av]<;>rfl
 ·simp only[M41,tx,Ae,Af,go_sem,Z3,b15,Tryz.f15,hlo,q,h5,Av]<;>rfl
theorem JfO{l:List Tk4}{s:LS}{H:Heap}{ex:Ja}(he:JUA ex)(hlo:lo<=h.length)(hs:s.st=[])(hH:H41 h l s H):
  evCode ⟨Aa,E,lo,h.length,h15⟩ JA Z3 (M41 h l ex,H)=some (.exit 3,M41 h l [(61,.v (.bool false))],H):=by
 have q:decide ((0:Int)<((0:Nat):Int))=false:=rfl;rcases hH with⟨_,rfl⟩|⟨j,_,rfl⟩
 ·rcases he with⟨x,y,z,rfl⟩|⟨x,y,z,w,rfl⟩
  ·simp only[M41,HX,tx,Ae,Af,go_sem,Z3,b15,Tryz.f15,hlo,q,Am]<;>rfl
  ·simp only[M41,HX,tx,Ae,Af,go_sem,Z3,b15,Tryz.f15,hlo,q,Am]<;>rfl
 ·rw[hs]
  rcases he with⟨x,y,z,rfl⟩|⟨x,y,z,w,rfl⟩
  ·simp only[M41,HY,tx,Ae,Af,go_sem,Z3,b15,Tryz.f15,hlo,q,Am]<;>rfl
  ·simp only[M41,HY,tx,Ae,Af,go_sem,Z3,b15,Tryz.f15,hlo,q,Am]<;>rfl
theorem JGr{l:List Tk4}(hlo:lo<=h.length)(hl:l.length<=500000000):∀(n:Nat) (s:LS) (H:Heap) (ex:Ja) (B:Nat),s.st.length=n->W41 l B s->B+n<=1000000000->JUA ex->H41 h l s H->
  ∃H',JA (evCode ⟨Aa,E,lo,h.length,h15⟩ JA Z3) (M41 h l ex,H)=some (.exit 3,M41 h l [(61,.v (.bool false))],H')/\H41 h l (shutK l.length n s) H'/\(shutK l.length n s).st=[]
 |0,s,H,ex,B,hn,hw,hB,he,hH=>by
  have hs:=Au hn;rw[shutK]
  exact⟨H,by rw[JB,JfO he hlo hs hH,KP],hH,hs⟩
 |n+1,⟨st,E',D⟩,H,ex,B,hn,hw,hB,he,hH=>by
  have hE:=hw.le;have hD:=hw.ld;have hlt:=hw.lt;have hbd:=hw.bd;simp only at hE hD hlt hbd hn
  match st,hn,hlt,hH,hw with
  |[],hn,_,_,_=>cases hn
  |[k],hn,hlt,hH,hw=>
   simp only[Ag,Am]at hn;obtain rfl:n=0:=om;rcases hH with⟨h0,_⟩|⟨j,hj,rfl⟩
   ·cases h0
   have hc:=JQs (lo:=lo) (h:=h) (j:=j) he hlo (by omega:l.length<=1000000000) hE hD (λq=>by have:=hbd q;omega) (hlt k (by simp))
   obtain⟨H2,h2,h3,h4⟩:=JGr hlo hl 0 (Qk l.length ⟨[k],E',D⟩) _ [(19,.undef),(20,.undef),(21,.undef)] (B+1) rfl (JBl hw) om (.inl ⟨_,_,_,rfl⟩) (.inr ⟨nt [k]++j,KB (HP _) hj,rfl⟩);rw[shutK];refine⟨H2,?_,h3,h4⟩
   rw[JB];simp only[Ag,Am,AB];rw[hc,JK]
   exact h2
  |k::m::st,hn,hlt,hH,hw=>
   simp only[Ag]at hn;rcases hH with⟨h0,_⟩|⟨j,hj,rfl⟩
   ·cases h0
   have hc:=JQt (lo:=lo) (h:=h) (j:=j) he hlo (by omega:l.length<=1000000000) (by omega:st.length<=1000000000) hE hD (λq=>by have:=hbd q;omega) (hlt k (by simp)) (hlt m (by simp))
   have eS:nt (m::st).reverse++(nt [k]++j)=nt (k::m::st).reverse++j:=by rw[BD (a:=k),JBk,Aw]
   obtain⟨H2,h2,h3,h4⟩:=JGr hlo hl n (Qk l.length ⟨k::m::st,E',D⟩) _ [(19,.undef),(20,.undef),(21,.undef)] (B+1) (by simp only[Qk,Ag];omega) (JBl hw) om (.inl ⟨_,_,_,rfl⟩) (.inr ⟨nt [k]++j,KB (HP _) hj,rfl⟩)
   rw[shutK];refine⟨H2,?_,h3,h4⟩
   simp only[Qk,Ag]at h2;rw[eS]at h2;rw[JB];simp only[Ag];rw[hc,JK];exact h2
theorem JDr(n:Nat):Q9 n [V.v (.int .i64 0)]=nt (BB n 0):=by
 induction n with
 |zero=>rfl
 |succ n ih=>rw[Q9,ih,List.replicate_succ];rfl
@[go_sem] theorem JrG:Ku Aa 42=some [.pointer none]:=kr
theorem f15{l:List Tk4}(hlo:lo<=h.length)(hl:l.length<=500000000):E lo 15 [.list .no (l.map row)] h=some (.ptr (h.length+2) 0,h++tx h l (YZ l).E (YZ l).D):=by
 obtain⟨H1,h1,h2,h3⟩:=JQr (lo:=lo) (h:=h) (l:=l) hlo om l.length 0 ⟨[],BB l.length 0,BB l.length 0⟩ _ om ⟨by simp,by simp,λk hk=>(by cases hk),by simp,λq=>by by_cases hq:q<l.length<;>simp[Bs,hq]⟩ (.inl ⟨rfl,rfl⟩)
 rw[AG]at h2 h3;obtain⟨H2,h4,h5,h6⟩:=JGr (lo:=lo) (h:=h) hlo hl _ _ H1 [(19,.list .no (l.map row)),(20,.v (.int .i64 l.length)),(21,.v (.int .i64 l.length)),(22,.v (.bool false))] l.length rfl h3 (by have:=h3.sz;omega) (.inr ⟨_,_,_,_,rfl⟩) h2
 have hv:shutK l.length (runL l 0 l ⟨[],BB l.length 0,BB l.length 0⟩).st.length (runL l 0 l ⟨[],BB l.length 0,BB l.length 0⟩)=YZ l:=rfl;rw[hv]at h5 h6;have n0:((0:Nat):Int)=0:=rfl;have l1:lo<=h.length+1:=om;have l2:lo<=h.length+2:=om;have l3:lo<=h.length+3:=om;have l4:lo<=h.length+4:=om;have z1:l.length*8<=140737488355328:=om
 have z2:(l.length:Int)<=9223372036854775807:=om;have z3:(0:Int)<=(l.length:Int):=om;rw[e15 (by simp) (by rfl)]
 simp only[WW,Z3,b15,Tryz.f15,JG,JT,JC,go_sem,qA,M41,HX,tx,n0,Ae,Af]at h1 h4;generalize YZ l=L at*;have eE:=Ji (h.length+3) L.E;have eD:=Ji (h.length+3) L.D;rcases h5 with⟨_,rfl⟩|⟨j,_,rfl⟩
 ·simp only[HX,tx,Ae,Af]at h4
  simp only[go_sem,b15,Tryz.f15,hlo,l1,l2,l3,l4,z1,z2,z3,h1,h4,n0,eE,eD,JDr,Zj,tx,Ae,Af,Av]<;>rfl
 ·simp only[HY,tx,Ae,Af]at h4
  simp only[go_sem,b15,Tryz.f15,hlo,l1,l2,l3,l4,z1,z2,z3,h1,h4,n0,eE,eD,JDr,Zj,tx,Ae,Af,Av]<;>rfl
theorem JBm(b:List CV)(t:Tk4):JH b++[[V.v (Bp Ak t.k),V.v (Value.string (Rul.bs t.b)),V.v (Bp Ak t.n),V.v (Bp Ak t.d),V.v (DG t.w),V.v (DG t.i),V.list .no []]]=JH (b++[.mk t []]):=by rw[Wu,Kc,Jc,Jq,Jc]
theorem JmN{l:List Tk4}{t:Tk4}{i:Nat}{b:List CV}(hlo:lo<=h.length)(hg:l[i]? =some t)(hl:l.length<=1000000000)(hb:b.length<=1000000000)(hc:¬0<JN t.k):
  evCode ⟨Aa,E,lo,h.length,h47⟩ JA YL (zH h l i,HA h b)=some (.normal,zH h l (i+1),HA h (b++[.mk t []])):=by
 have hlt:i<l.length:=(Ab.1 hg).1
 have q:decide ((i:Int)<(l.length:Int))=true:=by simpa using hlt
 have hgr:(l.map row)[i]? =some (row t):=by rw[Ao,hg];rfl
 have hw:=JD (i:=i) om;have l1:lo<=h.length+1:=om;have l2:lo<=h.length+2:=om;have l3:lo<=h.length+3:=om;have l4:lo<=h.length+4:=om;have l5:lo<=h.length+5:=om;have qc:decide (0<JN t.k)=false:=by simpa using hc
 have o1:=ky hb;have o2:=Hy hb;have ra:=J7 b;have rb:=QG b;have rl:=JU b;have q01:(0:Int)<((1:Nat):Int):=by decide
 have q0:decide ((0:Int)<((0:Nat):Int))=false:=rfl;have c25:=f25 (lo:=lo) (h:=h++[.cells [.list .yes (JH b)],.cells [.stk h.length 1 1],.cells [.list .yes []],.cells (row t)]) (by simp;omega) t.k
 simp only[HA];rw[<-JBm];generalize JH b=R at*;simp only[row]at hgr c25;simp only[zH,row,go_sem,YL,b47,Tryz.f47,hlo,l1,l2,l3,l4,l5,q,q0,q01,hgr,hw,qc,c25,o1,o2,ra,rb,rl,Av,Am]<;>rfl
theorem JfP{l:List Tk4}{t:Tk4}{i:Nat}{b:List CV}{j k:List V}(hlo:lo<=h.length)(hg:l[i]? =some t)(hl:l.length<=1000000000)(hb:b.length<=1000000000)(hj:Gm j)(hk:Gm k)(hc:¬0<JN t.k):
  evCode ⟨Aa,E,lo,h.length,h47⟩ JA YL (zH h l i,HB h (Yb [] b++j) k 0)=some (.normal,zH h l (i+1),HB h (Yb [] (b++[.mk t []])++j) k 0):=by
 have hlt:i<l.length:=(Ab.1 hg).1
 have q:decide ((i:Int)<(l.length:Int))=true:=by simpa using hlt
 have hgr:(l.map row)[i]? =some (row t):=by rw[Ao,hg];rfl
 have hw:=JD (i:=i) om;have l1:lo<=h.length+1:=om;have l2:lo<=h.length+2:=om;have l3:lo<=h.length+3:=om;have l4:lo<=h.length+4:=om;have l5:lo<=h.length+5:=om;have qc:decide (0<JN t.k)=false:=by simpa using hc
 have o1:=ky hb;have o2:=Hy hb;have ra:=J7 b;have rb:=QG b;have rl:=JU b;have hjk:=(hj (h.length+4)).2;have hkk:=(hk (h.length+4)).2;have hj5:=(hj (h.length+5)).2;have hk5:=(hk (h.length+5)).2;have q01:(0:Int)<((1:Nat):Int):=by decide
 have q0:decide ((0:Int)<((0:Nat):Int))=false:=rfl;have c25:=f25 (lo:=lo) (h:=h++[.cells (.list .yes (JH b)::j),.cells [.stk h.length 1 1],.cells [.stk (h.length+3) 0 6],.cells k,.cells (row t)]) (by simp;omega) t.k
 simp only[HB,Yb,CC];rw[<-JBm];generalize JH b=R at*;simp only[row]at hgr c25;simp only[zH,row,go_sem,YL,b47,Tryz.f47,hlo,l1,l2,l3,l4,l5,q,q0,q01,hgr,hw,qc,c25,o1,o2,ra,rb,rl,hjk,hkk,hj5,hk5,Av,Am]<;>rfl
theorem JfQ{l:List Tk4}{t o:Tk4}{i:Nat}{ks:List CV}{s:K7}{b:List CV}{j k:List V}(hlo:lo<=h.length)(hg:l[i]? =some t)(hl:l.length<=1000000000)(hs:s.length<=1000000000)(hb:ks.length<=1000000000)(hj:Gm j)(hk:Gm k)(hc:¬0<JN t.k)(he:¬JN o.k=t.k):
  evCode ⟨Aa,E,lo,h.length,h47⟩ JA YL (zH h l i,HB h (Yb ((o,ks)::s) b++j) (QY ((o,ks)::s)++k) (s.length+1))=
   some (.normal,zH h l (i+1),HB h (Yb ((o,ks++[.mk t []])::s) b++j) (QY ((o,ks)::s)++k) (s.length+1)):=by
 have hlt:i<l.length:=(Ab.1 hg).1
 have q:decide ((i:Int)<(l.length:Int))=true:=by simpa using hlt
 have hgr:(l.map row)[i]? =some (row t):=by rw[Ao,hg];rfl
 have hw:=JD (i:=i) om;have l1:lo<=h.length+1:=om;have l2:lo<=h.length+2:=om;have l3:lo<=h.length+3:=om;have l4:lo<=h.length+4:=om;have l5:lo<=h.length+5:=om;have qc:decide (0<JN t.k)=false:=by simpa using hc
 have o1:=ky hb;have o2:=Hy hb;have ra:=J7 ks;have rb:=QG ks;have rl:=JU ks;have hkd:=JDo o ks s k;have hTk:=(KB (JBh ((o,ks++[.mk t []])::s) b) hj (h.length+4)).2;have hOk:=(KB (JBi ((o,ks)::s)) hk (h.length+4)).2;have hS5:=(KB (JBh ((o,ks)::s) b) hj (h.length+5)).2;have hO5:=(KB (JBi ((o,ks)::s)) hk (h.length+5)).2
 have htop:=zu ((o,ks)::s) b j;have hset:=JML ((o,ks)::s) b j (.mk t []);simp only[Yy,KM,Ag]at htop hset;have hSl:s.length+1<(Yb ((o,ks)::s) b++j).length:=by rw[An,GZ,Ag];omega
 have hS1:s.length+1+1<=(Yb ((o,ks)::s) b++j).length:=hSl;have hkk:∀(x y:V),((Yb ((o,ks)::s) b++j).set (s.length+1) y).take (s.length+1)++x::((Yb ((o,ks)::s) b++j).set (s.length+1) y).drop (s.length+1+1)=(Yb ((o,ks)::s) b++j).set (s.length+1) x:=λx y=>by rw[Zd (by rw[AO];exact hSl),BL]
 have hql:decide ((0:Int)<((s.length+1:Nat):Int))=true:=by rw[decide_eq_true_iff];omega
 have w1:Ak.wrap (((s.length+1:Nat):Int)-1)=(s.length:Int):=by rw[JL om om];omega
 have a1:(0:Int)<=(s.length:Int)/\(s.length:Int)<((s.length+1:Nat):Int):=om;have a2:(s.length:Int)<((s.length+1:Nat):Int):=om;have a3:((s.length+1:Nat):Int)<((s.length+1+1:Nat):Int):=om;have qe:(JN o.k==t.k)=false:=by rw[beq_eq_false_iff_ne];exact he
 simp only[HB];rw[<-hset]at hTk⊢;rw[<-JBm]at hTk⊢;generalize Yb ((o,ks)::s) b++j=S at*;generalize QY ((o,ks)::s)++k=O at*;generalize JH ks=R at*;have c25:=λlo kd hlo=>f25 (lo:=lo) (h:=h++[.cells S,.cells [.stk h.length (s.length+2) 1],.cells [.stk (h.length+3) (s.length+1) 6],.cells O,.cells (row t)]) hlo kd
 have c25a:=c25 lo t.k (by simp;omega);have c25b:=c25 (h.length+5) o.k (by simp)
 clear c25;simp only[row]at hgr c25a c25b;simp only[zH,row,go_sem,YL,b47,Tryz.f47,hlo,l1,l2,l3,l4,l5,q,hgr,hw,qc,c25a,c25b,hkd,htop,hSl,hS1,hkk,hTk,hOk,hS5,hO5,hql,w1,a1,a2,a3,qe,o1,o2,ra,rb,rl,BC,AO,BL,Av]<;>rfl
def H26(h:Heap)(s:K7)(b:List CV)(H:Heap):Prop:=
 (s=[]/\H=HA h b)\/ ∃j k,Gm j/\Gm k/\H=HB h (Yb s b++j) (QY s++k) s.length
theorem JOB{t:Tk4}{s:K7}{b:List CV}(hs:Opn s)(hc:0<JN t.k):K3 t s b=((t,[])::s,b):=by
 unfold K3;rw[if_neg,if_pos om];intro he
 cases s with
 |nil=>cases he
 |cons p r=>obtain⟨o,ks⟩:=p;have h1:JN o.k=t.k:=Bc he;have:=H9 o.k;rw[h1]at this;omega
theorem JOC{t o:Tk4}{ks:List CV}{s:K7}{b:List CV}(he:JN o.k=t.k):K3 t ((o,ks)::s) b=KT ((o,ks)::s) b:=by unfold K3;rw[if_pos (by show some (JN o.k)=some t.k;rw[he])]
theorem JJV{t:Tk4}{s:K7}{b:List CV}(hc:JN t.k=0)(he:ctx s≠some t.k):K3 t s b=KM (.mk t []) s b:=by unfold K3;rw[if_neg he,if_neg (by simp[hc])]
theorem JUB{l:List Tk4}{t:Tk4}{i:Nat}{s:K7}{b:List CV}{H:Heap}(hlo:lo<=h.length)(hg:l[i]? =some t)(hl:l.length<=1000000000)(hz:jK s+b.length<=1000000000)(ho:Opn s)(hH:H26 h s b H):
  ∃H',evCode ⟨Aa,E,lo,h.length,h47⟩ JA YL (zH h l i,H)=some (.normal,zH h l (i+1),H')/\H26 h (K3 t s b).1 (K3 t s b).2 H':=by
 have hsl:=Ga s;have hnn:=qx t.k;by_cases hc:0<JN t.k
 ·rw[JOB ho hc]
  rcases hH with⟨rfl,rfl⟩|⟨j,k,hj,hk,rfl⟩
  ·exact⟨_,JfG hlo hg hl hc,.inr ⟨[],[],Qz,Qz,by simp⟩⟩
  ·exact⟨_,JfK hlo hg hl om hj hk hc,.inr ⟨[],[],Qz,Qz,by simp⟩⟩
 ·have hc0:JN t.k=0:=om
  cases s with
  |nil=>
   rw[JJV hc0 (by simp[ctx])]
   have hb:b.length<=1000000000:=by simp only[jK]at hz;omega
   rcases hH with⟨_,rfl⟩|⟨j,k,hj,hk,rfl⟩
   ·exact⟨_,JmN hlo hg hl hb hc,.inl ⟨rfl,rfl⟩⟩
   ·refine⟨_,JfP hlo hg hl hb hj (KB Qz hk) hc,.inr ⟨j,k,hj,hk,rfl⟩⟩
  |cons p r=>
   obtain⟨o,ks⟩:=p;simp only[jK]at hz;have hrl:=Ga r;have hrt:=kw r b;rcases hH with⟨h0,_⟩|⟨j,k,hj,hk,rfl⟩
   ·cases h0
   by_cases he:JN o.k=t.k
   ·rw[JOC he]
    refine⟨_,JfL hlo hg hl om om hj hk hc he,.inr ⟨.list .yes (JH ks)::j,row o++k,JJS hj,KB (λi=>⟨rfl,rfl⟩) hk,?_⟩⟩
    rw[Z2]
    congr 1
    rw[show(KT ((o,ks)::r) b).1=(KM (.mk o ks) r b).1 from rfl,zG,QY,Aw]
   ·rw[JJV hc0 (by show some (JN o.k)≠some t.k;intro e;exact he (Bc e))]
    refine⟨_,JfQ hlo hg hl om om hj hk hc he,.inr ⟨j,k,hj,hk,rfl⟩⟩
theorem JY1{l:List Tk4}{s:K7}{b:List CV}{H:Heap}(hlo:lo<=h.length)(hH:H26 h s b H):
  evCode ⟨Aa,E,lo,h.length,h47⟩ JA YL (zH h l l.length,H)=some (.exit 0,zH h l l.length++[(14,.v (.bool false))],H):=by
 have q:decide ((l.length:Int)<(l.length:Int))=false:=by simp
 have hl:h.length<=H.length:=by rcases hH with⟨_,rfl⟩|⟨j,k,_,_,rfl⟩<;>simp
 have hlo':lo<=H.length:=om;simp only[zH,go_sem,YL,b47,Tryz.f47,hlo,q]<;>rfl
theorem JQu{l:List Tk4}(hlo:lo<=h.length)(hl:l.length<=1000000000):∀(m i:Nat) (s:K7) (b:List CV) (H:Heap),i+m=l.length->jK s+b.length+m<=1000000000->Opn s->H26 h s b H->
  ∃H',JA (evCode ⟨Aa,E,lo,h.length,h47⟩ JA YL) (zH h l i,H)=some (.exit 0,zH h l l.length++[(14,.v (.bool false))],H')/\H26 h (runS (l.drop i) s b).1 (runS (l.drop i) s b).2 H'/\jK (runS (l.drop i) s b).1+(runS (l.drop i) s b).2.length<=1000000000
 |0,i,s,b,H,hm,hz,ho,hH=>by
  obtain rfl:i=l.length:=om;rw[Bw,runS]
  exact⟨H,by rw[JB,JY1 hlo hH,KP],hH,om⟩
 |m+1,i,s,b,H,hm,hz,ho,hH=>by
  have hlt:i<l.length:=om;have hd:l.drop i=l[i]::l.drop (i+1):=AE hlt;obtain⟨H1,hr,h1⟩:=JUB hlo (Ad hlt) hl om ho hH
  have hz1:=JJR l[i] s b;obtain⟨H2,h2,h3,h4⟩:=JQu hlo hl m (i+1) _ _ H1 om om (JJQ ho) h1;rw[hd,runS];exact⟨H2,by rw[JB,hr,JK,h2],h3,h4⟩
abbrev M26(h:Heap)(ex:Ja):Ja:=(3,.ptr (h.length+1) 0)::(4,.ptr (h.length+2) 0)::(5,.fn 83 [.ptr (h.length+1) 0,.ptr (h.length+2) 0])::ex
def JY2(ex:Ja):Prop:=(∃a b c,ex=[(11,a),(12,b),(13,c)])\/ ∃a b c d,ex=[(11,a),(12,b),(13,c),(14,d)]
theorem JUC{o:Tk4}{ks:List CV}{s:K7}{b:List CV}{j k:List V}{ex:Ja}(he:JY2 ex)(hlo:lo<=h.length)(hs:s.length<=1000000000)(hr:(Yy s b).length<=1000000000)(hj:Gm j)(hk:Gm k):
  evCode ⟨Aa,E,lo,h.length,h47⟩ JA jJ (M26 h ex,HB h (Yb ((o,ks)::s) b++j) (QY ((o,ks)::s)++k) (s.length+1))=
   some (.normal,M26 h [(11,.undef),(12,.undef),(13,.undef)],HB h (Yb (KT ((o,ks)::s) b).1 (KT ((o,ks)::s) b).2++(.list .yes (JH ks)::j)) (QY ((o,ks)::s)++k) s.length):=by
 have hcl:=JJM o ks s b j;have h5:=JmC (lo:=lo) (p:=h) (t:=o) (ks:=ks) (sc:=Yb ((o,ks)::s) b++j) (oc:=QY ((o,ks)::s)++k) hlo hs (JDn (o,ks) s b j) (zu ((o,ks)::s) b j) hr (by rw[An,Yz,Ag];omega) (JJN o ks s k)
 rw[hcl]at h5;have q:decide ((0:Int)<((s.length+1:Nat):Int))=true:=by rw[decide_eq_true_iff];omega
 simp only[HB];generalize Yb ((o,ks)::s) b++j=S at*;generalize QY ((o,ks)::s)++k=O at*;rcases he with⟨x,y,z,rfl⟩|⟨x,y,z,w,rfl⟩
 ·simp only[M26,go_sem,jJ,b47,Tryz.f47,hlo,q,h5]<;>rfl
 ·simp only[M26,go_sem,jJ,b47,Tryz.f47,hlo,q,h5]<;>rfl
theorem JfR{b:List CV}{H:Heap}{ex:Ja}(he:JY2 ex)(hlo:lo<=h.length)(hH:H26 h [] b H):
  evCode ⟨Aa,E,lo,h.length,h47⟩ JA jJ (M26 h ex,H)=some (.exit 3,M26 h [(75,.v (.bool false))],H):=by
 have q:decide ((0:Int)<((0:Nat):Int))=false:=rfl;rcases hH with⟨_,rfl⟩|⟨j,k,_,_,rfl⟩
 ·rcases he with⟨x,y,z,rfl⟩|⟨x,y,z,w,rfl⟩
  ·simp only[M26,HA,go_sem,jJ,b47,Tryz.f47,hlo,q,Am]<;>rfl
  ·simp only[M26,HA,go_sem,jJ,b47,Tryz.f47,hlo,q,Am]<;>rfl
 ·rcases he with⟨x,y,z,rfl⟩|⟨x,y,z,w,rfl⟩
  ·simp only[M26,HB,go_sem,jJ,b47,Tryz.f47,hlo,q,Am]<;>rfl
  ·simp only[M26,HB,go_sem,jJ,b47,Tryz.f47,hlo,q,Am]<;>rfl
theorem JMQ(hlo:lo<=h.length):∀(n:Nat) (s:K7) (b:List CV) (H:Heap) (ex:Ja),s.length=n->jK s+b.length<=1000000000->JY2 ex->H26 h s b H->
  ∃H',JA (evCode ⟨Aa,E,lo,h.length,h47⟩ JA jJ) (M26 h ex,H)=some (.exit 3,M26 h [(75,.v (.bool false))],H')/\H26 h [] (Qx s b) H'
 |0,s,b,H,ex,hn,hz,he,hH=>by
  obtain rfl:=Au hn
  exact⟨H,by rw[JB,JfR he hlo hH,KP],hH⟩
 |n+1,[],b,H,ex,hn,hz,he,hH=>by cases hn
 |n+1,(o,ks)::r,b,H,ex,hn,hz,he,hH=>by
  have hz1:=JBg o ks r b;simp only[jK,Ag]at hz hn;have hrl:=Ga r;have hrt:=kw r b;rcases hH with⟨h0,_⟩|⟨j,k,hj,hk,rfl⟩
  ·cases h0
  have hc:=JUC (o:=o) (ks:=ks) (s:=r) (b:=b) (j:=j) (k:=k) he hlo om om hj hk;rw[GP];have hlen:=Z2 (o,ks) r b
  obtain⟨H2,h2,h3⟩:=JMQ hlo n (KT ((o,ks)::r) b).1 (KT ((o,ks)::r) b).2 _ [(11,.undef),(12,.undef),(13,.undef)] om (by simp only[jK]at hz1;omega) (.inl ⟨_,_,_,rfl⟩)
   (.inr ⟨.list .yes (JH ks)::j,row o++k,JJS hj,KB (λi=>⟨rfl,rfl⟩) hk,rfl⟩)
  refine⟨H2,?_,h3⟩
  have e1:QY (KT ((o,ks)::r) b).1++(row o++k)=QY ((o,ks)::r)++k:=by rw[show(KT ((o,ks)::r) b).1=(KM (.mk o ks) r b).1 from rfl,zG,QY,Aw]
  rw[hlen,e1]at h2;rw[JB];simp only[Ag];rw[hc,JK];exact h2
theorem JMR:Opn []:=λp hp=>by cases hp
theorem f47{l:List Tk4}(hlo:lo<=h.length)(hl:l.length<=1000000000):E lo 47 [.list .no (l.map row)] h=some (.list .no (JH (vals l)),h):=by
 obtain⟨H1,h1,h2,h3⟩:=JQu (lo:=lo) (h:=h) hlo hl l.length 0 [] [] (HA h []) om (by simp only[jK,Am];omega) JMR (.inl ⟨rfl,rfl⟩)
 rw[AG]at h2 h3;obtain⟨H2,h4,h5⟩:=JMQ (lo:=lo) (h:=h) hlo _ _ _ H1 [(11,.list .no (l.map row)),(12,.v (.int .i64 l.length)),(13,.v (.int .i64 l.length)),(14,.v (.bool false))] rfl h3 (.inr ⟨_,_,_,_,rfl⟩) h2;have hv:Qx (runS l [] []).1 (runS l [] []).2=vals l:=rfl;rw[hv]at h5;have n0:((0:Nat):Int)=0:=rfl;rw[e47];simp only[YL,jJ,b47,Tryz.f47,JG,JT,JC,go_sem,zH,M26,HA,n0,Jc,Ae,Af]at h1 h4
 have l1:lo<=h.length+1:=om;have l2:lo<=h.length+2:=om;have l3:lo<=h.length+3:=om;have p1:(0:Int)<((1:Nat):Int):=by decide
 rcases h5 with⟨_,rfl⟩|⟨j,k,_,_,rfl⟩
 ·simp only[go_sem,b47,Tryz.f47,hlo,l1,l2,l3,h1,h4,n0,p1,HA,Jc,Av]<;>rfl
 ·simp only[go_sem,b47,Tryz.f47,hlo,l1,l2,l3,h1,h4,n0,p1,HB,Yb,Jc,Av,CC,Am,AB]<;>rfl
end Go.Lift.W1
end

section
namespace Go.Lift.Rul
def JX(ks:List Int)(v:PV):Bool:= !ks.contains v.t.k
structure LaidAt(l:List Tk4)(E D:List Nat)(p q:Nat)(G:List PV):Prop where
 lies:Lies l p (toksL G)
 laid:Kz l.length E D p G
 good:∃x b,Ko x b G
 len:p+(toksL G).length=q
 le:q<=l.length
theorem QZ(v:PV)(r:List PV):toksL (v::r)=Jl v++toksL r:=by rw[toksL]
theorem LaidAt.head{l:List Tk4}{E D:List Nat}{p q:Nat}{v:PV}{r:List PV}(h:LaidAt l E D p q (v::r)):l[p]? =some v.t:=by have h1:=h.lies;rw[QZ]at h1;have:=h1.left 0 (qz v);rw[Bl]at this;rw[this,JN3]
theorem LaidAt.tail{l:List Tk4}{E D:List Nat}{p q:Nat}{v:PV}{r:List PV}(h:LaidAt l E D p q (v::r)):LaidAt l E D (p+(Jl v).length) q r:=by obtain⟨h1,h2,⟨x,b,h3⟩,h4,h5⟩:=h;rw[QZ]at h1 h4;rw[Kz]at h2;exact⟨h1.right,h2.2,⟨x,b,(Ju.1 h3).2⟩,by rw[An]at h4;omega,h5⟩
theorem LaidAt.lt{l:List Tk4}{E D:List Nat}{p q:Nat}{v:PV}{r:List PV}(h:LaidAt l E D p q (v::r)):p<q:=by have:=h.len;have:=qz v;rw[QZ,An]at*;omega
theorem LaidAt.nil{l:List Tk4}{E D:List Nat}{p q:Nat}(h:LaidAt l E D p q []):p=q:=by have:=h.len;rw[toksL]at this;simpa using this
theorem LaidAt.over{l:List Tk4}{E D:List Nat}{p q:Nat}{v:PV}{r:List PV}(h:LaidAt l E D p q (v::r)):(if JN v.t.k=0 then p+1 else min (E.getD p 0+1) q)=p+(Jl v).length:=by
 obtain⟨h1,h2,⟨x,b,h3⟩,h4,h5⟩:=h;rw[Kz]at h2;have hv:=(Ju.1 h3).1;rw[QZ,An]at h4
 cases v with
 |leaf t=>
  have:=(Ky.1 hv).1
  rw[if_pos (by exact this),Jl];rfl
 |node t ks c=>
  have hl:=Ws.1 h2.1
  cases c with
  |none=>
   have hg:=J9.1 hv;rw[if_neg (by exact hg.1),hl.1]
   have hr:r=[]:=by have:=hg.2.2.1;simp only[Bool.and_eq_true,Cy]at this;exact this.2
   subst hr;rw[toksL]at h4;simp only[Am,Bl]at h4;show min (l.length+1) q=_
   omega
  |some e=>
   have hg:=KG.1 hv;rw[if_neg (by exact hg.1),hl.1]
   show min (p+1+(toksL ks).length+1) q=_
   rw[Jl]at h4⊢;simp only[Ag,An,C7,Am]at h4⊢;omega
theorem LaidAt.deep{l:List Tk4}{E D:List Nat}{p q:Nat}{v:PV}{r:List PV}(h:LaidAt l E D p q (v::r)):D.getD p 0=kb v:=by
 have h2:=h.laid;rw[Kz]at h2
 cases v with
 |leaf t=>have:=h2.1;rw[y4]at this;rw[this,kb]
 |node t ks c=>rw[(Ws.1 h2.1).2.1,kb]
theorem LaidAt.cut{l:List Tk4}{E D:List Nat}(f:PV->Bool):∀{G:List PV} {p q:Nat},LaidAt l E D p q G->LaidAt l E D (p+(toksL (G.takeWhile f)).length) q (G.dropWhile f)
 |[],p,q,h=>by rw[List.takeWhile_nil,List.dropWhile_nil,toksL];exact h
 |v::r,p,q,h=>by
  rw[List.takeWhile_cons,AD]
  split
  ·rw[QZ,An,<-Nat.add_assoc]
   exact LaidAt.cut f h.tail
  ·rw[toksL];exact h
theorem JBn{N:Nat}{E D:List Nat}:∀(F G:List PV) {p:Nat},Kz N E D p (F++G)->Kz N E D p F
 |[],G,p,_=>by rw[Kz];trivial
 |v::r,G,p,h=>by rw[Ae,Kz]at h;rw[Kz];exact⟨h.1,JBn r G h.2⟩
theorem LaidAt.front{l:List Tk4}{E D:List Nat}(f:PV->Bool){G:List PV}{p q:Nat}(h:LaidAt l E D p q G):LaidAt l E D p (p+(toksL (G.takeWhile f)).length) (G.takeWhile f):=by obtain⟨h1,h2,⟨x,b,h3⟩,h4,h5⟩:=h;have e:G.takeWhile f++G.dropWhile f=G:=List.takeWhile_append_dropWhile;rw[<-e]at h1 h2 h3 h4;rw[JN1]at h1 h4;rw[An]at h4;exact⟨h1.left,JBn _ _ h2,⟨x,_,(JDY _ _ h3).1⟩,rfl,om⟩
theorem JMS{n:Nat}:∀G:List PV,(G.all λv=>decide (kb v<=n))= !decide (n<depL G)
 |[]=>by rw[depL];simp
 |v::r=>by rw[BF,JMS r,depL];rw[Bool.eq_iff_iff];simp;omega
theorem LaidAt.fine{l:List Tk4}{E D:List Nat}{G:List PV}{p q n:Nat}(h:LaidAt l E D p q G):(G.all λv=>decide (kb v<=n))= !Jf n (Jh G):=by obtain⟨x,b,h3⟩:=h.good;rw[JMS,yB G n h3]
theorem JLM{l m:List Tk4}{p q:Nat}(h:Lies l p m)(hq:p+m.length=q)(hl:q<=l.length):(l.take q).drop p=m:=by
 apply List.ext_getElem?;intro k;rw[List.getElem?_drop,List.getElem?_take]
 by_cases hk:k<m.length
 ·rw[if_pos om,h k hk]
 ·rw[if_neg om,List.getElem?_eq_none om]
theorem LaidAt.vals{l:List Tk4}{E D:List Nat}{G:List PV}{p q:Nat}(h:LaidAt l E D p q G):Rul.vals ((l.take q).drop p)=Jh G:=by obtain⟨x,b,h3⟩:=h.good;rw[JLM h.lies h.len h.le,Hs h3]
theorem LaidAt.kids{l:List Tk4}{E D:List Nat}{p q:Nat}{t:Tk4}{ks r:List PV}{c:Option Tk4}(h:LaidAt l E D p q (.node t ks c::r)):LaidAt l E D (p+1) (min (E.getD p 0) q) ks:=by
 have ho:=h.lt;obtain⟨h1,h2,⟨x,b,h3⟩,h4,h5⟩:=h;rw[Kz]at h2;have hl:=Ws.1 h2.1;have hv:=(Ju.1 h3).1;rw[QZ,Jl]at h1 h4;simp only[Ag,An]at h4
 have hly:Lies l (p+1) (toksL ks):=λk hk=>by
  have:=h1 (k+1) (by simp;omega)
  rw[show p+(k+1)=p+1+k by omega]at this
  rw[this,Ae,List.getElem?_cons_succ,Aw,AQ hk]
 cases c with
 |none=>
  have hg:=J9.1 hv
  have hr:r=[]:=by have:=hg.2.2.1;simp only[Bool.and_eq_true,Cy]at this;exact this.2
  subst hr;rw[toksL]at h4;simp only[Am,Bl,C7]at h4;have e:min (E.getD p 0) q=q:=by rw[hl.1];show min l.length q=q;omega
  rw[e]
  exact⟨hly,hl.2.2,⟨_,_,hg.2.2.2⟩,om,h5⟩
 |some e=>
  have hg:=KG.1 hv;simp only[C7,Ag,Am]at h4;have e2:min (E.getD p 0) q=p+1+(toksL ks).length:=by rw[hl.1];show min (p+1+(toksL ks).length) q=_;omega
  rw[e2];exact⟨hly,hl.2.2,⟨_,_,hg.2.2.2⟩,rfl,om⟩
end Go.Lift.Rul
end
