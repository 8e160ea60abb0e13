/- rat.powers, rat.number. -/
import Derived.Test.YtppjlemmgpnliaaGreatDoorGKa
import Derived.Test.YtppjlemmgpnliaaGreatDoorGK5Basea
import Derived.Test.YtppjlemmgpnliaaGreatDoorGKb
open BitVec renaming ofInt->Au
open Bool renaming and_eq_true->Af,false_eq_true->Am,or_eq_true->A7
open Go.IntKind renaming bits->B6,i32->AF,i64->Aq,signed->BW,u64->AJ,u8->AO,wrap->Ch
open Go.Proofs.Tryz renaming prog->Aa
open Go.Value renaming int->AQ
open Int renaming fdiv_eq_ediv_of_nonneg->CZ,mul_assoc->B0,mul_comm->Cg,mul_le_mul_of_nonneg_left->Ct,mul_le_mul_of_nonneg_right->Dg,mul_nonneg->LA,pow_pos->Lt,pow_succ->Bc,tdiv_eq_ediv_of_nonneg->BN,tmod_eq_emod_of_nonneg->BC
open List renaming append_assoc->Ao,drop_eq_getElem_cons->AD,drop_eq_nil_of_le->Bo,getElem?_eq_getElem->Ac,getElem?_eq_none->Bv,getElem_mem->Ba,length_append->Ah,length_cons->Ae,length_drop->Ay,length_take->AM,map->Cy,mem_cons_self->Bz,nil_append->Ai,replicate->A0,replicate_succ'->LF,singleton_append->A1,take_length->BD,take_of_length_le->B2
open Nat renaming dvd_of_mod_eq_zero->Dh,le_refl->Ab,mul_one->Du,zero_add->AE,zero_le->A9
open Option renaming bind_some->Dp,map_none->D7,map_some->A6
set_option linter.unusedVariables false
set_option linter.unusedSimpArgs false
set_option linter.unusedSectionVars false
set_option maxRecDepth 20000
set_option maxHeartbeats 4000000
section
open Go.Proofs
namespace Go.Lift.M1
variable[MX][HasD]
open Utf Tok Spell
section
variable{lo:Nat}{h:JC}
theorem JV2{a:Int}:∀(m:Nat) (n:Int) (c:Nat),1<=n->n<5^m->n<=9223372036854775807->c+m<=1000->
  JA (evCode ⟨Aa,E,lo,h.length,JVc⟩ JA JCb) ([(0,.v (.int .u64 n)),(5,.v (.int .i64 a)),(6,.v (.int .i64 c))],h)=
   some (.exit 0,[(0,.v (.int .u64 (fv m n).2)),(5,.v (.int .i64 a)),(6,.v (.int .i64 (c+(fv m n).1:Nat))),(14,.v (.bool false))],h):=by
 intro m
 induction m with
 |zero=>intro n c h1 h2 _ _;simp at h2;omega
 |succ m ih=>
  intro n c h1 h2 h3 hc;have w2:AJ.wrap (n/5)=n/5:=Jc om om;have t1:n.tmod 5=n%5:=BC om;have t2:n.tdiv 5=n/5:=BN om;have z:¬((5:Int)=0):=om;have w:=JH (i:=c) om;simp only[fv];by_cases q:n%5=0
  ·have q1:(n%5==0)=true:=by simp[q]
   have er:evCode ⟨Aa,E,lo,h.length,JVc⟩ JA JCb ([(0,.v (.int .u64 n)),(5,.v (.int .i64 a)),(6,.v (.int .i64 c))],h)=some (.normal,[(0,.v (.int .u64 (n/5))),(5,.v (.int .i64 a)),(6,.v (.int .i64 (c+1:Nat)))],h):=by simp only[go_sem,JCb,JPZ,Tryz.f122,t1,t2,z,q1,w,w2]<;>rfl
   rw[loop_eq,er,JK,ih (n/5) (c+1) om (by rw[Bc]at h2;omega) om om,if_pos q]
   have e:c+1+(fv m (n/5)).1=c+((fv m (n/5)).1+1):=om;rw[e]
  ·have q1:(n%5==0)=false:=by simp[q]
   rw[if_neg q,loop_eq];simp only[go_sem,JCb,JPZ,Tryz.f122,t1,t2,z,q1]<;>rfl
theorem f122{d:Int}(h0:1<=d)(h1:d<9223372036854775808):
  E lo 122 [.v (.int .u64 d)] h=some (.tup [.v (.int .i64 (Go.Lib.ctz 64 d.toNat)),.v (.int .i64 (fv 64 (d/2^Go.Lib.ctz 64 d.toNat)).1),.v (.bool ((fv 64 (d/2^Go.Lib.ctz 64 d.toNat)).2==1))],h):=by
 have hlow:=Go.Lib.ctzFrom_spec 64 d.toNat om om;have hctz:Go.Lib.ctz 64 d.toNat=Go.Lib.ctzFrom 64 d.toNat:=by unfold Go.Lib.ctz;rw[if_neg om]
 rw[<-hctz]at hlow;have k1:=λh=>Jhv (lo:=lo) (h:=h) (x:=d) om om
 generalize Go.Lib.ctz 64 d.toNat=a at*;obtain⟨m,hm,ha⟩:=hlow;have pa:=Spell.pow_pos (x:=2) om a
 have hq:1<=d/2^a:=by
  have:(d.toNat:Int)=((2^a*(2*m+1):Nat):Int):=by rw[hm]
  have e:(d.toNat:Int)=d:=om;rw[e]at this;have hd:d=2^a*(2*(m:Int)+1):=by rw[this];push_cast;rfl
  rw[hd,Int.mul_ediv_cancel_left _ om];omega
 have hq2:d/2^a<=d:=Int.ediv_le_self _ om;have h64:(9223372036854775808:Int)<=5^64:=by decide
 have hL:=JV2 (lo:=lo) (h:=h) (a:=a) 64 (d/2^a) 0 hq om om om;have n0:((0:Nat):Int)=0:=rfl;simp only[JCb,JPZ,Tryz.f122,JD,JT,JB,go_sem,n0,AE]at hL
 have sh:JB4 AJ d (a:Int)=d/2^a:=by
  unfold JB4
  have e:min ((a:Int)).toNat AJ.bits=a:=by
   show min ((a:Int)).toNat 64=a
   omega
  rw[e,CZ _ om]
 have w1:AJ.wrap (d/2^a)=d/2^a:=Jc om om;rw[JoN];simp only[go_sem,JPZ,Tryz.f122,k1,sh,w1,hL]<;>rfl
theorem dgt_one{n:Int}(h0:0<=n)(h:n<10):Qr n=[48+n]:=by unfold Qr;rw[Go.Lib.decDigits_one om];simp;omega
theorem JKX{n:Int}(h:10<=n):Qr n=Qr (n/10)++[48+n%10]:=by
 unfold Qr;rw[Go.Lib.decDigits,dif_neg om];have e:(n/10).toNat=n.toNat/10:=om;rw[e,List.map_append]
 congr 1
 simp;omega
theorem JMd(n:Int):By (Qr n):=λc hc=>by unfold Qr at hc;obtain⟨x,_,rfl⟩:=List.mem_map.1 hc;have:=x.toNat_lt;omega
theorem G2:∀(k:Nat) (n:Int),0<=n->n<10^ (k+1)->1<=(Qr n).length/\(Qr n).length<=k+1:=by
 intro k
 induction k with
 |zero=>
  intro n h0 h1;rw[dgt_one h0 (by simpa using h1)]
  simp
 |succ k ih=>
  intro n h0 h1;by_cases h:n<10
  ·rw[dgt_one h0 h];simp
  ·rw[JKX om]
   have:=ih (n/10) om (by rw[Bc]at h1;omega)
   simp;omega
abbrev cz(k:Nat)(suf:List Int):Ob:= .cells (A0 k (.v (.int .u8 0))++suf.map λc=> .v (.int .u8 c))
theorem JHg(k:Nat)(c:Int)(suf:List Int):(A0 (k+1) (V.v (.int .u8 0))++suf.map λc=>V.v (.int .u8 c)).set k (.v (.int .u8 c))=A0 k (V.v (.int .u8 0))++(c::suf).map λc=>V.v (.int .u8 c):=by
 rw[LF,Ao,List.set_append_right _ _ (by simp)]
 simp
theorem last97(hlo:lo<=h.length){ex:Jj}(hex:ex=[]\/ ∃b,ex=[(16,.v (.bool b))]){n:Int}{j:Nat}{suf:List Int}(h0:0<=n)(h1:n<10)(h4:j+1+suf.length=20):
  ∃x:Ob,JA (evCode ⟨Aa,E,lo,h.length,JRr⟩ JA za) ((0,.v (.int .u64 n))::(3,.ptr h.length 0)::(4,.v (.int .i64 (j+1:Nat)))::ex,h++[cz (j+1) suf])=
   some (.ret,[(2,.v (.string (bs (Qr n++suf))))],h++[x]):=by
 have t1:n.tmod 10=n%10:=BC om;have t2:n.tdiv 10=n/10:=BN om;have t3:n/10=0:=om;have t4:n%10=n:=om;have w1:Aq.wrap (((j+1:Nat):Int)-1)=(j:Int):=by rw[JN om om];omega
 have w2:AJ.wrap (48+n)=48+n:=Jc om om;have w3:AO.wrap (48+n)=48+n:=by simp only[Ch,BW,B6];simp;omega
 have b1:(j:Int)<((20:Nat):Int):=om;have e:=JHg j (48+n) suf;have e2:j+1<=(A0 (j+1) (V.v (AQ AO 0))++Cy (λc=>V.v (AQ AO c)) suf).length:=by simp
 have q0:((0:Int)==0)=true:=rfl;have z:¬((10:Int)=0):=om;have e3:decide (j+(20-j)<=(A0 j (V.v (AQ AO 0))++V.v (AQ AO (48+n))::Cy (λc=>V.v (AQ AO c)) suf).length)=true:=by simp;omega
 have e4:bytesOf (Cy (λx=>[x]) (List.take (20-j) (List.drop j (A0 j (V.v (AQ AO 0))++V.v (AQ AO (48+n))::Cy (λc=>V.v (AQ AO c)) suf))))=some (Q1 ((48+n)::suf)):=by
  rw[List.drop_left' (by simp),B2 (by simp;omega)]
  have:Cy (λx=>[x]) (V.v (AQ AO (48+n))::Cy (λc=>V.v (AQ AO c)) suf)=ri .u8 ((48+n)::suf):=by simp[ri]
  rw[this];exact Hs _
 have w0:AJ.wrap 0=0:=Jc om om;have b2:j<=20:=om;have b3:j<20:=om;rw[dgt_one h0 h1];refine⟨cz j ((48+n)::suf),?_⟩
 rw[loop_eq];rcases hex with rfl|⟨b,rfl⟩<;>
 simp only[go_sem,za,JPa,Tryz.f124,t1,t2,t3,t4,w1,w2,w3,b1,e,e2,e3,e4,hlo,q0,z,w0,b2,b3,cz,AE,Du]<;>rfl
theorem JbP(hlo:lo<=h.length){ex:Jj}(hex:ex=[]\/ ∃b,ex=[(16,.v (.bool b))]){n:Int}{j:Nat}{suf:List Int}(h0:10<=n)(h1:n<=18446744073709551615)(h4:j+1+suf.length=20):
  evCode ⟨Aa,E,lo,h.length,JRr⟩ JA za ((0,.v (.int .u64 n))::(3,.ptr h.length 0)::(4,.v (.int .i64 (j+1:Nat)))::ex,h++[cz (j+1) suf])=
   some (.normal,[(0,.v (.int .u64 (n/10))),(3,.ptr h.length 0),(4,.v (.int .i64 j)),(16,.v (.bool false))],h++[cz j ((48+n%10)::suf)]):=by
 have t1:n.tmod 10=n%10:=BC om;have t2:n.tdiv 10=n/10:=BN om;have w1:Aq.wrap (((j+1:Nat):Int)-1)=(j:Int):=by rw[JN om om];omega
 have w2:AJ.wrap (48+n%10)=48+n%10:=Jc om om;have w3:AO.wrap (48+n%10)=48+n%10:=by simp only[Ch,BW,B6];simp;omega
 have w0:AJ.wrap (n/10)=n/10:=Jc om om;have w4:AJ.wrap (n%10)=n%10:=Jc om om;have b1:(j:Int)<((20:Nat):Int):=om;have e:=JHg j (48+n%10) suf;have e2:j+1<=(A0 (j+1) (V.v (AQ AO 0))++Cy (λc=>V.v (AQ AO c)) suf).length:=by simp
 have q0:(n/10==0)=false:=by simp;omega
 have z:¬((10:Int)=0):=om;rcases hex with rfl|⟨b,rfl⟩<;>
 simp only[go_sem,za,JPa,Tryz.f124,t1,t2,w1,w2,w3,w4,b1,e,e2,hlo,q0,z,w0,cz,AE,Du]<;>rfl
theorem JV3(hlo:lo<=h.length):∀(k:Nat) (n:Int) (j:Nat) (suf:List Int) (ex:Jj),(ex=[]\/ ∃b,ex=[(16,.v (.bool b))])->0<=n->n<10^ (k+1)->n<=18446744073709551615->k<=j->j+1+suf.length=20->
  ∃x:Ob,JA (evCode ⟨Aa,E,lo,h.length,JRr⟩ JA za) ((0,.v (.int .u64 n))::(3,.ptr h.length 0)::(4,.v (.int .i64 (j+1:Nat)))::ex,h++[cz (j+1) suf])=
   some (.ret,[(2,.v (.string (bs (Qr n++suf))))],h++[x]):=by
 intro k
 induction k with
 |zero=>intro n j suf ex hex h0 h1 _ h2 h4;exact last97 hlo hex h0 (by simpa using h1) h4
 |succ k ih=>
  intro n j suf ex hex h0 h1 h3 h2 h4;by_cases hn:n<10
  ·exact last97 hlo hex h0 hn h4
  obtain⟨i,rfl⟩:∃i,j=i+1:=⟨j-1,om⟩;obtain⟨x,hx⟩:=ih (n/10) i ((48+n%10)::suf) [(16,.v (.bool false))] (.inr ⟨_,rfl⟩) om (by rw[Bc]at h1;omega) om om (by simp;omega)
  refine⟨x,?_⟩
  rw[loop_eq,JbP hlo hex om h3 h4,JK,hx,JKX (n:=n) om,Ao]<;>rfl
theorem f124(hlo:lo<=h.length){n:Int}(h0:0<=n)(h1:n<=18446744073709551615):E lo 124 [.v (.int .u64 n)] h=some (.v (.string (bs (Qr n))),h):=by
 obtain⟨x,hL⟩:=JV3 (lo:=lo) (h:=h) hlo 19 n 19 [] [] (.inl rfl) h0 om h1 om (by simp)
 have n20:((19+1:Nat):Int)=20:=rfl;have hz:cz (19+1) []= .cells [.v (.int .u8 0),.v (.int .u8 0),.v (.int .u8 0),.v (.int .u8 0),.v (.int .u8 0),.v (.int .u8 0),.v (.int .u8 0),.v (.int .u8 0),.v (.int .u8 0),.v (.int .u8 0),.v (.int .u8 0),.v (.int .u8 0),.v (.int .u8 0),.v (.int .u8 0),.v (.int .u8 0),.v (.int .u8 0),.v (.int .u8 0),.v (.int .u8 0),.v (.int .u8 0),.v (.int .u8 0)]:=rfl
 rw[n20,hz,List.append_nil]at hL;simp only[za,JPa,Tryz.f124,JD,JT,JB,go_sem]at hL;rw[JoP];simp only[go_sem,JPa,Tryz.f124,hL]<;>rfl
end
section
variable{lo:Nat}{h:JC}
noncomputable abbrev kv(lo N:Nat):Cx:=⟨Aa,E,lo,N,h97⟩
theorem JHh{x:Int}(hx:1<=x)(hx2:x<=5):∀(k:Nat) (m r:Int),0<=m->m<=9223372036854775808->zk x k m=some r->0<=r/\r<=9223372036854775808
 |0,m,r,h0,h1,h=>by cases h;exact⟨h0,h1⟩
 |k+1,m,r,h0,h1,h=>by
  simp only[zk]at h
  split at h
  ·cases h
  ·rename_i hb
   unfold big at hb;have h2:0<=m*x:=LA h0 om;have h3:m*x<=m*5:=Ct hx2 h0;exact JHh hx hx2 k (m*x) r h2 om h
abbrev I36(p:JC)(w:Bool)(q b n a1 a2 i K j:Int)(q0:Nat):Jj:=
 [(1,.v (.bool w)),(2,.ptr q0 0),(9,.v (.int .i64 b)),(10,.v (.int .u64 n)),(12,.ptr p.length 0),(65,.agg [.v (.int .u64 2),.v (.int .u64 a1),.v (.int .u64 5),.v (.int .u64 a2)]),(66,.v (.int .i64 i)),(70,.v (.int .u64 K)),(71,.v (.int .u64 j))]
theorem JGY{p:JC}{N q0:Nat}{w:Bool}{b a1 a2 i x:Int}{K:Nat}(hlo:lo<=p.length)(hx:1<=x)(hx2:x<=5)(hK:K<=1000):∀(k j:Nat) (n:Int),j+k=K->0<=n->n<=9223372036854775808->
  JA (evCode (kv lo N) JA JCW) (I36 p w 0 b n a1 a2 i K j q0,p++[.cells [.v (.int .u64 x),.v (.int .u64 K)]])=
   match zk x k n with
   |some r=>some (.exit 3,I36 p w 0 b r a1 a2 i K K q0++[(72,.v (.bool false))],p++[.cells [.v (.int .u64 x),.v (.int .u64 K)]])
   |none=>some (.ret,[(4,.v (.string ⟨#[]⟩)),(5,.v (.int .i64 1))],p++[.cells [.v (.int .u64 x),.v (.int .u64 K)]]):=by
 intro k
 induction k with
 |zero=>
  intro j n hj h0 h1;obtain rfl:j=K:=om;have q:decide ((j:Int)<(j:Int))=false:=by simp
  rw[loop_eq]
  simp only[go_sem,JCW,HP,Tryz.f97,q,zk]<;>rfl
 |succ k ih=>
  intro j n hj h0 h1;have q:decide ((j:Int)<(K:Int))=true:=by simp;omega
  rw[loop_eq];simp only[zk];unfold big;by_cases hb:1000000000000000000<n
  ·have q2:decide (1000000000000000000<n)=true:=by simp[hb]
   rw[if_pos hb];simp only[go_sem,JCW,HP,Tryz.f97,q,q2]<;>rfl
  ·have q2:decide (1000000000000000000<n)=false:=by simp;omega
   have h2:0<=n*x:=LA h0 om;have h3:n*x<=n*5:=Ct hx2 h0;have w1:AJ.wrap (n*x)=n*x:=Jc h2 om;have w2:AJ.wrap ((j:Int)+1)=((j+1:Nat):Int):=by rw[Jc om om];omega
   have b0:(0:Int)<((2:Nat):Int):=om;rw[if_neg hb]
   have er:evCode (kv lo N) JA JCW (I36 p w 0 b n a1 a2 i K j q0,p++[.cells [.v (.int .u64 x),.v (.int .u64 K)]])=some (.normal,I36 p w 0 b (n*x) a1 a2 i K (j+1:Nat) q0,p++[.cells [.v (.int .u64 x),.v (.int .u64 K)]]):=by simp only[go_sem,JCW,HP,Tryz.f97,q,q2,w1,w2,b0]<;>rfl
   rw[er,JK,ih (j+1) (n*x) om h2 om]
abbrev O36(w:Bool)(q0:Nat)(b n a1 a2 i:Int):Jj:=
 [(1,.v (.bool w)),(2,.ptr q0 0),(9,.v (.int .i64 b)),(10,.v (.int .u64 n)),(65,.agg [.v (.int .u64 2),.v (.int .u64 a1),.v (.int .u64 5),.v (.int .u64 a2)]),(66,.v (.int .i64 i))]
theorem JSL{p:JC}{N q0:Nat}{w:Bool}{b:Int}{K1 K2:Nat}(hlo:lo<=p.length)(hK:K1<=1000){n:Int}(h0:0<=n)(h1:n<=9223372036854775808):
  evCode (kv lo N) JA yV (O36 w q0 b n K1 K2 0,p)=match zk 2 K1 n with
   |some r=>some (.normal,O36 w q0 b r K1 K2 1,p++[.cells [.v (.int .u64 2),.v (.int .u64 K1)]])
   |none=>some (.ret,[(4,.v (.string ⟨#[]⟩)),(5,.v (.int .i64 1))],p++[.cells [.v (.int .u64 2),.v (.int .u64 K1)]]):=by
 have hL:=JGY (lo:=lo) (p:=p) (N:=N) (q0:=q0) (w:=w) (b:=b) (a1:=K1) (a2:=K2) (i:=0) (x:=2) hlo om om hK K1 0 n om h0 h1;have n0:((0:Nat):Int)=0:=rfl;have q:decide ((0:Int)<2)=true:=rfl;have b0:(0:Int)<((2:Nat):Int):=om;have b1:(1:Int)<((2:Nat):Int):=om;have w1:Aq.wrap (0+1)=1:=rfl;simp only[JCW,HP,Tryz.f97,JD,JT,JB,go_sem,n0]at hL
 cases hu:zk 2 K1 n with
 |none=>
  rw[hu]at hL
  simp only[go_sem,yV,HP,Tryz.f97,q,b0,b1,hL,hlo]<;>rfl
 |some r=>rw[hu]at hL;simp only[go_sem,yV,HP,Tryz.f97,q,b0,b1,w1,hL,hlo]<;>rfl
theorem JSM{p:JC}{N q0:Nat}{w:Bool}{b:Int}{K1 K2:Nat}(hlo:lo<=p.length)(hK:K2<=1000){n:Int}(h0:0<=n)(h1:n<=9223372036854775808):
  evCode (kv lo N) JA yV (O36 w q0 b n K1 K2 1,p)=match zk 5 K2 n with
   |some r=>some (.normal,O36 w q0 b r K1 K2 2,p++[.cells [.v (.int .u64 5),.v (.int .u64 K2)]])
   |none=>some (.ret,[(4,.v (.string ⟨#[]⟩)),(5,.v (.int .i64 1))],p++[.cells [.v (.int .u64 5),.v (.int .u64 K2)]]):=by
 have hL:=JGY (lo:=lo) (p:=p) (N:=N) (q0:=q0) (w:=w) (b:=b) (a1:=K1) (a2:=K2) (i:=1) (x:=5) hlo om om hK K2 0 n om h0 h1;have n0:((0:Nat):Int)=0:=rfl;have q:decide ((1:Int)<2)=true:=rfl;have b0:(0:Int)<((2:Nat):Int):=om;have b1:(1:Int)<((2:Nat):Int):=om;have w1:Aq.wrap (1+1)=2:=rfl;simp only[JCW,HP,Tryz.f97,JD,JT,JB,go_sem,n0]at hL
 cases hu:zk 5 K2 n with
 |none=>
  rw[hu]at hL
  simp only[go_sem,yV,HP,Tryz.f97,q,b0,b1,hL,hlo]<;>rfl
 |some r=>rw[hu]at hL;simp only[go_sem,yV,HP,Tryz.f97,q,b0,b1,w1,hL,hlo]<;>rfl
theorem JPi{p:JC}{N q0:Nat}{w:Bool}{b:Int}{K1 K2:Nat}(hlo:lo<=p.length)(hK1:K1<=1000)(hK2:K2<=1000){n:Int}(h0:0<=n)(h1:n<=9223372036854775808):
  ∃q:JC,JA (evCode (kv lo N) JA yV) (O36 w q0 b n K1 K2 0,p)=match(zk 2 K1 n).bind (zk 5 K2)with
   |some r=>some (.exit 1,O36 w q0 b r K1 K2 2++[(67,.v (.bool false))],p++q)
   |none=>some (.ret,[(4,.v (.string ⟨#[]⟩)),(5,.v (.int .i64 1))],p++q):=by
 rw[loop_eq,JSL hlo hK1 h0 h1]
 cases hu:zk 2 K1 n with
 |none=>exact⟨_,by rw[Option.bind_none,QY]⟩
 |some r=>
  obtain⟨r0,r1⟩:=JHh (x:=2) om om K1 n r h0 h1 hu;simp only[Dp];rw[JK,loop_eq,JSM (by simp;omega) hK2 r0 r1]
  cases hu2:zk 5 K2 r with
  |none=>exact⟨_,by rw[QY,Ao]⟩
  |some m=>
   refine⟨[.cells [.v (.int .u64 2),.v (.int .u64 K1)]]++[.cells [.v (.int .u64 5),.v (.int .u64 K2)]],?_⟩
   simp only;rw[JK,loop_eq,Ao];have q:decide ((2:Int)<2)=false:=rfl;simp only[go_sem,yV,HP,Tryz.f97,q]<;>rfl
theorem JSN:∀(k:Nat) (d:Int),(fv k d).1<=k
 |0,_=>Ab _
 |k+1,d=>by
  simp only[fv]
  split
  ·have:=JSN k (d/5)
   simp only;omega
  ·simp
theorem Jo5(hlo:lo<=h.length){n d:Int}{w:Bool}(h0: -9223372036854775808<=n)(h1:n<=9223372036854775807)(h2:1<=d)(h3:d<=9223372036854775807)(hm:ko n d=true)(hw:(w&&decide (1<d))=false):
  ∃(q:JC) (a1 a2:Int),Wc (kv lo h.length) JA (pc HP 0 9) (Ku [.agg [.v (.int .i64 n),.v (.int .i64 d)],.v (.bool w)],h)=match ZM n.natAbs d with
   |some (m,k)=>some (.normal,O36 w h.length k m a1 a2 2++[(67,.v (.bool false))],h++ .cells [.v (.int .i64 n),.v (.int .i64 d)]::q)
   |none=>some (.ret,[(4,.v (.string ⟨#[]⟩)),(5,.v (.int .i64 1))],h++ .cells [.v (.int .i64 n),.v (.int .i64 d)]::q):=by
 have k1:=λlo h hlo=>f120 (lo:=lo) (h:=h) h0 h1 h3 hlo
 rw[hm]at k1;have k1:=k1 lo (h++[.cells [.v (.int .i64 n),.v (.int .i64 d)]]) (by simp;omega)
 have k2:=λlo h=>f122 (lo:=lo) (h:=h) (d:=d) h2 om
 have k3:=λlo h=>f123 (lo:=lo) (h:=h) h0 h1
 have wd:AJ.wrap d=d:=Jc om om;have qd:(d==0)=false:=by simp;omega
 have hA:Go.Lib.ctz 64 d.toNat<=64:=by
  have hlow:=Go.Lib.ctzFrom_spec 64 d.toNat om om;have hctz:Go.Lib.ctz 64 d.toNat=Go.Lib.ctzFrom 64 d.toNat:=by unfold Go.Lib.ctz;rw[if_neg om]
  rw[<-hctz]at hlow;obtain⟨_,_,h⟩:=hlow;omega
 have hB:=JSN 64 (d/2^Go.Lib.ctz 64 d.toNat);unfold ZM;simp only;generalize Go.Lib.ctz 64 d.toNat=A at*;generalize fv 64 (d/2^A)=BR at*;obtain⟨B,R⟩:=BR;simp only at k2 hB⊢;have pre:∀wv:Bool,(wv&&decide (1<d))=false->True:=λ_ _=>trivial
 by_cases hR:R=1
 rotate_left
 ·have qR:(R==1)=false:=by simp[hR]
  rw[if_neg hR];refine⟨[],0,0,?_⟩
  cases w with
  |true=>
   have q1:decide (1<d)=false:=by simpa using hw
   simp only[go_sem,HP,Tryz.f97,k1,k2,k3,wd,qd,q1,qR,hlo]<;>rfl
  |false=>simp only[go_sem,HP,Tryz.f97,k1,k2,k3,wd,qd,qR,hlo]<;>rfl
 have qR:(R==1)=true:=by simp[hR]
 rw[if_pos hR];have mx:(if(A:Int)<(B:Int)then(B:Int)else(A:Int))=((max A B:Nat):Int):=by split<;>omega
 have hmA:A<=max A B:=om;have hmB:B<=max A B:=om;have hmM:max A B<=64:=om;generalize max A B=M at*;have w1:Aq.wrap ((M:Int)-A)=((M-A:Nat):Int):=by rw[JN om om];omega
 have w2:Aq.wrap ((M:Int)-B)=((M-B:Nat):Int):=by rw[JN om om];omega
 have w3:AJ.wrap (((M-A:Nat):Int))=((M-A:Nat):Int):=Jc om om;have w4:AJ.wrap (((M-B:Nat):Int))=((M-B:Nat):Int):=Jc om om;obtain⟨q,hL⟩:=JPi (lo:=lo) (p:=h++[.cells [.v (.int .i64 n),.v (.int .i64 d)]]) (N:=h.length) (q0:=h.length) (w:=w) (b:=M) (K1:=M-A) (K2:=M-B) (by simp;omega) om om (n:=n.natAbs) om om
 refine⟨q,((M-A:Nat):Int),((M-B:Nat):Int),?_⟩
 simp only[yV,HP,Tryz.f97,JD,JT,JB,go_sem]at hL
 cases hu:(zk 2 (M-A) (n.natAbs:Int)).bind (zk 5 (M-B))with
 |none=>
  rw[hu]at hL
  cases w with
  |true=>
   have q1:decide (1<d)=false:=by simpa using hw
   simp only[go_sem,HP,Tryz.f97,k1,k2,k3,wd,qd,q1,qR,mx,w1,w2,w3,w4,hL,hlo,D7]<;>rfl
  |false=>simp only[go_sem,HP,Tryz.f97,k1,k2,k3,wd,qd,qR,mx,w1,w2,w3,w4,hL,hlo,D7]<;>rfl
 |some m=>
  rw[hu]at hL
  cases w with
  |true=>
   have q1:decide (1<d)=false:=by simpa using hw
   simp only[go_sem,HP,Tryz.f97,k1,k2,k3,wd,qd,q1,qR,mx,w1,w2,w3,w4,hL,hlo,A6]<;>rfl
  |false=>simp only[go_sem,HP,Tryz.f97,k1,k2,k3,wd,qd,qR,mx,w1,w2,w3,w4,hL,hlo,A6]<;>rfl
end
section
variable{lo:Nat}{h:JC}
theorem JX0:(⟨#[45]⟩:ByteArray)=bs [45]:=rfl
theorem JNn:(⟨#[46]⟩:ByteArray)=bs [46]:=rfl
theorem JKY:(⟨#[48]⟩:ByteArray)=bs [48]:=rfl
def zn(m:Int)(p:Nat):List Int:=A0 (p+1-(Qr m).length) 48++Qr m
theorem JKZ{m:Int}{p:Nat}:p+1<=(zn m p).length/\(zn m p).length<=(Qr m).length+p+1:=by unfold zn;simp;omega
theorem Jo6(hlo:lo<=h.length){n d m a1 a2:Int}{w:Bool}{p:Nat}{q:JC}(h0:0<=m)(h1:m<=9223372036854775808)(hp:p<=1000):
  Wc (kv lo h.length) JA (pc HP 9 3) (O36 w h.length p m a1 a2 2++[(67,.v (.bool false))],h++ .cells [.v (.int .i64 n),.v (.int .i64 d)]::q)=
   if 18<(core (Qr m)).length then some (.ret,[(4,.v (.string ⟨#[]⟩)),(5,.v (.int .i64 1))],h++ .cells [.v (.int .i64 n),.v (.int .i64 d)]::q)
   else some (.normal,[(1,.v (.bool w)),(2,.ptr h.length 0),(9,.v (.int .i64 p)),(13,.v (.string (bs (Qr m)))),(86,.v (.bool false))],h++ .cells [.v (.int .i64 n),.v (.int .i64 d)]::q):=by
 have k1:=λ(lo:Nat) (h:JC) (hlo:lo<=h.length)=>f124 (lo:=lo) (h:=h) hlo h0 (n:=m) om
 have k1:=k1 lo (h++ .cells [.v (.int .i64 n),.v (.int .i64 d)]::q) (by simp;omega)
 obtain⟨l1,l2⟩:=G2 19 m h0 (by
                     have:(10:Int)^ (19+1)=100000000000000000000:=by decide
                     omega)
 have k2:=λlo h=>f125 (lo:=lo) (h:=h) (JMd m) om
 have sz:=bs_size (core (Qr m));by_cases hc:18<(core (Qr m)).length
 ·have q1:decide (18<(((core (Qr m)).length:Nat):Int))=true:=by simp;omega
  rw[if_pos hc];simp only[go_sem,HP,Tryz.f97,k1,k2,sz,q1,hlo,O36]<;>rfl
 ·have q1:decide (18<(((core (Qr m)).length:Nat):Int))=false:=by simp;omega
  rw[if_neg hc];simp only[go_sem,HP,Tryz.f97,k1,k2,sz,q1,hlo,O36]<;>rfl
theorem Jo7{n d m:Int}{w:Bool}{p:Nat}{q:JC}(h0:0<=m)(h1:m<=9223372036854775808)(hp:p<=1000):
  Wc (kv lo h.length) JA (pc HP 12 2) ([(1,.v (.bool w)),(2,.ptr h.length 0),(9,.v (.int .i64 p)),(13,.v (.string (bs (Qr m)))),(86,.v (.bool false))],h++ .cells [.v (.int .i64 n),.v (.int .i64 d)]::q)=
   some (.normal,[(1,.v (.bool w)),(2,.ptr h.length 0),(9,.v (.int .i64 p)),(13,.v (.string (bs (zn m p)))),(90,.v (.bool (decide ((Qr m).length<=p))))],h++ .cells [.v (.int .i64 n),.v (.int .i64 d)]::q):=by
 obtain⟨l1,l2⟩:=G2 19 m h0 (by
                     have:(10:Int)^ (19+1)=100000000000000000000:=by decide
                     omega)
 have sz:=bs_size (Qr m);unfold zn;by_cases hc:(Qr m).length<=p
 ·have q1:decide (((Qr m).length:Int)<=(p:Int))=true:=by simp;omega
  have q2:decide ((Qr m).length<=p)=true:=by simp[hc]
  have w1:Aq.wrap ((p:Int)+1)=(p:Int)+1:=JN om om;have w2:Aq.wrap ((p:Int)+1-((Qr m).length:Int))=(p:Int)+1-((Qr m).length:Int):=JN om om;have k1:=λlo h=>Jhw (lo:=lo) (h:=h) (c:=48) (n:=(p:Int)+1-((Qr m).length:Int)) om om
  have e:((p:Int)+1-((Qr m).length:Int)).toNat=p+1-(Qr m).length:=om;have e2:((UInt8.toNat 48:Nat):Int)=48:=rfl;rw[e,e2]at k1;have z1:(bs (A0 (p+1-(Qr m).length) 48)).size+(Qr m).length<=9223372036854775807:=by rw[bs_size,List.length_replicate];omega
  rw[q2];simp only[go_sem,HP,Tryz.f97,sz,q1,w1,w2,k1,Jb,z1]<;>rfl
 ·have q1:decide (((Qr m).length:Int)<=(p:Int))=false:=by simp;omega
  have q2:decide ((Qr m).length<=p)=false:=by simp[hc]
  have e:p+1-(Qr m).length=0:=om;rw[q2,e];simp only[go_sem,HP,Tryz.f97,sz,q1]<;>rfl
def j8(T:List Int)(p:Nat)(w:Bool):List Int:=if w=true then T else T.take (T.length-p)++46::(T.drop (T.length-p)++if p=0 then[48]else[])
theorem Jo8{T:List Int}{n d:Int}{w b:Bool}{p:Nat}{q:JC}(hp:p+1<=T.length)(hl:T.length<=1000000):
  ∃e1 e2:Jj,(e1=[]\/ ∃v,e1=[(9,v)])/\(e2=[]\/(∃v,e2=[(100,v)])\/ ∃v,e2=[(114,v)])/\
  Wc (kv lo h.length) JA (pc HP 14 2) ([(1,.v (.bool w)),(2,.ptr h.length 0),(9,.v (.int .i64 p)),(13,.v (.string (bs T))),(90,.v (.bool b))],h++ .cells [.v (.int .i64 n),.v (.int .i64 d)]::q)=
   some (.normal,(2,.ptr h.length 0)::(e1++(13,.v (.string (bs (j8 T p w))))::e2),h++ .cells [.v (.int .i64 n),.v (.int .i64 d)]::q):=by
 unfold j8
 cases w with
 |true=>
  refine⟨[(9,.v (.int .i64 p))],[(100,.v (.bool false))],.inr ⟨_,rfl⟩,.inr (.inl ⟨_,rfl⟩),?_⟩
  simp only[go_sem,HP,Tryz.f97]<;>rfl
 |false=>
  have sz:=bs_size T;have w1:Aq.wrap ((T.length:Int)-(p:Int))=((T.length-p:Nat):Int):=by rw[JN om om];omega
  have b1:T.length-p<=T.length:=om;have e1:(T.take T.length).drop (T.length-p)=T.drop (T.length-p):=by rw[BD]
  have e0:(T.take (T.length-p)).drop 0=T.take (T.length-p):=rfl;have zz:∀a b:List Int,a.length+b.length<=2000000000->(bs a).size+(bs b).size<=9223372036854775807:=λa b h=>by rw[bs_size,bs_size];omega
  have z1:=zz (T.take (T.length-p)) [46] (by simp;omega)
  have z2:=zz (T.take (T.length-p)++[46]) (T.drop (T.length-p)) (by simp;omega)
  have z3:=zz (T.take (T.length-p)++[46]++T.drop (T.length-p)) [48] (by simp;omega)
  rw[Ao,A1]at z3;have z0:0<=T.length-p:=A9 _;by_cases hp0:p=0
  ·have q0:((p:Int)==0)=true:=by simp[hp0]
   have q2:(p==0)=true:=by simp[hp0]
   rw[if_pos hp0];refine⟨[(9,.undef)],[(100,.undef)],.inr ⟨_,rfl⟩,.inr (.inl ⟨_,rfl⟩),?_⟩
   simp only[go_sem,HP,Tryz.f97,sz,w1,b1,KN,e0,e1,JNn,JKY,Jb,q0,z0,z1,z2,z3,Ab,Ao]<;>rfl
  ·have q0:((p:Int)==0)=false:=by simp;omega
   have q2:(p==0)=false:=by simp[hp0]
   rw[if_neg hp0];refine⟨[],[(114,.v (.bool false))],.inl rfl,.inr (.inr ⟨_,rfl⟩),?_⟩
   simp only[go_sem,HP,Tryz.f97,sz,w1,b1,KN,e0,e1,JNn,JKY,Jb,q0,z0,z1,z2,z3,Ab,Ao]<;>rfl
theorem Jo9{T:List Int}{n d:Int}{q:JC}{e1 e2:Jj}(hl:T.length<=2000000)(he:e1=[]\/ ∃v,e1=[(9,v)])(ht:e2=[]\/(∃v,e2=[(100,v)])\/ ∃v,e2=[(114,v)]):
  Wc (kv lo h.length) JA (pc HP 16 4) ((2,.ptr h.length 0)::(e1++(13,.v (.string (bs T)))::e2),h++ .cells [.v (.int .i64 n),.v (.int .i64 d)]::q)=
   some (.ret,[(4,.v (.string (bs ((if n<0 then[45]else[])++T)))),(5,.v (.int .i64 0))],h++ .cells [.v (.int .i64 n),.v (.int .i64 d)]::q):=by
 have z1:(bs [45]).size+(bs T).size<=9223372036854775807:=by rw[bs_size,bs_size];simp;omega
 by_cases hn:n<0
 ·have q1:decide (n<0)=true:=by simp[hn]
  rw[if_pos hn];rcases he with rfl|⟨v,rfl⟩<;>rcases ht with rfl|⟨v2,rfl⟩|⟨v2,rfl⟩<;>
  simp only[go_sem,HP,Tryz.f97,q1,JX0,Jb,z1]<;>rfl
 ·have q1:decide (n<0)=false:=by simp;omega
  rw[if_neg hn];rcases he with rfl|⟨v,rfl⟩<;>rcases ht with rfl|⟨v2,rfl⟩|⟨v2,rfl⟩<;>
  simp only[go_sem,HP,Tryz.f97,q1,Ai]<;>rfl
theorem JSO{x:List Int}{e:Int}{c:Ob}{q:JC}:fin Aa [.tmp 4,.tmp 5] h.length (some (.ret,[(4,.v (.string (bs x))),(5,.v (.int .i64 e))],h++c::q))=some (.tup [.v (.string (bs x)),.v (.int .i64 e)],h):=by simp only[go_sem]<;>rfl
def Qs(x:Option (List Int)):V:=match x with
 |some t=> .tup [.v (.string (bs t)),.v (.int .i64 0)]
 |none=> .tup [.v (.string (bs [])),.v (.int .i64 1)]
theorem JKa{n m:Int}{p:Nat}(h:ZM n 1=some (m,p)):p=0:=by
 have hc:Go.Lib.ctz 64 1=0:=by decide
 unfold ZM at h;have e1:(1:Int).toNat=1:=rfl;have e2:(1:Int)/2^0=1:=rfl;have e3:fv 64 1=(0,1):=rfl;simp only[e1,hc,e2,e3]at h;simp[zk]at h;omega
end
section
variable{lo:Nat}{h:JC}
theorem JCj{b w:Bool}{m:Int}{p:Nat}(hw:w=true->p=0):
  G0 b w m p=if 18<(core (Qr m)).length then none else some ((if b=true then[45]else[])++j8 (zn m p) p w):=by
 unfold G0 j8 zn
 split
 ·rfl
 ·cases w with
  |true=>
   obtain rfl:=hw rfl;simp
   rw[B2 (by simp)]
  |false=>simp
theorem JHi{n d:Int}(hm:ko n d=true)(hd:d≠0):1<=d:=by
 unfold ko JGX at hm;simp only[A7,Af,beq_iff_eq,decide_eq_true_eq]at hm;rcases hm with⟨_,h⟩|⟨⟨h,_⟩,_⟩
 ·exact absurd h hd
 ·exact h
theorem JCk{n d m:Int}{p:Nat}(h0:0<=n)(h1:n<=9223372036854775808)(hd0:1<=d)(hd1:d<=9223372036854775807)(h:ZM n d=some (m,p)):0<=m/\m<=9223372036854775808/\p<=64:=by
 unfold ZM at h;simp only at h
 split at h
 ·have hA:Go.Lib.ctz 64 d.toNat<=64:=by
   have hlow:=Go.Lib.ctzFrom_spec 64 d.toNat om om;have hctz:Go.Lib.ctz 64 d.toNat=Go.Lib.ctzFrom 64 d.toNat:=by unfold Go.Lib.ctz;rw[if_neg om]
   rw[<-hctz]at hlow;obtain⟨_,_,h⟩:=hlow;omega
  have hB:=JSN 64 (d/2^Go.Lib.ctz 64 d.toNat);generalize Go.Lib.ctz 64 d.toNat=A at*;generalize (fv 64 (d/2^A)).1=B at*;generalize hM:max A B=M at*
  cases hu:zk 2 (M-A) n with
  |none=>rw[hu]at h;cases h
  |some r=>
   rw[hu,Dp]at h;obtain⟨r0,r1⟩:=JHh (x:=2) om om _ _ _ h0 h1 hu
   cases hv:zk 5 (M-B) r with
   |none=>rw[hv]at h;cases h
   |some s=>rw[hv]at h;simp only[A6,Option.some.injEq,Prod.mk.injEq]at h;obtain⟨s0,s1⟩:=JHh (x:=5) om om _ _ _ r0 r1 hv;omega
 ·cases h
theorem f97(hlo:lo<=h.length){n d:Int}{w:Bool}(h0: -9223372036854775808<=n)(h1:n<=9223372036854775807)(h2: -9223372036854775808<=d)(h3:d<=9223372036854775807):
  E lo 97 [.agg [.v (.int .i64 n),.v (.int .i64 d)],.v (.bool w)] h=some (Qs (Ji n d w),h):=by
 have k1:=λlo h hlo=>f120 (lo:=lo) (h:=h) h0 h1 h3 hlo
 have k1:=k1 lo (h++[.cells [.v (.int .i64 n),.v (.int .i64 d)]]) (by simp;omega)
 rw[e97]
 cases hm:ko n d with
 |false=>
  have e:Ji n d w=none:=by unfold Ji;rw[hm]<;>rfl
  rw[hm]at k1;rw[e]
  simp only[go_sem,HP,Tryz.f97,k1,hlo,Qs]<;>rfl
 |true=>
  cases hw:(w&&decide (1<d))with
  |true=>
   have e:Ji n d w=none:=by unfold Ji;rw[hm,hw]<;>rfl
   rw[hm]at k1;rw[Af]at hw;obtain⟨rfl,q⟩:=hw;rw[e]
   simp only[go_sem,HP,Tryz.f97,k1,hlo,Qs,q]<;>rfl
  |false=>
   by_cases hd:d=0
   ·have e:Ji n d w=some (if w=true then A0 20 57 else[49,101,57,57]):=by unfold Ji;rw[hm,hw,if_neg (by simp),if_pos hd]
    rw[hm]at k1;rw[e];subst hd
    cases w with
    |true=>
     have k2:=λlo h=>Jhw (lo:=lo) (h:=h) (c:=57) (n:=20) om om
     have q:((0:Int)==0)=true:=rfl;have q2:decide ((1:Int)<0)=false:=rfl
     simp only[go_sem,HP,Tryz.f97,k1,k2,hlo,Qs,q,q2]<;>rfl
    |false=>have q:((0:Int)==0)=true:=rfl;simp only[go_sem,HP,Tryz.f97,k1,hlo,Qs,q]<;>rfl
   ·have h1d:=JHi hm hd
    obtain⟨q,a1,a2,pa⟩:=Jo5 (lo:=lo) (h:=h) hlo h0 h1 h1d h3 hm hw
    have e:Ji n d w=match ZM n.natAbs d with
      |none=>none
      |some (m,p)=>G0 (decide (n<0)) w m p:=by unfold Ji;rw[hm,hw,if_neg (by simp),if_neg hd];cases ZM (n.natAbs:Int) d<;>rfl
    rw[e,pc_in,pc_go _ _ _ _ 0 9];unfold kv at pa;rw[pa]
    cases hp:ZM (n.natAbs:Int) d with
    |none=>
     simp only;rw[Zd]
     exact JSO (x:=[])
    |some mp=>
     obtain⟨m,p⟩:=mp;obtain⟨m0,m1,p1⟩:=JCk om om h1d h3 hp
     have hwp:w=true->p=0:=λhw1=>by
      subst hw1;have:d=1:=by simp at hw;omega
      subst this;exact JKa hp
     simp only;rw[JCj hwp,pc_go _ _ _ _ _ 3];have pb:=Jo6 (lo:=lo) (h:=h) hlo (n:=n) (d:=d) (m:=m) (a1:=a1) (a2:=a2) (w:=w) (p:=p) (q:=q) m0 m1 om;unfold kv at pb;rw[pb];by_cases hc:18<(core (Qr m)).length
     ·rw[if_pos hc,if_pos hc,Zd]
      exact JSO (x:=[])
     ·rw[if_neg hc,if_neg hc,pc_go _ _ _ _ _ 2]
      have pcc:=Jo7 (lo:=lo) (h:=h) (n:=n) (d:=d) (m:=m) (w:=w) (p:=p) (q:=q) m0 m1 om;unfold kv at pcc;rw[pcc,pc_go _ _ _ _ _ 2];obtain⟨l1,l2⟩:=JKZ (m:=m) (p:=p)
      obtain⟨g1,g2⟩:=G2 19 m m0 (by
                          have:(10:Int)^ (19+1)=100000000000000000000:=by decide
                          omega)
      obtain⟨e1,e2,x1,x2,pd⟩:=Jo8 (lo:=lo) (h:=h) (T:=zn m p) (n:=n) (d:=d) (w:=w) (b:=decide ((Qr m).length<=p)) (p:=p) (q:=q) l1 om;unfold kv at pd;rw[pd,pc_go _ _ _ _ _ 4]
      have pe:=Jo9 (lo:=lo) (h:=h) (T:=j8 (zn m p) p w) (n:=n) (d:=d) (q:=q) (e1:=e1) (e2:=e2) (by
       unfold j8
       split
       ·omega
       ·simp only[Ah,Ae,AM,Ay]
        split<;>simp<;>omega) x1 x2
      unfold kv at pe;rw[pe,Zd,JSO];simp only[decide_eq_true_eq];rfl
end
end Go.Lift.M1
end

section
namespace Go.Lift.Tok
open Utf
theorem JV4(d:List Int):(core d).length<=d.length:=by
 unfold core;have h:(d.reverse.dropWhile (· ==48)).length<=d.reverse.length:=(List.dropWhile_sublist _).length_le
 simp at h⊢;exact h
end Go.Lift.Tok
end

section
open Go.Proofs
namespace Go.Lift.M1
variable[MX][HasD]
open Utf Tok Spell
section
variable{lo:Nat}{h:JC}
noncomputable abbrev HX(lo N:Nat):Cx:=⟨Aa,E,lo,N,h80⟩
abbrev A40(w:Bool)(q0:Nat)(n d p:Int):Jj:=[(1,.v (.bool w)),(2,.ptr q0 0),(6,.v (.int .u64 n)),(7,.v (.int .u64 d)),(8,.v (.int .i64 p))]
abbrev JKb(P:JC):Option (Ex×Jj×JC):=some (.ret,[(4,.v (.string ⟨#[]⟩)),(5,.v (.int .i64 1))],P)
theorem JV5{w:Bool}{q0 N:Nat}{P:JC}:∀(k:Nat) (n d:Int) (p:Nat),1<=d->d<2^k->d<=9223372036854775807->0<=n->n<=9223372036854775808->p+k<=1000->
  JA (evCode (HX lo N) JA HN) (A40 w q0 n d p,P)=match refN k n d p with
   |some (m,p')=>some (.exit 0,A40 w q0 m 1 p'++[(35,.v (.bool false))],P)
   |none=>JKb P:=by
 intro k
 induction k with
 |zero=>intro n d p h1 h2 _ _ _ _;simp at h2;omega
 |succ k ih=>
  intro n d p h1 h2 h3 h4 h5 h6;rw[loop_eq];simp only[refN];have z2:¬((2:Int)=0):=om;have z5:¬((5:Int)=0):=om;have z10:¬((10:Int)=0):=om;by_cases hd:d<=1
  ·obtain rfl:d=1:=om
   have q:decide ((1:Int)<1)=false:=rfl;rw[if_pos hd];simp only[go_sem,HN,Gf,Tryz.f80,q]<;>rfl
  rw[if_neg hd];rw[Bc]at h2;have q:decide ((1:Int)<d)=true:=by simp;omega
  have t2:d.tmod 2=d%2:=BC om;have t5:d.tmod 5=d%5:=BC om;have t10:d.tmod 10=d%10:=BC om;have u2:d.tdiv 2=d/2:=BN om;have u5:d.tdiv 5=d/5:=BN om;have u10:d.tdiv 10=d/10:=BN om;have v2:AJ.wrap (d%2)=d%2:=Jc om om
  have v5:AJ.wrap (d%5)=d%5:=Jc om om;have v10:AJ.wrap (d%10)=d%10:=Jc om om;have x2:AJ.wrap (d/2)=d/2:=Jc om om;have x5:AJ.wrap (d/5)=d/5:=Jc om om;have x10:AJ.wrap (d/10)=d/10:=Jc om om;have w1:=JH (i:=p) om;by_cases hb:d%2≠0/\d%5≠0
  ·have q2:(d%2 !=0)=true:=by simp[hb.1]
   have q5:(d%5 !=0)=true:=by simp[hb.2]
   rw[if_pos hb];simp only[go_sem,HN,Gf,Tryz.f80,q,t2,t5,v2,v5,z2,z5,q2,q5]<;>rfl
  rw[if_neg hb];by_cases hx:d%10=0
  ·have q10:(d%10==0)=true:=by simp[hx]
   have q2:(d%2 !=0)=false:=by simp;omega
   rw[if_pos hx]
   have er:evCode (HX lo N) JA HN (A40 w q0 n d p,P)=some (.normal,A40 w q0 n (d/10) (p+1:Nat),P):=by simp only[go_sem,HN,Gf,Tryz.f80,q,t2,t5,t10,u10,v2,v5,v10,x10,z2,z5,z10,q2,q10,w1]<;>rfl
   rw[er,JK,ih n (d/10) (p+1) om om om h4 h5 om]
  rw[if_neg hx];have q10:(d%10==0)=false:=by simp[hx]
  unfold big;by_cases hf:d%5=0
  ·have q5:(d%5==0)=true:=by simp[hf]
   have q5n:(d%5 !=0)=false:=by simp[hf]
   have q2:(d%2 !=0)=true:=by simp;omega
   by_cases hn:1000000000000000000<=n
   ·have qn:decide (1000000000000000000<=n)=true:=by simp[hn]
    rw[if_pos hn];simp only[go_sem,HN,Gf,Tryz.f80,q,t2,t5,t10,u5,v2,v5,v10,x5,z2,z5,z10,q2,q5,q5n,q10,w1,qn]<;>rfl
   ·have qn:decide (1000000000000000000<=n)=false:=by simp;omega
    have wn:AJ.wrap (n*2)=n*2:=Jc om om;rw[if_neg hn,if_pos hf]
    have er:evCode (HX lo N) JA HN (A40 w q0 n d p,P)=some (.normal,A40 w q0 (n*2) (d/5) (p+1:Nat),P):=by simp only[go_sem,HN,Gf,Tryz.f80,q,t2,t5,t10,u5,v2,v5,v10,x5,z2,z5,z10,q2,q5,q5n,q10,w1,qn,wn]<;>rfl
    rw[er,JK,ih (n*2) (d/5) (p+1) om om om om om om]
  ·have q5:(d%5==0)=false:=by simp[hf]
   have q2:(d%2 !=0)=false:=by simp;omega
   by_cases hn:1000000000000000000<=n
   ·have qn:decide (1000000000000000000<=n)=true:=by simp[hn]
    rw[if_pos hn];simp only[go_sem,HN,Gf,Tryz.f80,q,t2,t5,t10,u2,v2,v5,v10,x2,z2,z5,z10,q2,q5,q10,w1,qn]<;>rfl
   ·have qn:decide (1000000000000000000<=n)=false:=by simp;omega
    have wn:AJ.wrap (n*5)=n*5:=Jc om om;rw[if_neg hn,if_neg hf]
    have er:evCode (HX lo N) JA HN (A40 w q0 n d p,P)=some (.normal,A40 w q0 (n*5) (d/2) (p+1:Nat),P):=by simp only[go_sem,HN,Gf,Tryz.f80,q,t2,t5,t10,u2,v2,v5,v10,x2,z2,z5,z10,q2,q5,q10,w1,qn,wn]<;>rfl
    rw[er,JK,ih (n*5) (d/2) (p+1) om om om om om om]
theorem JV6{w:Bool}{q0 N:Nat}{P:JC}{p:Int}{L:List Int}(hy:By L)(hl:L.length<=1000):∀(c:Nat),1<=c->c<=L.length->
  JA (evCode (HX lo N) JA JGR) ([(1,.v (.bool w)),(2,.ptr q0 0),(8,.v (.int .i64 p)),(10,.v (.string (bs L))),(11,.v (.int .i64 c))],P)=
   some (.exit 2,[(1,.v (.bool w)),(2,.ptr q0 0),(8,.v (.int .i64 p)),(10,.v (.string (bs L))),(11,.v (.int .i64 (max 1 (core (L.take c)).length:Nat))),(75,.v (.bool false))],P):=by
 intro c
 induction c with
 |zero=>intro h;omega
 |succ c ih=>
  intro h1 h2;have ht:L.take (c+1)=L.take c++[L[c]]:=List.take_succ_eq_append_getElem h2;have hc:L[c]? =some L[c]:=Ac h2
  have hle:=JV4 (L.take (c+1));rw[AM]at hle;have hi:=Kl hy c;rw[hc]at hi;rw[loop_eq];by_cases hc0:c=0
  ·subst hc0
   have q:decide ((1:Int)<((0+1:Nat):Int))=false:=rfl;have e:max 1 (core (L.take (0+1))).length=0+1:=om;rw[e];simp only[go_sem,JGR,Gf,Tryz.f80,q]<;>rfl
  have q:decide ((1:Int)<((c+1:Nat):Int))=true:=by simp;omega
  have w1:Aq.wrap (((c+1:Nat):Int)-1)=(c:Int):=by rw[JN om om];omega
  rw[ht,jZ];by_cases hx:L[c]=48
  ·have q2:(L[c]==48)=true:=by simp[hx]
   rw[if_pos hx]
   have er:evCode (HX lo N) JA JGR ([(1,.v (.bool w)),(2,.ptr q0 0),(8,.v (.int .i64 p)),(10,.v (.string (bs L))),(11,.v (.int .i64 (c+1:Nat)))],P)=some (.normal,[(1,.v (.bool w)),(2,.ptr q0 0),(8,.v (.int .i64 p)),(10,.v (.string (bs L))),(11,.v (.int .i64 c))],P):=by
    simp only[go_sem,JGR,Gf,Tryz.f80,q,w1,hi,q2]<;>rfl
   rw[er,JK,ih om om]
  ·have q2:(L[c]==48)=false:=by simp[hx]
   have e:max 1 (L.take c++[L[c]]).length=c+1:=by simp;omega
   rw[if_neg hx,e];simp only[go_sem,JGR,Gf,Tryz.f80,q,w1,hi,q2]<;>rfl
theorem JV7{w:Bool}{q0 N:Nat}{P:JC}{p:Nat}(hp:p<=1000):∀(m:Nat) (T:List Int) (v:V),p+1-T.length=m->T.length<=2000->
  JA (evCode (HX lo N) JA JKG) ([(1,.v (.bool w)),(2,.ptr q0 0),(8,.v (.int .i64 p)),(10,.v (.string (bs T))),(79,v)],P)=
   some (.exit 4,[(1,.v (.bool w)),(2,.ptr q0 0),(8,.v (.int .i64 p)),(10,.v (.string (bs (A0 m 48++T)))),(83,.v (.bool false))],P):=by
 intro m
 induction m with
 |zero=>
  intro T v h1 h2;have q:decide ((T.length:Int)<=(p:Int))=false:=by simp;omega
  have sz:=bs_size T;rw[loop_eq]
  simp only[go_sem,JKG,Gf,Tryz.f80,sz,q]<;>rfl
 |succ m ih=>
  intro T v h1 h2;have q:decide ((T.length:Int)<=(p:Int))=true:=by simp;omega
  have sz:=bs_size T;have z1:(bs [48]).size+(bs T).size<=9223372036854775807:=by rw[bs_size,bs_size];simp;omega
  rw[sz]at z1
  have er:evCode (HX lo N) JA JKG ([(1,.v (.bool w)),(2,.ptr q0 0),(8,.v (.int .i64 p)),(10,.v (.string (bs T))),(79,v)],P)=some (.normal,[(1,.v (.bool w)),(2,.ptr q0 0),(8,.v (.int .i64 p)),(10,.v (.string (bs ([48]++T)))),(79,.undef)],P):=by simp only[go_sem,JKG,Gf,Tryz.f80,sz,q,JKY,Jb,z1]<;>rfl
  rw[loop_eq,er,JK,ih ([48]++T) .undef (by simp;omega) (by simp;omega)]
  have e:A0 m 48++([48]++T)=A0 (m+1) 48++T:=by rw[LF,Ao]
  rw[e]
end
end Go.Lift.M1
end

section
open Go.Proofs
namespace Go.Lift.M1
variable[MX][HasD][HasN]
open Utf Tok Spell
section
variable{lo:Nat}{h:JC}
abbrev C2(n d:Int):Ob:= .cells [.v (.int .i64 n),.v (.int .i64 d)]
theorem JpA(hlo:lo<=h.length){n d:Int}{w:Bool}(h0: -9223372036854775808<=n)(h1:n<=9223372036854775807)(h2:1<=d)(h3:d<=9223372036854775807)(hm:ko n d=true)(hw:(w&&decide (1<d))=false):
  Wc (HX lo h.length) JA (pc Gf 0 7) (Ku [.agg [.v (.int .i64 n),.v (.int .i64 d)],.v (.bool w)],h)=match refN 64 n.natAbs d 0 with
   |some (m,k)=>some (.normal,A40 w h.length m 1 k++[(35,.v (.bool false))],h++[C2 n d])
   |none=>JKb (h++[C2 n d]):=by
 have k1:=λlo h hlo=>f108 (lo:=lo) (h:=h) h0 h1 h3 hlo
 rw[hm]at k1;have k1:=k1 lo (h++[C2 n d]) (by simp;omega)
 have k3:=λlo h=>f109 (lo:=lo) (h:=h) h0 h1
 have wd:AJ.wrap d=d:=Jc om om;have qd:(d==0)=false:=by simp;omega
 have h64:(2:Int)^64=18446744073709551616:=by decide
 have hL:=JV5 (lo:=lo) (w:=w) (q0:=h.length) (N:=h.length) (P:=h++[C2 n d]) 64 n.natAbs d 0 h2 om h3 om om om;have n0:((0:Nat):Int)=0:=rfl;simp only[HN,Gf,Tryz.f80,JD,JT,JB,go_sem,n0]at hL
 cases hr:refN 64 n.natAbs d 0 with
 |none=>
  rw[hr]at hL
  cases w with
  |true=>
   have q1:decide (1<d)=false:=by simpa using hw
   simp only[go_sem,Gf,Tryz.f80,k1,k3,wd,qd,q1,hL,hlo]<;>rfl
  |false=>simp only[go_sem,Gf,Tryz.f80,k1,k3,wd,qd,hL,hlo]<;>rfl
 |some mp=>
  obtain⟨m,p⟩:=mp;rw[hr]at hL
  cases w with
  |true=>
   have q1:decide (1<d)=false:=by simpa using hw
   simp only[go_sem,Gf,Tryz.f80,k1,k3,wd,qd,q1,hL,hlo]<;>rfl
  |false=>simp only[go_sem,Gf,Tryz.f80,k1,k3,wd,qd,hL,hlo]<;>rfl
theorem JpB{n d m:Int}{w:Bool}{p:Nat}(h0:0<=m)(h1:m<=9223372036854775808)(hp:p<=1000):
  Wc (HX lo h.length) JA (pc Gf 7 5) (A40 w h.length m 1 p++[(35,.v (.bool false))],h++[C2 n d])=
   if 18<(core (Qr m)).length then JKb (h++[C2 n d])
   else some (.normal,[(1,.v (.bool w)),(2,.ptr h.length 0),(8,.v (.int .i64 p)),(10,.v (.string (bs (Qr m)))),(79,.v (.bool false))],h++[C2 n d]):=by
 have k1:=λlo h=>Jo3 (lo:=lo) (h:=h) h0 (x:=m) om
 obtain⟨l1,l2⟩:=G2 19 m h0 (by
                     have:(10:Int)^ (19+1)=100000000000000000000:=by decide
                     omega)
 have sz:=bs_size (Qr m);have hL:=JV6 (lo:=lo) (w:=w) (q0:=h.length) (N:=h.length) (P:=h++[C2 n d]) (p:=p) (JMd m) om (Qr m).length l1 (Ab _);rw[BD]at hL;simp only[JGR,Gf,Tryz.f80,JD,JT,JB,go_sem]at hL;by_cases hc:18<(core (Qr m)).length
 ·have q1:decide (18<((max 1 (core (Qr m)).length:Nat):Int))=true:=by simp;omega
  rw[if_pos hc];simp only[go_sem,Gf,Tryz.f80,k1,sz,hL,q1]<;>rfl
 ·have q1:decide (18<((max 1 (core (Qr m)).length:Nat):Int))=false:=by simp;omega
  rw[if_neg hc];simp only[go_sem,Gf,Tryz.f80,k1,sz,hL,q1]<;>rfl
theorem JpC{n d m:Int}{w:Bool}{p:Nat}(h0:0<=m)(h1:m<=9223372036854775808)(hp:p<=1000):
  Wc (HX lo h.length) JA (pc Gf 12 1) ([(1,.v (.bool w)),(2,.ptr h.length 0),(8,.v (.int .i64 p)),(10,.v (.string (bs (Qr m)))),(79,.v (.bool false))],h++[C2 n d])=
   some (.normal,[(1,.v (.bool w)),(2,.ptr h.length 0),(8,.v (.int .i64 p)),(10,.v (.string (bs (zn m p)))),(83,.v (.bool false))],h++[C2 n d]):=by
 obtain⟨l1,l2⟩:=G2 19 m h0 (by
                     have:(10:Int)^ (19+1)=100000000000000000000:=by decide
                     omega)
 have hL:=JV7 (lo:=lo) (w:=w) (q0:=h.length) (N:=h.length) (P:=h++[C2 n d]) hp (p+1-(Qr m).length) (Qr m) (.v (.bool false)) rfl om;simp only[JKG,Gf,Tryz.f80,JD,JT,JB,go_sem]at hL;unfold zn;simp only[go_sem,Gf,Tryz.f80,hL]<;>rfl
theorem JpD{T:List Int}{n d:Int}{w:Bool}{p:Nat}(hp:p+1<=T.length)(hl:T.length<=1000000)(hw:w=true->p=0):
  ∃e1 e2:Jj,(e1=[]\/ ∃v u,e1=[(8,v),(10,u)])/\(e2=[]\/(∃v,e2=[(93,v)])\/ ∃v,e2=[(97,v)])/\
  Wc (HX lo h.length) JA (pc Gf 13 3) ([(1,.v (.bool w)),(2,.ptr h.length 0),(8,.v (.int .i64 p)),(10,.v (.string (bs T))),(83,.v (.bool false))],h++[C2 n d])=
   some (.normal,(2,.ptr h.length 0)::(e1++(12,.v (.string (bs (j8 T p w))))::e2),h++[C2 n d]):=by
 unfold j8;have sz:=bs_size T;have w1:Aq.wrap ((T.length:Int)-(p:Int))=((T.length-p:Nat):Int):=by rw[JN om om];omega
 have b1:T.length-p<=T.length:=om;have e1:(T.take T.length).drop (T.length-p)=T.drop (T.length-p):=by rw[BD]
 have e0:(T.take (T.length-p)).drop 0=T.take (T.length-p):=rfl;have zz:∀a b:List Int,a.length+b.length<=2000000000->(bs a).size+(bs b).size<=9223372036854775807:=λa b h=>by rw[bs_size,bs_size];omega
 have z0:0<=T.length-p:=A9 _
 cases w with
 |true=>
  obtain rfl:=hw rfl;have e2:T.take (T.length-0)=T:=by simp
  rw[e2]at e0;have w2:Aq.wrap ((T.length:Int)-0)=(T.length:Int):=by rw[JN om om];omega
  have e3:T.take T.length=T:=BD;have z9:0<=T.length:=A9 _;have n0:((0:Nat):Int)=0:=rfl;have e4:T.drop 0=T:=rfl;refine⟨[(8,.v (.int .i64 0)),(10,.v (.string (bs T)))],[(93,.v (.bool false))],.inr ⟨_,_,rfl⟩,.inr (.inl ⟨_,rfl⟩),?_⟩
  simp only[go_sem,Gf,Tryz.f80,sz,n0,w2,KN,e0,e3,e4,z9,Ab,if_true]<;>rfl
 |false=>
  have z1:=zz (T.take (T.length-p)) [46] (by simp;omega)
  by_cases hp0:p=0
  ·have q0:((p:Int)==0)=true:=by simp[hp0]
   have z2:=zz (T.take (T.length-p)++[46]) [48] (by simp;omega)
   have z3:=zz (T.take (T.length-p)++[46]++[48]) (T.drop (T.length-p)) (by simp;omega)
   have ed:T.drop (T.length-p)=[]:=by rw[hp0];simp
   rw[Ao,A1,ed]at z3;rw[if_pos hp0];refine⟨[(8,.v (.int .i64 p)),(10,.v (.string (bs T)))],[(93,.undef)],.inr ⟨_,_,rfl⟩,.inr (.inl ⟨_,rfl⟩),?_⟩
   simp only[go_sem,Gf,Tryz.f80,sz,w1,b1,KN,e0,e1,JNn,JKY,Jb,q0,z0,z1,z2,z3,Ab,Ao,ed]<;>rfl
  ·have q0:((p:Int)==0)=false:=by simp;omega
   have z2:=zz (T.take (T.length-p)++[46]) (T.drop (T.length-p)) (by simp;omega)
   rw[if_neg hp0];refine⟨[(8,.v (.int .i64 p)),(10,.v (.string (bs T)))],[(93,.undef)],.inr ⟨_,_,rfl⟩,.inr (.inl ⟨_,rfl⟩),?_⟩
   simp only[go_sem,Gf,Tryz.f80,sz,w1,b1,KN,e0,e1,JNn,JKY,Jb,q0,z0,z1,z2,Ab,Ao]<;>rfl
theorem JpG{T:List Int}{n d:Int}{e1 e2:Jj}(hl:T.length<=2000000)(he:e1=[]\/ ∃v u,e1=[(8,v),(10,u)])(ht:e2=[]\/(∃v,e2=[(93,v)])\/ ∃v,e2=[(97,v)]):
  Wc (HX lo h.length) JA (pc Gf 16 4) ((2,.ptr h.length 0)::(e1++(12,.v (.string (bs T)))::e2),h++[C2 n d])=
   some (.ret,[(4,.v (.string (bs ((if n<0 then[45]else[])++T)))),(5,.v (.int .i64 0))],h++[C2 n d]):=by
 have z1:(bs [45]).size+(bs T).size<=9223372036854775807:=by rw[bs_size,bs_size];simp;omega
 by_cases hn:n<0
 ·have q1:decide (n<0)=true:=by simp[hn]
  rw[if_pos hn];rcases he with rfl|⟨v,u,rfl⟩<;>rcases ht with rfl|⟨v2,rfl⟩|⟨v2,rfl⟩<;>
  simp only[go_sem,Gf,Tryz.f80,q1,JX0,Jb,z1]<;>rfl
 ·have q1:decide (n<0)=false:=by simp;omega
  rw[if_neg hn];rcases he with rfl|⟨v,u,rfl⟩<;>rcases ht with rfl|⟨v2,rfl⟩|⟨v2,rfl⟩<;>
  simp only[go_sem,Gf,Tryz.f80,q1,Ai]<;>rfl
theorem JV8{n d:Int}(hm:ko n d=true)(hd:d≠0):∀x,(x=2\/x=5)->d%x=0->(n.natAbs:Int)%x≠0:=by
 unfold ko JGX at hm;simp only[A7,Af,beq_iff_eq,decide_eq_true_eq]at hm;rcases hm with⟨_,h⟩|⟨⟨h1,_⟩,hg⟩
 ·exact absurd h hd
 ·intro x hx h2 h3
  rcases hx with rfl|rfl
  ·have e1:2∣n.natAbs:=Dh om
   have e2:2∣d.toNat:=Dh om;have:=Nat.dvd_gcd e1 e2;rw[hg]at this;have:=Nat.le_of_dvd om this;omega
  ·have e1:5∣n.natAbs:=Dh om
   have e2:5∣d.toNat:=Dh om;have:=Nat.dvd_gcd e1 e2;rw[hg]at this;have:=Nat.le_of_dvd om this;omega
theorem JSP{x:List Int}{e:Int}{c:Ob}:fin Aa [.tmp 4,.tmp 5] h.length (some (.ret,[(4,.v (.string (bs x))),(5,.v (.int .i64 e))],h++[c]))=some (.tup [.v (.string (bs x)),.v (.int .i64 e)],h):=by simp only[go_sem]<;>rfl
theorem f80(hlo:lo<=h.length){n d:Int}{w:Bool}(h0: -9223372036854775808<=n)(h1:n<=9223372036854775807)(h2: -9223372036854775808<=d)(h3:d<=9223372036854775807):
  E lo 80 [.agg [.v (.int .i64 n),.v (.int .i64 d)],.v (.bool w)] h=some (Qs (Ji n d w),h):=by
 have k1:=λlo h hlo=>f108 (lo:=lo) (h:=h) h0 h1 h3 hlo
 have k1:=k1 lo (h++[.cells [.v (.int .i64 n),.v (.int .i64 d)]]) (by simp;omega)
 rw[e80]
 cases hm:ko n d with
 |false=>
  have e:Ji n d w=none:=by unfold Ji;rw[hm]<;>rfl
  rw[hm]at k1;rw[e]
  simp only[go_sem,Gf,Tryz.f80,k1,hlo,Qs]<;>rfl
 |true=>
  cases hw:(w&&decide (1<d))with
  |true=>
   have e:Ji n d w=none:=by unfold Ji;rw[hm,hw]<;>rfl
   rw[hm]at k1;rw[Af]at hw;obtain⟨rfl,q⟩:=hw;rw[e]
   simp only[go_sem,Gf,Tryz.f80,k1,hlo,Qs,q]<;>rfl
  |false=>
   by_cases hd:d=0
   ·have e:Ji n d w=some (if w=true then A0 20 57 else[49,101,57,57]):=by unfold Ji;rw[hm,hw,if_neg (by simp),if_pos hd]
    rw[hm]at k1;rw[e];subst hd
    cases w with
    |true=>
     have q:((0:Int)==0)=true:=rfl;have q2:decide ((1:Int)<0)=false:=rfl
     simp only[go_sem,Gf,Tryz.f80,k1,hlo,Qs,q,q2]<;>rfl
    |false=>have q:((0:Int)==0)=true:=rfl;simp only[go_sem,Gf,Tryz.f80,k1,hlo,Qs,q]<;>rfl
   ·have h1d:=JHi hm hd
    have pa:=JpA (lo:=lo) (h:=h) hlo h0 h1 h1d h3 hm hw
    have e:Ji n d w=match ZM n.natAbs d with
      |none=>none
      |some (m,p)=>G0 (decide (n<0)) w m p:=by unfold Ji;rw[hm,hw,if_neg (by simp),if_neg hd];cases ZM (n.natAbs:Int) d<;>rfl
    rw[JMa h1d om (JV8 hm hd)]at pa;rw[e,pc_in,pc_go _ _ _ _ 0 7];unfold HX at pa;rw[pa]
    cases hp:ZM (n.natAbs:Int) d with
    |none=>
     simp only;unfold JKb;rw[Zd]
     exact JSP (x:=[])
    |some mp=>
     obtain⟨m,p⟩:=mp;obtain⟨m0,m1,p1⟩:=JCk om om h1d h3 hp
     have hwp:w=true->p=0:=λhw1=>by
      subst hw1;have:d=1:=by simp at hw;omega
      subst this;exact JKa hp
     simp only;rw[JCj hwp,pc_go _ _ _ _ _ 5];have pb:=JpB (lo:=lo) (h:=h) (n:=n) (d:=d) (m:=m) (w:=w) (p:=p) m0 m1 om;unfold HX at pb;rw[pb];by_cases hc:18<(core (Qr m)).length
     ·rw[if_pos hc,if_pos hc]
      unfold JKb;rw[Zd];exact JSP (x:=[])
     ·rw[if_neg hc,if_neg hc,pc_go _ _ _ _ _ 1]
      have pcc:=JpC (lo:=lo) (h:=h) (n:=n) (d:=d) (m:=m) (w:=w) (p:=p) m0 m1 om;unfold HX at pcc;rw[pcc,pc_go _ _ _ _ _ 3];obtain⟨l1,l2⟩:=JKZ (m:=m) (p:=p)
      obtain⟨g1,g2⟩:=G2 19 m m0 (by
                          have:(10:Int)^ (19+1)=100000000000000000000:=by decide
                          omega)
      obtain⟨e1,e2,x1,x2,pd⟩:=JpD (lo:=lo) (h:=h) (T:=zn m p) (n:=n) (d:=d) (w:=w) (p:=p) l1 om hwp;unfold HX at pd;rw[pd,pc_go _ _ _ _ _ 4]
      have pe:=JpG (lo:=lo) (h:=h) (T:=j8 (zn m p) p w) (n:=n) (d:=d) (e1:=e1) (e2:=e2) (by
       unfold j8
       split
       ·omega
       ·simp only[Ah,Ae,AM,Ay]
        split<;>simp<;>omega) x1 x2
      unfold HX at pe;rw[pe,Zd,JSP];simp only[decide_eq_true_eq];rfl
end
end Go.Lift.M1
end

section
open Go.Proofs
namespace Go.Lift.M1
variable[MX]
open Utf
theorem JMe(y:Int)(k:Nat):y.fdiv (2^min k 32)=y/2^min k 32:=by rw[CZ];exact Int.le_of_lt (Lt om)
def isc(x:Int):Bool:=decide (0<=x)&&decide (x<=1114111)&&(decide (x<55296)||decide (57343<x))
theorem yZ(x:Int):(if(!isc x)=true then 65533 else x)=JQ x:=by unfold isc JQ;by_cases a:x<0<;>by_cases b:1114111<x<;>by_cases c:55296<=x<;>by_cases d:x<=57343<;>simp[a,b,c,d]<;>omega
theorem f53{lo:Nat}{x:Int}{h:JC}:E lo 53 [.v (.int .i32 x)] h=some (.v (.bool (isc x)),h):=by rw[e53];simp only[go_sem,b53,Tryz.f53,isc]
theorem JPj(y:Int)(h0:0<=y)(h1:y<=1114111)(out:List Int):
  (
   if decide (y<128)=true then ri .u8 out++[[V.v (.int .u8 (AO.wrap y))]]
   else if decide (y<2048)=true then ri .u8 out++[[V.v (.int .u8 (AO.wrap (AF.wrap ↑(Au 32 192|||Au 32 (y.fdiv (2^min 6 32))).toNat)))],
    [V.v (.int .u8 (AO.wrap (AF.wrap ↑(Au 32 128|||Au 32 (AF.wrap ↑(Au 32 y&&&Au 32 63).toNat)).toNat)))]]
   else if decide (y<65536)=true then ri .u8 out++[[V.v (.int .u8 (AO.wrap (AF.wrap ↑(Au 32 224|||Au 32 (y.fdiv (2^min 12 32))).toNat)))],
    [V.v (.int .u8 (AO.wrap (AF.wrap ↑(Au 32 128|||Au 32 (AF.wrap ↑(Au 32 (y.fdiv (2^min 6 32))&&&Au 32 63).toNat)).toNat)))],
    [V.v (.int .u8 (AO.wrap (AF.wrap ↑(Au 32 128|||Au 32 (AF.wrap ↑(Au 32 y&&&Au 32 63).toNat)).toNat)))]]
   else ri .u8 out++[[V.v (.int .u8 (AO.wrap (AF.wrap ↑(Au 32 240|||Au 32 (y.fdiv (2^min 18 32))).toNat)))],
    [V.v (.int .u8 (AO.wrap (AF.wrap ↑(Au 32 128|||Au 32 (AF.wrap ↑(Au 32 (y.fdiv (2^min 12 32))&&&Au 32 63).toNat)).toNat)))],
    [V.v (.int .u8 (AO.wrap (AF.wrap ↑(Au 32 128|||Au 32 (AF.wrap ↑(Au 32 (y.fdiv (2^min 6 32))&&&Au 32 63).toNat)).toNat)))],
    [V.v (.int .u8 (AO.wrap (AF.wrap ↑(Au 32 128|||Au 32 (AF.wrap ↑(Au 32 y&&&Au 32 63).toNat)).toNat)))]])
  =ri .u8 (out++enc y):=by
 have lo6:∀z:Int,0<=z->z<=1114111->AO.wrap (AF.wrap ↑(Au 32 128|||Au 32 (AF.wrap ↑(Au 32 z&&&Au 32 63).toNat)).toNat)=128+z%64:=by intro z z0 z1;rw[and63 z0 om,wrap_i32 (n:=z%64) om om,Utf.o32 (n:=64) om om om,wrap_i32 om om,QC om om]
 have e6:y.fdiv (2^min 6 32)=y/64:=JMe y 6;have e3:y.fdiv (2^min 12 32)=y/4096:=JMe y 12;have e18:y.fdiv (2^min 18 32)=y/262144:=JMe y 18;rw[e6,e3,e18,lo6 y h0 h1,lo6 (y/64) om om,lo6 (y/4096) om om,<-ri_app];unfold enc;by_cases c1:y<128
 ·simp only[c1,decide_true,if_true,Zn,Ko]
  rw[QC om om]
 ·by_cases c2:y<2048
  ·simp only[c1,c2,decide_true,decide_false,if_true,if_false,Zn,Ko,Am]
   rw[Utf.o32 (n:=32) om om om,wrap_i32 om om,QC om om]
  ·by_cases c3:y<65536
   ·simp only[c1,c2,c3,decide_true,decide_false,if_true,if_false,Zn,Ko,Am]
    rw[Utf.o32 (n:=16) om om om,wrap_i32 om om,QC om om]
   ·simp only[c1,c2,c3,decide_true,decide_false,if_true,if_false,Zn,Ko,Am]
    rw[Utf.o32 (n:=8) om om om,wrap_i32 om om,QC om om]
theorem JV9{lo:Nat}{l out:List Int}{h:JC}{i:Nat}{x:Int}(hx:l[i]? =some x)(hi:i<l.length)(hl:l.length<=35184372088832)(ho:out.length<=140737488355324):
  evCode ⟨Aa,E,lo,h.length,h94⟩ JA JKJ ([(3,.list .yes (ri .u8 out)),(6,.list .no (ri .i32 l)),(7,.v (.int .i64 l.length)),(8,.v (.int .i64 i))],h)=
   some (.normal,[(3,.list .yes (ri .u8 (out++enc (JQ x)))),(6,.list .no (ri .i32 l)),(7,.v (.int .i64 l.length)),(8,.v (.int .i64 (i+1:Nat)))],h):=by
 have hd:decide ((i:Int)<l.length)=true:=by simpa using hi
 have hr:∀k,k<=4->(out.length+k)*1<=140737488355328:=by intro k hk;omega
 have hq:∀k,9223372036854775800<=k->out.length<=k:=by intro k hk;omega
 have hw:=JH (i:=i) om;have hs:=yZ x;simp only[go_sem,JKJ,b94,Tryz.f94,hd,hx,hr,hq,hw,f53,hs];have hy:=KO x;exact congrArg (λr=>(Ex.normal,(([(3,V.list .yes r),(6,V.list .no (ri .i32 l)),(7,.v (.int .i64 l.length)),(8,.v (.int .i64 (i+1:Nat)))]:Jj),h))) (JPj (JQ x) hy.1 hy.2 out)
theorem JbR{lo:Nat}{l:List Int}{h:JC}(hl:l.length<=35184372088832):∀(n i:Nat) (out:List Int),n=l.length-i->i<=l.length->out.length<=4*i->
  JA (evCode ⟨Aa,E,lo,h.length,h94⟩ JA JKJ) ([(3,.list .yes (ri .u8 out)),(6,.list .no (ri .i32 l)),(7,.v (.int .i64 l.length)),(8,.v (.int .i64 i))],h)=
   some (.exit 0,[(3,.list .yes (ri .u8 (out++(l.drop i).flatMap λx=>enc (JQ x)))),(6,.list .no (ri .i32 l)),(7,.v (.int .i64 l.length)),(8,.v (.int .i64 l.length)),(9,.v (.bool false))],h):=by
 intro n
 induction n with
 |zero=>
  intro i out hn hi ho;obtain rfl:i=l.length:=om;rw[loop_eq];have hd:decide ((l.length:Int)<l.length)=false:=by simp
  simp only[go_sem,JKJ,b94,Tryz.f94,hd,List.drop_length,List.flatMap_nil]
 |succ n ih=>
  intro i out hn hi ho;have hlt:i<l.length:=om;have hx:l[i]? =some l[i]:=Ac hlt
  have he:(enc (JQ l[i])).length<=4:=by
   unfold enc
   split
   ·simp
   ·split
    ·simp
    ·split<;>simp
  rw[loop_eq,JV9 hx hlt hl om,JK,ih (i+1) _ om om (by rw[Ah];omega),AD hlt,List.flatMap_cons,Ao]
theorem f94{lo:Nat}{l:List Int}{h:JC}(hl:l.length<=35184372088832):
  E lo 94 [.list .no (ri .i32 l)] h=some (.list .no (ri .u8 (l.flatMap λx=>enc (JQ x))),h):=by
 rw[e94];have hL:=JbR (lo:=lo) (h:=h) hl _ 0 [] rfl om (by simp)
 simp only[JKJ,b94,Tryz.f94,JD,JT,JB,go_sem,List.drop_zero,Ko]at hL;simp only[go_sem,b94,Tryz.f94,hL]
theorem JWA{lo:Nat}{b:List Int}{h:JC}{i n:Nat}{r low high c:Int}(hc:b[i+1]? =some c)(hi:i<n)(hn:n<=3)(hb:b.length<=140737488355328)(hl:i+1<b.length)
  (c0:0<=c)(c1:c<=255)(r0:0<=r)(r1:r<=1000000)(hx:(decide (c<low)||decide (high<c))=false):
  evCode ⟨Aa,E,lo,h.length,h98⟩ JA ZH ([(0,.list .no (ri .u8 b)),(5,.v (.int .u8 low)),(6,.v (.int .u8 high)),(7,.v (.int .i64 n)),(8,.v (.int .i32 r)),(58,.v (.int .i64 n)),(59,.v (.int .i64 i))],h)=
   some (.normal,[(0,.list .no (ri .u8 b)),(5,.v (.int .u8 128)),(6,.v (.int .u8 191)),(7,.v (.int .i64 n)),(8,.v (.int .i32 (r*64+c%64))),(58,.v (.int .i64 n)),(59,.v (.int .i64 (i+1:Nat)))],h):=by
 have hd:decide ((i:Int)<n)=true:=by simpa using hi
 have hw:=JH (i:=i) om;have hg:decide ((b.length:Int)<=(i+1:Nat))=false:=by simp;omega
 have hx1:decide (c<low)=false:=by simp at hx;simp;omega
 have hx2:decide (high<c)=false:=by simp at hx;simp;omega
 simp only[go_sem,ZH,qY,Tryz.f98,hd,hc,hw,hg,hx1,hx2];rw[Jfp r0 r1,a63 c0 c1,QC om om,wrap_i32 (n:=c%64) om om,Jfo r0 r1 om om,wrap_i32 om om]
theorem JSQ{lo:Nat}{b:List Int}{h:JC}{i n:Nat}{r low high:Int}(hi:i<n)(hn:n<=3)(hb:b.length<=140737488355328)
  (hs:b.length<=i+1\/ ∃c,b[i+1]? =some c/\i+1<b.length/\(c<low\/high<c)):
  evCode ⟨Aa,E,lo,h.length,h98⟩ JA ZH ([(0,.list .no (ri .u8 b)),(5,.v (.int .u8 low)),(6,.v (.int .u8 high)),(7,.v (.int .i64 n)),(8,.v (.int .i32 r)),(58,.v (.int .i64 n)),(59,.v (.int .i64 i))],h)=
   some (.ret,[(2,.v (.int .i32 65533)),(3,.v (.int .i64 (i+1:Nat)))],h):=by
 have hd:decide ((i:Int)<n)=true:=by simpa using hi
 have hw:=JH (i:=i) om;rcases hs with hs|⟨c,hc,hl,hs⟩
 ·have hg:decide ((b.length:Int)<=(i+1:Nat))=true:=by simp;omega
  have hc:b[i+1]? =none:=Bv hs
  simp only[go_sem,ZH,qY,Tryz.f98,hd,hw,hg,hc]
 ·have hg:decide ((b.length:Int)<=(i+1:Nat))=false:=by simp;omega
  by_cases h1:c<low
  ·have hx1:decide (c<low)=true:=by simp;omega
   simp only[go_sem,ZH,qY,Tryz.f98,hd,hc,hw,hg,hx1]
  ·have hx1:decide (c<low)=false:=by simp;omega
   have hx2:decide (high<c)=true:=by simp;omega
   simp only[go_sem,ZH,qY,Tryz.f98,hd,hc,hw,hg,hx1,hx2]
def H8(b:List Int)(n:Nat)(x:Int×Nat×Bool)(h:JC)(z:Ex×St):Prop:=
 if x.2.2=true then∃low high,z=(.exit 3,[(0,.list .no (ri .u8 b)),(5,.v (.int .u8 low)),(6,.v (.int .u8 high)),(7,.v (.int .i64 n)),(8,.v (.int .i32 x.1)),(58,.v (.int .i64 n)),(59,.v (.int .i64 n)),(60,.v (.bool false))],h)
 else z=(.ret,[(2,.v (.int .i32 x.1)),(3,.v (.int .i64 x.2.1))],h)
theorem We:∀(n:Nat) (r lo hi:Int) (k:Nat) (t:List Int),(more n r lo hi k t).2.2=true->(more n r lo hi k t).2.1=k+n
 |0,_,_,_,_,_,_=>rfl
 |n+1,r,lo,hi,k,[],h=>by simp[more]at h
 |n+1,r,lo,hi,k,c::t,h=>by
  unfold more at h⊢
  split at h
  ·simp at h
  ·rename_i hc
   rw[if_neg hc,We n _ _ _ _ _ h];omega
theorem kw{lo:Nat}{b:List Int}{h:JC}{n:Nat}(hn:n<=3)(hb:b.length<=140737488355328)(hy:By b):∀(m i:Nat) (r low high:Int),m=n-i->i<=n->0<=r->(r+1)*64^m<=64000000->
  ∃z,JA (evCode ⟨Aa,E,lo,h.length,h98⟩ JA ZH) ([(0,.list .no (ri .u8 b)),(5,.v (.int .u8 low)),(6,.v (.int .u8 high)),(7,.v (.int .i64 n)),(8,.v (.int .i32 r)),(58,.v (.int .i64 n)),(59,.v (.int .i64 i))],h)=some z
   /\H8 b n (more m r low high (i+1) (b.drop (i+1))) h z:=by
 intro m
 induction m with
 |zero=>
  intro i r low high hm hi h0 h1;obtain rfl:i=n:=om;have hd:decide ((i:Int)<i)=false:=by simp
  rw[loop_eq];simp only[go_sem,ZH,qY,Tryz.f98,hd]
  exact⟨_,rfl,low,high,rfl⟩
 |succ m ih=>
  intro i r low high hm hi h0 h1;have hlt:i<n:=om;rw[loop_eq];by_cases hl:i+1<b.length
  ·have hc:b[i+1]? =some b[i+1]:=Ac hl
   have hcy:=hy b[i+1] (Ba hl);rw[AD hl];by_cases hx:b[i+1]<low\/high<b[i+1]
   ·rw[JSQ hlt hn hb (.inr ⟨_,hc,hl,hx⟩),QY]
    exact⟨_,rfl,by simp only[more,if_pos hx];rfl⟩
   ·rw[Bc]at h1
    have hp:(1:Int)<=64^m:=Lt om;have hr:(r+1)*64*64^m=(r+1)*(64^m*64):=by rw[B0,Cg 64]
    have h2:(r+1)*64*1<=(r+1)*64*64^m:=Ct hp om;have h3:(r*64+b[i+1]%64+1)*64^m<=(r+1)*64*64^m:=Dg om om;rw[JWA hc hlt hn hb hl hcy.1 hcy.2 h0 om (by simp;omega),JK]
    have:=ih (i+1) (r*64+b[i+1]%64) 128 191 om om om om;simpa only[more,if_neg hx]using this
  ·have hs:b.length<=i+1:=om
   rw[JSQ hlt hn hb (.inl hs),QY,Bo hs];exact⟨_,rfl,rfl⟩
def two(x:Int×Nat×Bool):V:= .tup [.v (.int .i32 x.1),.v (.int .i64 x.2.1)]
theorem JpH{lo:Nat}{c:Int}{t:List Int}{h:JC}(hb:(c::t).length<=140737488355328)(hy:By (c::t))(hc:194<=c/\c<=223):
  E lo 98 [.list .no (ri .u8 (c::t))] h=some (two (more 1 (c%32) 128 191 1 t),h):=by
 have hcy:=hy c (Bz ..);have t0:decide (c<128)=false:=by simp;omega
 have t1:decide (194<=c)=true:=by simp;omega
 have t2:decide (c<=223)=true:=by simp;omega
 have t3:decide (224<=c)=false:=by simp;omega
 have t4:decide (c<=239)=true:=by simp;omega
 have t5:decide (240<=c)=false:=by simp;omega
 have t6:decide (c<=244)=true:=by simp;omega
 have q0:(c==224)=false:=by simp;omega
 have q1:(c==237)=false:=by simp;omega
 have q2:(c==240)=false:=by simp;omega
 have q3:(c==244)=false:=by simp;omega
 have hx:(c::t)[0]? =some c:=rfl;have hm:AF.wrap (AO.wrap (YH .u8 c 31))=c%32:=by rw[a31 hcy.1 hcy.2,QC om om,wrap_i32 om om]
 obtain⟨z,hL,hz⟩:=kw (lo:=lo) (b:=c::t) (h:=h) (n:=1) om hb hy 1 0 (c%32) 128 191 rfl om om om;have hn:(c::t).drop (0+1)=t:=rfl;rw[hn]at hz;have n1:((1:Nat):Int)=1:=rfl;have n2:((2:Nat):Int)=2:=rfl;have n3:((3:Nat):Int)=3:=rfl;simp only[ZH,qY,Tryz.f98,JD,JT,JB,go_sem,n1,n2,n3]at hL;rw[e98];unfold H8 at hz
 split at hz
 ·rename_i hk
  obtain⟨low,high,rfl⟩:=hz;simp only[n1,n2,n3]at hL;simp only[go_sem,qY,Tryz.f98,hx,t0,t1,t2,t3,t4,t5,t6,q0,q1,q2,q3,hm,hL];rw[two,We _ _ _ _ _ _ hk]<;>rfl
 ·subst hz
  simp only[go_sem,qY,Tryz.f98,hx,t0,t1,t2,t3,t4,t5,t6,q0,q1,q2,q3,hm,hL];rfl
theorem JpJ{lo:Nat}{c:Int}{t:List Int}{h:JC}(hb:(c::t).length<=140737488355328)(hy:By (c::t))(hc:c=224):
  E lo 98 [.list .no (ri .u8 (c::t))] h=some (two (more 2 (c%16) 160 191 1 t),h):=by
 have hcy:=hy c (Bz ..);have t0:decide (c<128)=false:=by simp;omega
 have t1:decide (194<=c)=true:=by simp;omega
 have t2:decide (c<=223)=false:=by simp;omega
 have t3:decide (224<=c)=true:=by simp;omega
 have t4:decide (c<=239)=true:=by simp;omega
 have t5:decide (240<=c)=false:=by simp;omega
 have t6:decide (c<=244)=true:=by simp;omega
 have q0:(c==224)=true:=by simp;omega
 have q1:(c==237)=false:=by simp;omega
 have q2:(c==240)=false:=by simp;omega
 have q3:(c==244)=false:=by simp;omega
 have hx:(c::t)[0]? =some c:=rfl;have hm:AF.wrap (AO.wrap (YH .u8 c 15))=c%16:=by rw[a15 hcy.1 hcy.2,QC om om,wrap_i32 om om]
 obtain⟨z,hL,hz⟩:=kw (lo:=lo) (b:=c::t) (h:=h) (n:=2) om hb hy 2 0 (c%16) 160 191 rfl om om om;have hn:(c::t).drop (0+1)=t:=rfl;rw[hn]at hz;have n1:((1:Nat):Int)=1:=rfl;have n2:((2:Nat):Int)=2:=rfl;have n3:((3:Nat):Int)=3:=rfl;simp only[ZH,qY,Tryz.f98,JD,JT,JB,go_sem,n1,n2,n3]at hL;rw[e98];unfold H8 at hz
 split at hz
 ·rename_i hk
  obtain⟨low,high,rfl⟩:=hz;simp only[n1,n2,n3]at hL;simp only[go_sem,qY,Tryz.f98,hx,t0,t1,t2,t3,t4,t5,t6,q0,q1,q2,q3,hm,hL];rw[two,We _ _ _ _ _ _ hk]<;>rfl
 ·subst hz
  simp only[go_sem,qY,Tryz.f98,hx,t0,t1,t2,t3,t4,t5,t6,q0,q1,q2,q3,hm,hL];rfl
theorem JpK{lo:Nat}{c:Int}{t:List Int}{h:JC}(hb:(c::t).length<=140737488355328)(hy:By (c::t))(hc:c=237):
  E lo 98 [.list .no (ri .u8 (c::t))] h=some (two (more 2 (c%16) 128 159 1 t),h):=by
 have hcy:=hy c (Bz ..);have t0:decide (c<128)=false:=by simp;omega
 have t1:decide (194<=c)=true:=by simp;omega
 have t2:decide (c<=223)=false:=by simp;omega
 have t3:decide (224<=c)=true:=by simp;omega
 have t4:decide (c<=239)=true:=by simp;omega
 have t5:decide (240<=c)=false:=by simp;omega
 have t6:decide (c<=244)=true:=by simp;omega
 have q0:(c==224)=false:=by simp;omega
 have q1:(c==237)=true:=by simp;omega
 have q2:(c==240)=false:=by simp;omega
 have q3:(c==244)=false:=by simp;omega
 have hx:(c::t)[0]? =some c:=rfl;have hm:AF.wrap (AO.wrap (YH .u8 c 15))=c%16:=by rw[a15 hcy.1 hcy.2,QC om om,wrap_i32 om om]
 obtain⟨z,hL,hz⟩:=kw (lo:=lo) (b:=c::t) (h:=h) (n:=2) om hb hy 2 0 (c%16) 128 159 rfl om om om;have hn:(c::t).drop (0+1)=t:=rfl;rw[hn]at hz;have n1:((1:Nat):Int)=1:=rfl;have n2:((2:Nat):Int)=2:=rfl;have n3:((3:Nat):Int)=3:=rfl;simp only[ZH,qY,Tryz.f98,JD,JT,JB,go_sem,n1,n2,n3]at hL;rw[e98];unfold H8 at hz
 split at hz
 ·rename_i hk
  obtain⟨low,high,rfl⟩:=hz;simp only[n1,n2,n3]at hL;simp only[go_sem,qY,Tryz.f98,hx,t0,t1,t2,t3,t4,t5,t6,q0,q1,q2,q3,hm,hL];rw[two,We _ _ _ _ _ _ hk]<;>rfl
 ·subst hz
  simp only[go_sem,qY,Tryz.f98,hx,t0,t1,t2,t3,t4,t5,t6,q0,q1,q2,q3,hm,hL];rfl
theorem JpL{lo:Nat}{c:Int}{t:List Int}{h:JC}(hb:(c::t).length<=140737488355328)(hy:By (c::t))(hc:225<=c/\c<=239/\c≠237):
  E lo 98 [.list .no (ri .u8 (c::t))] h=some (two (more 2 (c%16) 128 191 1 t),h):=by
 have hcy:=hy c (Bz ..);have t0:decide (c<128)=false:=by simp;omega
 have t1:decide (194<=c)=true:=by simp;omega
 have t2:decide (c<=223)=false:=by simp;omega
 have t3:decide (224<=c)=true:=by simp;omega
 have t4:decide (c<=239)=true:=by simp;omega
 have t5:decide (240<=c)=false:=by simp;omega
 have t6:decide (c<=244)=true:=by simp;omega
 have q0:(c==224)=false:=by simp;omega
 have q1:(c==237)=false:=by simp;omega
 have q2:(c==240)=false:=by simp;omega
 have q3:(c==244)=false:=by simp;omega
 have hx:(c::t)[0]? =some c:=rfl;have hm:AF.wrap (AO.wrap (YH .u8 c 15))=c%16:=by rw[a15 hcy.1 hcy.2,QC om om,wrap_i32 om om]
 obtain⟨z,hL,hz⟩:=kw (lo:=lo) (b:=c::t) (h:=h) (n:=2) om hb hy 2 0 (c%16) 128 191 rfl om om om;have hn:(c::t).drop (0+1)=t:=rfl;rw[hn]at hz;have n1:((1:Nat):Int)=1:=rfl;have n2:((2:Nat):Int)=2:=rfl;have n3:((3:Nat):Int)=3:=rfl;simp only[ZH,qY,Tryz.f98,JD,JT,JB,go_sem,n1,n2,n3]at hL;rw[e98];unfold H8 at hz
 split at hz
 ·rename_i hk
  obtain⟨low,high,rfl⟩:=hz;simp only[n1,n2,n3]at hL;simp only[go_sem,qY,Tryz.f98,hx,t0,t1,t2,t3,t4,t5,t6,q0,q1,q2,q3,hm,hL];rw[two,We _ _ _ _ _ _ hk]<;>rfl
 ·subst hz
  simp only[go_sem,qY,Tryz.f98,hx,t0,t1,t2,t3,t4,t5,t6,q0,q1,q2,q3,hm,hL];rfl
theorem JpM{lo:Nat}{c:Int}{t:List Int}{h:JC}(hb:(c::t).length<=140737488355328)(hy:By (c::t))(hc:c=240):
  E lo 98 [.list .no (ri .u8 (c::t))] h=some (two (more 3 (c%8) 144 191 1 t),h):=by
 have hcy:=hy c (Bz ..);have t0:decide (c<128)=false:=by simp;omega
 have t1:decide (194<=c)=true:=by simp;omega
 have t2:decide (c<=223)=false:=by simp;omega
 have t3:decide (224<=c)=true:=by simp;omega
 have t4:decide (c<=239)=false:=by simp;omega
 have t5:decide (240<=c)=true:=by simp;omega
 have t6:decide (c<=244)=true:=by simp;omega
 have q0:(c==224)=false:=by simp;omega
 have q1:(c==237)=false:=by simp;omega
 have q2:(c==240)=true:=by simp;omega
 have q3:(c==244)=false:=by simp;omega
 have hx:(c::t)[0]? =some c:=rfl;have hm:AF.wrap (AO.wrap (YH .u8 c 7))=c%8:=by rw[a7 hcy.1 hcy.2,QC om om,wrap_i32 om om]
 obtain⟨z,hL,hz⟩:=kw (lo:=lo) (b:=c::t) (h:=h) (n:=3) om hb hy 3 0 (c%8) 144 191 rfl om om om;have hn:(c::t).drop (0+1)=t:=rfl;rw[hn]at hz;have n1:((1:Nat):Int)=1:=rfl;have n2:((2:Nat):Int)=2:=rfl;have n3:((3:Nat):Int)=3:=rfl;simp only[ZH,qY,Tryz.f98,JD,JT,JB,go_sem,n1,n2,n3]at hL;rw[e98];unfold H8 at hz
 split at hz
 ·rename_i hk
  obtain⟨low,high,rfl⟩:=hz;simp only[n1,n2,n3]at hL;simp only[go_sem,qY,Tryz.f98,hx,t0,t1,t2,t3,t4,t5,t6,q0,q1,q2,q3,hm,hL];rw[two,We _ _ _ _ _ _ hk]<;>rfl
 ·subst hz
  simp only[go_sem,qY,Tryz.f98,hx,t0,t1,t2,t3,t4,t5,t6,q0,q1,q2,q3,hm,hL];rfl
theorem JpN{lo:Nat}{c:Int}{t:List Int}{h:JC}(hb:(c::t).length<=140737488355328)(hy:By (c::t))(hc:241<=c/\c<=243):
  E lo 98 [.list .no (ri .u8 (c::t))] h=some (two (more 3 (c%8) 128 191 1 t),h):=by
 have hcy:=hy c (Bz ..);have t0:decide (c<128)=false:=by simp;omega
 have t1:decide (194<=c)=true:=by simp;omega
 have t2:decide (c<=223)=false:=by simp;omega
 have t3:decide (224<=c)=true:=by simp;omega
 have t4:decide (c<=239)=false:=by simp;omega
 have t5:decide (240<=c)=true:=by simp;omega
 have t6:decide (c<=244)=true:=by simp;omega
 have q0:(c==224)=false:=by simp;omega
 have q1:(c==237)=false:=by simp;omega
 have q2:(c==240)=false:=by simp;omega
 have q3:(c==244)=false:=by simp;omega
 have hx:(c::t)[0]? =some c:=rfl;have hm:AF.wrap (AO.wrap (YH .u8 c 7))=c%8:=by rw[a7 hcy.1 hcy.2,QC om om,wrap_i32 om om]
 obtain⟨z,hL,hz⟩:=kw (lo:=lo) (b:=c::t) (h:=h) (n:=3) om hb hy 3 0 (c%8) 128 191 rfl om om om;have hn:(c::t).drop (0+1)=t:=rfl;rw[hn]at hz;have n1:((1:Nat):Int)=1:=rfl;have n2:((2:Nat):Int)=2:=rfl;have n3:((3:Nat):Int)=3:=rfl;simp only[ZH,qY,Tryz.f98,JD,JT,JB,go_sem,n1,n2,n3]at hL;rw[e98];unfold H8 at hz
 split at hz
 ·rename_i hk
  obtain⟨low,high,rfl⟩:=hz;simp only[n1,n2,n3]at hL;simp only[go_sem,qY,Tryz.f98,hx,t0,t1,t2,t3,t4,t5,t6,q0,q1,q2,q3,hm,hL];rw[two,We _ _ _ _ _ _ hk]<;>rfl
 ·subst hz
  simp only[go_sem,qY,Tryz.f98,hx,t0,t1,t2,t3,t4,t5,t6,q0,q1,q2,q3,hm,hL];rfl
theorem JpO{lo:Nat}{c:Int}{t:List Int}{h:JC}(hb:(c::t).length<=140737488355328)(hy:By (c::t))(hc:c=244):
  E lo 98 [.list .no (ri .u8 (c::t))] h=some (two (more 3 (c%8) 128 143 1 t),h):=by
 have hcy:=hy c (Bz ..);have t0:decide (c<128)=false:=by simp;omega
 have t1:decide (194<=c)=true:=by simp;omega
 have t2:decide (c<=223)=false:=by simp;omega
 have t3:decide (224<=c)=true:=by simp;omega
 have t4:decide (c<=239)=false:=by simp;omega
 have t5:decide (240<=c)=true:=by simp;omega
 have t6:decide (c<=244)=true:=by simp;omega
 have q0:(c==224)=false:=by simp;omega
 have q1:(c==237)=false:=by simp;omega
 have q2:(c==240)=false:=by simp;omega
 have q3:(c==244)=true:=by simp;omega
 have hx:(c::t)[0]? =some c:=rfl;have hm:AF.wrap (AO.wrap (YH .u8 c 7))=c%8:=by rw[a7 hcy.1 hcy.2,QC om om,wrap_i32 om om]
 obtain⟨z,hL,hz⟩:=kw (lo:=lo) (b:=c::t) (h:=h) (n:=3) om hb hy 3 0 (c%8) 128 143 rfl om om om;have hn:(c::t).drop (0+1)=t:=rfl;rw[hn]at hz;have n1:((1:Nat):Int)=1:=rfl;have n2:((2:Nat):Int)=2:=rfl;have n3:((3:Nat):Int)=3:=rfl;simp only[ZH,qY,Tryz.f98,JD,JT,JB,go_sem,n1,n2,n3]at hL;rw[e98];unfold H8 at hz
 split at hz
 ·rename_i hk
  obtain⟨low,high,rfl⟩:=hz;simp only[n1,n2,n3]at hL;simp only[go_sem,qY,Tryz.f98,hx,t0,t1,t2,t3,t4,t5,t6,q0,q1,q2,q3,hm,hL];rw[two,We _ _ _ _ _ _ hk]<;>rfl
 ·subst hz
  simp only[go_sem,qY,Tryz.f98,hx,t0,t1,t2,t3,t4,t5,t6,q0,q1,q2,q3,hm,hL];rfl
theorem f98{lo:Nat}{c:Int}{t:List Int}{h:JC}(hb:(c::t).length<=140737488355328)(hy:By (c::t)):
  E lo 98 [.list .no (ri .u8 (c::t))] h=some (two (one (c::t)),h):=by
 have hcy:=hy c (Bz ..);have hx:(c::t)[0]? =some c:=rfl;simp only[one];by_cases h0:c<128
 ·rw[if_pos h0]
  have t0:decide (c<128)=true:=by simp;omega
  have hm:AF.wrap c=c:=wrap_i32 om om;rw[e98];simp only[go_sem,qY,Tryz.f98,hx,t0,hm];rfl
 ·rw[if_neg h0]
  by_cases ha:194<=c/\c<=223
  ·have e:nd c=(1,128,191):=by unfold nd;rw[if_pos ha]
   rw[JpH hb hy ha,e]<;>rfl
  by_cases hb1:c=224
  ·have e:nd c=(2,160,191):=by unfold nd;rw[if_neg ha,if_pos hb1]
   rw[JpJ hb hy hb1,e]<;>rfl
  by_cases hc1:c=237
  ·have e:nd c=(2,128,159):=by unfold nd;rw[if_neg ha,if_neg hb1,if_pos hc1]
   rw[JpK hb hy hc1,e]<;>rfl
  by_cases hd1:225<=c/\c<=239
  ·have e:nd c=(2,128,191):=by unfold nd;rw[if_neg ha,if_neg hb1,if_neg hc1,if_pos hd1]
   rw[JpL hb hy ⟨hd1.1,hd1.2,hc1⟩,e]<;>rfl
  by_cases he1:c=240
  ·have e:nd c=(3,144,191):=by unfold nd;rw[if_neg ha,if_neg hb1,if_neg hc1,if_neg hd1,if_pos he1]
   rw[JpM hb hy he1,e]<;>rfl
  by_cases hf1:241<=c/\c<=243
  ·have e:nd c=(3,128,191):=by unfold nd;rw[if_neg ha,if_neg hb1,if_neg hc1,if_neg hd1,if_neg he1,if_pos hf1]
   rw[JpN hb hy hf1,e]<;>rfl
  by_cases hg1:c=244
  ·have e:nd c=(3,128,143):=by unfold nd;rw[if_neg ha,if_neg hb1,if_neg hc1,if_neg hd1,if_neg he1,if_neg hf1,if_pos hg1]
   rw[JpO hb hy hg1,e]<;>rfl
  have e:nd c=(0,0,0):=by unfold nd;rw[if_neg ha,if_neg hb1,if_neg hc1,if_neg hd1,if_neg he1,if_neg hf1,if_neg hg1]
  rw[e,if_pos rfl];have t0:decide (c<128)=false:=by simp;omega
  have t1:(decide (194<=c)&&decide (c<=223))=false:=by simp;omega
  have t2:(decide (224<=c)&&decide (c<=239))=false:=by simp;omega
  have t3:(decide (240<=c)&&decide (c<=244))=false:=by simp;omega
  rw[e98];simp only[go_sem,qY,Tryz.f98,hx,t0,t1,t2,t3];rfl
theorem f95{lo:Nat}{c:Int}{h:JC}(h0:0<=c)(h1:c<=255):E lo 95 [.v (.int .u8 c)] h=some (.tup [.v (.int .i64 (nd c).1),.v (.int .u8 (nd c).2.1),.v (.int .u8 (nd c).2.2)],h):=by
 rw[e95];by_cases ha:194<=c/\c<=223
 ·have e:nd c=(1,128,191):=by unfold nd;rw[if_pos ha]
  have t1:(decide (194<=c)&&decide (c<=223))=true:=by simp;omega
  rw[e];simp only[go_sem,b95,Tryz.f95,t1];rfl
 have t1:(decide (194<=c)&&decide (c<=223))=false:=by simp;omega
 by_cases hb1:c=224
 ·have e:nd c=(2,160,191):=by unfold nd;rw[if_neg ha,if_pos hb1]
  have t2:(c==224)=true:=by simp;omega
  rw[e];simp only[go_sem,b95,Tryz.f95,t1,t2];rfl
 have t2:(c==224)=false:=by simp;omega
 by_cases hc1:c=237
 ·have e:nd c=(2,128,159):=by unfold nd;rw[if_neg ha,if_neg hb1,if_pos hc1]
  have t3:(c==237)=true:=by simp;omega
  rw[e];simp only[go_sem,b95,Tryz.f95,t1,t2,t3];rfl
 have t3:(c==237)=false:=by simp;omega
 by_cases hd1:225<=c/\c<=239
 ·have e:nd c=(2,128,191):=by unfold nd;rw[if_neg ha,if_neg hb1,if_neg hc1,if_pos hd1]
  have t4:(decide (225<=c)&&decide (c<=239))=true:=by simp;omega
  rw[e];simp only[go_sem,b95,Tryz.f95,t1,t2,t3,t4];rfl
 have t4:(decide (225<=c)&&decide (c<=239))=false:=by simp;omega
 by_cases he1:c=240
 ·have e:nd c=(3,144,191):=by unfold nd;rw[if_neg ha,if_neg hb1,if_neg hc1,if_neg hd1,if_pos he1]
  have t5:(c==240)=true:=by simp;omega
  rw[e];simp only[go_sem,b95,Tryz.f95,t1,t2,t3,t4,t5];rfl
 have t5:(c==240)=false:=by simp;omega
 by_cases hf1:241<=c/\c<=243
 ·have e:nd c=(3,128,191):=by unfold nd;rw[if_neg ha,if_neg hb1,if_neg hc1,if_neg hd1,if_neg he1,if_pos hf1]
  have t6:(decide (241<=c)&&decide (c<=243))=true:=by simp;omega
  rw[e];simp only[go_sem,b95,Tryz.f95,t1,t2,t3,t4,t5,t6];rfl
 have t6:(decide (241<=c)&&decide (c<=243))=false:=by simp;omega
 by_cases hg1:c=244
 ·have e:nd c=(3,128,143):=by unfold nd;rw[if_neg ha,if_neg hb1,if_neg hc1,if_neg hd1,if_neg he1,if_neg hf1,if_pos hg1]
  have t7:(c==244)=true:=by simp;omega
  rw[e];simp only[go_sem,b95,Tryz.f95,t1,t2,t3,t4,t5,t6,t7];rfl
 have t7:(c==244)=false:=by simp;omega
 have e:nd c=(0,0,0):=by unfold nd;rw[if_neg ha,if_neg hb1,if_neg hc1,if_neg hd1,if_neg he1,if_neg hf1,if_neg hg1]
 rw[e];simp only[go_sem,b95,Tryz.f95,t1,t2,t3,t4,t5,t6,t7]
theorem JWB{lo:Nat}{b:List Int}{h:JC}{i k n:Nat}{r low high c:Int}(hc:b[i+k]? =some c)(hi:k<=n)(hn:n<=3)(hb:b.length<=140737488355328)(hl:i+k<b.length)
  (c0:0<=c)(c1:c<=255)(r0:0<=r)(r1:r<=1000000)(hx:¬(c<low\/high<c)):
  evCode ⟨Aa,E,lo,h.length,h65⟩ JA yU ([(0,.list .no (ri .u8 b)),(1,.v (.int .i64 i)),(8,.v (.int .i64 n)),(9,.v (.int .u8 low)),(10,.v (.int .u8 high)),(11,.v (.int .i32 r)),(12,.v (.int .i64 k))],h)=
   some (.normal,[(0,.list .no (ri .u8 b)),(1,.v (.int .i64 i)),(8,.v (.int .i64 n)),(9,.v (.int .u8 128)),(10,.v (.int .u8 191)),(11,.v (.int .i32 (r*64+c%64))),(12,.v (.int .i64 (k+1:Nat)))],h):=by
 have hd:decide ((k:Int)<=n)=true:=by simpa using hi
 have hw:Aq.wrap ((i:Int)+k)=((i+k:Nat):Int):=by rw[JN om om];omega
 have hw1:=JH (i:=k) om;have hg:decide ((b.length:Int)<=(i+k:Nat))=false:=by simp;omega
 have hx1:decide (c<low)=false:=by simp;omega
 have hx2:decide (high<c)=false:=by simp;omega
 simp only[go_sem,yU,b65,Tryz.f65,hd,hc,hw,hw1,hg,hx1,hx2];rw[Jfp r0 r1,a63 c0 c1,QC om om,wrap_i32 (n:=c%64) om om,Jfo r0 r1 om om,wrap_i32 om om]
theorem JSR{lo:Nat}{b:List Int}{h:JC}{i k n:Nat}{r low high:Int}(hi:k<=n)(hn:n<=3)(hb:b.length<=140737488355328)(hib:i<=140737488355328)
  (hs:b.length<=i+k\/ ∃c,b[i+k]? =some c/\i+k<b.length/\(c<low\/high<c)):
  evCode ⟨Aa,E,lo,h.length,h65⟩ JA yU ([(0,.list .no (ri .u8 b)),(1,.v (.int .i64 i)),(8,.v (.int .i64 n)),(9,.v (.int .u8 low)),(10,.v (.int .u8 high)),(11,.v (.int .i32 r)),(12,.v (.int .i64 k))],h)=
   some (.ret,[(4,.v (.int .i32 65533)),(5,.v (.int .i64 k)),(6,.v (.bool false))],h):=by
 have hd:decide ((k:Int)<=n)=true:=by simpa using hi
 have hw:Aq.wrap ((i:Int)+k)=((i+k:Nat):Int):=by rw[JN om om];omega
 have hw1:=JH (i:=k) om;rcases hs with hs|⟨c,hc,hl,hs⟩
 ·have hg:decide ((b.length:Int)<=(i+k:Nat))=true:=by simp;omega
  have hc:b[i+k]? =none:=Bv hs
  simp only[go_sem,yU,b65,Tryz.f65,hd,hw,hw1,hg,hc]
 ·have hg:decide ((b.length:Int)<=(i+k:Nat))=false:=by simp;omega
  by_cases h1:c<low
  ·have hx1:decide (c<low)=true:=by simp;omega
   simp only[go_sem,yU,b65,Tryz.f65,hd,hc,hw,hw1,hg,hx1]
  ·have hx1:decide (c<low)=false:=by simp;omega
   have hx2:decide (high<c)=true:=by simp;omega
   simp only[go_sem,yU,b65,Tryz.f65,hd,hc,hw,hw1,hg,hx1,hx2]
def JSS(b:List Int)(i n:Nat)(x:Int×Nat×Bool)(h:JC)(z:Ex×St):Prop:=
 if x.2.2=true then∃low high,z=(.exit 0,[(0,.list .no (ri .u8 b)),(1,.v (.int .i64 i)),(8,.v (.int .i64 n)),(9,.v (.int .u8 low)),(10,.v (.int .u8 high)),(11,.v (.int .i32 x.1)),(12,.v (.int .i64 (n+1:Nat))),(37,.v (.bool false))],h)
 else z=(.ret,[(4,.v (.int .i32 x.1)),(5,.v (.int .i64 x.2.1)),(6,.v (.bool false))],h)
theorem JbS{lo:Nat}{b:List Int}{h:JC}{i n:Nat}(hn:n<=3)(hb:b.length<=140737488355328)(hib:i<=140737488355328)(hy:By b):∀(m k:Nat) (r low high:Int),k+m=n+1->0<=r->(r+1)*64^m<=64000000->
  ∃z,JA (evCode ⟨Aa,E,lo,h.length,h65⟩ JA yU) ([(0,.list .no (ri .u8 b)),(1,.v (.int .i64 i)),(8,.v (.int .i64 n)),(9,.v (.int .u8 low)),(10,.v (.int .u8 high)),(11,.v (.int .i32 r)),(12,.v (.int .i64 k))],h)=some z
   /\JSS b i n (more m r low high k (b.drop (i+k))) h z:=by
 intro m
 induction m with
 |zero=>
  intro k r low high hm h0 h1;obtain rfl:k=n+1:=om;have hd:decide (((n+1:Nat):Int)<=n)=false:=by simp;omega
  rw[loop_eq];simp only[go_sem,yU,b65,Tryz.f65,hd]
  exact⟨_,rfl,low,high,rfl⟩
 |succ m ih=>
  intro k r low high hm h0 h1;have hlt:k<=n:=om;rw[loop_eq];by_cases hl:i+k<b.length
  ·have hc:b[i+k]? =some b[i+k]:=Ac hl
   have hcy:=hy b[i+k] (Ba hl);rw[AD hl];by_cases hx:b[i+k]<low\/high<b[i+k]
   ·rw[JSR hlt hn hb hib (.inr ⟨_,hc,hl,hx⟩),QY]
    exact⟨_,rfl,by simp only[more,if_pos hx];rfl⟩
   ·rw[Bc]at h1
    have hp:(1:Int)<=64^m:=Lt om;have hr:(r+1)*64*64^m=(r+1)*(64^m*64):=by rw[B0,Cg 64]
    have h2:(r+1)*64*1<=(r+1)*64*64^m:=Ct hp om;have h3:(r*64+b[i+k]%64+1)*64^m<=(r+1)*64*64^m:=Dg om om;rw[JWB hc hlt hn hb hl hcy.1 hcy.2 h0 om hx,JK];have:=ih (k+1) (r*64+b[i+k]%64) 128 191 om om om;simpa only[more,if_neg hx,<-Nat.add_assoc]using this
  ·have hs:b.length<=i+k:=om
   rw[JSR hlt hn hb hib (.inl hs),QY,Bo hs];exact⟨_,rfl,rfl⟩
def JCl(x:Int×Nat×Bool):V:= .tup [.v (.int .i32 x.1),.v (.int .i64 x.2.1),.v (.bool x.2.2)]
theorem f65{lo:Nat}{b:List Int}{i:Nat}{h:JC}(hi:i<b.length)(hb:b.length<=140737488355328)(hy:By b):
  E lo 65 [.list .no (ri .u8 b),.v (.int .i64 i)] h=some (JCl (one (b.drop i)),h):=by
 have hx:b[i]? =some b[i]:=Ac hi
 have hcy:=hy b[i] (Ba hi);rw[AD hi];generalize hc:b[i]=c at hx hcy;simp only[one];by_cases h0:c<128
 ·rw[if_pos h0]
  have t0:decide (c<128)=true:=by simp;omega
  have hm:AF.wrap c=c:=wrap_i32 om om;rw[e65];simp only[go_sem,b65,Tryz.f65,hx,t0,hm];rfl
 rw[if_neg h0];have t0:decide (c<128)=false:=by simp;omega
 by_cases hz:(nd c).1=0
 ·rw[if_pos hz]
  have t1:(((nd c).1:Int)==0)=true:=by simp;omega
  rw[e65];simp only[go_sem,b65,Tryz.f65,hx,t0,f95 hcy.1 hcy.2,t1];rfl
 rw[if_neg hz];have hn:=JXn c;have t1:(((nd c).1:Int)==0)=false:=by simp;omega
 have hm:AF.wrap (YH .i32 (AF.wrap c) (JB4 .i32 63 (AJ.wrap (nd c).1)))=c%2^ (6-(nd c).1):=by
  rw[wrap_i32 (n:=c) om om];have:(nd c).1=1\/(nd c).1=2\/(nd c).1=3:=om;rcases this with h|h|h<;>rw[h]
  ·show AF.wrap (YH .i32 c 31)=c%32
   rw[Utf.c31 hcy.1 hcy.2,wrap_i32 om om]
  ·show AF.wrap (YH .i32 c 15)=c%16
   rw[Utf.c15 hcy.1 hcy.2,wrap_i32 om om]
  ·show AF.wrap (YH .i32 c 7)=c%8
   rw[Utf.c7 hcy.1 hcy.2,wrap_i32 om om]
 have hr:0<=c%2^ (6-(nd c).1)/\(c%2^ (6-(nd c).1)+1)*64^ (nd c).1<=64000000:=by
  have:(nd c).1=1\/(nd c).1=2\/(nd c).1=3:=om;rcases this with h|h|h<;>rw[h]
  ·show 0<=c%32/\(c%32+1)*64<=64000000;omega
  ·show 0<=c%16/\(c%16+1)*4096<=64000000;omega
  ·show 0<=c%8/\(c%8+1)*262144<=64000000;omega
 have ht:b.drop (i+1)=b.drop (i+1):=rfl;obtain⟨z,hL,hz⟩:=JbS (lo:=lo) (b:=b) (h:=h) (i:=i) hn hb om hy (nd c).1 1 (c%2^ (6-(nd c).1)) (nd c).2.1 (nd c).2.2 om hr.1 hr.2;have n1:((1:Nat):Int)=1:=rfl
 have hg:decide (0<=AJ.wrap ((nd c).1:Int))=true:=by have:(nd c).1=1\/(nd c).1=2\/(nd c).1=3:=om;rcases this with h|h|h<;>rw[h]<;>rfl
 have hg':0<=AJ.wrap ((nd c).1:Int):=of_decide_eq_true hg;have hw1:Aq.wrap (((nd c).1:Int)+1)=(((nd c).1+1:Nat):Int):=JH om;simp only[yU,b65,Tryz.f65,JD,JT,JB,go_sem,n1]at hL;rw[e65];unfold JSS at hz
 split at hz
 ·rename_i hk
  obtain⟨low,high,rfl⟩:=hz;simp only[go_sem,b65,Tryz.f65,hx,t0,t1,f95 hcy.1 hcy.2,hm,hL,hg,hg',hw1];rw[JCl,We _ _ _ _ _ _ hk,hk,Nat.add_comm 1]
 ·rename_i hk
  subst hz;simp only[go_sem,b65,Tryz.f65,hx,t0,t1,f95 hcy.1 hcy.2,hm,hL,hg,hg',hw1];simp only[JCl,Bool.not_eq_true]at hk⊢;rw[hk]
end Go.Lift.M1
end
