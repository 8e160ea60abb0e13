/- The program's numbers: rat.cut and rat.Decimal, whole. -/
import Derived.Test.YtkmiddfplmnaoaaGreatDoorGKd
import Derived.Test.YtkmiddfplmnaoaaGreatDoorGKe
import Derived.Test.YtkmiddfplmnaoaaGreatDoorGKh
import Derived.Test.YtkmiddfplmnaoaaGreatDoorGKi
open Bool renaming and_eq_false_iff->Dn,and_eq_true->Ah,eq_false_iff->Me,false_and->AZ,false_or->Br,not_eq_true->BU,or_eq_false_iff->B2,or_eq_true->AN,true_and->AR,true_or->Cb
open Go.IntKind renaming i32->Az,i64->Ak,u64->BP
open Go.Proofs.Tryz renaming prog->Aa
open List renaming dropWhile_sublist->B3,drop_drop->AC,getElem?_eq_none->Bi,mem_append->AW
open Nat renaming le_of_lt->C4,le_refl->Ac,lt_or_ge->Ax,reduceAdd->CU,zero_add->AB
open UInt8 renaming toNat->B7
set_option linter.unusedVariables false
set_option linter.unusedSimpArgs false
set_option linter.unusedSectionVars false
set_option maxRecDepth 20000
set_option maxHeartbeats 4000000
section
open Go.Proofs
namespace Go.Lift.W1.T
variable[MX]
open Utf Tok
def wrV(w:Wr):List V:=Yc w.below w.digits w.behind w.exp w.whole
theorem JSA{h:Heap}{w w2:List V}{b:Bool}(hw:∃a d c e f,w=Yc a d c e f):fin Aa [.cell 2 124,.tmp 3] h.length (some (.ret,[(2,.ptr h.length 0),(3,.v (.bool b))],h++[.cells w,.cells w2]))=some (.tup [.agg w,.v (.bool b)],h):=by obtain⟨a,d,c,e,f,rfl⟩:=hw;simp only[go_sem,Yc]<;>rfl
theorem f103{lo:Nat}{n:Nm}{h:Heap}(ok:n.Ok)(hl:n.text.length<=100000000000)(hlo:lo<=h.length):
  E lo 103 [.v (.string (bs n.text))] h=some (.tup [.agg (wrV n.wr),.v (.bool true)],h):=by
 have hlo2:lo<=h.length+1:=om;have hy:=JVk ok;have hT:=nm_text n;have hF:=JJo ok;have hRh:=JCC ok;have hd1:=Wa ok.d1;have hfr:=Wa ok.fr;have hd3:=Wa ok.d3;obtain⟨k,hk⟩:∃k,n.sg.length=k:=⟨_,rfl⟩;generalize n.text=t at*;have D1:t.drop k=n.d1++(nmF n++nmR n):=by rw[hT,<-hk,List.drop_left]
 have hlen:t.length=k+(n.d1.length+((nmF n).length+(nmR n).length)):=by rw[hT];simp;omega
 have ht0:(∃c,t[0]? =some c/\(c==43)=false/\(c==45)=false/\k=0/\(n.sg==[45])=false)\/(t[0]? =some 43/\k=1/\(n.sg==[45])=false)\/(t[0]? =some 45/\k=1/\(n.sg==[45])=true):=by
  rcases ok.sg with hs|hs|hs
  ·left
   rw[hs]at hk hT⊢;rw[List.nil_append]at hT
   cases hd:n.d1 with
   |cons c u=>
    have hc:=hd1 c (by rw[hd];simp)
    simp only[Jn,Ah,decide_eq_true_eq]at hc
    exact⟨c,by rw[hT,hd];rfl,by simp;omega,by simp;omega,hk.symm,rfl⟩
   |nil=>
    have hne:n.fr≠[]:=λh=>ok.some (by rw[hd,h];rfl)
    exact⟨46,by rw[hT,hd];unfold nmF;rw[if_neg hne];rfl,rfl,rfl,hk.symm,rfl⟩
  ·exact .inr (.inl ⟨by rw[hT,hs];rfl,by rw[<-hk,hs];rfl,by rw[hs];rfl⟩)
  ·exact .inr (.inr ⟨by rw[hT,hs];rfl,by rw[<-hk,hs];rfl,by rw[hs];rfl⟩)
 obtain⟨x,hA⟩:=Jfy (lo:=lo) (h:=h) (neg:=n.sg==[45]) hy hl hlo hlo2 ht0;have hyd:By (t.drop k):=hy.drop k;have hF1:By (nmF n++nmR n):=λc hc=>hyd c (by rw[D1];simp only[AW]at hc⊢;exact .inr hc)
 have hF2:By (nmR n):=λc hc=>hF1 c (by simp[hc])
 rw[JlY,pc_in,pc_go _ _ _ _ 0 4,hA,pc_go _ _ _ _ _ 3]
 rw[Jfz (d:=n.d1) (r:=nmF n++nmR n) (pt:= !n.fr.isEmpty) hyd (by simp;omega) hlo2 D1 (by rw[D1];exact JCB hF hd1) (by
  cases hfe:n.fr with
  |cons c u=>exact .inl ⟨46,by unfold nmF;rw[hfe];rfl,rfl⟩
  |nil=>
   cases hr:nmR n with
   |nil=>exact .inr ⟨by unfold nmF;rw[hfe];rfl,rfl⟩
   |cons c u=>
    refine .inl ⟨c,by unfold nmF;rw[hfe];rfl,?_⟩
    rcases(hRh c u hr).2 with rfl|rfl<;>rfl)]
 rw[pc_go _ _ _ _ _ 1]
 have hB:∃y,QM (YW lo h) JA (pc YT 7 1) (ZC (nmF n++nmR n) h [(44,.v (.bool (!n.fr.isEmpty)))] (Yc (n.sg==[45]) n.d1 0 0 true))=
   some (.normal,ZC (nmR n) h [(44,y)] (Yc (n.sg==[45]) (n.d1++n.fr) n.fr.length 0 n.fr.isEmpty)):=by
  cases hfe:n.fr with
  |nil=>
   have hnF:nmF n=[]:=by unfold nmF;rw[if_pos hfe]
   refine⟨.v (.bool false),?_⟩
   rw[hnF,List.append_nil]
   exact JaA
  |cons c u=>
   have hne:n.fr≠[]:=by rw[hfe];simp
   have hnF:nmF n=46::n.fr:=by unfold nmF;rw[if_neg hne]
   refine⟨.undef,?_⟩
   have:=JaB (lo:=lo) (h:=h) (neg:=n.sg==[45]) (t:=nmF n++nmR n) (d:=n.d1) (f:=n.fr) (r:=nmR n) hF1 (by simp;omega) om hlo2 (by rw[hnF];rfl) (JCB (λc u h=>(hRh c u h).1) hfr) hne
   simpa[hfe]using this
 obtain⟨y,hB⟩:=hB;rw[hB,pc_go _ _ _ _ _ 4];have hne:n.d1++n.fr≠[]:=ok.some;rcases ok.ex with⟨h1,h2⟩|⟨⟨e,he,hx⟩,h2⟩
 ·have hr:nmR n=[]:=by unfold nmR;rw[h1,h2];rfl
  rw[hr,JaC hlo hne,Qw]
  have hw:wrV n.wr=Yc (n.sg==[45]) (n.d1++n.fr) n.fr.length 0 n.fr.isEmpty:=by simp[wrV,Nm.wr,h1,h2,chr,WQ]
  rw[hw];exact JSA ⟨_,_,_,_,_,rfl⟩
 ·obtain⟨s3,u3,hs3⟩:∃s u,n.d3=s::u:=by
   cases hd:n.d3 with
   |nil=>exact absurd hd h2
   |cons s u=>exact⟨s,u,rfl⟩
  have hs3d:=hd3 s3 (by rw[hs3];simp)
  simp only[Jn,Ah,decide_eq_true_eq]at hs3d;have hexe:n.ex.isEmpty=false:=by rcases hx with h|h|h<;>rw[h]<;>rfl
  have hce:(e !=101&&e !=69)=false:=by rcases he with rfl|rfl<;>rfl
  have hT2:nmR n=e::(n.ex.drop 1++n.d3):=by unfold nmR;rcases hx with h|h|h<;>rw[h]<;>rfl
  rw[JaD hne (by rw[hT2];simp),pc_go _ _ _ _ _ 14]
  have hu:(∃s,n.ex.drop 1++n.d3=s::n.d3/\(s==43||s==45)=true/\(chr n.ex 1==45)=(s==45))\/(∃s,(n.ex.drop 1++n.d3)[0]? =some s/\(s==43||s==45)=false/\n.ex.drop 1++n.d3=n.d3/\(chr n.ex 1==45)=false):=by
   rcases hx with h|h|h
   ·right
    rw[h];refine⟨s3,by rw[hs3];rfl,?_,rfl,rfl⟩
    simp;omega
   ·left;rw[h];exact⟨43,rfl,rfl,rfl⟩
   ·left;rw[h];exact⟨45,rfl,rfl,rfl⟩
  rw[Jf0 (u:=n.ex.drop 1++n.d3) (r:=n.d3) hF2 om hlo hlo2 hT2 hce hu hd3 h2,Qw]
  have hw:wrV n.wr=Yc (n.sg==[45]) (n.d1++n.fr) n.fr.length (if(chr n.ex 1==45)=true then-WQ 0 n.d3 else WQ 0 n.d3) false:=by simp[wrV,Nm.wr,hexe]
  rw[hw];exact JSA ⟨_,_,_,_,_,rfl⟩
section
variable{lo:Nat}{h:Heap}{w:Wr}
noncomputable abbrev Hg(lo:Nat)(h:Heap):Cx:=⟨Aa,E,lo,h.length,h88⟩
abbrev Hh(h:Heap)(w:Wr)(ex:Ja):Ja×Heap:=((2,.ptr h.length 0)::(5,.ptr (h.length+1) 0)::ex,h++[.cells (JO (0,0)),.cells (wrV w)])
abbrev JCH(h:Heap)(x:Int×Int)(w:Wr):Option (Ex×Ja×Heap):=some (.ret,[(2,.ptr h.length 0),(3,.v (.bool w.whole)),(4,.v (.int .i64 0))],h++[.cells (JO x),.cells (wrV w)])
theorem Jf1{t:List Int}(hlo2:lo<=h.length+1)(k:∀h,lo<=h.length->E lo 103 [.v (.string (bs t))] h=some (.tup [.agg (wrV w),.v (.bool true)],h))(hlo:lo<=h.length):
  QM (Hg lo h) JA (pc b88 0 4) (K2 [.v (.string (bs t))],h)=some (.normal,Hh h w [(18,.v (.bool false))]):=by
 have k1:=k (h++[.cells (JO (0,0))]) (by simp;omega)
 simp only[JO,wrV,Yc]at k1;simp only[go_sem,Hg,Hh,b88,Tryz.f88,k1,hlo2,JO,wrV,Yc]<;>rfl
theorem Jf2(hlo:lo<=h.length)(hy:By w.digits)(hl:w.digits.length<=100000000000):QM (Hg lo h) JA (pc b88 4 3) (Hh h w [(18,.v (.bool false))])=
  if w.digits.dropWhile (· ==48)=[]then JCH h (0,1) w else some (.normal,Hh h w [(7,.v (.string (bs (w.digits.dropWhile (· ==48))))),(24,.v (.bool false))]):=by
 have k:=λh=>f104 (lo:=lo) (h:=h) hy hl
 generalize w.digits.dropWhile (· ==48)=D at*
 have t0:=KR D;by_cases hD:D=[]
 ·rw[decide_eq_true hD]at t0
  rw[if_pos hD];simp only[go_sem,Hg,Hh,b88,Tryz.f88,k,t0,hlo,JO,wrV,Yc]<;>rfl
 ·rw[decide_eq_false hD]at t0
  rw[if_neg hD];simp only[go_sem,Hg,Hh,b88,Tryz.f88,k,t0,hlo,JO,wrV,Yc]<;>rfl
theorem Jf3{D:List Int}(hlo:lo<=h.length)(hy:By D)(hl:D.length<=100000000000):QM (Hg lo h) JA (pc b88 7 3) (Hh h w [(7,.v (.string (bs D))),(24,.v (.bool false))])=
  if 18<(core D).length then JCH h (0,0) w else some (.normal,Hh h w [(7,.v (.string (bs D))),(8,.v (.string (bs (core D)))),(32,.v (.bool false))]):=by
 have k:=λh=>f105 (lo:=lo) (h:=h) hy hl
 generalize core D=C at*;by_cases h18:18<C.length
 ·have t:decide (18<(C.length:Int))=true:=by simp;omega
  rw[if_pos h18];simp only[go_sem,Hg,Hh,b88,Tryz.f88,JZ,k,t,hlo,JO,wrV,Yc]<;>rfl
 ·have t:decide (18<(C.length:Int))=false:=by simp;omega
  rw[if_neg h18];simp only[go_sem,Hg,Hh,b88,Tryz.f88,JZ,k,t,hlo,JO,wrV,Yc]<;>rfl
abbrev JCJ(h:Heap)(w:Wr)(D C:List Int)(n:Int)(rows:List (List V))(len k:Int)(ex:Ja):Ja×Heap:=
 Hh h w ((7,.v (.string (bs D)))::(8,.v (.string (bs C)))::(9,.v (.int .u64 n))::(37,.list .no rows)::(38,.v (.int .i64 len))::(39,.v (.int .i64 k))::ex)
theorem JaG{D C d:List Int}(hd:∀c∈d,Jn c=true)(hl:d.length<=18):∀(r:List Int) (k:Nat) (n:Int),d.drop k=r->k+r.length=d.length->0<=n->n<10^k->
  JA (evCode (Hg lo h) JA JJH) (JCJ h w D C n (ri .u8 d) d.length k [])=
   some (.exit 0,JCJ h w D C (ZA n r) (ri .u8 d) d.length d.length [(40,.v (.bool false))]):=by
 intro r
 induction r with
 |nil=>
  intro k n hr hk h0 h1;have hk':k=d.length:=by simpa using hk
  subst hk';have hlt:decide ((d.length:Int)<(d.length:Int))=false:=by simp
  rw[JB]
  simp only[go_sem,Hg,JCJ,Hh,JJH,b88,Tryz.f88,hlt,ZA,JO,wrV,Yc]<;>rfl
 |cons c r ih=>
  intro k n hr hk h0 h1;simp only[List.length_cons]at hk;have hlt:decide ((k:Int)<(d.length:Int))=true:=by simp;omega
  have hc:d[k]? =some c:=by
   have:=congrArg (·[0]?) hr
   simpa using this
  have hcd:=hd c (List.mem_of_getElem? hc);simp only[Jn,Ah,decide_eq_true_eq]at hcd;have hw:=JD (i:=k) om
  have h17:(10:Int)^k<=100000000000000000:=by
   have:(10:Int)^k<=10^17:=by obtain⟨j,hj⟩:∃j,17=k+j:=⟨17-k,om⟩;rw[hj,Int.pow_add];have h0:=Jm (y:=10) om k;exact Q8 om (Jm om j)
   exact this
  have w1:BP.wrap (n*10)=n*10:=K1 om om;have w2:IntKind.u8.wrap (c-48)=c-48:=wrap_u8 om om;have w3:BP.wrap (c-48)=c-48:=K1 om om;have w4:BP.wrap (n*10+(c-48))=n*10+(c-48):=K1 om om
  have e1:evCode (Hg lo h) JA JJH (JCJ h w D C n (ri .u8 d) d.length k [])=some (.normal,JCJ h w D C (n*10+(c-48)) (ri .u8 d) d.length (k+1:Nat) []):=by simp only[go_sem,Hg,JCJ,Hh,JJH,b88,Tryz.f88,hlt,hc,w1,w2,w3,w4,hw,JO,wrV,Yc]<;>rfl
  have hp:(10:Int)^ (k+1)=10^k*10:=Int.pow_succ 10 k;rw[JB,e1,JK,ih (k+1) (n*10+(c-48)) (by rw[<-AC,hr];rfl) om om om]
  rfl
theorem Jf4{D d:List Int}(hd:∀c∈d,Jn c=true)(hdl:d.length<=18):QM (Hg lo h) JA (pc b88 10 3) (Hh h w [(7,.v (.string (bs D))),(8,.v (.string (bs d))),(32,.v (.bool false))])=
  some (.normal,JCJ h w D d (ZA 0 d) (ri .u8 d) d.length d.length [(40,.v (.bool false))]):=by
 have hy:By d:=λc hc=>by have:=hd c hc;simp only[Jn,Ah,decide_eq_true_eq]at this;omega
 have hL:=JaG (lo:=lo) (h:=h) (w:=w) (D:=D) (C:=d) hd hdl d 0 0 rfl (by simp) om (by simp)
 simp only[JCJ,Hh,Hg,JJH,b88,Tryz.f88,JG,JT,JC,go_sem,JO,wrV,Yc]at hL;simp only[go_sem,Hg,JCJ,Hh,b88,Tryz.f88,Y0 hy,hL,JO,wrV,Yc]<;>rfl
theorem Jf5{D C:List Int}{n len k:Int}{rows:List (List V)}{y:Int×Int}(hlo:lo<=h.length)(he0: -1099511627776<=w.exp)(he1:w.exp<=1099511627776)(hb:w.behind<=100000000000)(hD:D.length<=100000000000)(hC:C.length<=D.length)
  (kv:∀lo h,lo<=h.length->E lo 106 [.v (.bool w.below),.v (.int .u64 n),.v (.int .i64 (w.exp-w.behind+(D.length-C.length)))] h=some (.agg (JO y),h)):
  QM (Hg lo h) JA (pc b88 13 2) (JCJ h w D C n rows len k [(40,.v (.bool false))])=JCH h y w:=by
 have w1:Ak.wrap (w.exp-w.behind)=w.exp-w.behind:=JL om om;have w2:Ak.wrap ((D.length:Int)-C.length)=(D.length:Int)-C.length:=JL om om;have w3:Ak.wrap (w.exp-w.behind+((D.length:Int)-C.length))=w.exp-w.behind+((D.length:Int)-C.length):=JL om om;have k1:=kv (h.length+2) (h++[.cells (JO (0,0)),.cells (wrV w)]) (by simp)
 simp only[JO,wrV,Yc]at k1;simp only[go_sem,Hg,JCJ,Hh,b88,Tryz.f88,JZ,w1,w2,w3,k1,hlo,JO,wrV,Yc]<;>rfl
theorem JLh{x:Int×Int}:fin Aa [.cell 2 49,.tmp 3,.tmp 4] h.length (JCH h x w)=some (.tup [.agg (JO x),.v (.bool w.whole),.v (.int .i64 0)],h):=by simp only[go_sem,JCH,JO]<;>rfl
end
theorem f88{lo:Nat}{n:Nm}{h:Heap}(ok:n.Ok)(hl:n.text.length<=100000000000)(hlo:lo<=h.length):
  E lo 88 [.v (.string (bs n.text))] h=some (.tup [.agg (JO n.num.1),.v (.bool n.num.2),.v (.int .i64 0)],h):=by
 have hall:∀c∈n.wr.digits,Jn c=true:=λc hc=>by
  rcases AW.1 hc with hc|hc
  ·exact Wa ok.d1 c hc
  ·exact Wa ok.fr c hc
 have hyd:By n.wr.digits:=λc hc=>by have:=hall c hc;simp only[Jn,Ah,decide_eq_true_eq]at this;omega
 have hlt:n.text.length=n.sg.length+(n.d1.length+((nmF n).length+(nmR n).length)):=by rw[nm_text];simp
 have hfl:n.fr.length<=(nmF n).length:=by unfold nmF;split<;>simp_all
 have hdl:n.wr.digits.length<=100000000000:=by
  show(n.d1++n.fr).length<=_
  simp;omega
 have hbh:n.wr.behind<=100000000000:=by
  show n.fr.length<=_
  omega
 obtain⟨x0,x1⟩:=qT n.d3 0 (Wa ok.d3) om om
 have hexp: -1099511627776<=n.wr.exp/\n.wr.exp<=1099511627776:=by
  show-1099511627776<=(if chr n.ex 1=45 then-WQ 0 n.d3 else WQ 0 n.d3)/\(if chr n.ex 1=45 then-WQ 0 n.d3 else WQ 0 n.d3)<=_
  split<;>omega
 unfold Nm.num;rw[e88,pc_in,pc_go _ _ _ _ 0 4,Jf1 (w:=n.wr) om (λh hh=>f103 ok hl hh) hlo,pc_go _ _ _ _ _ 3,Jf2 hlo hyd hdl]
 unfold qG;have hhead:=yV (· ==48) n.wr.digits
 have hmem:∀c∈n.wr.digits.dropWhile (· ==48),Jn c=true:=λc hc=>hall c ((B3 _).subset hc)
 have hDl:(n.wr.digits.dropWhile (· ==48)).length<=n.wr.digits.length:=(B3 _).length_le
 generalize n.wr.digits.dropWhile (· ==48)=D at*
 have hyD:By D:=λc hc=>by have:=hmem c hc;simp only[Jn,Ah,decide_eq_true_eq]at this;omega
 cases D with
 |nil=>
  rw[if_pos rfl,Qw]
  exact JLh
 |cons c0 t0=>
  have hc0:c0≠48:=by have:=hhead c0 t0 rfl;simpa using this
  rw[if_neg (by simp),pc_go _ _ _ _ _ 3,Jf3 hlo hyD om]
  simp only[reduceCtorEq,if_false];by_cases h18:18<(core (c0::t0)).length
  ·rw[if_pos h18,if_pos h18,Qw]
   exact JLh
  ·rw[if_neg h18,if_neg h18,pc_go _ _ _ _ _ 3,Jf4 (JCA hmem) om,pc_go _ _ _ _ _ 2]
   obtain⟨v0,v1⟩:=JJn hmem hc0 om
   have hcl:(core (c0::t0)).length<=(c0::t0).length:=by unfold core;rw[List.length_reverse];exact Nat.le_trans (B3 _).length_le (by simp)
   rw[Jf5 (y:=turn n.wr.below (Zl (ZA 0 (core (c0::t0))) (n.wr.exp-n.wr.behind+(((c0::t0).length:Int)-((core (c0::t0)).length:Int))))) hlo hexp.1 hexp.2 hbh om hcl (λlo h hh=>f106 hh om om v0 v1),Qw]
   exact JLh
theorem enc_asc{c:Int}(h:0<=c/\c<128):Utf8.encode c=bs [c]:=by
 unfold Utf8.encode
 have hv:Utf8.valid c=true:=by unfold Utf8.valid;simp;omega
 have hn:c.toNat<128:=om;simp only[hv,if_true,hn];rfl
theorem JOa{l:List Int}(h:Asc l):runesBytes l=bs l:=by
 have key:∀(l a:List Int),Asc l->l.foldl (λr n=>r++Utf8.encode n) (bs a)=bs (a++l):=by
  intro l
  induction l with
  |nil=>intro a _;simp
  |cons c t ih=>
   intro a h;rw[List.foldl_cons,enc_asc (h c (by simp)),bs_app,ih (a++[c]) λx hx=>h x (by simp[hx])]
   simp
 exact key l [] h
section
variable{lo i j:Nat}{l:List Int}{p q:List Ob}
theorem JaH{n:Nat}(hl:l.length<=100000000000):∀(m i:Nat),l.length-i<=m->i<=l.length->
  ∃j,j<=l.length/\i<=j/\suf l j=(suf l i).dropWhile Jn/\
   ∀lo n (p q r:List Ob),lo<=p.length->JA (evCode ⟨Aa,E,lo,n,h87⟩ JA JDk) ([(0,.ptr (p.length+(q.length+1)) 0)],p++R l i::(q++ .cells [.ptr p.length 0]::r))=
    some (.exit 0,[(0,.ptr (p.length+(q.length+1)) 0),(5,.v (.bool false))],p++R l j::(q++ .cells [.ptr p.length 0]::r)):=by
 intro m
 induction m with
 |zero=>
  intro i h1 h2;obtain rfl:i=l.length:=om;have k0:=λlo p q=>f32 (lo:=lo) (l:=l) (i:=l.length) (p:=p) (q:=q) (k:=0) om
  have hs:suf l l.length=[]:=JV (Ac _);have hb:Jn (-1)=false:=rfl;simp only[n0,hs,Jw]at k0;refine⟨l.length,Ac _,Ac _,by rw[hs];rfl,λlo n p q r hlo=>?_⟩
  rw[JB]
  simp only[go_sem,JDk,b87,Tryz.f87,k0,f54,hb]
 |succ m ih=>
  intro i h1 h2;have k0:=λlo p q=>f32 (lo:=lo) (l:=l) (i:=i) (p:=p) (q:=q) (k:=0) om
  simp only[n0]at k0;have hw:=JD (i:=i) om
  cases hb:Jn (chr (suf l i) 0)with
  |false=>
   refine⟨i,h2,Ac _,?_,λlo n p q r hlo=>?_⟩
   ·by_cases hi:i<l.length
    ·rw[Jb hi]at hb⊢
     exact(List.dropWhile_cons_of_neg (by simpa[chr]using hb)).symm
    ·rw[JV om];rfl
   ·rw[JB]
    simp only[go_sem,JDk,b87,Tryz.f87,k0,f54,hb]
  |true=>
   have hi:i<l.length:=by
    rcases Ax i l.length with h|h
    ·exact h
    ·rw[JV h]at hb;exact absurd hb (by decide)
   obtain⟨j,j1,j2,j3,j4⟩:=ih (i+1) om om;refine⟨j,j1,om,?_,λlo n p q r hlo=>?_⟩
   ·rw[j3,Jb hi]
    exact(List.dropWhile_cons_of_pos (by simpa using hb)).symm
   ·rw[JB]
    have e:evCode ⟨Aa,E,lo,n,h87⟩ JA JDk ([(0,.ptr (p.length+(q.length+1)) 0)],p++R l i::(q++ .cells [.ptr p.length 0]::r))=
      some (.normal,[(0,.ptr (p.length+(q.length+1)) 0)],p++R l (i+1)::(q++ .cells [.ptr p.length 0]::r)):=by
     simp only[go_sem,JDk,b87,Tryz.f87,k0,f54,hb,hw,hlo]
    rw[e,JK];exact j4 lo n p q r hlo
theorem f87(hl:l.length<=100000000000)(hi:i<=l.length):∃j,j<=l.length/\i<=j/\suf l j=(suf l i).dropWhile Jn/\
  ∀lo p q r,lo<=p.length->E lo 87 [.ptr (p.length+(q.length+1)) 0] (p++R l i::(q++ .cells [.ptr p.length 0]::r))=some (.tup [],p++R l j::(q++ .cells [.ptr p.length 0]::r)):=by
 obtain⟨j,j1,j2,j3,j4⟩:=JaH (n:=0) (l:=l) hl l.length i om hi;refine⟨j,j1,j2,j3,λlo p q r hlo=>?_⟩
 have hL:=j4 lo (p++R l i::(q++ .cells [.ptr p.length 0]::r)).length p q r hlo;rw[e87];simp only[JDk,b87,Tryz.f87,JG,JT,JC,go_sem]at hL;simp only[go_sem,b87,Tryz.f87,hL]
noncomputable abbrev Zo(lo:Nat)(p q:List Ob):Cx:=⟨Aa,E,lo,p.length+(q.length+1),h56⟩
abbrev H63(p q:List Ob)(l:List Int)(j:Nat)(more:List Ob):Heap:=p++R l j::(q++(.cells [.ptr p.length 0]:: .cells (tokC 0 [])::more))
abbrev P63(p q:List Ob)(l:List Int)(i j:Nat)(ex:Ja):Ja×Heap:=
 ((1,.ptr (p.length+(q.length+1)) 0)::(2,.ptr (p.length+(q.length+2)) 0)::(3,.v (.int .i64 i))::ex,H63 p q l j [])
theorem Jmw(hl:l.length<=100000000000)(hi:i<=l.length):∃j,j<=l.length/\i<=j/\suf l j=(if(chr (suf l i) 0==43||chr (suf l i) 0==45)=true then(suf l i).drop 1 else suf l i)/\
  ∃x,∀lo p q,lo<=p.length->QM (Zo lo p q) JA (pc b56 0 5) (K2 [.ptr p.length 0],p++R l i::q)=some (.normal,P63 p q l i j [(23,x)]):=by
 have k0:=λlo p q=>f32 (lo:=lo) (l:=l) (i:=i) (p:=p) (q:=q) (k:=0) om
 have hw:=JD (i:=i) om;simp only[n0]at k0;generalize hc:chr (suf l i) 0=c at*;by_cases hs:(c==43||c==45)=true
 ·have hne:i<l.length:=by
   rcases Ax i l.length with h|h
   ·exact h
   ·rw[JV h]at hc
    rw[<-hc]at hs;exact absurd hs (by decide)
  rw[if_pos hs];refine⟨i+1,om,om,by simp[suf,AC],?_⟩
  cases h43:(c==43)with
  |true=>
   refine⟨.v (.bool true),λlo p q hlo=>?_⟩
   simp only[go_sem,Zo,P63,H63,b56,Tryz.f56,k0,h43,hw,hlo,tokC,str_nil]<;>rfl
  |false=>
   have h45:(c==45)=true:=by simpa[h43]using hs
   refine⟨.v (.bool true),λlo p q hlo=>?_⟩
   simp only[go_sem,Zo,P63,H63,b56,Tryz.f56,k0,h43,h45,hw,hlo,tokC,str_nil]<;>rfl
 ·rw[if_neg hs]
  have h43:(c==43)=false:=by simp at hs⊢;omega
  have h45:(c==45)=false:=by simp at hs⊢;omega
  refine⟨i,hi,Ac _,rfl,.v (.bool false),λlo p q hlo=>?_⟩
  simp only[go_sem,Zo,P63,H63,b56,Tryz.f56,k0,h43,h45,hw,hlo,tokC,str_nil]<;>rfl
abbrev clo(p q:List Ob):V:= .fn 87 [.ptr (p.length+(q.length+1)) 0]
theorem Jmx{x:V}(hl:l.length<=100000000000)(hj:j<=l.length):∃j',j'<=l.length/\j<=j'/\
  suf l j'=(if(chr ((suf l j).dropWhile Jn) 0==46&&Jn (chr ((suf l j).dropWhile Jn) 1))=true then(((suf l j).dropWhile Jn).drop 1).dropWhile Jn else(suf l j).dropWhile Jn)/\
  ∃y,∀lo p q (i:Nat),lo<=p.length->QM (Zo lo p q) JA (pc b56 5 4) (P63 p q l i j [(23,x)])=some (.normal,P63 p q l i j' [(5,clo p q),(47,y)]):=by
 obtain⟨j1,a1,a2,a3,a4⟩:=f87 (l:=l) (i:=j) hl hj;have k0:=λlo p q=>f32 (lo:=lo) (l:=l) (i:=j1) (p:=p) (q:=q) (k:=0) om
 have k1:=λlo p q=>f32 (lo:=lo) (l:=l) (i:=j1) (p:=p) (q:=q) (k:=1) om
 have ks:=λlo p q=>f49 (lo:=lo) (l:=l) (i:=j1) (p:=p) (q:=q) (cs:=[46]) (by simp;omega)
 have hw:=JD (i:=j1) om;have n1:((1:Nat):Int)=1:=rfl;simp only[n0,n1,Ka,J4,qD]at k0 k1 ks;rw[<-a3];by_cases hf:(chr (suf l j1) 0==46&&Jn (chr (suf l j1) 1))=true
 ·rw[if_pos hf]
  rw[Ah]at hf;obtain⟨h46,hd⟩:=hf
  have hne:j1<l.length:=by
   rcases Ax j1 l.length with h|h
   ·exact h
   ·rw[JV h]at h46
    exact absurd h46 (by decide)
  obtain⟨j2,b1,b2,b3,b4⟩:=f87 (l:=l) (i:=j1+1) hl om;refine⟨j2,b1,om,by rw[b3];simp[suf,AC],.undef,λlo p q i hlo=>?_⟩
  simp only[go_sem,Zo,P63,H63,b56,Tryz.f56,a4 _ _ _ _ hlo,k0,k1,ks,f54,h46,hd,hw,hlo,b4 _ _ _ _ hlo,tokC,str_nil]<;>rfl
 ·rw[if_neg hf]
  refine⟨j1,a1,a2,rfl,.v (.bool false),λlo p q i hlo=>?_⟩
  cases h46:(chr (suf l j1) 0==46)with
  |true=>
   have hd:Jn (chr (suf l j1) 1)=false:=by simpa[h46]using hf
   simp only[go_sem,Zo,P63,H63,b56,Tryz.f56,a4 _ _ _ _ hlo,k0,k1,ks,f54,h46,hd,tokC,str_nil]<;>rfl
  |false=>simp only[go_sem,Zo,P63,H63,b56,Tryz.f56,a4 _ _ _ _ hlo,k0,k1,ks,f54,h46,tokC,str_nil]<;>rfl
theorem Jmy{x:V}(hl:l.length<=100000000000)(hj:j<=l.length):∃j',j'<=l.length/\j<=j'/\
  suf l j'=(if((chr (suf l j) 0==101||chr (suf l j) 0==69)&&Jn (chr (suf l j) (if(chr (suf l j) 1==43||chr (suf l j) 1==45)=true then 2 else 1)))=true
   then((suf l j).drop (if(chr (suf l j) 1==43||chr (suf l j) 1==45)=true then 2 else 1)).dropWhile Jn else suf l j)/\
  ∃ex:Ja,((∃x,ex=[(68,x)])\/ ∃x y,ex=[(7,x),(84,y)])/\ ∀lo p q (i:Nat),lo<=p.length->QM (Zo lo p q) JA (pc b56 9 3) (P63 p q l i j [(5,clo p q),(47,x)])=some (.normal,P63 p q l i j' ((5,clo p q)::ex)):=by
 have k0:=λlo p q=>f32 (lo:=lo) (l:=l) (i:=j) (p:=p) (q:=q) (k:=0) om
 have k1:=λlo p q=>f32 (lo:=lo) (l:=l) (i:=j) (p:=p) (q:=q) (k:=1) om
 have k2:=λlo p q=>f32 (lo:=lo) (l:=l) (i:=j) (p:=p) (q:=q) (k:=2) om
 have hw1:=JD (i:=j) om;have hw2:Ak.wrap ((j:Int)+2)=((j+2:Nat):Int):=by rw[JL om om];omega
 have n1:((1:Nat):Int)=1:=rfl;have n2:((2:Nat):Int)=2:=rfl;simp only[n0,n1,n2]at k0 k1 k2;have hlen:=Jv l j;by_cases he:(chr (suf l j) 0==101||chr (suf l j) 0==69)=true
 rotate_left
 ·rw[BU]at he
  rw[he,AZ,if_neg (by simp)]
  rw[B2]at he;obtain⟨h1,h2⟩:=he;refine⟨j,hj,Ac _,rfl,[(68,.v (.bool false))],.inl ⟨_,rfl⟩,λlo p q i hlo=>?_⟩
  simp only[go_sem,Zo,P63,H63,b56,Tryz.f56,k0,h1,h2,tokC,str_nil]<;>rfl
 rw[he,AR];by_cases hs:(chr (suf l j) 1==43||chr (suf l j) 1==45)=true
 ·rw[if_pos hs]
  by_cases hd:Jn (chr (suf l j) 2)=true
  ·rw[if_pos hd]
   have hne:j+2<=l.length:=by
    rcases Ax (j+1) l.length with h|h
    ·omega
    ·exfalso
     have:chr (suf l j) 1= -1:=by simp only[chr];rw[Bi om]
     rw[this]at hs;exact absurd hs (by decide)
   obtain⟨j2,b1,b2,b3,b4⟩:=f87 (l:=l) (i:=j+2) hl om;refine⟨j2,b1,om,by rw[b3];simp[suf,AC],[(68,.undef)],.inl ⟨_,rfl⟩,λlo p q i hlo=>?_⟩
   cases h1:(chr (suf l j) 0==101)<;>cases h43:(chr (suf l j) 1==43)<;>simp only[h1,h43,Br,Cb]at he hs<;>
    simp only[go_sem,Zo,P63,H63,b56,Tryz.f56,k0,k1,k2,f54,h1,he,h43,hs,hd,hw2,hlo,b4 _ _ _ _ hlo,tokC,str_nil]<;>rfl
  ·rw[if_neg hd]
   rw[BU]at hd;refine⟨j,hj,Ac _,rfl,[(7,.v (.int .i64 2)),(84,.v (.bool false))],.inr ⟨_,_,rfl⟩,λlo p q i hlo=>?_⟩
   cases h1:(chr (suf l j) 0==101)<;>cases h43:(chr (suf l j) 1==43)<;>simp only[h1,h43,Br,Cb]at he hs<;>
    simp only[go_sem,Zo,P63,H63,b56,Tryz.f56,k0,k1,k2,f54,h1,he,h43,hs,hd,tokC,str_nil]<;>rfl
 ·rw[if_neg hs]
  rw[BU,B2]at hs;obtain⟨h43,h45⟩:=hs;by_cases hd:Jn (chr (suf l j) 1)=true
  ·rw[if_pos hd]
   have hne:j+1<=l.length:=by
    rcases Ax j l.length with h|h
    ·omega
    ·exfalso
     rw[JV h]at he;exact absurd he (by decide)
   obtain⟨j2,b1,b2,b3,b4⟩:=f87 (l:=l) (i:=j+1) hl om;refine⟨j2,b1,om,by rw[b3];simp[suf,AC],[(68,.undef)],.inl ⟨_,rfl⟩,λlo p q i hlo=>?_⟩
   cases h1:(chr (suf l j) 0==101)<;>simp only[h1,Br,Cb]at he<;>
    simp only[go_sem,Zo,P63,H63,b56,Tryz.f56,k0,k1,k2,f54,h1,he,h43,h45,hd,hw1,hlo,b4 _ _ _ _ hlo,tokC,str_nil]<;>rfl
  ·rw[if_neg hd]
   rw[BU]at hd;refine⟨j,hj,Ac _,rfl,[(7,.v (.int .i64 1)),(84,.v (.bool false))],.inr ⟨_,_,rfl⟩,λlo p q i hlo=>?_⟩
   cases h1:(chr (suf l j) 0==101)<;>simp only[h1,Br,Cb]at he<;>
    simp only[go_sem,Zo,P63,H63,b56,Tryz.f56,k0,k1,k2,f54,h1,he,h43,h45,hd,tokC,str_nil]<;>rfl
end
section
variable{lo i j:Nat}{l:List Int}{p q:List Ob}
theorem Jmz{n:Nm}(hl:l.length<=100000000000)(hij:i<=j)(hj:j<=l.length)(ok:n.Ok)(hs:suf l i=n.text++suf l j){ex:Ja}(hex:(∃x,ex=[(68,x)])\/ ∃x y,ex=[(7,x),(84,y)])(hlo:lo<=p.length)(hlo2:lo<=p.length+(q.length+3)):
  QM (Zo lo p q) JA (pc b56 12 2) (P63 p q l i j ((5,clo p q)::ex))=some (.normal,[(1,.ptr (p.length+(q.length+1)) 0),(2,.ptr (p.length+(q.length+2)) 0),(8,.ptr (p.length+(q.length+3)) 0)],H63 p q l j [.cells (tkC ⟨0,[],n.num.1,n.num.2,false⟩)]):=by
 have hasc:=JRy ok;have hbt:=JMm hij hj hs hasc
 have hlen:n.text.length<=100000000000:=by have:=congrArg List.length hs;rw[Jv,List.length_append]at this;omega
 have hrb:=JOa hasc;have k112:∀lo h,lo<=h.length->E lo 88 [.v (.string (bs n.text))] h=some (.tup [.agg (JO n.num.1),.v (.bool n.num.2),.v (.int .i64 0)],h):=λlo h hh=>f88 ok hlen hh
 simp only[JO]at k112;rcases hex with⟨x,rfl⟩|⟨x,y,rfl⟩
 ·simp only[go_sem,Zo,P63,H63,b56,Tryz.f56,JG7,hbt,hij,hj,hrb,k112,Ac,hlo,hlo2,tokC,tkC,str_nil,JO]<;>rfl
 ·simp only[go_sem,Zo,P63,H63,b56,Tryz.f56,JG7,hbt,hij,hj,hrb,k112,Ac,hlo,hlo2,tokC,tkC,str_nil,JO]<;>rfl
theorem Jm0{m:Int×Int}{w:Bool}(hl:l.length<=100000000000)(hj:j<=l.length):∃j',j'<=l.length/\j<=j'/\
  ∃t:Tk,(t,suf l j')=(if beg (chr (suf l j) 0) (chr (suf l j) 1) (chr (suf l j) 2)=true then(⟨12,(name (suf l j)).1,m,w,false⟩,(name (suf l j)).2)
   else if chr (suf l j) 0=37 then(⟨11,[],m,w,false⟩,(suf l j).drop 1)else(⟨10,[],m,w,false⟩,suf l j))/\
  ∀lo p q,lo<=p.length->lo<=p.length+(q.length+2)->lo<=p.length+(q.length+3)->
   QM (Zo lo p q) JA (pc b56 14 3) ([(1,.ptr (p.length+(q.length+1)) 0),(2,.ptr (p.length+(q.length+2)) 0),(8,.ptr (p.length+(q.length+3)) 0)],H63 p q l j [.cells (tkC ⟨0,[],m,w,false⟩)])=
    some (.ret,[(2,.ptr (p.length+(q.length+2)) 0)],p++R l j'::(q++[.cells [.ptr p.length 0],.cells (tkC t),.cells (tkC t)])):=by
 have k0:=λlo p q=>f59 (lo:=lo) (l:=l) (i:=j) (p:=p) (q:=q) (k:=0) om
 have ks:=λlo p q=>f49 (lo:=lo) (l:=l) (i:=j) (p:=p) (q:=q) (cs:=[37]) (by simp;omega)
 have hw1:=JD (i:=j) om;simp only[n0,Ka,J4,qD,AB,CU]at k0 ks;by_cases hb:beg (chr (suf l j) 0) (chr (suf l j) 1) (chr (suf l j) 2)=true
 ·obtain⟨j2,b1,b2,b3,b4⟩:=f60 (l:=l) (i:=j) hl hj
  refine⟨j2,b1,b2,⟨12,(name (suf l j)).1,m,w,false⟩,by rw[if_pos hb,b3],λlo p q hlo hlo2 hlo3=>?_⟩
  simp only[go_sem,Zo,H63,b56,Tryz.f56,k0,hb,b4 _ _ _ hlo,hlo,hlo2,hlo3,tokC,tkC,str_nil]<;>rfl
 ·rw[if_neg hb]
  rw[BU]at hb;by_cases h37:chr (suf l j) 0=37
  ·have hne:j<l.length:=by
    rcases Ax j l.length with h|h
    ·exact h
    ·rw[JV h]at h37;cases h37
   rw[if_pos h37];have t37:(chr (suf l j) 0==37)=true:=by simp[h37]
   refine⟨j+1,om,om,⟨11,[],m,w,false⟩,by simp[suf,AC],λlo p q hlo hlo2 hlo3=>?_⟩
   simp only[go_sem,Zo,H63,b56,Tryz.f56,k0,ks,hb,t37,hw1,hlo,hlo2,hlo3,tokC,tkC,str_nil]<;>rfl
  ·rw[if_neg h37]
   have t37:(chr (suf l j) 0==37)=false:=by simp[h37]
   refine⟨j,hj,Ac _,⟨10,[],m,w,false⟩,rfl,λlo p q hlo hlo2 hlo3=>?_⟩
   simp only[go_sem,Zo,H63,b56,Tryz.f56,k0,ks,hb,t37,hlo,hlo2,hlo3,tokC,tkC,str_nil]<;>rfl
theorem Jf6{t:Tk}{r:List Ob}{o o2:Ob}:fin Aa [.cell 2 51] (p.length+(q.length+1)) (some (.ret,[(2,.ptr (p.length+(q.length+2)) 0)],p++o::(q++o2:: .cells (tkC t)::r)))=some (.agg (tkC t),p++o::q):=by simp only[go_sem,tkC]<;>rfl
theorem f56(hl:l.length<=100000000000)(hi:i<=l.length)(hn:num (chr (suf l i) 0) (chr (suf l i) 1) (chr (suf l i) 2)=true):
  ∃j,j<=l.length/\i<=j/\suf l j=(Qb (suf l i)).2/\
   ∀lo p q,lo<=p.length->E lo 56 [.ptr p.length 0] (p++R l i::q)=some (.agg (tkC (Qb (suf l i)).1),p++R l j::q):=by
 obtain⟨j1,a1,a2,a3,x,a4⟩:=Jmw (l:=l) (i:=i) hl hi;obtain⟨j2,b1,b2,b3,y,b4⟩:=Jmx (l:=l) (j:=j1) (x:=x) hl a1;obtain⟨j3,c1,c2,c3,ex,hex,c4⟩:=Jmy (l:=l) (j:=j2) (x:=y) hl b1
 have hrest:suf l j3=(numP (suf l i)).2:=by rw[c3,b3,a3];unfold numP;simp only
 have hok:=zx hn;have htext:=Hu (suf l i);rw[<-hrest]at htext;obtain⟨j4,d1,d2,t,d3,d4⟩:=Jm0 (l:=l) (j:=j3) (m:=(numP (suf l i)).1.num.1) (w:=(numP (suf l i)).1.num.2) hl c1
 have hfig:(t,suf l j4)=Qb (suf l i):=by rw[d3,hrest];unfold Qb;simp only
 refine⟨j4,d1,om,by rw[<-hfig],λlo p q hlo=>?_⟩
 have hlo2:lo<=p.length+(q.length+2):=om;have hlo3:lo<=p.length+(q.length+3):=om;have hH:(p++R l i::q).length=p.length+(q.length+1):=by simp
 rw[e56,hH]
 rw[pc_in,pc_go _ _ _ _ 0 5,a4 lo p q hlo,pc_go _ _ _ _ _ 4,b4 lo p q i hlo,pc_go _ _ _ _ _ 3,c4 lo p q i hlo,pc_go _ _ _ _ _ 2,
  Jmz hl om c1 hok htext.symm hex hlo hlo3,pc_go _ _ _ _ _ 3,d4 lo p q hlo hlo2 hlo3,Qw,<-hfig]
 exact Jf6
end
def hdC:Code->Code
 | .seq a _=>a
 |_=> .skip
def cdC:Code->Operand
 | .seq _ (.cond x _ _)=>x
 |_=> .const (.bool false)
def Zp:Code->Code
 | .seq _ (.cond _ a _)=>a
 |_=> .skip
def elC:Code->Code
 | .seq _ (.cond _ _ b)=>b
 |_=> .skip
def inC:Code->Code
 | .block _ a=>a
 |_=> .skip
def nthC(b:Code)(n:Nat):Code:=((flat b)[n]?).getD .skip
theorem Gq(a b:Code):hdC (.seq a b)=a:=rfl
theorem th_s(r:Code)(x:Operand)(a b:Code):Zp (.seq r (.cond x a b))=a:=rfl
theorem el_s(r:Code)(x:Operand)(a b:Code):elC (.seq r (.cond x a b))=b:=rfl
theorem in_s(id:Nat)(a:Code):inC (.block id a)=a:=rfl
theorem W7{c:Cx}{lp:YB}{N:Code}{s s':St}{b:Bool}(hN:N= .seq (hdC N) (.cond (cdC N) (Zp N) (elC N)))(hR:evCode c lp (hdC N) s=some (.normal,s'))(hx:opd s'.1 (cdC N)= .v (.bool b)):
  evCode c lp N s=if b=true then evCode c lp (Zp N) s' else evCode c lp (elC N) s':=by
 have e1:evCode c lp N s=evCode c lp (.seq (hdC N) (.cond (cdC N) (Zp N) (elC N))) s:=congrArg (λx=>evCode c lp x s) hN
 rw[e1,c_seq,hR,JKn,JPZ,hx,JPc]
noncomputable def Yf:Nat->Code
 |0=>inC (nthC b33 2)
 |k+1=>elC (Yf k)
theorem n27_0:Yf 0=inC (nthC b33 2):=rfl
theorem n27_s(k:Nat):Yf (k+1)=elC (Yf k):=rfl
theorem s27:∀k,k<=8->Yf k= .seq (hdC (Yf k)) (.cond (cdC (Yf k)) (Zp (Yf k)) (elC (Yf k))):=by intro k hk;have:k=0\/k=1\/k=2\/k=3\/k=4\/k=5\/k=6\/k=7\/k=8:=om;rcases this with rfl|rfl|rfl|rfl|rfl|rfl|rfl|rfl|rfl<;>rfl
section
variable{lo i j:Nat}{l:List Int}{p q:List Ob}
noncomputable abbrev X91(lo:Nat)(p q:List Ob):Cx:=⟨Aa,E,lo,p.length+(q.length+1),h33⟩
abbrev H27(p q:List Ob)(l:List Int)(i:Nat):Heap:=p++R l i::(q++[.cells (tokC 0 [])])
abbrev P27(p q:List Ob)(l:List Int)(i:Nat)(c:Int)(ex:Ja):Ja×Heap:=
 ((0,.ptr p.length 0)::(2,.ptr (p.length+(q.length+1)) 0)::(3,.v (.int .i32 c))::ex,H27 p q l i)
abbrev ret27(p q:List Ob)(l:List Int)(j:Nat)(t:Tk):Option (Ex×Ja×Heap):=some (.ret,[(2,.ptr (p.length+(q.length+1)) 0)],p++R l j::(q++[.cells (tkC t)]))
theorem tk27a(hi:i<=100000000000):QM (X91 lo p q) JA (pc b33 0 2) (K2 [.ptr p.length 0],p++R l i::q)=some (.normal,P27 p q l i (chr (suf l i) 0) []):=by
 have k0:=λlo p q=>f32 (lo:=lo) (l:=l) (i:=i) (p:=p) (q:=q) (k:=0) om
 simp only[n0]at k0;simp only[go_sem,X91,P27,H27,b33,Tryz.f33,k0,tokC,str_nil]<;>rfl
theorem q0{c:Int}:evCode (X91 lo p q) JA (Yf 0) (P27 p q l i c [])=if blk c=true then evCode (X91 lo p q) JA (Zp (Yf 0)) (P27 p q l i c [(9,.v (.bool true))])else evCode (X91 lo p q) JA (Yf 1) (P27 p q l i c [(9,.v (.bool false))]):=by
 rw[W7 (s':=P27 p q l i c [(9,.v (.bool (blk c)))]) (b:=blk c) (s27 0 om) ?_ rfl]
 ·cases blk c<;>rfl
 ·simp only[go_sem,n27_0,nthC,Gq,in_s,X91,P27,H27,b33,Tryz.f33,f50,tokC,str_nil]
theorem q1{c:Int}{x:V}:evCode (X91 lo p q) JA (Yf 1) (P27 p q l i c [(9,x)])=if quo c=true then evCode (X91 lo p q) JA (Zp (Yf 1)) (P27 p q l i c [(17,.v (.bool true))])else evCode (X91 lo p q) JA (Yf 2) (P27 p q l i c [(17,.v (.bool false))]):=by
 rw[W7 (s':=P27 p q l i c [(17,.v (.bool (quo c)))]) (b:=quo c) (s27 1 om) ?_ rfl]
 ·cases quo c<;>rfl
 ·simp only[go_sem,n27_0,n27_s,nthC,Gq,in_s,el_s,X91,P27,H27,b33,Tryz.f33,quo,tokC,str_nil]
theorem plainK_eq(c:Int):JLO c=zJ c:=rfl
theorem q2{c:Int}{x:V}:evCode (X91 lo p q) JA (Yf 2) (P27 p q l i c [(17,x)])=if 0<zJ c then evCode (X91 lo p q) JA (Zp (Yf 2)) (P27 p q l i c [(26,.v (.bool true))])else evCode (X91 lo p q) JA (Yf 3) (P27 p q l i c [(26,.v (.bool false))]):=by
 rw[W7 (s':=P27 p q l i c [(26,.v (.bool (decide (0<zJ c))))]) (b:=decide (0<zJ c)) (s27 2 om) ?_ rfl]
 ·by_cases h:0<zJ c
  ·rw[if_pos h,if_pos (by simp[h]),decide_eq_true h]
  ·rw[if_neg h,if_neg (by simp[h]),decide_eq_false h]
   rfl
 ·simp only[go_sem,n27_0,n27_s,nthC,Gq,in_s,el_s,X91,P27,H27,b33,Tryz.f33,f53,plainK_eq,tokC,str_nil]
theorem JaK(c d e:Int):((c==43||c==46||c==45||Jn c)&&num c d e)=num c d e:=by
 cases h:num c d e with
 |false=>simp
 |true=>
  rw[Bool.and_true];unfold num at h
  split at h
  ·rename_i h2
   simp only[AN,beq_iff_eq]at h2⊢;rcases h2 with h2|h2<;>simp[h2]
  ·simp only[AN,Ah,beq_iff_eq]at h⊢
   rcases h with h|h
   ·simp[h]
   ·simp[h.1]
theorem q3{x:V}(hi:i<=100000000000):evCode (X91 lo p q) JA (Yf 3) (P27 p q l i (chr (suf l i) 0) [(26,x)])=if num (chr (suf l i) 0) (chr (suf l i) 1) (chr (suf l i) 2)=true then evCode (X91 lo p q) JA (Zp (Yf 3)) (P27 p q l i (chr (suf l i) 0) [(42,.v (.bool true))])else evCode (X91 lo p q) JA (Yf 4) (P27 p q l i (chr (suf l i) 0) [(42,.v (.bool false))]):=by
 have k0:=λlo p q=>f55 (lo:=lo) (l:=l) (i:=i) (p:=p) (q:=q) (k:=0) om
 simp only[n0,AB,CU]at k0;rw[W7 (s':=P27 p q l i (chr (suf l i) 0) [(42,.v (.bool (num (chr (suf l i) 0) (chr (suf l i) 1) (chr (suf l i) 2))))]) (b:=num (chr (suf l i) 0) (chr (suf l i) 1) (chr (suf l i) 2)) (s27 3 om) ?_ rfl]
 ·cases num (chr (suf l i) 0) (chr (suf l i) 1) (chr (suf l i) 2)<;>rfl
 ·have hS:=JaK (chr (suf l i) 0) (chr (suf l i) 1) (chr (suf l i) 2)
  generalize num (chr (suf l i) 0) (chr (suf l i) 1) (chr (suf l i) 2)=b at*;generalize chr (suf l i) 0=c at*
  cases hb:b with
  |false=>
   rw[hb]at k0
   cases h1:(c==43)<;>cases h2:(c==46)<;>cases h3:(c==45)<;>cases h4:Jn c<;>simp only[go_sem,n27_0,n27_s,nthC,Gq,in_s,el_s,X91,P27,H27,b33,Tryz.f33,k0,f54,h1,h2,h3,h4,tokC,str_nil]
  |true=>
   rw[hb]at k0 hS
   cases h1:(c==43)<;>cases h2:(c==46)<;>cases h3:(c==45)<;>cases h4:Jn c<;>
    first
    |(exfalso;simp[h1,h2,h3,h4]at hS;done)
    |simp only[go_sem,n27_0,n27_s,nthC,Gq,in_s,el_s,X91,P27,H27,b33,Tryz.f33,k0,f54,h1,h2,h3,h4,tokC,str_nil]
theorem Jm1(s:List Int)(a b c:Int):isN s 0 [a,b,c]=(chr s 0==a&&(chr s 1==b&&chr s 2==c)):=by simp[isN]
theorem Jm2(s:List Int)(a b c d:Int):isN s 0 [a,b,c,d]=(chr s 0==a&&(chr s 1==b&&(chr s 2==c&&chr s 3==d))):=by simp[isN]
theorem q4{c:Int}{x:V}(hi:i<=100000000000):evCode (X91 lo p q) JA (Yf 4) (P27 p q l i c [(42,x)])=if chr (suf l i) 0=45/\chr (suf l i) 1=45/\chr (suf l i) 2=62 then evCode (X91 lo p q) JA (Zp (Yf 4)) (P27 p q l i c [(65,.v (.bool true))])else evCode (X91 lo p q) JA (Yf 5) (P27 p q l i c [(65,.v (.bool false))]):=by
 have ks:=λlo p q=>f49 (lo:=lo) (l:=l) (i:=i) (p:=p) (q:=q) (cs:=[45,45,62]) (by simp;omega)
 simp only[Ka,J4,Jm1]at ks;rw[W7 (s':=P27 p q l i c [(65,.v (.bool (chr (suf l i) 0==45&&(chr (suf l i) 1==45&&chr (suf l i) 2==62))))]) (b:=(chr (suf l i) 0==45&&(chr (suf l i) 1==45&&chr (suf l i) 2==62))) (s27 4 om) ?_ rfl]
 ·by_cases h:chr (suf l i) 0=45/\chr (suf l i) 1=45/\chr (suf l i) 2=62
  ·rw[if_pos h,if_pos (by simp[h])]
   simp only[h];rfl
  ·have hb:(chr (suf l i) 0==45&&(chr (suf l i) 1==45&&chr (suf l i) 2==62))=false:=by
    rw[Me];simpa using h
   rw[if_neg h,hb];rfl
 ·simp only[go_sem,n27_0,n27_s,nthC,Gq,in_s,el_s,X91,P27,H27,b33,Tryz.f33,ks,tokC,str_nil]
theorem q5{c:Int}{x:V}(hi:i<=100000000000):evCode (X91 lo p q) JA (Yf 5) (P27 p q l i c [(65,x)])=if chr (suf l i) 0=60/\chr (suf l i) 1=33/\chr (suf l i) 2=45/\chr (suf l i) 3=45 then evCode (X91 lo p q) JA (Zp (Yf 5)) (P27 p q l i c [(81,.v (.bool true))])else evCode (X91 lo p q) JA (Yf 6) (P27 p q l i c [(81,.v (.bool false))]):=by
 have ks:=λlo p q=>f49 (lo:=lo) (l:=l) (i:=i) (p:=p) (q:=q) (cs:=[60,33,45,45]) (by simp;omega)
 simp only[Ka,J4,Jm2]at ks;rw[W7 (s':=P27 p q l i c [(81,.v (.bool (chr (suf l i) 0==60&&(chr (suf l i) 1==33&&(chr (suf l i) 2==45&&chr (suf l i) 3==45)))))]) (b:=(chr (suf l i) 0==60&&(chr (suf l i) 1==33&&(chr (suf l i) 2==45&&chr (suf l i) 3==45)))) (s27 5 om) ?_ rfl]
 ·by_cases h:chr (suf l i) 0=60/\chr (suf l i) 1=33/\chr (suf l i) 2=45/\chr (suf l i) 3=45
  ·rw[if_pos h,if_pos (by simp[h])]
   simp only[h];rfl
  ·have hb:(chr (suf l i) 0==60&&(chr (suf l i) 1==33&&(chr (suf l i) 2==45&&chr (suf l i) 3==45)))=false:=by
    rw[Me];simpa using h
   rw[if_neg h,hb];rfl
 ·simp only[go_sem,n27_0,n27_s,nthC,Gq,in_s,el_s,X91,P27,H27,b33,Tryz.f33,ks,tokC,str_nil]
theorem q6{c:Int}{x:V}(hi:i<=100000000000):evCode (X91 lo p q) JA (Yf 6) (P27 p q l i c [(81,x)])=if c=35/\(j8 (chr (suf l i) 1)||Gi (chr (suf l i) 1) (chr (suf l i) 2))=true then evCode (X91 lo p q) JA (Zp (Yf 6)) (P27 p q l i c [(97,.v (.bool true))])else evCode (X91 lo p q) JA (Yf 7) (P27 p q l i c [(97,.v (.bool false))]):=by
 have k1:=λlo p q=>f32 (lo:=lo) (l:=l) (i:=i) (p:=p) (q:=q) (k:=1) om
 have ke:=λlo p q=>f58 (lo:=lo) (l:=l) (i:=i) (p:=p) (q:=q) (k:=1) om
 have n1:((1:Nat):Int)=1:=rfl;simp only[n1,CU]at k1 ke;rw[W7 (s':=P27 p q l i c [(97,.v (.bool (c==35&&(j8 (chr (suf l i) 1)||Gi (chr (suf l i) 1) (chr (suf l i) 2)))))]) (b:=(c==35&&(j8 (chr (suf l i) 1)||Gi (chr (suf l i) 1) (chr (suf l i) 2)))) (s27 6 om) ?_ rfl]
 ·cases hb:(c==35&&(j8 (chr (suf l i) 1)||Gi (chr (suf l i) 1) (chr (suf l i) 2)))with
  |true=>rw[if_pos rfl,if_pos (by simpa using hb)]
  |false=>
   rw[if_neg (by simp),if_neg (by intro h;rw[Dn]at hb;rcases hb with hb|hb;simp[h.1]at hb;rw[h.2]at hb;cases hb)]
   rfl
 ·cases h1:(c==35)<;>cases h2:j8 (chr (suf l i) 1)<;>
   simp only[go_sem,n27_0,n27_s,nthC,Gq,in_s,el_s,X91,P27,H27,b33,Tryz.f33,k1,ke,f57,h1,h2,AR,AZ,Cb,Br,tokC,str_nil]
abbrev Q27(p q:List Ob)(l:List Int)(i:Nat)(ex:Ja):Ja×Heap:=((0,.ptr p.length 0)::(2,.ptr (p.length+(q.length+1)) 0)::ex,H27 p q l i)
theorem q7{c:Int}{x:V}(hi:i<=100000000000):evCode (X91 lo p q) JA (Yf 7) (P27 p q l i c [(97,x)])=if c=64/\beg (chr (suf l i) 1) (chr (suf l i) 2) (chr (suf l i) 3)=true then evCode (X91 lo p q) JA (Zp (Yf 7)) (Q27 p q l i [(132,.v (.bool true))])else evCode (X91 lo p q) JA (Yf 8) (Q27 p q l i [(132,.v (.bool false))]):=by
 have ke:=λlo p q=>f59 (lo:=lo) (l:=l) (i:=i) (p:=p) (q:=q) (k:=1) om
 have n1:((1:Nat):Int)=1:=rfl;simp only[n1,CU]at ke;rw[W7 (s':=Q27 p q l i [(132,.v (.bool (c==64&&beg (chr (suf l i) 1) (chr (suf l i) 2) (chr (suf l i) 3))))]) (b:=(c==64&&beg (chr (suf l i) 1) (chr (suf l i) 2) (chr (suf l i) 3))) (s27 7 om) ?_ rfl]
 ·cases hb:(c==64&&beg (chr (suf l i) 1) (chr (suf l i) 2) (chr (suf l i) 3))with
  |true=>rw[if_pos rfl,if_pos (by simpa using hb)]
  |false=>
   rw[if_neg (by simp),if_neg (by intro h;rw[Dn]at hb;rcases hb with hb|hb;simp[h.1]at hb;rw[h.2]at hb;cases hb)]
   rfl
 ·cases h1:(c==64)<;>
   simp only[go_sem,n27_0,n27_s,nthC,Gq,in_s,el_s,X91,P27,H27,b33,Tryz.f33,Q27,ke,h1,AR,AZ,tokC,str_nil]
theorem q8{x:V}(hi:i<=100000000000):evCode (X91 lo p q) JA (Yf 8) (Q27 p q l i [(132,x)])=if beg (chr (suf l i) 0) (chr (suf l i) 1) (chr (suf l i) 2)=true then evCode (X91 lo p q) JA (Zp (Yf 8)) (Q27 p q l i [(155,.v (.bool true))])else some (.normal,Q27 p q l i [(155,.v (.bool false))]):=by
 have ke:=λlo p q=>f59 (lo:=lo) (l:=l) (i:=i) (p:=p) (q:=q) (k:=0) om
 simp only[n0,AB,CU]at ke;rw[W7 (s':=Q27 p q l i [(155,.v (.bool (beg (chr (suf l i) 0) (chr (suf l i) 1) (chr (suf l i) 2))))]) (b:=beg (chr (suf l i) 0) (chr (suf l i) 1) (chr (suf l i) 2)) (s27 8 om) ?_ rfl]
 ·cases beg (chr (suf l i) 0) (chr (suf l i) 1) (chr (suf l i) 2)<;>rfl
 ·simp only[go_sem,n27_0,n27_s,nthC,Gq,in_s,el_s,X91,P27,H27,b33,Tryz.f33,Q27,ke,tokC,str_nil]
theorem a0{c:Int}{x:V}(hl:l.length<=100000000000)(hi:i<=l.length):∃j,j<=l.length/\suf l j=Kb (suf l i)/\ ∀lo p q,lo<=p.length->lo<=p.length+(q.length+1)->
  evCode (X91 lo p q) JA (Zp (Yf 0)) (P27 p q l i c [(9,x)])=ret27 p q l j (tk 13 []):=by
 obtain⟨j,a1,a2,a3,a4⟩:=f51 (l:=l) (i:=i) hl hi;refine⟨j,a1,a3,λlo p q hlo hlo2=>?_⟩
 simp only[go_sem,n27_0,n27_s,nthC,th_s,in_s,el_s,X91,P27,H27,ret27,b33,Tryz.f33,a4 _ _ _ hlo,hlo2,tokC,tkC,tk,str_nil]<;>rfl
theorem JMq(x:Bool×List Int×List Int):(if x.1=true then tokC 5 x.2.1 else tokC 6 [])=tkC (JCm x):=by unfold JCm;cases x.1<;>rfl
theorem a1{c:Int}{t:List Int}{x:V}(hl:l.length<=100000000000)(hi:i<l.length)(hq:quo c=true)(hs:suf l i=c::t):∃j,j<=l.length/\suf l j=(txt c t).2.2/\ ∀lo p q,lo<=p.length->lo<=p.length+(q.length+1)->
  evCode (X91 lo p q) JA (Zp (Yf 1)) (P27 p q l i c [(17,x)])=ret27 p q l j (JCm (txt c t)):=by
 obtain⟨j,a1,a2,a3,a4⟩:=f52 (l:=l) (i:=i) hl hi hq hs;simp only[JMq,tkC]at a4;refine⟨j,a1,a3,λlo p q hlo hlo2=>?_⟩
 simp only[go_sem,n27_0,n27_s,nthC,th_s,in_s,el_s,X91,P27,H27,ret27,b33,Tryz.f33,a4 _ _ _ hlo,hlo2,tokC,tkC,str_nil]<;>rfl
theorem a2{c:Int}{x:V}(hl:i<=100000000000):∀lo p q,lo<=p.length->lo<=p.length+(q.length+1)->
  evCode (X91 lo p q) JA (Zp (Yf 2)) (P27 p q l i c [(26,x)])=ret27 p q l (i+1) (tk (zJ c) []):=by
 have hw1:=JD (i:=i) om;intro lo p q hlo hlo2;simp only[go_sem,n27_0,n27_s,nthC,th_s,in_s,el_s,X91,P27,H27,ret27,b33,Tryz.f33,f53,plainK_eq,hw1,hlo,hlo2,tokC,tkC,tk,str_nil]<;>rfl
theorem a3{c:Int}{x:V}(hl:l.length<=100000000000)(hi:i<=l.length)(hn:num (chr (suf l i) 0) (chr (suf l i) 1) (chr (suf l i) 2)=true):∃j,j<=l.length/\suf l j=(Qb (suf l i)).2/\ ∀lo p q,lo<=p.length->lo<=p.length+(q.length+1)->
  evCode (X91 lo p q) JA (Zp (Yf 3)) (P27 p q l i c [(42,x)])=ret27 p q l j (Qb (suf l i)).1:=by
 obtain⟨j,a1,a2,a3,a4⟩:=f56 (l:=l) (i:=i) hl hi hn;simp only[tkC]at a4;refine⟨j,a1,a3,λlo p q hlo hlo2=>?_⟩
 simp only[go_sem,n27_0,n27_s,nthC,th_s,in_s,el_s,X91,P27,H27,ret27,b33,Tryz.f33,a4 _ _ _ hlo,hlo2,tokC,tkC,str_nil]<;>rfl
theorem a4{c:Int}{x:V}(hl:i<=100000000000):∀lo p q,lo<=p.length->lo<=p.length+(q.length+1)->
  evCode (X91 lo p q) JA (Zp (Yf 4)) (P27 p q l i c [(65,x)])=ret27 p q l (i+3) (tk 15 []):=by
 have hw1:Ak.wrap ((i:Int)+3)=((i+3:Nat):Int):=by rw[JL om om];omega
 intro lo p q hlo hlo2;simp only[go_sem,n27_0,n27_s,nthC,th_s,in_s,el_s,X91,P27,H27,ret27,b33,Tryz.f33,hw1,hlo,hlo2,tokC,tkC,tk,str_nil]<;>rfl
theorem a5{c:Int}{x:V}(hl:i<=100000000000):∀lo p q,lo<=p.length->lo<=p.length+(q.length+1)->
  evCode (X91 lo p q) JA (Zp (Yf 5)) (P27 p q l i c [(81,x)])=ret27 p q l (i+4) (tk 14 []):=by
 have hw1:Ak.wrap ((i:Int)+4)=((i+4:Nat):Int):=by rw[JL om om];omega
 intro lo p q hlo hlo2;simp only[go_sem,n27_0,n27_s,nthC,th_s,in_s,el_s,X91,P27,H27,ret27,b33,Tryz.f33,hw1,hlo,hlo2,tokC,tkC,tk,str_nil]<;>rfl
theorem a6{c:Int}{x:V}(hl:l.length<=100000000000)(hi:i<l.length):∃j,j<=l.length/\suf l j=(name ((suf l i).drop 1)).2/\ ∀lo p q,lo<=p.length->lo<=p.length+(q.length+1)->
  evCode (X91 lo p q) JA (Zp (Yf 6)) (P27 p q l i c [(97,x)])=ret27 p q l j ⟨4,(name ((suf l i).drop 1)).1,(0,0),false,beg (chr (suf l i) 1) (chr (suf l i) 2) (chr (suf l i) 3)⟩:=by
 have hw1:=JD (i:=i) om;have ke:=λlo p q=>f59 (lo:=lo) (l:=l) (i:=i) (p:=p) (q:=q) (k:=1) om
 have n1:((1:Nat):Int)=1:=rfl;simp only[n1,CU]at ke;obtain⟨j,a1,a2,a3,a4⟩:=f60 (l:=l) (i:=i+1) hl om;have e1:suf l (i+1)=(suf l i).drop 1:=by simp[suf,AC]
 rw[e1]at a3 a4;refine⟨j,a1,a3,λlo p q hlo hlo2=>?_⟩
 simp only[go_sem,n27_0,n27_s,nthC,th_s,in_s,el_s,X91,P27,H27,ret27,b33,Tryz.f33,ke,hw1,a4 _ _ _ hlo,hlo,hlo2,tokC,tkC,str_nil]<;>rfl
theorem a7{x:V}(hl:l.length<=100000000000)(hi:i<l.length):∃j,j<=l.length/\suf l j=(name ((suf l i).drop 1)).2/\ ∀lo p q,lo<=p.length->lo<=p.length+(q.length+1)->
  evCode (X91 lo p q) JA (Zp (Yf 7)) (Q27 p q l i [(132,x)])=ret27 p q l j (tk 3 (name ((suf l i).drop 1)).1):=by
 have hw1:=JD (i:=i) om;obtain⟨j,a1,a2,a3,a4⟩:=f60 (l:=l) (i:=i+1) hl om;have e1:suf l (i+1)=(suf l i).drop 1:=by simp[suf,AC]
 rw[e1]at a3 a4;refine⟨j,a1,a3,λlo p q hlo hlo2=>?_⟩
 simp only[go_sem,n27_0,n27_s,nthC,th_s,in_s,el_s,X91,P27,H27,ret27,b33,Tryz.f33,Q27,hw1,a4 _ _ _ hlo,hlo,hlo2,tokC,tkC,tk,str_nil]<;>rfl
theorem a8{x:V}(hl:l.length<=100000000000)(hi:i<=l.length):∃j,j<=l.length/\suf l j=(HT (suf l i)).2/\ ∀lo p q,lo<=p.length->lo<=p.length+(q.length+1)->
  evCode (X91 lo p q) JA (Zp (Yf 8)) (Q27 p q l i [(155,x)])=ret27 p q l j (HT (suf l i)).1:=by
 obtain⟨j,a1,a2,a3,a4⟩:=f61 (l:=l) (i:=i) hl hi;simp only[tkC]at a4;refine⟨j,a1,a3,λlo p q hlo hlo2=>?_⟩
 simp only[go_sem,n27_0,n27_s,nthC,th_s,in_s,el_s,X91,P27,H27,ret27,b33,Tryz.f33,Q27,a4 _ _ _ hlo,hlo2,tokC,tkC,str_nil]<;>rfl
theorem a9{x:V}(hi:i<=100000000000):∀lo p q,lo<=p.length->lo<=p.length+(q.length+1)->
  QM (X91 lo p q) JA (pc b33 3 2) (Q27 p q l i [(155,x)])=ret27 p q l (i+1) (tk 9 [chr (suf l i) 0]):=by
 have kt:=λlo p q hlo=>f63 (lo:=lo) (l:=l) (i:=i) (p:=p) (q:=q) hlo om
 have k69:=λlo h=>JOJ (lo:=lo) (l:=[chr (suf l i) 0]) (h:=h) (by simp)
 have es:(⟨(WN (Q2 [chr (suf l i) 0])).toArray⟩:ByteArray)=str [chr (suf l i) 0]:=rfl;simp only[Ka,J4]at k69;intro lo p q hlo hlo2;simp only[go_sem,X91,Q27,H27,ret27,b33,Tryz.f33,kt _ _ _ hlo,k69,es,hlo2,tokC,tkC,tk,str_nil]<;>rfl
theorem Jf8:flat b33=[nthC b33 0,nthC b33 1,.block 0 (Yf 0),nthC b33 3,nthC b33 4]:=rfl
theorem f33(hl:l.length<=100000000000)(hi:i<l.length):∃j,j<=l.length/\suf l j=(QK (suf l i)).2/\
  ∀lo p q,lo<=p.length->E lo 33 [.ptr p.length 0] (p++R l i::q)=some (.agg (tkC (QK (suf l i)).1),p++R l j::q):=by
 have hH:∀p q:List Ob,(p++R l i::q).length=p.length+(q.length+1):=λp q=>by simp
 have hin:i<=100000000000:=om
 have fin_:∀(j:Nat) (t:Tk),(∀lo p q,lo<=p.length->lo<=p.length+(q.length+1)->evCode (X91 lo p q) JA (Yf 0) (P27 p q l i (chr (suf l i) 0) [])=ret27 p q l j t)->
   ∀lo p q,lo<=p.length->E lo 33 [.ptr p.length 0] (p++R l i::q)=some (.agg (tkC t),p++R l j::q):=by
  intro j t hq lo p q hlo;rw[e33,hH,pc_in,pc_go _ _ _ _ 0 2,tk27a hin,pc_go _ _ _ _ _ 1]
  have hB:QM (X91 lo p q) JA (pc b33 2 1) (P27 p q l i (chr (suf l i) 0) [])=ret27 p q l j t:=by
   unfold pc;rw[Jf8];show QM (X91 lo p q) JA [.block 0 (Yf 0)] _=_
   rw[one_l,ka,hq lo p q hlo om];rfl
  rw[hB,ret27,Qw];exact qV
 have fin2:(∀lo p q,lo<=p.length->lo<=p.length+(q.length+1)->evCode (X91 lo p q) JA (Yf 0) (P27 p q l i (chr (suf l i) 0) [])=some (.normal,Q27 p q l i [(155,.v (.bool false))]))->
   ∀lo p q,lo<=p.length->E lo 33 [.ptr p.length 0] (p++R l i::q)=some (.agg (tkC (tk 9 [chr (suf l i) 0])),p++R l (i+1)::q):=by
  intro hq lo p q hlo;rw[e33,hH,pc_in,pc_go _ _ _ _ 0 2,tk27a hin,pc_go _ _ _ _ _ 1]
  have hB:QM (X91 lo p q) JA (pc b33 2 1) (P27 p q l i (chr (suf l i) 0) [])=some (.normal,Q27 p q l i [(155,.v (.bool false))]):=by
   unfold pc;rw[Jf8];show QM (X91 lo p q) JA [.block 0 (Yf 0)] _=_
   rw[one_l,ka,hq lo p q hlo om];rfl
  rw[hB,pc_go _ _ _ _ _ 2,a9 hin lo p q hlo om,ret27,Qw];exact qV
 have hd1:∀k,suf l (i+k)=(suf l i).drop k:=λk=>by simp[suf,AC]
 have hgt:∀k c,chr (suf l i) k=c->c≠ -1->i+k<l.length:=λk c h hc=>by
  rcases Ax (i+k) l.length with h2|h2
  ·exact h2
  ·exfalso
   have:(suf l i)[k]? =none:=Bi (by rw[Jv];omega)
   simp only[chr,this]at h;exact hc h.symm
 unfold QK;simp only;by_cases h0:blk (chr (suf l i) 0)=true
 ·obtain⟨j,a1,a2,a3⟩:=a0 (c:=chr (suf l i) 0) (x:= .v (.bool true)) hl (C4 hi)
  rw[if_pos h0];exact⟨j,a1,a2,fin_ j _ λlo p q hlo hlo2=>by rw[q0,if_pos h0,a3 lo p q hlo hlo2]⟩
 rw[if_neg h0];by_cases h1:quo (chr (suf l i) 0)=true
 ·obtain⟨j,b1,b2,b3⟩:=a1 (x:= .v (.bool true)) hl hi h1 (Jb hi)
  rw[if_pos h1,<-hd1];exact⟨j,b1,b2,fin_ j _ λlo p q hlo hlo2=>by rw[q0,if_neg h0,q1,if_pos h1,b3 lo p q hlo hlo2]⟩
 rw[if_neg h1];by_cases h2:0<zJ (chr (suf l i) 0)
 ·rw[if_pos h2]
  exact⟨i+1,om,hd1 1,fin_ (i+1) _ λlo p q hlo hlo2=>by rw[q0,if_neg h0,q1,if_neg h1,q2,if_pos h2,a2 hin lo p q hlo hlo2]⟩
 rw[if_neg h2];by_cases h3:num (chr (suf l i) 0) (chr (suf l i) 1) (chr (suf l i) 2)=true
 ·obtain⟨j,b1,b2,b3⟩:=a3 (c:=chr (suf l i) 0) (x:= .v (.bool true)) hl (C4 hi) h3
  rw[if_pos h3];exact⟨j,b1,b2,fin_ j _ λlo p q hlo hlo2=>by rw[q0,if_neg h0,q1,if_neg h1,q2,if_neg h2,q3 hin,if_pos h3,b3 lo p q hlo hlo2]⟩
 rw[if_neg h3];by_cases h4:chr (suf l i) 0=45/\chr (suf l i) 1=45/\chr (suf l i) 2=62
 ·have:=hgt 2 62 h4.2.2 (by decide)
  rw[if_pos h4];exact⟨i+3,om,hd1 3,fin_ (i+3) _ λlo p q hlo hlo2=>by rw[q0,if_neg h0,q1,if_neg h1,q2,if_neg h2,q3 hin,if_neg h3,q4 hin,if_pos h4,a4 hin lo p q hlo hlo2]⟩
 rw[if_neg h4];by_cases h5:chr (suf l i) 0=60/\chr (suf l i) 1=33/\chr (suf l i) 2=45/\chr (suf l i) 3=45
 ·have:=hgt 3 45 h5.2.2.2 (by decide)
  rw[if_pos h5];exact⟨i+4,om,hd1 4,fin_ (i+4) _ λlo p q hlo hlo2=>by rw[q0,if_neg h0,q1,if_neg h1,q2,if_neg h2,q3 hin,if_neg h3,q4 hin,if_neg h4,q5 hin,if_pos h5,a5 hin lo p q hlo hlo2]⟩
 rw[if_neg h5];by_cases h6:chr (suf l i) 0=35/\(j8 (chr (suf l i) 1)||Gi (chr (suf l i) 1) (chr (suf l i) 2))=true
 ·obtain⟨j,b1,b2,b3⟩:=a6 (c:=chr (suf l i) 0) (x:= .v (.bool true)) hl hi
  rw[if_pos h6];exact⟨j,b1,b2,fin_ j _ λlo p q hlo hlo2=>by rw[q0,if_neg h0,q1,if_neg h1,q2,if_neg h2,q3 hin,if_neg h3,q4 hin,if_neg h4,q5 hin,if_neg h5,q6 hin,if_pos h6,b3 lo p q hlo hlo2]⟩
 rw[if_neg h6];by_cases h7:chr (suf l i) 0=64/\beg (chr (suf l i) 1) (chr (suf l i) 2) (chr (suf l i) 3)=true
 ·obtain⟨j,b1,b2,b3⟩:=a7 (x:= .v (.bool true)) hl hi
  rw[if_pos h7];exact⟨j,b1,b2,fin_ j _ λlo p q hlo hlo2=>by rw[q0,if_neg h0,q1,if_neg h1,q2,if_neg h2,q3 hin,if_neg h3,q4 hin,if_neg h4,q5 hin,if_neg h5,q6 hin,if_neg h6,q7 hin,if_pos h7,b3 lo p q hlo hlo2]⟩
 rw[if_neg h7];by_cases h8:beg (chr (suf l i) 0) (chr (suf l i) 1) (chr (suf l i) 2)=true
 ·obtain⟨j,b1,b2,b3⟩:=a8 (x:= .v (.bool true)) hl (C4 hi)
  rw[if_pos h8];exact⟨j,b1,b2,fin_ j _ λlo p q hlo hlo2=>by rw[q0,if_neg h0,q1,if_neg h1,q2,if_neg h2,q3 hin,if_neg h3,q4 hin,if_neg h4,q5 hin,if_neg h5,q6 hin,if_neg h6,q7 hin,if_neg h7,q8 hin,if_pos h8,b3 lo p q hlo hlo2]⟩
 rw[if_neg h8];exact⟨i+1,om,hd1 1,fin2 λlo p q hlo hlo2=>by rw[q0,if_neg h0,q1,if_neg h1,q2,if_neg h2,q3 hin,if_neg h3,q4 hin,if_neg h4,q5 hin,if_neg h5,q6 hin,if_neg h6,q7 hin,if_neg h7,q8 hin,if_neg h8]⟩
end
end Go.Lift.W1.T
end

section
open Go.Proofs
namespace Go.Lift.W1.T
variable[MX]
@[go_sem] theorem JrM[HasK]:GTab.tab 0=some [.v (.int .i64 21),.v (.int .i64 22),.v (.int .i64 19),.v (.int .i64 20),.v (.int .i64 23),.v (.int .i64 24),.v (.int .i64 18),.v (.int .i64 16),.v (.int .i64 17)]:=if_pos HasK.h
variable[HasK]
open Utf Tok
theorem JD8(c:Int):(zJ c=0/\c≠40/\c≠41/\c≠91/\c≠93/\c≠123/\c≠125/\c≠44/\c≠58/\c≠59)\/(0<zJ c/\blk c=false/\quo c=false):=by
 unfold zJ;by_cases h1:c=40;· subst h1;right;decide
 by_cases h2:c=41;· subst h2;right;decide
 by_cases h3:c=44;· subst h3;right;decide
 by_cases h4:c=58;· subst h4;right;decide
 by_cases h5:c=59;· subst h5;right;decide
 by_cases h6:c=91;· subst h6;right;decide
 by_cases h7:c=93;· subst h7;right;decide
 by_cases h8:c=123;· subst h8;right;decide
 by_cases h9:c=125;· subst h9;right;decide
 left
 simp only[h1,h2,h3,h4,h5,h6,h7,h8,h9,if_false];exact⟨trivial,om⟩
theorem JOc(s:List Int):QK s=
  if 0<zJ (chr s 0)then(tk (zJ (chr s 0)) [],s.drop 1)
  else if blk (chr s 0)=true then(tk 13 [],Kb s)
  else if quo (chr s 0)=true then(JCm (txt (chr s 0) (s.drop 1)),(txt (chr s 0) (s.drop 1)).2.2)
  else if chr s 0=35/\(j8 (chr s 1)||Gi (chr s 1) (chr s 2))=true then(⟨4,(name (s.drop 1)).1,(0,0),false,beg (chr s 1) (chr s 2) (chr s 3)⟩,(name (s.drop 1)).2)
  else if num (chr s 0) (chr s 1) (chr s 2)=true then Qb s
  else if chr s 0=45/\chr s 1=45/\chr s 2=62 then(tk 15 [],s.drop 3)
  else if chr s 0=60/\chr s 1=33/\chr s 2=45/\chr s 3=45 then(tk 14 [],s.drop 4)
  else if chr s 0=64/\beg (chr s 1) (chr s 2) (chr s 3)=true then(tk 3 (name (s.drop 1)).1,(name (s.drop 1)).2)
  else if beg (chr s 0) (chr s 1) (chr s 2)=true then HT s
  else(tk 9 [chr s 0],s.drop 1):=by
 unfold QK;simp only;rcases JD8 (chr s 0)with⟨h0,_⟩|⟨h0,h1,h2⟩
 ·rw[h0]
  simp only[Int.lt_irrefl,if_false];by_cases h35:chr s 0=35/\(j8 (chr s 1)||Gi (chr s 1) (chr s 2))=true
  ·have hc:=h35.1
   rw[if_pos h35,if_pos h35,hc];have e1:num 35 (chr s 1) (chr s 2)=false:=by simp[num,Jn]
   rw[e1];simp
  ·rw[if_neg h35,if_neg h35]
 ·rw[h1,h2]
  simp[h0]
noncomputable def Y6:Nat->Code
 |0=>inC (nthC b44 4)
 |k+1=>elC (Y6 k)
theorem n30_0:Y6 0=inC (nthC b44 4):=rfl
theorem n30_s(k:Nat):Y6 (k+1)=elC (Y6 k):=rfl
theorem s30:∀k,k<=7->Y6 k= .seq (hdC (Y6 k)) (.cond (cdC (Y6 k)) (Zp (Y6 k)) (elC (Y6 k))):=by intro k hk;have:k=0\/k=1\/k=2\/k=3\/k=4\/k=5\/k=6\/k=7:=om;rcases this with rfl|rfl|rfl|rfl|rfl|rfl|rfl|rfl<;>rfl
theorem Jf9:flat b44=[nthC b44 0,nthC b44 1,nthC b44 2,nthC b44 3,.block 2 (Y6 0),nthC b44 5,nthC b44 6,nthC b44 7]:=rfl
theorem YO{c:Cx}{lp:YB}{N:Code}{s:St}{S:Bool->St}{b:Bool}(hN:N= .seq (hdC N) (.cond (cdC N) (Zp N) (elC N)))(hR:evCode c lp (hdC N) s=some (.normal,S b))(hx:opd (S b).1 (cdC N)= .v (.bool b)):
  evCode c lp N s=if b=true then evCode c lp (Zp N) (S true)else evCode c lp (elC N) (S false):=by
 rw[W7 hN hR hx];cases b<;>rfl
section
variable{lo i j:Nat}{l:List Int}{p q:List Ob}{c d e:Int}
noncomputable abbrev X95(lo:Nat)(p q:List Ob):Cx:=⟨Aa,E,lo,p.length+(q.length+1),h44⟩
abbrev P30(p q:List Ob)(l:List Int)(i:Nat)(c d e:Int)(ex:Ja):Ja×Heap:=
 ((0,.ptr p.length 0)::(2,.ptr (p.length+(q.length+1)) 0)::(3,.v (.int .i32 c))::(4,.v (.int .i32 d))::(5,.v (.int .i32 e))::ex,H27 p q l i)
theorem tk30a(hi:i<=100000000000):QM (X95 lo p q) JA (pc b44 0 3) (K2 [.ptr p.length 0],p++R l i::q)=some (.normal,P30 p q l i (chr (suf l i) 0) (chr (suf l i) 1) (chr (suf l i) 2) [(14,.v (.int .i64 0))]):=by
 have k0:=λlo p q=>f43 (lo:=lo) (l:=l) (i:=i) (p:=p) (q:=q) (k:=0) om
 have k1:=λlo p q=>f43 (lo:=lo) (l:=l) (i:=i) (p:=p) (q:=q) (k:=1) om
 have k2:=λlo p q=>f43 (lo:=lo) (l:=l) (i:=i) (p:=p) (q:=q) (k:=2) om
 have n1:((1:Nat):Int)=1:=rfl;have n2:((2:Nat):Int)=2:=rfl;simp only[n0,n1,n2]at k0 k1 k2;simp only[go_sem,X95,P30,H27,b44,Tryz.f44,k0,k1,k2,tokC,str_nil]<;>rfl
theorem jO(hi:i<=100000000000)(hlo:lo<=p.length)(hlo2:lo<=p.length+(q.length+1)):evCode (X95 lo p q) JA K0 (P30 p q l i c d e [(14,.v (.int .i64 0))])=if c=40 then ret27 p q l (i+1) (tk 21 [])else some (.normal,P30 p q l i c d e [(14,.v (.int .i64 1))]):=by
 have hw1:=JD (i:=i) om;have hlt:decide ((0:Int)<9)=true:=rfl;have hw:Ak.wrap ((0:Int)+1)=1:=rfl;have hu:((B7 40:Nat):Int)=40:=rfl;have hi3:Az.wrap 40=40:=rfl;have hz:(((0:Int)).toNat)=0:=rfl;have n9:((9:Nat):Int)=9:=rfl;have hlt2:(0:Int)<9:=by decide
 by_cases h:c=40
 ·have t:((40:Int)==c)=true:=by simp[h]
  rw[if_pos h];simp only[go_sem,X95,P30,H27,ret27,K0,b44,Tryz.f44,hlt,hu,hi3,hz,n9,hlt2,t,hw1,hlo,hlo2,tokC,tkC,tk,str_nil]<;>rfl
 ·have t:((40:Int)==c)=false:=by simp;omega
  rw[if_neg h];simp only[go_sem,X95,P30,H27,ret27,K0,b44,Tryz.f44,hlt,hu,hi3,hz,t,hw,tokC,str_nil]<;>rfl
theorem qW(hi:i<=100000000000)(hlo:lo<=p.length)(hlo2:lo<=p.length+(q.length+1)):evCode (X95 lo p q) JA K0 (P30 p q l i c d e [(14,.v (.int .i64 1))])=if c=41 then ret27 p q l (i+1) (tk 22 [])else some (.normal,P30 p q l i c d e [(14,.v (.int .i64 2))]):=by
 have hw1:=JD (i:=i) om;have hlt:decide ((1:Int)<9)=true:=rfl;have hw:Ak.wrap ((1:Int)+1)=2:=rfl;have hu:((B7 41:Nat):Int)=41:=rfl;have hi3:Az.wrap 41=41:=rfl;have hz:(((1:Int)).toNat)=1:=rfl;have n9:((9:Nat):Int)=9:=rfl;have hlt2:(1:Int)<9:=by decide
 by_cases h:c=41
 ·have t:((41:Int)==c)=true:=by simp[h]
  rw[if_pos h];simp only[go_sem,X95,P30,H27,ret27,K0,b44,Tryz.f44,hlt,hu,hi3,hz,n9,hlt2,t,hw1,hlo,hlo2,tokC,tkC,tk,str_nil]<;>rfl
 ·have t:((41:Int)==c)=false:=by simp;omega
  rw[if_neg h];simp only[go_sem,X95,P30,H27,ret27,K0,b44,Tryz.f44,hlt,hu,hi3,hz,t,hw,tokC,str_nil]<;>rfl
theorem zO(hi:i<=100000000000)(hlo:lo<=p.length)(hlo2:lo<=p.length+(q.length+1)):evCode (X95 lo p q) JA K0 (P30 p q l i c d e [(14,.v (.int .i64 2))])=if c=91 then ret27 p q l (i+1) (tk 19 [])else some (.normal,P30 p q l i c d e [(14,.v (.int .i64 3))]):=by
 have hw1:=JD (i:=i) om;have hlt:decide ((2:Int)<9)=true:=rfl;have hw:Ak.wrap ((2:Int)+1)=3:=rfl;have hu:((B7 91:Nat):Int)=91:=rfl;have hi3:Az.wrap 91=91:=rfl;have hz:(((2:Int)).toNat)=2:=rfl;have n9:((9:Nat):Int)=9:=rfl;have hlt2:(2:Int)<9:=by decide
 by_cases h:c=91
 ·have t:((91:Int)==c)=true:=by simp[h]
  rw[if_pos h];simp only[go_sem,X95,P30,H27,ret27,K0,b44,Tryz.f44,hlt,hu,hi3,hz,n9,hlt2,t,hw1,hlo,hlo2,tokC,tkC,tk,str_nil]<;>rfl
 ·have t:((91:Int)==c)=false:=by simp;omega
  rw[if_neg h];simp only[go_sem,X95,P30,H27,ret27,K0,b44,Tryz.f44,hlt,hu,hi3,hz,t,hw,tokC,str_nil]<;>rfl
theorem JCK(hi:i<=100000000000)(hlo:lo<=p.length)(hlo2:lo<=p.length+(q.length+1)):evCode (X95 lo p q) JA K0 (P30 p q l i c d e [(14,.v (.int .i64 3))])=if c=93 then ret27 p q l (i+1) (tk 20 [])else some (.normal,P30 p q l i c d e [(14,.v (.int .i64 4))]):=by
 have hw1:=JD (i:=i) om;have hlt:decide ((3:Int)<9)=true:=rfl;have hw:Ak.wrap ((3:Int)+1)=4:=rfl;have hu:((B7 93:Nat):Int)=93:=rfl;have hi3:Az.wrap 93=93:=rfl;have hz:(((3:Int)).toNat)=3:=rfl;have n9:((9:Nat):Int)=9:=rfl;have hlt2:(3:Int)<9:=by decide
 by_cases h:c=93
 ·have t:((93:Int)==c)=true:=by simp[h]
  rw[if_pos h];simp only[go_sem,X95,P30,H27,ret27,K0,b44,Tryz.f44,hlt,hu,hi3,hz,n9,hlt2,t,hw1,hlo,hlo2,tokC,tkC,tk,str_nil]<;>rfl
 ·have t:((93:Int)==c)=false:=by simp;omega
  rw[if_neg h];simp only[go_sem,X95,P30,H27,ret27,K0,b44,Tryz.f44,hlt,hu,hi3,hz,t,hw,tokC,str_nil]<;>rfl
theorem JD9(hi:i<=100000000000)(hlo:lo<=p.length)(hlo2:lo<=p.length+(q.length+1)):evCode (X95 lo p q) JA K0 (P30 p q l i c d e [(14,.v (.int .i64 4))])=if c=123 then ret27 p q l (i+1) (tk 23 [])else some (.normal,P30 p q l i c d e [(14,.v (.int .i64 5))]):=by
 have hw1:=JD (i:=i) om;have hlt:decide ((4:Int)<9)=true:=rfl;have hw:Ak.wrap ((4:Int)+1)=5:=rfl;have hu:((B7 123:Nat):Int)=123:=rfl;have hi3:Az.wrap 123=123:=rfl;have hz:(((4:Int)).toNat)=4:=rfl;have n9:((9:Nat):Int)=9:=rfl;have hlt2:(4:Int)<9:=by decide
 by_cases h:c=123
 ·have t:((123:Int)==c)=true:=by simp[h]
  rw[if_pos h];simp only[go_sem,X95,P30,H27,ret27,K0,b44,Tryz.f44,hlt,hu,hi3,hz,n9,hlt2,t,hw1,hlo,hlo2,tokC,tkC,tk,str_nil]<;>rfl
 ·have t:((123:Int)==c)=false:=by simp;omega
  rw[if_neg h];simp only[go_sem,X95,P30,H27,ret27,K0,b44,Tryz.f44,hlt,hu,hi3,hz,t,hw,tokC,str_nil]<;>rfl
theorem JJw(hi:i<=100000000000)(hlo:lo<=p.length)(hlo2:lo<=p.length+(q.length+1)):evCode (X95 lo p q) JA K0 (P30 p q l i c d e [(14,.v (.int .i64 5))])=if c=125 then ret27 p q l (i+1) (tk 24 [])else some (.normal,P30 p q l i c d e [(14,.v (.int .i64 6))]):=by
 have hw1:=JD (i:=i) om;have hlt:decide ((5:Int)<9)=true:=rfl;have hw:Ak.wrap ((5:Int)+1)=6:=rfl;have hu:((B7 125:Nat):Int)=125:=rfl;have hi3:Az.wrap 125=125:=rfl;have hz:(((5:Int)).toNat)=5:=rfl;have n9:((9:Nat):Int)=9:=rfl;have hlt2:(5:Int)<9:=by decide
 by_cases h:c=125
 ·have t:((125:Int)==c)=true:=by simp[h]
  rw[if_pos h];simp only[go_sem,X95,P30,H27,ret27,K0,b44,Tryz.f44,hlt,hu,hi3,hz,n9,hlt2,t,hw1,hlo,hlo2,tokC,tkC,tk,str_nil]<;>rfl
 ·have t:((125:Int)==c)=false:=by simp;omega
  rw[if_neg h];simp only[go_sem,X95,P30,H27,ret27,K0,b44,Tryz.f44,hlt,hu,hi3,hz,t,hw,tokC,str_nil]<;>rfl
theorem JMr(hi:i<=100000000000)(hlo:lo<=p.length)(hlo2:lo<=p.length+(q.length+1)):evCode (X95 lo p q) JA K0 (P30 p q l i c d e [(14,.v (.int .i64 6))])=if c=44 then ret27 p q l (i+1) (tk 18 [])else some (.normal,P30 p q l i c d e [(14,.v (.int .i64 7))]):=by
 have hw1:=JD (i:=i) om;have hlt:decide ((6:Int)<9)=true:=rfl;have hw:Ak.wrap ((6:Int)+1)=7:=rfl;have hu:((B7 44:Nat):Int)=44:=rfl;have hi3:Az.wrap 44=44:=rfl;have hz:(((6:Int)).toNat)=6:=rfl;have n9:((9:Nat):Int)=9:=rfl;have hlt2:(6:Int)<9:=by decide
 by_cases h:c=44
 ·have t:((44:Int)==c)=true:=by simp[h]
  rw[if_pos h];simp only[go_sem,X95,P30,H27,ret27,K0,b44,Tryz.f44,hlt,hu,hi3,hz,n9,hlt2,t,hw1,hlo,hlo2,tokC,tkC,tk,str_nil]<;>rfl
 ·have t:((44:Int)==c)=false:=by simp;omega
  rw[if_neg h];simp only[go_sem,X95,P30,H27,ret27,K0,b44,Tryz.f44,hlt,hu,hi3,hz,t,hw,tokC,str_nil]<;>rfl
theorem JSB(hi:i<=100000000000)(hlo:lo<=p.length)(hlo2:lo<=p.length+(q.length+1)):evCode (X95 lo p q) JA K0 (P30 p q l i c d e [(14,.v (.int .i64 7))])=if c=58 then ret27 p q l (i+1) (tk 16 [])else some (.normal,P30 p q l i c d e [(14,.v (.int .i64 8))]):=by
 have hw1:=JD (i:=i) om;have hlt:decide ((7:Int)<9)=true:=rfl;have hw:Ak.wrap ((7:Int)+1)=8:=rfl;have hu:((B7 58:Nat):Int)=58:=rfl;have hi3:Az.wrap 58=58:=rfl;have hz:(((7:Int)).toNat)=7:=rfl;have n9:((9:Nat):Int)=9:=rfl;have hlt2:(7:Int)<9:=by decide
 by_cases h:c=58
 ·have t:((58:Int)==c)=true:=by simp[h]
  rw[if_pos h];simp only[go_sem,X95,P30,H27,ret27,K0,b44,Tryz.f44,hlt,hu,hi3,hz,n9,hlt2,t,hw1,hlo,hlo2,tokC,tkC,tk,str_nil]<;>rfl
 ·have t:((58:Int)==c)=false:=by simp;omega
  rw[if_neg h];simp only[go_sem,X95,P30,H27,ret27,K0,b44,Tryz.f44,hlt,hu,hi3,hz,t,hw,tokC,str_nil]<;>rfl
theorem JVo(hi:i<=100000000000)(hlo:lo<=p.length)(hlo2:lo<=p.length+(q.length+1)):evCode (X95 lo p q) JA K0 (P30 p q l i c d e [(14,.v (.int .i64 8))])=if c=59 then ret27 p q l (i+1) (tk 17 [])else some (.normal,P30 p q l i c d e [(14,.v (.int .i64 9))]):=by
 have hw1:=JD (i:=i) om;have hlt:decide ((8:Int)<9)=true:=rfl;have hw:Ak.wrap ((8:Int)+1)=9:=rfl;have hu:((B7 59:Nat):Int)=59:=rfl;have hi3:Az.wrap 59=59:=rfl;have hz:(((8:Int)).toNat)=8:=rfl;have n9:((9:Nat):Int)=9:=rfl;have hlt2:(8:Int)<9:=by decide
 by_cases h:c=59
 ·have t:((59:Int)==c)=true:=by simp[h]
  rw[if_pos h];simp only[go_sem,X95,P30,H27,ret27,K0,b44,Tryz.f44,hlt,hu,hi3,hz,n9,hlt2,t,hw1,hlo,hlo2,tokC,tkC,tk,str_nil]<;>rfl
 ·have t:((59:Int)==c)=false:=by simp;omega
  rw[if_neg h];simp only[go_sem,X95,P30,H27,ret27,K0,b44,Tryz.f44,hlt,hu,hi3,hz,t,hw,tokC,str_nil]<;>rfl
theorem JaL(hi:i<=100000000000)(hlo:lo<=p.length)(hlo2:lo<=p.length+(q.length+1)):JA (evCode (X95 lo p q) JA K0) (P30 p q l i c d e [(14,.v (.int .i64 0))])=
  if 0<zJ c then ret27 p q l (i+1) (tk (zJ c) [])else some (.exit 0,P30 p q l i c d e [(14,.v (.int .i64 9)),(15,.v (.bool false))]):=by
 by_cases h0:c=40
 ·rw[JB,jO hi hlo hlo2,if_pos h0]
  subst h0;rfl
 by_cases h1:c=41
 ·rw[JB,jO hi hlo hlo2,if_neg h0,JK,JB,qW hi hlo hlo2,if_pos h1]
  subst h1;rfl
 by_cases h2:c=91
 ·rw[JB,jO hi hlo hlo2,if_neg h0,JK,JB,qW hi hlo hlo2,if_neg h1,JK,JB,zO hi hlo hlo2,if_pos h2]
  subst h2;rfl
 by_cases h3:c=93
 ·rw[JB,jO hi hlo hlo2,if_neg h0,JK,JB,qW hi hlo hlo2,if_neg h1,JK,JB,zO hi hlo hlo2,if_neg h2,JK,JB,JCK hi hlo hlo2,if_pos h3]
  subst h3;rfl
 by_cases h4:c=123
 ·rw[JB,jO hi hlo hlo2,if_neg h0,JK,JB,qW hi hlo hlo2,if_neg h1,JK,JB,zO hi hlo hlo2,if_neg h2,JK,JB,JCK hi hlo hlo2,if_neg h3,JK,JB,JD9 hi hlo hlo2,if_pos h4]
  subst h4;rfl
 by_cases h5:c=125
 ·rw[JB,jO hi hlo hlo2,if_neg h0,JK,JB,qW hi hlo hlo2,if_neg h1,JK,JB,zO hi hlo hlo2,if_neg h2,JK,JB,JCK hi hlo hlo2,if_neg h3,JK,JB,JD9 hi hlo hlo2,if_neg h4,JK,JB,JJw hi hlo hlo2,if_pos h5]
  subst h5;rfl
 by_cases h6:c=44
 ·rw[JB,jO hi hlo hlo2,if_neg h0,JK,JB,qW hi hlo hlo2,if_neg h1,JK,JB,zO hi hlo hlo2,if_neg h2,JK,JB,JCK hi hlo hlo2,if_neg h3,JK,JB,JD9 hi hlo hlo2,if_neg h4,JK,JB,JJw hi hlo hlo2,if_neg h5,JK,JB,JMr hi hlo hlo2,if_pos h6]
  subst h6;rfl
 by_cases h7:c=58
 ·rw[JB,jO hi hlo hlo2,if_neg h0,JK,JB,qW hi hlo hlo2,if_neg h1,JK,JB,zO hi hlo hlo2,if_neg h2,JK,JB,JCK hi hlo hlo2,if_neg h3,JK,JB,JD9 hi hlo hlo2,if_neg h4,JK,JB,JJw hi hlo hlo2,if_neg h5,JK,JB,JMr hi hlo hlo2,if_neg h6,JK,JB,JSB hi hlo hlo2,if_pos h7]
  subst h7;rfl
 by_cases h8:c=59
 ·rw[JB,jO hi hlo hlo2,if_neg h0,JK,JB,qW hi hlo hlo2,if_neg h1,JK,JB,zO hi hlo hlo2,if_neg h2,JK,JB,JCK hi hlo hlo2,if_neg h3,JK,JB,JD9 hi hlo hlo2,if_neg h4,JK,JB,JJw hi hlo hlo2,if_neg h5,JK,JB,JMr hi hlo hlo2,if_neg h6,JK,JB,JSB hi hlo hlo2,if_neg h7,JK,JB,JVo hi hlo hlo2,if_pos h8]
  subst h8;rfl
 rw[JB,jO hi hlo hlo2,if_neg h0,JK,JB,qW hi hlo hlo2,if_neg h1,JK,JB,zO hi hlo hlo2,if_neg h2,JK,JB,JCK hi hlo hlo2,if_neg h3,JK,JB,JD9 hi hlo hlo2,if_neg h4,JK,JB,JJw hi hlo hlo2,if_neg h5,JK,JB,JMr hi hlo hlo2,if_neg h6,JK,JB,JSB hi hlo hlo2,if_neg h7,JK,JB,JVo hi hlo hlo2,if_neg h8,JK,JB]
 have hp:¬0<zJ c:=by
  rcases JD8 c with h|h
  ·omega
  ·have:=h.1
   unfold zJ at this;simp only[h0,h1,h2,h3,h4,h5,h6,h7,h8,if_false]at this;omega
 rw[if_neg hp];have hlt:decide ((9:Int)<9)=false:=rfl;simp only[go_sem,X95,P30,H27,K0,b44,Tryz.f44,hlt,tokC,str_nil]<;>rfl
theorem tk30b(hi:i<=100000000000)(hlo:lo<=p.length)(hlo2:lo<=p.length+(q.length+1)):QM (X95 lo p q) JA (pc b44 3 1) (P30 p q l i c d e [(14,.v (.int .i64 0))])=
  if 0<zJ c then ret27 p q l (i+1) (tk (zJ c) [])else some (.normal,P30 p q l i c d e [(14,.v (.int .i64 9)),(15,.v (.bool false))]):=by
 have hL:=JaL (l:=l) (c:=c) (d:=d) (e:=e) hi hlo hlo2;by_cases h:0<zJ c
 ·rw[if_pos h]at hL⊢
  simp only[X95,P30,H27,ret27,K0,b44,Tryz.f44,JG,JT,JC,go_sem,tokC,tkC,tk,str_nil]at hL;simp only[go_sem,X95,P30,H27,ret27,b44,Tryz.f44,hL,tokC,tkC,tk,str_nil]
 ·rw[if_neg h]at hL⊢
  simp only[X95,P30,H27,K0,b44,Tryz.f44,JG,JT,JC,go_sem,tokC,str_nil]at hL;simp only[go_sem,X95,P30,H27,b44,Tryz.f44,hL,tokC,str_nil]
theorem vq0{x y:V}:evCode (X95 lo p q) JA (Y6 0) (P30 p q l i c d e [(14,x),(15,y)])=if(blk c)=true then evCode (X95 lo p q) JA (Zp (Y6 0)) (P30 p q l i c d e [(34,.v (.bool true))])else evCode (X95 lo p q) JA (Y6 1) (P30 p q l i c d e [(34,.v (.bool false))]):=by
 refine YO (S:=λb=>P30 p q l i c d e [(34,.v (.bool b))]) (b:=(blk c)) (s30 0 om) ?_ rfl
 simp only[go_sem,n30_0,n30_s,nthC,Gq,in_s,el_s,X95,P30,H27,b44,Tryz.f44,f70,tokC,str_nil]
theorem vq1{x:V}:evCode (X95 lo p q) JA (Y6 1) (P30 p q l i c d e [(34,x)])=if(quo c)=true then evCode (X95 lo p q) JA (Zp (Y6 1)) (P30 p q l i c d e [(40,.v (.bool true))])else evCode (X95 lo p q) JA (Y6 2) (P30 p q l i c d e [(40,.v (.bool false))]):=by
 refine YO (S:=λb=>P30 p q l i c d e [(40,.v (.bool b))]) (b:=(quo c)) (s30 1 om) ?_ rfl
 simp only[go_sem,n30_0,n30_s,nthC,Gq,in_s,el_s,X95,P30,H27,b44,Tryz.f44,quo,tokC,str_nil]
theorem vq2{x:V}:evCode (X95 lo p q) JA (Y6 2) (P30 p q l i c d e [(40,x)])=if(c==35&&((d != -1&&j8 d)||Gi d e))=true then evCode (X95 lo p q) JA (Zp (Y6 2)) (P30 p q l i c d e [(57,.v (.bool true))])else evCode (X95 lo p q) JA (Y6 3) (P30 p q l i c d e [(57,.v (.bool false))]):=by
 refine YO (S:=λb=>P30 p q l i c d e [(57,.v (.bool b))]) (b:=(c==35&&((d != -1&&j8 d)||Gi d e))) (s30 2 om) ?_ rfl
 cases h1:(c==35)<;>cases h2:(d != -1)<;>cases h3:j8 d<;>
   simp only[go_sem,n30_0,n30_s,nthC,Gq,in_s,el_s,X95,P30,H27,b44,Tryz.f44,f73,f74,h1,h2,h3,AR,AZ,Cb,Br,tokC,str_nil]
theorem vq3{x:V}:evCode (X95 lo p q) JA (Y6 3) (P30 p q l i c d e [(57,x)])=if(num c d e)=true then evCode (X95 lo p q) JA (Zp (Y6 3)) (P30 p q l i c d e [(89,.v (.bool true))])else evCode (X95 lo p q) JA (Y6 4) (P30 p q l i c d e [(89,.v (.bool false))]):=by
 refine YO (S:=λb=>P30 p q l i c d e [(89,.v (.bool b))]) (b:=(num c d e)) (s30 3 om) ?_ rfl
 simp only[go_sem,n30_0,n30_s,nthC,Gq,in_s,el_s,X95,P30,H27,b44,Tryz.f44,f77,tokC,str_nil]
theorem vq4{x:V}:evCode (X95 lo p q) JA (Y6 4) (P30 p q l i c d e [(89,x)])=if(c==45&&(d==45&&e==62))=true then evCode (X95 lo p q) JA (Zp (Y6 4)) (P30 p q l i c d e [(96,.v (.bool true))])else evCode (X95 lo p q) JA (Y6 5) (P30 p q l i c d e [(96,.v (.bool false))]):=by
 refine YO (S:=λb=>P30 p q l i c d e [(96,.v (.bool b))]) (b:=(c==45&&(d==45&&e==62))) (s30 4 om) ?_ rfl
 cases h1:(c==45)<;>cases h2:(d==45)<;>
   simp only[go_sem,n30_0,n30_s,nthC,Gq,in_s,el_s,X95,P30,H27,b44,Tryz.f44,h1,h2,AR,AZ,tokC,str_nil]
theorem vq5{x:V}(hi:i<=100000000000):evCode (X95 lo p q) JA (Y6 5) (P30 p q l i c d e [(96,x)])=if(c==60&&(d==33&&(e==45&&chr (suf l i) 3==45)))=true then evCode (X95 lo p q) JA (Zp (Y6 5)) (P30 p q l i c d e [(115,.v (.bool true))])else evCode (X95 lo p q) JA (Y6 6) (P30 p q l i c d e [(115,.v (.bool false))]):=by
 have k3:=λlo p q=>f43 (lo:=lo) (l:=l) (i:=i) (p:=p) (q:=q) (k:=3) om
 have n3:((3:Nat):Int)=3:=rfl;simp only[n3]at k3;refine YO (S:=λb=>P30 p q l i c d e [(115,.v (.bool b))]) (b:=(c==60&&(d==33&&(e==45&&chr (suf l i) 3==45)))) (s30 5 om) ?_ rfl
 cases h1:(c==60)<;>cases h2:(d==33)<;>cases h3:(e==45)<;>
   simp only[go_sem,n30_0,n30_s,nthC,Gq,in_s,el_s,X95,P30,H27,b44,Tryz.f44,k3,h1,h2,h3,AR,AZ,tokC,str_nil]
theorem vq6{x:V}(hi:i<=100000000000):evCode (X95 lo p q) JA (Y6 6) (P30 p q l i c d e [(115,x)])=if(c==64&&beg d e (chr (suf l i) 3))=true then evCode (X95 lo p q) JA (Zp (Y6 6)) (P30 p q l i c d e [(139,.v (.bool true))])else evCode (X95 lo p q) JA (Y6 7) (P30 p q l i c d e [(139,.v (.bool false))]):=by
 have k3:=λlo p q=>f43 (lo:=lo) (l:=l) (i:=i) (p:=p) (q:=q) (k:=3) om
 have n3:((3:Nat):Int)=3:=rfl;simp only[n3]at k3;refine YO (S:=λb=>P30 p q l i c d e [(139,.v (.bool b))]) (b:=(c==64&&beg d e (chr (suf l i) 3))) (s30 6 om) ?_ rfl
 cases h1:(c==64)<;>
   simp only[go_sem,n30_0,n30_s,nthC,Gq,in_s,el_s,X95,P30,H27,b44,Tryz.f44,k3,f75,h1,AR,AZ,tokC,str_nil]
abbrev W30(p q:List Ob)(l:List Int)(i:Nat)(c:Int)(ex:Ja):Ja×Heap:=((0,.ptr p.length 0)::(2,.ptr (p.length+(q.length+1)) 0)::(3,.v (.int .i32 c))::ex,H27 p q l i)
theorem Jm4:elC (Y6 7)= .skip:=rfl
theorem vq7{x:V}:evCode (X95 lo p q) JA (Y6 7) (P30 p q l i c d e [(139,x)])=if(beg c d e)=true then evCode (X95 lo p q) JA (Zp (Y6 7)) (W30 p q l i c [(159,.v (.bool true))])else some (.normal,W30 p q l i c [(159,.v (.bool false))]):=by
 have h:=YO (c:=X95 lo p q) (lp:=JA) (s:=P30 p q l i c d e [(139,x)]) (S:=λb=>W30 p q l i c [(159,.v (.bool b))]) (b:=(beg c d e)) (s30 7 om) (by simp only[go_sem,n30_0,n30_s,nthC,Gq,in_s,el_s,X95,P30,H27,b44,Tryz.f44,W30,f75,tokC,str_nil]) rfl
 rw[h,Jm4,JPX]
theorem an0{x:V}(hl:l.length<=100000000000)(hi:i<=l.length):∃j,j<=l.length+2/\suf l j=Kb (suf l i)/\ ∀lo p q,lo<=p.length->lo<=p.length+(q.length+1)->
  evCode (X95 lo p q) JA (Zp (Y6 0)) (P30 p q l i c d e [(34,x)])=ret27 p q l j (tk 13 []):=by
 obtain⟨j,a1,a2,a3,a4⟩:=f71 (l:=l) (i:=i) hl hi;refine⟨j,om,a3,λlo p q hlo hlo2=>?_⟩
 simp only[go_sem,n30_0,n30_s,nthC,th_s,in_s,el_s,X95,P30,H27,ret27,b44,Tryz.f44,a4 _ _ _ hlo,hlo2,tokC,tkC,tk,str_nil]<;>rfl
theorem an1{x:V}(hl:l.length<=100000000000)(hi:i<l.length)(hq:quo c=true):∃j,j<=l.length+2/\suf l j=(txt c (suf l (i+1))).2.2/\ ∀lo p q,lo<=p.length->lo<=p.length+(q.length+1)->
  evCode (X95 lo p q) JA (Zp (Y6 1)) (P30 p q l i c d e [(40,x)])=ret27 p q l j (JCm (txt c (suf l (i+1)))):=by
 have hw1:=JD (i:=i) om;obtain⟨j,a1,a2,a3,a4⟩:=f72 (l:=l) (i:=i+1) (sign:=c) hl om hq;simp only[JMq,tkC]at a4;refine⟨j,a1,a3,λlo p q hlo hlo2=>?_⟩
 simp only[go_sem,n30_0,n30_s,nthC,th_s,in_s,el_s,X95,P30,H27,ret27,b44,Tryz.f44,hw1,hlo,a4 _ _ _ hlo,hlo2,tokC,tkC,str_nil]<;>rfl
theorem an2{x:V}(hl:l.length<=100000000000)(hi:i<l.length):∃j,j<=l.length+2/\suf l j=(name ((suf l i).drop 1)).2/\ ∀lo p q,lo<=p.length->lo<=p.length+(q.length+1)->
  evCode (X95 lo p q) JA (Zp (Y6 2)) (P30 p q l i c d e [(57,x)])=ret27 p q l j ⟨4,(name ((suf l i).drop 1)).1,(0,0),false,beg d e (chr (suf l i) 3)⟩:=by
 have hw1:=JD (i:=i) om;have k2:=λlo p q=>f43 (lo:=lo) (l:=l) (i:=i+1) (p:=p) (q:=q) (k:=2) om
 have n2:((2:Nat):Int)=2:=rfl;have e1:suf l (i+1)=(suf l i).drop 1:=by simp[suf,AC]
 have e2:chr (suf l (i+1)) 2=chr (suf l i) 3:=by rw[e1,YN]
 simp only[n2,e2]at k2;obtain⟨j,a1,a2,a3,a4⟩:=f76 (l:=l) (i:=i+1) hl om;rw[e1]at a3 a4;refine⟨j,om,a3,λlo p q hlo hlo2=>?_⟩
 simp only[go_sem,n30_0,n30_s,nthC,th_s,in_s,el_s,X95,P30,H27,ret27,b44,Tryz.f44,k2,f75,hw1,a4 _ _ _ hlo,hlo,hlo2,tokC,tkC,str_nil]<;>rfl
theorem an3{x:V}(hl:l.length<=100000000000)(hi:i<=l.length)(hn:num (chr (suf l i) 0) (chr (suf l i) 1) (chr (suf l i) 2)=true):∃j,j<=l.length+2/\suf l j=(Qb (suf l i)).2/\ ∀lo p q,lo<=p.length->lo<=p.length+(q.length+1)->
  evCode (X95 lo p q) JA (Zp (Y6 3)) (P30 p q l i c d e [(89,x)])=ret27 p q l j (Qb (suf l i)).1:=by
 obtain⟨j,a1,a2,a3,a4⟩:=f78 (l:=l) (i:=i) hl hi hn;simp only[tkC]at a4;refine⟨j,om,a3,λlo p q hlo hlo2=>?_⟩
 simp only[go_sem,n30_0,n30_s,nthC,th_s,in_s,el_s,X95,P30,H27,ret27,b44,Tryz.f44,a4 _ _ _ hlo,hlo2,tokC,tkC,str_nil]<;>rfl
theorem an4{x:V}(hl:i<=100000000000):∀lo p q,lo<=p.length->lo<=p.length+(q.length+1)->
  evCode (X95 lo p q) JA (Zp (Y6 4)) (P30 p q l i c d e [(96,x)])=ret27 p q l (i+3) (tk 15 []):=by
 have hw1:Ak.wrap ((i:Int)+3)=((i+3:Nat):Int):=by rw[JL om om];omega
 intro lo p q hlo hlo2;simp only[go_sem,n30_0,n30_s,nthC,th_s,in_s,el_s,X95,P30,H27,ret27,b44,Tryz.f44,hw1,hlo,hlo2,tokC,tkC,tk,str_nil]<;>rfl
theorem an5{x:V}(hl:i<=100000000000):∀lo p q,lo<=p.length->lo<=p.length+(q.length+1)->
  evCode (X95 lo p q) JA (Zp (Y6 5)) (P30 p q l i c d e [(115,x)])=ret27 p q l (i+4) (tk 14 []):=by
 have hw1:Ak.wrap ((i:Int)+4)=((i+4:Nat):Int):=by rw[JL om om];omega
 intro lo p q hlo hlo2;simp only[go_sem,n30_0,n30_s,nthC,th_s,in_s,el_s,X95,P30,H27,ret27,b44,Tryz.f44,hw1,hlo,hlo2,tokC,tkC,tk,str_nil]<;>rfl
theorem an6{x:V}(hl:l.length<=100000000000)(hi:i<l.length):∃j,j<=l.length+2/\suf l j=(name ((suf l i).drop 1)).2/\ ∀lo p q,lo<=p.length->lo<=p.length+(q.length+1)->
  evCode (X95 lo p q) JA (Zp (Y6 6)) (P30 p q l i c d e [(139,x)])=ret27 p q l j (tk 3 (name ((suf l i).drop 1)).1):=by
 have hw1:=JD (i:=i) om;obtain⟨j,a1,a2,a3,a4⟩:=f76 (l:=l) (i:=i+1) hl om;have e1:suf l (i+1)=(suf l i).drop 1:=by simp[suf,AC]
 rw[e1]at a3 a4;refine⟨j,om,a3,λlo p q hlo hlo2=>?_⟩
 simp only[go_sem,n30_0,n30_s,nthC,th_s,in_s,el_s,X95,P30,H27,ret27,b44,Tryz.f44,hw1,a4 _ _ _ hlo,hlo,hlo2,tokC,tkC,tk,str_nil]<;>rfl
theorem an7{x:V}(hl:l.length<=100000000000)(hi:i<=l.length):∃j,j<=l.length+2/\suf l j=(HT (suf l i)).2/\ ∀lo p q,lo<=p.length->lo<=p.length+(q.length+1)->
  evCode (X95 lo p q) JA (Zp (Y6 7)) (W30 p q l i c [(159,x)])=ret27 p q l j (HT (suf l i)).1:=by
 obtain⟨j,a1,a2,a3,a4⟩:=f79 (l:=l) (i:=i) hl hi;simp only[tkC]at a4;refine⟨j,a1,a3,λlo p q hlo hlo2=>?_⟩
 simp only[go_sem,n30_0,n30_s,nthC,th_s,in_s,el_s,X95,P30,H27,ret27,b44,Tryz.f44,W30,a4 _ _ _ hlo,hlo2,tokC,tkC,str_nil]<;>rfl
theorem an8{x:V}(hi:i<=100000000000):∀lo p q,lo<=p.length->lo<=p.length+(q.length+1)->
  QM (X95 lo p q) JA (pc b44 5 3) (W30 p q l i c [(159,x)])=ret27 p q l (i+1) (tk 9 [c]):=by
 have hw1:=JD (i:=i) om;have k82:=λlo h=>f80 (lo:=lo) (l:=[c]) (h:=h) (by simp)
 simp only[Ka,J4]at k82;intro lo p q hlo hlo2;simp only[go_sem,X95,W30,H27,ret27,b44,Tryz.f44,hw1,hlo,k82,hlo2,tokC,tkC,tk,str_nil]<;>rfl
theorem f44(hl:l.length<=100000000000)(hi:i<l.length):∃j,j<=l.length+2/\suf l j=(QK (suf l i)).2/\
  ∀lo p q,lo<=p.length->E lo 44 [.ptr p.length 0] (p++R l i::q)=some (.agg (tkC (QK (suf l i)).1),p++R l j::q):=by
 have hH:∀p q:List Ob,(p++R l i::q).length=p.length+(q.length+1):=λp q=>by simp
 have hin:i<=100000000000:=om
 have hdd:(chr (suf l i) 1 != -1&&j8 (chr (suf l i) 1))=j8 (chr (suf l i) 1):=by
  cases h:(chr (suf l i) 1 != -1)with
  |true=>simp
  |false=>
   have:chr (suf l i) 1= -1:=by simpa using h
   rw[this];rfl
 have hd1:∀k,suf l (i+k)=(suf l i).drop k:=λk=>by simp[suf,AC]
 have hgt:∀k c,chr (suf l i) k=c->c≠ -1->i+k<l.length:=λk c h hc=>by
  rcases Ax (i+k) l.length with h2|h2
  ·exact h2
  ·exfalso
   have:(suf l i)[k]? =none:=Bi (by rw[Jv];omega)
   simp only[chr,this]at h;exact hc h.symm
 rw[JOc];by_cases hp:0<zJ (chr (suf l i) 0)
 ·rw[if_pos hp]
  refine⟨i+1,om,hd1 1,λlo p q hlo=>?_⟩
  rw[e44,hH,pc_in,pc_go _ _ _ _ 0 3,tk30a hin,pc_go _ _ _ _ _ 1,tk30b hin hlo om,if_pos hp,ret27,Qw];exact qV
 rw[if_neg hp]
 have fin_:∀(j:Nat) (t:Tk),(∀lo p q,lo<=p.length->lo<=p.length+(q.length+1)->evCode (X95 lo p q) JA (Y6 0) (P30 p q l i (chr (suf l i) 0) (chr (suf l i) 1) (chr (suf l i) 2) [(14,.v (.int .i64 9)),(15,.v (.bool false))])=ret27 p q l j t)->
   ∀lo p q,lo<=p.length->E lo 44 [.ptr p.length 0] (p++R l i::q)=some (.agg (tkC t),p++R l j::q):=by
  intro j t hq lo p q hlo;rw[e44,hH,pc_in,pc_go _ _ _ _ 0 3,tk30a hin,pc_go _ _ _ _ _ 1,tk30b hin hlo om,if_neg hp,pc_go _ _ _ _ _ 1]
  have hB:QM (X95 lo p q) JA (pc b44 4 1) (P30 p q l i (chr (suf l i) 0) (chr (suf l i) 1) (chr (suf l i) 2) [(14,.v (.int .i64 9)),(15,.v (.bool false))])=ret27 p q l j t:=by
   unfold pc;rw[Jf9];show QM (X95 lo p q) JA [.block 2 (Y6 0)] _=_
   rw[one_l,ka,hq lo p q hlo om];rfl
  rw[hB,ret27,Qw];exact qV
 have fin2:(∀lo p q,lo<=p.length->lo<=p.length+(q.length+1)->evCode (X95 lo p q) JA (Y6 0) (P30 p q l i (chr (suf l i) 0) (chr (suf l i) 1) (chr (suf l i) 2) [(14,.v (.int .i64 9)),(15,.v (.bool false))])=some (.normal,W30 p q l i (chr (suf l i) 0) [(159,.v (.bool false))]))->
   ∀lo p q,lo<=p.length->E lo 44 [.ptr p.length 0] (p++R l i::q)=some (.agg (tkC (tk 9 [chr (suf l i) 0])),p++R l (i+1)::q):=by
  intro hq lo p q hlo;rw[e44,hH,pc_in,pc_go _ _ _ _ 0 3,tk30a hin,pc_go _ _ _ _ _ 1,tk30b hin hlo om,if_neg hp,pc_go _ _ _ _ _ 1]
  have hB:QM (X95 lo p q) JA (pc b44 4 1) (P30 p q l i (chr (suf l i) 0) (chr (suf l i) 1) (chr (suf l i) 2) [(14,.v (.int .i64 9)),(15,.v (.bool false))])=some (.normal,W30 p q l i (chr (suf l i) 0) [(159,.v (.bool false))]):=by
   unfold pc;rw[Jf9];show QM (X95 lo p q) JA [.block 2 (Y6 0)] _=_
   rw[one_l,ka,hq lo p q hlo om];rfl
  rw[hB,pc_go _ _ _ _ _ 3,an8 hin lo p q hlo om,ret27,Qw];exact qV
 by_cases h0:blk (chr (suf l i) 0)=true
 ·obtain⟨j,a1,a2,a3⟩:=an0 (c:=chr (suf l i) 0) (d:=chr (suf l i) 1) (e:=chr (suf l i) 2) (x:= .v (.bool true)) hl (C4 hi)
  rw[if_pos h0];exact⟨j,a1,a2,fin_ j _ λlo p q hlo hlo2=>by rw[vq0,if_pos h0,a3 lo p q hlo hlo2]⟩
 rw[if_neg h0];by_cases h1:quo (chr (suf l i) 0)=true
 ·obtain⟨j,b1,b2,b3⟩:=an1 (d:=chr (suf l i) 1) (e:=chr (suf l i) 2) (x:= .v (.bool true)) hl hi h1
  rw[if_pos h1,<-hd1];exact⟨j,b1,b2,fin_ j _ λlo p q hlo hlo2=>by rw[vq0,if_neg h0,vq1,if_pos h1,b3 lo p q hlo hlo2]⟩
 rw[if_neg h1];by_cases h2:chr (suf l i) 0=35/\(j8 (chr (suf l i) 1)||Gi (chr (suf l i) 1) (chr (suf l i) 2))=true
 ·obtain⟨j,b1,b2,b3⟩:=an2 (c:=chr (suf l i) 0) (d:=chr (suf l i) 1) (e:=chr (suf l i) 2) (x:= .v (.bool true)) hl hi
  have h2':(chr (suf l i) 0==35&&(j8 (chr (suf l i) 1)||Gi (chr (suf l i) 1) (chr (suf l i) 2)))=true:=by rw[Ah,beq_iff_eq];exact h2
  rw[if_pos h2];exact⟨j,b1,b2,fin_ j _ λlo p q hlo hlo2=>by rw[vq0,if_neg h0,vq1,if_neg h1,vq2,hdd,if_pos h2',b3 lo p q hlo hlo2]⟩
 have h2':¬(chr (suf l i) 0==35&&(j8 (chr (suf l i) 1)||Gi (chr (suf l i) 1) (chr (suf l i) 2)))=true:=by rw[Ah,beq_iff_eq];exact h2
 rw[if_neg h2];by_cases h3:num (chr (suf l i) 0) (chr (suf l i) 1) (chr (suf l i) 2)=true
 ·obtain⟨j,b1,b2,b3⟩:=an3 (c:=chr (suf l i) 0) (d:=chr (suf l i) 1) (e:=chr (suf l i) 2) (x:= .v (.bool true)) hl (C4 hi) h3
  rw[if_pos h3];exact⟨j,b1,b2,fin_ j _ λlo p q hlo hlo2=>by rw[vq0,if_neg h0,vq1,if_neg h1,vq2,hdd,if_neg h2',vq3,if_pos h3,b3 lo p q hlo hlo2]⟩
 rw[if_neg h3];by_cases h4:chr (suf l i) 0=45/\chr (suf l i) 1=45/\chr (suf l i) 2=62
 ·have:=hgt 2 62 h4.2.2 (by decide)
  have h4':(chr (suf l i) 0==45&&(chr (suf l i) 1==45&&chr (suf l i) 2==62))=true:=by simpa using h4
  rw[if_pos h4];exact⟨i+3,om,hd1 3,fin_ (i+3) _ λlo p q hlo hlo2=>by rw[vq0,if_neg h0,vq1,if_neg h1,vq2,hdd,if_neg h2',vq3,if_neg h3,vq4,if_pos h4',an4 hin lo p q hlo hlo2]⟩
 have h4':¬(chr (suf l i) 0==45&&(chr (suf l i) 1==45&&chr (suf l i) 2==62))=true:=by simpa using h4
 rw[if_neg h4];by_cases h5:chr (suf l i) 0=60/\chr (suf l i) 1=33/\chr (suf l i) 2=45/\chr (suf l i) 3=45
 ·have:=hgt 3 45 h5.2.2.2 (by decide)
  have h5':(chr (suf l i) 0==60&&(chr (suf l i) 1==33&&(chr (suf l i) 2==45&&chr (suf l i) 3==45)))=true:=by simpa using h5
  rw[if_pos h5];exact⟨i+4,om,hd1 4,fin_ (i+4) _ λlo p q hlo hlo2=>by rw[vq0,if_neg h0,vq1,if_neg h1,vq2,hdd,if_neg h2',vq3,if_neg h3,vq4,if_neg h4',vq5 hin,if_pos h5',an5 hin lo p q hlo hlo2]⟩
 have h5':¬(chr (suf l i) 0==60&&(chr (suf l i) 1==33&&(chr (suf l i) 2==45&&chr (suf l i) 3==45)))=true:=by simpa using h5
 rw[if_neg h5];by_cases h7:chr (suf l i) 0=64/\beg (chr (suf l i) 1) (chr (suf l i) 2) (chr (suf l i) 3)=true
 ·obtain⟨j,b1,b2,b3⟩:=an6 (c:=chr (suf l i) 0) (d:=chr (suf l i) 1) (e:=chr (suf l i) 2) (x:= .v (.bool true)) hl hi
  have h7':(chr (suf l i) 0==64&&beg (chr (suf l i) 1) (chr (suf l i) 2) (chr (suf l i) 3))=true:=by rw[Ah,beq_iff_eq];exact h7
  rw[if_pos h7];exact⟨j,b1,b2,fin_ j _ λlo p q hlo hlo2=>by rw[vq0,if_neg h0,vq1,if_neg h1,vq2,hdd,if_neg h2',vq3,if_neg h3,vq4,if_neg h4',vq5 hin,if_neg h5',vq6 hin,if_pos h7',b3 lo p q hlo hlo2]⟩
 have h7':¬(chr (suf l i) 0==64&&beg (chr (suf l i) 1) (chr (suf l i) 2) (chr (suf l i) 3))=true:=by rw[Ah,beq_iff_eq];exact h7
 rw[if_neg h7];by_cases h8:beg (chr (suf l i) 0) (chr (suf l i) 1) (chr (suf l i) 2)=true
 ·obtain⟨j,b1,b2,b3⟩:=an7 (c:=chr (suf l i) 0) (x:= .v (.bool true)) hl (C4 hi)
  rw[if_pos h8];exact⟨j,b1,b2,fin_ j _ λlo p q hlo hlo2=>by rw[vq0,if_neg h0,vq1,if_neg h1,vq2,hdd,if_neg h2',vq3,if_neg h3,vq4,if_neg h4',vq5 hin,if_neg h5',vq6 hin,if_neg h7',vq7,if_pos h8,b3 lo p q hlo hlo2]⟩
 rw[if_neg h8];exact⟨i+1,om,hd1 1,fin2 λlo p q hlo hlo2=>by rw[vq0,if_neg h0,vq1,if_neg h1,vq2,hdd,if_neg h2',vq3,if_neg h3,vq4,if_neg h4',vq5 hin,if_neg h5',vq6 hin,if_neg h7',vq7,if_neg h8]⟩
end
end Go.Lift.W1.T
end
