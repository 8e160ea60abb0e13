/- (*print.writer).decls: a round, where the declarations may be written. -/
import Derived.Test.YtppjlemmgpnliaaGreatDoorGLd
import Derived.Test.YtppjlemmgpnliaaGreatDoorGKa
import Derived.Test.YtppjlemmgpnliaaGreatDoorGK5Basea
import Derived.Test.YtppjlemmgpnliaaGreatDoorGKb
import Derived.Test.YtppjlemmgpnliaaGreatDoorGKc
import Derived.Test.YtppjlemmgpnliaaGreatDoorGKf
open Bool renaming and_eq_true->Af,false_and->Aw,false_or->Bb,true_and->AB,true_or->B1
open Go.Proofs.Tryz renaming prog->Aa
open Go.Value renaming pointer->Lf
open Int renaming reduceBEq->Ap,reduceBNe->Bd
open List renaming all_append->Df,all_cons->Bg,all_nil->Dm,append_assoc->Ao,append_nil->Av,cons_append->Al,drop_eq_getElem_cons->AD,drop_length->Be,drop_zero->Az,getElem?_append_right->AZ,getElem?_eq_getElem->Ac,getElem?_eq_some_iff->Ad,getElem?_map->Ax,getElem_mem->Ba,isEmpty_nil->Mn,length_append->Ah,length_cons->Ae,length_map->Ag,length_nil->An,mem_cons->A2,mem_cons_of_mem->Bt,nil_append->Ai
open Nat renaming add_sub_cancel_left->BE,le_refl->Ab,zero_add->AE
set_option linter.unusedVariables false
set_option linter.unusedSimpArgs false
set_option linter.unusedSectionVars false
set_option maxRecDepth 20000
set_option maxHeartbeats 20000000
section
open Go.Proofs
namespace Go.Lift.M1
variable[MX][HasD][HasN]
open Utf Tok Spell
variable{lo:Nat}{p q:JC}{p0:V}{out:List Int}
def impT:List Int:=[32,33,105,109,112,111,114,116,97,110,116]
theorem JNy:(⟨#[58]⟩:ByteArray)=bs [58]:=rfl
theorem JNz:(⟨#[59]⟩:ByteArray)=bs [59]:=rfl
theorem JHt:(⟨#[32,33,105,109,112,111,114,116,97,110,116]⟩:ByteArray)=bs impT:=rfl
theorem JYD:By [58]:=Jh om om J9
theorem JSp:By [59]:=Jh om om J9
theorem JSq:By impT:=by intro c hc;unfold impT at hc;simp at hc;omega
def Ga(d:Rul.Dc):List Int:=JY 1 d.name 0 0 false false++([58]++(Km d.val++((if d.imp=true then impT else[])++[59])))
abbrev ND(i:Nat)(l:List Rul.Dc)(k:Int):Jj:=[(0,.ptr i 0),(4,.fn 21 [.undef,.ptr i 0]),(13,.list .no (l.map Rul.Jv)),(14,.v (.int .i64 l.length)),(15,.v (.int .i64 k))]
theorem Jbr{l:List Rul.Dc}{d:Rul.Dc}{k:Nat}(hlo:lo<=p.length)(hp:H0 p.length p0=true)(hl:l.length<=1000000000)(hg:l[k]? =some d)(hok:OkD d)(hcl:Kb d=true)(ho:out.length+10*d.name.length+Zf ((Rul.Je d.val).map ofR)+400<=1000000000):
  evCode ⟨Aa,E,lo,p.length+(q.length+1),h23⟩ JA JCO (ND p.length l k,p++ .cells [p0,.list .yes (ri .u8 out),.v (.int .i64 0)]::q)=
   some (.normal,ND p.length l (k+1:Nat),p++ .cells [.ptr p.length 0,.list .yes (ri .u8 (out++Ga d)),.v (.int .i64 0)]::q):=by
 have hlt:k<l.length:=(Ad.1 hg).1
 have hgr:(l.map Rul.Jv)[k]? =some (Rul.Jv d):=by simp[hg]
 have ed:Rul.Jv d=[.v (.string (bs d.name)),.list .no (Rul.JL d.val),.v (.bool d.imp)]:=rfl;have qq:decide ((k:Int)<(l.length:Int))=true:=by simp;omega
 have hw:=JH (i:=k) om;have hcl2:=hcl;unfold Kb at hcl2;rw[Af]at hcl2
 have hm:KL 1 d.name 0 0 false false=true:=by unfold KL;rw[if_pos (.inl rfl)];have:=hcl2.1;unfold Jl at this;rw[this]<;>rfl
 have ht:ZS 1 d.name 0 0 false false= .tup [.v (.string (bs (JY 1 d.name 0 0 false false))),.v (.int .i64 0)]:=by unfold ZS Yh;rw[hm]<;>rfl
 have hvt:GZ d.val=Km d.val:=by unfold GZ;rw[if_pos hcl2.2]
 have hve:GD d.val=0:=by unfold GD;rw[if_pos hcl2.2]
 have hH:=λlo (hlo:lo<=(p++Ob.cells [p0,.list .yes (ri .u8 out),.v (.int .i64 0)]::(q++[Ob.cells (Rul.Jv d)])).length)=>f44 (lo:=lo) (h:=p++Ob.cells [p0,.list .yes (ri .u8 out),.v (.int .i64 0)]::(q++[Ob.cells (Rul.Jv d)])) hlo hok.hy hok.hl
 rw[ht]at hH;have c37a:=hH lo (by simp;omega);have c37b:=hH (p.length+(q.length+1)) (by simp);have c37c:=hH (p.length+(q.length+1+1)) (by simp)
 clear hH;have hid:(JY 1 d.name 0 0 false false).length<=10*d.name.length+300:=Yi (t:=⟨1,d.name,0,0,false,false⟩) ⟨hok.hy,hok.hl,by simp,by simp,by simp,by simp⟩
 have hby:By (JY 1 d.name 0 0 false false):=jA (t:=⟨1,d.name,0,0,false,false⟩) ⟨hok.hy,hok.hl,by simp,by simp,by simp,by simp⟩
 unfold Ga;generalize JY 1 d.name 0 0 false false=T at*;have hnl:=hok.hl;have hvl:=JKi hok.hv;rw[hvt]at hvl;have hcc:=hok.hv.hc;have k1:=ZP (lo:=lo) (p:=p) (q:=q++[.cells (Rul.Jv d)]) (p0:=p0) (out:=out) (n:=0) hlo hp (s:=T) hby om om;have k2:=ZP (lo:=lo) (p:=p) (q:=q++[.cells (Rul.Jv d)]) (p0:= .ptr p.length 0) (out:=out++T) (n:=0) hlo KJ (s:=[58]) JYD (by simp;omega) (by simp)
 have k3:=f22 (lo:=lo) (p:=p) (q:=q++[.cells (Rul.Jv d)]) (p0:= .ptr p.length 0) (out:=out++T++[58]) (n:=0) (l:=d.val) hlo KJ hok.hv (by simp;omega)
 rw[hvt,hve]at k3;have e0:e1 0 0=0:=rfl;rw[e0]at k3;have k4:=ZP (lo:=lo) (p:=p) (q:=q++[.cells (Rul.Jv d)]) (p0:= .ptr p.length 0) (out:=out++T++[58]++Km d.val) (n:=0) hlo KJ (s:=impT) JSq (by simp;omega) (by simp[impT])
 have k5:=ZP (lo:=lo) (p:=p) (q:=q++[.cells (Rul.Jv d)]) (p0:= .ptr p.length 0) (out:=out++T++[58]++Km d.val++impT) (n:=0) hlo KJ (s:=[59]) JSp (by simp[impT];omega) (by simp)
 have k6:=ZP (lo:=lo) (p:=p) (q:=q++[.cells (Rul.Jv d)]) (p0:= .ptr p.length 0) (out:=out++T++[58]++Km d.val) (n:=0) hlo KJ (s:=[59]) JSp (by simp;omega) (by simp)
 have hat:∀o c:Ob,(p++o::(q++[c]))[p.length+(q.length+1)]? =some c:=λo c=>by rw[AZ om];simp
 rw[ed]at hgr c37a c37b c37c k1 k2 k3 k4 k5 k6;simp only[Ao,Al,Ai]at k1 k2 k3 k4 k5 k6 c37a c37b c37c;have hlo2:lo<=p.length+(q.length+1):=om;have hlt2:p.length<p.length+(q.length+1):=om
 cases hi:d.imp with
 |true=>
  rw[hi]at hgr c37a c37b c37c k1 k2 k3 k4 k5 k6;rw[if_pos rfl]
  simp only[go_sem,JCO,b23,Tryz.f23,qq,hgr,hw,hlo,hlo2,hlt2,hat,c37a,c37b,c37c,JNy,JNz,JHt,k1,k2,k3,k4,k5,Ap,Ao,Al,Ai,Ag]<;>rfl
 |false=>
  rw[hi]at hgr c37a c37b c37c k1 k2 k3 k4 k5 k6;rw[if_neg (show¬false=true by simp)]
  simp only[go_sem,JCO,b23,Tryz.f23,qq,hgr,hw,hlo,hlo2,hlt2,hat,c37a,c37b,c37c,JNy,JNz,JHt,k1,k2,k3,k6,Ap,Ao,Al,Ai,Ag]<;>rfl
end Go.Lift.M1
end

section
open Go.Proofs
namespace Go.Lift.M1
variable[MX][HasD][HasN]
open Utf Tok Spell
variable{lo:Nat}{h:JC}
theorem Jbs{l:List Rul.Dc}(hlo:lo<=h.length):evCode ⟨Aa,E,lo,h.length,h20⟩ JA jx (N19 l l.length,h)=
   some (.exit 0,N19 l l.length++[(8,.v (.bool false))],h):=by
 have q:decide ((l.length:Int)<(l.length:Int))=false:=by simp
 simp only[go_sem,jx,b20,Tryz.f20,hlo,q]<;>rfl
theorem Jbt{l:List Rul.Dc}(hlo:lo<=h.length)(hl:l.length<=1000000000)(hok:∀t∈l,OkD t):∀(m k:Nat),k+m=l.length->
  if(l.drop k).all Kb=true then
   JA (evCode ⟨Aa,E,lo,h.length,h20⟩ JA jx) (N19 l k,h)=some (.exit 0,N19 l l.length++[(8,.v (.bool false))],h)
  else∃X,JA (evCode ⟨Aa,E,lo,h.length,h20⟩ JA jx) (N19 l k,h)=some (.ret,[(2,.v (.bool false))],h++X):=by
 intro m
 induction m with
 |zero=>
  intro k hk;obtain rfl:k=l.length:=om
  rw[Be,if_pos (show([]:List Rul.Dc).all Kb=true from rfl),loop_eq,Jbs hlo,Kv]
 |succ m ih=>
  intro k hk;have hlt:k<l.length:=om;have hg:l[k]? =some l[k]:=Ac hlt
  have hd:l.drop k=l[k]::l.drop (k+1):=AD hlt;have hok1:=hok l[k] (Ba hlt);rw[hd];generalize l[k]=t at*;have hr:=JWc hlo hl hg hok1
  cases hm:Kb t with
  |false=>
   rw[hm,if_neg (by simp)]at hr
   rw[Bg,hm,Aw,if_neg (by simp)]
   exact⟨_,by rw[loop_eq,hr,QY]⟩
  |true=>rw[hm,if_pos rfl]at hr;rw[Bg,hm,AB,loop_eq,hr,JK];exact ih (k+1) om
theorem f20{l:List Rul.Dc}(hlo:lo<=h.length)(hl:l.length<=1000000000)(hok:∀t∈l,OkD t):E lo 20 [.list .no (l.map Rul.Jv)] h=some (.v (.bool (l.all Kb)),h):=by
 have hL:=Jbt (lo:=lo) (h:=h) (l:=l) hlo hl hok l.length 0 om;rw[Az]at hL;have n0:((0:Nat):Int)=0:=rfl;rw[e20]
 cases ha:l.all Kb with
 |false=>
  rw[ha,if_neg (by simp)]at hL
  obtain⟨X,hL⟩:=hL;simp only[jx,b20,Tryz.f20,JD,JT,JB,go_sem,N19,n0]at hL
  simp only[go_sem,b20,Tryz.f20,hlo,hL,Ag,n0]<;>rfl
 |true=>rw[ha,if_pos rfl]at hL;simp only[jx,b20,Tryz.f20,JD,JT,JB,go_sem,N19,n0,Al,Ai]at hL;simp only[go_sem,b20,Tryz.f20,hlo,hL,Ag,n0]<;>rfl
end Go.Lift.M1
end

section
open Go.Proofs
namespace Go.Lift.M1
variable[MX][HasD][HasN]
open Utf Tok Spell
variable{lo:Nat}{p q:JC}{p0:V}{out:List Int}
def JAk(d:Rul.Dc):Nat:=10*d.name.length+Zf ((Rul.Je d.val).map ofR)+400
def Q2:List Rul.Dc->Nat
 |[]=>0
 |d::r=>JAk d+Q2 r
def K8:List Rul.Dc->List Int
 |[]=>[]
 |d::r=>Ga d++K8 r
def pw(i:Nat)(p0:V)(e:Bool):V:=if e=true then p0 else .ptr i 0
theorem yh{d:Rul.Dc}(hok:OkD d):(JY 1 d.name 0 0 false false).length<=10*d.name.length+300:=Yi (t:=⟨1,d.name,0,0,false,false⟩) ⟨hok.hy,hok.hl,by simp,by simp,by simp,by simp⟩
theorem JWe{d:Rul.Dc}(hok:OkD d):By (JY 1 d.name 0 0 false false):=jA (t:=⟨1,d.name,0,0,false,false⟩) ⟨hok.hy,hok.hl,by simp,by simp,by simp,by simp⟩
theorem Yr{l:List Rul.CV}(hL:OkL l):(Km l).length<=Zf ((Rul.Je l).map ofR):=ZT _ _ (zu hL.hok)
theorem JKj{l:List Rul.CV}(hL:OkL l):By (Km l):=jd _ _ (zu hL.hok)
theorem zw{d:Rul.Dc}(hok:OkD d):(Ga d).length<=JAk d:=by
 have h1:=yh hok;have h2:=Yr hok.hv;have h3:(if d.imp=true then impT else[]).length<=11:=by split<;>simp[impT]
 unfold Ga JAk;simp only[Ah,Ae,An];omega
theorem JSr{d:Rul.Dc}(hok:OkD d):By (Ga d):=by
 have h3:By (if d.imp=true then impT else[]):=by
  split
  ·exact JSq
  ·exact J9
 unfold Ga;exact J6 (JWe hok) (J6 JYD (J6 (JKj hok.hv) (J6 h3 JSp)))
theorem ZU:∀{l:List Rul.Dc},(∀d∈l,OkD d)->(K8 l).length<=Q2 l
 |[],_=>by simp[K8]
 |d::r,h=>by
  have h1:=zw (h d (by simp))
  have h2:=ZU (l:=r) λx hx=>h x (by simp[hx])
  simp only[K8,Q2,Ah];omega
theorem zx:∀{l:List Rul.Dc},(∀d∈l,OkD d)->By (K8 l)
 |[],_=>J9
 |d::r,h=>by rw[K8];exact J6 (JSr (h d (by simp))) (zx λx hx=>h x (by simp[hx]))
theorem Jbu{l:List Rul.Dc}(hlo:lo<=p.length):
  evCode ⟨Aa,E,lo,p.length+(q.length+1),h23⟩ JA JCO (ND p.length l l.length,p++ .cells [p0,.list .yes (ri .u8 out),.v (.int .i64 0)]::q)=
   some (.exit 0,ND p.length l l.length++[(16,.v (.bool false))],p++ .cells [p0,.list .yes (ri .u8 out),.v (.int .i64 0)]::q):=by
 have qq:decide ((l.length:Int)<(l.length:Int))=false:=by simp
 simp only[go_sem,JCO,b23,Tryz.f23,hlo,qq]<;>rfl
theorem Jbv{l:List Rul.Dc}(hlo:lo<=p.length)(hl:l.length<=1000000000)(hok:∀d∈l,OkD d):∀(m k:Nat) (out:List Int) (p0:V),H0 p.length p0=true->k+m=l.length->(l.drop k).all Kb=true->out.length+Q2 (l.drop k)<=1000000000->
  JA (evCode ⟨Aa,E,lo,p.length+(q.length+1),h23⟩ JA JCO) (ND p.length l k,p++ .cells [p0,.list .yes (ri .u8 out),.v (.int .i64 0)]::q)=
   some (.exit 0,ND p.length l l.length++[(16,.v (.bool false))],p++ .cells [pw p.length p0 (l.drop k).isEmpty,.list .yes (ri .u8 (out++K8 (l.drop k))),.v (.int .i64 0)]::q):=by
 intro m
 induction m with
 |zero=>
  intro k out p0 hp hk _ _;obtain rfl:k=l.length:=om;rw[Be,loop_eq,Jbu hlo,Kv]
  simp only[K8,Av,pw,Mn,if_true]
 |succ m ih=>
  intro k out p0 hp hk ha ho;have hlt:k<l.length:=om;have hg:l[k]? =some l[k]:=Ac hlt
  have hd:l.drop k=l[k]::l.drop (k+1):=AD hlt;have hok1:=hok l[k] (Ba hlt);rw[hd]at ha ho⊢;generalize l[k]=t at*;rw[Bg,Af]at ha;simp only[Q2]at ho;have hlen:=zw hok1;have hr:=Jbr (q:=q) hlo hp hl hg hok1 ha.1 (out:=out) (by unfold JAk at ho;omega)
  rw[loop_eq,hr,JK,ih (k+1) (out++Ga t) (.ptr p.length 0) KJ om ha.2 (by simp only[Ah];omega)]
  have e1:pw p.length (.ptr p.length 0) (l.drop (k+1)).isEmpty= .ptr p.length 0:=by unfold pw;split<;>rfl
  have e2:pw p.length p0 (t::l.drop (k+1)).isEmpty= .ptr p.length 0:=rfl;rw[e1,e2,K8,Ao]
theorem f23{l:List Rul.Dc}(hlo:lo<=p.length)(hp:H0 p.length p0=true)(hl:l.length<=1000000000)(hok:∀d∈l,OkD d)(ha:l.all Kb=true)(ho:out.length+Q2 l<=1000000000):
  E lo 23 [.ptr p.length 0,.list .no (l.map Rul.Jv)] (p++ .cells [p0,.list .yes (ri .u8 out),.v (.int .i64 0)]::q)=
   some (.tup [],p++ .cells [pw p.length p0 l.isEmpty,.list .yes (ri .u8 (out++K8 l)),.v (.int .i64 0)]::q):=by
 have hL:=Jbv (q:=q) hlo hl hok l.length 0 out p0 hp om (by rw[Az];exact ha) (by rw[Az];exact ho)
 rw[Az]at hL;have n0:((0:Nat):Int)=0:=rfl;simp only[JCO,b23,Tryz.f23,JD,JT,JB,go_sem,ND,n0,Al,Ai]at hL;rw[e23];simp only[go_sem,b23,Tryz.f23,hlo,hL,Ag,n0]<;>rfl
theorem f12(hlo:lo<=p.length)(hy:By out)(hl:out.length<=1000000000):
  E lo 12 [.ptr p.length 0] (p++ .cells [p0,.list .yes (ri .u8 out),.v (.int .i64 0)]::q)=
   some (.tup [.v (.string (bs out)),.v (.int .i64 0)],p++ .cells [p0,.list .no (ri .u8 out),.v (.int .i64 0)]::q):=by
 have k:=λlo hlo=>Jpg (lo:=lo) (p:=p) (q:=q) (p0:=p0) (r:=[.v (.int .i64 0)]) hlo hy hl
 have ka:=k lo hlo;rw[e12];simp only[go_sem,b12,Tryz.f12,hlo,ka,Bd]<;>rfl
def qG(l:List Rul.Dc):V:=if l.all Kb=true then Yh (K8 l)else ZR
theorem f14{h:JC}{l:List Rul.Dc}(hlo:lo<=h.length)(hl:l.length<=1000000000)(hok:∀d∈l,OkD d)(ho:Q2 l<=1000000000):
  E lo 14 [.list .no (l.map Rul.Jv)] h=some (qG l,h):=by
 have c19:=λlo hlo=>f20 (lo:=lo) (h:=h) (l:=l) hlo hl hok
 have c19a:=c19 lo hlo;have c19b:=c19 h.length (Ab _);unfold qG;rw[e14]
 cases ha:l.all Kb with
 |false=>
  rw[ha]at c19a c19b;rw[if_neg (by simp)]
  unfold ZR
  simp only[go_sem,b14,Tryz.f14,hlo,c19a,c19b]<;>rfl
 |true=>
  rw[ha]at c19a c19b;rw[if_pos rfl];unfold Yh;have c20:=λlo hlo=>f23 (lo:=lo) (p:=h) (q:=[]) (p0:= .v (.pointer none)) (out:=[]) (l:=l) hlo rfl hl hok ha (by simpa using ho)
  have c20a:=c20 lo hlo;have c20b:=c20 h.length (Ab _);have c21:=λlo hlo=>f12 (lo:=lo) (p:=h) (q:=[]) (p0:=pw h.length (.v (.pointer none)) l.isEmpty) (out:=K8 l) hlo (zx hok) (by have:=ZU hok;omega)
  have c21a:=c21 lo hlo;have c21b:=c21 h.length (Ab _);clear c20 c21;rw[Ai]at c20a c20b;have e0:ri .u8 []=[]:=rfl;rw[e0]at c20a c20b;simp only[go_sem,b14,Tryz.f14,hlo,c19a,c19b,c20a,c20b,c21a,c21b]<;>rfl
end Go.Lift.M1
end

section
open Go.Proofs
namespace Go.Lift.M1
variable[MX][HasD][HasN]
open Utf Tok Spell
mutual
def JAl(dep:Nat):Rul.Ru->Bool
 | .mk k n p ds rs=>decide (dep<=64)&&(Q7 p&&(if k=1 then n.isEmpty&&(rs.isEmpty&&ds.all Kb)else if k=2 then Rul.WC n&&(ds.isEmpty&&K4 (dep+1) rs)else false))
def K4(dep:Nat):List Rul.Ru->Bool
 |[]=>true
 |r::l=>JAl dep r&&K4 dep l
end
mutual
def ruT:Rul.Ru->List Int
 | .mk k n p ds rs=>if k=1 then Km p++([123]++(K8 ds++[125]))else([64]++n++[32])++(Km p++([123]++(Yj rs++[125])))
def Yj:List Rul.Ru->List Int
 |[]=>[]
 |r::l=>ruT r++Yj l
end
mutual
def HR:Rul.Ru->Nat
 | .mk k n p ds rs=>n.length+Zf ((Rul.Je p).map ofR)+Q2 ds+J7 rs+100
def J7:List Rul.Ru->Nat
 |[]=>0
 |r::l=>HR r+J7 l
end
mutual
def OkR:Rul.Ru->Prop
 | .mk k n p ds rs=>By n/\n.length<=10000000/\OkL p/\ds.length<=1000000000/\(∀d∈ds,OkD d)/\rs.length<=1000000000/\ZV rs
def ZV:List Rul.Ru->Prop
 |[]=>True
 |r::l=>OkR r/\ZV l
end
theorem JCt{dep:Nat}{k:Int}{n:List Int}{p:List Rul.CV}{ds:List Rul.Dc}{rs:List Rul.Ru}:
  JAl dep (.mk k n p ds rs)=(decide (dep<=64)&&(Q7 p&&(if k=1 then n.isEmpty&&(rs.isEmpty&&ds.all Kb)else if k=2 then Rul.WC n&&(ds.isEmpty&&K4 (dep+1) rs)else false))):=by rw[JAl]
theorem Ys{dep:Nat}:K4 dep []=true:=by rw[K4]
theorem qH{dep:Nat}{r:Rul.Ru}{l:List Rul.Ru}:K4 dep (r::l)=(JAl dep r&&K4 dep l):=by rw[K4]
theorem zy{k:Int}{n:List Int}{p:List Rul.CV}{ds:List Rul.Dc}{rs:List Rul.Ru}:
  ruT (.mk k n p ds rs)=if k=1 then Km p++([123]++(K8 ds++[125]))else([64]++n++[32])++(Km p++([123]++(Yj rs++[125]))):=by rw[ruT]
theorem Gb:Yj []=[]:=by rw[Yj]
theorem je{r:Rul.Ru}{l:List Rul.Ru}:Yj (r::l)=ruT r++Yj l:=by rw[Yj]
theorem jB{k:Int}{n:List Int}{p:List Rul.CV}{ds:List Rul.Dc}{rs:List Rul.Ru}:
  HR (.mk k n p ds rs)=n.length+Zf ((Rul.Je p).map ofR)+Q2 ds+J7 rs+100:=by rw[HR]
theorem JMt:J7 []=0:=by rw[J7]
theorem Qt{r:Rul.Ru}{l:List Rul.Ru}:J7 (r::l)=HR r+J7 l:=by rw[J7]
theorem G4{k:Int}{n:List Int}{p:List Rul.CV}{ds:List Rul.Dc}{rs:List Rul.Ru}:
  OkR (.mk k n p ds rs)↔By n/\n.length<=10000000/\OkL p/\ds.length<=1000000000/\(∀d∈ds,OkD d)/\rs.length<=1000000000/\ZV rs:=by rw[OkR]
theorem jg{r:Rul.Ru}{l:List Rul.Ru}:ZV (r::l)↔OkR r/\ZV l:=by rw[ZV]
theorem ZW:∀{l:List Rul.Ru} {r:Rul.Ru},ZV l->r∈l->OkR r
 |[],_,_,h=>by cases h
 |x::l,r,hk,h=>by
  rw[jg]at hk;rcases A2.1 h with rfl|h
  ·exact hk.1
  ·exact ZW hk.2 h
theorem JBA:∀{l:List Rul.Ru},(∀r∈l,OkR r)->ZV l
 |[],_=>by rw[ZV];trivial
 |x::l,h=>jg.2 ⟨h x (by simp),JBA λr hr=>h r (by simp[hr])⟩
theorem G5:∀{l:List Rul.Ru} {r:Rul.Ru},r∈l->HR r<=J7 l
 |[],_,h=>by cases h
 |x::l,r,h=>by
  rw[Qt];rcases A2.1 h with rfl|h
  ·omega
  ·have:=G5 h
   omega
def Yg:Rul.Ru->List Rul.Ru
 | .mk _ _ _ _ rs=>rs
theorem JYG:By [64]:=Jh om om J9
theorem JYH:By [32]:=Jh om om J9
theorem JHu:By [123]:=Jh om om J9
theorem JHv:By [125]:=Jh om om J9
mutual
theorem JHw:∀(r:Rul.Ru),OkR r->(ruT r).length<=HR r
 | .mk k n p ds rs,h=>by
  rw[G4]at h;have h1:=Yr h.2.2.1;have h2:=ZU h.2.2.2.2.1;have h3:=jC rs h.2.2.2.2.2.2;rw[zy,jB]
  split
  ·simp only[Ah,Ae,An]
   omega
  ·simp only[Ah,Ae,An]
   omega
theorem jC:∀(l:List Rul.Ru),ZV l->(Yj l).length<=J7 l
 |[],_=>by rw[Gb];simp
 |r::l,h=>by rw[jg]at h;have h1:=JHw r h.1;have h2:=jC l h.2;rw[je,Qt,Ah];omega
end
mutual
theorem Jbw:∀(r:Rul.Ru),OkR r->By (ruT r)
 | .mk k n p ds rs,h=>by
  rw[G4]at h;have h1:=JKj h.2.2.1;have h2:=zx h.2.2.2.2.1;have h3:=JHx rs h.2.2.2.2.2.2;rw[zy]
  split
  ·exact J6 h1 (J6 JHu (J6 h2 JHv))
  ·exact J6 (J6 (J6 JYG h.1) JYH) (J6 h1 (J6 JHu (J6 h3 JHv)))
theorem JHx:∀(l:List Rul.Ru),ZV l->By (Yj l)
 |[],_=>by rw[Gb];exact J9
 |r::l,h=>by rw[jg]at h;rw[je];exact J6 (Jbw r h.1) (JHx l h.2)
end
end Go.Lift.M1
end

section
open Go.Proofs
namespace Go.Lift.M1
variable[MX][HasD][HasN]
open Utf Tok Spell
variable{lo:Nat}{h:JC}
def mediaT:List Int:=[109,101,100,105,97]
def suppT:List Int:=[115,117,112,112,111,114,116,115]
def contT:List Int:=[99,111,110,116,97,105,110,101,114]
theorem KG:(⟨#[109,101,100,105,97]⟩:ByteArray)=bs mediaT:=rfl
theorem Kf:(⟨#[115,117,112,112,111,114,116,115]⟩:ByteArray)=bs suppT:=rfl
theorem Kg:(⟨#[99,111,110,116,97,105,110,101,114]⟩:ByteArray)=bs contT:=rfl
theorem JGh:By mediaT:=by intro c hc;unfold mediaT at hc;simp at hc;omega
theorem JN1:By suppT:=by intro c hc;unfold suppT at hc;simp at hc;omega
theorem JN2:By contT:=by intro c hc;unfold contT at hc;simp at hc;omega
theorem JAm(n:List Int):Rul.WC n=(n==mediaT||n==suppT||n==contT):=rfl
theorem JKk{α:Type}(l:List α):(((l.length:Nat):Int)==0)=l.isEmpty:=by
 cases l with
 |nil=>rfl
 |cons a l=>simp;omega
theorem JGi{n:List Int}:decide (n=[])=n.isEmpty:=by cases n<;>simp
abbrev N23(l:List Rul.Ru)(dep:Nat)(k:Int):Jj:=[(1,.v (.int .i64 dep)),(8,.list .no (Rul.Kq l)),(9,.v (.int .i64 l.length)),(10,.v (.int .i64 k))]
theorem JWf{l:List Rul.Ru}{kd:Int}{n:List Int}{p:List Rul.CV}{ds:List Rul.Dc}{rs:List Rul.Ru}{k dep:Nat}(hlo:lo<=h.length)(hl:l.length<=1000000000)(hg:l[k]? =some (.mk kd n p ds rs))(hok:OkR (.mk kd n p ds rs))
  (ih:dep<=64->∀lo h,lo<=h.length->E lo 10 [.list .no (Rul.Kq rs),.v (.int .i64 ((dep+1:Nat):Int))] h=some (.v (.bool (K4 (dep+1) rs)),h)):
  evCode ⟨Aa,E,lo,h.length,h10⟩ JA Qd (N23 l dep k,h)=if JAl dep (.mk kd n p ds rs)=true then some (.normal,N23 l dep (k+1:Nat),h)else some (.ret,[(4,.v (.bool false))],h++[.cells (Rul.HU (.mk kd n p ds rs))]):=by
 have hlt:k<l.length:=(Ad.1 hg).1
 have hgr:(Rul.Kq l)[k]? =some (Rul.HU (.mk kd n p ds rs)):=by rw[Rul.rusC_map,Ax,hg]<;>rfl
 have q:decide ((k:Int)<(l.length:Int))=true:=by simp;omega
 have hw:=JH (i:=k) om;have hlo':lo<=h.length+1:=om;rw[G4]at hok;obtain⟨hy,hnl,hp,hdl,hds,hrl,hrs⟩:=hok;have c13:=λlo hlo=>f19 (lo:=lo) (h:=h++[.cells (Rul.HU (.mk kd n p ds rs))]) (l:=p) hlo hp.hn hp.hok
 have c13a:=c13 lo (by simp;omega);have c13b:=c13 h.length (by simp);have c13c:=c13 (h.length+1) (by simp)
 have c19:=λlo hlo=>f20 (lo:=lo) (h:=h++[.cells (Rul.HU (.mk kd n p ds rs))]) (l:=ds) hlo hdl hds
 have c19a:=c19 lo (by simp;omega);have c19b:=c19 h.length (by simp);have c19c:=c19 (h.length+1) (by simp)
 clear c13 c19;have c23:=λhd lo hlo=>ih hd lo (h++[.cells (Rul.HU (.mk kd n p ds rs))]) hlo
 have ed:Rul.HU (.mk kd n p ds rs)=[.v (.int .i64 kd),.v (.string (bs n)),.list .no (Rul.JL p),.list .no (ds.map Rul.Jv),.list .no (Rul.Kq rs)]:=by rw[Rul.HU]<;>rfl
 have t1:=(Ky n).trans JGi;have r0:=JKk rs;have d0:=JKk ds;have b1:=W1 hy JGh;have b2:=W1 hy JN1;have b3:=W1 hy JN2;rw[ed]at hgr c13a c13b c13c c19a c19b c19c⊢;simp only[ed]at c23;rw[JCt];by_cases hd:dep<=64
 ·have ih:=ih hd
  have q64:decide ((64:Int)<(dep:Int))=false:=by simp;omega
  rw[decide_eq_true hd,AB]
  cases hf:Q7 p with
  |false=>
   rw[Aw,if_neg (by simp)]
   rw[hf]at c13a c13b c13c
   simp only[go_sem,Qd,b10,Tryz.f10,hlo,hlo',q,hgr,hw,q64,c13a,c13b,c13c,Ag,Rul.JW]<;>rfl
  |true=>
   rw[AB];rw[hf]at c13a c13b c13c;by_cases h1:kd=1
   ·have kq:(kd==1)=true:=by simpa using h1
    rw[if_pos h1]
    cases hn:n.isEmpty with
    |false=>
     rw[hn]at t1;rw[Aw,if_neg (by simp)]
     simp only[go_sem,Qd,b10,Tryz.f10,hlo,hlo',q,hgr,hw,q64,c13a,c13b,c13c,Ag,Rul.JW,kq,t1]<;>rfl
    |true=>
     rw[hn]at t1;rw[AB]
     cases hr:rs.isEmpty with
     |false=>
      rw[hr]at r0;rw[Aw,if_neg (by simp)]
      simp only[go_sem,Qd,b10,Tryz.f10,hlo,hlo',q,hgr,hw,q64,c13a,c13b,c13c,Ag,Rul.JW,kq,t1,r0]<;>rfl
     |true=>
      rw[hr]at r0;rw[AB]
      cases ha:ds.all Kb with
      |false=>
       rw[ha]at c19a c19b c19c;rw[if_neg (by simp)]
       simp only[go_sem,Qd,b10,Tryz.f10,hlo,hlo',q,hgr,hw,q64,c13a,c13b,c13c,Ag,Rul.JW,kq,t1,r0,c19a,c19b,c19c]<;>rfl
      |true=>
       rw[ha]at c19a c19b c19c;rw[if_pos (by simp)]
       simp only[go_sem,Qd,b10,Tryz.f10,hlo,hlo',q,hgr,hw,q64,c13a,c13b,c13c,Ag,Rul.JW,kq,t1,r0,c19a,c19b,c19c]<;>rfl
   ·have k1:(kd==1)=false:=by simpa using h1
    rw[if_neg h1];by_cases h2:kd=2
    ·have kq:(kd==2)=true:=by simpa using h2
     rw[if_pos h2,JAm];have hwd:=JH (i:=dep) om;have c23a:=c23 hd lo (by simp;omega);have c23b:=c23 hd h.length (by simp);have c23c:=c23 hd (h.length+1) (by simp)
     cases g1:n==mediaT with
     |true=>
      rw[g1]at b1;rw[B1,B1,AB]
      cases he:ds.isEmpty with
      |false=>
       rw[he]at d0;rw[Aw,if_neg (by simp)]
       simp only[go_sem,Qd,b10,Tryz.f10,hlo,hlo',q,hgr,hw,q64,c13a,c13b,c13c,Ag,Rul.JW,kq,k1,KG,Kf,Kg,d0,b1]<;>rfl
      |true=>
       rw[he]at d0;rw[AB]
       cases hm:K4 (dep+1) rs with
       |false=>
        rw[hm]at c23a c23b c23c;rw[if_neg (by simp)]
        simp only[go_sem,Qd,b10,Tryz.f10,hlo,hlo',q,hgr,hw,q64,c13a,c13b,c13c,Ag,Rul.JW,kq,k1,KG,Kf,Kg,d0,b1,hwd,c23a,c23b,c23c]<;>rfl
       |true=>
        rw[hm]at c23a c23b c23c;rw[if_pos (by simp)]
        simp only[go_sem,Qd,b10,Tryz.f10,hlo,hlo',q,hgr,hw,q64,c13a,c13b,c13c,Ag,Rul.JW,kq,k1,KG,Kf,Kg,d0,b1,hwd,c23a,c23b,c23c]<;>rfl
     |false=>
      rw[g1]at b1
      cases g2:n==suppT with
      |true=>
       rw[g2]at b2;rw[Bb,B1,AB]
       cases he:ds.isEmpty with
       |false=>
        rw[he]at d0;rw[Aw,if_neg (by simp)]
        simp only[go_sem,Qd,b10,Tryz.f10,hlo,hlo',q,hgr,hw,q64,c13a,c13b,c13c,Ag,Rul.JW,kq,k1,KG,Kf,Kg,d0,b1,b2]<;>rfl
       |true=>
        rw[he]at d0;rw[AB]
        cases hm:K4 (dep+1) rs with
        |false=>
         rw[hm]at c23a c23b c23c;rw[if_neg (by simp)]
         simp only[go_sem,Qd,b10,Tryz.f10,hlo,hlo',q,hgr,hw,q64,c13a,c13b,c13c,Ag,Rul.JW,kq,k1,KG,Kf,Kg,d0,b1,b2,hwd,c23a,c23b,c23c]<;>rfl
        |true=>
         rw[hm]at c23a c23b c23c;rw[if_pos (by simp)]
         simp only[go_sem,Qd,b10,Tryz.f10,hlo,hlo',q,hgr,hw,q64,c13a,c13b,c13c,Ag,Rul.JW,kq,k1,KG,Kf,Kg,d0,b1,b2,hwd,c23a,c23b,c23c]<;>rfl
      |false=>
       rw[g2]at b2
       cases g3:n==contT with
       |true=>
        rw[g3]at b3;rw[Bb,Bb,AB]
        cases he:ds.isEmpty with
        |false=>
         rw[he]at d0;rw[Aw,if_neg (by simp)]
         simp only[go_sem,Qd,b10,Tryz.f10,hlo,hlo',q,hgr,hw,q64,c13a,c13b,c13c,Ag,Rul.JW,kq,k1,KG,Kf,Kg,d0,b1,b2,b3]<;>rfl
        |true=>
         rw[he]at d0;rw[AB]
         cases hm:K4 (dep+1) rs with
         |false=>
          rw[hm]at c23a c23b c23c;rw[if_neg (by simp)]
          simp only[go_sem,Qd,b10,Tryz.f10,hlo,hlo',q,hgr,hw,q64,c13a,c13b,c13c,Ag,Rul.JW,kq,k1,KG,Kf,Kg,d0,b1,b2,b3,hwd,c23a,c23b,c23c]<;>rfl
         |true=>
          rw[hm]at c23a c23b c23c;rw[if_pos (by simp)]
          simp only[go_sem,Qd,b10,Tryz.f10,hlo,hlo',q,hgr,hw,q64,c13a,c13b,c13c,Ag,Rul.JW,kq,k1,KG,Kf,Kg,d0,b1,b2,b3,hwd,c23a,c23b,c23c]<;>rfl
       |false=>
        rw[g3]at b3;rw[Bb,Bb,Aw,if_neg (by simp)]
        simp only[go_sem,Qd,b10,Tryz.f10,hlo,hlo',q,hgr,hw,q64,c13a,c13b,c13c,Ag,Rul.JW,kq,k1,KG,Kf,Kg,b1,b2,b3]<;>rfl
    ·have k2:(kd==2)=false:=by simpa using h2
     rw[if_neg h2,if_neg (by simp)]
     simp only[go_sem,Qd,b10,Tryz.f10,hlo,hlo',q,hgr,hw,q64,c13a,c13b,c13c,Ag,Rul.JW,k1,k2]<;>rfl
 ·have q64:decide ((64:Int)<(dep:Int))=true:=by simp;omega
  rw[decide_eq_false hd,Aw,if_neg (by simp)]
  simp only[go_sem,Qd,b10,Tryz.f10,hlo,hlo',q,hgr,hw,q64,c13a,c13b,c13c,Ag,Rul.JW]<;>rfl
theorem Jbx{l:List Rul.Ru}{dep:Nat}(hlo:lo<=h.length):evCode ⟨Aa,E,lo,h.length,h10⟩ JA Qd (N23 l dep l.length,h)=
   some (.exit 0,N23 l dep l.length++[(11,.v (.bool false))],h):=by
 have q:decide ((l.length:Int)<(l.length:Int))=false:=by simp
 simp only[go_sem,Qd,b10,Tryz.f10,hlo,q]<;>rfl
theorem JSs{l:List Rul.Ru}{dep:Nat}(hlo:lo<=h.length)(hl:l.length<=1000000000)(hok:ZV l)
  (ih:dep<=64->∀r∈l,∀lo h,lo<=h.length->E lo 10 [.list .no (Rul.Kq (Yg r)),.v (.int .i64 ((dep+1:Nat):Int))] h=some (.v (.bool (K4 (dep+1) (Yg r))),h)):∀(m k:Nat),k+m=l.length->
  if K4 dep (l.drop k)=true then
   JA (evCode ⟨Aa,E,lo,h.length,h10⟩ JA Qd) (N23 l dep k,h)=some (.exit 0,N23 l dep l.length++[(11,.v (.bool false))],h)
  else∃X,JA (evCode ⟨Aa,E,lo,h.length,h10⟩ JA Qd) (N23 l dep k,h)=some (.ret,[(4,.v (.bool false))],h++X):=by
 intro m
 induction m with
 |zero=>
  intro k hk;obtain rfl:k=l.length:=om
  rw[Be,if_pos Ys,loop_eq,Jbx hlo,Kv]
 |succ m ihm=>
  intro k hk;have hlt:k<l.length:=om;have hg:l[k]? =some l[k]:=Ac hlt
  have hd:l.drop k=l[k]::l.drop (k+1):=AD hlt;have hmem:=Ba hlt;have hok1:=ZW hok hmem;have ih1:=λhd=>ih hd l[k] hmem
  rw[hd];generalize l[k]=t at*;obtain⟨kd,n,p,ds,rs⟩:=t;have hr:=JWf (dep:=dep) hlo hl hg hok1 ih1;rw[qH]
  cases hm:JAl dep (.mk kd n p ds rs)with
  |false=>
   rw[hm,if_neg (by simp)]at hr
   rw[Aw,if_neg (by simp)]
   exact⟨_,by rw[loop_eq,hr,QY]⟩
  |true=>rw[hm,if_pos rfl]at hr;rw[AB,loop_eq,hr,JK];exact ihm (k+1) om
theorem Yt{r:Rul.Ru}:J7 (Yg r)+100<=HR r:=by
 obtain⟨kd,n,p,ds,rs⟩:=r;rw[jB];show J7 rs+100<=_
 omega
theorem JHy{r:Rul.Ru}(h:OkR r):ZV (Yg r)/\(Yg r).length<=1000000000:=by obtain⟨kd,n,p,ds,rs⟩:=r;rw[G4]at h;exact⟨h.2.2.2.2.2.2,h.2.2.2.2.2.1⟩
theorem f10:∀(N:Nat) (l:List Rul.Ru) (dep lo:Nat) (h:JC),J7 l<=N->ZV l->l.length<=1000000000->dep<=65->lo<=h.length->
  E lo 10 [.list .no (Rul.Kq l),.v (.int .i64 (dep:Nat))] h=some (.v (.bool (K4 dep l)),h):=by
 intro N
 induction N with
 |zero=>
  intro l dep lo h hc hok hl hdep hlo
  cases l with
  |nil=>
   have hL:=JSs (lo:=lo) (h:=h) (l:=[]) (dep:=dep) hlo hl hok (λ_ r hr=>by cases hr) 0 0 rfl
   rw[Az,if_pos Ys]at hL;have n0:((0:Nat):Int)=0:=rfl;rw[Ys,e10];simp only[Qd,b10,Tryz.f10,JD,JT,JB,go_sem,N23,n0,Al,Ai,An]at hL
   simp only[go_sem,b10,Tryz.f10,hlo,hL,Rul.JW,n0,An]<;>rfl
  |cons r l=>
   rw[Qt]at hc;have:=Yt (r:=r)
   omega
 |succ N ihN=>
  intro l dep lo h hc hok hl hdep hlo
  have hL:=JSs (lo:=lo) (h:=h) (l:=l) (dep:=dep) hlo hl hok (λhd r hr lo h hlo=>by
   have k1:=G5 hr;have k2:=Yt (r:=r);have k3:=JHy (ZW hok hr)
   exact ihN (Yg r) (dep+1) lo h om k3.1 k3.2 om hlo) l.length 0 om
  rw[Az]at hL;have n0:((0:Nat):Int)=0:=rfl;rw[e10]
  cases hm:K4 dep l with
  |false=>
   rw[hm,if_neg (by simp)]at hL
   obtain⟨X,hL⟩:=hL;simp only[Qd,b10,Tryz.f10,JD,JT,JB,go_sem,N23,n0]at hL
   simp only[go_sem,b10,Tryz.f10,hlo,hL,Rul.JW,n0]<;>rfl
  |true=>rw[hm,if_pos rfl]at hL;simp only[Qd,b10,Tryz.f10,JD,JT,JB,go_sem,N23,n0,Al,Ai]at hL;simp only[go_sem,b10,Tryz.f10,hlo,hL,Rul.JW,n0]<;>rfl
end Go.Lift.M1
end

section
open Go.Proofs
namespace Go.Lift.M1
variable[MX][HasD][HasN]
open Utf Tok Spell
variable{lo:Nat}{p q:JC}{p0:V}{out:List Int}
theorem JAn:(⟨#[64]⟩:ByteArray)=bs [64]:=rfl
theorem jD:(⟨#[32]⟩:ByteArray)=bs [32]:=rfl
theorem G6:(⟨#[123]⟩:ByteArray)=bs [123]:=rfl
theorem G7:(⟨#[125]⟩:ByteArray)=bs [125]:=rfl
theorem JHz(i:Nat)(e:Bool):pw i (.ptr i 0) e= .ptr i 0:=by unfold pw;split<;>rfl
abbrev NRw(i:Nat)(l:List Rul.Ru)(k:Int):Jj:=[(0,.ptr i 0),(4,.fn 21 [.undef,.ptr i 0]),(11,.list .no (Rul.Kq l)),(12,.v (.int .i64 l.length)),(13,.v (.int .i64 k))]
section
variable{l:List Rul.Ru}{kd:Int}{n:List Int}{pr:List Rul.CV}{ds:List Rul.Dc}{rs:List Rul.Ru}{k:Nat}
theorem JWg(hlo:lo<=p.length)(hp:H0 p.length p0=true)(hl:l.length<=1000000000)(hg:l[k]? =some (.mk kd n pr ds rs))(hok:OkR (.mk kd n pr ds rs))(hk:kd=1)(hf:Q7 pr=true)(ha:ds.all Kb=true)(ho:out.length+HR (.mk kd n pr ds rs)<=1000000000):
  evCode ⟨Aa,E,lo,p.length+(q.length+1),h11⟩ JA jv (NRw p.length l k,p++ .cells [p0,.list .yes (ri .u8 out),.v (.int .i64 0)]::q)=
   some (.normal,NRw p.length l (k+1:Nat),p++ .cells [.ptr p.length 0,.list .yes (ri .u8 (out++ruT (.mk kd n pr ds rs))),.v (.int .i64 0)]::q):=by
 have hlt:k<l.length:=(Ad.1 hg).1
 have hgr:(Rul.Kq l)[k]? =some (Rul.HU (.mk kd n pr ds rs)):=by rw[Rul.rusC_map,Ax,hg]<;>rfl
 have ed:Rul.HU (.mk kd n pr ds rs)=[.v (.int .i64 kd),.v (.string (bs n)),.list .no (Rul.JL pr),.list .no (ds.map Rul.Jv),.list .no (Rul.Kq rs)]:=by rw[Rul.HU]<;>rfl
 have qq:decide ((k:Int)<(l.length:Int))=true:=by simp;omega
 have hw:=JH (i:=k) om;have kq:(kd==1)=true:=by simpa using hk
 rw[G4]at hok;obtain⟨hy,hnl,hv,hdl,hds,hrl,hrs⟩:=hok;rw[jB]at ho;have hvt:GZ pr=Km pr:=by unfold GZ;rw[if_pos hf]
 have hve:GD pr=0:=by unfold GD;rw[if_pos hf]
 have hvl:=Yr hv;have hdc:=ZU hds;have e0:e1 0 0=0:=rfl;have k1:=f22 (lo:=lo) (p:=p) (q:=q++[.cells (Rul.HU (.mk kd n pr ds rs))]) (p0:=p0) (out:=out) (n:=0) (l:=pr) hlo hp hv om;rw[hvt,hve,e0]at k1;have k2:=ZP (lo:=lo) (p:=p) (q:=q++[.cells (Rul.HU (.mk kd n pr ds rs))]) (p0:= .ptr p.length 0) (out:=out++Km pr) (n:=0) hlo KJ (s:=[123]) JHu (by simp;omega) (by simp)
 have k3:=f23 (lo:=lo) (p:=p) (q:=q++[.cells (Rul.HU (.mk kd n pr ds rs))]) (p0:= .ptr p.length 0) (out:=out++Km pr++[123]) (l:=ds) hlo KJ hdl hds ha (by simp;omega)
 rw[JHz]at k3;have k4:=ZP (lo:=lo) (p:=p) (q:=q++[.cells (Rul.HU (.mk kd n pr ds rs))]) (p0:= .ptr p.length 0) (out:=out++Km pr++[123]++K8 ds) (n:=0) hlo KJ (s:=[125]) JHv (by simp;omega) (by simp)
 have hat:∀o c:Ob,(p++o::(q++[c]))[p.length+(q.length+1)]? =some c:=λo c=>by rw[AZ om];simp
 rw[zy,if_pos hk];rw[ed]at hgr k1 k2 k3 k4;simp only[Ao,Al,Ai]at k1 k2 k3 k4;have hlo2:lo<=p.length+(q.length+1):=om;have hlt2:p.length<p.length+(q.length+1):=om;simp only[go_sem,jv,b11,Tryz.f11,qq,hgr,hw,hlo,hlo2,hlt2,hat,kq,G6,G7,k1,k2,k3,k4,Ap,Ao,Al,Ai,Rul.JW]<;>rfl
theorem JWh(hlo:lo<=p.length)(hp:H0 p.length p0=true)(hl:l.length<=1000000000)(hg:l[k]? =some (.mk kd n pr ds rs))(hok:OkR (.mk kd n pr ds rs))(hk:kd≠1)(hf:Q7 pr=true)(ho:out.length+HR (.mk kd n pr ds rs)<=1000000000)
  (ih:∀(lo:Nat) (p q:JC) (p0:V) (out:List Int),lo<=p.length->H0 p.length p0=true->out.length+J7 rs<=1000000000->
   E lo 11 [.ptr p.length 0,.list .no (Rul.Kq rs)] (p++ .cells [p0,.list .yes (ri .u8 out),.v (.int .i64 0)]::q)=some (.tup [],p++ .cells [pw p.length p0 rs.isEmpty,.list .yes (ri .u8 (out++Yj rs)),.v (.int .i64 0)]::q)):
  evCode ⟨Aa,E,lo,p.length+(q.length+1),h11⟩ JA jv (NRw p.length l k,p++ .cells [p0,.list .yes (ri .u8 out),.v (.int .i64 0)]::q)=
   some (.normal,NRw p.length l (k+1:Nat),p++ .cells [.ptr p.length 0,.list .yes (ri .u8 (out++ruT (.mk kd n pr ds rs))),.v (.int .i64 0)]::q):=by
 have hlt:k<l.length:=(Ad.1 hg).1
 have hgr:(Rul.Kq l)[k]? =some (Rul.HU (.mk kd n pr ds rs)):=by rw[Rul.rusC_map,Ax,hg]<;>rfl
 have ed:Rul.HU (.mk kd n pr ds rs)=[.v (.int .i64 kd),.v (.string (bs n)),.list .no (Rul.JL pr),.list .no (ds.map Rul.Jv),.list .no (Rul.Kq rs)]:=by rw[Rul.HU]<;>rfl
 have qq:decide ((k:Int)<(l.length:Int))=true:=by simp;omega
 have hw:=JH (i:=k) om;have kq:(kd==1)=false:=by simpa using hk
 rw[G4]at hok;obtain⟨hy,hnl,hv,hdl,hds,hrl,hrs⟩:=hok;rw[jB]at ho;have hvt:GZ pr=Km pr:=by unfold GZ;rw[if_pos hf]
 have hve:GD pr=0:=by unfold GD;rw[if_pos hf]
 have hvl:=Yr hv;have hrc:=jC rs hrs;have e0:e1 0 0=0:=rfl;have k0:=ZP (lo:=lo) (p:=p) (q:=q++[.cells (Rul.HU (.mk kd n pr ds rs))]) (p0:=p0) (out:=out) (n:=0) hlo hp (s:=[64]++n++[32]) (J6 (J6 JYG hy) JYH) om (by simp;omega)
 have k1:=f22 (lo:=lo) (p:=p) (q:=q++[.cells (Rul.HU (.mk kd n pr ds rs))]) (p0:= .ptr p.length 0) (out:=out++([64]++n++[32])) (n:=0) (l:=pr) hlo KJ hv (by simp;omega)
 rw[hvt,hve,e0]at k1;have k2:=ZP (lo:=lo) (p:=p) (q:=q++[.cells (Rul.HU (.mk kd n pr ds rs))]) (p0:= .ptr p.length 0) (out:=out++([64]++n++[32])++Km pr) (n:=0) hlo KJ (s:=[123]) JHu (by simp;omega) (by simp)
 have k3:=ih lo p (q++[.cells (Rul.HU (.mk kd n pr ds rs))]) (.ptr p.length 0) (out++([64]++n++[32])++Km pr++[123]) hlo KJ (by simp;omega)
 rw[JHz]at k3;have k4:=ZP (lo:=lo) (p:=p) (q:=q++[.cells (Rul.HU (.mk kd n pr ds rs))]) (p0:= .ptr p.length 0) (out:=out++([64]++n++[32])++Km pr++[123]++Yj rs) (n:=0) hlo KJ (s:=[125]) JHv (by simp;omega) (by simp)
 have hat:∀o c:Ob,(p++o::(q++[c]))[p.length+(q.length+1)]? =some c:=λo c=>by rw[AZ om];simp
 rw[zy,if_neg hk];rw[ed]at hgr k0 k1 k2 k3 k4;simp only[Ao,Al,Ai]at k0 k1 k2 k3 k4⊢;have z1:1+n.length<=9223372036854775807:=om;have z2:1+n.length+1<=9223372036854775807:=om;have z3:n.length+1<=9223372036854775807:=om;have z4:n.length+1+1<=9223372036854775807:=om;have hlo2:lo<=p.length+(q.length+1):=om
 have hlt2:p.length<p.length+(q.length+1):=om;simp only[go_sem,jv,b11,Tryz.f11,qq,hgr,hw,hlo,hlo2,hlt2,hat,kq,JAn,jD,G6,G7,Jb,bs_size,Ah,Ae,An,AE,z1,z2,z3,z4,k0,k1,k2,k3,k4,Ap,Ao,Al,Ai,Rul.JW]<;>rfl
end
theorem Jby{l:List Rul.Ru}(hlo:lo<=p.length):
  evCode ⟨Aa,E,lo,p.length+(q.length+1),h11⟩ JA jv (NRw p.length l l.length,p++ .cells [p0,.list .yes (ri .u8 out),.v (.int .i64 0)]::q)=
   some (.exit 0,NRw p.length l l.length++[(14,.v (.bool false))],p++ .cells [p0,.list .yes (ri .u8 out),.v (.int .i64 0)]::q):=by
 have qq:decide ((l.length:Int)<(l.length:Int))=false:=by simp
 simp only[go_sem,jv,b11,Tryz.f11,hlo,qq]<;>rfl
theorem JSt{dep:Nat}{l:List Rul.Ru}(hlo:lo<=p.length)(hl:l.length<=1000000000)(hok:ZV l)
  (ih:∀r∈l,K4 (dep+1) (Yg r)=true->∀(lo:Nat) (p q:JC) (p0:V) (out:List Int),lo<=p.length->H0 p.length p0=true->out.length+J7 (Yg r)<=1000000000->
   E lo 11 [.ptr p.length 0,.list .no (Rul.Kq (Yg r))] (p++ .cells [p0,.list .yes (ri .u8 out),.v (.int .i64 0)]::q)=some (.tup [],p++ .cells [pw p.length p0 (Yg r).isEmpty,.list .yes (ri .u8 (out++Yj (Yg r))),.v (.int .i64 0)]::q)):
  ∀(m k:Nat) (out:List Int) (p0:V),H0 p.length p0=true->k+m=l.length->K4 dep (l.drop k)=true->out.length+J7 (l.drop k)<=1000000000->
  JA (evCode ⟨Aa,E,lo,p.length+(q.length+1),h11⟩ JA jv) (NRw p.length l k,p++ .cells [p0,.list .yes (ri .u8 out),.v (.int .i64 0)]::q)=
   some (.exit 0,NRw p.length l l.length++[(14,.v (.bool false))],p++ .cells [pw p.length p0 (l.drop k).isEmpty,.list .yes (ri .u8 (out++Yj (l.drop k))),.v (.int .i64 0)]::q):=by
 intro m
 induction m with
 |zero=>
  intro k out p0 hp hk _ _;obtain rfl:k=l.length:=om;rw[Be,loop_eq,Jby hlo,Kv]
  simp only[Gb,Av,pw,Mn,if_true]
 |succ m ihm=>
  intro k out p0 hp hk ha ho;have hlt:k<l.length:=om;have hg:l[k]? =some l[k]:=Ac hlt
  have hd:l.drop k=l[k]::l.drop (k+1):=AD hlt;have hmem:=Ba hlt;have hok1:=ZW hok hmem;have ih1:=ih l[k] hmem;rw[hd]at ha ho⊢;generalize l[k]=t at*;rw[qH,Af]at ha;rw[Qt]at ho;have hlen:=JHw t hok1
  have hr:evCode ⟨Aa,E,lo,p.length+(q.length+1),h11⟩ JA jv (NRw p.length l k,p++ .cells [p0,.list .yes (ri .u8 out),.v (.int .i64 0)]::q)=
    some (.normal,NRw p.length l (k+1:Nat),p++ .cells [.ptr p.length 0,.list .yes (ri .u8 (out++ruT t)),.v (.int .i64 0)]::q):=by
   obtain⟨kd,n,pr,ds,rs⟩:=t;have hm:=ha.1;rw[JCt,Af,Af]at hm;by_cases h1:kd=1
   ·rw[if_pos h1,Af,Af]at hm
    exact JWg hlo hp hl hg hok1 h1 hm.2.1 hm.2.2.2.2 om
   ·rw[if_neg h1]at hm
    by_cases h2:kd=2
    ·rw[if_pos h2,Af,Af]at hm
     exact JWh hlo hp hl hg hok1 h1 hm.2.1 om (ih1 hm.2.2.2.2)
    ·rw[if_neg h2]at hm
     exact absurd hm.2.2 (by simp)
  rw[loop_eq,hr,JK,ihm (k+1) (out++ruT t) (.ptr p.length 0) KJ om ha.2 (by simp only[Ah];omega)]
  have e2:pw p.length p0 (t::l.drop (k+1)).isEmpty= .ptr p.length 0:=rfl;rw[JHz,e2,je,Ao]
theorem f11:∀(N:Nat) (l:List Rul.Ru) (dep:Nat),J7 l<=N->ZV l->l.length<=1000000000->K4 dep l=true->∀(lo:Nat) (p q:JC) (p0:V) (out:List Int),lo<=p.length->H0 p.length p0=true->out.length+J7 l<=1000000000->
  E lo 11 [.ptr p.length 0,.list .no (Rul.Kq l)] (p++ .cells [p0,.list .yes (ri .u8 out),.v (.int .i64 0)]::q)=some (.tup [],p++ .cells [pw p.length p0 l.isEmpty,.list .yes (ri .u8 (out++Yj l)),.v (.int .i64 0)]::q):=by
 intro N
 induction N with
 |zero=>
  intro l dep hc hok hl hm lo p q p0 out hlo hp ho
  cases l with
  |nil=>
   have hL:=JSt (q:=q) (dep:=dep) (l:=[]) hlo hl hok (λr hr=>by cases hr) 0 0 out p0 hp rfl hm ho
   rw[Az]at hL;have n0:((0:Nat):Int)=0:=rfl;simp only[jv,b11,Tryz.f11,JD,JT,JB,go_sem,NRw,n0,Al,Ai,An]at hL;rw[e11]
   simp only[go_sem,b11,Tryz.f11,hlo,hL,Rul.JW,n0,An]<;>rfl
  |cons r l=>
   rw[Qt]at hc;have:=Yt (r:=r)
   omega
 |succ N ihN=>
  intro l dep hc hok hl hm lo p q p0 out hlo hp ho
  have hL:=JSt (q:=q) (dep:=dep) (l:=l) hlo hl hok (λr hr hmr lo p q p0 out hlo hp ho=>by
   have k1:=G5 hr;have k2:=Yt (r:=r);have k3:=JHy (ZW hok hr)
   exact ihN (Yg r) (dep+1) om k3.1 k3.2 hmr lo p q p0 out hlo hp ho) l.length 0 out p0 hp om (by rw[Az];exact hm) (by rw[Az];exact ho)
  rw[Az]at hL;have n0:((0:Nat):Int)=0:=rfl;simp only[jv,b11,Tryz.f11,JD,JT,JB,go_sem,NRw,n0,Al,Ai]at hL;rw[e11];simp only[go_sem,b11,Tryz.f11,hlo,hL,Rul.JW,n0]<;>rfl
def jG(l:List Rul.Ru):V:=if K4 1 l=true then Yh (Yj l)else ZR
theorem f5{h:JC}{l:List Rul.Ru}(hlo:lo<=h.length)(hl:l.length<=1000000000)(hok:ZV l)(ho:J7 l<=1000000000):
  E lo 5 [.list .no (Rul.Kq l)] h=some (jG l,h):=by
 have c23:=λlo hlo=>f10 (J7 l) l 1 lo h (Ab _) hok hl om hlo
 have n1:((1:Nat):Int)=1:=rfl;rw[n1]at c23;have c23a:=c23 lo hlo;have c23b:=c23 h.length (Ab _);clear c23;unfold jG;rw[e5]
 cases ha:K4 1 l with
 |false=>
  rw[ha]at c23a c23b;rw[if_neg (by simp)]
  unfold ZR
  simp only[go_sem,b5,Tryz.f5,hlo,c23a,c23b]<;>rfl
 |true=>
  rw[ha]at c23a c23b;rw[if_pos rfl];unfold Yh;have c24:=λlo hlo=>f11 (J7 l) l 1 (Ab _) hok hl ha lo h [] (.v (.pointer none)) [] hlo rfl (by simpa using ho)
  have c24a:=c24 lo hlo;have c24b:=c24 h.length (Ab _);have c21:=λlo hlo=>f12 (lo:=lo) (p:=h) (q:=[]) (p0:=pw h.length (.v (.pointer none)) l.isEmpty) (out:=Yj l) hlo (JHx l hok) (by have:=jC l hok;omega)
  have c21a:=c21 lo hlo;have c21b:=c21 h.length (Ab _);clear c24 c21;rw[Ai]at c24a c24b;have e0:ri .u8 []=[]:=rfl;rw[e0]at c24a c24b;simp only[go_sem,b5,Tryz.f5,hlo,c23a,c23b,c24a,c24b,c21a,c21b]<;>rfl
end Go.Lift.M1
end

section
open Go.Proofs
namespace Go.Lift.M1
variable[MX][HasD][HasN]
open Utf Tok Spell
variable{lo:Nat}{h:JC}{out:List Int}
theorem JSu(b:List Int):KL 1 b 0 0 false false=Jl b:=by unfold KL;rw[if_pos (.inl rfl)];unfold Jl;cases b.isEmpty<;>cases KD b<;>rfl
theorem Jbz(b:List Int):ZS 1 b 0 0 false false= .tup [.v (.string (bs (if Jl b=true then JY 1 b 0 0 false false else[]))),.v (.int .i64 (if Jl b=true then 0 else 1))]:=by
 unfold ZS;rw[JSu]
 split<;>rfl
abbrev N10(l:List Rul.Dc)(out:List Int)(k:Int):Jj:=[(4,.v (.string (bs out))),(11,.list .no (l.map Rul.Jv)),(12,.v (.int .i64 l.length)),(13,.v (.int .i64 k))]
theorem JWj{l:List Rul.Dc}{d:Rul.Dc}{k:Nat}(hlo:lo<=h.length)(hl:l.length<=1000000000)(hg:l[k]? =some d)(hok:OkD d)(ho:out.length+JAk d<=1000000000):
  evCode ⟨Aa,E,lo,h.length,h26⟩ JA H3 (N10 l out k,h)=
   if Kb d=true then some (.normal,N10 l (out++Ga d) (k+1:Nat),h)else some (.ret,[(2,.v (.string (bs []))),(3,.v (.int .i64 1))],h++[.cells (Rul.Jv d)]):=by
 have hlt:k<l.length:=(Ad.1 hg).1
 have hgr:(l.map Rul.Jv)[k]? =some (Rul.Jv d):=by simp[hg]
 have q:decide ((k:Int)<(l.length:Int))=true:=by simp;omega
 have hw:=JH (i:=k) om;have hlo':lo<=h.length+1:=om;have c22:=λlo hlo=>f48 (lo:=lo) (h:=h++[.cells (Rul.Jv d)]) (k:=1) (b:=d.name) (n:=0) (d:=0) (w:=false) (i:=false) hlo hok.hy hok.hl om om om om
 rw[Jbz]at c22;unfold JM at c22;have c22a:=c22 lo (by simp;omega);have c22b:=c22 h.length (by simp);have c22c:=c22 (h.length+1) (by simp)
 have c7:=λlo hlo=>f25 (lo:=lo) (h:=h++[.cells (Rul.Jv d)]) (l:=d.val) hlo hok.hv
 rw[JCs]at c7;have c7a:=c7 lo (by simp;omega);have c7b:=c7 h.length (by simp);have c7c:=c7 (h.length+1) (by simp)
 clear c22 c7;have hid:=yh hok;have hvl:=Yr hok.hv;have ed:Rul.Jv d=[.v (.string (bs d.name)),.list .no (Rul.JL d.val),.v (.bool d.imp)]:=rfl;rw[ed]at hgr c22a c22b c22c c7a c7b c7c⊢;unfold Kb
 cases hn:Jl d.name with
 |false=>
  rw[hn,if_neg (show¬false=true by simp),if_neg (show¬false=true by simp)]at c22a c22b c22c
  rw[Aw,if_neg (show¬false=true by simp)]
  simp only[go_sem,H3,b26,Tryz.f26,hlo,hlo',q,hgr,hw,c22a,c22b,c22c,c7a,c7b,c7c,Ag,Bd]<;>rfl
 |true=>
  rw[hn,if_pos rfl,if_pos rfl]at c22a c22b c22c;rw[AB]
  cases hf:Q7 d.val with
  |false=>
   have hve:GD d.val=1:=by unfold GD;rw[hf]<;>rfl
   rw[hve]at c7a c7b c7c;rw[if_neg (show¬false=true by simp)]
   simp only[go_sem,H3,b26,Tryz.f26,hlo,hlo',q,hgr,hw,c22a,c22b,c22c,c7a,c7b,c7c,Ag,Bd]<;>rfl
  |true=>
   have hvt:GZ d.val=Km d.val:=by unfold GZ;rw[if_pos hf]
   have hve:GD d.val=0:=by unfold GD;rw[if_pos hf]
   rw[hvt,hve]at c7a c7b c7c;rw[if_pos rfl];unfold Ga;unfold JAk at ho;generalize JY 1 d.name 0 0 false false=T at*;generalize Km d.val=W at*;have z1:T.length+1<=9223372036854775807:=om;have z2:T.length+1+W.length<=9223372036854775807:=om;have z3:out.length+(T.length+1+W.length)<=9223372036854775807:=om;have z4:out.length+(T.length+1+W.length)+11<=9223372036854775807:=om
   have z5:out.length+(T.length+1+W.length)+11+1<=9223372036854775807:=om;have z6:out.length+(T.length+1+W.length)+1<=9223372036854775807:=om;have il:impT.length=11:=rfl;have y1:out.length+(T.length+(W.length+1))<=9223372036854775807:=om;have y2:out.length+(T.length+(W.length+1))+11<=9223372036854775807:=om;have y3:out.length+(T.length+(W.length+11+1))+1<=9223372036854775807:=om
   have y4:out.length+(T.length+(W.length+1))+1<=9223372036854775807:=om
   cases hi:d.imp with
   |true=>
    rw[hi]at hgr c22a c22b c22c c7a c7b c7c;have e:out++(T++([58]++(W++((if true=true then impT else[])++[59]))))=out++(T++[58]++W)++impT++[59]:=by rw[if_pos rfl];simp only[Ao]
    rw[e]
    simp only[go_sem,H3,b26,Tryz.f26,hlo,hlo',q,hgr,hw,c22a,c22b,c22c,c7a,c7b,c7c,Ag,Bd,JNy,JNz,JHt,Jb,bs_size,Ah,Ae,An,AE,il,z1,z2,z3,z4,z5,y1,y2,y3]<;>rfl
   |false=>
    rw[hi]at hgr c22a c22b c22c c7a c7b c7c;have e:out++(T++([58]++(W++((if false=true then impT else[])++[59]))))=out++(T++[58]++W)++[59]:=by rw[if_neg (by simp)];simp only[Ao,Ai]
    rw[e];simp only[go_sem,H3,b26,Tryz.f26,hlo,hlo',q,hgr,hw,c22a,c22b,c22c,c7a,c7b,c7c,Ag,Bd,JNy,JNz,JHt,Jb,bs_size,Ah,Ae,An,AE,z1,z2,z3,z6,y1,y4]<;>rfl
theorem Jb0{l:List Rul.Dc}(hlo:lo<=h.length):evCode ⟨Aa,E,lo,h.length,h26⟩ JA H3 (N10 l out l.length,h)=
   some (.exit 0,N10 l out l.length++[(14,.v (.bool false))],h):=by
 have q:decide ((l.length:Int)<(l.length:Int))=false:=by simp
 simp only[go_sem,H3,b26,Tryz.f26,hlo,q]<;>rfl
theorem Jb1{l:List Rul.Dc}(hlo:lo<=h.length)(hl:l.length<=1000000000)(hok:∀t∈l,OkD t):∀(m k:Nat) (out:List Int),k+m=l.length->out.length+Q2 (l.drop k)<=1000000000->
  if(l.drop k).all Kb=true then
   JA (evCode ⟨Aa,E,lo,h.length,h26⟩ JA H3) (N10 l out k,h)=some (.exit 0,N10 l (out++K8 (l.drop k)) l.length++[(14,.v (.bool false))],h)
  else∃X,JA (evCode ⟨Aa,E,lo,h.length,h26⟩ JA H3) (N10 l out k,h)=some (.ret,[(2,.v (.string (bs []))),(3,.v (.int .i64 1))],h++X):=by
 intro m
 induction m with
 |zero=>
  intro k out hk _;obtain rfl:k=l.length:=om;rw[Be,if_pos (show([]:List Rul.Dc).all Kb=true from rfl),loop_eq,Jb0 hlo,Kv]
  simp only[K8,Av]
 |succ m ih=>
  intro k out hk ho;have hlt:k<l.length:=om;have hg:l[k]? =some l[k]:=Ac hlt
  have hd:l.drop k=l[k]::l.drop (k+1):=AD hlt;have hok1:=hok l[k] (Ba hlt);rw[hd]at ho⊢;generalize l[k]=t at*;simp only[Q2]at ho;have hlen:=zw hok1;have hr:=JWj (out:=out) hlo hl hg hok1 om
  cases hm:Kb t with
  |false=>
   rw[hm,if_neg (by simp)]at hr
   rw[Bg,hm,Aw,if_neg (by simp)]
   exact⟨_,by rw[loop_eq,hr,QY]⟩
  |true=>rw[hm,if_pos rfl]at hr;rw[Bg,hm,AB,loop_eq,hr,JK,K8,<-Ao];exact ih (k+1) (out++Ga t) om (by simp only[Ah];omega)
theorem f26{l:List Rul.Dc}(hlo:lo<=h.length)(hl:l.length<=1000000000)(hok:∀d∈l,OkD d)(ho:Q2 l<=1000000000):
  E lo 26 [.list .no (l.map Rul.Jv)] h=some (qG l,h):=by
 have hL:=Jb1 (lo:=lo) (h:=h) (l:=l) hlo hl hok l.length 0 [] om (by rw[Az];simpa using ho)
 rw[Az]at hL;have n0:((0:Nat):Int)=0:=rfl;have e0:bs []=(⟨#[]⟩:ByteArray):=rfl;unfold qG;rw[e26]
 cases ha:l.all Kb with
 |false=>
  rw[ha,if_neg (by simp)]at hL
  obtain⟨X,hL⟩:=hL;rw[if_neg (by simp)]
  unfold ZR;simp only[H3,b26,Tryz.f26,JD,JT,JB,go_sem,N10,n0,e0]at hL
  simp only[go_sem,b26,Tryz.f26,hlo,hL,Ag,n0]<;>rfl
 |true=>rw[ha,if_pos rfl]at hL;rw[if_pos rfl];unfold Yh;simp only[H3,b26,Tryz.f26,JD,JT,JB,go_sem,N10,n0,e0,Al,Ai]at hL;simp only[go_sem,b26,Tryz.f26,hlo,hL,Ag,n0]<;>rfl
theorem JN3{α:Type}(l:List α):decide ((0:Int)<((l.length:Nat):Int))= !l.isEmpty:=by
 cases l with
 |nil=>rfl
 |cons a l=>simp
abbrev NRf(l:List Rul.Ru)(dep:Nat)(out:List Int)(k:Int):Jj:=[(1,.v (.int .i64 dep)),(6,.v (.string (bs out))),(12,.list .no (Rul.Kq l)),(13,.v (.int .i64 l.length)),(14,.v (.int .i64 k))]
theorem JWk{l:List Rul.Ru}{kd:Int}{n:List Int}{p:List Rul.CV}{ds:List Rul.Dc}{rs:List Rul.Ru}{k dep:Nat}(hlo:lo<=h.length)(hl:l.length<=1000000000)(hg:l[k]? =some (.mk kd n p ds rs))(hok:OkR (.mk kd n p ds rs))(ho:out.length+HR (.mk kd n p ds rs)<=1000000000)
  (ih:dep<=64->∀lo h,lo<=h.length->E lo 13 [.list .no (Rul.Kq rs),.v (.int .i64 ((dep+1:Nat):Int))] h=some (if K4 (dep+1) rs=true then Yh (Yj rs)else ZR,h)):
  evCode ⟨Aa,E,lo,h.length,h13⟩ JA QW (NRf l dep out k,h)=if JAl dep (.mk kd n p ds rs)=true then some (.normal,NRf l dep (out++ruT (.mk kd n p ds rs)) (k+1:Nat),h)else some (.ret,[(4,.v (.string (bs []))),(5,.v (.int .i64 1))],h++[.cells (Rul.HU (.mk kd n p ds rs))]):=by
 have hlt:k<l.length:=(Ad.1 hg).1
 have hgr:(Rul.Kq l)[k]? =some (Rul.HU (.mk kd n p ds rs)):=by rw[Rul.rusC_map,Ax,hg]<;>rfl
 have q:decide ((k:Int)<(l.length:Int))=true:=by simp;omega
 have hw:=JH (i:=k) om;have hlo':lo<=h.length+1:=om;rw[G4]at hok;obtain⟨hy,hnl,hp,hdl,hds,hrl,hrs⟩:=hok;rw[jB]at ho;have hvl:=Yr hp;have hdc:=ZU hds;have hrc:=jC rs hrs;have c7:=λlo hlo=>f25 (lo:=lo) (h:=h++[.cells (Rul.HU (.mk kd n p ds rs))]) (l:=p) hlo hp
 rw[JCs]at c7;have c7a:=c7 lo (by simp;omega);have c7b:=c7 h.length (by simp);have c7c:=c7 (h.length+1) (by simp)
 have c10:=λlo hlo=>f26 (lo:=lo) (h:=h++[.cells (Rul.HU (.mk kd n p ds rs))]) (l:=ds) hlo hdl hds om
 unfold qG Yh ZR at c10;have c10a:=c10 lo (by simp;omega);have c10b:=c10 h.length (by simp);have c10c:=c10 (h.length+1) (by simp)
 clear c7 c10;have c25:=λhd lo hlo=>ih hd lo (h++[.cells (Rul.HU (.mk kd n p ds rs))]) hlo
 unfold Yh ZR at c25;have ed:Rul.HU (.mk kd n p ds rs)=[.v (.int .i64 kd),.v (.string (bs n)),.list .no (Rul.JL p),.list .no (ds.map Rul.Jv),.list .no (Rul.Kq rs)]:=by rw[Rul.HU]<;>rfl
 have t1:=(Ky n).trans JGi;have r0:=JN3 rs;have d0:=JN3 ds;have b1:=W1 hy JGh;have b2:=W1 hy JN1;have b3:=W1 hy JN2;rw[ed]at hgr c7a c7b c7c c10a c10b c10c⊢;simp only[ed]at c25;rw[JCt];by_cases hd:dep<=64
 ·have ih:=ih hd
  have q64:decide ((64:Int)<(dep:Int))=false:=by simp;omega
  rw[decide_eq_true hd,AB]
  cases hf:Q7 p with
  |false=>
   rw[Aw,if_neg (by simp)]
   have hve:GD p=1:=by unfold GD;rw[hf]<;>rfl
   rw[hve]at c7a c7b c7c
   simp only[go_sem,QW,zX,Tryz.f13,hlo,hlo',q,hgr,hw,q64,c7a,c7b,c7c,Ag,Rul.JW,Bd]<;>rfl
  |true=>
   rw[AB];have hvt:GZ p=Km p:=by unfold GZ;rw[if_pos hf]
   have hve:GD p=0:=by unfold GD;rw[if_pos hf]
   rw[hvt,hve]at c7a c7b c7c;by_cases h1:kd=1
   ·have kq:(kd==1)=true:=by simpa using h1
    rw[if_pos h1]
    cases hn:n.isEmpty with
    |false=>
     rw[hn]at t1;rw[Aw,if_neg (by simp)]
     simp only[go_sem,QW,zX,Tryz.f13,hlo,hlo',q,hgr,hw,q64,c7a,c7b,c7c,Ag,Rul.JW,Bd,kq,t1]<;>rfl
    |true=>
     rw[hn]at t1;rw[AB]
     cases hr:rs.isEmpty with
     |false=>
      rw[hr]at r0;rw[Aw,if_neg (by simp)]
      simp only[go_sem,QW,zX,Tryz.f13,hlo,hlo',q,hgr,hw,q64,c7a,c7b,c7c,Ag,Rul.JW,Bd,kq,t1,r0]<;>rfl
     |true=>
      rw[hr]at r0;rw[AB]
      cases ha:ds.all Kb with
      |false=>
       rw[ha,if_neg (by simp)]at c10a c10b c10c
       rw[if_neg (by simp)]
       simp only[go_sem,QW,zX,Tryz.f13,hlo,hlo',q,hgr,hw,q64,c7a,c7b,c7c,Ag,Rul.JW,Bd,kq,t1,r0,c10a,c10b,c10c]<;>rfl
      |true=>
       rw[ha,if_pos rfl]at c10a c10b c10c;rw[if_pos (by simp)]
       have hs2:out++ruT (.mk kd n p ds rs)=out++(Km p++[123]++K8 ds++[125]):=by rw[zy,if_pos h1];simp only[Ao]
       rw[hs2];generalize Km p=W at*;generalize K8 ds=D at*;have z0:W.length+1<=9223372036854775807:=om;have z1:W.length+1+D.length<=9223372036854775807:=om;have z2:W.length+(D.length+1)+1<=9223372036854775807:=om;have z3:out.length+(W.length+(D.length+1+1))<=9223372036854775807:=om;simp only[go_sem,QW,zX,Tryz.f13,hlo,hlo',q,hgr,hw,q64,c7a,c7b,c7c,Ag,Rul.JW,Bd,kq,t1,r0,c10a,c10b,c10c,JAn,jD,G6,G7,Jb,bs_size,Ah,Ae,An,AE,z0,z1,z2,z3]<;>rfl
   ·have k1:(kd==1)=false:=by simpa using h1
    rw[if_neg h1];by_cases h2:kd=2
    ·have kq:(kd==2)=true:=by simpa using h2
     rw[if_pos h2,JAm];have hwd:=JH (i:=dep) om;have c25a:=c25 hd lo (by simp;omega);have c25b:=c25 hd h.length (by simp);have c25c:=c25 hd (h.length+1) (by simp)
     have hg2:out++ruT (.mk kd n p ds rs)=out++([64]++n++[32]++Km p++[123]++Yj rs++[125]):=by rw[zy,if_neg h1];simp only[Ao]
     rw[hg2];generalize Km p=W at*;generalize Yj rs=D at*;have y0:1+n.length<=9223372036854775807:=om;have y1:n.length+1+1<=9223372036854775807:=om;have y2:n.length+1+1+W.length<=9223372036854775807:=om;have y3:n.length+(W.length+1)+1+1<=9223372036854775807:=om;have y4:n.length+(W.length+1+1)+1+D.length<=9223372036854775807:=om
     have y5:n.length+(W.length+(D.length+1)+1)+1+1<=9223372036854775807:=om;have y6:out.length+(n.length+(W.length+(D.length+1+1)+1)+1)<=9223372036854775807:=om
     cases g1:n==mediaT with
     |true=>
      rw[g1]at b1;rw[B1,B1,AB]
      cases he:ds.isEmpty with
      |false=>
       rw[he]at d0;rw[Aw,if_neg (by simp)]
       simp only[go_sem,QW,zX,Tryz.f13,hlo,hlo',q,hgr,hw,q64,c7a,c7b,c7c,Ag,Rul.JW,Bd,kq,k1,KG,Kf,Kg,d0,b1]<;>rfl
      |true=>
       rw[he]at d0;rw[AB]
       cases hm:K4 (dep+1) rs with
       |false=>
        rw[hm,if_neg (by simp)]at c25a c25b c25c
        rw[if_neg (by simp)]
        simp only[go_sem,QW,zX,Tryz.f13,hlo,hlo',q,hgr,hw,q64,c7a,c7b,c7c,Ag,Rul.JW,Bd,kq,k1,KG,Kf,Kg,d0,b1,hwd,c25a,c25b,c25c,JAn,jD,G6,G7,Jb,bs_size,Ah,Ae,An,AE,y0,y1,y2]<;>rfl
       |true=>
        rw[hm,if_pos rfl]at c25a c25b c25c;rw[if_pos (by simp)]
        simp only[go_sem,QW,zX,Tryz.f13,hlo,hlo',q,hgr,hw,q64,c7a,c7b,c7c,Ag,Rul.JW,Bd,kq,k1,KG,Kf,Kg,d0,b1,hwd,c25a,c25b,c25c,JAn,jD,G6,G7,Jb,bs_size,Ah,Ae,An,AE,y0,y1,y2,y3,y4,y5,y6]<;>rfl
     |false=>
      rw[g1]at b1
      cases g2:n==suppT with
      |true=>
       rw[g2]at b2;rw[Bb,B1,AB]
       cases he:ds.isEmpty with
       |false=>
        rw[he]at d0;rw[Aw,if_neg (by simp)]
        simp only[go_sem,QW,zX,Tryz.f13,hlo,hlo',q,hgr,hw,q64,c7a,c7b,c7c,Ag,Rul.JW,Bd,kq,k1,KG,Kf,Kg,d0,b1,b2]<;>rfl
       |true=>
        rw[he]at d0;rw[AB]
        cases hm:K4 (dep+1) rs with
        |false=>
         rw[hm,if_neg (by simp)]at c25a c25b c25c
         rw[if_neg (by simp)]
         simp only[go_sem,QW,zX,Tryz.f13,hlo,hlo',q,hgr,hw,q64,c7a,c7b,c7c,Ag,Rul.JW,Bd,kq,k1,KG,Kf,Kg,d0,b1,b2,hwd,c25a,c25b,c25c,JAn,jD,G6,G7,Jb,bs_size,Ah,Ae,An,AE,y0,y1,y2]<;>rfl
        |true=>
         rw[hm,if_pos rfl]at c25a c25b c25c;rw[if_pos (by simp)]
         simp only[go_sem,QW,zX,Tryz.f13,hlo,hlo',q,hgr,hw,q64,c7a,c7b,c7c,Ag,Rul.JW,Bd,kq,k1,KG,Kf,Kg,d0,b1,b2,hwd,c25a,c25b,c25c,JAn,jD,G6,G7,Jb,bs_size,Ah,Ae,An,AE,y0,y1,y2,y3,y4,y5,y6]<;>rfl
      |false=>
       rw[g2]at b2
       cases g3:n==contT with
       |true=>
        rw[g3]at b3;rw[Bb,Bb,AB]
        cases he:ds.isEmpty with
        |false=>
         rw[he]at d0;rw[Aw,if_neg (by simp)]
         simp only[go_sem,QW,zX,Tryz.f13,hlo,hlo',q,hgr,hw,q64,c7a,c7b,c7c,Ag,Rul.JW,Bd,kq,k1,KG,Kf,Kg,d0,b1,b2,b3]<;>rfl
        |true=>
         rw[he]at d0;rw[AB]
         cases hm:K4 (dep+1) rs with
         |false=>
          rw[hm,if_neg (by simp)]at c25a c25b c25c
          rw[if_neg (by simp)]
          simp only[go_sem,QW,zX,Tryz.f13,hlo,hlo',q,hgr,hw,q64,c7a,c7b,c7c,Ag,Rul.JW,Bd,kq,k1,KG,Kf,Kg,d0,b1,b2,b3,hwd,c25a,c25b,c25c,JAn,jD,G6,G7,Jb,bs_size,Ah,Ae,An,AE,y0,y1,y2]<;>rfl
         |true=>
          rw[hm,if_pos rfl]at c25a c25b c25c;rw[if_pos (by simp)]
          simp only[go_sem,QW,zX,Tryz.f13,hlo,hlo',q,hgr,hw,q64,c7a,c7b,c7c,Ag,Rul.JW,Bd,kq,k1,KG,Kf,Kg,d0,b1,b2,b3,hwd,c25a,c25b,c25c,JAn,jD,G6,G7,Jb,bs_size,Ah,Ae,An,AE,y0,y1,y2,y3,y4,y5,y6]<;>rfl
       |false=>
        rw[g3]at b3;rw[Bb,Bb,Aw,if_neg (by simp)]
        simp only[go_sem,QW,zX,Tryz.f13,hlo,hlo',q,hgr,hw,q64,c7a,c7b,c7c,Ag,Rul.JW,Bd,kq,k1,KG,Kf,Kg,b1,b2,b3]<;>rfl
    ·have k2:(kd==2)=false:=by simpa using h2
     rw[if_neg h2,if_neg (by simp)]
     simp only[go_sem,QW,zX,Tryz.f13,hlo,hlo',q,hgr,hw,q64,c7a,c7b,c7c,Ag,Rul.JW,Bd,k1,k2]<;>rfl
 ·have q64:decide ((64:Int)<(dep:Int))=true:=by simp;omega
  rw[decide_eq_false hd,Aw,if_neg (by simp)]
  clear c25
  cases hf:Q7 p with
  |false=>
   have hve:GD p=1:=by unfold GD;rw[hf]<;>rfl
   rw[hve]at c7a c7b c7c
   simp only[go_sem,QW,zX,Tryz.f13,hlo,hlo',q,hgr,hw,q64,c7a,c7b,c7c,Ag,Rul.JW,Bd]<;>rfl
  |true=>
   have hvt:GZ p=Km p:=by unfold GZ;rw[if_pos hf]
   have hve:GD p=0:=by unfold GD;rw[if_pos hf]
   rw[hvt,hve]at c7a c7b c7c;simp only[go_sem,QW,zX,Tryz.f13,hlo,hlo',q,hgr,hw,q64,c7a,c7b,c7c,Ag,Rul.JW,Bd]<;>rfl
theorem Jb2{l:List Rul.Ru}{dep:Nat}(hlo:lo<=h.length):evCode ⟨Aa,E,lo,h.length,h13⟩ JA QW (NRf l dep out l.length,h)=
   some (.exit 0,NRf l dep out l.length++[(15,.v (.bool false))],h):=by
 have q:decide ((l.length:Int)<(l.length:Int))=false:=by simp
 simp only[go_sem,QW,zX,Tryz.f13,hlo,q]<;>rfl
theorem JSv{l:List Rul.Ru}{dep:Nat}(hlo:lo<=h.length)(hl:l.length<=1000000000)(hok:ZV l)
  (ih:dep<=64->∀r∈l,∀lo h,lo<=h.length->E lo 13 [.list .no (Rul.Kq (Yg r)),.v (.int .i64 ((dep+1:Nat):Int))] h=some (if K4 (dep+1) (Yg r)=true then Yh (Yj (Yg r))else ZR,h)):∀(m k:Nat) (out:List Int),k+m=l.length->out.length+J7 (l.drop k)<=1000000000->
  if K4 dep (l.drop k)=true then
   JA (evCode ⟨Aa,E,lo,h.length,h13⟩ JA QW) (NRf l dep out k,h)=some (.exit 0,NRf l dep (out++Yj (l.drop k)) l.length++[(15,.v (.bool false))],h)
  else∃X,JA (evCode ⟨Aa,E,lo,h.length,h13⟩ JA QW) (NRf l dep out k,h)=some (.ret,[(4,.v (.string (bs []))),(5,.v (.int .i64 1))],h++X):=by
 intro m
 induction m with
 |zero=>
  intro k out hk _;obtain rfl:k=l.length:=om
  rw[Be,if_pos Ys,loop_eq,Jb2 hlo,Kv,Gb,Av]
 |succ m ihm=>
  intro k out hk ho;have hlt:k<l.length:=om;have hg:l[k]? =some l[k]:=Ac hlt
  have hd:l.drop k=l[k]::l.drop (k+1):=AD hlt;have hmem:=Ba hlt;have hok1:=ZW hok hmem;have ih1:=λhd=>ih hd l[k] hmem
  rw[hd]at ho⊢;generalize l[k]=t at*;rw[Qt]at ho;have hlen:=JHw t hok1;rw[qH,je];obtain⟨kd,n,p,ds,rs⟩:=t;have hr:=JWk (dep:=dep) (out:=out) hlo hl hg hok1 om ih1
  cases hm:JAl dep (.mk kd n p ds rs)with
  |false=>
   rw[hm,if_neg (by simp)]at hr
   rw[Aw,if_neg (by simp)]
   exact⟨_,by rw[loop_eq,hr,QY]⟩
  |true=>rw[hm,if_pos rfl]at hr;rw[AB,loop_eq,hr,JK,<-Ao];exact ihm (k+1) (out++ruT (.mk kd n p ds rs)) om (by simp only[Ah];omega)
theorem f13:∀(N:Nat) (l:List Rul.Ru) (dep lo:Nat) (h:JC),J7 l<=N->J7 l<=1000000000->ZV l->l.length<=1000000000->dep<=65->lo<=h.length->
  E lo 13 [.list .no (Rul.Kq l),.v (.int .i64 (dep:Nat))] h=some (if K4 dep l=true then Yh (Yj l)else ZR,h):=by
 intro N
 induction N with
 |zero=>
  intro l dep lo h hc hc2 hok hl hdep hlo
  cases l with
  |nil=>
   have hL:=JSv (lo:=lo) (h:=h) (l:=[]) (dep:=dep) hlo hl hok (λ_ r hr=>by cases hr) 0 0 [] rfl (by rw[Az,JMt];simp)
   rw[Az,if_pos Ys,Gb,Av]at hL;have n0:((0:Nat):Int)=0:=rfl;have e0:bs []=(⟨#[]⟩:ByteArray):=rfl;rw[Ys,if_pos rfl,Gb,e13];unfold Yh;simp only[QW,zX,Tryz.f13,JD,JT,JB,go_sem,NRf,n0,e0,Al,Ai,An]at hL
   simp only[go_sem,zX,Tryz.f13,hlo,hL,Rul.JW,n0,An]<;>rfl
  |cons r l=>
   rw[Qt]at hc;have:=Yt (r:=r)
   omega
 |succ N ihN=>
  intro l dep lo h hc hc2 hok hl hdep hlo
  have hL:=JSv (lo:=lo) (h:=h) (l:=l) (dep:=dep) hlo hl hok (λhd r hr lo h hlo=>by
   have k1:=G5 hr;have k2:=Yt (r:=r);have k3:=JHy (ZW hok hr)
   exact ihN (Yg r) (dep+1) lo h om om k3.1 k3.2 om hlo) l.length 0 [] om (by rw[Az];simpa using hc2)
  rw[Az,Ai]at hL;have n0:((0:Nat):Int)=0:=rfl;have e0:bs []=(⟨#[]⟩:ByteArray):=rfl;rw[e13]
  cases hm:K4 dep l with
  |false=>
   rw[hm,if_neg (by simp)]at hL
   obtain⟨X,hL⟩:=hL;rw[if_neg (by simp)]
   unfold ZR;simp only[QW,zX,Tryz.f13,JD,JT,JB,go_sem,NRf,n0,e0]at hL
   simp only[go_sem,zX,Tryz.f13,hlo,hL,Rul.JW,n0]<;>rfl
  |true=>rw[hm,if_pos rfl]at hL;rw[if_pos rfl];unfold Yh;simp only[QW,zX,Tryz.f13,JD,JT,JB,go_sem,NRf,n0,e0,Al,Ai]at hL;simp only[go_sem,zX,Tryz.f13,hlo,hL,Rul.JW,n0]<;>rfl
theorem f6{l:List Rul.Ru}(hlo:lo<=h.length)(hl:l.length<=1000000000)(hok:ZV l)(ho:J7 l<=1000000000):
  E lo 6 [.list .no (Rul.Kq l)] h=some (jG l,h):=by
 have c25:=λlo hlo=>f13 (J7 l) l 1 lo h (Ab _) ho hok hl om hlo
 have n1:((1:Nat):Int)=1:=rfl;rw[n1]at c25;have er:(if K4 1 l=true then Yh (Yj l)else ZR)=jG l:=rfl
 have ef:∃s e,jG l= .tup [.v (.string (bs s)),.v (.int .i64 e)]:=by
  unfold jG
  split
  ·exact⟨_,_,rfl⟩
  ·exact⟨_,_,rfl⟩
 rw[er]at c25;obtain⟨s,e,he⟩:=ef;rw[he]at c25⊢;have c25a:=c25 lo hlo;have c25b:=c25 h.length (Ab _);clear c25;rw[e6];simp only[go_sem,b6,Tryz.f6,hlo,c25a,c25b]<;>rfl
end Go.Lift.M1
end

section
open Go.Proofs
namespace Go.Lift.M1
variable[MX][HasD][HasN]
open Utf Tok Spell
variable{lo:Nat}{h:JC}
def HS:Rul.Tk4:=⟨1,[98],0,0,false,false⟩
def HT:List Rul.CV:=[.mk HS []]
def ZX:Rul.Dc:=⟨[97],HT,true⟩
theorem Gc:Rul.Je HT=[HS]:=by unfold HT;rw[Rul.Je,Rul.Je,Rul.GT,Rul.Je]<;>rfl
theorem JN4{c:Int}(hc:97<=c/\c<=98):JY 1 [c] 0 0 false false=[c]:=by obtain⟨r1,s1⟩:=JGg (c:=c) om;have e:JY 1 [c] 0 0 false false=Ja (WJ [c]):=rfl;rw[e,r1];have:c=97\/c=98:=om;rcases this with rfl|rfl<;>decide
theorem JKl{c:Int}(hc:97<=c/\c<=98):Jl [c]=true:=by obtain⟨r1,s1⟩:=JGg (c:=c) om;unfold Jl;rw[s1]<;>rfl
theorem JSw:zl HS=true:=(JSu [98]).trans (JKl om)
theorem JPp:Q7 HT=true:=by
 unfold Q7;rw[Gc,Bg,JSw]
 have:Rul.Q5 64 HT=true:=by unfold HT;rw[Rul.Q5,Rul.Q5,Rul.KL]<;>rfl
 rw[this]<;>rfl
theorem JPq:Km HT=[98]:=by unfold Km;rw[Gc];have e:KZ none ([HS].map ofR)=JY 1 [98] 0 0 false false++[]:=rfl;rw[e,JN4 om]<;>rfl
theorem JKm:Kb ZX=true:=by unfold Kb;have e1:Jl ZX.name=true:=JKl (c:=97) om;have e2:Q7 ZX.val=true:=JPp;rw[e1,e2]<;>rfl
theorem JWl:Ga ZX=[97,58,98,32,33,105,109,112,111,114,116,97,110,116,59]:=by unfold Ga;have e1:JY 1 ZX.name 0 0 false false=[97]:=JN4 (c:=97) om;have e2:Km ZX.val=[98]:=JPq;rw[e1,e2]<;>rfl
theorem JSx:OkT HS:=⟨Jh om om J9,by simp[HS],by simp[HS],by simp[HS],by simp[HS],by simp[HS]⟩
theorem JSy:OkL HT:=by
 refine⟨?_,?_,?_⟩
 ·unfold HT
  rw[Rul.J5,Rul.WM,Rul.GU];show 1+Rul.JO []+0<=_
  rw[Rul.WM];omega
 ·rw[Gc]
  intro t ht;obtain rfl:t=HS:=by simpa using ht
  exact JSx
 ·rw[Gc]
  simp[Zf,ofR,HS]
theorem JSz:∀d∈[ZX],OkD d:=by
 intro d hd;obtain rfl:d=ZX:=by simpa using hd
 exact⟨Jh om om J9,by simp[ZX],JSy⟩
theorem JMu:Q2 [ZX]<=1000000000:=by
 have e:Zf ((Rul.Je ZX.val).map ofR)=314:=by
  show Zf ((Rul.Je HT).map ofR)=314
  rw[Gc]<;>rfl
 unfold Q2 JAk;rw[e];simp[Q2,ZX]
theorem JWm:qG [ZX]=Yh [97,58,98,32,33,105,109,112,111,114,116,97,110,116,59]:=by unfold qG;rw[Bg,JKm,Dm,Bool.and_true,if_pos rfl,K8,K8,JWl]<;>rfl
theorem JWn:([ZX].map Rul.Jv)=[[.v (.string ⟨#[97]⟩),.list .no [[.v (.int .i64 1),.v (.string ⟨#[98]⟩),.v (.int .i64 0),.v (.int .i64 0),.v (.bool false),.v (.bool false),.list .no []]],.v (.bool true)]]:=by
 have e:Rul.JL HT=[[.v (.int .i64 1),.v (.string ⟨#[98]⟩),.v (.int .i64 0),.v (.int .i64 0),.v (.bool false),.v (.bool false),.list .no []]]:=by unfold HT;rw[Rul.QL,Rul.Jt,Rul.Jr,Rul.Jt]<;>rfl
 rw[<-e]<;>rfl
theorem f7(hlo:lo<=h.length):E lo 7 [] h=some (.v (.bool true),h):=by
 have k:=λlo hlo=>f14 (lo:=lo) (h:=h) (l:=[ZX]) hlo (by simp) JSz JMu
 rw[JWm,JWn]at k;have k:∀lo,lo<=h.length->E lo 14 [.list .no [[.v (.string ⟨#[97]⟩),.list .no [[.v (.int .i64 1),.v (.string ⟨#[98]⟩),.v (.int .i64 0),.v (.int .i64 0),.v (.bool false),.v (.bool false),.list .no []]],.v (.bool true)]]] h=some (.tup [.v (.string ⟨#[97,58,98,32,33,105,109,112,111,114,116,97,110,116,59]⟩),.v (.int .i64 0)],h):=k;have ka:=k lo hlo;have kb:=k h.length (Ab _)
 have q:=JMj ⟨#[97,58,98,32,33,105,109,112,111,114,116,97,110,116,59]⟩;rw[e7];simp only[go_sem,b7,Tryz.f7,ka,kb,q,Ap]<;>rfl
theorem JKn(l:List Rul.Ru):∃s e,jG l= .tup [.v (.string (bs s)),.v (.int .i64 e)]:=by
 unfold jG
 split
 ·exact⟨_,_,rfl⟩
 ·exact⟨_,_,rfl⟩
end Go.Lift.M1
end

section
open Go.Proofs
namespace Go.Lift.M1
open Rul
variable[MX]
variable{lo:Nat}{h:JC}
theorem f51(hlo:lo<=h.length)(v:CV):E lo 51 [.agg (Qa v)] h=some (.v (.bool (J3 v)),h):=by obtain⟨t,ks⟩:=v;rw[Jr,e51];simp only[go_sem,b51,Tryz.f51,hlo]<;>rfl
end Go.Lift.M1
end

section
namespace Go.Lift.Rul
def qJ:Wh->List CV->List CV
 |[],b=>b
 |(_,ks)::_,_=>ks
def Wi:Wh->List CV->List V
 |[],b=>row (bare 0)++[.list .yes (JL b)]
 |(o,ks)::r,b=>Wi r b++(row o++[.list .yes (JL ks)])
theorem W9:∀(s:Wh) (b:List CV),(Wi s b).length=(s.length+1)*7
 |[],_=>rfl
 |(_,_)::r,b=>by simp[Wi,W9 r b,row];omega
theorem JKo(p:V->Bool)(h:∀z,(∀q,z≠Lf q)->p (.v z)=true)(t:Tk4):(row t).all p=true:=by
 simp only[row,Bg,Dm];rw[h _ (by simp),h _ (by simp),h _ (by simp),h _ (by simp),h _ (by simp),h _ (by simp)]
 rfl
theorem JBB(p:V->Bool)(h:∀z,(∀q,z≠Lf q)->p (.v z)=true)(h2:∀l,p (.list .yes (JL l))=true):∀(s:Wh) (b:List CV),(Wi s b).all p=true
 |[],b=>by rw[Wi,Df,JKo p h];simp[h2]
 |(o,ks)::r,b=>by rw[Wi,Df,Df,JBB p h h2 r b,JKo p h];simp[h2]
theorem Jb3{z:Value}(h:∀q,z≠Lf q):QK (.v z)=false:=by
 cases z with
 |pointer q=>exact absurd rfl (h q)
 |_=>rfl
theorem Jh9(i:Nat)(z:Value)(h:∀q,z≠Lf q):JDR i (.v z)=true:=by unfold JDR;rw[Jb3 h]<;>rfl
theorem JiA(i:Nat)(l:List CV):JDR i (.list .yes (JL l))=true:=rfl
theorem JWo(i:Nat)(s:Wh)(b:List CV):(Wi s b).all (JDR i)=true:=JBB _ (Jh9 i) (JiA i) s b
theorem JS0(s:Wh)(b:List CV)(j:List V):(Wi s b++j).take ((s.length+1)*7)=Wi s b:=by rw[<-W9 s b,List.take_left]
theorem JN5:∀(s:Wh) (b:List CV) (j:List V),(Wi s b++j)[s.length*7+6]? =some (.list .yes (JL (qJ s b)))
 |[],_,_=>rfl
 |(o,ks)::r,b,j=>by
  have hl:=W9 r b;rw[Wi,Ao,AZ (by simp only[Ae];omega),Ae,hl,BE]
  rfl
theorem JGj(p:Tk4×List CV)(r:Wh)(b:List CV)(j:List V):(Wi (p::r) b++j)[r.length*7+6]? =some (.list .yes (JL (qJ r b))):=by obtain⟨o,ks⟩:=p;rw[Wi,Ao];exact JN5 r b _
theorem JN6:∀(s:Wh) (b:List CV) (j:List V) (v:CV),(Wi s b++j).set (s.length*7+6) (.list .yes (JL (qJ s b++[v])))=Wi (Kp v s b).1 (Kp v s b).2++j
 |[],_,_,_=>rfl
 |(o,ks)::r,b,j,v=>by have hl:=W9 r b;simp only[Wi,Kp,qJ,Ae,Ao];rw[List.set_append,if_neg om,hl,BE]<;>rfl
theorem JKp(o:Tk4)(ks:List CV)(r:Wh)(b:List CV)(j:List V):(Wi ((o,ks)::r) b++j).set (r.length*7+6) (.list .yes (JL (qJ r b++[.mk o ks])))=Wi (Qc ((o,ks)::r) b).1 (Qc ((o,ks)::r) b).2++(row o++[.list .yes (JL ks)]++j):=by rw[Wi,Ao,JN6 r b _ (.mk o ks)]<;>rfl
theorem JGk(o:Tk4)(ks:List CV)(r:Wh)(b:List CV)(j:List V):((Wi ((o,ks)::r) b++j).drop ((r.length+1)*7)).take 7=row o++[.list .yes (JL ks)]:=by rw[Wi,Ao,<-W9 r b,List.drop_left]<;>rfl
theorem JKq(o:Tk4)(ks:List CV)(r:Wh)(b:List CV)(j:List V):(Wi ((o,ks)::r) b++j)[(r.length+1)*7]? =some (.v (.int .i64 o.k)):=by
 rw[Wi,Ao,<-W9 r b,AZ (Ab _),Nat.sub_self]<;>rfl
def szS:Wh->Nat
 |[]=>0
 |p::r=>1+p.2.length+szS r
theorem JBC:∀s:Wh,s.length<=szS s
 |[]=>Ab _
 |p::r=>by have:=JBC r;simp only[szS,Ae];omega
theorem JH0:∀(s:Wh) (b:List CV),(qJ s b).length<=szS s+b.length
 |[],b=>by simp[qJ]
 |(o,ks)::r,b=>by simp only[qJ,szS];omega
theorem JN7(v:CV):∀(s:Wh) (b:List CV),szS (Kp v s b).1+(Kp v s b).2.length=szS s+b.length+1
 |[],b=>by simp[Kp,szS]
 |(o,ks)::r,b=>by simp only[Kp,szS,Ah,Ae,An];omega
theorem JKr(o:Tk4)(ks:List CV)(r:Wh)(b:List CV):szS (Qc ((o,ks)::r) b).1+(Qc ((o,ks)::r) b).2.length<=szS ((o,ks)::r)+b.length:=by have:=JN7 (.mk o ks) r b;simp only[Qc,szS]at*;omega
def Opn(s:Wh):Prop:=∀p∈s,JS p.1.k≠0
theorem JN8{v:CV}:∀{s:Wh} {b:List CV},Opn s->Opn (Kp v s b).1
 |[],_,h=>h
 |(o,ks)::r,_,h=>by
  intro p hp;rcases A2.1 hp with rfl|hp
  ·exact h (o,ks) (List.mem_cons_self ..)
  ·exact h _ (Bt _ hp)
theorem JS1{o:Tk4}{ks:List CV}{r:Wh}{b:List CV}(h:Opn ((o,ks)::r)):Opn (Qc ((o,ks)::r) b).1:=
 JN8 λp hp=>h p (Bt _ hp)
theorem JS2{t:Tk4}{s:Wh}{b:List CV}(h:Opn s):Opn (Qz t s b).1:=by
 unfold Qz
 split
 ·cases s with
  |nil=>exact h
  |cons p r=>obtain⟨o,ks⟩:=p;exact JS1 h
 ·split
  ·intro p hp
   rcases A2.1 hp with rfl|hp
   ·assumption
   ·exact h p hp
  ·exact JN8 h
theorem JS3(t:Tk4)(s:Wh)(b:List CV):szS (Qz t s b).1+(Qz t s b).2.length<=szS s+b.length+1:=by
 unfold Qz
 split
 ·cases s with
  |nil=>exact Nat.le_succ _
  |cons p r=>obtain⟨o,ks⟩:=p;have:=JKr o ks r b;omega
 ·split
  ·simp only[szS,An];omega
  ·have:=JN7 (.mk t []) s b;omega
end Go.Lift.Rul
end

section
open Go.Proofs
namespace Go.Lift.M1
open Rul
variable[MX]
variable{lo:Nat}{h:JC}
theorem JS4{n:Nat}(h:n<=1000000000):(n+1)*72<=140737488355328:=om
theorem JS5{n:Nat}(h:n<=1000000000):n<=9223372036854775806:=om
def Jnk(j:List V):Prop:=∀i,j.all (avf i)=true/\j.all (okv i)=true
theorem JBD:Jnk []:=λ_=>⟨rfl,rfl⟩
theorem G8{a b:List V}(ha:Jnk a)(hb:Jnk b):Jnk (a++b):=λi=>by rw[Df,(ha i).1,(hb i).1,Df,(ha i).2,(hb i).2];exact⟨rfl,rfl⟩
theorem JYJ{l:List CV}{a:List V}(ha:Jnk a):Jnk (.list .yes (JL l)::a):=λi=>by rw[Bg,Bg,(ha i).1,(ha i).2];exact⟨rfl,rfl⟩
theorem Jpr{n:Nat}(h:n<=1000000000):n<=9223372036854775805:=om
theorem JWq:Opn []:=λp hp=>by cases hp
end Go.Lift.M1
end

section
namespace Go.Lift.Rul
end Go.Lift.Rul
end

section
open Go.Proofs
namespace Go.Lift.M1.T
variable[MX]
open Utf Tok
def suf(l:List Int)(i:Nat):List Int:=(l.map JQ).drop i
abbrev R(l:List Int)(i:Nat):Ob:= .cells [.list .no (ri .i32 l),.v (.int .i64 i)]
theorem JBG(l:List Int)(i k:Nat):chr (suf l i) k=match l[i+k]? with
  |some x=>JQ x
  |none=> -1:=by
 unfold chr suf;rw[List.getElem?_drop,Ax]
 cases l[i+k]? <;>rfl
theorem JS6(l:List Int)(i k:Nat): -1<=chr (suf l i) k/\chr (suf l i) k<=1114111:=by
 rw[JBG]
 cases l[i+k]? with
 |none=>simp
 |some x=>have:=KO x;simp only;omega
section
variable{lo i:Nat}{l:List Int}{p q:List Ob}
theorem KK{i:Nat}(hi:i<l.length):suf l i=chr (suf l i) 0::suf l (i+1):=by
 have h1:i<(l.map JQ).length:=by simpa using hi
 rw[JBG];unfold suf;have e:l[i+0]? =some l[i]:=Ac hi
 rw[AD h1,e];simp
theorem Jz{i:Nat}(hi:l.length<=i):suf l i=[]:=List.drop_eq_nil_of_le (by simpa using hi)
theorem Kz(l:List Int)(i:Nat):(suf l i).length=l.length-i:=by simp[suf]
end
section
variable{lo i:Nat}{l:List Int}{p q:List Ob}
theorem JKs:hex (-1)= -1:=by decide
theorem Jb4(c:Int):hex c<=15:=by
 unfold hex dig
 split
 ·rename_i h;simp at h;omega
 ·split
  ·rename_i h;simp at h;omega
  ·split
   ·rename_i h;simp at h;omega
   ·omega
theorem JKt:blk (-1)=false:=by decide
theorem QJ(k:Nat):chr [] k= -1:=by simp[chr]
theorem JS7(l:List Int){j:Nat}(hj:j<=l.length):(blk (chr (suf l j) 0)=true->j<l.length/\JDe (suf l j)=suf l (j+1))/\(blk (chr (suf l j) 0)=false->JDe (suf l j)=suf l j):=by
 rcases Nat.lt_or_ge j l.length with h|h
 ·have h1:=KK h
  generalize chr (suf l j) 0=c at h1;rw[h1];refine⟨λhb=>⟨h,?_⟩,λhb=>?_⟩
  ·simp only[JDe];rw[if_pos hb]
  ·simp only[JDe];rw[if_neg (by simp[hb])]
 ·rw[Jz h,QJ,JKt]
  exact⟨λh=>by simp at h,λ_=>rfl⟩
end
end Go.Lift.M1.T
end

section
open Go.Proofs
namespace Go.Lift.M1.T
variable[MX]
open Utf
theorem JHj{lo i:Nat}{b out:List Int}{h:JC}(hi:i<b.length)(hb:b.length<=1000000000)(ho:out.length<=1000000000)(hy:By b):
  evCode ⟨Aa,E,lo,h.length,h37⟩ JA HL ([(0,.list .no (ri .u8 b)),(3,.list .yes (ri .i32 out)),(4,.v (.int .i64 i))],h)=
   some (.normal,[(0,.list .no (ri .u8 b)),(3,.list .yes (ri .i32 (out++[(one (b.drop i)).1]))),(4,.v (.int .i64 (i+(one (b.drop i)).2.1:Nat)))],h):=by
 have hd:decide ((i:Int)<b.length)=true:=by simpa using hi
 have hn:b.drop i≠[]:=by simp;omega
 have hk:=jt hn;have hw:IntKind.i64.wrap ((i:Int)+(one (b.drop i)).2.1)=((i+(one (b.drop i)).2.1:Nat):Int):=by rw[JN om om];omega
 have hr:∀k,k<=4->(out.length+k)*4<=140737488355328:=by intro k hk;omega
 have hq:∀k,9223372036854775800<=k->out.length<=k:=by intro k hk;omega
 have e1:ri .i32 (out++[(one (b.drop i)).1])=ri .i32 out++[[V.v (.int .i32 (one (b.drop i)).1)]]:=by rw[<-ri_app]<;>rfl
 simp only[go_sem,HL,b37,Tryz.f37,hd,f65 hi om hy,JCl,hr,hq,hw,e1]
theorem JMf{lo:Nat}{b:List Int}{h:JC}(hb:b.length<=1000000000)(hy:By b):∀(n i:Nat) (out:List Int),b.length-i<=n->i<=b.length->out.length<=i->
  JA (evCode ⟨Aa,E,lo,h.length,h37⟩ JA HL) ([(0,.list .no (ri .u8 b)),(3,.list .yes (ri .i32 out)),(4,.v (.int .i64 i))],h)=
   some (.exit 0,[(0,.list .no (ri .u8 b)),(3,.list .yes (ri .i32 (out++WJ (b.drop i)))),(4,.v (.int .i64 b.length)),(11,.v (.bool false))],h):=by
 have stop:∀(i:Nat) (out:List Int),i=b.length->JA (evCode ⟨Aa,E,lo,h.length,h37⟩ JA HL) ([(0,.list .no (ri .u8 b)),(3,.list .yes (ri .i32 out)),(4,.v (.int .i64 i))],h)=
   some (.exit 0,[(0,.list .no (ri .u8 b)),(3,.list .yes (ri .i32 (out++WJ (b.drop i)))),(4,.v (.int .i64 b.length)),(11,.v (.bool false))],h):=by
  intro i out hi;subst hi;have hd:decide ((b.length:Int)<b.length)=false:=by simp
  rw[loop_eq];simp only[go_sem,HL,b37,Tryz.f37,hd,Be,JA4]
 intro n
 induction n with
 |zero=>intro i out h1 h2 h3;exact stop i out om
 |succ n ih=>
  intro i out h1 h2 h3;by_cases hi:i<b.length
  ·have hn:b.drop i≠[]:=by simp;omega
   have hk:=jt hn;rw[List.length_drop]at hk;rw[loop_eq,JHj hi hb om hy,JK,ih _ _ om om (by rw[Ah,List.length_singleton];omega),JGK hn,Ao,List.drop_drop]
   rfl
  ·exact stop i out om
theorem f37{lo:Nat}{b:List Int}{h:JC}(hb:b.length<=1000000000)(hy:By b):E lo 37 [.list .no (ri .u8 b)] h=some (.list .no (ri .i32 (WJ b)),h):=by
 rw[e37];have hL:=JMf (lo:=lo) (h:=h) hb hy b.length 0 [] om om (by simp)
 simp only[HL,b37,Tryz.f37,JD,JT,JB,go_sem,Ko,Az]at hL;simp only[go_sem,b37,Tryz.f37,hL]
end Go.Lift.M1.T
end
