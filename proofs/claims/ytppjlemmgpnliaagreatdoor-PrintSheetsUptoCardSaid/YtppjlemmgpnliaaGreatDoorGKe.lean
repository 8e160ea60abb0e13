/- Letters; a text's characters, one by one. -/
import Derived.Test.YtppjlemmgpnliaaGreatDoorGKc
import Derived.Test.YtppjlemmgpnliaaGreatDoorGKd
open BitVec renaming ofInt->Au
open Bool renaming and_self->B3,false_and->Aw,false_eq_true->Am,false_or->Bb,true_and->AB,true_or->B1
open Go.IntKind renaming i64->Aq,u64->AJ,u8->AO
open Go.Proofs.Tryz renaming prog->Aa
open Go.Value renaming int->AQ
open Int renaming pow_succ->Bc,reduceBEq->Ap
open List renaming append_assoc->Ao,append_nil->Av,cons_append->Al,drop_eq_getElem_cons->AD,drop_length->Be,drop_zero->Az,getElem?_eq_getElem->Ac,getElem?_eq_some_iff->Ad,getElem_mem->Ba,length_append->Ah,length_cons->Ae,length_nil->An,map->Cy,nil_append->Ai,replicate->A0,singleton_append->A1,take_length->BD
open Nat renaming le_refl->Ab,mul_one->Du,reduceBEq->Le,zero_add->AE,zero_le->A9
open UInt8 renaming ofNat->Bh,toNat_ofNat'->BU
set_option linter.unusedVariables false
set_option linter.unusedSimpArgs false
set_option linter.unusedSectionVars false
set_option maxRecDepth 20000
set_option maxHeartbeats 4000000
section
open Go.Proofs
namespace Go.Lift.M1
variable[MX]
open Utf Tok Spell
section
variable{lo:Nat}{h:JC}{c:Int}
theorem f90:E lo 90 [.v (.int .i32 c)] h=some (.v (.bool (dig c)),h):=by rw[e90];simp only[go_sem,b90,Tryz.f90,dig]
theorem f89:E lo 89 [.v (.int .i32 c)] h=some (.v (.bool (kW c)),h):=by rw[e89];simp only[go_sem,b89,Tryz.f89,kW]
theorem f57:E lo 57 [.v (.int .i32 c)] h=some (.v (.bool (GR c)),h):=by rw[e57];simp only[go_sem,b57,Tryz.f57,f89,f90,GR]
theorem f129:E lo 129 [.v (.int .i32 c)] h=some (.v (.bool (yb c)),h):=by rw[JoT];simp only[go_sem,Jhj,Tryz.f129,yb]
theorem f113:E lo 113 [.v (.int .i32 c)] h=some (.v (.bool (yb c)),h):=by rw[JoC];simp only[go_sem,Jhf,Tryz.f113,yb]
theorem H9:E lo 96 [.v (.int .i32 c)] h=some (.v (.bool (dig c)),h):=by rw[e96];simp only[go_sem,b96,Tryz.f96,dig]
theorem f130:E lo 130 [.v (.int .i32 c)] h=some (.v (.bool (GR c)),h):=by
 have hc:(97<=c/\c<=122)\/(65<=c/\c<=90)\/(c=95)\/(c=45)\/(128<=c)\/(c<65/\c≠45)\/(91<=c/\c<=96/\c≠95)\/(123<=c/\c<=127):=om;rw[JoU];rcases hc with hc|hc|hc|hc|hc|hc|hc|hc
 ·have q1:decide (97<=c)=true:=by simp;omega
  have q2:decide (c<=122)=true:=by simp;omega
  have e:GR c=true:=by unfold GR kW;simp;omega
  rw[e];simp only[go_sem,JHX,Tryz.f130,H9,q1,q2]<;>rfl
 ·have q1:decide (97<=c)=false:=by simp;omega
  have q3:decide (65<=c)=true:=by simp;omega
  have q4:decide (c<=90)=true:=by simp;omega
  have e:GR c=true:=by unfold GR kW;simp;omega
  rw[e];simp only[go_sem,JHX,Tryz.f130,H9,q1,q3,q4]<;>rfl
 ·have q1:decide (97<=c)=false:=by simp;omega
  have q3:decide (65<=c)=true:=by simp;omega
  have q4:decide (c<=90)=false:=by simp;omega
  have q5:(c==95)=true:=by simp;omega
  have e:GR c=true:=by unfold GR kW;simp;omega
  rw[e];simp only[go_sem,JHX,Tryz.f130,H9,q1,q3,q4,q5]<;>rfl
 ·have q1:decide (97<=c)=false:=by simp;omega
  have q3:decide (65<=c)=false:=by simp;omega
  have q5:(c==95)=false:=by simp;omega
  have q6:(c==45)=true:=by simp;omega
  have e:GR c=true:=by unfold GR kW;simp;omega
  rw[e];simp only[go_sem,JHX,Tryz.f130,H9,q1,q3,q5,q6]<;>rfl
 ·have q1:decide (97<=c)=true:=by simp;omega
  have q2:decide (c<=122)=false:=by simp;omega
  have q3:decide (65<=c)=true:=by simp;omega
  have q4:decide (c<=90)=false:=by simp;omega
  have q5:(c==95)=false:=by simp;omega
  have q6:(c==45)=false:=by simp;omega
  have q7:decide (128<=c)=true:=by simp;omega
  have e:GR c=true:=by unfold GR kW;simp;omega
  rw[e];simp only[go_sem,JHX,Tryz.f130,H9,q1,q2,q3,q4,q5,q6,q7]<;>rfl
 ·have q1:decide (97<=c)=false:=by simp;omega
  have q3:decide (65<=c)=false:=by simp;omega
  have q5:(c==95)=false:=by simp;omega
  have q6:(c==45)=false:=by simp;omega
  have q7:decide (128<=c)=false:=by simp;omega
  have e:GR c=dig c:=by unfold GR kW;cases hd:dig c<;>simp<;>omega
  rw[e];simp only[go_sem,JHX,Tryz.f130,H9,q1,q3,q5,q6,q7]<;>rfl
 ·have q1:decide (97<=c)=false:=by simp;omega
  have q3:decide (65<=c)=true:=by simp;omega
  have q4:decide (c<=90)=false:=by simp;omega
  have q5:(c==95)=false:=by simp;omega
  have q6:(c==45)=false:=by simp;omega
  have q7:decide (128<=c)=false:=by simp;omega
  have e:GR c=dig c:=by unfold GR kW;cases hd:dig c<;>simp<;>omega
  rw[e];simp only[go_sem,JHX,Tryz.f130,H9,q1,q3,q4,q5,q6,q7]<;>rfl
 ·have q1:decide (97<=c)=true:=by simp;omega
  have q2:decide (c<=122)=false:=by simp;omega
  have q3:decide (65<=c)=true:=by simp;omega
  have q4:decide (c<=90)=false:=by simp;omega
  have q5:(c==95)=false:=by simp;omega
  have q6:(c==45)=false:=by simp;omega
  have q7:decide (128<=c)=false:=by simp;omega
  have e:GR c=dig c:=by unfold GR kW;cases hd:dig c<;>simp<;>omega
  rw[e];simp only[go_sem,JHX,Tryz.f130,H9,q1,q2,q3,q4,q5,q6,q7]<;>rfl
end
theorem Jbb{L:List Int}{i:Nat}{c:Int}(h:L[i]? =some c)(h0:0<=c)(h1:c<=255):((bs L).get! i).toNat=c.toNat:=by
 have hi:i<L.length:=(Ad.1 h).1
 have hg:(Q1 L)[i]? =some (Bh c.toNat):=by simp[Q1,h]
 have:(bs L).get! i=Bh c.toNat:=by
  show(Q1 L).toArray[i]! =_
  simp only[List.getElem!_toArray];rw[List.getElem!_eq_getElem?_getD,hg]
  rfl
 rw[this];simp only[BU];omega
theorem Jph{s:ByteArray}{i b0:Nat}(g0:(s.get! i).toNat=b0)(h:b0<128):Utf8.decode s i=(b0,1):=by have g0':(s.get! (i+0)).toNat=b0:=g0;unfold Utf8.decode;simp only[g0',h,if_true]
theorem Jpi{s:ByteArray}{i b0 b1:Nat}(g0:(s.get! i).toNat=b0)(g1:(s.get! (i+1)).toNat=b1)(hs:i+1<s.size)(h0:b0/32=6)(h1:b1/64=2)(hc:128<=b0%32*64+b1%64):
  Utf8.decode s i=(b0%32*64+b1%64,2):=by
 have g0':(s.get! (i+0)).toNat=b0:=g0;have hn:¬b0<128:=om;unfold Utf8.decode;simp only[g0',g1,hn,h0,h1,hs,hc,decide_true,if_true,if_false,B3,BEq.rfl,ge_iff_le,Le]
theorem Jpj{s:ByteArray}{i b0 b1 b2:Nat}(g0:(s.get! i).toNat=b0)(g1:(s.get! (i+1)).toNat=b1)(g2:(s.get! (i+2)).toNat=b2)(hs:i+2<s.size)(h0:b0/16=14)(h1:b1/64=2)(h2:b2/64=2)
  (hc:2048<=b0%16*4096+b1%64*64+b2%64)(hv:Utf8.valid ((b0%16*4096+b1%64*64+b2%64:Nat):Int)=true):
  Utf8.decode s i=(b0%16*4096+b1%64*64+b2%64,3):=by
 have g0':(s.get! (i+0)).toNat=b0:=g0;have hn:¬b0<128:=om;have hn2:(b0/32==6)=false:=by simp;omega
 have hs1:i+1<s.size:=om;unfold Utf8.decode;simp only[g0',g1,g2,hn,hn2,h0,h1,h2,hs,hs1,hc,hv,decide_true,if_true,if_false,B3,Aw,Am,BEq.rfl,ge_iff_le,Le]
theorem Jpk{s:ByteArray}{i b0 b1 b2 b3:Nat}(g0:(s.get! i).toNat=b0)(g1:(s.get! (i+1)).toNat=b1)(g2:(s.get! (i+2)).toNat=b2)(g3:(s.get! (i+3)).toNat=b3)(hs:i+3<s.size)(h0:b0/8=30)(h1:b1/64=2)(h2:b2/64=2)(h3:b3/64=2)
  (hc:65536<=b0%8*262144+b1%64*4096+b2%64*64+b3%64)(hv:Utf8.valid ((b0%8*262144+b1%64*4096+b2%64*64+b3%64:Nat):Int)=true):
  Utf8.decode s i=(b0%8*262144+b1%64*4096+b2%64*64+b3%64,4):=by
 have g0':(s.get! (i+0)).toNat=b0:=g0;have hn:¬b0<128:=om;have hn2:(b0/32==6)=false:=by simp;omega
 have hn3:(b0/16==14)=false:=by simp;omega
 have hs1:i+1<s.size:=om;have hs2:i+2<s.size:=om;unfold Utf8.decode;simp only[g0',g1,g2,g3,hn,hn2,hn3,h0,h1,h2,h3,hs,hs1,hs2,hc,hv,decide_true,if_true,if_false,B3,Aw,Am,BEq.rfl,ge_iff_le,Le]
theorem JNr{pre rest:List Int}{x:Int}(hs:JQ x=x):Utf8.decode (bs (pre++(enc x++rest))) pre.length=(x.toNat,(enc x).length):=by
 obtain⟨h0,h1,h2⟩:=(Hu x).1 hs;have hsz:(bs (pre++(enc x++rest))).size=pre.length+((enc x).length+rest.length):=by rw[bs_size];simp
 have hb:=zS x h0 h1
 have hget:∀(k:Nat) (c:Int),(enc x)[k]? =some c->((bs (pre++(enc x++rest))).get! (pre.length+k)).toNat=c.toNat:=λk c hk=>by
  have:=hb c (List.mem_of_getElem? hk);refine Jbb ?_ this.1 this.2
  rw[List.getElem?_append_right om,Nat.add_sub_cancel_left,List.getElem?_append_left (Ad.1 hk).1]
  exact hk
 generalize bs (pre++(enc x++rest))=s at*;generalize pre.length=i at*;obtain⟨n,rfl⟩:∃n:Nat,x=n:=⟨x.toNat,om⟩;have hn:((n:Int)).toNat=n:=om;rw[hn];by_cases c1:(n:Int)<128
 ·have e:enc (n:Int)=[(n:Int)]:=by unfold enc;rw[if_pos c1]
  rw[e]at hget⊢;exact Jph (by have:=hget 0 _ rfl;simpa using this) om
 ·by_cases c2:(n:Int)<2048
  ·have e:enc (n:Int)=[192+(n:Int)/64,128+(n:Int)%64]:=by unfold enc;rw[if_neg c1,if_pos c2]
   rw[e]at hget hsz⊢;have g0:=hget 0 _ rfl;have g1:=hget 1 _ rfl;have d:=Jpi (s:=s) (i:=i) g0 g1 (by rw[hsz];simp;omega) om om om
   rw[d];simp;omega
  ·by_cases c3:(n:Int)<65536
   ·have e:enc (n:Int)=[224+(n:Int)/4096,128+(n:Int)/64%64,128+(n:Int)%64]:=by unfold enc;rw[if_neg c1,if_neg c2,if_pos c3]
    rw[e]at hget hsz⊢;have g0:=hget 0 _ rfl;have g1:=hget 1 _ rfl;have g2:=hget 2 _ rfl;have ev:(224+(n:Int)/4096).toNat%16*4096+(128+(n:Int)/64%64).toNat%64*64+(128+(n:Int)%64).toNat%64=n:=om;have d:=Jpj (s:=s) (i:=i) g0 g1 g2 (by rw[hsz];simp;omega) om om om om (by rw[ev];simp[Utf8.valid];omega)
    rw[d,ev]<;>rfl
   ·have e:enc (n:Int)=[240+(n:Int)/262144,128+(n:Int)/4096%64,128+(n:Int)/64%64,128+(n:Int)%64]:=by unfold enc;rw[if_neg c1,if_neg c2,if_neg c3]
    rw[e]at hget hsz⊢;have g0:=hget 0 _ rfl;have g1:=hget 1 _ rfl;have g2:=hget 2 _ rfl;have g3:=hget 3 _ rfl;have ev:(240+(n:Int)/262144).toNat%8*262144+(128+(n:Int)/4096%64).toNat%64*4096+(128+(n:Int)/64%64).toNat%64*64+(128+(n:Int)%64).toNat%64=n:=om;have d:=Jpk (s:=s) (i:=i) g0 g1 g2 g3 (by rw[hsz];simp;omega) om om om om om (by rw[ev];simp[Utf8.valid];omega)
    rw[d,ev]<;>rfl
section
variable{lo:Nat}{h:JC}{done:List Int}{p0:V}{out:List Int}{x:Int}{s:ByteArray}{pos:Nat}
abbrev H34(h:JC)(p0:V)(out:List Int)(s:ByteArray)(pos:Nat):JC:=h++[.cells [p0,.list .yes (ri .u8 out)],.iter s pos]
theorem JSc(hlo:lo<=h.length)(hp:H0 h.length p0=true)(hx0:0<=x)(hx1:x<=1114111)(hpos:pos<s.size)(hdec:Utf8.decode s pos=(x.toNat,(enc (JQ x)).length))(hl:out.length<=900000000):
  evCode ⟨Aa,E,lo,h.length,JRo⟩ JA H5 ([(3,.ptr h.length 0),(7,.ptr (h.length+1) 0)],H34 h p0 out s pos)=
   some (.normal,[(3,.ptr h.length 0),(7,.ptr (h.length+1) 0)],H34 h (.ptr h.length 0) (out++j9 x) s (pos+(enc (JQ x)).length)):=by
 have hlo1:lo<=h.length+1:=om;have hxn:((x.toNat:Nat):Int)=x:=om;have hcl:=Jw x;have hel:=W8 (JQ x);have c87:=λlo hlo=>f128 (lo:=lo) (h:=H34 h p0 out s (pos+(enc (JQ x)).length)) hlo hx0 (r:=x) om
 have c87a:=c87 lo (by simp;omega)
 have c87b:=c87 h.length (by simp)
 have c87c:=c87 (h.length+2) (by simp)
 have c48:=λlo hlo=>f21 (lo:=lo) (p:=h) (q:=[.iter s (pos+(enc (JQ x)).length)]) (p0:=p0) (out:=out) hlo hp (s:=J1 x) (YK x) om om
 have c90:=λlo hlo=>JWL (lo:=lo) (p:=h) (q:=[.iter s (pos+(enc (JQ x)).length)]) (p0:=p0) (out:=out) hlo hp (r:=x) om om om
 have c91:=λlo hlo=>f132 (lo:=lo) (p:=h) (q:=[.iter s (pos+(enc (JQ x)).length)]) (p0:=p0) (out:=out) hlo hp (c:=92) om
 have c92:=λlo hlo=>JWL (lo:=lo) (p:=h) (q:=[.iter s (pos+(enc (JQ x)).length)]) (p0:= .ptr h.length 0) (out:=out++[92]) hlo KJ (r:=x) om om (by simp;omega)
 have c48a:=c48 lo hlo;have c48b:=c48 h.length (Ab _);have c90a:=c90 lo hlo;have c90b:=c90 h.length (Ab _);have c91a:=c91 lo hlo;have c91b:=c91 h.length (Ab _);have c92a:=c92 lo hlo;have c92b:=c92 h.length (Ab _);clear c87 c48 c90 c91 c92;have e1:(Utf8.decode s pos).1=x.toNat:=by rw[hdec]
 have e2:(Utf8.decode s pos).2=(enc (JQ x)).length:=by rw[hdec]
 have k88:=λlo h=>f129 (lo:=lo) (h:=h) (c:=x)
 have k89:=λlo h=>f130 (lo:=lo) (h:=h) (c:=x)
 unfold j9
 cases qh:yb x with
 |true=>
  rw[qh]at k88
  simp only[go_sem,H5,JKK,Tryz.f102,hlo,hlo1,hpos,e1,e2,hxn,k88,c87a,c87b,c87c,c48a,c48b,if_true]<;>rfl
 |false=>
  rw[qh]at k88
  cases ql:GR x with
  |true=>
   rw[ql]at k89
   simp only[go_sem,H5,JKK,Tryz.f102,hlo,hlo1,hpos,e1,e2,hxn,k88,k89,c90a,c90b,if_true,Am,if_false]<;>rfl
  |false=>
   rw[ql]at k89;have e3:out++[92]++enc (JQ x)=out++92::enc (JQ x):=by simp
   rw[e3]at c92a c92b;simp only[go_sem,H5,JKK,Tryz.f102,hlo,hlo1,hpos,e1,e2,hxn,k88,k89,c91a,c91b,c92a,c92b,Am,if_false]<;>rfl
theorem JWP(hlo:lo<=h.length)(hpos:¬pos<s.size):
  JA (evCode ⟨Aa,E,lo,h.length,JRo⟩ JA H5) ([(3,.ptr h.length 0),(7,.ptr (h.length+1) 0)],H34 h p0 out s pos)=
   some (.exit 0,[(3,.ptr h.length 0),(7,.ptr (h.length+1) 0),(8,.tup [.v (.bool false)]),(9,.v (.bool false))],H34 h p0 out s pos):=by
 have hlo1:lo<=h.length+1:=om;rw[loop_eq];simp only[go_sem,H5,JKK,Tryz.f102,hlo,hlo1,hpos]<;>rfl
theorem JWQ(hlo:lo<=h.length):∀(l:List Int) (done:List Int) (p0:V) (out:List Int),(∀x∈l,JQ x=x)->H0 h.length p0=true->out.length+10*l.length<=900000000->
  ∃p1,H0 h.length p1=true/\JA (evCode ⟨Aa,E,lo,h.length,JRo⟩ JA H5) ([(3,.ptr h.length 0),(7,.ptr (h.length+1) 0)],H34 h p0 out (bs (done++JJ l)) done.length)=
   some (.exit 0,[(3,.ptr h.length 0),(7,.ptr (h.length+1) 0),(8,.tup [.v (.bool false)]),(9,.v (.bool false))],H34 h p1 (out++Jl l) (bs (done++JJ l)) (done++JJ l).length):=by
 intro l
 induction l with
 |nil=>
  intro done p0 out _ hp _;refine⟨p0,hp,?_⟩
  have e:done++JJ []=done:=by simp[JJ]
  rw[e,JWP hlo (by rw[bs_size];omega)]
  simp[Jl]
 |cons x l ih=>
  intro done p0 out hs hp hl;have hx:=hs x (by simp)
  have hx2:=KO x;rw[hx]at hx2;have hel:=W8 x;have hcl:=zq x;have hdec:=JNr (pre:=done) (rest:=JJ l) hx;have e1:JJ (x::l)=enc x++JJ l:=by rw[KT,hx]
  have e2:done++JJ (x::l)=(done++enc x)++JJ l:=by rw[e1,Ao]
  simp only[Ae]at hl;obtain⟨p1,hp1,hL⟩:=ih (done++enc x) (.ptr h.length 0) (out++j9 x) (λy hy=>hs y (by simp[hy])) KJ (by simp;omega)
  refine⟨p1,hp1,?_⟩
  rw[e1,<-Ao];rw[<-Ao]at hdec;rw[loop_eq,JSc hlo hp hx2.1 hx2.2 (by rw[bs_size];simp;omega) (by rw[hdec,hx]) om,JK,hx]
  have e3:done.length+(enc x).length=(done++enc x).length:=by simp
  rw[e3,hL,G3,Ao]
theorem f102(hlo:lo<=h.length){l:List Int}(hs:∀x∈l,JQ x=x)(hl:l.length<=10000000):E lo 102 [.v (.string (bs (JJ l)))] h=some (.v (.string (bs (Jl l))),h):=by
 have hlen:=KV l;obtain⟨p1,hp1,hL⟩:=JWQ (lo:=lo) (h:=h) hlo l [] (.v (.pointer none)) [] hs rfl (by simp;omega)
 rw[Ai,Ai,An]at hL;have k:=λlo hlo=>f24 (lo:=lo) (p:=h) (q:=[.iter (bs (JJ l)) (JJ l).length]) (p0:=p1) (out:=Jl l) hlo (YL l) om
 have ka:=k lo hlo;have kb:=k h.length (Ab _);simp only[H5,JKK,Tryz.f102,JD,JT,JB,go_sem,Ko,H34]at hL;rw[Jn3];simp only[go_sem,JKK,Tryz.f102,hlo,hL,ka,kb]<;>rfl
end
end Go.Lift.M1
end

section
open Go.Proofs
namespace Go.Lift.M1
variable[MX][HasD]
open Utf Tok Spell
section
variable{lo:Nat}{h:JC}
def JHm:List Int:=[48,49,50,51,52,53,54,55,56,57,97,98,99,100,101,102,103,104,105,106,107,108,109,110,111,112,113,114,115,116,117,118,119,120,121,122]
theorem JSd:(⟨#[48,49,50,51,52,53,54,55,56,57,97,98,99,100,101,102,103,104,105,106,107,108,109,110,111,112,113,114,115,116,117,118,119,120,121,122]⟩:ByteArray)=bs JHm:=rfl
theorem JX4:By JHm:=by decide
theorem JSe{n:Int}(h0:0<=n)(h1:n<16):JHm[n.toNat]? =some (hexD n):=by
 obtain⟨k,rfl⟩:∃k:Nat,n=k:=⟨n.toNat,om⟩;have hk:k<16:=om;have:∀k:Fin 16,JHm[((k.val:Nat):Int).toNat]? =some (hexD (k.val:Int)):=by decide
 exact this ⟨k,hk⟩
theorem Jhy{y:Int}(h0:0<=y)(h1:y<=2147483647):YH .u64 y 15=y%16:=by
 unfold YH;show((Au 64 y&&&Au 64 15).toNat:Int)=y%16
 rw[BitVec.toNat_and]
 have e1:(Au 64 y).toNat=y.toNat:=by rw[BitVec.toNat_ofInt];omega
 have e2:(Au 64 15).toNat=2^4-1:=by decide
 rw[e1,e2,Nat.and_two_pow_sub_one_eq_mod];omega
theorem Jpl{y:Int}(h0:0<=y):JB4 .u64 y 4=y/16:=by
 unfold JB4;show y.fdiv (2^ (min 4 64))=_
 rw[Int.fdiv_eq_ediv_of_nonneg _ (by decide)]<;>rfl
def zr:Nat->Int->List Int
 |0,u=>[hexD u]
 |k+1,u=>if u<16 then[hexD u]else zr k (u/16)++[hexD (u%16)]
abbrev JMl(h:JC)(u j:Int):Jj:=[(0,.list .no []),(1,.v (.int .u64 u)),(3,.v (.bool false)),(4,.v (.bool false)),(10,.list .yes []),(11,.v (.string ⟨#[]⟩)),(12,.ptr h.length 0),(13,.v (.int .i64 j)),(14,.v (.int .u64 4)),(15,.v (.int .u64 16)),(16,.v (.int .u64 15))]
theorem JWR(hlo:lo<=h.length):∀(k:Nat) (u:Int) (j:Nat) (suf:List Int),0<=u->u<16^ (k+1)->u<=2147483647->k+1<=j->j+suf.length=65->
  ∃(u':Int) (j':Nat) (suf':List Int),0<=u'/\u'<16/\1<=j'/\j'+suf'.length=65/\hexD u'::suf'=zr k u++suf/\
  JA (evCode ⟨Aa,E,lo,h.length,JRt⟩ JA zg) (JMl h u j,h++[cz j suf])=some (.exit 0,JMl h u' j'++[(46,.v (.bool false))],h++[cz j' suf']):=by
 have stop:∀(u:Int) (j:Nat) (suf:List Int),0<=u->u<16->JA (evCode ⟨Aa,E,lo,h.length,JRt⟩ JA zg) (JMl h u j,h++[cz j suf])=some (.exit 0,JMl h u j++[(46,.v (.bool false))],h++[cz j suf]):=by
  intro u j suf h0 h1;have q:decide (16<=u)=false:=by simp;omega
  rw[loop_eq];simp only[go_sem,zg,JMW,Tryz.f158,q]<;>rfl
 intro k
 induction k with
 |zero=>
  intro u j suf h0 h1 _ h2 h3
  exact⟨u,j,suf,h0,by simpa using h1,h2,h3,rfl,stop u j suf h0 (by simpa using h1)⟩
 |succ k ih=>
  intro u j suf h0 h1 h4 h2 h3;by_cases hu:u<16
  ·exact⟨u,j,suf,h0,hu,om,h3,by simp[zr,hu],stop u j suf h0 hu⟩
  obtain⟨i,rfl⟩:∃i,j=i+1:=⟨j-1,om⟩;have q:decide (16<=u)=true:=by simp;omega
  have w1:Aq.wrap (((i+1:Nat):Int)-1)=(i:Int):=by rw[JN om om];omega
  have a1:=Jhy h0 h4;have s1:=Jpl h0;have w2:AJ.wrap (u%16)=u%16:=Jc om om;have w3:AJ.wrap (u/16)=u/16:=Jc om om;have hi:=Kl JX4 (u%16).toNat;rw[JSe om om]at hi;have hn:0<=u%16:=om;have b1:(i:Int)<((65:Nat):Int):=om;have e:=JHg i (hexD (u%16)) suf;have e2:i+1<=(A0 (i+1) (V.v (AQ AO 0))++Cy (λc=>V.v (AQ AO c)) suf).length:=by simp
  have er:evCode ⟨Aa,E,lo,h.length,JRt⟩ JA zg (JMl h u (i+1:Nat),h++[cz (i+1) suf])=some (.normal,JMl h (u/16) i,h++[cz i (hexD (u%16)::suf)]):=by simp only[go_sem,zg,JMW,Tryz.f158,q,w1,a1,s1,w2,w3,JSd,hi,hn,b1,e,e2,hlo,cz,AE,Du]<;>rfl
  obtain⟨u',j',suf',g0,g1,g2,g3,g4,g5⟩:=ih (u/16) i (hexD (u%16)::suf) om (by rw[Bc]at h1;omega) om om (by simp;omega)
  refine⟨u',j',suf',g0,g1,g2,g3,?_,?_⟩
  ·rw[g4];simp[zr,hu]
  ·rw[loop_eq,er,JK,g5]
theorem Jpm:cz 65 []= .cells [.v (.int .u8 0),.v (.int .u8 0),.v (.int .u8 0),.v (.int .u8 0),.v (.int .u8 0),.v (.int .u8 0),.v (.int .u8 0),.v (.int .u8 0),.v (.int .u8 0),.v (.int .u8 0),.v (.int .u8 0),.v (.int .u8 0),.v (.int .u8 0),.v (.int .u8 0),.v (.int .u8 0),.v (.int .u8 0),.v (.int .u8 0),.v (.int .u8 0),.v (.int .u8 0),.v (.int .u8 0),.v (.int .u8 0),.v (.int .u8 0),.v (.int .u8 0),.v (.int .u8 0),.v (.int .u8 0),.v (.int .u8 0),.v (.int .u8 0),.v (.int .u8 0),.v (.int .u8 0),.v (.int .u8 0),.v (.int .u8 0),.v (.int .u8 0),.v (.int .u8 0),.v (.int .u8 0),.v (.int .u8 0),.v (.int .u8 0),.v (.int .u8 0),.v (.int .u8 0),.v (.int .u8 0),.v (.int .u8 0),.v (.int .u8 0),.v (.int .u8 0),.v (.int .u8 0),.v (.int .u8 0),.v (.int .u8 0),.v (.int .u8 0),.v (.int .u8 0),.v (.int .u8 0),.v (.int .u8 0),.v (.int .u8 0),.v (.int .u8 0),.v (.int .u8 0),.v (.int .u8 0),.v (.int .u8 0),.v (.int .u8 0),.v (.int .u8 0),.v (.int .u8 0),.v (.int .u8 0),.v (.int .u8 0),.v (.int .u8 0),.v (.int .u8 0),.v (.int .u8 0),.v (.int .u8 0),.v (.int .u8 0),.v (.int .u8 0)]:=rfl
theorem Jhz:(16:Int)^ (7+1)=4294967296:=by decide
theorem f173:E lo 173 [.v (.int .i64 16)] h=some (.v (.bool true),h):=by
 have a:YH .i64 16 15=0:=by decide
 have w:Aq.wrap (16-1)=15:=by decide
 have w0:Aq.wrap 0=0:=by decide
 have q:((0:Int)==0)=true:=rfl;rw[Jov];simp only[go_sem,Jhq,Tryz.f173,a,w,w0,q]<;>rfl
theorem f174:E lo 174 [.v (.int .u64 16)] h=some (.v (.int .i64 4),h):=by
 have k:=λlo h=>Jhv (lo:=lo) (h:=h) (x:=16) om om
 have c:Go.Lib.ctz 64 (16:Int).toNat=4:=by decide
 have n4:((4:Nat):Int)=4:=rfl;rw[c,n4]at k;rw[Jow];simp only[go_sem,Jhr,Tryz.f174,k]<;>rfl
@[go_sem] theorem z9k:List.replicate 65 (Go.Value.int .u8 0)=[Go.Value.int .u8 0,Go.Value.int .u8 0,Go.Value.int .u8 0,Go.Value.int .u8 0,Go.Value.int .u8 0,Go.Value.int .u8 0,Go.Value.int .u8 0,Go.Value.int .u8 0,Go.Value.int .u8 0,Go.Value.int .u8 0,Go.Value.int .u8 0,Go.Value.int .u8 0,Go.Value.int .u8 0,Go.Value.int .u8 0,Go.Value.int .u8 0,Go.Value.int .u8 0,Go.Value.int .u8 0,Go.Value.int .u8 0,Go.Value.int .u8 0,Go.Value.int .u8 0,Go.Value.int .u8 0,Go.Value.int .u8 0,Go.Value.int .u8 0,Go.Value.int .u8 0,Go.Value.int .u8 0,Go.Value.int .u8 0,Go.Value.int .u8 0,Go.Value.int .u8 0,Go.Value.int .u8 0,Go.Value.int .u8 0,Go.Value.int .u8 0,Go.Value.int .u8 0,Go.Value.int .u8 0,Go.Value.int .u8 0,Go.Value.int .u8 0,Go.Value.int .u8 0,Go.Value.int .u8 0,Go.Value.int .u8 0,Go.Value.int .u8 0,Go.Value.int .u8 0,Go.Value.int .u8 0,Go.Value.int .u8 0,Go.Value.int .u8 0,Go.Value.int .u8 0,Go.Value.int .u8 0,Go.Value.int .u8 0,Go.Value.int .u8 0,Go.Value.int .u8 0,Go.Value.int .u8 0,Go.Value.int .u8 0,Go.Value.int .u8 0,Go.Value.int .u8 0,Go.Value.int .u8 0,Go.Value.int .u8 0,Go.Value.int .u8 0,Go.Value.int .u8 0,Go.Value.int .u8 0,Go.Value.int .u8 0,Go.Value.int .u8 0,Go.Value.int .u8 0,Go.Value.int .u8 0,Go.Value.int .u8 0,Go.Value.int .u8 0,Go.Value.int .u8 0,Go.Value.int .u8 0]:=rfl
theorem f158(hlo:lo<=h.length){x:Int}(h0:0<=x)(h1:x<=2147483647):E lo 158 [.list .no [],.v (.int .u64 x),.v (.int .i64 16),.v (.bool false),.v (.bool false)] h=some (.tup [.list .no [],.v (.string (bs (zr 7 x)))],h):=by
 obtain⟨u,j1,suf,g0,g1,g2,g3,g4,hL⟩:=JWR (lo:=lo) (h:=h) hlo 7 x 65 [] h0 (by rw[Jhz];omega) h1 om (by simp)
 rw[Av]at g4;obtain⟨j,rfl⟩:∃j,j1=j+1:=⟨j1-1,om⟩;rw[<-g4];have n65:((65:Nat):Int)=65:=rfl;rw[Jpm,n65]at hL;have q1:decide ((16:Int)<2)=false:=rfl;have q2:((16:Int)==10)=false:=rfl;have q3:decide ((36:Int)<16)=false:=rfl;have k2:=λlo h=>f173 (lo:=lo) (h:=h)
 have k3:=λlo h=>f174 (lo:=lo) (h:=h)
 have w16:AJ.wrap 16=16:=by decide
 have w4:AJ.wrap 4=4:=by decide
 have w15:AJ.wrap (16-1)=15:=by decide
 have w1:Aq.wrap (((j+1:Nat):Int)-1)=(j:Int):=by rw[JN om om];omega
 have hi:=Kl JX4 u.toNat;rw[JSe g0 g1]at hi;have b1:(j:Int)<((65:Nat):Int):=om;have b2:j<=65:=om;have b3:j<65:=om;have e:=JHg j (hexD u) suf;have e2:j+1<=(A0 (j+1) (V.v (AQ AO 0))++Cy (λc=>V.v (AQ AO c)) suf).length:=by simp
 have e3:decide (j+(65-j)<=(A0 j (V.v (AQ AO 0))++V.v (AQ AO (hexD u))::Cy (λc=>V.v (AQ AO c)) suf).length)=true:=by simp;omega
 have e4:bytesOf (Cy (λx=>[x]) (List.take (65-j) (List.drop j (A0 j (V.v (AQ AO 0))++V.v (AQ AO (hexD u))::Cy (λc=>V.v (AQ AO c)) suf))))=some (Q1 (hexD u::suf)):=by
  rw[List.drop_left' (by simp),List.take_of_length_le (by simp;omega)]
  have:Cy (λx=>[x]) (V.v (AQ AO (hexD u))::Cy (λc=>V.v (AQ AO c)) suf)=ri .u8 (hexD u::suf):=by simp[ri]
  rw[this];exact Hs _
 simp only[zg,JMW,Tryz.f158,JD,JT,JB,go_sem,cz,JMl,JSd,AE,Du]at hL;rw[Jop];simp only[go_sem,JMW,Tryz.f158,q1,q2,q3,k2,k3,w16,w4,w15,hL,w1,JSd,hi,g0,b1,b2,b3,e,e2,e3,e4,hlo,cz,AE,Du]<;>rfl
theorem f159(hlo:lo<=h.length){x:Int}(h0:0<=x)(h1:x<=2147483647):E lo 159 [.v (.int .i64 x),.v (.int .i64 16)] h=some (.v (.string (bs (zr 7 x))),h):=by
 have k:=λlo hlo=>f158 (lo:=lo) (h:=h) hlo h0 h1
 have ka:=k lo hlo;have kb:=k h.length (Ab _);have q:((16:Int)==10)=false:=rfl;have q2:decide (x<0)=false:=by simp;omega
 have w:AJ.wrap x=x:=Jc h0 om;rw[Joq];simp only[go_sem,Jhp,Tryz.f159,q,q2,w,ka,kb]<;>rfl
theorem f136(hlo:lo<=h.length){x:Int}(h0:0<=x)(h1:x<=2147483647):E lo 136 [.v (.int .i64 x),.v (.int .i64 16)] h=some (.v (.string (bs (zr 7 x))),h):=by
 have k:=λlo hlo=>f159 (lo:=lo) (h:=h) hlo h0 h1
 have ka:=k lo hlo;have kb:=k h.length (Ab _);rw[JoY];simp only[go_sem,Jhm,Tryz.f136,ka,kb]<;>rfl
theorem JNs:∀(k:Nat) (u:Int),1<=u->u<16^ (k+1)->zr k u=(rdN (k+1) u).reverse
 |0,u,h0,h1=>by
  have h2:u<16:=by simpa using h1
  have e:u%16=u:=om
  simp[zr,rdN,show¬u<=0 by omega,e]
 |k+1,u,h0,h1=>by
  simp only[zr]
  split
  ·rename_i hu
   have e:u%16=u:=om;have e2:u/16=0:=om;simp[rdN,show¬u<=0 by omega,e,e2]
  ·rw[JNs k (u/16) om (by rw[Bc]at h1;omega)]
   have:rdN (k+1+1) u=hexD (u%16)::rdN (k+1) (u/16):=by simp[rdN,show¬u<=0 by omega]
   rw[this,List.reverse_cons]
theorem JPm{u:Int}(h0:1<=u)(h1:u<=2147483647):92::(zr 7 u++[32])=J1 u:=by unfold J1;rw[JNs 7 u h0 (by rw[Jhz];omega)]
theorem GY:(⟨#[92]⟩:ByteArray)=bs [92]:=rfl
theorem Jh0:(⟨#[32]⟩:ByteArray)=bs [32]:=rfl
theorem f111(hlo:lo<=h.length){x:Int}(h0:1<=x)(h1:x<=2147483647):E lo 111 [.v (.int .i32 x)] h=some (.v (.string (bs (J1 x))),h):=by
 have k:=λlo hlo=>f136 (lo:=lo) (h:=h) hlo (x:=x) om h1
 have ka:=k lo hlo;have kb:=k h.length (Ab _);have w:Aq.wrap x=x:=JN om om;have e:=JPm h0 h1;have hlen:=Jw x;rw[<-e]at hlen;have z1:(bs [92]).size+(bs (zr 7 x)).size<=9223372036854775807:=by rw[bs_size,bs_size];simp at hlen⊢;omega
 have z2:(bs ([92]++zr 7 x)).size+(bs [32]).size<=9223372036854775807:=by rw[bs_size,bs_size];simp at hlen⊢;omega
 rw[A1]at z2;rw[JoA,<-e];simp only[go_sem,Jhe,Tryz.f111,w,ka,kb,GY,Jh0,Jb,z1,z2,A1]<;>rfl
end
end Go.Lift.M1
end

section
open Go.Proofs
namespace Go.Lift.M1
variable[MX]
open Utf Tok Spell
section
variable{lo:Nat}{h:JC}
theorem f64{x:Int}:E lo 64 [.list .no [[.v (.int .i32 x)]]] h=some (.v (.string (bs (enc (JQ x)))),h):=by
 have k:=λlo h=>f94 (lo:=lo) (h:=h) (l:=[x]) (by simp)
 have e:ri .i32 [x]=[[V.v (.int .i32 x)]]:=rfl;have e2:([x].flatMap λx=>enc (JQ x))=enc (JQ x):=by simp
 rw[e,e2]at k;have e3:(⟨(Q1 (enc (JQ x))).toArray⟩:ByteArray)=bs (enc (JQ x)):=rfl;rw[e64];simp only[go_sem,b64,Tryz.f64,k,Hs,e3]<;>rfl
theorem JHn{x:Int}(h:yb x=true):1<=x:=by unfold yb at h;simp at h;omega
variable[HasD]
theorem Jbc(hlo:lo<=h.length){l:List Int}(hl:l.length<=10000000)(hs:∀x∈l,JQ x=x):∀(m k:Nat) (out:List Int),k+m=l.length->out.length+10*m<=900000000->
  JA (evCode ⟨Aa,E,lo,h.length,h83⟩ JA JCU) ([(3,.v (.string (bs out))),(6,.list .no (ri .i32 l)),(7,.v (.int .i64 l.length)),(8,.v (.int .i64 k))],h)=
   some (.exit 0,[(3,.v (.string (bs (out++Jl (l.drop k))))),(6,.list .no (ri .i32 l)),(7,.v (.int .i64 l.length)),(8,.v (.int .i64 l.length)),(9,.v (.bool false))],h):=by
 intro m
 induction m with
 |zero=>
  intro k out hk _;obtain rfl:k=l.length:=om;have q:decide ((l.length:Int)<(l.length:Int))=false:=by simp
  rw[loop_eq,Be]
  simp only[go_sem,JCU,b83,Tryz.f83,q,Jl,Av]<;>rfl
 |succ m ih=>
  intro k out hk ho;have hlt:k<l.length:=om;have hg:l[k]? =some l[k]:=Ac hlt
  have hd:l.drop k=l[k]::l.drop (k+1):=AD hlt;have hx:=hs l[k] (Ba hlt);have q:decide ((k:Int)<(l.length:Int))=true:=by simp;omega
  have w1:=JH (i:=k) om;rw[hd,G3];generalize l[k]=x at*;have hx2:=KO x;rw[hx]at hx2;have hcl:=zq x;have hel:=W8 (JQ x)
  have er:evCode ⟨Aa,E,lo,h.length,h83⟩ JA JCU ([(3,.v (.string (bs out))),(6,.list .no (ri .i32 l)),(7,.v (.int .i64 l.length)),(8,.v (.int .i64 k))],h)=some (.normal,[(3,.v (.string (bs (out++j9 x)))),(6,.list .no (ri .i32 l)),(7,.v (.int .i64 l.length)),(8,.v (.int .i64 (k+1:Nat)))],h):=by
   have k107:=λlo h=>f113 (lo:=lo) (h:=h) (c:=x)
   have k75:=λlo h=>f57 (lo:=lo) (h:=h) (c:=x)
   have k82:=λlo h=>f64 (lo:=lo) (h:=h) (x:=x)
   unfold j9
   cases qh:yb x with
   |true=>
    rw[qh]at k107;have k105:=λlo hlo=>f111 (lo:=lo) (h:=h) hlo (x:=x) (JHn qh) om
    have ka:=k105 lo hlo;have kb:=k105 h.length (Ab _);have z1:(bs out).size+(bs (J1 x)).size<=9223372036854775807:=by rw[bs_size,bs_size];have:=Jw x;omega
    simp only[go_sem,JCU,b83,Tryz.f83,q,hg,w1,k107,ka,kb,Jb,z1,if_true]<;>rfl
   |false=>
    rw[qh]at k107
    cases ql:GR x with
    |true=>
     rw[ql]at k75;have z1:(bs out).size+(bs (enc (JQ x))).size<=9223372036854775807:=by rw[bs_size,bs_size];omega
     simp only[go_sem,JCU,b83,Tryz.f83,q,hg,w1,k107,k75,k82,Jb,z1,if_true,Am,if_false]<;>rfl
    |false=>
     rw[ql]at k75;have z1:(bs [92]).size+(bs (enc (JQ x))).size<=9223372036854775807:=by rw[bs_size,bs_size];simp;omega
     have z2:(bs out).size+(bs (92::enc (JQ x))).size<=9223372036854775807:=by rw[bs_size,bs_size];simp;omega
     simp only[go_sem,JCU,b83,Tryz.f83,q,hg,w1,k107,k75,k82,GY,Jb,z1,z2,A1,Am,if_false]<;>rfl
  rw[loop_eq,er,JK,ih (k+1) _ om (by simp;omega),Ao]
theorem f83(hlo:lo<=h.length){l:List Int}(hl:l.length<=10000000)(hs:∀x∈l,JQ x=x):E lo 83 [.list .no (ri .i32 l)] h=some (.v (.string (bs (Jl l))),h):=by
 have hL:=Jbc (lo:=lo) (h:=h) hlo hl hs l.length 0 [] om (by simp;omega)
 have n0:((0:Nat):Int)=0:=rfl;have be:bs []=(⟨#[]⟩:ByteArray):=rfl;rw[Az,Ai,be,n0]at hL;simp only[JCU,b83,Tryz.f83,JD,JT,JB,go_sem]at hL;rw[e83];simp only[go_sem,b83,Tryz.f83,hL]<;>rfl
end
end Go.Lift.M1
end

section
namespace Go.Lift.Spell
open Utf Tok
theorem J9:By []:=λc hc=>by cases hc
theorem J6{a b:List Int}(ha:By a)(hb:By b):By (a++b):=λc hc=>by
 rcases List.mem_append.1 hc with h|h
 ·exact ha c h
 ·exact hb c h
theorem Jh{x:Int}{b:List Int}(h0:0<=x)(h1:x<=255)(hb:By b):By (x::b):=λc hc=>by
 rcases List.mem_cons.1 hc with rfl|h
 ·exact⟨h0,h1⟩
 ·exact hb c h
def ZQ(sg:List Int)(sp:Bool)(x:Int):List Int:=
 if(yb x||(sp&&x==32))=true then J1 x else if sg.contains x=true then 92::enc (JQ x)else enc (JQ x)
def KS(sg:List Int)(sp:Bool):List Int->List Int
 |[]=>[]
 |x::l=>ZQ sg sp x++KS sg sp l
theorem ja(sg:List Int)(sp:Bool)(x:Int):(ZQ sg sp x).length<=10:=by
 unfold ZQ;have:=W8 (JQ x)
 split
 ·exact Jw x
 ·split
  ·simp;omega
  ·omega
theorem JAi(x:Int):By (enc (JQ x)):=by have hs:=KO x;exact zS (JQ x) hs.1 hs.2
theorem JSf(sg:List Int)(sp:Bool)(x:Int):By (ZQ sg sp x):=by
 unfold ZQ
 split
 ·exact YK x
 ·split
  ·exact Jh om om (JAi x)
  ·exact JAi x
theorem WT(sg:List Int)(sp:Bool):∀l:List Int,(KS sg sp l).length<=10*l.length
 |[]=>by simp[KS]
 |x::l=>by have:=ja sg sp x;have:=WT sg sp l;simp only[KS,Ah,Ae];omega
theorem yd(sg:List Int)(sp:Bool):∀l:List Int,By (KS sg sp l)
 |[]=>J9
 |x::l=>J6 (JSf sg sp x) (yd sg sp l)
theorem jb(l:List Int):By (Ja l):=by
 unfold Ja
 split
 ·exact Jh om om (Jh om om J9)
 ·split
  ·exact J9
  ·split
   ·exact J6 (YK _) (YL _)
   ·split
    ·exact YL _
    ·split
     ·exact Jh om om (J6 (YK _) (YL _))
     ·exact YL _
theorem QN(l:List Int):(Ja l).length<=10*l.length+1:=by
 unfold Ja
 split
 ·rename_i h
  subst h;simp
 ·split
  ·simp
  ·rename_i x t _
   split
   ·have:=Jw x
    have:=KV t;simp only[Ah,Ae];omega
   ·split
    ·have:=KV [x]
     omega
    ·rename_i y u _
     split
     ·have:=Jw y
      have:=KV u;simp only[Ah,Ae];omega
     ·have:=KV (x::y::u)
      omega
def HY(l:List Int):Bool:=match l with
 |[]=>false
 |y::u=>dig y||y==45&&(match u with
  |[]=>false
  |z::_=>dig z)
def YM(l:List Int):List Int:=match l with
 |[]=>[]
 |x::t=>if((x==101||x==69)&&HY t)=true then J1 x++Jl t else Ja (x::t)
theorem JSg(l:List Int):By (YM l):=by
 unfold YM
 split
 ·exact J9
 ·split
  ·exact J6 (YK _) (YL _)
  ·exact jb _
theorem zt(l:List Int):(YM l).length<=10*l.length+1:=by
 unfold YM
 split
 ·simp
 ·rename_i x t
  split
  ·have:=Jw x
   have:=KV t;simp only[Ah,Ae];omega
  ·exact QN _
theorem JSh(l:List Int)(h:∀x∈l,JQ x=x):HY (JJ l)=HY l:=by
 cases l with
 |nil=>rfl
 |cons x t=>
  have hs:=h x (by simp)
  have hb:=KO x;rw[hs]at hb;rw[KT,hs];by_cases h1:x<128
  ·rw[Zz h1]
   simp only[Al,Ai,HY]
   congr 2
   cases t with
   |nil=>rfl
   |cons y u=>
    have hs2:=h y (by simp)
    have hb2:=KO y;rw[hs2]at hb2;rw[KT,hs2];by_cases h2:y<128
    ·rw[Zz h2]<;>rfl
    ·obtain⟨c,v,e,_,hh⟩:=ZN om hb2.2
     rw[e];simp only[Al];rw[Qe (hh c (by rw[e];simp)),Qe (x:=y) om]
  ·obtain⟨c,v,e,_,hh⟩:=ZN om hb.2
   have hc:=hh c (by rw[e];simp)
   rw[e];simp only[Al,HY];have e1:(x==45)=false:=by simp;omega
   have e2:(c==45)=false:=by simp;omega
   rw[Qe hc,Qe (x:=x) om,e1,e2]<;>rfl
def JA0(k:Int):List Int:=
 if k=6 then[34,10]else if k=8 then[117,114,108,40,40,41]else if k=13 then[32]else if k=14 then[60,33,45,45]else if k=15 then[45,45,62]
 else if k=16 then[58]else if k=17 then[59]else if k=18 then[44]else if k=19 then[91]else if k=20 then[93]else if k=21 then[40]else if k=22 then[41]else if k=23 then[123]else if k=24 then[125]else[]
def JY(k:Int)(b:List Int)(n d:Int)(w i:Bool):List Int:=
 if k=1 then Ja (WJ b)
 else if k=2 then Ja (WJ b)++[40]
 else if k=3 then 64::Ja (WJ b)
 else if k=4 then 35::(if i=true then Ja (WJ b)else Jl (WJ b))
 else if k=5 then 34::(KS [34,92] false (WJ b)++[34])
 else if k=7 then 117::114::108::40::(KS [34,39,40,41,92] true (WJ b)++[41])
 else if k=9 then(if b=[92]then[92,10]else b)
 else if k=10 then(Ji n d w).getD []
 else if k=11 then(Ji n d w).getD []++[37]
 else if k=12 then(Ji n d w).getD []++YM (WJ b)
 else JA0 k
theorem JGb(k:Int):(k=6\/k=8\/k=13\/k=14\/k=15\/k=16\/k=17\/k=18\/k=19\/k=20\/k=21\/k=22\/k=23\/k=24)\/JA0 k=[]:=by
 by_cases h:k=6\/k=8\/k=13\/k=14\/k=15\/k=16\/k=17\/k=18\/k=19\/k=20\/k=21\/k=22\/k=23\/k=24
 ·exact .inl h
 ·refine .inr ?_
  simp only[not_or]at h;simp[JA0,h]
theorem JWS(k:Int):By (JA0 k):=by
 have:∀l:List Int,(l.all λc=>decide (0<=c)&&decide (c<=255))=true->By l:=λl h c hc=>by have:=List.all_eq_true.1 h c hc;simp at this;exact this
 rcases JGb k with(rfl|rfl|rfl|rfl|rfl|rfl|rfl|rfl|rfl|rfl|rfl|rfl|rfl|rfl)|h
 all_goals first
  |exact this _ rfl
  |(rw[h];exact J9)
theorem JSi(k:Int):(JA0 k).length<=6:=by
 rcases JGb k with(rfl|rfl|rfl|rfl|rfl|rfl|rfl|rfl|rfl|rfl|rfl|rfl|rfl|rfl)|h
 all_goals first
  |decide
  |(rw[h];decide)
theorem JA5(b:List Int):(WJ b).length<=b.length:=(zR b).1
theorem JPn{k:Int}{b:List Int}{n d:Int}{w i:Bool}(hy:By b)(hp:By ((Ji n d w).getD [])):By (JY k b n d w i):=by
 unfold JY;have h1:∀x:Int,0<=x->x<=255->By [x]:=λx h0 h1=>Jh h0 h1 J9
 repeat' split
 all_goals first
  |exact jb _
  |exact J6 (jb _) (h1 _ om om)
  |exact Jh om om (jb _)
  |exact Jh om om (YL _)
  |exact Jh om om (J6 (yd _ _ _) (h1 _ om om))
  |exact Jh om om (Jh om om (Jh om om (Jh om om (J6 (yd _ _ _) (h1 _ om om)))))
  |exact Jh om om (h1 _ om om)
  |exact hy
  |exact hp
  |exact J6 hp (h1 _ om om)
  |exact J6 hp (JSg _)
  |exact JWS _
theorem JMm{k:Int}{b:List Int}{n d:Int}{w i:Bool}(hp:((Ji n d w).getD []).length<=200):(JY k b n d w i).length<=10*b.length+300:=by
 have h1:=QN (WJ b);have h2:=KV (WJ b);have h3:=WT [34,92] false (WJ b);have h4:=WT [34,39,40,41,92] true (WJ b);have h5:=zt (WJ b);have h6:=JSi k;have h7:=JA5 b;unfold JY
 repeat' split
 all_goals(try simp only[Ah,Ae,An])
 all_goals omega
end Go.Lift.Spell
end

section
open Go.Proofs
namespace Go.Lift.M1
variable[MX][HasD][HasN]
open Utf Tok Spell
theorem jc{x:Int}(hs:JQ x=x):Utf8.encode x=bs (enc x):=by
 obtain⟨h0,h1,h2⟩:=(Hu x).1 hs;obtain⟨n,rfl⟩:∃n:Nat,x=n:=⟨x.toNat,om⟩;have hv:Utf8.valid (n:Int)=true:=by simp[Utf8.valid];omega
 have hn:((n:Int)).toNat=n:=om;unfold Utf8.encode enc;simp only[hv,hn,if_true];by_cases c1:n<128
 ·rw[if_pos c1,if_pos (show(n:Int)<128 by omega)]
  rfl
 rw[if_neg c1,if_neg (show¬(n:Int)<128 by omega)]
 by_cases c2:n<2048
 ·rw[if_pos c2,if_pos (show(n:Int)<2048 by omega)]
  show _=(⟨#[Bh (192+(n:Int)/64).toNat,Bh (128+(n:Int)%64).toNat]⟩:ByteArray)
  rw[show(192+(n:Int)/64).toNat=192+n/64 by omega,show(128+(n:Int)%64).toNat=128+n%64 by omega]
 rw[if_neg c2,if_neg (show¬(n:Int)<2048 by omega)]
 by_cases c3:n<65536
 ·rw[if_pos c3,if_pos (show(n:Int)<65536 by omega)]
  show _=(⟨#[Bh (224+(n:Int)/4096).toNat,Bh (128+(n:Int)/64%64).toNat,Bh (128+(n:Int)%64).toNat]⟩:ByteArray)
  rw[show(224+(n:Int)/4096).toNat=224+n/4096 by omega,show(128+(n:Int)/64%64).toNat=128+n/64%64 by omega,show(128+(n:Int)%64).toNat=128+n%64 by omega]
 ·rw[if_neg c3,if_neg (show¬(n:Int)<65536 by omega)]
  show _=(⟨#[Bh (240+(n:Int)/262144).toNat,Bh (128+(n:Int)/4096%64).toNat,Bh (128+(n:Int)/64%64).toNat,Bh (128+(n:Int)%64).toNat]⟩:ByteArray)
  rw[show(240+(n:Int)/262144).toNat=240+n/262144 by omega,show(128+(n:Int)/4096%64).toNat=128+n/4096%64 by omega,show(128+(n:Int)/64%64).toNat=128+n/64%64 by omega,show(128+(n:Int)%64).toNat=128+n%64 by omega]
theorem JCq{c:UInt8}{r:List UInt8}:∀{s:List UInt8},(∀x∈s,x≠c)->Go.Lib.index s (c::r)= -1
 |[],_=>rfl
 |b::l,h=>by
  have hb:(c==b)=false:=by
   have:=h b (by simp)
   simp;exact λe=>this e.symm
  unfold Go.Lib.index;rw[JCq λx hx=>h x (by simp[hx])]
  simp[List.isPrefixOf,hb]
section
variable{lo:Nat}{h:JC}
theorem Jbd{l:List Int}(hy:∀c∈l,0<=c/\c<128)(hl:l.length<=1000000){x:Int}(hs:JQ x=x):
  E lo 73 [.v (.string (bs l)),.v (.string (bs (enc x)))] h=some (.v (.bool (l.contains x)),h):=by
 obtain⟨h0,h1,_⟩:=(Hu x).1 hs;have hby:By l:=λc hc=>by have:=hy c hc;omega
 by_cases hx:x<128
 ·rw[Zz hx]
  exact f73 hby om om
 ·obtain⟨c,t,e,ht,hh⟩:=ZN (x:=x) om h1
  have hb:=zS x h0 h1;rw[e]at hh hb⊢;have hc:=hh c (by simp)
  have hc2:=hb c (by simp)
  have hn:l.contains x=false:=by
   rw[Bool.eq_false_iff];intro hcon;have:=hy x (by simpa using hcon)
   omega
  obtain⟨d,u,rfl⟩:∃d u,t=d::u:=by
   cases t with
   |nil=>exact absurd rfl ht
   |cons d u=>exact⟨d,u,rfl⟩
  have hix:Go.Lib.index (bs l).data.toList (bs (c::d::u)).data.toList= -1:=by
   show Go.Lib.index (Q1 l) (Bh c.toNat::Q1 (d::u))= -1
   refine JCq λy hy2=>?_
   simp only[Q1,List.mem_map]at hy2;obtain⟨z,hz,rfl⟩:=hy2;have:=hy z hz;intro he;have:=congrArg UInt8.toNat he;simp only[BU]at this;omega
  have k159:∀lo h,E lo 126 [.v (.string (bs l)),.v (.string (bs (c::d::u)))] h=some (.v (.int .i64 (-1)),h):=λlo h=>by
   show ev Aa hints primz lo 126 _ h=_
   rw[W6 (p:=ixP) rfl];unfold ixP;have e2:(bs (c::d::u)).data.toList=Bh c.toNat::Bh d.toNat::Q1 u:=rfl;simp only[hix];rw[e2];simp only;rw[if_pos (by rw[bs_size];omega)]
  have k127:∀lo h,E lo 99 [.v (.string (bs l)),.v (.string (bs (c::d::u)))] h=some (.v (.int .i64 (-1)),h):=λlo h=>by rw[e99];simp only[go_sem,b99,Tryz.f99,k159]<;>rfl
  have q:decide ((0:Int)<= -1)=false:=rfl;rw[e73,hn];simp only[go_sem,b73,Tryz.f73,k127,q]<;>rfl
end
section
variable{lo:Nat}{h:JC}{done:List Int}{p0:V}{out sg:List Int}{sp:Bool}{x:Int}{s:ByteArray}{pos:Nat}
abbrev JMn(h:JC)(sg:List Int)(sp:Bool):Jj:=[(1,.v (.string (bs sg))),(2,.v (.bool sp)),(7,.ptr h.length 0),(11,.ptr (h.length+1) 0)]
theorem JSj(hlo:lo<=h.length)(hp:H0 h.length p0=true)(hsg:∀c∈sg,0<=c/\c<128)(hsl:sg.length<=1000000)(hs:JQ x=x)(hpos:pos<s.size)(hdec:Utf8.decode s pos=(x.toNat,(enc (JQ x)).length))(hl:out.length<=900000000):
  evCode ⟨Aa,E,lo,h.length,JRp⟩ JA ZJ (JMn h sg sp,H34 h p0 out s pos)=
   some (.normal,JMn h sg sp,H34 h (.ptr h.length 0) (out++ZQ sg sp x) s (pos+(enc (JQ x)).length)):=by
 obtain⟨hx0,hx1,_⟩:=(Hu x).1 hs;have hlo1:lo<=h.length+1:=om;have hxn:((x.toNat:Nat):Int)=x:=om;have hcl:=Jw x;have hel:=W8 (JQ x);have c87:=λlo hlo=>f128 (lo:=lo) (h:=H34 h p0 out s (pos+(enc (JQ x)).length)) hlo hx0 (r:=x) om
 have c87a:=c87 lo (by simp;omega)
 have c87b:=c87 h.length (by simp)
 have c87c:=c87 (h.length+2) (by simp)
 have c48:=λlo hlo=>f21 (lo:=lo) (p:=h) (q:=[.iter s (pos+(enc (JQ x)).length)]) (p0:=p0) (out:=out) hlo hp (s:=J1 x) (YK x) om om
 have c90:=λlo hlo=>JWL (lo:=lo) (p:=h) (q:=[.iter s (pos+(enc (JQ x)).length)]) (p0:=p0) (out:=out) hlo hp (r:=x) om om om
 have c91:=λlo hlo=>f132 (lo:=lo) (p:=h) (q:=[.iter s (pos+(enc (JQ x)).length)]) (p0:=p0) (out:=out) hlo hp (c:=92) om
 have c92:=λlo hlo=>JWL (lo:=lo) (p:=h) (q:=[.iter s (pos+(enc (JQ x)).length)]) (p0:= .ptr h.length 0) (out:=out++[92]) hlo KJ (r:=x) om om (by simp;omega)
 have c48a:=c48 lo hlo;have c48b:=c48 h.length (Ab _);have c90a:=c90 lo hlo;have c90b:=c90 h.length (Ab _);have c91a:=c91 lo hlo;have c91b:=c91 h.length (Ab _);have c92a:=c92 lo hlo;have c92b:=c92 h.length (Ab _);clear c87 c48 c90 c91 c92;have e1:(Utf8.decode s pos).1=x.toNat:=by rw[hdec]
 have e2:(Utf8.decode s pos).2=(enc (JQ x)).length:=by rw[hdec]
 have eu:Utf8.encode x=bs (enc (JQ x)):=by rw[jc hs,hs]
 have k88:=λlo h=>f129 (lo:=lo) (h:=h) (c:=x)
 have k92:=λlo h=>Jbd (lo:=lo) (h:=h) hsg hsl hs
 have e3:out++[92]++enc (JQ x)=out++92::enc (JQ x):=by simp
 rw[e3]at c92a c92b;have hsx:=hs;rw[<-hs]at k92;rw[hs]at k92
 have ks:∀lo h,E lo 73 [.v (.string (bs sg)),.v (.string (bs (enc (JQ x))))] h=some (.v (.bool (sg.contains x)),h):=λlo h=>by have:=k92 lo h;rw[hs];exact this
 clear k92;unfold ZQ
 cases qh:yb x with
 |true=>
  rw[qh]at k88
  simp only[go_sem,ZJ,JCX,Tryz.f103,hlo,hlo1,hpos,e1,e2,hxn,k88,c87a,c87b,c87c,c48a,c48b,if_true]<;>rfl
 |false=>
  rw[qh]at k88
  cases sp with
  |true=>
   cases q32:(x==32)with
   |true=>simp only[go_sem,ZJ,JCX,Tryz.f103,hlo,hlo1,hpos,e1,e2,hxn,k88,q32,c87a,c87b,c87c,c48a,c48b,if_true]<;>rfl
   |false=>
    cases qc:sg.contains x with
    |true=>
     rw[qc]at ks
     simp only[go_sem,ZJ,JCX,Tryz.f103,hlo,hlo1,hpos,e1,e2,hxn,k88,q32,eu,ks,c91a,c91b,c92a,c92b,if_true,Am,if_false]<;>rfl
    |false=>
     rw[qc]at ks
     simp only[go_sem,ZJ,JCX,Tryz.f103,hlo,hlo1,hpos,e1,e2,hxn,k88,q32,eu,ks,c90a,c90b,if_true,Am,if_false]<;>rfl
  |false=>
   cases qc:sg.contains x with
   |true=>
    rw[qc]at ks
    simp only[go_sem,ZJ,JCX,Tryz.f103,hlo,hlo1,hpos,e1,e2,hxn,k88,eu,ks,c91a,c91b,c92a,c92b,if_true,Am,if_false]<;>rfl
   |false=>rw[qc]at ks;simp only[go_sem,ZJ,JCX,Tryz.f103,hlo,hlo1,hpos,e1,e2,hxn,k88,eu,ks,c90a,c90b,if_true,Am,if_false]<;>rfl
theorem JWT(hlo:lo<=h.length)(hpos:¬pos<s.size):
  JA (evCode ⟨Aa,E,lo,h.length,JRp⟩ JA ZJ) (JMn h sg sp,H34 h p0 out s pos)=
   some (.exit 0,JMn h sg sp++[(12,.tup [.v (.bool false)]),(13,.v (.bool false))],H34 h p0 out s pos):=by
 have hlo1:lo<=h.length+1:=om;rw[loop_eq];simp only[go_sem,ZJ,JCX,Tryz.f103,hlo,hlo1,hpos]<;>rfl
theorem JWU(hlo:lo<=h.length)(hsg:∀c∈sg,0<=c/\c<128)(hsl:sg.length<=1000000):∀(l:List Int) (done:List Int) (p0:V) (out:List Int),(∀x∈l,JQ x=x)->H0 h.length p0=true->out.length+10*l.length<=900000000->
  ∃p1,H0 h.length p1=true/\JA (evCode ⟨Aa,E,lo,h.length,JRp⟩ JA ZJ) (JMn h sg sp,H34 h p0 out (bs (done++JJ l)) done.length)=
   some (.exit 0,JMn h sg sp++[(12,.tup [.v (.bool false)]),(13,.v (.bool false))],H34 h p1 (out++KS sg sp l) (bs (done++JJ l)) (done++JJ l).length):=by
 intro l
 induction l with
 |nil=>
  intro done p0 out _ hp _;refine⟨p0,hp,?_⟩
  have e:done++JJ []=done:=by simp[JJ]
  rw[e,JWT hlo (by rw[bs_size];omega)]
  simp[KS]
 |cons x l ih=>
  intro done p0 out hs hp hl;have hx:=hs x (by simp)
  have hel:=W8 x;have hcl:=ja sg sp x;have hdec:=JNr (pre:=done) (rest:=JJ l) hx;have e1:JJ (x::l)=enc x++JJ l:=by rw[KT,hx]
  simp only[Ae]at hl;obtain⟨p1,hp1,hL⟩:=ih (done++enc x) (.ptr h.length 0) (out++ZQ sg sp x) (λy hy=>hs y (by simp[hy])) KJ (by simp;omega)
  refine⟨p1,hp1,?_⟩
  rw[e1,<-Ao];rw[<-Ao]at hdec;rw[loop_eq,JSj hlo hp hsg hsl hx (by rw[bs_size];simp;omega) (by rw[hdec,hx]) om,JK,hx]
  have e3:done.length+(enc x).length=(done++enc x).length:=by simp
  have e4:KS sg sp (x::l)=ZQ sg sp x++KS sg sp l:=rfl;rw[e3,hL,e4,Ao]
theorem f103(hlo:lo<=h.length)(hsg:∀c∈sg,0<=c/\c<128)(hsl:sg.length<=1000000){l:List Int}(hs:∀x∈l,JQ x=x)(hl:l.length<=10000000):
  E lo 103 [.v (.string (bs (JJ l))),.v (.string (bs sg)),.v (.bool sp)] h=some (.v (.string (bs (KS sg sp l))),h):=by
 have hlen:=WT sg sp l;obtain⟨p1,hp1,hL⟩:=JWU (lo:=lo) (h:=h) (sp:=sp) hlo hsg hsl l [] (.v (.pointer none)) [] hs rfl (by simp;omega)
 rw[Ai,Ai,An]at hL;have k:=λlo hlo=>f24 (lo:=lo) (p:=h) (q:=[.iter (bs (JJ l)) (JJ l).length]) (p0:=p1) (out:=KS sg sp l) hlo (yd sg sp l) om
 have ka:=k lo hlo;have kb:=k h.length (Ab _);simp only[ZJ,JCX,Tryz.f103,JD,JT,JB,go_sem,Ko,H34,JMn,Al,Ai]at hL;rw[Jn4];simp only[go_sem,JCX,Tryz.f103,hlo,hL,ka,kb]<;>rfl
end
end Go.Lift.M1
end

section
open Go.Proofs
namespace Go.Lift.M1
variable[MX]
open Utf Tok Spell
section
variable{lo:Nat}{h:JC}{l:List Int}
theorem JNt:(⟨#[92,45]⟩:ByteArray)=bs [92,45]:=rfl
theorem YN(l:List Int):(JJ l).length<=4*l.length:=by
 induction l with
 |nil=>simp[JJ]
 |cons x l ih=>rw[KT,Ah,Ae];have:=W8 (JQ x);omega
variable[HasD][HasN]
theorem yf(hs:∀x∈l,JQ x=x)(h0:l.contains 0=false)(hl:l.length<=10000000):E lo 82 [.v (.string (bs (JJ l)))] h=some (.tup [.list .no (ri .i32 l),.v (.bool true)],h):=by
 have k:=f82 (lo:=lo) (h:=h) (l:=JJ l) (J8 l) (by have:=YN l;omega)
 have e1:zp (JJ l)=l:=by unfold zp;rw[JNq hs,h0,if_neg (by simp)]
 have e2:KD (JJ l)=true:=by unfold KD;rw[(Hv l).2,zm l hs,h0]<;>rfl
 rw[k,e1,e2]
theorem f81(hlo:lo<=h.length)(hs:∀x∈l,JQ x=x)(h0:l.contains 0=false)(hl:l.length<=10000000):E lo 81 [.v (.string (bs (JJ l)))] h=some (.v (.string (bs (Ja l))),h):=by
 have k42:=λlo h=>yf (lo:=lo) (h:=h) hs h0 hl
 have hb:=W1 (J8 l) JNo;have k43:=λlo hlo=>f83 (lo:=lo) (h:=h) hlo hl hs
 have k43a:=k43 lo hlo;have k43b:=k43 h.length (Ab _);clear k43;rw[e81];by_cases h45:l=[45]
 ·have q:(JJ l==[45])=true:=by rw[beq_iff_eq];exact(yc hs).2 h45
  rw[q]at hb;have e:Ja l=[92,45]:=by unfold Ja;rw[if_pos h45]
  rw[e];simp only[go_sem,b81,Tryz.f81,k42,QM,hb,JNt]<;>rfl
 have q:(JJ l==[45])=false:=by rw[beq_eq_false_iff_ne];exact λh=>h45 ((yc hs).1 h)
 rw[q]at hb;have hby:∀t:List Int,(Jl t).length<=10*t.length:=KV
 cases l with
 |nil=>
  have q1:decide ((0:Int)<0)=false:=rfl;have q2:decide ((1:Int)<0)=false:=rfl;have e:Ja []=Jl []:=rfl;rw[Ko]at k43a k43b k42;rw[e]
  simp only[go_sem,b81,Tryz.f81,k42,QM,hb,q1,q2,k43a,k43b]<;>rfl
 |cons x t=>
  have hx:=KO x;rw[hs x (by simp)]at hx
  have hst:∀y∈t,JQ y=y:=λy hy=>hs y (by simp[hy])
  have g0:(x::t)[0]? =some x:=rfl;have p1:decide ((0:Int)<((x::t).length:Int))=true:=by rw[decide_eq_true_iff];simp only[Ae];omega
  have p2:1<=(x::t).length:=by simp
  have ed:(x::t).drop 1=t:=rfl;have k100:=λlo h=>f106 (lo:=lo) (h:=h) (x:=x)
  simp only[Ae]at hl
  cases qd:dig x with
  |true=>
   rw[qd]at k100;have hx1:1<=x:=by simp[dig]at qd;omega
   have k105:=λlo hlo=>f111 (lo:=lo) (h:=h) hlo (x:=x) hx1 om
   have k105a:=k105 lo hlo;have k105b:=k105 h.length (Ab _);have kt:=λlo hlo=>f83 (lo:=lo) (h:=h) hlo (l:=t) om hst
   have kta:=kt lo hlo;have ktb:=kt h.length (Ab _);have e:Ja (x::t)=J1 x++Jl t:=by unfold Ja;rw[if_neg h45];simp only[qd,if_true]
   have z1:(bs (J1 x)).size+(bs (Jl t)).size<=9223372036854775807:=by rw[bs_size,bs_size];have:=Jw x;have:=hby t;omega
   rw[e];clear k43a k43b;generalize x::t=M at*
   simp only[go_sem,b81,Tryz.f81,k42,QM,hb,p1,g0,k100,k105a,k105b,p2,Ab,Q9,WA,ed,kta,ktb,Jb,z1]<;>rfl
  |false=>
   rw[qd]at k100
   cases t with
   |nil=>
    have p3:decide ((1:Int)<(([x]:List Int).length:Int))=false:=rfl;have e:Ja [x]=Jl [x]:=by unfold Ja;rw[if_neg h45];simp only[qd,Am,if_false]
    rw[e];generalize [x]=M at*
    simp only[go_sem,b81,Tryz.f81,k42,QM,hb,p1,g0,k100,p3,k43a,k43b]<;>rfl
   |cons y u=>
    have hy:=KO y;rw[hs y (by simp)]at hy
    have p3:decide ((1:Int)<((x::y::u).length:Int))=true:=by simp;omega
    have g1:(x::y::u)[1]? =some y:=rfl;have k100y:=λlo h=>f106 (lo:=lo) (h:=h) (x:=y)
    have e0:Ja (x::y::u)=if x=45/\dig y=true then 45::(J1 y++Jl u)else Jl (x::y::u):=by unfold Ja;rw[if_neg h45];simp only[qd,Am,if_false]
    cases qx:(x==45)with
    |false=>
     have e:Ja (x::y::u)=Jl (x::y::u):=by rw[e0,if_neg];simp at qx;simp[qx]
     rw[e];generalize x::y::u=M at*
     simp only[go_sem,b81,Tryz.f81,k42,QM,hb,p1,g0,k100,p3,qx,k43a,k43b]<;>rfl
    |true=>
     cases qy:dig y with
     |false=>
      rw[qy]at k100y;have e:Ja (x::y::u)=Jl (x::y::u):=by rw[e0,if_neg];simp[qy]
      rw[e];generalize x::y::u=M at*
      simp only[go_sem,b81,Tryz.f81,k42,QM,hb,p1,g0,g1,k100,p3,qx,k100y,k43a,k43b]<;>rfl
     |true=>
      rw[qy]at k100y;have hy1:1<=y:=by simp[dig]at qy;omega
      have e:Ja (x::y::u)=45::(J1 y++Jl u):=by rw[e0,if_pos ⟨by simpa using qx,qy⟩]
      simp only[Ae]at hl;have k105:=λlo hlo=>f111 (lo:=lo) (h:=h) hlo (x:=y) hy1 om
      have k105a:=k105 lo hlo;have k105b:=k105 h.length (Ab _);have kt:=λlo hlo=>f83 (lo:=lo) (h:=h) hlo (l:=u) om (λz hz=>hst z (by simp[hz]))
      have kta:=kt lo hlo;have ktb:=kt h.length (Ab _);have p4:2<=(x::y::u).length:=by simp
      have ed2:(x::y::u).drop 2=u:=rfl;have z1:(bs [45]).size+(bs (J1 y)).size<=9223372036854775807:=by rw[bs_size,bs_size];have:=Jw y;simp;omega
      have z2:(bs (45::J1 y)).size+(bs (Jl u)).size<=9223372036854775807:=by rw[bs_size,bs_size];have:=Jw y;have:=hby u;simp;omega
      rw[e];clear k43a k43b;generalize x::y::u=M at*;simp only[go_sem,b81,Tryz.f81,k42,QM,hb,p1,g0,g1,k100,p3,qx,k100y,k105a,k105b,p4,Ab,Q9,WA,ed2,kta,ktb,Jb,z1,z2,A1,Al]<;>rfl
end
end Go.Lift.M1
end

section
open Go.Proofs
namespace Go.Lift.M1
variable[MX][HasD][HasN]
open Utf Tok Spell
section
variable{lo:Nat}{h:JC}
theorem JSk:Utf8.encode 34=bs [34]:=jc (by decide)
theorem Jbe:Utf8.encode 39=bs [39]:=jc (by decide)
theorem Jbf:Utf8.encode 40=bs [40]:=jc (by decide)
theorem Jbg:Utf8.encode 41=bs [41]:=jc (by decide)
theorem JSl:Utf8.encode 92=bs [92]:=jc (by decide)
theorem JX5:AO.wrap 34=34:=rfl
theorem Jh1:AO.wrap 39=39:=rfl
theorem Jh2:AO.wrap 40=40:=rfl
theorem Jh3:AO.wrap 41=41:=rfl
theorem JX6:AO.wrap 92=92:=rfl
theorem JX7:(⟨#[34]⟩:ByteArray)=bs [34]:=rfl
theorem JX8:(⟨#[41]⟩:ByteArray)=bs [41]:=rfl
theorem JSm:(⟨#[117,114,108,40]⟩:ByteArray)=bs [117,114,108,40]:=rfl
abbrev sg5:List Int:=[34,92]
abbrev sg7:List Int:=[34,39,40,41,92]
theorem Jbh(hlo:lo<=h.length){l:List Int}(hl:l.length<=10000000)(hs:∀x∈l,JQ x=x):∀(m k:Nat) (out:List Int),k+m=l.length->out.length+10*m<=900000000->
  JA (evCode ⟨Aa,E,lo,h.length,h84⟩ JA JAg) ([(5,.v (.string (bs out))),(13,.list .no (ri .i32 l)),(14,.v (.int .i64 l.length)),(15,.v (.int .i64 k))],h)=
   some (.exit 0,[(5,.v (.string (bs (out++KS sg5 false (l.drop k))))),(13,.list .no (ri .i32 l)),(14,.v (.int .i64 l.length)),(15,.v (.int .i64 l.length)),(16,.v (.bool false))],h):=by
 intro m
 induction m with
 |zero=>
  intro k out hk _;obtain rfl:k=l.length:=om;have q:decide ((l.length:Int)<(l.length:Int))=false:=by simp
  rw[loop_eq,Be]
  simp only[go_sem,JAg,b84,Tryz.f84,q,KS,Av]<;>rfl
 |succ m ih=>
  intro k out hk ho;have hlt:k<l.length:=om;have hg:l[k]? =some l[k]:=Ac hlt
  have hd:l.drop k=l[k]::l.drop (k+1):=AD hlt;have hx:=hs l[k] (Ba hlt);have q:decide ((k:Int)<(l.length:Int))=true:=by simp;omega
  have w1:=JH (i:=k) om;have et:∀(x:Int) (t:List Int),KS sg5 false (x::t)=ZQ sg5 false x++KS sg5 false t:=λ_ _=>rfl
  rw[hd,et];generalize l[k]=x at*;have hx2:=KO x;rw[hx]at hx2;have hcl:=ja sg5 false x;have hel:=W8 (JQ x)
  have er:evCode ⟨Aa,E,lo,h.length,h84⟩ JA JAg ([(5,.v (.string (bs out))),(13,.list .no (ri .i32 l)),(14,.v (.int .i64 l.length)),(15,.v (.int .i64 k))],h)=some (.normal,[(5,.v (.string (bs (out++ZQ sg5 false x)))),(13,.list .no (ri .i32 l)),(14,.v (.int .i64 l.length)),(15,.v (.int .i64 (k+1:Nat)))],h):=by
   have k107:=λlo h=>f113 (lo:=lo) (h:=h) (c:=x)
   have k82:=λlo h=>f64 (lo:=lo) (h:=h) (x:=x)
   unfold ZQ
   cases qh:yb x with
   |true=>
    rw[qh]at k107;have k105:=λlo hlo=>f111 (lo:=lo) (h:=h) hlo (x:=x) (JHn qh) om
    have ka:=k105 lo hlo;have kb:=k105 h.length (Ab _);have z1:(bs out).size+(bs (J1 x)).size<=9223372036854775807:=by rw[bs_size,bs_size];have:=Jw x;omega
    simp only[go_sem,JAg,b84,Tryz.f84,q,hg,w1,k107,ka,kb,Jb,z1,if_true]<;>rfl
   |false=>
    rw[qh]at k107;have z0:∀c:Int,(bs out).size+(bs [92,c]).size<=9223372036854775807:=by intro c;rw[bs_size,bs_size];simp;omega
    have z3:∀c:Int,(bs [92]).size+(bs [c]).size<=9223372036854775807:=by intro c;rw[bs_size,bs_size];simp
    by_cases c1:x=34
    ·subst c1
     have e:(if(false||(false&&((34:Int)==32)))=true then J1 34 else if sg5.contains 34=true then 92::enc (JQ 34)else enc (JQ 34))=[92,34]:=by decide
     rw[e];simp only[go_sem,JAg,b84,Tryz.f84,Ap,q,hg,w1,k107,JSk,JX5,GY,Jb,z0,z3,A1]<;>rfl
    by_cases c2:x=92
    ·subst c2
     have e:(if(false||(false&&((92:Int)==32)))=true then J1 92 else if sg5.contains 92=true then 92::enc (JQ 92)else enc (JQ 92))=[92,92]:=by decide
     rw[e];simp only[go_sem,JAg,b84,Tryz.f84,Ap,q,hg,w1,k107,JSl,JX6,GY,Jb,z0,z3,A1]<;>rfl
    have q1:(x==34)=false:=by simp[c1]
    have q2:(x==92)=false:=by simp[c2]
    have e:sg5.contains x=false:=by simp[c1,c2]
    have z1:(bs out).size+(bs (enc (JQ x))).size<=9223372036854775807:=by rw[bs_size,bs_size];omega
    rw[e];simp only[go_sem,JAg,b84,Tryz.f84,q,hg,w1,k107,k82,q1,q2,Jb,z1,if_true,Am,if_false]<;>rfl
  rw[loop_eq,er,JK,ih (k+1) _ om (by simp;omega),Ao]
theorem f84(hlo:lo<=h.length){l:List Int}(hl:l.length<=10000000)(hs:∀x∈l,JQ x=x)(h0:l.contains 0=false):E lo 84 [.v (.string (bs (JJ l)))] h=some (.v (.string (bs (34::(KS sg5 false l++[34])))),h):=by
 have k42:=λlo h=>yf (lo:=lo) (h:=h) hs h0 hl
 have hL:=Jbh (lo:=lo) (h:=h) hlo hl hs l.length 0 [34] om (by simp;omega)
 have n0:((0:Nat):Int)=0:=rfl;have hlen:=WT sg5 false l;have z1:(bs (34::KS sg5 false l)).size+(bs [34]).size<=9223372036854775807:=by rw[bs_size,bs_size];simp;omega
 rw[Az,n0]at hL;simp only[JAg,b84,Tryz.f84,JD,JT,JB,go_sem,A1]at hL;rw[e84];simp only[go_sem,b84,Tryz.f84,k42,JX7,hL,Jb,z1,Al]<;>rfl
theorem Jbi(hlo:lo<=h.length){l:List Int}(hl:l.length<=10000000)(hs:∀x∈l,JQ x=x):∀(m k:Nat) (out:List Int),k+m=l.length->out.length+10*m<=900000000->
  JA (evCode ⟨Aa,E,lo,h.length,h85⟩ JA HO) ([(5,.v (.string (bs out))),(13,.list .no (ri .i32 l)),(14,.v (.int .i64 l.length)),(15,.v (.int .i64 k))],h)=
   some (.exit 0,[(5,.v (.string (bs (out++KS sg7 true (l.drop k))))),(13,.list .no (ri .i32 l)),(14,.v (.int .i64 l.length)),(15,.v (.int .i64 l.length)),(16,.v (.bool false))],h):=by
 intro m
 induction m with
 |zero=>
  intro k out hk _;obtain rfl:k=l.length:=om;have q:decide ((l.length:Int)<(l.length:Int))=false:=by simp
  rw[loop_eq,Be]
  simp only[go_sem,HO,b85,Tryz.f85,q,KS,Av]<;>rfl
 |succ m ih=>
  intro k out hk ho;have hlt:k<l.length:=om;have hg:l[k]? =some l[k]:=Ac hlt
  have hd:l.drop k=l[k]::l.drop (k+1):=AD hlt;have hx:=hs l[k] (Ba hlt);have q:decide ((k:Int)<(l.length:Int))=true:=by simp;omega
  have w1:=JH (i:=k) om;have et:∀(x:Int) (t:List Int),KS sg7 true (x::t)=ZQ sg7 true x++KS sg7 true t:=λ_ _=>rfl
  rw[hd,et];generalize l[k]=x at*;have hx2:=KO x;rw[hx]at hx2;have hcl:=ja sg7 true x;have hel:=W8 (JQ x)
  have er:evCode ⟨Aa,E,lo,h.length,h85⟩ JA HO ([(5,.v (.string (bs out))),(13,.list .no (ri .i32 l)),(14,.v (.int .i64 l.length)),(15,.v (.int .i64 k))],h)=some (.normal,[(5,.v (.string (bs (out++ZQ sg7 true x)))),(13,.list .no (ri .i32 l)),(14,.v (.int .i64 l.length)),(15,.v (.int .i64 (k+1:Nat)))],h):=by
   have k107:=λlo h=>f113 (lo:=lo) (h:=h) (c:=x)
   have k82:=λlo h=>f64 (lo:=lo) (h:=h) (x:=x)
   have z0:∀c:Int,(bs out).size+(bs [92,c]).size<=9223372036854775807:=by intro c;rw[bs_size,bs_size];simp;omega
   have z3:∀c:Int,(bs [92]).size+(bs [c]).size<=9223372036854775807:=by intro c;rw[bs_size,bs_size];simp
   have zc:(bs out).size+(bs (J1 x)).size<=9223372036854775807:=by rw[bs_size,bs_size];have:=Jw x;omega
   unfold ZQ
   cases qh:yb x with
   |true=>
    rw[qh]at k107;have k105:=λlo hlo=>f111 (lo:=lo) (h:=h) hlo (x:=x) (JHn qh) om
    have ka:=k105 lo hlo;have kb:=k105 h.length (Ab _)
    simp only[go_sem,HO,b85,Tryz.f85,q,hg,w1,k107,ka,kb,Jb,zc,if_true]<;>rfl
   |false=>
    rw[qh]at k107
    cases q32:(x==32)with
    |true=>
     have hx32:x=32:=by simpa using q32
     have k105:=λlo hlo=>f111 (lo:=lo) (h:=h) hlo (x:=x) om om
     have ka:=k105 lo hlo;have kb:=k105 h.length (Ab _)
     simp only[go_sem,HO,b85,Tryz.f85,q,hg,w1,k107,q32,ka,kb,Jb,zc,if_true]<;>rfl
    |false=>
     by_cases c1:x=34
     ·subst c1
      have e:(if(false||(true&&false))=true then J1 34 else if sg7.contains 34=true then 92::enc (JQ 34)else enc (JQ 34))=[92,34]:=by decide
      rw[e];simp only[go_sem,HO,b85,Tryz.f85,Ap,q,hg,w1,k107,JSk,JX5,GY,Jb,z0,z3,A1]<;>rfl
     by_cases c2:x=39
     ·subst c2
      have e:(if(false||(true&&false))=true then J1 39 else if sg7.contains 39=true then 92::enc (JQ 39)else enc (JQ 39))=[92,39]:=by decide
      rw[e];simp only[go_sem,HO,b85,Tryz.f85,Ap,q,hg,w1,k107,Jbe,Jh1,GY,Jb,z0,z3,A1]<;>rfl
     by_cases c3:x=40
     ·subst c3
      have e:(if(false||(true&&false))=true then J1 40 else if sg7.contains 40=true then 92::enc (JQ 40)else enc (JQ 40))=[92,40]:=by decide
      rw[e];simp only[go_sem,HO,b85,Tryz.f85,Ap,q,hg,w1,k107,Jbf,Jh2,GY,Jb,z0,z3,A1]<;>rfl
     by_cases c4:x=41
     ·subst c4
      have e:(if(false||(true&&false))=true then J1 41 else if sg7.contains 41=true then 92::enc (JQ 41)else enc (JQ 41))=[92,41]:=by decide
      rw[e];simp only[go_sem,HO,b85,Tryz.f85,Ap,q,hg,w1,k107,Jbg,Jh3,GY,Jb,z0,z3,A1]<;>rfl
     by_cases c5:x=92
     ·subst c5
      have e:(if(false||(true&&false))=true then J1 92 else if sg7.contains 92=true then 92::enc (JQ 92)else enc (JQ 92))=[92,92]:=by decide
      rw[e];simp only[go_sem,HO,b85,Tryz.f85,Ap,q,hg,w1,k107,JSl,JX6,GY,Jb,z0,z3,A1]<;>rfl
     have q1:(x==34)=false:=by simp[c1]
     have q2:(x==39)=false:=by simp[c2]
     have q3:(x==40)=false:=by simp[c3]
     have q4:(x==41)=false:=by simp[c4]
     have q5:(x==92)=false:=by simp[c5]
     have e:sg7.contains x=false:=by simp[c1,c2,c3,c4,c5]
     have z1:(bs out).size+(bs (enc (JQ x))).size<=9223372036854775807:=by rw[bs_size,bs_size];omega
     rw[e];simp only[go_sem,HO,b85,Tryz.f85,q,hg,w1,k107,k82,q32,q1,q2,q3,q4,q5,Jb,z1,if_true,Am,if_false]<;>rfl
  rw[loop_eq,er,JK,ih (k+1) _ om (by simp;omega),Ao]
theorem f85(hlo:lo<=h.length){l:List Int}(hl:l.length<=10000000)(hs:∀x∈l,JQ x=x)(h0:l.contains 0=false):E lo 85 [.v (.string (bs (JJ l)))] h=some (.v (.string (bs (117::114::108::40::(KS sg7 true l++[41])))),h):=by
 have k42:=λlo h=>yf (lo:=lo) (h:=h) hs h0 hl
 have hL:=Jbi (lo:=lo) (h:=h) hlo hl hs l.length 0 [117,114,108,40] om (by simp;omega)
 have n0:((0:Nat):Int)=0:=rfl;have hlen:=WT sg7 true l;have z1:(bs (117::114::108::40::KS sg7 true l)).size+(bs [41]).size<=9223372036854775807:=by rw[bs_size,bs_size];simp;omega
 rw[Az,n0]at hL;simp only[HO,b85,Tryz.f85,JD,JT,JB,go_sem,Al,Ai]at hL;rw[e85];simp only[go_sem,b85,Tryz.f85,k42,JX8,JSm,hL,Jb,z1,Al]<;>rfl
end
end Go.Lift.M1
end

section
open Go.Proofs
namespace Go.Lift.M1
variable[MX]
open Utf Tok Spell
section
variable{lo:Nat}{h:JC}{l:List Int}
def JMo:List Int->Bool
 |[]=>false
 |c::_=>c==45
theorem f152{b:List Int}(hy:By b)(hl:b.length<=1000000000):E lo 152 [.v (.string (bs b)),.v (.string (bs [45]))] h=some (.v (.bool (JMo b)),h):=by
 have s1:(bs [45]).size=1:=bs_size [45];have n1:((1:Nat):Int)=1:=rfl;rw[Joj]
 cases b with
 |nil=>
  have s0:(bs []).size=0:=rfl;have n0:((0:Nat):Int)=0:=rfl;have q:decide ((1:Int)<=0)=false:=rfl
  simp only[go_sem,JbB,Tryz.f152,s1,s0,n1,n0,q]<;>rfl
 |cons c t=>
  have sz:=bs_size (c::t);have q:decide ((1:Int)<=((c::t).length:Int))=true:=by rw[decide_eq_true_iff];simp only[Ae];omega
  have p2:1<=(c::t).length:=by simp
  have ed:((c::t).take 1).drop 0=[c]:=rfl;have hb:=W1 (a:=[c]) (b:=[45]) (λx hx=>by simp at hx;subst hx;exact hy _ (by simp)) JNo
  have e:([c]==[45])=(c==45):=by simp
  rw[e]at hb;have eh:JMo (c::t)=(c==45):=rfl;rw[eh];generalize c::t=M at*;simp only[go_sem,JbB,Tryz.f152,s1,n1,sz,q,p2,KN,ed,hb,A9]<;>rfl
theorem f127{b:List Int}(hy:By b)(hl:b.length<=1000000000):E lo 127 [.v (.string (bs b)),.v (.string (bs [45]))] h=some (.v (.bool (JMo b)),h):=by
 have k:=λlo h=>f152 (lo:=lo) (h:=h) hy hl
 rw[JoR];simp only[go_sem,Jhi,Tryz.f127,k]<;>rfl
theorem qC{x:Int}(h0:0<=x)(h1:x<=1114111):∃c t,enc x=c::t/\0<=c/\c<=255/\((x<128/\c=x/\t=[])\/(128<=x/\128<=c)):=by
 have hb:=zS x h0 h1;by_cases hx:x<128
 ·exact⟨x,[],Zz hx,h0,om,.inl ⟨hx,rfl,rfl⟩⟩
 ·obtain⟨c,t,e,_,hh⟩:=ZN om h1
  have hc:=hh c (by rw[e];simp)
  have hc2:=hb c (by rw[e];simp)
  exact⟨c,t,e,om,om,.inr ⟨om,hc⟩⟩
variable[HasD][HasN]
theorem f101(hlo:lo<=h.length)(hs:∀x∈l,JQ x=x)(hl:l.length<=10000000):E lo 101 [.v (.string (bs (JJ l)))] h=some (.v (.string (bs (Ja l))),h):=by
 have hby:=J8 l;have hel:=YN l;have hb:=W1 hby JNo;have k34:=λlo hlo=>f102 (lo:=lo) (h:=h) hlo hs hl
 have k34a:=k34 lo hlo;have k34b:=k34 h.length (Ab _);have k85:=λlo h=>f127 (lo:=lo) (h:=h) hby om
 have sz:=bs_size (JJ l);clear k34;rw[Jn2];by_cases h45:l=[45]
 ·have q:(JJ l==[45])=true:=by rw[beq_iff_eq];exact(yc hs).2 h45
  rw[q]at hb;have e:Ja l=[92,45]:=by unfold Ja;rw[if_pos h45]
  rw[e];simp only[go_sem,JMU,Tryz.f101,QM,hb,JNt]<;>rfl
 have q:(JJ l==[45])=false:=by rw[beq_eq_false_iff_ne];exact λh=>h45 ((yc hs).1 h)
 rw[q]at hb
 cases l with
 |nil=>
  have e0:JJ []=[]:=rfl;have q1:decide ((0:Int)<0)=false:=rfl;have n0:((0:Nat):Int)=0:=rfl;have e:Ja []=Jl []:=rfl;have eh:JMo []=false:=rfl;rw[e0]at hb k34a k34b k85 sz⊢;rw[e];rw[eh]at k85;rw[An]at sz
  simp only[go_sem,JMU,Tryz.f101,QM,hb,k85,sz,n0,q1,k34a,k34b]<;>rfl
 |cons x t=>
  have hx:=KO x;rw[hs x (by simp)]at hx
  have hst:∀y∈t,JQ y=y:=λy hy=>hs y (by simp[hy])
  obtain⟨c,tc,ec,hc0,hc1,hcx⟩:=qC hx.1 hx.2;have eB:JJ (x::t)=c::(tc++JJ t):=by rw[KT,hs x (by simp),ec]<;>rfl
  have wc:=wrap_i32 hc0 hc1;have k86:=λlo h=>H9 (lo:=lo) (h:=h) (c:=c)
  have n0:((0:Nat):Int)=0:=rfl;have p1:decide ((0:Int)<((JJ (x::t)).length:Int))=true:=by rw[eB,decide_eq_true_iff];simp only[Ae];omega
  have i0:=Kl hby 0;have g0:(JJ (x::t))[0]? =some c:=by rw[eB]<;>rfl
  rw[g0]at i0;have eh:JMo (JJ (x::t))=(c==45):=by rw[eB]<;>rfl
  rw[eh]at k85;simp only[Ae]at hl
  cases q45:(c==45)with
  |false=>
   rw[q45]at k85
   have hx45:x≠45:=by
    intro h;have:c≠45:=by simpa using q45
    omega
   cases qd:dig c with
   |false=>
    rw[qd]at k86
    have hdx:dig x=false:=by
     rcases hcx with⟨_,rfl,_⟩|⟨h1,_⟩
     ·exact qd
     ·exact Qe h1
    have e:Ja (x::t)=Jl (x::t):=by
     unfold Ja;rw[if_neg h45];simp only[hdx,Am,if_false]
     cases t with
     |nil=>rfl
     |cons y u=>simp only;rw[if_neg];simp[hx45]
    rw[e];clear eB g0;generalize JJ (x::t)=B at*
    simp only[go_sem,JMU,Tryz.f101,QM,hb,k85,sz,p1,i0,wc,k86,k34a,k34b]<;>rfl
   |true=>
    rw[qd]at k86
    obtain⟨hx128,rfl,rfl⟩:x<128/\c=x/\tc=[]:=by
     rcases hcx with h|⟨_,h⟩
     ·exact h
     ·rw[Qe h]at qd;cases qd
    have e:Ja (c::t)=J1 c++Jl t:=by unfold Ja;rw[if_neg h45];simp only[qd,if_true]
    have k87:=λlo hlo=>f128 (lo:=lo) (h:=h) hlo (r:=c) hx.1 om
    have k87a:=k87 lo hlo;have k87b:=k87 h.length (Ab _);have kt:=λlo hlo=>f102 (lo:=lo) (h:=h) hlo (l:=t) hst om
    have kta:=kt lo hlo;have ktb:=kt h.length (Ab _);have w1:Aq.wrap (0+1)=1:=rfl;have p2:1<=(JJ (c::t)).length:=by rw[eB];simp
    have ed0:((JJ (c::t)).take 0).drop 0=[]:=rfl;have ed:(JJ (c::t)).drop 1=JJ t:=by rw[eB]<;>rfl
    have z1:(bs []).size+(bs (J1 c)).size<=9223372036854775807:=by rw[bs_size,bs_size];have:=Jw c;simp;omega
    have z2:(bs (J1 c)).size+(bs (Jl t)).size<=9223372036854775807:=by rw[bs_size,bs_size];have:=Jw c;have:=KV t;omega
    rw[e];clear eB g0 k34a k34b;generalize JJ (c::t)=B at*
    simp only[go_sem,JMU,Tryz.f101,QM,hb,k85,sz,p1,i0,wc,k86,k87a,k87b,kta,ktb,w1,p2,Ab,A9,KN,ed0,ed,Jb,z1,z2,Ai]<;>rfl
  |true=>
   rw[q45]at k85;have hc45:c=45:=by simpa using q45
   obtain⟨hx128,rfl,rfl⟩:x<128/\c=x/\tc=[]:=by
    rcases hcx with h|⟨_,h⟩
    ·exact h
    ·omega
   subst hc45
   cases t with
   |nil=>exact absurd rfl h45
   |cons y u=>
    have hy:=KO y;rw[hst y (by simp)]at hy
    obtain⟨c1,t1,ec1,hd0,hd1,hdy⟩:=qC hy.1 hy.2;have eB2:JJ (45::y::u)=45::c1::(t1++JJ u):=by rw[eB,KT,hst y (by simp),ec1]<;>rfl
    have g1:(JJ (45::y::u))[1]? =some c1:=by rw[eB2]<;>rfl
    have i1:=Kl hby 1;rw[g1]at i1;have wd:=wrap_i32 hd0 hd1;have k86d:=λlo h=>H9 (lo:=lo) (h:=h) (c:=c1)
    have p3:decide ((1:Int)<((JJ (45::y::u)).length:Int))=true:=by rw[eB2,decide_eq_true_iff];simp only[Ae];omega
    have d45:dig 45=false:=rfl
    have e0:Ja (45::y::u)=if dig y=true then 45::(J1 y++Jl u)else Jl (45::y::u):=by unfold Ja;rw[if_neg h45];simp only[d45,Am,if_false,true_and]
    cases qd:dig c1 with
    |false=>
     rw[qd]at k86d
     have hdy2:dig y=false:=by
      rcases hdy with⟨_,rfl,_⟩|⟨h1,_⟩
      ·exact qd
      ·exact Qe h1
     have e:Ja (45::y::u)=Jl (45::y::u):=by rw[e0,if_neg (by simp[hdy2])]
     rw[e];clear eB g0 eB2 g1;generalize JJ (45::y::u)=B at*
     simp only[go_sem,JMU,Tryz.f101,QM,hb,k85,sz,p3,i1,wd,k86d,k34a,k34b]<;>rfl
    |true=>
     rw[qd]at k86d
     obtain⟨hy128,rfl,rfl⟩:y<128/\c1=y/\t1=[]:=by
      rcases hdy with h|⟨_,h⟩
      ·exact h
      ·rw[Qe h]at qd;cases qd
     have e:Ja (45::c1::u)=45::(J1 c1++Jl u):=by rw[e0,if_pos qd]
     simp only[Ae]at hl;have k87:=λlo hlo=>f128 (lo:=lo) (h:=h) hlo (r:=c1) hy.1 om
     have k87a:=k87 lo hlo;have k87b:=k87 h.length (Ab _);have kt:=λlo hlo=>f102 (lo:=lo) (h:=h) hlo (l:=u) (λz hz=>hst z (by simp[hz])) om
     have kta:=kt lo hlo;have ktb:=kt h.length (Ab _);have w1:Aq.wrap (1+1)=2:=rfl;have p2:1<=(JJ (45::c1::u)).length:=by rw[eB2];simp
     have p4:2<=(JJ (45::c1::u)).length:=by rw[eB2];simp
     have ed0:((JJ (45::c1::u)).take 1).drop 0=[45]:=by rw[eB2]<;>rfl
     have ed:(JJ (45::c1::u)).drop 2=JJ u:=by rw[eB2]<;>rfl
     have z1:(bs [45]).size+(bs (J1 c1)).size<=9223372036854775807:=by rw[bs_size,bs_size];have:=Jw c1;simp;omega
     have z2:(bs (45::J1 c1)).size+(bs (Jl u)).size<=9223372036854775807:=by rw[bs_size,bs_size];have:=Jw c1;have:=KV u;simp;omega
     rw[e];clear eB g0 eB2 g1 k34a k34b;generalize JJ (45::c1::u)=B at*;simp only[go_sem,JMU,Tryz.f101,QM,hb,k85,sz,p3,i1,wd,k86d,k87a,k87b,kta,ktb,w1,p2,p4,Ab,A9,KN,ed0,ed,Jb,z1,z2,A1,Al]<;>rfl
end
end Go.Lift.M1
end

section
open Go.Proofs
namespace Go.Lift.M1
variable[MX][HasD][HasN]
open Utf Tok Spell
section
variable{lo:Nat}{h:JC}{l:List Int}
def YX(b:List Int):List Int:=if JMo b=true then b.drop 1 else b
theorem f154{b:List Int}(hy:By b)(hl:b.length<=1000000000):E lo 154 [.v (.string (bs b)),.v (.string (bs [45]))] h=some (.v (.string (bs (YX b))),h):=by
 have k:=λlo h=>f152 (lo:=lo) (h:=h) hy hl
 have s1:(bs [45]).size=1:=bs_size [45];have n1:((1:Nat):Int)=1:=rfl;have sz:=bs_size b;unfold YX;rw[Jol]
 cases q:JMo b with
 |false=>
  rw[q]at k
  simp only[go_sem,JbD,Tryz.f154,k,Am,if_false]<;>rfl
 |true=>
  rw[q]at k
  have p2:1<=b.length:=by
   cases b with
   |nil=>cases q
   |cons c t=>simp
  have ed:((b.take b.length).drop 1)=b.drop 1:=by rw[BD]
  simp only[go_sem,JbD,Tryz.f154,k,s1,n1,sz,p2,KN,ed,Ab,if_true]<;>rfl
theorem f133{b:List Int}(hy:By b)(hl:b.length<=1000000000):E lo 133 [.v (.string (bs b)),.v (.string (bs [45]))] h=some (.v (.string (bs (YX b))),h):=by
 have k:=λlo h=>f154 (lo:=lo) (h:=h) hy hl
 rw[JoW];simp only[go_sem,Jhl,Tryz.f133,k]<;>rfl
def dg0:List Int->Bool
 |[]=>false
 |c::_=>dig c
theorem JWV(b:List Int):dg0 (YX b)=HY b:=by
 cases b with
 |nil=>rfl
 |cons y u=>
  by_cases hy:y=45
  ·subst hy
   cases u with
   |nil=>rfl
   |cons z v=>rfl
  ·have q:(y==45)=false:=by simp[hy]
   have e1:YX (y::u)=y::u:=by show(if(y==45)=true then(y::u).drop 1 else y::u)=y::u;simp only[q,Am,if_false]
   rw[e1];unfold HY dg0;simp only;rw[q,Aw,Bool.or_false]
theorem JWW{b:List Int}(hy:By b):By (YX b):=by
 unfold YX
 split
 ·exact λc hc=>hy c (List.mem_of_mem_drop hc)
 ·exact hy
theorem f104(hlo:lo<=h.length)(hs:∀x∈l,JQ x=x)(hn:l≠[])(hl:l.length<=10000000):E lo 104 [.v (.string (bs (JJ l)))] h=some (.v (.string (bs (YM l))),h):=by
 obtain⟨x,t,rfl⟩:∃x t,l=x::t:=by
  cases l with
  |nil=>exact absurd rfl hn
  |cons x t=>exact⟨x,t,rfl⟩
 have hby:=J8 (x::t);have hel:=YN (x::t);have k33:=λlo hlo=>f101 (lo:=lo) (h:=h) hlo hs hl
 have k33a:=k33 lo hlo;have k33b:=k33 h.length (Ab _);clear k33;have sz:=bs_size (JJ (x::t));have hx:=KO x;rw[hs x (by simp)]at hx
 have hst:∀y∈t,JQ y=y:=λy hy=>hs y (by simp[hy])
 obtain⟨c,tc,ec,hc0,hc1,hcx⟩:=qC hx.1 hx.2;have eB:JJ (x::t)=c::(tc++JJ t):=by rw[KT,hs x (by simp),ec]<;>rfl
 have i0:=Kl hby 0;have g0:(JJ (x::t))[0]? =some c:=by rw[eB]<;>rfl
 rw[g0]at i0;have wc:=wrap_i32 hc0 hc1;simp only[Ae]at hl;rw[JVn]
 have main:∀(m:Int),(m=101\/m=69)->c=m->
   E lo 104 [.v (.string (bs (JJ (x::t))))] h=some (.v (.string (bs (YM (x::t)))),h):=λm hm hcm=>by
  obtain⟨hx128,rfl,rfl⟩:x<128/\c=x/\tc=[]:=by
   rcases hcx with h|⟨_,h⟩
   ·exact h
   ·omega
  rw[Ai]at eB;have hbt:=J8 t;have k99:=λlo h=>f133 (lo:=lo) (h:=h) hbt (by have:=YN t;omega)
  have hT:=JWW hbt;have hdg:=JWV (JJ t);rw[JSh t hst]at hdg
  have hTl:(YX (JJ t)).length<=1000000000:=by
   have:=YN t;unfold YX
   split
   ·rw[List.length_drop];omega
   ·omega
  have t1:=Ky (YX (JJ t));have szT:=bs_size (YX (JJ t));have iT:=Kl hT 0;have k87:=λlo hlo=>f128 (lo:=lo) (h:=h) hlo (r:=c) hx.1 om
  have k87a:=k87 lo hlo;have k87b:=k87 h.length (Ab _);have kt:=λlo hlo=>f102 (lo:=lo) (h:=h) hlo (l:=t) hst om
  have kta:=kt lo hlo;have ktb:=kt h.length (Ab _);have p2:1<=(JJ (c::t)).length:=by rw[eB];simp
  have ed:(JJ (c::t)).drop 1=JJ t:=by rw[eB]<;>rfl
  have et:(JJ (c::t)).take (JJ (c::t)).length=JJ (c::t):=BD;have z2:(bs (J1 c)).size+(bs (Jl t)).size<=9223372036854775807:=by rw[bs_size,bs_size];have:=Jw c;have:=KV t;omega
  have eu:YM (c::t)=if((c==101||c==69)&&HY t)=true then J1 c++Jl t else Ja (c::t):=rfl
  have ec2:(c==101||c==69)=true:=by rcases hm with rfl|rfl<;>subst hcm<;>rfl
  rw[ec2,AB]at eu;rw[eu];clear eB g0 eu;generalize JJ (c::t)=B at*;generalize YX (JJ t)=T at*;rw[JVn]
  cases T with
  |nil=>
   have hx0:HY t=false:=hdg.symm;rw[hx0,if_neg (by simp)]
   rw[decide_eq_true rfl]at t1;rcases hm with rfl|rfl<;>subst hcm<;>
   simp only[go_sem,JR0,Tryz.f104,Ap,sz,i0,p2,Ab,KN,QM,et,ed,k99,t1,k33a,k33b]<;>rfl
  |cons z v=>
   rw[decide_eq_false (by simp)]at t1
   have hz:=hT z (by simp)
   have wz:=wrap_i32 hz.1 hz.2;have gz:(z::v)[0]? =some z:=rfl;rw[gz]at iT;have k86:=λlo h=>H9 (lo:=lo) (h:=h) (c:=z)
   have hdz:dig z=HY t:=hdg;rw[hdz]at k86;clear gz hdg hdz hT;generalize z::v=T at*
   cases qe:HY t with
   |true=>
    rw[qe]at k86;rw[if_pos rfl];rcases hm with rfl|rfl<;>subst hcm<;>
    simp only[go_sem,JR0,Tryz.f104,Ap,sz,szT,i0,iT,p2,Ab,KN,QM,et,ed,k99,t1,wz,wc,k86,k87a,k87b,kta,ktb,Jb,z2]<;>rfl
   |false=>
    rw[qe]at k86;rw[if_neg (by simp)]
    rcases hm with rfl|rfl<;>subst hcm<;>
    simp only[go_sem,JR0,Tryz.f104,Ap,sz,szT,i0,iT,p2,Ab,KN,QM,et,ed,k99,t1,wz,k86,k33a,k33b]<;>rfl
 rw[<-JVn];by_cases h1:c=101
 ·exact main 101 (.inl rfl) h1
 by_cases h2:c=69
 ·exact main 69 (.inr rfl) h2
 have q1:(c==101)=false:=by simp[h1]
 have q2:(c==69)=false:=by simp[h2]
 have hx2:(x==101||x==69)=false:=by
  rcases hcx with⟨_,rfl,_⟩|⟨h3,_⟩
  ·simp[h1,h2]
  ·simp;omega
 have eu:YM (x::t)=Ja (x::t):=by
  show(if((x==101||x==69)&&HY t)=true then J1 x++Jl t else Ja (x::t))=_
  rw[hx2]<;>rfl
 rw[eu,JVn];clear eB g0;generalize JJ (x::t)=B at*;simp only[go_sem,JR0,Tryz.f104,sz,i0,q1,q2,k33a,k33b]<;>rfl
theorem f86(hlo:lo<=h.length)(hs:∀x∈l,JQ x=x)(h0:l.contains 0=false)(hn:l≠[])(hl:l.length<=10000000):E lo 86 [.v (.string (bs (JJ l)))] h=some (.v (.string (bs (YM l))),h):=by
 have k42:=λlo h=>yf (lo:=lo) (h:=h) hs h0 hl
 have k41:=λlo hlo=>f81 (lo:=lo) (h:=h) hlo hs h0 hl
 have k41a:=k41 lo hlo;have k41b:=k41 h.length (Ab _);clear k41
 obtain⟨x,t,rfl⟩:∃x t,l=x::t:=by
  cases l with
  |nil=>exact absurd rfl hn
  |cons x t=>exact⟨x,t,rfl⟩
 have hx:=KO x;rw[hs x (by simp)]at hx
 have hst:∀y∈t,JQ y=y:=λy hy=>hs y (by simp[hy])
 have g0:(x::t)[0]? =some x:=rfl;simp only[Ae]at hl;have eu:YM (x::t)=if((x==101||x==69)&&HY t)=true then J1 x++Jl t else Ja (x::t):=rfl
 rw[eu]
 have main:∀(m:Int),(m=101\/m=69)->x=m->
   E lo 86 [.v (.string (bs (JJ (x::t))))] h=some (.v (.string (bs (if HY t=true then J1 x++Jl t else Ja (x::t)))),h):=λm hm hxm=>by
  have k105:=λlo hlo=>f111 (lo:=lo) (h:=h) hlo (x:=x) om om
  have k105a:=k105 lo hlo;have k105b:=k105 h.length (Ab _);have kt:=λlo hlo=>f83 (lo:=lo) (h:=h) hlo (l:=t) om hst
  have kta:=kt lo hlo;have ktb:=kt h.length (Ab _);have z1:(bs (J1 x)).size+(bs (Jl t)).size<=9223372036854775807:=by rw[bs_size,bs_size];have:=Jw x;have:=KV t;omega
  have p2:1<=(x::t).length:=by simp
  have ed:(x::t).drop 1=t:=rfl;have et:(x::t).take (x::t).length=x::t:=BD;have k100:=λlo h y=>f106 (lo:=lo) (h:=h) (x:=y)
  rw[e86]
  match t,hst with
  |[],_=>
   have q1:decide ((1:Int)<(([x]:List Int).length:Int))=false:=rfl;have q2:decide ((2:Int)<(([x]:List Int).length:Int))=false:=rfl;rw[if_neg (by simp[HY])]
   generalize ([x]:List Int)=M at*;rcases hm with rfl|rfl<;>subst hxm<;>
   simp only[go_sem,b86,Tryz.f86,Ap,k42,g0,q1,q2,k41a,k41b]<;>rfl
  |[y],hst=>
   have q1:decide ((1:Int)<(([x,y]:List Int).length:Int))=true:=rfl;have q2:decide ((2:Int)<(([x,y]:List Int).length:Int))=false:=rfl;have g1:([x,y]:List Int)[1]? =some y:=rfl;have ky:=λlo h=>k100 lo h y
   have ee:HY [y]=dig y:=by simp[HY]
   rw[ee]
   cases qd:dig y with
   |true=>
    rw[qd]at ky;rw[if_pos rfl];generalize ([x,y]:List Int)=M at*;generalize ([y]:List Int)=M2 at*;rcases hm with rfl|rfl<;>subst hxm<;>
    simp only[go_sem,b86,Tryz.f86,Ap,k42,g0,g1,q1,q2,ky,k105a,k105b,p2,Ab,Q9,WA,ed,et,kta,ktb,Jb,z1]<;>rfl
   |false=>
    rw[qd]at ky;rw[if_neg (by simp)]
    generalize ([x,y]:List Int)=M at*;rcases hm with rfl|rfl<;>subst hxm<;>
    simp only[go_sem,b86,Tryz.f86,Ap,k42,g0,g1,q1,q2,ky,k41a,k41b]<;>rfl
  |y::z::u,hst=>
   have q1:decide ((1:Int)<((x::y::z::u).length:Int))=true:=by simp;omega
   have q2:decide ((2:Int)<((x::y::z::u).length:Int))=true:=by simp;omega
   have g1:(x::y::z::u)[1]? =some y:=rfl;have g2:(x::y::z::u)[2]? =some z:=rfl;have ky:=λlo h=>k100 lo h y
   have kz:=λlo h=>k100 lo h z
   have ee:HY (y::z::u)=(dig y||y==45&&dig z):=rfl;rw[ee]
   cases qd:dig y with
   |true=>
    rw[qd]at ky;rw[B1,if_pos rfl];generalize x::y::z::u=M at*;generalize y::z::u=M2 at*;rcases hm with rfl|rfl<;>subst hxm<;>
    simp only[go_sem,b86,Tryz.f86,Ap,k42,g0,g1,q1,q2,ky,k105a,k105b,p2,Ab,Q9,WA,ed,et,kta,ktb,Jb,z1]<;>rfl
   |false=>
    rw[qd]at ky;rw[Bb]
    cases q45:(y==45)with
    |false=>
     rw[Aw,if_neg (by simp)]
     generalize x::y::z::u=M at*;rcases hm with rfl|rfl<;>subst hxm<;>
     simp only[go_sem,b86,Tryz.f86,Ap,k42,g0,g1,q1,q2,ky,q45,k41a,k41b]<;>rfl
    |true=>
     rw[AB]
     cases qz:dig z with
     |true=>
      rw[qz]at kz;rw[if_pos rfl];generalize x::y::z::u=M at*;generalize y::z::u=M2 at*;rcases hm with rfl|rfl<;>subst hxm<;>
      simp only[go_sem,b86,Tryz.f86,Ap,k42,g0,g1,g2,q1,q2,ky,q45,kz,k105a,k105b,p2,Ab,Q9,WA,ed,et,kta,ktb,Jb,z1]<;>rfl
     |false=>
      rw[qz]at kz;rw[if_neg (by simp)]
      generalize x::y::z::u=M at*;rcases hm with rfl|rfl<;>subst hxm<;>
      simp only[go_sem,b86,Tryz.f86,Ap,k42,g0,g1,g2,q1,q2,ky,q45,kz,k41a,k41b]<;>rfl
 by_cases h1:x=101
 ·have:=main 101 (.inl rfl) h1
  rw[this,show(x==101)=true by simp[h1],B1,AB]
 by_cases h2:x=69
 ·have:=main 69 (.inr rfl) h2
  rw[this,show(x==69)=true by simp[h2],Bool.or_true,AB]
 have q1:(x==101)=false:=by simp[h1]
 have q2:(x==69)=false:=by simp[h2]
 rw[q1,q2,Bb,Aw,if_neg (by simp),e86]
 generalize x::t=M at*;simp only[go_sem,b86,Tryz.f86,k42,g0,q1,q2,k41a,k41b]<;>rfl
end
end Go.Lift.M1
end
