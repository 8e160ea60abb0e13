/- (*rule.text).over, upto, values. -/
import Derived.Test.YtkmiddfplmnaoaaGreatDoorGKa
import Derived.Test.YtkmiddfplmnaoaaGreatDoorGK1Basea
import Derived.Test.YtkmiddfplmnaoaaGreatDoorGKb
open BitVec renaming ofInt->Al
open Bool renaming and_eq_true->Ah,and_true->Cq,false_eq_true->As,true_and->AR
open Go.IntKind renaming i32->Az,i64->Ak,u64->BP,u8->AX
open Go.Proofs.Tryz renaming prog->Aa
open Int renaming fdiv_eq_ediv_of_nonneg->Lc,le_refl->CZ,mul_assoc->DQ,mul_comm->C3,mul_le_mul_of_nonneg_left->De,mul_le_mul_of_nonneg_right->Cj,pow_pos->Lr,pow_succ->Cc
open List renaming all_nil->CQ,append_assoc->Aw,append_nil->Aq,cons_append->Ae,drop_eq_getElem_cons->AE,drop_eq_nil_of_le->A4,drop_length->Bw,drop_zero->AG,flatMap_cons->Md,flatMap_nil->Ms,getElem?_append_right->AL,getElem?_eq_getElem->Ad,getElem?_eq_none->Bi,getElem?_eq_some_iff->Ab,getElem?_map->Ao,getElem_mem->Bq,length_append->An,length_drop->Ay,length_nil->Am,length_pos_iff->Cg,length_singleton->Dk,mem_cons_self->Be,nil_append->Af
open Nat renaming add_assoc->Cr,add_sub_cancel_left->Bv,add_zero->Bl,le_refl->Ac,lt_or_ge->Ax,mul_one->BC
set_option linter.unusedVariables false
set_option linter.unusedSimpArgs false
set_option linter.unusedSectionVars false
set_option maxRecDepth 20000
set_option maxHeartbeats 4000000
section
open Go.Proofs
namespace Go.Lift.W1
open Rul
variable[MX]
variable{lo:Nat}{h:Heap}
def TX(H:Heap)(l:List Tk4)(E D:List Nat)(t:Nat):Prop:=
 ∃e d,H[e]? =some (.cells (nt E))/\H[d]? =some (.cells (nt D))/\H[t]? =some (.cells [.list .no (l.map row),.stk e l.length 1,.stk d l.length 1])
theorem TX.app{H:Heap}{l:List Tk4}{E' D:List Nat}{t:Nat}(h:TX H l E' D t)(q:Heap):TX (H++q) l E' D t:=by
 obtain⟨e,d,h1,h2,h3⟩:=h
 have k:∀{i:Nat} {x:Ob},H[i]? =some x->(H++q)[i]? =some x:=λhx=>by rw[List.getElem?_append_left (Ab.1 hx).1];exact hx
 exact⟨e,d,k h1,k h2,k h3⟩
theorem TX.of(p:Heap)(l:List Tk4)(E' D:List Nat)(q:Heap):TX (p++(tx p l E' D++q)) l E' D (p.length+2):=by
 refine⟨p.length,p.length+1,?_,?_,?_⟩
 ·rw[AL (Ac _),Nat.sub_self];rfl
 ·rw[AL om,Bv];rfl
 ·rw[AL om,Bv];rfl
theorem f28{l:List Tk4}{E' D:List Nat}{t a q:Nat}{x:Tk4}(hT:TX h l E' D t)(hlo:lo<=h.length)(hE:E'.length=l.length)(hl:l.length<=1000000000)(hb:E'.getD a 0<=l.length)(hg:l[a]? =some x):
  E lo 28 [.ptr t 0,.v (.int .i64 a),.v (.int .i64 q)] h=some (.v (.int .i64 ((if JN x.k=0 then a+1 else min (E'.getD a 0+1) q:Nat):Int)),h):=by
 obtain⟨e,d,h1,h2,h3⟩:=hT;have ha:a<l.length:=(Ab.1 hg).1
 have hgr:(l.map row)[a]? =some (row x):=by rw[Ao,hg];rfl
 have hw:=JD (i:=a) om;have c25:=f25 (lo:=lo) (h:=h) hlo x.k;have gE:=Gl (show a<E'.length by omega)
 have q2:(a:Int)<(l.length:Int):=om;have w2:Ak.wrap (((E'.getD a 0:Nat):Int)+1)=((E'.getD a 0+1:Nat):Int):=JD om
 have ex:(if(q:Int)<((E'.getD a 0+1:Nat):Int)then(q:Int)else((E'.getD a 0+1:Nat):Int))=((min (E'.getD a 0+1) q:Nat):Int):=by split<;>omega
 simp only[row]at hgr;rw[e28];by_cases hc:JN x.k=0
 ·have qc:(JN x.k==0)=true:=by simpa using hc
  rw[if_pos hc];simp only[go_sem,b28,Tryz.f28,hlo,h3,hgr,c25,qc,hw]<;>rfl
 ·have qc:(JN x.k==0)=false:=by simpa using hc
  rw[if_neg hc];simp only[go_sem,b28,Tryz.f28,hlo,h1,h3,hgr,c25,qc,gE,q2,w2,ex,BC]<;>rfl
abbrev N64(t p q:Nat)(ks:List Int)(fine:Bool):Ja:=[(0,.ptr t 0),(1,.v (.int .i64 p)),(2,.v (.int .i64 q)),(3,.list .no (ri .i64 ks)),(10,.v (.bool fine))]
abbrev M64(t p q:Nat)(ks:List Int)(fine:Bool)(i:Nat):Ja:=N64 t p q ks fine++[(16,.list .no (ri .i64 ks)),(17,.v (.int .i64 ks.length)),(18,.v (.int .i64 i))]
theorem JY3{l:List Tk4}{E' D:List Nat}{t p q i:Nat}{x:Tk4}{ks:List Int}{c:Int}{fine:Bool}(hT:TX h l E' D t)(hlo:lo<=h.length)(hks:ks.length<=1000)(hg:l[p]? =some x)(hi:ks[i]? =some c):
  evCode ⟨Aa,E,lo,h.length,h26⟩ JA y8 (M64 t p q ks fine i,h)=
   if x.k=c then some (.ret,[(8,.v (.int .i64 p)),(9,.v (.bool fine))],h)else some (.normal,M64 t p q ks fine (i+1),h):=by
 obtain⟨e,d,h1,h2,h3⟩:=hT;have hgr:(l.map row)[p]? =some (row x):=by rw[Ao,hg];rfl
 have hk:(ri .i64 ks)[i]? =some [.v (.int .i64 c)]:=by rw[JPS,hi];rfl
 have hlt:i<ks.length:=(Ab.1 hi).1
 have q1:decide ((i:Int)<(ks.length:Int))=true:=by simpa using hlt
 have hw:=JD (i:=i) om;have rl:=JGg .i64 ks;simp only[row]at hgr;simp only[M64,N64,Ae,Af];generalize ri .i64 ks=R at*;by_cases hc:x.k=c
 ·have qc:(x.k==c)=true:=by simpa using hc
  rw[if_pos hc];simp only[go_sem,y8,b26,Tryz.f26,hlo,h3,hgr,hk,q1,hw,qc]<;>rfl
 ·have qc:(x.k==c)=false:=by simpa using hc
  rw[if_neg hc];simp only[go_sem,y8,b26,Tryz.f26,hlo,h3,hgr,hk,q1,hw,qc]<;>rfl
theorem JUD{t p q:Nat}{ks:List Int}{fine:Bool}(hlo:lo<=h.length):
  evCode ⟨Aa,E,lo,h.length,h26⟩ JA y8 (M64 t p q ks fine ks.length,h)=some (.exit 2,M64 t p q ks fine ks.length++[(19,.v (.bool false))],h):=by
 have q1:decide ((ks.length:Int)<(ks.length:Int))=false:=by simp
 simp only[M64,N64,Ae,Af,go_sem,y8,b26,Tryz.f26,hlo,q1]<;>rfl
theorem JMT{l:List Tk4}{E' D:List Nat}{t p q:Nat}{x:Tk4}{ks:List Int}{fine:Bool}(hT:TX h l E' D t)(hlo:lo<=h.length)(hks:ks.length<=1000)(hg:l[p]? =some x):∀(m i:Nat),i+m=ks.length->
  JA (evCode ⟨Aa,E,lo,h.length,h26⟩ JA y8) (M64 t p q ks fine i,h)=
   if(ks.drop i).contains x.k=true then some (.ret,[(8,.v (.int .i64 p)),(9,.v (.bool fine))],h)else some (.exit 2,M64 t p q ks fine ks.length++[(19,.v (.bool false))],h)
 |0,i,hm=>by
  obtain rfl:i=ks.length:=om
  rw[Bw,if_neg (by simp),JB,JUD hlo,KP]
 |m+1,i,hm=>by
  have hlt:i<ks.length:=om;have hd:ks.drop i=ks[i]::ks.drop (i+1):=AE hlt;rw[hd,List.contains_cons,JB,JY3 hT hlo hks hg (Ad hlt)]
  by_cases hc:x.k=ks[i]
  ·rw[if_pos hc,Wo,if_pos (by simp[hc])]
  ·rw[if_neg hc,JK,JMT hT hlo hks hg m (i+1) om]
   have:(x.k==ks[i])=false:=by simpa using hc
   rw[this,Bool.false_or]
theorem JUG{l:List Tk4}{E' D:List Nat}{t p q:Nat}{x:Tk4}{ks:List Int}{fine:Bool}(hT:TX h l E' D t)(hlo:lo<=h.length)(hks:ks.length<=1000)(hE:E'.length=l.length)(hD:D.length=l.length)(hl:l.length<=1000000000)(hb:E'.getD p 0<=l.length)(hg:l[p]? =some x)(hpq:p<q):
  evCode ⟨Aa,E,lo,h.length,h26⟩ JA y7 (N64 t p q ks fine,h)=
   if ks.contains x.k=true then some (.ret,[(8,.v (.int .i64 p)),(9,.v (.bool fine))],h)
   else some (.normal,N64 t (if JN x.k=0 then p+1 else min (E'.getD p 0+1) q) q ks (fine&&decide (D.getD p 0<=64)),h):=by
 have hK:=JMT (q:=q) (fine:=fine) hT hlo hks hg ks.length 0 om;have c28:=f28 (q:=q) hT hlo hE hl hb hg;have hT0:=hT;obtain⟨e,d,h1,h2,h3⟩:=hT;have n0:((0:Nat):Int)=0:=rfl;have q1:decide ((p:Int)<(q:Int))=true:=by simpa using hpq
 have rl:=JGg .i64 ks;have hp:p<l.length:=(Ab.1 hg).1
 have gD:=Gl (show p<D.length by omega)
 have q2:(p:Int)<(l.length:Int):=om;have eD:decide (((D.getD p 0:Nat):Int)<=64)=decide (D.getD p 0<=64):=by rw[decide_eq_decide];omega
 generalize (if JN x.k=0 then p+1 else min (E'.getD p 0+1) q)=p' at*
 rw[AG]at hK
 cases hc:ks.contains x.k with
 |true=>
  rw[hc,if_pos rfl]at hK;rw[if_pos rfl];simp only[y8,b26,Tryz.f26,JG,JT,JC,go_sem,M64,N64,n0,Ae,Af]at hK
  simp only[N64,go_sem,y7,b26,Tryz.f26,hlo,q1,hK,rl]<;>rfl
 |false=>
  rw[hc,if_neg (by simp)]at hK
  rw[if_neg (by simp)]
  simp only[y8,b26,Tryz.f26,JG,JT,JC,go_sem,M64,N64,n0,Ae,Af]at hK
  cases fine with
  |true=>
   rw[AR]
   simp only[N64,go_sem,y7,b26,Tryz.f26,hlo,q1,hK,rl,h2,h3,gD,q2,eD,c28,BC]<;>rfl
  |false=>rw[Bool.false_and];simp only[N64,go_sem,y7,b26,Tryz.f26,hlo,q1,hK,rl,h2,h3,gD,q2,eD,c28,BC]<;>rfl
theorem JY4{t q:Nat}{ks:List Int}{fine:Bool}(hlo:lo<=h.length):
  evCode ⟨Aa,E,lo,h.length,h26⟩ JA y7 (N64 t q q ks fine,h)=some (.exit 0,N64 t q q ks fine++[(15,.v (.bool false))],h):=by
 have q1:decide ((q:Int)<(q:Int))=false:=by simp
 simp only[N64,go_sem,y7,b26,Tryz.f26,hlo,q1]<;>rfl
theorem JQv{l:List Tk4}{E' D:List Nat}{t q:Nat}{ks:List Int}(hT:TX h l E' D t)(hlo:lo<=h.length)(hks:ks.length<=1000)(hE:E'.length=l.length)(hD:D.length=l.length)(hl:l.length<=1000000000)(hb:∀p,E'.getD p 0<=l.length):∀(G:List PV) (p:Nat) (fine:Bool),LaidAt l E' D p q G->
  JA (evCode ⟨Aa,E,lo,h.length,h26⟩ JA y7) (N64 t p q ks fine,h)=
   if(G.dropWhile (JX ks)).isEmpty=true then some (.exit 0,N64 t q q ks (fine&&(G.takeWhile (JX ks)).all λv=>decide (kb v<=64))++[(15,.v (.bool false))],h)
   else some (.ret,[(8,.v (.int .i64 ((p+(toksL (G.takeWhile (JX ks))).length:Nat):Int))),(9,.v (.bool (fine&&(G.takeWhile (JX ks)).all λv=>decide (kb v<=64))))],h)
 |[],p,fine,hA=>by
  obtain rfl:=hA.nil
  rw[JB,JY4 hlo,KP,List.takeWhile_nil,List.dropWhile_nil,List.isEmpty_nil,if_pos rfl,CQ,Cq]
 |v::r,p,fine,hA=>by
  rw[JB,JUG hT hlo hks hE hD hl (hb p) hA.head hA.lt,hA.over,hA.deep];rw[List.takeWhile_cons,List.dropWhile_cons]
  cases hc:ks.contains v.t.k with
  |true=>
   have hn:JX ks v=false:=by unfold JX;rw[hc];rfl
   rw[if_pos rfl,Wo,hn]
   simp only[As,if_false,List.isEmpty_cons,CQ,Cq,toksL,Am,Bl]
  |false=>
   have hn:JX ks v=true:=by unfold JX;rw[hc];rfl
   rw[if_neg (by simp),JK,hn,JQv hT hlo hks hE hD hl hb r _ _ hA.tail]
   simp only[if_true,List.all_cons,Bool.and_assoc,QZ,An,Cr]
theorem f26{l:List Tk4}{E' D:List Nat}{t p q:Nat}{ks:List Int}{G:List PV}(hT:TX h l E' D t)(hlo:lo<=h.length)(hks:ks.length<=1000)(hE:E'.length=l.length)(hD:D.length=l.length)(hl:l.length<=1000000000)(hb:∀p,E'.getD p 0<=l.length)(hA:LaidAt l E' D p q G):
  E lo 26 [.ptr t 0,.v (.int .i64 p),.v (.int .i64 q),.list .no (ri .i64 ks)] h=some (.tup [.v (.int .i64 ((p+(toksL (G.takeWhile (JX ks))).length:Nat):Int)),.v (.bool (!Jf 64 (Jh (G.takeWhile (JX ks)))))],h):=by
 have hL:=JQv hT hlo hks hE hD hl hb G p true hA;have hf:=(hA.front (JX ks)).fine (n:=64);have hc:=hA.cut (JX ks);simp only[AR,hf]at hL;rw[e26];simp only[y7,b26,Tryz.f26,JG,JT,JC,go_sem,N64,Ae,Af]at hL
 cases hd:(G.dropWhile (JX ks)).isEmpty with
 |true=>
  rw[hd,if_pos rfl]at hL;rw[List.isEmpty_iff.1 hd]at hc;rw[hc.nil]
  simp only[go_sem,b26,Tryz.f26,hlo,hL]<;>rfl
 |false=>
  rw[hd,if_neg (by simp)]at hL
  simp only[go_sem,b26,Tryz.f26,hlo,hL]<;>rfl
theorem JOG(l:List Tk4)(p q:Nat):((l.map row).take q).drop p=((l.take q).drop p).map row:=by rw[List.map_drop,List.map_take]
theorem f29{l:List Tk4}{E' D:List Nat}{t p q:Nat}{G:List PV}(hT:TX h l E' D t)(hlo:lo<=h.length)(hl:l.length<=1000000000)(hA:LaidAt l E' D p q G):
  E lo 29 [.ptr t 0,.v (.int .i64 p),.v (.int .i64 q)] h=some (.list .no (JH (trim (Jh G))),h):=by
 obtain⟨e,d,h1,h2,h3⟩:=hT;have hpq:p<=q:=by have:=hA.len;omega
 have hql:q<=l.length:=hA.le;have hv:=hA.vals;have hsl:((l.take q).drop p).length<=1000000000:=by rw[Ay,List.length_take];omega
 have c47:=f47 (lo:=lo) (h:=h) (l:=(l.take q).drop p) hlo hsl;rw[hv]at c47
 have hcl:(Jh G).length<=1000000000:=by
  have h5:=hA.len
  have:∀F:List PV,F.length<=(toksL F).length:=λF=>by
   induction F with
   |nil=>simp
   |cons v r ih=>rw[QZ,An,List.length_cons];have:=qz v;omega
  have:=this G;rw[JGm];omega
 have c46:=f46 (lo:=lo) (h:=h) (l:=Jh G) hlo hcl;have ra:=JTt l;have rs:=JOG l p q;rw[e29];simp only[go_sem,b29,Tryz.f29,hlo,h3,hpq,hql,ra,rs,c47,c46,List.length_map]<;>rfl
end Go.Lift.W1
end

section
open Go.Proofs
namespace Go.Lift.W1.T
variable[MX]
open Utf Tok
theorem f54{lo:Nat}{c:Int}{h:Heap}:E lo 54 [.v (.int .i32 c)] h=some (.v (.bool (Jn c)),h):=by rw[e54];simp only[go_sem,b54,Tryz.f54,Jn]
theorem f89{lo:Nat}{c:Int}{h:Heap}:E lo 89 [.v (.int .i32 c)] h=some (.v (.bool (JH5 c)),h):=by rw[e89];simp only[go_sem,b89,Tryz.f89,JH5]
theorem f57{lo:Nat}{c:Int}{h:Heap}:E lo 57 [.v (.int .i32 c)] h=some (.v (.bool (j8 c)),h):=by rw[e57];simp only[go_sem,b57,Tryz.f57,f89,f54,j8]
theorem f50{lo:Nat}{c:Int}{h:Heap}:E lo 50 [.v (.int .i32 c)] h=some (.v (.bool (blk c)),h):=by rw[e50];simp only[go_sem,b50,Tryz.f50,blk]
theorem f102{lo:Nat}{c:Int}{h:Heap}(h0: -1<=c)(h1:c<=1114111):E lo 102 [.v (.int .i32 c)] h=some (.v (.int .i32 (hex c)),h):=by
 rw[JlX];have w1:Az.wrap (c-48)=c-48:=wrap_i32 om om;have w2:Az.wrap (c-97)=c-97:=wrap_i32 om om;have w3:Az.wrap (c-97+10)=c-97+10:=wrap_i32 om om;have w4:Az.wrap (c-65)=c-65:=wrap_i32 om om;have w5:Az.wrap (c-65+10)=c-65+10:=wrap_i32 om om;unfold hex
 cases hd:Jn c with
 |true=>simp only[go_sem,JQh,Tryz.f102,f54,hd,w1]
 |false=>
  cases ha:decide (97<=c)&&decide (c<=102)with
  |true=>simp only[go_sem,JQh,Tryz.f102,f54,hd,ha,w2,w3,As]
  |false=>
   cases hb:decide (65<=c)&&decide (c<=70)with
   |true=>simp only[go_sem,JQh,Tryz.f102,f54,hd,ha,hb,w4,w5,As]
   |false=>simp only[go_sem,JQh,Tryz.f102,f54,hd,ha,hb,As]
def suf(l:List Int)(i:Nat):List Int:=(l.map KQ).drop i
abbrev R(l:List Int)(i:Nat):Ob:= .cells [.list .no (ri .i32 l),.v (.int .i64 i)]
theorem Gb(l:List Int)(i k:Nat):chr (suf l i) k=match l[i+k]? with
  |some x=>KQ x
  |none=> -1:=by
 unfold chr suf;rw[List.getElem?_drop,Ao]
 cases l[i+k]? <;>rfl
theorem JGs(l:List Int)(i k:Nat): -1<=chr (suf l i) k/\chr (suf l i) k<=1114111:=by
 rw[Gb]
 cases l[i+k]? with
 |none=>simp
 |some x=>have:=ZQ x;simp only;omega
section
variable{lo i:Nat}{l:List Int}{p q:List Ob}
theorem f32{k:Nat}(hi:i+k<=1000000000000):E lo 32 [.ptr p.length 0,.v (.int .i64 k)] (p++R l i::q)=some (.v (.int .i32 (chr (suf l i) k)),p++R l i::q):=by
 have hw:Ak.wrap ((i:Int)+k)=((i+k:Nat):Int):=by rw[JL om om];omega
 rw[e32,Gb];by_cases hl:i+k<l.length
 ·have hx:l[i+k]? =some l[i+k]:=Ad hl
  have hd:decide ((l.length:Int)<=(i+k:Nat))=false:=by simp;omega
  rw[hx];generalize l[i+k]=x at hx;simp only[go_sem,b32,Tryz.f32,hw,hd,hx];rfl
 ·have hx:l[i+k]? =none:=Bi om
  have hd:decide ((l.length:Int)<=(i+k:Nat))=true:=by simp;omega
  rw[hx];simp only[go_sem,b32,Tryz.f32,hw,hd,hx]
theorem f63(hlo:lo<=p.length)(hi:i+1<=1000000000000):E lo 63 [.ptr p.length 0] (p++R l i::q)=some (.v (.int .i32 (chr (suf l i) 0)),p++R l (i+1)::q):=by
 have hw:=JD (i:=i) om;have k0:=λlo p q=>f32 (lo:=lo) (l:=l) (i:=i) (p:=p) (q:=q) (k:=0) om
 simp only[n0]at k0;rw[e63];simp only[go_sem,b63,Tryz.f63,k0,hw,hlo]
theorem f58{k:Nat}(hi:i+k+1<=1000000000000):E lo 58 [.ptr p.length 0,.v (.int .i64 k)] (p++R l i::q)=some (.v (.bool (Gi (chr (suf l i) k) (chr (suf l i) (k+1)))),p++R l i::q):=by
 have hw:=JD (i:=k) om;have k0:=λlo p q=>f32 (lo:=lo) (l:=l) (i:=i) (p:=p) (q:=q) (k:=k) om
 have k1:=λlo p q=>f32 (lo:=lo) (l:=l) (i:=i) (p:=p) (q:=q) (k:=k+1) om
 rw[e58];simp only[go_sem,b58,Tryz.f58,hw,k0,k1,Gi]
theorem f55{k:Nat}(hi:i+k+2<=1000000000000):E lo 55 [.ptr p.length 0,.v (.int .i64 k)] (p++R l i::q)=some (.v (.bool (num (chr (suf l i) k) (chr (suf l i) (k+1)) (chr (suf l i) (k+1+1)))),p++R l i::q):=by
 have hw:=JD (i:=k) om;have hw2:Ak.wrap (((k+1:Nat):Int)+1)=((k+1+1:Nat):Int):=JD om;have k0:=λlo p q=>f32 (lo:=lo) (l:=l) (i:=i) (p:=p) (q:=q) (k:=k) om
 have k1:=λlo p q=>f32 (lo:=lo) (l:=l) (i:=i) (p:=p) (q:=q) (k:=k+1) om
 have k2:=λlo p q=>f32 (lo:=lo) (l:=l) (i:=i) (p:=p) (q:=q) (k:=k+1+1) om
 rw[e55];generalize chr (suf l i) k=a at k0
 cases ha:a==43||a==45 with
 |true=>simp only[go_sem,b55,Tryz.f55,hw,hw2,k0,k1,k2,f54,ha,num]
 |false=>simp only[go_sem,b55,Tryz.f55,hw,hw2,k0,k1,k2,f54,ha,num,As]
theorem f59{k:Nat}(hi:i+k+2<=1000000000000):E lo 59 [.ptr p.length 0,.v (.int .i64 k)] (p++R l i::q)=some (.v (.bool (beg (chr (suf l i) k) (chr (suf l i) (k+1)) (chr (suf l i) (k+1+1)))),p++R l i::q):=by
 have hw:=JD (i:=k) om;have k0:=λlo p q=>f32 (lo:=lo) (l:=l) (i:=i) (p:=p) (q:=q) (k:=k) om
 have k1:=λlo p q=>f32 (lo:=lo) (l:=l) (i:=i) (p:=p) (q:=q) (k:=k+1) om
 have g0:=λlo p q=>f58 (lo:=lo) (l:=l) (i:=i) (p:=p) (q:=q) (k:=k) om
 have g1:=λlo p q=>f58 (lo:=lo) (l:=l) (i:=i) (p:=p) (q:=q) (k:=k+1) om
 rw[e59];generalize chr (suf l i) k=a at k0 g0
 cases ha:a==45 with
 |true=>simp only[go_sem,b59,Tryz.f59,hw,k0,k1,g0,g1,f89,ha,beg]
 |false=>simp only[go_sem,b59,Tryz.f59,hw,k0,k1,g0,g1,f89,ha,beg,As]
theorem Jb{i:Nat}(hi:i<l.length):suf l i=chr (suf l i) 0::suf l (i+1):=by
 have h1:i<(l.map KQ).length:=by simpa using hi
 rw[Gb];unfold suf;have e:l[i+0]? =some l[i]:=Ad hi
 rw[AE h1,e];simp
theorem JV{i:Nat}(hi:l.length<=i):suf l i=[]:=A4 (by simpa using hi)
theorem Jv(l:List Int)(i:Nat):(suf l i).length=l.length-i:=by simp[suf]
theorem JQw(hlo:lo<=p.length)(hl:l.length<=100000000000):∀(n i:Nat),l.length-i<=n->i<=l.length->
  ∃j,j<=l.length/\i<=j/\suf l j=Kb (suf l i)/\
   JA (evCode ⟨Aa,E,lo,(p++R l i::q).length,h51⟩ JA JDh) ([(0,.ptr p.length 0)],p++R l i::q)=some (.exit 0,[(0,.ptr p.length 0),(4,.v (.bool false))],p++R l j::q):=by
 intro n
 induction n with
 |zero=>
  intro i h1 h2;obtain rfl:i=l.length:=om;have k0:=λlo p q=>f32 (lo:=lo) (l:=l) (i:=l.length) (p:=p) (q:=q) (k:=0) om
  have hs:suf l l.length=[]:=JV (Ac _);have hc:blk (chr [] 0)=false:=by decide
  simp only[n0,hs]at k0;refine⟨l.length,Ac _,Ac _,by rw[hs];rfl,?_⟩
  rw[JB]
  simp only[go_sem,JDh,b51,Tryz.f51,k0,f50,hc]
 |succ n ih=>
  intro i h1 h2;have k0:=λlo p q=>f32 (lo:=lo) (l:=l) (i:=i) (p:=p) (q:=q) (k:=0) om
  simp only[n0]at k0;have hw:=JD (i:=i) om
  cases hb:blk (chr (suf l i) 0)with
  |false=>
   refine⟨i,h2,Ac _,?_,?_⟩
   ·by_cases hi:i<l.length
    ·rw[Jb hi]at hb⊢
     exact(List.dropWhile_cons_of_neg (by simpa[chr]using hb)).symm
    ·rw[JV om];rfl
   ·rw[JB]
    simp only[go_sem,JDh,b51,Tryz.f51,k0,f50,hb]
  |true=>
   have hi:i<l.length:=by
    rcases Ax i l.length with h|h
    ·exact h
    ·rw[JV h]at hb;exact absurd hb (by decide)
   obtain⟨j,j1,j2,j3,j4⟩:=ih (i+1) om om;refine⟨j,j1,om,?_,?_⟩
   ·rw[j3,Jb hi]
    exact(List.dropWhile_cons_of_pos (by simpa using hb)).symm
   ·rw[JB]
    have e:evCode ⟨Aa,E,lo,(p++R l i::q).length,h51⟩ JA JDh ([(0,.ptr p.length 0)],p++R l i::q)=some (.normal,[(0,.ptr p.length 0)],p++R l (i+1)::q):=by simp only[go_sem,JDh,b51,Tryz.f51,k0,f50,hb,hw,hlo]
    rw[e,JK];simp only[G6,ZO]at j4⊢;exact j4
end
section
variable{lo i:Nat}{l:List Int}{p q:List Ob}
theorem Gc{l:List Int}{i j:Nat}(hi:i<=l.length)(hj:j<=l.length)(h:suf l i=suf l j):i=j:=by have h1:=Jv l i;have h2:=Jv l j;rw[h,h2]at h1;omega
theorem f51(hl:l.length<=100000000000)(hi:i<=l.length):∃j,j<=l.length/\i<=j/\suf l j=Kb (suf l i)/\
  ∀lo p q,lo<=p.length->E lo 51 [.ptr p.length 0] (p++R l i::q)=some (.tup [],p++R l j::q):=by
 obtain⟨j,j1,j2,j3,_⟩:=JQw (lo:=0) (p:=[]) (q:=[]) (l:=l) (Ac _) hl l.length i om hi;refine⟨j,j1,j2,j3,λlo p q hlo=>?_⟩
 obtain⟨j',j1',j2',j3',hL⟩:=JQw (lo:=lo) (p:=p) (q:=q) (l:=l) hlo hl l.length i om hi;obtain rfl:j'=j:=Gc j1' j1 (by rw[j3',j3])
 rw[e51];simp only[JDh,b51,Tryz.f51,JG,JT,JC,go_sem]at hL;simp only[go_sem,b51,Tryz.f51,hL]
def isN(s:List Int):Nat->List Int->Bool
 |_,[]=>true
 |j,c::t=>chr s j==c&&isN s (j+1) t
theorem JY5{cs:List Int}(hi:i+cs.length<=1000000000000):∀(n j:Nat),n=cs.length-j->j<=cs.length->
  JA (evCode ⟨Aa,E,lo,(p++R l i::q).length,h49⟩ JA JBU) ([(0,.ptr p.length 0),(7,.list .no (ri .i32 cs)),(8,.v (.int .i64 cs.length)),(9,.v (.int .i64 j))],p++R l i::q)=
   if isN (suf l i) j (cs.drop j)=true then some (.exit 0,[(0,.ptr p.length 0),(7,.list .no (ri .i32 cs)),(8,.v (.int .i64 cs.length)),(9,.v (.int .i64 cs.length)),(10,.v (.bool false))],p++R l i::q)
   else some (.ret,[(4,.v (.bool false))],p++R l i::q):=by
 intro n
 induction n with
 |zero=>
  intro j hn hj;obtain rfl:j=cs.length:=om;rw[JB];have hd:decide ((cs.length:Int)<cs.length)=false:=by simp
  simp only[go_sem,JBU,b49,Tryz.f49,hd,Bw,isN]
 |succ n ih=>
  intro j hn hj;have hlt:j<cs.length:=om;have hx:cs[j]? =some cs[j]:=Ad hlt
  have hd:decide ((j:Int)<cs.length)=true:=by simpa using hlt
  have hw:=JD (i:=j) om;have k0:=λlo p q=>f32 (lo:=lo) (l:=l) (i:=i) (p:=p) (q:=q) (k:=j) om
  rw[JB,AE hlt,isN]
  cases hc:chr (suf l i) j==cs[j]with
  |true=>
   have hne:(chr (suf l i) j !=cs[j])=false:=by simp[bne,hc]
   have e:evCode ⟨Aa,E,lo,(p++R l i::q).length,h49⟩ JA JBU ([(0,.ptr p.length 0),(7,.list .no (ri .i32 cs)),(8,.v (.int .i64 cs.length)),(9,.v (.int .i64 j))],p++R l i::q)=
     some (.normal,[(0,.ptr p.length 0),(7,.list .no (ri .i32 cs)),(8,.v (.int .i64 cs.length)),(9,.v (.int .i64 (j+1:Nat)))],p++R l i::q):=by
    simp only[go_sem,JBU,b49,Tryz.f49,hd,hx,hw,k0,hne]
   rw[e,JK,ih (j+1) om om,AR]
  |false=>
   have hne:(chr (suf l i) j !=cs[j])=true:=by simp[bne,hc]
   have e:evCode ⟨Aa,E,lo,(p++R l i::q).length,h49⟩ JA JBU ([(0,.ptr p.length 0),(7,.list .no (ri .i32 cs)),(8,.v (.int .i64 cs.length)),(9,.v (.int .i64 j))],p++R l i::q)=
     some (.ret,[(4,.v (.bool false))],p++R l i::q):=by
    simp only[go_sem,JBU,b49,Tryz.f49,hd,hx,hw,k0,hne]
   rw[e,Wo];rfl
theorem f49{cs:List Int}(hi:i+cs.length<=1000000000000):E lo 49 [.ptr p.length 0,.list .no (ri .i32 cs)] (p++R l i::q)=some (.v (.bool (isN (suf l i) 0 cs)),p++R l i::q):=by
 have hL:=JY5 (lo:=lo) (p:=p) (q:=q) (l:=l) (i:=i) hi _ 0 rfl om;simp only[JBU,b49,Tryz.f49,JG,JT,JC,go_sem,AG]at hL;rw[e49]
 cases hx:isN (suf l i) 0 cs with
 |true=>
  rw[if_pos hx]at hL
  simp only[go_sem,b49,Tryz.f49,hL]
 |false=>
  rw[if_neg (by simp[hx])]at hL
  simp only[go_sem,b49,Tryz.f49,hL]
theorem qB:hex (-1)= -1:=by decide
theorem JQx(c:Int):hex c<=15:=by
 unfold hex Jn
 split
 ·rename_i h;simp at h;omega
 ·split
  ·rename_i h;simp at h;omega
  ·split
   ·rename_i h;simp at h;omega
   ·omega
theorem JJW:blk (-1)=false:=by decide
theorem Jw(k:Nat):chr [] k= -1:=by simp[chr]
theorem JLN(hlo:lo<=p.length)(hl:l.length<=100000000000):∀(n k i:Nat) (v:Int),n+k=6->i<=l.length->0<=v->v<16^k->
  ∃(j:Nat) (t:Int),j<=l.length/\i<=j/\suf l j=(QR n v (suf l i)).2/\0<=(QR n v (suf l i)).1/\(QR n v (suf l i)).1<16777216/\
   JA (evCode ⟨Aa,E,lo,(p++R l i::q).length,h86⟩ JA JBZ) ([(0,.ptr p.length 0),(3,.v (.int .i32 v)),(4,.v (.int .i64 k))],p++R l i::q)=
    some (.exit 0,[(0,.ptr p.length 0),(3,.v (.int .i32 (QR n v (suf l i)).1)),(4,.v (.int .i64 t)),(21,.v (.bool false))],p++R l j::q):=by
 intro n
 induction n with
 |zero=>
  intro k i v hk hi h0 h1;obtain rfl:k=6:=om;refine⟨i,6,hi,Ac _,rfl,h0,by simpa[QR]using h1,?_⟩
  have k0:=λlo p q=>f32 (lo:=lo) (l:=l) (i:=i) (p:=p) (q:=q) (k:=0) om
  simp only[n0]at k0;have n6:((6:Nat):Int)=6:=rfl;rw[JB];simp only[n6]
  simp only[go_sem,JBZ,b86,Tryz.f86,QR,decide_false]
 |succ n ih=>
  intro k i v hk hi h0 h1;have k0:=λlo p q=>f32 (lo:=lo) (l:=l) (i:=i) (p:=p) (q:=q) (k:=0) om
  have k1:=λlo p q h=>f63 (lo:=lo) (l:=l) (i:=i) (p:=p) (q:=q) h om
  have hc:=JGs l i 0;have kh:=λlo h=>f102 (lo:=lo) (h:=h) hc.1 hc.2
  simp only[n0]at k0;have hd:decide ((k:Int)<6)=true:=by simp;omega
  have hw:=JD (i:=k) om
  have hp:(16:Int)^k<=1048576:=by have:k=0\/k=1\/k=2\/k=3\/k=4\/k=5:=om;rcases this with h|h|h|h|h|h<;>rw[h]<;>decide
  have hv:v<1048576:=om;have hup:=JQx (chr (suf l i) 0);rw[JB];by_cases hx:hex (chr (suf l i) 0)<0
  ·have hd2:decide (0<=hex (chr (suf l i) 0))=false:=by simp;omega
   have e1:QR (n+1) v (suf l i)=(v,suf l i):=by
    by_cases hi':i<l.length
    ·rw[Jb hi']at hx⊢
     simp only[QR];rw[if_pos (by simpa[chr]using hx)]
    ·rw[JV om];rfl
   rw[e1];refine⟨i,k,hi,Ac _,rfl,h0,by simp only;omega,?_⟩
   simp only[go_sem,JBZ,b86,Tryz.f86,hd,k0,kh,hd2]
  ·have hd2:decide (0<=hex (chr (suf l i) 0))=true:=by simp;omega
   have hi':i<l.length:=by
    rcases Ax i l.length with h|h
    ·exact h
    ·rw[JV h,Jw,qB]at hx;omega
   have e1:QR (n+1) v (suf l i)=QR n (v*16+hex (chr (suf l i) 0)) (suf l (i+1)):=by
    rw[Jb hi']at hx;rw[Jb hi'];simp only[QR];rw[if_neg (by simpa[chr]using hx)]
    simp[chr]
   have w1:Az.wrap (v*16)=v*16:=wrap_i32 om om;have w2:Az.wrap (v*16+hex (chr (suf l i) 0))=v*16+hex (chr (suf l i) 0):=wrap_i32 om om;have hpow:(16:Int)^ (k+1)=16^k*16:=Cc ..;obtain⟨j,t,j1,j2,j3,j4,j5,j6⟩:=ih (k+1) (i+1) (v*16+hex (chr (suf l i) 0)) om om om (by rw[hpow];omega)
   rw[e1];refine⟨j,t,j1,om,j3,j4,j5,?_⟩
   have e:evCode ⟨Aa,E,lo,(p++R l i::q).length,h86⟩ JA JBZ ([(0,.ptr p.length 0),(3,.v (.int .i32 v)),(4,.v (.int .i64 k))],p++R l i::q)=
     some (.normal,[(0,.ptr p.length 0),(3,.v (.int .i32 (v*16+hex (chr (suf l i) 0)))),(4,.v (.int .i64 (k+1:Nat)))],p++R l (i+1)::q):=by
    simp only[go_sem,JBZ,b86,Tryz.f86,hd,k0,kh,hd2,k1 _ _ _ hlo,w1,w2,hw]
   rw[e,JK];simp only[G6,ZO]at j6⊢;exact j6
theorem JJX(l:List Int){j:Nat}(hj:j<=l.length):(blk (chr (suf l j) 0)=true->j<l.length/\JA6 (suf l j)=suf l (j+1))/\(blk (chr (suf l j) 0)=false->JA6 (suf l j)=suf l j):=by
 rcases Ax j l.length with h|h
 ·have h1:=Jb h
  generalize chr (suf l j) 0=c at h1;rw[h1];refine⟨λhb=>⟨h,?_⟩,λhb=>?_⟩
  ·simp only[JA6];rw[if_pos hb]
  ·simp only[JA6];rw[if_neg (by simp[hb])]
 ·rw[JV h,Jw,JJW]
  exact⟨λh=>by simp at h,λ_=>rfl⟩
theorem f86(hl:l.length<=100000000000)(hi:i<=l.length):∃j,j<=l.length/\i<=j/\suf l j=(KD (suf l i)).2/\
  ∀lo p q,lo<=p.length->E lo 86 [.ptr p.length 0] (p++R l i::q)=some (.v (.int .i32 (KD (suf l i)).1),p++R l j::q):=by
 have k0:=λlo p q=>f32 (lo:=lo) (l:=l) (i:=i) (p:=p) (q:=q) (k:=0) om
 have k1:=λlo p q h=>f63 (lo:=lo) (l:=l) (i:=i) (p:=p) (q:=q) h om
 have hc:=JGs l i 0;have kh:=λlo h=>f102 (lo:=lo) (h:=h) hc.1 hc.2
 simp only[n0]at k0;by_cases hx:hex (chr (suf l i) 0)<0
 ·have hd:decide (hex (chr (suf l i) 0)<0)=true:=by simpa using hx
  by_cases hi':i<l.length
  ·have hne:(chr (suf l i) 0== -1)=false:=by
    rw[Gb,Bl,Ad hi']
    have:=ZQ l[i];simp;omega
   have e1:KD (suf l i)=(chr (suf l i) 0,suf l (i+1)):=by have h1:=Jb hi';generalize chr (suf l i) 0=c at h1 hx;rw[h1];simp only[KD];rw[if_pos hx]
   rw[e1];refine⟨i+1,om,om,rfl,λlo p q hlo=>?_⟩
   rw[e86];simp only[go_sem,b86,Tryz.f86,k0,kh,hd,hne,k1 _ _ _ hlo]
  ·have hs:suf l i=[]:=JV om
   have hd':decide (hex (-1)<0)=true:=by decide
   have hne:((-1:Int)== -1)=true:=rfl;simp only[hs,Jw]at k0 kh;rw[hs];refine⟨i,hi,Ac _,by rw[hs];rfl,λlo p q hlo=>?_⟩
   rw[e86];simp only[go_sem,b86,Tryz.f86,k0,kh,hd',hne];rfl
 ·have hd:decide (hex (chr (suf l i) 0)<0)=false:=by simp;omega
  have hi':i<l.length:=by
   rcases Ax i l.length with h|h
   ·exact h
   ·rw[JV h,Jw,qB]at hx;omega
  have e1:KD (suf l i)=(if(QR 6 0 (suf l i)).1=0 then 65533 else KQ (QR 6 0 (suf l i)).1,JA6 (QR 6 0 (suf l i)).2):=by have h1:=Jb hi';generalize chr (suf l i) 0=c at h1 hx;rw[h1];simp only[KD];rw[if_neg hx]
  obtain⟨j,t,j1,j2,j3,j4,j5,_⟩:=JLN (lo:=0) (p:=[]) (q:=[]) (l:=l) (Ac _) hl 6 0 i 0 rfl hi (CZ _) (by decide)
  have hone:=JJX l j1;have kj:=λlo p q=>f32 (lo:=lo) (l:=l) (i:=j) (p:=p) (q:=q) (k:=0) om
  have kt:=λlo p q h=>f63 (lo:=lo) (l:=l) (i:=j) (p:=p) (q:=q) h om
  simp only[n0]at kj;rw[e1];generalize hv:(QR 6 0 (suf l i)).1=v at j4 j5
  have fold:(if(v==0||decide (1114111<v)||decide (55296<=v)&&decide (v<=57343))=true then(65533:Int)else v)=if v=0 then 65533 else KQ v:=by
   by_cases h0:v=0
   ·simp[h0]
   ·rw[if_neg h0]
    unfold KQ;have a0:(v==0)=false:=by simp[h0]
    have a1:decide (v<0)=false:=by simp;omega
    rw[a0,a1]
  cases hb:blk (chr (suf l j) 0)with
  |true=>
   obtain⟨hj',hone⟩:=hone.1 hb;refine⟨j+1,om,om,by rw[<-j3,hone],λlo p q hlo=>?_⟩
   obtain⟨j',t',j1',_,j3',_,_,hL⟩:=JLN (lo:=lo) (p:=p) (q:=q) (l:=l) hlo hl 6 0 i 0 rfl hi (CZ _) (by decide)
   obtain rfl:j'=j:=Gc j1' j1 (by rw[j3',j3])
   rw[hv]at hL;rw[e86];simp only[JBZ,b86,Tryz.f86,JG,JT,JC,go_sem]at hL;simp only[go_sem,b86,Tryz.f86,k0,kh,hd,hL,kj,f50,hb,kt _ _ _ hlo]
   rw[<-fold]
  |false=>
   refine⟨j,j1,j2,by rw[<-j3,hone.2 hb],λlo p q hlo=>?_⟩
   obtain⟨j',t',j1',_,j3',_,_,hL⟩:=JLN (lo:=lo) (p:=p) (q:=q) (l:=l) hlo hl 6 0 i 0 rfl hi (CZ _) (by decide)
   obtain rfl:j'=j:=Gc j1' j1 (by rw[j3',j3])
   rw[hv]at hL;rw[e86];simp only[JBZ,b86,Tryz.f86,JG,JT,JC,go_sem]at hL;simp only[go_sem,b86,Tryz.f86,k0,kh,hd,hL,kj,f50,hb];rw[<-fold]
end
def JLO(c:Int):Int:=
 if c=40 then 21 else if c=41 then 22 else if c=44 then 18 else if c=58 then 16 else if c=59 then 17
 else if c=91 then 19 else if c=93 then 20 else if c=123 then 23 else if c=125 then 24 else 0
theorem f53{lo:Nat}{c:Int}{h:Heap}:E lo 53 [.v (.int .i32 c)] h=some (.v (.int .i64 (JLO c)),h):=by
 rw[e53];unfold JLO;by_cases h1:c=40
 ·subst h1;have t:((40:Int)==40)=true:=rfl
  simp only[go_sem,b53,Tryz.f53,t]
 have t1:(c==40)=false:=by simp[h1]
 by_cases h2:c=41
 ·subst h2;have t:((41:Int)==41)=true:=rfl
  simp only[go_sem,b53,Tryz.f53,t1,t,h1]
 have t2:(c==41)=false:=by simp[h2]
 by_cases h3:c=44
 ·subst h3;have t:((44:Int)==44)=true:=rfl
  simp only[go_sem,b53,Tryz.f53,t1,t2,t,h1,h2]
 have t3:(c==44)=false:=by simp[h3]
 by_cases h4:c=58
 ·subst h4;have t:((58:Int)==58)=true:=rfl
  simp only[go_sem,b53,Tryz.f53,t1,t2,t3,t,h1,h2,h3]
 have t4:(c==58)=false:=by simp[h4]
 by_cases h5:c=59
 ·subst h5;have t:((59:Int)==59)=true:=rfl
  simp only[go_sem,b53,Tryz.f53,t1,t2,t3,t4,t,h1,h2,h3,h4]
 have t5:(c==59)=false:=by simp[h5]
 by_cases h6:c=91
 ·subst h6;have t:((91:Int)==91)=true:=rfl
  simp only[go_sem,b53,Tryz.f53,t1,t2,t3,t4,t5,t,h1,h2,h3,h4,h5]
 have t6:(c==91)=false:=by simp[h6]
 by_cases h7:c=93
 ·subst h7;have t:((93:Int)==93)=true:=rfl
  simp only[go_sem,b53,Tryz.f53,t1,t2,t3,t4,t5,t6,t,h1,h2,h3,h4,h5,h6]
 have t7:(c==93)=false:=by simp[h7]
 by_cases h8:c=123
 ·subst h8;have t:((123:Int)==123)=true:=rfl
  simp only[go_sem,b53,Tryz.f53,t1,t2,t3,t4,t5,t6,t7,t,h1,h2,h3,h4,h5,h6,h7]
 have t8:(c==123)=false:=by simp[h8]
 by_cases h9:c=125
 ·subst h9;have t:((125:Int)==125)=true:=rfl
  simp only[go_sem,b53,Tryz.f53,t1,t2,t3,t4,t5,t6,t7,t8,t,h1,h2,h3,h4,h5,h6,h7,h8]
 have t9:(c==125)=false:=by simp[h9]
 simp only[go_sem,b53,Tryz.f53,t1,t2,t3,t4,t5,t6,t7,t8,t9,h1,h2,h3,h4,h5,h6,h7,h8,h9]
theorem f111{lo:Nat}{c:Int}{h:Heap}:E lo 111 [.v (.int .i32 c)] h=some (.v (.bool (unp c)),h):=by rw[Jlf];simp only[go_sem,Je3,Tryz.f111,unp]
end Go.Lift.W1.T
end

section
open Go.Proofs
namespace Go.Lift.W1.T
variable[MX]
open Utf
theorem jk(y:Int)(k:Nat):y.fdiv (2^min k 32)=y/2^min k 32:=by rw[Lc];exact Int.le_of_lt (Lr om)
theorem JQy(y:Int)(h0:0<=y)(h1:y<=1114111)(out:List Int):
  (
   if decide (y<128)=true then ri .u8 out++[[V.v (.int .u8 (AX.wrap y))]]
   else if decide (y<2048)=true then ri .u8 out++[[V.v (.int .u8 (AX.wrap ↑(Al 8 192|||Al 8 (AX.wrap (y.fdiv (2^min 6 32)))).toNat))],
    [V.v (.int .u8 (AX.wrap ↑(Al 8 128|||Al 8 (AX.wrap (Az.wrap ↑(Al 32 y&&&Al 32 63).toNat))).toNat))]]
   else if decide (y<65536)=true then ri .u8 out++[[V.v (.int .u8 (AX.wrap ↑(Al 8 224|||Al 8 (AX.wrap (y.fdiv (2^min 12 32)))).toNat))],
    [V.v (.int .u8 (AX.wrap ↑(Al 8 128|||Al 8 (AX.wrap (Az.wrap ↑(Al 32 (y.fdiv (2^min 6 32))&&&Al 32 63).toNat))).toNat))],
    [V.v (.int .u8 (AX.wrap ↑(Al 8 128|||Al 8 (AX.wrap (Az.wrap ↑(Al 32 y&&&Al 32 63).toNat))).toNat))]]
   else ri .u8 out++[[V.v (.int .u8 (AX.wrap ↑(Al 8 240|||Al 8 (AX.wrap (y.fdiv (2^min 18 32)))).toNat))],
    [V.v (.int .u8 (AX.wrap ↑(Al 8 128|||Al 8 (AX.wrap (Az.wrap ↑(Al 32 (y.fdiv (2^min 12 32))&&&Al 32 63).toNat))).toNat))],
    [V.v (.int .u8 (AX.wrap ↑(Al 8 128|||Al 8 (AX.wrap (Az.wrap ↑(Al 32 (y.fdiv (2^min 6 32))&&&Al 32 63).toNat))).toNat))],
    [V.v (.int .u8 (AX.wrap ↑(Al 8 128|||Al 8 (AX.wrap (Az.wrap ↑(Al 32 y&&&Al 32 63).toNat))).toNat))]])
  =ri .u8 (out++enc y):=by
 have lo6:∀z:Int,0<=z->z<=1114111->AX.wrap ↑(Al 8 128|||Al 8 (AX.wrap (Az.wrap ↑(Al 32 z&&&Al 32 63).toNat))).toNat=128+z%64:=by intro z z0 z1;rw[and63 z0 om,wrap_i32 om om,wrap_u8 (n:=z%64) om om,Utf.o8 (n:=64) om om om,wrap_u8 om om]
 have e6:y.fdiv (2^min 6 32)=y/64:=jk y 6;have e62:y.fdiv (2^min 12 32)=y/4096:=jk y 12;have e8:y.fdiv (2^min 18 32)=y/262144:=jk y 18;rw[e6,e62,e8,lo6 y h0 h1,lo6 (y/64) om om,lo6 (y/4096) om om,<-ri_app];unfold enc;by_cases c1:y<128
 ·simp only[c1,decide_true,if_true,Ka,J4]
  rw[wrap_u8 om om]
 ·by_cases c2:y<2048
  ·simp only[c1,c2,decide_true,decide_false,if_true,if_false,Ka,J4,As]
   rw[wrap_u8 (n:=y/64) om om,Utf.o8 (n:=32) om om om,wrap_u8 om om]
  ·by_cases c3:y<65536
   ·simp only[c1,c2,c3,decide_true,decide_false,if_true,if_false,Ka,J4,As]
    rw[wrap_u8 (n:=y/4096) om om,Utf.o8 (n:=16) om om om,wrap_u8 om om]
   ·simp only[c1,c2,c3,decide_true,decide_false,if_true,if_false,Ka,J4,As]
    rw[wrap_u8 (n:=y/262144) om om,Utf.o8 (n:=8) om om om,wrap_u8 om om]
theorem JUH{lo:Nat}{l out:List Int}{h:Heap}{i:Nat}{x:Int}(hx:l[i]? =some x)(hi:i<l.length)(hl:l.length<=35184372088832)(ho:out.length<=140737488355324):
  evCode ⟨Aa,E,lo,h.length,h62⟩ JA JJD ([(3,.list .yes (ri .u8 out)),(6,.list .no (ri .i32 l)),(7,.v (.int .i64 l.length)),(8,.v (.int .i64 i))],h)=
   some (.normal,[(3,.list .yes (ri .u8 (out++enc (KQ x)))),(6,.list .no (ri .i32 l)),(7,.v (.int .i64 l.length)),(8,.v (.int .i64 (i+1:Nat)))],h):=by
 have hd:decide ((i:Int)<l.length)=true:=by simpa using hi
 have hr:∀k,k<=4->(out.length+k)*1<=140737488355328:=by intro k hk;omega
 have hq:∀k,9223372036854775800<=k->out.length<=k:=by intro k hk;omega
 have hw:=JD (i:=i) om;have hs:(if(decide (x<0)||decide (1114111<x)||decide (55296<=x)&&decide (x<=57343))=true then 65533 else x)=KQ x:=rfl
 simp only[go_sem,JJD,b62,Tryz.f62,hd,hx,hr,hq,hw,hs];have hy:=ZQ x;exact congrArg (λr=>(Ex.normal,(([(3,V.list .yes r),(6,V.list .no (ri .i32 l)),(7,.v (.int .i64 l.length)),(8,.v (.int .i64 (i+1:Nat)))]:Ja),h))) (JQy (KQ x) hy.1 hy.2 out)
theorem JY6{lo:Nat}{l:List Int}{h:Heap}(hl:l.length<=35184372088832):∀(n i:Nat) (out:List Int),n=l.length-i->i<=l.length->out.length<=4*i->
  JA (evCode ⟨Aa,E,lo,h.length,h62⟩ JA JJD) ([(3,.list .yes (ri .u8 out)),(6,.list .no (ri .i32 l)),(7,.v (.int .i64 l.length)),(8,.v (.int .i64 i))],h)=
   some (.exit 0,[(3,.list .yes (ri .u8 (out++(l.drop i).flatMap λx=>enc (KQ x)))),(6,.list .no (ri .i32 l)),(7,.v (.int .i64 l.length)),(8,.v (.int .i64 l.length)),(9,.v (.bool false))],h):=by
 intro n
 induction n with
 |zero=>
  intro i out hn hi ho;obtain rfl:i=l.length:=om;rw[JB];have hd:decide ((l.length:Int)<l.length)=false:=by simp
  simp only[go_sem,JJD,b62,Tryz.f62,hd,Bw,Ms]
 |succ n ih=>
  intro i out hn hi ho;have hlt:i<l.length:=om;have hx:l[i]? =some l[i]:=Ad hlt
  have he:(enc (KQ l[i])).length<=4:=by
   unfold enc
   split
   ·simp
   ·split
    ·simp
    ·split<;>simp
  rw[JB,JUH hx hlt hl om,JK,ih (i+1) _ om om (by rw[An];omega),AE hlt,Md,Aw]
theorem f62{lo:Nat}{l:List Int}{h:Heap}(hl:l.length<=35184372088832):
  E lo 62 [.list .no (ri .i32 l)] h=some (.list .no (ri .u8 (l.flatMap λx=>enc (KQ x))),h):=by
 rw[e62];have hL:=JY6 (lo:=lo) (h:=h) hl _ 0 [] rfl om (by simp)
 simp only[JJD,b62,Tryz.f62,JG,JT,JC,go_sem,AG,J4]at hL;simp only[go_sem,b62,Tryz.f62,hL]
end Go.Lift.W1.T
end

section
open Go.Proofs
namespace Go.Lift.W1
variable[MX]
open Utf
theorem jk(y:Int)(k:Nat):y.fdiv (2^min k 32)=y/2^min k 32:=by rw[Lc];exact Int.le_of_lt (Lr om)
def isc(x:Int):Bool:=decide (0<=x)&&decide (x<=1114111)&&(decide (x<55296)||decide (57343<x))
theorem qC(x:Int):(if(!isc x)=true then 65533 else x)=KQ x:=by unfold isc KQ;by_cases a:x<0<;>by_cases b:1114111<x<;>by_cases c:55296<=x<;>by_cases d:x<=57343<;>simp[a,b,c,d]<;>omega
theorem f69{lo:Nat}{x:Int}{h:Heap}:E lo 69 [.v (.int .i32 x)] h=some (.v (.bool (isc x)),h):=by rw[e69];simp only[go_sem,b69,Tryz.f69,isc]
theorem JOH(y:Int)(h0:0<=y)(h1:y<=1114111)(out:List Int):
  (
   if decide (y<128)=true then ri .u8 out++[[V.v (.int .u8 (AX.wrap y))]]
   else if decide (y<2048)=true then ri .u8 out++[[V.v (.int .u8 (AX.wrap (Az.wrap ↑(Al 32 192|||Al 32 (y.fdiv (2^min 6 32))).toNat)))],
    [V.v (.int .u8 (AX.wrap (Az.wrap ↑(Al 32 128|||Al 32 (Az.wrap ↑(Al 32 y&&&Al 32 63).toNat)).toNat)))]]
   else if decide (y<65536)=true then ri .u8 out++[[V.v (.int .u8 (AX.wrap (Az.wrap ↑(Al 32 224|||Al 32 (y.fdiv (2^min 12 32))).toNat)))],
    [V.v (.int .u8 (AX.wrap (Az.wrap ↑(Al 32 128|||Al 32 (Az.wrap ↑(Al 32 (y.fdiv (2^min 6 32))&&&Al 32 63).toNat)).toNat)))],
    [V.v (.int .u8 (AX.wrap (Az.wrap ↑(Al 32 128|||Al 32 (Az.wrap ↑(Al 32 y&&&Al 32 63).toNat)).toNat)))]]
   else ri .u8 out++[[V.v (.int .u8 (AX.wrap (Az.wrap ↑(Al 32 240|||Al 32 (y.fdiv (2^min 18 32))).toNat)))],
    [V.v (.int .u8 (AX.wrap (Az.wrap ↑(Al 32 128|||Al 32 (Az.wrap ↑(Al 32 (y.fdiv (2^min 12 32))&&&Al 32 63).toNat)).toNat)))],
    [V.v (.int .u8 (AX.wrap (Az.wrap ↑(Al 32 128|||Al 32 (Az.wrap ↑(Al 32 (y.fdiv (2^min 6 32))&&&Al 32 63).toNat)).toNat)))],
    [V.v (.int .u8 (AX.wrap (Az.wrap ↑(Al 32 128|||Al 32 (Az.wrap ↑(Al 32 y&&&Al 32 63).toNat)).toNat)))]])
  =ri .u8 (out++enc y):=by
 have lo6:∀z:Int,0<=z->z<=1114111->AX.wrap (Az.wrap ↑(Al 32 128|||Al 32 (Az.wrap ↑(Al 32 z&&&Al 32 63).toNat)).toNat)=128+z%64:=by intro z z0 z1;rw[and63 z0 om,wrap_i32 (n:=z%64) om om,Utf.o32 (n:=64) om om om,wrap_i32 om om,wrap_u8 om om]
 have e6:y.fdiv (2^min 6 32)=y/64:=jk y 6;have e12:y.fdiv (2^min 12 32)=y/4096:=jk y 12;have e8:y.fdiv (2^min 18 32)=y/262144:=jk y 18;rw[e6,e12,e8,lo6 y h0 h1,lo6 (y/64) om om,lo6 (y/4096) om om,<-ri_app];unfold enc;by_cases c1:y<128
 ·simp only[c1,decide_true,if_true,Ka,J4]
  rw[wrap_u8 om om]
 ·by_cases c2:y<2048
  ·simp only[c1,c2,decide_true,decide_false,if_true,if_false,Ka,J4,As]
   rw[Utf.o32 (n:=32) om om om,wrap_i32 om om,wrap_u8 om om]
  ·by_cases c3:y<65536
   ·simp only[c1,c2,c3,decide_true,decide_false,if_true,if_false,Ka,J4,As]
    rw[Utf.o32 (n:=16) om om om,wrap_i32 om om,wrap_u8 om om]
   ·simp only[c1,c2,c3,decide_true,decide_false,if_true,if_false,Ka,J4,As]
    rw[Utf.o32 (n:=8) om om om,wrap_i32 om om,wrap_u8 om om]
theorem JUJ{lo:Nat}{l out:List Int}{h:Heap}{i:Nat}{x:Int}(hx:l[i]? =some x)(hi:i<l.length)(hl:l.length<=35184372088832)(ho:out.length<=140737488355324):
  evCode ⟨Aa,E,lo,h.length,h99⟩ JA JJK ([(3,.list .yes (ri .u8 out)),(6,.list .no (ri .i32 l)),(7,.v (.int .i64 l.length)),(8,.v (.int .i64 i))],h)=
   some (.normal,[(3,.list .yes (ri .u8 (out++enc (KQ x)))),(6,.list .no (ri .i32 l)),(7,.v (.int .i64 l.length)),(8,.v (.int .i64 (i+1:Nat)))],h):=by
 have hd:decide ((i:Int)<l.length)=true:=by simpa using hi
 have hr:∀k,k<=4->(out.length+k)*1<=140737488355328:=by intro k hk;omega
 have hq:∀k,9223372036854775800<=k->out.length<=k:=by intro k hk;omega
 have hw:=JD (i:=i) om;have hs:=qC x;simp only[go_sem,JJK,b99,Tryz.f99,hd,hx,hr,hq,hw,f69,hs];have hy:=ZQ x;exact congrArg (λr=>(Ex.normal,(([(3,V.list .yes r),(6,V.list .no (ri .i32 l)),(7,.v (.int .i64 l.length)),(8,.v (.int .i64 (i+1:Nat)))]:Ja),h))) (JOH (KQ x) hy.1 hy.2 out)
theorem JY8{lo:Nat}{l:List Int}{h:Heap}(hl:l.length<=35184372088832):∀(n i:Nat) (out:List Int),n=l.length-i->i<=l.length->out.length<=4*i->
  JA (evCode ⟨Aa,E,lo,h.length,h99⟩ JA JJK) ([(3,.list .yes (ri .u8 out)),(6,.list .no (ri .i32 l)),(7,.v (.int .i64 l.length)),(8,.v (.int .i64 i))],h)=
   some (.exit 0,[(3,.list .yes (ri .u8 (out++(l.drop i).flatMap λx=>enc (KQ x)))),(6,.list .no (ri .i32 l)),(7,.v (.int .i64 l.length)),(8,.v (.int .i64 l.length)),(9,.v (.bool false))],h):=by
 intro n
 induction n with
 |zero=>
  intro i out hn hi ho;obtain rfl:i=l.length:=om;rw[JB];have hd:decide ((l.length:Int)<l.length)=false:=by simp
  simp only[go_sem,JJK,b99,Tryz.f99,hd,Bw,Ms]
 |succ n ih=>
  intro i out hn hi ho;have hlt:i<l.length:=om;have hx:l[i]? =some l[i]:=Ad hlt
  have he:(enc (KQ l[i])).length<=4:=by
   unfold enc
   split
   ·simp
   ·split
    ·simp
    ·split<;>simp
  rw[JB,JUJ hx hlt hl om,JK,ih (i+1) _ om om (by rw[An];omega),AE hlt,Md,Aw]
theorem f99{lo:Nat}{l:List Int}{h:Heap}(hl:l.length<=35184372088832):
  E lo 99 [.list .no (ri .i32 l)] h=some (.list .no (ri .u8 (l.flatMap λx=>enc (KQ x))),h):=by
 rw[e99];have hL:=JY8 (lo:=lo) (h:=h) hl _ 0 [] rfl om (by simp)
 simp only[JJK,b99,Tryz.f99,JG,JT,JC,go_sem,AG,J4]at hL;simp only[go_sem,b99,Tryz.f99,hL]
theorem JUK{lo:Nat}{b:List Int}{h:Heap}{i n:Nat}{r low high c:Int}(hc:b[i+1]? =some c)(hi:i<n)(hn:n<=3)(hb:b.length<=140737488355328)(hl:i+1<b.length)
  (c0:0<=c)(c1:c<=255)(r0:0<=r)(r1:r<=1000000)(hx:(decide (c<low)||decide (high<c))=false):
  evCode ⟨Aa,E,lo,h.length,h64⟩ JA Yw ([(0,.list .no (ri .u8 b)),(5,.v (.int .u8 low)),(6,.v (.int .u8 high)),(7,.v (.int .i64 n)),(8,.v (.int .i32 r)),(58,.v (.int .i64 n)),(59,.v (.int .i64 i))],h)=
   some (.normal,[(0,.list .no (ri .u8 b)),(5,.v (.int .u8 128)),(6,.v (.int .u8 191)),(7,.v (.int .i64 n)),(8,.v (.int .i32 (r*64+c%64))),(58,.v (.int .i64 n)),(59,.v (.int .i64 (i+1:Nat)))],h):=by
 have hd:decide ((i:Int)<n)=true:=by simpa using hi
 have hw:=JD (i:=i) om;have hg:decide ((b.length:Int)<=(i+1:Nat))=false:=by simp;omega
 have hx1:decide (c<low)=false:=by simp at hx;simp;omega
 have hx2:decide (high<c)=false:=by simp at hx;simp;omega
 simp only[go_sem,Yw,kA,Tryz.f64,hd,hc,hw,hg,hx1,hx2];rw[Jdf r0 r1,a63 c0 c1,wrap_u8 om om,wrap_i32 (n:=c%64) om om,Jde r0 r1 om om,wrap_i32 om om]
theorem JQz{lo:Nat}{b:List Int}{h:Heap}{i n:Nat}{r low high:Int}(hi:i<n)(hn:n<=3)(hb:b.length<=140737488355328)
  (hs:b.length<=i+1\/ ∃c,b[i+1]? =some c/\i+1<b.length/\(c<low\/high<c)):
  evCode ⟨Aa,E,lo,h.length,h64⟩ JA Yw ([(0,.list .no (ri .u8 b)),(5,.v (.int .u8 low)),(6,.v (.int .u8 high)),(7,.v (.int .i64 n)),(8,.v (.int .i32 r)),(58,.v (.int .i64 n)),(59,.v (.int .i64 i))],h)=
   some (.ret,[(2,.v (.int .i32 65533)),(3,.v (.int .i64 (i+1:Nat)))],h):=by
 have hd:decide ((i:Int)<n)=true:=by simpa using hi
 have hw:=JD (i:=i) om;rcases hs with hs|⟨c,hc,hl,hs⟩
 ·have hg:decide ((b.length:Int)<=(i+1:Nat))=true:=by simp;omega
  have hc:b[i+1]? =none:=Bi hs
  simp only[go_sem,Yw,kA,Tryz.f64,hd,hw,hg,hc]
 ·have hg:decide ((b.length:Int)<=(i+1:Nat))=false:=by simp;omega
  by_cases h1:c<low
  ·have hx1:decide (c<low)=true:=by simp;omega
   simp only[go_sem,Yw,kA,Tryz.f64,hd,hc,hw,hg,hx1]
  ·have hx1:decide (c<low)=false:=by simp;omega
   have hx2:decide (high<c)=true:=by simp;omega
   simp only[go_sem,Yw,kA,Tryz.f64,hd,hc,hw,hg,hx1,hx2]
def HS(b:List Int)(n:Nat)(x:Int×Nat×Bool)(h:Heap)(z:Ex×St):Prop:=
 if x.2.2=true then∃low high,z=(.exit 3,[(0,.list .no (ri .u8 b)),(5,.v (.int .u8 low)),(6,.v (.int .u8 high)),(7,.v (.int .i64 n)),(8,.v (.int .i32 x.1)),(58,.v (.int .i64 n)),(59,.v (.int .i64 n)),(60,.v (.bool false))],h)
 else z=(.ret,[(2,.v (.int .i32 x.1)),(3,.v (.int .i64 x.2.1))],h)
theorem WX:∀(n:Nat) (r lo hi:Int) (k:Nat) (t:List Int),(more n r lo hi k t).2.2=true->(more n r lo hi k t).2.1=k+n
 |0,_,_,_,_,_,_=>rfl
 |n+1,r,lo,hi,k,[],h=>by simp[more]at h
 |n+1,r,lo,hi,k,c::t,h=>by
  unfold more at h⊢
  split at h
  ·simp at h
  ·rename_i hc
   rw[if_neg hc,WX n _ _ _ _ _ h];omega
theorem jl{lo:Nat}{b:List Int}{h:Heap}{n:Nat}(hn:n<=3)(hb:b.length<=140737488355328)(hy:By b):∀(m i:Nat) (r low high:Int),m=n-i->i<=n->0<=r->(r+1)*64^m<=64000000->
  ∃z,JA (evCode ⟨Aa,E,lo,h.length,h64⟩ JA Yw) ([(0,.list .no (ri .u8 b)),(5,.v (.int .u8 low)),(6,.v (.int .u8 high)),(7,.v (.int .i64 n)),(8,.v (.int .i32 r)),(58,.v (.int .i64 n)),(59,.v (.int .i64 i))],h)=some z
   /\HS b n (more m r low high (i+1) (b.drop (i+1))) h z:=by
 intro m
 induction m with
 |zero=>
  intro i r low high hm hi h0 h1;obtain rfl:i=n:=om;have hd:decide ((i:Int)<i)=false:=by simp
  rw[JB];simp only[go_sem,Yw,kA,Tryz.f64,hd]
  exact⟨_,rfl,low,high,rfl⟩
 |succ m ih=>
  intro i r low high hm hi h0 h1;have hlt:i<n:=om;rw[JB];by_cases hl:i+1<b.length
  ·have hc:b[i+1]? =some b[i+1]:=Ad hl
   have hcy:=hy b[i+1] (Bq hl);rw[AE hl];by_cases hx:b[i+1]<low\/high<b[i+1]
   ·rw[JQz hlt hn hb (.inr ⟨_,hc,hl,hx⟩),Wo]
    exact⟨_,rfl,by simp only[more,if_pos hx];rfl⟩
   ·rw[Cc]at h1
    have hp:(1:Int)<=64^m:=Lr om;have hr:(r+1)*64*64^m=(r+1)*(64^m*64):=by rw[DQ,C3 64]
    have h2:(r+1)*64*1<=(r+1)*64*64^m:=De hp om;have h3:(r*64+b[i+1]%64+1)*64^m<=(r+1)*64*64^m:=Cj om om;rw[JUK hc hlt hn hb hl hcy.1 hcy.2 h0 om (by simp;omega),JK]
    have:=ih (i+1) (r*64+b[i+1]%64) 128 191 om om om om;simpa only[more,if_neg hx]using this
  ·have hs:b.length<=i+1:=om
   rw[JQz hlt hn hb (.inl hs),Wo,A4 hs];exact⟨_,rfl,rfl⟩
def two(x:Int×Nat×Bool):V:= .tup [.v (.int .i32 x.1),.v (.int .i64 x.2.1)]
theorem JmO{lo:Nat}{c:Int}{t:List Int}{h:Heap}(hb:(c::t).length<=140737488355328)(hy:By (c::t))(hc:194<=c/\c<=223):
  E lo 64 [.list .no (ri .u8 (c::t))] h=some (two (more 1 (c%32) 128 191 1 t),h):=by
 have hcy:=hy c (Be ..);have t0:decide (c<128)=false:=by simp;omega
 have t1:decide (194<=c)=true:=by simp;omega
 have t2:decide (c<=223)=true:=by simp;omega
 have t3:decide (224<=c)=false:=by simp;omega
 have t4:decide (c<=239)=true:=by simp;omega
 have t5:decide (240<=c)=false:=by simp;omega
 have t6:decide (c<=244)=true:=by simp;omega
 have q0:(c==224)=false:=by simp;omega
 have q1:(c==237)=false:=by simp;omega
 have q2:(c==240)=false:=by simp;omega
 have q3:(c==244)=false:=by simp;omega
 have hx:(c::t)[0]? =some c:=rfl;have hm:Az.wrap (AX.wrap (Y8 .u8 c 31))=c%32:=by rw[a31 hcy.1 hcy.2,wrap_u8 om om,wrap_i32 om om]
 obtain⟨z,hL,hz⟩:=jl (lo:=lo) (b:=c::t) (h:=h) (n:=1) om hb hy 1 0 (c%32) 128 191 rfl om om om;have hn:(c::t).drop (0+1)=t:=rfl;rw[hn]at hz;have n1:((1:Nat):Int)=1:=rfl;have n2:((2:Nat):Int)=2:=rfl;have n3:((3:Nat):Int)=3:=rfl;simp only[Yw,kA,Tryz.f64,JG,JT,JC,go_sem,n1,n2,n3]at hL;rw[e64];unfold HS at hz
 split at hz
 ·rename_i hk
  obtain⟨low,high,rfl⟩:=hz;simp only[n1,n2,n3]at hL;simp only[go_sem,kA,Tryz.f64,hx,t0,t1,t2,t3,t4,t5,t6,q0,q1,q2,q3,hm,hL];rw[two,WX _ _ _ _ _ _ hk];rfl
 ·subst hz
  simp only[go_sem,kA,Tryz.f64,hx,t0,t1,t2,t3,t4,t5,t6,q0,q1,q2,q3,hm,hL];rfl
theorem JmP{lo:Nat}{c:Int}{t:List Int}{h:Heap}(hb:(c::t).length<=140737488355328)(hy:By (c::t))(hc:c=224):
  E lo 64 [.list .no (ri .u8 (c::t))] h=some (two (more 2 (c%16) 160 191 1 t),h):=by
 have hcy:=hy c (Be ..);have t0:decide (c<128)=false:=by simp;omega
 have t1:decide (194<=c)=true:=by simp;omega
 have t2:decide (c<=223)=false:=by simp;omega
 have t3:decide (224<=c)=true:=by simp;omega
 have t4:decide (c<=239)=true:=by simp;omega
 have t5:decide (240<=c)=false:=by simp;omega
 have t6:decide (c<=244)=true:=by simp;omega
 have q0:(c==224)=true:=by simp;omega
 have q1:(c==237)=false:=by simp;omega
 have q2:(c==240)=false:=by simp;omega
 have q3:(c==244)=false:=by simp;omega
 have hx:(c::t)[0]? =some c:=rfl;have hm:Az.wrap (AX.wrap (Y8 .u8 c 15))=c%16:=by rw[a15 hcy.1 hcy.2,wrap_u8 om om,wrap_i32 om om]
 obtain⟨z,hL,hz⟩:=jl (lo:=lo) (b:=c::t) (h:=h) (n:=2) om hb hy 2 0 (c%16) 160 191 rfl om om om;have hn:(c::t).drop (0+1)=t:=rfl;rw[hn]at hz;have n1:((1:Nat):Int)=1:=rfl;have n2:((2:Nat):Int)=2:=rfl;have n3:((3:Nat):Int)=3:=rfl;simp only[Yw,kA,Tryz.f64,JG,JT,JC,go_sem,n1,n2,n3]at hL;rw[e64];unfold HS at hz
 split at hz
 ·rename_i hk
  obtain⟨low,high,rfl⟩:=hz;simp only[n1,n2,n3]at hL;simp only[go_sem,kA,Tryz.f64,hx,t0,t1,t2,t3,t4,t5,t6,q0,q1,q2,q3,hm,hL];rw[two,WX _ _ _ _ _ _ hk];rfl
 ·subst hz
  simp only[go_sem,kA,Tryz.f64,hx,t0,t1,t2,t3,t4,t5,t6,q0,q1,q2,q3,hm,hL];rfl
theorem JmQ{lo:Nat}{c:Int}{t:List Int}{h:Heap}(hb:(c::t).length<=140737488355328)(hy:By (c::t))(hc:c=237):
  E lo 64 [.list .no (ri .u8 (c::t))] h=some (two (more 2 (c%16) 128 159 1 t),h):=by
 have hcy:=hy c (Be ..);have t0:decide (c<128)=false:=by simp;omega
 have t1:decide (194<=c)=true:=by simp;omega
 have t2:decide (c<=223)=false:=by simp;omega
 have t3:decide (224<=c)=true:=by simp;omega
 have t4:decide (c<=239)=true:=by simp;omega
 have t5:decide (240<=c)=false:=by simp;omega
 have t6:decide (c<=244)=true:=by simp;omega
 have q0:(c==224)=false:=by simp;omega
 have q1:(c==237)=true:=by simp;omega
 have q2:(c==240)=false:=by simp;omega
 have q3:(c==244)=false:=by simp;omega
 have hx:(c::t)[0]? =some c:=rfl;have hm:Az.wrap (AX.wrap (Y8 .u8 c 15))=c%16:=by rw[a15 hcy.1 hcy.2,wrap_u8 om om,wrap_i32 om om]
 obtain⟨z,hL,hz⟩:=jl (lo:=lo) (b:=c::t) (h:=h) (n:=2) om hb hy 2 0 (c%16) 128 159 rfl om om om;have hn:(c::t).drop (0+1)=t:=rfl;rw[hn]at hz;have n1:((1:Nat):Int)=1:=rfl;have n2:((2:Nat):Int)=2:=rfl;have n3:((3:Nat):Int)=3:=rfl;simp only[Yw,kA,Tryz.f64,JG,JT,JC,go_sem,n1,n2,n3]at hL;rw[e64];unfold HS at hz
 split at hz
 ·rename_i hk
  obtain⟨low,high,rfl⟩:=hz;simp only[n1,n2,n3]at hL;simp only[go_sem,kA,Tryz.f64,hx,t0,t1,t2,t3,t4,t5,t6,q0,q1,q2,q3,hm,hL];rw[two,WX _ _ _ _ _ _ hk];rfl
 ·subst hz
  simp only[go_sem,kA,Tryz.f64,hx,t0,t1,t2,t3,t4,t5,t6,q0,q1,q2,q3,hm,hL];rfl
theorem JmR{lo:Nat}{c:Int}{t:List Int}{h:Heap}(hb:(c::t).length<=140737488355328)(hy:By (c::t))(hc:225<=c/\c<=239/\c≠237):
  E lo 64 [.list .no (ri .u8 (c::t))] h=some (two (more 2 (c%16) 128 191 1 t),h):=by
 have hcy:=hy c (Be ..);have t0:decide (c<128)=false:=by simp;omega
 have t1:decide (194<=c)=true:=by simp;omega
 have t2:decide (c<=223)=false:=by simp;omega
 have t3:decide (224<=c)=true:=by simp;omega
 have t4:decide (c<=239)=true:=by simp;omega
 have t5:decide (240<=c)=false:=by simp;omega
 have t6:decide (c<=244)=true:=by simp;omega
 have q0:(c==224)=false:=by simp;omega
 have q1:(c==237)=false:=by simp;omega
 have q2:(c==240)=false:=by simp;omega
 have q3:(c==244)=false:=by simp;omega
 have hx:(c::t)[0]? =some c:=rfl;have hm:Az.wrap (AX.wrap (Y8 .u8 c 15))=c%16:=by rw[a15 hcy.1 hcy.2,wrap_u8 om om,wrap_i32 om om]
 obtain⟨z,hL,hz⟩:=jl (lo:=lo) (b:=c::t) (h:=h) (n:=2) om hb hy 2 0 (c%16) 128 191 rfl om om om;have hn:(c::t).drop (0+1)=t:=rfl;rw[hn]at hz;have n1:((1:Nat):Int)=1:=rfl;have n2:((2:Nat):Int)=2:=rfl;have n3:((3:Nat):Int)=3:=rfl;simp only[Yw,kA,Tryz.f64,JG,JT,JC,go_sem,n1,n2,n3]at hL;rw[e64];unfold HS at hz
 split at hz
 ·rename_i hk
  obtain⟨low,high,rfl⟩:=hz;simp only[n1,n2,n3]at hL;simp only[go_sem,kA,Tryz.f64,hx,t0,t1,t2,t3,t4,t5,t6,q0,q1,q2,q3,hm,hL];rw[two,WX _ _ _ _ _ _ hk];rfl
 ·subst hz
  simp only[go_sem,kA,Tryz.f64,hx,t0,t1,t2,t3,t4,t5,t6,q0,q1,q2,q3,hm,hL];rfl
theorem JmS{lo:Nat}{c:Int}{t:List Int}{h:Heap}(hb:(c::t).length<=140737488355328)(hy:By (c::t))(hc:c=240):
  E lo 64 [.list .no (ri .u8 (c::t))] h=some (two (more 3 (c%8) 144 191 1 t),h):=by
 have hcy:=hy c (Be ..);have t0:decide (c<128)=false:=by simp;omega
 have t1:decide (194<=c)=true:=by simp;omega
 have t2:decide (c<=223)=false:=by simp;omega
 have t3:decide (224<=c)=true:=by simp;omega
 have t4:decide (c<=239)=false:=by simp;omega
 have t5:decide (240<=c)=true:=by simp;omega
 have t6:decide (c<=244)=true:=by simp;omega
 have q0:(c==224)=false:=by simp;omega
 have q1:(c==237)=false:=by simp;omega
 have q2:(c==240)=true:=by simp;omega
 have q3:(c==244)=false:=by simp;omega
 have hx:(c::t)[0]? =some c:=rfl;have hm:Az.wrap (AX.wrap (Y8 .u8 c 7))=c%8:=by rw[a7 hcy.1 hcy.2,wrap_u8 om om,wrap_i32 om om]
 obtain⟨z,hL,hz⟩:=jl (lo:=lo) (b:=c::t) (h:=h) (n:=3) om hb hy 3 0 (c%8) 144 191 rfl om om om;have hn:(c::t).drop (0+1)=t:=rfl;rw[hn]at hz;have n1:((1:Nat):Int)=1:=rfl;have n2:((2:Nat):Int)=2:=rfl;have n3:((3:Nat):Int)=3:=rfl;simp only[Yw,kA,Tryz.f64,JG,JT,JC,go_sem,n1,n2,n3]at hL;rw[e64];unfold HS at hz
 split at hz
 ·rename_i hk
  obtain⟨low,high,rfl⟩:=hz;simp only[n1,n2,n3]at hL;simp only[go_sem,kA,Tryz.f64,hx,t0,t1,t2,t3,t4,t5,t6,q0,q1,q2,q3,hm,hL];rw[two,WX _ _ _ _ _ _ hk];rfl
 ·subst hz
  simp only[go_sem,kA,Tryz.f64,hx,t0,t1,t2,t3,t4,t5,t6,q0,q1,q2,q3,hm,hL];rfl
theorem JmT{lo:Nat}{c:Int}{t:List Int}{h:Heap}(hb:(c::t).length<=140737488355328)(hy:By (c::t))(hc:241<=c/\c<=243):
  E lo 64 [.list .no (ri .u8 (c::t))] h=some (two (more 3 (c%8) 128 191 1 t),h):=by
 have hcy:=hy c (Be ..);have t0:decide (c<128)=false:=by simp;omega
 have t1:decide (194<=c)=true:=by simp;omega
 have t2:decide (c<=223)=false:=by simp;omega
 have t3:decide (224<=c)=true:=by simp;omega
 have t4:decide (c<=239)=false:=by simp;omega
 have t5:decide (240<=c)=true:=by simp;omega
 have t6:decide (c<=244)=true:=by simp;omega
 have q0:(c==224)=false:=by simp;omega
 have q1:(c==237)=false:=by simp;omega
 have q2:(c==240)=false:=by simp;omega
 have q3:(c==244)=false:=by simp;omega
 have hx:(c::t)[0]? =some c:=rfl;have hm:Az.wrap (AX.wrap (Y8 .u8 c 7))=c%8:=by rw[a7 hcy.1 hcy.2,wrap_u8 om om,wrap_i32 om om]
 obtain⟨z,hL,hz⟩:=jl (lo:=lo) (b:=c::t) (h:=h) (n:=3) om hb hy 3 0 (c%8) 128 191 rfl om om om;have hn:(c::t).drop (0+1)=t:=rfl;rw[hn]at hz;have n1:((1:Nat):Int)=1:=rfl;have n2:((2:Nat):Int)=2:=rfl;have n3:((3:Nat):Int)=3:=rfl;simp only[Yw,kA,Tryz.f64,JG,JT,JC,go_sem,n1,n2,n3]at hL;rw[e64];unfold HS at hz
 split at hz
 ·rename_i hk
  obtain⟨low,high,rfl⟩:=hz;simp only[n1,n2,n3]at hL;simp only[go_sem,kA,Tryz.f64,hx,t0,t1,t2,t3,t4,t5,t6,q0,q1,q2,q3,hm,hL];rw[two,WX _ _ _ _ _ _ hk];rfl
 ·subst hz
  simp only[go_sem,kA,Tryz.f64,hx,t0,t1,t2,t3,t4,t5,t6,q0,q1,q2,q3,hm,hL];rfl
theorem JmU{lo:Nat}{c:Int}{t:List Int}{h:Heap}(hb:(c::t).length<=140737488355328)(hy:By (c::t))(hc:c=244):
  E lo 64 [.list .no (ri .u8 (c::t))] h=some (two (more 3 (c%8) 128 143 1 t),h):=by
 have hcy:=hy c (Be ..);have t0:decide (c<128)=false:=by simp;omega
 have t1:decide (194<=c)=true:=by simp;omega
 have t2:decide (c<=223)=false:=by simp;omega
 have t3:decide (224<=c)=true:=by simp;omega
 have t4:decide (c<=239)=false:=by simp;omega
 have t5:decide (240<=c)=true:=by simp;omega
 have t6:decide (c<=244)=true:=by simp;omega
 have q0:(c==224)=false:=by simp;omega
 have q1:(c==237)=false:=by simp;omega
 have q2:(c==240)=false:=by simp;omega
 have q3:(c==244)=true:=by simp;omega
 have hx:(c::t)[0]? =some c:=rfl;have hm:Az.wrap (AX.wrap (Y8 .u8 c 7))=c%8:=by rw[a7 hcy.1 hcy.2,wrap_u8 om om,wrap_i32 om om]
 obtain⟨z,hL,hz⟩:=jl (lo:=lo) (b:=c::t) (h:=h) (n:=3) om hb hy 3 0 (c%8) 128 143 rfl om om om;have hn:(c::t).drop (0+1)=t:=rfl;rw[hn]at hz;have n1:((1:Nat):Int)=1:=rfl;have n2:((2:Nat):Int)=2:=rfl;have n3:((3:Nat):Int)=3:=rfl;simp only[Yw,kA,Tryz.f64,JG,JT,JC,go_sem,n1,n2,n3]at hL;rw[e64];unfold HS at hz
 split at hz
 ·rename_i hk
  obtain⟨low,high,rfl⟩:=hz;simp only[n1,n2,n3]at hL;simp only[go_sem,kA,Tryz.f64,hx,t0,t1,t2,t3,t4,t5,t6,q0,q1,q2,q3,hm,hL];rw[two,WX _ _ _ _ _ _ hk];rfl
 ·subst hz
  simp only[go_sem,kA,Tryz.f64,hx,t0,t1,t2,t3,t4,t5,t6,q0,q1,q2,q3,hm,hL];rfl
theorem f64{lo:Nat}{c:Int}{t:List Int}{h:Heap}(hb:(c::t).length<=140737488355328)(hy:By (c::t)):
  E lo 64 [.list .no (ri .u8 (c::t))] h=some (two (one (c::t)),h):=by
 have hcy:=hy c (Be ..);have hx:(c::t)[0]? =some c:=rfl;simp only[one];by_cases h0:c<128
 ·rw[if_pos h0]
  have t0:decide (c<128)=true:=by simp;omega
  have hm:Az.wrap c=c:=wrap_i32 om om;rw[e64];simp only[go_sem,kA,Tryz.f64,hx,t0,hm];rfl
 ·rw[if_neg h0]
  by_cases ha:194<=c/\c<=223
  ·have e:nd c=(1,128,191):=by unfold nd;rw[if_pos ha]
   rw[JmO hb hy ha,e];rfl
  by_cases hb1:c=224
  ·have e:nd c=(2,160,191):=by unfold nd;rw[if_neg ha,if_pos hb1]
   rw[JmP hb hy hb1,e];rfl
  by_cases hc1:c=237
  ·have e:nd c=(2,128,159):=by unfold nd;rw[if_neg ha,if_neg hb1,if_pos hc1]
   rw[JmQ hb hy hc1,e];rfl
  by_cases hd1:225<=c/\c<=239
  ·have e:nd c=(2,128,191):=by unfold nd;rw[if_neg ha,if_neg hb1,if_neg hc1,if_pos hd1]
   rw[JmR hb hy ⟨hd1.1,hd1.2,hc1⟩,e];rfl
  by_cases he1:c=240
  ·have e:nd c=(3,144,191):=by unfold nd;rw[if_neg ha,if_neg hb1,if_neg hc1,if_neg hd1,if_pos he1]
   rw[JmS hb hy he1,e];rfl
  by_cases hf1:241<=c/\c<=243
  ·have e:nd c=(3,128,191):=by unfold nd;rw[if_neg ha,if_neg hb1,if_neg hc1,if_neg hd1,if_neg he1,if_pos hf1]
   rw[JmT hb hy hf1,e];rfl
  by_cases hg1:c=244
  ·have e:nd c=(3,128,143):=by unfold nd;rw[if_neg ha,if_neg hb1,if_neg hc1,if_neg hd1,if_neg he1,if_neg hf1,if_pos hg1]
   rw[JmU hb hy hg1,e];rfl
  have e:nd c=(0,0,0):=by unfold nd;rw[if_neg ha,if_neg hb1,if_neg hc1,if_neg hd1,if_neg he1,if_neg hf1,if_neg hg1]
  rw[e,if_pos rfl];have t0:decide (c<128)=false:=by simp;omega
  have t1:(decide (194<=c)&&decide (c<=223))=false:=by simp;omega
  have t2:(decide (224<=c)&&decide (c<=239))=false:=by simp;omega
  have t3:(decide (240<=c)&&decide (c<=244))=false:=by simp;omega
  rw[e64];simp only[go_sem,kA,Tryz.f64,hx,t0,t1,t2,t3];rfl
theorem f100{lo:Nat}{c:Int}{h:Heap}(h0:0<=c)(h1:c<=255):E lo 100 [.v (.int .u8 c)] h=some (.tup [.v (.int .i64 (nd c).1),.v (.int .u8 (nd c).2.1),.v (.int .u8 (nd c).2.2)],h):=by
 rw[JlV];by_cases ha:194<=c/\c<=223
 ·have e:nd c=(1,128,191):=by unfold nd;rw[if_pos ha]
  have t1:(decide (194<=c)&&decide (c<=223))=true:=by simp;omega
  rw[e];simp only[go_sem,JGp,Tryz.f100,t1];rfl
 have t1:(decide (194<=c)&&decide (c<=223))=false:=by simp;omega
 by_cases hb1:c=224
 ·have e:nd c=(2,160,191):=by unfold nd;rw[if_neg ha,if_pos hb1]
  have t2:(c==224)=true:=by simp;omega
  rw[e];simp only[go_sem,JGp,Tryz.f100,t1,t2];rfl
 have t2:(c==224)=false:=by simp;omega
 by_cases hc1:c=237
 ·have e:nd c=(2,128,159):=by unfold nd;rw[if_neg ha,if_neg hb1,if_pos hc1]
  have t3:(c==237)=true:=by simp;omega
  rw[e];simp only[go_sem,JGp,Tryz.f100,t1,t2,t3];rfl
 have t3:(c==237)=false:=by simp;omega
 by_cases hd1:225<=c/\c<=239
 ·have e:nd c=(2,128,191):=by unfold nd;rw[if_neg ha,if_neg hb1,if_neg hc1,if_pos hd1]
  have t4:(decide (225<=c)&&decide (c<=239))=true:=by simp;omega
  rw[e];simp only[go_sem,JGp,Tryz.f100,t1,t2,t3,t4];rfl
 have t4:(decide (225<=c)&&decide (c<=239))=false:=by simp;omega
 by_cases he1:c=240
 ·have e:nd c=(3,144,191):=by unfold nd;rw[if_neg ha,if_neg hb1,if_neg hc1,if_neg hd1,if_pos he1]
  have t5:(c==240)=true:=by simp;omega
  rw[e];simp only[go_sem,JGp,Tryz.f100,t1,t2,t3,t4,t5];rfl
 have t5:(c==240)=false:=by simp;omega
 by_cases hf1:241<=c/\c<=243
 ·have e:nd c=(3,128,191):=by unfold nd;rw[if_neg ha,if_neg hb1,if_neg hc1,if_neg hd1,if_neg he1,if_pos hf1]
  have t6:(decide (241<=c)&&decide (c<=243))=true:=by simp;omega
  rw[e];simp only[go_sem,JGp,Tryz.f100,t1,t2,t3,t4,t5,t6];rfl
 have t6:(decide (241<=c)&&decide (c<=243))=false:=by simp;omega
 by_cases hg1:c=244
 ·have e:nd c=(3,128,143):=by unfold nd;rw[if_neg ha,if_neg hb1,if_neg hc1,if_neg hd1,if_neg he1,if_neg hf1,if_pos hg1]
  have t7:(c==244)=true:=by simp;omega
  rw[e];simp only[go_sem,JGp,Tryz.f100,t1,t2,t3,t4,t5,t6,t7];rfl
 have t7:(c==244)=false:=by simp;omega
 have e:nd c=(0,0,0):=by unfold nd;rw[if_neg ha,if_neg hb1,if_neg hc1,if_neg hd1,if_neg he1,if_neg hf1,if_neg hg1]
 rw[e];simp only[go_sem,JGp,Tryz.f100,t1,t2,t3,t4,t5,t6,t7]
theorem JUL{lo:Nat}{b:List Int}{h:Heap}{i k n:Nat}{r low high c:Int}(hc:b[i+k]? =some c)(hi:k<=n)(hn:n<=3)(hb:b.length<=140737488355328)(hl:i+k<b.length)
  (c0:0<=c)(c1:c<=255)(r0:0<=r)(r1:r<=1000000)(hx:¬(c<low\/high<c)):
  evCode ⟨Aa,E,lo,h.length,h81⟩ JA kq ([(0,.list .no (ri .u8 b)),(1,.v (.int .i64 i)),(8,.v (.int .i64 n)),(9,.v (.int .u8 low)),(10,.v (.int .u8 high)),(11,.v (.int .i32 r)),(12,.v (.int .i64 k))],h)=
   some (.normal,[(0,.list .no (ri .u8 b)),(1,.v (.int .i64 i)),(8,.v (.int .i64 n)),(9,.v (.int .u8 128)),(10,.v (.int .u8 191)),(11,.v (.int .i32 (r*64+c%64))),(12,.v (.int .i64 (k+1:Nat)))],h):=by
 have hd:decide ((k:Int)<=n)=true:=by simpa using hi
 have hw:Ak.wrap ((i:Int)+k)=((i+k:Nat):Int):=by rw[JL om om];omega
 have hw1:=JD (i:=k) om;have hg:decide ((b.length:Int)<=(i+k:Nat))=false:=by simp;omega
 have hx1:decide (c<low)=false:=by simp;omega
 have hx2:decide (high<c)=false:=by simp;omega
 simp only[go_sem,kq,b81,Tryz.f81,hd,hc,hw,hw1,hg,hx1,hx2];rw[Jdf r0 r1,a63 c0 c1,wrap_u8 om om,wrap_i32 (n:=c%64) om om,Jde r0 r1 om om,wrap_i32 om om]
theorem JQ0{lo:Nat}{b:List Int}{h:Heap}{i k n:Nat}{r low high:Int}(hi:k<=n)(hn:n<=3)(hb:b.length<=140737488355328)(hib:i<=140737488355328)
  (hs:b.length<=i+k\/ ∃c,b[i+k]? =some c/\i+k<b.length/\(c<low\/high<c)):
  evCode ⟨Aa,E,lo,h.length,h81⟩ JA kq ([(0,.list .no (ri .u8 b)),(1,.v (.int .i64 i)),(8,.v (.int .i64 n)),(9,.v (.int .u8 low)),(10,.v (.int .u8 high)),(11,.v (.int .i32 r)),(12,.v (.int .i64 k))],h)=
   some (.ret,[(4,.v (.int .i32 65533)),(5,.v (.int .i64 k)),(6,.v (.bool false))],h):=by
 have hd:decide ((k:Int)<=n)=true:=by simpa using hi
 have hw:Ak.wrap ((i:Int)+k)=((i+k:Nat):Int):=by rw[JL om om];omega
 have hw1:=JD (i:=k) om;rcases hs with hs|⟨c,hc,hl,hs⟩
 ·have hg:decide ((b.length:Int)<=(i+k:Nat))=true:=by simp;omega
  have hc:b[i+k]? =none:=Bi hs
  simp only[go_sem,kq,b81,Tryz.f81,hd,hw,hw1,hg,hc]
 ·have hg:decide ((b.length:Int)<=(i+k:Nat))=false:=by simp;omega
  by_cases h1:c<low
  ·have hx1:decide (c<low)=true:=by simp;omega
   simp only[go_sem,kq,b81,Tryz.f81,hd,hc,hw,hw1,hg,hx1]
  ·have hx1:decide (c<low)=false:=by simp;omega
   have hx2:decide (high<c)=true:=by simp;omega
   simp only[go_sem,kq,b81,Tryz.f81,hd,hc,hw,hw1,hg,hx1,hx2]
def JQ1(b:List Int)(i n:Nat)(x:Int×Nat×Bool)(h:Heap)(z:Ex×St):Prop:=
 if x.2.2=true then∃low high,z=(.exit 0,[(0,.list .no (ri .u8 b)),(1,.v (.int .i64 i)),(8,.v (.int .i64 n)),(9,.v (.int .u8 low)),(10,.v (.int .u8 high)),(11,.v (.int .i32 x.1)),(12,.v (.int .i64 (n+1:Nat))),(37,.v (.bool false))],h)
 else z=(.ret,[(4,.v (.int .i32 x.1)),(5,.v (.int .i64 x.2.1)),(6,.v (.bool false))],h)
theorem JY9{lo:Nat}{b:List Int}{h:Heap}{i n:Nat}(hn:n<=3)(hb:b.length<=140737488355328)(hib:i<=140737488355328)(hy:By b):∀(m k:Nat) (r low high:Int),k+m=n+1->0<=r->(r+1)*64^m<=64000000->
  ∃z,JA (evCode ⟨Aa,E,lo,h.length,h81⟩ JA kq) ([(0,.list .no (ri .u8 b)),(1,.v (.int .i64 i)),(8,.v (.int .i64 n)),(9,.v (.int .u8 low)),(10,.v (.int .u8 high)),(11,.v (.int .i32 r)),(12,.v (.int .i64 k))],h)=some z
   /\JQ1 b i n (more m r low high k (b.drop (i+k))) h z:=by
 intro m
 induction m with
 |zero=>
  intro k r low high hm h0 h1;obtain rfl:k=n+1:=om;have hd:decide (((n+1:Nat):Int)<=n)=false:=by simp;omega
  rw[JB];simp only[go_sem,kq,b81,Tryz.f81,hd]
  exact⟨_,rfl,low,high,rfl⟩
 |succ m ih=>
  intro k r low high hm h0 h1;have hlt:k<=n:=om;rw[JB];by_cases hl:i+k<b.length
  ·have hc:b[i+k]? =some b[i+k]:=Ad hl
   have hcy:=hy b[i+k] (Bq hl);rw[AE hl];by_cases hx:b[i+k]<low\/high<b[i+k]
   ·rw[JQ0 hlt hn hb hib (.inr ⟨_,hc,hl,hx⟩),Wo]
    exact⟨_,rfl,by simp only[more,if_pos hx];rfl⟩
   ·rw[Cc]at h1
    have hp:(1:Int)<=64^m:=Lr om;have hr:(r+1)*64*64^m=(r+1)*(64^m*64):=by rw[DQ,C3 64]
    have h2:(r+1)*64*1<=(r+1)*64*64^m:=De hp om;have h3:(r*64+b[i+k]%64+1)*64^m<=(r+1)*64*64^m:=Cj om om;rw[JUL hc hlt hn hb hl hcy.1 hcy.2 h0 om hx,JK];have:=ih (k+1) (r*64+b[i+k]%64) 128 191 om om om;simpa only[more,if_neg hx,<-Cr]using this
  ·have hs:b.length<=i+k:=om
   rw[JQ0 hlt hn hb hib (.inl hs),Wo,A4 hs];exact⟨_,rfl,rfl⟩
def JMU(x:Int×Nat×Bool):V:= .tup [.v (.int .i32 x.1),.v (.int .i64 x.2.1),.v (.bool x.2.2)]
theorem f81{lo:Nat}{b:List Int}{i:Nat}{h:Heap}(hi:i<b.length)(hb:b.length<=140737488355328)(hy:By b):
  E lo 81 [.list .no (ri .u8 b),.v (.int .i64 i)] h=some (JMU (one (b.drop i)),h):=by
 have hx:b[i]? =some b[i]:=Ad hi
 have hcy:=hy b[i] (Bq hi);rw[AE hi];generalize hc:b[i]=c at hx hcy;simp only[one];by_cases h0:c<128
 ·rw[if_pos h0]
  have t0:decide (c<128)=true:=by simp;omega
  have hm:Az.wrap c=c:=wrap_i32 om om;rw[e81];simp only[go_sem,b81,Tryz.f81,hx,t0,hm];rfl
 rw[if_neg h0];have t0:decide (c<128)=false:=by simp;omega
 by_cases hz:(nd c).1=0
 ·rw[if_pos hz]
  have t1:(((nd c).1:Int)==0)=true:=by simp;omega
  rw[e81];simp only[go_sem,b81,Tryz.f81,hx,t0,f100 hcy.1 hcy.2,t1];rfl
 rw[if_neg hz];have hn:=JVQ c;have t1:(((nd c).1:Int)==0)=false:=by simp;omega
 have hm:Az.wrap (Y8 .i32 (Az.wrap c) (Jay .i32 63 (BP.wrap (nd c).1)))=c%2^ (6-(nd c).1):=by
  rw[wrap_i32 (n:=c) om om];have:(nd c).1=1\/(nd c).1=2\/(nd c).1=3:=om;rcases this with h|h|h<;>rw[h]
  ·show Az.wrap (Y8 .i32 c 31)=c%32
   rw[Utf.c31 hcy.1 hcy.2,wrap_i32 om om]
  ·show Az.wrap (Y8 .i32 c 15)=c%16
   rw[Utf.c15 hcy.1 hcy.2,wrap_i32 om om]
  ·show Az.wrap (Y8 .i32 c 7)=c%8
   rw[Utf.c7 hcy.1 hcy.2,wrap_i32 om om]
 have hr:0<=c%2^ (6-(nd c).1)/\(c%2^ (6-(nd c).1)+1)*64^ (nd c).1<=64000000:=by
  have:(nd c).1=1\/(nd c).1=2\/(nd c).1=3:=om;rcases this with h|h|h<;>rw[h]
  ·show 0<=c%32/\(c%32+1)*64<=64000000;omega
  ·show 0<=c%16/\(c%16+1)*4096<=64000000;omega
  ·show 0<=c%8/\(c%8+1)*262144<=64000000;omega
 have ht:b.drop (i+1)=b.drop (i+1):=rfl;obtain⟨z,hL,hz⟩:=JY9 (lo:=lo) (b:=b) (h:=h) (i:=i) hn hb om hy (nd c).1 1 (c%2^ (6-(nd c).1)) (nd c).2.1 (nd c).2.2 om hr.1 hr.2;have n1:((1:Nat):Int)=1:=rfl
 have hg:decide (0<=BP.wrap ((nd c).1:Int))=true:=by have:(nd c).1=1\/(nd c).1=2\/(nd c).1=3:=om;rcases this with h|h|h<;>rw[h]<;>rfl
 have hg':0<=BP.wrap ((nd c).1:Int):=of_decide_eq_true hg;have hw1:Ak.wrap (((nd c).1:Int)+1)=(((nd c).1+1:Nat):Int):=JD om;simp only[kq,b81,Tryz.f81,JG,JT,JC,go_sem,n1]at hL;rw[e81];unfold JQ1 at hz
 split at hz
 ·rename_i hk
  obtain⟨low,high,rfl⟩:=hz;simp only[go_sem,b81,Tryz.f81,hx,t0,t1,f100 hcy.1 hcy.2,hm,hL,hg,hg',hw1];rw[JMU,WX _ _ _ _ _ _ hk,hk,Nat.add_comm 1]
 ·rename_i hk
  subst hz;simp only[go_sem,b81,Tryz.f81,hx,t0,t1,f100 hcy.1 hcy.2,hm,hL,hg,hg',hw1];simp only[JMU,Bool.not_eq_true]at hk⊢;rw[hk]
end Go.Lift.W1
end

section
open Go.Proofs
namespace Go.Lift.W1.T
variable[MX]
open Utf
theorem JmV{lo:Nat}{b:List Int}{h:Heap}(hn:b≠[])(hb:b.length<=140737488355328)(hy:By b):E lo 64 [.list .no (ri .u8 b)] h=some (two (one b),h):=by
 cases b with
 |nil=>exact absurd rfl hn
 |cons c t=>exact f64 hb hy
theorem JUM{lo:Nat}{b out:List Int}{h:Heap}(hn:b≠[])(hb:b.length<=1000000000)(ho:out.length<=1000000000)(hy:By b):
  evCode ⟨Aa,E,lo,h.length,h34⟩ JA JDf ([(0,.list .no (ri .u8 b)),(3,.list .yes (ri .i32 out))],h)=
   some (.normal,[(0,.list .no (ri .u8 (b.drop (one b).2.1))),(3,.list .yes (ri .i32 (out++[(one b).1])))],h):=by
 have hl:0<b.length:=Cg.mpr hn;have hd:decide ((0:Int)<b.length)=true:=by simpa using hl
 have hr:∀k,k<=4->(out.length+k)*4<=140737488355328:=by intro k hk;omega
 have hq:∀k,9223372036854775800<=k->out.length<=k:=by intro k hk;omega
 have hk:=(JDX hn).2.2;have hs:0<=((one b).2.1:Int):=om;have e1:ri .i32 (out++[(one b).1])=ri .i32 out++[[V.v (.int .i32 (one b).1)]]:=by rw[<-ri_app];rfl
 simp only[go_sem,JDf,b34,Tryz.f34,hd,JmV hn om hy,two,hr,hq,hs,hk,Ac,JGh,JGi,Int.toNat_natCast,and_self,e1]
theorem JZA{lo:Nat}{h:Heap}:∀(n:Nat) (b out:List Int),b.length<=n->b.length<=1000000000->By b->out.length+b.length<=1000000000->
  JA (evCode ⟨Aa,E,lo,h.length,h34⟩ JA JDf) ([(0,.list .no (ri .u8 b)),(3,.list .yes (ri .i32 out))],h)=
   some (.exit 0,[(0,.list .no []),(3,.list .yes (ri .i32 (out++raw b))),(8,.v (.bool false))],h):=by
 intro n
 induction n with
 |zero=>
  intro b out h1 h2 hy h3;obtain rfl:b=[]:=List.eq_nil_of_length_eq_zero om;rw[JB]
  simp only[go_sem,JDf,b34,Tryz.f34,zn,J4,Am]<;>rfl
 |succ n ih=>
  intro b out h1 h2 hy h3;by_cases hn:b=[]
  ·subst hn
   rw[JB];simp only[go_sem,JDf,b34,Tryz.f34,zn,J4,Am]<;>rfl
  ·have hl:0<b.length:=Cg.mpr hn
   have hk:=JDX hn;have hlen:(b.drop (one b).2.1).length=b.length-(one b).2.1:=Ay;rw[JB,JUM hn h2 om hy,JK,ih _ _ om om (hy.drop _) (by rw[An,Dk];omega),JQO hn,Aw]
   rfl
theorem f34{lo:Nat}{b:List Int}{h:Heap}(hb:b.length<=1000000000)(hy:By b):E lo 34 [.list .no (ri .u8 b)] h=some (.list .no (ri .i32 (raw b)),h):=by
 rw[e34];have hL:=JZA (lo:=lo) (h:=h) b.length b [] (Ac _) hb hy (by simpa using hb)
 simp only[JDf,b34,Tryz.f34,JG,JT,JC,go_sem,J4]at hL;simp only[go_sem,b34,Tryz.f34,hL]
theorem JUN{lo i:Nat}{b out:List Int}{h:Heap}(hi:i<b.length)(hb:b.length<=1000000000)(ho:out.length<=1000000000)(hy:By b):
  evCode ⟨Aa,E,lo,h.length,h45⟩ JA JDg ([(0,.list .no (ri .u8 b)),(3,.list .yes (ri .i32 out)),(4,.v (.int .i64 i))],h)=
   some (.normal,[(0,.list .no (ri .u8 b)),(3,.list .yes (ri .i32 (out++[(one (b.drop i)).1]))),(4,.v (.int .i64 (i+(one (b.drop i)).2.1:Nat)))],h):=by
 have hd:decide ((i:Int)<b.length)=true:=by simpa using hi
 have hn:b.drop i≠[]:=by simp;omega
 have hk:=JDX hn;have hw:Ak.wrap ((i:Int)+(one (b.drop i)).2.1)=((i+(one (b.drop i)).2.1:Nat):Int):=by rw[JL om om];omega
 have hr:∀k,k<=4->(out.length+k)*4<=140737488355328:=by intro k hk;omega
 have hq:∀k,9223372036854775800<=k->out.length<=k:=by intro k hk;omega
 have e1:ri .i32 (out++[(one (b.drop i)).1])=ri .i32 out++[[V.v (.int .i32 (one (b.drop i)).1)]]:=by rw[<-ri_app];rfl
 simp only[go_sem,JDg,b45,Tryz.f45,hd,f81 hi om hy,JMU,hr,hq,hw,e1]
theorem JZB{lo:Nat}{b:List Int}{h:Heap}(hb:b.length<=1000000000)(hy:By b):∀(n i:Nat) (out:List Int),b.length-i<=n->i<=b.length->out.length<=i->
  JA (evCode ⟨Aa,E,lo,h.length,h45⟩ JA JDg) ([(0,.list .no (ri .u8 b)),(3,.list .yes (ri .i32 out)),(4,.v (.int .i64 i))],h)=
   some (.exit 0,[(0,.list .no (ri .u8 b)),(3,.list .yes (ri .i32 (out++raw (b.drop i)))),(4,.v (.int .i64 b.length)),(11,.v (.bool false))],h):=by
 have stop:∀(i:Nat) (out:List Int),i=b.length->JA (evCode ⟨Aa,E,lo,h.length,h45⟩ JA JDg) ([(0,.list .no (ri .u8 b)),(3,.list .yes (ri .i32 out)),(4,.v (.int .i64 i))],h)=
   some (.exit 0,[(0,.list .no (ri .u8 b)),(3,.list .yes (ri .i32 (out++raw (b.drop i)))),(4,.v (.int .i64 b.length)),(11,.v (.bool false))],h):=by
  intro i out hi;subst hi;have hd:decide ((b.length:Int)<b.length)=false:=by simp
  rw[JB];simp only[go_sem,JDg,b45,Tryz.f45,hd,Bw,zn]
 intro n
 induction n with
 |zero=>intro i out h1 h2 h3;exact stop i out om
 |succ n ih=>
  intro i out h1 h2 h3;by_cases hi:i<b.length
  ·have hn:b.drop i≠[]:=by simp;omega
   have hk:=JDX hn;rw[Ay]at hk;rw[JB,JUN hi hb om hy,JK,ih _ _ om om (by rw[An,Dk];omega),JQO hn,Aw,List.drop_drop]
   rfl
  ·exact stop i out om
theorem f45{lo:Nat}{b:List Int}{h:Heap}(hb:b.length<=1000000000)(hy:By b):E lo 45 [.list .no (ri .u8 b)] h=some (.list .no (ri .i32 (raw b)),h):=by
 rw[e45];have hL:=JZB (lo:=lo) (h:=h) hb hy b.length 0 [] om om (by simp)
 simp only[JDg,b45,Tryz.f45,JG,JT,JC,go_sem,J4,AG]at hL;simp only[go_sem,b45,Tryz.f45,hL]
theorem yJ(back:Bool)(x:Int):(Q4 back x).length<=1:=by
 unfold Q4
 split<;>simp
theorem JUO{lo i:Nat}{l out:List Int}{h:Heap}{x:Int}{back:Bool}(hx:l[i]? =some x)(hi:i<l.length)(hl:l.length<=1000000000)(ho:out.length<=1000000000):
  evCode ⟨Aa,E,lo,h.length,h19⟩ JA jA ([(3,.list .yes (ri .i32 out)),(4,.v (.bool back)),(32,.list .no (ri .i32 l)),(33,.v (.int .i64 l.length)),(34,.v (.int .i64 i))],h)=
   some (.normal,[(3,.list .yes (ri .i32 (out++Q4 back x))),(4,.v (.bool (x==13))),(32,.list .no (ri .i32 l)),(33,.v (.int .i64 l.length)),(34,.v (.int .i64 (i+1:Nat)))],h):=by
 have hd:decide ((i:Int)<l.length)=true:=by simpa using hi
 have hr:∀k,k<=4->(out.length+k)*4<=140737488355328:=by intro k hk;omega
 have hq:∀k,9223372036854775800<=k->out.length<=k:=by intro k hk;omega
 have hw:=JD (i:=i) om;have app:∀y:Int,ri .i32 (out++[y])=ri .i32 out++[[V.v (.int .i32 y)]]:=by intro y;rw[<-ri_app];rfl
 by_cases h10:x=10
 ·subst h10
  have e13:((10:Int)==13)=false:=rfl;have e10:((10:Int)==10)=true:=rfl
  cases back with
  |true=>
   have ed:Q4 true 10=[]:=rfl
   simp only[go_sem,jA,b19,Tryz.f19,hd,hx,hr,hq,hw,ed,e13,e10,Aq]
  |false=>have ed:Q4 false 10=[10]:=rfl;simp only[go_sem,jA,b19,Tryz.f19,hd,hx,hr,hq,hw,ed,e13,e10,app]
 have e10:(x==10)=false:=by simp[h10]
 by_cases h13:x=13
 ·subst h13
  have e13:((13:Int)==13)=true:=rfl;have ed:Q4 back 13=[10]:=rfl;simp only[go_sem,jA,b19,Tryz.f19,hd,hx,hr,hq,hw,ed,e13,e10,app]
 have e13:(x==13)=false:=by simp[h13]
 by_cases h12:x=12
 ·subst h12
  have e12:((12:Int)==12)=true:=rfl;have ed:Q4 back 12=[10]:=rfl;simp only[go_sem,jA,b19,Tryz.f19,hd,hx,hr,hq,hw,ed,e13,e10,e12,app]
 have e12:(x==12)=false:=by simp[h12]
 by_cases h0:x=0
 ·subst h0
  have e0:((0:Int)==0)=true:=rfl;have ed:Q4 back 0=[65533]:=rfl;simp only[go_sem,jA,b19,Tryz.f19,hd,hx,hr,hq,hw,ed,e13,e10,e12,e0,app]
 have e0:(x==0)=false:=by simp[h0]
 have ed:Q4 back x=[x]:=by simp[Q4,e10,e13,e12,e0]
 simp only[go_sem,jA,b19,Tryz.f19,hd,hx,hr,hq,hw,ed,e13,e10,e12,e0,app]
theorem JZC{lo:Nat}{l:List Int}{h:Heap}(hl:l.length<=1000000000):∀(n i:Nat) (out:List Int) (back:Bool),n=l.length-i->i<=l.length->out.length<=i->
  ∃back',JA (evCode ⟨Aa,E,lo,h.length,h19⟩ JA jA) ([(3,.list .yes (ri .i32 out)),(4,.v (.bool back)),(32,.list .no (ri .i32 l)),(33,.v (.int .i64 l.length)),(34,.v (.int .i64 i))],h)=
   some (.exit 0,[(3,.list .yes (ri .i32 (out++dec back (l.drop i)))),(4,.v (.bool back')),(32,.list .no (ri .i32 l)),(33,.v (.int .i64 l.length)),(34,.v (.int .i64 l.length)),(35,.v (.bool false))],h):=by
 intro n
 induction n with
 |zero=>
  intro i out back hn hi ho;obtain rfl:i=l.length:=om;rw[JB];have hd:decide ((l.length:Int)<l.length)=false:=by simp
  refine⟨back,?_⟩
  simp only[go_sem,jA,b19,Tryz.f19,hd,Bw,dec]
 |succ n ih=>
  intro i out back hn hi ho;have hlt:i<l.length:=om;have hx:l[i]? =some l[i]:=Ad hlt
  have he:=yJ back l[i];obtain⟨b',hb⟩:=ih (i+1) (out++Q4 back l[i]) (l[i]==13) om om (by rw[An];omega)
  refine⟨b',?_⟩
  rw[JB,JUO hx hlt hl om,JK,hb,AE hlt,dec,Aw]
theorem JUP{lo i:Nat}{l out:List Int}{h:Heap}{x last:Int}(hx:l[i]? =some x)(hi:i<l.length)(hl:l.length<=1000000000)(ho:out.length<=1000000000):
  evCode ⟨Aa,E,lo,h.length,h23⟩ JA jB ([(3,.list .yes (ri .i32 out)),(4,.v (.int .i32 last)),(32,.list .no (ri .i32 l)),(33,.v (.int .i64 l.length)),(34,.v (.int .i64 i))],h)=
   some (.normal,[(3,.list .yes (ri .i32 (out++Q4 (last==13) x))),(4,.v (.int .i32 x)),(32,.list .no (ri .i32 l)),(33,.v (.int .i64 l.length)),(34,.v (.int .i64 (i+1:Nat)))],h):=by
 have hd:decide ((i:Int)<l.length)=true:=by simpa using hi
 have hr:∀k,k<=4->(out.length+k)*4<=140737488355328:=by intro k hk;omega
 have hq:∀k,9223372036854775800<=k->out.length<=k:=by intro k hk;omega
 have hw:=JD (i:=i) om;have app:∀y:Int,ri .i32 (out++[y])=ri .i32 out++[[V.v (.int .i32 y)]]:=by intro y;rw[<-ri_app];rfl
 by_cases h10:x=10
 ·subst h10
  have e13:((10:Int)==13)=false:=rfl;have e12:((10:Int)==12)=false:=rfl;have e0:((10:Int)==0)=false:=rfl;have n10:((10:Int) !=10)=false:=rfl
  cases hb:last==13 with
  |true=>
   have nl:(last !=13)=false:=by simp[bne,hb]
   have ed:Q4 true 10=[]:=rfl
   simp only[go_sem,jB,b23,Tryz.f23,hd,hx,hr,hq,hw,ed,e13,e12,e0,n10,nl,Aq]
  |false=>
   have nl:(last !=13)=true:=by simp[bne,hb]
   have ed:Q4 false 10=[10]:=rfl;simp only[go_sem,jB,b23,Tryz.f23,hd,hx,hr,hq,hw,ed,e13,e12,e0,n10,nl,app]
 have n10:(x !=10)=true:=by simp[h10]
 have e10:(x==10)=false:=by simp[h10]
 by_cases h13:x=13
 ·subst h13
  have e13:((13:Int)==13)=true:=rfl;have ed:Q4 (last==13) 13=[10]:=rfl;simp only[go_sem,jB,b23,Tryz.f23,hd,hx,hr,hq,hw,ed,e13,n10,app]
 have e13:(x==13)=false:=by simp[h13]
 by_cases h12:x=12
 ·subst h12
  have e12:((12:Int)==12)=true:=rfl;have ed:Q4 (last==13) 12=[10]:=rfl;simp only[go_sem,jB,b23,Tryz.f23,hd,hx,hr,hq,hw,ed,e13,n10,e12,app]
 have e12:(x==12)=false:=by simp[h12]
 by_cases h0:x=0
 ·subst h0
  have e0:((0:Int)==0)=true:=rfl;have ed:Q4 (last==13) 0=[65533]:=rfl;simp only[go_sem,jB,b23,Tryz.f23,hd,hx,hr,hq,hw,ed,e13,n10,e12,e0,app]
 have e0:(x==0)=false:=by simp[h0]
 have ed:Q4 (last==13) x=[x]:=by simp[Q4,e10,e13,e12,e0]
 simp only[go_sem,jB,b23,Tryz.f23,hd,hx,hr,hq,hw,ed,e13,n10,e12,e0,app]
theorem JZD{lo:Nat}{l:List Int}{h:Heap}(hl:l.length<=1000000000):∀(n i:Nat) (out:List Int) (last:Int),n=l.length-i->i<=l.length->out.length<=i->
  ∃last':Int,JA (evCode ⟨Aa,E,lo,h.length,h23⟩ JA jB) ([(3,.list .yes (ri .i32 out)),(4,.v (.int .i32 last)),(32,.list .no (ri .i32 l)),(33,.v (.int .i64 l.length)),(34,.v (.int .i64 i))],h)=
   some (.exit 0,[(3,.list .yes (ri .i32 (out++dec (last==13) (l.drop i)))),(4,.v (.int .i32 last')),(32,.list .no (ri .i32 l)),(33,.v (.int .i64 l.length)),(34,.v (.int .i64 l.length)),(35,.v (.bool false))],h):=by
 intro n
 induction n with
 |zero=>
  intro i out last hn hi ho;obtain rfl:i=l.length:=om;rw[JB];have hd:decide ((l.length:Int)<l.length)=false:=by simp
  refine⟨last,?_⟩
  simp only[go_sem,jB,b23,Tryz.f23,hd,Bw,dec]
 |succ n ih=>
  intro i out last hn hi ho;have hlt:i<l.length:=om;have hx:l[i]? =some l[i]:=Ad hlt
  have he:=yJ (last==13) l[i];obtain⟨b',hb⟩:=ih (i+1) (out++Q4 (last==13) l[i]) l[i] om om (by rw[An];omega)
  refine⟨b',?_⟩
  rw[JB,JUP hx hlt hl om,JK,hb,AE hlt,dec,Aw]
theorem JBo(b:List Int):(raw b).length<=b.length:=(JNy b).1
theorem yK(b:List Int):(QO b).length<=b.length:=by
 unfold QO
 split
 ·rw[Ay];omega
 ·omega
theorem f19{lo:Nat}{b:List Int}{h:Heap}(hb:b.length<=1000000000)(hy:By b):E lo 19 [.list .no (ri .u8 b)] h=some (.list .no (ri .i32 (Utf.decode b)),h):=by
 rw[e19];have hr:=JBo (QO b);have hs:=yK b;have hf:=λlo h=>f34 (lo:=lo) (h:=h) (b:=QO b) om (JH4 hy)
 obtain⟨q,hL⟩:=JZC (lo:=lo) (h:=h) (l:=raw (QO b)) om _ 0 [] false rfl om (by simp)
 simp only[jA,b19,Tryz.f19,JG,JT,JC,go_sem,J4,AG]at hL;rw[Utf.decode];by_cases h3:3<=b.length
 ·have t3:decide ((3:Int)<=b.length)=true:=by simp;omega
  obtain⟨a1,a2,a3,t,he⟩:∃a1 a2 a3 t,b=a1::a2::a3::t:=by
   match b,h3 with
   |a1::a2::a3::t,_=>exact⟨_,_,_,_,rfl⟩
  have x1:b[0]? =some a1:=by rw[he];rfl
  have x2:b[1]? =some a2:=by rw[he];rfl
  have x3:b[2]? =some a3:=by rw[he];rfl
  have hv:bom b=(a1==239&&(a2==187&&a3==191)):=by rw[he];simp[bom]
  cases hm:bom b with
  |true=>
   have hd:QO b=b.drop 3:=by rw[QO,if_pos hm]
   rw[hv]at hm;simp only[Ah]at hm;rw[hd]at hf hL⊢
   simp only[go_sem,b19,Tryz.f19,t3,x1,x2,x3,hm.1,hm.2.1,hm.2.2,JGh,JGi,h3,Ac,and_self,hf,hL]
  |false=>
   have hd:QO b=b:=by rw[QO,if_neg (by simp[hm])]
   rw[hv]at hm;rw[hd]at hf hL⊢
   cases g1:a1==239 with
   |false=>simp only[go_sem,b19,Tryz.f19,t3,x1,x2,x3,g1,hf,hL]
   |true=>
    cases g2:a2==187 with
    |false=>simp only[go_sem,b19,Tryz.f19,t3,x1,x2,x3,g1,g2,hf,hL]
    |true=>
     cases g3:a3==191 with
     |false=>simp only[go_sem,b19,Tryz.f19,t3,x1,x2,x3,g1,g2,g3,hf,hL]
     |true=>simp[g1,g2,g3]at hm
 ·have t3:decide ((3:Int)<=b.length)=false:=by simp;omega
  have hm:bom b=false:=by
   match b,h3 with
   |[],_=>rfl
   |[_],_=>simp[bom]
   |[_,_],_=>simp[bom]
   |_::_::_::_,h3=>simp at h3
  have hd:QO b=b:=by rw[QO,if_neg (by simp[hm])]
  rw[hd]at hf hL⊢;simp only[go_sem,b19,Tryz.f19,t3,hf,hL]
theorem f23{lo:Nat}{b:List Int}{h:Heap}(hb:b.length<=1000000000)(hy:By b):E lo 23 [.list .no (ri .u8 b)] h=some (.list .no (ri .i32 (Utf.decode b)),h):=by
 rw[e23];have hr:=JBo (QO b);have hs:=yK b;have hf:=λlo h=>f45 (lo:=lo) (h:=h) (b:=QO b) om (JH4 hy)
 obtain⟨q,hL⟩:=JZD (lo:=lo) (h:=h) (l:=raw (QO b)) om _ 0 [] 0 rfl om (by simp)
 have z:((0:Int)==13)=false:=rfl;simp only[jB,b23,Tryz.f23,JG,JT,JC,go_sem,J4,AG,z]at hL;rw[Utf.decode];by_cases h3:3<=b.length
 ·have t3:decide ((3:Int)<=b.length)=true:=by simp;omega
  obtain⟨a1,a2,a3,t,he⟩:∃a1 a2 a3 t,b=a1::a2::a3::t:=by
   match b,h3 with
   |a1::a2::a3::t,_=>exact⟨_,_,_,_,rfl⟩
  have x1:b[0]? =some a1:=by rw[he];rfl
  have x2:b[1]? =some a2:=by rw[he];rfl
  have x3:b[2]? =some a3:=by rw[he];rfl
  have hv:bom b=(a1==239&&(a2==187&&a3==191)):=by rw[he];simp[bom]
  cases hm:bom b with
  |true=>
   have hd:QO b=b.drop 3:=by rw[QO,if_pos hm]
   rw[hv]at hm;simp only[Ah]at hm;rw[hd]at hf hL⊢
   simp only[go_sem,b23,Tryz.f23,t3,x1,x2,x3,hm.1,hm.2.1,hm.2.2,JGh,JGi,h3,Ac,and_self,hf,hL]
  |false=>
   have hd:QO b=b:=by rw[QO,if_neg (by simp[hm])]
   rw[hv]at hm;rw[hd]at hf hL⊢
   cases g1:a1==239 with
   |false=>simp only[go_sem,b23,Tryz.f23,t3,x1,x2,x3,g1,hf,hL]
   |true=>
    cases g2:a2==187 with
    |false=>simp only[go_sem,b23,Tryz.f23,t3,x1,x2,x3,g1,g2,hf,hL]
    |true=>
     cases g3:a3==191 with
     |false=>simp only[go_sem,b23,Tryz.f23,t3,x1,x2,x3,g1,g2,g3,hf,hL]
     |true=>simp[g1,g2,g3]at hm
 ·have t3:decide ((3:Int)<=b.length)=false:=by simp;omega
  have hm:bom b=false:=by
   match b,h3 with
   |[],_=>rfl
   |[_],_=>simp[bom]
   |[_,_],_=>simp[bom]
   |_::_::_::_,h3=>simp at h3
  have hd:QO b=b:=by rw[QO,if_neg (by simp[hm])]
  rw[hd]at hf hL⊢;simp only[go_sem,b23,Tryz.f23,t3,hf,hL]
end Go.Lift.W1.T
end
