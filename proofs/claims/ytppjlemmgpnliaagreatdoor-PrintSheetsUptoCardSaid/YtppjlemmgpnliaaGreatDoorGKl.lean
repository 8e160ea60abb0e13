/- strings.Builder: copyCheck, WriteRune, String, as the lifting takes them. -/
import Derived.Shelf.Strings.BuilderRune
import Derived.WalkKit
import Derived.Lib.Bytealg
import Derived.Laws.Bits64b
import Derived.Shelf.Spec.TrailingZeros
import Derived.Lib.AppendIntMem
import Derived.Lib.LaidU8
import Derived.Lib.LaidTab
import Derived.Lib.LaidIn
import Derived.Deep.DeepHandedRow
import Derived.Deep.DeepWitnessRowRef
import Derived.Test.YtppjlemmgpnliaaGreatDoorRows
import Derived.JoinedOf
import Derived.ProofKit
import Derived.Test.YtppjlemmgpnliaaGreatDoorGK5Basea
import Derived.Test.YtppjlemmgpnliaaGreatDoorGKi
import Derived.Test.YtppjlemmgpnliaaGreatDoorGKk
open Array renaming getElem?_eq_some_iff->AX,getElem?_modify->CE,size_replicate->Ds
open Go.Proofs.Tryz renaming prog->Aa
open Go.Result renaming andThen->GI
open Go.Value renaming int->AQ
open Go.World renaming shape? ->DZ
open List renaming getD->Mw,getElem?_eq_getElem->Ac,getElem?_eq_some_iff->Ad,getElem?_map->Ax,getElem?_set_self->DM,length_cons->Ae,mem_cons->A2,mem_of_getElem? ->Ar
open Nat renaming le_refl->Ab,lt_or_ge->AG,zero_add->AE
open Option renaming map_eq_some_iff->Ak
set_option linter.unusedVariables false
set_option linter.unusedSimpArgs false
set_option linter.unusedSectionVars false
set_option maxRecDepth 100000
set_option maxHeartbeats 4000000
section
open Go.Proofs
namespace Go.Lift.M1
variable[MX]
open Utf Go.RowKit
theorem extra105:Builder.Extra Aa Tryz.lays105_ren where
 sizeBuilder:=kr
 liesBuilder:=kr
 t5:=kr
 a5:=Tryz.lays105.a5
 z5:=Tryz.lays105.z5
 v5:=Tryz.lays105.v5
 infoByte:=kr
 cellsByte:=kr
 sizeByte:=kr
 neB5:=by decide
theorem jP:Aa.follows .mixedOrders=true:=kr
section
variable{m:List Nat}{c:Cl}{w:World}{h:JC}{out:List Int}{r:Int}{y:Value}
def JTy(m:List Nat)(c:Cl)(w:World)(h:JC)(y:Value)(out':List Int)(z:Value)(w':World):Prop:=
 ∃c',zK m c' w' h/\yN m c' w' h (ri .u8 out') z/\FrY y w c w' c'/\ ∀b,Jo z=some b->w.heap.size<=b\/Jo y=some b
theorem JYQ(hO:yN m c w h (ri .u8 out) y):R2 (VRr m c w) (V.list .yes (ri .u8 out)::[.v (.int .i32 r)]) (#[y,.int .i32 r]:Array Value).toList:=by
 refine⟨rfl,λi x z hx hz=>?_⟩
 match i with
 |0=>cases hx;cases hz;exact hO.1
 |1=>cases hx;cases hz;rfl
 |i+2=>simp at hx
theorem Jie(h0: -2147483648<=r)(h1:r<=2147483647)(hna:r<0\/128<=r)(hl:out.length<=1000000000)(hH:zK m c w h)(hO:yN m c w h (ri .u8 out) y):
  Calls Aa 169 #[y,.int .i32 r] w λe w'=>∃z,e= .returned z/\JTy m c w h y (out++enc (JQ r)) z w':=
 (JRT (hints:=hints) (prim:=JTx) jP (λ_ _ hp=>by cases hp) (f:=169) (t:=4) (hi:=JVf) (xs:= #[y,.int .i32 r]) Tryz.func169 rfl Tryz.ntmps169 rfl Jou rfl rfl (by simp) (Jic h0 h1 hna hl) (.inr rfl) rfl hH hO (JYQ hO)).mono
  λe w' ⟨z,c',he,k1,k2,k3,k4⟩=>⟨z,he,c',k1,k2,k3,k4⟩
theorem JXR(h0: -2147483648<=r)(h1:r<=2147483647)(hl:out.length<=1000000000)(hH:zK m c w h)(hO:yN m c w h (ri .u8 out) y):
  Calls Aa 153 #[y,.int .i32 r] w λe w'=>∃z,e= .returned z/\JTy m c w h y (out++enc (JQ r)) z w':=by
 by_cases hna:r<0\/128<=r
 ·have k:=Jie h0 h1 hna hl hH hO
  have hq:decide (IntKind.u32.wrap r<=127)=false:=by
   rcases hna with hn|hn
   ·rw[JLD h0 hn];simp;omega
   ·rw[yt om h1];simp;omega
  clear hO hH
  go_enter Tryz.func153,Tryz.ntmps153
  go_wp2_with (go_at_call 169;refine k.mono ?_;rintro e w' ⟨z,rfl,hg⟩)
  go_ret
  exact⟨z,rfl,hg⟩
 ·exact(JRT (hints:=hints) (prim:=JTx) jP (λ_ _ hp=>by cases hp) (f:=153) (t:=4) (hi:=JVe) (xs:= #[y,.int .i32 r]) Tryz.func153 rfl Tryz.ntmps153 rfl Jok rfl rfl (by simp) (Jid om om hl) (.inr rfl) rfl hH hO (JYQ hO)).mono
   λe w' ⟨z,c',he,k1,k2,k3,k4⟩=>⟨z,he,c',k1,k2,k3,k4⟩
end
section
variable{m:List Nat}{c:Cl}{w:World}{h:JC}{E:Entry}
theorem Jcr{b:Nat}{w:World}(h0:w.cell? ⟨b,0,none⟩=some (.pointer none))(hsh:w.shape? b=some (40,3))(hfz:w.frozen? ⟨b,0,none⟩=false):
  Calls Aa 42 #[.pointer (some ⟨b,0,none⟩)] w λe w'=>e= .returned (.tuple #[])/\w'=w.setCell ⟨b,0,none⟩ (.pointer (some ⟨b,0,none⟩)):=by
 obtain⟨j,hj,hjs⟩:=Ak.1 extra105.sizeBuilder
 go_enter Tryz.func42,Tryz.ntmps42
 go_wp2
 rw[Lib.run_to_unsafe w ⟨b,0,none⟩ Tryz.underlying36 Tryz.underlying112 hj (by rw[hjs];decide) hsh (Nat.zero_lt_succ 2)]
 simp only[GI];rw[Oper.upon_value]
 go_wp2
 rw[run_callFunc_extern Tryz.func74 kr kr kr (e:=Extern.AbiNoEscape.same) kr];rw[Lib.run_noEscape];simp only[GI];rw[Oper.upon_value]
 go_wp2
 rw[Lib.run_from_unsafe w ⟨b,0,none⟩ Tryz.underlying112 Tryz.underlying36 hj hsh kr];simp only[GI];rw[Oper.upon_value]
 go_wp2
 go_end0
 exact⟨rfl,rfl⟩
theorem JTz(hI:InvP [] E m c w [] h YT){i b:Nat}{p0 x:V}{r:List V}(hr1:r.length<=1)(hi:h[i]? =some (.cells (p0::x::r)))(hm:m[i]? =some b)(hlo:E.lo<=i)(hp:H0 i p0=true):
  ∃w1,(Calls Aa 42 #[.pointer (some ⟨b,0,none⟩)] w λe w'=>e= .returned (.tuple #[])/\w'=w1)/\InvP [] E m c w1 [] (Lift.setOb h i (.ptr i 0::x::r)) YT:=by
 obtain⟨arr,e,f,hw,hle,hfr,hall,hbld⟩:=JGG hI.hok hi hm;have hcs:cellsOfOb h i=some (p0::x::r):=by unfold cellsOfOb;rw[hi]
 have hsz0:0<arr.size:=by simp at hle;omega
 obtain⟨a0,ha0⟩:∃a0,arr[0]? =some a0:=⟨_,Array.getElem?_eq_getElem hsz0⟩
 have hr0:=hall 0 p0 a0 rfl ha0;have hc0:w.cell? ⟨b,0,none⟩=some a0:=by rw[Jm hw];exact ha0
 unfold H0 at hp
 split at hp
 ·have hx:a0= .pointer none:=hr0.1
  rw[hx]at hc0
  have k:Calls Aa 42 #[.pointer (some ⟨b,0,none⟩)] w λe w'=>e= .returned (.tuple #[])/\w'=w.setCell ⟨b,0,none⟩ (.pointer (some ⟨b,0,none⟩)):=by
   match r,hr1,hbld with
   |[],_,hbld=>
    obtain⟨rfl,hsz⟩:=hbld 38 rfl rfl;have hsh:w.shape? b=some (38,2):=by simp[DZ,hw,hsz]
    exact Any.Builder_copyCheck_fresh (P:=Aa) (ρ:=Tryz.lays105_ren) {Tryz.lays105 with} extra105.toX72 b w hc0 hsh (hfr 0 (by simp))
   |[y],_,hbld=>
    obtain⟨rfl,hsz⟩:=hbld 40 rfl rfl;have hsh:w.shape? b=some (40,3):=by simp[DZ,hw,hsz]
    exact Jcr hc0 hsh (hfr 0 (by simp))
  obtain⟨hI',_⟩:=WQ (P:=Aa) hI (off:=0) (vs:=[.ptr i 0]) (ys:=[.pointer (some ⟨b,0,none⟩)]) 3 hcs hm hlo (by simp) ⟨rfl,λj v y hv hy=>by
    match j with
    |0=>cases hv;cases hy;exact⟨b,hm,rfl⟩
    |j+1=>simp at hv⟩ (λy hy=>by simp at hy;subst hy;rfl) (λj r y hv hy=>by
    match j with
    |0=>cases hv
    |j+1=>simp at hv) (.inr (by simp;omega)) (λt i j r=>by simp[look]) (λ_ v hv=>by simp at hv;subst hv;simp[okv,okc]) rfl
  exact⟨_,k,hI'⟩
 ·rename_i j
  rw[beq_iff_eq]at hp;subst hp;obtain⟨g,hg,hx⟩:=hr0.1;rw[hm]at hg;cases hg;rw[hx]at hc0;have k:=Any.Builder_copyCheck_used (P:=Aa) (ρ:=Tryz.lays105_ren) {Tryz.lays105 with} extra105.toX72 b w hc0
  refine⟨w,k,?_⟩
  have e1:Lift.setOb h j (.ptr j 0::x::r)=h:=by
   unfold Lift.setOb;apply List.ext_getElem?;intro n;rw[List.getElem?_set]
   split
   ·rename_i hn
    subst hn;rw[hi];simp;exact(Ad.1 hi).1
   ·rfl
  rw[e1];exact hI
 ·cases hp
end
theorem JDL{h:JC}{i lo:Nat}{cs cs0:List V}(hlo:lo<=i)(h0:h[i]? =some (.cells cs0))(hk:∀n,i<n->(∀v∈cs0,okv n v=true)->∀v∈cs,okv n v=true):
  (Lift.setOb h i cs).length=h.length/\(Lift.setOb h i cs).take lo=h.take lo/\Keeps h.length h (Lift.setOb h i cs):=by
 refine⟨by unfold Lift.setOb;exact List.length_set,by unfold Lift.setOb;exact List.take_set_of_le hlo,λn j cs' hj hjn hcs h1=>?_⟩
 have hil:i<h.length:=(Ad.1 h0).1
 unfold cellsOfOb Lift.setOb at hcs;by_cases hji:j=i
 ·subst hji
  rw[DM hil]at hcs
  cases hcs;exact hk n hjn (h1 cs0 (by unfold cellsOfOb;rw[h0]))
 ·rw[List.getElem?_set_ne (λe=>hji e.symm)]at hcs
  exact h1 cs' hcs
theorem JT0{n i o:Nat}(h:i<n):okv n (.ptr i o)=true:=by simp[okv,okc];omega
theorem JOQ{m:List Nat}{c:Cl}{w:World}{i:Nat}{xs:Array Value}(h:R2 (VRr m c w) [.ptr i 0] xs.toList):∃b,m[i]? =some b/\xs= #[.pointer (some ⟨b,0,none⟩)]:=by
 obtain⟨l⟩:=xs
 match l,h.1 with
 |[x],_=>obtain⟨b,hb,rfl⟩:∃g,m[i]? =some g/\x= .pointer (some ⟨g,0,none⟩):=h.2 0 _ _ rfl rfl;exact⟨b,hb,rfl⟩
theorem JT1{m:List Nat}{c:Cl}{w:World}{i:Nat}{a:Value}{xs:Array Value}(h:R2 (VRr m c w) [.ptr i 0,.v a] xs.toList):∃b,m[i]? =some b/\xs= #[.pointer (some ⟨b,0,none⟩),a]:=by
 obtain⟨l⟩:=xs
 match l,h.1 with
 |[x,y],_=>obtain⟨b,hb,rfl⟩:∃g,m[i]? =some g/\x= .pointer (some ⟨g,0,none⟩):=h.2 0 _ _ rfl rfl;have hy:y=a:=h.2 1 _ _ rfl rfl;subst hy;exact⟨b,hb,rfl⟩
theorem Jif{lo i:Nat}{h:JC}{p0 x:V}{r:List V}(hr1:r.length<=1)(hi:h[i]? =some (.cells (p0::x::r)))(hlo:lo<=i)(hlh:lo<=h.length)(hp:H0 i p0=true):
  CallOK0 Aa lo 42 [.ptr i 0] h (.tup []) (Lift.setOb h i (.ptr i 0::x::r)):=by
 refine⟨rfl,enters_of Tryz.func42 kr rfl,λm c w xs hH ha=>⟨JDL hlo hi (λn hn hv v hm=>by
  rcases A2.1 hm with rfl|hm
  ·exact JT0 hn
  ·exact hv v (A2.2 (.inr hm))),?_⟩⟩
 obtain⟨b,hm,rfl⟩:=JOQ ha;obtain⟨w1,hk,hI⟩:=JTz (Jau hH hlh) hr1 hi hm hlo hp;refine hk.mono λe w' ⟨he,hw⟩=>?_
 subst hw;obtain⟨_,k1,k2,k3⟩:=JRU hH.1.len hI;exact⟨_,c,he,⟨#[],rfl,R2.nil⟩,k1,k2,k3⟩
theorem JXS{b:Nat}{r:Int}{w w1:World}{ao:Option Addr}{n cap:Nat}{Q:Value->World->Prop}
  (hcc:Calls Aa 42 #[.pointer (some ⟨b,0,none⟩)] w λe w'=>e= .returned (.tuple #[])/\w'=w1)
  (c1:w1.cell? ⟨b,1,none⟩=some (.slice ao n cap))
  (hr:Calls Aa 153 #[.slice ao n cap,.int .i32 r] w1 λe w'=>∃z,e= .returned z/\Q z w')
  (hq:∀z w',Q z w'->w'.cell? ⟨b,1,none⟩=some (.slice ao n cap)/\w'.frozen? ⟨b,1,none⟩=false/\ ∃zo k zc,z= .slice zo k zc):
  Calls Aa 131 #[.pointer (some ⟨b,0,none⟩),.int .i32 r] w λe w'=>∃zo k zc w2,Q (.slice zo k zc) w2/\e= .returned (.tuple #[.int .i64 (wrap64 ((k:Int)-(n:Int))),.nilIface])/\w'=w2.setCell ⟨b,1,none⟩ (.slice zo k zc):=by
 go_enter Tryz.func131,Tryz.ntmps131
 go_wp2_with (go_at_call 42;refine hcc.mono ?_;rintro e w' ⟨rfl,rfl⟩)
 go_wp2_with (go_at_call 153;refine hr.mono ?_;rintro e w2 ⟨z,rfl,hz⟩;obtain⟨d1,f1,zo,k,zc,rfl⟩:=hq _ _ hz)
 go_ret2
 exact⟨zo,k,zc,_,hz,rfl,rfl⟩
theorem JDM{c:Cl}{w:World}{k:Own}{rows:List (List V)}{x:Value}(h:VP c w (.list k rows) x):∃ao cap,x= .slice ao rows.length cap:=by
 cases h with
 |empty=>exact⟨_,_,rfl⟩
 |list=>exact⟨_,_,rfl⟩
theorem JAr{h:JC}{i:Nat}{cs:List V}(hi:i<h.length):cellsOfOb (Lift.setOb h i cs) i=some cs:=by unfold cellsOfOb Lift.setOb;rw[DM hi]
theorem JAs{h:JC}{i:Nat}{cs ds:List V}:Lift.setOb (Lift.setOb h i cs) i ds=Lift.setOb h i ds:=by unfold Lift.setOb;rw[List.set_set]
theorem Jig{lo i:Nat}{h:JC}{p0:V}{out:List Int}{r:Int}(hi:h[i]? =some (.cells [p0,.list .yes (ri .u8 out)]))(hlo:lo<=i)(hlh:lo<=h.length)(hp:H0 i p0=true)
  (h0: -2147483648<=r)(h1:r<=2147483647)(hl:out.length<=1000000000):
  CallOK0 Aa lo 131 [.ptr i 0,.v (.int .i32 r)] h (.tup [.v (.int .i64 ((enc (JQ r)).length:Nat)),.v .nilIface]) (Lift.setOb h i [.ptr i 0,.list .yes (ri .u8 (out++enc (JQ r)))]):=by
 refine⟨rfl,enters_of Tryz.func131 kr rfl,λm c w xs hH ha=>⟨JDL hlo hi (λn hn hv v hm=>by
  rcases A2.1 hm with rfl|hm
  ·exact JT0 hn
  ·obtain rfl:v=_:=by simpa using hm
   rfl),?_⟩⟩
 obtain⟨b,hm,rfl⟩:=JT1 ha;have hil:i<h.length:=(Ad.1 hi).1
 obtain⟨w1,hcc,hI1⟩:=JTz (Jau hH hlh) (r:=[]) (by simp) hi hm hlo hp
 have hcs1:=JAr (cs:=[.ptr i 0,.list .yes (ri .u8 out)]) hil
 have hi1:(Lift.setOb h i [.ptr i 0,.list .yes (ri .u8 out)])[i]? =some (.cells [.ptr i 0,.list .yes (ri .u8 out)]):=by unfold Lift.setOb;rw[DM hil]
 obtain⟨y,hat,hI2,hO⟩:=Gl hI1 hcs1 (j:=1) rfl hlo;obtain⟨arr,e0,f0,hw0,hle0,hfr0,_,_⟩:=JGG hI1.hok hi1 hm
 have hc1:w1.cell? ⟨b,1,none⟩=some y:=by obtain⟨cs,b',k1,k2,k3,k4⟩:=hat;rw[hm]at k3;cases k3;exact k4
 have hy:=hO.1;obtain⟨ao,cap,rfl⟩:=JDM hy;have hOH:yN m c w1 (Lift.setOb (Lift.setOb h i [.ptr i 0,.list .yes (ri .u8 out)]) i (([.ptr i 0,.list .yes (ri .u8 out)]:List V).set 1 (.list .no (ri .u8 out)))) (ri .u8 out) (.slice ao (ri .u8 out).length cap):=⟨hO.1,hO.2.1,hO.2.2.1⟩;have hrune:=JXR h0 h1 hl hI2.hok hOH;have hbl:b<w1.heap.size:=(AX.1 hw0).1
 have hq:∀z w',JTy m c w1 (Lift.setOb (Lift.setOb h i [.ptr i 0,.list .yes (ri .u8 out)]) i (([.ptr i 0,.list .yes (ri .u8 out)]:List V).set 1 (.list .no (ri .u8 out)))) (.slice ao (ri .u8 out).length cap) (out++enc (JQ r)) z w'->
   w'.cell? ⟨b,1,none⟩=some (.slice ao (ri .u8 out).length cap)/\w'.frozen? ⟨b,1,none⟩=false/\ ∃zo k zc,z= .slice zo k zc:=λz w' ⟨c',g1,g2,g3,g4⟩=>by
  have hbb:=(g3.2.2.2.2.2 b hbl (λe=>(hO.2.1.lt e).2 (Ar hm))).1
  obtain⟨zo,zc,rfl⟩:=JDM g2.1;exact⟨by rw[JR hbb];exact hc1,by rw[Hi hbb];exact hfr0 1 (by simp),_,_,_,rfl⟩
 refine(JXS hcc hc1 hrune hq).mono λe w' ⟨zo,k,zc,w2,⟨c',g1,g2,g3,g4⟩,he,hw'⟩=>?_
 subst hw';have hI3:=JRV hI2 hO.2.1 hO.2.2.2 g1 g3
 have hk:k=(ri .u8 (out++enc (JQ r))).length:=by
  obtain⟨zo',zc',hz⟩:=JDM g2.1
  injection hz
 have hcs2:=JAr (h:=Lift.setOb h i [.ptr i 0,.list .yes (ri .u8 out)]) (cs:=([.ptr i 0,.list .yes (ri .u8 out)]:List V).set 1 (.list .no (ri .u8 out))) (i:=i) (by unfold Lift.setOb;simpa using hil)
 have hsz1:w.heap.size<=w1.heap.size:=hI1.fr.size
 obtain⟨hI4,_⟩:=WQ (P:=Aa) hI3 (off:=1) (vs:=[.list .yes (ri .u8 (out++enc (JQ r)))]) (ys:=[.slice zo k zc]) 1 hcs2 hm hlo (by simp) ⟨rfl,λj v y hv hy=>by
   match j with
   |0=>cases hv;cases hy;exact zD g2.1
   |j+1=>simp at hv⟩ (λy hy=>by simp at hy;subst hy;rfl) (λj r' y hv hy=>by
   match j with
   |0=>
    cases hv;cases hy;refine .inr ⟨rfl,g2.2.1,g2.2.2,λbb hbb=>?_⟩
    rcases g4 bb hbb with h'|h'
    ·exact .inl (Nat.le_trans hsz1 h')
    ·exact hO.2.2.2 bb h'
   |j+1=>simp at hv) (.inl ⟨Ab _,by simp⟩) (λt i j r=>by simp[look]) (λ_ v hv=>by simp at hv;subst hv;exact .inl rfl) rfl
 obtain⟨_,q1,q2,q3⟩:=JRU hH.1.len hI4
 have hheap:Lift.setOb (Lift.setOb (Lift.setOb h i [.ptr i 0,.list .yes (ri .u8 out)]) i (([.ptr i 0,.list .yes (ri .u8 out)]:List V).set 1 (.list .no (ri .u8 out)))) i (List.take 1 (([.ptr i 0,.list .yes (ri .u8 out)]:List V).set 1 (.list .no (ri .u8 out)))++[.list .yes (ri .u8 (out++enc (JQ r)))]++List.drop (1+([.list .yes (ri .u8 (out++enc (JQ r)))]:List V).length) (([.ptr i 0,.list .yes (ri .u8 out)]:List V).set 1 (.list .no (ri .u8 out))))=
   Lift.setOb h i [.ptr i 0,.list .yes (ri .u8 (out++enc (JQ r)))]:=by
  rw[JAs,JAs]<;>rfl
 rw[hheap]at q1 q3;refine⟨_,c',he,⟨_,rfl,?_⟩,q1,q2,q3⟩
 have hlen:wrap64 ((k:Int)-((ri .u8 out).length:Int))=((enc (JQ r)).length:Int):=by
  have he4:(enc (JQ r)).length<=4:=by
   unfold enc
   split
   ·simp
   ·split
    ·simp
    ·split<;>simp
  have e1:∀l:List Int,(ri .u8 l).length=l.length:=λl=>by simp[ri]
  rw[hk,e1,e1,List.length_append];unfold wrap64;omega
 rw[hlen];refine⟨rfl,λj v y hv hy=>?_⟩
 match j with
 |0=>cases hv;cases hy;rfl
 |1=>cases hv;cases hy;rfl
 |j+2=>simp at hv
theorem Ge{w:World}{a:Addr}{x:Value}(h:w.cell? a=some x):w.drew.cell? a=some x:=h
theorem JXT{b:Nat}{w:World}(c1:w.cell? ⟨b,1,none⟩=some (.slice none 0 0)):
  Calls Aa 24 #[.pointer (some ⟨b,0,none⟩)] w λe w'=>e= .returned (.string ⟨#[]⟩)/\w'=w.drew:=by
 have hUS:∀W q,(Builtin.unsafeString_ #[91,3] 9 #[.pointer q,.int .i64 0]).run Aa W= .ok (.string .empty) W:=λW q=>Any.unsafeString_none (P:=Aa) (ρ:=Tryz.lays105_ren) {Tryz.lays105 with} extra105 W q
 have mixed:=jP;have c1:=Ge c1;have hSD:(Builtin.unsafeSliceData_ #[22] 91 #[.slice none 0 0]).run Aa w.drew= .ok (.pointer none) w.drew:=rfl
 go_enter Tryz.func24,Tryz.ntmps24
 go_wp2
 go_region_o
 all_goals(go_wp2;go_ret;exact⟨rfl,rfl⟩)
theorem JXU{b g cap:Nat}{l:List UInt8}{cur:Array Value}{w:World}(c1:w.cell? ⟨b,1,none⟩=some (.slice (some ⟨g,0,none⟩) l.length cap))(hg:w.heap[g]? =some (.cells cur 5 (0,0)))(h0:l≠[])(hcap:cap≠0)(hle:l.length<=cur.size)
  (h63:l.length<=9223372036854775807)(hcell:∀j x,l[j]? =some x->w.cell? ⟨g,j,none⟩=some (.int .u8 x.toNat)):
  Calls Aa 24 #[.pointer (some ⟨b,0,none⟩)] w λe w'=>e= .returned (.string ⟨l.toArray⟩)/\w'=w.drew.freeze ⟨g,0,none⟩ l.length:=by
 have c1:=Ge c1
 have hSD:(Builtin.unsafeSliceData_ #[22] 91 #[.slice (some ⟨g,0,none⟩) l.length cap]).run Aa w.drew= .ok (.pointer (some ⟨g,0,none⟩)) w.drew:=
  Lib.run_unsafeSliceData_row _ _ _ _ _ _ hcap
 have mixed:=jP
 have hUS:(Builtin.unsafeString_ #[91,3] 9 #[.pointer (some ⟨g,0,none⟩),.int .i64 l.length]).run Aa w.drew= .ok (.string ⟨l.toArray⟩) (w.drew.freeze ⟨g,0,none⟩ l.length):=by
  refine Lib.run_unsafeString_row w.drew 91 3 9 5 Tryz.underlying91 kr g cur.size (by have hg':w.drew.heap[g]? =some (.cells cur 5 (0,0)):=hg;simp[DZ,hg']) l h0 hle h63 ?_
  intro j x hx;have:=hcell j x hx;rw[Lib.add_plain,AE];exact Ge this
 go_enter Tryz.func24,Tryz.ntmps24
 go_wp2
 go_region_o
 all_goals(go_wp2;go_ret;exact⟨rfl,rfl⟩)
theorem JXV{b g:Nat}{cur:Array Value}{e0:TypeId}{f0:Nat×Nat}{w:World}(hb:b<w.heap.size)(c1:w.cell? ⟨b,1,none⟩=some (.slice (some ⟨g,0,none⟩) 0 0))(hg:w.heap[g]? =some (.cells cur e0 f0)):
  Calls Aa 24 #[.pointer (some ⟨b,0,none⟩)] w λe w'=>e= .returned (.string ⟨#[]⟩)/\Below w.heap.size w w':=by
 have hUS:∀W q,(Builtin.unsafeString_ #[91,3] 9 #[.pointer q,.int .i64 0]).run Aa W= .ok (.string .empty) W:=λW q=>Any.unsafeString_none (P:=Aa) (ρ:=Tryz.lays105_ren) {Tryz.lays105 with} extra105 W q
 have mixed:=jP
 have c2:(w.drew.alloc (.view ⟨g,0,none⟩ 5)).cell? ⟨b,1,none⟩=some (.slice (some ⟨g,0,none⟩) 0 0):=by rw[JR (w:=w.drew) (Lib.alloc_old w.drew _ b hb)];exact Ge c1
 have c1:=Ge c1
 have hSD:(Builtin.unsafeSliceData_ #[22] 91 #[.slice (some ⟨g,0,none⟩) 0 0]).run Aa w.drew= .ok (.pointer (some ⟨w.drew.heap.size,0,none⟩)) (w.drew.alloc (.view ⟨g,0,none⟩ 5)):=
  Lib.run_unsafeSliceData_zero w.drew _ _ 5 Tryz.underlying91 ⟨g,0,none⟩ 0 (e0,cur.size) (by have hg':w.drew.heap[g]? =some (.cells cur e0 f0):=hg;simp[DZ,hg'])
 go_enter Tryz.func24,Tryz.ntmps24
 go_wp2
 go_region_o
 all_goals(go_wp2;go_ret;exact⟨rfl,(Below.drew (Below.refl w.heap.size w)).alloc (Ab _) _⟩)
theorem JLG{w:World}{g n:Nat}{cur:Array Value}{e:TypeId}{f:Nat×Nat}(hg:w.heap[g]? =some (.cells cur e f)):
  (w.freeze ⟨g,0,none⟩ n).heap.size=w.heap.size/\(∀k,k≠g->(w.freeze ⟨g,0,none⟩ n).heap[k]? =w.heap[k]?)/\(∃f',(w.freeze ⟨g,0,none⟩ n).heap[g]? =some (.cells cur e f'))/\
   (w.freeze ⟨g,0,none⟩ n).os=w.os/\(w.freeze ⟨g,0,none⟩ n).tape=w.tape/\(w.freeze ⟨g,0,none⟩ n).output=w.output:=by
 unfold World.freeze
 split
 ·exact⟨rfl,λ_ _=>rfl,⟨f,hg⟩,rfl,rfl,rfl⟩
 ·refine⟨by simp,λk hk=>?_,?_,rfl,rfl,rfl⟩
  ·simp only[CE]
   rw[if_neg (Ne.symm hk)]
  ·simp only[CE,if_true,hg,Option.map_some]
   obtain⟨f1,f2⟩:=f;exact⟨_,rfl⟩
theorem Jcs{lo i:Nat}{h:JC}{p0:V}{out:List Int}{r:List V}(hi:h[i]? =some (.cells (p0:: .list .yes (ri .u8 out)::r)))(hlo:lo<=i)(hlh:lo<=h.length)(hby:By out)(hl:out.length<=1000000000):
  CallOK0 Aa lo 24 [.ptr i 0] h (.v (.string ⟨(Q1 out).toArray⟩)) (Lift.setOb h i (p0:: .list .no (ri .u8 out)::r)):=by
 refine⟨rfl,enters_of Tryz.func24 kr rfl,λm c w xs hH ha=>⟨JDL hlo hi (λn hn hv v hm=>by
  rcases A2.1 hm with rfl|hm
  ·exact hv v (by simp)
  ·rcases A2.1 hm with rfl|hm
   ·rfl
   ·exact hv v (by simp[hm])),?_⟩⟩
 obtain⟨b,hm,rfl⟩:=JOQ ha;have hcs:cellsOfOb h i=some (p0:: .list .yes (ri .u8 out)::r):=by unfold cellsOfOb;rw[hi]
 obtain⟨y,hat,hI2,hO⟩:=Gl (Jau hH hlh) hcs (j:=1) rfl hlo
 have hc1:w.cell? ⟨b,1,none⟩=some y:=by obtain⟨cs,b',k1,k2,k3,k4⟩:=hat;rw[hm]at k3;cases k3;exact k4
 have hbs:b<w.heap.size:=hH.1.m_lt hm
 have fin:∀w',InvP [] ⟨lo,h.length,w,m,c,hoOf m w h lo,h,0⟩ m c w' (Lift.untag []) (Lift.setOb h i ((p0:: .list .yes (ri .u8 out)::r:List V).set 1 (.list .no (ri .u8 out)))) YT->∀s:ByteArray,s=⟨(Q1 out).toArray⟩->
   ∃x c',Ending.returned (.string s)= .returned x/\VRr m c' w' (.v (.string ⟨(Q1 out).toArray⟩)) x/\zK m c' w' (Lift.setOb h i (p0:: .list .no (ri .u8 out)::r))/\Fr lo (hoOf m w h lo) w m c w' m c'/\JAN lo (hoOf m w h lo) w m w' [] (Lift.setOb h i (p0:: .list .no (ri .u8 out)::r)) YT:=λw' hI s hs=>by
  obtain⟨_,q1,q2,q3⟩:=JRU hH.1.len hI;subst hs;exact⟨_,c,rfl,rfl,q1,q2,q3⟩
 rcases hO.2.1 with⟨rfl,hr0⟩|⟨g,cap,cur,e,sz,rfl,k1,k2,k3,k4,k5,k6,k7,k8,k9,k10⟩
 ·have ho:out=[]:=by cases out with
   |nil=>rfl
   |cons x t=>cases hr0
  subst ho;refine(JXT hc1).mono λe w' ⟨he,hw⟩=>?_
  subst he hw;exact fin _ (hI2.grown (w':=w.drew) none (Ab _) (λ_ _ _=>⟨rfl,rfl⟩) (λ_ hb=>by cases hb) (λk hk _ h0=>absurd h0 (by rw[hI2.core.c_zero hk];omega)) rfl rfl rfl) _ rfl
 ·by_cases ho:out=[]
  ·subst ho
   obtain rfl:=k9 rfl;refine(JXV hbs hc1 k1).mono λe w' ⟨he,hw⟩=>?_
   subst he;exact fin _ (hI2.grown (w':=w') none hw.size (λk hk _=>⟨hw.block k hk,rfl⟩) (λ_ hb=>by cases hb) (λk hk _ h0=>absurd h0 (by rw[hI2.core.c_zero hk];omega)) hw.os hw.tape hw.output) _ rfl
  ·have hlen:(ri .u8 out).length=out.length:=by simp[ri]
   obtain rfl:e=5:=k10 5 rfl (by cases out with
    |nil=>exact absurd rfl ho
    |cons x t=>rfl)
   have hsz:sz=1:=by cases out with
    |nil=>exact absurd rfl ho
    |cons x t=>exact(k6 [.v (.int .u8 x)] (by simp[ri])).symm
   subst hsz;have hul:(Q1 out).length=out.length:=by simp[Q1]
   have hc1':w.cell? ⟨b,1,none⟩=some (.slice (some ⟨g,0,none⟩) (Q1 out).length cap):=by rw[hul,<-hlen];exact hc1
   have hpos:0<out.length:=List.length_pos_iff.2 ho;refine(JXU hc1' k1 (λh0=>by rw[h0]at hul;simp at hul;omega) om (by rw[hul];omega) om (λj x hx=>?_)).mono λe w' ⟨he,hw⟩=>?_
   ·simp only[Q1,Ax,Ak]at hx
    obtain⟨z,hz,rfl⟩:=hx;have hrow:(ri .u8 out)[j]? =some [.v (.int .u8 z)]:=by simp[ri,hz]
    obtain⟨x',hx',hv⟩:=GN hO.1 rfl k1 k6 j 0 _ _ hrow rfl;have hxz:x'= .int .u8 z:=VP.v_eq hv;subst hxz;have hj:j<out.length:=(Ad.1 hz).1
    rw[Jm k1];have hz2:=hby z (Ar hz);have e1:((UInt8.ofNat z.toNat).toNat:Int)=z:=by simp only[UInt8.toNat_ofNat'];omega
    rw[e1];simpa using hx'
   ·subst he hw
    obtain⟨f1,f2,⟨ff,f3⟩,f4,f5,f6⟩:=JLG (w:=w.drew) (g:=g) (n:=(Q1 out).length) (show w.drew.heap[g]? =_ from k1)
    refine fin _ (hI2.grown (w':=w.drew.freeze ⟨g,0,none⟩ (Q1 out).length) (some g) (by rw[f1];exact Ab _) (λk hk hne=>⟨f2 k (λe=>hne (by rw[e])),rfl⟩) (λk hk=>?_) (λk hk _ h0=>absurd h0 (by rw[hI2.core.c_zero hk];omega)) f4 f5 f6) _ rfl
    cases hk;refine⟨k8,λl r x hl=>λhx=>hO.2.2.1 l r x g hl rfl hx,hO.2.2.2 g rfl,Ab _,λo ho=>?_,⟨cur,5,ff,f3,?_⟩,λh0=>?_⟩
    ·rw[Jm f3,Jm k1]
    ·rw[k7,k4];exact Nat.mul_le_mul_right _ k2
    ·exfalso
     rw[k7]at h0;rw[hlen]at h0;omega
end Go.Lift.M1
end

section
namespace Go.Lift.M1
variable[MX]
open Go.Proofs Go.RowKit
theorem JXW(s:ByteArray)(c:Int)(w:World):
  Calls Aa 148 #[.string s,.int .u8 c] w λe w'=>e= .returned (.int .i64 (Go.Lib.indexByte s.data.toList c.toNat.toUInt8))/\w'=w:=by
 go_enter Tryz.func148,Tryz.ntmps148
 go_wp2
 rw[run_callFunc_extern Tryz.func167 kr kr kr (e:=Extern.BytealgIndexByte.indexByte) kr,Go.Lib.run_indexByteString];simp only[GI];rw[Oper.upon_value]
 go_wp2
 go_ret
 exact⟨rfl,rfl⟩
theorem JM7(s:ByteArray)(c:UInt8)(w:World):
  Calls Aa 126 #[.string s,.string ⟨#[c]⟩] w λe w'=>e= .returned (.int .i64 (Go.Lib.indexByte s.data.toList c))/\w'=w:=
 Any.stringslite_Index_one (P:=Aa) (ρ:=Tryz.lays219_ren) {Tryz.lays219 with} s c w
theorem JXX(s t:ByteArray)(m:Int)(w:World)(hs:s.size<4294967281)(hm:w.cell? ⟨1,0,none⟩=some (.int .i64 m)):
  Calls Aa 126 #[.string s,.string t] w λe w'=>e= .returned (.int .i64 (Go.Lib.index s.data.toList t.data.toList))/\w'=w:=
 Any.stringslite_Index (P:=Aa) (ρ:=Tryz.lays219_ren) {Tryz.lays219 with} s t m w hs hm
theorem JJB(x k idx:Nat)(w:World)(hx0:((x:Int)==0)=false)
  (key:IntKind.u64.wrap (bits BinOp.and IntKind.u64 (x:Int) (IntKind.u64.wrap (-(x:Int)))*285870213051353865)/288230376151711744=(idx:Int))
  (hi:idx<64)(hk:k<64)(hcell:w.cell? ⟨2,idx,none⟩=some (.int .u8 k)):
  Calls Aa 143 #[.int .u64 x] w λe w'=>e= .returned (.int .i64 k)/\w'=w:=by
 go_enter Tryz.func143,Tryz.ntmps143
 go_wp2_with (simp only[key])
 go_ret
 exact⟨rfl,rfl⟩
theorem JJC(w:World):Calls Aa 143 #[.int .u64 0] w λe w'=>e= .returned (.int .i64 64)/\w'=w:=by
 go_enter Tryz.func143,Tryz.ntmps143
 go_wp2
 go_ret
 exact⟨rfl,rfl⟩
theorem JXY(x:Nat)(hx:x<18446744073709551616)(w:World)(hT:∀j,j<64->w.cell? ⟨2,j,none⟩=some (.int .u8 ((Go.Lib.deBruijn64tab.getD j 0:Nat):Int))):
  Calls Aa 143 #[.int .u64 x] w λe w'=>e= .returned (.int .i64 (Go.Lib.ctz 64 x))/\w'=w:=by
 by_cases hx0:x=0
 ·subst hx0
  exact JJC w
 ·obtain⟨hlow,hk⟩:=Go.Lib.lowest_bit 64 x hx0 hx
  obtain⟨hi,htab⟩:=Go.Lib.deBruijn64_at _ hk;have hcell:=hT _ hi;rw[htab]at hcell;exact JJB x _ _ w (by simp;omega) (tz64_key x _ hx hx0 hlow) hi hk hcell
theorem JXZ(u:Nat)(h1:1<=u)(h2:u<18446744073709551616)(w:World)(hc:∀q:Nat,q<20->w.cell? ⟨3,q,none⟩=some (.int .u64 ((10^q:Nat):Int))):
  Calls Aa 156 #[.int .u64 u] w λe w'=>e= .returned (.int .i64 (Go.Lib.nDigits u))/\w'=w:=by
 obtain⟨hnd,h19⟩:=Go.Lib.numDigits_eq u h1 h2;have hL:Go.Lib.bitLen u<=64:=Go.Lib.bitLen_le u 64 (Ab _) h2;have hcell:=hc (Go.Lib.l10 (Go.Lib.bitLen u)) om;have hto:((u:Int)).toNat=u:=om;generalize hq:Go.Lib.l10 (Go.Lib.bitLen u)=q at hnd h19 hcell;generalize hT:10^q=T at hnd hcell;have h14:q<20:=om;have Hnd:=Go.Lib.hid hnd;clear hnd hc
 go_enter Tryz.func156,Tryz.ntmps156
 go_wp2_with (first
  |(go_at_call 171;refine(Any.bits_Len64 (P:=Aa) (ρ:=Tryz.lays284_ren) {Tryz.lays284 with} _ _ om om).mono ?_;rintro e w' ⟨rfl,rfl⟩)
  |(go_at_call 170;refine(Any.internal_strconv_log10Pow2 (P:=Aa) (ρ:=Tryz.lays284_ren) {Tryz.lays284 with} _ (by first|exact hL|(rw[hto];exact hL)) _).mono ?_;rintro e w' ⟨rfl,rfl⟩)
  |(go_at_call 172;refine(Any.internal_strconv_bool2_int (P:=Aa) (ρ:=Tryz.lays284_ren) {Tryz.lays284 with} _ _).mono ?_;rintro e w' ⟨rfl,rfl⟩))
 all_goals go_ret
 all_goals(
  refine⟨?_,rfl⟩
  have hnd:=Hnd.out
  congr 2
  split at hnd<;>simp_all<;>omega)
open Go.Sort Go.Lib in
theorem JXa(u:Nat)(hu64:u<18446744073709551616)(w:World)(hc:∀q:Nat,q<20->w.cell? ⟨3,q,none⟩=some (.int .u64 ((10^q:Nat):Int))):
  Calls Aa 135 #[.int .u64 u,.int .i64 10] w λe w'=>e= .returned (.string ⟨(Go.Lib.decDigits u).toArray⟩)/\Below w.heap.size w w':=by
 by_cases hs:u<100
 ·go_enter Tryz.func135,Tryz.ntmps135
  go_wp2_with (go_at_call 155;refine(Any.internal_strconv_small (P:=Aa) (ρ:=Tryz.lays283_ren) {Tryz.lays283 with} u hs _).mono ?_;rintro e w' ⟨rfl,rfl⟩)
  go_ret
  exact⟨rfl,Below.refl _ _⟩
 ·have hu1:1<=u:=om
  have hnd20:Go.Lib.nDigits u<=20:=by have:=Go.Lib.numDigits_eq u hu1 hu64;split at this<;>omega
  have hb3:Go.Lib.nDigits u<=23:=om;have hal:Aa.arrayLen 170=24:=by simp[Program.arrayLen,Tryz.underlying170]
  have hsl:∀W,(Instr.sliceAt 170 (.pointer (some ⟨w.heap.size,0,none⟩)) none (some (.int .i64 (Go.Lib.nDigits u:Int))) none).run Aa W= .ok (.slice (some ⟨w.heap.size,0,none⟩) (Go.Lib.nDigits u) 24) W:=λW=>by
   rw[run_sliceAt_array_h W 170 ⟨w.heap.size,0,none⟩ (by simp[Program.arrayLen,Program.elem,Tryz.underlying170]) .i64 (Go.Lib.nDigits u:Int) om (by rw[hal];omega)]
   go_simp
  have hH0:=Go.Lib.holds_zero0 w 170 (Go.Lib.nDigits u) om;have hfmt:=Any.internal_strconv_formatBase10 (P:=Aa) (ρ:=Tryz.lays285_ren) {Tryz.lays285 with} w.heap.size 0 24 u (Array.replicate (Go.Lib.nDigits u) 0) (w.alloc (.cells Go.Lib.zeros24 170)) hH0 (by rw[Ds];exact Go.Lib.lt_pow_nDigits u) hu64 (by rw[Ds];omega)
  rw[Ds]at hfmt;have HH0:=Go.Lib.hid hH0;clear hH0 hal
  have hc1:∀q:Nat,q<20->(w.alloc (.cells Go.Lib.zeros24 170)).cell? ⟨3,q,none⟩=some (.int .u64 ((10^q:Nat):Int)):=λq hq=>by rw[World.cell?_alloc_old _ _ _ (Nat.ne_of_lt (World.block_lt_of_cell? _ _ (hc q hq)))];exact hc q hq
  have HC:=Go.Lib.hid hc1;clear hc hc1
  go_enter Tryz.func135,Tryz.ntmps135
  go_wp2_with (first
   |(go_at_call 156;refine(JXZ u hu1 hu64 _ HC.out).mono ?_;rintro e w' ⟨rfl,rfl⟩))
  go_at_call 157
  refine hfmt.mono ?_
  rintro e w' ⟨rfl,k,v',dk,rfl,hF⟩
  have hcv:(convert 22 9 (.slice (some ⟨w.heap.size,0,none⟩) (Go.Lib.nDigits u) 24)).run Aa ((putRow (λ(b:UInt8)=>AQ .u8 (b.toNat:Int)) (w.alloc (.cells Go.Lib.zeros24 170)) w.heap.size 0 dk).drewN k)= .ok (.string ⟨(Go.Lib.decDigits u).toArray⟩) ((putRow (λ(b:UInt8)=>AQ .u8 (b.toNat:Int)) (w.alloc (.cells Go.Lib.zeros24 170)) w.heap.size 0 dk).drewN k):=by
   have h:=run_convert_bytes_back (P:=Aa) ((putRow (λ(b:UInt8)=>AQ .u8 (b.toNat:Int)) (w.alloc (.cells Go.Lib.zeros24 170)) w.heap.size 0 dk).drewN k) 22 9 5 ⟨w.heap.size,0,none⟩ 24 (Go.Lib.decDigits u) Tryz.underlying22 Tryz.underlying5 Tryz.underlying9 (λj hj=>by
    rw[Go.Lib.row_is_numeral hF j hj,Go.Lib.add_plain,World.cell?_drewN]
    exact cell?_putRow (λ(b:UInt8)=>AQ .u8 (b.toNat:Int)) _ w.heap.size 0 _ dk HH0.out (by rw[hF.size,Ds]) j (by rw[hF.size];rw[Go.Lib.decDigits_length]at hj;exact hj))
   rw[Go.Lib.decDigits_length]at h;exact h
  go_wp2
  go_ret
  refine⟨rfl,?_⟩
  obtain⟨os,eo⟩:=Go.Lib.fin_at w (.cells Go.Lib.zeros24 170) dk k 0;rw[eo];exact Go.Lib.below_grow _ _ (Ab _) _ _
theorem JT2{m:List Nat}{c:Cl}{w w':World}{h:JC}{lo:Nat}(hH:zK m c w h)(hb:Below w.heap.size w w'):
  zK m c w' h/\Fr lo (hoOf m w h lo) w m c w' m c/\JAN lo (hoOf m w h lo) w m w' [] h YT:=by
 obtain⟨hC,hold⟩:=hH;have hcell:∀b o,b<w.heap.size->w'.cell? ⟨b,o,none⟩=w.cell? ⟨b,o,none⟩:=λb o hl=>JR (hb.block b hl) o
 have hce:∀b,0<c b->b<w.heap.size:=λb h0=>by
  rcases AG b w.heap.size with hl|hl
  ·exact hl
  ·rw[hC.c_zero hl]at h0;omega
 have he:Ext c w c w':=⟨λ_=>Ab _,λb o ho=>hcell b o (hce b om),λb _=>by
  rcases AG b w.heap.size with hl|hl
  ·exact Shp.same (hb.block b hl)
  ·exact Shp.none hl⟩
 have hm:∀{i b},m[i]? =some b->w'.heap[b]? =w.heap[b]? /\c b=c b:=λ{i b} hi=>⟨hb.block b (hC.m_lt hi),rfl⟩
 have hAt:∀{l r x},At m w' [] h YT l r x->At m w [] h YT l r x:=λ{l r x} hl=>by
  cases l with
  |slot t=>exact hl
  |cell i j=>obtain⟨cs,b,h1,h2,h3,h4⟩:=hl;exact⟨cs,b,h1,h2,h3,by rw[<-JR (hm h3).1];exact h4⟩
 have hAt':∀{l r x},At m w [] h YT l r x->At m w' [] h YT l r x:=λ{l r x} hl=>by
  cases l with
  |slot t=>exact hl
  |cell i j=>obtain⟨cs,b,h1,h2,h3,h4⟩:=hl;exact⟨cs,b,h1,h2,h3,by rw[JR (hm h3).1];exact h4⟩
 refine⟨⟨⟨λb h0=>?_,hC.wf2,hC.nd,hC.len,λt=>(hC.env t).mono (Pre.refl m) he,λi o b ho hbm=>(hC.ob i o b ho hbm).keep (hm hbm).1 (Pre.refl m) he,λl r x hl=>?_,
   λl l' r r' x x' b h1 h2=>hC.uniq l l' r r' x x' b (hAt h1) (hAt h2),hC.tagS,λt i j r ht=>hAt' (hC.tagC t i j r ht),λn cs hg=>(hC.gt n cs hg).mono he⟩,hold⟩,
  ⟨hb.os,hb.tape,hb.output,hb.size,Pre.refl m,λi b hi hbm=>?_,he,λb hl _ _=>⟨hb.block b hl,rfl⟩⟩,λl r x b hl hu hbx=>?_⟩
 ·rw[hb.block b (hce b h0)]
  exact hC.wf1 b h0
 ·refine(hC.own l r x (hAt hl)).keep λb hbx=>?_
  exact⟨hb.block b ((hC.own l r x (hAt hl)).lt hbx).1,rfl,id⟩
 ·have:=(Ad.1 hbm).1
  omega
 ·right
  cases l with
  |slot t=>exact absurd hl.1 (by simp[look])
  |cell i j=>exact⟨i,j,r,x,hu,hAt hl,hbx⟩
theorem JXb(u:Nat)(hu64:u<18446744073709551616)(w:World)(hc:∀q:Nat,q<20->w.cell? ⟨3,q,none⟩=some (.int .u64 ((10^q:Nat):Int))):
  Calls Aa 110 #[.int .u64 u,.int .i64 10] w λe w'=>e= .returned (.string ⟨(Go.Lib.decDigits u).toArray⟩)/\Below w.heap.size w w':=by
 have h:=JXa u hu64 w hc;clear hc
 go_enter Tryz.func110,Tryz.ntmps110
 go_wp2_with (go_at_call 135;refine h.mono ?_;rintro e w' ⟨rfl,hb⟩)
 go_ret
 exact⟨rfl,hb⟩
theorem W4{f lo:Nat}{args:List V}{h:JC}{x:Value}(he:∀xs w,(callFunc f xs).run Aa w= .ok (.enter f xs) w)
  (hx:∀m c w (xs:Array Value),zK m c w h->R2 (VRr m c w) args xs.toList->Calls Aa f xs w λe w'=>e= .returned x/\Below w.heap.size w w'):
  Ww Aa lo f args h (.v x) h:=
 CallOK0.ok ⟨rfl,he,λm c w xs hH ha=>⟨⟨rfl,rfl,Keeps.refl _ _⟩,(hx m c w xs hH ha).mono λe w' ⟨h1,hb⟩=>by
  obtain⟨q1,q2,q3⟩:=JT2 (lo:=lo) hH hb
  exact⟨_,c,h1,rfl,q1,q2,q3⟩⟩⟩
theorem JXc{m:List Nat}{c:Cl}{w:World}{a:Value}{xs:Array Value}(h:R2 (VRr m c w) [.v a] xs.toList):xs= #[a]:=by
 obtain⟨l⟩:=xs
 match l,h.1 with
 |[x],_=>have h0:x=a:=h.2 0 _ _ rfl rfl;rw[h0]
theorem jQ{m:List Nat}{c:Cl}{w:World}{a b:Value}{xs:Array Value}(h:R2 (VRr m c w) [.v a,.v b] xs.toList):xs= #[a,b]:=by
 obtain⟨l⟩:=xs
 match l,h.1 with
 |[x,y],_=>have h0:x=a:=h.2 0 _ _ rfl rfl;have h1:y=b:=h.2 1 _ _ rfl rfl;rw[h0,h1]
theorem Jp8[HasD]:GTab.tab 2=some (Go.Lib.deBruijn64tab.map λc:Nat=>V.v (.int .u8 (c:Int))):=if_pos HasD.h
theorem Jp9[HasN]:GTab.tab 3=some (Go.Lib.pow10Tab.map λc=>V.v (.int .u64 c)):=if_pos HasN.h
theorem JqA:GTab.tab 1=some [V.v (.int .i64 MX.m)]:=rfl
theorem JJD{c:Cl}{w:World}{n:Nat}{cs:List V}(hg:ROs c w ⟨n,0,none⟩ cs){j:Nat}{x:Value}(hj:cs[j]? =some (.v x)):w.cell? ⟨n,j,none⟩=some x:=by obtain⟨_,h⟩:=hg;obtain⟨y,hy,hv⟩:=h j _ hj;rw[AE]at hy;rw[hy,VP.v_eq hv]
theorem Jct[HasD]{m:List Nat}{c:Cl}{w:World}{h:JC}(hH:zK m c w h):∀j,j<64->w.cell? ⟨2,j,none⟩=some (.int .u8 ((Go.Lib.deBruijn64tab.getD j 0:Nat):Int)):=λj hj=>by
 refine JJD (hH.1.gt 2 _ Jp8) ?_
 have hl:j<Go.Lib.deBruijn64tab.length:=by simpa[Go.Lib.deBruijn64tab]using hj
 rw[Ax,Ac hl]
 simp[Mw,Ac hl]
theorem JXd{m:List Nat}{c:Cl}{w:World}{h:JC}(hH:zK m c w h):w.cell? ⟨1,0,none⟩=some (.int .i64 MX.m):=
 JJD (hH.1.gt 1 _ JqA) rfl
theorem JqB[HasN]{m:List Nat}{c:Cl}{w:World}{h:JC}(hH:zK m c w h):∀q:Nat,q<20->w.cell? ⟨3,q,none⟩=some (.int .u64 ((10^q:Nat):Int)):=λq hq=>by
 refine JJD (hH.1.gt 3 _ Jp9) ?_
 have hl:q<Go.Lib.pow10Tab.length:=by rw[Go.Lib.pow10Tab_length];exact hq
 rw[Ax,Ac hl]
 have:=Go.Lib.pow10Tab_at q hq;rw[Mw,Ac hl]at this
 simp only[Option.getD_some]at this;rw[this]<;>rfl
theorem jR:∀{rows:List (List V)} {out:List Int},ZG rows=some out->rows=ri .u8 out
 |[],out,h=>by cases h;rfl
 |r::l,out,h=>by
  unfold ZG at h
  split at h
  ·rename_i h1;cases h1
  ·rename_i n l' h1
   injection h1 with h2 h3
   subst h2 h3;rw[Ak]at h;obtain⟨o,ho,rfl⟩:=h;rw[jR ho]<;>rfl
  ·cases h
theorem JXe:∀f p,primz f=some p->∀lo args h r h',lo<=h.length->p lo args h=some (r,h')->Ww Aa lo f args h r h':=by
 intro f p hp lo args h r h' hlo he;unfold primz at hp
 split at hp
 ·cases hp
  unfold Jfs at he
  split at he
  ·rename_i s c
   cases he
   exact W4 (enters_of Tryz.func148 kr rfl) λm c' w xs hH ha=>by rw[jQ ha];exact(JXW s c w).mono λe w' ⟨h1,h2⟩=>⟨h1,h2▸Below.refl _ _⟩
  ·cases he
 ·split at hp
  case isFalse=>cases hp
  rename_i hd
  haveI:HasD:=⟨hd⟩
  cases hp;unfold JPQ at he
  split at he
  ·rename_i x
   split at he
   ·rename_i hx
    cases he;obtain⟨u,rfl⟩:∃u:Nat,x=u:=⟨x.toNat,om⟩
    exact W4 (enters_of Tryz.func143 kr rfl) λm c' w xs hH ha=>by rw[JXc ha];exact(JXY u om w (Jct hH)).mono λe w' ⟨h1,h2⟩=>⟨h1,h2▸Below.refl _ _⟩
   ·cases he
  ·cases he
 ·cases hp
  unfold JVX at he
  split at he
  ·rename_i s n
   split at he
   ·rename_i hx
    cases he;obtain⟨u,rfl⟩:∃u:Nat,n=u:=⟨n.toNat,om⟩
    exact W4 (enters_of Tryz.func121 kr rfl) λm c' w xs hH ha=>by rw[jQ ha];exact Any.strings_Repeat Tryz.lays105 extra105 s u w om (by rw[hx.1];omega)
   ·cases he
  ·cases he
 ·split at hp
  case isFalse=>cases hp
  rename_i hd
  haveI:HasN:=⟨hd⟩
  cases hp;unfold JPR at he
  split at he
  ·rename_i x b
   split at he
   ·rename_i hx
    cases he;obtain⟨u,rfl⟩:∃u:Nat,x=u:=⟨x.toNat,om⟩;obtain rfl:=hx.1
    exact W4 (enters_of Tryz.func110 kr rfl) λm c' w xs hH ha=>by rw[jQ ha];exact JXb u om w (JqB hH)
   ·cases he
  ·cases he
 ·cases hp
  unfold ccP at he
  split at he
  ·rename_i i
   split at he
   ·rename_i p0 x r hi
    split at he
    ·rename_i hx
     cases he;exact(Jif hx.2.2 hi hx.1 hlo hx.2.1).ok
    ·cases he
   ·cases he
  ·cases he
 ·cases hp
  unfold wrP at he
  split at he
  ·rename_i i r
   split at he
   ·rename_i p0 rows hi
    split at he
    ·rename_i out hout
     split at he
     ·rename_i hx
      cases he;rw[jR hout]at hi;exact(Jig hi hx.1 hlo hx.2.1 hx.2.2.1 hx.2.2.2.1 hx.2.2.2.2).ok
     ·cases he
    ·cases he
   ·cases he
  ·cases he
 ·cases hp
  unfold stP at he
  split at he
  ·rename_i i
   split at he
   ·rename_i p0 rows r hi
    split at he
    ·rename_i out hout
     split at he
     ·rename_i hx
      cases he;have e:=jR hout;subst e;refine(Jcs hi hx.1 hlo (λc hc=>?_) hx.2.2).ok
      have:=List.all_eq_true.1 hx.2.1 c hc;simp only[Bool.and_eq_true,decide_eq_true_eq]at this;exact this
     ·cases he
    ·cases he
   ·cases he
  ·cases he
 ·cases hp
  unfold ixP at he
  split at he
  ·rename_i s t
   split at he
   ·rename_i c0 hc
    cases he
    obtain rfl:t=⟨#[c0]⟩:=by apply ByteArray.ext;exact Array.toList_inj.1 hc
    exact W4 (enters_of Tryz.func126 kr rfl) λm c' w xs hH ha=>by rw[jQ ha];exact(JM7 s c0 w).mono λe w' ⟨h1,h2⟩=>⟨h1,h2▸Below.refl _ _⟩
   ·split at he
    ·rename_i hs
     cases he
     exact W4 (enters_of Tryz.func126 kr rfl) λm c' w xs hH ha=>by rw[jQ ha];exact(JXX s t MX.m w hs (JXd hH)).mono λe w' ⟨h1,h2⟩=>⟨h1,h2▸Below.refl _ _⟩
    ·cases he
  ·cases he
 ·cases hp
end Go.Lift.M1
end

section
namespace Go.Proofs.YtppjlemmgpnliaaGreatDoor
open Go.Lift Go.Lift.M1 Go.ChangeShapes Go.WideShapes Go.ChangeAt Go.RowKit
theorem Jcu(H:Type):IsBulk (H:=H) Rows.uptoBulk Rows.uptoBulkAll:=
 ⟨rfl,λ_ _=>rfl,λ_=>rfl,λ_=>rfl,λ_ _=>rfl,rfl,λe s=>by show Rows.uptoBulkAll e+1≤Rows.uptoBulkAll e+Rows.uptoBulkAll s+1;omega,λ_=>rfl⟩
theorem own:ownKnob Aa.godebug=none:=kr
theorem JXf:laidOutB Aa=true:=kr
theorem follows:Aa.follows .mixedOrders=true:=kr
theorem JJG{w:World}{g:Nat}{cs:List V}(h:∀(j:Nat) v,cs[j]? =some v→ ∃x,w.cell? ⟨g,j,none⟩=some x∧VP (KY w) w v x):ROs (KY w) w ⟨g,0,none⟩ cs:=by
 refine⟨?_,λj v hj=>by simpa using h j v hj⟩
 cases cs with
 |nil=>exact Nat.zero_le _
 |cons c t=>
  have hl:(c::t)[t.length]? =some ((c::t)[t.length]'(by simp)):=Ac (by simp)
  obtain⟨x,hx,_⟩:=h t.length _ hl;unfold World.cell? at hx;unfold KY;simp only at hx⊢
  split at hx
  ·rename_i arr e f he
   rw[he];simp only[Ae];have:=(AX.1 hx).1
   omega
  ·cases hx
theorem JM8:(Rows.laid_jalousie_jalousieref3_kinds:DataW Unit)=Lib.tabData .i64 [21,22,19,20,23,24,18,16,17]:=rfl
theorem JLH:(Rows.laid_math_bits_deBruijn64tab:DataW Unit)=Lib.tabData .u8 (Lib.deBruijn64tab.map λc:Nat=>(c:Int)):=kr
theorem JM9:(Rows.laid_internal_strconv_uint64pow10:DataW Unit)=Lib.tabData .u64 Lib.pow10Tab:=kr
theorem JAJ{w:World}{name:String}{k:IntKind}{zs:List Int}{g:Nat}{t e:TypeId}{n:Nat}(hn:Aa.globalNamed name=some g)(hy:(Aa.globals[g]?).map (·.type)=some t)
  (ht:Aa.underlying t=some (.array n e))(he:Aa.underlying e=some (.int k))(hce:Aa.cellsOf e=1)(hct:Aa.cellsOf t=n)(h:Lib.VarReads Aa w name (Lib.tabData k zs)):
  ∀(j:Nat) (z:Int),zs[j]? =some z→w.cell? ⟨g,j,none⟩=some (.int k z):=λj z hz=>by
 obtain⟨g',t',cs,fuel,p,h1,h2,h3,h4⟩:=h;obtain rfl:=Option.some.inj (hn.symm.trans h1);obtain rfl:=Option.some.inj (hy.symm.trans h2);have hcs:=Lib.cells_of_tab ht he hce hct h4;have:=World.var?_cell hn h3 j
 rw[this,←Array.getElem?_toList,hcs]
 simp[hz]
theorem gok[MX]{W:World}(hm:W.cell? ⟨1,0,none⟩=some (.int .i64 MX.m))(hk:MX.k=true→Lib.VarReads Aa W "jalousie/jalousieref3.kinds" Rows.laid_jalousie_jalousieref3_kinds)
  (hd:MX.d=true→Lib.VarReads Aa W "math/bits.deBruijn64tab" Rows.laid_math_bits_deBruijn64tab) (hn:MX.n=true→Lib.VarReads Aa W "internal/strconv.uint64pow10" Rows.laid_internal_strconv_uint64pow10):GOK W:=by
 rw[JM8]at hk;rw[JLH]at hd;rw[JM9]at hn;intro n cs hc;have e:GTab.tab n=gtab.1 n:=rfl;rw[e]at hc;unfold gtab at hc;simp only at hc
 split at hc
 ·split at hc
  ·rename_i hf
   have c0:=JAJ (g:=0) (t:=100) (e:=3) (n:=9) kr kr kr kr kr kr (hk hf);cases hc;refine JJG λj v hj=>?_
   have hj2:(([21,22,19,20,23,24,18,16,17]:List Int).map λz=>V.v (.int .i64 z))[j]? =some v:=hj
   simp only[Ax,Ak]at hj2
   obtain⟨k,hk2,rfl⟩:=hj2;exact⟨_,c0 j k hk2,.v _ rfl⟩
  ·cases hc
 ·cases hc
  refine JJG λj v hj=>?_
  cases j with
  |zero=>
   cases hj
   exact⟨_,hm,.v _ rfl⟩
  |succ j=>simp at hj
 ·split at hc
  ·rename_i hf
   have c1:=JAJ (g:=2) (t:=179) (e:=5) (n:=64) kr kr kr kr kr kr (hd hf);cases hc;refine JJG λj v hj=>?_
   simp only[Ax,Ak]at hj
   obtain⟨k,hk2,rfl⟩:=hj;exact⟨_,c1 j k (by simp[hk2]),.v _ rfl⟩
  ·cases hc
 ·split at hc
  ·rename_i hf
   have c2:=JAJ (g:=3) (t:=184) (e:=132) (n:=20) kr kr kr kr kr kr (hn hf);cases hc;refine JJG λj v hj=>?_
   simp only[Ax,Ak]at hj
   obtain⟨k,hk2,rfl⟩:=hj;exact⟨_,c2 j k hk2,.v _ rfl⟩
  ·cases hc
 ·cases hc
noncomputable def JAK(os:Os):World:=
 let w0:=World.holding Aa os ⟨#[],#[],[]⟩
 let put (h:Array Obj) (g:Nat) (cs:Array Value):Array Obj:=h.modify g fun
  | .cells _ t frozen=> .cells cs t frozen
  |o=>o
 let h1:=put w0.heap 5 (Lib.firstTab.map λz=>AQ .u8 z).toArray
 let h2:=put h1 6 ((List.range 16).flatMap λi=>[AQ .u8 (Lib.accLo i),AQ .u8 (Lib.accHi i)]).toArray
 let h3:=put h2 2 (Lib.deBruijn64tab.map λz:Nat=>AQ .u8 (z:Int)).toArray
 let h4:=put h3 4 (Lib.deBruijn32tab.map λz:Nat=>AQ .u8 (z:Int)).toArray
 let h5:=put h4 3 (Lib.pow10Tab.map λz=>AQ .u64 z).toArray
 let h6:=put h5 0 ([21,22,19,20,23,24,18,16,17].map λz=>AQ .i64 z).toArray
 {w0 with heap:=h6}
theorem Jih(os:Os)(args:Array Value):LaidIn Aa ((JAK os).forCall (λ_ _=>0) ⟨#[],args,[]⟩).memory [("math/bits.deBruijn32tab",Rows.laid_math_bits_deBruijn32tab),("math/bits.deBruijn64tab",Rows.laid_math_bits_deBruijn64tab),("internal/strconv.uint64pow10",Rows.laid_internal_strconv_uint64pow10),("unicode/utf8.acceptRanges",Rows.laid_unicode_utf8_acceptRanges),("jalousie/jalousieref3.kinds",Rows.laid_jalousie_jalousieref3_kinds),("unicode/utf8.first",Rows.laid_unicode_utf8_first)] [4,2,3,6,0,5]:=
 LaidIn.of_run [4,2,3,6,0,5] 8 kr kr kr kr
theorem Jii{t e:TypeId}{k:IntKind}(ht:Aa.underlying t=some (.slice e))(hk:Aa.underlying e=some (.int k)){v:V}(h:TyV Aa t v):
  ∃l:List Int,v= .list .no (ri k l)∧ ∀c∈l,(Lit.int k c).wf=true:=by
 unfold TyV at h;rw[ht]at h;simp only at h
 cases h with
 |slice rows hu hr=>
  rw[ht]at hu;cases hu
  have each:∀rows:List (List V),(∀row∈rows,Ty Aa e row)→ ∃l:List Int,rows=ri k l∧ ∀c∈l,(Lit.int k c).wf=true:=by
   intro rows
   induction rows with
   |nil=>intro _;exact⟨[],rfl,λ_ hc=>by cases hc⟩
   |cons r rs ih=>
    intro h;obtain⟨l,rfl,hl⟩:=ih λrow hm=>h row (List.mem_cons_of_mem _ hm)
    have h0:=h r (List.mem_cons_self ..)
    cases h0 with
    |int k' n hk' hw=>
     rw[hk]at hk';cases hk';refine⟨n::l,rfl,λc hc=>?_⟩
     rcases A2.mp hc with rfl|hc
     ·exact hw
     ·exact hl c hc
    |bool b hk'=>rw[hk]at hk';cases hk'
    |string s hk'=>rw[hk]at hk';cases hk'
    |slice rows hk' _=>rw[hk]at hk';cases hk'
    |struct fs cells hk' _=>rw[hk]at hk';cases hk'
  obtain⟨l,rfl,hl⟩:=each rows hr
  exact⟨l,rfl,hl⟩
 |struct fs cells hu _=>rw[ht]at hu;cases hu
 |bool b hu=>rw[ht]at hu;cases hu
 |int k n hu _=>rw[ht]at hu;cases hu
 |string s hu=>rw[ht]at hu;cases hu
theorem Jij{v:V}(h:TyV Aa 22 v):∃l:List Int,v= .list .no (ri .u8 l)∧ ∀c∈l,0≤c∧c≤255:=by
 obtain⟨l,h1,h2⟩:=Jii Tryz.underlying22 Tryz.underlying5 h;refine⟨l,h1,λc hc=>?_⟩
 have:=h2 c hc;simp[Lit.wf,IntKind.min,IntKind.max,IntKind.signed,IntKind.bits]at this;omega
theorem JT3(k:IntKind)(l:List Int):l.length≤Hr (ri k l):=by
 induction l with
 |nil=>simp
 |cons n l ih=>simp only[Zn,Hr,Qk,yM,Ae];omega
theorem JqC{v:V}{n:Nat}(h:TyV Aa 22 v)(hs:JAV v≤n)(hn:n≤1048576):∃l:List Int,v= .list .no (ri .u8 l)∧Utf.By l∧l.length≤n:=by obtain⟨l,rfl,hl⟩:=Jij h;have:=JT3 .u8 l;exact⟨l,rfl,hl,by simp only[JAV,yM]at hs;omega⟩
end Go.Proofs.YtppjlemmgpnliaaGreatDoor
end

section
namespace Go.Proofs.YtppjlemmgpnliaaGreatDoor
theorem KA{a b:Bool}(ha:a=true)(hb:b=true):(a&&b)=true:=by rw[ha,hb]<;>rfl
theorem Jik:laidOutB Aa=true:=kr
theorem Jil:mapsRowed Aa=true:=kr
theorem Jim:(Aa.stops==[])=true:=kr
theorem Jin:(Aa.stopKnobs==[])=true:=kr
theorem Jcv:(Rows.printSheetsUptoRow.plainKeys==Aa.plainKeys)=true:=kr
theorem Jcw:Aa.stopsHeard=true:=kr
theorem Jcx:Aa.mayEnter=true:=kr
theorem Jcy:(Rows.printSheetsUptoRow.lifted==Aa.liftsFinal)=true:=kr
theorem Jcz:(Aa.make==some Rows.printSheetsUptoRow.make)=true:=kr
end Go.Proofs.YtppjlemmgpnliaaGreatDoor
end
