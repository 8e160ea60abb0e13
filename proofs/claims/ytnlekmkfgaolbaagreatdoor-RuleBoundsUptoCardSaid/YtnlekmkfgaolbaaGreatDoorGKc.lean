/- (*rule.text).over, upto, values. -/
import Derived.Test.YtnlekmkfgaolbaaGreatDoorGKa
import Derived.Test.YtnlekmkfgaolbaaGreatDoorGK8Basea
import Derived.Test.YtnlekmkfgaolbaaGreatDoorGKb
set_option linter.unusedVariables false
set_option linter.unusedSimpArgs false
set_option linter.unusedSectionVars false
set_option maxRecDepth 20000
set_option maxHeartbeats 4000000
section
open Go.Proofs
namespace Go.Lift.P8
open Rul
variable [MX]
variable {lo : Nat} {h : Heap}
def TX (H : Heap) (l : List Tk4) (E D : List Nat) (t : Nat) : Prop :=
 ∃ e d, H[e]? = some (.cells (nt E)) /\ H[d]? = some (.cells (nt D)) /\ H[t]? = some (.cells [.list .no (l.map row), .stk e l.length 1, .stk d l.length 1])
theorem TX.app {H : Heap} {l : List Tk4} {E' D : List Nat} {t : Nat} (h : TX H l E' D t) (q : Heap) : TX (H ++ q) l E' D t := by
 obtain ⟨e, d, h1, h2, h3⟩ := h
 have k : ∀ {i : Nat} {x : Ob}, H[i]? = some x -> (H ++ q)[i]? = some x := fun hx => by
  rw [List.getElem?_append_left (List.getElem?_eq_some_iff.1 hx).1]; exact hx
 exact ⟨e, d, k h1, k h2, k h3⟩
theorem TX.of (p : Heap) (l : List Tk4) (E' D : List Nat) (q : Heap) : TX (p ++ (tx p l E' D ++ q)) l E' D (p.length + 2) := by
 refine ⟨p.length, p.length + 1, ?_, ?_, ?_⟩
 ·rw [List.getElem?_append_right (Nat.le_refl _), Nat.sub_self]; rfl
 ·rw [List.getElem?_append_right (by omega), Nat.add_sub_cancel_left]; rfl
 ·rw [List.getElem?_append_right (by omega), Nat.add_sub_cancel_left]; rfl
theorem f66 {l : List Tk4} {E' D : List Nat} {t a q : Nat} {x : Tk4} (hT : TX h l E' D t) (hlo : lo <= h.length) (hE : E'.length = l.length) (hl : l.length <= 1000000000) (hb : E'.getD a 0 <= l.length) (hg : l[a]? = some x) :
  E lo 66 [.ptr t 0, .v (.int .i64 a), .v (.int .i64 q)] h = some (.v (.int .i64 ((if closer x.k = 0 then a + 1 else min (E'.getD a 0 + 1) q : Nat) : Int)), h) := by
 obtain ⟨e, d, h1, h2, h3⟩ := hT
 have ha : a < l.length := (List.getElem?_eq_some_iff.1 hg).1
 have hgr : (l.map row)[a]? = some (row x) := by rw [List.getElem?_map, hg]; rfl
 have hw : IntKind.i64.wrap ((a : Int) + 1) = ((a + 1 : Nat) : Int) := wrap_succ (by omega)
 have c52 := f52 (lo := lo) (h := h) hlo x.k
 have gE := nt_at (show a < E'.length by omega)
 have q2 : (a : Int) < (l.length : Int) := by omega
 have w2 : IntKind.i64.wrap (((E'.getD a 0 : Nat) : Int) + 1) = ((E'.getD a 0 + 1 : Nat) : Int) := wrap_succ (by omega)
 have ex : (if (q : Int) < ((E'.getD a 0 + 1 : Nat) : Int) then (q : Int) else ((E'.getD a 0 + 1 : Nat) : Int)) = ((min (E'.getD a 0 + 1) q : Nat) : Int) := by
  split <;> omega
 simp only [row] at hgr
 rw [e66 (by simp) (by rfl)]
 by_cases hc : closer x.k = 0
 ·have qc : (closer x.k == 0) = true := by simpa using hc
  rw [if_pos hc]
  simp only [go_sem, b66, Tryz.f66, hlo, h3, hgr, c52, qc, hw]
  all_goals rfl
 ·have qc : (closer x.k == 0) = false := by simpa using hc
  rw [if_neg hc]
  simp only [go_sem, b66, Tryz.f66, hlo, h1, h3, hgr, c52, qc, gE, q2, w2, ex, Nat.mul_one]
  all_goals rfl
abbrev N64 (t p q : Nat) (ks : List Int) (fine : Bool) : Env := [(0, .ptr t 0), (1, .v (.int .i64 p)), (2, .v (.int .i64 q)), (3, .list .no (ri .i64 ks)), (10, .v (.bool fine))]
abbrev M64 (t p q : Nat) (ks : List Int) (fine : Bool) (i : Nat) : Env := N64 t p q ks fine ++ [(16, .list .no (ri .i64 ks)), (17, .v (.int .i64 ks.length)), (18, .v (.int .i64 i))]
theorem kind64 {l : List Tk4} {E' D : List Nat} {t p q i : Nat} {x : Tk4} {ks : List Int} {c : Int} {fine : Bool} (hT : TX h l E' D t) (hlo : lo <= h.length) (hks : ks.length <= 1000) (hg : l[p]? = some x) (hi : ks[i]? = some c) :
  evCode ⟨Tryz.prog, E, lo, h.length, h64⟩ loopW l64x1 (M64 t p q ks fine i, h) =
   if x.k = c then some (.ret, [(8, .v (.int .i64 p)), (9, .v (.bool fine))], h) else some (.normal, M64 t p q ks fine (i + 1), h) := by
 obtain ⟨e, d, h1, h2, h3⟩ := hT
 have hgr : (l.map row)[p]? = some (row x) := by rw [List.getElem?_map, hg]; rfl
 have hk : (ri .i64 ks)[i]? = some [.v (.int .i64 c)] := by rw [ri_get, hi]; rfl
 have hlt : i < ks.length := (List.getElem?_eq_some_iff.1 hi).1
 have q1 : decide ((i : Int) < (ks.length : Int)) = true := by simpa using hlt
 have hw : IntKind.i64.wrap ((i : Int) + 1) = ((i + 1 : Nat) : Int) := wrap_succ (by omega)
 have rl := ri_len .i64 ks
 simp only [row] at hgr
 simp only [M64, N64, List.cons_append, List.nil_append]
 generalize ri .i64 ks = R at *
 by_cases hc : x.k = c
 ·have qc : (x.k == c) = true := by simpa using hc
  rw [if_pos hc]
  simp only [go_sem, l64x1, b64, Tryz.f64, hlo, h3, hgr, hk, q1, hw, qc]
  all_goals rfl
 ·have qc : (x.k == c) = false := by simpa using hc
  rw [if_neg hc]
  simp only [go_sem, l64x1, b64, Tryz.f64, hlo, h3, hgr, hk, q1, hw, qc]
  all_goals rfl
theorem kstop64 {t p q : Nat} {ks : List Int} {fine : Bool} (hlo : lo <= h.length) :
  evCode ⟨Tryz.prog, E, lo, h.length, h64⟩ loopW l64x1 (M64 t p q ks fine ks.length, h) = some (.exit 2, M64 t p q ks fine ks.length ++ [(19, .v (.bool false))], h) := by
 have q1 : decide ((ks.length : Int) < (ks.length : Int)) = false := by simp
 simp only [M64, N64, List.cons_append, List.nil_append, go_sem, l64x1, b64, Tryz.f64, hlo, q1]
 all_goals rfl
theorem kinds64 {l : List Tk4} {E' D : List Nat} {t p q : Nat} {x : Tk4} {ks : List Int} {fine : Bool} (hT : TX h l E' D t) (hlo : lo <= h.length) (hks : ks.length <= 1000) (hg : l[p]? = some x) : ∀ (m i : Nat), i + m = ks.length ->
  loopW (evCode ⟨Tryz.prog, E, lo, h.length, h64⟩ loopW l64x1) (M64 t p q ks fine i, h) =
   if (ks.drop i).contains x.k = true then some (.ret, [(8, .v (.int .i64 p)), (9, .v (.bool fine))], h) else some (.exit 2, M64 t p q ks fine ks.length ++ [(19, .v (.bool false))], h)
 | 0, i, hm => by
  obtain rfl : i = ks.length := by omega
  rw [List.drop_length, if_neg (by simp), loop_eq, kstop64 hlo, loop_e]
 | m + 1, i, hm => by
  have hlt : i < ks.length := by omega
  have hd : ks.drop i = ks[i] :: ks.drop (i + 1) := List.drop_eq_getElem_cons hlt
  rw [hd, List.contains_cons, loop_eq, kind64 hT hlo hks hg (List.getElem?_eq_getElem hlt)]
  by_cases hc : x.k = ks[i]
  ·rw [if_pos hc, loop_r, if_pos (by simp [hc])]
  ·rw [if_neg hc, loop_n, kinds64 hT hlo hks hg m (i + 1) (by omega)]
   have : (x.k == ks[i]) = false := by simpa using hc
   rw [this, Bool.false_or]
theorem round64 {l : List Tk4} {E' D : List Nat} {t p q : Nat} {x : Tk4} {ks : List Int} {fine : Bool} (hT : TX h l E' D t) (hlo : lo <= h.length) (hks : ks.length <= 1000) (hE : E'.length = l.length) (hD : D.length = l.length) (hl : l.length <= 1000000000) (hb : E'.getD p 0 <= l.length) (hg : l[p]? = some x) (hpq : p < q) :
  evCode ⟨Tryz.prog, E, lo, h.length, h64⟩ loopW l64x0 (N64 t p q ks fine, h) =
   if ks.contains x.k = true then some (.ret, [(8, .v (.int .i64 p)), (9, .v (.bool fine))], h)
   else some (.normal, N64 t (if closer x.k = 0 then p + 1 else min (E'.getD p 0 + 1) q) q ks (fine && decide (D.getD p 0 <= 64)), h) := by
 have hK := kinds64 (q := q) (fine := fine) hT hlo hks hg ks.length 0 (by omega)
 have c66 := f66 (q := q) hT hlo hE hl hb hg
 have hT0 := hT
 obtain ⟨e, d, h1, h2, h3⟩ := hT
 have n0 : ((0 : Nat) : Int) = 0 := rfl
 have q1 : decide ((p : Int) < (q : Int)) = true := by simpa using hpq
 have rl := ri_len .i64 ks
 have hp : p < l.length := (List.getElem?_eq_some_iff.1 hg).1
 have gD := nt_at (show p < D.length by omega)
 have q2 : (p : Int) < (l.length : Int) := by omega
 have eD : decide (((D.getD p 0 : Nat) : Int) <= 64) = decide (D.getD p 0 <= 64) := by rw [decide_eq_decide]; omega
 generalize (if closer x.k = 0 then p + 1 else min (E'.getD p 0 + 1) q) = p' at *
 rw [List.drop_zero] at hK
 cases hc : ks.contains x.k with
 | true =>
  rw [hc, if_pos rfl] at hK
  rw [if_pos rfl]
  simp only [l64x1, b64, Tryz.f64, loopAt, loops, bodyOf, go_sem, M64, N64, n0, List.cons_append, List.nil_append] at hK
  simp only [N64, go_sem, l64x0, b64, Tryz.f64, hlo, q1, hK, rl]
  all_goals rfl
 | false =>
  rw [hc, if_neg (by simp)] at hK
  rw [if_neg (by simp)]
  simp only [l64x1, b64, Tryz.f64, loopAt, loops, bodyOf, go_sem, M64, N64, n0, List.cons_append, List.nil_append] at hK
  cases fine with
  | true =>
   rw [Bool.true_and]
   simp only [N64, go_sem, l64x0, b64, Tryz.f64, hlo, q1, hK, rl, h2, h3, gD, q2, eD, c66, Nat.mul_one]
   all_goals rfl
  | false =>
   rw [Bool.false_and]
   simp only [N64, go_sem, l64x0, b64, Tryz.f64, hlo, q1, hK, rl, h2, h3, gD, q2, eD, c66, Nat.mul_one]
   all_goals rfl
theorem stop64 {t q : Nat} {ks : List Int} {fine : Bool} (hlo : lo <= h.length) :
  evCode ⟨Tryz.prog, E, lo, h.length, h64⟩ loopW l64x0 (N64 t q q ks fine, h) = some (.exit 0, N64 t q q ks fine ++ [(15, .v (.bool false))], h) := by
 have q1 : decide ((q : Int) < (q : Int)) = false := by simp
 simp only [N64, go_sem, l64x0, b64, Tryz.f64, hlo, q1]
 all_goals rfl
theorem loop64 {l : List Tk4} {E' D : List Nat} {t q : Nat} {ks : List Int} (hT : TX h l E' D t) (hlo : lo <= h.length) (hks : ks.length <= 1000) (hE : E'.length = l.length) (hD : D.length = l.length) (hl : l.length <= 1000000000) (hb : ∀ p, E'.getD p 0 <= l.length) : ∀ (G : List PV) (p : Nat) (fine : Bool), LaidAt l E' D p q G ->
  loopW (evCode ⟨Tryz.prog, E, lo, h.length, h64⟩ loopW l64x0) (N64 t p q ks fine, h) =
   if (G.dropWhile (noHit ks)).isEmpty = true then some (.exit 0, N64 t q q ks (fine && (G.takeWhile (noHit ks)).all fun v => decide (depV v <= 64)) ++ [(15, .v (.bool false))], h)
   else some (.ret, [(8, .v (.int .i64 ((p + (toksL (G.takeWhile (noHit ks))).length : Nat) : Int))), (9, .v (.bool (fine && (G.takeWhile (noHit ks)).all fun v => decide (depV v <= 64))))], h)
 | [], p, fine, hA => by
  obtain rfl := hA.nil
  rw [loop_eq, stop64 hlo, loop_e, List.takeWhile_nil, List.dropWhile_nil, List.isEmpty_nil, if_pos rfl, List.all_nil, Bool.and_true]
 | v :: r, p, fine, hA => by
  rw [loop_eq, round64 hT hlo hks hE hD hl (hb p) hA.head hA.lt, hA.over, hA.deep]
  rw [List.takeWhile_cons, List.dropWhile_cons]
  cases hc : ks.contains v.t.k with
  | true =>
   have hn : noHit ks v = false := by unfold noHit; rw [hc]; rfl
   rw [if_pos rfl, loop_r, hn]
   simp only [Bool.false_eq_true, if_false, List.isEmpty_cons, List.all_nil, Bool.and_true, toksL, List.length_nil, Nat.add_zero]
  | false =>
   have hn : noHit ks v = true := by unfold noHit; rw [hc]; rfl
   rw [if_neg (by simp), loop_n, hn, loop64 hT hlo hks hE hD hl hb r _ _ hA.tail]
   simp only [if_true, List.all_cons, Bool.and_assoc, toksL_cons, List.length_append, Nat.add_assoc]
theorem f64 {l : List Tk4} {E' D : List Nat} {t p q : Nat} {ks : List Int} {G : List PV} (hT : TX h l E' D t) (hlo : lo <= h.length) (hks : ks.length <= 1000) (hE : E'.length = l.length) (hD : D.length = l.length) (hl : l.length <= 1000000000) (hb : ∀ p, E'.getD p 0 <= l.length) (hA : LaidAt l E' D p q G) :
  E lo 64 [.ptr t 0, .v (.int .i64 p), .v (.int .i64 q), .list .no (ri .i64 ks)] h = some (.tup [.v (.int .i64 ((p + (toksL (G.takeWhile (noHit ks))).length : Nat) : Int)), .v (.bool (!deepL 64 (cvL (G.takeWhile (noHit ks)))))], h) := by
 have hL := loop64 hT hlo hks hE hD hl hb G p true hA
 have hf := (hA.front (noHit ks)).fine (n := 64)
 have hc := hA.cut (noHit ks)
 simp only [Bool.true_and, hf] at hL
 rw [e64 (by simp) (by rfl)]
 simp only [l64x0, b64, Tryz.f64, loopAt, loops, bodyOf, go_sem, N64, List.cons_append, List.nil_append] at hL
 cases hd : (G.dropWhile (noHit ks)).isEmpty with
 | true =>
  rw [hd, if_pos rfl] at hL
  rw [List.isEmpty_iff.1 hd] at hc
  rw [hc.nil]
  simp only [go_sem, b64, Tryz.f64, hlo, hL]
  all_goals rfl
 | false =>
  rw [hd, if_neg (by simp)] at hL
  simp only [go_sem, b64, Tryz.f64, hlo, hL]
  all_goals rfl
theorem row_slice (l : List Tk4) (p q : Nat) : ((l.map row).take q).drop p = ((l.take q).drop p).map row := by rw [List.map_drop, List.map_take]
theorem f67 {l : List Tk4} {E' D : List Nat} {t p q : Nat} {G : List PV} (hT : TX h l E' D t) (hlo : lo <= h.length) (hl : l.length <= 1000000000) (hA : LaidAt l E' D p q G) :
  E lo 67 [.ptr t 0, .v (.int .i64 p), .v (.int .i64 q)] h = some (.list .no (rowsC (trim (cvL G))), h) := by
 obtain ⟨e, d, h1, h2, h3⟩ := hT
 have hpq : p <= q := by have := hA.len; omega
 have hql : q <= l.length := hA.le
 have hv := hA.vals
 have hsl : ((l.take q).drop p).length <= 1000000000 := by rw [List.length_drop, List.length_take]; omega
 have c26 := f26 (lo := lo) (h := h) (l := (l.take q).drop p) hlo hsl
 rw [hv] at c26
 have hcl : (cvL G).length <= 1000000000 := by
  have h5 := hA.len
  have : ∀ F : List PV, F.length <= (toksL F).length := fun F => by
   induction F with
   | nil => simp
   | cons v r ih => rw [toksL_cons, List.length_append, List.length_cons]; have := toksV_pos v; omega
  have := this G
  rw [cvL_len]
  omega
 have c56 := f56 (lo := lo) (h := h) (l := cvL G) hlo hcl
 have ra := row_all l
 have rs := row_slice l p q
 rw [e67 (by simp) (by rfl)]
 simp only [go_sem, b67, Tryz.f67, hlo, h3, hpq, hql, ra, rs, c26, c56, List.length_map]
 all_goals rfl
end Go.Lift.P8
end

section
open Go.Proofs
namespace Go.Lift.P8.T
variable [MX]
open Utf Tok
theorem f111 {lo : Nat} {c : Int} {h : Heap} : E lo 111 [.v (.int .i32 c)] h = some (.v (.bool (dig c)), h) := by
 rw [e111 (by simp) (by rfl)]
 simp only [go_sem, b111, Tryz.f111, dig]
theorem f157 {lo : Nat} {c : Int} {h : Heap} : E lo 157 [.v (.int .i32 c)] h = some (.v (.bool (fst1 c)), h) := by
 rw [e157 (by simp) (by rfl)]
 simp only [go_sem, b157, Tryz.f157, fst1]
theorem f114 {lo : Nat} {c : Int} {h : Heap} : E lo 114 [.v (.int .i32 c)] h = some (.v (.bool (ltr c)), h) := by
 rw [e114 (by simp) (by rfl)]
 simp only [go_sem, b114, Tryz.f114, f157, f111, ltr]
theorem f107 {lo : Nat} {c : Int} {h : Heap} : E lo 107 [.v (.int .i32 c)] h = some (.v (.bool (blk c)), h) := by
 rw [e107 (by simp) (by rfl)]
 simp only [go_sem, b107, Tryz.f107, blk]
theorem f185 {lo : Nat} {c : Int} {h : Heap} (h0 : -1 <= c) (h1 : c <= 1114111) : E lo 185 [.v (.int .i32 c)] h = some (.v (.int .i32 (hex c)), h) := by
 rw [e185 (by simp) (by rfl)]
 have w1 : IntKind.i32.wrap (c - 48) = c - 48 := wrap_i32 (by omega) (by omega)
 have w2 : IntKind.i32.wrap (c - 97) = c - 97 := wrap_i32 (by omega) (by omega)
 have w3 : IntKind.i32.wrap (c - 97 + 10) = c - 97 + 10 := wrap_i32 (by omega) (by omega)
 have w4 : IntKind.i32.wrap (c - 65) = c - 65 := wrap_i32 (by omega) (by omega)
 have w5 : IntKind.i32.wrap (c - 65 + 10) = c - 65 + 10 := wrap_i32 (by omega) (by omega)
 unfold hex
 cases hd : dig c with
 | true => simp only [go_sem, b185, Tryz.f185, f111, hd, w1]
 | false =>
  cases ha : decide (97 <= c) && decide (c <= 102) with
  | true => simp only [go_sem, b185, Tryz.f185, f111, hd, ha, w2, w3, Bool.false_eq_true]
  | false =>
   cases hb : decide (65 <= c) && decide (c <= 70) with
   | true => simp only [go_sem, b185, Tryz.f185, f111, hd, ha, hb, w4, w5, Bool.false_eq_true]
   | false => simp only [go_sem, b185, Tryz.f185, f111, hd, ha, hb, Bool.false_eq_true]
def suf (l : List Int) (i : Nat) : List Int := (l.map scal).drop i
abbrev R (l : List Int) (i : Nat) : Ob := .cells [.list .no (ri .i32 l), .v (.int .i64 i)]
theorem suf_chr (l : List Int) (i k : Nat) : chr (suf l i) k = match l[i + k]? with
  | some x => scal x
  | none => -1 := by
 unfold chr suf
 rw [List.getElem?_drop, List.getElem?_map]
 cases l[i + k]? <;> rfl
theorem chr_in (l : List Int) (i k : Nat) : -1 <= chr (suf l i) k /\ chr (suf l i) k <= 1114111 := by
 rw [suf_chr]
 cases l[i + k]? with
 | none => simp
 | some x => have := scal_in x; simp only; omega
section
variable {lo i : Nat} {l : List Int} {p q : List Ob}
theorem f90 {k : Nat} (hi : i + k <= 1000000000000) : E lo 90 [.ptr p.length 0, .v (.int .i64 k)] (p ++ R l i :: q) = some (.v (.int .i32 (chr (suf l i) k)), p ++ R l i :: q) := by
 have hw : IntKind.i64.wrap ((i : Int) + k) = ((i + k : Nat) : Int) := by rw [wrap_i64 (by omega) (by omega)]; omega
 rw [e90 (by simp) (by rfl), suf_chr]
 by_cases hl : i + k < l.length
 ·have hx : l[i + k]? = some l[i + k] := List.getElem?_eq_getElem hl
  have hd : decide ((l.length : Int) <= (i + k : Nat)) = false := by simp; omega
  rw [hx]
  generalize l[i + k] = x at hx
  simp only [go_sem, b90, Tryz.f90, hw, hd, hx]
  rfl
 ·have hx : l[i + k]? = none := List.getElem?_eq_none (by omega)
  have hd : decide ((l.length : Int) <= (i + k : Nat)) = true := by simp; omega
  rw [hx]
  simp only [go_sem, b90, Tryz.f90, hw, hd, hx]
theorem f120 (hlo : lo <= p.length) (hi : i + 1 <= 1000000000000) : E lo 120 [.ptr p.length 0] (p ++ R l i :: q) = some (.v (.int .i32 (chr (suf l i) 0)), p ++ R l (i + 1) :: q) := by
 have hw : IntKind.i64.wrap ((i : Int) + 1) = ((i + 1 : Nat) : Int) := wrap_succ (by omega)
 have k0 := fun lo p q => f90 (lo := lo) (l := l) (i := i) (p := p) (q := q) (k := 0) (by omega)
 simp only [n0] at k0
 rw [e120 (by simp) (by rfl)]
 simp only [go_sem, b120, Tryz.f120, k0, hw, hlo]
theorem f115 {k : Nat} (hi : i + k + 1 <= 1000000000000) : E lo 115 [.ptr p.length 0, .v (.int .i64 k)] (p ++ R l i :: q) = some (.v (.bool (esc (chr (suf l i) k) (chr (suf l i) (k + 1)))), p ++ R l i :: q) := by
 have hw : IntKind.i64.wrap ((k : Int) + 1) = ((k + 1 : Nat) : Int) := wrap_succ (by omega)
 have k0 := fun lo p q => f90 (lo := lo) (l := l) (i := i) (p := p) (q := q) (k := k) (by omega)
 have k1 := fun lo p q => f90 (lo := lo) (l := l) (i := i) (p := p) (q := q) (k := k + 1) (by omega)
 rw [e115 (by simp) (by rfl)]
 simp only [go_sem, b115, Tryz.f115, hw, k0, k1, esc]
theorem f112 {k : Nat} (hi : i + k + 2 <= 1000000000000) : E lo 112 [.ptr p.length 0, .v (.int .i64 k)] (p ++ R l i :: q) = some (.v (.bool (num (chr (suf l i) k) (chr (suf l i) (k + 1)) (chr (suf l i) (k + 1 + 1)))), p ++ R l i :: q) := by
 have hw : IntKind.i64.wrap ((k : Int) + 1) = ((k + 1 : Nat) : Int) := wrap_succ (by omega)
 have hw2 : IntKind.i64.wrap (((k + 1 : Nat) : Int) + 1) = ((k + 1 + 1 : Nat) : Int) := wrap_succ (by omega)
 have k0 := fun lo p q => f90 (lo := lo) (l := l) (i := i) (p := p) (q := q) (k := k) (by omega)
 have k1 := fun lo p q => f90 (lo := lo) (l := l) (i := i) (p := p) (q := q) (k := k + 1) (by omega)
 have k2 := fun lo p q => f90 (lo := lo) (l := l) (i := i) (p := p) (q := q) (k := k + 1 + 1) (by omega)
 rw [e112 (by simp) (by rfl)]
 generalize chr (suf l i) k = a at k0
 cases ha : a == 43 || a == 45 with
 | true => simp only [go_sem, b112, Tryz.f112, hw, hw2, k0, k1, k2, f111, ha, num]
 | false => simp only [go_sem, b112, Tryz.f112, hw, hw2, k0, k1, k2, f111, ha, num, Bool.false_eq_true]
theorem f116 {k : Nat} (hi : i + k + 2 <= 1000000000000) : E lo 116 [.ptr p.length 0, .v (.int .i64 k)] (p ++ R l i :: q) = some (.v (.bool (beg (chr (suf l i) k) (chr (suf l i) (k + 1)) (chr (suf l i) (k + 1 + 1)))), p ++ R l i :: q) := by
 have hw : IntKind.i64.wrap ((k : Int) + 1) = ((k + 1 : Nat) : Int) := wrap_succ (by omega)
 have k0 := fun lo p q => f90 (lo := lo) (l := l) (i := i) (p := p) (q := q) (k := k) (by omega)
 have k1 := fun lo p q => f90 (lo := lo) (l := l) (i := i) (p := p) (q := q) (k := k + 1) (by omega)
 have g0 := fun lo p q => f115 (lo := lo) (l := l) (i := i) (p := p) (q := q) (k := k) (by omega)
 have g1 := fun lo p q => f115 (lo := lo) (l := l) (i := i) (p := p) (q := q) (k := k + 1) (by omega)
 rw [e116 (by simp) (by rfl)]
 generalize chr (suf l i) k = a at k0 g0
 cases ha : a == 45 with
 | true => simp only [go_sem, b116, Tryz.f116, hw, k0, k1, g0, g1, f157, ha, beg]
 | false => simp only [go_sem, b116, Tryz.f116, hw, k0, k1, g0, g1, f157, ha, beg, Bool.false_eq_true]
theorem suf_next {i : Nat} (hi : i < l.length) : suf l i = chr (suf l i) 0 :: suf l (i + 1) := by
 have h1 : i < (l.map scal).length := by simpa using hi
 rw [suf_chr]
 unfold suf
 have e : l[i + 0]? = some l[i] := List.getElem?_eq_getElem hi
 rw [List.drop_eq_getElem_cons h1, e]
 simp
theorem suf_end {i : Nat} (hi : l.length <= i) : suf l i = [] := List.drop_eq_nil_of_le (by simpa using hi)
theorem suf_len (l : List Int) (i : Nat) : (suf l i).length = l.length - i := by simp [suf]
theorem loop108 (hlo : lo <= p.length) (hl : l.length <= 100000000000) : ∀ (n i : Nat), l.length - i <= n -> i <= l.length ->
  ∃ j, j <= l.length /\ i <= j /\ suf l j = blanks (suf l i) /\
   loopW (evCode ⟨Tryz.prog, E, lo, (p ++ R l i :: q).length, h108⟩ loopW l108x0) ([(0, .ptr p.length 0)], p ++ R l i :: q) = some (.exit 0, [(0, .ptr p.length 0), (4, .v (.bool false))], p ++ R l j :: q) := by
 intro n
 induction n with
 | zero =>
  intro i h1 h2
  obtain rfl : i = l.length := by omega
  have k0 := fun lo p q => f90 (lo := lo) (l := l) (i := l.length) (p := p) (q := q) (k := 0) (by omega)
  have hs : suf l l.length = [] := suf_end (Nat.le_refl _)
  have hc : blk (chr [] 0) = false := by decide
  simp only [n0, hs] at k0
  refine ⟨l.length, Nat.le_refl _, Nat.le_refl _, by rw [hs]; rfl, ?_⟩
  rw [loop_eq]
  simp only [go_sem, l108x0, b108, Tryz.f108, k0, f107, hc]
 | succ n ih =>
  intro i h1 h2
  have k0 := fun lo p q => f90 (lo := lo) (l := l) (i := i) (p := p) (q := q) (k := 0) (by omega)
  simp only [n0] at k0
  have hw : IntKind.i64.wrap ((i : Int) + 1) = ((i + 1 : Nat) : Int) := wrap_succ (by omega)
  cases hb : blk (chr (suf l i) 0) with
  | false =>
   refine ⟨i, h2, Nat.le_refl _, ?_, ?_⟩
   ·by_cases hi : i < l.length
    ·rw [suf_next hi] at hb ⊢
     exact (List.dropWhile_cons_of_neg (by simpa [chr] using hb)).symm
    ·rw [suf_end (by omega)]; rfl
   ·rw [loop_eq]
    simp only [go_sem, l108x0, b108, Tryz.f108, k0, f107, hb]
  | true =>
   have hi : i < l.length := by
    rcases Nat.lt_or_ge i l.length with h | h
    ·exact h
    ·rw [suf_end h] at hb; exact absurd hb (by decide)
   obtain ⟨j, j1, j2, j3, j4⟩ := ih (i + 1) (by omega) (by omega)
   refine ⟨j, j1, by omega, ?_, ?_⟩
   ·rw [j3, suf_next hi]
    exact (List.dropWhile_cons_of_pos (by simpa using hb)).symm
   ·rw [loop_eq]
    have e : evCode ⟨Tryz.prog, E, lo, (p ++ R l i :: q).length, h108⟩ loopW l108x0 ([(0, .ptr p.length 0)], p ++ R l i :: q) = some (.normal, [(0, .ptr p.length 0)], p ++ R l (i + 1) :: q) := by
     simp only [go_sem, l108x0, b108, Tryz.f108, k0, f107, hb, hw, hlo]
    rw [e, loop_n]
    simp only [hl_app, hl_cons] at j4 ⊢
    exact j4
end
end Go.Lift.P8.T
end

section
open Go.Proofs
namespace Go.Lift.P8.T
variable [MX]
open Utf Tok
section
variable {lo i : Nat} {l : List Int} {p q : List Ob}
theorem suf_inj {l : List Int} {i j : Nat} (hi : i <= l.length) (hj : j <= l.length) (h : suf l i = suf l j) : i = j := by
 have h1 := suf_len l i
 have h2 := suf_len l j
 rw [h, h2] at h1
 omega
theorem f108 (hl : l.length <= 100000000000) (hi : i <= l.length) : ∃ j, j <= l.length /\ i <= j /\ suf l j = blanks (suf l i) /\
  ∀ lo p q, lo <= p.length -> E lo 108 [.ptr p.length 0] (p ++ R l i :: q) = some (.tup [], p ++ R l j :: q) := by
 obtain ⟨j, j1, j2, j3, _⟩ := loop108 (lo := 0) (p := []) (q := []) (l := l) (Nat.le_refl _) hl l.length i (by omega) hi
 refine ⟨j, j1, j2, j3, fun lo p q hlo => ?_⟩
 obtain ⟨j', j1', j2', j3', hL⟩ := loop108 (lo := lo) (p := p) (q := q) (l := l) hlo hl l.length i (by omega) hi
 obtain rfl : j' = j := suf_inj j1' j1 (by rw [j3', j3])
 rw [e108 (by simp) (by rfl)]
 simp only [l108x0, b108, Tryz.f108, loopAt, loops, bodyOf, go_sem] at hL
 simp only [go_sem, b108, Tryz.f108, hL]
def isN (s : List Int) : Nat -> List Int -> Bool
 | _, [] => true
 | j, c :: t => chr s j == c && isN s (j + 1) t
theorem loop106 {cs : List Int} (hi : i + cs.length <= 1000000000000) : ∀ (n j : Nat), n = cs.length - j -> j <= cs.length ->
  loopW (evCode ⟨Tryz.prog, E, lo, (p ++ R l i :: q).length, h106⟩ loopW l106x0) ([(0, .ptr p.length 0), (7, .list .no (ri .i32 cs)), (8, .v (.int .i64 cs.length)), (9, .v (.int .i64 j))], p ++ R l i :: q) =
   if isN (suf l i) j (cs.drop j) = true then some (.exit 0, [(0, .ptr p.length 0), (7, .list .no (ri .i32 cs)), (8, .v (.int .i64 cs.length)), (9, .v (.int .i64 cs.length)), (10, .v (.bool false))], p ++ R l i :: q)
   else some (.ret, [(4, .v (.bool false))], p ++ R l i :: q) := by
 intro n
 induction n with
 | zero =>
  intro j hn hj
  obtain rfl : j = cs.length := by omega
  rw [loop_eq]
  have hd : decide ((cs.length : Int) < cs.length) = false := by simp
  simp only [go_sem, l106x0, b106, Tryz.f106, hd, List.drop_length, isN]
 | succ n ih =>
  intro j hn hj
  have hlt : j < cs.length := by omega
  have hx : cs[j]? = some cs[j] := List.getElem?_eq_getElem hlt
  have hd : decide ((j : Int) < cs.length) = true := by simpa using hlt
  have hw : IntKind.i64.wrap ((j : Int) + 1) = ((j + 1 : Nat) : Int) := wrap_succ (by omega)
  have k0 := fun lo p q => f90 (lo := lo) (l := l) (i := i) (p := p) (q := q) (k := j) (by omega)
  rw [loop_eq, List.drop_eq_getElem_cons hlt, isN]
  cases hc : chr (suf l i) j == cs[j] with
  | true =>
   have hne : (chr (suf l i) j != cs[j]) = false := by simp [bne, hc]
   have e : evCode ⟨Tryz.prog, E, lo, (p ++ R l i :: q).length, h106⟩ loopW l106x0 ([(0, .ptr p.length 0), (7, .list .no (ri .i32 cs)), (8, .v (.int .i64 cs.length)), (9, .v (.int .i64 j))], p ++ R l i :: q) =
     some (.normal, [(0, .ptr p.length 0), (7, .list .no (ri .i32 cs)), (8, .v (.int .i64 cs.length)), (9, .v (.int .i64 (j + 1 : Nat)))], p ++ R l i :: q) := by
    simp only [go_sem, l106x0, b106, Tryz.f106, hd, hx, hw, k0, hne]
   rw [e, loop_n, ih (j + 1) (by omega) (by omega), Bool.true_and]
  | false =>
   have hne : (chr (suf l i) j != cs[j]) = true := by simp [bne, hc]
   have e : evCode ⟨Tryz.prog, E, lo, (p ++ R l i :: q).length, h106⟩ loopW l106x0 ([(0, .ptr p.length 0), (7, .list .no (ri .i32 cs)), (8, .v (.int .i64 cs.length)), (9, .v (.int .i64 j))], p ++ R l i :: q) =
     some (.ret, [(4, .v (.bool false))], p ++ R l i :: q) := by
    simp only [go_sem, l106x0, b106, Tryz.f106, hd, hx, hw, k0, hne]
   rw [e, loop_r]
   rfl
theorem f106 {cs : List Int} (hi : i + cs.length <= 1000000000000) : E lo 106 [.ptr p.length 0, .list .no (ri .i32 cs)] (p ++ R l i :: q) = some (.v (.bool (isN (suf l i) 0 cs)), p ++ R l i :: q) := by
 have hL := loop106 (lo := lo) (p := p) (q := q) (l := l) (i := i) hi _ 0 rfl (by omega)
 simp only [l106x0, b106, Tryz.f106, loopAt, loops, bodyOf, go_sem, List.drop_zero] at hL
 rw [e106 (by simp) (by rfl)]
 cases hx : isN (suf l i) 0 cs with
 | true =>
  rw [if_pos hx] at hL
  simp only [go_sem, b106, Tryz.f106, hL]
 | false =>
  rw [if_neg (by simp [hx])] at hL
  simp only [go_sem, b106, Tryz.f106, hL]
theorem hex_neg1 : hex (-1) = -1 := by decide
theorem hex_up (c : Int) : hex c <= 15 := by
 unfold hex dig
 split
 ·rename_i h; simp at h; omega
 ·split
  ·rename_i h; simp at h; omega
  ·split
   ·rename_i h; simp at h; omega
   ·omega
theorem blk_neg1 : blk (-1) = false := by decide
theorem chr_nil (k : Nat) : chr [] k = -1 := by simp [chr]
theorem loop154 (hlo : lo <= p.length) (hl : l.length <= 100000000000) : ∀ (n k i : Nat) (v : Int), n + k = 6 -> i <= l.length -> 0 <= v -> v < 16 ^ k ->
  ∃ (j : Nat) (t : Int), j <= l.length /\ i <= j /\ suf l j = (hexN n v (suf l i)).2 /\ 0 <= (hexN n v (suf l i)).1 /\ (hexN n v (suf l i)).1 < 16777216 /\
   loopW (evCode ⟨Tryz.prog, E, lo, (p ++ R l i :: q).length, h154⟩ loopW l154x0) ([(0, .ptr p.length 0), (3, .v (.int .i32 v)), (4, .v (.int .i64 k))], p ++ R l i :: q) =
    some (.exit 0, [(0, .ptr p.length 0), (3, .v (.int .i32 (hexN n v (suf l i)).1)), (4, .v (.int .i64 t)), (21, .v (.bool false))], p ++ R l j :: q) := by
 intro n
 induction n with
 | zero =>
  intro k i v hk hi h0 h1
  obtain rfl : k = 6 := by omega
  refine ⟨i, 6, hi, Nat.le_refl _, rfl, h0, by simpa [hexN] using h1, ?_⟩
  have k0 := fun lo p q => f90 (lo := lo) (l := l) (i := i) (p := p) (q := q) (k := 0) (by omega)
  simp only [n0] at k0
  have n6 : ((6 : Nat) : Int) = 6 := rfl
  rw [loop_eq]
  simp only [n6]
  simp only [go_sem, l154x0, b154, Tryz.f154, hexN, decide_false]
 | succ n ih =>
  intro k i v hk hi h0 h1
  have k0 := fun lo p q => f90 (lo := lo) (l := l) (i := i) (p := p) (q := q) (k := 0) (by omega)
  have k1 := fun lo p q h => f120 (lo := lo) (l := l) (i := i) (p := p) (q := q) h (by omega)
  have hc := chr_in l i 0
  have kh := fun lo h => f185 (lo := lo) (h := h) hc.1 hc.2
  simp only [n0] at k0
  have hd : decide ((k : Int) < 6) = true := by simp; omega
  have hw : IntKind.i64.wrap ((k : Int) + 1) = ((k + 1 : Nat) : Int) := wrap_succ (by omega)
  have hp : (16 : Int) ^ k <= 1048576 := by
   have : k = 0 \/ k = 1 \/ k = 2 \/ k = 3 \/ k = 4 \/ k = 5 := by omega
   rcases this with h | h | h | h | h | h <;> rw [h] <;> decide
  have hv : v < 1048576 := by omega
  have hup := hex_up (chr (suf l i) 0)
  rw [loop_eq]
  by_cases hx : hex (chr (suf l i) 0) < 0
  ·have hd2 : decide (0 <= hex (chr (suf l i) 0)) = false := by simp; omega
   have e1 : hexN (n + 1) v (suf l i) = (v, suf l i) := by
    by_cases hi' : i < l.length
    ·rw [suf_next hi'] at hx ⊢
     simp only [hexN]
     rw [if_pos (by simpa [chr] using hx)]
    ·rw [suf_end (by omega)]; rfl
   rw [e1]
   refine ⟨i, k, hi, Nat.le_refl _, rfl, h0, by simp only; omega, ?_⟩
   simp only [go_sem, l154x0, b154, Tryz.f154, hd, k0, kh, hd2]
  ·have hd2 : decide (0 <= hex (chr (suf l i) 0)) = true := by simp; omega
   have hi' : i < l.length := by
    rcases Nat.lt_or_ge i l.length with h | h
    ·exact h
    ·rw [suf_end h, chr_nil, hex_neg1] at hx; omega
   have e1 : hexN (n + 1) v (suf l i) = hexN n (v * 16 + hex (chr (suf l i) 0)) (suf l (i + 1)) := by
    rw [suf_next hi'] at hx
    rw [suf_next hi']
    simp only [hexN]
    rw [if_neg (by simpa [chr] using hx)]
    simp [chr]
   have w1 : IntKind.i32.wrap (v * 16) = v * 16 := wrap_i32 (by omega) (by omega)
   have w2 : IntKind.i32.wrap (v * 16 + hex (chr (suf l i) 0)) = v * 16 + hex (chr (suf l i) 0) := wrap_i32 (by omega) (by omega)
   have hpow : (16 : Int) ^ (k + 1) = 16 ^ k * 16 := Int.pow_succ ..
   obtain ⟨j, t, j1, j2, j3, j4, j5, j6⟩ := ih (k + 1) (i + 1) (v * 16 + hex (chr (suf l i) 0)) (by omega) (by omega) (by omega) (by rw [hpow]; omega)
   rw [e1]
   refine ⟨j, t, j1, by omega, j3, j4, j5, ?_⟩
   have e : evCode ⟨Tryz.prog, E, lo, (p ++ R l i :: q).length, h154⟩ loopW l154x0 ([(0, .ptr p.length 0), (3, .v (.int .i32 v)), (4, .v (.int .i64 k))], p ++ R l i :: q) =
     some (.normal, [(0, .ptr p.length 0), (3, .v (.int .i32 (v * 16 + hex (chr (suf l i) 0)))), (4, .v (.int .i64 (k + 1 : Nat)))], p ++ R l (i + 1) :: q) := by
    simp only [go_sem, l154x0, b154, Tryz.f154, hd, k0, kh, hd2, k1 _ _ _ hlo, w1, w2, hw]
   rw [e, loop_n]
   simp only [hl_app, hl_cons] at j6 ⊢
   exact j6
theorem one1_suf (l : List Int) {j : Nat} (hj : j <= l.length) : (blk (chr (suf l j) 0) = true -> j < l.length /\ one1 (suf l j) = suf l (j + 1)) /\ (blk (chr (suf l j) 0) = false -> one1 (suf l j) = suf l j) := by
 rcases Nat.lt_or_ge j l.length with h | h
 ·have h1 := suf_next h
  generalize chr (suf l j) 0 = c at h1
  rw [h1]
  refine ⟨fun hb => ⟨h, ?_⟩, fun hb => ?_⟩
  ·simp only [one1]; rw [if_pos hb]
  ·simp only [one1]; rw [if_neg (by simp [hb])]
 ·rw [suf_end h, chr_nil, blk_neg1]
  exact ⟨fun h => by simp at h, fun _ => rfl⟩
theorem f154 (hl : l.length <= 100000000000) (hi : i <= l.length) : ∃ j, j <= l.length /\ i <= j /\ suf l j = (escd (suf l i)).2 /\
  ∀ lo p q, lo <= p.length -> E lo 154 [.ptr p.length 0] (p ++ R l i :: q) = some (.v (.int .i32 (escd (suf l i)).1), p ++ R l j :: q) := by
 have k0 := fun lo p q => f90 (lo := lo) (l := l) (i := i) (p := p) (q := q) (k := 0) (by omega)
 have k1 := fun lo p q h => f120 (lo := lo) (l := l) (i := i) (p := p) (q := q) h (by omega)
 have hc := chr_in l i 0
 have kh := fun lo h => f185 (lo := lo) (h := h) hc.1 hc.2
 simp only [n0] at k0
 by_cases hx : hex (chr (suf l i) 0) < 0
 ·have hd : decide (hex (chr (suf l i) 0) < 0) = true := by simpa using hx
  by_cases hi' : i < l.length
  ·have hne : (chr (suf l i) 0 == -1) = false := by
    rw [suf_chr, Nat.add_zero, List.getElem?_eq_getElem hi']
    have := scal_in l[i]
    simp; omega
   have e1 : escd (suf l i) = (chr (suf l i) 0, suf l (i + 1)) := by
    have h1 := suf_next hi'
    generalize chr (suf l i) 0 = c at h1 hx
    rw [h1]
    simp only [escd]
    rw [if_pos hx]
   rw [e1]
   refine ⟨i + 1, by omega, by omega, rfl, fun lo p q hlo => ?_⟩
   rw [e154 (by simp) (by rfl)]
   simp only [go_sem, b154, Tryz.f154, k0, kh, hd, hne, k1 _ _ _ hlo]
  ·have hs : suf l i = [] := suf_end (by omega)
   have hd' : decide (hex (-1) < 0) = true := by decide
   have hne : ((-1 : Int) == -1) = true := rfl
   simp only [hs, chr_nil] at k0 kh
   rw [hs]
   refine ⟨i, hi, Nat.le_refl _, by rw [hs]; rfl, fun lo p q hlo => ?_⟩
   rw [e154 (by simp) (by rfl)]
   simp only [go_sem, b154, Tryz.f154, k0, kh, hd', hne]
   rfl
 ·have hd : decide (hex (chr (suf l i) 0) < 0) = false := by simp; omega
  have hi' : i < l.length := by
   rcases Nat.lt_or_ge i l.length with h | h
   ·exact h
   ·rw [suf_end h, chr_nil, hex_neg1] at hx; omega
  have e1 : escd (suf l i) = (if (hexN 6 0 (suf l i)).1 = 0 then 65533 else scal (hexN 6 0 (suf l i)).1, one1 (hexN 6 0 (suf l i)).2) := by
   have h1 := suf_next hi'
   generalize chr (suf l i) 0 = c at h1 hx
   rw [h1]
   simp only [escd]
   rw [if_neg hx]
  obtain ⟨j, t, j1, j2, j3, j4, j5, _⟩ := loop154 (lo := 0) (p := []) (q := []) (l := l) (Nat.le_refl _) hl 6 0 i 0 rfl hi (Int.le_refl _) (by decide)
  have hone := one1_suf l j1
  have kj := fun lo p q => f90 (lo := lo) (l := l) (i := j) (p := p) (q := q) (k := 0) (by omega)
  have kt := fun lo p q h => f120 (lo := lo) (l := l) (i := j) (p := p) (q := q) h (by omega)
  simp only [n0] at kj
  rw [e1]
  generalize hv : (hexN 6 0 (suf l i)).1 = v at j4 j5
  have fold : (if (v == 0 || decide (1114111 < v) || decide (55296 <= v) && decide (v <= 57343)) = true then (65533 : Int) else v) = if v = 0 then 65533 else scal v := by
   by_cases h0 : v = 0
   ·simp [h0]
   ·rw [if_neg h0]
    unfold scal
    have a0 : (v == 0) = false := by simp [h0]
    have a1 : decide (v < 0) = false := by simp; omega
    rw [a0, a1]
  cases hb : blk (chr (suf l j) 0) with
  | true =>
   obtain ⟨hj', hone⟩ := hone.1 hb
   refine ⟨j + 1, by omega, by omega, by rw [<- j3, hone], fun lo p q hlo => ?_⟩
   obtain ⟨j', t', j1', _, j3', _, _, hL⟩ := loop154 (lo := lo) (p := p) (q := q) (l := l) hlo hl 6 0 i 0 rfl hi (Int.le_refl _) (by decide)
   obtain rfl : j' = j := suf_inj j1' j1 (by rw [j3', j3])
   rw [hv] at hL
   rw [e154 (by simp) (by rfl)]
   simp only [l154x0, b154, Tryz.f154, loopAt, loops, bodyOf, go_sem] at hL
   simp only [go_sem, b154, Tryz.f154, k0, kh, hd, hL, kj, f107, hb, kt _ _ _ hlo]
   rw [<- fold]
  | false =>
   refine ⟨j, j1, j2, by rw [<- j3, hone.2 hb], fun lo p q hlo => ?_⟩
   obtain ⟨j', t', j1', _, j3', _, _, hL⟩ := loop154 (lo := lo) (p := p) (q := q) (l := l) hlo hl 6 0 i 0 rfl hi (Int.le_refl _) (by decide)
   obtain rfl : j' = j := suf_inj j1' j1 (by rw [j3', j3])
   rw [hv] at hL
   rw [e154 (by simp) (by rfl)]
   simp only [l154x0, b154, Tryz.f154, loopAt, loops, bodyOf, go_sem] at hL
   simp only [go_sem, b154, Tryz.f154, k0, kh, hd, hL, kj, f107, hb]
   rw [<- fold]
end
def plainK (c : Int) : Int :=
 if c = 40 then 21 else if c = 41 then 22 else if c = 44 then 18 else if c = 58 then 16 else if c = 59 then 17
 else if c = 91 then 19 else if c = 93 then 20 else if c = 123 then 23 else if c = 125 then 24 else 0
theorem f110 {lo : Nat} {c : Int} {h : Heap} : E lo 110 [.v (.int .i32 c)] h = some (.v (.int .i64 (plainK c)), h) := by
 rw [e110 (by simp) (by rfl)]
 unfold plainK
 by_cases h1 : c = 40
 ·subst h1; have t : ((40 : Int) == 40) = true := rfl
  simp only [go_sem, b110, Tryz.f110, t]
 have t1 : (c == 40) = false := by simp [h1]
 by_cases h2 : c = 41
 ·subst h2; have t : ((41 : Int) == 41) = true := rfl
  simp only [go_sem, b110, Tryz.f110, t1, t, h1]
 have t2 : (c == 41) = false := by simp [h2]
 by_cases h3 : c = 44
 ·subst h3; have t : ((44 : Int) == 44) = true := rfl
  simp only [go_sem, b110, Tryz.f110, t1, t2, t, h1, h2]
 have t3 : (c == 44) = false := by simp [h3]
 by_cases h4 : c = 58
 ·subst h4; have t : ((58 : Int) == 58) = true := rfl
  simp only [go_sem, b110, Tryz.f110, t1, t2, t3, t, h1, h2, h3]
 have t4 : (c == 58) = false := by simp [h4]
 by_cases h5 : c = 59
 ·subst h5; have t : ((59 : Int) == 59) = true := rfl
  simp only [go_sem, b110, Tryz.f110, t1, t2, t3, t4, t, h1, h2, h3, h4]
 have t5 : (c == 59) = false := by simp [h5]
 by_cases h6 : c = 91
 ·subst h6; have t : ((91 : Int) == 91) = true := rfl
  simp only [go_sem, b110, Tryz.f110, t1, t2, t3, t4, t5, t, h1, h2, h3, h4, h5]
 have t6 : (c == 91) = false := by simp [h6]
 by_cases h7 : c = 93
 ·subst h7; have t : ((93 : Int) == 93) = true := rfl
  simp only [go_sem, b110, Tryz.f110, t1, t2, t3, t4, t5, t6, t, h1, h2, h3, h4, h5, h6]
 have t7 : (c == 93) = false := by simp [h7]
 by_cases h8 : c = 123
 ·subst h8; have t : ((123 : Int) == 123) = true := rfl
  simp only [go_sem, b110, Tryz.f110, t1, t2, t3, t4, t5, t6, t7, t, h1, h2, h3, h4, h5, h6, h7]
 have t8 : (c == 123) = false := by simp [h8]
 by_cases h9 : c = 125
 ·subst h9; have t : ((125 : Int) == 125) = true := rfl
  simp only [go_sem, b110, Tryz.f110, t1, t2, t3, t4, t5, t6, t7, t8, t, h1, h2, h3, h4, h5, h6, h7, h8]
 have t9 : (c == 125) = false := by simp [h9]
 simp only [go_sem, b110, Tryz.f110, t1, t2, t3, t4, t5, t6, t7, t8, t9, h1, h2, h3, h4, h5, h6, h7, h8, h9]
theorem f194 {lo : Nat} {c : Int} {h : Heap} : E lo 194 [.v (.int .i32 c)] h = some (.v (.bool (unp c)), h) := by
 rw [e194 (by simp) (by rfl)]
 simp only [go_sem, b194, Tryz.f194, unp]
end Go.Lift.P8.T
end

section
open Go.Proofs
namespace Go.Lift.P8.T
variable [MX]
open Utf
theorem fdiv64 (y : Int) (k : Nat) : y.fdiv (2 ^ min k 32) = y / 2 ^ min k 32 := by
 rw [Int.fdiv_eq_ediv_of_nonneg]
 exact Int.le_of_lt (Int.pow_pos (by omega))
theorem bytes_eq (y : Int) (h0 : 0 <= y) (h1 : y <= 1114111) (out : List Int) :
  (
   if decide (y < 128) = true then ri .u8 out ++ [[V.v (.int .u8 (IntKind.u8.wrap y))]]
   else if decide (y < 2048) = true then ri .u8 out ++ [[V.v (.int .u8 (IntKind.u8.wrap ↑(BitVec.ofInt 8 192 ||| BitVec.ofInt 8 (IntKind.u8.wrap (y.fdiv (2 ^ min 6 32)))).toNat))],
    [V.v (.int .u8 (IntKind.u8.wrap ↑(BitVec.ofInt 8 128 ||| BitVec.ofInt 8 (IntKind.u8.wrap (IntKind.i32.wrap ↑(BitVec.ofInt 32 y &&& BitVec.ofInt 32 63).toNat))).toNat))]]
   else if decide (y < 65536) = true then ri .u8 out ++ [[V.v (.int .u8 (IntKind.u8.wrap ↑(BitVec.ofInt 8 224 ||| BitVec.ofInt 8 (IntKind.u8.wrap (y.fdiv (2 ^ min 12 32)))).toNat))],
    [V.v (.int .u8 (IntKind.u8.wrap ↑(BitVec.ofInt 8 128 ||| BitVec.ofInt 8 (IntKind.u8.wrap (IntKind.i32.wrap ↑(BitVec.ofInt 32 (y.fdiv (2 ^ min 6 32)) &&& BitVec.ofInt 32 63).toNat))).toNat))],
    [V.v (.int .u8 (IntKind.u8.wrap ↑(BitVec.ofInt 8 128 ||| BitVec.ofInt 8 (IntKind.u8.wrap (IntKind.i32.wrap ↑(BitVec.ofInt 32 y &&& BitVec.ofInt 32 63).toNat))).toNat))]]
   else ri .u8 out ++ [[V.v (.int .u8 (IntKind.u8.wrap ↑(BitVec.ofInt 8 240 ||| BitVec.ofInt 8 (IntKind.u8.wrap (y.fdiv (2 ^ min 18 32)))).toNat))],
    [V.v (.int .u8 (IntKind.u8.wrap ↑(BitVec.ofInt 8 128 ||| BitVec.ofInt 8 (IntKind.u8.wrap (IntKind.i32.wrap ↑(BitVec.ofInt 32 (y.fdiv (2 ^ min 12 32)) &&& BitVec.ofInt 32 63).toNat))).toNat))],
    [V.v (.int .u8 (IntKind.u8.wrap ↑(BitVec.ofInt 8 128 ||| BitVec.ofInt 8 (IntKind.u8.wrap (IntKind.i32.wrap ↑(BitVec.ofInt 32 (y.fdiv (2 ^ min 6 32)) &&& BitVec.ofInt 32 63).toNat))).toNat))],
    [V.v (.int .u8 (IntKind.u8.wrap ↑(BitVec.ofInt 8 128 ||| BitVec.ofInt 8 (IntKind.u8.wrap (IntKind.i32.wrap ↑(BitVec.ofInt 32 y &&& BitVec.ofInt 32 63).toNat))).toNat))]])
  = ri .u8 (out ++ enc y) := by
 have lo6 : ∀ z : Int, 0 <= z -> z <= 1114111 -> IntKind.u8.wrap ↑(BitVec.ofInt 8 128 ||| BitVec.ofInt 8 (IntKind.u8.wrap (IntKind.i32.wrap ↑(BitVec.ofInt 32 z &&& BitVec.ofInt 32 63).toNat))).toNat = 128 + z % 64 := by
  intro z z0 z1
  rw [and63 z0 (by omega), wrap_i32 (by omega) (by omega), wrap_u8 (n := z % 64) (by omega) (by omega), Utf.o8 (n := 64) (by omega) (by omega) (by omega), wrap_u8 (by omega) (by omega)]
 have e6 : y.fdiv (2 ^ min 6 32) = y / 64 := fdiv64 y 6
 have e119 : y.fdiv (2 ^ min 12 32) = y / 4096 := fdiv64 y 12
 have e18 : y.fdiv (2 ^ min 18 32) = y / 262144 := fdiv64 y 18
 rw [e6, e119, e18, lo6 y h0 h1, lo6 (y / 64) (by omega) (by omega), lo6 (y / 4096) (by omega) (by omega), <- ri_app]
 unfold enc
 by_cases c1 : y < 128
 ·simp only [c1, decide_true, if_true, ri_cons, ri_nil]
  rw [wrap_u8 (by omega) (by omega)]
 ·by_cases c2 : y < 2048
  ·simp only [c1, c2, decide_true, decide_false, if_true, if_false, ri_cons, ri_nil, Bool.false_eq_true]
   rw [wrap_u8 (n := y / 64) (by omega) (by omega), Utf.o8 (n := 32) (by omega) (by omega) (by omega), wrap_u8 (by omega) (by omega)]
  ·by_cases c3 : y < 65536
   ·simp only [c1, c2, c3, decide_true, decide_false, if_true, if_false, ri_cons, ri_nil, Bool.false_eq_true]
    rw [wrap_u8 (n := y / 4096) (by omega) (by omega), Utf.o8 (n := 16) (by omega) (by omega) (by omega), wrap_u8 (by omega) (by omega)]
   ·simp only [c1, c2, c3, decide_true, decide_false, if_true, if_false, ri_cons, ri_nil, Bool.false_eq_true]
    rw [wrap_u8 (n := y / 262144) (by omega) (by omega), Utf.o8 (n := 8) (by omega) (by omega) (by omega), wrap_u8 (by omega) (by omega)]
theorem round119 {lo : Nat} {l out : List Int} {h : Heap} {i : Nat} {x : Int} (hx : l[i]? = some x) (hi : i < l.length) (hl : l.length <= 35184372088832) (ho : out.length <= 140737488355324) :
  evCode ⟨Tryz.prog, E, lo, h.length, h119⟩ loopW l119x0 ([(3, .list .yes (ri .u8 out)), (6, .list .no (ri .i32 l)), (7, .v (.int .i64 l.length)), (8, .v (.int .i64 i))], h) =
   some (.normal, [(3, .list .yes (ri .u8 (out ++ enc (scal x)))), (6, .list .no (ri .i32 l)), (7, .v (.int .i64 l.length)), (8, .v (.int .i64 (i + 1 : Nat)))], h) := by
 have hd : decide ((i : Int) < l.length) = true := by simpa using hi
 have hr : ∀ k, k <= 4 -> (out.length + k) * 1 <= 140737488355328 := by intro k hk; omega
 have hq : ∀ k, 9223372036854775800 <= k -> out.length <= k := by intro k hk; omega
 have hw : IntKind.i64.wrap ((i : Int) + 1) = ((i + 1 : Nat) : Int) := wrap_succ (by omega)
 have hs : (if (decide (x < 0) || decide (1114111 < x) || decide (55296 <= x) && decide (x <= 57343)) = true then 65533 else x) = scal x := rfl
 simp only [go_sem, l119x0, b119, Tryz.f119, hd, hx, hr, hq, hw, hs]
 have hy := scal_in x
 exact congrArg (fun r => (Ex.normal, (([(3, V.list .yes r), (6, V.list .no (ri .i32 l)), (7, .v (.int .i64 l.length)), (8, .v (.int .i64 (i + 1 : Nat)))] : Env), h))) (bytes_eq (scal x) hy.1 hy.2 out)
theorem loop119 {lo : Nat} {l : List Int} {h : Heap} (hl : l.length <= 35184372088832) : ∀ (n i : Nat) (out : List Int), n = l.length - i -> i <= l.length -> out.length <= 4 * i ->
  loopW (evCode ⟨Tryz.prog, E, lo, h.length, h119⟩ loopW l119x0) ([(3, .list .yes (ri .u8 out)), (6, .list .no (ri .i32 l)), (7, .v (.int .i64 l.length)), (8, .v (.int .i64 i))], h) =
   some (.exit 0, [(3, .list .yes (ri .u8 (out ++ (l.drop i).flatMap fun x => enc (scal x)))), (6, .list .no (ri .i32 l)), (7, .v (.int .i64 l.length)), (8, .v (.int .i64 l.length)), (9, .v (.bool false))], h) := by
 intro n
 induction n with
 | zero =>
  intro i out hn hi ho
  obtain rfl : i = l.length := by omega
  rw [loop_eq]
  have hd : decide ((l.length : Int) < l.length) = false := by simp
  simp only [go_sem, l119x0, b119, Tryz.f119, hd, List.drop_length, List.flatMap_nil]
 | succ n ih =>
  intro i out hn hi ho
  have hlt : i < l.length := by omega
  have hx : l[i]? = some l[i] := List.getElem?_eq_getElem hlt
  have he : (enc (scal l[i])).length <= 4 := by
   unfold enc
   split
   ·simp
   ·split
    ·simp
    ·split <;> simp
  rw [loop_eq, round119 hx hlt hl (by omega), loop_n, ih (i + 1) _ (by omega) (by omega) (by rw [List.length_append]; omega), List.drop_eq_getElem_cons hlt, List.flatMap_cons, List.append_assoc]
theorem f119 {lo : Nat} {l : List Int} {h : Heap} (hl : l.length <= 35184372088832) :
  E lo 119 [.list .no (ri .i32 l)] h = some (.list .no (ri .u8 (l.flatMap fun x => enc (scal x))), h) := by
 rw [e119 (by simp) (by rfl)]
 have hL := loop119 (lo := lo) (h := h) hl _ 0 [] rfl (by omega) (by simp)
 simp only [l119x0, b119, Tryz.f119, loopAt, loops, bodyOf, go_sem, List.drop_zero, ri_nil] at hL
 simp only [go_sem, b119, Tryz.f119, hL]
end Go.Lift.P8.T
end

section
open Go.Proofs
namespace Go.Lift.P8
variable [MX]
open Utf
theorem round121 {lo : Nat} {b : List Int} {h : Heap} {i n : Nat} {r low high c : Int} (hc : b[i + 1]? = some c) (hi : i < n) (hn : n <= 3) (hb : b.length <= 140737488355328) (hl : i + 1 < b.length)
  (c0 : 0 <= c) (c1 : c <= 255) (r0 : 0 <= r) (r1 : r <= 1000000) (hx : (decide (c < low) || decide (high < c)) = false) :
  evCode ⟨Tryz.prog, E, lo, h.length, h121⟩ loopW l121x0 ([(0, .list .no (ri .u8 b)), (5, .v (.int .u8 low)), (6, .v (.int .u8 high)), (7, .v (.int .i64 n)), (8, .v (.int .i32 r)), (58, .v (.int .i64 n)), (59, .v (.int .i64 i))], h) =
   some (.normal, [(0, .list .no (ri .u8 b)), (5, .v (.int .u8 128)), (6, .v (.int .u8 191)), (7, .v (.int .i64 n)), (8, .v (.int .i32 (r * 64 + c % 64))), (58, .v (.int .i64 n)), (59, .v (.int .i64 (i + 1 : Nat)))], h) := by
 have hd : decide ((i : Int) < n) = true := by simpa using hi
 have hw : IntKind.i64.wrap ((i : Int) + 1) = ((i + 1 : Nat) : Int) := wrap_succ (by omega)
 have hg : decide ((b.length : Int) <= (i + 1 : Nat)) = false := by simp; omega
 have hx1 : decide (c < low) = false := by simp at hx; simp; omega
 have hx2 : decide (high < c) = false := by simp at hx; simp; omega
 simp only [go_sem, l121x0, b121, Tryz.f121, hd, hc, hw, hg, hx1, hx2]
 rw [shl6 r0 r1, a63 c0 c1, wrap_u8 (by omega) (by omega), wrap_i32 (n := c % 64) (by omega) (by omega), or64 r0 r1 (by omega) (by omega), wrap_i32 (by omega) (by omega)]
theorem stop121 {lo : Nat} {b : List Int} {h : Heap} {i n : Nat} {r low high : Int} (hi : i < n) (hn : n <= 3) (hb : b.length <= 140737488355328)
  (hs : b.length <= i + 1 \/ ∃ c, b[i + 1]? = some c /\ i + 1 < b.length /\ (c < low \/ high < c)) :
  evCode ⟨Tryz.prog, E, lo, h.length, h121⟩ loopW l121x0 ([(0, .list .no (ri .u8 b)), (5, .v (.int .u8 low)), (6, .v (.int .u8 high)), (7, .v (.int .i64 n)), (8, .v (.int .i32 r)), (58, .v (.int .i64 n)), (59, .v (.int .i64 i))], h) =
   some (.ret, [(2, .v (.int .i32 65533)), (3, .v (.int .i64 (i + 1 : Nat)))], h) := by
 have hd : decide ((i : Int) < n) = true := by simpa using hi
 have hw : IntKind.i64.wrap ((i : Int) + 1) = ((i + 1 : Nat) : Int) := wrap_succ (by omega)
 rcases hs with hs | ⟨c, hc, hl, hs⟩
 ·have hg : decide ((b.length : Int) <= (i + 1 : Nat)) = true := by simp; omega
  have hc : b[i + 1]? = none := List.getElem?_eq_none hs
  simp only [go_sem, l121x0, b121, Tryz.f121, hd, hw, hg, hc]
 ·have hg : decide ((b.length : Int) <= (i + 1 : Nat)) = false := by simp; omega
  by_cases h1 : c < low
  ·have hx1 : decide (c < low) = true := by simp; omega
   simp only [go_sem, l121x0, b121, Tryz.f121, hd, hc, hw, hg, hx1]
  ·have hx1 : decide (c < low) = false := by simp; omega
   have hx2 : decide (high < c) = true := by simp; omega
   simp only [go_sem, l121x0, b121, Tryz.f121, hd, hc, hw, hg, hx1, hx2]
def end121 (b : List Int) (n : Nat) (x : Int × Nat × Bool) (h : Heap) (z : Ex × St) : Prop :=
 if x.2.2 = true then ∃ low high, z = (.exit 3, [(0, .list .no (ri .u8 b)), (5, .v (.int .u8 low)), (6, .v (.int .u8 high)), (7, .v (.int .i64 n)), (8, .v (.int .i32 x.1)), (58, .v (.int .i64 n)), (59, .v (.int .i64 n)), (60, .v (.bool false))], h)
 else z = (.ret, [(2, .v (.int .i32 x.1)), (3, .v (.int .i64 x.2.1))], h)
theorem more_snd : ∀ (n : Nat) (r lo hi : Int) (k : Nat) (t : List Int), (more n r lo hi k t).2.2 = true -> (more n r lo hi k t).2.1 = k + n
 | 0, _, _, _, _, _, _ => rfl
 | n + 1, r, lo, hi, k, [], h => by simp [more] at h
 | n + 1, r, lo, hi, k, c :: t, h => by
  unfold more at h ⊢
  split at h
  ·simp at h
  ·rename_i hc
   rw [if_neg hc, more_snd n _ _ _ _ _ h]
   omega
theorem loop121 {lo : Nat} {b : List Int} {h : Heap} {n : Nat} (hn : n <= 3) (hb : b.length <= 140737488355328) (hy : By b) : ∀ (m i : Nat) (r low high : Int), m = n - i -> i <= n -> 0 <= r -> (r + 1) * 64 ^ m <= 64000000 ->
  ∃ z, loopW (evCode ⟨Tryz.prog, E, lo, h.length, h121⟩ loopW l121x0) ([(0, .list .no (ri .u8 b)), (5, .v (.int .u8 low)), (6, .v (.int .u8 high)), (7, .v (.int .i64 n)), (8, .v (.int .i32 r)), (58, .v (.int .i64 n)), (59, .v (.int .i64 i))], h) = some z
   /\ end121 b n (more m r low high (i + 1) (b.drop (i + 1))) h z := by
 intro m
 induction m with
 | zero =>
  intro i r low high hm hi h0 h1
  obtain rfl : i = n := by omega
  have hd : decide ((i : Int) < i) = false := by simp
  rw [loop_eq]
  simp only [go_sem, l121x0, b121, Tryz.f121, hd]
  exact ⟨_, rfl, low, high, rfl⟩
 | succ m ih =>
  intro i r low high hm hi h0 h1
  have hlt : i < n := by omega
  rw [loop_eq]
  by_cases hl : i + 1 < b.length
  ·have hc : b[i + 1]? = some b[i + 1] := List.getElem?_eq_getElem hl
   have hcy := hy b[i + 1] (List.getElem_mem hl)
   rw [List.drop_eq_getElem_cons hl]
   by_cases hx : b[i + 1] < low \/ high < b[i + 1]
   ·rw [stop121 hlt hn hb (.inr ⟨_, hc, hl, hx⟩), loop_r]
    exact ⟨_, rfl, by simp only [more, if_pos hx]; rfl⟩
   ·rw [Int.pow_succ] at h1
    have hp : (1 : Int) <= 64 ^ m := Int.pow_pos (by omega)
    have hr : (r + 1) * 64 * 64 ^ m = (r + 1) * (64 ^ m * 64) := by rw [Int.mul_assoc, Int.mul_comm 64]
    have h2 : (r + 1) * 64 * 1 <= (r + 1) * 64 * 64 ^ m := Int.mul_le_mul_of_nonneg_left hp (by omega)
    have h3 : (r * 64 + b[i + 1] % 64 + 1) * 64 ^ m <= (r + 1) * 64 * 64 ^ m := Int.mul_le_mul_of_nonneg_right (by omega) (by omega)
    rw [round121 hc hlt hn hb hl hcy.1 hcy.2 h0 (by omega) (by simp; omega), loop_n]
    have := ih (i + 1) (r * 64 + b[i + 1] % 64) 128 191 (by omega) (by omega) (by omega) (by omega)
    simpa only [more, if_neg hx] using this
  ·have hs : b.length <= i + 1 := by omega
   rw [stop121 hlt hn hb (.inl hs), loop_r, List.drop_eq_nil_of_le hs]
   exact ⟨_, rfl, rfl⟩
end Go.Lift.P8
end

section
open Go.Proofs
namespace Go.Lift.P8
variable [MX]
open Utf
def two (x : Int × Nat × Bool) : V := .tup [.v (.int .i32 x.1), .v (.int .i64 x.2.1)]
theorem f121a {lo : Nat} {c : Int} {t : List Int} {h : Heap} (hb : (c :: t).length <= 140737488355328) (hy : By (c :: t)) (hc : 194 <= c /\ c <= 223) :
  E lo 121 [.list .no (ri .u8 (c :: t))] h = some (two (more 1 (c % 32) 128 191 1 t), h) := by
 have hcy := hy c (List.mem_cons_self ..)
 have t0 : decide (c < 128) = false := by simp; omega
 have t1 : decide (194 <= c) = true := by simp; omega
 have t2 : decide (c <= 223) = true := by simp; omega
 have t3 : decide (224 <= c) = false := by simp; omega
 have t4 : decide (c <= 239) = true := by simp; omega
 have t5 : decide (240 <= c) = false := by simp; omega
 have t6 : decide (c <= 244) = true := by simp; omega
 have q0 : (c == 224) = false := by simp; omega
 have q1 : (c == 237) = false := by simp; omega
 have q2 : (c == 240) = false := by simp; omega
 have q3 : (c == 244) = false := by simp; omega
 have hx : (c :: t)[0]? = some c := rfl
 have hm : IntKind.i32.wrap (IntKind.u8.wrap (iand .u8 c 31)) = c % 32 := by rw [a31 hcy.1 hcy.2, wrap_u8 (by omega) (by omega), wrap_i32 (by omega) (by omega)]
 obtain ⟨z, hL, hz⟩ := loop121 (lo := lo) (b := c :: t) (h := h) (n := 1) (by omega) hb hy 1 0 (c % 32) 128 191 rfl (by omega) (by omega) (by omega)
 have hn : (c :: t).drop (0 + 1) = t := rfl
 rw [hn] at hz
 have n1 : ((1 : Nat) : Int) = 1 := rfl
 have n2 : ((2 : Nat) : Int) = 2 := rfl
 have n3 : ((3 : Nat) : Int) = 3 := rfl
 simp only [l121x0, b121, Tryz.f121, loopAt, loops, bodyOf, go_sem, n1, n2, n3] at hL
 rw [e121 (by simp) (by rfl)]
 unfold end121 at hz
 split at hz
 ·rename_i hk
  obtain ⟨low, high, rfl⟩ := hz
  simp only [n1, n2, n3] at hL
  simp only [go_sem, b121, Tryz.f121, hx, t0, t1, t2, t3, t4, t5, t6, q0, q1, q2, q3, hm, hL]
  rw [two, more_snd _ _ _ _ _ _ hk]
  rfl
 ·subst hz
  simp only [go_sem, b121, Tryz.f121, hx, t0, t1, t2, t3, t4, t5, t6, q0, q1, q2, q3, hm, hL]
  rfl
theorem f121b {lo : Nat} {c : Int} {t : List Int} {h : Heap} (hb : (c :: t).length <= 140737488355328) (hy : By (c :: t)) (hc : c = 224) :
  E lo 121 [.list .no (ri .u8 (c :: t))] h = some (two (more 2 (c % 16) 160 191 1 t), h) := by
 have hcy := hy c (List.mem_cons_self ..)
 have t0 : decide (c < 128) = false := by simp; omega
 have t1 : decide (194 <= c) = true := by simp; omega
 have t2 : decide (c <= 223) = false := by simp; omega
 have t3 : decide (224 <= c) = true := by simp; omega
 have t4 : decide (c <= 239) = true := by simp; omega
 have t5 : decide (240 <= c) = false := by simp; omega
 have t6 : decide (c <= 244) = true := by simp; omega
 have q0 : (c == 224) = true := by simp; omega
 have q1 : (c == 237) = false := by simp; omega
 have q2 : (c == 240) = false := by simp; omega
 have q3 : (c == 244) = false := by simp; omega
 have hx : (c :: t)[0]? = some c := rfl
 have hm : IntKind.i32.wrap (IntKind.u8.wrap (iand .u8 c 15)) = c % 16 := by rw [a15 hcy.1 hcy.2, wrap_u8 (by omega) (by omega), wrap_i32 (by omega) (by omega)]
 obtain ⟨z, hL, hz⟩ := loop121 (lo := lo) (b := c :: t) (h := h) (n := 2) (by omega) hb hy 2 0 (c % 16) 160 191 rfl (by omega) (by omega) (by omega)
 have hn : (c :: t).drop (0 + 1) = t := rfl
 rw [hn] at hz
 have n1 : ((1 : Nat) : Int) = 1 := rfl
 have n2 : ((2 : Nat) : Int) = 2 := rfl
 have n3 : ((3 : Nat) : Int) = 3 := rfl
 simp only [l121x0, b121, Tryz.f121, loopAt, loops, bodyOf, go_sem, n1, n2, n3] at hL
 rw [e121 (by simp) (by rfl)]
 unfold end121 at hz
 split at hz
 ·rename_i hk
  obtain ⟨low, high, rfl⟩ := hz
  simp only [n1, n2, n3] at hL
  simp only [go_sem, b121, Tryz.f121, hx, t0, t1, t2, t3, t4, t5, t6, q0, q1, q2, q3, hm, hL]
  rw [two, more_snd _ _ _ _ _ _ hk]
  rfl
 ·subst hz
  simp only [go_sem, b121, Tryz.f121, hx, t0, t1, t2, t3, t4, t5, t6, q0, q1, q2, q3, hm, hL]
  rfl
theorem f121c {lo : Nat} {c : Int} {t : List Int} {h : Heap} (hb : (c :: t).length <= 140737488355328) (hy : By (c :: t)) (hc : c = 237) :
  E lo 121 [.list .no (ri .u8 (c :: t))] h = some (two (more 2 (c % 16) 128 159 1 t), h) := by
 have hcy := hy c (List.mem_cons_self ..)
 have t0 : decide (c < 128) = false := by simp; omega
 have t1 : decide (194 <= c) = true := by simp; omega
 have t2 : decide (c <= 223) = false := by simp; omega
 have t3 : decide (224 <= c) = true := by simp; omega
 have t4 : decide (c <= 239) = true := by simp; omega
 have t5 : decide (240 <= c) = false := by simp; omega
 have t6 : decide (c <= 244) = true := by simp; omega
 have q0 : (c == 224) = false := by simp; omega
 have q1 : (c == 237) = true := by simp; omega
 have q2 : (c == 240) = false := by simp; omega
 have q3 : (c == 244) = false := by simp; omega
 have hx : (c :: t)[0]? = some c := rfl
 have hm : IntKind.i32.wrap (IntKind.u8.wrap (iand .u8 c 15)) = c % 16 := by rw [a15 hcy.1 hcy.2, wrap_u8 (by omega) (by omega), wrap_i32 (by omega) (by omega)]
 obtain ⟨z, hL, hz⟩ := loop121 (lo := lo) (b := c :: t) (h := h) (n := 2) (by omega) hb hy 2 0 (c % 16) 128 159 rfl (by omega) (by omega) (by omega)
 have hn : (c :: t).drop (0 + 1) = t := rfl
 rw [hn] at hz
 have n1 : ((1 : Nat) : Int) = 1 := rfl
 have n2 : ((2 : Nat) : Int) = 2 := rfl
 have n3 : ((3 : Nat) : Int) = 3 := rfl
 simp only [l121x0, b121, Tryz.f121, loopAt, loops, bodyOf, go_sem, n1, n2, n3] at hL
 rw [e121 (by simp) (by rfl)]
 unfold end121 at hz
 split at hz
 ·rename_i hk
  obtain ⟨low, high, rfl⟩ := hz
  simp only [n1, n2, n3] at hL
  simp only [go_sem, b121, Tryz.f121, hx, t0, t1, t2, t3, t4, t5, t6, q0, q1, q2, q3, hm, hL]
  rw [two, more_snd _ _ _ _ _ _ hk]
  rfl
 ·subst hz
  simp only [go_sem, b121, Tryz.f121, hx, t0, t1, t2, t3, t4, t5, t6, q0, q1, q2, q3, hm, hL]
  rfl
theorem f121d {lo : Nat} {c : Int} {t : List Int} {h : Heap} (hb : (c :: t).length <= 140737488355328) (hy : By (c :: t)) (hc : 225 <= c /\ c <= 239 /\ c ≠ 237) :
  E lo 121 [.list .no (ri .u8 (c :: t))] h = some (two (more 2 (c % 16) 128 191 1 t), h) := by
 have hcy := hy c (List.mem_cons_self ..)
 have t0 : decide (c < 128) = false := by simp; omega
 have t1 : decide (194 <= c) = true := by simp; omega
 have t2 : decide (c <= 223) = false := by simp; omega
 have t3 : decide (224 <= c) = true := by simp; omega
 have t4 : decide (c <= 239) = true := by simp; omega
 have t5 : decide (240 <= c) = false := by simp; omega
 have t6 : decide (c <= 244) = true := by simp; omega
 have q0 : (c == 224) = false := by simp; omega
 have q1 : (c == 237) = false := by simp; omega
 have q2 : (c == 240) = false := by simp; omega
 have q3 : (c == 244) = false := by simp; omega
 have hx : (c :: t)[0]? = some c := rfl
 have hm : IntKind.i32.wrap (IntKind.u8.wrap (iand .u8 c 15)) = c % 16 := by rw [a15 hcy.1 hcy.2, wrap_u8 (by omega) (by omega), wrap_i32 (by omega) (by omega)]
 obtain ⟨z, hL, hz⟩ := loop121 (lo := lo) (b := c :: t) (h := h) (n := 2) (by omega) hb hy 2 0 (c % 16) 128 191 rfl (by omega) (by omega) (by omega)
 have hn : (c :: t).drop (0 + 1) = t := rfl
 rw [hn] at hz
 have n1 : ((1 : Nat) : Int) = 1 := rfl
 have n2 : ((2 : Nat) : Int) = 2 := rfl
 have n3 : ((3 : Nat) : Int) = 3 := rfl
 simp only [l121x0, b121, Tryz.f121, loopAt, loops, bodyOf, go_sem, n1, n2, n3] at hL
 rw [e121 (by simp) (by rfl)]
 unfold end121 at hz
 split at hz
 ·rename_i hk
  obtain ⟨low, high, rfl⟩ := hz
  simp only [n1, n2, n3] at hL
  simp only [go_sem, b121, Tryz.f121, hx, t0, t1, t2, t3, t4, t5, t6, q0, q1, q2, q3, hm, hL]
  rw [two, more_snd _ _ _ _ _ _ hk]
  rfl
 ·subst hz
  simp only [go_sem, b121, Tryz.f121, hx, t0, t1, t2, t3, t4, t5, t6, q0, q1, q2, q3, hm, hL]
  rfl
theorem f121e {lo : Nat} {c : Int} {t : List Int} {h : Heap} (hb : (c :: t).length <= 140737488355328) (hy : By (c :: t)) (hc : c = 240) :
  E lo 121 [.list .no (ri .u8 (c :: t))] h = some (two (more 3 (c % 8) 144 191 1 t), h) := by
 have hcy := hy c (List.mem_cons_self ..)
 have t0 : decide (c < 128) = false := by simp; omega
 have t1 : decide (194 <= c) = true := by simp; omega
 have t2 : decide (c <= 223) = false := by simp; omega
 have t3 : decide (224 <= c) = true := by simp; omega
 have t4 : decide (c <= 239) = false := by simp; omega
 have t5 : decide (240 <= c) = true := by simp; omega
 have t6 : decide (c <= 244) = true := by simp; omega
 have q0 : (c == 224) = false := by simp; omega
 have q1 : (c == 237) = false := by simp; omega
 have q2 : (c == 240) = true := by simp; omega
 have q3 : (c == 244) = false := by simp; omega
 have hx : (c :: t)[0]? = some c := rfl
 have hm : IntKind.i32.wrap (IntKind.u8.wrap (iand .u8 c 7)) = c % 8 := by rw [a7 hcy.1 hcy.2, wrap_u8 (by omega) (by omega), wrap_i32 (by omega) (by omega)]
 obtain ⟨z, hL, hz⟩ := loop121 (lo := lo) (b := c :: t) (h := h) (n := 3) (by omega) hb hy 3 0 (c % 8) 144 191 rfl (by omega) (by omega) (by omega)
 have hn : (c :: t).drop (0 + 1) = t := rfl
 rw [hn] at hz
 have n1 : ((1 : Nat) : Int) = 1 := rfl
 have n2 : ((2 : Nat) : Int) = 2 := rfl
 have n3 : ((3 : Nat) : Int) = 3 := rfl
 simp only [l121x0, b121, Tryz.f121, loopAt, loops, bodyOf, go_sem, n1, n2, n3] at hL
 rw [e121 (by simp) (by rfl)]
 unfold end121 at hz
 split at hz
 ·rename_i hk
  obtain ⟨low, high, rfl⟩ := hz
  simp only [n1, n2, n3] at hL
  simp only [go_sem, b121, Tryz.f121, hx, t0, t1, t2, t3, t4, t5, t6, q0, q1, q2, q3, hm, hL]
  rw [two, more_snd _ _ _ _ _ _ hk]
  rfl
 ·subst hz
  simp only [go_sem, b121, Tryz.f121, hx, t0, t1, t2, t3, t4, t5, t6, q0, q1, q2, q3, hm, hL]
  rfl
theorem f121f {lo : Nat} {c : Int} {t : List Int} {h : Heap} (hb : (c :: t).length <= 140737488355328) (hy : By (c :: t)) (hc : 241 <= c /\ c <= 243) :
  E lo 121 [.list .no (ri .u8 (c :: t))] h = some (two (more 3 (c % 8) 128 191 1 t), h) := by
 have hcy := hy c (List.mem_cons_self ..)
 have t0 : decide (c < 128) = false := by simp; omega
 have t1 : decide (194 <= c) = true := by simp; omega
 have t2 : decide (c <= 223) = false := by simp; omega
 have t3 : decide (224 <= c) = true := by simp; omega
 have t4 : decide (c <= 239) = false := by simp; omega
 have t5 : decide (240 <= c) = true := by simp; omega
 have t6 : decide (c <= 244) = true := by simp; omega
 have q0 : (c == 224) = false := by simp; omega
 have q1 : (c == 237) = false := by simp; omega
 have q2 : (c == 240) = false := by simp; omega
 have q3 : (c == 244) = false := by simp; omega
 have hx : (c :: t)[0]? = some c := rfl
 have hm : IntKind.i32.wrap (IntKind.u8.wrap (iand .u8 c 7)) = c % 8 := by rw [a7 hcy.1 hcy.2, wrap_u8 (by omega) (by omega), wrap_i32 (by omega) (by omega)]
 obtain ⟨z, hL, hz⟩ := loop121 (lo := lo) (b := c :: t) (h := h) (n := 3) (by omega) hb hy 3 0 (c % 8) 128 191 rfl (by omega) (by omega) (by omega)
 have hn : (c :: t).drop (0 + 1) = t := rfl
 rw [hn] at hz
 have n1 : ((1 : Nat) : Int) = 1 := rfl
 have n2 : ((2 : Nat) : Int) = 2 := rfl
 have n3 : ((3 : Nat) : Int) = 3 := rfl
 simp only [l121x0, b121, Tryz.f121, loopAt, loops, bodyOf, go_sem, n1, n2, n3] at hL
 rw [e121 (by simp) (by rfl)]
 unfold end121 at hz
 split at hz
 ·rename_i hk
  obtain ⟨low, high, rfl⟩ := hz
  simp only [n1, n2, n3] at hL
  simp only [go_sem, b121, Tryz.f121, hx, t0, t1, t2, t3, t4, t5, t6, q0, q1, q2, q3, hm, hL]
  rw [two, more_snd _ _ _ _ _ _ hk]
  rfl
 ·subst hz
  simp only [go_sem, b121, Tryz.f121, hx, t0, t1, t2, t3, t4, t5, t6, q0, q1, q2, q3, hm, hL]
  rfl
theorem f121g {lo : Nat} {c : Int} {t : List Int} {h : Heap} (hb : (c :: t).length <= 140737488355328) (hy : By (c :: t)) (hc : c = 244) :
  E lo 121 [.list .no (ri .u8 (c :: t))] h = some (two (more 3 (c % 8) 128 143 1 t), h) := by
 have hcy := hy c (List.mem_cons_self ..)
 have t0 : decide (c < 128) = false := by simp; omega
 have t1 : decide (194 <= c) = true := by simp; omega
 have t2 : decide (c <= 223) = false := by simp; omega
 have t3 : decide (224 <= c) = true := by simp; omega
 have t4 : decide (c <= 239) = false := by simp; omega
 have t5 : decide (240 <= c) = true := by simp; omega
 have t6 : decide (c <= 244) = true := by simp; omega
 have q0 : (c == 224) = false := by simp; omega
 have q1 : (c == 237) = false := by simp; omega
 have q2 : (c == 240) = false := by simp; omega
 have q3 : (c == 244) = true := by simp; omega
 have hx : (c :: t)[0]? = some c := rfl
 have hm : IntKind.i32.wrap (IntKind.u8.wrap (iand .u8 c 7)) = c % 8 := by rw [a7 hcy.1 hcy.2, wrap_u8 (by omega) (by omega), wrap_i32 (by omega) (by omega)]
 obtain ⟨z, hL, hz⟩ := loop121 (lo := lo) (b := c :: t) (h := h) (n := 3) (by omega) hb hy 3 0 (c % 8) 128 143 rfl (by omega) (by omega) (by omega)
 have hn : (c :: t).drop (0 + 1) = t := rfl
 rw [hn] at hz
 have n1 : ((1 : Nat) : Int) = 1 := rfl
 have n2 : ((2 : Nat) : Int) = 2 := rfl
 have n3 : ((3 : Nat) : Int) = 3 := rfl
 simp only [l121x0, b121, Tryz.f121, loopAt, loops, bodyOf, go_sem, n1, n2, n3] at hL
 rw [e121 (by simp) (by rfl)]
 unfold end121 at hz
 split at hz
 ·rename_i hk
  obtain ⟨low, high, rfl⟩ := hz
  simp only [n1, n2, n3] at hL
  simp only [go_sem, b121, Tryz.f121, hx, t0, t1, t2, t3, t4, t5, t6, q0, q1, q2, q3, hm, hL]
  rw [two, more_snd _ _ _ _ _ _ hk]
  rfl
 ·subst hz
  simp only [go_sem, b121, Tryz.f121, hx, t0, t1, t2, t3, t4, t5, t6, q0, q1, q2, q3, hm, hL]
  rfl
end Go.Lift.P8
end

section
open Go.Proofs
namespace Go.Lift.P8
variable [MX]
open Utf
theorem f121 {lo : Nat} {c : Int} {t : List Int} {h : Heap} (hb : (c :: t).length <= 140737488355328) (hy : By (c :: t)) :
  E lo 121 [.list .no (ri .u8 (c :: t))] h = some (two (one (c :: t)), h) := by
 have hcy := hy c (List.mem_cons_self ..)
 have hx : (c :: t)[0]? = some c := rfl
 simp only [one]
 by_cases h0 : c < 128
 ·rw [if_pos h0]
  have t0 : decide (c < 128) = true := by simp; omega
  have hm : IntKind.i32.wrap c = c := wrap_i32 (by omega) (by omega)
  rw [e121 (by simp) (by rfl)]
  simp only [go_sem, b121, Tryz.f121, hx, t0, hm]
  rfl
 ·rw [if_neg h0]
  by_cases ha : 194 <= c /\ c <= 223
  ·have e : nd c = (1, 128, 191) := by unfold nd; rw [if_pos ha]
   rw [f121a hb hy ha, e]
   rfl
  by_cases hb1 : c = 224
  ·have e : nd c = (2, 160, 191) := by unfold nd; rw [if_neg ha, if_pos hb1]
   rw [f121b hb hy hb1, e]
   rfl
  by_cases hc1 : c = 237
  ·have e : nd c = (2, 128, 159) := by unfold nd; rw [if_neg ha, if_neg hb1, if_pos hc1]
   rw [f121c hb hy hc1, e]
   rfl
  by_cases hd1 : 225 <= c /\ c <= 239
  ·have e : nd c = (2, 128, 191) := by unfold nd; rw [if_neg ha, if_neg hb1, if_neg hc1, if_pos hd1]
   rw [f121d hb hy ⟨hd1.1, hd1.2, hc1⟩, e]
   rfl
  by_cases he1 : c = 240
  ·have e : nd c = (3, 144, 191) := by unfold nd; rw [if_neg ha, if_neg hb1, if_neg hc1, if_neg hd1, if_pos he1]
   rw [f121e hb hy he1, e]
   rfl
  by_cases hf1 : 241 <= c /\ c <= 243
  ·have e : nd c = (3, 128, 191) := by unfold nd; rw [if_neg ha, if_neg hb1, if_neg hc1, if_neg hd1, if_neg he1, if_pos hf1]
   rw [f121f hb hy hf1, e]
   rfl
  by_cases hg1 : c = 244
  ·have e : nd c = (3, 128, 143) := by unfold nd; rw [if_neg ha, if_neg hb1, if_neg hc1, if_neg hd1, if_neg he1, if_neg hf1, if_pos hg1]
   rw [f121g hb hy hg1, e]
   rfl
  have e : nd c = (0, 0, 0) := by unfold nd; rw [if_neg ha, if_neg hb1, if_neg hc1, if_neg hd1, if_neg he1, if_neg hf1, if_neg hg1]
  rw [e, if_pos rfl]
  have t0 : decide (c < 128) = false := by simp; omega
  have t1 : (decide (194 <= c) && decide (c <= 223)) = false := by simp; omega
  have t2 : (decide (224 <= c) && decide (c <= 239)) = false := by simp; omega
  have t3 : (decide (240 <= c) && decide (c <= 244)) = false := by simp; omega
  rw [e121 (by simp) (by rfl)]
  simp only [go_sem, b121, Tryz.f121, hx, t0, t1, t2, t3]
  rfl
end Go.Lift.P8
end

section
open Go.Proofs
namespace Go.Lift.P8.T
variable [MX]
open Utf
theorem f121n {lo : Nat} {b : List Int} {h : Heap} (hn : b ≠ []) (hb : b.length <= 140737488355328) (hy : By b) : E lo 121 [.list .no (ri .u8 b)] h = some (two (one b), h) := by
 cases b with
 | nil => exact absurd rfl hn
 | cons c t => exact f121 hb hy
theorem round92 {lo : Nat} {b out : List Int} {h : Heap} (hn : b ≠ []) (hb : b.length <= 1000000000) (ho : out.length <= 1000000000) (hy : By b) :
  evCode ⟨Tryz.prog, E, lo, h.length, h92⟩ loopW l92x0 ([(0, .list .no (ri .u8 b)), (3, .list .yes (ri .i32 out))], h) =
   some (.normal, [(0, .list .no (ri .u8 (b.drop (one b).2.1))), (3, .list .yes (ri .i32 (out ++ [(one b).1])))], h) := by
 have hl : 0 < b.length := List.length_pos_iff.mpr hn
 have hd : decide ((0 : Int) < b.length) = true := by simpa using hl
 have hr : ∀ k, k <= 4 -> (out.length + k) * 4 <= 140737488355328 := by intro k hk; omega
 have hq : ∀ k, 9223372036854775800 <= k -> out.length <= k := by intro k hk; omega
 have hk := (one_b hn).2.2
 have hs : 0 <= ((one b).2.1 : Int) := by omega
 have e1 : ri .i32 (out ++ [(one b).1]) = ri .i32 out ++ [[V.v (.int .i32 (one b).1)]] := by rw [<- ri_app]; rfl
 simp only [go_sem, l92x0, b92, Tryz.f92, hd, f121n hn (by omega) hy, two, hr, hq, hs, hk, Nat.le_refl, ri_drop, ri_take, Int.toNat_natCast, and_self, e1]
theorem loop92 {lo : Nat} {h : Heap} : ∀ (n : Nat) (b out : List Int), b.length <= n -> b.length <= 1000000000 -> By b -> out.length + b.length <= 1000000000 ->
  loopW (evCode ⟨Tryz.prog, E, lo, h.length, h92⟩ loopW l92x0) ([(0, .list .no (ri .u8 b)), (3, .list .yes (ri .i32 out))], h) =
   some (.exit 0, [(0, .list .no []), (3, .list .yes (ri .i32 (out ++ raw b))), (8, .v (.bool false))], h) := by
 intro n
 induction n with
 | zero =>
  intro b out h1 h2 hy h3
  obtain rfl : b = [] := List.eq_nil_of_length_eq_zero (by omega)
  rw [loop_eq]
  simp only [go_sem, l92x0, b92, Tryz.f92, raw_nil, ri_nil, List.length_nil]
  all_goals rfl
 | succ n ih =>
  intro b out h1 h2 hy h3
  by_cases hn : b = []
  ·subst hn
   rw [loop_eq]
   simp only [go_sem, l92x0, b92, Tryz.f92, raw_nil, ri_nil, List.length_nil]
   all_goals rfl
  ·have hl : 0 < b.length := List.length_pos_iff.mpr hn
   have hk := one_b hn
   have hlen : (b.drop (one b).2.1).length = b.length - (one b).2.1 := List.length_drop
   rw [loop_eq, round92 hn h2 (by omega) hy, loop_n, ih _ _ (by omega) (by omega) (hy.drop _) (by rw [List.length_append, List.length_singleton]; omega), raw_b hn, List.append_assoc]
   rfl
theorem f92 {lo : Nat} {b : List Int} {h : Heap} (hb : b.length <= 1000000000) (hy : By b) : E lo 92 [.list .no (ri .u8 b)] h = some (.list .no (ri .i32 (raw b)), h) := by
 rw [e92 (by simp) (by rfl)]
 have hL := loop92 (lo := lo) (h := h) b.length b [] (Nat.le_refl _) hb hy (by simpa using hb)
 simp only [l92x0, b92, Tryz.f92, loopAt, loops, bodyOf, go_sem, ri_nil] at hL
 simp only [go_sem, b92, Tryz.f92, hL]
end Go.Lift.P8.T
end

section
open Go.Proofs
namespace Go.Lift.P8.T
variable [MX]
open Utf
theorem dstep_len (back : Bool) (x : Int) : (dstep back x).length <= 1 := by
 unfold dstep
 split <;> simp
theorem round73 {lo i : Nat} {l out : List Int} {h : Heap} {x : Int} {back : Bool} (hx : l[i]? = some x) (hi : i < l.length) (hl : l.length <= 1000000000) (ho : out.length <= 1000000000) :
  evCode ⟨Tryz.prog, E, lo, h.length, h73⟩ loopW l73x0 ([(3, .list .yes (ri .i32 out)), (4, .v (.bool back)), (32, .list .no (ri .i32 l)), (33, .v (.int .i64 l.length)), (34, .v (.int .i64 i))], h) =
   some (.normal, [(3, .list .yes (ri .i32 (out ++ dstep back x))), (4, .v (.bool (x == 13))), (32, .list .no (ri .i32 l)), (33, .v (.int .i64 l.length)), (34, .v (.int .i64 (i + 1 : Nat)))], h) := by
 have hd : decide ((i : Int) < l.length) = true := by simpa using hi
 have hr : ∀ k, k <= 4 -> (out.length + k) * 4 <= 140737488355328 := by intro k hk; omega
 have hq : ∀ k, 9223372036854775800 <= k -> out.length <= k := by intro k hk; omega
 have hw : IntKind.i64.wrap ((i : Int) + 1) = ((i + 1 : Nat) : Int) := wrap_succ (by omega)
 have app : ∀ y : Int, ri .i32 (out ++ [y]) = ri .i32 out ++ [[V.v (.int .i32 y)]] := by intro y; rw [<- ri_app]; rfl
 by_cases h10 : x = 10
 ·subst h10
  have e13 : ((10 : Int) == 13) = false := rfl
  have e10 : ((10 : Int) == 10) = true := rfl
  cases back with
  | true =>
   have ed : dstep true 10 = [] := rfl
   simp only [go_sem, l73x0, b73, Tryz.f73, hd, hx, hr, hq, hw, ed, e13, e10, List.append_nil]
  | false =>
   have ed : dstep false 10 = [10] := rfl
   simp only [go_sem, l73x0, b73, Tryz.f73, hd, hx, hr, hq, hw, ed, e13, e10, app]
 have e10 : (x == 10) = false := by simp [h10]
 by_cases h13 : x = 13
 ·subst h13
  have e13 : ((13 : Int) == 13) = true := rfl
  have ed : dstep back 13 = [10] := rfl
  simp only [go_sem, l73x0, b73, Tryz.f73, hd, hx, hr, hq, hw, ed, e13, e10, app]
 have e13 : (x == 13) = false := by simp [h13]
 by_cases h12 : x = 12
 ·subst h12
  have e12 : ((12 : Int) == 12) = true := rfl
  have ed : dstep back 12 = [10] := rfl
  simp only [go_sem, l73x0, b73, Tryz.f73, hd, hx, hr, hq, hw, ed, e13, e10, e12, app]
 have e12 : (x == 12) = false := by simp [h12]
 by_cases h0 : x = 0
 ·subst h0
  have e0 : ((0 : Int) == 0) = true := rfl
  have ed : dstep back 0 = [65533] := rfl
  simp only [go_sem, l73x0, b73, Tryz.f73, hd, hx, hr, hq, hw, ed, e13, e10, e12, e0, app]
 have e0 : (x == 0) = false := by simp [h0]
 have ed : dstep back x = [x] := by simp [dstep, e10, e13, e12, e0]
 simp only [go_sem, l73x0, b73, Tryz.f73, hd, hx, hr, hq, hw, ed, e13, e10, e12, e0, app]
theorem loop73 {lo : Nat} {l : List Int} {h : Heap} (hl : l.length <= 1000000000) : ∀ (n i : Nat) (out : List Int) (back : Bool), n = l.length - i -> i <= l.length -> out.length <= i ->
  ∃ back', loopW (evCode ⟨Tryz.prog, E, lo, h.length, h73⟩ loopW l73x0) ([(3, .list .yes (ri .i32 out)), (4, .v (.bool back)), (32, .list .no (ri .i32 l)), (33, .v (.int .i64 l.length)), (34, .v (.int .i64 i))], h) =
   some (.exit 0, [(3, .list .yes (ri .i32 (out ++ dec back (l.drop i)))), (4, .v (.bool back')), (32, .list .no (ri .i32 l)), (33, .v (.int .i64 l.length)), (34, .v (.int .i64 l.length)), (35, .v (.bool false))], h) := by
 intro n
 induction n with
 | zero =>
  intro i out back hn hi ho
  obtain rfl : i = l.length := by omega
  rw [loop_eq]
  have hd : decide ((l.length : Int) < l.length) = false := by simp
  refine ⟨back, ?_⟩
  simp only [go_sem, l73x0, b73, Tryz.f73, hd, List.drop_length, dec]
 | succ n ih =>
  intro i out back hn hi ho
  have hlt : i < l.length := by omega
  have hx : l[i]? = some l[i] := List.getElem?_eq_getElem hlt
  have he := dstep_len back l[i]
  obtain ⟨b', hb⟩ := ih (i + 1) (out ++ dstep back l[i]) (l[i] == 13) (by omega) (by omega) (by rw [List.length_append]; omega)
  refine ⟨b', ?_⟩
  rw [loop_eq, round73 hx hlt hl (by omega), loop_n, hb, List.drop_eq_getElem_cons hlt, dec, List.append_assoc]
theorem raw_len' (b : List Int) : (raw b).length <= b.length := (raw_count b).1
theorem strip_len (b : List Int) : (strip b).length <= b.length := by
 unfold strip
 split
 ·rw [List.length_drop]; omega
 ·omega
theorem f73 {lo : Nat} {b : List Int} {h : Heap} (hb : b.length <= 1000000000) (hy : By b) : E lo 73 [.list .no (ri .u8 b)] h = some (.list .no (ri .i32 (Utf.decode b)), h) := by
 rw [e73 (by simp) (by rfl)]
 have hr := raw_len' (strip b)
 have hs := strip_len b
 have hf := fun lo h => f92 (lo := lo) (h := h) (b := strip b) (by omega) (strip_by hy)
 obtain ⟨q, hL⟩ := loop73 (lo := lo) (h := h) (l := raw (strip b)) (by omega) _ 0 [] false rfl (by omega) (by simp)
 simp only [l73x0, b73, Tryz.f73, loopAt, loops, bodyOf, go_sem, ri_nil, List.drop_zero] at hL
 rw [Utf.decode]
 by_cases h3 : 3 <= b.length
 ·have t3 : decide ((3 : Int) <= b.length) = true := by simp; omega
  obtain ⟨a1, a2, a3, t, he⟩ : ∃ a1 a2 a3 t, b = a1 :: a2 :: a3 :: t := by
   match b, h3 with
   | a1 :: a2 :: a3 :: t, _ => exact ⟨_, _, _, _, rfl⟩
  have x1 : b[0]? = some a1 := by rw [he]; rfl
  have x2 : b[1]? = some a2 := by rw [he]; rfl
  have x3 : b[2]? = some a3 := by rw [he]; rfl
  have hv : bom b = (a1 == 239 && (a2 == 187 && a3 == 191)) := by rw [he]; simp [bom]
  cases hm : bom b with
  | true =>
   have hd : strip b = b.drop 3 := by rw [strip, if_pos hm]
   rw [hv] at hm
   simp only [Bool.and_eq_true] at hm
   rw [hd] at hf hL ⊢
   simp only [go_sem, b73, Tryz.f73, t3, x1, x2, x3, hm.1, hm.2.1, hm.2.2, ri_drop, ri_take, h3, Nat.le_refl, and_self, hf, hL]
  | false =>
   have hd : strip b = b := by rw [strip, if_neg (by simp [hm])]
   rw [hv] at hm
   rw [hd] at hf hL ⊢
   cases g1 : a1 == 239 with
   | false => simp only [go_sem, b73, Tryz.f73, t3, x1, x2, x3, g1, hf, hL]
   | true =>
    cases g2 : a2 == 187 with
    | false => simp only [go_sem, b73, Tryz.f73, t3, x1, x2, x3, g1, g2, hf, hL]
    | true =>
     cases g3 : a3 == 191 with
     | false => simp only [go_sem, b73, Tryz.f73, t3, x1, x2, x3, g1, g2, g3, hf, hL]
     | true => simp [g1, g2, g3] at hm
 ·have t3 : decide ((3 : Int) <= b.length) = false := by simp; omega
  have hm : bom b = false := by
   match b, h3 with
   | [], _ => rfl
   | [_], _ => simp [bom]
   | [_, _], _ => simp [bom]
   | _ :: _ :: _ :: _, h3 => simp at h3
  have hd : strip b = b := by rw [strip, if_neg (by simp [hm])]
  rw [hd] at hf hL ⊢
  simp only [go_sem, b73, Tryz.f73, t3, hf, hL]
end Go.Lift.P8.T
end

section
open Go.Proofs
namespace Go.Lift.P8.T
variable [MX]
open Utf Tok
def str (l : List Int) : ByteArray := ⟨(u8s (encs l)).toArray⟩
theorem chr_zero (c : Int) (t : List Int) : chr (c :: t) 0 = c := rfl
theorem chr_succ (c : Int) (t : List Int) (k : Nat) : chr (c :: t) (k + 1) = chr t k := by simp [chr]
theorem esc_neg (b : Int) : esc (-1) b = false := by simp [esc]
theorem ltr_neg : ltr (-1) = false := by decide
section
variable {lo i : Nat} {l : List Int} {p q : List Ob}
theorem f119e {lo : Nat} {l : List Int} {h : Heap} (hl : l.length <= 35184372088832) : E lo 119 [.list .no (ri .i32 l)] h = some (.list .no (ri .u8 (encs l)), h) := f119 hl
theorem loop117 (hlo : lo <= p.length) (hl : l.length <= 100000000000) : ∀ (m i : Nat) (out : List Int), (suf l i).length <= m -> i <= l.length -> out.length <= i ->
  ∃ j, j <= l.length /\ i <= j /\ suf l j = (nameN m (suf l i)).2 /\
   loopW (evCode ⟨Tryz.prog, E, lo, (p ++ R l i :: q).length, h117⟩ loopW l117x0) ([(0, .ptr p.length 0), (3, .list .yes (ri .i32 out))], p ++ R l i :: q) =
    some (.ret, [(2, .v (.string (str (out ++ (nameN m (suf l i)).1))))], p ++ R l j :: q) := by
 intro m
 induction m with
 | zero =>
  intro i out h1 h2 h3
  have hs : suf l i = [] := List.eq_nil_of_length_eq_zero (by omega)
  have k0 := fun lo p q => f90 (lo := lo) (l := l) (i := i) (p := p) (q := q) (k := 0) (by omega)
  have k1 := fun lo p q => f115 (lo := lo) (l := l) (i := i) (p := p) (q := q) (k := 0) (by omega)
  have kf := fun lo h => f119e (lo := lo) (l := out) (h := h) (by omega)
  simp only [n0, hs, chr_nil] at k0 k1
  refine ⟨i, h2, Nat.le_refl _, by rw [hs]; rfl, ?_⟩
  rw [loop_eq, hs]
  simp only [go_sem, l117x0, b117, Tryz.f117, k0, k1, f114, ltr_neg, esc_neg, kf, nameN, List.append_nil]
  rfl
 | succ m ih =>
  intro i out h1 h2 h3
  have k0 := fun lo p q => f90 (lo := lo) (l := l) (i := i) (p := p) (q := q) (k := 0) (by omega)
  have k1 := fun lo p q => f115 (lo := lo) (l := l) (i := i) (p := p) (q := q) (k := 0) (by omega)
  have kt := fun lo p q h => f120 (lo := lo) (l := l) (i := i) (p := p) (q := q) h (by omega)
  have kf := fun lo h => f119e (lo := lo) (l := out) (h := h) (by omega)
  have hr : ∀ k, k <= 4 -> (out.length + k) * 4 <= 140737488355328 := by intro k hk; omega
  have hq : ∀ k, 9223372036854775800 <= k -> out.length <= k := by intro k hk; omega
  have app : ∀ y : Int, ri .i32 out ++ [[V.v (.int .i32 y)]] = ri .i32 (out ++ [y]) := by intro y; rw [<- ri_app]; rfl
  simp only [n0] at k0 k1
  rcases Nat.lt_or_ge i l.length with hi | hi
  ·have hs := suf_next hi
   have hn : chr (suf l i) (0 + 1) = chr (suf l (i + 1)) 0 := by rw [hs, chr_succ]
   rw [hn] at k1
   generalize chr (suf l i) 0 = c at hs k0 k1 kt
   rw [hs] at h1 ⊢
   simp only [List.length_cons] at h1
   cases hc : ltr c with
   | true =>
    obtain ⟨j, j1, j2, j3, j4⟩ := ih (i + 1) (out ++ [c]) (by omega) (by omega) (by simp; omega)
    refine ⟨j, j1, by omega, ?_, ?_⟩
    ·rw [j3]; simp only [nameN]; rw [if_pos hc]
    ·have e : evCode ⟨Tryz.prog, E, lo, (p ++ R l i :: q).length, h117⟩ loopW l117x0 ([(0, .ptr p.length 0), (3, .list .yes (ri .i32 out))], p ++ R l i :: q) =
       some (.normal, [(0, .ptr p.length 0), (3, .list .yes (ri .i32 (out ++ [c])))], p ++ R l (i + 1) :: q) := by
      simp only [go_sem, l117x0, b117, Tryz.f117, k0, f114, hc, kt _ _ _ hlo, hr, hq, and_self, app]
     rw [loop_eq, e, loop_n]
     simp only [hl_app, hl_cons] at j4 ⊢
     rw [j4]
     simp only [nameN]
     rw [if_pos hc, List.append_assoc]
     rfl
   | false =>
    cases he : esc c (chr (suf l (i + 1)) 0) with
    | true =>
     obtain ⟨j0, a1, a2, a3, a4⟩ := f154 (l := l) (i := i + 1) hl (by omega)
     have hlen : (suf l j0).length <= m := by rw [suf_len]; rw [suf_len] at h1; omega
     obtain ⟨j, j1, j2, j3, j4⟩ := ih j0 (out ++ [(escd (suf l (i + 1))).1]) hlen a1 (by simp; omega)
     refine ⟨j, j1, by omega, ?_, ?_⟩
     ·rw [j3, a3]; simp only [nameN]; rw [hc, he]; simp
     ·have e : evCode ⟨Tryz.prog, E, lo, (p ++ R l i :: q).length, h117⟩ loopW l117x0 ([(0, .ptr p.length 0), (3, .list .yes (ri .i32 out))], p ++ R l i :: q) =
        some (.normal, [(0, .ptr p.length 0), (3, .list .yes (ri .i32 (out ++ [(escd (suf l (i + 1))).1])))], p ++ R l j0 :: q) := by
       simp only [go_sem, l117x0, b117, Tryz.f117, k0, k1, f114, hc, he, kt _ _ _ hlo, a4 _ _ _ hlo, hr, hq, and_self, app]
      rw [loop_eq, e, loop_n]
      simp only [hl_app, hl_cons] at j4 ⊢
      rw [j4, a3]
      simp only [nameN]
      rw [hc, he]
      simp
    | false =>
     refine ⟨i, h2, Nat.le_refl _, ?_, ?_⟩
     ·simp only [nameN]; rw [hc, he, hs]; simp
     ·rw [loop_eq]
      simp only [go_sem, l117x0, b117, Tryz.f117, k0, k1, f114, hc, he, kf]
      simp only [nameN]
      rw [hc, he]
      simp [str]
  ·have hs : suf l i = [] := suf_end hi
   simp only [hs, chr_nil] at k0 k1
   refine ⟨i, h2, Nat.le_refl _, by rw [hs]; rfl, ?_⟩
   rw [loop_eq, hs]
   simp only [go_sem, l117x0, b117, Tryz.f117, k0, k1, f114, ltr_neg, esc_neg, kf, nameN, List.append_nil]
   rfl
theorem f117 (hl : l.length <= 100000000000) (hi : i <= l.length) : ∃ j, j <= l.length /\ i <= j /\ suf l j = (name (suf l i)).2 /\
  ∀ lo p q, lo <= p.length -> E lo 117 [.ptr p.length 0] (p ++ R l i :: q) = some (.v (.string (str (name (suf l i)).1)), p ++ R l j :: q) := by
 obtain ⟨j, j1, j2, j3, _⟩ := loop117 (lo := 0) (p := []) (q := []) (l := l) (Nat.le_refl _) hl (suf l i).length i [] (Nat.le_refl _) hi (by simp)
 refine ⟨j, j1, j2, j3, fun lo p q hlo => ?_⟩
 obtain ⟨j', j1', _, j3', hL⟩ := loop117 (lo := lo) (p := p) (q := q) (l := l) hlo hl (suf l i).length i [] (Nat.le_refl _) hi (by simp)
 obtain rfl : j' = j := suf_inj j1' j1 (by rw [j3', j3])
 rw [e117 (by simp) (by rfl)]
 simp only [l117x0, b117, Tryz.f117, loopAt, loops, bodyOf, go_sem, ri_nil] at hL
 simp only [go_sem, b117, Tryz.f117, hL]
 rfl
end
end Go.Lift.P8.T
end

section
open Go.Proofs
namespace Go.Lift.P8.T
variable [MX]
open Utf Tok
def skipS : List Int -> List Int
 | [] => []
 | [_] => []
 | c :: d :: t => if c = 42 /\ d = 47 then c :: d :: t else skipS (d :: t)
theorem skipR_S : ∀ s : List Int, skipR s = (skipS s).drop 2
 | [] => rfl
 | [_] => rfl
 | c :: d :: t => by
  unfold skipR skipS
  split
  ·rfl
  ·exact skipR_S (d :: t)
theorem skipS_ends : ∀ s : List Int, skipS s = [] \/ ∃ t, skipS s = 42 :: 47 :: t
 | [] => .inl rfl
 | [_] => .inl rfl
 | c :: d :: t => by
  unfold skipS
  split
  ·rename_i h; obtain ⟨rfl, rfl⟩ := h; exact .inr ⟨t, rfl⟩
  ·exact skipS_ends (d :: t)
section
variable {lo i : Nat} {l : List Int} {p q : List Ob}
theorem suf_neg (l : List Int) (i : Nat) (k : Nat) : (chr (suf l i) k == -1) = decide (l.length <= i + k) := by
 rw [suf_chr]
 rcases Nat.lt_or_ge (i + k) l.length with h | h
 ·rw [List.getElem?_eq_getElem h]
  have := scal_in l[i + k]
  have h1 : ¬ l.length <= i + k := by omega
  simp only [h1, decide_false, beq_eq_false_iff_ne, ne_eq]
  omega
 ·rw [List.getElem?_eq_none h]
  simp [h]
theorem loop25i (hlo : lo <= p.length) (hl : l.length <= 100000000000) : ∀ (n i : Nat), l.length - i <= n -> i <= l.length ->
  ∃ j, j <= l.length /\ i <= j /\ suf l j = skipS (suf l i) /\
   loopW (evCode ⟨Tryz.prog, E, lo, (p ++ R l i :: q).length, h89⟩ loopW l89x1) ([(0, .ptr p.length 0)], p ++ R l i :: q) = some (.exit 2, [(0, .ptr p.length 0), (20, .v (.bool false))], p ++ R l j :: q) := by
 intro n
 induction n with
 | zero =>
  intro i h1 h2
  obtain rfl : i = l.length := by omega
  have k0 := fun lo p q => f90 (lo := lo) (l := l) (i := l.length) (p := p) (q := q) (k := 0) (by omega)
  have hs : suf l l.length = [] := suf_end (Nat.le_refl _)
  simp only [n0, hs, chr_nil] at k0
  refine ⟨l.length, Nat.le_refl _, Nat.le_refl _, by rw [hs]; rfl, ?_⟩
  have hne : ((-1 : Int) != -1) = false := rfl
  rw [loop_eq]
  simp only [go_sem, l89x1, b89, Tryz.f89, k0, hne]
 | succ n ih =>
  intro i h1 h2
  rcases Nat.lt_or_ge i l.length with hi | hi
  ·have k0 := fun lo p q => f90 (lo := lo) (l := l) (i := i) (p := p) (q := q) (k := 0) (by omega)
   have ks := fun lo p q => f106 (lo := lo) (l := l) (i := i) (p := p) (q := q) (cs := [42, 47]) (by simp; omega)
   simp only [n0, ri_cons, ri_nil] at k0 ks
   have hw : IntKind.i64.wrap ((i : Int) + 1) = ((i + 1 : Nat) : Int) := wrap_succ (by omega)
   have hne : (chr (suf l i) 0 != -1) = true := by
    have := suf_neg l i 0
    simp only [bne, this]
    simp; omega
   cases hx : isN (suf l i) 0 [42, 47] with
   | true =>
    refine ⟨i, h2, Nat.le_refl _, ?_, ?_⟩
    ·have h3 := suf_next hi
     simp only [isN, Bool.and_true, Bool.and_eq_true, beq_iff_eq] at hx
     rw [h3] at hx ⊢
     rw [chr_zero, chr_succ] at hx
     rcases Nat.lt_or_ge (i + 1) l.length with hi2 | hi2
     ·have h4 := suf_next hi2
      rw [h4] at hx ⊢
      rw [chr_zero] at hx
      unfold skipS
      rw [if_pos ⟨by simpa using hx.1, by simpa using hx.2⟩]
     ·rw [suf_end hi2, chr_nil] at hx
      omega
    ·rw [loop_eq]
     simp only [go_sem, l89x1, b89, Tryz.f89, k0, ks, hne, hx]
   | false =>
    obtain ⟨j, j1, j2, j3, j4⟩ := ih (i + 1) (by omega) (by omega)
    refine ⟨j, j1, by omega, ?_, ?_⟩
    ·rw [j3]
     have h3 := suf_next hi
     simp only [isN, Bool.and_true, Bool.and_eq_false_iff, beq_eq_false_iff_ne, ne_eq] at hx
     rw [h3] at hx ⊢
     rw [chr_zero, chr_succ] at hx
     rcases Nat.lt_or_ge (i + 1) l.length with hi2 | hi2
     ·have h4 := suf_next hi2
      rw [h4] at hx ⊢
      rw [chr_zero] at hx
      conv => rhs; unfold skipS
      rw [if_neg (by intro ⟨a, b⟩; rcases hx with h | h; exact h a; exact h b)]
     ·rw [suf_end hi2]
      rfl
    ·have e : evCode ⟨Tryz.prog, E, lo, (p ++ R l i :: q).length, h89⟩ loopW l89x1 ([(0, .ptr p.length 0)], p ++ R l i :: q) = some (.normal, [(0, .ptr p.length 0)], p ++ R l (i + 1) :: q) := by
      simp only [go_sem, l89x1, b89, Tryz.f89, k0, ks, hne, hx, hw, hlo]
     rw [loop_eq, e, loop_n]
     simp only [hl_app, hl_cons] at j4 ⊢
     exact j4
  ·obtain rfl : i = l.length := by omega
   have k0 := fun lo p q => f90 (lo := lo) (l := l) (i := l.length) (p := p) (q := q) (k := 0) (by omega)
   have hs : suf l l.length = [] := suf_end (Nat.le_refl _)
   simp only [n0, hs, chr_nil] at k0
   refine ⟨l.length, Nat.le_refl _, Nat.le_refl _, by rw [hs]; rfl, ?_⟩
   have hne : ((-1 : Int) != -1) = false := rfl
   rw [loop_eq]
   simp only [go_sem, l89x1, b89, Tryz.f89, k0, hne]
theorem isN_two (s : List Int) (a b : Int) (h : isN s 0 [a, b] = true) (ha : a ≠ -1) (hb : b ≠ -1) : ∃ t, s = a :: b :: t := by
 simp only [isN, Bool.and_true, Bool.and_eq_true, beq_iff_eq] at h
 match s, h with
 | [], h => rw [chr_nil] at h; exact absurd h.1.symm ha
 | [c], h => rw [chr_succ, chr_nil] at h; exact absurd h.2.symm hb
 | c :: d :: t, h =>
  rw [chr_zero, chr_succ, chr_zero] at h
  exact ⟨t, by rw [h.1, h.2]⟩
theorem isN_two' (a b : Int) (t : List Int) : isN (a :: b :: t) 0 [a, b] = true := by
 simp [isN, chr_zero, chr_succ]
theorem suf_add (l : List Int) (i : Nat) (a b : Int) (t : List Int) (h : suf l i = a :: b :: t) : suf l (i + 2) = t /\ i + 2 <= l.length := by
 have h1 : suf l (i + 2) = (suf l i).drop 2 := by simp [suf, List.drop_drop]
 have h2 := suf_len l i
 rw [h, List.length_cons, List.length_cons] at h2
 exact ⟨by rw [h1, h]; rfl, by omega⟩
theorem loop89 (hlo : lo <= p.length) (hl : l.length <= 100000000000) : ∀ (m i : Nat) (ex : Env), (ex = [] \/ ∃ b, ex = [(30, .v (.bool b))]) -> (suf l i).length <= m -> i <= l.length ->
  ∃ j, j <= l.length /\ i <= j /\ suf l j = remN m (suf l i) /\
   loopW (evCode ⟨Tryz.prog, E, lo, (p ++ R l i :: q).length, h89⟩ loopW l89x0) ((0, .ptr p.length 0) :: ex, p ++ R l i :: q) = some (.exit 0, [(0, .ptr p.length 0), (4, .v (.bool false))], p ++ R l j :: q) := by
 have stop : ∀ (m i : Nat) (ex : Env), (ex = [] \/ ∃ b, ex = [(30, .v (.bool b))]) -> i <= l.length -> isN (suf l i) 0 [47, 42] = false ->
  ∃ j, j <= l.length /\ i <= j /\ suf l j = remN m (suf l i) /\
   loopW (evCode ⟨Tryz.prog, E, lo, (p ++ R l i :: q).length, h89⟩ loopW l89x0) ((0, .ptr p.length 0) :: ex, p ++ R l i :: q) = some (.exit 0, [(0, .ptr p.length 0), (4, .v (.bool false))], p ++ R l j :: q) := by
  intro m i ex hex h2 hx
  have ks := fun lo p q => f106 (lo := lo) (l := l) (i := i) (p := p) (q := q) (cs := [47, 42]) (by simp; omega)
  simp only [ri_cons, ri_nil] at ks
  refine ⟨i, h2, Nat.le_refl _, ?_, ?_⟩
  ·cases m with
   | zero => rfl
   | succ m =>
    match hs : suf l i with
    | [] => rfl
    | [c] => rfl
    | c :: d :: t =>
     simp only [remN]
     rw [if_neg]
     rintro ⟨rfl, rfl⟩
     rw [hs, isN_two'] at hx
     simp at hx
  ·rw [loop_eq]
   rcases hex with rfl | ⟨b, rfl⟩
   ·simp only [go_sem, l89x0, b89, Tryz.f89, ks, hx]
   ·simp only [go_sem, l89x0, b89, Tryz.f89, ks, hx]
 intro m
 induction m with
 | zero =>
  intro i ex hex h1 h2
  have hs : suf l i = [] := List.eq_nil_of_length_eq_zero (by omega)
  exact stop 0 i ex hex h2 (by rw [hs]; decide)
 | succ m ih =>
  intro i ex hex h1 h2
  cases hx : isN (suf l i) 0 [47, 42] with
  | false => exact stop (m + 1) i ex hex h2 hx
  | true =>
   obtain ⟨t, hs⟩ := isN_two _ _ _ hx (by decide) (by decide)
   obtain ⟨ht, hi2⟩ := suf_add l i _ _ _ hs
   have ks := fun lo p q => f106 (lo := lo) (l := l) (i := i) (p := p) (q := q) (cs := [47, 42]) (by simp; omega)
   simp only [ri_cons, ri_nil] at ks
   obtain ⟨j, j1, j2, j3, hL⟩ := loop25i (lo := lo) (p := p) (q := q) hlo hl l.length (i + 2) (by omega) hi2
   have kj := fun lo p q => f90 (lo := lo) (l := l) (i := j) (p := p) (q := q) (k := 0) (by omega)
   simp only [n0] at kj
   have hw : IntKind.i64.wrap ((i : Int) + 2) = ((i + 2 : Nat) : Int) := by rw [wrap_i64 (by omega) (by omega)]; omega
   have hw2 : IntKind.i64.wrap ((j : Int) + 2) = ((j + 2 : Nat) : Int) := by rw [wrap_i64 (by omega) (by omega)]; omega
   simp only [l89x1, b89, Tryz.f89, loopAt, loops, bodyOf, go_sem] at hL
   rw [ht] at j3
   rcases skipS_ends t with hn | ⟨u, hn⟩
   ·-- no end
    have hj : suf l j = [] := by rw [j3, hn]
    have hne : (chr (suf l j) 0 != -1) = false := by rw [hj, chr_nil]; rfl
    have e : evCode ⟨Tryz.prog, E, lo, (p ++ R l i :: q).length, h89⟩ loopW l89x0 ((0, .ptr p.length 0) :: ex, p ++ R l i :: q) = some (.normal, [(0, .ptr p.length 0), (30, .v (.bool false))], p ++ R l j :: q) := by
     rcases hex with rfl | ⟨b, rfl⟩
     ·simp only [go_sem, l89x0, b89, Tryz.f89, ks, hx, hw, hlo, hL, kj, hne]
     ·simp only [go_sem, l89x0, b89, Tryz.f89, ks, hx, hw, hlo, hL, kj, hne]
    have hlen : (suf l j).length <= m := by rw [hj]; simp
    obtain ⟨z, z1, z2, z3, z4⟩ := ih j [(30, .v (.bool false))] (.inr ⟨_, rfl⟩) hlen j1
    refine ⟨z, z1, by omega, ?_, ?_⟩
    ·rw [z3, hs]
     rw [show remN (m + 1) (47 :: 42 :: t) = remN m (skipR t) by simp [remN], skipR_S, hn, hj]
     rfl
    ·rw [loop_eq, e, loop_n]
     simp only [hl_app, hl_cons] at z4 ⊢
     exact z4
   ·have hj : suf l j = 42 :: 47 :: u := by rw [j3, hn]
    obtain ⟨hu, hj2⟩ := suf_add l j _ _ _ hj
    have hne : (chr (suf l j) 0 != -1) = true := by rw [hj, chr_zero]; rfl
    have e : evCode ⟨Tryz.prog, E, lo, (p ++ R l i :: q).length, h89⟩ loopW l89x0 ((0, .ptr p.length 0) :: ex, p ++ R l i :: q) = some (.normal, [(0, .ptr p.length 0)], p ++ R l (j + 2) :: q) := by
     rcases hex with rfl | ⟨b, rfl⟩
     ·simp only [go_sem, l89x0, b89, Tryz.f89, ks, hx, hw, hw2, hlo, hL, kj, hne]
     ·simp only [go_sem, l89x0, b89, Tryz.f89, ks, hx, hw, hw2, hlo, hL, kj, hne]
    have hlen : (suf l (j + 2)).length <= m := by
     rw [suf_len] at h1 ⊢
     omega
    obtain ⟨z, z1, z2, z3, z4⟩ := ih (j + 2) [] (.inl rfl) hlen hj2
    refine ⟨z, z1, by omega, ?_, ?_⟩
    ·rw [z3, hs]
     rw [show remN (m + 1) (47 :: 42 :: t) = remN m (skipR t) by simp [remN], skipR_S, hn, hu]
     rfl
    ·rw [loop_eq, e, loop_n]
     simp only [hl_app, hl_cons] at z4 ⊢
     exact z4
theorem f89 (hl : l.length <= 100000000000) (hi : i <= l.length) : ∃ j, j <= l.length /\ i <= j /\ suf l j = rems (suf l i) /\
  ∀ lo p q, lo <= p.length -> E lo 89 [.ptr p.length 0] (p ++ R l i :: q) = some (.tup [], p ++ R l j :: q) := by
 obtain ⟨j, j1, j2, j3, _⟩ := loop89 (lo := 0) (p := []) (q := []) (l := l) (Nat.le_refl _) hl (suf l i).length i [] (.inl rfl) (Nat.le_refl _) hi
 refine ⟨j, j1, j2, j3, fun lo p q hlo => ?_⟩
 obtain ⟨j', j1', _, j3', hL⟩ := loop89 (lo := lo) (p := p) (q := q) (l := l) hlo hl (suf l i).length i [] (.inl rfl) (Nat.le_refl _) hi
 obtain rfl : j' = j := suf_inj j1' j1 (by rw [j3', j3])
 rw [e89 (by simp) (by rfl)]
 simp only [l89x0, b89, Tryz.f89, loopAt, loops, bodyOf, go_sem] at hL
 simp only [go_sem, b89, Tryz.f89, hL]
end
end Go.Lift.P8.T
end

section
open Go.Proofs
namespace Go.Lift.P8.T
variable [MX]
open Utf Tok
def tokC (k : Int) (t : List Int) : List V := [.v (.int .i64 k), .v (.string (str t)), .v (.int .i64 0), .v (.int .i64 0), .v (.bool false), .v (.bool false)]
theorem str_nil : str [] = ByteArray.empty := rfl
theorem txtN_nil (sign : Int) (m : Nat) : txtN sign m [] = (true, [], []) := by cases m <;> rfl
theorem chr_pos {l : List Int} {i : Nat} (hi : i < l.length) : 0 <= chr (suf l i) 0 := by
 rw [suf_chr, Nat.add_zero, List.getElem?_eq_getElem hi]
 exact (scal_in _).1
section
variable {lo i : Nat} {l : List Int} {p q : List Ob}
abbrev B59 (lo : Nat) (p q : List Ob) (l : List Int) (i : Nat) (sign : Int) (out : List Int) : Env × Heap :=
 ([(0, .ptr p.length 0), (2, .ptr (p.length + (q.length + 1)) 0), (3, .v (.int .i32 sign)), (4, .list .yes (ri .i32 out))], p ++ R l i :: (q ++ [.cells (tokC 0 [])]))
theorem loop109 {sign : Int} (hlo : lo <= p.length) (hlo2 : lo <= p.length + (q.length + 1)) (hl : l.length <= 100000000000) (hsg : quo sign = true) : ∀ (m i : Nat) (out : List Int), (suf l i).length <= m -> i <= l.length -> out.length <= i ->
  ∃ j, j <= l.length /\ i <= j /\ suf l j = (txtN sign m (suf l i)).2.2 /\
   loopW (evCode ⟨Tryz.prog, E, lo, p.length + (q.length + 1), h109⟩ loopW l109x0) (B59 lo p q l i sign out) =
    some (.ret, [(2, .ptr (p.length + (q.length + 1)) 0)], p ++ R l j :: (q ++ [.cells (if (txtN sign m (suf l i)).1 = true then tokC 5 (out ++ (txtN sign m (suf l i)).2.1) else tokC 6 [])])) := by
 have stop : ∀ (m i : Nat) (out : List Int), suf l i = [] -> i <= l.length -> out.length <= i ->
   ∃ j, j <= l.length /\ i <= j /\ suf l j = (txtN sign m (suf l i)).2.2 /\
   loopW (evCode ⟨Tryz.prog, E, lo, p.length + (q.length + 1), h109⟩ loopW l109x0) (B59 lo p q l i sign out) =
    some (.ret, [(2, .ptr (p.length + (q.length + 1)) 0)], p ++ R l j :: (q ++ [.cells (if (txtN sign m (suf l i)).1 = true then tokC 5 (out ++ (txtN sign m (suf l i)).2.1) else tokC 6 [])])) := by
  intro m i out hs h2 h3
  have k0 := fun lo p q => f90 (lo := lo) (l := l) (i := i) (p := p) (q := q) (k := 0) (by omega)
  have kf := fun lo h => f119e (lo := lo) (l := out) (h := h) (by omega)
  simp only [n0, hs, chr_nil] at k0
  refine ⟨i, h2, Nat.le_refl _, by rw [hs, txtN_nil], ?_⟩
  have t0 : ((-1 : Int) == 10) = false := rfl
  have t1 : ((-1 : Int) == -1) = true := rfl
  rw [hs, txtN_nil, if_pos rfl, List.append_nil, loop_eq]
  simp only [go_sem, l109x0, b109, Tryz.f109, k0, kf, t0, t1, hlo2, tokC]
  rfl
 intro m
 induction m with
 | zero =>
  intro i out h1 h2 h3
  exact stop 0 i out (List.eq_nil_of_length_eq_zero (by omega)) h2 h3
 | succ m ih =>
  intro i out h1 h2 h3
  rcases Nat.lt_or_ge i l.length with hi | hi
  rotate_left
  ·exact stop (m + 1) i out (suf_end hi) h2 h3
  have hcp := chr_pos hi
  have k0 := fun lo p q => f90 (lo := lo) (l := l) (i := i) (p := p) (q := q) (k := 0) (by omega)
  have k1 := fun lo p q => f90 (lo := lo) (l := l) (i := i) (p := p) (q := q) (k := 1) (by omega)
  have kt := fun lo p q h => f120 (lo := lo) (l := l) (i := i) (p := p) (q := q) h (by omega)
  have kf := fun lo h => f119e (lo := lo) (l := out) (h := h) (by omega)
  have hr : ∀ k, k <= 4 -> (out.length + k) * 4 <= 140737488355328 := by intro k hk; omega
  have hq : ∀ k, 9223372036854775800 <= k -> out.length <= k := by intro k hk; omega
  have app : ∀ y : Int, ri .i32 out ++ [[V.v (.int .i32 y)]] = ri .i32 (out ++ [y]) := by intro y; rw [<- ri_app]; rfl
  have hw1 : IntKind.i64.wrap ((i : Int) + 1) = ((i + 1 : Nat) : Int) := wrap_succ (by omega)
  have hw2 : IntKind.i64.wrap ((i : Int) + 2) = ((i + 2 : Nat) : Int) := by rw [wrap_i64 (by omega) (by omega)]; omega
  have n1 : ((1 : Nat) : Int) = 1 := rfl
  simp only [n0, n1] at k0 k1
  have hs := suf_next hi
  have hn : chr (suf l i) 1 = chr (suf l (i + 1)) 0 := by rw [hs]; exact chr_succ _ _ 0
  rw [hn] at k1
  generalize chr (suf l i) 0 = c at hs k0 kt hcp
  rw [hs] at h1 ⊢
  simp only [List.length_cons] at h1
  have te : (c == -1) = false := by simp; omega
  by_cases c10 : c = 10
  ·subst c10
   have t0 : ((10 : Int) == 10) = true := rfl
   have e : txtN sign (m + 1) (10 :: suf l (i + 1)) = (false, [], 10 :: suf l (i + 1)) := by simp [txtN]
   refine ⟨i, h2, Nat.le_refl _, by rw [e, hs], ?_⟩
   rw [e, if_neg (by simp), loop_eq]
   simp only [go_sem, l109x0, b109, Tryz.f109, k0, t0, hlo2, tokC]
   rfl
  have t0 : (c == 10) = false := by simp [c10]
  by_cases csg : c = sign
  ·subst csg
   have t1 : (c == c) = true := by simp
   have e : txtN c (m + 1) (c :: suf l (i + 1)) = (true, [], suf l (i + 1)) := by simp [txtN, c10]
   refine ⟨i + 1, by omega, by omega, by rw [e], ?_⟩
   rw [e, if_pos rfl, List.append_nil, loop_eq]
   simp only [go_sem, l109x0, b109, Tryz.f109, k0, t0, te, t1, hlo, hlo2, hw1, kf, tokC]
   rfl
  have t1 : (c == sign) = false := by simp [csg]
  by_cases c92 : c = 92
  ·subst c92
   have t2 : ((92 : Int) == 92) = true := rfl
   rcases Nat.lt_or_ge (i + 1) l.length with hi2 | hi2
   ·have hs2 := suf_next hi2
    have hdp := chr_pos hi2
    by_cases d10 : chr (suf l (i + 1)) 0 = 10
    ·rw [d10] at hs2 k1
     have t3 : ((10 : Int) == -1) = false := rfl
     have t4 : ((10 : Int) == 10) = true := rfl
     have hmin : ¬ ((l.length : Int) < ((i + 2 : Nat) : Int)) := by omega
     have e : txtN sign (m + 1) (92 :: suf l (i + 1)) = txtN sign m (suf l (i + 2)) := by
      rw [hs2]
      simp only [txtN]
      rw [if_neg c10, if_neg csg]
      simp
     obtain ⟨j, j1, j2, j3, j4⟩ := ih (i + 2) out (by rw [suf_len] at h1 ⊢; omega) (by omega) (by omega)
     refine ⟨j, j1, by omega, by rw [j3, e], ?_⟩
     have er : evCode ⟨Tryz.prog, E, lo, p.length + (q.length + 1), h109⟩ loopW l109x0 (B59 lo p q l i sign out) = some (.normal, B59 lo p q l (i + 2) sign out) := by
      simp only [go_sem, l109x0, b109, Tryz.f109, k0, k1, t0, te, t1, t2, t3, t4, hlo, hw2, hmin, tokC]
      rfl
     rw [loop_eq, er, loop_n, e]
     exact j4
    ·have t3 : (chr (suf l (i + 1)) 0 == -1) = false := by simp; omega
     have t4 : (chr (suf l (i + 1)) 0 == 10) = false := by simp [d10]
     obtain ⟨j0, a1, a2, a3, a4⟩ := f154 (l := l) (i := i + 1) hl (by omega)
     have e : txtN sign (m + 1) (92 :: suf l (i + 1)) = ((txtN sign m (escd (suf l (i + 1))).2).1, (escd (suf l (i + 1))).1 :: (txtN sign m (escd (suf l (i + 1))).2).2.1, (txtN sign m (escd (suf l (i + 1))).2).2.2) := by
      generalize hd : chr (suf l (i + 1)) 0 = d at hs2 d10
      rw [hs2]
      simp only [txtN]
      rw [if_neg c10, if_neg csg]
      simp [d10]
     obtain ⟨j, j1, j2, j3, j4⟩ := ih j0 (out ++ [(escd (suf l (i + 1))).1]) (by rw [suf_len] at h1 ⊢; omega) a1 (by simp; omega)
     refine ⟨j, j1, by omega, by rw [j3, e, a3], ?_⟩
     have er : evCode ⟨Tryz.prog, E, lo, p.length + (q.length + 1), h109⟩ loopW l109x0 (B59 lo p q l i sign out) = some (.normal, B59 lo p q l j0 sign (out ++ [(escd (suf l (i + 1))).1])) := by
      simp only [go_sem, l109x0, b109, Tryz.f109, k0, k1, t0, te, t1, t2, t3, t4, hlo, hw1, a4 _ _ _ hlo, hr, hq, app, and_self, tokC]
      rfl
     rw [loop_eq, er, loop_n, j4, e, a3, List.append_assoc]
     rfl
   ·have hs2 : suf l (i + 1) = [] := suf_end hi2
    rw [hs2, chr_nil] at k1
    have t3 : ((-1 : Int) == -1) = true := rfl
    have hmin : ((l.length : Int) < ((i + 2 : Nat) : Int)) := by omega
    have e : txtN sign (m + 1) (92 :: suf l (i + 1)) = (true, [], []) := by
     rw [hs2]
     simp only [txtN]
     rw [if_neg c10, if_neg csg]
     simp
    obtain ⟨j, j1, j2, j3, j4⟩ := stop m l.length out (suf_end (Nat.le_refl _)) (Nat.le_refl _) (by omega)
    rw [suf_end (Nat.le_refl _), txtN_nil] at j3 j4
    refine ⟨j, j1, by omega, by rw [j3, e], ?_⟩
    have er : evCode ⟨Tryz.prog, E, lo, p.length + (q.length + 1), h109⟩ loopW l109x0 (B59 lo p q l i sign out) = some (.normal, B59 lo p q l l.length sign out) := by
     simp only [go_sem, l109x0, b109, Tryz.f109, k0, k1, t0, te, t1, t2, t3, hlo, hw2, hmin, tokC]
     rfl
    rw [loop_eq, er, loop_n, e]
    exact j4
  ·have t2 : (c == 92) = false := by simp [c92]
   have e : txtN sign (m + 1) (c :: suf l (i + 1)) = ((txtN sign m (suf l (i + 1))).1, c :: (txtN sign m (suf l (i + 1))).2.1, (txtN sign m (suf l (i + 1))).2.2) := by
    simp only [txtN]
    rw [if_neg c10, if_neg csg, if_neg c92]
   obtain ⟨j, j1, j2, j3, j4⟩ := ih (i + 1) (out ++ [c]) (by omega) (by omega) (by simp; omega)
   refine ⟨j, j1, by omega, by rw [j3, e], ?_⟩
   have er : evCode ⟨Tryz.prog, E, lo, p.length + (q.length + 1), h109⟩ loopW l109x0 (B59 lo p q l i sign out) = some (.normal, B59 lo p q l (i + 1) sign (out ++ [c])) := by
    simp only [go_sem, l109x0, b109, Tryz.f109, k0, t0, te, t1, t2, hlo, kt _ _ _ hlo, hr, hq, app, and_self, tokC]
    rfl
   rw [loop_eq, er, loop_n, j4, e, List.append_assoc]
   rfl
theorem f109 {sign : Int} {t : List Int} (hl : l.length <= 100000000000) (hi : i < l.length) (hsg : quo sign = true) (hs : suf l i = sign :: t) : ∃ j, j <= l.length /\ i < j /\ suf l j = (txt sign t).2.2 /\
  ∀ lo p q, lo <= p.length -> E lo 109 [.ptr p.length 0] (p ++ R l i :: q) = some (.agg (if (txt sign t).1 = true then tokC 5 (txt sign t).2.1 else tokC 6 []), p ++ R l j :: q) := by
 have ht : suf l (i + 1) = t := by
  have := suf_next hi
  rw [hs] at this
  simp only [List.cons.injEq] at this
  exact this.2.symm
 have hc : chr (suf l i) 0 = sign := by rw [hs]; rfl
 obtain ⟨j, j1, j2, j3, _⟩ := loop109 (lo := 0) (p := []) (q := []) (l := l) (Nat.le_refl _) (Nat.zero_le _) hl hsg t.length (i + 1) [] (by rw [ht]; exact Nat.le_refl _) (by omega) (by simp)
 rw [ht] at j3
 refine ⟨j, j1, by omega, j3, fun lo p q hlo => ?_⟩
 have hlo2 : lo <= p.length + (q.length + 1) := by omega
 obtain ⟨j', j1', _, j3', hL⟩ := loop109 (lo := lo) (p := p) (q := q) (l := l) hlo hlo2 hl hsg t.length (i + 1) [] (by rw [ht]; exact Nat.le_refl _) (by omega) (by simp)
 rw [ht] at j3' hL
 obtain rfl : j' = j := suf_inj j1' j1 (by rw [j3', j3])
 have kt := fun lo p q h => f120 (lo := lo) (l := l) (i := i) (p := p) (q := q) h (by omega)
 rw [hc] at kt
 rw [e109 (by simp) (by rfl)]
 simp only [B59, tokC, l109x0, b109, Tryz.f109, loopAt, loops, bodyOf, go_sem, ri_nil, str_nil] at hL
 simp only [go_sem, b109, Tryz.f109, kt _ _ _ hlo, hL]
 unfold txt
 cases (txtN sign t.length t).1 <;> rfl
end
end Go.Lift.P8.T
end
