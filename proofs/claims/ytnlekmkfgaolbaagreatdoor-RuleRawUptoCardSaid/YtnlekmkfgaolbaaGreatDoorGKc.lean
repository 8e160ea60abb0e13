/- A row of values laid at a place: what is behind one, what is ahead of one of some kinds; in plain Lean. -/
import Derived.Lib.TrailingZeros
import Derived.Lib.ItoaNum
import Derived.Lib.IndexLaws
import Derived.Test.YtnlekmkfgaolbaaGreatDoorGKa
import Derived.Test.YtnlekmkfgaolbaaGreatDoorGK8Basea
import Derived.Test.YtnlekmkfgaolbaaGreatDoorGKb
import Derived.Test.YtnlekmkfgaolbaaGreatDoorGLd
set_option linter.unusedVariables false
set_option linter.unusedSimpArgs false
set_option linter.unusedSectionVars false
section
namespace Go.Lift.Rul
def noHit (ks : List Int) (v : PV) : Bool := !ks.contains v.t.k
structure LaidAt (l : List Tk4) (E D : List Nat) (p q : Nat) (G : List PV) : Prop where
 lies : Lies l p (toksL G)
 laid : laidL l.length E D p G
 good : ∃ x b, goodL x b G
 len : p + (toksL G).length = q
 le : q ≤ l.length
theorem toksL_cons (v : PV) (r : List PV) : toksL (v :: r) = toksV v ++ toksL r := by rw [toksL]
theorem LaidAt.head {l : List Tk4} {E D : List Nat} {p q : Nat} {v : PV} {r : List PV} (h : LaidAt l E D p q (v :: r)) : l[p]? = some v.t := by
 have h1 := h.lies
 rw [toksL_cons] at h1
 have := h1.left 0 (toksV_pos v)
 rw [Nat.add_zero] at this
 rw [this, toks_head]
theorem LaidAt.tail {l : List Tk4} {E D : List Nat} {p q : Nat} {v : PV} {r : List PV} (h : LaidAt l E D p q (v :: r)) : LaidAt l E D (p + (toksV v).length) q r := by
 obtain ⟨h1, h2, ⟨x, b, h3⟩, h4, h5⟩ := h
 rw [toksL_cons] at h1 h4
 rw [laidL] at h2
 exact ⟨h1.right, h2.2, ⟨x, b, (goodL_cons.1 h3).2⟩, by rw [List.length_append] at h4; omega, h5⟩
theorem LaidAt.lt {l : List Tk4} {E D : List Nat} {p q : Nat} {v : PV} {r : List PV} (h : LaidAt l E D p q (v :: r)) : p < q := by
 have := h.len
 have := toksV_pos v
 rw [toksL_cons, List.length_append] at *
 omega
theorem LaidAt.nil {l : List Tk4} {E D : List Nat} {p q : Nat} (h : LaidAt l E D p q []) : p = q := by
 have := h.len
 rw [toksL] at this
 simpa using this
theorem LaidAt.over {l : List Tk4} {E D : List Nat} {p q : Nat} {v : PV} {r : List PV} (h : LaidAt l E D p q (v :: r)) : (if closer v.t.k = 0 then p + 1 else min (E.getD p 0 + 1) q) = p + (toksV v).length := by
 obtain ⟨h1, h2, ⟨x, b, h3⟩, h4, h5⟩ := h
 rw [laidL] at h2
 have hv := (goodL_cons.1 h3).1
 rw [toksL_cons, List.length_append] at h4
 cases v with
 | leaf t =>
  have := (goodV_leaf.1 hv).1
  rw [if_pos (by exact this), toksV]; rfl
 | node t ks c =>
  have hl := laidV_node.1 h2.1
  cases c with
  | none =>
   have hg := goodV_none.1 hv
   rw [if_neg (by exact hg.1), hl.1]
   have hr : r = [] := by
    have := hg.2.2.1
    simp only [Bool.and_eq_true, List.isEmpty_iff] at this
    exact this.2
   subst hr
   rw [toksL] at h4
   simp only [List.length_nil, Nat.add_zero] at h4
   show min (l.length + 1) q = _
   omega
  | some e =>
   have hg := goodV_some.1 hv
   rw [if_neg (by exact hg.1), hl.1]
   show min (p + 1 + (toksL ks).length + 1) q = _
   rw [toksV] at h4 ⊢
   simp only [List.length_cons, List.length_append, Option.toList, List.length_nil] at h4 ⊢
   omega
theorem LaidAt.deep {l : List Tk4} {E D : List Nat} {p q : Nat} {v : PV} {r : List PV} (h : LaidAt l E D p q (v :: r)) : D.getD p 0 = depV v := by
 have h2 := h.laid
 rw [laidL] at h2
 cases v with
 | leaf t => have := h2.1; rw [laidV] at this; rw [this, depV]
 | node t ks c => rw [(laidV_node.1 h2.1).2.1, depV]
theorem LaidAt.cut {l : List Tk4} {E D : List Nat} (f : PV → Bool) : ∀ {G : List PV} {p q : Nat}, LaidAt l E D p q G → LaidAt l E D (p + (toksL (G.takeWhile f)).length) q (G.dropWhile f)
 | [], p, q, h => by rw [List.takeWhile_nil, List.dropWhile_nil, toksL]; exact h
 | v :: r, p, q, h => by
  rw [List.takeWhile_cons, List.dropWhile_cons]
  split
  ·rw [toksL_cons, List.length_append, ← Nat.add_assoc]
   exact LaidAt.cut f h.tail
  ·rw [toksL]; exact h
theorem laidL_left {N : Nat} {E D : List Nat} : ∀ (F G : List PV) {p : Nat}, laidL N E D p (F ++ G) → laidL N E D p F
 | [], G, p, _ => by rw [laidL]; trivial
 | v :: r, G, p, h => by
  rw [List.cons_append, laidL] at h
  rw [laidL]
  exact ⟨h.1, laidL_left r G h.2⟩
theorem LaidAt.front {l : List Tk4} {E D : List Nat} (f : PV → Bool) {G : List PV} {p q : Nat} (h : LaidAt l E D p q G) : LaidAt l E D p (p + (toksL (G.takeWhile f)).length) (G.takeWhile f) := by
 obtain ⟨h1, h2, ⟨x, b, h3⟩, h4, h5⟩ := h
 have e : G.takeWhile f ++ G.dropWhile f = G := List.takeWhile_append_dropWhile
 rw [← e] at h1 h2 h3 h4
 rw [toksL_app] at h1 h4
 rw [List.length_append] at h4
 exact ⟨h1.left, laidL_left _ _ h2, ⟨x, _, (goodL_app _ _ h3).1⟩, rfl, by omega⟩
theorem all_dep {n : Nat} : ∀ G : List PV, (G.all fun v => decide (depV v ≤ n)) = !decide (n < depL G)
 | [] => by rw [depL]; simp
 | v :: r => by
  rw [List.all_cons, all_dep r, depL]
  rw [Bool.eq_iff_iff]
  simp
  omega
theorem LaidAt.fine {l : List Tk4} {E D : List Nat} {G : List PV} {p q n : Nat} (h : LaidAt l E D p q G) : (G.all fun v => decide (depV v ≤ n)) = !deepL n (cvL G) := by
 obtain ⟨x, b, h3⟩ := h.good
 rw [all_dep, deep_depL G n h3]
theorem lies_slice {l m : List Tk4} {p q : Nat} (h : Lies l p m) (hq : p + m.length = q) (hl : q ≤ l.length) : (l.take q).drop p = m := by
 apply List.ext_getElem?
 intro k
 rw [List.getElem?_drop, List.getElem?_take]
 by_cases hk : k < m.length
 ·rw [if_pos (by omega), h k hk]
 ·rw [if_neg (by omega), List.getElem?_eq_none (by omega)]
theorem LaidAt.vals {l : List Tk4} {E D : List Nat} {G : List PV} {p q : Nat} (h : LaidAt l E D p q G) : Rul.vals ((l.take q).drop p) = cvL G := by
 obtain ⟨x, b, h3⟩ := h.good
 rw [lies_slice h.lies h.len h.le, vals_toks h3]
theorem LaidAt.kids {l : List Tk4} {E D : List Nat} {p q : Nat} {t : Tk4} {ks r : List PV} {c : Option Tk4} (h : LaidAt l E D p q (.node t ks c :: r)) : LaidAt l E D (p + 1) (min (E.getD p 0) q) ks := by
 have ho := h.lt
 obtain ⟨h1, h2, ⟨x, b, h3⟩, h4, h5⟩ := h
 rw [laidL] at h2
 have hl := laidV_node.1 h2.1
 have hv := (goodL_cons.1 h3).1
 rw [toksL_cons, toksV] at h1 h4
 simp only [List.length_cons, List.length_append] at h4
 have hly : Lies l (p + 1) (toksL ks) := fun k hk => by
  have := h1 (k + 1) (by simp; omega)
  rw [show p + (k + 1) = p + 1 + k by omega] at this
  rw [this, List.cons_append, List.getElem?_cons_succ, List.append_assoc, List.getElem?_append_left hk]
 cases c with
 | none =>
  have hg := goodV_none.1 hv
  have hr : r = [] := by
   have := hg.2.2.1
   simp only [Bool.and_eq_true, List.isEmpty_iff] at this
   exact this.2
  subst hr
  rw [toksL] at h4
  simp only [List.length_nil, Nat.add_zero, Option.toList] at h4
  have e : min (E.getD p 0) q = q := by rw [hl.1]; show min l.length q = q; omega
  rw [e]
  exact ⟨hly, hl.2.2, ⟨_, _, hg.2.2.2⟩, by omega, h5⟩
 | some e =>
  have hg := goodV_some.1 hv
  simp only [Option.toList, List.length_cons, List.length_nil] at h4
  have e2 : min (E.getD p 0) q = p + 1 + (toksL ks).length := by rw [hl.1]; show min (p + 1 + (toksL ks).length) q = _; omega
  rw [e2]
  exact ⟨hly, hl.2.2, ⟨_, _, hg.2.2.2⟩, rfl, by omega⟩
end Go.Lift.Rul
end

section
namespace Go.Lift.Rul
end Go.Lift.Rul
namespace Go.Proofs
end Go.Proofs
open Go.Proofs
namespace Go.Lift.P8
open Rul
variable [MX]
set_option maxRecDepth 20000
set_option maxHeartbeats 4000000
variable {lo : Nat} {h : Heap}
def TX (H : Heap) (l : List Tk4) (E D : List Nat) (t : Nat) : Prop :=
 ∃ e d, H[e]? = some (.cells (nt E)) ∧ H[d]? = some (.cells (nt D)) ∧ H[t]? = some (.cells [.list .no (l.map row), .stk e l.length 1, .stk d l.length 1])
theorem TX.app {H : Heap} {l : List Tk4} {E' D : List Nat} {t : Nat} (h : TX H l E' D t) (q : Heap) : TX (H ++ q) l E' D t := by
 obtain ⟨e, d, h1, h2, h3⟩ := h
 have k : ∀ {i : Nat} {x : Ob}, H[i]? = some x → (H ++ q)[i]? = some x := fun hx => by
  rw [List.getElem?_append_left (List.getElem?_eq_some_iff.1 hx).1]; exact hx
 exact ⟨e, d, k h1, k h2, k h3⟩
theorem TX.of (p : Heap) (l : List Tk4) (E' D : List Nat) (q : Heap) : TX (p ++ (tx p l E' D ++ q)) l E' D (p.length + 2) := by
 refine ⟨p.length, p.length + 1, ?_, ?_, ?_⟩
 ·rw [List.getElem?_append_right (Nat.le_refl _), Nat.sub_self]; rfl
 ·rw [List.getElem?_append_right (by omega), Nat.add_sub_cancel_left]; rfl
 ·rw [List.getElem?_append_right (by omega), Nat.add_sub_cancel_left]; rfl
theorem f66 {l : List Tk4} {E' D : List Nat} {t a q : Nat} {x : Tk4} (hT : TX h l E' D t) (hlo : lo ≤ h.length) (hE : E'.length = l.length) (hl : l.length ≤ 1000000000) (hb : E'.getD a 0 ≤ l.length) (hg : l[a]? = some x) :
  E lo 66 [.ptr t 0, .v (.int .i64 a), .v (.int .i64 q)] h = some (.v (.int .i64 ((if closer x.k = 0 then a + 1 else min (E'.getD a 0 + 1) q : Nat) : Int)), h) := by
 obtain ⟨e, d, h1, h2, h3⟩ := hT
 have ha : a < l.length := (List.getElem?_eq_some_iff.1 hg).1
 have hgr : (l.map row)[a]? = some (row x) := by rw [List.getElem?_map, hg]; rfl
 have hw : IntKind.i64.wrap ((a : Int) + 1) = ((a + 1 : Nat) : Int) := wrap_succ (by omega)
 have c52 := f52 (lo := lo) (h := h) hlo x.k
 have gE := nt_at (show a < E'.length by omega)
 have q2 : (a : Int) < (l.length : Int) := by omega
 have w2 : IntKind.i64.wrap (((E'.getD a 0 : Nat) : Int) + 1) = ((E'.getD a 0 + 1 : Nat) : Int) := wrap_succ (by omega)
 have ex : (if (q : Int) < ((E'.getD a 0 + 1 : Nat) : Int) then (q : Int) else ((E'.getD a 0 + 1 : Nat) : Int)) = ((min (E'.getD a 0 + 1) q : Nat) : Int) := by
  split <;> omega
 simp only [row] at hgr
 rw [e66 (by simp) (by rfl)]
 by_cases hc : closer x.k = 0
 ·have qc : (closer x.k == 0) = true := by simpa using hc
  rw [if_pos hc]
  simp only [go_sem, b66, Tryz.f66, hlo, h3, hgr, c52, qc, hw]
  all_goals rfl
 ·have qc : (closer x.k == 0) = false := by simpa using hc
  rw [if_neg hc]
  simp only [go_sem, b66, Tryz.f66, hlo, h1, h3, hgr, c52, qc, gE, q2, w2, ex, Nat.mul_one]
  all_goals rfl
abbrev N64 (t p q : Nat) (ks : List Int) (fine : Bool) : Env := [(0, .ptr t 0), (1, .v (.int .i64 p)), (2, .v (.int .i64 q)), (3, .list .no (ri .i64 ks)), (10, .v (.bool fine))]
abbrev M64 (t p q : Nat) (ks : List Int) (fine : Bool) (i : Nat) : Env := N64 t p q ks fine ++ [(16, .list .no (ri .i64 ks)), (17, .v (.int .i64 ks.length)), (18, .v (.int .i64 i))]
theorem kind64 {l : List Tk4} {E' D : List Nat} {t p q i : Nat} {x : Tk4} {ks : List Int} {c : Int} {fine : Bool} (hT : TX h l E' D t) (hlo : lo ≤ h.length) (hks : ks.length ≤ 1000) (hg : l[p]? = some x) (hi : ks[i]? = some c) :
  evCode ⟨Tryz.prog, E, lo, h.length, h64⟩ loopW l64x1 (M64 t p q ks fine i, h) =
   if x.k = c then some (.ret, [(8, .v (.int .i64 p)), (9, .v (.bool fine))], h) else some (.normal, M64 t p q ks fine (i + 1), h) := by
 obtain ⟨e, d, h1, h2, h3⟩ := hT
 have hgr : (l.map row)[p]? = some (row x) := by rw [List.getElem?_map, hg]; rfl
 have hk : (ri .i64 ks)[i]? = some [.v (.int .i64 c)] := by rw [ri_get, hi]; rfl
 have hlt : i < ks.length := (List.getElem?_eq_some_iff.1 hi).1
 have q1 : decide ((i : Int) < (ks.length : Int)) = true := by simpa using hlt
 have hw : IntKind.i64.wrap ((i : Int) + 1) = ((i + 1 : Nat) : Int) := wrap_succ (by omega)
 have rl := ri_len .i64 ks
 simp only [row] at hgr
 simp only [M64, N64, List.cons_append, List.nil_append]
 generalize ri .i64 ks = R at *
 by_cases hc : x.k = c
 ·have qc : (x.k == c) = true := by simpa using hc
  rw [if_pos hc]
  simp only [go_sem, l64x1, b64, Tryz.f64, hlo, h3, hgr, hk, q1, hw, qc]
  all_goals rfl
 ·have qc : (x.k == c) = false := by simpa using hc
  rw [if_neg hc]
  simp only [go_sem, l64x1, b64, Tryz.f64, hlo, h3, hgr, hk, q1, hw, qc]
  all_goals rfl
theorem kstop64 {t p q : Nat} {ks : List Int} {fine : Bool} (hlo : lo ≤ h.length) :
  evCode ⟨Tryz.prog, E, lo, h.length, h64⟩ loopW l64x1 (M64 t p q ks fine ks.length, h) = some (.exit 2, M64 t p q ks fine ks.length ++ [(19, .v (.bool false))], h) := by
 have q1 : decide ((ks.length : Int) < (ks.length : Int)) = false := by simp
 simp only [M64, N64, List.cons_append, List.nil_append, go_sem, l64x1, b64, Tryz.f64, hlo, q1]
 all_goals rfl
theorem kinds64 {l : List Tk4} {E' D : List Nat} {t p q : Nat} {x : Tk4} {ks : List Int} {fine : Bool} (hT : TX h l E' D t) (hlo : lo ≤ h.length) (hks : ks.length ≤ 1000) (hg : l[p]? = some x) : ∀ (m i : Nat), i + m = ks.length →
  loopW (evCode ⟨Tryz.prog, E, lo, h.length, h64⟩ loopW l64x1) (M64 t p q ks fine i, h) =
   if (ks.drop i).contains x.k = true then some (.ret, [(8, .v (.int .i64 p)), (9, .v (.bool fine))], h) else some (.exit 2, M64 t p q ks fine ks.length ++ [(19, .v (.bool false))], h)
 | 0, i, hm => by
  obtain rfl : i = ks.length := by omega
  rw [List.drop_length, if_neg (by simp), loop_eq, kstop64 hlo, loop_e]
 | m + 1, i, hm => by
  have hlt : i < ks.length := by omega
  have hd : ks.drop i = ks[i] :: ks.drop (i + 1) := List.drop_eq_getElem_cons hlt
  rw [hd, List.contains_cons, loop_eq, kind64 hT hlo hks hg (List.getElem?_eq_getElem hlt)]
  by_cases hc : x.k = ks[i]
  ·rw [if_pos hc, loop_r, if_pos (by simp [hc])]
  ·rw [if_neg hc, loop_n, kinds64 hT hlo hks hg m (i + 1) (by omega)]
   have : (x.k == ks[i]) = false := by simpa using hc
   rw [this, Bool.false_or]
theorem round64 {l : List Tk4} {E' D : List Nat} {t p q : Nat} {x : Tk4} {ks : List Int} {fine : Bool} (hT : TX h l E' D t) (hlo : lo ≤ h.length) (hks : ks.length ≤ 1000) (hE : E'.length = l.length) (hD : D.length = l.length) (hl : l.length ≤ 1000000000) (hb : E'.getD p 0 ≤ l.length) (hg : l[p]? = some x) (hpq : p < q) :
  evCode ⟨Tryz.prog, E, lo, h.length, h64⟩ loopW l64x0 (N64 t p q ks fine, h) =
   if ks.contains x.k = true then some (.ret, [(8, .v (.int .i64 p)), (9, .v (.bool fine))], h)
   else some (.normal, N64 t (if closer x.k = 0 then p + 1 else min (E'.getD p 0 + 1) q) q ks (fine && decide (D.getD p 0 ≤ 64)), h) := by
 have hK := kinds64 (q := q) (fine := fine) hT hlo hks hg ks.length 0 (by omega)
 have c66 := f66 (q := q) hT hlo hE hl hb hg
 have hT0 := hT
 obtain ⟨e, d, h1, h2, h3⟩ := hT
 have n0 : ((0 : Nat) : Int) = 0 := rfl
 have q1 : decide ((p : Int) < (q : Int)) = true := by simpa using hpq
 have rl := ri_len .i64 ks
 have hp : p < l.length := (List.getElem?_eq_some_iff.1 hg).1
 have gD := nt_at (show p < D.length by omega)
 have q2 : (p : Int) < (l.length : Int) := by omega
 have eD : decide (((D.getD p 0 : Nat) : Int) ≤ 64) = decide (D.getD p 0 ≤ 64) := by rw [decide_eq_decide]; omega
 generalize (if closer x.k = 0 then p + 1 else min (E'.getD p 0 + 1) q) = p' at *
 rw [List.drop_zero] at hK
 cases hc : ks.contains x.k with
 | true =>
  rw [hc, if_pos rfl] at hK
  rw [if_pos rfl]
  simp only [l64x1, b64, Tryz.f64, loopAt, loops, bodyOf, go_sem, M64, N64, n0, List.cons_append, List.nil_append] at hK
  simp only [N64, go_sem, l64x0, b64, Tryz.f64, hlo, q1, hK, rl]
  all_goals rfl
 | false =>
  rw [hc, if_neg (by simp)] at hK
  rw [if_neg (by simp)]
  simp only [l64x1, b64, Tryz.f64, loopAt, loops, bodyOf, go_sem, M64, N64, n0, List.cons_append, List.nil_append] at hK
  cases fine with
  | true =>
   rw [Bool.true_and]
   simp only [N64, go_sem, l64x0, b64, Tryz.f64, hlo, q1, hK, rl, h2, h3, gD, q2, eD, c66, Nat.mul_one]
   all_goals rfl
  | false =>
   rw [Bool.false_and]
   simp only [N64, go_sem, l64x0, b64, Tryz.f64, hlo, q1, hK, rl, h2, h3, gD, q2, eD, c66, Nat.mul_one]
   all_goals rfl
theorem stop64 {t q : Nat} {ks : List Int} {fine : Bool} (hlo : lo ≤ h.length) :
  evCode ⟨Tryz.prog, E, lo, h.length, h64⟩ loopW l64x0 (N64 t q q ks fine, h) = some (.exit 0, N64 t q q ks fine ++ [(15, .v (.bool false))], h) := by
 have q1 : decide ((q : Int) < (q : Int)) = false := by simp
 simp only [N64, go_sem, l64x0, b64, Tryz.f64, hlo, q1]
 all_goals rfl
theorem loop64 {l : List Tk4} {E' D : List Nat} {t q : Nat} {ks : List Int} (hT : TX h l E' D t) (hlo : lo ≤ h.length) (hks : ks.length ≤ 1000) (hE : E'.length = l.length) (hD : D.length = l.length) (hl : l.length ≤ 1000000000) (hb : ∀ p, E'.getD p 0 ≤ l.length) : ∀ (G : List PV) (p : Nat) (fine : Bool), LaidAt l E' D p q G →
  loopW (evCode ⟨Tryz.prog, E, lo, h.length, h64⟩ loopW l64x0) (N64 t p q ks fine, h) =
   if (G.dropWhile (noHit ks)).isEmpty = true then some (.exit 0, N64 t q q ks (fine && (G.takeWhile (noHit ks)).all fun v => decide (depV v ≤ 64)) ++ [(15, .v (.bool false))], h)
   else some (.ret, [(8, .v (.int .i64 ((p + (toksL (G.takeWhile (noHit ks))).length : Nat) : Int))), (9, .v (.bool (fine && (G.takeWhile (noHit ks)).all fun v => decide (depV v ≤ 64))))], h)
 | [], p, fine, hA => by
  obtain rfl := hA.nil
  rw [loop_eq, stop64 hlo, loop_e, List.takeWhile_nil, List.dropWhile_nil, List.isEmpty_nil, if_pos rfl, List.all_nil, Bool.and_true]
 | v :: r, p, fine, hA => by
  rw [loop_eq, round64 hT hlo hks hE hD hl (hb p) hA.head hA.lt, hA.over, hA.deep]
  rw [List.takeWhile_cons, List.dropWhile_cons]
  cases hc : ks.contains v.t.k with
  | true =>
   have hn : noHit ks v = false := by unfold noHit; rw [hc]; rfl
   rw [if_pos rfl, loop_r, hn]
   simp only [Bool.false_eq_true, if_false, List.isEmpty_cons, List.all_nil, Bool.and_true, toksL, List.length_nil, Nat.add_zero]
  | false =>
   have hn : noHit ks v = true := by unfold noHit; rw [hc]; rfl
   rw [if_neg (by simp), loop_n, hn, loop64 hT hlo hks hE hD hl hb r _ _ hA.tail]
   simp only [if_true, List.all_cons, Bool.and_assoc, toksL_cons, List.length_append, Nat.add_assoc]
theorem f64 {l : List Tk4} {E' D : List Nat} {t p q : Nat} {ks : List Int} {G : List PV} (hT : TX h l E' D t) (hlo : lo ≤ h.length) (hks : ks.length ≤ 1000) (hE : E'.length = l.length) (hD : D.length = l.length) (hl : l.length ≤ 1000000000) (hb : ∀ p, E'.getD p 0 ≤ l.length) (hA : LaidAt l E' D p q G) :
  E lo 64 [.ptr t 0, .v (.int .i64 p), .v (.int .i64 q), .list .no (ri .i64 ks)] h = some (.tup [.v (.int .i64 ((p + (toksL (G.takeWhile (noHit ks))).length : Nat) : Int)), .v (.bool (!deepL 64 (cvL (G.takeWhile (noHit ks)))))], h) := by
 have hL := loop64 hT hlo hks hE hD hl hb G p true hA
 have hf := (hA.front (noHit ks)).fine (n := 64)
 have hc := hA.cut (noHit ks)
 simp only [Bool.true_and, hf] at hL
 rw [e64 (by simp) (by rfl)]
 simp only [l64x0, b64, Tryz.f64, loopAt, loops, bodyOf, go_sem, N64, List.cons_append, List.nil_append] at hL
 cases hd : (G.dropWhile (noHit ks)).isEmpty with
 | true =>
  rw [hd, if_pos rfl] at hL
  rw [List.isEmpty_iff.1 hd] at hc
  rw [hc.nil]
  simp only [go_sem, b64, Tryz.f64, hlo, hL]
  all_goals rfl
 | false =>
  rw [hd, if_neg (by simp)] at hL
  simp only [go_sem, b64, Tryz.f64, hlo, hL]
  all_goals rfl
theorem row_slice (l : List Tk4) (p q : Nat) : ((l.map row).take q).drop p = ((l.take q).drop p).map row := by rw [List.map_drop, List.map_take]
theorem f67 {l : List Tk4} {E' D : List Nat} {t p q : Nat} {G : List PV} (hT : TX h l E' D t) (hlo : lo ≤ h.length) (hl : l.length ≤ 1000000000) (hA : LaidAt l E' D p q G) :
  E lo 67 [.ptr t 0, .v (.int .i64 p), .v (.int .i64 q)] h = some (.list .no (rowsC (trim (cvL G))), h) := by
 obtain ⟨e, d, h1, h2, h3⟩ := hT
 have hpq : p ≤ q := by have := hA.len; omega
 have hql : q ≤ l.length := hA.le
 have hv := hA.vals
 have hsl : ((l.take q).drop p).length ≤ 1000000000 := by rw [List.length_drop, List.length_take]; omega
 have c26 := f26 (lo := lo) (h := h) (l := (l.take q).drop p) hlo hsl
 rw [hv] at c26
 have hcl : (cvL G).length ≤ 1000000000 := by
  have h5 := hA.len
  have : ∀ F : List PV, F.length ≤ (toksL F).length := fun F => by
   induction F with
   | nil => simp
   | cons v r ih => rw [toksL_cons, List.length_append, List.length_cons]; have := toksV_pos v; omega
  have := this G
  rw [cvL_len]
  omega
 have c56 := f56 (lo := lo) (h := h) (l := cvL G) hlo hcl
 have ra := row_all l
 have rs := row_slice l p q
 rw [e67 (by simp) (by rfl)]
 simp only [go_sem, b67, Tryz.f67, hlo, h3, hpq, hql, ra, rs, c26, c56, List.length_map]
 all_goals rfl
end Go.Lift.P8
end

section
namespace Go.Lift.Tok
end Go.Lift.Tok
namespace Go.Lift.Utf
end Go.Lift.Utf
namespace Go.Proofs
end Go.Proofs
open Go.Proofs
namespace Go.Lift.P8.T
variable [MX]
open Utf Tok
set_option maxRecDepth 20000
abbrev R (l : List Int) (i : Nat) : Ob := .cells [.list .no (ri .i32 l), .v (.int .i64 i)]
section
variable {lo i : Nat} {l : List Int} {p q : List Ob}
end
end Go.Lift.P8.T
end

section
namespace Go.Lift.Tok
end Go.Lift.Tok
namespace Go.Lift.Utf
end Go.Lift.Utf
namespace Go.Proofs
end Go.Proofs
open Go.Proofs
namespace Go.Lift.P8.T
variable [MX]
open Utf Tok
set_option maxRecDepth 20000
def bl (l : List Int) : List V := l.map fun n => .v (.int .u8 n)
theorem bl_len (l : List Int) : (bl l).length = l.length := by simp [bl]
theorem bl_get (l : List Int) (i : Nat) : (bl l)[i]? = (l[i]?).map fun n => V.v (.int .u8 n) := by simp [bl]
theorem bl_set (l : List Int) (i : Nat) (n : Int) : (bl l).set i (.v (.int .u8 n)) = bl (l.set i n) := by simp [bl, List.map_set]
theorem byteCells_u8s {l : List Int} (hy : By l) : byteCells ⟨(u8s l).toArray⟩ = bl l := by
 simp only [byteCells, u8s, bl, List.map_map]
 refine List.map_congr_left fun n hn => ?_
 have := hy n hn
 have e : ((UInt8.ofNat n.toNat).toNat : Int) = n := by
  rw [UInt8.toNat_ofNat']
  omega
 simp only [Function.comp, e]
end Go.Lift.P8.T
end

section
namespace Go.Lift.Rul
end Go.Lift.Rul
namespace Go.Lift.P8.T
end Go.Lift.P8.T
namespace Go.Lift.Utf
end Go.Lift.Utf
namespace Go.Proofs
end Go.Proofs
open Go.Proofs
namespace Go.Lift.P8
open Rul
open Utf (By)
open T (bl bl_len bl_get bl_set byteCells_u8s)
variable [MX]
set_option maxRecDepth 20000
set_option maxHeartbeats 4000000
variable {lo : Nat} {h : Heap}
theorem loop65 (hlo : lo ≤ h.length) : ∀ (n : Nat) (a b : List Int), b.length ≤ n → a.length + b.length ≤ 1000000000000 → By b →
  loopW (evCode ⟨Tryz.prog, E, lo, h.length, h65⟩ loopW l65x0) ([(3, .buf h.length 0 (a.length + b.length)), (8, .buf h.length 0 (a.length + b.length)), (9, .v (.int .i64 (a.length + b.length : Nat))), (10, .v (.int .i64 a.length))], h ++ [.cells (bl (a ++ b))]) =
   some (.exit 0, [(3, .buf h.length 0 (a.length + b.length)), (8, .buf h.length 0 (a.length + b.length)), (9, .v (.int .i64 (a.length + b.length : Nat))), (10, .v (.int .i64 (a.length + b.length : Nat))), (11, .v (.bool false))], h ++ [.cells (bl (a ++ small b))]) := by
 intro n
 induction n with
 | zero =>
  intro a b hb hab hy
  obtain rfl : b = [] := List.eq_nil_of_length_eq_zero (by omega)
  have hd : decide (((a.length : Nat) : Int) < ((a.length + ([] : List Int).length : Nat) : Int)) = false := by simp
  rw [loop_eq]
  simp only [List.length_nil, Nat.add_zero] at hd ⊢
  simp only [go_sem, l65x0, b65, Tryz.f65, hd, small, List.map_nil]
 | succ n ih =>
  intro a b hb hab hy
  cases b with
  | nil =>
   have hd : decide (((a.length : Nat) : Int) < ((a.length + ([] : List Int).length : Nat) : Int)) = false := by simp
   rw [loop_eq]
   simp only [List.length_nil, Nat.add_zero] at hd ⊢
   simp only [go_sem, l65x0, b65, Tryz.f65, hd, small, List.map_nil]
  | cons c b =>
   have hcy := hy c (List.mem_cons_self ..)
   have hd : decide ((a.length : Int) < ((a.length + (c :: b).length : Nat) : Int)) = true := by simp; omega
   have hx : (bl (a ++ c :: b))[a.length]? = some (.v (.int .u8 c)) := by simp [bl_get]
   have hw : IntKind.i64.wrap ((a.length : Int) + 1) = ((a.length + 1 : Nat) : Int) := wrap_succ (by omega)
   have hlt : a.length < a.length + (c :: b).length := by simp
   have hih := ih (a ++ [lowb c]) b (by simp at hb; omega) (by simp at hab ⊢; omega) (fun x hx => hy x (List.mem_cons_of_mem _ hx))
   have el : (a ++ [lowb c]).length + b.length = a.length + (c :: b).length := by simp; omega
   have el2 : (a ++ [lowb c]).length = a.length + 1 := by simp
   have el3 : a ++ [lowb c] ++ small b = a ++ small (c :: b) := by simp [small]
   rw [el, el2, el3] at hih
   by_cases h1 : 65 ≤ c
   ·have q1 : decide (65 ≤ c) = true := by simpa using h1
    by_cases h2 : c ≤ 90
    ·have q2 : decide (c ≤ 90) = true := by simpa using h2
     have hlc : lowb c = c + 32 := by unfold lowb; rw [if_pos ⟨h1, h2⟩]
     have hs : (bl (a ++ c :: b)).set a.length (.v (.int .u8 (c + 32))) = bl (a ++ [lowb c] ++ b) := by
      rw [bl_set, hlc]
      simp
     have hwa : IntKind.u8.wrap (c + 97) = c + 97 := wrap_u8 (by omega) (by omega)
     have hwc : IntKind.u8.wrap (c + 97 - 65) = c + 32 := by rw [wrap_u8 (by omega) (by omega)]; omega
     have hbl : a.length + 1 ≤ (bl (a ++ c :: b)).length := by rw [bl_len]; simp
     generalize hcs : a.length + (c :: b).length = k at *
     have er : evCode ⟨Tryz.prog, E, lo, h.length, h65⟩ loopW l65x0 ([(3, .buf h.length 0 k), (8, .buf h.length 0 k), (9, .v (.int .i64 (k : Nat))), (10, .v (.int .i64 a.length))], h ++ [.cells (bl (a ++ c :: b))]) =
       some (.normal, [(3, .buf h.length 0 k), (8, .buf h.length 0 k), (9, .v (.int .i64 (k : Nat))), (10, .v (.int .i64 (a.length + 1 : Nat)))], h ++ [.cells (bl (a ++ [lowb c] ++ b))]) := by
      have hlt' : (a.length : Int) < k := by omega
      have h0' : (0 : Int) ≤ a.length := by omega
      simp only [go_sem, l65x0, b65, Tryz.f65, hd, hx, hw, q1, q2, hwa, hwc, hs, hlo, hlt, hlt', h0', hbl, Nat.zero_add, Int.toNat_natCast, and_self]
      all_goals rfl
     rw [loop_eq, er, loop_n]
     exact hih
    ·have q2 : decide (c ≤ 90) = false := by simpa using h2
     have hlc : lowb c = c := by unfold lowb; rw [if_neg (by omega)]
     rw [hlc] at hih
     generalize hcs : a.length + (c :: b).length = k at *
     have er : evCode ⟨Tryz.prog, E, lo, h.length, h65⟩ loopW l65x0 ([(3, .buf h.length 0 k), (8, .buf h.length 0 k), (9, .v (.int .i64 (k : Nat))), (10, .v (.int .i64 a.length))], h ++ [.cells (bl (a ++ c :: b))]) =
       some (.normal, [(3, .buf h.length 0 k), (8, .buf h.length 0 k), (9, .v (.int .i64 (k : Nat))), (10, .v (.int .i64 (a.length + 1 : Nat)))], h ++ [.cells (bl (a ++ c :: b))]) := by
      have hlt' : (a.length : Int) < k := by omega
      have h0' : (0 : Int) ≤ a.length := by omega
      simp only [go_sem, l65x0, b65, Tryz.f65, hd, hx, hw, q1, q2, hlo, hlt, hlt', h0', Nat.zero_add, Int.toNat_natCast, and_self]
      all_goals rfl
     rw [loop_eq, er, loop_n]
     have e4 : a ++ c :: b = a ++ [c] ++ b := by simp
     rw [e4]
     exact hih
   ·have q1 : decide (65 ≤ c) = false := by simpa using h1
    have hlc : lowb c = c := by unfold lowb; rw [if_neg (by omega)]
    rw [hlc] at hih
    generalize hcs : a.length + (c :: b).length = k at *
    have er : evCode ⟨Tryz.prog, E, lo, h.length, h65⟩ loopW l65x0 ([(3, .buf h.length 0 k), (8, .buf h.length 0 k), (9, .v (.int .i64 (k : Nat))), (10, .v (.int .i64 a.length))], h ++ [.cells (bl (a ++ c :: b))]) =
      some (.normal, [(3, .buf h.length 0 k), (8, .buf h.length 0 k), (9, .v (.int .i64 (k : Nat))), (10, .v (.int .i64 (a.length + 1 : Nat)))], h ++ [.cells (bl (a ++ c :: b))]) := by
     have hlt' : (a.length : Int) < k := by omega
     have h0' : (0 : Int) ≤ a.length := by omega
     simp only [go_sem, l65x0, b65, Tryz.f65, hd, hx, hw, q1, hlo, hlt, hlt', h0', Nat.zero_add, Int.toNat_natCast, and_self]
     all_goals rfl
    rw [loop_eq, er, loop_n]
    have e4 : a ++ c :: b = a ++ [c] ++ b := by simp
    rw [e4]
    exact hih
theorem f65 {l : List Int} (hlo : lo ≤ h.length) (hl : l.length ≤ 1000000000000) (hy : By l) : E lo 65 [.v (.string (Rul.bs l))] h = some (.v (.string (Rul.bs (small l))), h) := by
 have hL := loop65 (lo := lo) (h := h) hlo l.length [] l (Nat.le_refl _) (by simpa using hl) hy
 have hz : (⟨(u8s l).toArray⟩ : ByteArray).size = l.length := by simp [ByteArray.size, u8s]
 have hsl : (small l).length = l.length := List.length_map _
 rw [e65 (by simp) (by rfl)]
 simp only [l65x0, b65, Tryz.f65, loopAt, loops, bodyOf, go_sem, List.length_nil, Nat.zero_add, List.nil_append] at hL
 have hb1 : decide (0 + l.length ≤ (bl (small l)).length) = true := by rw [bl_len, hsl]; simp
 have hb2 : ((bl (small l)).take l.length).map (fun x => [x]) = ri .u8 (small l) := by
  rw [List.take_of_length_le (by rw [bl_len, hsl]; exact Nat.le_refl _)]
  simp [bl, ri]
 simp only [go_sem, b65, Tryz.f65, hz, Rul.bs, byteCells_u8s hy, hL, hb1, hb2, List.nil_append]
 all_goals rfl
end Go.Lift.P8
end

section
namespace Go.Lift.Utf
end Go.Lift.Utf
namespace Go.Lift.Tok
open Utf
def core (d : List Int) : List Int := (d.reverse.dropWhile (· == 48)).reverse
end Go.Lift.Tok
end

section
namespace Go.Lift.Tok
end Go.Lift.Tok
namespace Go.Lift.Utf
end Go.Lift.Utf
namespace Go.Lift.Spell
open Utf Tok
def big : Int := 1000000000000000000
def upM (x : Int) : Nat → Int → Option Int
 | 0, m => some m
 | k + 1, m => if big < m then none else upM x k (m * x)
def fv : Nat → Int → Nat × Int
 | 0, d => (0, d)
 | k + 1, d => if d % 5 = 0 then ((fv k (d / 5)).1 + 1, (fv k (d / 5)).2) else (0, d)
def progN (n d : Int) : Option (Int × Nat) :=
 let a := Go.Lib.ctz 64 d.toNat
 let b := (fv 64 (d / 2 ^ a)).1
 if (fv 64 (d / 2 ^ a)).2 = 1 then ((upM 2 (max a b - a) n).bind (upM 5 (max a b - b))).map fun m => (m, max a b) else none
def sureR (n d : Int) : Bool := decide (1 ≤ d) && n != -9223372036854775808 && Nat.gcd n.natAbs d.toNat == 1
def mayR (n d : Int) : Bool := (n == 0 && d == 0) || sureR n d
def dgt (m : Int) : List Int := (Go.Lib.decDigits m.toNat).map fun c => (c.toNat : Int)
def numText (below whole : Bool) (m : Int) (p : Nat) : Option (List Int) :=
 if 18 < (core (dgt m)).length then none else
 let t := List.replicate (p + 1 - (dgt m).length) 48 ++ dgt m
 some ((if below = true then [45] else []) ++ (t.take (t.length - p) ++ (if whole = true then [] else 46 :: (t.drop (t.length - p) ++ if p = 0 then [48] else []))))
def plainT (n d : Int) (whole : Bool) : Option (List Int) :=
 if (!(mayR n d) || whole && decide (1 < d)) = true then none
 else if d = 0 then some (if whole = true then List.replicate 20 57 else [49, 101, 57, 57])
 else match progN n.natAbs d with
  | none => none
  | some (m, p) => numText (decide (n < 0)) whole m p
end Go.Lift.Spell
end

section
namespace Go.Lift.Spell
end Go.Lift.Spell
namespace Go.Lift.Tok
end Go.Lift.Tok
namespace Go.Lift.Utf
end Go.Lift.Utf
namespace Go.Proofs
end Go.Proofs
open Go.Proofs
namespace Go.Lift.P8
variable [MX]
open Utf Tok Spell
set_option maxRecDepth 20000
set_option maxHeartbeats 2000000
def bs (l : List Int) : ByteArray := ⟨(u8s l).toArray⟩
theorem bs_size (l : List Int) : (bs l).size = l.length := by simp [bs, ByteArray.size, u8s]
theorem bs_ext (l : List Int) (a b : Nat) : (bs l).extract a b = bs ((l.take b).drop a) := by
 apply ByteArray.ext
 simp only [bs, ByteArray.data_extract]
 apply Array.toList_inj.1
 rw [Array.toList_extract]
 simp only [List.extract, u8s, List.toList_toArray, List.map_drop, List.map_take]
 rw [List.take_drop]
 rcases Nat.le_total a b with h | h
 ·rw [Nat.add_sub_cancel' h]
 ·rw [List.drop_eq_nil_of_le (by simp; omega), List.drop_eq_nil_of_le (by simp; omega)]
theorem bs_list (l : List Int) : (bs l).toList = u8s l := by simp [bs, ByteArray.toList_eq]
theorem By.take {l : List Int} (h : By l) (n : Nat) : By (l.take n) := fun c hc => h c (List.mem_of_mem_take hc)
theorem By.drop {l : List Int} (h : By l) (n : Nat) : By (l.drop n) := fun c hc => h c (List.mem_of_mem_drop hc)
end Go.Lift.P8
end

section
namespace Go.Lift.Spell
end Go.Lift.Spell
namespace Go.Lift.Tok
end Go.Lift.Tok
namespace Go.Lift.Utf
end Go.Lift.Utf
namespace Go.Proofs
end Go.Proofs
open Go.Proofs
namespace Go.Lift.P8
variable [MX]
open Utf Tok Spell
set_option maxRecDepth 20000
set_option maxHeartbeats 4000000
section
variable {lo : Nat} {h : Heap}
theorem u8s_inj : ∀ {a b : List Int}, By a → By b → u8s a = u8s b → a = b
 | [], [], _, _, _ => rfl
 | [], y :: b, _, _, h => by cases h
 | x :: a, [], _, _, h => by cases h
 | x :: a, y :: b, ha, hb, h => by
  simp only [u8s, List.map_cons, List.cons.injEq] at h
  have hx := ha x (by simp)
  have hy := hb y (by simp)
  have e : x = y := by
   have := congrArg UInt8.toNat h.1
   simp only [UInt8.toNat_ofNat'] at this
   omega
  rw [e, u8s_inj (fun c hc => ha c (by simp [hc])) (fun c hc => hb c (by simp [hc])) h.2]
theorem bs_beq {a b : List Int} (ha : By a) (hb : By b) : ((bs a).toList == (bs b).toList) = (a == b) := by
 rw [bs_list, bs_list, Bool.eq_iff_iff, beq_iff_eq, beq_iff_eq]
 exact ⟨u8s_inj ha hb, fun h => by rw [h]⟩
variable [HasD] [HasN]
end
end Go.Lift.P8
end

section
namespace Go.Lift.Rul
end Go.Lift.Rul
namespace Go.Lift.Utf
end Go.Lift.Utf
namespace Go.Proofs
end Go.Proofs
open Go.Proofs
namespace Go.Lift.P8
open Rul
open Utf (By)
variable [MX]
set_option maxRecDepth 20000
set_option maxHeartbeats 4000000
variable {lo : Nat} {h : Heap}
theorem rbs_beq {a b : List Int} (ha : By a) (hb : By b) : ((Rul.bs a).toList == (Rul.bs b).toList) = (a == b) := bs_beq ha hb
theorem rbs_size (l : List Int) : (Rul.bs l).size = l.length := bs_size l
theorem rbs_ext (b : List Int) (i j : Nat) : (Rul.bs b).extract i j = Rul.bs ((b.take j).drop i) := bs_ext b i j
theorem by_small {l : List Int} (h : By l) : By (small l) := fun c hc => by
 obtain ⟨x, hx, rfl⟩ := List.mem_map.1 hc
 have := h x hx
 unfold lowb
 split <;> omega
theorem lit_by {l : List Int} (h : l.all (fun c => decide (0 ≤ c) && decide (c ≤ 255)) = true) : By l := fun c hc => by
 have := List.all_eq_true.1 h c hc
 simpa using this
def wMedia : List Int := [109, 101, 100, 105, 97]
def wSupports : List Int := [115, 117, 112, 112, 111, 114, 116, 115]
def wContainer : List Int := [99, 111, 110, 116, 97, 105, 110, 101, 114]
theorem by_media : By wMedia := lit_by rfl
theorem by_supports : By wSupports := lit_by rfl
theorem by_container : By wContainer := lit_by rfl
theorem by_important : By important := lit_by rfl
theorem k_media : (⟨#[109, 101, 100, 105, 97]⟩ : ByteArray) = Rul.bs wMedia := rfl
theorem k_supports : (⟨#[115, 117, 112, 112, 111, 114, 116, 115]⟩ : ByteArray) = Rul.bs wSupports := rfl
theorem k_container : (⟨#[99, 111, 110, 116, 97, 105, 110, 101, 114]⟩ : ByteArray) = Rul.bs wContainer := rfl
theorem k_important : (⟨#[105, 109, 112, 111, 114, 116, 97, 110, 116]⟩ : ByteArray) = Rul.bs important := rfl
theorem k_bang : (⟨#[33]⟩ : ByteArray) = Rul.bs [33] := rfl
theorem k_dashes : (⟨#[45, 45]⟩ : ByteArray) = Rul.bs [45, 45] := rfl
theorem by_bang : By [33] := lit_by rfl
theorem by_dashes : By [45, 45] := lit_by rfl
theorem isGroup_eq (n : List Int) : isGroup n = (n == wMedia || n == wSupports || n == wContainer) := rfl
theorem f135r {b : List Int} (hy : By b) (hl : b.length ≤ 1000000000) : E lo 135 [.v (.string (Rul.bs b)), .v (.string (Rul.bs [45, 45]))] h = some (.v (.bool ([45, 45].isPrefixOf b)), h) := by
 have s1 : (Rul.bs [45, 45]).size = 2 := rbs_size [45, 45]
 have n1 : ((2 : Nat) : Int) = 2 := rfl
 have sz := rbs_size b
 rw [e135 (by simp) (by rfl)]
 by_cases h2 : 2 ≤ b.length
 ·have q : decide ((2 : Int) ≤ (b.length : Int)) = true := by rw [decide_eq_true_iff]; omega
  have hb := rbs_beq (a := (b.take 2).drop 0) (b := [45, 45]) (fun x hx => hy x (List.mem_of_mem_take (List.mem_of_mem_drop hx))) by_dashes
  have e : ((b.take 2).drop 0 == [45, 45]) = [45, 45].isPrefixOf b := by
   match b, h2 with
   | x :: y :: r, _ => simp [List.isPrefixOf]; rw [Bool.eq_iff_iff]; simp; constructor <;> (rintro ⟨rfl, rfl⟩; exact ⟨rfl, rfl⟩)
  rw [e, List.drop_zero] at hb
  simp only [go_sem, b135, Tryz.f135, s1, n1, sz, q, h2, rbs_ext, hb, Nat.zero_le]
  all_goals rfl
 ·have q : decide ((2 : Int) ≤ (b.length : Int)) = false := by rw [decide_eq_false_iff_not]; omega
  have e : [45, 45].isPrefixOf b = false := by
   match b, h2 with
   | [], _ => rfl
   | [x], _ => simp [List.isPrefixOf]
   | x :: y :: r, h2 => simp at h2
  rw [e]
  simp only [go_sem, b135, Tryz.f135, s1, n1, sz, q, Nat.zero_le]
  all_goals rfl
theorem f97r {b : List Int} (hy : By b) (hl : b.length ≤ 1000000000) : E lo 97 [.v (.string (Rul.bs b)), .v (.string (Rul.bs [45, 45]))] h = some (.v (.bool ([45, 45].isPrefixOf b)), h) := by
 have k := fun lo h => f135r (lo := lo) (h := h) hy hl
 rw [e97 (by simp) (by rfl)]
 simp only [go_sem, b97, Tryz.f97, k]
 all_goals rfl
end Go.Lift.P8
end

section
namespace Go.Lift.Rul
end Go.Lift.Rul
namespace Go.Proofs
end Go.Proofs
open Go.Proofs
namespace Go.Lift.P8
open Rul
variable [MX]
set_option maxRecDepth 20000
set_option maxHeartbeats 4000000
variable {lo : Nat} {h : Heap}
abbrev N35 (l : List CV) (a b : Nat) : Env := [(0, .list .no (rowsC l)), (3, .v (.int .i64 a)), (4, .v (.int .i64 b))]
theorem round35a {l : List CV} {v : CV} {a b : Nat} (hlo : lo ≤ h.length) (hl : l.length ≤ 1000000000) (hg : l[a]? = some v) (hab : a < b) :
  evCode ⟨Tryz.prog, E, lo, h.length, h35⟩ loopW l35x0 (N35 l a b, h) =
   if spaceC v = true then some (.normal, N35 l (a + 1) b, h) else some (.exit 0, N35 l a b ++ [(16, .v (.bool false))], h) := by
 obtain ⟨t, ks⟩ := v
 have hlt : a < l.length := (List.getElem?_eq_some_iff.1 hg).1
 have q : decide ((a : Int) < (b : Int)) = true := by simpa using hab
 have hw : IntKind.i64.wrap ((a : Int) + 1) = ((a + 1 : Nat) : Int) := wrap_succ (by omega)
 have hgr : (rowsC l)[a]? = some (rowV (.mk t ks)) := by rw [rowsC_get, hg]; rfl
 have c := fun lo hlo => f57 (lo := lo) (h := h) hlo (.mk t ks)
 rw [rowV_eq] at c hgr
 have ca := c lo hlo; have cb := c h.length (Nat.le_refl _)
 clear c
 cases hs : spaceC (.mk t ks) with
 | true =>
  rw [hs] at ca cb
  rw [if_pos rfl]
  simp only [N35, go_sem, l35x0, b35, Tryz.f35, hlo, q, ca, cb, hgr, hw]
  all_goals rfl
 | false =>
  rw [hs] at ca cb
  rw [if_neg (by simp)]
  simp only [N35, go_sem, l35x0, b35, Tryz.f35, hlo, q, ca, cb, hgr, hw]
  all_goals rfl
theorem stop35a {l : List CV} {b : Nat} (hlo : lo ≤ h.length) : evCode ⟨Tryz.prog, E, lo, h.length, h35⟩ loopW l35x0 (N35 l b b, h) = some (.exit 0, N35 l b b ++ [(16, .v (.bool false))], h) := by
 have q : decide ((b : Int) < (b : Int)) = false := by simp
 simp only [N35, go_sem, l35x0, b35, Tryz.f35, hlo, q]
 all_goals rfl
theorem loop35a {l : List CV} (hlo : lo ≤ h.length) (hl : l.length ≤ 1000000000) : ∀ (m a : Nat), a + m = l.length → ∃ a', a ≤ a' ∧ a' ≤ l.length ∧ ltrim (l.drop a) = l.drop a' ∧
   loopW (evCode ⟨Tryz.prog, E, lo, h.length, h35⟩ loopW l35x0) (N35 l a l.length, h) = some (.exit 0, N35 l a' l.length ++ [(16, .v (.bool false))], h)
 | 0, a, hm => by
  obtain rfl : a = l.length := by omega
  exact ⟨l.length, Nat.le_refl _, Nat.le_refl _, by rw [List.drop_length]; rfl, by rw [loop_eq, stop35a hlo, loop_e]⟩
 | m + 1, a, hm => by
  have hlt : a < l.length := by omega
  have hd : l.drop a = l[a] :: l.drop (a + 1) := List.drop_eq_getElem_cons hlt
  have hr := round35a (h := h) hlo hl (List.getElem?_eq_getElem hlt) hlt
  have he : ltrim (l.drop a) = if spaceC l[a] = true then ltrim (l.drop (a + 1)) else l.drop a := by
   rw [hd]
   unfold ltrim
   rw [List.dropWhile_cons]
  rw [he, loop_eq, hr]
  split
  ·rw [loop_n]
   obtain ⟨a', h1, h2, h3, h4⟩ := loop35a hlo hl m (a + 1) (by omega)
   exact ⟨a', by omega, h2, h3, h4⟩
  ·exact ⟨a, Nat.le_refl _, by omega, rfl, by rw [loop_e]⟩
theorem round35b {l : List CV} {v : CV} {a b : Nat} {ex : Env} (hex : ex = [] ∨ ex = [(16, .v (.bool false))]) (hlo : lo ≤ h.length) (hl : l.length ≤ 1000000000) (hg : l[b]? = some v) (hab : a < b + 1) :
  evCode ⟨Tryz.prog, E, lo, h.length, h35⟩ loopW l35x1 (N35 l a (b + 1) ++ ex, h) =
   if spaceC v = true then some (.normal, N35 l a b, h) else some (.exit 2, N35 l a (b + 1) ++ [(29, .v (.bool false))], h) := by
 obtain ⟨t, ks⟩ := v
 have hlt : b < l.length := (List.getElem?_eq_some_iff.1 hg).1
 have q : decide ((a : Int) < ((b + 1 : Nat) : Int)) = true := by simp; omega
 have hw : IntKind.i64.wrap (((b + 1 : Nat) : Int) - 1) = (b : Int) := by rw [wrap_i64] <;> omega
 have hgr : (rowsC l)[b]? = some (rowV (.mk t ks)) := by rw [rowsC_get, hg]; rfl
 have c := fun lo hlo => f57 (lo := lo) (h := h) hlo (.mk t ks)
 rw [rowV_eq] at c hgr
 have ca := c lo hlo; have cb := c h.length (Nat.le_refl _)
 clear c
 cases hs : spaceC (.mk t ks) with
 | true =>
  rw [hs] at ca cb
  rw [if_pos rfl]
  rcases hex with rfl | rfl
  ·simp only [N35, go_sem, l35x1, b35, Tryz.f35, hlo, q, ca, cb, hgr, hw]
   all_goals rfl
  ·simp only [N35, go_sem, l35x1, b35, Tryz.f35, hlo, q, ca, cb, hgr, hw]
   all_goals rfl
 | false =>
  rw [hs] at ca cb
  rw [if_neg (by simp)]
  rcases hex with rfl | rfl
  ·simp only [N35, go_sem, l35x1, b35, Tryz.f35, hlo, q, ca, cb, hgr, hw]
   all_goals rfl
  ·simp only [N35, go_sem, l35x1, b35, Tryz.f35, hlo, q, ca, cb, hgr, hw]
   all_goals rfl
theorem stop35b {l : List CV} {b : Nat} {ex : Env} (hex : ex = [] ∨ ex = [(16, .v (.bool false))]) (hlo : lo ≤ h.length) : evCode ⟨Tryz.prog, E, lo, h.length, h35⟩ loopW l35x1 (N35 l b b ++ ex, h) = some (.exit 2, N35 l b b ++ [(29, .v (.bool false))], h) := by
 have q : decide ((b : Int) < (b : Int)) = false := by simp
 rcases hex with rfl | rfl
 ·simp only [N35, go_sem, l35x1, b35, Tryz.f35, hlo, q]
  all_goals rfl
 ·simp only [N35, go_sem, l35x1, b35, Tryz.f35, hlo, q]
  all_goals rfl
theorem loop35b {l : List CV} {a : Nat} (hlo : lo ≤ h.length) (hl : l.length ≤ 1000000000) : ∀ (m b : Nat) (ex : Env), a + m = b → b ≤ l.length → (ex = [] ∨ ex = [(16, .v (.bool false))]) → ∃ b', a ≤ b' ∧ b' ≤ l.length ∧ rtrim ((l.take b).drop a) = (l.take b').drop a ∧
   loopW (evCode ⟨Tryz.prog, E, lo, h.length, h35⟩ loopW l35x1) (N35 l a b ++ ex, h) = some (.exit 2, N35 l a b' ++ [(29, .v (.bool false))], h)
 | 0, b, ex, hm, hb, hex => by
  obtain rfl : a = b := by omega
  have e0 : (l.take a).drop a = [] := List.drop_eq_nil_of_le (by rw [List.length_take]; omega)
  exact ⟨a, Nat.le_refl _, hb, by rw [e0, rtrim_nil], by rw [loop_eq, stop35b hex hlo, loop_e]⟩
 | m + 1, b, ex, hm, hb, hex => by
  obtain ⟨c, rfl⟩ : ∃ c, b = c + 1 := ⟨b - 1, by omega⟩
  have hlt : c < l.length := by omega
  have hr := round35b (h := h) (a := a) hex hlo hl (List.getElem?_eq_getElem hlt) (by omega)
  have hd : (l.take (c + 1)).drop a = (l.take c).drop a ++ [l[c]] := by
   rw [List.take_succ_eq_append_getElem hlt, List.drop_append_of_le_length (by rw [List.length_take]; omega)]
  rw [hd, rtrim_snoc, loop_eq, hr]
  split
  ·rw [loop_n]
   obtain ⟨b', h1, h2, h3, h4⟩ := loop35b (a := a) hlo hl m c [] (by omega) (by omega) (.inl rfl)
   rw [List.append_nil] at h4
   exact ⟨b', h1, h2, h3, h4⟩
  ·exact ⟨c + 1, by omega, hb, by rw [hd], by rw [loop_e]⟩
theorem f35 {l : List CV} (hlo : lo ≤ h.length) (hl : l.length ≤ 1000000000) : E lo 35 [.list .no (rowsC l)] h = some (.list .no (rowsC (trim l)), h) := by
 obtain ⟨a, a1, a2, a3, h1⟩ := loop35a (lo := lo) (h := h) hlo hl l.length 0 (by omega)
 obtain ⟨b, b1, b2, b3, h2⟩ := loop35b (lo := lo) (h := h) (a := a) hlo hl (l.length - a) l.length _ (by omega) (Nat.le_refl _) (.inr rfl)
 rw [List.take_length, ← a3, List.drop_zero, ← trim_eq] at b3
 rw [b3]
 have n0 : ((0 : Nat) : Int) = 0 := rfl
 have q1 : a ≤ b := b1
 have q2 : b ≤ l.length := b2
 have hs : (rowsC l).drop a = rowsC (l.drop a) := rowsC_drop l a
 have ht : ((rowsC l).take b).drop a = rowsC ((l.take b).drop a) := by rw [rowsC_take, rowsC_drop]
 rw [e35 (by simp) (by rfl)]
 simp only [l35x0, l35x1, b35, Tryz.f35, loopAt, loops, bodyOf, go_sem, N35, n0] at h1 h2
 simp only [go_sem, b35, Tryz.f35, hlo, h1, h2, rowsC_len, rowsC_all, q1, q2, ht, n0]
 all_goals rfl
end Go.Lift.P8
end

section
namespace Go.Lift.Rul
end Go.Lift.Rul
namespace Go.Proofs
end Go.Proofs
open Go.Proofs
namespace Go.Lift.P8
open Rul
variable [MX]
set_option maxRecDepth 20000
set_option maxHeartbeats 4000000
variable {lo : Nat} {h : Heap}
abbrev N55 (l out : List CV) (k : Int) : Env := [(3, .list .yes (rowsC out)), (6, .list .no (rowsC l)), (7, .v (.int .i64 l.length)), (8, .v (.int .i64 k))]
theorem row_put55 (out : List CV) (t : Tk4) (ks : List CV) : rowsC out ++ [[V.v (Value.int IntKind.i64 t.k), V.v (Value.string (Rul.bs t.b)), V.v (Value.int IntKind.i64 t.n), V.v (Value.int IntKind.i64 t.d), V.v (Value.bool t.w), V.v (Value.bool t.i), V.list .no (rowsC ks)]] = rowsC (out ++ [.mk t ks]) := by
 rw [rowsC_app, rowsC_cons, rowsC_nil, rowV_eq]
theorem round55 {l out : List CV} {v : CV} {k : Nat} (hlo : lo ≤ h.length) (hl : nodesL l ≤ 1000000000) (hg : l[k]? = some v) (ho : out.length ≤ 1000000000)
  (ih : ∀ lo h, lo ≤ h.length → E lo 55 [.list .no (rowsC v.ks)] h = some (.list .no (rowsC v.ks), h)) :
  evCode ⟨Tryz.prog, E, lo, h.length, h55⟩ loopW l55x0 (N55 l out k, h) = some (.normal, N55 l (out ++ [v]) (k + 1 : Nat), h) := by
 obtain ⟨t, ks⟩ := v
 have hlt : k < l.length := (List.getElem?_eq_some_iff.1 hg).1
 have hgr : (rowsC l)[k]? = some (rowV (.mk t ks)) := by rw [rowsC_get, hg]; rfl
 have q : decide ((k : Int) < (l.length : Int)) = true := by simp; omega
 have hll := nodesL_len l
 have hw : IntKind.i64.wrap ((k : Int) + 1) = ((k + 1 : Nat) : Int) := wrap_succ (by omega)
 have hlo' : lo ≤ h.length + 1 := by omega
 have c55 := fun lo hlo => ih lo (h ++ [.cells (rowV (.mk t ks))]) hlo
 rw [rowV_eq] at *
 have c55a := c55 lo (by simp; omega); have c55b := c55 (h.length + 1) (by simp)
 clear c55 ih
 have o1 := lim72 ho
 have o2 := limC ho
 have ra := rowsC_all out
 have rl := rowsC_len out
 have rb := byteRow_rowsC out
 simp only [CV.ks] at c55a c55b
 simp only [N55]
 rw [← row_put55]
 generalize rowsC out = R at *
 simp only [N55, go_sem, l55x0, b55, Tryz.f55, hlo, hlo', q, hgr, hw, c55a, c55b, o1, o2, ra, rl, rb, rowsC_len]
 all_goals rfl
theorem stop55 {l out : List CV} (hlo : lo ≤ h.length) : evCode ⟨Tryz.prog, E, lo, h.length, h55⟩ loopW l55x0 (N55 l out l.length, h) =
   some (.exit 0, N55 l out l.length ++ [(9, .v (.bool false))], h) := by
 have q : decide ((l.length : Int) < (l.length : Int)) = false := by simp
 simp only [N55, go_sem, l55x0, b55, Tryz.f55, hlo, q]
 all_goals rfl
theorem loop55 {l : List CV} (hlo : lo ≤ h.length) (hl : nodesL l ≤ 1000000000)
  (ih : ∀ v ∈ l, ∀ lo h, lo ≤ h.length → E lo 55 [.list .no (rowsC v.ks)] h = some (.list .no (rowsC v.ks), h)) :
  ∀ (m k : Nat), k + m = l.length → loopW (evCode ⟨Tryz.prog, E, lo, h.length, h55⟩ loopW l55x0) (N55 l (l.take k) k, h) = some (.exit 0, N55 l l l.length ++ [(9, .v (.bool false))], h)
 | 0, k, hk => by
  obtain rfl : k = l.length := by omega
  rw [List.take_length, loop_eq, stop55 hlo, loop_e]
 | m + 1, k, hk => by
  have hlt : k < l.length := by omega
  have hll := nodesL_len l
  have hr := round55 (h := h) (out := l.take k) hlo hl (List.getElem?_eq_getElem hlt) (by rw [List.length_take]; omega) (ih _ (List.getElem_mem hlt))
  rw [loop_eq, hr, loop_n, ← List.take_succ_eq_append_getElem hlt]
  exact loop55 hlo hl ih m (k + 1) (by omega)
theorem f55 : ∀ (n : Nat) (l : List CV), nodesL l ≤ n → n ≤ 1000000000 → ∀ (lo : Nat) (h : Heap), lo ≤ h.length → E lo 55 [.list .no (rowsC l)] h = some (.list .no (rowsC l), h)
 | n, l, hl, hn, lo, h, hlo => by
  have hL := loop55 (lo := lo) (h := h) (l := l) hlo (by omega) (fun v hv lo' h' hlo' => by
   have h1 := nodesL_mem hv
   rw [nodesV_eq] at h1
   exact f55 (n - 1) v.ks (by omega) (by omega) lo' h' hlo') l.length 0 (by omega)
  have n0 : ((0 : Nat) : Int) = 0 := rfl
  rw [List.take_zero] at hL
  rw [e55 (by simp) (by rfl)]
  simp only [l55x0, b55, Tryz.f55, loopAt, loops, bodyOf, go_sem, N55, n0, rowsC_nil, List.cons_append, List.nil_append] at hL
  simp only [go_sem, b55, Tryz.f55, hlo, hL, rowsC_len, n0]
  all_goals rfl
 termination_by n => n
 decreasing_by
  have h1 := nodesL_mem hv
  rw [nodesV_eq] at h1
  omega
theorem nodesL_suffix {l m : List CV} (h : m <:+ l) : nodesL m ≤ nodesL l := by
 obtain ⟨p, rfl⟩ := h
 rw [nodesL_app]; omega
theorem nodesL_prefix {l m : List CV} (h : m <+: l) : nodesL m ≤ nodesL l := by
 obtain ⟨p, rfl⟩ := h
 rw [nodesL_app]; omega
theorem nodesL_rev : ∀ l : List CV, nodesL l.reverse = nodesL l
 | [] => rfl
 | v :: r => by rw [List.reverse_cons, nodesL_app, nodesL_rev r, nodesL_cons, nodesL_cons, nodesL_nil]; omega
theorem nodesL_trim (l : List CV) : nodesL (trim l) ≤ nodesL l := by
 unfold trim
 rw [nodesL_rev]
 refine Nat.le_trans (nodesL_suffix (List.dropWhile_suffix _)) ?_
 rw [nodesL_rev]
 exact nodesL_suffix (List.dropWhile_suffix _)
theorem f34 {l : List CV} (hlo : lo ≤ h.length) (hl : nodesL l ≤ 1000000000) : E lo 34 [.list .no (rowsC l)] h = some (.list .no (rowsC (trim l)), h) := by
 have hll := nodesL_len l
 have c56 := f56 (lo := lo) (h := h) (l := l) hlo (by omega)
 have c55 := f55 _ (trim l) (nodesL_trim l) (by omega) lo h hlo
 rw [e34 (by simp) (by rfl)]
 simp only [go_sem, b34, Tryz.f34, hlo, c56, c55]
 all_goals rfl
end Go.Lift.P8
end

section
namespace Go.Lift.Rul
end Go.Lift.Rul
namespace Go.Lift.Utf
end Go.Lift.Utf
namespace Go.Proofs
end Go.Proofs
open Go.Proofs
namespace Go.Lift.P8
open Rul
open Utf (By)
variable [MX]
set_option maxRecDepth 20000
set_option maxHeartbeats 4000000
variable {lo : Nat} {h : Heap}
def rgt : Nat → Code → Code
 | 0, c => c
 | n + 1, .seq _ b => rgt n b
 | _, c => c
def lft : Code → Code
 | .seq a _ => a
 | c => c
def zd : Dc := ⟨[], [], false⟩
def dcR : Option Dc → V
 | some d => .tup [.agg (declC d), .v (.bool true)]
 | none => .tup [.agg (declC zd), .v (.bool false)]
def BtT (t : Tk4) : Prop := By t.b ∧ t.b.length ≤ 1000000000
end Go.Lift.P8
end

section
namespace Go.Lift.Spell
end Go.Lift.Spell
namespace Go.Lift.Tok
end Go.Lift.Tok
namespace Go.Lift.Utf
end Go.Lift.Utf
namespace Go.Proofs
end Go.Proofs
open Go.Proofs
namespace Go.Lift.P8
variable [MX]
open Utf Tok Spell
set_option maxRecDepth 20000
set_option maxHeartbeats 4000000
variable {lo : Nat} {h : Heap}
def eqT (a b : Rul.Tk4) : Bool := a.k == b.k && (a.b == b.b && (a.n == b.n && (a.d == b.d && (a.w == b.w && a.i == b.i))))
mutual
def eqV : Rul.CV → Rul.CV → Bool
 | .mk t ks, .mk u ls => eqT t u && eqL ks ls
def eqL : List Rul.CV → List Rul.CV → Bool
 | [], [] => true
 | v :: r, u :: q => eqV v u && eqL r q
 | _, _ => false
end
theorem eqL_nil : eqL [] [] = true := by rw [eqL]
theorem eqL_cons {v u : Rul.CV} {r q : List Rul.CV} : eqL (v :: r) (u :: q) = (eqV v u && eqL r q) := by rw [eqL]
theorem eqL_len : ∀ {a b : List Rul.CV}, a.length ≠ b.length → eqL a b = false
 | [], [], h => absurd rfl h
 | v :: r, u :: q, h => by
  rw [eqL_cons, eqL_len (a := r) (b := q) (by simpa using h), Bool.and_false]
 | [], u :: q, _ => by simp [eqL]
 | v :: r, [], _ => by simp [eqL]
theorem eqT_refl (t : Rul.Tk4) : eqT t t = true := by simp [eqT]
mutual
theorem eqV_refl : ∀ v : Rul.CV, eqV v v = true
 | .mk t ks => by rw [eqV, eqT_refl, eqL_refl ks]; rfl
theorem eqL_refl : ∀ l : List Rul.CV, eqL l l = true
 | [] => eqL_nil
 | v :: r => by rw [eqL_cons, eqV_refl v, eqL_refl r]; rfl
end
theorem fl_tok : flatOf Tryz.prog 37 = some [1, 2, 1, 1, 0, 0] := by kernel_rfl
theorem cmp_tok {a b : Rul.Tk4} (ha : By a.b) (hb : By b.b) : eqCells [1, 2, 1, 1, 0, 0] [.v (.int .i64 a.k), .v (.string (bs a.b)), .v (.int .i64 a.n), .v (.int .i64 a.d), .v (.bool a.w), .v (.bool a.i)] [.v (.int .i64 b.k), .v (.string (bs b.b)), .v (.int .i64 b.n), .v (.int .i64 b.d), .v (.bool b.w), .v (.bool b.i)] = some (eqT a b) := by
 have e := bs_beq ha hb
 simp [eqCells, eqS, eqT, e]
mutual
def ByV : Rul.CV → Prop
 | .mk t ks => By t.b ∧ ByL ks
def ByL : List Rul.CV → Prop
 | [] => True
 | v :: r => ByV v ∧ ByL r
end
theorem byL_cons {v : Rul.CV} {r : List Rul.CV} : ByL (v :: r) ↔ ByV v ∧ ByL r := by rw [ByL]
theorem byV_eq {t : Rul.Tk4} {ks : List Rul.CV} : ByV (.mk t ks) ↔ By t.b ∧ ByL ks := by rw [ByV]
theorem byL_get : ∀ {l : List Rul.CV} {k : Nat} {v : Rul.CV}, ByL l → l[k]? = some v → ByV v
 | [], k, v, _, h => by simp at h
 | x :: l, 0, v, hb, h => by
  simp at h
  subst h
  exact (byL_cons.1 hb).1
 | x :: l, k + 1, v, hb, h => byL_get (byL_cons.1 hb).2 (by simpa using h)
theorem nodesL_ks {l : List Rul.CV} {v : Rul.CV} {k : Nat} {n : Nat} (h : l[k]? = some v) (hn : Rul.nodesL l ≤ n + 1) : Rul.nodesL v.ks ≤ n := by
 have := Rul.nodesL_mem (List.mem_of_getElem? h)
 rw [Rul.nodesV_eq] at this
 omega
theorem byL_ks {l : List Rul.CV} {v : Rul.CV} {k : Nat} (hb : ByL l) (h : l[k]? = some v) : ByL v.ks := by
 have := byL_get hb h
 cases v
 exact (byV_eq.1 this).2
abbrev NV10 (l u : List Rul.CV) (k : Int) : Env := [(0, .list .no (Rul.rowsC l)), (1, .list .no (Rul.rowsC u)), (12, .v (.int .i64 l.length)), (13, .v (.int .i64 k))]
theorem rv10 {l u : List Rul.CV} {v y : Rul.CV} {k : Nat} (hlo : lo ≤ h.length) (hl : l.length ≤ 1000000000) (hg : l[k]? = some v) (hu : u[k]? = some y) (hb : ByV v) (hc : ByV y)
  (ih : ∀ lo h, lo ≤ h.length → E lo 28 [.list .no (Rul.rowsC v.ks), .list .no (Rul.rowsC y.ks)] h = some (.v (.bool (eqL v.ks y.ks)), h)) :
  evCode ⟨Tryz.prog, E, lo, h.length, h28⟩ loopW l28x0 (NV10 l u k, h) = if eqV v y = true then some (.normal, NV10 l u (k + 1 : Nat), h) else some (.ret, [(4, .v (.bool false))], h) := by
 have hlt : k < l.length := (List.getElem?_eq_some_iff.1 hg).1
 have hgr : (Rul.rowsC l)[k]? = some (Rul.rowV v) := by rw [Rul.rowsC_get, hg]; rfl
 have hur : (Rul.rowsC u)[k]? = some (Rul.rowV y) := by rw [Rul.rowsC_get, hu]; rfl
 rw [Rul.rowV_eta] at hgr hur
 have q : decide ((k : Int) < (l.length : Int)) = true := by simp; omega
 have hw : IntKind.i64.wrap ((k : Int) + 1) = ((k + 1 : Nat) : Int) := wrap_succ (by omega)
 obtain ⟨t, ks⟩ := v
 obtain ⟨t', ks'⟩ := y
 rw [byV_eq] at hb hc
 have ct := cmp_tok hb.1 hc.1
 have iha := ih lo h hlo; have ihb := ih h.length h (Nat.le_refl _)
 rw [eqV]
 show _ = if (eqT t t' && eqL ks ks') = true then _ else _
 change E lo 28 [.list .no (Rul.rowsC ks), .list .no (Rul.rowsC ks')] h = some (.v (.bool (eqL ks ks')), h) at iha
 change E h.length 28 [.list .no (Rul.rowsC ks), .list .no (Rul.rowsC ks')] h = some (.v (.bool (eqL ks ks')), h) at ihb
 change (Rul.rowsC l)[k]? = some [.v (.int .i64 t.k), .v (.string (bs t.b)), .v (.int .i64 t.n), .v (.int .i64 t.d), .v (.bool t.w), .v (.bool t.i), .list .no (Rul.rowsC ks)] at hgr
 change (Rul.rowsC u)[k]? = some [.v (.int .i64 t'.k), .v (.string (bs t'.b)), .v (.int .i64 t'.n), .v (.int .i64 t'.d), .v (.bool t'.w), .v (.bool t'.i), .list .no (Rul.rowsC ks')] at hur
 cases he : eqT t t' with
 | false =>
  rw [he] at ct
  rw [Bool.false_and, if_neg (by simp)]
  simp only [go_sem, l28x0, b28, Tryz.f28, hlo, q, hgr, hur, hw, fl_tok, ct, Rul.rowsC_len]
  all_goals rfl
 | true =>
  rw [he] at ct
  rw [Bool.true_and]
  cases hk : eqL ks ks' with
  | false =>
   rw [hk] at iha ihb
   rw [if_neg (by simp)]
   simp only [go_sem, l28x0, b28, Tryz.f28, hlo, q, hgr, hur, hw, fl_tok, ct, iha, ihb, Rul.rowsC_len]
   all_goals rfl
  | true =>
   rw [hk] at iha ihb
   rw [if_pos rfl]
   simp only [go_sem, l28x0, b28, Tryz.f28, hlo, q, hgr, hur, hw, fl_tok, ct, iha, ihb, Rul.rowsC_len]
   all_goals rfl
theorem sv10 {l u : List Rul.CV} (hlo : lo ≤ h.length) : evCode ⟨Tryz.prog, E, lo, h.length, h28⟩ loopW l28x0 (NV10 l u l.length, h) =
   some (.exit 0, NV10 l u l.length ++ [(14, .v (.bool false))], h) := by
 have q : decide ((l.length : Int) < (l.length : Int)) = false := by simp
 simp only [go_sem, l28x0, b28, Tryz.f28, hlo, q]
 all_goals rfl
theorem lv10 {l u : List Rul.CV} (hlo : lo ≤ h.length) (hl : l.length ≤ 1000000000) (hlu : l.length = u.length) (hb : ByL l) (hc : ByL u)
  (ih : ∀ (k : Nat) v y, l[k]? = some v → u[k]? = some y → ∀ lo h, lo ≤ h.length → E lo 28 [.list .no (Rul.rowsC v.ks), .list .no (Rul.rowsC y.ks)] h = some (.v (.bool (eqL v.ks y.ks)), h)) : ∀ (m k : Nat), k + m = l.length →
  if eqL (l.drop k) (u.drop k) = true then
   loopW (evCode ⟨Tryz.prog, E, lo, h.length, h28⟩ loopW l28x0) (NV10 l u k, h) = some (.exit 0, NV10 l u l.length ++ [(14, .v (.bool false))], h)
  else loopW (evCode ⟨Tryz.prog, E, lo, h.length, h28⟩ loopW l28x0) (NV10 l u k, h) = some (.ret, [(4, .v (.bool false))], h) := by
 intro m
 induction m with
 | zero =>
  intro k hk
  obtain rfl : k = l.length := by omega
  have e : u.drop l.length = [] := List.drop_eq_nil_of_le (by omega)
  rw [List.drop_length, e, if_pos eqL_nil, loop_eq, sv10 hlo, loop_e]
 | succ m ihm =>
  intro k hk
  have hlt : k < l.length := by omega
  have hg : l[k]? = some l[k] := List.getElem?_eq_getElem hlt
  have hu : u[k]? = some (u[k]'(by omega)) := List.getElem?_eq_getElem (by omega)
  have hr := rv10 (lo := lo) (h := h) hlo hl hg hu (byL_get hb hg) (byL_get hc hu) (ih k _ _ hg hu)
  rw [List.drop_eq_getElem_cons hlt, List.drop_eq_getElem_cons (show k < u.length by omega), eqL_cons]
  cases hm : eqV l[k] (u[k]'(by omega)) with
  | false =>
   rw [hm, if_neg (by simp)] at hr
   rw [Bool.false_and, if_neg (by simp), loop_eq, hr, loop_r]
  | true =>
   rw [hm, if_pos rfl] at hr
   rw [Bool.true_and, loop_eq, hr, loop_n]
   exact ihm (k + 1) (by omega)
theorem f28 : ∀ (n : Nat) (l u : List Rul.CV) (lo : Nat) (h : Heap), Rul.nodesL l ≤ n → n ≤ 100000000 → Rul.nodesL u ≤ 100000000 → ByL l → ByL u → lo ≤ h.length →
  E lo 28 [.list .no (Rul.rowsC l), .list .no (Rul.rowsC u)] h = some (.v (.bool (eqL l u)), h) := by
 intro n
 induction n with
 | zero =>
  intro l u lo h hn hN hu hb hc hlo
  have hz : l = [] := by
   cases l with
   | nil => rfl
   | cons v r => rw [Rul.nodesL_cons, Rul.nodesV_eq] at hn; omega
  subst hz
  have hlu := Rul.nodesL_len u
  have n0 : ((0 : Nat) : Int) = 0 := rfl
  rw [e28 (by simp) (by rfl)]
  cases u with
  | nil =>
   have hL := lv10 (lo := lo) (h := h) (l := []) (u := []) hlo (by simp) rfl hb hc (fun k v y hv => by simp at hv) 0 0 rfl
   rw [List.drop_zero, if_pos eqL_nil] at hL
   rw [eqL_nil]
   simp only [l28x0, b28, Tryz.f28, loopAt, loops, bodyOf, go_sem, NV10, n0, List.cons_append, List.nil_append, List.length_nil] at hL
   have q : ((0 : Int) != 0) = false := rfl
   simp only [go_sem, b28, Tryz.f28, hlo, hL, Rul.rowsC_len, n0, List.length_nil, q, Int.reduceBNe]
   all_goals rfl
  | cons y r =>
   rw [eqL_len (by simp)]
   have q : ((0 : Int) != ((r.length + 1 : Nat) : Int)) = true := by simp; omega
   simp only [go_sem, b28, Tryz.f28, hlo, Rul.rowsC_len, n0, List.length_nil, q]
   all_goals rfl
 | succ n ihn =>
  intro l u lo h hn hN hu hb hc hlo
  have hll := Rul.nodesL_len l
  have hlu := Rul.nodesL_len u
  have n0 : ((0 : Nat) : Int) = 0 := rfl
  rw [e28 (by simp) (by rfl)]
  by_cases hq : l.length = u.length
  ·have q : ((l.length : Int) != (u.length : Int)) = false := by simp [hq]
   have hL := lv10 (lo := lo) (h := h) (l := l) (u := u) hlo (by omega) hq hb hc (fun k v y hv hy lo h hlo => by
    have h1 := nodesL_ks hv hn
    have h2 := nodesL_ks (n := 100000000) hy (by omega)
    exact ihn v.ks y.ks lo h h1 (by omega) h2 (byL_ks hb hv) (byL_ks hc hy) hlo) l.length 0 (by omega)
   rw [List.drop_zero, List.drop_zero] at hL
   cases hm : eqL l u with
   | false =>
    rw [hm, if_neg (by simp)] at hL
    simp only [l28x0, b28, Tryz.f28, loopAt, loops, bodyOf, go_sem, NV10, n0] at hL
    simp only [go_sem, b28, Tryz.f28, hlo, hL, Rul.rowsC_len, n0, q]
    all_goals rfl
   | true =>
    rw [hm, if_pos rfl] at hL
    simp only [l28x0, b28, Tryz.f28, loopAt, loops, bodyOf, go_sem, NV10, n0, List.cons_append, List.nil_append] at hL
    simp only [go_sem, b28, Tryz.f28, hlo, hL, Rul.rowsC_len, n0, q]
    all_goals rfl
  ·have q : ((l.length : Int) != (u.length : Int)) = true := by simp; omega
   rw [eqL_len hq]
   simp only [go_sem, b28, Tryz.f28, hlo, Rul.rowsC_len, n0, q]
   all_goals rfl
end Go.Lift.P8
end

section
namespace Go.Lift.Rul
end Go.Lift.Rul
namespace Go.Lift.Utf
end Go.Lift.Utf
namespace Go.Proofs
end Go.Proofs
open Go.Proofs
namespace Go.Lift.P8
open Rul
open Utf (By)
variable [MX]
set_option maxRecDepth 20000
set_option maxHeartbeats 4000000
variable {lo : Nat} {h : Heap}
abbrev ob77 : Ob := .cells [.v (.string ByteArray.empty), .list .yes [], .v (.bool false)]
theorem nodesL_imp (l : List CV) : nodesL (impOf l).1 ≤ nodesL l := by
 unfold impOf
 split
 ·rename_i x y r e
  split
  ·split
   ·rename_i z s e2
    split
    ·show nodesL (trim s.reverse) ≤ _
     have h1 := nodesL_trim s.reverse
     rw [nodesL_rev] at h1
     have h2 : nodesL (z :: s) ≤ nodesL (y :: r) := by rw [← e2]; exact nodesL_suffix (List.dropWhile_suffix _)
     rw [nodesL_cons] at h2
     have h3 : nodesL l = nodesL (x :: y :: r) := by rw [← e, nodesL_rev]
     rw [nodesL_cons] at h3
     omega
    ·exact Nat.le_refl _
   ·exact Nat.le_refl _
  ·exact Nat.le_refl _
 ·exact Nat.le_refl _
theorem imp_snoc (u : List CV) (x : CV) (hu : u ≠ []) : impOf (u ++ [x]) = if (x.k == 1 && small x.t.b == important) = true then (match u.reverse.dropWhile spaceC with
  | z :: s => if (z.k == 9 && z.t.b == [33]) = true then (trim s.reverse, true) else (u ++ [x], false)
  | [] => (u ++ [x], false)) else (u ++ [x], false) := by
 unfold impOf
 have e : (u ++ [x]).reverse = x :: u.reverse := by simp
 obtain ⟨y, r, hr⟩ : ∃ y r, u.reverse = y :: r := by
  cases hh : u.reverse with
  | nil => exact absurd (List.reverse_eq_nil_iff.1 hh) hu
  | cons y r => exact ⟨y, r, rfl⟩
 rw [e, hr]
 rfl
theorem ltrim_front {u m : List CV} (h : ltrim (u ++ m) = u ++ m) : ltrim u = u := by
 cases u with
 | nil => rfl
 | cons a u =>
  have ha : spaceC a = false := by
   cases hs : spaceC a with
   | false => rfl
   | true =>
    exfalso
    unfold ltrim at h
    rw [List.cons_append, List.dropWhile_cons, hs, if_pos rfl] at h
    have := (List.dropWhile_suffix (p := spaceC) (l := u ++ m)).length_le
    rw [h] at this
    simp at this
    omega
  unfold ltrim
  rw [List.dropWhile_cons, ha]
  rfl
theorem ltrim_trim (l : List CV) : ltrim (trim l) = trim l := by rw [trim_eq, ltrim_rtrim, ltrim_ltrim]
def BtV (v : CV) : Prop := BtT v.t
end Go.Lift.P8
end

section
namespace Go.Lift.Rul
end Go.Lift.Rul
namespace Go.Lift.Utf
end Go.Lift.Utf
namespace Go.Proofs
end Go.Proofs
open Go.Proofs
namespace Go.Lift.P8
open Rul
open Utf (By)
variable [MX]
set_option maxRecDepth 20000
set_option maxHeartbeats 4000000
variable {lo : Nat} {h : Heap}
theorem TX.look {H : Heap} {l : List Tk4} {E' D : List Nat} {t : Nat} (h : TX H l E' D t) : ∃ e d, (∀ Q : Heap, (H ++ Q)[e]? = some (.cells (nt E'))) ∧ (∀ Q : Heap, (H ++ Q)[d]? = some (.cells (nt D))) ∧ ∀ Q : Heap, (H ++ Q)[t]? = some (.cells [.list .no (l.map row), .stk e l.length 1, .stk d l.length 1]) := by
 obtain ⟨e, d, h1, h2, h3⟩ := h
 have k : ∀ {i : Nat} {x : Ob}, H[i]? = some x → ∀ Q : Heap, (H ++ Q)[i]? = some x := fun hx Q => by
  rw [List.getElem?_append_left (List.getElem?_eq_some_iff.1 hx).1]; exact hx
 exact ⟨e, d, k h1, k h2, k h3⟩
theorem name76 {n : List Int} {t a q : Nat} (hlo : lo ≤ h.length) (hy : By n) (hl : n.length ≤ 1000000000) :
  ∃ b, evCode ⟨Tryz.prog, E, lo, h.length, h76⟩ loopW (lft (rgt 2 b76)) ([(0, .ptr t 0), (1, .v (.int .i64 a)), (2, .v (.int .i64 q)), (6, .ptr h.length 0), (8, .ptr (h.length + 1) 0)], h ++ [ob77, .cells [.v (.string (Rul.bs n)), .list .yes [], .v (.bool false)]]) =
   some (.normal, [(0, .ptr t 0), (1, .v (.int .i64 a)), (2, .v (.int .i64 q)), (6, .ptr h.length 0), (8, .ptr (h.length + 1) 0), (26, .v (.bool b))], h ++ [ob77, .cells [.v (.string (Rul.bs (nameOf n))), .list .yes [], .v (.bool false)]]) := by
 have l1 : lo ≤ h.length + 1 := by omega
 have c97 := f97r (lo := lo) (h := h ++ [ob77, .cells [.v (.string (Rul.bs n)), .list .yes [], .v (.bool false)]]) hy hl
 have c65 := f65 (lo := lo) (h := h ++ [ob77, .cells [.v (.string (Rul.bs n)), .list .yes [], .v (.bool false)]]) (l := n) (by simp; omega) (by omega) hy
 have c65 : E lo 65 [.v (.string (Rul.bs n))] (h ++ [ob77, .cells [.v (.string (Rul.bs n)), .list .yes [], .v (.bool false)]]) = some (.v (.string (Rul.bs (small n))), h ++ [ob77, .cells [.v (.string (Rul.bs n)), .list .yes [], .v (.bool false)]]) := c65
 unfold nameOf
 simp only [ob77] at c97 c65
 cases hp : [45, 45].isPrefixOf n with
 | true =>
  rw [hp] at c97
  rw [if_pos rfl]
  refine ⟨false, ?_⟩
  simp only [go_sem, ob77, lft, rgt, b76, Tryz.f76, hlo, l1, k_dashes, c97]
  all_goals rfl
 | false =>
  rw [hp] at c97
  rw [if_neg (by simp)]
  refine ⟨true, ?_⟩
  simp only [go_sem, ob77, lft, rgt, b76, Tryz.f76, hlo, l1, k_dashes, c97, c65]
  all_goals rfl
abbrev N76 (h : Heap) (t q a : Nat) : Env := [(0, .ptr t 0), (2, .v (.int .i64 q)), (6, .ptr h.length 0), (8, .ptr (h.length + 1) 0), (9, .v (.int .i64 a))]
theorem round76a {l : List Tk4} {E' D : List Nat} {t q a : Nat} {x : Tk4} {X Y : Ob} (hT : TX h l E' D t) (hlo : lo ≤ h.length) (hl : l.length ≤ 1000000000) (hg : l[a]? = some x) (haq : a < q) :
  evCode ⟨Tryz.prog, E, lo, h.length, h76⟩ loopW l76x0 (N76 h t q a, h ++ [X, Y]) =
   if (x.k == 13) = true then some (.normal, N76 h t q (a + 1), h ++ [X, Y]) else some (.exit 0, N76 h t q a ++ [(46, .v (.bool false))], h ++ [X, Y]) := by
 obtain ⟨e, d, h1, h2, h3⟩ := hT.look
 have hgr : (l.map row)[a]? = some (row x) := by rw [List.getElem?_map, hg]; rfl
 have ha : a < l.length := (List.getElem?_eq_some_iff.1 hg).1
 have q1 : decide ((a : Int) < (q : Int)) = true := by simpa using haq
 have hw : IntKind.i64.wrap ((a : Int) + 1) = ((a + 1 : Nat) : Int) := wrap_succ (by omega)
 simp only [row] at hgr
 cases hk : (x.k == 13) with
 | true =>
  rw [if_pos rfl]
  simp only [N76, go_sem, l76x0, b76, Tryz.f76, hlo, h3, hgr, q1, hk, hw]
  all_goals rfl
 | false =>
  rw [if_neg (by simp)]
  simp only [N76, go_sem, l76x0, b76, Tryz.f76, hlo, h3, hgr, q1, hk, hw]
  all_goals rfl
theorem stop76a {t q : Nat} {X Y : Ob} (hlo : lo ≤ h.length) : evCode ⟨Tryz.prog, E, lo, h.length, h76⟩ loopW l76x0 (N76 h t q q, h ++ [X, Y]) = some (.exit 0, N76 h t q q ++ [(46, .v (.bool false))], h ++ [X, Y]) := by
 have q1 : decide ((q : Int) < (q : Int)) = false := by simp
 simp only [N76, go_sem, l76x0, b76, Tryz.f76, hlo, q1]
 all_goals rfl
def spT (v : PV) : Bool := v.t.k == 13
theorem sp_one {x : Option Int} {b : Bool} {v : PV} (hg : goodV x b v) (h : spT v = true) : (toksV v).length = 1 := by
 cases v with
 | leaf t => rw [toksV]; rfl
 | node t ks c =>
  have hk : t.k = 13 := by simpa [spT, PV.t] using h
  have hc : closer t.k ≠ 0 := by
   cases c with
   | none => exact (goodV_none.1 hg).1
   | some e => exact (goodV_some.1 hg).1
  rw [hk] at hc
  exact absurd rfl hc
theorem loop76a {l : List Tk4} {E' D : List Nat} {t q : Nat} {X Y : Ob} (hT : TX h l E' D t) (hlo : lo ≤ h.length) (hl : l.length ≤ 1000000000) : ∀ (G : List PV) (a : Nat), LaidAt l E' D a q G →
  loopW (evCode ⟨Tryz.prog, E, lo, h.length, h76⟩ loopW l76x0) (N76 h t q a, h ++ [X, Y]) = some (.exit 0, N76 h t q (a + (toksL (G.takeWhile spT)).length) ++ [(46, .v (.bool false))], h ++ [X, Y])
 | [], a, hA => by
  obtain rfl := hA.nil
  rw [loop_eq, stop76a hlo, loop_e, List.takeWhile_nil, toksL]
  rfl
 | v :: r, a, hA => by
  rw [loop_eq, round76a hT hlo hl hA.head hA.lt, List.takeWhile_cons]
  obtain ⟨y, b, hg⟩ := hA.good
  have hgv := (goodL_cons.1 hg).1
  cases hs : spT v with
  | true =>
   have hs' : (v.t.k == 13) = true := hs
   have h1 := sp_one hgv hs
   have hA2 := hA.tail
   rw [h1] at hA2
   rw [hs', if_pos rfl, loop_n, loop76a hT hlo hl r _ hA2, if_pos rfl, toksL_cons, List.length_append, h1, Nat.add_assoc]
  | false =>
   have hs' : (v.t.k == 13) = false := hs
   rw [hs', if_neg (by simp), loop_e, if_neg (by simp), toksL]
   rfl
abbrev M76 (h : Heap) (k : Nat) : Env := [(6, .ptr h.length 0), (8, .ptr (h.length + 1) 0), (13, .v (.int .i64 k))]
abbrev D76 (n : List Int) (R : List (List V)) (i : Bool) : Ob := .cells [.v (.string (Rul.bs n)), .list .no R, .v (.bool i)]
theorem round76b {n : List Int} {v : List CV} {y : CV} {k : Nat} (hlo : lo ≤ h.length) (hl : v.length ≤ 1000000000) (hg : v[k + 1]? = some y) :
  evCode ⟨Tryz.prog, E, lo, h.length, h76⟩ loopW l76x1 (M76 h (k + 1), h ++ [ob77, D76 n (rowsC v) false]) =
   if spaceC y = true then some (.normal, M76 h k, h ++ [ob77, D76 n (rowsC v) false]) else some (.exit 2, M76 h (k + 1) ++ [(119, .v (.bool false))], h ++ [ob77, D76 n (rowsC v) false]) := by
 have hlt : k + 1 < v.length := (List.getElem?_eq_some_iff.1 hg).1
 have hgr : (rowsC v)[k + 1]? = some (rowV y) := by rw [rowsC_get, hg]; rfl
 have c78 := f78 (lo := lo) (h := h ++ [ob77, D76 n (rowsC v) false]) (by simp; omega) y
 have q1 : decide ((0 : Int) < ((k + 1 : Nat) : Int)) = true := by rw [decide_eq_true_iff]; omega
 have w1 : IntKind.i64.wrap (((k + 1 : Nat) : Int) - 1) = (k : Int) := by rw [wrap_i64 (by omega) (by omega)]; omega
 obtain ⟨t, ks⟩ := y
 rw [rowV_eq] at hgr c78
 simp only [D76, ob77] at c78 ⊢
 generalize rowsC v = R at *
 cases hs : spaceC (.mk t ks) with
 | true =>
  rw [hs] at c78
  rw [if_pos rfl]
  simp only [M76, go_sem, l76x1, b76, Tryz.f76, hlo, hgr, q1, w1, c78]
  all_goals rfl
 | false =>
  rw [hs] at c78
  rw [if_neg (by simp)]
  simp only [M76, go_sem, l76x1, b76, Tryz.f76, hlo, hgr, q1, w1, c78]
  all_goals rfl
theorem stop76b {X Y : Ob} (hlo : lo ≤ h.length) : evCode ⟨Tryz.prog, E, lo, h.length, h76⟩ loopW l76x1 (M76 h 0, h ++ [X, Y]) = some (.exit 2, M76 h 0 ++ [(119, .v (.bool false))], h ++ [X, Y]) := by
 have q1 : decide ((0 : Int) < ((0 : Nat) : Int)) = false := rfl
 simp only [M76, go_sem, l76x1, b76, Tryz.f76, hlo, q1]
 all_goals rfl
theorem loop76b {n : List Int} {v : List CV} (hlo : lo ≤ h.length) (hl : v.length ≤ 1000000000) {a : CV} (ha : v[0]? = some a) (hs : spaceC a = false) : ∀ k, k < v.length → ∃ z s, (v.take (k + 1)).reverse.dropWhile spaceC = z :: s ∧
  loopW (evCode ⟨Tryz.prog, E, lo, h.length, h76⟩ loopW l76x1) (M76 h k, h ++ [ob77, D76 n (rowsC v) false]) = some (.exit 2, M76 h s.length ++ [(119, .v (.bool false))], h ++ [ob77, D76 n (rowsC v) false])
 | 0, hk => by
  have e : v.take 1 = [a] := by
   cases v with
   | nil => simp at ha
   | cons x r => simp at ha; subst ha; rfl
  refine ⟨a, [], ?_, ?_⟩
  ·rw [e, List.reverse_singleton, List.dropWhile_cons, hs]; rfl
  ·rw [loop_eq, stop76b hlo, loop_e]; rfl
 | k + 1, hk => by
  have hg : v[k + 1]? = some v[k + 1] := List.getElem?_eq_getElem hk
  have et : v.take (k + 1 + 1) = v.take (k + 1) ++ [v[k + 1]] := List.take_succ_eq_append_getElem hk
  have hr := round76b (n := n) hlo hl hg
  rw [et, List.reverse_append, List.reverse_singleton, List.singleton_append, List.dropWhile_cons]
  cases hy : spaceC v[k + 1] with
  | true =>
   rw [hy, if_pos rfl] at hr
   obtain ⟨z, s, h1, h2⟩ := loop76b (n := n) hlo hl ha hs k (by omega)
   refine ⟨z, s, ?_, ?_⟩
   ·rw [if_pos rfl]; exact h1
   ·rw [loop_eq, hr, loop_n, h2]
  | false =>
   rw [hy, if_neg (by simp)] at hr
   refine ⟨v[k + 1], (v.take (k + 1)).reverse, ?_, ?_⟩
   ·rw [if_neg (by simp)]
   ·have hlen : (v.take (k + 1)).reverse.length = k + 1 := by rw [List.length_reverse, List.length_take]; omega
    rw [hlen, loop_eq, hr, loop_e]
theorem imp76 {n : List Int} {v : List CV} (hlo : lo ≤ h.length) (hb : ∀ x ∈ v, BtV x) (hl : v.length ≤ 1000000000) (ht : ltrim v = v) :
  ∃ ex, evCode ⟨Tryz.prog, E, lo, h.length, h76⟩ loopW (lft (rgt 8 b76)) ([(6, .ptr h.length 0), (8, .ptr (h.length + 1) 0)], h ++ [ob77, D76 n (rowsC v) false]) =
   some (.normal, (6, .ptr h.length 0) :: (8, .ptr (h.length + 1) 0) :: ex, h ++ [ob77, D76 n (rowsC (impOf v).1) (impOf v).2]) := by
 have l1 : lo ≤ h.length + 1 := by omega
 have hlh : ∀ X : Ob, lo ≤ (h ++ [ob77, X]).length := fun X => by simp; omega
 rcases List.eq_nil_or_concat v with rfl | ⟨u, x, rfl⟩
 ·have w0 : IntKind.i64.wrap (((0 : Nat) : Int) - 1) = -1 := by rw [wrap_i64 (by omega) (by omega)]; rfl
  have q : decide ((1 : Int) ≤ -1) = false := rfl
  have ei : impOf [] = ([], false) := rfl
  rw [ei]
  refine ⟨[(12, .v (.int .i64 (-1))), (107, .v (.bool false))], ?_⟩
  have w00 : IntKind.i64.wrap ((0 : Int) - 1) = -1 := w0
  simp only [go_sem, ob77, D76, lft, rgt, b76, Tryz.f76, hlo, l1, w0, w00, q, rowsC_nil, List.length_nil]
  all_goals rfl
 ·simp only [List.concat_eq_append] at *
  have hlen : (u ++ [x]).length = u.length + 1 := by simp
  have rl : (rowsC (u ++ [x])).length = u.length + 1 := by rw [rowsC_len, hlen]
  have w1 : IntKind.i64.wrap (((u.length + 1 : Nat) : Int) - 1) = (u.length : Int) := by rw [wrap_i64 (by omega) (by omega)]; omega
  by_cases hu : u = []
  ·subst hu
   have q : decide ((1 : Int) ≤ ((0 : Nat) : Int)) = false := rfl
   have ei : impOf ([] ++ [x]) = ([x], false) := rfl
   rw [ei]
   simp only [List.nil_append, List.length_nil, Nat.zero_add] at rl w1 ⊢
   refine ⟨[(12, .v (.int .i64 ((0 : Nat) : Int))), (107, .v (.bool false))], ?_⟩
   generalize rowsC [x] = R at *
   have n0 : ((0 : Nat) : Int) = 0 := rfl
   simp only [go_sem, ob77, D76, lft, rgt, b76, Tryz.f76, hlo, l1, w1, q, rl]
   all_goals rfl
  ·have hup : 0 < u.length := List.length_pos_iff.2 hu
   have q : decide ((1 : Int) ≤ (u.length : Int)) = true := by rw [decide_eq_true_iff]; omega
   have hg : (rowsC (u ++ [x]))[u.length]? = some (rowV x) := by rw [rowsC_get]; simp
   have ra := rowsC_all (u ++ [x])
   have hbx := hb x (by simp)
   have htu := ltrim_front ht
   have ei := imp_snoc u x hu
   have hum : ∀ y ∈ u, BtV y := fun y hy => hb y (by simp [hy])
   have w2 : IntKind.i64.wrap ((u.length : Int) - 1) = ((u.length - 1 : Nat) : Int) := by rw [wrap_i64 (by omega) (by omega)]; omega
   obtain ⟨a, ha, hsa⟩ : ∃ a, (u ++ [x])[0]? = some a ∧ spaceC a = false := by
    cases hu' : u with
    | nil => exact absurd hu' hu
    | cons a r =>
     refine ⟨a, rfl, ?_⟩
     rw [hu'] at htu
     cases hs : spaceC a with
     | false => rfl
     | true =>
      exfalso
      unfold ltrim at htu
      rw [List.dropWhile_cons, hs, if_pos rfl] at htu
      have := (List.dropWhile_suffix (p := spaceC) (l := r)).length_le
      rw [htu] at this
      simp at this
      omega
   obtain ⟨z, s, hz, hL⟩ := loop76b (lo := lo) (h := h) (n := n) (v := u ++ [x]) hlo hl ha hsa (u.length - 1) (by rw [hlen]; omega)
   have etk : (u ++ [x]).take (u.length - 1 + 1) = u := List.take_left' (by omega)
   rw [etk] at hz
   have hzm : z ∈ u := by
    have : z ∈ u.reverse := (List.dropWhile_suffix spaceC).subset (by rw [hz]; simp)
    simpa using this
   have hbz := hum z hzm
   obtain ⟨p, hp⟩ : ∃ p, u.reverse = p ++ z :: s := by
    have := List.dropWhile_suffix (p := spaceC) (l := u.reverse)
    rw [hz] at this
    obtain ⟨p, hp⟩ := this
    exact ⟨p, hp.symm⟩
   have eu : u = s.reverse ++ (z :: p.reverse) := by
    have := congrArg List.reverse hp
    rw [List.reverse_reverse, List.reverse_append, List.reverse_cons] at this
    rw [this]; simp
   have hsl : s.length ≤ u.length := by rw [eu]; simp
   have hg2 : (rowsC (u ++ [x]))[s.length]? = some (rowV z) := by
    rw [rowsC_get, eu]
    have : (s.reverse ++ z :: p.reverse ++ [x])[s.length]? = some z := by
     rw [List.append_assoc, List.getElem?_append_right (by simp)]
     simp
    rw [this]; rfl
   have htk2 : (rowsC (u ++ [x])).take s.length = rowsC s.reverse := by
    rw [rowsC_take, eu, List.append_assoc, List.take_left' (by simp)]
   have hsl2 : s.length ≤ u.length + 1 := by omega
   have hL2 := hL
   simp only [l76x1, b76, Tryz.f76, loopAt, loops, bodyOf, go_sem, M76, D76, ob77, List.cons_append, List.nil_append] at hL2
   have c56 := fun X => f56 (lo := lo) (h := h ++ [ob77, .cells X]) (l := s.reverse) (hlh _) (by rw [List.length_reverse]; rw [hlen] at hl; omega)
   obtain ⟨t, ks⟩ := x
   obtain ⟨tz, kz⟩ := z
   rw [rowV_eq] at hg hg2
   have hbe := rbs_beq hbz.1 by_bang
   have hbe : ((Rul.bs tz.b).toList == (Rul.bs [33]).toList) = (tz.b == [33]) := hbe
   have hbi := rbs_beq (by_small hbx.1) by_important
   have hbi : ((Rul.bs (small t.b)).toList == (Rul.bs important).toList) = (small t.b == important) := hbi
   have c65 := fun X => f65 (lo := lo) (h := h ++ [ob77, .cells X]) (l := t.b) (hlh _) (by have := hbx.2; show t.b.length ≤ _; exact Nat.le_trans this (by decide)) hbx.1
   have c65 : ∀ X, E lo 65 [.v (.string (Rul.bs t.b))] (h ++ [ob77, .cells X]) = some (.v (.string (Rul.bs (small t.b))), h ++ [ob77, .cells X]) := c65
   have ei : impOf (u ++ [CV.mk t ks]) = if (t.k == 1 && small t.b == important) = true then (match u.reverse.dropWhile spaceC with
     | z :: s => if (z.k == 9 && z.t.b == [33]) = true then (trim s.reverse, true) else (u ++ [CV.mk t ks], false)
     | [] => (u ++ [CV.mk t ks], false)) else (u ++ [CV.mk t ks], false) := ei
   rw [hz] at ei
   have ei : impOf (u ++ [CV.mk t ks]) = if (t.k == 1 && small t.b == important) = true then (if (tz.k == 9 && tz.b == [33]) = true then (trim s.reverse, true) else (u ++ [CV.mk t ks], false)) else (u ++ [CV.mk t ks], false) := ei
   simp only [ob77] at c56 c65
   generalize hR : rowsC (u ++ [CV.mk t ks]) = R at *
   cases hk : (t.k == 1) with
   | false =>
    rw [hk, Bool.false_and, if_neg (by simp)] at ei
    rw [ei]
    simp only [hR]
    refine ⟨[(12, .v (.int .i64 u.length)), (107, .v (.bool false))], ?_⟩
    simp only [go_sem, ob77, D76, lft, rgt, b76, Tryz.f76, hlo, l1, q, w1, rl, hg, hk]
    all_goals rfl
   | true =>
    rw [hk, Bool.true_and] at ei
    cases hi : (small t.b == important) with
    | false =>
     rw [hi] at hbi
     rw [hi, if_neg (by simp)] at ei
     rw [ei]
     simp only [hR]
     refine ⟨[(12, .v (.int .i64 u.length)), (107, .v (.bool false))], ?_⟩
     simp only [go_sem, ob77, D76, lft, rgt, b76, Tryz.f76, hlo, l1, q, w1, rl, hg, hk, k_important, c65, hbi]
     all_goals rfl
    | true =>
     rw [hi] at hbi
     rw [hi, if_pos rfl] at ei
     cases hk9 : (tz.k == 9) with
     | false =>
      rw [hk9, Bool.false_and, if_neg (by simp)] at ei
      rw [ei]
      simp only [hR]
      refine ⟨[(13, .v (.int .i64 s.length)), (139, .v (.bool false))], ?_⟩
      simp only [go_sem, ob77, D76, lft, rgt, b76, Tryz.f76, hlo, l1, q, w1, w2, rl, hg, hg2, hk, hk9, k_important, c65, hbi, hL2]
      all_goals rfl
     | true =>
      rw [hk9, Bool.true_and] at ei
      cases hb33 : (tz.b == [33]) with
      | false =>
       rw [hb33] at hbe
       rw [hb33, if_neg (by simp)] at ei
       rw [ei]
       simp only [hR]
       refine ⟨[(13, .v (.int .i64 s.length)), (139, .v (.bool false))], ?_⟩
       simp only [go_sem, ob77, D76, lft, rgt, b76, Tryz.f76, hlo, l1, q, w1, w2, rl, hg, hg2, hk, hk9, k_important, k_bang, hbe, c65, hbi, hL2]
       all_goals rfl
      | true =>
       rw [hb33] at hbe
       rw [hb33, if_pos rfl] at ei
       rw [ei]
       simp only
       refine ⟨[(12, .undef), (107, .undef)], ?_⟩
       simp only [go_sem, ob77, D76, lft, rgt, b76, Tryz.f76, hlo, l1, q, w1, w2, rl, hg, hg2, hk, hk9, k_important, k_bang, hbe, c65, hbi, hL2, htk2, ra, hsl2, Nat.zero_le, c56]
       all_goals rfl
end Go.Lift.P8
end

section
namespace Go.Lift.Rul
end Go.Lift.Rul
namespace Go.Lift.Utf
end Go.Lift.Utf
namespace Go.Proofs
end Go.Proofs
open Go.Proofs
namespace Go.Lift.P8
open Rul
open Utf (By)
variable [MX]
set_option maxRecDepth 20000
set_option maxHeartbeats 4000000
variable {lo : Nat} {h : Heap}
theorem spT_cv (v : PV) : spT v = spaceC (cvV v) := by
 unfold spT spaceC
 rw [cv_k]
theorem cvL_map (G : List PV) : cvL G = G.map cvV := by
 induction G with
 | nil => rw [cvL]; rfl
 | cons v r ih => rw [cvL, ih]; rfl
theorem cvL_drop (f : PV → Bool) (g : CV → Bool) (hfg : ∀ v, f v = g (cvV v)) : ∀ G : List PV, cvL (G.dropWhile f) = (cvL G).dropWhile g
 | [] => by rw [List.dropWhile_nil, cvL]; rfl
 | v :: r => by
  rw [cvL, List.dropWhile_cons, List.dropWhile_cons, ← hfg]
  split
  ·exact cvL_drop f g hfg r
  ·rw [cvL]
theorem cvL_take (f : PV → Bool) (g : CV → Bool) (hfg : ∀ v, f v = g (cvV v)) : ∀ G : List PV, cvL (G.takeWhile f) = (cvL G).takeWhile g
 | [] => by rw [List.takeWhile_nil, cvL]; rfl
 | v :: r => by
  rw [cvL, List.takeWhile_cons, List.takeWhile_cons, ← hfg]
  split
  ·rw [cvL, cvL_take f g hfg r]
  ·rw [cvL]
theorem noHit_nil : noHit [] = fun _ => true := by funext v; rfl
theorem take_all {α : Type} (l : List α) : l.takeWhile (fun _ => true) = l := by
 induction l with
 | nil => rfl
 | cons a l ih => rw [List.takeWhile_cons, if_pos rfl, ih]
theorem f76 {l : List Tk4} {E' D : List Nat} {t p q : Nat} {v : PV} {F : List PV} (hT : TX h l E' D t) (hlo : lo ≤ h.length) (hE : E'.length = l.length) (hD : D.length = l.length) (hl : l.length ≤ 1000000000) (hb : ∀ p, E'.getD p 0 ≤ l.length) (hA : LaidAt l E' D p q (v :: F)) (hk : v.t.k = 1) (hB : ∀ y ∈ cvL (v :: F), BtV y) (hn : nodesL (cvL (v :: F)) ≤ 1000000000) :
  E lo 76 [.ptr t 0, .v (.int .i64 p), .v (.int .i64 q)] h = some (dcR (decl (cvL (v :: F))), h) := by
 have l1 : lo ≤ h.length + 1 := by omega
 have hhd := hA.head
 have hp : p < l.length := (List.getElem?_eq_some_iff.1 hhd).1
 have hA1 := hA.tail
 obtain ⟨x0, b0, hg0⟩ := hA.good
 have hgv := (goodL_cons.1 hg0).1
 have hone : (toksV v).length = 1 := by
  cases v with
  | leaf t => rw [toksV]; rfl
  | node t ks c =>
   have hk' : t.k = 1 := hk
   have hc : closer t.k ≠ 0 := by
    cases c with
    | none => exact (goodV_none.1 hgv).1
    | some e => exact (goodV_some.1 hgv).1
   rw [hk'] at hc
   exact absurd rfl hc
 rw [hone] at hA1
 rw [cvL, nodesL_cons] at hn
 rw [cvL] at hB ⊢
 have hBv : BtT v.t := by have := hB (cvV v) (by simp); unfold BtV at this; rw [cv_t] at this; exact this
 have hBF : ∀ y ∈ cvL F, BtV y := fun y hy => hB y (by simp [hy])
 have hgr : (l.map row)[p]? = some (row v.t) := by rw [List.getElem?_map, hhd]; rfl
 have hw : IntKind.i64.wrap ((p : Int) + 1) = ((p + 1 : Nat) : Int) := wrap_succ (by omega)
 obtain ⟨e, d, t1, t2, t3⟩ := hT.look
 have t30 := t3 []
 rw [List.append_nil] at t30
 obtain ⟨bn, hN⟩ := name76 (lo := lo) (h := h) (n := v.t.b) (t := t) (a := p) (q := q) hlo hBv.1 hBv.2
 have hL := loop76a (X := ob77) (Y := .cells [.v (.string (Rul.bs (nameOf v.t.b))), .list .yes [], .v (.bool false)]) hT hlo hl F (p + 1) hA1
 have hC := hA1.cut spT
 have hdF : cvL (F.dropWhile spT) = ltrim (cvL F) := cvL_drop spT spaceC spT_cv F
 generalize p + 1 + (toksL (F.takeWhile spT)).length = a at *
 generalize F.dropWhile spT = G at *
 have ed : decl (cvV v :: cvL F) = match cvL G with
  | [] => none
  | c :: r => if (c.k != 16) = true then none else if deepL 64 r = true then none else
   some ⟨nameOf v.t.b, (impOf (trim r)).1, (impOf (trim r)).2⟩ := by
  rw [hdF, decl]
  have e1 : ((cvV v).k != 1) = false := by rw [cv_k, hk]; rfl
  rw [e1, if_neg (by simp), cv_t]
  rfl
 rw [ed]
 have ez : declC zd = [.v (.string ByteArray.empty), .list .no [], .v (.bool false)] := by
  have e0 : Rul.bs [] = ByteArray.empty := rfl
  simp only [declC, zd, e0, rowsC_nil]
 have haq : a ≤ q := by have := hC.len; omega
 have hql := hC.le
 simp only [row] at hgr
 rw [e76 (by simp) (by rfl)]
 simp only [lft, rgt, b76, Tryz.f76, bodyOf, Option.getD_some, ob77] at hN
 simp only [l76x0, b76, Tryz.f76, loopAt, loops, bodyOf, go_sem, N76, ob77, List.cons_append, List.nil_append] at hL
 cases G with
 | nil =>
  obtain rfl := hC.nil
  have q1 : decide ((a : Int) ≤ (a : Int)) = true := by simp
  rw [cvL]
  simp only [dcR, ez]
  simp only [go_sem, b76, Tryz.f76, hlo, l1, t3, t30, hgr, ↓hN, hw, hL, q1]
  all_goals rfl
 | cons c R =>
  have hlt := hC.lt
  have q1 : decide ((q : Int) ≤ (a : Int)) = false := by rw [decide_eq_false_iff_not]; omega
  have hcr : (l.map row)[a]? = some (row c.t) := by rw [List.getElem?_map, hC.head]; rfl
  have hwa : IntKind.i64.wrap ((a : Int) + 1) = ((a + 1 : Nat) : Int) := wrap_succ (by omega)
  simp only [row] at hcr
  rw [cvL]
  simp only [cv_k]
  cases hc16 : (c.t.k != 16) with
  | true =>
   rw [if_pos rfl]
   simp only [dcR, ez]
   simp only [go_sem, b76, Tryz.f76, hlo, l1, t3, t30, hgr, ↓hN, hw, hL, q1, hcr, hc16]
   all_goals rfl
  | false =>
   rw [if_neg (by simp)]
   have hck : c.t.k = 16 := by simpa using hc16
   obtain ⟨x1, b1, hg1⟩ := hC.good
   have hcv := (goodL_cons.1 hg1).1
   have hcone : (toksV c).length = 1 := by
    cases c with
    | leaf t => rw [toksV]; rfl
    | node t ks c' =>
     have hk' : t.k = 16 := hck
     have hcc : closer t.k ≠ 0 := by
      cases c' with
      | none => exact (goodV_none.1 hcv).1
      | some e => exact (goodV_some.1 hcv).1
     rw [hk'] at hcc
     exact absurd rfl hcc
   have hA2 := hC.tail
   rw [hcone] at hA2
   have hTQ : ∀ X : List V, TX (h ++ [ob77, .cells X]) l E' D t := fun X => hT.app _
   have hlh : ∀ X : List V, lo ≤ (h ++ [ob77, Ob.cells X]).length := fun X => by simp; omega
   have c64 := fun X => f64 (ks := []) (hTQ X) (hlh X) (by simp) hE hD hl hb hA2
   have c67 := fun X => f67 (hTQ X) (hlh X) hl hA2
   rw [noHit_nil, take_all] at c64
   rw [hA2.len] at c64
   have rn : ri .i64 [] = [] := rfl
   rw [rn] at c64
   have hRsub : ∀ y ∈ cvL R, y ∈ cvL F := fun y hy => by
    have : y ∈ ltrim (cvL F) := by rw [← hdF, cvL]; simp [hy]
    exact drop_sub this
   have hRn : nodesL (cvL R) ≤ nodesL (cvL F) := by
    have h1 : nodesL (ltrim (cvL F)) ≤ nodesL (cvL F) := nodesL_suffix (List.dropWhile_suffix _)
    rw [← hdF, cvL, nodesL_cons] at h1
    omega
   generalize cvL R = r at *
   simp only [ob77] at c64 c67
   cases hdp : deepL 64 r with
   | true =>
    rw [hdp] at c64
    rw [if_pos rfl]
    simp only [dcR, ez]
    simp only [go_sem, b76, Tryz.f76, hlo, l1, t3, t30, hgr, ↓hN, hw, hL, q1, hcr, hc16, hwa, c64, Bool.not_true]
    all_goals rfl
   | false =>
    rw [hdp] at c64
    rw [if_neg (by simp)]
    have hvb : ∀ y ∈ trim r, BtV y := fun y hy => hBF y (hRsub y (trim_sub hy))
    have hvn := nodesL_trim r
    have hvl := nodesL_len (trim r)
    obtain ⟨ex, hI⟩ := imp76 (lo := lo) (h := h) (n := nameOf v.t.b) (v := trim r) hlo hvb (by omega) (ltrim_trim r)
    have c55 := fun X => f55 _ (impOf (trim r)).1 (nodesL_imp (trim r)) (by omega) lo (h ++ [ob77, .cells X]) (hlh X)
    simp only [lft, rgt, b76, Tryz.f76, bodyOf, Option.getD_some, ob77, D76] at hI
    simp only [ob77] at c55
    simp only [dcR, declC]
    generalize rowsC (impOf (trim r)).1 = W at *
    generalize rowsC (trim r) = W0 at *
    simp only [go_sem, b76, Tryz.f76, hlo, l1, t3, t30, hgr, ↓hN, hw, hL, q1, hcr, hc16, hwa, c64, c67, Bool.not_false, ↓hI, c55]
    all_goals rfl
end Go.Lift.P8
end

section
namespace Go.Lift.Rul
end Go.Lift.Rul
namespace Go.Lift.Utf
end Go.Lift.Utf
namespace Go.Proofs
end Go.Proofs
open Go.Proofs
namespace Go.Lift.P8
open Rul
open Utf (By)
variable [MX]
set_option maxRecDepth 20000
set_option maxHeartbeats 4000000
variable {lo : Nat} {h : Heap}
theorem lim48b {n : Nat} (h : n ≤ 1000000000) : (n + 1) * 48 ≤ 140737488355328 := by omega
end Go.Lift.P8
end

section
namespace Go.Lift.Rul
mutual
def allV (P : Tk4 → Prop) : CV → Prop
 | .mk t ks => P t ∧ allL P ks
def allL (P : Tk4 → Prop) : List CV → Prop
 | [] => True
 | v :: r => allV P v ∧ allL P r
end
theorem allV_eq {P : Tk4 → Prop} {v : CV} : allV P v ↔ P v.t ∧ allL P v.ks := by
 cases v; rw [allV]; rfl
theorem allL_iff {P : Tk4 → Prop} : ∀ {l : List CV}, allL P l ↔ ∀ v ∈ l, P v.t ∧ allL P v.ks
 | [] => by rw [allL]; simp
 | v :: r => by
  rw [allL, allV_eq, allL_iff (l := r)]
  simp
theorem allL_sub {P : Tk4 → Prop} {l m : List CV} (h : allL P l) (hs : ∀ v ∈ m, v ∈ l) : allL P m := allL_iff.2 fun v hv => allL_iff.1 h v (hs v hv)
mutual
theorem allV_toks {P : Tk4 → Prop} : ∀ v : PV, (∀ t ∈ toksV v, P t) → allV P (cvV v)
 | .leaf t, h => by rw [cvV, allV, allL]; exact ⟨h t (by rw [toksV]; simp), trivial⟩
 | .node t ks c, h => by
  rw [toksV] at h
  rw [cvV, allV]
  exact ⟨h t (by simp), allL_toks ks fun u hu => h u (by simp [hu])⟩
theorem allL_toks {P : Tk4 → Prop} : ∀ F : List PV, (∀ t ∈ toksL F, P t) → allL P (cvL F)
 | [], _ => by rw [cvL, allL]; trivial
 | v :: r, h => by
  rw [toksL] at h
  rw [cvL, allL]
  exact ⟨allV_toks v fun t ht => h t (by simp [ht]), allL_toks r fun t ht => h t (by simp [ht])⟩
end
mutual
theorem nodesV_toks : ∀ v : PV, nodesV (cvV v) ≤ (toksV v).length
 | .leaf t => by rw [cvV, nodesV, nodesL_nil, toksV]; simp
 | .node t ks c => by
  have := nodesL_toks ks
  rw [cvV, nodesV, toksV]
  simp only [List.length_cons, List.length_append]
  omega
theorem nodesL_toks : ∀ F : List PV, nodesL (cvL F) ≤ (toksL F).length
 | [] => by rw [cvL, nodesL_nil]; exact Nat.zero_le _
 | v :: r => by
  have := nodesL_toks r
  have := nodesV_toks v
  rw [cvL, nodesL_cons, toksL, List.length_append]
  omega
end
theorem allL_vals {P : Tk4 → Prop} {l : List Tk4} (h : ∀ t ∈ l, P t) : allL P (vals l) := by
 obtain ⟨F, rfl, hg⟩ := tree_of l
 rw [vals_toks hg]
 exact allL_toks F h
theorem nodes_vals (l : List Tk4) : nodesL (vals l) ≤ l.length := by
 obtain ⟨F, rfl, hg⟩ := tree_of l
 rw [vals_toks hg]
 exact nodesL_toks F
end Go.Lift.Rul
end

section
namespace Go.Lift.Rul
def stepR (sub : List CV → List Ru) (live top : Bool) (v : CV) (r : List CV) : List Ru × List CV :=
 if (v.k == 13 || (top && (v.k == 14 || v.k == 15))) = true then ([], r)
 else if (v.k == 3) = true then
  match (v :: r).dropWhile (nor 17 23) with
  | [] => ([], [])
  | x :: s => (if (x.k == 23 && isGroup (small v.t.b) && !deepL 64 (((v :: r).takeWhile (nor 17 23)).tail) && live) = true then [Ru.mk 2 (small v.t.b) (trim ((v :: r).takeWhile (nor 17 23)).tail) [] (sub x.ks)] else [], s)
 else
  match (v :: r).dropWhile (nor 23 23) with
  | [] => ([], [])
  | x :: s => (if (!deepL 64 ((v :: r).takeWhile (nor 23 23)) && live) = true then [Ru.mk 1 [] (trim ((v :: r).takeWhile (nor 23 23))) (decls x.ks) []] else [], s)
theorem rulesN_nil (sub : List CV → List Ru) (live top : Bool) (n : Nat) : rulesN sub live top n [] = [] := by cases n <;> rw [rulesN]
theorem rulesN_step (sub : List CV → List Ru) (live top : Bool) (n : Nat) (v : CV) (r : List CV) : rulesN sub live top (n + 1) (v :: r) = (stepR sub live top v r).1 ++ rulesN sub live top n (stepR sub live top v r).2 := by
 rw [rulesN]
 unfold stepR
 by_cases a : (v.k == 13 || (top && (v.k == 14 || v.k == 15))) = true
 ·rw [if_pos a, if_pos a]; rfl
 ·rw [if_neg a, if_neg a]
  by_cases b : (v.k == 3) = true
  ·rw [if_pos b, if_pos b]
   cases hx : (v :: r).dropWhile (nor 17 23) with
   | nil => simp only [rulesN_nil, List.append_nil]
   | cons x s => rfl
  ·rw [if_neg b, if_neg b]
   cases hx : (v :: r).dropWhile (nor 23 23) with
   | nil => simp only [rulesN_nil, List.append_nil]
   | cons x s => rfl
theorem nodesL_suf {l m : List CV} (h : m <:+ l) : nodesL m ≤ nodesL l := by
 obtain ⟨p, rfl⟩ := h
 rw [nodesL_app]; omega
theorem stepR_suf (sub : List CV → List Ru) (live top : Bool) (v : CV) (r : List CV) : (stepR sub live top v r).2 <:+ r ∧ (stepR sub live top v r).1.length ≤ 1 := by
 have key : ∀ (f : CV → Bool) (x : CV) (s : List CV), (v :: r).dropWhile f = x :: s → s <:+ r := fun f x s e => by
  rw [List.dropWhile_cons] at e
  split at e
  ·have h1 := List.dropWhile_suffix (p := f) (l := r)
   rw [e] at h1
   exact (List.suffix_cons x s).trans h1
  ·cases e; exact List.suffix_refl _
 unfold stepR
 split
 ·exact ⟨List.suffix_refl _, Nat.zero_le _⟩
 ·split
  ·split
   ·exact ⟨List.nil_suffix, Nat.zero_le _⟩
   ·rename_i x s e
    refine ⟨key _ x s e, ?_⟩
    split <;> simp
  ·split
   ·exact ⟨List.nil_suffix, Nat.zero_le _⟩
   ·rename_i x s e
    refine ⟨key _ x s e, ?_⟩
    split <;> simp
theorem stepR_dead (sub sub' : List CV → List Ru) (top : Bool) (v : CV) (r : List CV) : stepR sub false top v r = stepR sub' false top v r := by
 unfold stepR
 simp only [Bool.and_false, Bool.false_eq_true, if_false]
def restC (n : Nat) (l : List CV) : List Ru := rulesF (65 - n) (n == 1) l
theorem restC_nil (n : Nat) : restC n [] = [] := by
 unfold restC
 cases 65 - n <;> rw [rulesF, rulesN_nil]
theorem restC_step {n : Nat} (h1 : 1 ≤ n) (hn : n ≤ 65) (v : CV) (r : List CV) : restC n (v :: r) = (stepR (restC (n + 1)) (decide (n ≤ 64)) (n == 1) v r).1 ++ restC n (stepR (restC (n + 1)) (decide (n ≤ 64)) (n == 1) v r).2 := by
 have hl := (stepR_suf (restC (n + 1)) (decide (n ≤ 64)) (n == 1) v r).1.length_le
 by_cases h : n ≤ 64
 ·have e1 : 65 - n = (64 - n) + 1 := by omega
  have e2 : restC (n + 1) = rulesF (64 - n) false := by
   funext l
   unfold restC
   rw [show 65 - (n + 1) = 64 - n by omega, show (n + 1 == 1) = false by simp; omega]
  have ed : decide (n ≤ 64) = true := by simpa using h
  rw [ed, e2] at hl ⊢
  have er : ∀ l, restC n l = rulesN (rulesF (64 - n) false) true (n == 1) (l.length + 1) l := fun l => by
   unfold restC; rw [e1, rulesF]
  rw [er, er, List.length_cons, rulesN_step]
  congr 1
  exact rulesN_more _ _ _ _ _ _ (by omega) (by omega)
 ·obtain rfl : n = 65 := by omega
  have ed : decide (65 ≤ 64) = false := rfl
  have e65 : ((65 : Nat) == 1) = false := rfl
  have hl2 := (stepR_suf (fun _ => []) false false v r).1.length_le
  rw [ed, e65, stepR_dead (restC (65 + 1)) (fun _ => [])]
  have er : ∀ l, restC 65 l = rulesN (fun _ => []) false false (l.length + 1) l := fun l => by
   unfold restC; rw [show 65 - 65 = 0 from rfl, rulesF]; rfl
  rw [er, er, List.length_cons, rulesN_step]
  congr 1
  exact rulesN_more _ _ _ _ _ _ (by omega) (by omega)
structure Fr where
 a : Nat
 q : Nat
 G : List PV
 out : List Ru
 nm : List Int
 pr : List CV
 hd : List V
def up : List Ru → Fr → List Fr → List Ru
 | V, _, [] => V
 | V, f, g :: r => up (g.out ++ [Ru.mk 2 f.nm f.pr [] V] ++ restC (r.length + 1) (cvL g.G)) g r
def fin : List Fr → List Ru
 | [] => []
 | f :: r => up (f.out ++ restC (r.length + 1) (cvL f.G)) f r
theorem up_head {f f' : Fr} (h1 : f'.nm = f.nm) (h2 : f'.pr = f.pr) (V : List Ru) : ∀ r, up V f' r = up V f r
 | [] => rfl
 | g :: r => by rw [up, up, h1, h2]
def cellsF (f : Fr) : List V := .v (.int .i64 f.a) :: .v (.int .i64 f.q) :: .list .yes (rusC f.out) :: f.hd
def lvC : List Fr → List V
 | [] => []
 | f :: r => lvC r ++ cellsF f
def muF : List Fr → Nat
 | [] => 0
 | f :: r => 2 * nodesL (cvL f.G) + 1 + muF r
def hdF (f : Fr) : List V := [.v (.int .i64 2), .v (.string (bs f.nm)), .list .no (rowsC f.pr), .list .yes [], .list .yes []]
def hd0 : List V := [.v (.int .i64 0), .v (.string ByteArray.empty), .list .yes [], .list .yes [], .list .yes []]
end Go.Lift.Rul
end

section
namespace Go.Lift.Rul
end Go.Lift.Rul
namespace Go.Lift.Utf
end Go.Lift.Utf
namespace Go.Proofs
end Go.Proofs
open Go.Proofs
namespace Go.Lift.P8
open Rul
open Utf (By)
variable [MX]
set_option maxRecDepth 20000
set_option maxHeartbeats 4000000
variable {lo : Nat} {h : Heap}
theorem lim96 {n : Nat} (h : n ≤ 1000000000) : (n + 1) * 96 ≤ 140737488355328 := by omega
theorem rusC_nil : rusC [] = [] := by rw [rusC]
theorem rusC_put (out : List Ru) (r : Ru) : rusC out ++ [ruV r] = rusC (out ++ [r]) := by rw [rusC_app, rusC, rusC_nil]
end Go.Lift.P8
end
