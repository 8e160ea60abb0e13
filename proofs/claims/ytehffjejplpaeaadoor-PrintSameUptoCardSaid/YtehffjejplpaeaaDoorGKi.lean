/- Are two lists of values, of declarations, of rules the same? -/
import Derived.Test.YtehffjejplpaeaaDoorGKh
set_option linter.unusedVariables false
set_option linter.unusedSimpArgs false
set_option linter.unusedSectionVars false
section
open Go.Proofs
namespace Go.Lift.D7
variable [MX]
open Utf Tok Spell
set_option maxRecDepth 20000
set_option maxHeartbeats 4000000
variable {lo : Nat} {h : Heap}
def eqT (a b : Rul.Tk4) : Bool := a.k == b.k && (a.b == b.b && (a.n == b.n && (a.d == b.d && (a.w == b.w && a.i == b.i))))
mutual
def eqV : Rul.CV → Rul.CV → Bool
 | .mk t ks, .mk u ls => eqT t u && eqL ks ls
def eqL : List Rul.CV → List Rul.CV → Bool
 | [], [] => true
 | v :: r, u :: q => eqV v u && eqL r q
 | _, _ => false
end
def eqD (a b : Rul.Dc) : Bool := a.name == b.name && (a.imp == b.imp && eqL a.val b.val)
def eqDs : List Rul.Dc → List Rul.Dc → Bool
 | [], [] => true
 | v :: r, u :: q => eqD v u && eqDs r q
 | _, _ => false
mutual
def eqR : Rul.Ru → Rul.Ru → Bool
 | .mk k n p ds rs, .mk k' n' p' ds' rs' => k == k' && (n == n' && (eqL p p' && (eqDs ds ds' && eqRs rs rs')))
def eqRs : List Rul.Ru → List Rul.Ru → Bool
 | [], [] => true
 | v :: r, u :: q => eqR v u && eqRs r q
 | _, _ => false
end
theorem eqL_nil : eqL [] [] = true := by rw [eqL]
theorem eqL_cons {v u : Rul.CV} {r q : List Rul.CV} : eqL (v :: r) (u :: q) = (eqV v u && eqL r q) := by rw [eqL]
theorem eqL_len : ∀ {a b : List Rul.CV}, a.length ≠ b.length → eqL a b = false
 | [], [], h => absurd rfl h
 | v :: r, u :: q, h => by
  rw [eqL_cons, eqL_len (a := r) (b := q) (by simpa using h), Bool.and_false]
 | [], u :: q, _ => by simp [eqL]
 | v :: r, [], _ => by simp [eqL]
theorem eqDs_nil : eqDs [] [] = true := by rw [eqDs]
theorem eqDs_cons {v u : Rul.Dc} {r q : List Rul.Dc} : eqDs (v :: r) (u :: q) = (eqD v u && eqDs r q) := by rw [eqDs]
theorem eqDs_len : ∀ {a b : List Rul.Dc}, a.length ≠ b.length → eqDs a b = false
 | [], [], h => absurd rfl h
 | v :: r, u :: q, h => by
  rw [eqDs_cons, eqDs_len (a := r) (b := q) (by simpa using h), Bool.and_false]
 | [], u :: q, _ => by simp [eqDs]
 | v :: r, [], _ => by simp [eqDs]
theorem eqRs_nil : eqRs [] [] = true := by rw [eqRs]
theorem eqRs_cons {v u : Rul.Ru} {r q : List Rul.Ru} : eqRs (v :: r) (u :: q) = (eqR v u && eqRs r q) := by rw [eqRs]
theorem eqRs_len : ∀ {a b : List Rul.Ru}, a.length ≠ b.length → eqRs a b = false
 | [], [], h => absurd rfl h
 | v :: r, u :: q, h => by
  rw [eqRs_cons, eqRs_len (a := r) (b := q) (by simpa using h), Bool.and_false]
 | [], u :: q, _ => by simp [eqRs]
 | v :: r, [], _ => by simp [eqRs]
theorem eqT_refl (t : Rul.Tk4) : eqT t t = true := by simp [eqT]
mutual
theorem eqV_refl : ∀ v : Rul.CV, eqV v v = true
 | .mk t ks => by rw [eqV, eqT_refl, eqL_refl ks]; rfl
theorem eqL_refl : ∀ l : List Rul.CV, eqL l l = true
 | [] => eqL_nil
 | v :: r => by rw [eqL_cons, eqV_refl v, eqL_refl r]; rfl
end
theorem eqDs_refl : ∀ l : List Rul.Dc, eqDs l l = true
 | [] => eqDs_nil
 | d :: r => by rw [eqDs_cons, eqDs_refl r]; simp [eqD, eqL_refl]
mutual
theorem eqR_refl : ∀ v : Rul.Ru, eqR v v = true
 | .mk k n p ds rs => by rw [eqR, eqL_refl, eqDs_refl, eqRs_refl rs]; simp
theorem eqRs_refl : ∀ l : List Rul.Ru, eqRs l l = true
 | [] => eqRs_nil
 | v :: r => by rw [eqRs_cons, eqR_refl v, eqRs_refl r]; rfl
end
theorem fl_tok : flatOf Tryd.prog 40 = some [1, 2, 1, 1, 0, 0] := by kernel_rfl
theorem cmp_tok {a b : Rul.Tk4} (ha : By a.b) (hb : By b.b) : eqCells [1, 2, 1, 1, 0, 0] [.v (.int .i64 a.k), .v (.string (bs a.b)), .v (.int .i64 a.n), .v (.int .i64 a.d), .v (.bool a.w), .v (.bool a.i)] [.v (.int .i64 b.k), .v (.string (bs b.b)), .v (.int .i64 b.n), .v (.int .i64 b.d), .v (.bool b.w), .v (.bool b.i)] = some (eqT a b) := by
 have e := bs_beq ha hb
 simp [eqCells, eqS, eqT, e]
mutual
def ByV : Rul.CV → Prop
 | .mk t ks => By t.b ∧ ByL ks
def ByL : List Rul.CV → Prop
 | [] => True
 | v :: r => ByV v ∧ ByL r
end
theorem byL_cons {v : Rul.CV} {r : List Rul.CV} : ByL (v :: r) ↔ ByV v ∧ ByL r := by rw [ByL]
theorem byV_eq {t : Rul.Tk4} {ks : List Rul.CV} : ByV (.mk t ks) ↔ By t.b ∧ ByL ks := by rw [ByV]
theorem byL_get : ∀ {l : List Rul.CV} {k : Nat} {v : Rul.CV}, ByL l → l[k]? = some v → ByV v
 | [], k, v, _, h => by simp at h
 | x :: l, 0, v, hb, h => by
  simp at h
  subst h
  exact (byL_cons.1 hb).1
 | x :: l, k + 1, v, hb, h => byL_get (byL_cons.1 hb).2 (by simpa using h)
mutual
theorem byV_flat : ∀ {v : Rul.CV}, (∀ t ∈ Rul.flatV v, By t.b) → ByV v
 | .mk t ks, h => by
  rw [Rul.flatV] at h
  exact byV_eq.2 ⟨h t (by simp), byL_flat fun x hx => h x (by simp [hx])⟩
theorem byL_flat : ∀ {l : List Rul.CV}, (∀ t ∈ Rul.flatL l, By t.b) → ByL l
 | [], _ => by rw [ByL]; trivial
 | v :: r, h => by
  rw [Rul.flatL] at h
  exact byL_cons.2 ⟨byV_flat fun x hx => h x (by simp [hx]), byL_flat fun x hx => h x (by simp [hx])⟩
end
theorem byL_ok {l : List Rul.CV} (h : OkL l) : ByL l := byL_flat fun t ht => (h.hok t ht).hy
abbrev NV9 (l u : List Rul.CV) (k : Int) : Env := [(0, .list .no (Rul.rowsC l)), (1, .list .no (Rul.rowsC u)), (12, .v (.int .i64 l.length)), (13, .v (.int .i64 k))]
theorem rv9 {l u : List Rul.CV} {v y : Rul.CV} {k : Nat} (hlo : lo ≤ h.length) (hl : l.length ≤ 1000000000) (hg : l[k]? = some v) (hu : u[k]? = some y) (hb : ByV v) (hc : ByV y)
  (ih : ∀ lo h, lo ≤ h.length → E lo 9 [.list .no (Rul.rowsC v.ks), .list .no (Rul.rowsC y.ks)] h = some (.v (.bool (eqL v.ks y.ks)), h)) :
  evCode ⟨Tryd.prog, E, lo, h.length, h9⟩ loopW l9x0 (NV9 l u k, h) = if eqV v y = true then some (.normal, NV9 l u (k + 1 : Nat), h) else some (.ret, [(4, .v (.bool false))], h) := by
 have hlt : k < l.length := (List.getElem?_eq_some_iff.1 hg).1
 have hgr : (Rul.rowsC l)[k]? = some (Rul.rowV v) := by rw [Rul.rowsC_get, hg]; rfl
 have hur : (Rul.rowsC u)[k]? = some (Rul.rowV y) := by rw [Rul.rowsC_get, hu]; rfl
 rw [Rul.rowV_eta] at hgr hur
 have q : decide ((k : Int) < (l.length : Int)) = true := by simp; omega
 have hw : IntKind.i64.wrap ((k : Int) + 1) = ((k + 1 : Nat) : Int) := wrap_succ (by omega)
 obtain ⟨t, ks⟩ := v
 obtain ⟨t', ks'⟩ := y
 rw [byV_eq] at hb hc
 have ct := cmp_tok hb.1 hc.1
 have iha := ih lo h hlo; have ihb := ih h.length h (Nat.le_refl _)
 rw [eqV]
 show _ = if (eqT t t' && eqL ks ks') = true then _ else _
 change E lo 9 [.list .no (Rul.rowsC ks), .list .no (Rul.rowsC ks')] h = some (.v (.bool (eqL ks ks')), h) at iha
 change E h.length 9 [.list .no (Rul.rowsC ks), .list .no (Rul.rowsC ks')] h = some (.v (.bool (eqL ks ks')), h) at ihb
 change (Rul.rowsC l)[k]? = some [.v (.int .i64 t.k), .v (.string (bs t.b)), .v (.int .i64 t.n), .v (.int .i64 t.d), .v (.bool t.w), .v (.bool t.i), .list .no (Rul.rowsC ks)] at hgr
 change (Rul.rowsC u)[k]? = some [.v (.int .i64 t'.k), .v (.string (bs t'.b)), .v (.int .i64 t'.n), .v (.int .i64 t'.d), .v (.bool t'.w), .v (.bool t'.i), .list .no (Rul.rowsC ks')] at hur
 cases he : eqT t t' with
 | false =>
  rw [he] at ct
  rw [Bool.false_and, if_neg (by simp)]
  simp only [go_sem, l9x0, b9, Tryd.f9, hlo, q, hgr, hur, hw, fl_tok, ct, Rul.rowsC_len]
  all_goals rfl
 | true =>
  rw [he] at ct
  rw [Bool.true_and]
  cases hk : eqL ks ks' with
  | false =>
   rw [hk] at iha ihb
   rw [if_neg (by simp)]
   simp only [go_sem, l9x0, b9, Tryd.f9, hlo, q, hgr, hur, hw, fl_tok, ct, iha, ihb, Rul.rowsC_len]
   all_goals rfl
  | true =>
   rw [hk] at iha ihb
   rw [if_pos rfl]
   simp only [go_sem, l9x0, b9, Tryd.f9, hlo, q, hgr, hur, hw, fl_tok, ct, iha, ihb, Rul.rowsC_len]
   all_goals rfl
theorem sv9 {l u : List Rul.CV} (hlo : lo ≤ h.length) : evCode ⟨Tryd.prog, E, lo, h.length, h9⟩ loopW l9x0 (NV9 l u l.length, h) =
   some (.exit 0, NV9 l u l.length ++ [(14, .v (.bool false))], h) := by
 have q : decide ((l.length : Int) < (l.length : Int)) = false := by simp
 simp only [go_sem, l9x0, b9, Tryd.f9, hlo, q]
 all_goals rfl
theorem lv9 {l u : List Rul.CV} (hlo : lo ≤ h.length) (hl : l.length ≤ 1000000000) (hlu : l.length = u.length) (hb : ByL l) (hc : ByL u)
  (ih : ∀ (k : Nat) v y, l[k]? = some v → u[k]? = some y → ∀ lo h, lo ≤ h.length → E lo 9 [.list .no (Rul.rowsC v.ks), .list .no (Rul.rowsC y.ks)] h = some (.v (.bool (eqL v.ks y.ks)), h)) : ∀ (m k : Nat), k + m = l.length →
  if eqL (l.drop k) (u.drop k) = true then
   loopW (evCode ⟨Tryd.prog, E, lo, h.length, h9⟩ loopW l9x0) (NV9 l u k, h) = some (.exit 0, NV9 l u l.length ++ [(14, .v (.bool false))], h)
  else loopW (evCode ⟨Tryd.prog, E, lo, h.length, h9⟩ loopW l9x0) (NV9 l u k, h) = some (.ret, [(4, .v (.bool false))], h) := by
 intro m
 induction m with
 | zero =>
  intro k hk
  obtain rfl : k = l.length := by omega
  have e : u.drop l.length = [] := List.drop_eq_nil_of_le (by omega)
  rw [List.drop_length, e, if_pos eqL_nil, loop_eq, sv9 hlo, loop_e]
 | succ m ihm =>
  intro k hk
  have hlt : k < l.length := by omega
  have hg : l[k]? = some l[k] := List.getElem?_eq_getElem hlt
  have hu : u[k]? = some (u[k]'(by omega)) := List.getElem?_eq_getElem (by omega)
  have hr := rv9 (lo := lo) (h := h) hlo hl hg hu (byL_get hb hg) (byL_get hc hu) (ih k _ _ hg hu)
  rw [List.drop_eq_getElem_cons hlt, List.drop_eq_getElem_cons (show k < u.length by omega), eqL_cons]
  cases hm : eqV l[k] (u[k]'(by omega)) with
  | false =>
   rw [hm, if_neg (by simp)] at hr
   rw [Bool.false_and, if_neg (by simp), loop_eq, hr, loop_r]
  | true =>
   rw [hm, if_pos rfl] at hr
   rw [Bool.true_and, loop_eq, hr, loop_n]
   exact ihm (k + 1) (by omega)
theorem nodesL_ks {l : List Rul.CV} {v : Rul.CV} {k : Nat} {n : Nat} (h : l[k]? = some v) (hn : Rul.nodesL l ≤ n + 1) : Rul.nodesL v.ks ≤ n := by
 have := Rul.nodesL_mem (List.mem_of_getElem? h)
 rw [Rul.nodesV_eq] at this
 omega
theorem byL_ks {l : List Rul.CV} {v : Rul.CV} {k : Nat} (hb : ByL l) (h : l[k]? = some v) : ByL v.ks := by
 have := byL_get hb h
 cases v
 exact (byV_eq.1 this).2
theorem f9 : ∀ (n : Nat) (l u : List Rul.CV) (lo : Nat) (h : Heap), Rul.nodesL l ≤ n → n ≤ 100000000 → Rul.nodesL u ≤ 100000000 → ByL l → ByL u → lo ≤ h.length →
  E lo 9 [.list .no (Rul.rowsC l), .list .no (Rul.rowsC u)] h = some (.v (.bool (eqL l u)), h) := by
 intro n
 induction n with
 | zero =>
  intro l u lo h hn hN hu hb hc hlo
  have hz : l = [] := by
   cases l with
   | nil => rfl
   | cons v r => rw [Rul.nodesL_cons, Rul.nodesV_eq] at hn; omega
  subst hz
  have hlu := Rul.nodesL_len u
  have n0 : ((0 : Nat) : Int) = 0 := rfl
  rw [e9 (by simp) (by rfl)]
  cases u with
  | nil =>
   have hL := lv9 (lo := lo) (h := h) (l := []) (u := []) hlo (by simp) rfl hb hc (fun k v y hv => by simp at hv) 0 0 rfl
   rw [List.drop_zero, if_pos eqL_nil] at hL
   rw [eqL_nil]
   simp only [l9x0, b9, Tryd.f9, loopAt, loops, bodyOf, go_sem, NV9, n0, List.cons_append, List.nil_append, List.length_nil] at hL
   have q : ((0 : Int) != 0) = false := rfl
   simp only [go_sem, b9, Tryd.f9, hlo, hL, Rul.rowsC_len, n0, List.length_nil, q, Int.reduceBNe]
   all_goals rfl
  | cons y r =>
   rw [eqL_len (by simp)]
   have q : ((0 : Int) != ((r.length + 1 : Nat) : Int)) = true := by simp; omega
   simp only [go_sem, b9, Tryd.f9, hlo, Rul.rowsC_len, n0, List.length_nil, q]
   all_goals rfl
 | succ n ihn =>
  intro l u lo h hn hN hu hb hc hlo
  have hll := Rul.nodesL_len l
  have hlu := Rul.nodesL_len u
  have n0 : ((0 : Nat) : Int) = 0 := rfl
  rw [e9 (by simp) (by rfl)]
  by_cases hq : l.length = u.length
  ·have q : ((l.length : Int) != (u.length : Int)) = false := by simp [hq]
   have hL := lv9 (lo := lo) (h := h) (l := l) (u := u) hlo (by omega) hq hb hc (fun k v y hv hy lo h hlo => by
    have h1 := nodesL_ks hv hn
    have h2 := nodesL_ks (n := 100000000) hy (by omega)
    exact ihn v.ks y.ks lo h h1 (by omega) h2 (byL_ks hb hv) (byL_ks hc hy) hlo) l.length 0 (by omega)
   rw [List.drop_zero, List.drop_zero] at hL
   cases hm : eqL l u with
   | false =>
    rw [hm, if_neg (by simp)] at hL
    simp only [l9x0, b9, Tryd.f9, loopAt, loops, bodyOf, go_sem, NV9, n0] at hL
    simp only [go_sem, b9, Tryd.f9, hlo, hL, Rul.rowsC_len, n0, q]
    all_goals rfl
   | true =>
    rw [hm, if_pos rfl] at hL
    simp only [l9x0, b9, Tryd.f9, loopAt, loops, bodyOf, go_sem, NV9, n0, List.cons_append, List.nil_append] at hL
    simp only [go_sem, b9, Tryd.f9, hlo, hL, Rul.rowsC_len, n0, q]
    all_goals rfl
  ·have q : ((l.length : Int) != (u.length : Int)) = true := by simp; omega
   rw [eqL_len hq]
   simp only [go_sem, b9, Tryd.f9, hlo, Rul.rowsC_len, n0, q]
   all_goals rfl
abbrev NV10 (l u : List Rul.CV) (k : Int) : Env := [(0, .list .no (Rul.rowsC l)), (1, .list .no (Rul.rowsC u)), (12, .v (.int .i64 l.length)), (13, .v (.int .i64 k))]
theorem rv10 {l u : List Rul.CV} {v y : Rul.CV} {k : Nat} (hlo : lo ≤ h.length) (hl : l.length ≤ 1000000000) (hg : l[k]? = some v) (hu : u[k]? = some y) (hb : ByV v) (hc : ByV y)
  (ih : ∀ lo h, lo ≤ h.length → E lo 10 [.list .no (Rul.rowsC v.ks), .list .no (Rul.rowsC y.ks)] h = some (.v (.bool (eqL v.ks y.ks)), h)) :
  evCode ⟨Tryd.prog, E, lo, h.length, h10⟩ loopW l10x0 (NV10 l u k, h) = if eqV v y = true then some (.normal, NV10 l u (k + 1 : Nat), h) else some (.ret, [(4, .v (.bool false))], h) := by
 have hlt : k < l.length := (List.getElem?_eq_some_iff.1 hg).1
 have hgr : (Rul.rowsC l)[k]? = some (Rul.rowV v) := by rw [Rul.rowsC_get, hg]; rfl
 have hur : (Rul.rowsC u)[k]? = some (Rul.rowV y) := by rw [Rul.rowsC_get, hu]; rfl
 rw [Rul.rowV_eta] at hgr hur
 have q : decide ((k : Int) < (l.length : Int)) = true := by simp; omega
 have hw : IntKind.i64.wrap ((k : Int) + 1) = ((k + 1 : Nat) : Int) := wrap_succ (by omega)
 obtain ⟨t, ks⟩ := v
 obtain ⟨t', ks'⟩ := y
 rw [byV_eq] at hb hc
 have ct := cmp_tok hb.1 hc.1
 have iha := ih lo h hlo; have ihb := ih h.length h (Nat.le_refl _)
 rw [eqV]
 show _ = if (eqT t t' && eqL ks ks') = true then _ else _
 change E lo 10 [.list .no (Rul.rowsC ks), .list .no (Rul.rowsC ks')] h = some (.v (.bool (eqL ks ks')), h) at iha
 change E h.length 10 [.list .no (Rul.rowsC ks), .list .no (Rul.rowsC ks')] h = some (.v (.bool (eqL ks ks')), h) at ihb
 change (Rul.rowsC l)[k]? = some [.v (.int .i64 t.k), .v (.string (bs t.b)), .v (.int .i64 t.n), .v (.int .i64 t.d), .v (.bool t.w), .v (.bool t.i), .list .no (Rul.rowsC ks)] at hgr
 change (Rul.rowsC u)[k]? = some [.v (.int .i64 t'.k), .v (.string (bs t'.b)), .v (.int .i64 t'.n), .v (.int .i64 t'.d), .v (.bool t'.w), .v (.bool t'.i), .list .no (Rul.rowsC ks')] at hur
 cases he : eqT t t' with
 | false =>
  rw [he] at ct
  rw [Bool.false_and, if_neg (by simp)]
  simp only [go_sem, l10x0, b10, Tryd.f10, hlo, q, hgr, hur, hw, fl_tok, ct, Rul.rowsC_len]
  all_goals rfl
 | true =>
  rw [he] at ct
  rw [Bool.true_and]
  cases hk : eqL ks ks' with
  | false =>
   rw [hk] at iha ihb
   rw [if_neg (by simp)]
   simp only [go_sem, l10x0, b10, Tryd.f10, hlo, q, hgr, hur, hw, fl_tok, ct, iha, ihb, Rul.rowsC_len]
   all_goals rfl
  | true =>
   rw [hk] at iha ihb
   rw [if_pos rfl]
   simp only [go_sem, l10x0, b10, Tryd.f10, hlo, q, hgr, hur, hw, fl_tok, ct, iha, ihb, Rul.rowsC_len]
   all_goals rfl
theorem sv10 {l u : List Rul.CV} (hlo : lo ≤ h.length) : evCode ⟨Tryd.prog, E, lo, h.length, h10⟩ loopW l10x0 (NV10 l u l.length, h) =
   some (.exit 0, NV10 l u l.length ++ [(14, .v (.bool false))], h) := by
 have q : decide ((l.length : Int) < (l.length : Int)) = false := by simp
 simp only [go_sem, l10x0, b10, Tryd.f10, hlo, q]
 all_goals rfl
theorem lv10 {l u : List Rul.CV} (hlo : lo ≤ h.length) (hl : l.length ≤ 1000000000) (hlu : l.length = u.length) (hb : ByL l) (hc : ByL u)
  (ih : ∀ (k : Nat) v y, l[k]? = some v → u[k]? = some y → ∀ lo h, lo ≤ h.length → E lo 10 [.list .no (Rul.rowsC v.ks), .list .no (Rul.rowsC y.ks)] h = some (.v (.bool (eqL v.ks y.ks)), h)) : ∀ (m k : Nat), k + m = l.length →
  if eqL (l.drop k) (u.drop k) = true then
   loopW (evCode ⟨Tryd.prog, E, lo, h.length, h10⟩ loopW l10x0) (NV10 l u k, h) = some (.exit 0, NV10 l u l.length ++ [(14, .v (.bool false))], h)
  else loopW (evCode ⟨Tryd.prog, E, lo, h.length, h10⟩ loopW l10x0) (NV10 l u k, h) = some (.ret, [(4, .v (.bool false))], h) := by
 intro m
 induction m with
 | zero =>
  intro k hk
  obtain rfl : k = l.length := by omega
  have e : u.drop l.length = [] := List.drop_eq_nil_of_le (by omega)
  rw [List.drop_length, e, if_pos eqL_nil, loop_eq, sv10 hlo, loop_e]
 | succ m ihm =>
  intro k hk
  have hlt : k < l.length := by omega
  have hg : l[k]? = some l[k] := List.getElem?_eq_getElem hlt
  have hu : u[k]? = some (u[k]'(by omega)) := List.getElem?_eq_getElem (by omega)
  have hr := rv10 (lo := lo) (h := h) hlo hl hg hu (byL_get hb hg) (byL_get hc hu) (ih k _ _ hg hu)
  rw [List.drop_eq_getElem_cons hlt, List.drop_eq_getElem_cons (show k < u.length by omega), eqL_cons]
  cases hm : eqV l[k] (u[k]'(by omega)) with
  | false =>
   rw [hm, if_neg (by simp)] at hr
   rw [Bool.false_and, if_neg (by simp), loop_eq, hr, loop_r]
  | true =>
   rw [hm, if_pos rfl] at hr
   rw [Bool.true_and, loop_eq, hr, loop_n]
   exact ihm (k + 1) (by omega)
theorem f10 : ∀ (n : Nat) (l u : List Rul.CV) (lo : Nat) (h : Heap), Rul.nodesL l ≤ n → n ≤ 100000000 → Rul.nodesL u ≤ 100000000 → ByL l → ByL u → lo ≤ h.length →
  E lo 10 [.list .no (Rul.rowsC l), .list .no (Rul.rowsC u)] h = some (.v (.bool (eqL l u)), h) := by
 intro n
 induction n with
 | zero =>
  intro l u lo h hn hN hu hb hc hlo
  have hz : l = [] := by
   cases l with
   | nil => rfl
   | cons v r => rw [Rul.nodesL_cons, Rul.nodesV_eq] at hn; omega
  subst hz
  have hlu := Rul.nodesL_len u
  have n0 : ((0 : Nat) : Int) = 0 := rfl
  rw [e10 (by simp) (by rfl)]
  cases u with
  | nil =>
   have hL := lv10 (lo := lo) (h := h) (l := []) (u := []) hlo (by simp) rfl hb hc (fun k v y hv => by simp at hv) 0 0 rfl
   rw [List.drop_zero, if_pos eqL_nil] at hL
   rw [eqL_nil]
   simp only [l10x0, b10, Tryd.f10, loopAt, loops, bodyOf, go_sem, NV10, n0, List.cons_append, List.nil_append, List.length_nil] at hL
   have q : ((0 : Int) != 0) = false := rfl
   simp only [go_sem, b10, Tryd.f10, hlo, hL, Rul.rowsC_len, n0, List.length_nil, q, Int.reduceBNe]
   all_goals rfl
  | cons y r =>
   rw [eqL_len (by simp)]
   have q : ((0 : Int) != ((r.length + 1 : Nat) : Int)) = true := by simp; omega
   simp only [go_sem, b10, Tryd.f10, hlo, Rul.rowsC_len, n0, List.length_nil, q]
   all_goals rfl
 | succ n ihn =>
  intro l u lo h hn hN hu hb hc hlo
  have hll := Rul.nodesL_len l
  have hlu := Rul.nodesL_len u
  have n0 : ((0 : Nat) : Int) = 0 := rfl
  rw [e10 (by simp) (by rfl)]
  by_cases hq : l.length = u.length
  ·have q : ((l.length : Int) != (u.length : Int)) = false := by simp [hq]
   have hL := lv10 (lo := lo) (h := h) (l := l) (u := u) hlo (by omega) hq hb hc (fun k v y hv hy lo h hlo => by
    have h1 := nodesL_ks hv hn
    have h2 := nodesL_ks (n := 100000000) hy (by omega)
    exact ihn v.ks y.ks lo h h1 (by omega) h2 (byL_ks hb hv) (byL_ks hc hy) hlo) l.length 0 (by omega)
   rw [List.drop_zero, List.drop_zero] at hL
   cases hm : eqL l u with
   | false =>
    rw [hm, if_neg (by simp)] at hL
    simp only [l10x0, b10, Tryd.f10, loopAt, loops, bodyOf, go_sem, NV10, n0] at hL
    simp only [go_sem, b10, Tryd.f10, hlo, hL, Rul.rowsC_len, n0, q]
    all_goals rfl
   | true =>
    rw [hm, if_pos rfl] at hL
    simp only [l10x0, b10, Tryd.f10, loopAt, loops, bodyOf, go_sem, NV10, n0, List.cons_append, List.nil_append] at hL
    simp only [go_sem, b10, Tryd.f10, hlo, hL, Rul.rowsC_len, n0, q]
    all_goals rfl
  ·have q : ((l.length : Int) != (u.length : Int)) = true := by simp; omega
   rw [eqL_len hq]
   simp only [go_sem, b10, Tryd.f10, hlo, Rul.rowsC_len, n0, q]
   all_goals rfl
end Go.Lift.D7
end

section
open Go.Proofs
namespace Go.Lift.D7
variable [MX]
open Utf Tok Spell
set_option maxRecDepth 20000
set_option maxHeartbeats 40000000
variable {lo : Nat} {h : Heap}
def regsC : Code → List (Nat × Array Oper)
 | .region id ops _ => [(id, ops)]
 | .seq a b => regsC a ++ regsC b
 | .cond _ a b => regsC a ++ regsC b
 | .block _ a => regsC a
 | .loop a => regsC a
 | .scope a => regsC a
 | _ => []
def regOps (c : Code) (id : Nat) : Array Oper := ((regsC c).lookup id).getD #[]
theorem declC_eq (d : Rul.Dc) : Rul.declC d = [.v (.string (bs d.name)), .list .no (Rul.rowsC d.val), .v (.bool d.imp)] := rfl
structure OkE (d : Rul.Dc) : Prop where
 hy : By d.name
 hv : ByL d.val
 hn : Rul.nodesL d.val ≤ 100000000
theorem okE {d : Rul.Dc} (h : OkD d) : OkE d := ⟨h.hy, byL_ok h.hv, h.hv.hn⟩
abbrev NV11 (l u : List Rul.Dc) (k : Int) : Env := [(0, .list .no (l.map Rul.declC)), (1, .list .no (u.map Rul.declC)), (12, .v (.int .i64 l.length)), (13, .v (.int .i64 k))]
theorem rv11 {l u : List Rul.Dc} {v y : Rul.Dc} {k : Nat} (hlo : lo ≤ h.length) (hl : l.length ≤ 1000000000) (hg : l[k]? = some v) (hu : u[k]? = some y) (hb : OkE v) (hc : OkE y) :
  evCode ⟨Tryd.prog, E, lo, h.length, h11⟩ loopW l11x0 (NV11 l u k, h) = if eqD v y = true then some (.normal, NV11 l u (k + 1 : Nat), h) else some (.ret, [(4, .v (.bool false))], h) := by
 have hlt : k < l.length := (List.getElem?_eq_some_iff.1 hg).1
 have hgr : (l.map Rul.declC)[k]? = some (Rul.declC v) := by simp [hg]
 have hur : (u.map Rul.declC)[k]? = some (Rul.declC y) := by simp [hu]
 rw [declC_eq] at hgr hur
 have q : decide ((k : Int) < (l.length : Int)) = true := by simp; omega
 have hw : IntKind.i64.wrap ((k : Int) + 1) = ((k + 1 : Nat) : Int) := wrap_succ (by omega)
 have b1 := bs_beq hb.hy hc.hy
 have iha := f10 _ v.val y.val lo h (Nat.le_refl _) hb.hn hc.hn hb.hv hc.hv hlo
 have ihb := f10 _ v.val y.val h.length h (Nat.le_refl _) hb.hn hc.hn hb.hv hc.hv (Nat.le_refl _)
 unfold eqD
 cases he : v.name == y.name with
 | false =>
  rw [he] at b1
  rw [Bool.false_and, if_neg (by simp)]
  simp only [go_sem, l11x0, b11, Tryd.f11, hlo, q, hgr, hur, hw, b1, List.length_map]
  all_goals rfl
 | true =>
  rw [he] at b1
  rw [Bool.true_and]
  cases hi : v.imp == y.imp with
  | false =>
   have hi2 : (v.imp == y.imp) = false := hi
   rw [Bool.false_and, if_neg (by simp)]
   simp only [go_sem, l11x0, b11, Tryd.f11, hlo, q, hgr, hur, hw, b1, hi2, List.length_map]
   all_goals rfl
  | true =>
   have hi2 : (v.imp == y.imp) = true := hi
   rw [Bool.true_and]
   cases hk : eqL v.val y.val with
   | false =>
    rw [hk] at iha ihb
    rw [if_neg (by simp)]
    simp only [go_sem, l11x0, b11, Tryd.f11, hlo, q, hgr, hur, hw, b1, hi2, iha, ihb, List.length_map]
    all_goals rfl
   | true =>
    rw [hk] at iha ihb
    rw [if_pos rfl]
    simp only [go_sem, l11x0, b11, Tryd.f11, hlo, q, hgr, hur, hw, b1, hi2, iha, ihb, List.length_map]
    all_goals rfl
theorem sv11 {l u : List Rul.Dc} (hlo : lo ≤ h.length) : evCode ⟨Tryd.prog, E, lo, h.length, h11⟩ loopW l11x0 (NV11 l u l.length, h) =
   some (.exit 0, NV11 l u l.length ++ [(14, .v (.bool false))], h) := by
 have q : decide ((l.length : Int) < (l.length : Int)) = false := by simp
 simp only [go_sem, l11x0, b11, Tryd.f11, hlo, q]
 all_goals rfl
theorem lv11 {l u : List Rul.Dc} (hlo : lo ≤ h.length) (hl : l.length ≤ 1000000000) (hlu : l.length = u.length) (hb : ∀ d ∈ l, OkE d) (hc : ∀ d ∈ u, OkE d) : ∀ (m k : Nat), k + m = l.length →
  if eqDs (l.drop k) (u.drop k) = true then
   loopW (evCode ⟨Tryd.prog, E, lo, h.length, h11⟩ loopW l11x0) (NV11 l u k, h) = some (.exit 0, NV11 l u l.length ++ [(14, .v (.bool false))], h)
  else loopW (evCode ⟨Tryd.prog, E, lo, h.length, h11⟩ loopW l11x0) (NV11 l u k, h) = some (.ret, [(4, .v (.bool false))], h) := by
 intro m
 induction m with
 | zero =>
  intro k hk
  obtain rfl : k = l.length := by omega
  have e : u.drop l.length = [] := List.drop_eq_nil_of_le (by omega)
  rw [List.drop_length, e, if_pos eqDs_nil, loop_eq, sv11 hlo, loop_e]
 | succ m ihm =>
  intro k hk
  have hlt : k < l.length := by omega
  have hlt2 : k < u.length := by omega
  have hg : l[k]? = some l[k] := List.getElem?_eq_getElem hlt
  have hu : u[k]? = some u[k] := List.getElem?_eq_getElem hlt2
  have hr := rv11 (lo := lo) (h := h) hlo hl hg hu (hb _ (List.getElem_mem hlt)) (hc _ (List.getElem_mem hlt2))
  rw [List.drop_eq_getElem_cons hlt, List.drop_eq_getElem_cons hlt2, eqDs_cons]
  cases hm : eqD l[k] u[k] with
  | false =>
   rw [hm, if_neg (by simp)] at hr
   rw [Bool.false_and, if_neg (by simp), loop_eq, hr, loop_r]
  | true =>
   rw [hm, if_pos rfl] at hr
   rw [Bool.true_and, loop_eq, hr, loop_n]
   exact ihm (k + 1) (by omega)
theorem f11 {l u : List Rul.Dc} (hlo : lo ≤ h.length) (hl : l.length ≤ 1000000000) (hul : u.length ≤ 1000000000) (hb : ∀ d ∈ l, OkE d) (hc : ∀ d ∈ u, OkE d) :
  E lo 11 [.list .no (l.map Rul.declC), .list .no (u.map Rul.declC)] h = some (.v (.bool (eqDs l u)), h) := by
 have n0 : ((0 : Nat) : Int) = 0 := rfl
 rw [e11 (by simp) (by rfl)]
 by_cases hq : l.length = u.length
 ·have q : ((l.length : Int) != (u.length : Int)) = false := by simp [hq]
  have hL := lv11 (lo := lo) (h := h) (l := l) (u := u) hlo hl hq hb hc l.length 0 (by omega)
  rw [List.drop_zero, List.drop_zero] at hL
  cases hm : eqDs l u with
  | false =>
   rw [hm, if_neg (by simp)] at hL
   simp only [l11x0, b11, Tryd.f11, loopAt, loops, bodyOf, go_sem, NV11, n0] at hL
   simp only [go_sem, b11, Tryd.f11, hlo, hL, List.length_map, n0, q]
   all_goals rfl
  | true =>
   rw [hm, if_pos rfl] at hL
   simp only [l11x0, b11, Tryd.f11, loopAt, loops, bodyOf, go_sem, NV11, n0, List.cons_append, List.nil_append] at hL
   simp only [go_sem, b11, Tryd.f11, hlo, hL, List.length_map, n0, q]
   all_goals rfl
 ·have q : ((l.length : Int) != (u.length : Int)) = true := by simp; omega
  rw [eqDs_len hq]
  simp only [go_sem, b11, Tryd.f11, hlo, List.length_map, n0, q]
  all_goals rfl
end Go.Lift.D7
end

section
open Go.Proofs
namespace Go.Lift.D7
variable [MX]
open Utf Tok Spell
set_option maxRecDepth 20000
set_option maxHeartbeats 40000000
variable {lo : Nat} {h : Heap}
theorem ruV_eq (k : Int) (n : List Int) (p : List Rul.CV) (ds : List Rul.Dc) (rs : List Rul.Ru) : Rul.ruV (.mk k n p ds rs) = [.v (.int .i64 k), .v (.string (bs n)), .list .no (Rul.rowsC p), .list .no (ds.map Rul.declC), .list .no (Rul.rusC rs)] := by rw [Rul.ruV]; rfl
theorem rus_get {l : List Rul.Ru} {k : Nat} {r : Rul.Ru} (hg : l[k]? = some r) : (Rul.rusC l)[k]? = some (Rul.ruV r) := by rw [Rul.rusC_map, List.getElem?_map, hg]; rfl
abbrev NV6 (l u : List Rul.Ru) (k : Int) : Env := [(0, .list .no (Rul.rusC l)), (1, .list .no (Rul.rusC u)), (14, .v (.int .i64 l.length)), (15, .v (.int .i64 k))]
theorem reg6 {l u : List Rul.Ru} {k : Nat} {a0 b0 : Int} {a1 b1 : List Int} {a2 b2 : List Rul.CV} {a3 b3 : List Rul.Dc} {a4 b4 : List Rul.Ru} (hlo : lo ≤ h.length)
  (hg : (Rul.rusC l)[k]? = some [.v (.int .i64 a0), .v (.string (bs a1)), .list .no (Rul.rowsC a2), .list .no (a3.map Rul.declC), .list .no (Rul.rusC a4)])
  (hu : (Rul.rusC u)[k]? = some [.v (.int .i64 b0), .v (.string (bs b1)), .list .no (Rul.rowsC b2), .list .no (b3.map Rul.declC), .list .no (Rul.rusC b4)]) :
  evRegion ⟨Tryd.prog, E, lo, h.length, h6⟩ 6 (regOps b6 6) true ([(0, .list .no (Rul.rusC l)), (1, .list .no (Rul.rusC u)), (5, .v (.int .i64 k)), (14, .v (.int .i64 l.length)), (15, .v (.int .i64 k))], h) =
   some ([(0, .list .no (Rul.rusC l)), (1, .list .no (Rul.rusC u)), (6, .ptr h.length 0), (7, .ptr (h.length + 1) 0), (14, .v (.int .i64 l.length)), (15, .v (.int .i64 k))],
    h ++ [.cells [.v (.int .i64 a0), .v (.string (bs a1)), .list .no (Rul.rowsC a2), .list .no (a3.map Rul.declC), .list .no (Rul.rusC a4)], .cells [.v (.int .i64 b0), .v (.string (bs b1)), .list .no (Rul.rowsC b2), .list .no (b3.map Rul.declC), .list .no (Rul.rusC b4)]]) := by
 have hlo' : lo ≤ h.length + 1 := by omega
 have hs : h.length + 1 < h.length + 2 := by omega
 simp only [regOps, regsC, b6, Tryd.f6, bodyOf, List.lookup, Nat.reduceBEq, List.cons_append, List.nil_append, List.append_assoc, Option.getD]
 simp only [go_sem, hlo, hlo', hs, hg, hu]
 all_goals rfl
theorem rv6 {l u : List Rul.Ru} {k : Nat} {a0 b0 : Int} {a1 b1 : List Int} {a2 b2 : List Rul.CV} {a3 b3 : List Rul.Dc} {a4 b4 : List Rul.Ru} (hlo : lo ≤ h.length) (hl : l.length ≤ 1000000000) (hg : l[k]? = some (.mk a0 a1 a2 a3 a4)) (hu : u[k]? = some (.mk b0 b1 b2 b3 b4)) (hb : OkR (.mk a0 a1 a2 a3 a4)) (hc : OkR (.mk b0 b1 b2 b3 b4))
  (ih : ∀ lo h, lo ≤ h.length → E lo 6 [.list .no (Rul.rusC a4), .list .no (Rul.rusC b4)] h = some (.v (.bool (eqRs a4 b4)), h)) :
  evCode ⟨Tryd.prog, E, lo, h.length, h6⟩ loopW l6x0 (NV6 l u k, h) = if eqR (.mk a0 a1 a2 a3 a4) (.mk b0 b1 b2 b3 b4) = true then some (.normal, NV6 l u (k + 1 : Nat), h) else some (.ret, [(4, .v (.bool false))], h ++ [.cells (Rul.ruV (.mk a0 a1 a2 a3 a4)), .cells (Rul.ruV (.mk b0 b1 b2 b3 b4))]) := by
 have hlt : k < l.length := (List.getElem?_eq_some_iff.1 hg).1
 have hgr := rus_get hg
 have hur := rus_get hu
 rw [ruV_eq] at hgr hur
 rw [ruV_eq, ruV_eq]
 have hR := reg6 hlo hgr hur
 simp only [regOps, regsC, b6, Tryd.f6, bodyOf, List.lookup, Nat.reduceBEq, List.cons_append, List.nil_append, List.append_assoc, Option.getD] at hR
 have q : decide ((k : Int) < (l.length : Int)) = true := by simp; omega
 have hw : IntKind.i64.wrap ((k : Int) + 1) = ((k + 1 : Nat) : Int) := wrap_succ (by omega)
 rw [okR_eq] at hb hc
 have b1' := bs_beq hb.1 hc.1
 have hlo1 : lo ≤ h.length + 1 := by omega
 have hlo2 : lo ≤ h.length + 2 := by omega
 have c10 := fun lo hlo => f10 _ a2 b2 lo (h ++ [.cells [.v (.int .i64 a0), .v (.string (bs a1)), .list .no (Rul.rowsC a2), .list .no (a3.map Rul.declC), .list .no (Rul.rusC a4)], .cells [.v (.int .i64 b0), .v (.string (bs b1)), .list .no (Rul.rowsC b2), .list .no (b3.map Rul.declC), .list .no (Rul.rusC b4)]]) (Nat.le_refl _) hb.2.2.1.hn hc.2.2.1.hn (byL_ok hb.2.2.1) (byL_ok hc.2.2.1) hlo
 have c10a := c10 lo (by simp; omega); have c10b := c10 h.length (by simp); have c10c := c10 (h.length + 2) (by simp)
 have c11 := fun lo hlo => f11 (lo := lo) (h := h ++ [.cells [.v (.int .i64 a0), .v (.string (bs a1)), .list .no (Rul.rowsC a2), .list .no (a3.map Rul.declC), .list .no (Rul.rusC a4)], .cells [.v (.int .i64 b0), .v (.string (bs b1)), .list .no (Rul.rowsC b2), .list .no (b3.map Rul.declC), .list .no (Rul.rusC b4)]]) (l := a3) (u := b3) hlo hb.2.2.2.1 hc.2.2.2.1 (fun d hd => okE (hb.2.2.2.2.1 d hd)) (fun d hd => okE (hc.2.2.2.2.1 d hd))
 have c11a := c11 lo (by simp; omega); have c11b := c11 h.length (by simp); have c11c := c11 (h.length + 2) (by simp)
 have c6 := fun lo hlo => ih lo (h ++ [.cells [.v (.int .i64 a0), .v (.string (bs a1)), .list .no (Rul.rowsC a2), .list .no (a3.map Rul.declC), .list .no (Rul.rusC a4)], .cells [.v (.int .i64 b0), .v (.string (bs b1)), .list .no (Rul.rowsC b2), .list .no (b3.map Rul.declC), .list .no (Rul.rusC b4)]]) hlo
 have c6a := c6 lo (by simp; omega); have c6b := c6 h.length (by simp); have c6c := c6 (h.length + 2) (by simp)
 clear c10 c11 c6
 rw [eqR]
 have q1 : (a0 != b0) = !(a0 == b0) := rfl
 cases e0 : a0 == b0 with
 | false =>
  rw [e0] at q1
  rw [Bool.false_and, if_neg (by simp)]
  simp only [go_sem, l6x0, b6, Tryd.f6, hlo, hlo1, hlo2, q, ↓hR, hw, q1, Rul.rusC_len, Bool.not_false]
  all_goals rfl
 | true =>
  rw [e0] at q1
  rw [Bool.true_and]
  cases e1 : a1 == b1 with
  | false =>
   rw [e1] at b1'
   rw [Bool.false_and, if_neg (by simp)]
   simp only [go_sem, l6x0, b6, Tryd.f6, hlo, hlo1, hlo2, q, ↓hR, hw, q1, b1', Rul.rusC_len, Bool.not_true, Bool.not_false]
   all_goals rfl
  | true =>
   rw [e1] at b1'
   rw [Bool.true_and]
   cases e2 : eqL a2 b2 with
   | false =>
    rw [e2] at c10a c10b c10c
    rw [Bool.false_and, if_neg (by simp)]
    simp only [go_sem, l6x0, b6, Tryd.f6, hlo, hlo1, hlo2, q, ↓hR, hw, q1, b1', c10a, c10b, c10c, Rul.rusC_len, Bool.not_true, Bool.not_false]
    all_goals rfl
   | true =>
    rw [e2] at c10a c10b c10c
    rw [Bool.true_and]
    cases e3 : eqDs a3 b3 with
    | false =>
     rw [e3] at c11a c11b c11c
     rw [Bool.false_and, if_neg (by simp)]
     simp only [go_sem, l6x0, b6, Tryd.f6, hlo, hlo1, hlo2, q, ↓hR, hw, q1, b1', c10a, c10b, c10c, c11a, c11b, c11c, Rul.rusC_len, Bool.not_true, Bool.not_false]
     all_goals rfl
    | true =>
     rw [e3] at c11a c11b c11c
     rw [Bool.true_and]
     cases e4 : eqRs a4 b4 with
     | false =>
      rw [e4] at c6a c6b c6c
      rw [if_neg (by simp)]
      simp only [go_sem, l6x0, b6, Tryd.f6, hlo, hlo1, hlo2, q, ↓hR, hw, q1, b1', c10a, c10b, c10c, c11a, c11b, c11c, c6a, c6b, c6c, Rul.rusC_len, Bool.not_true, Bool.not_false]
      all_goals rfl
     | true =>
      rw [e4] at c6a c6b c6c
      rw [if_pos rfl]
      simp only [go_sem, l6x0, b6, Tryd.f6, hlo, hlo1, hlo2, q, ↓hR, hw, q1, b1', c10a, c10b, c10c, c11a, c11b, c11c, c6a, c6b, c6c, Rul.rusC_len, Bool.not_true, Bool.not_false]
      all_goals rfl
theorem sv6 {l u : List Rul.Ru} (hlo : lo ≤ h.length) : evCode ⟨Tryd.prog, E, lo, h.length, h6⟩ loopW l6x0 (NV6 l u l.length, h) =
   some (.exit 0, NV6 l u l.length ++ [(16, .v (.bool false))], h) := by
 have q : decide ((l.length : Int) < (l.length : Int)) = false := by simp
 simp only [go_sem, l6x0, b6, Tryd.f6, hlo, q]
 all_goals rfl
theorem lv6 {l u : List Rul.Ru} (hlo : lo ≤ h.length) (hl : l.length ≤ 1000000000) (hlu : l.length = u.length) (hb : OkRs l) (hc : OkRs u)
  (ih : ∀ v ∈ l, ∀ y ∈ u, ∀ lo h, lo ≤ h.length → E lo 6 [.list .no (Rul.rusC (kidsR v)), .list .no (Rul.rusC (kidsR y))] h = some (.v (.bool (eqRs (kidsR v) (kidsR y))), h)) : ∀ (m k : Nat), k + m = l.length →
  if eqRs (l.drop k) (u.drop k) = true then
   loopW (evCode ⟨Tryd.prog, E, lo, h.length, h6⟩ loopW l6x0) (NV6 l u k, h) = some (.exit 0, NV6 l u l.length ++ [(16, .v (.bool false))], h)
  else ∃ X, loopW (evCode ⟨Tryd.prog, E, lo, h.length, h6⟩ loopW l6x0) (NV6 l u k, h) = some (.ret, [(4, .v (.bool false))], h ++ X) := by
 intro m
 induction m with
 | zero =>
  intro k hk
  obtain rfl : k = l.length := by omega
  have e : u.drop l.length = [] := List.drop_eq_nil_of_le (by omega)
  rw [List.drop_length, e, if_pos eqRs_nil, loop_eq, sv6 hlo, loop_e]
 | succ m ihm =>
  intro k hk
  have hlt : k < l.length := by omega
  have hlt2 : k < u.length := by omega
  have hg : l[k]? = some l[k] := List.getElem?_eq_getElem hlt
  have hu : u[k]? = some u[k] := List.getElem?_eq_getElem hlt2
  have m1 := List.getElem_mem hlt
  have m2 := List.getElem_mem hlt2
  have i1 := ih _ m1 _ m2
  have o1 := okRs_mem hb m1
  have o2 := okRs_mem hc m2
  rw [List.drop_eq_getElem_cons hlt, List.drop_eq_getElem_cons hlt2, eqRs_cons]
  generalize l[k] = v at *
  generalize u[k] = y at *
  obtain ⟨a0, a1, a2, a3, a4⟩ := v
  obtain ⟨b0, b1, b2, b3, b4⟩ := y
  have hr := rv6 (lo := lo) (h := h) hlo hl hg hu o1 o2 i1
  cases hm : eqR (.mk a0 a1 a2 a3 a4) (.mk b0 b1 b2 b3 b4) with
  | false =>
   rw [hm, if_neg (by simp)] at hr
   rw [Bool.false_and, if_neg (by simp)]
   exact ⟨_, by rw [loop_eq, hr, loop_r]⟩
  | true =>
   rw [hm, if_pos rfl] at hr
   rw [Bool.true_and, loop_eq, hr, loop_n]
   exact ihm (k + 1) (by omega)
theorem f6 : ∀ (n : Nat) (l u : List Rul.Ru) (lo : Nat) (h : Heap), costRs l ≤ n → OkRs l → OkRs u → l.length ≤ 1000000000 → u.length ≤ 1000000000 → lo ≤ h.length →
  E lo 6 [.list .no (Rul.rusC l), .list .no (Rul.rusC u)] h = some (.v (.bool (eqRs l u)), h) := by
 intro n
 induction n with
 | zero =>
  intro l u lo h hn hb hc hl hul hlo
  have hz : l = [] := by
   cases l with
   | nil => rfl
   | cons r l =>
    rw [costRs_cons] at hn
    have := kids_cost (r := r)
    omega
  subst hz
  have n0 : ((0 : Nat) : Int) = 0 := rfl
  rw [e6 (by simp) (by rfl)]
  cases u with
  | nil =>
   have hL := lv6 (lo := lo) (h := h) (l := []) (u := []) hlo (by simp) rfl hb hc (fun v hv => by cases hv) 0 0 rfl
   rw [List.drop_zero, if_pos eqRs_nil] at hL
   rw [eqRs_nil]
   simp only [l6x0, b6, Tryd.f6, loopAt, loops, bodyOf, go_sem, NV6, n0, List.cons_append, List.nil_append, List.length_nil] at hL
   have q : ((0 : Int) != 0) = false := rfl
   simp only [go_sem, b6, Tryd.f6, hlo, hL, Rul.rusC_len, n0, List.length_nil, q, Int.reduceBNe]
   all_goals rfl
  | cons y r =>
   rw [eqRs_len (by simp)]
   have q : ((0 : Int) != ((r.length + 1 : Nat) : Int)) = true := by simp; omega
   simp only [go_sem, b6, Tryd.f6, hlo, Rul.rusC_len, n0, List.length_nil, q]
   all_goals rfl
 | succ n ihn =>
  intro l u lo h hn hb hc hl hul hlo
  have n0 : ((0 : Nat) : Int) = 0 := rfl
  rw [e6 (by simp) (by rfl)]
  by_cases hq : l.length = u.length
  ·have q : ((l.length : Int) != (u.length : Int)) = false := by simp [hq]
   have hL := lv6 (lo := lo) (h := h) (l := l) (u := u) hlo (by omega) hq hb hc (fun v hv y hy lo h hlo => by
    have h1 := costRs_mem hv
    have h2 := kids_cost (r := v)
    have h3 := kids_ok (okRs_mem hb hv)
    have h4 := kids_ok (okRs_mem hc hy)
    exact ihn (kidsR v) (kidsR y) lo h (by omega) h3.1 h4.1 h3.2 h4.2 hlo) l.length 0 (by omega)
   rw [List.drop_zero, List.drop_zero] at hL
   cases hm : eqRs l u with
   | false =>
    rw [hm, if_neg (by simp)] at hL
    obtain ⟨X, hL⟩ := hL
    simp only [l6x0, b6, Tryd.f6, loopAt, loops, bodyOf, go_sem, NV6, n0] at hL
    simp only [go_sem, b6, Tryd.f6, hlo, hL, Rul.rusC_len, n0, q]
    all_goals rfl
   | true =>
    rw [hm, if_pos rfl] at hL
    simp only [l6x0, b6, Tryd.f6, loopAt, loops, bodyOf, go_sem, NV6, n0, List.cons_append, List.nil_append] at hL
    simp only [go_sem, b6, Tryd.f6, hlo, hL, Rul.rusC_len, n0, q]
    all_goals rfl
  ·have q : ((l.length : Int) != (u.length : Int)) = true := by simp; omega
   rw [eqRs_len hq]
   simp only [go_sem, b6, Tryd.f6, hlo, Rul.rusC_len, n0, q]
   all_goals rfl
end Go.Lift.D7
end
