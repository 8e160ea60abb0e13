/- spell.Tokens. -/
import Derived.Test.YtehffjejplpaeaaDoorGKb
import Derived.Test.YtehffjejplpaeaaDoorGKd
import Derived.Test.YtehffjejplpaeaaDoorGKf
set_option linter.unusedVariables false
set_option linter.unusedSimpArgs false
set_option linter.unusedSectionVars false
section
open Go.Proofs
namespace Go.Lift.D7
variable [MX]
open Utf Tok Spell
set_option maxRecDepth 20000
set_option maxHeartbeats 4000000
structure Tk4 where
 k : Int
 b : List Int
 n : Int
 d : Int
 w : Bool
 i : Bool
def row (t : Tk4) : List V := tokV t.k t.b t.n t.d t.w t.i
structure TokOk (t : Tk4) : Prop where
 hy : By t.b
 hl : t.b.length ≤ 10000000
 h0 : -9223372036854775808 ≤ t.n
 h1 : t.n ≤ 9223372036854775807
 h2 : -9223372036854775808 ≤ t.d
 h3 : t.d ≤ 9223372036854775807
def may4 (t : Tk4) : Bool := mayV t.k t.b t.n t.d t.w t.i
def txt4 (t : Tk4) : List Int := tokenT t.k t.b t.n t.d t.w t.i
def sepT (p : Option Int) (k : Int) : List Int := match p with
 | none => []
 | some j => if apartT j k = true then [47, 42, 42, 47] else []
def tokensT (p : Option Int) : List Tk4 → List Int
 | [] => []
 | t :: l => sepT p t.k ++ (txt4 t ++ tokensT (some t.k) l)
def cost : List Tk4 → Nat
 | [] => 0
 | t :: l => 10 * t.b.length + 304 + cost l
theorem sep_len (p : Option Int) (k : Int) : (sepT p k).length ≤ 4 := by
 unfold sepT
 split
 ·simp
 ·split <;> simp
theorem sep_by (p : Option Int) (k : Int) : By (sepT p k) := by
 unfold sepT
 split
 ·exact by_nil
 ·split
  ·exact by_cons (by omega) (by omega) (by_cons (by omega) (by omega) (by_cons (by omega) (by omega) (by_cons (by omega) (by omega) by_nil)))
  ·exact by_nil
theorem txt_len {t : Tk4} (h : TokOk t) : (txt4 t).length ≤ 10 * t.b.length + 300 := tokenT_len (plainT_ok h.h0 h.h1 h.h2 h.h3).2
theorem txt_by {t : Tk4} (h : TokOk t) : By (txt4 t) := tokenT_by h.hy (plainT_ok h.h0 h.h1 h.h2 h.h3).1
theorem tokens_len : ∀ (l : List Tk4) (p : Option Int), (∀ t ∈ l, TokOk t) → (tokensT p l).length ≤ cost l
 | [], _, _ => by simp [tokensT, cost]
 | t :: l, p, h => by
  have := txt_len (h t (by simp))
  have := sep_len p t.k
  have := tokens_len l (some t.k) fun x hx => h x (by simp [hx])
  simp only [tokensT, cost, List.length_append]
  omega
theorem tokens_by : ∀ (l : List Tk4) (p : Option Int), (∀ t ∈ l, TokOk t) → By (tokensT p l)
 | [], _, _ => by_nil
 | t :: l, p, h => by_app (sep_by p t.k) (by_app (txt_by (h t (by simp))) (tokens_by l _ fun x hx => h x (by simp [hx])))
def prevK (l : List Tk4) : Nat → Option Int
 | 0 => none
 | j + 1 => (l[j]?).map (·.k)
section
variable {lo : Nat} {h : Heap} {l : List Tk4} {t : Tk4} {p0 : V} {out : List Int} {Y : Heap} {k : Nat}
theorem bs_4742 : (⟨#[47, 42, 42, 47]⟩ : ByteArray) = bs [47, 42, 42, 47] := rfl
abbrev N20 (h : Heap) (l : List Tk4) (k : Nat) : Env := [(0, .list .no (l.map row)), (4, .ptr h.length 0), (9, .list .no (l.map row)), (10, .v (.int .i64 l.length)), (11, .v (.int .i64 k))]
abbrev H20 (h : Heap) (p0 : V) (out : List Int) (Y : Heap) : Heap := h ++ .cells [p0, .list .yes (ri .u8 out)] :: Y
theorem at_end (o c : Ob) : (h ++ o :: (Y ++ [c]))[h.length + (Y.length + 1)]? = some c := by
 rw [List.getElem?_append_right (by omega)]
 simp
theorem round20z (hlo : lo ≤ h.length) (hp : okP h.length p0 = true) (hg : l[0]? = some t) (hok : TokOk t) (hm : may4 t = true) (hl : l.length ≤ 1000000000) (ho : out.length ≤ 900000000) :
  evCode ⟨Tryd.prog, E, lo, h.length, h39⟩ loopW l39x0 (N20 h l 0, H20 h p0 out Y) =
   some (.normal, N20 h l 1, H20 h (.ptr h.length 0) (out ++ txt4 t) (Y ++ [.cells (row t)])) := by
 have hlt : 0 < l.length := (List.getElem?_eq_some_iff.1 hg).1
 have hgr : (l.map row)[0]? = some (row t) := by simp [hg]
 have q : decide ((0 : Int) < (l.length : Int)) = true := by simp; omega
 have q0 : decide ((0 : Int) < 0) = false := rfl
 have w1 : IntKind.i64.wrap (0 + 1) = 1 := rfl
 have k17 := fun lo hlo => f31 (lo := lo) (h := H20 h p0 out (Y ++ [.cells (row t)])) (k := t.k) (b := t.b) (n := t.n) (d := t.d) (w := t.w) (i := t.i) hlo hok.hy hok.hl hok.h0 hok.h1 hok.h2 hok.h3
 have er : tokR t.k t.b t.n t.d t.w t.i = .tup [.v (.string (bs (txt4 t))), .v (.int .i64 0)] := by
  unfold tokR okV; unfold may4 at hm; rw [hm]; rfl
 rw [er] at k17
 have hl1 : lo ≤ (H20 h p0 out (Y ++ [.cells (row t)])).length := by simp; omega
 have hl2 : h.length ≤ (H20 h p0 out (Y ++ [.cells (row t)])).length := by simp
 have k17a := k17 lo hl1; have k17b := k17 h.length hl2; have k17c := k17 (H20 h p0 out (Y ++ [.cells (row t)])).length (Nat.le_refl _)
 have htl := txt_len hok
 have hbl := hok.hl
 have c48 := fun lo hlo => f19 (lo := lo) (p := h) (q := Y ++ [.cells (row t)]) (p0 := p0) (out := out) hlo hp (s := txt4 t) (txt_by hok) (by omega) (by omega)
 have c48a := c48 lo hlo; have c48b := c48 h.length (Nat.le_refl _)
 clear k17 c48
 have n0 : ((0 : Nat) : Int) = 0 := rfl
 have n1 : ((1 : Nat) : Int) = 1 := rfl
 have hlo2 : lo ≤ List.length h + (List.length Y + 1) := by omega
 have hat : ∀ o c : Ob, (h ++ o :: (Y ++ [c]))[h.length + (Y.length + 1)]? = some c := at_end
 rw [N20, n0, N20, n1]
 unfold row tokV at *
 simp only [go_sem, l39x0, b39, Tryd.f39, q, q0, hgr, w1, hlo, hlo2, hat, k17a, k17b, k17c, c48a, c48b, Int.reduceBNe, List.append_assoc, List.cons_append, List.nil_append]
theorem round20s {j : Nat} {t0 : Tk4} (hlo : lo ≤ h.length) (hp : okP h.length p0 = true) (hg0 : l[j]? = some t0) (hg : l[j + 1]? = some t) (hok : TokOk t) (hm : may4 t = true) (hl : l.length ≤ 1000000000) (ho : out.length ≤ 900000000) :
  evCode ⟨Tryd.prog, E, lo, h.length, h39⟩ loopW l39x0 (N20 h l (j + 1), H20 h p0 out Y) =
   some (.normal, N20 h l (j + 1 + 1), H20 h (.ptr h.length 0) (out ++ (sepT (some t0.k) t.k ++ txt4 t)) (Y ++ [.cells (row t)])) := by
 have hlt : j + 1 < l.length := (List.getElem?_eq_some_iff.1 hg).1
 have hgr : (l.map row)[j + 1]? = some (row t) := by simp [hg]
 have hgr0 : (l.map row)[j]? = some (row t0) := by simp [hg0]
 have q : decide (((j + 1 : Nat) : Int) < (l.length : Int)) = true := by simp; omega
 have q0 : decide ((0 : Int) < ((j + 1 : Nat) : Int)) = true := by rw [decide_eq_true_iff]; omega
 have w1 : IntKind.i64.wrap (((j + 1 : Nat) : Int) + 1) = ((j + 1 + 1 : Nat) : Int) := wrap_succ (by omega)
 have w2 : IntKind.i64.wrap (((j + 1 : Nat) : Int) - 1) = (j : Int) := by
  have e : ((j + 1 : Nat) : Int) - 1 = (j : Int) := by omega
  rw [e]
  exact wrap_i64 (by omega) (by omega)
 have k17 := fun lo hlo => f31 (lo := lo) (h := H20 h p0 out (Y ++ [.cells (row t)])) (k := t.k) (b := t.b) (n := t.n) (d := t.d) (w := t.w) (i := t.i) hlo hok.hy hok.hl hok.h0 hok.h1 hok.h2 hok.h3
 have er : tokR t.k t.b t.n t.d t.w t.i = .tup [.v (.string (bs (txt4 t))), .v (.int .i64 0)] := by
  unfold tokR okV; unfold may4 at hm; rw [hm]; rfl
 rw [er] at k17
 have hl1 : lo ≤ (H20 h p0 out (Y ++ [.cells (row t)])).length := by simp; omega
 have hl2 : h.length ≤ (H20 h p0 out (Y ++ [.cells (row t)])).length := by simp
 have k17a := k17 lo hl1; have k17b := k17 h.length hl2; have k17c := k17 (H20 h p0 out (Y ++ [.cells (row t)])).length (Nat.le_refl _)
 have k47 := fun lo hlo => f49 (lo := lo) (h := H20 h p0 out (Y ++ [.cells (row t)])) (ka := t0.k) (ta := t0.b) (na := t0.n) (da := t0.d) (wa := t0.w) (ia := t0.i) (kb := t.k) (tb := t.b) (nb := t.n) (db := t.d) (wb := t.w) (ib := t.i) hlo
 have k47a := k47 lo hl1; have k47b := k47 h.length hl2; have k47c := k47 (h.length + (Y.length + 1 + 1)) (by simp)
 have htl := txt_len hok
 have hbl := hok.hl
 have c48 := fun lo hlo => f19 (lo := lo) (p := h) (q := Y ++ [.cells (row t)]) (p0 := p0) (out := out) hlo hp (s := txt4 t) (txt_by hok) (by omega) (by omega)
 have c48a := c48 lo hlo; have c48b := c48 h.length (Nat.le_refl _)
 have d48 := fun lo hlo => f19 (lo := lo) (p := h) (q := Y ++ [.cells (row t)]) (p0 := p0) (out := out) hlo hp (s := [47, 42, 42, 47]) (by_cons (by omega) (by omega) (by_cons (by omega) (by omega) (by_cons (by omega) (by omega) (by_cons (by omega) (by omega) by_nil)))) (by omega) (by simp)
 have d48a := d48 lo hlo; have d48b := d48 h.length (Nat.le_refl _)
 have g48 := fun lo hlo => f19 (lo := lo) (p := h) (q := Y ++ [.cells (row t)]) (p0 := .ptr h.length 0) (out := out ++ [47, 42, 42, 47]) hlo ok_self (s := txt4 t) (txt_by hok) (by simp; omega) (by omega)
 have g48a := g48 lo hlo; have g48b := g48 h.length (Nat.le_refl _)
 clear k17 c48 d48 g48 k47
 have hlo2 : lo ≤ List.length h + (List.length Y + 1) := by omega
 have hat : ∀ o c : Ob, (h ++ o :: (Y ++ [c]))[h.length + (Y.length + 1)]? = some c := at_end
 rw [N20, N20]
 unfold row tokV at *
 unfold sepT
 simp only
 cases qa : apartT t0.k t.k with
 | true =>
  rw [qa] at k47a k47b k47c
  rw [if_pos rfl]
  rw [List.append_assoc] at g48a g48b
  simp only [go_sem, l39x0, b39, Tryd.f39, q, q0, hgr, hgr0, w1, w2, hlo, hlo2, hat, k17a, k17b, k17c, k47a, k47b, k47c, bs_4742, d48a, d48b, g48a, g48b, Int.reduceBNe, List.append_assoc, List.cons_append, List.nil_append]
  all_goals rfl
 | false =>
  rw [qa] at k47a k47b k47c
  rw [if_neg (by simp), List.nil_append]
  simp only [go_sem, l39x0, b39, Tryd.f39, q, q0, hgr, hgr0, w1, w2, hlo, hlo2, hat, k17a, k17b, k17c, k47a, k47b, k47c, c48a, c48b, Int.reduceBNe, List.append_assoc, List.cons_append, List.nil_append]
  all_goals rfl
theorem err20 {k : Nat} (hlo : lo ≤ h.length) (hg : l[k]? = some t) (hok : TokOk t) (hm : may4 t = false) (hl : l.length ≤ 1000000000) :
  evCode ⟨Tryd.prog, E, lo, h.length, h39⟩ loopW l39x0 (N20 h l k, H20 h p0 out Y) =
   some (.ret, [(2, .v (.string (bs []))), (3, .v (.int .i64 1))], H20 h p0 out (Y ++ [.cells (row t)])) := by
 have hlt : k < l.length := (List.getElem?_eq_some_iff.1 hg).1
 have hgr : (l.map row)[k]? = some (row t) := by simp [hg]
 have q : decide ((k : Int) < (l.length : Int)) = true := by simp; omega
 have k17 := fun lo hlo => f31 (lo := lo) (h := H20 h p0 out (Y ++ [.cells (row t)])) (k := t.k) (b := t.b) (n := t.n) (d := t.d) (w := t.w) (i := t.i) hlo hok.hy hok.hl hok.h0 hok.h1 hok.h2 hok.h3
 have er : tokR t.k t.b t.n t.d t.w t.i = .tup [.v (.string (bs [])), .v (.int .i64 1)] := by
  unfold tokR errV; unfold may4 at hm; rw [hm]; rfl
 rw [er] at k17
 have hl1 : lo ≤ (H20 h p0 out (Y ++ [.cells (row t)])).length := by simp; omega
 have hl2 : h.length ≤ (H20 h p0 out (Y ++ [.cells (row t)])).length := by simp
 have k17a := k17 lo hl1; have k17b := k17 h.length hl2; have k17c := k17 (H20 h p0 out (Y ++ [.cells (row t)])).length (Nat.le_refl _)
 clear k17
 have hlo2 : lo ≤ List.length h + (List.length Y + 1) := by omega
 have hat : ∀ o c : Ob, (h ++ o :: (Y ++ [c]))[h.length + (Y.length + 1)]? = some c := at_end
 rw [N20]
 unfold row tokV at *
 simp only [go_sem, l39x0, b39, Tryd.f39, q, hgr, hlo, hlo2, hat, k17a, k17b, k17c, Int.reduceBNe, List.append_assoc, List.cons_append, List.nil_append]
 all_goals rfl
theorem stop39 (hlo : lo ≤ h.length) : loopW (evCode ⟨Tryd.prog, E, lo, h.length, h39⟩ loopW l39x0) (N20 h l l.length, H20 h p0 out Y) =
   some (.exit 0, N20 h l l.length ++ [(12, .v (.bool false))], H20 h p0 out Y) := by
 have q : decide ((l.length : Int) < (l.length : Int)) = false := by simp
 rw [loop_eq]
 simp only [go_sem, l39x0, b39, Tryd.f39, hlo, q]
 all_goals rfl
theorem loop39 (hlo : lo ≤ h.length) (hl : l.length ≤ 1000000000) (hok : ∀ t ∈ l, TokOk t) : ∀ (m k : Nat) (p0 : V) (out : List Int) (Y : Heap), k + m = l.length → okP h.length p0 = true → out.length + cost (l.drop k) ≤ 900000000 →
  if (l.drop k).all may4 = true then
   ∃ p1 Z, okP h.length p1 = true ∧ loopW (evCode ⟨Tryd.prog, E, lo, h.length, h39⟩ loopW l39x0) (N20 h l k, H20 h p0 out Y) = some (.exit 0, N20 h l l.length ++ [(12, .v (.bool false))], H20 h p1 (out ++ tokensT (prevK l k) (l.drop k)) Z)
  else ∃ p1 o Z, loopW (evCode ⟨Tryd.prog, E, lo, h.length, h39⟩ loopW l39x0) (N20 h l k, H20 h p0 out Y) = some (.ret, [(2, .v (.string (bs []))), (3, .v (.int .i64 1))], H20 h p1 o Z) := by
 intro m
 induction m with
 | zero =>
  intro k p0 out Y hk hp _
  obtain rfl : k = l.length := by omega
  rw [List.drop_length, if_pos (show ([] : List Tk4).all may4 = true from rfl)]
  exact ⟨p0, Y, hp, by rw [stop39 hlo, tokensT, List.append_nil]⟩
 | succ m ih =>
  intro k p0 out Y hk hp ho
  have hlt : k < l.length := by omega
  have hg : l[k]? = some l[k] := List.getElem?_eq_getElem hlt
  have hd : l.drop k = l[k] :: l.drop (k + 1) := List.drop_eq_getElem_cons hlt
  have hok1 := hok l[k] (List.getElem_mem hlt)
  rw [hd] at ho ⊢
  generalize l[k] = t at *
  simp only [cost] at ho
  cases hm : may4 t with
  | false =>
   rw [List.all_cons, hm, Bool.false_and, if_neg (by simp)]
   exact ⟨p0, out, Y ++ [.cells (row t)], by rw [loop_eq, err20 hlo hg hok1 hm hl, loop_r]⟩
  | true =>
   have htl := txt_len hok1
   have hsl := sep_len (prevK l k) t.k
   have er : evCode ⟨Tryd.prog, E, lo, h.length, h39⟩ loopW l39x0 (N20 h l k, H20 h p0 out Y) = some (.normal, N20 h l (k + 1), H20 h (.ptr h.length 0) (out ++ (sepT (prevK l k) t.k ++ txt4 t)) (Y ++ [.cells (row t)])) := by
    cases k with
    | zero => exact round20z hlo hp hg hok1 hm hl (by omega)
    | succ j =>
     have hg0 : l[j]? = some l[j] := List.getElem?_eq_getElem (by omega)
     have e : prevK l (j + 1) = some l[j].k := by show (l[j]?).map (·.k) = _; rw [hg0]; rfl
     rw [e]
     exact round20s hlo hp hg0 hg hok1 hm hl (by omega)
   have ek : prevK l (k + 1) = some t.k := by show (l[k]?).map (·.k) = _; rw [hg]; rfl
   have et : tokensT (prevK l k) (t :: l.drop (k + 1)) = (sepT (prevK l k) t.k ++ txt4 t) ++ tokensT (some t.k) (l.drop (k + 1)) := by simp [tokensT]
   have := ih (k + 1) (.ptr h.length 0) (out ++ (sepT (prevK l k) t.k ++ txt4 t)) (Y ++ [.cells (row t)]) (by omega) ok_self (by simp only [List.length_append]; omega)
   rw [List.all_cons, hm, Bool.true_and, loop_eq, er, loop_n, et]
   rw [ek, List.append_assoc] at this
   exact this
def toksR (l : List Tk4) : V := if l.all may4 = true then okV (tokensT none l) else errV
theorem f39 (hlo : lo ≤ h.length) (hl : l.length ≤ 1000000000) (hok : ∀ t ∈ l, TokOk t) (hc : cost l ≤ 900000000) : E lo 39 [.list .no (l.map row)] h = some (toksR l, h) := by
 have hL := loop39 (lo := lo) (h := h) hlo hl hok l.length 0 (.v (.pointer none)) [] [] (by omega) rfl (by rw [List.drop_zero]; simpa using hc)
 have n0 : ((0 : Nat) : Int) = 0 := rfl
 have hlen := tokens_len l none hok
 rw [List.drop_zero] at hL
 unfold toksR
 rw [e39 (by simp) (by rfl)]
 cases hm : l.all may4 with
 | false =>
  rw [hm, if_neg (by simp)] at hL
  obtain ⟨p1, o, Z, hL⟩ := hL
  rw [if_neg (by simp)]
  simp only [l39x0, b39, Tryd.f39, loopAt, loops, bodyOf, go_sem, ri_nil, H20, N20, n0, List.length_map] at hL
  simp only [go_sem, b39, Tryd.f39, hlo, hL, List.length_map]
  all_goals rfl
 | true =>
  rw [hm, if_pos rfl] at hL
  obtain ⟨p1, Z, hp1, hL⟩ := hL
  rw [if_pos rfl]
  have e : prevK l 0 = none := rfl
  rw [e, List.nil_append] at hL
  have k := fun lo hlo => f21 (lo := lo) (p := h) (q := Z) (p0 := p1) (out := tokensT none l) hlo (tokens_by l none hok) (by omega)
  have ka := k lo hlo; have kb := k h.length (Nat.le_refl _)
  simp only [l39x0, b39, Tryd.f39, loopAt, loops, bodyOf, go_sem, ri_nil, H20, N20, n0, List.length_map, List.cons_append, List.nil_append] at hL
  simp only [go_sem, b39, Tryd.f39, hlo, hL, ka, kb, List.length_map]
  all_goals rfl
end
end Go.Lift.D7
end

section
open Go.Proofs
namespace Go.Lift.D7
variable [MX]
open Utf Tok Spell
set_option maxRecDepth 20000
set_option maxHeartbeats 4000000
variable {lo : Nat} {h : Heap}
def ofR (t : Rul.Tk4) : Tk4 := ⟨t.k, t.b, t.n, t.d, t.w, t.i⟩
theorem rows_ofR (l : List Rul.Tk4) : l.map Rul.row = (l.map ofR).map row := by
 rw [List.map_map]
 rfl
theorem all_ofR (l : List Rul.Tk4) : (l.map ofR).all may4 = l.all mayT := by
 rw [List.all_map]
 rfl
theorem ok_ofR {l : List Rul.Tk4} (hok : ∀ t ∈ l, OkT t) : ∀ t ∈ l.map ofR, TokOk t := fun t ht => by
 obtain ⟨u, hu, rfl⟩ := List.mem_map.1 ht
 have := hok u hu
 exact ⟨this.hy, this.hl, this.h0, this.h1, this.h2, this.h3⟩
def valsT (l : List Rul.CV) : List Int := tokensT none ((Rul.flatL l).map ofR)
def valsR (l : List Rul.CV) : V := if fineL l = true then okV (valsT l) else errV
structure OkL (l : List Rul.CV) : Prop where
 hn : Rul.nodesL l ≤ 100000000
 hok : ∀ t ∈ Rul.flatL l, OkT t
 hc : cost ((Rul.flatL l).map ofR) ≤ 900000000
theorem toksR_eq (l : List Rul.CV) : toksR ((Rul.flatL l).map ofR) = if (Rul.flatL l).all mayT = true then okV (valsT l) else errV := by
 unfold toksR
 rw [all_ofR]
 rfl
theorem f28 {l : List Rul.CV} (hlo : lo ≤ h.length) (hL : OkL l) : E lo 28 [.list .no (Rul.rowsC l)] h = some (valsR l, h) := by
 have hfl := Rul.flatL_len l
 have hnn := hL.hn
 have c13 := fun lo hlo => f18 (lo := lo) (h := h) (l := l) hlo hL.hn hL.hok
 have c13a := c13 lo hlo; have c13b := c13 h.length (Nat.le_refl _)
 have c15 := fun lo hlo => f25 (lo := lo) (h := h) (l := l) hlo hL.hn
 have c15a := c15 lo hlo; have c15b := c15 h.length (Nat.le_refl _)
 have c14 := fun lo hlo => f39 (lo := lo) (h := h) (l := (Rul.flatL l).map ofR) hlo (by rw [List.length_map]; omega) (ok_ofR hL.hok) hL.hc
 rw [toksR_eq, ← rows_ofR] at c14
 have c14a := c14 lo hlo; have c14b := c14 h.length (Nat.le_refl _)
 clear c13 c14 c15
 unfold valsR
 rw [e28 (by simp) (by rfl)]
 cases hm : fineL l with
 | false =>
  rw [hm] at c13a c13b
  rw [if_neg (by simp)]
  unfold errV
  simp only [go_sem, b28, Tryd.f28, hlo, c13a, c13b]
  all_goals rfl
 | true =>
  rw [hm] at c13a c13b
  have ha : (Rul.flatL l).all mayT = true := by
   unfold fineL at hm
   rw [Bool.and_eq_true] at hm
   exact hm.2
  rw [if_pos ha] at c14a c14b
  rw [if_pos rfl]
  unfold okV at *
  simp only [go_sem, b28, Tryd.f28, hlo, c13a, c13b, c14a, c14b, c15a, c15b]
  all_goals rfl
end Go.Lift.D7
end

section
open Go.Proofs
namespace Go.Lift.D7
variable [MX]
open Utf Tok Spell
set_option maxRecDepth 20000
set_option maxHeartbeats 4000000
variable {lo : Nat} {h : Heap}
def nameT (b : List Int) : Bool := !b.isEmpty && sound b
theorem f22 {b : List Int} (hy : By b) (hl : b.length ≤ 1000000000) : E lo 22 [.v (.string (bs b))] h = some (.v (.bool (nameT b)), h) := by
 have k1 := fun lo h => f29 (lo := lo) (h := h) (b := b) (by omega) hy
 have k2 := fun lo h => f30 (lo := lo) (h := h) hy (c := 0) (by omega) (by omega)
 have t1 := bs_nil_eq' b
 unfold nameT sound
 rw [e22 (by simp) (by rfl)]
 by_cases hb : b = []
 ·rw [decide_eq_true hb] at t1
  have eb : b.isEmpty = true := by simp [hb]
  rw [eb]
  simp only [go_sem, b22, Tryd.f22, t1]
  all_goals rfl
 ·rw [decide_eq_false hb] at t1
  rw [ne_empty hb]
  cases q : whole b with
  | true =>
   rw [q] at k1
   simp only [go_sem, b22, Tryd.f22, t1, bytes_bs hy, k1, bs_0, k2]
   all_goals rfl
  | false =>
   rw [q] at k1
   simp only [go_sem, b22, Tryd.f22, t1, bytes_bs hy, k1]
   all_goals rfl
structure OkD (d : Rul.Dc) : Prop where
 hy : By d.name
 hl : d.name.length ≤ 10000000
 hv : OkL d.val
def claimT (d : Rul.Dc) : Bool := nameT d.name && fineL d.val
abbrev N19 (l : List Rul.Dc) (k : Int) : Env := [(5, .list .no (l.map Rul.declC)), (6, .v (.int .i64 l.length)), (7, .v (.int .i64 k))]
theorem round16 {l : List Rul.Dc} {d : Rul.Dc} {k : Nat} (hlo : lo ≤ h.length) (hl : l.length ≤ 1000000000) (hg : l[k]? = some d) (hok : OkD d) :
  evCode ⟨Tryd.prog, E, lo, h.length, h16⟩ loopW l16x0 (N19 l k, h) =
   if claimT d = true then some (.normal, N19 l (k + 1 : Nat), h) else some (.ret, [(2, .v (.bool false))], h ++ [.cells (Rul.declC d)]) := by
 have hlt : k < l.length := (List.getElem?_eq_some_iff.1 hg).1
 have hgr : (l.map Rul.declC)[k]? = some (Rul.declC d) := by simp [hg]
 have q : decide ((k : Int) < (l.length : Int)) = true := by simp; omega
 have hw : IntKind.i64.wrap ((k : Int) + 1) = ((k + 1 : Nat) : Int) := wrap_succ (by omega)
 have hlo' : lo ≤ h.length + 1 := by omega
 have hb : d.name.length ≤ 1000000000 := by have := hok.hl; omega
 have c36 := fun lo => f22 (lo := lo) (h := h ++ [.cells (Rul.declC d)]) hok.hy hb
 have c13 := fun lo hlo => f18 (lo := lo) (h := h ++ [.cells (Rul.declC d)]) (l := d.val) hlo hok.hv.hn hok.hv.hok
 have c13a := c13 lo (by simp; omega); have c13b := c13 h.length (by simp); have c13c := c13 (h.length + 1) (by simp)
 clear c13
 unfold claimT
 have ed : Rul.declC d = [.v (.string (bs d.name)), .list .no (Rul.rowsC d.val), .v (.bool d.imp)] := rfl
 rw [ed] at hgr c13a c13b c13c ⊢
 simp only [ed] at c36
 cases hn : nameT d.name with
 | false =>
  rw [hn] at c36
  rw [Bool.false_and, if_neg (show ¬ false = true by simp)]
  simp only [go_sem, l16x0, b16, Tryd.f16, hlo, hlo', q, hgr, hw, c36, List.length_map]
  all_goals rfl
 | true =>
  rw [hn] at c36
  rw [Bool.true_and]
  cases hf : fineL d.val with
  | true =>
   rw [hf] at c13a c13b c13c
   rw [if_pos rfl]
   simp only [go_sem, l16x0, b16, Tryd.f16, hlo, hlo', q, hgr, hw, c36, c13a, c13b, c13c, List.length_map]
   all_goals rfl
  | false =>
   rw [hf] at c13a c13b c13c
   rw [if_neg (show ¬ false = true by simp)]
   simp only [go_sem, l16x0, b16, Tryd.f16, hlo, hlo', q, hgr, hw, c36, c13a, c13b, c13c, List.length_map]
   all_goals rfl
end Go.Lift.D7
end

section
open Go.Proofs
namespace Go.Lift.D7
variable [MX]
open Utf Tok Spell
set_option maxRecDepth 20000
set_option maxHeartbeats 4000000
section
variable {lo : Nat} {h : Heap}
theorem tokR_form (k : Int) (b : List Int) (n d : Int) (w i : Bool) : ∃ s e, tokR k b n d w i = .tup [.v (.string (bs s)), .v (.int .i64 e)] := by
 unfold tokR
 split
 ·exact ⟨_, _, rfl⟩
 ·exact ⟨_, _, rfl⟩
theorem sound_asc {c : Int} (hc : 1 ≤ c ∧ c < 128) : raw [c] = [c] ∧ sound [c] = true := by
 have hs : ∀ x ∈ [c], scal x = x := by
  intro x hx
  simp at hx
  subst hx
  exact scal_ok (by omega) (by omega) (by omega)
 have e : encs [c] = [c] := by
  rw [encs_cons, hs c (by simp), enc_low hc.2]
  rfl
 have h1 := charsOk hs
 rw [e] at h1
 have h2 := (raw_encs [c]).2
 rw [e] at h2
 refine ⟨h1, ?_⟩
 unfold sound
 rw [h2]
 have : ([c] : List Int).contains 0 = false := by simp; omega
 rw [this]
 rfl
theorem f23 (hlo : lo ≤ h.length) {b : List Int} (hy : By b) (hl : b.length ≤ 10000000) : E lo 23 [.v (.string (bs b))] h = some (tokR 1 b 0 0 false false, h) := by
 have k := fun lo hlo => f31 (lo := lo) (h := h) (k := 1) (b := b) (n := 0) (d := 0) (w := false) (i := false) hlo hy hl (by omega) (by omega) (by omega) (by omega)
 obtain ⟨s, e, he⟩ := tokR_form 1 b 0 0 false false
 rw [he] at k ⊢
 unfold tokV at k
 have ka := k lo hlo; have kb := k h.length (Nat.le_refl _)
 rw [e23 (by simp) (by rfl)]
 simp only [go_sem, b23, Tryd.f23, ka, kb]
 all_goals rfl
end
end Go.Lift.D7
end

section
open Go.Proofs
namespace Go.Lift.D7
variable [MX]
open Utf Tok Spell
set_option maxRecDepth 20000
set_option maxHeartbeats 4000000
variable {lo : Nat} {p q : Heap} {p0 : V} {out : List Int} {n : Int}
def vtxt (l : List Rul.CV) : List Int := if fineL l = true then valsT l else []
def verr (l : List Rul.CV) : Int := if fineL l = true then 0 else 1
theorem valsR_eq (l : List Rul.CV) : valsR l = .tup [.v (.string (bs (vtxt l))), .v (.int .i64 (verr l))] := by
 unfold valsR vtxt verr
 split <;> rfl
theorem vtxt_by {l : List Rul.CV} (hL : OkL l) : By (vtxt l) := by
 unfold vtxt
 split
 ·exact tokens_by _ _ (ok_ofR hL.hok)
 ·exact by_nil
theorem vtxt_len {l : List Rul.CV} (hL : OkL l) : (vtxt l).length ≤ cost ((Rul.flatL l).map ofR) := by
 unfold vtxt
 split
 ·exact tokens_len _ _ (ok_ofR hL.hok)
 ·simp
def e1 (n e : Int) : Int := if n = 0 then e else n
theorem f20 {l : List Rul.CV} (hlo : lo ≤ p.length) (hp : okP p.length p0 = true) (hL : OkL l) (ho : out.length ≤ 1000000000) :
  E lo 20 [.ptr p.length 0, .list .no (Rul.rowsC l)] (p ++ .cells [p0, .list .yes (ri .u8 out), .v (.int .i64 n)] :: q) =
   some (.tup [], p ++ .cells [.ptr p.length 0, .list .yes (ri .u8 (out ++ vtxt l)), .v (.int .i64 (e1 n (verr l)))] :: q) := by
 have c6 := fun lo hlo => f28 (lo := lo) (h := p ++ .cells [p0, .list .yes (ri .u8 out), .v (.int .i64 n)] :: q) (l := l) hlo hL
 rw [valsR_eq] at c6
 have c6a := c6 lo (by simp; omega); have c6b := c6 (p ++ .cells [p0, .list .yes (ri .u8 out), .v (.int .i64 n)] :: q).length (Nat.le_refl _)
 rw [List.length_append, List.length_cons] at c6b
 have hvl := vtxt_len hL
 have hcc := hL.hc
 have c30 := fun n => f30w (lo := lo) (p := p) (q := q) (p0 := p0) (out := out) (n := n) hlo hp (s := vtxt l) (vtxt_by hL) ho (by omega)
 clear c6
 unfold e1
 rw [e20 (by simp) (by rfl)]
 by_cases hn : n = 0
 ·have qn : (n == 0) = true := by simpa using hn
  rw [if_pos hn]
  subst hn
  simp only [go_sem, b20, Tryd.f20, hlo, qn, c6a, c6b, c30, Int.reduceBEq]
  all_goals rfl
 ·have qn : (n == 0) = false := by simpa using hn
  rw [if_neg hn]
  simp only [go_sem, b20, Tryd.f20, hlo, qn, c6a, c6b, c30]
  all_goals rfl
end Go.Lift.D7
end

section
open Go.Proofs
namespace Go.Lift.D7
variable [MX]
open Utf Tok Spell
set_option maxRecDepth 20000
set_option maxHeartbeats 1000000
variable {lo : Nat} {p q : Heap} {p0 : V} {out : List Int}
def impT : List Int := [32, 33, 105, 109, 112, 111, 114, 116, 97, 110, 116]
theorem bs_58 : (⟨#[58]⟩ : ByteArray) = bs [58] := rfl
theorem bs_59 : (⟨#[59]⟩ : ByteArray) = bs [59] := rfl
theorem bs_imp : (⟨#[32, 33, 105, 109, 112, 111, 114, 116, 97, 110, 116]⟩ : ByteArray) = bs impT := rfl
theorem by_58 : By [58] := by_cons (by omega) (by omega) by_nil
theorem by_59 : By [59] := by_cons (by omega) (by omega) by_nil
theorem by_imp : By impT := by
 intro c hc
 unfold impT at hc
 simp at hc
 omega
def declT (d : Rul.Dc) : List Int := tokenT 1 d.name 0 0 false false ++ ([58] ++ (valsT d.val ++ ((if d.imp = true then impT else []) ++ [59])))
abbrev ND (i : Nat) (l : List Rul.Dc) (k : Int) : Env := [(0, .ptr i 0), (4, .fn 19 [.undef, .ptr i 0]), (13, .list .no (l.map Rul.declC)), (14, .v (.int .i64 l.length)), (15, .v (.int .i64 k))]
theorem roundD {l : List Rul.Dc} {d : Rul.Dc} {k : Nat} (hlo : lo ≤ p.length) (hp : okP p.length p0 = true) (hl : l.length ≤ 1000000000) (hg : l[k]? = some d) (hok : OkD d) (hcl : claimT d = true) (ho : out.length + 10 * d.name.length + cost ((Rul.flatL d.val).map ofR) + 400 ≤ 1000000000) :
  evCode ⟨Tryd.prog, E, lo, p.length + (q.length + 1), h17⟩ loopW l17x0 (ND p.length l k, p ++ .cells [p0, .list .yes (ri .u8 out), .v (.int .i64 0)] :: q) =
   some (.normal, ND p.length l (k + 1 : Nat), p ++ .cells [.ptr p.length 0, .list .yes (ri .u8 (out ++ declT d)), .v (.int .i64 0)] :: q) := by
 have hlt : k < l.length := (List.getElem?_eq_some_iff.1 hg).1
 have hgr : (l.map Rul.declC)[k]? = some (Rul.declC d) := by simp [hg]
 have ed : Rul.declC d = [.v (.string (bs d.name)), .list .no (Rul.rowsC d.val), .v (.bool d.imp)] := rfl
 have qq : decide ((k : Int) < (l.length : Int)) = true := by simp; omega
 have hw : IntKind.i64.wrap ((k : Int) + 1) = ((k + 1 : Nat) : Int) := wrap_succ (by omega)
 have hcl2 := hcl
 unfold claimT at hcl2
 rw [Bool.and_eq_true] at hcl2
 have hm : mayV 1 d.name 0 0 false false = true := by
  unfold mayV
  rw [if_pos (.inl rfl)]
  have := hcl2.1
  unfold nameT at this
  rw [this]
  rfl
 have ht : tokR 1 d.name 0 0 false false = .tup [.v (.string (bs (tokenT 1 d.name 0 0 false false))), .v (.int .i64 0)] := by
  unfold tokR okV; rw [hm]; rfl
 have hvt : vtxt d.val = valsT d.val := by unfold vtxt; rw [if_pos hcl2.2]
 have hve : verr d.val = 0 := by unfold verr; rw [if_pos hcl2.2]
 have hH := fun lo (hlo : lo ≤ (p ++ Ob.cells [p0, .list .yes (ri .u8 out), .v (.int .i64 0)] :: (q ++ [Ob.cells (Rul.declC d)])).length) => f23 (lo := lo) (h := p ++ Ob.cells [p0, .list .yes (ri .u8 out), .v (.int .i64 0)] :: (q ++ [Ob.cells (Rul.declC d)])) hlo hok.hy hok.hl
 rw [ht] at hH
 have c37a := hH lo (by simp; omega); have c37b := hH (p.length + (q.length + 1)) (by simp); have c37c := hH (p.length + (q.length + 1 + 1)) (by simp)
 clear hH
 have hid : (tokenT 1 d.name 0 0 false false).length ≤ 10 * d.name.length + 300 := txt_len (t := ⟨1, d.name, 0, 0, false, false⟩) ⟨hok.hy, hok.hl, by simp, by simp, by simp, by simp⟩
 have hby : By (tokenT 1 d.name 0 0 false false) := txt_by (t := ⟨1, d.name, 0, 0, false, false⟩) ⟨hok.hy, hok.hl, by simp, by simp, by simp, by simp⟩
 unfold declT
 generalize tokenT 1 d.name 0 0 false false = T at *
 have hnl := hok.hl
 have hvl := vtxt_len hok.hv
 rw [hvt] at hvl
 have hcc := hok.hv.hc
 have k1 := f30w (lo := lo) (p := p) (q := q ++ [.cells (Rul.declC d)]) (p0 := p0) (out := out) (n := 0) hlo hp (s := T) hby (by omega) (by omega)
 have k2 := f30w (lo := lo) (p := p) (q := q ++ [.cells (Rul.declC d)]) (p0 := .ptr p.length 0) (out := out ++ T) (n := 0) hlo ok_self (s := [58]) by_58 (by simp; omega) (by simp)
 have k3 := f20 (lo := lo) (p := p) (q := q ++ [.cells (Rul.declC d)]) (p0 := .ptr p.length 0) (out := out ++ T ++ [58]) (n := 0) (l := d.val) hlo ok_self hok.hv (by simp; omega)
 rw [hvt, hve] at k3
 have e0 : e1 0 0 = 0 := rfl
 rw [e0] at k3
 have k4 := f30w (lo := lo) (p := p) (q := q ++ [.cells (Rul.declC d)]) (p0 := .ptr p.length 0) (out := out ++ T ++ [58] ++ valsT d.val) (n := 0) hlo ok_self (s := impT) by_imp (by simp; omega) (by simp [impT])
 have k5 := f30w (lo := lo) (p := p) (q := q ++ [.cells (Rul.declC d)]) (p0 := .ptr p.length 0) (out := out ++ T ++ [58] ++ valsT d.val ++ impT) (n := 0) hlo ok_self (s := [59]) by_59 (by simp [impT]; omega) (by simp)
 have k6 := f30w (lo := lo) (p := p) (q := q ++ [.cells (Rul.declC d)]) (p0 := .ptr p.length 0) (out := out ++ T ++ [58] ++ valsT d.val) (n := 0) hlo ok_self (s := [59]) by_59 (by simp; omega) (by simp)
 have hat : ∀ o c : Ob, (p ++ o :: (q ++ [c]))[p.length + (q.length + 1)]? = some c := fun o c => by
  rw [List.getElem?_append_right (by omega)]; simp
 rw [ed] at hgr c37a c37b c37c k1 k2 k3 k4 k5 k6
 simp only [List.append_assoc, List.cons_append, List.nil_append] at k1 k2 k3 k4 k5 k6 c37a c37b c37c
 have hlo2 : lo ≤ p.length + (q.length + 1) := by omega
 have hlt2 : p.length < p.length + (q.length + 1) := by omega
 cases hi : d.imp with
 | true =>
  rw [hi] at hgr c37a c37b c37c k1 k2 k3 k4 k5 k6
  rw [if_pos rfl]
  simp only [go_sem, l17x0, b17, Tryd.f17, qq, hgr, hw, hlo, hlo2, hlt2, hat, c37a, c37b, c37c, bs_58, bs_59, bs_imp, k1, k2, k3, k4, k5, Int.reduceBEq, List.append_assoc, List.cons_append, List.nil_append, List.length_map]
  all_goals rfl
 | false =>
  rw [hi] at hgr c37a c37b c37c k1 k2 k3 k4 k5 k6
  rw [if_neg (show ¬ false = true by simp)]
  simp only [go_sem, l17x0, b17, Tryd.f17, qq, hgr, hw, hlo, hlo2, hlt2, hat, c37a, c37b, c37c, bs_58, bs_59, bs_imp, k1, k2, k3, k6, Int.reduceBEq, List.append_assoc, List.cons_append, List.nil_append, List.length_map]
  all_goals rfl
end Go.Lift.D7
end

section
open Go.Proofs
namespace Go.Lift.D7
variable [MX]
open Utf Tok Spell
set_option maxRecDepth 20000
set_option maxHeartbeats 1000000
variable {lo : Nat} {h : Heap}
theorem stop16 {l : List Rul.Dc} (hlo : lo ≤ h.length) : evCode ⟨Tryd.prog, E, lo, h.length, h16⟩ loopW l16x0 (N19 l l.length, h) =
   some (.exit 0, N19 l l.length ++ [(8, .v (.bool false))], h) := by
 have q : decide ((l.length : Int) < (l.length : Int)) = false := by simp
 simp only [go_sem, l16x0, b16, Tryd.f16, hlo, q]
 all_goals rfl
theorem loop16 {l : List Rul.Dc} (hlo : lo ≤ h.length) (hl : l.length ≤ 1000000000) (hok : ∀ t ∈ l, OkD t) : ∀ (m k : Nat), k + m = l.length →
  if (l.drop k).all claimT = true then
   loopW (evCode ⟨Tryd.prog, E, lo, h.length, h16⟩ loopW l16x0) (N19 l k, h) = some (.exit 0, N19 l l.length ++ [(8, .v (.bool false))], h)
  else ∃ X, loopW (evCode ⟨Tryd.prog, E, lo, h.length, h16⟩ loopW l16x0) (N19 l k, h) = some (.ret, [(2, .v (.bool false))], h ++ X) := by
 intro m
 induction m with
 | zero =>
  intro k hk
  obtain rfl : k = l.length := by omega
  rw [List.drop_length, if_pos (show ([] : List Rul.Dc).all claimT = true from rfl), loop_eq, stop16 hlo, loop_e]
 | succ m ih =>
  intro k hk
  have hlt : k < l.length := by omega
  have hg : l[k]? = some l[k] := List.getElem?_eq_getElem hlt
  have hd : l.drop k = l[k] :: l.drop (k + 1) := List.drop_eq_getElem_cons hlt
  have hok1 := hok l[k] (List.getElem_mem hlt)
  rw [hd]
  generalize l[k] = t at *
  have hr := round16 hlo hl hg hok1
  cases hm : claimT t with
  | false =>
   rw [hm, if_neg (by simp)] at hr
   rw [List.all_cons, hm, Bool.false_and, if_neg (by simp)]
   exact ⟨_, by rw [loop_eq, hr, loop_r]⟩
  | true =>
   rw [hm, if_pos rfl] at hr
   rw [List.all_cons, hm, Bool.true_and, loop_eq, hr, loop_n]
   exact ih (k + 1) (by omega)
theorem f16 {l : List Rul.Dc} (hlo : lo ≤ h.length) (hl : l.length ≤ 1000000000) (hok : ∀ t ∈ l, OkD t) : E lo 16 [.list .no (l.map Rul.declC)] h = some (.v (.bool (l.all claimT)), h) := by
 have hL := loop16 (lo := lo) (h := h) (l := l) hlo hl hok l.length 0 (by omega)
 rw [List.drop_zero] at hL
 have n0 : ((0 : Nat) : Int) = 0 := rfl
 rw [e16 (by simp) (by rfl)]
 cases ha : l.all claimT with
 | false =>
  rw [ha, if_neg (by simp)] at hL
  obtain ⟨X, hL⟩ := hL
  simp only [l16x0, b16, Tryd.f16, loopAt, loops, bodyOf, go_sem, N19, n0] at hL
  simp only [go_sem, b16, Tryd.f16, hlo, hL, List.length_map, n0]
  all_goals rfl
 | true =>
  rw [ha, if_pos rfl] at hL
  simp only [l16x0, b16, Tryd.f16, loopAt, loops, bodyOf, go_sem, N19, n0, List.cons_append, List.nil_append] at hL
  simp only [go_sem, b16, Tryd.f16, hlo, hL, List.length_map, n0]
  all_goals rfl
end Go.Lift.D7
end

section
open Go.Proofs
namespace Go.Lift.D7
variable [MX]
open Utf Tok Spell
set_option maxRecDepth 20000
set_option maxHeartbeats 1000000
variable {lo : Nat} {p q : Heap} {p0 : V} {out : List Int}
def costD (d : Rul.Dc) : Nat := 10 * d.name.length + cost ((Rul.flatL d.val).map ofR) + 400
def costDs : List Rul.Dc → Nat
 | [] => 0
 | d :: r => costD d + costDs r
def declsT : List Rul.Dc → List Int
 | [] => []
 | d :: r => declT d ++ declsT r
def pw (i : Nat) (p0 : V) (e : Bool) : V := if e = true then p0 else .ptr i 0
theorem name_len {d : Rul.Dc} (hok : OkD d) : (tokenT 1 d.name 0 0 false false).length ≤ 10 * d.name.length + 300 := txt_len (t := ⟨1, d.name, 0, 0, false, false⟩) ⟨hok.hy, hok.hl, by simp, by simp, by simp, by simp⟩
theorem name_by {d : Rul.Dc} (hok : OkD d) : By (tokenT 1 d.name 0 0 false false) := txt_by (t := ⟨1, d.name, 0, 0, false, false⟩) ⟨hok.hy, hok.hl, by simp, by simp, by simp, by simp⟩
theorem valsT_len {l : List Rul.CV} (hL : OkL l) : (valsT l).length ≤ cost ((Rul.flatL l).map ofR) := tokens_len _ _ (ok_ofR hL.hok)
theorem valsT_by {l : List Rul.CV} (hL : OkL l) : By (valsT l) := tokens_by _ _ (ok_ofR hL.hok)
theorem declT_len {d : Rul.Dc} (hok : OkD d) : (declT d).length ≤ costD d := by
 have h1 := name_len hok
 have h2 := valsT_len hok.hv
 have h3 : (if d.imp = true then impT else []).length ≤ 11 := by split <;> simp [impT]
 unfold declT costD
 simp only [List.length_append, List.length_cons, List.length_nil]
 omega
theorem declT_by {d : Rul.Dc} (hok : OkD d) : By (declT d) := by
 have h3 : By (if d.imp = true then impT else []) := by
  split
  ·exact by_imp
  ·exact by_nil
 unfold declT
 exact by_app (name_by hok) (by_app by_58 (by_app (valsT_by hok.hv) (by_app h3 by_59)))
theorem declsT_len : ∀ {l : List Rul.Dc}, (∀ d ∈ l, OkD d) → (declsT l).length ≤ costDs l
 | [], _ => by simp [declsT]
 | d :: r, h => by
  have h1 := declT_len (h d (by simp))
  have h2 := declsT_len (l := r) fun x hx => h x (by simp [hx])
  simp only [declsT, costDs, List.length_append]
  omega
theorem declsT_by : ∀ {l : List Rul.Dc}, (∀ d ∈ l, OkD d) → By (declsT l)
 | [], _ => by_nil
 | d :: r, h => by
  rw [declsT]
  exact by_app (declT_by (h d (by simp))) (declsT_by fun x hx => h x (by simp [hx]))
theorem stop17 {l : List Rul.Dc} (hlo : lo ≤ p.length) :
  evCode ⟨Tryd.prog, E, lo, p.length + (q.length + 1), h17⟩ loopW l17x0 (ND p.length l l.length, p ++ .cells [p0, .list .yes (ri .u8 out), .v (.int .i64 0)] :: q) =
   some (.exit 0, ND p.length l l.length ++ [(16, .v (.bool false))], p ++ .cells [p0, .list .yes (ri .u8 out), .v (.int .i64 0)] :: q) := by
 have qq : decide ((l.length : Int) < (l.length : Int)) = false := by simp
 simp only [go_sem, l17x0, b17, Tryd.f17, hlo, qq]
 all_goals rfl
theorem loop17 {l : List Rul.Dc} (hlo : lo ≤ p.length) (hl : l.length ≤ 1000000000) (hok : ∀ d ∈ l, OkD d) : ∀ (m k : Nat) (out : List Int) (p0 : V), okP p.length p0 = true → k + m = l.length → (l.drop k).all claimT = true → out.length + costDs (l.drop k) ≤ 1000000000 →
  loopW (evCode ⟨Tryd.prog, E, lo, p.length + (q.length + 1), h17⟩ loopW l17x0) (ND p.length l k, p ++ .cells [p0, .list .yes (ri .u8 out), .v (.int .i64 0)] :: q) =
   some (.exit 0, ND p.length l l.length ++ [(16, .v (.bool false))], p ++ .cells [pw p.length p0 (l.drop k).isEmpty, .list .yes (ri .u8 (out ++ declsT (l.drop k))), .v (.int .i64 0)] :: q) := by
 intro m
 induction m with
 | zero =>
  intro k out p0 hp hk _ _
  obtain rfl : k = l.length := by omega
  rw [List.drop_length, loop_eq, stop17 hlo, loop_e]
  simp only [declsT, List.append_nil, pw, List.isEmpty_nil, if_true]
 | succ m ih =>
  intro k out p0 hp hk ha ho
  have hlt : k < l.length := by omega
  have hg : l[k]? = some l[k] := List.getElem?_eq_getElem hlt
  have hd : l.drop k = l[k] :: l.drop (k + 1) := List.drop_eq_getElem_cons hlt
  have hok1 := hok l[k] (List.getElem_mem hlt)
  rw [hd] at ha ho ⊢
  generalize l[k] = t at *
  rw [List.all_cons, Bool.and_eq_true] at ha
  simp only [costDs] at ho
  have hlen := declT_len hok1
  have hr := roundD (q := q) hlo hp hl hg hok1 ha.1 (out := out) (by unfold costD at ho; omega)
  rw [loop_eq, hr, loop_n, ih (k + 1) (out ++ declT t) (.ptr p.length 0) ok_self (by omega) ha.2 (by simp only [List.length_append]; omega)]
  have e1 : pw p.length (.ptr p.length 0) (l.drop (k + 1)).isEmpty = .ptr p.length 0 := by unfold pw; split <;> rfl
  have e2 : pw p.length p0 (t :: l.drop (k + 1)).isEmpty = .ptr p.length 0 := rfl
  rw [e1, e2, declsT, List.append_assoc]
theorem f17 {l : List Rul.Dc} (hlo : lo ≤ p.length) (hp : okP p.length p0 = true) (hl : l.length ≤ 1000000000) (hok : ∀ d ∈ l, OkD d) (ha : l.all claimT = true) (ho : out.length + costDs l ≤ 1000000000) :
  E lo 17 [.ptr p.length 0, .list .no (l.map Rul.declC)] (p ++ .cells [p0, .list .yes (ri .u8 out), .v (.int .i64 0)] :: q) =
   some (.tup [], p ++ .cells [pw p.length p0 l.isEmpty, .list .yes (ri .u8 (out ++ declsT l)), .v (.int .i64 0)] :: q) := by
 have hL := loop17 (q := q) hlo hl hok l.length 0 out p0 hp (by omega) (by rw [List.drop_zero]; exact ha) (by rw [List.drop_zero]; exact ho)
 rw [List.drop_zero] at hL
 have n0 : ((0 : Nat) : Int) = 0 := rfl
 simp only [l17x0, b17, Tryd.f17, loopAt, loops, bodyOf, go_sem, ND, n0, List.cons_append, List.nil_append] at hL
 rw [e17 (by simp) (by rfl)]
 simp only [go_sem, b17, Tryd.f17, hlo, hL, List.length_map, n0]
 all_goals rfl
theorem f15 (hlo : lo ≤ p.length) (hy : By out) (hl : out.length ≤ 1000000000) :
  E lo 15 [.ptr p.length 0] (p ++ .cells [p0, .list .yes (ri .u8 out), .v (.int .i64 0)] :: q) =
   some (.tup [.v (.string (bs out)), .v (.int .i64 0)], p ++ .cells [p0, .list .no (ri .u8 out), .v (.int .i64 0)] :: q) := by
 have k := fun lo hlo => f31r (lo := lo) (p := p) (q := q) (p0 := p0) (r := [.v (.int .i64 0)]) hlo hy hl
 have ka := k lo hlo
 rw [e15 (by simp) (by rfl)]
 simp only [go_sem, b15, Tryd.f15, hlo, ka, Int.reduceBNe]
 all_goals rfl
def declsR (l : List Rul.Dc) : V := if l.all claimT = true then okV (declsT l) else errV
theorem f12 {h : Heap} {l : List Rul.Dc} (hlo : lo ≤ h.length) (hl : l.length ≤ 1000000000) (hok : ∀ d ∈ l, OkD d) (ho : costDs l ≤ 1000000000) :
  E lo 12 [.list .no (l.map Rul.declC)] h = some (declsR l, h) := by
 have c19 := fun lo hlo => f16 (lo := lo) (h := h) (l := l) hlo hl hok
 have c19a := c19 lo hlo; have c19b := c19 h.length (Nat.le_refl _)
 unfold declsR
 rw [e12 (by simp) (by rfl)]
 cases ha : l.all claimT with
 | false =>
  rw [ha] at c19a c19b
  rw [if_neg (by simp)]
  unfold errV
  simp only [go_sem, b12, Tryd.f12, hlo, c19a, c19b]
  all_goals rfl
 | true =>
  rw [ha] at c19a c19b
  rw [if_pos rfl]
  unfold okV
  have c20 := fun lo hlo => f17 (lo := lo) (p := h) (q := []) (p0 := .v (.pointer none)) (out := []) (l := l) hlo rfl hl hok ha (by simpa using ho)
  have c20a := c20 lo hlo; have c20b := c20 h.length (Nat.le_refl _)
  have c21 := fun lo hlo => f15 (lo := lo) (p := h) (q := []) (p0 := pw h.length (.v (.pointer none)) l.isEmpty) (out := declsT l) hlo (declsT_by hok) (by have := declsT_len hok; omega)
  have c21a := c21 lo hlo; have c21b := c21 h.length (Nat.le_refl _)
  clear c20 c21
  rw [List.nil_append] at c20a c20b
  have e0 : ri .u8 [] = [] := rfl
  rw [e0] at c20a c20b
  simp only [go_sem, b12, Tryd.f12, hlo, c19a, c19b, c20a, c20b, c21a, c21b]
  all_goals rfl
end Go.Lift.D7
end

section
open Go.Proofs
namespace Go.Lift.D7
variable [MX]
open Utf Tok Spell
set_option maxRecDepth 20000
set_option maxHeartbeats 1000000
mutual
def mayRu (dep : Nat) : Rul.Ru → Bool
 | .mk k n p ds rs => decide (dep ≤ 64) && (fineL p && (if k = 1 then n.isEmpty && (rs.isEmpty && ds.all claimT) else if k = 2 then Rul.isGroup n && (ds.isEmpty && mayRs (dep + 1) rs) else false))
def mayRs (dep : Nat) : List Rul.Ru → Bool
 | [] => true
 | r :: l => mayRu dep r && mayRs dep l
end
mutual
def ruT : Rul.Ru → List Int
 | .mk k n p ds rs => if k = 1 then valsT p ++ ([123] ++ (declsT ds ++ [125])) else ([64] ++ n ++ [32]) ++ (valsT p ++ ([123] ++ (rusT rs ++ [125])))
def rusT : List Rul.Ru → List Int
 | [] => []
 | r :: l => ruT r ++ rusT l
end
mutual
def costR : Rul.Ru → Nat
 | .mk k n p ds rs => n.length + cost ((Rul.flatL p).map ofR) + costDs ds + costRs rs + 100
def costRs : List Rul.Ru → Nat
 | [] => 0
 | r :: l => costR r + costRs l
end
mutual
def OkR : Rul.Ru → Prop
 | .mk k n p ds rs => By n ∧ n.length ≤ 10000000 ∧ OkL p ∧ ds.length ≤ 1000000000 ∧ (∀ d ∈ ds, OkD d) ∧ rs.length ≤ 1000000000 ∧ OkRs rs
def OkRs : List Rul.Ru → Prop
 | [] => True
 | r :: l => OkR r ∧ OkRs l
end
theorem mayRu_eq {dep : Nat} {k : Int} {n : List Int} {p : List Rul.CV} {ds : List Rul.Dc} {rs : List Rul.Ru} :
  mayRu dep (.mk k n p ds rs) = (decide (dep ≤ 64) && (fineL p && (if k = 1 then n.isEmpty && (rs.isEmpty && ds.all claimT) else if k = 2 then Rul.isGroup n && (ds.isEmpty && mayRs (dep + 1) rs) else false))) := by rw [mayRu]
theorem mayRs_nil {dep : Nat} : mayRs dep [] = true := by rw [mayRs]
theorem mayRs_cons {dep : Nat} {r : Rul.Ru} {l : List Rul.Ru} : mayRs dep (r :: l) = (mayRu dep r && mayRs dep l) := by rw [mayRs]
theorem ruT_eq {k : Int} {n : List Int} {p : List Rul.CV} {ds : List Rul.Dc} {rs : List Rul.Ru} :
  ruT (.mk k n p ds rs) = if k = 1 then valsT p ++ ([123] ++ (declsT ds ++ [125])) else ([64] ++ n ++ [32]) ++ (valsT p ++ ([123] ++ (rusT rs ++ [125]))) := by rw [ruT]
theorem rusT_nil : rusT [] = [] := by rw [rusT]
theorem rusT_cons {r : Rul.Ru} {l : List Rul.Ru} : rusT (r :: l) = ruT r ++ rusT l := by rw [rusT]
theorem rusT_app : ∀ a b : List Rul.Ru, rusT (a ++ b) = rusT a ++ rusT b
 | [], b => by rw [rusT_nil]; rfl
 | r :: a, b => by rw [List.cons_append, rusT_cons, rusT_cons, rusT_app a b, List.append_assoc]
theorem mayRs_app {dep : Nat} : ∀ a b : List Rul.Ru, mayRs dep (a ++ b) = (mayRs dep a && mayRs dep b)
 | [], b => by rw [mayRs_nil]; rfl
 | r :: a, b => by rw [List.cons_append, mayRs_cons, mayRs_cons, mayRs_app a b, Bool.and_assoc]
theorem costR_eq {k : Int} {n : List Int} {p : List Rul.CV} {ds : List Rul.Dc} {rs : List Rul.Ru} :
  costR (.mk k n p ds rs) = n.length + cost ((Rul.flatL p).map ofR) + costDs ds + costRs rs + 100 := by rw [costR]
theorem costRs_nil : costRs [] = 0 := by rw [costRs]
theorem costRs_cons {r : Rul.Ru} {l : List Rul.Ru} : costRs (r :: l) = costR r + costRs l := by rw [costRs]
theorem okR_eq {k : Int} {n : List Int} {p : List Rul.CV} {ds : List Rul.Dc} {rs : List Rul.Ru} :
  OkR (.mk k n p ds rs) ↔ By n ∧ n.length ≤ 10000000 ∧ OkL p ∧ ds.length ≤ 1000000000 ∧ (∀ d ∈ ds, OkD d) ∧ rs.length ≤ 1000000000 ∧ OkRs rs := by rw [OkR]
theorem okRs_cons {r : Rul.Ru} {l : List Rul.Ru} : OkRs (r :: l) ↔ OkR r ∧ OkRs l := by rw [OkRs]
theorem okRs_mem : ∀ {l : List Rul.Ru} {r : Rul.Ru}, OkRs l → r ∈ l → OkR r
 | [], _, _, h => by cases h
 | x :: l, r, hk, h => by
  rw [okRs_cons] at hk
  rcases List.mem_cons.1 h with rfl | h
  ·exact hk.1
  ·exact okRs_mem hk.2 h
theorem okRs_of : ∀ {l : List Rul.Ru}, (∀ r ∈ l, OkR r) → OkRs l
 | [], _ => by rw [OkRs]; trivial
 | x :: l, h => okRs_cons.2 ⟨h x (by simp), okRs_of fun r hr => h r (by simp [hr])⟩
theorem costRs_mem : ∀ {l : List Rul.Ru} {r : Rul.Ru}, r ∈ l → costR r ≤ costRs l
 | [], _, h => by cases h
 | x :: l, r, h => by
  rw [costRs_cons]
  rcases List.mem_cons.1 h with rfl | h
  ·omega
  ·have := costRs_mem h
   omega
def kidsR : Rul.Ru → List Rul.Ru
 | .mk _ _ _ _ rs => rs
theorem by_64 : By [64] := by_cons (by omega) (by omega) by_nil
theorem by_32 : By [32] := by_cons (by omega) (by omega) by_nil
theorem by_123 : By [123] := by_cons (by omega) (by omega) by_nil
theorem by_125 : By [125] := by_cons (by omega) (by omega) by_nil
mutual
theorem ruT_len : ∀ (r : Rul.Ru), OkR r → (ruT r).length ≤ costR r
 | .mk k n p ds rs, h => by
  rw [okR_eq] at h
  have h1 := valsT_len h.2.2.1
  have h2 := declsT_len h.2.2.2.2.1
  have h3 := rusT_len rs h.2.2.2.2.2.2
  rw [ruT_eq, costR_eq]
  split
  ·simp only [List.length_append, List.length_cons, List.length_nil]
   omega
  ·simp only [List.length_append, List.length_cons, List.length_nil]
   omega
theorem rusT_len : ∀ (l : List Rul.Ru), OkRs l → (rusT l).length ≤ costRs l
 | [], _ => by rw [rusT_nil]; simp
 | r :: l, h => by
  rw [okRs_cons] at h
  have h1 := ruT_len r h.1
  have h2 := rusT_len l h.2
  rw [rusT_cons, costRs_cons, List.length_append]
  omega
end
mutual
theorem ruT_by : ∀ (r : Rul.Ru), OkR r → By (ruT r)
 | .mk k n p ds rs, h => by
  rw [okR_eq] at h
  have h1 := valsT_by h.2.2.1
  have h2 := declsT_by h.2.2.2.2.1
  have h3 := rusT_by rs h.2.2.2.2.2.2
  rw [ruT_eq]
  split
  ·exact by_app h1 (by_app by_123 (by_app h2 by_125))
  ·exact by_app (by_app (by_app by_64 h.1) by_32) (by_app h1 (by_app by_123 (by_app h3 by_125)))
theorem rusT_by : ∀ (l : List Rul.Ru), OkRs l → By (rusT l)
 | [], _ => by rw [rusT_nil]; exact by_nil
 | r :: l, h => by
  rw [okRs_cons] at h
  rw [rusT_cons]
  exact by_app (ruT_by r h.1) (rusT_by l h.2)
end
end Go.Lift.D7
end
