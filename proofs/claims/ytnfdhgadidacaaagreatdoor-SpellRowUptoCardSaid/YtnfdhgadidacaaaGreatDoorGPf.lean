/- The program, evaluated. -/
import Derived.Test.YtnfdhgadidacaaaGreatDoorGLc
import Derived.Test.YtnfdhgadidacaaaGreatDoorGPa
import Derived.Test.YtnfdhgadidacaaaGreatDoorGPe
import Derived.Test.YtnfdhgadidacaaaGreatDoorGQb
import Derived.Test.YtnfdhgadidacaaaGreatDoorGQg
import Derived.Test.YtnfdhgadidacaaaGreatDoorGZg
section
open Go.Proofs
namespace Go.Lift.R4
set_option linter.unusedSectionVars false
variable [MX]
open Utf Tok Spell
set_option maxRecDepth 20000
set_option maxHeartbeats 4000000
set_option linter.unusedSimpArgs false
set_option linter.unusedVariables false
structure Tk4 where
 k : Int
 b : List Int
 n : Int
 d : Int
 w : Bool
 i : Bool
def row (t : Tk4) : List V := tokV t.k t.b t.n t.d t.w t.i
structure TokOk (t : Tk4) : Prop where
 hy : By t.b
 hl : t.b.length ≤ 10000000
 h0 : -9223372036854775808 ≤ t.n
 h1 : t.n ≤ 9223372036854775807
 h2 : -9223372036854775808 ≤ t.d
 h3 : t.d ≤ 9223372036854775807
def may4 (t : Tk4) : Bool := mayV t.k t.b t.n t.d t.w t.i
def txt4 (t : Tk4) : List Int := tokenT t.k t.b t.n t.d t.w t.i
def sepT (p : Option Int) (k : Int) : List Int := match p with
 | none => []
 | some j => if apartT j k = true then [47, 42, 42, 47] else []
def tokensT (p : Option Int) : List Tk4 → List Int
 | [] => []
 | t :: l => sepT p t.k ++ (txt4 t ++ tokensT (some t.k) l)
def cost : List Tk4 → Nat
 | [] => 0
 | t :: l => 10 * t.b.length + 304 + cost l
theorem sep_len (p : Option Int) (k : Int) : (sepT p k).length ≤ 4 := by
 unfold sepT
 split
 ·simp
 ·split <;> simp
theorem sep_by (p : Option Int) (k : Int) : By (sepT p k) := by
 unfold sepT
 split
 ·exact by_nil
 ·split
  ·exact by_cons (by omega) (by omega) (by_cons (by omega) (by omega) (by_cons (by omega) (by omega) (by_cons (by omega) (by omega) by_nil)))
  ·exact by_nil
theorem txt_len {t : Tk4} (h : TokOk t) : (txt4 t).length ≤ 10 * t.b.length + 300 := tokenT_len (plainT_ok h.h0 h.h1 h.h2 h.h3).2
theorem txt_by {t : Tk4} (h : TokOk t) : By (txt4 t) := tokenT_by h.hy (plainT_ok h.h0 h.h1 h.h2 h.h3).1
theorem tokens_len : ∀ (l : List Tk4) (p : Option Int), (∀ t ∈ l, TokOk t) → (tokensT p l).length ≤ cost l
 | [], _, _ => by simp [tokensT, cost]
 | t :: l, p, h => by
  have := txt_len (h t (by simp))
  have := sep_len p t.k
  have := tokens_len l (some t.k) fun x hx => h x (by simp [hx])
  simp only [tokensT, cost, List.length_append]
  omega
theorem tokens_by : ∀ (l : List Tk4) (p : Option Int), (∀ t ∈ l, TokOk t) → By (tokensT p l)
 | [], _, _ => by_nil
 | t :: l, p, h => by_app (sep_by p t.k) (by_app (txt_by (h t (by simp))) (tokens_by l _ fun x hx => h x (by simp [hx])))
def prevK (l : List Tk4) : Nat → Option Int
 | 0 => none
 | j + 1 => (l[j]?).map (·.k)
section
variable {lo : Nat} {h : Heap} {l : List Tk4} {t : Tk4} {p0 : V} {out : List Int} {Y : Heap} {k : Nat}
theorem bs_4742 : (⟨#[47, 42, 42, 47]⟩ : ByteArray) = bs [47, 42, 42, 47] := rfl
abbrev N20 (h : Heap) (l : List Tk4) (k : Nat) : Env := [(0, .list .no (l.map row)), (4, .ptr h.length 0), (9, .list .no (l.map row)), (10, .v (.int .i64 l.length)), (11, .v (.int .i64 k))]
abbrev H20 (h : Heap) (p0 : V) (out : List Int) (Y : Heap) : Heap := h ++ .cells [p0, .list .yes (ri .u8 out)] :: Y
theorem at_end (o c : Ob) : (h ++ o :: (Y ++ [c]))[h.length + (Y.length + 1)]? = some c := by
 rw [List.getElem?_append_right (by omega)]
 simp
theorem round20z (hlo : lo ≤ h.length) (hp : okP h.length p0 = true) (hg : l[0]? = some t) (hok : TokOk t) (hm : may4 t = true) (hl : l.length ≤ 1000000000) (ho : out.length ≤ 900000000) :
  evCode ⟨Tryz.prog, E, lo, h.length, h20⟩ loopW l20x0 (N20 h l 0, H20 h p0 out Y) =
   some (.normal, N20 h l 1, H20 h (.ptr h.length 0) (out ++ txt4 t) (Y ++ [.cells (row t)])) := by
 have hlt : 0 < l.length := (List.getElem?_eq_some_iff.1 hg).1
 have hgr : (l.map row)[0]? = some (row t) := by simp [hg]
 have q : decide ((0 : Int) < (l.length : Int)) = true := by simp; omega
 have q0 : decide ((0 : Int) < 0) = false := rfl
 have w1 : IntKind.i64.wrap (0 + 1) = 1 := rfl
 have k17 := fun lo hlo => f17 (lo := lo) (h := H20 h p0 out (Y ++ [.cells (row t)])) (k := t.k) (b := t.b) (n := t.n) (d := t.d) (w := t.w) (i := t.i) hlo hok.hy hok.hl hok.h0 hok.h1 hok.h2 hok.h3
 have er : tokR t.k t.b t.n t.d t.w t.i = .tup [.v (.string (bs (txt4 t))), .v (.int .i64 0)] := by
  unfold tokR okV; unfold may4 at hm; rw [hm]; rfl
 rw [er] at k17
 have hl1 : lo ≤ (H20 h p0 out (Y ++ [.cells (row t)])).length := by simp; omega
 have hl2 : h.length ≤ (H20 h p0 out (Y ++ [.cells (row t)])).length := by simp
 have k17a := k17 lo hl1; have k17b := k17 h.length hl2; have k17c := k17 (H20 h p0 out (Y ++ [.cells (row t)])).length (Nat.le_refl _)
 have htl := txt_len hok
 have hbl := hok.hl
 have c48 := fun lo hlo => f48 (lo := lo) (p := h) (q := Y ++ [.cells (row t)]) (p0 := p0) (out := out) hlo hp (s := txt4 t) (txt_by hok) (by omega) (by omega)
 have c48a := c48 lo hlo; have c48b := c48 h.length (Nat.le_refl _)
 clear k17 c48
 have n0 : ((0 : Nat) : Int) = 0 := rfl
 have n1 : ((1 : Nat) : Int) = 1 := rfl
 have hlo2 : lo ≤ List.length h + (List.length Y + 1) := by omega
 have hat : ∀ o c : Ob, (h ++ o :: (Y ++ [c]))[h.length + (Y.length + 1)]? = some c := at_end
 rw [N20, n0, N20, n1]
 unfold row tokV at *
 simp only [go_sem, l20x0, b20, Tryz.f20, q, q0, hgr, w1, hlo, hlo2, hat, k17a, k17b, k17c, c48a, c48b, Int.reduceBNe, List.append_assoc, List.cons_append, List.nil_append]
theorem round20s {j : Nat} {t0 : Tk4} (hlo : lo ≤ h.length) (hp : okP h.length p0 = true) (hg0 : l[j]? = some t0) (hg : l[j + 1]? = some t) (hok : TokOk t) (hm : may4 t = true) (hl : l.length ≤ 1000000000) (ho : out.length ≤ 900000000) :
  evCode ⟨Tryz.prog, E, lo, h.length, h20⟩ loopW l20x0 (N20 h l (j + 1), H20 h p0 out Y) =
   some (.normal, N20 h l (j + 1 + 1), H20 h (.ptr h.length 0) (out ++ (sepT (some t0.k) t.k ++ txt4 t)) (Y ++ [.cells (row t)])) := by
 have hlt : j + 1 < l.length := (List.getElem?_eq_some_iff.1 hg).1
 have hgr : (l.map row)[j + 1]? = some (row t) := by simp [hg]
 have hgr0 : (l.map row)[j]? = some (row t0) := by simp [hg0]
 have q : decide (((j + 1 : Nat) : Int) < (l.length : Int)) = true := by simp; omega
 have q0 : decide ((0 : Int) < ((j + 1 : Nat) : Int)) = true := by rw [decide_eq_true_iff]; omega
 have w1 : IntKind.i64.wrap (((j + 1 : Nat) : Int) + 1) = ((j + 1 + 1 : Nat) : Int) := wrap_succ (by omega)
 have w2 : IntKind.i64.wrap (((j + 1 : Nat) : Int) - 1) = (j : Int) := by
  have e : ((j + 1 : Nat) : Int) - 1 = (j : Int) := by omega
  rw [e]
  exact wrap_i64 (by omega) (by omega)
 have k17 := fun lo hlo => f17 (lo := lo) (h := H20 h p0 out (Y ++ [.cells (row t)])) (k := t.k) (b := t.b) (n := t.n) (d := t.d) (w := t.w) (i := t.i) hlo hok.hy hok.hl hok.h0 hok.h1 hok.h2 hok.h3
 have er : tokR t.k t.b t.n t.d t.w t.i = .tup [.v (.string (bs (txt4 t))), .v (.int .i64 0)] := by
  unfold tokR okV; unfold may4 at hm; rw [hm]; rfl
 rw [er] at k17
 have hl1 : lo ≤ (H20 h p0 out (Y ++ [.cells (row t)])).length := by simp; omega
 have hl2 : h.length ≤ (H20 h p0 out (Y ++ [.cells (row t)])).length := by simp
 have k17a := k17 lo hl1; have k17b := k17 h.length hl2; have k17c := k17 (H20 h p0 out (Y ++ [.cells (row t)])).length (Nat.le_refl _)
 have k47 := fun lo hlo => f47 (lo := lo) (h := H20 h p0 out (Y ++ [.cells (row t)])) (ka := t0.k) (ta := t0.b) (na := t0.n) (da := t0.d) (wa := t0.w) (ia := t0.i) (kb := t.k) (tb := t.b) (nb := t.n) (db := t.d) (wb := t.w) (ib := t.i) hlo
 have k47a := k47 lo hl1; have k47b := k47 h.length hl2; have k47c := k47 (h.length + (Y.length + 1 + 1)) (by simp)
 have htl := txt_len hok
 have hbl := hok.hl
 have c48 := fun lo hlo => f48 (lo := lo) (p := h) (q := Y ++ [.cells (row t)]) (p0 := p0) (out := out) hlo hp (s := txt4 t) (txt_by hok) (by omega) (by omega)
 have c48a := c48 lo hlo; have c48b := c48 h.length (Nat.le_refl _)
 have d48 := fun lo hlo => f48 (lo := lo) (p := h) (q := Y ++ [.cells (row t)]) (p0 := p0) (out := out) hlo hp (s := [47, 42, 42, 47]) (by_cons (by omega) (by omega) (by_cons (by omega) (by omega) (by_cons (by omega) (by omega) (by_cons (by omega) (by omega) by_nil)))) (by omega) (by simp)
 have d48a := d48 lo hlo; have d48b := d48 h.length (Nat.le_refl _)
 have g48 := fun lo hlo => f48 (lo := lo) (p := h) (q := Y ++ [.cells (row t)]) (p0 := .ptr h.length 0) (out := out ++ [47, 42, 42, 47]) hlo ok_self (s := txt4 t) (txt_by hok) (by simp; omega) (by omega)
 have g48a := g48 lo hlo; have g48b := g48 h.length (Nat.le_refl _)
 clear k17 c48 d48 g48 k47
 have hlo2 : lo ≤ List.length h + (List.length Y + 1) := by omega
 have hat : ∀ o c : Ob, (h ++ o :: (Y ++ [c]))[h.length + (Y.length + 1)]? = some c := at_end
 rw [N20, N20]
 unfold row tokV at *
 unfold sepT
 simp only
 cases qa : apartT t0.k t.k with
 | true =>
  rw [qa] at k47a k47b k47c
  rw [if_pos rfl]
  rw [List.append_assoc] at g48a g48b
  simp only [go_sem, l20x0, b20, Tryz.f20, q, q0, hgr, hgr0, w1, w2, hlo, hlo2, hat, k17a, k17b, k17c, k47a, k47b, k47c, bs_4742, d48a, d48b, g48a, g48b, Int.reduceBNe, List.append_assoc, List.cons_append, List.nil_append]
  all_goals rfl
 | false =>
  rw [qa] at k47a k47b k47c
  rw [if_neg (by simp), List.nil_append]
  simp only [go_sem, l20x0, b20, Tryz.f20, q, q0, hgr, hgr0, w1, w2, hlo, hlo2, hat, k17a, k17b, k17c, k47a, k47b, k47c, c48a, c48b, Int.reduceBNe, List.append_assoc, List.cons_append, List.nil_append]
  all_goals rfl
theorem err20 {k : Nat} (hlo : lo ≤ h.length) (hg : l[k]? = some t) (hok : TokOk t) (hm : may4 t = false) (hl : l.length ≤ 1000000000) :
  evCode ⟨Tryz.prog, E, lo, h.length, h20⟩ loopW l20x0 (N20 h l k, H20 h p0 out Y) =
   some (.ret, [(2, .v (.string (bs []))), (3, .v (.int .i64 1))], H20 h p0 out (Y ++ [.cells (row t)])) := by
 have hlt : k < l.length := (List.getElem?_eq_some_iff.1 hg).1
 have hgr : (l.map row)[k]? = some (row t) := by simp [hg]
 have q : decide ((k : Int) < (l.length : Int)) = true := by simp; omega
 have k17 := fun lo hlo => f17 (lo := lo) (h := H20 h p0 out (Y ++ [.cells (row t)])) (k := t.k) (b := t.b) (n := t.n) (d := t.d) (w := t.w) (i := t.i) hlo hok.hy hok.hl hok.h0 hok.h1 hok.h2 hok.h3
 have er : tokR t.k t.b t.n t.d t.w t.i = .tup [.v (.string (bs [])), .v (.int .i64 1)] := by
  unfold tokR errV; unfold may4 at hm; rw [hm]; rfl
 rw [er] at k17
 have hl1 : lo ≤ (H20 h p0 out (Y ++ [.cells (row t)])).length := by simp; omega
 have hl2 : h.length ≤ (H20 h p0 out (Y ++ [.cells (row t)])).length := by simp
 have k17a := k17 lo hl1; have k17b := k17 h.length hl2; have k17c := k17 (H20 h p0 out (Y ++ [.cells (row t)])).length (Nat.le_refl _)
 clear k17
 have hlo2 : lo ≤ List.length h + (List.length Y + 1) := by omega
 have hat : ∀ o c : Ob, (h ++ o :: (Y ++ [c]))[h.length + (Y.length + 1)]? = some c := at_end
 rw [N20]
 unfold row tokV at *
 simp only [go_sem, l20x0, b20, Tryz.f20, q, hgr, hlo, hlo2, hat, k17a, k17b, k17c, Int.reduceBNe, List.append_assoc, List.cons_append, List.nil_append]
 all_goals rfl
theorem stop20 (hlo : lo ≤ h.length) : loopW (evCode ⟨Tryz.prog, E, lo, h.length, h20⟩ loopW l20x0) (N20 h l l.length, H20 h p0 out Y) =
   some (.exit 0, N20 h l l.length ++ [(12, .v (.bool false))], H20 h p0 out Y) := by
 have q : decide ((l.length : Int) < (l.length : Int)) = false := by simp
 rw [loop_eq]
 simp only [go_sem, l20x0, b20, Tryz.f20, hlo, q]
 all_goals rfl
theorem loop20 (hlo : lo ≤ h.length) (hl : l.length ≤ 1000000000) (hok : ∀ t ∈ l, TokOk t) : ∀ (m k : Nat) (p0 : V) (out : List Int) (Y : Heap), k + m = l.length → okP h.length p0 = true → out.length + cost (l.drop k) ≤ 900000000 →
  if (l.drop k).all may4 = true then
   ∃ p1 Z, okP h.length p1 = true ∧ loopW (evCode ⟨Tryz.prog, E, lo, h.length, h20⟩ loopW l20x0) (N20 h l k, H20 h p0 out Y) = some (.exit 0, N20 h l l.length ++ [(12, .v (.bool false))], H20 h p1 (out ++ tokensT (prevK l k) (l.drop k)) Z)
  else ∃ p1 o Z, loopW (evCode ⟨Tryz.prog, E, lo, h.length, h20⟩ loopW l20x0) (N20 h l k, H20 h p0 out Y) = some (.ret, [(2, .v (.string (bs []))), (3, .v (.int .i64 1))], H20 h p1 o Z) := by
 intro m
 induction m with
 | zero =>
  intro k p0 out Y hk hp _
  obtain rfl : k = l.length := by omega
  rw [List.drop_length, if_pos (show ([] : List Tk4).all may4 = true from rfl)]
  exact ⟨p0, Y, hp, by rw [stop20 hlo, tokensT, List.append_nil]⟩
 | succ m ih =>
  intro k p0 out Y hk hp ho
  have hlt : k < l.length := by omega
  have hg : l[k]? = some l[k] := List.getElem?_eq_getElem hlt
  have hd : l.drop k = l[k] :: l.drop (k + 1) := List.drop_eq_getElem_cons hlt
  have hok1 := hok l[k] (List.getElem_mem hlt)
  rw [hd] at ho ⊢
  generalize l[k] = t at *
  simp only [cost] at ho
  cases hm : may4 t with
  | false =>
   rw [List.all_cons, hm, Bool.false_and, if_neg (by simp)]
   exact ⟨p0, out, Y ++ [.cells (row t)], by rw [loop_eq, err20 hlo hg hok1 hm hl, loop_r]⟩
  | true =>
   have htl := txt_len hok1
   have hsl := sep_len (prevK l k) t.k
   have er : evCode ⟨Tryz.prog, E, lo, h.length, h20⟩ loopW l20x0 (N20 h l k, H20 h p0 out Y) = some (.normal, N20 h l (k + 1), H20 h (.ptr h.length 0) (out ++ (sepT (prevK l k) t.k ++ txt4 t)) (Y ++ [.cells (row t)])) := by
    cases k with
    | zero => exact round20z hlo hp hg hok1 hm hl (by omega)
    | succ j =>
     have hg0 : l[j]? = some l[j] := List.getElem?_eq_getElem (by omega)
     have e : prevK l (j + 1) = some l[j].k := by show (l[j]?).map (·.k) = _; rw [hg0]; rfl
     rw [e]
     exact round20s hlo hp hg0 hg hok1 hm hl (by omega)
   have ek : prevK l (k + 1) = some t.k := by show (l[k]?).map (·.k) = _; rw [hg]; rfl
   have et : tokensT (prevK l k) (t :: l.drop (k + 1)) = (sepT (prevK l k) t.k ++ txt4 t) ++ tokensT (some t.k) (l.drop (k + 1)) := by simp [tokensT]
   have := ih (k + 1) (.ptr h.length 0) (out ++ (sepT (prevK l k) t.k ++ txt4 t)) (Y ++ [.cells (row t)]) (by omega) ok_self (by simp only [List.length_append]; omega)
   rw [List.all_cons, hm, Bool.true_and, loop_eq, er, loop_n, et]
   rw [ek, List.append_assoc] at this
   exact this
def toksR (l : List Tk4) : V := if l.all may4 = true then okV (tokensT none l) else errV
theorem f20 (hlo : lo ≤ h.length) (hl : l.length ≤ 1000000000) (hok : ∀ t ∈ l, TokOk t) (hc : cost l ≤ 900000000) : E lo 20 [.list .no (l.map row)] h = some (toksR l, h) := by
 have hL := loop20 (lo := lo) (h := h) hlo hl hok l.length 0 (.v (.pointer none)) [] [] (by omega) rfl (by rw [List.drop_zero]; simpa using hc)
 have n0 : ((0 : Nat) : Int) = 0 := rfl
 have hlen := tokens_len l none hok
 rw [List.drop_zero] at hL
 unfold toksR
 rw [e20 (by simp) (by rfl)]
 cases hm : l.all may4 with
 | false =>
  rw [hm, if_neg (by simp)] at hL
  obtain ⟨p1, o, Z, hL⟩ := hL
  rw [if_neg (by simp)]
  simp only [l20x0, b20, Tryz.f20, loopAt, loops, bodyOf, go_sem, ri_nil, H20, N20, n0, List.length_map] at hL
  simp only [go_sem, b20, Tryz.f20, hlo, hL, List.length_map]
  all_goals rfl
 | true =>
  rw [hm, if_pos rfl] at hL
  obtain ⟨p1, Z, hp1, hL⟩ := hL
  rw [if_pos rfl]
  have e : prevK l 0 = none := rfl
  rw [e, List.nil_append] at hL
  have k := fun lo hlo => f49 (lo := lo) (p := h) (q := Z) (p0 := p1) (out := tokensT none l) hlo (tokens_by l none hok) (by omega)
  have ka := k lo hlo; have kb := k h.length (Nat.le_refl _)
  simp only [l20x0, b20, Tryz.f20, loopAt, loops, bodyOf, go_sem, ri_nil, H20, N20, n0, List.length_map, List.cons_append, List.nil_append] at hL
  simp only [go_sem, b20, Tryz.f20, hlo, hL, ka, kb, List.length_map]
  all_goals rfl
end
end Go.Lift.R4
end

section
open Go.Proofs
namespace Go.Lift.R4
set_option linter.unusedSectionVars false
variable [MX]
open Utf Tok Spell
set_option maxRecDepth 20000
set_option maxHeartbeats 4000000
set_option linter.unusedSimpArgs false
set_option linter.unusedVariables false
section
variable {lo : Nat} {h : Heap}
theorem sound_asc {c : Int} (hc : 1 ≤ c ∧ c < 128) : raw [c] = [c] ∧ sound [c] = true := by
 have hs : ∀ x ∈ [c], scal x = x := by
  intro x hx
  simp at hx
  subst hx
  exact scal_ok (by omega) (by omega) (by omega)
 have e : encs [c] = [c] := by
  rw [encs_cons, hs c (by simp), enc_low hc.2]
  rfl
 have h1 := charsOk hs
 rw [e] at h1
 have h2 := (raw_encs [c]).2
 rw [e] at h2
 refine ⟨h1, ?_⟩
 unfold sound
 rw [h2]
 have : ([c] : List Int).contains 0 = false := by simp; omega
 rw [this]
 rfl
def wake : List Tk4 := [⟨1, [97], 0, 0, false, false⟩, ⟨1, [49], 0, 0, false, false⟩]
theorem wake_R : toksR wake = okV [97, 47, 42, 42, 47, 92, 51, 49, 32] := by
 obtain ⟨r1, s1⟩ := sound_asc (c := 97) (by omega)
 obtain ⟨r2, s2⟩ := sound_asc (c := 49) (by omega)
 have m1 : may4 ⟨1, [97], 0, 0, false, false⟩ = true := by
  have e : may4 ⟨1, [97], 0, 0, false, false⟩ = (!([97] : List Int).isEmpty && sound [97] && Z4 0 0 false false) := rfl
  rw [e, s1]
  rfl
 have m2 : may4 ⟨1, [49], 0, 0, false, false⟩ = true := by
  have e : may4 ⟨1, [49], 0, 0, false, false⟩ = (!([49] : List Int).isEmpty && sound [49] && Z4 0 0 false false) := rfl
  rw [e, s2]
  rfl
 have t1 : txt4 ⟨1, [97], 0, 0, false, false⟩ = [97] := by
  have e : txt4 ⟨1, [97], 0, 0, false, false⟩ = identT (raw [97]) := rfl
  rw [e, r1]
  decide
 have t2 : txt4 ⟨1, [49], 0, 0, false, false⟩ = [92, 51, 49, 32] := by
  have e : txt4 ⟨1, [49], 0, 0, false, false⟩ = identT (raw [49]) := rfl
  rw [e, r2]
  decide
 have s : sepT (some 1) 1 = [47, 42, 42, 47] := by decide
 unfold toksR wake
 rw [List.all_cons, List.all_cons, m1, m2]
 simp only [tokensT, t1, t2, s]
 rfl
theorem wake_ok : ∀ t ∈ wake, TokOk t := by
 intro t ht
 unfold wake at ht
 simp only [List.mem_cons, List.not_mem_nil, or_false] at ht
 rcases ht with rfl | rfl
 ·exact ⟨by_cons (by omega) (by omega) by_nil, by simp, by simp, by simp, by simp, by simp⟩
 ·exact ⟨by_cons (by omega) (by omega) by_nil, by simp, by simp, by simp, by simp, by simp⟩
theorem f19 (hlo : lo ≤ h.length) : E lo 19 [] h = some (.v (.bool true), h) := by
 have k := fun lo hlo => f20 (lo := lo) (h := h) (l := wake) hlo (by simp [wake]) wake_ok (by simp [wake, cost])
 rw [wake_R] at k
 have k : ∀ lo, lo ≤ h.length → E lo 20 [.list .no [[.v (.int .i64 1), .v (.string ⟨#[97]⟩), .v (.int .i64 0), .v (.int .i64 0), .v (.bool false), .v (.bool false)], [.v (.int .i64 1), .v (.string ⟨#[49]⟩), .v (.int .i64 0), .v (.int .i64 0), .v (.bool false), .v (.bool false)]]] h = some (.tup [.v (.string ⟨#[97, 47, 42, 42, 47, 92, 51, 49, 32]⟩), .v (.int .i64 0)], h) := k
 have ka := k lo hlo; have kb := k h.length (Nat.le_refl _)
 have q := s_eq ⟨#[97, 47, 42, 42, 47, 92, 51, 49, 32]⟩
 rw [e19 (by simp) (by rfl)]
 simp only [go_sem, b19, Tryz.f19, ka, kb, q, Int.reduceBEq]
 all_goals rfl
end
end Go.Lift.R4
end

section
open Go.Proofs
namespace Go.Lift.R4
set_option linter.unusedSectionVars false
variable [MX]
open Utf Tok Spell
set_option maxRecDepth 20000
set_option maxHeartbeats 4000000
set_option linter.unusedSimpArgs false
set_option linter.unusedVariables false
def tk4 (t : Tk) : Tk4 := ⟨t.kind, encs t.text, t.num.1, t.num.2, t.whole, t.id⟩
theorem row_tk (t : Tk) : T.tkC t = row (tk4 t) := rfl
theorem map_row (l : List Tk) : l.map T.tkC = (l.map tk4).map row := by
 rw [List.map_map]
 rfl
theorem sound_encs {l : List Int} (h : Snd l) : sound (encs l) = true := by
 unfold sound
 rw [(raw_encs l).2, zero_encs l fun x hx => (h x hx).1]
 have : l.contains 0 = false := by
  rw [Bool.eq_false_iff]
  intro hc
  exact (h 0 (by simpa using hc)).2 rfl
 rw [this]
 rfl
theorem encs_ne {l : List Int} (h : l ≠ []) : (encs l).isEmpty = false := by
 cases l with
 | nil => exact absurd rfl h
 | cons x t =>
  rw [encs_cons]
  cases e : enc (scal x) with
  | nil => exact absurd e (enc_ne _)
  | cons c u => rfl
theorem may_row {t : Tk} (h : MayQ t) : may4 (tk4 t) = true := by
 cases h with
 | @name k l hk hn hs =>
  show mayV k (encs l) 0 0 false false = true
  unfold mayV
  rw [if_pos hk, encs_ne hn, sound_encs hs]
  rfl
 | @hash l i hn hs hi =>
  show mayV 4 (encs l) 0 0 false i = true
  unfold mayV
  rw [if_neg (by decide), if_pos rfl, encs_ne hn, sound_encs hs, loose_encs l fun x hx => (hs x hx).1]
  rcases hi with rfl | hi
  ·rfl
  ·rw [hi, Bool.or_true]; rfl
 | @text k l hk hs =>
  show mayV k (encs l) 0 0 false false = true
  unfold mayV
  rw [if_neg (by omega), if_neg (by omega), if_pos hk, sound_encs hs]
  rfl
 | @sign c hc =>
  obtain ⟨_, _, _, _, _, h1, h2, _⟩ := sign_facts hc
  have e1 : encs [c] = [c] := encs_asc fun x hx => by simp at hx; omega
  show mayV 9 (encs [c]) 0 0 false false = true
  unfold mayV
  rw [if_neg (by decide), if_neg (by decide), if_neg (by decide), if_pos rfl, e1, hc]
  rfl
 | @num k n d w s nm hk hp hb =>
  show mayV k (encs []) n d w false = true
  unfold mayV
  rw [if_neg (by omega), if_neg (by omega), if_neg (by omega), if_neg (by omega), if_neg (by omega), if_pos hk, hp]
  rfl
 | @dim n d w l s nm hn hs hp hb =>
  show mayV 12 (encs l) n d w false = true
  unfold mayV
  rw [if_neg (by decide), if_neg (by decide), if_neg (by decide), if_neg (by decide), if_pos rfl, encs_ne hn, sound_encs hs, hp]
  rfl
 | @fix k hk =>
  show mayV k (encs []) 0 0 false false = true
  unfold mayV
  rw [if_neg (by omega), if_neg (by omega), if_neg (by omega), if_neg (by omega), if_neg (by omega), if_neg (by omega), if_pos (by omega)]
  rfl
theorem may_chars {t : Tk4} (ok : TokOk t) (hm : may4 t = true) : ∃ x : Tk, tk4 x = t ∧ MayQ x := by
 obtain ⟨k, b, n, d, w, i⟩ := t
 have hm : mayV k b n d w i = true := hm
 have hy := ok.hy
 have hk := may_kind hm
 have snd : sound b = true → encs (raw b) = b ∧ Snd (raw b) := fun hs => by
  obtain ⟨L, rfl, eL, h1, h2, _⟩ := sound_chars hy hs
  rw [eL]
  refine ⟨rfl, fun x hx => ⟨h1 x hx, ?_⟩⟩
  rintro rfl
  have : L.contains 0 = true := by simpa using hx
  rw [this] at h2
  cases h2
 have z4 : ∀ i', Z4 n d w i' = true → n = 0 ∧ d = 0 ∧ w = false ∧ i' = false := fun i' h => by
  unfold Z4 at h
  simpa using h
 have mk : ∀ l : List Int, encs l = b → tk4 ⟨k, l, (n, d), w, i⟩ = ⟨k, b, n, d, w, i⟩ := fun l h => by unfold tk4; rw [h]
 have hm2 := hm
 unfold mayV at hm
 rcases kinds k with hk1 | rfl | hk1 | rfl | rfl | hk1 | hk1 | hk1
 ·have hs := may_sound hm2 (by omega)
  have hn := may_ne hm2 (by omega)
  obtain ⟨e1, e2⟩ := snd hs
  rw [if_pos hk1] at hm
  simp only [Bool.and_eq_true] at hm
  obtain ⟨rfl, rfl, rfl, rfl⟩ := z4 _ hm.2
  exact ⟨_, mk _ e1, .name hk1 (fun h => hn (by rw [← e1, h]; rfl)) e2⟩
 ·have hs := may_sound hm2 (by omega)
  have hn := may_ne hm2 (by omega)
  obtain ⟨e1, e2⟩ := snd hs
  rw [if_neg (by decide), if_pos rfl] at hm
  simp only [Bool.and_eq_true, Bool.or_eq_true] at hm
  obtain ⟨rfl, rfl, rfl, _⟩ := z4 _ hm.2
  refine ⟨_, mk _ e1, .hash (fun h => hn (by rw [← e1, h]; rfl)) e2 ?_⟩
  rcases hm.1.2 with h | h
  ·exact .inl h
  ·right
   rw [← loose_encs _ fun x hx => (e2 x hx).1, e1]
   exact h
 ·have hs := may_sound hm2 (by omega)
  obtain ⟨e1, e2⟩ := snd hs
  rw [if_neg (by omega), if_neg (by omega), if_pos hk1] at hm
  simp only [Bool.and_eq_true] at hm
  obtain ⟨rfl, rfl, rfl, rfl⟩ := z4 _ hm.2
  exact ⟨_, mk _ e1, .text hk1 e2⟩
 ·rw [if_neg (by decide), if_neg (by decide), if_neg (by decide), if_pos rfl] at hm
  simp only [Bool.and_eq_true] at hm
  obtain ⟨rfl, rfl, rfl, rfl⟩ := z4 _ hm.2
  obtain ⟨c, rfl⟩ : ∃ c, b = [c] := by
   have := hm.1
   unfold signT at this
   split at this
   ·exact ⟨_, rfl⟩
   ·cases this
  have hc := hm.1
  obtain ⟨_, _, _, _, _, h1, h2, _⟩ := sign_facts hc
  exact ⟨_, mk [c] (encs_asc fun x hx => by simp at hx; omega), .sign hc⟩
 ·have hs := may_sound hm2 (by omega)
  have hn := may_ne hm2 (by omega)
  obtain ⟨e1, e2⟩ := snd hs
  obtain ⟨t, ht⟩ := may_plain hm2 (by omega)
  obtain ⟨nm, hb⟩ := plain_read ok.h0 ok.h1 ok.h3 ht
  rw [if_neg (by decide), if_neg (by decide), if_neg (by decide), if_neg (by decide), if_pos rfl] at hm
  simp only [Bool.and_eq_true, beq_iff_eq] at hm
  obtain rfl := hm.2
  exact ⟨_, mk _ e1, .dim (fun h => hn (by rw [← e1, h]; rfl)) e2 ht hb⟩
 ·obtain ⟨t, ht⟩ := may_plain hm2 (by omega)
  obtain ⟨nm, hb⟩ := plain_read ok.h0 ok.h1 ok.h3 ht
  rw [if_neg (by omega), if_neg (by omega), if_neg (by omega), if_neg (by omega), if_neg (by omega), if_pos hk1] at hm
  simp only [Bool.and_eq_true, beq_iff_eq, List.isEmpty_iff] at hm
  obtain ⟨_, rfl, rfl⟩ := hm
  exact ⟨_, mk [] rfl, .num hk1 ht hb⟩
 ·rw [if_neg (by omega), if_neg (by omega), if_neg (by omega), if_neg (by omega), if_neg (by omega), if_neg (by omega), if_pos (by omega)] at hm
  simp only [Bool.and_eq_true, List.isEmpty_iff] at hm
  obtain ⟨rfl, hz⟩ := hm
  obtain ⟨rfl, rfl, rfl, rfl⟩ := z4 _ hz
  exact ⟨_, mk [] rfl, .fix hk1⟩
 ·omega
theorem sep_eq (a b : Int) : sepT (some a) b = sepQ a b := rfl
theorem tokens_tail : ∀ (l : List Tk) (k : Int), tokensT (some k) (l.map tk4) = tailB k l
 | [], _ => rfl
 | t :: l, k => by
  show sepT (some k) (tk4 t).k ++ (txt4 (tk4 t) ++ tokensT (some (tk4 t).k) (l.map tk4)) = sepQ k t.kind ++ (txtB t ++ tailB t.kind l)
  rw [sep_eq, ← tokens_tail l t.kind]
  rfl
theorem tokens_B (l : List Tk) : tokensT none (l.map tk4) = toksB l := by
 cases l with
 | nil => rfl
 | cons t l =>
  show sepT none (tk4 t).k ++ (txt4 (tk4 t) ++ tokensT (some (tk4 t).k) (l.map tk4)) = txtB t ++ tailB t.kind l
  rw [← tokens_tail l t.kind]
  rfl
theorem all_row {l : List Tk} (h : ∀ t ∈ l, MayQ t) : (l.map tk4).all may4 = true := by
 rw [List.all_eq_true]
 intro x hx
 obtain ⟨t, ht, rfl⟩ := List.mem_map.1 hx
 exact may_row (h t ht)
theorem cost_row : ∀ l : List Tk, cost (l.map tk4) ≤ 304 * (textSum l + l.length)
 | [] => Nat.le_refl _
 | t :: l => by
  have := cost_row l
  have h2 : (encs t.text).length ≤ 4 * t.text.length := by
   generalize t.text = L
   induction L with
   | nil => simp [encs]
   | cons x L ih =>
    have := enc_len (scal x)
    rw [encs_cons, List.length_append, List.length_cons]
    omega
  have e : cost ((t :: l).map tk4) = 10 * (encs t.text).length + 304 + cost (l.map tk4) := rfl
  rw [e]
  simp only [textSum, List.length_cons]
  omega
theorem text_le {l : List Tk} {t : Tk} (h : t ∈ l) : t.text.length ≤ textSum l := by
 induction l with
 | nil => cases h
 | cons x l ih =>
  simp only [textSum]
  rcases List.mem_cons.1 h with rfl | h
  ·omega
  ·have := ih h; omega
theorem row_ok {b : List Int} (hy : By b) (hl : b.length ≤ 1048576) : (∀ t ∈ (T.btoks b).map tk4, TokOk t) ∧ cost ((T.btoks b).map tk4) ≤ 900000000 ∧ ((T.btoks b).map tk4).length ≤ 1000000000 := by
 have hd : ((Utf.decode b).map scal).length ≤ 1048576 := by
  rw [List.length_map]
  have := T.decode_len b
  omega
 have hs := toks_sum _ ((Utf.decode b).map scal) (Nat.le_refl _)
 have hc := cost_row (T.btoks b)
 unfold T.btoks at *
 refine ⟨fun x hx => ?_, by omega, by rw [List.length_map]; omega⟩
 obtain ⟨t, ht, rfl⟩ := List.mem_map.1 hx
 obtain ⟨w1, w2, w3, w4⟩ := toks_wide _ _ t ht
 have h1 := text_le ht
 have h2 : (encs t.text).length ≤ 4 * t.text.length := by
  generalize t.text = L
  induction L with
  | nil => simp [encs]
  | cons x L ih =>
   have := enc_len (scal x)
   rw [encs_cons, List.length_append, List.length_cons]
   omega
 exact ⟨encs_by _, by show (encs t.text).length ≤ _; omega, w1, w2, by show -9223372036854775808 ≤ t.num.2; omega, w4⟩
section
variable {lo : Nat} {h : Heap}
theorem f8 (hlo : lo ≤ h.length) {b : List Int} (hy : By b) (hl : b.length ≤ 1048576) : E lo 8 [.list .no (ri .u8 b)] h = some (.v (.bool true), h) := by
 obtain ⟨ok, hc, hlen⟩ := row_ok hy hl
 obtain ⟨hm, hback⟩ := spell_back hy
 have hm : ∀ t ∈ T.btoks b, MayQ t := hm
 have hB : toksR ((T.btoks b).map tk4) = okV (toksB (T.btoks b)) := by
  unfold toksR
  rw [all_row hm, if_pos rfl, tokens_B]
 have hBl := tokens_len _ none ok
 have hBy := tokens_by _ none ok
 rw [tokens_B] at hBl hBy
 have k1 := fun lo hlo => T.f15 (lo := lo) (h := h) (b := b) (by omega) hy hlo
 have k2 := fun lo hlo => f20 (lo := lo) (h := h) (l := (T.btoks b).map tk4) hlo hlen ok hc
 rw [hB, ← map_row] at k2
 have k3 := fun lo hlo => T.f15 (lo := lo) (h := h) (b := toksB (T.btoks b)) (by omega) hBy hlo
 have e : T.btoks (toksB (T.btoks b)) = T.btoks b := hback
 rw [e] at k3
 have k4 := fun lo => T.f11 (lo := lo) (h := h) (T.btoks b) (by rw [List.length_map] at hlen; omega)
 have k5 := fun lo hlo => f19 (lo := lo) (h := h) hlo
 unfold okV at k2
 generalize (T.btoks b).map T.tkC = R at *
 generalize toksB (T.btoks b) = B at *
 have hb := bytes_bs hBy
 have k1a := k1 lo hlo; have k1b := k1 h.length (Nat.le_refl _)
 have k2a := k2 lo hlo; have k2b := k2 h.length (Nat.le_refl _)
 have k3a := k3 lo hlo; have k3b := k3 h.length (Nat.le_refl _)
 have k5a := k5 lo hlo; have k5b := k5 h.length (Nat.le_refl _)
 rw [e8 (by simp) (by rfl)]
 simp only [go_sem, b8, Tryz.f8, hlo, k1a, k1b, k2a, k2b, hb, k3a, k3b, k4, k5a, k5b, Int.reduceBEq]
 all_goals rfl
end
end Go.Lift.R4
end

section
open Go.Proofs
namespace Go.Lift.R4
set_option linter.unusedSectionVars false
variable [MX]
open Utf Tok Spell
set_option maxRecDepth 20000
set_option maxHeartbeats 4000000
set_option linter.unusedSimpArgs false
set_option linter.unusedVariables false
theorem chain_one {x : Tk} (h6 : x.kind ≠ 6) (h9 : x.kind = 9 → x.text ≠ [92]) (h2 : x.kind = 2 → isUrl x.text = false) : Spell.Chain [x] :=
 ⟨⟨fun h => by
  rcases h with h | h
  ·exact absurd h h6
  ·exact absurd h.2 (h9 h.1), fun hk hu => by rw [h2 hk] at hu; cases hu⟩, trivial⟩
theorem toksB_one (x : Tk) : toksB [x] = txt4 (tk4 x) := by
 show txtB x ++ tailB x.kind [] = txtB x
 rw [show tailB x.kind [] = [] from rfl, List.append_nil]
theorem like_url {l : List Int} (h : isUrl l = true) : T.like (encs l) [117, 114, 108] = true := by
 have h2 : (encs l).map lowc = [117, 114, 108] := (T.low_url l [117, 114, 108] (by decide)).2 (by simpa [isUrl] using h)
 have e : T.low = lowc := rfl
 unfold T.like
 rw [e, h2]
 rfl
theorem one_back {t : Tk4} (ok : TokOk t) (hm : may4 t = true) (h6 : t.k ≠ 6) (h9 : ¬ (t.k = 9 ∧ t.b = [92])) (h2 : ¬ (t.k = 2 ∧ T.like t.b [117, 114, 108] = true)) : (T.btoks (txt4 t)).map T.tkC = [row t] := by
 obtain ⟨x, rfl, hx⟩ := may_chars ok hm
 have hc : Spell.Chain [x] := chain_one h6 (fun h e => h9 ⟨h, by
   show encs x.text = [92]
   rw [e]
   exact encs_asc fun c hc => by simp at hc; omega⟩) (fun h => by
  rw [Bool.eq_false_iff]
  intro hu
  exact h2 ⟨h, like_url hu⟩)
 have e := bytes_back [x] (by simpa using hx) hc
 rw [toksB_one] at e
 unfold T.btoks
 rw [e]
 rfl
def keepK (k : Int) : Bool := k == 1 || k == 10 || k == 12 || k == 11 || k == 5 || k == 18 || k == 4 || k == 3 || k == 15 || k == 7
theorem chain_row : ∀ l : List Tk, (∀ t ∈ l, keepK t.kind = true) → Spell.Chain l
 | [], _ => trivial
 | t :: l, h => by
  have hk := h t (by simp)
  unfold keepK at hk
  simp only [Bool.or_eq_true, beq_iff_eq] at hk
  refine ⟨⟨fun h => ?_, fun h => ?_⟩, chain_row l fun x hx => h x (by simp [hx])⟩
  ·rcases h with h | h <;> omega
  ·omega
theorem chars_row : ∀ l : List Tk4, (∀ t ∈ l, TokOk t) → l.all may4 = true → ∃ xs : List Tk, xs.map tk4 = l ∧ ∀ t ∈ xs, MayQ t
 | [], _, _ => ⟨[], rfl, fun t h => by cases h⟩
 | t :: l, ok, hm => by
  rw [List.all_cons, Bool.and_eq_true] at hm
  obtain ⟨x, hx, hmx⟩ := may_chars (ok t (by simp)) hm.1
  obtain ⟨xs, hxs, hms⟩ := chars_row l (fun y hy => ok y (by simp [hy])) hm.2
  refine ⟨x :: xs, by rw [List.map_cons, hx, hxs], fun y hy => ?_⟩
  rcases List.mem_cons.1 hy with rfl | hy
  ·exact hmx
  ·exact hms y hy
theorem row_back {l : List Tk4} (ok : ∀ t ∈ l, TokOk t) (hm : l.all may4 = true) (hk : ∀ t ∈ l, keepK t.k = true) : (T.btoks (tokensT none l)).map T.tkC = l.map row ∧ ∃ xs : List Tk, l.map row = xs.map T.tkC ∧ xs.length = l.length := by
 obtain ⟨xs, rfl, hx⟩ := chars_row l ok hm
 have e := bytes_back xs hx (chain_row xs fun t ht => hk (tk4 t) (List.mem_map_of_mem ht))
 rw [tokens_B]
 unfold T.btoks
 rw [e, map_row]
 exact ⟨rfl, xs, (map_row xs).symm, by simp⟩
end Go.Lift.R4
end

section
open Go.Proofs
namespace Go.Lift.R4
set_option linter.unusedSectionVars false
variable [MX]
open Utf
set_option maxRecDepth 20000
set_option maxHeartbeats 4000000
set_option linter.unusedSimpArgs false
set_option linter.unusedVariables false
noncomputable abbrev prim0 : Nat → Option (Nat → List V → Heap → Option (V × Heap)) := fun _ => none
noncomputable abbrev E0 : CallF := ev Tryz.prog hints prim0
theorem u8w (z : Int) : IntKind.u8.wrap z = z % 256 := by
 simp only [IntKind.wrap, IntKind.signed, IntKind.bits]
 simp
theorem sh_r (r : Int) (k : Nat) (hk : k ≤ 32) : ishr IntKind.i32 r (k : Int) = r / 2 ^ k := by
 unfold ishr
 have e : min ((k : Int)).toNat IntKind.i32.bits = k := by
  show min ((k : Int)).toNat 32 = k
  omega
 rw [e, Int.fdiv_eq_ediv_of_nonneg _ (Int.le_of_lt (Int.pow_pos (by omega)))]
theorem lo63 (z : Int) : iand .u8 (z % 256) 63 = z % 64 := by
 rw [a63 (y := z % 256) (by omega) (by omega)]
 omega
theorem or_128 {y : Int} (h0 : 0 ≤ y) (h1 : y < 64) : ior .u8 128 y = 128 + y := Utf.o8 (n := 64) (by omega) h0 (by omega)
theorem or_192 {y : Int} (h0 : 0 ≤ y) (h1 : y < 32) : ior .u8 192 y = 192 + y := Utf.o8 (n := 32) (by omega) h0 (by omega)
theorem or_224 {y : Int} (h0 : 0 ≤ y) (h1 : y < 16) : ior .u8 224 y = 224 + y := Utf.o8 (n := 16) (by omega) h0 (by omega)
theorem or_240 {y : Int} (h0 : 0 ≤ y) (h1 : y < 8) : ior .u8 240 y = 240 + y := Utf.o8 (n := 8) (by omega) h0 (by omega)
theorem u32w_pos {r : Int} (h0 : 0 ≤ r) (h1 : r ≤ 2147483647) : IntKind.u32.wrap r = r := by
 simp only [IntKind.wrap, IntKind.signed, IntKind.bits]
 simp
 omega
theorem u32w_neg {r : Int} (h0 : -2147483648 ≤ r) (h1 : r < 0) : IntKind.u32.wrap r = r + 4294967296 := by
 simp only [IntKind.wrap, IntKind.signed, IntKind.bits]
 simp
 omega
section
variable {N : Nat} {h : Heap} {out : List Int} {r : Int}
theorem ev158 (h0 : -2147483648 ≤ r) (h1 : r ≤ 2147483647) (hna : r < 0 ∨ 128 ≤ r) (hl : out.length ≤ 1000000000) :
  evCode ⟨Tryz.prog, E0, N, N, h158⟩ loopW b158 (args0 [.list .yes (ri .u8 out), .v (.int .i32 r)], h) = some (.ret, [(4, .list .yes (ri .u8 (out ++ enc (scal r))))], h) := by
 have hr : ∀ k, k ≤ 4 → (out.length + k) * 1 ≤ 140737488355328 := by intro k hk; omega
 have hq : ∀ k, 9223372036854775800 ≤ k → out.length ≤ k := by intro k hk; omega
 by_cases hbad : r < 0 ∨ 1114111 < r ∨ (55296 ≤ r ∧ r ≤ 57343)
 ·have hs : scal r = 65533 := by
   unfold scal
   rw [if_pos]
   simp
   omega
  have he : enc (scal r) = [239, 191, 189] := by rw [hs]; rfl
  rw [he, ← ri_app]
  have e1 : ri .u8 [239, 191, 189] = [[V.v (.int .u8 239)], [V.v (.int .u8 191)], [V.v (.int .u8 189)]] := rfl
  rw [e1]
  by_cases hn : r < 0
  ·have w := u32w_neg h0 hn
   have q1 : decide (r + 4294967296 ≤ 2047) = false := by simp; omega
   have q2 : decide (r + 4294967296 < 55296) = false := by simp; omega
   have q3 : decide (57343 < r + 4294967296) = true := by simp; omega
   have q4 : decide (r + 4294967296 ≤ 65535) = false := by simp; omega
   have q5 : decide (65535 < r + 4294967296) = true := by simp; omega
   have q6 : decide (r + 4294967296 ≤ 1114111) = false := by simp; omega
   simp only [go_sem, b158, Tryz.f158, w, q1, q2, q3, q4, q5, q6, hr, hq]
   all_goals rfl
  ·have w := u32w_pos (by omega) h1
   have q1 : decide (r ≤ 2047) = false := by simp; omega
   have q2 : decide (r < 55296) = false := by simp; omega
   by_cases hb : 1114111 < r
   ·have q3 : decide (57343 < r) = true := by simp; omega
    have q4 : decide (r ≤ 65535) = false := by simp; omega
    have q5 : decide (65535 < r) = true := by simp; omega
    have q6 : decide (r ≤ 1114111) = false := by simp; omega
    simp only [go_sem, b158, Tryz.f158, w, q1, q2, q3, q4, q5, q6, hr, hq]
    all_goals rfl
   ·have q3 : decide (57343 < r) = false := by simp; omega
    have q5 : decide (65535 < r) = false := by simp; omega
    simp only [go_sem, b158, Tryz.f158, w, q1, q2, q3, q5, hr, hq]
    all_goals rfl
 ·have hs : scal r = r := by
   unfold scal
   rw [if_neg]
   simp
   omega
  have w := u32w_pos (r := r) (by omega) h1
  have s6 : ishr IntKind.i32 r 6 = r / 64 := sh_r r 6 (by omega)
  have s12 : ishr IntKind.i32 r 12 = r / 4096 := sh_r r 12 (by omega)
  have s18 : ishr IntKind.i32 r 18 = r / 262144 := sh_r r 18 (by omega)
  have l0 := lo63 r
  have l6 := lo63 (r / 64)
  have l12 := lo63 (r / 4096)
  have o0 := or_128 (y := r % 64) (by omega) (by omega)
  have o6 := or_128 (y := r / 64 % 64) (by omega) (by omega)
  have o12 := or_128 (y := r / 4096 % 64) (by omega) (by omega)
  have m0 : r % 64 % 256 = r % 64 := by omega
  have m6 : r / 64 % 64 % 256 = r / 64 % 64 := by omega
  have m12 : r / 4096 % 64 % 256 = r / 4096 % 64 := by omega
  have n0 : (128 + r % 64) % 256 = 128 + r % 64 := by omega
  have n6 : (128 + r / 64 % 64) % 256 = 128 + r / 64 % 64 := by omega
  have n12 : (128 + r / 4096 % 64) % 256 = 128 + r / 4096 % 64 := by omega
  rw [hs, ← ri_app]
  by_cases c1 : r ≤ 2047
  ·have q1 : decide (r ≤ 2047) = true := by simp [c1]
   have t : r / 64 % 256 = r / 64 := by omega
   have o := or_192 (y := r / 64) (by omega) (by omega)
   have no : (192 + r / 64) % 256 = 192 + r / 64 := by omega
   have e : ri .u8 (enc r) = [[V.v (.int .u8 (192 + r / 64))], [V.v (.int .u8 (128 + r % 64))]] := by unfold enc; rw [if_neg (by omega), if_pos (by omega)]; rfl
   rw [e]
   simp only [go_sem, b158, Tryz.f158, w, q1, u8w, s6, l0, o0, m0, n0, t, o, no, hr, hq]
   all_goals rfl
  ·have q1 : decide (r ≤ 2047) = false := by simp; omega
   by_cases c2 : r ≤ 65535
   ·have t : r / 4096 % 256 = r / 4096 := by omega
    have o := or_224 (y := r / 4096) (by omega) (by omega)
    have no : (224 + r / 4096) % 256 = 224 + r / 4096 := by omega
    have e : ri .u8 (enc r) = [[V.v (.int .u8 (224 + r / 4096))], [V.v (.int .u8 (128 + r / 64 % 64))], [V.v (.int .u8 (128 + r % 64))]] := by unfold enc; rw [if_neg (by omega), if_neg (by omega), if_pos (by omega)]; rfl
    rw [e]
    by_cases c3 : r < 55296
    ·have q2 : decide (r < 55296) = true := by simp [c3]
     simp only [go_sem, b158, Tryz.f158, w, q1, q2, u8w, s6, s12, l0, l6, o0, o6, m0, m6, n0, n6, t, o, no, hr, hq]
     all_goals rfl
    ·have q2 : decide (r < 55296) = false := by simp; omega
     have q3 : decide (57343 < r) = true := by simp; omega
     have q4 : decide (r ≤ 65535) = true := by simp [c2]
     simp only [go_sem, b158, Tryz.f158, w, q1, q2, q3, q4, u8w, s6, s12, l0, l6, o0, o6, m0, m6, n0, n6, t, o, no, hr, hq]
     all_goals rfl
   ·have q2 : decide (r < 55296) = false := by simp; omega
    have q3 : decide (57343 < r) = true := by simp; omega
    have q4 : decide (r ≤ 65535) = false := by simp; omega
    have q5 : decide (65535 < r) = true := by simp; omega
    have q6 : decide (r ≤ 1114111) = true := by simp; omega
    have t : r / 262144 % 256 = r / 262144 := by omega
    have o := or_240 (y := r / 262144) (by omega) (by omega)
    have no : (240 + r / 262144) % 256 = 240 + r / 262144 := by omega
    have e : ri .u8 (enc r) = [[V.v (.int .u8 (240 + r / 262144))], [V.v (.int .u8 (128 + r / 4096 % 64))], [V.v (.int .u8 (128 + r / 64 % 64))], [V.v (.int .u8 (128 + r % 64))]] := by unfold enc; rw [if_neg (by omega), if_neg (by omega), if_neg (by omega)]; rfl
    rw [e]
    simp only [go_sem, b158, Tryz.f158, w, q1, q2, q3, q4, q5, q6, u8w, s6, s12, s18, l0, l6, l12, o0, o6, o12, m0, m6, m12, n0, n6, n12, t, o, no, hr, hq]
    all_goals rfl
theorem ev126 (h0 : 0 ≤ r) (h1 : r < 128) (hl : out.length ≤ 1000000000) :
  evCode ⟨Tryz.prog, E0, N, N, h126⟩ loopW b126 (args0 [.list .yes (ri .u8 out), .v (.int .i32 r)], h) = some (.ret, [(4, .list .yes (ri .u8 (out ++ enc (scal r))))], h) := by
 have hr : ∀ k, k ≤ 4 → (out.length + k) * 1 ≤ 140737488355328 := by intro k hk; omega
 have hq : ∀ k, 9223372036854775800 ≤ k → out.length ≤ k := by intro k hk; omega
 have hs : scal r = r := by
  unfold scal
  rw [if_neg]
  simp
  omega
 have e : ri .u8 (enc r) = [[V.v (.int .u8 r)]] := by unfold enc; rw [if_pos h1]; rfl
 have w := u32w_pos (r := r) (by omega) (by omega)
 have q : decide (r ≤ 127) = true := by simp; omega
 have t : r % 256 = r := by omega
 rw [hs, ← ri_app, e]
 simp only [go_sem, b126, Tryz.f126, w, q, u8w, t, hr, hq]
 all_goals rfl
end
end Go.Lift.R4
end
