/- Tokens, both sides; the laws, evaluated. -/
import Derived.Test.YtnfdhgadidacaaaGreatDoorSo
import Derived.Test.YtnfdhgadidacaaaGreatDoorSp
section
/- spell.Tokens. -/
open Go.Proofs
namespace Go.Lift.R4
set_option linter.unusedSectionVars false
variable [MX]
open Utf Tok Spell
set_option maxRecDepth 20000
set_option maxHeartbeats 4000000
set_option linter.unusedSimpArgs false
set_option linter.unusedVariables false

structure Tk4 where
  k : Int
  b : List Int
  n : Int
  d : Int
  w : Bool
  i : Bool
def row (t : Tk4) : List V := tokV t.k t.b t.n t.d t.w t.i
structure TokOk (t : Tk4) : Prop where
  hy : By t.b
  hl : t.b.length ≤ 10000000
  h0 : -9223372036854775808 ≤ t.n
  h1 : t.n ≤ 9223372036854775807
  h2 : -9223372036854775808 ≤ t.d
  h3 : t.d ≤ 9223372036854775807
def may4 (t : Tk4) : Bool := mayV t.k t.b t.n t.d t.w t.i
def txt4 (t : Tk4) : List Int := tokenT t.k t.b t.n t.d t.w t.i
/-- what stands between two tokens -/
def sepT (p : Option Int) (k : Int) : List Int := match p with
  | none => []
  | some j => if apartT j k = true then [47, 42, 42, 47] else []
def tokensT (p : Option Int) : List Tk4 → List Int
  | [] => []
  | t :: l => sepT p t.k ++ (txt4 t ++ tokensT (some t.k) l)
def cost : List Tk4 → Nat
  | [] => 0
  | t :: l => 10 * t.b.length + 304 + cost l
theorem sep_len (p : Option Int) (k : Int) : (sepT p k).length ≤ 4 := by
  unfold sepT
  split
  · simp
  · split <;> simp
theorem sep_by (p : Option Int) (k : Int) : By (sepT p k) := by
  unfold sepT
  split
  · exact by_nil
  · split
    · exact by_cons (by omega) (by omega) (by_cons (by omega) (by omega) (by_cons (by omega) (by omega) (by_cons (by omega) (by omega) by_nil)))
    · exact by_nil
theorem txt_len {t : Tk4} (h : TokOk t) : (txt4 t).length ≤ 10 * t.b.length + 300 := tokenT_len (plainT_ok h.h0 h.h1 h.h2 h.h3).2
theorem txt_by {t : Tk4} (h : TokOk t) : By (txt4 t) := tokenT_by h.hy (plainT_ok h.h0 h.h1 h.h2 h.h3).1
theorem tokens_len : ∀ (l : List Tk4) (p : Option Int), (∀ t ∈ l, TokOk t) → (tokensT p l).length ≤ cost l
  | [], _, _ => by simp [tokensT, cost]
  | t :: l, p, h => by
    have := txt_len (h t (by simp))
    have := sep_len p t.k
    have := tokens_len l (some t.k) fun x hx => h x (by simp [hx])
    simp only [tokensT, cost, List.length_append]
    omega
theorem tokens_by : ∀ (l : List Tk4) (p : Option Int), (∀ t ∈ l, TokOk t) → By (tokensT p l)
  | [], _, _ => by_nil
  | t :: l, p, h => by_app (sep_by p t.k) (by_app (txt_by (h t (by simp))) (tokens_by l _ fun x hx => h x (by simp [hx])))
/-- the kind ahead of a place -/
def prevK (l : List Tk4) : Nat → Option Int
  | 0 => none
  | j + 1 => (l[j]?).map (·.k)
section
variable {lo : Nat} {h : Heap} {l : List Tk4} {t : Tk4} {p0 : V} {out : List Int} {Y : Heap} {k : Nat}
theorem bs_4742 : (⟨#[47, 42, 42, 47]⟩ : ByteArray) = bs [47, 42, 42, 47] := rfl
abbrev N20 (h : Heap) (l : List Tk4) (k : Nat) : Env := [(0, .list .no (l.map row)), (4, .ptr h.length 0), (9, .list .no (l.map row)), (10, .v (.int .i64 l.length)), (11, .v (.int .i64 k))]
abbrev H20 (h : Heap) (p0 : V) (out : List Int) (Y : Heap) : Heap := h ++ .cells [p0, .list .yes (ri .u8 out)] :: Y
theorem at_end (o c : Ob) : (h ++ o :: (Y ++ [c]))[h.length + (Y.length + 1)]? = some c := by
  rw [List.getElem?_append_right (by omega)]
  simp
theorem round20z (hlo : lo ≤ h.length) (hp : okP h.length p0 = true) (hg : l[0]? = some t) (hok : TokOk t) (hm : may4 t = true) (hl : l.length ≤ 1000000000) (ho : out.length ≤ 900000000) :
    evCode ⟨Tryz.prog, E, lo, h.length, h20⟩ loopW l20x0 (N20 h l 0, H20 h p0 out Y) =
      some (.normal, N20 h l 1, H20 h (.ptr h.length 0) (out ++ txt4 t) (Y ++ [.cells (row t)])) := by
  have hlt : 0 < l.length := (List.getElem?_eq_some_iff.1 hg).1
  have hgr : (l.map row)[0]? = some (row t) := by simp [hg]
  have q : decide ((0 : Int) < (l.length : Int)) = true := by simp; omega
  have q0 : decide ((0 : Int) < 0) = false := rfl
  have w1 : IntKind.i64.wrap (0 + 1) = 1 := rfl
  have k17 := fun lo hlo => f17 (lo := lo) (h := H20 h p0 out (Y ++ [.cells (row t)])) (k := t.k) (b := t.b) (n := t.n) (d := t.d) (w := t.w) (i := t.i) hlo hok.hy hok.hl hok.h0 hok.h1 hok.h2 hok.h3
  have er : tokR t.k t.b t.n t.d t.w t.i = .tup [.v (.string (bs (txt4 t))), .v (.int .i64 0)] := by
    unfold tokR okV; unfold may4 at hm; rw [hm]; rfl
  rw [er] at k17
  have hl1 : lo ≤ (H20 h p0 out (Y ++ [.cells (row t)])).length := by simp; omega
  have hl2 : h.length ≤ (H20 h p0 out (Y ++ [.cells (row t)])).length := by simp
  have k17a := k17 lo hl1; have k17b := k17 h.length hl2; have k17c := k17 (H20 h p0 out (Y ++ [.cells (row t)])).length (Nat.le_refl _)
  have htl := txt_len hok
  have hbl := hok.hl
  have c48 := fun lo hlo => f48 (lo := lo) (p := h) (q := Y ++ [.cells (row t)]) (p0 := p0) (out := out) hlo hp (s := txt4 t) (txt_by hok) (by omega) (by omega)
  have c48a := c48 lo hlo; have c48b := c48 h.length (Nat.le_refl _)
  clear k17 c48
  have n0 : ((0 : Nat) : Int) = 0 := rfl
  have n1 : ((1 : Nat) : Int) = 1 := rfl
  have hlo2 : lo ≤ List.length h + (List.length Y + 1) := by omega
  have hat : ∀ o c : Ob, (h ++ o :: (Y ++ [c]))[h.length + (Y.length + 1)]? = some c := at_end
  rw [N20, n0, N20, n1]
  unfold row tokV at *
  simp only [go_sem, l20x0, b20, Tryz.f20, q, q0, hgr, w1, hlo, hlo2, hat, k17a, k17b, k17c, c48a, c48b, Int.reduceBNe, List.append_assoc, List.cons_append, List.nil_append]
theorem round20s {j : Nat} {t0 : Tk4} (hlo : lo ≤ h.length) (hp : okP h.length p0 = true) (hg0 : l[j]? = some t0) (hg : l[j + 1]? = some t) (hok : TokOk t) (hm : may4 t = true) (hl : l.length ≤ 1000000000) (ho : out.length ≤ 900000000) :
    evCode ⟨Tryz.prog, E, lo, h.length, h20⟩ loopW l20x0 (N20 h l (j + 1), H20 h p0 out Y) =
      some (.normal, N20 h l (j + 1 + 1), H20 h (.ptr h.length 0) (out ++ (sepT (some t0.k) t.k ++ txt4 t)) (Y ++ [.cells (row t)])) := by
  have hlt : j + 1 < l.length := (List.getElem?_eq_some_iff.1 hg).1
  have hgr : (l.map row)[j + 1]? = some (row t) := by simp [hg]
  have hgr0 : (l.map row)[j]? = some (row t0) := by simp [hg0]
  have q : decide (((j + 1 : Nat) : Int) < (l.length : Int)) = true := by simp; omega
  have q0 : decide ((0 : Int) < ((j + 1 : Nat) : Int)) = true := by rw [decide_eq_true_iff]; omega
  have w1 : IntKind.i64.wrap (((j + 1 : Nat) : Int) + 1) = ((j + 1 + 1 : Nat) : Int) := wrap_succ (by omega)
  have w2 : IntKind.i64.wrap (((j + 1 : Nat) : Int) - 1) = (j : Int) := by
    have e : ((j + 1 : Nat) : Int) - 1 = (j : Int) := by omega
    rw [e]
    exact wrap_i64 (by omega) (by omega)
  have k17 := fun lo hlo => f17 (lo := lo) (h := H20 h p0 out (Y ++ [.cells (row t)])) (k := t.k) (b := t.b) (n := t.n) (d := t.d) (w := t.w) (i := t.i) hlo hok.hy hok.hl hok.h0 hok.h1 hok.h2 hok.h3
  have er : tokR t.k t.b t.n t.d t.w t.i = .tup [.v (.string (bs (txt4 t))), .v (.int .i64 0)] := by
    unfold tokR okV; unfold may4 at hm; rw [hm]; rfl
  rw [er] at k17
  have hl1 : lo ≤ (H20 h p0 out (Y ++ [.cells (row t)])).length := by simp; omega
  have hl2 : h.length ≤ (H20 h p0 out (Y ++ [.cells (row t)])).length := by simp
  have k17a := k17 lo hl1; have k17b := k17 h.length hl2; have k17c := k17 (H20 h p0 out (Y ++ [.cells (row t)])).length (Nat.le_refl _)
  have k47 := fun lo hlo => f47 (lo := lo) (h := H20 h p0 out (Y ++ [.cells (row t)])) (ka := t0.k) (ta := t0.b) (na := t0.n) (da := t0.d) (wa := t0.w) (ia := t0.i) (kb := t.k) (tb := t.b) (nb := t.n) (db := t.d) (wb := t.w) (ib := t.i) hlo
  have k47a := k47 lo hl1; have k47b := k47 h.length hl2; have k47c := k47 (h.length + (Y.length + 1 + 1)) (by simp)
  have htl := txt_len hok
  have hbl := hok.hl
  have c48 := fun lo hlo => f48 (lo := lo) (p := h) (q := Y ++ [.cells (row t)]) (p0 := p0) (out := out) hlo hp (s := txt4 t) (txt_by hok) (by omega) (by omega)
  have c48a := c48 lo hlo; have c48b := c48 h.length (Nat.le_refl _)
  have d48 := fun lo hlo => f48 (lo := lo) (p := h) (q := Y ++ [.cells (row t)]) (p0 := p0) (out := out) hlo hp (s := [47, 42, 42, 47]) (by_cons (by omega) (by omega) (by_cons (by omega) (by omega) (by_cons (by omega) (by omega) (by_cons (by omega) (by omega) by_nil)))) (by omega) (by simp)
  have d48a := d48 lo hlo; have d48b := d48 h.length (Nat.le_refl _)
  have g48 := fun lo hlo => f48 (lo := lo) (p := h) (q := Y ++ [.cells (row t)]) (p0 := .ptr h.length 0) (out := out ++ [47, 42, 42, 47]) hlo ok_self (s := txt4 t) (txt_by hok) (by simp; omega) (by omega)
  have g48a := g48 lo hlo; have g48b := g48 h.length (Nat.le_refl _)
  clear k17 c48 d48 g48 k47
  have hlo2 : lo ≤ List.length h + (List.length Y + 1) := by omega
  have hat : ∀ o c : Ob, (h ++ o :: (Y ++ [c]))[h.length + (Y.length + 1)]? = some c := at_end
  rw [N20, N20]
  unfold row tokV at *
  unfold sepT
  simp only
  cases qa : apartT t0.k t.k with
  | true =>
    rw [qa] at k47a k47b k47c
    rw [if_pos rfl]
    rw [List.append_assoc] at g48a g48b
    simp only [go_sem, l20x0, b20, Tryz.f20, q, q0, hgr, hgr0, w1, w2, hlo, hlo2, hat, k17a, k17b, k17c, k47a, k47b, k47c, bs_4742, d48a, d48b, g48a, g48b, Int.reduceBNe, List.append_assoc, List.cons_append, List.nil_append]
    all_goals rfl
  | false =>
    rw [qa] at k47a k47b k47c
    rw [if_neg (by simp), List.nil_append]
    simp only [go_sem, l20x0, b20, Tryz.f20, q, q0, hgr, hgr0, w1, w2, hlo, hlo2, hat, k17a, k17b, k17c, k47a, k47b, k47c, c48a, c48b, Int.reduceBNe, List.append_assoc, List.cons_append, List.nil_append]
    all_goals rfl
theorem err20 {k : Nat} (hlo : lo ≤ h.length) (hg : l[k]? = some t) (hok : TokOk t) (hm : may4 t = false) (hl : l.length ≤ 1000000000) :
    evCode ⟨Tryz.prog, E, lo, h.length, h20⟩ loopW l20x0 (N20 h l k, H20 h p0 out Y) =
      some (.ret, [(2, .v (.string (bs []))), (3, .v (.int .i64 1))], H20 h p0 out (Y ++ [.cells (row t)])) := by
  have hlt : k < l.length := (List.getElem?_eq_some_iff.1 hg).1
  have hgr : (l.map row)[k]? = some (row t) := by simp [hg]
  have q : decide ((k : Int) < (l.length : Int)) = true := by simp; omega
  have k17 := fun lo hlo => f17 (lo := lo) (h := H20 h p0 out (Y ++ [.cells (row t)])) (k := t.k) (b := t.b) (n := t.n) (d := t.d) (w := t.w) (i := t.i) hlo hok.hy hok.hl hok.h0 hok.h1 hok.h2 hok.h3
  have er : tokR t.k t.b t.n t.d t.w t.i = .tup [.v (.string (bs [])), .v (.int .i64 1)] := by
    unfold tokR errV; unfold may4 at hm; rw [hm]; rfl
  rw [er] at k17
  have hl1 : lo ≤ (H20 h p0 out (Y ++ [.cells (row t)])).length := by simp; omega
  have hl2 : h.length ≤ (H20 h p0 out (Y ++ [.cells (row t)])).length := by simp
  have k17a := k17 lo hl1; have k17b := k17 h.length hl2; have k17c := k17 (H20 h p0 out (Y ++ [.cells (row t)])).length (Nat.le_refl _)
  clear k17
  have hlo2 : lo ≤ List.length h + (List.length Y + 1) := by omega
  have hat : ∀ o c : Ob, (h ++ o :: (Y ++ [c]))[h.length + (Y.length + 1)]? = some c := at_end
  rw [N20]
  unfold row tokV at *
  simp only [go_sem, l20x0, b20, Tryz.f20, q, hgr, hlo, hlo2, hat, k17a, k17b, k17c, Int.reduceBNe, List.append_assoc, List.cons_append, List.nil_append]
  all_goals rfl
theorem stop20 (hlo : lo ≤ h.length) : loopW (evCode ⟨Tryz.prog, E, lo, h.length, h20⟩ loopW l20x0) (N20 h l l.length, H20 h p0 out Y) =
      some (.exit 0, N20 h l l.length ++ [(12, .v (.bool false))], H20 h p0 out Y) := by
  have q : decide ((l.length : Int) < (l.length : Int)) = false := by simp
  rw [loop_eq]
  simp only [go_sem, l20x0, b20, Tryz.f20, hlo, q]
  all_goals rfl
theorem loop20 (hlo : lo ≤ h.length) (hl : l.length ≤ 1000000000) (hok : ∀ t ∈ l, TokOk t) : ∀ (m k : Nat) (p0 : V) (out : List Int) (Y : Heap), k + m = l.length → okP h.length p0 = true → out.length + cost (l.drop k) ≤ 900000000 →
    if (l.drop k).all may4 = true then
      ∃ p1 Z, okP h.length p1 = true ∧ loopW (evCode ⟨Tryz.prog, E, lo, h.length, h20⟩ loopW l20x0) (N20 h l k, H20 h p0 out Y) = some (.exit 0, N20 h l l.length ++ [(12, .v (.bool false))], H20 h p1 (out ++ tokensT (prevK l k) (l.drop k)) Z)
    else ∃ p1 o Z, loopW (evCode ⟨Tryz.prog, E, lo, h.length, h20⟩ loopW l20x0) (N20 h l k, H20 h p0 out Y) = some (.ret, [(2, .v (.string (bs []))), (3, .v (.int .i64 1))], H20 h p1 o Z) := by
  intro m
  induction m with
  | zero =>
    intro k p0 out Y hk hp _
    obtain rfl : k = l.length := by omega
    rw [List.drop_length, if_pos (show ([] : List Tk4).all may4 = true from rfl)]
    exact ⟨p0, Y, hp, by rw [stop20 hlo, tokensT, List.append_nil]⟩
  | succ m ih =>
    intro k p0 out Y hk hp ho
    have hlt : k < l.length := by omega
    have hg : l[k]? = some l[k] := List.getElem?_eq_getElem hlt
    have hd : l.drop k = l[k] :: l.drop (k + 1) := List.drop_eq_getElem_cons hlt
    have hok1 := hok l[k] (List.getElem_mem hlt)
    rw [hd] at ho ⊢
    generalize l[k] = t at *
    simp only [cost] at ho
    cases hm : may4 t with
    | false =>
      rw [List.all_cons, hm, Bool.false_and, if_neg (by simp)]
      exact ⟨p0, out, Y ++ [.cells (row t)], by rw [loop_eq, err20 hlo hg hok1 hm hl, loop_r]⟩
    | true =>
      have htl := txt_len hok1
      have hsl := sep_len (prevK l k) t.k
      have er : evCode ⟨Tryz.prog, E, lo, h.length, h20⟩ loopW l20x0 (N20 h l k, H20 h p0 out Y) = some (.normal, N20 h l (k + 1), H20 h (.ptr h.length 0) (out ++ (sepT (prevK l k) t.k ++ txt4 t)) (Y ++ [.cells (row t)])) := by
        cases k with
        | zero => exact round20z hlo hp hg hok1 hm hl (by omega)
        | succ j =>
          have hg0 : l[j]? = some l[j] := List.getElem?_eq_getElem (by omega)
          have e : prevK l (j + 1) = some l[j].k := by show (l[j]?).map (·.k) = _; rw [hg0]; rfl
          rw [e]
          exact round20s hlo hp hg0 hg hok1 hm hl (by omega)
      have ek : prevK l (k + 1) = some t.k := by show (l[k]?).map (·.k) = _; rw [hg]; rfl
      have et : tokensT (prevK l k) (t :: l.drop (k + 1)) = (sepT (prevK l k) t.k ++ txt4 t) ++ tokensT (some t.k) (l.drop (k + 1)) := by simp [tokensT]
      have := ih (k + 1) (.ptr h.length 0) (out ++ (sepT (prevK l k) t.k ++ txt4 t)) (Y ++ [.cells (row t)]) (by omega) ok_self (by simp only [List.length_append]; omega)
      rw [List.all_cons, hm, Bool.true_and, loop_eq, er, loop_n, et]
      rw [ek, List.append_assoc] at this
      exact this
/-- what the tokens' text comes back as -/
def toksR (l : List Tk4) : V := if l.all may4 = true then okV (tokensT none l) else errV
/-- jalousie/spell.Tokens -/
theorem f20 (hlo : lo ≤ h.length) (hl : l.length ≤ 1000000000) (hok : ∀ t ∈ l, TokOk t) (hc : cost l ≤ 900000000) : E lo 20 [.list .no (l.map row)] h = some (toksR l, h) := by
  have hL := loop20 (lo := lo) (h := h) hlo hl hok l.length 0 (.v (.pointer none)) [] [] (by omega) rfl (by rw [List.drop_zero]; simpa using hc)
  have n0 : ((0 : Nat) : Int) = 0 := rfl
  have hlen := tokens_len l none hok
  rw [List.drop_zero] at hL
  unfold toksR
  rw [e20 (by simp) (by rfl)]
  cases hm : l.all may4 with
  | false =>
    rw [hm, if_neg (by simp)] at hL
    obtain ⟨p1, o, Z, hL⟩ := hL
    rw [if_neg (by simp)]
    simp only [l20x0, b20, Tryz.f20, loopAt, loops, bodyOf, go_sem, ri_nil, H20, N20, n0, List.length_map] at hL
    simp only [go_sem, b20, Tryz.f20, hlo, hL, List.length_map]
    all_goals rfl
  | true =>
    rw [hm, if_pos rfl] at hL
    obtain ⟨p1, Z, hp1, hL⟩ := hL
    rw [if_pos rfl]
    have e : prevK l 0 = none := rfl
    rw [e, List.nil_append] at hL
    have k := fun lo hlo => f49 (lo := lo) (p := h) (q := Z) (p0 := p1) (out := tokensT none l) hlo (tokens_by l none hok) (by omega)
    have ka := k lo hlo; have kb := k h.length (Nat.le_refl _)
    simp only [l20x0, b20, Tryz.f20, loopAt, loops, bodyOf, go_sem, ri_nil, H20, N20, n0, List.length_map, List.cons_append, List.nil_append] at hL
    simp only [go_sem, b20, Tryz.f20, hlo, hL, ka, kb, List.length_map]
    all_goals rfl
end
end Go.Lift.R4
end

section
/- jalousieref4.Tokens. -/
open Go.Proofs
namespace Go.Lift.R4
set_option linter.unusedSectionVars false
variable [MX]
open Utf Tok Spell
set_option maxRecDepth 20000
set_option maxHeartbeats 4000000
set_option linter.unusedSimpArgs false
set_option linter.unusedVariables false

section
variable {lo : Nat} {h : Heap} {l : List Tk4} {t : Tk4} {out : List Int} {Y : Heap} {k : Nat}
abbrev N21 (l : List Tk4) (out : List Int) (k : Nat) : Env := [(0, .list .no (l.map row)), (4, .list .yes (ri .u8 out)), (9, .list .no (l.map row)), (10, .v (.int .i64 l.length)), (11, .v (.int .i64 k))]
theorem at_end2 (c : Ob) : (h ++ (Y ++ [c]))[h.length + Y.length]? = some c := by
  rw [List.getElem?_append_right (by omega)]
  simp
theorem round21z (hlo : lo ≤ h.length) (hg : l[0]? = some t) (hok : TokOk t) (hm : may4 t = true) (hl : l.length ≤ 1000000000) (ho : out.length ≤ 900000000) :
    evCode ⟨Tryz.prog, E, lo, h.length, h21⟩ loopW l21x0 (N21 l out 0, h ++ Y) =
      some (.normal, N21 l (out ++ txt4 t) 1, h ++ (Y ++ [Ob.cells (row t)])) := by
  have hlt : 0 < l.length := (List.getElem?_eq_some_iff.1 hg).1
  have hgr : (l.map row)[0]? = some (row t) := by simp [hg]
  have q : decide ((0 : Int) < (l.length : Int)) = true := by simp; omega
  have q0 : decide ((0 : Int) < 0) = false := rfl
  have w1 : IntKind.i64.wrap (0 + 1) = 1 := rfl
  have k18 := fun lo hlo => f18 (lo := lo) (h := h ++ (Y ++ [Ob.cells (row t)])) (k := t.k) (b := t.b) (n := t.n) (d := t.d) (w := t.w) (i := t.i) hlo hok.hy hok.hl hok.h0 hok.h1 hok.h2 hok.h3
  have er : tokR t.k t.b t.n t.d t.w t.i = .tup [.v (.string (bs (txt4 t))), .v (.int .i64 0)] := by
    unfold tokR okV; unfold may4 at hm; rw [hm]; rfl
  rw [er] at k18
  have hl1 : lo ≤ (h ++ (Y ++ [Ob.cells (row t)])).length := by simp; omega
  have hl2 : h.length ≤ (h ++ (Y ++ [Ob.cells (row t)])).length := by simp
  have k18a := k18 lo hl1; have k18b := k18 h.length hl2; have k18c := k18 (h.length + (Y.length + 1)) (by simp)
  have htl := txt_len hok
  have hbl := hok.hl
  have sz := bs_size (txt4 t)
  have hb := bytes_bs (txt_by hok)
  have z1 : (out.length + (txt4 t).length) * 1 ≤ 140737488355328 := by omega
  have z2 : out.length + (txt4 t).length ≤ 9223372036854775807 := by omega
  clear k18
  have n0 : ((0 : Nat) : Int) = 0 := rfl
  have n1 : ((1 : Nat) : Int) = 1 := rfl
  have hlo2 : lo ≤ List.length h + List.length Y := by omega
  have hat : ∀ c : Ob, (h ++ (Y ++ [c]))[h.length + Y.length]? = some c := at_end2
  have e : ri .u8 (out ++ txt4 t) = ri .u8 out ++ ri .u8 (txt4 t) := by rw [← ri_app]
  rw [N21, n0, N21, n1, e]
  unfold row tokV at *
  simp only [go_sem, l21x0, b21, Tryz.f21, q, q0, hgr, w1, hlo, hlo2, hat, k18a, k18b, k18c, sz, hb, z1, z2, Int.reduceBNe, List.append_assoc, List.cons_append, List.nil_append]
  all_goals rfl
theorem round21s {j : Nat} {t0 : Tk4} (hlo : lo ≤ h.length) (hg0 : l[j]? = some t0) (hg : l[j + 1]? = some t) (hok : TokOk t) (hm : may4 t = true) (hl : l.length ≤ 1000000000) (ho : out.length ≤ 900000000) :
    evCode ⟨Tryz.prog, E, lo, h.length, h21⟩ loopW l21x0 (N21 l out (j + 1), h ++ Y) =
      some (.normal, N21 l (out ++ (sepT (some t0.k) t.k ++ txt4 t)) (j + 1 + 1), h ++ (Y ++ [Ob.cells (row t)])) := by
  have hlt : j + 1 < l.length := (List.getElem?_eq_some_iff.1 hg).1
  have hgr : (l.map row)[j + 1]? = some (row t) := by simp [hg]
  have hgr0 : (l.map row)[j]? = some (row t0) := by simp [hg0]
  have q : decide (((j + 1 : Nat) : Int) < (l.length : Int)) = true := by simp; omega
  have q0 : decide ((0 : Int) < ((j + 1 : Nat) : Int)) = true := by rw [decide_eq_true_iff]; omega
  have w1 : IntKind.i64.wrap (((j + 1 : Nat) : Int) + 1) = ((j + 1 + 1 : Nat) : Int) := wrap_succ (by omega)
  have w2 : IntKind.i64.wrap (((j + 1 : Nat) : Int) - 1) = (j : Int) := by
    have e : ((j + 1 : Nat) : Int) - 1 = (j : Int) := by omega
    rw [e]
    exact wrap_i64 (by omega) (by omega)
  have k18 := fun lo hlo => f18 (lo := lo) (h := h ++ (Y ++ [Ob.cells (row t)])) (k := t.k) (b := t.b) (n := t.n) (d := t.d) (w := t.w) (i := t.i) hlo hok.hy hok.hl hok.h0 hok.h1 hok.h2 hok.h3
  have er : tokR t.k t.b t.n t.d t.w t.i = .tup [.v (.string (bs (txt4 t))), .v (.int .i64 0)] := by
    unfold tokR okV; unfold may4 at hm; rw [hm]; rfl
  rw [er] at k18
  have hl1 : lo ≤ (h ++ (Y ++ [Ob.cells (row t)])).length := by simp; omega
  have hl2 : h.length ≤ (h ++ (Y ++ [Ob.cells (row t)])).length := by simp
  have k18a := k18 lo hl1; have k18b := k18 h.length hl2; have k18c := k18 (h.length + (Y.length + 1)) (by simp)
  have k50 := fun lo hlo => f50 (lo := lo) (h := h ++ (Y ++ [Ob.cells (row t)])) (ka := t0.k) (ta := t0.b) (na := t0.n) (da := t0.d) (wa := t0.w) (ia := t0.i) (kb := t.k) (tb := t.b) (nb := t.n) (db := t.d) (wb := t.w) (ib := t.i) hlo
  have k50a := k50 lo hl1; have k50b := k50 h.length hl2; have k50c := k50 (h.length + (Y.length + 1)) (by simp)
  have htl := txt_len hok
  have hbl := hok.hl
  have sz := bs_size (txt4 t)
  have hb := bytes_bs (txt_by hok)
  have z1 : (out.length + (txt4 t).length) * 1 ≤ 140737488355328 := by omega
  have z2 : out.length + (txt4 t).length ≤ 9223372036854775807 := by omega
  have z3 : (out.length + 4 + (txt4 t).length) * 1 ≤ 140737488355328 := by omega
  have z4 : out.length + 4 + (txt4 t).length ≤ 9223372036854775807 := by omega
  have sz4 : (bs [47, 42, 42, 47]).size = 4 := bs_size [47, 42, 42, 47]
  have hb4 := bytes_bs (l := [47, 42, 42, 47]) (by_cons (by omega) (by omega) (by_cons (by omega) (by omega) (by_cons (by omega) (by omega) (by_cons (by omega) (by omega) by_nil))))
  have z5 : (out.length + 4) * 1 ≤ 140737488355328 := by omega
  have z6 : out.length + 4 ≤ 9223372036854775807 := by omega
  clear k18 k50
  have hlo2 : lo ≤ List.length h + List.length Y := by omega
  have hat : ∀ c : Ob, (h ++ (Y ++ [c]))[h.length + Y.length]? = some c := at_end2
  have e : ∀ a b : List Int, ri .u8 (a ++ b) = ri .u8 a ++ ri .u8 b := fun a b => by rw [← ri_app]
  have e4 : (ri .u8 [47, 42, 42, 47]).length = 4 := rfl
  rw [N21, N21]
  unfold row tokV at *
  unfold sepT
  simp only
  cases qa : apartT t0.k t.k with
  | true =>
    rw [qa] at k50a k50b k50c
    rw [if_pos rfl, e, e]
    simp only [go_sem, l21x0, b21, Tryz.f21, q, q0, hgr, hgr0, w1, w2, hlo, hlo2, hat, k18a, k18b, k18c, k50a, k50b, k50c, bs_4742, sz, hb, sz4, hb4, e4, z1, z2, z3, z4, z5, z6, Int.reduceBNe, List.append_assoc, List.length_append]
    all_goals rfl
  | false =>
    rw [qa] at k50a k50b k50c
    rw [if_neg (by simp), List.nil_append, e]
    simp only [go_sem, l21x0, b21, Tryz.f21, q, q0, hgr, hgr0, w1, w2, hlo, hlo2, hat, k18a, k18b, k18c, k50a, k50b, k50c, sz, hb, z1, z2, Int.reduceBNe, List.append_assoc, List.cons_append, List.nil_append]
    all_goals rfl
theorem err21 {k : Nat} (hlo : lo ≤ h.length) (hg : l[k]? = some t) (hok : TokOk t) (hm : may4 t = false) (hl : l.length ≤ 1000000000) :
    evCode ⟨Tryz.prog, E, lo, h.length, h21⟩ loopW l21x0 (N21 l out k, h ++ Y) =
      some (.ret, [(2, .v (.string (bs []))), (3, .v (.int .i64 1))], h ++ (Y ++ [Ob.cells (row t)])) := by
  have hlt : k < l.length := (List.getElem?_eq_some_iff.1 hg).1
  have hgr : (l.map row)[k]? = some (row t) := by simp [hg]
  have q : decide ((k : Int) < (l.length : Int)) = true := by simp; omega
  have k18 := fun lo hlo => f18 (lo := lo) (h := h ++ (Y ++ [Ob.cells (row t)])) (k := t.k) (b := t.b) (n := t.n) (d := t.d) (w := t.w) (i := t.i) hlo hok.hy hok.hl hok.h0 hok.h1 hok.h2 hok.h3
  have er : tokR t.k t.b t.n t.d t.w t.i = .tup [.v (.string (bs [])), .v (.int .i64 1)] := by
    unfold tokR errV; unfold may4 at hm; rw [hm]; rfl
  rw [er] at k18
  have hl1 : lo ≤ (h ++ (Y ++ [Ob.cells (row t)])).length := by simp; omega
  have hl2 : h.length ≤ (h ++ (Y ++ [Ob.cells (row t)])).length := by simp
  have k18a := k18 lo hl1; have k18b := k18 h.length hl2; have k18c := k18 (h.length + (Y.length + 1)) (by simp)
  clear k18
  have hlo2 : lo ≤ List.length h + List.length Y := by omega
  have hat : ∀ c : Ob, (h ++ (Y ++ [c]))[h.length + Y.length]? = some c := at_end2
  rw [N21]
  unfold row tokV at *
  simp only [go_sem, l21x0, b21, Tryz.f21, q, hgr, hlo, hlo2, hat, k18a, k18b, k18c, Int.reduceBNe, List.append_assoc, List.cons_append, List.nil_append]
  all_goals rfl
theorem stop21 (hlo : lo ≤ h.length) : loopW (evCode ⟨Tryz.prog, E, lo, h.length, h21⟩ loopW l21x0) (N21 l out l.length, h ++ Y) =
      some (.exit 0, N21 l out l.length ++ [(12, .v (.bool false))], h ++ Y) := by
  have q : decide ((l.length : Int) < (l.length : Int)) = false := by simp
  rw [loop_eq]
  simp only [go_sem, l21x0, b21, Tryz.f21, hlo, q]
  all_goals rfl
theorem loop21 (hlo : lo ≤ h.length) (hl : l.length ≤ 1000000000) (hok : ∀ t ∈ l, TokOk t) : ∀ (m k : Nat) (out : List Int) (Y : Heap), k + m = l.length → out.length + cost (l.drop k) ≤ 900000000 →
    if (l.drop k).all may4 = true then
      ∃ Z, loopW (evCode ⟨Tryz.prog, E, lo, h.length, h21⟩ loopW l21x0) (N21 l out k, h ++ Y) = some (.exit 0, N21 l (out ++ tokensT (prevK l k) (l.drop k)) l.length ++ [(12, .v (.bool false))], h ++ Z)
    else ∃ Z, loopW (evCode ⟨Tryz.prog, E, lo, h.length, h21⟩ loopW l21x0) (N21 l out k, h ++ Y) = some (.ret, [(2, .v (.string (bs []))), (3, .v (.int .i64 1))], h ++ Z) := by
  intro m
  induction m with
  | zero =>
    intro k out Y hk _
    obtain rfl : k = l.length := by omega
    rw [List.drop_length, if_pos (show ([] : List Tk4).all may4 = true from rfl)]
    exact ⟨Y, by rw [stop21 hlo, tokensT, List.append_nil]⟩
  | succ m ih =>
    intro k out Y hk ho
    have hlt : k < l.length := by omega
    have hg : l[k]? = some l[k] := List.getElem?_eq_getElem hlt
    have hd : l.drop k = l[k] :: l.drop (k + 1) := List.drop_eq_getElem_cons hlt
    have hok1 := hok l[k] (List.getElem_mem hlt)
    rw [hd] at ho ⊢
    generalize l[k] = t at *
    simp only [cost] at ho
    cases hm : may4 t with
    | false =>
      rw [List.all_cons, hm, Bool.false_and, if_neg (by simp)]
      exact ⟨Y ++ [Ob.cells (row t)], by rw [loop_eq, err21 hlo hg hok1 hm hl, loop_r]⟩
    | true =>
      have htl := txt_len hok1
      have hsl := sep_len (prevK l k) t.k
      have er : evCode ⟨Tryz.prog, E, lo, h.length, h21⟩ loopW l21x0 (N21 l out k, h ++ Y) = some (.normal, N21 l (out ++ (sepT (prevK l k) t.k ++ txt4 t)) (k + 1), h ++ (Y ++ [Ob.cells (row t)])) := by
        cases k with
        | zero => exact round21z hlo hg hok1 hm hl (by omega)
        | succ j =>
          have hg0 : l[j]? = some l[j] := List.getElem?_eq_getElem (by omega)
          have e : prevK l (j + 1) = some l[j].k := by show (l[j]?).map (·.k) = _; rw [hg0]; rfl
          rw [e]
          exact round21s hlo hg0 hg hok1 hm hl (by omega)
      have ek : prevK l (k + 1) = some t.k := by show (l[k]?).map (·.k) = _; rw [hg]; rfl
      have et : tokensT (prevK l k) (t :: l.drop (k + 1)) = (sepT (prevK l k) t.k ++ txt4 t) ++ tokensT (some t.k) (l.drop (k + 1)) := by simp [tokensT]
      have := ih (k + 1) (out ++ (sepT (prevK l k) t.k ++ txt4 t)) (Y ++ [Ob.cells (row t)]) (by omega) (by simp only [List.length_append]; omega)
      rw [List.all_cons, hm, Bool.true_and, loop_eq, er, loop_n, et]
      rw [ek, List.append_assoc] at this
      exact this
/-- jalousieref4.Tokens -/
theorem f21 (hlo : lo ≤ h.length) (hl : l.length ≤ 1000000000) (hok : ∀ t ∈ l, TokOk t) (hc : cost l ≤ 900000000) : E lo 21 [.list .no (l.map row)] h = some (toksR l, h) := by
  have hL := loop21 (lo := lo) (h := h) hlo hl hok l.length 0 [] [] (by omega) (by rw [List.drop_zero]; simpa using hc)
  have n0 : ((0 : Nat) : Int) = 0 := rfl
  have hlen := tokens_len l none hok
  rw [List.drop_zero] at hL
  unfold toksR
  rw [e21 (by simp) (by rfl)]
  cases hm : l.all may4 with
  | false =>
    rw [hm, if_neg (by simp)] at hL
    obtain ⟨Z, hL⟩ := hL
    rw [if_neg (by simp)]
    simp only [l21x0, b21, Tryz.f21, loopAt, loops, bodyOf, go_sem, ri_nil, N21, n0, List.length_map, List.append_nil] at hL
    simp only [go_sem, b21, Tryz.f21, hlo, hL, List.length_map]
    all_goals rfl
  | true =>
    rw [hm, if_pos rfl] at hL
    obtain ⟨Z, hL⟩ := hL
    rw [if_pos rfl]
    have e : prevK l 0 = none := rfl
    rw [e, List.nil_append] at hL
    simp only [l21x0, b21, Tryz.f21, loopAt, loops, bodyOf, go_sem, ri_nil, N21, n0, List.length_map, List.cons_append, List.nil_append, List.append_nil] at hL
    have e3 : (⟨(u8s (tokensT none l)).toArray⟩ : ByteArray) = bs (tokensT none l) := rfl
    simp only [go_sem, b21, Tryz.f21, hlo, hL, List.length_map, ri_bytes, e3]
    all_goals rfl
end
end Go.Lift.R4
end

section
/- The laws SpellToken, SpellTokens, SpellIdent, evaluated. -/
open Go.Proofs
namespace Go.Lift.R4
set_option linter.unusedSectionVars false
variable [MX]
open Utf Tok Spell
set_option maxRecDepth 20000
set_option maxHeartbeats 4000000
set_option linter.unusedSimpArgs false
set_option linter.unusedVariables false

section
variable {lo : Nat} {h : Heap}
theorem tokR_form (k : Int) (b : List Int) (n d : Int) (w i : Bool) : ∃ s e, tokR k b n d w i = .tup [.v (.string (bs s)), .v (.int .i64 e)] := by
  unfold tokR
  split
  · exact ⟨_, _, rfl⟩
  · exact ⟨_, _, rfl⟩
theorem toksR_form (l : List Tk4) : ∃ s e, toksR l = .tup [.v (.string (bs s)), .v (.int .i64 e)] := by
  unfold toksR
  split
  · exact ⟨_, _, rfl⟩
  · exact ⟨_, _, rfl⟩
theorem sound_asc {c : Int} (hc : 1 ≤ c ∧ c < 128) : raw [c] = [c] ∧ sound [c] = true := by
  have hs : ∀ x ∈ [c], scal x = x := by
    intro x hx
    simp at hx
    subst hx
    exact scal_ok (by omega) (by omega) (by omega)
  have e : encs [c] = [c] := by
    rw [encs_cons, hs c (by simp), enc_low hc.2]
    rfl
  have h1 := charsOk hs
  rw [e] at h1
  have h2 := (raw_encs [c]).2
  rw [e] at h2
  refine ⟨h1, ?_⟩
  unfold sound
  rw [h2]
  have : ([c] : List Int).contains 0 = false := by simp; omega
  rw [this]
  rfl
def wake : List Tk4 := [⟨1, [97], 0, 0, false, false⟩, ⟨1, [49], 0, 0, false, false⟩]
theorem wake_R : toksR wake = okV [97, 47, 42, 42, 47, 92, 51, 49, 32] := by
  obtain ⟨r1, s1⟩ := sound_asc (c := 97) (by omega)
  obtain ⟨r2, s2⟩ := sound_asc (c := 49) (by omega)
  have m1 : may4 ⟨1, [97], 0, 0, false, false⟩ = true := by
    have e : may4 ⟨1, [97], 0, 0, false, false⟩ = (!([97] : List Int).isEmpty && sound [97] && Z4 0 0 false false) := rfl
    rw [e, s1]
    rfl
  have m2 : may4 ⟨1, [49], 0, 0, false, false⟩ = true := by
    have e : may4 ⟨1, [49], 0, 0, false, false⟩ = (!([49] : List Int).isEmpty && sound [49] && Z4 0 0 false false) := rfl
    rw [e, s2]
    rfl
  have t1 : txt4 ⟨1, [97], 0, 0, false, false⟩ = [97] := by
    have e : txt4 ⟨1, [97], 0, 0, false, false⟩ = identT (raw [97]) := rfl
    rw [e, r1]
    decide
  have t2 : txt4 ⟨1, [49], 0, 0, false, false⟩ = [92, 51, 49, 32] := by
    have e : txt4 ⟨1, [49], 0, 0, false, false⟩ = identT (raw [49]) := rfl
    rw [e, r2]
    decide
  have s : sepT (some 1) 1 = [47, 42, 42, 47] := by decide
  unfold toksR wake
  rw [List.all_cons, List.all_cons, m1, m2]
  simp only [tokensT, t1, t2, s]
  rfl
theorem wake_ok : ∀ t ∈ wake, TokOk t := by
  intro t ht
  unfold wake at ht
  simp only [List.mem_cons, List.not_mem_nil, or_false] at ht
  rcases ht with rfl | rfl
  · exact ⟨by_cons (by omega) (by omega) by_nil, by simp, by simp, by simp, by simp, by simp⟩
  · exact ⟨by_cons (by omega) (by omega) by_nil, by simp, by simp, by simp, by simp, by simp⟩
/-- awake -/
theorem f19 (hlo : lo ≤ h.length) : E lo 19 [] h = some (.v (.bool true), h) := by
  have k := fun lo hlo => f20 (lo := lo) (h := h) (l := wake) hlo (by simp [wake]) wake_ok (by simp [wake, cost])
  rw [wake_R] at k
  have k : ∀ lo, lo ≤ h.length → E lo 20 [.list .no [[.v (.int .i64 1), .v (.string ⟨#[97]⟩), .v (.int .i64 0), .v (.int .i64 0), .v (.bool false), .v (.bool false)], [.v (.int .i64 1), .v (.string ⟨#[49]⟩), .v (.int .i64 0), .v (.int .i64 0), .v (.bool false), .v (.bool false)]]] h = some (.tup [.v (.string ⟨#[97, 47, 42, 42, 47, 92, 51, 49, 32]⟩), .v (.int .i64 0)], h) := k
  have ka := k lo hlo; have kb := k h.length (Nat.le_refl _)
  have q := s_eq ⟨#[97, 47, 42, 42, 47, 92, 51, 49, 32]⟩
  rw [e19 (by simp) (by rfl)]
  simp only [go_sem, b19, Tryz.f19, ka, kb, q, Int.reduceBEq]
  all_goals rfl
/-- jalousie/spell.Ident -/
theorem f22 (hlo : lo ≤ h.length) {b : List Int} (hy : By b) (hl : b.length ≤ 10000000) : E lo 22 [.v (.string (bs b))] h = some (tokR 1 b 0 0 false false, h) := by
  have k := fun lo hlo => f17 (lo := lo) (h := h) (k := 1) (b := b) (n := 0) (d := 0) (w := false) (i := false) hlo hy hl (by omega) (by omega) (by omega) (by omega)
  obtain ⟨s, e, he⟩ := tokR_form 1 b 0 0 false false
  rw [he] at k ⊢
  unfold tokV at k
  have ka := k lo hlo; have kb := k h.length (Nat.le_refl _)
  rw [e22 (by simp) (by rfl)]
  simp only [go_sem, b22, Tryz.f22, ka, kb]
  all_goals rfl
/-- the law SpellToken -/
theorem f5 (hlo : lo ≤ h.length) {k n d : Int} {b : List Int} {w i : Bool} (hy : By b) (hl : b.length ≤ 10000000) (h0 : -9223372036854775808 ≤ n) (h1 : n ≤ 9223372036854775807) (h2 : -9223372036854775808 ≤ d) (h3 : d ≤ 9223372036854775807) :
    E lo 5 [.agg (tokV k b n d w i)] h = some (.v (.bool true), h) := by
  have hl1 : lo ≤ (h ++ [Ob.cells (tokV k b n d w i)]).length := by simp; omega
  have hl2 : h.length ≤ (h ++ [Ob.cells (tokV k b n d w i)]).length := by simp
  have hl3 : h.length + 1 ≤ (h ++ [Ob.cells (tokV k b n d w i)]).length := by simp
  have k1 := fun lo hlo => f17 (lo := lo) (h := h ++ [Ob.cells (tokV k b n d w i)]) (k := k) (b := b) (n := n) (d := d) (w := w) (i := i) hlo hy hl h0 h1 h2 h3
  have k2 := fun lo hlo => f18 (lo := lo) (h := h ++ [Ob.cells (tokV k b n d w i)]) (k := k) (b := b) (n := n) (d := d) (w := w) (i := i) hlo hy hl h0 h1 h2 h3
  have k3 := fun lo hlo => f19 (lo := lo) (h := h ++ [Ob.cells (tokV k b n d w i)]) hlo
  obtain ⟨s, e, he⟩ := tokR_form k b n d w i
  rw [he] at k1 k2
  have k1a := k1 lo hl1; have k1b := k1 h.length hl2; have k1c := k1 (h.length + 1) hl3
  have k2a := k2 lo hl1; have k2b := k2 h.length hl2; have k2c := k2 (h.length + 1) hl3
  have k3a := k3 lo hl1; have k3b := k3 h.length hl2; have k3c := k3 (h.length + 1) hl3
  have q1 := s_eq (bs s)
  have q2 := k_eq e
  rw [e5 (by simp) (by rfl)]
  unfold tokV at *
  simp only [go_sem, b5, Tryz.f5, hlo, k1a, k1b, k1c, k2a, k2b, k2c, k3a, k3b, k3c, q1, q2]
  all_goals rfl
/-- the law SpellTokens -/
theorem f6 (hlo : lo ≤ h.length) {l : List Tk4} (hl : l.length ≤ 1000000000) (hok : ∀ t ∈ l, TokOk t) (hc : cost l ≤ 900000000) :
    E lo 6 [.list .no (l.map row)] h = some (.v (.bool true), h) := by
  have k1 := fun lo hlo => f20 (lo := lo) (h := h) (l := l) hlo hl hok hc
  have k2 := fun lo hlo => f21 (lo := lo) (h := h) (l := l) hlo hl hok hc
  have k3 := fun lo hlo => f19 (lo := lo) (h := h) hlo
  obtain ⟨s, e, he⟩ := toksR_form l
  rw [he] at k1 k2
  have k1a := k1 lo hlo; have k1b := k1 h.length (Nat.le_refl _)
  have k2a := k2 lo hlo; have k2b := k2 h.length (Nat.le_refl _)
  have k3a := k3 lo hlo; have k3b := k3 h.length (Nat.le_refl _)
  have q1 := s_eq (bs s)
  have q2 := k_eq e
  rw [e6 (by simp) (by rfl)]
  simp only [go_sem, b6, Tryz.f6, hlo, k1a, k1b, k2a, k2b, k3a, k3b, q1, q2]
  all_goals rfl
/-- the law SpellIdent -/
theorem f7 (hlo : lo ≤ h.length) {b : List Int} (hy : By b) (hl : b.length ≤ 10000000) : E lo 7 [.v (.string (bs b))] h = some (.v (.bool true), h) := by
  have k1 := fun lo hlo => f22 (lo := lo) (h := h) (b := b) hlo hy hl
  have k2 := fun lo hlo => f18 (lo := lo) (h := h) (k := 1) (b := b) (n := 0) (d := 0) (w := false) (i := false) hlo hy hl (by omega) (by omega) (by omega) (by omega)
  have k3 := fun lo hlo => f19 (lo := lo) (h := h) hlo
  obtain ⟨s, e, he⟩ := tokR_form 1 b 0 0 false false
  rw [he] at k1 k2
  unfold tokV at k2
  have k1a := k1 lo hlo; have k1b := k1 h.length (Nat.le_refl _)
  have k2a := k2 lo hlo; have k2b := k2 h.length (Nat.le_refl _)
  have k3a := k3 lo hlo; have k3b := k3 h.length (Nat.le_refl _)
  have q1 := s_eq (bs s)
  have q2 := k_eq e
  rw [e7 (by simp) (by rfl)]
  simp only [go_sem, b7, Tryz.f7, hlo, k1a, k1b, k2a, k2b, k3a, k3b, q1, q2]
  all_goals rfl
end
end Go.Lift.R4
end
