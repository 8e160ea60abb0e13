/- The law SpellRow, evaluated. -/
import Derived.Test.YtnfdhgadidacaaaGreatDoorGPf
open Go.Proofs
namespace Go.Lift.R4
set_option linter.unusedSectionVars false
variable [MX]
open Utf Tok Spell
set_option maxRecDepth 20000
set_option maxHeartbeats 4000000
set_option linter.unusedSimpArgs false
set_option linter.unusedVariables false
theorem row_all6 (ts : List Tk4) : ((ts.map row).all fun x => x.length == 6) = true := by
 rw [List.all_eq_true]
 intro x hx
 obtain ⟨t, _, rfl⟩ := List.mem_map.1 hx
 rfl
theorem ibr_row (ts : List Tk4) : isByteRow (ts.map row) = false := by cases ts <;> rfl
theorem keep_cases (k : Int) : (k = 1 ∨ k = 10 ∨ k = 12 ∨ k = 11 ∨ k = 5 ∨ k = 18 ∨ k = 4 ∨ k = 3 ∨ k = 15 ∨ k = 7) ∨
  ((k == 1) = false ∧ (k == 10) = false ∧ (k == 12) = false ∧ (k == 11) = false ∧ (k == 5) = false ∧ (k == 18) = false ∧ (k == 4) = false ∧ (k == 3) = false ∧ (k == 15) = false ∧ (k == 7) = false) := by
 simp only [beq_eq_false_iff_ne]
 omega
section
variable {lo : Nat} {h : Heap}
theorem round10 (hlo : lo ≤ h.length) {l out : List Tk4} {j : Nat} {t : Tk4} (hg : l[j]? = some t) (hl : l.length ≤ 1000000000) (ho : out.length ≤ j) :
  evCode ⟨Tryz.prog, E, lo, h.length, h10⟩ loopW l10x0 ([(3, .list .yes (out.map row)), (8, .list .no (l.map row)), (9, .v (.int .i64 l.length)), (10, .v (.int .i64 j))], h) =
   some (.normal, [(3, .list .yes ((if keepK t.k = true then out ++ [t] else out).map row)), (8, .list .no (l.map row)), (9, .v (.int .i64 l.length)), (10, .v (.int .i64 (j + 1 : Nat)))], h) := by
 have hj : j < l.length := (List.getElem?_eq_some_iff.1 hg).1
 have hlt : decide ((j : Int) < (l.length : Int)) = true := by simp; omega
 have hw : IntKind.i64.wrap ((j : Int) + 1) = ((j + 1 : Nat) : Int) := wrap_succ (by omega)
 have hgr : (l.map row)[j]? = some (row t) := by simp [hg]
 have hr1 : (out.length + 1) * 48 ≤ 140737488355328 := by omega
 have hr2 : out.length + 1 ≤ 9223372036854775807 := by omega
 have all := row_all6 out
 have ibr := ibr_row out
 obtain ⟨k, b, n, d, w, i⟩ := t
 rcases keep_cases k with hk | ⟨p1, p2, p3, p4, p5, p6, p7, p8, p9, p10⟩
 ·have e : keepK k = true := by
   unfold keepK
   simp only [Bool.or_eq_true, beq_iff_eq]
   omega
  have app : (out ++ [(⟨k, b, n, d, w, i⟩ : Tk4)]).map row = out.map row ++ [tokV k b n d w i] := by simp [row]
  simp only [e, if_true, app]
  simp only [row, tokV] at hgr ⊢
  rcases hk with rfl | rfl | rfl | rfl | rfl | rfl | rfl | rfl | rfl | rfl
  all_goals
   simp only [go_sem, l10x0, b10, Tryz.f10, hlo, hlt, hw, hgr, hr1, hr2, all, ibr, List.length_map, Int.reduceBEq]
 ·have e : keepK k = false := by
   unfold keepK
   rw [p1, p2, p3, p4, p5, p6, p7, p8, p9, p10]; rfl
  simp only [e, Bool.false_eq_true, if_false]
  simp only [row, tokV] at hgr ⊢
  simp only [go_sem, l10x0, b10, Tryz.f10, hlo, hlt, hw, hgr, p1, p2, p3, p4, p5, p6, p7, p8, p9, p10]
def keepL (l : List Tk4) : List Tk4 := l.filter fun t => keepK t.k
theorem loop10 (hlo : lo ≤ h.length) {l : List Tk4} (hl : l.length ≤ 1000000000) : ∀ (m j : Nat) (out : List Tk4), m = l.length - j → j ≤ l.length → out.length ≤ j →
  loopW (evCode ⟨Tryz.prog, E, lo, h.length, h10⟩ loopW l10x0) ([(3, .list .yes (out.map row)), (8, .list .no (l.map row)), (9, .v (.int .i64 l.length)), (10, .v (.int .i64 j))], h) =
   some (.exit 0, [(3, .list .yes ((out ++ keepL (l.drop j)).map row)), (8, .list .no (l.map row)), (9, .v (.int .i64 l.length)), (10, .v (.int .i64 l.length)), (11, .v (.bool false))], h)
 | 0, j, out, hm, hj, ho => by
  obtain rfl : j = l.length := by omega
  have hd : decide ((l.length : Int) < (l.length : Int)) = false := by simp
  rw [List.drop_length, show keepL [] = [] from rfl, List.append_nil, loop_eq]
  simp only [go_sem, l10x0, b10, Tryz.f10, hlo, hd]
 | m + 1, j, out, hm, hj, ho => by
  have hlt : j < l.length := by omega
  rw [loop_eq, round10 hlo (List.getElem?_eq_getElem hlt) hl ho, loop_n, loop10 hlo hl m (j + 1) _ (by omega) (by omega) (by split <;> (try simp only [List.length_append, List.length_cons, List.length_nil]) <;> omega), List.drop_eq_getElem_cons hlt]
  unfold keepL
  rw [List.filter_cons]
  split <;> simp
theorem f10 (hlo : lo ≤ h.length) {l : List Tk4} (hl : l.length ≤ 1000000000) (ok : ∀ t ∈ l, TokOk t) (hc : cost l ≤ 900000000) : E lo 10 [.list .no (l.map row)] h = some (.v (.bool true), h) := by
 have hL := loop10 (lo := lo) (h := h) hlo hl l.length 0 [] (by omega) (Nat.zero_le _) (Nat.le_refl _)
 rw [List.drop_zero, List.nil_append] at hL
 have hsub : ∀ t ∈ keepL l, t ∈ l ∧ keepK t.k = true := fun t ht => by unfold keepL at ht; simpa using List.mem_filter.1 ht
 have okK : ∀ t ∈ keepL l, TokOk t := fun t ht => ok t (hsub t ht).1
 have hlK : (keepL l).length ≤ l.length := List.length_filter_le ..
 have hcK : cost (keepL l) ≤ cost l := by
  have : ∀ l : List Tk4, cost (keepL l) ≤ cost l := by
   intro l
   induction l with
   | nil => exact Nat.le_refl _
   | cons t l ih =>
    unfold keepL at ih ⊢
    rw [List.filter_cons]
    split
    ·simp only [cost]; omega
    ·simp only [cost]; omega
  exact this l
 have k20 := fun lo hlo => f20 (lo := lo) (h := h) (l := keepL l) hlo (by omega) okK (by omega)
 have k19 := fun lo hlo => f19 (lo := lo) (h := h) hlo
 have k19a := k19 lo hlo; have k19b := k19 h.length (Nat.le_refl _)
 have k20a := k20 lo hlo
 have hse : ((bs []).toList == (⟨#[]⟩ : ByteArray).toList) = true := by rw [bs_nil_eq']; rfl
 rw [e10 (by simp) (by rfl)]
 simp only [l10x0, b10, Tryz.f10, loopAt, loops, bodyOf, go_sem] at hL
 have hlm : (l.map row).length = l.length := by simp
 have nn : ((0 : Nat) : Int) = 0 := rfl
 unfold toksR at k20a
 cases hm : (keepL l).all may4 with
 | false =>
  rw [hm, if_neg (by decide)] at k20a
  unfold errV at k20a
  simp only [go_sem, b10, Tryz.f10, hlm, hL, k20a, hse, k19a, k19b, Int.reduceBEq, Int.reduceBNe]
  all_goals rfl
 | true =>
  rw [hm, if_pos rfl] at k20a
  unfold okV at k20a
  obtain ⟨hback, xs, hx1, hx2⟩ := row_back okK hm fun t ht => (hsub t ht).2
  have hby := tokens_by _ none okK
  have hlen := tokens_len _ none okK
  have k15 := T.f15 (lo := lo) (h := h) (b := tokensT none (keepL l)) (by omega) hby hlo
  have hbs := bytes_bs hby
  rw [hback, hx1] at k15
  rw [hx1] at k20a hL
  have k11 := T.f11 (lo := lo) (h := h) xs (by omega)
  generalize tokensT none (keepL l) = TT at *
  generalize xs.map T.tkC = R at *
  simp only [go_sem, b10, Tryz.f10, hlm, hL, k20a, k15, hbs, k11, k19a, k19b, Int.reduceBEq, Int.reduceBNe]
  all_goals rfl
end
end Go.Lift.R4
