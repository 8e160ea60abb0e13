/- The law SpellOne, evaluated. -/
import Derived.Test.YtnfdhgadidacaaaGreatDoorGPf
import Derived.Test.YtnfdhgadidacaaaGreatDoorGQb
open Go.Proofs
namespace Go.Lift.R4
set_option linter.unusedSectionVars false
variable [MX]
open Utf Tok Spell
set_option maxRecDepth 20000
set_option maxHeartbeats 4000000
set_option linter.unusedSimpArgs false
set_option linter.unusedVariables false
section
variable {lo : Nat} {h : Heap}
theorem f9 (hlo : lo ≤ h.length) {t : Tk4} (hy : By t.b) (hl : t.b.length ≤ 1048576) (h0 : -9223372036854775808 ≤ t.n) (h1 : t.n ≤ 9223372036854775807) (h2 : -9223372036854775808 ≤ t.d) (h3 : t.d ≤ 9223372036854775807) :
  E lo 9 [.agg (row t)] h = some (.v (.bool true), h) := by
 have ok : TokOk t := ⟨hy, by omega, h0, h1, h2, h3⟩
 have hback := fun hm h6 h9 h2 => one_back (t := t) ok hm h6 h9 h2
 have htl := T.f24 (lo := lo) (a := t.b) (b := [117, 114, 108]) (h := h ++ [.cells (row t)]) (by simp; omega) (by omega) hy (by simp) (by intro x hx; simp at hx; omega)
 obtain ⟨k, b, n, d, w, i⟩ := t
 simp only at hy hl h0 h1 h2 h3
 have hh : lo ≤ (h ++ [Ob.cells (tokV k b n d w i)]).length := by simp; omega
 have k17 := f17 (lo := lo) (h := h ++ [.cells (tokV k b n d w i)]) (w := w) (i := i) (k := k) hh hy (by omega) h0 h1 h2 h3
 have k23 := f23 (lo := lo) (h := h ++ [.cells (tokV k b n d w i)]) (w := w) (i := i) (k := k) hh hy (by omega) h0 h1 h2 h3
 have k19 := f19 (lo := lo) (h := h ++ [.cells (tokV k b n d w i)]) hh
 have k19b := f19 (lo := (h ++ [Ob.cells (tokV k b n d w i)]).length) (h := h ++ [.cells (tokV k b n d w i)]) (Nat.le_refl _)
 have k19c := f19 (lo := h.length + 1) (h := h ++ [.cells (tokV k b n d w i)]) (by simp)
 have hlen := txt_len ok
 have hby := tokens_by [⟨k, b, n, d, w, i⟩] none (by simpa using ok)
 have hby : By (tokenT k b n d w i) := by
  have e : tokensT none [⟨k, b, n, d, w, i⟩] = tokenT k b n d w i := by
   show sepT none k ++ (tokenT k b n d w i ++ []) = _
   rw [List.append_nil]; rfl
  rw [e] at hby; exact hby
 have hlen : (tokenT k b n d w i).length ≤ 10 * b.length + 300 := hlen
 have k15 := T.f15 (lo := lo) (h := h ++ [.cells (tokV k b n d w i)]) (b := tokenT k b n d w i) (by omega) hby hh
 have hbs := bytes_bs hby
 have hback : mayV k b n d w i = true → k ≠ 6 → ¬ (k = 9 ∧ b = [92]) → ¬ (k = 2 ∧ T.like b [117, 114, 108] = true) → (T.btoks (tokenT k b n d w i)).map T.tkC = [tokV k b n d w i] := hback
 have e1 : (⟨(u8s [117, 114, 108]).toArray⟩ : ByteArray) = ⟨#[117, 114, 108]⟩ := rfl
 rw [e1] at htl
 have htl : E lo 24 [.v (.string (bs b)), .v (.string ⟨#[117, 114, 108]⟩)] (h ++ [.cells (tokV k b n d w i)]) = some (.v (.bool (T.like b [117, 114, 108])), h ++ [.cells (tokV k b n d w i)]) := htl
 have htlb := T.f24 (lo := (h ++ [Ob.cells (tokV k b n d w i)]).length) (a := b) (b := [117, 114, 108]) (h := h ++ [.cells (tokV k b n d w i)]) (Nat.le_refl _) (by omega) hy (by simp) (by intro x hx; simp at hx; omega)
 have hq9 : ((bs b).toList == (⟨#[92]⟩ : ByteArray).toList) = decide (b = [92]) := by
  rw [bs_list]
  rw [show (⟨#[92]⟩ : ByteArray) = bs [92] from rfl, bs_list]
  rw [Bool.eq_iff_iff, beq_iff_eq, decide_eq_true_iff]
  exact ⟨u8s_inj hy (by intro x hx; simp at hx; omega), fun h => by rw [h]⟩
 have n1 : ((1 : Nat) : Int) = 1 := rfl
 have heq : eqCells [1, 2, 1, 1, 0, 0] (tokV k b n d w i) (tokV k b n d w i) = some true := by simp [eqCells, tokV, eqS]
 have hse : ((bs []).toList == (⟨#[]⟩ : ByteArray).toList) = true := by rw [bs_nil_eq']; rfl
 unfold tokR at k17
 rw [e9 (by simp) (by rfl)]
 cases hm : mayV k b n d w i with
 | false =>
  rw [hm, if_neg (by decide)] at k17
  rw [hm] at k23
  unfold errV at k17
  simp only [row, tokV] at *
  simp only [go_sem, b9, Tryz.f9, hlo, hse, k17, k23, k19, k19b, k19c, Int.reduceBEq, Int.reduceBNe, Bool.true_beq, Bool.false_beq, Bool.not_true, Bool.not_false, beq_self_eq_true]
  all_goals rfl
 | true =>
  rw [hm, if_pos rfl] at k17
  rw [hm] at k23
  unfold okV at k17
  have hback := hback hm
  clear hlen hby
  generalize tokenT k b n d w i = TT at *
  simp only [row, tokV] at *
  by_cases q6 : k = 6
  ·subst q6
   simp only [go_sem, b9, Tryz.f9, hlo, hse, k17, k23, k19, k19b, k19c, Int.reduceBEq, Int.reduceBNe, Bool.true_beq, Bool.false_beq, Bool.not_true, Bool.not_false, beq_self_eq_true]
   all_goals rfl
  have p6 : (k == 6) = false := by simpa using q6
  by_cases q9 : k = 9
  ·subst q9
   by_cases qb : b = [92]
   ·rw [decide_eq_true qb] at hq9
    simp only [go_sem, b9, Tryz.f9, hq9, hlo, hse, k17, k23, k19, k19b, k19c, Int.reduceBEq, Int.reduceBNe, Bool.true_beq, Bool.false_beq, Bool.not_true, Bool.not_false, beq_self_eq_true]
    all_goals rfl
   ·rw [decide_eq_false qb] at hq9
    rw [hback (by decide) (fun h => qb h.2) (fun h => absurd h.1 (by decide))] at k15
    simp only [go_sem, b9, Tryz.f9, hq9, k15, hbs, n1, heq, T.fl34, hlo, hse, k17, k23, k19, k19b, k19c, Int.reduceBEq, Int.reduceBNe, Bool.true_beq, Bool.false_beq, Bool.not_true, Bool.not_false, beq_self_eq_true]
    all_goals rfl
  have p9 : (k == 9) = false := by simpa using q9
  by_cases q2 : k = 2
  ·subst q2
   cases hlk : T.like b [117, 114, 108] with
   | true =>
    rw [hlk] at htl
    simp only [go_sem, b9, Tryz.f9, htl, hlo, hse, k17, k23, k19, k19b, k19c, Int.reduceBEq, Int.reduceBNe, Bool.true_beq, Bool.false_beq, Bool.not_true, Bool.not_false, beq_self_eq_true]
    all_goals rfl
   | false =>
    rw [hlk] at htl
    rw [hback (by decide) (fun h => absurd h.1 (by decide)) (fun h => by rw [hlk] at h; exact absurd h.2 (by decide))] at k15
    simp only [go_sem, b9, Tryz.f9, htl, k15, hbs, n1, heq, T.fl34, hlo, hse, k17, k23, k19, k19b, k19c, Int.reduceBEq, Int.reduceBNe, Bool.true_beq, Bool.false_beq, Bool.not_true, Bool.not_false, beq_self_eq_true]
    all_goals rfl
  have p2 : (k == 2) = false := by simpa using q2
  rw [hback q6 (fun h => q9 h.1) (fun h => q2 h.1)] at k15
  simp only [go_sem, b9, Tryz.f9, p6, p9, p2, k15, hbs, n1, heq, T.fl34, hlo, hse, k17, k23, k19, k19b, k19c, Int.reduceBEq, Int.reduceBNe, Bool.true_beq, Bool.false_beq, Bool.not_true, Bool.not_false, beq_self_eq_true]
  all_goals rfl
end
end Go.Lift.R4
