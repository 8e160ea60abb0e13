/- The law, evaluated. -/
import Derived.Test.YtnfdhgadidacaaaDoorSi
section
/- Which tokens may be: both answers, whole. -/
open Go.Proofs
namespace Go.Lift.D4
open Utf Tok Spell
set_option maxRecDepth 20000
set_option maxHeartbeats 4000000
set_option linter.unusedSimpArgs false
set_option linter.unusedVariables false

section
variable {lo : Nat} {h : Heap} {k n d : Int} {b : List Int} {w i : Bool}
theorem kinds (k : Int) : (k = 1 ∨ k = 2 ∨ k = 3) ∨ k = 4 ∨ (k = 5 ∨ k = 7) ∨ k = 9 ∨ k = 12 ∨ (k = 10 ∨ k = 11) ∨
    (k = 6 ∨ k = 8 ∨ k = 13 ∨ k = 14 ∨ k = 15 ∨ k = 16 ∨ k = 17 ∨ k = 18 ∨ k = 19 ∨ k = 20 ∨ k = 21 ∨ k = 22 ∨ k = 23 ∨ k = 24) ∨ (k < 1 ∨ 24 < k) := by omega
/-- may a token be? -/
def mayV (k : Int) (b : List Int) (n d : Int) (w i : Bool) : Bool :=
  if k = 1 ∨ k = 2 ∨ k = 3 then !b.isEmpty && sound b && Z4 n d w i
  else if k = 4 then !b.isEmpty && sound b && (i || looseT b) && Z4 n d w false
  else if k = 5 ∨ k = 7 then sound b && Z4 n d w i
  else if k = 9 then signT b && Z4 n d w i
  else if k = 12 then !b.isEmpty && sound b && (plainT n d w).isSome && (i == false)
  else if k = 10 ∨ k = 11 then (plainT n d w).isSome && (b.isEmpty && (i == false))
  else if 1 ≤ k ∧ k ≤ 24 then b.isEmpty && Z4 n d w i else false
/-- jalousie/spell.May -/
theorem f11 (hlo : lo ≤ h.length) (hy : By b) (hl : b.length ≤ 1000000000) (h0 : -9223372036854775808 ≤ n) (h1 : n ≤ 9223372036854775807) (h2 : -9223372036854775808 ≤ d) (h3 : d ≤ 9223372036854775807) :
    E lo 11 [.agg (tokV k b n d w i)] h = some (.v (.bool (mayV k b n d w i)), h) := by
  unfold mayV
  rcases kinds k with hk | hk | hk | hk | hk | hk | hk | hk
  · rw [if_pos hk]; exact m23a hlo hy hl hk
  · subst hk; exact m23b hlo hy hl
  · rw [if_neg (by omega), if_neg (by omega), if_pos hk]; exact m23c hlo hy hl hk
  · subst hk; exact m23d hlo hy hl
  · subst hk; exact m23e hlo hy hl h0 h1 h2 h3
  · rw [if_neg (by omega), if_neg (by omega), if_neg (by omega), if_neg (by omega), if_neg (by omega), if_pos hk]; exact m23f hlo hk h0 h1 h2 h3
  · rw [if_neg (by omega), if_neg (by omega), if_neg (by omega), if_neg (by omega), if_neg (by omega), if_neg (by omega), if_pos (by omega)]; exact m23g hlo hk
  · rw [if_neg (by omega), if_neg (by omega), if_neg (by omega), if_neg (by omega), if_neg (by omega), if_neg (by omega), if_neg (by omega)]; exact m23h hlo hk
/-- jalousieref4.May -/
theorem f12 (hlo : lo ≤ h.length) (hy : By b) (hl : b.length ≤ 1000000000) (h0 : -9223372036854775808 ≤ n) (h1 : n ≤ 9223372036854775807) (h2 : -9223372036854775808 ≤ d) (h3 : d ≤ 9223372036854775807) :
    E lo 12 [.agg (tokV k b n d w i)] h = some (.v (.bool (mayV k b n d w i)), h) := by
  unfold mayV
  rcases kinds k with hk | hk | hk | hk | hk | hk | hk | hk
  · rw [if_pos hk]; exact m39a hlo hy hl hk
  · subst hk; exact m39b hlo hy hl
  · rw [if_neg (by omega), if_neg (by omega), if_pos hk]; exact m39c hlo hy hl hk
  · subst hk; exact m39d hlo hy hl
  · subst hk; exact m39e hlo hy hl h0 h1 h2 h3
  · rw [if_neg (by omega), if_neg (by omega), if_neg (by omega), if_neg (by omega), if_neg (by omega), if_pos hk]; exact m39f hlo hy hl hk h0 h1 h2 h3
  · rw [if_neg (by omega), if_neg (by omega), if_neg (by omega), if_neg (by omega), if_neg (by omega), if_neg (by omega), if_pos (by omega)]; exact m39g hlo hy hl hk
  · rw [if_neg (by omega), if_neg (by omega), if_neg (by omega), if_neg (by omega), if_neg (by omega), if_neg (by omega), if_neg (by omega)]; exact m39h hlo hy hl hk
end
end Go.Lift.D4
end

section
/- The law SpellMay, evaluated. -/
open Go.Proofs
namespace Go.Lift.D4
open Utf Tok Spell
set_option maxRecDepth 20000
set_option maxHeartbeats 4000000
set_option linter.unusedSimpArgs false
set_option linter.unusedVariables false

theorem f6 {lo : Nat} {h : Heap} (hlo : lo ≤ h.length) {ka na da kb nb db : Int} {ba bb : List Int} {wa ia wb ib : Bool} (hya : By ba) (hla : ba.length ≤ 1000000000)
    (hn : -9223372036854775808 ≤ na ∧ na ≤ 9223372036854775807) (hd : -9223372036854775808 ≤ da ∧ da ≤ 9223372036854775807) :
    E lo 6 [.agg (tokV ka ba na da wa ia), .agg (tokV kb bb nb db wb ib)] h = some (.v (.bool true), h) := by
  have hlo2 : lo ≤ h.length + 1 := by omega
  have hl2 : lo ≤ (h ++ [Ob.cells (tokV ka ba na da wa ia), Ob.cells (tokV kb bb nb db wb ib)]).length := by simp; omega
  have hl3 : h.length + 2 ≤ (h ++ [Ob.cells (tokV ka ba na da wa ia), Ob.cells (tokV kb bb nb db wb ib)]).length := by simp
  have hy0 : By [] := fun c hc => by cases hc
  have k1 := fun lo hlo => f11 (lo := lo) (h := h ++ [Ob.cells (tokV ka ba na da wa ia), Ob.cells (tokV kb bb nb db wb ib)]) (k := ka) (b := ba) (n := na) (d := da) (w := wa) (i := ia) hlo hya hla hn.1 hn.2 hd.1 hd.2
  have k2 := fun lo hlo => f12 (lo := lo) (h := h ++ [Ob.cells (tokV ka ba na da wa ia), Ob.cells (tokV kb bb nb db wb ib)]) (k := ka) (b := ba) (n := na) (d := da) (w := wa) (i := ia) hlo hya hla hn.1 hn.2 hd.1 hd.2
  have k3 := fun lo hlo => f13 (lo := lo) (h := h ++ [Ob.cells (tokV ka ba na da wa ia), Ob.cells (tokV kb bb nb db wb ib)]) (ka := ka) (kb := kb) (ta := ba) (tb := bb) (na := na) (da := da) (nb := nb) (db := db) (wa := wa) (ia := ia) (wb := wb) (ib := ib) hlo
  have k4 := fun lo hlo => f14 (lo := lo) (h := h ++ [Ob.cells (tokV ka ba na da wa ia), Ob.cells (tokV kb bb nb db wb ib)]) (ka := ka) (kb := kb) (ta := ba) (tb := bb) (na := na) (da := da) (nb := nb) (db := db) (wa := wa) (ia := ia) (wb := wb) (ib := ib) hlo
  have k5 := fun lo hlo => f11 (lo := lo) (h := h ++ [Ob.cells (tokV ka ba na da wa ia), Ob.cells (tokV kb bb nb db wb ib)]) (k := 13) (b := []) (n := 0) (d := 0) (w := false) (i := false) hlo hy0 (by simp) (by omega) (by omega) (by omega) (by omega)
  have k6 := fun lo hlo => f13 (lo := lo) (h := h ++ [Ob.cells (tokV ka ba na da wa ia), Ob.cells (tokV kb bb nb db wb ib)]) (ka := 13) (kb := 13) (ta := []) (tb := []) (na := 0) (da := 0) (nb := 0) (db := 0) (wa := false) (ia := false) (wb := false) (ib := false) hlo
  have e0 : mayV 13 [] 0 0 false false = true := rfl
  have e1 : apartT 13 13 = true := rfl
  rw [e0] at k5
  rw [e1] at k6
  have bn : bs [] = ByteArray.empty := rfl
  have q1 : ∀ x : Bool, (x == x) = true := fun x => by simp
  generalize mayV ka ba na da wa ia = m at *
  generalize apartT ka kb = p at *
  have qm := q1 m
  have qp := q1 p
  have k1a := k1 lo hl2; have k1b := k1 _ hl3; have k2a := k2 lo hl2; have k2b := k2 _ hl3; have k3a := k3 lo hl2; have k3b := k3 _ hl3; have k4a := k4 lo hl2; have k4b := k4 _ hl3
  have k5a := k5 lo hl2; have k5b := k5 _ hl3; have k6a := k6 lo hl2; have k6b := k6 _ hl3
  clear k1 k2 k3 k4 k5 k6
  rw [e6 (by simp) (by rfl)]
  unfold tokV at *
  rw [bn] at k5a k5b k6a k6b
  simp only [go_sem, b6, Tryd.f6, hlo, hlo2, k1a, k1b, k2a, k2b, k3a, k3b, k4a, k4b, k5a, k5b, k6a, k6b, qm, qp]
  all_goals rfl
end Go.Lift.D4
end
