/- Which tokens may be, whole. -/
import Derived.Test.YtnfdhgadidacaaaGreatDoorSi
/- Which tokens may be: both answers, whole. -/
open Go.Proofs
namespace Go.Lift.R4
set_option linter.unusedSectionVars false
variable [MX]
open Utf Tok Spell
set_option maxRecDepth 20000
set_option maxHeartbeats 4000000
set_option linter.unusedSimpArgs false
set_option linter.unusedVariables false

section
variable {lo : Nat} {h : Heap} {k n d : Int} {b : List Int} {w i : Bool}
theorem kinds (k : Int) : (k = 1 ∨ k = 2 ∨ k = 3) ∨ k = 4 ∨ (k = 5 ∨ k = 7) ∨ k = 9 ∨ k = 12 ∨ (k = 10 ∨ k = 11) ∨
    (k = 6 ∨ k = 8 ∨ k = 13 ∨ k = 14 ∨ k = 15 ∨ k = 16 ∨ k = 17 ∨ k = 18 ∨ k = 19 ∨ k = 20 ∨ k = 21 ∨ k = 22 ∨ k = 23 ∨ k = 24) ∨ (k < 1 ∨ 24 < k) := by omega
/-- may a token be? -/
def mayV (k : Int) (b : List Int) (n d : Int) (w i : Bool) : Bool :=
  if k = 1 ∨ k = 2 ∨ k = 3 then !b.isEmpty && sound b && Z4 n d w i
  else if k = 4 then !b.isEmpty && sound b && (i || looseT b) && Z4 n d w false
  else if k = 5 ∨ k = 7 then sound b && Z4 n d w i
  else if k = 9 then signT b && Z4 n d w i
  else if k = 12 then !b.isEmpty && sound b && (plainT n d w).isSome && (i == false)
  else if k = 10 ∨ k = 11 then (plainT n d w).isSome && (b.isEmpty && (i == false))
  else if 1 ≤ k ∧ k ≤ 24 then b.isEmpty && Z4 n d w i else false
/-- jalousie/spell.May -/
theorem f23 (hlo : lo ≤ h.length) (hy : By b) (hl : b.length ≤ 1000000000) (h0 : -9223372036854775808 ≤ n) (h1 : n ≤ 9223372036854775807) (h2 : -9223372036854775808 ≤ d) (h3 : d ≤ 9223372036854775807) :
    E lo 23 [.agg (tokV k b n d w i)] h = some (.v (.bool (mayV k b n d w i)), h) := by
  unfold mayV
  rcases kinds k with hk | hk | hk | hk | hk | hk | hk | hk
  · rw [if_pos hk]; exact m23a hlo hy hl hk
  · subst hk; exact m23b hlo hy hl
  · rw [if_neg (by omega), if_neg (by omega), if_pos hk]; exact m23c hlo hy hl hk
  · subst hk; exact m23d hlo hy hl
  · subst hk; exact m23e hlo hy hl h0 h1 h2 h3
  · rw [if_neg (by omega), if_neg (by omega), if_neg (by omega), if_neg (by omega), if_neg (by omega), if_pos hk]; exact m23f hlo hk h0 h1 h2 h3
  · rw [if_neg (by omega), if_neg (by omega), if_neg (by omega), if_neg (by omega), if_neg (by omega), if_neg (by omega), if_pos (by omega)]; exact m23g hlo hk
  · rw [if_neg (by omega), if_neg (by omega), if_neg (by omega), if_neg (by omega), if_neg (by omega), if_neg (by omega), if_neg (by omega)]; exact m23h hlo hk
/-- jalousieref4.May -/
theorem f39 (hlo : lo ≤ h.length) (hy : By b) (hl : b.length ≤ 1000000000) (h0 : -9223372036854775808 ≤ n) (h1 : n ≤ 9223372036854775807) (h2 : -9223372036854775808 ≤ d) (h3 : d ≤ 9223372036854775807) :
    E lo 39 [.agg (tokV k b n d w i)] h = some (.v (.bool (mayV k b n d w i)), h) := by
  unfold mayV
  rcases kinds k with hk | hk | hk | hk | hk | hk | hk | hk
  · rw [if_pos hk]; exact m39a hlo hy hl hk
  · subst hk; exact m39b hlo hy hl
  · rw [if_neg (by omega), if_neg (by omega), if_pos hk]; exact m39c hlo hy hl hk
  · subst hk; exact m39d hlo hy hl
  · subst hk; exact m39e hlo hy hl h0 h1 h2 h3
  · rw [if_neg (by omega), if_neg (by omega), if_neg (by omega), if_neg (by omega), if_neg (by omega), if_pos hk]; exact m39f hlo hy hl hk h0 h1 h2 h3
  · rw [if_neg (by omega), if_neg (by omega), if_neg (by omega), if_neg (by omega), if_neg (by omega), if_neg (by omega), if_pos (by omega)]; exact m39g hlo hy hl hk
  · rw [if_neg (by omega), if_neg (by omega), if_neg (by omega), if_neg (by omega), if_neg (by omega), if_neg (by omega), if_neg (by omega)]; exact m39h hlo hy hl hk
end
end Go.Lift.R4
