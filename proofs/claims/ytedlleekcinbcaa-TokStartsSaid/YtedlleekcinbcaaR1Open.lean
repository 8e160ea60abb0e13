/- What the claims of this seat share: the readings of their arguments. -/
import Derived.Test.YtedlleekcinbcaaR1Base
namespace Go.Proofs.Ytedlleekcinbcaa
set_option linter.unusedVariables false
set_option linter.unusedSimpArgs false
open Go.Lift Go.Lift.R1 Go.ChangeShapes Go.WideShapes Go.ChangeAt Go.RowKit
set_option maxRecDepth 100000

theorem isBulk (H : Type) : IsBulk (H := H) Rows.uptoBulk Rows.uptoBulkAll :=
  ⟨rfl, fun _ _ => rfl, fun _ => rfl, fun _ => rfl, fun _ _ => rfl, rfl, fun e s => by show Rows.uptoBulkAll e + 1 ≤ Rows.uptoBulkAll e + Rows.uptoBulkAll s + 1; omega, fun _ => rfl⟩
theorem own : ownKnob Try.prog.godebug = none := by kernel_rfl
theorem laidOut : laidOutB Try.prog = true := by kernel_rfl
theorem follows : Try.prog.follows .mixedOrders = true := by kernel_rfl

/-- a row of numbers -/
theorem tyRow {t e : TypeId} {k : IntKind} (ht : Try.prog.underlying t = some (.slice e)) (hk : Try.prog.underlying e = some (.int k)) {v : V} (h : TyV Try.prog t v) :
    ∃ l : List Int, v = .list .no (ri k l) ∧ ∀ c ∈ l, (Lit.int k c).wf = true := by
  unfold TyV at h
  rw [ht] at h
  simp only at h
  cases h with
  | slice rows hu hr =>
    rw [ht] at hu
    cases hu
    have each : ∀ rows : List (List V), (∀ row ∈ rows, Ty Try.prog e row) → ∃ l : List Int, rows = ri k l ∧ ∀ c ∈ l, (Lit.int k c).wf = true := by
      intro rows
      induction rows with
      | nil => intro _; exact ⟨[], rfl, fun _ hc => by cases hc⟩
      | cons r rs ih =>
        intro h
        obtain ⟨l, rfl, hl⟩ := ih fun row hm => h row (List.mem_cons_of_mem _ hm)
        have h0 := h r (List.mem_cons_self ..)
        cases h0 with
        | int k' n hk' hw =>
          rw [hk] at hk'
          cases hk'
          refine ⟨n :: l, rfl, fun c hc => ?_⟩
          rcases List.mem_cons.mp hc with rfl | hc
          · exact hw
          · exact hl c hc
        | bool b hk' => rw [hk] at hk'; cases hk'
        | string s hk' => rw [hk] at hk'; cases hk'
        | slice rows hk' _ => rw [hk] at hk'; cases hk'
        | struct fs cells hk' _ => rw [hk] at hk'; cases hk'
    obtain ⟨l, rfl, hl⟩ := each rows hr
    exact ⟨l, rfl, hl⟩
  | struct fs cells hu _ => rw [ht] at hu; cases hu
  | bool b hu => rw [ht] at hu; cases hu
  | int k n hu _ => rw [ht] at hu; cases hu
  | string s hu => rw [ht] at hu; cases hu

theorem ty22 {v : V} (h : TyV Try.prog 22 v) : ∃ l : List Int, v = .list .no (ri .i32 l) ∧ ∀ c ∈ l, -2147483648 ≤ c ∧ c ≤ 2147483647 := by
  obtain ⟨l, h1, h2⟩ := tyRow Try.underlying22 Try.underlying21 h
  refine ⟨l, h1, fun c hc => ?_⟩
  have := h2 c hc
  simp [Lit.wf, IntKind.min, IntKind.max, IntKind.signed, IntKind.bits] at this
  omega
theorem ty24 {v : V} (h : TyV Try.prog 24 v) : ∃ l : List Int, v = .list .no (ri .u8 l) ∧ ∀ c ∈ l, 0 ≤ c ∧ c ≤ 255 := by
  obtain ⟨l, h1, h2⟩ := tyRow Try.underlying24 Try.underlying5 h
  refine ⟨l, h1, fun c hc => ?_⟩
  have := h2 c hc
  simp [Lit.wf, IntKind.min, IntKind.max, IntKind.signed, IntKind.bits] at this
  omega

theorem rows_len (k : IntKind) (l : List Int) : l.length ≤ vsRows (ri k l) := by
  induction l with
  | nil => simp
  | cons n l ih => simp only [ri_cons, vsRows, vsRow, vsize, List.length_cons]; omega
theorem sizes1 {k : IntKind} {l : List Int} {vs : List V} {n : Nat} (h : asizes (.list .no (ri k l) :: vs) ≤ n) : l.length ≤ n ∧ asizes vs ≤ n := by
  have := rows_len k l
  simp only [asizes, asize, vsize] at h
  omega
end Go.Proofs.Ytedlleekcinbcaa
