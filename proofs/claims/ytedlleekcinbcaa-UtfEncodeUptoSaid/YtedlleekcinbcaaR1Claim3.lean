/- UtfEncode answers true, whatever the characters, where the arguments' bulk is at most 1048576. -/
import Derived.Test.YtedlleekcinbcaaR1Law3
namespace Go.Proofs.Ytedlleekcinbcaa
open Go.Lift Go.Lift.R1 Go.ChangeShapes Go.WideShapes Go.ChangeAt Go.RowKit
set_option maxRecDepth 100000

theorem isBulk (H : Type) : IsBulk (H := H) Rows.uptoBulk Rows.uptoBulkAll :=
  ⟨rfl, fun _ _ => rfl, fun _ => rfl, fun _ => rfl, fun _ _ => rfl, rfl, fun _ _ => rfl, fun _ => rfl⟩
theorem own : ownKnob Try.prog.godebug = none := by kernel_rfl
theorem laidOut : laidOutB Try.prog = true := by kernel_rfl
theorem follows : Try.prog.follows .mixedOrders = true := by kernel_rfl

/-- a row of characters -/
theorem ty22 {v : V} (h : TyV Try.prog 22 v) : ∃ l : List Int, v = .list .no (ri .i32 l) := by
  unfold TyV at h
  rw [Try.underlying22] at h
  simp only at h
  cases h with
  | slice rows hu hr =>
    rw [Try.underlying22] at hu
    cases hu
    have each : ∀ rows : List (List V), (∀ row ∈ rows, Ty Try.prog 21 row) → ∃ l : List Int, rows = ri .i32 l := by
      intro rows
      induction rows with
      | nil => intro _; exact ⟨[], rfl⟩
      | cons r rs ih =>
        intro h
        obtain ⟨l, rfl⟩ := ih fun row hm => h row (List.mem_cons_of_mem _ hm)
        have h0 := h r (List.mem_cons_self ..)
        cases h0 with
        | int k n hk hw => rw [Try.underlying21] at hk; cases hk; exact ⟨n :: l, rfl⟩
        | bool b hk => rw [Try.underlying21] at hk; cases hk
        | string s hk => rw [Try.underlying21] at hk; cases hk
        | slice rows hk _ => rw [Try.underlying21] at hk; cases hk
        | struct fs cells hk _ => rw [Try.underlying21] at hk; cases hk
    obtain ⟨l, rfl⟩ := each rows hr
    exact ⟨l, rfl⟩
  | struct fs cells hu _ => rw [Try.underlying22] at hu; cases hu
  | bool b hu => rw [Try.underlying22] at hu; cases hu
  | int k n hu _ => rw [Try.underlying22] at hu; cases hu
  | string s hu => rw [Try.underlying22] at hu; cases hu

theorem sizes {l : List Int} (h : asizes [.list .no (ri .i32 l)] ≤ 1048576) : l.length ≤ 1048576 := by
  have : ∀ l : List Int, l.length ≤ vsRows (ri .i32 l) := by
    intro l
    induction l with
    | nil => simp
    | cons n l ih => simp only [ri_cons, vsRows, vsRow, vsize, List.length_cons]; omega
  have := this l
  simp only [asizes, asize, vsize] at h
  omega

theorem utfEncode_ev (vs : List V) (ht : TysV Try.prog Try.f3.params.toList vs) (hs : asizes vs ≤ 1048576) : E 0 3 vs [] = some (.v (.bool true), []) := by
  rw [Try.params3] at ht
  match vs, ht with
  | [v], ht =>
    obtain ⟨l, rfl⟩ := ty22 ht.1
    exact Go.Lift.R1.f3 (sizes hs)

theorem utfEncode_lifted (os : Os) (started : os.Started) (H : Type) (enc : TypeId × Value → H) (F : Stop.Interp) :
    ReturnsInHanded {} Try.checked os 3 .any ((Rows.OpenSpec.upto Rows.utfEncodeSpec).pre6 enc Try.prog Try.f3 Rows.utfEncodeUptoRow.domain false) (((Rows.OpenSpec.upto Rows.utfEncodeSpec).at F).post enc Try.prog Try.f3 false true false false) := by
  refine returnsInHanded_of_cond (C := Try.checked) (s := Rows.OpenSpec.upto Rows.utfEncodeSpec) (k := Rows.uptoSmall) rfl own started (by kernel_rfl) Try.func3
    (OpenSpec.witness (enc := enc) (C := Try.checked) (s := Rows.OpenSpec.upto Rows.utfEncodeSpec) (k := Rows.uptoSmall) rfl false ⟨#[], #[.slice none 0 0], []⟩ 8 (by kernel_rfl) (by kernel_rfl) (by kernel_rfl)
      (x := ([.nil], [], [])) (by kernel_rfl) rfl (by kernel_rfl)) ?_
  intro W base args ds gs before hval hW _ hk _
  exact law_of (P := Try.prog) (hints := hints) (prim := fun _ => none) follows (fun f p h => by cases h) (isBulk H) (ts := [21, 22]) (by kernel_rfl) (fn := Try.f3) (f := 3) (bt := 4) (N := 1048576)
    (by kernel_rfl) (by kernel_rfl) laidOut rfl Try.underlying4 (s := Rows.utfEncodeSpec) rfl
    (fun l hl => by
      match l, hl with
      | [d], _ => rfl) utfEncode_ev hval hW (of_decide_eq_true hk)

theorem utfEncode_upto : Rows.UtfEncodeUptoSaid :=
  OpenClaim.holds_of_cond 3 Try.f3 rfl rfl rfl rfl rfl rfl rfl ⟨rfl, rfl, rfl, rfl, rfl⟩ rfl rfl rfl rfl rfl (by kernel_rfl) Try.func3 (by kernel_rfl)
    (of_decide_eq_true (by kernel_rfl)) (by unfold Func.isWrapper; first | (rw [if_pos (by decide +kernel)]; kernel_rfl) | (rw [if_neg (by decide +kernel)]; exact ⟨rfl, rfl⟩))
    (fun os started H enc _ F => utfEncode_lifted os started H enc F)
end Go.Proofs.Ytedlleekcinbcaa
