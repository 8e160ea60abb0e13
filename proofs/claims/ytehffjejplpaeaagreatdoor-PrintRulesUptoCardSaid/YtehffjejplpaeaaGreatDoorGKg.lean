/- The text of rules, in plain words: which rules may be written, what their text is, what it costs. -/
import Derived.Shelf.Strings.BuilderRune
import Derived.Test.YtehffjejplpaeaaGreatDoorGLc
import Derived.Test.YtehffjejplpaeaaGreatDoorGKc
import Derived.Test.YtehffjejplpaeaaGreatDoorGKf
import Derived.Test.YtehffjejplpaeaaGreatDoorGPa
set_option linter.unusedVariables false
set_option linter.unusedSimpArgs false
set_option linter.unusedSectionVars false
section
open Go.Proofs
namespace Go.Lift.P7
variable [MX]
open Utf Tok Spell
set_option maxRecDepth 20000
set_option maxHeartbeats 1000000
mutual
def mayRu (dep : Nat) : Rul.Ru → Bool
 | .mk k n p ds rs => decide (dep ≤ 64) && (fineL p && (if k = 1 then n.isEmpty && (rs.isEmpty && ds.all claimT) else if k = 2 then Rul.isGroup n && (ds.isEmpty && mayRs (dep + 1) rs) else false))
def mayRs (dep : Nat) : List Rul.Ru → Bool
 | [] => true
 | r :: l => mayRu dep r && mayRs dep l
end
mutual
def ruT : Rul.Ru → List Int
 | .mk k n p ds rs => if k = 1 then valsT p ++ ([123] ++ (declsT ds ++ [125])) else ([64] ++ n ++ [32]) ++ (valsT p ++ ([123] ++ (rusT rs ++ [125])))
def rusT : List Rul.Ru → List Int
 | [] => []
 | r :: l => ruT r ++ rusT l
end
mutual
def costR : Rul.Ru → Nat
 | .mk k n p ds rs => n.length + cost ((Rul.flatL p).map ofR) + costDs ds + costRs rs + 100
def costRs : List Rul.Ru → Nat
 | [] => 0
 | r :: l => costR r + costRs l
end
mutual
def OkR : Rul.Ru → Prop
 | .mk k n p ds rs => By n ∧ n.length ≤ 10000000 ∧ OkL p ∧ ds.length ≤ 1000000000 ∧ (∀ d ∈ ds, OkD d) ∧ rs.length ≤ 1000000000 ∧ OkRs rs
def OkRs : List Rul.Ru → Prop
 | [] => True
 | r :: l => OkR r ∧ OkRs l
end
theorem mayRu_eq {dep : Nat} {k : Int} {n : List Int} {p : List Rul.CV} {ds : List Rul.Dc} {rs : List Rul.Ru} :
  mayRu dep (.mk k n p ds rs) = (decide (dep ≤ 64) && (fineL p && (if k = 1 then n.isEmpty && (rs.isEmpty && ds.all claimT) else if k = 2 then Rul.isGroup n && (ds.isEmpty && mayRs (dep + 1) rs) else false))) := by rw [mayRu]
theorem mayRs_nil {dep : Nat} : mayRs dep [] = true := by rw [mayRs]
theorem mayRs_cons {dep : Nat} {r : Rul.Ru} {l : List Rul.Ru} : mayRs dep (r :: l) = (mayRu dep r && mayRs dep l) := by rw [mayRs]
theorem ruT_eq {k : Int} {n : List Int} {p : List Rul.CV} {ds : List Rul.Dc} {rs : List Rul.Ru} :
  ruT (.mk k n p ds rs) = if k = 1 then valsT p ++ ([123] ++ (declsT ds ++ [125])) else ([64] ++ n ++ [32]) ++ (valsT p ++ ([123] ++ (rusT rs ++ [125]))) := by rw [ruT]
theorem rusT_nil : rusT [] = [] := by rw [rusT]
theorem rusT_cons {r : Rul.Ru} {l : List Rul.Ru} : rusT (r :: l) = ruT r ++ rusT l := by rw [rusT]
theorem costR_eq {k : Int} {n : List Int} {p : List Rul.CV} {ds : List Rul.Dc} {rs : List Rul.Ru} :
  costR (.mk k n p ds rs) = n.length + cost ((Rul.flatL p).map ofR) + costDs ds + costRs rs + 100 := by rw [costR]
theorem costRs_nil : costRs [] = 0 := by rw [costRs]
theorem costRs_cons {r : Rul.Ru} {l : List Rul.Ru} : costRs (r :: l) = costR r + costRs l := by rw [costRs]
theorem okR_eq {k : Int} {n : List Int} {p : List Rul.CV} {ds : List Rul.Dc} {rs : List Rul.Ru} :
  OkR (.mk k n p ds rs) ↔ By n ∧ n.length ≤ 10000000 ∧ OkL p ∧ ds.length ≤ 1000000000 ∧ (∀ d ∈ ds, OkD d) ∧ rs.length ≤ 1000000000 ∧ OkRs rs := by rw [OkR]
theorem okRs_cons {r : Rul.Ru} {l : List Rul.Ru} : OkRs (r :: l) ↔ OkR r ∧ OkRs l := by rw [OkRs]
theorem okRs_mem : ∀ {l : List Rul.Ru} {r : Rul.Ru}, OkRs l → r ∈ l → OkR r
 | [], _, _, h => by cases h
 | x :: l, r, hk, h => by
  rw [okRs_cons] at hk
  rcases List.mem_cons.1 h with rfl | h
  ·exact hk.1
  ·exact okRs_mem hk.2 h
theorem okRs_of : ∀ {l : List Rul.Ru}, (∀ r ∈ l, OkR r) → OkRs l
 | [], _ => by rw [OkRs]; trivial
 | x :: l, h => okRs_cons.2 ⟨h x (by simp), okRs_of fun r hr => h r (by simp [hr])⟩
theorem costRs_mem : ∀ {l : List Rul.Ru} {r : Rul.Ru}, r ∈ l → costR r ≤ costRs l
 | [], _, h => by cases h
 | x :: l, r, h => by
  rw [costRs_cons]
  rcases List.mem_cons.1 h with rfl | h
  ·omega
  ·have := costRs_mem h
   omega
def kidsR : Rul.Ru → List Rul.Ru
 | .mk _ _ _ _ rs => rs
theorem by_64 : By [64] := by_cons (by omega) (by omega) by_nil
theorem by_32 : By [32] := by_cons (by omega) (by omega) by_nil
theorem by_123 : By [123] := by_cons (by omega) (by omega) by_nil
theorem by_125 : By [125] := by_cons (by omega) (by omega) by_nil
mutual
theorem ruT_len : ∀ (r : Rul.Ru), OkR r → (ruT r).length ≤ costR r
 | .mk k n p ds rs, h => by
  rw [okR_eq] at h
  have h1 := valsT_len h.2.2.1
  have h2 := declsT_len h.2.2.2.2.1
  have h3 := rusT_len rs h.2.2.2.2.2.2
  rw [ruT_eq, costR_eq]
  split
  ·simp only [List.length_append, List.length_cons, List.length_nil]
   omega
  ·simp only [List.length_append, List.length_cons, List.length_nil]
   omega
theorem rusT_len : ∀ (l : List Rul.Ru), OkRs l → (rusT l).length ≤ costRs l
 | [], _ => by rw [rusT_nil]; simp
 | r :: l, h => by
  rw [okRs_cons] at h
  have h1 := ruT_len r h.1
  have h2 := rusT_len l h.2
  rw [rusT_cons, costRs_cons, List.length_append]
  omega
end
mutual
theorem ruT_by : ∀ (r : Rul.Ru), OkR r → By (ruT r)
 | .mk k n p ds rs, h => by
  rw [okR_eq] at h
  have h1 := valsT_by h.2.2.1
  have h2 := declsT_by h.2.2.2.2.1
  have h3 := rusT_by rs h.2.2.2.2.2.2
  rw [ruT_eq]
  split
  ·exact by_app h1 (by_app by_123 (by_app h2 by_125))
  ·exact by_app (by_app (by_app by_64 h.1) by_32) (by_app h1 (by_app by_123 (by_app h3 by_125)))
theorem rusT_by : ∀ (l : List Rul.Ru), OkRs l → By (rusT l)
 | [], _ => by rw [rusT_nil]; exact by_nil
 | r :: l, h => by
  rw [okRs_cons] at h
  rw [rusT_cons]
  exact by_app (ruT_by r h.1) (rusT_by l h.2)
end
end Go.Lift.P7
end

section
open Go.Proofs
namespace Go.Lift.P7
variable [MX]
open Utf Tok Spell
set_option maxRecDepth 20000
set_option maxHeartbeats 20000000
variable {lo : Nat} {h : Heap}
def mediaT : List Int := [109, 101, 100, 105, 97]
def suppT : List Int := [115, 117, 112, 112, 111, 114, 116, 115]
def contT : List Int := [99, 111, 110, 116, 97, 105, 110, 101, 114]
theorem bs_media : (⟨#[109, 101, 100, 105, 97]⟩ : ByteArray) = bs mediaT := rfl
theorem bs_supp : (⟨#[115, 117, 112, 112, 111, 114, 116, 115]⟩ : ByteArray) = bs suppT := rfl
theorem bs_cont : (⟨#[99, 111, 110, 116, 97, 105, 110, 101, 114]⟩ : ByteArray) = bs contT := rfl
theorem by_media : By mediaT := by intro c hc; unfold mediaT at hc; simp at hc; omega
theorem by_supp : By suppT := by intro c hc; unfold suppT at hc; simp at hc; omega
theorem by_cont : By contT := by intro c hc; unfold contT at hc; simp at hc; omega
theorem isGroup_eq (n : List Int) : Rul.isGroup n = (n == mediaT || n == suppT || n == contT) := rfl
theorem len_zero {α : Type} (l : List α) : (((l.length : Nat) : Int) == 0) = l.isEmpty := by
 cases l with
 | nil => rfl
 | cons a l => simp; omega
theorem nil_empty {n : List Int} : decide (n = []) = n.isEmpty := by cases n <;> simp
abbrev N23 (l : List Rul.Ru) (dep : Nat) (k : Int) : Env := [(1, .v (.int .i64 dep)), (8, .list .no (Rul.rusC l)), (9, .v (.int .i64 l.length)), (10, .v (.int .i64 k))]
theorem round23 {l : List Rul.Ru} {kd : Int} {n : List Int} {p : List Rul.CV} {ds : List Rul.Dc} {rs : List Rul.Ru} {k dep : Nat} (hlo : lo ≤ h.length) (hl : l.length ≤ 1000000000) (hg : l[k]? = some (.mk kd n p ds rs)) (hok : OkR (.mk kd n p ds rs))
  (ih : dep ≤ 64 → ∀ lo h, lo ≤ h.length → E lo 23 [.list .no (Rul.rusC rs), .v (.int .i64 ((dep + 1 : Nat) : Int))] h = some (.v (.bool (mayRs (dep + 1) rs)), h)) :
  evCode ⟨Tryz.prog, E, lo, h.length, h23⟩ loopW l23x0 (N23 l dep k, h) = if mayRu dep (.mk kd n p ds rs) = true then some (.normal, N23 l dep (k + 1 : Nat), h) else some (.ret, [(4, .v (.bool false))], h ++ [.cells (Rul.ruV (.mk kd n p ds rs))]) := by
 have hlt : k < l.length := (List.getElem?_eq_some_iff.1 hg).1
 have hgr : (Rul.rusC l)[k]? = some (Rul.ruV (.mk kd n p ds rs)) := by rw [Rul.rusC_map, List.getElem?_map, hg]; rfl
 have q : decide ((k : Int) < (l.length : Int)) = true := by simp; omega
 have hw : IntKind.i64.wrap ((k : Int) + 1) = ((k + 1 : Nat) : Int) := wrap_succ (by omega)
 have hlo' : lo ≤ h.length + 1 := by omega
 rw [okR_eq] at hok
 obtain ⟨hy, hnl, hp, hdl, hds, hrl, hrs⟩ := hok
 have c13 := fun lo hlo => f13 (lo := lo) (h := h ++ [.cells (Rul.ruV (.mk kd n p ds rs))]) (l := p) hlo hp.hn hp.hok
 have c13a := c13 lo (by simp; omega); have c13b := c13 h.length (by simp); have c13c := c13 (h.length + 1) (by simp)
 have c19 := fun lo hlo => f19 (lo := lo) (h := h ++ [.cells (Rul.ruV (.mk kd n p ds rs))]) (l := ds) hlo hdl hds
 have c19a := c19 lo (by simp; omega); have c19b := c19 h.length (by simp); have c19c := c19 (h.length + 1) (by simp)
 clear c13 c19
 have c23 := fun hd lo hlo => ih hd lo (h ++ [.cells (Rul.ruV (.mk kd n p ds rs))]) hlo
 have ed : Rul.ruV (.mk kd n p ds rs) = [.v (.int .i64 kd), .v (.string (bs n)), .list .no (Rul.rowsC p), .list .no (ds.map Rul.declC), .list .no (Rul.rusC rs)] := by rw [Rul.ruV]; rfl
 have t1 := (bs_nil_eq' n).trans nil_empty
 have r0 := len_zero rs
 have d0 := len_zero ds
 have b1 := bs_beq hy by_media
 have b2 := bs_beq hy by_supp
 have b3 := bs_beq hy by_cont
 rw [ed] at hgr c13a c13b c13c c19a c19b c19c ⊢
 simp only [ed] at c23
 rw [mayRu_eq]
 by_cases hd : dep ≤ 64
 ·have ih := ih hd
  have q64 : decide ((64 : Int) < (dep : Int)) = false := by simp; omega
  rw [decide_eq_true hd, Bool.true_and]
  cases hf : fineL p with
  | false =>
   rw [Bool.false_and, if_neg (by simp)]
   rw [hf] at c13a c13b c13c
   simp only [go_sem, l23x0, b23, Tryz.f23, hlo, hlo', q, hgr, hw, q64, c13a, c13b, c13c, List.length_map, Rul.rusC_len]
   all_goals rfl
  | true =>
   rw [Bool.true_and]
   rw [hf] at c13a c13b c13c
   by_cases h1 : kd = 1
   ·have kq : (kd == 1) = true := by simpa using h1
    rw [if_pos h1]
    cases hn : n.isEmpty with
    | false =>
     rw [hn] at t1
     rw [Bool.false_and, if_neg (by simp)]
     simp only [go_sem, l23x0, b23, Tryz.f23, hlo, hlo', q, hgr, hw, q64, c13a, c13b, c13c, List.length_map, Rul.rusC_len, kq, t1]
     all_goals rfl
    | true =>
     rw [hn] at t1
     rw [Bool.true_and]
     cases hr : rs.isEmpty with
     | false =>
      rw [hr] at r0
      rw [Bool.false_and, if_neg (by simp)]
      simp only [go_sem, l23x0, b23, Tryz.f23, hlo, hlo', q, hgr, hw, q64, c13a, c13b, c13c, List.length_map, Rul.rusC_len, kq, t1, r0]
      all_goals rfl
     | true =>
      rw [hr] at r0
      rw [Bool.true_and]
      cases ha : ds.all claimT with
      | false =>
       rw [ha] at c19a c19b c19c
       rw [if_neg (by simp)]
       simp only [go_sem, l23x0, b23, Tryz.f23, hlo, hlo', q, hgr, hw, q64, c13a, c13b, c13c, List.length_map, Rul.rusC_len, kq, t1, r0, c19a, c19b, c19c]
       all_goals rfl
      | true =>
       rw [ha] at c19a c19b c19c
       rw [if_pos (by simp)]
       simp only [go_sem, l23x0, b23, Tryz.f23, hlo, hlo', q, hgr, hw, q64, c13a, c13b, c13c, List.length_map, Rul.rusC_len, kq, t1, r0, c19a, c19b, c19c]
       all_goals rfl
   ·have k1 : (kd == 1) = false := by simpa using h1
    rw [if_neg h1]
    by_cases h2 : kd = 2
    ·have kq : (kd == 2) = true := by simpa using h2
     rw [if_pos h2, isGroup_eq]
     have hwd : IntKind.i64.wrap ((dep : Int) + 1) = ((dep + 1 : Nat) : Int) := wrap_succ (by omega)
     have c23a := c23 hd lo (by simp; omega); have c23b := c23 hd h.length (by simp); have c23c := c23 hd (h.length + 1) (by simp)
     cases g1 : n == mediaT with
     | true =>
      rw [g1] at b1
      rw [Bool.true_or, Bool.true_or, Bool.true_and]
      cases he : ds.isEmpty with
      | false =>
       rw [he] at d0
       rw [Bool.false_and, if_neg (by simp)]
       simp only [go_sem, l23x0, b23, Tryz.f23, hlo, hlo', q, hgr, hw, q64, c13a, c13b, c13c, List.length_map, Rul.rusC_len, kq, k1, bs_media, bs_supp, bs_cont, d0, b1]
       all_goals rfl
      | true =>
       rw [he] at d0
       rw [Bool.true_and]
       cases hm : mayRs (dep + 1) rs with
       | false =>
        rw [hm] at c23a c23b c23c
        rw [if_neg (by simp)]
        simp only [go_sem, l23x0, b23, Tryz.f23, hlo, hlo', q, hgr, hw, q64, c13a, c13b, c13c, List.length_map, Rul.rusC_len, kq, k1, bs_media, bs_supp, bs_cont, d0, b1, hwd, c23a, c23b, c23c]
        all_goals rfl
       | true =>
        rw [hm] at c23a c23b c23c
        rw [if_pos (by simp)]
        simp only [go_sem, l23x0, b23, Tryz.f23, hlo, hlo', q, hgr, hw, q64, c13a, c13b, c13c, List.length_map, Rul.rusC_len, kq, k1, bs_media, bs_supp, bs_cont, d0, b1, hwd, c23a, c23b, c23c]
        all_goals rfl
     | false =>
      rw [g1] at b1
      cases g2 : n == suppT with
      | true =>
       rw [g2] at b2
       rw [Bool.false_or, Bool.true_or, Bool.true_and]
       cases he : ds.isEmpty with
       | false =>
        rw [he] at d0
        rw [Bool.false_and, if_neg (by simp)]
        simp only [go_sem, l23x0, b23, Tryz.f23, hlo, hlo', q, hgr, hw, q64, c13a, c13b, c13c, List.length_map, Rul.rusC_len, kq, k1, bs_media, bs_supp, bs_cont, d0, b1, b2]
        all_goals rfl
       | true =>
        rw [he] at d0
        rw [Bool.true_and]
        cases hm : mayRs (dep + 1) rs with
        | false =>
         rw [hm] at c23a c23b c23c
         rw [if_neg (by simp)]
         simp only [go_sem, l23x0, b23, Tryz.f23, hlo, hlo', q, hgr, hw, q64, c13a, c13b, c13c, List.length_map, Rul.rusC_len, kq, k1, bs_media, bs_supp, bs_cont, d0, b1, b2, hwd, c23a, c23b, c23c]
         all_goals rfl
        | true =>
         rw [hm] at c23a c23b c23c
         rw [if_pos (by simp)]
         simp only [go_sem, l23x0, b23, Tryz.f23, hlo, hlo', q, hgr, hw, q64, c13a, c13b, c13c, List.length_map, Rul.rusC_len, kq, k1, bs_media, bs_supp, bs_cont, d0, b1, b2, hwd, c23a, c23b, c23c]
         all_goals rfl
      | false =>
       rw [g2] at b2
       cases g3 : n == contT with
       | true =>
        rw [g3] at b3
        rw [Bool.false_or, Bool.false_or, Bool.true_and]
        cases he : ds.isEmpty with
        | false =>
         rw [he] at d0
         rw [Bool.false_and, if_neg (by simp)]
         simp only [go_sem, l23x0, b23, Tryz.f23, hlo, hlo', q, hgr, hw, q64, c13a, c13b, c13c, List.length_map, Rul.rusC_len, kq, k1, bs_media, bs_supp, bs_cont, d0, b1, b2, b3]
         all_goals rfl
        | true =>
         rw [he] at d0
         rw [Bool.true_and]
         cases hm : mayRs (dep + 1) rs with
         | false =>
          rw [hm] at c23a c23b c23c
          rw [if_neg (by simp)]
          simp only [go_sem, l23x0, b23, Tryz.f23, hlo, hlo', q, hgr, hw, q64, c13a, c13b, c13c, List.length_map, Rul.rusC_len, kq, k1, bs_media, bs_supp, bs_cont, d0, b1, b2, b3, hwd, c23a, c23b, c23c]
          all_goals rfl
         | true =>
          rw [hm] at c23a c23b c23c
          rw [if_pos (by simp)]
          simp only [go_sem, l23x0, b23, Tryz.f23, hlo, hlo', q, hgr, hw, q64, c13a, c13b, c13c, List.length_map, Rul.rusC_len, kq, k1, bs_media, bs_supp, bs_cont, d0, b1, b2, b3, hwd, c23a, c23b, c23c]
          all_goals rfl
       | false =>
        rw [g3] at b3
        rw [Bool.false_or, Bool.false_or, Bool.false_and, if_neg (by simp)]
        simp only [go_sem, l23x0, b23, Tryz.f23, hlo, hlo', q, hgr, hw, q64, c13a, c13b, c13c, List.length_map, Rul.rusC_len, kq, k1, bs_media, bs_supp, bs_cont, b1, b2, b3]
        all_goals rfl
    ·have k2 : (kd == 2) = false := by simpa using h2
     rw [if_neg h2, if_neg (by simp)]
     simp only [go_sem, l23x0, b23, Tryz.f23, hlo, hlo', q, hgr, hw, q64, c13a, c13b, c13c, List.length_map, Rul.rusC_len, k1, k2]
     all_goals rfl
 ·have q64 : decide ((64 : Int) < (dep : Int)) = true := by simp; omega
  rw [decide_eq_false hd, Bool.false_and, if_neg (by simp)]
  simp only [go_sem, l23x0, b23, Tryz.f23, hlo, hlo', q, hgr, hw, q64, c13a, c13b, c13c, List.length_map, Rul.rusC_len]
  all_goals rfl
theorem stop23 {l : List Rul.Ru} {dep : Nat} (hlo : lo ≤ h.length) : evCode ⟨Tryz.prog, E, lo, h.length, h23⟩ loopW l23x0 (N23 l dep l.length, h) =
   some (.exit 0, N23 l dep l.length ++ [(11, .v (.bool false))], h) := by
 have q : decide ((l.length : Int) < (l.length : Int)) = false := by simp
 simp only [go_sem, l23x0, b23, Tryz.f23, hlo, q]
 all_goals rfl
theorem loop23 {l : List Rul.Ru} {dep : Nat} (hlo : lo ≤ h.length) (hl : l.length ≤ 1000000000) (hok : OkRs l)
  (ih : dep ≤ 64 → ∀ r ∈ l, ∀ lo h, lo ≤ h.length → E lo 23 [.list .no (Rul.rusC (kidsR r)), .v (.int .i64 ((dep + 1 : Nat) : Int))] h = some (.v (.bool (mayRs (dep + 1) (kidsR r))), h)) : ∀ (m k : Nat), k + m = l.length →
  if mayRs dep (l.drop k) = true then
   loopW (evCode ⟨Tryz.prog, E, lo, h.length, h23⟩ loopW l23x0) (N23 l dep k, h) = some (.exit 0, N23 l dep l.length ++ [(11, .v (.bool false))], h)
  else ∃ X, loopW (evCode ⟨Tryz.prog, E, lo, h.length, h23⟩ loopW l23x0) (N23 l dep k, h) = some (.ret, [(4, .v (.bool false))], h ++ X) := by
 intro m
 induction m with
 | zero =>
  intro k hk
  obtain rfl : k = l.length := by omega
  rw [List.drop_length, if_pos mayRs_nil, loop_eq, stop23 hlo, loop_e]
 | succ m ihm =>
  intro k hk
  have hlt : k < l.length := by omega
  have hg : l[k]? = some l[k] := List.getElem?_eq_getElem hlt
  have hd : l.drop k = l[k] :: l.drop (k + 1) := List.drop_eq_getElem_cons hlt
  have hmem := List.getElem_mem hlt
  have hok1 := okRs_mem hok hmem
  have ih1 := fun hd => ih hd l[k] hmem
  rw [hd]
  generalize l[k] = t at *
  obtain ⟨kd, n, p, ds, rs⟩ := t
  have hr := round23 (dep := dep) hlo hl hg hok1 ih1
  rw [mayRs_cons]
  cases hm : mayRu dep (.mk kd n p ds rs) with
  | false =>
   rw [hm, if_neg (by simp)] at hr
   rw [Bool.false_and, if_neg (by simp)]
   exact ⟨_, by rw [loop_eq, hr, loop_r]⟩
  | true =>
   rw [hm, if_pos rfl] at hr
   rw [Bool.true_and, loop_eq, hr, loop_n]
   exact ihm (k + 1) (by omega)
theorem kids_cost {r : Rul.Ru} : costRs (kidsR r) + 100 ≤ costR r := by
 obtain ⟨kd, n, p, ds, rs⟩ := r
 rw [costR_eq]
 show costRs rs + 100 ≤ _
 omega
theorem kids_ok {r : Rul.Ru} (h : OkR r) : OkRs (kidsR r) ∧ (kidsR r).length ≤ 1000000000 := by
 obtain ⟨kd, n, p, ds, rs⟩ := r
 rw [okR_eq] at h
 exact ⟨h.2.2.2.2.2.2, h.2.2.2.2.2.1⟩
theorem f23 : ∀ (N : Nat) (l : List Rul.Ru) (dep lo : Nat) (h : Heap), costRs l ≤ N → OkRs l → l.length ≤ 1000000000 → dep ≤ 65 → lo ≤ h.length →
  E lo 23 [.list .no (Rul.rusC l), .v (.int .i64 (dep : Nat))] h = some (.v (.bool (mayRs dep l)), h) := by
 intro N
 induction N with
 | zero =>
  intro l dep lo h hc hok hl hdep hlo
  cases l with
  | nil =>
   have hL := loop23 (lo := lo) (h := h) (l := []) (dep := dep) hlo hl hok (fun _ r hr => by cases hr) 0 0 rfl
   rw [List.drop_zero, if_pos mayRs_nil] at hL
   have n0 : ((0 : Nat) : Int) = 0 := rfl
   rw [mayRs_nil, e23 (by simp) (by rfl)]
   simp only [l23x0, b23, Tryz.f23, loopAt, loops, bodyOf, go_sem, N23, n0, List.cons_append, List.nil_append, List.length_nil] at hL
   simp only [go_sem, b23, Tryz.f23, hlo, hL, Rul.rusC_len, n0, List.length_nil]
   all_goals rfl
  | cons r l =>
   rw [costRs_cons] at hc
   have := kids_cost (r := r)
   omega
 | succ N ihN =>
  intro l dep lo h hc hok hl hdep hlo
  have hL := loop23 (lo := lo) (h := h) (l := l) (dep := dep) hlo hl hok (fun hd r hr lo h hlo => by
   have k1 := costRs_mem hr
   have k2 := kids_cost (r := r)
   have k3 := kids_ok (okRs_mem hok hr)
   exact ihN (kidsR r) (dep + 1) lo h (by omega) k3.1 k3.2 (by omega) hlo) l.length 0 (by omega)
  rw [List.drop_zero] at hL
  have n0 : ((0 : Nat) : Int) = 0 := rfl
  rw [e23 (by simp) (by rfl)]
  cases hm : mayRs dep l with
  | false =>
   rw [hm, if_neg (by simp)] at hL
   obtain ⟨X, hL⟩ := hL
   simp only [l23x0, b23, Tryz.f23, loopAt, loops, bodyOf, go_sem, N23, n0] at hL
   simp only [go_sem, b23, Tryz.f23, hlo, hL, Rul.rusC_len, n0]
   all_goals rfl
  | true =>
   rw [hm, if_pos rfl] at hL
   simp only [l23x0, b23, Tryz.f23, loopAt, loops, bodyOf, go_sem, N23, n0, List.cons_append, List.nil_append] at hL
   simp only [go_sem, b23, Tryz.f23, hlo, hL, Rul.rusC_len, n0]
   all_goals rfl
end Go.Lift.P7
end

section
open Go.Proofs
namespace Go.Lift.P7
variable [MX]
open Utf Tok Spell
set_option maxRecDepth 20000
set_option maxHeartbeats 1000000
variable {lo : Nat} {p q : Heap} {p0 : V} {out : List Int}
theorem bs_at : (⟨#[64]⟩ : ByteArray) = bs [64] := rfl
theorem bs_32' : (⟨#[32]⟩ : ByteArray) = bs [32] := rfl
theorem bs_123 : (⟨#[123]⟩ : ByteArray) = bs [123] := rfl
theorem bs_125 : (⟨#[125]⟩ : ByteArray) = bs [125] := rfl
theorem pw_self (i : Nat) (e : Bool) : pw i (.ptr i 0) e = .ptr i 0 := by unfold pw; split <;> rfl
abbrev NRw (i : Nat) (l : List Rul.Ru) (k : Int) : Env := [(0, .ptr i 0), (4, .fn 30 [.undef, .ptr i 0]), (11, .list .no (Rul.rusC l)), (12, .v (.int .i64 l.length)), (13, .v (.int .i64 k))]
section
variable {l : List Rul.Ru} {kd : Int} {n : List Int} {pr : List Rul.CV} {ds : List Rul.Dc} {rs : List Rul.Ru} {k : Nat}
theorem style24 (hlo : lo ≤ p.length) (hp : okP p.length p0 = true) (hl : l.length ≤ 1000000000) (hg : l[k]? = some (.mk kd n pr ds rs)) (hok : OkR (.mk kd n pr ds rs)) (hk : kd = 1) (hf : fineL pr = true) (ha : ds.all claimT = true) (ho : out.length + costR (.mk kd n pr ds rs) ≤ 1000000000) :
  evCode ⟨Tryz.prog, E, lo, p.length + (q.length + 1), h24⟩ loopW l24x0 (NRw p.length l k, p ++ .cells [p0, .list .yes (ri .u8 out), .v (.int .i64 0)] :: q) =
   some (.normal, NRw p.length l (k + 1 : Nat), p ++ .cells [.ptr p.length 0, .list .yes (ri .u8 (out ++ ruT (.mk kd n pr ds rs))), .v (.int .i64 0)] :: q) := by
 have hlt : k < l.length := (List.getElem?_eq_some_iff.1 hg).1
 have hgr : (Rul.rusC l)[k]? = some (Rul.ruV (.mk kd n pr ds rs)) := by rw [Rul.rusC_map, List.getElem?_map, hg]; rfl
 have ed : Rul.ruV (.mk kd n pr ds rs) = [.v (.int .i64 kd), .v (.string (bs n)), .list .no (Rul.rowsC pr), .list .no (ds.map Rul.declC), .list .no (Rul.rusC rs)] := by rw [Rul.ruV]; rfl
 have qq : decide ((k : Int) < (l.length : Int)) = true := by simp; omega
 have hw : IntKind.i64.wrap ((k : Int) + 1) = ((k + 1 : Nat) : Int) := wrap_succ (by omega)
 have kq : (kd == 1) = true := by simpa using hk
 rw [okR_eq] at hok
 obtain ⟨hy, hnl, hv, hdl, hds, hrl, hrs⟩ := hok
 rw [costR_eq] at ho
 have hvt : vtxt pr = valsT pr := by unfold vtxt; rw [if_pos hf]
 have hve : verr pr = 0 := by unfold verr; rw [if_pos hf]
 have hvl := valsT_len hv
 have hdc := declsT_len hds
 have e0 : e1 0 0 = 0 := rfl
 have k1 := f38 (lo := lo) (p := p) (q := q ++ [.cells (Rul.ruV (.mk kd n pr ds rs))]) (p0 := p0) (out := out) (n := 0) (l := pr) hlo hp hv (by omega)
 rw [hvt, hve, e0] at k1
 have k2 := f30w (lo := lo) (p := p) (q := q ++ [.cells (Rul.ruV (.mk kd n pr ds rs))]) (p0 := .ptr p.length 0) (out := out ++ valsT pr) (n := 0) hlo ok_self (s := [123]) by_123 (by simp; omega) (by simp)
 have k3 := f20 (lo := lo) (p := p) (q := q ++ [.cells (Rul.ruV (.mk kd n pr ds rs))]) (p0 := .ptr p.length 0) (out := out ++ valsT pr ++ [123]) (l := ds) hlo ok_self hdl hds ha (by simp; omega)
 rw [pw_self] at k3
 have k4 := f30w (lo := lo) (p := p) (q := q ++ [.cells (Rul.ruV (.mk kd n pr ds rs))]) (p0 := .ptr p.length 0) (out := out ++ valsT pr ++ [123] ++ declsT ds) (n := 0) hlo ok_self (s := [125]) by_125 (by simp; omega) (by simp)
 have hat : ∀ o c : Ob, (p ++ o :: (q ++ [c]))[p.length + (q.length + 1)]? = some c := fun o c => by
  rw [List.getElem?_append_right (by omega)]; simp
 rw [ruT_eq, if_pos hk]
 rw [ed] at hgr k1 k2 k3 k4
 simp only [List.append_assoc, List.cons_append, List.nil_append] at k1 k2 k3 k4
 have hlo2 : lo ≤ p.length + (q.length + 1) := by omega
 have hlt2 : p.length < p.length + (q.length + 1) := by omega
 simp only [go_sem, l24x0, b24, Tryz.f24, qq, hgr, hw, hlo, hlo2, hlt2, hat, kq, bs_123, bs_125, k1, k2, k3, k4, Int.reduceBEq, List.append_assoc, List.cons_append, List.nil_append, Rul.rusC_len]
 all_goals rfl
theorem group24 (hlo : lo ≤ p.length) (hp : okP p.length p0 = true) (hl : l.length ≤ 1000000000) (hg : l[k]? = some (.mk kd n pr ds rs)) (hok : OkR (.mk kd n pr ds rs)) (hk : kd ≠ 1) (hf : fineL pr = true) (ho : out.length + costR (.mk kd n pr ds rs) ≤ 1000000000)
  (ih : ∀ (lo : Nat) (p q : Heap) (p0 : V) (out : List Int), lo ≤ p.length → okP p.length p0 = true → out.length + costRs rs ≤ 1000000000 →
   E lo 24 [.ptr p.length 0, .list .no (Rul.rusC rs)] (p ++ .cells [p0, .list .yes (ri .u8 out), .v (.int .i64 0)] :: q) = some (.tup [], p ++ .cells [pw p.length p0 rs.isEmpty, .list .yes (ri .u8 (out ++ rusT rs)), .v (.int .i64 0)] :: q)) :
  evCode ⟨Tryz.prog, E, lo, p.length + (q.length + 1), h24⟩ loopW l24x0 (NRw p.length l k, p ++ .cells [p0, .list .yes (ri .u8 out), .v (.int .i64 0)] :: q) =
   some (.normal, NRw p.length l (k + 1 : Nat), p ++ .cells [.ptr p.length 0, .list .yes (ri .u8 (out ++ ruT (.mk kd n pr ds rs))), .v (.int .i64 0)] :: q) := by
 have hlt : k < l.length := (List.getElem?_eq_some_iff.1 hg).1
 have hgr : (Rul.rusC l)[k]? = some (Rul.ruV (.mk kd n pr ds rs)) := by rw [Rul.rusC_map, List.getElem?_map, hg]; rfl
 have ed : Rul.ruV (.mk kd n pr ds rs) = [.v (.int .i64 kd), .v (.string (bs n)), .list .no (Rul.rowsC pr), .list .no (ds.map Rul.declC), .list .no (Rul.rusC rs)] := by rw [Rul.ruV]; rfl
 have qq : decide ((k : Int) < (l.length : Int)) = true := by simp; omega
 have hw : IntKind.i64.wrap ((k : Int) + 1) = ((k + 1 : Nat) : Int) := wrap_succ (by omega)
 have kq : (kd == 1) = false := by simpa using hk
 rw [okR_eq] at hok
 obtain ⟨hy, hnl, hv, hdl, hds, hrl, hrs⟩ := hok
 rw [costR_eq] at ho
 have hvt : vtxt pr = valsT pr := by unfold vtxt; rw [if_pos hf]
 have hve : verr pr = 0 := by unfold verr; rw [if_pos hf]
 have hvl := valsT_len hv
 have hrc := rusT_len rs hrs
 have e0 : e1 0 0 = 0 := rfl
 have k0 := f30w (lo := lo) (p := p) (q := q ++ [.cells (Rul.ruV (.mk kd n pr ds rs))]) (p0 := p0) (out := out) (n := 0) hlo hp (s := [64] ++ n ++ [32]) (by_app (by_app by_64 hy) by_32) (by omega) (by simp; omega)
 have k1 := f38 (lo := lo) (p := p) (q := q ++ [.cells (Rul.ruV (.mk kd n pr ds rs))]) (p0 := .ptr p.length 0) (out := out ++ ([64] ++ n ++ [32])) (n := 0) (l := pr) hlo ok_self hv (by simp; omega)
 rw [hvt, hve, e0] at k1
 have k2 := f30w (lo := lo) (p := p) (q := q ++ [.cells (Rul.ruV (.mk kd n pr ds rs))]) (p0 := .ptr p.length 0) (out := out ++ ([64] ++ n ++ [32]) ++ valsT pr) (n := 0) hlo ok_self (s := [123]) by_123 (by simp; omega) (by simp)
 have k3 := ih lo p (q ++ [.cells (Rul.ruV (.mk kd n pr ds rs))]) (.ptr p.length 0) (out ++ ([64] ++ n ++ [32]) ++ valsT pr ++ [123]) hlo ok_self (by simp; omega)
 rw [pw_self] at k3
 have k4 := f30w (lo := lo) (p := p) (q := q ++ [.cells (Rul.ruV (.mk kd n pr ds rs))]) (p0 := .ptr p.length 0) (out := out ++ ([64] ++ n ++ [32]) ++ valsT pr ++ [123] ++ rusT rs) (n := 0) hlo ok_self (s := [125]) by_125 (by simp; omega) (by simp)
 have hat : ∀ o c : Ob, (p ++ o :: (q ++ [c]))[p.length + (q.length + 1)]? = some c := fun o c => by
  rw [List.getElem?_append_right (by omega)]; simp
 rw [ruT_eq, if_neg hk]
 rw [ed] at hgr k0 k1 k2 k3 k4
 simp only [List.append_assoc, List.cons_append, List.nil_append] at k0 k1 k2 k3 k4 ⊢
 have z1 : 1 + n.length ≤ 9223372036854775807 := by omega
 have z2 : 1 + n.length + 1 ≤ 9223372036854775807 := by omega
 have z3 : n.length + 1 ≤ 9223372036854775807 := by omega
 have z4 : n.length + 1 + 1 ≤ 9223372036854775807 := by omega
 have hlo2 : lo ≤ p.length + (q.length + 1) := by omega
 have hlt2 : p.length < p.length + (q.length + 1) := by omega
 simp only [go_sem, l24x0, b24, Tryz.f24, qq, hgr, hw, hlo, hlo2, hlt2, hat, kq, bs_at, bs_32', bs_123, bs_125, bs_app, bs_size, List.length_append, List.length_cons, List.length_nil, Nat.zero_add, z1, z2, z3, z4, k0, k1, k2, k3, k4, Int.reduceBEq, List.append_assoc, List.cons_append, List.nil_append, Rul.rusC_len]
 all_goals rfl
end
theorem stop24 {l : List Rul.Ru} (hlo : lo ≤ p.length) :
  evCode ⟨Tryz.prog, E, lo, p.length + (q.length + 1), h24⟩ loopW l24x0 (NRw p.length l l.length, p ++ .cells [p0, .list .yes (ri .u8 out), .v (.int .i64 0)] :: q) =
   some (.exit 0, NRw p.length l l.length ++ [(14, .v (.bool false))], p ++ .cells [p0, .list .yes (ri .u8 out), .v (.int .i64 0)] :: q) := by
 have qq : decide ((l.length : Int) < (l.length : Int)) = false := by simp
 simp only [go_sem, l24x0, b24, Tryz.f24, hlo, qq]
 all_goals rfl
theorem loop24 {dep : Nat} {l : List Rul.Ru} (hlo : lo ≤ p.length) (hl : l.length ≤ 1000000000) (hok : OkRs l)
  (ih : ∀ r ∈ l, mayRs (dep + 1) (kidsR r) = true → ∀ (lo : Nat) (p q : Heap) (p0 : V) (out : List Int), lo ≤ p.length → okP p.length p0 = true → out.length + costRs (kidsR r) ≤ 1000000000 →
   E lo 24 [.ptr p.length 0, .list .no (Rul.rusC (kidsR r))] (p ++ .cells [p0, .list .yes (ri .u8 out), .v (.int .i64 0)] :: q) = some (.tup [], p ++ .cells [pw p.length p0 (kidsR r).isEmpty, .list .yes (ri .u8 (out ++ rusT (kidsR r))), .v (.int .i64 0)] :: q)) :
  ∀ (m k : Nat) (out : List Int) (p0 : V), okP p.length p0 = true → k + m = l.length → mayRs dep (l.drop k) = true → out.length + costRs (l.drop k) ≤ 1000000000 →
  loopW (evCode ⟨Tryz.prog, E, lo, p.length + (q.length + 1), h24⟩ loopW l24x0) (NRw p.length l k, p ++ .cells [p0, .list .yes (ri .u8 out), .v (.int .i64 0)] :: q) =
   some (.exit 0, NRw p.length l l.length ++ [(14, .v (.bool false))], p ++ .cells [pw p.length p0 (l.drop k).isEmpty, .list .yes (ri .u8 (out ++ rusT (l.drop k))), .v (.int .i64 0)] :: q) := by
 intro m
 induction m with
 | zero =>
  intro k out p0 hp hk _ _
  obtain rfl : k = l.length := by omega
  rw [List.drop_length, loop_eq, stop24 hlo, loop_e]
  simp only [rusT_nil, List.append_nil, pw, List.isEmpty_nil, if_true]
 | succ m ihm =>
  intro k out p0 hp hk ha ho
  have hlt : k < l.length := by omega
  have hg : l[k]? = some l[k] := List.getElem?_eq_getElem hlt
  have hd : l.drop k = l[k] :: l.drop (k + 1) := List.drop_eq_getElem_cons hlt
  have hmem := List.getElem_mem hlt
  have hok1 := okRs_mem hok hmem
  have ih1 := ih l[k] hmem
  rw [hd] at ha ho ⊢
  generalize l[k] = t at *
  rw [mayRs_cons, Bool.and_eq_true] at ha
  rw [costRs_cons] at ho
  have hlen := ruT_len t hok1
  have hr : evCode ⟨Tryz.prog, E, lo, p.length + (q.length + 1), h24⟩ loopW l24x0 (NRw p.length l k, p ++ .cells [p0, .list .yes (ri .u8 out), .v (.int .i64 0)] :: q) =
    some (.normal, NRw p.length l (k + 1 : Nat), p ++ .cells [.ptr p.length 0, .list .yes (ri .u8 (out ++ ruT t)), .v (.int .i64 0)] :: q) := by
   obtain ⟨kd, n, pr, ds, rs⟩ := t
   have hm := ha.1
   rw [mayRu_eq, Bool.and_eq_true, Bool.and_eq_true] at hm
   by_cases h1 : kd = 1
   ·rw [if_pos h1, Bool.and_eq_true, Bool.and_eq_true] at hm
    exact style24 hlo hp hl hg hok1 h1 hm.2.1 hm.2.2.2.2 (by omega)
   ·rw [if_neg h1] at hm
    by_cases h2 : kd = 2
    ·rw [if_pos h2, Bool.and_eq_true, Bool.and_eq_true] at hm
     exact group24 hlo hp hl hg hok1 h1 hm.2.1 (by omega) (ih1 hm.2.2.2.2)
    ·rw [if_neg h2] at hm
     exact absurd hm.2.2 (by simp)
  rw [loop_eq, hr, loop_n, ihm (k + 1) (out ++ ruT t) (.ptr p.length 0) ok_self (by omega) ha.2 (by simp only [List.length_append]; omega)]
  have e2 : pw p.length p0 (t :: l.drop (k + 1)).isEmpty = .ptr p.length 0 := rfl
  rw [pw_self, e2, rusT_cons, List.append_assoc]
theorem f24 : ∀ (N : Nat) (l : List Rul.Ru) (dep : Nat), costRs l ≤ N → OkRs l → l.length ≤ 1000000000 → mayRs dep l = true → ∀ (lo : Nat) (p q : Heap) (p0 : V) (out : List Int), lo ≤ p.length → okP p.length p0 = true → out.length + costRs l ≤ 1000000000 →
  E lo 24 [.ptr p.length 0, .list .no (Rul.rusC l)] (p ++ .cells [p0, .list .yes (ri .u8 out), .v (.int .i64 0)] :: q) = some (.tup [], p ++ .cells [pw p.length p0 l.isEmpty, .list .yes (ri .u8 (out ++ rusT l)), .v (.int .i64 0)] :: q) := by
 intro N
 induction N with
 | zero =>
  intro l dep hc hok hl hm lo p q p0 out hlo hp ho
  cases l with
  | nil =>
   have hL := loop24 (q := q) (dep := dep) (l := []) hlo hl hok (fun r hr => by cases hr) 0 0 out p0 hp rfl hm ho
   rw [List.drop_zero] at hL
   have n0 : ((0 : Nat) : Int) = 0 := rfl
   simp only [l24x0, b24, Tryz.f24, loopAt, loops, bodyOf, go_sem, NRw, n0, List.cons_append, List.nil_append, List.length_nil] at hL
   rw [e24 (by simp) (by rfl)]
   simp only [go_sem, b24, Tryz.f24, hlo, hL, Rul.rusC_len, n0, List.length_nil]
   all_goals rfl
  | cons r l =>
   rw [costRs_cons] at hc
   have := kids_cost (r := r)
   omega
 | succ N ihN =>
  intro l dep hc hok hl hm lo p q p0 out hlo hp ho
  have hL := loop24 (q := q) (dep := dep) (l := l) hlo hl hok (fun r hr hmr lo p q p0 out hlo hp ho => by
   have k1 := costRs_mem hr
   have k2 := kids_cost (r := r)
   have k3 := kids_ok (okRs_mem hok hr)
   exact ihN (kidsR r) (dep + 1) (by omega) k3.1 k3.2 hmr lo p q p0 out hlo hp ho) l.length 0 out p0 hp (by omega) (by rw [List.drop_zero]; exact hm) (by rw [List.drop_zero]; exact ho)
  rw [List.drop_zero] at hL
  have n0 : ((0 : Nat) : Int) = 0 := rfl
  simp only [l24x0, b24, Tryz.f24, loopAt, loops, bodyOf, go_sem, NRw, n0, List.cons_append, List.nil_append] at hL
  rw [e24 (by simp) (by rfl)]
  simp only [go_sem, b24, Tryz.f24, hlo, hL, Rul.rusC_len, n0]
  all_goals rfl
def rulesR (l : List Rul.Ru) : V := if mayRs 1 l = true then okV (rusT l) else errV
theorem f11 {h : Heap} {l : List Rul.Ru} (hlo : lo ≤ h.length) (hl : l.length ≤ 1000000000) (hok : OkRs l) (ho : costRs l ≤ 1000000000) :
  E lo 11 [.list .no (Rul.rusC l)] h = some (rulesR l, h) := by
 have c23 := fun lo hlo => f23 (costRs l) l 1 lo h (Nat.le_refl _) hok hl (by omega) hlo
 have n1 : ((1 : Nat) : Int) = 1 := rfl
 rw [n1] at c23
 have c23a := c23 lo hlo; have c23b := c23 h.length (Nat.le_refl _)
 clear c23
 unfold rulesR
 rw [e11 (by simp) (by rfl)]
 cases ha : mayRs 1 l with
 | false =>
  rw [ha] at c23a c23b
  rw [if_neg (by simp)]
  unfold errV
  simp only [go_sem, b11, Tryz.f11, hlo, c23a, c23b]
  all_goals rfl
 | true =>
  rw [ha] at c23a c23b
  rw [if_pos rfl]
  unfold okV
  have c24 := fun lo hlo => f24 (costRs l) l 1 (Nat.le_refl _) hok hl ha lo h [] (.v (.pointer none)) [] hlo rfl (by simpa using ho)
  have c24a := c24 lo hlo; have c24b := c24 h.length (Nat.le_refl _)
  have c21 := fun lo hlo => f21 (lo := lo) (p := h) (q := []) (p0 := pw h.length (.v (.pointer none)) l.isEmpty) (out := rusT l) hlo (rusT_by l hok) (by have := rusT_len l hok; omega)
  have c21a := c21 lo hlo; have c21b := c21 h.length (Nat.le_refl _)
  clear c24 c21
  rw [List.nil_append] at c24a c24b
  have e0 : ri .u8 [] = [] := rfl
  rw [e0] at c24a c24b
  simp only [go_sem, b11, Tryz.f11, hlo, c23a, c23b, c24a, c24b, c21a, c21b]
  all_goals rfl
end Go.Lift.P7
end

section
open Go.Proofs
namespace Go.Lift.P7
variable [MX]
open Utf Tok Spell
set_option maxRecDepth 20000
set_option maxHeartbeats 1000000
variable {lo : Nat} {h : Heap} {out : List Int}
theorem mayV_1 (b : List Int) : mayV 1 b 0 0 false false = nameT b := by
 unfold mayV
 rw [if_pos (.inl rfl)]
 unfold nameT
 cases b.isEmpty <;> cases sound b <;> rfl
theorem tokR_1 (b : List Int) : tokR 1 b 0 0 false false = .tup [.v (.string (bs (if nameT b = true then tokenT 1 b 0 0 false false else []))), .v (.int .i64 (if nameT b = true then 0 else 1))] := by
 unfold tokR
 rw [mayV_1]
 split <;> rfl
abbrev N10 (l : List Rul.Dc) (out : List Int) (k : Int) : Env := [(4, .v (.string (bs out))), (11, .list .no (l.map Rul.declC)), (12, .v (.int .i64 l.length)), (13, .v (.int .i64 k))]
theorem round10 {l : List Rul.Dc} {d : Rul.Dc} {k : Nat} (hlo : lo ≤ h.length) (hl : l.length ≤ 1000000000) (hg : l[k]? = some d) (hok : OkD d) (ho : out.length + costD d ≤ 1000000000) :
  evCode ⟨Tryz.prog, E, lo, h.length, h10⟩ loopW l10x0 (N10 l out k, h) =
   if claimT d = true then some (.normal, N10 l (out ++ declT d) (k + 1 : Nat), h) else some (.ret, [(2, .v (.string (bs []))), (3, .v (.int .i64 1))], h ++ [.cells (Rul.declC d)]) := by
 have hlt : k < l.length := (List.getElem?_eq_some_iff.1 hg).1
 have hgr : (l.map Rul.declC)[k]? = some (Rul.declC d) := by simp [hg]
 have q : decide ((k : Int) < (l.length : Int)) = true := by simp; omega
 have hw : IntKind.i64.wrap ((k : Int) + 1) = ((k + 1 : Nat) : Int) := wrap_succ (by omega)
 have hlo' : lo ≤ h.length + 1 := by omega
 have c22 := fun lo hlo => f22 (lo := lo) (h := h ++ [.cells (Rul.declC d)]) (k := 1) (b := d.name) (n := 0) (d := 0) (w := false) (i := false) hlo hok.hy hok.hl (by omega) (by omega) (by omega) (by omega)
 rw [tokR_1] at c22
 unfold tokV at c22
 have c22a := c22 lo (by simp; omega); have c22b := c22 h.length (by simp); have c22c := c22 (h.length + 1) (by simp)
 have c7 := fun lo hlo => f7 (lo := lo) (h := h ++ [.cells (Rul.declC d)]) (l := d.val) hlo hok.hv
 rw [valsR_eq] at c7
 have c7a := c7 lo (by simp; omega); have c7b := c7 h.length (by simp); have c7c := c7 (h.length + 1) (by simp)
 clear c22 c7
 have hid := name_len hok
 have hvl := valsT_len hok.hv
 have ed : Rul.declC d = [.v (.string (bs d.name)), .list .no (Rul.rowsC d.val), .v (.bool d.imp)] := rfl
 rw [ed] at hgr c22a c22b c22c c7a c7b c7c ⊢
 unfold claimT
 cases hn : nameT d.name with
 | false =>
  rw [hn, if_neg (show ¬ false = true by simp), if_neg (show ¬ false = true by simp)] at c22a c22b c22c
  rw [Bool.false_and, if_neg (show ¬ false = true by simp)]
  simp only [go_sem, l10x0, b10, Tryz.f10, hlo, hlo', q, hgr, hw, c22a, c22b, c22c, c7a, c7b, c7c, List.length_map, Int.reduceBNe]
  all_goals rfl
 | true =>
  rw [hn, if_pos rfl, if_pos rfl] at c22a c22b c22c
  rw [Bool.true_and]
  cases hf : fineL d.val with
  | false =>
   have hve : verr d.val = 1 := by unfold verr; rw [hf]; rfl
   rw [hve] at c7a c7b c7c
   rw [if_neg (show ¬ false = true by simp)]
   simp only [go_sem, l10x0, b10, Tryz.f10, hlo, hlo', q, hgr, hw, c22a, c22b, c22c, c7a, c7b, c7c, List.length_map, Int.reduceBNe]
   all_goals rfl
  | true =>
   have hvt : vtxt d.val = valsT d.val := by unfold vtxt; rw [if_pos hf]
   have hve : verr d.val = 0 := by unfold verr; rw [if_pos hf]
   rw [hvt, hve] at c7a c7b c7c
   rw [if_pos rfl]
   unfold declT
   unfold costD at ho
   generalize tokenT 1 d.name 0 0 false false = T at *
   generalize valsT d.val = W at *
   have z1 : T.length + 1 ≤ 9223372036854775807 := by omega
   have z2 : T.length + 1 + W.length ≤ 9223372036854775807 := by omega
   have z3 : out.length + (T.length + 1 + W.length) ≤ 9223372036854775807 := by omega
   have z4 : out.length + (T.length + 1 + W.length) + 11 ≤ 9223372036854775807 := by omega
   have z5 : out.length + (T.length + 1 + W.length) + 11 + 1 ≤ 9223372036854775807 := by omega
   have z6 : out.length + (T.length + 1 + W.length) + 1 ≤ 9223372036854775807 := by omega
   have il : impT.length = 11 := rfl
   have y1 : out.length + (T.length + (W.length + 1)) ≤ 9223372036854775807 := by omega
   have y2 : out.length + (T.length + (W.length + 1)) + 11 ≤ 9223372036854775807 := by omega
   have y3 : out.length + (T.length + (W.length + 11 + 1)) + 1 ≤ 9223372036854775807 := by omega
   have y4 : out.length + (T.length + (W.length + 1)) + 1 ≤ 9223372036854775807 := by omega
   cases hi : d.imp with
   | true =>
    rw [hi] at hgr c22a c22b c22c c7a c7b c7c
    have e : out ++ (T ++ ([58] ++ (W ++ ((if true = true then impT else []) ++ [59])))) = out ++ (T ++ [58] ++ W) ++ impT ++ [59] := by rw [if_pos rfl]; simp only [List.append_assoc]
    rw [e]
    simp only [go_sem, l10x0, b10, Tryz.f10, hlo, hlo', q, hgr, hw, c22a, c22b, c22c, c7a, c7b, c7c, List.length_map, Int.reduceBNe, bs_58, bs_59, bs_imp, bs_app, bs_size, List.length_append, List.length_cons, List.length_nil, Nat.zero_add, il, z1, z2, z3, z4, z5, y1, y2, y3]
    all_goals rfl
   | false =>
    rw [hi] at hgr c22a c22b c22c c7a c7b c7c
    have e : out ++ (T ++ ([58] ++ (W ++ ((if false = true then impT else []) ++ [59])))) = out ++ (T ++ [58] ++ W) ++ [59] := by rw [if_neg (by simp)]; simp only [List.append_assoc, List.nil_append]
    rw [e]
    simp only [go_sem, l10x0, b10, Tryz.f10, hlo, hlo', q, hgr, hw, c22a, c22b, c22c, c7a, c7b, c7c, List.length_map, Int.reduceBNe, bs_58, bs_59, bs_imp, bs_app, bs_size, List.length_append, List.length_cons, List.length_nil, Nat.zero_add, z1, z2, z3, z6, y1, y4]
    all_goals rfl
theorem stop10 {l : List Rul.Dc} (hlo : lo ≤ h.length) : evCode ⟨Tryz.prog, E, lo, h.length, h10⟩ loopW l10x0 (N10 l out l.length, h) =
   some (.exit 0, N10 l out l.length ++ [(14, .v (.bool false))], h) := by
 have q : decide ((l.length : Int) < (l.length : Int)) = false := by simp
 simp only [go_sem, l10x0, b10, Tryz.f10, hlo, q]
 all_goals rfl
theorem loop10 {l : List Rul.Dc} (hlo : lo ≤ h.length) (hl : l.length ≤ 1000000000) (hok : ∀ t ∈ l, OkD t) : ∀ (m k : Nat) (out : List Int), k + m = l.length → out.length + costDs (l.drop k) ≤ 1000000000 →
  if (l.drop k).all claimT = true then
   loopW (evCode ⟨Tryz.prog, E, lo, h.length, h10⟩ loopW l10x0) (N10 l out k, h) = some (.exit 0, N10 l (out ++ declsT (l.drop k)) l.length ++ [(14, .v (.bool false))], h)
  else ∃ X, loopW (evCode ⟨Tryz.prog, E, lo, h.length, h10⟩ loopW l10x0) (N10 l out k, h) = some (.ret, [(2, .v (.string (bs []))), (3, .v (.int .i64 1))], h ++ X) := by
 intro m
 induction m with
 | zero =>
  intro k out hk _
  obtain rfl : k = l.length := by omega
  rw [List.drop_length, if_pos (show ([] : List Rul.Dc).all claimT = true from rfl), loop_eq, stop10 hlo, loop_e]
  simp only [declsT, List.append_nil]
 | succ m ih =>
  intro k out hk ho
  have hlt : k < l.length := by omega
  have hg : l[k]? = some l[k] := List.getElem?_eq_getElem hlt
  have hd : l.drop k = l[k] :: l.drop (k + 1) := List.drop_eq_getElem_cons hlt
  have hok1 := hok l[k] (List.getElem_mem hlt)
  rw [hd] at ho ⊢
  generalize l[k] = t at *
  simp only [costDs] at ho
  have hlen := declT_len hok1
  have hr := round10 (out := out) hlo hl hg hok1 (by omega)
  cases hm : claimT t with
  | false =>
   rw [hm, if_neg (by simp)] at hr
   rw [List.all_cons, hm, Bool.false_and, if_neg (by simp)]
   exact ⟨_, by rw [loop_eq, hr, loop_r]⟩
  | true =>
   rw [hm, if_pos rfl] at hr
   rw [List.all_cons, hm, Bool.true_and, loop_eq, hr, loop_n, declsT, ← List.append_assoc]
   exact ih (k + 1) (out ++ declT t) (by omega) (by simp only [List.length_append]; omega)
theorem f10 {l : List Rul.Dc} (hlo : lo ≤ h.length) (hl : l.length ≤ 1000000000) (hok : ∀ d ∈ l, OkD d) (ho : costDs l ≤ 1000000000) :
  E lo 10 [.list .no (l.map Rul.declC)] h = some (declsR l, h) := by
 have hL := loop10 (lo := lo) (h := h) (l := l) hlo hl hok l.length 0 [] (by omega) (by rw [List.drop_zero]; simpa using ho)
 rw [List.drop_zero] at hL
 have n0 : ((0 : Nat) : Int) = 0 := rfl
 have e0 : bs [] = (⟨#[]⟩ : ByteArray) := rfl
 unfold declsR
 rw [e10 (by simp) (by rfl)]
 cases ha : l.all claimT with
 | false =>
  rw [ha, if_neg (by simp)] at hL
  obtain ⟨X, hL⟩ := hL
  rw [if_neg (by simp)]
  unfold errV
  simp only [l10x0, b10, Tryz.f10, loopAt, loops, bodyOf, go_sem, N10, n0, e0] at hL
  simp only [go_sem, b10, Tryz.f10, hlo, hL, List.length_map, n0]
  all_goals rfl
 | true =>
  rw [ha, if_pos rfl] at hL
  rw [if_pos rfl]
  unfold okV
  simp only [l10x0, b10, Tryz.f10, loopAt, loops, bodyOf, go_sem, N10, n0, e0, List.cons_append, List.nil_append] at hL
  simp only [go_sem, b10, Tryz.f10, hlo, hL, List.length_map, n0]
  all_goals rfl
end Go.Lift.P7
end

section
open Go.Proofs
namespace Go.Lift.P7
variable [MX]
open Utf Tok Spell
set_option maxRecDepth 20000
set_option maxHeartbeats 20000000
variable {lo : Nat} {h : Heap} {out : List Int}
theorem len_pos {α : Type} (l : List α) : decide ((0 : Int) < ((l.length : Nat) : Int)) = !l.isEmpty := by
 cases l with
 | nil => rfl
 | cons a l => simp
abbrev NRf (l : List Rul.Ru) (dep : Nat) (out : List Int) (k : Int) : Env := [(1, .v (.int .i64 dep)), (6, .v (.string (bs out))), (12, .list .no (Rul.rusC l)), (13, .v (.int .i64 l.length)), (14, .v (.int .i64 k))]
theorem round25 {l : List Rul.Ru} {kd : Int} {n : List Int} {p : List Rul.CV} {ds : List Rul.Dc} {rs : List Rul.Ru} {k dep : Nat} (hlo : lo ≤ h.length) (hl : l.length ≤ 1000000000) (hg : l[k]? = some (.mk kd n p ds rs)) (hok : OkR (.mk kd n p ds rs)) (ho : out.length + costR (.mk kd n p ds rs) ≤ 1000000000)
  (ih : dep ≤ 64 → ∀ lo h, lo ≤ h.length → E lo 25 [.list .no (Rul.rusC rs), .v (.int .i64 ((dep + 1 : Nat) : Int))] h = some (if mayRs (dep + 1) rs = true then okV (rusT rs) else errV, h)) :
  evCode ⟨Tryz.prog, E, lo, h.length, h25⟩ loopW l25x0 (NRf l dep out k, h) = if mayRu dep (.mk kd n p ds rs) = true then some (.normal, NRf l dep (out ++ ruT (.mk kd n p ds rs)) (k + 1 : Nat), h) else some (.ret, [(4, .v (.string (bs []))), (5, .v (.int .i64 1))], h ++ [.cells (Rul.ruV (.mk kd n p ds rs))]) := by
 have hlt : k < l.length := (List.getElem?_eq_some_iff.1 hg).1
 have hgr : (Rul.rusC l)[k]? = some (Rul.ruV (.mk kd n p ds rs)) := by rw [Rul.rusC_map, List.getElem?_map, hg]; rfl
 have q : decide ((k : Int) < (l.length : Int)) = true := by simp; omega
 have hw : IntKind.i64.wrap ((k : Int) + 1) = ((k + 1 : Nat) : Int) := wrap_succ (by omega)
 have hlo' : lo ≤ h.length + 1 := by omega
 rw [okR_eq] at hok
 obtain ⟨hy, hnl, hp, hdl, hds, hrl, hrs⟩ := hok
 rw [costR_eq] at ho
 have hvl := valsT_len hp
 have hdc := declsT_len hds
 have hrc := rusT_len rs hrs
 have c7 := fun lo hlo => f7 (lo := lo) (h := h ++ [.cells (Rul.ruV (.mk kd n p ds rs))]) (l := p) hlo hp
 rw [valsR_eq] at c7
 have c7a := c7 lo (by simp; omega); have c7b := c7 h.length (by simp); have c7c := c7 (h.length + 1) (by simp)
 have c10 := fun lo hlo => f10 (lo := lo) (h := h ++ [.cells (Rul.ruV (.mk kd n p ds rs))]) (l := ds) hlo hdl hds (by omega)
 unfold declsR okV errV at c10
 have c10a := c10 lo (by simp; omega); have c10b := c10 h.length (by simp); have c10c := c10 (h.length + 1) (by simp)
 clear c7 c10
 have c25 := fun hd lo hlo => ih hd lo (h ++ [.cells (Rul.ruV (.mk kd n p ds rs))]) hlo
 unfold okV errV at c25
 have ed : Rul.ruV (.mk kd n p ds rs) = [.v (.int .i64 kd), .v (.string (bs n)), .list .no (Rul.rowsC p), .list .no (ds.map Rul.declC), .list .no (Rul.rusC rs)] := by rw [Rul.ruV]; rfl
 have t1 := (bs_nil_eq' n).trans nil_empty
 have r0 := len_pos rs
 have d0 := len_pos ds
 have b1 := bs_beq hy by_media
 have b2 := bs_beq hy by_supp
 have b3 := bs_beq hy by_cont
 rw [ed] at hgr c7a c7b c7c c10a c10b c10c ⊢
 simp only [ed] at c25
 rw [mayRu_eq]
 by_cases hd : dep ≤ 64
 ·have ih := ih hd
  have q64 : decide ((64 : Int) < (dep : Int)) = false := by simp; omega
  rw [decide_eq_true hd, Bool.true_and]
  cases hf : fineL p with
  | false =>
   rw [Bool.false_and, if_neg (by simp)]
   have hve : verr p = 1 := by unfold verr; rw [hf]; rfl
   rw [hve] at c7a c7b c7c
   simp only [go_sem, l25x0, b25, Tryz.f25, hlo, hlo', q, hgr, hw, q64, c7a, c7b, c7c, List.length_map, Rul.rusC_len, Int.reduceBNe]
   all_goals rfl
  | true =>
   rw [Bool.true_and]
   have hvt : vtxt p = valsT p := by unfold vtxt; rw [if_pos hf]
   have hve : verr p = 0 := by unfold verr; rw [if_pos hf]
   rw [hvt, hve] at c7a c7b c7c
   by_cases h1 : kd = 1
   ·have kq : (kd == 1) = true := by simpa using h1
    rw [if_pos h1]
    cases hn : n.isEmpty with
    | false =>
     rw [hn] at t1
     rw [Bool.false_and, if_neg (by simp)]
     simp only [go_sem, l25x0, b25, Tryz.f25, hlo, hlo', q, hgr, hw, q64, c7a, c7b, c7c, List.length_map, Rul.rusC_len, Int.reduceBNe, kq, t1]
     all_goals rfl
    | true =>
     rw [hn] at t1
     rw [Bool.true_and]
     cases hr : rs.isEmpty with
     | false =>
      rw [hr] at r0
      rw [Bool.false_and, if_neg (by simp)]
      simp only [go_sem, l25x0, b25, Tryz.f25, hlo, hlo', q, hgr, hw, q64, c7a, c7b, c7c, List.length_map, Rul.rusC_len, Int.reduceBNe, kq, t1, r0]
      all_goals rfl
     | true =>
      rw [hr] at r0
      rw [Bool.true_and]
      cases ha : ds.all claimT with
      | false =>
       rw [ha, if_neg (by simp)] at c10a c10b c10c
       rw [if_neg (by simp)]
       simp only [go_sem, l25x0, b25, Tryz.f25, hlo, hlo', q, hgr, hw, q64, c7a, c7b, c7c, List.length_map, Rul.rusC_len, Int.reduceBNe, kq, t1, r0, c10a, c10b, c10c]
       all_goals rfl
      | true =>
       rw [ha, if_pos rfl] at c10a c10b c10c
       rw [if_pos (by simp)]
       have hs2 : out ++ ruT (.mk kd n p ds rs) = out ++ (valsT p ++ [123] ++ declsT ds ++ [125]) := by rw [ruT_eq, if_pos h1]; simp only [List.append_assoc]
       rw [hs2]
       generalize valsT p = W at *
       generalize declsT ds = D at *
       have z0 : W.length + 1 ≤ 9223372036854775807 := by omega
       have z1 : W.length + 1 + D.length ≤ 9223372036854775807 := by omega
       have z2 : W.length + (D.length + 1) + 1 ≤ 9223372036854775807 := by omega
       have z3 : out.length + (W.length + (D.length + 1 + 1)) ≤ 9223372036854775807 := by omega
       simp only [go_sem, l25x0, b25, Tryz.f25, hlo, hlo', q, hgr, hw, q64, c7a, c7b, c7c, List.length_map, Rul.rusC_len, Int.reduceBNe, kq, t1, r0, c10a, c10b, c10c, bs_at, bs_32', bs_123, bs_125, bs_app, bs_size, List.length_append, List.length_cons, List.length_nil, Nat.zero_add, z0, z1, z2, z3]
       all_goals rfl
   ·have k1 : (kd == 1) = false := by simpa using h1
    rw [if_neg h1]
    by_cases h2 : kd = 2
    ·have kq : (kd == 2) = true := by simpa using h2
     rw [if_pos h2, isGroup_eq]
     have hwd : IntKind.i64.wrap ((dep : Int) + 1) = ((dep + 1 : Nat) : Int) := wrap_succ (by omega)
     have c25a := c25 hd lo (by simp; omega); have c25b := c25 hd h.length (by simp); have c25c := c25 hd (h.length + 1) (by simp)
     have hg2 : out ++ ruT (.mk kd n p ds rs) = out ++ ([64] ++ n ++ [32] ++ valsT p ++ [123] ++ rusT rs ++ [125]) := by rw [ruT_eq, if_neg h1]; simp only [List.append_assoc]
     rw [hg2]
     generalize valsT p = W at *
     generalize rusT rs = D at *
     have y0 : 1 + n.length ≤ 9223372036854775807 := by omega
     have y1 : n.length + 1 + 1 ≤ 9223372036854775807 := by omega
     have y2 : n.length + 1 + 1 + W.length ≤ 9223372036854775807 := by omega
     have y3 : n.length + (W.length + 1) + 1 + 1 ≤ 9223372036854775807 := by omega
     have y4 : n.length + (W.length + 1 + 1) + 1 + D.length ≤ 9223372036854775807 := by omega
     have y5 : n.length + (W.length + (D.length + 1) + 1) + 1 + 1 ≤ 9223372036854775807 := by omega
     have y6 : out.length + (n.length + (W.length + (D.length + 1 + 1) + 1) + 1) ≤ 9223372036854775807 := by omega
     cases g1 : n == mediaT with
     | true =>
      rw [g1] at b1
      rw [Bool.true_or, Bool.true_or, Bool.true_and]
      cases he : ds.isEmpty with
      | false =>
       rw [he] at d0
       rw [Bool.false_and, if_neg (by simp)]
       simp only [go_sem, l25x0, b25, Tryz.f25, hlo, hlo', q, hgr, hw, q64, c7a, c7b, c7c, List.length_map, Rul.rusC_len, Int.reduceBNe, kq, k1, bs_media, bs_supp, bs_cont, d0, b1]
       all_goals rfl
      | true =>
       rw [he] at d0
       rw [Bool.true_and]
       cases hm : mayRs (dep + 1) rs with
       | false =>
        rw [hm, if_neg (by simp)] at c25a c25b c25c
        rw [if_neg (by simp)]
        simp only [go_sem, l25x0, b25, Tryz.f25, hlo, hlo', q, hgr, hw, q64, c7a, c7b, c7c, List.length_map, Rul.rusC_len, Int.reduceBNe, kq, k1, bs_media, bs_supp, bs_cont, d0, b1, hwd, c25a, c25b, c25c, bs_at, bs_32', bs_123, bs_125, bs_app, bs_size, List.length_append, List.length_cons, List.length_nil, Nat.zero_add, y0, y1, y2]
        all_goals rfl
       | true =>
        rw [hm, if_pos rfl] at c25a c25b c25c
        rw [if_pos (by simp)]
        simp only [go_sem, l25x0, b25, Tryz.f25, hlo, hlo', q, hgr, hw, q64, c7a, c7b, c7c, List.length_map, Rul.rusC_len, Int.reduceBNe, kq, k1, bs_media, bs_supp, bs_cont, d0, b1, hwd, c25a, c25b, c25c, bs_at, bs_32', bs_123, bs_125, bs_app, bs_size, List.length_append, List.length_cons, List.length_nil, Nat.zero_add, y0, y1, y2, y3, y4, y5, y6]
        all_goals rfl
     | false =>
      rw [g1] at b1
      cases g2 : n == suppT with
      | true =>
       rw [g2] at b2
       rw [Bool.false_or, Bool.true_or, Bool.true_and]
       cases he : ds.isEmpty with
       | false =>
        rw [he] at d0
        rw [Bool.false_and, if_neg (by simp)]
        simp only [go_sem, l25x0, b25, Tryz.f25, hlo, hlo', q, hgr, hw, q64, c7a, c7b, c7c, List.length_map, Rul.rusC_len, Int.reduceBNe, kq, k1, bs_media, bs_supp, bs_cont, d0, b1, b2]
        all_goals rfl
       | true =>
        rw [he] at d0
        rw [Bool.true_and]
        cases hm : mayRs (dep + 1) rs with
        | false =>
         rw [hm, if_neg (by simp)] at c25a c25b c25c
         rw [if_neg (by simp)]
         simp only [go_sem, l25x0, b25, Tryz.f25, hlo, hlo', q, hgr, hw, q64, c7a, c7b, c7c, List.length_map, Rul.rusC_len, Int.reduceBNe, kq, k1, bs_media, bs_supp, bs_cont, d0, b1, b2, hwd, c25a, c25b, c25c, bs_at, bs_32', bs_123, bs_125, bs_app, bs_size, List.length_append, List.length_cons, List.length_nil, Nat.zero_add, y0, y1, y2]
         all_goals rfl
        | true =>
         rw [hm, if_pos rfl] at c25a c25b c25c
         rw [if_pos (by simp)]
         simp only [go_sem, l25x0, b25, Tryz.f25, hlo, hlo', q, hgr, hw, q64, c7a, c7b, c7c, List.length_map, Rul.rusC_len, Int.reduceBNe, kq, k1, bs_media, bs_supp, bs_cont, d0, b1, b2, hwd, c25a, c25b, c25c, bs_at, bs_32', bs_123, bs_125, bs_app, bs_size, List.length_append, List.length_cons, List.length_nil, Nat.zero_add, y0, y1, y2, y3, y4, y5, y6]
         all_goals rfl
      | false =>
       rw [g2] at b2
       cases g3 : n == contT with
       | true =>
        rw [g3] at b3
        rw [Bool.false_or, Bool.false_or, Bool.true_and]
        cases he : ds.isEmpty with
        | false =>
         rw [he] at d0
         rw [Bool.false_and, if_neg (by simp)]
         simp only [go_sem, l25x0, b25, Tryz.f25, hlo, hlo', q, hgr, hw, q64, c7a, c7b, c7c, List.length_map, Rul.rusC_len, Int.reduceBNe, kq, k1, bs_media, bs_supp, bs_cont, d0, b1, b2, b3]
         all_goals rfl
        | true =>
         rw [he] at d0
         rw [Bool.true_and]
         cases hm : mayRs (dep + 1) rs with
         | false =>
          rw [hm, if_neg (by simp)] at c25a c25b c25c
          rw [if_neg (by simp)]
          simp only [go_sem, l25x0, b25, Tryz.f25, hlo, hlo', q, hgr, hw, q64, c7a, c7b, c7c, List.length_map, Rul.rusC_len, Int.reduceBNe, kq, k1, bs_media, bs_supp, bs_cont, d0, b1, b2, b3, hwd, c25a, c25b, c25c, bs_at, bs_32', bs_123, bs_125, bs_app, bs_size, List.length_append, List.length_cons, List.length_nil, Nat.zero_add, y0, y1, y2]
          all_goals rfl
         | true =>
          rw [hm, if_pos rfl] at c25a c25b c25c
          rw [if_pos (by simp)]
          simp only [go_sem, l25x0, b25, Tryz.f25, hlo, hlo', q, hgr, hw, q64, c7a, c7b, c7c, List.length_map, Rul.rusC_len, Int.reduceBNe, kq, k1, bs_media, bs_supp, bs_cont, d0, b1, b2, b3, hwd, c25a, c25b, c25c, bs_at, bs_32', bs_123, bs_125, bs_app, bs_size, List.length_append, List.length_cons, List.length_nil, Nat.zero_add, y0, y1, y2, y3, y4, y5, y6]
          all_goals rfl
       | false =>
        rw [g3] at b3
        rw [Bool.false_or, Bool.false_or, Bool.false_and, if_neg (by simp)]
        simp only [go_sem, l25x0, b25, Tryz.f25, hlo, hlo', q, hgr, hw, q64, c7a, c7b, c7c, List.length_map, Rul.rusC_len, Int.reduceBNe, kq, k1, bs_media, bs_supp, bs_cont, b1, b2, b3]
        all_goals rfl
    ·have k2 : (kd == 2) = false := by simpa using h2
     rw [if_neg h2, if_neg (by simp)]
     simp only [go_sem, l25x0, b25, Tryz.f25, hlo, hlo', q, hgr, hw, q64, c7a, c7b, c7c, List.length_map, Rul.rusC_len, Int.reduceBNe, k1, k2]
     all_goals rfl
 ·have q64 : decide ((64 : Int) < (dep : Int)) = true := by simp; omega
  rw [decide_eq_false hd, Bool.false_and, if_neg (by simp)]
  clear c25
  cases hf : fineL p with
  | false =>
   have hve : verr p = 1 := by unfold verr; rw [hf]; rfl
   rw [hve] at c7a c7b c7c
   simp only [go_sem, l25x0, b25, Tryz.f25, hlo, hlo', q, hgr, hw, q64, c7a, c7b, c7c, List.length_map, Rul.rusC_len, Int.reduceBNe]
   all_goals rfl
  | true =>
   have hvt : vtxt p = valsT p := by unfold vtxt; rw [if_pos hf]
   have hve : verr p = 0 := by unfold verr; rw [if_pos hf]
   rw [hvt, hve] at c7a c7b c7c
   simp only [go_sem, l25x0, b25, Tryz.f25, hlo, hlo', q, hgr, hw, q64, c7a, c7b, c7c, List.length_map, Rul.rusC_len, Int.reduceBNe]
   all_goals rfl
theorem stop25 {l : List Rul.Ru} {dep : Nat} (hlo : lo ≤ h.length) : evCode ⟨Tryz.prog, E, lo, h.length, h25⟩ loopW l25x0 (NRf l dep out l.length, h) =
   some (.exit 0, NRf l dep out l.length ++ [(15, .v (.bool false))], h) := by
 have q : decide ((l.length : Int) < (l.length : Int)) = false := by simp
 simp only [go_sem, l25x0, b25, Tryz.f25, hlo, q]
 all_goals rfl
theorem loop25 {l : List Rul.Ru} {dep : Nat} (hlo : lo ≤ h.length) (hl : l.length ≤ 1000000000) (hok : OkRs l)
  (ih : dep ≤ 64 → ∀ r ∈ l, ∀ lo h, lo ≤ h.length → E lo 25 [.list .no (Rul.rusC (kidsR r)), .v (.int .i64 ((dep + 1 : Nat) : Int))] h = some (if mayRs (dep + 1) (kidsR r) = true then okV (rusT (kidsR r)) else errV, h)) : ∀ (m k : Nat) (out : List Int), k + m = l.length → out.length + costRs (l.drop k) ≤ 1000000000 →
  if mayRs dep (l.drop k) = true then
   loopW (evCode ⟨Tryz.prog, E, lo, h.length, h25⟩ loopW l25x0) (NRf l dep out k, h) = some (.exit 0, NRf l dep (out ++ rusT (l.drop k)) l.length ++ [(15, .v (.bool false))], h)
  else ∃ X, loopW (evCode ⟨Tryz.prog, E, lo, h.length, h25⟩ loopW l25x0) (NRf l dep out k, h) = some (.ret, [(4, .v (.string (bs []))), (5, .v (.int .i64 1))], h ++ X) := by
 intro m
 induction m with
 | zero =>
  intro k out hk _
  obtain rfl : k = l.length := by omega
  rw [List.drop_length, if_pos mayRs_nil, loop_eq, stop25 hlo, loop_e, rusT_nil, List.append_nil]
 | succ m ihm =>
  intro k out hk ho
  have hlt : k < l.length := by omega
  have hg : l[k]? = some l[k] := List.getElem?_eq_getElem hlt
  have hd : l.drop k = l[k] :: l.drop (k + 1) := List.drop_eq_getElem_cons hlt
  have hmem := List.getElem_mem hlt
  have hok1 := okRs_mem hok hmem
  have ih1 := fun hd => ih hd l[k] hmem
  rw [hd] at ho ⊢
  generalize l[k] = t at *
  rw [costRs_cons] at ho
  have hlen := ruT_len t hok1
  rw [mayRs_cons, rusT_cons]
  obtain ⟨kd, n, p, ds, rs⟩ := t
  have hr := round25 (dep := dep) (out := out) hlo hl hg hok1 (by omega) ih1
  cases hm : mayRu dep (.mk kd n p ds rs) with
  | false =>
   rw [hm, if_neg (by simp)] at hr
   rw [Bool.false_and, if_neg (by simp)]
   exact ⟨_, by rw [loop_eq, hr, loop_r]⟩
  | true =>
   rw [hm, if_pos rfl] at hr
   rw [Bool.true_and, loop_eq, hr, loop_n, ← List.append_assoc]
   exact ihm (k + 1) (out ++ ruT (.mk kd n p ds rs)) (by omega) (by simp only [List.length_append]; omega)
theorem f25 : ∀ (N : Nat) (l : List Rul.Ru) (dep lo : Nat) (h : Heap), costRs l ≤ N → costRs l ≤ 1000000000 → OkRs l → l.length ≤ 1000000000 → dep ≤ 65 → lo ≤ h.length →
  E lo 25 [.list .no (Rul.rusC l), .v (.int .i64 (dep : Nat))] h = some (if mayRs dep l = true then okV (rusT l) else errV, h) := by
 intro N
 induction N with
 | zero =>
  intro l dep lo h hc hc2 hok hl hdep hlo
  cases l with
  | nil =>
   have hL := loop25 (lo := lo) (h := h) (l := []) (dep := dep) hlo hl hok (fun _ r hr => by cases hr) 0 0 [] rfl (by rw [List.drop_zero, costRs_nil]; simp)
   rw [List.drop_zero, if_pos mayRs_nil, rusT_nil, List.append_nil] at hL
   have n0 : ((0 : Nat) : Int) = 0 := rfl
   have e0 : bs [] = (⟨#[]⟩ : ByteArray) := rfl
   rw [mayRs_nil, if_pos rfl, rusT_nil, e25 (by simp) (by rfl)]
   unfold okV
   simp only [l25x0, b25, Tryz.f25, loopAt, loops, bodyOf, go_sem, NRf, n0, e0, List.cons_append, List.nil_append, List.length_nil] at hL
   simp only [go_sem, b25, Tryz.f25, hlo, hL, Rul.rusC_len, n0, List.length_nil]
   all_goals rfl
  | cons r l =>
   rw [costRs_cons] at hc
   have := kids_cost (r := r)
   omega
 | succ N ihN =>
  intro l dep lo h hc hc2 hok hl hdep hlo
  have hL := loop25 (lo := lo) (h := h) (l := l) (dep := dep) hlo hl hok (fun hd r hr lo h hlo => by
   have k1 := costRs_mem hr
   have k2 := kids_cost (r := r)
   have k3 := kids_ok (okRs_mem hok hr)
   exact ihN (kidsR r) (dep + 1) lo h (by omega) (by omega) k3.1 k3.2 (by omega) hlo) l.length 0 [] (by omega) (by rw [List.drop_zero]; simpa using hc2)
  rw [List.drop_zero, List.nil_append] at hL
  have n0 : ((0 : Nat) : Int) = 0 := rfl
  have e0 : bs [] = (⟨#[]⟩ : ByteArray) := rfl
  rw [e25 (by simp) (by rfl)]
  cases hm : mayRs dep l with
  | false =>
   rw [hm, if_neg (by simp)] at hL
   obtain ⟨X, hL⟩ := hL
   rw [if_neg (by simp)]
   unfold errV
   simp only [l25x0, b25, Tryz.f25, loopAt, loops, bodyOf, go_sem, NRf, n0, e0] at hL
   simp only [go_sem, b25, Tryz.f25, hlo, hL, Rul.rusC_len, n0]
   all_goals rfl
  | true =>
   rw [hm, if_pos rfl] at hL
   rw [if_pos rfl]
   unfold okV
   simp only [l25x0, b25, Tryz.f25, loopAt, loops, bodyOf, go_sem, NRf, n0, e0, List.cons_append, List.nil_append] at hL
   simp only [go_sem, b25, Tryz.f25, hlo, hL, Rul.rusC_len, n0]
   all_goals rfl
theorem f12 {l : List Rul.Ru} (hlo : lo ≤ h.length) (hl : l.length ≤ 1000000000) (hok : OkRs l) (ho : costRs l ≤ 1000000000) :
  E lo 12 [.list .no (Rul.rusC l)] h = some (rulesR l, h) := by
 have c25 := fun lo hlo => f25 (costRs l) l 1 lo h (Nat.le_refl _) ho hok hl (by omega) hlo
 have n1 : ((1 : Nat) : Int) = 1 := rfl
 rw [n1] at c25
 have er : (if mayRs 1 l = true then okV (rusT l) else errV) = rulesR l := rfl
 have ef : ∃ s e, rulesR l = .tup [.v (.string (bs s)), .v (.int .i64 e)] := by
  unfold rulesR
  split
  ·exact ⟨_, _, rfl⟩
  ·exact ⟨_, _, rfl⟩
 rw [er] at c25
 obtain ⟨s, e, he⟩ := ef
 rw [he] at c25 ⊢
 have c25a := c25 lo hlo; have c25b := c25 h.length (Nat.le_refl _)
 clear c25
 rw [e12 (by simp) (by rfl)]
 simp only [go_sem, b12, Tryz.f12, hlo, c25a, c25b]
 all_goals rfl
end Go.Lift.P7
end

section
open Go.Proofs
namespace Go.Lift.P7
variable [MX]
open Utf Tok Spell
set_option maxRecDepth 20000
set_option maxHeartbeats 2000000
variable {lo : Nat} {h : Heap}
def wakeT : Rul.Tk4 := ⟨1, [98], 0, 0, false, false⟩
def wakeV : List Rul.CV := [.mk wakeT []]
def wakeD : Rul.Dc := ⟨[97], wakeV, true⟩
theorem wake_flat : Rul.flatL wakeV = [wakeT] := by
 unfold wakeV
 rw [Rul.flatL, Rul.flatL, Rul.flatV, Rul.flatL]
 rfl
theorem txt_asc {c : Int} (hc : 97 ≤ c ∧ c ≤ 98) : tokenT 1 [c] 0 0 false false = [c] := by
 obtain ⟨r1, s1⟩ := sound_asc (c := c) (by omega)
 have e : tokenT 1 [c] 0 0 false false = identT (raw [c]) := rfl
 rw [e, r1]
 have : c = 97 ∨ c = 98 := by omega
 rcases this with rfl | rfl <;> decide
theorem name_asc {c : Int} (hc : 97 ≤ c ∧ c ≤ 98) : nameT [c] = true := by
 obtain ⟨r1, s1⟩ := sound_asc (c := c) (by omega)
 unfold nameT
 rw [s1]
 rfl
theorem wake_may : mayT wakeT = true := (mayV_1 [98]).trans (name_asc (by omega))
theorem wake_fine : fineL wakeV = true := by
 unfold fineL
 rw [wake_flat, List.all_cons, wake_may]
 have : Rul.mayL 64 wakeV = true := by
  unfold wakeV
  rw [Rul.mayL, Rul.mayL, Rul.mayV]
  rfl
 rw [this]
 rfl
theorem wake_vals : valsT wakeV = [98] := by
 unfold valsT
 rw [wake_flat]
 have e : tokensT none ([wakeT].map ofR) = tokenT 1 [98] 0 0 false false ++ [] := rfl
 rw [e, txt_asc (by omega)]
 rfl
theorem wakeD_claim : claimT wakeD = true := by
 unfold claimT
 have e1 : nameT wakeD.name = true := name_asc (c := 97) (by omega)
 have e2 : fineL wakeD.val = true := wake_fine
 rw [e1, e2]
 rfl
theorem wakeD_T : declT wakeD = [97, 58, 98, 32, 33, 105, 109, 112, 111, 114, 116, 97, 110, 116, 59] := by
 unfold declT
 have e1 : tokenT 1 wakeD.name 0 0 false false = [97] := txt_asc (c := 97) (by omega)
 have e2 : valsT wakeD.val = [98] := wake_vals
 rw [e1, e2]
 rfl
theorem wakeT_ok : OkT wakeT := ⟨by_cons (by omega) (by omega) by_nil, by simp [wakeT], by simp [wakeT], by simp [wakeT], by simp [wakeT], by simp [wakeT]⟩
theorem wakeV_ok : OkL wakeV := by
 refine ⟨?_, ?_, ?_⟩
 ·unfold wakeV
  rw [Rul.nodesL_cons, Rul.nodesL_nil, Rul.nodesV_eq]
  show 1 + Rul.nodesL [] + 0 ≤ _
  rw [Rul.nodesL_nil]
  omega
 ·rw [wake_flat]
  intro t ht
  obtain rfl : t = wakeT := by simpa using ht
  exact wakeT_ok
 ·rw [wake_flat]
  simp [cost, ofR, wakeT]
theorem wakeD_ok : ∀ d ∈ [wakeD], OkD d := by
 intro d hd
 obtain rfl : d = wakeD := by simpa using hd
 exact ⟨by_cons (by omega) (by omega) by_nil, by simp [wakeD], wakeV_ok⟩
theorem wakeD_cost : costDs [wakeD] ≤ 1000000000 := by
 have e : cost ((Rul.flatL wakeD.val).map ofR) = 314 := by
  show cost ((Rul.flatL wakeV).map ofR) = 314
  rw [wake_flat]
  rfl
 unfold costDs costD
 rw [e]
 simp [costDs, wakeD]
theorem wakeD_R : declsR [wakeD] = okV [97, 58, 98, 32, 33, 105, 109, 112, 111, 114, 116, 97, 110, 116, 59] := by
 unfold declsR
 rw [List.all_cons, wakeD_claim, List.all_nil, Bool.and_true, if_pos rfl, declsT, declsT, wakeD_T]
 rfl
theorem wakeD_C : ([wakeD].map Rul.declC) = [[.v (.string ⟨#[97]⟩), .list .no [[.v (.int .i64 1), .v (.string ⟨#[98]⟩), .v (.int .i64 0), .v (.int .i64 0), .v (.bool false), .v (.bool false), .list .no []]], .v (.bool true)]] := by
 have e : Rul.rowsC wakeV = [[.v (.int .i64 1), .v (.string ⟨#[98]⟩), .v (.int .i64 0), .v (.int .i64 0), .v (.bool false), .v (.bool false), .list .no []]] := by
  unfold wakeV
  rw [Rul.rowsC_cons, Rul.rowsC_nil, Rul.rowV_eq, Rul.rowsC_nil]
  rfl
 rw [← e]
 rfl
theorem f8 (hlo : lo ≤ h.length) : E lo 8 [] h = some (.v (.bool true), h) := by
 have k := fun lo hlo => f9 (lo := lo) (h := h) (l := [wakeD]) hlo (by simp) wakeD_ok wakeD_cost
 rw [wakeD_R, wakeD_C] at k
 have k : ∀ lo, lo ≤ h.length → E lo 9 [.list .no [[.v (.string ⟨#[97]⟩), .list .no [[.v (.int .i64 1), .v (.string ⟨#[98]⟩), .v (.int .i64 0), .v (.int .i64 0), .v (.bool false), .v (.bool false), .list .no []]], .v (.bool true)]]] h = some (.tup [.v (.string ⟨#[97, 58, 98, 32, 33, 105, 109, 112, 111, 114, 116, 97, 110, 116, 59]⟩), .v (.int .i64 0)], h) := k
 have ka := k lo hlo; have kb := k h.length (Nat.le_refl _)
 have q := s_eq ⟨#[97, 58, 98, 32, 33, 105, 109, 112, 111, 114, 116, 97, 110, 116, 59]⟩
 rw [e8 (by simp) (by rfl)]
 simp only [go_sem, b8, Tryz.f8, ka, kb, q, Int.reduceBEq]
 all_goals rfl
theorem declsR_form (l : List Rul.Dc) : ∃ s e, declsR l = .tup [.v (.string (bs s)), .v (.int .i64 e)] := by
 unfold declsR
 split
 ·exact ⟨_, _, rfl⟩
 ·exact ⟨_, _, rfl⟩
theorem rulesR_form (l : List Rul.Ru) : ∃ s e, rulesR l = .tup [.v (.string (bs s)), .v (.int .i64 e)] := by
 unfold rulesR
 split
 ·exact ⟨_, _, rfl⟩
 ·exact ⟨_, _, rfl⟩
theorem f3 {l : List Rul.CV} (hlo : lo ≤ h.length) (hL : OkL l) : E lo 3 [.list .no (Rul.rowsC l)] h = some (.v (.bool true), h) := by
 have k1 := fun lo hlo => f6 (lo := lo) (h := h) (l := l) hlo hL
 have k2 := fun lo hlo => f7 (lo := lo) (h := h) (l := l) hlo hL
 have k3 := fun lo hlo => f8 (lo := lo) (h := h) hlo
 rw [valsR_eq] at k1 k2
 have k1a := k1 lo hlo; have k1b := k1 h.length (Nat.le_refl _)
 have k2a := k2 lo hlo; have k2b := k2 h.length (Nat.le_refl _)
 have k3a := k3 lo hlo; have k3b := k3 h.length (Nat.le_refl _)
 have q1 := s_eq (bs (vtxt l))
 have q2 := k_eq (verr l)
 rw [e3 (by simp) (by rfl)]
 simp only [go_sem, b3, Tryz.f3, hlo, k1a, k1b, k2a, k2b, k3a, k3b, q1, q2]
 all_goals rfl
theorem f4 {l : List Rul.Dc} (hlo : lo ≤ h.length) (hl : l.length ≤ 1000000000) (hok : ∀ d ∈ l, OkD d) (ho : costDs l ≤ 1000000000) : E lo 4 [.list .no (l.map Rul.declC)] h = some (.v (.bool true), h) := by
 have k1 := fun lo hlo => f9 (lo := lo) (h := h) (l := l) hlo hl hok ho
 have k2 := fun lo hlo => f10 (lo := lo) (h := h) (l := l) hlo hl hok ho
 have k3 := fun lo hlo => f8 (lo := lo) (h := h) hlo
 obtain ⟨s, e, he⟩ := declsR_form l
 rw [he] at k1 k2
 have k1a := k1 lo hlo; have k1b := k1 h.length (Nat.le_refl _)
 have k2a := k2 lo hlo; have k2b := k2 h.length (Nat.le_refl _)
 have k3a := k3 lo hlo; have k3b := k3 h.length (Nat.le_refl _)
 have q1 := s_eq (bs s)
 have q2 := k_eq e
 rw [e4 (by simp) (by rfl)]
 simp only [go_sem, b4, Tryz.f4, hlo, k1a, k1b, k2a, k2b, k3a, k3b, q1, q2]
 all_goals rfl
theorem f5 {l : List Rul.Ru} (hlo : lo ≤ h.length) (hl : l.length ≤ 1000000000) (hok : OkRs l) (ho : costRs l ≤ 1000000000) : E lo 5 [.list .no (Rul.rusC l)] h = some (.v (.bool true), h) := by
 have k1 := fun lo hlo => f11 (lo := lo) (h := h) (l := l) hlo hl hok ho
 have k2 := fun lo hlo => f12 (lo := lo) (h := h) (l := l) hlo hl hok ho
 have k3 := fun lo hlo => f8 (lo := lo) (h := h) hlo
 obtain ⟨s, e, he⟩ := rulesR_form l
 rw [he] at k1 k2
 have k1a := k1 lo hlo; have k1b := k1 h.length (Nat.le_refl _)
 have k2a := k2 lo hlo; have k2b := k2 h.length (Nat.le_refl _)
 have k3a := k3 lo hlo; have k3b := k3 h.length (Nat.le_refl _)
 have q1 := s_eq (bs s)
 have q2 := k_eq e
 rw [e5 (by simp) (by rfl)]
 simp only [go_sem, b5, Tryz.f5, hlo, k1a, k1b, k2a, k2b, k3a, k3b, q1, q2]
 all_goals rfl
end Go.Lift.P7
end

section
open Go.Proofs
namespace Go.Lift.P7
variable [MX]
open Utf
set_option maxRecDepth 20000
set_option maxHeartbeats 4000000
noncomputable abbrev prim0 : Nat → Option (Nat → List V → Heap → Option (V × Heap)) := fun _ => none
noncomputable abbrev E0 : CallF := ev Tryz.prog hints prim0
theorem u8w (z : Int) : IntKind.u8.wrap z = z % 256 := by
 simp only [IntKind.wrap, IntKind.signed, IntKind.bits]
 simp
theorem sh_r (r : Int) (k : Nat) (hk : k ≤ 32) : ishr IntKind.i32 r (k : Int) = r / 2 ^ k := by
 unfold ishr
 have e : min ((k : Int)).toNat IntKind.i32.bits = k := by
  show min ((k : Int)).toNat 32 = k
  omega
 rw [e, Int.fdiv_eq_ediv_of_nonneg _ (Int.le_of_lt (Int.pow_pos (by omega)))]
theorem lo63 (z : Int) : iand .u8 (z % 256) 63 = z % 64 := by
 rw [a63 (y := z % 256) (by omega) (by omega)]
 omega
theorem or_128 {y : Int} (h0 : 0 ≤ y) (h1 : y < 64) : ior .u8 128 y = 128 + y := Utf.o8 (n := 64) (by omega) h0 (by omega)
theorem or_192 {y : Int} (h0 : 0 ≤ y) (h1 : y < 32) : ior .u8 192 y = 192 + y := Utf.o8 (n := 32) (by omega) h0 (by omega)
theorem or_224 {y : Int} (h0 : 0 ≤ y) (h1 : y < 16) : ior .u8 224 y = 224 + y := Utf.o8 (n := 16) (by omega) h0 (by omega)
theorem or_240 {y : Int} (h0 : 0 ≤ y) (h1 : y < 8) : ior .u8 240 y = 240 + y := Utf.o8 (n := 8) (by omega) h0 (by omega)
theorem u32w_pos {r : Int} (h0 : 0 ≤ r) (h1 : r ≤ 2147483647) : IntKind.u32.wrap r = r := by
 simp only [IntKind.wrap, IntKind.signed, IntKind.bits]
 simp
 omega
theorem u32w_neg {r : Int} (h0 : -2147483648 ≤ r) (h1 : r < 0) : IntKind.u32.wrap r = r + 4294967296 := by
 simp only [IntKind.wrap, IntKind.signed, IntKind.bits]
 simp
 omega
section
variable {N : Nat} {h : Heap} {out : List Int} {r : Int}
theorem ev116 (h0 : -2147483648 ≤ r) (h1 : r ≤ 2147483647) (hna : r < 0 ∨ 128 ≤ r) (hl : out.length ≤ 1000000000) :
  evCode ⟨Tryz.prog, E0, N, N, h116⟩ loopW b116 (args0 [.list .yes (ri .u8 out), .v (.int .i32 r)], h) = some (.ret, [(4, .list .yes (ri .u8 (out ++ enc (scal r))))], h) := by
 have hr : ∀ k, k ≤ 4 → (out.length + k) * 1 ≤ 140737488355328 := by intro k hk; omega
 have hq : ∀ k, 9223372036854775800 ≤ k → out.length ≤ k := by intro k hk; omega
 by_cases hbad : r < 0 ∨ 1114111 < r ∨ (55296 ≤ r ∧ r ≤ 57343)
 ·have hs : scal r = 65533 := by
   unfold scal
   rw [if_pos]
   simp
   omega
  have he : enc (scal r) = [239, 191, 189] := by rw [hs]; rfl
  rw [he, ← ri_app]
  have e1 : ri .u8 [239, 191, 189] = [[V.v (.int .u8 239)], [V.v (.int .u8 191)], [V.v (.int .u8 189)]] := rfl
  rw [e1]
  by_cases hn : r < 0
  ·have w := u32w_neg h0 hn
   have q1 : decide (r + 4294967296 ≤ 2047) = false := by simp; omega
   have q2 : decide (r + 4294967296 < 55296) = false := by simp; omega
   have q3 : decide (57343 < r + 4294967296) = true := by simp; omega
   have q4 : decide (r + 4294967296 ≤ 65535) = false := by simp; omega
   have q5 : decide (65535 < r + 4294967296) = true := by simp; omega
   have q6 : decide (r + 4294967296 ≤ 1114111) = false := by simp; omega
   simp only [go_sem, b116, Tryz.f116, w, q1, q2, q3, q4, q5, q6, hr, hq]
   all_goals rfl
  ·have w := u32w_pos (by omega) h1
   have q1 : decide (r ≤ 2047) = false := by simp; omega
   have q2 : decide (r < 55296) = false := by simp; omega
   by_cases hb : 1114111 < r
   ·have q3 : decide (57343 < r) = true := by simp; omega
    have q4 : decide (r ≤ 65535) = false := by simp; omega
    have q5 : decide (65535 < r) = true := by simp; omega
    have q6 : decide (r ≤ 1114111) = false := by simp; omega
    simp only [go_sem, b116, Tryz.f116, w, q1, q2, q3, q4, q5, q6, hr, hq]
    all_goals rfl
   ·have q3 : decide (57343 < r) = false := by simp; omega
    have q5 : decide (65535 < r) = false := by simp; omega
    simp only [go_sem, b116, Tryz.f116, w, q1, q2, q3, q5, hr, hq]
    all_goals rfl
 ·have hs : scal r = r := by
   unfold scal
   rw [if_neg]
   simp
   omega
  have w := u32w_pos (r := r) (by omega) h1
  have s6 : ishr IntKind.i32 r 6 = r / 64 := sh_r r 6 (by omega)
  have s12 : ishr IntKind.i32 r 12 = r / 4096 := sh_r r 12 (by omega)
  have s18 : ishr IntKind.i32 r 18 = r / 262144 := sh_r r 18 (by omega)
  have l0 := lo63 r
  have l6 := lo63 (r / 64)
  have l12 := lo63 (r / 4096)
  have o0 := or_128 (y := r % 64) (by omega) (by omega)
  have o6 := or_128 (y := r / 64 % 64) (by omega) (by omega)
  have o12 := or_128 (y := r / 4096 % 64) (by omega) (by omega)
  have m0 : r % 64 % 256 = r % 64 := by omega
  have m6 : r / 64 % 64 % 256 = r / 64 % 64 := by omega
  have m12 : r / 4096 % 64 % 256 = r / 4096 % 64 := by omega
  have n0 : (128 + r % 64) % 256 = 128 + r % 64 := by omega
  have n6 : (128 + r / 64 % 64) % 256 = 128 + r / 64 % 64 := by omega
  have n12 : (128 + r / 4096 % 64) % 256 = 128 + r / 4096 % 64 := by omega
  rw [hs, ← ri_app]
  by_cases c1 : r ≤ 2047
  ·have q1 : decide (r ≤ 2047) = true := by simp [c1]
   have t : r / 64 % 256 = r / 64 := by omega
   have o := or_192 (y := r / 64) (by omega) (by omega)
   have no : (192 + r / 64) % 256 = 192 + r / 64 := by omega
   have e : ri .u8 (enc r) = [[V.v (.int .u8 (192 + r / 64))], [V.v (.int .u8 (128 + r % 64))]] := by unfold enc; rw [if_neg (by omega), if_pos (by omega)]; rfl
   rw [e]
   simp only [go_sem, b116, Tryz.f116, w, q1, u8w, s6, l0, o0, m0, n0, t, o, no, hr, hq]
   all_goals rfl
  ·have q1 : decide (r ≤ 2047) = false := by simp; omega
   by_cases c2 : r ≤ 65535
   ·have t : r / 4096 % 256 = r / 4096 := by omega
    have o := or_224 (y := r / 4096) (by omega) (by omega)
    have no : (224 + r / 4096) % 256 = 224 + r / 4096 := by omega
    have e : ri .u8 (enc r) = [[V.v (.int .u8 (224 + r / 4096))], [V.v (.int .u8 (128 + r / 64 % 64))], [V.v (.int .u8 (128 + r % 64))]] := by unfold enc; rw [if_neg (by omega), if_neg (by omega), if_pos (by omega)]; rfl
    rw [e]
    by_cases c3 : r < 55296
    ·have q2 : decide (r < 55296) = true := by simp [c3]
     simp only [go_sem, b116, Tryz.f116, w, q1, q2, u8w, s6, s12, l0, l6, o0, o6, m0, m6, n0, n6, t, o, no, hr, hq]
     all_goals rfl
    ·have q2 : decide (r < 55296) = false := by simp; omega
     have q3 : decide (57343 < r) = true := by simp; omega
     have q4 : decide (r ≤ 65535) = true := by simp [c2]
     simp only [go_sem, b116, Tryz.f116, w, q1, q2, q3, q4, u8w, s6, s12, l0, l6, o0, o6, m0, m6, n0, n6, t, o, no, hr, hq]
     all_goals rfl
   ·have q2 : decide (r < 55296) = false := by simp; omega
    have q3 : decide (57343 < r) = true := by simp; omega
    have q4 : decide (r ≤ 65535) = false := by simp; omega
    have q5 : decide (65535 < r) = true := by simp; omega
    have q6 : decide (r ≤ 1114111) = true := by simp; omega
    have t : r / 262144 % 256 = r / 262144 := by omega
    have o := or_240 (y := r / 262144) (by omega) (by omega)
    have no : (240 + r / 262144) % 256 = 240 + r / 262144 := by omega
    have e : ri .u8 (enc r) = [[V.v (.int .u8 (240 + r / 262144))], [V.v (.int .u8 (128 + r / 4096 % 64))], [V.v (.int .u8 (128 + r / 64 % 64))], [V.v (.int .u8 (128 + r % 64))]] := by unfold enc; rw [if_neg (by omega), if_neg (by omega), if_neg (by omega)]; rfl
    rw [e]
    simp only [go_sem, b116, Tryz.f116, w, q1, q2, q3, q4, q5, q6, u8w, s6, s12, s18, l0, l6, l12, o0, o6, o12, m0, m6, m12, n0, n6, n12, t, o, no, hr, hq]
    all_goals rfl
theorem ev97 (h0 : 0 ≤ r) (h1 : r < 128) (hl : out.length ≤ 1000000000) :
  evCode ⟨Tryz.prog, E0, N, N, h97⟩ loopW b97 (args0 [.list .yes (ri .u8 out), .v (.int .i32 r)], h) = some (.ret, [(4, .list .yes (ri .u8 (out ++ enc (scal r))))], h) := by
 have hr : ∀ k, k ≤ 4 → (out.length + k) * 1 ≤ 140737488355328 := by intro k hk; omega
 have hq : ∀ k, 9223372036854775800 ≤ k → out.length ≤ k := by intro k hk; omega
 have hs : scal r = r := by
  unfold scal
  rw [if_neg]
  simp
  omega
 have e : ri .u8 (enc r) = [[V.v (.int .u8 r)]] := by unfold enc; rw [if_pos h1]; rfl
 have w := u32w_pos (r := r) (by omega) (by omega)
 have q : decide (r ≤ 127) = true := by simp; omega
 have t : r % 256 = r := by omega
 rw [hs, ← ri_app, e]
 simp only [go_sem, b97, Tryz.f97, w, q, u8w, t, hr, hq]
 all_goals rfl
end
end Go.Lift.P7
end

section
open Go.Proofs
namespace Go.Lift.P7
variable [MX]
open Utf Go.RowKit
set_option maxRecDepth 100000
set_option maxHeartbeats 4000000
theorem extra105 : Builder.Extra Tryz.prog Tryz.lays105_ren where
 sizeBuilder := by kernel_rfl
 liesBuilder := by kernel_rfl
 t5 := by kernel_rfl
 a5 := Tryz.lays105.a5
 z5 := Tryz.lays105.z5
 v5 := Tryz.lays105.v5
 infoByte := by kernel_rfl
 cellsByte := by kernel_rfl
 sizeByte := by kernel_rfl
 neB5 := by decide
theorem follows4 : Tryz.prog.follows .mixedOrders = true := by kernel_rfl
section
variable {m : List Nat} {c : Cl} {w : World} {h : Heap} {out : List Int} {r : Int} {y : Value}
def Grown (m : List Nat) (c : Cl) (w : World) (h : Heap) (y : Value) (out' : List Int) (z : Value) (w' : World) : Prop :=
 ∃ c', HOK m c' w' h ∧ OwnsH m c' w' h (ri .u8 out') z ∧ FrY y w c w' c' ∧ ∀ b, ownBlk z = some b → w.heap.size ≤ b ∨ ownBlk y = some b
theorem args2 (hO : OwnsH m c w h (ri .u8 out) y) : R2 (VRr m c w) (V.list .yes (ri .u8 out) :: [.v (.int .i32 r)]) (#[y, .int .i32 r] : Array Value).toList := by
 refine ⟨rfl, fun i x z hx hz => ?_⟩
 match i with
 | 0 => cases hx; cases hz; exact hO.1
 | 1 => cases hx; cases hz; rfl
 | i + 2 => simp at hx
theorem ok116 (h0 : -2147483648 ≤ r) (h1 : r ≤ 2147483647) (hna : r < 0 ∨ 128 ≤ r) (hl : out.length ≤ 1000000000) (hH : HOK m c w h) (hO : OwnsH m c w h (ri .u8 out) y) :
  Calls Tryz.prog 116 #[y, .int .i32 r] w fun e w' => ∃ z, e = .returned z ∧ Grown m c w h y (out ++ enc (scal r)) z w' :=
 (own_ok (hints := hints) (prim := prim0) follows4 (fun _ _ hp => by cases hp) (f := 116) (t := 4) (hi := h116) (xs := #[y, .int .i32 r]) Tryz.func116 rfl Tryz.ntmps116 rfl c116 rfl rfl (by simp) (ev116 h0 h1 hna hl) (.inr rfl) rfl hH hO (args2 hO)).mono
  fun e w' ⟨z, c', he, k1, k2, k3, k4⟩ => ⟨z, he, c', k1, k2, k3, k4⟩
theorem rune_ok (h0 : -2147483648 ≤ r) (h1 : r ≤ 2147483647) (hl : out.length ≤ 1000000000) (hH : HOK m c w h) (hO : OwnsH m c w h (ri .u8 out) y) :
  Calls Tryz.prog 97 #[y, .int .i32 r] w fun e w' => ∃ z, e = .returned z ∧ Grown m c w h y (out ++ enc (scal r)) z w' := by
 by_cases hna : r < 0 ∨ 128 ≤ r
 ·have k := ok116 h0 h1 hna hl hH hO
  have hq : decide (IntKind.u32.wrap r ≤ 127) = false := by
   rcases hna with hn | hn
   ·rw [u32w_neg h0 hn]; simp; omega
   ·rw [u32w_pos (by omega) h1]; simp; omega
  clear hO hH
  go_enter Tryz.func97, Tryz.ntmps97
  go_wp2_with (go_at_call 116; refine k.mono ?_; rintro e w' ⟨z, rfl, hg⟩)
  go_ret
  exact ⟨z, rfl, hg⟩
 ·exact (own_ok (hints := hints) (prim := prim0) follows4 (fun _ _ hp => by cases hp) (f := 97) (t := 4) (hi := h97) (xs := #[y, .int .i32 r]) Tryz.func97 rfl Tryz.ntmps97 rfl c97 rfl rfl (by simp) (ev97 (by omega) (by omega) hl) (.inr rfl) rfl hH hO (args2 hO)).mono
   fun e w' ⟨z, c', he, k1, k2, k3, k4⟩ => ⟨z, he, c', k1, k2, k3, k4⟩
end
section
variable {m : List Nat} {c : Cl} {w : World} {h : Heap} {E : Entry}
theorem fresh3 {b : Nat} {w : World} (h0 : w.cell? ⟨b, 0, none⟩ = some (.pointer none)) (hsh : w.shape? b = some (51, 3)) (hfz : w.frozen? ⟨b, 0, none⟩ = false) :
  Calls Tryz.prog 58 #[.pointer (some ⟨b, 0, none⟩)] w fun e w' => e = .returned (.tuple #[]) ∧ w' = w.setCell ⟨b, 0, none⟩ (.pointer (some ⟨b, 0, none⟩)) := by
 obtain ⟨j, hj, hjs⟩ := Option.map_eq_some_iff.1 extra105.sizeBuilder
 go_enter Tryz.func58, Tryz.ntmps58
 go_wp2
 rw [Lib.run_to_unsafe w ⟨b, 0, none⟩ Tryz.underlying46 Tryz.underlying105 hj (by rw [hjs]; decide) hsh (Nat.zero_lt_succ 2)]
 simp only [Result.andThen]
 rw [Oper.upon_value]
 go_wp2
 rw [run_callFunc_extern Tryz.func86 (by kernel_rfl) (by kernel_rfl) (by kernel_rfl) (e := Extern.AbiNoEscape.same) (by kernel_rfl)]
 rw [Lib.run_noEscape]
 simp only [Result.andThen]
 rw [Oper.upon_value]
 go_wp2
 rw [Lib.run_from_unsafe w ⟨b, 0, none⟩ Tryz.underlying105 Tryz.underlying46 hj hsh (by kernel_rfl)]
 simp only [Result.andThen]
 rw [Oper.upon_value]
 go_wp2
 go_end0
 exact ⟨rfl, rfl⟩
theorem cc_inv (hI : InvP [] E m c w [] h act0) {i b : Nat} {p0 x : V} {r : List V} (hr1 : r.length ≤ 1) (hi : h[i]? = some (.cells (p0 :: x :: r))) (hm : m[i]? = some b) (hlo : E.lo ≤ i) (hp : okP i p0 = true) :
  ∃ w1, (Calls Tryz.prog 58 #[.pointer (some ⟨b, 0, none⟩)] w fun e w' => e = .returned (.tuple #[]) ∧ w' = w1) ∧ InvP [] E m c w1 [] (Lift.setOb h i (.ptr i 0 :: x :: r)) act0 := by
 obtain ⟨arr, e, f, hw, hle, hfr, hall, hbld⟩ := hok_cells hI.hok hi hm
 have hcs : cellsOfOb h i = some (p0 :: x :: r) := by unfold cellsOfOb; rw [hi]
 have hsz0 : 0 < arr.size := by simp at hle; omega
 obtain ⟨a0, ha0⟩ : ∃ a0, arr[0]? = some a0 := ⟨_, Array.getElem?_eq_getElem hsz0⟩
 have hr0 := hall 0 p0 a0 rfl ha0
 have hc0 : w.cell? ⟨b, 0, none⟩ = some a0 := by rw [cell_arr hw]; exact ha0
 unfold okP at hp
 split at hp
 ·have hx : a0 = .pointer none := hr0.1
  rw [hx] at hc0
  have k : Calls Tryz.prog 58 #[.pointer (some ⟨b, 0, none⟩)] w fun e w' => e = .returned (.tuple #[]) ∧ w' = w.setCell ⟨b, 0, none⟩ (.pointer (some ⟨b, 0, none⟩)) := by
   match r, hr1, hbld with
   | [], _, hbld =>
    obtain ⟨rfl, hsz⟩ := hbld 49 rfl rfl
    have hsh : w.shape? b = some (49, 2) := by simp [World.shape?, hw, hsz]
    exact Any.Builder_copyCheck_fresh (P := Tryz.prog) (ρ := Tryz.lays105_ren) { Tryz.lays105 with } extra105.toX72 b w hc0 hsh (hfr 0 (by simp))
   | [y], _, hbld =>
    obtain ⟨rfl, hsz⟩ := hbld 51 rfl rfl
    have hsh : w.shape? b = some (51, 3) := by simp [World.shape?, hw, hsz]
    exact fresh3 hc0 hsh (hfr 0 (by simp))
  obtain ⟨hI', _⟩ := store_cells (P := Tryz.prog) hI (off := 0) (vs := [.ptr i 0]) (ys := [.pointer (some ⟨b, 0, none⟩)]) 3 hcs hm hlo (by simp) ⟨rfl, fun j v y hv hy => by
    match j with
    | 0 => cases hv; cases hy; exact ⟨b, hm, rfl⟩
    | j + 1 => simp at hv⟩ (fun y hy => by simp at hy; subst hy; rfl) (fun j r y hv hy => by
    match j with
    | 0 => cases hv
    | j + 1 => simp at hv) (.inr (by simp; omega)) (fun t i j r => by simp [look]) (fun _ v hv => by simp at hv; subst hv; simp [okv, okc]) rfl
  exact ⟨_, k, hI'⟩
 ·rename_i j
  rw [beq_iff_eq] at hp
  subst hp
  obtain ⟨g, hg, hx⟩ := hr0.1
  rw [hm] at hg
  cases hg
  rw [hx] at hc0
  have k := Any.Builder_copyCheck_used (P := Tryz.prog) (ρ := Tryz.lays105_ren) { Tryz.lays105 with } extra105.toX72 b w hc0
  refine ⟨w, k, ?_⟩
  have e1 : Lift.setOb h j (.ptr j 0 :: x :: r) = h := by
   unfold Lift.setOb
   apply List.ext_getElem?
   intro n
   rw [List.getElem?_set]
   split
   ·rename_i hn
    subst hn
    rw [hi]
    simp
    exact (List.getElem?_eq_some_iff.1 hi).1
   ·rfl
  rw [e1]
  exact hI
 ·cases hp
end
theorem set_take {h : Heap} {i lo : Nat} {cs cs0 : List V} (hlo : lo ≤ i) (h0 : h[i]? = some (.cells cs0)) (hk : ∀ n, i < n → (∀ v ∈ cs0, okv n v = true) → ∀ v ∈ cs, okv n v = true) :
  (Lift.setOb h i cs).length = h.length ∧ (Lift.setOb h i cs).take lo = h.take lo ∧ Keeps h.length h (Lift.setOb h i cs) := by
 refine ⟨by unfold Lift.setOb; exact List.length_set, by unfold Lift.setOb; exact List.take_set_of_le hlo, fun n j cs' hj hjn hcs h1 => ?_⟩
 have hil : i < h.length := (List.getElem?_eq_some_iff.1 h0).1
 unfold cellsOfOb Lift.setOb at hcs
 by_cases hji : j = i
 ·subst hji
  rw [List.getElem?_set_self hil] at hcs
  cases hcs
  exact hk n hjn (h1 cs0 (by unfold cellsOfOb; rw [h0]))
 ·rw [List.getElem?_set_ne (fun e => hji e.symm)] at hcs
  exact h1 cs' hcs
theorem ok_ptr {n i o : Nat} (h : i < n) : okv n (.ptr i o) = true := by simp [okv, okc]; omega
theorem ptr_arg {m : List Nat} {c : Cl} {w : World} {i : Nat} {xs : Array Value} (h : R2 (VRr m c w) [.ptr i 0] xs.toList) : ∃ b, m[i]? = some b ∧ xs = #[.pointer (some ⟨b, 0, none⟩)] := by
 obtain ⟨l⟩ := xs
 match l, h.1 with
 | [x], _ =>
  obtain ⟨b, hb, rfl⟩ : ∃ g, m[i]? = some g ∧ x = .pointer (some ⟨g, 0, none⟩) := h.2 0 _ _ rfl rfl
  exact ⟨b, hb, rfl⟩
theorem ptr_arg2 {m : List Nat} {c : Cl} {w : World} {i : Nat} {a : Value} {xs : Array Value} (h : R2 (VRr m c w) [.ptr i 0, .v a] xs.toList) : ∃ b, m[i]? = some b ∧ xs = #[.pointer (some ⟨b, 0, none⟩), a] := by
 obtain ⟨l⟩ := xs
 match l, h.1 with
 | [x, y], _ =>
  obtain ⟨b, hb, rfl⟩ : ∃ g, m[i]? = some g ∧ x = .pointer (some ⟨g, 0, none⟩) := h.2 0 _ _ rfl rfl
  have hy : y = a := h.2 1 _ _ rfl rfl
  subst hy
  exact ⟨b, hb, rfl⟩
theorem cc_ok {lo i : Nat} {h : Heap} {p0 x : V} {r : List V} (hr1 : r.length ≤ 1) (hi : h[i]? = some (.cells (p0 :: x :: r))) (hlo : lo ≤ i) (hlh : lo ≤ h.length) (hp : okP i p0 = true) :
  CallOK0 Tryz.prog lo 58 [.ptr i 0] h (.tup []) (Lift.setOb h i (.ptr i 0 :: x :: r)) := by
 refine ⟨rfl, enters_of Tryz.func58 (by kernel_rfl) rfl, fun m c w xs hH ha => ⟨set_take hlo hi (fun n hn hv v hm => by
  rcases List.mem_cons.1 hm with rfl | hm
  ·exact ok_ptr hn
  ·exact hv v (List.mem_cons.2 (.inr hm))), ?_⟩⟩
 obtain ⟨b, hm, rfl⟩ := ptr_arg ha
 obtain ⟨w1, hk, hI⟩ := cc_inv (inv0 hH hlh) hr1 hi hm hlo hp
 refine hk.mono fun e w' ⟨he, hw⟩ => ?_
 subst hw
 obtain ⟨_, k1, k2, k3⟩ := done0 hH.1.len hI
 exact ⟨_, c, he, ⟨#[], rfl, R2.nil⟩, k1, k2, k3⟩
theorem walk77 {b : Nat} {r : Int} {w w1 : World} {ao : Option Addr} {n cap : Nat} {Q : Value → World → Prop}
  (hcc : Calls Tryz.prog 58 #[.pointer (some ⟨b, 0, none⟩)] w fun e w' => e = .returned (.tuple #[]) ∧ w' = w1)
  (c1 : w1.cell? ⟨b, 1, none⟩ = some (.slice ao n cap))
  (hr : Calls Tryz.prog 97 #[.slice ao n cap, .int .i32 r] w1 fun e w' => ∃ z, e = .returned z ∧ Q z w')
  (hq : ∀ z w', Q z w' → w'.cell? ⟨b, 1, none⟩ = some (.slice ao n cap) ∧ w'.frozen? ⟨b, 1, none⟩ = false ∧ ∃ zo k zc, z = .slice zo k zc) :
  Calls Tryz.prog 77 #[.pointer (some ⟨b, 0, none⟩), .int .i32 r] w fun e w' => ∃ zo k zc w2, Q (.slice zo k zc) w2 ∧ e = .returned (.tuple #[.int .i64 (wrap64 ((k : Int) - (n : Int))), .nilIface]) ∧ w' = w2.setCell ⟨b, 1, none⟩ (.slice zo k zc) := by
 go_enter Tryz.func77, Tryz.ntmps77
 go_wp2_with (go_at_call 58; refine hcc.mono ?_; rintro e w' ⟨rfl, rfl⟩)
 go_wp2_with (go_at_call 97; refine hr.mono ?_; rintro e w2 ⟨z, rfl, hz⟩; obtain ⟨d1, f1, zo, k, zc, rfl⟩ := hq _ _ hz)
 go_ret2
 exact ⟨zo, k, zc, _, hz, rfl, rfl⟩
theorem vp_slice {c : Cl} {w : World} {k : Own} {rows : List (List V)} {x : Value} (h : VP c w (.list k rows) x) : ∃ ao cap, x = .slice ao rows.length cap := by
 cases h with
 | empty => exact ⟨_, _, rfl⟩
 | list => exact ⟨_, _, rfl⟩
theorem cells_setOb {h : Heap} {i : Nat} {cs : List V} (hi : i < h.length) : cellsOfOb (Lift.setOb h i cs) i = some cs := by
 unfold cellsOfOb Lift.setOb
 rw [List.getElem?_set_self hi]
theorem setOb_setOb {h : Heap} {i : Nat} {cs ds : List V} : Lift.setOb (Lift.setOb h i cs) i ds = Lift.setOb h i ds := by
 unfold Lift.setOb
 rw [List.set_set]
theorem wr_ok {lo i : Nat} {h : Heap} {p0 : V} {out : List Int} {r : Int} (hi : h[i]? = some (.cells [p0, .list .yes (ri .u8 out)])) (hlo : lo ≤ i) (hlh : lo ≤ h.length) (hp : okP i p0 = true)
  (h0 : -2147483648 ≤ r) (h1 : r ≤ 2147483647) (hl : out.length ≤ 1000000000) :
  CallOK0 Tryz.prog lo 77 [.ptr i 0, .v (.int .i32 r)] h (.tup [.v (.int .i64 ((enc (scal r)).length : Nat)), .v .nilIface]) (Lift.setOb h i [.ptr i 0, .list .yes (ri .u8 (out ++ enc (scal r)))]) := by
 refine ⟨rfl, enters_of Tryz.func77 (by kernel_rfl) rfl, fun m c w xs hH ha => ⟨set_take hlo hi (fun n hn hv v hm => by
  rcases List.mem_cons.1 hm with rfl | hm
  ·exact ok_ptr hn
  ·obtain rfl : v = _ := by simpa using hm
   rfl), ?_⟩⟩
 obtain ⟨b, hm, rfl⟩ := ptr_arg2 ha
 have hil : i < h.length := (List.getElem?_eq_some_iff.1 hi).1
 obtain ⟨w1, hcc, hI1⟩ := cc_inv (inv0 hH hlh) (r := []) (by simp) hi hm hlo hp
 have hcs1 := cells_setOb (cs := [.ptr i 0, .list .yes (ri .u8 out)]) hil
 have hi1 : (Lift.setOb h i [.ptr i 0, .list .yes (ri .u8 out)])[i]? = some (.cells [.ptr i 0, .list .yes (ri .u8 out)]) := by
  unfold Lift.setOb
  rw [List.getElem?_set_self hil]
 obtain ⟨y, hat, hI2, hO⟩ := set_obj_flag hI1 hcs1 (j := 1) rfl hlo
 obtain ⟨arr, e0, f0, hw0, hle0, hfr0, _, _⟩ := hok_cells hI1.hok hi1 hm
 have hc1 : w1.cell? ⟨b, 1, none⟩ = some y := by
  obtain ⟨cs, b', k1, k2, k3, k4⟩ := hat
  rw [hm] at k3
  cases k3
  exact k4
 have hy := hO.1
 obtain ⟨ao, cap, rfl⟩ := vp_slice hy
 have hOH : OwnsH m c w1 (Lift.setOb (Lift.setOb h i [.ptr i 0, .list .yes (ri .u8 out)]) i (([.ptr i 0, .list .yes (ri .u8 out)] : List V).set 1 (.list .no (ri .u8 out)))) (ri .u8 out) (.slice ao (ri .u8 out).length cap) := ⟨hO.1, hO.2.1, hO.2.2.1⟩
 have hrune := rune_ok h0 h1 hl hI2.hok hOH
 have hbl : b < w1.heap.size := (Array.getElem?_eq_some_iff.1 hw0).1
 have hq : ∀ z w', Grown m c w1 (Lift.setOb (Lift.setOb h i [.ptr i 0, .list .yes (ri .u8 out)]) i (([.ptr i 0, .list .yes (ri .u8 out)] : List V).set 1 (.list .no (ri .u8 out)))) (.slice ao (ri .u8 out).length cap) (out ++ enc (scal r)) z w' →
   w'.cell? ⟨b, 1, none⟩ = some (.slice ao (ri .u8 out).length cap) ∧ w'.frozen? ⟨b, 1, none⟩ = false ∧ ∃ zo k zc, z = .slice zo k zc := fun z w' ⟨c', g1, g2, g3, g4⟩ => by
  have hbb := (g3.2.2.2.2.2 b hbl (fun e => (hO.2.1.lt e).2 (List.mem_of_getElem? hm))).1
  obtain ⟨zo, zc, rfl⟩ := vp_slice g2.1
  exact ⟨by rw [cell_of_heap hbb]; exact hc1, by rw [frozen_of_heap hbb]; exact hfr0 1 (by simp), _, _, _, rfl⟩
 refine (walk77 hcc hc1 hrune hq).mono fun e w' ⟨zo, k, zc, w2, ⟨c', g1, g2, g3, g4⟩, he, hw'⟩ => ?_
 subst hw'
 have hI3 := own_step hI2 hO.2.1 hO.2.2.2 g1 g3
 have hk : k = (ri .u8 (out ++ enc (scal r))).length := by
  obtain ⟨zo', zc', hz⟩ := vp_slice g2.1
  injection hz
 have hcs2 := cells_setOb (h := Lift.setOb h i [.ptr i 0, .list .yes (ri .u8 out)]) (cs := ([.ptr i 0, .list .yes (ri .u8 out)] : List V).set 1 (.list .no (ri .u8 out))) (i := i) (by unfold Lift.setOb; simpa using hil)
 have hsz1 : w.heap.size ≤ w1.heap.size := hI1.fr.size
 obtain ⟨hI4, _⟩ := store_cells (P := Tryz.prog) hI3 (off := 1) (vs := [.list .yes (ri .u8 (out ++ enc (scal r)))]) (ys := [.slice zo k zc]) 1 hcs2 hm hlo (by simp) ⟨rfl, fun j v y hv hy => by
   match j with
   | 0 => cases hv; cases hy; exact VR1_of_VP g2.1
   | j + 1 => simp at hv⟩ (fun y hy => by simp at hy; subst hy; rfl) (fun j r' y hv hy => by
   match j with
   | 0 =>
    cases hv; cases hy
    refine .inr ⟨rfl, g2.2.1, g2.2.2, fun bb hbb => ?_⟩
    rcases g4 bb hbb with h' | h'
    ·exact .inl (Nat.le_trans hsz1 h')
    ·exact hO.2.2.2 bb h'
   | j + 1 => simp at hv) (.inl ⟨Nat.le_refl _, by simp⟩) (fun t i j r => by simp [look]) (fun _ v hv => by simp at hv; subst hv; rfl) rfl
 obtain ⟨_, q1, q2, q3⟩ := done0 hH.1.len hI4
 have hheap : Lift.setOb (Lift.setOb (Lift.setOb h i [.ptr i 0, .list .yes (ri .u8 out)]) i (([.ptr i 0, .list .yes (ri .u8 out)] : List V).set 1 (.list .no (ri .u8 out)))) i (List.take 1 (([.ptr i 0, .list .yes (ri .u8 out)] : List V).set 1 (.list .no (ri .u8 out))) ++ [.list .yes (ri .u8 (out ++ enc (scal r)))] ++ List.drop (1 + ([.list .yes (ri .u8 (out ++ enc (scal r)))] : List V).length) (([.ptr i 0, .list .yes (ri .u8 out)] : List V).set 1 (.list .no (ri .u8 out)))) =
   Lift.setOb h i [.ptr i 0, .list .yes (ri .u8 (out ++ enc (scal r)))] := by
  rw [setOb_setOb, setOb_setOb]
  rfl
 rw [hheap] at q1 q3
 refine ⟨_, c', he, ⟨_, rfl, ?_⟩, q1, q2, q3⟩
 have hlen : wrap64 ((k : Int) - ((ri .u8 out).length : Int)) = ((enc (scal r)).length : Int) := by
  have he4 : (enc (scal r)).length ≤ 4 := by
   unfold enc
   split
   ·simp
   ·split
    ·simp
    ·split <;> simp
  have e1 : ∀ l : List Int, (ri .u8 l).length = l.length := fun l => by simp [ri]
  rw [hk, e1, e1, List.length_append]
  unfold wrap64
  omega
 rw [hlen]
 refine ⟨rfl, fun j v y hv hy => ?_⟩
 match j with
 | 0 => cases hv; cases hy; rfl
 | 1 => cases hv; cases hy; rfl
 | j + 2 => simp at hv
end Go.Lift.P7
end

section
open Go.Proofs
namespace Go.Lift.P7
variable [MX]
open Utf Go.RowKit
set_option maxRecDepth 100000
set_option maxHeartbeats 4000000
theorem cell_drew {w : World} {a : Addr} {x : Value} (h : w.cell? a = some x) : w.drew.cell? a = some x := h
theorem walk31a {b : Nat} {w : World} (c1 : w.cell? ⟨b, 1, none⟩ = some (.slice none 0 0)) :
  Calls Tryz.prog 31 #[.pointer (some ⟨b, 0, none⟩)] w fun e w' => e = .returned (.string ⟨#[]⟩) ∧ w' = w.drew := by
 have hUS : ∀ W q, (Builtin.unsafeString_ #[85, 3] 9 #[.pointer q, .int .i64 0]).run Tryz.prog W = .ok (.string .empty) W := fun W q => Any.unsafeString_none (P := Tryz.prog) (ρ := Tryz.lays105_ren) { Tryz.lays105 with } extra105 W q
 have mixed := follows4
 have c1 := cell_drew c1
 have hSD : (Builtin.unsafeSliceData_ #[47] 85 #[.slice none 0 0]).run Tryz.prog w.drew = .ok (.pointer none) w.drew := rfl
 go_enter Tryz.func31, Tryz.ntmps31
 go_wp2
 go_region_o
 all_goals (go_wp2; go_ret; exact ⟨rfl, rfl⟩)
theorem walk31c {b g cap : Nat} {l : List UInt8} {cur : Array Value} {w : World} (c1 : w.cell? ⟨b, 1, none⟩ = some (.slice (some ⟨g, 0, none⟩) l.length cap)) (hg : w.heap[g]? = some (.cells cur 5 (0, 0))) (h0 : l ≠ []) (hcap : cap ≠ 0) (hle : l.length ≤ cur.size)
  (h63 : l.length ≤ 9223372036854775807) (hcell : ∀ j x, l[j]? = some x → w.cell? ⟨g, j, none⟩ = some (.int .u8 x.toNat)) :
  Calls Tryz.prog 31 #[.pointer (some ⟨b, 0, none⟩)] w fun e w' => e = .returned (.string ⟨l.toArray⟩) ∧ w' = w.drew.freeze ⟨g, 0, none⟩ l.length := by
 have c1 := cell_drew c1
 have hSD : (Builtin.unsafeSliceData_ #[47] 85 #[.slice (some ⟨g, 0, none⟩) l.length cap]).run Tryz.prog w.drew = .ok (.pointer (some ⟨g, 0, none⟩)) w.drew :=
  Lib.run_unsafeSliceData_row _ _ _ _ _ _ hcap
 have mixed := follows4
 have hUS : (Builtin.unsafeString_ #[85, 3] 9 #[.pointer (some ⟨g, 0, none⟩), .int .i64 l.length]).run Tryz.prog w.drew = .ok (.string ⟨l.toArray⟩) (w.drew.freeze ⟨g, 0, none⟩ l.length) := by
  refine Lib.run_unsafeString_row w.drew 85 3 9 5 Tryz.underlying85 (by kernel_rfl) g cur.size (by have hg' : w.drew.heap[g]? = some (.cells cur 5 (0, 0)) := hg; simp [World.shape?, hg']) l h0 hle h63 ?_
  intro j x hx
  have := hcell j x hx
  rw [Lib.add_plain, Nat.zero_add]
  exact cell_drew this
 go_enter Tryz.func31, Tryz.ntmps31
 go_wp2
 go_region_o
 all_goals (go_wp2; go_ret; exact ⟨rfl, rfl⟩)
theorem walk31b {b g : Nat} {cur : Array Value} {e0 : TypeId} {f0 : Nat × Nat} {w : World} (hb : b < w.heap.size) (c1 : w.cell? ⟨b, 1, none⟩ = some (.slice (some ⟨g, 0, none⟩) 0 0)) (hg : w.heap[g]? = some (.cells cur e0 f0)) :
  Calls Tryz.prog 31 #[.pointer (some ⟨b, 0, none⟩)] w fun e w' => e = .returned (.string ⟨#[]⟩) ∧ Below w.heap.size w w' := by
 have hUS : ∀ W q, (Builtin.unsafeString_ #[85, 3] 9 #[.pointer q, .int .i64 0]).run Tryz.prog W = .ok (.string .empty) W := fun W q => Any.unsafeString_none (P := Tryz.prog) (ρ := Tryz.lays105_ren) { Tryz.lays105 with } extra105 W q
 have mixed := follows4
 have c2 : (w.drew.alloc (.view ⟨g, 0, none⟩ 5)).cell? ⟨b, 1, none⟩ = some (.slice (some ⟨g, 0, none⟩) 0 0) := by
  rw [cell_of_heap (w := w.drew) (Lib.alloc_old w.drew _ b hb)]
  exact cell_drew c1
 have c1 := cell_drew c1
 have hSD : (Builtin.unsafeSliceData_ #[47] 85 #[.slice (some ⟨g, 0, none⟩) 0 0]).run Tryz.prog w.drew = .ok (.pointer (some ⟨w.drew.heap.size, 0, none⟩)) (w.drew.alloc (.view ⟨g, 0, none⟩ 5)) :=
  Lib.run_unsafeSliceData_zero w.drew _ _ 5 Tryz.underlying85 ⟨g, 0, none⟩ 0 (e0, cur.size) (by have hg' : w.drew.heap[g]? = some (.cells cur e0 f0) := hg; simp [World.shape?, hg'])
 go_enter Tryz.func31, Tryz.ntmps31
 go_wp2
 go_region_o
 all_goals (go_wp2; go_ret; exact ⟨rfl, (Below.drew (Below.refl w.heap.size w)).alloc (Nat.le_refl _) _⟩)
theorem freeze_heap {w : World} {g n : Nat} {cur : Array Value} {e : TypeId} {f : Nat × Nat} (hg : w.heap[g]? = some (.cells cur e f)) :
  (w.freeze ⟨g, 0, none⟩ n).heap.size = w.heap.size ∧ (∀ k, k ≠ g → (w.freeze ⟨g, 0, none⟩ n).heap[k]? = w.heap[k]?) ∧ (∃ f', (w.freeze ⟨g, 0, none⟩ n).heap[g]? = some (.cells cur e f')) ∧
   (w.freeze ⟨g, 0, none⟩ n).os = w.os ∧ (w.freeze ⟨g, 0, none⟩ n).tape = w.tape ∧ (w.freeze ⟨g, 0, none⟩ n).output = w.output := by
 unfold World.freeze
 split
 ·exact ⟨rfl, fun _ _ => rfl, ⟨f, hg⟩, rfl, rfl, rfl⟩
 ·refine ⟨by simp, fun k hk => ?_, ?_, rfl, rfl, rfl⟩
  ·simp only [Array.getElem?_modify]
   rw [if_neg (Ne.symm hk)]
  ·simp only [Array.getElem?_modify, if_true, hg, Option.map_some]
   obtain ⟨f1, f2⟩ := f
   exact ⟨_, rfl⟩
theorem str_ok {lo i : Nat} {h : Heap} {p0 : V} {out : List Int} {r : List V} (hi : h[i]? = some (.cells (p0 :: .list .yes (ri .u8 out) :: r))) (hlo : lo ≤ i) (hlh : lo ≤ h.length) (hby : By out) (hl : out.length ≤ 1000000000) :
  CallOK0 Tryz.prog lo 31 [.ptr i 0] h (.v (.string ⟨(u8s out).toArray⟩)) (Lift.setOb h i (p0 :: .list .no (ri .u8 out) :: r)) := by
 refine ⟨rfl, enters_of Tryz.func31 (by kernel_rfl) rfl, fun m c w xs hH ha => ⟨set_take hlo hi (fun n hn hv v hm => by
  rcases List.mem_cons.1 hm with rfl | hm
  ·exact hv v (by simp)
  ·rcases List.mem_cons.1 hm with rfl | hm
   ·rfl
   ·exact hv v (by simp [hm])), ?_⟩⟩
 obtain ⟨b, hm, rfl⟩ := ptr_arg ha
 have hcs : cellsOfOb h i = some (p0 :: .list .yes (ri .u8 out) :: r) := by unfold cellsOfOb; rw [hi]
 obtain ⟨y, hat, hI2, hO⟩ := set_obj_flag (inv0 hH hlh) hcs (j := 1) rfl hlo
 have hc1 : w.cell? ⟨b, 1, none⟩ = some y := by
  obtain ⟨cs, b', k1, k2, k3, k4⟩ := hat
  rw [hm] at k3
  cases k3
  exact k4
 have hbs : b < w.heap.size := hH.1.m_lt hm
 have fin : ∀ w', InvP [] ⟨lo, h.length, w, m, c, hoOf m w h lo, h, 0⟩ m c w' (Lift.untag []) (Lift.setOb h i ((p0 :: .list .yes (ri .u8 out) :: r : List V).set 1 (.list .no (ri .u8 out)))) act0 → ∀ s : ByteArray, s = ⟨(u8s out).toArray⟩ →
   ∃ x c', Ending.returned (.string s) = .returned x ∧ VRr m c' w' (.v (.string ⟨(u8s out).toArray⟩)) x ∧ HOK m c' w' (Lift.setOb h i (p0 :: .list .no (ri .u8 out) :: r)) ∧ Fr lo (hoOf m w h lo) w m c w' m c' ∧ Owned lo (hoOf m w h lo) w m w' [] (Lift.setOb h i (p0 :: .list .no (ri .u8 out) :: r)) act0 := fun w' hI s hs => by
  obtain ⟨_, q1, q2, q3⟩ := done0 hH.1.len hI
  subst hs
  exact ⟨_, c, rfl, rfl, q1, q2, q3⟩
 rcases hO.2.1 with ⟨rfl, hr0⟩ | ⟨g, cap, cur, e, sz, rfl, k1, k2, k3, k4, k5, k6, k7, k8, k9, k10⟩
 ·have ho : out = [] := by cases out with
   | nil => rfl
   | cons x t => cases hr0
  subst ho
  refine (walk31a hc1).mono fun e w' ⟨he, hw⟩ => ?_
  subst he hw
  exact fin _ (hI2.grown (w' := w.drew) none (Nat.le_refl _) (fun _ _ _ => ⟨rfl, rfl⟩) (fun _ hb => by cases hb) (fun k hk _ h0 => absurd h0 (by rw [hI2.core.c_zero hk]; omega)) rfl rfl rfl) _ rfl
 ·by_cases ho : out = []
  ·subst ho
   obtain rfl := k9 rfl
   refine (walk31b hbs hc1 k1).mono fun e w' ⟨he, hw⟩ => ?_
   subst he
   exact fin _ (hI2.grown (w' := w') none hw.size (fun k hk _ => ⟨hw.block k hk, rfl⟩) (fun _ hb => by cases hb) (fun k hk _ h0 => absurd h0 (by rw [hI2.core.c_zero hk]; omega)) hw.os hw.tape hw.output) _ rfl
  ·have hlen : (ri .u8 out).length = out.length := by simp [ri]
   obtain rfl : e = 5 := k10 5 rfl (by cases out with
    | nil => exact absurd rfl ho
    | cons x t => rfl)
   have hsz : sz = 1 := by cases out with
    | nil => exact absurd rfl ho
    | cons x t => exact (k6 [.v (.int .u8 x)] (by simp [ri])).symm
   subst hsz
   have hul : (u8s out).length = out.length := by simp [u8s]
   have hc1' : w.cell? ⟨b, 1, none⟩ = some (.slice (some ⟨g, 0, none⟩) (u8s out).length cap) := by rw [hul, ← hlen]; exact hc1
   have hpos : 0 < out.length := List.length_pos_iff.2 ho
   refine (walk31c hc1' k1 (fun h0 => by rw [h0] at hul; simp at hul; omega) (by omega) (by rw [hul]; omega) (by omega) (fun j x hx => ?_)).mono fun e w' ⟨he, hw⟩ => ?_
   ·simp only [u8s, List.getElem?_map, Option.map_eq_some_iff] at hx
    obtain ⟨z, hz, rfl⟩ := hx
    have hrow : (ri .u8 out)[j]? = some [.v (.int .u8 z)] := by simp [ri, hz]
    obtain ⟨x', hx', hv⟩ := own_cells hO.1 rfl k1 k6 j 0 _ _ hrow rfl
    have hxz : x' = .int .u8 z := VP.v_eq hv
    subst hxz
    have hj : j < out.length := (List.getElem?_eq_some_iff.1 hz).1
    rw [cell_arr k1]
    have hz2 := hby z (List.mem_of_getElem? hz)
    have e1 : ((UInt8.ofNat z.toNat).toNat : Int) = z := by simp only [UInt8.toNat_ofNat']; omega
    rw [e1]
    simpa using hx'
   ·subst he hw
    obtain ⟨f1, f2, ⟨ff, f3⟩, f4, f5, f6⟩ := freeze_heap (w := w.drew) (g := g) (n := (u8s out).length) (show w.drew.heap[g]? = _ from k1)
    refine fin _ (hI2.grown (w' := w.drew.freeze ⟨g, 0, none⟩ (u8s out).length) (some g) (by rw [f1]; exact Nat.le_refl _) (fun k hk hne => ⟨f2 k (fun e => hne (by rw [e])), rfl⟩) (fun k hk => ?_) (fun k hk _ h0 => absurd h0 (by rw [hI2.core.c_zero hk]; omega)) f4 f5 f6) _ rfl
    cases hk
    refine ⟨k8, fun l r x hl => fun hx => hO.2.2.1 l r x g hl rfl hx, hO.2.2.2 g rfl, Nat.le_refl _, fun o ho => ?_, ⟨cur, 5, ff, f3, ?_⟩, fun h0 => ?_⟩
    ·rw [cell_arr f3, cell_arr k1]
    ·rw [k7, k4]; exact Nat.mul_le_mul_right _ k2
    ·exfalso
     rw [k7] at h0
     rw [hlen] at h0
     omega
end Go.Lift.P7
end
