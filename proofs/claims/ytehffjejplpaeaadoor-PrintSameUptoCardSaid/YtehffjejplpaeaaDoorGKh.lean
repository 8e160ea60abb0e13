/- print.may: rules may be written. -/
import Derived.Test.YtehffjejplpaeaaDoorGKg
set_option linter.unusedVariables false
set_option linter.unusedSimpArgs false
set_option linter.unusedSectionVars false
section
open Go.Proofs
namespace Go.Lift.D7
variable [MX]
open Utf Tok Spell
set_option maxRecDepth 20000
set_option maxHeartbeats 20000000
variable {lo : Nat} {h : Heap}
def mediaT : List Int := [109, 101, 100, 105, 97]
def suppT : List Int := [115, 117, 112, 112, 111, 114, 116, 115]
def contT : List Int := [99, 111, 110, 116, 97, 105, 110, 101, 114]
theorem bs_media : (⟨#[109, 101, 100, 105, 97]⟩ : ByteArray) = bs mediaT := rfl
theorem bs_supp : (⟨#[115, 117, 112, 112, 111, 114, 116, 115]⟩ : ByteArray) = bs suppT := rfl
theorem bs_cont : (⟨#[99, 111, 110, 116, 97, 105, 110, 101, 114]⟩ : ByteArray) = bs contT := rfl
theorem by_media : By mediaT := by intro c hc; unfold mediaT at hc; simp at hc; omega
theorem by_supp : By suppT := by intro c hc; unfold suppT at hc; simp at hc; omega
theorem by_cont : By contT := by intro c hc; unfold contT at hc; simp at hc; omega
theorem isGroup_eq (n : List Int) : Rul.isGroup n = (n == mediaT || n == suppT || n == contT) := rfl
theorem len_zero {α : Type} (l : List α) : (((l.length : Nat) : Int) == 0) = l.isEmpty := by
 cases l with
 | nil => rfl
 | cons a l => simp; omega
theorem nil_empty {n : List Int} : decide (n = []) = n.isEmpty := by cases n <;> simp
abbrev N23 (l : List Rul.Ru) (dep : Nat) (k : Int) : Env := [(1, .v (.int .i64 dep)), (8, .list .no (Rul.rusC l)), (9, .v (.int .i64 l.length)), (10, .v (.int .i64 k))]
theorem round13 {l : List Rul.Ru} {kd : Int} {n : List Int} {p : List Rul.CV} {ds : List Rul.Dc} {rs : List Rul.Ru} {k dep : Nat} (hlo : lo ≤ h.length) (hl : l.length ≤ 1000000000) (hg : l[k]? = some (.mk kd n p ds rs)) (hok : OkR (.mk kd n p ds rs))
  (ih : dep ≤ 64 → ∀ lo h, lo ≤ h.length → E lo 13 [.list .no (Rul.rusC rs), .v (.int .i64 ((dep + 1 : Nat) : Int))] h = some (.v (.bool (mayRs (dep + 1) rs)), h)) :
  evCode ⟨Tryd.prog, E, lo, h.length, h13⟩ loopW l13x0 (N23 l dep k, h) = if mayRu dep (.mk kd n p ds rs) = true then some (.normal, N23 l dep (k + 1 : Nat), h) else some (.ret, [(4, .v (.bool false))], h ++ [.cells (Rul.ruV (.mk kd n p ds rs))]) := by
 have hlt : k < l.length := (List.getElem?_eq_some_iff.1 hg).1
 have hgr : (Rul.rusC l)[k]? = some (Rul.ruV (.mk kd n p ds rs)) := by rw [Rul.rusC_map, List.getElem?_map, hg]; rfl
 have q : decide ((k : Int) < (l.length : Int)) = true := by simp; omega
 have hw : IntKind.i64.wrap ((k : Int) + 1) = ((k + 1 : Nat) : Int) := wrap_succ (by omega)
 have hlo' : lo ≤ h.length + 1 := by omega
 rw [okR_eq] at hok
 obtain ⟨hy, hnl, hp, hdl, hds, hrl, hrs⟩ := hok
 have c13 := fun lo hlo => f18 (lo := lo) (h := h ++ [.cells (Rul.ruV (.mk kd n p ds rs))]) (l := p) hlo hp.hn hp.hok
 have c13a := c13 lo (by simp; omega); have c13b := c13 h.length (by simp); have c13c := c13 (h.length + 1) (by simp)
 have c19 := fun lo hlo => f16 (lo := lo) (h := h ++ [.cells (Rul.ruV (.mk kd n p ds rs))]) (l := ds) hlo hdl hds
 have c19a := c19 lo (by simp; omega); have c19b := c19 h.length (by simp); have c19c := c19 (h.length + 1) (by simp)
 clear c13 c19
 have c23 := fun hd lo hlo => ih hd lo (h ++ [.cells (Rul.ruV (.mk kd n p ds rs))]) hlo
 have ed : Rul.ruV (.mk kd n p ds rs) = [.v (.int .i64 kd), .v (.string (bs n)), .list .no (Rul.rowsC p), .list .no (ds.map Rul.declC), .list .no (Rul.rusC rs)] := by rw [Rul.ruV]; rfl
 have t1 := (bs_nil_eq' n).trans nil_empty
 have r0 := len_zero rs
 have d0 := len_zero ds
 have b1 := bs_beq hy by_media
 have b2 := bs_beq hy by_supp
 have b3 := bs_beq hy by_cont
 rw [ed] at hgr c13a c13b c13c c19a c19b c19c ⊢
 simp only [ed] at c23
 rw [mayRu_eq]
 by_cases hd : dep ≤ 64
 ·have ih := ih hd
  have q64 : decide ((64 : Int) < (dep : Int)) = false := by simp; omega
  rw [decide_eq_true hd, Bool.true_and]
  cases hf : fineL p with
  | false =>
   rw [Bool.false_and, if_neg (by simp)]
   rw [hf] at c13a c13b c13c
   simp only [go_sem, l13x0, b13, Tryd.f13, hlo, hlo', q, hgr, hw, q64, c13a, c13b, c13c, List.length_map, Rul.rusC_len]
   all_goals rfl
  | true =>
   rw [Bool.true_and]
   rw [hf] at c13a c13b c13c
   by_cases h1 : kd = 1
   ·have kq : (kd == 1) = true := by simpa using h1
    rw [if_pos h1]
    cases hn : n.isEmpty with
    | false =>
     rw [hn] at t1
     rw [Bool.false_and, if_neg (by simp)]
     simp only [go_sem, l13x0, b13, Tryd.f13, hlo, hlo', q, hgr, hw, q64, c13a, c13b, c13c, List.length_map, Rul.rusC_len, kq, t1]
     all_goals rfl
    | true =>
     rw [hn] at t1
     rw [Bool.true_and]
     cases hr : rs.isEmpty with
     | false =>
      rw [hr] at r0
      rw [Bool.false_and, if_neg (by simp)]
      simp only [go_sem, l13x0, b13, Tryd.f13, hlo, hlo', q, hgr, hw, q64, c13a, c13b, c13c, List.length_map, Rul.rusC_len, kq, t1, r0]
      all_goals rfl
     | true =>
      rw [hr] at r0
      rw [Bool.true_and]
      cases ha : ds.all claimT with
      | false =>
       rw [ha] at c19a c19b c19c
       rw [if_neg (by simp)]
       simp only [go_sem, l13x0, b13, Tryd.f13, hlo, hlo', q, hgr, hw, q64, c13a, c13b, c13c, List.length_map, Rul.rusC_len, kq, t1, r0, c19a, c19b, c19c]
       all_goals rfl
      | true =>
       rw [ha] at c19a c19b c19c
       rw [if_pos (by simp)]
       simp only [go_sem, l13x0, b13, Tryd.f13, hlo, hlo', q, hgr, hw, q64, c13a, c13b, c13c, List.length_map, Rul.rusC_len, kq, t1, r0, c19a, c19b, c19c]
       all_goals rfl
   ·have k1 : (kd == 1) = false := by simpa using h1
    rw [if_neg h1]
    by_cases h2 : kd = 2
    ·have kq : (kd == 2) = true := by simpa using h2
     rw [if_pos h2, isGroup_eq]
     have hwd : IntKind.i64.wrap ((dep : Int) + 1) = ((dep + 1 : Nat) : Int) := wrap_succ (by omega)
     have c23a := c23 hd lo (by simp; omega); have c23b := c23 hd h.length (by simp); have c23c := c23 hd (h.length + 1) (by simp)
     cases g1 : n == mediaT with
     | true =>
      rw [g1] at b1
      rw [Bool.true_or, Bool.true_or, Bool.true_and]
      cases he : ds.isEmpty with
      | false =>
       rw [he] at d0
       rw [Bool.false_and, if_neg (by simp)]
       simp only [go_sem, l13x0, b13, Tryd.f13, hlo, hlo', q, hgr, hw, q64, c13a, c13b, c13c, List.length_map, Rul.rusC_len, kq, k1, bs_media, bs_supp, bs_cont, d0, b1]
       all_goals rfl
      | true =>
       rw [he] at d0
       rw [Bool.true_and]
       cases hm : mayRs (dep + 1) rs with
       | false =>
        rw [hm] at c23a c23b c23c
        rw [if_neg (by simp)]
        simp only [go_sem, l13x0, b13, Tryd.f13, hlo, hlo', q, hgr, hw, q64, c13a, c13b, c13c, List.length_map, Rul.rusC_len, kq, k1, bs_media, bs_supp, bs_cont, d0, b1, hwd, c23a, c23b, c23c]
        all_goals rfl
       | true =>
        rw [hm] at c23a c23b c23c
        rw [if_pos (by simp)]
        simp only [go_sem, l13x0, b13, Tryd.f13, hlo, hlo', q, hgr, hw, q64, c13a, c13b, c13c, List.length_map, Rul.rusC_len, kq, k1, bs_media, bs_supp, bs_cont, d0, b1, hwd, c23a, c23b, c23c]
        all_goals rfl
     | false =>
      rw [g1] at b1
      cases g2 : n == suppT with
      | true =>
       rw [g2] at b2
       rw [Bool.false_or, Bool.true_or, Bool.true_and]
       cases he : ds.isEmpty with
       | false =>
        rw [he] at d0
        rw [Bool.false_and, if_neg (by simp)]
        simp only [go_sem, l13x0, b13, Tryd.f13, hlo, hlo', q, hgr, hw, q64, c13a, c13b, c13c, List.length_map, Rul.rusC_len, kq, k1, bs_media, bs_supp, bs_cont, d0, b1, b2]
        all_goals rfl
       | true =>
        rw [he] at d0
        rw [Bool.true_and]
        cases hm : mayRs (dep + 1) rs with
        | false =>
         rw [hm] at c23a c23b c23c
         rw [if_neg (by simp)]
         simp only [go_sem, l13x0, b13, Tryd.f13, hlo, hlo', q, hgr, hw, q64, c13a, c13b, c13c, List.length_map, Rul.rusC_len, kq, k1, bs_media, bs_supp, bs_cont, d0, b1, b2, hwd, c23a, c23b, c23c]
         all_goals rfl
        | true =>
         rw [hm] at c23a c23b c23c
         rw [if_pos (by simp)]
         simp only [go_sem, l13x0, b13, Tryd.f13, hlo, hlo', q, hgr, hw, q64, c13a, c13b, c13c, List.length_map, Rul.rusC_len, kq, k1, bs_media, bs_supp, bs_cont, d0, b1, b2, hwd, c23a, c23b, c23c]
         all_goals rfl
      | false =>
       rw [g2] at b2
       cases g3 : n == contT with
       | true =>
        rw [g3] at b3
        rw [Bool.false_or, Bool.false_or, Bool.true_and]
        cases he : ds.isEmpty with
        | false =>
         rw [he] at d0
         rw [Bool.false_and, if_neg (by simp)]
         simp only [go_sem, l13x0, b13, Tryd.f13, hlo, hlo', q, hgr, hw, q64, c13a, c13b, c13c, List.length_map, Rul.rusC_len, kq, k1, bs_media, bs_supp, bs_cont, d0, b1, b2, b3]
         all_goals rfl
        | true =>
         rw [he] at d0
         rw [Bool.true_and]
         cases hm : mayRs (dep + 1) rs with
         | false =>
          rw [hm] at c23a c23b c23c
          rw [if_neg (by simp)]
          simp only [go_sem, l13x0, b13, Tryd.f13, hlo, hlo', q, hgr, hw, q64, c13a, c13b, c13c, List.length_map, Rul.rusC_len, kq, k1, bs_media, bs_supp, bs_cont, d0, b1, b2, b3, hwd, c23a, c23b, c23c]
          all_goals rfl
         | true =>
          rw [hm] at c23a c23b c23c
          rw [if_pos (by simp)]
          simp only [go_sem, l13x0, b13, Tryd.f13, hlo, hlo', q, hgr, hw, q64, c13a, c13b, c13c, List.length_map, Rul.rusC_len, kq, k1, bs_media, bs_supp, bs_cont, d0, b1, b2, b3, hwd, c23a, c23b, c23c]
          all_goals rfl
       | false =>
        rw [g3] at b3
        rw [Bool.false_or, Bool.false_or, Bool.false_and, if_neg (by simp)]
        simp only [go_sem, l13x0, b13, Tryd.f13, hlo, hlo', q, hgr, hw, q64, c13a, c13b, c13c, List.length_map, Rul.rusC_len, kq, k1, bs_media, bs_supp, bs_cont, b1, b2, b3]
        all_goals rfl
    ·have k2 : (kd == 2) = false := by simpa using h2
     rw [if_neg h2, if_neg (by simp)]
     simp only [go_sem, l13x0, b13, Tryd.f13, hlo, hlo', q, hgr, hw, q64, c13a, c13b, c13c, List.length_map, Rul.rusC_len, k1, k2]
     all_goals rfl
 ·have q64 : decide ((64 : Int) < (dep : Int)) = true := by simp; omega
  rw [decide_eq_false hd, Bool.false_and, if_neg (by simp)]
  simp only [go_sem, l13x0, b13, Tryd.f13, hlo, hlo', q, hgr, hw, q64, c13a, c13b, c13c, List.length_map, Rul.rusC_len]
  all_goals rfl
theorem stop13 {l : List Rul.Ru} {dep : Nat} (hlo : lo ≤ h.length) : evCode ⟨Tryd.prog, E, lo, h.length, h13⟩ loopW l13x0 (N23 l dep l.length, h) =
   some (.exit 0, N23 l dep l.length ++ [(11, .v (.bool false))], h) := by
 have q : decide ((l.length : Int) < (l.length : Int)) = false := by simp
 simp only [go_sem, l13x0, b13, Tryd.f13, hlo, q]
 all_goals rfl
theorem loop13 {l : List Rul.Ru} {dep : Nat} (hlo : lo ≤ h.length) (hl : l.length ≤ 1000000000) (hok : OkRs l)
  (ih : dep ≤ 64 → ∀ r ∈ l, ∀ lo h, lo ≤ h.length → E lo 13 [.list .no (Rul.rusC (kidsR r)), .v (.int .i64 ((dep + 1 : Nat) : Int))] h = some (.v (.bool (mayRs (dep + 1) (kidsR r))), h)) : ∀ (m k : Nat), k + m = l.length →
  if mayRs dep (l.drop k) = true then
   loopW (evCode ⟨Tryd.prog, E, lo, h.length, h13⟩ loopW l13x0) (N23 l dep k, h) = some (.exit 0, N23 l dep l.length ++ [(11, .v (.bool false))], h)
  else ∃ X, loopW (evCode ⟨Tryd.prog, E, lo, h.length, h13⟩ loopW l13x0) (N23 l dep k, h) = some (.ret, [(4, .v (.bool false))], h ++ X) := by
 intro m
 induction m with
 | zero =>
  intro k hk
  obtain rfl : k = l.length := by omega
  rw [List.drop_length, if_pos mayRs_nil, loop_eq, stop13 hlo, loop_e]
 | succ m ihm =>
  intro k hk
  have hlt : k < l.length := by omega
  have hg : l[k]? = some l[k] := List.getElem?_eq_getElem hlt
  have hd : l.drop k = l[k] :: l.drop (k + 1) := List.drop_eq_getElem_cons hlt
  have hmem := List.getElem_mem hlt
  have hok1 := okRs_mem hok hmem
  have ih1 := fun hd => ih hd l[k] hmem
  rw [hd]
  generalize l[k] = t at *
  obtain ⟨kd, n, p, ds, rs⟩ := t
  have hr := round13 (dep := dep) hlo hl hg hok1 ih1
  rw [mayRs_cons]
  cases hm : mayRu dep (.mk kd n p ds rs) with
  | false =>
   rw [hm, if_neg (by simp)] at hr
   rw [Bool.false_and, if_neg (by simp)]
   exact ⟨_, by rw [loop_eq, hr, loop_r]⟩
  | true =>
   rw [hm, if_pos rfl] at hr
   rw [Bool.true_and, loop_eq, hr, loop_n]
   exact ihm (k + 1) (by omega)
theorem kids_cost {r : Rul.Ru} : costRs (kidsR r) + 100 ≤ costR r := by
 obtain ⟨kd, n, p, ds, rs⟩ := r
 rw [costR_eq]
 show costRs rs + 100 ≤ _
 omega
theorem kids_ok {r : Rul.Ru} (h : OkR r) : OkRs (kidsR r) ∧ (kidsR r).length ≤ 1000000000 := by
 obtain ⟨kd, n, p, ds, rs⟩ := r
 rw [okR_eq] at h
 exact ⟨h.2.2.2.2.2.2, h.2.2.2.2.2.1⟩
theorem f13 : ∀ (N : Nat) (l : List Rul.Ru) (dep lo : Nat) (h : Heap), costRs l ≤ N → OkRs l → l.length ≤ 1000000000 → dep ≤ 65 → lo ≤ h.length →
  E lo 13 [.list .no (Rul.rusC l), .v (.int .i64 (dep : Nat))] h = some (.v (.bool (mayRs dep l)), h) := by
 intro N
 induction N with
 | zero =>
  intro l dep lo h hc hok hl hdep hlo
  cases l with
  | nil =>
   have hL := loop13 (lo := lo) (h := h) (l := []) (dep := dep) hlo hl hok (fun _ r hr => by cases hr) 0 0 rfl
   rw [List.drop_zero, if_pos mayRs_nil] at hL
   have n0 : ((0 : Nat) : Int) = 0 := rfl
   rw [mayRs_nil, e13 (by simp) (by rfl)]
   simp only [l13x0, b13, Tryd.f13, loopAt, loops, bodyOf, go_sem, N23, n0, List.cons_append, List.nil_append, List.length_nil] at hL
   simp only [go_sem, b13, Tryd.f13, hlo, hL, Rul.rusC_len, n0, List.length_nil]
   all_goals rfl
  | cons r l =>
   rw [costRs_cons] at hc
   have := kids_cost (r := r)
   omega
 | succ N ihN =>
  intro l dep lo h hc hok hl hdep hlo
  have hL := loop13 (lo := lo) (h := h) (l := l) (dep := dep) hlo hl hok (fun hd r hr lo h hlo => by
   have k1 := costRs_mem hr
   have k2 := kids_cost (r := r)
   have k3 := kids_ok (okRs_mem hok hr)
   exact ihN (kidsR r) (dep + 1) lo h (by omega) k3.1 k3.2 (by omega) hlo) l.length 0 (by omega)
  rw [List.drop_zero] at hL
  have n0 : ((0 : Nat) : Int) = 0 := rfl
  rw [e13 (by simp) (by rfl)]
  cases hm : mayRs dep l with
  | false =>
   rw [hm, if_neg (by simp)] at hL
   obtain ⟨X, hL⟩ := hL
   simp only [l13x0, b13, Tryd.f13, loopAt, loops, bodyOf, go_sem, N23, n0] at hL
   simp only [go_sem, b13, Tryd.f13, hlo, hL, Rul.rusC_len, n0]
   all_goals rfl
  | true =>
   rw [hm, if_pos rfl] at hL
   simp only [l13x0, b13, Tryd.f13, loopAt, loops, bodyOf, go_sem, N23, n0, List.cons_append, List.nil_append] at hL
   simp only [go_sem, b13, Tryd.f13, hlo, hL, Rul.rusC_len, n0]
   all_goals rfl
end Go.Lift.D7
end

section
open Go.Proofs
namespace Go.Lift.D7
variable [MX]
open Utf Tok Spell
set_option maxRecDepth 20000
set_option maxHeartbeats 1000000
variable {lo : Nat} {p q : Heap} {p0 : V} {out : List Int}
theorem bs_at : (⟨#[64]⟩ : ByteArray) = bs [64] := rfl
theorem bs_32' : (⟨#[32]⟩ : ByteArray) = bs [32] := rfl
theorem bs_123 : (⟨#[123]⟩ : ByteArray) = bs [123] := rfl
theorem bs_125 : (⟨#[125]⟩ : ByteArray) = bs [125] := rfl
theorem pw_self (i : Nat) (e : Bool) : pw i (.ptr i 0) e = .ptr i 0 := by unfold pw; split <;> rfl
abbrev NRw (i : Nat) (l : List Rul.Ru) (k : Int) : Env := [(0, .ptr i 0), (4, .fn 19 [.undef, .ptr i 0]), (11, .list .no (Rul.rusC l)), (12, .v (.int .i64 l.length)), (13, .v (.int .i64 k))]
section
variable {l : List Rul.Ru} {kd : Int} {n : List Int} {pr : List Rul.CV} {ds : List Rul.Dc} {rs : List Rul.Ru} {k : Nat}
theorem style24 (hlo : lo ≤ p.length) (hp : okP p.length p0 = true) (hl : l.length ≤ 1000000000) (hg : l[k]? = some (.mk kd n pr ds rs)) (hok : OkR (.mk kd n pr ds rs)) (hk : kd = 1) (hf : fineL pr = true) (ha : ds.all claimT = true) (ho : out.length + costR (.mk kd n pr ds rs) ≤ 1000000000) :
  evCode ⟨Tryd.prog, E, lo, p.length + (q.length + 1), h14⟩ loopW l14x0 (NRw p.length l k, p ++ .cells [p0, .list .yes (ri .u8 out), .v (.int .i64 0)] :: q) =
   some (.normal, NRw p.length l (k + 1 : Nat), p ++ .cells [.ptr p.length 0, .list .yes (ri .u8 (out ++ ruT (.mk kd n pr ds rs))), .v (.int .i64 0)] :: q) := by
 have hlt : k < l.length := (List.getElem?_eq_some_iff.1 hg).1
 have hgr : (Rul.rusC l)[k]? = some (Rul.ruV (.mk kd n pr ds rs)) := by rw [Rul.rusC_map, List.getElem?_map, hg]; rfl
 have ed : Rul.ruV (.mk kd n pr ds rs) = [.v (.int .i64 kd), .v (.string (bs n)), .list .no (Rul.rowsC pr), .list .no (ds.map Rul.declC), .list .no (Rul.rusC rs)] := by rw [Rul.ruV]; rfl
 have qq : decide ((k : Int) < (l.length : Int)) = true := by simp; omega
 have hw : IntKind.i64.wrap ((k : Int) + 1) = ((k + 1 : Nat) : Int) := wrap_succ (by omega)
 have kq : (kd == 1) = true := by simpa using hk
 rw [okR_eq] at hok
 obtain ⟨hy, hnl, hv, hdl, hds, hrl, hrs⟩ := hok
 rw [costR_eq] at ho
 have hvt : vtxt pr = valsT pr := by unfold vtxt; rw [if_pos hf]
 have hve : verr pr = 0 := by unfold verr; rw [if_pos hf]
 have hvl := valsT_len hv
 have hdc := declsT_len hds
 have e0 : e1 0 0 = 0 := rfl
 have k1 := f20 (lo := lo) (p := p) (q := q ++ [.cells (Rul.ruV (.mk kd n pr ds rs))]) (p0 := p0) (out := out) (n := 0) (l := pr) hlo hp hv (by omega)
 rw [hvt, hve, e0] at k1
 have k2 := f30w (lo := lo) (p := p) (q := q ++ [.cells (Rul.ruV (.mk kd n pr ds rs))]) (p0 := .ptr p.length 0) (out := out ++ valsT pr) (n := 0) hlo ok_self (s := [123]) by_123 (by simp; omega) (by simp)
 have k3 := f17 (lo := lo) (p := p) (q := q ++ [.cells (Rul.ruV (.mk kd n pr ds rs))]) (p0 := .ptr p.length 0) (out := out ++ valsT pr ++ [123]) (l := ds) hlo ok_self hdl hds ha (by simp; omega)
 rw [pw_self] at k3
 have k4 := f30w (lo := lo) (p := p) (q := q ++ [.cells (Rul.ruV (.mk kd n pr ds rs))]) (p0 := .ptr p.length 0) (out := out ++ valsT pr ++ [123] ++ declsT ds) (n := 0) hlo ok_self (s := [125]) by_125 (by simp; omega) (by simp)
 have hat : ∀ o c : Ob, (p ++ o :: (q ++ [c]))[p.length + (q.length + 1)]? = some c := fun o c => by
  rw [List.getElem?_append_right (by omega)]; simp
 rw [ruT_eq, if_pos hk]
 rw [ed] at hgr k1 k2 k3 k4
 simp only [List.append_assoc, List.cons_append, List.nil_append] at k1 k2 k3 k4
 have hlo2 : lo ≤ p.length + (q.length + 1) := by omega
 have hlt2 : p.length < p.length + (q.length + 1) := by omega
 simp only [go_sem, l14x0, b14, Tryd.f14, qq, hgr, hw, hlo, hlo2, hlt2, hat, kq, bs_123, bs_125, k1, k2, k3, k4, Int.reduceBEq, List.append_assoc, List.cons_append, List.nil_append, Rul.rusC_len]
 all_goals rfl
theorem group24 (hlo : lo ≤ p.length) (hp : okP p.length p0 = true) (hl : l.length ≤ 1000000000) (hg : l[k]? = some (.mk kd n pr ds rs)) (hok : OkR (.mk kd n pr ds rs)) (hk : kd ≠ 1) (hf : fineL pr = true) (ho : out.length + costR (.mk kd n pr ds rs) ≤ 1000000000)
  (ih : ∀ (lo : Nat) (p q : Heap) (p0 : V) (out : List Int), lo ≤ p.length → okP p.length p0 = true → out.length + costRs rs ≤ 1000000000 →
   E lo 14 [.ptr p.length 0, .list .no (Rul.rusC rs)] (p ++ .cells [p0, .list .yes (ri .u8 out), .v (.int .i64 0)] :: q) = some (.tup [], p ++ .cells [pw p.length p0 rs.isEmpty, .list .yes (ri .u8 (out ++ rusT rs)), .v (.int .i64 0)] :: q)) :
  evCode ⟨Tryd.prog, E, lo, p.length + (q.length + 1), h14⟩ loopW l14x0 (NRw p.length l k, p ++ .cells [p0, .list .yes (ri .u8 out), .v (.int .i64 0)] :: q) =
   some (.normal, NRw p.length l (k + 1 : Nat), p ++ .cells [.ptr p.length 0, .list .yes (ri .u8 (out ++ ruT (.mk kd n pr ds rs))), .v (.int .i64 0)] :: q) := by
 have hlt : k < l.length := (List.getElem?_eq_some_iff.1 hg).1
 have hgr : (Rul.rusC l)[k]? = some (Rul.ruV (.mk kd n pr ds rs)) := by rw [Rul.rusC_map, List.getElem?_map, hg]; rfl
 have ed : Rul.ruV (.mk kd n pr ds rs) = [.v (.int .i64 kd), .v (.string (bs n)), .list .no (Rul.rowsC pr), .list .no (ds.map Rul.declC), .list .no (Rul.rusC rs)] := by rw [Rul.ruV]; rfl
 have qq : decide ((k : Int) < (l.length : Int)) = true := by simp; omega
 have hw : IntKind.i64.wrap ((k : Int) + 1) = ((k + 1 : Nat) : Int) := wrap_succ (by omega)
 have kq : (kd == 1) = false := by simpa using hk
 rw [okR_eq] at hok
 obtain ⟨hy, hnl, hv, hdl, hds, hrl, hrs⟩ := hok
 rw [costR_eq] at ho
 have hvt : vtxt pr = valsT pr := by unfold vtxt; rw [if_pos hf]
 have hve : verr pr = 0 := by unfold verr; rw [if_pos hf]
 have hvl := valsT_len hv
 have hrc := rusT_len rs hrs
 have e0 : e1 0 0 = 0 := rfl
 have k0 := f30w (lo := lo) (p := p) (q := q ++ [.cells (Rul.ruV (.mk kd n pr ds rs))]) (p0 := p0) (out := out) (n := 0) hlo hp (s := [64] ++ n ++ [32]) (by_app (by_app by_64 hy) by_32) (by omega) (by simp; omega)
 have k1 := f20 (lo := lo) (p := p) (q := q ++ [.cells (Rul.ruV (.mk kd n pr ds rs))]) (p0 := .ptr p.length 0) (out := out ++ ([64] ++ n ++ [32])) (n := 0) (l := pr) hlo ok_self hv (by simp; omega)
 rw [hvt, hve, e0] at k1
 have k2 := f30w (lo := lo) (p := p) (q := q ++ [.cells (Rul.ruV (.mk kd n pr ds rs))]) (p0 := .ptr p.length 0) (out := out ++ ([64] ++ n ++ [32]) ++ valsT pr) (n := 0) hlo ok_self (s := [123]) by_123 (by simp; omega) (by simp)
 have k3 := ih lo p (q ++ [.cells (Rul.ruV (.mk kd n pr ds rs))]) (.ptr p.length 0) (out ++ ([64] ++ n ++ [32]) ++ valsT pr ++ [123]) hlo ok_self (by simp; omega)
 rw [pw_self] at k3
 have k4 := f30w (lo := lo) (p := p) (q := q ++ [.cells (Rul.ruV (.mk kd n pr ds rs))]) (p0 := .ptr p.length 0) (out := out ++ ([64] ++ n ++ [32]) ++ valsT pr ++ [123] ++ rusT rs) (n := 0) hlo ok_self (s := [125]) by_125 (by simp; omega) (by simp)
 have hat : ∀ o c : Ob, (p ++ o :: (q ++ [c]))[p.length + (q.length + 1)]? = some c := fun o c => by
  rw [List.getElem?_append_right (by omega)]; simp
 rw [ruT_eq, if_neg hk]
 rw [ed] at hgr k0 k1 k2 k3 k4
 simp only [List.append_assoc, List.cons_append, List.nil_append] at k0 k1 k2 k3 k4 ⊢
 have z1 : 1 + n.length ≤ 9223372036854775807 := by omega
 have z2 : 1 + n.length + 1 ≤ 9223372036854775807 := by omega
 have z3 : n.length + 1 ≤ 9223372036854775807 := by omega
 have z4 : n.length + 1 + 1 ≤ 9223372036854775807 := by omega
 have hlo2 : lo ≤ p.length + (q.length + 1) := by omega
 have hlt2 : p.length < p.length + (q.length + 1) := by omega
 simp only [go_sem, l14x0, b14, Tryd.f14, qq, hgr, hw, hlo, hlo2, hlt2, hat, kq, bs_at, bs_32', bs_123, bs_125, bs_app, bs_size, List.length_append, List.length_cons, List.length_nil, Nat.zero_add, z1, z2, z3, z4, k0, k1, k2, k3, k4, Int.reduceBEq, List.append_assoc, List.cons_append, List.nil_append, Rul.rusC_len]
 all_goals rfl
end
theorem stop14 {l : List Rul.Ru} (hlo : lo ≤ p.length) :
  evCode ⟨Tryd.prog, E, lo, p.length + (q.length + 1), h14⟩ loopW l14x0 (NRw p.length l l.length, p ++ .cells [p0, .list .yes (ri .u8 out), .v (.int .i64 0)] :: q) =
   some (.exit 0, NRw p.length l l.length ++ [(14, .v (.bool false))], p ++ .cells [p0, .list .yes (ri .u8 out), .v (.int .i64 0)] :: q) := by
 have qq : decide ((l.length : Int) < (l.length : Int)) = false := by simp
 simp only [go_sem, l14x0, b14, Tryd.f14, hlo, qq]
 all_goals rfl
theorem loop14 {dep : Nat} {l : List Rul.Ru} (hlo : lo ≤ p.length) (hl : l.length ≤ 1000000000) (hok : OkRs l)
  (ih : ∀ r ∈ l, mayRs (dep + 1) (kidsR r) = true → ∀ (lo : Nat) (p q : Heap) (p0 : V) (out : List Int), lo ≤ p.length → okP p.length p0 = true → out.length + costRs (kidsR r) ≤ 1000000000 →
   E lo 14 [.ptr p.length 0, .list .no (Rul.rusC (kidsR r))] (p ++ .cells [p0, .list .yes (ri .u8 out), .v (.int .i64 0)] :: q) = some (.tup [], p ++ .cells [pw p.length p0 (kidsR r).isEmpty, .list .yes (ri .u8 (out ++ rusT (kidsR r))), .v (.int .i64 0)] :: q)) :
  ∀ (m k : Nat) (out : List Int) (p0 : V), okP p.length p0 = true → k + m = l.length → mayRs dep (l.drop k) = true → out.length + costRs (l.drop k) ≤ 1000000000 →
  loopW (evCode ⟨Tryd.prog, E, lo, p.length + (q.length + 1), h14⟩ loopW l14x0) (NRw p.length l k, p ++ .cells [p0, .list .yes (ri .u8 out), .v (.int .i64 0)] :: q) =
   some (.exit 0, NRw p.length l l.length ++ [(14, .v (.bool false))], p ++ .cells [pw p.length p0 (l.drop k).isEmpty, .list .yes (ri .u8 (out ++ rusT (l.drop k))), .v (.int .i64 0)] :: q) := by
 intro m
 induction m with
 | zero =>
  intro k out p0 hp hk _ _
  obtain rfl : k = l.length := by omega
  rw [List.drop_length, loop_eq, stop14 hlo, loop_e]
  simp only [rusT_nil, List.append_nil, pw, List.isEmpty_nil, if_true]
 | succ m ihm =>
  intro k out p0 hp hk ha ho
  have hlt : k < l.length := by omega
  have hg : l[k]? = some l[k] := List.getElem?_eq_getElem hlt
  have hd : l.drop k = l[k] :: l.drop (k + 1) := List.drop_eq_getElem_cons hlt
  have hmem := List.getElem_mem hlt
  have hok1 := okRs_mem hok hmem
  have ih1 := ih l[k] hmem
  rw [hd] at ha ho ⊢
  generalize l[k] = t at *
  rw [mayRs_cons, Bool.and_eq_true] at ha
  rw [costRs_cons] at ho
  have hlen := ruT_len t hok1
  have hr : evCode ⟨Tryd.prog, E, lo, p.length + (q.length + 1), h14⟩ loopW l14x0 (NRw p.length l k, p ++ .cells [p0, .list .yes (ri .u8 out), .v (.int .i64 0)] :: q) =
    some (.normal, NRw p.length l (k + 1 : Nat), p ++ .cells [.ptr p.length 0, .list .yes (ri .u8 (out ++ ruT t)), .v (.int .i64 0)] :: q) := by
   obtain ⟨kd, n, pr, ds, rs⟩ := t
   have hm := ha.1
   rw [mayRu_eq, Bool.and_eq_true, Bool.and_eq_true] at hm
   by_cases h1 : kd = 1
   ·rw [if_pos h1, Bool.and_eq_true, Bool.and_eq_true] at hm
    exact style24 hlo hp hl hg hok1 h1 hm.2.1 hm.2.2.2.2 (by omega)
   ·rw [if_neg h1] at hm
    by_cases h2 : kd = 2
    ·rw [if_pos h2, Bool.and_eq_true, Bool.and_eq_true] at hm
     exact group24 hlo hp hl hg hok1 h1 hm.2.1 (by omega) (ih1 hm.2.2.2.2)
    ·rw [if_neg h2] at hm
     exact absurd hm.2.2 (by simp)
  rw [loop_eq, hr, loop_n, ihm (k + 1) (out ++ ruT t) (.ptr p.length 0) ok_self (by omega) ha.2 (by simp only [List.length_append]; omega)]
  have e2 : pw p.length p0 (t :: l.drop (k + 1)).isEmpty = .ptr p.length 0 := rfl
  rw [pw_self, e2, rusT_cons, List.append_assoc]
theorem f14 : ∀ (N : Nat) (l : List Rul.Ru) (dep : Nat), costRs l ≤ N → OkRs l → l.length ≤ 1000000000 → mayRs dep l = true → ∀ (lo : Nat) (p q : Heap) (p0 : V) (out : List Int), lo ≤ p.length → okP p.length p0 = true → out.length + costRs l ≤ 1000000000 →
  E lo 14 [.ptr p.length 0, .list .no (Rul.rusC l)] (p ++ .cells [p0, .list .yes (ri .u8 out), .v (.int .i64 0)] :: q) = some (.tup [], p ++ .cells [pw p.length p0 l.isEmpty, .list .yes (ri .u8 (out ++ rusT l)), .v (.int .i64 0)] :: q) := by
 intro N
 induction N with
 | zero =>
  intro l dep hc hok hl hm lo p q p0 out hlo hp ho
  cases l with
  | nil =>
   have hL := loop14 (q := q) (dep := dep) (l := []) hlo hl hok (fun r hr => by cases hr) 0 0 out p0 hp rfl hm ho
   rw [List.drop_zero] at hL
   have n0 : ((0 : Nat) : Int) = 0 := rfl
   simp only [l14x0, b14, Tryd.f14, loopAt, loops, bodyOf, go_sem, NRw, n0, List.cons_append, List.nil_append, List.length_nil] at hL
   rw [e14 (by simp) (by rfl)]
   simp only [go_sem, b14, Tryd.f14, hlo, hL, Rul.rusC_len, n0, List.length_nil]
   all_goals rfl
  | cons r l =>
   rw [costRs_cons] at hc
   have := kids_cost (r := r)
   omega
 | succ N ihN =>
  intro l dep hc hok hl hm lo p q p0 out hlo hp ho
  have hL := loop14 (q := q) (dep := dep) (l := l) hlo hl hok (fun r hr hmr lo p q p0 out hlo hp ho => by
   have k1 := costRs_mem hr
   have k2 := kids_cost (r := r)
   have k3 := kids_ok (okRs_mem hok hr)
   exact ihN (kidsR r) (dep + 1) (by omega) k3.1 k3.2 hmr lo p q p0 out hlo hp ho) l.length 0 out p0 hp (by omega) (by rw [List.drop_zero]; exact hm) (by rw [List.drop_zero]; exact ho)
  rw [List.drop_zero] at hL
  have n0 : ((0 : Nat) : Int) = 0 := rfl
  simp only [l14x0, b14, Tryd.f14, loopAt, loops, bodyOf, go_sem, NRw, n0, List.cons_append, List.nil_append] at hL
  rw [e14 (by simp) (by rfl)]
  simp only [go_sem, b14, Tryd.f14, hlo, hL, Rul.rusC_len, n0]
  all_goals rfl
def rulesR (l : List Rul.Ru) : V := if mayRs 1 l = true then okV (rusT l) else errV
theorem f8 {h : Heap} {l : List Rul.Ru} (hlo : lo ≤ h.length) (hl : l.length ≤ 1000000000) (hok : OkRs l) (ho : costRs l ≤ 1000000000) :
  E lo 8 [.list .no (Rul.rusC l)] h = some (rulesR l, h) := by
 have c23 := fun lo hlo => f13 (costRs l) l 1 lo h (Nat.le_refl _) hok hl (by omega) hlo
 have n1 : ((1 : Nat) : Int) = 1 := rfl
 rw [n1] at c23
 have c23a := c23 lo hlo; have c23b := c23 h.length (Nat.le_refl _)
 clear c23
 unfold rulesR
 rw [e8 (by simp) (by rfl)]
 cases ha : mayRs 1 l with
 | false =>
  rw [ha] at c23a c23b
  rw [if_neg (by simp)]
  unfold errV
  simp only [go_sem, b8, Tryd.f8, hlo, c23a, c23b]
  all_goals rfl
 | true =>
  rw [ha] at c23a c23b
  rw [if_pos rfl]
  unfold okV
  have c24 := fun lo hlo => f14 (costRs l) l 1 (Nat.le_refl _) hok hl ha lo h [] (.v (.pointer none)) [] hlo rfl (by simpa using ho)
  have c24a := c24 lo hlo; have c24b := c24 h.length (Nat.le_refl _)
  have c21 := fun lo hlo => f15 (lo := lo) (p := h) (q := []) (p0 := pw h.length (.v (.pointer none)) l.isEmpty) (out := rusT l) hlo (rusT_by l hok) (by have := rusT_len l hok; omega)
  have c21a := c21 lo hlo; have c21b := c21 h.length (Nat.le_refl _)
  clear c24 c21
  rw [List.nil_append] at c24a c24b
  have e0 : ri .u8 [] = [] := rfl
  rw [e0] at c24a c24b
  simp only [go_sem, b8, Tryd.f8, hlo, c23a, c23b, c24a, c24b, c21a, c21b]
  all_goals rfl
end Go.Lift.D7
end

section
open Go.Proofs
namespace Go.Lift.D7
variable [MX]
open Utf Tok Spell
set_option maxRecDepth 20000
set_option maxHeartbeats 1000000
variable {lo : Nat} {h : Heap} {out : List Int}
theorem mayV_1 (b : List Int) : mayV 1 b 0 0 false false = nameT b := by
 unfold mayV
 rw [if_pos (.inl rfl)]
 unfold nameT
 cases b.isEmpty <;> cases sound b <;> rfl
end Go.Lift.D7
end

section
open Go.Proofs
namespace Go.Lift.D7
variable [MX]
open Utf Tok Spell
set_option maxRecDepth 20000
set_option maxHeartbeats 2000000
variable {lo : Nat} {h : Heap}
def wakeT : Rul.Tk4 := ⟨1, [98], 0, 0, false, false⟩
def wakeV : List Rul.CV := [.mk wakeT []]
def wakeD : Rul.Dc := ⟨[97], wakeV, true⟩
theorem wake_flat : Rul.flatL wakeV = [wakeT] := by
 unfold wakeV
 rw [Rul.flatL, Rul.flatL, Rul.flatV, Rul.flatL]
 rfl
theorem txt_asc {c : Int} (hc : 97 ≤ c ∧ c ≤ 98) : tokenT 1 [c] 0 0 false false = [c] := by
 obtain ⟨r1, s1⟩ := sound_asc (c := c) (by omega)
 have e : tokenT 1 [c] 0 0 false false = identT (raw [c]) := rfl
 rw [e, r1]
 have : c = 97 ∨ c = 98 := by omega
 rcases this with rfl | rfl <;> decide
theorem name_asc {c : Int} (hc : 97 ≤ c ∧ c ≤ 98) : nameT [c] = true := by
 obtain ⟨r1, s1⟩ := sound_asc (c := c) (by omega)
 unfold nameT
 rw [s1]
 rfl
theorem wake_may : mayT wakeT = true := (mayV_1 [98]).trans (name_asc (by omega))
theorem wake_fine : fineL wakeV = true := by
 unfold fineL
 rw [wake_flat, List.all_cons, wake_may]
 have : Rul.mayL 64 wakeV = true := by
  unfold wakeV
  rw [Rul.mayL, Rul.mayL, Rul.mayV]
  rfl
 rw [this]
 rfl
theorem wake_vals : valsT wakeV = [98] := by
 unfold valsT
 rw [wake_flat]
 have e : tokensT none ([wakeT].map ofR) = tokenT 1 [98] 0 0 false false ++ [] := rfl
 rw [e, txt_asc (by omega)]
 rfl
theorem wakeD_claim : claimT wakeD = true := by
 unfold claimT
 have e1 : nameT wakeD.name = true := name_asc (c := 97) (by omega)
 have e2 : fineL wakeD.val = true := wake_fine
 rw [e1, e2]
 rfl
theorem wakeD_T : declT wakeD = [97, 58, 98, 32, 33, 105, 109, 112, 111, 114, 116, 97, 110, 116, 59] := by
 unfold declT
 have e1 : tokenT 1 wakeD.name 0 0 false false = [97] := txt_asc (c := 97) (by omega)
 have e2 : valsT wakeD.val = [98] := wake_vals
 rw [e1, e2]
 rfl
theorem wakeT_ok : OkT wakeT := ⟨by_cons (by omega) (by omega) by_nil, by simp [wakeT], by simp [wakeT], by simp [wakeT], by simp [wakeT], by simp [wakeT]⟩
theorem wakeV_ok : OkL wakeV := by
 refine ⟨?_, ?_, ?_⟩
 ·unfold wakeV
  rw [Rul.nodesL_cons, Rul.nodesL_nil, Rul.nodesV_eq]
  show 1 + Rul.nodesL [] + 0 ≤ _
  rw [Rul.nodesL_nil]
  omega
 ·rw [wake_flat]
  intro t ht
  obtain rfl : t = wakeT := by simpa using ht
  exact wakeT_ok
 ·rw [wake_flat]
  simp [cost, ofR, wakeT]
theorem wakeD_ok : ∀ d ∈ [wakeD], OkD d := by
 intro d hd
 obtain rfl : d = wakeD := by simpa using hd
 exact ⟨by_cons (by omega) (by omega) by_nil, by simp [wakeD], wakeV_ok⟩
theorem wakeD_cost : costDs [wakeD] ≤ 1000000000 := by
 have e : cost ((Rul.flatL wakeD.val).map ofR) = 314 := by
  show cost ((Rul.flatL wakeV).map ofR) = 314
  rw [wake_flat]
  rfl
 unfold costDs costD
 rw [e]
 simp [costDs, wakeD]
theorem wakeD_R : declsR [wakeD] = okV [97, 58, 98, 32, 33, 105, 109, 112, 111, 114, 116, 97, 110, 116, 59] := by
 unfold declsR
 rw [List.all_cons, wakeD_claim, List.all_nil, Bool.and_true, if_pos rfl, declsT, declsT, wakeD_T]
 rfl
theorem wakeD_C : ([wakeD].map Rul.declC) = [[.v (.string ⟨#[97]⟩), .list .no [[.v (.int .i64 1), .v (.string ⟨#[98]⟩), .v (.int .i64 0), .v (.int .i64 0), .v (.bool false), .v (.bool false), .list .no []]], .v (.bool true)]] := by
 have e : Rul.rowsC wakeV = [[.v (.int .i64 1), .v (.string ⟨#[98]⟩), .v (.int .i64 0), .v (.int .i64 0), .v (.bool false), .v (.bool false), .list .no []]] := by
  unfold wakeV
  rw [Rul.rowsC_cons, Rul.rowsC_nil, Rul.rowV_eq, Rul.rowsC_nil]
  rfl
 rw [← e]
 rfl
theorem f7 (hlo : lo ≤ h.length) : E lo 7 [] h = some (.v (.bool true), h) := by
 have k := fun lo hlo => f12 (lo := lo) (h := h) (l := [wakeD]) hlo (by simp) wakeD_ok wakeD_cost
 rw [wakeD_R, wakeD_C] at k
 have k : ∀ lo, lo ≤ h.length → E lo 12 [.list .no [[.v (.string ⟨#[97]⟩), .list .no [[.v (.int .i64 1), .v (.string ⟨#[98]⟩), .v (.int .i64 0), .v (.int .i64 0), .v (.bool false), .v (.bool false), .list .no []]], .v (.bool true)]]] h = some (.tup [.v (.string ⟨#[97, 58, 98, 32, 33, 105, 109, 112, 111, 114, 116, 97, 110, 116, 59]⟩), .v (.int .i64 0)], h) := k
 have ka := k lo hlo; have kb := k h.length (Nat.le_refl _)
 have q := s_eq ⟨#[97, 58, 98, 32, 33, 105, 109, 112, 111, 114, 116, 97, 110, 116, 59]⟩
 rw [e7 (by simp) (by rfl)]
 simp only [go_sem, b7, Tryd.f7, ka, kb, q, Int.reduceBEq]
 all_goals rfl
end Go.Lift.D7
end

section
open Go.Proofs
namespace Go.Lift.D7
variable [MX]
open Utf Tok Spell
set_option maxRecDepth 20000
set_option maxHeartbeats 4000000
variable {lo : Nat} {h : Heap}
theorem costRs_app : ∀ a b : List Rul.Ru, costRs (a ++ b) = costRs a + costRs b
 | [], b => by rw [costRs_nil]; simp
 | r :: a, b => by rw [List.cons_append, costRs_cons, costRs_cons, costRs_app a b]; omega
theorem okRs_app {a b : List Rul.Ru} (ha : OkRs a) (hb : OkRs b) : OkRs (a ++ b) := okRs_of fun r hr => by
 rcases List.mem_append.1 hr with hr | hr
 ·exact okRs_mem ha hr
 ·exact okRs_mem hb hr
theorem f4 {a b : List Rul.Ru} (hlo : lo ≤ h.length) (hla : a.length ≤ 10000000) (hlb : b.length ≤ 10000000) (hoa : OkRs a) (hob : OkRs b) (hc : costRs a + costRs b ≤ 1000000000) :
  E lo 4 [.list .no (Rul.rusC a), .list .no (Rul.rusC b)] h = some (.v (.bool true), h) := by
 have k1 := fun lo hlo => f8 (lo := lo) (h := h) (l := a) hlo (by omega) hoa (by omega)
 have k2 := fun lo hlo => f8 (lo := lo) (h := h) (l := b) hlo (by omega) hob (by omega)
 have k3 := fun lo hlo => f8 (lo := lo) (h := h) (l := a ++ b) hlo (by rw [List.length_append]; omega) (okRs_app hoa hob) (by rw [costRs_app]; exact hc)
 have k4 := fun lo hlo => f7 (lo := lo) (h := h) hlo
 have hta := rusT_len a hoa
 have htb := rusT_len b hob
 have ra := Rul.rusC_all a
 have rb := Rul.rusC_all b
 have la := Rul.rusC_len a
 have lb := Rul.rusC_len b
 have z1 : (rusT a).length + (rusT b).length ≤ 9223372036854775807 := by omega
 have y1 : (a.length + b.length) * 96 ≤ 140737488355328 := by omega
 have y2 : a.length + b.length ≤ 9223372036854775807 := by omega
 have y3 : (0 + a.length) * 96 ≤ 140737488355328 := by omega
 have y4 : 0 + a.length ≤ 9223372036854775807 := by omega
 have qe : ((bs []).toList == (⟨#[]⟩ : ByteArray).toList) = true := (bs_nil_eq' []).trans (by simp)
 unfold rulesR at k1 k2 k3
 rw [Rul.rusC_app, mayRs_app, rusT_app] at k3
 rw [e4 (by simp) (by rfl)]
 cases ma : mayRs 1 a with
 | false =>
  rw [ma, if_neg (by simp)] at k1
  rw [ma, Bool.false_and, if_neg (by simp)] at k3
  unfold errV okV at *
  have k1a := k1 lo hlo; have k1b := k1 h.length (Nat.le_refl _)
  have k3a := k3 lo hlo; have k3b := k3 h.length (Nat.le_refl _)
  have k4a := k4 lo hlo; have k4b := k4 h.length (Nat.le_refl _)
  cases mb : mayRs 1 b with
  | false =>
   rw [mb, if_neg (by simp)] at k2
   have k2a := k2 lo hlo; have k2b := k2 h.length (Nat.le_refl _)
   simp only [go_sem, b4, Tryd.f4, hlo, k1a, k1b, k2a, k2b, k3a, k3b, k4a, k4b, ra, rb, la, lb, y1, y2, y3, y4, qe, Int.reduceBEq, Int.reduceBNe, List.nil_append, List.length_append]
   all_goals rfl
  | true =>
   rw [mb, if_pos rfl] at k2
   have k2a := k2 lo hlo; have k2b := k2 h.length (Nat.le_refl _)
   simp only [go_sem, b4, Tryd.f4, hlo, k1a, k1b, k2a, k2b, k3a, k3b, k4a, k4b, ra, rb, la, lb, y1, y2, y3, y4, qe, Int.reduceBEq, Int.reduceBNe, List.nil_append, List.length_append]
   all_goals rfl
 | true =>
  rw [ma, if_pos rfl] at k1
  rw [ma, Bool.true_and] at k3
  have k1a := k1 lo hlo; have k1b := k1 h.length (Nat.le_refl _)
  have k4a := k4 lo hlo; have k4b := k4 h.length (Nat.le_refl _)
  cases mb : mayRs 1 b with
  | false =>
   rw [mb, if_neg (by simp)] at k2 k3
   have k2a := k2 lo hlo; have k2b := k2 h.length (Nat.le_refl _)
   have k3a := k3 lo hlo; have k3b := k3 h.length (Nat.le_refl _)
   unfold errV okV at *
   simp only [go_sem, b4, Tryd.f4, hlo, k1a, k1b, k2a, k2b, k3a, k3b, k4a, k4b, ra, rb, la, lb, y1, y2, y3, y4, qe, Int.reduceBEq, Int.reduceBNe, List.nil_append, List.length_append]
   all_goals rfl
  | true =>
   rw [mb, if_pos rfl] at k2 k3
   have k2a := k2 lo hlo; have k2b := k2 h.length (Nat.le_refl _)
   have k3a := k3 lo hlo; have k3b := k3 h.length (Nat.le_refl _)
   unfold okV at *
   have q1 := s_eq (bs (rusT a ++ rusT b))
   simp only [go_sem, b4, Tryd.f4, hlo, k1a, k1b, k2a, k2b, k3a, k3b, k4a, k4b, ra, rb, la, lb, y1, y2, y3, y4, z1, bs_app, bs_size, q1, Int.reduceBEq, Int.reduceBNe, List.nil_append, List.length_append]
   all_goals rfl
end Go.Lift.D7
end
