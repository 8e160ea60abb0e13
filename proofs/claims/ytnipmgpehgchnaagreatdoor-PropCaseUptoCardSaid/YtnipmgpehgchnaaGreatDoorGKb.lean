/- prop.table, prop.places, prop.Place. -/
import Derived.ProofKit
import Derived.Lib.TrailingZeros
import Derived.Lib.ItoaNum
import Derived.Test.YtnipmgpehgchnaaGreatDoorGLd
import Derived.Test.YtnipmgpehgchnaaGreatDoorGKa
import Derived.Test.YtnipmgpehgchnaaGreatDoorGK5Basea
set_option linter.unusedVariables false
set_option linter.unusedSimpArgs false
set_option linter.unusedSectionVars false
set_option maxRecDepth 100000
set_option maxHeartbeats 4000000
section
open Go.Proofs
namespace Go.Lift.V1
variable {lo : Nat} {h : Heap}
structure PR where
 n : ByteArray
 k : Int
 d : Bool
 l : Bool
 w : ByteArray
 ini : ByteArray
 nu : Int
 de : Int
def tblP : List PR := [
 ⟨⟨#[99, 111, 108, 111, 114]⟩, 3, true, false, ⟨#[98, 108, 97, 99, 107, 32, 119, 104, 105, 116, 101, 32, 114, 101, 100, 32, 103, 114, 101, 101, 110, 32, 98, 108, 117, 101, 32, 116, 114, 97, 110, 115, 112, 97, 114, 101, 110, 116]⟩, ⟨#[98, 108, 97, 99, 107]⟩, 0, 0⟩,
 ⟨⟨#[100, 105, 115, 112, 108, 97, 121]⟩, 3, false, false, ⟨#[105, 110, 108, 105, 110, 101, 32, 98, 108, 111, 99, 107, 32, 110, 111, 110, 101, 32, 102, 108, 101, 120, 32, 103, 114, 105, 100]⟩, ⟨#[105, 110, 108, 105, 110, 101]⟩, 0, 0⟩,
 ⟨⟨#[102, 111, 110, 116, 45, 115, 105, 122, 101]⟩, 1, true, false, ⟨#[]⟩, ⟨#[]⟩, 16, 1⟩,
 ⟨⟨#[103, 97, 112]⟩, 1, false, false, ⟨#[]⟩, ⟨#[]⟩, 0, 1⟩,
 ⟨⟨#[104, 101, 105, 103, 104, 116]⟩, 1, false, false, ⟨#[97, 117, 116, 111]⟩, ⟨#[97, 117, 116, 111]⟩, 0, 0⟩,
 ⟨⟨#[108, 101, 102, 116]⟩, 1, false, true, ⟨#[97, 117, 116, 111]⟩, ⟨#[97, 117, 116, 111]⟩, 0, 0⟩,
 ⟨⟨#[108, 105, 110, 101, 45, 104, 101, 105, 103, 104, 116]⟩, 2, true, false, ⟨#[]⟩, ⟨#[]⟩, 6, 5⟩,
 ⟨⟨#[109, 97, 114, 103, 105, 110]⟩, 1, false, true, ⟨#[97, 117, 116, 111]⟩, ⟨#[]⟩, 0, 1⟩,
 ⟨⟨#[111, 112, 97, 99, 105, 116, 121]⟩, 2, false, false, ⟨#[]⟩, ⟨#[]⟩, 1, 1⟩,
 ⟨⟨#[111, 114, 100, 101, 114]⟩, 2, false, true, ⟨#[]⟩, ⟨#[]⟩, 0, 1⟩,
 ⟨⟨#[112, 97, 100, 100, 105, 110, 103]⟩, 1, false, false, ⟨#[]⟩, ⟨#[]⟩, 0, 1⟩,
 ⟨⟨#[116, 101, 120, 116, 45, 97, 108, 105, 103, 110]⟩, 3, true, false, ⟨#[115, 116, 97, 114, 116, 32, 101, 110, 100, 32, 99, 101, 110, 116, 101, 114]⟩, ⟨#[115, 116, 97, 114, 116]⟩, 0, 0⟩,
 ⟨⟨#[118, 105, 115, 105, 98, 105, 108, 105, 116, 121]⟩, 3, true, false, ⟨#[118, 105, 115, 105, 98, 108, 101, 32, 104, 105, 100, 100, 101, 110, 32, 99, 111, 108, 108, 97, 112, 115, 101]⟩, ⟨#[118, 105, 115, 105, 98, 108, 101]⟩, 0, 0⟩,
 ⟨⟨#[119, 105, 100, 116, 104]⟩, 1, false, false, ⟨#[97, 117, 116, 111]⟩, ⟨#[97, 117, 116, 111]⟩, 0, 0⟩]
def rowP (p : PR) : List V := [.v (.string p.n), .v (.int .i64 p.k), .v (.bool p.d), .v (.bool p.l), .v (.string p.w), .v (.string p.ini), .v (.int .i64 p.nu), .v (.int .i64 p.de)]
theorem f28 : E lo 28 [] h = some (.list .no (tblP.map rowP), h) := by
 rw [e28 (by simp) (by rfl)]
 simp only [go_sem, b28, Tryz.f28]
 all_goals rfl
@[go_sem] theorem unt_mp (b : Nat) : untag1 (.mp b) = .mp b := rfl
@[go_sem] theorem unc_mp (b : Nat) : untagC1 (.mp b) = .mp b := rfl
@[go_sem] theorem own_mp (b : Nat) : own1 (.mp b) = .mp b := rfl
@[go_sem] theorem cps_mp (b : Nat) : cps (.mp b) = .mp b := rfl
@[go_sem] theorem fzs_mp (b : Nat) : fzs (.mp b) = .mp b := rfl
@[go_sem] theorem mv_mp (vars : List Nat) (t b : Nat) : moveV vars t (.mp b) = some (.mp b) := rfl
def esP (k : Nat) : List (Value × Value) := (tblP.take k).mapIdx fun i p => (.string p.n, .int .i64 i)
theorem put0 : putT Tryz.prog 9 (.string ⟨#[99, 111, 108, 111, 114]⟩) (.int .i64 ((0 : Nat) : Int)) (esP 0) = some (esP 1) := by kernel_rfl
theorem put1 : putT Tryz.prog 9 (.string ⟨#[100, 105, 115, 112, 108, 97, 121]⟩) (.int .i64 ((1 : Nat) : Int)) (esP 1) = some (esP 2) := by kernel_rfl
theorem put2 : putT Tryz.prog 9 (.string ⟨#[102, 111, 110, 116, 45, 115, 105, 122, 101]⟩) (.int .i64 ((2 : Nat) : Int)) (esP 2) = some (esP 3) := by kernel_rfl
theorem put3 : putT Tryz.prog 9 (.string ⟨#[103, 97, 112]⟩) (.int .i64 ((3 : Nat) : Int)) (esP 3) = some (esP 4) := by kernel_rfl
theorem put4 : putT Tryz.prog 9 (.string ⟨#[104, 101, 105, 103, 104, 116]⟩) (.int .i64 ((4 : Nat) : Int)) (esP 4) = some (esP 5) := by kernel_rfl
theorem put5 : putT Tryz.prog 9 (.string ⟨#[108, 101, 102, 116]⟩) (.int .i64 ((5 : Nat) : Int)) (esP 5) = some (esP 6) := by kernel_rfl
theorem put6 : putT Tryz.prog 9 (.string ⟨#[108, 105, 110, 101, 45, 104, 101, 105, 103, 104, 116]⟩) (.int .i64 ((6 : Nat) : Int)) (esP 6) = some (esP 7) := by kernel_rfl
theorem put7 : putT Tryz.prog 9 (.string ⟨#[109, 97, 114, 103, 105, 110]⟩) (.int .i64 ((7 : Nat) : Int)) (esP 7) = some (esP 8) := by kernel_rfl
theorem put8 : putT Tryz.prog 9 (.string ⟨#[111, 112, 97, 99, 105, 116, 121]⟩) (.int .i64 ((8 : Nat) : Int)) (esP 8) = some (esP 9) := by kernel_rfl
theorem put9 : putT Tryz.prog 9 (.string ⟨#[111, 114, 100, 101, 114]⟩) (.int .i64 ((9 : Nat) : Int)) (esP 9) = some (esP 10) := by kernel_rfl
theorem put10 : putT Tryz.prog 9 (.string ⟨#[112, 97, 100, 100, 105, 110, 103]⟩) (.int .i64 ((10 : Nat) : Int)) (esP 10) = some (esP 11) := by kernel_rfl
theorem put11 : putT Tryz.prog 9 (.string ⟨#[116, 101, 120, 116, 45, 97, 108, 105, 103, 110]⟩) (.int .i64 ((11 : Nat) : Int)) (esP 11) = some (esP 12) := by kernel_rfl
theorem put12 : putT Tryz.prog 9 (.string ⟨#[118, 105, 115, 105, 98, 105, 108, 105, 116, 121]⟩) (.int .i64 ((12 : Nat) : Int)) (esP 12) = some (esP 13) := by kernel_rfl
theorem put13 : putT Tryz.prog 9 (.string ⟨#[119, 105, 100, 116, 104]⟩) (.int .i64 ((13 : Nat) : Int)) (esP 13) = some (esP 14) := by kernel_rfl
theorem put_k : ∀ k : Nat, k < 14 -> ∀ p : PR, tblP[k]? = some p -> putT Tryz.prog 9 (.string p.n) (.int .i64 k) (esP k) = some (esP (k + 1)) := by
 intro k hk p hp
 match k, hk with
 | 0, _ => cases hp; exact put0
 | 1, _ => cases hp; exact put1
 | 2, _ => cases hp; exact put2
 | 3, _ => cases hp; exact put3
 | 4, _ => cases hp; exact put4
 | 5, _ => cases hp; exact put5
 | 6, _ => cases hp; exact put6
 | 7, _ => cases hp; exact put7
 | 8, _ => cases hp; exact put8
 | 9, _ => cases hp; exact put9
 | 10, _ => cases hp; exact put10
 | 11, _ => cases hp; exact put11
 | 12, _ => cases hp; exact put12
 | 13, _ => cases hp; exact put13
 | n + 14, hk => omega
abbrev N30 (b : V) (k : Int) : Env := [(1, b), (5, .list .no (tblP.map rowP)), (6, .v (.int .i64 14)), (7, .v (.int .i64 k))]
theorem r30 {k : Nat} {p : PR} (hlo : lo <= h.length) (hk : k < 14) (hp : tblP[k]? = some p) :
  evCode ⟨Tryz.prog, E, lo, h.length, h30⟩ loopW l30x0 (N30 (.mp h.length) k, h ++ [.tab (esP k)]) = some (.normal, N30 (.mp h.length) (k + 1 : Nat), h ++ [.tab (esP (k + 1))]) := by
 have l1 : lo <= h.length + 1 := by omega
 have hput := put_k k hk p hp
 have hgr : (tblP.map rowP)[k]? = some (rowP p) := by simp [hp]
 have q1 : decide ((k : Int) < 14) = true := by rw [decide_eq_true_iff]; omega
 have t1 : Int.toNat (k : Int) = k := by omega
 have w1 : IntKind.i64.wrap ((k : Int) + 1) = ((k + 1 : Nat) : Int) := wrap_succ (by omega)
 simp only [rowP, N30, go_sem, insertV, l30x0, b30, Tryz.f30, hlo, l1, q1, hgr, t1, w1, hput]
 all_goals rfl
theorem stop30 (hlo : lo <= h.length) : evCode ⟨Tryz.prog, E, lo, h.length, h30⟩ loopW l30x0 (N30 (.mp h.length) (14 : Nat), h ++ [.tab (esP 14)]) = some (.exit 0, N30 (.mp h.length) (14 : Nat) ++ [(8, .v (.bool false))], h ++ [.tab (esP 14)]) := by
 have l1 : lo <= h.length + 1 := by omega
 have q1 : decide (((14 : Nat) : Int) < 14) = false := rfl
 simp only [N30, go_sem, l30x0, b30, Tryz.f30, hlo, l1, q1]
 all_goals rfl
theorem loop30 (hlo : lo <= h.length) : ∀ n k : Nat, k + n = 14 ->
  loopW (evCode ⟨Tryz.prog, E, lo, h.length, h30⟩ loopW l30x0) (N30 (.mp h.length) k, h ++ [.tab (esP k)]) = some (.exit 0, N30 (.mp h.length) (14 : Nat) ++ [(8, .v (.bool false))], h ++ [.tab (esP 14)])
 | 0, k, hk => by
  obtain rfl : k = 14 := by omega
  rw [loop_eq, stop30 hlo, loop_e]
 | n + 1, k, hk => by
  have hlt : k < tblP.length := by show k < 14; omega
  rw [loop_eq, r30 hlo (by omega) (List.getElem?_eq_getElem hlt), loop_n]
  exact loop30 hlo n (k + 1) (by omega)
theorem f30 (hlo : lo <= h.length) : E lo 30 [] h = some (.mp h.length, h ++ [.tab (esP 14)]) := by
 have l1 : lo <= h.length + 1 := by omega
 have c28 := fun lo h => f28 (lo := lo) (h := h)
 have hL := loop30 (h := h) hlo 14 0 rfl
 have hn : ((tblP.map rowP).length : Int) = 14 := rfl
 have e0 : esP 0 = [] := rfl
 rw [e0] at hL
 rw [e30 (by simp) (by rfl)]
 simp only [l30x0, b30, Tryz.f30, loopAt, loops, bodyOf, N30, go_sem] at hL
 simp only [go_sem, b30, Tryz.f30, hlo, l1, c28, hn, hL]
 all_goals rfl
def atL (s : ByteArray) : List PR -> Nat -> Option Nat
 | [], _ => none
 | p :: r, i => if (s.toList == p.n.toList) = true then some i else atL s r (i + 1)
def esL : List PR -> Nat -> List (Value × Value)
 | [], _ => []
 | p :: r, i => (.string p.n, .int .i64 i) :: esL r (i + 1)
theorem findT_at (s : ByteArray) : ∀ (l : List PR) (i : Nat), findT .string (.string s) (esL l i) i = some ((atL s l i).map fun j => (j, .int .i64 j))
 | [], _ => rfl
 | p :: r, i => by
  unfold esL findT atL
  simp only [sameT]
  cases q : s.toList == p.n.toList with
  | true => simp
  | false => simp [findT_at s r (i + 1)]
theorem es_all : esP 14 = esL tblP 0 := rfl
def placeV (s : ByteArray) : V := match atL s tblP 0 with
 | some i => .tup [.v (.int .i64 i), .v (.bool true)]
 | none => .tup [.v (.int .i64 0), .v (.bool false)]
def placeP (s : ByteArray) : Int := match atL s tblP 0 with
 | some i => i
 | none => -1
theorem zero3 : zero1 Tryz.prog 3 = some (.int .i64 0) := by kernel_rfl
theorem look_at (s : ByteArray) : lookT Tryz.prog 9 3 (.string s) (esP 14) true = some (placeV s) := by
 unfold lookT
 rw [Tryz.underlying9]
 simp only [keyT, if_true, es_all, findT_at, zero3]
 unfold placeV
 cases atL s tblP 0 <;> rfl
theorem f13 {s : ByteArray} (hlo : lo <= h.length) : E lo 13 [.v (.string s)] h = some (.v (.int .i64 (placeP s)), h) := by
 have l1 : lo <= h.length + 1 := by omega
 have c30 := fun lo hlo => f30 (lo := lo) (h := h) hlo
 have hl := look_at s
 rw [e13 (by simp) (by rfl)]
 unfold placeV at hl
 unfold placeP
 cases hq : atL s tblP 0 with
 | none =>
  rw [hq] at hl
  simp only [go_sem, lookupV, b13, Tryz.f13, hlo, l1, c30, hl, Nat.le_refl]
  all_goals rfl
 | some i =>
  rw [hq] at hl
  simp only [go_sem, lookupV, b13, Tryz.f13, hlo, l1, c30, hl, Nat.le_refl]
  all_goals rfl
end Go.Lift.V1
end

section
open Go.Proofs
namespace Go.Lift.V1
variable {lo : Nat} {h : Heap}
noncomputable def wordsP (w : ByteArray) : List (List V) := (Go.Lib.fields w.data.toList).map fun l => [.v (.string ⟨l.toArray⟩)]
def compP (p : PR) : List V :=
 if (p.de == 0) = true then [.v (.int .i64 3), .v (.int .i64 0), .v (.int .i64 0), .v (.string p.ini)]
 else if (p.k == 1) = true then [.v (.int .i64 1), .v (.int .i64 p.nu), .v (.int .i64 p.de), .v (.string ⟨#[]⟩)]
 else [.v (.int .i64 2), .v (.int .i64 p.nu), .v (.int .i64 p.de), .v (.string ⟨#[]⟩)]
noncomputable def propP (p : PR) : List V := [.v (.string p.n), .v (.int .i64 p.k), .v (.bool p.d), .v (.bool p.l), .list .no (wordsP p.w)] ++ compP p
def zeroProp : List V := [.v (.string ⟨#[]⟩), .v (.int .i64 0), .v (.bool false), .v (.bool false), .list .no [], .v (.int .i64 0), .v (.int .i64 0), .v (.int .i64 0), .v (.string ⟨#[]⟩)]
theorem ascii_all : ∀ p ∈ tblP, p.w.size < 4294967281 /\ (p.w.data.toList.all fun b => decide (b.toNat < 128)) = true := by
 intro p hp
 simp only [tblP, List.mem_cons, List.not_mem_nil, or_false] at hp
 rcases hp with rfl | rfl | rfl | rfl | rfl | rfl | rfl | rfl | rfl | rfl | rfl | rfl | rfl | rfl <;> exact ⟨by decide, by decide⟩
theorem f29 {p : PR} (hp : p ∈ tblP) : E lo 29 [.v (.string p.w)] h = some (.list .no (wordsP p.w), h) := by
 refine (ev_prim (p := fieldsP) rfl).trans ?_
 unfold fieldsP wordsP
 exact if_pos (ascii_all p hp)
theorem f12a {s : ByteArray} (hlo : lo <= h.length) (hq : atL s tblP 0 = none) : E lo 12 [.v (.string s)] h = some (.tup [.agg zeroProp, .v (.bool false)], h) := by
 have l1 : lo <= h.length + 1 := by omega
 have c13 := fun lo h hlo => f13 (lo := lo) (h := h) (s := s) hlo
 unfold placeP at c13
 rw [hq] at c13
 have q : decide ((-1 : Int) < 0) = true := rfl
 rw [e12 (by simp) (by rfl)]
 simp only [go_sem, b12, Tryz.f12, hlo, l1, c13, q]
 all_goals rfl
theorem f12b {s : ByteArray} {i : Nat} {p : PR} (hlo : lo <= h.length) (hq : atL s tblP 0 = some i) (hp : tblP[i]? = some p) : E lo 12 [.v (.string s)] h = some (.tup [.agg (propP p), .v (.bool true)], h) := by
 have l1 : lo <= h.length + 1 := by omega
 have l2 : lo <= h.length + 1 + 1 := by omega
 have c13 := fun lo h hlo => f13 (lo := lo) (h := h) (s := s) hlo
 have c28 := fun lo h => f28 (lo := lo) (h := h)
 have c29 := fun lo h => f29 (lo := lo) (h := h) (List.mem_of_getElem? hp)
 unfold placeP at c13
 rw [hq] at c13
 have q : decide ((i : Int) < 0) = false := by rw [decide_eq_false_iff_not]; omega
 have hgr : (tblP.map rowP)[i]? = some (rowP p) := by simp [hp]
 have t1 : Int.toNat (i : Int) = i := by omega
 unfold propP compP
 rw [e12 (by simp) (by rfl)]
 cases hd : p.de == 0 with
 | true =>
  simp only [rowP, go_sem, b12, Tryz.f12, hlo, l1, l2, c13, c28, c29, q, hgr, t1, hd]
  all_goals rfl
 | false =>
  cases hk : p.k == 1 with
  | true =>
   simp only [rowP, go_sem, b12, Tryz.f12, hlo, l1, l2, c13, c28, c29, q, hgr, t1, hd, hk]
   all_goals rfl
  | false =>
   simp only [rowP, go_sem, b12, Tryz.f12, hlo, l1, l2, c13, c28, c29, q, hgr, t1, hd, hk]
   all_goals rfl
end Go.Lift.V1
end

section
open Go.Proofs
namespace Go.Lift.V1
open Rul
variable {lo : Nat} {h : Heap}
theorem f71 (hlo : lo <= h.length) (v : CV) : E lo 71 [.agg (rowV v)] h = some (.v (.bool (spaceC v)), h) := by
 obtain ⟨t, ks⟩ := v
 rw [rowV_eq, e71 (by simp) (by rfl)]
 simp only [go_sem, b71, Tryz.f71, hlo]
 all_goals rfl
theorem rowsC_takeL (r : List CV) : (rowsC r).take r.length = rowsC r := by rw [rowsC_take, List.take_length]
abbrev N56 (l : List CV) : Env := [(0, .list .no (rowsC l))]
theorem round57a {v : CV} {r : List CV} (hlo : lo <= h.length) :
  evCode ⟨Tryz.prog, E, lo, h.length, h57⟩ loopW l57x0 (N56 (v :: r), h) =
   if spaceC v = true then some (.normal, N56 r, h) else some (.exit 0, N56 (v :: r) ++ [(11, .v (.bool false))], h) := by
 obtain ⟨t, ks⟩ := v
 have q : decide ((0 : Int) < ((r.length + 1 : Nat) : Int)) = true := by rw [decide_eq_true_iff]; omega
 have c := fun lo hlo => f71 (lo := lo) (h := h) hlo (.mk t ks)
 rw [rowV_eq] at c
 have ca := c lo hlo; have cb := c h.length (Nat.le_refl _)
 clear c
 cases hs : spaceC (.mk t ks) with
 | true =>
  rw [hs] at ca cb
  rw [if_pos rfl]
  simp only [go_sem, l57x0, b57, Tryz.f57, hlo, q, ca, cb, rowsC_cons, rowV_eq, rowsC_len, rowsC_takeL, rowsC_all, Nat.le_refl]
  all_goals rfl
 | false =>
  rw [hs] at ca cb
  rw [if_neg (by simp)]
  simp only [N56, go_sem, l57x0, b57, Tryz.f57, hlo, q, ca, cb, rowsC_cons, rowV_eq, rowsC_len, rowsC_takeL, rowsC_all, Nat.le_refl]
  all_goals rfl
theorem stop57a (hlo : lo <= h.length) : evCode ⟨Tryz.prog, E, lo, h.length, h57⟩ loopW l57x0 (N56 [], h) = some (.exit 0, N56 [] ++ [(11, .v (.bool false))], h) := by
 have q : decide ((0 : Int) < ((0 : Nat) : Int)) = false := rfl
 simp only [N56, go_sem, l57x0, b57, Tryz.f57, hlo, q, rowsC_nil]
 all_goals rfl
theorem loop57a (hlo : lo <= h.length) : ∀ l : List CV, loopW (evCode ⟨Tryz.prog, E, lo, h.length, h57⟩ loopW l57x0) (N56 l, h) = some (.exit 0, N56 (ltrim l) ++ [(11, .v (.bool false))], h)
 | [] => by
  rw [loop_eq, stop57a hlo, loop_e]
  rfl
 | v :: r => by
  rw [loop_eq, round57a hlo]
  have hl : ltrim (v :: r) = if spaceC v = true then ltrim r else v :: r := by
   unfold ltrim
   rw [List.dropWhile_cons]
  rw [hl]
  split
  ·rw [loop_n]
   exact loop57a hlo r
  ·rw [loop_e]
theorem round57b {v : CV} {r : List CV} {ex : Env} (hex : ex = [] \/ ex = [(11, .v (.bool false))]) (hlo : lo <= h.length) (hl : r.length <= 1000000000000) :
  evCode ⟨Tryz.prog, E, lo, h.length, h57⟩ loopW l57x1 (N56 (r ++ [v]) ++ ex, h) =
   if spaceC v = true then some (.normal, N56 r, h) else some (.exit 2, N56 (r ++ [v]) ++ [(25, .v (.bool false))], h) := by
 obtain ⟨t, ks⟩ := v
 have q : decide ((0 : Int) < ((r.length + 1 : Nat) : Int)) = true := by rw [decide_eq_true_iff]; omega
 have hw : IntKind.i64.wrap (((r.length + 1 : Nat) : Int) - 1) = (r.length : Int) := by rw [wrap_i64] <;> omega
 have hg : (rowsC (r ++ [.mk t ks]))[r.length]? = some (rowV (.mk t ks)) := by rw [rowsC_get]; simp
 have ht : (rowsC (r ++ [.mk t ks])).take r.length = rowsC r := by rw [rowsC_take]; simp
 have hll : (rowsC (r ++ [.mk t ks])).length = r.length + 1 := by rw [rowsC_len]; simp
 have c := fun lo hlo => f71 (lo := lo) (h := h) hlo (.mk t ks)
 rw [rowV_eq] at c hg
 have ca := c lo hlo; have cb := c h.length (Nat.le_refl _)
 clear c
 have hra := rowsC_all (r ++ [.mk t ks])
 have hle : r.length <= r.length + 1 := by omega
 unfold N56
 generalize rowsC (r ++ [.mk t ks]) = R at *
 cases hs : spaceC (.mk t ks) with
 | true =>
  rw [hs] at ca cb
  rw [if_pos rfl]
  rcases hex with rfl | rfl
  ·simp only [go_sem, l57x1, b57, Tryz.f57, hlo, q, ca, cb, hg, ht, hll, hw, hra, hle]
   all_goals rfl
  ·simp only [go_sem, l57x1, b57, Tryz.f57, hlo, q, ca, cb, hg, ht, hll, hw, hra, hle]
   all_goals rfl
 | false =>
  rw [hs] at ca cb
  rw [if_neg (by simp)]
  rcases hex with rfl | rfl
  ·simp only [go_sem, l57x1, b57, Tryz.f57, hlo, q, ca, cb, hg, ht, hll, hw, hra, hle]
   all_goals rfl
  ·simp only [go_sem, l57x1, b57, Tryz.f57, hlo, q, ca, cb, hg, ht, hll, hw, hra, hle]
   all_goals rfl
theorem stop57b {ex : Env} (hex : ex = [] \/ ex = [(11, .v (.bool false))]) (hlo : lo <= h.length) : evCode ⟨Tryz.prog, E, lo, h.length, h57⟩ loopW l57x1 (N56 [] ++ ex, h) = some (.exit 2, N56 [] ++ [(25, .v (.bool false))], h) := by
 have q : decide ((0 : Int) < ((0 : Nat) : Int)) = false := rfl
 rcases hex with rfl | rfl
 ·simp only [N56, go_sem, l57x1, b57, Tryz.f57, hlo, q, rowsC_nil]
  all_goals rfl
 ·simp only [N56, go_sem, l57x1, b57, Tryz.f57, hlo, q, rowsC_nil]
  all_goals rfl
theorem loop57b (hlo : lo <= h.length) : ∀ (n : Nat) (l : List CV) (ex : Env), l.length = n -> n <= 1000000000000 -> (ex = [] \/ ex = [(11, .v (.bool false))]) -> loopW (evCode ⟨Tryz.prog, E, lo, h.length, h57⟩ loopW l57x1) (N56 l ++ ex, h) = some (.exit 2, N56 (rtrim l) ++ [(25, .v (.bool false))], h)
 | 0, l, ex, hn, _, hex => by
  obtain rfl := List.eq_nil_of_length_eq_zero hn
  rw [loop_eq, stop57b hex hlo, loop_e, rtrim_nil]
 | n + 1, l, ex, hn, hb, hex => by
  obtain ⟨r, v, rfl⟩ : ∃ r v, l = r ++ [v] := ⟨l.dropLast, l.getLast (by intro e; rw [e] at hn; cases hn), (List.dropLast_concat_getLast _).symm⟩
  have hr : r.length = n := by simpa using hn
  rw [loop_eq, round57b hex hlo (by omega), rtrim_snoc]
  split
  ·rw [loop_n]
   have := loop57b hlo n r [] hr (by omega) (.inl rfl)
   rwa [List.append_nil] at this
  ·rw [loop_e]
theorem f57 {l : List CV} (hlo : lo <= h.length) (hl : l.length <= 1000000000) : E lo 57 [.list .no (rowsC l)] h = some (.list .no (rowsC (trim l)), h) := by
 have h1 := loop57a (lo := lo) (h := h) hlo l
 have hl2 : (ltrim l).length <= l.length := (List.dropWhile_suffix _).length_le
 have h2 := loop57b (lo := lo) (h := h) hlo _ (ltrim l) _ rfl (by omega) (.inr rfl)
 rw [<- trim_eq] at h2
 rw [e57 (by simp) (by rfl)]
 simp only [l57x0, l57x1, b57, Tryz.f57, loopAt, loops, bodyOf, go_sem, N56] at h1 h2
 simp only [go_sem, b57, Tryz.f57, hlo, h1, h2]
 all_goals rfl
end Go.Lift.V1
end

section
open Go.Proofs
namespace Go.Lift.V1
open Utf Tok
def low (c : Int) : Int := if (decide (65 <= c) && decide (c <= 90)) = true then c + 32 else c
def bl (l : List Int) : List V := l.map fun n => .v (.int .u8 n)
theorem bl_len (l : List Int) : (bl l).length = l.length := by simp [bl]
theorem bl_get (l : List Int) (i : Nat) : (bl l)[i]? = (l[i]?).map fun n => V.v (.int .u8 n) := by simp [bl]
theorem bl_set (l : List Int) (i : Nat) (n : Int) : (bl l).set i (.v (.int .u8 n)) = bl (l.set i n) := by simp [bl, List.map_set]
theorem byteCells_u8s {l : List Int} (hy : By l) : byteCells ⟨(u8s l).toArray⟩ = bl l := by
 simp only [byteCells, u8s, bl, List.map_map]
 refine List.map_congr_left fun n hn => ?_
 have := hy n hn
 have e : ((UInt8.ofNat n.toNat).toNat : Int) = n := by
  rw [UInt8.toNat_ofNat']
  omega
 simp only [Function.comp, e]
end Go.Lift.V1
end

section
open Go.Proofs
namespace Go.Lift.V1
open Rul
open Utf (By)
variable {lo : Nat} {h : Heap}
theorem loop35 (hlo : lo <= h.length) : ∀ (n : Nat) (a b : List Int), b.length <= n -> a.length + b.length <= 1000000000000 -> By b ->
  loopW (evCode ⟨Tryz.prog, E, lo, h.length, h35⟩ loopW l35x0) ([(3, .buf h.length 0 (a.length + b.length)), (8, .buf h.length 0 (a.length + b.length)), (9, .v (.int .i64 (a.length + b.length : Nat))), (10, .v (.int .i64 a.length))], h ++ [.cells (bl (a ++ b))]) =
   some (.exit 0, [(3, .buf h.length 0 (a.length + b.length)), (8, .buf h.length 0 (a.length + b.length)), (9, .v (.int .i64 (a.length + b.length : Nat))), (10, .v (.int .i64 (a.length + b.length : Nat))), (11, .v (.bool false))], h ++ [.cells (bl (a ++ small b))]) := by
 intro n
 induction n with
 | zero =>
  intro a b hb hab hy
  obtain rfl : b = [] := List.eq_nil_of_length_eq_zero (by omega)
  have hd : decide (((a.length : Nat) : Int) < ((a.length + ([] : List Int).length : Nat) : Int)) = false := by simp
  rw [loop_eq]
  simp only [List.length_nil, Nat.add_zero] at hd ⊢
  simp only [go_sem, l35x0, b35, Tryz.f35, hd, small, List.map_nil]
 | succ n ih =>
  intro a b hb hab hy
  cases b with
  | nil =>
   have hd : decide (((a.length : Nat) : Int) < ((a.length + ([] : List Int).length : Nat) : Int)) = false := by simp
   rw [loop_eq]
   simp only [List.length_nil, Nat.add_zero] at hd ⊢
   simp only [go_sem, l35x0, b35, Tryz.f35, hd, small, List.map_nil]
  | cons c b =>
   have hcy := hy c (List.mem_cons_self ..)
   have hd : decide ((a.length : Int) < ((a.length + (c :: b).length : Nat) : Int)) = true := by simp; omega
   have hx : (bl (a ++ c :: b))[a.length]? = some (.v (.int .u8 c)) := by simp [bl_get]
   have hw : IntKind.i64.wrap ((a.length : Int) + 1) = ((a.length + 1 : Nat) : Int) := wrap_succ (by omega)
   have hlt : a.length < a.length + (c :: b).length := by simp
   have hih := ih (a ++ [lowb c]) b (by simp at hb; omega) (by simp at hab ⊢; omega) (fun x hx => hy x (List.mem_cons_of_mem _ hx))
   have el : (a ++ [lowb c]).length + b.length = a.length + (c :: b).length := by simp; omega
   have el2 : (a ++ [lowb c]).length = a.length + 1 := by simp
   have el3 : a ++ [lowb c] ++ small b = a ++ small (c :: b) := by simp [small]
   rw [el, el2, el3] at hih
   by_cases h1 : 65 <= c
   ·have q1 : decide (65 <= c) = true := by simpa using h1
    by_cases h2 : c <= 90
    ·have q2 : decide (c <= 90) = true := by simpa using h2
     have hlc : lowb c = c + 32 := by unfold lowb; rw [if_pos ⟨h1, h2⟩]
     have hs : (bl (a ++ c :: b)).set a.length (.v (.int .u8 (c + 32))) = bl (a ++ [lowb c] ++ b) := by
      rw [bl_set, hlc]
      simp
     have hwa : IntKind.u8.wrap (c + 97) = c + 97 := wrap_u8 (by omega) (by omega)
     have hwc : IntKind.u8.wrap (c + 97 - 65) = c + 32 := by rw [wrap_u8 (by omega) (by omega)]; omega
     have hbl : a.length + 1 <= (bl (a ++ c :: b)).length := by rw [bl_len]; simp
     generalize hcs : a.length + (c :: b).length = k at *
     have er : evCode ⟨Tryz.prog, E, lo, h.length, h35⟩ loopW l35x0 ([(3, .buf h.length 0 k), (8, .buf h.length 0 k), (9, .v (.int .i64 (k : Nat))), (10, .v (.int .i64 a.length))], h ++ [.cells (bl (a ++ c :: b))]) =
       some (.normal, [(3, .buf h.length 0 k), (8, .buf h.length 0 k), (9, .v (.int .i64 (k : Nat))), (10, .v (.int .i64 (a.length + 1 : Nat)))], h ++ [.cells (bl (a ++ [lowb c] ++ b))]) := by
      have hlt' : (a.length : Int) < k := by omega
      have h0' : (0 : Int) <= a.length := by omega
      simp only [go_sem, l35x0, b35, Tryz.f35, hd, hx, hw, q1, q2, hwa, hwc, hs, hlo, hlt, hlt', h0', hbl, Nat.zero_add, Int.toNat_natCast, and_self]
      all_goals rfl
     rw [loop_eq, er, loop_n]
     exact hih
    ·have q2 : decide (c <= 90) = false := by simpa using h2
     have hlc : lowb c = c := by unfold lowb; rw [if_neg (by omega)]
     rw [hlc] at hih
     generalize hcs : a.length + (c :: b).length = k at *
     have er : evCode ⟨Tryz.prog, E, lo, h.length, h35⟩ loopW l35x0 ([(3, .buf h.length 0 k), (8, .buf h.length 0 k), (9, .v (.int .i64 (k : Nat))), (10, .v (.int .i64 a.length))], h ++ [.cells (bl (a ++ c :: b))]) =
       some (.normal, [(3, .buf h.length 0 k), (8, .buf h.length 0 k), (9, .v (.int .i64 (k : Nat))), (10, .v (.int .i64 (a.length + 1 : Nat)))], h ++ [.cells (bl (a ++ c :: b))]) := by
      have hlt' : (a.length : Int) < k := by omega
      have h0' : (0 : Int) <= a.length := by omega
      simp only [go_sem, l35x0, b35, Tryz.f35, hd, hx, hw, q1, q2, hlo, hlt, hlt', h0', Nat.zero_add, Int.toNat_natCast, and_self]
      all_goals rfl
     rw [loop_eq, er, loop_n]
     have e4 : a ++ c :: b = a ++ [c] ++ b := by simp
     rw [e4]
     exact hih
   ·have q1 : decide (65 <= c) = false := by simpa using h1
    have hlc : lowb c = c := by unfold lowb; rw [if_neg (by omega)]
    rw [hlc] at hih
    generalize hcs : a.length + (c :: b).length = k at *
    have er : evCode ⟨Tryz.prog, E, lo, h.length, h35⟩ loopW l35x0 ([(3, .buf h.length 0 k), (8, .buf h.length 0 k), (9, .v (.int .i64 (k : Nat))), (10, .v (.int .i64 a.length))], h ++ [.cells (bl (a ++ c :: b))]) =
      some (.normal, [(3, .buf h.length 0 k), (8, .buf h.length 0 k), (9, .v (.int .i64 (k : Nat))), (10, .v (.int .i64 (a.length + 1 : Nat)))], h ++ [.cells (bl (a ++ c :: b))]) := by
     have hlt' : (a.length : Int) < k := by omega
     have h0' : (0 : Int) <= a.length := by omega
     simp only [go_sem, l35x0, b35, Tryz.f35, hd, hx, hw, q1, hlo, hlt, hlt', h0', Nat.zero_add, Int.toNat_natCast, and_self]
     all_goals rfl
    rw [loop_eq, er, loop_n]
    have e4 : a ++ c :: b = a ++ [c] ++ b := by simp
    rw [e4]
    exact hih
theorem f35 {l : List Int} (hlo : lo <= h.length) (hl : l.length <= 1000000000000) (hy : By l) : E lo 35 [.v (.string (Rul.bs l))] h = some (.v (.string (Rul.bs (small l))), h) := by
 have hL := loop35 (lo := lo) (h := h) hlo l.length [] l (Nat.le_refl _) (by simpa using hl) hy
 have hz : (⟨(u8s l).toArray⟩ : ByteArray).size = l.length := by simp [ByteArray.size, u8s]
 have hsl : (small l).length = l.length := List.length_map _
 rw [e35 (by simp) (by rfl)]
 simp only [l35x0, b35, Tryz.f35, loopAt, loops, bodyOf, go_sem, List.length_nil, Nat.zero_add, List.nil_append] at hL
 have hb1 : decide (0 + l.length <= (bl (small l)).length) = true := by rw [bl_len, hsl]; simp
 have hb2 : ((bl (small l)).take l.length).map (fun x => [x]) = ri .u8 (small l) := by
  rw [List.take_of_length_le (by rw [bl_len, hsl]; exact Nat.le_refl _)]
  simp [bl, ri]
 simp only [go_sem, b35, Tryz.f35, hz, Rul.bs, byteCells_u8s hy, hL, hb1, hb2, List.nil_append]
 all_goals rfl
end Go.Lift.V1
end

section
namespace Go.Lift.Rul
def wVar : List Int := [118, 97, 114]
def useC (t : Tk4) : Bool := t.k == 2 && small t.b == wVar
mutual
def varV : CV -> Bool
 | .mk t kids => useC t || varL kids
def varL : List CV -> Bool
 | [] => false
 | v :: r => varV v || varL r
end
mutual
def okCV : CV -> Prop
 | .mk t kids => (Utf.By t.b /\ t.b.length <= 1000000000 /\ kids.length <= 1000000000) /\ okCL kids
def okCL : List CV -> Prop
 | [] => True
 | v :: r => okCV v /\ okCL r
end
end Go.Lift.Rul
end

section
open Go.Proofs
namespace Go.Lift.V1
open Rul
open Utf (By)
variable {lo : Nat} {h : Heap}
theorem rowV_eq (t : Tk4) (kids : List CV) : rowV (.mk t kids) = [.v (.int .i64 t.k), .v (.string (Rul.bs t.b)), .v (.int .i64 t.n), .v (.int .i64 t.d), .v (.bool t.w), .v (.bool t.i), .list .no (rowsC kids)] := by rw [rowV]; rfl
theorem by_small' {l : List Int} (h : By l) : By (small l) := fun c hc => by
 obtain ⟨x, hx, rfl⟩ := List.mem_map.1 hc
 have := h x hx
 unfold lowb
 split <;> omega
theorem u8s_inj : ∀ {a b : List Int}, By a -> By b -> u8s a = u8s b -> a = b
 | [], [], _, _, _ => rfl
 | [], y :: b, _, _, h => by cases h
 | x :: a, [], _, _, h => by cases h
 | x :: a, y :: b, ha, hb, h => by
  simp only [u8s, List.map_cons, List.cons.injEq] at h
  have hx := ha x (by simp)
  have hy := hb y (by simp)
  have e : x = y := by
   have := congrArg UInt8.toNat h.1
   simp only [UInt8.toNat_ofNat'] at this
   omega
  rw [e, u8s_inj (fun c hc => ha c (by simp [hc])) (fun c hc => hb c (by simp [hc])) h.2]
theorem rbs_list (b : List Int) : (Rul.bs b).toList = u8s b := by simp only [Rul.bs, ByteArray.toList_eq]
theorem bs_beq' {a b : List Int} (ha : By a) (hb : By b) : ((Rul.bs a).toList == (Rul.bs b).toList) = (a == b) := by
 rw [rbs_list, rbs_list, Bool.eq_iff_iff, beq_iff_eq, beq_iff_eq]
 exact ⟨u8s_inj ha hb, fun h => by rw [h]⟩
theorem k_var : (⟨#[118, 97, 114]⟩ : ByteArray) = Rul.bs wVar := rfl
theorem f23 {t : Tk4} {kids : List CV} (hy : By t.b) (hl : t.b.length <= 1000000000) (hlo : lo <= h.length) : E lo 23 [.agg (rowV (.mk t kids))] h = some (.v (.bool (useC t)), h) := by
 have l1 : lo <= h.length + 1 := by omega
 have c35 := fun lo h hlo => f35 (lo := lo) (h := h) (l := t.b) hlo (by omega) hy
 have q := bs_beq' (by_small' hy) (show By wVar by intro c hc; simp [wVar] at hc; omega)
 rw [e23 (by simp) (by rfl), rowV_eq]
 unfold useC
 cases hk : t.k == 2 with
 | false =>
  simp only [go_sem, b23, Tryz.f23, hlo, l1, hk, Bool.false_and]
  all_goals rfl
 | true =>
  rw [Bool.true_and]
  simp only [go_sem, b23, Tryz.f23, hlo, l1, hk, c35, k_var, q]
  all_goals rfl
def V7 (l : List CV) : Prop := ∀ lo h, lo <= h.length -> E lo 7 [.list .no (rowsC l)] h = some (.v (.bool (varL l)), h)
def V22 (v : CV) : Prop := ∀ lo h, lo <= h.length -> E lo 22 [.agg (rowV v)] h = some (.v (.bool (varV v)), h)
theorem f22 {t : Tk4} {kids : List CV} (hy : By t.b) (hl : t.b.length <= 1000000000) (hk : V7 kids) : V22 (.mk t kids) := by
 intro lo h hlo
 have l1 : lo <= h.length + 1 := by omega
 have c23 := fun lo h hlo => f23 (lo := lo) (h := h) (kids := kids) hy hl hlo
 have c7 := fun lo h hlo => hk lo h hlo
 rw [rowV_eq] at c23 ⊢
 rw [e22 (by simp) (by rfl), varV]
 cases hu : useC t with
 | true =>
  rw [hu] at c23
  simp only [go_sem, b22, Tryz.f22, hlo, l1, c23, Bool.true_or]
  all_goals rfl
 | false =>
  rw [hu] at c23
  rw [Bool.false_or]
  simp only [go_sem, b22, Tryz.f22, hlo, l1, c23, c7]
  all_goals rfl
noncomputable abbrev X41 (lo : Nat) (h : Heap) : Go.Lift.Cx := ⟨Tryz.prog, E, lo, h.length, h41⟩
abbrev N41 (l : List CV) (k : Int) : Env := [(0, .list .no (rowsC l)), (1, .fn 22 []), (7, .v (.int .i64 l.length)), (8, .v (.int .i64 k))]
theorem r41 {l : List CV} {v : CV} {k : Nat} (hlo : lo <= h.length) (hl : l.length <= 1000000000) (hg : l[k]? = some v) (hc : V22 v) :
  evCode (X41 lo h) loopW l41x0 (N41 l k, h) = if varV v = true then some (.ret, [(4, .v (.int .i64 k))], h) else some (.normal, N41 l (k + 1 : Nat), h) := by
 have hlt : k < l.length := (List.getElem?_eq_some_iff.1 hg).1
 have hgr : (rowsC l)[k]? = some (rowV v) := by simp [rowsC_map, hg]
 have c22 := fun lo h hlo => hc lo h hlo
 obtain ⟨t, kids⟩ := v
 rw [rowV_eq] at hgr c22
 have q1 : decide ((k : Int) < (l.length : Int)) = true := by simp; omega
 have hw : IntKind.i64.wrap ((k : Int) + 1) = ((k + 1 : Nat) : Int) := wrap_succ (by omega)
 cases hv : varV (.mk t kids) with
 | true =>
  rw [hv] at c22
  rw [if_pos rfl]
  simp only [go_sem, l41x0, b41, Tryz.f41, hlo, q1, hgr, hw, c22]
  all_goals rfl
 | false =>
  rw [hv] at c22
  rw [if_neg (by simp)]
  simp only [go_sem, l41x0, b41, Tryz.f41, hlo, q1, hgr, hw, c22]
  all_goals rfl
end Go.Lift.V1
end

section
open Go.Proofs
namespace Go.Lift.V1
open Rul
open Utf (By)
variable {lo : Nat} {h : Heap}
theorem rbs_size (l : List Int) : (Rul.bs l).size = l.length := by simp [Rul.bs, ByteArray.size, u8s]
def custR : List Int -> Bool
 | a :: b :: _ :: _ => a == 45 && b == 45
 | _ => false
theorem rowsC_cons (v : CV) (l : List CV) : rowsC (v :: l) = rowV v :: rowsC l := by rw [rowsC]
theorem rowsC_nil : rowsC [] = [] := by rw [rowsC]
def okRest (l : List CV) : Bool := match trim l with
 | [] => true
 | .mk w _ :: _ => w.k == 18
def useOk (kids : List CV) : Bool := match trim kids with
 | [] => false
 | .mk u _ :: r => u.k == 1 && custR u.b && okRest r
end Go.Lift.V1
end

section
open Go.Proofs
namespace Go.Lift.V1
variable {lo : Nat} {h : Heap}
def cellsP (n : ByteArray) (k : Int) (d l : Bool) (ws : List ByteArray) (ck a b : Int) (w : ByteArray) : List V :=
 [.v (.string n), .v (.int .i64 k), .v (.bool d), .v (.bool l), .list .no (ws.map fun x => [.v (.string x)]), .v (.int .i64 ck), .v (.int .i64 a), .v (.int .i64 b), .v (.string w)]
section
variable {n : ByteArray} {k : Int} {d l : Bool} {ws : List ByteArray} {ck a b : Int} {w : ByteArray}
end
theorem wid_pos (s : ByteArray) (p : Nat) : 1 <= (Utf8.decode s p).2 := by
 unfold Utf8.decode
 simp only
 repeat' split
 all_goals first | omega | simp
end Go.Lift.V1
end

section
open Go.Proofs
namespace Go.Lift.V1
open Rul
open Utf (By)
variable {lo : Nat} {h : Heap}
def dash2 : ByteArray := ⟨#[45, 45]⟩
theorem ex2 {L : List Int} (hy : By L) (hl : 2 < L.length) : (((Rul.bs L).extract 0 2).toList == dash2.toList) = custR L := by
 match L, hl with
 | a :: b :: c :: r, _ =>
  have ha := hy a (by simp)
  have hb := hy b (by simp)
  have e : ((Rul.bs (a :: b :: c :: r)).extract 0 2) = Rul.bs [a, b] := by
   apply ByteArray.ext
   simp [Rul.bs, u8s]
  have e2 : dash2 = Rul.bs [45, 45] := rfl
  rw [e, e2, bs_beq' (by intro x hx; simp at hx; omega) (by intro x hx; simp at hx; omega)]
  unfold custR
  simp
theorem f53 {L : List Int} (hy : By L) (hl : 2 < L.length) (hlo : lo <= h.length) : E lo 53 [.v (.string (Rul.bs L)), .v (.string dash2)] h = some (.v (.bool (custR L)), h) := by
 have q1 : decide (((2 : Nat) : Int) <= (L.length : Int)) = true := by rw [decide_eq_true_iff]; omega
 have q2 : (2 <= L.length) = True := by simp; omega
 have z2 : (0 <= ((2 : Nat) : Int)) = True := by simp
 have t2 : Int.toNat ((2 : Nat) : Int) = 2 := rfl
 have s2 : dash2.size = 2 := rfl
 have hx := ex2 hy hl
 rw [e53 (by simp) (by rfl)]
 simp only [go_sem, b53, Tryz.f53, hlo, rbs_size, q1, q2, z2, t2, s2, hx]
 all_goals rfl
theorem f31 {L : List Int} (hy : By L) (hl : 2 < L.length) (hlo : lo <= h.length) : E lo 31 [.v (.string (Rul.bs L)), .v (.string dash2)] h = some (.v (.bool (custR L)), h) := by
 have c := fun lo h hlo => f53 (lo := lo) (h := h) hy hl hlo
 rw [e31 (by simp) (by rfl)]
 simp only [go_sem, b31, Tryz.f31, hlo, c]
 all_goals rfl
abbrev N15 (h : Heap) (L : List Int) (ex : Env) : Env := [(0, .v (.string (Rul.bs L))), (5, .ptr h.length 0)] ++ ex
abbrev X15 (h : Heap) (L : List Int) : Env := [(0, .v (.string (Rul.bs L))), (5, .ptr h.length 0), (6, .tup [.v (.bool false)]), (7, .v (.bool false))]
theorem r15 {L : List Int} {pos : Nat} {ex : Env} (hlo : lo <= h.length) (hp : pos < L.length) (hl : L.length <= 1000000000000) (h2 : ((pos : Int) == 2) = false) (hx : ex = [] \/ ex = [(10, .v (.bool false))]) :
  evCode ⟨Tryz.prog, E, lo, h.length, h15⟩ loopW l15x0 (N15 h L ex, h ++ [.iter (Rul.bs L) pos]) = some (.normal, N15 h L [(10, .v (.bool false))], h ++ [.iter (Rul.bs L) (pos + (Utf8.decode (Rul.bs L) pos).2)]) := by
 have l1 : lo <= h.length + 1 := by omega
 rcases hx with rfl | rfl <;>
 simp only [N15, go_sem, l15x0, b15, Tryz.f15, hlo, l1, rbs_size, hp, h2] <;> rfl
theorem r15t {L : List Int} {ex : Env} (hy : By L) (hlo : lo <= h.length) (hp : 2 < L.length) (hl : L.length <= 1000000000000) (hx : ex = [] \/ ex = [(10, .v (.bool false))]) :
  evCode ⟨Tryz.prog, E, lo, h.length, h15⟩ loopW l15x0 (N15 h L ex, h ++ [.iter (Rul.bs L) 2]) = some (.ret, [(2, .v (.bool (custR L)))], h ++ [.iter (Rul.bs L) (2 + (Utf8.decode (Rul.bs L) 2).2)]) := by
 have l1 : lo <= h.length + 1 := by omega
 have c := fun lo h hlo => f31 (lo := lo) (h := h) hy hp hlo
 unfold dash2 at c
 have h2 : (((2 : Nat) : Int) == 2) = true := rfl
 rcases hx with rfl | rfl <;>
 simp only [N15, go_sem, l15x0, b15, Tryz.f15, hlo, l1, rbs_size, hp, h2, c] <;> rfl
theorem r15s {L : List Int} {pos : Nat} {ex : Env} (hlo : lo <= h.length) (hp : ¬ pos < L.length) (hx : ex = [] \/ ex = [(10, .v (.bool false))]) :
  evCode ⟨Tryz.prog, E, lo, h.length, h15⟩ loopW l15x0 (N15 h L ex, h ++ [.iter (Rul.bs L) pos]) = some (.exit 0, X15 h L, h ++ [.iter (Rul.bs L) pos]) := by
 have l1 : lo <= h.length + 1 := by omega
 rcases hx with rfl | rfl <;>
 simp only [N15, go_sem, l15x0, b15, Tryz.f15, hlo, l1, rbs_size, hp] <;> rfl
theorem loop15f {L : List Int} (hy : By L) (hlo : lo <= h.length) (hl : L.length <= 1000000000000) (hc : custR L = false) : ∀ (n pos : Nat) (ex : Env), L.length <= pos + n -> (ex = [] \/ ex = [(10, .v (.bool false))]) ->
  ∃ p, loopW (evCode ⟨Tryz.prog, E, lo, h.length, h15⟩ loopW l15x0) (N15 h L ex, h ++ [.iter (Rul.bs L) pos]) = some (.exit 0, X15 h L, h ++ [.iter (Rul.bs L) p]) \/
   loopW (evCode ⟨Tryz.prog, E, lo, h.length, h15⟩ loopW l15x0) (N15 h L ex, h ++ [.iter (Rul.bs L) pos]) = some (.ret, [(2, .v (.bool false))], h ++ [.iter (Rul.bs L) p])
 | 0, pos, ex, hn, hx => ⟨pos, .inl (by rw [loop_eq, r15s hlo (by omega) hx, loop_e])⟩
 | n + 1, pos, ex, hn, hx => by
  by_cases hp : pos < L.length
  ·by_cases h2 : pos = 2
   ·subst h2
    refine ⟨2 + (Utf8.decode (Rul.bs L) 2).2, .inr ?_⟩
    rw [loop_eq, r15t hy hlo hp hl hx, loop_r, hc]
   ·have hw := wid_pos (Rul.bs L) pos
    rw [loop_eq, r15 hlo hp hl (by rw [beq_eq_false_iff_ne]; omega) hx, loop_n]
    exact loop15f hy hlo hl hc n _ _ (by omega) (.inr rfl)
  ·exact ⟨pos, .inl (by rw [loop_eq, r15s hlo hp hx, loop_e])⟩
theorem dec_ascii {s : ByteArray} {p : Nat} (hb : (s.get! p).toNat < 128) : (Utf8.decode s p).2 = 1 := by
 unfold Utf8.decode
 simp only [Nat.add_zero]
 rw [if_pos hb]
theorem loop15t {L : List Int} (hy : By L) (hlo : lo <= h.length) (hl : L.length <= 1000000000000) (hc : custR L = true) :
  ∃ p, loopW (evCode ⟨Tryz.prog, E, lo, h.length, h15⟩ loopW l15x0) (N15 h L [], h ++ [.iter (Rul.bs L) 0]) = some (.ret, [(2, .v (.bool true))], h ++ [.iter (Rul.bs L) p]) := by
 match L, hy, hl, hc with
 | a :: b :: c :: r, hy, hl, hc =>
  have hc' := hc
  unfold custR at hc'
  simp only [Bool.and_eq_true, beq_iff_eq] at hc'
  obtain ⟨rfl, rfl⟩ := hc'
  have g0 : ((Rul.bs (45 :: 45 :: c :: r)).get! 0).toNat < 128 := by simp [Rul.bs, u8s, ByteArray.get!]
  have g1 : ((Rul.bs (45 :: 45 :: c :: r)).get! 1).toNat < 128 := by simp [Rul.bs, u8s, ByteArray.get!]
  refine ⟨2 + (Utf8.decode (Rul.bs (45 :: 45 :: c :: r)) 2).2, ?_⟩
  rw [loop_eq, r15 hlo (by simp) hl rfl (.inl rfl), loop_n, dec_ascii g0, loop_eq, r15 hlo (by simp) hl rfl (.inr rfl), loop_n, dec_ascii g1, show (0 + 1 + 1 : Nat) = 2 from rfl, loop_eq, r15t hy hlo (by simp) hl (.inr rfl), loop_r, hc]
theorem f15 {L : List Int} (hy : By L) (hlo : lo <= h.length) (hl : L.length <= 1000000000000) : E lo 15 [.v (.string (Rul.bs L))] h = some (.v (.bool (custR L)), h) := by
 have l1 : lo <= h.length + 1 := by omega
 rw [e15 (by simp) (by rfl)]
 cases hc : custR L with
 | true =>
  obtain ⟨p, hL⟩ := loop15t (h := h) hy hlo hl hc
  simp only [l15x0, b15, Tryz.f15, loopAt, loops, bodyOf, N15, X15, List.append_nil, go_sem] at hL
  simp only [go_sem, b15, Tryz.f15, hlo, l1, hL]
  all_goals rfl
 | false =>
  obtain ⟨p, hL | hL⟩ := loop15f (h := h) hy hlo hl hc L.length 0 [] (by omega) (.inl rfl)
  ·simp only [l15x0, b15, Tryz.f15, loopAt, loops, bodyOf, N15, X15, List.append_nil, go_sem] at hL
   simp only [go_sem, b15, Tryz.f15, hlo, l1, hL]
   all_goals rfl
  ·simp only [l15x0, b15, Tryz.f15, loopAt, loops, bodyOf, N15, X15, List.append_nil, go_sem] at hL
   simp only [go_sem, b15, Tryz.f15, hlo, l1, hL]
   all_goals rfl
end Go.Lift.V1
end

section
open Go.Proofs
namespace Go.Lift.V1
open Rul
open Utf (By)
variable {lo : Nat} {h : Heap}
theorem loop96 (hlo : lo <= h.length) : ∀ (n : Nat) (a b : List Int), b.length <= n -> a.length + b.length <= 1000000000000 -> By b ->
  loopW (evCode ⟨Tryz.prog, E, lo, h.length, h96⟩ loopW l96x0) ([(3, .buf h.length 0 (a.length + b.length)), (8, .buf h.length 0 (a.length + b.length)), (9, .v (.int .i64 (a.length + b.length : Nat))), (10, .v (.int .i64 a.length))], h ++ [.cells (bl (a ++ b))]) =
   some (.exit 0, [(3, .buf h.length 0 (a.length + b.length)), (8, .buf h.length 0 (a.length + b.length)), (9, .v (.int .i64 (a.length + b.length : Nat))), (10, .v (.int .i64 (a.length + b.length : Nat))), (11, .v (.bool false))], h ++ [.cells (bl (a ++ small b))]) := by
 intro n
 induction n with
 | zero =>
  intro a b hb hab hy
  obtain rfl : b = [] := List.eq_nil_of_length_eq_zero (by omega)
  have hd : decide (((a.length : Nat) : Int) < ((a.length + ([] : List Int).length : Nat) : Int)) = false := by simp
  rw [loop_eq]
  simp only [List.length_nil, Nat.add_zero] at hd ⊢
  simp only [go_sem, l96x0, b96, Tryz.f96, hd, small, List.map_nil]
 | succ n ih =>
  intro a b hb hab hy
  cases b with
  | nil =>
   have hd : decide (((a.length : Nat) : Int) < ((a.length + ([] : List Int).length : Nat) : Int)) = false := by simp
   rw [loop_eq]
   simp only [List.length_nil, Nat.add_zero] at hd ⊢
   simp only [go_sem, l96x0, b96, Tryz.f96, hd, small, List.map_nil]
  | cons c b =>
   have hcy := hy c (List.mem_cons_self ..)
   have hd : decide ((a.length : Int) < ((a.length + (c :: b).length : Nat) : Int)) = true := by simp; omega
   have hx : (bl (a ++ c :: b))[a.length]? = some (.v (.int .u8 c)) := by simp [bl_get]
   have hw : IntKind.i64.wrap ((a.length : Int) + 1) = ((a.length + 1 : Nat) : Int) := wrap_succ (by omega)
   have hlt : a.length < a.length + (c :: b).length := by simp
   have hih := ih (a ++ [lowb c]) b (by simp at hb; omega) (by simp at hab ⊢; omega) (fun x hx => hy x (List.mem_cons_of_mem _ hx))
   have el : (a ++ [lowb c]).length + b.length = a.length + (c :: b).length := by simp; omega
   have el2 : (a ++ [lowb c]).length = a.length + 1 := by simp
   have el3 : a ++ [lowb c] ++ small b = a ++ small (c :: b) := by simp [small]
   rw [el, el2, el3] at hih
   by_cases h1 : 65 <= c
   ·have q1 : decide (65 <= c) = true := by simpa using h1
    by_cases h2 : c <= 90
    ·have q2 : decide (c <= 90) = true := by simpa using h2
     have hlc : lowb c = c + 32 := by unfold lowb; rw [if_pos ⟨h1, h2⟩]
     have hs : (bl (a ++ c :: b)).set a.length (.v (.int .u8 (c + 32))) = bl (a ++ [lowb c] ++ b) := by
      rw [bl_set, hlc]
      simp
     have hwa : IntKind.u8.wrap (c + 97) = c + 97 := wrap_u8 (by omega) (by omega)
     have hwc : IntKind.u8.wrap (c + 97 - 65) = c + 32 := by rw [wrap_u8 (by omega) (by omega)]; omega
     have hbl : a.length + 1 <= (bl (a ++ c :: b)).length := by rw [bl_len]; simp
     generalize hcs : a.length + (c :: b).length = k at *
     have er : evCode ⟨Tryz.prog, E, lo, h.length, h96⟩ loopW l96x0 ([(3, .buf h.length 0 k), (8, .buf h.length 0 k), (9, .v (.int .i64 (k : Nat))), (10, .v (.int .i64 a.length))], h ++ [.cells (bl (a ++ c :: b))]) =
       some (.normal, [(3, .buf h.length 0 k), (8, .buf h.length 0 k), (9, .v (.int .i64 (k : Nat))), (10, .v (.int .i64 (a.length + 1 : Nat)))], h ++ [.cells (bl (a ++ [lowb c] ++ b))]) := by
      have hlt' : (a.length : Int) < k := by omega
      have h0' : (0 : Int) <= a.length := by omega
      simp only [go_sem, l96x0, b96, Tryz.f96, hd, hx, hw, q1, q2, hwa, hwc, hs, hlo, hlt, hlt', h0', hbl, Nat.zero_add, Int.toNat_natCast, and_self]
      all_goals rfl
     rw [loop_eq, er, loop_n]
     exact hih
    ·have q2 : decide (c <= 90) = false := by simpa using h2
     have hlc : lowb c = c := by unfold lowb; rw [if_neg (by omega)]
     rw [hlc] at hih
     generalize hcs : a.length + (c :: b).length = k at *
     have er : evCode ⟨Tryz.prog, E, lo, h.length, h96⟩ loopW l96x0 ([(3, .buf h.length 0 k), (8, .buf h.length 0 k), (9, .v (.int .i64 (k : Nat))), (10, .v (.int .i64 a.length))], h ++ [.cells (bl (a ++ c :: b))]) =
       some (.normal, [(3, .buf h.length 0 k), (8, .buf h.length 0 k), (9, .v (.int .i64 (k : Nat))), (10, .v (.int .i64 (a.length + 1 : Nat)))], h ++ [.cells (bl (a ++ c :: b))]) := by
      have hlt' : (a.length : Int) < k := by omega
      have h0' : (0 : Int) <= a.length := by omega
      simp only [go_sem, l96x0, b96, Tryz.f96, hd, hx, hw, q1, q2, hlo, hlt, hlt', h0', Nat.zero_add, Int.toNat_natCast, and_self]
      all_goals rfl
     rw [loop_eq, er, loop_n]
     have e4 : a ++ c :: b = a ++ [c] ++ b := by simp
     rw [e4]
     exact hih
   ·have q1 : decide (65 <= c) = false := by simpa using h1
    have hlc : lowb c = c := by unfold lowb; rw [if_neg (by omega)]
    rw [hlc] at hih
    generalize hcs : a.length + (c :: b).length = k at *
    have er : evCode ⟨Tryz.prog, E, lo, h.length, h96⟩ loopW l96x0 ([(3, .buf h.length 0 k), (8, .buf h.length 0 k), (9, .v (.int .i64 (k : Nat))), (10, .v (.int .i64 a.length))], h ++ [.cells (bl (a ++ c :: b))]) =
      some (.normal, [(3, .buf h.length 0 k), (8, .buf h.length 0 k), (9, .v (.int .i64 (k : Nat))), (10, .v (.int .i64 (a.length + 1 : Nat)))], h ++ [.cells (bl (a ++ c :: b))]) := by
     have hlt' : (a.length : Int) < k := by omega
     have h0' : (0 : Int) <= a.length := by omega
     simp only [go_sem, l96x0, b96, Tryz.f96, hd, hx, hw, q1, hlo, hlt, hlt', h0', Nat.zero_add, Int.toNat_natCast, and_self]
     all_goals rfl
    rw [loop_eq, er, loop_n]
    have e4 : a ++ c :: b = a ++ [c] ++ b := by simp
    rw [e4]
    exact hih
theorem f96 {l : List Int} (hlo : lo <= h.length) (hl : l.length <= 1000000000000) (hy : By l) : E lo 96 [.v (.string (Rul.bs l))] h = some (.v (.string (Rul.bs (small l))), h) := by
 have hL := loop96 (lo := lo) (h := h) hlo l.length [] l (Nat.le_refl _) (by simpa using hl) hy
 have hz : (⟨(u8s l).toArray⟩ : ByteArray).size = l.length := by simp [ByteArray.size, u8s]
 have hsl : (small l).length = l.length := List.length_map _
 rw [e96 (by simp) (by rfl)]
 simp only [l96x0, b96, Tryz.f96, loopAt, loops, bodyOf, go_sem, List.length_nil, Nat.zero_add, List.nil_append] at hL
 have hb1 : decide (0 + l.length <= (bl (small l)).length) = true := by rw [bl_len, hsl]; simp
 have hb2 : ((bl (small l)).take l.length).map (fun x => [x]) = ri .u8 (small l) := by
  rw [List.take_of_length_le (by rw [bl_len, hsl]; exact Nat.le_refl _)]
  simp [bl, ri]
 simp only [go_sem, b96, Tryz.f96, hz, Rul.bs, byteCells_u8s hy, hL, hb1, hb2, List.nil_append]
 all_goals rfl
end Go.Lift.V1
end

section
namespace Go.Lift.Tok
open Utf
structure Nm where
 sg : List Int
 d1 : List Int
 fr : List Int
 ex : List Int
 d3 : List Int
def numP (s : List Int) : Nm × List Int :=
 let a := if (chr s 0 == 43 || chr s 0 == 45) = true then s.drop 1 else s
 let b := a.dropWhile dig
 let f := (chr b 0 == 46 && dig (chr b 1))
 let c := if f = true then (b.drop 1).dropWhile dig else b
 let k := if (chr c 1 == 43 || chr c 1 == 45) = true then 2 else 1
 let x := ((chr c 0 == 101 || chr c 0 == 69) && dig (chr c k))
 (⟨if (chr s 0 == 43 || chr s 0 == 45) = true then s.take 1 else [], a.takeWhile dig, if f = true then (b.drop 1).takeWhile dig else [],
  if x = true then c.take k else [], if x = true then (c.drop k).takeWhile dig else []⟩, if x = true then (c.drop k).dropWhile dig else c)
end Go.Lift.Tok
end

section
namespace Go.Lift.Spell
open Utf Tok
def sureR (n d : Int) : Bool := decide (1 <= d) && n != -9223372036854775808 && Nat.gcd n.natAbs d.toNat == 1
def mayR (n d : Int) : Bool := (n == 0 && d == 0) || sureR n d
end Go.Lift.Spell
end

section
open Go.Proofs
namespace Go.Lift.V1
open Utf Tok Spell
theorem wrap_u64 {n : Int} (h0 : 0 <= n) (h1 : n <= 18446744073709551615) : IntKind.u64.wrap n = n := by
 simp only [IntKind.wrap, IntKind.signed, IntKind.bits]
 simp
 omega
theorem wrap_u64m {n : Int} (h0 : -9223372036854775808 <= n) (h1 : n < 0) : IntKind.u64.wrap n = n + 18446744073709551616 := by
 simp only [IntKind.wrap, IntKind.signed, IntKind.bits]
 simp
 omega
section
variable {lo : Nat} {h : Heap}
theorem f131 {n : Int} (h0 : -9223372036854775808 <= n) (h1 : n <= 9223372036854775807) : E lo 131 [.v (.int .i64 n)] h = some (.v (.int .u64 n.natAbs), h) := by
 rw [e131 (by simp) (by rfl)]
 by_cases hn : n < 0
 ·have q : decide (n < 0) = true := by simp [hn]
  have w1 : IntKind.u64.wrap n = n + 18446744073709551616 := wrap_u64m h0 hn
  have w2 : IntKind.u64.wrap (0 - (n + 18446744073709551616)) = (n.natAbs : Int) := by
   simp only [IntKind.wrap, IntKind.signed, IntKind.bits]
   simp
   omega
  simp only [go_sem, b131, Tryz.f131, q, w1, w2]
  all_goals rfl
 ·have q : decide (n < 0) = false := by simp; omega
  have w1 : IntKind.u64.wrap n = (n.natAbs : Int) := by rw [wrap_u64 (by omega) (by omega)]; omega
  simp only [go_sem, b131, Tryz.f131, q, w1]
  all_goals rfl
theorem tmod_nat (a b : Nat) : ((b : Int).tmod (a : Int)) = ((b % a : Nat) : Int) := by
 rw [Int.tmod_eq_emod_of_nonneg (by omega)]; rfl
theorem loop130 : ∀ (m a b : Nat), a <= m -> loopW (evCode ⟨Tryz.prog, E, lo, h.length, h130⟩ loopW l130x0) ([(0, .v (.int .u64 a)), (1, .v (.int .u64 b))], h) =
  some (.exit 0, [(0, .v (.int .u64 0)), (1, .v (.int .u64 (Nat.gcd a b))), (6, .v (.bool false))], h) := by
 have stop : ∀ b : Nat, loopW (evCode ⟨Tryz.prog, E, lo, h.length, h130⟩ loopW l130x0) ([(0, .v (.int .u64 (0 : Nat))), (1, .v (.int .u64 b))], h) =
  some (.exit 0, [(0, .v (.int .u64 0)), (1, .v (.int .u64 (Nat.gcd 0 b))), (6, .v (.bool false))], h) := by
  intro b
  have q : (((0 : Nat) : Int) != 0) = false := rfl
  rw [loop_eq, Nat.gcd_zero_left]
  simp only [go_sem, l130x0, b130, Tryz.f130, q]
  all_goals rfl
 intro m
 induction m with
 | zero =>
  intro a b ha
  obtain rfl : a = 0 := by omega
  exact stop b
 | succ m ih =>
  intro a b ha
  by_cases h0 : a = 0
  ·subst h0; exact stop b
  have q : ((a : Int) != 0) = true := by simp; omega
  have z : ¬ ((a : Int) = 0) := by omega
  have t := tmod_nat a b
  have er : evCode ⟨Tryz.prog, E, lo, h.length, h130⟩ loopW l130x0 ([(0, .v (.int .u64 a)), (1, .v (.int .u64 b))], h) = some (.normal, [(0, .v (.int .u64 ((b % a : Nat) : Int))), (1, .v (.int .u64 a))], h) := by
   simp only [go_sem, l130x0, b130, Tryz.f130, q, z, t]
   all_goals rfl
  rw [loop_eq, er, loop_n, ih (b % a) a (by have := Nat.mod_lt b (by omega : 0 < a); omega), Nat.gcd_rec a b]
theorem f130 {a b : Nat} : E lo 130 [.v (.int .u64 a), .v (.int .u64 b)] h = some (.v (.int .u64 (Nat.gcd a b)), h) := by
 have hL := loop130 (lo := lo) (h := h) a a b (Nat.le_refl _)
 simp only [l130x0, b130, Tryz.f130, loopAt, loops, bodyOf, go_sem] at hL
 rw [e130 (by simp) (by rfl)]
 simp only [go_sem, b130, Tryz.f130, hL]
 all_goals rfl
theorem f124 {n d : Int} (h0 : -9223372036854775808 <= n) (h1 : n <= 9223372036854775807) (h2 : d <= 9223372036854775807) (hlo : lo <= h.length) :
  E lo 124 [.agg [.v (.int .i64 n), .v (.int .i64 d)]] h = some (.v (.bool (sureR n d)), h) := by
 unfold sureR
 rw [e124 (by simp) (by rfl)]
 by_cases hd : 1 <= d
 rotate_left
 ·have q : decide (1 <= d) = false := by simp; omega
  rw [q]
  simp only [go_sem, b124, Tryz.f124, q, Bool.false_and]
  all_goals rfl
 have q : decide (1 <= d) = true := by simp [hd]
 by_cases hn : n = -9223372036854775808
 ·have q2 : (n != -9223372036854775808) = false := by simp [hn]
  rw [q, q2]
  simp only [go_sem, b124, Tryz.f124, q, q2, Bool.false_and, Bool.and_false]
  all_goals rfl
 have q2 : (n != -9223372036854775808) = true := by simp [hn]
 have w1 : IntKind.u64.wrap d = (d.toNat : Int) := by rw [wrap_u64 (by omega) (by omega)]; omega
 have k1 := fun lo h => f131 (lo := lo) (h := h) h0 h1
 have k2 := fun lo h => f130 (lo := lo) (h := h) (a := n.natAbs) (b := d.toNat)
 have k3 : ((Nat.gcd n.natAbs d.toNat : Int) == 1) = (Nat.gcd n.natAbs d.toNat == 1) := by
  rw [Bool.eq_iff_iff, beq_iff_eq, beq_iff_eq]; omega
 rw [q, q2]
 simp only [go_sem, b124, Tryz.f124, q, q2, w1, k1, k2, k3, hlo, Bool.true_and, Bool.and_true]
 all_goals rfl
theorem fl28 : flatOf Tryz.prog 28 = some [1, 1] := by kernel_rfl
theorem eq_rat (n d x y : Int) : eqCells [1, 1] [.v (.int .i64 n), .v (.int .i64 d)] [.v (.int .i64 x), .v (.int .i64 y)] = some (n == x && d == y) := by
 simp [eqCells, eqS]
theorem f112 {n d : Int} (h0 : -9223372036854775808 <= n) (h1 : n <= 9223372036854775807) (h2 : d <= 9223372036854775807) (hlo : lo <= h.length) :
  E lo 112 [.agg [.v (.int .i64 n), .v (.int .i64 d)]] h = some (.v (.bool (mayR n d)), h) := by
 have k := fun lo h hlo => f124 (lo := lo) (h := h) h0 h1 h2 hlo
 have e := eq_rat n d 0 0
 have hlo2 : lo <= h.length + 1 := by omega
 unfold mayR
 rw [e112 (by simp) (by rfl)]
 cases q : (n == 0 && d == 0) with
 | true =>
  rw [q] at e
  simp only [go_sem, b112, Tryz.f112, fl28, e, hlo]
  all_goals rfl
 | false =>
  rw [q] at e
  have k' := k lo (h ++ [.cells [.v (.int .i64 n), .v (.int .i64 d)]]) (by simp; omega)
  simp only [go_sem, b112, Tryz.f112, fl28, e, k', hlo, Bool.false_or]
  all_goals rfl
end
end Go.Lift.V1
end

section
namespace Go.Lift.Rul
def splitA : List CV -> List CV -> List (List CV)
 | acc, [] => [trim acc]
 | acc, v :: r => if v.k = 18 then trim acc :: splitA [] r else splitA (acc ++ [v]) r
def splitB (l : List CV) : List (List CV) := splitA [] l
theorem splitA_len : ∀ (acc l : List CV), (splitA acc l).length <= l.length + 1
 | acc, [] => Nat.le_refl _
 | acc, v :: r => by
  have h1 := splitA_len [] r
  have h2 := splitA_len (acc ++ [v]) r
  rw [splitA]
  split
  ·rw [List.length_cons, List.length_cons]; omega
  ·rw [List.length_cons]; omega
theorem trim_mem {l : List CV} {v : CV} (h : v ∈ trim l) : v ∈ l := by
 unfold trim at h
 rw [List.mem_reverse] at h
 have h1 := (List.dropWhile_suffix _).subset h
 rw [List.mem_reverse] at h1
 exact (List.dropWhile_suffix _).subset h1
theorem splitA_mem : ∀ (acc l p : List CV), p ∈ splitA acc l -> ∀ v ∈ p, v ∈ acc \/ v ∈ l
 | acc, [], p, hp, v, hv => by
  rw [splitA, List.mem_singleton] at hp
  subst hp
  exact .inl (trim_mem hv)
 | acc, u :: r, p, hp, v, hv => by
  rw [splitA] at hp
  split at hp
  ·rcases List.mem_cons.1 hp with rfl | hp
   ·exact .inl (trim_mem hv)
   ·rcases splitA_mem [] r p hp v hv with h | h
    ·cases h
    ·exact .inr (List.mem_cons_of_mem _ h)
  ·rcases splitA_mem (acc ++ [u]) r p hp v hv with h | h
   ·rcases List.mem_append.1 h with h | h
    ·exact .inl h
    ·exact .inr (by rw [List.mem_singleton] at h; subst h; exact List.mem_cons_self ..)
   ·exact .inr (List.mem_cons_of_mem _ h)
def pcsC (ps : List (List CV)) : List (List V) := ps.map fun p => [.list .no (rowsC p)]
theorem pcs_all (ps : List (List CV)) : ((pcsC ps).all fun x => x.length == 1) = true := by
 rw [List.all_eq_true]
 intro x hx
 obtain ⟨t, _, rfl⟩ := List.mem_map.1 hx
 rfl
theorem pcs_len (ps : List (List CV)) : (pcsC ps).length = ps.length := List.length_map ..
theorem pcs_ibr (ps : List (List CV)) : isByteRow (pcsC ps) = false := by cases ps <;> rfl
theorem pcs_snoc (ps : List (List CV)) (p : List CV) : pcsC (ps ++ [p]) = pcsC ps ++ [[.list .no (rowsC p)]] := by simp [pcsC]
end Go.Lift.Rul
end

section
namespace Go.Lift.Rul
inductive X
 | mk (k n d u : Int) (kids : List X)
def X.k : X -> Int
 | .mk k _ _ _ _ => k
def X.kids : X -> List X
 | .mk _ _ _ _ l => l
def zeroX : X := .mk 0 0 0 0 []
def unitL : List (List Int) := [[112, 120], [101, 109], [114, 101, 109], [118, 119], [118, 104], [99, 113, 119], [99, 113, 104]]
def unitF (s : List Int) : List (List Int) -> Nat -> Int
 | [], _ => 0
 | n :: r, i => if (n == s) = true then (i : Int) + 1 else unitF s r (i + 1)
def unitN (b : List Int) : Int := unitF (small b) unitL 0
def numX (n d u : Int) : X := if Spell.mayR n d = true then .mk 1 n d u [] else .mk 1 0 0 u []
def skipS (l : List CV) (at' : Nat) : Nat := at' + ((l.drop at').takeWhile spaceC).length
def signP (l : List CV) (at' : Nat) (one other : Int) (apart : Bool) : Option Bool × Nat :=
 match l[skipS l at']? with
 | none => (none, at')
 | some v => if (v.k == 9) = true then
   (
    if ((v.t.b == [one] || v.t.b == [other]) && (!apart || (decide (at' < skipS l at') && decide (skipS l at' + 1 < skipS l (skipS l at' + 1))))) = true
    then (some (!(v.t.b == [one])), skipS l (skipS l at' + 1)) else (none, at'))
  else (none, at')
def operandP (op : CV -> X × Bool) (l : List CV) (at' : Nat) : X × Bool × Nat :=
 match l[at']? with
 | none => (zeroX, false, at')
 | some v => ((op v).1, (op v).2, at' + 1)
def chainP (step : Nat -> X × Bool × Nat) (sg : Nat -> Option Bool × Nat) (inv : Int) : Nat -> Nat -> List X -> Sum (X × Nat) (List X × Nat)
 | 0, at', ks => .inr (ks, at')
 | f + 1, at', ks => match sg at' with
  | (none, a) => .inr (ks, a)
  | (some b, a) => match step a with
   | (e, false, a') => .inl (e, a')
   | (e, true, a') => chainP step sg inv f a' (ks ++ [if b = true then .mk inv 0 0 0 [e] else e])
def singleX : X -> X
 | .mk _ _ _ _ [e] => e
 | e => e
def levelP (step : Nat -> X × Bool × Nat) (sg : Nat -> Option Bool × Nat) (kind inv : Int) (f at' : Nat) : X × Bool × Nat :=
 match step at' with
 | (e, false, a) => (e, false, a)
 | (e, true, a) => match chainP step sg inv f a [e] with
  | .inl (e', a') => (e', false, a')
  | .inr (ks, a') => (singleX (.mk kind 0 0 0 ks), true, a')
def productP (op : CV -> X × Bool) (l : List CV) (at' : Nat) : X × Bool × Nat := levelP (operandP op l) (fun a => signP l a 42 47 false) 4 5 (l.length + 1) at'
def sumP (op : CV -> X × Bool) (l : List CV) (at' : Nat) : X × Bool × Nat := levelP (productP op l) (fun a => signP l a 43 45 true) 2 3 (l.length + 1) at'
def splitX (w : List CV -> X × Bool) : List (List CV) -> Option (List X)
 | [] => some []
 | p :: r => match w p with
  | (_, false) => none
  | (e, true) => (splitX w r).map (e :: ·)
def listX (kind : Int) (w : List CV -> X × Bool) (kids : List CV) : X × Bool :=
 match splitX w (splitB kids) with
 | none => (zeroX, false)
 | some ks => (.mk kind 0 0 0 ks, kind != 8 || ((ks.length : Int) == 3))
def wCalc : List Int := [99, 97, 108, 99]
def wMin : List Int := [109, 105, 110]
def wMax : List Int := [109, 97, 120]
def wClamp : List Int := [99, 108, 97, 109, 112]
def exprF (w : List CV -> X × Bool) : CV -> X × Bool
 | .mk t kids =>
  if (t.k == 10) = true then (numX t.n t.d 0, true)
  else if (t.k == 12) = true then (numX t.n t.d (unitN t.b), unitN t.b != 0)
  else if (t.k == 2) = true then
   (
    if (small t.b == wCalc) = true then w kids
    else if (small t.b == wMin) = true then listX 6 w kids
    else if (small t.b == wMax) = true then listX 7 w kids
    else if (small t.b == wClamp) = true then listX 8 w kids
    else (zeroX, false))
  else (zeroX, false)
theorem exprF_num {w : List CV -> X × Bool} {t : Tk4} {kids : List CV} (h : (t.k == 10) = true) : exprF w (.mk t kids) = (numX t.n t.d 0, true) := by
 unfold exprF; simp only; rw [if_pos h]
theorem exprF_dim {w : List CV -> X × Bool} {t : Tk4} {kids : List CV} (h0 : (t.k == 10) = false) (h : (t.k == 12) = true) : exprF w (.mk t kids) = (numX t.n t.d (unitN t.b), unitN t.b != 0) := by
 unfold exprF; simp only; rw [if_neg (by rw [h0]; simp), if_pos h]
theorem exprF_no {w : List CV -> X × Bool} {t : Tk4} {kids : List CV} (h0 : (t.k == 10) = false) (h1 : (t.k == 12) = false) (h : (t.k == 2) = false) : exprF w (.mk t kids) = (zeroX, false) := by
 unfold exprF; simp only; rw [if_neg (by rw [h0]; simp), if_neg (by rw [h1]; simp), if_neg (by rw [h]; simp)]
theorem exprF_fun {w : List CV -> X × Bool} {t : Tk4} {kids : List CV} (h0 : (t.k == 10) = false) (h1 : (t.k == 12) = false) (h : (t.k == 2) = true) : exprF w (.mk t kids) =
  (if (small t.b == wCalc) = true then w kids
    else if (small t.b == wMin) = true then listX 6 w kids
    else if (small t.b == wMax) = true then listX 7 w kids
    else if (small t.b == wClamp) = true then listX 8 w kids
    else (zeroX, false)) := by
 unfold exprF; simp only; rw [if_neg (by rw [h0]; simp), if_neg (by rw [h1]; simp), if_pos h]
def opX (w : List CV -> X × Bool) (v : CV) : X × Bool := if (v.k == 21) = true then w v.ks else exprF w v
def wholeN : Nat -> List CV -> X × Bool
 | 0, _ => (zeroX, false)
 | n + 1, l => let r := sumP (opX (wholeN n)) (trim l) 0; (r.1, r.2.1 && r.2.2 == (trim l).length)
def exprN (n : Nat) (v : CV) : X × Bool := exprF (wholeN n) v
def parseX (n : Nat) (l : List CV) : X × Int :=
 if mayL 64 l = true then
  (
   match trim l with
   | [v] => (match exprN n v with
    | (e, true) => (e, 0)
    | (_, false) => (zeroX, 3))
   | _ => (zeroX, 3))
 else (zeroX, 1)
end Go.Lift.Rul
end

section
open Go.Proofs
namespace Go.Lift.V1
open Rul
open Utf (By)
variable {lo : Nat} {h : Heap}
mutual
def xC : X -> List V
 | .mk k n d u kids => [.v (.int .i64 k), .v (.int .i64 n), .v (.int .i64 d), .v (.int .i64 u), .list .no (xsC kids)]
def xsC : List X -> List (List V)
 | [] => []
 | x :: r => xC x :: xsC r
end
theorem xC_eq (k n d u : Int) (l : List X) : xC (.mk k n d u l) = [.v (.int .i64 k), .v (.int .i64 n), .v (.int .i64 d), .v (.int .i64 u), .list .no (xsC l)] := by rw [xC]
theorem xsC_nil : xsC [] = [] := by rw [xsC]
theorem xsC_cons (x : X) (l : List X) : xsC (x :: l) = xC x :: xsC l := by rw [xsC]
theorem xsC_map : ∀ l, xsC l = l.map xC
 | [] => by rw [xsC]; rfl
 | x :: r => by rw [xsC, xsC_map r]; rfl
theorem xsC_len (l : List X) : (xsC l).length = l.length := by rw [xsC_map, List.length_map]
def unitsV : List (List V) := unitL.map fun n => [.v (.string (Rul.bs n))]
theorem f113 : E lo 113 [] h = some (.list .no unitsV, h) := by
 rw [e113 (by simp) (by rfl)]
 simp only [go_sem, b113, Tryz.f113]
 all_goals rfl
abbrev N95 (b : List Int) (j : Int) : Env := [(0, .v (.string (Rul.bs b))), (5, .list .no unitsV), (6, .v (.int .i64 7)), (7, .v (.int .i64 j))]
theorem r95 {b n : List Int} {j : Nat} (hlo : lo <= h.length) (hy : By b) (hl : b.length <= 1000000000) (hg : unitL[j]? = some n) :
  evCode ⟨Tryz.prog, E, lo, h.length, h95⟩ loopW l95x0 (N95 b j, h) = if (n == small b) = true then some (.ret, [(2, .v (.int .i64 ((j : Int) + 1)))], h) else some (.normal, N95 b (j + 1 : Nat), h) := by
 have hlt : j < 7 := (List.getElem?_eq_some_iff.1 hg).1
 have hgr : unitsV[j]? = some [.v (.string (Rul.bs n))] := by unfold unitsV; rw [List.getElem?_map, hg]; rfl
 have hn : By n := by
  have hm := List.mem_of_getElem? hg
  simp only [unitL, List.mem_cons, List.not_mem_nil, or_false] at hm
  rcases hm with rfl | rfl | rfl | rfl | rfl | rfl | rfl <;> (intro c hc; simp at hc; omega)
 have q1 : decide ((j : Int) < 7) = true := by rw [decide_eq_true_iff]; omega
 have t1 : Int.toNat (j : Int) = j := by omega
 have hw : IntKind.i64.wrap ((j : Int) + 1) = (j : Int) + 1 := by rw [wrap_i64 (by omega) (by omega)]
 have hw2 : ((j + 1 : Nat) : Int) = (j : Int) + 1 := by omega
 have c96 := fun lo h hlo => f96 (lo := lo) (h := h) (l := b) hlo (by omega) hy
 have q := bs_beq' hn (by_small' hy)
 rw [hw2]
 cases hq : n == small b with
 | true =>
  rw [hq] at q
  rw [if_pos rfl]
  simp only [N95, go_sem, l95x0, b95, Tryz.f95, hlo, q1, hgr, t1, hw, c96, q]
  all_goals rfl
 | false =>
  rw [hq] at q
  rw [if_neg (by simp)]
  simp only [N95, go_sem, l95x0, b95, Tryz.f95, hlo, q1, hgr, t1, hw, c96, q]
  all_goals rfl
theorem stop95 {b : List Int} (hlo : lo <= h.length) :
  evCode ⟨Tryz.prog, E, lo, h.length, h95⟩ loopW l95x0 (N95 b (7 : Nat), h) = some (.exit 0, N95 b (7 : Nat) ++ [(8, .v (.bool false))], h) := by
 have q1 : decide (((7 : Nat) : Int) < 7) = false := rfl
 simp only [N95, go_sem, l95x0, b95, Tryz.f95, hlo, q1]
 all_goals rfl
theorem unit_drop {s n : List Int} {j : Nat} (hg : unitL[j]? = some n) : unitF s (unitL.drop j) j = if (n == s) = true then (j : Int) + 1 else unitF s (unitL.drop (j + 1)) (j + 1) := by
 obtain ⟨hlt, rfl⟩ := List.getElem?_eq_some_iff.1 hg
 rw [List.drop_eq_getElem_cons hlt]
 rfl
theorem loop95 {b : List Int} (hlo : lo <= h.length) (hy : By b) (hl : b.length <= 1000000000) : ∀ m j : Nat, j + m = 7 ->
  loopW (evCode ⟨Tryz.prog, E, lo, h.length, h95⟩ loopW l95x0) (N95 b j, h) = some (.ret, [(2, .v (.int .i64 (unitF (small b) (unitL.drop j) j)))], h) \/
  (unitF (small b) (unitL.drop j) j = 0 /\ loopW (evCode ⟨Tryz.prog, E, lo, h.length, h95⟩ loopW l95x0) (N95 b j, h) = some (.exit 0, N95 b (7 : Nat) ++ [(8, .v (.bool false))], h))
 | 0, j, hk => by
  obtain rfl : j = 7 := by omega
  exact .inr ⟨rfl, by rw [loop_eq, stop95 hlo, loop_e]⟩
 | m + 1, j, hk => by
  have hlt : j < unitL.length := by show j < 7; omega
  have hp := List.getElem?_eq_getElem hlt
  rw [unit_drop hp, loop_eq, r95 hlo hy hl hp]
  by_cases hq : (unitL[j] == small b) = true
  ·rw [if_pos hq, if_pos hq, loop_r]
   exact .inl rfl
  ·rw [if_neg hq, if_neg hq, loop_n]
   exact loop95 hlo hy hl m (j + 1) (by omega)
theorem f95 {b : List Int} (hlo : lo <= h.length) (hy : By b) (hl : b.length <= 1000000000) : E lo 95 [.v (.string (Rul.bs b))] h = some (.v (.int .i64 (unitN b)), h) := by
 have c113 := fun lo h => f113 (lo := lo) (h := h)
 have hn : (unitsV.length : Int) = 7 := rfl
 unfold unitN
 rw [e95 (by simp) (by rfl)]
 rcases loop95 hlo hy hl 7 0 rfl with hL | ⟨h0, hL⟩
 ·rw [List.drop_zero] at hL
  simp only [l95x0, b95, Tryz.f95, loopAt, loops, bodyOf, N95, go_sem] at hL
  simp only [go_sem, b95, Tryz.f95, hlo, c113, hn, hL]
  all_goals rfl
 ·rw [List.drop_zero] at h0
  rw [h0]
  simp only [l95x0, b95, Tryz.f95, loopAt, loops, bodyOf, N95, go_sem] at hL
  simp only [go_sem, b95, Tryz.f95, hlo, c113, hn, hL]
  all_goals rfl
theorem f94 {n d u : Int} (h0 : -9223372036854775808 <= n) (h1 : n <= 9223372036854775807) (h2 : d <= 9223372036854775807) (hlo : lo <= h.length) :
  E lo 94 [.agg [.v (.int .i64 n), .v (.int .i64 d)], .v (.int .i64 u)] h = some (.agg (xC (numX n d u)), h) := by
 have l1 : lo <= h.length + 1 := by omega
 have l2 : lo <= h.length + 1 + 1 := by omega
 have c := fun lo h hlo => f112 (lo := lo) (h := h) h0 h1 h2 hlo
 rw [e94 (by simp) (by rfl)]
 unfold numX
 cases hm : Spell.mayR n d with
 | true =>
  rw [hm] at c
  rw [if_pos rfl, xC_eq, xsC_nil]
  simp only [go_sem, b94, Tryz.f94, hlo, l1, l2, c]
  all_goals rfl
 | false =>
  rw [hm] at c
  rw [if_neg (by simp), xC_eq, xsC_nil]
  simp only [go_sem, b94, Tryz.f94, hlo, l1, l2, c]
  all_goals rfl
theorem f127 {e : X} (hlo : lo <= h.length) (hl : e.kids.length <= 1000000000) : E lo 127 [.agg (xC e)] h = some (.agg (xC (singleX e)), h) := by
 have l1 : lo <= h.length + 1 := by omega
 obtain ⟨k, n, d, u, kids⟩ := e
 rw [e127 (by simp) (by rfl), xC_eq]
 match kids, hl with
 | [], _ =>
  have q : (((0 : Nat) : Int) == 1) = false := rfl
  have q' : ((0 : Int) == 1) = false := rfl
  rw [xsC_nil]
  show _ = some (V.agg (xC (.mk k n d u [])), h)
  rw [xC_eq, xsC_nil]
  simp only [go_sem, b127, Tryz.f127, hlo, l1, q, q', List.length_nil]
  all_goals rfl
 | [x], _ =>
  obtain ⟨k', n', d', u', kids'⟩ := x
  have q : (((0 + 1 : Nat) : Int) == 1) = true := rfl
  have q' : ((1 : Int) == 1) = true := rfl
  rw [xsC_cons, xsC_nil]
  show _ = some (V.agg (xC (.mk k' n' d' u' kids')), h)
  rw [xC_eq]
  simp only [go_sem, b127, Tryz.f127, hlo, l1, q, q', List.length_cons, List.length_nil]
  all_goals rfl
 | x :: y :: r, hl =>
  have q : (((r.length + 1 + 1 : Nat) : Int) == 1) = false := by rw [beq_eq_false_iff_ne]; omega
  show _ = some (V.agg (xC (.mk k n d u (x :: y :: r))), h)
  rw [xC_eq, xsC_cons, xsC_cons]
  simp only [go_sem, b127, Tryz.f127, hlo, l1, q, List.length_cons, xsC_len]
  all_goals rfl
end Go.Lift.V1
end

section
open Go.Proofs
namespace Go.Lift.V1
open Rul
open Utf (By)
variable {lo : Nat} {p q : List Ob}
abbrev Rc (l : List CV) (a : Nat) : Ob := .cells [.list .no (rowsC l), .v (.int .i64 a)]
abbrev Bx (p : List Ob) : Ob := .cells [.ptr p.length 0]
theorem skip_end {l : List CV} {a : Nat} (hg : l[a]? = none) : skipS l a = a := by
 unfold skipS
 rw [List.drop_eq_nil_of_le (List.getElem?_eq_none_iff.1 hg)]
 rfl
theorem skip_no {l : List CV} {a : Nat} {v : CV} (hg : l[a]? = some v) (hs : spaceC v = false) : skipS l a = a := by
 obtain ⟨hlt, rfl⟩ := List.getElem?_eq_some_iff.1 hg
 unfold skipS
 rw [List.drop_eq_getElem_cons hlt, List.takeWhile_cons, if_neg (by rw [hs]; simp)]
 rfl
theorem skip_yes {l : List CV} {a : Nat} {v : CV} (hg : l[a]? = some v) (hs : spaceC v = true) : skipS l a = skipS l (a + 1) := by
 obtain ⟨hlt, rfl⟩ := List.getElem?_eq_some_iff.1 hg
 unfold skipS
 rw [List.drop_eq_getElem_cons hlt, List.takeWhile_cons, if_pos hs, List.length_cons]
 omega
theorem skip_le (l : List CV) (a : Nat) : a <= skipS l a := by unfold skipS; omega
abbrev N133 (p q : List Ob) (f : Int) : Env := [(0, .ptr (p.length + (q.length + 1)) 0), (2, .v (.int .i64 f))]
noncomputable abbrev X133 (lo : Nat) (p q : List Ob) : Go.Lift.Cx := ⟨Tryz.prog, E, lo, p.length + (q.length + 1 + 1), h133⟩
theorem r133a {l : List CV} {v : CV} {a : Nat} {f : Int} (hlo : lo <= p.length) (hl : l.length <= 1000000000) (hg : l[a]? = some v) (hs : spaceC v = true) :
  evCode (X133 lo p q) loopW l133x0 (N133 p q f, p ++ Rc l a :: (q ++ [Bx p])) = some (.normal, N133 p q f, p ++ Rc l (a + 1) :: (q ++ [Bx p])) := by
 obtain ⟨t, ks⟩ := v
 have hlt : a < l.length := (List.getElem?_eq_some_iff.1 hg).1
 have hgr : (rowsC l)[a]? = some (rowV (.mk t ks)) := by rw [rowsC_get, hg]; rfl
 rw [rowV_eq] at hgr
 have q1 : decide ((a : Int) < (l.length : Int)) = true := by rw [decide_eq_true_iff]; omega
 have t1 : Int.toNat (a : Int) = a := by omega
 have hw : IntKind.i64.wrap ((a : Int) + 1) = ((a + 1 : Nat) : Int) := wrap_succ (by omega)
 have hk : (t.k == 13) = true := hs
 simp only [N133, go_sem, l133x0, b133, Tryz.f133, hlo, q1, hgr, t1, hw, hk, rowsC_len]
 all_goals rfl
theorem r133b {l : List CV} {v : CV} {a : Nat} {f : Int} (hlo : lo <= p.length) (hl : l.length <= 1000000000) (hg : l[a]? = some v) (hs : spaceC v = false) :
  evCode (X133 lo p q) loopW l133x0 (N133 p q f, p ++ Rc l a :: (q ++ [Bx p])) = some (.exit 0, N133 p q f ++ [(31, .v (.bool false))], p ++ Rc l a :: (q ++ [Bx p])) := by
 obtain ⟨t, ks⟩ := v
 have hlt : a < l.length := (List.getElem?_eq_some_iff.1 hg).1
 have hgr : (rowsC l)[a]? = some (rowV (.mk t ks)) := by rw [rowsC_get, hg]; rfl
 rw [rowV_eq] at hgr
 have q1 : decide ((a : Int) < (l.length : Int)) = true := by rw [decide_eq_true_iff]; omega
 have t1 : Int.toNat (a : Int) = a := by omega
 have hk : (t.k == 13) = false := hs
 simp only [N133, go_sem, l133x0, b133, Tryz.f133, hlo, q1, hgr, t1, hk, rowsC_len]
 all_goals rfl
theorem r133c {l : List CV} {a : Nat} {f : Int} (hlo : lo <= p.length) (hl : l.length <= 1000000000) (hg : l[a]? = none) :
  evCode (X133 lo p q) loopW l133x0 (N133 p q f, p ++ Rc l a :: (q ++ [Bx p])) = some (.exit 0, N133 p q f ++ [(31, .v (.bool false))], p ++ Rc l a :: (q ++ [Bx p])) := by
 have hle := List.getElem?_eq_none_iff.1 hg
 have q1 : decide ((a : Int) < (l.length : Int)) = false := by rw [decide_eq_false_iff_not]; omega
 simp only [N133, go_sem, l133x0, b133, Tryz.f133, hlo, q1, rowsC_len]
 all_goals rfl
theorem loop133 {l : List CV} {f : Int} (hlo : lo <= p.length) (hl : l.length <= 1000000000) : ∀ m a : Nat, l.length <= a + m ->
  loopW (evCode (X133 lo p q) loopW l133x0) (N133 p q f, p ++ Rc l a :: (q ++ [Bx p])) = some (.exit 0, N133 p q f ++ [(31, .v (.bool false))], p ++ Rc l (skipS l a) :: (q ++ [Bx p]))
 | 0, a, hm => by
  have hg : l[a]? = none := List.getElem?_eq_none_iff.2 (by omega)
  rw [loop_eq, r133c hlo hl hg, loop_e, skip_end hg]
 | m + 1, a, hm => by
  cases hg : l[a]? with
  | none => rw [loop_eq, r133c hlo hl hg, loop_e, skip_end hg]
  | some v =>
   cases hs : spaceC v with
   | true =>
    rw [loop_eq, r133a hlo hl hg hs, loop_n, skip_yes hg hs]
    exact loop133 hlo hl m (a + 1) (by omega)
   | false => rw [loop_eq, r133b hlo hl hg hs, loop_e, skip_no hg hs]
theorem f133 {l : List CV} {a : Nat} (hlo : lo <= p.length) (hl : l.length <= 1000000000) :
  E lo 133 [.ptr (p.length + (q.length + 1)) 0] (p ++ Rc l a :: (q ++ [Bx p])) = some (.v (.bool (decide (a < skipS l a))), p ++ Rc l (skipS l a) :: (q ++ [Bx p])) := by
 have hL := loop133 (q := q) (f := a) hlo hl l.length a (by omega)
 have hd : decide ((a : Int) < (skipS l a : Int)) = decide (a < skipS l a) := by rw [Bool.eq_iff_iff, decide_eq_true_iff, decide_eq_true_iff]; omega
 rw [e133 (by simp) (by rfl)]
 simp only [l133x0, b133, Tryz.f133, loopAt, loops, bodyOf, N133, X133, go_sem] at hL
 simp only [go_sem, b133, Tryz.f133, hlo, hL, hd]
 all_goals rfl
def signB (one other : Int) : Option Bool -> ByteArray
 | none => ⟨#[]⟩
 | some false => Rul.bs [one]
 | some true => Rul.bs [other]
theorem tok_beq {b : List Int} {c : Int} (hy : By b) (h0 : 0 <= c) (h1 : c < 256) : ((Rul.bs b).toList == (Rul.bs [c]).toList) = (b == [c]) := bs_beq' hy (by intro x hx; simp at hx; omega)
theorem f126a {l : List CV} {a : Nat} {one other : Int} {apart : Bool} (hlo : lo <= p.length) (hl : l.length <= 1000000000) (hg : l[skipS l a]? = none) :
  E lo 126 [.ptr p.length 0, .v (.string (Rul.bs [one])), .v (.string (Rul.bs [other])), .v (.bool apart)] (p ++ Rc l a :: q) = some (.v (.string ⟨#[]⟩), p ++ Rc l a :: q) := by
 have c133 := fun lo hlo => f133 (lo := lo) (p := p) (q := q) (l := l) (a := a) hlo hl
 have hle := List.getElem?_eq_none_iff.1 hg
 have l1 : lo <= p.length + (q.length + 1) := by omega
 have q1 : decide ((skipS l a : Int) < (l.length : Int)) = false := by rw [decide_eq_false_iff_not]; omega
 rw [e126 (by simp) (by rfl)]
 simp only [go_sem, b126, Tryz.f126, hlo, l1, c133, q1, rowsC_len]
 all_goals rfl
theorem f126b {l : List CV} {v : CV} {a : Nat} {one other : Int} {apart : Bool} (hlo : lo <= p.length) (hl : l.length <= 1000000000) (hg : l[skipS l a]? = some v) (hk : (v.k == 9) = false) :
  E lo 126 [.ptr p.length 0, .v (.string (Rul.bs [one])), .v (.string (Rul.bs [other])), .v (.bool apart)] (p ++ Rc l a :: q) = some (.v (.string ⟨#[]⟩), p ++ Rc l a :: q) := by
 obtain ⟨t, ks⟩ := v
 have c133 := fun lo hlo => f133 (lo := lo) (p := p) (q := q) (l := l) (a := a) hlo hl
 have hlt : skipS l a < l.length := (List.getElem?_eq_some_iff.1 hg).1
 have hgr : (rowsC l)[skipS l a]? = some (rowV (.mk t ks)) := by rw [rowsC_get, hg]; rfl
 rw [rowV_eq] at hgr
 have l1 : lo <= p.length + (q.length + 1) := by omega
 have q1 : decide ((skipS l a : Int) < (l.length : Int)) = true := by rw [decide_eq_true_iff]; omega
 have t1 : Int.toNat (skipS l a : Int) = skipS l a := by omega
 have hk' : (t.k == 9) = false := hk
 rw [e126 (by simp) (by rfl)]
 simp only [go_sem, b126, Tryz.f126, hlo, l1, c133, q1, hgr, t1, hk', rowsC_len]
 all_goals rfl
theorem f126c {l : List CV} {t : Tk4} {ks : List CV} {a : Nat} {one other : Int} {apart : Bool} (hlo : lo <= p.length) (hl : l.length <= 1000000000) (hg : l[skipS l a]? = some (.mk t ks)) (hk : (t.k == 9) = true)
  (hy : By t.b) (h0 : 0 <= one /\ one < 256) (h1 : 0 <= other /\ other < 256) :
  E lo 126 [.ptr p.length 0, .v (.string (Rul.bs [one])), .v (.string (Rul.bs [other])), .v (.bool apart)] (p ++ Rc l a :: q) =
   if ((t.b == [one] || t.b == [other]) && (!apart || (decide (a < skipS l a) && decide (skipS l a + 1 < skipS l (skipS l a + 1))))) = true
   then some (.v (.string (Rul.bs t.b)), p ++ Rc l (skipS l (skipS l a + 1)) :: q) else some (.v (.string ⟨#[]⟩), p ++ Rc l a :: q) := by
 have c133 := fun lo hlo => f133 (lo := lo) (p := p) (q := q) (l := l) (a := a) hlo hl
 have d133 := fun lo hlo => f133 (lo := lo) (p := p) (q := q) (l := l) (a := skipS l a + 1) hlo hl
 have hlt : skipS l a < l.length := (List.getElem?_eq_some_iff.1 hg).1
 have hgr : (rowsC l)[skipS l a]? = some (rowV (.mk t ks)) := by rw [rowsC_get, hg]; rfl
 rw [rowV_eq] at hgr
 have l1 : lo <= p.length + (q.length + 1) := by omega
 have q1 : decide ((skipS l a : Int) < (l.length : Int)) = true := by rw [decide_eq_true_iff]; omega
 have t1 : Int.toNat (skipS l a : Int) = skipS l a := by omega
 have hw : IntKind.i64.wrap ((skipS l a : Int) + 1) = ((skipS l a + 1 : Nat) : Int) := wrap_succ (by omega)
 have e1 := tok_beq (c := one) hy h0.1 h0.2
 have e2 := tok_beq (c := other) hy h1.1 h1.2
 rw [e126 (by simp) (by rfl)]
 generalize decide (a < skipS l a) = far at c133 ⊢
 generalize decide (skipS l a + 1 < skipS l (skipS l a + 1)) = wide at d133 ⊢
 generalize hb1 : (t.b == [one]) = b1 at e1 ⊢
 generalize hb2 : (t.b == [other]) = b2 at e2 ⊢
 cases b1 with
 | true =>
  cases apart with
  | false =>
   rw [if_pos (by simp)]
   simp only [go_sem, b126, Tryz.f126, hlo, l1, c133, d133, q1, hgr, t1, hw, hk, e1, e2, rowsC_len]
   all_goals rfl
  | true =>
   cases far with
   | false =>
    rw [if_neg (by simp)]
    simp only [go_sem, b126, Tryz.f126, hlo, l1, c133, d133, q1, hgr, t1, hw, hk, e1, e2, rowsC_len]
    all_goals rfl
   | true =>
    cases wide with
    | false =>
     rw [if_neg (by simp)]
     simp only [go_sem, b126, Tryz.f126, hlo, l1, c133, d133, q1, hgr, t1, hw, hk, e1, e2, rowsC_len]
     all_goals rfl
    | true =>
     rw [if_pos (by simp)]
     simp only [go_sem, b126, Tryz.f126, hlo, l1, c133, d133, q1, hgr, t1, hw, hk, e1, e2, rowsC_len]
     all_goals rfl
 | false =>
  cases b2 with
  | false =>
   rw [if_neg (by simp)]
   simp only [go_sem, b126, Tryz.f126, hlo, l1, c133, d133, q1, hgr, t1, hw, hk, e1, e2, rowsC_len]
   all_goals rfl
  | true =>
   cases apart with
   | false =>
    rw [if_pos (by simp)]
    simp only [go_sem, b126, Tryz.f126, hlo, l1, c133, d133, q1, hgr, t1, hw, hk, e1, e2, rowsC_len]
    all_goals rfl
   | true =>
    cases far with
    | false =>
     rw [if_neg (by simp)]
     simp only [go_sem, b126, Tryz.f126, hlo, l1, c133, d133, q1, hgr, t1, hw, hk, e1, e2, rowsC_len]
     all_goals rfl
    | true =>
     cases wide with
     | false =>
      rw [if_neg (by simp)]
      simp only [go_sem, b126, Tryz.f126, hlo, l1, c133, d133, q1, hgr, t1, hw, hk, e1, e2, rowsC_len]
      all_goals rfl
     | true =>
      rw [if_pos (by simp)]
      simp only [go_sem, b126, Tryz.f126, hlo, l1, c133, d133, q1, hgr, t1, hw, hk, e1, e2, rowsC_len]
      all_goals rfl
theorem signP_end {l : List CV} {a : Nat} {one other : Int} {apart : Bool} (hg : l[skipS l a]? = none) : signP l a one other apart = (none, a) := by unfold signP; rw [hg]
theorem f126 {l : List CV} {a : Nat} {one other : Int} {apart : Bool} (hlo : lo <= p.length) (hl : l.length <= 1000000000) (hy : ∀ v ∈ l, By v.t.b) (h0 : 0 <= one /\ one < 256) (h1 : 0 <= other /\ other < 256) :
  E lo 126 [.ptr p.length 0, .v (.string (Rul.bs [one])), .v (.string (Rul.bs [other])), .v (.bool apart)] (p ++ Rc l a :: q) =
   some (.v (.string (signB one other (signP l a one other apart).1)), p ++ Rc l (signP l a one other apart).2 :: q) := by
 unfold signP
 cases hg : l[skipS l a]? with
 | none => exact f126a hlo hl hg
 | some v =>
  simp only
  cases hk : v.k == 9 with
  | false =>
   rw [if_neg (by simp)]
   exact f126b hlo hl hg hk
  | true =>
   rw [if_pos rfl]
   obtain ⟨t, ks⟩ := v
   rw [f126c hlo hl hg hk (hy _ (List.mem_of_getElem? hg)) h0 h1]
   show (if ((t.b == [one] || t.b == [other]) && (!apart || (decide (a < skipS l a) && decide (skipS l a + 1 < skipS l (skipS l a + 1))))) = true then _ else _) = _
   have e : (Rul.CV.mk t ks).t.b = t.b := rfl
   rw [e]
   by_cases hc : ((t.b == [one] || t.b == [other]) && (!apart || (decide (a < skipS l a) && decide (skipS l a + 1 < skipS l (skipS l a + 1))))) = true
   ·rw [if_pos hc, if_pos hc]
    simp only [Bool.and_eq_true, Bool.or_eq_true] at hc
    cases hb : t.b == [one] with
    | true => rw [show t.b = [one] from by simpa using hb]; rfl
    | false =>
     rcases hc.1 with h | h
     ·rw [hb] at h; cases h
     ·rw [show t.b = [other] from by simpa using h]; rfl
   ·rw [if_neg hc, if_neg hc]; rfl
end Go.Lift.V1
end

section
open Go.Proofs
namespace Go.Lift.V1
open Rul
open Utf (By)
variable {lo : Nat} {p q : List Ob}
def W97 (w : List CV -> X × Bool) (l : List CV) : Prop := ∀ lo h, lo <= h.length -> E lo 97 [.list .no (rowsC l)] h = some (.tup [.agg (xC (w l).1), .v (.bool (w l).2)], h)
def W72 (w : List CV -> X × Bool) (v : CV) : Prop := ∀ lo h, lo <= h.length -> E lo 72 [.agg (rowV v)] h = some (.tup [.agg (xC (exprF w v).1), .v (.bool (exprF w v).2)], h)
theorem f132a {l : List CV} {a : Nat} (hlo : lo <= p.length) (hl : l.length <= 1000000000) (hg : l[a]? = none) :
  E lo 132 [.ptr p.length 0] (p ++ Rc l a :: q) = some (.tup [.agg (xC zeroX), .v (.bool false)], p ++ Rc l a :: q) := by
 have hle := List.getElem?_eq_none_iff.1 hg
 have l1 : lo <= p.length + (q.length + 1) := by omega
 have q1 : decide ((l.length : Int) <= (a : Int)) = true := by rw [decide_eq_true_iff]; omega
 rw [e132 (by simp) (by rfl), zeroX, xC_eq, xsC_nil]
 simp only [go_sem, b132, Tryz.f132, hlo, l1, q1, rowsC_len]
 all_goals rfl
theorem f132b {l : List CV} {v : CV} {a : Nat} {w : List CV -> X × Bool} (hlo : lo <= p.length) (hl : l.length <= 1000000000) (hg : l[a]? = some v) (h1 : W97 w v.ks) (h2 : W72 w v) :
  E lo 132 [.ptr p.length 0] (p ++ Rc l a :: q) = some (.tup [.agg (xC (opX w v).1), .v (.bool (opX w v).2)], p ++ Rc l (a + 1) :: q) := by
 obtain ⟨t, ks⟩ := v
 have hlt : a < l.length := (List.getElem?_eq_some_iff.1 hg).1
 have hgr : (rowsC l)[a]? = some (rowV (.mk t ks)) := by rw [rowsC_get, hg]; rfl
 rw [rowV_eq] at hgr
 have l1 : lo <= p.length + (q.length + 1) := by omega
 have l2 : lo <= p.length + (q.length + 1 + 1) := by omega
 have l3 : lo <= p.length + (q.length + 1 + 1 + 1) := by omega
 have l4 : lo <= p.length + (q.length + (1 + 1) + 1) := by omega
 have q1 : decide ((l.length : Int) <= (a : Int)) = false := by rw [decide_eq_false_iff_not]; omega
 have t1 : Int.toNat (a : Int) = a := by omega
 have hw : IntKind.i64.wrap ((a : Int) + 1) = ((a + 1 : Nat) : Int) := wrap_succ (by omega)
 unfold opX
 rw [e132 (by simp) (by rfl)]
 cases hk : (Rul.CV.mk t ks).k == 21 with
 | true =>
  rw [if_pos rfl]
  have hk' : (t.k == 21) = true := hk
  have c97 : ∀ lo h, lo <= h.length -> E lo 97 [.list .no (rowsC ks)] h = some (.tup [.agg (xC (w ks).1), .v (.bool (w ks).2)], h) := fun lo h hlo => h1 lo h hlo
  show _ = some (V.tup [.agg (xC (w ks).1), .v (.bool (w ks).2)], _)
  generalize w ks = r at c97 ⊢
  obtain ⟨⟨ek, en, ed, eu, ekids⟩, eb⟩ := r
  simp only [xC_eq] at c97 ⊢
  simp only [go_sem, b132, Tryz.f132, hlo, l1, l2, l3, l4, q1, hgr, t1, hw, hk', c97, rowsC_len]
  all_goals rfl
 | false =>
  rw [if_neg (by simp)]
  have hk' : (t.k == 21) = false := hk
  have c72 : ∀ lo h, lo <= h.length -> E lo 72 [.agg (rowV (.mk t ks))] h = some (.tup [.agg (xC (exprF w (.mk t ks)).1), .v (.bool (exprF w (.mk t ks)).2)], h) := fun lo h hlo => h2 lo h hlo
  generalize exprF w (.mk t ks) = r at c72 ⊢
  obtain ⟨⟨ek, en, ed, eu, ekids⟩, eb⟩ := r
  simp only [xC_eq, rowV_eq] at c72 ⊢
  simp only [go_sem, b132, Tryz.f132, hlo, l1, l2, l3, l4, q1, hgr, t1, hw, hk', c72, rowsC_len]
  all_goals rfl
theorem f132 {l : List CV} {a : Nat} {w : List CV -> X × Bool} (hlo : lo <= p.length) (hl : l.length <= 1000000000) (h : ∀ v ∈ l, W97 w v.ks /\ W72 w v) :
  E lo 132 [.ptr p.length 0] (p ++ Rc l a :: q) = some (.tup [.agg (xC (operandP (opX w) l a).1), .v (.bool (operandP (opX w) l a).2.1)], p ++ Rc l (operandP (opX w) l a).2.2 :: q) := by
 unfold operandP
 cases hg : l[a]? with
 | none => exact f132a hlo hl hg
 | some v =>
  have hv := h v (List.mem_of_getElem? hg)
  exact f132b hlo hl hg hv.1 hv.2
end Go.Lift.V1
end

section
open Go.Proofs
namespace Go.Lift.V1
open Rul
open Utf (By)
variable {lo : Nat} {p q : List Ob}
def xZ : List V := [.v (.int .i64 0), .v (.int .i64 0), .v (.int .i64 0), .v (.int .i64 0), .list .yes []]
def xO (k : Int) (ks : List X) : List V := [.v (.int .i64 k), .v (.int .i64 0), .v (.int .i64 0), .v (.int .i64 0), .list .yes (xsC ks)]
theorem xsC_app (a b : List X) : xsC a ++ xsC b = xsC (a ++ b) := by rw [xsC_map, xsC_map, xsC_map, List.map_append]
theorem xsC_all (l : List X) : (xsC l).all (fun x => x.length == 5) = true := by
 rw [xsC_map, List.all_map]
 exact List.all_eq_true.2 fun x _ => by obtain ⟨k, n, d, u, ks⟩ := x; simp only [Function.comp, xC_eq]; rfl
theorem xsC_ibr (l : List X) : (!isByteRow (xsC l)) = true := by
 cases l with
 | nil => rw [xsC_nil]; rfl
 | cons x r => obtain ⟨k, n, d, u, ks⟩ := x; rw [xsC_cons, xC_eq]; rfl
theorem lim40 {n : Nat} (h : n <= 1000000000) : (n + 1) * 56 <= 140737488355328 := by omega
theorem lim41 {n : Nat} (h : n <= 1000000000) : n <= 9223372036854775806 := by omega
theorem s_nil : ((⟨#[]⟩ : ByteArray).toList == (⟨#[]⟩ : ByteArray).toList) = true := by simp
theorem s_one (c : UInt8) : ((⟨#[c]⟩ : ByteArray).toList == (⟨#[]⟩ : ByteArray).toList) = false := by
 rw [ByteArray.toList_eq, ByteArray.toList_eq]; rfl
theorem s_ne {c d : UInt8} (h : (c == d) = false) : ((⟨#[c]⟩ : ByteArray).toList == (⟨#[d]⟩ : ByteArray).toList) = false := by
 rw [ByteArray.toList_eq, ByteArray.toList_eq]
 simp only [List.cons_beq_cons, h, Bool.false_and]
theorem s_eq {c : UInt8} : ((⟨#[c]⟩ : ByteArray).toList == (⟨#[c]⟩ : ByteArray).toList) = true := by simp
def S132 (step : Nat -> X × Bool × Nat) (l : List CV) : Prop := ∀ lo (p q : List Ob) a, lo <= p.length -> E lo 132 [.ptr p.length 0] (p ++ Rc l a :: q) = some (.tup [.agg (xC (step a).1), .v (.bool (step a).2.1)], p ++ Rc l (step a).2.2 :: q)
abbrev N125 (p q : List Ob) : Env := [(0, .ptr p.length 0), (2, .ptr (p.length + (q.length + 1)) 0), (4, .ptr (p.length + (q.length + 1 + 1)) 0), (6, .ptr (p.length + (q.length + (1 + 1) + 1)) 0)]
abbrev H125 (p q : List Ob) (l : List CV) (a : Nat) (e : X) (ks : List X) : Heap := p ++ Rc l a :: (q ++ [.cells xZ, .cells (xC e), .cells (xO 4 ks)])
noncomputable abbrev X125 (lo : Nat) (p q : List Ob) : Go.Lift.Cx := ⟨Tryz.prog, E, lo, p.length + (q.length + 1), h125⟩
section
variable {l : List CV} {a a1 : Nat} {e : X} {ks : List X} {step : Nat -> X × Bool × Nat}
theorem r125a (hlo : lo <= p.length) (hs : ∀ lo (p q : List Ob), lo <= p.length -> E lo 126 [.ptr p.length 0, .v (.string ⟨#[42]⟩), .v (.string ⟨#[47]⟩), .v (.bool false)] (p ++ Rc l a :: q) = some (.v (.string ⟨#[]⟩), p ++ Rc l a1 :: q)) :
  evCode (X125 lo p q) loopW l125x0 (N125 p q, H125 p q l a e ks) = some (.exit 0, N125 p q ++ [(7, .v (.string ⟨#[]⟩)), (22, .v (.bool true))], H125 p q l a1 e ks) := by
 have l1 : lo <= p.length + (q.length + 1) := by omega
 obtain ⟨ek, en, ed, eu, el⟩ := e
 simp only [N125, H125, X125, xC_eq, xZ, xO, go_sem, l125x0, b125, Tryz.f125, hlo, l1, hs, s_nil]
 all_goals rfl
theorem r125b {c : UInt8} {e' : X} {a2 : Nat} (hlo : lo <= p.length) (hs : ∀ lo (p q : List Ob), lo <= p.length -> E lo 126 [.ptr p.length 0, .v (.string ⟨#[42]⟩), .v (.string ⟨#[47]⟩), .v (.bool false)] (p ++ Rc l a :: q) = some (.v (.string ⟨#[c]⟩), p ++ Rc l a1 :: q))
  (ht : ∀ lo (p q : List Ob), lo <= p.length -> E lo 132 [.ptr p.length 0] (p ++ Rc l a1 :: q) = some (.tup [.agg (xC e'), .v (.bool false)], p ++ Rc l a2 :: q)) :
  evCode (X125 lo p q) loopW l125x0 (N125 p q, H125 p q l a e ks) = some (.ret, [(2, .ptr (p.length + (q.length + 1)) 0), (3, .v (.bool false))], p ++ Rc l a2 :: (q ++ [.cells (xC e'), .cells (xC e'), .cells (xO 4 ks)])) := by
 have l1 : lo <= p.length + (q.length + 1) := by omega
 have l2 : lo <= p.length + (q.length + 1 + 1) := by omega
 obtain ⟨ek, en, ed, eu, el⟩ := e
 obtain ⟨fk, fn, fd, fu, fl⟩ := e'
 simp only [xC_eq] at ht
 have z := s_one c
 simp only [N125, H125, X125, xC_eq, xZ, xO, go_sem, l125x0, b125, Tryz.f125, hlo, l1, l2, hs, ht, z]
 all_goals rfl
theorem r125c {c : UInt8} {e' : X} {a2 : Nat} {b : Bool} (hlo : lo <= p.length) (hk : ks.length <= 1000000000) (hb : ((⟨#[c]⟩ : ByteArray).toList == (⟨#[47]⟩ : ByteArray).toList) = b)
  (hs : ∀ lo (p q : List Ob), lo <= p.length -> E lo 126 [.ptr p.length 0, .v (.string ⟨#[42]⟩), .v (.string ⟨#[47]⟩), .v (.bool false)] (p ++ Rc l a :: q) = some (.v (.string ⟨#[c]⟩), p ++ Rc l a1 :: q))
  (ht : ∀ lo (p q : List Ob), lo <= p.length -> E lo 132 [.ptr p.length 0] (p ++ Rc l a1 :: q) = some (.tup [.agg (xC e'), .v (.bool true)], p ++ Rc l a2 :: q)) :
  evCode (X125 lo p q) loopW l125x0 (N125 p q, H125 p q l a e ks) = some (.normal, N125 p q, H125 p q l a2 (if b = true then .mk 5 0 0 0 [e'] else e') (ks ++ [if b = true then .mk 5 0 0 0 [e'] else e'])) := by
 have l1 : lo <= p.length + (q.length + 1) := by omega
 have l2 : lo <= p.length + (q.length + 1 + 1) := by omega
 have l3 : lo <= p.length + (q.length + (1 + 1) + 1) := by omega
 obtain ⟨ek, en, ed, eu, el⟩ := e
 obtain ⟨fk, fn, fd, fu, fl⟩ := e'
 simp only [xC_eq] at ht
 have z := s_one c
 have o1 := lim40 hk
 have o2 := lim41 hk
 have ra := xsC_all ks
 have rl := xsC_len ks
 have rb := xsC_ibr ks
 cases b with
 | false =>
  rw [if_neg (by simp)]
  simp only [N125, H125, X125, xC_eq, xZ, xO, <- xsC_app, xsC_cons, xsC_nil]
  generalize xsC ks = K at ra rl rb ⊢
  simp only [go_sem, l125x0, b125, Tryz.f125, hlo, l1, l2, l3, hs, ht, z, hb, o1, o2, ra, rl, rb]
  all_goals rfl
 | true =>
  rw [if_pos rfl]
  simp only [N125, H125, X125, xC_eq, xZ, xO, <- xsC_app, xsC_cons, xsC_nil]
  generalize xsC ks = K at ra rl rb ⊢
  simp only [go_sem, l125x0, b125, Tryz.f125, hlo, l1, l2, l3, hs, ht, z, hb, o1, o2, ra, rl, rb]
  all_goals rfl
theorem sign_end {l : List CV} {a : Nat} {one other : Int} {apart : Bool} (h : l.length <= a) : signP l a one other apart = (none, a) :=
 signP_end (List.getElem?_eq_none_iff.2 (by have := skip_le l a; omega))
theorem sign_on {l : List CV} {a : Nat} {one other : Int} {apart b : Bool} (h : (signP l a one other apart).1 = some b) : a + 1 <= (signP l a one other apart).2 := by
 have h1 := skip_le l a
 have h2 := skip_le l (skipS l a + 1)
 unfold signP at h ⊢
 cases hg : l[skipS l a]? with
 | none => rw [hg] at h; cases h
 | some v =>
  rw [hg] at h
  simp only at h ⊢
  split at h
  ·rename_i hk
   rw [if_pos hk]
   split at h
   ·rename_i hc
    rw [if_pos hc]
    show a + 1 <= skipS l (skipS l a + 1)
    omega
   ·cases h
  ·cases h
def Mono (step : Nat -> X × Bool × Nat) : Prop := ∀ a, a <= (step a).2.2
theorem chain_len {step : Nat -> X × Bool × Nat} {sg : Nat -> Option Bool × Nat} {inv : Int} : ∀ (f a : Nat) (ks ks' : List X) (a' : Nat), chainP step sg inv f a ks = .inr (ks', a') -> ks'.length <= ks.length + f
 | 0, a, ks, ks', a', h => by unfold chainP at h; cases h; omega
 | f + 1, a, ks, ks', a', h => by
  unfold chainP at h
  split at h
  ·cases h; omega
  ·split at h
   ·cases h
   ·have := chain_len f _ _ _ _ h
    simp at this
    omega
theorem loop125 (hlo : lo <= p.length) (hl : l.length <= 1000000000) (hy : ∀ v ∈ l, By v.t.b) (hst : S132 step l) (hmo : Mono step) : ∀ (f a : Nat) (e : X) (ks : List X), l.length <= a + f -> ks.length + f <= 1000000000 + 1 ->
  match chainP step (fun a => signP l a 42 47 false) 5 f a ks with
  | .inl (e', a') => ∃ ks', loopW (evCode (X125 lo p q) loopW l125x0) (N125 p q, H125 p q l a e ks) = some (.ret, [(2, .ptr (p.length + (q.length + 1)) 0), (3, .v (.bool false))], p ++ Rc l a' :: (q ++ [.cells (xC e'), .cells (xC e'), .cells (xO 4 ks')]))
  | .inr (ks', a') => ∃ e', loopW (evCode (X125 lo p q) loopW l125x0) (N125 p q, H125 p q l a e ks) = some (.exit 0, N125 p q ++ [(7, .v (.string ⟨#[]⟩)), (22, .v (.bool true))], H125 p q l a' e' ks')
 | 0, a, e, ks, hf, hk => by
  have hs := fun lo (p q : List Ob) hlo => f126 (lo := lo) (p := p) (q := q) (l := l) (a := a) (one := 42) (other := 47) (apart := false) hlo hl hy (by omega) (by omega)
  rw [sign_end (by omega)] at hs
  unfold chainP
  exact ⟨e, by rw [loop_eq, r125a hlo hs, loop_e]⟩
 | f + 1, a, e, ks, hf, hk => by
  have hs := fun lo (p q : List Ob) hlo => f126 (lo := lo) (p := p) (q := q) (l := l) (a := a) (one := 42) (other := 47) (apart := false) hlo hl hy (by omega) (by omega)
  have hon := fun b => sign_on (l := l) (a := a) (one := 42) (other := 47) (apart := false) (b := b)
  unfold chainP
  generalize signP l a 42 47 false = r at hs hon ⊢
  obtain ⟨o, a1⟩ := r
  cases o with
  | none => exact ⟨e, by rw [loop_eq, r125a hlo hs, loop_e]⟩
  | some b =>
   have h1 := hon b rfl
   have ht := fun lo (p q : List Ob) hlo => hst lo p q a1 hlo
   have hm := hmo a1
   simp only
   generalize step a1 = t at ht hm ⊢
   obtain ⟨e', ok, a2⟩ := t
   cases ok with
   | false =>
    refine ⟨ks, ?_⟩
    cases b with
    | false => rw [loop_eq, r125b (c := 42) hlo hs ht, loop_r]
    | true => rw [loop_eq, r125b (c := 47) hlo hs ht, loop_r]
   | true =>
    simp only at h1 hm
    have ih := loop125 hlo hl hy hst hmo f a2 (if b = true then .mk 5 0 0 0 [e'] else e') (ks ++ [if b = true then .mk 5 0 0 0 [e'] else e']) (by omega) (by simp; omega)
    cases b with
    | false =>
     rw [loop_eq, r125c (c := 42) (b := false) hlo (by omega) (s_ne (by decide)) hs ht, loop_n]
     exact ih
    | true =>
     rw [loop_eq, r125c (c := 47) (b := true) hlo (by omega) s_eq hs ht, loop_n]
     exact ih
attribute [go_sem] List.getLast?_cons_cons List.getLast?_singleton
theorem f125 (hlo : lo <= p.length) (hl : l.length <= 100000000) (hy : ∀ v ∈ l, By v.t.b) (hst : S132 step l) (hmo : Mono step) :
  E lo 125 [.ptr p.length 0] (p ++ Rc l a :: q) = some (.tup [.agg (xC (levelP step (fun a => signP l a 42 47 false) 4 5 (l.length + 1) a).1), .v (.bool (levelP step (fun a => signP l a 42 47 false) 4 5 (l.length + 1) a).2.1)],
   p ++ Rc l (levelP step (fun a => signP l a 42 47 false) 4 5 (l.length + 1) a).2.2 :: q) := by
 have l1 : lo <= p.length + (q.length + 1) := by omega
 have l2 : lo <= p.length + (q.length + 1 + 1) := by omega
 have l3 : lo <= p.length + (q.length + (1 + 1) + 1) := by omega
 have l4 : lo <= p.length + (q.length + 3 + 1) := by omega
 have ht := fun lo (p q : List Ob) hlo => hst lo p q a hlo
 have hm := hmo a
 unfold levelP
 rw [e125 (by simp) (by rfl)]
 generalize step a = t at ht hm ⊢
 obtain ⟨e, ok, a1⟩ := t
 cases ok with
 | false =>
  simp only
  obtain ⟨ek, en, ed, eu, el⟩ := e
  simp only [xC_eq] at ht ⊢
  simp only [go_sem, b125, Tryz.f125, hlo, l1, l2, ht]
  all_goals rfl
 | true =>
  simp only at hm ⊢
  have hL := loop125 (lo := lo) (p := p) (q := q) hlo (by omega) hy hst hmo (l.length + 1) a1 e [e] (by omega) (by simp; omega)
  have hcl := chain_len (step := step) (sg := fun a => signP l a 42 47 false) (inv := 5) (l.length + 1) a1 [e]
  generalize chainP step (fun a => signP l a 42 47 false) 5 (l.length + 1) a1 [e] = r at hL hcl ⊢
  obtain ⟨ek, en, ed, eu, el⟩ := e
  cases r with
  | inl r =>
   obtain ⟨e', a'⟩ := r
   obtain ⟨ks', hL⟩ := hL
   obtain ⟨fk, fn, fd, fu, fl⟩ := e'
   simp only [xC_eq] at ht ⊢
   simp only [l125x0, b125, Tryz.f125, loopAt, loops, bodyOf, N125, H125, X125, xC_eq, xZ, xO, xsC_cons, xsC_nil, go_sem] at hL
   simp only [go_sem, b125, Tryz.f125, hlo, l1, l2, l3, ht, hL]
   all_goals rfl
  | inr r =>
   obtain ⟨ks', a'⟩ := r
   obtain ⟨e', hL⟩ := hL
   have hks := hcl ks' a' rfl
   have c127 := fun lo h hlo => f127 (lo := lo) (h := h) (e := .mk 4 0 0 0 ks') hlo (by simp at hks; show ks'.length <= _; omega)
   obtain ⟨fk, fn, fd, fu, fl⟩ := e'
   simp only
   generalize singleX (.mk 4 0 0 0 ks') = sx at c127 ⊢
   obtain ⟨gk, gn, gd, gu, gl⟩ := sx
   simp only [xC_eq] at ht c127 ⊢
   simp only [l125x0, b125, Tryz.f125, loopAt, loops, bodyOf, N125, H125, X125, xC_eq, xZ, xO, xsC_cons, xsC_nil, go_sem] at hL
   simp only [go_sem, b125, Tryz.f125, hlo, l1, l2, l3, l4, ht, c127, hL]
   all_goals rfl
end
end Go.Lift.V1
end
