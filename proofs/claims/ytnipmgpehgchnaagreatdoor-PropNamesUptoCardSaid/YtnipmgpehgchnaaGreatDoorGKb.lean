/- prop.table, prop.places, prop.Place. -/
import Derived.ProofKit
import Derived.Shelf.Strings.Fields
import Derived.Test.YtnipmgpehgchnaaGreatDoorProg
import Derived.WalkKit
import Derived.Laws.Externs
import Derived.MapKept
import Derived.Deep.MidRow
import Derived.Lib.LaidTab
import Derived.Lib.LaidU8
import Derived.Lib.LaidIn
import Derived.Deep.DeepHandedRow
import Derived.Deep.DeepWitnessRowRef
import Derived.Test.YtnipmgpehgchnaaGreatDoorRows
import Derived.JoinedOf
import Derived.Test.YtnipmgpehgchnaaGreatDoorGLc
import Derived.Test.YtnipmgpehgchnaaGreatDoorGKa
import Derived.Test.YtnipmgpehgchnaaGreatDoorGK4Basea
import Derived.Test.YtnipmgpehgchnaaGreatDoorK4Div0
import Derived.Test.YtnipmgpehgchnaaGreatDoorK4Div1
import Derived.Test.YtnipmgpehgchnaaGreatDoorK4Div2
import Derived.Test.YtnipmgpehgchnaaGreatDoorK4Div3
set_option linter.unusedVariables false
set_option linter.unusedSimpArgs false
set_option linter.unusedSectionVars false
set_option maxRecDepth 100000
set_option maxHeartbeats 4000000
section
open Go.Proofs
namespace Go.Lift.V1
variable {lo : Nat} {h : Heap}
structure PR where
 n : ByteArray
 k : Int
 d : Bool
 l : Bool
 w : ByteArray
 ini : ByteArray
 nu : Int
 de : Int
def tblP : List PR := [
 ⟨⟨#[99, 111, 108, 111, 114]⟩, 3, true, false, ⟨#[98, 108, 97, 99, 107, 32, 119, 104, 105, 116, 101, 32, 114, 101, 100, 32, 103, 114, 101, 101, 110, 32, 98, 108, 117, 101, 32, 116, 114, 97, 110, 115, 112, 97, 114, 101, 110, 116]⟩, ⟨#[98, 108, 97, 99, 107]⟩, 0, 0⟩,
 ⟨⟨#[100, 105, 115, 112, 108, 97, 121]⟩, 3, false, false, ⟨#[105, 110, 108, 105, 110, 101, 32, 98, 108, 111, 99, 107, 32, 110, 111, 110, 101, 32, 102, 108, 101, 120, 32, 103, 114, 105, 100]⟩, ⟨#[105, 110, 108, 105, 110, 101]⟩, 0, 0⟩,
 ⟨⟨#[102, 111, 110, 116, 45, 115, 105, 122, 101]⟩, 1, true, false, ⟨#[]⟩, ⟨#[]⟩, 16, 1⟩,
 ⟨⟨#[103, 97, 112]⟩, 1, false, false, ⟨#[]⟩, ⟨#[]⟩, 0, 1⟩,
 ⟨⟨#[104, 101, 105, 103, 104, 116]⟩, 1, false, false, ⟨#[97, 117, 116, 111]⟩, ⟨#[97, 117, 116, 111]⟩, 0, 0⟩,
 ⟨⟨#[108, 101, 102, 116]⟩, 1, false, true, ⟨#[97, 117, 116, 111]⟩, ⟨#[97, 117, 116, 111]⟩, 0, 0⟩,
 ⟨⟨#[108, 105, 110, 101, 45, 104, 101, 105, 103, 104, 116]⟩, 2, true, false, ⟨#[]⟩, ⟨#[]⟩, 6, 5⟩,
 ⟨⟨#[109, 97, 114, 103, 105, 110]⟩, 1, false, true, ⟨#[97, 117, 116, 111]⟩, ⟨#[]⟩, 0, 1⟩,
 ⟨⟨#[111, 112, 97, 99, 105, 116, 121]⟩, 2, false, false, ⟨#[]⟩, ⟨#[]⟩, 1, 1⟩,
 ⟨⟨#[111, 114, 100, 101, 114]⟩, 2, false, true, ⟨#[]⟩, ⟨#[]⟩, 0, 1⟩,
 ⟨⟨#[112, 97, 100, 100, 105, 110, 103]⟩, 1, false, false, ⟨#[]⟩, ⟨#[]⟩, 0, 1⟩,
 ⟨⟨#[116, 101, 120, 116, 45, 97, 108, 105, 103, 110]⟩, 3, true, false, ⟨#[115, 116, 97, 114, 116, 32, 101, 110, 100, 32, 99, 101, 110, 116, 101, 114]⟩, ⟨#[115, 116, 97, 114, 116]⟩, 0, 0⟩,
 ⟨⟨#[118, 105, 115, 105, 98, 105, 108, 105, 116, 121]⟩, 3, true, false, ⟨#[118, 105, 115, 105, 98, 108, 101, 32, 104, 105, 100, 100, 101, 110, 32, 99, 111, 108, 108, 97, 112, 115, 101]⟩, ⟨#[118, 105, 115, 105, 98, 108, 101]⟩, 0, 0⟩,
 ⟨⟨#[119, 105, 100, 116, 104]⟩, 1, false, false, ⟨#[97, 117, 116, 111]⟩, ⟨#[97, 117, 116, 111]⟩, 0, 0⟩]
def rowP (p : PR) : List V := [.v (.string p.n), .v (.int .i64 p.k), .v (.bool p.d), .v (.bool p.l), .v (.string p.w), .v (.string p.ini), .v (.int .i64 p.nu), .v (.int .i64 p.de)]
theorem f28 : E lo 28 [] h = some (.list .no (tblP.map rowP), h) := by
 rw [e28 (by simp) (by rfl)]
 simp only [go_sem, b28, Tryz.f28]
 all_goals rfl
@[go_sem] theorem unt_mp (b : Nat) : untag1 (.mp b) = .mp b := rfl
@[go_sem] theorem unc_mp (b : Nat) : untagC1 (.mp b) = .mp b := rfl
@[go_sem] theorem own_mp (b : Nat) : own1 (.mp b) = .mp b := rfl
@[go_sem] theorem cps_mp (b : Nat) : cps (.mp b) = .mp b := rfl
@[go_sem] theorem fzs_mp (b : Nat) : fzs (.mp b) = .mp b := rfl
@[go_sem] theorem mv_mp (vars : List Nat) (t b : Nat) : moveV vars t (.mp b) = some (.mp b) := rfl
def esP (k : Nat) : List (Value × Value) := (tblP.take k).mapIdx fun i p => (.string p.n, .int .i64 i)
theorem put0 : putT Tryz.prog 9 (.string ⟨#[99, 111, 108, 111, 114]⟩) (.int .i64 ((0 : Nat) : Int)) (esP 0) = some (esP 1) := by kernel_rfl
theorem put1 : putT Tryz.prog 9 (.string ⟨#[100, 105, 115, 112, 108, 97, 121]⟩) (.int .i64 ((1 : Nat) : Int)) (esP 1) = some (esP 2) := by kernel_rfl
theorem put2 : putT Tryz.prog 9 (.string ⟨#[102, 111, 110, 116, 45, 115, 105, 122, 101]⟩) (.int .i64 ((2 : Nat) : Int)) (esP 2) = some (esP 3) := by kernel_rfl
theorem put3 : putT Tryz.prog 9 (.string ⟨#[103, 97, 112]⟩) (.int .i64 ((3 : Nat) : Int)) (esP 3) = some (esP 4) := by kernel_rfl
theorem put4 : putT Tryz.prog 9 (.string ⟨#[104, 101, 105, 103, 104, 116]⟩) (.int .i64 ((4 : Nat) : Int)) (esP 4) = some (esP 5) := by kernel_rfl
theorem put5 : putT Tryz.prog 9 (.string ⟨#[108, 101, 102, 116]⟩) (.int .i64 ((5 : Nat) : Int)) (esP 5) = some (esP 6) := by kernel_rfl
theorem put6 : putT Tryz.prog 9 (.string ⟨#[108, 105, 110, 101, 45, 104, 101, 105, 103, 104, 116]⟩) (.int .i64 ((6 : Nat) : Int)) (esP 6) = some (esP 7) := by kernel_rfl
theorem put7 : putT Tryz.prog 9 (.string ⟨#[109, 97, 114, 103, 105, 110]⟩) (.int .i64 ((7 : Nat) : Int)) (esP 7) = some (esP 8) := by kernel_rfl
theorem put8 : putT Tryz.prog 9 (.string ⟨#[111, 112, 97, 99, 105, 116, 121]⟩) (.int .i64 ((8 : Nat) : Int)) (esP 8) = some (esP 9) := by kernel_rfl
theorem put9 : putT Tryz.prog 9 (.string ⟨#[111, 114, 100, 101, 114]⟩) (.int .i64 ((9 : Nat) : Int)) (esP 9) = some (esP 10) := by kernel_rfl
theorem put10 : putT Tryz.prog 9 (.string ⟨#[112, 97, 100, 100, 105, 110, 103]⟩) (.int .i64 ((10 : Nat) : Int)) (esP 10) = some (esP 11) := by kernel_rfl
theorem put11 : putT Tryz.prog 9 (.string ⟨#[116, 101, 120, 116, 45, 97, 108, 105, 103, 110]⟩) (.int .i64 ((11 : Nat) : Int)) (esP 11) = some (esP 12) := by kernel_rfl
theorem put12 : putT Tryz.prog 9 (.string ⟨#[118, 105, 115, 105, 98, 105, 108, 105, 116, 121]⟩) (.int .i64 ((12 : Nat) : Int)) (esP 12) = some (esP 13) := by kernel_rfl
theorem put13 : putT Tryz.prog 9 (.string ⟨#[119, 105, 100, 116, 104]⟩) (.int .i64 ((13 : Nat) : Int)) (esP 13) = some (esP 14) := by kernel_rfl
theorem put_k : ∀ k : Nat, k < 14 -> ∀ p : PR, tblP[k]? = some p -> putT Tryz.prog 9 (.string p.n) (.int .i64 k) (esP k) = some (esP (k + 1)) := by
 intro k hk p hp
 match k, hk with
 | 0, _ => cases hp; exact put0
 | 1, _ => cases hp; exact put1
 | 2, _ => cases hp; exact put2
 | 3, _ => cases hp; exact put3
 | 4, _ => cases hp; exact put4
 | 5, _ => cases hp; exact put5
 | 6, _ => cases hp; exact put6
 | 7, _ => cases hp; exact put7
 | 8, _ => cases hp; exact put8
 | 9, _ => cases hp; exact put9
 | 10, _ => cases hp; exact put10
 | 11, _ => cases hp; exact put11
 | 12, _ => cases hp; exact put12
 | 13, _ => cases hp; exact put13
 | n + 14, hk => omega
abbrev N30 (b : V) (k : Int) : Env := [(1, b), (5, .list .no (tblP.map rowP)), (6, .v (.int .i64 14)), (7, .v (.int .i64 k))]
theorem r30 {k : Nat} {p : PR} (hlo : lo <= h.length) (hk : k < 14) (hp : tblP[k]? = some p) :
  evCode ⟨Tryz.prog, E, lo, h.length, h30⟩ loopW l30x0 (N30 (.mp h.length) k, h ++ [.tab (esP k)]) = some (.normal, N30 (.mp h.length) (k + 1 : Nat), h ++ [.tab (esP (k + 1))]) := by
 have l1 : lo <= h.length + 1 := by omega
 have hput := put_k k hk p hp
 have hgr : (tblP.map rowP)[k]? = some (rowP p) := by simp [hp]
 have q1 : decide ((k : Int) < 14) = true := by rw [decide_eq_true_iff]; omega
 have t1 : Int.toNat (k : Int) = k := by omega
 have w1 : IntKind.i64.wrap ((k : Int) + 1) = ((k + 1 : Nat) : Int) := wrap_succ (by omega)
 simp only [rowP, N30, go_sem, insertV, l30x0, b30, Tryz.f30, hlo, l1, q1, hgr, t1, w1, hput]
 all_goals rfl
theorem stop30 (hlo : lo <= h.length) : evCode ⟨Tryz.prog, E, lo, h.length, h30⟩ loopW l30x0 (N30 (.mp h.length) (14 : Nat), h ++ [.tab (esP 14)]) = some (.exit 0, N30 (.mp h.length) (14 : Nat) ++ [(8, .v (.bool false))], h ++ [.tab (esP 14)]) := by
 have l1 : lo <= h.length + 1 := by omega
 have q1 : decide (((14 : Nat) : Int) < 14) = false := rfl
 simp only [N30, go_sem, l30x0, b30, Tryz.f30, hlo, l1, q1]
 all_goals rfl
theorem loop30 (hlo : lo <= h.length) : ∀ n k : Nat, k + n = 14 ->
  loopW (evCode ⟨Tryz.prog, E, lo, h.length, h30⟩ loopW l30x0) (N30 (.mp h.length) k, h ++ [.tab (esP k)]) = some (.exit 0, N30 (.mp h.length) (14 : Nat) ++ [(8, .v (.bool false))], h ++ [.tab (esP 14)])
 | 0, k, hk => by
  obtain rfl : k = 14 := by omega
  rw [loop_eq, stop30 hlo, loop_e]
 | n + 1, k, hk => by
  have hlt : k < tblP.length := by show k < 14; omega
  rw [loop_eq, r30 hlo (by omega) (List.getElem?_eq_getElem hlt), loop_n]
  exact loop30 hlo n (k + 1) (by omega)
theorem f30 (hlo : lo <= h.length) : E lo 30 [] h = some (.mp h.length, h ++ [.tab (esP 14)]) := by
 have l1 : lo <= h.length + 1 := by omega
 have c28 := fun lo h => f28 (lo := lo) (h := h)
 have hL := loop30 (h := h) hlo 14 0 rfl
 have hn : ((tblP.map rowP).length : Int) = 14 := rfl
 have e0 : esP 0 = [] := rfl
 rw [e0] at hL
 rw [e30 (by simp) (by rfl)]
 simp only [l30x0, b30, Tryz.f30, loopAt, loops, bodyOf, N30, go_sem] at hL
 simp only [go_sem, b30, Tryz.f30, hlo, l1, c28, hn, hL]
 all_goals rfl
def atL (s : ByteArray) : List PR -> Nat -> Option Nat
 | [], _ => none
 | p :: r, i => if (s.toList == p.n.toList) = true then some i else atL s r (i + 1)
def esL : List PR -> Nat -> List (Value × Value)
 | [], _ => []
 | p :: r, i => (.string p.n, .int .i64 i) :: esL r (i + 1)
theorem findT_at (s : ByteArray) : ∀ (l : List PR) (i : Nat), findT .string (.string s) (esL l i) i = some ((atL s l i).map fun j => (j, .int .i64 j))
 | [], _ => rfl
 | p :: r, i => by
  unfold esL findT atL
  simp only [sameT]
  cases q : s.toList == p.n.toList with
  | true => simp
  | false => simp [findT_at s r (i + 1)]
theorem es_all : esP 14 = esL tblP 0 := rfl
def placeV (s : ByteArray) : V := match atL s tblP 0 with
 | some i => .tup [.v (.int .i64 i), .v (.bool true)]
 | none => .tup [.v (.int .i64 0), .v (.bool false)]
def placeP (s : ByteArray) : Int := match atL s tblP 0 with
 | some i => i
 | none => -1
theorem zero3 : zero1 Tryz.prog 3 = some (.int .i64 0) := by kernel_rfl
theorem look_at (s : ByteArray) : lookT Tryz.prog 9 3 (.string s) (esP 14) true = some (placeV s) := by
 unfold lookT
 rw [Tryz.underlying9]
 simp only [keyT, if_true, es_all, findT_at, zero3]
 unfold placeV
 cases atL s tblP 0 <;> rfl
theorem f13 {s : ByteArray} (hlo : lo <= h.length) : E lo 13 [.v (.string s)] h = some (.v (.int .i64 (placeP s)), h) := by
 have l1 : lo <= h.length + 1 := by omega
 have c30 := fun lo hlo => f30 (lo := lo) (h := h) hlo
 have hl := look_at s
 rw [e13 (by simp) (by rfl)]
 unfold placeV at hl
 unfold placeP
 cases hq : atL s tblP 0 with
 | none =>
  rw [hq] at hl
  simp only [go_sem, lookupV, b13, Tryz.f13, hlo, l1, c30, hl, Nat.le_refl]
  all_goals rfl
 | some i =>
  rw [hq] at hl
  simp only [go_sem, lookupV, b13, Tryz.f13, hlo, l1, c30, hl, Nat.le_refl]
  all_goals rfl
end Go.Lift.V1
end

section
open Go.Proofs
namespace Go.Lift.V1
variable {lo : Nat} {h : Heap}
noncomputable def wordsP (w : ByteArray) : List (List V) := (Go.Lib.fields w.data.toList).map fun l => [.v (.string ⟨l.toArray⟩)]
def compP (p : PR) : List V :=
 if (p.de == 0) = true then [.v (.int .i64 3), .v (.int .i64 0), .v (.int .i64 0), .v (.string p.ini)]
 else if (p.k == 1) = true then [.v (.int .i64 1), .v (.int .i64 p.nu), .v (.int .i64 p.de), .v (.string ⟨#[]⟩)]
 else [.v (.int .i64 2), .v (.int .i64 p.nu), .v (.int .i64 p.de), .v (.string ⟨#[]⟩)]
noncomputable def propP (p : PR) : List V := [.v (.string p.n), .v (.int .i64 p.k), .v (.bool p.d), .v (.bool p.l), .list .no (wordsP p.w)] ++ compP p
def zeroProp : List V := [.v (.string ⟨#[]⟩), .v (.int .i64 0), .v (.bool false), .v (.bool false), .list .no [], .v (.int .i64 0), .v (.int .i64 0), .v (.int .i64 0), .v (.string ⟨#[]⟩)]
theorem ascii_all : ∀ p ∈ tblP, p.w.size < 4294967281 /\ (p.w.data.toList.all fun b => decide (b.toNat < 128)) = true := by
 intro p hp
 simp only [tblP, List.mem_cons, List.not_mem_nil, or_false] at hp
 rcases hp with rfl | rfl | rfl | rfl | rfl | rfl | rfl | rfl | rfl | rfl | rfl | rfl | rfl | rfl <;> exact ⟨by decide, by decide⟩
theorem f29 {p : PR} (hp : p ∈ tblP) : E lo 29 [.v (.string p.w)] h = some (.list .no (wordsP p.w), h) := by
 refine (ev_prim (p := fieldsP) rfl).trans ?_
 unfold fieldsP wordsP
 exact if_pos (ascii_all p hp)
theorem f12a {s : ByteArray} (hlo : lo <= h.length) (hq : atL s tblP 0 = none) : E lo 12 [.v (.string s)] h = some (.tup [.agg zeroProp, .v (.bool false)], h) := by
 have l1 : lo <= h.length + 1 := by omega
 have c13 := fun lo h hlo => f13 (lo := lo) (h := h) (s := s) hlo
 unfold placeP at c13
 rw [hq] at c13
 have q : decide ((-1 : Int) < 0) = true := rfl
 rw [e12 (by simp) (by rfl)]
 simp only [go_sem, b12, Tryz.f12, hlo, l1, c13, q]
 all_goals rfl
theorem f12b {s : ByteArray} {i : Nat} {p : PR} (hlo : lo <= h.length) (hq : atL s tblP 0 = some i) (hp : tblP[i]? = some p) : E lo 12 [.v (.string s)] h = some (.tup [.agg (propP p), .v (.bool true)], h) := by
 have l1 : lo <= h.length + 1 := by omega
 have l2 : lo <= h.length + 1 + 1 := by omega
 have c13 := fun lo h hlo => f13 (lo := lo) (h := h) (s := s) hlo
 have c28 := fun lo h => f28 (lo := lo) (h := h)
 have c29 := fun lo h => f29 (lo := lo) (h := h) (List.mem_of_getElem? hp)
 unfold placeP at c13
 rw [hq] at c13
 have q : decide ((i : Int) < 0) = false := by rw [decide_eq_false_iff_not]; omega
 have hgr : (tblP.map rowP)[i]? = some (rowP p) := by simp [hp]
 have t1 : Int.toNat (i : Int) = i := by omega
 unfold propP compP
 rw [e12 (by simp) (by rfl)]
 cases hd : p.de == 0 with
 | true =>
  simp only [rowP, go_sem, b12, Tryz.f12, hlo, l1, l2, c13, c28, c29, q, hgr, t1, hd]
  all_goals rfl
 | false =>
  cases hk : p.k == 1 with
  | true =>
   simp only [rowP, go_sem, b12, Tryz.f12, hlo, l1, l2, c13, c28, c29, q, hgr, t1, hd, hk]
   all_goals rfl
  | false =>
   simp only [rowP, go_sem, b12, Tryz.f12, hlo, l1, l2, c13, c28, c29, q, hgr, t1, hd, hk]
   all_goals rfl
end Go.Lift.V1
end

section
open Go.Proofs
namespace Go.Lift.V1
variable {lo : Nat} {h : Heap}
theorem q_eq {a b : Int} {r : V} (hm : memo qM lo [.v (.int .i64 a), .v (.int .i64 b)] h = some (r, h)) : E lo 69 [.v (.int .i64 a), .v (.int .i64 b)] h = some (r, h) := (ev_prim (p := memo qM) rfl).trans hm
theorem q65 : E lo 69 [.v (.int .i64 6), .v (.int .i64 5)] h = some (rt 6 5, h) := q_eq (by unfold qM memo; rw [if_pos (by kernel_rfl)])
theorem v1 : veqs [.v (.int .i64 1), .v (.int .i64 1)] [.v (.int .i64 6), .v (.int .i64 5)] = false := by kernel_rfl
theorem v2 : veqs [.v (.int .i64 0), .v (.int .i64 1)] [.v (.int .i64 6), .v (.int .i64 5)] = false := by kernel_rfl
theorem v3 : veqs [.v (.int .i64 0), .v (.int .i64 1)] [.v (.int .i64 1), .v (.int .i64 1)] = false := by kernel_rfl
theorem q11 : E lo 69 [.v (.int .i64 1), .v (.int .i64 1)] h = some (rt 1 1, h) := q_eq (by unfold qM memo; rw [v1, if_neg (by simp)]; unfold memo; rw [if_pos (by kernel_rfl)])
theorem q01 : E lo 69 [.v (.int .i64 0), .v (.int .i64 1)] h = some (rt 0 1, h) := q_eq (by unfold qM memo; rw [v2, if_neg (by simp)]; unfold memo; rw [v3, if_neg (by simp)]; unfold memo; rw [if_pos (by kernel_rfl)])
theorem f68 {n : Int} (hlo : lo <= h.length) : E lo 68 [.v (.int .i64 n)] h = some (rt n 1, h) := by
 rw [e68 (by simp) (by rfl)]
 simp only [go_sem, b68, Tryz.f68, hlo]
 all_goals rfl
theorem f49 {n : Int} (hlo : lo <= h.length) : E lo 49 [.v (.int .i64 n)] h = some (.agg [.v (.int .i64 1), .v (.int .i64 n), .v (.int .i64 1), .v (.string ⟨#[]⟩)], h) := by
 have l1 : lo <= h.length + 1 := by omega
 have c := fun lo h hlo => f68 (lo := lo) (h := h) (n := n) hlo
 unfold rt at c
 rw [e49 (by simp) (by rfl)]
 simp only [go_sem, b49, Tryz.f49, hlo, l1, c, Nat.le_refl]
 all_goals rfl
theorem f48 {s : ByteArray} (hlo : lo <= h.length) : E lo 48 [.v (.string s)] h = some (.agg [.v (.int .i64 3), .v (.int .i64 0), .v (.int .i64 0), .v (.string s)], h) := by
 rw [e48 (by simp) (by rfl)]
 simp only [go_sem, b48, Tryz.f48, hlo]
 all_goals rfl
theorem f50 {a b : Int} (hlo : lo <= h.length) (hq : ∀ lo h, E lo 69 [.v (.int .i64 a), .v (.int .i64 b)] h = some (rt a b, h)) : E lo 50 [.v (.int .i64 a), .v (.int .i64 b)] h = some (.agg [.v (.int .i64 2), .v (.int .i64 a), .v (.int .i64 b), .v (.string ⟨#[]⟩)], h) := by
 unfold rt at hq
 rw [e50 (by simp) (by rfl)]
 simp only [go_sem, b50, Tryz.f50, hlo, hq]
 all_goals rfl
theorem f27 (hlo : lo <= h.length) : E lo 27 [] h = some (.list .no (tblP.map propP), h) := by
 have k48 := fun lo h s hlo => f48 (lo := lo) (h := h) hlo (s := s)
 have k49 := fun lo h n hlo => f49 (lo := lo) (h := h) hlo (n := n)
 have k65 := fun lo h hlo => f50 (lo := lo) (h := h) hlo (a := 6) (b := 5) fun _ _ => q65
 have k11 := fun lo h hlo => f50 (lo := lo) (h := h) hlo (a := 1) (b := 1) fun _ _ => q11
 have k01 := fun lo h hlo => f50 (lo := lo) (h := h) hlo (a := 0) (b := 1) fun _ _ => q01
 rw [e27 (by simp) (by rfl)]
 simp only [go_sem, b27, Tryz.f27, hlo, k48, k49, k65, k11, k01]
 all_goals (refine congrArg (fun x => (x, h)) ?_; show _ = _; kernel_rfl)
end Go.Lift.V1
end

section
open Go.Proofs
namespace Go.Lift.V1
open Rul
open Utf (By)
variable {lo : Nat} {h : Heap}
theorem u8s_inj : ∀ {a b : List Int}, By a -> By b -> u8s a = u8s b -> a = b
 | [], [], _, _, _ => rfl
 | [], y :: b, _, _, h => by cases h
 | x :: a, [], _, _, h => by cases h
 | x :: a, y :: b, ha, hb, h => by
  simp only [u8s, List.map_cons, List.cons.injEq] at h
  have hx := ha x (by simp)
  have hy := hb y (by simp)
  have e : x = y := by
   have := congrArg UInt8.toNat h.1
   simp only [UInt8.toNat_ofNat'] at this
   omega
  rw [e, u8s_inj (fun c hc => ha c (by simp [hc])) (fun c hc => hb c (by simp [hc])) h.2]
theorem rbs_list (b : List Int) : (Rul.bs b).toList = u8s b := by simp only [Rul.bs, ByteArray.toList_eq]
theorem bs_beq' {a b : List Int} (ha : By a) (hb : By b) : ((Rul.bs a).toList == (Rul.bs b).toList) = (a == b) := by
 rw [rbs_list, rbs_list, Bool.eq_iff_iff, beq_iff_eq, beq_iff_eq]
 exact ⟨u8s_inj ha hb, fun h => by rw [h]⟩
end Go.Lift.V1
end

section
open Go.Proofs
namespace Go.Lift.V1
open Rul
open Utf (By)
variable {lo : Nat} {h : Heap}
theorem rbs_size (l : List Int) : (Rul.bs l).size = l.length := by simp [Rul.bs, ByteArray.size, u8s]
theorem rbs_ix {l : List Int} (hy : By l) (i : Nat) : ((Rul.bs l).data[i]?).map (fun c => V.v (.int .u8 c.toNat)) = (l[i]?).map fun c => V.v (.int .u8 c) := by
 simp only [Rul.bs, u8s, List.getElem?_toArray, List.getElem?_map, Option.map_map]
 rcases hg : l[i]? with _ | c
 ·rfl
 ·have := hy c (List.mem_of_getElem? hg)
  simp only [Option.map_some, Function.comp, UInt8.toNat_ofNat']
  have e : ((c.toNat % 2 ^ 8 : Nat) : Int) = c := by omega
  rw [e]
def custR : List Int -> Bool
 | a :: b :: _ :: _ => a == 45 && b == 45
 | _ => false
theorem f16a {L : List Int} (hb : decide ((L.length : Int) > 2) = false) : E lo 16 [.v (.string (Rul.bs L))] h = some (.v (.bool false), h) := by
 rw [e16 (by simp) (by rfl)]
 simp only [go_sem, b16, Tryz.f16, rbs_size, hb]
theorem f16b {L : List Int} {a b : Int} (hy : By L) (hb : decide ((L.length : Int) > 2) = true) (g0 : L[0]? = some a) (g1 : L[1]? = some b) : E lo 16 [.v (.string (Rul.bs L))] h = some (.v (.bool (a == 45 && b == 45)), h) := by
 have h0 := rbs_ix hy 0
 have h1 := rbs_ix hy 1
 rw [g0] at h0
 rw [g1] at h1
 have t0 : Int.toNat 0 = 0 := rfl
 have t1 : Int.toNat 1 = 1 := rfl
 rw [e16 (by simp) (by rfl)]
 cases ha : a == 45 with
 | true =>
  simp only [go_sem, b16, Tryz.f16, rbs_size, hb, h0, h1, t0, t1, ha, Option.map_some, Bool.true_and]
 | false =>
  simp only [go_sem, b16, Tryz.f16, rbs_size, hb, h0, h1, t0, t1, ha, Option.map_some, Bool.false_and]
theorem f16 {l : List Int} (hy : By l) : E lo 16 [.v (.string (Rul.bs l))] h = some (.v (.bool (custR l)), h) := by
 match l, hy with
 | [], hy => exact f16a (by simp)
 | [_], hy => exact f16a (by simp)
 | [_, _], hy => exact f16a (by simp)
 | a :: b :: c :: r, hy => exact f16b hy (by simp; omega) rfl rfl
end Go.Lift.V1
end

section
open Go.Proofs
namespace Go.Lift.V1
variable {lo : Nat} {h : Heap}
def cellsP (n : ByteArray) (k : Int) (d l : Bool) (ws : List ByteArray) (ck a b : Int) (w : ByteArray) : List V :=
 [.v (.string n), .v (.int .i64 k), .v (.bool d), .v (.bool l), .list .no (ws.map fun x => [.v (.string x)]), .v (.int .i64 ck), .v (.int .i64 a), .v (.int .i64 b), .v (.string w)]
section
variable {n : ByteArray} {k : Int} {d l : Bool} {ws : List ByteArray} {ck a b : Int} {w : ByteArray}
abbrev H14 (h : Heap) (cs : List V) : Heap := h ++ [.cells cs, .cells cs]
abbrev N14 (h : Heap) (m j : Int) : Env := [(2, .ptr h.length 0), (3, .ptr (h.length + 1) 0), (50, .v (.int .i64 m)), (51, .v (.int .i64 j))]
theorem r14 {j : Nat} {x : ByteArray} (hlo : lo <= h.length) (hl : ws.length <= 1000000000) (hg : ws[j]? = some x) :
  evCode ⟨Tryz.prog, E, lo, h.length, h14⟩ loopW l14x0 (N14 h ws.length j, H14 h (cellsP n k d l ws ck a b w)) = some (.normal, N14 h ws.length (j + 1 : Nat), H14 h (cellsP n k d l ws ck a b w)) := by
 have hlt : j < ws.length := (List.getElem?_eq_some_iff.1 hg).1
 have l1 : lo <= h.length + 1 := by omega
 have q1 : decide ((j : Int) < (ws.length : Int)) = true := by rw [decide_eq_true_iff]; omega
 have hgr : (ws.map fun x => [V.v (.string x)])[j]? = some [.v (.string x)] := by simp [hg]
 have t1 : Int.toNat (j : Int) = j := by omega
 have hw : IntKind.i64.wrap ((j : Int) + 1) = ((j + 1 : Nat) : Int) := wrap_succ (by omega)
 have hx : (x.toList == x.toList) = true := by simp
 simp only [N14, H14, cellsP, go_sem, l14x0, b14, Tryz.f14, hlo, l1, q1, hgr, t1, hw, hx, Bool.not_true]
 all_goals rfl
theorem stop14 (hlo : lo <= h.length) (hl : ws.length <= 1000000000) :
  evCode ⟨Tryz.prog, E, lo, h.length, h14⟩ loopW l14x0 (N14 h ws.length (ws.length : Nat), H14 h (cellsP n k d l ws ck a b w)) = some (.exit 0, N14 h ws.length (ws.length : Nat) ++ [(52, .v (.bool false))], H14 h (cellsP n k d l ws ck a b w)) := by
 have l1 : lo <= h.length + 1 := by omega
 have q1 : decide ((ws.length : Int) < (ws.length : Int)) = false := by rw [decide_eq_false_iff_not]; omega
 simp only [N14, H14, cellsP, go_sem, l14x0, b14, Tryz.f14, hlo, l1, q1]
 all_goals rfl
theorem loop14 (hlo : lo <= h.length) (hl : ws.length <= 1000000000) : ∀ m j : Nat, j + m = ws.length ->
  loopW (evCode ⟨Tryz.prog, E, lo, h.length, h14⟩ loopW l14x0) (N14 h ws.length j, H14 h (cellsP n k d l ws ck a b w)) = some (.exit 0, N14 h ws.length (ws.length : Nat) ++ [(52, .v (.bool false))], H14 h (cellsP n k d l ws ck a b w))
 | 0, j, hk => by
  obtain rfl : j = ws.length := by omega
  rw [loop_eq, stop14 hlo hl, loop_e]
 | m + 1, j, hk => by
  have hlt : j < ws.length := by omega
  rw [loop_eq, r14 hlo hl (List.getElem?_eq_getElem hlt), loop_n]
  exact loop14 hlo hl m (j + 1) (by omega)
theorem fl30 : flatOf Tryz.prog 30 = some [1, 1, 1, 2] := by kernel_rfl
theorem f14 (hlo : lo <= h.length) (hl : ws.length <= 1000000000) : E lo 14 [.agg (cellsP n k d l ws ck a b w), .agg (cellsP n k d l ws ck a b w)] h = some (.v (.bool true), h) := by
 have l1 : lo <= h.length + 1 := by omega
 have l2 : lo <= h.length + 1 + 1 := by omega
 have hL := loop14 (n := n) (k := k) (d := d) (l := l) (ck := ck) (a := a) (b := b) (w := w) hlo hl ws.length 0 (by omega)
 have hn : (n.toList == n.toList) = true := by simp
 have hw : (w.toList == w.toList) = true := by simp
 have hk : (k == k) = true := by simp
 have hd : (d == d) = true := by simp
 have hll : (l == l) = true := by simp
 have hck : (ck == ck) = true := by simp
 have ha : (a == a) = true := by simp
 have hb : (b == b) = true := by simp
 have hws : ((ws.length : Int) == (ws.length : Int)) = true := by simp
 rw [e14 (by simp) (by rfl)]
 simp only [l14x0, b14, Tryz.f14, loopAt, loops, bodyOf, N14, H14, cellsP, go_sem] at hL
 simp only [cellsP, go_sem, b14, Tryz.f14, hlo, l1, l2, hn, hw, hk, hd, hll, hck, ha, hb, hws, List.length_map, fl30, eqCells, eqS, hL]
 all_goals rfl
end
theorem wid_pos (s : ByteArray) (p : Nat) : 1 <= (Utf8.decode s p).2 := by
 unfold Utf8.decode
 simp only
 repeat' split
 all_goals first | omega | simp
end Go.Lift.V1
end

section
open Go.Proofs
namespace Go.Lift.V1
open Rul
open Utf (By)
variable {lo : Nat} {h : Heap}
def dash2 : ByteArray := ⟨#[45, 45]⟩
theorem ex2 {L : List Int} (hy : By L) (hl : 2 < L.length) : (((Rul.bs L).extract 0 2).toList == dash2.toList) = custR L := by
 match L, hl with
 | a :: b :: c :: r, _ =>
  have ha := hy a (by simp)
  have hb := hy b (by simp)
  have e : ((Rul.bs (a :: b :: c :: r)).extract 0 2) = Rul.bs [a, b] := by
   apply ByteArray.ext
   simp [Rul.bs, u8s]
  have e2 : dash2 = Rul.bs [45, 45] := rfl
  rw [e, e2, bs_beq' (by intro x hx; simp at hx; omega) (by intro x hx; simp at hx; omega)]
  unfold custR
  simp
theorem f53 {L : List Int} (hy : By L) (hl : 2 < L.length) (hlo : lo <= h.length) : E lo 53 [.v (.string (Rul.bs L)), .v (.string dash2)] h = some (.v (.bool (custR L)), h) := by
 have q1 : decide (((2 : Nat) : Int) <= (L.length : Int)) = true := by rw [decide_eq_true_iff]; omega
 have q2 : (2 <= L.length) = True := by simp; omega
 have z2 : (0 <= ((2 : Nat) : Int)) = True := by simp
 have t2 : Int.toNat ((2 : Nat) : Int) = 2 := rfl
 have s2 : dash2.size = 2 := rfl
 have hx := ex2 hy hl
 rw [e53 (by simp) (by rfl)]
 simp only [go_sem, b53, Tryz.f53, hlo, rbs_size, q1, q2, z2, t2, s2, hx]
 all_goals rfl
theorem f31 {L : List Int} (hy : By L) (hl : 2 < L.length) (hlo : lo <= h.length) : E lo 31 [.v (.string (Rul.bs L)), .v (.string dash2)] h = some (.v (.bool (custR L)), h) := by
 have c := fun lo h hlo => f53 (lo := lo) (h := h) hy hl hlo
 rw [e31 (by simp) (by rfl)]
 simp only [go_sem, b31, Tryz.f31, hlo, c]
 all_goals rfl
abbrev N15 (h : Heap) (L : List Int) (ex : Env) : Env := [(0, .v (.string (Rul.bs L))), (5, .ptr h.length 0)] ++ ex
abbrev X15 (h : Heap) (L : List Int) : Env := [(0, .v (.string (Rul.bs L))), (5, .ptr h.length 0), (6, .tup [.v (.bool false)]), (7, .v (.bool false))]
theorem r15 {L : List Int} {pos : Nat} {ex : Env} (hlo : lo <= h.length) (hp : pos < L.length) (hl : L.length <= 1000000000000) (h2 : ((pos : Int) == 2) = false) (hx : ex = [] \/ ex = [(10, .v (.bool false))]) :
  evCode ⟨Tryz.prog, E, lo, h.length, h15⟩ loopW l15x0 (N15 h L ex, h ++ [.iter (Rul.bs L) pos]) = some (.normal, N15 h L [(10, .v (.bool false))], h ++ [.iter (Rul.bs L) (pos + (Utf8.decode (Rul.bs L) pos).2)]) := by
 have l1 : lo <= h.length + 1 := by omega
 rcases hx with rfl | rfl <;>
 simp only [N15, go_sem, l15x0, b15, Tryz.f15, hlo, l1, rbs_size, hp, h2] <;> rfl
theorem r15t {L : List Int} {ex : Env} (hy : By L) (hlo : lo <= h.length) (hp : 2 < L.length) (hl : L.length <= 1000000000000) (hx : ex = [] \/ ex = [(10, .v (.bool false))]) :
  evCode ⟨Tryz.prog, E, lo, h.length, h15⟩ loopW l15x0 (N15 h L ex, h ++ [.iter (Rul.bs L) 2]) = some (.ret, [(2, .v (.bool (custR L)))], h ++ [.iter (Rul.bs L) (2 + (Utf8.decode (Rul.bs L) 2).2)]) := by
 have l1 : lo <= h.length + 1 := by omega
 have c := fun lo h hlo => f31 (lo := lo) (h := h) hy hp hlo
 unfold dash2 at c
 have h2 : (((2 : Nat) : Int) == 2) = true := rfl
 rcases hx with rfl | rfl <;>
 simp only [N15, go_sem, l15x0, b15, Tryz.f15, hlo, l1, rbs_size, hp, h2, c] <;> rfl
theorem r15s {L : List Int} {pos : Nat} {ex : Env} (hlo : lo <= h.length) (hp : ¬ pos < L.length) (hx : ex = [] \/ ex = [(10, .v (.bool false))]) :
  evCode ⟨Tryz.prog, E, lo, h.length, h15⟩ loopW l15x0 (N15 h L ex, h ++ [.iter (Rul.bs L) pos]) = some (.exit 0, X15 h L, h ++ [.iter (Rul.bs L) pos]) := by
 have l1 : lo <= h.length + 1 := by omega
 rcases hx with rfl | rfl <;>
 simp only [N15, go_sem, l15x0, b15, Tryz.f15, hlo, l1, rbs_size, hp] <;> rfl
theorem loop15f {L : List Int} (hy : By L) (hlo : lo <= h.length) (hl : L.length <= 1000000000000) (hc : custR L = false) : ∀ (n pos : Nat) (ex : Env), L.length <= pos + n -> (ex = [] \/ ex = [(10, .v (.bool false))]) ->
  ∃ p, loopW (evCode ⟨Tryz.prog, E, lo, h.length, h15⟩ loopW l15x0) (N15 h L ex, h ++ [.iter (Rul.bs L) pos]) = some (.exit 0, X15 h L, h ++ [.iter (Rul.bs L) p]) \/
   loopW (evCode ⟨Tryz.prog, E, lo, h.length, h15⟩ loopW l15x0) (N15 h L ex, h ++ [.iter (Rul.bs L) pos]) = some (.ret, [(2, .v (.bool false))], h ++ [.iter (Rul.bs L) p])
 | 0, pos, ex, hn, hx => ⟨pos, .inl (by rw [loop_eq, r15s hlo (by omega) hx, loop_e])⟩
 | n + 1, pos, ex, hn, hx => by
  by_cases hp : pos < L.length
  ·by_cases h2 : pos = 2
   ·subst h2
    refine ⟨2 + (Utf8.decode (Rul.bs L) 2).2, .inr ?_⟩
    rw [loop_eq, r15t hy hlo hp hl hx, loop_r, hc]
   ·have hw := wid_pos (Rul.bs L) pos
    rw [loop_eq, r15 hlo hp hl (by rw [beq_eq_false_iff_ne]; omega) hx, loop_n]
    exact loop15f hy hlo hl hc n _ _ (by omega) (.inr rfl)
  ·exact ⟨pos, .inl (by rw [loop_eq, r15s hlo hp hx, loop_e])⟩
theorem dec_ascii {s : ByteArray} {p : Nat} (hb : (s.get! p).toNat < 128) : (Utf8.decode s p).2 = 1 := by
 unfold Utf8.decode
 simp only [Nat.add_zero]
 rw [if_pos hb]
theorem loop15t {L : List Int} (hy : By L) (hlo : lo <= h.length) (hl : L.length <= 1000000000000) (hc : custR L = true) :
  ∃ p, loopW (evCode ⟨Tryz.prog, E, lo, h.length, h15⟩ loopW l15x0) (N15 h L [], h ++ [.iter (Rul.bs L) 0]) = some (.ret, [(2, .v (.bool true))], h ++ [.iter (Rul.bs L) p]) := by
 match L, hy, hl, hc with
 | a :: b :: c :: r, hy, hl, hc =>
  have hc' := hc
  unfold custR at hc'
  simp only [Bool.and_eq_true, beq_iff_eq] at hc'
  obtain ⟨rfl, rfl⟩ := hc'
  have g0 : ((Rul.bs (45 :: 45 :: c :: r)).get! 0).toNat < 128 := by simp [Rul.bs, u8s, ByteArray.get!]
  have g1 : ((Rul.bs (45 :: 45 :: c :: r)).get! 1).toNat < 128 := by simp [Rul.bs, u8s, ByteArray.get!]
  refine ⟨2 + (Utf8.decode (Rul.bs (45 :: 45 :: c :: r)) 2).2, ?_⟩
  rw [loop_eq, r15 hlo (by simp) hl rfl (.inl rfl), loop_n, dec_ascii g0, loop_eq, r15 hlo (by simp) hl rfl (.inr rfl), loop_n, dec_ascii g1, show (0 + 1 + 1 : Nat) = 2 from rfl, loop_eq, r15t hy hlo (by simp) hl (.inr rfl), loop_r, hc]
theorem f15 {L : List Int} (hy : By L) (hlo : lo <= h.length) (hl : L.length <= 1000000000000) : E lo 15 [.v (.string (Rul.bs L))] h = some (.v (.bool (custR L)), h) := by
 have l1 : lo <= h.length + 1 := by omega
 rw [e15 (by simp) (by rfl)]
 cases hc : custR L with
 | true =>
  obtain ⟨p, hL⟩ := loop15t (h := h) hy hlo hl hc
  simp only [l15x0, b15, Tryz.f15, loopAt, loops, bodyOf, N15, X15, List.append_nil, go_sem] at hL
  simp only [go_sem, b15, Tryz.f15, hlo, l1, hL]
  all_goals rfl
 | false =>
  obtain ⟨p, hL | hL⟩ := loop15f (h := h) hy hlo hl hc L.length 0 [] (by omega) (.inl rfl)
  ·simp only [l15x0, b15, Tryz.f15, loopAt, loops, bodyOf, N15, X15, List.append_nil, go_sem] at hL
   simp only [go_sem, b15, Tryz.f15, hlo, l1, hL]
   all_goals rfl
  ·simp only [l15x0, b15, Tryz.f15, loopAt, loops, bodyOf, N15, X15, List.append_nil, go_sem] at hL
   simp only [go_sem, b15, Tryz.f15, hlo, l1, hL]
   all_goals rfl
end Go.Lift.V1
end

section
open Go.Proofs
namespace Go.Lift.V1
theorem awk0 : evFun Tryz.prog hints primz0 200 0 10 [] [] = some (.v (.bool true), []) := by kernel_rfl
theorem of0 : evFun Tryz.prog hints primz0 200 0 9 [useT] [] = some (useV, []) := by kernel_rfl
end Go.Lift.V1
end

section
open Go.Proofs
namespace Go.Lift.V1
open Rul
open Utf (By)
variable {lo : Nat} {h : Heap}
theorem f10 (hlo : lo <= h.length) : E lo 10 [] h = some (.v (.bool true), h) := by
 refine (ev_prim (p := memo awkM) rfl).trans ?_
 unfold awkM memo
 rw [if_pos (by kernel_rfl)]
end Go.Lift.V1
end

section
open Go.Proofs
namespace Go.Lift.V1
open Rul
open Utf (By)
variable {lo : Nat} {h : Heap}
noncomputable abbrev N11 (h : Heap) (s : ByteArray) (j : Int) : Env := [(0, .v (.string s)), (2, .ptr h.length 0), (6, .list .no (tblP.map propP)), (7, .v (.int .i64 14)), (8, .v (.int .i64 j))]
def zeroI : List V := [.v (.string ByteArray.empty), .v (.int .i64 0), .v (.bool false), .v (.bool false), .list .yes [], .v (.int .i64 0), .v (.int .i64 0), .v (.int .i64 0), .v (.string ByteArray.empty)]
theorem propP_eq (p : PR) : ∃ a b c d, propP p = [.v (.string p.n), .v (.int .i64 p.k), .v (.bool p.d), .v (.bool p.l), .list .no (wordsP p.w), .v (.int .i64 a), .v (.int .i64 b), .v (.int .i64 c), .v (.string d)] := by
 unfold propP compP
 split
 ·exact ⟨_, _, _, _, rfl⟩
 ·split
  ·exact ⟨_, _, _, _, rfl⟩
  ·exact ⟨_, _, _, _, rfl⟩
theorem r11 {s : ByteArray} {j : Nat} {p : PR} (hlo : lo <= h.length) (hp : tblP[j]? = some p) :
  evCode ⟨Tryz.prog, E, lo, h.length, h11⟩ loopW l11x0 (N11 h s j, h ++ [.cells zeroI]) = if (s.toList == p.n.toList) = true then some (.ret, [(2, .ptr h.length 0), (3, .v (.int .i64 j))], h ++ [.cells (propP p), .cells (propP p)]) else some (.normal, N11 h s (j + 1 : Nat), h ++ [.cells zeroI]) := by
 have l1 : lo <= h.length + 1 := by omega
 have hlt : j < 14 := (List.getElem?_eq_some_iff.1 hp).1
 have hgr : (tblP.map propP)[j]? = some (propP p) := by simp [hp]
 have q1 : decide ((j : Int) < 14) = true := by rw [decide_eq_true_iff]; omega
 have t1 : Int.toNat (j : Int) = j := by omega
 have hw : IntKind.i64.wrap ((j : Int) + 1) = ((j + 1 : Nat) : Int) := wrap_succ (by omega)
 have hs : (p.n.toList == s.toList) = (s.toList == p.n.toList) := by rw [Bool.eq_iff_iff, beq_iff_eq, beq_iff_eq]; exact ⟨Eq.symm, Eq.symm⟩
 obtain ⟨a, b, c, d, e⟩ := propP_eq p
 rw [e] at hgr ⊢
 cases hq : s.toList == p.n.toList with
 | true =>
  rw [hq] at hs
  rw [if_pos rfl]
  simp only [N11, zeroI, go_sem, l11x0, b11, Tryz.f11, hlo, l1, q1, hgr, t1, hw, hs]
  all_goals rfl
 | false =>
  rw [hq] at hs
  rw [if_neg (by simp)]
  simp only [N11, zeroI, go_sem, l11x0, b11, Tryz.f11, hlo, l1, q1, hgr, t1, hw, hs]
  all_goals rfl
theorem stop11 {s : ByteArray} (hlo : lo <= h.length) :
  evCode ⟨Tryz.prog, E, lo, h.length, h11⟩ loopW l11x0 (N11 h s (14 : Nat), h ++ [.cells zeroI]) = some (.exit 0, N11 h s (14 : Nat) ++ [(9, .v (.bool false))], h ++ [.cells zeroI]) := by
 have l1 : lo <= h.length + 1 := by omega
 have q1 : decide (((14 : Nat) : Int) < 14) = false := rfl
 simp only [N11, zeroI, go_sem, l11x0, b11, Tryz.f11, hlo, l1, q1]
 all_goals rfl
theorem atL_drop {s : ByteArray} {j : Nat} {p : PR} (hp : tblP[j]? = some p) : atL s (tblP.drop j) j = if (s.toList == p.n.toList) = true then some j else atL s (tblP.drop (j + 1)) (j + 1) := by
 obtain ⟨hlt, rfl⟩ := List.getElem?_eq_some_iff.1 hp
 rw [List.drop_eq_getElem_cons hlt]
 rfl
theorem loop11 {s : ByteArray} (hlo : lo <= h.length) : ∀ m j : Nat, j + m = 14 ->
  (∃ i p, atL s (tblP.drop j) j = some i /\ tblP[i]? = some p /\ loopW (evCode ⟨Tryz.prog, E, lo, h.length, h11⟩ loopW l11x0) (N11 h s j, h ++ [.cells zeroI]) = some (.ret, [(2, .ptr h.length 0), (3, .v (.int .i64 i))], h ++ [.cells (propP p), .cells (propP p)])) \/
  (atL s (tblP.drop j) j = none /\ loopW (evCode ⟨Tryz.prog, E, lo, h.length, h11⟩ loopW l11x0) (N11 h s j, h ++ [.cells zeroI]) = some (.exit 0, N11 h s (14 : Nat) ++ [(9, .v (.bool false))], h ++ [.cells zeroI]))
 | 0, j, hk => by
  obtain rfl : j = 14 := by omega
  exact .inr ⟨rfl, by rw [loop_eq, stop11 hlo, loop_e]⟩
 | m + 1, j, hk => by
  have hlt : j < tblP.length := by show j < 14; omega
  have hp := List.getElem?_eq_getElem hlt
  rw [atL_drop hp, loop_eq, r11 hlo hp]
  by_cases hq : (s.toList == tblP[j].n.toList) = true
  ·rw [if_pos hq, if_pos hq, loop_r]
   exact .inl ⟨j, _, rfl, hp, rfl⟩
  ·rw [if_neg hq, if_neg hq, loop_n]
   exact loop11 hlo m (j + 1) (by omega)
theorem f11 {s : ByteArray} (hlo : lo <= h.length) :
  (∃ i p, atL s tblP 0 = some i /\ tblP[i]? = some p /\ E lo 11 [.v (.string s)] h = some (.tup [.agg (propP p), .v (.int .i64 i)], h)) \/
  (atL s tblP 0 = none /\ E lo 11 [.v (.string s)] h = some (.tup [.agg zeroProp, .v (.int .i64 (-1))], h)) := by
 have l1 : lo <= h.length + 1 := by omega
 have c27 := fun lo h hlo => f27 (lo := lo) (h := h) hlo
 have hn : ((tblP.map propP).length : Int) = 14 := rfl
 have hL := loop11 (s := s) hlo 14 0 rfl
 rw [List.drop_zero] at hL
 rw [e11 (by simp) (by rfl)]
 rcases hL with ⟨i, p, h1, h2, hL⟩ | ⟨h1, hL⟩
 ·refine .inl ⟨i, p, h1, h2, ?_⟩
  obtain ⟨a, b, c, d, e⟩ := propP_eq p
  rw [e] at hL ⊢
  simp only [l11x0, b11, Tryz.f11, loopAt, loops, bodyOf, N11, zeroI, go_sem] at hL
  simp only [go_sem, b11, Tryz.f11, hlo, l1, c27, hn, hL]
  all_goals rfl
 ·refine .inr ⟨h1, ?_⟩
  simp only [l11x0, b11, Tryz.f11, loopAt, loops, bodyOf, N11, zeroI, go_sem] at hL
  simp only [go_sem, b11, Tryz.f11, hlo, l1, c27, hn, hL]
  all_goals rfl
theorem words_all : (tblP.all fun p => decide ((Go.Lib.fields p.w.data.toList).length <= 1000000000)) = true := by kernel_rfl
theorem zero_cells : zeroProp = cellsP ⟨#[]⟩ 0 false false [] 0 0 0 ⟨#[]⟩ := rfl
theorem prop_cells {p : PR} (hp : p ∈ tblP) : ∃ n k d l ws ck a b w, propP p = cellsP n k d l ws ck a b w /\ ws.length <= 1000000000 := by
 have hw := List.all_eq_true.1 words_all p hp
 obtain ⟨a, b, c, d, e⟩ := propP_eq p
 refine ⟨p.n, p.k, p.d, p.l, (Go.Lib.fields p.w.data.toList).map fun l => ⟨l.toArray⟩, a, b, c, d, ?_, ?_⟩
 rotate_left
 ·rw [List.length_map]
  exact of_decide_eq_true hw
 ·rw [e]
  unfold cellsP
  rw [List.map_map]
  rfl
theorem width13 : placeP ⟨#[119, 105, 100, 116, 104]⟩ = 13 := by kernel_rfl
theorem f4 {L : List Int} (hlo : lo <= h.length) (hy : By L) (hl : L.length <= 1000000000000) : E lo 4 [.v (.string (Rul.bs L))] h = some (.v (.bool true), h) := by
 have l1 : lo <= h.length + 1 := by omega
 have l2 : lo <= h.length + 1 + 1 := by omega
 have c15 := fun lo h hlo => f15 (lo := lo) (h := h) hy hlo hl
 have c16 := fun lo h => f16 (lo := lo) (h := h) hy
 have c10 := fun lo h hlo => f10 (lo := lo) (h := h) hlo
 have c13 := fun lo h hlo => f13 (lo := lo) (h := h) (s := Rul.bs L) hlo
 have cw := fun lo h hlo => f13 (lo := lo) (h := h) (s := ⟨#[119, 105, 100, 116, 104]⟩) hlo
 rw [width13] at cw
 have hc : (custR L == custR L) = true := by simp
 have h13 : ((13 : Int) == 13) = true := rfl
 rw [e4 (by simp) (by rfl)]
 cases hq : atL (Rul.bs L) tblP 0 with
 | none =>
  have c11 : ∀ lo h, lo <= h.length -> E lo 11 [.v (.string (Rul.bs L))] h = some (.tup [.agg zeroProp, .v (.int .i64 (-1))], h) := fun lo h hlo => by
   rcases f11 (s := Rul.bs L) hlo with ⟨i, p, h1, _⟩ | ⟨_, h2⟩
   ·rw [hq] at h1; cases h1
   ·exact h2
  have c12 := fun lo h hlo => f12a (lo := lo) (h := h) hlo hq
  have c14 := fun lo h hlo => f14 (lo := lo) (h := h) (n := ⟨#[]⟩) (k := 0) (d := false) (l := false) (ws := []) (ck := 0) (a := 0) (b := 0) (w := ⟨#[]⟩) hlo (by simp)
  rw [<- zero_cells] at c14
  unfold placeP at c13
  rw [hq] at c13
  have g1 : decide ((-1 : Int) >= 0) = false := rfl
  have g2 : ((-1 : Int) == -1) = true := rfl
  unfold zeroProp at c11 c12 c14
  simp only [go_sem, b4, Tryz.f4, hlo, l1, l2, c10, c11, c12, c13, c14, c15, c16, cw, hc, h13, g1, g2]
  all_goals rfl
 | some i =>
  have c11 : ∃ p, tblP[i]? = some p /\ ∀ lo h, lo <= h.length -> E lo 11 [.v (.string (Rul.bs L))] h = some (.tup [.agg (propP p), .v (.int .i64 i)], h) := by
   rcases f11 (s := Rul.bs L) hlo with ⟨i', p, h1, h2, _⟩ | ⟨h1, _⟩
   ·rw [hq] at h1
    cases h1
    refine ⟨p, h2, fun lo h hlo => ?_⟩
    rcases f11 (s := Rul.bs L) hlo with ⟨i', p', h1, h2', h3⟩ | ⟨h1, _⟩
    ·rw [hq] at h1
     cases h1
     rw [h2] at h2'
     cases h2'
     exact h3
    ·rw [hq] at h1; cases h1
   ·rw [hq] at h1; cases h1
  obtain ⟨p, hp, c11⟩ := c11
  have c12 := fun lo h hlo => f12b (lo := lo) (h := h) hlo hq hp
  obtain ⟨n, k, d, l, ws, ck, a, b, w, e, hws⟩ := prop_cells (List.mem_of_getElem? hp)
  rw [e] at c11 c12
  have c14 := fun lo h hlo => f14 (lo := lo) (h := h) (n := n) (k := k) (d := d) (l := l) (ws := ws) (ck := ck) (a := a) (b := b) (w := w) hlo hws
  unfold placeP at c13
  rw [hq] at c13
  have g1 : decide ((i : Int) >= 0) = true := by rw [decide_eq_true_iff]; omega
  have g2 : ((i : Int) == i) = true := by simp
  unfold cellsP at c11 c12 c14
  simp only [go_sem, b4, Tryz.f4, hlo, l1, l2, c10, c11, c12, c13, c14, c15, c16, cw, hc, h13, g1, g2]
  all_goals rfl
end Go.Lift.V1
end

section
open Go.Proofs
namespace Go.Lift.V1
theorem tw0 : evFun Tryz.prog hints primz0 200 0 123 [wd 0 0] [] = some (wd 0 0, []) := by kernel_rfl
theorem tw1 : evFun Tryz.prog hints primz0 200 0 123 [wd 0 1] [] = some (wd 0 2, []) := by kernel_rfl
theorem tw2 : evFun Tryz.prog hints primz0 200 0 123 [wd 0 2] [] = some (wd 0 4, []) := by kernel_rfl
theorem tw3 : evFun Tryz.prog hints primz0 200 0 123 [wd 0 3] [] = some (wd 0 6, []) := by kernel_rfl
theorem ls0 : evFun Tryz.prog hints primz0 200 0 121 [wd 0 0, wd 0 1] [] = some (.v (.bool true), []) := by kernel_rfl
theorem ls1 : evFun Tryz.prog hints primz0 200 0 121 [wd 0 1, wd 0 1] [] = some (.v (.bool false), []) := by kernel_rfl
theorem gc0 : evFun Tryz.prog hints primz0 200 0 110 [wd 0 6, wd 0 5] [] = some (wd 0 1, []) := by kernel_rfl
theorem gc1 : evFun Tryz.prog hints primz0 200 0 110 [wd 0 1, wd 0 1] [] = some (wd 0 1, []) := by kernel_rfl
theorem gc2 : evFun Tryz.prog hints primz0 200 0 110 [wd 0 0, wd 0 1] [] = some (wd 0 1, []) := by kernel_rfl
theorem q0 : evFun Tryz.prog hints primB 200 0 69 [.v (.int .i64 6), .v (.int .i64 5)] [] = some (rt 6 5, []) := by kernel_rfl
theorem q1 : evFun Tryz.prog hints primB 200 0 69 [.v (.int .i64 1), .v (.int .i64 1)] [] = some (rt 1 1, []) := by kernel_rfl
theorem q2 : evFun Tryz.prog hints primB 200 0 69 [.v (.int .i64 0), .v (.int .i64 1)] [] = some (rt 0 1, []) := by kernel_rfl
end Go.Lift.V1
end

section
namespace Go.Proofs
open Go.Shelf
def Tryz.lays157_ren : Go.Shelf.Ren := ⟨fun | 157 => 29 | 229 => 51 | 199 => 52 | 261 => 70 | 311 => 92 | 312 => 93 | n => n, fun | 9 => 9 | 31 => 26 | 3 => 3 | 5 => 5 | 4 => 4 | 119 => 98 | 0 => 0 | 40 => 100 | 152 => 118 | 21 => 21 | 154 => 120 | 51 => 121 | 141 => 123 | 196 => 143 | 193 => 140 | 198 => 146 | 49 => 144 | 194 => 141 | 201 => 149 | 226 => 166 | 46 => 162 | 227 => 167 | n => n, fun | 0 => 0 | 6 => 1 | n => n⟩
theorem Tryz.lays157 : Go.Proofs.Lays.n157 Tryz.prog Tryz.lays157_ren := {
 mixed := by kernel_rfl
 f157 := Tryz.func29.trans (congrArg some (by kernel_rfl))
 f199 := Tryz.func52.trans (congrArg some (by kernel_rfl))
 f229 := Tryz.func51.trans (congrArg some (by kernel_rfl))
 f261 := Tryz.func70.trans (congrArg some (by kernel_rfl))
 f311 := Tryz.func92.trans (congrArg some (by kernel_rfl))
 f312 := Tryz.func93.trans (congrArg some (by kernel_rfl))
 t0 := Tryz.underlying0
 a0 := Tryz.isAgg0
 z0 := Tryz.sizeOf0
 v0 := Tryz.zeroValue0
 t3 := Tryz.underlying3
 a3 := Tryz.isAgg3
 z3 := Tryz.sizeOf3
 v3 := Tryz.zeroValue3
 t4 := Tryz.underlying4
 a4 := Tryz.isAgg4
 z4 := Tryz.sizeOf4
 v4 := Tryz.zeroValue4
 t5 := Tryz.underlying5
 a5 := Tryz.isAgg5
 z5 := Tryz.sizeOf5
 v5 := Tryz.zeroValue5
 t9 := Tryz.underlying9
 a9 := Tryz.isAgg9
 z9 := Tryz.sizeOf9
 v9 := Tryz.zeroValue9
 t21 := Tryz.underlying21
 a21 := Tryz.isAgg21
 z21 := Tryz.sizeOf21
 v21 := Tryz.zeroValue21
 t31 := Tryz.underlying26
 a31 := Tryz.isAgg26
 z31 := Tryz.sizeOf26
 v31 := Tryz.zeroValue26
 t40 := Tryz.underlying100
 a40 := Tryz.isAgg100
 z40 := Tryz.sizeOf100
 v40 := Tryz.zeroValue100
 t46 := Tryz.underlying162
 a46 := Tryz.isAgg162
 z46 := Tryz.sizeOf162
 v46 := Tryz.zeroValue162
 t49 := Tryz.underlying144
 a49 := Tryz.isAgg144
 z49 := Tryz.sizeOf144
 v49 := Tryz.zeroValue144
 t51 := Tryz.underlying121
 a51 := Tryz.isAgg121
 z51 := Tryz.sizeOf121
 v51 := Tryz.zeroValue121
 t119 := Tryz.underlying98
 a119 := Tryz.isAgg98
 z119 := Tryz.sizeOf98
 t141 := Tryz.underlying123
 a141 := Tryz.isAgg123
 z141 := Tryz.sizeOf123
 v141 := Tryz.zeroValue123
 t152 := Tryz.underlying118
 a152 := Tryz.isAgg118
 z152 := Tryz.sizeOf118
 v152 := Tryz.zeroValue118
 t154 := Tryz.underlying120
 a154 := Tryz.isAgg120
 z154 := Tryz.sizeOf120
 v154 := Tryz.zeroValue120
 t193 := Tryz.underlying140
 a193 := Tryz.isAgg140
 z193 := Tryz.sizeOf140
 v193 := Tryz.zeroValue140
 t194 := Tryz.underlying141
 a194 := Tryz.isAgg141
 z194 := Tryz.sizeOf141
 v194 := Tryz.zeroValue141
 t196 := Tryz.underlying143
 a196 := Tryz.isAgg143
 z196 := Tryz.sizeOf143
 v196 := Tryz.zeroValue143
 t198 := Tryz.underlying146
 a198 := Tryz.isAgg146
 z198 := Tryz.sizeOf146
 v198 := Tryz.zeroValue146
 t201 := Tryz.underlying149
 a201 := Tryz.isAgg149
 z201 := Tryz.sizeOf149
 v201 := Tryz.zeroValue149
 t226 := Tryz.underlying166
 a226 := Tryz.isAgg166
 z226 := Tryz.sizeOf166
 v226 := Tryz.zeroValue166
 t227 := Tryz.underlying167
 a227 := Tryz.isAgg167
 z227 := Tryz.sizeOf167
 v227 := Tryz.zeroValue167
 g0 := by kernel_rfl
 g6 := by kernel_rfl }
end Go.Proofs
end

section
namespace Go.Lift.V1
open Go.Proofs Go.RowKit
def subE : Array Value → Sem Value := fun args => do
  let (x, y, b) ← Extern.MathBitsCarry.three "Sub64" args
  pure (Extern.MathBitsCarry.pair ((x + Extern.MathBitsCarry.m64 - y - b) % Extern.MathBitsCarry.m64) (if x < y + b then 1 else 0))
theorem run_sub0 (x y : Nat) (w : World) : (subE #[.int .u64 x, .int .u64 y, .int .u64 0]).run Tryz.prog w = .ok (.tuple #[.int .u64 (Int.ofNat ((x + 2 ^ 64 - y - 0) % 2 ^ 64)), .int .u64 (Int.ofNat (if x < y + 0 then 1 else 0))]) w := rfl
theorem sub_c (x y : Nat) (h : y ≤ x) (hx : x < 18446744073709551616) : (Int.ofNat ((x + 2 ^ 64 - y - 0) % 2 ^ 64)) = ((x - y : Nat) : Int) ∧ (Int.ofNat (if x < y + 0 then 1 else 0)) = 0 := by
 refine ⟨?_, ?_⟩
 ·show (((x + 2 ^ 64 - y - 0) % 2 ^ 64 : Nat) : Int) = _
  congr 1
  omega
 ·rw [if_neg (by omega)]; rfl
theorem walk122 (x y : Nat) (h : y ≤ x) (hx : x < 18446744073709551616) (w : World) :
  Calls Tryz.prog 122 #[.agg #[.int .u64 0, .int .u64 x], .agg #[.int .u64 0, .int .u64 y]] w fun e w' => e = .returned (.agg #[.int .u64 0, .int .u64 ((x - y : Nat) : Int)]) ∧ Below w.heap.size w w' := by
 have r1 := run_sub0 x y
 rw [(sub_c x y h hx).1, (sub_c x y h hx).2] at r1
 have r2 : ∀ w, (subE #[.int .u64 0, .int .u64 0, .int .u64 0]).run Tryz.prog w = .ok (.tuple #[.int .u64 0, .int .u64 0]) w := fun w => rfl
 go_enter Tryz.func122, Tryz.ntmps122
 go_wp2
 rw [run_callFunc_extern Tryz.func129 (by kernel_rfl) (by kernel_rfl) (by kernel_rfl) (e := subE) (by kernel_rfl), r1]
 simp only [Result.andThen]
 rw [Oper.upon_value]
 go_wp2
 rw [run_callFunc_extern Tryz.func129 (by kernel_rfl) (by kernel_rfl) (by kernel_rfl) (e := subE) (by kernel_rfl), r2]
 simp only [Result.andThen]
 rw [Oper.upon_value]
 go_wp2
 generalize hW : (((w.alloc (Obj.cells #[Value.int IntKind.u64 0, Value.int IntKind.u64 ↑x] 139)).alloc (Obj.cells #[Value.int IntKind.u64 0, Value.int IntKind.u64 ↑y] 139)).alloc (Obj.cells #[Value.int IntKind.u64 0, Value.int IntKind.u64 ↑(x - y)] 139)) = W
 have hb : Below w.heap.size w W := by
  subst hW
  refine ⟨rfl, rfl, rfl, ?_, fun k hk => ?_⟩
  ·show _ ≤ (((w.heap.push _).push _).push _).size
   simp; omega
  ·show (((w.heap.push _).push _).push _)[k]? = _
   rw [Array.getElem?_push_lt (by simp; omega), Array.getElem_push_lt (by simp; omega), Array.getElem_push_lt hk]
   exact (Array.getElem?_eq_getElem hk).symm
 have hh : W.heap[w.heap.size + 1 + 1]? = some (Obj.cells #[Value.int IntKind.u64 0, Value.int IntKind.u64 ↑(x - y)] 139) := by
  subst hW
  have e : ((w.alloc (Obj.cells #[Value.int IntKind.u64 0, Value.int IntKind.u64 ↑x] 139)).alloc (Obj.cells #[Value.int IntKind.u64 0, Value.int IntKind.u64 ↑y] 139)).heap.size = w.heap.size + 1 + 1 := by
   show ((w.heap.push _).push _).size = _
   simp
  rw [← e]
  exact (MapKept.heap_alloc _ _).1
 have hl := run_loadVar_mid (P := Tryz.prog) W (w.heap.size + 1 + 1) 0 139 [.int .u64 0, .int .u64 ((x - y : Nat) : Int)] _ (fun j v hj => by
  match j, hj with
  | 0, hj => cases hj; simp [World.cell?, hh]
  | 1, hj => cases hj; simp [World.cell?, hh]
  | j + 2, hj => simp at hj) Tryz.underlying139 rfl (by kernel_rfl)
 refine ⟨rfl, .agg #[.int .u64 0, .int .u64 ((x - y : Nat) : Int)], ?_, rfl, hb⟩
 rw [results_eq, show Tryz.f122.results = #[.cell 4 139] from rfl]
 simp [resF, asAddr, hl, Result.andThen]
theorem one_arg {m : List Nat} {c : Cl} {w : World} {a : Value} {xs : Array Value} (h : R2 (VRr m c w) [.v a] xs.toList) : xs = #[a] := by
 obtain ⟨l⟩ := xs
 match l, h.1 with
 | [x], _ =>
  have h0 : x = a := h.2 0 _ _ rfl rfl
  rw [h0]
theorem cell_of {c : Cl} {w : World} {n : Nat} {cs : List V} (hg : ROs c w ⟨n, 0, none⟩ cs) {j : Nat} {x : Value} (hj : cs[j]? = some (.v x)) : w.cell? ⟨n, j, none⟩ = some x := by
 obtain ⟨_, h⟩ := hg
 obtain ⟨y, hy, hv⟩ := h j _ hj
 rw [Nat.zero_add] at hy
 rw [hy, VP.v_eq hv]
theorem space {m : List Nat} {c : Cl} {w : World} {h : Heap} (hH : HOK m c w h) : ∀ j, j < 256 → w.cell? ⟨0, j, none⟩ = some (.int .u8 (if Go.Lib.isSp (UInt8.ofNat j) then 1 else 0)) := fun j hj => by
 have e : GTab.tab 0 = some ((List.range 256).map fun c => V.v (.int .u8 (if Go.Lib.isSp (UInt8.ofNat c) then 1 else 0))) := rfl
 exact cell_of (hH.1.gt 0 _ e) (by simp [hj])
theorem fields_ok {lo : Nat} {s : ByteArray} {h : Heap} (hlo : lo ≤ h.length) (hs : s.size < 4294967281) (ha : (s.data.toList.all fun b => decide (b.toNat < 128)) = true) :
  CallOK Tryz.prog lo 29 [.v (.string s)] h (.list .no ((Go.Lib.fields s.data.toList).map fun l => [.v (.string ⟨l.toArray⟩)])) h := by
 have k := prim_fresh (P := Tryz.prog) (f := 29) (args := [.v (.string s)]) (xs := (Go.Lib.fields s.data.toList).map fun l => Value.string ⟨l.toArray⟩) hlo (enters_of Tryz.func29 (by kernel_rfl) rfl)
  (fun x hx => by obtain ⟨l, _, rfl⟩ := List.mem_map.1 hx; rfl) fun m c w ys hH hy => by
  rw [one_arg hy]
  refine (Any.strings_Fields_core (P := Tryz.prog) (ρ := Tryz.lays157_ren) Tryz.lays157 (by kernel_rfl) s w hs (fun j b hb => by simpa using List.all_eq_true.1 ha b (List.mem_of_getElem? hb)) (space hH)).mono fun e w' ⟨h1, h2⟩ => ?_
  subst h2
  have ka := MapKept.heap_alloc w (.cells ((Go.Lib.fields s.data.toList).map fun l => Value.string ⟨l.toArray⟩).toArray (Tryz.lays157_ren.t 9))
  refine ⟨w.heap.size, _, _, _, _, by rw [List.length_map]; exact h1, Nat.le_refl _, by rw [List.length_map]; exact Nat.le_refl _, ka.1, fun i x hx => by simpa using hx, rfl, rfl, rfl, ?_, fun k hk => ka.2 k hk⟩
  show _ ≤ (w.heap.push _).size
  simp
 rw [List.map_map] at k
 exact k
theorem pair_of {m : List Nat} {c : Cl} {w : World} {a b : Value} {xs : Array Value} (h : R2 (VR1 m c w) [.v a, .v b] xs.toList) : xs = #[a, b] := by
 obtain ⟨l⟩ := xs
 match l, h.1 with
 | [x, y], _ =>
  have h0 : x = a := h.2 0 _ _ rfl rfl
  have h1 : y = b := h.2 1 _ _ rfl rfl
  rw [h0, h1]
theorem sub_ok {lo : Nat} {x y : Int} {h : Heap} (hlo : lo ≤ h.length) (h0 : 0 ≤ y) (h1 : y ≤ x) (h2 : x < 18446744073709551616) :
  CallOK Tryz.prog lo 122 [.agg [.v (.int .u64 0), .v (.int .u64 x)], .agg [.v (.int .u64 0), .v (.int .u64 y)]] h (.agg [.v (.int .u64 0), .v (.int .u64 (x - y))]) h :=
 CallOK0.ok ⟨rfl, enters_of Tryz.func122 (by kernel_rfl) rfl, fun m c w ys hH hy => ⟨⟨rfl, rfl, Keeps.refl _ _⟩, by
  have hys : ys = #[.agg #[.int .u64 0, .int .u64 x], .agg #[.int .u64 0, .int .u64 y]] := by
   obtain ⟨l⟩ := ys
   match l, hy.1 with
   | [p, q], _ =>
    have e1 : VRr m c w (.agg [.v (.int .u64 0), .v (.int .u64 x)]) p := hy.2 0 _ _ rfl rfl
    have e2 : VRr m c w (.agg [.v (.int .u64 0), .v (.int .u64 y)]) q := hy.2 1 _ _ rfl rfl
    obtain ⟨xs, rfl, r1⟩ := e1
    obtain ⟨zs, rfl, r2⟩ := e2
    rw [pair_of r1, pair_of r2]
  obtain ⟨a, rfl⟩ : ∃ a : Nat, x = a := ⟨x.toNat, by omega⟩
  obtain ⟨b, rfl⟩ : ∃ b : Nat, y = b := ⟨y.toNat, by omega⟩
  rw [hys]
  refine (walk122 a b (by omega) (by omega) w).mono fun e w' ⟨h1', hb⟩ => ?_
  have hI := start_ok (vars := []) (args := []) (xs := #[]) (nt := 0) (lo := lo) hH R2.nil (by rfl) (Nat.le_refl _) hlo
  have hI' := hI.grown (c' := c) (w' := w') none hb.size (fun k hk _ => ⟨hb.block k hk, rfl⟩) (fun k hk => by cases hk) (fun k hk _ h0 => by rw [hI.core.c_zero hk] at h0; omega) hb.os hb.tape hb.output
  refine ⟨_, c, h1', ⟨_, rfl, ?_⟩, hI'.hok, hI'.fr, hI'.owned⟩
  have e : ((a - b : Nat) : Int) = (a : Int) - b := by omega
  rw [e]
  exact R2.cons rfl (R2.cons rfl R2.nil)⟩⟩
theorem prim_ok0 : ∀ f p, primz0 f = some p → ∀ lo args h r h', lo ≤ h.length → p lo args h = some (r, h') → CallOK Tryz.prog lo f args h r h' := by
 intro f p hp lo args h r h' hlo he
 unfold primz0 at hp
 split at hp
 ·cases hp
  unfold fieldsP at he
  split at he
  ·split at he
   ·rename_i hc
    cases he
    exact fields_ok hlo hc.1 hc.2
   ·cases he
  ·cases he
 ·cases hp
  unfold subP at he
  split at he
  ·split at he
   ·rename_i hc
    obtain ⟨rfl, rfl, h0, h1, h2⟩ := hc
    cases he
    exact sub_ok hlo h0 h1 h2
   ·cases he
  ·cases he
 ·cases hp
theorem follows : Tryz.prog.follows .mixedOrders = true := by kernel_rfl
theorem known {prim : Nat → Option (Nat → List V → Heap → Option (V × Heap))} (hp : ∀ f p, prim f = some p → ∀ lo args h r h', lo ≤ h.length → p lo args h = some (r, h') → CallOK Tryz.prog lo f args h r h') {n f : Nat} {args : List V} {r : V}
  (he : evFun Tryz.prog hints prim n 0 f args [] = some (r, [])) : CallOK Tryz.prog 0 f args [] r [] := fun_ok follows hp n 0 f args [] r [] (Nat.le_refl _) he
theorem tw_all : ∀ p ∈ twM, CallOK Tryz.prog 0 123 p.1 [] p.2 [] := by
 unfold twM
 simp only [List.mem_cons, List.not_mem_nil, or_false, forall_eq_or_imp, forall_eq]
 exact ⟨known prim_ok0 tw0, known prim_ok0 tw1, known prim_ok0 tw2, known prim_ok0 tw3⟩
theorem ls_all : ∀ p ∈ lsM, CallOK Tryz.prog 0 121 p.1 [] p.2 [] := by
 unfold lsM
 simp only [List.mem_cons, List.not_mem_nil, or_false, forall_eq_or_imp, forall_eq]
 exact ⟨known prim_ok0 ls0, known prim_ok0 ls1⟩
theorem gc_all : ∀ p ∈ gcM, CallOK Tryz.prog 0 110 p.1 [] p.2 [] := by
 unfold gcM
 simp only [List.mem_cons, List.not_mem_nil, or_false, forall_eq_or_imp, forall_eq]
 exact ⟨known prim_ok0 gc0, known prim_ok0 gc1, known prim_ok0 gc2⟩
theorem prim_okA : ∀ f p, primA f = some p → ∀ lo args h r h', lo ≤ h.length → p lo args h = some (r, h') → CallOK Tryz.prog lo f args h r h' := by
 intro f p hp lo args h r h' hlo he
 unfold primA at hp
 split at hp
 ·cases hp
  exact memo_ok tw_all (by kernel_rfl) lo args h r h' hlo he
 ·cases hp
  exact memo_ok ls_all (by kernel_rfl) lo args h r h' hlo he
 ·cases hp
  exact prim_ok0 29 _ rfl lo args h r h' hlo he
 ·cases hp
  exact prim_ok0 122 _ rfl lo args h r h' hlo he
 ·cases hp
theorem dv_all : ∀ p ∈ dvM, CallOK Tryz.prog 0 111 p.1 [] p.2 [] := by
 unfold dvM
 simp only [List.mem_cons, List.not_mem_nil, or_false, forall_eq_or_imp, forall_eq]
 exact ⟨known prim_okA dv0, known prim_okA dv1, known prim_okA dv2, known prim_okA dv3⟩
theorem prim_okB : ∀ f p, primB f = some p → ∀ lo args h r h', lo ≤ h.length → p lo args h = some (r, h') → CallOK Tryz.prog lo f args h r h' := by
 intro f p hp lo args h r h' hlo he
 unfold primB at hp
 split at hp
 ·cases hp
  exact memo_ok gc_all (by kernel_rfl) lo args h r h' hlo he
 ·cases hp
  exact memo_ok dv_all (by kernel_rfl) lo args h r h' hlo he
 ·cases hp
  exact prim_ok0 29 _ rfl lo args h r h' hlo he
 ·cases hp
  exact prim_ok0 122 _ rfl lo args h r h' hlo he
 ·cases hp
theorem q_all : ∀ p ∈ qM, CallOK Tryz.prog 0 69 p.1 [] p.2 [] := by
 unfold qM
 simp only [List.mem_cons, List.not_mem_nil, or_false, forall_eq_or_imp, forall_eq]
 exact ⟨known prim_okB q0, known prim_okB q1, known prim_okB q2⟩
theorem awk_all : ∀ p ∈ awkM, CallOK Tryz.prog 0 10 p.1 [] p.2 [] := by
 unfold awkM
 simp only [List.mem_cons, List.not_mem_nil, or_false, forall_eq]
 exact known prim_ok0 awk0
theorem of_all : ∀ p ∈ ofM, CallOK Tryz.prog 0 9 p.1 [] p.2 [] := by
 unfold ofM
 simp only [List.mem_cons, List.not_mem_nil, or_false, forall_eq]
 exact known prim_ok0 of0
theorem prim_ok : ∀ f p, primz f = some p → ∀ lo args h r h', lo ≤ h.length → p lo args h = some (r, h') → CallOK Tryz.prog lo f args h r h' := by
 intro f p hp lo args h r h' hlo he
 unfold primz at hp
 split at hp
 ·cases hp
  exact memo_ok of_all (by kernel_rfl) lo args h r h' hlo he
 ·cases hp
  exact memo_ok awk_all (by kernel_rfl) lo args h r h' hlo he
 ·cases hp
  exact prim_ok0 29 _ rfl lo args h r h' hlo he
 ·cases hp
  exact memo_ok q_all (by kernel_rfl) lo args h r h' hlo he
 ·cases hp
end Go.Lift.V1
end

section
namespace Go.Proofs.YtnipmgpehgchnaaGreatDoor
open Go.Lift Go.Lift.V1 Go.ChangeShapes Go.WideShapes Go.ChangeAt Go.RowKit
theorem isBulk (H : Type) : IsBulk (H := H) Rows.uptoBulk Rows.uptoBulkAll :=
 ⟨rfl, fun _ _ => rfl, fun _ => rfl, fun _ => rfl, fun _ _ => rfl, rfl, fun e s => by show Rows.uptoBulkAll e + 1 ≤ Rows.uptoBulkAll e + Rows.uptoBulkAll s + 1; omega, fun _ => rfl⟩
theorem own : ownKnob Tryz.prog.godebug = none := by kernel_rfl
theorem laidOut : laidOutB Tryz.prog = true := by kernel_rfl
theorem ros_of {w : World} {g : Nat} {cs : List V} (h : ∀ (j : Nat) v, cs[j]? = some v → ∃ x, w.cell? ⟨g, j, none⟩ = some x ∧ VP (wholeCl w) w v x) : ROs (wholeCl w) w ⟨g, 0, none⟩ cs := by
 refine ⟨?_, fun j v hj => by simpa using h j v hj⟩
 cases cs with
 | nil => exact Nat.zero_le _
 | cons c t =>
  have hl : (c :: t)[t.length]? = some ((c :: t)[t.length]'(by simp)) := List.getElem?_eq_getElem (by simp)
  obtain ⟨x, hx, _⟩ := h t.length _ hl
  unfold World.cell? at hx
  unfold wholeCl
  simp only at hx ⊢
  split at hx
  ·rename_i arr e f he
   rw [he]
   simp only [List.length_cons]
   have := (Array.getElem?_eq_some_iff.1 hx).1
   omega
  ·cases hx
theorem kinds_data : (Rows.laid_jalousie_jalousieref3_kinds : DataW Unit) = Lib.tabData .i64 [21, 22, 19, 20, 23, 24, 18, 16, 17] := rfl
theorem space_data : (Rows.laid_strings_asciiSpace : DataW Unit) = Lib.tabData .u8 Lib.asciiSpaceTab := by kernel_rfl
theorem tab_cells {w : World} {name : String} {k : IntKind} {zs : List Int} {g : Nat} {t e : TypeId} {n : Nat} (hn : Tryz.prog.globalNamed name = some g) (hy : (Tryz.prog.globals[g]?).map (·.type) = some t)
  (ht : Tryz.prog.underlying t = some (.array n e)) (he : Tryz.prog.underlying e = some (.int k)) (hce : Tryz.prog.cellsOf e = 1) (hct : Tryz.prog.cellsOf t = n) (h : Lib.VarReads Tryz.prog w name (Lib.tabData k zs)) :
  ∀ (j : Nat) (z : Int), zs[j]? = some z → w.cell? ⟨g, j, none⟩ = some (.int k z) := fun j z hz => by
 obtain ⟨g', t', cs, fuel, p, h1, h2, h3, h4⟩ := h
 obtain rfl := Option.some.inj (hn.symm.trans h1)
 obtain rfl := Option.some.inj (hy.symm.trans h2)
 have hcs := Lib.cells_of_tab ht he hce hct h4
 have := World.var?_cell hn h3 j
 rw [this, ← Array.getElem?_toList, hcs]
 simp [hz]
theorem gok {W : World} (hk : Lib.VarReads Tryz.prog W "jalousie/jalousieref3.kinds" Rows.laid_jalousie_jalousieref3_kinds) (hs : Lib.VarReads Tryz.prog W "strings.asciiSpace" Rows.laid_strings_asciiSpace) : GOK W := by
 rw [kinds_data] at hk
 rw [space_data] at hs
 intro n cs hc
 have e : GTab.tab n = gtab.1 n := rfl
 rw [e] at hc
 unfold gtab at hc
 simp only at hc
 split at hc
 ·have c0 := tab_cells (g := 0) (t := 98) (e := 5) (n := 256) (by kernel_rfl) (by kernel_rfl) (by kernel_rfl) (by kernel_rfl) (by kernel_rfl) (by kernel_rfl) hs
  cases hc
  refine ros_of fun j v hj => ?_
  simp only [List.getElem?_map, Option.map_eq_some_iff] at hj
  obtain ⟨k, hk2, rfl⟩ := hj
  obtain ⟨hj1, rfl⟩ := List.getElem?_eq_some_iff.1 hk2
  simp only [List.length_range] at hj1
  rw [List.getElem_range]
  exact ⟨_, c0 j _ (by unfold Lib.asciiSpaceTab; rw [List.getElem?_map, List.getElem?_range hj1]; rfl), .v _ rfl⟩
 ·have c0 := tab_cells (g := 2) (t := 127) (e := 3) (n := 9) (by kernel_rfl) (by kernel_rfl) (by kernel_rfl) (by kernel_rfl) (by kernel_rfl) (by kernel_rfl) hk
  cases hc
  refine ros_of fun j v hj => ?_
  have hj2 : (([21, 22, 19, 20, 23, 24, 18, 16, 17] : List Int).map fun z => V.v (.int .i64 z))[j]? = some v := hj
  simp only [List.getElem?_map, Option.map_eq_some_iff] at hj2
  obtain ⟨k, hk2, rfl⟩ := hj2
  exact ⟨_, c0 j k hk2, .v _ rfl⟩
 ·cases hc
noncomputable def laidWorld (os : Os) : World :=
 let N := (World.settled Tryz.prog os).heap.size
 let w0 := World.holding Tryz.prog os ⟨#[.cells ([9, 13, 1, 32, 133, 101, 160, 5760, 5600, 8192, 8202, 1, 8232, 8233, 1, 8239, 8287, 48, 12288, 12288, 1].map fun z => Value.int .u16 z).toArray 146, .cells #[.slice (some ⟨N, 0, none⟩) 7 7, .slice none 0 0, .int .i64 2] 143], #[], []⟩
 let put (h : Array Obj) (g : Nat) (cs : Array Value) : Array Obj := h.modify g fun
  | .cells _ t frozen => .cells cs t frozen
  | o => o
 let h1 := put w0.heap 0 (Lib.asciiSpaceTab.map fun z => Value.int .u8 z).toArray
 let h2 := put h1 2 ([21, 22, 19, 20, 23, 24, 18, 16, 17].map fun z => Value.int .i64 z).toArray
 let h3 := put h2 1 #[.pointer (some ⟨N + 1, 0, none⟩)]
 { w0 with heap := h3 }
theorem laid3 (os : Os) (args : Array Value) : LaidIn Tryz.prog ((laidWorld os).forCall (fun _ _ => 0) ⟨#[], args, []⟩).memory [("jalousie/jalousieref3.kinds", Rows.laid_jalousie_jalousieref3_kinds), ("unicode.White_Space", Rows.laid_unicode_White_Space), ("strings.asciiSpace", Rows.laid_strings_asciiSpace)] (List.range 200) :=
 LaidIn.of_run (List.range 200) 8 (by kernel_rfl) (by kernel_rfl) (by kernel_rfl) (by kernel_rfl)
theorem any_bs (s : ByteArray) : ∃ l : List Int, Utf.By l ∧ s = Rul.bs l ∧ l.length = s.size := by
 refine ⟨s.data.toList.map fun c => (c.toNat : Int), ?_, ?_, ?_⟩
 ·intro c hc
  obtain ⟨x, _, rfl⟩ := List.mem_map.1 hc
  have := x.toNat_lt
  omega
 ·apply ByteArray.ext
  unfold Rul.bs u8s
  simp only [List.map_map]
  apply Array.toList_inj.1
  conv => lhs; rw [← List.map_id s.data.toList]
  apply List.map_congr_left
  intro c _
  simp
 ·rw [List.length_map, Array.length_toList]; rfl
end Go.Proofs.YtnipmgpehgchnaaGreatDoor
end

section
namespace Go.Proofs.YtnipmgpehgchnaaGreatDoor
theorem and_tt {a b : Bool} (ha : a = true) (hb : b = true) : (a && b) = true := by rw [ha, hb]; rfl
theorem fact2 : laidOutB Tryz.prog = true := by kernel_rfl
theorem fact3 : mapsRowed Tryz.prog = true := by kernel_rfl
theorem fact7 : (Tryz.prog.stops == []) = true := by kernel_rfl
theorem fact9 : (Tryz.prog.stopKnobs == []) = true := by kernel_rfl
theorem fact23 : (Rows.propNamesUptoRow.plainKeys == Tryz.prog.plainKeys) = true := by kernel_rfl
theorem fact25 : Tryz.prog.stopsHeard = true := by kernel_rfl
theorem fact26 : Tryz.prog.mayEnter = true := by kernel_rfl
theorem fact27 : (Rows.propNamesUptoRow.lifted == Tryz.prog.liftsFinal) = true := by kernel_rfl
theorem fact28 : (Tryz.prog.make == some Rows.propNamesUptoRow.make) = true := by kernel_rfl
end Go.Proofs.YtnipmgpehgchnaaGreatDoor
end
