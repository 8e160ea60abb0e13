/- Is each opener closed? (jalousielaw5.shut) -/
import Derived.WalkKit
import Derived.Lib.Bytealg
import Derived.Laws.Bits64b
import Derived.Shelf.Spec.TrailingZeros
import Derived.Lib.AppendIntMem
import Derived.Shelf.Strings.BuilderRune
import Derived.Lib.LaidU8
import Derived.Lib.LaidTab
import Derived.Lib.LaidIn
import Derived.Deep.DeepHandedRow
import Derived.Deep.DeepWitnessRowRef
import Derived.Test.YtnlekmkfgaolbaaGreatDoorRows
import Derived.JoinedOf
import Derived.ProofKit
import Derived.Test.YtnlekmkfgaolbaaGreatDoorGKa
import Derived.Test.YtnlekmkfgaolbaaGreatDoorGK8Basea
import Derived.Test.YtnlekmkfgaolbaaGreatDoorGKb
import Derived.Test.YtnlekmkfgaolbaaGreatDoorGLd
import Derived.Test.YtnlekmkfgaolbaaGreatDoorGKc
import Derived.Test.YtnlekmkfgaolbaaGreatDoorGKd
import Derived.Test.YtnlekmkfgaolbaaGreatDoorGPa
set_option linter.unusedVariables false
set_option linter.unusedSimpArgs false
set_option linter.unusedSectionVars false
section
namespace Go.Lift.Rul
end Go.Lift.Rul
namespace Go.Proofs
end Go.Proofs
open Go.Proofs
namespace Go.Lift.P8
open Rul
variable [MX]
set_option maxRecDepth 20000
set_option maxHeartbeats 4000000
variable {lo : Nat} {h : Heap}
def it (l : List Int) : List V := l.map fun n => .v (.int .i64 n)
theorem it_len (l : List Int) : (it l).length = l.length := List.length_map ..
theorem it_app (l m : List Int) : it (l ++ m) = it l ++ it m := List.map_append
theorem it_all (p : V → Bool) (h : ∀ n : Int, p (.v (.int .i64 n)) = true) : ∀ l : List Int, (it l).all p = true
 | [] => rfl
 | n :: r => by
  have := it_all p h r
  unfold it at this ⊢
  rw [List.map_cons, List.all_cons, h, this]; rfl
theorem it_okv (i : Nat) (l : List Int) : (it l).all (okv i) = true := it_all _ (fun _ => rfl) l
theorem it_stk (i : Nat) (l : List Int) : (it l).all (stkC i) = true := it_all _ (fun _ => rfl) l
theorem jnk_it (l : List Int) : Jnk (it l) := fun i => ⟨it_all _ (fun _ => rfl) l, it_okv i l⟩
theorem it_take (l : List Int) (j : List V) : (it l ++ j).take l.length = it l := by rw [← it_len l, List.take_left]
theorem it_top (i : Int) (r : List Int) (j : List V) : (it (i :: r).reverse ++ j)[r.length]? = some (.v (.int .i64 i)) := by
 rw [List.reverse_cons, it_app, List.append_assoc, List.getElem?_append_right (by rw [it_len, List.length_reverse]; exact Nat.le_refl _), it_len, List.length_reverse, Nat.sub_self]
 rfl
theorem it_snoc (l : List Int) (i : Int) : it l ++ [V.v (.int .i64 i)] = it (l ++ [i]) := by rw [it_app]; rfl
theorem lim8i {n : Nat} (h : n ≤ 1000000000) : (n + 1) * 8 ≤ 140737488355328 := by omega
abbrev N21s (O : V) (l : List Tk4) (i : Nat) : Env := [(3, O), (7, .list .no (l.map row)), (8, .v (.int .i64 l.length)), (9, .v (.int .i64 i))]
abbrev H21s (h : Heap) (S : List V) : Heap := h ++ [.cells S]
theorem push21a {l : List Tk4} {t : Tk4} {i : Nat} (hlo : lo ≤ h.length) (hg : l[i]? = some t) (hl : l.length ≤ 1000000000) (hc : closer t.k ≠ 0) :
  evCode ⟨Tryz.prog, E, lo, h.length, h21⟩ loopW l21x0 (N21s (.list .yes []) l i, h) = some (.normal, N21s (.stk h.length 1 1) l (i + 1), H21s h (it [closer t.k])) := by
 have hlt : i < l.length := (List.getElem?_eq_some_iff.1 hg).1
 have q : decide ((i : Int) < (l.length : Int)) = true := by simpa using hlt
 have hgr : (l.map row)[i]? = some (row t) := by rw [List.getElem?_map, hg]; rfl
 have hw : IntKind.i64.wrap ((i : Int) + 1) = ((i + 1 : Nat) : Int) := wrap_succ (by omega)
 have l1 : lo ≤ h.length + 1 := by omega
 have l2 : lo ≤ h.length + 2 := by omega
 have qc : (closer t.k != 0) = true := by simpa using hc
 have c48 := f48 (lo := lo) (h := h ++ [.cells (row t)]) (by simp; omega) t.k
 have en : it [closer t.k] = [V.v (.int .i64 (closer t.k))] := rfl
 simp only [row] at hgr c48
 simp only [N21s, H21s, en, row, go_sem, l21x0, b21, Tryz.f21, hlo, l1, l2, q, hgr, hw, qc, c48, List.length_map]
 all_goals rfl
theorem push21b {l : List Tk4} {t : Tk4} {i : Nat} {st : List Int} {j : List V} (hlo : lo ≤ h.length) (hg : l[i]? = some t) (hl : l.length ≤ 1000000000) (hs : st.length ≤ 1000000000) (hj : Jnk j) (hc : closer t.k ≠ 0) :
  evCode ⟨Tryz.prog, E, lo, h.length, h21⟩ loopW l21x0 (N21s (.stk h.length st.length 1) l i, H21s h (it st.reverse ++ j)) = some (.normal, N21s (.stk h.length (st.length + 1) 1) l (i + 1), H21s h (it (closer t.k :: st).reverse)) := by
 have hlt : i < l.length := (List.getElem?_eq_some_iff.1 hg).1
 have q : decide ((i : Int) < (l.length : Int)) = true := by simpa using hlt
 have hgr : (l.map row)[i]? = some (row t) := by rw [List.getElem?_map, hg]; rfl
 have hw : IntKind.i64.wrap ((i : Int) + 1) = ((i + 1 : Nat) : Int) := wrap_succ (by omega)
 have l1 : lo ≤ h.length + 1 := by omega
 have l2 : lo ≤ h.length + 2 := by omega
 have qc : (closer t.k != 0) = true := by simpa using hc
 have hS0 := it_take st.reverse j
 have hSl : st.length ≤ (it st.reverse ++ j).length := by rw [List.length_append, it_len, List.length_reverse]; omega
 have hT := it_stk h.length st.reverse
 have hTk := it_okv (h.length + 1) st.reverse
 have o1 := lim8i hs
 have o2 := limC hs
 rw [List.length_reverse] at hS0
 rw [List.reverse_cons, ← it_snoc]
 simp only [H21s]
 generalize it st.reverse ++ j = S at *
 generalize it st.reverse = T at *
 have c48 := f48 (lo := lo) (h := h ++ [.cells S, .cells (row t)]) (by simp; omega) t.k
 simp only [row] at hgr c48
 simp only [N21s, row, go_sem, l21x0, b21, Tryz.f21, hlo, l1, l2, q, hgr, hw, qc, c48, hS0, hSl, hT, hTk, o1, o2, Nat.mul_one, List.length_map]
 all_goals rfl
theorem isClB_cases (k : Int) : ((k == 24) = true) ∨ ((k == 24) = false ∧ (k == 22) = true) ∨ ((k == 24) = false ∧ (k == 22) = false ∧ (k == 20) = true) ∨ ((k == 24) = false ∧ (k == 22) = false ∧ (k == 20) = false ∧ isClB k = false) := by
 unfold isClB
 cases k == 24 <;> cases k == 22 <;> cases k == 20 <;> simp
theorem skip21a {l : List Tk4} {t : Tk4} {i : Nat} (hlo : lo ≤ h.length) (hg : l[i]? = some t) (hl : l.length ≤ 1000000000) (hc : closer t.k = 0) (hk : isClB t.k = false) :
  evCode ⟨Tryz.prog, E, lo, h.length, h21⟩ loopW l21x0 (N21s (.list .yes []) l i, h) = some (.normal, N21s (.list .yes []) l (i + 1), h) := by
 have hlt : i < l.length := (List.getElem?_eq_some_iff.1 hg).1
 have q : decide ((i : Int) < (l.length : Int)) = true := by simpa using hlt
 have hgr : (l.map row)[i]? = some (row t) := by rw [List.getElem?_map, hg]; rfl
 have hw : IntKind.i64.wrap ((i : Int) + 1) = ((i + 1 : Nat) : Int) := wrap_succ (by omega)
 have l1 : lo ≤ h.length + 1 := by omega
 have l2 : lo ≤ h.length + 2 := by omega
 have qc : (closer t.k != 0) = false := by simpa using hc
 have c48 := f48 (lo := lo) (h := h ++ [.cells (row t)]) (by simp; omega) t.k
 obtain ⟨k1, k2, k3⟩ : (t.k == 24) = false ∧ (t.k == 22) = false ∧ (t.k == 20) = false := by
  unfold isClB at hk
  simpa [and_assoc] using hk
 simp only [row] at hgr c48
 simp only [N21s, row, go_sem, l21x0, b21, Tryz.f21, hlo, l1, l2, q, hgr, hw, qc, c48, k1, k2, k3, List.length_map]
 all_goals rfl
theorem skip21b {l : List Tk4} {t : Tk4} {i n : Nat} {S : List V} (hlo : lo ≤ h.length) (hg : l[i]? = some t) (hl : l.length ≤ 1000000000) (hS : Jnk S) (hc : closer t.k = 0) (hk : isClB t.k = false) :
  evCode ⟨Tryz.prog, E, lo, h.length, h21⟩ loopW l21x0 (N21s (.stk h.length n 1) l i, H21s h S) = some (.normal, N21s (.stk h.length n 1) l (i + 1), H21s h S) := by
 have hlt : i < l.length := (List.getElem?_eq_some_iff.1 hg).1
 have q : decide ((i : Int) < (l.length : Int)) = true := by simpa using hlt
 have hgr : (l.map row)[i]? = some (row t) := by rw [List.getElem?_map, hg]; rfl
 have hw : IntKind.i64.wrap ((i : Int) + 1) = ((i + 1 : Nat) : Int) := wrap_succ (by omega)
 have l1 : lo ≤ h.length + 1 := by omega
 have l2 : lo ≤ h.length + 2 := by omega
 have qc : (closer t.k != 0) = false := by simpa using hc
 have c48 := f48 (lo := lo) (h := h ++ [.cells S, .cells (row t)]) (by simp; omega) t.k
 have hSk := (hS (h.length + 1)).2
 obtain ⟨k1, k2, k3⟩ : (t.k == 24) = false ∧ (t.k == 22) = false ∧ (t.k == 20) = false := by
  unfold isClB at hk
  simpa [and_assoc] using hk
 simp only [row] at hgr c48
 simp only [N21s, H21s, row, go_sem, l21x0, b21, Tryz.f21, hlo, l1, l2, q, hgr, hw, qc, c48, k1, k2, k3, hSk, List.length_map]
 all_goals rfl
theorem bad21a {l : List Tk4} {t : Tk4} {i : Nat} (hlo : lo ≤ h.length) (hg : l[i]? = some t) (hl : l.length ≤ 1000000000) (hc : closer t.k = 0) (hk : isClB t.k = true) :
  evCode ⟨Tryz.prog, E, lo, h.length, h21⟩ loopW l21x0 (N21s (.list .yes []) l i, h) = some (.ret, [(2, .v (.bool false))], h ++ [.cells (row t)]) := by
 have hlt : i < l.length := (List.getElem?_eq_some_iff.1 hg).1
 have q : decide ((i : Int) < (l.length : Int)) = true := by simpa using hlt
 have hgr : (l.map row)[i]? = some (row t) := by rw [List.getElem?_map, hg]; rfl
 have l1 : lo ≤ h.length + 1 := by omega
 have l2 : lo ≤ h.length + 2 := by omega
 have qc : (closer t.k != 0) = false := by simpa using hc
 have c48 := f48 (lo := lo) (h := h ++ [.cells (row t)]) (by simp; omega) t.k
 simp only [row] at hgr c48
 rcases isClB_cases t.k with k1 | ⟨k1, k2⟩ | ⟨k1, k2, k3⟩ | ⟨_, _, _, k4⟩
 ·simp only [N21s, row, go_sem, l21x0, b21, Tryz.f21, hlo, l1, l2, q, hgr, qc, c48, k1, List.length_map, List.length_nil]
  all_goals rfl
 ·simp only [N21s, row, go_sem, l21x0, b21, Tryz.f21, hlo, l1, l2, q, hgr, qc, c48, k1, k2, List.length_map, List.length_nil]
  all_goals rfl
 ·simp only [N21s, row, go_sem, l21x0, b21, Tryz.f21, hlo, l1, l2, q, hgr, qc, c48, k1, k2, k3, List.length_map, List.length_nil]
  all_goals rfl
 ·rw [k4] at hk; cases hk
theorem pop21 {l : List Tk4} {t : Tk4} {i : Nat} {c : Int} {st : List Int} {j : List V} (hlo : lo ≤ h.length) (hg : l[i]? = some t) (hl : l.length ≤ 1000000000) (hs : st.length ≤ 1000000000) (hj : Jnk j) (hc : closer t.k = 0) (hk : isClB t.k = true) (he : c = t.k) :
  evCode ⟨Tryz.prog, E, lo, h.length, h21⟩ loopW l21x0 (N21s (.stk h.length (st.length + 1) 1) l i, H21s h (it (c :: st).reverse ++ j)) = some (.normal, N21s (.stk h.length st.length 1) l (i + 1), H21s h (it (c :: st).reverse ++ j)) := by
 have hlt : i < l.length := (List.getElem?_eq_some_iff.1 hg).1
 have q : decide ((i : Int) < (l.length : Int)) = true := by simpa using hlt
 have hgr : (l.map row)[i]? = some (row t) := by rw [List.getElem?_map, hg]; rfl
 have hw : IntKind.i64.wrap ((i : Int) + 1) = ((i + 1 : Nat) : Int) := wrap_succ (by omega)
 have l1 : lo ≤ h.length + 1 := by omega
 have l2 : lo ≤ h.length + 2 := by omega
 have qc : (closer t.k != 0) = false := by simpa using hc
 have hkt := it_top c st j
 have hSk := (jnk_app (jnk_it (c :: st).reverse) hj (h.length + 1)).2
 have hql : ((st.length + 1 : Nat) == 0) = false := rfl
 have hqi : (((st.length + 1 : Nat) : Int) == 0) = false := by rw [beq_eq_false_iff_ne]; omega
 have w1 : IntKind.i64.wrap (((st.length + 1 : Nat) : Int) - 1) = (st.length : Int) := by rw [wrap_i64 (by omega) (by omega)]; omega
 have a1 : (0 : Int) ≤ (st.length : Int) ∧ (st.length : Int) < ((st.length + 1 : Nat) : Int) := by omega
 have a2 : (st.length : Int) < ((st.length + 1 : Nat) : Int) := by omega
 have a3 : (st.length : Int) ≤ ((st.length + 1 : Nat) : Int) := by omega
 have qe : (c != t.k) = false := by simp [he]
 simp only [H21s]
 generalize it (c :: st).reverse ++ j = S at *
 have c48 := f48 (lo := lo) (h := h ++ [.cells S, .cells (row t)]) (by simp; omega) t.k
 simp only [row] at hgr c48
 rcases isClB_cases t.k with k1 | ⟨k1, k2⟩ | ⟨k1, k2, k3⟩ | ⟨_, _, _, k4⟩
 ·simp only [N21s, row, go_sem, l21x0, b21, Tryz.f21, hlo, l1, l2, q, hgr, hw, qc, c48, k1, hkt, hSk, hql, hqi, w1, a1, a2, a3, qe, Nat.mul_one, List.length_map]
  all_goals rfl
 ·simp only [N21s, row, go_sem, l21x0, b21, Tryz.f21, hlo, l1, l2, q, hgr, hw, qc, c48, k1, k2, hkt, hSk, hql, hqi, w1, a1, a2, a3, qe, Nat.mul_one, List.length_map]
  all_goals rfl
 ·simp only [N21s, row, go_sem, l21x0, b21, Tryz.f21, hlo, l1, l2, q, hgr, hw, qc, c48, k1, k2, k3, hkt, hSk, hql, hqi, w1, a1, a2, a3, qe, Nat.mul_one, List.length_map]
  all_goals rfl
 ·rw [k4] at hk; cases hk
theorem bad21b {l : List Tk4} {t : Tk4} {i : Nat} {S : List V} (hlo : lo ≤ h.length) (hg : l[i]? = some t) (hl : l.length ≤ 1000000000) (hS : Jnk S) (hc : closer t.k = 0) (hk : isClB t.k = true) :
  evCode ⟨Tryz.prog, E, lo, h.length, h21⟩ loopW l21x0 (N21s (.stk h.length 0 1) l i, H21s h S) = some (.ret, [(2, .v (.bool false))], h ++ [.cells S, .cells (row t)]) := by
 have hlt : i < l.length := (List.getElem?_eq_some_iff.1 hg).1
 have q : decide ((i : Int) < (l.length : Int)) = true := by simpa using hlt
 have hgr : (l.map row)[i]? = some (row t) := by rw [List.getElem?_map, hg]; rfl
 have l1 : lo ≤ h.length + 1 := by omega
 have l2 : lo ≤ h.length + 2 := by omega
 have qc : (closer t.k != 0) = false := by simpa using hc
 have hSk := (hS (h.length + 1)).2
 have c48 := f48 (lo := lo) (h := h ++ [.cells S, .cells (row t)]) (by simp; omega) t.k
 simp only [H21s]
 simp only [row] at hgr c48
 rcases isClB_cases t.k with k1 | ⟨k1, k2⟩ | ⟨k1, k2, k3⟩ | ⟨_, _, _, k4⟩
 ·simp only [N21s, row, go_sem, l21x0, b21, Tryz.f21, hlo, l1, l2, q, hgr, qc, c48, k1, hSk, List.length_map, List.length_nil, Nat.mul_one]
  all_goals rfl
 ·simp only [N21s, row, go_sem, l21x0, b21, Tryz.f21, hlo, l1, l2, q, hgr, qc, c48, k1, k2, hSk, List.length_map, List.length_nil, Nat.mul_one]
  all_goals rfl
 ·simp only [N21s, row, go_sem, l21x0, b21, Tryz.f21, hlo, l1, l2, q, hgr, qc, c48, k1, k2, k3, hSk, List.length_map, List.length_nil, Nat.mul_one]
  all_goals rfl
 ·rw [k4] at hk; cases hk
theorem bad21c {l : List Tk4} {t : Tk4} {i : Nat} {c : Int} {st : List Int} {j : List V} (hlo : lo ≤ h.length) (hg : l[i]? = some t) (hl : l.length ≤ 1000000000) (hs : st.length ≤ 1000000000) (hj : Jnk j) (hc : closer t.k = 0) (hk : isClB t.k = true) (he : c ≠ t.k) :
  evCode ⟨Tryz.prog, E, lo, h.length, h21⟩ loopW l21x0 (N21s (.stk h.length (st.length + 1) 1) l i, H21s h (it (c :: st).reverse ++ j)) = some (.ret, [(2, .v (.bool false))], h ++ [.cells (it (c :: st).reverse ++ j), .cells (row t)]) := by
 have hlt : i < l.length := (List.getElem?_eq_some_iff.1 hg).1
 have q : decide ((i : Int) < (l.length : Int)) = true := by simpa using hlt
 have hgr : (l.map row)[i]? = some (row t) := by rw [List.getElem?_map, hg]; rfl
 have l1 : lo ≤ h.length + 1 := by omega
 have l2 : lo ≤ h.length + 2 := by omega
 have qc : (closer t.k != 0) = false := by simpa using hc
 have hkt := it_top c st j
 have hSk := (jnk_app (jnk_it (c :: st).reverse) hj (h.length + 1)).2
 have hqi : (((st.length + 1 : Nat) : Int) == 0) = false := by rw [beq_eq_false_iff_ne]; omega
 have w1 : IntKind.i64.wrap (((st.length + 1 : Nat) : Int) - 1) = (st.length : Int) := by rw [wrap_i64 (by omega) (by omega)]; omega
 have a1 : (0 : Int) ≤ (st.length : Int) ∧ (st.length : Int) < ((st.length + 1 : Nat) : Int) := by omega
 have a2 : (st.length : Int) < ((st.length + 1 : Nat) : Int) := by omega
 have qe : (c != t.k) = true := by simp [he]
 simp only [H21s]
 generalize it (c :: st).reverse ++ j = S at *
 have c48 := f48 (lo := lo) (h := h ++ [.cells S, .cells (row t)]) (by simp; omega) t.k
 simp only [row] at hgr c48
 rcases isClB_cases t.k with k1 | ⟨k1, k2⟩ | ⟨k1, k2, k3⟩ | ⟨_, _, _, k4⟩
 ·simp only [N21s, row, go_sem, l21x0, b21, Tryz.f21, hlo, l1, l2, q, hgr, qc, c48, k1, hkt, hSk, hqi, w1, a1, a2, qe, List.length_map, List.length_nil, Nat.mul_one]
  all_goals rfl
 ·simp only [N21s, row, go_sem, l21x0, b21, Tryz.f21, hlo, l1, l2, q, hgr, qc, c48, k1, k2, hkt, hSk, hqi, w1, a1, a2, qe, List.length_map, List.length_nil, Nat.mul_one]
  all_goals rfl
 ·simp only [N21s, row, go_sem, l21x0, b21, Tryz.f21, hlo, l1, l2, q, hgr, qc, c48, k1, k2, k3, hkt, hSk, hqi, w1, a1, a2, qe, List.length_map, List.length_nil, Nat.mul_one]
  all_goals rfl
 ·rw [k4] at hk; cases hk
abbrev X21s (O : V) (l : List Tk4) : Env := [(3, O), (7, .list .no (l.map row)), (8, .v (.int .i64 l.length)), (9, .v (.int .i64 l.length)), (10, .v (.bool false))]
inductive Fin21s (h : Heap) (l : List Tk4) (b : Bool) (r : Option (Ex × St)) : Prop
 | bad (Y : Heap) (hb : b = false) (hr : r = some (.ret, [(2, .v (.bool false))], h ++ Y))
 | none (hb : b = true) (hr : r = some (.exit 0, X21s (.list .yes []) l, h))
 | some (S : List V) (n : Nat) (hb : b = (n == 0)) (hr : r = some (.exit 0, X21s (.stk h.length n 1) l, H21s h S))
theorem shut_cons {o : List Int} {t : Tk4} {l : List Tk4} : shut o (t :: l) = if closer t.k ≠ 0 then shut (closer t.k :: o) l else if isClB t.k = true then (if o.head? = some t.k then shut o.tail l else false) else shut o l := rfl
theorem loop21b {l : List Tk4} (hlo : lo ≤ h.length) (hl : l.length ≤ 1000000000) : ∀ (m i : Nat) (st : List Int) (j : List V), m = l.length - i → i ≤ l.length → st.length ≤ i → Jnk j →
  Fin21s h l (shut st (l.drop i)) (loopW (evCode ⟨Tryz.prog, E, lo, h.length, h21⟩ loopW l21x0) (N21s (.stk h.length st.length 1) l i, H21s h (it st.reverse ++ j)))
 | 0, i, st, j, hm, hi, hs, hj => by
  obtain rfl : i = l.length := by omega
  have hd : decide ((l.length : Int) < (l.length : Int)) = false := by simp
  refine .some (it st.reverse ++ j) st.length ?_ ?_
  ·rw [List.drop_length, shut]
   cases st <;> rfl
  ·rw [loop_eq]
   simp only [N21s, H21s, go_sem, l21x0, b21, Tryz.f21, hlo, hd]
 | m + 1, i, st, j, hm, hi, hs, hj => by
  have hlt : i < l.length := by omega
  have hg := List.getElem?_eq_getElem hlt
  rw [loop_eq, List.drop_eq_getElem_cons hlt, shut_cons]
  by_cases hc : closer (l[i]).k = 0
  ·rw [if_neg (by simpa using hc)]
   cases hk : isClB (l[i]).k with
   | false =>
    rw [if_neg (by decide), skip21b hlo hg hl (jnk_app (jnk_it _) hj) hc hk, loop_n]
    exact loop21b hlo hl m (i + 1) st j (by omega) (by omega) (by omega) hj
   | true =>
    rw [if_pos rfl]
    cases st with
    | nil =>
     rw [if_neg (by simp)]
     have := bad21b hlo hg hl (jnk_app (jnk_it ([] : List Int).reverse) hj) hc hk
     rw [List.length_nil, this, loop_r]
     exact .bad _ rfl rfl
    | cons c st =>
     rw [List.length_cons] at hs
     by_cases he : c = (l[i]).k
     ·rw [if_pos (by rw [he]; rfl), List.length_cons, pop21 hlo hg hl (by omega) hj hc hk he, loop_n, List.tail_cons]
      have hj2 : Jnk (it [c] ++ j) := jnk_app (jnk_it [c]) hj
      have := loop21b hlo hl m (i + 1) st (it [c] ++ j) (by omega) (by omega) (by omega) hj2
      rw [← List.append_assoc, ← it_app] at this
      rw [List.reverse_cons]
      exact this
     ·rw [if_neg (by simpa using he), List.length_cons, bad21c hlo hg hl (by omega) hj hc hk he, loop_r]
      exact .bad _ rfl rfl
  ·rw [if_pos hc, push21b hlo hg hl (by omega) hj hc, loop_n]
   have := loop21b hlo hl m (i + 1) (closer (l[i]).k :: st) [] (by omega) (by omega) (by rw [List.length_cons]; omega) jnk_nil
   rw [List.append_nil, List.length_cons] at this
   exact this
theorem loop21a {l : List Tk4} (hlo : lo ≤ h.length) (hl : l.length ≤ 1000000000) : ∀ (m i : Nat), m = l.length - i → i ≤ l.length →
  Fin21s h l (shut [] (l.drop i)) (loopW (evCode ⟨Tryz.prog, E, lo, h.length, h21⟩ loopW l21x0) (N21s (.list .yes []) l i, h))
 | 0, i, hm, hi => by
  obtain rfl : i = l.length := by omega
  have hd : decide ((l.length : Int) < (l.length : Int)) = false := by simp
  refine .none ?_ ?_
  ·rw [List.drop_length, shut]
   rfl
  ·rw [loop_eq]
   simp only [N21s, go_sem, l21x0, b21, Tryz.f21, hlo, hd]
 | m + 1, i, hm, hi => by
  have hlt : i < l.length := by omega
  have hg := List.getElem?_eq_getElem hlt
  rw [loop_eq, List.drop_eq_getElem_cons hlt, shut_cons]
  by_cases hc : closer (l[i]).k = 0
  ·rw [if_neg (by simpa using hc)]
   cases hk : isClB (l[i]).k with
   | false =>
    rw [if_neg (by decide), skip21a hlo hg hl hc hk, loop_n]
    exact loop21a hlo hl m (i + 1) (by omega) (by omega)
   | true =>
    rw [if_pos rfl, if_neg (by simp), bad21a hlo hg hl hc hk, loop_r]
    exact .bad _ rfl rfl
  ·rw [if_pos hc, push21a hlo hg hl hc, loop_n]
   have := loop21b (h := h) hlo hl m (i + 1) [closer (l[i]).k] [] (by omega) (by omega) (by simp) jnk_nil
   rw [List.append_nil] at this
   exact this
theorem f21 {l : List Tk4} (hlo : lo ≤ h.length) (hl : l.length ≤ 1000000000) : E lo 21 [.list .no (l.map row)] h = some (.v (.bool (shut [] l)), h) := by
 have hL := loop21a (h := h) hlo hl l.length 0 (by omega) (by omega)
 rw [List.drop_zero] at hL
 have hz : ∀ n : Nat, (((n : Nat) : Int) == 0) = (n == 0) := fun n => by rw [Bool.eq_iff_iff]; simp
 rw [e21 (by simp) (by rfl)]
 cases hL with
 | bad Y hb hr =>
  simp only [N21s, l21x0, b21, Tryz.f21, loopAt, loops, bodyOf, go_sem] at hr
  rw [hb]
  simp only [go_sem, b21, Tryz.f21, hlo, hr, List.length_map]
  all_goals rfl
 | none hb hr =>
  simp only [N21s, l21x0, b21, Tryz.f21, loopAt, loops, bodyOf, go_sem] at hr
  rw [hb]
  simp only [go_sem, b21, Tryz.f21, hlo, hr, List.length_map, List.length_nil]
  all_goals rfl
 | some S n hb hr =>
  simp only [N21s, H21s, l21x0, b21, Tryz.f21, loopAt, loops, bodyOf, go_sem] at hr
  rw [hb]
  simp only [go_sem, b21, Tryz.f21, hlo, hr, hz, List.length_map]
  all_goals rfl
end Go.Lift.P8
end

section
namespace Go.Lift.Rul
theorem kinds_vals {l : List Tk4} {k : Int} (h : ∀ t ∈ l, t.k ≠ k) : ∀ v ∈ vals l, v.k ≠ k := fun v hv => (allL_iff.1 (allL_vals (P := fun t => t.k ≠ k) h) v hv).1
theorem shut_one {k : Int} (h1 : closer k = 0) (h2 : isClB k = false) : shut [] [bare k] = true := by
 unfold shut
 rw [if_neg (by show ¬ (closer k ≠ 0); simpa using h1), if_neg (by show ¬ isClB k = true; rw [h2]; decide)]
 rfl
theorem vals_17 : vals [bare 17] = [.mk (bare 17) []] := by rfl
theorem decls_near {a b : List Tk4} (ha : shut [] a = true) (h3 : ∀ t ∈ a, t.k ≠ 3) : decls (vals (a ++ bare 17 :: b)) = decls (vals a) ++ decls (vals b) := by
 rw [vals_shut ha, show bare 17 :: b = [bare 17] ++ b from rfl, vals_shut (shut_one rfl rfl), vals_17]
 exact decls_join _ _ _ _ (Nat.le_refl _) rfl (kinds_vals h3)
theorem rules_behind {a body b : List Tk4} (ha : shut [] a = true) (hb : shut [] body = true) (h3 : ∀ t ∈ a, t.k ≠ 3) :
  rules (vals (a ++ bare 23 :: (body ++ bare 24 :: b))) = rules (vals (a ++ bare 23 :: (body ++ [bare 24]))) ++ rules (vals b) := by
 rw [vals_block ha hb (by decide) rfl, vals_block ha hb (by decide) rfl]
 have e : vals ([] : List Tk4) = [] := rfl
 rw [e]
 unfold rules
 exact rules_join (rulesF 63 false) true true _ (vals a) (vals b) (.mk (bare 23) (vals body)) (Nat.le_refl _) rfl (kinds_vals h3)
end Go.Lift.Rul
end

section
namespace Go.Lift.Rul
end Go.Lift.Rul
namespace Go.Proofs
end Go.Proofs
open Go.Proofs
namespace Go.Lift.P8
open Rul (vals decls shut)
variable [MX]
set_option maxRecDepth 20000
set_option maxHeartbeats 4000000
theorem row_all6b (ts : List Rul.Tk4) : ((ts.map Rul.row).all fun x => x.length == 6) = true := by
 rw [List.all_eq_true]
 intro x hx
 obtain ⟨t, _, rfl⟩ := List.mem_map.1 hx
 rfl
theorem ibr_rowb (ts : List Rul.Tk4) : isByteRow (ts.map Rul.row) = false := by cases ts <;> rfl
abbrev N9 (x y z : List (List V)) (l : List Rul.Tk4) (i : Nat) : Env := [(5, .list .yes x), (6, .list .no y), (7, .list .no z), (26, .list .no (l.map Rul.row)), (27, .v (.int .i64 l.length)), (28, .v (.int .i64 i))]
theorem round9 {x y z : List (List V)} {l : List Rul.Tk4} {t : Rul.Tk4} {i : Nat} (hg : l[i]? = some t) (hl : l.length ≤ 1000000000) (h3 : t.k ≠ 3) :
  evCode ⟨Tryz.prog, E, 0, 0, h9⟩ loopW l9x0 (N9 x y z l i, []) = some (.normal, N9 x y z l (i + 1), []) := by
 have hlt : i < l.length := (List.getElem?_eq_some_iff.1 hg).1
 have q : decide ((i : Int) < (l.length : Int)) = true := by simpa using hlt
 have hgr : (l.map Rul.row)[i]? = some (Rul.row t) := by rw [List.getElem?_map, hg]; rfl
 have hw : IntKind.i64.wrap ((i : Int) + 1) = ((i + 1 : Nat) : Int) := wrap_succ (by omega)
 have q3 : (t.k == 3) = false := by rw [beq_eq_false_iff_ne]; exact h3
 simp only [Rul.row] at hgr
 simp only [N9, Rul.row, go_sem, l9x0, b9, Tryz.f9, q, hgr, hw, q3, List.length_map, List.length_nil]
 all_goals rfl
theorem at9 {x y z : List (List V)} {l : List Rul.Tk4} {t : Rul.Tk4} {i : Nat} (hg : l[i]? = some t) (hl : l.length ≤ 1000000000) (h3 : t.k = 3) :
  ∃ Y, evCode ⟨Tryz.prog, E, 0, 0, h9⟩ loopW l9x0 (N9 x y z l i, []) = some (.ret, [(4, .v (.bool true))], Y) := by
 have hlt : i < l.length := (List.getElem?_eq_some_iff.1 hg).1
 have q : decide ((i : Int) < (l.length : Int)) = true := by simpa using hlt
 have hgr : (l.map Rul.row)[i]? = some (Rul.row t) := by rw [List.getElem?_map, hg]; rfl
 have q3 : (t.k == 3) = true := by rw [beq_iff_eq]; exact h3
 have c18a := f18b t (lo := 0) (by omega); have c18b := f18b t (lo := 1) (by omega)
 simp only [Rul.row] at hgr c18a c18b
 refine ⟨[.cells (Rul.row t)], ?_⟩
 simp only [N9, Rul.row, go_sem, l9x0, b9, Tryz.f9, q, hgr, q3, c18a, c18b, List.length_map, List.length_nil, List.length_cons, Nat.zero_add]
 all_goals rfl
theorem loop9 {x y z : List (List V)} {l : List Rul.Tk4} (hl : l.length ≤ 1000000000) : ∀ (m i : Nat), m = l.length - i → i ≤ l.length →
  ((∃ t ∈ l, t.k = 3) ∧ ∃ Y, loopW (evCode ⟨Tryz.prog, E, 0, 0, h9⟩ loopW l9x0) (N9 x y z l i, []) = some (.ret, [(4, .v (.bool true))], Y)) ∨
  ((∀ t ∈ l.drop i, t.k ≠ 3) ∧ loopW (evCode ⟨Tryz.prog, E, 0, 0, h9⟩ loopW l9x0) (N9 x y z l i, []) = some (.exit 0, N9 x y z l l.length ++ [(29, .v (.bool false))], []))
 | 0, i, hm, hi => by
  obtain rfl : i = l.length := by omega
  have hd : decide ((l.length : Int) < (l.length : Int)) = false := by simp
  right
  refine ⟨by simp, ?_⟩
  rw [loop_eq]
  simp only [N9, go_sem, l9x0, b9, Tryz.f9, hd]
  all_goals rfl
 | m + 1, i, hm, hi => by
  have hlt : i < l.length := by omega
  have hg := List.getElem?_eq_getElem hlt
  by_cases h3 : (l[i]).k = 3
  ·left
   obtain ⟨Y, hY⟩ := at9 (x := x) (y := y) (z := z) hg hl h3
   exact ⟨⟨_, List.getElem_mem hlt, h3⟩, Y, by rw [loop_eq, hY, loop_r]⟩
  ·rw [loop_eq, round9 hg hl h3, loop_n, List.drop_eq_getElem_cons hlt]
   rcases loop9 (x := x) (y := y) (z := z) hl m (i + 1) (by omega) (by omega) with h | ⟨h1, h2⟩
   ·exact .inl h
   ·exact .inr ⟨fun t ht => by
     rcases List.mem_cons.1 ht with rfl | ht
     ·exact h3
     ·exact h1 t ht, h2⟩
theorem dc_all (l : List Rul.Dc) : ((l.map Rul.declC).all fun x => x.length == 3) = true := by
 rw [List.all_eq_true]
 intro x hx
 obtain ⟨t, _, rfl⟩ := List.mem_map.1 hx
 rfl
theorem dc_ibr (l : List Rul.Dc) : isByteRow (l.map Rul.declC) = false := by cases l <;> rfl
theorem bare_row (k : Int) : Rul.row (Rul.bare k) = [.v (.int .i64 k), .v (.string ByteArray.empty), .v (.int .i64 0), .v (.int .i64 0), .v (.bool false), .v (.bool false)] := rfl
theorem btT_bare (k : Int) : BtT (Rul.bare k) := ⟨(fun c hc => by cases hc), by simp [Rul.bare]⟩
theorem f9 {a b : List Rul.Tk4} (ha : a.length ≤ 10000000) (hBa : ∀ t ∈ a, BtT t) (hb : b.length ≤ 10000000) (hBb : ∀ t ∈ b, BtT t) :
  E 0 9 [.list .no (a.map Rul.row), .list .no (b.map Rul.row)] [] = some (.v (.bool true), []) := by
 have c18 := f18
 have c21 := f21 (lo := 0) (h := []) (l := a) (Nat.zero_le _) (by omega)
 rw [e9 (by simp) (by rfl)]
 cases hs : shut [] a with
 | false =>
  rw [hs] at c21
  simp only [go_sem, b9, Tryz.f9, c21, c18, List.length_nil, Nat.le_refl]
  all_goals rfl
 | true =>
  rw [hs] at c21
  have hBc : ∀ t ∈ a ++ Rul.bare 17 :: b, BtT t := fun t ht => by
   rcases List.mem_append.1 ht with ht | ht
   ·exact hBa t ht
   ·rcases List.mem_cons.1 ht with rfl | ht
    ·exact btT_bare 17
    ·exact hBb t ht
  have hlc : (a ++ Rul.bare 17 :: b).length ≤ 100000000 := by rw [List.length_append, List.length_cons]; omega
  have c24a := f24 (lo := 0) (h := []) (l := a) (Nat.zero_le _) (by omega) hBa
  have c24b := f24 (lo := 0) (h := []) (l := b) (Nat.zero_le _) (by omega) hBb
  have c24c := f24 (lo := 0) (h := []) (l := a ++ Rul.bare 17 :: b) (Nat.zero_le _) (by omega) hBc
  have eR : (a ++ Rul.bare 17 :: b).map Rul.row = a.map Rul.row ++ (Rul.row (Rul.bare 17) :: b.map Rul.row) := by simp
  rw [eR, bare_row] at c24c
  have ra := row_all6b a
  have rb := row_all6b b
  have ib := ibr_rowb a
  have ib2 := ibr_rowb (a ++ [Rul.bare 17])
  have ra2 := row_all6b (a ++ [Rul.bare 17])
  rw [List.map_append, List.map_singleton, bare_row] at ib2 ra2
  have y1 : (0 + a.length) * 48 ≤ 140737488355328 := by omega
  have y2 : 0 + a.length ≤ 9223372036854775807 := by omega
  have y3 : (a.length + 1) * 48 ≤ 140737488355328 := by omega
  have y4 : a.length + 1 ≤ 9223372036854775807 := by omega
  have y5 : (a.length + 1 + b.length) * 48 ≤ 140737488355328 := by omega
  have y6 : a.length + 1 + b.length ≤ 9223372036854775807 := by omega
  have hL := loop9 (x := a.map Rul.row ++ (Rul.row (Rul.bare 17) :: b.map Rul.row)) (y := (decls (vals a)).map Rul.declC) (z := (decls (vals b)).map Rul.declC) (l := a) (by omega) a.length 0 (by omega) (by omega)
  rw [bare_row] at hL
  rcases hL with ⟨_, Y, hL⟩ | ⟨h3, hL⟩
  ·simp only [N9, l9x0, b9, Tryz.f9, loopAt, loops, bodyOf, go_sem] at hL
   simp only [go_sem, b9, Tryz.f9, c21, c18, c24a, c24b, ra, rb, ib, ib2, ra2, y1, y2, y3, y4, y5, y6, hL, List.length_nil, List.length_map, List.length_append, List.length_cons, List.nil_append, Nat.le_refl]
   all_goals rfl
  ·simp only [N9, l9x0, b9, Tryz.f9, loopAt, loops, bodyOf, go_sem] at hL
   rw [List.drop_zero] at h3
   have hn := Rul.decls_near (b := b) hs h3
   have na := Rul.nodes_vals a
   have nb := Rul.nodes_vals b
   have wa := decls_wel (Rul.allL_vals hBa) (by omega)
   have wb := decls_wel (Rul.allL_vals hBb) (by omega)
   have la := declsN_len ((vals a).length + 1) (vals a)
   have lb := declsN_len ((vals b).length + 1) (vals b)
   have c23 := f23 (lo := 0) (h := []) (l := decls (vals a) ++ decls (vals b)) (u := decls (vals a) ++ decls (vals b)) (Nat.zero_le _) (by rw [List.length_append]; unfold decls; have := Rul.nodesL_len (vals a); have := Rul.nodesL_len (vals b); omega) (by rw [List.length_append]; unfold decls; have := Rul.nodesL_len (vals a); have := Rul.nodesL_len (vals b); omega)
    (fun d hd => (List.mem_append.1 hd).elim (wa.2 d) (wb.2 d)) (fun d hd => (List.mem_append.1 hd).elim (wa.2 d) (wb.2 d))
   rw [eqDs_refl, List.map_append] at c23
   rw [hn] at c24c
   have va := Rul.nodesL_len (vals a)
   have vb := Rul.nodesL_len (vals b)
   have da := dc_all (decls (vals a))
   have db := dc_all (decls (vals b))
   have ea := dc_ibr (decls (vals a))
   have eb := dc_ibr (decls (vals b))
   have la : (decls (vals a)).length ≤ a.length := by unfold decls; omega
   have lb : (decls (vals b)).length ≤ b.length := by unfold decls; omega
   have z1 : (0 + (decls (vals a)).length) * 48 ≤ 140737488355328 := by omega
   have z2 : 0 + (decls (vals a)).length ≤ 9223372036854775807 := by omega
   have z3 : ((decls (vals a)).length + (decls (vals b)).length) * 48 ≤ 140737488355328 := by omega
   have z4 : (decls (vals a)).length + (decls (vals b)).length ≤ 9223372036854775807 := by omega
   simp only [go_sem, b9, Tryz.f9, c21, c18, c24a, c24b, c24c, c23, ra, rb, ib, ib2, ra2, y1, y2, y3, y4, y5, y6, da, db, ea, eb, z1, z2, z3, z4, hL, List.length_nil, List.length_map, List.length_append, List.length_cons, List.nil_append, Nat.le_refl, List.map_append]
   all_goals rfl
end Go.Lift.P8
end

section
namespace Go.Lift.Rul
end Go.Lift.Rul
namespace Go.Proofs
end Go.Proofs
open Go.Proofs
namespace Go.Lift.P8
open Rul (vals rules rusC shut)
variable [MX]
set_option maxRecDepth 20000
set_option maxHeartbeats 4000000
abbrev N6 (x y z : List (List V)) (l : List Rul.Tk4) (i : Nat) : Env := [(0, .list .no x), (1, .list .no y), (2, .list .no z), (21, .list .no (l.map Rul.row)), (22, .v (.int .i64 l.length)), (23, .v (.int .i64 i))]
theorem round6 {x y z : List (List V)} {l : List Rul.Tk4} {t : Rul.Tk4} {i : Nat} (hg : l[i]? = some t) (hl : l.length ≤ 1000000000) (h3 : t.k ≠ 3) :
  evCode ⟨Tryz.prog, E, 0, 0, h6⟩ loopW l6x0 (N6 x y z l i, []) = some (.normal, N6 x y z l (i + 1), []) := by
 have hlt : i < l.length := (List.getElem?_eq_some_iff.1 hg).1
 have q : decide ((i : Int) < (l.length : Int)) = true := by simpa using hlt
 have hgr : (l.map Rul.row)[i]? = some (Rul.row t) := by rw [List.getElem?_map, hg]; rfl
 have hw : IntKind.i64.wrap ((i : Int) + 1) = ((i + 1 : Nat) : Int) := wrap_succ (by omega)
 have q3 : (t.k == 3) = false := by rw [beq_eq_false_iff_ne]; exact h3
 simp only [Rul.row] at hgr
 simp only [N6, Rul.row, go_sem, l6x0, b6, Tryz.f6, q, hgr, hw, q3, List.length_map, List.length_nil]
 all_goals rfl
theorem at6 {x y z : List (List V)} {l : List Rul.Tk4} {t : Rul.Tk4} {i : Nat} (hg : l[i]? = some t) (hl : l.length ≤ 1000000000) (h3 : t.k = 3) :
  ∃ Y, evCode ⟨Tryz.prog, E, 0, 0, h6⟩ loopW l6x0 (N6 x y z l i, []) = some (.ret, [(6, .v (.bool true))], Y) := by
 have hlt : i < l.length := (List.getElem?_eq_some_iff.1 hg).1
 have q : decide ((i : Int) < (l.length : Int)) = true := by simpa using hlt
 have hgr : (l.map Rul.row)[i]? = some (Rul.row t) := by rw [List.getElem?_map, hg]; rfl
 have q3 : (t.k == 3) = true := by rw [beq_iff_eq]; exact h3
 have c18a := f18b t (lo := 0) (by omega); have c18b := f18b t (lo := 1) (by omega)
 simp only [Rul.row] at hgr c18a c18b
 refine ⟨[.cells (Rul.row t)], ?_⟩
 simp only [N6, Rul.row, go_sem, l6x0, b6, Tryz.f6, q, hgr, q3, c18a, c18b, List.length_map, List.length_nil, List.length_cons, Nat.zero_add]
 all_goals rfl
theorem loop6 {x y z : List (List V)} {l : List Rul.Tk4} (hl : l.length ≤ 1000000000) : ∀ (m i : Nat), m = l.length - i → i ≤ l.length →
  ((∃ t ∈ l, t.k = 3) ∧ ∃ Y, loopW (evCode ⟨Tryz.prog, E, 0, 0, h6⟩ loopW l6x0) (N6 x y z l i, []) = some (.ret, [(6, .v (.bool true))], Y)) ∨
  ((∀ t ∈ l.drop i, t.k ≠ 3) ∧ loopW (evCode ⟨Tryz.prog, E, 0, 0, h6⟩ loopW l6x0) (N6 x y z l i, []) = some (.exit 0, N6 x y z l l.length ++ [(24, .v (.bool false))], []))
 | 0, i, hm, hi => by
  obtain rfl : i = l.length := by omega
  have hd : decide ((l.length : Int) < (l.length : Int)) = false := by simp
  right
  refine ⟨by simp, ?_⟩
  rw [loop_eq]
  simp only [N6, go_sem, l6x0, b6, Tryz.f6, hd]
  all_goals rfl
 | m + 1, i, hm, hi => by
  have hlt : i < l.length := by omega
  have hg := List.getElem?_eq_getElem hlt
  by_cases h3 : (l[i]).k = 3
  ·left
   obtain ⟨Y, hY⟩ := at6 (x := x) (y := y) (z := z) hg hl h3
   exact ⟨⟨_, List.getElem_mem hlt, h3⟩, Y, by rw [loop_eq, hY, loop_r]⟩
  ·rw [loop_eq, round6 hg hl h3, loop_n, List.drop_eq_getElem_cons hlt]
   rcases loop6 (x := x) (y := y) (z := z) hl m (i + 1) (by omega) (by omega) with h | ⟨h1, h2⟩
   ·exact .inl h
   ·exact .inr ⟨fun t ht => by
     rcases List.mem_cons.1 ht with rfl | ht
     ·exact h3
     ·exact h1 t ht, h2⟩
theorem lim48c {n : Nat} (h : n ≤ 1000000000) : n * 48 ≤ 140737488355328 := by omega
theorem lim96c {n : Nat} (h : n ≤ 1000000000) : n * 96 ≤ 140737488355328 := by omega
theorem rules_short {l : List Rul.Tk4} (hl : l.length ≤ 100000000) (hB : ∀ t ∈ l, BtT t) : (rules (vals l)).length ≤ l.length := by
 have hn := Rul.nodes_vals l
 have h1 := Rul.nodesL_len (vals l)
 have := rulesN_wel (sub := Rul.rulesF 63 false) (live := true) (top := true) (fun _ => rulesF_wel 63 false) ((vals l).length + 1) (vals l) (Rul.allL_vals hB) (by omega)
 have e : rules (vals l) = Rul.rulesN (Rul.rulesF 63 false) true true ((vals l).length + 1) (vals l) := rfl
 rw [e]
 omega
theorem wkRs_app {X Y : List Rul.Ru} (hx : WkRs X) (hy : WkRs Y) : WkRs (X ++ Y) := wkRs_of fun r hr => (List.mem_append.1 hr).elim (wkRs_mem hx) (wkRs_mem hy)
theorem f6 {a c b : List Rul.Tk4} (ha : a.length ≤ 10000000) (hBa : ∀ t ∈ a, BtT t) (hc : c.length ≤ 10000000) (hBc : ∀ t ∈ c, BtT t) (hb : b.length ≤ 10000000) (hBb : ∀ t ∈ b, BtT t) :
  E 0 6 [.list .no (a.map Rul.row), .list .no (c.map Rul.row), .list .no (b.map Rul.row)] [] = some (.v (.bool true), []) := by
 have c18 := f18
 have c21a := f21 (lo := 0) (h := []) (l := a) (Nat.zero_le _) (by omega)
 have c21c := f21 (lo := 0) (h := []) (l := c) (Nat.zero_le _) (by omega)
 rw [e6 (by simp) (by rfl)]
 cases hs : shut [] a with
 | false =>
  rw [hs] at c21a
  simp only [go_sem, b6, Tryz.f6, c21a, c18, List.length_nil, Nat.le_refl]
  all_goals rfl
 | true =>
  rw [hs] at c21a
  cases hsc : shut [] c with
  | false =>
   rw [hsc] at c21c
   simp only [go_sem, b6, Tryz.f6, c21a, c21c, c18, List.length_nil, Nat.le_refl]
   all_goals rfl
  | true =>
   rw [hsc] at c21c
   have hB1 : ∀ t ∈ a ++ Rul.bare 23 :: (c ++ [Rul.bare 24]), BtT t := fun t ht => by
    simp only [List.mem_append, List.mem_cons, List.mem_nil_iff, or_false] at ht
    rcases ht with ht | rfl | ht | rfl
    ·exact hBa t ht
    ·exact btT_bare 23
    ·exact hBc t ht
    ·exact btT_bare 24
   have hB2 : ∀ t ∈ a ++ Rul.bare 23 :: (c ++ Rul.bare 24 :: b), BtT t := fun t ht => by
    simp only [List.mem_append, List.mem_cons] at ht
    rcases ht with ht | rfl | ht | rfl | ht
    ·exact hBa t ht
    ·exact btT_bare 23
    ·exact hBc t ht
    ·exact btT_bare 24
    ·exact hBb t ht
   have l1 : (a ++ Rul.bare 23 :: (c ++ [Rul.bare 24])).length ≤ 90000000 := by simp only [List.length_append, List.length_cons, List.length_nil]; omega
   have l2 : (a ++ Rul.bare 23 :: (c ++ Rul.bare 24 :: b)).length ≤ 90000000 := by simp only [List.length_append, List.length_cons]; omega
   have c16a := f16 (lo := 0) (h := []) (l := a ++ Rul.bare 23 :: (c ++ [Rul.bare 24])) (Nat.zero_le _) (by omega) hB1
   have c16b := f16 (lo := 0) (h := []) (l := b) (Nat.zero_le _) (by omega) hBb
   have c16c := f16 (lo := 0) (h := []) (l := a ++ Rul.bare 23 :: (c ++ Rul.bare 24 :: b)) (Nat.zero_le _) (by omega) hB2
   have eR : (a ++ Rul.bare 23 :: (c ++ [Rul.bare 24])).map Rul.row = a.map Rul.row ++ (Rul.row (Rul.bare 23) :: (c.map Rul.row ++ [Rul.row (Rul.bare 24)])) := by simp
   have eR2 : (a ++ Rul.bare 23 :: (c ++ Rul.bare 24 :: b)).map Rul.row = a.map Rul.row ++ (Rul.row (Rul.bare 23) :: (c.map Rul.row ++ (Rul.row (Rul.bare 24) :: b.map Rul.row))) := by simp
   rw [eR] at c16a
   rw [eR2] at c16c
   have w1 := rules_wel (l := a ++ Rul.bare 23 :: (c ++ [Rul.bare 24])) (by omega) hB1
   have w2 := rules_wel (l := b) (by omega) hBb
   have i0 := ibr_rowb a
   have i1 := ibr_rowb (a ++ [Rul.bare 23])
   have i2 := ibr_rowb (a ++ Rul.bare 23 :: c)
   have i3 := ibr_rowb (a ++ Rul.bare 23 :: (c ++ [Rul.bare 24]))
   have i4 := ibr_rowb c
   have i5 := ibr_rowb b
   have r0 := row_all6b a
   have r1 := row_all6b (a ++ [Rul.bare 23])
   have r2 := row_all6b (a ++ Rul.bare 23 :: c)
   have r3 := row_all6b (a ++ Rul.bare 23 :: (c ++ [Rul.bare 24]))
   have r4 := row_all6b c
   have r5 := row_all6b b
   simp only [List.map_append, List.map_cons, List.map_nil, bare_row] at i1 i2 i3 r1 r2 r3
   simp only [bare_row] at c16a c16c
   have hL := loop6 (x := a.map Rul.row) (y := c.map Rul.row) (z := b.map Rul.row) (l := a) (by omega) a.length 0 (by omega) (by omega)
   rcases hL with ⟨_, Y, hL⟩ | ⟨h3, hL⟩
   ·simp only [N6, l6x0, b6, Tryz.f6, loopAt, loops, bodyOf, go_sem] at hL
    simp only [go_sem, b6, Tryz.f6, c21a, c21c, c18, hL, List.length_nil, List.length_map, Nat.le_refl]
    all_goals rfl
   ·simp only [N6, l6x0, b6, Tryz.f6, loopAt, loops, bodyOf, go_sem] at hL
    rw [List.drop_zero] at h3
    have hn := Rul.rules_behind (b := b) hs hsc h3
    rw [hn] at c16c
    have x1 := rules_short (l := a ++ Rul.bare 23 :: (c ++ [Rul.bare 24])) (by omega) hB1
    have x2 := rules_short (l := b) (by omega) hBb
    generalize rules (vals (a ++ Rul.bare 23 :: (c ++ [Rul.bare 24]))) = X at *
    generalize rules (vals b) = Y at *
    have hsz : (X ++ Y).length ≤ 1000000000 := by rw [List.length_append]; omega
    have c15 := f15 _ (X ++ Y) (X ++ Y) 0 [] (Nat.le_refl _) (wkRs_app w1.2 w2.2) (wkRs_app w1.2 w2.2) hsz hsz (Nat.zero_le _)
    rw [eqRs_refl, Rul.rusC_app] at c15
    rw [Rul.rusC_app] at c16c
    have p1s : a.length + (c.length + 1) + 1 ≤ 1000000000 := by omega
    have p2s : 0 + (a.length + (c.length + 1 + 1)) ≤ 1000000000 := by omega
    have p3s : a.length + (c.length + 1 + 1) + b.length ≤ 1000000000 := by omega
    have p4s : a.length + (c.length + (0 + 1) + 1) + b.length ≤ 1000000000 := by omega
    have p5s : 0 + (a.length + (c.length + (0 + 1) + 1)) ≤ 1000000000 := by omega
    have p1t : a.length + (c.length + 1) + 1 ≤ 9223372036854775807 := by omega
    have p2t : 0 + (a.length + (c.length + 1 + 1)) ≤ 9223372036854775807 := by omega
    have p3t : a.length + (c.length + 1 + 1) + b.length ≤ 9223372036854775807 := by omega
    have p4t : a.length + (c.length + (0 + 1) + 1) + b.length ≤ 9223372036854775807 := by omega
    have p5t : 0 + (a.length + (c.length + (0 + 1) + 1)) ≤ 9223372036854775807 := by omega
    have p6 : a.length + (c.length + 1) ≤ 9223372036854775806 := by omega
    have y1s : 0 + X.length ≤ 1000000000 := by omega
    have y2 : 0 + X.length ≤ 9223372036854775807 := by omega
    have y3s : X.length + Y.length ≤ 1000000000 := by omega
    have y4 : X.length + Y.length ≤ 9223372036854775807 := by omega
    have z1s : 0 + a.length ≤ 1000000000 := by omega
    have z2 : 0 + a.length ≤ 9223372036854775807 := by omega
    have q1s : a.length + 1 ≤ 1000000000 := by omega
    have q2 : a.length ≤ 9223372036854775806 := by omega
    have q3s : a.length + 1 + c.length ≤ 1000000000 := by omega
    have q4 : a.length + 1 + c.length ≤ 9223372036854775807 := by omega
    have q5s : a.length + 1 + c.length + 1 ≤ 1000000000 := by omega
    have q6 : a.length + 1 + c.length ≤ 9223372036854775806 := by omega
    have q7s : 0 + (a.length + 1 + c.length + 1) ≤ 1000000000 := by omega
    have q8 : 0 + (a.length + 1 + c.length + 1) ≤ 9223372036854775807 := by omega
    have q9s : a.length + 1 + c.length + 1 + b.length ≤ 1000000000 := by omega
    have q10 : a.length + 1 + c.length + 1 + b.length ≤ 9223372036854775807 := by omega
    have y1 := lim96c y1s
    have y3 := lim96c y3s
    have z1 := lim48c z1s
    have q1 := lim48c q1s
    have q3 := lim48c q3s
    have q5 := lim48c q5s
    have q7 := lim48c q7s
    have q9 := lim48c q9s
    have p1 := lim48c p1s
    have p2 := lim48c p2s
    have p3 := lim48c p3s
    have p4 := lim48c p4s
    have p5 := lim48c p5s
    have ra := Rul.rusC_all X
    have rb := Rul.rusC_all Y
    have la := Rul.rusC_len X
    have lb := Rul.rusC_len Y
    simp only [go_sem, b6, Tryz.f6, c21a, c21c, c18, c16a, c16b, c16c, c15, hL, i0, i1, i2, i3, i4, i5, r0, r1, r2, r3, r4, r5, ra, rb, la, lb, y1, y2, y3, y4, z1, z2, p6, p1, p1t, p2, p2t, p3, p3t, p4, p4t, p5, p5t, q1, q2, q3, q4, q5, q6, q7, q8, q9, q10, List.length_nil, List.length_map, List.length_append, List.length_cons, List.nil_append, Nat.le_refl]
    all_goals rfl
end Go.Lift.P8
end

section
namespace Go.Proofs
end Go.Proofs
namespace Go.Lift.P8
variable [MX]
open Go.Proofs Go.RowKit
set_option maxRecDepth 20000
theorem extra : Builder.Extra Tryz.prog Tryz.lays230_ren where
 sizeBuilder := by kernel_rfl
 liesBuilder := by kernel_rfl
 t5 := by kernel_rfl
 a5 := Tryz.lays230.a5
 z5 := Tryz.lays230.z5
 v5 := Tryz.lays230.v5
 infoByte := by kernel_rfl
 cellsByte := by kernel_rfl
 sizeByte := by kernel_rfl
 neB5 := by decide
theorem walk191 (x : Int) (w : World) : Calls Tryz.prog 191 #[.int .i32 x] w fun e w' => e = .returned (.int .i32 (lowU x)) ∧ ∃ q, w' = w.drewN q := by
 by_cases h1 : 65 ≤ x
 ·by_cases h2 : x ≤ 90
  ·have e1 : IntKind.i32.wrap (x + 97) = x + 97 := wrap_i32 (by omega) (by omega)
   have e2 : IntKind.i32.wrap (x + 97 - 65) = x + 32 := by rw [wrap_i32 (by omega) (by omega)]; omega
   have e3 : lowU x = x + 32 := by unfold lowU; rw [if_pos (by simp [h1, h2])]
   rw [e3]
   go_enter Tryz.func191, Tryz.ntmps191
   go_wp2
   all_goals go_ret
   exact ⟨rfl, 0, rfl⟩
  ·have e3 : lowU x = x := by unfold lowU; rw [if_neg (by simp [h2])]
   rw [e3]
   go_enter Tryz.func191, Tryz.ntmps191
   go_wp2
   all_goals go_ret
   exact ⟨rfl, 0, rfl⟩
 ·have e3 : lowU x = x := by unfold lowU; rw [if_neg (by simp [h1])]
  rw [e3]
  go_enter Tryz.func191, Tryz.ntmps191
  go_wp2
  all_goals go_ret
  exact ⟨rfl, 0, rfl⟩
theorem g3 : Tryz.lays230_ren.g 3 = 4 := rfl
theorem g4 : Tryz.lays230_ren.g 4 = 5 := rfl
theorem tab4 : GTab.tab 4 = some ((List.range 256).map fun c => V.v (.int .u8 (Go.Lib.firstT c))) := rfl
theorem tab5 : GTab.tab 5 = some ((List.range 16).flatMap fun i => [V.v (.int .u8 (Go.Lib.accLo i)), V.v (.int .u8 (Go.Lib.accHi i))]) := rfl
theorem pairs_get {f g : Nat → V} : ∀ (n i : Nat), i < n → ((List.range n).flatMap fun i => [f i, g i])[2 * i]? = some (f i) ∧ ((List.range n).flatMap fun i => [f i, g i])[2 * i + 1]? = some (g i) := by
 intro n
 have hlen : ∀ n, ((List.range n).flatMap fun i => [f i, g i]).length = 2 * n := by
  intro n
  induction n with
  | zero => rfl
  | succ n ih => rw [List.range_succ, List.flatMap_append, List.length_append, ih]; simp; omega
 induction n with
 | zero => intro i hi; omega
 | succ n ih =>
  intro i hi
  rw [List.range_succ, List.flatMap_append]
  by_cases h : i < n
  ·obtain ⟨a, b⟩ := ih i h
   rw [List.getElem?_append_left (by rw [hlen]; omega), List.getElem?_append_left (by rw [hlen]; omega)]
   exact ⟨a, b⟩
  ·obtain rfl : i = n := by omega
   rw [List.getElem?_append_right (by rw [hlen]; omega), List.getElem?_append_right (by rw [hlen]; omega), hlen]
   have e1 : 2 * i - 2 * i = 0 := by omega
   have e2 : 2 * i + 1 - 2 * i = 1 := by omega
   rw [e1, e2]
   exact ⟨rfl, rfl⟩
theorem tabs_of {c : Cl} {w : World} (hg : ∀ n cs, GTab.tab n = some cs → ROs c w ⟨n, 0, none⟩ cs) : Go.Lib.Utf8Tabs 4 5 w := by
 refine ⟨fun k hk => ?_, fun i hi => ?_⟩
 ·obtain ⟨_, h⟩ := hg 4 _ tab4
  obtain ⟨x, hx, hv⟩ := h k (.v (.int .u8 (Go.Lib.firstT k))) (by simp [hk])
  rw [Nat.zero_add] at hx
  rw [hx, VP.v_eq hv]
 ·obtain ⟨_, h⟩ := hg 5 _ tab5
  obtain ⟨p1, p2⟩ := pairs_get (f := fun i => V.v (.int .u8 (Go.Lib.accLo i))) (g := fun i => V.v (.int .u8 (Go.Lib.accHi i))) 16 i hi
  obtain ⟨x, hx, hv⟩ := h _ _ p1
  obtain ⟨y, hy, hu⟩ := h _ _ p2
  rw [Nat.zero_add] at hx hy
  rw [hx, hy, VP.v_eq hv, VP.v_eq hu]
  exact ⟨rfl, rfl⟩
end Go.Lift.P8
end

section
namespace Go.Proofs
end Go.Proofs
namespace Go.Lift.P8
variable [MX]
open Go.Proofs Go.RowKit
set_option maxRecDepth 100000
set_option maxHeartbeats 4000000
open Go.Sort Go.Lib in
theorem quiet_ok {m : List Nat} {c : Cl} {w w' : World} {h : Heap} {lo : Nat} (hH : HOK m c w h) (hb : Below w.heap.size w w') :
  HOK m c w' h ∧ Fr lo (hoOf m w h lo) w m c w' m c ∧ Owned lo (hoOf m w h lo) w m w' [] h act0 := by
 obtain ⟨hC, hold⟩ := hH
 have hcell : ∀ b o, b < w.heap.size → w'.cell? ⟨b, o, none⟩ = w.cell? ⟨b, o, none⟩ := fun b o hl => cell_of_heap (hb.block b hl) o
 have hce : ∀ b, 0 < c b → b < w.heap.size := fun b h0 => by
  rcases Nat.lt_or_ge b w.heap.size with hl | hl
  ·exact hl
  ·rw [hC.c_zero hl] at h0; omega
 have he : Ext c w c w' := ⟨fun _ => Nat.le_refl _, fun b o ho => hcell b o (hce b (by omega)), fun b _ => by
  rcases Nat.lt_or_ge b w.heap.size with hl | hl
  ·exact Shp.same (hb.block b hl)
  ·exact Shp.none hl⟩
 have hm : ∀ {i b}, m[i]? = some b → w'.heap[b]? = w.heap[b]? ∧ c b = c b := fun {i b} hi => ⟨hb.block b (hC.m_lt hi), rfl⟩
 have hAt : ∀ {l r x}, At m w' [] h act0 l r x → At m w [] h act0 l r x := fun {l r x} hl => by
  cases l with
  | slot t => exact hl
  | cell i j =>
   obtain ⟨cs, b, h1, h2, h3, h4⟩ := hl
   exact ⟨cs, b, h1, h2, h3, by rw [← cell_of_heap (hm h3).1]; exact h4⟩
 have hAt' : ∀ {l r x}, At m w [] h act0 l r x → At m w' [] h act0 l r x := fun {l r x} hl => by
  cases l with
  | slot t => exact hl
  | cell i j =>
   obtain ⟨cs, b, h1, h2, h3, h4⟩ := hl
   exact ⟨cs, b, h1, h2, h3, by rw [cell_of_heap (hm h3).1]; exact h4⟩
 refine ⟨⟨⟨fun b h0 => ?_, hC.wf2, hC.nd, hC.len, fun t => (hC.env t).mono (Pre.refl m) he, fun i o b ho hbm => (hC.ob i o b ho hbm).keep (hm hbm).1 (Pre.refl m) he, fun l r x hl => ?_,
   fun l l' r r' x x' b h1 h2 => hC.uniq l l' r r' x x' b (hAt h1) (hAt h2), hC.tagS, fun t i j r ht => hAt' (hC.tagC t i j r ht), fun n cs hg => (hC.gt n cs hg).mono he⟩, hold⟩,
  ⟨hb.os, hb.tape, hb.output, hb.size, Pre.refl m, fun i b hi hbm => ?_, he, fun b hl _ _ => ⟨hb.block b hl, rfl⟩⟩, fun l r x b hl hu hbx => ?_⟩
 ·rw [hb.block b (hce b h0)]
  exact hC.wf1 b h0
 ·refine (hC.own l r x (hAt hl)).keep fun b hbx => ?_
  exact ⟨hb.block b ((hC.own l r x (hAt hl)).lt hbx).1, rfl, id⟩
 ·have := (List.getElem?_eq_some_iff.1 hbm).1
  omega
 ·right
  cases l with
  | slot t => exact absurd hl.1 (by simp [look])
  | cell i j => exact ⟨i, j, r, x, hu, hAt hl, hbx⟩
theorem prim_quiet {f lo : Nat} {args : List V} {h : Heap} {x : Value} (he : ∀ xs w, (callFunc f xs).run Tryz.prog w = .ok (.enter f xs) w)
  (hx : ∀ m c w (xs : Array Value), HOK m c w h → R2 (VRr m c w) args xs.toList → Calls Tryz.prog f xs w fun e w' => e = .returned x ∧ Below w.heap.size w w') :
  CallOK Tryz.prog lo f args h (.v x) h :=
 CallOK0.ok ⟨rfl, he, fun m c w xs hH ha => ⟨⟨rfl, rfl, Keeps.refl _ _⟩, (hx m c w xs hH ha).mono fun e w' ⟨h1, hb⟩ => by
  obtain ⟨q1, q2, q3⟩ := quiet_ok (lo := lo) hH hb
  exact ⟨_, c, h1, rfl, q1, q2, q3⟩⟩⟩
theorem map_ok {lo : Nat} {args : List V} {h : Heap} {r : V} {h' : Heap} (hlo : lo ≤ h.length) (he : mapP lo args h = some (r, h')) : CallOK Tryz.prog lo 190 args h r h' := by
 unfold mapP at he
 split at he
 ·rename_i g s
  split at he
  ·rename_i hc
   obtain ⟨rfl, hs⟩ := hc
   cases he
   exact prim_quiet (enters_of Tryz.func190 (by kernel_rfl) rfl) fun m c w xs hH ha => by
    obtain ⟨hlen, hall⟩ := ha
    have hx2 : ∃ x y, xs = #[x, y] := by
     obtain ⟨l⟩ := xs
     match l, hlen with
     | [x, y], _ => exact ⟨x, y, rfl⟩
    obtain ⟨x, y, rfl⟩ := hx2
    have h0 := hall 0 _ _ rfl rfl
    have h1 := hall 1 _ _ rfl rfl
    obtain ⟨cs, ds, rfl, hcs, hds⟩ := h0
    obtain rfl : y = .string s := h1
    have hcs0 : cs = #[] := by
     obtain ⟨l⟩ := cs
     match l, hcs.1 with
     | [], _ => rfl
    have hds0 : ds = #[] := by
     obtain ⟨l⟩ := ds
     match l, hds.1 with
     | [], _ => rfl
    subst hcs0
    subst hds0
    have hT : Go.Lib.Utf8Tabs (Tryz.lays230_ren.g 3) (Tryz.lays230_ren.g 4) w := by
     rw [g3, g4]
     exact tabs_of hH.1.gt
    have hM : MapAtRunes Tryz.prog 191 #[] lowU w := fun W k hk _ => walk191 k W
    exact Any.strings_Map_runes Tryz.lays230 extra 191 #[] (enters_of Tryz.func191 (by kernel_rfl) rfl) lowU s w hs hM (fun k hk => by unfold lowU; split <;> omega) hT
  ·cases he
 ·cases he
theorem prim_ok : ∀ f p, primz f = some p → ∀ lo args h r h', lo ≤ h.length → p lo args h = some (r, h') → CallOK Tryz.prog lo f args h r h' := by
 intro f p hp lo args h r h' hlo he
 unfold primz at hp
 split at hp
 ·cases hp
  exact map_ok hlo he
 ·cases hp
end Go.Lift.P8
end

section
namespace Go.Proofs.YtnlekmkfgaolbaaGreatDoor
open Go.Lift Go.Lift.P8 Go.ChangeShapes Go.WideShapes Go.ChangeAt Go.RowKit
set_option maxRecDepth 100000
theorem isBulk (H : Type) : IsBulk (H := H) Rows.uptoBulk Rows.uptoBulkAll :=
 ⟨rfl, fun _ _ => rfl, fun _ => rfl, fun _ => rfl, fun _ _ => rfl, rfl, fun e s => by show Rows.uptoBulkAll e + 1 ≤ Rows.uptoBulkAll e + Rows.uptoBulkAll s + 1; omega, fun _ => rfl⟩
theorem own : ownKnob Tryz.prog.godebug = none := by kernel_rfl
theorem laidOut : laidOutB Tryz.prog = true := by kernel_rfl
theorem follows : Tryz.prog.follows .mixedOrders = true := by kernel_rfl
theorem ros_of {w : World} {g : Nat} {cs : List V} (h : ∀ (j : Nat) v, cs[j]? = some v → ∃ x, w.cell? ⟨g, j, none⟩ = some x ∧ VP (wholeCl w) w v x) : ROs (wholeCl w) w ⟨g, 0, none⟩ cs := by
 refine ⟨?_, fun j v hj => by simpa using h j v hj⟩
 cases cs with
 | nil => exact Nat.zero_le _
 | cons c t =>
  have hl : (c :: t)[t.length]? = some ((c :: t)[t.length]'(by simp)) := List.getElem?_eq_getElem (by simp)
  obtain ⟨x, hx, _⟩ := h t.length _ hl
  unfold World.cell? at hx
  unfold wholeCl
  simp only at hx ⊢
  split at hx
  ·rename_i arr e f he
   rw [he]
   simp only [List.length_cons]
   have := (Array.getElem?_eq_some_iff.1 hx).1
   omega
  ·cases hx
theorem kinds_data : (Rows.laid_jalousie_jalousieref3_kinds : DataW Unit) = Lib.tabData .i64 [21, 22, 19, 20, 23, 24, 18, 16, 17] := rfl
theorem first_data : Rows.laid_unicode_utf8_first = Lib.firstData := by kernel_rfl
theorem accept_data : (Rows.laid_unicode_utf8_acceptRanges : DataW Unit) = Lib.acceptData := by kernel_rfl
theorem bruijn_data : (Rows.laid_math_bits_deBruijn64tab : DataW Unit) = Lib.tabData .u8 (Lib.deBruijn64tab.map fun c : Nat => (c : Int)) := by kernel_rfl
theorem pow10_data : (Rows.laid_internal_strconv_uint64pow10 : DataW Unit) = Lib.tabData .u64 Lib.pow10Tab := by kernel_rfl
theorem tab_cells {w : World} {name : String} {k : IntKind} {zs : List Int} {g : Nat} {t e : TypeId} {n : Nat} (hn : Tryz.prog.globalNamed name = some g) (hy : (Tryz.prog.globals[g]?).map (·.type) = some t)
  (ht : Tryz.prog.underlying t = some (.array n e)) (he : Tryz.prog.underlying e = some (.int k)) (hce : Tryz.prog.cellsOf e = 1) (hct : Tryz.prog.cellsOf t = n) (h : Lib.VarReads Tryz.prog w name (Lib.tabData k zs)) :
  ∀ (j : Nat) (z : Int), zs[j]? = some z → w.cell? ⟨g, j, none⟩ = some (.int k z) := fun j z hz => by
 obtain ⟨g', t', cs, fuel, p, h1, h2, h3, h4⟩ := h
 obtain rfl := Option.some.inj (hn.symm.trans h1)
 obtain rfl := Option.some.inj (hy.symm.trans h2)
 have hcs := Lib.cells_of_tab ht he hce hct h4
 have := World.var?_cell hn h3 j
 rw [this, ← Array.getElem?_toList, hcs]
 simp [hz]
theorem gok [MX] {W : World} (hm : W.cell? ⟨1, 0, none⟩ = some (.int .i64 MX.m)) (hk : MX.k = true → Lib.VarReads Tryz.prog W "jalousie/jalousieref3.kinds" Rows.laid_jalousie_jalousieref3_kinds)
  (hd : MX.d = true → Lib.VarReads Tryz.prog W "math/bits.deBruijn64tab" Rows.laid_math_bits_deBruijn64tab) (hn : MX.n = true → Lib.VarReads Tryz.prog W "internal/strconv.uint64pow10" Rows.laid_internal_strconv_uint64pow10)
  (h2 : Lib.VarReads Tryz.prog W "unicode/utf8.first" Rows.laid_unicode_utf8_first) (h3 : Lib.VarReads Tryz.prog W "unicode/utf8.acceptRanges" Rows.laid_unicode_utf8_acceptRanges) : GOK W := by
 rw [kinds_data] at hk
 rw [first_data] at h2
 rw [accept_data] at h3
 rw [bruijn_data] at hd
 rw [pow10_data] at hn
 have hU : Lib.Utf8Tabs (Tryz.lays230_ren.g 3) (Tryz.lays230_ren.g 4) W :=
  utf8Tabs_of_reads (ρ := Tryz.lays230_ren) { Tryz.lays230 with } ⟨by kernel_rfl, by kernel_rfl, by kernel_rfl, by kernel_rfl, by kernel_rfl, by kernel_rfl, by kernel_rfl⟩ h2 h3
 rw [g3, g4] at hU
 intro n cs hc
 have e : GTab.tab n = gtab.1 n := rfl
 rw [e] at hc
 unfold gtab at hc
 simp only at hc
 split at hc
 ·split at hc
  ·rename_i hf
   have c0 := tab_cells (g := 0) (t := 148) (e := 3) (n := 9) (by kernel_rfl) (by kernel_rfl) (by kernel_rfl) (by kernel_rfl) (by kernel_rfl) (by kernel_rfl) (hk hf)
   cases hc
   refine ros_of fun j v hj => ?_
   have hj2 : (([21, 22, 19, 20, 23, 24, 18, 16, 17] : List Int).map fun z => V.v (.int .i64 z))[j]? = some v := hj
   simp only [List.getElem?_map, Option.map_eq_some_iff] at hj2
   obtain ⟨k, hk2, rfl⟩ := hj2
   exact ⟨_, c0 j k hk2, .v _ rfl⟩
  ·cases hc
 ·cases hc
  refine ros_of fun j v hj => ?_
  cases j with
  | zero =>
   cases hj
   exact ⟨_, hm, .v _ rfl⟩
  | succ j => simp at hj
 ·split at hc
  ·rename_i hf
   have c1 := tab_cells (g := 2) (t := 229) (e := 5) (n := 64) (by kernel_rfl) (by kernel_rfl) (by kernel_rfl) (by kernel_rfl) (by kernel_rfl) (by kernel_rfl) (hd hf)
   cases hc
   refine ros_of fun j v hj => ?_
   simp only [List.getElem?_map, Option.map_eq_some_iff] at hj
   obtain ⟨k, hk2, rfl⟩ := hj
   exact ⟨_, c1 j k (by simp [hk2]), .v _ rfl⟩
  ·cases hc
 ·split at hc
  ·rename_i hf
   have c2 := tab_cells (g := 3) (t := 232) (e := 171) (n := 20) (by kernel_rfl) (by kernel_rfl) (by kernel_rfl) (by kernel_rfl) (by kernel_rfl) (by kernel_rfl) (hn hf)
   cases hc
   refine ros_of fun j v hj => ?_
   simp only [List.getElem?_map, Option.map_eq_some_iff] at hj
   obtain ⟨k, hk2, rfl⟩ := hj
   exact ⟨_, c2 j k hk2, .v _ rfl⟩
  ·cases hc
 ·cases hc
  refine ros_of fun j v hj => ?_
  simp only [List.getElem?_map, Option.map_eq_some_iff] at hj
  obtain ⟨k, hk2, rfl⟩ := hj
  have hlt : j < 256 := by
   have := (List.getElem?_eq_some_iff.1 hk2).1
   simpa using this
  rw [List.getElem?_range hlt] at hk2
  cases hk2
  exact ⟨_, hU.1 j hlt, .v _ rfl⟩
 ·cases hc
  refine ros_of fun j v hj => ?_
  have hjl : j < 32 := by
   rcases Nat.lt_or_ge j 32 with h | h
   ·exact h
   ·exfalso
    have hl : ((List.range 16).flatMap fun i => [V.v (.int .u8 (Go.Lib.accLo i)), V.v (.int .u8 (Go.Lib.accHi i))]).length = 32 := rfl
    rw [List.getElem?_eq_none (by rw [hl]; exact h)] at hj
    cases hj
  obtain ⟨i, hi, hj2⟩ : ∃ i, i < 16 ∧ (j = 2 * i ∨ j = 2 * i + 1) := ⟨j / 2, by omega, by omega⟩
  obtain ⟨p1, p2⟩ := pairs_get (f := fun i => V.v (.int .u8 (Go.Lib.accLo i))) (g := fun i => V.v (.int .u8 (Go.Lib.accHi i))) 16 i hi
  rcases hj2 with rfl | rfl
  ·rw [p1] at hj
   cases hj
   exact ⟨_, (hU.2 i hi).1, .v _ rfl⟩
  ·rw [p2] at hj
   cases hj
   exact ⟨_, (hU.2 i hi).2, .v _ rfl⟩
 ·cases hc
noncomputable def laidWorld (os : Os) : World :=
 let w0 := World.holding Tryz.prog os ⟨#[], #[], []⟩
 let put (h : Array Obj) (g : Nat) (cs : Array Value) : Array Obj := h.modify g fun
  | .cells _ t frozen => .cells cs t frozen
  | o => o
 let h1 := put w0.heap 4 (Lib.firstTab.map fun z => Value.int .u8 z).toArray
 let h2 := put h1 5 ((List.range 16).flatMap fun i => [Value.int .u8 (Lib.accLo i), Value.int .u8 (Lib.accHi i)]).toArray
 let h3 := put h2 2 (Lib.deBruijn64tab.map fun z : Nat => Value.int .u8 (z : Int)).toArray
 let h4 := put h3 6 (Lib.deBruijn32tab.map fun z : Nat => Value.int .u8 (z : Int)).toArray
 let h5 := put h4 3 (Lib.pow10Tab.map fun z => Value.int .u64 z).toArray
 let h6 := put h5 0 ([21, 22, 19, 20, 23, 24, 18, 16, 17].map fun z => Value.int .i64 z).toArray
 { w0 with heap := h6 }
theorem laid2 (os : Os) (args : Array Value) : LaidIn Tryz.prog ((laidWorld os).forCall (fun _ _ => 0) ⟨#[], args, []⟩).memory [("unicode/utf8.acceptRanges", Rows.laid_unicode_utf8_acceptRanges), ("unicode/utf8.first", Rows.laid_unicode_utf8_first)] [5, 4] :=
 LaidIn.of_run [5, 4] 8 (by kernel_rfl) (by kernel_rfl) (by kernel_rfl) (by kernel_rfl)
theorem ty_int {t : TypeId} {k : IntKind} {p : List V} (ht : Tryz.prog.underlying t = some (.int k)) (h : Ty Tryz.prog t p) : ∃ n, p = [.v (.int k n)] ∧ (Lit.int k n).wf = true := by
 cases h with
 | int k' n hu hw => rw [ht] at hu; cases hu; exact ⟨n, rfl, hw⟩
 | bool b hu => rw [ht] at hu; cases hu
 | string s hu => rw [ht] at hu; cases hu
 | slice rows hu _ => rw [ht] at hu; cases hu
 | struct fs cells hu _ => rw [ht] at hu; cases hu
theorem ty_bool {t : TypeId} {p : List V} (ht : Tryz.prog.underlying t = some .bool) (h : Ty Tryz.prog t p) : ∃ b, p = [.v (.bool b)] := by
 cases h with
 | int k' n hu hw => rw [ht] at hu; cases hu
 | bool b hu => exact ⟨b, rfl⟩
 | string s hu => rw [ht] at hu; cases hu
 | slice rows hu _ => rw [ht] at hu; cases hu
 | struct fs cells hu _ => rw [ht] at hu; cases hu
theorem ty_str {t : TypeId} {p : List V} (ht : Tryz.prog.underlying t = some .string) (h : Ty Tryz.prog t p) : ∃ s, p = [.v (.string s)] := by
 cases h with
 | int k' n hu hw => rw [ht] at hu; cases hu
 | bool b hu => rw [ht] at hu; cases hu
 | string s hu => exact ⟨s, rfl⟩
 | slice rows hu _ => rw [ht] at hu; cases hu
 | struct fs cells hu _ => rw [ht] at hu; cases hu
theorem ty_fields {t : TypeId} {fs : Array Field} {p : List V} (ht : Tryz.prog.underlying t = some (.struct fs)) (h : Ty Tryz.prog t p) : TyFs Tryz.prog fs.toList p := by
 cases h with
 | int k' n hu hw => rw [ht] at hu; cases hu
 | bool b hu => rw [ht] at hu; cases hu
 | string s hu => rw [ht] at hu; cases hu
 | slice rows hu _ => rw [ht] at hu; cases hu
 | struct fs' cells hu hf => rw [ht] at hu; cases hu; exact hf
theorem fs_cons {f : Field} {fs : List Field} {p : List V} (h : TyFs Tryz.prog (f :: fs) p) : ∃ a b, p = a ++ b ∧ Ty Tryz.prog f.type a ∧ TyFs Tryz.prog fs b := by
 cases h with
 | cons h1 h2 => exact ⟨_, _, rfl, h1, h2⟩
theorem fs_nil {p : List V} (h : TyFs Tryz.prog [] p) : p = [] := by
 cases h; rfl
theorem wf_i64 {n : Int} (h : (Lit.int .i64 n).wf = true) : -9223372036854775808 ≤ n ∧ n ≤ 9223372036854775807 := by
 simp [Lit.wf, IntKind.min, IntKind.max, IntKind.signed, IntKind.bits] at h
 omega
theorem any_bs (s : ByteArray) : ∃ l : List Int, Utf.By l ∧ s = Rul.bs l ∧ l.length = s.size := by
 refine ⟨s.data.toList.map fun c => (c.toNat : Int), ?_, ?_, ?_⟩
 ·intro c hc
  obtain ⟨x, _, rfl⟩ := List.mem_map.1 hc
  have := x.toNat_lt
  omega
 ·apply ByteArray.ext
  unfold Rul.bs u8s
  simp only [List.map_map]
  apply Array.toList_inj.1
  conv => lhs; rw [← List.map_id s.data.toList]
  apply List.map_congr_left
  intro c _
  simp
 ·rw [List.length_map, Array.length_toList]; rfl
theorem tyTk {p : List V} (hc : Ty Tryz.prog 37 p) : ∃ t : Rul.Tk4, p = Rul.row t ∧ Utf.By t.b ∧ (-9223372036854775808 ≤ t.n ∧ t.n ≤ 9223372036854775807) ∧ (-9223372036854775808 ≤ t.d ∧ t.d ≤ 9223372036854775807) ∧ vsRow p = t.b.length + 6 := by
 have h1 := ty_fields Tryz.underlying37 hc
 obtain ⟨p1, q1, rfl, t1, h1⟩ := fs_cons h1
 obtain ⟨p2, q2, rfl, t2, h1⟩ := fs_cons h1
 obtain ⟨p3, q3, rfl, t3, h1⟩ := fs_cons h1
 obtain ⟨p4, q4, rfl, t4, h1⟩ := fs_cons h1
 obtain ⟨p5, q5, rfl, t5, h1⟩ := fs_cons h1
 obtain rfl := fs_nil h1
 obtain ⟨k, rfl, _⟩ := ty_int Tryz.underlying3 t1
 obtain ⟨s, rfl⟩ := ty_str Tryz.underlying9 t2
 have h2 := ty_fields Tryz.underlying35 t3
 obtain ⟨p6, q6, rfl, t6, h2⟩ := fs_cons h2
 obtain ⟨p7, q7, rfl, t7, h2⟩ := fs_cons h2
 obtain rfl := fs_nil h2
 obtain ⟨n, rfl, hn⟩ := ty_int Tryz.underlying2 t6
 obtain ⟨d, rfl, hd⟩ := ty_int Tryz.underlying2 t7
 obtain ⟨w, rfl⟩ := ty_bool Tryz.underlying4 t4
 obtain ⟨i, rfl⟩ := ty_bool Tryz.underlying4 t5
 obtain ⟨b, hb, rfl, hl⟩ := any_bs s
 refine ⟨⟨k, b, n, d, w, i⟩, rfl, hb, wf_i64 hn, wf_i64 hd, ?_⟩
 simp [vsRow, vsize]
 omega
theorem ty_slice {t e : TypeId} {p : List V} (ht : Tryz.prog.underlying t = some (.slice e)) (h : Ty Tryz.prog t p) : ∃ rows, p = [.list .no rows] ∧ ∀ row ∈ rows, Ty Tryz.prog e row := by
 cases h with
 | int k' n hu hw => rw [ht] at hu; cases hu
 | bool b hu => rw [ht] at hu; cases hu
 | string s hu => rw [ht] at hu; cases hu
 | slice rows hu hr => rw [ht] at hu; cases hu; exact ⟨rows, rfl, hr⟩
 | struct fs cells hu _ => rw [ht] at hu; cases hu
theorem tv {t e : TypeId} {v : V} (ht : Tryz.prog.underlying t = some (.slice e)) (h : TyV Tryz.prog t v) : Ty Tryz.prog t [v] := by
 unfold TyV at h
 rw [ht] at h
 exact h
theorem tyTks {n : Nat} (hn : n ≤ 1048576) : ∀ (rows : List (List V)), vsRows rows ≤ n → (∀ row ∈ rows, Ty Tryz.prog 37 row) →
  ∃ l : List Rul.Tk4, rows = l.map Rul.row ∧ (∀ t ∈ l, BtT t) ∧ l.length ≤ vsRows rows
 | [], _, _ => ⟨[], rfl, by simp, by simp⟩
 | r :: rs, hs, h => by
  obtain ⟨t, rfl, a, b, c, e⟩ := tyTk (h r (List.mem_cons_self ..))
  simp only [vsRows, e] at hs ⊢
  obtain ⟨l, rfl, h1, h2⟩ := tyTks hn rs (by omega) fun row hm => h row (List.mem_cons_of_mem _ hm)
  refine ⟨t :: l, rfl, fun x hx => ?_, by rw [List.length_cons]; omega⟩
  rcases List.mem_cons.1 hx with rfl | hx
  ·exact ⟨a, by omega⟩
  ·exact h1 x hx
theorem ty22 {v : V} {n : Nat} (h : TyV Tryz.prog 22 v) (hs : asize v ≤ n) (hn : n ≤ 1048576) : ∃ l : List Rul.Tk4, v = .list .no (l.map Rul.row) ∧ (∀ t ∈ l, BtT t) ∧ l.length ≤ n := by
 obtain ⟨rows, hp, hr⟩ := ty_slice Tryz.underlying22 (tv Tryz.underlying22 h)
 obtain rfl : v = .list .no rows := by simpa using hp
 have hv : vsRows rows ≤ n := by simp only [asize, vsize] at hs; omega
 obtain ⟨l, rfl, a, b⟩ := tyTks hn rows hv hr
 exact ⟨l, rfl, a, by omega⟩
end Go.Proofs.YtnlekmkfgaolbaaGreatDoor
end

section
namespace Go.Proofs.YtnlekmkfgaolbaaGreatDoor
set_option maxRecDepth 100000
theorem and_tt {a b : Bool} (ha : a = true) (hb : b = true) : (a && b) = true := by rw [ha, hb]; rfl
theorem fact2 : laidOutB Tryz.prog = true := by kernel_rfl
theorem fact3 : mapsRowed Tryz.prog = true := by kernel_rfl
theorem fact7 : (Tryz.prog.stops == []) = true := by kernel_rfl
theorem fact9 : (Tryz.prog.stopKnobs == []) = true := by kernel_rfl
theorem fact23 : (Rows.ruleRulesUptoRow.plainKeys == Tryz.prog.plainKeys) = true := by kernel_rfl
theorem fact25 : Tryz.prog.stopsHeard = true := by kernel_rfl
theorem fact26 : Tryz.prog.mayEnter = true := by kernel_rfl
theorem fact27 : (Rows.ruleRulesUptoRow.lifted == Tryz.prog.liftsFinal) = true := by kernel_rfl
theorem fact28 : (Tryz.prog.make == some Rows.ruleRulesUptoRow.make) = true := by kernel_rfl
end Go.Proofs.YtnlekmkfgaolbaaGreatDoor
end

section
namespace Go.Lift.Rul
end Go.Lift.Rul
namespace Go.Proofs
end Go.Proofs
open Go.Proofs
namespace Go.Lift.P8
open Rul
variable [MX]
set_option maxRecDepth 20000
set_option maxHeartbeats 4000000
variable {lo : Nat} {h : Heap}
abbrev N29s (O : V) (l : List Tk4) (i : Nat) : Env := [(3, O), (8, .list .no (l.map row)), (9, .v (.int .i64 l.length)), (10, .v (.int .i64 i))]
theorem push29a {l : List Tk4} {t : Tk4} {i : Nat} (hlo : lo ≤ h.length) (hg : l[i]? = some t) (hl : l.length ≤ 1000000000) (hc : closer t.k ≠ 0) :
  evCode ⟨Tryz.prog, E, lo, h.length, h29⟩ loopW l29x0 (N29s (.list .yes []) l i, h) = some (.normal, N29s (.stk h.length 1 1) l (i + 1), H21s h (it [closer t.k])) := by
 have hlt : i < l.length := (List.getElem?_eq_some_iff.1 hg).1
 have q : decide ((i : Int) < (l.length : Int)) = true := by simpa using hlt
 have hgr : (l.map row)[i]? = some (row t) := by rw [List.getElem?_map, hg]; rfl
 have hw : IntKind.i64.wrap ((i : Int) + 1) = ((i + 1 : Nat) : Int) := wrap_succ (by omega)
 have l1 : lo ≤ h.length + 1 := by omega
 have l2 : lo ≤ h.length + 2 := by omega
 have qc : (closer t.k != 0) = true := by simpa using hc
 have c48 := f48 (lo := lo) (h := h ++ [.cells (row t)]) (by simp; omega) t.k
 have en : it [closer t.k] = [V.v (.int .i64 (closer t.k))] := rfl
 simp only [row] at hgr c48
 simp only [N29s, H21s, en, row, go_sem, l29x0, b29, Tryz.f29, hlo, l1, l2, q, hgr, hw, qc, c48, List.length_map]
 all_goals rfl
theorem push29b {l : List Tk4} {t : Tk4} {i : Nat} {st : List Int} {j : List V} (hlo : lo ≤ h.length) (hg : l[i]? = some t) (hl : l.length ≤ 1000000000) (hs : st.length ≤ 1000000000) (hj : Jnk j) (hc : closer t.k ≠ 0) :
  evCode ⟨Tryz.prog, E, lo, h.length, h29⟩ loopW l29x0 (N29s (.stk h.length st.length 1) l i, H21s h (it st.reverse ++ j)) = some (.normal, N29s (.stk h.length (st.length + 1) 1) l (i + 1), H21s h (it (closer t.k :: st).reverse)) := by
 have hlt : i < l.length := (List.getElem?_eq_some_iff.1 hg).1
 have q : decide ((i : Int) < (l.length : Int)) = true := by simpa using hlt
 have hgr : (l.map row)[i]? = some (row t) := by rw [List.getElem?_map, hg]; rfl
 have hw : IntKind.i64.wrap ((i : Int) + 1) = ((i + 1 : Nat) : Int) := wrap_succ (by omega)
 have l1 : lo ≤ h.length + 1 := by omega
 have l2 : lo ≤ h.length + 2 := by omega
 have qc : (closer t.k != 0) = true := by simpa using hc
 have hS0 := it_take st.reverse j
 have hSl : st.length ≤ (it st.reverse ++ j).length := by rw [List.length_append, it_len, List.length_reverse]; omega
 have hT := it_stk h.length st.reverse
 have hTk := it_okv (h.length + 1) st.reverse
 have o1 := lim8i hs
 have o2 := limC hs
 rw [List.length_reverse] at hS0
 rw [List.reverse_cons, ← it_snoc]
 simp only [H21s]
 generalize it st.reverse ++ j = S at *
 generalize it st.reverse = T at *
 have c48 := f48 (lo := lo) (h := h ++ [.cells S, .cells (row t)]) (by simp; omega) t.k
 simp only [row] at hgr c48
 simp only [N29s, row, go_sem, l29x0, b29, Tryz.f29, hlo, l1, l2, q, hgr, hw, qc, c48, hS0, hSl, hT, hTk, o1, o2, Nat.mul_one, List.length_map]
 all_goals rfl
theorem skip29a {l : List Tk4} {t : Tk4} {i : Nat} (hlo : lo ≤ h.length) (hg : l[i]? = some t) (hl : l.length ≤ 1000000000) (hc : closer t.k = 0) :
  evCode ⟨Tryz.prog, E, lo, h.length, h29⟩ loopW l29x0 (N29s (.list .yes []) l i, h) = some (.normal, N29s (.list .yes []) l (i + 1), h) := by
 have hlt : i < l.length := (List.getElem?_eq_some_iff.1 hg).1
 have q : decide ((i : Int) < (l.length : Int)) = true := by simpa using hlt
 have hgr : (l.map row)[i]? = some (row t) := by rw [List.getElem?_map, hg]; rfl
 have hw : IntKind.i64.wrap ((i : Int) + 1) = ((i + 1 : Nat) : Int) := wrap_succ (by omega)
 have l1 : lo ≤ h.length + 1 := by omega
 have l2 : lo ≤ h.length + 2 := by omega
 have qc : (closer t.k != 0) = false := by simpa using hc
 have c48 := f48 (lo := lo) (h := h ++ [.cells (row t)]) (by simp; omega) t.k
 have q0 : decide ((0 : Int) < ((0 : Nat) : Int)) = false := rfl
 simp only [row] at hgr c48
 simp only [N29s, row, go_sem, l29x0, b29, Tryz.f29, hlo, l1, l2, q, hgr, hw, qc, c48, q0, List.length_nil, List.length_map]
 all_goals rfl
theorem skip29b {l : List Tk4} {t : Tk4} {i : Nat} {S : List V} (hlo : lo ≤ h.length) (hg : l[i]? = some t) (hl : l.length ≤ 1000000000) (hS : Jnk S) (hc : closer t.k = 0) :
  evCode ⟨Tryz.prog, E, lo, h.length, h29⟩ loopW l29x0 (N29s (.stk h.length 0 1) l i, H21s h S) = some (.normal, N29s (.stk h.length 0 1) l (i + 1), H21s h S) := by
 have hlt : i < l.length := (List.getElem?_eq_some_iff.1 hg).1
 have q : decide ((i : Int) < (l.length : Int)) = true := by simpa using hlt
 have hgr : (l.map row)[i]? = some (row t) := by rw [List.getElem?_map, hg]; rfl
 have hw : IntKind.i64.wrap ((i : Int) + 1) = ((i + 1 : Nat) : Int) := wrap_succ (by omega)
 have l1 : lo ≤ h.length + 1 := by omega
 have l2 : lo ≤ h.length + 2 := by omega
 have qc : (closer t.k != 0) = false := by simpa using hc
 have c48 := f48 (lo := lo) (h := h ++ [.cells S, .cells (row t)]) (by simp; omega) t.k
 have q0 : decide ((0 : Int) < ((0 : Nat) : Int)) = false := rfl
 have hSk := (hS (h.length + 1)).2
 simp only [row] at hgr c48
 simp only [N29s, H21s, row, go_sem, l29x0, b29, Tryz.f29, hlo, l1, l2, q, hgr, hw, qc, c48, q0, hSk, List.length_map]
 all_goals rfl
theorem top29 {l : List Tk4} {t : Tk4} {i : Nat} {c : Int} {st : List Int} {j : List V} (hlo : lo ≤ h.length) (hg : l[i]? = some t) (hl : l.length ≤ 1000000000) (hs : st.length ≤ 1000000000) (hj : Jnk j) (hc : closer t.k = 0) :
  evCode ⟨Tryz.prog, E, lo, h.length, h29⟩ loopW l29x0 (N29s (.stk h.length (st.length + 1) 1) l i, H21s h (it (c :: st).reverse ++ j)) = some (.normal, N29s (.stk h.length (if c = t.k then st.length else st.length + 1) 1) l (i + 1), H21s h (it (c :: st).reverse ++ j)) := by
 have hlt : i < l.length := (List.getElem?_eq_some_iff.1 hg).1
 have q : decide ((i : Int) < (l.length : Int)) = true := by simpa using hlt
 have hgr : (l.map row)[i]? = some (row t) := by rw [List.getElem?_map, hg]; rfl
 have hw : IntKind.i64.wrap ((i : Int) + 1) = ((i + 1 : Nat) : Int) := wrap_succ (by omega)
 have l1 : lo ≤ h.length + 1 := by omega
 have l2 : lo ≤ h.length + 2 := by omega
 have qc : (closer t.k != 0) = false := by simpa using hc
 have hkt := it_top c st j
 have hSk := (jnk_app (jnk_it (c :: st).reverse) hj (h.length + 1)).2
 have hql : decide ((0 : Int) < ((st.length + 1 : Nat) : Int)) = true := by rw [decide_eq_true_iff]; omega
 have w1 : IntKind.i64.wrap (((st.length + 1 : Nat) : Int) - 1) = (st.length : Int) := by rw [wrap_i64 (by omega) (by omega)]; omega
 have a1 : (0 : Int) ≤ (st.length : Int) ∧ (st.length : Int) < ((st.length + 1 : Nat) : Int) := by omega
 have a2 : (st.length : Int) < ((st.length + 1 : Nat) : Int) := by omega
 have a3 : (st.length : Int) ≤ ((st.length + 1 : Nat) : Int) := by omega
 simp only [H21s]
 generalize it (c :: st).reverse ++ j = S at *
 have c48 := f48 (lo := lo) (h := h ++ [.cells S, .cells (row t)]) (by simp; omega) t.k
 simp only [row] at hgr c48
 by_cases he : c = t.k
 ·have qe : (c == t.k) = true := by simp [he]
  rw [if_pos he]
  simp only [N29s, row, go_sem, l29x0, b29, Tryz.f29, hlo, l1, l2, q, hgr, hw, qc, c48, hkt, hSk, hql, w1, a1, a2, a3, qe, Nat.mul_one, List.length_map]
  all_goals rfl
 ·have qe : (c == t.k) = false := by simp [he]
  rw [if_neg he]
  simp only [N29s, row, go_sem, l29x0, b29, Tryz.f29, hlo, l1, l2, q, hgr, hw, qc, c48, hkt, hSk, hql, w1, a1, a2, a3, qe, Nat.mul_one, List.length_map]
  all_goals rfl
abbrev X29s (O : V) (l : List Tk4) : Env := [(3, O), (8, .list .no (l.map row)), (9, .v (.int .i64 l.length)), (10, .v (.int .i64 l.length)), (11, .v (.bool false))]
inductive Fin29s (h : Heap) (l : List Tk4) (o : List Int) (r : Option (Ex × St)) : Prop
 | none (hb : o = []) (hr : r = some (.exit 0, X29s (.list .yes []) l, h))
 | some (S : List V) (hr : r = some (.exit 0, X29s (.stk h.length o.length 1) l, H21s h S))
theorem shut2_cons {o : List Int} {t : Tk4} {l : List Tk4} : shut2 o (t :: l) = if closer t.k ≠ 0 then shut2 (closer t.k :: o) l else if o.head? = some t.k then shut2 o.tail l else shut2 o l := rfl
theorem loop29b {l : List Tk4} (hlo : lo ≤ h.length) (hl : l.length ≤ 1000000000) : ∀ (m i : Nat) (st : List Int) (j : List V), m = l.length - i → i ≤ l.length → st.length ≤ i → Jnk j →
  Fin29s h l (shut2 st (l.drop i)) (loopW (evCode ⟨Tryz.prog, E, lo, h.length, h29⟩ loopW l29x0) (N29s (.stk h.length st.length 1) l i, H21s h (it st.reverse ++ j)))
 | 0, i, st, j, hm, hi, hs, hj => by
  obtain rfl : i = l.length := by omega
  have hd : decide ((l.length : Int) < (l.length : Int)) = false := by simp
  refine .some (it st.reverse ++ j) ?_
  rw [List.drop_length, shut2, loop_eq]
  simp only [N29s, H21s, go_sem, l29x0, b29, Tryz.f29, hlo, hd]
 | m + 1, i, st, j, hm, hi, hs, hj => by
  have hlt : i < l.length := by omega
  have hg := List.getElem?_eq_getElem hlt
  rw [loop_eq, List.drop_eq_getElem_cons hlt, shut2_cons]
  by_cases hc : closer (l[i]).k = 0
  ·rw [if_neg (by simpa using hc)]
   cases st with
   | nil =>
    rw [if_neg (by simp)]
    have := skip29b hlo hg hl (jnk_app (jnk_it ([] : List Int).reverse) hj) hc
    rw [List.length_nil, this, loop_n]
    exact loop29b hlo hl m (i + 1) [] j (by omega) (by omega) (by simp) hj
   | cons c st =>
    rw [List.length_cons] at hs
    rw [List.length_cons, top29 hlo hg hl (by omega) hj hc, loop_n]
    by_cases he : c = (l[i]).k
    ·rw [if_pos (by rw [he]; rfl), if_pos he, List.tail_cons]
     have hj2 : Jnk (it [c] ++ j) := jnk_app (jnk_it [c]) hj
     have := loop29b hlo hl m (i + 1) st (it [c] ++ j) (by omega) (by omega) (by omega) hj2
     rw [← List.append_assoc, ← it_app] at this
     rw [List.reverse_cons]
     exact this
    ·rw [if_neg (by simpa using he), if_neg he]
     exact loop29b hlo hl m (i + 1) (c :: st) j (by omega) (by omega) (by rw [List.length_cons]; omega) hj
  ·rw [if_pos hc, push29b hlo hg hl (by omega) hj hc, loop_n]
   have := loop29b hlo hl m (i + 1) (closer (l[i]).k :: st) [] (by omega) (by omega) (by rw [List.length_cons]; omega) jnk_nil
   rw [List.append_nil, List.length_cons] at this
   exact this
theorem loop29a {l : List Tk4} (hlo : lo ≤ h.length) (hl : l.length ≤ 1000000000) : ∀ (m i : Nat), m = l.length - i → i ≤ l.length →
  Fin29s h l (shut2 [] (l.drop i)) (loopW (evCode ⟨Tryz.prog, E, lo, h.length, h29⟩ loopW l29x0) (N29s (.list .yes []) l i, h))
 | 0, i, hm, hi => by
  obtain rfl : i = l.length := by omega
  have hd : decide ((l.length : Int) < (l.length : Int)) = false := by simp
  refine .none ?_ ?_
  ·rw [List.drop_length, shut2]
  ·rw [loop_eq]
   simp only [N29s, go_sem, l29x0, b29, Tryz.f29, hlo, hd]
 | m + 1, i, hm, hi => by
  have hlt : i < l.length := by omega
  have hg := List.getElem?_eq_getElem hlt
  rw [loop_eq, List.drop_eq_getElem_cons hlt, shut2_cons]
  by_cases hc : closer (l[i]).k = 0
  ·rw [if_neg (by simpa using hc), if_neg (by simp), skip29a hlo hg hl hc, loop_n]
   exact loop29a hlo hl m (i + 1) (by omega) (by omega)
  ·rw [if_pos hc, push29a hlo hg hl hc, loop_n]
   have := loop29b (h := h) hlo hl m (i + 1) [closer (l[i]).k] [] (by omega) (by omega) (by simp) jnk_nil
   rw [List.append_nil] at this
   exact this
theorem f29 {l : List Tk4} (hlo : lo ≤ h.length) (hl : l.length ≤ 1000000000) : E lo 29 [.list .no (l.map row)] h = some (.v (.bool (shut2 [] l).isEmpty), h) := by
 have hL := loop29a (h := h) hlo hl l.length 0 (by omega) (by omega)
 rw [List.drop_zero] at hL
 generalize shut2 [] l = o at *
 have hz : (((o.length : Nat) : Int) == 0) = o.isEmpty := by cases o <;> simp <;> omega
 rw [e29 (by simp) (by rfl)]
 cases hL with
 | none hb hr =>
  simp only [N29s, l29x0, b29, Tryz.f29, loopAt, loops, bodyOf, go_sem] at hr
  rw [hb]
  simp only [go_sem, b29, Tryz.f29, hlo, hr, List.length_map, List.length_nil]
  all_goals rfl
 | some S hr =>
  simp only [N29s, H21s, l29x0, b29, Tryz.f29, loopAt, loops, bodyOf, go_sem] at hr
  simp only [go_sem, b29, Tryz.f29, hlo, hr, hz, List.length_map]
  all_goals rfl
end Go.Lift.P8
end

section
namespace Go.Lift.Rul
end Go.Lift.Rul
namespace Go.Proofs
end Go.Proofs
open Go.Proofs
namespace Go.Lift.P8
open Rul
variable [MX]
set_option maxRecDepth 20000
set_option maxHeartbeats 400000
variable {lo : Nat} {h : Heap}
theorem lim48 {n : Nat} (h : n ≤ 1000000000) : (n + 1) * 48 ≤ 140737488355328 := by omega
theorem lim32 {n : Nat} (h : n ≤ 1000000000) : (n + 1 + 1) * 32 ≤ 140737488355328 := by omega
theorem limA {n : Nat} (h : n ≤ 1000000000) : n ≤ 9223372036854775806 := by omega
theorem limB {n : Nat} (h : n ≤ 1000000000) : n + 1 + 1 ≤ 9223372036854775807 := by omega
def plC : List (List CV × Int) → List V
 | [] => []
 | p :: r => .list .no (rowsC p.1) :: .v (.int .i64 p.2) :: plC r
theorem plC_len : ∀ l, (plC l).length = l.length * 2
 | [] => rfl
 | p :: r => by simp [plC, plC_len r]; omega
theorem plC_app : ∀ l m, plC (l ++ m) = plC l ++ plC m
 | [], m => rfl
 | p :: r, m => by simp [plC, plC_app r m]
theorem plC_ok (n : Nat) : ∀ l, (plC l).all (okv n) = true
 | [] => rfl
 | p :: r => by simp only [plC, List.all_cons, plC_ok n r]; rfl
theorem plC_stk (n : Nat) : ∀ l, (plC l).all (stkC n) = true
 | [] => rfl
 | p :: r => by simp only [plC, List.all_cons, plC_stk n r]; rfl
theorem plC_at0 (f : List (List CV × Int)) (p : List CV × Int) (r : List (List CV × Int)) : (plC (f ++ p :: r))[f.length * 2]? = some (.list .no (rowsC p.1)) := by
 rw [plC_app, List.getElem?_append_right (by rw [plC_len]; omega), plC_len, Nat.sub_self]
 rfl
theorem plC_at1 (f : List (List CV × Int)) (p : List CV × Int) (r : List (List CV × Int)) : (plC (f ++ p :: r))[f.length * 2 + 1]? = some (.v (.int .i64 p.2)) := by
 rw [plC_app, List.getElem?_append_right (by rw [plC_len]; omega), plC_len, Nat.add_sub_cancel_left]
 rfl
theorem plC_set (f : List (List CV × Int)) (p : List CV × Int) (r : List (List CV × Int)) (l : List CV) : (plC (f ++ p :: r)).set (f.length * 2) (.list .no (rowsC l)) = plC (f ++ (l, p.2) :: r) := by
 rw [plC_app, List.set_append, if_neg (by rw [plC_len]; omega), plC_len, Nat.sub_self, plC_app]
 rfl
theorem plC_take (f r : List (List CV × Int)) : (plC (f ++ r)).take (f.length * 2) = plC f := by
 rw [plC_app, ← plC_len, List.take_left]
abbrev N24 (h : Heap) (out : List Tk4) (n : Nat) (ex : Env) : Env := (3, .list .yes (out.map row)) :: (4, .stk h.length n 2) :: ex
def Ex24 (ex : Env) : Prop := ex = [] ∨ ∃ p c b, ex = [(6, p), (7, c), (73, b)]
theorem row_bare (out : List Tk4) (c : Int) : out.map row ++ [[V.v (Value.int IntKind.i64 c), V.v (Value.string ByteArray.empty), V.v (Value.int IntKind.i64 0), V.v (Value.int IntKind.i64 0), V.v (Value.bool false), V.v (Value.bool false)]] = (out ++ [Rul.bare c]).map row := by
 rw [List.map_append]
 rfl
theorem done24 {fs js : List (List CV × Int)} {c : Int} {Y : Heap} {out : List Tk4} {ex : Env} (hlo : lo ≤ h.length) (hn : fs.length ≤ 1000000000000000000) (ho : out.length ≤ 1000000000) (he : Ex24 ex) :
  evCode ⟨Tryz.prog, E, lo, h.length, h27⟩ loopW l27x0 (N24 h out (fs.length + 1) ex, h ++ .cells (plC (fs ++ ([], c) :: js)) :: Y) =
   some (.normal, N24 h (out ++ (if 0 < c then [Rul.bare c] else [])) fs.length [], h ++ [.cells (plC (fs ++ ([], c) :: js))]) := by
 have hgr := plC_at0 fs ([], c) js
 have hgc := plC_at1 fs ([], c) js
 have hok := plC_ok (h.length + 1) (fs ++ ([], c) :: js)
 have hlt : h.length < h.length + 1 := by omega
 have hle : fs.length ≤ fs.length + 1 := by omega
 generalize plC (fs ++ ([], c) :: js) = C at *
 rw [rowsC_nil] at hgr
 have q : decide ((0 : Int) < ((fs.length + 1 : Nat) : Int)) = true := by rw [decide_eq_true_iff]; omega
 have w1 : IntKind.i64.wrap (((fs.length + 1 : Nat) : Int) - 1) = (fs.length : Int) := by rw [wrap_i64 (by omega) (by omega)]; omega
 have a1 : (0 : Int) ≤ (fs.length : Int) ∧ (fs.length : Int) < ((fs.length + 1 : Nat) : Int) := by omega
 have ra := row_all out
 have o1 : (out.length + 1) * 48 ≤ 140737488355328 := lim48 ho
 have o2 : out.length ≤ 9223372036854775806 := limA ho
 have q3 : (((0 : Nat) : Int) == 0) = true := rfl
 by_cases hc : 0 < c
 ·have qc : decide (0 < c) = true := by simpa using hc
  rw [if_pos hc]
  rcases he with rfl | ⟨x, y, b, rfl⟩
  ·simp only [go_sem, l27x0, b27, Tryz.f27, hlo, hlt, hle, q, q3, w1, a1, hgr, hgc, hok, ra, o1, o2, qc, row_bare, List.length_map]
   all_goals rfl
  ·simp only [go_sem, l27x0, b27, Tryz.f27, hlo, hlt, hle, q, q3, w1, a1, hgr, hgc, hok, ra, o1, o2, qc, row_bare, List.length_map]
   all_goals rfl
 ·have qc : decide (0 < c) = false := by simpa using hc
  rw [if_neg hc, List.append_nil]
  rcases he with rfl | ⟨x, y, b, rfl⟩
  ·simp only [go_sem, l27x0, b27, Tryz.f27, hlo, hlt, hle, q, q3, w1, a1, hgr, hgc, hok, qc, List.length_map]
   all_goals rfl
  ·simp only [go_sem, l27x0, b27, Tryz.f27, hlo, hlt, hle, q, q3, w1, a1, hgr, hgc, hok, qc, List.length_map]
   all_goals rfl
theorem row_put (out : List Tk4) (t : Tk4) : out.map row ++ [[V.v (Value.int IntKind.i64 t.k), V.v (Value.string (Rul.bs t.b)), V.v (Value.int IntKind.i64 t.n), V.v (Value.int IntKind.i64 t.d), V.v (Value.bool t.w), V.v (Value.bool t.i)]] = (out ++ [t]).map row := by
 rw [List.map_append]
 rfl
theorem val24 {fs js : List (List CV × Int)} {l ks : List CV} {t : Tk4} {c : Int} {Y : Heap} {out : List Tk4} {ex : Env} (hlo : lo ≤ h.length) (hn : fs.length ≤ 1000000000) (ho : out.length ≤ 1000000000) (he : Ex24 ex) :
  ∃ ex' Y', Ex24 ex' ∧ evCode ⟨Tryz.prog, E, lo, h.length, h27⟩ loopW l27x0 (N24 h out (fs.length + 1) ex, h ++ .cells (plC (fs ++ (.mk t ks :: l, c) :: js)) :: Y) =
   if (decide (closer t.k = 0) && ks.isEmpty) = true then some (.normal, N24 h (out ++ [t]) (fs.length + 1) ex', h ++ .cells (plC (fs ++ (l, c) :: js)) :: Y')
   else some (.normal, N24 h (out ++ [t]) (fs.length + 1 + 1) ex', h ++ .cells (plC (fs ++ [(l, c), (ks, closer t.k)])) :: Y') := by
 have hgr := plC_at0 fs (.mk t ks :: l, c) js
 have hgc := plC_at1 fs (.mk t ks :: l, c) js
 have hok := plC_ok (h.length + 1) (fs ++ (.mk t ks :: l, c) :: js)
 have hst := plC_set fs (.mk t ks :: l, c) js l
 have htk : (plC (fs ++ (l, c) :: js)).take ((fs.length + 1) * 2) = plC (fs ++ [(l, c)]) := by
  have e : fs ++ (l, c) :: js = (fs ++ [(l, c)]) ++ js := by simp
  rw [e, ← plC_take (fs ++ [(l, c)]) js, List.length_append]
  rfl
 have hC : fs.length * 2 + 1 ≤ (plC (fs ++ (.mk t ks :: l, c) :: js)).length := by rw [plC_len]; simp; omega
 have hsk := plC_stk h.length (fs ++ [(l, c)])
 have hln : (fs.length + 1) * 2 ≤ (plC (fs ++ (l, c) :: js)).length := by rw [plC_len]; simp; omega
 have hpp : plC (fs ++ [(l, c)]) ++ [.list .no (rowsC ks), .v (.int .i64 (closer t.k))] = plC (fs ++ [(l, c), (ks, closer t.k)]) := by
  rw [plC_app, plC_app, List.append_assoc]
  rfl
 have hlt : h.length < h.length + 1 := by omega
 have hle : fs.length ≤ fs.length + 1 := by omega
 generalize plC (fs ++ (.mk t ks :: l, c) :: js) = C at *
 generalize plC (fs ++ (l, c) :: js) = D at *
 generalize plC (fs ++ [(l, c)]) = F at *
 simp only [rowsC_cons, rowV_eq, rowsC_nil] at hgr
 have q : decide ((0 : Int) < ((fs.length + 1 : Nat) : Int)) = true := by rw [decide_eq_true_iff]; omega
 have w1 : IntKind.i64.wrap (((fs.length + 1 : Nat) : Int) - 1) = (fs.length : Int) := by rw [wrap_i64 (by omega) (by omega)]; omega
 have a1 : (0 : Int) ≤ (fs.length : Int) ∧ (fs.length : Int) < ((fs.length + 1 : Nat) : Int) := by omega
 have ra := row_all out
 have q3 : (((l.length + 1 : Nat) : Int) == 0) = false := by rw [beq_eq_false_iff_ne]; omega
 have c46 := fun lo hlo => f52 (lo := lo) (h := h ++ [.cells D, .cells (rowV (.mk t ks))]) hlo t.k
 rw [rowV_eq] at c46
 have c46a := c46 lo (by simp; omega); have c46b := c46 h.length (by simp); have c46c := c46 (h.length + 1) (by simp); have c46d := c46 (h.length + 2) (by simp)
 clear c46
 have hcl := closer_nn t.k
 have hlo1 : lo ≤ h.length + 1 := by omega
 have rl := rowsC_all l
 have tl : (rowsC l).take l.length = rowsC l := by rw [← rowsC_len l, List.take_length]
 have hne : 0 < closer t.k → ¬ (decide (closer t.k = 0) && ks.isEmpty) = true := fun hc => by rw [show decide (closer t.k = 0) = false by rw [decide_eq_false_iff_not]; omega, Bool.false_and]; simp
 have o1 : (out.length + 1) * 48 ≤ 140737488355328 := lim48 ho
 have o2 : out.length ≤ 9223372036854775806 := limA ho
 have o3 : (fs.length + 1 + 1) * 32 ≤ 140737488355328 := lim32 hn
 have o4 : fs.length + 1 + 1 ≤ 9223372036854775807 := limB hn
 by_cases hc : 0 < closer t.k
 ·have qc : decide (0 < closer t.k) = true := by simpa using hc
  refine ⟨[], [.cells (rowV (.mk t ks))], .inl rfl, ?_⟩
  rw [if_neg (hne hc), rowV_eq]
  rcases he with rfl | ⟨x, y, b, rfl⟩
  ·simp only [go_sem, l27x0, b27, Tryz.f27, hlo, hlo1, rl, tl, Nat.le_refl, hC, hlt, hle, q, q3, w1, a1, hgr, hgc, hok, ra, o1, o2, o3, o4, hst, htk, hsk, hln, hpp, qc, c46a, c46b, c46c, c46d, row_put, List.length_map, rowsC_len, List.length_cons]
   all_goals rfl
  ·simp only [go_sem, l27x0, b27, Tryz.f27, hlo, hlo1, rl, tl, Nat.le_refl, hC, hlt, hle, q, q3, w1, a1, hgr, hgc, hok, ra, o1, o2, o3, o4, hst, htk, hsk, hln, hpp, qc, c46a, c46b, c46c, c46d, row_put, List.length_map, rowsC_len, List.length_cons]
   all_goals rfl
 ·have qc : decide (0 < closer t.k) = false := by simpa using hc
  have q0 : decide (closer t.k = 0) = true := by rw [decide_eq_true_iff]; omega
  rw [q0, Bool.true_and]
  cases ks with
  | nil =>
   refine ⟨[(6, .ptr (h.length + 1) 0), (7, .v (.int .i64 (closer t.k))), (73, .v (.bool false))], [.cells (rowV (.mk t []))], .inr ⟨_, _, _, rfl⟩, ?_⟩
   have q4 : decide ((0 : Int) < ((0 : Nat) : Int)) = false := rfl
   rw [if_pos (show ([] : List CV).isEmpty = true from rfl), rowV_eq]
   rcases he with rfl | ⟨x, y, b, rfl⟩
   ·simp only [go_sem, l27x0, b27, Tryz.f27, hlo, hlo1, rl, tl, Nat.le_refl, hC, hlt, hle, q, q3, q4, w1, a1, hgr, hgc, hok, ra, o1, o2, o3, o4, hst, htk, hsk, hln, hpp, qc, c46a, c46b, c46c, c46d, row_put, List.length_map, rowsC_len, List.length_cons, List.length_nil]
    all_goals rfl
   ·simp only [go_sem, l27x0, b27, Tryz.f27, hlo, hlo1, rl, tl, Nat.le_refl, hC, hlt, hle, q, q3, q4, w1, a1, hgr, hgc, hok, ra, o1, o2, o3, o4, hst, htk, hsk, hln, hpp, qc, c46a, c46b, c46c, c46d, row_put, List.length_map, rowsC_len, List.length_cons, List.length_nil]
    all_goals rfl
  | cons z ks =>
   refine ⟨[], [.cells (rowV (.mk t (z :: ks)))], .inl rfl, ?_⟩
   have q4 : decide ((0 : Int) < ((ks.length + 1 : Nat) : Int)) = true := by rw [decide_eq_true_iff]; omega
   rw [if_neg (show ¬ (z :: ks).isEmpty = true by simp), rowV_eq]
   rcases he with rfl | ⟨x, y, b, rfl⟩
   ·simp only [go_sem, l27x0, b27, Tryz.f27, hlo, hlo1, rl, tl, Nat.le_refl, hC, hlt, hle, q, q3, q4, w1, a1, hgr, hgc, hok, ra, o1, o2, o3, o4, hst, htk, hsk, hln, hpp, qc, c46a, c46b, c46c, c46d, row_put, List.length_map, rowsC_len, List.length_cons]
    all_goals rfl
   ·simp only [go_sem, l27x0, b27, Tryz.f27, hlo, hlo1, rl, tl, Nat.le_refl, hC, hlt, hle, q, q3, q4, w1, a1, hgr, hgc, hok, ra, o1, o2, o3, o4, hst, htk, hsk, hln, hpp, qc, c46a, c46b, c46c, c46d, row_put, List.length_map, rowsC_len, List.length_cons]
    all_goals rfl
def clT (c : Int) : List Tk4 := if 0 < c then [Rul.bare c] else []
theorem flatL_cons (t : Tk4) (ks r : List CV) : flatL (.mk t ks :: r) = t :: (flatL ks ++ (clT (closer t.k) ++ flatL r)) := by
 rw [flatL, flatV]
 unfold clT
 have hcl := closer_nn t.k
 by_cases hc : closer t.k = 0
 ·rw [if_pos hc, if_neg (by omega)]; simp
 ·rw [if_neg hc, if_pos (by omega)]; simp
theorem flatL_nil : flatL [] = [] := by rw [flatL]
theorem place24 (hlo : lo ≤ h.length) : ∀ (n : Nat) (l : List CV), nodesL l ≤ n → ∀ (fs js : List (List CV × Int)) (c : Int) (Y : Heap) (out : List Tk4) (ex : Env), Ex24 ex → fs.length + nodesL l ≤ 1000000000 → out.length + 2 * nodesL l ≤ 1000000000 →
  ∃ js', loopW (evCode ⟨Tryz.prog, E, lo, h.length, h27⟩ loopW l27x0) (N24 h out (fs.length + 1) ex, h ++ .cells (plC (fs ++ (l, c) :: js)) :: Y) =
   loopW (evCode ⟨Tryz.prog, E, lo, h.length, h27⟩ loopW l27x0) (N24 h (out ++ (flatL l ++ clT c)) fs.length [], h ++ [.cells (plC (fs ++ js'))]) := by
 intro n
 induction n with
 | zero =>
  intro l hl fs js c Y out ex he hf ho
  have : l = [] := by
   have := nodesL_len l
   exact List.eq_nil_of_length_eq_zero (by omega)
  subst this
  refine ⟨([], c) :: js, ?_⟩
  rw [loop_eq, done24 hlo (by omega) (by omega) he, loop_n, flatL_nil, List.nil_append]
  rfl
 | succ n ih =>
  intro l hl fs js c Y out ex he hf ho
  cases l with
  | nil =>
   refine ⟨([], c) :: js, ?_⟩
   rw [loop_eq, done24 hlo (by omega) (by omega) he, loop_n, flatL_nil, List.nil_append]
   rfl
  | cons v r =>
   obtain ⟨t, ks⟩ := v
   rw [nodesL_cons, nodesV] at hl hf ho
   obtain ⟨ex', Y', he', hr⟩ := val24 (js := js) (l := r) (ks := ks) (t := t) (c := c) (Y := Y) (out := out) hlo (by omega : fs.length ≤ 1000000000) (by omega) he
   rw [flatL_cons]
   by_cases hq : (decide (closer t.k = 0) && ks.isEmpty) = true
   ·rw [if_pos hq] at hr
    simp only [Bool.and_eq_true, decide_eq_true_eq, List.isEmpty_iff] at hq
    obtain ⟨hq, rfl⟩ := hq
    obtain ⟨js', h1⟩ := ih r (by omega) fs js c Y' (out ++ [t]) ex' he' (by omega) (by simp only [List.length_append, List.length_cons, List.length_nil]; omega)
    refine ⟨js', ?_⟩
    rw [loop_eq, hr, loop_n, h1, hq, flatL_nil]
    have : clT 0 = [] := rfl
    rw [this]
    simp only [List.append_assoc, List.nil_append, List.cons_append]
   ·rw [if_neg hq] at hr
    have e1 : fs ++ [(r, c), (ks, closer t.k)] = (fs ++ [(r, c)]) ++ (ks, closer t.k) :: [] := by simp
    have e2 : fs.length + 1 = (fs ++ [(r, c)]).length := by simp
    obtain ⟨js1, h1⟩ := ih ks (by omega) (fs ++ [(r, c)]) [] (closer t.k) Y' (out ++ [t]) ex' he' (by simp only [List.length_append, List.length_cons, List.length_nil]; omega) (by simp only [List.length_append, List.length_cons, List.length_nil]; omega)
    have hfl := flatL_len ks
    have hcl : (clT (closer t.k)).length ≤ 1 := by unfold clT; split <;> simp
    obtain ⟨js2, h2⟩ := ih r (by omega) fs js1 c [] (out ++ [t] ++ (flatL ks ++ clT (closer t.k))) [] (.inl rfl) (by omega) (by simp only [List.length_append, List.length_cons, List.length_nil]; omega)
    refine ⟨js2, ?_⟩
    rw [loop_eq, hr, loop_n, e1]
    rw [← e2] at h1
    rw [h1]
    have e3 : (fs ++ [(r, c)]) ++ js1 = fs ++ (r, c) :: js1 := by simp
    rw [e3, h2]
    simp only [List.append_assoc, List.nil_append, List.cons_append]
theorem stop27 {js : List (List CV × Int)} {out : List Tk4} (hlo : lo ≤ h.length) : evCode ⟨Tryz.prog, E, lo, h.length, h27⟩ loopW l27x0 (N24 h out 0 [], h ++ [.cells (plC js)]) =
   some (.exit 0, N24 h out 0 [(13, .v (.bool false))], h ++ [.cells (plC js)]) := by
 have q : decide ((0 : Int) < ((0 : Nat) : Int)) = false := rfl
 have hok := plC_ok (h.length + 1) js
 have hlt : h.length < h.length + 1 := by omega
 simp only [go_sem, l27x0, b27, Tryz.f27, hlo, q, hok, hlt]
 all_goals rfl
theorem f27 {l : List CV} (hlo : lo ≤ h.length) (hl : nodesL l ≤ 100000000) : E lo 27 [.list .no (rowsC l)] h = some (.list .no ((flatL l).map row), h) := by
 obtain ⟨js, hL⟩ := place24 hlo (nodesL l) l (Nat.le_refl _) [] [] 0 [] [] [] (.inl rfl) (by simp; omega) (by simp; omega)
 rw [loop_eq (s := (N24 h _ ([] : List (List CV × Int)).length _, _)), List.length_nil, List.nil_append js, stop27 hlo, loop_e] at hL
 have e : clT 0 = [] := rfl
 rw [e, List.append_nil, List.nil_append] at hL
 have e2 : plC [(l, 0)] = [.list .no (rowsC l), .v (.int .i64 0)] := rfl
 rw [e2] at hL
 rw [e27 (by simp) (by rfl)]
 simp only [l27x0, b27, Tryz.f27, loopAt, loops, bodyOf, go_sem, N24, List.map_nil, List.cons_append, List.nil_append, Nat.zero_add] at hL
 have nb : ((1 : Nat) != 0) = true := rfl
 have rl := rowsC_all l
 simp only [go_sem, b27, Tryz.f27, hlo, hL, nb, rl]
 all_goals rfl
end Go.Lift.P8
end

section
namespace Go.Lift.Rul
end Go.Lift.Rul
namespace Go.Proofs
end Go.Proofs
open Go.Proofs
namespace Go.Lift.P8
open Rul (vals flatL shut2 plainT)
variable [MX]
set_option maxRecDepth 20000
set_option maxHeartbeats 4000000
theorem flat37 : flatOf Tryz.prog 37 = some [1, 2, 1, 1, 0, 0] := by kernel_rfl
theorem eq_self_row (t : Rul.Tk4) : eqCells [1, 2, 1, 1, 0, 0] (Rul.row t) (Rul.row t) = some true := by
 simp [eqCells, Rul.row, eqS]
theorem loop30b {lo : Nat} {h : Heap} (ts : List Rul.Tk4) (hl : ts.length ≤ 1000000000000) : ∀ (m k : Nat), ts.length - k ≤ m → k ≤ ts.length →
  loopW (evCode ⟨Tryz.prog, E, lo, h.length, h30⟩ loopW l30x0) ([(0, .list .no (ts.map Rul.row)), (1, .list .no (ts.map Rul.row)), (12, .v (.int .i64 ts.length)), (13, .v (.int .i64 k))], h) =
   some (.exit 0, [(0, .list .no (ts.map Rul.row)), (1, .list .no (ts.map Rul.row)), (12, .v (.int .i64 ts.length)), (13, .v (.int .i64 ts.length)), (14, .v (.bool false))], h) := by
 intro m
 induction m with
 | zero =>
  intro k h1 h2
  obtain rfl : k = ts.length := by omega
  have hlt : decide ((ts.length : Int) < (ts.length : Int)) = false := by simp
  rw [loop_eq]
  simp only [go_sem, l30x0, b30, Tryz.f30, hlt]
 | succ m ih =>
  intro k h1 h2
  rcases Nat.lt_or_ge k ts.length with hk | hk
  rotate_left
  ·exact ih k (by omega) h2
  have hlt : decide ((k : Int) < (ts.length : Int)) = true := by simp; omega
  have hw : IntKind.i64.wrap ((k : Int) + 1) = ((k + 1 : Nat) : Int) := wrap_succ (by omega)
  have hg : (ts.map Rul.row)[k]? = some (Rul.row ts[k]) := by simp [List.getElem?_eq_getElem hk]
  have he := eq_self_row ts[k]
  generalize ts[k] = T at *
  have e1 : evCode ⟨Tryz.prog, E, lo, h.length, h30⟩ loopW l30x0 ([(0, .list .no (ts.map Rul.row)), (1, .list .no (ts.map Rul.row)), (12, .v (.int .i64 ts.length)), (13, .v (.int .i64 k))], h) =
    some (.normal, [(0, .list .no (ts.map Rul.row)), (1, .list .no (ts.map Rul.row)), (12, .v (.int .i64 ts.length)), (13, .v (.int .i64 (k + 1 : Nat)))], h) := by
   simp only [Rul.row] at hg he
   simp only [go_sem, l30x0, b30, Tryz.f30, hlt, hg, flat37, he, hw]
   all_goals rfl
  rw [loop_eq, e1, loop_n]
  exact ih (k + 1) (by omega) (by omega)
theorem f30b {lo : Nat} {h : Heap} (ts : List Rul.Tk4) (hl : ts.length ≤ 1000000000000) : E lo 30 [.list .no (ts.map Rul.row), .list .no (ts.map Rul.row)] h = some (.v (.bool true), h) := by
 have hL := loop30b (lo := lo) (h := h) ts hl ts.length 0 (by omega) (by omega)
 have hne : ((ts.length : Int) != (ts.length : Int)) = false := by simp
 rw [e30 (by simp) (by rfl)]
 simp only [l30x0, b30, Tryz.f30, loopAt, loops, bodyOf, go_sem] at hL
 simp only [go_sem, b30, Tryz.f30, List.length_map, hne, hL]
abbrev N10 (out : List Rul.Tk4) (l : List Rul.Tk4) (i : Nat) : Env := [(3, .list .yes (out.map Rul.row)), (10, .list .no (l.map Rul.row)), (11, .v (.int .i64 l.length)), (12, .v (.int .i64 i))]
theorem plain_cases (t : Rul.Tk4) : ((t.k == 24) = true ∧ plainT t = Rul.bare t.k) ∨ ((t.k == 24) = false ∧ (t.k == 22) = true ∧ plainT t = Rul.bare t.k) ∨ ((t.k == 24) = false ∧ (t.k == 22) = false ∧ (t.k == 20) = true ∧ plainT t = Rul.bare t.k) ∨ ((t.k == 24) = false ∧ (t.k == 22) = false ∧ (t.k == 20) = false ∧ plainT t = t) := by
 unfold plainT
 simp only [beq_iff_eq, beq_eq_false_iff_ne]
 by_cases h1 : t.k = 24
 ·left; exact ⟨h1, if_pos (by omega)⟩
 ·by_cases h2 : t.k = 22
  ·right; left; exact ⟨h1, h2, if_pos (by omega)⟩
  ·by_cases h3 : t.k = 20
   ·right; right; left; exact ⟨h1, h2, h3, if_pos (by omega)⟩
   ·right; right; right; exact ⟨h1, h2, h3, if_neg (by omega)⟩
theorem round10 {out l : List Rul.Tk4} {t : Rul.Tk4} {i : Nat} (hg : l[i]? = some t) (hl : l.length ≤ 1000000000) (ho : out.length ≤ 1000000000) :
  evCode ⟨Tryz.prog, E, 0, 0, h10⟩ loopW l10x0 (N10 out l i, []) = some (.normal, N10 (out ++ [plainT t]) l (i + 1), []) := by
 have hlt : i < l.length := (List.getElem?_eq_some_iff.1 hg).1
 have q : decide ((i : Int) < (l.length : Int)) = true := by simpa using hlt
 have hgr : (l.map Rul.row)[i]? = some (Rul.row t) := by rw [List.getElem?_map, hg]; rfl
 have hw : IntKind.i64.wrap ((i : Int) + 1) = ((i + 1 : Nat) : Int) := wrap_succ (by omega)
 have all := row_all6b out
 have ibr := ibr_rowb out
 have o1 : (out.length + 1) * 48 ≤ 140737488355328 := by omega
 have o2 : out.length + 1 ≤ 9223372036854775807 := by omega
 simp only [N10, List.map_append, List.map_singleton]
 simp only [Rul.row] at hgr
 rcases plain_cases t with ⟨k1, e⟩ | ⟨k1, k2, e⟩ | ⟨k1, k2, k3, e⟩ | ⟨k1, k2, k3, e⟩
 ·rw [e, bare_row]
  simp only [go_sem, l10x0, b10, Tryz.f10, q, hgr, hw, all, ibr, o1, o2, k1, List.length_map, List.length_nil]
  all_goals rfl
 ·rw [e, bare_row]
  simp only [go_sem, l10x0, b10, Tryz.f10, q, hgr, hw, all, ibr, o1, o2, k1, k2, List.length_map, List.length_nil]
  all_goals rfl
 ·rw [e, bare_row]
  simp only [go_sem, l10x0, b10, Tryz.f10, q, hgr, hw, all, ibr, o1, o2, k1, k2, k3, List.length_map, List.length_nil]
  all_goals rfl
 ·rw [e]
  simp only [Rul.row, go_sem, l10x0, b10, Tryz.f10, q, hgr, hw, all, ibr, o1, o2, k1, k2, k3, List.length_map, List.length_nil]
  all_goals rfl
theorem loop10 {l : List Rul.Tk4} (hl : l.length ≤ 100000000) : ∀ (m i : Nat) (out : List Rul.Tk4), m = l.length - i → i ≤ l.length → out.length ≤ i →
  loopW (evCode ⟨Tryz.prog, E, 0, 0, h10⟩ loopW l10x0) (N10 out l i, []) = some (.exit 0, N10 (out ++ (l.drop i).map plainT) l l.length ++ [(13, .v (.bool false))], [])
 | 0, i, out, hm, hi, ho => by
  obtain rfl : i = l.length := by omega
  have hd : decide ((l.length : Int) < (l.length : Int)) = false := by simp
  rw [loop_eq, List.drop_length, List.map_nil, List.append_nil]
  simp only [N10, go_sem, l10x0, b10, Tryz.f10, hd]
  all_goals rfl
 | m + 1, i, out, hm, hi, ho => by
  have hlt : i < l.length := by omega
  have hg := List.getElem?_eq_getElem hlt
  rw [loop_eq, round10 hg (by omega) (by omega), loop_n, loop10 hl m (i + 1) _ (by omega) (by omega) (by rw [List.length_append, List.length_singleton]; omega), List.drop_eq_getElem_cons hlt, List.map_cons, List.append_assoc]
  rfl
abbrev M10 (p f : List (List V)) (l : List Rul.Tk4) (i : Nat) : Env := [(3, .list .yes p), (7, .list .no f), (59, .list .no (l.map Rul.row)), (60, .v (.int .i64 l.length)), (61, .v (.int .i64 i))]
theorem round10b {p f : List (List V)} {l : List Rul.Tk4} {t : Rul.Tk4} {i : Nat} (hg : l[i]? = some t) (hl : l.length ≤ 1000000000) (hc : Rul.isCl t.k) :
  evCode ⟨Tryz.prog, E, 0, 0, h10⟩ loopW l10x1 (M10 p f l i, []) = some (.normal, M10 p f l (i + 1), []) := by
 have hlt : i < l.length := (List.getElem?_eq_some_iff.1 hg).1
 have q : decide ((i : Int) < (l.length : Int)) = true := by simpa using hlt
 have hgr : (l.map Rul.row)[i]? = some (Rul.row t) := by rw [List.getElem?_map, hg]; rfl
 have hw : IntKind.i64.wrap ((i : Int) + 1) = ((i + 1 : Nat) : Int) := wrap_succ (by omega)
 simp only [Rul.row] at hgr
 rcases hc with hc | hc | hc
 ·rw [hc] at hgr
  simp only [M10, Rul.row, go_sem, l10x1, b10, Tryz.f10, q, hgr, hw, Int.reduceBNe, List.length_map, List.length_nil]
  all_goals rfl
 ·rw [hc] at hgr
  simp only [M10, Rul.row, go_sem, l10x1, b10, Tryz.f10, q, hgr, hw, Int.reduceBNe, List.length_map, List.length_nil]
  all_goals rfl
 ·rw [hc] at hgr
  simp only [M10, Rul.row, go_sem, l10x1, b10, Tryz.f10, q, hgr, hw, Int.reduceBNe, List.length_map, List.length_nil]
  all_goals rfl
theorem loop10b {p f : List (List V)} {l : List Rul.Tk4} (hl : l.length ≤ 1000000000) (hc : ∀ t ∈ l, Rul.isCl t.k) : ∀ (m i : Nat), m = l.length - i → i ≤ l.length →
  loopW (evCode ⟨Tryz.prog, E, 0, 0, h10⟩ loopW l10x1) (M10 p f l i, []) = some (.exit 2, M10 p f l l.length ++ [(62, .v (.bool false))], [])
 | 0, i, hm, hi => by
  obtain rfl : i = l.length := by omega
  have hd : decide ((l.length : Int) < (l.length : Int)) = false := by simp
  rw [loop_eq]
  simp only [M10, go_sem, l10x1, b10, Tryz.f10, hd]
  all_goals rfl
 | m + 1, i, hm, hi => by
  have hlt : i < l.length := by omega
  rw [loop_eq, round10b (List.getElem?_eq_getElem hlt) hl (hc _ (List.getElem_mem hlt)), loop_n]
  exact loop10b hl hc m (i + 1) (by omega) (by omega)
theorem plain_idem (t : Rul.Tk4) : plainT (plainT t) = plainT t := by
 unfold plainT
 split
 ·rename_i h
  exact if_pos h
 ·rename_i h
  rfl
theorem btT_plain {t : Rul.Tk4} (h : BtT t) : BtT (plainT t) := by
 unfold plainT
 split
 ·exact btT_bare _
 ·exact h
theorem f10 {l : List Rul.Tk4} (hl : l.length ≤ 10000000) (hB : ∀ t ∈ l, BtT t) : E 0 10 [.list .no (l.map Rul.row)] [] = some (.v (.bool true), []) := by
 have c18 := f18
 have hp : ∀ t ∈ l.map plainT, plainT t = t := fun t ht => by
  obtain ⟨x, _, rfl⟩ := List.mem_map.1 ht
  exact plain_idem x
 have hBp : ∀ t ∈ l.map plainT, BtT t := fun t ht => by
  obtain ⟨x, hx, rfl⟩ := List.mem_map.1 ht
  exact btT_plain (hB x hx)
 have hL := loop10 (l := l) (by omega) l.length 0 [] (by omega) (by omega) (Nat.zero_le _)
 rw [List.nil_append, List.drop_zero] at hL
 have hpl : (l.map plainT).length ≤ 10000000 := by rw [List.length_map]; exact hl
 generalize l.map plainT = p at *
 have hn := Rul.nodes_vals p
 have hfl := Rul.flatL_len (vals p)
 have c26 := f26 (lo := 0) (h := []) (l := p) (Nat.zero_le _) (by omega)
 have c27 := f27 (lo := 0) (h := []) (l := vals p) (Nat.zero_le _) (by omega)
 have c26b := f26 (lo := 0) (h := []) (l := flatL (vals p)) (Nat.zero_le _) (by omega)
 rw [Rul.vals_flat] at c26b
 have hy := byL_all (vals p) (Rul.allL_vals hBp)
 have c28 := f28 _ (vals p) (vals p) 0 [] (Nat.le_refl _) (by omega) (by omega) hy hy (Nat.zero_le _)
 rw [eqL_refl] at c28
 have c29 := f29 (lo := 0) (h := []) (l := flatL (vals p)) (Nat.zero_le _) (by omega)
 rw [Rul.shut2_flat] at c29
 have c30 := f30b (lo := 0) (h := []) p (by omega)
 obtain ⟨m, hm, hc⟩ := Rul.flat_vals hp
 rw [hm] at c27 c26b c29 hfl
 rw [List.length_append] at hfl
 have hM := loop10b (p := p.map Rul.row) (f := p.map Rul.row ++ m.map Rul.row) (l := m) (by omega) hc m.length 0 (by omega) (by omega)
 simp only [N10, l10x0, b10, Tryz.f10, loopAt, loops, bodyOf, go_sem] at hL
 simp only [M10, l10x1, b10, Tryz.f10, loopAt, loops, bodyOf, go_sem] at hM
 rw [List.map_append] at c27 c26b c29
 have q1 : decide (((p.length + m.length : Nat) : Int) < (p.length : Int)) = false := by rw [decide_eq_false_iff_not]; omega
 have q2 : p.length ≤ p.length + m.length := by omega
 have ap := row_all6b p
 have am := row_all6b m
 have eD : List.drop p.length (List.take (p.length + m.length) (p.map Rul.row ++ m.map Rul.row)) = m.map Rul.row := by
  rw [List.take_of_length_le (by simp), List.drop_left' (by simp)]
 have eT : List.take p.length (p.map Rul.row ++ m.map Rul.row) = p.map Rul.row := List.take_left' (by simp)
 rw [e10 (by simp) (by rfl)]
 simp only [go_sem, b10, Tryz.f10, c18, c26, c27, c26b, c28, c29, c30, hL, hM, q1, q2, ap, am, eD, eT, Nat.zero_le, List.length_nil, List.length_map, List.length_append, Nat.le_refl, List.isEmpty_nil]
 all_goals rfl
end Go.Lift.P8
end
