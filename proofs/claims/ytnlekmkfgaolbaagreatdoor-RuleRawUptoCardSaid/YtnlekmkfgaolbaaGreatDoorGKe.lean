/- rule.Split, jalousieref5.Split: the pieces between commas. -/
import Derived.WalkKit
import Derived.Lib.Bytealg
import Derived.Laws.Bits64b
import Derived.Shelf.Spec.TrailingZeros
import Derived.Lib.AppendIntMem
import Derived.Shelf.Strings.BuilderRune
import Derived.Lib.LaidU8
import Derived.Lib.LaidTab
import Derived.Lib.LaidIn
import Derived.Deep.DeepHandedRow
import Derived.Deep.DeepWitnessRowRef
import Derived.Test.YtnlekmkfgaolbaaGreatDoorRows
import Derived.JoinedOf
import Derived.ProofKit
import Derived.Test.YtnlekmkfgaolbaaGreatDoorGKa
import Derived.Test.YtnlekmkfgaolbaaGreatDoorGK8Basea
import Derived.Test.YtnlekmkfgaolbaaGreatDoorGKb
import Derived.Test.YtnlekmkfgaolbaaGreatDoorGLd
import Derived.Test.YtnlekmkfgaolbaaGreatDoorGKc
import Derived.Test.YtnlekmkfgaolbaaGreatDoorGKd
import Derived.Test.YtnlekmkfgaolbaaGreatDoorGPa
set_option linter.unusedVariables false
set_option linter.unusedSimpArgs false
set_option linter.unusedSectionVars false
section
namespace Go.Lift.Rul
end Go.Lift.Rul
namespace Go.Proofs
end Go.Proofs
open Go.Proofs
namespace Go.Lift.P8
open Rul
variable [MX]
set_option maxRecDepth 20000
set_option maxHeartbeats 4000000
variable {lo : Nat} {h : Heap}
theorem nodes_part {l : List CV} {i f : Nat} : nodesL ((l.take i).drop f) ≤ nodesL l := Nat.le_trans (nodesL_suffix (List.drop_suffix ..)) (nodesL_prefix (List.take_prefix ..))
theorem nodes_part2 {l : List CV} {f : Nat} : nodesL (l.drop f) ≤ nodesL l := nodesL_suffix (List.drop_suffix ..)
abbrev N36p (l : List CV) (out : List (List CV)) (f i : Nat) : Env := [(0, .list .no (rowsC l)), (3, .list .yes (pcsC out)), (4, .v (.int .i64 f)), (7, .list .no (rowsC l)), (8, .v (.int .i64 l.length)), (9, .v (.int .i64 i))]
theorem comma36 {l : List CV} {out : List (List CV)} {v : CV} {f i : Nat} (hlo : lo ≤ h.length) (hl : nodesL l ≤ 1000000000) (hg : l[i]? = some v) (hf : f ≤ i) (ho : out.length ≤ 1000000000) (hk : v.k = 18) :
  evCode ⟨Tryz.prog, E, lo, h.length, h36⟩ loopW l36x0 (N36p l out f i, h) = some (.normal, N36p l (out ++ [trim ((l.take i).drop f)]) (i + 1) (i + 1), h) := by
 obtain ⟨t, ks⟩ := v
 have hlt : i < l.length := (List.getElem?_eq_some_iff.1 hg).1
 have hll : l.length ≤ 1000000000 := by have := nodesL_len l; omega
 have hgr : (rowsC l)[i]? = some (rowV (.mk t ks)) := by rw [rowsC_get, hg]; rfl
 have q : decide ((i : Int) < (l.length : Int)) = true := by simpa using hlt
 have hw : IntKind.i64.wrap ((i : Int) + 1) = ((i + 1 : Nat) : Int) := wrap_succ (by omega)
 have qk : (t.k == 18) = true := by rw [beq_iff_eq]; exact hk
 have l1 : lo ≤ h.length + 1 := by omega
 have hi : i ≤ l.length := by omega
 have hc := fun lo hlo => f34 (lo := lo) (h := h ++ [.cells (rowV (.mk t ks))]) (l := (l.take i).drop f) hlo (by have := nodes_part (l := l) (i := i) (f := f); omega)
 rw [rowV_eq] at *
 have ca := hc lo (by simp; omega); have cb := hc (h.length + 1) (by simp)
 clear hc
 have ed : ((rowsC l).take i).drop f = rowsC ((l.take i).drop f) := by rw [rowsC_take, rowsC_drop]
 have ra := rowsC_all ((l.take i).drop f)
 have rl := rowsC_all l
 have pa := pcs_all out
 have pl := pcs_len out
 have pi := pcs_ibr out
 have o1 : (out.length + 1) * 24 ≤ 140737488355328 := by omega
 have o2 : out.length ≤ 9223372036854775806 := by omega
 simp only [N36p]
 rw [pcs_snoc]
 generalize pcsC out = R at *
 simp only [go_sem, l36x0, b36, Tryz.f36, hlo, q, hgr, hw, qk, l1, hi, hf, ca, cb, ed, ra, rl, pa, pl, pi, o1, o2, rowsC_len]
 all_goals rfl
theorem none36 {l : List CV} {out : List (List CV)} {v : CV} {f i : Nat} (hlo : lo ≤ h.length) (hl : l.length ≤ 1000000000) (hg : l[i]? = some v) (hk : v.k ≠ 18) :
  evCode ⟨Tryz.prog, E, lo, h.length, h36⟩ loopW l36x0 (N36p l out f i, h) = some (.normal, N36p l out f (i + 1), h) := by
 obtain ⟨t, ks⟩ := v
 have hlt : i < l.length := (List.getElem?_eq_some_iff.1 hg).1
 have hgr : (rowsC l)[i]? = some (rowV (.mk t ks)) := by rw [rowsC_get, hg]; rfl
 have q : decide ((i : Int) < (l.length : Int)) = true := by simpa using hlt
 have hw : IntKind.i64.wrap ((i : Int) + 1) = ((i + 1 : Nat) : Int) := wrap_succ (by omega)
 have qk : (t.k == 18) = false := by rw [beq_eq_false_iff_ne]; exact hk
 have l1 : lo ≤ h.length + 1 := by omega
 rw [rowV_eq] at *
 simp only [N36p, go_sem, l36x0, b36, Tryz.f36, hlo, q, hgr, hw, qk, l1, rowsC_len]
 all_goals rfl
theorem loop36p {l : List CV} (hlo : lo ≤ h.length) (hl : nodesL l ≤ 1000000000) : ∀ (m i f : Nat) (out : List (List CV)), m = l.length - i → i ≤ l.length → f ≤ i → out.length ≤ i →
  ∃ (f' : Nat) (o : List (List CV)), f' ≤ l.length ∧ o.length ≤ l.length ∧ out ++ splitA ((l.take i).drop f) (l.drop i) = o ++ [trim (l.drop f')] ∧
   loopW (evCode ⟨Tryz.prog, E, lo, h.length, h36⟩ loopW l36x0) (N36p l out f i, h) = some (.exit 0, N36p l o f' l.length ++ [(10, .v (.bool false))], h)
 | 0, i, f, out, hm, hi, hf, ho => by
  obtain rfl : i = l.length := by omega
  have hd : decide ((l.length : Int) < (l.length : Int)) = false := by simp
  refine ⟨f, out, hf, ho, ?_, ?_⟩
  ·rw [List.drop_length, splitA, List.take_length]
  ·rw [loop_eq]
   simp only [N36p, go_sem, l36x0, b36, Tryz.f36, hlo, hd]
   all_goals rfl
 | m + 1, i, f, out, hm, hi, hf, ho => by
  have hlt : i < l.length := by omega
  have hll : l.length ≤ 1000000000 := by have := nodesL_len l; omega
  have hg := List.getElem?_eq_getElem hlt
  rw [List.drop_eq_getElem_cons hlt, splitA, loop_eq]
  by_cases hk : (l[i]).k = 18
  ·rw [if_pos hk, comma36 hlo hl hg hf (by omega) hk, loop_n]
   obtain ⟨f', o, h1, h2, h3, h4⟩ := loop36p hlo hl m (i + 1) (i + 1) (out ++ [trim ((l.take i).drop f)]) (by omega) (by omega) (Nat.le_refl _) (by rw [List.length_append, List.length_singleton]; omega)
   have e0 : (l.take (i + 1)).drop (i + 1) = [] := List.drop_eq_nil_of_le (by rw [List.length_take]; omega)
   rw [e0, List.append_assoc, List.singleton_append] at h3
   exact ⟨f', o, h1, h2, h3, h4⟩
  ·rw [if_neg hk, none36 hlo hll hg hk, loop_n]
   obtain ⟨f', o, h1, h2, h3, h4⟩ := loop36p hlo hl m (i + 1) f out (by omega) (by omega) (by omega) (by omega)
   have hd : (l.take (i + 1)).drop f = (l.take i).drop f ++ [l[i]] := by
    rw [List.take_succ_eq_append_getElem hlt, List.drop_append_of_le_length (by rw [List.length_take]; omega)]
   rw [hd] at h3
   exact ⟨f', o, h1, h2, h3, h4⟩
theorem f36 {l : List CV} (hlo : lo ≤ h.length) (hl : nodesL l ≤ 1000000000) : E lo 36 [.list .no (rowsC l)] h = some (.list .no (pcsC (splitB l)), h) := by
 have hll : l.length ≤ 1000000000 := by have := nodesL_len l; omega
 obtain ⟨f', o, h1, h2, h3, h4⟩ := loop36p (lo := lo) (h := h) hlo hl l.length 0 0 [] (by omega) (Nat.zero_le _) (Nat.le_refl _) (Nat.le_refl _)
 simp only [List.nil_append, List.drop_zero, List.take_zero, List.drop_nil] at h3
 have e : splitB l = o ++ [trim (l.drop f')] := h3
 rw [e, pcs_snoc]
 simp only [N36p, l36x0, b36, Tryz.f36, loopAt, loops, bodyOf, go_sem, pcsC, List.map_nil] at h4
 have hc := fun lo hlo => f34 (lo := lo) (h := h) (l := l.drop f') hlo (by have := nodes_part2 (l := l) (f := f'); omega)
 have ca := hc lo hlo; have cb := hc h.length (Nat.le_refl _)
 have n0 : ((0 : Nat) : Int) = 0 := rfl
 have ed : (rowsC l).drop f' = rowsC (l.drop f') := rowsC_drop l f'
 have et : (rowsC l).take l.length = rowsC l := by rw [rowsC_take, List.take_length]
 have ra := rowsC_all (l.drop f')
 have rl := rowsC_all l
 have pa := pcs_all o
 have pl := pcs_len o
 have pi := pcs_ibr o
 have o1 : (o.length + 1) * 24 ≤ 140737488355328 := by omega
 have o2 : o.length ≤ 9223372036854775806 := by omega
 unfold pcsC at pa pl pi ⊢
 rw [e36 (by simp) (by rfl)]
 simp only [go_sem, b36, Tryz.f36, hlo, n0, h4, h1, ca, cb, ed, et, ra, rl, pa, pl, pi, o1, o2, rowsC_len]
 all_goals rfl
abbrev N37p (l : List CV) (out : List (List CV)) (f i : Nat) : Env := [(0, .list .no (rowsC l)), (3, .list .yes (pcsC out)), (4, .v (.int .i64 f)), (7, .list .no (rowsC l)), (8, .v (.int .i64 l.length)), (9, .v (.int .i64 i))]
theorem comma37 {l : List CV} {out : List (List CV)} {v : CV} {f i : Nat} (hlo : lo ≤ h.length) (hl : l.length ≤ 1000000000) (hg : l[i]? = some v) (hf : f ≤ i) (ho : out.length ≤ 1000000000) (hk : v.k = 18) :
  evCode ⟨Tryz.prog, E, lo, h.length, h37⟩ loopW l37x0 (N37p l out f i, h) = some (.normal, N37p l (out ++ [trim ((l.take i).drop f)]) (i + 1) (i + 1), h) := by
 obtain ⟨t, ks⟩ := v
 have hlt : i < l.length := (List.getElem?_eq_some_iff.1 hg).1
 have hll : l.length ≤ 1000000000 := by omega
 have hgr : (rowsC l)[i]? = some (rowV (.mk t ks)) := by rw [rowsC_get, hg]; rfl
 have q : decide ((i : Int) < (l.length : Int)) = true := by simpa using hlt
 have hw : IntKind.i64.wrap ((i : Int) + 1) = ((i + 1 : Nat) : Int) := wrap_succ (by omega)
 have qk : (t.k == 18) = true := by rw [beq_iff_eq]; exact hk
 have l1 : lo ≤ h.length + 1 := by omega
 have hi : i ≤ l.length := by omega
 have hc := fun lo hlo => f35 (lo := lo) (h := h ++ [.cells (rowV (.mk t ks))]) (l := (l.take i).drop f) hlo (by have h1 := (List.drop_suffix f (l.take i)).length_le; have h2 := (List.take_prefix i l).length_le; omega)
 rw [rowV_eq] at *
 have ca := hc lo (by simp; omega); have cb := hc (h.length + 1) (by simp)
 clear hc
 have ed : ((rowsC l).take i).drop f = rowsC ((l.take i).drop f) := by rw [rowsC_take, rowsC_drop]
 have ra := rowsC_all ((l.take i).drop f)
 have rl := rowsC_all l
 have pa := pcs_all out
 have pl := pcs_len out
 have pi := pcs_ibr out
 have o1 : (out.length + 1) * 24 ≤ 140737488355328 := by omega
 have o2 : out.length ≤ 9223372036854775806 := by omega
 simp only [N37p]
 rw [pcs_snoc]
 generalize pcsC out = R at *
 simp only [go_sem, l37x0, b37, Tryz.f37, hlo, q, hgr, hw, qk, l1, hi, hf, ca, cb, ed, ra, rl, pa, pl, pi, o1, o2, rowsC_len]
 all_goals rfl
theorem none37 {l : List CV} {out : List (List CV)} {v : CV} {f i : Nat} (hlo : lo ≤ h.length) (hl : l.length ≤ 1000000000) (hg : l[i]? = some v) (hk : v.k ≠ 18) :
  evCode ⟨Tryz.prog, E, lo, h.length, h37⟩ loopW l37x0 (N37p l out f i, h) = some (.normal, N37p l out f (i + 1), h) := by
 obtain ⟨t, ks⟩ := v
 have hlt : i < l.length := (List.getElem?_eq_some_iff.1 hg).1
 have hgr : (rowsC l)[i]? = some (rowV (.mk t ks)) := by rw [rowsC_get, hg]; rfl
 have q : decide ((i : Int) < (l.length : Int)) = true := by simpa using hlt
 have hw : IntKind.i64.wrap ((i : Int) + 1) = ((i + 1 : Nat) : Int) := wrap_succ (by omega)
 have qk : (t.k == 18) = false := by rw [beq_eq_false_iff_ne]; exact hk
 have l1 : lo ≤ h.length + 1 := by omega
 rw [rowV_eq] at *
 simp only [N37p, go_sem, l37x0, b37, Tryz.f37, hlo, q, hgr, hw, qk, l1, rowsC_len]
 all_goals rfl
theorem loop37p {l : List CV} (hlo : lo ≤ h.length) (hl : l.length ≤ 1000000000) : ∀ (m i f : Nat) (out : List (List CV)), m = l.length - i → i ≤ l.length → f ≤ i → out.length ≤ i →
  ∃ (f' : Nat) (o : List (List CV)), f' ≤ l.length ∧ o.length ≤ l.length ∧ out ++ splitA ((l.take i).drop f) (l.drop i) = o ++ [trim (l.drop f')] ∧
   loopW (evCode ⟨Tryz.prog, E, lo, h.length, h37⟩ loopW l37x0) (N37p l out f i, h) = some (.exit 0, N37p l o f' l.length ++ [(10, .v (.bool false))], h)
 | 0, i, f, out, hm, hi, hf, ho => by
  obtain rfl : i = l.length := by omega
  have hd : decide ((l.length : Int) < (l.length : Int)) = false := by simp
  refine ⟨f, out, hf, ho, ?_, ?_⟩
  ·rw [List.drop_length, splitA, List.take_length]
  ·rw [loop_eq]
   simp only [N37p, go_sem, l37x0, b37, Tryz.f37, hlo, hd]
   all_goals rfl
 | m + 1, i, f, out, hm, hi, hf, ho => by
  have hlt : i < l.length := by omega
  have hll : l.length ≤ 1000000000 := by omega
  have hg := List.getElem?_eq_getElem hlt
  rw [List.drop_eq_getElem_cons hlt, splitA, loop_eq]
  by_cases hk : (l[i]).k = 18
  ·rw [if_pos hk, comma37 hlo hl hg hf (by omega) hk, loop_n]
   obtain ⟨f', o, h1, h2, h3, h4⟩ := loop37p hlo hl m (i + 1) (i + 1) (out ++ [trim ((l.take i).drop f)]) (by omega) (by omega) (Nat.le_refl _) (by rw [List.length_append, List.length_singleton]; omega)
   have e0 : (l.take (i + 1)).drop (i + 1) = [] := List.drop_eq_nil_of_le (by rw [List.length_take]; omega)
   rw [e0, List.append_assoc, List.singleton_append] at h3
   exact ⟨f', o, h1, h2, h3, h4⟩
  ·rw [if_neg hk, none37 hlo hll hg hk, loop_n]
   obtain ⟨f', o, h1, h2, h3, h4⟩ := loop37p hlo hl m (i + 1) f out (by omega) (by omega) (by omega) (by omega)
   have hd : (l.take (i + 1)).drop f = (l.take i).drop f ++ [l[i]] := by
    rw [List.take_succ_eq_append_getElem hlt, List.drop_append_of_le_length (by rw [List.length_take]; omega)]
   rw [hd] at h3
   exact ⟨f', o, h1, h2, h3, h4⟩
theorem f37 {l : List CV} (hlo : lo ≤ h.length) (hl : l.length ≤ 1000000000) : E lo 37 [.list .no (rowsC l)] h = some (.list .no (pcsC (splitB l)), h) := by
 have hll : l.length ≤ 1000000000 := by omega
 obtain ⟨f', o, h1, h2, h3, h4⟩ := loop37p (lo := lo) (h := h) hlo hl l.length 0 0 [] (by omega) (Nat.zero_le _) (Nat.le_refl _) (Nat.le_refl _)
 simp only [List.nil_append, List.drop_zero, List.take_zero, List.drop_nil] at h3
 have e : splitB l = o ++ [trim (l.drop f')] := h3
 rw [e, pcs_snoc]
 simp only [N37p, l37x0, b37, Tryz.f37, loopAt, loops, bodyOf, go_sem, pcsC, List.map_nil] at h4
 have hc := fun lo hlo => f35 (lo := lo) (h := h) (l := l.drop f') hlo (by have h1 := (List.drop_suffix f' l).length_le; omega)
 have ca := hc lo hlo; have cb := hc h.length (Nat.le_refl _)
 have n0 : ((0 : Nat) : Int) = 0 := rfl
 have ed : (rowsC l).drop f' = rowsC (l.drop f') := rowsC_drop l f'
 have et : (rowsC l).take l.length = rowsC l := by rw [rowsC_take, List.take_length]
 have ra := rowsC_all (l.drop f')
 have rl := rowsC_all l
 have pa := pcs_all o
 have pl := pcs_len o
 have pi := pcs_ibr o
 have o1 : (o.length + 1) * 24 ≤ 140737488355328 := by omega
 have o2 : o.length ≤ 9223372036854775806 := by omega
 unfold pcsC at pa pl pi ⊢
 rw [e37 (by simp) (by rfl)]
 simp only [go_sem, b37, Tryz.f37, hlo, n0, h4, h1, ca, cb, ed, et, ra, rl, pa, pl, pi, o1, o2, rowsC_len]
 all_goals rfl
end Go.Lift.P8
end

section
namespace Go.Lift.Rul
end Go.Lift.Rul
namespace Go.Proofs
end Go.Proofs
open Go.Proofs
namespace Go.Lift.P8
open Rul
variable [MX]
set_option maxRecDepth 20000
set_option maxHeartbeats 4000000
variable {lo : Nat} {h : Heap}
abbrev N48 (l : List CV) (d k : Int) : Env := [(1, .v (.int .i64 d)), (7, .list .no (rowsC l)), (8, .v (.int .i64 l.length)), (9, .v (.int .i64 k))]
theorem round54 {l : List CV} {v : CV} {n k : Nat} (hn : n ≤ 64) (hlo : lo ≤ h.length) (hl : nodesL l ≤ 1000000000000000000) (hg : l[k]? = some v)
  (ih : ∀ m, n = m + 1 → ∀ lo ks h, lo ≤ h.length → nodesL ks ≤ 1000000000000000000 → E lo 54 [.list .no (rowsC ks), .v (.int .i64 ((m : Int)))] h = some (.v (.bool (mayL m ks)), h)) :
  evCode ⟨Tryz.prog, E, lo, h.length, h54⟩ loopW l54x0 (N48 l ((n : Int)) k, h) =
   if mayV n v = true then some (.normal, N48 l ((n : Int)) (k + 1 : Nat), h) else some (.ret, [(4, .v (.bool false))], h ++ [.cells (rowV v)]) := by
 obtain ⟨t, ks⟩ := v
 have hlt : k < l.length := (List.getElem?_eq_some_iff.1 hg).1
 have hgr : (rowsC l)[k]? = some (rowV (.mk t ks)) := by rw [rowsC_get, hg]; rfl
 have q : decide ((k : Int) < (l.length : Int)) = true := by simp; omega
 have hll := nodesL_len l
 have hkk : nodesL ks ≤ nodesL l := nodesL_get (v := .mk t ks) hg
 have hw : IntKind.i64.wrap ((k : Int) + 1) = ((k + 1 : Nat) : Int) := wrap_succ (by omega)
 have hlo' : lo ≤ h.length + 1 := by omega
 have c42 := fun lo hlo => f48 (lo := lo) (h := h ++ [.cells (rowV (.mk t ks))]) hlo t.k
 have c42a := c42 lo (by simp; omega); have c42b := c42 h.length (by simp); have c42c := c42 (h.length + 1) (by simp)
 clear c42
 rw [mayV_eq]
 rw [rowV_eq] at *
 by_cases a1 : t.k < 1
 ·have q1 : decide (t.k < 1) = true := by simpa using a1
  have : decide (1 ≤ t.k ∧ t.k ≤ 24) = false := by rw [decide_eq_false_iff_not]; omega
  rw [this, Bool.false_and, if_neg (by simp)]
  simp only [go_sem, l54x0, b54, Tryz.f54, hlo, hlo', q, hgr, q1, rowsC_len]
  all_goals rfl
 have q1 : decide (t.k < 1) = false := by simpa using a1
 by_cases a2 : 24 < t.k
 ·have q2 : decide (24 < t.k) = true := by simpa using a2
  have : decide (1 ≤ t.k ∧ t.k ≤ 24) = false := by rw [decide_eq_false_iff_not]; omega
  rw [this, Bool.false_and, if_neg (by simp)]
  simp only [go_sem, l54x0, b54, Tryz.f54, hlo, hlo', q, hgr, q1, q2, rowsC_len]
  all_goals rfl
 have q2 : decide (24 < t.k) = false := by simpa using a2
 have : decide (1 ≤ t.k ∧ t.k ≤ 24) = true := by rw [decide_eq_true_iff]; omega
 rw [this, Bool.true_and]
 by_cases a3 : closer t.k = 0
 ·rw [if_pos a3]
  have q3 : (closer t.k == 0) = true := by simpa using a3
  cases ks with
  | nil =>
   have q4 : decide ((0 : Int) < ((0 : Nat) : Int)) = false := rfl
   rw [if_pos (show ([] : List CV).isEmpty = true from rfl)]
   simp only [go_sem, l54x0, b54, Tryz.f54, hlo, hlo', q, hgr, q1, q2, q3, q4, hw, c42a, c42b, c42c, rowsC_len, List.length_nil]
   all_goals rfl
  | cons x r =>
   have q4 : decide ((0 : Int) < ((r.length + 1 : Nat) : Int)) = true := by rw [decide_eq_true_iff]; omega
   rw [if_neg (show ¬ (x :: r).isEmpty = true by simp)]
   simp only [go_sem, l54x0, b54, Tryz.f54, hlo, hlo', q, hgr, q1, q2, q3, q4, hw, c42a, c42b, c42c, rowsC_len, List.length_cons]
   all_goals rfl
 ·rw [if_neg a3]
  have q3 : (closer t.k == 0) = false := by simpa using a3
  cases n with
  | zero =>
   have q5 : (((0 : Nat) : Int) == 0) = true := rfl
   rw [if_neg (show ¬ false = true by simp)]
   simp only [go_sem, l54x0, b54, Tryz.f54, hlo, hlo', q, hgr, q1, q2, q3, q5, hw, c42a, c42b, c42c, rowsC_len]
   all_goals rfl
  | succ m =>
   have q5 : (((m + 1 : Nat) : Int) == 0) = false := by rw [beq_eq_false_iff_ne]; omega
   have w2 : IntKind.i64.wrap (((m + 1 : Nat) : Int) - 1) = (m : Int) := by
    rw [wrap_i64 (by omega) (by omega)]; omega
   have c48 := fun lo hlo => ih m rfl lo ks (h ++ [.cells (rowV (.mk t ks))]) hlo (by omega)
   rw [rowV_eq] at c48
   have c48a := c48 lo (by simp; omega); have c48b := c48 h.length (by simp); have c48c := c48 (h.length + 1) (by simp)
   clear c48 ih
   show _ = if mayL m ks = true then _ else _
   cases hm : mayL m ks with
   | true =>
    rw [hm] at c48a c48b c48c
    rw [if_pos rfl]
    simp only [go_sem, l54x0, b54, Tryz.f54, hlo, hlo', q, hgr, q1, q2, q3, q5, hw, w2, c42a, c42b, c42c, c48a, c48b, c48c, rowsC_len]
    all_goals rfl
   | false =>
    rw [hm] at c48a c48b c48c
    rw [if_neg (by simp)]
    simp only [go_sem, l54x0, b54, Tryz.f54, hlo, hlo', q, hgr, q1, q2, q3, q5, hw, w2, c42a, c42b, c42c, c48a, c48b, c48c, rowsC_len]
    all_goals rfl
theorem stop54 {l : List CV} {d : Int} (hlo : lo ≤ h.length) : evCode ⟨Tryz.prog, E, lo, h.length, h54⟩ loopW l54x0 (N48 l d l.length, h) =
   some (.exit 0, N48 l d l.length ++ [(10, .v (.bool false))], h) := by
 have q : decide ((l.length : Int) < (l.length : Int)) = false := by simp
 simp only [go_sem, l54x0, b54, Tryz.f54, hlo, q]
 all_goals rfl
theorem loop54 {l : List CV} {n : Nat} (hn : n ≤ 64) (hlo : lo ≤ h.length) (hl : nodesL l ≤ 1000000000000000000)
  (ih : ∀ m, n = m + 1 → ∀ lo ks h, lo ≤ h.length → nodesL ks ≤ 1000000000000000000 → E lo 54 [.list .no (rowsC ks), .v (.int .i64 ((m : Int)))] h = some (.v (.bool (mayL m ks)), h)) :
  ∀ (m k : Nat), k + m = l.length → if mayL n (l.drop k) = true then
    loopW (evCode ⟨Tryz.prog, E, lo, h.length, h54⟩ loopW l54x0) (N48 l ((n : Int)) k, h) = some (.exit 0, N48 l ((n : Int)) l.length ++ [(10, .v (.bool false))], h)
   else ∃ X, loopW (evCode ⟨Tryz.prog, E, lo, h.length, h54⟩ loopW l54x0) (N48 l ((n : Int)) k, h) = some (.ret, [(4, .v (.bool false))], h ++ X) := by
 intro m
 induction m with
 | zero =>
  intro k hk
  obtain rfl : k = l.length := by omega
  rw [List.drop_length, if_pos (mayL_nil n), loop_eq, stop54 hlo, loop_e]
 | succ m ihm =>
  intro k hk
  have hlt : k < l.length := by omega
  have hg : l[k]? = some l[k] := List.getElem?_eq_getElem hlt
  have hd : l.drop k = l[k] :: l.drop (k + 1) := List.drop_eq_getElem_cons hlt
  rw [hd, mayL_cons]
  generalize l[k] = v at *
  have hr := round54 hn hlo hl hg ih
  cases hm : mayV n v with
  | false =>
   rw [hm, if_neg (by simp)] at hr
   rw [Bool.false_and, if_neg (by simp)]
   exact ⟨_, by rw [loop_eq, hr, loop_r]⟩
  | true =>
   rw [hm, if_pos rfl] at hr
   rw [Bool.true_and, loop_eq, hr, loop_n]
   exact ihm (k + 1) (by omega)
theorem f54 : ∀ (n : Nat), n ≤ 64 → ∀ (lo : Nat) (l : List CV) (h : Heap), lo ≤ h.length → nodesL l ≤ 1000000000000000000 → E lo 54 [.list .no (rowsC l), .v (.int .i64 ((n : Int)))] h = some (.v (.bool (mayL n l)), h) := by
 intro n
 induction n with
 | zero =>
  intro hn lo l h hlo hl
  have hL := loop54 (lo := lo) (h := h) hn hlo hl (fun m hm => by omega) l.length 0 (by omega)
  have n0 : ((0 : Nat) : Int) = 0 := rfl
  rw [List.drop_zero] at hL
  rw [e54 (by simp) (by rfl)]
  cases hm : mayL 0 l with
  | false =>
   rw [hm, if_neg (by simp)] at hL
   obtain ⟨X, hL⟩ := hL
   simp only [l54x0, b54, Tryz.f54, loopAt, loops, bodyOf, go_sem, N48, n0] at hL
   simp only [go_sem, b54, Tryz.f54, hlo, hL, rowsC_len, n0]
   all_goals rfl
  | true =>
   rw [hm, if_pos rfl] at hL
   simp only [l54x0, b54, Tryz.f54, loopAt, loops, bodyOf, go_sem, N48, n0, List.cons_append, List.nil_append] at hL
   simp only [go_sem, b54, Tryz.f54, hlo, hL, rowsC_len, n0]
   all_goals rfl
 | succ n ih =>
  intro hn lo l h hlo hl
  have hL := loop54 (lo := lo) (h := h) hn hlo hl (fun m hm => by
   obtain rfl : n = m := by omega
   exact fun lo ks h hlo hk => ih (by omega) lo ks h hlo hk) l.length 0 (by omega)
  have n0 : ((0 : Nat) : Int) = 0 := rfl
  rw [List.drop_zero] at hL
  rw [e54 (by simp) (by rfl)]
  cases hm : mayL (n + 1) l with
  | false =>
   rw [hm, if_neg (by simp)] at hL
   obtain ⟨X, hL⟩ := hL
   simp only [l54x0, b54, Tryz.f54, loopAt, loops, bodyOf, go_sem, N48, n0] at hL
   simp only [go_sem, b54, Tryz.f54, hlo, hL, rowsC_len, n0]
   all_goals rfl
  | true =>
   rw [hm, if_pos rfl] at hL
   simp only [l54x0, b54, Tryz.f54, loopAt, loops, bodyOf, go_sem, N48, n0, List.cons_append, List.nil_append] at hL
   simp only [go_sem, b54, Tryz.f54, hlo, hL, rowsC_len, n0]
   all_goals rfl
theorem f31 {l : List CV} (hlo : lo ≤ h.length) (hl : nodesL l ≤ 1000000000000000000) : E lo 31 [.list .no (rowsC l)] h = some (.v (.bool (mayL 64 l)), h) := by
 have k := fun lo hlo => f53 64 (by omega) lo l h hlo hl
 rw [show (64 : Int) - ((64 : Nat) : Int) = 0 from rfl] at k
 have ka := k lo hlo; have kb := k h.length (Nat.le_refl _)
 rw [e31 (by simp) (by rfl)]
 simp only [go_sem, b31, Tryz.f31, hlo, ka, kb]
 all_goals rfl
theorem f32 {l : List CV} (hlo : lo ≤ h.length) (hl : nodesL l ≤ 1000000000000000000) : E lo 32 [.list .no (rowsC l)] h = some (.v (.bool (mayL 64 l)), h) := by
 have k := fun lo hlo => f54 64 (by omega) lo l h hlo hl
 rw [show ((64 : Nat) : Int) = 64 from rfl] at k
 have ka := k lo hlo; have kb := k h.length (Nat.le_refl _)
 rw [e32 (by simp) (by rfl)]
 simp only [go_sem, b32, Tryz.f32, hlo, ka, kb]
 all_goals rfl
end Go.Lift.P8
end

section
namespace Go.Lift.Rul
end Go.Lift.Rul
namespace Go.Proofs
end Go.Proofs
open Go.Proofs
namespace Go.Lift.P8
open Rul
variable [MX]
set_option maxRecDepth 20000
set_option maxHeartbeats 4000000
variable {lo : Nat} {h : Heap}
abbrev N30 (out : List Tk4) (l : List CV) (k : Int) : Env := [(3, .list .yes (out.map row)), (7, .list .no (rowsC l)), (8, .v (.int .i64 l.length)), (9, .v (.int .i64 k))]
theorem row_app (out m : List Tk4) : out.map row ++ m.map row = (out ++ m).map row := by rw [List.map_append]
theorem limCf {n : Nat} (h : n ≤ 1000000000) : n * 48 ≤ 140737488355328 := by omega
theorem limDf {n : Nat} (h : n ≤ 1000000000) : n ≤ 9223372036854775807 := by omega
theorem round33 {l ks : List CV} {t : Tk4} {out : List Tk4} {k : Nat} (hlo : lo ≤ h.length) (hl : l.length ≤ 1000000000) (hg : l[k]? = some (.mk t ks)) (ho : out.length + (flatL ks).length + 2 ≤ 1000000000)
  (ih : ∀ lo h, lo ≤ h.length → E lo 33 [.list .no (rowsC ks)] h = some (.list .no ((flatL ks).map row), h)) :
  evCode ⟨Tryz.prog, E, lo, h.length, h33⟩ loopW l33x0 (N30 out l k, h) = some (.normal, N30 (out ++ flatV (.mk t ks)) l (k + 1 : Nat), h) := by
 have hlt : k < l.length := (List.getElem?_eq_some_iff.1 hg).1
 have hgr : (rowsC l)[k]? = some (rowV (.mk t ks)) := by rw [rowsC_get, hg]; rfl
 have q : decide ((k : Int) < (l.length : Int)) = true := by simp; omega
 have hw : IntKind.i64.wrap ((k : Int) + 1) = ((k + 1 : Nat) : Int) := wrap_succ (by omega)
 have hlo' : lo ≤ h.length + 1 := by omega
 have c42 := fun lo hlo => f48 (lo := lo) (h := h ++ [.cells (rowV (.mk t ks))]) hlo t.k
 have c42a := c42 lo (by simp; omega); have c42b := c42 h.length (by simp); have c42c := c42 (h.length + 1) (by simp)
 have c30 := fun lo hlo => ih lo (h ++ [.cells (rowV (.mk t ks))]) hlo
 have c30a := c30 lo (by simp; omega); have c30b := c30 h.length (by simp); have c30c := c30 (h.length + 1) (by simp)
 clear c42 c30 ih
 have hf : flatV (.mk t ks) = [t] ++ (flatL ks ++ clT (closer t.k)) := by
  have := flatL_cons t ks []
  rw [flatL_nil, List.append_nil, flatL, flatL_nil, List.append_nil] at this
  exact this
 rw [hf]
 rw [rowV_eq] at *
 have ra := row_all out
 have rb := row_all (out ++ [t])
 have rc := row_all (out ++ [t] ++ flatL ks)
 have rk := row_all (flatL ks)
 have rd := row_all (out ++ t :: flatL ks)
 have o8 : (out.length + ((flatL ks).length + 1) + 1) * 48 ≤ 140737488355328 := lim48 (by omega)
 have o9 : out.length + ((flatL ks).length + 1) ≤ 9223372036854775806 := limA (by omega)
 have o1 : (out.length + 1) * 48 ≤ 140737488355328 := lim48 (by omega)
 have o2 : out.length ≤ 9223372036854775806 := limA (by omega)
 have o3 : (out.length + 1 + (flatL ks).length) * 48 ≤ 140737488355328 := limCf (by omega)
 have o4 : out.length + 1 + (flatL ks).length ≤ 9223372036854775807 := limDf (by omega)
 have o5 : (out.length + 1 + (flatL ks).length + 1) * 48 ≤ 140737488355328 := limCf (by omega)
 have o6 : out.length + 1 + (flatL ks).length ≤ 9223372036854775806 := limA (by omega)
 have o7 : out.length + 1 ≤ 9223372036854775807 := limDf (by omega)
 have hn := closer_nn t.k
 by_cases hc : closer t.k = 0
 ·have qc : (closer t.k != 0) = false := by rw [hc]; rfl
  have e : clT (closer t.k) = [] := by rw [hc]; rfl
  rw [e, List.append_nil, ← List.append_assoc]
  simp only [go_sem, l33x0, b33, Tryz.f33, hlo, hlo', q, hgr, hw, qc, c42a, c42b, c42c, c30a, c30b, c30c, ra, rb, rc, rk, o1, o2, o3, o4, o5, o6, o7, o8, o9, rd, row_put, row_app, row_bare, rowsC_len, List.length_map, List.length_append, List.length_cons, List.length_nil, Nat.zero_add]
  all_goals rfl
 ·have qc : (closer t.k != 0) = true := by rw [bne_iff_ne]; exact hc
  have e : clT (closer t.k) = [Rul.bare (closer t.k)] := by unfold clT; rw [if_pos (by omega)]
  rw [e, ← List.append_assoc, ← List.append_assoc]
  simp only [go_sem, l33x0, b33, Tryz.f33, hlo, hlo', q, hgr, hw, qc, c42a, c42b, c42c, c30a, c30b, c30c, ra, rb, rc, rk, o1, o2, o3, o4, o5, o6, o7, o8, o9, rd, row_put, row_app, row_bare, rowsC_len, List.length_map, List.length_append, List.length_cons, List.length_nil, Nat.zero_add]
  all_goals rfl
theorem stop33 {l : List CV} {out : List Tk4} (hlo : lo ≤ h.length) : evCode ⟨Tryz.prog, E, lo, h.length, h33⟩ loopW l33x0 (N30 out l l.length, h) =
   some (.exit 0, N30 out l l.length ++ [(10, .v (.bool false))], h) := by
 have q : decide ((l.length : Int) < (l.length : Int)) = false := by simp
 simp only [go_sem, l33x0, b33, Tryz.f33, hlo, q]
 all_goals rfl
theorem flatL_cat (v : CV) (r : List CV) : flatL (v :: r) = flatV v ++ flatL r := by rw [flatL]
theorem loop33 {l : List CV} (hlo : lo ≤ h.length) (hl : nodesL l ≤ 100000000) (ih : ∀ v ∈ l, ∀ lo h, lo ≤ h.length → E lo 33 [.list .no (rowsC v.ks)] h = some (.list .no ((flatL v.ks).map row), h)) :
  ∀ (m k : Nat) (out : List Tk4), k + m = l.length → out.length + 2 * nodesL (l.drop k) ≤ 900000000 →
   loopW (evCode ⟨Tryz.prog, E, lo, h.length, h33⟩ loopW l33x0) (N30 out l k, h) = some (.exit 0, N30 (out ++ flatL (l.drop k)) l l.length ++ [(10, .v (.bool false))], h) := by
 have hlen := nodesL_len l
 intro m
 induction m with
 | zero =>
  intro k out hk _
  obtain rfl : k = l.length := by omega
  rw [List.drop_length, flatL_nil, List.append_nil, loop_eq, stop33 hlo, loop_e]
 | succ m ihm =>
  intro k out hk ho
  have hlt : k < l.length := by omega
  have hg : l[k]? = some l[k] := List.getElem?_eq_getElem hlt
  have hd : l.drop k = l[k] :: l.drop (k + 1) := List.drop_eq_getElem_cons hlt
  have him := ih l[k] (List.getElem_mem hlt)
  rw [hd, flatL_cat]
  rw [hd, nodesL_cons] at ho
  generalize l[k] = v at *
  obtain ⟨t, ks⟩ := v
  rw [nodesV] at ho
  have hfl := flatL_len ks
  have hfv := flatV_len (.mk t ks)
  rw [nodesV] at hfv
  rw [loop_eq, round33 hlo (by omega) hg (by omega) him, loop_n, ihm (k + 1) _ (by omega) (by rw [List.length_append]; omega), List.append_assoc]
theorem f33 : ∀ (n : Nat) (l : List CV), nodesL l ≤ n → n ≤ 100000000 → ∀ (lo : Nat) (h : Heap), lo ≤ h.length → E lo 33 [.list .no (rowsC l)] h = some (.list .no ((flatL l).map row), h) := by
 intro n
 induction n with
 | zero =>
  intro l hl hn lo h hlo
  have : l = [] := by
   have := nodesL_len l
   exact List.eq_nil_of_length_eq_zero (by omega)
  subst this
  have hL := loop33 (lo := lo) (h := h) (l := []) hlo (by omega) (fun v hv => by cases hv) 0 0 [] rfl (by rw [List.drop_nil, nodesL_nil]; simp)
  have n0 : ((0 : Nat) : Int) = 0 := rfl
  rw [e33 (by simp) (by rfl)]
  simp only [l33x0, b33, Tryz.f33, loopAt, loops, bodyOf, go_sem, N30, n0, List.map_nil, List.cons_append, List.nil_append, List.drop_nil, flatL_nil, rowsC_nil, List.length_nil] at hL
  simp only [go_sem, b33, Tryz.f33, hlo, hL, rowsC_nil, List.length_nil, n0, flatL_nil, List.map_nil]
  all_goals rfl
 | succ n ihn =>
  intro l hl hn lo h hlo
  have hL := loop33 (lo := lo) (h := h) (l := l) hlo (by omega) (fun v hv lo h hlo => ihn v.ks (by have := nodesL_mem hv; rw [nodesV_eq] at this; omega) (by omega) lo h hlo) l.length 0 [] (by omega) (by rw [List.drop_zero]; simp; omega)
  have n0 : ((0 : Nat) : Int) = 0 := rfl
  rw [List.drop_zero, List.nil_append] at hL
  rw [e33 (by simp) (by rfl)]
  simp only [l33x0, b33, Tryz.f33, loopAt, loops, bodyOf, go_sem, N30, n0, List.map_nil, List.cons_append, List.nil_append] at hL
  simp only [go_sem, b33, Tryz.f33, hlo, hL, rowsC_len, n0]
  all_goals rfl
end Go.Lift.P8
end

section
namespace Go.Lift.Rul
end Go.Lift.Rul
namespace Go.Proofs
end Go.Proofs
open Go.Proofs
namespace Go.Lift.P8
open Rul (flatL rowsC nodesL pcsC splitB splitA allL mayL trim)
variable [MX]
set_option maxRecDepth 20000
set_option maxHeartbeats 4000000
theorem nodes_sub : ∀ {l m : List Rul.CV}, m.Sublist l → nodesL m ≤ nodesL l := by
 intro l m h
 induction h with
 | slnil => exact Nat.le_refl _
 | cons a h ih => rw [Rul.nodesL_cons]; omega
 | cons_cons a h ih => rw [Rul.nodesL_cons, Rul.nodesL_cons]; omega
theorem trim_sublist (l : List Rul.CV) : (trim l).Sublist l := by
 unfold trim
 have h1 : ((l.dropWhile Rul.spaceC).reverse.dropWhile Rul.spaceC).Sublist (l.dropWhile Rul.spaceC).reverse := List.dropWhile_sublist _
 have h2 := List.Sublist.reverse h1
 rw [List.reverse_reverse] at h2
 exact h2.trans (List.dropWhile_sublist _)
theorem splitA_nodes : ∀ (acc l p : List Rul.CV), p ∈ splitA acc l → nodesL p ≤ nodesL acc + nodesL l
 | acc, [], p, hp => by
  rw [splitA, List.mem_singleton] at hp
  subst hp
  have := nodes_sub (trim_sublist acc)
  omega
 | acc, v :: r, p, hp => by
  rw [splitA] at hp
  split at hp
  ·rcases List.mem_cons.1 hp with rfl | hp
   ·have := nodes_sub (trim_sublist acc)
    omega
   ·have h1 := splitA_nodes [] r p hp
    have h0 : nodesL ([] : List Rul.CV) = 0 := rfl
    rw [Rul.nodesL_cons]
    omega
  ·have h1 := splitA_nodes (acc ++ [v]) r p hp
   have h2 : nodesL (acc ++ [v]) = nodesL acc + nodesL [v] := Rul.nodesL_app _ _
   rw [Rul.nodesL_cons]
   rw [h2, Rul.nodesL_cons] at h1
   have h0 : nodesL ([] : List Rul.CV) = 0 := rfl
   omega
abbrev N11 (ps : List (List Rul.CV)) (i : Nat) : Env := [(3, .list .no (pcsC ps)), (4, .list .no (pcsC ps)), (37, .v (.int .i64 ps.length)), (38, .v (.int .i64 i))]
theorem round11 {ps : List (List Rul.CV)} {p : List Rul.CV} {i : Nat} (hg : ps[i]? = some p) (hl : ps.length ≤ 1000000000) (hn : nodesL p ≤ 100000000) (hB : allL BtT p) :
  evCode ⟨Tryz.prog, E, 0, 0, h11⟩ loopW l11x0 (N11 ps i, []) = some (.normal, N11 ps (i + 1), []) := by
 have hlt : i < ps.length := (List.getElem?_eq_some_iff.1 hg).1
 have q : decide ((i : Int) < (ps.length : Int)) = true := by simpa using hlt
 have hgr : (pcsC ps)[i]? = some [.list .no (rowsC p)] := by unfold pcsC; rw [List.getElem?_map, hg]; rfl
 have hw : IntKind.i64.wrap ((i : Int) + 1) = ((i + 1 : Nat) : Int) := wrap_succ (by omega)
 have hy := byL_all p hB
 have c28 := f28 _ p p 0 [] (Nat.le_refl _) (by omega) (by omega) hy hy (Nat.zero_le _)
 rw [eqL_refl] at c28
 have pl := Rul.pcs_len ps
 simp only [N11]
 generalize pcsC ps = R at *
 have hn0 : ((i : Int)).toNat = i := rfl
 simp only [go_sem, l11x0, b11, Tryz.f11, q, hgr, hw, c28, pl, List.length_nil, Nat.le_refl]
 all_goals rfl
theorem loop11 {ps : List (List Rul.CV)} (hl : ps.length ≤ 1000000000) (hn : ∀ p ∈ ps, nodesL p ≤ 100000000 ∧ allL BtT p) : ∀ (m i : Nat), m = ps.length - i → i ≤ ps.length →
  loopW (evCode ⟨Tryz.prog, E, 0, 0, h11⟩ loopW l11x0) (N11 ps i, []) = some (.exit 0, N11 ps ps.length ++ [(39, .v (.bool false))], [])
 | 0, i, hm, hi => by
  obtain rfl : i = ps.length := by omega
  have hd : decide ((ps.length : Int) < (ps.length : Int)) = false := by simp
  rw [loop_eq]
  simp only [N11, go_sem, l11x0, b11, Tryz.f11, hd]
  all_goals rfl
 | m + 1, i, hm, hi => by
  have hlt : i < ps.length := by omega
  have := hn _ (List.getElem_mem hlt)
  rw [loop_eq, round11 (List.getElem?_eq_getElem hlt) hl this.1 this.2, loop_n]
  exact loop11 hl hn m (i + 1) (by omega) (by omega)
theorem f11 {l : List Rul.CV} (hl : nodesL l ≤ 10000000) (hB : allL BtT l) : E 0 11 [.list .no (rowsC l)] [] = some (.v (.bool true), []) := by
 have c18 := f18
 have hfl := Rul.flatL_len l
 have hll := Rul.nodesL_len l
 have c31 := f31 (lo := 0) (h := []) (l := l) (Nat.zero_le _) (by omega)
 have c32 := f32 (lo := 0) (h := []) (l := l) (Nat.zero_le _) (by omega)
 have c27 := f27 (lo := 0) (h := []) (l := l) (Nat.zero_le _) (by omega)
 have c33 := f33 _ l (Nat.le_refl _) (by omega) 0 [] (Nat.zero_le _)
 have c30 := f30b (lo := 0) (h := []) (flatL l) (by omega)
 have c34 := f34 (lo := 0) (h := []) (l := l) (Nat.zero_le _) (by omega)
 have c35 := f35 (lo := 0) (h := []) (l := l) (Nat.zero_le _) (by omega)
 have hnt := nodes_sub (trim_sublist l)
 have hy := byL_all (trim l) (Rul.allL_sub hB fun v hv => Rul.trim_mem hv)
 have c28 := f28 _ (trim l) (trim l) 0 [] (Nat.le_refl _) (by omega) (by omega) hy hy (Nat.zero_le _)
 rw [eqL_refl] at c28
 have c36 := f36 (lo := 0) (h := []) (l := l) (Nat.zero_le _) (by omega)
 have c37 := f37 (lo := 0) (h := []) (l := l) (Nat.zero_le _) (by omega)
 have hps : (splitB l).length ≤ l.length + 1 := Rul.splitA_len [] l
 have hL := loop11 (ps := splitB l) (by omega) (fun p hp => ⟨by
   have := splitA_nodes [] l p hp
   have h0 : nodesL ([] : List Rul.CV) = 0 := rfl
   omega, Rul.allL_sub hB fun v hv => (Rul.splitA_mem [] l p hp v hv).elim (fun h => by cases h) id⟩) (splitB l).length 0 (by omega) (by omega)
 simp only [N11, l11x0, b11, Tryz.f11, loopAt, loops, bodyOf, go_sem] at hL
 have pl := Rul.pcs_len (splitB l)
 have qb : (mayL 64 l != mayL 64 l) = false := by simp
 have qn : (((splitB l).length : Int) != ((splitB l).length : Int)) = false := by simp
 rw [e11 (by simp) (by rfl)]
 simp only [go_sem, b11, Tryz.f11, c18, c31, c32, c27, c33, c30, c34, c35, c28, c36, c37, pl, qb, qn, hL, List.length_nil, Nat.le_refl]
 all_goals rfl
end Go.Lift.P8
end

section
namespace Go.Proofs
end Go.Proofs
namespace Go.Lift.P8
variable [MX]
open Go.Proofs Go.RowKit
set_option maxRecDepth 20000
theorem extra : Builder.Extra Tryz.prog Tryz.lays230_ren where
 sizeBuilder := by kernel_rfl
 liesBuilder := by kernel_rfl
 t5 := by kernel_rfl
 a5 := Tryz.lays230.a5
 z5 := Tryz.lays230.z5
 v5 := Tryz.lays230.v5
 infoByte := by kernel_rfl
 cellsByte := by kernel_rfl
 sizeByte := by kernel_rfl
 neB5 := by decide
theorem walk191 (x : Int) (w : World) : Calls Tryz.prog 191 #[.int .i32 x] w fun e w' => e = .returned (.int .i32 (lowU x)) ∧ ∃ q, w' = w.drewN q := by
 by_cases h1 : 65 ≤ x
 ·by_cases h2 : x ≤ 90
  ·have e1 : IntKind.i32.wrap (x + 97) = x + 97 := wrap_i32 (by omega) (by omega)
   have e2 : IntKind.i32.wrap (x + 97 - 65) = x + 32 := by rw [wrap_i32 (by omega) (by omega)]; omega
   have e3 : lowU x = x + 32 := by unfold lowU; rw [if_pos (by simp [h1, h2])]
   rw [e3]
   go_enter Tryz.func191, Tryz.ntmps191
   go_wp2
   all_goals go_ret
   exact ⟨rfl, 0, rfl⟩
  ·have e3 : lowU x = x := by unfold lowU; rw [if_neg (by simp [h2])]
   rw [e3]
   go_enter Tryz.func191, Tryz.ntmps191
   go_wp2
   all_goals go_ret
   exact ⟨rfl, 0, rfl⟩
 ·have e3 : lowU x = x := by unfold lowU; rw [if_neg (by simp [h1])]
  rw [e3]
  go_enter Tryz.func191, Tryz.ntmps191
  go_wp2
  all_goals go_ret
  exact ⟨rfl, 0, rfl⟩
theorem g3 : Tryz.lays230_ren.g 3 = 4 := rfl
theorem g4 : Tryz.lays230_ren.g 4 = 5 := rfl
theorem tab4 : GTab.tab 4 = some ((List.range 256).map fun c => V.v (.int .u8 (Go.Lib.firstT c))) := rfl
theorem tab5 : GTab.tab 5 = some ((List.range 16).flatMap fun i => [V.v (.int .u8 (Go.Lib.accLo i)), V.v (.int .u8 (Go.Lib.accHi i))]) := rfl
theorem pairs_get {f g : Nat → V} : ∀ (n i : Nat), i < n → ((List.range n).flatMap fun i => [f i, g i])[2 * i]? = some (f i) ∧ ((List.range n).flatMap fun i => [f i, g i])[2 * i + 1]? = some (g i) := by
 intro n
 have hlen : ∀ n, ((List.range n).flatMap fun i => [f i, g i]).length = 2 * n := by
  intro n
  induction n with
  | zero => rfl
  | succ n ih => rw [List.range_succ, List.flatMap_append, List.length_append, ih]; simp; omega
 induction n with
 | zero => intro i hi; omega
 | succ n ih =>
  intro i hi
  rw [List.range_succ, List.flatMap_append]
  by_cases h : i < n
  ·obtain ⟨a, b⟩ := ih i h
   rw [List.getElem?_append_left (by rw [hlen]; omega), List.getElem?_append_left (by rw [hlen]; omega)]
   exact ⟨a, b⟩
  ·obtain rfl : i = n := by omega
   rw [List.getElem?_append_right (by rw [hlen]; omega), List.getElem?_append_right (by rw [hlen]; omega), hlen]
   have e1 : 2 * i - 2 * i = 0 := by omega
   have e2 : 2 * i + 1 - 2 * i = 1 := by omega
   rw [e1, e2]
   exact ⟨rfl, rfl⟩
theorem tabs_of {c : Cl} {w : World} (hg : ∀ n cs, GTab.tab n = some cs → ROs c w ⟨n, 0, none⟩ cs) : Go.Lib.Utf8Tabs 4 5 w := by
 refine ⟨fun k hk => ?_, fun i hi => ?_⟩
 ·obtain ⟨_, h⟩ := hg 4 _ tab4
  obtain ⟨x, hx, hv⟩ := h k (.v (.int .u8 (Go.Lib.firstT k))) (by simp [hk])
  rw [Nat.zero_add] at hx
  rw [hx, VP.v_eq hv]
 ·obtain ⟨_, h⟩ := hg 5 _ tab5
  obtain ⟨p1, p2⟩ := pairs_get (f := fun i => V.v (.int .u8 (Go.Lib.accLo i))) (g := fun i => V.v (.int .u8 (Go.Lib.accHi i))) 16 i hi
  obtain ⟨x, hx, hv⟩ := h _ _ p1
  obtain ⟨y, hy, hu⟩ := h _ _ p2
  rw [Nat.zero_add] at hx hy
  rw [hx, hy, VP.v_eq hv, VP.v_eq hu]
  exact ⟨rfl, rfl⟩
end Go.Lift.P8
end

section
namespace Go.Proofs
end Go.Proofs
namespace Go.Lift.P8
variable [MX]
open Go.Proofs Go.RowKit
set_option maxRecDepth 100000
set_option maxHeartbeats 4000000
open Go.Sort Go.Lib in
theorem quiet_ok {m : List Nat} {c : Cl} {w w' : World} {h : Heap} {lo : Nat} (hH : HOK m c w h) (hb : Below w.heap.size w w') :
  HOK m c w' h ∧ Fr lo (hoOf m w h lo) w m c w' m c ∧ Owned lo (hoOf m w h lo) w m w' [] h act0 := by
 obtain ⟨hC, hold⟩ := hH
 have hcell : ∀ b o, b < w.heap.size → w'.cell? ⟨b, o, none⟩ = w.cell? ⟨b, o, none⟩ := fun b o hl => cell_of_heap (hb.block b hl) o
 have hce : ∀ b, 0 < c b → b < w.heap.size := fun b h0 => by
  rcases Nat.lt_or_ge b w.heap.size with hl | hl
  ·exact hl
  ·rw [hC.c_zero hl] at h0; omega
 have he : Ext c w c w' := ⟨fun _ => Nat.le_refl _, fun b o ho => hcell b o (hce b (by omega)), fun b _ => by
  rcases Nat.lt_or_ge b w.heap.size with hl | hl
  ·exact Shp.same (hb.block b hl)
  ·exact Shp.none hl⟩
 have hm : ∀ {i b}, m[i]? = some b → w'.heap[b]? = w.heap[b]? ∧ c b = c b := fun {i b} hi => ⟨hb.block b (hC.m_lt hi), rfl⟩
 have hAt : ∀ {l r x}, At m w' [] h act0 l r x → At m w [] h act0 l r x := fun {l r x} hl => by
  cases l with
  | slot t => exact hl
  | cell i j =>
   obtain ⟨cs, b, h1, h2, h3, h4⟩ := hl
   exact ⟨cs, b, h1, h2, h3, by rw [← cell_of_heap (hm h3).1]; exact h4⟩
 have hAt' : ∀ {l r x}, At m w [] h act0 l r x → At m w' [] h act0 l r x := fun {l r x} hl => by
  cases l with
  | slot t => exact hl
  | cell i j =>
   obtain ⟨cs, b, h1, h2, h3, h4⟩ := hl
   exact ⟨cs, b, h1, h2, h3, by rw [cell_of_heap (hm h3).1]; exact h4⟩
 refine ⟨⟨⟨fun b h0 => ?_, hC.wf2, hC.nd, hC.len, fun t => (hC.env t).mono (Pre.refl m) he, fun i o b ho hbm => (hC.ob i o b ho hbm).keep (hm hbm).1 (Pre.refl m) he, fun l r x hl => ?_,
   fun l l' r r' x x' b h1 h2 => hC.uniq l l' r r' x x' b (hAt h1) (hAt h2), hC.tagS, fun t i j r ht => hAt' (hC.tagC t i j r ht), fun n cs hg => (hC.gt n cs hg).mono he⟩, hold⟩,
  ⟨hb.os, hb.tape, hb.output, hb.size, Pre.refl m, fun i b hi hbm => ?_, he, fun b hl _ _ => ⟨hb.block b hl, rfl⟩⟩, fun l r x b hl hu hbx => ?_⟩
 ·rw [hb.block b (hce b h0)]
  exact hC.wf1 b h0
 ·refine (hC.own l r x (hAt hl)).keep fun b hbx => ?_
  exact ⟨hb.block b ((hC.own l r x (hAt hl)).lt hbx).1, rfl, id⟩
 ·have := (List.getElem?_eq_some_iff.1 hbm).1
  omega
 ·right
  cases l with
  | slot t => exact absurd hl.1 (by simp [look])
  | cell i j => exact ⟨i, j, r, x, hu, hAt hl, hbx⟩
theorem prim_quiet {f lo : Nat} {args : List V} {h : Heap} {x : Value} (he : ∀ xs w, (callFunc f xs).run Tryz.prog w = .ok (.enter f xs) w)
  (hx : ∀ m c w (xs : Array Value), HOK m c w h → R2 (VRr m c w) args xs.toList → Calls Tryz.prog f xs w fun e w' => e = .returned x ∧ Below w.heap.size w w') :
  CallOK Tryz.prog lo f args h (.v x) h :=
 CallOK0.ok ⟨rfl, he, fun m c w xs hH ha => ⟨⟨rfl, rfl, Keeps.refl _ _⟩, (hx m c w xs hH ha).mono fun e w' ⟨h1, hb⟩ => by
  obtain ⟨q1, q2, q3⟩ := quiet_ok (lo := lo) hH hb
  exact ⟨_, c, h1, rfl, q1, q2, q3⟩⟩⟩
theorem map_ok {lo : Nat} {args : List V} {h : Heap} {r : V} {h' : Heap} (hlo : lo ≤ h.length) (he : mapP lo args h = some (r, h')) : CallOK Tryz.prog lo 190 args h r h' := by
 unfold mapP at he
 split at he
 ·rename_i g s
  split at he
  ·rename_i hc
   obtain ⟨rfl, hs⟩ := hc
   cases he
   exact prim_quiet (enters_of Tryz.func190 (by kernel_rfl) rfl) fun m c w xs hH ha => by
    obtain ⟨hlen, hall⟩ := ha
    have hx2 : ∃ x y, xs = #[x, y] := by
     obtain ⟨l⟩ := xs
     match l, hlen with
     | [x, y], _ => exact ⟨x, y, rfl⟩
    obtain ⟨x, y, rfl⟩ := hx2
    have h0 := hall 0 _ _ rfl rfl
    have h1 := hall 1 _ _ rfl rfl
    obtain ⟨cs, ds, rfl, hcs, hds⟩ := h0
    obtain rfl : y = .string s := h1
    have hcs0 : cs = #[] := by
     obtain ⟨l⟩ := cs
     match l, hcs.1 with
     | [], _ => rfl
    have hds0 : ds = #[] := by
     obtain ⟨l⟩ := ds
     match l, hds.1 with
     | [], _ => rfl
    subst hcs0
    subst hds0
    have hT : Go.Lib.Utf8Tabs (Tryz.lays230_ren.g 3) (Tryz.lays230_ren.g 4) w := by
     rw [g3, g4]
     exact tabs_of hH.1.gt
    have hM : MapAtRunes Tryz.prog 191 #[] lowU w := fun W k hk _ => walk191 k W
    exact Any.strings_Map_runes Tryz.lays230 extra 191 #[] (enters_of Tryz.func191 (by kernel_rfl) rfl) lowU s w hs hM (fun k hk => by unfold lowU; split <;> omega) hT
  ·cases he
 ·cases he
theorem prim_ok : ∀ f p, primz f = some p → ∀ lo args h r h', lo ≤ h.length → p lo args h = some (r, h') → CallOK Tryz.prog lo f args h r h' := by
 intro f p hp lo args h r h' hlo he
 unfold primz at hp
 split at hp
 ·cases hp
  exact map_ok hlo he
 ·cases hp
end Go.Lift.P8
end

section
namespace Go.Proofs.YtnlekmkfgaolbaaGreatDoor
open Go.Lift Go.Lift.P8 Go.ChangeShapes Go.WideShapes Go.ChangeAt Go.RowKit
set_option maxRecDepth 100000
theorem isBulk (H : Type) : IsBulk (H := H) Rows.uptoBulk Rows.uptoBulkAll :=
 ⟨rfl, fun _ _ => rfl, fun _ => rfl, fun _ => rfl, fun _ _ => rfl, rfl, fun e s => by show Rows.uptoBulkAll e + 1 ≤ Rows.uptoBulkAll e + Rows.uptoBulkAll s + 1; omega, fun _ => rfl⟩
theorem own : ownKnob Tryz.prog.godebug = none := by kernel_rfl
theorem laidOut : laidOutB Tryz.prog = true := by kernel_rfl
theorem follows : Tryz.prog.follows .mixedOrders = true := by kernel_rfl
theorem ros_of {w : World} {g : Nat} {cs : List V} (h : ∀ (j : Nat) v, cs[j]? = some v → ∃ x, w.cell? ⟨g, j, none⟩ = some x ∧ VP (wholeCl w) w v x) : ROs (wholeCl w) w ⟨g, 0, none⟩ cs := by
 refine ⟨?_, fun j v hj => by simpa using h j v hj⟩
 cases cs with
 | nil => exact Nat.zero_le _
 | cons c t =>
  have hl : (c :: t)[t.length]? = some ((c :: t)[t.length]'(by simp)) := List.getElem?_eq_getElem (by simp)
  obtain ⟨x, hx, _⟩ := h t.length _ hl
  unfold World.cell? at hx
  unfold wholeCl
  simp only at hx ⊢
  split at hx
  ·rename_i arr e f he
   rw [he]
   simp only [List.length_cons]
   have := (Array.getElem?_eq_some_iff.1 hx).1
   omega
  ·cases hx
theorem kinds_data : (Rows.laid_jalousie_jalousieref3_kinds : DataW Unit) = Lib.tabData .i64 [21, 22, 19, 20, 23, 24, 18, 16, 17] := rfl
theorem first_data : Rows.laid_unicode_utf8_first = Lib.firstData := by kernel_rfl
theorem accept_data : (Rows.laid_unicode_utf8_acceptRanges : DataW Unit) = Lib.acceptData := by kernel_rfl
theorem bruijn_data : (Rows.laid_math_bits_deBruijn64tab : DataW Unit) = Lib.tabData .u8 (Lib.deBruijn64tab.map fun c : Nat => (c : Int)) := by kernel_rfl
theorem pow10_data : (Rows.laid_internal_strconv_uint64pow10 : DataW Unit) = Lib.tabData .u64 Lib.pow10Tab := by kernel_rfl
theorem tab_cells {w : World} {name : String} {k : IntKind} {zs : List Int} {g : Nat} {t e : TypeId} {n : Nat} (hn : Tryz.prog.globalNamed name = some g) (hy : (Tryz.prog.globals[g]?).map (·.type) = some t)
  (ht : Tryz.prog.underlying t = some (.array n e)) (he : Tryz.prog.underlying e = some (.int k)) (hce : Tryz.prog.cellsOf e = 1) (hct : Tryz.prog.cellsOf t = n) (h : Lib.VarReads Tryz.prog w name (Lib.tabData k zs)) :
  ∀ (j : Nat) (z : Int), zs[j]? = some z → w.cell? ⟨g, j, none⟩ = some (.int k z) := fun j z hz => by
 obtain ⟨g', t', cs, fuel, p, h1, h2, h3, h4⟩ := h
 obtain rfl := Option.some.inj (hn.symm.trans h1)
 obtain rfl := Option.some.inj (hy.symm.trans h2)
 have hcs := Lib.cells_of_tab ht he hce hct h4
 have := World.var?_cell hn h3 j
 rw [this, ← Array.getElem?_toList, hcs]
 simp [hz]
theorem gok [MX] {W : World} (hm : W.cell? ⟨1, 0, none⟩ = some (.int .i64 MX.m)) (hk : MX.k = true → Lib.VarReads Tryz.prog W "jalousie/jalousieref3.kinds" Rows.laid_jalousie_jalousieref3_kinds)
  (hd : MX.d = true → Lib.VarReads Tryz.prog W "math/bits.deBruijn64tab" Rows.laid_math_bits_deBruijn64tab) (hn : MX.n = true → Lib.VarReads Tryz.prog W "internal/strconv.uint64pow10" Rows.laid_internal_strconv_uint64pow10)
  (h2 : Lib.VarReads Tryz.prog W "unicode/utf8.first" Rows.laid_unicode_utf8_first) (h3 : Lib.VarReads Tryz.prog W "unicode/utf8.acceptRanges" Rows.laid_unicode_utf8_acceptRanges) : GOK W := by
 rw [kinds_data] at hk
 rw [first_data] at h2
 rw [accept_data] at h3
 rw [bruijn_data] at hd
 rw [pow10_data] at hn
 have hU : Lib.Utf8Tabs (Tryz.lays230_ren.g 3) (Tryz.lays230_ren.g 4) W :=
  utf8Tabs_of_reads (ρ := Tryz.lays230_ren) { Tryz.lays230 with } ⟨by kernel_rfl, by kernel_rfl, by kernel_rfl, by kernel_rfl, by kernel_rfl, by kernel_rfl, by kernel_rfl⟩ h2 h3
 rw [g3, g4] at hU
 intro n cs hc
 have e : GTab.tab n = gtab.1 n := rfl
 rw [e] at hc
 unfold gtab at hc
 simp only at hc
 split at hc
 ·split at hc
  ·rename_i hf
   have c0 := tab_cells (g := 0) (t := 148) (e := 3) (n := 9) (by kernel_rfl) (by kernel_rfl) (by kernel_rfl) (by kernel_rfl) (by kernel_rfl) (by kernel_rfl) (hk hf)
   cases hc
   refine ros_of fun j v hj => ?_
   have hj2 : (([21, 22, 19, 20, 23, 24, 18, 16, 17] : List Int).map fun z => V.v (.int .i64 z))[j]? = some v := hj
   simp only [List.getElem?_map, Option.map_eq_some_iff] at hj2
   obtain ⟨k, hk2, rfl⟩ := hj2
   exact ⟨_, c0 j k hk2, .v _ rfl⟩
  ·cases hc
 ·cases hc
  refine ros_of fun j v hj => ?_
  cases j with
  | zero =>
   cases hj
   exact ⟨_, hm, .v _ rfl⟩
  | succ j => simp at hj
 ·split at hc
  ·rename_i hf
   have c1 := tab_cells (g := 2) (t := 229) (e := 5) (n := 64) (by kernel_rfl) (by kernel_rfl) (by kernel_rfl) (by kernel_rfl) (by kernel_rfl) (by kernel_rfl) (hd hf)
   cases hc
   refine ros_of fun j v hj => ?_
   simp only [List.getElem?_map, Option.map_eq_some_iff] at hj
   obtain ⟨k, hk2, rfl⟩ := hj
   exact ⟨_, c1 j k (by simp [hk2]), .v _ rfl⟩
  ·cases hc
 ·split at hc
  ·rename_i hf
   have c2 := tab_cells (g := 3) (t := 232) (e := 171) (n := 20) (by kernel_rfl) (by kernel_rfl) (by kernel_rfl) (by kernel_rfl) (by kernel_rfl) (by kernel_rfl) (hn hf)
   cases hc
   refine ros_of fun j v hj => ?_
   simp only [List.getElem?_map, Option.map_eq_some_iff] at hj
   obtain ⟨k, hk2, rfl⟩ := hj
   exact ⟨_, c2 j k hk2, .v _ rfl⟩
  ·cases hc
 ·cases hc
  refine ros_of fun j v hj => ?_
  simp only [List.getElem?_map, Option.map_eq_some_iff] at hj
  obtain ⟨k, hk2, rfl⟩ := hj
  have hlt : j < 256 := by
   have := (List.getElem?_eq_some_iff.1 hk2).1
   simpa using this
  rw [List.getElem?_range hlt] at hk2
  cases hk2
  exact ⟨_, hU.1 j hlt, .v _ rfl⟩
 ·cases hc
  refine ros_of fun j v hj => ?_
  have hjl : j < 32 := by
   rcases Nat.lt_or_ge j 32 with h | h
   ·exact h
   ·exfalso
    have hl : ((List.range 16).flatMap fun i => [V.v (.int .u8 (Go.Lib.accLo i)), V.v (.int .u8 (Go.Lib.accHi i))]).length = 32 := rfl
    rw [List.getElem?_eq_none (by rw [hl]; exact h)] at hj
    cases hj
  obtain ⟨i, hi, hj2⟩ : ∃ i, i < 16 ∧ (j = 2 * i ∨ j = 2 * i + 1) := ⟨j / 2, by omega, by omega⟩
  obtain ⟨p1, p2⟩ := pairs_get (f := fun i => V.v (.int .u8 (Go.Lib.accLo i))) (g := fun i => V.v (.int .u8 (Go.Lib.accHi i))) 16 i hi
  rcases hj2 with rfl | rfl
  ·rw [p1] at hj
   cases hj
   exact ⟨_, (hU.2 i hi).1, .v _ rfl⟩
  ·rw [p2] at hj
   cases hj
   exact ⟨_, (hU.2 i hi).2, .v _ rfl⟩
 ·cases hc
noncomputable def laidWorld (os : Os) : World :=
 let w0 := World.holding Tryz.prog os ⟨#[], #[], []⟩
 let put (h : Array Obj) (g : Nat) (cs : Array Value) : Array Obj := h.modify g fun
  | .cells _ t frozen => .cells cs t frozen
  | o => o
 let h1 := put w0.heap 4 (Lib.firstTab.map fun z => Value.int .u8 z).toArray
 let h2 := put h1 5 ((List.range 16).flatMap fun i => [Value.int .u8 (Lib.accLo i), Value.int .u8 (Lib.accHi i)]).toArray
 let h3 := put h2 2 (Lib.deBruijn64tab.map fun z : Nat => Value.int .u8 (z : Int)).toArray
 let h4 := put h3 6 (Lib.deBruijn32tab.map fun z : Nat => Value.int .u8 (z : Int)).toArray
 let h5 := put h4 3 (Lib.pow10Tab.map fun z => Value.int .u64 z).toArray
 let h6 := put h5 0 ([21, 22, 19, 20, 23, 24, 18, 16, 17].map fun z => Value.int .i64 z).toArray
 { w0 with heap := h6 }
theorem laid2 (os : Os) (args : Array Value) : LaidIn Tryz.prog ((laidWorld os).forCall (fun _ _ => 0) ⟨#[], args, []⟩).memory [("unicode/utf8.acceptRanges", Rows.laid_unicode_utf8_acceptRanges), ("unicode/utf8.first", Rows.laid_unicode_utf8_first)] [5, 4] :=
 LaidIn.of_run [5, 4] 8 (by kernel_rfl) (by kernel_rfl) (by kernel_rfl) (by kernel_rfl)
theorem ty_int {t : TypeId} {k : IntKind} {p : List V} (ht : Tryz.prog.underlying t = some (.int k)) (h : Ty Tryz.prog t p) : ∃ n, p = [.v (.int k n)] ∧ (Lit.int k n).wf = true := by
 cases h with
 | int k' n hu hw => rw [ht] at hu; cases hu; exact ⟨n, rfl, hw⟩
 | bool b hu => rw [ht] at hu; cases hu
 | string s hu => rw [ht] at hu; cases hu
 | slice rows hu _ => rw [ht] at hu; cases hu
 | struct fs cells hu _ => rw [ht] at hu; cases hu
theorem ty_bool {t : TypeId} {p : List V} (ht : Tryz.prog.underlying t = some .bool) (h : Ty Tryz.prog t p) : ∃ b, p = [.v (.bool b)] := by
 cases h with
 | int k' n hu hw => rw [ht] at hu; cases hu
 | bool b hu => exact ⟨b, rfl⟩
 | string s hu => rw [ht] at hu; cases hu
 | slice rows hu _ => rw [ht] at hu; cases hu
 | struct fs cells hu _ => rw [ht] at hu; cases hu
theorem ty_str {t : TypeId} {p : List V} (ht : Tryz.prog.underlying t = some .string) (h : Ty Tryz.prog t p) : ∃ s, p = [.v (.string s)] := by
 cases h with
 | int k' n hu hw => rw [ht] at hu; cases hu
 | bool b hu => rw [ht] at hu; cases hu
 | string s hu => exact ⟨s, rfl⟩
 | slice rows hu _ => rw [ht] at hu; cases hu
 | struct fs cells hu _ => rw [ht] at hu; cases hu
theorem ty_fields {t : TypeId} {fs : Array Field} {p : List V} (ht : Tryz.prog.underlying t = some (.struct fs)) (h : Ty Tryz.prog t p) : TyFs Tryz.prog fs.toList p := by
 cases h with
 | int k' n hu hw => rw [ht] at hu; cases hu
 | bool b hu => rw [ht] at hu; cases hu
 | string s hu => rw [ht] at hu; cases hu
 | slice rows hu _ => rw [ht] at hu; cases hu
 | struct fs' cells hu hf => rw [ht] at hu; cases hu; exact hf
theorem fs_cons {f : Field} {fs : List Field} {p : List V} (h : TyFs Tryz.prog (f :: fs) p) : ∃ a b, p = a ++ b ∧ Ty Tryz.prog f.type a ∧ TyFs Tryz.prog fs b := by
 cases h with
 | cons h1 h2 => exact ⟨_, _, rfl, h1, h2⟩
theorem fs_nil {p : List V} (h : TyFs Tryz.prog [] p) : p = [] := by
 cases h; rfl
theorem wf_i64 {n : Int} (h : (Lit.int .i64 n).wf = true) : -9223372036854775808 ≤ n ∧ n ≤ 9223372036854775807 := by
 simp [Lit.wf, IntKind.min, IntKind.max, IntKind.signed, IntKind.bits] at h
 omega
theorem any_bs (s : ByteArray) : ∃ l : List Int, Utf.By l ∧ s = Rul.bs l ∧ l.length = s.size := by
 refine ⟨s.data.toList.map fun c => (c.toNat : Int), ?_, ?_, ?_⟩
 ·intro c hc
  obtain ⟨x, _, rfl⟩ := List.mem_map.1 hc
  have := x.toNat_lt
  omega
 ·apply ByteArray.ext
  unfold Rul.bs u8s
  simp only [List.map_map]
  apply Array.toList_inj.1
  conv => lhs; rw [← List.map_id s.data.toList]
  apply List.map_congr_left
  intro c _
  simp
 ·rw [List.length_map, Array.length_toList]; rfl
theorem tyTk {p : List V} (hc : Ty Tryz.prog 37 p) : ∃ t : Rul.Tk4, p = Rul.row t ∧ Utf.By t.b ∧ (-9223372036854775808 ≤ t.n ∧ t.n ≤ 9223372036854775807) ∧ (-9223372036854775808 ≤ t.d ∧ t.d ≤ 9223372036854775807) ∧ vsRow p = t.b.length + 6 := by
 have h1 := ty_fields Tryz.underlying37 hc
 obtain ⟨p1, q1, rfl, t1, h1⟩ := fs_cons h1
 obtain ⟨p2, q2, rfl, t2, h1⟩ := fs_cons h1
 obtain ⟨p3, q3, rfl, t3, h1⟩ := fs_cons h1
 obtain ⟨p4, q4, rfl, t4, h1⟩ := fs_cons h1
 obtain ⟨p5, q5, rfl, t5, h1⟩ := fs_cons h1
 obtain rfl := fs_nil h1
 obtain ⟨k, rfl, _⟩ := ty_int Tryz.underlying3 t1
 obtain ⟨s, rfl⟩ := ty_str Tryz.underlying9 t2
 have h2 := ty_fields Tryz.underlying35 t3
 obtain ⟨p6, q6, rfl, t6, h2⟩ := fs_cons h2
 obtain ⟨p7, q7, rfl, t7, h2⟩ := fs_cons h2
 obtain rfl := fs_nil h2
 obtain ⟨n, rfl, hn⟩ := ty_int Tryz.underlying2 t6
 obtain ⟨d, rfl, hd⟩ := ty_int Tryz.underlying2 t7
 obtain ⟨w, rfl⟩ := ty_bool Tryz.underlying4 t4
 obtain ⟨i, rfl⟩ := ty_bool Tryz.underlying4 t5
 obtain ⟨b, hb, rfl, hl⟩ := any_bs s
 refine ⟨⟨k, b, n, d, w, i⟩, rfl, hb, wf_i64 hn, wf_i64 hd, ?_⟩
 simp [vsRow, vsize]
 omega
theorem ty_slice {t e : TypeId} {p : List V} (ht : Tryz.prog.underlying t = some (.slice e)) (h : Ty Tryz.prog t p) : ∃ rows, p = [.list .no rows] ∧ ∀ row ∈ rows, Ty Tryz.prog e row := by
 cases h with
 | int k' n hu hw => rw [ht] at hu; cases hu
 | bool b hu => rw [ht] at hu; cases hu
 | string s hu => rw [ht] at hu; cases hu
 | slice rows hu hr => rw [ht] at hu; cases hu; exact ⟨rows, rfl, hr⟩
 | struct fs cells hu _ => rw [ht] at hu; cases hu
theorem tv {t e : TypeId} {v : V} (ht : Tryz.prog.underlying t = some (.slice e)) (h : TyV Tryz.prog t v) : Ty Tryz.prog t [v] := by
 unfold TyV at h
 rw [ht] at h
 exact h
end Go.Proofs.YtnlekmkfgaolbaaGreatDoor
end

section
namespace Go.Proofs.YtnlekmkfgaolbaaGreatDoor
open Go.Lift Go.Lift.P8 Go.ChangeShapes Go.WideShapes Go.ChangeAt Go.RowKit
set_option maxRecDepth 100000
theorem tyVal {p : List V} (hc : Ty Tryz.prog 74 p) : ∃ (t : Rul.Tk4) (rows : List (List V)), p = Rul.row t ++ [.list .no rows] ∧ (∀ row ∈ rows, Ty Tryz.prog 74 row) ∧ Utf.By t.b ∧ vsRow p = t.b.length + 7 + vsRows rows := by
 have h1 := ty_fields Tryz.underlying74 hc
 obtain ⟨p1, q1, rfl, t1, h1⟩ := fs_cons h1
 obtain ⟨p2, q2, rfl, t2, h1⟩ := fs_cons h1
 obtain rfl := fs_nil h1
 obtain ⟨t, rfl, a, b, c, e⟩ := tyTk t1
 obtain ⟨rows, rfl, hr⟩ := ty_slice Tryz.underlying44 t2
 refine ⟨t, rows, rfl, hr, a, ?_⟩
 rw [vsRow_append, e, List.append_nil]
 simp [vsRow, vsize]
 omega
theorem tyVals : ∀ (n : Nat) (rows : List (List V)), vsRows rows ≤ n → n ≤ 1048576 → (∀ row ∈ rows, Ty Tryz.prog 74 row) →
  ∃ l : List Rul.CV, rows = Rul.rowsC l ∧ Rul.allL BtT l ∧ Rul.nodesL l ≤ vsRows rows := by
 intro n
 induction n with
 | zero =>
  intro rows hs hn h
  cases rows with
  | nil => exact ⟨[], by rw [Rul.rowsC_nil], by rw [Rul.allL]; trivial, by rw [Rul.nodesL_nil]; omega⟩
  | cons r rs =>
   obtain ⟨t, ks, rfl, _, _, e⟩ := tyVal (h r (List.mem_cons_self ..))
   simp only [vsRows] at hs
   omega
 | succ n ih =>
  intro rows hs hn h
  cases rows with
  | nil => exact ⟨[], by rw [Rul.rowsC_nil], by rw [Rul.allL]; trivial, by rw [Rul.nodesL_nil]; omega⟩
  | cons r rs =>
   obtain ⟨t, ks, rfl, hk, a, e⟩ := tyVal (h r (List.mem_cons_self ..))
   simp only [vsRows, e] at hs ⊢
   obtain ⟨kl, rfl, k1, k2⟩ := ih ks (by omega) (by omega) hk
   obtain ⟨l, rfl, l1, l2⟩ := ih rs (by omega) (by omega) fun row hm => h row (List.mem_cons_of_mem _ hm)
   refine ⟨.mk t kl :: l, ?_, ?_, ?_⟩
   ·rw [Rul.rowsC_cons, Rul.rowV]
   ·rw [Rul.allL, Rul.allV]
    exact ⟨⟨⟨a, by omega⟩, k1⟩, l1⟩
   ·rw [Rul.nodesL_cons, Rul.nodesV_eq]
    show 1 + Rul.nodesL kl + _ ≤ _
    omega
theorem ty44 {v : V} {n : Nat} (h : TyV Tryz.prog 44 v) (hs : asize v ≤ n) (hn : n ≤ 1048576) : ∃ l : List Rul.CV, v = .list .no (Rul.rowsC l) ∧ Rul.allL BtT l ∧ Rul.nodesL l ≤ n := by
 obtain ⟨rows, hp, hr⟩ := ty_slice Tryz.underlying44 (tv Tryz.underlying44 h)
 obtain rfl : v = .list .no rows := by simpa using hp
 have hv : vsRows rows ≤ n := by simp only [asize, vsize] at hs; omega
 obtain ⟨l, rfl, a, b⟩ := tyVals n rows hv hn hr
 exact ⟨l, rfl, a, by omega⟩
end Go.Proofs.YtnlekmkfgaolbaaGreatDoor
end

section
namespace Go.Proofs.YtnlekmkfgaolbaaGreatDoor
set_option maxRecDepth 100000
theorem and_tt {a b : Bool} (ha : a = true) (hb : b = true) : (a && b) = true := by rw [ha, hb]; rfl
theorem fact2 : laidOutB Tryz.prog = true := by kernel_rfl
theorem fact3 : mapsRowed Tryz.prog = true := by kernel_rfl
theorem fact7 : (Tryz.prog.stops == []) = true := by kernel_rfl
theorem fact9 : (Tryz.prog.stopKnobs == []) = true := by kernel_rfl
theorem fact23 : (Rows.ruleRulesUptoRow.plainKeys == Tryz.prog.plainKeys) = true := by kernel_rfl
theorem fact25 : Tryz.prog.stopsHeard = true := by kernel_rfl
theorem fact26 : Tryz.prog.mayEnter = true := by kernel_rfl
theorem fact27 : (Rows.ruleRulesUptoRow.lifted == Tryz.prog.liftsFinal) = true := by kernel_rfl
theorem fact28 : (Tryz.prog.make == some Rows.ruleRulesUptoRow.make) = true := by kernel_rfl
end Go.Proofs.YtnlekmkfgaolbaaGreatDoor
end
