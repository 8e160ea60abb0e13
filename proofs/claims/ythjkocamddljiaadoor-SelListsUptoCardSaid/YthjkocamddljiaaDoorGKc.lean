/- strings.HasPrefix, CutPrefix; what is behind an n; a step. -/
import Derived.ProofKit
import Derived.Test.YthjkocamddljiaaDoorGLd
import Derived.Test.YthjkocamddljiaaDoorGKb
set_option linter.unusedVariables false
set_option linter.unusedSimpArgs false
set_option linter.unusedSectionVars false
set_option maxRecDepth 20000
set_option maxHeartbeats 4000000
section
open Go.Proofs
namespace Go.Lift.Q1
open Rul
open Utf (By)
open Sel (tk tz isD db wholeT digitsT tailT isStep step_iff addT behindT nameT stepT)
variable [MX]
theorem u8s_inj : ∀ {a b : List Int}, By a -> By b -> u8s a = u8s b -> a = b
 | [], [], _, _, _ => rfl
 | [], _ :: _, _, _, h => by simp [u8s] at h
 | _ :: _, [], _, _, h => by simp [u8s] at h
 | x :: a, y :: b, ha, hb, h => by
  simp only [u8s, List.map_cons, List.cons.injEq] at h
  have hx := ha x (by simp)
  have hy := hb y (by simp)
  have h1 : x = y := by
   have := congrArg UInt8.toNat h.1
   simp only [UInt8.toNat_ofNat'] at this
   omega
  rw [h1, u8s_inj (fun c hc => ha c (by simp [hc])) (fun c hc => hb c (by simp [hc])) h.2]
theorem rbs_list (l : List Int) : (Rul.bs l).toList = u8s l := bs_list l
theorem rbs_size (l : List Int) : (Rul.bs l).size = l.length := bs_size l
theorem rbs_ext (l : List Int) (a b : Nat) : (Rul.bs l).extract a b = Rul.bs ((l.take b).drop a) := bs_ext l a b
theorem rbs_beq {a b : List Int} (ha : By a) (hb : By b) : ((Rul.bs a).toList == (Rul.bs b).toList) = (a == b) := by
 rw [rbs_list, rbs_list]
 cases h : a == b with
 | true =>
  have : a = b := by simpa using h
  rw [this]; simp
 | false =>
  have hn : a ≠ b := by simpa using h
  have : u8s a ≠ u8s b := fun e => hn (u8s_inj ha hb e)
  simpa using this
theorem pre_take {p b : List Int} : p.isPrefixOf b = (decide (p.length <= b.length) && (b.take p.length == p)) := by
 cases h : p.isPrefixOf b with
 | true =>
  obtain ⟨m, rfl⟩ := List.isPrefixOf_iff_prefix.1 h
  simp
 | false =>
  by_cases hl : p.length <= b.length
  ·have : b.take p.length ≠ p := fun e => by
    have : p <+: b := ⟨b.drop p.length, by have := List.take_append_drop p.length b; rw [e] at this; exact this⟩
    rw [List.isPrefixOf_iff_prefix.2 this] at h
    cases h
   simp [hl, this]
  ·simp [hl]
section
variable {lo : Nat} {h : Heap}
theorem f95 {p b : List Int} (hy : By b) (hp : By p) : E lo 95 [.v (.string (Rul.bs b)), .v (.string (Rul.bs p))] h = some (.v (.bool (p.isPrefixOf b)), h) := by
 have s1 := rbs_size b
 have s2 := rbs_size p
 have hx := rbs_ext b 0 p.length
 have hq := rbs_beq (a := (b.take p.length).drop 0) (b := p) (fun c hc => hy c (List.mem_of_mem_take (List.mem_of_mem_drop hc))) hp
 rw [pre_take, e95 (by simp) (by rfl)]
 rw [List.drop_zero] at hx hq
 by_cases hl : p.length <= b.length
 ·have q1 : decide ((p.length : Int) <= (b.length : Int)) = true := by rw [decide_eq_true_iff]; omega
  have q2 : decide (p.length <= b.length) = true := by rw [decide_eq_true_iff]; omega
  rw [q2]
  generalize Rul.bs p = P at *
  generalize Rul.bs b = B at *
  simp only [go_sem, b95, Tryd.f95, s1, s2, q1, hl, hx, hq, Nat.zero_le, Bool.true_and]
  all_goals rfl
 ·have q1 : decide ((p.length : Int) <= (b.length : Int)) = false := by rw [decide_eq_false_iff_not]; omega
  have q2 : decide (p.length <= b.length) = false := by rw [decide_eq_false_iff_not]; omega
  rw [q2]
  generalize Rul.bs p = P at *
  generalize Rul.bs b = B at *
  simp only [go_sem, b95, Tryd.f95, s1, s2, q1, Bool.false_and]
  all_goals rfl
theorem f79 {p b : List Int} (hy : By b) (hp : By p) : E lo 79 [.v (.string (Rul.bs b)), .v (.string (Rul.bs p))] h = some (.v (.bool (p.isPrefixOf b)), h) := by
 have k := fun lo h => f95 (lo := lo) (h := h) hy hp
 rw [e79 (by simp) (by rfl)]
 simp only [go_sem, b79, Tryd.f79, k]
 all_goals rfl
theorem f94 {p b : List Int} (hy : By b) (hp : By p) : E lo 94 [.v (.string (Rul.bs b)), .v (.string (Rul.bs p))] h =
  some (.tup [.v (.string (Rul.bs (if p.isPrefixOf b = true then b.drop p.length else b))), .v (.bool (p.isPrefixOf b))], h) := by
 have k := fun lo h => f95 (lo := lo) (h := h) hy hp
 have s1 := rbs_size b
 have s2 := rbs_size p
 have hx := rbs_ext b p.length b.length
 rw [List.take_length] at hx
 rw [e94 (by simp) (by rfl)]
 cases hq : p.isPrefixOf b with
 | false =>
  rw [hq] at k
  simp only [go_sem, b94, Tryd.f94, k, Bool.false_eq_true, if_false]
  all_goals rfl
 | true =>
  rw [hq] at k
  have hl : p.length <= b.length := (List.isPrefixOf_iff_prefix.1 hq).length_le
  simp only [if_true]
  generalize Rul.bs p = P at *
  generalize Rul.bs b = B at *
  simp only [go_sem, b94, Tryd.f94, k, s1, s2, hx, hl, Nat.le_refl]
  all_goals rfl
theorem f78 {p b : List Int} (hy : By b) (hp : By p) : E lo 78 [.v (.string (Rul.bs b)), .v (.string (Rul.bs p))] h =
  some (.tup [.v (.string (Rul.bs (if p.isPrefixOf b = true then b.drop p.length else b))), .v (.bool (p.isPrefixOf b))], h) := by
 have k := fun lo h => f94 (lo := lo) (h := h) hy hp
 rw [e78 (by simp) (by rfl)]
 simp only [go_sem, b78, Tryd.f78, k]
 all_goals rfl
end
end Go.Lift.Q1
end

section
open Go.Proofs
namespace Go.Lift.Q1
open Rul
open Utf (By)
open Sel (tk tz isD db wholeT digitsT tailT isStep step_iff addT behindT nameT stepT whole_step)
variable [MX]
section
variable {lo a : Nat} {l : List CV} {p q : List Ob}
theorem tk_lt {l : List CV} {i : Nat} (h : (tk (l.drop i)).k ≠ 0) : i < l.length := by
 rcases Nat.lt_or_ge i l.length with h1 | h1
 ·exact h1
 ·rw [tk_end h1] at h; exact absurd rfl h
theorem tk_get {l : List CV} {i : Nat} (h : i < l.length) : ∃ ks, (rowsC l)[i]? = some (rowV (.mk (tk (l.drop i)) ks)) := by
 rw [List.drop_eq_getElem_cons h]
 cases hv : l[i] with
 | mk t ks => exact ⟨ks, by rw [rowsC_get, List.getElem?_eq_getElem h, hv]; rfl⟩
theorem drop_tail (l : List CV) (i : Nat) : (l.drop i).tail = l.drop (i + 1) := by rw [List.tail_drop]
theorem dl_pm (t : Tk4) : dl [43, 45] t = (isD t 43 || isD t 45) := by
 rw [<- dl_one, <- dl_one]
 unfold dl
 cases t.k == 9 with
 | false => rfl
 | true =>
  rw [Bool.true_and, Bool.true_and, Bool.true_and]
  match t.b with
  | [] => rfl
  | [c] =>
   show ([43, 45] : List Int).contains c = (([43] : List Int).contains c || ([45] : List Int).contains c)
   simp
  | x :: y :: r => rfl
theorem by_pm : By [43, 45] := fun c hc => by simp at hc; omega
theorem by_one {c : Int} (h0 : 0 <= c) (h1 : c <= 255) : By [c] := fun x hx => by simp at hx; omega
theorem f81 (hlo : lo <= p.length) (hl : l.length <= 1000000000) (ha : a <= 1500000000) (ho : allL OkB l) :
  ∃ (x : Int) (ok : Bool) (b : Nat), b <= max a l.length + 2 /\ E lo 81 [.ptr p.length 0] (p ++ Rd l a :: q) = some (.tup [.v (.int .i64 x), .v (.bool ok)], p ++ Rd l b :: q) /\
   behindT (l.drop a) = if (ok && (l.drop b).isEmpty) = true then some x else none := by
 have hlo2 : lo <= p.length + (q.length + 1) := by omega
 have hlo3 : lo <= p.length + (q.length + 1) + 1 := by omega
 obtain ⟨b1, h1, h2, e1, c27⟩ := f27 (q := q) hlo hl (a := a) (by omega)
 have n0 : ((0 : Nat) : Int) = 0 := rfl
 have c35 := f35 (q := q) (k := 0) (a := b1) hlo hl (by omega)
 rw [n0, Nat.add_zero] at c35
 have hok := ok_tk (ok_drop (a := b1) ho)
 have hw1 : IntKind.i64.wrap ((b1 : Int) + 1) = ((b1 + 1 : Nat) : Int) := wrap_succ (by omega)
 unfold behindT
 rw [<- e1]
 cases hk : (tk (l.drop b1)).k == 10 with
 | true =>
  have hlt : b1 < l.length := tk_lt (by
                     have : (tk (l.drop b1)).k = 10 := by simpa using hk
                     omega)
  obtain ⟨ks, hg⟩ := tk_get hlt
  have c77 := fun X => f77 (lo := p.length + (q.length + 1)) (h := p ++ X :: q) (by simp) hok
  have hw2 : IntKind.i64.wrap (((b1 + 1 : Nat) : Int) - 1) = (b1 : Int) := by rw [wrap_i64 (by omega) (by omega)]; omega
  rw [if_pos rfl, drop_tail]
  generalize tk (l.drop b1) = t at c35 hg c77 hk
  refine ⟨(wholeT t).getD 0, (wholeT t).isSome, b1 + 1, by omega, ?_, ?_⟩
  ·simp only [rowV_eq, row, List.cons_append, List.nil_append] at hg c35 c77
   simp only [numV] at c77
   rw [e81 (by simp) (by rfl)]
   simp only [go_sem, b81, Tryd.f81, hlo, hlo2, hlo3, c27, c35, hk, hw1, hw2, hg, c77]
   all_goals rfl
  ·cases wholeT t with
   | none => split <;> rfl
   | some n => rfl
 | false =>
  rw [if_neg (by simp)]
  have c28 := f28 (q := q) (k := 0) (a := b1) (s := [43, 45]) hlo hl (by omega) ho by_pm
  have c28b := f28 (q := q) (k := 0) (a := b1) (s := [45]) hlo hl (by omega) ho (by_one (by omega) (by omega))
  have s1 : Rul.bs [43, 45] = ⟨#[43, 45]⟩ := rfl
  have s2 : Rul.bs [45] = ⟨#[45]⟩ := rfl
  rw [n0, Nat.add_zero, dl_pm, s1] at c28
  rw [n0, Nat.add_zero, dl_one, s2] at c28b
  cases hp : isD (tk (l.drop b1)) 43 || isD (tk (l.drop b1)) 45 with
  | false =>
   rw [Bool.or_eq_false_iff] at hp
   rw [hp.1, hp.2] at c28
   rw [hp.1, hp.2, if_neg (by simp), if_neg (by simp)]
   refine ⟨0, false, b1, by omega, ?_, rfl⟩
   simp only [row] at c35
   rw [e81 (by simp) (by rfl)]
   simp only [go_sem, b81, Tryd.f81, hlo, hlo2, hlo3, c27, c35, hk, c28, Bool.or_self]
   all_goals rfl
  | true =>
   rw [hp] at c28
   have eP : (if isD (tk (l.drop b1)) 43 = true then addT false (db (l.drop b1).tail) else if isD (tk (l.drop b1)) 45 = true then addT true (db (l.drop b1).tail) else none) = addT (isD (tk (l.drop b1)) 45) (db (l.drop b1).tail) := by
    cases h43 : isD (tk (l.drop b1)) 43 with
    | true =>
     have : isD (tk (l.drop b1)) 45 = false := by
      unfold isD at h43 ⊢
      simp only [Bool.and_eq_true, beq_iff_eq] at h43
      rw [h43.2]; simp
     rw [if_pos rfl, this]
    | false =>
     rw [h43, Bool.false_or] at hp
     rw [hp]; rfl
   rw [eP, drop_tail]
   obtain ⟨b2, h3, h4, e2, c27b⟩ := f27 (q := q) hlo hl (a := b1 + 1) (by omega)
   have c35b := f35 (q := q) (k := 0) (a := b2) hlo hl (by omega)
   rw [n0, Nat.add_zero] at c35b
   have hok2 := ok_tk (ok_drop (a := b2) ho)
   have c77 := fun X Q => f77 (lo := lo) (h := p ++ X :: Q) (by simp; omega) hok2
   have hw2 : IntKind.i64.wrap ((b2 : Int) + 1) = ((b2 + 1 : Nat) : Int) := wrap_succ (by omega)
   unfold addT
   rw [<- e2, drop_tail]
   generalize isD (tk (l.drop b1)) 45 = back at c28b
   generalize tk (l.drop b2) = t at c35b c77
   simp only [row] at c35 c35b c77
   simp only [numV] at c77
   cases hwt : wholeT t with
   | none =>
    rw [hwt] at c77
    have z1 : IntKind.i64.wrap (0 - 0) = 0 := rfl
    refine ⟨0, false, b2 + 1, by omega, ?_, rfl⟩
    rw [e81 (by simp) (by rfl)]
    cases back with
    | true =>
     simp only [go_sem, b81, Tryd.f81, hlo, hlo2, hlo3, c27, c35, hk, c28, c28b, hw1, c27b, c35b, hw2, c77, z1, Option.getD_none, Option.isSome_none]
     all_goals rfl
    | false =>
     simp only [go_sem, b81, Tryd.f81, hlo, hlo2, hlo3, c27, c35, hk, c28, c28b, hw1, c27b, c35b, hw2, c77, z1, Option.getD_none, Option.isSome_none]
     all_goals rfl
   | some n =>
    rw [hwt] at c77
    have hn : t.n = n := by
     unfold wholeT at hwt
     split at hwt
     ·cases hwt; rfl
     ·cases hwt
    rw [hn] at c35b c77
    have hst := step_iff.1 (whole_step hwt)
    have z1 : IntKind.i64.wrap (0 - n) = -n := by rw [wrap_i64 (by omega) (by omega)]; omega
    refine ⟨if back = true then -n else n, t.k == 10 && decide (0 <= n), b2 + 1, by omega, ?_, ?_⟩
    ·rw [e81 (by simp) (by rfl)]
     cases hk2 : t.k == 10 with
     | true =>
      cases back with
      | true =>
       simp only [go_sem, b81, Tryd.f81, hlo, hlo2, hlo3, c27, c35, hk, c28, c28b, hw1, c27b, c35b, hw2, c77, z1, hk2, Option.getD_some, Option.isSome_some, if_true, Bool.true_and]
       all_goals rfl
      | false =>
       simp only [go_sem, b81, Tryd.f81, hlo, hlo2, hlo3, c27, c35, hk, c28, c28b, hw1, c27b, c35b, hw2, c77, z1, hk2, Option.getD_some, Option.isSome_some, Bool.false_eq_true, if_false, Bool.true_and]
       all_goals rfl
     | false =>
      cases back with
      | true =>
       simp only [go_sem, b81, Tryd.f81, hlo, hlo2, hlo3, c27, c35, hk, c28, c28b, hw1, c27b, c35b, hw2, c77, z1, hk2, Option.getD_some, Option.isSome_some, if_true, Bool.false_and]
       all_goals rfl
      | false =>
       simp only [go_sem, b81, Tryd.f81, hlo, hlo2, hlo3, c27, c35, hk, c28, c28b, hw1, c27b, c35b, hw2, c77, z1, hk2, Option.getD_some, Option.isSome_some, Bool.false_eq_true, if_false, Bool.false_and]
       all_goals rfl
    ·simp only [Bool.and_assoc]
end
end Go.Lift.Q1
end

section
open Go.Proofs
namespace Go.Lift.Q1
open Rul
open Utf (By)
open Sel (tk tz isD db wholeT digitsT tailT isStep step_iff addT behindT nameT whole_step)
variable [MX]
theorem small_by {b : List Int} (h : By b) : By (small b) := by
 intro c hc
 unfold small at hc
 obtain ⟨x, hx, rfl⟩ := List.mem_map.1 hc
 have := h x hx
 unfold lowb
 split <;> omega
theorem small_len (b : List Int) : (small b).length = b.length := List.length_map _
section
variable {lo a : Nat} {l : List CV} {p q : List Ob}
noncomputable abbrev X65 (lo : Nat) (p q : List Ob) : Cx := ⟨Tryd.prog, E, lo, p.length + (q.length + 1), h65⟩
inductive G65 (p q : List Ob) (w : List Int) (x : Int) (ok : Bool) : Env -> Prop
 | a : G65 p q w x ok [(0, .ptr p.length 0), (5, .undef), (6, .v (.string (Rul.bs w))), (7, .v (.int .i64 x)), (8, .v (.bool ok)), (57, .undef)]
 | b : G65 p q w x ok [(0, .ptr p.length 0), (6, .v (.string (Rul.bs w))), (7, .v (.int .i64 x)), (8, .v (.bool ok)), (11, .v (.string (Rul.bs w))), (75, .v (.bool false))]
 | c : G65 p q w x ok [(0, .ptr p.length 0), (5, .ptr (p.length + (q.length + 1)) 0), (6, .v (.string (Rul.bs w))), (7, .v (.int .i64 x)), (8, .v (.bool ok)), (57, .v (.bool true))]
theorem by_n : By [110] := by_one (by omega) (by omega)
theorem by_nm : By [110, 45] := fun c hc => by simp at hc; omega
theorem p65b {w : List Int} {x : Int} {ok : Bool} {T : Ob} {g : Env} (hg : G65 p q w x ok g) (hlo : lo <= p.length) (hl : l.length <= 1000000000) (ha : a <= 1400000000) (ho : allL OkB l) (hw : By w) (hwl : w.length <= 1000000000) :
  ∃ (x' y : Int) (ok' : Bool) (b : Nat), b <= max a l.length + 2 /\ evL (X65 lo p q) loopW (pc b65 6 12) (g, p ++ Rd l a :: (q ++ [T])) = some (.ret, [(2, .v (.int .i64 x')), (3, .v (.int .i64 y)), (4, .v (.bool ok'))], p ++ Rd l b :: (q ++ [T])) /\
   (if ok = true then nameT x w (l.drop a) else none) = if (ok' && (l.drop b).isEmpty) = true then some (x', y) else none := by
 cases hg
 all_goals
  have c79 := fun lo h => f79 (lo := lo) (h := h) (p := [110]) hw by_n
  have c78 := fun lo h => f78 (lo := lo) (h := h) (p := [110, 45]) hw by_nm
  have s1 : Rul.bs [110] = ⟨#[110]⟩ := rfl
  have s2 : Rul.bs [110, 45] = ⟨#[110, 45]⟩ := rfl
  have hq := rbs_beq (a := w) (b := [110]) hw by_n
  rw [s1] at c79 hq
  rw [s2] at c78
  cases ok with
  | false =>
   refine ⟨0, 0, false, a, by omega, ?_, rfl⟩
   simp only [go_sem, b65, Tryd.f65, hlo]
   all_goals rfl
  | true =>
   rw [if_pos rfl]
   unfold nameT
   cases hp : [110, 45].isPrefixOf w with
   | true =>
    have h1 : [110].isPrefixOf w = true := by
     obtain ⟨m, rfl⟩ := List.isPrefixOf_iff_prefix.1 hp
     rfl
    rw [h1] at c79
    rw [hp, if_pos rfl, show ([110, 45] : List Int).length = 2 from rfl] at c78
    have hwd : By (w.drop 2) := fun c hc => hw c (List.mem_of_mem_drop hc)
    obtain ⟨y, c80, hy⟩ := f80 (lo := lo) (h := p ++ Rd l a :: (q ++ [T])) (s := w.drop 2) (by simp; omega) hwd (by rw [List.length_drop]; omega)
    rw [if_pos rfl]
    refine ⟨x, y, (tailT (w.drop 2)).isSome, a, by omega, ?_, ?_⟩
    ·simp only [go_sem, b65, Tryd.f65, hlo, c79, c78, c80]
     all_goals rfl
    ·cases ht : tailT (w.drop 2) with
     | none => rfl
     | some b => rw [hy b ht]; rfl
   | false =>
    rw [hp] at c78
    simp only [Bool.false_eq_true, if_false] at c78 ⊢
    cases hn : w == [110] with
    | false =>
     rw [if_neg (by simp)]
     rw [hn] at hq
     refine ⟨0, 0, false, a, by omega, ?_, rfl⟩
     cases h1 : [110].isPrefixOf w with
     | false =>
      rw [h1] at c79
      simp only [go_sem, b65, Tryd.f65, hlo, c79]
      all_goals rfl
     | true =>
      rw [h1] at c79
      simp only [go_sem, b65, Tryd.f65, hlo, c79, c78, hq, bne]
      all_goals rfl
    | true =>
     rw [if_pos rfl]
     rw [hn] at hq
     have hwn : w = [110] := by simpa using hn
     have h1 : [110].isPrefixOf w = true := by rw [hwn]; rfl
     rw [h1] at c79
     have c26 := f26 (a := a) (l := l) (q := q ++ [T]) hlo
     cases he : (l.drop a).isEmpty with
     | true =>
      rw [he] at c26
      refine ⟨x, 0, true, a, by omega, ?_, by rw [he]; rfl⟩
      simp only [go_sem, b65, Tryd.f65, hlo, c79, c78, hq, bne, c26]
      all_goals rfl
     | false =>
      rw [he] at c26
      obtain ⟨y, ok', b, hb, c81, hsp⟩ := f81 (q := q ++ [T]) (a := a) hlo hl (by omega) ho
      refine ⟨x, y, ok', b, hb, ?_, ?_⟩
      ·simp only [go_sem, b65, Tryd.f65, hlo, c79, c78, hq, bne, c26, c81]
       all_goals rfl
      ·rw [if_neg (by simp), hsp]
       split <;> rfl
def head65 (t : Tk4) : (Int × Int × Bool) ⊕ (List Int × Int × Bool) :=
 if (t.k == 10) = true then .inl (0, (wholeT t).getD 0, (wholeT t).isSome)
 else if (t.k == 1) = true then
  if (small t.b == [111, 100, 100]) = true then .inl (2, 1, true)
  else if (small t.b == [101, 118, 101, 110]) = true then .inl (2, 0, true)
  else .inr (if [45].isPrefixOf (small t.b) = true then (small t.b).drop 1 else small t.b, if [45].isPrefixOf (small t.b) = true then -1 else 1, true)
 else if (t.k == 12) = true then .inr (small t.b, (wholeT t).getD 0, (wholeT t).isSome)
 else .inr (small t.b, 1, false)
theorem by_odd : By [111, 100, 100] := fun c hc => by simp at hc; omega
theorem by_even : By [101, 118, 101, 110] := fun c hc => by simp at hc; omega
theorem p65a (hlo : lo <= p.length) (hl : l.length <= 1000000000) (ha : a <= 1300000000) (ho : allL OkB l) :
  match head65 (tk (l.drop a)) with
   | .inl (x, y, ok) => evL (X65 lo p q) loopW (pc b65 0 6) (args0 [.ptr p.length 0], p ++ Rd l a :: q) = some (.ret, [(2, .v (.int .i64 x)), (3, .v (.int .i64 y)), (4, .v (.bool ok))], p ++ Rd l (a + 1) :: (q ++ [.cells (row (tk (l.drop a)))]))
   | .inr (w, x, ok) => ∃ g, G65 p q w x ok g /\ evL (X65 lo p q) loopW (pc b65 0 6) (args0 [.ptr p.length 0], p ++ Rd l a :: q) = some (.normal, g, p ++ Rd l (a + 1) :: (q ++ [.cells (row (tk (l.drop a)))])) := by
 have hlo2 : lo <= p.length + (q.length + 1) := by omega
 have hlo3 : lo <= p.length + (q.length + 1) + 1 := by omega
 have n0 : ((0 : Nat) : Int) = 0 := rfl
 have c35 := f35 (q := q) (k := 0) (a := a) hlo hl (by omega)
 rw [n0, Nat.add_zero] at c35
 have hok := ok_tk (ok_drop (a := a) ho)
 have hw1 : IntKind.i64.wrap ((a : Int) + 1) = ((a + 1 : Nat) : Int) := wrap_succ (by omega)
 have c77 := fun X Q => f77 (lo := lo) (h := p ++ X :: Q) (by simp; omega) hok
 have c63 := fun X Q => f63 (lo := lo) (h := p ++ X :: Q) (by simp; omega) (by have := hok.hl; omega) hok.hy
 have hws := small_by hok.hy
 have q1 := rbs_beq hws by_odd
 have q2 := rbs_beq hws by_even
 have c78 := fun lo h => f78 (lo := lo) (h := h) (p := [45]) hws (by_one (by omega) (by omega))
 have s1 : Rul.bs [111, 100, 100] = ⟨#[111, 100, 100]⟩ := rfl
 have s2 : Rul.bs [101, 118, 101, 110] = ⟨#[101, 118, 101, 110]⟩ := rfl
 have s3 : Rul.bs [45] = ⟨#[45]⟩ := rfl
 rw [s1] at q1
 rw [s2] at q2
 rw [s3, show ([45] : List Int).length = 1 from rfl] at c78
 unfold head65
 generalize tk (l.drop a) = t at *
 simp only [row] at c35 c77 ⊢
 simp only [numV] at c77
 cases k10 : t.k == 10 with
 | true =>
  simp only [if_true]
  simp only [go_sem, b65, Tryd.f65, hlo, hlo2, hlo3, c35, hw1, c63, k10, c77]
  all_goals rfl
 | false =>
  simp only [Bool.false_eq_true, if_false]
  cases k1 : t.k == 1 with
  | true =>
   simp only [if_true]
   cases ho1 : small t.b == [111, 100, 100] with
   | true =>
    rw [ho1] at q1
    simp only [if_true]
    simp only [go_sem, b65, Tryd.f65, hlo, hlo2, hlo3, c35, hw1, c63, k10, k1, q1]
    all_goals rfl
   | false =>
    rw [ho1] at q1
    simp only [Bool.false_eq_true, if_false]
    cases he1 : small t.b == [101, 118, 101, 110] with
    | true =>
     rw [he1] at q2
     simp only [if_true]
     simp only [go_sem, b65, Tryd.f65, hlo, hlo2, hlo3, c35, hw1, c63, k10, k1, q1, q2]
     all_goals rfl
    | false =>
     rw [he1] at q2
     simp only [Bool.false_eq_true, if_false]
     have k12 : (t.k == 12) = false := by
      have : t.k = 1 := by simpa using k1
      rw [this]; rfl
     cases hp : [45].isPrefixOf (small t.b) with
     | true =>
      rw [hp, if_pos rfl] at c78
      simp only [if_true]
      refine ⟨_, .a, ?_⟩
      simp only [go_sem, b65, Tryd.f65, hlo, hlo2, hlo3, c35, hw1, c63, k10, k1, k12, q1, q2, c78]
      all_goals rfl
     | false =>
      rw [hp, if_neg (by simp)] at c78
      simp only [Bool.false_eq_true, if_false]
      refine ⟨_, .b, ?_⟩
      simp only [go_sem, b65, Tryd.f65, hlo, hlo2, hlo3, c35, hw1, c63, k10, k1, k12, q1, q2, c78]
      all_goals rfl
  | false =>
   simp only [Bool.false_eq_true, if_false]
   cases k12 : t.k == 12 with
   | true =>
    simp only [if_true]
    refine ⟨_, .c, ?_⟩
    simp only [go_sem, b65, Tryd.f65, hlo, hlo2, hlo3, c35, hw1, c63, k10, k1, k12, c77]
    all_goals rfl
   | false =>
    simp only [Bool.false_eq_true, if_false]
    refine ⟨_, .a, ?_⟩
    simp only [go_sem, b65, Tryd.f65, hlo, hlo2, hlo3, c35, hw1, c63, k10, k1, k12]
    all_goals rfl
theorem fin65 {x y : Int} {ok : Bool} {P Q : Heap} {T : Ob} : fin Tryd.prog [.tmp 2, .tmp 3, .tmp 4] (P.length + (Q.length + 1)) (some (.ret, [(2, .v (.int .i64 x)), (3, .v (.int .i64 y)), (4, .v (.bool ok))], P ++ Rd l a :: (Q ++ [T]))) =
  some (.tup [.v (.int .i64 x), .v (.int .i64 y), .v (.bool ok)], P ++ Rd l a :: Q) := by
 simp only [go_sem]
 all_goals rfl
theorem f65 (hlo : lo <= p.length) (hl : l.length <= 1000000000) (ha : a <= 1300000000) (ho : allL OkB l) :
  ∃ (x y : Int) (ok : Bool) (b : Nat), b <= max a l.length + 3 /\ E lo 65 [.ptr p.length 0] (p ++ Rd l a :: q) = some (.tup [.v (.int .i64 x), .v (.int .i64 y), .v (.bool ok)], p ++ Rd l b :: q) /\
   Sel.stepT (l.drop a) = if (ok && (l.drop b).isEmpty) = true then some (x, y) else none := by
 have hA := p65a (q := q) hlo hl ha ho
 have hok := ok_tk (ok_drop (a := a) ho)
 have hws := small_by hok.hy
 have hwl : (small (tk (l.drop a)).b).length <= 1000000000 := by rw [small_len]; exact hok.hl
 have hlen : (p ++ Rd l a :: q).length = p.length + (q.length + 1) := by simp
 have go : ∀ (w : List Int) (x : Int) (ok : Bool), head65 (tk (l.drop a)) = .inr (w, x, ok) -> By w -> w.length <= 1000000000 -> Sel.stepT (l.drop a) = (if ok = true then nameT x w (l.drop (a + 1)) else none) ->
   ∃ (x y : Int) (ok : Bool) (b : Nat), b <= max a l.length + 3 /\ E lo 65 [.ptr p.length 0] (p ++ Rd l a :: q) = some (.tup [.v (.int .i64 x), .v (.int .i64 y), .v (.bool ok)], p ++ Rd l b :: q) /\
   Sel.stepT (l.drop a) = if (ok && (l.drop b).isEmpty) = true then some (x, y) else none := by
  intro w x ok hh hw hwl hs
  rw [hh] at hA
  obtain ⟨g, hg, hA⟩ := hA
  obtain ⟨x', y, ok', b, hb, hB, hsp⟩ := p65b hg (x := x) (ok := ok) (q := q) (T := .cells (row (tk (l.drop a)))) (a := a + 1) hlo hl (by omega) ho hw hwl
  refine ⟨x', y, ok', b, by omega, ?_, by rw [hs, hsp]⟩
  rw [e65 (by simp) (by rfl), hlen, pc_in, pc_go _ _ _ _ 0 6, hA, pc_go _ _ _ _ _ 12, hB, pc_r]
  exact fin65
 have done : ∀ (x y : Int) (ok : Bool), head65 (tk (l.drop a)) = .inl (x, y, ok) -> Sel.stepT (l.drop a) = (if (ok && (l.drop (a + 1)).isEmpty) = true then some (x, y) else none) ->
   ∃ (x y : Int) (ok : Bool) (b : Nat), b <= max a l.length + 3 /\ E lo 65 [.ptr p.length 0] (p ++ Rd l a :: q) = some (.tup [.v (.int .i64 x), .v (.int .i64 y), .v (.bool ok)], p ++ Rd l b :: q) /\
   Sel.stepT (l.drop a) = if (ok && (l.drop b).isEmpty) = true then some (x, y) else none := by
  intro x y ok hh hs
  rw [hh] at hA
  refine ⟨x, y, ok, a + 1, by omega, ?_, hs⟩
  rw [e65 (by simp) (by rfl), hlen, pc_in, pc_go _ _ _ _ 0 6, hA, pc_r]
  exact fin65
 by_cases k10 : ((tk (l.drop a)).k == 10) = true
 ·refine done _ _ _ (by unfold head65; rw [if_pos k10]) ?_
  unfold Sel.stepT
  rw [if_pos k10, drop_tail]
  cases wholeT (tk (l.drop a)) with
  | none => simp
  | some n => rfl
 by_cases k1 : ((tk (l.drop a)).k == 1) = true
 ·by_cases ho1 : (small (tk (l.drop a)).b == [111, 100, 100]) = true
  ·refine done _ _ _ (by unfold head65; rw [if_neg k10, if_pos k1, if_pos ho1]) ?_
   unfold Sel.stepT
   rw [if_neg k10, if_pos k1, if_pos ho1, drop_tail, Bool.true_and]
  by_cases he1 : (small (tk (l.drop a)).b == [101, 118, 101, 110]) = true
  ·refine done _ _ _ (by unfold head65; rw [if_neg k10, if_pos k1, if_neg ho1, if_pos he1]) ?_
   unfold Sel.stepT
   rw [if_neg k10, if_pos k1, if_neg ho1, if_pos he1, drop_tail, Bool.true_and]
  by_cases hp : [45].isPrefixOf (small (tk (l.drop a)).b) = true
  ·refine go _ _ _ (by unfold head65; rw [if_neg k10, if_pos k1, if_neg ho1, if_neg he1, if_pos hp, if_pos hp]) (fun c hc => hws c (List.mem_of_mem_drop hc)) (by rw [List.length_drop]; omega) ?_
   unfold Sel.stepT
   rw [if_neg k10, if_pos k1, if_neg ho1, if_neg he1, if_pos hp, if_pos rfl, drop_tail]
  ·refine go _ _ _ (by unfold head65; rw [if_neg k10, if_pos k1, if_neg ho1, if_neg he1, if_neg hp, if_neg hp]) hws hwl ?_
   unfold Sel.stepT
   rw [if_neg k10, if_pos k1, if_neg ho1, if_neg he1, if_neg hp, if_pos rfl, drop_tail]
 by_cases k12 : ((tk (l.drop a)).k == 12) = true
 ·refine go _ _ _ (by unfold head65; rw [if_neg k10, if_neg k1, if_pos k12]) hws hwl ?_
  unfold Sel.stepT
  rw [if_neg k10, if_neg k1, if_pos k12, drop_tail]
  cases wholeT (tk (l.drop a)) with
  | none => rfl
  | some n => rfl
 ·refine go _ _ _ (by unfold head65; rw [if_neg k10, if_neg k1, if_neg k12]) hws hwl ?_
  unfold Sel.stepT
  rw [if_neg k10, if_neg k1, if_neg k12]; rfl
end
end Go.Lift.Q1
end

section
open Go.Proofs
namespace Go.Lift.Q1
open Rul
open Utf (By)
open Sel (tk tz isD db Sm Cx Cp smV cxsC attrT opT foldT cd)
variable [MX]
section
variable {lo a : Nat} {l : List CV} {p q : List Ob}
theorem f26u {lo' : Nat} : E lo' 26 [.ptr p.length 0] (p ++ Rd l a :: q) = some (.v (.bool ((l.drop a).isEmpty)), p ++ Rd l a :: q) := by
 rw [drop_empty, e26 (by simp) (by rfl)]
 simp only [go_sem, b26, Tryd.f26, rowsC_len]
 all_goals rfl
noncomputable abbrev X46 (lo : Nat) (p q : List Ob) : Lift.Cx := ⟨Tryd.prog, E, lo, p.length + (q.length + 1), h46⟩
abbrev sO (k : Int) (n : List Int) (o : Int) (v : List Int) (f : Bool) : Ob := .cells [.v (.int .i64 k), .v (.string (Rul.bs n)), .v (.int .i64 o), .v (.string (Rul.bs v)), .v (.bool f), .list .yes [], .v (.int .i64 0), .v (.int .i64 0)]
abbrev rO (k : Int) (n : List Int) (o : Int) (v : List Int) (f : Bool) : Ob := .cells [.v (.int .i64 k), .v (.string (Rul.bs n)), .v (.int .i64 o), .v (.string (Rul.bs v)), .v (.bool f), .list .no [], .v (.int .i64 0), .v (.int .i64 0)]
theorem p46a (hlo : lo <= p.length) (hl : l.length <= 1000000000) (ha : a <= 1300000000) (ho : allL OkB l) :
  evL (X46 lo p q) loopW (pc b46 0 7) (args0 [.ptr p.length 0], p ++ Rd l a :: q) = 
   if ((tk (l.drop a)).k == 1) = true then (if (l.drop (a + 1)).isEmpty = true then some (.ret, [(2, .ptr (p.length + (q.length + 1)) 0), (3, .v (.bool true))], p ++ Rd l (a + 1) :: (q ++ [rO 5 (tk (l.drop a)).b 0 [] false, sO 5 (tk (l.drop a)).b 0 [] false]))
    else some (.normal, [(0, .ptr p.length 0), (2, .ptr (p.length + (q.length + 1)) 0), (4, .ptr (p.length + (q.length + 1 + 1)) 0), (26, .v (.bool false))], p ++ Rd l (a + 1) :: (q ++ [sO 0 [] 0 [] false, sO 5 (tk (l.drop a)).b 0 [] false])))
   else some (.ret, [(2, .ptr (p.length + (q.length + 1)) 0), (3, .v (.bool false))], p ++ Rd l a :: (q ++ [rO 5 (tk (l.drop a)).b 0 [] false, sO 5 (tk (l.drop a)).b 0 [] false])) := by
 have hlo2 : lo <= p.length + (q.length + 1) := by omega
 have hlo3 : lo <= p.length + (q.length + 1 + 1) := by omega
 have hlo4 : lo <= p.length + (q.length + 1 + 1 + 1) := by omega
 have n0 : ((0 : Nat) : Int) = 0 := rfl
 have c35 := fun q => f35 (q := q) (k := 0) (a := a) hlo hl (by omega)
 simp only [n0, Nat.add_zero] at c35
 have hw1 : IntKind.i64.wrap ((a : Int) + 1) = ((a + 1 : Nat) : Int) := wrap_succ (by omega)
 have c26 := fun q => f26 (a := a + 1) (l := l) (q := q) hlo
 generalize tk (l.drop a) = t at *
 simp only [row] at c35
 cases hk : t.k == 1 with
 | false =>
  have q1 : (t.k != 1) = true := by unfold bne; rw [hk]; rfl
  rw [if_neg (by simp)]
  simp only [go_sem, b46, Tryd.f46, hlo, hlo2, hlo3, hlo4, c35, q1]
  all_goals rfl
 | true =>
  have q1 : (t.k != 1) = false := by unfold bne; rw [hk]; rfl
  rw [if_pos rfl]
  cases he : (l.drop (a + 1)).isEmpty with
  | true =>
   rw [if_pos rfl]
   simp only [go_sem, b46, Tryd.f46, hlo, hlo2, hlo3, hlo4, c35, q1, hw1, c26, he]
   all_goals rfl
  | false =>
   rw [if_neg (by simp)]
   simp only [go_sem, b46, Tryd.f46, hlo, hlo2, hlo3, hlo4, c35, q1, hw1, c26, he]
   all_goals rfl
abbrev OPS : ByteArray := ⟨#[61, 126, 124, 94, 36, 42]⟩
abbrev N46 (p q : List Ob) (i : Nat) : Env := [(0, .ptr p.length 0), (2, .ptr (p.length + (q.length + 1)) 0), (4, .ptr (p.length + (q.length + 1 + 1)) 0), (30, .v (.int .i64 i))]
def hit (i : Nat) (c : Int) (x : List CV) : Bool := isD (tk x) c && (i == 0 || isD (tk x.tail) 61)
theorem drop_tail' (l : List CV) (i : Nat) : tk (l.drop i).tail = tk (l.drop (i + 1)) := by rw [List.tail_drop]
theorem r46 {i : Nat} {c : Int} {n : List Int} {B : ByteArray} (hi : i < 6) (hB : B = Rul.bs [c]) (hx : OPS.extract i (i + 1) = B) (hz : i = 0 /\ c = 61 \/ 0 < i /\ c ≠ 61) (hc : 0 <= c /\ c <= 255)
  (hlo : lo <= p.length) (hl : l.length <= 1000000000) (ha : a <= 1300000000) (ho : allL OkB l) :
  evCode (X46 lo p q) loopW l46x0 (N46 p q i, p ++ Rd l a :: (q ++ [sO 0 [] 0 [] false, sO 5 n 0 [] false])) =
   if hit i c (l.drop a) = true then some (.exit 0, [(0, .ptr p.length 0), (2, .ptr (p.length + (q.length + 1)) 0), (4, .ptr (p.length + (q.length + 1 + 1)) 0)], p ++ Rd l (a + (min i 1 + 1)) :: (q ++ [sO 0 [] 0 [] false, sO 5 n (i + 1) [] false]))
   else some (.normal, N46 p q (i + 1), p ++ Rd l a :: (q ++ [sO 0 [] 0 [] false, sO 5 n 0 [] false])) := by
 have hlo2 : lo <= p.length + (q.length + 1) := by omega
 have hlo3 : lo <= p.length + (q.length + 1 + 1) := by omega
 have hlo4 : lo <= p.length + (q.length + 1 + 1 + 1) := by omega
 have n0 : ((0 : Nat) : Int) = 0 := rfl
 have n1 : ((1 : Nat) : Int) = 1 := rfl
 have q1 : decide ((i : Int) < 6) = true := by rw [decide_eq_true_iff]; omega
 have hw : IntKind.i64.wrap ((i : Int) + 1) = ((i + 1 : Nat) : Int) := wrap_succ (by omega)
 have hw2 : IntKind.i64.wrap (1 + (i : Int)) = (i : Int) + 1 := by rw [wrap_i64 (by omega) (by omega)]; omega
 have hm : (if (1 : Int) < (i : Int) then (1 : Int) else (i : Int)) = ((min i 1 : Nat) : Int) := by split <;> omega
 have hw3 : IntKind.i64.wrap (((min i 1 : Nat) : Int) + 1) = ((min i 1 + 1 : Nat) : Int) := wrap_succ (by omega)
 have hw4 : IntKind.i64.wrap ((a : Int) + ((min i 1 + 1 : Nat) : Int)) = ((a + (min i 1 + 1) : Nat) : Int) := by rw [wrap_i64 (by omega) (by omega)]; omega
 have s6 : OPS.size = 6 := rfl
 have hi6 : i + 1 <= 6 := by omega
 have c28 := fun q => f28 (q := q) (k := 0) (a := a) (s := [c]) hlo hl (by omega) ho (by_one hc.1 hc.2)
 have c28b := fun q => f28 (q := q) (k := 1) (a := a) (s := [61]) hlo hl (by omega) ho (by_one (by omega) (by omega))
 have s1 : Rul.bs [61] = ⟨#[61]⟩ := rfl
 have qe : (B.toList == (⟨#[61]⟩ : ByteArray).toList) = (i == 0) := by
  rw [hB, <- s1, rbs_beq (by_one hc.1 hc.2) (by_one (by omega) (by omega))]
  rcases hz with ⟨h1, h2⟩ | ⟨h1, h2⟩
  ·rw [h1, h2]; rfl
  ·have e1 : (i == 0) = false := by simp; omega
   have e2 : ([c] == [(61 : Int)]) = false := by simp [h2]
   rw [e1, e2]
 simp only [n0, n1, Nat.add_zero, dl_one, <- hB] at c28 c28b
 rw [s1] at c28b
 unfold hit
 rw [drop_tail']
 generalize isD (tk (l.drop a)) c = d0 at *
 generalize isD (tk (l.drop (a + 1))) 61 = d1 at *
 generalize hM : min i 1 + 1 = M at *
 have hMi : ((M : Nat) : Int) = M := rfl
 cases d0 with
 | false =>
  rw [Bool.false_and, if_neg (by simp)]
  simp only [go_sem, l46x0, b46, Tryd.f46, hlo, hlo2, hlo3, hlo4, q1, hw, hx, s6, hi6, Nat.le_succ, c28, OPS]
  all_goals rfl
 | true =>
  rw [Bool.true_and]
  cases hz0 : i == 0 with
  | true =>
   rw [hz0] at qe
   rw [Bool.true_or, if_pos rfl]
   simp only [go_sem, l46x0, b46, Tryd.f46, hlo, hlo2, hlo3, hlo4, q1, hw, hw2, hw3, hw4, hm, hx, s6, hi6, Nat.le_succ, c28, qe, OPS]
   all_goals rfl
  | false =>
   rw [hz0] at qe
   rw [Bool.false_or]
   cases d1 with
   | false =>
    rw [if_neg (by simp)]
    simp only [go_sem, l46x0, b46, Tryd.f46, hlo, hlo2, hlo3, hlo4, q1, hw, hx, s6, hi6, Nat.le_succ, c28, c28b, qe, OPS]
    all_goals rfl
   | true =>
    rw [if_pos rfl]
    simp only [go_sem, l46x0, b46, Tryd.f46, hlo, hlo2, hlo3, hlo4, q1, hw, hw2, hw3, hw4, hm, hx, s6, hi6, Nat.le_succ, c28, c28b, qe, OPS]
    all_goals rfl
theorem stop46 {n : List Int} (hlo : lo <= p.length) :
  evCode (X46 lo p q) loopW l46x0 (N46 p q 6, p ++ Rd l a :: (q ++ [sO 0 [] 0 [] false, sO 5 n 0 [] false])) =
   some (.exit 0, N46 p q 6 ++ [(31, .v (.bool false))], p ++ Rd l a :: (q ++ [sO 0 [] 0 [] false, sO 5 n 0 [] false])) := by
 have q1 : decide (((6 : Nat) : Int) < 6) = false := rfl
 simp only [go_sem, l46x0, b46, Tryd.f46, hlo, q1]
 all_goals rfl
theorem loop46 {n : List Int} (hlo : lo <= p.length) (hl : l.length <= 1000000000) (ha : a <= 1300000000) (ho : allL OkB l) :
  match opT (l.drop a) with
  | some (o, r) => ∃ b, b <= a + 2 /\ l.drop b = r /\ o ≠ 0 /\ loopW (evCode (X46 lo p q) loopW l46x0) (N46 p q 0, p ++ Rd l a :: (q ++ [sO 0 [] 0 [] false, sO 5 n 0 [] false])) =
    some (.exit 0, [(0, .ptr p.length 0), (2, .ptr (p.length + (q.length + 1)) 0), (4, .ptr (p.length + (q.length + 1 + 1)) 0)], p ++ Rd l b :: (q ++ [sO 0 [] 0 [] false, sO 5 n o [] false]))
  | none => loopW (evCode (X46 lo p q) loopW l46x0) (N46 p q 0, p ++ Rd l a :: (q ++ [sO 0 [] 0 [] false, sO 5 n 0 [] false])) =
    some (.exit 0, N46 p q 6 ++ [(31, .v (.bool false))], p ++ Rd l a :: (q ++ [sO 0 [] 0 [] false, sO 5 n 0 [] false])) := by
 have r0 := r46 (i := 0) (c := 61) (n := n) (p := p) (q := q) (a := a) (by omega) rfl rfl (.inl ⟨rfl, rfl⟩) ⟨by omega, by omega⟩ hlo hl ha ho
 have r1 := r46 (i := 1) (c := 126) (n := n) (p := p) (q := q) (a := a) (by omega) rfl rfl (.inr ⟨by omega, by omega⟩) ⟨by omega, by omega⟩ hlo hl ha ho
 have r2 := r46 (i := 2) (c := 124) (n := n) (p := p) (q := q) (a := a) (by omega) rfl rfl (.inr ⟨by omega, by omega⟩) ⟨by omega, by omega⟩ hlo hl ha ho
 have r3 := r46 (i := 3) (c := 94) (n := n) (p := p) (q := q) (a := a) (by omega) rfl rfl (.inr ⟨by omega, by omega⟩) ⟨by omega, by omega⟩ hlo hl ha ho
 have r4 := r46 (i := 4) (c := 36) (n := n) (p := p) (q := q) (a := a) (by omega) rfl rfl (.inr ⟨by omega, by omega⟩) ⟨by omega, by omega⟩ hlo hl ha ho
 have r5 := r46 (i := 5) (c := 42) (n := n) (p := p) (q := q) (a := a) (by omega) rfl rfl (.inr ⟨by omega, by omega⟩) ⟨by omega, by omega⟩ hlo hl ha ho
 have r6 := stop46 (n := n) (p := p) (q := q) (l := l) (a := a) hlo
 have t1 := drop_tail l a
 have t2 := drop_tail l (a + 1)
 unfold opT
 unfold hit at r0 r1 r2 r3 r4 r5
 rw [t1] at r0 r1 r2 r3 r4 r5 ⊢
 rw [t2]
 have e0 : ((0 : Nat) == 0) = true := rfl
 generalize tk (l.drop a) = x at *
 generalize isD (tk (l.drop (a + 1))) 61 = y at *
 cases h0 : isD x 61 with
 | true =>
  rw [h0, e0, Bool.true_or, Bool.true_and, if_pos rfl] at r0
  rw [if_pos rfl]
  exact ⟨a + 1, by omega, rfl, by omega, by rw [loop_eq, r0, loop_e]; rfl⟩
 | false =>
  rw [h0, Bool.false_and, if_neg (by simp)] at r0
  rw [if_neg (by simp)]
  have e1 : ((1 : Nat) == 0) = false := rfl
  have e2 : ((2 : Nat) == 0) = false := rfl
  have e3 : ((3 : Nat) == 0) = false := rfl
  have e4 : ((4 : Nat) == 0) = false := rfl
  have e5 : ((5 : Nat) == 0) = false := rfl
  rw [e1, Bool.false_or] at r1
  rw [e2, Bool.false_or] at r2
  rw [e3, Bool.false_or] at r3
  rw [e4, Bool.false_or] at r4
  rw [e5, Bool.false_or] at r5
  cases y with
  | false =>
   rw [Bool.and_false, if_neg (by simp)] at r1 r2 r3 r4 r5
   rw [if_neg (by simp)]
   rw [loop_eq, r0, loop_n, loop_eq, r1, loop_n, loop_eq, r2, loop_n, loop_eq, r3, loop_n, loop_eq, r4, loop_n, loop_eq, r5, loop_n, loop_eq, r6, loop_e]
  | true =>
   rw [Bool.and_true] at r1 r2 r3 r4 r5
   rw [if_pos rfl]
   cases h1 : isD x 126 with
   | true =>
    rw [h1, if_pos rfl] at r1
    rw [if_pos rfl]
    exact ⟨a + 2, by omega, rfl, by omega, by rw [loop_eq, r0, loop_n, loop_eq, r1, loop_e]; rfl⟩
   | false =>
    rw [h1, if_neg (by simp)] at r1
    rw [if_neg (by simp)]
    cases h2 : isD x 124 with
    | true =>
     rw [h2, if_pos rfl] at r2
     rw [if_pos rfl]
     exact ⟨a + 2, by omega, rfl, by omega, by rw [loop_eq, r0, loop_n, loop_eq, r1, loop_n, loop_eq, r2, loop_e]; rfl⟩
    | false =>
     rw [h2, if_neg (by simp)] at r2
     rw [if_neg (by simp)]
     cases h3 : isD x 94 with
     | true =>
      rw [h3, if_pos rfl] at r3
      rw [if_pos rfl]
      exact ⟨a + 2, by omega, rfl, by omega, by rw [loop_eq, r0, loop_n, loop_eq, r1, loop_n, loop_eq, r2, loop_n, loop_eq, r3, loop_e]; rfl⟩
     | false =>
      rw [h3, if_neg (by simp)] at r3
      rw [if_neg (by simp)]
      cases h4 : isD x 36 with
      | true =>
       rw [h4, if_pos rfl] at r4
       rw [if_pos rfl]
       exact ⟨a + 2, by omega, rfl, by omega, by rw [loop_eq, r0, loop_n, loop_eq, r1, loop_n, loop_eq, r2, loop_n, loop_eq, r3, loop_n, loop_eq, r4, loop_e]; rfl⟩
      | false =>
       rw [h4, if_neg (by simp)] at r4
       rw [if_neg (by simp)]
       cases h5 : isD x 42 with
       | true =>
        rw [h5, if_pos rfl] at r5
        rw [if_pos rfl]
        exact ⟨a + 2, by omega, rfl, by omega, by rw [loop_eq, r0, loop_n, loop_eq, r1, loop_n, loop_eq, r2, loop_n, loop_eq, r3, loop_n, loop_eq, r4, loop_n, loop_eq, r5, loop_e]; rfl⟩
       | false =>
        rw [h5, if_neg (by simp)] at r5
        rw [if_neg (by simp)]
        rw [loop_eq, r0, loop_n, loop_eq, r1, loop_n, loop_eq, r2, loop_n, loop_eq, r3, loop_n, loop_eq, r4, loop_n, loop_eq, r5, loop_n, loop_eq, r6, loop_e]
theorem p46b {n : List Int} (hlo : lo <= p.length) (hl : l.length <= 1000000000) (ha : a <= 1300000000) (ho : allL OkB l) :
  ∃ b1, b1 <= max a l.length /\ l.drop b1 = db (l.drop a) /\
  match opT (l.drop b1) with
  | some (o, r) => ∃ b, b <= b1 + 2 /\ l.drop b = r /\ evL (X46 lo p q) loopW (pc b46 7 5) ([(0, .ptr p.length 0), (2, .ptr (p.length + (q.length + 1)) 0), (4, .ptr (p.length + (q.length + 1 + 1)) 0), (26, .v (.bool false))], p ++ Rd l a :: (q ++ [sO 0 [] 0 [] false, sO 5 n 0 [] false])) =
    some (.normal, [(0, .ptr p.length 0), (2, .ptr (p.length + (q.length + 1)) 0), (4, .ptr (p.length + (q.length + 1 + 1)) 0), (64, .v (.bool false))], p ++ Rd l b :: (q ++ [sO 0 [] 0 [] false, sO 5 n o [] false]))
  | none => evL (X46 lo p q) loopW (pc b46 7 5) ([(0, .ptr p.length 0), (2, .ptr (p.length + (q.length + 1)) 0), (4, .ptr (p.length + (q.length + 1 + 1)) 0), (26, .v (.bool false))], p ++ Rd l a :: (q ++ [sO 0 [] 0 [] false, sO 5 n 0 [] false])) =
    some (.ret, [(2, .ptr (p.length + (q.length + 1)) 0), (3, .v (.bool false))], p ++ Rd l b1 :: (q ++ [rO 5 n 0 [] false, sO 5 n 0 [] false])) := by
 have hlo2 : lo <= p.length + (q.length + 1) := by omega
 have hlo3 : lo <= p.length + (q.length + 1 + 1) := by omega
 have hlo4 : lo <= p.length + (q.length + 1 + 1 + 1) := by omega
 obtain ⟨b1, h1, h2, h3, c27⟩ := f27 (q := q ++ [sO 0 [] 0 [] false, sO 5 n 0 [] false]) hlo hl (a := a) (by omega)
 refine ⟨b1, h1, h3, ?_⟩
 have hL := loop46 (n := n) (p := p) (q := q) (a := b1) hlo hl (by omega) ho
 have n0 : ((0 : Nat) : Int) = 0 := rfl
 generalize ((tk (l.drop a)).k == 13) = y at *
 cases hop : opT (l.drop b1) with
 | none =>
  rw [hop] at hL
  simp only at hL ⊢
  simp only [N46, n0, l46x0, b46, Tryd.f46, loopAt, loops, bodyOf, go_sem] at hL
  simp only [go_sem, b46, Tryd.f46, hlo, hlo2, hlo3, hlo4, c27, hL]
  all_goals rfl
 | some x =>
  obtain ⟨o, r⟩ := x
  rw [hop] at hL
  simp only at hL ⊢
  obtain ⟨b, h4, h5, h6, hL⟩ := hL
  refine ⟨b, h4, h5, ?_⟩
  have qo : (o == 0) = false := by simpa using h6
  simp only [N46, n0, l46x0, b46, Tryd.f46, loopAt, loops, bodyOf, go_sem] at hL
  simp only [go_sem, b46, Tryd.f46, hlo, hlo2, hlo3, hlo4, c27, hL, qo]
  all_goals rfl
theorem p46c {n : List Int} {o : Int} (hlo : lo <= p.length) (hl : l.length <= 1000000000) (ha : a <= 1300000000) (ho : allL OkB l) :
  ∃ (b : Nat), b <= max a l.length /\ l.drop b = db (l.drop a) /\ evL (X46 lo p q) loopW (pc b46 12 4) ([(0, .ptr p.length 0), (2, .ptr (p.length + (q.length + 1)) 0), (4, .ptr (p.length + (q.length + 1 + 1)) 0), (64, .v (.bool false))], p ++ Rd l a :: (q ++ [sO 0 [] 0 [] false, sO 5 n o [] false])) =
   if ((tk (l.drop b)).k == 1 || (tk (l.drop b)).k == 5) = true then some (.normal, [(0, .ptr p.length 0), (2, .ptr (p.length + (q.length + 1)) 0), (4, .ptr (p.length + (q.length + 1 + 1)) 0), (7, .ptr (p.length + (q.length + 1 + 1 + 1)) 0), (77, .v (.bool false))], p ++ Rd l b :: (q ++ [sO 0 [] 0 [] false, sO 5 n o [] false, .cells (row (tk (l.drop b)))]))
   else some (.ret, [(2, .ptr (p.length + (q.length + 1)) 0), (3, .v (.bool false))], p ++ Rd l b :: (q ++ [rO 5 n o [] false, sO 5 n o [] false, .cells (row (tk (l.drop b)))])) := by
 have hlo2 : lo <= p.length + (q.length + 1) := by omega
 have hlo3 : lo <= p.length + (q.length + 1 + 1) := by omega
 have hlo4 : lo <= p.length + (q.length + 1 + 1 + 1) := by omega
 have hlo5 : lo <= p.length + (q.length + 1 + 1 + 1 + 1) := by omega
 have n0 : ((0 : Nat) : Int) = 0 := rfl
 obtain ⟨b1, h1, h2, h3, c27⟩ := f27 (q := q ++ [sO 0 [] 0 [] false, sO 5 n o [] false]) hlo hl (a := a) (by omega)
 refine ⟨b1, h1, h3, ?_⟩
 have c35 := fun q => f35 (q := q) (k := 0) (a := b1) hlo hl (by omega)
 simp only [n0, Nat.add_zero] at c35
 generalize ((tk (l.drop a)).k == 13) = y at *
 generalize tk (l.drop b1) = t at *
 simp only [row] at c35
 cases hk1 : t.k == 1 with
 | true =>
  have k1 : (t.k != 1) = false := by unfold bne; rw [hk1]; rfl
  rw [Bool.true_or, if_pos rfl]
  simp only [go_sem, b46, Tryd.f46, hlo, hlo2, hlo3, hlo4, hlo5, c27, c35, k1, row]
  all_goals rfl
 | false =>
  have k1 : (t.k != 1) = true := by unfold bne; rw [hk1]; rfl
  rw [Bool.false_or]
  cases hk5 : t.k == 5 with
  | true =>
   have k5 : (t.k != 5) = false := by unfold bne; rw [hk5]; rfl
   rw [if_pos rfl]
   simp only [go_sem, b46, Tryd.f46, hlo, hlo2, hlo3, hlo4, hlo5, c27, c35, k1, k5, row]
   all_goals rfl
  | false =>
   have k5 : (t.k != 5) = true := by unfold bne; rw [hk5]; rfl
   rw [if_neg (by simp)]
   simp only [go_sem, b46, Tryd.f46, hlo, hlo2, hlo3, hlo4, hlo5, c27, c35, k1, k5, row]
   all_goals rfl
theorem p46d {n : List Int} {o : Int} {t : Tk4} (hlo : lo <= p.length) (hl : l.length <= 1000000000) (ha : a <= 1300000000) (ho : allL OkB l) :
  ∃ (f ok : Bool) (b : Nat) (Y : List Ob), b <= max a l.length + 2 /\ evL (X46 lo p q) loopW (pc b46 16 11) ([(0, .ptr p.length 0), (2, .ptr (p.length + (q.length + 1)) 0), (4, .ptr (p.length + (q.length + 1 + 1)) 0), (7, .ptr (p.length + (q.length + 1 + 1 + 1)) 0), (77, .v (.bool false))], p ++ Rd l a :: (q ++ [sO 0 [] 0 [] false, sO 5 n o [] false, .cells (row t)])) =
    some (.ret, [(2, .ptr (p.length + (q.length + 1)) 0), (3, .v (.bool ok))], p ++ Rd l b :: (q ++ rO 5 n o t.b f :: Y)) /\
   foldT (l.drop (a + 1)) = if ok = true then some f else none := by
 have hlo2 : lo <= p.length + (q.length + 1) := by omega
 have hlo3 : lo <= p.length + (q.length + 1 + 1) := by omega
 have hlo4 : lo <= p.length + (q.length + 1 + 1 + 1) := by omega
 have hlo5 : lo <= p.length + (q.length + 1 + 1 + 1 + 1) := by omega
 have n0 : ((0 : Nat) : Int) = 0 := rfl
 have hw1 : IntKind.i64.wrap ((a : Int) + 1) = ((a + 1 : Nat) : Int) := wrap_succ (by omega)
 have c26 := fun q => f26 (a := a + 1) (l := l) (q := q) hlo
 unfold foldT
 cases he : (l.drop (a + 1)).isEmpty with
 | true =>
  rw [if_pos rfl]
  refine ⟨false, true, a + 1, [sO 5 n o t.b false, .cells (row t)], by omega, ?_, rfl⟩
  simp only [go_sem, b46, Tryd.f46, hlo, hlo2, hlo3, hlo4, hlo5, hw1, c26, he, row]
  all_goals rfl
 | false =>
  rw [if_neg (by simp)]
  obtain ⟨b2, h4, h5, h6, c27b⟩ := f27 (q := q ++ [sO 0 [] 0 [] false, sO 5 n o t.b false, .cells (row t)]) hlo hl (a := a + 1) (by omega)
  rw [<- h6, drop_tail]
  have c35b := fun q => f35 (q := q) (k := 0) (a := b2) hlo hl (by omega)
  simp only [n0, Nat.add_zero] at c35b
  have hok := ok_tk (ok_drop (a := b2) ho)
  have hw2 : IntKind.i64.wrap ((b2 : Int) + 1) = ((b2 + 1 : Nat) : Int) := wrap_succ (by omega)
  have c26b := fun lo' q => f26u (lo' := lo') (p := p) (a := b2 + 1) (l := l) (q := q)
  have c63 := fun X Q => f63 (lo := lo) (h := p ++ X :: Q) (by simp; omega) (by have := hok.hl; omega) hok.hy
  have hws := small_by hok.hy
  have qi := rbs_beq hws (by_one (c := 105) (by omega) (by omega))
  have qs := rbs_beq hws (by_one (c := 115) (by omega) (by omega))
  have s1 : Rul.bs [105] = ⟨#[105]⟩ := rfl
  have s2 : Rul.bs [115] = ⟨#[115]⟩ := rfl
  rw [s1] at qi
  rw [s2] at qs
  generalize ((tk (l.drop (a + 1))).k == 13) = y2 at *
  generalize tk (l.drop b2) = u at *
  simp only [row] at c35b c27b
  generalize (l.drop (b2 + 1)).isEmpty = fin at *
  generalize (small u.b == [105]) = w1 at *
  generalize (small u.b == [115]) = w2 at *
  cases hk2 : u.k == 1 with
  | false =>
   rw [Bool.false_and, if_neg (by simp)]
   refine ⟨w1, false, b2 + 1, [sO 5 n o t.b w1, .cells (row u)], by omega, ?_, rfl⟩
   simp only [go_sem, b46, Tryd.f46, hlo, hlo2, hlo3, hlo4, hlo5, hw1, c26, he, c27b, c35b, c63, hw2, c26b, qi, qs, row, hk2]
   all_goals rfl
  | true =>
   rw [Bool.true_and]
   cases w1 with
   | true =>
    rw [Bool.true_or, Bool.true_and]
    refine ⟨true, fin, b2 + 1, [sO 5 n o t.b true, .cells (row u)], by omega, ?_, rfl⟩
    simp only [go_sem, b46, Tryd.f46, hlo, hlo2, hlo3, hlo4, hlo5, hw1, c26, he, c27b, c35b, c63, hw2, c26b, qi, qs, row, hk2]
    all_goals rfl
   | false =>
    rw [Bool.false_or]
    cases w2 with
    | true =>
     rw [Bool.true_and]
     refine ⟨false, fin, b2 + 1, [sO 5 n o t.b false, .cells (row u)], by omega, ?_, rfl⟩
     simp only [go_sem, b46, Tryd.f46, hlo, hlo2, hlo3, hlo4, hlo5, hw1, c26, he, c27b, c35b, c63, hw2, c26b, qi, qs, row, hk2]
     all_goals rfl
    | false =>
     rw [Bool.false_and, if_neg (by simp)]
     refine ⟨false, false, b2 + 1, [sO 5 n o t.b false, .cells (row u)], by omega, ?_, rfl⟩
     simp only [go_sem, b46, Tryd.f46, hlo, hlo2, hlo3, hlo4, hlo5, hw1, c26, he, c27b, c35b, c63, hw2, c26b, qi, qs, row, hk2]
     all_goals rfl
theorem fin46 {k : Int} {n v : List Int} {o : Int} {f ok : Bool} {b : Nat} {Y : List Ob} : fin Tryd.prog [.cell 2 51, .tmp 3] (p.length + (q.length + 1)) (some (.ret, [(2, .ptr (p.length + (q.length + 1)) 0), (3, .v (.bool ok))], p ++ Rd l b :: (q ++ rO k n o v f :: Y))) =
  some (.tup [.agg (smV (.mk k n o v f [] 0 0)), .v (.bool ok)], p ++ Rd l b :: q) := by
 rw [smV, cxsC]
 simp only [go_sem]
 all_goals rfl
theorem attr_cd (l : List CV) : attrT cd l = if ((tk l).k == 1) = true then
  if l.tail.isEmpty = true then some (.mk 5 (tk l).b 0 [] false [] 0 0)
  else match opT (db l.tail) with
   | none => none
   | some (o, r) => if ((tk (db r)).k == 1 || (tk (db r)).k == 5) = true then
     (foldT (db r).tail).map fun f => .mk 5 (tk l).b o (tk (db r)).b f [] 0 0
    else none
  else none := by
 unfold attrT cd
 simp only [Bool.and_true]
 all_goals rfl
theorem f46 (hlo : lo <= p.length) (hl : l.length <= 1000000000) (ha : a <= 1200000000) (ho : allL OkB l) :
  ∃ (s : Sm) (ok : Bool) (b : Nat), b <= max a l.length + 5 /\ E lo 46 [.ptr p.length 0] (p ++ Rd l a :: q) = some (.tup [.agg (smV s), .v (.bool ok)], p ++ Rd l b :: q) /\
   attrT cd (l.drop a) = if ok = true then some s else none := by
 have hlen : (p ++ Rd l a :: q).length = p.length + (q.length + 1) := by simp
 have hA := p46a (q := q) (a := a) hlo hl (by omega) ho
 rw [attr_cd, drop_tail]
 cases hk : (tk (l.drop a)).k == 1 with
 | false =>
  rw [hk, if_neg (by simp)] at hA
  rw [if_neg (by simp)]
  refine ⟨.mk 5 (tk (l.drop a)).b 0 [] false [] 0 0, false, a, by omega, ?_, rfl⟩
  rw [e46 (by simp) (by rfl), hlen, pc_in, pc_go _ _ _ _ 0 7, hA, pc_r]
  exact fin46
 | true =>
  rw [hk, if_pos rfl] at hA
  rw [if_pos rfl]
  cases he : (l.drop (a + 1)).isEmpty with
  | true =>
   rw [he, if_pos rfl] at hA
   rw [if_pos rfl]
   refine ⟨.mk 5 (tk (l.drop a)).b 0 [] false [] 0 0, true, a + 1, by omega, ?_, rfl⟩
   rw [e46 (by simp) (by rfl), hlen, pc_in, pc_go _ _ _ _ 0 7, hA, pc_r]
   exact fin46
  | false =>
   rw [he, if_neg (by simp)] at hA
   rw [if_neg (by simp)]
   obtain ⟨b1, h1, h2, hB⟩ := p46b (n := (tk (l.drop a)).b) (p := p) (q := q) (a := a + 1) hlo hl (by omega) ho
   rw [<- h2]
   cases hop : opT (l.drop b1) with
   | none =>
    rw [hop] at hB
    simp only at hB ⊢
    refine ⟨.mk 5 (tk (l.drop a)).b 0 [] false [] 0 0, false, b1, by omega, ?_, rfl⟩
    rw [e46 (by simp) (by rfl), hlen, pc_in, pc_go _ _ _ _ 0 7, hA, pc_go _ _ _ _ _ 5, hB, pc_r]
    exact fin46
   | some x =>
    obtain ⟨o, r⟩ := x
    rw [hop] at hB
    simp only at hB ⊢
    obtain ⟨b, h4, h5, hB⟩ := hB
    rw [<- h5]
    obtain ⟨b2, h6, h7, hC⟩ := p46c (n := (tk (l.drop a)).b) (o := o) (p := p) (q := q) (a := b) hlo hl (by omega) ho
    rw [<- h7, drop_tail]
    cases hk2 : (tk (l.drop b2)).k == 1 || (tk (l.drop b2)).k == 5 with
    | false =>
     rw [hk2, if_neg (by simp)] at hC
     rw [if_neg (by simp)]
     refine ⟨.mk 5 (tk (l.drop a)).b o [] false [] 0 0, false, b2, by omega, ?_, rfl⟩
     rw [e46 (by simp) (by rfl), hlen, pc_in, pc_go _ _ _ _ 0 7, hA, pc_go _ _ _ _ _ 5, hB, pc_go _ _ _ _ _ 4, hC, pc_r]
     exact fin46
    | true =>
     rw [hk2, if_pos rfl] at hC
     rw [if_pos rfl]
     obtain ⟨f, ok, b3, Y, h8, hD, hs⟩ := p46d (n := (tk (l.drop a)).b) (o := o) (t := tk (l.drop b2)) (p := p) (q := q) (a := b2) hlo hl (by omega) ho
     rw [hs]
     refine ⟨.mk 5 (tk (l.drop a)).b o (tk (l.drop b2)).b f [] 0 0, ok, b3, by omega, ?_, ?_⟩
     ·rw [e46 (by simp) (by rfl), hlen, pc_in, pc_go _ _ _ _ 0 7, hA, pc_go _ _ _ _ _ 5, hB, pc_go _ _ _ _ _ 4, hC, pc_go _ _ _ _ _ 11, hD, pc_r]
      exact fin46
     ·cases ok <;> rfl
end
end Go.Lift.Q1
end

section
open Go.Proofs
namespace Go.Lift.Q1
open Rul
open Utf (By)
open Sel (tk tz isD db Sm Cx Cp smV cxsC kindT kind_range pseudoT stepT)
variable [MX]
variable {lo : Nat} {h : Heap}
@[go_sem] theorem unt_mp (b : Nat) : untag1 (.mp b) = .mp b := rfl
@[go_sem] theorem unc_mp (b : Nat) : untagC1 (.mp b) = .mp b := rfl
@[go_sem] theorem own_mp (b : Nat) : own1 (.mp b) = .mp b := rfl
@[go_sem] theorem cps_mp (b : Nat) : cps (.mp b) = .mp b := rfl
@[go_sem] theorem fzs_mp (b : Nat) : fzs (.mp b) = .mp b := rfl
@[go_sem] theorem mv_mp (vars : List Nat) (t b : Nat) : moveV vars t (.mp b) = some (.mp b) := rfl
def KN : List (List Int × Int) := [([114, 111, 111, 116], 9), ([101, 109, 112, 116, 121], 10), ([102, 105, 114, 115, 116, 45, 99, 104, 105, 108, 100], 11), ([108, 97, 115, 116, 45, 99, 104, 105, 108, 100], 12), ([111, 110, 108, 121, 45, 99, 104, 105, 108, 100], 13),
 ([110, 111, 116], 6), ([105, 115], 7), ([119, 104, 101, 114, 101], 8), ([110, 116, 104, 45, 99, 104, 105, 108, 100], 14), ([110, 116, 104, 45, 108, 97, 115, 116, 45, 99, 104, 105, 108, 100], 15)]
def esK (ps : List (List Int × Int)) : List (Value × Value) := ps.map fun p => (.string (Rul.bs p.1), .int .i64 p.2)
theorem put0 : putT Tryd.prog 9 (.string ⟨#[114, 111, 111, 116]⟩) (.int .i64 9) [] = some (esK (KN.take 1)) := by kernel_rfl
theorem put1 : putT Tryd.prog 9 (.string ⟨#[101, 109, 112, 116, 121]⟩) (.int .i64 10) (esK (KN.take 1)) = some (esK (KN.take 2)) := by kernel_rfl
theorem put2 : putT Tryd.prog 9 (.string ⟨#[102, 105, 114, 115, 116, 45, 99, 104, 105, 108, 100]⟩) (.int .i64 11) (esK (KN.take 2)) = some (esK (KN.take 3)) := by kernel_rfl
theorem put3 : putT Tryd.prog 9 (.string ⟨#[108, 97, 115, 116, 45, 99, 104, 105, 108, 100]⟩) (.int .i64 12) (esK (KN.take 3)) = some (esK (KN.take 4)) := by kernel_rfl
theorem put4 : putT Tryd.prog 9 (.string ⟨#[111, 110, 108, 121, 45, 99, 104, 105, 108, 100]⟩) (.int .i64 13) (esK (KN.take 4)) = some (esK (KN.take 5)) := by kernel_rfl
theorem put5 : putT Tryd.prog 9 (.string ⟨#[110, 111, 116]⟩) (.int .i64 6) (esK (KN.take 5)) = some (esK (KN.take 6)) := by kernel_rfl
theorem put6 : putT Tryd.prog 9 (.string ⟨#[105, 115]⟩) (.int .i64 7) (esK (KN.take 6)) = some (esK (KN.take 7)) := by kernel_rfl
theorem put7 : putT Tryd.prog 9 (.string ⟨#[119, 104, 101, 114, 101]⟩) (.int .i64 8) (esK (KN.take 7)) = some (esK (KN.take 8)) := by kernel_rfl
theorem put8 : putT Tryd.prog 9 (.string ⟨#[110, 116, 104, 45, 99, 104, 105, 108, 100]⟩) (.int .i64 14) (esK (KN.take 8)) = some (esK (KN.take 9)) := by kernel_rfl
theorem put9 : putT Tryd.prog 9 (.string ⟨#[110, 116, 104, 45, 108, 97, 115, 116, 45, 99, 104, 105, 108, 100]⟩) (.int .i64 15) (esK (KN.take 9)) = some (esK KN) := by kernel_rfl
theorem f64 (hlo : lo <= h.length) : E lo 64 [] h = some (.mp h.length, h ++ [.tab (esK KN)]) := by
 have l1 : lo <= h.length + 1 := by omega
 rw [e64 (by simp) (by rfl)]
 simp only [go_sem, insertV, b64, Tryd.f64, hlo, l1, put0, put1, put2, put3, put4, put5, put6, put7, put8, put9]
 all_goals rfl
theorem find_k {w : List Int} (hw : By w) : ∀ (ps : List (List Int × Int)) (i : Nat), (∀ p ∈ ps, By p.1) ->
  ∃ o, findT .string (.string (Rul.bs w)) (esK ps) i = some o /\ o.map (·.2) = (ps.find? fun p => w == p.1).map fun p => .int .i64 p.2
 | [], _, _ => ⟨none, rfl, rfl⟩
 | p :: r, i, h => by
  have hq := rbs_beq hw (h p (by simp))
  show ∃ o, (match sameT .string (.string (Rul.bs w)) (.string (Rul.bs p.1)) with
   | some true => some (some (i, (.int .i64 p.2 : Value)))
   | some false => findT .string (.string (Rul.bs w)) (esK r) (i + 1)
   | none => none) = some o /\ _
  unfold sameT
  simp only
  rw [hq, List.find?_cons]
  cases w == p.1 with
  | true => exact ⟨_, rfl, rfl⟩
  | false => exact find_k hw r (i + 1) fun q hm => h q (by simp [hm])
theorem kn_by : ∀ p ∈ KN, By p.1 := by
 intro p hp c hc
 have hall : (KN.all fun p => p.1.all fun c => decide (0 <= c) && decide (c <= 255)) = true := by decide
 have h1 := List.all_eq_true.1 hall p hp
 have h2 := List.all_eq_true.1 h1 c hc
 simp only [Bool.and_eq_true, decide_eq_true_eq] at h2
 omega
theorem kind_find (w : List Int) : kindT w = ((KN.find? fun p => w == p.1).map (·.2)).getD 0 := by
 unfold kindT KN
 cases q0 : w == [114, 111, 111, 116] with
 | true => simp [List.find?_cons, q0]
 | false =>
 cases q1 : w == [101, 109, 112, 116, 121] with
 | true => simp [List.find?_cons, q0, q1]
 | false =>
 cases q2 : w == [102, 105, 114, 115, 116, 45, 99, 104, 105, 108, 100] with
 | true => simp [List.find?_cons, q0, q1, q2]
 | false =>
 cases q3 : w == [108, 97, 115, 116, 45, 99, 104, 105, 108, 100] with
 | true => simp [List.find?_cons, q0, q1, q2, q3]
 | false =>
 cases q4 : w == [111, 110, 108, 121, 45, 99, 104, 105, 108, 100] with
 | true => simp [List.find?_cons, q0, q1, q2, q3, q4]
 | false =>
 cases q5 : w == [110, 111, 116] with
 | true => simp [List.find?_cons, q0, q1, q2, q3, q4, q5]
 | false =>
 cases q6 : w == [105, 115] with
 | true => simp [List.find?_cons, q0, q1, q2, q3, q4, q5, q6]
 | false =>
 cases q7 : w == [119, 104, 101, 114, 101] with
 | true => simp [List.find?_cons, q0, q1, q2, q3, q4, q5, q6, q7]
 | false =>
 cases q8 : w == [110, 116, 104, 45, 99, 104, 105, 108, 100] with
 | true => simp [List.find?_cons, q0, q1, q2, q3, q4, q5, q6, q7, q8]
 | false =>
 cases q9 : w == [110, 116, 104, 45, 108, 97, 115, 116, 45, 99, 104, 105, 108, 100] with
 | true => simp [List.find?_cons, q0, q1, q2, q3, q4, q5, q6, q7, q8, q9]
 | false => simp [List.find?_cons, q0, q1, q2, q3, q4, q5, q6, q7, q8, q9]
theorem zero3 : zero1 Tryd.prog 3 = some (.int .i64 0) := by kernel_rfl
theorem look_k {w : List Int} (hw : By w) : lookT Tryd.prog 9 3 (.string (Rul.bs w)) (esK KN) false = some (.v (.int .i64 (kindT w))) := by
 obtain ⟨o, h1, h2⟩ := find_k hw KN 0 kn_by
 unfold lookT
 rw [Tryd.underlying9, kind_find]
 simp only [keyT, if_true, h1, zero3]
 cases hf : KN.find? fun p => w == p.1 with
 | none =>
  rw [hf] at h2
  cases o with
  | none => rfl
  | some x => cases h2
 | some p =>
  rw [hf] at h2
  cases o with
  | none => cases h2
  | some x =>
   obtain ⟨j, y⟩ := x
   have : y = .int .i64 p.2 := by simpa using h2
   subst this
   rfl
end Go.Lift.Q1
end

section
open Go.Proofs
namespace Go.Lift.Q1
open Rul
open Utf (By)
open Sel (tk tz isD db wholeT digitsT tailT isStep step_iff addT behindT nameT stepT whole_step)
variable [MX]
def bN (l : List CV) (a : Nat) : Nat := if (db (l.drop a)).isEmpty = true then max a l.length else l.length - (db (l.drop a)).length
section
variable {a : Nat} {l : List CV}
theorem bN_of {b : Nat} (h1 : b <= max a l.length) (h2 : a <= b) (h3 : l.drop b = db (l.drop a)) : b = bN l a := by
 have hl := congrArg List.length h3
 rw [List.length_drop] at hl
 unfold bN
 cases he : (db (l.drop a)).isEmpty with
 | true =>
  rw [if_pos rfl]
  have : (db (l.drop a)).length = 0 := by rw [List.isEmpty_iff.1 he]; rfl
  omega
 | false =>
  rw [if_neg (by simp)]
  have : (db (l.drop a)).length ≠ 0 := fun h => by rw [List.length_eq_zero_iff.1 h] at he; cases he
  omega
theorem f27u (hl : l.length <= 1000000000) (ha : a <= 2000000000) {lo : Nat} {p q : List Ob} (hlo : lo <= p.length) : E lo 27 [.ptr p.length 0] (p ++ Rd l a :: q) = some (.v (.bool ((tk (l.drop a)).k == 13)), p ++ Rd l (bN l a) :: q) := by
 obtain ⟨b, h1, h2, h3, h4⟩ := f27 (q := q) hlo hl ha
 rw [<- bN_of h1 h2 h3]
 exact h4
theorem bN_facts (hl : l.length <= 1000000000) (ha : a <= 2000000000) : bN l a <= max a l.length /\ a <= bN l a /\ l.drop (bN l a) = db (l.drop a) := by
 obtain ⟨b, h1, h2, h3, h4⟩ := f27 (lo := 0) (p := []) (q := []) (Nat.le_refl _) hl ha
 rw [<- bN_of h1 h2 h3]
 exact ⟨h1, h2, h3⟩
theorem f80u {s : List Int} (hy : By s) (hl : s.length <= 1000000000) : ∃ x : Int, (∀ (lo : Nat) (h : Heap), lo <= h.length -> E lo 80 [.v (.string (Rul.bs s))] h = some (.tup [.v (.int .i64 x), .v (.bool (tailT s).isSome)], h)) /\ ∀ b, tailT s = some b -> x = b := by
 have hz : (Rul.bs s).size = s.length := by simp [Rul.bs, ByteArray.size, u8s]
 unfold tailT
 by_cases h1 : s.length < 1
 ·have a1 : decide ((s.length : Int) < 1) = true := by rw [decide_eq_true_iff]; omega
  refine ⟨0, fun lo h hlo => ?_, fun b hb => by rw [if_neg (by omega)] at hb; cases hb⟩
  rw [if_neg (by omega), e80 (by simp) (by rfl)]
  simp only [go_sem, b80, Tryd.f80, hlo, hz, a1]
  all_goals rfl
 have a1 : decide ((s.length : Int) < 1) = false := by rw [decide_eq_false_iff_not]; omega
 by_cases h2 : 10 < s.length
 ·have a2 : decide ((10 : Int) < (s.length : Int)) = true := by rw [decide_eq_true_iff]; omega
  refine ⟨0, fun lo h hlo => ?_, fun b hb => by rw [if_neg (by omega)] at hb; cases hb⟩
  rw [if_neg (by omega), e80 (by simp) (by rfl)]
  simp only [go_sem, b80, Tryd.f80, hlo, hz, a1, a2]
  all_goals rfl
 have a2 : decide ((10 : Int) < (s.length : Int)) = false := by rw [decide_eq_false_iff_not]; omega
 rw [if_pos (by omega)]
 have hLL := fun (lo : Nat) (h : Heap) (hlo : lo <= h.length) => loop80 (h := h) hlo (by omega) hy s.length 0 0 (by omega) (by omega) (by omega) (by decide)
 simp only [List.drop_zero] at hLL
 have hbr : byteRows (Rul.bs s) = ri .u8 s := bytes_bs hy
 have n0 : ((0 : Nat) : Int) = 0 := rfl
 have hlr : (ri .u8 s).length = s.length := by simp [ri]
 cases hd : digitsT 0 s with
 | none =>
  refine ⟨0, fun lo h hlo => ?_, fun b hb => by cases hb⟩
  have hL := (hLL lo h hlo).2
  rw [hd] at hL
  rw [e80 (by simp) (by rfl)]
  simp only [l80x0, b80, Tryd.f80, loopAt, loops, bodyOf, go_sem, n0] at hL
  simp only [go_sem, b80, Tryd.f80, hlo, hz, a1, a2, hbr, hL, hlr]
  all_goals rfl
 | some r =>
  obtain ⟨r0, r1⟩ := (hLL 0 [] (Nat.le_refl _)).1 r hd
  have w1 : IntKind.i64.wrap (0 - r) = -r := by rw [wrap_i64 (by omega) (by omega)]; omega
  refine ⟨-r, fun lo h hlo => ?_, fun b hb => ?_⟩
  ·have hL := (hLL lo h hlo).2
   rw [hd] at hL
   rw [e80 (by simp) (by rfl)]
   simp only [l80x0, b80, Tryd.f80, loopAt, loops, bodyOf, go_sem, n0] at hL
   have q : (if r <= 1073741824 then some (-r) else none).isSome = decide (r <= 1073741824) := by
    by_cases h : r <= 1073741824
    ·rw [if_pos h]; simp [h]
    ·rw [if_neg h]; simp [h]
   simp only [q]
   simp only [go_sem, b80, Tryd.f80, hlo, hz, a1, a2, hbr, hL, w1, hlr]
   all_goals rfl
  ·simp only at hb
   split at hb
   ·cases hb; rfl
   ·cases hb
theorem f81u (hl : l.length <= 1000000000) (ha : a <= 1500000000) (ho : allL OkB l) :
  ∃ (x : Int) (ok : Bool) (b : Nat), b <= max a l.length + 2 /\ (∀ (lo : Nat) (p q : List Ob), lo <= p.length -> E lo 81 [.ptr p.length 0] (p ++ Rd l a :: q) = some (.tup [.v (.int .i64 x), .v (.bool ok)], p ++ Rd l b :: q)) /\
   behindT (l.drop a) = if (ok && (l.drop b).isEmpty) = true then some x else none := by
 obtain ⟨h1, h2, e1⟩ := bN_facts (a := a) hl (by omega)
 have c27 := fun (lo : Nat) (p q : List Ob) (hlo : lo <= p.length) => f27u (a := a) (q := q) hl (by omega) hlo
 generalize bN l a = b1 at *
 have n0 : ((0 : Nat) : Int) = 0 := rfl
 have c35 := fun (lo : Nat) (p q : List Ob) (hlo : lo <= p.length) => f35 (q := q) (k := 0) (a := b1) hlo hl (by omega)
 simp only [n0, Nat.add_zero] at c35
 have hok := ok_tk (ok_drop (a := b1) ho)
 have hw1 : IntKind.i64.wrap ((b1 : Int) + 1) = ((b1 + 1 : Nat) : Int) := wrap_succ (by omega)
 unfold behindT
 rw [<- e1]
 cases hk : (tk (l.drop b1)).k == 10 with
 | true =>
  have hlt : b1 < l.length := tk_lt (by
                     have : (tk (l.drop b1)).k = 10 := by simpa using hk
                     omega)
  obtain ⟨ks, hg⟩ := tk_get hlt
  have hw2 : IntKind.i64.wrap (((b1 + 1 : Nat) : Int) - 1) = (b1 : Int) := by rw [wrap_i64 (by omega) (by omega)]; omega
  have c77 := fun (p q : List Ob) X => f77 (lo := p.length + (q.length + 1)) (h := p ++ X :: q) (by simp) hok
  rw [if_pos rfl, drop_tail]
  generalize tk (l.drop b1) = t at c35 hg c77 hk
  simp only [rowV_eq, row, List.cons_append, List.nil_append] at hg c35 c77
  simp only [numV] at c77
  refine ⟨(wholeT t).getD 0, (wholeT t).isSome, b1 + 1, by omega, fun lo p q hlo => ?_, ?_⟩
  ·have hlo2 : lo <= p.length + (q.length + 1) := by omega
   have hlo3 : lo <= p.length + (q.length + 1) + 1 := by omega
   rw [e81 (by simp) (by rfl)]
   simp only [go_sem, b81, Tryd.f81, hlo, hlo2, hlo3, c27, c35, hk, hw1, hw2, hg, c77]
   all_goals rfl
  ·cases wholeT t with
   | none => split <;> rfl
   | some n => rfl
 | false =>
  rw [if_neg (by simp)]
  have c28 := fun (lo : Nat) (p q : List Ob) (hlo : lo <= p.length) => f28 (q := q) (k := 0) (a := b1) (s := [43, 45]) hlo hl (by omega) ho by_pm
  have c28b := fun (lo : Nat) (p q : List Ob) (hlo : lo <= p.length) => f28 (q := q) (k := 0) (a := b1) (s := [45]) hlo hl (by omega) ho (by_one (by omega) (by omega))
  have s1 : Rul.bs [43, 45] = ⟨#[43, 45]⟩ := rfl
  have s2 : Rul.bs [45] = ⟨#[45]⟩ := rfl
  simp only [n0, Nat.add_zero, dl_pm, s1] at c28
  simp only [n0, Nat.add_zero, dl_one, s2] at c28b
  cases hp : isD (tk (l.drop b1)) 43 || isD (tk (l.drop b1)) 45 with
  | false =>
   rw [Bool.or_eq_false_iff] at hp
   simp only [hp.1, hp.2, Bool.or_self] at c28
   rw [hp.1, hp.2, if_neg (by simp), if_neg (by simp)]
   simp only [row] at c35
   refine ⟨0, false, b1, by omega, fun lo p q hlo => ?_, rfl⟩
   have hlo2 : lo <= p.length + (q.length + 1) := by omega
   have hlo3 : lo <= p.length + (q.length + 1) + 1 := by omega
   rw [e81 (by simp) (by rfl)]
   simp only [go_sem, b81, Tryd.f81, hlo, hlo2, hlo3, c27, c35, hk, c28, Bool.or_self]
   all_goals rfl
  | true =>
   simp only [hp] at c28
   have eP : (if isD (tk (l.drop b1)) 43 = true then addT false (db (l.drop b1).tail) else if isD (tk (l.drop b1)) 45 = true then addT true (db (l.drop b1).tail) else none) = addT (isD (tk (l.drop b1)) 45) (db (l.drop b1).tail) := by
    cases h43 : isD (tk (l.drop b1)) 43 with
    | true =>
     have : isD (tk (l.drop b1)) 45 = false := by
      unfold isD at h43 ⊢
      simp only [Bool.and_eq_true, beq_iff_eq] at h43
      rw [h43.2]; simp
     rw [if_pos rfl, this]
    | false =>
     rw [h43, Bool.false_or] at hp
     rw [hp]; rfl
   rw [eP, drop_tail]
   obtain ⟨h3, h4, e2⟩ := bN_facts (a := b1 + 1) hl (by omega)
   have c27b := fun (lo : Nat) (p q : List Ob) (hlo : lo <= p.length) => f27u (a := b1 + 1) (q := q) hl (by omega) hlo
   generalize bN l (b1 + 1) = b2 at *
   have c35b := fun (lo : Nat) (p q : List Ob) (hlo : lo <= p.length) => f35 (q := q) (k := 0) (a := b2) hlo hl (by omega)
   simp only [n0, Nat.add_zero] at c35b
   have hok2 := ok_tk (ok_drop (a := b2) ho)
   have c77 := fun (lo : Nat) (p : List Ob) (hlo : lo <= p.length) X Q => f77 (lo := lo) (h := p ++ X :: Q) (by simp; omega) hok2
   have hw2 : IntKind.i64.wrap ((b2 : Int) + 1) = ((b2 + 1 : Nat) : Int) := wrap_succ (by omega)
   unfold addT
   rw [<- e2, drop_tail]
   generalize isD (tk (l.drop b1)) 45 = back at c28b
   generalize tk (l.drop b2) = t at c35b c77
   simp only [row] at c35 c35b c77
   simp only [numV] at c77
   cases hwt : wholeT t with
   | none =>
    simp only [hwt] at c77
    have z1 : IntKind.i64.wrap (0 - 0) = 0 := rfl
    refine ⟨0, false, b2 + 1, by omega, fun lo p q hlo => ?_, rfl⟩
    have hlo2 : lo <= p.length + (q.length + 1) := by omega
    have hlo3 : lo <= p.length + (q.length + 1) + 1 := by omega
    rw [e81 (by simp) (by rfl)]
    cases back with
    | true =>
     simp only [go_sem, b81, Tryd.f81, hlo, hlo2, hlo3, c27, c35, hk, c28, c28b, hw1, c27b, c35b, hw2, c77, z1, Option.getD_none, Option.isSome_none]
     all_goals rfl
    | false =>
     simp only [go_sem, b81, Tryd.f81, hlo, hlo2, hlo3, c27, c35, hk, c28, c28b, hw1, c27b, c35b, hw2, c77, z1, Option.getD_none, Option.isSome_none]
     all_goals rfl
   | some n =>
    simp only [hwt] at c77
    have hn : t.n = n := by
     unfold wholeT at hwt
     split at hwt
     ·cases hwt; rfl
     ·cases hwt
    simp only [hn] at c35b c77
    have hst := step_iff.1 (whole_step hwt)
    have z1 : IntKind.i64.wrap (0 - n) = -n := by rw [wrap_i64 (by omega) (by omega)]; omega
    refine ⟨if back = true then -n else n, t.k == 10 && decide (0 <= n), b2 + 1, by omega, fun lo p q hlo => ?_, ?_⟩
    ·have hlo2 : lo <= p.length + (q.length + 1) := by omega
     have hlo3 : lo <= p.length + (q.length + 1) + 1 := by omega
     rw [e81 (by simp) (by rfl)]
     cases hk2 : t.k == 10 with
     | true =>
      cases back with
      | true =>
       simp only [go_sem, b81, Tryd.f81, hlo, hlo2, hlo3, c27, c35, hk, c28, c28b, hw1, c27b, c35b, hw2, c77, z1, hk2, Option.getD_some, Option.isSome_some, if_true, Bool.true_and]
       all_goals rfl
      | false =>
       simp only [go_sem, b81, Tryd.f81, hlo, hlo2, hlo3, c27, c35, hk, c28, c28b, hw1, c27b, c35b, hw2, c77, z1, hk2, Option.getD_some, Option.isSome_some, Bool.false_eq_true, if_false, Bool.true_and]
       all_goals rfl
     | false =>
      cases back with
      | true =>
       simp only [go_sem, b81, Tryd.f81, hlo, hlo2, hlo3, c27, c35, hk, c28, c28b, hw1, c27b, c35b, hw2, c77, z1, hk2, Option.getD_some, Option.isSome_some, if_true, Bool.false_and]
       all_goals rfl
      | false =>
       simp only [go_sem, b81, Tryd.f81, hlo, hlo2, hlo3, c27, c35, hk, c28, c28b, hw1, c27b, c35b, hw2, c77, z1, hk2, Option.getD_some, Option.isSome_some, Bool.false_eq_true, if_false, Bool.false_and]
       all_goals rfl
    ·simp only [Bool.and_assoc]
theorem p65bu {w : List Int} {x : Int} {ok : Bool} (hl : l.length <= 1000000000) (ha : a <= 1400000000) (ho : allL OkB l) (hw : By w) (hwl : w.length <= 1000000000) :
  ∃ (x' y : Int) (ok' : Bool) (b : Nat), b <= max a l.length + 2 /\ (∀ (lo : Nat) (p q : List Ob) (T : Ob) (g : Env), G65 p q w x ok g -> lo <= p.length -> evL (X65 lo p q) loopW (pc b65 6 12) (g, p ++ Rd l a :: (q ++ [T])) = some (.ret, [(2, .v (.int .i64 x')), (3, .v (.int .i64 y)), (4, .v (.bool ok'))], p ++ Rd l b :: (q ++ [T]))) /\
   (if ok = true then nameT x w (l.drop a) else none) = if (ok' && (l.drop b).isEmpty) = true then some (x', y) else none := by
 have c79 := fun lo h => f79 (lo := lo) (h := h) (p := [110]) hw by_n
 have c78 := fun lo h => f78 (lo := lo) (h := h) (p := [110, 45]) hw by_nm
 have s1 : Rul.bs [110] = ⟨#[110]⟩ := rfl
 have s2 : Rul.bs [110, 45] = ⟨#[110, 45]⟩ := rfl
 have hq := rbs_beq (a := w) (b := [110]) hw by_n
 rw [s1] at c79 hq
 rw [s2] at c78
 cases ok with
 | false =>
  refine ⟨0, 0, false, a, by omega, fun lo p q T g hg hlo => ?_, rfl⟩
  cases hg
  all_goals
   simp only [go_sem, b65, Tryd.f65, hlo]
  all_goals rfl
 | true =>
  rw [if_pos rfl]
  unfold nameT
  cases hp : [110, 45].isPrefixOf w with
  | true =>
   have h1 : [110].isPrefixOf w = true := by
    obtain ⟨m, rfl⟩ := List.isPrefixOf_iff_prefix.1 hp
    rfl
   rw [h1] at c79
   rw [hp, if_pos rfl, show ([110, 45] : List Int).length = 2 from rfl] at c78
   have hwd : By (w.drop 2) := fun c hc => hw c (List.mem_of_mem_drop hc)
   obtain ⟨y, c80, hy⟩ := f80u (s := w.drop 2) hwd (by rw [List.length_drop]; omega)
   rw [if_pos rfl]
   refine ⟨x, y, (tailT (w.drop 2)).isSome, a, by omega, fun lo p q T g hg hlo => ?_, ?_⟩
   ·have c80 := c80 lo (p ++ Rd l a :: (q ++ [T])) (by simp; omega)
    cases hg
    all_goals
     simp only [go_sem, b65, Tryd.f65, hlo, c79, c78, c80]
    all_goals rfl
   ·cases ht : tailT (w.drop 2) with
    | none => rfl
    | some b => rw [hy b ht]; rfl
  | false =>
   rw [hp] at c78
   simp only [Bool.false_eq_true, if_false] at c78 ⊢
   cases hn : w == [110] with
   | false =>
    rw [if_neg (by simp)]
    rw [hn] at hq
    refine ⟨0, 0, false, a, by omega, fun lo p q T g hg hlo => ?_, rfl⟩
    cases h1 : [110].isPrefixOf w with
    | false =>
     rw [h1] at c79
     cases hg
     all_goals
      simp only [go_sem, b65, Tryd.f65, hlo, c79]
     all_goals rfl
    | true =>
     rw [h1] at c79
     cases hg
     all_goals
      simp only [go_sem, b65, Tryd.f65, hlo, c79, c78, hq, bne]
     all_goals rfl
   | true =>
    rw [if_pos rfl]
    rw [hn] at hq
    have hwn : w = [110] := by simpa using hn
    have h1 : [110].isPrefixOf w = true := by rw [hwn]; rfl
    rw [h1] at c79
    have c26 := fun (lo : Nat) (p q : List Ob) (hlo : lo <= p.length) => f26 (a := a) (l := l) (q := q) hlo
    cases he : (l.drop a).isEmpty with
    | true =>
     simp only [he] at c26
     refine ⟨x, 0, true, a, by omega, fun lo p q T g hg hlo => ?_, by rw [he]; rfl⟩
     cases hg
     all_goals
      simp only [go_sem, b65, Tryd.f65, hlo, c79, c78, hq, bne, c26]
     all_goals rfl
    | false =>
     simp only [he] at c26
     obtain ⟨y, ok', b, hb, c81, hsp⟩ := f81u (a := a) hl (by omega) ho
     refine ⟨x, y, ok', b, hb, fun lo p q T g hg hlo => ?_, ?_⟩
     ·cases hg
      all_goals
       simp only [go_sem, b65, Tryd.f65, hlo, c79, c78, hq, bne, c26, c81]
      all_goals rfl
     ·rw [if_neg (by simp), hsp]
      split <;> rfl
theorem f65u (hl : l.length <= 1000000000) (ha : a <= 1300000000) (ho : allL OkB l) :
  ∃ (x y : Int) (ok : Bool) (b : Nat), b <= max a l.length + 3 /\ (∀ (lo : Nat) (p q : List Ob), lo <= p.length -> E lo 65 [.ptr p.length 0] (p ++ Rd l a :: q) = some (.tup [.v (.int .i64 x), .v (.int .i64 y), .v (.bool ok)], p ++ Rd l b :: q)) /\
   Sel.stepT (l.drop a) = if (ok && (l.drop b).isEmpty) = true then some (x, y) else none := by
 have hA := fun (lo : Nat) (p q : List Ob) (hlo : lo <= p.length) => p65a (q := q) hlo hl ha ho
 have hok := ok_tk (ok_drop (a := a) ho)
 have hws := small_by hok.hy
 have hwl : (small (tk (l.drop a)).b).length <= 1000000000 := by rw [small_len]; exact hok.hl
 have hlen : ∀ (p q : List Ob), (p ++ Rd l a :: q).length = p.length + (q.length + 1) := fun p q => by simp
 have go : ∀ (w : List Int) (x : Int) (ok : Bool), head65 (tk (l.drop a)) = .inr (w, x, ok) -> By w -> w.length <= 1000000000 -> Sel.stepT (l.drop a) = (if ok = true then nameT x w (l.drop (a + 1)) else none) ->
   ∃ (x y : Int) (ok : Bool) (b : Nat), b <= max a l.length + 3 /\ (∀ (lo : Nat) (p q : List Ob), lo <= p.length -> E lo 65 [.ptr p.length 0] (p ++ Rd l a :: q) = some (.tup [.v (.int .i64 x), .v (.int .i64 y), .v (.bool ok)], p ++ Rd l b :: q)) /\
   Sel.stepT (l.drop a) = if (ok && (l.drop b).isEmpty) = true then some (x, y) else none := by
  intro w x ok hh hw hwl hs
  obtain ⟨x', y, ok', b, hb, hB, hsp⟩ := p65bu (x := x) (ok := ok) (a := a + 1) hl (by omega) ho hw hwl
  refine ⟨x', y, ok', b, by omega, fun lo p q hlo => ?_, by rw [hs, hsp]⟩
  have hA := hA lo p q hlo
  rw [hh] at hA
  obtain ⟨g, hg, hA⟩ := hA
  have hB := hB lo p q (.cells (row (tk (l.drop a)))) g hg hlo
  rw [e65 (by simp) (by rfl), hlen, pc_in, pc_go _ _ _ _ 0 6, hA, pc_go _ _ _ _ _ 12, hB, pc_r]
  exact fin65
 have done : ∀ (x y : Int) (ok : Bool), head65 (tk (l.drop a)) = .inl (x, y, ok) -> Sel.stepT (l.drop a) = (if (ok && (l.drop (a + 1)).isEmpty) = true then some (x, y) else none) ->
   ∃ (x y : Int) (ok : Bool) (b : Nat), b <= max a l.length + 3 /\ (∀ (lo : Nat) (p q : List Ob), lo <= p.length -> E lo 65 [.ptr p.length 0] (p ++ Rd l a :: q) = some (.tup [.v (.int .i64 x), .v (.int .i64 y), .v (.bool ok)], p ++ Rd l b :: q)) /\
   Sel.stepT (l.drop a) = if (ok && (l.drop b).isEmpty) = true then some (x, y) else none := by
  intro x y ok hh hs
  refine ⟨x, y, ok, a + 1, by omega, fun lo p q hlo => ?_, hs⟩
  have hA := hA lo p q hlo
  rw [hh] at hA
  rw [e65 (by simp) (by rfl), hlen, pc_in, pc_go _ _ _ _ 0 6, hA, pc_r]
  exact fin65
 by_cases k10 : ((tk (l.drop a)).k == 10) = true
 ·refine done _ _ _ (by unfold head65; rw [if_pos k10]) ?_
  unfold Sel.stepT
  rw [if_pos k10, drop_tail]
  cases wholeT (tk (l.drop a)) with
  | none => simp
  | some n => rfl
 by_cases k1 : ((tk (l.drop a)).k == 1) = true
 ·by_cases ho1 : (small (tk (l.drop a)).b == [111, 100, 100]) = true
  ·refine done _ _ _ (by unfold head65; rw [if_neg k10, if_pos k1, if_pos ho1]) ?_
   unfold Sel.stepT
   rw [if_neg k10, if_pos k1, if_pos ho1, drop_tail, Bool.true_and]
  by_cases he1 : (small (tk (l.drop a)).b == [101, 118, 101, 110]) = true
  ·refine done _ _ _ (by unfold head65; rw [if_neg k10, if_pos k1, if_neg ho1, if_pos he1]) ?_
   unfold Sel.stepT
   rw [if_neg k10, if_pos k1, if_neg ho1, if_pos he1, drop_tail, Bool.true_and]
  by_cases hp : [45].isPrefixOf (small (tk (l.drop a)).b) = true
  ·refine go _ _ _ (by unfold head65; rw [if_neg k10, if_pos k1, if_neg ho1, if_neg he1, if_pos hp, if_pos hp]) (fun c hc => hws c (List.mem_of_mem_drop hc)) (by rw [List.length_drop]; omega) ?_
   unfold Sel.stepT
   rw [if_neg k10, if_pos k1, if_neg ho1, if_neg he1, if_pos hp, if_pos rfl, drop_tail]
  ·refine go _ _ _ (by unfold head65; rw [if_neg k10, if_pos k1, if_neg ho1, if_neg he1, if_neg hp, if_neg hp]) hws hwl ?_
   unfold Sel.stepT
   rw [if_neg k10, if_pos k1, if_neg ho1, if_neg he1, if_neg hp, if_pos rfl, drop_tail]
 by_cases k12 : ((tk (l.drop a)).k == 12) = true
 ·refine go _ _ _ (by unfold head65; rw [if_neg k10, if_neg k1, if_pos k12]) hws hwl ?_
  unfold Sel.stepT
  rw [if_neg k10, if_neg k1, if_pos k12, drop_tail]
  cases wholeT (tk (l.drop a)) with
  | none => rfl
  | some n => rfl
 ·refine go _ _ _ (by unfold head65; rw [if_neg k10, if_neg k1, if_neg k12]) hws hwl ?_
  unfold Sel.stepT
  rw [if_neg k10, if_neg k1, if_neg k12]; rfl
end
end Go.Lift.Q1
end

section
open Go.Proofs
namespace Go.Lift.Q1
open Rul
open Utf (By)
open Sel (tk tz isD db Sm Cx Cp smV cxsC kindT kind_range pseudoT stepT)
variable [MX]
def C11 (sub : List CV -> Option (List Sel.Cx)) (l : List CV) : Prop := ∀ (lo : Nat) (h : Heap), lo <= h.length -> E lo 11 [.list .no (rowsC l)] h = some (.tup [.list .no (cxsC ((sub l).getD [])), .v (.bool (sub l).isSome)], h)
section
variable {lo : Nat} {h : Heap}
noncomputable abbrev X47 (lo : Nat) (h : Heap) : Lift.Cx := ⟨Tryd.prog, E, lo, h.length, h47⟩
abbrev sL (k : Int) (ow : Own) (cs : List (List V)) (a b : Int) : Ob := .cells [.v (.int .i64 k), .v (.string ByteArray.empty), .v (.int .i64 0), .v (.string ByteArray.empty), .v (.bool false), .list ow cs, .v (.int .i64 a), .v (.int .i64 b)]
abbrev H47 (h : Heap) (t : Tk4) (ks : List CV) (K : Int) : Heap := h ++ [.cells (rowV (.mk t ks)), sL 0 .yes [] 0 0, .tab (esK KN), sL K .yes [] 0 0]
abbrev NE47 (h : Heap) (k K : Int) : Env := [(1, .ptr h.length 0), (2, .ptr (h.length + 1) 0), (4, .v (.int .i64 K)), (5, .ptr (h.length + 3) 0), (19, .v (.int .i64 k))]
theorem p47a {t : Tk4} {ks : List CV} (hlo : lo <= h.length) (ho : OkB t) :
  evL (X47 lo h) loopW (pc b47 0 4) (args0 [.agg (rowV (.mk t ks))], h) = some (.normal, NE47 h t.k (kindT (small t.b)), H47 h t ks (kindT (small t.b))) := by
 have l1 : lo <= h.length + 1 := by omega
 have l2 : lo <= h.length + 2 := by omega
 have l3 : lo <= h.length + 3 := by omega
 have l4 : lo <= h.length + 4 := by omega
 have c64 := fun (lo : Nat) (h : Heap) (hlo : lo <= h.length) => f64 (lo := lo) (h := h) hlo
 have c63 := fun (lo : Nat) (h : Heap) (hlo : lo <= h.length) => f63 (lo := lo) (h := h) (l := t.b) hlo (by have := ho.hl; omega) ho.hy
 have hk := look_k (small_by ho.hy)
 simp only [rowV_eq, row, List.cons_append, List.nil_append]
 generalize Rul.bs (small t.b) = W at *
 generalize kindT (small t.b) = K at *
 simp only [go_sem, lookupV, b47, Tryd.f47, hlo, l1, l2, l3, l4, c64, c63, hk, Nat.le_refl, Nat.le_add_right]
 all_goals rfl
theorem fin47 {K : Int} {l : List Sel.Cx} {cs : List (List V)} {a b : Int} {ok : Bool} {X : Ob} {Y : List Ob} (hcs : cxsC l = cs) : fin Tryd.prog [.cell 2 51, .tmp 3] h.length (some (.ret, [(2, .ptr (h.length + 1) 0), (3, .v (.bool ok))], h ++ X :: sL K .no cs a b :: Y)) =
  some (.tup [.agg (smV (.mk K [] 0 [] false l a b)), .v (.bool ok)], h) := by
 rw [smV, hcs]
 simp only [go_sem]
 all_goals rfl
theorem p47n {t : Tk4} {ks : List CV} {K : Int} (hlo : lo <= h.length) (hk : t.k = 1) :
  evL (X47 lo h) loopW (pc b47 4 3) (NE47 h t.k K, H47 h t ks K) = some (.ret, [(2, .ptr (h.length + 1) 0), (3, .v (.bool (decide (9 <= K) && decide (K <= 13))))], h ++ .cells (rowV (.mk t ks)) :: sL K .no [] 0 0 :: [.tab (esK KN), sL K .yes [] 0 0]) := by
 have l1 : lo <= h.length + 1 := by omega
 have l2 : lo <= h.length + 2 := by omega
 have l3 : lo <= h.length + 3 := by omega
 have l4 : lo <= h.length + 4 := by omega
 rw [hk]
 simp only [H47]
 generalize rowV (.mk t ks) = RV
 have hr : K = 9 \/ K = 10 \/ K = 11 \/ K = 12 \/ K = 13 \/ (K < 9 \/ 13 < K) := by omega
 rcases hr with rfl | rfl | rfl | rfl | rfl | hr
 ·simp only [go_sem, b47, Tryd.f47, hlo, l1, l2, l3, l4, Int.reduceBEq, reduceIte, Bool.false_eq_true]
  all_goals rfl
 ·simp only [go_sem, b47, Tryd.f47, hlo, l1, l2, l3, l4, Int.reduceBEq, reduceIte, Bool.false_eq_true]
  all_goals rfl
 ·simp only [go_sem, b47, Tryd.f47, hlo, l1, l2, l3, l4, Int.reduceBEq, reduceIte, Bool.false_eq_true]
  all_goals rfl
 ·simp only [go_sem, b47, Tryd.f47, hlo, l1, l2, l3, l4, Int.reduceBEq, reduceIte, Bool.false_eq_true]
  all_goals rfl
 ·simp only [go_sem, b47, Tryd.f47, hlo, l1, l2, l3, l4, Int.reduceBEq, reduceIte, Bool.false_eq_true]
  all_goals rfl
 ·have hne : ∀ i : Int, 9 <= i -> i <= 13 -> (K == i) = false := fun i h1 h2 => by rw [beq_eq_false_iff_ne]; omega
  have q9 := hne 9 (by omega) (by omega)
  have q10 := hne 10 (by omega) (by omega)
  have q11 := hne 11 (by omega) (by omega)
  have q12 := hne 12 (by omega) (by omega)
  have q13 := hne 13 (by omega) (by omega)
  have qz : (decide (9 <= K) && decide (K <= 13)) = false := by
   rcases hr with h | h
   ·have : decide (9 <= K) = false := by rw [decide_eq_false_iff_not]; omega
    rw [this]; rfl
   ·have : decide (K <= 13) = false := by rw [decide_eq_false_iff_not]; omega
    rw [this, Bool.and_false]
  rw [qz]
  simp only [go_sem, b47, Tryd.f47, hlo, l1, l2, l3, l4, Int.reduceBEq, reduceIte, Bool.false_eq_true, q9, q10, q11, q12, q13]
  all_goals rfl
theorem p47z {t : Tk4} {ks : List CV} {K : Int} (hlo : lo <= h.length) (hk : t.k ≠ 1) (hK : t.k = 2 -> (K < 6 \/ 8 < K) /\ (K < 14 \/ 15 < K)) :
  evL (X47 lo h) loopW (pc b47 4 3) (NE47 h t.k K, H47 h t ks K) = some (.ret, [(2, .ptr (h.length + 1) 0), (3, .v (.bool false))], h ++ .cells (rowV (.mk t ks)) :: sL K .no [] 0 0 :: [.tab (esK KN), sL K .yes [] 0 0]) := by
 have l1 : lo <= h.length + 1 := by omega
 have l2 : lo <= h.length + 2 := by omega
 have l3 : lo <= h.length + 3 := by omega
 have l4 : lo <= h.length + 4 := by omega
 have k1 : (t.k == 1) = false := by rw [beq_eq_false_iff_ne]; exact hk
 simp only [H47]
 generalize rowV (.mk t ks) = RV
 cases hk2 : t.k == 2 with
 | false =>
  simp only [go_sem, b47, Tryd.f47, hlo, l1, l2, l3, l4, k1, hk2]
  all_goals rfl
 | true =>
  have hK := hK (by simpa using hk2)
  have hne : ∀ i : Int, (6 <= i /\ i <= 8 \/ 14 <= i /\ i <= 15) -> (K == i) = false := fun i h1 => by rw [beq_eq_false_iff_ne]; omega
  have q6 := hne 6 (by omega)
  have q7 := hne 7 (by omega)
  have q8 := hne 8 (by omega)
  have q14 := hne 14 (by omega)
  have q15 := hne 15 (by omega)
  simp only [go_sem, b47, Tryd.f47, hlo, l1, l2, l3, l4, k1, hk2, q6, q7, q8, q14, q15]
  all_goals rfl
theorem p47l {t : Tk4} {ks : List CV} {K : Int} {sub : List CV -> Option (List Sel.Cx)} (hlo : lo <= h.length) (hk : t.k = 2) (hK : 6 <= K /\ K <= 8) (hs : C11 sub ks) :
  evL (X47 lo h) loopW (pc b47 4 3) (NE47 h t.k K, H47 h t ks K) = some (.ret, [(2, .ptr (h.length + 1) 0), (3, .v (.bool (sub ks).isSome))], h ++ .cells (rowV (.mk t ks)) :: sL K .no (cxsC ((sub ks).getD [])) 0 0 :: [.tab (esK KN), sL K .no (cxsC ((sub ks).getD [])) 0 0]) := by
 have l1 : lo <= h.length + 1 := by omega
 have l2 : lo <= h.length + 2 := by omega
 have l3 : lo <= h.length + 3 := by omega
 have l4 : lo <= h.length + 4 := by omega
 unfold C11 at hs
 rw [hk]
 simp only [H47, rowV_eq, row, List.cons_append, List.nil_append]
 have hr : K = 6 \/ K = 7 \/ K = 8 := by omega
 generalize cxsC ((sub ks).getD []) = CS at *
 rcases hr with rfl | rfl | rfl
 ·simp only [go_sem, b47, Tryd.f47, hlo, l1, l2, l3, l4, Int.reduceBEq, reduceIte, Bool.false_eq_true, hs, Nat.le_add_right]
  all_goals rfl
 ·simp only [go_sem, b47, Tryd.f47, hlo, l1, l2, l3, l4, Int.reduceBEq, reduceIte, Bool.false_eq_true, hs, Nat.le_add_right]
  all_goals rfl
 ·simp only [go_sem, b47, Tryd.f47, hlo, l1, l2, l3, l4, Int.reduceBEq, reduceIte, Bool.false_eq_true, hs, Nat.le_add_right]
  all_goals rfl
theorem p47s {t : Tk4} {ks : List CV} {K : Int} (hk : t.k = 2) (hK : 14 <= K /\ K <= 15) (hn : nodesL ks <= 900000000) (ho : allL OkB ks) :
  ∃ (x y : Int) (ok : Bool), (∀ (lo : Nat) (h : Heap), lo <= h.length -> ∃ Y, evL (X47 lo h) loopW (pc b47 4 3) (NE47 h t.k K, H47 h t ks K) = some (.ret, [(2, .ptr (h.length + 1) 0), (3, .v (.bool ok))], h ++ .cells (rowV (.mk t ks)) :: sL K .no [] x y :: Y)) /\
   Sel.stepT (trim ks) = if ok = true then some (x, y) else none := by
 have htl : (trim ks).length <= 900000000 := by
  have h1 := nodesL_len ks
  have h2 := nodesL_trim ks
  have h3 := nodesL_len (trim ks)
  omega
 obtain ⟨x, y, ok, b, hb, c65, hsp⟩ := f65u (l := trim ks) (a := 0) (by omega) (by omega) (ok_sub ho fun v hv => Rul.trim_mem hv)
 rw [List.drop_zero] at hsp
 refine ⟨x, y, ok && ((trim ks).drop b).isEmpty, fun lo h hlo => ?_, hsp⟩
 have l1 : lo <= h.length + 1 := by omega
 have l2 : lo <= h.length + 2 := by omega
 have l3 : lo <= h.length + 3 := by omega
 have l4 : lo <= h.length + 4 := by omega
 have l5 : lo <= h.length + 5 := by omega
 have hlen : (H47 h t ks K).length = h.length + 4 := by simp [H47]
 have c65 := c65 lo (H47 h t ks K) [] (by rw [hlen]; exact l4)
 have c24 := fun (lo : Nat) (h : Heap) (hlo : lo <= h.length) => f24 (lo := lo) (h := h) (l := ks) hlo (by omega)
 have c26 := fun (lo' : Nat) => f26u (lo' := lo') (p := h ++ [.cells (rowV (.mk t ks)), sL 0 .yes [] 0 0, .tab (esK KN), sL K .yes [] x y]) (l := trim ks) (a := b) (q := [])
 have hlen2 : (h ++ [.cells (rowV (.mk t ks)), sL 0 .yes [] 0 0, .tab (esK KN), sL K .yes [] x y]).length = h.length + 4 := by simp
 simp only [hlen] at c65
 simp only [hlen2] at c26
 rw [hk]
 have n0 : ((0 : Nat) : Int) = 0 := rfl
 simp only [H47, Rd, rowV_eq, row, List.cons_append, List.nil_append, List.append_assoc, n0] at c65 c26 ⊢
 generalize rowsC (trim ks) = TR at *
 generalize ((trim ks).drop b).isEmpty = fn at *
 have hr : K = 14 \/ K = 15 := by omega
 refine ⟨[.tab (esK KN), sL K .yes [] x y, .cells [.list .no TR, .v (.int .i64 b)]], ?_⟩
 rcases hr with rfl | rfl
 ·cases ok with
  | false =>
   simp only [go_sem, b47, Tryd.f47, hlo, l1, l2, l3, l4, l5, Int.reduceBEq, reduceIte, Bool.false_eq_true, c24, c65, c26, Nat.le_add_right]
   all_goals rfl
  | true =>
   simp only [go_sem, b47, Tryd.f47, hlo, l1, l2, l3, l4, l5, Int.reduceBEq, reduceIte, Bool.false_eq_true, c24, c65, c26, Nat.le_add_right]
   all_goals rfl
 ·cases ok with
  | false =>
   simp only [go_sem, b47, Tryd.f47, hlo, l1, l2, l3, l4, l5, Int.reduceBEq, reduceIte, Bool.false_eq_true, c24, c65, c26, Nat.le_add_right]
   all_goals rfl
  | true =>
   simp only [go_sem, b47, Tryd.f47, hlo, l1, l2, l3, l4, l5, Int.reduceBEq, reduceIte, Bool.false_eq_true, c24, c65, c26, Nat.le_add_right]
   all_goals rfl
theorem f47 {v : CV} {sub : List CV -> Option (List Sel.Cx)} (ht : OkB v.t) (hn : nodesL v.ks <= 900000000) (ho : allL OkB v.ks) (hs : v.k = 2 -> C11 sub v.ks) :
  ∃ (s : Sm) (ok : Bool), (∀ (lo : Nat) (h : Heap), lo <= h.length -> E lo 47 [.agg (rowV v)] h = some (.tup [.agg (smV s), .v (.bool ok)], h)) /\ pseudoT sub v = if ok = true then some s else none := by
 obtain ⟨t, ks⟩ := v
 have ht : OkB t := ht
 have hn : nodesL ks <= 900000000 := hn
 have ho : allL OkB ks := ho
 have hA := fun (lo : Nat) (h : Heap) (hlo : lo <= h.length) => p47a (ks := ks) hlo ht
 have hr := kind_range (small t.b)
 unfold pseudoT
 show ∃ (s : Sm) (ok : Bool), _ /\ (if (t.k == 1) = true then if 9 <= kindT (small t.b) /\ kindT (small t.b) <= 13 then some (Sm.mk (kindT (small t.b)) [] 0 [] false [] 0 0) else none
  else if (t.k == 2) = true then
   if 6 <= kindT (small t.b) /\ kindT (small t.b) <= 8 then (sub ks).map fun l => Sm.mk (kindT (small t.b)) [] 0 [] false l 0 0
   else if 14 <= kindT (small t.b) then (Sel.stepT (trim ks)).map fun p => Sm.mk (kindT (small t.b)) [] 0 [] false [] p.1 p.2
   else none
  else none) = _
 have hs : t.k = 2 -> C11 sub ks := hs
 generalize kindT (small t.b) = K at *
 by_cases k1 : t.k = 1
 ·refine ⟨.mk K [] 0 [] false [] 0 0, decide (9 <= K) && decide (K <= 13), fun lo h hlo => ?_, ?_⟩
  ·rw [e47 (by simp) (by rfl), pc_in, pc_go _ _ _ _ 0 4, hA lo h hlo, pc_go _ _ _ _ _ 3, p47n hlo k1, pc_r]
   exact fin47 (by rw [cxsC])
  ·rw [if_pos (by simpa using k1)]
   by_cases hq : 9 <= K /\ K <= 13
   ·rw [if_pos hq, if_pos (by simp [hq.1, hq.2])]
   ·rw [if_neg hq, if_neg (by simp; omega)]
 ·rw [if_neg (by simpa using k1)]
  by_cases k2 : t.k = 2
  ·rw [if_pos (by simpa using k2)]
   by_cases hq : 6 <= K /\ K <= 8
   ·rw [if_pos hq]
    refine ⟨.mk K [] 0 [] false ((sub ks).getD []) 0 0, (sub ks).isSome, fun lo h hlo => ?_, ?_⟩
    ·rw [e47 (by simp) (by rfl), pc_in, pc_go _ _ _ _ 0 4, hA lo h hlo, pc_go _ _ _ _ _ 3, p47l hlo k2 hq (hs k2), pc_r]
     exact fin47 rfl
    ·cases sub ks <;> rfl
   ·rw [if_neg hq]
    by_cases hq2 : 14 <= K
    ·obtain ⟨x, y, ok, hB, hsp⟩ := p47s (t := t) (K := K) k2 ⟨hq2, by omega⟩ hn ho
     rw [if_pos hq2, hsp]
     refine ⟨.mk K [] 0 [] false [] x y, ok, fun lo h hlo => ?_, ?_⟩
     ·obtain ⟨Y, hB⟩ := hB lo h hlo
      rw [e47 (by simp) (by rfl), pc_in, pc_go _ _ _ _ 0 4, hA lo h hlo, pc_go _ _ _ _ _ 3, hB, pc_r]
      exact fin47 (by rw [cxsC])
     ·cases ok <;> rfl
    ·rw [if_neg hq2]
     refine ⟨.mk K [] 0 [] false [] 0 0, false, fun lo h hlo => ?_, rfl⟩
     rw [e47 (by simp) (by rfl), pc_in, pc_go _ _ _ _ 0 4, hA lo h hlo, pc_go _ _ _ _ _ 3, p47z hlo k1 (fun _ => ⟨by omega, by omega⟩), pc_r]
     exact fin47 (by rw [cxsC])
  ·rw [if_neg (by simpa using k2)]
   refine ⟨.mk K [] 0 [] false [] 0 0, false, fun lo h hlo => ?_, rfl⟩
   rw [e47 (by simp) (by rfl), pc_in, pc_go _ _ _ _ 0 4, hA lo h hlo, pc_go _ _ _ _ _ 3, p47z hlo k1 (fun h => absurd h k2), pc_r]
   exact fin47 (by rw [cxsC])
end
end Go.Lift.Q1
end
