/- The law TokFew, evaluated. -/
import Derived.Test.YtnfdhgadidacaaaDoorRh
import Derived.Test.YtnfdhgadidacaaaDoorTa
/- The law TokFew, evaluated. Written by a program (mkfew.py). -/
open Go.Proofs
namespace Go.Lift.D3
open Utf Tok
set_option maxRecDepth 20000
set_option maxHeartbeats 4000000
set_option linter.unusedSimpArgs false
set_option linter.unusedVariables false

theorem fl26 : flatOf Tryd.prog 26 = some [1, 1] := by kernel_rfl
theorem str_ne {t : List Int} (h : t ≠ []) : ((str t).toList == (⟨#[]⟩ : ByteArray).toList) = false := by
  cases t with
  | nil => exact absurd rfl h
  | cons c t =>
    have h1 := enc_ne (scal c)
    have e : (⟨#[]⟩ : ByteArray).toList = [] := by simp [ByteArray.toList_eq]
    rw [e]
    simp only [str, encs_cons]
    cases he : enc (scal c) with
    | nil => exact absurd he h1
    | cons x r => simp [u8s, ByteArray.toList_eq]
theorem zz : eqCells [1, 1] [.v (.int .i64 0), .v (.int .i64 0)] [.v (.int .i64 0), .v (.int .i64 0)] = some true := rfl
theorem str_em : ((str []).toList == (⟨#[]⟩ : ByteArray).toList) = true := (bs_nil_eq' []).trans (by simp)
section
variable {lo N k : Nat} {ts : List Tk} {g h : Heap}
abbrev S3 (ts : List Tk) (k : Nat) (g : Heap) : Env × Heap := ([(16, .list .no (ts.map tkC)), (17, .v (.int .i64 ts.length)), (18, .v (.int .i64 k))], g)
theorem r3k1 {t : List Int} (hlo : lo ≤ g.length) (hlt : decide ((k : Int) < (ts.length : Int)) = true) (hw : IntKind.i64.wrap ((k : Int) + 1) = ((k + 1 : Nat) : Int))
    (hg : (ts.map tkC)[k]? = some [.v (.int .i64 1), .v (.string (str t)), .v (.int .i64 0), .v (.int .i64 0), .v (.bool false), .v (.bool false)]) (hs : ((str t).toList == (⟨#[]⟩ : ByteArray).toList) = false) :
    evCode ⟨Tryd.prog, E, lo, N, h3⟩ loopW l3x0 (S3 ts k g) = some (.normal, S3 ts (k + 1) (g ++ [.cells [.v (.int .i64 1), .v (.string (str t)), .v (.int .i64 0), .v (.int .i64 0), .v (.bool false), .v (.bool false)]])) := by
  have q1 : ((1 : Int) == 1) = true := rfl
  have q2 : ((1 : Int) == 2) = false := rfl
  have q3 : ((1 : Int) == 3) = false := rfl
  have q4 : ((1 : Int) == 4) = false := rfl
  have q12 : ((1 : Int) == 12) = false := rfl
  have q9 : ((1 : Int) == 9) = false := rfl
  have q10 : ((1 : Int) == 10) = false := rfl
  have q11 : ((1 : Int) == 11) = false := rfl
  have q5 : ((1 : Int) == 5) = false := rfl
  have q7 : ((1 : Int) == 7) = false := rfl
  have qa : decide ((1 : Int) < 1) = false := rfl
  have qb : decide (24 < (1 : Int)) = false := rfl
  simp only [go_sem, S3, l3x0, b3, Tryd.f3, hlo, hlt, hw, hg, fl26, zz, str_em, q1, q2, q3, q4, q12, q9, q10, q11, q5, q7, qa, qb, hs]
  all_goals rfl
theorem r3k2 {t : List Int} (hlo : lo ≤ g.length) (hlt : decide ((k : Int) < (ts.length : Int)) = true) (hw : IntKind.i64.wrap ((k : Int) + 1) = ((k + 1 : Nat) : Int))
    (hg : (ts.map tkC)[k]? = some [.v (.int .i64 2), .v (.string (str t)), .v (.int .i64 0), .v (.int .i64 0), .v (.bool false), .v (.bool false)]) (hs : ((str t).toList == (⟨#[]⟩ : ByteArray).toList) = false) :
    evCode ⟨Tryd.prog, E, lo, N, h3⟩ loopW l3x0 (S3 ts k g) = some (.normal, S3 ts (k + 1) (g ++ [.cells [.v (.int .i64 2), .v (.string (str t)), .v (.int .i64 0), .v (.int .i64 0), .v (.bool false), .v (.bool false)]])) := by
  have q1 : ((2 : Int) == 1) = false := rfl
  have q2 : ((2 : Int) == 2) = true := rfl
  have q3 : ((2 : Int) == 3) = false := rfl
  have q4 : ((2 : Int) == 4) = false := rfl
  have q12 : ((2 : Int) == 12) = false := rfl
  have q9 : ((2 : Int) == 9) = false := rfl
  have q10 : ((2 : Int) == 10) = false := rfl
  have q11 : ((2 : Int) == 11) = false := rfl
  have q5 : ((2 : Int) == 5) = false := rfl
  have q7 : ((2 : Int) == 7) = false := rfl
  have qa : decide ((2 : Int) < 1) = false := rfl
  have qb : decide (24 < (2 : Int)) = false := rfl
  simp only [go_sem, S3, l3x0, b3, Tryd.f3, hlo, hlt, hw, hg, fl26, zz, str_em, q1, q2, q3, q4, q12, q9, q10, q11, q5, q7, qa, qb, hs]
  all_goals rfl
theorem r3k3 {t : List Int} (hlo : lo ≤ g.length) (hlt : decide ((k : Int) < (ts.length : Int)) = true) (hw : IntKind.i64.wrap ((k : Int) + 1) = ((k + 1 : Nat) : Int))
    (hg : (ts.map tkC)[k]? = some [.v (.int .i64 3), .v (.string (str t)), .v (.int .i64 0), .v (.int .i64 0), .v (.bool false), .v (.bool false)]) (hs : ((str t).toList == (⟨#[]⟩ : ByteArray).toList) = false) :
    evCode ⟨Tryd.prog, E, lo, N, h3⟩ loopW l3x0 (S3 ts k g) = some (.normal, S3 ts (k + 1) (g ++ [.cells [.v (.int .i64 3), .v (.string (str t)), .v (.int .i64 0), .v (.int .i64 0), .v (.bool false), .v (.bool false)]])) := by
  have q1 : ((3 : Int) == 1) = false := rfl
  have q2 : ((3 : Int) == 2) = false := rfl
  have q3 : ((3 : Int) == 3) = true := rfl
  have q4 : ((3 : Int) == 4) = false := rfl
  have q12 : ((3 : Int) == 12) = false := rfl
  have q9 : ((3 : Int) == 9) = false := rfl
  have q10 : ((3 : Int) == 10) = false := rfl
  have q11 : ((3 : Int) == 11) = false := rfl
  have q5 : ((3 : Int) == 5) = false := rfl
  have q7 : ((3 : Int) == 7) = false := rfl
  have qa : decide ((3 : Int) < 1) = false := rfl
  have qb : decide (24 < (3 : Int)) = false := rfl
  simp only [go_sem, S3, l3x0, b3, Tryd.f3, hlo, hlt, hw, hg, fl26, zz, str_em, q1, q2, q3, q4, q12, q9, q10, q11, q5, q7, qa, qb, hs]
  all_goals rfl
theorem r3k9 {t : List Int} (hlo : lo ≤ g.length) (hlt : decide ((k : Int) < (ts.length : Int)) = true) (hw : IntKind.i64.wrap ((k : Int) + 1) = ((k + 1 : Nat) : Int))
    (hg : (ts.map tkC)[k]? = some [.v (.int .i64 9), .v (.string (str t)), .v (.int .i64 0), .v (.int .i64 0), .v (.bool false), .v (.bool false)]) (hs : ((str t).toList == (⟨#[]⟩ : ByteArray).toList) = false) :
    evCode ⟨Tryd.prog, E, lo, N, h3⟩ loopW l3x0 (S3 ts k g) = some (.normal, S3 ts (k + 1) (g ++ [.cells [.v (.int .i64 9), .v (.string (str t)), .v (.int .i64 0), .v (.int .i64 0), .v (.bool false), .v (.bool false)]])) := by
  have q1 : ((9 : Int) == 1) = false := rfl
  have q2 : ((9 : Int) == 2) = false := rfl
  have q3 : ((9 : Int) == 3) = false := rfl
  have q4 : ((9 : Int) == 4) = false := rfl
  have q12 : ((9 : Int) == 12) = false := rfl
  have q9 : ((9 : Int) == 9) = true := rfl
  have q10 : ((9 : Int) == 10) = false := rfl
  have q11 : ((9 : Int) == 11) = false := rfl
  have q5 : ((9 : Int) == 5) = false := rfl
  have q7 : ((9 : Int) == 7) = false := rfl
  have qa : decide ((9 : Int) < 1) = false := rfl
  have qb : decide (24 < (9 : Int)) = false := rfl
  simp only [go_sem, S3, l3x0, b3, Tryd.f3, hlo, hlt, hw, hg, fl26, zz, str_em, q1, q2, q3, q4, q12, q9, q10, q11, q5, q7, qa, qb, hs]
  all_goals rfl
theorem r3k4 {t : List Int} {id : Bool} (hlo : lo ≤ g.length) (hlt : decide ((k : Int) < (ts.length : Int)) = true) (hw : IntKind.i64.wrap ((k : Int) + 1) = ((k + 1 : Nat) : Int))
    (hg : (ts.map tkC)[k]? = some [.v (.int .i64 4), .v (.string (str t)), .v (.int .i64 0), .v (.int .i64 0), .v (.bool false), .v (.bool id)]) (hs : ((str t).toList == (⟨#[]⟩ : ByteArray).toList) = false) :
    evCode ⟨Tryd.prog, E, lo, N, h3⟩ loopW l3x0 (S3 ts k g) = some (.normal, S3 ts (k + 1) (g ++ [.cells [.v (.int .i64 4), .v (.string (str t)), .v (.int .i64 0), .v (.int .i64 0), .v (.bool false), .v (.bool id)]])) := by
  have q1 : ((4 : Int) == 1) = false := rfl
  have q2 : ((4 : Int) == 2) = false := rfl
  have q3 : ((4 : Int) == 3) = false := rfl
  have q4 : ((4 : Int) == 4) = true := rfl
  have q12 : ((4 : Int) == 12) = false := rfl
  have q9 : ((4 : Int) == 9) = false := rfl
  have q10 : ((4 : Int) == 10) = false := rfl
  have q11 : ((4 : Int) == 11) = false := rfl
  have q5 : ((4 : Int) == 5) = false := rfl
  have q7 : ((4 : Int) == 7) = false := rfl
  have qa : decide ((4 : Int) < 1) = false := rfl
  have qb : decide (24 < (4 : Int)) = false := rfl
  simp only [go_sem, S3, l3x0, b3, Tryd.f3, hlo, hlt, hw, hg, fl26, zz, str_em, q1, q2, q3, q4, q12, q9, q10, q11, q5, q7, qa, qb, hs]
  all_goals rfl
theorem r3k5 {t : List Int} (hlo : lo ≤ g.length) (hlt : decide ((k : Int) < (ts.length : Int)) = true) (hw : IntKind.i64.wrap ((k : Int) + 1) = ((k + 1 : Nat) : Int))
    (hg : (ts.map tkC)[k]? = some [.v (.int .i64 5), .v (.string (str t)), .v (.int .i64 0), .v (.int .i64 0), .v (.bool false), .v (.bool false)]) :
    evCode ⟨Tryd.prog, E, lo, N, h3⟩ loopW l3x0 (S3 ts k g) = some (.normal, S3 ts (k + 1) (g ++ [.cells [.v (.int .i64 5), .v (.string (str t)), .v (.int .i64 0), .v (.int .i64 0), .v (.bool false), .v (.bool false)]])) := by
  have q1 : ((5 : Int) == 1) = false := rfl
  have q2 : ((5 : Int) == 2) = false := rfl
  have q3 : ((5 : Int) == 3) = false := rfl
  have q4 : ((5 : Int) == 4) = false := rfl
  have q12 : ((5 : Int) == 12) = false := rfl
  have q9 : ((5 : Int) == 9) = false := rfl
  have q10 : ((5 : Int) == 10) = false := rfl
  have q11 : ((5 : Int) == 11) = false := rfl
  have q5 : ((5 : Int) == 5) = true := rfl
  have q7 : ((5 : Int) == 7) = false := rfl
  have qa : decide ((5 : Int) < 1) = false := rfl
  have qb : decide (24 < (5 : Int)) = false := rfl
  simp only [go_sem, S3, l3x0, b3, Tryd.f3, hlo, hlt, hw, hg, fl26, zz, str_em, q1, q2, q3, q4, q12, q9, q10, q11, q5, q7, qa, qb]
  all_goals rfl
theorem r3k7 {t : List Int} (hlo : lo ≤ g.length) (hlt : decide ((k : Int) < (ts.length : Int)) = true) (hw : IntKind.i64.wrap ((k : Int) + 1) = ((k + 1 : Nat) : Int))
    (hg : (ts.map tkC)[k]? = some [.v (.int .i64 7), .v (.string (str t)), .v (.int .i64 0), .v (.int .i64 0), .v (.bool false), .v (.bool false)]) :
    evCode ⟨Tryd.prog, E, lo, N, h3⟩ loopW l3x0 (S3 ts k g) = some (.normal, S3 ts (k + 1) (g ++ [.cells [.v (.int .i64 7), .v (.string (str t)), .v (.int .i64 0), .v (.int .i64 0), .v (.bool false), .v (.bool false)]])) := by
  have q1 : ((7 : Int) == 1) = false := rfl
  have q2 : ((7 : Int) == 2) = false := rfl
  have q3 : ((7 : Int) == 3) = false := rfl
  have q4 : ((7 : Int) == 4) = false := rfl
  have q12 : ((7 : Int) == 12) = false := rfl
  have q9 : ((7 : Int) == 9) = false := rfl
  have q10 : ((7 : Int) == 10) = false := rfl
  have q11 : ((7 : Int) == 11) = false := rfl
  have q5 : ((7 : Int) == 5) = false := rfl
  have q7 : ((7 : Int) == 7) = true := rfl
  have qa : decide ((7 : Int) < 1) = false := rfl
  have qb : decide (24 < (7 : Int)) = false := rfl
  simp only [go_sem, S3, l3x0, b3, Tryd.f3, hlo, hlt, hw, hg, fl26, zz, str_em, q1, q2, q3, q4, q12, q9, q10, q11, q5, q7, qa, qb]
  all_goals rfl
theorem r3k10a {n d : Int} (hlo : lo ≤ g.length) (hlt : decide ((k : Int) < (ts.length : Int)) = true) (hw : IntKind.i64.wrap ((k : Int) + 1) = ((k + 1 : Nat) : Int))
    (hg : (ts.map tkC)[k]? = some [.v (.int .i64 10), .v (.string (str [])), .v (.int .i64 n), .v (.int .i64 d), .v (.bool false), .v (.bool false)]) (hd0 : decide (d < 0) = false) (hd1 : (d == 0) = false) :
    evCode ⟨Tryd.prog, E, lo, N, h3⟩ loopW l3x0 (S3 ts k g) = some (.normal, S3 ts (k + 1) (g ++ [.cells [.v (.int .i64 10), .v (.string (str [])), .v (.int .i64 n), .v (.int .i64 d), .v (.bool false), .v (.bool false)]])) := by
  have q1 : ((10 : Int) == 1) = false := rfl
  have q2 : ((10 : Int) == 2) = false := rfl
  have q3 : ((10 : Int) == 3) = false := rfl
  have q4 : ((10 : Int) == 4) = false := rfl
  have q12 : ((10 : Int) == 12) = false := rfl
  have q9 : ((10 : Int) == 9) = false := rfl
  have q10 : ((10 : Int) == 10) = true := rfl
  have q11 : ((10 : Int) == 11) = false := rfl
  have q5 : ((10 : Int) == 5) = false := rfl
  have q7 : ((10 : Int) == 7) = false := rfl
  have qa : decide ((10 : Int) < 1) = false := rfl
  have qb : decide (24 < (10 : Int)) = false := rfl
  simp only [go_sem, S3, l3x0, b3, Tryd.f3, hlo, hlt, hw, hg, fl26, zz, str_em, q1, q2, q3, q4, q12, q9, q10, q11, q5, q7, qa, qb, hd0, hd1]
  all_goals rfl
theorem r3k10b {n d : Int} (hlo : lo ≤ g.length) (hlt : decide ((k : Int) < (ts.length : Int)) = true) (hw : IntKind.i64.wrap ((k : Int) + 1) = ((k + 1 : Nat) : Int))
    (hg : (ts.map tkC)[k]? = some [.v (.int .i64 10), .v (.string (str [])), .v (.int .i64 n), .v (.int .i64 d), .v (.bool true), .v (.bool false)]) (hd0 : decide (d < 0) = false) (hd1 : (d == 0) = false) (hd2 : decide (1 < d) = false) :
    evCode ⟨Tryd.prog, E, lo, N, h3⟩ loopW l3x0 (S3 ts k g) = some (.normal, S3 ts (k + 1) (g ++ [.cells [.v (.int .i64 10), .v (.string (str [])), .v (.int .i64 n), .v (.int .i64 d), .v (.bool true), .v (.bool false)]])) := by
  have q1 : ((10 : Int) == 1) = false := rfl
  have q2 : ((10 : Int) == 2) = false := rfl
  have q3 : ((10 : Int) == 3) = false := rfl
  have q4 : ((10 : Int) == 4) = false := rfl
  have q12 : ((10 : Int) == 12) = false := rfl
  have q9 : ((10 : Int) == 9) = false := rfl
  have q10 : ((10 : Int) == 10) = true := rfl
  have q11 : ((10 : Int) == 11) = false := rfl
  have q5 : ((10 : Int) == 5) = false := rfl
  have q7 : ((10 : Int) == 7) = false := rfl
  have qa : decide ((10 : Int) < 1) = false := rfl
  have qb : decide (24 < (10 : Int)) = false := rfl
  simp only [go_sem, S3, l3x0, b3, Tryd.f3, hlo, hlt, hw, hg, fl26, zz, str_em, q1, q2, q3, q4, q12, q9, q10, q11, q5, q7, qa, qb, hd0, hd1, hd2]
  all_goals rfl
theorem r3k10c {whole : Bool} (hlo : lo ≤ g.length) (hlt : decide ((k : Int) < (ts.length : Int)) = true) (hw : IntKind.i64.wrap ((k : Int) + 1) = ((k + 1 : Nat) : Int))
    (hg : (ts.map tkC)[k]? = some [.v (.int .i64 10), .v (.string (str [])), .v (.int .i64 0), .v (.int .i64 0), .v (.bool whole), .v (.bool false)]) :
    evCode ⟨Tryd.prog, E, lo, N, h3⟩ loopW l3x0 (S3 ts k g) = some (.normal, S3 ts (k + 1) (g ++ [.cells [.v (.int .i64 10), .v (.string (str [])), .v (.int .i64 0), .v (.int .i64 0), .v (.bool whole), .v (.bool false)]])) := by
  have q1 : ((10 : Int) == 1) = false := rfl
  have q2 : ((10 : Int) == 2) = false := rfl
  have q3 : ((10 : Int) == 3) = false := rfl
  have q4 : ((10 : Int) == 4) = false := rfl
  have q12 : ((10 : Int) == 12) = false := rfl
  have q9 : ((10 : Int) == 9) = false := rfl
  have q10 : ((10 : Int) == 10) = true := rfl
  have q11 : ((10 : Int) == 11) = false := rfl
  have q5 : ((10 : Int) == 5) = false := rfl
  have q7 : ((10 : Int) == 7) = false := rfl
  have qa : decide ((10 : Int) < 1) = false := rfl
  have qb : decide (24 < (10 : Int)) = false := rfl
  simp only [go_sem, S3, l3x0, b3, Tryd.f3, hlo, hlt, hw, hg, fl26, zz, str_em, q1, q2, q3, q4, q12, q9, q10, q11, q5, q7, qa, qb]
  all_goals rfl
theorem r3k11a {n d : Int} (hlo : lo ≤ g.length) (hlt : decide ((k : Int) < (ts.length : Int)) = true) (hw : IntKind.i64.wrap ((k : Int) + 1) = ((k + 1 : Nat) : Int))
    (hg : (ts.map tkC)[k]? = some [.v (.int .i64 11), .v (.string (str [])), .v (.int .i64 n), .v (.int .i64 d), .v (.bool false), .v (.bool false)]) (hd0 : decide (d < 0) = false) (hd1 : (d == 0) = false) :
    evCode ⟨Tryd.prog, E, lo, N, h3⟩ loopW l3x0 (S3 ts k g) = some (.normal, S3 ts (k + 1) (g ++ [.cells [.v (.int .i64 11), .v (.string (str [])), .v (.int .i64 n), .v (.int .i64 d), .v (.bool false), .v (.bool false)]])) := by
  have q1 : ((11 : Int) == 1) = false := rfl
  have q2 : ((11 : Int) == 2) = false := rfl
  have q3 : ((11 : Int) == 3) = false := rfl
  have q4 : ((11 : Int) == 4) = false := rfl
  have q12 : ((11 : Int) == 12) = false := rfl
  have q9 : ((11 : Int) == 9) = false := rfl
  have q10 : ((11 : Int) == 10) = false := rfl
  have q11 : ((11 : Int) == 11) = true := rfl
  have q5 : ((11 : Int) == 5) = false := rfl
  have q7 : ((11 : Int) == 7) = false := rfl
  have qa : decide ((11 : Int) < 1) = false := rfl
  have qb : decide (24 < (11 : Int)) = false := rfl
  simp only [go_sem, S3, l3x0, b3, Tryd.f3, hlo, hlt, hw, hg, fl26, zz, str_em, q1, q2, q3, q4, q12, q9, q10, q11, q5, q7, qa, qb, hd0, hd1]
  all_goals rfl
theorem r3k11b {n d : Int} (hlo : lo ≤ g.length) (hlt : decide ((k : Int) < (ts.length : Int)) = true) (hw : IntKind.i64.wrap ((k : Int) + 1) = ((k + 1 : Nat) : Int))
    (hg : (ts.map tkC)[k]? = some [.v (.int .i64 11), .v (.string (str [])), .v (.int .i64 n), .v (.int .i64 d), .v (.bool true), .v (.bool false)]) (hd0 : decide (d < 0) = false) (hd1 : (d == 0) = false) (hd2 : decide (1 < d) = false) :
    evCode ⟨Tryd.prog, E, lo, N, h3⟩ loopW l3x0 (S3 ts k g) = some (.normal, S3 ts (k + 1) (g ++ [.cells [.v (.int .i64 11), .v (.string (str [])), .v (.int .i64 n), .v (.int .i64 d), .v (.bool true), .v (.bool false)]])) := by
  have q1 : ((11 : Int) == 1) = false := rfl
  have q2 : ((11 : Int) == 2) = false := rfl
  have q3 : ((11 : Int) == 3) = false := rfl
  have q4 : ((11 : Int) == 4) = false := rfl
  have q12 : ((11 : Int) == 12) = false := rfl
  have q9 : ((11 : Int) == 9) = false := rfl
  have q10 : ((11 : Int) == 10) = false := rfl
  have q11 : ((11 : Int) == 11) = true := rfl
  have q5 : ((11 : Int) == 5) = false := rfl
  have q7 : ((11 : Int) == 7) = false := rfl
  have qa : decide ((11 : Int) < 1) = false := rfl
  have qb : decide (24 < (11 : Int)) = false := rfl
  simp only [go_sem, S3, l3x0, b3, Tryd.f3, hlo, hlt, hw, hg, fl26, zz, str_em, q1, q2, q3, q4, q12, q9, q10, q11, q5, q7, qa, qb, hd0, hd1, hd2]
  all_goals rfl
theorem r3k11c {whole : Bool} (hlo : lo ≤ g.length) (hlt : decide ((k : Int) < (ts.length : Int)) = true) (hw : IntKind.i64.wrap ((k : Int) + 1) = ((k + 1 : Nat) : Int))
    (hg : (ts.map tkC)[k]? = some [.v (.int .i64 11), .v (.string (str [])), .v (.int .i64 0), .v (.int .i64 0), .v (.bool whole), .v (.bool false)]) :
    evCode ⟨Tryd.prog, E, lo, N, h3⟩ loopW l3x0 (S3 ts k g) = some (.normal, S3 ts (k + 1) (g ++ [.cells [.v (.int .i64 11), .v (.string (str [])), .v (.int .i64 0), .v (.int .i64 0), .v (.bool whole), .v (.bool false)]])) := by
  have q1 : ((11 : Int) == 1) = false := rfl
  have q2 : ((11 : Int) == 2) = false := rfl
  have q3 : ((11 : Int) == 3) = false := rfl
  have q4 : ((11 : Int) == 4) = false := rfl
  have q12 : ((11 : Int) == 12) = false := rfl
  have q9 : ((11 : Int) == 9) = false := rfl
  have q10 : ((11 : Int) == 10) = false := rfl
  have q11 : ((11 : Int) == 11) = true := rfl
  have q5 : ((11 : Int) == 5) = false := rfl
  have q7 : ((11 : Int) == 7) = false := rfl
  have qa : decide ((11 : Int) < 1) = false := rfl
  have qb : decide (24 < (11 : Int)) = false := rfl
  simp only [go_sem, S3, l3x0, b3, Tryd.f3, hlo, hlt, hw, hg, fl26, zz, str_em, q1, q2, q3, q4, q12, q9, q10, q11, q5, q7, qa, qb]
  all_goals rfl
theorem r3k12a {t : List Int} {n d : Int} (hlo : lo ≤ g.length) (hlt : decide ((k : Int) < (ts.length : Int)) = true) (hw : IntKind.i64.wrap ((k : Int) + 1) = ((k + 1 : Nat) : Int))
    (hg : (ts.map tkC)[k]? = some [.v (.int .i64 12), .v (.string (str t)), .v (.int .i64 n), .v (.int .i64 d), .v (.bool false), .v (.bool false)]) (hs : ((str t).toList == (⟨#[]⟩ : ByteArray).toList) = false) (hd0 : decide (d < 0) = false) (hd1 : (d == 0) = false) :
    evCode ⟨Tryd.prog, E, lo, N, h3⟩ loopW l3x0 (S3 ts k g) = some (.normal, S3 ts (k + 1) (g ++ [.cells [.v (.int .i64 12), .v (.string (str t)), .v (.int .i64 n), .v (.int .i64 d), .v (.bool false), .v (.bool false)]])) := by
  have q1 : ((12 : Int) == 1) = false := rfl
  have q2 : ((12 : Int) == 2) = false := rfl
  have q3 : ((12 : Int) == 3) = false := rfl
  have q4 : ((12 : Int) == 4) = false := rfl
  have q12 : ((12 : Int) == 12) = true := rfl
  have q9 : ((12 : Int) == 9) = false := rfl
  have q10 : ((12 : Int) == 10) = false := rfl
  have q11 : ((12 : Int) == 11) = false := rfl
  have q5 : ((12 : Int) == 5) = false := rfl
  have q7 : ((12 : Int) == 7) = false := rfl
  have qa : decide ((12 : Int) < 1) = false := rfl
  have qb : decide (24 < (12 : Int)) = false := rfl
  simp only [go_sem, S3, l3x0, b3, Tryd.f3, hlo, hlt, hw, hg, fl26, zz, str_em, q1, q2, q3, q4, q12, q9, q10, q11, q5, q7, qa, qb, hs, hd0, hd1]
  all_goals rfl
theorem r3k12b {t : List Int} {n d : Int} (hlo : lo ≤ g.length) (hlt : decide ((k : Int) < (ts.length : Int)) = true) (hw : IntKind.i64.wrap ((k : Int) + 1) = ((k + 1 : Nat) : Int))
    (hg : (ts.map tkC)[k]? = some [.v (.int .i64 12), .v (.string (str t)), .v (.int .i64 n), .v (.int .i64 d), .v (.bool true), .v (.bool false)]) (hs : ((str t).toList == (⟨#[]⟩ : ByteArray).toList) = false) (hd0 : decide (d < 0) = false) (hd1 : (d == 0) = false) (hd2 : decide (1 < d) = false) :
    evCode ⟨Tryd.prog, E, lo, N, h3⟩ loopW l3x0 (S3 ts k g) = some (.normal, S3 ts (k + 1) (g ++ [.cells [.v (.int .i64 12), .v (.string (str t)), .v (.int .i64 n), .v (.int .i64 d), .v (.bool true), .v (.bool false)]])) := by
  have q1 : ((12 : Int) == 1) = false := rfl
  have q2 : ((12 : Int) == 2) = false := rfl
  have q3 : ((12 : Int) == 3) = false := rfl
  have q4 : ((12 : Int) == 4) = false := rfl
  have q12 : ((12 : Int) == 12) = true := rfl
  have q9 : ((12 : Int) == 9) = false := rfl
  have q10 : ((12 : Int) == 10) = false := rfl
  have q11 : ((12 : Int) == 11) = false := rfl
  have q5 : ((12 : Int) == 5) = false := rfl
  have q7 : ((12 : Int) == 7) = false := rfl
  have qa : decide ((12 : Int) < 1) = false := rfl
  have qb : decide (24 < (12 : Int)) = false := rfl
  simp only [go_sem, S3, l3x0, b3, Tryd.f3, hlo, hlt, hw, hg, fl26, zz, str_em, q1, q2, q3, q4, q12, q9, q10, q11, q5, q7, qa, qb, hs, hd0, hd1, hd2]
  all_goals rfl
theorem r3k12c {t : List Int} {whole : Bool} (hlo : lo ≤ g.length) (hlt : decide ((k : Int) < (ts.length : Int)) = true) (hw : IntKind.i64.wrap ((k : Int) + 1) = ((k + 1 : Nat) : Int))
    (hg : (ts.map tkC)[k]? = some [.v (.int .i64 12), .v (.string (str t)), .v (.int .i64 0), .v (.int .i64 0), .v (.bool whole), .v (.bool false)]) (hs : ((str t).toList == (⟨#[]⟩ : ByteArray).toList) = false) :
    evCode ⟨Tryd.prog, E, lo, N, h3⟩ loopW l3x0 (S3 ts k g) = some (.normal, S3 ts (k + 1) (g ++ [.cells [.v (.int .i64 12), .v (.string (str t)), .v (.int .i64 0), .v (.int .i64 0), .v (.bool whole), .v (.bool false)]])) := by
  have q1 : ((12 : Int) == 1) = false := rfl
  have q2 : ((12 : Int) == 2) = false := rfl
  have q3 : ((12 : Int) == 3) = false := rfl
  have q4 : ((12 : Int) == 4) = false := rfl
  have q12 : ((12 : Int) == 12) = true := rfl
  have q9 : ((12 : Int) == 9) = false := rfl
  have q10 : ((12 : Int) == 10) = false := rfl
  have q11 : ((12 : Int) == 11) = false := rfl
  have q5 : ((12 : Int) == 5) = false := rfl
  have q7 : ((12 : Int) == 7) = false := rfl
  have qa : decide ((12 : Int) < 1) = false := rfl
  have qb : decide (24 < (12 : Int)) = false := rfl
  simp only [go_sem, S3, l3x0, b3, Tryd.f3, hlo, hlt, hw, hg, fl26, zz, str_em, q1, q2, q3, q4, q12, q9, q10, q11, q5, q7, qa, qb, hs]
  all_goals rfl
theorem r3ko {K : Int} (hlo : lo ≤ g.length) (hlt : decide ((k : Int) < (ts.length : Int)) = true) (hw : IntKind.i64.wrap ((k : Int) + 1) = ((k + 1 : Nat) : Int))
    (hg : (ts.map tkC)[k]? = some [.v (.int .i64 K), .v (.string (str [])), .v (.int .i64 0), .v (.int .i64 0), .v (.bool false), .v (.bool false)]) (h1 : 1 ≤ K) (h2 : K ≤ 24) (h9 : K ≠ 1 ∧ K ≠ 2 ∧ K ≠ 3 ∧ K ≠ 4 ∧ K ≠ 12 ∧ K ≠ 9 ∧ K ≠ 10 ∧ K ≠ 11 ∧ K ≠ 5 ∧ K ≠ 7) :
    evCode ⟨Tryd.prog, E, lo, N, h3⟩ loopW l3x0 (S3 ts k g) = some (.normal, S3 ts (k + 1) (g ++ [.cells [.v (.int .i64 K), .v (.string (str [])), .v (.int .i64 0), .v (.int .i64 0), .v (.bool false), .v (.bool false)]])) := by
  have q1 : (K == 1) = false := by simp; omega
  have q2 : (K == 2) = false := by simp; omega
  have q3 : (K == 3) = false := by simp; omega
  have q4 : (K == 4) = false := by simp; omega
  have q12 : (K == 12) = false := by simp; omega
  have q9 : (K == 9) = false := by simp; omega
  have q10 : (K == 10) = false := by simp; omega
  have q11 : (K == 11) = false := by simp; omega
  have q5 : (K == 5) = false := by simp; omega
  have q7 : (K == 7) = false := by simp; omega
  have qa : decide (K < 1) = false := by simp; omega
  have qb : decide (24 < K) = false := by simp; omega
  simp only [go_sem, S3, l3x0, b3, Tryd.f3, hlo, hlt, hw, hg, fl26, zz, str_em, q1, q2, q3, q4, q12, q9, q10, q11, q5, q7, qa, qb]
  all_goals rfl
theorem round3 (hlo : lo ≤ g.length) (hk : k < ts.length) (hl : ts.length ≤ 1000000000000) (hF : Few ts[k]) :
    evCode ⟨Tryd.prog, E, lo, N, h3⟩ loopW l3x0 (S3 ts k g) = some (.normal, S3 ts (k + 1) (g ++ [.cells (tkC ts[k])])) := by
  have hlt : decide ((k : Int) < (ts.length : Int)) = true := by simp; omega
  have hw : IntKind.i64.wrap ((k : Int) + 1) = ((k + 1 : Nat) : Int) := wrap_succ (by omega)
  have hg : (ts.map tkC)[k]? = some (tkC ts[k]) := by simp [List.getElem?_eq_getElem hk]
  generalize ts[k] = T at *
  obtain ⟨K, t, ⟨n, d⟩, whole, id⟩ := T
  obtain ⟨a1, a2, a3, a4, a5, a6, a7, a8, a9⟩ := hF
  simp only at a1 a2 a3 a4 a5 a6 a7 a8 a9
  simp only [tkC] at hg ⊢
  have hid : K ≠ 4 → id = false := fun h => by
    cases id with
    | false => rfl
    | true => exact absurd (a6 rfl) h
  by_cases k1 : K = 1
  · subst k1
    obtain ⟨e1, rfl⟩ := a5 (by decide) (by decide) (by decide)
    cases e1
    obtain rfl := hid (by decide)
    exact r3k1 hlo hlt hw hg (str_ne (a3 (by decide)))
  by_cases k2 : K = 2
  · subst k2
    obtain ⟨e1, rfl⟩ := a5 (by decide) (by decide) (by decide)
    cases e1
    obtain rfl := hid (by decide)
    exact r3k2 hlo hlt hw hg (str_ne (a3 (by decide)))
  by_cases k3 : K = 3
  · subst k3
    obtain ⟨e1, rfl⟩ := a5 (by decide) (by decide) (by decide)
    cases e1
    obtain rfl := hid (by decide)
    exact r3k3 hlo hlt hw hg (str_ne (a3 (by decide)))
  by_cases k9 : K = 9
  · subst k9
    obtain ⟨e1, rfl⟩ := a5 (by decide) (by decide) (by decide)
    cases e1
    obtain rfl := hid (by decide)
    exact r3k9 hlo hlt hw hg (str_ne (a3 (by decide)))
  by_cases k4 : K = 4
  · subst k4
    obtain ⟨e1, rfl⟩ := a5 (by decide) (by decide) (by decide)
    cases e1
    exact r3k4 hlo hlt hw hg (str_ne (a3 (by decide)))
  by_cases k5 : K = 5
  · subst k5
    obtain ⟨e1, rfl⟩ := a5 (by decide) (by decide) (by decide)
    cases e1
    obtain rfl := hid (by decide)
    exact r3k5 hlo hlt hw hg
  by_cases k7 : K = 7
  · subst k7
    obtain ⟨e1, rfl⟩ := a5 (by decide) (by decide) (by decide)
    cases e1
    obtain rfl := hid (by decide)
    exact r3k7 hlo hlt hw hg
  by_cases k10 : K = 10
  · subst k10
    obtain rfl := hid (by decide)
    obtain rfl := a4 (by decide) (by decide) (by decide) (by decide) (by decide) (by decide) (by decide) (by decide)
    by_cases d0 : d = 0
    · subst d0
      obtain rfl := a8 rfl
      exact r3k10c hlo hlt hw hg
    have hd0 : decide (d < 0) = false := by simp; omega
    have hd1 : (d == 0) = false := by simp [d0]
    cases whole with
    | false => exact r3k10a hlo hlt hw hg hd0 hd1
    | true => exact r3k10b hlo hlt hw hg hd0 hd1 (by have := a9 rfl; simp; omega)
  by_cases k11 : K = 11
  · subst k11
    obtain rfl := hid (by decide)
    obtain rfl := a4 (by decide) (by decide) (by decide) (by decide) (by decide) (by decide) (by decide) (by decide)
    by_cases d0 : d = 0
    · subst d0
      obtain rfl := a8 rfl
      exact r3k11c hlo hlt hw hg
    have hd0 : decide (d < 0) = false := by simp; omega
    have hd1 : (d == 0) = false := by simp [d0]
    cases whole with
    | false => exact r3k11a hlo hlt hw hg hd0 hd1
    | true => exact r3k11b hlo hlt hw hg hd0 hd1 (by have := a9 rfl; simp; omega)
  by_cases k12 : K = 12
  · subst k12
    obtain rfl := hid (by decide)
    have hs := str_ne (a3 (by decide))
    by_cases d0 : d = 0
    · subst d0
      obtain rfl := a8 rfl
      exact r3k12c hlo hlt hw hg hs
    have hd0 : decide (d < 0) = false := by simp; omega
    have hd1 : (d == 0) = false := by simp [d0]
    cases whole with
    | false => exact r3k12a hlo hlt hw hg hs hd0 hd1
    | true => exact r3k12b hlo hlt hw hg hs hd0 hd1 (by have := a9 rfl; simp; omega)
  obtain rfl := a4 (by omega) (by omega) (by omega) (by omega) (by omega) (by omega) (by omega) (by omega)
  obtain ⟨e1, rfl⟩ := a5 (by omega) (by omega) (by omega)
  cases e1
  obtain rfl := hid (by omega)
  exact r3ko hlo hlt hw hg a1 a2 (by omega)
theorem loop3 (hl : ts.length ≤ 1000000000000) (hF : ∀ t ∈ ts, Few t) : ∀ (m k : Nat) (g : Heap), ts.length - k ≤ m → k ≤ ts.length → lo ≤ g.length →
    ∃ Y, loopW (evCode ⟨Tryd.prog, E, lo, N, h3⟩ loopW l3x0) (S3 ts k g) =
      some (.exit 0, [(16, .list .no (ts.map tkC)), (17, .v (.int .i64 ts.length)), (18, .v (.int .i64 ts.length)), (19, .v (.bool false))], g ++ Y) := by
  intro m
  have stop : ∀ g : Heap, ∃ Y, loopW (evCode ⟨Tryd.prog, E, lo, N, h3⟩ loopW l3x0) (S3 ts ts.length g) =
      some (.exit 0, [(16, .list .no (ts.map tkC)), (17, .v (.int .i64 ts.length)), (18, .v (.int .i64 ts.length)), (19, .v (.bool false))], g ++ Y) := by
    intro g
    have hlt : decide ((ts.length : Int) < (ts.length : Int)) = false := by simp
    refine ⟨[], ?_⟩
    rw [loop_eq, List.append_nil]
    simp only [go_sem, S3, l3x0, b3, Tryd.f3, hlt]
  induction m with
  | zero =>
    intro k g h1 h2 _
    obtain rfl : k = ts.length := by omega
    exact stop g
  | succ m ih =>
    intro k g h1 h2 hlo
    rcases Nat.lt_or_ge k ts.length with hk | hk
    rotate_left
    · obtain rfl : k = ts.length := by omega
      exact stop g
    obtain ⟨Y, hY⟩ := ih (k + 1) (g ++ [.cells (tkC ts[k])]) (by omega) hk (by rw [List.length_append]; omega)
    refine ⟨.cells (tkC ts[k]) :: Y, ?_⟩
    rw [loop_eq, round3 hlo hk hl (hF _ (List.getElem_mem hk)), loop_n, hY]
    simp
/-- the law TokFew answers true -/
theorem f3 {l : List Int} (hl : l.length ≤ 1000000000) (hlo : lo ≤ h.length) : E lo 3 [.list .no (ri .i32 l)] h = some (.v (.bool true), h) := by
  have k1 := f7 (lo := lo) (l := l) (h := h) (by omega) hlo
  have hlen := toks_len (l.map scal)
  have k4 := fun h hlo => f8 (lo := lo) (h := h) hlo
  have hF := few_toks (l.map scal)
  rw [List.length_map] at hlen
  generalize toks (l.map scal) = ts at *
  obtain ⟨Y, hL⟩ := loop3 (lo := lo) (N := h.length) (ts := ts) (by omega) hF ts.length 0 h (by omega) (Nat.zero_le _) hlo
  have kf := k4 (h ++ Y) (by rw [List.length_append]; omega)
  have hq : decide ((l.length : Int) < (ts.length : Int)) = false := by simp; omega
  have n0 : ((0 : Nat) : Int) = 0 := rfl
  rw [e3 (by simp) (by rfl)]
  simp only [S3, n0, l3x0, b3, Tryd.f3, loopAt, loops, bodyOf, go_sem] at hL
  simp only [go_sem, b3, Tryd.f3, k1, hq, hL, kf, List.length_map]
  all_goals rfl
end
end Go.Lift.D3
