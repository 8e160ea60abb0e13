/- The program, evaluated. -/
import Derived.Test.YtnfdhgadidacaaaGreatDoorGZa
import Derived.Test.YtnfdhgadidacaaaGreatDoorGPa
import Derived.Test.YtnfdhgadidacaaaGreatDoorGPb
section
open Go.Proofs
namespace Go.Lift.R4
set_option linter.unusedSectionVars false
variable [MX]
open Utf Tok Spell
set_option maxRecDepth 20000
set_option maxHeartbeats 4000000
set_option linter.unusedSimpArgs false
set_option linter.unusedVariables false
section
variable {lo : Nat} {h : Heap}
theorem bs_45 : (⟨#[45]⟩ : ByteArray) = bs [45] := rfl
theorem bs_46 : (⟨#[46]⟩ : ByteArray) = bs [46] := rfl
theorem bs_48 : (⟨#[48]⟩ : ByteArray) = bs [48] := rfl
def wide (m : Int) (p : Nat) : List Int := List.replicate (p + 1 - (dgt m).length) 48 ++ dgt m
theorem wide_len {m : Int} {p : Nat} : p + 1 ≤ (wide m p).length ∧ (wide m p).length ≤ (dgt m).length + p + 1 := by
 unfold wide
 simp
 omega
theorem p36b (hlo : lo ≤ h.length) {n d m a1 a2 : Int} {w : Bool} {p : Nat} {q : Heap} (h0 : 0 ≤ m) (h1 : m ≤ 9223372036854775808) (hp : p ≤ 1000) :
  evL (X36 lo h.length) loopW (pc b36 9 3) (O36 w h.length p m a1 a2 2 ++ [(67, .v (.bool false))], h ++ .cells [.v (.int .i64 n), .v (.int .i64 d)] :: q) =
   if 18 < (core (dgt m)).length then some (.ret, [(4, .v (.string ⟨#[]⟩)), (5, .v (.int .i64 1))], h ++ .cells [.v (.int .i64 n), .v (.int .i64 d)] :: q)
   else some (.normal, [(1, .v (.bool w)), (2, .ptr h.length 0), (9, .v (.int .i64 p)), (13, .v (.string (bs (dgt m)))), (86, .v (.bool false))], h ++ .cells [.v (.int .i64 n), .v (.int .i64 d)] :: q) := by
 have k1 := fun (lo : Nat) (h : Heap) (hlo : lo ≤ h.length) => f97 (lo := lo) (h := h) hlo h0 (n := m) (by omega)
 have k1 := k1 lo (h ++ .cells [.v (.int .i64 n), .v (.int .i64 d)] :: q) (by simp; omega)
 obtain ⟨l1, l2⟩ := dgt_len 19 m h0 (by
                     have : (10 : Int) ^ (19 + 1) = 100000000000000000000 := by decide
                     omega)
 have k2 := fun lo h => f98 (lo := lo) (h := h) (dgt_by m) (by omega)
 have sz := bs_size (core (dgt m))
 by_cases hc : 18 < (core (dgt m)).length
 ·have q1 : decide (18 < (((core (dgt m)).length : Nat) : Int)) = true := by simp; omega
  rw [if_pos hc]
  simp only [go_sem, b36, Tryz.f36, k1, k2, sz, q1, hlo, O36]
  all_goals rfl
 ·have q1 : decide (18 < (((core (dgt m)).length : Nat) : Int)) = false := by simp; omega
  rw [if_neg hc]
  simp only [go_sem, b36, Tryz.f36, k1, k2, sz, q1, hlo, O36]
  all_goals rfl
theorem p36c {n d m : Int} {w : Bool} {p : Nat} {q : Heap} (h0 : 0 ≤ m) (h1 : m ≤ 9223372036854775808) (hp : p ≤ 1000) :
  evL (X36 lo h.length) loopW (pc b36 12 2) ([(1, .v (.bool w)), (2, .ptr h.length 0), (9, .v (.int .i64 p)), (13, .v (.string (bs (dgt m)))), (86, .v (.bool false))], h ++ .cells [.v (.int .i64 n), .v (.int .i64 d)] :: q) =
   some (.normal, [(1, .v (.bool w)), (2, .ptr h.length 0), (9, .v (.int .i64 p)), (13, .v (.string (bs (wide m p)))), (90, .v (.bool (decide ((dgt m).length ≤ p))))], h ++ .cells [.v (.int .i64 n), .v (.int .i64 d)] :: q) := by
 obtain ⟨l1, l2⟩ := dgt_len 19 m h0 (by
                     have : (10 : Int) ^ (19 + 1) = 100000000000000000000 := by decide
                     omega)
 have sz := bs_size (dgt m)
 unfold wide
 by_cases hc : (dgt m).length ≤ p
 ·have q1 : decide (((dgt m).length : Int) ≤ (p : Int)) = true := by simp; omega
  have q2 : decide ((dgt m).length ≤ p) = true := by simp [hc]
  have w1 : IntKind.i64.wrap ((p : Int) + 1) = (p : Int) + 1 := wrap_i64 (by omega) (by omega)
  have w2 : IntKind.i64.wrap ((p : Int) + 1 - ((dgt m).length : Int)) = (p : Int) + 1 - ((dgt m).length : Int) := wrap_i64 (by omega) (by omega)
  have k1 := fun lo h => f94 (lo := lo) (h := h) (c := 48) (n := (p : Int) + 1 - ((dgt m).length : Int)) (by omega) (by omega)
  have e : ((p : Int) + 1 - ((dgt m).length : Int)).toNat = p + 1 - (dgt m).length := by omega
  have e2 : ((UInt8.toNat 48 : Nat) : Int) = 48 := rfl
  rw [e, e2] at k1
  have z1 : (bs (List.replicate (p + 1 - (dgt m).length) 48)).size + (dgt m).length ≤ 9223372036854775807 := by rw [bs_size, List.length_replicate]; omega
  rw [q2]
  simp only [go_sem, b36, Tryz.f36, sz, q1, w1, w2, k1, bs_app, z1]
  all_goals rfl
 ·have q1 : decide (((dgt m).length : Int) ≤ (p : Int)) = false := by simp; omega
  have q2 : decide ((dgt m).length ≤ p) = false := by simp [hc]
  have e : p + 1 - (dgt m).length = 0 := by omega
  rw [q2, e]
  simp only [go_sem, b36, Tryz.f36, sz, q1]
  all_goals rfl
def point (T : List Int) (p : Nat) (w : Bool) : List Int := if w = true then T else T.take (T.length - p) ++ 46 :: (T.drop (T.length - p) ++ if p = 0 then [48] else [])
theorem p36d {T : List Int} {n d : Int} {w b : Bool} {p : Nat} {q : Heap} (hp : p + 1 ≤ T.length) (hl : T.length ≤ 1000000) :
  ∃ e1 e2 : Env, (e1 = [] ∨ ∃ v, e1 = [(9, v)]) ∧ (e2 = [] ∨ (∃ v, e2 = [(100, v)]) ∨ ∃ v, e2 = [(114, v)]) ∧
  evL (X36 lo h.length) loopW (pc b36 14 2) ([(1, .v (.bool w)), (2, .ptr h.length 0), (9, .v (.int .i64 p)), (13, .v (.string (bs T))), (90, .v (.bool b))], h ++ .cells [.v (.int .i64 n), .v (.int .i64 d)] :: q) =
   some (.normal, (2, .ptr h.length 0) :: (e1 ++ (13, .v (.string (bs (point T p w)))) :: e2), h ++ .cells [.v (.int .i64 n), .v (.int .i64 d)] :: q) := by
 unfold point
 cases w with
 | true =>
  refine ⟨[(9, .v (.int .i64 p))], [(100, .v (.bool false))], .inr ⟨_, rfl⟩, .inr (.inl ⟨_, rfl⟩), ?_⟩
  simp only [go_sem, b36, Tryz.f36]
  all_goals rfl
 | false =>
  have sz := bs_size T
  have w1 : IntKind.i64.wrap ((T.length : Int) - (p : Int)) = ((T.length - p : Nat) : Int) := by rw [wrap_i64 (by omega) (by omega)]; omega
  have b1 : T.length - p ≤ T.length := by omega
  have e1 : (T.take T.length).drop (T.length - p) = T.drop (T.length - p) := by rw [List.take_length]
  have e0 : (T.take (T.length - p)).drop 0 = T.take (T.length - p) := rfl
  have zz : ∀ a b : List Int, a.length + b.length ≤ 2000000000 → (bs a).size + (bs b).size ≤ 9223372036854775807 := fun a b h => by rw [bs_size, bs_size]; omega
  have z1 := zz (T.take (T.length - p)) [46] (by simp; omega)
  have z2 := zz (T.take (T.length - p) ++ [46]) (T.drop (T.length - p)) (by simp; omega)
  have z3 := zz (T.take (T.length - p) ++ [46] ++ T.drop (T.length - p)) [48] (by simp; omega)
  rw [List.append_assoc, List.singleton_append] at z3
  have z0 : 0 ≤ T.length - p := Nat.zero_le _
  by_cases hp0 : p = 0
  ·have q0 : ((p : Int) == 0) = true := by simp [hp0]
   have q2 : (p == 0) = true := by simp [hp0]
   rw [if_pos hp0]
   refine ⟨[(9, .undef)], [(100, .undef)], .inr ⟨_, rfl⟩, .inr (.inl ⟨_, rfl⟩), ?_⟩
   simp only [go_sem, b36, Tryz.f36, sz, w1, b1, bs_ext, e0, e1, bs_46, bs_48, bs_app, q0, z0, z1, z2, z3, Nat.le_refl, List.append_assoc]
   all_goals rfl
  ·have q0 : ((p : Int) == 0) = false := by simp; omega
   have q2 : (p == 0) = false := by simp [hp0]
   rw [if_neg hp0]
   refine ⟨[], [(114, .v (.bool false))], .inl rfl, .inr (.inr ⟨_, rfl⟩), ?_⟩
   simp only [go_sem, b36, Tryz.f36, sz, w1, b1, bs_ext, e0, e1, bs_46, bs_48, bs_app, q0, z0, z1, z2, z3, Nat.le_refl, List.append_assoc]
   all_goals rfl
theorem p36e {T : List Int} {n d : Int} {q : Heap} {e1 e2 : Env} (hl : T.length ≤ 2000000) (he : e1 = [] ∨ ∃ v, e1 = [(9, v)]) (ht : e2 = [] ∨ (∃ v, e2 = [(100, v)]) ∨ ∃ v, e2 = [(114, v)]) :
  evL (X36 lo h.length) loopW (pc b36 16 4) ((2, .ptr h.length 0) :: (e1 ++ (13, .v (.string (bs T))) :: e2), h ++ .cells [.v (.int .i64 n), .v (.int .i64 d)] :: q) =
   some (.ret, [(4, .v (.string (bs ((if n < 0 then [45] else []) ++ T)))), (5, .v (.int .i64 0))], h ++ .cells [.v (.int .i64 n), .v (.int .i64 d)] :: q) := by
 have z1 : (bs [45]).size + (bs T).size ≤ 9223372036854775807 := by rw [bs_size, bs_size]; simp; omega
 by_cases hn : n < 0
 ·have q1 : decide (n < 0) = true := by simp [hn]
  rw [if_pos hn]
  rcases he with rfl | ⟨v, rfl⟩ <;> rcases ht with rfl | ⟨v2, rfl⟩ | ⟨v2, rfl⟩ <;>
  simp only [go_sem, b36, Tryz.f36, q1, bs_45, bs_app, z1] <;> rfl
 ·have q1 : decide (n < 0) = false := by simp; omega
  rw [if_neg hn]
  rcases he with rfl | ⟨v, rfl⟩ <;> rcases ht with rfl | ⟨v2, rfl⟩ | ⟨v2, rfl⟩ <;>
  simp only [go_sem, b36, Tryz.f36, q1, List.nil_append] <;> rfl
theorem fin36 {x : List Int} {e : Int} {c : Ob} {q : Heap} : fin Tryz.prog [.tmp 4, .tmp 5] h.length (some (.ret, [(4, .v (.string (bs x))), (5, .v (.int .i64 e))], h ++ c :: q)) = some (.tup [.v (.string (bs x)), .v (.int .i64 e)], h) := by
 simp only [go_sem]
 all_goals rfl
def plainV (x : Option (List Int)) : V := match x with
 | some t => .tup [.v (.string (bs t)), .v (.int .i64 0)]
 | none => .tup [.v (.string (bs [])), .v (.int .i64 1)]
theorem prog_one {n m : Int} {p : Nat} (h : progN n 1 = some (m, p)) : p = 0 := by
 have hc : Go.Lib.ctz 64 1 = 0 := by decide
 unfold progN at h
 have e1 : (1 : Int).toNat = 1 := rfl
 have e2 : (1 : Int) / 2 ^ 0 = 1 := rfl
 have e3 : fv 64 1 = (0, 1) := rfl
 simp only [e1, hc, e2, e3] at h
 simp [upM] at h
 omega
end
end Go.Lift.R4
end

section
open Go.Proofs
namespace Go.Lift.R4
set_option linter.unusedSectionVars false
variable [MX]
open Utf Tok Spell
set_option maxRecDepth 20000
set_option maxHeartbeats 4000000
set_option linter.unusedSimpArgs false
set_option linter.unusedVariables false
section
variable {lo : Nat} {h : Heap}
theorem numText_eq {b w : Bool} {m : Int} {p : Nat} (hw : w = true → p = 0) :
  numText b w m p = if 18 < (core (dgt m)).length then none else some ((if b = true then [45] else []) ++ point (wide m p) p w) := by
 unfold numText point wide
 split
 ·rfl
 ·cases w with
  | true =>
   obtain rfl := hw rfl
   simp
   rw [List.take_of_length_le (by simp)]
  | false => simp
theorem may_pos {n d : Int} (hm : mayR n d = true) (hd : d ≠ 0) : 1 ≤ d := by
 unfold mayR sureR at hm
 simp only [Bool.or_eq_true, Bool.and_eq_true, beq_iff_eq, decide_eq_true_eq] at hm
 rcases hm with ⟨_, h⟩ | ⟨⟨h, _⟩, _⟩
 ·exact absurd h hd
 ·exact h
theorem progN_le {n d m : Int} {p : Nat} (h0 : 0 ≤ n) (h1 : n ≤ 9223372036854775808) (hd0 : 1 ≤ d) (hd1 : d ≤ 9223372036854775807) (h : progN n d = some (m, p)) : 0 ≤ m ∧ m ≤ 9223372036854775808 ∧ p ≤ 64 := by
 unfold progN at h
 simp only at h
 split at h
 ·have hA : Go.Lib.ctz 64 d.toNat ≤ 64 := by
   have hlow := Go.Lib.ctzFrom_spec 64 d.toNat (by omega) (by omega)
   have hctz : Go.Lib.ctz 64 d.toNat = Go.Lib.ctzFrom 64 d.toNat := by unfold Go.Lib.ctz; rw [if_neg (by omega)]
   rw [← hctz] at hlow
   obtain ⟨_, _, h⟩ := hlow
   omega
  have hB := fv_le 64 (d / 2 ^ Go.Lib.ctz 64 d.toNat)
  generalize Go.Lib.ctz 64 d.toNat = A at *
  generalize (fv 64 (d / 2 ^ A)).1 = B at *
  generalize hM : max A B = M at *
  cases hu : upM 2 (M - A) n with
  | none => rw [hu] at h; cases h
  | some r =>
   rw [hu, Option.bind_some] at h
   obtain ⟨r0, r1⟩ := upM_le (x := 2) (by omega) (by omega) _ _ _ h0 h1 hu
   cases hv : upM 5 (M - B) r with
   | none => rw [hv] at h; cases h
   | some s =>
    rw [hv] at h
    simp only [Option.map_some, Option.some.injEq, Prod.mk.injEq] at h
    obtain ⟨s0, s1⟩ := upM_le (x := 5) (by omega) (by omega) _ _ _ r0 r1 hv
    omega
 ·cases h
theorem f36 (hlo : lo ≤ h.length) {n d : Int} {w : Bool} (h0 : -9223372036854775808 ≤ n) (h1 : n ≤ 9223372036854775807) (h2 : -9223372036854775808 ≤ d) (h3 : d ≤ 9223372036854775807) :
  E lo 36 [.agg [.v (.int .i64 n), .v (.int .i64 d)], .v (.bool w)] h = some (plainV (plainT n d w), h) := by
 have k1 := fun lo h hlo => f93 (lo := lo) (h := h) h0 h1 h3 hlo
 have k1 := k1 lo (h ++ [.cells [.v (.int .i64 n), .v (.int .i64 d)]]) (by simp; omega)
 rw [e36 (by simp) (by rfl)]
 cases hm : mayR n d with
 | false =>
  have e : plainT n d w = none := by unfold plainT; rw [hm]; rfl
  rw [hm] at k1
  rw [e]
  simp only [go_sem, b36, Tryz.f36, k1, hlo, plainV]
  all_goals rfl
 | true =>
  cases hw : (w && decide (1 < d)) with
  | true =>
   have e : plainT n d w = none := by unfold plainT; rw [hm, hw]; rfl
   rw [hm] at k1
   rw [Bool.and_eq_true] at hw
   obtain ⟨rfl, q⟩ := hw
   rw [e]
   simp only [go_sem, b36, Tryz.f36, k1, hlo, plainV, q]
   all_goals rfl
  | false =>
   by_cases hd : d = 0
   ·have e : plainT n d w = some (if w = true then List.replicate 20 57 else [49, 101, 57, 57]) := by unfold plainT; rw [hm, hw, if_neg (by simp), if_pos hd]
    rw [hm] at k1
    rw [e]
    subst hd
    cases w with
    | true =>
     have k2 := fun lo h => f94 (lo := lo) (h := h) (c := 57) (n := 20) (by omega) (by omega)
     have q : ((0 : Int) == 0) = true := rfl
     have q2 : decide ((1 : Int) < 0) = false := rfl
     simp only [go_sem, b36, Tryz.f36, k1, k2, hlo, plainV, q, q2]
     all_goals rfl
    | false =>
     have q : ((0 : Int) == 0) = true := rfl
     simp only [go_sem, b36, Tryz.f36, k1, hlo, plainV, q]
     all_goals rfl
   ·have h1d := may_pos hm hd
    obtain ⟨q, a1, a2, pa⟩ := p36a (lo := lo) (h := h) hlo h0 h1 h1d h3 hm hw
    have e : plainT n d w = match progN n.natAbs d with
      | none => none
      | some (m, p) => numText (decide (n < 0)) w m p := by unfold plainT; rw [hm, hw, if_neg (by simp), if_neg hd]; cases progN (n.natAbs : Int) d <;> rfl
    rw [e, pc_in, pc_go _ _ _ _ 0 9]
    unfold X36 at pa
    rw [pa]
    cases hp : progN (n.natAbs : Int) d with
    | none =>
     simp only
     rw [pc_r]
     exact fin36 (x := [])
    | some mp =>
     obtain ⟨m, p⟩ := mp
     obtain ⟨m0, m1, p1⟩ := progN_le (by omega) (by omega) h1d h3 hp
     have hwp : w = true → p = 0 := fun hw1 => by
      subst hw1
      have : d = 1 := by simp at hw; omega
      subst this
      exact prog_one hp
     simp only
     rw [numText_eq hwp, pc_go _ _ _ _ _ 3]
     have pb := p36b (lo := lo) (h := h) hlo (n := n) (d := d) (m := m) (a1 := a1) (a2 := a2) (w := w) (p := p) (q := q) m0 m1 (by omega)
     unfold X36 at pb
     rw [pb]
     by_cases hc : 18 < (core (dgt m)).length
     ·rw [if_pos hc, if_pos hc, pc_r]
      exact fin36 (x := [])
     ·rw [if_neg hc, if_neg hc, pc_go _ _ _ _ _ 2]
      have pcc := p36c (lo := lo) (h := h) (n := n) (d := d) (m := m) (w := w) (p := p) (q := q) m0 m1 (by omega)
      unfold X36 at pcc
      rw [pcc, pc_go _ _ _ _ _ 2]
      obtain ⟨l1, l2⟩ := wide_len (m := m) (p := p)
      obtain ⟨g1, g2⟩ := dgt_len 19 m m0 (by
                          have : (10 : Int) ^ (19 + 1) = 100000000000000000000 := by decide
                          omega)
      obtain ⟨e1, e2, x1, x2, pd⟩ := p36d (lo := lo) (h := h) (T := wide m p) (n := n) (d := d) (w := w) (b := decide ((dgt m).length ≤ p)) (p := p) (q := q) l1 (by omega)
      unfold X36 at pd
      rw [pd, pc_go _ _ _ _ _ 4]
      have pe := p36e (lo := lo) (h := h) (T := point (wide m p) p w) (n := n) (d := d) (q := q) (e1 := e1) (e2 := e2) (by
       unfold point
       split
       ·omega
       ·simp only [List.length_append, List.length_cons, List.length_take, List.length_drop]
        split <;> simp <;> omega) x1 x2
      unfold X36 at pe
      rw [pe, pc_r, fin36]
      simp only [decide_eq_true_eq]
      rfl
end
end Go.Lift.R4
end

section
open Go.Proofs
namespace Go.Lift.R4
set_option linter.unusedSectionVars false
variable [MX]
set_option linter.unusedVariables false
set_option linter.unusedSimpArgs false
open Utf
set_option maxRecDepth 20000
set_option linter.unusedSimpArgs false
theorem round123 {lo : Nat} {b : List Int} {h : Heap} {i n : Nat} {r low high c : Int} (hc : b[i + 1]? = some c) (hi : i < n) (hn : n ≤ 3) (hb : b.length ≤ 140737488355328) (hl : i + 1 < b.length)
  (c0 : 0 ≤ c) (c1 : c ≤ 255) (r0 : 0 ≤ r) (r1 : r ≤ 1000000) (hx : (decide (c < low) || decide (high < c)) = false) :
  evCode ⟨Tryz.prog, E, lo, h.length, h123⟩ loopW l123x0 ([(0, .list .no (ri .u8 b)), (5, .v (.int .u8 low)), (6, .v (.int .u8 high)), (7, .v (.int .i64 n)), (8, .v (.int .i32 r)), (58, .v (.int .i64 n)), (59, .v (.int .i64 i))], h) =
   some (.normal, [(0, .list .no (ri .u8 b)), (5, .v (.int .u8 128)), (6, .v (.int .u8 191)), (7, .v (.int .i64 n)), (8, .v (.int .i32 (r * 64 + c % 64))), (58, .v (.int .i64 n)), (59, .v (.int .i64 (i + 1 : Nat)))], h) := by
 have hd : decide ((i : Int) < n) = true := by simpa using hi
 have hw : IntKind.i64.wrap ((i : Int) + 1) = ((i + 1 : Nat) : Int) := wrap_succ (by omega)
 have hg : decide ((b.length : Int) ≤ (i + 1 : Nat)) = false := by simp; omega
 have hx1 : decide (c < low) = false := by simp at hx; simp; omega
 have hx2 : decide (high < c) = false := by simp at hx; simp; omega
 simp only [go_sem, l123x0, b123, Tryz.f123, hd, hc, hw, hg, hx1, hx2]
 rw [shl6 r0 r1, a63 c0 c1, wrap_u8 (by omega) (by omega), wrap_i32 (n := c % 64) (by omega) (by omega), or64 r0 r1 (by omega) (by omega), wrap_i32 (by omega) (by omega)]
theorem stop123 {lo : Nat} {b : List Int} {h : Heap} {i n : Nat} {r low high : Int} (hi : i < n) (hn : n ≤ 3) (hb : b.length ≤ 140737488355328)
  (hs : b.length ≤ i + 1 ∨ ∃ c, b[i + 1]? = some c ∧ i + 1 < b.length ∧ (c < low ∨ high < c)) :
  evCode ⟨Tryz.prog, E, lo, h.length, h123⟩ loopW l123x0 ([(0, .list .no (ri .u8 b)), (5, .v (.int .u8 low)), (6, .v (.int .u8 high)), (7, .v (.int .i64 n)), (8, .v (.int .i32 r)), (58, .v (.int .i64 n)), (59, .v (.int .i64 i))], h) =
   some (.ret, [(2, .v (.int .i32 65533)), (3, .v (.int .i64 (i + 1 : Nat)))], h) := by
 have hd : decide ((i : Int) < n) = true := by simpa using hi
 have hw : IntKind.i64.wrap ((i : Int) + 1) = ((i + 1 : Nat) : Int) := wrap_succ (by omega)
 rcases hs with hs | ⟨c, hc, hl, hs⟩
 ·have hg : decide ((b.length : Int) ≤ (i + 1 : Nat)) = true := by simp; omega
  have hc : b[i + 1]? = none := List.getElem?_eq_none hs
  simp only [go_sem, l123x0, b123, Tryz.f123, hd, hw, hg, hc]
 ·have hg : decide ((b.length : Int) ≤ (i + 1 : Nat)) = false := by simp; omega
  by_cases h1 : c < low
  ·have hx1 : decide (c < low) = true := by simp; omega
   simp only [go_sem, l123x0, b123, Tryz.f123, hd, hc, hw, hg, hx1]
  ·have hx1 : decide (c < low) = false := by simp; omega
   have hx2 : decide (high < c) = true := by simp; omega
   simp only [go_sem, l123x0, b123, Tryz.f123, hd, hc, hw, hg, hx1, hx2]
def end123 (b : List Int) (n : Nat) (x : Int × Nat × Bool) (h : Heap) (z : Ex × St) : Prop :=
 if x.2.2 = true then ∃ low high, z = (.exit 3, [(0, .list .no (ri .u8 b)), (5, .v (.int .u8 low)), (6, .v (.int .u8 high)), (7, .v (.int .i64 n)), (8, .v (.int .i32 x.1)), (58, .v (.int .i64 n)), (59, .v (.int .i64 n)), (60, .v (.bool false))], h)
 else z = (.ret, [(2, .v (.int .i32 x.1)), (3, .v (.int .i64 x.2.1))], h)
theorem more_snd : ∀ (n : Nat) (r lo hi : Int) (k : Nat) (t : List Int), (more n r lo hi k t).2.2 = true → (more n r lo hi k t).2.1 = k + n
 | 0, _, _, _, _, _, _ => rfl
 | n + 1, r, lo, hi, k, [], h => by simp [more] at h
 | n + 1, r, lo, hi, k, c :: t, h => by
  unfold more at h ⊢
  split at h
  ·simp at h
  ·rename_i hc
   rw [if_neg hc, more_snd n _ _ _ _ _ h]
   omega
theorem loop123 {lo : Nat} {b : List Int} {h : Heap} {n : Nat} (hn : n ≤ 3) (hb : b.length ≤ 140737488355328) (hy : By b) : ∀ (m i : Nat) (r low high : Int), m = n - i → i ≤ n → 0 ≤ r → (r + 1) * 64 ^ m ≤ 64000000 →
  ∃ z, loopW (evCode ⟨Tryz.prog, E, lo, h.length, h123⟩ loopW l123x0) ([(0, .list .no (ri .u8 b)), (5, .v (.int .u8 low)), (6, .v (.int .u8 high)), (7, .v (.int .i64 n)), (8, .v (.int .i32 r)), (58, .v (.int .i64 n)), (59, .v (.int .i64 i))], h) = some z
   ∧ end123 b n (more m r low high (i + 1) (b.drop (i + 1))) h z := by
 intro m
 induction m with
 | zero =>
  intro i r low high hm hi h0 h1
  obtain rfl : i = n := by omega
  have hd : decide ((i : Int) < i) = false := by simp
  rw [loop_eq]
  simp only [go_sem, l123x0, b123, Tryz.f123, hd]
  exact ⟨_, rfl, low, high, rfl⟩
 | succ m ih =>
  intro i r low high hm hi h0 h1
  have hlt : i < n := by omega
  rw [loop_eq]
  by_cases hl : i + 1 < b.length
  ·have hc : b[i + 1]? = some b[i + 1] := List.getElem?_eq_getElem hl
   have hcy := hy b[i + 1] (List.getElem_mem hl)
   rw [List.drop_eq_getElem_cons hl]
   by_cases hx : b[i + 1] < low ∨ high < b[i + 1]
   ·rw [stop123 hlt hn hb (.inr ⟨_, hc, hl, hx⟩), loop_r]
    exact ⟨_, rfl, by simp only [more, if_pos hx]; rfl⟩
   ·rw [Int.pow_succ] at h1
    have hp : (1 : Int) ≤ 64 ^ m := Int.pow_pos (by omega)
    have hr : (r + 1) * 64 * 64 ^ m = (r + 1) * (64 ^ m * 64) := by rw [Int.mul_assoc, Int.mul_comm 64]
    have h2 : (r + 1) * 64 * 1 ≤ (r + 1) * 64 * 64 ^ m := Int.mul_le_mul_of_nonneg_left hp (by omega)
    have h3 : (r * 64 + b[i + 1] % 64 + 1) * 64 ^ m ≤ (r + 1) * 64 * 64 ^ m := Int.mul_le_mul_of_nonneg_right (by omega) (by omega)
    rw [round123 hc hlt hn hb hl hcy.1 hcy.2 h0 (by omega) (by simp; omega), loop_n]
    have := ih (i + 1) (r * 64 + b[i + 1] % 64) 128 191 (by omega) (by omega) (by omega) (by omega)
    simpa only [more, if_neg hx] using this
  ·have hs : b.length ≤ i + 1 := by omega
   rw [stop123 hlt hn hb (.inl hs), loop_r, List.drop_eq_nil_of_le hs]
   exact ⟨_, rfl, rfl⟩
end Go.Lift.R4
end

section
open Go.Proofs
namespace Go.Lift.R4
set_option linter.unusedSectionVars false
variable [MX]
open Utf
set_option maxRecDepth 20000
set_option linter.unusedSimpArgs false
set_option linter.unusedVariables false
def two (x : Int × Nat × Bool) : V := .tup [.v (.int .i32 x.1), .v (.int .i64 x.2.1)]
theorem f123a {lo : Nat} {c : Int} {t : List Int} {h : Heap} (hb : (c :: t).length ≤ 140737488355328) (hy : By (c :: t)) (hc : 194 ≤ c ∧ c ≤ 223) :
  E lo 123 [.list .no (ri .u8 (c :: t))] h = some (two (more 1 (c % 32) 128 191 1 t), h) := by
 have hcy := hy c (List.mem_cons_self ..)
 have t0 : decide (c < 128) = false := by simp; omega
 have t1 : decide (194 ≤ c) = true := by simp; omega
 have t2 : decide (c ≤ 223) = true := by simp; omega
 have t3 : decide (224 ≤ c) = false := by simp; omega
 have t4 : decide (c ≤ 239) = true := by simp; omega
 have t5 : decide (240 ≤ c) = false := by simp; omega
 have t6 : decide (c ≤ 244) = true := by simp; omega
 have q0 : (c == 224) = false := by simp; omega
 have q1 : (c == 237) = false := by simp; omega
 have q2 : (c == 240) = false := by simp; omega
 have q3 : (c == 244) = false := by simp; omega
 have hx : (c :: t)[0]? = some c := rfl
 have hm : IntKind.i32.wrap (IntKind.u8.wrap (iand .u8 c 31)) = c % 32 := by rw [a31 hcy.1 hcy.2, wrap_u8 (by omega) (by omega), wrap_i32 (by omega) (by omega)]
 obtain ⟨z, hL, hz⟩ := loop123 (lo := lo) (b := c :: t) (h := h) (n := 1) (by omega) hb hy 1 0 (c % 32) 128 191 rfl (by omega) (by omega) (by omega)
 have hn : (c :: t).drop (0 + 1) = t := rfl
 rw [hn] at hz
 have n1 : ((1 : Nat) : Int) = 1 := rfl
 have n2 : ((2 : Nat) : Int) = 2 := rfl
 have n3 : ((3 : Nat) : Int) = 3 := rfl
 simp only [l123x0, b123, Tryz.f123, loopAt, loops, bodyOf, go_sem, n1, n2, n3] at hL
 rw [e123 (by simp) (by rfl)]
 unfold end123 at hz
 split at hz
 ·rename_i hk
  obtain ⟨low, high, rfl⟩ := hz
  simp only [n1, n2, n3] at hL
  simp only [go_sem, b123, Tryz.f123, hx, t0, t1, t2, t3, t4, t5, t6, q0, q1, q2, q3, hm, hL]
  rw [two, more_snd _ _ _ _ _ _ hk]
  rfl
 ·subst hz
  simp only [go_sem, b123, Tryz.f123, hx, t0, t1, t2, t3, t4, t5, t6, q0, q1, q2, q3, hm, hL]
  rfl
theorem f123b {lo : Nat} {c : Int} {t : List Int} {h : Heap} (hb : (c :: t).length ≤ 140737488355328) (hy : By (c :: t)) (hc : c = 224) :
  E lo 123 [.list .no (ri .u8 (c :: t))] h = some (two (more 2 (c % 16) 160 191 1 t), h) := by
 have hcy := hy c (List.mem_cons_self ..)
 have t0 : decide (c < 128) = false := by simp; omega
 have t1 : decide (194 ≤ c) = true := by simp; omega
 have t2 : decide (c ≤ 223) = false := by simp; omega
 have t3 : decide (224 ≤ c) = true := by simp; omega
 have t4 : decide (c ≤ 239) = true := by simp; omega
 have t5 : decide (240 ≤ c) = false := by simp; omega
 have t6 : decide (c ≤ 244) = true := by simp; omega
 have q0 : (c == 224) = true := by simp; omega
 have q1 : (c == 237) = false := by simp; omega
 have q2 : (c == 240) = false := by simp; omega
 have q3 : (c == 244) = false := by simp; omega
 have hx : (c :: t)[0]? = some c := rfl
 have hm : IntKind.i32.wrap (IntKind.u8.wrap (iand .u8 c 15)) = c % 16 := by rw [a15 hcy.1 hcy.2, wrap_u8 (by omega) (by omega), wrap_i32 (by omega) (by omega)]
 obtain ⟨z, hL, hz⟩ := loop123 (lo := lo) (b := c :: t) (h := h) (n := 2) (by omega) hb hy 2 0 (c % 16) 160 191 rfl (by omega) (by omega) (by omega)
 have hn : (c :: t).drop (0 + 1) = t := rfl
 rw [hn] at hz
 have n1 : ((1 : Nat) : Int) = 1 := rfl
 have n2 : ((2 : Nat) : Int) = 2 := rfl
 have n3 : ((3 : Nat) : Int) = 3 := rfl
 simp only [l123x0, b123, Tryz.f123, loopAt, loops, bodyOf, go_sem, n1, n2, n3] at hL
 rw [e123 (by simp) (by rfl)]
 unfold end123 at hz
 split at hz
 ·rename_i hk
  obtain ⟨low, high, rfl⟩ := hz
  simp only [n1, n2, n3] at hL
  simp only [go_sem, b123, Tryz.f123, hx, t0, t1, t2, t3, t4, t5, t6, q0, q1, q2, q3, hm, hL]
  rw [two, more_snd _ _ _ _ _ _ hk]
  rfl
 ·subst hz
  simp only [go_sem, b123, Tryz.f123, hx, t0, t1, t2, t3, t4, t5, t6, q0, q1, q2, q3, hm, hL]
  rfl
theorem f123c {lo : Nat} {c : Int} {t : List Int} {h : Heap} (hb : (c :: t).length ≤ 140737488355328) (hy : By (c :: t)) (hc : c = 237) :
  E lo 123 [.list .no (ri .u8 (c :: t))] h = some (two (more 2 (c % 16) 128 159 1 t), h) := by
 have hcy := hy c (List.mem_cons_self ..)
 have t0 : decide (c < 128) = false := by simp; omega
 have t1 : decide (194 ≤ c) = true := by simp; omega
 have t2 : decide (c ≤ 223) = false := by simp; omega
 have t3 : decide (224 ≤ c) = true := by simp; omega
 have t4 : decide (c ≤ 239) = true := by simp; omega
 have t5 : decide (240 ≤ c) = false := by simp; omega
 have t6 : decide (c ≤ 244) = true := by simp; omega
 have q0 : (c == 224) = false := by simp; omega
 have q1 : (c == 237) = true := by simp; omega
 have q2 : (c == 240) = false := by simp; omega
 have q3 : (c == 244) = false := by simp; omega
 have hx : (c :: t)[0]? = some c := rfl
 have hm : IntKind.i32.wrap (IntKind.u8.wrap (iand .u8 c 15)) = c % 16 := by rw [a15 hcy.1 hcy.2, wrap_u8 (by omega) (by omega), wrap_i32 (by omega) (by omega)]
 obtain ⟨z, hL, hz⟩ := loop123 (lo := lo) (b := c :: t) (h := h) (n := 2) (by omega) hb hy 2 0 (c % 16) 128 159 rfl (by omega) (by omega) (by omega)
 have hn : (c :: t).drop (0 + 1) = t := rfl
 rw [hn] at hz
 have n1 : ((1 : Nat) : Int) = 1 := rfl
 have n2 : ((2 : Nat) : Int) = 2 := rfl
 have n3 : ((3 : Nat) : Int) = 3 := rfl
 simp only [l123x0, b123, Tryz.f123, loopAt, loops, bodyOf, go_sem, n1, n2, n3] at hL
 rw [e123 (by simp) (by rfl)]
 unfold end123 at hz
 split at hz
 ·rename_i hk
  obtain ⟨low, high, rfl⟩ := hz
  simp only [n1, n2, n3] at hL
  simp only [go_sem, b123, Tryz.f123, hx, t0, t1, t2, t3, t4, t5, t6, q0, q1, q2, q3, hm, hL]
  rw [two, more_snd _ _ _ _ _ _ hk]
  rfl
 ·subst hz
  simp only [go_sem, b123, Tryz.f123, hx, t0, t1, t2, t3, t4, t5, t6, q0, q1, q2, q3, hm, hL]
  rfl
theorem f123d {lo : Nat} {c : Int} {t : List Int} {h : Heap} (hb : (c :: t).length ≤ 140737488355328) (hy : By (c :: t)) (hc : 225 ≤ c ∧ c ≤ 239 ∧ c ≠ 237) :
  E lo 123 [.list .no (ri .u8 (c :: t))] h = some (two (more 2 (c % 16) 128 191 1 t), h) := by
 have hcy := hy c (List.mem_cons_self ..)
 have t0 : decide (c < 128) = false := by simp; omega
 have t1 : decide (194 ≤ c) = true := by simp; omega
 have t2 : decide (c ≤ 223) = false := by simp; omega
 have t3 : decide (224 ≤ c) = true := by simp; omega
 have t4 : decide (c ≤ 239) = true := by simp; omega
 have t5 : decide (240 ≤ c) = false := by simp; omega
 have t6 : decide (c ≤ 244) = true := by simp; omega
 have q0 : (c == 224) = false := by simp; omega
 have q1 : (c == 237) = false := by simp; omega
 have q2 : (c == 240) = false := by simp; omega
 have q3 : (c == 244) = false := by simp; omega
 have hx : (c :: t)[0]? = some c := rfl
 have hm : IntKind.i32.wrap (IntKind.u8.wrap (iand .u8 c 15)) = c % 16 := by rw [a15 hcy.1 hcy.2, wrap_u8 (by omega) (by omega), wrap_i32 (by omega) (by omega)]
 obtain ⟨z, hL, hz⟩ := loop123 (lo := lo) (b := c :: t) (h := h) (n := 2) (by omega) hb hy 2 0 (c % 16) 128 191 rfl (by omega) (by omega) (by omega)
 have hn : (c :: t).drop (0 + 1) = t := rfl
 rw [hn] at hz
 have n1 : ((1 : Nat) : Int) = 1 := rfl
 have n2 : ((2 : Nat) : Int) = 2 := rfl
 have n3 : ((3 : Nat) : Int) = 3 := rfl
 simp only [l123x0, b123, Tryz.f123, loopAt, loops, bodyOf, go_sem, n1, n2, n3] at hL
 rw [e123 (by simp) (by rfl)]
 unfold end123 at hz
 split at hz
 ·rename_i hk
  obtain ⟨low, high, rfl⟩ := hz
  simp only [n1, n2, n3] at hL
  simp only [go_sem, b123, Tryz.f123, hx, t0, t1, t2, t3, t4, t5, t6, q0, q1, q2, q3, hm, hL]
  rw [two, more_snd _ _ _ _ _ _ hk]
  rfl
 ·subst hz
  simp only [go_sem, b123, Tryz.f123, hx, t0, t1, t2, t3, t4, t5, t6, q0, q1, q2, q3, hm, hL]
  rfl
theorem f123e {lo : Nat} {c : Int} {t : List Int} {h : Heap} (hb : (c :: t).length ≤ 140737488355328) (hy : By (c :: t)) (hc : c = 240) :
  E lo 123 [.list .no (ri .u8 (c :: t))] h = some (two (more 3 (c % 8) 144 191 1 t), h) := by
 have hcy := hy c (List.mem_cons_self ..)
 have t0 : decide (c < 128) = false := by simp; omega
 have t1 : decide (194 ≤ c) = true := by simp; omega
 have t2 : decide (c ≤ 223) = false := by simp; omega
 have t3 : decide (224 ≤ c) = true := by simp; omega
 have t4 : decide (c ≤ 239) = false := by simp; omega
 have t5 : decide (240 ≤ c) = true := by simp; omega
 have t6 : decide (c ≤ 244) = true := by simp; omega
 have q0 : (c == 224) = false := by simp; omega
 have q1 : (c == 237) = false := by simp; omega
 have q2 : (c == 240) = true := by simp; omega
 have q3 : (c == 244) = false := by simp; omega
 have hx : (c :: t)[0]? = some c := rfl
 have hm : IntKind.i32.wrap (IntKind.u8.wrap (iand .u8 c 7)) = c % 8 := by rw [a7 hcy.1 hcy.2, wrap_u8 (by omega) (by omega), wrap_i32 (by omega) (by omega)]
 obtain ⟨z, hL, hz⟩ := loop123 (lo := lo) (b := c :: t) (h := h) (n := 3) (by omega) hb hy 3 0 (c % 8) 144 191 rfl (by omega) (by omega) (by omega)
 have hn : (c :: t).drop (0 + 1) = t := rfl
 rw [hn] at hz
 have n1 : ((1 : Nat) : Int) = 1 := rfl
 have n2 : ((2 : Nat) : Int) = 2 := rfl
 have n3 : ((3 : Nat) : Int) = 3 := rfl
 simp only [l123x0, b123, Tryz.f123, loopAt, loops, bodyOf, go_sem, n1, n2, n3] at hL
 rw [e123 (by simp) (by rfl)]
 unfold end123 at hz
 split at hz
 ·rename_i hk
  obtain ⟨low, high, rfl⟩ := hz
  simp only [n1, n2, n3] at hL
  simp only [go_sem, b123, Tryz.f123, hx, t0, t1, t2, t3, t4, t5, t6, q0, q1, q2, q3, hm, hL]
  rw [two, more_snd _ _ _ _ _ _ hk]
  rfl
 ·subst hz
  simp only [go_sem, b123, Tryz.f123, hx, t0, t1, t2, t3, t4, t5, t6, q0, q1, q2, q3, hm, hL]
  rfl
theorem f123f {lo : Nat} {c : Int} {t : List Int} {h : Heap} (hb : (c :: t).length ≤ 140737488355328) (hy : By (c :: t)) (hc : 241 ≤ c ∧ c ≤ 243) :
  E lo 123 [.list .no (ri .u8 (c :: t))] h = some (two (more 3 (c % 8) 128 191 1 t), h) := by
 have hcy := hy c (List.mem_cons_self ..)
 have t0 : decide (c < 128) = false := by simp; omega
 have t1 : decide (194 ≤ c) = true := by simp; omega
 have t2 : decide (c ≤ 223) = false := by simp; omega
 have t3 : decide (224 ≤ c) = true := by simp; omega
 have t4 : decide (c ≤ 239) = false := by simp; omega
 have t5 : decide (240 ≤ c) = true := by simp; omega
 have t6 : decide (c ≤ 244) = true := by simp; omega
 have q0 : (c == 224) = false := by simp; omega
 have q1 : (c == 237) = false := by simp; omega
 have q2 : (c == 240) = false := by simp; omega
 have q3 : (c == 244) = false := by simp; omega
 have hx : (c :: t)[0]? = some c := rfl
 have hm : IntKind.i32.wrap (IntKind.u8.wrap (iand .u8 c 7)) = c % 8 := by rw [a7 hcy.1 hcy.2, wrap_u8 (by omega) (by omega), wrap_i32 (by omega) (by omega)]
 obtain ⟨z, hL, hz⟩ := loop123 (lo := lo) (b := c :: t) (h := h) (n := 3) (by omega) hb hy 3 0 (c % 8) 128 191 rfl (by omega) (by omega) (by omega)
 have hn : (c :: t).drop (0 + 1) = t := rfl
 rw [hn] at hz
 have n1 : ((1 : Nat) : Int) = 1 := rfl
 have n2 : ((2 : Nat) : Int) = 2 := rfl
 have n3 : ((3 : Nat) : Int) = 3 := rfl
 simp only [l123x0, b123, Tryz.f123, loopAt, loops, bodyOf, go_sem, n1, n2, n3] at hL
 rw [e123 (by simp) (by rfl)]
 unfold end123 at hz
 split at hz
 ·rename_i hk
  obtain ⟨low, high, rfl⟩ := hz
  simp only [n1, n2, n3] at hL
  simp only [go_sem, b123, Tryz.f123, hx, t0, t1, t2, t3, t4, t5, t6, q0, q1, q2, q3, hm, hL]
  rw [two, more_snd _ _ _ _ _ _ hk]
  rfl
 ·subst hz
  simp only [go_sem, b123, Tryz.f123, hx, t0, t1, t2, t3, t4, t5, t6, q0, q1, q2, q3, hm, hL]
  rfl
theorem f123g {lo : Nat} {c : Int} {t : List Int} {h : Heap} (hb : (c :: t).length ≤ 140737488355328) (hy : By (c :: t)) (hc : c = 244) :
  E lo 123 [.list .no (ri .u8 (c :: t))] h = some (two (more 3 (c % 8) 128 143 1 t), h) := by
 have hcy := hy c (List.mem_cons_self ..)
 have t0 : decide (c < 128) = false := by simp; omega
 have t1 : decide (194 ≤ c) = true := by simp; omega
 have t2 : decide (c ≤ 223) = false := by simp; omega
 have t3 : decide (224 ≤ c) = true := by simp; omega
 have t4 : decide (c ≤ 239) = false := by simp; omega
 have t5 : decide (240 ≤ c) = true := by simp; omega
 have t6 : decide (c ≤ 244) = true := by simp; omega
 have q0 : (c == 224) = false := by simp; omega
 have q1 : (c == 237) = false := by simp; omega
 have q2 : (c == 240) = false := by simp; omega
 have q3 : (c == 244) = true := by simp; omega
 have hx : (c :: t)[0]? = some c := rfl
 have hm : IntKind.i32.wrap (IntKind.u8.wrap (iand .u8 c 7)) = c % 8 := by rw [a7 hcy.1 hcy.2, wrap_u8 (by omega) (by omega), wrap_i32 (by omega) (by omega)]
 obtain ⟨z, hL, hz⟩ := loop123 (lo := lo) (b := c :: t) (h := h) (n := 3) (by omega) hb hy 3 0 (c % 8) 128 143 rfl (by omega) (by omega) (by omega)
 have hn : (c :: t).drop (0 + 1) = t := rfl
 rw [hn] at hz
 have n1 : ((1 : Nat) : Int) = 1 := rfl
 have n2 : ((2 : Nat) : Int) = 2 := rfl
 have n3 : ((3 : Nat) : Int) = 3 := rfl
 simp only [l123x0, b123, Tryz.f123, loopAt, loops, bodyOf, go_sem, n1, n2, n3] at hL
 rw [e123 (by simp) (by rfl)]
 unfold end123 at hz
 split at hz
 ·rename_i hk
  obtain ⟨low, high, rfl⟩ := hz
  simp only [n1, n2, n3] at hL
  simp only [go_sem, b123, Tryz.f123, hx, t0, t1, t2, t3, t4, t5, t6, q0, q1, q2, q3, hm, hL]
  rw [two, more_snd _ _ _ _ _ _ hk]
  rfl
 ·subst hz
  simp only [go_sem, b123, Tryz.f123, hx, t0, t1, t2, t3, t4, t5, t6, q0, q1, q2, q3, hm, hL]
  rfl
end Go.Lift.R4
end

section
open Go.Proofs
namespace Go.Lift.R4
set_option linter.unusedSectionVars false
variable [MX]
open Utf
set_option maxRecDepth 20000
set_option linter.unusedSimpArgs false
set_option linter.unusedVariables false
theorem f123 {lo : Nat} {c : Int} {t : List Int} {h : Heap} (hb : (c :: t).length ≤ 140737488355328) (hy : By (c :: t)) :
  E lo 123 [.list .no (ri .u8 (c :: t))] h = some (two (one (c :: t)), h) := by
 have hcy := hy c (List.mem_cons_self ..)
 have hx : (c :: t)[0]? = some c := rfl
 simp only [one]
 by_cases h0 : c < 128
 ·rw [if_pos h0]
  have t0 : decide (c < 128) = true := by simp; omega
  have hm : IntKind.i32.wrap c = c := wrap_i32 (by omega) (by omega)
  rw [e123 (by simp) (by rfl)]
  simp only [go_sem, b123, Tryz.f123, hx, t0, hm]
  rfl
 ·rw [if_neg h0]
  by_cases ha : 194 ≤ c ∧ c ≤ 223
  ·have e : nd c = (1, 128, 191) := by unfold nd; rw [if_pos ha]
   rw [f123a hb hy ha, e]
   rfl
  by_cases hb1 : c = 224
  ·have e : nd c = (2, 160, 191) := by unfold nd; rw [if_neg ha, if_pos hb1]
   rw [f123b hb hy hb1, e]
   rfl
  by_cases hc1 : c = 237
  ·have e : nd c = (2, 128, 159) := by unfold nd; rw [if_neg ha, if_neg hb1, if_pos hc1]
   rw [f123c hb hy hc1, e]
   rfl
  by_cases hd1 : 225 ≤ c ∧ c ≤ 239
  ·have e : nd c = (2, 128, 191) := by unfold nd; rw [if_neg ha, if_neg hb1, if_neg hc1, if_pos hd1]
   rw [f123d hb hy ⟨hd1.1, hd1.2, hc1⟩, e]
   rfl
  by_cases he1 : c = 240
  ·have e : nd c = (3, 144, 191) := by unfold nd; rw [if_neg ha, if_neg hb1, if_neg hc1, if_neg hd1, if_pos he1]
   rw [f123e hb hy he1, e]
   rfl
  by_cases hf1 : 241 ≤ c ∧ c ≤ 243
  ·have e : nd c = (3, 128, 191) := by unfold nd; rw [if_neg ha, if_neg hb1, if_neg hc1, if_neg hd1, if_neg he1, if_pos hf1]
   rw [f123f hb hy hf1, e]
   rfl
  by_cases hg1 : c = 244
  ·have e : nd c = (3, 128, 143) := by unfold nd; rw [if_neg ha, if_neg hb1, if_neg hc1, if_neg hd1, if_neg he1, if_neg hf1, if_pos hg1]
   rw [f123g hb hy hg1, e]
   rfl
  have e : nd c = (0, 0, 0) := by unfold nd; rw [if_neg ha, if_neg hb1, if_neg hc1, if_neg hd1, if_neg he1, if_neg hf1, if_neg hg1]
  rw [e, if_pos rfl]
  have t0 : decide (c < 128) = false := by simp; omega
  have t1 : (decide (194 ≤ c) && decide (c ≤ 223)) = false := by simp; omega
  have t2 : (decide (224 ≤ c) && decide (c ≤ 239)) = false := by simp; omega
  have t3 : (decide (240 ≤ c) && decide (c ≤ 244)) = false := by simp; omega
  rw [e123 (by simp) (by rfl)]
  simp only [go_sem, b123, Tryz.f123, hx, t0, t1, t2, t3]
  rfl
end Go.Lift.R4
end

section
open Go.Proofs
namespace Go.Lift.R4
set_option linter.unusedSectionVars false
variable [MX]
open Utf
set_option maxRecDepth 20000
set_option linter.unusedSimpArgs false
set_option linter.unusedVariables false
theorem f123n {lo : Nat} {b : List Int} {h : Heap} (hn : b ≠ []) (hb : b.length ≤ 140737488355328) (hy : By b) : E lo 123 [.list .no (ri .u8 b)] h = some (two (one b), h) := by
 cases b with
 | nil => exact absurd rfl hn
 | cons c t => exact f123 hb hy
end Go.Lift.R4
end

section
open Go.Proofs
namespace Go.Lift.R4
set_option linter.unusedSectionVars false
variable [MX]
open Utf
set_option maxRecDepth 20000
set_option linter.unusedSimpArgs false
set_option linter.unusedVariables false
theorem round109 {lo : Nat} {b : List Int} {h : Heap} (hn : b ≠ []) (hb : b.length ≤ 140737488355328) (hy : By b) :
  evCode ⟨Tryz.prog, E, lo, h.length, h109⟩ loopW l109x0 ([(0, .list .no (ri .u8 b))], h) =
   if bad b = true then some (.ret, [(2, .v (.bool false))], h) else some (.normal, [(0, .list .no (ri .u8 (b.drop (one b).2.1)))], h) := by
 have hl : 0 < b.length := List.length_pos_iff.mpr hn
 have hd : decide ((0 : Int) < b.length) = true := by simpa using hl
 have hk := (one_b hn).2.2
 have hs : 0 ≤ ((one b).2.1 : Int) := by omega
 have fin : ∀ {v : Bool}, (bad b = v) → (v = (bad b)) := fun h => h.symm
 cases h1 : (one b).1 == 65533 with
 | false =>
  have hv : bad b = false := by simp [bad, h1]
  simp only [go_sem, l109x0, b109, Tryz.f109, hd, f123n hn hb hy, two, hs, hk, Nat.le_refl, ri_drop, ri_take, Int.toNat_natCast, and_self, h1, hv, Bool.false_eq_true]
 | true =>
  by_cases h3 : (one b).2.1 < 3
  ·have hv : bad b = true := by simp [bad, h1, h3]
   have h4 : decide (((one b).2.1 : Int) < 3) = true := by simp; omega
   simp only [go_sem, l109x0, b109, Tryz.f109, hd, f123n hn hb hy, two, hs, hk, Nat.le_refl, ri_drop, ri_take, Int.toNat_natCast, and_self, h1, hv, h4]
  ·have h4 : decide (((one b).2.1 : Int) < 3) = false := by simp; omega
   obtain ⟨a1, a2, a3, t, he⟩ : ∃ a1 a2 a3 t, b = a1 :: a2 :: a3 :: t := by
    match b, hk with
    | [], hk => simp at hk; omega
    | [_], hk => simp at hk; omega
    | [_, _], hk => simp at hk; omega
    | a1 :: a2 :: a3 :: t, _ => exact ⟨_, _, _, _, rfl⟩
   have x1 : b[0]? = some a1 := by rw [he]; rfl
   have x2 : b[1]? = some a2 := by rw [he]; rfl
   have x3 : b[2]? = some a3 := by rw [he]; rfl
   have hv : bad b = (a1 != 239 || (a2 != 191 || a3 != 189)) := by
    have ht : isRep b = (a1 == 239 && (a2 == 191 && a3 == 189)) := by rw [he]; simp [isRep]
    simp only [bad, h1, h3, ht, decide_false, Bool.true_and, Bool.false_or, bne, Bool.not_and]
   clear he
   rw [hv]
   cases g1 : a1 != 239 with
   | true => simp only [go_sem, l109x0, b109, Tryz.f109, hd, f123n hn hb hy, two, hs, hk, Nat.le_refl, ri_drop, ri_take, Int.toNat_natCast, and_self, h1, h4, x1, x2, x3, g1]
   | false =>
    cases g2 : a2 != 191 with
    | true => simp only [go_sem, l109x0, b109, Tryz.f109, hd, f123n hn hb hy, two, hs, hk, Nat.le_refl, ri_drop, ri_take, Int.toNat_natCast, and_self, h1, h4, x1, x2, x3, g1, g2]
    | false =>
     cases g3 : a3 != 189 with
     | true => simp only [go_sem, l109x0, b109, Tryz.f109, hd, f123n hn hb hy, two, hs, hk, Nat.le_refl, ri_drop, ri_take, Int.toNat_natCast, and_self, h1, h4, x1, x2, x3, g1, g2, g3]
     | false => simp only [go_sem, l109x0, b109, Tryz.f109, hd, f123n hn hb hy, two, hs, hk, Nat.le_refl, ri_drop, ri_take, Int.toNat_natCast, and_self, h1, h4, x1, x2, x3, g1, g2, g3, Bool.false_eq_true]
theorem loop109 {lo : Nat} {h : Heap} : ∀ (n : Nat) (b : List Int), b.length ≤ n → b.length ≤ 140737488355328 → By b →
  loopW (evCode ⟨Tryz.prog, E, lo, h.length, h109⟩ loopW l109x0) ([(0, .list .no (ri .u8 b))], h) =
   if whole b = true then some (.exit 0, [(0, .list .no []), (7, .v (.bool false))], h) else some (.ret, [(2, .v (.bool false))], h) := by
 have stop : loopW (evCode ⟨Tryz.prog, E, lo, h.length, h109⟩ loopW l109x0) ([(0, .list .no (ri .u8 []))], h) =
   if whole [] = true then some (.exit 0, [(0, .list .no []), (7, .v (.bool false))], h) else some (.ret, [(2, .v (.bool false))], h) := by
  rw [loop_eq]
  simp only [go_sem, l109x0, b109, Tryz.f109, whole_nil, ri_nil, List.length_nil]
  all_goals rfl
 intro n
 induction n with
 | zero =>
  intro b h1 h2 hy
  obtain rfl : b = [] := List.eq_nil_of_length_eq_zero (by omega)
  exact stop
 | succ n ih =>
  intro b h1 h2 hy
  by_cases hn : b = []
  ·subst hn; exact stop
  ·have hk := one_b hn
   have hlen : (b.drop (one b).2.1).length = b.length - (one b).2.1 := List.length_drop
   rw [loop_eq, round109 hn h2 hy, bad_eq hy hn, whole_b hn]
   cases hx : (one b).2.2 with
   | true => rw [if_neg (by simp), loop_n, ih _ (by omega) (by omega) (hy.drop _), Bool.true_and]
   | false => rw [if_pos (by simp), loop_r]; rfl
theorem f109 {lo : Nat} {b : List Int} {h : Heap} (hb : b.length ≤ 140737488355328) (hy : By b) : E lo 109 [.list .no (ri .u8 b)] h = some (.v (.bool (whole b)), h) := by
 rw [e109 (by simp) (by rfl)]
 have hL := loop109 (lo := lo) (h := h) b.length b (Nat.le_refl _) hb hy
 simp only [l109x0, b109, Tryz.f109, loopAt, loops, bodyOf, go_sem, ri_nil, List.drop_zero] at hL
 cases hx : whole b with
 | true =>
  rw [if_pos hx] at hL
  simp only [go_sem, b109, Tryz.f109, hL]
 | false =>
  rw [if_neg (by simp [hx])] at hL
  simp only [go_sem, b109, Tryz.f109, hL]
end Go.Lift.R4
end
