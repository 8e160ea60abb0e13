/- rat.Plain, to its end. -/
import Derived.Test.YtehffjejplpaeaaGreatDoorGKa
import Derived.Test.YtehffjejplpaeaaGreatDoorGK7Basea
import Derived.Test.YtehffjejplpaeaaGreatDoorGKb
set_option linter.unusedVariables false
set_option linter.unusedSimpArgs false
set_option linter.unusedSectionVars false
section
open Go.Proofs
namespace Go.Lift.P7
variable [MX]
open Utf Tok Spell
set_option maxRecDepth 20000
set_option maxHeartbeats 4000000
section
variable {lo : Nat} {h : Heap}
theorem bs_45 : (⟨#[45]⟩ : ByteArray) = bs [45] := rfl
theorem bs_46 : (⟨#[46]⟩ : ByteArray) = bs [46] := rfl
theorem bs_48 : (⟨#[48]⟩ : ByteArray) = bs [48] := rfl
def wide (m : Int) (p : Nat) : List Int := List.replicate (p + 1 - (dgt m).length) 48 ++ dgt m
theorem wide_len {m : Int} {p : Nat} : p + 1 ≤ (wide m p).length ∧ (wide m p).length ≤ (dgt m).length + p + 1 := by
 unfold wide
 simp
 omega
theorem p36b (hlo : lo ≤ h.length) {n d m a1 a2 : Int} {w : Bool} {p : Nat} {q : Heap} (h0 : 0 ≤ m) (h1 : m ≤ 9223372036854775808) (hp : p ≤ 1000) :
  evL (X55 lo h.length) loopW (pc b55 9 3) (O36 w h.length p m a1 a2 2 ++ [(67, .v (.bool false))], h ++ .cells [.v (.int .i64 n), .v (.int .i64 d)] :: q) =
   if 18 < (core (dgt m)).length then some (.ret, [(4, .v (.string ⟨#[]⟩)), (5, .v (.int .i64 1))], h ++ .cells [.v (.int .i64 n), .v (.int .i64 d)] :: q)
   else some (.normal, [(1, .v (.bool w)), (2, .ptr h.length 0), (9, .v (.int .i64 p)), (13, .v (.string (bs (dgt m)))), (86, .v (.bool false))], h ++ .cells [.v (.int .i64 n), .v (.int .i64 d)] :: q) := by
 have k1 := fun (lo : Nat) (h : Heap) (hlo : lo ≤ h.length) => f83 (lo := lo) (h := h) hlo h0 (n := m) (by omega)
 have k1 := k1 lo (h ++ .cells [.v (.int .i64 n), .v (.int .i64 d)] :: q) (by simp; omega)
 obtain ⟨l1, l2⟩ := dgt_len 19 m h0 (by
                     have : (10 : Int) ^ (19 + 1) = 100000000000000000000 := by decide
                     omega)
 have k2 := fun lo h => f84 (lo := lo) (h := h) (dgt_by m) (by omega)
 have sz := bs_size (core (dgt m))
 by_cases hc : 18 < (core (dgt m)).length
 ·have q1 : decide (18 < (((core (dgt m)).length : Nat) : Int)) = true := by simp; omega
  rw [if_pos hc]
  simp only [go_sem, b55, Tryz.f55, k1, k2, sz, q1, hlo, O36]
  all_goals rfl
 ·have q1 : decide (18 < (((core (dgt m)).length : Nat) : Int)) = false := by simp; omega
  rw [if_neg hc]
  simp only [go_sem, b55, Tryz.f55, k1, k2, sz, q1, hlo, O36]
  all_goals rfl
theorem p36c {n d m : Int} {w : Bool} {p : Nat} {q : Heap} (h0 : 0 ≤ m) (h1 : m ≤ 9223372036854775808) (hp : p ≤ 1000) :
  evL (X55 lo h.length) loopW (pc b55 12 2) ([(1, .v (.bool w)), (2, .ptr h.length 0), (9, .v (.int .i64 p)), (13, .v (.string (bs (dgt m)))), (86, .v (.bool false))], h ++ .cells [.v (.int .i64 n), .v (.int .i64 d)] :: q) =
   some (.normal, [(1, .v (.bool w)), (2, .ptr h.length 0), (9, .v (.int .i64 p)), (13, .v (.string (bs (wide m p)))), (90, .v (.bool (decide ((dgt m).length ≤ p))))], h ++ .cells [.v (.int .i64 n), .v (.int .i64 d)] :: q) := by
 obtain ⟨l1, l2⟩ := dgt_len 19 m h0 (by
                     have : (10 : Int) ^ (19 + 1) = 100000000000000000000 := by decide
                     omega)
 have sz := bs_size (dgt m)
 unfold wide
 by_cases hc : (dgt m).length ≤ p
 ·have q1 : decide (((dgt m).length : Int) ≤ (p : Int)) = true := by simp; omega
  have q2 : decide ((dgt m).length ≤ p) = true := by simp [hc]
  have w1 : IntKind.i64.wrap ((p : Int) + 1) = (p : Int) + 1 := wrap_i64 (by omega) (by omega)
  have w2 : IntKind.i64.wrap ((p : Int) + 1 - ((dgt m).length : Int)) = (p : Int) + 1 - ((dgt m).length : Int) := wrap_i64 (by omega) (by omega)
  have k1 := fun lo h => f80 (lo := lo) (h := h) (c := 48) (n := (p : Int) + 1 - ((dgt m).length : Int)) (by omega) (by omega)
  have e : ((p : Int) + 1 - ((dgt m).length : Int)).toNat = p + 1 - (dgt m).length := by omega
  have e2 : ((UInt8.toNat 48 : Nat) : Int) = 48 := rfl
  rw [e, e2] at k1
  have z1 : (bs (List.replicate (p + 1 - (dgt m).length) 48)).size + (dgt m).length ≤ 9223372036854775807 := by rw [bs_size, List.length_replicate]; omega
  rw [q2]
  simp only [go_sem, b55, Tryz.f55, sz, q1, w1, w2, k1, bs_app, z1]
  all_goals rfl
 ·have q1 : decide (((dgt m).length : Int) ≤ (p : Int)) = false := by simp; omega
  have q2 : decide ((dgt m).length ≤ p) = false := by simp [hc]
  have e : p + 1 - (dgt m).length = 0 := by omega
  rw [q2, e]
  simp only [go_sem, b55, Tryz.f55, sz, q1]
  all_goals rfl
def point (T : List Int) (p : Nat) (w : Bool) : List Int := if w = true then T else T.take (T.length - p) ++ 46 :: (T.drop (T.length - p) ++ if p = 0 then [48] else [])
theorem p36d {T : List Int} {n d : Int} {w b : Bool} {p : Nat} {q : Heap} (hp : p + 1 ≤ T.length) (hl : T.length ≤ 1000000) :
  ∃ e1 e2 : Env, (e1 = [] ∨ ∃ v, e1 = [(9, v)]) ∧ (e2 = [] ∨ (∃ v, e2 = [(100, v)]) ∨ ∃ v, e2 = [(114, v)]) ∧
  evL (X55 lo h.length) loopW (pc b55 14 2) ([(1, .v (.bool w)), (2, .ptr h.length 0), (9, .v (.int .i64 p)), (13, .v (.string (bs T))), (90, .v (.bool b))], h ++ .cells [.v (.int .i64 n), .v (.int .i64 d)] :: q) =
   some (.normal, (2, .ptr h.length 0) :: (e1 ++ (13, .v (.string (bs (point T p w)))) :: e2), h ++ .cells [.v (.int .i64 n), .v (.int .i64 d)] :: q) := by
 unfold point
 cases w with
 | true =>
  refine ⟨[(9, .v (.int .i64 p))], [(100, .v (.bool false))], .inr ⟨_, rfl⟩, .inr (.inl ⟨_, rfl⟩), ?_⟩
  simp only [go_sem, b55, Tryz.f55]
  all_goals rfl
 | false =>
  have sz := bs_size T
  have w1 : IntKind.i64.wrap ((T.length : Int) - (p : Int)) = ((T.length - p : Nat) : Int) := by rw [wrap_i64 (by omega) (by omega)]; omega
  have b1 : T.length - p ≤ T.length := by omega
  have e1 : (T.take T.length).drop (T.length - p) = T.drop (T.length - p) := by rw [List.take_length]
  have e0 : (T.take (T.length - p)).drop 0 = T.take (T.length - p) := rfl
  have zz : ∀ a b : List Int, a.length + b.length ≤ 2000000000 → (bs a).size + (bs b).size ≤ 9223372036854775807 := fun a b h => by rw [bs_size, bs_size]; omega
  have z1 := zz (T.take (T.length - p)) [46] (by simp; omega)
  have z2 := zz (T.take (T.length - p) ++ [46]) (T.drop (T.length - p)) (by simp; omega)
  have z3 := zz (T.take (T.length - p) ++ [46] ++ T.drop (T.length - p)) [48] (by simp; omega)
  rw [List.append_assoc, List.singleton_append] at z3
  have z0 : 0 ≤ T.length - p := Nat.zero_le _
  by_cases hp0 : p = 0
  ·have q0 : ((p : Int) == 0) = true := by simp [hp0]
   have q2 : (p == 0) = true := by simp [hp0]
   rw [if_pos hp0]
   refine ⟨[(9, .undef)], [(100, .undef)], .inr ⟨_, rfl⟩, .inr (.inl ⟨_, rfl⟩), ?_⟩
   simp only [go_sem, b55, Tryz.f55, sz, w1, b1, bs_ext, e0, e1, bs_46, bs_48, bs_app, q0, z0, z1, z2, z3, Nat.le_refl, List.append_assoc]
   all_goals rfl
  ·have q0 : ((p : Int) == 0) = false := by simp; omega
   have q2 : (p == 0) = false := by simp [hp0]
   rw [if_neg hp0]
   refine ⟨[], [(114, .v (.bool false))], .inl rfl, .inr (.inr ⟨_, rfl⟩), ?_⟩
   simp only [go_sem, b55, Tryz.f55, sz, w1, b1, bs_ext, e0, e1, bs_46, bs_48, bs_app, q0, z0, z1, z2, z3, Nat.le_refl, List.append_assoc]
   all_goals rfl
theorem p36e {T : List Int} {n d : Int} {q : Heap} {e1 e2 : Env} (hl : T.length ≤ 2000000) (he : e1 = [] ∨ ∃ v, e1 = [(9, v)]) (ht : e2 = [] ∨ (∃ v, e2 = [(100, v)]) ∨ ∃ v, e2 = [(114, v)]) :
  evL (X55 lo h.length) loopW (pc b55 16 4) ((2, .ptr h.length 0) :: (e1 ++ (13, .v (.string (bs T))) :: e2), h ++ .cells [.v (.int .i64 n), .v (.int .i64 d)] :: q) =
   some (.ret, [(4, .v (.string (bs ((if n < 0 then [45] else []) ++ T)))), (5, .v (.int .i64 0))], h ++ .cells [.v (.int .i64 n), .v (.int .i64 d)] :: q) := by
 have z1 : (bs [45]).size + (bs T).size ≤ 9223372036854775807 := by rw [bs_size, bs_size]; simp; omega
 by_cases hn : n < 0
 ·have q1 : decide (n < 0) = true := by simp [hn]
  rw [if_pos hn]
  rcases he with rfl | ⟨v, rfl⟩ <;> rcases ht with rfl | ⟨v2, rfl⟩ | ⟨v2, rfl⟩ <;>
  simp only [go_sem, b55, Tryz.f55, q1, bs_45, bs_app, z1] <;> rfl
 ·have q1 : decide (n < 0) = false := by simp; omega
  rw [if_neg hn]
  rcases he with rfl | ⟨v, rfl⟩ <;> rcases ht with rfl | ⟨v2, rfl⟩ | ⟨v2, rfl⟩ <;>
  simp only [go_sem, b55, Tryz.f55, q1, List.nil_append] <;> rfl
theorem fin36 {x : List Int} {e : Int} {c : Ob} {q : Heap} : fin Tryz.prog [.tmp 4, .tmp 5] h.length (some (.ret, [(4, .v (.string (bs x))), (5, .v (.int .i64 e))], h ++ c :: q)) = some (.tup [.v (.string (bs x)), .v (.int .i64 e)], h) := by
 simp only [go_sem]
 all_goals rfl
def plainV (x : Option (List Int)) : V := match x with
 | some t => .tup [.v (.string (bs t)), .v (.int .i64 0)]
 | none => .tup [.v (.string (bs [])), .v (.int .i64 1)]
theorem prog_one {n m : Int} {p : Nat} (h : progN n 1 = some (m, p)) : p = 0 := by
 have hc : Go.Lib.ctz 64 1 = 0 := by decide
 unfold progN at h
 have e1 : (1 : Int).toNat = 1 := rfl
 have e2 : (1 : Int) / 2 ^ 0 = 1 := rfl
 have e3 : fv 64 1 = (0, 1) := rfl
 simp only [e1, hc, e2, e3] at h
 simp [upM] at h
 omega
end
end Go.Lift.P7
end

section
open Go.Proofs
namespace Go.Lift.P7
variable [MX]
open Utf Tok Spell
set_option maxRecDepth 20000
set_option maxHeartbeats 4000000
section
variable {lo : Nat} {h : Heap}
theorem numText_eq {b w : Bool} {m : Int} {p : Nat} (hw : w = true → p = 0) :
  numText b w m p = if 18 < (core (dgt m)).length then none else some ((if b = true then [45] else []) ++ point (wide m p) p w) := by
 unfold numText point wide
 split
 ·rfl
 ·cases w with
  | true =>
   obtain rfl := hw rfl
   simp
   rw [List.take_of_length_le (by simp)]
  | false => simp
theorem may_pos {n d : Int} (hm : mayR n d = true) (hd : d ≠ 0) : 1 ≤ d := by
 unfold mayR sureR at hm
 simp only [Bool.or_eq_true, Bool.and_eq_true, beq_iff_eq, decide_eq_true_eq] at hm
 rcases hm with ⟨_, h⟩ | ⟨⟨h, _⟩, _⟩
 ·exact absurd h hd
 ·exact h
theorem progN_le {n d m : Int} {p : Nat} (h0 : 0 ≤ n) (h1 : n ≤ 9223372036854775808) (hd0 : 1 ≤ d) (hd1 : d ≤ 9223372036854775807) (h : progN n d = some (m, p)) : 0 ≤ m ∧ m ≤ 9223372036854775808 ∧ p ≤ 64 := by
 unfold progN at h
 simp only at h
 split at h
 ·have hA : Go.Lib.ctz 64 d.toNat ≤ 64 := by
   have hlow := Go.Lib.ctzFrom_spec 64 d.toNat (by omega) (by omega)
   have hctz : Go.Lib.ctz 64 d.toNat = Go.Lib.ctzFrom 64 d.toNat := by unfold Go.Lib.ctz; rw [if_neg (by omega)]
   rw [← hctz] at hlow
   obtain ⟨_, _, h⟩ := hlow
   omega
  have hB := fv_le 64 (d / 2 ^ Go.Lib.ctz 64 d.toNat)
  generalize Go.Lib.ctz 64 d.toNat = A at *
  generalize (fv 64 (d / 2 ^ A)).1 = B at *
  generalize hM : max A B = M at *
  cases hu : upM 2 (M - A) n with
  | none => rw [hu] at h; cases h
  | some r =>
   rw [hu, Option.bind_some] at h
   obtain ⟨r0, r1⟩ := upM_le (x := 2) (by omega) (by omega) _ _ _ h0 h1 hu
   cases hv : upM 5 (M - B) r with
   | none => rw [hv] at h; cases h
   | some s =>
    rw [hv] at h
    simp only [Option.map_some, Option.some.injEq, Prod.mk.injEq] at h
    obtain ⟨s0, s1⟩ := upM_le (x := 5) (by omega) (by omega) _ _ _ r0 r1 hv
    omega
 ·cases h
theorem f55 (hlo : lo ≤ h.length) {n d : Int} {w : Bool} (h0 : -9223372036854775808 ≤ n) (h1 : n ≤ 9223372036854775807) (h2 : -9223372036854775808 ≤ d) (h3 : d ≤ 9223372036854775807) :
  E lo 55 [.agg [.v (.int .i64 n), .v (.int .i64 d)], .v (.bool w)] h = some (plainV (plainT n d w), h) := by
 have k1 := fun lo h hlo => f79 (lo := lo) (h := h) h0 h1 h3 hlo
 have k1 := k1 lo (h ++ [.cells [.v (.int .i64 n), .v (.int .i64 d)]]) (by simp; omega)
 rw [e55 (by simp) (by rfl)]
 cases hm : mayR n d with
 | false =>
  have e : plainT n d w = none := by unfold plainT; rw [hm]; rfl
  rw [hm] at k1
  rw [e]
  simp only [go_sem, b55, Tryz.f55, k1, hlo, plainV]
  all_goals rfl
 | true =>
  cases hw : (w && decide (1 < d)) with
  | true =>
   have e : plainT n d w = none := by unfold plainT; rw [hm, hw]; rfl
   rw [hm] at k1
   rw [Bool.and_eq_true] at hw
   obtain ⟨rfl, q⟩ := hw
   rw [e]
   simp only [go_sem, b55, Tryz.f55, k1, hlo, plainV, q]
   all_goals rfl
  | false =>
   by_cases hd : d = 0
   ·have e : plainT n d w = some (if w = true then List.replicate 20 57 else [49, 101, 57, 57]) := by unfold plainT; rw [hm, hw, if_neg (by simp), if_pos hd]
    rw [hm] at k1
    rw [e]
    subst hd
    cases w with
    | true =>
     have k2 := fun lo h => f80 (lo := lo) (h := h) (c := 57) (n := 20) (by omega) (by omega)
     have q : ((0 : Int) == 0) = true := rfl
     have q2 : decide ((1 : Int) < 0) = false := rfl
     simp only [go_sem, b55, Tryz.f55, k1, k2, hlo, plainV, q, q2]
     all_goals rfl
    | false =>
     have q : ((0 : Int) == 0) = true := rfl
     simp only [go_sem, b55, Tryz.f55, k1, hlo, plainV, q]
     all_goals rfl
   ·have h1d := may_pos hm hd
    obtain ⟨q, a1, a2, pa⟩ := p36a (lo := lo) (h := h) hlo h0 h1 h1d h3 hm hw
    have e : plainT n d w = match progN n.natAbs d with
      | none => none
      | some (m, p) => numText (decide (n < 0)) w m p := by unfold plainT; rw [hm, hw, if_neg (by simp), if_neg hd]; cases progN (n.natAbs : Int) d <;> rfl
    rw [e, pc_in, pc_go _ _ _ _ 0 9]
    unfold X55 at pa
    rw [pa]
    cases hp : progN (n.natAbs : Int) d with
    | none =>
     simp only
     rw [pc_r]
     exact fin36 (x := [])
    | some mp =>
     obtain ⟨m, p⟩ := mp
     obtain ⟨m0, m1, p1⟩ := progN_le (by omega) (by omega) h1d h3 hp
     have hwp : w = true → p = 0 := fun hw1 => by
      subst hw1
      have : d = 1 := by simp at hw; omega
      subst this
      exact prog_one hp
     simp only
     rw [numText_eq hwp, pc_go _ _ _ _ _ 3]
     have pb := p36b (lo := lo) (h := h) hlo (n := n) (d := d) (m := m) (a1 := a1) (a2 := a2) (w := w) (p := p) (q := q) m0 m1 (by omega)
     unfold X55 at pb
     rw [pb]
     by_cases hc : 18 < (core (dgt m)).length
     ·rw [if_pos hc, if_pos hc, pc_r]
      exact fin36 (x := [])
     ·rw [if_neg hc, if_neg hc, pc_go _ _ _ _ _ 2]
      have pcc := p36c (lo := lo) (h := h) (n := n) (d := d) (m := m) (w := w) (p := p) (q := q) m0 m1 (by omega)
      unfold X55 at pcc
      rw [pcc, pc_go _ _ _ _ _ 2]
      obtain ⟨l1, l2⟩ := wide_len (m := m) (p := p)
      obtain ⟨g1, g2⟩ := dgt_len 19 m m0 (by
                          have : (10 : Int) ^ (19 + 1) = 100000000000000000000 := by decide
                          omega)
      obtain ⟨e1, e2, x1, x2, pd⟩ := p36d (lo := lo) (h := h) (T := wide m p) (n := n) (d := d) (w := w) (b := decide ((dgt m).length ≤ p)) (p := p) (q := q) l1 (by omega)
      unfold X55 at pd
      rw [pd, pc_go _ _ _ _ _ 4]
      have pe := p36e (lo := lo) (h := h) (T := point (wide m p) p w) (n := n) (d := d) (q := q) (e1 := e1) (e2 := e2) (by
       unfold point
       split
       ·omega
       ·simp only [List.length_append, List.length_cons, List.length_take, List.length_drop]
        split <;> simp <;> omega) x1 x2
      unfold X55 at pe
      rw [pe, pc_r, fin36]
      simp only [decide_eq_true_eq]
      rfl
end
end Go.Lift.P7
end

section
namespace Go.Lift.Tok
open Utf
theorem core_le (d : List Int) : (core d).length ≤ d.length := by
 unfold core
 have h : (d.reverse.dropWhile (· == 48)).length ≤ d.reverse.length := (List.dropWhile_sublist _).length_le
 simp at h ⊢
 exact h
end Go.Lift.Tok
end

section
open Go.Proofs
namespace Go.Lift.P7
variable [MX]
open Utf Tok Spell
set_option maxRecDepth 20000
set_option maxHeartbeats 4000000
section
variable {lo : Nat} {h : Heap}
noncomputable abbrev X40 (lo N : Nat) : Cx := ⟨Tryz.prog, E, lo, N, h40⟩
abbrev A40 (w : Bool) (q0 : Nat) (n d p : Int) : Env := [(1, .v (.bool w)), (2, .ptr q0 0), (6, .v (.int .u64 n)), (7, .v (.int .u64 d)), (8, .v (.int .i64 p))]
abbrev bad40 (P : Heap) : Option (Ex × Env × Heap) := some (.ret, [(4, .v (.string ⟨#[]⟩)), (5, .v (.int .i64 1))], P)
theorem loop40a {w : Bool} {q0 N : Nat} {P : Heap} : ∀ (k : Nat) (n d : Int) (p : Nat), 1 ≤ d → d < 2 ^ k → d ≤ 9223372036854775807 → 0 ≤ n → n ≤ 9223372036854775808 → p + k ≤ 1000 →
  loopW (evCode (X40 lo N) loopW l40x0) (A40 w q0 n d p, P) = match refN k n d p with
   | some (m, p') => some (.exit 0, A40 w q0 m 1 p' ++ [(35, .v (.bool false))], P)
   | none => bad40 P := by
 intro k
 induction k with
 | zero => intro n d p h1 h2 _ _ _ _; simp at h2; omega
 | succ k ih =>
  intro n d p h1 h2 h3 h4 h5 h6
  rw [loop_eq]
  simp only [refN]
  have z2 : ¬ ((2 : Int) = 0) := by omega
  have z5 : ¬ ((5 : Int) = 0) := by omega
  have z10 : ¬ ((10 : Int) = 0) := by omega
  by_cases hd : d ≤ 1
  ·obtain rfl : d = 1 := by omega
   have q : decide ((1 : Int) < 1) = false := rfl
   rw [if_pos hd]
   simp only [go_sem, l40x0, b40, Tryz.f40, q]
   all_goals rfl
  rw [if_neg hd]
  rw [Int.pow_succ] at h2
  have q : decide ((1 : Int) < d) = true := by simp; omega
  have t2 : d.tmod 2 = d % 2 := Int.tmod_eq_emod_of_nonneg (by omega)
  have t5 : d.tmod 5 = d % 5 := Int.tmod_eq_emod_of_nonneg (by omega)
  have t10 : d.tmod 10 = d % 10 := Int.tmod_eq_emod_of_nonneg (by omega)
  have u2 : d.tdiv 2 = d / 2 := Int.tdiv_eq_ediv_of_nonneg (by omega)
  have u5 : d.tdiv 5 = d / 5 := Int.tdiv_eq_ediv_of_nonneg (by omega)
  have u10 : d.tdiv 10 = d / 10 := Int.tdiv_eq_ediv_of_nonneg (by omega)
  have v2 : IntKind.u64.wrap (d % 2) = d % 2 := wrap_u64 (by omega) (by omega)
  have v5 : IntKind.u64.wrap (d % 5) = d % 5 := wrap_u64 (by omega) (by omega)
  have v10 : IntKind.u64.wrap (d % 10) = d % 10 := wrap_u64 (by omega) (by omega)
  have x2 : IntKind.u64.wrap (d / 2) = d / 2 := wrap_u64 (by omega) (by omega)
  have x5 : IntKind.u64.wrap (d / 5) = d / 5 := wrap_u64 (by omega) (by omega)
  have x10 : IntKind.u64.wrap (d / 10) = d / 10 := wrap_u64 (by omega) (by omega)
  have w1 : IntKind.i64.wrap ((p : Int) + 1) = ((p + 1 : Nat) : Int) := wrap_succ (by omega)
  by_cases hb : d % 2 ≠ 0 ∧ d % 5 ≠ 0
  ·have q2 : (d % 2 != 0) = true := by simp [hb.1]
   have q5 : (d % 5 != 0) = true := by simp [hb.2]
   rw [if_pos hb]
   simp only [go_sem, l40x0, b40, Tryz.f40, q, t2, t5, v2, v5, z2, z5, q2, q5]
   all_goals rfl
  rw [if_neg hb]
  by_cases hx : d % 10 = 0
  ·have q10 : (d % 10 == 0) = true := by simp [hx]
   have q2 : (d % 2 != 0) = false := by simp; omega
   rw [if_pos hx]
   have er : evCode (X40 lo N) loopW l40x0 (A40 w q0 n d p, P) = some (.normal, A40 w q0 n (d / 10) (p + 1 : Nat), P) := by
    simp only [go_sem, l40x0, b40, Tryz.f40, q, t2, t5, t10, u10, v2, v5, v10, x10, z2, z5, z10, q2, q10, w1]
    all_goals rfl
   rw [er, loop_n, ih n (d / 10) (p + 1) (by omega) (by omega) (by omega) h4 h5 (by omega)]
  rw [if_neg hx]
  have q10 : (d % 10 == 0) = false := by simp [hx]
  unfold big
  by_cases hf : d % 5 = 0
  ·have q5 : (d % 5 == 0) = true := by simp [hf]
   have q5n : (d % 5 != 0) = false := by simp [hf]
   have q2 : (d % 2 != 0) = true := by simp; omega
   by_cases hn : 1000000000000000000 ≤ n
   ·have qn : decide (1000000000000000000 ≤ n) = true := by simp [hn]
    rw [if_pos hn]
    simp only [go_sem, l40x0, b40, Tryz.f40, q, t2, t5, t10, u5, v2, v5, v10, x5, z2, z5, z10, q2, q5, q5n, q10, w1, qn]
    all_goals rfl
   ·have qn : decide (1000000000000000000 ≤ n) = false := by simp; omega
    have wn : IntKind.u64.wrap (n * 2) = n * 2 := wrap_u64 (by omega) (by omega)
    rw [if_neg hn, if_pos hf]
    have er : evCode (X40 lo N) loopW l40x0 (A40 w q0 n d p, P) = some (.normal, A40 w q0 (n * 2) (d / 5) (p + 1 : Nat), P) := by
     simp only [go_sem, l40x0, b40, Tryz.f40, q, t2, t5, t10, u5, v2, v5, v10, x5, z2, z5, z10, q2, q5, q5n, q10, w1, qn, wn]
     all_goals rfl
    rw [er, loop_n, ih (n * 2) (d / 5) (p + 1) (by omega) (by omega) (by omega) (by omega) (by omega) (by omega)]
  ·have q5 : (d % 5 == 0) = false := by simp [hf]
   have q2 : (d % 2 != 0) = false := by simp; omega
   by_cases hn : 1000000000000000000 ≤ n
   ·have qn : decide (1000000000000000000 ≤ n) = true := by simp [hn]
    rw [if_pos hn]
    simp only [go_sem, l40x0, b40, Tryz.f40, q, t2, t5, t10, u2, v2, v5, v10, x2, z2, z5, z10, q2, q5, q10, w1, qn]
    all_goals rfl
   ·have qn : decide (1000000000000000000 ≤ n) = false := by simp; omega
    have wn : IntKind.u64.wrap (n * 5) = n * 5 := wrap_u64 (by omega) (by omega)
    rw [if_neg hn, if_neg hf]
    have er : evCode (X40 lo N) loopW l40x0 (A40 w q0 n d p, P) = some (.normal, A40 w q0 (n * 5) (d / 2) (p + 1 : Nat), P) := by
     simp only [go_sem, l40x0, b40, Tryz.f40, q, t2, t5, t10, u2, v2, v5, v10, x2, z2, z5, z10, q2, q5, q10, w1, qn, wn]
     all_goals rfl
    rw [er, loop_n, ih (n * 5) (d / 2) (p + 1) (by omega) (by omega) (by omega) (by omega) (by omega) (by omega)]
theorem loop40b {w : Bool} {q0 N : Nat} {P : Heap} {p : Int} {L : List Int} (hy : By L) (hl : L.length ≤ 1000) : ∀ (c : Nat), 1 ≤ c → c ≤ L.length →
  loopW (evCode (X40 lo N) loopW l40x1) ([(1, .v (.bool w)), (2, .ptr q0 0), (8, .v (.int .i64 p)), (10, .v (.string (bs L))), (11, .v (.int .i64 c))], P) =
   some (.exit 2, [(1, .v (.bool w)), (2, .ptr q0 0), (8, .v (.int .i64 p)), (10, .v (.string (bs L))), (11, .v (.int .i64 (max 1 (core (L.take c)).length : Nat))), (75, .v (.bool false))], P) := by
 intro c
 induction c with
 | zero => intro h; omega
 | succ c ih =>
  intro h1 h2
  have ht : L.take (c + 1) = L.take c ++ [L[c]] := List.take_succ_eq_append_getElem h2
  have hc : L[c]? = some L[c] := List.getElem?_eq_getElem h2
  have hle := core_le (L.take (c + 1))
  rw [List.length_take] at hle
  have hi := bs_ix hy c
  rw [hc] at hi
  rw [loop_eq]
  by_cases hc0 : c = 0
  ·subst hc0
   have q : decide ((1 : Int) < ((0 + 1 : Nat) : Int)) = false := rfl
   have e : max 1 (core (L.take (0 + 1))).length = 0 + 1 := by omega
   rw [e]
   simp only [go_sem, l40x1, b40, Tryz.f40, q]
   all_goals rfl
  have q : decide ((1 : Int) < ((c + 1 : Nat) : Int)) = true := by simp; omega
  have w1 : IntKind.i64.wrap (((c + 1 : Nat) : Int) - 1) = (c : Int) := by rw [wrap_i64 (by omega) (by omega)]; omega
  rw [ht, core_snoc]
  by_cases hx : L[c] = 48
  ·have q2 : (L[c] == 48) = true := by simp [hx]
   rw [if_pos hx]
   have er : evCode (X40 lo N) loopW l40x1 ([(1, .v (.bool w)), (2, .ptr q0 0), (8, .v (.int .i64 p)), (10, .v (.string (bs L))), (11, .v (.int .i64 (c + 1 : Nat)))], P) = some (.normal, [(1, .v (.bool w)), (2, .ptr q0 0), (8, .v (.int .i64 p)), (10, .v (.string (bs L))), (11, .v (.int .i64 c))], P) := by
    simp only [go_sem, l40x1, b40, Tryz.f40, q, w1, hi, q2]
    all_goals rfl
   rw [er, loop_n, ih (by omega) (by omega)]
  ·have q2 : (L[c] == 48) = false := by simp [hx]
   have e : max 1 (L.take c ++ [L[c]]).length = c + 1 := by simp; omega
   rw [if_neg hx, e]
   simp only [go_sem, l40x1, b40, Tryz.f40, q, w1, hi, q2]
   all_goals rfl
theorem loop40c {w : Bool} {q0 N : Nat} {P : Heap} {p : Nat} (hp : p ≤ 1000) : ∀ (m : Nat) (T : List Int) (v : V), p + 1 - T.length = m → T.length ≤ 2000 →
  loopW (evCode (X40 lo N) loopW l40x2) ([(1, .v (.bool w)), (2, .ptr q0 0), (8, .v (.int .i64 p)), (10, .v (.string (bs T))), (79, v)], P) =
   some (.exit 4, [(1, .v (.bool w)), (2, .ptr q0 0), (8, .v (.int .i64 p)), (10, .v (.string (bs (List.replicate m 48 ++ T)))), (83, .v (.bool false))], P) := by
 intro m
 induction m with
 | zero =>
  intro T v h1 h2
  have q : decide ((T.length : Int) ≤ (p : Int)) = false := by simp; omega
  have sz := bs_size T
  rw [loop_eq]
  simp only [go_sem, l40x2, b40, Tryz.f40, sz, q]
  all_goals rfl
 | succ m ih =>
  intro T v h1 h2
  have q : decide ((T.length : Int) ≤ (p : Int)) = true := by simp; omega
  have sz := bs_size T
  have z1 : (bs [48]).size + (bs T).size ≤ 9223372036854775807 := by rw [bs_size, bs_size]; simp; omega
  rw [sz] at z1
  have er : evCode (X40 lo N) loopW l40x2 ([(1, .v (.bool w)), (2, .ptr q0 0), (8, .v (.int .i64 p)), (10, .v (.string (bs T))), (79, v)], P) = some (.normal, [(1, .v (.bool w)), (2, .ptr q0 0), (8, .v (.int .i64 p)), (10, .v (.string (bs ([48] ++ T)))), (79, .undef)], P) := by
   simp only [go_sem, l40x2, b40, Tryz.f40, sz, q, bs_48, bs_app, z1]
   all_goals rfl
  rw [loop_eq, er, loop_n, ih ([48] ++ T) .undef (by simp; omega) (by simp; omega)]
  have e : List.replicate m 48 ++ ([48] ++ T) = List.replicate (m + 1) 48 ++ T := by rw [List.replicate_succ', List.append_assoc]
  rw [e]
end
end Go.Lift.P7
end

section
open Go.Proofs
namespace Go.Lift.P7
variable [MX]
open Utf Tok Spell
set_option maxRecDepth 20000
set_option maxHeartbeats 4000000
section
variable {lo : Nat} {h : Heap}
abbrev C2 (n d : Int) : Ob := .cells [.v (.int .i64 n), .v (.int .i64 d)]
theorem p40a (hlo : lo ≤ h.length) {n d : Int} {w : Bool} (h0 : -9223372036854775808 ≤ n) (h1 : n ≤ 9223372036854775807) (h2 : 1 ≤ d) (h3 : d ≤ 9223372036854775807) (hm : mayR n d = true) (hw : (w && decide (1 < d)) = false) :
  evL (X40 lo h.length) loopW (pc b40 0 7) (args0 [.agg [.v (.int .i64 n), .v (.int .i64 d)], .v (.bool w)], h) = match refN 64 n.natAbs d 0 with
   | some (m, k) => some (.normal, A40 w h.length m 1 k ++ [(35, .v (.bool false))], h ++ [C2 n d])
   | none => bad40 (h ++ [C2 n d]) := by
 have k1 := fun lo h hlo => f63 (lo := lo) (h := h) h0 h1 h3 hlo
 rw [hm] at k1
 have k1 := k1 lo (h ++ [C2 n d]) (by simp; omega)
 have k3 := fun lo h => f64 (lo := lo) (h := h) h0 h1
 have wd : IntKind.u64.wrap d = d := wrap_u64 (by omega) (by omega)
 have qd : (d == 0) = false := by simp; omega
 have h64 : (2 : Int) ^ 64 = 18446744073709551616 := by decide
 have hL := loop40a (lo := lo) (w := w) (q0 := h.length) (N := h.length) (P := h ++ [C2 n d]) 64 n.natAbs d 0 h2 (by omega) h3 (by omega) (by omega) (by omega)
 have n0 : ((0 : Nat) : Int) = 0 := rfl
 simp only [l40x0, b40, Tryz.f40, loopAt, loops, bodyOf, go_sem, n0] at hL
 cases hr : refN 64 n.natAbs d 0 with
 | none =>
  rw [hr] at hL
  cases w with
  | true =>
   have q1 : decide (1 < d) = false := by simpa using hw
   simp only [go_sem, b40, Tryz.f40, k1, k3, wd, qd, q1, hL, hlo]
   all_goals rfl
  | false =>
   simp only [go_sem, b40, Tryz.f40, k1, k3, wd, qd, hL, hlo]
   all_goals rfl
 | some mp =>
  obtain ⟨m, p⟩ := mp
  rw [hr] at hL
  cases w with
  | true =>
   have q1 : decide (1 < d) = false := by simpa using hw
   simp only [go_sem, b40, Tryz.f40, k1, k3, wd, qd, q1, hL, hlo]
   all_goals rfl
  | false =>
   simp only [go_sem, b40, Tryz.f40, k1, k3, wd, qd, hL, hlo]
   all_goals rfl
theorem p40b {n d m : Int} {w : Bool} {p : Nat} (h0 : 0 ≤ m) (h1 : m ≤ 9223372036854775808) (hp : p ≤ 1000) :
  evL (X40 lo h.length) loopW (pc b40 7 5) (A40 w h.length m 1 p ++ [(35, .v (.bool false))], h ++ [C2 n d]) =
   if 18 < (core (dgt m)).length then bad40 (h ++ [C2 n d])
   else some (.normal, [(1, .v (.bool w)), (2, .ptr h.length 0), (8, .v (.int .i64 p)), (10, .v (.string (bs (dgt m)))), (79, .v (.bool false))], h ++ [C2 n d]) := by
 have k1 := fun lo h => f65 (lo := lo) (h := h) h0 (x := m) (by omega)
 obtain ⟨l1, l2⟩ := dgt_len 19 m h0 (by
                     have : (10 : Int) ^ (19 + 1) = 100000000000000000000 := by decide
                     omega)
 have sz := bs_size (dgt m)
 have hL := loop40b (lo := lo) (w := w) (q0 := h.length) (N := h.length) (P := h ++ [C2 n d]) (p := p) (dgt_by m) (by omega) (dgt m).length l1 (Nat.le_refl _)
 rw [List.take_length] at hL
 simp only [l40x1, b40, Tryz.f40, loopAt, loops, bodyOf, go_sem] at hL
 by_cases hc : 18 < (core (dgt m)).length
 ·have q1 : decide (18 < ((max 1 (core (dgt m)).length : Nat) : Int)) = true := by simp; omega
  rw [if_pos hc]
  simp only [go_sem, b40, Tryz.f40, k1, sz, hL, q1]
  all_goals rfl
 ·have q1 : decide (18 < ((max 1 (core (dgt m)).length : Nat) : Int)) = false := by simp; omega
  rw [if_neg hc]
  simp only [go_sem, b40, Tryz.f40, k1, sz, hL, q1]
  all_goals rfl
theorem p40c {n d m : Int} {w : Bool} {p : Nat} (h0 : 0 ≤ m) (h1 : m ≤ 9223372036854775808) (hp : p ≤ 1000) :
  evL (X40 lo h.length) loopW (pc b40 12 1) ([(1, .v (.bool w)), (2, .ptr h.length 0), (8, .v (.int .i64 p)), (10, .v (.string (bs (dgt m)))), (79, .v (.bool false))], h ++ [C2 n d]) =
   some (.normal, [(1, .v (.bool w)), (2, .ptr h.length 0), (8, .v (.int .i64 p)), (10, .v (.string (bs (wide m p)))), (83, .v (.bool false))], h ++ [C2 n d]) := by
 obtain ⟨l1, l2⟩ := dgt_len 19 m h0 (by
                     have : (10 : Int) ^ (19 + 1) = 100000000000000000000 := by decide
                     omega)
 have hL := loop40c (lo := lo) (w := w) (q0 := h.length) (N := h.length) (P := h ++ [C2 n d]) hp (p + 1 - (dgt m).length) (dgt m) (.v (.bool false)) rfl (by omega)
 simp only [l40x2, b40, Tryz.f40, loopAt, loops, bodyOf, go_sem] at hL
 unfold wide
 simp only [go_sem, b40, Tryz.f40, hL]
 all_goals rfl
theorem p40d {T : List Int} {n d : Int} {w : Bool} {p : Nat} (hp : p + 1 ≤ T.length) (hl : T.length ≤ 1000000) (hw : w = true → p = 0) :
  ∃ e1 e2 : Env, (e1 = [] ∨ ∃ v u, e1 = [(8, v), (10, u)]) ∧ (e2 = [] ∨ (∃ v, e2 = [(93, v)]) ∨ ∃ v, e2 = [(97, v)]) ∧
  evL (X40 lo h.length) loopW (pc b40 13 3) ([(1, .v (.bool w)), (2, .ptr h.length 0), (8, .v (.int .i64 p)), (10, .v (.string (bs T))), (83, .v (.bool false))], h ++ [C2 n d]) =
   some (.normal, (2, .ptr h.length 0) :: (e1 ++ (12, .v (.string (bs (point T p w)))) :: e2), h ++ [C2 n d]) := by
 unfold point
 have sz := bs_size T
 have w1 : IntKind.i64.wrap ((T.length : Int) - (p : Int)) = ((T.length - p : Nat) : Int) := by rw [wrap_i64 (by omega) (by omega)]; omega
 have b1 : T.length - p ≤ T.length := by omega
 have e1 : (T.take T.length).drop (T.length - p) = T.drop (T.length - p) := by rw [List.take_length]
 have e0 : (T.take (T.length - p)).drop 0 = T.take (T.length - p) := rfl
 have zz : ∀ a b : List Int, a.length + b.length ≤ 2000000000 → (bs a).size + (bs b).size ≤ 9223372036854775807 := fun a b h => by rw [bs_size, bs_size]; omega
 have z0 : 0 ≤ T.length - p := Nat.zero_le _
 cases w with
 | true =>
  obtain rfl := hw rfl
  have e2 : T.take (T.length - 0) = T := by simp
  rw [e2] at e0
  have w2 : IntKind.i64.wrap ((T.length : Int) - 0) = (T.length : Int) := by rw [wrap_i64 (by omega) (by omega)]; omega
  have e3 : T.take T.length = T := List.take_length
  have z9 : 0 ≤ T.length := Nat.zero_le _
  have n0 : ((0 : Nat) : Int) = 0 := rfl
  have e4 : T.drop 0 = T := rfl
  refine ⟨[(8, .v (.int .i64 0)), (10, .v (.string (bs T)))], [(93, .v (.bool false))], .inr ⟨_, _, rfl⟩, .inr (.inl ⟨_, rfl⟩), ?_⟩
  simp only [go_sem, b40, Tryz.f40, sz, n0, w2, bs_ext, e0, e3, e4, z9, Nat.le_refl, if_true]
  all_goals rfl
 | false =>
  have z1 := zz (T.take (T.length - p)) [46] (by simp; omega)
  by_cases hp0 : p = 0
  ·have q0 : ((p : Int) == 0) = true := by simp [hp0]
   have z2 := zz (T.take (T.length - p) ++ [46]) [48] (by simp; omega)
   have z3 := zz (T.take (T.length - p) ++ [46] ++ [48]) (T.drop (T.length - p)) (by simp; omega)
   have ed : T.drop (T.length - p) = [] := by rw [hp0]; simp
   rw [List.append_assoc, List.singleton_append, ed] at z3
   rw [if_pos hp0]
   refine ⟨[(8, .v (.int .i64 p)), (10, .v (.string (bs T)))], [(93, .undef)], .inr ⟨_, _, rfl⟩, .inr (.inl ⟨_, rfl⟩), ?_⟩
   simp only [go_sem, b40, Tryz.f40, sz, w1, b1, bs_ext, e0, e1, bs_46, bs_48, bs_app, q0, z0, z1, z2, z3, Nat.le_refl, List.append_assoc, ed]
   all_goals rfl
  ·have q0 : ((p : Int) == 0) = false := by simp; omega
   have z2 := zz (T.take (T.length - p) ++ [46]) (T.drop (T.length - p)) (by simp; omega)
   rw [if_neg hp0]
   refine ⟨[(8, .v (.int .i64 p)), (10, .v (.string (bs T)))], [(93, .undef)], .inr ⟨_, _, rfl⟩, .inr (.inl ⟨_, rfl⟩), ?_⟩
   simp only [go_sem, b40, Tryz.f40, sz, w1, b1, bs_ext, e0, e1, bs_46, bs_48, bs_app, q0, z0, z1, z2, Nat.le_refl, List.append_assoc]
   all_goals rfl
theorem p40e {T : List Int} {n d : Int} {e1 e2 : Env} (hl : T.length ≤ 2000000) (he : e1 = [] ∨ ∃ v u, e1 = [(8, v), (10, u)]) (ht : e2 = [] ∨ (∃ v, e2 = [(93, v)]) ∨ ∃ v, e2 = [(97, v)]) :
  evL (X40 lo h.length) loopW (pc b40 16 4) ((2, .ptr h.length 0) :: (e1 ++ (12, .v (.string (bs T))) :: e2), h ++ [C2 n d]) =
   some (.ret, [(4, .v (.string (bs ((if n < 0 then [45] else []) ++ T)))), (5, .v (.int .i64 0))], h ++ [C2 n d]) := by
 have z1 : (bs [45]).size + (bs T).size ≤ 9223372036854775807 := by rw [bs_size, bs_size]; simp; omega
 by_cases hn : n < 0
 ·have q1 : decide (n < 0) = true := by simp [hn]
  rw [if_pos hn]
  rcases he with rfl | ⟨v, u, rfl⟩ <;> rcases ht with rfl | ⟨v2, rfl⟩ | ⟨v2, rfl⟩ <;>
  simp only [go_sem, b40, Tryz.f40, q1, bs_45, bs_app, z1] <;> rfl
 ·have q1 : decide (n < 0) = false := by simp; omega
  rw [if_neg hn]
  rcases he with rfl | ⟨v, u, rfl⟩ <;> rcases ht with rfl | ⟨v2, rfl⟩ | ⟨v2, rfl⟩ <;>
  simp only [go_sem, b40, Tryz.f40, q1, List.nil_append] <;> rfl
theorem may_gcd {n d : Int} (hm : mayR n d = true) (hd : d ≠ 0) : ∀ x, (x = 2 ∨ x = 5) → d % x = 0 → (n.natAbs : Int) % x ≠ 0 := by
 unfold mayR sureR at hm
 simp only [Bool.or_eq_true, Bool.and_eq_true, beq_iff_eq, decide_eq_true_eq] at hm
 rcases hm with ⟨_, h⟩ | ⟨⟨h1, _⟩, hg⟩
 ·exact absurd h hd
 ·intro x hx h2 h3
  rcases hx with rfl | rfl
  ·have e1 : 2 ∣ n.natAbs := Nat.dvd_of_mod_eq_zero (by omega)
   have e2 : 2 ∣ d.toNat := Nat.dvd_of_mod_eq_zero (by omega)
   have := Nat.dvd_gcd e1 e2
   rw [hg] at this
   have := Nat.le_of_dvd (by omega) this
   omega
  ·have e1 : 5 ∣ n.natAbs := Nat.dvd_of_mod_eq_zero (by omega)
   have e2 : 5 ∣ d.toNat := Nat.dvd_of_mod_eq_zero (by omega)
   have := Nat.dvd_gcd e1 e2
   rw [hg] at this
   have := Nat.le_of_dvd (by omega) this
   omega
theorem fin40 {x : List Int} {e : Int} {c : Ob} : fin Tryz.prog [.tmp 4, .tmp 5] h.length (some (.ret, [(4, .v (.string (bs x))), (5, .v (.int .i64 e))], h ++ [c])) = some (.tup [.v (.string (bs x)), .v (.int .i64 e)], h) := by
 simp only [go_sem]
 all_goals rfl
theorem f40 (hlo : lo ≤ h.length) {n d : Int} {w : Bool} (h0 : -9223372036854775808 ≤ n) (h1 : n ≤ 9223372036854775807) (h2 : -9223372036854775808 ≤ d) (h3 : d ≤ 9223372036854775807) :
  E lo 40 [.agg [.v (.int .i64 n), .v (.int .i64 d)], .v (.bool w)] h = some (plainV (plainT n d w), h) := by
 have k1 := fun lo h hlo => f63 (lo := lo) (h := h) h0 h1 h3 hlo
 have k1 := k1 lo (h ++ [.cells [.v (.int .i64 n), .v (.int .i64 d)]]) (by simp; omega)
 rw [e40 (by simp) (by rfl)]
 cases hm : mayR n d with
 | false =>
  have e : plainT n d w = none := by unfold plainT; rw [hm]; rfl
  rw [hm] at k1
  rw [e]
  simp only [go_sem, b40, Tryz.f40, k1, hlo, plainV]
  all_goals rfl
 | true =>
  cases hw : (w && decide (1 < d)) with
  | true =>
   have e : plainT n d w = none := by unfold plainT; rw [hm, hw]; rfl
   rw [hm] at k1
   rw [Bool.and_eq_true] at hw
   obtain ⟨rfl, q⟩ := hw
   rw [e]
   simp only [go_sem, b40, Tryz.f40, k1, hlo, plainV, q]
   all_goals rfl
  | false =>
   by_cases hd : d = 0
   ·have e : plainT n d w = some (if w = true then List.replicate 20 57 else [49, 101, 57, 57]) := by unfold plainT; rw [hm, hw, if_neg (by simp), if_pos hd]
    rw [hm] at k1
    rw [e]
    subst hd
    cases w with
    | true =>
     have q : ((0 : Int) == 0) = true := rfl
     have q2 : decide ((1 : Int) < 0) = false := rfl
     simp only [go_sem, b40, Tryz.f40, k1, hlo, plainV, q, q2]
     all_goals rfl
    | false =>
     have q : ((0 : Int) == 0) = true := rfl
     simp only [go_sem, b40, Tryz.f40, k1, hlo, plainV, q]
     all_goals rfl
   ·have h1d := may_pos hm hd
    have pa := p40a (lo := lo) (h := h) hlo h0 h1 h1d h3 hm hw
    have e : plainT n d w = match progN n.natAbs d with
      | none => none
      | some (m, p) => numText (decide (n < 0)) w m p := by unfold plainT; rw [hm, hw, if_neg (by simp), if_neg hd]; cases progN (n.natAbs : Int) d <;> rfl
    rw [scale_same h1d (by omega) (may_gcd hm hd)] at pa
    rw [e, pc_in, pc_go _ _ _ _ 0 7]
    unfold X40 at pa
    rw [pa]
    cases hp : progN (n.natAbs : Int) d with
    | none =>
     simp only
     unfold bad40
     rw [pc_r]
     exact fin40 (x := [])
    | some mp =>
     obtain ⟨m, p⟩ := mp
     obtain ⟨m0, m1, p1⟩ := progN_le (by omega) (by omega) h1d h3 hp
     have hwp : w = true → p = 0 := fun hw1 => by
      subst hw1
      have : d = 1 := by simp at hw; omega
      subst this
      exact prog_one hp
     simp only
     rw [numText_eq hwp, pc_go _ _ _ _ _ 5]
     have pb := p40b (lo := lo) (h := h) (n := n) (d := d) (m := m) (w := w) (p := p) m0 m1 (by omega)
     unfold X40 at pb
     rw [pb]
     by_cases hc : 18 < (core (dgt m)).length
     ·rw [if_pos hc, if_pos hc]
      unfold bad40
      rw [pc_r]
      exact fin40 (x := [])
     ·rw [if_neg hc, if_neg hc, pc_go _ _ _ _ _ 1]
      have pcc := p40c (lo := lo) (h := h) (n := n) (d := d) (m := m) (w := w) (p := p) m0 m1 (by omega)
      unfold X40 at pcc
      rw [pcc, pc_go _ _ _ _ _ 3]
      obtain ⟨l1, l2⟩ := wide_len (m := m) (p := p)
      obtain ⟨g1, g2⟩ := dgt_len 19 m m0 (by
                          have : (10 : Int) ^ (19 + 1) = 100000000000000000000 := by decide
                          omega)
      obtain ⟨e1, e2, x1, x2, pd⟩ := p40d (lo := lo) (h := h) (T := wide m p) (n := n) (d := d) (w := w) (p := p) l1 (by omega) hwp
      unfold X40 at pd
      rw [pd, pc_go _ _ _ _ _ 4]
      have pe := p40e (lo := lo) (h := h) (T := point (wide m p) p w) (n := n) (d := d) (e1 := e1) (e2 := e2) (by
       unfold point
       split
       ·omega
       ·simp only [List.length_append, List.length_cons, List.length_take, List.length_drop]
        split <;> simp <;> omega) x1 x2
      unfold X40 at pe
      rw [pe, pc_r, fin40]
      simp only [decide_eq_true_eq]
      rfl
end
end Go.Lift.P7
end

section
open Go.Proofs
namespace Go.Lift.P7
variable [MX]
open Utf
set_option maxRecDepth 20000
theorem fdiv64 (y : Int) (k : Nat) : y.fdiv (2 ^ min k 32) = y / 2 ^ min k 32 := by
 rw [Int.fdiv_eq_ediv_of_nonneg]
 exact Int.le_of_lt (Int.pow_pos (by omega))
end Go.Lift.P7
end

section
open Go.Proofs
namespace Go.Lift.P7
variable [MX]
open Utf
set_option maxRecDepth 20000
def isc (x : Int) : Bool := decide (0 ≤ x) && decide (x ≤ 1114111) && (decide (x < 55296) || decide (57343 < x))
theorem isc_scal (x : Int) : (if (!isc x) = true then 65533 else x) = scal x := by
 unfold isc scal
 by_cases a : x < 0 <;> by_cases b : 1114111 < x <;> by_cases c : 55296 ≤ x <;> by_cases d : x ≤ 57343 <;> simp [a, b, c, d] <;> omega
theorem f115 {lo : Nat} {x : Int} {h : Heap} : E lo 115 [.v (.int .i32 x)] h = some (.v (.bool (isc x)), h) := by
 rw [e115 (by simp) (by rfl)]
 simp only [go_sem, b115, Tryz.f115, isc]
theorem bytes_eq2 (y : Int) (h0 : 0 ≤ y) (h1 : y ≤ 1114111) (out : List Int) :
  (
   if decide (y < 128) = true then ri .u8 out ++ [[V.v (.int .u8 (IntKind.u8.wrap y))]]
   else if decide (y < 2048) = true then ri .u8 out ++ [[V.v (.int .u8 (IntKind.u8.wrap (IntKind.i32.wrap ↑(BitVec.ofInt 32 192 ||| BitVec.ofInt 32 (y.fdiv (2 ^ min 6 32))).toNat)))],
    [V.v (.int .u8 (IntKind.u8.wrap (IntKind.i32.wrap ↑(BitVec.ofInt 32 128 ||| BitVec.ofInt 32 (IntKind.i32.wrap ↑(BitVec.ofInt 32 y &&& BitVec.ofInt 32 63).toNat)).toNat)))]]
   else if decide (y < 65536) = true then ri .u8 out ++ [[V.v (.int .u8 (IntKind.u8.wrap (IntKind.i32.wrap ↑(BitVec.ofInt 32 224 ||| BitVec.ofInt 32 (y.fdiv (2 ^ min 12 32))).toNat)))],
    [V.v (.int .u8 (IntKind.u8.wrap (IntKind.i32.wrap ↑(BitVec.ofInt 32 128 ||| BitVec.ofInt 32 (IntKind.i32.wrap ↑(BitVec.ofInt 32 (y.fdiv (2 ^ min 6 32)) &&& BitVec.ofInt 32 63).toNat)).toNat)))],
    [V.v (.int .u8 (IntKind.u8.wrap (IntKind.i32.wrap ↑(BitVec.ofInt 32 128 ||| BitVec.ofInt 32 (IntKind.i32.wrap ↑(BitVec.ofInt 32 y &&& BitVec.ofInt 32 63).toNat)).toNat)))]]
   else ri .u8 out ++ [[V.v (.int .u8 (IntKind.u8.wrap (IntKind.i32.wrap ↑(BitVec.ofInt 32 240 ||| BitVec.ofInt 32 (y.fdiv (2 ^ min 18 32))).toNat)))],
    [V.v (.int .u8 (IntKind.u8.wrap (IntKind.i32.wrap ↑(BitVec.ofInt 32 128 ||| BitVec.ofInt 32 (IntKind.i32.wrap ↑(BitVec.ofInt 32 (y.fdiv (2 ^ min 12 32)) &&& BitVec.ofInt 32 63).toNat)).toNat)))],
    [V.v (.int .u8 (IntKind.u8.wrap (IntKind.i32.wrap ↑(BitVec.ofInt 32 128 ||| BitVec.ofInt 32 (IntKind.i32.wrap ↑(BitVec.ofInt 32 (y.fdiv (2 ^ min 6 32)) &&& BitVec.ofInt 32 63).toNat)).toNat)))],
    [V.v (.int .u8 (IntKind.u8.wrap (IntKind.i32.wrap ↑(BitVec.ofInt 32 128 ||| BitVec.ofInt 32 (IntKind.i32.wrap ↑(BitVec.ofInt 32 y &&& BitVec.ofInt 32 63).toNat)).toNat)))]])
  = ri .u8 (out ++ enc y) := by
 have lo6 : ∀ z : Int, 0 ≤ z → z ≤ 1114111 → IntKind.u8.wrap (IntKind.i32.wrap ↑(BitVec.ofInt 32 128 ||| BitVec.ofInt 32 (IntKind.i32.wrap ↑(BitVec.ofInt 32 z &&& BitVec.ofInt 32 63).toNat)).toNat) = 128 + z % 64 := by
  intro z z0 z1
  rw [and63 z0 (by omega), wrap_i32 (n := z % 64) (by omega) (by omega), Utf.o32 (n := 64) (by omega) (by omega) (by omega), wrap_i32 (by omega) (by omega), wrap_u8 (by omega) (by omega)]
 have e6 : y.fdiv (2 ^ min 6 32) = y / 64 := fdiv64 y 6
 have e12 : y.fdiv (2 ^ min 12 32) = y / 4096 := fdiv64 y 12
 have e18 : y.fdiv (2 ^ min 18 32) = y / 262144 := fdiv64 y 18
 rw [e6, e12, e18, lo6 y h0 h1, lo6 (y / 64) (by omega) (by omega), lo6 (y / 4096) (by omega) (by omega), ← ri_app]
 unfold enc
 by_cases c1 : y < 128
 ·simp only [c1, decide_true, if_true, ri_cons, ri_nil]
  rw [wrap_u8 (by omega) (by omega)]
 ·by_cases c2 : y < 2048
  ·simp only [c1, c2, decide_true, decide_false, if_true, if_false, ri_cons, ri_nil, Bool.false_eq_true]
   rw [Utf.o32 (n := 32) (by omega) (by omega) (by omega), wrap_i32 (by omega) (by omega), wrap_u8 (by omega) (by omega)]
  ·by_cases c3 : y < 65536
   ·simp only [c1, c2, c3, decide_true, decide_false, if_true, if_false, ri_cons, ri_nil, Bool.false_eq_true]
    rw [Utf.o32 (n := 16) (by omega) (by omega) (by omega), wrap_i32 (by omega) (by omega), wrap_u8 (by omega) (by omega)]
   ·simp only [c1, c2, c3, decide_true, decide_false, if_true, if_false, ri_cons, ri_nil, Bool.false_eq_true]
    rw [Utf.o32 (n := 8) (by omega) (by omega) (by omega), wrap_i32 (by omega) (by omega), wrap_u8 (by omega) (by omega)]
theorem round95 {lo : Nat} {l out : List Int} {h : Heap} {i : Nat} {x : Int} (hx : l[i]? = some x) (hi : i < l.length) (hl : l.length ≤ 35184372088832) (ho : out.length ≤ 140737488355324) :
  evCode ⟨Tryz.prog, E, lo, h.length, h95⟩ loopW l95x0 ([(3, .list .yes (ri .u8 out)), (6, .list .no (ri .i32 l)), (7, .v (.int .i64 l.length)), (8, .v (.int .i64 i))], h) =
   some (.normal, [(3, .list .yes (ri .u8 (out ++ enc (scal x)))), (6, .list .no (ri .i32 l)), (7, .v (.int .i64 l.length)), (8, .v (.int .i64 (i + 1 : Nat)))], h) := by
 have hd : decide ((i : Int) < l.length) = true := by simpa using hi
 have hr : ∀ k, k ≤ 4 → (out.length + k) * 1 ≤ 140737488355328 := by intro k hk; omega
 have hq : ∀ k, 9223372036854775800 ≤ k → out.length ≤ k := by intro k hk; omega
 have hw : IntKind.i64.wrap ((i : Int) + 1) = ((i + 1 : Nat) : Int) := wrap_succ (by omega)
 have hs := isc_scal x
 simp only [go_sem, l95x0, b95, Tryz.f95, hd, hx, hr, hq, hw, f115, hs]
 have hy := scal_in x
 exact congrArg (fun r => (Ex.normal, (([(3, V.list .yes r), (6, V.list .no (ri .i32 l)), (7, .v (.int .i64 l.length)), (8, .v (.int .i64 (i + 1 : Nat)))] : Env), h))) (bytes_eq2 (scal x) hy.1 hy.2 out)
theorem loop95 {lo : Nat} {l : List Int} {h : Heap} (hl : l.length ≤ 35184372088832) : ∀ (n i : Nat) (out : List Int), n = l.length - i → i ≤ l.length → out.length ≤ 4 * i →
  loopW (evCode ⟨Tryz.prog, E, lo, h.length, h95⟩ loopW l95x0) ([(3, .list .yes (ri .u8 out)), (6, .list .no (ri .i32 l)), (7, .v (.int .i64 l.length)), (8, .v (.int .i64 i))], h) =
   some (.exit 0, [(3, .list .yes (ri .u8 (out ++ (l.drop i).flatMap fun x => enc (scal x)))), (6, .list .no (ri .i32 l)), (7, .v (.int .i64 l.length)), (8, .v (.int .i64 l.length)), (9, .v (.bool false))], h) := by
 intro n
 induction n with
 | zero =>
  intro i out hn hi ho
  obtain rfl : i = l.length := by omega
  rw [loop_eq]
  have hd : decide ((l.length : Int) < l.length) = false := by simp
  simp only [go_sem, l95x0, b95, Tryz.f95, hd, List.drop_length, List.flatMap_nil]
 | succ n ih =>
  intro i out hn hi ho
  have hlt : i < l.length := by omega
  have hx : l[i]? = some l[i] := List.getElem?_eq_getElem hlt
  have he : (enc (scal l[i])).length ≤ 4 := by
   unfold enc
   split
   ·simp
   ·split
    ·simp
    ·split <;> simp
  rw [loop_eq, round95 hx hlt hl (by omega), loop_n, ih (i + 1) _ (by omega) (by omega) (by rw [List.length_append]; omega), List.drop_eq_getElem_cons hlt, List.flatMap_cons, List.append_assoc]
theorem f95 {lo : Nat} {l : List Int} {h : Heap} (hl : l.length ≤ 35184372088832) :
  E lo 95 [.list .no (ri .i32 l)] h = some (.list .no (ri .u8 (l.flatMap fun x => enc (scal x))), h) := by
 rw [e95 (by simp) (by rfl)]
 have hL := loop95 (lo := lo) (h := h) hl _ 0 [] rfl (by omega) (by simp)
 simp only [l95x0, b95, Tryz.f95, loopAt, loops, bodyOf, go_sem, List.drop_zero, ri_nil] at hL
 simp only [go_sem, b95, Tryz.f95, hL]
end Go.Lift.P7
end

section
open Go.Proofs
namespace Go.Lift.P7
variable [MX]
open Utf
set_option maxRecDepth 20000
theorem round87 {lo : Nat} {b : List Int} {h : Heap} {i n : Nat} {r low high c : Int} (hc : b[i + 1]? = some c) (hi : i < n) (hn : n ≤ 3) (hb : b.length ≤ 140737488355328) (hl : i + 1 < b.length)
  (c0 : 0 ≤ c) (c1 : c ≤ 255) (r0 : 0 ≤ r) (r1 : r ≤ 1000000) (hx : (decide (c < low) || decide (high < c)) = false) :
  evCode ⟨Tryz.prog, E, lo, h.length, h87⟩ loopW l87x0 ([(0, .list .no (ri .u8 b)), (5, .v (.int .u8 low)), (6, .v (.int .u8 high)), (7, .v (.int .i64 n)), (8, .v (.int .i32 r)), (58, .v (.int .i64 n)), (59, .v (.int .i64 i))], h) =
   some (.normal, [(0, .list .no (ri .u8 b)), (5, .v (.int .u8 128)), (6, .v (.int .u8 191)), (7, .v (.int .i64 n)), (8, .v (.int .i32 (r * 64 + c % 64))), (58, .v (.int .i64 n)), (59, .v (.int .i64 (i + 1 : Nat)))], h) := by
 have hd : decide ((i : Int) < n) = true := by simpa using hi
 have hw : IntKind.i64.wrap ((i : Int) + 1) = ((i + 1 : Nat) : Int) := wrap_succ (by omega)
 have hg : decide ((b.length : Int) ≤ (i + 1 : Nat)) = false := by simp; omega
 have hx1 : decide (c < low) = false := by simp at hx; simp; omega
 have hx2 : decide (high < c) = false := by simp at hx; simp; omega
 simp only [go_sem, l87x0, b87, Tryz.f87, hd, hc, hw, hg, hx1, hx2]
 rw [shl6 r0 r1, a63 c0 c1, wrap_u8 (by omega) (by omega), wrap_i32 (n := c % 64) (by omega) (by omega), or64 r0 r1 (by omega) (by omega), wrap_i32 (by omega) (by omega)]
theorem stop87 {lo : Nat} {b : List Int} {h : Heap} {i n : Nat} {r low high : Int} (hi : i < n) (hn : n ≤ 3) (hb : b.length ≤ 140737488355328)
  (hs : b.length ≤ i + 1 ∨ ∃ c, b[i + 1]? = some c ∧ i + 1 < b.length ∧ (c < low ∨ high < c)) :
  evCode ⟨Tryz.prog, E, lo, h.length, h87⟩ loopW l87x0 ([(0, .list .no (ri .u8 b)), (5, .v (.int .u8 low)), (6, .v (.int .u8 high)), (7, .v (.int .i64 n)), (8, .v (.int .i32 r)), (58, .v (.int .i64 n)), (59, .v (.int .i64 i))], h) =
   some (.ret, [(2, .v (.int .i32 65533)), (3, .v (.int .i64 (i + 1 : Nat)))], h) := by
 have hd : decide ((i : Int) < n) = true := by simpa using hi
 have hw : IntKind.i64.wrap ((i : Int) + 1) = ((i + 1 : Nat) : Int) := wrap_succ (by omega)
 rcases hs with hs | ⟨c, hc, hl, hs⟩
 ·have hg : decide ((b.length : Int) ≤ (i + 1 : Nat)) = true := by simp; omega
  have hc : b[i + 1]? = none := List.getElem?_eq_none hs
  simp only [go_sem, l87x0, b87, Tryz.f87, hd, hw, hg, hc]
 ·have hg : decide ((b.length : Int) ≤ (i + 1 : Nat)) = false := by simp; omega
  by_cases h1 : c < low
  ·have hx1 : decide (c < low) = true := by simp; omega
   simp only [go_sem, l87x0, b87, Tryz.f87, hd, hc, hw, hg, hx1]
  ·have hx1 : decide (c < low) = false := by simp; omega
   have hx2 : decide (high < c) = true := by simp; omega
   simp only [go_sem, l87x0, b87, Tryz.f87, hd, hc, hw, hg, hx1, hx2]
def end87 (b : List Int) (n : Nat) (x : Int × Nat × Bool) (h : Heap) (z : Ex × St) : Prop :=
 if x.2.2 = true then ∃ low high, z = (.exit 3, [(0, .list .no (ri .u8 b)), (5, .v (.int .u8 low)), (6, .v (.int .u8 high)), (7, .v (.int .i64 n)), (8, .v (.int .i32 x.1)), (58, .v (.int .i64 n)), (59, .v (.int .i64 n)), (60, .v (.bool false))], h)
 else z = (.ret, [(2, .v (.int .i32 x.1)), (3, .v (.int .i64 x.2.1))], h)
theorem more_snd : ∀ (n : Nat) (r lo hi : Int) (k : Nat) (t : List Int), (more n r lo hi k t).2.2 = true → (more n r lo hi k t).2.1 = k + n
 | 0, _, _, _, _, _, _ => rfl
 | n + 1, r, lo, hi, k, [], h => by simp [more] at h
 | n + 1, r, lo, hi, k, c :: t, h => by
  unfold more at h ⊢
  split at h
  ·simp at h
  ·rename_i hc
   rw [if_neg hc, more_snd n _ _ _ _ _ h]
   omega
theorem loop87 {lo : Nat} {b : List Int} {h : Heap} {n : Nat} (hn : n ≤ 3) (hb : b.length ≤ 140737488355328) (hy : By b) : ∀ (m i : Nat) (r low high : Int), m = n - i → i ≤ n → 0 ≤ r → (r + 1) * 64 ^ m ≤ 64000000 →
  ∃ z, loopW (evCode ⟨Tryz.prog, E, lo, h.length, h87⟩ loopW l87x0) ([(0, .list .no (ri .u8 b)), (5, .v (.int .u8 low)), (6, .v (.int .u8 high)), (7, .v (.int .i64 n)), (8, .v (.int .i32 r)), (58, .v (.int .i64 n)), (59, .v (.int .i64 i))], h) = some z
   ∧ end87 b n (more m r low high (i + 1) (b.drop (i + 1))) h z := by
 intro m
 induction m with
 | zero =>
  intro i r low high hm hi h0 h1
  obtain rfl : i = n := by omega
  have hd : decide ((i : Int) < i) = false := by simp
  rw [loop_eq]
  simp only [go_sem, l87x0, b87, Tryz.f87, hd]
  exact ⟨_, rfl, low, high, rfl⟩
 | succ m ih =>
  intro i r low high hm hi h0 h1
  have hlt : i < n := by omega
  rw [loop_eq]
  by_cases hl : i + 1 < b.length
  ·have hc : b[i + 1]? = some b[i + 1] := List.getElem?_eq_getElem hl
   have hcy := hy b[i + 1] (List.getElem_mem hl)
   rw [List.drop_eq_getElem_cons hl]
   by_cases hx : b[i + 1] < low ∨ high < b[i + 1]
   ·rw [stop87 hlt hn hb (.inr ⟨_, hc, hl, hx⟩), loop_r]
    exact ⟨_, rfl, by simp only [more, if_pos hx]; rfl⟩
   ·rw [Int.pow_succ] at h1
    have hp : (1 : Int) ≤ 64 ^ m := Int.pow_pos (by omega)
    have hr : (r + 1) * 64 * 64 ^ m = (r + 1) * (64 ^ m * 64) := by rw [Int.mul_assoc, Int.mul_comm 64]
    have h2 : (r + 1) * 64 * 1 ≤ (r + 1) * 64 * 64 ^ m := Int.mul_le_mul_of_nonneg_left hp (by omega)
    have h3 : (r * 64 + b[i + 1] % 64 + 1) * 64 ^ m ≤ (r + 1) * 64 * 64 ^ m := Int.mul_le_mul_of_nonneg_right (by omega) (by omega)
    rw [round87 hc hlt hn hb hl hcy.1 hcy.2 h0 (by omega) (by simp; omega), loop_n]
    have := ih (i + 1) (r * 64 + b[i + 1] % 64) 128 191 (by omega) (by omega) (by omega) (by omega)
    simpa only [more, if_neg hx] using this
  ·have hs : b.length ≤ i + 1 := by omega
   rw [stop87 hlt hn hb (.inl hs), loop_r, List.drop_eq_nil_of_le hs]
   exact ⟨_, rfl, rfl⟩
end Go.Lift.P7
end

section
open Go.Proofs
namespace Go.Lift.P7
variable [MX]
open Utf
set_option maxRecDepth 20000
def two (x : Int × Nat × Bool) : V := .tup [.v (.int .i32 x.1), .v (.int .i64 x.2.1)]
theorem f87a {lo : Nat} {c : Int} {t : List Int} {h : Heap} (hb : (c :: t).length ≤ 140737488355328) (hy : By (c :: t)) (hc : 194 ≤ c ∧ c ≤ 223) :
  E lo 87 [.list .no (ri .u8 (c :: t))] h = some (two (more 1 (c % 32) 128 191 1 t), h) := by
 have hcy := hy c (List.mem_cons_self ..)
 have t0 : decide (c < 128) = false := by simp; omega
 have t1 : decide (194 ≤ c) = true := by simp; omega
 have t2 : decide (c ≤ 223) = true := by simp; omega
 have t3 : decide (224 ≤ c) = false := by simp; omega
 have t4 : decide (c ≤ 239) = true := by simp; omega
 have t5 : decide (240 ≤ c) = false := by simp; omega
 have t6 : decide (c ≤ 244) = true := by simp; omega
 have q0 : (c == 224) = false := by simp; omega
 have q1 : (c == 237) = false := by simp; omega
 have q2 : (c == 240) = false := by simp; omega
 have q3 : (c == 244) = false := by simp; omega
 have hx : (c :: t)[0]? = some c := rfl
 have hm : IntKind.i32.wrap (IntKind.u8.wrap (iand .u8 c 31)) = c % 32 := by rw [a31 hcy.1 hcy.2, wrap_u8 (by omega) (by omega), wrap_i32 (by omega) (by omega)]
 obtain ⟨z, hL, hz⟩ := loop87 (lo := lo) (b := c :: t) (h := h) (n := 1) (by omega) hb hy 1 0 (c % 32) 128 191 rfl (by omega) (by omega) (by omega)
 have hn : (c :: t).drop (0 + 1) = t := rfl
 rw [hn] at hz
 have n1 : ((1 : Nat) : Int) = 1 := rfl
 have n2 : ((2 : Nat) : Int) = 2 := rfl
 have n3 : ((3 : Nat) : Int) = 3 := rfl
 simp only [l87x0, b87, Tryz.f87, loopAt, loops, bodyOf, go_sem, n1, n2, n3] at hL
 rw [e87 (by simp) (by rfl)]
 unfold end87 at hz
 split at hz
 ·rename_i hk
  obtain ⟨low, high, rfl⟩ := hz
  simp only [n1, n2, n3] at hL
  simp only [go_sem, b87, Tryz.f87, hx, t0, t1, t2, t3, t4, t5, t6, q0, q1, q2, q3, hm, hL]
  rw [two, more_snd _ _ _ _ _ _ hk]
  rfl
 ·subst hz
  simp only [go_sem, b87, Tryz.f87, hx, t0, t1, t2, t3, t4, t5, t6, q0, q1, q2, q3, hm, hL]
  rfl
theorem f87b {lo : Nat} {c : Int} {t : List Int} {h : Heap} (hb : (c :: t).length ≤ 140737488355328) (hy : By (c :: t)) (hc : c = 224) :
  E lo 87 [.list .no (ri .u8 (c :: t))] h = some (two (more 2 (c % 16) 160 191 1 t), h) := by
 have hcy := hy c (List.mem_cons_self ..)
 have t0 : decide (c < 128) = false := by simp; omega
 have t1 : decide (194 ≤ c) = true := by simp; omega
 have t2 : decide (c ≤ 223) = false := by simp; omega
 have t3 : decide (224 ≤ c) = true := by simp; omega
 have t4 : decide (c ≤ 239) = true := by simp; omega
 have t5 : decide (240 ≤ c) = false := by simp; omega
 have t6 : decide (c ≤ 244) = true := by simp; omega
 have q0 : (c == 224) = true := by simp; omega
 have q1 : (c == 237) = false := by simp; omega
 have q2 : (c == 240) = false := by simp; omega
 have q3 : (c == 244) = false := by simp; omega
 have hx : (c :: t)[0]? = some c := rfl
 have hm : IntKind.i32.wrap (IntKind.u8.wrap (iand .u8 c 15)) = c % 16 := by rw [a15 hcy.1 hcy.2, wrap_u8 (by omega) (by omega), wrap_i32 (by omega) (by omega)]
 obtain ⟨z, hL, hz⟩ := loop87 (lo := lo) (b := c :: t) (h := h) (n := 2) (by omega) hb hy 2 0 (c % 16) 160 191 rfl (by omega) (by omega) (by omega)
 have hn : (c :: t).drop (0 + 1) = t := rfl
 rw [hn] at hz
 have n1 : ((1 : Nat) : Int) = 1 := rfl
 have n2 : ((2 : Nat) : Int) = 2 := rfl
 have n3 : ((3 : Nat) : Int) = 3 := rfl
 simp only [l87x0, b87, Tryz.f87, loopAt, loops, bodyOf, go_sem, n1, n2, n3] at hL
 rw [e87 (by simp) (by rfl)]
 unfold end87 at hz
 split at hz
 ·rename_i hk
  obtain ⟨low, high, rfl⟩ := hz
  simp only [n1, n2, n3] at hL
  simp only [go_sem, b87, Tryz.f87, hx, t0, t1, t2, t3, t4, t5, t6, q0, q1, q2, q3, hm, hL]
  rw [two, more_snd _ _ _ _ _ _ hk]
  rfl
 ·subst hz
  simp only [go_sem, b87, Tryz.f87, hx, t0, t1, t2, t3, t4, t5, t6, q0, q1, q2, q3, hm, hL]
  rfl
theorem f87c {lo : Nat} {c : Int} {t : List Int} {h : Heap} (hb : (c :: t).length ≤ 140737488355328) (hy : By (c :: t)) (hc : c = 237) :
  E lo 87 [.list .no (ri .u8 (c :: t))] h = some (two (more 2 (c % 16) 128 159 1 t), h) := by
 have hcy := hy c (List.mem_cons_self ..)
 have t0 : decide (c < 128) = false := by simp; omega
 have t1 : decide (194 ≤ c) = true := by simp; omega
 have t2 : decide (c ≤ 223) = false := by simp; omega
 have t3 : decide (224 ≤ c) = true := by simp; omega
 have t4 : decide (c ≤ 239) = true := by simp; omega
 have t5 : decide (240 ≤ c) = false := by simp; omega
 have t6 : decide (c ≤ 244) = true := by simp; omega
 have q0 : (c == 224) = false := by simp; omega
 have q1 : (c == 237) = true := by simp; omega
 have q2 : (c == 240) = false := by simp; omega
 have q3 : (c == 244) = false := by simp; omega
 have hx : (c :: t)[0]? = some c := rfl
 have hm : IntKind.i32.wrap (IntKind.u8.wrap (iand .u8 c 15)) = c % 16 := by rw [a15 hcy.1 hcy.2, wrap_u8 (by omega) (by omega), wrap_i32 (by omega) (by omega)]
 obtain ⟨z, hL, hz⟩ := loop87 (lo := lo) (b := c :: t) (h := h) (n := 2) (by omega) hb hy 2 0 (c % 16) 128 159 rfl (by omega) (by omega) (by omega)
 have hn : (c :: t).drop (0 + 1) = t := rfl
 rw [hn] at hz
 have n1 : ((1 : Nat) : Int) = 1 := rfl
 have n2 : ((2 : Nat) : Int) = 2 := rfl
 have n3 : ((3 : Nat) : Int) = 3 := rfl
 simp only [l87x0, b87, Tryz.f87, loopAt, loops, bodyOf, go_sem, n1, n2, n3] at hL
 rw [e87 (by simp) (by rfl)]
 unfold end87 at hz
 split at hz
 ·rename_i hk
  obtain ⟨low, high, rfl⟩ := hz
  simp only [n1, n2, n3] at hL
  simp only [go_sem, b87, Tryz.f87, hx, t0, t1, t2, t3, t4, t5, t6, q0, q1, q2, q3, hm, hL]
  rw [two, more_snd _ _ _ _ _ _ hk]
  rfl
 ·subst hz
  simp only [go_sem, b87, Tryz.f87, hx, t0, t1, t2, t3, t4, t5, t6, q0, q1, q2, q3, hm, hL]
  rfl
theorem f87d {lo : Nat} {c : Int} {t : List Int} {h : Heap} (hb : (c :: t).length ≤ 140737488355328) (hy : By (c :: t)) (hc : 225 ≤ c ∧ c ≤ 239 ∧ c ≠ 237) :
  E lo 87 [.list .no (ri .u8 (c :: t))] h = some (two (more 2 (c % 16) 128 191 1 t), h) := by
 have hcy := hy c (List.mem_cons_self ..)
 have t0 : decide (c < 128) = false := by simp; omega
 have t1 : decide (194 ≤ c) = true := by simp; omega
 have t2 : decide (c ≤ 223) = false := by simp; omega
 have t3 : decide (224 ≤ c) = true := by simp; omega
 have t4 : decide (c ≤ 239) = true := by simp; omega
 have t5 : decide (240 ≤ c) = false := by simp; omega
 have t6 : decide (c ≤ 244) = true := by simp; omega
 have q0 : (c == 224) = false := by simp; omega
 have q1 : (c == 237) = false := by simp; omega
 have q2 : (c == 240) = false := by simp; omega
 have q3 : (c == 244) = false := by simp; omega
 have hx : (c :: t)[0]? = some c := rfl
 have hm : IntKind.i32.wrap (IntKind.u8.wrap (iand .u8 c 15)) = c % 16 := by rw [a15 hcy.1 hcy.2, wrap_u8 (by omega) (by omega), wrap_i32 (by omega) (by omega)]
 obtain ⟨z, hL, hz⟩ := loop87 (lo := lo) (b := c :: t) (h := h) (n := 2) (by omega) hb hy 2 0 (c % 16) 128 191 rfl (by omega) (by omega) (by omega)
 have hn : (c :: t).drop (0 + 1) = t := rfl
 rw [hn] at hz
 have n1 : ((1 : Nat) : Int) = 1 := rfl
 have n2 : ((2 : Nat) : Int) = 2 := rfl
 have n3 : ((3 : Nat) : Int) = 3 := rfl
 simp only [l87x0, b87, Tryz.f87, loopAt, loops, bodyOf, go_sem, n1, n2, n3] at hL
 rw [e87 (by simp) (by rfl)]
 unfold end87 at hz
 split at hz
 ·rename_i hk
  obtain ⟨low, high, rfl⟩ := hz
  simp only [n1, n2, n3] at hL
  simp only [go_sem, b87, Tryz.f87, hx, t0, t1, t2, t3, t4, t5, t6, q0, q1, q2, q3, hm, hL]
  rw [two, more_snd _ _ _ _ _ _ hk]
  rfl
 ·subst hz
  simp only [go_sem, b87, Tryz.f87, hx, t0, t1, t2, t3, t4, t5, t6, q0, q1, q2, q3, hm, hL]
  rfl
theorem f87e {lo : Nat} {c : Int} {t : List Int} {h : Heap} (hb : (c :: t).length ≤ 140737488355328) (hy : By (c :: t)) (hc : c = 240) :
  E lo 87 [.list .no (ri .u8 (c :: t))] h = some (two (more 3 (c % 8) 144 191 1 t), h) := by
 have hcy := hy c (List.mem_cons_self ..)
 have t0 : decide (c < 128) = false := by simp; omega
 have t1 : decide (194 ≤ c) = true := by simp; omega
 have t2 : decide (c ≤ 223) = false := by simp; omega
 have t3 : decide (224 ≤ c) = true := by simp; omega
 have t4 : decide (c ≤ 239) = false := by simp; omega
 have t5 : decide (240 ≤ c) = true := by simp; omega
 have t6 : decide (c ≤ 244) = true := by simp; omega
 have q0 : (c == 224) = false := by simp; omega
 have q1 : (c == 237) = false := by simp; omega
 have q2 : (c == 240) = true := by simp; omega
 have q3 : (c == 244) = false := by simp; omega
 have hx : (c :: t)[0]? = some c := rfl
 have hm : IntKind.i32.wrap (IntKind.u8.wrap (iand .u8 c 7)) = c % 8 := by rw [a7 hcy.1 hcy.2, wrap_u8 (by omega) (by omega), wrap_i32 (by omega) (by omega)]
 obtain ⟨z, hL, hz⟩ := loop87 (lo := lo) (b := c :: t) (h := h) (n := 3) (by omega) hb hy 3 0 (c % 8) 144 191 rfl (by omega) (by omega) (by omega)
 have hn : (c :: t).drop (0 + 1) = t := rfl
 rw [hn] at hz
 have n1 : ((1 : Nat) : Int) = 1 := rfl
 have n2 : ((2 : Nat) : Int) = 2 := rfl
 have n3 : ((3 : Nat) : Int) = 3 := rfl
 simp only [l87x0, b87, Tryz.f87, loopAt, loops, bodyOf, go_sem, n1, n2, n3] at hL
 rw [e87 (by simp) (by rfl)]
 unfold end87 at hz
 split at hz
 ·rename_i hk
  obtain ⟨low, high, rfl⟩ := hz
  simp only [n1, n2, n3] at hL
  simp only [go_sem, b87, Tryz.f87, hx, t0, t1, t2, t3, t4, t5, t6, q0, q1, q2, q3, hm, hL]
  rw [two, more_snd _ _ _ _ _ _ hk]
  rfl
 ·subst hz
  simp only [go_sem, b87, Tryz.f87, hx, t0, t1, t2, t3, t4, t5, t6, q0, q1, q2, q3, hm, hL]
  rfl
theorem f87f {lo : Nat} {c : Int} {t : List Int} {h : Heap} (hb : (c :: t).length ≤ 140737488355328) (hy : By (c :: t)) (hc : 241 ≤ c ∧ c ≤ 243) :
  E lo 87 [.list .no (ri .u8 (c :: t))] h = some (two (more 3 (c % 8) 128 191 1 t), h) := by
 have hcy := hy c (List.mem_cons_self ..)
 have t0 : decide (c < 128) = false := by simp; omega
 have t1 : decide (194 ≤ c) = true := by simp; omega
 have t2 : decide (c ≤ 223) = false := by simp; omega
 have t3 : decide (224 ≤ c) = true := by simp; omega
 have t4 : decide (c ≤ 239) = false := by simp; omega
 have t5 : decide (240 ≤ c) = true := by simp; omega
 have t6 : decide (c ≤ 244) = true := by simp; omega
 have q0 : (c == 224) = false := by simp; omega
 have q1 : (c == 237) = false := by simp; omega
 have q2 : (c == 240) = false := by simp; omega
 have q3 : (c == 244) = false := by simp; omega
 have hx : (c :: t)[0]? = some c := rfl
 have hm : IntKind.i32.wrap (IntKind.u8.wrap (iand .u8 c 7)) = c % 8 := by rw [a7 hcy.1 hcy.2, wrap_u8 (by omega) (by omega), wrap_i32 (by omega) (by omega)]
 obtain ⟨z, hL, hz⟩ := loop87 (lo := lo) (b := c :: t) (h := h) (n := 3) (by omega) hb hy 3 0 (c % 8) 128 191 rfl (by omega) (by omega) (by omega)
 have hn : (c :: t).drop (0 + 1) = t := rfl
 rw [hn] at hz
 have n1 : ((1 : Nat) : Int) = 1 := rfl
 have n2 : ((2 : Nat) : Int) = 2 := rfl
 have n3 : ((3 : Nat) : Int) = 3 := rfl
 simp only [l87x0, b87, Tryz.f87, loopAt, loops, bodyOf, go_sem, n1, n2, n3] at hL
 rw [e87 (by simp) (by rfl)]
 unfold end87 at hz
 split at hz
 ·rename_i hk
  obtain ⟨low, high, rfl⟩ := hz
  simp only [n1, n2, n3] at hL
  simp only [go_sem, b87, Tryz.f87, hx, t0, t1, t2, t3, t4, t5, t6, q0, q1, q2, q3, hm, hL]
  rw [two, more_snd _ _ _ _ _ _ hk]
  rfl
 ·subst hz
  simp only [go_sem, b87, Tryz.f87, hx, t0, t1, t2, t3, t4, t5, t6, q0, q1, q2, q3, hm, hL]
  rfl
theorem f87g {lo : Nat} {c : Int} {t : List Int} {h : Heap} (hb : (c :: t).length ≤ 140737488355328) (hy : By (c :: t)) (hc : c = 244) :
  E lo 87 [.list .no (ri .u8 (c :: t))] h = some (two (more 3 (c % 8) 128 143 1 t), h) := by
 have hcy := hy c (List.mem_cons_self ..)
 have t0 : decide (c < 128) = false := by simp; omega
 have t1 : decide (194 ≤ c) = true := by simp; omega
 have t2 : decide (c ≤ 223) = false := by simp; omega
 have t3 : decide (224 ≤ c) = true := by simp; omega
 have t4 : decide (c ≤ 239) = false := by simp; omega
 have t5 : decide (240 ≤ c) = true := by simp; omega
 have t6 : decide (c ≤ 244) = true := by simp; omega
 have q0 : (c == 224) = false := by simp; omega
 have q1 : (c == 237) = false := by simp; omega
 have q2 : (c == 240) = false := by simp; omega
 have q3 : (c == 244) = true := by simp; omega
 have hx : (c :: t)[0]? = some c := rfl
 have hm : IntKind.i32.wrap (IntKind.u8.wrap (iand .u8 c 7)) = c % 8 := by rw [a7 hcy.1 hcy.2, wrap_u8 (by omega) (by omega), wrap_i32 (by omega) (by omega)]
 obtain ⟨z, hL, hz⟩ := loop87 (lo := lo) (b := c :: t) (h := h) (n := 3) (by omega) hb hy 3 0 (c % 8) 128 143 rfl (by omega) (by omega) (by omega)
 have hn : (c :: t).drop (0 + 1) = t := rfl
 rw [hn] at hz
 have n1 : ((1 : Nat) : Int) = 1 := rfl
 have n2 : ((2 : Nat) : Int) = 2 := rfl
 have n3 : ((3 : Nat) : Int) = 3 := rfl
 simp only [l87x0, b87, Tryz.f87, loopAt, loops, bodyOf, go_sem, n1, n2, n3] at hL
 rw [e87 (by simp) (by rfl)]
 unfold end87 at hz
 split at hz
 ·rename_i hk
  obtain ⟨low, high, rfl⟩ := hz
  simp only [n1, n2, n3] at hL
  simp only [go_sem, b87, Tryz.f87, hx, t0, t1, t2, t3, t4, t5, t6, q0, q1, q2, q3, hm, hL]
  rw [two, more_snd _ _ _ _ _ _ hk]
  rfl
 ·subst hz
  simp only [go_sem, b87, Tryz.f87, hx, t0, t1, t2, t3, t4, t5, t6, q0, q1, q2, q3, hm, hL]
  rfl
end Go.Lift.P7
end

section
open Go.Proofs
namespace Go.Lift.P7
variable [MX]
open Utf
set_option maxRecDepth 20000
theorem f87 {lo : Nat} {c : Int} {t : List Int} {h : Heap} (hb : (c :: t).length ≤ 140737488355328) (hy : By (c :: t)) :
  E lo 87 [.list .no (ri .u8 (c :: t))] h = some (two (one (c :: t)), h) := by
 have hcy := hy c (List.mem_cons_self ..)
 have hx : (c :: t)[0]? = some c := rfl
 simp only [one]
 by_cases h0 : c < 128
 ·rw [if_pos h0]
  have t0 : decide (c < 128) = true := by simp; omega
  have hm : IntKind.i32.wrap c = c := wrap_i32 (by omega) (by omega)
  rw [e87 (by simp) (by rfl)]
  simp only [go_sem, b87, Tryz.f87, hx, t0, hm]
  rfl
 ·rw [if_neg h0]
  by_cases ha : 194 ≤ c ∧ c ≤ 223
  ·have e : nd c = (1, 128, 191) := by unfold nd; rw [if_pos ha]
   rw [f87a hb hy ha, e]
   rfl
  by_cases hb1 : c = 224
  ·have e : nd c = (2, 160, 191) := by unfold nd; rw [if_neg ha, if_pos hb1]
   rw [f87b hb hy hb1, e]
   rfl
  by_cases hc1 : c = 237
  ·have e : nd c = (2, 128, 159) := by unfold nd; rw [if_neg ha, if_neg hb1, if_pos hc1]
   rw [f87c hb hy hc1, e]
   rfl
  by_cases hd1 : 225 ≤ c ∧ c ≤ 239
  ·have e : nd c = (2, 128, 191) := by unfold nd; rw [if_neg ha, if_neg hb1, if_neg hc1, if_pos hd1]
   rw [f87d hb hy ⟨hd1.1, hd1.2, hc1⟩, e]
   rfl
  by_cases he1 : c = 240
  ·have e : nd c = (3, 144, 191) := by unfold nd; rw [if_neg ha, if_neg hb1, if_neg hc1, if_neg hd1, if_pos he1]
   rw [f87e hb hy he1, e]
   rfl
  by_cases hf1 : 241 ≤ c ∧ c ≤ 243
  ·have e : nd c = (3, 128, 191) := by unfold nd; rw [if_neg ha, if_neg hb1, if_neg hc1, if_neg hd1, if_neg he1, if_pos hf1]
   rw [f87f hb hy hf1, e]
   rfl
  by_cases hg1 : c = 244
  ·have e : nd c = (3, 128, 143) := by unfold nd; rw [if_neg ha, if_neg hb1, if_neg hc1, if_neg hd1, if_neg he1, if_neg hf1, if_pos hg1]
   rw [f87g hb hy hg1, e]
   rfl
  have e : nd c = (0, 0, 0) := by unfold nd; rw [if_neg ha, if_neg hb1, if_neg hc1, if_neg hd1, if_neg he1, if_neg hf1, if_neg hg1]
  rw [e, if_pos rfl]
  have t0 : decide (c < 128) = false := by simp; omega
  have t1 : (decide (194 ≤ c) && decide (c ≤ 223)) = false := by simp; omega
  have t2 : (decide (224 ≤ c) && decide (c ≤ 239)) = false := by simp; omega
  have t3 : (decide (240 ≤ c) && decide (c ≤ 244)) = false := by simp; omega
  rw [e87 (by simp) (by rfl)]
  simp only [go_sem, b87, Tryz.f87, hx, t0, t1, t2, t3]
  rfl
theorem f114 {lo : Nat} {c : Int} {h : Heap} (h0 : 0 ≤ c) (h1 : c ≤ 255) : E lo 114 [.v (.int .u8 c)] h = some (.tup [.v (.int .i64 (nd c).1), .v (.int .u8 (nd c).2.1), .v (.int .u8 (nd c).2.2)], h) := by
 rw [e114 (by simp) (by rfl)]
 by_cases ha : 194 ≤ c ∧ c ≤ 223
 ·have e : nd c = (1, 128, 191) := by unfold nd; rw [if_pos ha]
  have t1 : (decide (194 ≤ c) && decide (c ≤ 223)) = true := by simp; omega
  rw [e]
  simp only [go_sem, b114, Tryz.f114, t1]
  rfl
 have t1 : (decide (194 ≤ c) && decide (c ≤ 223)) = false := by simp; omega
 by_cases hb1 : c = 224
 ·have e : nd c = (2, 160, 191) := by unfold nd; rw [if_neg ha, if_pos hb1]
  have t2 : (c == 224) = true := by simp; omega
  rw [e]
  simp only [go_sem, b114, Tryz.f114, t1, t2]
  rfl
 have t2 : (c == 224) = false := by simp; omega
 by_cases hc1 : c = 237
 ·have e : nd c = (2, 128, 159) := by unfold nd; rw [if_neg ha, if_neg hb1, if_pos hc1]
  have t3 : (c == 237) = true := by simp; omega
  rw [e]
  simp only [go_sem, b114, Tryz.f114, t1, t2, t3]
  rfl
 have t3 : (c == 237) = false := by simp; omega
 by_cases hd1 : 225 ≤ c ∧ c ≤ 239
 ·have e : nd c = (2, 128, 191) := by unfold nd; rw [if_neg ha, if_neg hb1, if_neg hc1, if_pos hd1]
  have t4 : (decide (225 ≤ c) && decide (c ≤ 239)) = true := by simp; omega
  rw [e]
  simp only [go_sem, b114, Tryz.f114, t1, t2, t3, t4]
  rfl
 have t4 : (decide (225 ≤ c) && decide (c ≤ 239)) = false := by simp; omega
 by_cases he1 : c = 240
 ·have e : nd c = (3, 144, 191) := by unfold nd; rw [if_neg ha, if_neg hb1, if_neg hc1, if_neg hd1, if_pos he1]
  have t5 : (c == 240) = true := by simp; omega
  rw [e]
  simp only [go_sem, b114, Tryz.f114, t1, t2, t3, t4, t5]
  rfl
 have t5 : (c == 240) = false := by simp; omega
 by_cases hf1 : 241 ≤ c ∧ c ≤ 243
 ·have e : nd c = (3, 128, 191) := by unfold nd; rw [if_neg ha, if_neg hb1, if_neg hc1, if_neg hd1, if_neg he1, if_pos hf1]
  have t6 : (decide (241 ≤ c) && decide (c ≤ 243)) = true := by simp; omega
  rw [e]
  simp only [go_sem, b114, Tryz.f114, t1, t2, t3, t4, t5, t6]
  rfl
 have t6 : (decide (241 ≤ c) && decide (c ≤ 243)) = false := by simp; omega
 by_cases hg1 : c = 244
 ·have e : nd c = (3, 128, 143) := by unfold nd; rw [if_neg ha, if_neg hb1, if_neg hc1, if_neg hd1, if_neg he1, if_neg hf1, if_pos hg1]
  have t7 : (c == 244) = true := by simp; omega
  rw [e]
  simp only [go_sem, b114, Tryz.f114, t1, t2, t3, t4, t5, t6, t7]
  rfl
 have t7 : (c == 244) = false := by simp; omega
 have e : nd c = (0, 0, 0) := by unfold nd; rw [if_neg ha, if_neg hb1, if_neg hc1, if_neg hd1, if_neg he1, if_neg hf1, if_neg hg1]
 rw [e]
 simp only [go_sem, b114, Tryz.f114, t1, t2, t3, t4, t5, t6, t7]
end Go.Lift.P7
end

section
open Go.Proofs
namespace Go.Lift.P7
variable [MX]
open Utf
set_option maxRecDepth 20000
theorem round92 {lo : Nat} {b : List Int} {h : Heap} {i k n : Nat} {r low high c : Int} (hc : b[i + k]? = some c) (hi : k ≤ n) (hn : n ≤ 3) (hb : b.length ≤ 140737488355328) (hl : i + k < b.length)
  (c0 : 0 ≤ c) (c1 : c ≤ 255) (r0 : 0 ≤ r) (r1 : r ≤ 1000000) (hx : ¬ (c < low ∨ high < c)) :
  evCode ⟨Tryz.prog, E, lo, h.length, h92⟩ loopW l92x0 ([(0, .list .no (ri .u8 b)), (1, .v (.int .i64 i)), (8, .v (.int .i64 n)), (9, .v (.int .u8 low)), (10, .v (.int .u8 high)), (11, .v (.int .i32 r)), (12, .v (.int .i64 k))], h) =
   some (.normal, [(0, .list .no (ri .u8 b)), (1, .v (.int .i64 i)), (8, .v (.int .i64 n)), (9, .v (.int .u8 128)), (10, .v (.int .u8 191)), (11, .v (.int .i32 (r * 64 + c % 64))), (12, .v (.int .i64 (k + 1 : Nat)))], h) := by
 have hd : decide ((k : Int) ≤ n) = true := by simpa using hi
 have hw : IntKind.i64.wrap ((i : Int) + k) = ((i + k : Nat) : Int) := by rw [wrap_i64 (by omega) (by omega)]; omega
 have hw1 : IntKind.i64.wrap ((k : Int) + 1) = ((k + 1 : Nat) : Int) := wrap_succ (by omega)
 have hg : decide ((b.length : Int) ≤ (i + k : Nat)) = false := by simp; omega
 have hx1 : decide (c < low) = false := by simp; omega
 have hx2 : decide (high < c) = false := by simp; omega
 simp only [go_sem, l92x0, b92, Tryz.f92, hd, hc, hw, hw1, hg, hx1, hx2]
 rw [shl6 r0 r1, a63 c0 c1, wrap_u8 (by omega) (by omega), wrap_i32 (n := c % 64) (by omega) (by omega), or64 r0 r1 (by omega) (by omega), wrap_i32 (by omega) (by omega)]
theorem stop92 {lo : Nat} {b : List Int} {h : Heap} {i k n : Nat} {r low high : Int} (hi : k ≤ n) (hn : n ≤ 3) (hb : b.length ≤ 140737488355328) (hib : i ≤ 140737488355328)
  (hs : b.length ≤ i + k ∨ ∃ c, b[i + k]? = some c ∧ i + k < b.length ∧ (c < low ∨ high < c)) :
  evCode ⟨Tryz.prog, E, lo, h.length, h92⟩ loopW l92x0 ([(0, .list .no (ri .u8 b)), (1, .v (.int .i64 i)), (8, .v (.int .i64 n)), (9, .v (.int .u8 low)), (10, .v (.int .u8 high)), (11, .v (.int .i32 r)), (12, .v (.int .i64 k))], h) =
   some (.ret, [(4, .v (.int .i32 65533)), (5, .v (.int .i64 k)), (6, .v (.bool false))], h) := by
 have hd : decide ((k : Int) ≤ n) = true := by simpa using hi
 have hw : IntKind.i64.wrap ((i : Int) + k) = ((i + k : Nat) : Int) := by rw [wrap_i64 (by omega) (by omega)]; omega
 have hw1 : IntKind.i64.wrap ((k : Int) + 1) = ((k + 1 : Nat) : Int) := wrap_succ (by omega)
 rcases hs with hs | ⟨c, hc, hl, hs⟩
 ·have hg : decide ((b.length : Int) ≤ (i + k : Nat)) = true := by simp; omega
  have hc : b[i + k]? = none := List.getElem?_eq_none hs
  simp only [go_sem, l92x0, b92, Tryz.f92, hd, hw, hw1, hg, hc]
 ·have hg : decide ((b.length : Int) ≤ (i + k : Nat)) = false := by simp; omega
  by_cases h1 : c < low
  ·have hx1 : decide (c < low) = true := by simp; omega
   simp only [go_sem, l92x0, b92, Tryz.f92, hd, hc, hw, hw1, hg, hx1]
  ·have hx1 : decide (c < low) = false := by simp; omega
   have hx2 : decide (high < c) = true := by simp; omega
   simp only [go_sem, l92x0, b92, Tryz.f92, hd, hc, hw, hw1, hg, hx1, hx2]
def end92 (b : List Int) (i n : Nat) (x : Int × Nat × Bool) (h : Heap) (z : Ex × St) : Prop :=
 if x.2.2 = true then ∃ low high, z = (.exit 0, [(0, .list .no (ri .u8 b)), (1, .v (.int .i64 i)), (8, .v (.int .i64 n)), (9, .v (.int .u8 low)), (10, .v (.int .u8 high)), (11, .v (.int .i32 x.1)), (12, .v (.int .i64 (n + 1 : Nat))), (37, .v (.bool false))], h)
 else z = (.ret, [(4, .v (.int .i32 x.1)), (5, .v (.int .i64 x.2.1)), (6, .v (.bool false))], h)
theorem loop92 {lo : Nat} {b : List Int} {h : Heap} {i n : Nat} (hn : n ≤ 3) (hb : b.length ≤ 140737488355328) (hib : i ≤ 140737488355328) (hy : By b) : ∀ (m k : Nat) (r low high : Int), k + m = n + 1 → 0 ≤ r → (r + 1) * 64 ^ m ≤ 64000000 →
  ∃ z, loopW (evCode ⟨Tryz.prog, E, lo, h.length, h92⟩ loopW l92x0) ([(0, .list .no (ri .u8 b)), (1, .v (.int .i64 i)), (8, .v (.int .i64 n)), (9, .v (.int .u8 low)), (10, .v (.int .u8 high)), (11, .v (.int .i32 r)), (12, .v (.int .i64 k))], h) = some z
   ∧ end92 b i n (more m r low high k (b.drop (i + k))) h z := by
 intro m
 induction m with
 | zero =>
  intro k r low high hm h0 h1
  obtain rfl : k = n + 1 := by omega
  have hd : decide (((n + 1 : Nat) : Int) ≤ n) = false := by simp; omega
  rw [loop_eq]
  simp only [go_sem, l92x0, b92, Tryz.f92, hd]
  exact ⟨_, rfl, low, high, rfl⟩
 | succ m ih =>
  intro k r low high hm h0 h1
  have hlt : k ≤ n := by omega
  rw [loop_eq]
  by_cases hl : i + k < b.length
  ·have hc : b[i + k]? = some b[i + k] := List.getElem?_eq_getElem hl
   have hcy := hy b[i + k] (List.getElem_mem hl)
   rw [List.drop_eq_getElem_cons hl]
   by_cases hx : b[i + k] < low ∨ high < b[i + k]
   ·rw [stop92 hlt hn hb hib (.inr ⟨_, hc, hl, hx⟩), loop_r]
    exact ⟨_, rfl, by simp only [more, if_pos hx]; rfl⟩
   ·rw [Int.pow_succ] at h1
    have hp : (1 : Int) ≤ 64 ^ m := Int.pow_pos (by omega)
    have hr : (r + 1) * 64 * 64 ^ m = (r + 1) * (64 ^ m * 64) := by rw [Int.mul_assoc, Int.mul_comm 64]
    have h2 : (r + 1) * 64 * 1 ≤ (r + 1) * 64 * 64 ^ m := Int.mul_le_mul_of_nonneg_left hp (by omega)
    have h3 : (r * 64 + b[i + k] % 64 + 1) * 64 ^ m ≤ (r + 1) * 64 * 64 ^ m := Int.mul_le_mul_of_nonneg_right (by omega) (by omega)
    rw [round92 hc hlt hn hb hl hcy.1 hcy.2 h0 (by omega) hx, loop_n]
    have := ih (k + 1) (r * 64 + b[i + k] % 64) 128 191 (by omega) (by omega) (by omega)
    simpa only [more, if_neg hx, ← Nat.add_assoc] using this
  ·have hs : b.length ≤ i + k := by omega
   rw [stop92 hlt hn hb hib (.inl hs), loop_r, List.drop_eq_nil_of_le hs]
   exact ⟨_, rfl, rfl⟩
def three (x : Int × Nat × Bool) : V := .tup [.v (.int .i32 x.1), .v (.int .i64 x.2.1), .v (.bool x.2.2)]
theorem f92 {lo : Nat} {b : List Int} {i : Nat} {h : Heap} (hi : i < b.length) (hb : b.length ≤ 140737488355328) (hy : By b) :
  E lo 92 [.list .no (ri .u8 b), .v (.int .i64 i)] h = some (three (one (b.drop i)), h) := by
 have hx : b[i]? = some b[i] := List.getElem?_eq_getElem hi
 have hcy := hy b[i] (List.getElem_mem hi)
 rw [List.drop_eq_getElem_cons hi]
 generalize hc : b[i] = c at hx hcy
 simp only [one]
 by_cases h0 : c < 128
 ·rw [if_pos h0]
  have t0 : decide (c < 128) = true := by simp; omega
  have hm : IntKind.i32.wrap c = c := wrap_i32 (by omega) (by omega)
  rw [e92 (by simp) (by rfl)]
  simp only [go_sem, b92, Tryz.f92, hx, t0, hm]
  rfl
 rw [if_neg h0]
 have t0 : decide (c < 128) = false := by simp; omega
 by_cases hz : (nd c).1 = 0
 ·rw [if_pos hz]
  have t1 : (((nd c).1 : Int) == 0) = true := by simp; omega
  rw [e92 (by simp) (by rfl)]
  simp only [go_sem, b92, Tryz.f92, hx, t0, f114 hcy.1 hcy.2, t1]
  rfl
 rw [if_neg hz]
 have hn := nd_le c
 have t1 : (((nd c).1 : Int) == 0) = false := by simp; omega
 have hm : IntKind.i32.wrap (iand .i32 (IntKind.i32.wrap c) (ishr .i32 63 (IntKind.u64.wrap (nd c).1))) = c % 2 ^ (6 - (nd c).1) := by
  rw [wrap_i32 (n := c) (by omega) (by omega)]
  have : (nd c).1 = 1 ∨ (nd c).1 = 2 ∨ (nd c).1 = 3 := by omega
  rcases this with h | h | h <;> rw [h]
  ·show IntKind.i32.wrap (iand .i32 c 31) = c % 32
   rw [Utf.c31 hcy.1 hcy.2, wrap_i32 (by omega) (by omega)]
  ·show IntKind.i32.wrap (iand .i32 c 15) = c % 16
   rw [Utf.c15 hcy.1 hcy.2, wrap_i32 (by omega) (by omega)]
  ·show IntKind.i32.wrap (iand .i32 c 7) = c % 8
   rw [Utf.c7 hcy.1 hcy.2, wrap_i32 (by omega) (by omega)]
 have hr : 0 ≤ c % 2 ^ (6 - (nd c).1) ∧ (c % 2 ^ (6 - (nd c).1) + 1) * 64 ^ (nd c).1 ≤ 64000000 := by
  have : (nd c).1 = 1 ∨ (nd c).1 = 2 ∨ (nd c).1 = 3 := by omega
  rcases this with h | h | h <;> rw [h]
  ·show 0 ≤ c % 32 ∧ (c % 32 + 1) * 64 ≤ 64000000; omega
  ·show 0 ≤ c % 16 ∧ (c % 16 + 1) * 4096 ≤ 64000000; omega
  ·show 0 ≤ c % 8 ∧ (c % 8 + 1) * 262144 ≤ 64000000; omega
 have ht : b.drop (i + 1) = b.drop (i + 1) := rfl
 obtain ⟨z, hL, hz⟩ := loop92 (lo := lo) (b := b) (h := h) (i := i) hn hb (by omega) hy (nd c).1 1 (c % 2 ^ (6 - (nd c).1)) (nd c).2.1 (nd c).2.2 (by omega) hr.1 hr.2
 have n1 : ((1 : Nat) : Int) = 1 := rfl
 have hg : decide (0 ≤ IntKind.u64.wrap ((nd c).1 : Int)) = true := by
  have : (nd c).1 = 1 ∨ (nd c).1 = 2 ∨ (nd c).1 = 3 := by omega
  rcases this with h | h | h <;> rw [h] <;> rfl
 have hg' : 0 ≤ IntKind.u64.wrap ((nd c).1 : Int) := of_decide_eq_true hg
 have hw1 : IntKind.i64.wrap (((nd c).1 : Int) + 1) = (((nd c).1 + 1 : Nat) : Int) := wrap_succ (by omega)
 simp only [l92x0, b92, Tryz.f92, loopAt, loops, bodyOf, go_sem, n1] at hL
 rw [e92 (by simp) (by rfl)]
 unfold end92 at hz
 split at hz
 ·rename_i hk
  obtain ⟨low, high, rfl⟩ := hz
  simp only [go_sem, b92, Tryz.f92, hx, t0, t1, f114 hcy.1 hcy.2, hm, hL, hg, hg', hw1]
  rw [three, more_snd _ _ _ _ _ _ hk, hk, Nat.add_comm 1]
 ·rename_i hk
  subst hz
  simp only [go_sem, b92, Tryz.f92, hx, t0, t1, f114 hcy.1 hcy.2, hm, hL, hg, hg', hw1]
  simp only [three, Bool.not_eq_true] at hk ⊢
  rw [hk]
end Go.Lift.P7
end

section
open Go.Proofs
namespace Go.Lift.P7
variable [MX]
open Utf
set_option maxRecDepth 20000
theorem f87n {lo : Nat} {b : List Int} {h : Heap} (hn : b ≠ []) (hb : b.length ≤ 140737488355328) (hy : By b) : E lo 87 [.list .no (ri .u8 b)] h = some (two (one b), h) := by
 cases b with
 | nil => exact absurd rfl hn
 | cons c t => exact f87 hb hy
theorem round67 {lo i : Nat} {b out : List Int} {h : Heap} (hi : i < b.length) (hb : b.length ≤ 1000000000) (ho : out.length ≤ 1000000000) (hy : By b) :
  evCode ⟨Tryz.prog, E, lo, h.length, h67⟩ loopW l67x0 ([(0, .list .no (ri .u8 b)), (3, .list .yes (ri .i32 out)), (4, .v (.int .i64 i))], h) =
   some (.normal, [(0, .list .no (ri .u8 b)), (3, .list .yes (ri .i32 (out ++ [(one (b.drop i)).1]))), (4, .v (.int .i64 (i + (one (b.drop i)).2.1 : Nat)))], h) := by
 have hd : decide ((i : Int) < b.length) = true := by simpa using hi
 have hn : b.drop i ≠ [] := by simp; omega
 have hk := one_b hn
 have hw : IntKind.i64.wrap ((i : Int) + (one (b.drop i)).2.1) = ((i + (one (b.drop i)).2.1 : Nat) : Int) := by rw [wrap_i64 (by omega) (by omega)]; omega
 have hr : ∀ k, k ≤ 4 → (out.length + k) * 4 ≤ 140737488355328 := by intro k hk; omega
 have hq : ∀ k, 9223372036854775800 ≤ k → out.length ≤ k := by intro k hk; omega
 have e1 : ri .i32 (out ++ [(one (b.drop i)).1]) = ri .i32 out ++ [[V.v (.int .i32 (one (b.drop i)).1)]] := by rw [← ri_app]; rfl
 simp only [go_sem, l67x0, b67, Tryz.f67, hd, f92 hi (by omega) hy, three, hr, hq, hw, e1]
theorem loop67 {lo : Nat} {b : List Int} {h : Heap} (hb : b.length ≤ 1000000000) (hy : By b) : ∀ (n i : Nat) (out : List Int), b.length - i ≤ n → i ≤ b.length → out.length ≤ i →
  loopW (evCode ⟨Tryz.prog, E, lo, h.length, h67⟩ loopW l67x0) ([(0, .list .no (ri .u8 b)), (3, .list .yes (ri .i32 out)), (4, .v (.int .i64 i))], h) =
   some (.exit 0, [(0, .list .no (ri .u8 b)), (3, .list .yes (ri .i32 (out ++ raw (b.drop i)))), (4, .v (.int .i64 b.length)), (11, .v (.bool false))], h) := by
 have stop : ∀ (i : Nat) (out : List Int), i = b.length → loopW (evCode ⟨Tryz.prog, E, lo, h.length, h67⟩ loopW l67x0) ([(0, .list .no (ri .u8 b)), (3, .list .yes (ri .i32 out)), (4, .v (.int .i64 i))], h) =
   some (.exit 0, [(0, .list .no (ri .u8 b)), (3, .list .yes (ri .i32 (out ++ raw (b.drop i)))), (4, .v (.int .i64 b.length)), (11, .v (.bool false))], h) := by
  intro i out hi
  subst hi
  have hd : decide ((b.length : Int) < b.length) = false := by simp
  rw [loop_eq]
  simp only [go_sem, l67x0, b67, Tryz.f67, hd, List.drop_length, raw_nil]
 intro n
 induction n with
 | zero => intro i out h1 h2 h3; exact stop i out (by omega)
 | succ n ih =>
  intro i out h1 h2 h3
  by_cases hi : i < b.length
  ·have hn : b.drop i ≠ [] := by simp; omega
   have hk := one_b hn
   rw [List.length_drop] at hk
   rw [loop_eq, round67 hi hb (by omega) hy, loop_n, ih _ _ (by omega) (by omega) (by rw [List.length_append, List.length_singleton]; omega), raw_b hn, List.append_assoc, List.drop_drop]
   rfl
  ·exact stop i out (by omega)
theorem f67 {lo : Nat} {b : List Int} {h : Heap} (hb : b.length ≤ 1000000000) (hy : By b) : E lo 67 [.list .no (ri .u8 b)] h = some (.list .no (ri .i32 (raw b)), h) := by
 rw [e67 (by simp) (by rfl)]
 have hL := loop67 (lo := lo) (h := h) hb hy b.length 0 [] (by omega) (by omega) (by simp)
 simp only [l67x0, b67, Tryz.f67, loopAt, loops, bodyOf, go_sem, ri_nil, List.drop_zero] at hL
 simp only [go_sem, b67, Tryz.f67, hL]
end Go.Lift.P7
end

section
open Go.Proofs
namespace Go.Lift.P7
variable [MX]
open Utf
set_option maxRecDepth 20000
theorem round68 {lo i : Nat} {b : List Int} {h : Heap} (hi : i < b.length) (hb : b.length ≤ 140737488355328) (hy : By b) :
  evCode ⟨Tryz.prog, E, lo, h.length, h68⟩ loopW l68x0 ([(0, .list .no (ri .u8 b)), (3, .v (.int .i64 i))], h) =
   if (one (b.drop i)).2.2 = true then some (.normal, [(0, .list .no (ri .u8 b)), (3, .v (.int .i64 (i + (one (b.drop i)).2.1 : Nat)))], h)
   else some (.ret, [(2, .v (.bool false))], h) := by
 have hd : decide ((i : Int) < b.length) = true := by simpa using hi
 have hn : b.drop i ≠ [] := by simp; omega
 have hk := one_b hn
 have hw : IntKind.i64.wrap ((i : Int) + (one (b.drop i)).2.1) = ((i + (one (b.drop i)).2.1 : Nat) : Int) := by rw [wrap_i64 (by omega) (by omega)]; omega
 cases hx : (one (b.drop i)).2.2 with
 | true => simp only [go_sem, l68x0, b68, Tryz.f68, hd, f92 hi hb hy, three, hw, hx]
 | false => simp only [go_sem, l68x0, b68, Tryz.f68, hd, f92 hi hb hy, three, hw, hx, Bool.false_eq_true]
theorem loop68 {lo : Nat} {b : List Int} {h : Heap} (hb : b.length ≤ 140737488355328) (hy : By b) : ∀ (n i : Nat), b.length - i ≤ n → i ≤ b.length →
  loopW (evCode ⟨Tryz.prog, E, lo, h.length, h68⟩ loopW l68x0) ([(0, .list .no (ri .u8 b)), (3, .v (.int .i64 i))], h) =
   if whole (b.drop i) = true then some (.exit 0, [(0, .list .no (ri .u8 b)), (3, .v (.int .i64 b.length)), (10, .v (.bool false))], h)
   else some (.ret, [(2, .v (.bool false))], h) := by
 have stop : ∀ (i : Nat), i = b.length → loopW (evCode ⟨Tryz.prog, E, lo, h.length, h68⟩ loopW l68x0) ([(0, .list .no (ri .u8 b)), (3, .v (.int .i64 i))], h) =
   if whole (b.drop i) = true then some (.exit 0, [(0, .list .no (ri .u8 b)), (3, .v (.int .i64 b.length)), (10, .v (.bool false))], h)
   else some (.ret, [(2, .v (.bool false))], h) := by
  intro i hi
  subst hi
  have hd : decide ((b.length : Int) < b.length) = false := by simp
  rw [loop_eq]
  simp only [go_sem, l68x0, b68, Tryz.f68, hd, List.drop_length, whole_nil]
 intro n
 induction n with
 | zero => intro i h1 h2; exact stop i (by omega)
 | succ n ih =>
  intro i h1 h2
  by_cases hi : i < b.length
  ·have hn : b.drop i ≠ [] := by simp; omega
   have hk := one_b hn
   rw [List.length_drop] at hk
   rw [loop_eq, round68 hi hb hy, whole_b hn, List.drop_drop]
   cases hx : (one (b.drop i)).2.2 with
   | true => rw [if_pos rfl, loop_n, ih _ (by omega) (by omega), Bool.true_and]
   | false => rw [if_neg (by simp), loop_r]; rfl
  ·exact stop i (by omega)
theorem f68 {lo : Nat} {b : List Int} {h : Heap} (hb : b.length ≤ 140737488355328) (hy : By b) : E lo 68 [.list .no (ri .u8 b)] h = some (.v (.bool (whole b)), h) := by
 rw [e68 (by simp) (by rfl)]
 have hL := loop68 (lo := lo) (h := h) hb hy b.length 0 (by omega) (by omega)
 simp only [l68x0, b68, Tryz.f68, loopAt, loops, bodyOf, go_sem, ri_nil, List.drop_zero] at hL
 cases hx : whole b with
 | true =>
  rw [if_pos hx] at hL
  simp only [go_sem, b68, Tryz.f68, hL]
 | false =>
  rw [if_neg (by simp [hx])] at hL
  simp only [go_sem, b68, Tryz.f68, hL]
theorem round59 {lo : Nat} {b : List Int} {h : Heap} (hn : b ≠ []) (hb : b.length ≤ 140737488355328) (hy : By b) :
  evCode ⟨Tryz.prog, E, lo, h.length, h59⟩ loopW l59x0 ([(0, .list .no (ri .u8 b))], h) =
   if bad b = true then some (.ret, [(2, .v (.bool false))], h) else some (.normal, [(0, .list .no (ri .u8 (b.drop (one b).2.1)))], h) := by
 have hl : 0 < b.length := List.length_pos_iff.mpr hn
 have hd : decide ((0 : Int) < b.length) = true := by simpa using hl
 have hk := (one_b hn).2.2
 have hs : 0 ≤ ((one b).2.1 : Int) := by omega
 have fin : ∀ {v : Bool}, (bad b = v) → (v = (bad b)) := fun h => h.symm
 cases h1 : (one b).1 == 65533 with
 | false =>
  have hv : bad b = false := by simp [bad, h1]
  simp only [go_sem, l59x0, b59, Tryz.f59, hd, f87n hn hb hy, two, hs, hk, Nat.le_refl, ri_drop, ri_take, Int.toNat_natCast, and_self, h1, hv, Bool.false_eq_true]
 | true =>
  by_cases h3 : (one b).2.1 < 3
  ·have hv : bad b = true := by simp [bad, h1, h3]
   have h4 : decide (((one b).2.1 : Int) < 3) = true := by simp; omega
   simp only [go_sem, l59x0, b59, Tryz.f59, hd, f87n hn hb hy, two, hs, hk, Nat.le_refl, ri_drop, ri_take, Int.toNat_natCast, and_self, h1, hv, h4]
  ·have h4 : decide (((one b).2.1 : Int) < 3) = false := by simp; omega
   obtain ⟨a1, a2, a3, t, he⟩ : ∃ a1 a2 a3 t, b = a1 :: a2 :: a3 :: t := by
    match b, hk with
    | [], hk => simp at hk; omega
    | [_], hk => simp at hk; omega
    | [_, _], hk => simp at hk; omega
    | a1 :: a2 :: a3 :: t, _ => exact ⟨_, _, _, _, rfl⟩
   have x1 : b[0]? = some a1 := by rw [he]; rfl
   have x2 : b[1]? = some a2 := by rw [he]; rfl
   have x3 : b[2]? = some a3 := by rw [he]; rfl
   have hv : bad b = (a1 != 239 || (a2 != 191 || a3 != 189)) := by
    have ht : isRep b = (a1 == 239 && (a2 == 191 && a3 == 189)) := by rw [he]; simp [isRep]
    simp only [bad, h1, h3, ht, decide_false, Bool.true_and, Bool.false_or, bne, Bool.not_and]
   clear he
   rw [hv]
   cases g1 : a1 != 239 with
   | true => simp only [go_sem, l59x0, b59, Tryz.f59, hd, f87n hn hb hy, two, hs, hk, Nat.le_refl, ri_drop, ri_take, Int.toNat_natCast, and_self, h1, h4, x1, x2, x3, g1]
   | false =>
    cases g2 : a2 != 191 with
    | true => simp only [go_sem, l59x0, b59, Tryz.f59, hd, f87n hn hb hy, two, hs, hk, Nat.le_refl, ri_drop, ri_take, Int.toNat_natCast, and_self, h1, h4, x1, x2, x3, g1, g2]
    | false =>
     cases g3 : a3 != 189 with
     | true => simp only [go_sem, l59x0, b59, Tryz.f59, hd, f87n hn hb hy, two, hs, hk, Nat.le_refl, ri_drop, ri_take, Int.toNat_natCast, and_self, h1, h4, x1, x2, x3, g1, g2, g3]
     | false => simp only [go_sem, l59x0, b59, Tryz.f59, hd, f87n hn hb hy, two, hs, hk, Nat.le_refl, ri_drop, ri_take, Int.toNat_natCast, and_self, h1, h4, x1, x2, x3, g1, g2, g3, Bool.false_eq_true]
theorem loop59 {lo : Nat} {h : Heap} : ∀ (n : Nat) (b : List Int), b.length ≤ n → b.length ≤ 140737488355328 → By b →
  loopW (evCode ⟨Tryz.prog, E, lo, h.length, h59⟩ loopW l59x0) ([(0, .list .no (ri .u8 b))], h) =
   if whole b = true then some (.exit 0, [(0, .list .no []), (7, .v (.bool false))], h) else some (.ret, [(2, .v (.bool false))], h) := by
 have stop : loopW (evCode ⟨Tryz.prog, E, lo, h.length, h59⟩ loopW l59x0) ([(0, .list .no (ri .u8 []))], h) =
   if whole [] = true then some (.exit 0, [(0, .list .no []), (7, .v (.bool false))], h) else some (.ret, [(2, .v (.bool false))], h) := by
  rw [loop_eq]
  simp only [go_sem, l59x0, b59, Tryz.f59, whole_nil, ri_nil, List.length_nil]
  all_goals rfl
 intro n
 induction n with
 | zero =>
  intro b h1 h2 hy
  obtain rfl : b = [] := List.eq_nil_of_length_eq_zero (by omega)
  exact stop
 | succ n ih =>
  intro b h1 h2 hy
  by_cases hn : b = []
  ·subst hn; exact stop
  ·have hk := one_b hn
   have hlen : (b.drop (one b).2.1).length = b.length - (one b).2.1 := List.length_drop
   rw [loop_eq, round59 hn h2 hy, bad_eq hy hn, whole_b hn]
   cases hx : (one b).2.2 with
   | true => rw [if_neg (by simp), loop_n, ih _ (by omega) (by omega) (hy.drop _), Bool.true_and]
   | false => rw [if_pos (by simp), loop_r]; rfl
theorem f59 {lo : Nat} {b : List Int} {h : Heap} (hb : b.length ≤ 140737488355328) (hy : By b) : E lo 59 [.list .no (ri .u8 b)] h = some (.v (.bool (whole b)), h) := by
 rw [e59 (by simp) (by rfl)]
 have hL := loop59 (lo := lo) (h := h) b.length b (Nat.le_refl _) hb hy
 simp only [l59x0, b59, Tryz.f59, loopAt, loops, bodyOf, go_sem, ri_nil, List.drop_zero] at hL
 cases hx : whole b with
 | true =>
  rw [if_pos hx] at hL
  simp only [go_sem, b59, Tryz.f59, hL]
 | false =>
  rw [if_neg (by simp [hx])] at hL
  simp only [go_sem, b59, Tryz.f59, hL]
end Go.Lift.P7
end

section
open Go.Proofs
namespace Go.Lift.P7
variable [MX]
open Utf Tok Spell
set_option maxRecDepth 20000
set_option maxHeartbeats 4000000
section
variable {lo : Nat} {h : Heap}
theorem f72 {x : Int} : E lo 72 [.v (.int .i32 x)] h = some (.v (.bool (dig x)), h) := by
 unfold dig
 rw [e72 (by simp) (by rfl)]
 cases q : decide (48 ≤ x) with
 | true =>
  simp only [go_sem, b72, Tryz.f72, q]
  all_goals rfl
 | false =>
  simp only [go_sem, b72, Tryz.f72, q]
  all_goals rfl
theorem f61 {x : Int} : E lo 61 [.v (.int .i32 x)] h = some (.v (.bool (dig x)), h) := by
 unfold dig
 rw [e61 (by simp) (by rfl)]
 cases q : decide (48 ≤ x) with
 | true =>
  simp only [go_sem, b61, Tryz.f61, q]
  all_goals rfl
 | false =>
  simp only [go_sem, b61, Tryz.f61, q]
  all_goals rfl
theorem bs_0 : (⟨#[0]⟩ : ByteArray) = bs [0] := rfl
theorem f48 {l : List Int} (hy : By l) (hl : l.length ≤ 1000000000) : E lo 48 [.v (.string (bs l))] h = some (.v (.bool (sound l)), h) := by
 unfold sound
 have k1 := fun lo h => f59 (lo := lo) (h := h) (b := l) (by omega) hy
 have k2 := fun lo h => f60 (lo := lo) (h := h) hy (c := 0) (by omega) (by omega)
 rw [e48 (by simp) (by rfl)]
 cases q : whole l with
 | true =>
  rw [q] at k1
  simp only [go_sem, b48, Tryz.f48, bytes_bs hy, k1, bs_0, k2]
  all_goals rfl
 | false =>
  rw [q] at k1
  simp only [go_sem, b48, Tryz.f48, bytes_bs hy, k1]
  all_goals rfl
theorem u8s_inj : ∀ {a b : List Int}, By a → By b → u8s a = u8s b → a = b
 | [], [], _, _, _ => rfl
 | [], y :: b, _, _, h => by cases h
 | x :: a, [], _, _, h => by cases h
 | x :: a, y :: b, ha, hb, h => by
  simp only [u8s, List.map_cons, List.cons.injEq] at h
  have hx := ha x (by simp)
  have hy := hb y (by simp)
  have e : x = y := by
   have := congrArg UInt8.toNat h.1
   simp only [UInt8.toNat_ofNat'] at this
   omega
  rw [e, u8s_inj (fun c hc => ha c (by simp [hc])) (fun c hc => hb c (by simp [hc])) h.2]
theorem bs_beq {a b : List Int} (ha : By a) (hb : By b) : ((bs a).toList == (bs b).toList) = (a == b) := by
 rw [bs_list, bs_list, Bool.eq_iff_iff, beq_iff_eq, beq_iff_eq]
 exact ⟨u8s_inj ha hb, fun h => by rw [h]⟩
theorem by_45 : By [45] := fun x hx => by simp at hx; omega
theorem wrap_i32 {x : Int} (h0 : 0 ≤ x) (h1 : x ≤ 255) : IntKind.i32.wrap x = x := by
 simp only [IntKind.wrap, IntKind.signed, IntKind.bits]
 simp
 omega
theorem bs_45' : (⟨#[45]⟩ : ByteArray) = bs [45] := rfl
theorem f49 {l : List Int} (hy : By l) (hl : l.length ≤ 1000000000) : E lo 49 [.v (.string (bs l))] h = some (.v (.bool (looseT l)), h) := by
 rw [e49 (by simp) (by rfl)]
 have hb := bs_beq hy by_45
 have sz := bs_size l
 have t1 := bs_nil_eq' l
 match l, hy with
 | [], hy =>
  have q : decide ((1 : Int) < (0 : Nat)) = false := rfl
  rw [decide_eq_true rfl] at t1
  have hb2 : (([] : List Int) == [45]) = false := rfl
  rw [hb2] at hb
  simp only [go_sem, b49, Tryz.f49, sz, t1, bs_45', hb, q, List.length_nil]
  all_goals rfl
 | [x], hy =>
  have q : decide ((1 : Int) < (1 : Nat)) = false := rfl
  rw [decide_eq_false (by simp)] at t1
  have hx := hy x (by simp)
  have hc : ([x])[0]? = some x := rfl
  have hi := bs_ix hy 0
  rw [hc] at hi
  have w := wrap_i32 hx.1 hx.2
  have hb2 : ([x] == [45]) = (x == 45) := by simp
  rw [hb2] at hb
  have sz1 : (bs [x]).size = 1 := sz
  unfold looseT
  cases qd : dig x with
  | true =>
   have k := fun lo h => f72 (lo := lo) (h := h) (x := x)
   rw [qd] at k
   simp only [go_sem, b49, Tryz.f49, sz1, t1, hi, w, k, q]
   all_goals simp [qd]
  | false =>
   have k := fun lo h => f72 (lo := lo) (h := h) (x := x)
   rw [qd] at k
   cases qx : (x == 45) with
   | true =>
    rw [qx] at hb
    simp only [go_sem, b49, Tryz.f49, sz1, t1, hi, w, k, q, bs_45', hb]
    all_goals simp [qd, qx]
   | false =>
    rw [qx] at hb
    simp only [go_sem, b49, Tryz.f49, sz1, t1, hi, w, k, q, bs_45', hb]
    all_goals simp [qd, qx]
 | x :: y :: u, hy =>
  have q : decide ((1 : Int) < ((x :: y :: u).length : Nat)) = true := by simp; omega
  rw [decide_eq_false (by simp)] at t1
  have hx := hy x (by simp)
  have hy1 := hy y (by simp)
  have hc : (x :: y :: u)[0]? = some x := rfl
  have hc1 : (x :: y :: u)[1]? = some y := rfl
  have hi := bs_ix hy 0
  have hi1 := bs_ix hy 1
  rw [hc] at hi
  rw [hc1] at hi1
  have w := wrap_i32 hx.1 hx.2
  have w1 := wrap_i32 hy1.1 hy1.2
  have hb2 : ((x :: y :: u) == [45]) = false := by simp
  rw [hb2] at hb
  have k := fun lo h => f72 (lo := lo) (h := h) (x := x)
  have k1 := fun lo h => f72 (lo := lo) (h := h) (x := y)
  unfold looseT
  simp only
  generalize x :: y :: u = l at *
  cases qd : dig x with
  | true =>
   rw [qd] at k
   simp only [go_sem, b49, Tryz.f49, sz, t1, hi, w, k, q]
   all_goals simp [qd]
  | false =>
   rw [qd] at k
   cases qx : (x == 45) with
   | true =>
    simp only [go_sem, b49, Tryz.f49, sz, t1, hi, hi1, w, w1, k, k1, q, qx, bs_45', hb]
    all_goals simp [qd, qx]
   | false =>
    simp only [go_sem, b49, Tryz.f49, sz, t1, hi, hi1, w, w1, k, k1, q, qx, bs_45', hb]
    all_goals simp [qd, qx]
end
end Go.Lift.P7
end

section
open Go.Proofs
namespace Go.Lift.P7
variable [MX]
open Utf Tok Spell
set_option maxRecDepth 20000
set_option maxHeartbeats 4000000
section
variable {lo : Nat} {h : Heap}
theorem bs_signs : (⟨#[35, 36, 37, 38, 42, 43, 45, 46, 47, 60, 61, 62, 63, 64, 92, 94, 96, 124, 126, 33]⟩ : ByteArray) = bs signs := rfl
theorem by_signs : By signs := by decide
def ctl (c : Int) : Bool := decide (1 ≤ c) && decide (c ≤ 8) || c == 11 || decide (14 ≤ c) && decide (c ≤ 31) || c == 127
theorem ctl_cases (c : Int) : (decide (1 ≤ c) = true ∧ decide (c ≤ 8) = true) ∨ c = 11 ∨ (c = 9 ∨ c = 10 ∨ c = 12 ∨ c = 13) ∨ (decide (1 ≤ c) = true ∧ decide (c ≤ 8) = false ∧ (c == 11) = false ∧ decide (14 ≤ c) = true) ∨
  (decide (1 ≤ c) = false ∧ (c == 11) = false ∧ decide (14 ≤ c) = false ∧ (c == 127) = false) := by
 simp
 omega
theorem f50 {l : List Int} (hy : By l) (hl : l.length ≤ 1000000000) : E lo 50 [.v (.string (bs l))] h = some (.v (.bool (signT l)), h) := by
 rw [e50 (by simp) (by rfl)]
 match l, hy with
 | [], hy =>
  have sz : (bs []).size = 0 := rfl
  have q : ((0 : Int) != 1) = true := rfl
  have n0 : ((0 : Nat) : Int) = 0 := rfl
  simp only [go_sem, b50, Tryz.f50, sz, n0, q]
  all_goals rfl
 | x :: y :: u, hy =>
  have sz := bs_size (x :: y :: u)
  have q : (((x :: y :: u).length : Int) != 1) = true := by simp; omega
  rw [← sz] at q
  have e : signT (x :: y :: u) = false := rfl
  rw [e]
  generalize bs (x :: y :: u) = s at *
  simp only [go_sem, b50, Tryz.f50, q]
  all_goals rfl
 | [c], hy =>
  have sz : (bs [c]).size = 1 := bs_size [c]
  have q : ((1 : Int) != 1) = false := rfl
  have n1 : ((1 : Nat) : Int) = 1 := rfl
  have hx := hy c (by simp)
  have hc : ([c])[0]? = some c := rfl
  have hi := bs_ix hy 0
  rw [hc] at hi
  have k := fun lo h => f60 (lo := lo) (h := h) by_signs hx.1 hx.2
  have e : signT [c] = (signs.contains c || ctl c) := rfl
  rw [e]
  unfold ctl
  cases qs : signs.contains c with
  | true =>
   rw [qs] at k
   simp only [go_sem, b50, Tryz.f50, sz, n1, q, hi, bs_signs, k]
   all_goals rfl
  | false =>
   rw [qs] at k
   rcases ctl_cases c with ⟨c1, c8⟩ | rfl | (rfl | rfl | rfl | rfl) | ⟨c1, c8, c11, c14⟩ | ⟨c1, c11, c14, c127⟩
   ·simp only [go_sem, b50, Tryz.f50, sz, n1, q, hi, bs_signs, k, c1, c8]
    all_goals rfl
   ·have d1 : decide ((1 : Int) ≤ 11) = true := rfl
    have d8 : decide ((11 : Int) ≤ 8) = false := rfl
    have d11 : ((11 : Int) == 11) = true := rfl
    simp only [go_sem, b50, Tryz.f50, sz, n1, q, hi, bs_signs, k, d1, d8, d11]
    all_goals rfl
   ·have d1 : decide ((1 : Int) ≤ 9) = true := rfl
    have d8 : decide ((9 : Int) ≤ 8) = false := rfl
    have d11 : ((9 : Int) == 11) = false := rfl
    have d14 : decide ((14 : Int) ≤ 9) = false := rfl
    have d127 : ((9 : Int) == 127) = false := rfl
    simp only [go_sem, b50, Tryz.f50, sz, n1, q, hi, bs_signs, k, d1, d8, d11, d14, d127]
    all_goals rfl
   ·have d1 : decide ((1 : Int) ≤ 10) = true := rfl
    have d8 : decide ((10 : Int) ≤ 8) = false := rfl
    have d11 : ((10 : Int) == 11) = false := rfl
    have d14 : decide ((14 : Int) ≤ 10) = false := rfl
    have d127 : ((10 : Int) == 127) = false := rfl
    simp only [go_sem, b50, Tryz.f50, sz, n1, q, hi, bs_signs, k, d1, d8, d11, d14, d127]
    all_goals rfl
   ·have d1 : decide ((1 : Int) ≤ 12) = true := rfl
    have d8 : decide ((12 : Int) ≤ 8) = false := rfl
    have d11 : ((12 : Int) == 11) = false := rfl
    have d14 : decide ((14 : Int) ≤ 12) = false := rfl
    have d127 : ((12 : Int) == 127) = false := rfl
    simp only [go_sem, b50, Tryz.f50, sz, n1, q, hi, bs_signs, k, d1, d8, d11, d14, d127]
    all_goals rfl
   ·have d1 : decide ((1 : Int) ≤ 13) = true := rfl
    have d8 : decide ((13 : Int) ≤ 8) = false := rfl
    have d11 : ((13 : Int) == 11) = false := rfl
    have d14 : decide ((14 : Int) ≤ 13) = false := rfl
    have d127 : ((13 : Int) == 127) = false := rfl
    simp only [go_sem, b50, Tryz.f50, sz, n1, q, hi, bs_signs, k, d1, d8, d11, d14, d127]
    all_goals rfl
   ·cases c31 : decide (c ≤ 31) with
    | true =>
     simp only [go_sem, b50, Tryz.f50, sz, n1, q, hi, bs_signs, k, c1, c8, c11, c14, c31]
     all_goals rfl
    | false =>
     simp only [go_sem, b50, Tryz.f50, sz, n1, q, hi, bs_signs, k, c1, c8, c11, c14, c31]
     all_goals rfl
   ·simp only [go_sem, b50, Tryz.f50, sz, n1, q, hi, bs_signs, k, c1, c11, c14, c127]
    all_goals simp
    all_goals rfl
theorem loop62 {N : Nat} {c : Int} (hc : 0 ≤ c ∧ c ≤ 255) : ∀ (m k : Nat), k + m = 20 →
  loopW (evCode ⟨Tryz.prog, E, lo, N, h62⟩ loopW l62x0) ([(3, .v (.int .u8 c)), (10, .v (.int .i64 k))], h) =
   if (signs.drop k).contains c = true then some (.ret, [(2, .v (.bool true))], h) else some (.exit 0, [(3, .v (.int .u8 c)), (10, .v (.int .i64 20)), (11, .v (.bool false))], h) := by
 intro m
 induction m with
 | zero =>
  intro k hk
  obtain rfl : k = 20 := by omega
  have q : decide (((20 : Nat) : Int) < 20) = false := rfl
  have n20 : ((20 : Nat) : Int) = 20 := rfl
  have e : (signs.drop 20).contains c = false := rfl
  rw [loop_eq, e, if_neg (by simp)]
  simp only [go_sem, l62x0, b62, Tryz.f62, q, n20, Int.reduceLT, decide_false]
  all_goals rfl
 | succ m ih =>
  intro k hk
  have hlt : k < signs.length := by show k < 20; omega
  have hg : signs[k]? = some signs[k] := List.getElem?_eq_getElem hlt
  have hd : signs.drop k = signs[k] :: signs.drop (k + 1) := List.drop_eq_getElem_cons hlt
  have q : decide ((k : Int) < 20) = true := by simp; omega
  have hi := bs_ix by_signs k
  rw [hg] at hi
  have w1 : IntKind.i64.wrap ((k : Int) + 1) = ((k + 1 : Nat) : Int) := wrap_succ (by omega)
  rw [loop_eq, hd, List.contains_cons]
  generalize signs[k] = x at *
  cases qx : (x == c) with
  | true =>
   have e : (c == x) = true := by rw [beq_iff_eq] at qx ⊢; exact qx.symm
   rw [e, if_pos (by simp)]
   simp only [go_sem, l62x0, b62, Tryz.f62, q, bs_signs, hi, qx]
   all_goals rfl
  | false =>
   have e : (c == x) = false := by rw [beq_eq_false_iff_ne] at qx ⊢; exact fun h => qx h.symm
   rw [e, Bool.false_or]
   have er : evCode ⟨Tryz.prog, E, lo, N, h62⟩ loopW l62x0 ([(3, .v (.int .u8 c)), (10, .v (.int .i64 k))], h) = some (.normal, [(3, .v (.int .u8 c)), (10, .v (.int .i64 (k + 1 : Nat)))], h) := by
    simp only [go_sem, l62x0, b62, Tryz.f62, q, bs_signs, hi, qx, w1]
    all_goals rfl
   rw [er, loop_n, ih (k + 1) (by omega)]
end
end Go.Lift.P7
end
