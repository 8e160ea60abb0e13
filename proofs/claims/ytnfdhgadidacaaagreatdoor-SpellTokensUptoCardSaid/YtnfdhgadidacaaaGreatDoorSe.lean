/- A fraction, the reference. -/
import Derived.Test.YtnfdhgadidacaaaGreatDoorSd
import Derived.Test.YtnfdhgadidacaaaGreatDoorTa
section
/- rat.Plain, whole. -/
open Go.Proofs
namespace Go.Lift.R4
set_option linter.unusedSectionVars false
variable [MX]
open Utf Tok Spell
set_option maxRecDepth 20000
set_option maxHeartbeats 4000000
set_option linter.unusedSimpArgs false
set_option linter.unusedVariables false

section
variable {lo : Nat} {h : Heap}
theorem numText_eq {b w : Bool} {m : Int} {p : Nat} (hw : w = true → p = 0) :
    numText b w m p = if 18 < (core (dgt m)).length then none else some ((if b = true then [45] else []) ++ point (wide m p) p w) := by
  unfold numText point wide
  split
  · rfl
  · cases w with
    | true =>
      obtain rfl := hw rfl
      simp
      rw [List.take_of_length_le (by simp)]
    | false => simp
theorem may_pos {n d : Int} (hm : mayR n d = true) (hd : d ≠ 0) : 1 ≤ d := by
  unfold mayR sureR at hm
  simp only [Bool.or_eq_true, Bool.and_eq_true, beq_iff_eq, decide_eq_true_eq] at hm
  rcases hm with ⟨_, h⟩ | ⟨⟨h, _⟩, _⟩
  · exact absurd h hd
  · exact h
theorem progN_le {n d m : Int} {p : Nat} (h0 : 0 ≤ n) (h1 : n ≤ 9223372036854775808) (hd0 : 1 ≤ d) (hd1 : d ≤ 9223372036854775807) (h : progN n d = some (m, p)) : 0 ≤ m ∧ m ≤ 9223372036854775808 ∧ p ≤ 64 := by
  unfold progN at h
  simp only at h
  split at h
  · have hA : Go.Lib.ctz 64 d.toNat ≤ 64 := by
      have hlow := Go.Lib.ctzFrom_spec 64 d.toNat (by omega) (by omega)
      have hctz : Go.Lib.ctz 64 d.toNat = Go.Lib.ctzFrom 64 d.toNat := by unfold Go.Lib.ctz; rw [if_neg (by omega)]
      rw [← hctz] at hlow
      obtain ⟨_, _, h⟩ := hlow
      omega
    have hB := fv_le 64 (d / 2 ^ Go.Lib.ctz 64 d.toNat)
    generalize Go.Lib.ctz 64 d.toNat = A at *
    generalize (fv 64 (d / 2 ^ A)).1 = B at *
    generalize hM : max A B = M at *
    cases hu : upM 2 (M - A) n with
    | none => rw [hu] at h; cases h
    | some r =>
      rw [hu, Option.bind_some] at h
      obtain ⟨r0, r1⟩ := upM_le (x := 2) (by omega) (by omega) _ _ _ h0 h1 hu
      cases hv : upM 5 (M - B) r with
      | none => rw [hv] at h; cases h
      | some s =>
        rw [hv] at h
        simp only [Option.map_some, Option.some.injEq, Prod.mk.injEq] at h
        obtain ⟨s0, s1⟩ := upM_le (x := 5) (by omega) (by omega) _ _ _ r0 r1 hv
        omega
  · cases h
/-- jalousie/rat.Plain -/
theorem f36 (hlo : lo ≤ h.length) {n d : Int} {w : Bool} (h0 : -9223372036854775808 ≤ n) (h1 : n ≤ 9223372036854775807) (h2 : -9223372036854775808 ≤ d) (h3 : d ≤ 9223372036854775807) :
    E lo 36 [.agg [.v (.int .i64 n), .v (.int .i64 d)], .v (.bool w)] h = some (plainV (plainT n d w), h) := by
  have k1 := fun lo h hlo => f93 (lo := lo) (h := h) h0 h1 h3 hlo
  have k1 := k1 lo (h ++ [.cells [.v (.int .i64 n), .v (.int .i64 d)]]) (by simp; omega)
  rw [e36 (by simp) (by rfl)]
  cases hm : mayR n d with
  | false =>
    have e : plainT n d w = none := by unfold plainT; rw [hm]; rfl
    rw [hm] at k1
    rw [e]
    simp only [go_sem, b36, Tryz.f36, k1, hlo, plainV]
    all_goals rfl
  | true =>
    cases hw : (w && decide (1 < d)) with
    | true =>
      have e : plainT n d w = none := by unfold plainT; rw [hm, hw]; rfl
      rw [hm] at k1
      rw [Bool.and_eq_true] at hw
      obtain ⟨rfl, q⟩ := hw
      rw [e]
      simp only [go_sem, b36, Tryz.f36, k1, hlo, plainV, q]
      all_goals rfl
    | false =>
      by_cases hd : d = 0
      · have e : plainT n d w = some (if w = true then List.replicate 20 57 else [49, 101, 57, 57]) := by unfold plainT; rw [hm, hw, if_neg (by simp), if_pos hd]
        rw [hm] at k1
        rw [e]
        subst hd
        cases w with
        | true =>
          have k2 := fun lo h => f94 (lo := lo) (h := h) (c := 57) (n := 20) (by omega) (by omega)
          have q : ((0 : Int) == 0) = true := rfl
          have q2 : decide ((1 : Int) < 0) = false := rfl
          simp only [go_sem, b36, Tryz.f36, k1, k2, hlo, plainV, q, q2]
          all_goals rfl
        | false =>
          have q : ((0 : Int) == 0) = true := rfl
          simp only [go_sem, b36, Tryz.f36, k1, hlo, plainV, q]
          all_goals rfl
      · have h1d := may_pos hm hd
        obtain ⟨q, a1, a2, pa⟩ := p36a (lo := lo) (h := h) hlo h0 h1 h1d h3 hm hw
        have e : plainT n d w = match progN n.natAbs d with
            | none => none
            | some (m, p) => numText (decide (n < 0)) w m p := by unfold plainT; rw [hm, hw, if_neg (by simp), if_neg hd]; cases progN (n.natAbs : Int) d <;> rfl
        rw [e, pc_in, pc_go _ _ _ _ 0 9]
        unfold X36 at pa
        rw [pa]
        cases hp : progN (n.natAbs : Int) d with
        | none =>
          simp only
          rw [pc_r]
          exact fin36 (x := [])
        | some mp =>
          obtain ⟨m, p⟩ := mp
          obtain ⟨m0, m1, p1⟩ := progN_le (by omega) (by omega) h1d h3 hp
          have hwp : w = true → p = 0 := fun hw1 => by
            subst hw1
            have : d = 1 := by simp at hw; omega
            subst this
            exact prog_one hp
          simp only
          rw [numText_eq hwp, pc_go _ _ _ _ _ 3]
          have pb := p36b (lo := lo) (h := h) hlo (n := n) (d := d) (m := m) (a1 := a1) (a2 := a2) (w := w) (p := p) (q := q) m0 m1 (by omega)
          unfold X36 at pb
          rw [pb]
          by_cases hc : 18 < (core (dgt m)).length
          · rw [if_pos hc, if_pos hc, pc_r]
            exact fin36 (x := [])
          · rw [if_neg hc, if_neg hc, pc_go _ _ _ _ _ 2]
            have pcc := p36c (lo := lo) (h := h) (n := n) (d := d) (m := m) (w := w) (p := p) (q := q) m0 m1 (by omega)
            unfold X36 at pcc
            rw [pcc, pc_go _ _ _ _ _ 2]
            obtain ⟨l1, l2⟩ := wide_len (m := m) (p := p)
            obtain ⟨g1, g2⟩ := dgt_len 19 m m0 (by have : (10 : Int) ^ (19 + 1) = 100000000000000000000 := by decide
                                                   omega)
            obtain ⟨e1, e2, x1, x2, pd⟩ := p36d (lo := lo) (h := h) (T := wide m p) (n := n) (d := d) (w := w) (b := decide ((dgt m).length ≤ p)) (p := p) (q := q) l1 (by omega)
            unfold X36 at pd
            rw [pd, pc_go _ _ _ _ _ 4]
            have pe := p36e (lo := lo) (h := h) (T := point (wide m p) p w) (n := n) (d := d) (q := q) (e1 := e1) (e2 := e2) (by
              unfold point
              split
              · omega
              · simp only [List.length_append, List.length_cons, List.length_take, List.length_drop]
                split <;> simp <;> omega) x1 x2
            unfold X36 at pe
            rw [pe, pc_r, fin36]
            simp only [decide_eq_true_eq]
            rfl
end
end Go.Lift.R4
end

section
/- jalousieref1.Plain: its loops. -/
open Go.Proofs
namespace Go.Lift.R4
set_option linter.unusedSectionVars false
variable [MX]
open Utf Tok Spell
set_option maxRecDepth 20000
set_option maxHeartbeats 4000000
set_option linter.unusedSimpArgs false
set_option linter.unusedVariables false

section
variable {lo : Nat} {h : Heap}
noncomputable abbrev X40 (lo N : Nat) : Cx := ⟨Tryz.prog, E, lo, N, h40⟩
abbrev A40 (w : Bool) (q0 : Nat) (n d p : Int) : Env := [(1, .v (.bool w)), (2, .ptr q0 0), (6, .v (.int .u64 n)), (7, .v (.int .u64 d)), (8, .v (.int .i64 p))]
abbrev bad40 (P : Heap) : Option (Ex × Env × Heap) := some (.ret, [(4, .v (.string ⟨#[]⟩)), (5, .v (.int .i64 1))], P)
theorem loop40a {w : Bool} {q0 N : Nat} {P : Heap} : ∀ (k : Nat) (n d : Int) (p : Nat), 1 ≤ d → d < 2 ^ k → d ≤ 9223372036854775807 → 0 ≤ n → n ≤ 9223372036854775808 → p + k ≤ 1000 →
    loopW (evCode (X40 lo N) loopW l40x0) (A40 w q0 n d p, P) = match refN k n d p with
      | some (m, p') => some (.exit 0, A40 w q0 m 1 p' ++ [(35, .v (.bool false))], P)
      | none => bad40 P := by
  intro k
  induction k with
  | zero => intro n d p h1 h2 _ _ _ _; simp at h2; omega
  | succ k ih =>
    intro n d p h1 h2 h3 h4 h5 h6
    rw [loop_eq]
    simp only [refN]
    have z2 : ¬ ((2 : Int) = 0) := by omega
    have z5 : ¬ ((5 : Int) = 0) := by omega
    have z10 : ¬ ((10 : Int) = 0) := by omega
    by_cases hd : d ≤ 1
    · obtain rfl : d = 1 := by omega
      have q : decide ((1 : Int) < 1) = false := rfl
      rw [if_pos hd]
      simp only [go_sem, l40x0, b40, Tryz.f40, q]
      all_goals rfl
    rw [if_neg hd]
    rw [Int.pow_succ] at h2
    have q : decide ((1 : Int) < d) = true := by simp; omega
    have t2 : d.tmod 2 = d % 2 := Int.tmod_eq_emod_of_nonneg (by omega)
    have t5 : d.tmod 5 = d % 5 := Int.tmod_eq_emod_of_nonneg (by omega)
    have t10 : d.tmod 10 = d % 10 := Int.tmod_eq_emod_of_nonneg (by omega)
    have u2 : d.tdiv 2 = d / 2 := Int.tdiv_eq_ediv_of_nonneg (by omega)
    have u5 : d.tdiv 5 = d / 5 := Int.tdiv_eq_ediv_of_nonneg (by omega)
    have u10 : d.tdiv 10 = d / 10 := Int.tdiv_eq_ediv_of_nonneg (by omega)
    have v2 : IntKind.u64.wrap (d % 2) = d % 2 := wrap_u64 (by omega) (by omega)
    have v5 : IntKind.u64.wrap (d % 5) = d % 5 := wrap_u64 (by omega) (by omega)
    have v10 : IntKind.u64.wrap (d % 10) = d % 10 := wrap_u64 (by omega) (by omega)
    have x2 : IntKind.u64.wrap (d / 2) = d / 2 := wrap_u64 (by omega) (by omega)
    have x5 : IntKind.u64.wrap (d / 5) = d / 5 := wrap_u64 (by omega) (by omega)
    have x10 : IntKind.u64.wrap (d / 10) = d / 10 := wrap_u64 (by omega) (by omega)
    have w1 : IntKind.i64.wrap ((p : Int) + 1) = ((p + 1 : Nat) : Int) := wrap_succ (by omega)
    by_cases hb : d % 2 ≠ 0 ∧ d % 5 ≠ 0
    · have q2 : (d % 2 != 0) = true := by simp [hb.1]
      have q5 : (d % 5 != 0) = true := by simp [hb.2]
      rw [if_pos hb]
      simp only [go_sem, l40x0, b40, Tryz.f40, q, t2, t5, v2, v5, z2, z5, q2, q5]
      all_goals rfl
    rw [if_neg hb]
    by_cases hx : d % 10 = 0
    · have q10 : (d % 10 == 0) = true := by simp [hx]
      have q2 : (d % 2 != 0) = false := by simp; omega
      rw [if_pos hx]
      have er : evCode (X40 lo N) loopW l40x0 (A40 w q0 n d p, P) = some (.normal, A40 w q0 n (d / 10) (p + 1 : Nat), P) := by
        simp only [go_sem, l40x0, b40, Tryz.f40, q, t2, t5, t10, u10, v2, v5, v10, x10, z2, z5, z10, q2, q10, w1]
        all_goals rfl
      rw [er, loop_n, ih n (d / 10) (p + 1) (by omega) (by omega) (by omega) h4 h5 (by omega)]
    rw [if_neg hx]
    have q10 : (d % 10 == 0) = false := by simp [hx]
    unfold big
    by_cases hf : d % 5 = 0
    · have q5 : (d % 5 == 0) = true := by simp [hf]
      have q5n : (d % 5 != 0) = false := by simp [hf]
      have q2 : (d % 2 != 0) = true := by simp; omega
      by_cases hn : 1000000000000000000 ≤ n
      · have qn : decide (1000000000000000000 ≤ n) = true := by simp [hn]
        rw [if_pos hn]
        simp only [go_sem, l40x0, b40, Tryz.f40, q, t2, t5, t10, u5, v2, v5, v10, x5, z2, z5, z10, q2, q5, q5n, q10, w1, qn]
        all_goals rfl
      · have qn : decide (1000000000000000000 ≤ n) = false := by simp; omega
        have wn : IntKind.u64.wrap (n * 2) = n * 2 := wrap_u64 (by omega) (by omega)
        rw [if_neg hn, if_pos hf]
        have er : evCode (X40 lo N) loopW l40x0 (A40 w q0 n d p, P) = some (.normal, A40 w q0 (n * 2) (d / 5) (p + 1 : Nat), P) := by
          simp only [go_sem, l40x0, b40, Tryz.f40, q, t2, t5, t10, u5, v2, v5, v10, x5, z2, z5, z10, q2, q5, q5n, q10, w1, qn, wn]
          all_goals rfl
        rw [er, loop_n, ih (n * 2) (d / 5) (p + 1) (by omega) (by omega) (by omega) (by omega) (by omega) (by omega)]
    · have q5 : (d % 5 == 0) = false := by simp [hf]
      have q2 : (d % 2 != 0) = false := by simp; omega
      by_cases hn : 1000000000000000000 ≤ n
      · have qn : decide (1000000000000000000 ≤ n) = true := by simp [hn]
        rw [if_pos hn]
        simp only [go_sem, l40x0, b40, Tryz.f40, q, t2, t5, t10, u2, v2, v5, v10, x2, z2, z5, z10, q2, q5, q10, w1, qn]
        all_goals rfl
      · have qn : decide (1000000000000000000 ≤ n) = false := by simp; omega
        have wn : IntKind.u64.wrap (n * 5) = n * 5 := wrap_u64 (by omega) (by omega)
        rw [if_neg hn, if_neg hf]
        have er : evCode (X40 lo N) loopW l40x0 (A40 w q0 n d p, P) = some (.normal, A40 w q0 (n * 5) (d / 2) (p + 1 : Nat), P) := by
          simp only [go_sem, l40x0, b40, Tryz.f40, q, t2, t5, t10, u2, v2, v5, v10, x2, z2, z5, z10, q2, q5, q10, w1, qn, wn]
          all_goals rfl
        rw [er, loop_n, ih (n * 5) (d / 2) (p + 1) (by omega) (by omega) (by omega) (by omega) (by omega) (by omega)]
/-- how many digits, without the naughts that end them -/
theorem loop40b {w : Bool} {q0 N : Nat} {P : Heap} {p : Int} {L : List Int} (hy : By L) (hl : L.length ≤ 1000) : ∀ (c : Nat), 1 ≤ c → c ≤ L.length →
    loopW (evCode (X40 lo N) loopW l40x1) ([(1, .v (.bool w)), (2, .ptr q0 0), (8, .v (.int .i64 p)), (10, .v (.string (bs L))), (11, .v (.int .i64 c))], P) =
      some (.exit 2, [(1, .v (.bool w)), (2, .ptr q0 0), (8, .v (.int .i64 p)), (10, .v (.string (bs L))), (11, .v (.int .i64 (max 1 (core (L.take c)).length : Nat))), (75, .v (.bool false))], P) := by
  intro c
  induction c with
  | zero => intro h; omega
  | succ c ih =>
    intro h1 h2
    have ht : L.take (c + 1) = L.take c ++ [L[c]] := List.take_succ_eq_append_getElem h2
    have hc : L[c]? = some L[c] := List.getElem?_eq_getElem h2
    have hle := core_le (L.take (c + 1))
    rw [List.length_take] at hle
    have hi := bs_ix hy c
    rw [hc] at hi
    rw [loop_eq]
    by_cases hc0 : c = 0
    · subst hc0
      have q : decide ((1 : Int) < ((0 + 1 : Nat) : Int)) = false := rfl
      have e : max 1 (core (L.take (0 + 1))).length = 0 + 1 := by omega
      rw [e]
      simp only [go_sem, l40x1, b40, Tryz.f40, q]
      all_goals rfl
    have q : decide ((1 : Int) < ((c + 1 : Nat) : Int)) = true := by simp; omega
    have w1 : IntKind.i64.wrap (((c + 1 : Nat) : Int) - 1) = (c : Int) := by rw [wrap_i64 (by omega) (by omega)]; omega
    rw [ht, core_snoc]
    by_cases hx : L[c] = 48
    · have q2 : (L[c] == 48) = true := by simp [hx]
      rw [if_pos hx]
      have er : evCode (X40 lo N) loopW l40x1 ([(1, .v (.bool w)), (2, .ptr q0 0), (8, .v (.int .i64 p)), (10, .v (.string (bs L))), (11, .v (.int .i64 (c + 1 : Nat)))], P) = some (.normal, [(1, .v (.bool w)), (2, .ptr q0 0), (8, .v (.int .i64 p)), (10, .v (.string (bs L))), (11, .v (.int .i64 c))], P) := by
        simp only [go_sem, l40x1, b40, Tryz.f40, q, w1, hi, q2]
        all_goals rfl
      rw [er, loop_n, ih (by omega) (by omega)]
    · have q2 : (L[c] == 48) = false := by simp [hx]
      have e : max 1 (L.take c ++ [L[c]]).length = c + 1 := by simp; omega
      rw [if_neg hx, e]
      simp only [go_sem, l40x1, b40, Tryz.f40, q, w1, hi, q2]
      all_goals rfl
/-- naughts ahead -/
theorem loop40c {w : Bool} {q0 N : Nat} {P : Heap} {p : Nat} (hp : p ≤ 1000) : ∀ (m : Nat) (T : List Int) (v : V), p + 1 - T.length = m → T.length ≤ 2000 →
    loopW (evCode (X40 lo N) loopW l40x2) ([(1, .v (.bool w)), (2, .ptr q0 0), (8, .v (.int .i64 p)), (10, .v (.string (bs T))), (79, v)], P) =
      some (.exit 4, [(1, .v (.bool w)), (2, .ptr q0 0), (8, .v (.int .i64 p)), (10, .v (.string (bs (List.replicate m 48 ++ T)))), (83, .v (.bool false))], P) := by
  intro m
  induction m with
  | zero =>
    intro T v h1 h2
    have q : decide ((T.length : Int) ≤ (p : Int)) = false := by simp; omega
    have sz := bs_size T
    rw [loop_eq]
    simp only [go_sem, l40x2, b40, Tryz.f40, sz, q]
    all_goals rfl
  | succ m ih =>
    intro T v h1 h2
    have q : decide ((T.length : Int) ≤ (p : Int)) = true := by simp; omega
    have sz := bs_size T
    have z1 : (bs [48]).size + (bs T).size ≤ 9223372036854775807 := by rw [bs_size, bs_size]; simp; omega
    rw [sz] at z1
    have er : evCode (X40 lo N) loopW l40x2 ([(1, .v (.bool w)), (2, .ptr q0 0), (8, .v (.int .i64 p)), (10, .v (.string (bs T))), (79, v)], P) = some (.normal, [(1, .v (.bool w)), (2, .ptr q0 0), (8, .v (.int .i64 p)), (10, .v (.string (bs ([48] ++ T)))), (79, .undef)], P) := by
      simp only [go_sem, l40x2, b40, Tryz.f40, sz, q, bs_48, bs_app, z1]
      all_goals rfl
    rw [loop_eq, er, loop_n, ih ([48] ++ T) .undef (by simp; omega) (by simp; omega)]
    have e : List.replicate m 48 ++ ([48] ++ T) = List.replicate (m + 1) 48 ++ T := by rw [List.replicate_succ', List.append_assoc]
    rw [e]
end
end Go.Lift.R4
end

section
/- jalousieref1.Plain, whole. -/
open Go.Proofs
namespace Go.Lift.R4
set_option linter.unusedSectionVars false
variable [MX]
open Utf Tok Spell
set_option maxRecDepth 20000
set_option maxHeartbeats 4000000
set_option linter.unusedSimpArgs false
set_option linter.unusedVariables false

section
variable {lo : Nat} {h : Heap}
abbrev C2 (n d : Int) : Ob := .cells [.v (.int .i64 n), .v (.int .i64 d)]
theorem refN_le : ∀ (k : Nat) (n d m : Int) (p p' : Nat), 0 ≤ n → n ≤ 9223372036854775808 → refN k n d p = some (m, p') → 0 ≤ m ∧ m ≤ 9223372036854775808 ∧ p' ≤ p + k
  | 0, _, _, _, _, _, _, _, h => by cases h
  | k + 1, n, d, m, p, p', h0, h1, h => by
    simp only [refN] at h
    unfold big at h
    split at h
    · cases h; omega
    · split at h
      · cases h
      · split at h
        · have := refN_le k _ _ _ _ _ h0 h1 h; omega
        · split at h
          · cases h
          · split at h
            · have := refN_le k _ _ _ _ _ (by omega) (by omega) h; omega
            · have := refN_le k _ _ _ _ _ (by omega) (by omega) h; omega
/-- as far as the number that is written -/
theorem p40a (hlo : lo ≤ h.length) {n d : Int} {w : Bool} (h0 : -9223372036854775808 ≤ n) (h1 : n ≤ 9223372036854775807) (h2 : 1 ≤ d) (h3 : d ≤ 9223372036854775807) (hm : mayR n d = true) (hw : (w && decide (1 < d)) = false) :
    evL (X40 lo h.length) loopW (pc b40 0 7) (args0 [.agg [.v (.int .i64 n), .v (.int .i64 d)], .v (.bool w)], h) = match refN 64 n.natAbs d 0 with
      | some (m, k) => some (.normal, A40 w h.length m 1 k ++ [(35, .v (.bool false))], h ++ [C2 n d])
      | none => bad40 (h ++ [C2 n d]) := by
  have k1 := fun lo h hlo => f102 (lo := lo) (h := h) h0 h1 h3 hlo
  rw [hm] at k1
  have k1 := k1 lo (h ++ [C2 n d]) (by simp; omega)
  have k3 := fun lo h => f103 (lo := lo) (h := h) h0 h1
  have wd : IntKind.u64.wrap d = d := wrap_u64 (by omega) (by omega)
  have qd : (d == 0) = false := by simp; omega
  have h64 : (2 : Int) ^ 64 = 18446744073709551616 := by decide
  have hL := loop40a (lo := lo) (w := w) (q0 := h.length) (N := h.length) (P := h ++ [C2 n d]) 64 n.natAbs d 0 h2 (by omega) h3 (by omega) (by omega) (by omega)
  have n0 : ((0 : Nat) : Int) = 0 := rfl
  simp only [l40x0, b40, Tryz.f40, loopAt, loops, bodyOf, go_sem, n0] at hL
  cases hr : refN 64 n.natAbs d 0 with
  | none =>
    rw [hr] at hL
    cases w with
    | true =>
      have q1 : decide (1 < d) = false := by simpa using hw
      simp only [go_sem, b40, Tryz.f40, k1, k3, wd, qd, q1, hL, hlo]
      all_goals rfl
    | false =>
      simp only [go_sem, b40, Tryz.f40, k1, k3, wd, qd, hL, hlo]
      all_goals rfl
  | some mp =>
    obtain ⟨m, p⟩ := mp
    rw [hr] at hL
    cases w with
    | true =>
      have q1 : decide (1 < d) = false := by simpa using hw
      simp only [go_sem, b40, Tryz.f40, k1, k3, wd, qd, q1, hL, hlo]
      all_goals rfl
    | false =>
      simp only [go_sem, b40, Tryz.f40, k1, k3, wd, qd, hL, hlo]
      all_goals rfl
/-- the digits -/
theorem p40b {n d m : Int} {w : Bool} {p : Nat} (h0 : 0 ≤ m) (h1 : m ≤ 9223372036854775808) (hp : p ≤ 1000) :
    evL (X40 lo h.length) loopW (pc b40 7 5) (A40 w h.length m 1 p ++ [(35, .v (.bool false))], h ++ [C2 n d]) =
      if 18 < (core (dgt m)).length then bad40 (h ++ [C2 n d])
      else some (.normal, [(1, .v (.bool w)), (2, .ptr h.length 0), (8, .v (.int .i64 p)), (10, .v (.string (bs (dgt m)))), (79, .v (.bool false))], h ++ [C2 n d]) := by
  have k1 := fun lo h => f104 (lo := lo) (h := h) h0 (x := m) (by omega)
  obtain ⟨l1, l2⟩ := dgt_len 19 m h0 (by have : (10 : Int) ^ (19 + 1) = 100000000000000000000 := by decide
                                         omega)
  have sz := bs_size (dgt m)
  have hL := loop40b (lo := lo) (w := w) (q0 := h.length) (N := h.length) (P := h ++ [C2 n d]) (p := p) (dgt_by m) (by omega) (dgt m).length l1 (Nat.le_refl _)
  rw [List.take_length] at hL
  simp only [l40x1, b40, Tryz.f40, loopAt, loops, bodyOf, go_sem] at hL
  by_cases hc : 18 < (core (dgt m)).length
  · have q1 : decide (18 < ((max 1 (core (dgt m)).length : Nat) : Int)) = true := by simp; omega
    rw [if_pos hc]
    simp only [go_sem, b40, Tryz.f40, k1, sz, hL, q1]
    all_goals rfl
  · have q1 : decide (18 < ((max 1 (core (dgt m)).length : Nat) : Int)) = false := by simp; omega
    rw [if_neg hc]
    simp only [go_sem, b40, Tryz.f40, k1, sz, hL, q1]
    all_goals rfl
theorem p40c {n d m : Int} {w : Bool} {p : Nat} (h0 : 0 ≤ m) (h1 : m ≤ 9223372036854775808) (hp : p ≤ 1000) :
    evL (X40 lo h.length) loopW (pc b40 12 1) ([(1, .v (.bool w)), (2, .ptr h.length 0), (8, .v (.int .i64 p)), (10, .v (.string (bs (dgt m)))), (79, .v (.bool false))], h ++ [C2 n d]) =
      some (.normal, [(1, .v (.bool w)), (2, .ptr h.length 0), (8, .v (.int .i64 p)), (10, .v (.string (bs (wide m p)))), (83, .v (.bool false))], h ++ [C2 n d]) := by
  obtain ⟨l1, l2⟩ := dgt_len 19 m h0 (by have : (10 : Int) ^ (19 + 1) = 100000000000000000000 := by decide
                                         omega)
  have hL := loop40c (lo := lo) (w := w) (q0 := h.length) (N := h.length) (P := h ++ [C2 n d]) hp (p + 1 - (dgt m).length) (dgt m) (.v (.bool false)) rfl (by omega)
  simp only [l40x2, b40, Tryz.f40, loopAt, loops, bodyOf, go_sem] at hL
  unfold wide
  simp only [go_sem, b40, Tryz.f40, hL]
  all_goals rfl
theorem p40d {T : List Int} {n d : Int} {w : Bool} {p : Nat} (hp : p + 1 ≤ T.length) (hl : T.length ≤ 1000000) (hw : w = true → p = 0) :
    ∃ e1 e2 : Env, (e1 = [] ∨ ∃ v u, e1 = [(8, v), (10, u)]) ∧ (e2 = [] ∨ (∃ v, e2 = [(93, v)]) ∨ ∃ v, e2 = [(97, v)]) ∧
    evL (X40 lo h.length) loopW (pc b40 13 3) ([(1, .v (.bool w)), (2, .ptr h.length 0), (8, .v (.int .i64 p)), (10, .v (.string (bs T))), (83, .v (.bool false))], h ++ [C2 n d]) =
      some (.normal, (2, .ptr h.length 0) :: (e1 ++ (12, .v (.string (bs (point T p w)))) :: e2), h ++ [C2 n d]) := by
  unfold point
  have sz := bs_size T
  have w1 : IntKind.i64.wrap ((T.length : Int) - (p : Int)) = ((T.length - p : Nat) : Int) := by rw [wrap_i64 (by omega) (by omega)]; omega
  have b1 : T.length - p ≤ T.length := by omega
  have e1 : (T.take T.length).drop (T.length - p) = T.drop (T.length - p) := by rw [List.take_length]
  have e0 : (T.take (T.length - p)).drop 0 = T.take (T.length - p) := rfl
  have zz : ∀ a b : List Int, a.length + b.length ≤ 2000000000 → (bs a).size + (bs b).size ≤ 9223372036854775807 := fun a b h => by rw [bs_size, bs_size]; omega
  have z0 : 0 ≤ T.length - p := Nat.zero_le _
  cases w with
  | true =>
    obtain rfl := hw rfl
    have e2 : T.take (T.length - 0) = T := by simp
    rw [e2] at e0
    have w2 : IntKind.i64.wrap ((T.length : Int) - 0) = (T.length : Int) := by rw [wrap_i64 (by omega) (by omega)]; omega
    have e3 : T.take T.length = T := List.take_length
    have z9 : 0 ≤ T.length := Nat.zero_le _
    have n0 : ((0 : Nat) : Int) = 0 := rfl
    have e4 : T.drop 0 = T := rfl
    refine ⟨[(8, .v (.int .i64 0)), (10, .v (.string (bs T)))], [(93, .v (.bool false))], .inr ⟨_, _, rfl⟩, .inr (.inl ⟨_, rfl⟩), ?_⟩
    simp only [go_sem, b40, Tryz.f40, sz, n0, w2, bs_ext, e0, e3, e4, z9, Nat.le_refl, if_true]
    all_goals rfl
  | false =>
    have z1 := zz (T.take (T.length - p)) [46] (by simp; omega)
    by_cases hp0 : p = 0
    · have q0 : ((p : Int) == 0) = true := by simp [hp0]
      have z2 := zz (T.take (T.length - p) ++ [46]) [48] (by simp; omega)
      have z3 := zz (T.take (T.length - p) ++ [46] ++ [48]) (T.drop (T.length - p)) (by simp; omega)
      have ed : T.drop (T.length - p) = [] := by rw [hp0]; simp
      rw [List.append_assoc, List.singleton_append, ed] at z3
      rw [if_pos hp0]
      refine ⟨[(8, .v (.int .i64 p)), (10, .v (.string (bs T)))], [(93, .undef)], .inr ⟨_, _, rfl⟩, .inr (.inl ⟨_, rfl⟩), ?_⟩
      simp only [go_sem, b40, Tryz.f40, sz, w1, b1, bs_ext, e0, e1, bs_46, bs_48, bs_app, q0, z0, z1, z2, z3, Nat.le_refl, List.append_assoc, ed]
      all_goals rfl
    · have q0 : ((p : Int) == 0) = false := by simp; omega
      have z2 := zz (T.take (T.length - p) ++ [46]) (T.drop (T.length - p)) (by simp; omega)
      rw [if_neg hp0]
      refine ⟨[(8, .v (.int .i64 p)), (10, .v (.string (bs T)))], [(93, .undef)], .inr ⟨_, _, rfl⟩, .inr (.inl ⟨_, rfl⟩), ?_⟩
      simp only [go_sem, b40, Tryz.f40, sz, w1, b1, bs_ext, e0, e1, bs_46, bs_48, bs_app, q0, z0, z1, z2, Nat.le_refl, List.append_assoc]
      all_goals rfl
theorem p40e {T : List Int} {n d : Int} {e1 e2 : Env} (hl : T.length ≤ 2000000) (he : e1 = [] ∨ ∃ v u, e1 = [(8, v), (10, u)]) (ht : e2 = [] ∨ (∃ v, e2 = [(93, v)]) ∨ ∃ v, e2 = [(97, v)]) :
    evL (X40 lo h.length) loopW (pc b40 16 4) ((2, .ptr h.length 0) :: (e1 ++ (12, .v (.string (bs T))) :: e2), h ++ [C2 n d]) =
      some (.ret, [(4, .v (.string (bs ((if n < 0 then [45] else []) ++ T)))), (5, .v (.int .i64 0))], h ++ [C2 n d]) := by
  have z1 : (bs [45]).size + (bs T).size ≤ 9223372036854775807 := by rw [bs_size, bs_size]; simp; omega
  by_cases hn : n < 0
  · have q1 : decide (n < 0) = true := by simp [hn]
    rw [if_pos hn]
    rcases he with rfl | ⟨v, u, rfl⟩ <;> rcases ht with rfl | ⟨v2, rfl⟩ | ⟨v2, rfl⟩ <;>
    simp only [go_sem, b40, Tryz.f40, q1, bs_45, bs_app, z1] <;> rfl
  · have q1 : decide (n < 0) = false := by simp; omega
    rw [if_neg hn]
    rcases he with rfl | ⟨v, u, rfl⟩ <;> rcases ht with rfl | ⟨v2, rfl⟩ | ⟨v2, rfl⟩ <;>
    simp only [go_sem, b40, Tryz.f40, q1, List.nil_append] <;> rfl
theorem may_gcd {n d : Int} (hm : mayR n d = true) (hd : d ≠ 0) : ∀ x, (x = 2 ∨ x = 5) → d % x = 0 → (n.natAbs : Int) % x ≠ 0 := by
  unfold mayR sureR at hm
  simp only [Bool.or_eq_true, Bool.and_eq_true, beq_iff_eq, decide_eq_true_eq] at hm
  rcases hm with ⟨_, h⟩ | ⟨⟨h1, _⟩, hg⟩
  · exact absurd h hd
  · intro x hx h2 h3
    rcases hx with rfl | rfl
    · have e1 : 2 ∣ n.natAbs := Nat.dvd_of_mod_eq_zero (by omega)
      have e2 : 2 ∣ d.toNat := Nat.dvd_of_mod_eq_zero (by omega)
      have := Nat.dvd_gcd e1 e2
      rw [hg] at this
      have := Nat.le_of_dvd (by omega) this
      omega
    · have e1 : 5 ∣ n.natAbs := Nat.dvd_of_mod_eq_zero (by omega)
      have e2 : 5 ∣ d.toNat := Nat.dvd_of_mod_eq_zero (by omega)
      have := Nat.dvd_gcd e1 e2
      rw [hg] at this
      have := Nat.le_of_dvd (by omega) this
      omega
theorem fin40 {x : List Int} {e : Int} {c : Ob} : fin Tryz.prog [.tmp 4, .tmp 5] h.length (some (.ret, [(4, .v (.string (bs x))), (5, .v (.int .i64 e))], h ++ [c])) = some (.tup [.v (.string (bs x)), .v (.int .i64 e)], h) := by
  simp only [go_sem]
  all_goals rfl
/-- jalousieref1.Plain -/
theorem f40 (hlo : lo ≤ h.length) {n d : Int} {w : Bool} (h0 : -9223372036854775808 ≤ n) (h1 : n ≤ 9223372036854775807) (h2 : -9223372036854775808 ≤ d) (h3 : d ≤ 9223372036854775807) :
    E lo 40 [.agg [.v (.int .i64 n), .v (.int .i64 d)], .v (.bool w)] h = some (plainV (plainT n d w), h) := by
  have k1 := fun lo h hlo => f102 (lo := lo) (h := h) h0 h1 h3 hlo
  have k1 := k1 lo (h ++ [.cells [.v (.int .i64 n), .v (.int .i64 d)]]) (by simp; omega)
  rw [e40 (by simp) (by rfl)]
  cases hm : mayR n d with
  | false =>
    have e : plainT n d w = none := by unfold plainT; rw [hm]; rfl
    rw [hm] at k1
    rw [e]
    simp only [go_sem, b40, Tryz.f40, k1, hlo, plainV]
    all_goals rfl
  | true =>
    cases hw : (w && decide (1 < d)) with
    | true =>
      have e : plainT n d w = none := by unfold plainT; rw [hm, hw]; rfl
      rw [hm] at k1
      rw [Bool.and_eq_true] at hw
      obtain ⟨rfl, q⟩ := hw
      rw [e]
      simp only [go_sem, b40, Tryz.f40, k1, hlo, plainV, q]
      all_goals rfl
    | false =>
      by_cases hd : d = 0
      · have e : plainT n d w = some (if w = true then List.replicate 20 57 else [49, 101, 57, 57]) := by unfold plainT; rw [hm, hw, if_neg (by simp), if_pos hd]
        rw [hm] at k1
        rw [e]
        subst hd
        cases w with
        | true =>
          have q : ((0 : Int) == 0) = true := rfl
          have q2 : decide ((1 : Int) < 0) = false := rfl
          simp only [go_sem, b40, Tryz.f40, k1, hlo, plainV, q, q2]
          all_goals rfl
        | false =>
          have q : ((0 : Int) == 0) = true := rfl
          simp only [go_sem, b40, Tryz.f40, k1, hlo, plainV, q]
          all_goals rfl
      · have h1d := may_pos hm hd
        have pa := p40a (lo := lo) (h := h) hlo h0 h1 h1d h3 hm hw
        have e : plainT n d w = match progN n.natAbs d with
            | none => none
            | some (m, p) => numText (decide (n < 0)) w m p := by unfold plainT; rw [hm, hw, if_neg (by simp), if_neg hd]; cases progN (n.natAbs : Int) d <;> rfl
        rw [scale_same h1d (by omega) (may_gcd hm hd)] at pa
        rw [e, pc_in, pc_go _ _ _ _ 0 7]
        unfold X40 at pa
        rw [pa]
        cases hp : progN (n.natAbs : Int) d with
        | none =>
          simp only
          unfold bad40
          rw [pc_r]
          exact fin40 (x := [])
        | some mp =>
          obtain ⟨m, p⟩ := mp
          obtain ⟨m0, m1, p1⟩ := progN_le (by omega) (by omega) h1d h3 hp
          have hwp : w = true → p = 0 := fun hw1 => by
            subst hw1
            have : d = 1 := by simp at hw; omega
            subst this
            exact prog_one hp
          simp only
          rw [numText_eq hwp, pc_go _ _ _ _ _ 5]
          have pb := p40b (lo := lo) (h := h) (n := n) (d := d) (m := m) (w := w) (p := p) m0 m1 (by omega)
          unfold X40 at pb
          rw [pb]
          by_cases hc : 18 < (core (dgt m)).length
          · rw [if_pos hc, if_pos hc]
            unfold bad40
            rw [pc_r]
            exact fin40 (x := [])
          · rw [if_neg hc, if_neg hc, pc_go _ _ _ _ _ 1]
            have pcc := p40c (lo := lo) (h := h) (n := n) (d := d) (m := m) (w := w) (p := p) m0 m1 (by omega)
            unfold X40 at pcc
            rw [pcc, pc_go _ _ _ _ _ 3]
            obtain ⟨l1, l2⟩ := wide_len (m := m) (p := p)
            obtain ⟨g1, g2⟩ := dgt_len 19 m m0 (by have : (10 : Int) ^ (19 + 1) = 100000000000000000000 := by decide
                                                   omega)
            obtain ⟨e1, e2, x1, x2, pd⟩ := p40d (lo := lo) (h := h) (T := wide m p) (n := n) (d := d) (w := w) (p := p) l1 (by omega) hwp
            unfold X40 at pd
            rw [pd, pc_go _ _ _ _ _ 4]
            have pe := p40e (lo := lo) (h := h) (T := point (wide m p) p w) (n := n) (d := d) (e1 := e1) (e2 := e2) (by
              unfold point
              split
              · omega
              · simp only [List.length_append, List.length_cons, List.length_take, List.length_drop]
                split <;> simp <;> omega) x1 x2
            unfold X40 at pe
            rw [pe, pc_r, fin40]
            simp only [decide_eq_true_eq]
            rfl
end
end Go.Lift.R4
end

section
/- How long a fraction's text may be. -/
open Go.Proofs
namespace Go.Lift.R4
set_option linter.unusedSectionVars false
variable [MX]
open Utf Tok Spell
set_option maxRecDepth 20000
set_option linter.unusedSimpArgs false
set_option linter.unusedVariables false

theorem numText_ok {b w : Bool} {m : Int} {p : Nat} {t : List Int} (m0 : 0 ≤ m) (m1 : m ≤ 9223372036854775808) (hp : p ≤ 64) (h : numText b w m p = some t) : By t ∧ t.length ≤ 200 := by
  obtain ⟨g1, g2⟩ := dgt_len 19 m m0 (by have : (10 : Int) ^ (19 + 1) = 100000000000000000000 := by decide
                                         omega)
  have h2 : t = (if b = true then [45] else []) ++ (((List.replicate (p + 1 - (dgt m).length) 48 ++ dgt m).take ((List.replicate (p + 1 - (dgt m).length) 48 ++ dgt m).length - p) ++ (if w = true then [] else 46 :: ((List.replicate (p + 1 - (dgt m).length) 48 ++ dgt m).drop ((List.replicate (p + 1 - (dgt m).length) 48 ++ dgt m).length - p) ++ if p = 0 then [48] else [])))) := by
    unfold numText at h
    split at h
    · cases h
    · exact (Option.some.inj h).symm
  have hT : By (List.replicate (p + 1 - (dgt m).length) 48 ++ dgt m) := by
    refine by_app (fun c hc => ?_) (dgt_by m)
    have := List.eq_of_mem_replicate hc
    omega
  have hTl : (List.replicate (p + 1 - (dgt m).length) (48 : Int) ++ dgt m).length ≤ 90 := by simp; omega
  generalize List.replicate (p + 1 - (dgt m).length) (48 : Int) ++ dgt m = T at *
  subst h2
  constructor
  · refine by_app ?_ (by_app (fun c hc => hT c (List.mem_of_mem_take hc)) ?_)
    · split
      · exact by_cons (by omega) (by omega) by_nil
      · exact by_nil
    · split
      · exact by_nil
      · refine by_cons (by omega) (by omega) (by_app (fun c hc => hT c (List.mem_of_mem_drop hc)) ?_)
        split
        · exact by_cons (by omega) (by omega) by_nil
        · exact by_nil
  · have a1 : (if b = true then [(45 : Int)] else []).length ≤ 1 := by split <;> simp
    have a2 : (if w = true then [] else 46 :: (T.drop (T.length - p) ++ if p = 0 then [(48 : Int)] else [])).length ≤ 95 := by
      split
      · simp
      · have a3 : (if p = 0 then [(48 : Int)] else []).length ≤ 1 := by split <;> simp
        simp only [List.length_cons, List.length_append, List.length_drop]
        omega
    simp only [List.length_append, List.length_take]
    omega
/-- a fraction's text is short -/
theorem plainT_ok {n d : Int} {w : Bool} (h0 : -9223372036854775808 ≤ n) (h1 : n ≤ 9223372036854775807) (h2 : -9223372036854775808 ≤ d) (h3 : d ≤ 9223372036854775807) : By ((plainT n d w).getD []) ∧ ((plainT n d w).getD []).length ≤ 200 := by
  cases ht : plainT n d w with
  | none => exact ⟨by_nil, by simp⟩
  | some t =>
    simp only [Option.getD_some]
    unfold plainT at ht
    split at ht
    · cases ht
    · rename_i hc
      split at ht
      · cases ht
        split
        · refine ⟨fun c hc => ?_, by simp⟩
          have := List.eq_of_mem_replicate hc
          omega
        · exact ⟨by_cons (by omega) (by omega) (by_cons (by omega) (by omega) (by_cons (by omega) (by omega) (by_cons (by omega) (by omega) by_nil))), by simp⟩
      · rename_i hd
        have hm : mayR n d = true := by
          cases q : mayR n d with
          | true => rfl
          | false => rw [q] at hc; simp at hc
        have h1d := may_pos hm hd
        split at ht
        · cases ht
        · rename_i m p hp
          obtain ⟨m0, m1, p1⟩ := progN_le (by omega) (by omega) h1d h3 hp
          exact numText_ok m0 m1 p1 ht
end Go.Lift.R4
end
