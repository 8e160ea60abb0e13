/- The program and the reference, evaluated. -/
import Derived.Test.YtnfdhgadidacaaaGreatDoorGQc
import Derived.Test.YtnfdhgadidacaaaGreatDoorGQd
section
open Go.Proofs
namespace Go.Lift.R4.T
set_option linter.unusedSectionVars false
variable [MX]
open Utf Tok
set_option maxRecDepth 20000
set_option maxHeartbeats 4000000
set_option linter.unusedSimpArgs false
set_option linter.unusedVariables false
theorem downN_le {y b : Int} (hy : 0 < y) (hb : b * y ≤ 9223372036854775807) : ∀ (k : Nat) (n d : Int) (r : Int × Int), 1 ≤ n → n ≤ 9223372036854775807 → 1 ≤ d → d ≤ 9223372036854775807 → downN y b k n d = some r →
  1 ≤ r.1 ∧ r.1 ≤ 9223372036854775807 ∧ 1 ≤ r.2 ∧ r.2 ≤ 9223372036854775807
 | 0, n, d, r, h0, h1, g0, g1, h => by simp only [downN, Option.some.injEq] at h; subst h; exact ⟨h0, h1, g0, g1⟩
 | k + 1, n, d, r, h0, h1, g0, g1, h => by
  simp only [downN] at h
  split at h
  ·rename_i hm
   have hq1 : n / y ≤ n := Int.ediv_le_self y (by omega)
   have h3 : 1 ≤ n / y := by
    rcases Int.lt_or_le (n / y) 1 with h4 | h4
    ·have h2 : n = n / y * y := by have := Int.mul_ediv_add_emod n y; rw [hm, Int.add_zero] at this; rw [Int.mul_comm]; exact this.symm
     have : n / y * y ≤ 0 := Int.mul_nonpos_of_nonpos_of_nonneg (by omega) (by omega)
     omega
    ·exact h4
   exact downN_le hy hb k (n / y) d r h3 (by omega) g0 g1 h
  ·split at h
   ·cases h
   ·have hdy : d * y ≤ b * y := Int.mul_le_mul_of_nonneg_right (by omega) (by omega)
    have hdy0 : 1 ≤ d * y := by
     have := le_mulr (a := d) (b := y) (by omega) (by omega)
     omega
    exact downN_le hy hb k n (d * y) r h0 h1 hdy0 (by omega) h
section
variable {lo : Nat} {below : Bool} {h : Heap} {p : Int}
theorem p145a {n : Int} (hlo : lo ≤ h.length) : evL (X145 lo h) loopW (pc b145 0 3) (args0 [.v (.bool below), .v (.int .u64 n), .v (.int .i64 p)], h) =
  if 18 < p ∨ p < -100 then over145 h else some (.normal, U145 below h n p [(16, .v (.bool false))]) := by
 by_cases h18 : 18 < p
 ·have t1 : decide (18 < p) = true := by simp [h18]
  rw [if_pos (.inl h18)]
  simp only [go_sem, X145, b145, Tryz.f145, t1, hlo, ratC]
  all_goals rfl
 ·have t1 : decide (18 < p) = false := by simp [h18]
  by_cases h100 : p < -100
  ·have t2 : decide (p < -100) = true := by simp [h100]
   rw [if_pos (.inr h100)]
   simp only [go_sem, X145, b145, Tryz.f145, t1, t2, hlo, ratC]
   all_goals rfl
  ·have t2 : decide (p < -100) = false := by simp [h100]
   rw [if_neg (by omega)]
   simp only [go_sem, X145, b145, Tryz.f145, t1, t2, ratC]
   all_goals rfl
theorem p145b {n : Int} (hlo : lo ≤ h.length) (hp : p ≤ 4000000000000) (h0 : 0 ≤ n) (h1 : n ≤ 9223372036854775807) : evL (X145 lo h) loopW (pc b145 3 1) (U145 below h n p [(16, .v (.bool false))]) =
  match upN p.toNat n with
  | some n' => some (.normal, U145 below h n' (if 0 < p then 0 else p) [(19, .v (.bool false))])
  | none => over145 h := by
 have hL := loop145a (lo := lo) (below := below) (h := h) hlo p.toNat p n (.v (.bool false)) rfl hp h0 h1
 cases hu : upN p.toNat n with
 | some n' =>
  rw [hu] at hL
  simp only [U145, l145x0, X145, b145, Tryz.f145, loopAt, loops, bodyOf, go_sem, ratC] at hL
  simp only [go_sem, X145, U145, b145, Tryz.f145, hL, ratC]
 | none =>
  rw [hu] at hL
  simp only [U145, over145, l145x0, X145, b145, Tryz.f145, loopAt, loops, bodyOf, go_sem, ratC] at hL
  simp only [go_sem, X145, U145, over145, b145, Tryz.f145, hL, ratC]
theorem outer145 {n : Int} (hlo : lo ≤ h.length) (hk : p ≤ 0) (hk2 : -4000000000000 ≤ p) (h0 : 1 ≤ n) (h1 : n ≤ 9223372036854775807) :
  loopW (evCode (X145 lo h) loopW l145x1) (O145 below h n p 1 0 []) =
   match downN 2 4611686018427387903 (-p).toNat n 1 with
   | some r => match downN 5 1844674407370955161 (-p).toNat r.1 r.2 with
    | some s => some (.exit 2, O145 below h s.1 p s.2 2 [(30, .v (.bool false))])
    | none => over145 h
   | none => over145 h := by
 have hA := round145 (lo := lo) (below := below) (h := h) (p := p) (i := 0) hlo (.inl ⟨rfl, rfl, rfl⟩) (n := n) (d := 1) hk hk2 (by omega) h1 (by omega) (by omega)
 rw [loop_eq]
 simp only [n0] at hA
 rw [hA]
 cases hu : downN 2 4611686018427387903 (-p).toNat n 1 with
 | none => rfl
 | some r =>
  obtain ⟨q0, q1, q2, q3⟩ := downN_le (by omega) (by omega) _ _ _ _ h0 h1 (by omega) (by omega) hu
  have hB := round145 (lo := lo) (below := below) (h := h) (p := p) (i := 1) hlo (.inr ⟨rfl, rfl, rfl⟩) (n := r.1) (d := r.2) hk hk2 (by omega) q1 (by omega) q3
  simp only
  rw [loop_n, loop_eq]
  have e1 : ((0 + 1 : Nat) : Int) = ((1 : Nat) : Int) := rfl
  rw [e1, hB]
  cases hv : downN 5 1844674407370955161 (-p).toNat r.1 r.2 with
  | none => rfl
  | some s =>
   simp only
   rw [loop_n, loop_eq]
   have hd : decide (((1 + 1 : Nat) : Int) < 2) = false := rfl
   simp only [go_sem, X145, O145, l145x1, b145, Tryz.f145, hd, ratC]
   all_goals rfl
theorem p145c {n : Int} (hlo : lo ≤ h.length) (hk : p ≤ 0) (hk2 : -4000000000000 ≤ p) (h0 : 1 ≤ n) (h1 : n ≤ 9223372036854775807) : evL (X145 lo h) loopW (pc b145 4 3) (U145 below h n p [(19, .v (.bool false))]) =
  match downN 2 4611686018427387903 (-p).toNat n 1 with
   | some r => match downN 5 1844674407370955161 (-p).toNat r.1 r.2 with
    | some s => some (.normal, O145 below h s.1 p s.2 2 [(30, .v (.bool false))])
    | none => over145 h
   | none => over145 h := by
 have n2 : ((2 : Nat) : Int) = 2 := rfl
 have hL := outer145 (lo := lo) (below := below) (h := h) hlo hk hk2 h0 h1
 cases hu : downN 2 4611686018427387903 (-p).toNat n 1 with
 | none =>
  rw [hu] at hL
  simp only [O145, over145, l145x1, X145, b145, Tryz.f145, loopAt, loops, bodyOf, go_sem, ratC] at hL
  simp only [go_sem, X145, U145, over145, b145, Tryz.f145, n2, hL, ratC]
  all_goals rfl
 | some r =>
  rw [hu] at hL
  simp only at hL ⊢
  cases hv : downN 5 1844674407370955161 (-p).toNat r.1 r.2 with
  | none =>
   rw [hv] at hL
   simp only [O145, over145, l145x1, X145, b145, Tryz.f145, loopAt, loops, bodyOf, go_sem, ratC] at hL
   simp only [go_sem, X145, U145, over145, b145, Tryz.f145, n2, hL, ratC]
   all_goals rfl
  | some s =>
   rw [hv] at hL
   simp only [O145, l145x1, X145, b145, Tryz.f145, loopAt, loops, bodyOf, go_sem, ratC] at hL
   simp only [go_sem, X145, U145, O145, b145, Tryz.f145, n2, hL, ratC]
   all_goals rfl
theorem p145d {n d : Int} (hlo : lo ≤ h.length) (h0 : 1 ≤ n) (h1 : n ≤ 9223372036854775807) (g0 : 1 ≤ d) (g1 : d ≤ 9223372036854775807) : evL (X145 lo h) loopW (pc b145 7 2) (O145 below h n p d 2 [(30, .v (.bool false))]) =
  some (.ret, [(6, .ptr h.length 0)], h ++ [.cells (ratC (turn below (some (n, d))))]) := by
 have k := f176 (lo := lo) (below := below) (n := n) (d := d) (h := h ++ [.cells (ratC (0, 0))]) (by simp; omega) (by omega) h1 g0 g1
 simp only [ratC] at k
 simp only [go_sem, X145, O145, b145, Tryz.f145, k, hlo, ratC]
 all_goals rfl
theorem fin145 {h : Heap} {x : Int × Int} : fin Tryz.prog [.cell 6 32] h.length (some (.ret, [(6, .ptr h.length 0)], h ++ [.cells (ratC x)])) = some (.agg (ratC x), h) := fin154
theorem f145 {n : Int} (hlo : lo ≤ h.length) (hp0 : -4000000000000 ≤ p) (hp1 : p ≤ 4000000000000) (h0 : 1 ≤ n) (h1 : n < 10 ^ 18) :
  E lo 145 [.v (.bool below), .v (.int .u64 n), .v (.int .i64 p)] h = some (.agg (ratC (turn below (scaleR n p))), h) := by
 have h18 : (10 : Int) ^ 18 = 1000000000000000000 := by decide
 rw [← scale_eq h0 h1, e145 (by simp) (by rfl), pc_in, pc_go _ _ _ _ 0 3, p145a hlo]
 unfold scaleP
 by_cases hov : 18 < p ∨ p < -100
 ·rw [if_pos hov, if_pos hov, over145, pc_r]
  exact fin145
 rw [if_neg hov, if_neg hov, pc_go _ _ _ _ _ 1, p145b hlo hp1 (by omega) (by omega)]
 cases hu : upN p.toNat n with
 | none =>
  simp only
  rw [over145, pc_r]
  exact fin145
 | some m =>
  obtain ⟨m0, m1⟩ := upN_le _ _ _ h0 (by omega) hu
  simp only
  have hp0 : (if 0 < p then (0 : Int) else p) ≤ 0 := by split <;> omega
  have hpn : (-(if 0 < p then (0 : Int) else p)).toNat = (-p).toNat := by split <;> omega
  rw [pc_go _ _ _ _ _ 3, p145c hlo hp0 (by split <;> omega) m0 m1, hpn]
  cases hv : downN 2 4611686018427387903 (-p).toNat m 1 with
  | none =>
   simp only
   rw [over145, pc_r]
   exact fin145
  | some r =>
   obtain ⟨q0, q1, q2, q3⟩ := downN_le (by omega) (by omega) _ _ _ _ m0 m1 (by omega) (by omega) hv
   obtain ⟨r1, r2⟩ := r
   simp only
   cases hw : downN 5 1844674407370955161 (-p).toNat r1 r2 with
   | none =>
    simp only
    rw [over145, pc_r]
    exact fin145
   | some s =>
    obtain ⟨s0, s1, s2, s3⟩ := downN_le (by omega) (by omega) _ _ _ _ q0 q1 q2 q3 hw
    simp only
    rw [pc_go _ _ _ _ _ 2, p145d hlo s0 s1 s2 s3, pc_r]
    exact fin145
end
end Go.Lift.R4.T
end

section
open Go.Proofs
namespace Go.Lift.R4.T
set_option linter.unusedSectionVars false
variable [MX]
open Utf Tok
set_option maxRecDepth 20000
set_option maxHeartbeats 4000000
set_option linter.unusedSimpArgs false
set_option linter.unusedVariables false
def wrC (below : Bool) (d : List Int) (behind exp : Int) (whole : Bool) : List V := [.v (.bool below), .v (.string (bs d)), .v (.int .i64 behind), .v (.int .i64 exp), .v (.bool whole)]
section
variable {lo : Nat} {t : List Int} {h : Heap} {neg : Bool}
noncomputable abbrev X143 (lo : Nat) (h : Heap) : Cx := ⟨Tryz.prog, E, lo, h.length, h143⟩
abbrev P143 (t : List Int) (h : Heap) (ex : Env) (w : List V) : Env × Heap :=
 ((0, .v (.string (bs t))) :: (2, .ptr h.length 0) :: (4, .ptr (h.length + 1) 0) :: ex, h ++ [.cells (wrC false [] 0 0 false), .cells w])
theorem p143a {k : Nat} (hy : By t) (hl : t.length ≤ 100000000000) (hlo : lo ≤ h.length) (hlo2 : lo ≤ h.length + 1)
  (ht : (∃ c, t[0]? = some c ∧ (c == 43) = false ∧ (c == 45) = false ∧ k = 0 ∧ neg = false) ∨ (t[0]? = some 43 ∧ k = 1 ∧ neg = false) ∨ (t[0]? = some 45 ∧ k = 1 ∧ neg = true)) :
  ∃ x, evL (X143 lo h) loopW (pc b143 0 4) (args0 [.v (.string (bs t))], h) = some (.normal, P143 (t.drop k) h [(21, x)] (wrC neg [] 0 0 false)) := by
 have hlen : 0 < t.length := by
  rcases ht with ⟨c, h, _⟩ | ⟨h, _⟩ | ⟨h, _⟩ <;> exact (List.getElem?_eq_some_iff.1 h).1
 have t0 := bs_nil_eq' t
 rw [decide_eq_false (by intro h; rw [h] at hlen; simp at hlen)] at t0
 have hix := bs_ix hy 0
 have h1 : 1 ≤ t.length := hlen
 rcases ht with ⟨c, hc, c1, c2, rfl, rfl⟩ | ⟨hc, rfl, rfl⟩ | ⟨hc, rfl, rfl⟩
 ·refine ⟨.v (.bool false), ?_⟩
  rw [hc] at hix
  simp only [go_sem, X143, b143, Tryz.f143, t0, hix, c1, c2, wrC]
  all_goals rfl
 ·have c1 : ((43 : Int) == 43) = true := rfl
  have c2 : ((43 : Int) == 45) = false := rfl
  refine ⟨.v (.bool true), ?_⟩
  rw [hc] at hix
  simp only [go_sem, X143, b143, Tryz.f143, t0, hix, c1, c2, bs_size, bs_ext, h1, Nat.le_refl, hlo, hlo2, wrC]
  all_goals rfl
 ·have c1 : ((45 : Int) == 43) = false := rfl
  have c2 : ((45 : Int) == 45) = true := rfl
  refine ⟨.v (.bool true), ?_⟩
  rw [hc] at hix
  simp only [go_sem, X143, b143, Tryz.f143, t0, hix, c1, c2, bs_size, bs_ext, h1, Nat.le_refl, hlo, hlo2, wrC]
  all_goals rfl
theorem p143b {d r : List Int} {x : V} {pt : Bool} (hy : By t) (hl : t.length ≤ 100000000000) (hlo2 : lo ≤ h.length + 1) (hT : t = d ++ r) (htw : t.takeWhile dig = d)
  (hpt : (∃ c, r[0]? = some c ∧ (c == 46) = pt) ∨ (r = [] ∧ pt = false)) :
  evL (X143 lo h) loopW (pc b143 4 3) (P143 t h [(21, x)] (wrC neg [] 0 0 false)) = some (.normal, P143 r h [(44, .v (.bool pt))] (wrC neg d 0 0 true)) := by
 have k172 := fun h => f172 (lo := lo) (h := h) hy hl
 simp only [htw] at k172
 have hyr : By r := fun c hc => hy c (by rw [hT]; simp [hc])
 have e1 : t.take d.length = d := by rw [hT]; simp
 have e2 : t.drop d.length = r := by rw [hT]; simp
 have h1 : d.length ≤ t.length := by rw [hT]; simp
 have hix := bs_ix hyr 0
 rcases hpt with ⟨c, hc, rfl⟩ | ⟨rfl, rfl⟩
 ·have t0 := bs_nil_eq' r
  rw [decide_eq_false (by intro h; rw [h] at hc; simp at hc)] at t0
  rw [hc] at hix
  simp only [go_sem, X143, P143, b143, Tryz.f143, k172, bs_size, bs_ext, h1, Nat.le_refl, Nat.zero_le, hlo2, e1, e2, t0, hix, wrC]
  all_goals rfl
 ·have t0 := bs_nil_eq' []
  rw [decide_eq_true rfl] at t0
  have hn : ([] : List Int)[0]? = none := rfl
  rw [hn] at hix
  simp only [go_sem, X143, P143, b143, Tryz.f143, k172, bs_size, bs_ext, h1, Nat.le_refl, Nat.zero_le, hlo2, e1, e2, t0, hix, wrC]
  all_goals rfl
theorem p143c0 {w : List V} : evL (X143 lo h) loopW (pc b143 7 1) (P143 t h [(44, .v (.bool false))] w) = some (.normal, P143 t h [(44, .v (.bool false))] w) := by
 simp only [go_sem, X143, P143, b143, Tryz.f143, wrC]
theorem p143c1 {d f r : List Int} (hy : By t) (hl : t.length ≤ 100000000000) (hdl : d.length ≤ 100000000000) (hlo2 : lo ≤ h.length + 1) (hT : t = 46 :: (f ++ r)) (htw : (f ++ r).takeWhile dig = f) (hf : f ≠ []) :
  evL (X143 lo h) loopW (pc b143 7 1) (P143 t h [(44, .v (.bool true))] (wrC neg d 0 0 true)) = some (.normal, P143 r h [(44, .undef)] (wrC neg (d ++ f) f.length 0 false)) := by
 have hyr : By (f ++ r) := fun c hc => hy c (by rw [hT]; simp only [List.mem_cons]; exact .inr hc)
 have hlen : t.length = 1 + (f.length + r.length) := by rw [hT]; simp; omega
 have k172 := fun h => f172 (lo := lo) (h := h) hyr (by simp; omega)
 simp only [htw] at k172
 have e0 : t.drop 1 = f ++ r := by rw [hT]; rfl
 have e1 : (t.take (1 + f.length)).drop 1 = f := by rw [hT, Nat.add_comm]; simp
 have e2 : t.drop (1 + f.length) = r := by rw [hT, Nat.add_comm]; simp
 have h1 : 1 ≤ t.length := by omega
 have h2 : 1 + f.length ≤ t.length := by omega
 have h3 : 1 ≤ 1 + f.length := by omega
 have hfl : 0 < f.length := List.length_pos_iff.2 hf
 have t1 : ((f.length : Int) == 0) = false := by simp; omega
 have w1 : IntKind.i64.wrap (1 + (f.length : Int)) = ((1 + f.length : Nat) : Int) := by rw [wrap_i64 (by omega) (by omega)]; omega
 have hsz : d.length + f.length ≤ 9223372036854775807 := by omega
 simp only [go_sem, X143, P143, b143, Tryz.f143, k172, bs_size, bs_ext, h1, h2, h3, Nat.le_refl, Nat.zero_le, hlo2, e0, e1, e2, t1, w1, hsz, bs_app, wrC]
 all_goals rfl
theorem p143d0 {d : List Int} {fr e : Int} {wh : Bool} {x : V} (hlo : lo ≤ h.length) (hd : d ≠ []) :
  evL (X143 lo h) loopW (pc b143 8 4) (P143 [] h [(44, x)] (wrC neg d fr e wh)) = some (.ret, [(2, .ptr h.length 0), (3, .v (.bool true))], h ++ [.cells (wrC neg d fr e wh), .cells (wrC neg d fr e wh)]) := by
 have t0 := bs_nil_eq' d
 rw [decide_eq_false hd] at t0
 have t1 := bs_nil_eq' []
 rw [decide_eq_true rfl] at t1
 simp only [go_sem, X143, P143, b143, Tryz.f143, t0, t1, hlo, wrC]
 all_goals rfl
theorem p143d1 {d : List Int} {fr e : Int} {wh : Bool} {x : V} (hd : d ≠ []) (ht : t ≠ []) :
  evL (X143 lo h) loopW (pc b143 8 4) (P143 t h [(44, x)] (wrC neg d fr e wh)) = some (.normal, P143 t h [(71, .v (.bool false))] (wrC neg d fr e wh)) := by
 have t0 := bs_nil_eq' d
 rw [decide_eq_false hd] at t0
 have t1 := bs_nil_eq' t
 rw [decide_eq_false ht] at t1
 simp only [go_sem, X143, P143, b143, Tryz.f143, t0, t1, wrC]
 all_goals rfl
abbrev L143 (h : Heap) (neg down : Bool) (ds : List Int) (fr e : Int) (wh : Bool) (rows : List (List V)) (len k : Int) (ex : Env) : Env × Heap :=
 ((2, .ptr h.length 0) :: (4, .ptr (h.length + 1) 0) :: (7, .v (.bool down)) :: (113, .list .no rows) :: (114, .v (.int .i64 len)) :: (115, .v (.int .i64 k)) :: ex, h ++ [.cells (wrC false [] 0 0 false), .cells (wrC neg ds fr e wh)])
theorem loop143 {down wh : Bool} {ds d : List Int} {fr : Int} (hlo2 : lo ≤ h.length + 1) (hd : ∀ c ∈ d, dig c = true) (hl : d.length ≤ 100000000000) : ∀ (r : List Int) (k : Nat) (e : Int), d.drop k = r → k + r.length = d.length → 0 ≤ e → e ≤ 1099511627776 →
  loopW (evCode (X143 lo h) loopW l143x0) (L143 h neg down ds fr e wh (ri .u8 d) d.length k []) =
   some (.exit 0, L143 h neg down ds fr (expN e r) wh (ri .u8 d) d.length d.length [(116, .v (.bool false))]) := by
 intro r
 induction r with
 | nil =>
  intro k e hr hk h0 h1
  have hk' : k = d.length := by simpa using hk
  subst hk'
  have hlt : decide ((d.length : Int) < (d.length : Int)) = false := by simp
  rw [loop_eq]
  simp only [go_sem, X143, l143x0, b143, Tryz.f143, hlt, expN, wrC]
  all_goals rfl
 | cons c r ih =>
  intro k e hr hk h0 h1
  simp only [List.length_cons] at hk
  have hlt : decide ((k : Int) < (d.length : Int)) = true := by simp; omega
  have hc : d[k]? = some c := by
   have := congrArg (·[0]?) hr
   simpa using this
  have hcd := hd c (List.mem_of_getElem? hc)
  simp only [dig, Bool.and_eq_true, decide_eq_true_eq] at hcd
  have hw : IntKind.i64.wrap ((k : Int) + 1) = ((k + 1 : Nat) : Int) := wrap_succ (by omega)
  have w1 : IntKind.i64.wrap (e * 10) = e * 10 := wrap_i64 (by omega) (by omega)
  have w2 : IntKind.u8.wrap (c - 48) = c - 48 := wrap_u8 (by omega) (by omega)
  have w3 : IntKind.i64.wrap (c - 48) = c - 48 := wrap_i64 (by omega) (by omega)
  have w4 : IntKind.i64.wrap (e * 10 + (c - 48)) = e * 10 + (c - 48) := wrap_i64 (by omega) (by omega)
  have hmin : (if e * 10 + (c - 48) < 1099511627776 then e * 10 + (c - 48) else 1099511627776) = if 1099511627776 < e * 10 + (c - 48) then 1099511627776 else e * 10 + (c - 48) := by split <;> split <;> omega
  have e1 : evCode (X143 lo h) loopW l143x0 (L143 h neg down ds fr e wh (ri .u8 d) d.length k []) =
    some (.normal, L143 h neg down ds fr (if 1099511627776 < e * 10 + (c - 48) then 1099511627776 else e * 10 + (c - 48)) wh (ri .u8 d) d.length (k + 1 : Nat) []) := by
   simp only [go_sem, X143, l143x0, b143, Tryz.f143, hlt, hc, w1, w2, w3, w4, hmin, hw, hlo2, wrC]
   all_goals rfl
  rw [loop_eq, e1, loop_n, ih (k + 1) _ (by rw [← List.drop_drop, hr]; rfl) (by omega) (by split <;> omega) (by split <;> omega)]
  rfl
theorem p143e {d r u : List Int} {fr c : Int} {wh down : Bool} (hy : By t) (hl : t.length ≤ 100000000000) (hlo : lo ≤ h.length) (hlo2 : lo ≤ h.length + 1)
  (hT : t = c :: u) (hce : (c != 101 && c != 69) = false)
  (hu : (∃ s, u = s :: r ∧ (s == 43 || s == 45) = true ∧ down = (s == 45)) ∨ (∃ s, u[0]? = some s ∧ (s == 43 || s == 45) = false ∧ u = r ∧ down = false))
  (hrd : ∀ x ∈ r, dig x = true) (hr0 : r ≠ []) :
  evL (X143 lo h) loopW (pc b143 12 14) (P143 t h [(71, .v (.bool false))] (wrC neg d fr 0 wh)) =
   some (.ret, [(2, .ptr h.length 0), (3, .v (.bool true))], h ++ [.cells (wrC neg d fr (if down = true then - expN 0 r else expN 0 r) false), .cells (wrC neg d fr (if down = true then - expN 0 r else expN 0 r) false)]) := by
 have hyu : By u := fun x hx => hy x (by rw [hT]; simp [hx])
 have hyr : By r := fun x hx => by
  have := hrd x hx
  simp only [dig, Bool.and_eq_true, decide_eq_true_eq] at this
  omega
 have hix := bs_ix hy 0
 have hc0 : t[0]? = some c := by rw [hT]; rfl
 rw [hc0] at hix
 have e0 : t.drop 1 = u := by rw [hT]; rfl
 have h1 : 1 ≤ t.length := by rw [hT]; simp
 have hrl : 0 < r.length := List.length_pos_iff.2 hr0
 have hul : u.length < t.length := by rw [hT]; simp
 have hix2 := bs_ix hyu 0
 have hrl2 : r.length ≤ 100000000000 := by
  rcases hu with ⟨s, hs, _⟩ | ⟨s, _, _, hs, _⟩
  ·rw [hs] at hul; simp at hul; omega
  ·rw [← hs]; omega
 have k172 := fun h => f172 (lo := lo) (t := r) (h := h) hyr hrl2
 simp only [tw_all hrd] at k172
 have t0 := bs_nil_eq' r
 rw [decide_eq_false hr0] at t0
 have t1 : decide ((r.length : Int) < (r.length : Int)) = false := by simp
 have hL := loop143 (lo := lo) (h := h) (neg := neg) (down := down) (wh := false) (ds := d) (d := r) (fr := fr) hlo2 hrd hrl2 r 0 0 rfl (by omega) (by omega) (by omega)
 obtain ⟨x0, x1⟩ := expN_in r 0 hrd (by omega) (by omega)
 generalize expN 0 r = ee at *
 simp only [L143, X143, l143x0, b143, Tryz.f143, loopAt, loops, bodyOf, go_sem, wrC] at hL
 have hune : u ≠ [] := by
  rcases hu with ⟨s, hs, _⟩ | ⟨s, hs, _, _, _⟩
  ·rw [hs]; simp
  ·intro h; rw [h] at hs; cases hs
 have tu := bs_nil_eq' u
 rw [decide_eq_false hune] at tu
 rcases hu with ⟨s, hs, hss, rfl⟩ | ⟨s, hs, hss, rfl, rfl⟩
 ·have hs0 : u[0]? = some s := by rw [hs]; rfl
  have e1 : u.drop 1 = r := by rw [hs]; rfl
  have h2 : 1 ≤ u.length := by rw [hs]; simp
  rw [hs0] at hix2
  cases hdn : (s == 45) with
  | true =>
   rw [hdn] at hL
   simp only [hdn, Bool.or_true] at hss
   have w3 : IntKind.i64.wrap (0 - ee) = -ee := by rw [wrap_i64 (by omega) (by omega)]; omega
   simp only [go_sem, X143, P143, b143, Tryz.f143, hix, hce, bs_size, bs_ext, h1, Nat.le_refl, e0, tu, hix2, hss, hdn, e1, h2, k172, t0, t1, bytes_bs hyr, hL, w3, hlo, hlo2, wrC]
   all_goals rfl
  | false =>
   have h43 : (s == 43) = true := by simpa [hdn] using hss
   rw [hdn] at hL
   simp only [go_sem, X143, P143, b143, Tryz.f143, hix, hce, bs_size, bs_ext, h1, Nat.le_refl, e0, tu, hix2, h43, hdn, e1, h2, k172, t0, t1, bytes_bs hyr, hL, hlo, hlo2, wrC]
   all_goals rfl
 ·rw [hs] at hix2
  simp only [go_sem, X143, P143, b143, Tryz.f143, hix, hce, bs_size, bs_ext, h1, Nat.le_refl, e0, tu, hix2, hss, k172, t0, t1, bytes_bs hyr, hL, hlo, hlo2, wrC]
  all_goals rfl
end
end Go.Lift.R4.T
end

section
open Go.Proofs
namespace Go.Lift.R4.T
set_option linter.unusedSectionVars false
variable [MX]
open Utf Tok
set_option maxRecDepth 20000
set_option maxHeartbeats 4000000
set_option linter.unusedSimpArgs false
set_option linter.unusedVariables false
def wrV (w : Wr) : List V := wrC w.below w.digits w.behind w.exp w.whole
theorem fin143 {h : Heap} {w w2 : List V} {b : Bool} (hw : ∃ a d c e f, w = wrC a d c e f) : fin Tryz.prog [.cell 2 127, .tmp 3] h.length (some (.ret, [(2, .ptr h.length 0), (3, .v (.bool b))], h ++ [.cells w, .cells w2])) = some (.tup [.agg w, .v (.bool b)], h) := by
 obtain ⟨a, d, c, e, f, rfl⟩ := hw
 simp only [go_sem, wrC]
 all_goals rfl
theorem f143 {lo : Nat} {n : Nm} {h : Heap} (ok : n.Ok) (hl : n.text.length ≤ 100000000000) (hlo : lo ≤ h.length) :
  E lo 143 [.v (.string (bs n.text))] h = some (.tup [.agg (wrV n.wr), .v (.bool true)], h) := by
 have hlo2 : lo ≤ h.length + 1 := by omega
 have hy := nm_by ok
 have hT := nm_text n
 have hF := nmF_head ok
 have hRh := nmR_head ok
 have hd1 := all_dig ok.d1
 have hfr := all_dig ok.fr
 have hd3 := all_dig ok.d3
 obtain ⟨k, hk⟩ : ∃ k, n.sg.length = k := ⟨_, rfl⟩
 generalize n.text = t at *
 have D1 : t.drop k = n.d1 ++ (nmF n ++ nmR n) := by rw [hT, ← hk, List.drop_left]
 have hlen : t.length = k + (n.d1.length + ((nmF n).length + (nmR n).length)) := by rw [hT]; simp; omega
 have ht0 : (∃ c, t[0]? = some c ∧ (c == 43) = false ∧ (c == 45) = false ∧ k = 0 ∧ (n.sg == [45]) = false) ∨ (t[0]? = some 43 ∧ k = 1 ∧ (n.sg == [45]) = false) ∨ (t[0]? = some 45 ∧ k = 1 ∧ (n.sg == [45]) = true) := by
  rcases ok.sg with hs | hs | hs
  ·left
   rw [hs] at hk hT ⊢
   rw [List.nil_append] at hT
   cases hd : n.d1 with
   | cons c u =>
    have hc := hd1 c (by rw [hd]; simp)
    simp only [dig, Bool.and_eq_true, decide_eq_true_eq] at hc
    exact ⟨c, by rw [hT, hd]; rfl, by simp; omega, by simp; omega, hk.symm, rfl⟩
   | nil =>
    have hne : n.fr ≠ [] := fun h => ok.some (by rw [hd, h]; rfl)
    exact ⟨46, by rw [hT, hd]; unfold nmF; rw [if_neg hne]; rfl, rfl, rfl, hk.symm, rfl⟩
  ·exact .inr (.inl ⟨by rw [hT, hs]; rfl, by rw [← hk, hs]; rfl, by rw [hs]; rfl⟩)
  ·exact .inr (.inr ⟨by rw [hT, hs]; rfl, by rw [← hk, hs]; rfl, by rw [hs]; rfl⟩)
 obtain ⟨x, hA⟩ := p143a (lo := lo) (h := h) (neg := n.sg == [45]) hy hl hlo hlo2 ht0
 have hyd : By (t.drop k) := hy.drop k
 have hF1 : By (nmF n ++ nmR n) := fun c hc => hyd c (by rw [D1]; simp only [List.mem_append] at hc ⊢; exact .inr hc)
 have hF2 : By (nmR n) := fun c hc => hF1 c (by simp [hc])
 rw [e143 (by simp) (by rfl), pc_in, pc_go _ _ _ _ 0 4, hA, pc_go _ _ _ _ _ 3]
 rw [p143b (d := n.d1) (r := nmF n ++ nmR n) (pt := !n.fr.isEmpty) hyd (by simp; omega) hlo2 D1 (by rw [D1]; exact tw_app hF hd1) (by
  cases hfe : n.fr with
  | cons c u => exact .inl ⟨46, by unfold nmF; rw [hfe]; rfl, rfl⟩
  | nil =>
   cases hr : nmR n with
   | nil => exact .inr ⟨by unfold nmF; rw [hfe]; rfl, rfl⟩
   | cons c u =>
    refine .inl ⟨c, by unfold nmF; rw [hfe]; rfl, ?_⟩
    rcases (hRh c u hr).2 with rfl | rfl <;> rfl)]
 rw [pc_go _ _ _ _ _ 1]
 have hB : ∃ y, evL (X143 lo h) loopW (pc b143 7 1) (P143 (nmF n ++ nmR n) h [(44, .v (.bool (!n.fr.isEmpty)))] (wrC (n.sg == [45]) n.d1 0 0 true)) =
   some (.normal, P143 (nmR n) h [(44, y)] (wrC (n.sg == [45]) (n.d1 ++ n.fr) n.fr.length 0 n.fr.isEmpty)) := by
  cases hfe : n.fr with
  | nil =>
   have hnF : nmF n = [] := by unfold nmF; rw [if_pos hfe]
   refine ⟨.v (.bool false), ?_⟩
   rw [hnF, List.append_nil]
   exact p143c0
  | cons c u =>
   have hne : n.fr ≠ [] := by rw [hfe]; simp
   have hnF : nmF n = 46 :: n.fr := by unfold nmF; rw [if_neg hne]
   refine ⟨.undef, ?_⟩
   have := p143c1 (lo := lo) (h := h) (neg := n.sg == [45]) (t := nmF n ++ nmR n) (d := n.d1) (f := n.fr) (r := nmR n) hF1 (by simp; omega) (by omega) hlo2 (by rw [hnF]; rfl) (tw_app (fun c u h => (hRh c u h).1) hfr) hne
   simpa [hfe] using this
 obtain ⟨y, hB⟩ := hB
 rw [hB, pc_go _ _ _ _ _ 4]
 have hne : n.d1 ++ n.fr ≠ [] := ok.some
 rcases ok.ex with ⟨h1, h2⟩ | ⟨⟨e, he, hx⟩, h2⟩
 ·have hr : nmR n = [] := by unfold nmR; rw [h1, h2]; rfl
  rw [hr, p143d0 hlo hne, pc_r]
  have hw : wrV n.wr = wrC (n.sg == [45]) (n.d1 ++ n.fr) n.fr.length 0 n.fr.isEmpty := by
   simp [wrV, Nm.wr, h1, h2, chr, expN]
  rw [hw]
  exact fin143 ⟨_, _, _, _, _, rfl⟩
 ·obtain ⟨s3, u3, hs3⟩ : ∃ s u, n.d3 = s :: u := by
   cases hd : n.d3 with
   | nil => exact absurd hd h2
   | cons s u => exact ⟨s, u, rfl⟩
  have hs3d := hd3 s3 (by rw [hs3]; simp)
  simp only [dig, Bool.and_eq_true, decide_eq_true_eq] at hs3d
  have hexe : n.ex.isEmpty = false := by rcases hx with h | h | h <;> rw [h] <;> rfl
  have hce : (e != 101 && e != 69) = false := by rcases he with rfl | rfl <;> rfl
  have hT2 : nmR n = e :: (n.ex.drop 1 ++ n.d3) := by unfold nmR; rcases hx with h | h | h <;> rw [h] <;> rfl
  rw [p143d1 hne (by rw [hT2]; simp), pc_go _ _ _ _ _ 14]
  have hu : (∃ s, n.ex.drop 1 ++ n.d3 = s :: n.d3 ∧ (s == 43 || s == 45) = true ∧ (chr n.ex 1 == 45) = (s == 45)) ∨ (∃ s, (n.ex.drop 1 ++ n.d3)[0]? = some s ∧ (s == 43 || s == 45) = false ∧ n.ex.drop 1 ++ n.d3 = n.d3 ∧ (chr n.ex 1 == 45) = false) := by
   rcases hx with h | h | h
   ·right
    rw [h]
    refine ⟨s3, by rw [hs3]; rfl, ?_, rfl, rfl⟩
    simp
    omega
   ·left; rw [h]; exact ⟨43, rfl, rfl, rfl⟩
   ·left; rw [h]; exact ⟨45, rfl, rfl, rfl⟩
  rw [p143e (u := n.ex.drop 1 ++ n.d3) (r := n.d3) hF2 (by omega) hlo hlo2 hT2 hce hu hd3 h2, pc_r]
  have hw : wrV n.wr = wrC (n.sg == [45]) (n.d1 ++ n.fr) n.fr.length (if (chr n.ex 1 == 45) = true then -expN 0 n.d3 else expN 0 n.d3) false := by
   simp [wrV, Nm.wr, hexe]
  rw [hw]
  exact fin143 ⟨_, _, _, _, _, rfl⟩
section
variable {lo : Nat} {h : Heap} {w : Wr}
noncomputable abbrev X112 (lo : Nat) (h : Heap) : Cx := ⟨Tryz.prog, E, lo, h.length, h112⟩
abbrev P112 (h : Heap) (w : Wr) (ex : Env) : Env × Heap := ((2, .ptr h.length 0) :: (5, .ptr (h.length + 1) 0) :: ex, h ++ [.cells (ratC (0, 0)), .cells (wrV w)])
abbrev ret112 (h : Heap) (x : Int × Int) (w : Wr) : Option (Ex × Env × Heap) := some (.ret, [(2, .ptr h.length 0), (3, .v (.bool w.whole)), (4, .v (.int .i64 0))], h ++ [.cells (ratC x), .cells (wrV w)])
theorem p112a {t : List Int} (hlo2 : lo ≤ h.length + 1) (k : ∀ h, lo ≤ h.length → E lo 143 [.v (.string (bs t))] h = some (.tup [.agg (wrV w), .v (.bool true)], h)) (hlo : lo ≤ h.length) :
  evL (X112 lo h) loopW (pc b112 0 4) (args0 [.v (.string (bs t))], h) = some (.normal, P112 h w [(18, .v (.bool false))]) := by
 have k1 := k (h ++ [.cells (ratC (0, 0))]) (by simp; omega)
 simp only [ratC, wrV, wrC] at k1
 simp only [go_sem, X112, P112, b112, Tryz.f112, k1, hlo2, ratC, wrV, wrC]
 all_goals rfl
theorem p112b (hlo : lo ≤ h.length) (hy : By w.digits) (hl : w.digits.length ≤ 100000000000) : evL (X112 lo h) loopW (pc b112 4 3) (P112 h w [(18, .v (.bool false))]) =
  if w.digits.dropWhile (· == 48) = [] then ret112 h (0, 1) w else some (.normal, P112 h w [(7, .v (.string (bs (w.digits.dropWhile (· == 48))))), (24, .v (.bool false))]) := by
 have k := fun h => f144 (lo := lo) (h := h) hy hl
 generalize w.digits.dropWhile (· == 48) = D at *
 have t0 := bs_nil_eq' D
 by_cases hD : D = []
 ·rw [decide_eq_true hD] at t0
  rw [if_pos hD]
  simp only [go_sem, X112, P112, b112, Tryz.f112, k, t0, hlo, ratC, wrV, wrC]
  all_goals rfl
 ·rw [decide_eq_false hD] at t0
  rw [if_neg hD]
  simp only [go_sem, X112, P112, b112, Tryz.f112, k, t0, hlo, ratC, wrV, wrC]
  all_goals rfl
theorem p112c {D : List Int} (hlo : lo ≤ h.length) (hy : By D) (hl : D.length ≤ 100000000000) : evL (X112 lo h) loopW (pc b112 7 3) (P112 h w [(7, .v (.string (bs D))), (24, .v (.bool false))]) =
  if 18 < (core D).length then ret112 h (0, 0) w else some (.normal, P112 h w [(7, .v (.string (bs D))), (8, .v (.string (bs (core D)))), (32, .v (.bool false))]) := by
 have k := fun h => f98 (lo := lo) (h := h) hy hl
 generalize core D = C at *
 by_cases h18 : 18 < C.length
 ·have t : decide (18 < (C.length : Int)) = true := by simp; omega
  rw [if_pos h18]
  simp only [go_sem, X112, P112, b112, Tryz.f112, bs_size, k, t, hlo, ratC, wrV, wrC]
  all_goals rfl
 ·have t : decide (18 < (C.length : Int)) = false := by simp; omega
  rw [if_neg h18]
  simp only [go_sem, X112, P112, b112, Tryz.f112, bs_size, k, t, hlo, ratC, wrV, wrC]
  all_goals rfl
abbrev C112 (h : Heap) (w : Wr) (D C : List Int) (n : Int) (rows : List (List V)) (len k : Int) (ex : Env) : Env × Heap :=
 P112 h w ((7, .v (.string (bs D))) :: (8, .v (.string (bs C))) :: (9, .v (.int .u64 n)) :: (37, .list .no rows) :: (38, .v (.int .i64 len)) :: (39, .v (.int .i64 k)) :: ex)
theorem loop112 {D C d : List Int} (hd : ∀ c ∈ d, dig c = true) (hl : d.length ≤ 18) : ∀ (r : List Int) (k : Nat) (n : Int), d.drop k = r → k + r.length = d.length → 0 ≤ n → n < 10 ^ k →
  loopW (evCode (X112 lo h) loopW l112x0) (C112 h w D C n (ri .u8 d) d.length k []) =
   some (.exit 0, C112 h w D C (valN n r) (ri .u8 d) d.length d.length [(40, .v (.bool false))]) := by
 intro r
 induction r with
 | nil =>
  intro k n hr hk h0 h1
  have hk' : k = d.length := by simpa using hk
  subst hk'
  have hlt : decide ((d.length : Int) < (d.length : Int)) = false := by simp
  rw [loop_eq]
  simp only [go_sem, X112, C112, P112, l112x0, b112, Tryz.f112, hlt, valN, ratC, wrV, wrC]
  all_goals rfl
 | cons c r ih =>
  intro k n hr hk h0 h1
  simp only [List.length_cons] at hk
  have hlt : decide ((k : Int) < (d.length : Int)) = true := by simp; omega
  have hc : d[k]? = some c := by
   have := congrArg (·[0]?) hr
   simpa using this
  have hcd := hd c (List.mem_of_getElem? hc)
  simp only [dig, Bool.and_eq_true, decide_eq_true_eq] at hcd
  have hw : IntKind.i64.wrap ((k : Int) + 1) = ((k + 1 : Nat) : Int) := wrap_succ (by omega)
  have h17 : (10 : Int) ^ k ≤ 100000000000000000 := by
   have : (10 : Int) ^ k ≤ 10 ^ 17 := by
    obtain ⟨j, hj⟩ : ∃ j, 17 = k + j := ⟨17 - k, by omega⟩
    rw [hj, Int.pow_add]
    have h0 := one_pow_le (y := 10) (by omega) k
    exact le_mulr (by omega) (one_pow_le (by omega) j)
   exact this
  have w1 : IntKind.u64.wrap (n * 10) = n * 10 := wrap_u64 (by omega) (by omega)
  have w2 : IntKind.u8.wrap (c - 48) = c - 48 := wrap_u8 (by omega) (by omega)
  have w3 : IntKind.u64.wrap (c - 48) = c - 48 := wrap_u64 (by omega) (by omega)
  have w4 : IntKind.u64.wrap (n * 10 + (c - 48)) = n * 10 + (c - 48) := wrap_u64 (by omega) (by omega)
  have e1 : evCode (X112 lo h) loopW l112x0 (C112 h w D C n (ri .u8 d) d.length k []) = some (.normal, C112 h w D C (n * 10 + (c - 48)) (ri .u8 d) d.length (k + 1 : Nat) []) := by
   simp only [go_sem, X112, C112, P112, l112x0, b112, Tryz.f112, hlt, hc, w1, w2, w3, w4, hw, ratC, wrV, wrC]
   all_goals rfl
  have hp : (10 : Int) ^ (k + 1) = 10 ^ k * 10 := Int.pow_succ 10 k
  rw [loop_eq, e1, loop_n, ih (k + 1) (n * 10 + (c - 48)) (by rw [← List.drop_drop, hr]; rfl) (by omega) (by omega) (by omega)]
  rfl
theorem p112d {D d : List Int} (hd : ∀ c ∈ d, dig c = true) (hdl : d.length ≤ 18) : evL (X112 lo h) loopW (pc b112 10 3) (P112 h w [(7, .v (.string (bs D))), (8, .v (.string (bs d))), (32, .v (.bool false))]) =
  some (.normal, C112 h w D d (valN 0 d) (ri .u8 d) d.length d.length [(40, .v (.bool false))]) := by
 have hy : By d := fun c hc => by
  have := hd c hc
  simp only [dig, Bool.and_eq_true, decide_eq_true_eq] at this
  omega
 have hL := loop112 (lo := lo) (h := h) (w := w) (D := D) (C := d) hd hdl d 0 0 rfl (by simp) (by omega) (by simp)
 simp only [C112, P112, X112, l112x0, b112, Tryz.f112, loopAt, loops, bodyOf, go_sem, ratC, wrV, wrC] at hL
 simp only [go_sem, X112, C112, P112, b112, Tryz.f112, bytes_bs hy, hL, ratC, wrV, wrC]
 all_goals rfl
theorem p112e {D C : List Int} {n len k : Int} {rows : List (List V)} {y : Int × Int} (hlo : lo ≤ h.length) (he0 : -1099511627776 ≤ w.exp) (he1 : w.exp ≤ 1099511627776) (hb : w.behind ≤ 100000000000) (hD : D.length ≤ 100000000000) (hC : C.length ≤ D.length)
  (kv : ∀ lo h, lo ≤ h.length → E lo 145 [.v (.bool w.below), .v (.int .u64 n), .v (.int .i64 (w.exp - w.behind + (D.length - C.length)))] h = some (.agg (ratC y), h)) :
  evL (X112 lo h) loopW (pc b112 13 2) (C112 h w D C n rows len k [(40, .v (.bool false))]) = ret112 h y w := by
 have w1 : IntKind.i64.wrap (w.exp - w.behind) = w.exp - w.behind := wrap_i64 (by omega) (by omega)
 have w2 : IntKind.i64.wrap ((D.length : Int) - C.length) = (D.length : Int) - C.length := wrap_i64 (by omega) (by omega)
 have w3 : IntKind.i64.wrap (w.exp - w.behind + ((D.length : Int) - C.length)) = w.exp - w.behind + ((D.length : Int) - C.length) := wrap_i64 (by omega) (by omega)
 have k1 := kv (h.length + 2) (h ++ [.cells (ratC (0, 0)), .cells (wrV w)]) (by simp)
 simp only [ratC, wrV, wrC] at k1
 simp only [go_sem, X112, C112, P112, b112, Tryz.f112, bs_size, w1, w2, w3, k1, hlo, ratC, wrV, wrC]
 all_goals rfl
theorem fin112 {x : Int × Int} : fin Tryz.prog [.cell 2 32, .tmp 3, .tmp 4] h.length (ret112 h x w) = some (.tup [.agg (ratC x), .v (.bool w.whole), .v (.int .i64 0)], h) := by
 simp only [go_sem, ret112, ratC]
 all_goals rfl
end
theorem f112 {lo : Nat} {n : Nm} {h : Heap} (ok : n.Ok) (hl : n.text.length ≤ 100000000000) (hlo : lo ≤ h.length) :
  E lo 112 [.v (.string (bs n.text))] h = some (.tup [.agg (ratC n.num.1), .v (.bool n.num.2), .v (.int .i64 0)], h) := by
 have hall : ∀ c ∈ n.wr.digits, dig c = true := fun c hc => by
  rcases List.mem_append.1 hc with hc | hc
  ·exact all_dig ok.d1 c hc
  ·exact all_dig ok.fr c hc
 have hyd : By n.wr.digits := fun c hc => by
  have := hall c hc
  simp only [dig, Bool.and_eq_true, decide_eq_true_eq] at this
  omega
 have hlt : n.text.length = n.sg.length + (n.d1.length + ((nmF n).length + (nmR n).length)) := by rw [nm_text]; simp
 have hfl : n.fr.length ≤ (nmF n).length := by unfold nmF; split <;> simp_all
 have hdl : n.wr.digits.length ≤ 100000000000 := by
  show (n.d1 ++ n.fr).length ≤ _
  simp
  omega
 have hbh : n.wr.behind ≤ 100000000000 := by
  show n.fr.length ≤ _
  omega
 obtain ⟨x0, x1⟩ := expN_in n.d3 0 (all_dig ok.d3) (by omega) (by omega)
 have hexp : -1099511627776 ≤ n.wr.exp ∧ n.wr.exp ≤ 1099511627776 := by
  show -1099511627776 ≤ (if chr n.ex 1 = 45 then - expN 0 n.d3 else expN 0 n.d3) ∧ (if chr n.ex 1 = 45 then - expN 0 n.d3 else expN 0 n.d3) ≤ _
  split <;> omega
 unfold Nm.num
 rw [e112 (by simp) (by rfl), pc_in, pc_go _ _ _ _ 0 4, p112a (w := n.wr) (by omega) (fun h hh => f143 ok hl hh) hlo, pc_go _ _ _ _ _ 3, p112b hlo hyd hdl]
 unfold ratio
 have hhead := drop_head (· == 48) n.wr.digits
 have hmem : ∀ c ∈ n.wr.digits.dropWhile (· == 48), dig c = true := fun c hc => hall c ((List.dropWhile_sublist _).subset hc)
 have hDl : (n.wr.digits.dropWhile (· == 48)).length ≤ n.wr.digits.length := (List.dropWhile_sublist _).length_le
 generalize n.wr.digits.dropWhile (· == 48) = D at *
 have hyD : By D := fun c hc => by
  have := hmem c hc
  simp only [dig, Bool.and_eq_true, decide_eq_true_eq] at this
  omega
 cases D with
 | nil =>
  rw [if_pos rfl, pc_r]
  exact fin112
 | cons c0 t0 =>
  have hc0 : c0 ≠ 48 := by have := hhead c0 t0 rfl; simpa using this
  rw [if_neg (by simp), pc_go _ _ _ _ _ 3, p112c hlo hyD (by omega)]
  simp only [reduceCtorEq, if_false]
  by_cases h18 : 18 < (core (c0 :: t0)).length
  ·rw [if_pos h18, if_pos h18, pc_r]
   exact fin112
  ·rw [if_neg h18, if_neg h18, pc_go _ _ _ _ _ 3, p112d (core_all hmem) (by omega), pc_go _ _ _ _ _ 2]
   obtain ⟨v0, v1⟩ := core_val hmem hc0 (by omega)
   have hcl : (core (c0 :: t0)).length ≤ (c0 :: t0).length := by
    unfold core
    rw [List.length_reverse]
    exact Nat.le_trans (List.dropWhile_sublist _).length_le (by simp)
   rw [p112e (y := turn n.wr.below (scaleR (valN 0 (core (c0 :: t0))) (n.wr.exp - n.wr.behind + (((c0 :: t0).length : Int) - ((core (c0 :: t0)).length : Int))))) hlo hexp.1 hexp.2 hbh (by omega) hcl (fun lo h hh => f145 hh (by omega) (by omega) v0 v1), pc_r]
   exact fin112
end Go.Lift.R4.T
end
