/- rat.powers, rat.number. -/
import Derived.Test.YtehffjejplpaeaaDoorGKa
import Derived.Test.YtehffjejplpaeaaDoorGK8Basea
import Derived.Test.YtehffjejplpaeaaDoorGKb
set_option linter.unusedVariables false
set_option linter.unusedSimpArgs false
set_option linter.unusedSectionVars false
section
open Go.Proofs
namespace Go.Lift.D7
variable [MX]
open Utf Tok Spell
set_option maxRecDepth 20000
set_option maxHeartbeats 4000000
section
variable {lo : Nat} {h : Heap}
theorem loop59 {a : Int} : ∀ (m : Nat) (n : Int) (c : Nat), 1 ≤ n → n < 5 ^ m → n ≤ 9223372036854775807 → c + m ≤ 1000 →
  loopW (evCode ⟨Tryd.prog, E, lo, h.length, h59⟩ loopW l59x0) ([(0, .v (.int .u64 n)), (5, .v (.int .i64 a)), (6, .v (.int .i64 c))], h) =
   some (.exit 0, [(0, .v (.int .u64 (fv m n).2)), (5, .v (.int .i64 a)), (6, .v (.int .i64 (c + (fv m n).1 : Nat))), (14, .v (.bool false))], h) := by
 intro m
 induction m with
 | zero => intro n c h1 h2 _ _; simp at h2; omega
 | succ m ih =>
  intro n c h1 h2 h3 hc
  have w2 : IntKind.u64.wrap (n / 5) = n / 5 := wrap_u64 (by omega) (by omega)
  have t1 : n.tmod 5 = n % 5 := Int.tmod_eq_emod_of_nonneg (by omega)
  have t2 : n.tdiv 5 = n / 5 := Int.tdiv_eq_ediv_of_nonneg (by omega)
  have z : ¬ ((5 : Int) = 0) := by omega
  have w : IntKind.i64.wrap ((c : Int) + 1) = ((c + 1 : Nat) : Int) := wrap_succ (by omega)
  simp only [fv]
  by_cases q : n % 5 = 0
  ·have q1 : (n % 5 == 0) = true := by simp [q]
   have er : evCode ⟨Tryd.prog, E, lo, h.length, h59⟩ loopW l59x0 ([(0, .v (.int .u64 n)), (5, .v (.int .i64 a)), (6, .v (.int .i64 c))], h) = some (.normal, [(0, .v (.int .u64 (n / 5))), (5, .v (.int .i64 a)), (6, .v (.int .i64 (c + 1 : Nat)))], h) := by
    simp only [go_sem, l59x0, b59, Tryd.f59, t1, t2, z, q1, w, w2]
    all_goals rfl
   rw [loop_eq, er, loop_n, ih (n / 5) (c + 1) (by omega) (by rw [Int.pow_succ] at h2; omega) (by omega) (by omega), if_pos q]
   have e : c + 1 + (fv m (n / 5)).1 = c + ((fv m (n / 5)).1 + 1) := by omega
   rw [e]
  ·have q1 : (n % 5 == 0) = false := by simp [q]
   rw [if_neg q, loop_eq]
   simp only [go_sem, l59x0, b59, Tryd.f59, t1, t2, z, q1]
   all_goals rfl
theorem f59 {d : Int} (h0 : 1 ≤ d) (h1 : d < 9223372036854775808) :
  E lo 59 [.v (.int .u64 d)] h = some (.tup [.v (.int .i64 (Go.Lib.ctz 64 d.toNat)), .v (.int .i64 (fv 64 (d / 2 ^ Go.Lib.ctz 64 d.toNat)).1), .v (.bool ((fv 64 (d / 2 ^ Go.Lib.ctz 64 d.toNat)).2 == 1))], h) := by
 have hlow := Go.Lib.ctzFrom_spec 64 d.toNat (by omega) (by omega)
 have hctz : Go.Lib.ctz 64 d.toNat = Go.Lib.ctzFrom 64 d.toNat := by unfold Go.Lib.ctz; rw [if_neg (by omega)]
 rw [← hctz] at hlow
 have k1 := fun h => f74 (lo := lo) (h := h) (x := d) (by omega) (by omega)
 generalize Go.Lib.ctz 64 d.toNat = a at *
 obtain ⟨m, hm, ha⟩ := hlow
 have pa := Spell.pow_pos (x := 2) (by omega) a
 have hq : 1 ≤ d / 2 ^ a := by
  have : (d.toNat : Int) = ((2 ^ a * (2 * m + 1) : Nat) : Int) := by rw [hm]
  have e : (d.toNat : Int) = d := by omega
  rw [e] at this
  have hd : d = 2 ^ a * (2 * (m : Int) + 1) := by rw [this]; push_cast; rfl
  rw [hd, Int.mul_ediv_cancel_left _ (by omega)]
  omega
 have hq2 : d / 2 ^ a ≤ d := Int.ediv_le_self _ (by omega)
 have h64 : (9223372036854775808 : Int) ≤ 5 ^ 64 := by decide
 have hL := loop59 (lo := lo) (h := h) (a := a) 64 (d / 2 ^ a) 0 hq (by omega) (by omega) (by omega)
 have n0 : ((0 : Nat) : Int) = 0 := rfl
 simp only [l59x0, b59, Tryd.f59, loopAt, loops, bodyOf, go_sem, n0, Nat.zero_add] at hL
 have sh : ishr IntKind.u64 d (a : Int) = d / 2 ^ a := by
  unfold ishr
  have e : min ((a : Int)).toNat IntKind.u64.bits = a := by
   show min ((a : Int)).toNat 64 = a
   omega
  rw [e, Int.fdiv_eq_ediv_of_nonneg _ (by omega)]
 have w1 : IntKind.u64.wrap (d / 2 ^ a) = d / 2 ^ a := wrap_u64 (by omega) (by omega)
 rw [e59 (by simp) (by rfl)]
 simp only [go_sem, b59, Tryd.f59, k1, sh, w1, hL]
 all_goals rfl
theorem dgt_one {n : Int} (h0 : 0 ≤ n) (h : n < 10) : dgt n = [48 + n] := by
 unfold dgt
 rw [Go.Lib.decDigits_one (by omega)]
 simp
 omega
theorem dgt_more {n : Int} (h : 10 ≤ n) : dgt n = dgt (n / 10) ++ [48 + n % 10] := by
 unfold dgt
 rw [Go.Lib.decDigits, dif_neg (by omega)]
 have e : (n / 10).toNat = n.toNat / 10 := by omega
 rw [e, List.map_append]
 congr 1
 simp
 omega
theorem dgt_by (n : Int) : By (dgt n) := fun c hc => by
 unfold dgt at hc
 obtain ⟨x, _, rfl⟩ := List.mem_map.1 hc
 have := x.toNat_lt
 omega
theorem dgt_len : ∀ (k : Nat) (n : Int), 0 ≤ n → n < 10 ^ (k + 1) → 1 ≤ (dgt n).length ∧ (dgt n).length ≤ k + 1 := by
 intro k
 induction k with
 | zero =>
  intro n h0 h1
  rw [dgt_one h0 (by simpa using h1)]
  simp
 | succ k ih =>
  intro n h0 h1
  by_cases h : n < 10
  ·rw [dgt_one h0 h]; simp
  ·rw [dgt_more (by omega)]
   have := ih (n / 10) (by omega) (by rw [Int.pow_succ] at h1; omega)
   simp
   omega
abbrev cz (k : Nat) (suf : List Int) : Ob := .cells (List.replicate k (.v (.int .u8 0)) ++ suf.map fun c => .v (.int .u8 c))
theorem set_cz (k : Nat) (c : Int) (suf : List Int) : (List.replicate (k + 1) (V.v (.int .u8 0)) ++ suf.map fun c => V.v (.int .u8 c)).set k (.v (.int .u8 c)) = List.replicate k (V.v (.int .u8 0)) ++ (c :: suf).map fun c => V.v (.int .u8 c) := by
 rw [List.replicate_succ', List.append_assoc, List.set_append_right _ _ (by simp)]
 simp
theorem last97 (hlo : lo ≤ h.length) {ex : Env} (hex : ex = [] ∨ ∃ b, ex = [(16, .v (.bool b))]) {n : Int} {j : Nat} {suf : List Int} (h0 : 0 ≤ n) (h1 : n < 10) (h4 : j + 1 + suf.length = 20) :
  ∃ x : Ob, loopW (evCode ⟨Tryd.prog, E, lo, h.length, h61⟩ loopW l61x0) ((0, .v (.int .u64 n)) :: (3, .ptr h.length 0) :: (4, .v (.int .i64 (j + 1 : Nat))) :: ex, h ++ [cz (j + 1) suf]) =
   some (.ret, [(2, .v (.string (bs (dgt n ++ suf))))], h ++ [x]) := by
 have t1 : n.tmod 10 = n % 10 := Int.tmod_eq_emod_of_nonneg (by omega)
 have t2 : n.tdiv 10 = n / 10 := Int.tdiv_eq_ediv_of_nonneg (by omega)
 have t3 : n / 10 = 0 := by omega
 have t4 : n % 10 = n := by omega
 have w1 : IntKind.i64.wrap (((j + 1 : Nat) : Int) - 1) = (j : Int) := by rw [wrap_i64 (by omega) (by omega)]; omega
 have w2 : IntKind.u64.wrap (48 + n) = 48 + n := wrap_u64 (by omega) (by omega)
 have w3 : IntKind.u8.wrap (48 + n) = 48 + n := by simp only [IntKind.wrap, IntKind.signed, IntKind.bits]; simp; omega
 have b1 : (j : Int) < ((20 : Nat) : Int) := by omega
 have e := set_cz j (48 + n) suf
 have e2 : j + 1 ≤ (List.replicate (j + 1) (V.v (Value.int IntKind.u8 0)) ++ List.map (fun c => V.v (Value.int IntKind.u8 c)) suf).length := by simp
 have q0 : ((0 : Int) == 0) = true := rfl
 have z : ¬ ((10 : Int) = 0) := by omega
 have e3 : decide (j + (20 - j) ≤ (List.replicate j (V.v (Value.int IntKind.u8 0)) ++ V.v (Value.int IntKind.u8 (48 + n)) :: List.map (fun c => V.v (Value.int IntKind.u8 c)) suf).length) = true := by simp; omega
 have e4 : bytesOf (List.map (fun x => [x]) (List.take (20 - j) (List.drop j (List.replicate j (V.v (Value.int IntKind.u8 0)) ++ V.v (Value.int IntKind.u8 (48 + n)) :: List.map (fun c => V.v (Value.int IntKind.u8 c)) suf)))) = some (u8s ((48 + n) :: suf)) := by
  rw [List.drop_left' (by simp), List.take_of_length_le (by simp; omega)]
  have : List.map (fun x => [x]) (V.v (Value.int IntKind.u8 (48 + n)) :: List.map (fun c => V.v (Value.int IntKind.u8 c)) suf) = ri .u8 ((48 + n) :: suf) := by simp [ri]
  rw [this]
  exact ri_bytes _
 have w0 : IntKind.u64.wrap 0 = 0 := wrap_u64 (by omega) (by omega)
 have b2 : j ≤ 20 := by omega
 have b3 : j < 20 := by omega
 rw [dgt_one h0 h1]
 refine ⟨cz j ((48 + n) :: suf), ?_⟩
 rw [loop_eq]
 rcases hex with rfl | ⟨b, rfl⟩ <;>
 simp only [go_sem, l61x0, b61, Tryd.f61, t1, t2, t3, t4, w1, w2, w3, b1, e, e2, e3, e4, hlo, q0, z, w0, b2, b3, cz, Nat.zero_add, Nat.mul_one]
 all_goals rfl
theorem more97 (hlo : lo ≤ h.length) {ex : Env} (hex : ex = [] ∨ ∃ b, ex = [(16, .v (.bool b))]) {n : Int} {j : Nat} {suf : List Int} (h0 : 10 ≤ n) (h1 : n ≤ 18446744073709551615) (h4 : j + 1 + suf.length = 20) :
  evCode ⟨Tryd.prog, E, lo, h.length, h61⟩ loopW l61x0 ((0, .v (.int .u64 n)) :: (3, .ptr h.length 0) :: (4, .v (.int .i64 (j + 1 : Nat))) :: ex, h ++ [cz (j + 1) suf]) =
   some (.normal, [(0, .v (.int .u64 (n / 10))), (3, .ptr h.length 0), (4, .v (.int .i64 j)), (16, .v (.bool false))], h ++ [cz j ((48 + n % 10) :: suf)]) := by
 have t1 : n.tmod 10 = n % 10 := Int.tmod_eq_emod_of_nonneg (by omega)
 have t2 : n.tdiv 10 = n / 10 := Int.tdiv_eq_ediv_of_nonneg (by omega)
 have w1 : IntKind.i64.wrap (((j + 1 : Nat) : Int) - 1) = (j : Int) := by rw [wrap_i64 (by omega) (by omega)]; omega
 have w2 : IntKind.u64.wrap (48 + n % 10) = 48 + n % 10 := wrap_u64 (by omega) (by omega)
 have w3 : IntKind.u8.wrap (48 + n % 10) = 48 + n % 10 := by simp only [IntKind.wrap, IntKind.signed, IntKind.bits]; simp; omega
 have w0 : IntKind.u64.wrap (n / 10) = n / 10 := wrap_u64 (by omega) (by omega)
 have w4 : IntKind.u64.wrap (n % 10) = n % 10 := wrap_u64 (by omega) (by omega)
 have b1 : (j : Int) < ((20 : Nat) : Int) := by omega
 have e := set_cz j (48 + n % 10) suf
 have e2 : j + 1 ≤ (List.replicate (j + 1) (V.v (Value.int IntKind.u8 0)) ++ List.map (fun c => V.v (Value.int IntKind.u8 c)) suf).length := by simp
 have q0 : (n / 10 == 0) = false := by simp; omega
 have z : ¬ ((10 : Int) = 0) := by omega
 rcases hex with rfl | ⟨b, rfl⟩ <;>
 simp only [go_sem, l61x0, b61, Tryd.f61, t1, t2, w1, w2, w3, w4, b1, e, e2, hlo, q0, z, w0, cz, Nat.zero_add, Nat.mul_one]
 all_goals rfl
theorem loop61 (hlo : lo ≤ h.length) : ∀ (k : Nat) (n : Int) (j : Nat) (suf : List Int) (ex : Env), (ex = [] ∨ ∃ b, ex = [(16, .v (.bool b))]) → 0 ≤ n → n < 10 ^ (k + 1) → n ≤ 18446744073709551615 → k ≤ j → j + 1 + suf.length = 20 →
  ∃ x : Ob, loopW (evCode ⟨Tryd.prog, E, lo, h.length, h61⟩ loopW l61x0) ((0, .v (.int .u64 n)) :: (3, .ptr h.length 0) :: (4, .v (.int .i64 (j + 1 : Nat))) :: ex, h ++ [cz (j + 1) suf]) =
   some (.ret, [(2, .v (.string (bs (dgt n ++ suf))))], h ++ [x]) := by
 intro k
 induction k with
 | zero => intro n j suf ex hex h0 h1 _ h2 h4; exact last97 hlo hex h0 (by simpa using h1) h4
 | succ k ih =>
  intro n j suf ex hex h0 h1 h3 h2 h4
  by_cases hn : n < 10
  ·exact last97 hlo hex h0 hn h4
  obtain ⟨i, rfl⟩ : ∃ i, j = i + 1 := ⟨j - 1, by omega⟩
  obtain ⟨x, hx⟩ := ih (n / 10) i ((48 + n % 10) :: suf) [(16, .v (.bool false))] (.inr ⟨_, rfl⟩) (by omega) (by rw [Int.pow_succ] at h1; omega) (by omega) (by omega) (by simp; omega)
  refine ⟨x, ?_⟩
  rw [loop_eq, more97 hlo hex (by omega) h3 h4, loop_n, hx, dgt_more (n := n) (by omega), List.append_assoc]
  rfl
theorem f61 (hlo : lo ≤ h.length) {n : Int} (h0 : 0 ≤ n) (h1 : n ≤ 18446744073709551615) : E lo 61 [.v (.int .u64 n)] h = some (.v (.string (bs (dgt n))), h) := by
 obtain ⟨x, hL⟩ := loop61 (lo := lo) (h := h) hlo 19 n 19 [] [] (.inl rfl) h0 (by omega) h1 (by omega) (by simp)
 have n20 : ((19 + 1 : Nat) : Int) = 20 := rfl
 have hz : cz (19 + 1) [] = .cells [.v (.int .u8 0), .v (.int .u8 0), .v (.int .u8 0), .v (.int .u8 0), .v (.int .u8 0), .v (.int .u8 0), .v (.int .u8 0), .v (.int .u8 0), .v (.int .u8 0), .v (.int .u8 0), .v (.int .u8 0), .v (.int .u8 0), .v (.int .u8 0), .v (.int .u8 0), .v (.int .u8 0), .v (.int .u8 0), .v (.int .u8 0), .v (.int .u8 0), .v (.int .u8 0), .v (.int .u8 0)] := rfl
 rw [n20, hz, List.append_nil] at hL
 simp only [l61x0, b61, Tryd.f61, loopAt, loops, bodyOf, go_sem] at hL
 rw [e61 (by simp) (by rfl)]
 simp only [go_sem, b61, Tryd.f61, hL]
 all_goals rfl
end
end Go.Lift.D7
end

section
open Go.Proofs
namespace Go.Lift.D7
variable [MX]
open Utf Tok Spell
set_option maxRecDepth 20000
set_option maxHeartbeats 4000000
section
variable {lo : Nat} {h : Heap}
noncomputable abbrev X45 (lo N : Nat) : Cx := ⟨Tryd.prog, E, lo, N, h45⟩
theorem upM_le {x : Int} (hx : 1 ≤ x) (hx2 : x ≤ 5) : ∀ (k : Nat) (m r : Int), 0 ≤ m → m ≤ 9223372036854775808 → upM x k m = some r → 0 ≤ r ∧ r ≤ 9223372036854775808
 | 0, m, r, h0, h1, h => by cases h; exact ⟨h0, h1⟩
 | k + 1, m, r, h0, h1, h => by
  simp only [upM] at h
  split at h
  ·cases h
  ·rename_i hb
   unfold big at hb
   have h2 : 0 ≤ m * x := Int.mul_nonneg h0 (by omega)
   have h3 : m * x ≤ m * 5 := Int.mul_le_mul_of_nonneg_left hx2 h0
   exact upM_le hx hx2 k (m * x) r h2 (by omega) h
abbrev I36 (p : Heap) (w : Bool) (q b n a1 a2 i K j : Int) (q0 : Nat) : Env :=
 [(1, .v (.bool w)), (2, .ptr q0 0), (9, .v (.int .i64 b)), (10, .v (.int .u64 n)), (12, .ptr p.length 0), (65, .agg [.v (.int .u64 2), .v (.int .u64 a1), .v (.int .u64 5), .v (.int .u64 a2)]), (66, .v (.int .i64 i)), (70, .v (.int .u64 K)), (71, .v (.int .u64 j))]
theorem loop36i {p : Heap} {N q0 : Nat} {w : Bool} {b a1 a2 i x : Int} {K : Nat} (hlo : lo ≤ p.length) (hx : 1 ≤ x) (hx2 : x ≤ 5) (hK : K ≤ 1000) : ∀ (k j : Nat) (n : Int), j + k = K → 0 ≤ n → n ≤ 9223372036854775808 →
  loopW (evCode (X45 lo N) loopW l45x1) (I36 p w 0 b n a1 a2 i K j q0, p ++ [.cells [.v (.int .u64 x), .v (.int .u64 K)]]) =
   match upM x k n with
   | some r => some (.exit 3, I36 p w 0 b r a1 a2 i K K q0 ++ [(72, .v (.bool false))], p ++ [.cells [.v (.int .u64 x), .v (.int .u64 K)]])
   | none => some (.ret, [(4, .v (.string ⟨#[]⟩)), (5, .v (.int .i64 1))], p ++ [.cells [.v (.int .u64 x), .v (.int .u64 K)]]) := by
 intro k
 induction k with
 | zero =>
  intro j n hj h0 h1
  obtain rfl : j = K := by omega
  have q : decide ((j : Int) < (j : Int)) = false := by simp
  rw [loop_eq]
  simp only [go_sem, l45x1, b45, Tryd.f45, q, upM]
  all_goals rfl
 | succ k ih =>
  intro j n hj h0 h1
  have q : decide ((j : Int) < (K : Int)) = true := by simp; omega
  rw [loop_eq]
  simp only [upM]
  unfold big
  by_cases hb : 1000000000000000000 < n
  ·have q2 : decide (1000000000000000000 < n) = true := by simp [hb]
   rw [if_pos hb]
   simp only [go_sem, l45x1, b45, Tryd.f45, q, q2]
   all_goals rfl
  ·have q2 : decide (1000000000000000000 < n) = false := by simp; omega
   have h2 : 0 ≤ n * x := Int.mul_nonneg h0 (by omega)
   have h3 : n * x ≤ n * 5 := Int.mul_le_mul_of_nonneg_left hx2 h0
   have w1 : IntKind.u64.wrap (n * x) = n * x := wrap_u64 h2 (by omega)
   have w2 : IntKind.u64.wrap ((j : Int) + 1) = ((j + 1 : Nat) : Int) := by rw [wrap_u64 (by omega) (by omega)]; omega
   have b0 : (0 : Int) < ((2 : Nat) : Int) := by omega
   rw [if_neg hb]
   have er : evCode (X45 lo N) loopW l45x1 (I36 p w 0 b n a1 a2 i K j q0, p ++ [.cells [.v (.int .u64 x), .v (.int .u64 K)]]) = some (.normal, I36 p w 0 b (n * x) a1 a2 i K (j + 1 : Nat) q0, p ++ [.cells [.v (.int .u64 x), .v (.int .u64 K)]]) := by
    simp only [go_sem, l45x1, b45, Tryd.f45, q, q2, w1, w2, b0]
    all_goals rfl
   rw [er, loop_n, ih (j + 1) (n * x) (by omega) h2 (by omega)]
abbrev O36 (w : Bool) (q0 : Nat) (b n a1 a2 i : Int) : Env :=
 [(1, .v (.bool w)), (2, .ptr q0 0), (9, .v (.int .i64 b)), (10, .v (.int .u64 n)), (65, .agg [.v (.int .u64 2), .v (.int .u64 a1), .v (.int .u64 5), .v (.int .u64 a2)]), (66, .v (.int .i64 i))]
theorem round45a {p : Heap} {N q0 : Nat} {w : Bool} {b : Int} {K1 K2 : Nat} (hlo : lo ≤ p.length) (hK : K1 ≤ 1000) {n : Int} (h0 : 0 ≤ n) (h1 : n ≤ 9223372036854775808) :
  evCode (X45 lo N) loopW l45x0 (O36 w q0 b n K1 K2 0, p) = match upM 2 K1 n with
   | some r => some (.normal, O36 w q0 b r K1 K2 1, p ++ [.cells [.v (.int .u64 2), .v (.int .u64 K1)]])
   | none => some (.ret, [(4, .v (.string ⟨#[]⟩)), (5, .v (.int .i64 1))], p ++ [.cells [.v (.int .u64 2), .v (.int .u64 K1)]]) := by
 have hL := loop36i (lo := lo) (p := p) (N := N) (q0 := q0) (w := w) (b := b) (a1 := K1) (a2 := K2) (i := 0) (x := 2) hlo (by omega) (by omega) hK K1 0 n (by omega) h0 h1
 have n0 : ((0 : Nat) : Int) = 0 := rfl
 have q : decide ((0 : Int) < 2) = true := rfl
 have b0 : (0 : Int) < ((2 : Nat) : Int) := by omega
 have b1 : (1 : Int) < ((2 : Nat) : Int) := by omega
 have w1 : IntKind.i64.wrap (0 + 1) = 1 := rfl
 simp only [l45x1, b45, Tryd.f45, loopAt, loops, bodyOf, go_sem, n0] at hL
 cases hu : upM 2 K1 n with
 | none =>
  rw [hu] at hL
  simp only [go_sem, l45x0, b45, Tryd.f45, q, b0, b1, hL, hlo]
  all_goals rfl
 | some r =>
  rw [hu] at hL
  simp only [go_sem, l45x0, b45, Tryd.f45, q, b0, b1, w1, hL, hlo]
  all_goals rfl
theorem round45b {p : Heap} {N q0 : Nat} {w : Bool} {b : Int} {K1 K2 : Nat} (hlo : lo ≤ p.length) (hK : K2 ≤ 1000) {n : Int} (h0 : 0 ≤ n) (h1 : n ≤ 9223372036854775808) :
  evCode (X45 lo N) loopW l45x0 (O36 w q0 b n K1 K2 1, p) = match upM 5 K2 n with
   | some r => some (.normal, O36 w q0 b r K1 K2 2, p ++ [.cells [.v (.int .u64 5), .v (.int .u64 K2)]])
   | none => some (.ret, [(4, .v (.string ⟨#[]⟩)), (5, .v (.int .i64 1))], p ++ [.cells [.v (.int .u64 5), .v (.int .u64 K2)]]) := by
 have hL := loop36i (lo := lo) (p := p) (N := N) (q0 := q0) (w := w) (b := b) (a1 := K1) (a2 := K2) (i := 1) (x := 5) hlo (by omega) (by omega) hK K2 0 n (by omega) h0 h1
 have n0 : ((0 : Nat) : Int) = 0 := rfl
 have q : decide ((1 : Int) < 2) = true := rfl
 have b0 : (0 : Int) < ((2 : Nat) : Int) := by omega
 have b1 : (1 : Int) < ((2 : Nat) : Int) := by omega
 have w1 : IntKind.i64.wrap (1 + 1) = 2 := rfl
 simp only [l45x1, b45, Tryd.f45, loopAt, loops, bodyOf, go_sem, n0] at hL
 cases hu : upM 5 K2 n with
 | none =>
  rw [hu] at hL
  simp only [go_sem, l45x0, b45, Tryd.f45, q, b0, b1, hL, hlo]
  all_goals rfl
 | some r =>
  rw [hu] at hL
  simp only [go_sem, l45x0, b45, Tryd.f45, q, b0, b1, w1, hL, hlo]
  all_goals rfl
theorem loop36o {p : Heap} {N q0 : Nat} {w : Bool} {b : Int} {K1 K2 : Nat} (hlo : lo ≤ p.length) (hK1 : K1 ≤ 1000) (hK2 : K2 ≤ 1000) {n : Int} (h0 : 0 ≤ n) (h1 : n ≤ 9223372036854775808) :
  ∃ q : Heap, loopW (evCode (X45 lo N) loopW l45x0) (O36 w q0 b n K1 K2 0, p) = match (upM 2 K1 n).bind (upM 5 K2) with
   | some r => some (.exit 1, O36 w q0 b r K1 K2 2 ++ [(67, .v (.bool false))], p ++ q)
   | none => some (.ret, [(4, .v (.string ⟨#[]⟩)), (5, .v (.int .i64 1))], p ++ q) := by
 rw [loop_eq, round45a hlo hK1 h0 h1]
 cases hu : upM 2 K1 n with
 | none => exact ⟨_, by rw [Option.bind_none, loop_r]⟩
 | some r =>
  obtain ⟨r0, r1⟩ := upM_le (x := 2) (by omega) (by omega) K1 n r h0 h1 hu
  simp only [Option.bind_some]
  rw [loop_n, loop_eq, round45b (by simp; omega) hK2 r0 r1]
  cases hu2 : upM 5 K2 r with
  | none => exact ⟨_, by rw [loop_r, List.append_assoc]⟩
  | some m =>
   refine ⟨[.cells [.v (.int .u64 2), .v (.int .u64 K1)]] ++ [.cells [.v (.int .u64 5), .v (.int .u64 K2)]], ?_⟩
   simp only
   rw [loop_n, loop_eq, List.append_assoc]
   have q : decide ((2 : Int) < 2) = false := rfl
   simp only [go_sem, l45x0, b45, Tryd.f45, q]
   all_goals rfl
theorem fv_le : ∀ (k : Nat) (d : Int), (fv k d).1 ≤ k
 | 0, _ => Nat.le_refl _
 | k + 1, d => by
  simp only [fv]
  split
  ·have := fv_le k (d / 5)
   simp only
   omega
  ·simp
theorem p36a (hlo : lo ≤ h.length) {n d : Int} {w : Bool} (h0 : -9223372036854775808 ≤ n) (h1 : n ≤ 9223372036854775807) (h2 : 1 ≤ d) (h3 : d ≤ 9223372036854775807) (hm : mayR n d = true) (hw : (w && decide (1 < d)) = false) :
  ∃ (q : Heap) (a1 a2 : Int), evL (X45 lo h.length) loopW (pc b45 0 9) (args0 [.agg [.v (.int .i64 n), .v (.int .i64 d)], .v (.bool w)], h) = match progN n.natAbs d with
   | some (m, k) => some (.normal, O36 w h.length k m a1 a2 2 ++ [(67, .v (.bool false))], h ++ .cells [.v (.int .i64 n), .v (.int .i64 d)] :: q)
   | none => some (.ret, [(4, .v (.string ⟨#[]⟩)), (5, .v (.int .i64 1))], h ++ .cells [.v (.int .i64 n), .v (.int .i64 d)] :: q) := by
 have k1 := fun lo h hlo => f57 (lo := lo) (h := h) h0 h1 h3 hlo
 rw [hm] at k1
 have k1 := k1 lo (h ++ [.cells [.v (.int .i64 n), .v (.int .i64 d)]]) (by simp; omega)
 have k2 := fun lo h => f59 (lo := lo) (h := h) (d := d) h2 (by omega)
 have k3 := fun lo h => f60 (lo := lo) (h := h) h0 h1
 have wd : IntKind.u64.wrap d = d := wrap_u64 (by omega) (by omega)
 have qd : (d == 0) = false := by simp; omega
 have hA : Go.Lib.ctz 64 d.toNat ≤ 64 := by
  have hlow := Go.Lib.ctzFrom_spec 64 d.toNat (by omega) (by omega)
  have hctz : Go.Lib.ctz 64 d.toNat = Go.Lib.ctzFrom 64 d.toNat := by unfold Go.Lib.ctz; rw [if_neg (by omega)]
  rw [← hctz] at hlow
  obtain ⟨_, _, h⟩ := hlow
  omega
 have hB := fv_le 64 (d / 2 ^ Go.Lib.ctz 64 d.toNat)
 unfold progN
 simp only
 generalize Go.Lib.ctz 64 d.toNat = A at *
 generalize fv 64 (d / 2 ^ A) = BR at *
 obtain ⟨B, R⟩ := BR
 simp only at k2 hB ⊢
 have pre : ∀ wv : Bool, (wv && decide (1 < d)) = false → True := fun _ _ => trivial
 by_cases hR : R = 1
 rotate_left
 ·have qR : (R == 1) = false := by simp [hR]
  rw [if_neg hR]
  refine ⟨[], 0, 0, ?_⟩
  cases w with
  | true =>
   have q1 : decide (1 < d) = false := by simpa using hw
   simp only [go_sem, b45, Tryd.f45, k1, k2, k3, wd, qd, q1, qR, hlo]
   all_goals rfl
  | false =>
   simp only [go_sem, b45, Tryd.f45, k1, k2, k3, wd, qd, qR, hlo]
   all_goals rfl
 have qR : (R == 1) = true := by simp [hR]
 rw [if_pos hR]
 have mx : (if (A : Int) < (B : Int) then (B : Int) else (A : Int)) = ((max A B : Nat) : Int) := by split <;> omega
 have hmA : A ≤ max A B := by omega
 have hmB : B ≤ max A B := by omega
 have hmM : max A B ≤ 64 := by omega
 generalize max A B = M at *
 have w1 : IntKind.i64.wrap ((M : Int) - A) = ((M - A : Nat) : Int) := by rw [wrap_i64 (by omega) (by omega)]; omega
 have w2 : IntKind.i64.wrap ((M : Int) - B) = ((M - B : Nat) : Int) := by rw [wrap_i64 (by omega) (by omega)]; omega
 have w3 : IntKind.u64.wrap (((M - A : Nat) : Int)) = ((M - A : Nat) : Int) := wrap_u64 (by omega) (by omega)
 have w4 : IntKind.u64.wrap (((M - B : Nat) : Int)) = ((M - B : Nat) : Int) := wrap_u64 (by omega) (by omega)
 obtain ⟨q, hL⟩ := loop36o (lo := lo) (p := h ++ [.cells [.v (.int .i64 n), .v (.int .i64 d)]]) (N := h.length) (q0 := h.length) (w := w) (b := M) (K1 := M - A) (K2 := M - B) (by simp; omega) (by omega) (by omega) (n := n.natAbs) (by omega) (by omega)
 refine ⟨q, ((M - A : Nat) : Int), ((M - B : Nat) : Int), ?_⟩
 simp only [l45x0, b45, Tryd.f45, loopAt, loops, bodyOf, go_sem] at hL
 cases hu : (upM 2 (M - A) (n.natAbs : Int)).bind (upM 5 (M - B)) with
 | none =>
  rw [hu] at hL
  cases w with
  | true =>
   have q1 : decide (1 < d) = false := by simpa using hw
   simp only [go_sem, b45, Tryd.f45, k1, k2, k3, wd, qd, q1, qR, mx, w1, w2, w3, w4, hL, hlo, Option.map_none]
   all_goals rfl
  | false =>
   simp only [go_sem, b45, Tryd.f45, k1, k2, k3, wd, qd, qR, mx, w1, w2, w3, w4, hL, hlo, Option.map_none]
   all_goals rfl
 | some m =>
  rw [hu] at hL
  cases w with
  | true =>
   have q1 : decide (1 < d) = false := by simpa using hw
   simp only [go_sem, b45, Tryd.f45, k1, k2, k3, wd, qd, q1, qR, mx, w1, w2, w3, w4, hL, hlo, Option.map_some]
   all_goals rfl
  | false =>
   simp only [go_sem, b45, Tryd.f45, k1, k2, k3, wd, qd, qR, mx, w1, w2, w3, w4, hL, hlo, Option.map_some]
   all_goals rfl
end
end Go.Lift.D7
end

section
open Go.Proofs
namespace Go.Lift.D7
variable [MX]
open Utf Tok Spell
set_option maxRecDepth 20000
set_option maxHeartbeats 4000000
section
variable {lo : Nat} {h : Heap}
theorem bs_45 : (⟨#[45]⟩ : ByteArray) = bs [45] := rfl
theorem bs_46 : (⟨#[46]⟩ : ByteArray) = bs [46] := rfl
theorem bs_48 : (⟨#[48]⟩ : ByteArray) = bs [48] := rfl
def wide (m : Int) (p : Nat) : List Int := List.replicate (p + 1 - (dgt m).length) 48 ++ dgt m
theorem wide_len {m : Int} {p : Nat} : p + 1 ≤ (wide m p).length ∧ (wide m p).length ≤ (dgt m).length + p + 1 := by
 unfold wide
 simp
 omega
theorem p36b (hlo : lo ≤ h.length) {n d m a1 a2 : Int} {w : Bool} {p : Nat} {q : Heap} (h0 : 0 ≤ m) (h1 : m ≤ 9223372036854775808) (hp : p ≤ 1000) :
  evL (X45 lo h.length) loopW (pc b45 9 3) (O36 w h.length p m a1 a2 2 ++ [(67, .v (.bool false))], h ++ .cells [.v (.int .i64 n), .v (.int .i64 d)] :: q) =
   if 18 < (core (dgt m)).length then some (.ret, [(4, .v (.string ⟨#[]⟩)), (5, .v (.int .i64 1))], h ++ .cells [.v (.int .i64 n), .v (.int .i64 d)] :: q)
   else some (.normal, [(1, .v (.bool w)), (2, .ptr h.length 0), (9, .v (.int .i64 p)), (13, .v (.string (bs (dgt m)))), (86, .v (.bool false))], h ++ .cells [.v (.int .i64 n), .v (.int .i64 d)] :: q) := by
 have k1 := fun (lo : Nat) (h : Heap) (hlo : lo ≤ h.length) => f61 (lo := lo) (h := h) hlo h0 (n := m) (by omega)
 have k1 := k1 lo (h ++ .cells [.v (.int .i64 n), .v (.int .i64 d)] :: q) (by simp; omega)
 obtain ⟨l1, l2⟩ := dgt_len 19 m h0 (by
                     have : (10 : Int) ^ (19 + 1) = 100000000000000000000 := by decide
                     omega)
 have k2 := fun lo h => f62 (lo := lo) (h := h) (dgt_by m) (by omega)
 have sz := bs_size (core (dgt m))
 by_cases hc : 18 < (core (dgt m)).length
 ·have q1 : decide (18 < (((core (dgt m)).length : Nat) : Int)) = true := by simp; omega
  rw [if_pos hc]
  simp only [go_sem, b45, Tryd.f45, k1, k2, sz, q1, hlo, O36]
  all_goals rfl
 ·have q1 : decide (18 < (((core (dgt m)).length : Nat) : Int)) = false := by simp; omega
  rw [if_neg hc]
  simp only [go_sem, b45, Tryd.f45, k1, k2, sz, q1, hlo, O36]
  all_goals rfl
theorem p36c {n d m : Int} {w : Bool} {p : Nat} {q : Heap} (h0 : 0 ≤ m) (h1 : m ≤ 9223372036854775808) (hp : p ≤ 1000) :
  evL (X45 lo h.length) loopW (pc b45 12 2) ([(1, .v (.bool w)), (2, .ptr h.length 0), (9, .v (.int .i64 p)), (13, .v (.string (bs (dgt m)))), (86, .v (.bool false))], h ++ .cells [.v (.int .i64 n), .v (.int .i64 d)] :: q) =
   some (.normal, [(1, .v (.bool w)), (2, .ptr h.length 0), (9, .v (.int .i64 p)), (13, .v (.string (bs (wide m p)))), (90, .v (.bool (decide ((dgt m).length ≤ p))))], h ++ .cells [.v (.int .i64 n), .v (.int .i64 d)] :: q) := by
 obtain ⟨l1, l2⟩ := dgt_len 19 m h0 (by
                     have : (10 : Int) ^ (19 + 1) = 100000000000000000000 := by decide
                     omega)
 have sz := bs_size (dgt m)
 unfold wide
 by_cases hc : (dgt m).length ≤ p
 ·have q1 : decide (((dgt m).length : Int) ≤ (p : Int)) = true := by simp; omega
  have q2 : decide ((dgt m).length ≤ p) = true := by simp [hc]
  have w1 : IntKind.i64.wrap ((p : Int) + 1) = (p : Int) + 1 := wrap_i64 (by omega) (by omega)
  have w2 : IntKind.i64.wrap ((p : Int) + 1 - ((dgt m).length : Int)) = (p : Int) + 1 - ((dgt m).length : Int) := wrap_i64 (by omega) (by omega)
  have k1 := fun lo h => f58 (lo := lo) (h := h) (c := 48) (n := (p : Int) + 1 - ((dgt m).length : Int)) (by omega) (by omega)
  have e : ((p : Int) + 1 - ((dgt m).length : Int)).toNat = p + 1 - (dgt m).length := by omega
  have e2 : ((UInt8.toNat 48 : Nat) : Int) = 48 := rfl
  rw [e, e2] at k1
  have z1 : (bs (List.replicate (p + 1 - (dgt m).length) 48)).size + (dgt m).length ≤ 9223372036854775807 := by rw [bs_size, List.length_replicate]; omega
  rw [q2]
  simp only [go_sem, b45, Tryd.f45, sz, q1, w1, w2, k1, bs_app, z1]
  all_goals rfl
 ·have q1 : decide (((dgt m).length : Int) ≤ (p : Int)) = false := by simp; omega
  have q2 : decide ((dgt m).length ≤ p) = false := by simp [hc]
  have e : p + 1 - (dgt m).length = 0 := by omega
  rw [q2, e]
  simp only [go_sem, b45, Tryd.f45, sz, q1]
  all_goals rfl
def point (T : List Int) (p : Nat) (w : Bool) : List Int := if w = true then T else T.take (T.length - p) ++ 46 :: (T.drop (T.length - p) ++ if p = 0 then [48] else [])
theorem p36d {T : List Int} {n d : Int} {w b : Bool} {p : Nat} {q : Heap} (hp : p + 1 ≤ T.length) (hl : T.length ≤ 1000000) :
  ∃ e1 e2 : Env, (e1 = [] ∨ ∃ v, e1 = [(9, v)]) ∧ (e2 = [] ∨ (∃ v, e2 = [(100, v)]) ∨ ∃ v, e2 = [(114, v)]) ∧
  evL (X45 lo h.length) loopW (pc b45 14 2) ([(1, .v (.bool w)), (2, .ptr h.length 0), (9, .v (.int .i64 p)), (13, .v (.string (bs T))), (90, .v (.bool b))], h ++ .cells [.v (.int .i64 n), .v (.int .i64 d)] :: q) =
   some (.normal, (2, .ptr h.length 0) :: (e1 ++ (13, .v (.string (bs (point T p w)))) :: e2), h ++ .cells [.v (.int .i64 n), .v (.int .i64 d)] :: q) := by
 unfold point
 cases w with
 | true =>
  refine ⟨[(9, .v (.int .i64 p))], [(100, .v (.bool false))], .inr ⟨_, rfl⟩, .inr (.inl ⟨_, rfl⟩), ?_⟩
  simp only [go_sem, b45, Tryd.f45]
  all_goals rfl
 | false =>
  have sz := bs_size T
  have w1 : IntKind.i64.wrap ((T.length : Int) - (p : Int)) = ((T.length - p : Nat) : Int) := by rw [wrap_i64 (by omega) (by omega)]; omega
  have b1 : T.length - p ≤ T.length := by omega
  have e1 : (T.take T.length).drop (T.length - p) = T.drop (T.length - p) := by rw [List.take_length]
  have e0 : (T.take (T.length - p)).drop 0 = T.take (T.length - p) := rfl
  have zz : ∀ a b : List Int, a.length + b.length ≤ 2000000000 → (bs a).size + (bs b).size ≤ 9223372036854775807 := fun a b h => by rw [bs_size, bs_size]; omega
  have z1 := zz (T.take (T.length - p)) [46] (by simp; omega)
  have z2 := zz (T.take (T.length - p) ++ [46]) (T.drop (T.length - p)) (by simp; omega)
  have z3 := zz (T.take (T.length - p) ++ [46] ++ T.drop (T.length - p)) [48] (by simp; omega)
  rw [List.append_assoc, List.singleton_append] at z3
  have z0 : 0 ≤ T.length - p := Nat.zero_le _
  by_cases hp0 : p = 0
  ·have q0 : ((p : Int) == 0) = true := by simp [hp0]
   have q2 : (p == 0) = true := by simp [hp0]
   rw [if_pos hp0]
   refine ⟨[(9, .undef)], [(100, .undef)], .inr ⟨_, rfl⟩, .inr (.inl ⟨_, rfl⟩), ?_⟩
   simp only [go_sem, b45, Tryd.f45, sz, w1, b1, bs_ext, e0, e1, bs_46, bs_48, bs_app, q0, z0, z1, z2, z3, Nat.le_refl, List.append_assoc]
   all_goals rfl
  ·have q0 : ((p : Int) == 0) = false := by simp; omega
   have q2 : (p == 0) = false := by simp [hp0]
   rw [if_neg hp0]
   refine ⟨[], [(114, .v (.bool false))], .inl rfl, .inr (.inr ⟨_, rfl⟩), ?_⟩
   simp only [go_sem, b45, Tryd.f45, sz, w1, b1, bs_ext, e0, e1, bs_46, bs_48, bs_app, q0, z0, z1, z2, z3, Nat.le_refl, List.append_assoc]
   all_goals rfl
theorem p36e {T : List Int} {n d : Int} {q : Heap} {e1 e2 : Env} (hl : T.length ≤ 2000000) (he : e1 = [] ∨ ∃ v, e1 = [(9, v)]) (ht : e2 = [] ∨ (∃ v, e2 = [(100, v)]) ∨ ∃ v, e2 = [(114, v)]) :
  evL (X45 lo h.length) loopW (pc b45 16 4) ((2, .ptr h.length 0) :: (e1 ++ (13, .v (.string (bs T))) :: e2), h ++ .cells [.v (.int .i64 n), .v (.int .i64 d)] :: q) =
   some (.ret, [(4, .v (.string (bs ((if n < 0 then [45] else []) ++ T)))), (5, .v (.int .i64 0))], h ++ .cells [.v (.int .i64 n), .v (.int .i64 d)] :: q) := by
 have z1 : (bs [45]).size + (bs T).size ≤ 9223372036854775807 := by rw [bs_size, bs_size]; simp; omega
 by_cases hn : n < 0
 ·have q1 : decide (n < 0) = true := by simp [hn]
  rw [if_pos hn]
  rcases he with rfl | ⟨v, rfl⟩ <;> rcases ht with rfl | ⟨v2, rfl⟩ | ⟨v2, rfl⟩ <;>
  simp only [go_sem, b45, Tryd.f45, q1, bs_45, bs_app, z1] <;> rfl
 ·have q1 : decide (n < 0) = false := by simp; omega
  rw [if_neg hn]
  rcases he with rfl | ⟨v, rfl⟩ <;> rcases ht with rfl | ⟨v2, rfl⟩ | ⟨v2, rfl⟩ <;>
  simp only [go_sem, b45, Tryd.f45, q1, List.nil_append] <;> rfl
theorem fin36 {x : List Int} {e : Int} {c : Ob} {q : Heap} : fin Tryd.prog [.tmp 4, .tmp 5] h.length (some (.ret, [(4, .v (.string (bs x))), (5, .v (.int .i64 e))], h ++ c :: q)) = some (.tup [.v (.string (bs x)), .v (.int .i64 e)], h) := by
 simp only [go_sem]
 all_goals rfl
def plainV (x : Option (List Int)) : V := match x with
 | some t => .tup [.v (.string (bs t)), .v (.int .i64 0)]
 | none => .tup [.v (.string (bs [])), .v (.int .i64 1)]
theorem prog_one {n m : Int} {p : Nat} (h : progN n 1 = some (m, p)) : p = 0 := by
 have hc : Go.Lib.ctz 64 1 = 0 := by decide
 unfold progN at h
 have e1 : (1 : Int).toNat = 1 := rfl
 have e2 : (1 : Int) / 2 ^ 0 = 1 := rfl
 have e3 : fv 64 1 = (0, 1) := rfl
 simp only [e1, hc, e2, e3] at h
 simp [upM] at h
 omega
end
end Go.Lift.D7
end

section
open Go.Proofs
namespace Go.Lift.D7
variable [MX]
open Utf Tok Spell
set_option maxRecDepth 20000
set_option maxHeartbeats 4000000
section
variable {lo : Nat} {h : Heap}
theorem numText_eq {b w : Bool} {m : Int} {p : Nat} (hw : w = true → p = 0) :
  numText b w m p = if 18 < (core (dgt m)).length then none else some ((if b = true then [45] else []) ++ point (wide m p) p w) := by
 unfold numText point wide
 split
 ·rfl
 ·cases w with
  | true =>
   obtain rfl := hw rfl
   simp
   rw [List.take_of_length_le (by simp)]
  | false => simp
theorem may_pos {n d : Int} (hm : mayR n d = true) (hd : d ≠ 0) : 1 ≤ d := by
 unfold mayR sureR at hm
 simp only [Bool.or_eq_true, Bool.and_eq_true, beq_iff_eq, decide_eq_true_eq] at hm
 rcases hm with ⟨_, h⟩ | ⟨⟨h, _⟩, _⟩
 ·exact absurd h hd
 ·exact h
theorem progN_le {n d m : Int} {p : Nat} (h0 : 0 ≤ n) (h1 : n ≤ 9223372036854775808) (hd0 : 1 ≤ d) (hd1 : d ≤ 9223372036854775807) (h : progN n d = some (m, p)) : 0 ≤ m ∧ m ≤ 9223372036854775808 ∧ p ≤ 64 := by
 unfold progN at h
 simp only at h
 split at h
 ·have hA : Go.Lib.ctz 64 d.toNat ≤ 64 := by
   have hlow := Go.Lib.ctzFrom_spec 64 d.toNat (by omega) (by omega)
   have hctz : Go.Lib.ctz 64 d.toNat = Go.Lib.ctzFrom 64 d.toNat := by unfold Go.Lib.ctz; rw [if_neg (by omega)]
   rw [← hctz] at hlow
   obtain ⟨_, _, h⟩ := hlow
   omega
  have hB := fv_le 64 (d / 2 ^ Go.Lib.ctz 64 d.toNat)
  generalize Go.Lib.ctz 64 d.toNat = A at *
  generalize (fv 64 (d / 2 ^ A)).1 = B at *
  generalize hM : max A B = M at *
  cases hu : upM 2 (M - A) n with
  | none => rw [hu] at h; cases h
  | some r =>
   rw [hu, Option.bind_some] at h
   obtain ⟨r0, r1⟩ := upM_le (x := 2) (by omega) (by omega) _ _ _ h0 h1 hu
   cases hv : upM 5 (M - B) r with
   | none => rw [hv] at h; cases h
   | some s =>
    rw [hv] at h
    simp only [Option.map_some, Option.some.injEq, Prod.mk.injEq] at h
    obtain ⟨s0, s1⟩ := upM_le (x := 5) (by omega) (by omega) _ _ _ r0 r1 hv
    omega
 ·cases h
theorem f45 (hlo : lo ≤ h.length) {n d : Int} {w : Bool} (h0 : -9223372036854775808 ≤ n) (h1 : n ≤ 9223372036854775807) (h2 : -9223372036854775808 ≤ d) (h3 : d ≤ 9223372036854775807) :
  E lo 45 [.agg [.v (.int .i64 n), .v (.int .i64 d)], .v (.bool w)] h = some (plainV (plainT n d w), h) := by
 have k1 := fun lo h hlo => f57 (lo := lo) (h := h) h0 h1 h3 hlo
 have k1 := k1 lo (h ++ [.cells [.v (.int .i64 n), .v (.int .i64 d)]]) (by simp; omega)
 rw [e45 (by simp) (by rfl)]
 cases hm : mayR n d with
 | false =>
  have e : plainT n d w = none := by unfold plainT; rw [hm]; rfl
  rw [hm] at k1
  rw [e]
  simp only [go_sem, b45, Tryd.f45, k1, hlo, plainV]
  all_goals rfl
 | true =>
  cases hw : (w && decide (1 < d)) with
  | true =>
   have e : plainT n d w = none := by unfold plainT; rw [hm, hw]; rfl
   rw [hm] at k1
   rw [Bool.and_eq_true] at hw
   obtain ⟨rfl, q⟩ := hw
   rw [e]
   simp only [go_sem, b45, Tryd.f45, k1, hlo, plainV, q]
   all_goals rfl
  | false =>
   by_cases hd : d = 0
   ·have e : plainT n d w = some (if w = true then List.replicate 20 57 else [49, 101, 57, 57]) := by unfold plainT; rw [hm, hw, if_neg (by simp), if_pos hd]
    rw [hm] at k1
    rw [e]
    subst hd
    cases w with
    | true =>
     have k2 := fun lo h => f58 (lo := lo) (h := h) (c := 57) (n := 20) (by omega) (by omega)
     have q : ((0 : Int) == 0) = true := rfl
     have q2 : decide ((1 : Int) < 0) = false := rfl
     simp only [go_sem, b45, Tryd.f45, k1, k2, hlo, plainV, q, q2]
     all_goals rfl
    | false =>
     have q : ((0 : Int) == 0) = true := rfl
     simp only [go_sem, b45, Tryd.f45, k1, hlo, plainV, q]
     all_goals rfl
   ·have h1d := may_pos hm hd
    obtain ⟨q, a1, a2, pa⟩ := p36a (lo := lo) (h := h) hlo h0 h1 h1d h3 hm hw
    have e : plainT n d w = match progN n.natAbs d with
      | none => none
      | some (m, p) => numText (decide (n < 0)) w m p := by unfold plainT; rw [hm, hw, if_neg (by simp), if_neg hd]; cases progN (n.natAbs : Int) d <;> rfl
    rw [e, pc_in, pc_go _ _ _ _ 0 9]
    unfold X45 at pa
    rw [pa]
    cases hp : progN (n.natAbs : Int) d with
    | none =>
     simp only
     rw [pc_r]
     exact fin36 (x := [])
    | some mp =>
     obtain ⟨m, p⟩ := mp
     obtain ⟨m0, m1, p1⟩ := progN_le (by omega) (by omega) h1d h3 hp
     have hwp : w = true → p = 0 := fun hw1 => by
      subst hw1
      have : d = 1 := by simp at hw; omega
      subst this
      exact prog_one hp
     simp only
     rw [numText_eq hwp, pc_go _ _ _ _ _ 3]
     have pb := p36b (lo := lo) (h := h) hlo (n := n) (d := d) (m := m) (a1 := a1) (a2 := a2) (w := w) (p := p) (q := q) m0 m1 (by omega)
     unfold X45 at pb
     rw [pb]
     by_cases hc : 18 < (core (dgt m)).length
     ·rw [if_pos hc, if_pos hc, pc_r]
      exact fin36 (x := [])
     ·rw [if_neg hc, if_neg hc, pc_go _ _ _ _ _ 2]
      have pcc := p36c (lo := lo) (h := h) (n := n) (d := d) (m := m) (w := w) (p := p) (q := q) m0 m1 (by omega)
      unfold X45 at pcc
      rw [pcc, pc_go _ _ _ _ _ 2]
      obtain ⟨l1, l2⟩ := wide_len (m := m) (p := p)
      obtain ⟨g1, g2⟩ := dgt_len 19 m m0 (by
                          have : (10 : Int) ^ (19 + 1) = 100000000000000000000 := by decide
                          omega)
      obtain ⟨e1, e2, x1, x2, pd⟩ := p36d (lo := lo) (h := h) (T := wide m p) (n := n) (d := d) (w := w) (b := decide ((dgt m).length ≤ p)) (p := p) (q := q) l1 (by omega)
      unfold X45 at pd
      rw [pd, pc_go _ _ _ _ _ 4]
      have pe := p36e (lo := lo) (h := h) (T := point (wide m p) p w) (n := n) (d := d) (q := q) (e1 := e1) (e2 := e2) (by
       unfold point
       split
       ·omega
       ·simp only [List.length_append, List.length_cons, List.length_take, List.length_drop]
        split <;> simp <;> omega) x1 x2
      unfold X45 at pe
      rw [pe, pc_r, fin36]
      simp only [decide_eq_true_eq]
      rfl
end
end Go.Lift.D7
end

section
open Go.Proofs
namespace Go.Lift.D7
variable [MX]
open Utf
set_option maxRecDepth 20000
theorem round40 {lo : Nat} {b : List Int} {h : Heap} {i n : Nat} {r low high c : Int} (hc : b[i + 1]? = some c) (hi : i < n) (hn : n ≤ 3) (hb : b.length ≤ 140737488355328) (hl : i + 1 < b.length)
  (c0 : 0 ≤ c) (c1 : c ≤ 255) (r0 : 0 ≤ r) (r1 : r ≤ 1000000) (hx : (decide (c < low) || decide (high < c)) = false) :
  evCode ⟨Tryd.prog, E, lo, h.length, h40⟩ loopW l40x0 ([(0, .list .no (ri .u8 b)), (5, .v (.int .u8 low)), (6, .v (.int .u8 high)), (7, .v (.int .i64 n)), (8, .v (.int .i32 r)), (58, .v (.int .i64 n)), (59, .v (.int .i64 i))], h) =
   some (.normal, [(0, .list .no (ri .u8 b)), (5, .v (.int .u8 128)), (6, .v (.int .u8 191)), (7, .v (.int .i64 n)), (8, .v (.int .i32 (r * 64 + c % 64))), (58, .v (.int .i64 n)), (59, .v (.int .i64 (i + 1 : Nat)))], h) := by
 have hd : decide ((i : Int) < n) = true := by simpa using hi
 have hw : IntKind.i64.wrap ((i : Int) + 1) = ((i + 1 : Nat) : Int) := wrap_succ (by omega)
 have hg : decide ((b.length : Int) ≤ (i + 1 : Nat)) = false := by simp; omega
 have hx1 : decide (c < low) = false := by simp at hx; simp; omega
 have hx2 : decide (high < c) = false := by simp at hx; simp; omega
 simp only [go_sem, l40x0, b40, Tryd.f40, hd, hc, hw, hg, hx1, hx2]
 rw [shl6 r0 r1, a63 c0 c1, wrap_u8 (by omega) (by omega), wrap_i32 (n := c % 64) (by omega) (by omega), or64 r0 r1 (by omega) (by omega), wrap_i32 (by omega) (by omega)]
theorem stop40 {lo : Nat} {b : List Int} {h : Heap} {i n : Nat} {r low high : Int} (hi : i < n) (hn : n ≤ 3) (hb : b.length ≤ 140737488355328)
  (hs : b.length ≤ i + 1 ∨ ∃ c, b[i + 1]? = some c ∧ i + 1 < b.length ∧ (c < low ∨ high < c)) :
  evCode ⟨Tryd.prog, E, lo, h.length, h40⟩ loopW l40x0 ([(0, .list .no (ri .u8 b)), (5, .v (.int .u8 low)), (6, .v (.int .u8 high)), (7, .v (.int .i64 n)), (8, .v (.int .i32 r)), (58, .v (.int .i64 n)), (59, .v (.int .i64 i))], h) =
   some (.ret, [(2, .v (.int .i32 65533)), (3, .v (.int .i64 (i + 1 : Nat)))], h) := by
 have hd : decide ((i : Int) < n) = true := by simpa using hi
 have hw : IntKind.i64.wrap ((i : Int) + 1) = ((i + 1 : Nat) : Int) := wrap_succ (by omega)
 rcases hs with hs | ⟨c, hc, hl, hs⟩
 ·have hg : decide ((b.length : Int) ≤ (i + 1 : Nat)) = true := by simp; omega
  have hc : b[i + 1]? = none := List.getElem?_eq_none hs
  simp only [go_sem, l40x0, b40, Tryd.f40, hd, hw, hg, hc]
 ·have hg : decide ((b.length : Int) ≤ (i + 1 : Nat)) = false := by simp; omega
  by_cases h1 : c < low
  ·have hx1 : decide (c < low) = true := by simp; omega
   simp only [go_sem, l40x0, b40, Tryd.f40, hd, hc, hw, hg, hx1]
  ·have hx1 : decide (c < low) = false := by simp; omega
   have hx2 : decide (high < c) = true := by simp; omega
   simp only [go_sem, l40x0, b40, Tryd.f40, hd, hc, hw, hg, hx1, hx2]
def end40 (b : List Int) (n : Nat) (x : Int × Nat × Bool) (h : Heap) (z : Ex × St) : Prop :=
 if x.2.2 = true then ∃ low high, z = (.exit 3, [(0, .list .no (ri .u8 b)), (5, .v (.int .u8 low)), (6, .v (.int .u8 high)), (7, .v (.int .i64 n)), (8, .v (.int .i32 x.1)), (58, .v (.int .i64 n)), (59, .v (.int .i64 n)), (60, .v (.bool false))], h)
 else z = (.ret, [(2, .v (.int .i32 x.1)), (3, .v (.int .i64 x.2.1))], h)
theorem more_snd : ∀ (n : Nat) (r lo hi : Int) (k : Nat) (t : List Int), (more n r lo hi k t).2.2 = true → (more n r lo hi k t).2.1 = k + n
 | 0, _, _, _, _, _, _ => rfl
 | n + 1, r, lo, hi, k, [], h => by simp [more] at h
 | n + 1, r, lo, hi, k, c :: t, h => by
  unfold more at h ⊢
  split at h
  ·simp at h
  ·rename_i hc
   rw [if_neg hc, more_snd n _ _ _ _ _ h]
   omega
theorem loop40 {lo : Nat} {b : List Int} {h : Heap} {n : Nat} (hn : n ≤ 3) (hb : b.length ≤ 140737488355328) (hy : By b) : ∀ (m i : Nat) (r low high : Int), m = n - i → i ≤ n → 0 ≤ r → (r + 1) * 64 ^ m ≤ 64000000 →
  ∃ z, loopW (evCode ⟨Tryd.prog, E, lo, h.length, h40⟩ loopW l40x0) ([(0, .list .no (ri .u8 b)), (5, .v (.int .u8 low)), (6, .v (.int .u8 high)), (7, .v (.int .i64 n)), (8, .v (.int .i32 r)), (58, .v (.int .i64 n)), (59, .v (.int .i64 i))], h) = some z
   ∧ end40 b n (more m r low high (i + 1) (b.drop (i + 1))) h z := by
 intro m
 induction m with
 | zero =>
  intro i r low high hm hi h0 h1
  obtain rfl : i = n := by omega
  have hd : decide ((i : Int) < i) = false := by simp
  rw [loop_eq]
  simp only [go_sem, l40x0, b40, Tryd.f40, hd]
  exact ⟨_, rfl, low, high, rfl⟩
 | succ m ih =>
  intro i r low high hm hi h0 h1
  have hlt : i < n := by omega
  rw [loop_eq]
  by_cases hl : i + 1 < b.length
  ·have hc : b[i + 1]? = some b[i + 1] := List.getElem?_eq_getElem hl
   have hcy := hy b[i + 1] (List.getElem_mem hl)
   rw [List.drop_eq_getElem_cons hl]
   by_cases hx : b[i + 1] < low ∨ high < b[i + 1]
   ·rw [stop40 hlt hn hb (.inr ⟨_, hc, hl, hx⟩), loop_r]
    exact ⟨_, rfl, by simp only [more, if_pos hx]; rfl⟩
   ·rw [Int.pow_succ] at h1
    have hp : (1 : Int) ≤ 64 ^ m := Int.pow_pos (by omega)
    have hr : (r + 1) * 64 * 64 ^ m = (r + 1) * (64 ^ m * 64) := by rw [Int.mul_assoc, Int.mul_comm 64]
    have h2 : (r + 1) * 64 * 1 ≤ (r + 1) * 64 * 64 ^ m := Int.mul_le_mul_of_nonneg_left hp (by omega)
    have h3 : (r * 64 + b[i + 1] % 64 + 1) * 64 ^ m ≤ (r + 1) * 64 * 64 ^ m := Int.mul_le_mul_of_nonneg_right (by omega) (by omega)
    rw [round40 hc hlt hn hb hl hcy.1 hcy.2 h0 (by omega) (by simp; omega), loop_n]
    have := ih (i + 1) (r * 64 + b[i + 1] % 64) 128 191 (by omega) (by omega) (by omega) (by omega)
    simpa only [more, if_neg hx] using this
  ·have hs : b.length ≤ i + 1 := by omega
   rw [stop40 hlt hn hb (.inl hs), loop_r, List.drop_eq_nil_of_le hs]
   exact ⟨_, rfl, rfl⟩
end Go.Lift.D7
end

section
open Go.Proofs
namespace Go.Lift.D7
variable [MX]
open Utf
set_option maxRecDepth 20000
def two (x : Int × Nat × Bool) : V := .tup [.v (.int .i32 x.1), .v (.int .i64 x.2.1)]
theorem f40a {lo : Nat} {c : Int} {t : List Int} {h : Heap} (hb : (c :: t).length ≤ 140737488355328) (hy : By (c :: t)) (hc : 194 ≤ c ∧ c ≤ 223) :
  E lo 40 [.list .no (ri .u8 (c :: t))] h = some (two (more 1 (c % 32) 128 191 1 t), h) := by
 have hcy := hy c (List.mem_cons_self ..)
 have t0 : decide (c < 128) = false := by simp; omega
 have t1 : decide (194 ≤ c) = true := by simp; omega
 have t2 : decide (c ≤ 223) = true := by simp; omega
 have t3 : decide (224 ≤ c) = false := by simp; omega
 have t4 : decide (c ≤ 239) = true := by simp; omega
 have t5 : decide (240 ≤ c) = false := by simp; omega
 have t6 : decide (c ≤ 244) = true := by simp; omega
 have q0 : (c == 224) = false := by simp; omega
 have q1 : (c == 237) = false := by simp; omega
 have q2 : (c == 240) = false := by simp; omega
 have q3 : (c == 244) = false := by simp; omega
 have hx : (c :: t)[0]? = some c := rfl
 have hm : IntKind.i32.wrap (IntKind.u8.wrap (iand .u8 c 31)) = c % 32 := by rw [a31 hcy.1 hcy.2, wrap_u8 (by omega) (by omega), wrap_i32 (by omega) (by omega)]
 obtain ⟨z, hL, hz⟩ := loop40 (lo := lo) (b := c :: t) (h := h) (n := 1) (by omega) hb hy 1 0 (c % 32) 128 191 rfl (by omega) (by omega) (by omega)
 have hn : (c :: t).drop (0 + 1) = t := rfl
 rw [hn] at hz
 have n1 : ((1 : Nat) : Int) = 1 := rfl
 have n2 : ((2 : Nat) : Int) = 2 := rfl
 have n3 : ((3 : Nat) : Int) = 3 := rfl
 simp only [l40x0, b40, Tryd.f40, loopAt, loops, bodyOf, go_sem, n1, n2, n3] at hL
 rw [e40 (by simp) (by rfl)]
 unfold end40 at hz
 split at hz
 ·rename_i hk
  obtain ⟨low, high, rfl⟩ := hz
  simp only [n1, n2, n3] at hL
  simp only [go_sem, b40, Tryd.f40, hx, t0, t1, t2, t3, t4, t5, t6, q0, q1, q2, q3, hm, hL]
  rw [two, more_snd _ _ _ _ _ _ hk]
  rfl
 ·subst hz
  simp only [go_sem, b40, Tryd.f40, hx, t0, t1, t2, t3, t4, t5, t6, q0, q1, q2, q3, hm, hL]
  rfl
theorem f40b {lo : Nat} {c : Int} {t : List Int} {h : Heap} (hb : (c :: t).length ≤ 140737488355328) (hy : By (c :: t)) (hc : c = 224) :
  E lo 40 [.list .no (ri .u8 (c :: t))] h = some (two (more 2 (c % 16) 160 191 1 t), h) := by
 have hcy := hy c (List.mem_cons_self ..)
 have t0 : decide (c < 128) = false := by simp; omega
 have t1 : decide (194 ≤ c) = true := by simp; omega
 have t2 : decide (c ≤ 223) = false := by simp; omega
 have t3 : decide (224 ≤ c) = true := by simp; omega
 have t4 : decide (c ≤ 239) = true := by simp; omega
 have t5 : decide (240 ≤ c) = false := by simp; omega
 have t6 : decide (c ≤ 244) = true := by simp; omega
 have q0 : (c == 224) = true := by simp; omega
 have q1 : (c == 237) = false := by simp; omega
 have q2 : (c == 240) = false := by simp; omega
 have q3 : (c == 244) = false := by simp; omega
 have hx : (c :: t)[0]? = some c := rfl
 have hm : IntKind.i32.wrap (IntKind.u8.wrap (iand .u8 c 15)) = c % 16 := by rw [a15 hcy.1 hcy.2, wrap_u8 (by omega) (by omega), wrap_i32 (by omega) (by omega)]
 obtain ⟨z, hL, hz⟩ := loop40 (lo := lo) (b := c :: t) (h := h) (n := 2) (by omega) hb hy 2 0 (c % 16) 160 191 rfl (by omega) (by omega) (by omega)
 have hn : (c :: t).drop (0 + 1) = t := rfl
 rw [hn] at hz
 have n1 : ((1 : Nat) : Int) = 1 := rfl
 have n2 : ((2 : Nat) : Int) = 2 := rfl
 have n3 : ((3 : Nat) : Int) = 3 := rfl
 simp only [l40x0, b40, Tryd.f40, loopAt, loops, bodyOf, go_sem, n1, n2, n3] at hL
 rw [e40 (by simp) (by rfl)]
 unfold end40 at hz
 split at hz
 ·rename_i hk
  obtain ⟨low, high, rfl⟩ := hz
  simp only [n1, n2, n3] at hL
  simp only [go_sem, b40, Tryd.f40, hx, t0, t1, t2, t3, t4, t5, t6, q0, q1, q2, q3, hm, hL]
  rw [two, more_snd _ _ _ _ _ _ hk]
  rfl
 ·subst hz
  simp only [go_sem, b40, Tryd.f40, hx, t0, t1, t2, t3, t4, t5, t6, q0, q1, q2, q3, hm, hL]
  rfl
theorem f40c {lo : Nat} {c : Int} {t : List Int} {h : Heap} (hb : (c :: t).length ≤ 140737488355328) (hy : By (c :: t)) (hc : c = 237) :
  E lo 40 [.list .no (ri .u8 (c :: t))] h = some (two (more 2 (c % 16) 128 159 1 t), h) := by
 have hcy := hy c (List.mem_cons_self ..)
 have t0 : decide (c < 128) = false := by simp; omega
 have t1 : decide (194 ≤ c) = true := by simp; omega
 have t2 : decide (c ≤ 223) = false := by simp; omega
 have t3 : decide (224 ≤ c) = true := by simp; omega
 have t4 : decide (c ≤ 239) = true := by simp; omega
 have t5 : decide (240 ≤ c) = false := by simp; omega
 have t6 : decide (c ≤ 244) = true := by simp; omega
 have q0 : (c == 224) = false := by simp; omega
 have q1 : (c == 237) = true := by simp; omega
 have q2 : (c == 240) = false := by simp; omega
 have q3 : (c == 244) = false := by simp; omega
 have hx : (c :: t)[0]? = some c := rfl
 have hm : IntKind.i32.wrap (IntKind.u8.wrap (iand .u8 c 15)) = c % 16 := by rw [a15 hcy.1 hcy.2, wrap_u8 (by omega) (by omega), wrap_i32 (by omega) (by omega)]
 obtain ⟨z, hL, hz⟩ := loop40 (lo := lo) (b := c :: t) (h := h) (n := 2) (by omega) hb hy 2 0 (c % 16) 128 159 rfl (by omega) (by omega) (by omega)
 have hn : (c :: t).drop (0 + 1) = t := rfl
 rw [hn] at hz
 have n1 : ((1 : Nat) : Int) = 1 := rfl
 have n2 : ((2 : Nat) : Int) = 2 := rfl
 have n3 : ((3 : Nat) : Int) = 3 := rfl
 simp only [l40x0, b40, Tryd.f40, loopAt, loops, bodyOf, go_sem, n1, n2, n3] at hL
 rw [e40 (by simp) (by rfl)]
 unfold end40 at hz
 split at hz
 ·rename_i hk
  obtain ⟨low, high, rfl⟩ := hz
  simp only [n1, n2, n3] at hL
  simp only [go_sem, b40, Tryd.f40, hx, t0, t1, t2, t3, t4, t5, t6, q0, q1, q2, q3, hm, hL]
  rw [two, more_snd _ _ _ _ _ _ hk]
  rfl
 ·subst hz
  simp only [go_sem, b40, Tryd.f40, hx, t0, t1, t2, t3, t4, t5, t6, q0, q1, q2, q3, hm, hL]
  rfl
theorem f40d {lo : Nat} {c : Int} {t : List Int} {h : Heap} (hb : (c :: t).length ≤ 140737488355328) (hy : By (c :: t)) (hc : 225 ≤ c ∧ c ≤ 239 ∧ c ≠ 237) :
  E lo 40 [.list .no (ri .u8 (c :: t))] h = some (two (more 2 (c % 16) 128 191 1 t), h) := by
 have hcy := hy c (List.mem_cons_self ..)
 have t0 : decide (c < 128) = false := by simp; omega
 have t1 : decide (194 ≤ c) = true := by simp; omega
 have t2 : decide (c ≤ 223) = false := by simp; omega
 have t3 : decide (224 ≤ c) = true := by simp; omega
 have t4 : decide (c ≤ 239) = true := by simp; omega
 have t5 : decide (240 ≤ c) = false := by simp; omega
 have t6 : decide (c ≤ 244) = true := by simp; omega
 have q0 : (c == 224) = false := by simp; omega
 have q1 : (c == 237) = false := by simp; omega
 have q2 : (c == 240) = false := by simp; omega
 have q3 : (c == 244) = false := by simp; omega
 have hx : (c :: t)[0]? = some c := rfl
 have hm : IntKind.i32.wrap (IntKind.u8.wrap (iand .u8 c 15)) = c % 16 := by rw [a15 hcy.1 hcy.2, wrap_u8 (by omega) (by omega), wrap_i32 (by omega) (by omega)]
 obtain ⟨z, hL, hz⟩ := loop40 (lo := lo) (b := c :: t) (h := h) (n := 2) (by omega) hb hy 2 0 (c % 16) 128 191 rfl (by omega) (by omega) (by omega)
 have hn : (c :: t).drop (0 + 1) = t := rfl
 rw [hn] at hz
 have n1 : ((1 : Nat) : Int) = 1 := rfl
 have n2 : ((2 : Nat) : Int) = 2 := rfl
 have n3 : ((3 : Nat) : Int) = 3 := rfl
 simp only [l40x0, b40, Tryd.f40, loopAt, loops, bodyOf, go_sem, n1, n2, n3] at hL
 rw [e40 (by simp) (by rfl)]
 unfold end40 at hz
 split at hz
 ·rename_i hk
  obtain ⟨low, high, rfl⟩ := hz
  simp only [n1, n2, n3] at hL
  simp only [go_sem, b40, Tryd.f40, hx, t0, t1, t2, t3, t4, t5, t6, q0, q1, q2, q3, hm, hL]
  rw [two, more_snd _ _ _ _ _ _ hk]
  rfl
 ·subst hz
  simp only [go_sem, b40, Tryd.f40, hx, t0, t1, t2, t3, t4, t5, t6, q0, q1, q2, q3, hm, hL]
  rfl
theorem f40e {lo : Nat} {c : Int} {t : List Int} {h : Heap} (hb : (c :: t).length ≤ 140737488355328) (hy : By (c :: t)) (hc : c = 240) :
  E lo 40 [.list .no (ri .u8 (c :: t))] h = some (two (more 3 (c % 8) 144 191 1 t), h) := by
 have hcy := hy c (List.mem_cons_self ..)
 have t0 : decide (c < 128) = false := by simp; omega
 have t1 : decide (194 ≤ c) = true := by simp; omega
 have t2 : decide (c ≤ 223) = false := by simp; omega
 have t3 : decide (224 ≤ c) = true := by simp; omega
 have t4 : decide (c ≤ 239) = false := by simp; omega
 have t5 : decide (240 ≤ c) = true := by simp; omega
 have t6 : decide (c ≤ 244) = true := by simp; omega
 have q0 : (c == 224) = false := by simp; omega
 have q1 : (c == 237) = false := by simp; omega
 have q2 : (c == 240) = true := by simp; omega
 have q3 : (c == 244) = false := by simp; omega
 have hx : (c :: t)[0]? = some c := rfl
 have hm : IntKind.i32.wrap (IntKind.u8.wrap (iand .u8 c 7)) = c % 8 := by rw [a7 hcy.1 hcy.2, wrap_u8 (by omega) (by omega), wrap_i32 (by omega) (by omega)]
 obtain ⟨z, hL, hz⟩ := loop40 (lo := lo) (b := c :: t) (h := h) (n := 3) (by omega) hb hy 3 0 (c % 8) 144 191 rfl (by omega) (by omega) (by omega)
 have hn : (c :: t).drop (0 + 1) = t := rfl
 rw [hn] at hz
 have n1 : ((1 : Nat) : Int) = 1 := rfl
 have n2 : ((2 : Nat) : Int) = 2 := rfl
 have n3 : ((3 : Nat) : Int) = 3 := rfl
 simp only [l40x0, b40, Tryd.f40, loopAt, loops, bodyOf, go_sem, n1, n2, n3] at hL
 rw [e40 (by simp) (by rfl)]
 unfold end40 at hz
 split at hz
 ·rename_i hk
  obtain ⟨low, high, rfl⟩ := hz
  simp only [n1, n2, n3] at hL
  simp only [go_sem, b40, Tryd.f40, hx, t0, t1, t2, t3, t4, t5, t6, q0, q1, q2, q3, hm, hL]
  rw [two, more_snd _ _ _ _ _ _ hk]
  rfl
 ·subst hz
  simp only [go_sem, b40, Tryd.f40, hx, t0, t1, t2, t3, t4, t5, t6, q0, q1, q2, q3, hm, hL]
  rfl
theorem f40f {lo : Nat} {c : Int} {t : List Int} {h : Heap} (hb : (c :: t).length ≤ 140737488355328) (hy : By (c :: t)) (hc : 241 ≤ c ∧ c ≤ 243) :
  E lo 40 [.list .no (ri .u8 (c :: t))] h = some (two (more 3 (c % 8) 128 191 1 t), h) := by
 have hcy := hy c (List.mem_cons_self ..)
 have t0 : decide (c < 128) = false := by simp; omega
 have t1 : decide (194 ≤ c) = true := by simp; omega
 have t2 : decide (c ≤ 223) = false := by simp; omega
 have t3 : decide (224 ≤ c) = true := by simp; omega
 have t4 : decide (c ≤ 239) = false := by simp; omega
 have t5 : decide (240 ≤ c) = true := by simp; omega
 have t6 : decide (c ≤ 244) = true := by simp; omega
 have q0 : (c == 224) = false := by simp; omega
 have q1 : (c == 237) = false := by simp; omega
 have q2 : (c == 240) = false := by simp; omega
 have q3 : (c == 244) = false := by simp; omega
 have hx : (c :: t)[0]? = some c := rfl
 have hm : IntKind.i32.wrap (IntKind.u8.wrap (iand .u8 c 7)) = c % 8 := by rw [a7 hcy.1 hcy.2, wrap_u8 (by omega) (by omega), wrap_i32 (by omega) (by omega)]
 obtain ⟨z, hL, hz⟩ := loop40 (lo := lo) (b := c :: t) (h := h) (n := 3) (by omega) hb hy 3 0 (c % 8) 128 191 rfl (by omega) (by omega) (by omega)
 have hn : (c :: t).drop (0 + 1) = t := rfl
 rw [hn] at hz
 have n1 : ((1 : Nat) : Int) = 1 := rfl
 have n2 : ((2 : Nat) : Int) = 2 := rfl
 have n3 : ((3 : Nat) : Int) = 3 := rfl
 simp only [l40x0, b40, Tryd.f40, loopAt, loops, bodyOf, go_sem, n1, n2, n3] at hL
 rw [e40 (by simp) (by rfl)]
 unfold end40 at hz
 split at hz
 ·rename_i hk
  obtain ⟨low, high, rfl⟩ := hz
  simp only [n1, n2, n3] at hL
  simp only [go_sem, b40, Tryd.f40, hx, t0, t1, t2, t3, t4, t5, t6, q0, q1, q2, q3, hm, hL]
  rw [two, more_snd _ _ _ _ _ _ hk]
  rfl
 ·subst hz
  simp only [go_sem, b40, Tryd.f40, hx, t0, t1, t2, t3, t4, t5, t6, q0, q1, q2, q3, hm, hL]
  rfl
theorem f40g {lo : Nat} {c : Int} {t : List Int} {h : Heap} (hb : (c :: t).length ≤ 140737488355328) (hy : By (c :: t)) (hc : c = 244) :
  E lo 40 [.list .no (ri .u8 (c :: t))] h = some (two (more 3 (c % 8) 128 143 1 t), h) := by
 have hcy := hy c (List.mem_cons_self ..)
 have t0 : decide (c < 128) = false := by simp; omega
 have t1 : decide (194 ≤ c) = true := by simp; omega
 have t2 : decide (c ≤ 223) = false := by simp; omega
 have t3 : decide (224 ≤ c) = true := by simp; omega
 have t4 : decide (c ≤ 239) = false := by simp; omega
 have t5 : decide (240 ≤ c) = true := by simp; omega
 have t6 : decide (c ≤ 244) = true := by simp; omega
 have q0 : (c == 224) = false := by simp; omega
 have q1 : (c == 237) = false := by simp; omega
 have q2 : (c == 240) = false := by simp; omega
 have q3 : (c == 244) = true := by simp; omega
 have hx : (c :: t)[0]? = some c := rfl
 have hm : IntKind.i32.wrap (IntKind.u8.wrap (iand .u8 c 7)) = c % 8 := by rw [a7 hcy.1 hcy.2, wrap_u8 (by omega) (by omega), wrap_i32 (by omega) (by omega)]
 obtain ⟨z, hL, hz⟩ := loop40 (lo := lo) (b := c :: t) (h := h) (n := 3) (by omega) hb hy 3 0 (c % 8) 128 143 rfl (by omega) (by omega) (by omega)
 have hn : (c :: t).drop (0 + 1) = t := rfl
 rw [hn] at hz
 have n1 : ((1 : Nat) : Int) = 1 := rfl
 have n2 : ((2 : Nat) : Int) = 2 := rfl
 have n3 : ((3 : Nat) : Int) = 3 := rfl
 simp only [l40x0, b40, Tryd.f40, loopAt, loops, bodyOf, go_sem, n1, n2, n3] at hL
 rw [e40 (by simp) (by rfl)]
 unfold end40 at hz
 split at hz
 ·rename_i hk
  obtain ⟨low, high, rfl⟩ := hz
  simp only [n1, n2, n3] at hL
  simp only [go_sem, b40, Tryd.f40, hx, t0, t1, t2, t3, t4, t5, t6, q0, q1, q2, q3, hm, hL]
  rw [two, more_snd _ _ _ _ _ _ hk]
  rfl
 ·subst hz
  simp only [go_sem, b40, Tryd.f40, hx, t0, t1, t2, t3, t4, t5, t6, q0, q1, q2, q3, hm, hL]
  rfl
end Go.Lift.D7
end
