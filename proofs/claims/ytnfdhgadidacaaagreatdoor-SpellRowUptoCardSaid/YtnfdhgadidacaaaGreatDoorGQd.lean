/- The program and the reference, evaluated. -/
import Derived.Lib.MapLaws
import Derived.Lib.DecodeN
import Derived.Test.YtnfdhgadidacaaaGreatDoorGQc
section
open Go.Proofs
namespace Go.Lift.R4.T
set_option linter.unusedSectionVars false
variable [MX]
open Utf Tok
set_option maxRecDepth 20000
set_option maxHeartbeats 4000000
set_option linter.unusedSimpArgs false
set_option linter.unusedVariables false
theorem dec_head (c : UInt8) (t : List UInt8) : ∃ n b1 b2 b3, 0 < n ∧ Go.Lib.decodeL (c :: t) = Go.Lib.decodeN n c.toNat b1 b2 b3 := by
 unfold Go.Lib.decodeL
 rw [Go.Lib.decode_at]
 exact ⟨_, _, _, _, by simp [ByteArray.size], rfl⟩
theorem dec_asc {c : UInt8} {t : List UInt8} (h : c.toNat < 128) : Go.Lib.decodeL (c :: t) = (c.toNat, 1) := by
 obtain ⟨n, b1, b2, b3, _, e⟩ := dec_head c t
 rw [e]
 unfold Go.Lib.decodeN
 rw [if_pos h]
theorem dec_big {c : UInt8} {t : List UInt8} (h : 128 ≤ c.toNat) : 128 ≤ (Go.Lib.decodeL (c :: t)).1 := by
 obtain ⟨n, b1, b2, b3, _, e⟩ := dec_head c t
 rw [e]
 unfold Go.Lib.decodeN
 rw [if_neg (by omega)]
 split
 ·split
  ·rename_i h2; exact h2
  ·decide
 ·split
  ·split
   ·rename_i h2
    have := h2.1
    exact Nat.le_trans (by decide) this
   ·decide
  ·split
   ·split
    ·rename_i h2
     have := h2.1
     exact Nat.le_trans (by decide) this
    ·decide
   ·decide
theorem encZ_big {r : Int} (h : 128 ≤ r) : ∃ b u, Go.Lib.encodeRune r = b :: u ∧ 128 ≤ b.toNat := by
 unfold Go.Lib.encodeRune Go.Lib.encodeRuneZ
 have toN : ∀ z : Int, 128 ≤ z → z ≤ 255 → 128 ≤ (z.toNat.toUInt8).toNat := fun z h1 h2 => by
  show 128 ≤ (UInt8.ofNat z.toNat).toNat
  simp only [UInt8.toNat_ofNat']
  omega
 rw [if_neg (by omega)]
 split
 ·exact ⟨_, _, rfl, toN _ (by omega) (by omega)⟩
 ·split
  ·exact ⟨_, _, rfl, toN _ (by omega) (by omega)⟩
  ·split
   ·exact ⟨_, _, rfl, toN _ (by omega) (by omega)⟩
   ·exact ⟨_, _, rfl, by decide⟩
theorem lowU_eq (c : Int) : lowU c = lowc c := rfl
theorem map_low : ∀ (b ks : List Int), By b → (∀ k ∈ ks, 97 ≤ k ∧ k < 128) → (Go.Lib.mapD lowU (u8s b) = u8s ks ↔ b.map lowc = ks)
 | [], ks, _, _ => by
  rw [show u8s [] = [] from rfl, Go.Lib.mapD_nil]
  cases ks with
  | nil => simp [u8s]
  | cons k t => simp [u8s]
 | c :: t, ks, hy, hk => by
  have hc := hy c (by simp)
  have hyt : By t := fun x hx => hy x (by simp [hx])
  have e : u8s (c :: t) = UInt8.ofNat c.toNat :: u8s t := rfl
  have hn : (UInt8.ofNat c.toNat).toNat = c.toNat := by simp only [UInt8.toNat_ofNat']; omega
  rw [e, Go.Lib.mapD_step _ _ (by simp)]
  by_cases h128 : c < 128
  ·rw [dec_asc (by rw [hn]; omega), hn]
   simp only
   have hci : ((c.toNat : Nat) : Int) = c := by omega
   rw [hci]
   have hl0 : 0 ≤ lowU c := by unfold lowU; split <;> omega
   have hl1 : lowU c ≤ 127 := by
    unfold lowU
    split
    ·rename_i h2; simp at h2; omega
    ·omega
   rw [if_pos hl0]
   have e2 : Go.Lib.encodeRune (lowU c) = [UInt8.ofNat (lowU c).toNat] := by
    unfold Go.Lib.encodeRune
    rw [Go.Lib.encodeRuneZ_one hl0 hl1]
    rfl
   rw [e2, List.drop_succ_cons, List.drop_zero]
   cases ks with
   | nil => simp [u8s]
   | cons k ks =>
    have hk0 := hk k (by simp)
    have e3 : u8s (k :: ks) = UInt8.ofNat k.toNat :: u8s ks := rfl
    rw [e3, List.cons_append, List.nil_append, List.map_cons, List.cons.injEq, List.cons.injEq, map_low t ks hyt fun x hx => hk x (by simp [hx])]
    have hb : UInt8.ofNat (lowU c).toNat = UInt8.ofNat k.toNat ↔ lowc c = k := by
     rw [← lowU_eq]
     constructor
     ·intro h
      have := congrArg UInt8.toNat h
      simp only [UInt8.toNat_ofNat'] at this
      omega
     ·intro h; rw [h]
    rw [hb]
  ·have h1 := dec_big (c := UInt8.ofNat c.toNat) (t := u8s t) (by rw [hn]; omega)
   obtain ⟨b, u, e2, hb⟩ := encZ_big (r := lowU (Go.Lib.decodeL (UInt8.ofNat c.toNat :: u8s t)).1) (by
    unfold lowU
    split
    ·rename_i h2; simp at h2; omega
    ·omega)
   rw [if_pos (by unfold lowU; split <;> omega), e2]
   have hlc : lowc c = c := by
    unfold lowc
    split
    ·rename_i h2; simp at h2; omega
    ·rfl
   cases ks with
   | nil => simp [u8s]
   | cons k ks =>
    have hk0 := hk k (by simp)
    have e3 : u8s (k :: ks) = UInt8.ofNat k.toNat :: u8s ks := rfl
    rw [e3, List.cons_append, List.map_cons, List.cons.injEq, List.cons.injEq, hlc]
    constructor
    ·rintro ⟨h, _⟩
     exfalso
     have := congrArg UInt8.toNat h
     simp only [UInt8.toNat_ofNat'] at this
     omega
    ·rintro ⟨h, _⟩
     exfalso
     omega
theorem f146 {lo : Nat} {s : ByteArray} {h : Heap} (hs : s.size < 35184372088832) : E lo 146 [.fn 147 [], .v (.string s)] h = some (.v (.string ⟨(Go.Lib.mapD lowU s.data.toList).toArray⟩), h) := by
 show ev Tryz.prog hints primz lo 146 [.fn 147 [], .v (.string s)] h = _
 rw [ev_prim (p := mapP) rfl]
 unfold mapP
 simp only [hs, and_self, if_true]
theorem f114 {lo : Nat} {n : List Int} {h : Heap} (hn : n.length ≤ 1000000000000) : E lo 114 [.v (.string (str n)), .v (.string ⟨#[117, 114, 108]⟩)] h = some (.v (.bool (isUrl n)), h) := by
 have hel := encs_len n
 have hsz : (str n).size < 35184372088832 := by
  have : (str n).size = (encs n).length := bs_size (encs n)
  omega
 have hd : (str n).data.toList = u8s (encs n) := by simp [str]
 have k := fun lo h => f146 (lo := lo) (h := h) hsz
 simp only [hd] at k
 have hq : ((⟨(Go.Lib.mapD lowU (u8s (encs n))).toArray⟩ : ByteArray).toList == (⟨#[117, 114, 108]⟩ : ByteArray).toList) = isUrl n := by
  rw [ByteArray.toList_eq, ByteArray.toList_eq]
  unfold isUrl
  rw [Bool.eq_iff_iff, beq_iff_eq, beq_iff_eq, ← low_url n [117, 114, 108] (by decide), ← map_low (encs n) [117, 114, 108] (encs_by n) (by decide)]
  exact Iff.rfl
 rw [e114 (by simp) (by rfl)]
 simp only [go_sem, b114, Tryz.f114, k, hq]
end Go.Lift.R4.T
end

section
open Go.Proofs
namespace Go.Lift.R4.T
set_option linter.unusedSectionVars false
variable [MX]
open Utf Tok
set_option maxRecDepth 20000
set_option maxHeartbeats 4000000
set_option linter.unusedSimpArgs false
set_option linter.unusedVariables false
section
variable {lo i j : Nat} {l : List Int} {p q : List Ob}
noncomputable abbrev X68 (lo : Nat) (p q : List Ob) : Cx := ⟨Tryz.prog, E, lo, p.length + (q.length + 1), h68⟩
abbrev P68 (p q : List Ob) (l : List Int) (j : Nat) (n : List Int) (ex : Env) : Env × Heap :=
 ((0, .ptr p.length 0) :: (2, .ptr (p.length + (q.length + 1)) 0) :: (3, .v (.string (str n))) :: ex, p ++ R l j :: (q ++ [.cells (tokC 0 [])]))
abbrev ret68 (p q : List Ob) (l : List Int) (j : Nat) (t : Tk) : Option (Ex × Env × Heap) := some (.ret, [(2, .ptr (p.length + (q.length + 1)) 0)], p ++ R l j :: (q ++ [.cells (tkC t)]))
theorem p68a (hl : l.length ≤ 100000000000) (hi : i ≤ l.length) : ∃ j, j ≤ l.length ∧ i ≤ j ∧ suf l j = (name (suf l i)).2 ∧
  ∀ lo p q, lo ≤ p.length → lo ≤ p.length + (q.length + 1) → evL (X68 lo p q) loopW (pc b68 0 4) (args0 [.ptr p.length 0], p ++ R l i :: q) =
   if chr (suf l j) 0 = 40 then some (.normal, P68 p q l j (name (suf l i)).1 [(15, .v (.bool false))]) else ret68 p q l j (tk 1 (name (suf l i)).1) := by
 obtain ⟨j, a1, a2, a3, a4⟩ := f67 (l := l) (i := i) hl hi
 have k0 := fun lo p q => f56 (lo := lo) (l := l) (i := j) (p := p) (q := q) (cs := [40]) (by simp; omega)
 simp only [ri_cons, ri_nil, isN_one] at k0
 refine ⟨j, a1, a2, a3, fun lo p q hlo hlo2 => ?_⟩
 by_cases hc : chr (suf l j) 0 = 40
 ·have t : (chr (suf l j) 0 == 40) = true := by simp [hc]
  rw [if_pos hc]
  simp only [go_sem, X68, P68, b68, Tryz.f68, a4 _ _ _ hlo, k0, t, tokC, str_nil]
  all_goals rfl
 ·have t : (chr (suf l j) 0 == 40) = false := by simp [hc]
  rw [if_neg hc]
  simp only [go_sem, X68, P68, b68, Tryz.f68, a4 _ _ _ hlo, k0, t, hlo2, tokC, tkC, tk, str_nil]
  all_goals rfl
theorem p68b {n : List Int} (hn : n.length ≤ 200000000000) (hj : j ≤ 100000000000) : ∀ lo p q, lo ≤ p.length → lo ≤ p.length + (q.length + 1) →
  evL (X68 lo p q) loopW (pc b68 4 3) (P68 p q l j n [(15, .v (.bool false))]) =
   if isUrl n = true then some (.normal, P68 p q l (j + 1) n [(29, .v (.bool false))]) else ret68 p q l (j + 1) (tk 2 n) := by
 intro lo p q hlo hlo2
 have hw1 : IntKind.i64.wrap ((j : Int) + 1) = ((j + 1 : Nat) : Int) := wrap_succ (by omega)
 have k := fun h => f114 (lo := lo) (n := n) (h := h) (by omega)
 cases hu : isUrl n with
 | true =>
  rw [hu] at k
  rw [if_pos rfl]
  simp only [go_sem, X68, P68, b68, Tryz.f68, hw1, hlo, k, tokC, str_nil]
  all_goals rfl
 | false =>
  rw [hu] at k
  rw [if_neg (by simp)]
  simp only [go_sem, X68, P68, b68, Tryz.f68, hw1, hlo, hlo2, k, tokC, tkC, tk, str_nil]
  all_goals rfl
theorem loop68 {n : List Int} (hl : l.length ≤ 100000000000) : ∀ (m i : Nat) (x : V), (suf l i).length ≤ m → i ≤ l.length →
  ∃ j, j ≤ l.length ∧ i ≤ j ∧ suf l j = skip2N m (suf l i) ∧
   ∀ lo (p q : List Ob), lo ≤ p.length → loopW (evCode (X68 lo p q) loopW l68x0) (P68 p q l i n [(29, x)]) = some (.exit 0, P68 p q l j n [(43, .v (.bool false))]) := by
 have stop : ∀ (i : Nat) (x : V), i ≤ l.length → (blk (chr (suf l i) 0) && blk (chr (suf l i) 1)) = false →
   ∀ lo (p q : List Ob), lo ≤ p.length → loopW (evCode (X68 lo p q) loopW l68x0) (P68 p q l i n [(29, x)]) = some (.exit 0, P68 p q l i n [(43, .v (.bool false))]) := by
  intro i x hi hb lo p q hlo
  have k0 := fun lo p q => f26 (lo := lo) (l := l) (i := i) (p := p) (q := q) (k := 0) (by omega)
  have k1 := fun lo p q => f26 (lo := lo) (l := l) (i := i) (p := p) (q := q) (k := 1) (by omega)
  have n1 : ((1 : Nat) : Int) = 1 := rfl
  simp only [n0, n1] at k0 k1
  rw [loop_eq]
  cases h0 : blk (chr (suf l i) 0) with
  | true =>
   have h1 : blk (chr (suf l i) 1) = false := by simpa [h0] using hb
   simp only [go_sem, X68, P68, l68x0, b68, Tryz.f68, k0, k1, f57, h0, h1, tokC, str_nil]
   all_goals rfl
  | false =>
   simp only [go_sem, X68, P68, l68x0, b68, Tryz.f68, k0, k1, f57, h0, tokC, str_nil]
   all_goals rfl
 intro m
 induction m with
 | zero =>
  intro i x h1 h2
  have hs : suf l i = [] := List.eq_nil_of_length_eq_zero (by omega)
  exact ⟨i, h2, Nat.le_refl _, rfl, stop i x h2 (by rw [hs]; rfl)⟩
 | succ m ih =>
  intro i x h1 h2
  by_cases hb : (blk (chr (suf l i) 0) && blk (chr (suf l i) 1)) = true
  ·have hi : i < l.length := by
    rcases Nat.lt_or_ge i l.length with h | h
    ·exact h
    ·rw [suf_end h] at hb; exact absurd hb (by decide)
   have k0 := fun lo p q => f26 (lo := lo) (l := l) (i := i) (p := p) (q := q) (k := 0) (by omega)
   have k1 := fun lo p q => f26 (lo := lo) (l := l) (i := i) (p := p) (q := q) (k := 1) (by omega)
   have hw1 : IntKind.i64.wrap ((i : Int) + 1) = ((i + 1 : Nat) : Int) := wrap_succ (by omega)
   have n1 : ((1 : Nat) : Int) = 1 := rfl
   simp only [n0, n1] at k0 k1
   obtain ⟨j, j1, j2, j3, j4⟩ := ih (i + 1) .undef (by rw [suf_len] at h1 ⊢; omega) (by omega)
   have e1 : suf l (i + 1) = (suf l i).drop 1 := by simp [suf, List.drop_drop]
   refine ⟨j, j1, by omega, by rw [j3, e1]; simp only [skip2N]; rw [if_pos hb], fun lo p q hlo => ?_⟩
   rw [Bool.and_eq_true] at hb
   have e : evCode (X68 lo p q) loopW l68x0 (P68 p q l i n [(29, x)]) = some (.normal, P68 p q l (i + 1) n [(29, .undef)]) := by
    simp only [go_sem, X68, P68, l68x0, b68, Tryz.f68, k0, k1, f57, hb.1, hb.2, hw1, hlo, tokC, str_nil]
    all_goals rfl
   rw [loop_eq, e, loop_n]
   exact j4 lo p q hlo
  ·refine ⟨i, h2, Nat.le_refl _, by simp only [skip2N]; rw [if_neg hb], stop i x h2 (by simpa using hb)⟩
theorem p68c {n : List Int} (hl : l.length ≤ 100000000000) (hi : i ≤ l.length) : ∃ j, j ≤ l.length ∧ i ≤ j ∧ suf l j = skip2 (suf l i) ∧
  ∀ lo p q, lo ≤ p.length → evL (X68 lo p q) loopW (pc b68 7 1) (P68 p q l i n [(29, .v (.bool false))]) = some (.normal, P68 p q l j n [(43, .v (.bool false))]) := by
 obtain ⟨j, j1, j2, j3, j4⟩ := loop68 (n := n) hl (suf l i).length i (.v (.bool false)) (Nat.le_refl _) hi
 refine ⟨j, j1, j2, j3, fun lo p q hlo => ?_⟩
 have hL := j4 lo p q hlo
 simp only [X68, P68, l68x0, b68, Tryz.f68, loopAt, loops, bodyOf, go_sem, tokC, str_nil] at hL
 simp only [go_sem, X68, P68, b68, Tryz.f68, hL, tokC, str_nil]
theorem p68d {n : List Int} (hj : j ≤ 100000000000) : ∀ lo p q, lo ≤ p.length → lo ≤ p.length + (q.length + 1) →
  evL (X68 lo p q) loopW (pc b68 8 6) (P68 p q l j n [(43, .v (.bool false))]) =
   if quo (if blk (chr (suf l j) 0) = true then chr (suf l j) 1 else chr (suf l j) 0) = true then ret68 p q l j (tk 2 n) else some (.normal, P68 p q l j n [(68, .v (.bool false))]) := by
 intro lo p q hlo hlo2
 have k0 := fun lo p q => f26 (lo := lo) (l := l) (i := j) (p := p) (q := q) (k := 0) (by omega)
 have k1 := fun lo p q => f26 (lo := lo) (l := l) (i := j) (p := p) (q := q) (k := 1) (by omega)
 have n1 : ((1 : Nat) : Int) = 1 := rfl
 simp only [n0, n1] at k0 k1
 cases hb : blk (chr (suf l j) 0) with
 | true =>
  simp only [if_true]
  generalize chr (suf l j) 1 = c at *
  cases h34 : (c == 34) with
  | true =>
   rw [if_pos (by simp [quo, h34])]
   simp only [go_sem, X68, P68, b68, Tryz.f68, k0, k1, f57, hb, h34, hlo2, tokC, tkC, tk, str_nil]
   all_goals rfl
  | false =>
   cases h39 : (c == 39) with
   | true =>
    rw [if_pos (by simp [quo, h39])]
    simp only [go_sem, X68, P68, b68, Tryz.f68, k0, k1, f57, hb, h34, h39, hlo2, tokC, tkC, tk, str_nil]
    all_goals rfl
   | false =>
    rw [if_neg (by simp [quo, h34, h39])]
    simp only [go_sem, X68, P68, b68, Tryz.f68, k0, k1, f57, hb, h34, h39, tokC, str_nil]
    all_goals rfl
 | false =>
  simp only [Bool.false_eq_true, if_false]
  generalize chr (suf l j) 0 = c at *
  cases h34 : (c == 34) with
  | true =>
   rw [if_pos (by simp [quo, h34])]
   simp only [go_sem, X68, P68, b68, Tryz.f68, k0, k1, f57, hb, h34, hlo2, tokC, tkC, tk, str_nil]
   all_goals rfl
  | false =>
   cases h39 : (c == 39) with
   | true =>
    rw [if_pos (by simp [quo, h39])]
    simp only [go_sem, X68, P68, b68, Tryz.f68, k0, k1, f57, hb, h34, h39, hlo2, tokC, tkC, tk, str_nil]
    all_goals rfl
   | false =>
    rw [if_neg (by simp [quo, h34, h39])]
    simp only [go_sem, X68, P68, b68, Tryz.f68, k0, k1, f57, hb, h34, h39, tokC, str_nil]
    all_goals rfl
theorem p68e {n : List Int} (hl : l.length ≤ 100000000000) (hi : i ≤ l.length) : ∃ j, j ≤ l.length ∧ i ≤ j ∧ suf l j = (url (suf l i)).2.2 ∧
  ∀ lo p q, lo ≤ p.length → lo ≤ p.length + (q.length + 1) → evL (X68 lo p q) loopW (pc b68 14 2) (P68 p q l i n [(68, .v (.bool false))]) = ret68 p q l j (urlT (url (suf l i))) := by
 obtain ⟨j, a1, a2, a3, a4⟩ := f115 (l := l) (i := i) hl hi
 refine ⟨j, a1, a2, a3, fun lo p q hlo hlo2 => ?_⟩
 have k := a4 lo p (q ++ [.cells (tokC 0 [])]) hlo
 simp only [tokC, tkC, str_nil] at k
 simp only [go_sem, X68, P68, b68, Tryz.f68, k, hlo2, tokC, tkC, str_nil]
 all_goals rfl
theorem fin68 {t : Tk} {o : Ob} : fin Tryz.prog [.cell 2 34] (p.length + (q.length + 1)) (some (.ret, [(2, .ptr (p.length + (q.length + 1)) 0)], p ++ o :: (q ++ [.cells (tkC t)]))) = some (.agg (tkC t), p ++ o :: q) := fin80 (h := []) (r2 := [])
theorem f68 (hl : l.length ≤ 100000000000) (hi : i ≤ l.length) : ∃ j, j ≤ l.length ∧ i ≤ j ∧ suf l j = (word (suf l i)).2 ∧
  ∀ lo p q, lo ≤ p.length → E lo 68 [.ptr p.length 0] (p ++ R l i :: q) = some (.agg (tkC (word (suf l i)).1), p ++ R l j :: q) := by
 obtain ⟨j1, a1, a2, a3, a4⟩ := p68a (l := l) (i := i) hl hi
 have hnl := name_len (suf l i)
 rw [suf_len] at hnl
 have hH : ∀ p q : List Ob, (p ++ R l i :: q).length = p.length + (q.length + 1) := fun p q => by simp
 unfold word
 simp only
 rw [← a3]
 by_cases h40 : chr (suf l j1) 0 = 40
 ·have hne : j1 < l.length := by
   rcases Nat.lt_or_ge j1 l.length with h | h
   ·exact h
   ·rw [suf_end h] at h40; cases h40
  have e1 : suf l (j1 + 1) = (suf l j1).drop 1 := by simp [suf, List.drop_drop]
  rw [if_pos h40] 
  cases hu : isUrl (name (suf l i)).1 with
  | true =>
   obtain ⟨j2, b1, b2, b3, b4⟩ := p68c (n := (name (suf l i)).1) (l := l) (i := j1 + 1) hl (by omega)
   rw [if_pos rfl, ← e1, ← b3]
   by_cases hq : quo (if blk (chr (suf l j2) 0) = true then chr (suf l j2) 1 else chr (suf l j2) 0) = true
   ·rw [if_pos hq]
    refine ⟨j2, by omega, by omega, rfl, fun lo p q hlo => ?_⟩
    rw [e68 (by simp) (by rfl), hH, pc_in, pc_go _ _ _ _ 0 4, a4 lo p q hlo (by omega), if_pos h40, pc_go _ _ _ _ _ 3, p68b (by omega) (by omega) lo p q hlo (by omega), hu, if_pos rfl,
     pc_go _ _ _ _ _ 1, b4 lo p q hlo, pc_go _ _ _ _ _ 6, p68d (by omega) lo p q hlo (by omega), if_pos hq, ret68, pc_r]
    exact fin68
   ·obtain ⟨j3, c1, c2, c3, c4⟩ := p68e (n := (name (suf l i)).1) (l := l) (i := j2) hl b1
    rw [if_neg hq]
    refine ⟨j3, c1, by omega, c3, fun lo p q hlo => ?_⟩
    rw [e68 (by simp) (by rfl), hH, pc_in, pc_go _ _ _ _ 0 4, a4 lo p q hlo (by omega), if_pos h40, pc_go _ _ _ _ _ 3, p68b (by omega) (by omega) lo p q hlo (by omega), hu, if_pos rfl,
     pc_go _ _ _ _ _ 1, b4 lo p q hlo, pc_go _ _ _ _ _ 6, p68d (by omega) lo p q hlo (by omega), if_neg hq, pc_go _ _ _ _ _ 2, c4 lo p q hlo (by omega), ret68, pc_r]
    exact fin68
  | false =>
   rw [if_neg (by simp)]
   refine ⟨j1 + 1, by omega, by omega, e1, fun lo p q hlo => ?_⟩
   rw [e68 (by simp) (by rfl), hH, pc_in, pc_go _ _ _ _ 0 4, a4 lo p q hlo (by omega), if_pos h40, pc_go _ _ _ _ _ 3, p68b (by omega) (by omega) lo p q hlo (by omega), hu, if_neg (by simp), ret68, pc_r]
   exact fin68
 ·rw [if_neg h40]
  refine ⟨j1, by omega, by omega, rfl, fun lo p q hlo => ?_⟩
  rw [e68 (by simp) (by rfl), hH, pc_in, pc_go _ _ _ _ 0 4, a4 lo p q hlo (by omega), if_neg h40, ret68, pc_r]
  exact fin68
end
end Go.Lift.R4.T
end

section
open Go.Proofs
namespace Go.Lift.R4.T
set_option linter.unusedSectionVars false
variable [MX]
open Utf Tok
set_option maxRecDepth 20000
set_option maxHeartbeats 2000000
set_option linter.unusedSimpArgs false
set_option linter.unusedVariables false
theorem loop172 {lo : Nat} {t : List Int} {h : Heap} (hy : By t) (hl : t.length ≤ 100000000000) : ∀ (m i : Nat), t.length - i ≤ m → i ≤ t.length →
  loopW (evCode ⟨Tryz.prog, E, lo, h.length, h172⟩ loopW l172x0) ([(0, .v (.string (bs t))), (3, .v (.int .i64 i))], h) =
   some (.exit 0, [(0, .v (.string (bs t))), (3, .v (.int .i64 (i + ((t.drop i).takeWhile dig).length : Nat))), (19, .v (.bool false))], h) := by
 intro m
 induction m with
 | zero =>
  intro i h1 h2
  obtain rfl : i = t.length := by omega
  have hd : decide ((t.length : Int) < (t.length : Int)) = false := by simp
  rw [loop_eq]
  simp only [go_sem, l172x0, b172, Tryz.f172, bs_size, hd]
  simp
 | succ m ih =>
  intro i h1 h2
  rcases Nat.lt_or_ge i t.length with hi | hi
  rotate_left
  ·exact ih i (by omega) h2
  have hd : decide ((i : Int) < (t.length : Int)) = true := by simp; omega
  have hw : IntKind.i64.wrap ((i : Int) + 1) = ((i + 1 : Nat) : Int) := wrap_succ (by omega)
  have hc : t[i]? = some t[i] := List.getElem?_eq_getElem hi
  have hdr := drop_cons hc
  generalize t[i] = c at hc hdr
  rw [hdr]
  cases hb : dig c with
  | false =>
   rw [List.takeWhile_cons_of_neg (by simp [hb]), loop_eq]
   simp only [dig, Bool.and_eq_false_iff] at hb
   cases h48 : decide (48 ≤ c) with
   | false =>
    simp only [go_sem, l172x0, b172, Tryz.f172, bs_size, hd, bs_ix hy, hc, h48]
    simp
   | true =>
    have h57 : decide (c ≤ 57) = false := by rcases hb with h | h; rw [h48] at h; cases h; exact h
    simp only [go_sem, l172x0, b172, Tryz.f172, bs_size, hd, bs_ix hy, hc, h48, h57]
    simp
  | true =>
   rw [List.takeWhile_cons_of_pos hb, loop_eq]
   simp only [dig, Bool.and_eq_true] at hb
   obtain ⟨h48, h57⟩ := hb
   have e : evCode ⟨Tryz.prog, E, lo, h.length, h172⟩ loopW l172x0 ([(0, .v (.string (bs t))), (3, .v (.int .i64 i))], h) = some (.normal, [(0, .v (.string (bs t))), (3, .v (.int .i64 (i + 1 : Nat)))], h) := by
    simp only [go_sem, l172x0, b172, Tryz.f172, bs_size, hd, bs_ix hy, hc, h48, h57, hw]
   rw [e, loop_n, ih (i + 1) (by omega) (by omega)]
   have e2 : i + (c :: (t.drop (i + 1)).takeWhile dig).length = i + 1 + ((t.drop (i + 1)).takeWhile dig).length := by simp; omega
   rw [e2]
theorem f172 {lo : Nat} {t : List Int} {h : Heap} (hy : By t) (hl : t.length ≤ 100000000000) :
  E lo 172 [.v (.string (bs t))] h = some (.v (.int .i64 ((t.takeWhile dig).length : Nat)), h) := by
 have hL := loop172 (lo := lo) (h := h) hy hl t.length 0 (by omega) (by omega)
 rw [e172 (by simp) (by rfl)]
 simp only [l172x0, b172, Tryz.f172, loopAt, loops, bodyOf, go_sem, Nat.zero_add] at hL
 simp only [go_sem, b172, Tryz.f172, hL]
theorem loop173 {lo : Nat} {h : Heap} : ∀ (l : List Int), By l → l.length ≤ 100000000000 →
  loopW (evCode ⟨Tryz.prog, E, lo, h.length, h173⟩ loopW l173x0) ([(0, .v (.string (bs l))), (1, .v (.int .u8 48))], h) =
   some (.exit 0, [(0, .v (.string (bs (l.dropWhile (· == 48))))), (1, .v (.int .u8 48)), (13, .v (.bool false))], h)
 | [], hy, hl => by
  have hd : decide ((0 : Int) < 0) = false := rfl
  rw [loop_eq]
  simp only [go_sem, l173x0, b173, Tryz.f173, bs_size, hd]
  rfl
 | c :: t, hy, hl => by
  have hd : decide ((0 : Int) < ((t.length + 1 : Nat) : Int)) = true := by simp
  have hc : (c :: t)[0]? = some c := rfl
  have hix := bs_ix hy 0
  rw [hc] at hix
  rw [loop_eq]
  cases hb : (c == 48) with
  | false =>
   rw [List.dropWhile_cons_of_neg (by simp [hb])]
   simp only [go_sem, l173x0, b173, Tryz.f173, bs_size, hd, hix, hb]
  | true =>
   rw [List.dropWhile_cons_of_pos (p := (· == 48)) hb]
   have h1 : 1 ≤ t.length + 1 := by omega
   have e : evCode ⟨Tryz.prog, E, lo, h.length, h173⟩ loopW l173x0 ([(0, .v (.string (bs (c :: t)))), (1, .v (.int .u8 48))], h) = some (.normal, [(0, .v (.string (bs t))), (1, .v (.int .u8 48))], h) := by
    simp only [go_sem, l173x0, b173, Tryz.f173, bs_size, hd, hix, hb, h1, Nat.le_refl, bs_ext]
   rw [e, loop_n]
   exact loop173 t (fun x hx => hy x (by simp [hx])) (by simp at hl; omega)
theorem f173 {lo : Nat} {l : List Int} {h : Heap} (hy : By l) (hl : l.length ≤ 100000000000) : E lo 173 [.v (.string (bs l)), .v (.int .u8 48)] h = some (.v (.string (bs (l.dropWhile (· == 48)))), h) := by
 have hL := loop173 (lo := lo) (h := h) l hy hl
 rw [e173 (by simp) (by rfl)]
 simp only [l173x0, b173, Tryz.f173, loopAt, loops, bodyOf, go_sem] at hL
 simp only [go_sem, b173, Tryz.f173, hL]
theorem core_nil : core [] = [] := rfl
theorem loop133 {lo : Nat} {h : Heap} : ∀ (m : Nat) (l : List Int), l.length = m → By l → l.length ≤ 100000000000 →
  loopW (evCode ⟨Tryz.prog, E, lo, h.length, h133⟩ loopW l133x0) ([(0, .v (.string (bs l))), (1, .v (.int .u8 48))], h) =
   some (.exit 0, [(0, .v (.string (bs (core l)))), (1, .v (.int .u8 48)), (16, .v (.bool false))], h) := by
 intro m
 induction m with
 | zero =>
  intro l hm hy hl
  obtain rfl := List.eq_nil_of_length_eq_zero hm
  have hd : decide ((0 : Int) < 0) = false := rfl
  rw [loop_eq]
  simp only [go_sem, l133x0, b133, Tryz.f133, bs_size, hd, core_nil]
 | succ m ih =>
  intro l hm hy hl
  obtain ⟨t, c, rfl⟩ : ∃ t c, l = t ++ [c] := by
   rcases List.eq_nil_or_concat l with h | ⟨t, c, h⟩
   ·rw [h] at hm; cases hm
   ·exact ⟨t, c, by simpa using h⟩
  have hsz : (t ++ [c]).length = t.length + 1 := by simp
  have htm : t.length = m := by omega
  have hd : decide ((0 : Int) < ((t.length + 1 : Nat) : Int)) = true := by simp
  have hc : (t ++ [c])[t.length]? = some c := by simp
  have hw : IntKind.i64.wrap (((t.length + 1 : Nat) : Int) - 1) = (t.length : Int) := by rw [wrap_i64 (by omega) (by omega)]; omega
  have hix := bs_ix hy t.length
  rw [hc] at hix
  have htk : (t ++ [c]).take t.length = t := by simp
  rw [loop_eq, core_snoc]
  cases hb : (c == 48) with
  | false =>
   rw [if_neg (by simpa using hb)]
   simp only [go_sem, l133x0, b133, Tryz.f133, bs_size, hsz, hd, hw, hix, hb]
  | true =>
   rw [if_pos (by simpa using hb)]
   have h1 : t.length ≤ t.length + 1 := by omega
   have e : evCode ⟨Tryz.prog, E, lo, h.length, h133⟩ loopW l133x0 ([(0, .v (.string (bs (t ++ [c])))), (1, .v (.int .u8 48))], h) = some (.normal, [(0, .v (.string (bs t))), (1, .v (.int .u8 48))], h) := by
    simp only [go_sem, l133x0, b133, Tryz.f133, bs_size, hsz, hd, hw, hix, hb, h1, Nat.zero_le, bs_ext, htk]
   rw [e, loop_n]
   exact ih t htm (fun x hx => hy x (by simp [hx])) (by omega)
theorem f133 {lo : Nat} {l : List Int} {h : Heap} (hy : By l) (hl : l.length ≤ 100000000000) : E lo 133 [.v (.string (bs l)), .v (.int .u8 48)] h = some (.v (.string (bs (core l))), h) := by
 have hL := loop133 (lo := lo) (h := h) l.length l rfl hy hl
 rw [e133 (by simp) (by rfl)]
 simp only [l133x0, b133, Tryz.f133, loopAt, loops, bodyOf, go_sem] at hL
 simp only [go_sem, b133, Tryz.f133, hL]
theorem bs_nil_eq' (l : List Int) : ((bs l).toList == (⟨#[]⟩ : ByteArray).toList) = decide (l = []) := bs_nil_eq l
theorem cut48 : ((⟨#[48]⟩ : ByteArray).toList == (⟨#[]⟩ : ByteArray).toList) = false := (bs_nil_eq' [48]).trans (by simp)
theorem f144 {lo : Nat} {l : List Int} {h : Heap} (hy : By l) (hl : l.length ≤ 100000000000) : E lo 144 [.v (.string (bs l)), .v (.string ⟨#[48]⟩)] h = some (.v (.string (bs (l.dropWhile (· == 48)))), h) := by
 rw [e144 (by simp) (by rfl)]
 cases l with
 | nil =>
  have t1 := bs_nil_eq' []
  simp only [decide_true] at t1
  simp only [go_sem, b144, Tryz.f144, t1]
  rfl
 | cons c t =>
  have t1 := bs_nil_eq' (c :: t)
  rw [decide_eq_false (by simp)] at t1
  have t2 : ((1 : Nat) : Int) = 1 := rfl
  have t3 : ((1 : Int) == 1) = true := rfl
  have t4 : decide ((48 : Int) < 128) = true := rfl
  have t5 : ((UInt8.toNat 48 : Nat) : Int) = 48 := rfl
  have t6 : (⟨#[48]⟩ : ByteArray).size = 1 := rfl
  simp only [go_sem, b144, Tryz.f144, t1, cut48, t2, t3, t4, t5, t6, f173 hy hl]
theorem f98 {lo : Nat} {l : List Int} {h : Heap} (hy : By l) (hl : l.length ≤ 100000000000) : E lo 98 [.v (.string (bs l)), .v (.string ⟨#[48]⟩)] h = some (.v (.string (bs (core l))), h) := by
 rw [e98 (by simp) (by rfl)]
 cases l with
 | nil =>
  have t1 := bs_nil_eq' []
  simp only [decide_true] at t1
  simp only [go_sem, b98, Tryz.f98, t1]
  rfl
 | cons c t =>
  have t1 := bs_nil_eq' (c :: t)
  rw [decide_eq_false (by simp)] at t1
  have t2 : ((1 : Nat) : Int) = 1 := rfl
  have t3 : ((1 : Int) == 1) = true := rfl
  have t4 : decide ((48 : Int) < 128) = true := rfl
  have t5 : ((UInt8.toNat 48 : Nat) : Int) = 48 := rfl
  have t6 : (⟨#[48]⟩ : ByteArray).size = 1 := rfl
  simp only [go_sem, b98, Tryz.f98, t1, cut48, t2, t3, t4, t5, t6, f133 hy hl]
theorem f176 {lo : Nat} {below : Bool} {n d : Int} {h : Heap} (hlo : lo ≤ h.length) (h0 : 0 ≤ n) (h1 : n ≤ 9223372036854775807) (g0 : 1 ≤ d) (g1 : d ≤ 9223372036854775807) :
  E lo 176 [.v (.bool below), .v (.int .u64 n), .v (.int .u64 d)] h = some (.agg (ratC (turn below (some (n, d)))), h) := by
 have t1 : decide (9223372036854775807 < n) = false := by simp; omega
 have t2 : decide (9223372036854775807 < d) = false := by simp; omega
 have t3 : (d == 0) = false := by simp; omega
 have w1 : IntKind.i64.wrap n = n := by rw [wrap_i64] <;> omega
 have w2 : IntKind.i64.wrap d = d := by rw [wrap_i64] <;> omega
 have w3 : IntKind.i64.wrap (0 - n) = -n := by rw [wrap_i64] <;> omega
 rw [e176 (by simp) (by rfl)]
 cases below with
 | true =>
  simp only [go_sem, b176, Tryz.f176, t1, t2, t3, w1, w2, w3, hlo, turn, ratC]
  all_goals rfl
 | false =>
  simp only [go_sem, b176, Tryz.f176, t1, t2, t3, w1, w2, w3, hlo, turn, ratC]
  all_goals rfl
end Go.Lift.R4.T
end

section
open Go.Proofs
namespace Go.Lift.R4.T
set_option linter.unusedSectionVars false
variable [MX]
open Utf Tok
set_option maxRecDepth 20000
set_option maxHeartbeats 4000000
set_option linter.unusedSimpArgs false
set_option linter.unusedVariables false
section
variable {lo : Nat} {below : Bool} {h : Heap} {p : Int}
noncomputable abbrev X145 (lo : Nat) (h : Heap) : Cx := ⟨Tryz.prog, E, lo, h.length, h145⟩
abbrev over145 (h : Heap) : Option (Ex × Env × Heap) := some (.ret, [(6, .ptr h.length 0)], h ++ [.cells (ratC (0, 0))])
abbrev U145 (below : Bool) (h : Heap) (n p : Int) (ex : Env) : Env × Heap :=
 ((0, .v (.bool below)) :: (1, .v (.int .u64 n)) :: (2, .v (.int .i64 p)) :: (6, .ptr h.length 0) :: ex, h ++ [.cells (ratC (0, 0))])
theorem loop145a (hlo : lo ≤ h.length) : ∀ (m : Nat) (p n : Int) (x : V), p.toNat = m → p ≤ 4000000000000 → 0 ≤ n → n ≤ 9223372036854775807 →
  loopW (evCode (X145 lo h) loopW l145x0) (U145 below h n p [(16, x)]) =
   match upN m n with
   | some n' => some (.exit 0, U145 below h n' (if 0 < p then 0 else p) [(19, .v (.bool false))])
   | none => over145 h := by
 intro m
 induction m with
 | zero =>
  intro p n x hm he h0 h1
  have hd : decide (0 < p) = false := by simp; omega
  rw [loop_eq, if_neg (by omega)]
  simp only [go_sem, X145, l145x0, b145, Tryz.f145, hd, upN, ratC]
  all_goals rfl
 | succ m ih =>
  intro p n x hm he h0 h1
  have hd : decide (0 < p) = true := by simp; omega
  have hw : IntKind.i64.wrap (p - 1) = p - 1 := by rw [wrap_i64] <;> omega
  rw [loop_eq]
  simp only [upN]
  by_cases hb : 922337203685477580 < n
  ·have hb' : decide (922337203685477580 < n) = true := by simp [hb]
   rw [if_pos hb]
   simp only [go_sem, X145, l145x0, b145, Tryz.f145, hd, hb', hlo, ratC]
   all_goals rfl
  ·have hb' : decide (922337203685477580 < n) = false := by simp [hb]
   rw [if_neg hb]
   have w1 : IntKind.u64.wrap (n * 10) = n * 10 := wrap_u64 (by omega) (by omega)
   have e1 : evCode (X145 lo h) loopW l145x0 (U145 below h n p [(16, x)]) = some (.normal, U145 below h (n * 10) (p - 1) [(16, .undef)]) := by
    simp only [go_sem, X145, l145x0, b145, Tryz.f145, hd, hb', w1, hw, ratC]
    all_goals rfl
   rw [e1, loop_n, ih (p - 1) (n * 10) .undef (by omega) (by omega) (by omega) (by omega)]
   have e2 : (if 0 < p - 1 then (0 : Int) else p - 1) = if 0 < p then 0 else p := by split <;> split <;> omega
   rw [e2]
abbrev rows25 : List (List V) := [[.v (.int .u64 2)], [.v (.int .u64 5)]]
abbrev I145 (below : Bool) (h : Heap) (n p d y k i : Int) (ex : Env) : Env × Heap :=
 ((0, .v (.bool below)) :: (1, .v (.int .u64 n)) :: (2, .v (.int .i64 p)) :: (6, .ptr h.length 0) :: (7, .v (.int .u64 d)) :: (9, .v (.int .u64 y)) :: (10, .v (.int .i64 k)) :: (27, .list .yes rows25) :: (28, .v (.int .i64 2)) :: (29, .v (.int .i64 i)) :: ex, h ++ [.cells (ratC (0, 0))])
theorem loop145c {y b i : Int} (hlo : lo ≤ h.length) (hyb : (y = 2 ∧ b = 4611686018427387903) ∨ (y = 5 ∧ b = 1844674407370955161)) :
  ∀ (m : Nat) (k n d : Int), (-k).toNat = m → k ≤ 0 → -4000000000000 ≤ k → 0 ≤ n → n ≤ 9223372036854775807 → 0 ≤ d → d ≤ 9223372036854775807 →
  loopW (evCode (X145 lo h) loopW l145x2) (I145 below h n p d y k i []) =
   match downN y b m n d with
   | some r => some (.exit 4, I145 below h r.1 p r.2 y 0 i [(35, .v (.bool false))])
   | none => over145 h := by
 have hy0 : 0 < y := by omega
 have hyz : (y = 0) = False := by simp; omega
 have hbq : Int.tdiv 9223372036854775807 y = b := by rcases hyb with ⟨rfl, rfl⟩ | ⟨rfl, rfl⟩ <;> rfl
 have wb : IntKind.u64.wrap b = b := wrap_u64 (by omega) (by omega)
 have hby : b * y ≤ 9223372036854775807 := by rcases hyb with ⟨rfl, rfl⟩ | ⟨rfl, rfl⟩ <;> decide
 have hb0 : 0 ≤ b := by omega
 intro m
 induction m with
 | zero =>
  intro k n d hm hk hk2 h0 h1 g0 g1
  obtain rfl : k = 0 := by omega
  have hd : decide ((0 : Int) < 0) = false := rfl
  rw [loop_eq]
  simp only [downN]
  simp only [go_sem, X145, l145x2, b145, Tryz.f145, hd, ratC]
  all_goals rfl
 | succ m ih =>
  intro k n d hm hk hk2 h0 h1 g0 g1
  have hd : decide (k < 0) = true := by simp; omega
  have hw : IntKind.i64.wrap (k + 1) = k + 1 := by rw [wrap_i64] <;> omega
  have hr : Int.tmod n y = n % y := Int.tmod_eq_emod_of_nonneg h0
  have hq : Int.tdiv n y = n / y := Int.tdiv_eq_ediv_of_nonneg h0
  have hq0 : 0 ≤ n / y := Int.ediv_nonneg h0 (by omega)
  have hq1 : n / y ≤ n := Int.ediv_le_self y h0
  have wq : IntKind.u64.wrap (n / y) = n / y := wrap_u64 (by omega) (by omega)
  rw [loop_eq]
  simp only [downN]
  by_cases hm0 : n % y = 0
  ·have hb : (n % y == 0) = true := by simp [hm0]
   have e1 : evCode (X145 lo h) loopW l145x2 (I145 below h n p d y k i []) = some (.normal, I145 below h (n / y) p d y (k + 1) i []) := by
    simp only [go_sem, X145, l145x2, b145, Tryz.f145, hd, hr, hq, wq, hb, hw, hyz, ratC]
    all_goals rfl
   rw [e1, loop_n, ih (k + 1) (n / y) d (by omega) (by omega) (by omega) (by omega) (by omega) g0 g1, if_pos hm0]
  ·have hb : (n % y == 0) = false := by simp [hm0]
   rw [if_neg hm0]
   by_cases hbd : b < d
   ·have hbd' : decide (b < d) = true := by simp [hbd]
    rw [if_pos hbd]
    simp only [go_sem, X145, l145x2, b145, Tryz.f145, hd, hr, hb, hbq, wb, hbd', hyz, hlo, ratC]
    all_goals rfl
   ·have hbd' : decide (b < d) = false := by simp [hbd]
    rw [if_neg hbd]
    have hdy : d * y ≤ b * y := Int.mul_le_mul_of_nonneg_right (by omega) (by omega)
    have hdy0 : 0 ≤ d * y := Int.mul_nonneg g0 (by omega)
    have w1 : IntKind.u64.wrap (d * y) = d * y := wrap_u64 (by omega) (by omega)
    have e1 : evCode (X145 lo h) loopW l145x2 (I145 below h n p d y k i []) = some (.normal, I145 below h n p (d * y) y (k + 1) i []) := by
     simp only [go_sem, X145, l145x2, b145, Tryz.f145, hd, hr, hb, hbq, wb, hbd', w1, hw, hyz, ratC]
     all_goals rfl
    rw [e1, loop_n, ih (k + 1) n (d * y) (by omega) (by omega) (by omega) h0 h1 hdy0 (by omega)]
abbrev O145 (below : Bool) (h : Heap) (n p d i : Int) (ex : Env) : Env × Heap :=
 ((0, .v (.bool below)) :: (1, .v (.int .u64 n)) :: (2, .v (.int .i64 p)) :: (6, .ptr h.length 0) :: (7, .v (.int .u64 d)) :: (27, .list .yes rows25) :: (28, .v (.int .i64 2)) :: (29, .v (.int .i64 i)) :: ex, h ++ [.cells (ratC (0, 0))])
theorem round145 {y b : Int} {i : Nat} (hlo : lo ≤ h.length) (hyb : (i = 0 ∧ y = 2 ∧ b = 4611686018427387903) ∨ (i = 1 ∧ y = 5 ∧ b = 1844674407370955161))
  {n d : Int} (hk : p ≤ 0) (hk2 : -4000000000000 ≤ p) (h0 : 0 ≤ n) (h1 : n ≤ 9223372036854775807) (g0 : 0 ≤ d) (g1 : d ≤ 9223372036854775807) :
  evCode (X145 lo h) loopW l145x1 (O145 below h n p d i []) = match downN y b (-p).toNat n d with
   | some r => some (.normal, O145 below h r.1 p r.2 (i + 1 : Nat) [])
   | none => over145 h := by
 have hL := loop145c (lo := lo) (below := below) (h := h) (p := p) (y := y) (b := b) (i := i) hlo (by omega) (-p).toNat p n d rfl hk hk2 h0 h1 g0 g1
 cases hu : downN y b (-p).toNat n d with
 | some r =>
  rw [hu] at hL
  rcases hyb with ⟨rfl, rfl, rfl⟩ | ⟨rfl, rfl, rfl⟩
  ·have hd : decide (((0 : Nat) : Int) < 2) = true := rfl
   have hw : IntKind.i64.wrap (((0 : Nat) : Int) + 1) = ((0 + 1 : Nat) : Int) := rfl
   simp only [I145, l145x2, X145, b145, Tryz.f145, loopAt, loops, bodyOf, go_sem, ratC] at hL hd hw
   simp only [go_sem, X145, O145, l145x1, b145, Tryz.f145, hd, hw, hL, ratC]
   all_goals rfl
  ·have hd : decide (((1 : Nat) : Int) < 2) = true := rfl
   have hw : IntKind.i64.wrap (((1 : Nat) : Int) + 1) = ((1 + 1 : Nat) : Int) := rfl
   simp only [I145, l145x2, X145, b145, Tryz.f145, loopAt, loops, bodyOf, go_sem, ratC] at hL hd hw
   simp only [go_sem, X145, O145, l145x1, b145, Tryz.f145, hd, hw, hL, ratC]
   all_goals rfl
 | none =>
  rw [hu] at hL
  rcases hyb with ⟨rfl, rfl, rfl⟩ | ⟨rfl, rfl, rfl⟩
  ·have hd : decide (((0 : Nat) : Int) < 2) = true := rfl
   simp only [I145, over145, l145x2, X145, b145, Tryz.f145, loopAt, loops, bodyOf, go_sem, ratC] at hL hd
   simp only [go_sem, X145, O145, over145, l145x1, b145, Tryz.f145, hd, hL, ratC]
   all_goals rfl
  ·have hd : decide (((1 : Nat) : Int) < 2) = true := rfl
   simp only [I145, over145, l145x2, X145, b145, Tryz.f145, loopAt, loops, bodyOf, go_sem, ratC] at hL hd
   simp only [go_sem, X145, O145, over145, l145x1, b145, Tryz.f145, hd, hL, ratC]
   all_goals rfl
end
end Go.Lift.R4.T
end
