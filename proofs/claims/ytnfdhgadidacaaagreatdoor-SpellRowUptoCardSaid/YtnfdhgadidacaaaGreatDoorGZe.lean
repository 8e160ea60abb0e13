/- What is computed, in plain Lean. -/
import Derived.Test.YtnfdhgadidacaaaGreatDoorGZd
section
namespace Go.Lift.Spell
set_option linter.unusedVariables false
set_option linter.unusedSimpArgs false
open Utf Tok
theorem lt_ten : ∀ m : Nat, (m : Int) < 10 ^ (m + 1)
 | 0 => by decide
 | m + 1 => by
  have := lt_ten m
  rw [Int.pow_succ]
  omega
theorem some_ten {m : Int} (h : 0 ≤ m) : ∃ k : Nat, m < 10 ^ (k + 1) := ⟨m.toNat, by have := lt_ten m.toNat; omega⟩
theorem drop48 : ∀ (k : Nat) (l : List Int), (List.replicate k 48 ++ l).dropWhile (· == 48) = l.dropWhile (· == 48)
 | 0, l => rfl
 | k + 1, l => by
  rw [List.replicate_succ, List.cons_append, List.dropWhile_cons_of_pos (by rfl), drop48 k l]
theorem ratio_digits {k p z : Nat} {S : List Int} {m a' N d : Int} {below wh : Bool} {behind : Nat} (hm : 1 ≤ m) (hS : S = [] ∨ S = [48]) (he : m = a' * 10 ^ z) (ha : a' % 10 ≠ 0) (ha1 : 1 ≤ a')
  (hc : core (dgt m) = dgt a') (hl : (dgt m).length = (dgt a').length + z) (h18 : (dgt a').length ≤ 18) (hb : behind = p + S.length) (hsc : scaleR a' ((z : Int) - p) = some (N, d)) :
  ratio ⟨below, List.replicate k 48 ++ (dgt m ++ S), behind, 0, wh⟩ = (if below = true then -N else N, d) := by
 obtain ⟨km, hkm⟩ := some_ten (m := m) (by omega)
 obtain ⟨ka, hka⟩ := some_ten (m := a') (by omega)
 obtain ⟨_, _, _, c4, _⟩ := dgt_spec km m (by omega) hkm
 obtain ⟨v1, _, _, _, _⟩ := dgt_spec ka a' (by omega) hka
 obtain ⟨c, t, e1, e2⟩ := c4 hm
 have hd : (List.replicate k 48 ++ (dgt m ++ S)).dropWhile (· == 48) = dgt m ++ S := by
  rw [drop48, e1, List.cons_append, List.dropWhile_cons_of_neg (by simp [e2])]
 have hcore : core (dgt m ++ S) = dgt a' := by
  rcases hS with rfl | rfl
  ·rw [List.append_nil, hc]
  ·rw [core_snoc, hc]
 unfold ratio
 simp only [hd, hcore]
 rw [if_neg (by rw [e1]; simp), if_neg (by omega), v1]
 have ee : (0 : Int) - (behind : Int) + (((dgt m ++ S).length : Int) - ((dgt a').length : Int)) = (z : Int) - p := by
  rw [List.length_append, hl, hb]
  push_cast
  omega
 rw [ee, hsc]
 rfl
theorem ratio_zero {k : Nat} {S : List Int} {below wh : Bool} {behind : Nat} (hS : S = [] ∨ S = [48]) : ratio ⟨below, List.replicate k 48 ++ (dgt 0 ++ S), behind, 0, wh⟩ = (0, 1) := by
 have e0 : dgt 0 = [48] := dgt_small (by omega) (by omega)
 have hd : (List.replicate k 48 ++ (dgt 0 ++ S)).dropWhile (· == 48) = [] := by
  rw [drop48, e0]
  rcases hS with rfl | rfl <;> rfl
 unfold ratio
 simp only [hd, if_true]
theorem mayR_gcd {n d : Int} (hm : mayR n d = true) (hd : d ≠ 0) : 1 ≤ d ∧ n ≠ -9223372036854775808 ∧ Nat.gcd n.natAbs d.toNat = 1 := by
 unfold mayR sureR at hm
 simp only [Bool.or_eq_true, Bool.and_eq_true, beq_iff_eq, decide_eq_true_eq, bne_iff_ne] at hm
 rcases hm with ⟨_, h⟩ | ⟨⟨h1, h2⟩, h3⟩
 ·exact absurd h hd
 ·exact ⟨h1, h2, h3⟩
theorem gcd_mod {n d : Int} (h1 : 1 ≤ d) (hg : Nat.gcd n.natAbs d.toNat = 1) : ∀ x, (x = 2 ∨ x = 5) → d % x = 0 → (n.natAbs : Int) % x ≠ 0 := by
 intro x hx h2 h3
 have key : ∀ y : Nat, 1 < y → d % (y : Int) = 0 → (n.natAbs : Int) % (y : Int) = 0 → False := by
  intro y hy h2 h3
  have e1 : y ∣ n.natAbs := Int.natCast_dvd_natCast.1 (Int.dvd_of_emod_eq_zero h3)
  have e2 : y ∣ d.toNat := by
   have h4 := Int.dvd_of_emod_eq_zero h2
   have e : (d.toNat : Int) = d := by omega
   rw [← e] at h4
   exact Int.natCast_dvd_natCast.1 h4
  have := Nat.dvd_gcd e1 e2
  rw [hg] at this
  have := Nat.le_of_dvd (by omega) this
  omega
 rcases hx with rfl | rfl
 ·exact key 2 (by omega) h2 h3
 ·exact key 5 (by omega) h2 h3
theorem prog_whole {N m : Int} {p : Nat} (h : progN N 1 = some (m, p)) : p = 0 := by
 obtain ⟨a, b, hd, rfl, _, _, _⟩ := progN_val (by omega) (by omega) h
 have pa := pow_pos (x := 2) (by omega) a
 have pb := pow_pos (x := 5) (by omega) b
 rcases Nat.eq_zero_or_pos a with ha | ha
 ·rcases Nat.eq_zero_or_pos b with hb | hb
  ·omega
  ·obtain ⟨j, rfl⟩ : ∃ j, b = j + 1 := ⟨b - 1, by omega⟩
   rw [Int.pow_succ, ← Int.mul_assoc] at hd
   omega
 ·obtain ⟨j, rfl⟩ : ∃ j, a = j + 1 := ⟨a - 1, by omega⟩
  rw [Int.pow_succ, Int.mul_assoc, Int.mul_comm 2, ← Int.mul_assoc] at hd
  omega
abbrev fig (c : Int) : Prop := dig c = true ∨ c = 45 ∨ c = 46 ∨ c = 101
structure Back (n d : Int) (w : Bool) (t : List Int) (nm : Nm) : Prop where
 text : nm.text = t
 num : nm.num = ((n, d), w)
 read : ∀ u, calm3 u → numP (t ++ u) = (nm, u)
 start : (∃ c s, t = c :: s ∧ dig c = true) ∨ ∃ c s, t = 45 :: c :: s ∧ dig c = true
 chars : ∀ c ∈ t, fig c
theorem all_mem {l : List Int} (h : l.all dig = true) : ∀ c ∈ l, fig c := fun c hc => .inl (List.all_eq_true.1 h c hc)
theorem back_of {n d : Int} {w b : Bool} {d1 fr : List Int} (h1 : d1.all dig = true) (hn : d1 ≠ []) (h2 : fr.all dig = true)
  (hr : ratio ⟨b, d1 ++ fr, fr.length, 0, fr.isEmpty⟩ = (n, d)) (hw : fr.isEmpty = w) : ∃ nm, Back n d w ((if b = true then [45] else []) ++ (d1 ++ (if w = true then [] else 46 :: fr))) nm := by
 have hsg : (if b = true then [(45 : Int)] else []) = [] ∨ (if b = true then [(45 : Int)] else []) = [45] := by cases b <;> simp
 have hbe : ((if b = true then [(45 : Int)] else []) == [45]) = b := by cases b <;> rfl
 have hfr : (if fr = [] then [] else 46 :: fr) = (if w = true then [] else 46 :: fr) := by
  subst hw
  cases fr with
  | nil => rfl
  | cons x v => rfl
 have et : (⟨if b = true then [45] else [], d1, fr, [], []⟩ : Nm).text = (if b = true then [45] else []) ++ (d1 ++ (if w = true then [] else 46 :: fr)) := by
  unfold Nm.text
  simp only [List.append_nil, hfr, List.append_assoc]
 refine ⟨⟨if b = true then [45] else [], d1, fr, [], []⟩, et, ?_, fun u hu => ?_, ?_, ?_⟩
 ·unfold Nm.num Nm.wr
  simp only [hbe]
  have e1 : (if chr ([] : List Int) 1 = 45 then - expN 0 [] else expN 0 []) = 0 := by
   rw [if_neg (by rw [chr_n]; decide)]
   rfl
  rw [e1]
  have e2 : (fr.isEmpty && ([] : List Int).isEmpty) = fr.isEmpty := by simp
  rw [e2, hr, hw]
 ·rw [← et]
  exact numP_plain hsg h1 hn h2 hu
 ·obtain ⟨c, t, rfl⟩ : ∃ c t, d1 = c :: t := by
   cases d1 with
   | nil => exact absurd rfl hn
   | cons c t => exact ⟨c, t, rfl⟩
  have hc : dig c = true := by rw [List.all_cons, Bool.and_eq_true] at h1; exact h1.1
  cases b with
  | true => exact .inr ⟨c, _, rfl, hc⟩
  | false => exact .inl ⟨c, _, rfl, hc⟩
 ·intro c hc
  rcases List.mem_append.1 hc with h | h
  ·cases b with
   | true => simp at h; exact .inr (.inl h)
   | false => simp at h
  ·rcases List.mem_append.1 h with h | h
   ·exact all_mem h1 c h
   ·cases w with
    | true => simp at h
    | false =>
     simp at h
     rcases h with rfl | h
     ·exact .inr (.inr (.inl rfl))
     ·exact all_mem h2 c h
theorem plain_read {n d : Int} {w : Bool} {t : List Int} (h0 : -9223372036854775808 ≤ n) (h1 : n ≤ 9223372036854775807) (h3 : d ≤ 9223372036854775807) (h : plainT n d w = some t) : ∃ nm, Back n d w t nm := by
 unfold plainT at h
 split at h
 ·cases h
 ·rename_i hc
  have hm : mayR n d = true := by
   cases q : mayR n d with
   | true => rfl
   | false => rw [q] at hc; simp at hc
  have hw : w = true → d ≤ 1 := by
   rintro rfl
   rw [hm] at hc
   simp at hc
   exact hc
  split at h
  ·rename_i hd
   subst hd
   have hn : n = 0 := by
    unfold mayR sureR at hm
    simp only [Bool.or_eq_true, Bool.and_eq_true, beq_iff_eq, decide_eq_true_eq] at hm
    rcases hm with ⟨h, _⟩ | ⟨⟨h, _⟩, _⟩
    ·exact h
    ·omega
   subst hn
   cases w with
   | true =>
    rw [if_pos rfl] at h
    cases h
    have := back_of (n := 0) (d := 0) (w := true) (b := false) (d1 := List.replicate 20 57) (fr := []) (by decide) (by decide) rfl (by decide) rfl
    exact this
   | false =>
    rw [if_neg (by simp)] at h
    cases h
    refine ⟨⟨[], [49], [], [101], [57, 57]⟩, rfl, ?_, fun u hu => numP_over hu.1, .inl ⟨49, _, rfl, rfl⟩, by decide⟩
    unfold Nm.num
    have e : ratio (⟨[], [49], [], [101], [57, 57]⟩ : Nm).wr = (0, 0) := by
     have hu : upN 99 1 = none := upN_big (by omega) (by omega)
     have e1 : (⟨[], [49], [], [101], [57, 57]⟩ : Nm).wr = ⟨false, [49], 0, 99, false⟩ := rfl
     rw [e1]
     unfold ratio
     have e2 : ([49] : List Int).dropWhile (· == 48) = [49] := rfl
     have e3 : core [49] = [49] := rfl
     simp only [e2, e3]
     rw [if_neg (by simp), if_neg (by simp)]
     have e4 : valN 0 [49] = 1 := rfl
     have e5 : (99 : Int) - ((0 : Nat) : Int) + ((([49] : List Int).length : Int) - (([49] : List Int).length : Int)) = 99 := rfl
     rw [e4, e5]
     unfold scaleR
     have e6 : (99 : Int).toNat = 99 := rfl
     rw [e6, hu]
     rfl
    rw [e]
    rfl
  ·rename_i hd
   obtain ⟨h1d, hn64, hg⟩ := mayR_gcd hm hd
   have hgm := gcd_mod h1d hg
   split at h
   ·cases h
   ·rename_i m p hp
    have hwp : w = true → p = 0 := fun hw1 => by
     have : d = 1 := by have := hw hw1; omega
     subst this
     exact prog_whole hp
    unfold numText at h
    split at h
    ·cases h
    ·rename_i h18
     simp only [Option.some.injEq] at h
     obtain ⟨a, b, hd2, hpm, hv, _, _⟩ := progN_val h1d (by omega) hp
     have hm0 : 0 ≤ m := by
      rw [hv]
      have := pow_pos (x := 2) (by omega) (p - a)
      have := pow_pos (x := 5) (by omega) (p - b)
      exact Int.mul_nonneg (Int.mul_nonneg (by omega) (by omega)) (by omega)
     obtain ⟨km, hkm⟩ := some_ten hm0
     obtain ⟨s1, s2, s3, s4, s5⟩ := dgt_spec km m hm0 hkm
     have val : ∀ (S : List Int) (behind : Nat), (S = [] ∨ S = [48]) → behind = p + S.length → ∀ wh, ratio ⟨decide (n < 0), List.replicate (p + 1 - (dgt m).length) 48 ++ (dgt m ++ S), behind, 0, wh⟩ = (n, d) := by
      intro S behind hS hb wh
      rcases Int.lt_or_le 0 m with hpos | hneg
      ·obtain ⟨a', z, e1, e2, e3, e4, e5⟩ := core_dgt km m (by omega) hkm
       have hN : 1 ≤ (n.natAbs : Int) := by
        rcases Nat.eq_zero_or_pos n.natAbs with h | h
        ·rw [h] at hv; simp at hv; omega
        ·omega
       rw [e4] at h18
       rw [ratio_digits (by omega) hS e1 e2 e3 e4 e5 (by omega) hb (scale_back hN (by omega) h1d h3 hgm hp e1 e2 e3)]
       by_cases hn : n < 0
       ·rw [if_pos (by simp [hn])]; congr 1; omega
       ·rw [if_neg (by simp [hn])]; congr 1; omega
      ·have hm00 : m = 0 := by omega
       have hn0 : n = 0 := by
        have p1 := pow_pos (x := 2) (by omega) (p - a)
        have p2 := pow_pos (x := 5) (by omega) (p - b)
        rcases Nat.eq_zero_or_pos n.natAbs with h | h
        ·omega
        ·exfalso
         have : 1 ≤ (n.natAbs : Int) * 2 ^ (p - a) := Int.le_trans (by omega) (le_mulr (a := (n.natAbs : Int)) (by omega) p1)
         have : (n.natAbs : Int) * 2 ^ (p - a) ≤ (n.natAbs : Int) * 2 ^ (p - a) * 5 ^ (p - b) := le_mulr (by omega) p2
         omega
       have hd1 : d = 1 := by
        subst hn0
        simp at hg
        omega
       rw [hm00, ratio_zero hS, hn0, hd1]
     cases w with
     | true =>
      have hp0 := hwp rfl
      subst hp0
      have hl : 1 ≤ (dgt m).length := List.length_pos_iff.2 s3
      have e1 : 0 + 1 - (dgt m).length = 0 := by omega
      have v := val [] 0 (.inl rfl) rfl true
      rw [e1] at v h
      simp only [List.replicate_zero, List.nil_append, Nat.sub_zero, List.take_length, if_true, List.append_nil] at v h
      have := back_of (n := n) (d := d) (w := true) (b := decide (n < 0)) (d1 := dgt m) (fr := []) s2 s3 rfl (by rw [List.append_nil]; exact v) rfl
      rw [← h]
      simpa using this
     | false =>
      simp only [Bool.false_eq_true, if_false] at h
      have hT : (List.replicate (p + 1 - (dgt m).length) 48 ++ dgt m).all dig = true := by
       rw [List.all_append, s2, Bool.and_true, List.all_eq_true]
       intro c hc
       rw [List.eq_of_mem_replicate hc]
       rfl
      have hTl : p + 1 ≤ (List.replicate (p + 1 - (dgt m).length) (48 : Int) ++ dgt m).length := by
       rw [List.length_append, List.length_replicate]; omega
      have vv : ∀ (S : List Int) (behind : Nat), (S = [] ∨ S = [48]) → behind = p + S.length → ratio ⟨decide (n < 0), (List.replicate (p + 1 - (dgt m).length) 48 ++ dgt m) ++ S, behind, 0, false⟩ = (n, d) := fun S behind hS hb => by
       rw [List.append_assoc]
       exact val S behind hS hb false
      generalize List.replicate (p + 1 - (dgt m).length) 48 ++ dgt m = T at *
      have hS : (if p = 0 then [(48 : Int)] else []) = [] ∨ (if p = 0 then [(48 : Int)] else []) = [48] := by split <;> simp
      have hSd : (if p = 0 then [(48 : Int)] else []).all dig = true := by split <;> rfl
      have hfl : (T.drop (T.length - p) ++ if p = 0 then [48] else []).length = p + (if p = 0 then [(48 : Int)] else []).length := by
       rw [List.length_append, List.length_drop]; omega
      have hfne : (T.drop (T.length - p) ++ if p = 0 then [48] else []) ≠ [] := by
       intro e
       rw [e] at hfl
       simp only [List.length_nil] at hfl
       by_cases hp0 : p = 0
       ·rw [if_pos hp0] at hfl; simp at hfl
       ·omega
      have hfe : (T.drop (T.length - p) ++ if p = 0 then [48] else []).isEmpty = false := by simpa using hfne
      have hsub : ∀ l : List Int, (∀ c ∈ l, c ∈ T) → l.all dig = true := fun l hl => by
       rw [List.all_eq_true]
       exact fun c hc => List.all_eq_true.1 hT c (hl c hc)
      have := back_of (n := n) (d := d) (w := false) (b := decide (n < 0)) (d1 := T.take (T.length - p)) (fr := T.drop (T.length - p) ++ if p = 0 then [48] else [])
       (hsub _ fun c hc => List.mem_of_mem_take hc) (by
        intro e
        have := congrArg List.length e
        rw [List.length_take, List.length_nil] at this
        omega) (by rw [List.all_append, hsub _ fun c hc => List.mem_of_mem_drop hc, hSd]; rfl)
       (by rw [← List.append_assoc, List.take_append_drop, hfe]; exact vv _ _ hS hfl) hfe
      rw [← h]
      simpa using this
end Go.Lift.Spell
end

section
namespace Go.Lift.Spell
set_option linter.unusedVariables false
set_option linter.unusedSimpArgs false
open Utf Tok
theorem mem_core {l : List Int} (h : ∀ c ∈ l, dig c = true) : ∀ c ∈ core l, dig c = true := fun c hc => by
 unfold core at hc
 rw [List.mem_reverse] at hc
 exact h c (by simpa using (List.dropWhile_sublist _).subset hc)
theorem head_core (c : Int) (t : List Int) (hc : c ≠ 48) : ∃ u, core (c :: t) = c :: u := by
 unfold core
 rw [List.reverse_cons]
 have : ∀ l : List Int, ∃ u, (l ++ [c]).dropWhile (· == 48) = u ++ [c] := by
  intro l
  induction l with
  | nil => exact ⟨[], by rw [List.nil_append, List.dropWhile_cons_of_neg (by simpa using hc)]⟩
  | cons x l ih =>
   rw [List.cons_append]
   cases hx : (x == (48 : Int)) with
   | true => rw [List.dropWhile_cons_of_pos (p := (· == 48)) hx]; exact ih
   | false => rw [List.dropWhile_cons_of_neg (p := (· == 48)) (by simp [hx])]; exact ⟨x :: l, rfl⟩
 obtain ⟨u, hu⟩ := this t.reverse
 rw [hu]
 exact ⟨u.reverse, by simp⟩
theorem val_core {c : Int} {t : List Int} (hd : ∀ x ∈ c :: t, dig x = true) (hc : c ≠ 48) (hl : (core (c :: t)).length ≤ 18) : 1 ≤ valN 0 (core (c :: t)) ∧ valN 0 (core (c :: t)) < 10 ^ 18 := by
 obtain ⟨u, hu⟩ := head_core c t hc
 have hmem := mem_core hd
 rw [hu] at hl hmem ⊢
 have h1 := hmem c (by simp)
 simp only [dig, Bool.and_eq_true, decide_eq_true_eq] at h1
 have h2 : valN 0 (c :: u) = valN (c - 48) u := by simp [valN]
 rw [h2]
 obtain ⟨a, b, d⟩ := valN_bound u (c - 48) 1 (fun x hx => hmem x (by simp [hx])) (by omega) (by omega)
 refine ⟨by omega, ?_⟩
 simp only [List.length_cons] at hl
 obtain ⟨j, hj⟩ : ∃ j, 18 = 1 + u.length + j := ⟨18 - (1 + u.length), by omega⟩
 have h3 : (10 : Int) ^ (1 + u.length) ≤ 10 ^ 18 := by
  rw [hj, Int.pow_add _ (1 + u.length) j]
  have h0 := one_pow_le (y := 10) (by omega) (1 + u.length)
  exact le_mulr (by omega) (one_pow_le (by omega) j)
 omega
theorem divN_odd {y : Int} : ∀ (k : Nat) (n : Int), 0 < (divN y k n).1 → (divN y k n).2 % y ≠ 0
 | 0, n, h => by simp [divN] at h
 | k + 1, n, h => by
  simp only [divN] at h ⊢
  split
  ·rename_i h1
   rw [if_pos h1] at h
   exact divN_odd k _ h
  ·rename_i h1
   exact h1
theorem scaleR_val {M e N D : Int} (h1 : 1 ≤ M) (h2 : M < 10 ^ 18) (h : scaleR M e = some (N, D)) :
  (D = 1 ∧ N = M * 10 ^ e.toNat ∧ N ≤ 9223372036854775807 ∧ 1 ≤ N) ∨
  (e < 0 ∧ 1 ≤ N ∧ N ≤ M ∧ ∃ a b k : Nat, a ≤ 62 ∧ b ≤ 27 ∧ D = 2 ^ a * 5 ^ b ∧ a ≤ k ∧ b ≤ k ∧ M = N * 5 ^ (k - b) * 2 ^ (k - a) ∧ (0 < a → N % 2 ≠ 0) ∧ (0 < b → N % 5 ≠ 0) ∧ D ≤ 9223372036854775807) := by
 have h18 : (10 : Int) ^ 18 = 1000000000000000000 := by decide
 unfold scaleR at h
 split at h
 ·cases h
 ·rename_i m hu
  obtain ⟨um, ub⟩ := upN_some _ _ _ hu
  have hp := pow_pos (x := 10) (by omega) e.toNat
  have hm1 : 1 ≤ m := by rw [um]; exact Int.le_trans h1 (le_mulr (by omega) hp)
  split at h
  ·cases h
  ·rename_i hnot
   cases hk : mulN 5 1844674407370955161 (divN 5 (-e).toNat (divN 2 (-e).toNat m).2).1 (2 ^ (divN 2 (-e).toNat m).1) with
   | none => rw [hk] at h; cases h
   | some z =>
    rw [hk] at h
    simp only [Option.map_some, Option.some.injEq, Prod.mk.injEq] at h
    obtain ⟨hN, rfl⟩ := h
    by_cases he : 0 ≤ e
    ·left
     have e0 : (-e).toNat = 0 := by omega
     rw [e0] at hN hk
     simp only [divN, mulN, Option.some.injEq] at hN hk
     subst hN
     refine ⟨by rw [← hk]; rfl, um, ?_, hm1⟩
     rcases ub with ub | ub
     ·rw [ub] at um; simp at um; omega
     ·omega
    ·right
     have e0 : e.toNat = 0 := by omega
     rw [e0, Int.pow_zero, Int.mul_one] at um
     subst um
     obtain ⟨a1, b1, c1, d1⟩ := divN_spec (y := 2) (by omega) (-e).toNat m hm1
     obtain ⟨a2, b2, c2, d2⟩ := divN_spec (y := 5) (by omega) (-e).toNat _ b1
     have o1 := divN_odd (y := 2) (-e).toNat m
     have o2 := divN_odd (y := 5) (-e).toNat (divN 2 (-e).toNat m).2
     generalize (-e).toNat = k at *
     generalize (divN 2 k m).1 = a at *
     generalize (divN 2 k m).2 = r at *
     generalize (divN 5 k r).1 = b at *
     rw [hN] at b2 c2 d2 o2
     obtain ⟨v1, v2⟩ := mulN_some (by omega) _ _ _ hk
     refine ⟨by omega, b2, by omega, a, b, k, by omega, by omega, v1, a1, a2, by rw [← d2]; exact d1, fun ha => ?_, o2, ?_⟩
     ·have := o1 ha
      rw [d2] at this
      have p5 := pow5_mod (k - b)
      rw [Int.mul_emod, p5] at this
      omega
     ·rcases v2 with v2 | v2
      ·rw [v2, Int.pow_zero, Int.mul_one] at v1
       have := two_pow_le (show a ≤ 62 by omega)
       have h62 : (2 : Int) ^ 62 = 4611686018427387904 := by decide
       omega
      ·omega
theorem upM_some {x : Int} (hx : 1 ≤ x) : ∀ (k : Nat) (m : Int), 0 ≤ m → (k = 0 ∨ m * x ^ (k - 1) ≤ big) → upM x k m = some (m * x ^ k)
 | 0, m, _, _ => by simp [upM]
 | k + 1, m, h0, h => by
  have h : m * x ^ k ≤ big := by
   rcases h with h | h
   ·omega
   ·simpa using h
  have h1 : m ≤ m * x ^ k := le_mulr h0 (pow_pos (by omega) k)
  simp only [upM]
  rw [if_neg (by omega), upM_some hx k (m * x) (Int.mul_nonneg h0 (by omega)) ?_, Int.pow_succ, Int.mul_assoc, Int.mul_comm x]
  cases k with
  | zero => exact .inl rfl
  | succ k =>
   refine .inr ?_
   have e : m * x * x ^ k = m * x ^ (k + 1) := by rw [Int.pow_succ, Int.mul_assoc, Int.mul_comm x]
   simp only [Nat.add_sub_cancel]
   rw [e]
   exact h
theorem odd_uniq : ∀ (a b : Nat) (x y : Int), x % 2 = 1 → y % 2 = 1 → (2 : Int) ^ a * x = 2 ^ b * y → a = b ∧ x = y
 | 0, 0, x, y, _, _, h => by simp at h; exact ⟨rfl, h⟩
 | 0, b + 1, x, y, hx, _, h => by
  rw [Int.pow_succ, Int.mul_assoc, Int.mul_comm 2, ← Int.mul_assoc] at h
  simp at h
  omega
 | a + 1, 0, x, y, _, hy, h => by
  rw [Int.pow_succ, Int.mul_assoc, Int.mul_comm 2, ← Int.mul_assoc] at h
  simp at h
  omega
 | a + 1, b + 1, x, y, hx, hy, h => by
  have h2 : (2 : Int) ^ a * x = 2 ^ b * y := by
   rw [Int.pow_succ, Int.pow_succ, Int.mul_assoc, Int.mul_comm 2, ← Int.mul_assoc, Int.mul_assoc _ 2 y, Int.mul_comm 2 y, ← Int.mul_assoc] at h
   omega
  obtain ⟨e1, e2⟩ := odd_uniq a b x y hx hy h2
  exact ⟨by omega, e2⟩
theorem progN_some {N D : Int} {a b : Nat} (hN : 0 ≤ N) (hD : D = 2 ^ a * 5 ^ b) (hD2 : D ≤ 9223372036854775807) (hb : b ≤ 27) (hm : N * 2 ^ (max a b - a) * 5 ^ (max a b - b) ≤ big) :
  progN N D = some (N * 2 ^ (max a b - a) * 5 ^ (max a b - b), max a b) := by
 have pa := pow_pos (x := 2) (by omega) a
 have pb := pow_pos (x := 5) (by omega) b
 have hD1 : 1 ≤ D := by rw [hD]; exact Int.le_trans (by omega) (le_mulr (a := 2 ^ a) (by omega) pb)
 have hlow := Go.Lib.ctzFrom_spec 64 D.toNat (by omega) (by omega)
 have hctz : Go.Lib.ctz 64 D.toNat = Go.Lib.ctzFrom 64 D.toNat := by unfold Go.Lib.ctz; rw [if_neg (by omega)]
 rw [← hctz] at hlow
 obtain ⟨q, hq, _⟩ := hlow
 have hd : D = 2 ^ Go.Lib.ctz 64 D.toNat * (2 * (q : Int) + 1) := by
  generalize Go.Lib.ctz 64 D.toNat = c at *
  have : (D.toNat : Int) = ((2 ^ c * (2 * q + 1) : Nat) : Int) := by rw [hq]
  have e : (D.toNat : Int) = D := by omega
  rw [e] at this
  rw [this]; push_cast; rfl
 obtain ⟨ec, _⟩ := odd_uniq (Go.Lib.ctz 64 D.toNat) a (2 * (q : Int) + 1) (5 ^ b) (by omega) (pow5_mod b) (by rw [← hd, hD])
 have ediv : D / 2 ^ a = 5 ^ b := by rw [hD]; exact Int.mul_ediv_cancel_left _ (by omega)
 have p2 := pow_pos (x := 2) (by omega) (max a b - a)
 have p5 := pow_pos (x := 5) (by omega) (max a b - b)
 have hn2 : 0 ≤ N * 2 ^ (max a b - a) := Int.mul_nonneg hN (by omega)
 have u1 : upM 2 (max a b - a) N = some (N * 2 ^ (max a b - a)) := by
  apply upM_some (by omega) _ _ hN
  cases hj : max a b - a with
  | zero => exact .inl rfl
  | succ j =>
   refine .inr ?_
   simp only [Nat.add_sub_cancel]
   have q2 := pow_pos (x := 2) (by omega) j
   have : 0 ≤ N * 2 ^ j := Int.mul_nonneg hN (by omega)
   have h3 : N * 2 ^ j ≤ N * 2 ^ (max a b - a) := by
    rw [hj, Int.pow_succ, ← Int.mul_assoc]
    exact le_mulr this (by omega)
   have h4 : N * 2 ^ (max a b - a) ≤ N * 2 ^ (max a b - a) * 5 ^ (max a b - b) := le_mulr hn2 p5
   omega
 have u2 : upM 5 (max a b - b) (N * 2 ^ (max a b - a)) = some (N * 2 ^ (max a b - a) * 5 ^ (max a b - b)) := by
  apply upM_some (by omega) _ _ hn2
  cases hj : max a b - b with
  | zero => exact .inl rfl
  | succ j =>
   refine .inr ?_
   simp only [Nat.add_sub_cancel]
   have q2 := pow_pos (x := 5) (by omega) j
   have : 0 ≤ N * 2 ^ (max a b - a) * 5 ^ j := Int.mul_nonneg hn2 (by omega)
   have h3 : N * 2 ^ (max a b - a) * 5 ^ j ≤ N * 2 ^ (max a b - a) * 5 ^ (max a b - b) := by
    rw [hj, Int.pow_succ, ← Int.mul_assoc]
    exact le_mulr this (by omega)
   omega
 unfold progN
 simp only [ec, ediv, fv_pow 64 b (by omega), u1, u2, Option.bind_some, Option.map_some, if_true]
theorem coprime_mod {N : Nat} {y : Nat} (hy : y = 2 ∨ y = 5) (h : (N : Int) % (y : Int) ≠ 0) : Nat.Coprime N y := by
 have hlt : Nat.gcd N y ∣ y := Nat.gcd_dvd_right N y
 have hdn : Nat.gcd N y ∣ N := Nat.gcd_dvd_left N y
 have hle := Nat.le_of_dvd (by omega) hlt
 have hpos : 0 < Nat.gcd N y := Nat.gcd_pos_of_pos_right _ (by omega)
 have hnot : ¬ y ∣ N := fun hd => h (Int.emod_eq_zero_of_dvd (Int.natCast_dvd_natCast.2 hd))
 generalize hg : Nat.gcd N y = g at *
 have : g = 1 := by
  rcases hy with rfl | rfl
  ·rcases (by omega : g = 1 ∨ g = 2) with h | h
   ·exact h
   ·exact absurd (h ▸ hdn) hnot
  ·rcases (by omega : g = 1 ∨ g = 2 ∨ g = 3 ∨ g = 4 ∨ g = 5) with h | h | h | h | h
   ·exact h
   ·exfalso; subst h; revert hlt; decide
   ·exfalso; subst h; revert hlt; decide
   ·exfalso; subst h; revert hlt; decide
   ·exact absurd (h ▸ hdn) hnot
 unfold Nat.Coprime
 rw [hg, this]
theorem gcd_one {N D : Int} {a b : Nat} (hN : 0 ≤ N) (hD : D = 2 ^ a * 5 ^ b) (h2 : 0 < a → N % 2 ≠ 0) (h5 : 0 < b → N % 5 ≠ 0) : Nat.gcd N.natAbs D.toNat = 1 := by
 have eD : D.toNat = 2 ^ a * 5 ^ b := by
  have : D = ((2 ^ a * 5 ^ b : Nat) : Int) := by rw [hD]; push_cast; rfl
  rw [this]; rfl
 have eN : (N.natAbs : Int) = N := by omega
 rw [eD]
 have c1 : Nat.Coprime N.natAbs (2 ^ a) := by
  rcases Nat.eq_zero_or_pos a with rfl | h
  ·simp [Nat.Coprime]
  ·exact Nat.Coprime.pow_right a (coprime_mod (.inl rfl) (by rw [eN]; exact h2 h))
 have c2 : Nat.Coprime N.natAbs (5 ^ b) := by
  rcases Nat.eq_zero_or_pos b with rfl | h
  ·simp [Nat.Coprime]
  ·exact Nat.Coprime.pow_right b (coprime_mod (.inr rfl) (by rw [eN]; exact h5 h))
 exact Nat.Coprime.mul_right c1 c2
theorem core_ten {x : Int} (h : 1 ≤ x) : ∀ k : Nat, core (dgt (x * 10 ^ k)) = core (dgt x)
 | 0 => by simp
 | k + 1 => by
  have hp := pow_pos (x := 10) (by omega) k
  have h1 : x ≤ x * 10 ^ k := le_mulr (by omega) hp
  have e : x * 10 ^ (k + 1) = x * 10 ^ k * 10 := by rw [Int.pow_succ, Int.mul_assoc]
  rw [e, dgt_big (by omega), Int.mul_ediv_cancel _ (by omega)]
  have e2 : 48 + x * 10 ^ k * 10 % 10 = 48 := by omega
  rw [e2, core_snoc, core_ten h k]
theorem plain_some {N D : Int} {a b : Nat} {below w : Bool} (h1 : 0 ≤ N) (hN : N ≤ 9223372036854775807) (hD : D = 2 ^ a * 5 ^ b) (hD2 : D ≤ 9223372036854775807) (hb : b ≤ 27) (h2 : 0 < a → N % 2 ≠ 0) (h5 : 0 < b → N % 5 ≠ 0)
  (hm : N * 2 ^ (max a b - a) * 5 ^ (max a b - b) ≤ big ∨ (a = 0 ∧ b = 0)) (hc : (core (dgt (N * 2 ^ (max a b - a) * 5 ^ (max a b - b)))).length ≤ 18) (hw : w = true → D ≤ 1) :
  ∃ t, plainT (if below = true then -N else N) D w = some t := by
 have pa := pow_pos (x := 2) (by omega) a
 have pb := pow_pos (x := 5) (by omega) b
 have hD1 : 1 ≤ D := by rw [hD]; exact Int.le_trans (by omega) (le_mulr (a := 2 ^ a) (by omega) pb)
 have hab : ((if below = true then -N else N).natAbs : Int) = N := by cases below <;> simp <;> omega
 have hab2 : (if below = true then -N else N).natAbs = N.natAbs := by omega
 have hg := gcd_one h1 hD h2 h5
 have hmay : mayR (if below = true then -N else N) D = true := by
  unfold mayR sureR
  rw [hab2, hg]
  have : (if below = true then -N else N) ≠ -9223372036854775808 := by cases below <;> simp <;> omega
  simp [this, hD1]
 have hp : progN N D = some (N * 2 ^ (max a b - a) * 5 ^ (max a b - b), max a b) := by
  rcases hm with hm | ⟨rfl, rfl⟩
  ·exact progN_some h1 hD hD2 hb hm
  ·have hd : D = 1 := by simpa using hD
   subst hd
   simp only [Nat.max_self, Nat.sub_self, Int.pow_zero, Int.mul_one]
   have c1 : Go.Lib.ctz 64 1 = 0 := by decide
   unfold progN
   have e1 : (1 : Int).toNat = 1 := rfl
   have e2 : (1 : Int) / 2 ^ 0 = 1 := rfl
   have e3 : fv 64 1 = (0, 1) := rfl
   simp only [e1, c1, e2, e3]
   simp [upM]
 unfold plainT
 rw [hmay]
 have hcond : (!true || w && decide (1 < D)) = false := by
  cases w with
  | false => rfl
  | true => have := hw rfl; simp; omega
 rw [hcond, if_neg (by simp), if_neg (by omega), hab, hp]
 simp only
 unfold numText
 rw [if_neg (by omega)]
 exact ⟨_, rfl⟩
theorem read_plainT {nm : Nm} (ok : nm.Ok) : ∃ t, plainT nm.num.1.1 nm.num.1.2 nm.num.2 = some t := by
 have zero : ∀ w, ∃ t, plainT 0 1 w = some t := fun w => by
  have := plain_some (N := 0) (D := 1) (a := 0) (b := 0) (below := false) (w := w) (by omega) (by omega) (by simp) (by omega) (by omega) (by omega) (by omega) (.inr ⟨rfl, rfl⟩) (by
   have e0 : dgt 0 = [48] := dgt_small (by omega) (by omega)
   simp only [Int.zero_mul]
   rw [e0]; decide) (by omega)
  simpa using this
 have over : ∀ w, ∃ t, plainT 0 0 w = some t := fun w => by
  unfold plainT
  have : (!mayR 0 0 || w && decide ((1 : Int) < 0)) = false := by cases w <;> rfl
  rw [this, if_neg (by simp), if_pos rfl]
  exact ⟨_, rfl⟩
 have big18 : big = 10 ^ 18 := by decide
 unfold Nm.num
 simp only
 have hwh : nm.wr.whole = true → nm.wr.exp = 0 ∧ nm.wr.behind = 0 := by
  intro h
  simp only [Nm.wr, Bool.and_eq_true, List.isEmpty_iff] at h ⊢
  obtain ⟨h1, h2⟩ := h
  have h3 : nm.d3 = [] := by
   rcases ok.ex with h | ⟨⟨e, _, h⟩, _⟩
   ·exact h.2
   ·rw [h2] at h
    rcases h with h | h | h <;> cases h
  rw [h1, h2, h3]
  exact ⟨rfl, rfl⟩
 have hdig : ∀ c ∈ nm.wr.digits, dig c = true := by
  intro c hc
  rcases List.mem_append.1 (show c ∈ nm.d1 ++ nm.fr from hc) with h | h
  ·exact List.all_eq_true.1 ok.d1 c h
  ·exact List.all_eq_true.1 ok.fr c h
 generalize nm.wr = wr at *
 unfold ratio
 simp only
 split
 ·exact zero _
 ·rename_i hne
  split
  ·exact over _
  ·rename_i h18
   have hsub : ∀ c ∈ wr.digits.dropWhile (· == 48), dig c = true := fun c hc => hdig c ((List.dropWhile_sublist _).subset hc)
   have hhead : ∀ c t, wr.digits.dropWhile (· == 48) = c :: t → c ≠ 48 := by
    intro c t e
    have : ∀ l : List Int, ∀ c t, l.dropWhile (· == 48) = c :: t → c ≠ 48 := by
     intro l
     induction l with
     | nil => intro c t h; cases h
     | cons x l ih =>
      intro c t h
      cases hx : (x == (48 : Int)) with
      | true => rw [List.dropWhile_cons_of_pos (p := (· == 48)) hx] at h; exact ih c t h
      | false =>
       rw [List.dropWhile_cons_of_neg (p := (· == 48)) (by simp [hx])] at h
       cases h
       simpa using hx
    exact this _ c t e
   have hcl := core_le (wr.digits.dropWhile (· == 48))
   generalize wr.digits.dropWhile (· == 48) = d at *
   obtain ⟨c, t, rfl⟩ : ∃ c t, d = c :: t := by
    cases d with
    | nil => exact absurd rfl hne
    | cons c t => exact ⟨c, t, rfl⟩
   obtain ⟨v0, v1⟩ := val_core hsub (hhead c t rfl) (by omega)
   generalize hL : (((c :: t).length : Int) - ((core (c :: t)).length : Int)) = L at *
   have hL0 : 0 ≤ L := by omega
   generalize valN 0 (core (c :: t)) = M at *
   cases hs : scaleR M (wr.exp - wr.behind + L) with
   | none => exact over _
   | some nd =>
    obtain ⟨N, D⟩ := nd
    simp only [turn]
    rcases scaleR_val v0 v1 hs with ⟨rfl, hN, hN2, hN1⟩ | ⟨he, hN1, hNM, a, b, k, ha, hb, hD, hak, hbk, hM, o2, o5, hD2⟩
    ·refine plain_some (a := 0) (b := 0) (by omega) hN2 (by simp) (by omega) (by omega) (by omega) (by omega) (.inr ⟨rfl, rfl⟩) ?_ (by omega)
     simp only [Nat.max_self, Nat.sub_self, Int.pow_zero, Int.mul_one]
     rw [hN, core_ten v0]
     have h2 := (dgt_spec 17 M (by omega) v1).2.2.2.2
     have h3 := core_le (dgt M)
     omega
    ·have hm : N * 2 ^ (max a b - a) * 5 ^ (max a b - b) ≤ M := by
      obtain ⟨j, rfl⟩ : ∃ j, k = max a b + j := ⟨k - max a b, by omega⟩
      have e1 : max a b + j - b = (max a b - b) + j := by omega
      have e2 : max a b + j - a = (max a b - a) + j := by omega
      rw [e1, e2, Int.pow_add, Int.pow_add] at hM
      have p2 := pow_pos (x := 2) (by omega) (max a b - a)
      have p5 := pow_pos (x := 5) (by omega) (max a b - b)
      have q2 := pow_pos (x := 2) (by omega) j
      have q5 := pow_pos (x := 5) (by omega) j
      have e3 : M = N * 2 ^ (max a b - a) * 5 ^ (max a b - b) * (5 ^ j * 2 ^ j) := by
       rw [hM]
       simp only [Int.mul_assoc, Int.mul_comm, Int.mul_left_comm]
      rw [e3]
      refine le_mulr (Int.mul_nonneg (Int.mul_nonneg (by omega) (by omega)) (by omega)) ?_
      exact Int.le_trans (by omega) (le_mulr (a := (5 : Int) ^ j) (by omega) q2)
     have hm0 : 0 ≤ N * 2 ^ (max a b - a) * 5 ^ (max a b - b) := by
      have p2 := pow_pos (x := 2) (by omega) (max a b - a)
      have p5 := pow_pos (x := 5) (by omega) (max a b - b)
      exact Int.mul_nonneg (Int.mul_nonneg (by omega) (by omega)) (by omega)
     have h18' : (10 : Int) ^ 18 = 1000000000000000000 := by decide
     refine plain_some (by omega) (by omega) hD hD2 hb o2 o5 (.inl (by rw [big18]; omega)) ?_ ?_
     ·have h2 := (dgt_spec 17 _ hm0 (by omega)).2.2.2.2
      have h3 := core_le (dgt (N * 2 ^ (max a b - a) * 5 ^ (max a b - b)))
      omega
     ·intro hw
      obtain ⟨w1, w2⟩ := hwh hw
      rw [w1, w2] at he
      omega
end Go.Lift.Spell
end

section
namespace Go.Lift.Spell
set_option linter.unusedVariables false
set_option linter.unusedSimpArgs false
open Utf Tok
variable {l r : List Int}
theorem ends_calm (h : ends r) : calm3 r ∧ beg (chr r 0) (chr r 1) (chr r 2) = false := by
 obtain ⟨e0, e1, e2, e3, e4, e5, e6, e7, e8⟩ := h
 have hl : fst1 (chr r 0) = false ∧ dig (chr r 0) = false ∧ (chr r 0 == 45) = false := by
  unfold ltr at e0
  simp only [Bool.or_eq_false_iff] at e0
  exact ⟨e0.1.1, e0.1.2, e0.2⟩
 refine ⟨⟨hl.2.1, e3, ?_⟩, ?_⟩
 ·have h1 : (chr r 0 == 101) = false := by
   cases q : (chr r 0 == 101) with
   | false => rfl
   | true => have := hl.1; rw [eq_of_beq q] at this; cases this
  have h2 : (chr r 0 == 69) = false := by
   cases q : (chr r 0 == 69) with
   | false => rfl
   | true => have := hl.1; rw [eq_of_beq q] at this; cases this
  rw [h1, h2]
  rfl
 ·unfold beg
  rw [hl.2.2, if_neg (by simp), hl.1, esc_m e1]
  rfl
theorem ident_head {x : Int} {t : List Int} (hs : Snd (x :: t)) : chr (identQ (x :: t) ++ r) 0 = 92 ∨ chr (identQ (x :: t) ++ r) 0 = x := by
 obtain ⟨hx, hx0⟩ := hs x (by simp)
 have one : ∀ u : List Int, chr (nameQ1 x ++ u) 0 = 92 ∨ chr (nameQ1 x ++ u) 0 = x := fun u => by
  rcases nameQ1_at' hx0 with ⟨c, v, e, _⟩ | ⟨e, _⟩
  ·rw [e]; exact .inl rfl
  ·rw [e]; exact .inr rfl
 by_cases h45 : x :: t = [45]
 ·have e : identQ (x :: t) = [92, 45] := by unfold identQ; rw [if_pos h45]
  rw [e]; exact .inl rfl
 ·cases qd : dig x with
  | true =>
   have e : identQ (x :: t) = codeT x ++ nameQ t := by unfold identQ; rw [if_neg h45]; simp only [qd, if_true]
   rw [e, List.append_assoc, codeT_app]; exact .inl rfl
  | false =>
   cases t with
   | nil =>
    have e : identQ [x] = nameQ [x] := by unfold identQ; rw [if_neg h45]; simp only [qd, Bool.false_eq_true, if_false]
    have eN : nameQ [x] ++ r = nameQ1 x ++ r := by show nameQ1 x ++ [] ++ r = _; rw [List.append_nil]
    rw [e, eN]; exact one r
   | cons y u =>
    have e : identQ (x :: y :: u) = if x = 45 ∧ dig y = true then 45 :: (codeT y ++ nameQ u) else nameQ (x :: y :: u) := by unfold identQ; rw [if_neg h45]; simp only [qd, Bool.false_eq_true, if_false]
    rw [e]
    split
    ·rename_i hc
     rw [hc.1]
     exact .inr rfl
    ·have eM : nameQ (x :: y :: u) ++ r = nameQ1 x ++ (nameQ (y :: u) ++ r) := by show nameQ1 x ++ nameQ (y :: u) ++ r = _; rw [List.append_assoc]
     rw [eM]; exact one _
theorem name_head {t : List Int} (hs : Snd t) (h : chr r 0 ≠ 43 ∧ chr r 0 ≠ 45 ∧ dig (chr r 0) = false) (he : expT t = false) :
  dig (chr (nameQ t ++ r) (if (chr (nameQ t ++ r) 0 == 43 || chr (nameQ t ++ r) 0 == 45) = true then 1 else 0)) = false := by
 have d92 : dig 92 = false := rfl
 have s92 : ((92 : Int) == 43 || (92 : Int) == 45) = false := rfl
 cases t with
 | nil =>
  show dig (chr r (if (chr r 0 == 43 || chr r 0 == 45) = true then 1 else 0)) = false
  have : (chr r 0 == 43 || chr r 0 == 45) = false := by simp [h.1, h.2.1]
  rw [this, if_neg (by simp)]
  exact h.2.2
 | cons y v =>
  obtain ⟨hy, hy0⟩ := hs y (by simp)
  have e : nameQ (y :: v) ++ r = nameQ1 y ++ (nameQ v ++ r) := by show nameQ1 y ++ nameQ v ++ r = _; rw [List.append_assoc]
  rw [e]
  rcases nameQ1_at' hy0 with ⟨c, w, e1, _⟩ | ⟨e1, hl⟩
  ·rw [e1, List.cons_append, chr_c0, s92, if_neg (by simp), chr_c0]
   exact d92
  ·rw [e1, List.singleton_append, chr_c0]
   have h43 : (y == 43) = false := by
    cases q : (y == 43) with
    | false => rfl
    | true => rw [eq_of_beq q] at hl; cases hl
   rw [h43, Bool.false_or]
   by_cases h45 : y = 45
   ·subst h45
    rw [if_pos (by rfl), chr_c1]
    cases v with
    | nil => exact h.2.2
    | cons z u =>
     obtain ⟨hz, hz0⟩ := hs z (by simp)
     have e2 : nameQ (z :: u) ++ r = nameQ1 z ++ (nameQ u ++ r) := by show nameQ1 z ++ nameQ u ++ r = _; rw [List.append_assoc]
     have hdz : dig z = false := by
      have : expT (45 :: z :: u) = (dig 45 || (45 : Int) == 45 && dig z) := rfl
      rw [this, Bool.or_eq_false_iff] at he
      simpa using he.2
     rw [e2]
     rcases nameQ1_at' hz0 with ⟨c, w, e3, _⟩ | ⟨e3, _⟩
     ·rw [e3, List.cons_append, chr_c0]; exact d92
     ·rw [e3, List.singleton_append, chr_c0]; exact hdz
   ·have q45 : (y == 45) = false := by simp [h45]
    rw [q45, if_neg (by simp), chr_c0]
    cases v with
    | nil => simpa [expT] using he
    | cons z u =>
     have : expT (y :: z :: u) = (dig y || y == 45 && dig z) := rfl
     rw [this, Bool.or_eq_false_iff] at he
     exact he.1
theorem unit_calm (hs : Snd l) (hn : l ≠ []) (hr : ends r) : calm3 (unitQ l ++ r) ∧ beg (chr (unitQ l ++ r) 0) (chr (unitQ l ++ r) 1) (chr (unitQ l ++ r) 2) = true := by
 obtain ⟨x, t, rfl⟩ : ∃ x t, l = x :: t := by
  cases l with
  | nil => exact absurd rfl hn
  | cons x t => exact ⟨x, t, rfl⟩
 have calm_of : ∀ u : List Int, beg (chr u 0) (chr u 1) (chr u 2) = true → ((chr u 0 == 101 || chr u 0 == 69) && dig (chr u (if (chr u 1 == 43 || chr u 1 == 45) = true then 2 else 1))) = false → calm3 u := by
  intro u hb he
  refine ⟨?_, ?_, he⟩
  ·rcases beg_cases hb with ⟨h, _⟩ | ⟨_, h | ⟨h, _⟩⟩
   ·rw [h]; rfl
   ·have := fst_num h
    unfold dig
    simp
    omega
   ·rw [h]; rfl
  ·rcases beg_cases hb with ⟨h, _⟩ | ⟨_, h | ⟨h, _⟩⟩
   ·rw [h]; decide
   ·have := fst_num h
    omega
   ·rw [h]; decide
 cases hc : ((x == 101 || x == 69) && expT t) with
 | true =>
  have hx1 : 1 ≤ x := by
   rw [Bool.and_eq_true, Bool.or_eq_true, beq_iff_eq, beq_iff_eq] at hc
   omega
  have e : unitQ (x :: t) ++ r = codeT x ++ (nameQ t ++ r) := by
   show (if ((x == 101 || x == 69) && expT t) = true then codeT x ++ nameQ t else identQ (x :: t)) ++ r = _
   rw [hc, if_pos rfl, List.append_assoc]
  obtain ⟨c, v, e2, hc10⟩ := code_cons hx1 (nameQ t ++ r)
  rw [e, e2]
  have hb : beg (chr (92 :: c :: v) 0) (chr (92 :: c :: v) 1) (chr (92 :: c :: v) 2) = true := by
   rw [chr_c0, chr_c1, chr_c0]; exact beg_esc hc10
  exact ⟨calm_of _ hb rfl, hb⟩
 | false =>
  have e : unitQ (x :: t) ++ r = identQ (x :: t) ++ r := by
   show (if ((x == 101 || x == 69) && expT t) = true then codeT x ++ nameQ t else identQ (x :: t)) ++ r = _
   rw [hc, if_neg (by simp)]
  have hb := (ident_beg hs hn r).1
  rw [e]
  refine ⟨calm_of _ hb ?_, hb⟩
  cases hx : (x == 101 || x == 69) with
  | false =>
   have : (chr (identQ (x :: t) ++ r) 0 == 101 || chr (identQ (x :: t) ++ r) 0 == 69) = false := by
    rcases ident_head (r := r) hs with h | h
    ·rw [h]; rfl
    ·rw [h]; exact hx
   rw [this]
   rfl
  | true =>
   have he : expT t = false := by rw [hx] at hc; simpa using hc
   have hx2 : x = 101 ∨ x = 69 := by simpa using hx
   have hdx : dig x = false := by rcases hx2 with rfl | rfl <;> rfl
   have hraw : nameQ1 x = [x] := by rcases hx2 with rfl | rfl <;> decide
   have hx45 : x ≠ 45 := by omega
   have eI : identQ (x :: t) ++ r = x :: (nameQ t ++ r) := by
    have : identQ (x :: t) = nameQ (x :: t) := by
     unfold identQ
     rw [if_neg (by intro h; cases h; exact hx45 rfl)]
     simp only
     rw [hdx, if_neg (by simp)]
     cases t with
     | nil => rfl
     | cons y u =>
      simp only
      rw [if_neg (fun h => hx45 h.1)]
    rw [this, nameQ, hraw, List.append_assoc]
    rfl
   have hr3 : chr r 0 ≠ 43 ∧ chr r 0 ≠ 45 ∧ dig (chr r 0) = false := by
    have h0 := hr.1
    unfold ltr at h0
    simp only [Bool.or_eq_false_iff, beq_eq_false_iff_ne] at h0
    exact ⟨hr.2.2.2.2.2.1, h0.2, h0.1.2⟩
   have hh := name_head (r := r) (fun y hy => hs y (by simp [hy])) hr3 he
   rw [eI, chr_c0, chr_c1]
   have e3 : chr (x :: (nameQ t ++ r)) (if (chr (nameQ t ++ r) 0 == 43 || chr (nameQ t ++ r) 0 == 45) = true then 2 else 1) = chr (nameQ t ++ r) (if (chr (nameQ t ++ r) 0 == 43 || chr (nameQ t ++ r) 0 == 45) = true then 1 else 0) := by
    split
    ·rw [chr_c2]
    ·rw [chr_c1]
   rw [e3, hh, Bool.and_false]
theorem token_figure {n d : Int} {w : Bool} {t : List Int} {nm : Nm} (hb : Back n d w t nm) (u : List Int) : token (t ++ u) = figure (t ++ u) := by
 have go : ∀ c s, (dig c = true ∨ c = 45 ∧ dig (chr s 0) = true) → token (c :: s) = figure (c :: s) := by
  intro c s h
  have hc : (48 ≤ c ∧ c ≤ 57) ∨ c = 45 := by
   rcases h with h | h
   ·left; simpa [dig] using h
   ·exact .inr h.1
  have f1 : blk c = false := by unfold blk; simp; omega
  have f2 : quo c = false := by unfold quo; simp; omega
  have f3 : plK c = 0 := plK_zero (by omega)
  have f4 : num c (chr s 0) (chr s 1) = true := by
   rcases h with h | ⟨rfl, h⟩
   ·unfold num
    rw [dig_sign h, if_neg (by simp), h]
    rfl
   ·unfold num
    rw [if_pos (by rfl), h]
    rfl
  unfold token
  simp only [chr_c0, chr_c1, chr_c2, f1, f2, f3, f4, Bool.false_eq_true, if_false, if_true, Int.lt_irrefl]
 rcases hb.start with ⟨c, s, e, hc⟩ | ⟨c, s, e, hc⟩
 ·rw [e, List.cons_append]; exact go _ _ (.inl hc)
 ·rw [e, List.cons_append, List.cons_append]; exact go _ _ (.inr ⟨rfl, hc⟩)
theorem read_number {n d : Int} {w : Bool} {t : List Int} {nm : Nm} (hb : Back n d w t nm) (hr : ends r) : token (t ++ r) = (⟨10, [], (n, d), w, false⟩, r) := by
 obtain ⟨h1, h2⟩ := ends_calm hr
 rw [token_figure hb, figure, hb.read r h1]
 simp only [hb.num, h2, Bool.false_eq_true, if_false]
 rw [if_neg hr.2.2.2.2.1]
theorem read_percent {n d : Int} {w : Bool} {t : List Int} {nm : Nm} (hb : Back n d w t nm) : token (t ++ 37 :: r) = (⟨11, [], (n, d), w, false⟩, r) := by
 have h1 : calm3 (37 :: r) := ⟨rfl, by rw [chr_c0]; decide, rfl⟩
 have h2 : ∀ d e, beg 37 d e = false := fun _ _ => rfl
 rw [token_figure hb, figure, hb.read _ h1]
 simp only [hb.num, chr_c0, h2, Bool.false_eq_true, if_false, if_true, List.drop_succ_cons, List.drop_zero]
theorem read_dim {n d : Int} {w : Bool} {t : List Int} {nm : Nm} (hb : Back n d w t nm) (hs : Snd l) (hn : l ≠ []) (hr : ends r) : token (t ++ (unitQ l ++ r)) = (⟨12, l, (n, d), w, false⟩, r) := by
 obtain ⟨h1, h2⟩ := unit_calm hs hn hr
 rw [token_figure hb, figure, hb.read _ h1]
 simp only [hb.num, h2, if_true]
 rw [name_wr (unitQ_wr fun x hx => (hs x hx).1) (ends_stops hr)]
end Go.Lift.Spell
end
