/- What is computed, in plain Lean. -/
import Derived.Test.YtnfdhgadidacaaaGreatDoorGZb
section
namespace Go.Lift.Spell
set_option linter.unusedVariables false
set_option linter.unusedSimpArgs false
open Utf Tok
theorem by_nil : By [] := fun c hc => by cases hc
theorem by_app {a b : List Int} (ha : By a) (hb : By b) : By (a ++ b) := fun c hc => by
 rcases List.mem_append.1 hc with h | h
 ·exact ha c h
 ·exact hb c h
theorem by_cons {x : Int} {b : List Int} (h0 : 0 ≤ x) (h1 : x ≤ 255) (hb : By b) : By (x :: b) := fun c hc => by
 rcases List.mem_cons.1 hc with rfl | h
 ·exact ⟨h0, h1⟩
 ·exact hb c h
def textC (sg : List Int) (sp : Bool) (x : Int) : List Int :=
 if (hidT x || (sp && x == 32)) = true then codeT x else if sg.contains x = true then 92 :: enc (scal x) else enc (scal x)
def textT (sg : List Int) (sp : Bool) : List Int → List Int
 | [] => []
 | x :: l => textC sg sp x ++ textT sg sp l
theorem textC_len (sg : List Int) (sp : Bool) (x : Int) : (textC sg sp x).length ≤ 10 := by
 unfold textC
 have := enc_len (scal x)
 split
 ·exact codeT_len x
 ·split
  ·simp; omega
  ·omega
theorem enc_scal_by (x : Int) : By (enc (scal x)) := by
 have hs := scal_in x
 exact enc_by (scal x) hs.1 hs.2
theorem textC_by (sg : List Int) (sp : Bool) (x : Int) : By (textC sg sp x) := by
 unfold textC
 split
 ·exact codeT_by x
 ·split
  ·exact by_cons (by omega) (by omega) (enc_scal_by x)
  ·exact enc_scal_by x
theorem textT_len (sg : List Int) (sp : Bool) : ∀ l : List Int, (textT sg sp l).length ≤ 10 * l.length
 | [] => by simp [textT]
 | x :: l => by
  have := textC_len sg sp x
  have := textT_len sg sp l
  simp only [textT, List.length_append, List.length_cons]
  omega
theorem textT_by (sg : List Int) (sp : Bool) : ∀ l : List Int, By (textT sg sp l)
 | [] => by_nil
 | x :: l => by_app (textC_by sg sp x) (textT_by sg sp l)
theorem identT_by (l : List Int) : By (identT l) := by
 unfold identT
 split
 ·exact by_cons (by omega) (by omega) (by_cons (by omega) (by omega) by_nil)
 ·split
  ·exact by_nil
  ·split
   ·exact by_app (codeT_by _) (nameT_by _)
   ·split
    ·exact nameT_by _
    ·split
     ·exact by_cons (by omega) (by omega) (by_app (codeT_by _) (nameT_by _))
     ·exact nameT_by _
theorem identT_len (l : List Int) : (identT l).length ≤ 10 * l.length + 1 := by
 unfold identT
 split
 ·rename_i h
  subst h
  simp
 ·split
  ·simp
  ·rename_i x t _
   split
   ·have := codeT_len x
    have := nameT_len t
    simp only [List.length_append, List.length_cons]
    omega
   ·split
    ·have := nameT_len [x]
     omega
    ·rename_i y u _
     split
     ·have := codeT_len y
      have := nameT_len u
      simp only [List.length_append, List.length_cons]
      omega
     ·have := nameT_len (x :: y :: u)
      omega
def expT (l : List Int) : Bool := match l with
 | [] => false
 | y :: u => dig y || y == 45 && (match u with
  | [] => false
  | z :: _ => dig z)
def unitT (l : List Int) : List Int := match l with
 | [] => []
 | x :: t => if ((x == 101 || x == 69) && expT t) = true then codeT x ++ nameT t else identT (x :: t)
theorem unitT_by (l : List Int) : By (unitT l) := by
 unfold unitT
 split
 ·exact by_nil
 ·split
  ·exact by_app (codeT_by _) (nameT_by _)
  ·exact identT_by _
theorem unitT_len (l : List Int) : (unitT l).length ≤ 10 * l.length + 1 := by
 unfold unitT
 split
 ·simp
 ·rename_i x t
  split
  ·have := codeT_len x
   have := nameT_len t
   simp only [List.length_append, List.length_cons]
   omega
  ·exact identT_len _
theorem exp_encs (l : List Int) (h : ∀ x ∈ l, scal x = x) : expT (encs l) = expT l := by
 cases l with
 | nil => rfl
 | cons x t =>
  have hs := h x (by simp)
  have hb := scal_in x
  rw [hs] at hb
  rw [encs_cons, hs]
  by_cases h1 : x < 128
  ·rw [enc_low h1]
   simp only [List.cons_append, List.nil_append, expT]
   congr 2
   cases t with
   | nil => rfl
   | cons y u =>
    have hs2 := h y (by simp)
    have hb2 := scal_in y
    rw [hs2] at hb2
    rw [encs_cons, hs2]
    by_cases h2 : y < 128
    ·rw [enc_low h2]; rfl
    ·obtain ⟨c, v, e, _, hh⟩ := enc_high (by omega) hb2.2
     rw [e]
     simp only [List.cons_append]
     rw [dig_high (hh c (by rw [e]; simp)), dig_high (x := y) (by omega)]
  ·obtain ⟨c, v, e, _, hh⟩ := enc_high (by omega) hb.2
   have hc := hh c (by rw [e]; simp)
   rw [e]
   simp only [List.cons_append, expT]
   have e1 : (x == 45) = false := by simp; omega
   have e2 : (c == 45) = false := by simp; omega
   rw [dig_high hc, dig_high (x := x) (by omega), e1, e2]
   rfl
def fixT (k : Int) : List Int :=
 if k = 6 then [34, 10] else if k = 8 then [117, 114, 108, 40, 40, 41] else if k = 13 then [32] else if k = 14 then [60, 33, 45, 45] else if k = 15 then [45, 45, 62]
 else if k = 16 then [58] else if k = 17 then [59] else if k = 18 then [44] else if k = 19 then [91] else if k = 20 then [93] else if k = 21 then [40] else if k = 22 then [41] else if k = 23 then [123] else if k = 24 then [125] else []
def tokenT (k : Int) (b : List Int) (n d : Int) (w i : Bool) : List Int :=
 if k = 1 then identT (raw b)
 else if k = 2 then identT (raw b) ++ [40]
 else if k = 3 then 64 :: identT (raw b)
 else if k = 4 then 35 :: (if i = true then identT (raw b) else nameT (raw b))
 else if k = 5 then 34 :: (textT [34, 92] false (raw b) ++ [34])
 else if k = 7 then 117 :: 114 :: 108 :: 40 :: (textT [34, 39, 40, 41, 92] true (raw b) ++ [41])
 else if k = 9 then (if b = [92] then [92, 10] else b)
 else if k = 10 then (plainT n d w).getD []
 else if k = 11 then (plainT n d w).getD [] ++ [37]
 else if k = 12 then (plainT n d w).getD [] ++ unitT (raw b)
 else fixT k
theorem fix_cases (k : Int) : (k = 6 ∨ k = 8 ∨ k = 13 ∨ k = 14 ∨ k = 15 ∨ k = 16 ∨ k = 17 ∨ k = 18 ∨ k = 19 ∨ k = 20 ∨ k = 21 ∨ k = 22 ∨ k = 23 ∨ k = 24) ∨ fixT k = [] := by
 by_cases h : k = 6 ∨ k = 8 ∨ k = 13 ∨ k = 14 ∨ k = 15 ∨ k = 16 ∨ k = 17 ∨ k = 18 ∨ k = 19 ∨ k = 20 ∨ k = 21 ∨ k = 22 ∨ k = 23 ∨ k = 24
 ·exact .inl h
 ·refine .inr ?_
  simp only [not_or] at h
  simp [fixT, h]
theorem fixT_by (k : Int) : By (fixT k) := by
 have : ∀ l : List Int, (l.all fun c => decide (0 ≤ c) && decide (c ≤ 255)) = true → By l := fun l h c hc => by
  have := List.all_eq_true.1 h c hc
  simp at this
  exact this
 rcases fix_cases k with (rfl | rfl | rfl | rfl | rfl | rfl | rfl | rfl | rfl | rfl | rfl | rfl | rfl | rfl) | h
 all_goals first
  | exact this _ rfl
  | (rw [h]; exact by_nil)
theorem fixT_len (k : Int) : (fixT k).length ≤ 6 := by
 rcases fix_cases k with (rfl | rfl | rfl | rfl | rfl | rfl | rfl | rfl | rfl | rfl | rfl | rfl | rfl | rfl) | h
 all_goals first
  | decide
  | (rw [h]; decide)
theorem raw_len (b : List Int) : (raw b).length ≤ b.length := (raw_count b).1
theorem tokenT_by {k : Int} {b : List Int} {n d : Int} {w i : Bool} (hy : By b) (hp : By ((plainT n d w).getD [])) : By (tokenT k b n d w i) := by
 unfold tokenT
 have h1 : ∀ x : Int, 0 ≤ x → x ≤ 255 → By [x] := fun x h0 h1 => by_cons h0 h1 by_nil
 repeat' split
 all_goals first
  | exact identT_by _
  | exact by_app (identT_by _) (h1 _ (by omega) (by omega))
  | exact by_cons (by omega) (by omega) (identT_by _)
  | exact by_cons (by omega) (by omega) (nameT_by _)
  | exact by_cons (by omega) (by omega) (by_app (textT_by _ _ _) (h1 _ (by omega) (by omega)))
  | exact by_cons (by omega) (by omega) (by_cons (by omega) (by omega) (by_cons (by omega) (by omega) (by_cons (by omega) (by omega) (by_app (textT_by _ _ _) (h1 _ (by omega) (by omega))))))
  | exact by_cons (by omega) (by omega) (h1 _ (by omega) (by omega))
  | exact hy
  | exact hp
  | exact by_app hp (h1 _ (by omega) (by omega))
  | exact by_app hp (unitT_by _)
  | exact fixT_by _
theorem tokenT_len {k : Int} {b : List Int} {n d : Int} {w i : Bool} (hp : ((plainT n d w).getD []).length ≤ 200) : (tokenT k b n d w i).length ≤ 10 * b.length + 300 := by
 have h1 := identT_len (raw b)
 have h2 := nameT_len (raw b)
 have h3 := textT_len [34, 92] false (raw b)
 have h4 := textT_len [34, 39, 40, 41, 92] true (raw b)
 have h5 := unitT_len (raw b)
 have h6 := fixT_len k
 have h7 := raw_len b
 unfold tokenT
 repeat' split
 all_goals (try simp only [List.length_append, List.length_cons, List.length_nil])
 all_goals omega
end Go.Lift.Spell
end

section
namespace Go.Lift.Tok
set_option linter.unusedVariables false
set_option linter.unusedSimpArgs false
open Utf
theorem core_le (d : List Int) : (core d).length ≤ d.length := by
 unfold core
 have h : (d.reverse.dropWhile (· == 48)).length ≤ d.reverse.length := (List.dropWhile_sublist _).length_le
 simp at h ⊢
 exact h
theorem name_ne {s : List Int} (h : (ltr (chr s 0) || esc (chr s 0) (chr s 1)) = true) : (name s).1 ≠ [] := by
 cases s with
 | nil => simp [chr, ltr, esc, fst1, dig] at h
 | cons c t =>
  have e0 : chr (c :: t) 0 = c := by simp [chr]
  have e1 : chr (c :: t) 1 = chr t 0 := by simp [chr]
  rw [e0, e1] at h
  unfold name
  simp only [List.length_cons, nameN]
  split
  ·simp
  ·rename_i h2
   rw [if_pos (by simpa [h2] using h)]
   simp
theorem plK_in {c : Int} (h : 0 < plK c) : 16 ≤ plK c ∧ plK c ≤ 24 := by
 unfold plK at *
 repeat (split at h)
 all_goals (try (split <;> first | omega | (simp_all; done)))
 all_goals simp_all
end Go.Lift.Tok
end

section
namespace Go.Lift.Tok
set_option linter.unusedVariables false
set_option linter.unusedSimpArgs false
open Utf
abbrev meek (c : Int) : Prop := 0 ≤ c ∧ c ≠ 34 ∧ c ≠ 39 ∧ c ≠ 92 ∧ c ≠ 40
abbrev Meek (s : List Int) : Prop := ∀ c ∈ s, meek c
abbrev stop (c : Int) : Prop := c = 59 ∨ c = 47
theorem chr_n (k : Nat) : chr [] k = -1 := by simp [chr]
theorem chr_c0 (c : Int) (t : List Int) : chr (c :: t) 0 = c := by simp [chr]
theorem chr_c1 (c : Int) (t : List Int) : chr (c :: t) 1 = chr t 0 := by simp [chr]
theorem chr_c2 (c : Int) (t : List Int) : chr (c :: t) 2 = chr t 1 := by simp [chr]
theorem chr_c3 (c : Int) (t : List Int) : chr (c :: t) 3 = chr t 2 := by simp [chr]
section
variable {σ : Int} {y s : List Int}
theorem esc_m {a b : Int} (h : a ≠ 92) : esc a b = false := by simp [esc, h]
theorem tw_app {p : Int → Bool} (h : p σ = false) : ∀ s : List Int, (s ++ σ :: y).takeWhile p = s.takeWhile p
 | [] => by rw [List.nil_append, List.takeWhile_cons_of_neg (by simp [h])]; rfl
 | c :: t => by
  cases hc : p c with
  | true => rw [List.cons_append, List.takeWhile_cons_of_pos hc, List.takeWhile_cons_of_pos hc, tw_app h t]
  | false => rw [List.cons_append, List.takeWhile_cons_of_neg (by simp [hc]), List.takeWhile_cons_of_neg (by simp [hc])]
theorem Meek.suf {t : List Int} (hm : Meek s) (h : t <:+ s) : Meek t := fun c hc => hm c (h.subset hc)
theorem toksN_more : ∀ (n m : Nat) (s : List Int), s.length ≤ n → s.length ≤ m → toksN n s = toksN m s
 | 0, m, s, h1, h2 => by
  obtain rfl := List.eq_nil_of_length_eq_zero (by omega : s.length = 0)
  cases m with
  | zero => rfl
  | succ m => simp only [toksN]; rw [if_pos (show rems [] = [] from rfl)]
 | n + 1, 0, s, h1, h2 => by
  obtain rfl := List.eq_nil_of_length_eq_zero (by omega : s.length = 0)
  simp only [toksN]; rw [if_pos (show rems [] = [] from rfl)]
 | n + 1, m + 1, s, h1, h2 => by
  simp only [toksN]
  by_cases hr : rems s = []
  ·rw [if_pos hr, if_pos hr]
  ·rw [if_neg hr, if_neg hr]
   have a := token_lt hr
   have b := rems_le s
   rw [toksN_more n m _ (by omega) (by omega)]
theorem toks_eq (s : List Int) : toks s = if rems s = [] then [] else (token (rems s)).1 :: toks (token (rems s)).2 := by
 by_cases hr : rems s = []
 ·rw [if_pos hr]
  unfold toks
  cases h : s.length with
  | zero => rfl
  | succ n => simp only [toksN]; rw [if_pos hr]
 ·rw [if_neg hr]
  have a := token_lt hr
  have b := rems_le s
  unfold toks
  obtain ⟨n, hn⟩ : ∃ n, s.length = n + 1 := ⟨s.length - 1, by omega⟩
  rw [hn]
  simp only [toksN]
  rw [if_neg hr, toksN_more n (token (rems s)).2.length _ (by omega) (Nat.le_refl _)]
theorem toks_rems {s t : List Int} (h : rems s = rems t) : toks s = toks t := by rw [toks_eq s, toks_eq t, h]
theorem remN_more : ∀ (n m : Nat) (s : List Int), s.length ≤ n → s.length ≤ m → remN n s = remN m s
 | 0, m, s, h1, h2 => by
  obtain rfl := List.eq_nil_of_length_eq_zero (by omega : s.length = 0)
  cases m <;> rfl
 | n + 1, 0, s, h1, h2 => by
  obtain rfl := List.eq_nil_of_length_eq_zero (by omega : s.length = 0)
  rfl
 | n + 1, m + 1, [], h1, h2 => rfl
 | n + 1, m + 1, [_], h1, h2 => rfl
 | n + 1, m + 1, c :: d :: t, h1, h2 => by
  simp only [remN]
  have := skipR_le t
  simp at h1 h2
  rw [remN_more n m (skipR t) (by omega) (by omega)]
theorem rems_no {c d : Int} {t : List Int} (h : ¬(c = 47 ∧ d = 42)) : rems (c :: d :: t) = c :: d :: t := by
 unfold rems
 simp only [List.length_cons, remN]
 rw [if_neg h]
theorem rems_yes (t : List Int) : rems (47 :: 42 :: t) = rems (skipR t) := by
 unfold rems
 simp only [List.length_cons, remN]
 rw [if_pos (by simp)]
 exact remN_more _ _ _ (by have := skipR_le t; omega) (Nat.le_refl _)
end
end Go.Lift.Tok
end

section
namespace Go.Lift.Tok
set_option linter.unusedVariables false
set_option linter.unusedSimpArgs false
open Utf
abbrev firm (c : Int) : Prop := c ≠ 0 ∧ c ≠ 10 ∧ c ≠ 12 ∧ c ≠ 13
theorem dec_head {l : List Int} {x : Int} {t : List Int} {back : Bool} (h : dec back l = x :: t) (hx : firm x) (h2 : x ≠ 65533) (hb : back = false) : ∃ u, l = x :: u := by
 subst hb
 cases l with
 | nil => simp [dec] at h
 | cons c l =>
  rw [dec] at h
  unfold dstep at h
  rw [if_neg (by simp), List.singleton_append, List.cons.injEq] at h
  obtain ⟨h1, _⟩ := h
  split at h1
  ·exact absurd h1.symm hx.2.1
  ·split at h1
   ·exact absurd h1.symm h2
   ·exact ⟨l, by rw [h1]⟩
theorem map_scal {b : List Int} (hy : By b) : (decode b).map scal = decode b := by
 rw [List.map_congr_left (fun x hx => (decode_fine hy x hx).2.2.2), List.map_id']
end Go.Lift.Tok
end

section
namespace Go.Lift.Spell
set_option linter.unusedVariables false
set_option linter.unusedSimpArgs false
open Utf Tok
def hexV (n : Int) : List Int → Int
 | [] => n
 | c :: t => hexV (n * 16 + hex c) t
theorem hex_D {z : Int} (h0 : 0 ≤ z) (h1 : z < 16) : hex (hexD z) = z := by
 obtain ⟨k, rfl⟩ : ∃ k : Nat, z = k := ⟨z.toNat, by omega⟩
 have : ∀ k : Fin 16, hex (hexD ((k.val : Nat) : Int)) = (k.val : Int) := by decide
 exact this ⟨k, by omega⟩
theorem hexN_app : ∀ (A : List Int) (k : Nat) (n : Int) (B : List Int), (∀ c ∈ A, 0 ≤ hex c) → A.length ≤ k → hexN k n (A ++ B) = hexN (k - A.length) (hexV n A) B
 | [], k, n, B, _, _ => rfl
 | c :: A, 0, n, B, _, h => by simp at h
 | c :: A, k + 1, n, B, h, hl => by
  have hc := h c (by simp)
  rw [List.cons_append]
  simp only [hexN]
  rw [if_neg (by omega), hexN_app A k _ B (fun x hx => h x (by simp [hx])) (by simpa using hl)]
  simp only [List.length_cons, Nat.add_sub_add_right, hexV]
theorem hexV_app : ∀ (A B : List Int) (n : Int), hexV n (A ++ B) = hexV (hexV n A) B
 | [], _, _ => rfl
 | c :: A, B, n => by simp only [List.cons_append, hexV, hexV_app A B]
theorem hexV_rd : ∀ (k : Nat) (r : Int), 0 ≤ r → r < 16 ^ k → hexV 0 (rdN k r).reverse = r
 | 0, r, h0, h1 => by
  have : r = 0 := by simp at h1; omega
  subst this
  rfl
 | k + 1, r, h0, h1 => by
  simp only [rdN]
  split
  ·have : r = 0 := by omega
   subst this
   rfl
  ·rw [List.reverse_cons, hexV_app, hexV_rd k (r / 16) (by omega) (by rw [Int.pow_succ] at h1; omega)]
   simp only [hexV, hex_D (z := r % 16) (by omega) (by omega)]
   omega
theorem rdN_hex : ∀ (k : Nat) (r : Int), ∀ c ∈ rdN k r, 0 ≤ hex c
 | 0, r => fun c hc => by cases hc
 | k + 1, r => by
  simp only [rdN]
  split
  ·exact fun c hc => by cases hc
  ·intro c hc
   rcases List.mem_cons.1 hc with rfl | hc
   ·rw [hex_D (by omega) (by omega)]; omega
   ·exact rdN_hex k _ c hc
theorem rdN_len2 : ∀ (k j : Nat) (r : Int), r < 16 ^ j → (rdN k r).length ≤ j
 | 0, j, r, _ => by simp [rdN]
 | k + 1, 0, r, h => by
  have : r ≤ 0 := by simp at h; omega
  simp [rdN, this]
 | k + 1, j + 1, r, h => by
  simp only [rdN]
  split
  ·simp
  ·have := rdN_len2 k j (r / 16) (by rw [Int.pow_succ] at h; omega)
   simp
   omega
theorem escd_hex {A r : List Int} (hA : ∀ c ∈ A, 0 ≤ hex c) (hn : A ≠ []) (hl : A.length ≤ 6) : escd (A ++ 32 :: r) = (if hexV 0 A = 0 then 65533 else scal (hexV 0 A), r) := by
 obtain ⟨c, A', rfl⟩ : ∃ c A', A = c :: A' := by
  cases A with
  | nil => exact absurd rfl hn
  | cons c A' => exact ⟨c, A', rfl⟩
 have hc := hA c (by simp)
 have e : hexN 6 0 (c :: (A' ++ 32 :: r)) = (hexV 0 (c :: A'), 32 :: r) := by
  have := hexN_app (c :: A') 6 0 (32 :: r) hA hl
  rw [List.cons_append] at this
  rw [this]
  have h32 : hex 32 < 0 := by decide
  cases 6 - (c :: A').length with
  | zero => rfl
  | succ m => simp only [hexN]; rw [if_pos h32]
 rw [List.cons_append]
 simp only [escd]
 rw [if_neg (by omega), e]
 rfl
theorem rd_ne {x : Int} (h : 1 ≤ x) (k : Nat) : rdN (k + 1) x ≠ [] := by
 simp only [rdN]
 rw [if_neg (by omega)]
 simp
theorem escd_code {x : Int} (h0 : 1 ≤ x) (hs : scal x = x) (r : List Int) : escd ((rdN 8 x).reverse ++ 32 :: r) = (x, r) := by
 have hx := scal_in x
 rw [hs] at hx
 have h16 : (16 : Int) ^ 6 = 16777216 := by decide
 have h168 : (16 : Int) ^ 8 = 4294967296 := by decide
 rw [escd_hex (fun c hc => rdN_hex 8 x c (by simpa using hc)) (by simpa using rd_ne h0 7) (by rw [List.length_reverse]; exact rdN_len2 8 6 x (by omega)), hexV_rd 8 x (by omega) (by omega), if_neg (by omega), hs]
theorem hex_ten {c : Int} (h : 0 ≤ hex c) : c ≠ 10 ∧ c ≠ -1 := by
 constructor <;> · rintro rfl; exact absurd h (by decide)
theorem code_at {x : Int} (h0 : 1 ≤ x) (r : List Int) : chr ((rdN 8 x).reverse ++ 32 :: r) 0 ≠ 10 ∧ ∃ c t, (rdN 8 x).reverse ++ 32 :: r = c :: t := by
 have hn := rd_ne h0 7
 have hh := rdN_hex 8 x
 have : (rdN 8 x).reverse ≠ [] := by simpa using hn
 cases hA : (rdN 8 x).reverse with
 | nil => exact absurd hA this
 | cons c t =>
  have hc := hh c (by rw [← List.mem_reverse, hA]; simp)
  rw [List.cons_append]
  exact ⟨(hex_ten hc).1, c, _, rfl⟩
theorem hex_ltr {c : Int} (h : ltr c = false) : hex c < 0 := by
 unfold ltr fst1 at h
 simp only [Bool.or_eq_false_iff, Bool.and_eq_false_iff, decide_eq_false_iff_not] at h
 unfold hex
 rw [h.1.2]
 rw [if_neg (by simp), if_neg (by simp; omega), if_neg (by simp; omega)]
 omega
inductive Wr1 : Int → List Int → Prop
 | code {x : Int} : 1 ≤ x → scal x = x → Wr1 x (codeT x)
 | raw {x : Int} : ltr x = true → Wr1 x [x]
 | back {x : Int} : hex x < 0 → x ≠ 10 → Wr1 x [92, x]
inductive WrL : List Int → List Int → Prop
 | nil : WrL [] []
 | cons {x : Int} {l a b : List Int} : Wr1 x a → WrL l b → WrL (x :: l) (a ++ b)
abbrev stops (r : List Int) : Prop := ltr (chr r 0) = false ∧ esc (chr r 0) (chr r 1) = false
theorem codeT_app (x : Int) (r : List Int) : codeT x ++ r = 92 :: ((rdN 8 x).reverse ++ 32 :: r) := by
 unfold codeT
 simp
theorem ltr92 : ltr 92 = false := rfl
theorem esc92 {d : Int} (h : d ≠ 10) : esc 92 d = true := by simp [esc, h]
theorem nameN_wr {l s : List Int} (h : WrL l s) {r : List Int} (hr : stops r) : ∀ n, (s ++ r).length ≤ n → nameN n (s ++ r) = (l, r) := by
 induction h with
 | nil =>
  intro n _
  rw [List.nil_append]
  cases n with
  | zero => rfl
  | succ n =>
   cases r with
   | nil => rfl
   | cons c t =>
    have h1 : ltr c = false := hr.1
    have h2 : esc c (chr t 0) = false := by have := hr.2; rwa [chr_c0, chr_c1] at this
    simp only [nameN, h1, h2, Bool.false_eq_true, if_false]
 | @cons x l a b h1 h2 ih =>
  intro n hn
  rw [List.append_assoc] at hn ⊢
  cases h1 with
  | code hx hs =>
   rw [codeT_app] at hn ⊢
   simp only [List.length_cons, List.length_append] at hn
   cases n with
   | zero => omega
   | succ n =>
    have h3 := code_at hx (b ++ r)
    have h4 := escd_code hx hs (b ++ r)
    simp only [nameN, ltr92, esc92 h3.1, h4, Bool.false_eq_true, if_false, if_true]
    rw [ih n (by rw [List.length_append]; omega)]
  | raw hx =>
   simp only [List.singleton_append, List.length_cons] at hn ⊢
   cases n with
   | zero => omega
   | succ n =>
    simp only [nameN, hx, if_true]
    rw [ih n (by omega)]
  | back hx h10 =>
   simp only [List.cons_append, List.nil_append, List.length_cons] at hn ⊢
   cases n with
   | zero => omega
   | succ n =>
    have e : escd (x :: (b ++ r)) = (x, b ++ r) := by simp only [escd]; rw [if_pos hx]
    simp only [nameN, ltr92, chr_c0, esc92 h10, e, Bool.false_eq_true, if_false, if_true]
    rw [ih n (by omega)]
theorem name_wr {l s r : List Int} (h : WrL l s) (hr : stops r) : Tok.name (s ++ r) = (l, r) := nameN_wr h hr _ (Nat.le_refl _)
abbrev Snd (l : List Int) : Prop := ∀ x ∈ l, scal x = x ∧ x ≠ 0
def nameQ1 (x : Int) : List Int := if hidT x = true then codeT x else if ltr x = true then [x] else [92, x]
def nameQ : List Int → List Int
 | [] => []
 | x :: l => nameQ1 x ++ nameQ l
theorem hid10 {x : Int} (h : hidT x = false) : x ≠ 10 := by rintro rfl; exact absurd h (by decide)
theorem hid1 {x : Int} (h : hidT x = true) : 1 ≤ x := by
 unfold hidT at h
 simp at h
 omega
theorem nameQ1_wr {x : Int} (hs : scal x = x) : Wr1 x (nameQ1 x) := by
 unfold nameQ1
 cases qh : hidT x with
 | true => rw [if_pos rfl]; exact .code (hid1 qh) hs
 | false =>
  rw [if_neg (by simp)]
  cases ql : ltr x with
  | true => rw [if_pos rfl]; exact .raw ql
  | false => rw [if_neg (by simp)]; exact .back (hex_ltr ql) (hid10 qh)
theorem nameQ_wr : ∀ l : List Int, (∀ x ∈ l, scal x = x) → WrL l (nameQ l)
 | [], _ => .nil
 | x :: l, h => .cons (nameQ1_wr (h x (by simp))) (nameQ_wr l fun y hy => h y (by simp [hy]))
def identQ (l : List Int) : List Int :=
 if l = [45] then [92, 45] else match l with
 | [] => []
 | x :: t => if dig x = true then codeT x ++ nameQ t else match t with
  | [] => nameQ [x]
  | y :: u => if x = 45 ∧ dig y = true then 45 :: (codeT y ++ nameQ u) else nameQ (x :: y :: u)
theorem dig1 {x : Int} (h : dig x = true) : 1 ≤ x := by simp [dig] at h; omega
theorem identQ_wr {l : List Int} (h : ∀ x ∈ l, scal x = x) : WrL l (identQ l) := by
 unfold identQ
 split
 ·rename_i h1
  subst h1
  exact .cons (a := [92, 45]) (.back (by decide) (by decide)) .nil
 ·split
  ·exact .nil
  ·rename_i x t _
   split
   ·rename_i hd
    exact .cons (.code (dig1 hd) (h x (by simp))) (nameQ_wr t fun y hy => h y (by simp [hy]))
   ·split
    ·exact nameQ_wr _ h
    ·rename_i y u _
     split
     ·rename_i hc
      obtain ⟨rfl, hd⟩ := hc
      exact .cons (a := [45]) (.raw rfl) (.cons (.code (dig1 hd) (h y (by simp))) (nameQ_wr u fun z hz => h z (by simp [hz])))
     ·exact nameQ_wr _ h
def unitQ (l : List Int) : List Int := match l with
 | [] => []
 | x :: t => if ((x == 101 || x == 69) && expT t) = true then codeT x ++ nameQ t else identQ (x :: t)
theorem unitQ_wr {l : List Int} (h : ∀ x ∈ l, scal x = x) : WrL l (unitQ l) := by
 unfold unitQ
 split
 ·exact .nil
 ·rename_i x t
  split
  ·rename_i hc
   refine .cons (.code ?_ (h x (by simp))) (nameQ_wr t fun y hy => h y (by simp [hy]))
   rw [Bool.and_eq_true, Bool.or_eq_true, beq_iff_eq, beq_iff_eq] at hc
   omega
  ·exact identQ_wr h
def textQ1 (sg : List Int) (sp : Bool) (x : Int) : List Int := if (hidT x || (sp && x == 32)) = true then codeT x else if sg.contains x = true then [92, x] else [x]
def textQ (sg : List Int) (sp : Bool) : List Int → List Int
 | [] => []
 | x :: l => textQ1 sg sp x ++ textQ sg sp l
theorem txtN_q : ∀ (l : List Int) (r : List Int) (n : Nat), (∀ x ∈ l, scal x = x) → (textQ [34, 92] false l ++ 34 :: r).length ≤ n → txtN 34 n (textQ [34, 92] false l ++ 34 :: r) = (true, l, r)
 | [], r, n, _, hn => by
  cases n with
  | zero => simp [textQ] at hn
  | succ n => simp [textQ, txtN]
 | x :: l, r, n, hs, hn => by
  have hx := hs x (by simp)
  have ih := fun n => txtN_q l r n fun y hy => hs y (by simp [hy])
  simp only [textQ, List.append_assoc] at hn ⊢
  unfold textQ1 at hn ⊢
  cases qh : hidT x with
  | true =>
   have h1 := hid1 qh
   simp only [qh, Bool.true_or, if_true] at hn ⊢
   rw [codeT_app] at hn ⊢
   simp only [List.length_cons, List.length_append] at hn
   cases n with
   | zero => omega
   | succ n =>
    obtain ⟨h3, c, t, e⟩ := code_at h1 (textQ [34, 92] false l ++ 34 :: r)
    have h4 := escd_code h1 hx (textQ [34, 92] false l ++ 34 :: r)
    rw [e] at h3 h4 ⊢
    have hc : c ≠ 10 := h3
    simp only [txtN]
    rw [if_neg (by omega), if_neg (by omega), if_pos trivial, if_neg hc, h4]
    simp only
    rw [ih n (by simp only [List.length_append, List.length_cons]; omega)]
  | false =>
   have h10 := hid10 qh
   simp only [qh, Bool.false_and, Bool.or_false, Bool.false_eq_true, if_false] at hn ⊢
   by_cases hc : x = 34 ∨ x = 92
   ·have e : ([34, 92] : List Int).contains x = true := by rcases hc with rfl | rfl <;> rfl
    simp only [e, if_true, List.cons_append, List.nil_append, List.length_cons] at hn ⊢
    cases n with
    | zero => omega
    | succ n =>
     have h5 : hex x < 0 := by rcases hc with rfl | rfl <;> decide
     have h6 : escd (x :: (textQ [34, 92] false l ++ 34 :: r)) = (x, textQ [34, 92] false l ++ 34 :: r) := by simp only [escd]; rw [if_pos h5]
     simp only [txtN]
     rw [if_neg (by omega), if_neg (by omega), if_pos trivial, if_neg h10, h6]
     simp only
     rw [ih n (by omega)]
   ·simp only [not_or] at hc
    have e : ([34, 92] : List Int).contains x = false := by simp [hc]
    simp only [e, Bool.false_eq_true, if_false, List.singleton_append, List.length_cons] at hn ⊢
    cases n with
    | zero => omega
    | succ n =>
     simp only [txtN]
     rw [if_neg h10, if_neg hc.1, if_neg hc.2, ih n (by omega)]
theorem txt_q {l : List Int} (r : List Int) (hs : ∀ x ∈ l, scal x = x) : txt 34 (textQ [34, 92] false l ++ 34 :: r) = (true, l, r) := txtN_q l r _ hs (Nat.le_refl _)
theorem urlN_q : ∀ (l : List Int) (r : List Int) (n : Nat), Snd l → (textQ [34, 39, 40, 41, 92] true l ++ 41 :: r).length ≤ n → urlN n (textQ [34, 39, 40, 41, 92] true l ++ 41 :: r) = (true, l, r)
 | [], r, n, _, hn => by
  cases n with
  | zero => simp [textQ] at hn
  | succ n => simp [textQ, urlN]
 | x :: l, r, n, hs, hn => by
  obtain ⟨hx, hx0⟩ := hs x (by simp)
  have ih := fun n => urlN_q l r n fun y hy => hs y (by simp [hy])
  simp only [textQ, List.append_assoc] at hn ⊢
  unfold textQ1 at hn ⊢
  have b92 : blk 92 = false := rfl
  have q92 : (quo 92 || (92 : Int) == 40 || unp 92) = false := rfl
  cases qh : hidT x || true && x == 32 with
  | true =>
   have h1 : 1 ≤ x := by
    rw [Bool.or_eq_true] at qh
    rcases qh with h | h
    ·exact hid1 h
    ·simp at h; omega
   simp only [qh, if_true] at hn ⊢
   rw [codeT_app] at hn ⊢
   simp only [List.length_cons, List.length_append] at hn
   cases n with
   | zero => omega
   | succ n =>
    obtain ⟨h3, c, t, e⟩ := code_at h1 (textQ [34, 39, 40, 41, 92] true l ++ 41 :: r)
    have h4 := escd_code h1 hx (textQ [34, 39, 40, 41, 92] true l ++ 41 :: r)
    simp only [urlN, b92, q92, esc92 h3, h4, Bool.false_eq_true, if_false, if_true]
    rw [if_neg (by omega), ih n (by simp only [List.length_append, List.length_cons]; omega)]
  | false =>
   have qh2 := Bool.or_eq_false_iff.1 qh
   have h10 := hid10 qh2.1
   have h32 : x ≠ 32 := by simpa using qh2.2
   simp only [qh, Bool.false_eq_true, if_false] at hn ⊢
   by_cases hc : x = 34 ∨ x = 39 ∨ x = 40 ∨ x = 41 ∨ x = 92
   ·have e : ([34, 39, 40, 41, 92] : List Int).contains x = true := by rcases hc with rfl | rfl | rfl | rfl | rfl <;> rfl
    simp only [e, if_true, List.cons_append, List.nil_append, List.length_cons] at hn ⊢
    cases n with
    | zero => omega
    | succ n =>
     have h5 : hex x < 0 := by rcases hc with rfl | rfl | rfl | rfl | rfl <;> decide
     have h6 : escd (x :: (textQ [34, 39, 40, 41, 92] true l ++ 41 :: r)) = (x, textQ [34, 39, 40, 41, 92] true l ++ 41 :: r) := by simp only [escd]; rw [if_pos h5]
     simp only [urlN, b92, q92, chr_c0, esc92 h10, h6, Bool.false_eq_true, if_false, if_true]
     rw [if_neg (by omega), ih n (by omega)]
   ·simp only [not_or] at hc
    obtain ⟨c1, c2, c3, c4, c5⟩ := hc
    have e : ([34, 39, 40, 41, 92] : List Int).contains x = false := by simp [c1, c2, c3, c4, c5]
    simp only [e, Bool.false_eq_true, if_false, List.singleton_append, List.length_cons] at hn ⊢
    have hh : ¬ (1 ≤ x ∧ x ≤ 31 ∨ x = 127 ∨ x = 65279) := by
     have := qh2.1
     unfold hidT at this
     simp at this
     omega
    have hb : blk x = false := by
     unfold blk
     simp
     omega
    have hp := (scal_in x).1
    rw [hx] at hp
    have hq : (quo x || x == 40 || unp x) = false := by
     unfold quo unp
     simp [c1, c2, c3]
     omega
    cases n with
    | zero => omega
    | succ n =>
     simp only [urlN, hb, hq, Bool.false_eq_true, if_false]
     rw [if_neg c4, if_neg c5, ih n (by omega)]
end Go.Lift.Spell
end

section
namespace Go.Lift.Spell
set_option linter.unusedVariables false
set_option linter.unusedSimpArgs false
open Utf Tok
theorem beg_cases {c d e : Int} (h : beg c d e = true) : (c = 45 ∧ (fst1 d = true ∨ d = 45 ∨ (d = 92 ∧ e ≠ 10))) ∨ (c ≠ 45 ∧ (fst1 c = true ∨ (c = 92 ∧ d ≠ 10))) := by
 unfold beg esc at h
 by_cases hc : c = 45
 ·subst hc
  simp at h
  refine .inl ⟨rfl, ?_⟩
  rcases h with (h | h) | h
  ·exact .inl h
  ·exact .inr (.inl h)
  ·exact .inr (.inr h)
 ·have : (c == 45) = false := by simp [hc]
  rw [this, if_neg (by simp)] at h
  simp at h
  exact .inr ⟨hc, h⟩
theorem beg_dash {d e : Int} (h : fst1 d = true ∨ d = 45 ∨ (d = 92 ∧ e ≠ 10)) : beg 45 d e = true := by
 unfold beg esc
 simp
 rcases h with h | h | h
 ·exact .inl (.inl h)
 ·exact .inl (.inr h)
 ·exact .inr h
theorem beg_fst {c d e : Int} (h : fst1 c = true) : beg c d e = true := by
 have hc : c ≠ 45 := by rintro rfl; exact absurd h (by decide)
 have : (c == 45) = false := by simp [hc]
 unfold beg
 rw [this, if_neg (by simp), h]
 rfl
theorem beg_esc {d e : Int} (h : d ≠ 10) : beg 92 d e = true := by
 unfold beg
 rw [if_neg (by decide), esc92 h]
 simp
theorem fst_num {c : Int} (h : fst1 c = true) : 65 ≤ c ∧ ¬ (91 ≤ c ∧ c ≤ 94) ∧ c ≠ 96 ∧ ¬ (123 ≤ c ∧ c ≤ 127) := by
 unfold fst1 at h
 simp at h
 omega
theorem plK_zero {c : Int} (h : c ≠ 40 ∧ c ≠ 41 ∧ c ≠ 44 ∧ c ≠ 58 ∧ c ≠ 59 ∧ c ≠ 91 ∧ c ≠ 93 ∧ c ≠ 123 ∧ c ≠ 125) : plK c = 0 := by
 unfold plK
 rw [if_neg h.1, if_neg h.2.1, if_neg h.2.2.1, if_neg h.2.2.2.1, if_neg h.2.2.2.2.1, if_neg h.2.2.2.2.2.1, if_neg h.2.2.2.2.2.2.1, if_neg h.2.2.2.2.2.2.2.1, if_neg h.2.2.2.2.2.2.2.2]
theorem beg_not {c d e : Int} (h : beg c d e = true) : blk c = false ∧ quo c = false ∧ plK c = 0 ∧ num c d e = false ∧ c ≠ 60 ∧ c ≠ 35 ∧ c ≠ 64 ∧ c ≠ -1 := by
 rcases beg_cases h with ⟨rfl, hd⟩ | ⟨hc, h | ⟨rfl, hd⟩⟩
 ·refine ⟨rfl, rfl, rfl, ?_, by decide, by decide, by decide, by decide⟩
  have h1 : dig d = false ∧ (d == 46) = false := by
   rcases hd with hd | rfl | ⟨rfl, _⟩
   ·have := fst_num hd
    unfold dig
    simp
    omega
   ·exact ⟨rfl, rfl⟩
   ·exact ⟨rfl, rfl⟩
  unfold num
  rw [h1.1, h1.2]
  rfl
 ·have hn := fst_num h
  refine ⟨?_, ?_, plK_zero (by omega), ?_, by omega, by omega, by omega, by omega⟩
  ·unfold blk; simp; omega
  ·unfold quo; simp; omega
  ·have h1 : (c == 43 || c == 45) = false := by simp; omega
   have h2 : dig c = false := by unfold dig; simp; omega
   have h3 : (c == 46) = false := by simp; omega
   unfold num
   rw [h1, h2, h3]
   rfl
 ·exact ⟨rfl, rfl, rfl, rfl, by decide, by decide, by decide, by decide⟩
theorem token_word {s : List Int} (h : beg (chr s 0) (chr s 1) (chr s 2) = true) (hn : ¬ (chr s 0 = 45 ∧ chr s 1 = 45 ∧ chr s 2 = 62)) : token s = word s := by
 obtain ⟨h1, h2, h3, h4, h5, h6, h7, _⟩ := beg_not h
 unfold token
 simp only [h1, h2, h3, h4, h, Bool.false_eq_true, if_false, if_true, Int.lt_irrefl]
 rw [if_neg hn, if_neg (fun h => h5 h.1), if_neg (fun h => h6 h.1), if_neg (fun h => h7 h.1)]
theorem nameQ1_at {x : Int} (hx : x ≠ 10) (h0 : x ≠ 0) : (∃ c t, nameQ1 x = 92 :: c :: t ∧ c ≠ 10) ∨ (nameQ1 x = [x] ∧ ltr x = true) := by
 unfold nameQ1
 cases qh : hidT x with
 | true =>
  rw [if_pos rfl]
  obtain ⟨h3, c, t, e⟩ := code_at (hid1 qh) []
  refine .inl ⟨c, t, ?_, ?_⟩
  ·unfold codeT; rw [e]
  ·rw [e] at h3; exact h3
 | false =>
  rw [if_neg (by simp)]
  cases ql : ltr x with
  | true => rw [if_pos rfl]; exact .inr ⟨rfl, rfl⟩
  | false => rw [if_neg (by simp)]; exact .inl ⟨x, [], rfl, hid10 qh⟩
theorem nameQ1_at' {x : Int} (h0 : x ≠ 0) : (∃ c t, nameQ1 x = 92 :: c :: t ∧ c ≠ 10) ∨ (nameQ1 x = [x] ∧ ltr x = true) := by
 by_cases hx : x = 10
 ·subst hx
  exact .inl ⟨97, [32], by decide, by decide⟩
 ·exact nameQ1_at hx h0
theorem ltr_fst {x : Int} (h : ltr x = true) (hd : dig x = false) (h45 : x ≠ 45) : fst1 x = true := by
 unfold ltr at h
 rw [hd] at h
 simpa [h45] using h
theorem code_cons {x : Int} (h0 : 1 ≤ x) (r : List Int) : ∃ c t, codeT x ++ r = 92 :: c :: t ∧ c ≠ 10 := by
 obtain ⟨h3, c, t, e⟩ := code_at h0 r
 refine ⟨c, t, ?_, ?_⟩
 ·rw [codeT_app, e]
 ·rw [e] at h3; exact h3
theorem ident_beg {l : List Int} (hs : Snd l) (hn : l ≠ []) (r : List Int) : beg (chr (identQ l ++ r) 0) (chr (identQ l ++ r) 1) (chr (identQ l ++ r) 2) = true ∧ (chr r 0 ≠ 62 → ¬ (chr (identQ l ++ r) 0 = 45 ∧ chr (identQ l ++ r) 1 = 45 ∧ chr (identQ l ++ r) 2 = 62)) := by
 have esc2 : ∀ s : List Int, (∃ c t, s = 92 :: c :: t ∧ c ≠ 10) → beg (chr s 0) (chr s 1) (chr s 2) = true ∧ (chr r 0 ≠ 62 → ¬ (chr s 0 = 45 ∧ chr s 1 = 45 ∧ chr s 2 = 62)) := by
  rintro s ⟨c, t, rfl, hc⟩
  rw [chr_c0, chr_c1, chr_c0]
  exact ⟨beg_esc hc, fun _ h => absurd h.1 (by decide)⟩
 unfold identQ
 split
 ·exact esc2 _ ⟨45, r, rfl, by decide⟩
 ·rename_i h45
  split
  ·exact absurd rfl hn
  ·rename_i x t
   obtain ⟨hx, hx0⟩ := hs x (by simp)
   cases qd : dig x with
   | true =>
    rw [if_pos rfl, List.append_assoc]
    exact esc2 _ (code_cons (dig1 qd) _)
   | false =>
    rw [if_neg (by simp)]
    have one : ∀ u : List Int, x ≠ 45 → beg (chr (nameQ1 x ++ u) 0) (chr (nameQ1 x ++ u) 1) (chr (nameQ1 x ++ u) 2) = true ∧ (chr r 0 ≠ 62 → ¬ (chr (nameQ1 x ++ u) 0 = 45 ∧ chr (nameQ1 x ++ u) 1 = 45 ∧ chr (nameQ1 x ++ u) 2 = 62)) := by
     intro u hx45
     rcases nameQ1_at' hx0 with ⟨c, v, e, hc⟩ | ⟨e, hl⟩
     ·rw [e]
      exact esc2 _ ⟨c, v ++ u, rfl, hc⟩
     ·rw [e, List.singleton_append, chr_c0]
      exact ⟨beg_fst (ltr_fst hl qd hx45), fun _ h => hx45 h.1⟩
    split
    ·have hx45 : x ≠ 45 := fun h => h45 (by rw [h])
     have eN : nameQ [x] ++ r = nameQ1 x ++ r := by show nameQ1 x ++ [] ++ r = _; rw [List.append_nil]
     rw [eN]
     exact one r hx45
    ·rename_i y u
     obtain ⟨hy, hy0⟩ := hs y (by simp)
     split
     ·rename_i hc
      obtain ⟨rfl, hd⟩ := hc
      obtain ⟨c, v, e, hc⟩ := code_cons (dig1 hd) (nameQ u ++ r)
      rw [List.cons_append, List.append_assoc, e, chr_c0, chr_c1, chr_c0, chr_c2, chr_c1, chr_c0]
      exact ⟨beg_dash (.inr (.inr ⟨rfl, hc⟩)), fun _ h => absurd h.2.1 (by decide)⟩
     ·rename_i hc
      have eM : nameQ (x :: y :: u) ++ r = nameQ1 x ++ (nameQ1 y ++ (nameQ u ++ r)) := by show nameQ1 x ++ (nameQ1 y ++ nameQ u) ++ r = _; rw [List.append_assoc, List.append_assoc]
      rw [eM]
      by_cases hx45 : x = 45
      ·subst hx45
       have hdy : dig y = false := by
        cases q : dig y with
        | true => exact absurd ⟨rfl, q⟩ hc
        | false => rfl
       have e45 : nameQ1 45 = [45] := by decide
       rw [e45, List.singleton_append, chr_c0, chr_c1, chr_c2]
       rcases nameQ1_at' hy0 with ⟨c, v, e, hc⟩ | ⟨e, hl⟩
       ·rw [e, List.cons_append, List.cons_append, chr_c0, chr_c1, chr_c0]
        exact ⟨beg_dash (.inr (.inr ⟨rfl, hc⟩)), fun _ h => absurd h.2.1 (by decide)⟩
       ·rw [e, List.singleton_append, chr_c0, chr_c1]
        refine ⟨beg_dash ?_, ?_⟩
        ·by_cases hy45 : y = 45
         ·exact .inr (.inl hy45)
         ·exact .inl (ltr_fst hl hdy hy45)
        ·rintro hr ⟨_, _, h3⟩
         cases u with
         | nil => exact hr h3
         | cons z v =>
          obtain ⟨hz, hz0⟩ := hs z (by simp)
          have e2 : nameQ (z :: v) ++ r = nameQ1 z ++ (nameQ v ++ r) := by rw [nameQ, List.append_assoc]
          rw [e2] at h3
          rcases nameQ1_at' hz0 with ⟨c, w, e, hc⟩ | ⟨e, hl⟩
          ·rw [e, List.cons_append, chr_c0] at h3
           exact absurd h3 (by decide)
          ·rw [e, List.singleton_append, chr_c0] at h3
           subst h3
           exact absurd hl (by decide)
      ·exact one _ hx45
end Go.Lift.Spell
end
