/- What is computed, in plain Lean. -/
import Derived.Test.YtnfdhgadidacaaaGreatDoorGZf
section
namespace Go.Lift.Spell
set_option linter.unusedVariables false
set_option linter.unusedSimpArgs false
open Utf Tok
structure Got (t : Tk) (r : List Int) : Prop where
 may : MayQ t
 fine : Fine r
 line : open' t → ∃ u, r = 10 :: u
 url : t.kind = 2 → isUrl t.text = true → (∃ q u, r = q :: u ∧ quo q = true) ∨ ∃ b q u, r = b :: q :: u ∧ blk b = true ∧ quo q = true
theorem got_of {t : Tk} {r : List Int} (h1 : MayQ t) (h2 : Fine r) (h3 : ¬ open' t) (h4 : t.kind ≠ 2) : Got t r := ⟨h1, h2, fun h => absurd h h3, fun h => absurd h h4⟩
theorem not_open {k : Int} {l : List Int} {m : Int × Int} {w i : Bool} (h6 : k ≠ 6) (h9 : k ≠ 9) : ¬ open' ⟨k, l, m, w, i⟩ := by
 rintro (h | ⟨h, _⟩)
 ·exact h6 h
 ·exact h9 h
theorem got_figure {s : List Int} (hs : Fine s) (h : num (chr s 0) (chr s 1) (chr s 2) = true) : Got (figure s).1 (figure s).2 := by
 have ok := numP_ok h
 obtain ⟨t, nm, ht, hb⟩ := num_may ok
 have hr := numP_fine hs
 unfold figure
 simp only
 split
 ·rename_i hbg
  obtain ⟨n1, n2⟩ := name_fine hr
  exact got_of (.dim (name_ne (beg_ltr hbg)) n1 ht hb) n2 (not_open (by decide) (by decide)) (by show (12 : Int) ≠ 2; decide)
 ·split
  ·exact got_of (.num (.inr rfl) ht hb) (drop_fine hr 1) (not_open (by decide) (by decide)) (by show (11 : Int) ≠ 2; decide)
  ·exact got_of (.num (.inl rfl) ht hb) hr (not_open (by decide) (by decide)) (by show (10 : Int) ≠ 2; decide)
theorem got_urlT {x : Bool × List Int × List Int} (h1 : Snd x.2.1) (h2 : Fine x.2.2) : Got (urlT x) x.2.2 := by
 unfold urlT
 split
 ·exact got_of (.text (.inr rfl) h1) h2 (not_open (by decide) (by decide)) (by show (7 : Int) ≠ 2; decide)
 ·exact got_of (.fix (.inr (.inl rfl))) h2 (not_open (by decide) (by decide)) (by show (8 : Int) ≠ 2; decide)
theorem got_word {s : List Int} (hs : Fine s) (hn : (Tok.name s).1 ≠ []) : Got (word s).1 (word s).2 := by
 obtain ⟨n1, n2⟩ := name_fine hs
 unfold word
 simp only
 split
 ·split
  ·rename_i hu
   have hb : Fine (skip2 ((Tok.name s).2.drop 1)) := skip2N_fine _ _ (drop_fine n2 1)
   generalize skip2 ((Tok.name s).2.drop 1) = b at *
   cases hq : quo (if blk (chr b 0) = true then chr b 1 else chr b 0) with
   | true =>
    rw [if_pos rfl]
    refine ⟨.name (.inr (.inl rfl)) hn n1, hb, fun h => absurd h (not_open (by decide) (by decide)), fun _ _ => ?_⟩
    have q1 : quo (-1) = false := rfl
    match b, hq with
    | [], hq => simp [chr_n, blk, q1] at hq
    | [c], hq =>
     by_cases hc : blk c = true
     ·rw [chr_c0, if_pos hc, chr_c1, chr_n, q1] at hq; cases hq
     ·rw [chr_c0, if_neg hc] at hq
      exact .inl ⟨c, [], rfl, hq⟩
    | c :: d :: u, hq =>
     by_cases hc : blk c = true
     ·rw [chr_c0, if_pos hc, chr_c1, chr_c0] at hq
      exact .inr ⟨c, d, u, rfl, hc, hq⟩
     ·rw [chr_c0, if_neg hc] at hq
      exact .inl ⟨c, d :: u, rfl, hq⟩
   | false =>
    rw [if_neg (by simp)]
    obtain ⟨u1, u2⟩ := urlN_fine (blanks b).length (blanks b) (blanks_fine hb)
    exact got_urlT u1 u2
  ·rename_i hu
   exact ⟨.name (.inr (.inl rfl)) hn n1, drop_fine n2 1, fun h => absurd h (not_open (by decide) (by decide)), fun _ h => absurd h hu⟩
 ·exact got_of (.name (.inl rfl) hn n1) n2 (not_open (by decide) (by decide)) (by show (1 : Int) ≠ 2; decide)
theorem sign_all : ∀ c : Fin 128, (c.val : Int) ≠ 0 → (c.val : Int) ≠ 12 → (c.val : Int) ≠ 13 → blk c.val = false → quo c.val = false → plK c.val ≤ 0 → fst1 c.val = false → dig c.val = false → signT [(c.val : Int)] = true := by decide
theorem sign_of {c : Int} (hf : fine c) (h1 : blk c = false) (h2 : quo c = false) (h3 : ¬ 0 < plK c) (h4 : fst1 c = false) (h5 : dig c = false) : signT [c] = true := by
 have hc := scal_in c
 rw [hf.2.2.2] at hc
 have h128 : c < 128 := by
  rcases Int.lt_or_le c 128 with h | h
  ·exact h
  ·exfalso
   have : fst1 c = true := by unfold fst1; simp; omega
   rw [this] at h4
   cases h4
 obtain ⟨k, rfl⟩ : ∃ k : Nat, c = k := ⟨c.toNat, by omega⟩
 exact sign_all ⟨k, by omega⟩ hf.1 hf.2.1 hf.2.2.1 h1 h2 (by show plK (k : Int) ≤ 0; omega) h4 h5
theorem loose_of {s : List Int} (h : (ltr (chr s 0) || esc (chr s 0) (chr s 1)) = true) (hb : beg (chr s 0) (chr s 1) (chr s 2) = false) : looseT (Tok.name s).1 = true := by
 cases s with
 | nil => cases h
 | cons c t =>
  rw [chr_c0, chr_c1] at h
  rw [chr_c0, chr_c1, chr_c2] at hb
  unfold beg at hb
  by_cases h45 : c = 45
  ·subst h45
   rw [if_pos (by rfl)] at hb
   simp only [Bool.or_eq_false_iff, beq_eq_false_iff_ne] at hb
   obtain ⟨⟨b1, b2⟩, b3⟩ := hb
   have e : (Tok.name (45 :: t)).1 = 45 :: (nameN t.length t).1 := by
    unfold Tok.name
    simp only [List.length_cons, nameN]
    rw [if_pos (by rfl)]
   rw [e]
   cases t with
   | nil => rfl
   | cons d u =>
    rw [chr_c0] at b1 b2 b3
    rw [chr_c1] at b3
    have e2 : (nameN (d :: u).length (d :: u)).1 = if ltr d = true then d :: (nameN u.length u).1 else [] := by
     simp only [List.length_cons, nameN]
     split
     ·rfl
     ·rw [b3, if_neg (by simp)]
    rw [e2]
    cases hl : ltr d with
    | false => rfl
    | true =>
     rw [if_pos rfl]
     have hd : dig d = true := by
      unfold ltr at hl
      rw [b1] at hl
      simpa [b2] using hl
     show (dig 45 || (45 : Int) == 45 && dig d) = true
     rw [hd]
     rfl
  ·have q45 : (c == 45) = false := by simp [h45]
   rw [q45, if_neg (by simp), Bool.or_eq_false_iff] at hb
   rw [hb.2, Bool.or_false] at h
   have hd : dig c = true := by
    unfold ltr at h
    rw [hb.1, q45] at h
    simpa using h
   have e : (Tok.name (c :: t)).1 = c :: (nameN t.length t).1 := by
    unfold Tok.name
    simp only [List.length_cons, nameN]
    rw [if_pos h]
   rw [e]
   show (dig c || c == 45 && _) = true
   rw [hd]
   rfl
theorem got_token {s : List Int} (hs : Fine s) (hn : s ≠ []) : Got (token s).1 (token s).2 := by
 obtain ⟨c, t, rfl⟩ : ∃ c t, s = c :: t := by
  cases s with
  | nil => exact absurd rfl hn
  | cons c t => exact ⟨c, t, rfl⟩
 obtain ⟨hc, ht⟩ := fine_cons hs
 have fixd : ∀ (k : Int) (r : List Int), (k = 6 ∨ k = 8 ∨ k = 13 ∨ k = 14 ∨ k = 15 ∨ k = 16 ∨ k = 17 ∨ k = 18 ∨ k = 19 ∨ k = 20 ∨ k = 21 ∨ k = 22 ∨ k = 23 ∨ k = 24) → k ≠ 6 → Fine r → Got (tk k []) r :=
  fun k r hk h6 hr => got_of (.fix hk) hr (not_open h6 (by omega)) (by show k ≠ 2; omega)
 have e1 : (c :: t).drop 1 = t := rfl
 unfold token
 simp only [chr_c0, chr_c1, chr_c2, chr_c3, e1]
 split
 ·exact fixd 13 _ (by omega) (by decide) (blanks_fine hs)
 ·rename_i hb
  split
  ·obtain ⟨a, b, d⟩ := txtN_fine c t.length t ht
   show Got (txtT (txt c t)) (txt c t).2.2
   unfold txtT
   split
   ·exact got_of (.text (.inl rfl) a) b (not_open (by decide) (by decide)) (by show (5 : Int) ≠ 2; decide)
   ·rename_i hf
    exact ⟨.fix (.inl rfl), b, fun _ => d (by have hf2 : (txt c t).1 = false := (by simpa using hf); exact hf2), fun h => absurd h (by show (6 : Int) ≠ 2; decide)⟩
  ·rename_i hq
   split
   ·rename_i hp
    have := plK_in hp
    exact fixd _ _ (by omega) (by omega) ht
   ·rename_i hp
    split
    ·rename_i hnum
     exact got_figure hs (by rw [chr_c0, chr_c1, chr_c2]; exact hnum)
    ·rename_i hnum
     split
     ·exact fixd 15 _ (by omega) (by decide) (drop_fine hs 3)
     ·split
      ·exact fixd 14 _ (by omega) (by decide) (drop_fine hs 4)
      ·split
       ·rename_i hh
        obtain ⟨n1, n2⟩ := name_fine ht
        have hne : (Tok.name t).1 ≠ [] := name_ne hh.2
        refine got_of (.hash hne n1 ?_) n2 (not_open (by decide) (by decide)) (by show (4 : Int) ≠ 2; decide)
        cases hg : beg (chr t 0) (chr t 1) (chr t 2) with
        | true => exact .inl rfl
        | false => exact .inr (loose_of hh.2 hg)
       ·split
        ·rename_i hh
         obtain ⟨n1, n2⟩ := name_fine ht
         have hne : (Tok.name t).1 ≠ [] := name_ne (beg_ltr hh.2)
         exact got_of (.name (.inr (.inr rfl)) hne n1) n2 (not_open (by decide) (by decide)) (by show (3 : Int) ≠ 2; decide)
        ·split
         ·rename_i hbg
          exact got_word hs (name_ne (s := c :: t) (by rw [chr_c0, chr_c1]; exact beg_ltr hbg))
         ·rename_i hbg
          have hbg : beg c (chr t 0) (chr t 1) = false := by simpa using hbg
          have hf1 : fst1 c = false := by
           cases q : fst1 c with
           | false => rfl
           | true => rw [beg_fst q] at hbg; cases hbg
          have hd1 : dig c = false := by
           cases q : dig c with
           | false => rfl
           | true =>
            exfalso
            apply hnum
            unfold num
            rw [dig_sign q, if_neg (by simp), q]
            rfl
          have hsg := sign_of hc (by simpa using hb) (by simpa using hq) hp hf1 hd1
          refine ⟨.sign hsg, ht, ?_, fun h => absurd h (by show (9 : Int) ≠ 2; decide)⟩
          rintro (h | ⟨_, h⟩)
          ·exact absurd h (by show (9 : Int) ≠ 6; decide)
          ·have hc92 : c = 92 := by simpa [tk] using h
           subst hc92
           have h10 : chr t 0 = 10 := by
            by_cases h : chr t 0 = 10
            ·exact h
            ·rw [beg_esc h] at hbg; cases hbg
           obtain ⟨u, e⟩ := chr_at h10 (by decide)
           exact ⟨u, e⟩
theorem rems_fine {s : List Int} (h : Fine s) : Fine (rems s) := remN_fine _ s h
theorem toks_10 (u : List Int) : ∃ m, toks (10 :: u) = tk 13 [] :: m := by
 have r1 : rems (10 :: u) = 10 :: u := rems_one (by intro h; cases h)
 rw [toks_eq, r1, if_neg (by simp), read_newline]
 exact ⟨_, rfl⟩
theorem toks_quo {q : Int} (u : List Int) (h : quo q = true) : ∃ x m, toks (q :: u) = x :: m ∧ (x.kind = 5 ∨ x.kind = 6) := by
 have hq : q = 34 ∨ q = 39 := by simpa [quo] using h
 have r1 : rems (q :: u) = q :: u := rems_one (by omega)
 have hb : blk q = false := by rcases hq with rfl | rfl <;> rfl
 have e : token (q :: u) = (txtT (txt q u), (txt q u).2.2) := by
  unfold token
  simp only [chr_c0, hb, h, Bool.false_eq_true, if_false, if_true, List.drop_succ_cons, List.drop_zero]
 rw [toks_eq, r1, if_neg (by simp), e]
 refine ⟨_, _, rfl, ?_⟩
 unfold txtT
 split
 ·exact .inl rfl
 ·exact .inr rfl
theorem toks_blk {b q : Int} (u : List Int) (hb : blk b = true) (hq : quo q = true) : ∃ x m, toks (b :: q :: u) = tk 13 [] :: x :: m ∧ (x.kind = 5 ∨ x.kind = 6) := by
 have hq2 : q = 34 ∨ q = 39 := by simpa [quo] using hq
 have hqb : blk q = false := by rcases hq2 with rfl | rfl <;> rfl
 have r1 : rems (b :: q :: u) = b :: q :: u := rems_no (by rintro ⟨rfl, _⟩; cases hb)
 have e : token (b :: q :: u) = (tk 13 [], q :: u) := by
  unfold token
  simp only [chr_c0, hb, if_true]
  unfold blanks
  rw [List.dropWhile_cons_of_pos hb, List.dropWhile_cons_of_neg (by simp [hqb])]
 obtain ⟨x, m, e2, hx⟩ := toks_quo u hq
 rw [toks_eq, r1, if_neg (by simp), e]
 simp only
 rw [e2]
 exact ⟨x, m, rfl, hx⟩
theorem toks_good : ∀ (n : Nat) (s : List Int), s.length ≤ n → Fine s → (∀ t ∈ toks s, MayQ t) ∧ Chain (toks s)
 | 0, s, h, hs => by
  have : s = [] := List.eq_nil_of_length_eq_zero (by omega)
  subst this
  exact ⟨fun t ht => (by cases ht), trivial⟩
 | n + 1, s, h, hs => by
  have hr := rems_fine hs
  have hl := rems_le s
  rw [toks_eq]
  by_cases h0 : rems s = []
  ·rw [if_pos h0]
   exact ⟨fun t ht => (by cases ht), trivial⟩
  ·rw [if_neg h0]
   have hg := got_token hr h0
   have hlt := token_lt h0
   obtain ⟨a, b⟩ := toks_good n (token (rems s)).2 (by omega) hg.fine
   refine ⟨fun t ht => ?_, ⟨?_, ?_⟩, b⟩
   ·rcases List.mem_cons.1 ht with rfl | ht
    ·exact hg.may
    ·exact a t ht
   ·intro ho
    obtain ⟨u, e⟩ := hg.line ho
    rw [e]
    exact toks_10 u
   ·intro h2 hu
    rcases hg.url h2 hu with ⟨q, u, e, hq⟩ | ⟨b, q, u, e, hb, hq⟩
    ·rw [e]; exact .inl (toks_quo u hq)
    ·rw [e]; exact .inr (toks_blk u hb hq)
theorem spell_back {b : List Int} (hb : By b) : (∀ t ∈ toks ((decode b).map scal), MayQ t) ∧ toks ((decode (toksB (toks ((decode b).map scal)))).map scal) = toks ((decode b).map scal) := by
 rw [map_scal hb]
 obtain ⟨h1, h2⟩ := toks_good (decode b).length (decode b) (Nat.le_refl _) (decode_fine hb)
 exact ⟨h1, bytes_back _ h1 h2⟩
end Go.Lift.Spell
end

section
namespace Go.Lift.Spell
set_option linter.unusedVariables false
set_option linter.unusedSimpArgs false
open Utf Tok
theorem nameN_sum : ∀ (n : Nat) (s : List Int), (nameN n s).1.length + (nameN n s).2.length ≤ s.length
 | 0, s => by simp [nameN]
 | n + 1, [] => by simp [nameN]
 | n + 1, c :: t => by
  simp only [nameN]
  split
  ·have := nameN_sum n t
   simp only [List.length_cons]
   omega
  ·split
   ·have := nameN_sum n (escd t).2
    have := escd_le t
    simp only [List.length_cons]
    omega
   ·simp
theorem name_sum (s : List Int) : (Tok.name s).1.length + (Tok.name s).2.length ≤ s.length := nameN_sum _ s
theorem txtN_sum (sign : Int) : ∀ (n : Nat) (s : List Int), (txtN sign n s).2.1.length + (txtN sign n s).2.2.length ≤ s.length
 | 0, s => by simp [txtN]
 | n + 1, [] => by simp [txtN]
 | n + 1, c :: t => by
  simp only [txtN]
  split
  ·simp
  ·split
   ·simp
   ·split
    ·cases t with
     | nil => simp
     | cons d u =>
      simp only
      split
      ·have := txtN_sum sign n u
       simp only [List.length_cons]
       omega
      ·have := txtN_sum sign n (escd (d :: u)).2
       have := escd_le (d :: u)
       simp only [List.length_cons] at *
       omega
    ·have := txtN_sum sign n t
     simp only [List.length_cons]
     omega
theorem urlN_sum : ∀ (n : Nat) (s : List Int), (urlN n s).2.1.length + (urlN n s).2.2.length ≤ s.length
 | 0, s => by simp [urlN]
 | n + 1, [] => by simp [urlN]
 | n + 1, c :: t => by
  simp only [urlN]
  split
  ·simp
  ·split
   ·have := blanks_le t
    split
    ·simp only [List.length_nil, List.length_drop, List.length_cons]
     omega
    ·have := badN_le (blanks t).length (blanks t)
     simp only [badu, List.length_nil, List.length_cons]
     omega
   ·split
    ·have := badN_le (c :: t).length (c :: t)
     simp only [badu, List.length_nil, List.length_cons] at *
     omega
    ·split
     ·split
      ·have := urlN_sum n (escd t).2
       have := escd_le t
       simp only [List.length_cons]
       omega
      ·have := badN_le (c :: t).length (c :: t)
       simp only [badu, List.length_nil, List.length_cons] at *
       omega
     ·have := urlN_sum n t
      simp only [List.length_cons]
      omega
theorem urlT_sum (x : Bool × List Int × List Int) {n : Nat} (h : x.2.1.length + x.2.2.length ≤ n) : (urlT x).text.length + x.2.2.length ≤ n := by
 unfold urlT tk
 split
 ·exact h
 ·simp only [List.length_nil]; omega
theorem numP_le (s : List Int) : (numP s).2.length ≤ s.length := by
 have := congrArg List.length (numP_text s)
 rw [List.length_append] at this
 omega
theorem token_sum (s : List Int) (hne : s ≠ []) : (token s).1.text.length + (token s).2.length ≤ s.length := by
 unfold token
 simp only
 split
 ·have := blanks_le s
  simp only [tk, List.length_nil]
  omega
 ·split
  ·have h1 := txtN_sum (chr s 0) (s.drop 1).length (s.drop 1)
   have h2 : (s.drop 1).length ≤ s.length := by rw [List.length_drop]; omega
   show (txtT (txt (chr s 0) (s.drop 1))).text.length + (txt (chr s 0) (s.drop 1)).2.2.length ≤ _
   have h1 : (txt (chr s 0) (s.drop 1)).2.1.length + (txt (chr s 0) (s.drop 1)).2.2.length ≤ (s.drop 1).length := h1
   unfold txtT tk
   split
   ·show (txt (chr s 0) (s.drop 1)).2.1.length + _ ≤ _
    omega
   ·simp only [List.length_nil]; omega
  ·split
   ·simp only [tk, List.length_nil, List.length_drop]; omega
   ·split
    ·have h1 := numP_le s
     unfold figure
     simp only
     split
     ·have := name_sum (numP s).2
      simp only
      omega
     ·split
      ·simp only [List.length_nil, List.length_drop]; omega
      ·simp only [List.length_nil]; omega
    ·split
     ·simp only [tk, List.length_nil, List.length_drop]; omega
     ·split
      ·simp only [tk, List.length_nil, List.length_drop]; omega
      ·split
       ·have h1 := name_sum (s.drop 1)
        rw [List.length_drop] at h1
        simp only
        omega
       ·split
        ·have h1 := name_sum (s.drop 1)
         rw [List.length_drop] at h1
         simp only [tk]
         omega
        ·split
         ·have h1 := name_sum s
          unfold word
          simp only
          split
          ·split
           ·have h2 := skip2_le ((Tok.name s).2.drop 1)
            rw [List.length_drop] at h2
            have h3 := urlN_sum (blanks (skip2 ((Tok.name s).2.drop 1))).length (blanks (skip2 ((Tok.name s).2.drop 1)))
            have h4 := blanks_le (skip2 ((Tok.name s).2.drop 1))
            have key : ∀ q : Bool, (if q = true then (tk 2 (Tok.name s).1, skip2 ((Tok.name s).2.drop 1)) else (urlT (url (skip2 ((Tok.name s).2.drop 1))), (url (skip2 ((Tok.name s).2.drop 1))).2.2)).1.text.length +
              (if q = true then (tk 2 (Tok.name s).1, skip2 ((Tok.name s).2.drop 1)) else (urlT (url (skip2 ((Tok.name s).2.drop 1))), (url (skip2 ((Tok.name s).2.drop 1))).2.2)).2.length ≤ s.length := by
             intro q
             cases q with
             | true => rw [if_pos rfl]; show (Tok.name s).1.length + (skip2 ((Tok.name s).2.drop 1)).length ≤ _; omega
             | false =>
              rw [if_neg (by simp)]
              exact urlT_sum _ (Nat.le_trans h3 (by omega))
            exact key _
           ·simp only [tk, List.length_drop]; omega
          ·simp only [tk]; omega
         ·cases s with
          | nil => exact absurd rfl hne
          | cons c t => simp only [tk, List.length_cons, List.length_nil, List.drop_succ_cons, List.drop_zero]; omega
def textSum : List Tk → Nat
 | [] => 0
 | t :: l => t.text.length + textSum l
theorem toks_sum : ∀ (n : Nat) (s : List Int), s.length ≤ n → textSum (toks s) + (toks s).length ≤ 2 * s.length
 | 0, s, h => by
  have : s = [] := List.eq_nil_of_length_eq_zero (by omega)
  subst this
  exact Nat.le_refl _
 | n + 1, s, h => by
  have hl := rems_le s
  rw [toks_eq]
  by_cases h0 : rems s = []
  ·rw [if_pos h0]
   exact Nat.zero_le _
  ·rw [if_neg h0]
   have hlt := token_lt h0
   have hs := token_sum (rems s) h0
   have := toks_sum n (token (rems s)).2 (by omega)
   simp only [textSum, List.length_cons]
   omega
abbrev Wide (t : Tk) : Prop := -9223372036854775808 ≤ t.num.1 ∧ t.num.1 ≤ 9223372036854775807 ∧ 0 ≤ t.num.2 ∧ t.num.2 ≤ 9223372036854775807
theorem wide_zero {t : Tk} (h : t.num = (0, 0)) : Wide t := by unfold Wide; rw [h]; omega
theorem token_wide (s : List Int) : Wide (token s).1 := by
 unfold token
 simp only
 split
 ·exact wide_zero rfl
 ·split
  ·exact wide_zero (by unfold txtT; split <;> rfl)
  ·split
   ·exact wide_zero rfl
   ·split
    ·rename_i hn
     have hb := read_bounds (numP_ok hn)
     unfold figure
     simp only
     split
     ·exact hb
     ·split
      ·exact hb
      ·exact hb
    ·split
     ·exact wide_zero rfl
     ·split
      ·exact wide_zero rfl
      ·split
       ·exact wide_zero rfl
       ·split
        ·exact wide_zero rfl
        ·split
         ·refine wide_zero ?_
          unfold word
          simp only
          split
          ·split
           ·have key : ∀ q : Bool, (if q = true then (tk 2 (Tok.name s).1, skip2 ((Tok.name s).2.drop 1)) else (urlT (url (skip2 ((Tok.name s).2.drop 1))), (url (skip2 ((Tok.name s).2.drop 1))).2.2)).1.num = (0, 0) := by
             intro q
             cases q with
             | true => rw [if_pos rfl]; rfl
             | false => rw [if_neg (by simp)]; unfold urlT; split <;> rfl
            exact key _
           ·rfl
          ·rfl
         ·exact wide_zero rfl
theorem toks_wide : ∀ (n : Nat) (s : List Int), ∀ t ∈ toksN n s, Wide t
 | 0, s => fun t ht => by cases ht
 | n + 1, s => by
  intro t ht
  simp only [toksN] at ht
  split at ht
  ·cases ht
  ·rcases List.mem_cons.1 ht with rfl | ht
   ·exact token_wide _
   ·exact toks_wide n _ t ht
end Go.Lift.Spell
end
