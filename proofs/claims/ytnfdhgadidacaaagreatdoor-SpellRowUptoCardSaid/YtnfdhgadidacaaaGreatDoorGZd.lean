/- What is computed, in plain Lean. -/
import Derived.Test.YtnfdhgadidacaaaGreatDoorGZc
section
namespace Go.Lift.Spell
set_option linter.unusedVariables false
set_option linter.unusedSimpArgs false
open Utf Tok
abbrev ends (r : List Int) : Prop := ltr (chr r 0) = false ∧ chr r 0 ≠ 92 ∧ chr r 0 ≠ 40 ∧ chr r 0 ≠ 46 ∧ chr r 0 ≠ 37 ∧ chr r 0 ≠ 43 ∧ chr r 0 ≠ 62 ∧ chr r 0 ≠ 33 ∧ chr r 0 ≠ 42
theorem ends_stops {r : List Int} (h : ends r) : stops r := ⟨h.1, esc_m h.2.1⟩
theorem stops40 (r : List Int) : stops (40 :: r) := ⟨rfl, rfl⟩
variable {l r : List Int}
theorem read_ident (hs : Snd l) (hn : l ≠ []) (hr : ends r) : token (identQ l ++ r) = (tk 1 l, r) := by
 obtain ⟨h1, h2⟩ := ident_beg hs hn r
 rw [token_word h1 (h2 hr.2.2.2.2.2.2.1)]
 unfold word
 rw [name_wr (identQ_wr fun x hx => (hs x hx).1) (ends_stops hr)]
 simp only
 rw [if_neg hr.2.2.1]
theorem read_func (hs : Snd l) (hn : l ≠ []) (hu : isUrl l = false) : token (identQ l ++ 40 :: r) = (tk 2 l, r) := by
 obtain ⟨h1, h2⟩ := ident_beg hs hn (40 :: r)
 rw [token_word h1 (h2 (by rw [chr_c0]; decide))]
 unfold word
 rw [name_wr (identQ_wr fun x hx => (hs x hx).1) (stops40 r)]
 simp only [chr_c0, hu, if_true, Bool.false_eq_true, if_false, List.drop_succ_cons, List.drop_zero]
theorem skip2_one {c : Int} {t : List Int} (h : blk c = false) : skip2 (c :: t) = c :: t := by
 unfold skip2
 simp only [List.length_cons, skip2N, chr_c0, h, Bool.false_and, Bool.false_eq_true, if_false]
theorem skip2_two {c d : Int} {t : List Int} (h : blk d = false) : skip2 (c :: d :: t) = c :: d :: t := by
 unfold skip2
 simp only [List.length_cons, skip2N, chr_c0, chr_c1, h, Bool.and_false, Bool.false_eq_true, if_false]
theorem read_func_url (hs : Snd l) (hn : l ≠ []) (hu : isUrl l = true) (hq : (∃ t, r = 34 :: t) ∨ ∃ t, r = 32 :: 34 :: t) : token (identQ l ++ 40 :: r) = (tk 2 l, r) := by
 obtain ⟨h1, h2⟩ := ident_beg hs hn (40 :: r)
 rw [token_word h1 (h2 (by rw [chr_c0]; decide))]
 unfold word
 rw [name_wr (identQ_wr fun x hx => (hs x hx).1) (stops40 r)]
 have b34 : blk 34 = false := rfl
 have b32 : blk 32 = true := rfl
 have q34 : quo 34 = true := rfl
 rcases hq with ⟨t, rfl⟩ | ⟨t, rfl⟩
 ·simp only [chr_c0, hu, if_true, List.drop_succ_cons, List.drop_zero, skip2_one b34, b34, q34, Bool.false_eq_true, if_false]
 ·simp only [chr_c0, chr_c1, hu, if_true, List.drop_succ_cons, List.drop_zero, skip2_two b34, b32, q34]
theorem read_at (hs : Snd l) (hn : l ≠ []) (hr : stops r) : token (64 :: (identQ l ++ r)) = (tk 3 l, r) := by
 obtain ⟨h1, _⟩ := ident_beg hs hn r
 have f1 : blk 64 = false := rfl
 have f2 : quo 64 = false := rfl
 have f3 : plK 64 = 0 := rfl
 have f4 : ∀ d e, num 64 d e = false := fun _ _ => rfl
 unfold token
 simp only [chr_c0, chr_c1, chr_c2, chr_c3, f1, f2, f3, f4, h1, Bool.false_eq_true, if_false, Int.lt_irrefl, List.drop_succ_cons, List.drop_zero]
 rw [if_neg (by omega), if_neg (by omega), if_neg (by omega), if_pos (by simp), name_wr (identQ_wr fun x hx => (hs x hx).1) hr]
theorem read_hash (hs : Snd l) (hn : l ≠ []) (hr : stops r) : token (35 :: (identQ l ++ r)) = (⟨4, l, (0, 0), false, true⟩, r) := by
 obtain ⟨h1, _⟩ := ident_beg hs hn r
 have h2 := beg_ltr h1
 have f1 : blk 35 = false := rfl
 have f2 : quo 35 = false := rfl
 have f3 : plK 35 = 0 := rfl
 have f4 : ∀ d e, num 35 d e = false := fun _ _ => rfl
 unfold token
 simp only [chr_c0, chr_c1, chr_c2, chr_c3, f1, f2, f3, f4, h1, h2, Bool.false_eq_true, if_false, Int.lt_irrefl, List.drop_succ_cons, List.drop_zero]
 rw [if_neg (by omega), if_neg (by omega), if_pos (by simp), name_wr (identQ_wr fun x hx => (hs x hx).1) hr]
theorem nameQ1_raw {x : Int} (h : hidT x = false) (hl : ltr x = true) : nameQ1 x = [x] := by
 unfold nameQ1
 rw [h, if_neg (by simp), hl, if_pos rfl]
theorem dig_raw {x : Int} (h : dig x = true) : nameQ1 x = [x] ∧ fst1 x = false ∧ x ≠ 45 ∧ x ≠ 92 := by
 have hx : 48 ≤ x ∧ x ≤ 57 := by simpa [dig] using h
 refine ⟨nameQ1_raw (by unfold hidT; simp; omega) (by unfold ltr; rw [h]; simp), by unfold fst1; simp; omega, by omega, by omega⟩
theorem read_loose (hs : Snd l) (hl : looseT l = true) (hr : ends r) : token (35 :: (nameQ l ++ r)) = (⟨4, l, (0, 0), false, false⟩, r) := by
 have key : (ltr (chr (nameQ l ++ r) 0) || esc (chr (nameQ l ++ r) 0) (chr (nameQ l ++ r) 1)) = true ∧ beg (chr (nameQ l ++ r) 0) (chr (nameQ l ++ r) 1) (chr (nameQ l ++ r) 2) = false := by
  cases l with
  | nil => cases hl
  | cons x t =>
   cases qd : dig x with
   | true =>
    obtain ⟨e, h1, h2, h3⟩ := dig_raw qd
    rw [nameQ, e, List.append_assoc, List.singleton_append, chr_c0]
    have hl : ltr x = true := by unfold ltr; rw [qd]; simp
    refine ⟨by rw [hl]; rfl, ?_⟩
    have : (x == 45) = false := by simp [h2]
    unfold beg
    rw [this, if_neg (by simp), h1, esc_m h3]
    rfl
   | false =>
    have nb : ∀ d e : Int, fst1 d = false → d ≠ 45 → d ≠ 92 → beg 45 d e = false := by
     intro d e h1 h2 h3
     have : (d == 45) = false := by simp [h2]
     unfold beg
     rw [if_pos (by decide), h1, this, esc_m h3]
     rfl
    have e45 : nameQ1 45 = [45] := by decide
    cases t with
    | nil =>
     have hx : x = 45 := by
      have : looseT [x] = (dig x || x == 45) := by simp [looseT]
      rw [this, qd] at hl
      simpa using hl
     subst hx
     have eN : nameQ [45] ++ r = 45 :: r := by show nameQ1 45 ++ [] ++ r = _; rw [e45]; rfl
     rw [eN, chr_c0, chr_c1, chr_c2]
     refine ⟨rfl, ?_⟩
     have h := hr.1
     unfold ltr at h
     simp only [Bool.or_eq_false_iff] at h
     exact nb _ _ h.1.1 (by simpa using h.2) hr.2.1
    | cons y u =>
     have hx : x = 45 ∧ dig y = true := by
      have : looseT (x :: y :: u) = (dig x || x == 45 && dig y) := rfl
      rw [this, qd] at hl
      simpa using hl
     obtain ⟨rfl, hy⟩ := hx
     obtain ⟨e, h1, h2, h3⟩ := dig_raw hy
     rw [nameQ, e45, nameQ, e, List.append_assoc, List.append_assoc, List.singleton_append, List.singleton_append, chr_c0, chr_c1, chr_c2, chr_c0]
     exact ⟨rfl, nb _ _ h1 h2 h3⟩
 have f1 : blk 35 = false := rfl
 have f2 : quo 35 = false := rfl
 have f3 : plK 35 = 0 := rfl
 have f4 : ∀ d e, num 35 d e = false := fun _ _ => rfl
 unfold token
 simp only [chr_c0, chr_c1, chr_c2, chr_c3, f1, f2, f3, f4, key.1, key.2, Bool.false_eq_true, if_false, Int.lt_irrefl, List.drop_succ_cons, List.drop_zero]
 rw [if_neg (by omega), if_neg (by omega), if_pos (by simp), name_wr (nameQ_wr l fun x hx => (hs x hx).1) (ends_stops hr)]
theorem read_text (hs : ∀ x ∈ l, scal x = x) : token (34 :: (textQ [34, 92] false l ++ 34 :: r)) = (tk 5 l, r) := by
 have f1 : blk 34 = false := rfl
 have f2 : quo 34 = true := rfl
 unfold token
 simp only [chr_c0, f1, f2, Bool.false_eq_true, if_false, if_true, List.drop_succ_cons, List.drop_zero, txt_q r hs, txtT]
theorem read_badtext : token (34 :: 10 :: r) = (tk 6 [], 10 :: r) := by
 have f1 : blk 34 = false := rfl
 have f2 : quo 34 = true := rfl
 have e : txt 34 (10 :: r) = (false, [], 10 :: r) := by
  unfold txt
  simp only [List.length_cons, txtN, if_true]
 unfold token
 simp only [chr_c0, f1, f2, Bool.false_eq_true, if_false, if_true, List.drop_succ_cons, List.drop_zero, e, txtT]
theorem url_word (X : List Int) : token (117 :: 114 :: 108 :: 40 :: X) = word (117 :: 114 :: 108 :: 40 :: X) :=
 token_word (beg_fst rfl) (fun h => absurd h.1 (by rw [chr_c0]; decide))
theorem url_name (X : List Int) : Tok.name (117 :: 114 :: 108 :: 40 :: X) = ([117, 114, 108], 40 :: X) := by
 have h : WrL [117, 114, 108] ([117] ++ ([114] ++ ([108] ++ []))) := .cons (.raw rfl) (.cons (.raw rfl) (.cons (.raw rfl) .nil))
 exact name_wr h (stops40 X)
theorem url_head {c : Int} {t : List Int} (hb : blk c = false) (hq : quo c = false) : token (117 :: 114 :: 108 :: 40 :: c :: t) = (urlT (urlN (c :: t).length (c :: t)), (urlN (c :: t).length (c :: t)).2.2) := by
 have hu : isUrl [117, 114, 108] = true := by decide
 have e : url (c :: t) = urlN (c :: t).length (c :: t) := by
  have eb : blanks (c :: t) = c :: t := by unfold blanks; rw [List.dropWhile_cons_of_neg (by simp [hb])]
  unfold url
  rw [eb]
 rw [url_word]
 unfold word
 rw [url_name]
 simp only [chr_c0, hu, if_true, List.drop_succ_cons, List.drop_zero, skip2_one hb, hb, hq, Bool.false_eq_true, if_false, e]
theorem read_url (hs : Snd l) : token (117 :: 114 :: 108 :: 40 :: (textQ [34, 39, 40, 41, 92] true l ++ 41 :: r)) = (tk 7 l, r) := by
 have hX := urlN_q l r _ hs (Nat.le_refl _)
 have hc : ∃ c t, textQ [34, 39, 40, 41, 92] true l ++ 41 :: r = c :: t ∧ blk c = false ∧ quo c = false := by
  cases l with
  | nil => exact ⟨41, r, rfl, rfl, rfl⟩
  | cons x l =>
   obtain ⟨hx, hx0⟩ := hs x (by simp)
   simp only [textQ, List.append_assoc]
   unfold textQ1
   cases qh : hidT x || true && x == 32 with
   | true =>
    rw [if_pos rfl, codeT_app]
    exact ⟨92, _, rfl, rfl, rfl⟩
   | false =>
    rw [if_neg (by simp)]
    have qh2 := Bool.or_eq_false_iff.1 qh
    have h10 := hid10 qh2.1
    have h32 : x ≠ 32 := by simpa using qh2.2
    cases qc : ([34, 39, 40, 41, 92] : List Int).contains x with
    | true => rw [if_pos rfl]; exact ⟨92, _, rfl, rfl, rfl⟩
    | false =>
     rw [if_neg (by simp)]
     have hh : ¬ (1 ≤ x ∧ x ≤ 31 ∨ x = 127 ∨ x = 65279) := by
      have := qh2.1
      unfold hidT at this
      simp at this
      omega
     refine ⟨x, _, rfl, by unfold blk; simp; omega, ?_⟩
     simp at qc
     unfold quo
     simp [qc]
 obtain ⟨c, t, e, hb, hq⟩ := hc
 rw [e] at hX ⊢
 rw [url_head hb hq, hX]
 rfl
theorem read_badurl : token (117 :: 114 :: 108 :: 40 :: 40 :: 41 :: r) = (tk 8 [], r) := by
 have q40 : (quo 40 || (40 : Int) == 40 || unp 40) = true := rfl
 have b40 : blk 40 = false := rfl
 have e40 : ∀ d, esc 40 d = false := fun _ => rfl
 have e : urlN (40 :: 41 :: r).length (40 :: 41 :: r) = (false, [], r) := by
  simp only [List.length_cons, urlN, b40, q40, Bool.false_eq_true, if_false, if_true]
  rw [if_neg (by omega)]
  unfold badu
  simp only [List.length_cons, badN, e40, Bool.false_eq_true, if_false, if_true]
  rw [if_neg (by omega)]
 rw [url_head (c := 40) (t := 41 :: r) rfl rfl, e]
 rfl
theorem read_space : token (32 :: r) = (tk 13 [], blanks r) := by
 have f1 : blk 32 = true := rfl
 unfold token
 simp only [chr_c0, f1, if_true]
 unfold blanks
 rw [List.dropWhile_cons_of_pos f1]
theorem read_newline : token (10 :: r) = (tk 13 [], blanks r) := by
 have f1 : blk 10 = true := rfl
 unfold token
 simp only [chr_c0, f1, if_true]
 unfold blanks
 rw [List.dropWhile_cons_of_pos f1]
theorem read_plain {c : Int} (h1 : blk c = false) (h2 : quo c = false) (h3 : 0 < plK c) : token (c :: r) = (tk (plK c) [], r) := by
 unfold token
 simp only [chr_c0, h1, h2, Bool.false_eq_true, if_false, List.drop_succ_cons, List.drop_zero]
 rw [if_pos h3]
theorem read_cdo : token (60 :: 33 :: 45 :: 45 :: r) = (tk 14 [], r) := by
 have f1 : blk 60 = false := rfl
 have f2 : quo 60 = false := rfl
 have f3 : plK 60 = 0 := rfl
 have f4 : ∀ d e, num 60 d e = false := fun _ _ => rfl
 unfold token
 simp only [chr_c0, chr_c1, chr_c2, chr_c3, f1, f2, f3, f4, Bool.false_eq_true, if_false, Int.lt_irrefl, List.drop_succ_cons, List.drop_zero]
 rw [if_neg (by omega), if_pos ⟨trivial, trivial, trivial, trivial⟩]
theorem read_cdc : token (45 :: 45 :: 62 :: r) = (tk 15 [], r) := by
 have f1 : blk 45 = false := rfl
 have f2 : quo 45 = false := rfl
 have f3 : plK 45 = 0 := rfl
 have f4 : ∀ e, num 45 45 e = false := fun _ => rfl
 unfold token
 simp only [chr_c0, chr_c1, chr_c2, chr_c3, f1, f2, f3, f4, Bool.false_eq_true, if_false, Int.lt_irrefl, List.drop_succ_cons, List.drop_zero]
 rw [if_pos ⟨trivial, trivial, trivial⟩]
theorem read_sign {c : Int} (hb : blk c = false) (hq : quo c = false) (hp : plK c = 0) (hf : fst1 c = false) (hd : dig c = false) (h92 : c ≠ 92) (hr : ends r) : token (c :: r) = (tk 9 [c], r) := by
 obtain ⟨e0, e1, e2, e3, e4, e5, e6, e7, e8⟩ := hr
 have h0 := e0
 unfold ltr at e0
 simp only [Bool.or_eq_false_iff, beq_eq_false_iff_ne] at e0
 obtain ⟨⟨d1, d2⟩, d3⟩ := e0
 have hn : num c (chr r 0) (chr r 1) = false := by
  have q46 : (chr r 0 == 46) = false := by simp [e3]
  unfold num
  rw [d2, q46, hd]
  simp
 have hg : beg c (chr r 0) (chr r 1) = false := by
  have q45 : (chr r 0 == 45) = false := by simp [d3]
  unfold beg
  rw [hf, d1, q45, esc_m e1, esc_m h92]
  simp
 have hl : (ltr (chr r 0) || esc (chr r 0) (chr r 1)) = false := by rw [h0, esc_m e1]; rfl
 have hg2 : beg (chr r 0) (chr r 1) (chr r 2) = false := by
  have q45 : (chr r 0 == 45) = false := by simp [d3]
  unfold beg
  rw [q45, if_neg (by simp), d1, esc_m e1]
  rfl
 unfold token
 simp only [chr_c0, chr_c1, chr_c2, chr_c3, hb, hq, hp, hn, hg, hl, hg2, Bool.false_eq_true, if_false, Int.lt_irrefl, List.drop_succ_cons, List.drop_zero]
 rw [if_neg (fun h => d3 h.2.1), if_neg (fun h => e7 h.2.1), if_neg (fun h => h.2), if_neg (fun h => h.2)]
theorem read_back : token (92 :: 10 :: r) = (tk 9 [92], 10 :: r) := by
 have f1 : blk 92 = false := rfl
 have f2 : quo 92 = false := rfl
 have f3 : plK 92 = 0 := rfl
 have f4 : ∀ d e, num 92 d e = false := fun _ _ => rfl
 have f5 : ∀ e, beg 92 10 e = false := fun _ => rfl
 unfold token
 simp only [chr_c0, chr_c1, chr_c2, chr_c3, f1, f2, f3, f4, f5, Bool.false_eq_true, if_false, Int.lt_irrefl, List.drop_succ_cons, List.drop_zero]
 rw [if_neg (by omega), if_neg (by omega), if_neg (by omega), if_neg (by omega)]
end Go.Lift.Spell
end

section
namespace Go.Lift.Spell
set_option linter.unusedVariables false
set_option linter.unusedSimpArgs false
open Utf Tok
theorem dgt_small {n : Int} (h0 : 0 ≤ n) (h : n < 10) : dgt n = [48 + n] := by
 unfold dgt
 rw [Go.Lib.decDigits_one (by omega)]
 simp
 omega
theorem dgt_big {n : Int} (h : 10 ≤ n) : dgt n = dgt (n / 10) ++ [48 + n % 10] := by
 unfold dgt
 rw [Go.Lib.decDigits, dif_neg (by omega)]
 have e : (n / 10).toNat = n.toNat / 10 := by omega
 rw [e, List.map_append]
 congr 1
 simp
 omega
theorem valN_snoc : ∀ (l : List Int) (n c : Int), valN n (l ++ [c]) = valN n l * 10 + (c - 48)
 | [], n, c => rfl
 | x :: l, n, c => by simp only [List.cons_append, valN, valN_snoc l]
theorem dgt_spec (k : Nat) : ∀ m : Int, 0 ≤ m → m < 10 ^ (k + 1) → valN 0 (dgt m) = m ∧ (dgt m).all dig = true ∧ dgt m ≠ [] ∧ (1 ≤ m → ∃ c t, dgt m = c :: t ∧ c ≠ 48) ∧ (dgt m).length ≤ k + 1 := by
 induction k with
 | zero =>
  intro m h0 h1
  have h1 : m < 10 := by simpa using h1
  rw [dgt_small h0 h1]
  refine ⟨?_, ?_, by simp, fun h => ⟨48 + m, [], rfl, by omega⟩, by simp⟩
  ·simp only [valN]; omega
  ·simp [dig]; omega
 | succ k ih =>
  intro m h0 h1
  by_cases h : m < 10
  ·rw [dgt_small h0 h]
   refine ⟨?_, ?_, by simp, fun h => ⟨48 + m, [], rfl, by omega⟩, by simp⟩
   ·simp only [valN]; omega
   ·simp [dig]; omega
  ·rw [dgt_big (by omega)]
   obtain ⟨a, b, c, d, e⟩ := ih (m / 10) (by omega) (by rw [Int.pow_succ] at h1; omega)
   refine ⟨?_, ?_, by simp, fun _ => ?_, by simp; omega⟩
   ·rw [valN_snoc, a]; omega
   ·rw [List.all_append, b]; simp [dig]; omega
   ·obtain ⟨x, t, e1, e2⟩ := d (by omega)
    exact ⟨x, t ++ [48 + m % 10], by rw [e1]; rfl, e2⟩
theorem core_snoc (l : List Int) : core (l ++ [48]) = core l := by
 unfold core
 rw [List.reverse_append]
 rfl
theorem core_last {l : List Int} {c : Int} (h : c ≠ 48) : core (l ++ [c]) = l ++ [c] := by
 unfold core
 rw [List.reverse_append, List.reverse_cons, List.reverse_nil, List.nil_append, List.singleton_append, List.dropWhile_cons_of_neg (by simp [h])]
 simp
theorem core_dgt (k : Nat) : ∀ m : Int, 1 ≤ m → m < 10 ^ (k + 1) → ∃ (a : Int) (z : Nat), m = a * 10 ^ z ∧ a % 10 ≠ 0 ∧ 1 ≤ a ∧ core (dgt m) = dgt a ∧ (dgt m).length = (dgt a).length + z := by
 induction k with
 | zero =>
  intro m h0 h1
  have h1 : m < 10 := by simpa using h1
  refine ⟨m, 0, by simp, by omega, h0, ?_, rfl⟩
  rw [dgt_small (by omega) h1]
  exact core_last (l := []) (by omega)
 | succ k ih =>
  intro m h0 h1
  by_cases h : m < 10
  ·refine ⟨m, 0, by simp, by omega, h0, ?_, rfl⟩
   rw [dgt_small (by omega) h]
   exact core_last (l := []) (by omega)
  ·by_cases hm : m % 10 = 0
   ·obtain ⟨a, z, e1, e2, e3, e4, e5⟩ := ih (m / 10) (by omega) (by rw [Int.pow_succ] at h1; omega)
    refine ⟨a, z + 1, ?_, e2, e3, ?_, ?_⟩
    ·rw [Int.pow_succ, ← Int.mul_assoc, ← e1]; omega
    ·rw [dgt_big (by omega), hm, Int.add_zero, core_snoc, e4]
    ·rw [dgt_big (by omega), List.length_append, e5, List.length_singleton]; omega
   ·refine ⟨m, 0, by simp, hm, h0, ?_, rfl⟩
    rw [dgt_big (by omega)]
    exact core_last (by omega)
abbrev calm3 (u : List Int) : Prop := dig (chr u 0) = false ∧ chr u 0 ≠ 46 ∧ ((chr u 0 == 101 || chr u 0 == 69) && dig (chr u (if (chr u 1 == 43 || chr u 1 == 45) = true then 2 else 1))) = false
theorem digs_split : ∀ (d R : List Int), d.all dig = true → dig (chr R 0) = false → (d ++ R).dropWhile dig = R ∧ (d ++ R).takeWhile dig = d
 | [], R, _, hR => by
  cases R with
  | nil => exact ⟨rfl, rfl⟩
  | cons c t =>
   have hc : dig c = false := hR
   rw [List.nil_append]
   exact ⟨List.dropWhile_cons_of_neg (by simp [hc]), List.takeWhile_cons_of_neg (by simp [hc])⟩
 | c :: d, R, h, hR => by
  rw [List.all_cons, Bool.and_eq_true] at h
  obtain ⟨a, b⟩ := digs_split d R h.2 hR
  rw [List.cons_append]
  exact ⟨by rw [List.dropWhile_cons_of_pos h.1, a], by rw [List.takeWhile_cons_of_pos h.1, b]⟩
theorem dig_sign {c : Int} (h : dig c = true) : (c == 43 || c == 45) = false := by
 have : 48 ≤ c ∧ c ≤ 57 := by simpa [dig] using h
 simp
 omega
theorem numP_plain {sg d1 fr u : List Int} (hs : sg = [] ∨ sg = [45]) (h1 : d1.all dig = true) (hn : d1 ≠ []) (h2 : fr.all dig = true) (hu : calm3 u) :
  numP ((⟨sg, d1, fr, [], []⟩ : Nm).text ++ u) = (⟨sg, d1, fr, [], []⟩, u) := by
 obtain ⟨c, t, rfl⟩ : ∃ c t, d1 = c :: t := by
  cases d1 with
  | nil => exact absurd rfl hn
  | cons c t => exact ⟨c, t, rfl⟩
 have hc : dig c = true := by rw [List.all_cons, Bool.and_eq_true] at h1; exact h1.1
 have hsg := dig_sign hc
 obtain ⟨R, hR, hR0, hRf⟩ : ∃ R, (if fr = [] then [] else 46 :: fr) ++ u = R ∧ dig (chr R 0) = false ∧
   ((chr R 0 == 46 && dig (chr R 1)) = true ∧ fr ≠ [] ∧ (R.drop 1).dropWhile dig = u ∧ (R.drop 1).takeWhile dig = fr ∨ (chr R 0 == 46 && dig (chr R 1)) = false ∧ fr = [] ∧ R = u) := by
  cases fr with
  | nil =>
   refine ⟨u, rfl, hu.1, .inr ⟨?_, rfl, rfl⟩⟩
   have : (chr u 0 == 46) = false := by simp [hu.2.1]
   rw [this]
   rfl
  | cons x v =>
   have hx : dig x = true := by rw [List.all_cons, Bool.and_eq_true] at h2; exact h2.1
   obtain ⟨a, b⟩ := digs_split (x :: v) u h2 hu.1
   refine ⟨46 :: ((x :: v) ++ u), by rw [if_neg (by simp)]; rfl, rfl, .inl ⟨?_, by simp, ?_, ?_⟩⟩
   ·rw [chr_c0, chr_c1, List.cons_append, chr_c0, hx]
    rfl
   ·rw [List.drop_succ_cons, List.drop_zero]; exact a
   ·rw [List.drop_succ_cons, List.drop_zero]; exact b
 obtain ⟨a1, a2⟩ := digs_split (c :: t) R h1 hR0
 have et : (⟨sg, c :: t, fr, [], []⟩ : Nm).text ++ u = sg ++ ((c :: t) ++ R) := by
  unfold Nm.text
  simp only [List.append_nil, List.append_assoc, hR]
 rw [et]
 have main : ∀ (a : List Int), a = (c :: t) ++ R → ∀ g : List Int,
   (
    let b := a.dropWhile dig
    let f := (chr b 0 == 46 && dig (chr b 1))
    let c := if f = true then (b.drop 1).dropWhile dig else b
    let k := if (chr c 1 == 43 || chr c 1 == 45) = true then 2 else 1
    let x := ((chr c 0 == 101 || chr c 0 == 69) && dig (chr c k))
    ((⟨g, a.takeWhile dig, if f = true then (b.drop 1).takeWhile dig else [], if x = true then c.take k else [], if x = true then (c.drop k).takeWhile dig else []⟩ : Nm), if x = true then (c.drop k).dropWhile dig else c)) = (⟨g, c :: t, fr, [], []⟩, u) := by
  rintro a rfl g
  simp only
  rw [a1, a2]
  rcases hRf with ⟨f1, f2, f3, f4⟩ | ⟨f1, f2, f3⟩
  ·rw [f1]
   simp only [if_true, f3, f4]
   rw [hu.2.2]
   rfl
  ·rw [f1]
   simp only [Bool.false_eq_true, if_false]
   rw [f3, hu.2.2, f2]
   rfl
 unfold numP
 rcases hs with rfl | rfl
 ·have e : (chr ([] ++ ((c :: t) ++ R)) 0 == 43 || chr ([] ++ ((c :: t) ++ R)) 0 == 45) = false := hsg
  rw [e]
  exact main _ rfl []
 ·have e : (chr ([45] ++ ((c :: t) ++ R)) 0 == 43 || chr ([45] ++ ((c :: t) ++ R)) 0 == 45) = true := rfl
  rw [e]
  exact main _ rfl [45]
theorem numP_over {u : List Int} (hu : dig (chr u 0) = false) : numP ([49, 101, 57, 57] ++ u) = (⟨[], [49], [], [101], [57, 57]⟩, u) := by
 obtain ⟨a, b⟩ := digs_split [57, 57] u (by decide) hu
 have d1 : (49 :: 101 :: 57 :: 57 :: u).dropWhile dig = 101 :: 57 :: 57 :: u := by
  rw [List.dropWhile_cons_of_pos (by decide), List.dropWhile_cons_of_neg (by decide)]
 have d2 : (49 :: 101 :: 57 :: 57 :: u).takeWhile dig = [49] := by
  rw [List.takeWhile_cons_of_pos (by decide), List.takeWhile_cons_of_neg (by decide)]
 show numP (49 :: 101 :: 57 :: 57 :: u) = _
 unfold numP
 have e1 : (chr (49 :: 101 :: 57 :: 57 :: u) 0 == 43 || chr (49 :: 101 :: 57 :: 57 :: u) 0 == 45) = false := rfl
 rw [e1]
 simp only [Bool.false_eq_true, if_false]
 rw [d1, d2]
 have e2 : (chr (101 :: 57 :: 57 :: u) 0 == 46 && dig (chr (101 :: 57 :: 57 :: u) 1)) = false := rfl
 rw [e2]
 simp only [Bool.false_eq_true, if_false]
 have e3 : (chr (101 :: 57 :: 57 :: u) 1 == 43 || chr (101 :: 57 :: 57 :: u) 1 == 45) = false := rfl
 rw [e3]
 simp only [Bool.false_eq_true, if_false]
 have e4 : ((chr (101 :: 57 :: 57 :: u) 0 == 101 || chr (101 :: 57 :: 57 :: u) 0 == 69) && dig (chr (101 :: 57 :: 57 :: u) 1)) = true := rfl
 rw [e4]
 simp only [if_true, List.drop_succ_cons, List.drop_zero, List.take_succ_cons, List.take_zero]
 have a' : (57 :: 57 :: u).dropWhile dig = u := a
 have b' : (57 :: 57 :: u).takeWhile dig = [57, 57] := b
 rw [a', b']
end Go.Lift.Spell
end

section
namespace Go.Lift.Spell
set_option linter.unusedVariables false
set_option linter.unusedSimpArgs false
open Utf Tok
theorem upM_val {x : Int} : ∀ (k : Nat) (m r : Int), upM x k m = some r → r = m * x ^ k
 | 0, m, r, h => by simp only [upM, Option.some.injEq] at h; simp [h]
 | k + 1, m, r, h => by
  simp only [upM] at h
  split at h
  ·cases h
  ·rw [upM_val k _ r h, Int.pow_succ, Int.mul_assoc, Int.mul_comm x]
theorem five_le {b : Nat} {k : Nat} (h : k ≤ b) : (5 : Int) ^ k ≤ 5 ^ b := by
 obtain ⟨j, rfl⟩ : ∃ j, b = k + j := ⟨b - k, by omega⟩
 rw [Int.pow_add]
 exact le_mulr (by have := pow_pos (x := 5) (by omega) k; omega) (pow_pos (by omega) j)
theorem progN_val {N d m : Int} {p : Nat} (h1 : 1 ≤ d) (h2 : d < 9223372036854775808) (h : progN N d = some (m, p)) :
  ∃ a b : Nat, d = 2 ^ a * 5 ^ b ∧ p = max a b ∧ m = N * 2 ^ (p - a) * 5 ^ (p - b) ∧ a ≤ 62 ∧ b ≤ 27 := by
 have hlow := Go.Lib.ctzFrom_spec 64 d.toNat (by omega) (by omega)
 have hctz : Go.Lib.ctz 64 d.toNat = Go.Lib.ctzFrom 64 d.toNat := by unfold Go.Lib.ctz; rw [if_neg (by omega)]
 rw [← hctz] at hlow
 unfold progN at h
 simp only at h
 generalize Go.Lib.ctz 64 d.toNat = a at *
 obtain ⟨q, hq, ha⟩ := hlow
 have hd : d = 2 ^ a * (2 * (q : Int) + 1) := by
  have : (d.toNat : Int) = ((2 ^ a * (2 * q + 1) : Nat) : Int) := by rw [hq]
  have e : (d.toNat : Int) = d := by omega
  rw [e] at this
  rw [this]; push_cast; rfl
 have pa := pow_pos (x := 2) (by omega) a
 have hdv : d / 2 ^ a = 2 * (q : Int) + 1 := by rw [hd]; exact Int.mul_ediv_cancel_left _ (by omega)
 rw [hdv] at h
 have hle : 2 * (q : Int) + 1 ≤ d := by rw [hd]; exact le_mull (by omega) (by omega)
 have h64 : (9223372036854775808 : Int) ≤ 5 ^ 64 := by decide
 obtain ⟨f1, f2, f3⟩ := fv_spec 64 (2 * (q : Int) + 1) (by omega) (by omega)
 generalize (fv 64 (2 * (q : Int) + 1)).1 = b at *
 generalize (fv 64 (2 * (q : Int) + 1)).2 = r at *
 split at h
 ·rename_i hr
  subst hr
  rw [Int.mul_one] at f1
  have hd2 : d = 2 ^ a * 5 ^ b := by rw [hd, f1]
  have pb := pow_pos (x := 5) (by omega) b
  have ha62 : a ≤ 62 := by
   rcases Nat.lt_or_ge 62 a with h3 | h3
   ·exfalso
    have := two_pow_le (show 63 ≤ a by omega)
    have h63 : (2 : Int) ^ 63 = 9223372036854775808 := by decide
    have : (2 : Int) ^ a ≤ 2 ^ a * 5 ^ b := le_mulr (by omega) pb
    omega
   ·exact h3
  have hb27 : b ≤ 27 := by
   rcases Nat.lt_or_ge 27 b with h3 | h3
   ·exfalso
    have := five_le (show 28 ≤ b by omega)
    have h28 : (5 : Int) ^ 28 = 37252902984619140625 := by decide
    have : (5 : Int) ^ b ≤ 2 ^ a * 5 ^ b := le_mull (by omega) pa
    omega
   ·exact h3
  cases hu : upM 2 (max a b - a) N with
  | none => rw [hu] at h; cases h
  | some s =>
   rw [hu, Option.bind_some] at h
   cases hv : upM 5 (max a b - b) s with
   | none => rw [hv] at h; cases h
   | some t =>
    rw [hv, Option.map_some, Option.some.injEq, Prod.mk.injEq] at h
    obtain ⟨rfl, rfl⟩ := h
    refine ⟨a, b, hd2, rfl, ?_, ha62, hb27⟩
    rw [upM_val _ _ _ hv, upM_val _ _ _ hu]
 ·cases h
theorem divN_val {y : Int} (hy : 0 < y) : ∀ (k j : Nat) (x : Int), j ≤ k → (j = k ∨ x % y ≠ 0) → divN y k (x * y ^ j) = (k - j, x)
 | 0, 0, x, _, _ => by simp [divN]
 | k + 1, 0, x, _, h => by
  rcases h with h | h
  ·omega
  ·rw [Int.pow_zero, Int.mul_one]
   simp only [divN]
   rw [if_neg h, Nat.sub_zero]
 | 0, j + 1, x, hj, _ => by omega
 | k + 1, j + 1, x, hj, h => by
  have e : x * y ^ (j + 1) = x * y ^ j * y := by rw [Int.pow_succ, Int.mul_assoc]
  simp only [divN]
  rw [e, if_pos (Int.mul_emod_left _ _), Int.mul_ediv_cancel _ (by omega), divN_val hy k j x (by omega) (by omega)]
  have e2 : k + 1 - (j + 1) = k - j := by omega
  rw [e2]
theorem mulN_val {y b : Int} (hy : 1 ≤ y) : ∀ (k : Nat) (d : Int), 0 ≤ d → (k = 0 ∨ d * y ^ (k - 1) ≤ b) → mulN y b k d = some (d * y ^ k)
 | 0, d, _, _ => by simp [mulN]
 | k + 1, d, h0, h => by
  have h : d * y ^ k ≤ b := by
   rcases h with h | h
   ·omega
   ·simpa using h
  have h1 : d ≤ d * y ^ k := le_mulr h0 (pow_pos (by omega) k)
  simp only [mulN]
  rw [if_neg (by omega), mulN_val hy k (d * y) (Int.mul_nonneg h0 (by omega)) ?_, Int.pow_succ, Int.mul_assoc, Int.mul_comm y]
  cases k with
  | zero => exact .inl rfl
  | succ k =>
   refine .inr ?_
   have e : d * y * y ^ k = d * y ^ (k + 1) := by rw [Int.pow_succ, Int.mul_assoc, Int.mul_comm y]
   simp only [Nat.add_sub_cancel]
   rw [e]
   exact h
theorem upN_val : ∀ (k : Nat) (n : Int), 0 ≤ n → (k = 0 ∨ n * 10 ^ (k - 1) ≤ 922337203685477580) → upN k n = some (n * 10 ^ k)
 | 0, n, _, _ => by simp [upN]
 | k + 1, n, h0, h => by
  have h : n * 10 ^ k ≤ 922337203685477580 := by
   rcases h with h | h
   ·omega
   ·simpa using h
  have h1 : n ≤ n * 10 ^ k := le_mulr h0 (pow_pos (by omega) k)
  simp only [upN]
  rw [if_neg (by omega), upN_val k (n * 10) (by omega) ?_, Int.pow_succ, Int.mul_assoc, Int.mul_comm 10]
  cases k with
  | zero => exact .inl rfl
  | succ k =>
   refine .inr ?_
   have e : n * 10 * 10 ^ k = n * 10 ^ (k + 1) := by rw [Int.pow_succ, Int.mul_assoc, Int.mul_comm 10]
   simp only [Nat.add_sub_cancel]
   rw [e]
   exact h
theorem odd_five {N : Int} (h : N % 2 ≠ 0) (j : Nat) : (N * 5 ^ j) % 2 ≠ 0 := by
 have h5 := pow5_mod j
 rw [Int.mul_emod, h5]
 omega
theorem two_five {N : Int} (h : N % 5 ≠ 0) (j : Nat) : (N * 2 ^ j) % 5 ≠ 0 := by
 have h2 := pow2_mod j
 rw [Int.mul_emod]
 have b1 := Int.emod_nonneg N (show (5 : Int) ≠ 0 by decide)
 have b2 := Int.emod_lt_of_pos N (show (0 : Int) < 5 by decide)
 have b3 := Int.emod_nonneg ((2 : Int) ^ j) (show (5 : Int) ≠ 0 by decide)
 have b4 := Int.emod_lt_of_pos ((2 : Int) ^ j) (show (0 : Int) < 5 by decide)
 generalize N % 5 = u at *
 generalize (2 : Int) ^ j % 5 = v at *
 have hu : u = 1 ∨ u = 2 ∨ u = 3 ∨ u = 4 := by omega
 have hv : v = 1 ∨ v = 2 ∨ v = 3 ∨ v = 4 := by omega
 rcases hu with rfl | rfl | rfl | rfl <;> rcases hv with rfl | rfl | rfl | rfl <;> decide
theorem scale_back {N d m a' : Int} {p z : Nat} (hN : 1 ≤ N) (hN2 : N ≤ 9223372036854775807) (h1 : 1 ≤ d) (h2 : d ≤ 9223372036854775807)
  (hg : ∀ x, (x = 2 ∨ x = 5) → d % x = 0 → N % x ≠ 0) (hp : progN N d = some (m, p)) (hm : m = a' * 10 ^ z) (ha : a' % 10 ≠ 0) (ha1 : 1 ≤ a') :
  scaleR a' ((z : Int) - p) = some (N, d) := by
 obtain ⟨a, b, hd, rfl, hv, ha62, hb27⟩ := progN_val h1 (by omega) hp
 have p10 : ∀ j : Nat, (0 : Int) < 10 ^ j := fun j => pow_pos (by omega) j
 by_cases h0 : max a b = 0
 ·have ea : a = 0 := by omega
  have eb : b = 0 := by omega
  subst ea eb
  simp only [Nat.max_self, Nat.sub_self, Int.pow_zero, Int.mul_one] at hv hd
  subst hd
  rw [hv] at hm
  have eu : upN z a' = some N := by
   rw [upN_val z a' (by omega) ?_, hm]
   cases z with
   | zero => exact .inl rfl
   | succ z =>
    refine .inr ?_
    rw [Int.pow_succ, ← Int.mul_assoc] at hm
    simp only [Nat.add_sub_cancel]
    omega
  unfold scaleR
  have e1 : ((z : Int) - ((max 0 0 : Nat) : Int)).toNat = z := by simp
  have e2 : (-((z : Int) - ((max 0 0 : Nat) : Int))).toNat = 0 := by simp
  rw [e1, e2, eu]
  simp only [divN, mulN]
  rw [if_neg (by omega)]
  rfl
 ·have pa := pow_pos (x := 2) (by omega) a
  have pb := pow_pos (x := 5) (by omega) b
  have hodd : 0 < a → N % 2 ≠ 0 := fun h => hg 2 (.inl rfl) (by
   obtain ⟨j, rfl⟩ : ∃ j, a = j + 1 := ⟨a - 1, by omega⟩
   rw [hd, Int.pow_succ, Int.mul_assoc, Int.mul_comm 2, ← Int.mul_assoc]
   omega)
  have hfive : 0 < b → N % 5 ≠ 0 := fun h => hg 5 (.inr rfl) (by
   obtain ⟨j, rfl⟩ : ∃ j, b = j + 1 := ⟨b - 1, by omega⟩
   rw [hd, Int.pow_succ, ← Int.mul_assoc]
   omega)
  have hm10 : m % 10 ≠ 0 := by
   rcases Nat.le_total a b with hab | hab
   ·have e : max a b = b := by omega
    rw [e, Nat.sub_self, Int.pow_zero, Int.mul_one] at hv
    have := two_five (hfive (by omega)) (b - a)
    rw [← hv] at this
    omega
   ·have e : max a b = a := by omega
    rw [e, Nat.sub_self, Int.pow_zero, Int.mul_one] at hv
    have := odd_five (hodd (by omega)) (a - b)
    rw [← hv] at this
    omega
  have hz : z = 0 := by
   cases z with
   | zero => rfl
   | succ z =>
    rw [Int.pow_succ, ← Int.mul_assoc] at hm
    omega
  subst hz
  rw [Int.pow_zero, Int.mul_one] at hm
  subst hm
  have hk : max a b - (max a b - a) = a := by omega
  have hk2 : max a b - (max a b - b) = b := by omega
  have ev : m = N * 5 ^ (max a b - b) * 2 ^ (max a b - a) := by rw [hv, Int.mul_assoc, Int.mul_comm (2 ^ _), ← Int.mul_assoc]
  have d2 : divN 2 (max a b) m = (a, N * 5 ^ (max a b - b)) := by
   have := divN_val (y := 2) (by omega) (max a b) (max a b - a) (N * 5 ^ (max a b - b)) (by omega) (by
    rcases Nat.eq_zero_or_pos a with h | h
    ·exact .inl (by omega)
    ·exact .inr (odd_five (hodd h) _))
   rw [← ev, hk] at this
   exact this
  have d5 : divN 5 (max a b) (N * 5 ^ (max a b - b)) = (b, N) := by
   have := divN_val (y := 5) (by omega) (max a b) (max a b - b) N (by omega) (by
    rcases Nat.eq_zero_or_pos b with h | h
    ·exact .inl (by omega)
    ·exact .inr (hfive h))
   rw [hk2] at this
   exact this
  have em : mulN 5 1844674407370955161 b (2 ^ a) = some d := by
   rw [mulN_val (by omega) b (2 ^ a) (by omega) ?_, hd]
   cases b with
   | zero => exact .inl rfl
   | succ b =>
    refine .inr ?_
    rw [Int.pow_succ, ← Int.mul_assoc] at hd
    simp only [Nat.add_sub_cancel]
    omega
  unfold scaleR
  have e1 : (((0 : Nat) : Int) - ((max a b : Nat) : Int)).toNat = 0 := by omega
  have e2 : (-(((0 : Nat) : Int) - ((max a b : Nat) : Int))).toNat = max a b := by omega
  rw [e1, e2]
  simp only [upN, d2, d5, em]
  rw [if_neg (by omega)]
  rfl
end Go.Lift.Spell
end
