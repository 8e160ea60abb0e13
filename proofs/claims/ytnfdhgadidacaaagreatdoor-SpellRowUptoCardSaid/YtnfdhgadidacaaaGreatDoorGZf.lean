/- What is computed, in plain Lean. -/
import Derived.Test.YtnfdhgadidacaaaGreatDoorGZe
section
namespace Go.Lift.Spell
set_option linter.unusedVariables false
set_option linter.unusedSimpArgs false
open Utf Tok
def tokQ (t : Tk) : List Int :=
 if t.kind = 1 then identQ t.text
 else if t.kind = 2 then identQ t.text ++ [40]
 else if t.kind = 3 then 64 :: identQ t.text
 else if t.kind = 4 then 35 :: (if t.id = true then identQ t.text else nameQ t.text)
 else if t.kind = 5 then 34 :: (textQ [34, 92] false t.text ++ [34])
 else if t.kind = 7 then 117 :: 114 :: 108 :: 40 :: (textQ [34, 39, 40, 41, 92] true t.text ++ [41])
 else if t.kind = 9 then (if t.text = [92] then [92, 10] else t.text)
 else if t.kind = 10 then (plainT t.num.1 t.num.2 t.whole).getD []
 else if t.kind = 11 then (plainT t.num.1 t.num.2 t.whole).getD [] ++ [37]
 else if t.kind = 12 then (plainT t.num.1 t.num.2 t.whole).getD [] ++ unitQ t.text
 else fixT t.kind
inductive MayQ : Tk → Prop
 | name {k : Int} {l : List Int} : (k = 1 ∨ k = 2 ∨ k = 3) → l ≠ [] → Snd l → MayQ (tk k l)
 | hash {l : List Int} {i : Bool} : l ≠ [] → Snd l → (i = true ∨ looseT l = true) → MayQ ⟨4, l, (0, 0), false, i⟩
 | text {k : Int} {l : List Int} : (k = 5 ∨ k = 7) → Snd l → MayQ (tk k l)
 | sign {c : Int} : signT [c] = true → MayQ (tk 9 [c])
 | num {k n d : Int} {w : Bool} {s : List Int} {nm : Nm} : (k = 10 ∨ k = 11) → plainT n d w = some s → Back n d w s nm → MayQ ⟨k, [], (n, d), w, false⟩
 | dim {n d : Int} {w : Bool} {l s : List Int} {nm : Nm} : l ≠ [] → Snd l → plainT n d w = some s → Back n d w s nm → MayQ ⟨12, l, (n, d), w, false⟩
 | fix {k : Int} : (k = 6 ∨ k = 8 ∨ k = 13 ∨ k = 14 ∨ k = 15 ∨ k = 16 ∨ k = 17 ∨ k = 18 ∨ k = 19 ∨ k = 20 ∨ k = 21 ∨ k = 22 ∨ k = 23 ∨ k = 24) → MayQ (tk k [])
def leftQ (k : Int) : Bool := k == 1 || k == 3 || k == 4 || k == 10 || k == 12 || k == 9
def rightQ (k : Int) : Bool := k == 1 || k == 2 || k == 7 || k == 8 || k == 10 || k == 11 || k == 12 || k == 15 || k == 21 || k == 9
def apartQ (ka kb : Int) : Bool := ka == 13 && kb == 13 || leftQ ka && rightQ kb
abbrev open' (t : Tk) : Prop := t.kind = 6 ∨ (t.kind = 9 ∧ t.text = [92])
def rest (t : Tk) (r : List Int) : List Int := if open' t then 10 :: r else if t.kind = 13 then blanks r else r
abbrev quoted (r : List Int) : Prop := (∃ t, r = 34 :: t) ∨ ∃ t, r = 32 :: 34 :: t
theorem sign_is {c : Int} (h : signT [c] = true) : c ∈ signs ∨ (1 ≤ c ∧ c ≤ 8) ∨ c = 11 ∨ (14 ≤ c ∧ c ≤ 31) ∨ c = 127 := by
 unfold signT at h
 simp only [Bool.or_eq_true, Bool.and_eq_true, decide_eq_true_eq, beq_iff_eq, List.contains_iff_mem] at h
 rcases h with h | ((h | h) | h) | h
 ·exact .inl h
 ·exact .inr (.inl h)
 ·exact .inr (.inr (.inl h))
 ·exact .inr (.inr (.inr (.inl h)))
 ·exact .inr (.inr (.inr (.inr h)))
theorem sign_facts {c : Int} (h : signT [c] = true) : blk c = false ∧ quo c = false ∧ plK c = 0 ∧ fst1 c = false ∧ dig c = false ∧ 1 ≤ c ∧ c < 128 ∧ c ≠ 12 ∧ c ≠ 13 ∧ c ≠ 10 := by
 rcases sign_is h with h | h
 ·unfold signs at h
  simp only [List.mem_cons, List.not_mem_nil, or_false] at h
  rcases h with rfl | rfl | rfl | rfl | rfl | rfl | rfl | rfl | rfl | rfl | rfl | rfl | rfl | rfl | rfl | rfl | rfl | rfl | rfl | rfl <;> decide
 ·have hc : 1 ≤ c ∧ (c ≤ 8 ∨ c = 11 ∨ (14 ≤ c ∧ c ≤ 31) ∨ c = 127) := by omega
  refine ⟨by unfold blk; simp; omega, by unfold quo; simp; omega, plK_zero (by omega), by unfold fst1; simp; omega, by unfold dig; simp; omega, by omega, by omega, by omega, by omega, by omega⟩
theorem read_tok {t : Tk} (h : MayQ t) {r : List Int} (hl : leftQ t.kind = true → ¬ open' t → ends r) (hu : t.kind = 2 → isUrl t.text = true → quoted r) : token (tokQ t ++ r) = (t, rest t r) := by
 cases h with
 | @name k l hk hn hs =>
  rcases hk with rfl | rfl | rfl
  ·have hr : ends r := hl rfl (by rintro (h | h) <;> simp [tk] at h)
   exact read_ident hs hn hr
  ·show token (identQ l ++ [40] ++ r) = (tk 2 l, r)
   rw [List.append_assoc, List.singleton_append]
   cases qu : isUrl l with
   | false => exact read_func hs hn qu
   | true => exact read_func_url hs hn qu (hu rfl qu)
  ·have hr : ends r := hl rfl (by rintro (h | h) <;> simp [tk] at h)
   exact read_at hs hn (ends_stops hr)
 | @hash l i hn hs hi =>
  have hr : ends r := hl rfl (by rintro (h | h) <;> simp at h)
  cases i with
  | true => exact read_hash hs hn (ends_stops hr)
  | false =>
   have hlo : looseT l = true := by
    rcases hi with h | h
    ·cases h
    ·exact h
   exact read_loose hs hlo hr
 | @text k l hk hs =>
  rcases hk with rfl | rfl
  ·show token (34 :: (textQ [34, 92] false l ++ [34]) ++ r) = (tk 5 l, r)
   rw [List.cons_append, List.append_assoc, List.singleton_append]
   exact read_text fun x hx => (hs x hx).1
  ·show token (117 :: 114 :: 108 :: 40 :: (textQ [34, 39, 40, 41, 92] true l ++ [41]) ++ r) = (tk 7 l, r)
   simp only [List.cons_append, List.append_assoc, List.nil_append]
   exact read_url hs
 | @sign c hc =>
  obtain ⟨f1, f2, f3, f4, f5, _⟩ := sign_facts hc
  by_cases h92 : c = 92
  ·subst h92
   exact read_back
  ·have hr : ends r := hl rfl (by rintro (h | h) <;> simp [tk, h92] at h)
   have e : tokQ (tk 9 [c]) = [c] := by
    show (if [c] = [92] then [92, 10] else [c]) = [c]
    rw [if_neg (by simp [h92])]
   have e2 : rest (tk 9 [c]) r = r := by
    unfold rest
    rw [if_neg (by rintro (h | h) <;> simp [tk, h92] at h), if_neg (by simp [tk])]
   rw [e, e2]
   exact read_sign f1 f2 f3 f4 f5 h92 hr
 | @num k n d w s nm hk hp hb =>
  rcases hk with rfl | rfl
  ·have hr : ends r := hl rfl (by rintro (h | h) <;> simp at h)
   show token ((plainT n d w).getD [] ++ r) = _
   rw [hp]
   exact read_number hb hr
  ·show token ((plainT n d w).getD [] ++ [37] ++ r) = _
   rw [hp, List.append_assoc]
   exact read_percent hb
 | @dim n d w l s nm hn hs hp hb =>
  have hr : ends r := hl rfl (by rintro (h | h) <;> simp at h)
  show token ((plainT n d w).getD [] ++ unitQ l ++ r) = _
  rw [hp, List.append_assoc]
  exact read_dim hb hs hn hr
 | @fix k hk =>
  rcases hk with rfl | rfl | rfl | rfl | rfl | rfl | rfl | rfl | rfl | rfl | rfl | rfl | rfl | rfl
  ·exact read_badtext
  ·exact read_badurl
  ·exact read_space
  ·exact read_cdo
  ·exact read_cdc
  all_goals exact read_plain rfl rfl (by decide)
def sepQ (ka kb : Int) : List Int := if apartQ ka kb = true then [47, 42, 42, 47] else []
def tailQ (k : Int) : List Tk → List Int
 | [] => []
 | t :: l => sepQ k t.kind ++ (tokQ t ++ tailQ t.kind l)
def toksQ : List Tk → List Int
 | [] => []
 | t :: l => tokQ t ++ tailQ t.kind l
structure Need (t : Tk) (l : List Tk) : Prop where
 line : open' t → ∃ m, l = tk 13 [] :: m
 url : t.kind = 2 → isUrl t.text = true → (∃ x m, l = x :: m ∧ (x.kind = 5 ∨ x.kind = 6)) ∨ ∃ x m, l = tk 13 [] :: x :: m ∧ (x.kind = 5 ∨ x.kind = 6)
def Chain : List Tk → Prop
 | [] => True
 | t :: l => Need t l ∧ Chain l
theorem tok_begin {t : Tk} (h : MayQ t) (r : List Int) : ∃ c s, tokQ t ++ r = c :: s ∧ (blk c = true → t.kind = 13) ∧ (c = 47 → t.kind = 9 ∧ s = r) ∧ (rightQ t.kind = false → ends (c :: s)) ∧ ((t.kind = 5 ∨ t.kind = 6) → c = 34) := by
 have of_beg : ∀ s : List Int, beg (chr s 0) (chr s 1) (chr s 2) = true → ∃ c u, s = c :: u ∧ blk c = false ∧ c ≠ 47 := by
  intro s hb
  obtain ⟨h1, _, _, _, _, _, _, h8⟩ := beg_not hb
  cases s with
  | nil => exact absurd rfl h8
  | cons c u =>
   rw [chr_c0] at h1 hb
   refine ⟨c, u, rfl, h1, ?_⟩
   rintro rfl
   exact absurd hb (by simp [beg, fst1, esc])
 cases h with
 | @name k l hk hn hs =>
  rcases hk with rfl | rfl | rfl
  ·obtain ⟨c, u, e, h1, h2⟩ := of_beg _ (ident_beg hs hn r).1
   exact ⟨c, u, e, fun h => (by rw [h1] at h; cases h), fun h => absurd h h2, fun h => (by cases h), fun h => by rcases h with h | h <;> cases h⟩
  ·obtain ⟨c, u, e, h1, h2⟩ := of_beg _ (ident_beg hs hn (40 :: r)).1
   refine ⟨c, u, ?_, fun h => (by rw [h1] at h; cases h), fun h => absurd h h2, fun h => (by cases h), fun h => by rcases h with h | h <;> cases h⟩
   show identQ l ++ [40] ++ r = _
   rw [List.append_assoc]
   exact e
  ·exact ⟨64, _, rfl, fun h => (by cases h), fun h => (by cases h), fun _ => ⟨rfl, (by simp only [chr_c0]; decide)⟩, fun h => by rcases h with h | h <;> cases h⟩
 | @hash l i hn hs hi => exact ⟨35, _, rfl, fun h => (by cases h), fun h => (by cases h), fun _ => ⟨rfl, (by simp only [chr_c0]; decide)⟩, fun h => by rcases h with h | h <;> cases h⟩
 | @text k l hk hs =>
  rcases hk with rfl | rfl
  ·exact ⟨34, _, rfl, fun h => (by cases h), fun h => (by cases h), fun _ => ⟨rfl, (by simp only [chr_c0]; decide)⟩, fun _ => rfl⟩
  ·exact ⟨117, _, rfl, fun h => (by cases h), fun h => (by cases h), fun h => (by cases h), fun h => by rcases h with h | h <;> cases h⟩
 | @sign c hc =>
  obtain ⟨f1, _⟩ := sign_facts hc
  by_cases h92 : c = 92
  ·subst h92
   exact ⟨92, _, rfl, fun h => (by cases h), fun h => (by cases h), fun h => (by cases h), fun h => by rcases h with h | h <;> cases h⟩
  ·have e : tokQ (tk 9 [c]) = [c] := by
    show (if [c] = [92] then [92, 10] else [c]) = [c]
    rw [if_neg (by simp [h92])]
   exact ⟨c, r, by rw [e]; rfl, fun h => (by rw [f1] at h; cases h), fun _ => ⟨rfl, rfl⟩, fun h => (by cases h), fun h => by rcases h with h | h <;> cases h⟩
 | @num k n d w s nm hk hp hb =>
  have key : ∃ c u, ∀ v, s ++ v = c :: (u ++ v) ∧ blk c = false ∧ c ≠ 47 := by
   rcases hb.start with ⟨c, u, rfl, hc⟩ | ⟨c, u, rfl, hc⟩
   ·have : 48 ≤ c ∧ c ≤ 57 := by simpa [dig] using hc
    exact ⟨c, u, fun v => ⟨rfl, by unfold blk; simp; omega, by omega⟩⟩
   ·exact ⟨45, c :: u, fun v => ⟨rfl, rfl, by decide⟩⟩
  obtain ⟨c, u, key⟩ := key
  rcases hk with rfl | rfl
  ·obtain ⟨e, h1, h2⟩ := key r
   refine ⟨c, u ++ r, ?_, fun h => (by rw [h1] at h; cases h), fun h => absurd h h2, fun h => (by cases h), fun h => by rcases h with h | h <;> cases h⟩
   show (plainT n d w).getD [] ++ r = _
   rw [hp]; exact e
  ·obtain ⟨e, h1, h2⟩ := key ([37] ++ r)
   refine ⟨c, u ++ ([37] ++ r), ?_, fun h => (by rw [h1] at h; cases h), fun h => absurd h h2, fun h => (by cases h), fun h => by rcases h with h | h <;> cases h⟩
   show (plainT n d w).getD [] ++ [37] ++ r = _
   rw [hp, List.append_assoc]; exact e
 | @dim n d w l s nm hn hs hp hb =>
  have key : ∃ c u, ∀ v, s ++ v = c :: (u ++ v) ∧ blk c = false ∧ c ≠ 47 := by
   rcases hb.start with ⟨c, u, rfl, hc⟩ | ⟨c, u, rfl, hc⟩
   ·have : 48 ≤ c ∧ c ≤ 57 := by simpa [dig] using hc
    exact ⟨c, u, fun v => ⟨rfl, by unfold blk; simp; omega, by omega⟩⟩
   ·exact ⟨45, c :: u, fun v => ⟨rfl, rfl, by decide⟩⟩
  obtain ⟨c, u, key⟩ := key
  obtain ⟨e, h1, h2⟩ := key (unitQ l ++ r)
  refine ⟨c, u ++ (unitQ l ++ r), ?_, fun h => (by rw [h1] at h; cases h), fun h => absurd h h2, fun h => (by cases h), fun h => by rcases h with h | h <;> cases h⟩
  show (plainT n d w).getD [] ++ unitQ l ++ r = _
  rw [hp, List.append_assoc]; exact e
 | @fix k hk =>
  rcases hk with rfl | rfl | rfl | rfl | rfl | rfl | rfl | rfl | rfl | rfl | rfl | rfl | rfl | rfl
  ·exact ⟨34, _, rfl, fun h => (by cases h), fun h => (by cases h), fun _ => ⟨rfl, (by simp only [chr_c0]; decide)⟩, fun _ => rfl⟩
  ·exact ⟨117, _, rfl, fun h => (by cases h), fun h => (by cases h), fun h => (by cases h), fun h => by rcases h with h | h <;> cases h⟩
  ·exact ⟨32, _, rfl, fun _ => rfl, fun h => (by cases h), fun _ => ⟨rfl, (by simp only [chr_c0]; decide)⟩, fun h => by rcases h with h | h <;> cases h⟩
  ·exact ⟨60, _, rfl, fun h => (by cases h), fun h => (by cases h), fun _ => ⟨rfl, (by simp only [chr_c0]; decide)⟩, fun h => by rcases h with h | h <;> cases h⟩
  ·exact ⟨45, _, rfl, fun h => (by cases h), fun h => (by cases h), fun h => (by cases h), fun h => by rcases h with h | h <;> cases h⟩
  ·exact ⟨58, _, rfl, fun h => (by cases h), fun h => (by cases h), fun _ => ⟨rfl, (by simp only [chr_c0]; decide)⟩, fun h => by rcases h with h | h <;> cases h⟩
  ·exact ⟨59, _, rfl, fun h => (by cases h), fun h => (by cases h), fun _ => ⟨rfl, (by simp only [chr_c0]; decide)⟩, fun h => by rcases h with h | h <;> cases h⟩
  ·exact ⟨44, _, rfl, fun h => (by cases h), fun h => (by cases h), fun _ => ⟨rfl, (by simp only [chr_c0]; decide)⟩, fun h => by rcases h with h | h <;> cases h⟩
  ·exact ⟨91, _, rfl, fun h => (by cases h), fun h => (by cases h), fun _ => ⟨rfl, (by simp only [chr_c0]; decide)⟩, fun h => by rcases h with h | h <;> cases h⟩
  ·exact ⟨93, _, rfl, fun h => (by cases h), fun h => (by cases h), fun _ => ⟨rfl, (by simp only [chr_c0]; decide)⟩, fun h => by rcases h with h | h <;> cases h⟩
  ·exact ⟨40, _, rfl, fun h => (by cases h), fun h => (by cases h), fun h => (by cases h), fun h => by rcases h with h | h <;> cases h⟩
  ·exact ⟨41, _, rfl, fun h => (by cases h), fun h => (by cases h), fun _ => ⟨rfl, (by simp only [chr_c0]; decide)⟩, fun h => by rcases h with h | h <;> cases h⟩
  ·exact ⟨123, _, rfl, fun h => (by cases h), fun h => (by cases h), fun _ => ⟨rfl, (by simp only [chr_c0]; decide)⟩, fun h => by rcases h with h | h <;> cases h⟩
  ·exact ⟨125, _, rfl, fun h => (by cases h), fun h => (by cases h), fun _ => ⟨rfl, (by simp only [chr_c0]; decide)⟩, fun h => by rcases h with h | h <;> cases h⟩
theorem ends_nil : ends [] := ⟨rfl, by decide⟩
theorem ends_sep (s : List Int) : ends ([47, 42, 42, 47] ++ s) := by
 refine ⟨rfl, ?_⟩
 rw [List.cons_append, chr_c0]
 decide
theorem tail_ends {k : Int} (hk : leftQ k = true) : ∀ l : List Tk, (∀ t ∈ l, MayQ t) → ends (tailQ k l)
 | [], _ => ends_nil
 | t :: l, h => by
  unfold tailQ sepQ
  cases ha : apartQ k t.kind with
  | true => rw [if_pos rfl]; exact ends_sep _
  | false =>
   rw [if_neg (by simp), List.nil_append]
   unfold apartQ at ha
   rw [Bool.or_eq_false_iff, hk, Bool.true_and] at ha
   obtain ⟨c, s, e, _, _, h3, _⟩ := tok_begin (h t (by simp)) (tailQ t.kind l)
   rw [e]
   exact h3 ha.2
theorem blanks_no {c : Int} {s : List Int} (h : blk c = false) : blanks (c :: s) = c :: s := by
 unfold blanks
 rw [List.dropWhile_cons_of_neg (by simp [h])]
theorem tail_blanks (l : List Tk) (h : ∀ t ∈ l, MayQ t) : blanks (tailQ 13 l) = tailQ 13 l := by
 cases l with
 | nil => rfl
 | cons t l =>
  unfold tailQ sepQ
  cases ha : apartQ 13 t.kind with
  | true => rw [if_pos rfl]; exact blanks_no rfl
  | false =>
   rw [if_neg (by simp), List.nil_append]
   obtain ⟨c, s, e, h1, _, _, _⟩ := tok_begin (h t (by simp)) (tailQ t.kind l)
   rw [e]
   refine blanks_no ?_
   cases qb : blk c with
   | false => rfl
   | true =>
    have := h1 qb
    rw [this] at ha
    cases ha
theorem rems_one {c : Int} {s : List Int} (h : c = 47 → chr s 0 ≠ 42) : rems (c :: s) = c :: s := by
 cases s with
 | nil => rfl
 | cons d s =>
  refine rems_no ?_
  rintro ⟨h1, h2⟩
  exact h h1 h2
theorem tok_rems {t : Tk} (h : MayQ t) {l : List Tk} (hl : ∀ t ∈ l, MayQ t) : rems (tokQ t ++ tailQ t.kind l) = tokQ t ++ tailQ t.kind l := by
 obtain ⟨c, s, e, _, h2, _, _⟩ := tok_begin h (tailQ t.kind l)
 rw [e]
 refine rems_one fun hc => ?_
 obtain ⟨h3, h4⟩ := h2 hc
 have he : ends (tailQ t.kind l) := by
  rw [h3]
  exact tail_ends rfl l hl
 rw [h4]
 exact he.2.2.2.2.2.2.2.2
theorem toks_tail {k : Int} (l : List Tk) : toks (tailQ k l) = toks (toksQ l) := by
 cases l with
 | nil => rfl
 | cons t l =>
  unfold tailQ sepQ toksQ
  split
  ·refine toks_rems ?_
   simp only [List.cons_append, List.nil_append]
   rw [rems_yes]
   have : skipR (42 :: 47 :: (tokQ t ++ tailQ t.kind l)) = tokQ t ++ tailQ t.kind l := by
    simp [skipR]
   rw [this]
  ·rfl
theorem written_read : ∀ l : List Tk, (∀ t ∈ l, MayQ t) → Chain l → toks (toksQ l) = l
 | [], _, _ => by rfl
 | t :: l, h, hc => by
  have hl : ∀ t ∈ l, MayQ t := fun x hx => h x (by simp [hx])
  have ht := h t (by simp)
  obtain ⟨hn, hc2⟩ := hc
  have ih := written_read l hl hc2
  have hr := tok_rems ht hl
  have hne : tokQ t ++ tailQ t.kind l ≠ [] := by
   obtain ⟨c, s, e, _⟩ := tok_begin ht (tailQ t.kind l)
   rw [e]; simp
  have hq : t.kind = 2 → isUrl t.text = true → quoted (tailQ t.kind l) := by
   intro h2 hu
   rw [h2]
   rcases hn.url h2 hu with ⟨x, m, rfl, hx⟩ | ⟨x, m, rfl, hx⟩
   ·obtain ⟨c, s, e, _, _, _, h34⟩ := tok_begin (hl x (by simp)) (tailQ x.kind m)
    have ha : apartQ 2 x.kind = false := by rcases hx with hx | hx <;> rw [hx] <;> rfl
    refine .inl ⟨s, ?_⟩
    unfold tailQ sepQ
    rw [ha, if_neg (by simp), List.nil_append, e, h34 hx]
   ·obtain ⟨c, s, e, _, _, _, h34⟩ := tok_begin (hl x (by simp)) (tailQ x.kind m)
    have ha : apartQ 13 x.kind = false := by rcases hx with hx | hx <;> rw [hx] <;> rfl
    refine .inr ⟨s, ?_⟩
    have e1 : tailQ 2 (tk 13 [] :: x :: m) = 32 :: tailQ 13 (x :: m) := rfl
    rw [e1]
    unfold tailQ sepQ
    rw [ha, if_neg (by simp), List.nil_append, e, h34 hx]
  have hread := read_tok ht (r := tailQ t.kind l) (fun hk _ => tail_ends hk l hl) hq
  rw [toksQ, toks_eq, hr, if_neg hne, hread]
  simp only
  congr 1
  unfold rest
  by_cases ho : open' t
  ·rw [if_pos ho]
   obtain ⟨m, rfl⟩ := hn.line ho
   have e : tailQ t.kind (tk 13 [] :: m) = 32 :: tailQ 13 m := by
    have ha : apartQ t.kind 13 = false := by rcases ho with h | ⟨h, _⟩ <;> rw [h] <;> rfl
    show sepQ t.kind 13 ++ ([32] ++ tailQ 13 m) = _
    unfold sepQ
    rw [ha, if_neg (by simp)]
    rfl
   rw [e]
   rw [← ih]
   show toks (10 :: 32 :: tailQ 13 m) = toks (32 :: tailQ 13 m)
   rw [toks_eq (10 :: 32 :: tailQ 13 m), toks_eq (32 :: tailQ 13 m)]
   have r1 : rems (10 :: 32 :: tailQ 13 m) = 10 :: 32 :: tailQ 13 m := rems_no (by rintro ⟨h, _⟩; cases h)
   have r2 : rems (32 :: tailQ 13 m) = 32 :: tailQ 13 m := rems_one (by intro h; cases h)
   rw [r1, r2, if_neg (by simp), if_neg (by simp), read_newline, read_space]
   have e3 : blanks (32 :: tailQ 13 m) = blanks (tailQ 13 m) := by
    unfold blanks
    rw [List.dropWhile_cons_of_pos rfl]
   rw [e3]
  ·rw [if_neg ho]
   by_cases h13 : t.kind = 13
   ·rw [if_pos h13, h13, tail_blanks l hl, toks_tail, ih]
   ·rw [if_neg h13, toks_tail, ih]
end Go.Lift.Spell
end

section
namespace Go.Lift.Spell
set_option linter.unusedVariables false
set_option linter.unusedSimpArgs false
open Utf Tok
theorem encs_app (a b : List Int) : encs (a ++ b) = encs a ++ encs b := by unfold encs; rw [List.flatMap_append]
theorem encs_asc : ∀ {a : List Int}, (∀ c ∈ a, 0 ≤ c ∧ c < 128) → encs a = a
 | [], _ => rfl
 | c :: a, h => by
  have hc := h c (by simp)
  have hs : scal c = c := scal_ok hc.1 (by omega) (by omega)
  rw [encs_cons, hs, enc_low hc.2, encs_asc fun x hx => h x (by simp [hx])]
  rfl
theorem rdN_asc (k : Nat) : ∀ r : Int, ∀ c ∈ rdN k r, 48 ≤ c ∧ c ≤ 102 := by
 induction k with
 | zero => intro r c hc; cases hc
 | succ k ih =>
  intro r c hc
  simp only [rdN] at hc
  split at hc
  ·cases hc
  ·rcases List.mem_cons.1 hc with rfl | hc
   ·exact hexD_by (by omega) (by omega)
   ·exact ih _ c hc
theorem code_mem {x c : Int} (h : c ∈ codeT x) : c = 92 ∨ c = 32 ∨ (48 ≤ c ∧ c ≤ 102) := by
 unfold codeT at h
 simp only [List.mem_cons, List.mem_append, List.mem_reverse, List.not_mem_nil, or_false] at h
 rcases h with h | h | h
 ·exact .inl h
 ·exact .inr (.inr (rdN_asc 8 x c h))
 ·exact .inr (.inl h)
theorem encs_code (x : Int) : encs (codeT x) = codeT x := encs_asc fun c hc => by have := code_mem hc; omega
theorem encs_one' (x : Int) : encs [x] = enc (scal x) := by rw [encs_cons]; show enc (scal x) ++ [] = _; rw [List.append_nil]
theorem encs_back (x : Int) : encs [92, x] = 92 :: enc (scal x) := by
 rw [encs_cons, encs_one']
 rfl
theorem encs_nameQ : ∀ l : List Int, encs (nameQ l) = nameT l
 | [] => rfl
 | x :: l => by
  rw [nameQ, encs_app, encs_nameQ l, nameT_cons]
  congr 1
  unfold nameQ1 nameC
  split
  ·exact encs_code x
  ·split
   ·exact encs_one' x
   ·exact encs_back x
theorem encs_45 (l : List Int) : encs (45 :: l) = 45 :: encs l := by rw [encs_cons]; rfl
theorem encs_identQ (l : List Int) : encs (identQ l) = identT l := by
 by_cases h45 : l = [45]
 ·subst h45
  exact encs_asc (by decide)
 ·match l, h45 with
  | [], _ => rfl
  | [x], h45 =>
   have e1 : identQ [x] = if dig x = true then codeT x ++ nameQ [] else nameQ [x] := by unfold identQ; rw [if_neg h45]
   have e2 : identT [x] = if dig x = true then codeT x ++ nameT [] else nameT [x] := by unfold identT; rw [if_neg h45]
   rw [e1, e2]
   split
   ·rw [encs_app, encs_code, encs_nameQ]
   ·exact encs_nameQ _
  | x :: y :: u, h45 =>
   have e1 : identQ (x :: y :: u) = if dig x = true then codeT x ++ nameQ (y :: u) else if x = 45 ∧ dig y = true then 45 :: (codeT y ++ nameQ u) else nameQ (x :: y :: u) := by unfold identQ; rw [if_neg h45]
   have e2 : identT (x :: y :: u) = if dig x = true then codeT x ++ nameT (y :: u) else if x = 45 ∧ dig y = true then 45 :: (codeT y ++ nameT u) else nameT (x :: y :: u) := by unfold identT; rw [if_neg h45]
   rw [e1, e2]
   split
   ·rw [encs_app, encs_code, encs_nameQ]
   ·split
    ·rw [encs_45, encs_app, encs_code, encs_nameQ]
    ·exact encs_nameQ _
theorem encs_unitQ (l : List Int) : encs (unitQ l) = unitT l := by
 cases l with
 | nil => rfl
 | cons x t =>
  show encs (if ((x == 101 || x == 69) && expT t) = true then codeT x ++ nameQ t else identQ (x :: t)) = if ((x == 101 || x == 69) && expT t) = true then codeT x ++ nameT t else identT (x :: t)
  split
  ·rw [encs_app, encs_code, encs_nameQ]
  ·exact encs_identQ _
theorem encs_textQ (sg : List Int) (sp : Bool) : ∀ l : List Int, encs (textQ sg sp l) = textT sg sp l
 | [] => rfl
 | x :: l => by
  rw [textQ, encs_app, encs_textQ sg sp l, textT]
  congr 1
  unfold textQ1 textC
  split
  ·exact encs_code x
  ·split
   ·exact encs_back x
   ·exact encs_one' x
theorem encs_fix (k : Int) : encs (fixT k) = fixT k := by
 rcases fix_cases k with (rfl | rfl | rfl | rfl | rfl | rfl | rfl | rfl | rfl | rfl | rfl | rfl | rfl | rfl) | h
 all_goals first
  | exact encs_asc (by decide)
  | (rw [h]; rfl)
theorem encs_lo {c : Int} {l : List Int} (h0 : 0 ≤ c) (h1 : c < 128) : encs (c :: l) = c :: encs l := by
 rw [encs_cons, scal_ok h0 (by omega) (by omega), enc_low h1]
 rfl
theorem fig_asc {c : Int} (h : fig c) : 45 ≤ c ∧ c ≤ 101 := by
 rcases h with h | h | h | h
 ·have : 48 ≤ c ∧ c ≤ 57 := by simpa [dig] using h
  omega
 all_goals omega
theorem snd_raw {l : List Int} (hs : Snd l) : raw (encs l) = l := charsOk fun x hx => (hs x hx).1
def txtB (t : Tk) : List Int := tokenT t.kind (encs t.text) t.num.1 t.num.2 t.whole t.id
theorem encs_tok {t : Tk} (h : MayQ t) : encs (tokQ t) = txtB t := by
 cases h with
 | @name k l hk hn hs =>
  rcases hk with rfl | rfl | rfl
  ·show encs (identQ l) = identT (raw (encs l))
   rw [encs_identQ, snd_raw hs]
  ·show encs (identQ l ++ [40]) = identT (raw (encs l)) ++ [40]
   rw [encs_app, encs_identQ, snd_raw hs]; rfl
  ·show encs (64 :: identQ l) = 64 :: identT (raw (encs l))
   rw [encs_lo (by omega) (by omega), encs_identQ, snd_raw hs]
 | @hash l i hn hs hi =>
  cases i with
  | true =>
   show encs (35 :: identQ l) = 35 :: identT (raw (encs l))
   rw [encs_lo (by omega) (by omega), encs_identQ, snd_raw hs]
  | false =>
   show encs (35 :: nameQ l) = 35 :: nameT (raw (encs l))
   rw [encs_lo (by omega) (by omega), encs_nameQ, snd_raw hs]
 | @text k l hk hs =>
  rcases hk with rfl | rfl
  ·show encs (34 :: (textQ [34, 92] false l ++ [34])) = 34 :: (textT [34, 92] false (raw (encs l)) ++ [34])
   rw [encs_lo (by omega) (by omega), encs_app, encs_textQ, snd_raw hs]; rfl
  ·show encs (117 :: 114 :: 108 :: 40 :: (textQ [34, 39, 40, 41, 92] true l ++ [41])) = 117 :: 114 :: 108 :: 40 :: (textT [34, 39, 40, 41, 92] true (raw (encs l)) ++ [41])
   rw [encs_lo (by omega) (by omega), encs_lo (by omega) (by omega), encs_lo (by omega) (by omega), encs_lo (by omega) (by omega), encs_app, encs_textQ, snd_raw hs]; rfl
 | @sign c hc =>
  obtain ⟨_, _, _, _, _, h1, h2, _⟩ := sign_facts hc
  have e1 : encs [c] = [c] := encs_asc fun x hx => by simp at hx; omega
  show encs (if [c] = [92] then [92, 10] else [c]) = if encs [c] = [92] then [92, 10] else encs [c]
  rw [e1]
  split
  ·rfl
  ·exact e1
 | @num k n d w s nm hk hp hb =>
  have es : encs s = s := encs_asc fun c hc => by have := fig_asc (hb.chars c hc); omega
  rcases hk with rfl | rfl
  ·show encs ((plainT n d w).getD []) = (plainT n d w).getD []
   rw [hp]; exact es
  ·show encs ((plainT n d w).getD [] ++ [37]) = (plainT n d w).getD [] ++ [37]
   rw [hp, encs_app]
   show encs s ++ _ = s ++ _
   rw [es]; rfl
 | @dim n d w l s nm hn hs hp hb =>
  have es : encs s = s := encs_asc fun c hc => by have := fig_asc (hb.chars c hc); omega
  show encs ((plainT n d w).getD [] ++ unitQ l) = (plainT n d w).getD [] ++ unitT (raw (encs l))
  rw [hp, encs_app, encs_unitQ, snd_raw hs]
  show encs s ++ _ = s ++ _
  rw [es]
 | @fix k hk =>
  rcases hk with rfl | rfl | rfl | rfl | rfl | rfl | rfl | rfl | rfl | rfl | rfl | rfl | rfl | rfl <;> first | exact encs_fix 6 | exact encs_fix 8 | exact encs_fix 13 | exact encs_fix 14 | exact encs_fix 15 | exact encs_fix 16 | exact encs_fix 17 | exact encs_fix 18 | exact encs_fix 19 | exact encs_fix 20 | exact encs_fix 21 | exact encs_fix 22 | exact encs_fix 23 | exact encs_fix 24
def tailB (k : Int) : List Tk → List Int
 | [] => []
 | t :: l => sepQ k t.kind ++ (txtB t ++ tailB t.kind l)
def toksB : List Tk → List Int
 | [] => []
 | t :: l => txtB t ++ tailB t.kind l
theorem encs_sep (a b : Int) : encs (sepQ a b) = sepQ a b := by
 unfold sepQ
 split
 ·exact encs_asc (by decide)
 ·rfl
theorem encs_tail : ∀ (l : List Tk) (k : Int), (∀ t ∈ l, MayQ t) → encs (tailQ k l) = tailB k l
 | [], _, _ => rfl
 | t :: l, k, h => by rw [tailQ, tailB, encs_app, encs_app, encs_sep, encs_tok (h t (by simp)), encs_tail l t.kind fun x hx => h x (by simp [hx])]
theorem encs_toks (l : List Tk) (h : ∀ t ∈ l, MayQ t) : encs (toksQ l) = toksB l := by
 cases l with
 | nil => rfl
 | cons t l => rw [toksQ, toksB, encs_app, encs_tok (h t (by simp)), encs_tail l t.kind fun x hx => h x (by simp [hx])]
abbrev firmC (x : Int) : Prop := fine x ∧ x ≠ 65279
theorem firm_asc {x : Int} (h0 : 1 ≤ x) (h1 : x < 128) (h2 : x ≠ 12) (h3 : x ≠ 13) : firmC x := ⟨⟨by omega, h2, h3, scal_ok (by omega) (by omega) (by omega)⟩, by omega⟩
theorem firm_code {x : Int} : ∀ c ∈ codeT x, firmC c := fun c hc => by
 have := code_mem hc
 exact firm_asc (by omega) (by omega) (by omega) (by omega)
theorem firm_raw {x : Int} (hs : scal x = x) (h0 : x ≠ 0) (hh : hidT x = false) : firmC x := by
 have : ¬ (1 ≤ x ∧ x ≤ 31 ∨ x = 127 ∨ x = 65279) := by
  unfold hidT at hh
  simp at hh
  omega
 exact ⟨⟨h0, by omega, by omega, hs⟩, by omega⟩
abbrev Firm (l : List Int) : Prop := ∀ c ∈ l, firmC c
theorem firm_app {a b : List Int} (ha : Firm a) (hb : Firm b) : Firm (a ++ b) := fun c hc => by
 rcases List.mem_append.1 hc with h | h
 ·exact ha c h
 ·exact hb c h
theorem firm_cons {x : Int} {b : List Int} (hx : firmC x) (hb : Firm b) : Firm (x :: b) := fun c hc => by
 rcases List.mem_cons.1 hc with rfl | h
 ·exact hx
 ·exact hb c h
theorem firm_nil : Firm [] := fun c hc => by cases hc
theorem firm_name : ∀ l : List Int, Snd l → Firm (nameQ l)
 | [], _ => firm_nil
 | x :: l, h => by
  obtain ⟨hs, h0⟩ := h x (by simp)
  refine firm_app ?_ (firm_name l fun y hy => h y (by simp [hy]))
  unfold nameQ1
  cases qh : hidT x with
  | true => rw [if_pos rfl]; exact firm_code
  | false =>
   rw [if_neg (by simp)]
   have hx := firm_raw hs h0 qh
   split
   ·exact firm_cons hx firm_nil
   ·exact firm_cons (firm_asc (by omega) (by omega) (by omega) (by omega)) (firm_cons hx firm_nil)
theorem firm_ident {l : List Int} (h : Snd l) : Firm (identQ l) := by
 by_cases h45 : l = [45]
 ·subst h45
  exact firm_cons (firm_asc (by omega) (by omega) (by omega) (by omega)) (firm_cons (firm_asc (by omega) (by omega) (by omega) (by omega)) firm_nil)
 ·match l, h45, h with
  | [], _, _ => exact firm_nil
  | [x], h45, h =>
   have e1 : identQ [x] = if dig x = true then codeT x ++ nameQ [] else nameQ [x] := by unfold identQ; rw [if_neg h45]
   rw [e1]
   split
   ·exact firm_app firm_code firm_nil
   ·exact firm_name _ h
  | x :: y :: u, h45, h =>
   have e1 : identQ (x :: y :: u) = if dig x = true then codeT x ++ nameQ (y :: u) else if x = 45 ∧ dig y = true then 45 :: (codeT y ++ nameQ u) else nameQ (x :: y :: u) := by unfold identQ; rw [if_neg h45]
   rw [e1]
   split
   ·exact firm_app firm_code (firm_name _ fun z hz => h z (by simp at hz ⊢; exact .inr hz))
   ·split
    ·exact firm_cons (firm_asc (by omega) (by omega) (by omega) (by omega)) (firm_app firm_code (firm_name u fun z hz => h z (by simp [hz])))
    ·exact firm_name _ h
theorem firm_unit {l : List Int} (h : Snd l) : Firm (unitQ l) := by
 unfold unitQ
 split
 ·exact firm_nil
 ·rename_i x t
  split
  ·exact firm_app firm_code (firm_name t fun y hy => h y (by simp [hy]))
  ·exact firm_ident h
theorem firm_text (sg : List Int) (sp : Bool) : ∀ l : List Int, Snd l → Firm (textQ sg sp l)
 | [], _ => firm_nil
 | x :: l, h => by
  obtain ⟨hs, h0⟩ := h x (by simp)
  refine firm_app ?_ (firm_text sg sp l fun y hy => h y (by simp [hy]))
  unfold textQ1
  cases qh : hidT x with
  | true => rw [Bool.true_or, if_pos rfl]; exact firm_code
  | false =>
   have hx := firm_raw hs h0 qh
   split
   ·exact firm_code
   ·split
    ·exact firm_cons (firm_asc (by omega) (by omega) (by omega) (by omega)) (firm_cons hx firm_nil)
    ·exact firm_cons hx firm_nil
theorem firm_all {l : List Int} (h : (l.all fun c => decide (1 ≤ c) && decide (c < 128) && c != 12 && c != 13) = true) : Firm l := fun c hc => by
 have := List.all_eq_true.1 h c hc
 simp at this
 exact firm_asc this.1.1.1 this.1.1.2 this.1.2 this.2
theorem firm_tok {t : Tk} (h : MayQ t) : Firm (tokQ t) := by
 cases h with
 | @name k l hk hn hs =>
  rcases hk with rfl | rfl | rfl
  ·exact firm_ident hs
  ·exact firm_app (firm_ident hs) (firm_all (by decide))
  ·exact firm_app (a := [64]) (firm_all (by decide)) (firm_ident hs)
 | @hash l i hn hs hi =>
  cases i with
  | true => exact firm_app (a := [35]) (firm_all (by decide)) (firm_ident hs)
  | false => exact firm_app (a := [35]) (firm_all (by decide)) (firm_name l hs)
 | @text k l hk hs =>
  rcases hk with rfl | rfl
  ·exact firm_app (a := [34]) (firm_all (by decide)) (firm_app (firm_text _ _ l hs) (firm_all (by decide)))
  ·exact firm_app (a := [117, 114, 108, 40]) (firm_all (by decide)) (firm_app (firm_text _ _ l hs) (firm_all (by decide)))
 | @sign c hc =>
  obtain ⟨_, _, _, _, _, h1, h2, h3, h4, _⟩ := sign_facts hc
  show Firm (if [c] = [92] then [92, 10] else [c])
  split
  ·exact firm_all (by decide)
  ·exact firm_cons (firm_asc h1 h2 h3 h4) firm_nil
 | @num k n d w s nm hk hp hb =>
  have es : Firm s := fun c hc => by have := fig_asc (hb.chars c hc); exact firm_asc (by omega) (by omega) (by omega) (by omega)
  rcases hk with rfl | rfl
  ·show Firm ((plainT n d w).getD [])
   rw [hp]; exact es
  ·show Firm ((plainT n d w).getD [] ++ [37])
   rw [hp]; exact firm_app es (firm_all (by decide))
 | @dim n d w l s nm hn hs hp hb =>
  have es : Firm s := fun c hc => by have := fig_asc (hb.chars c hc); exact firm_asc (by omega) (by omega) (by omega) (by omega)
  show Firm ((plainT n d w).getD [] ++ unitQ l)
  rw [hp]; exact firm_app es (firm_unit hs)
 | @fix k hk =>
  rcases hk with rfl | rfl | rfl | rfl | rfl | rfl | rfl | rfl | rfl | rfl | rfl | rfl | rfl | rfl <;> exact firm_all (by decide)
theorem firm_tail : ∀ (l : List Tk) (k : Int), (∀ t ∈ l, MayQ t) → Firm (tailQ k l)
 | [], _, _ => firm_nil
 | t :: l, k, h => by
  refine firm_app ?_ (firm_app (firm_tok (h t (by simp))) (firm_tail l t.kind fun x hx => h x (by simp [hx])))
  unfold sepQ
  split
  ·exact firm_all (by decide)
  ·exact firm_nil
theorem firm_toks (l : List Tk) (h : ∀ t ∈ l, MayQ t) : Firm (toksQ l) := by
 cases l with
 | nil => exact firm_nil
 | cons t l => exact firm_app (firm_tok (h t (by simp))) (firm_tail l t.kind fun x hx => h x (by simp [hx]))
theorem bytes_back (l : List Tk) (h : ∀ t ∈ l, MayQ t) (hc : Chain l) : toks ((decode (toksB l)).map scal) = l := by
 have hf := firm_toks l h
 have e : decode (toksB l) = toksQ l := by
  rw [← encs_toks l h]
  refine decode_again (fun x hx => (hf x hx).1) ?_
  intro h0
  exact (hf _ (List.mem_of_getElem? h0)).2 rfl
 rw [e, List.map_congr_left (fun x hx => (hf x hx).1.2.2.2), List.map_id', written_read l h hc]
end Go.Lift.Spell
end

section
namespace Go.Lift.Spell
set_option linter.unusedVariables false
set_option linter.unusedSimpArgs false
open Utf Tok
abbrev Fine (s : List Int) : Prop := ∀ x ∈ s, fine x
theorem fine_cons {c : Int} {t : List Int} (h : Fine (c :: t)) : fine c ∧ Fine t := ⟨h c (by simp), fun x hx => h x (by simp [hx])⟩
theorem hexN_mem : ∀ (k : Nat) (n : Int) (s : List Int), ∀ x ∈ (hexN k n s).2, x ∈ s
 | 0, n, s => fun x hx => hx
 | k + 1, n, [] => fun x hx => hx
 | k + 1, n, c :: t => by
  simp only [hexN]
  split
  ·exact fun x hx => hx
  ·exact fun x hx => List.mem_cons_of_mem _ (hexN_mem k _ t x hx)
theorem one1_mem (s : List Int) : ∀ x ∈ one1 s, x ∈ s := by
 cases s with
 | nil => exact fun x hx => hx
 | cons d u =>
  simp only [one1]
  split
  ·exact fun x hx => List.mem_cons_of_mem _ hx
  ·exact fun x hx => hx
theorem escd_fine {s : List Int} (h : Fine s) : (scal (escd s).1 = (escd s).1 ∧ (escd s).1 ≠ 0) ∧ Fine (escd s).2 := by
 cases s with
 | nil => exact ⟨⟨by decide, by decide⟩, fun x hx => by cases hx⟩
 | cons c t =>
  obtain ⟨hc, ht⟩ := fine_cons h
  simp only [escd]
  split
  ·exact ⟨⟨hc.2.2.2, hc.1⟩, ht⟩
  ·refine ⟨?_, fun x hx => h x (hexN_mem 6 0 (c :: t) x (one1_mem _ x hx))⟩
   split
   ·show scal 65533 = 65533 ∧ (65533 : Int) ≠ 0
    decide
   ·rename_i h0
    refine ⟨scal_scal _, ?_⟩
    show scal (hexN 6 0 (c :: t)).1 ≠ 0
    unfold scal
    split
    ·decide
    ·exact h0
theorem nameN_fine : ∀ (n : Nat) (s : List Int), Fine s → Snd (nameN n s).1 ∧ Fine (nameN n s).2
 | 0, s, h => ⟨fun x hx => (by cases hx), h⟩
 | n + 1, [], h => ⟨fun x hx => (by cases hx), h⟩
 | n + 1, c :: t, h => by
  obtain ⟨hc, ht⟩ := fine_cons h
  simp only [nameN]
  split
  ·obtain ⟨a, b⟩ := nameN_fine n t ht
   refine ⟨fun x hx => ?_, b⟩
   rcases List.mem_cons.1 hx with rfl | hx
   ·exact ⟨hc.2.2.2, hc.1⟩
   ·exact a x hx
  ·split
   ·obtain ⟨e1, e2⟩ := escd_fine ht
    obtain ⟨a, b⟩ := nameN_fine n (escd t).2 e2
    refine ⟨fun x hx => ?_, b⟩
    rcases List.mem_cons.1 hx with rfl | hx
    ·exact e1
    ·exact a x hx
   ·exact ⟨fun x hx => (by cases hx), h⟩
theorem name_fine {s : List Int} (h : Fine s) : Snd (Tok.name s).1 ∧ Fine (Tok.name s).2 := nameN_fine _ s h
theorem txtN_fine (sign : Int) : ∀ (n : Nat) (s : List Int), Fine s → Snd (txtN sign n s).2.1 ∧ Fine (txtN sign n s).2.2 ∧ ((txtN sign n s).1 = false → ∃ u, (txtN sign n s).2.2 = 10 :: u)
 | 0, s, h => ⟨fun x hx => (by cases hx), h, fun h => (by cases h)⟩
 | n + 1, [], h => ⟨fun x hx => (by cases hx), h, fun h => (by cases h)⟩
 | n + 1, c :: t, h => by
  obtain ⟨hc, ht⟩ := fine_cons h
  simp only [txtN]
  split
  ·rename_i h10
   exact ⟨fun x hx => (by cases hx), h, fun _ => ⟨t, by rw [h10]⟩⟩
  ·split
   ·exact ⟨fun x hx => (by cases hx), ht, fun h => (by cases h)⟩
   ·split
    ·cases t with
     | nil => exact ⟨fun x hx => (by cases hx), fun x hx => (by cases hx), fun h => (by cases h)⟩
     | cons d u =>
      simp only
      split
      ·exact txtN_fine sign n u (fine_cons ht).2
      ·obtain ⟨e1, e2⟩ := escd_fine ht
       obtain ⟨a, b, c⟩ := txtN_fine sign n (escd (d :: u)).2 e2
       refine ⟨fun x hx => ?_, b, c⟩
       rcases List.mem_cons.1 hx with rfl | hx
       ·exact e1
       ·exact a x hx
    ·obtain ⟨a, b, c⟩ := txtN_fine sign n t ht
     refine ⟨fun x hx => ?_, b, c⟩
     rcases List.mem_cons.1 hx with rfl | hx
     ·exact ⟨hc.2.2.2, hc.1⟩
     ·exact a x hx
theorem badN_fine : ∀ (n : Nat) (s : List Int), Fine s → Fine (badN n s)
 | 0, s, h => h
 | n + 1, [], h => h
 | n + 1, c :: t, h => by
  obtain ⟨hc, ht⟩ := fine_cons h
  simp only [badN]
  split
  ·exact ht
  ·split
   ·exact badN_fine n _ (escd_fine ht).2
   ·exact badN_fine n t ht
theorem blanks_fine {s : List Int} (h : Fine s) : Fine (blanks s) := fun x hx => h x ((List.dropWhile_sublist _).subset hx)
theorem drop_fine {s : List Int} (h : Fine s) (k : Nat) : Fine (s.drop k) := fun x hx => h x (List.mem_of_mem_drop hx)
theorem urlN_fine : ∀ (n : Nat) (s : List Int), Fine s → Snd (urlN n s).2.1 ∧ Fine (urlN n s).2.2
 | 0, s, h => ⟨fun x hx => (by cases hx), h⟩
 | n + 1, [], h => ⟨fun x hx => (by cases hx), h⟩
 | n + 1, c :: t, h => by
  obtain ⟨hc, ht⟩ := fine_cons h
  simp only [urlN]
  split
  ·exact ⟨fun x hx => (by cases hx), ht⟩
  ·split
   ·split
    ·exact ⟨fun x hx => (by cases hx), drop_fine (blanks_fine ht) 1⟩
    ·exact ⟨fun x hx => (by cases hx), badN_fine _ _ (blanks_fine ht)⟩
   ·split
    ·exact ⟨fun x hx => (by cases hx), badN_fine _ _ h⟩
    ·split
     ·split
      ·obtain ⟨e1, e2⟩ := escd_fine ht
       obtain ⟨a, b⟩ := urlN_fine n (escd t).2 e2
       refine ⟨fun x hx => ?_, b⟩
       rcases List.mem_cons.1 hx with rfl | hx
       ·exact e1
       ·exact a x hx
      ·exact ⟨fun x hx => (by cases hx), badN_fine _ _ h⟩
     ·obtain ⟨a, b⟩ := urlN_fine n t ht
      refine ⟨fun x hx => ?_, b⟩
      rcases List.mem_cons.1 hx with rfl | hx
      ·exact ⟨hc.2.2.2, hc.1⟩
      ·exact a x hx
theorem skip2N_fine : ∀ (n : Nat) (s : List Int), Fine s → Fine (skip2N n s)
 | 0, s, h => h
 | n + 1, s, h => by
  simp only [skip2N]
  split
  ·exact skip2N_fine n _ (drop_fine h 1)
  ·exact h
theorem skipR_fine : ∀ (s : List Int), Fine s → Fine (skipR s)
 | [], h => h
 | [_], h => fun x hx => by cases hx
 | c :: d :: t, h => by
  simp only [skipR]
  split
  ·exact (fine_cons (fine_cons h).2).2
  ·exact skipR_fine (d :: t) (fine_cons h).2
theorem remN_fine : ∀ (n : Nat) (s : List Int), Fine s → Fine (remN n s)
 | 0, s, h => h
 | n + 1, [], h => h
 | n + 1, [_], h => h
 | n + 1, c :: d :: t, h => by
  simp only [remN]
  split
  ·exact remN_fine n _ (skipR_fine t (fine_cons (fine_cons h).2).2)
  ·exact h
theorem read_bounds {nm : Nm} (ok : nm.Ok) : -9223372036854775808 ≤ nm.num.1.1 ∧ nm.num.1.1 ≤ 9223372036854775807 ∧ 0 ≤ nm.num.1.2 ∧ nm.num.1.2 ≤ 9223372036854775807 := by
 have h18 : (10 : Int) ^ 18 = 1000000000000000000 := by decide
 unfold Nm.num
 simp only
 have hdig : ∀ c ∈ nm.wr.digits, dig c = true := by
  intro c hc
  rcases List.mem_append.1 (show c ∈ nm.d1 ++ nm.fr from hc) with h | h
  ·exact List.all_eq_true.1 ok.d1 c h
  ·exact List.all_eq_true.1 ok.fr c h
 generalize nm.wr = wr at *
 unfold ratio
 simp only
 split
 ·simp
 ·rename_i hne
  split
  ·simp
  ·rename_i h18'
   have hsub : ∀ c ∈ wr.digits.dropWhile (· == 48), dig c = true := fun c hc => hdig c ((List.dropWhile_sublist _).subset hc)
   have hhead : ∀ c t, wr.digits.dropWhile (· == 48) = c :: t → c ≠ 48 := by
    intro c t e
    have : ∀ l : List Int, ∀ c t, l.dropWhile (· == 48) = c :: t → c ≠ 48 := by
     intro l
     induction l with
     | nil => intro c t h; cases h
     | cons x l ih =>
      intro c t h
      cases hx : (x == (48 : Int)) with
      | true => rw [List.dropWhile_cons_of_pos (p := (· == 48)) hx] at h; exact ih c t h
      | false =>
       rw [List.dropWhile_cons_of_neg (p := (· == 48)) (by simp [hx])] at h
       cases h
       simpa using hx
    exact this _ c t e
   generalize wr.digits.dropWhile (· == 48) = d at *
   obtain ⟨c, t, rfl⟩ : ∃ c t, d = c :: t := by
    cases d with
    | nil => exact absurd rfl hne
    | cons c t => exact ⟨c, t, rfl⟩
   obtain ⟨v0, v1⟩ := val_core hsub (hhead c t rfl) (by omega)
   generalize valN 0 (core (c :: t)) = M at *
   generalize wr.exp - wr.behind + (((c :: t).length : Int) - ((core (c :: t)).length : Int)) = e at *
   cases hs : scaleR M e with
   | none => simp [turn]
   | some nd =>
    obtain ⟨N, D⟩ := nd
    simp only [turn]
    have hb : 1 ≤ N ∧ N ≤ 9223372036854775807 ∧ 0 ≤ D ∧ D ≤ 9223372036854775807 := by
     rcases scaleR_val v0 v1 hs with ⟨rfl, hN, hN2, hN1⟩ | ⟨he, hN1, hNM, a, b, k, ha, hb, hD, hak, hbk, hM, o2, o5, hD2⟩
     ·omega
     ·have pa := pow_pos (x := 2) (by omega) a
      have pb := pow_pos (x := 5) (by omega) b
      have : 0 ≤ D := by rw [hD]; exact Int.mul_nonneg (by omega) (by omega)
      omega
    cases wr.below <;> simp <;> omega
theorem num_may {s : List Int} (h : (numP s).1.Ok) : ∃ t nm, plainT (numP s).1.num.1.1 (numP s).1.num.1.2 (numP s).1.num.2 = some t ∧ Back (numP s).1.num.1.1 (numP s).1.num.1.2 (numP s).1.num.2 t nm := by
 obtain ⟨t, ht⟩ := read_plainT h
 obtain ⟨b1, b2, b3, b4⟩ := read_bounds h
 obtain ⟨nm, hb⟩ := plain_read b1 b2 b4 ht
 exact ⟨t, nm, ht, hb⟩
theorem numP_fine {s : List Int} (h : Fine s) : Fine (numP s).2 := fun x hx => h x (by
 have := numP_text s
 rw [← this]
 exact List.mem_append_right _ hx)
end Go.Lift.Spell
end
