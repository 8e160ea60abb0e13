/- Numbers: the reference. -/
import Derived.Test.YtnfdhgadidacaaaDoorRd
import Derived.Test.YtnfdhgadidacaaaDoorLd
import Derived.Test.YtnfdhgadidacaaaDoorTa
section
/- Numbers, begun: strings by their bytes; the reference's digits. -/
open Go.Proofs
namespace Go.Lift.D3
open Utf Tok
set_option maxRecDepth 20000
set_option linter.unusedSimpArgs false
set_option linter.unusedVariables false

/-! ### Strings by their bytes -/
def bs (l : List Int) : ByteArray := ⟨(u8s l).toArray⟩
theorem bs_size (l : List Int) : (bs l).size = l.length := by simp [bs, ByteArray.size, u8s]
theorem bs_ext (l : List Int) (a b : Nat) : (bs l).extract a b = bs ((l.take b).drop a) := by
  apply ByteArray.ext
  simp only [bs, ByteArray.data_extract]
  apply Array.toList_inj.1
  rw [Array.toList_extract]
  simp only [List.extract, u8s, List.toList_toArray, List.map_drop, List.map_take]
  rw [List.take_drop]
  rcases Nat.le_total a b with h | h
  · rw [Nat.add_sub_cancel' h]
  · rw [List.drop_eq_nil_of_le (by simp; omega), List.drop_eq_nil_of_le (by simp; omega)]
theorem bs_app (a b : List Int) : bs a ++ bs b = bs (a ++ b) := by
  apply ByteArray.ext
  simp [bs, u8s]
theorem bs_ix {l : List Int} (hy : By l) (i : Nat) : ((bs l).data[i]?).map (fun c => V.v (.int .u8 c.toNat)) = (l[i]?).map fun c => V.v (.int .u8 c) := by
  simp only [bs, List.getElem?_toArray, u8s, List.getElem?_map]
  cases h : l[i]? with
  | none => rfl
  | some c =>
    have := hy c (List.mem_of_getElem? h)
    simp only [Option.map_some]
    congr 4
    show ((UInt8.ofNat c.toNat).toNat : Int) = c
    simp only [UInt8.toNat_ofNat']
    omega
theorem bs_list (l : List Int) : (bs l).toList = u8s l := by simp [bs, ByteArray.toList_eq]
theorem bs_nil : bs [] = ByteArray.empty := rfl
/-- is a text the empty one? -/
theorem bs_nil_eq (l : List Int) : ((bs l).toList == (ByteArray.empty).toList) = decide (l = []) := by
  rw [← bs_nil, bs_list, bs_list]
  cases l with
  | nil => rfl
  | cons c t => simp [u8s]
theorem By.take {l : List Int} (h : By l) (n : Nat) : By (l.take n) := fun c hc => h c (List.mem_of_mem_take hc)
theorem By.drop {l : List Int} (h : By l) (n : Nat) : By (l.drop n) := fun c hc => h c (List.mem_of_mem_drop hc)

/-! ### The reference: digits -/
section
variable {lo i : Nat} {l : List Int} {p q : List Ob}
end

/-! ### The reference: a text's digits, fractions -/
def ratC (x : Int × Int) : List V := [.v (.int .i64 x.1), .v (.int .i64 x.2)]
theorem drop_cons {t : List Int} {i : Nat} {c : Int} (h : t[i]? = some c) : t.drop i = c :: t.drop (i + 1) := by
  obtain ⟨hi, rfl⟩ := List.getElem?_eq_some_iff.1 h
  exact List.drop_eq_getElem_cons hi

end Go.Lift.D3
end

section
/- The reference's value of digits, first part: naughts, digits. -/
open Go.Proofs
namespace Go.Lift.D3
open Utf Tok
set_option maxRecDepth 20000
set_option maxHeartbeats 2000000
set_option linter.unusedSimpArgs false
set_option linter.unusedVariables false

theorem wrap_u64 {n : Int} (h0 : 0 ≤ n) (h1 : n ≤ 18446744073709551615) : IntKind.u64.wrap n = n := by
  unfold IntKind.wrap
  simp only [IntKind.bits, IntKind.signed]
  simp
  omega

theorem core_snoc (l : List Int) (c : Int) : core (l ++ [c]) = if c = 48 then core l else l ++ [c] := by
  unfold core
  rw [List.reverse_append]
  simp only [List.reverse_cons, List.reverse_nil, List.nil_append, List.cons_append, List.dropWhile_cons, beq_iff_eq]
  split <;> simp

/-! ### The reference's value -/
abbrev S154 (below : Bool) (ds : List Int) (e : Int) (h : Heap) (a b : Int) (ex : Env) : Env × Heap :=
  ((0, .v (.bool below)) :: (1, .v (.string (bs ds))) :: (2, .v (.int .i64 e)) :: (6, .ptr h.length 0) :: (7, .v (.int .i64 a)) :: (8, .v (.int .i64 b)) :: ex, h ++ [.cells (ratC (0, 0))])

abbrev C154 (below : Bool) (e : Int) (h : Heap) (n : Int) (rows : List (List V)) (len k : Int) (ex : Env) : Env × Heap :=
  ((0, .v (.bool below)) :: (2, .v (.int .i64 e)) :: (6, .ptr h.length 0) :: (9, .v (.int .u64 n)) :: (50, .list .no rows) :: (51, .v (.int .i64 len)) :: (52, .v (.int .i64 k)) :: ex, h ++ [.cells (ratC (0, 0))])

end Go.Lift.D3
end

section
/- The reference's value of digits, second part: powers of ten. -/
open Go.Proofs
namespace Go.Lift.D3
open Utf Tok
set_option maxRecDepth 20000
set_option maxHeartbeats 2000000
set_option linter.unusedSimpArgs false
set_option linter.unusedVariables false

abbrev U154 (below : Bool) (e : Int) (h : Heap) (n : Int) (ex : Env) : Env × Heap :=
  ((0, .v (.bool below)) :: (2, .v (.int .i64 e)) :: (6, .ptr h.length 0) :: (9, .v (.int .u64 n)) :: (12, .v (.int .u64 1)) :: ex, h ++ [.cells (ratC (0, 0))])
abbrev over154 (h : Heap) : Option (Ex × Env × Heap) := some (.ret, [(6, .ptr h.length 0)], h ++ [.cells (ratC (0, 0))])
abbrev D154 (below : Bool) (h : Heap) (n d a b : Int) (ex : Env) : Env × Heap :=
  ((0, .v (.bool below)) :: (6, .ptr h.length 0) :: (9, .v (.int .u64 n)) :: (12, .v (.int .u64 d)) :: (13, .v (.int .i64 a)) :: (14, .v (.int .i64 b)) :: ex, h ++ [.cells (ratC (0, 0))])

abbrev F154 (below : Bool) (h : Heap) (n d : Int) (ex : Env) : Env × Heap :=
  ((0, .v (.bool below)) :: (6, .ptr h.length 0) :: (9, .v (.int .u64 n)) :: (12, .v (.int .u64 d)) :: ex, h ++ [.cells (ratC (0, 0))])
/-- digits times a power of ten -/
def valR (below : Bool) (ds : List Int) (e : Int) : Int × Int :=
  let d := ds.dropWhile (· == 48)
  if d = [] then (0, 1) else
  if 18 < (core d).length then (0, 0) else
  turn below (scaleR (valN 0 (core d)) (e + (d.length - (core d).length)))
theorem drop_take (p : Int → Bool) : ∀ l : List Int, l.drop (l.takeWhile p).length = l.dropWhile p
  | [] => rfl
  | c :: t => by
    cases h : p c with
    | true => rw [List.takeWhile_cons_of_pos h, List.dropWhile_cons_of_pos h]; exact drop_take p t
    | false => rw [List.takeWhile_cons_of_neg (by simp [h]), List.dropWhile_cons_of_neg (by simp [h])]; rfl
theorem drop_head (p : Int → Bool) : ∀ l : List Int, ∀ c t, l.dropWhile p = c :: t → p c = false
  | [], c, t, h => by cases h
  | x :: l, c, t, h => by
    cases hx : p x with
    | true => rw [List.dropWhile_cons_of_pos hx] at h; exact drop_head p l c t h
    | false => rw [List.dropWhile_cons_of_neg (by simp [hx])] at h; cases h; exact hx
theorem core_all {l : List Int} (h : ∀ c ∈ l, dig c = true) : ∀ c ∈ core l, dig c = true := fun c hc => by
  unfold core at hc
  rw [List.mem_reverse] at hc
  exact h c (by simpa using (List.dropWhile_sublist _).subset hc)


/-! the pieces of its body -/
section
variable {lo : Nat} {below : Bool} {ds : List Int} {e : Int} {h : Heap}
theorem bytes_bs {l : List Int} (hy : By l) : byteRows (bs l) = ri .u8 l := by
  unfold byteRows bs u8s ri
  simp only [List.map_map]
  apply List.map_congr_left
  intro c hc
  have := hy c hc
  simp only [Function.comp]
  congr 4
  show ((UInt8.ofNat c.toNat).toNat : Int) = c
  simp only [UInt8.toNat_ofNat']
  omega
end
end Go.Lift.D3
end

section
/- The reference's value of digits, whole. -/
open Go.Proofs
namespace Go.Lift.D3
open Utf Tok
set_option maxRecDepth 20000
set_option maxHeartbeats 2000000
set_option linter.unusedSimpArgs false
set_option linter.unusedVariables false

theorem core_ne (c : Int) (t : List Int) (hc : c ≠ 48) : ∃ u, core (c :: t) = c :: u := by
  unfold core
  rw [List.reverse_cons]
  have : ∀ l : List Int, ∃ u, (l ++ [c]).dropWhile (· == 48) = u ++ [c] := by
    intro l
    induction l with
    | nil => exact ⟨[], by rw [List.nil_append, List.dropWhile_cons_of_neg (by simpa using hc)]⟩
    | cons x l ih =>
      rw [List.cons_append]
      cases hx : (x == (48 : Int)) with
      | true => rw [List.dropWhile_cons_of_pos (p := (· == 48)) hx]; exact ih
      | false => rw [List.dropWhile_cons_of_neg (p := (· == 48)) (by simp [hx])]; exact ⟨x :: l, rfl⟩
  obtain ⟨u, hu⟩ := this t.reverse
  rw [hu]
  exact ⟨u.reverse, by simp⟩
theorem core_val {c : Int} {t : List Int} (hd : ∀ x ∈ c :: t, dig x = true) (hc : c ≠ 48) (hl : (core (c :: t)).length ≤ 18) : 1 ≤ valN 0 (core (c :: t)) ∧ valN 0 (core (c :: t)) < 10 ^ 18 := by
  obtain ⟨u, hu⟩ := core_ne c t hc
  have hmem := core_all hd
  rw [hu] at hl hmem ⊢
  have h1 := hmem c (by simp)
  simp only [dig, Bool.and_eq_true, decide_eq_true_eq] at h1
  have h2 : valN 0 (c :: u) = valN (c - 48) u := by simp [valN]
  rw [h2]
  obtain ⟨a, b, d⟩ := valN_bound u (c - 48) 1 (fun x hx => hmem x (by simp [hx])) (by omega) (by omega)
  refine ⟨by omega, ?_⟩
  simp only [List.length_cons] at hl
  obtain ⟨j, hj⟩ : ∃ j, 18 = 1 + u.length + j := ⟨18 - (1 + u.length), by omega⟩
  have h3 : (10 : Int) ^ (1 + u.length) ≤ 10 ^ 18 := by
    rw [hj, Int.pow_add _ (1 + u.length) j]
    have h0 := one_pow_le (y := 10) (by omega) (1 + u.length)
    exact le_mulr (by omega) (one_pow_le (by omega) j)
  omega

theorem turn_none (below : Bool) : turn below none = (0, 0) := rfl
theorem upN_le : ∀ (k : Nat) (n m : Int), 1 ≤ n → n ≤ 9223372036854775807 → upN k n = some m → 1 ≤ m ∧ m ≤ 9223372036854775807
  | 0, n, m, h0, h1, h => by simp only [upN, Option.some.injEq] at h; omega
  | k + 1, n, m, h0, h1, h => by
    simp only [upN] at h
    split at h
    · cases h
    · exact upN_le k (n * 10) m (by omega) (by omega) h
theorem mulN_le : ∀ (k : Nat) (n m : Int), 1 ≤ n → n ≤ 9223372036854775807 → mulN 5 1844674407370955161 k n = some m → 1 ≤ m ∧ m ≤ 9223372036854775807
  | 0, n, m, h0, h1, h => by simp only [mulN, Option.some.injEq] at h; omega
  | k + 1, n, m, h0, h1, h => by
    simp only [mulN] at h
    split at h
    · cases h
    · exact mulN_le k (n * 5) m (by omega) (by omega) h

theorem fin154 {h : Heap} {x : Int × Int} : fin Tryd.prog [.cell 6 26] h.length (some (.ret, [(6, .ptr h.length 0)], h ++ [.cells (ratC x)])) = some (.agg (ratC x), h) := by
  simp only [go_sem, ratC]
  all_goals rfl

end Go.Lift.D3
end

section
/- The reference's Decimal. -/
open Go.Proofs
namespace Go.Lift.D3
open Utf Tok
set_option maxRecDepth 20000
set_option maxHeartbeats 4000000
set_option linter.unusedSimpArgs false
set_option linter.unusedVariables false

theorem expN_in : ∀ (l : List Int) (e : Int), (∀ c ∈ l, dig c = true) → 0 ≤ e → e ≤ 1099511627776 → 0 ≤ expN e l ∧ expN e l ≤ 1099511627776
  | [], e, _, h0, h1 => ⟨h0, h1⟩
  | c :: t, e, hl, h0, h1 => by
    have hc := hl c (by simp)
    simp only [dig, Bool.and_eq_true, decide_eq_true_eq] at hc
    simp only [expN]
    exact expN_in t _ (fun x hx => hl x (by simp [hx])) (by split <;> omega) (by split <;> omega)

theorem tw_all : ∀ {l : List Int}, (∀ c ∈ l, dig c = true) → l.takeWhile dig = l
  | [], _ => rfl
  | c :: t, h => by rw [List.takeWhile_cons_of_pos (h c (by simp)), tw_all fun x hx => h x (by simp [hx])]
section
variable {lo : Nat} {t : List Int} {h : Heap} {neg : Bool}
abbrev P120 (t : List Int) (h : Heap) (i : Int) (neg : Bool) (j : Int) (ds : List Int) (fr : Int) (whole : Bool) (e : Int) (down : Bool) (ex : Env) : Env × Heap :=
  ((0, .v (.string (bs t))) :: (2, .ptr h.length 0) :: (5, .v (.int .i64 i)) :: (6, .v (.bool neg)) :: (7, .v (.int .i64 j)) :: (8, .v (.string (bs ds))) :: (9, .v (.int .i64 fr)) :: (10, .v (.bool whole)) :: (11, .v (.int .i64 e)) :: (12, .v (.bool down)) :: ex, h ++ [.cells (ratC (0, 0))])
end
end Go.Lift.D3
end

section
/- A number's text, place by place; the reference's Decimal, whole. -/
open Go.Proofs
namespace Go.Lift.D3
open Utf Tok
set_option maxRecDepth 20000
set_option maxHeartbeats 4000000
set_option linter.unusedSimpArgs false
set_option linter.unusedVariables false

theorem tw_app {r : List Int} (hr : ∀ c u, r = c :: u → dig c = false) : ∀ {l : List Int}, (∀ c ∈ l, dig c = true) → (l ++ r).takeWhile dig = l
  | [], _ => by
    cases r with
    | nil => rfl
    | cons c u => rw [List.nil_append, List.takeWhile_cons_of_neg (by simp [hr c u rfl])]
  | c :: t, h => by rw [List.cons_append, List.takeWhile_cons_of_pos (h c (by simp)), tw_app hr fun x hx => h x (by simp [hx])]
theorem all_dig {l : List Int} (h : l.all dig = true) : ∀ c ∈ l, dig c = true := fun c hc => List.all_eq_true.1 h c hc

/-- the point and what is behind it; the exponent -/
def nmF (n : Nm) : List Int := if n.fr = [] then [] else 46 :: n.fr
def nmR (n : Nm) : List Int := n.ex ++ n.d3
theorem nm_text (n : Nm) : n.text = n.sg ++ (n.d1 ++ (nmF n ++ nmR n)) := by simp [Nm.text, nmF, nmR]
theorem nmR_head {n : Nm} (ok : n.Ok) : ∀ c u, nmR n = c :: u → dig c = false ∧ (c = 101 ∨ c = 69) := by
  intro c u h
  unfold nmR at h
  rcases ok.ex with ⟨h1, h2⟩ | ⟨⟨e, he, h1 | h1 | h1⟩, h2⟩
  · rw [h1, h2] at h; cases h
  all_goals
    rw [h1] at h
    cases h
    rcases he with rfl | rfl
    · exact ⟨rfl, .inl rfl⟩
    · exact ⟨rfl, .inr rfl⟩
theorem nmF_head {n : Nm} (ok : n.Ok) : ∀ c u, nmF n ++ nmR n = c :: u → dig c = false := by
  intro c u h
  unfold nmF at h
  split at h
  · exact (nmR_head ok c u h).1
  · cases h; rfl
theorem nm_by {n : Nm} (ok : n.Ok) : By n.text := by
  have dg : ∀ {l : List Int}, l.all dig = true → ∀ c ∈ l, 0 ≤ c ∧ c ≤ 255 := fun h c hc => by
    have := all_dig h c hc
    simp only [dig, Bool.and_eq_true, decide_eq_true_eq] at this
    omega
  intro c hc
  rw [nm_text, List.mem_append, List.mem_append, List.mem_append] at hc
  rcases hc with hc | hc | hc | hc
  · rcases ok.sg with h | h | h <;> rw [h] at hc <;> simp at hc <;> subst hc <;> decide
  · exact dg ok.d1 c hc
  · unfold nmF at hc
    split at hc
    · cases hc
    · rcases List.mem_cons.1 hc with rfl | hc
      · decide
      · exact dg ok.fr c hc
  · unfold nmR at hc
    rcases List.mem_append.1 hc with hc | hc
    · rcases ok.ex with ⟨h1, h2⟩ | ⟨⟨e, he, h1 | h1 | h1⟩, h2⟩
      · rw [h1] at hc; cases hc
      all_goals
        rw [h1] at hc
        simp at hc
        omega
    · exact dg ok.d3 c hc
theorem ratio_val (w : Wr) : ratio w = valR w.below w.digits (w.exp - w.behind) := rfl

theorem fin120 {h : Heap} {x : Int × Int} {whole : Bool} : fin Tryd.prog [.cell 2 26, .tmp 3, .tmp 4] h.length (some (.ret, [(2, .ptr h.length 0), (3, .v (.bool whole)), (4, .v (.int .i64 0))], h ++ [.cells (ratC x)])) = some (.tup [.agg (ratC x), .v (.bool whole), .v (.int .i64 0)], h) := by
  simp only [go_sem, ratC]
  all_goals rfl

end Go.Lift.D3
end

section
/- The reference's figure: a number, and what it is of. -/
open Go.Proofs
namespace Go.Lift.D3
open Utf Tok
set_option maxRecDepth 20000
set_option maxHeartbeats 4000000
set_option linter.unusedSimpArgs false
set_option linter.unusedVariables false

/-! ### Plain characters -/
def Asc (l : List Int) : Prop := ∀ c ∈ l, 0 ≤ c ∧ c < 128
theorem scal_asc {c : Int} (h : 0 ≤ c ∧ c < 128) : scal c = c := by
  unfold scal
  rw [if_neg]
  simp
  omega
theorem scal_asc_inv {x c : Int} (h : scal x = c) (hc : c < 128) : x = c := by
  unfold scal at h
  split at h
  · omega
  · exact h
theorem encs_asc : ∀ {l : List Int}, Asc l → encs l = l
  | [], _ => rfl
  | c :: t, h => by
    have hc := h c (by simp)
    have e : encs (c :: t) = enc (scal c) ++ encs t := rfl
    rw [e, encs_asc fun x hx => h x (by simp [hx]), scal_asc hc]
    unfold enc
    simp [hc.2]
theorem raw_asc : ∀ {l t : List Int}, l.map scal = t → Asc t → l = t
  | [], t, h, _ => by simpa using h
  | x :: l, [], h, _ => by simp at h
  | x :: l, c :: t, h, ha => by
    simp only [List.map_cons, List.cons.injEq] at h
    rw [scal_asc_inv h.1 (ha c (by simp)).2, raw_asc h.2 fun y hy => ha y (by simp [hy])]
theorem nm_asc {n : Nm} (ok : n.Ok) : Asc n.text := by
  have dg : ∀ {l : List Int}, l.all dig = true → ∀ c ∈ l, 0 ≤ c ∧ c < 128 := fun h c hc => by
    have := all_dig h c hc
    simp only [dig, Bool.and_eq_true, decide_eq_true_eq] at this
    omega
  intro c hc
  rw [nm_text, List.mem_append, List.mem_append, List.mem_append] at hc
  rcases hc with hc | hc | hc | hc
  · rcases ok.sg with h | h | h <;> rw [h] at hc <;> simp at hc <;> subst hc <;> decide
  · exact dg ok.d1 c hc
  · unfold nmF at hc
    split at hc
    · cases hc
    · rcases List.mem_cons.1 hc with rfl | hc
      · decide
      · exact dg ok.fr c hc
  · unfold nmR at hc
    rcases List.mem_append.1 hc with hc | hc
    · rcases ok.ex with ⟨h1, h2⟩ | ⟨⟨e, he, h1 | h1 | h1⟩, h2⟩
      · rw [h1] at hc; cases hc
      all_goals
        rw [h1] at hc
        simp at hc
        omega
    · exact dg ok.d3 c hc
/-- the characters between two places -/
theorem between {l t : List Int} {i j : Nat} (hij : i ≤ j) (hj : j ≤ l.length) (hs : suf l i = t ++ suf l j) (ha : Asc t) : (l.take j).drop i = t := by
  have hlen := congrArg List.length hs
  rw [List.length_append, suf_len, suf_len] at hlen
  refine raw_asc ?_ ha
  rw [List.map_drop, List.map_take]
  have h1 : ((l.map scal).take j).drop i = (suf l i).take (j - i) := by
    unfold suf
    rw [List.drop_take]
  rw [h1, hs]
  have h2 : j - i = t.length := by omega
  rw [h2, List.take_left]
theorem ri_cut (k : IntKind) (l : List Int) (a b : Nat) : ((ri k l).take b).drop a = ri k ((l.take b).drop a) := by simp [ri, List.map_drop, List.map_take]

/-- a token's cells -/
def tkC (t : Tk) : List V := [.v (.int .i64 t.kind), .v (.string (str t.text)), .v (.int .i64 t.num.1), .v (.int .i64 t.num.2), .v (.bool t.whole), .v (.bool t.id)]
theorem tkC_tk (k : Int) (t : List Int) : tokC k t = tkC (tk k t) := rfl

section
variable {lo i j : Nat} {l : List Int} {p q : List Ob}
abbrev H80 (p q : List Ob) (l : List Int) (j : Nat) (more : List Ob) : Heap := p ++ R l j :: (q ++ (.cells (tokC 0 []) :: more))
abbrev P80 (p q : List Ob) (l : List Int) (i j : Nat) (ex : Env) : Env × Heap :=
  ((0, .ptr p.length 0) :: (2, .ptr (p.length + (q.length + 1)) 0) :: (3, .v (.int .i64 i)) :: ex, H80 p q l j [])

end
end Go.Lift.D3
end

section
/- The reference's figure, whole. -/
open Go.Proofs
namespace Go.Lift.D3
open Utf Tok
set_option maxRecDepth 20000
set_option maxHeartbeats 4000000
set_option linter.unusedSimpArgs false
set_option linter.unusedVariables false

section
variable {lo i j : Nat} {l : List Int} {p q : List Ob}
theorem str_asc {t : List Int} (h : Asc t) : str t = bs t := by unfold str bs; rw [encs_asc h]
theorem fin80 {t : Tk} {h r r2 : List Ob} {o : Ob} : fin Tryd.prog [.cell 2 28] (p.length + (q.length + 1)) (some (.ret, [(2, .ptr (p.length + (q.length + 1)) 0)], p ++ o :: (q ++ .cells (tkC t) :: r))) = some (.agg (tkC t), p ++ o :: q) := by
  simp only [go_sem, tkC]
  all_goals rfl

end
end Go.Lift.D3
end
