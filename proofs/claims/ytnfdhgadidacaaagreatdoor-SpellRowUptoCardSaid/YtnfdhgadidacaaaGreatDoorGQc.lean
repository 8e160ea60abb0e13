/- The program and the reference, evaluated. -/
import Derived.Test.YtnfdhgadidacaaaGreatDoorGLc
import Derived.Test.YtnfdhgadidacaaaGreatDoorGZb
import Derived.Test.YtnfdhgadidacaaaGreatDoorGQb
section
open Go.Proofs
namespace Go.Lift.R4.T
set_option linter.unusedSectionVars false
variable [MX]
open Utf Tok
set_option maxRecDepth 20000
set_option linter.unusedSimpArgs false
set_option linter.unusedVariables false
def bs (l : List Int) : ByteArray := ⟨(u8s l).toArray⟩
theorem bs_size (l : List Int) : (bs l).size = l.length := by simp [bs, ByteArray.size, u8s]
theorem bs_ext (l : List Int) (a b : Nat) : (bs l).extract a b = bs ((l.take b).drop a) := by
 apply ByteArray.ext
 simp only [bs, ByteArray.data_extract]
 apply Array.toList_inj.1
 rw [Array.toList_extract]
 simp only [List.extract, u8s, List.toList_toArray, List.map_drop, List.map_take]
 rw [List.take_drop]
 rcases Nat.le_total a b with h | h
 ·rw [Nat.add_sub_cancel' h]
 ·rw [List.drop_eq_nil_of_le (by simp; omega), List.drop_eq_nil_of_le (by simp; omega)]
theorem bs_app (a b : List Int) : bs a ++ bs b = bs (a ++ b) := by
 apply ByteArray.ext
 simp [bs, u8s]
theorem bs_ix {l : List Int} (hy : By l) (i : Nat) : ((bs l).data[i]?).map (fun c => V.v (.int .u8 c.toNat)) = (l[i]?).map fun c => V.v (.int .u8 c) := by
 simp only [bs, List.getElem?_toArray, u8s, List.getElem?_map]
 cases h : l[i]? with
 | none => rfl
 | some c =>
  have := hy c (List.mem_of_getElem? h)
  simp only [Option.map_some]
  congr 4
  show ((UInt8.ofNat c.toNat).toNat : Int) = c
  simp only [UInt8.toNat_ofNat']
  omega
theorem bs_list (l : List Int) : (bs l).toList = u8s l := by simp [bs, ByteArray.toList_eq]
theorem bs_nil : bs [] = ByteArray.empty := rfl
theorem bs_nil_eq (l : List Int) : ((bs l).toList == (ByteArray.empty).toList) = decide (l = []) := by
 rw [← bs_nil, bs_list, bs_list]
 cases l with
 | nil => rfl
 | cons c t => simp [u8s]
theorem By.take {l : List Int} (h : By l) (n : Nat) : By (l.take n) := fun c hc => h c (List.mem_of_mem_take hc)
theorem By.drop {l : List Int} (h : By l) (n : Nat) : By (l.drop n) := fun c hc => h c (List.mem_of_mem_drop hc)
section
variable {lo i : Nat} {l : List Int} {p q : List Ob}
end
def ratC (x : Int × Int) : List V := [.v (.int .i64 x.1), .v (.int .i64 x.2)]
theorem drop_cons {t : List Int} {i : Nat} {c : Int} (h : t[i]? = some c) : t.drop i = c :: t.drop (i + 1) := by
 obtain ⟨hi, rfl⟩ := List.getElem?_eq_some_iff.1 h
 exact List.drop_eq_getElem_cons hi
end Go.Lift.R4.T
end

section
open Go.Proofs
namespace Go.Lift.R4.T
set_option linter.unusedSectionVars false
variable [MX]
open Utf Tok
set_option maxRecDepth 20000
set_option maxHeartbeats 2000000
set_option linter.unusedSimpArgs false
set_option linter.unusedVariables false
theorem wrap_u64 {n : Int} (h0 : 0 ≤ n) (h1 : n ≤ 18446744073709551615) : IntKind.u64.wrap n = n := by
 unfold IntKind.wrap
 simp only [IntKind.bits, IntKind.signed]
 simp
 omega
theorem core_snoc (l : List Int) (c : Int) : core (l ++ [c]) = if c = 48 then core l else l ++ [c] := by
 unfold core
 rw [List.reverse_append]
 simp only [List.reverse_cons, List.reverse_nil, List.nil_append, List.cons_append, List.dropWhile_cons, beq_iff_eq]
 split <;> simp
end Go.Lift.R4.T
end

section
open Go.Proofs
namespace Go.Lift.R4.T
set_option linter.unusedSectionVars false
variable [MX]
open Utf Tok
set_option maxRecDepth 20000
set_option maxHeartbeats 2000000
set_option linter.unusedSimpArgs false
set_option linter.unusedVariables false
theorem drop_take (p : Int → Bool) : ∀ l : List Int, l.drop (l.takeWhile p).length = l.dropWhile p
 | [] => rfl
 | c :: t => by
  cases h : p c with
  | true => rw [List.takeWhile_cons_of_pos h, List.dropWhile_cons_of_pos h]; exact drop_take p t
  | false => rw [List.takeWhile_cons_of_neg (by simp [h]), List.dropWhile_cons_of_neg (by simp [h])]; rfl
theorem drop_head (p : Int → Bool) : ∀ l : List Int, ∀ c t, l.dropWhile p = c :: t → p c = false
 | [], c, t, h => by cases h
 | x :: l, c, t, h => by
  cases hx : p x with
  | true => rw [List.dropWhile_cons_of_pos hx] at h; exact drop_head p l c t h
  | false => rw [List.dropWhile_cons_of_neg (by simp [hx])] at h; cases h; exact hx
theorem core_all {l : List Int} (h : ∀ c ∈ l, dig c = true) : ∀ c ∈ core l, dig c = true := fun c hc => by
 unfold core at hc
 rw [List.mem_reverse] at hc
 exact h c (by simpa using (List.dropWhile_sublist _).subset hc)
section
variable {lo : Nat} {below : Bool} {ds : List Int} {e : Int} {h : Heap}
theorem bytes_bs {l : List Int} (hy : By l) : byteRows (bs l) = ri .u8 l := by
 unfold byteRows bs u8s ri
 simp only [List.map_map]
 apply List.map_congr_left
 intro c hc
 have := hy c hc
 simp only [Function.comp]
 congr 4
 show ((UInt8.ofNat c.toNat).toNat : Int) = c
 simp only [UInt8.toNat_ofNat']
 omega
end
end Go.Lift.R4.T
end

section
open Go.Proofs
namespace Go.Lift.R4.T
set_option linter.unusedSectionVars false
variable [MX]
open Utf Tok
set_option maxRecDepth 20000
set_option maxHeartbeats 2000000
set_option linter.unusedSimpArgs false
set_option linter.unusedVariables false
theorem core_ne (c : Int) (t : List Int) (hc : c ≠ 48) : ∃ u, core (c :: t) = c :: u := by
 unfold core
 rw [List.reverse_cons]
 have : ∀ l : List Int, ∃ u, (l ++ [c]).dropWhile (· == 48) = u ++ [c] := by
  intro l
  induction l with
  | nil => exact ⟨[], by rw [List.nil_append, List.dropWhile_cons_of_neg (by simpa using hc)]⟩
  | cons x l ih =>
   rw [List.cons_append]
   cases hx : (x == (48 : Int)) with
   | true => rw [List.dropWhile_cons_of_pos (p := (· == 48)) hx]; exact ih
   | false => rw [List.dropWhile_cons_of_neg (p := (· == 48)) (by simp [hx])]; exact ⟨x :: l, rfl⟩
 obtain ⟨u, hu⟩ := this t.reverse
 rw [hu]
 exact ⟨u.reverse, by simp⟩
theorem core_val {c : Int} {t : List Int} (hd : ∀ x ∈ c :: t, dig x = true) (hc : c ≠ 48) (hl : (core (c :: t)).length ≤ 18) : 1 ≤ valN 0 (core (c :: t)) ∧ valN 0 (core (c :: t)) < 10 ^ 18 := by
 obtain ⟨u, hu⟩ := core_ne c t hc
 have hmem := core_all hd
 rw [hu] at hl hmem ⊢
 have h1 := hmem c (by simp)
 simp only [dig, Bool.and_eq_true, decide_eq_true_eq] at h1
 have h2 : valN 0 (c :: u) = valN (c - 48) u := by simp [valN]
 rw [h2]
 obtain ⟨a, b, d⟩ := valN_bound u (c - 48) 1 (fun x hx => hmem x (by simp [hx])) (by omega) (by omega)
 refine ⟨by omega, ?_⟩
 simp only [List.length_cons] at hl
 obtain ⟨j, hj⟩ : ∃ j, 18 = 1 + u.length + j := ⟨18 - (1 + u.length), by omega⟩
 have h3 : (10 : Int) ^ (1 + u.length) ≤ 10 ^ 18 := by
  rw [hj, Int.pow_add _ (1 + u.length) j]
  have h0 := one_pow_le (y := 10) (by omega) (1 + u.length)
  exact le_mulr (by omega) (one_pow_le (by omega) j)
 omega
theorem upN_le : ∀ (k : Nat) (n m : Int), 1 ≤ n → n ≤ 9223372036854775807 → upN k n = some m → 1 ≤ m ∧ m ≤ 9223372036854775807
 | 0, n, m, h0, h1, h => by simp only [upN, Option.some.injEq] at h; omega
 | k + 1, n, m, h0, h1, h => by
  simp only [upN] at h
  split at h
  ·cases h
  ·exact upN_le k (n * 10) m (by omega) (by omega) h
theorem fin154 {h : Heap} {x : Int × Int} : fin Tryz.prog [.cell 6 32] h.length (some (.ret, [(6, .ptr h.length 0)], h ++ [.cells (ratC x)])) = some (.agg (ratC x), h) := by
 simp only [go_sem, ratC]
 all_goals rfl
end Go.Lift.R4.T
end

section
open Go.Proofs
namespace Go.Lift.R4.T
set_option linter.unusedSectionVars false
variable [MX]
open Utf Tok
set_option maxRecDepth 20000
set_option maxHeartbeats 4000000
set_option linter.unusedSimpArgs false
set_option linter.unusedVariables false
theorem expN_in : ∀ (l : List Int) (e : Int), (∀ c ∈ l, dig c = true) → 0 ≤ e → e ≤ 1099511627776 → 0 ≤ expN e l ∧ expN e l ≤ 1099511627776
 | [], e, _, h0, h1 => ⟨h0, h1⟩
 | c :: t, e, hl, h0, h1 => by
  have hc := hl c (by simp)
  simp only [dig, Bool.and_eq_true, decide_eq_true_eq] at hc
  simp only [expN]
  exact expN_in t _ (fun x hx => hl x (by simp [hx])) (by split <;> omega) (by split <;> omega)
theorem tw_all : ∀ {l : List Int}, (∀ c ∈ l, dig c = true) → l.takeWhile dig = l
 | [], _ => rfl
 | c :: t, h => by rw [List.takeWhile_cons_of_pos (h c (by simp)), tw_all fun x hx => h x (by simp [hx])]
section
variable {lo : Nat} {t : List Int} {h : Heap} {neg : Bool}
end
end Go.Lift.R4.T
end

section
open Go.Proofs
namespace Go.Lift.R4.T
set_option linter.unusedSectionVars false
variable [MX]
open Utf Tok
set_option maxRecDepth 20000
set_option maxHeartbeats 4000000
set_option linter.unusedSimpArgs false
set_option linter.unusedVariables false
theorem tw_app {r : List Int} (hr : ∀ c u, r = c :: u → dig c = false) : ∀ {l : List Int}, (∀ c ∈ l, dig c = true) → (l ++ r).takeWhile dig = l
 | [], _ => by
  cases r with
  | nil => rfl
  | cons c u => rw [List.nil_append, List.takeWhile_cons_of_neg (by simp [hr c u rfl])]
 | c :: t, h => by rw [List.cons_append, List.takeWhile_cons_of_pos (h c (by simp)), tw_app hr fun x hx => h x (by simp [hx])]
theorem all_dig {l : List Int} (h : l.all dig = true) : ∀ c ∈ l, dig c = true := fun c hc => List.all_eq_true.1 h c hc
def nmF (n : Nm) : List Int := if n.fr = [] then [] else 46 :: n.fr
def nmR (n : Nm) : List Int := n.ex ++ n.d3
theorem nm_text (n : Nm) : n.text = n.sg ++ (n.d1 ++ (nmF n ++ nmR n)) := by simp [Nm.text, nmF, nmR]
theorem nmR_head {n : Nm} (ok : n.Ok) : ∀ c u, nmR n = c :: u → dig c = false ∧ (c = 101 ∨ c = 69) := by
 intro c u h
 unfold nmR at h
 rcases ok.ex with ⟨h1, h2⟩ | ⟨⟨e, he, h1 | h1 | h1⟩, h2⟩
 ·rw [h1, h2] at h; cases h
 all_goals
  rw [h1] at h
  cases h
  rcases he with rfl | rfl
  ·exact ⟨rfl, .inl rfl⟩
  ·exact ⟨rfl, .inr rfl⟩
theorem nmF_head {n : Nm} (ok : n.Ok) : ∀ c u, nmF n ++ nmR n = c :: u → dig c = false := by
 intro c u h
 unfold nmF at h
 split at h
 ·exact (nmR_head ok c u h).1
 ·cases h; rfl
theorem nm_by {n : Nm} (ok : n.Ok) : By n.text := by
 have dg : ∀ {l : List Int}, l.all dig = true → ∀ c ∈ l, 0 ≤ c ∧ c ≤ 255 := fun h c hc => by
  have := all_dig h c hc
  simp only [dig, Bool.and_eq_true, decide_eq_true_eq] at this
  omega
 intro c hc
 rw [nm_text, List.mem_append, List.mem_append, List.mem_append] at hc
 rcases hc with hc | hc | hc | hc
 ·rcases ok.sg with h | h | h <;> rw [h] at hc <;> simp at hc <;> subst hc <;> decide
 ·exact dg ok.d1 c hc
 ·unfold nmF at hc
  split at hc
  ·cases hc
  ·rcases List.mem_cons.1 hc with rfl | hc
   ·decide
   ·exact dg ok.fr c hc
 ·unfold nmR at hc
  rcases List.mem_append.1 hc with hc | hc
  ·rcases ok.ex with ⟨h1, h2⟩ | ⟨⟨e, he, h1 | h1 | h1⟩, h2⟩
   ·rw [h1] at hc; cases hc
   all_goals
    rw [h1] at hc
    simp at hc
    omega
  ·exact dg ok.d3 c hc
end Go.Lift.R4.T
end

section
open Go.Proofs
namespace Go.Lift.R4.T
set_option linter.unusedSectionVars false
variable [MX]
open Utf Tok
set_option maxRecDepth 20000
set_option maxHeartbeats 4000000
set_option linter.unusedSimpArgs false
set_option linter.unusedVariables false
def Asc (l : List Int) : Prop := ∀ c ∈ l, 0 ≤ c ∧ c < 128
theorem scal_asc {c : Int} (h : 0 ≤ c ∧ c < 128) : scal c = c := by
 unfold scal
 rw [if_neg]
 simp
 omega
theorem scal_asc_inv {x c : Int} (h : scal x = c) (hc : c < 128) : x = c := by
 unfold scal at h
 split at h
 ·omega
 ·exact h
theorem encs_asc : ∀ {l : List Int}, Asc l → encs l = l
 | [], _ => rfl
 | c :: t, h => by
  have hc := h c (by simp)
  have e : encs (c :: t) = enc (scal c) ++ encs t := rfl
  rw [e, encs_asc fun x hx => h x (by simp [hx]), scal_asc hc]
  unfold enc
  simp [hc.2]
theorem raw_asc : ∀ {l t : List Int}, l.map scal = t → Asc t → l = t
 | [], t, h, _ => by simpa using h
 | x :: l, [], h, _ => by simp at h
 | x :: l, c :: t, h, ha => by
  simp only [List.map_cons, List.cons.injEq] at h
  rw [scal_asc_inv h.1 (ha c (by simp)).2, raw_asc h.2 fun y hy => ha y (by simp [hy])]
theorem nm_asc {n : Nm} (ok : n.Ok) : Asc n.text := by
 have dg : ∀ {l : List Int}, l.all dig = true → ∀ c ∈ l, 0 ≤ c ∧ c < 128 := fun h c hc => by
  have := all_dig h c hc
  simp only [dig, Bool.and_eq_true, decide_eq_true_eq] at this
  omega
 intro c hc
 rw [nm_text, List.mem_append, List.mem_append, List.mem_append] at hc
 rcases hc with hc | hc | hc | hc
 ·rcases ok.sg with h | h | h <;> rw [h] at hc <;> simp at hc <;> subst hc <;> decide
 ·exact dg ok.d1 c hc
 ·unfold nmF at hc
  split at hc
  ·cases hc
  ·rcases List.mem_cons.1 hc with rfl | hc
   ·decide
   ·exact dg ok.fr c hc
 ·unfold nmR at hc
  rcases List.mem_append.1 hc with hc | hc
  ·rcases ok.ex with ⟨h1, h2⟩ | ⟨⟨e, he, h1 | h1 | h1⟩, h2⟩
   ·rw [h1] at hc; cases hc
   all_goals
    rw [h1] at hc
    simp at hc
    omega
  ·exact dg ok.d3 c hc
theorem between {l t : List Int} {i j : Nat} (hij : i ≤ j) (hj : j ≤ l.length) (hs : suf l i = t ++ suf l j) (ha : Asc t) : (l.take j).drop i = t := by
 have hlen := congrArg List.length hs
 rw [List.length_append, suf_len, suf_len] at hlen
 refine raw_asc ?_ ha
 rw [List.map_drop, List.map_take]
 have h1 : ((l.map scal).take j).drop i = (suf l i).take (j - i) := by
  unfold suf
  rw [List.drop_take]
 rw [h1, hs]
 have h2 : j - i = t.length := by omega
 rw [h2, List.take_left]
theorem ri_cut (k : IntKind) (l : List Int) (a b : Nat) : ((ri k l).take b).drop a = ri k ((l.take b).drop a) := by simp [ri, List.map_drop, List.map_take]
def tkC (t : Tk) : List V := [.v (.int .i64 t.kind), .v (.string (str t.text)), .v (.int .i64 t.num.1), .v (.int .i64 t.num.2), .v (.bool t.whole), .v (.bool t.id)]
section
variable {lo i j : Nat} {l : List Int} {p q : List Ob}
end
end Go.Lift.R4.T
end

section
open Go.Proofs
namespace Go.Lift.R4.T
set_option linter.unusedSectionVars false
variable [MX]
open Utf Tok
set_option maxRecDepth 20000
set_option maxHeartbeats 4000000
set_option linter.unusedSimpArgs false
set_option linter.unusedVariables false
section
variable {lo i j : Nat} {l : List Int} {p q : List Ob}
theorem fin80 {t : Tk} {h r r2 : List Ob} {o : Ob} : fin Tryz.prog [.cell 2 34] (p.length + (q.length + 1)) (some (.ret, [(2, .ptr (p.length + (q.length + 1)) 0)], p ++ o :: (q ++ .cells (tkC t) :: r))) = some (.agg (tkC t), p ++ o :: q) := by
 simp only [go_sem, tkC]
 all_goals rfl
end
end Go.Lift.R4.T
end

section
open Go.Proofs
namespace Go.Lift.R4.T
set_option linter.unusedSectionVars false
variable [MX]
open Utf Tok
set_option maxRecDepth 20000
set_option maxHeartbeats 4000000
set_option linter.unusedSimpArgs false
set_option linter.unusedVariables false
theorem enc_len4 (x : Int) : (enc x).length ≤ 4 := by
 unfold enc
 split
 ·simp
 ·split
  ·simp
  ·split <;> simp
theorem encs_len : ∀ l : List Int, (encs l).length ≤ 4 * l.length
 | [] => by simp [encs]
 | c :: t => by
  have e : encs (c :: t) = enc (scal c) ++ encs t := rfl
  have := encs_len t
  have := enc_len4 (scal c)
  rw [e, List.length_append, List.length_cons]
  omega
theorem hexN_len : ∀ (k : Nat) (n : Int) (s : List Int), (hexN k n s).2.length ≤ s.length
 | 0, n, s => Nat.le_refl _
 | k + 1, n, [] => Nat.le_refl _
 | k + 1, n, c :: t => by
  simp only [hexN]
  split
  ·exact Nat.le_refl _
  ·have := hexN_len k (n * 16 + hex c) t
   simp
   omega
theorem one1_len (s : List Int) : (one1 s).length ≤ s.length := by
 cases s with
 | nil => exact Nat.le_refl _
 | cons d u => simp only [one1]; split <;> simp
theorem escd_len (s : List Int) : (escd s).2.length ≤ s.length := by
 cases s with
 | nil => exact Nat.le_refl _
 | cons c t =>
  simp only [escd]
  split
  ·simp
  ·have := one1_len (hexN 6 0 (c :: t)).2
   have := hexN_len 6 0 (c :: t)
   simp only at *
   omega
theorem nameN_len : ∀ (n : Nat) (s : List Int), (nameN n s).1.length + (nameN n s).2.length ≤ s.length
 | 0, s => by simp [nameN]
 | n + 1, [] => by simp [nameN]
 | n + 1, c :: t => by
  simp only [nameN]
  split
  ·have := nameN_len n t
   simp
   omega
  ·split
   ·have := nameN_len n (escd t).2
    have := escd_len t
    simp
    omega
   ·simp
theorem name_len (s : List Int) : (name s).1.length ≤ s.length := by
 have := nameN_len s.length s
 unfold name
 omega
theorem u8s_inj : ∀ {a b : List Int}, By a → By b → u8s a = u8s b → a = b
 | [], [], _, _, _ => rfl
 | [], _ :: _, _, _, h => by simp [u8s] at h
 | _ :: _, [], _, _, h => by simp [u8s] at h
 | x :: a, y :: b, ha, hb, h => by
  simp only [u8s, List.map_cons, List.cons.injEq] at h
  have hx := ha x (by simp)
  have hy := hb y (by simp)
  have h1 : x = y := by
   have := congrArg UInt8.toNat h.1
   simp only [UInt8.toNat_ofNat'] at this
   omega
  rw [h1, u8s_inj (fun c hc => ha c (by simp [hc])) (fun c hc => hb c (by simp [hc])) h.2]
theorem enc_front (x : Int) (h0 : 0 ≤ x) (h1 : 128 ≤ x) (h2 : x ≤ 1114111) : ∃ b r, enc x = b :: r ∧ 128 ≤ b ∧ b ≤ 255 := by
 unfold enc
 rw [if_neg (by omega)]
 split
 ·exact ⟨_, _, rfl, by omega, by omega⟩
 ·split
  ·exact ⟨_, _, rfl, by omega, by omega⟩
  ·exact ⟨_, _, rfl, by omega, by omega⟩
theorem low_url : ∀ (n ks : List Int), (∀ k ∈ ks, 97 ≤ k ∧ k < 128) → (((encs n).map lowc = ks) ↔ (n.map lowc = ks))
 | [], ks, _ => Iff.rfl
 | c :: t, ks, hk => by
  have e : encs (c :: t) = enc (scal c) ++ encs t := rfl
  have hs := scal_in c
  by_cases hc : 0 ≤ c ∧ c < 128
  ·have e1 : enc (scal c) = [c] := by
    rw [scal_asc hc]; unfold enc; rw [if_pos hc.2]
   rw [e, e1]
   cases ks with
   | nil => simp
   | cons k ks =>
    simp only [List.cons_append, List.nil_append, List.map_cons, List.cons.injEq]
    rw [low_url t ks fun x hx => hk x (by simp [hx])]
  ·have hsc : 128 ≤ scal c := by
    rcases Int.lt_or_le (scal c) 128 with h | h
    ·have := scal_asc_inv rfl h
     omega
    ·exact h
   obtain ⟨b, r, e1, b1, b2⟩ := enc_front (scal c) hs.1 hsc hs.2
   rw [e, e1]
   cases ks with
   | nil => simp
   | cons k ks =>
    have hk0 := hk k (by simp)
    simp only [List.cons_append, List.map_cons, List.cons.injEq]
    constructor
    ·rintro ⟨h, _⟩
     exfalso
     unfold lowc at h
     split at h
     ·rename_i h2; simp at h2; omega
     ·omega
    ·rintro ⟨h, _⟩
     exfalso
     unfold lowc at h
     split at h
     ·rename_i h2; simp at h2; omega
     ·omega
theorem low_by {l : List Int} (h : By l) : By (l.map lowc) := by
 intro c hc
 obtain ⟨x, hx, rfl⟩ := List.mem_map.1 hc
 have := h x hx
 unfold lowc
 split
 ·rename_i h2; simp at h2; omega
 ·exact this
theorem like_url (n : List Int) : like (encs n) [117, 114, 108] = isUrl n := by
 unfold like isUrl
 have h1 : ([117, 114, 108] : List Int).map low = [117, 114, 108] := by decide
 have h2 : (encs n).map low = (encs n).map lowc := rfl
 rw [h1, h2, Bool.eq_iff_iff, beq_iff_eq, beq_iff_eq, ← low_url n [117, 114, 108] (by decide)]
 constructor
 ·exact u8s_inj (low_by (encs_by n)) (by decide)
 ·intro h; rw [h]
section
variable {lo i j : Nat} {l : List Int} {p q : List Ob}
theorem fin81 {t : Tk} {o : Ob} : fin Tryz.prog [.cell 2 34] (p.length + (q.length + 1)) (some (.ret, [(2, .ptr (p.length + (q.length + 1)) 0)], p ++ o :: (q ++ [.cells (tkC t)]))) = some (.agg (tkC t), p ++ o :: q) := fin80 (h := []) (r2 := [])
end
end Go.Lift.R4.T
end

section
open Go.Proofs
namespace Go.Lift.R4.T
set_option linter.unusedSectionVars false
variable [MX]
open Utf Tok
set_option maxRecDepth 20000
set_option maxHeartbeats 8000000
set_option linter.unusedSimpArgs false
set_option linter.unusedVariables false
section
variable {lo i j : Nat} {l : List Int} {p q : List Ob}
def stepD (l : List Int) (i : Nat) : Nat := if chr (suf l i) 0 = 41 then i + 1 else i
theorem f148 {out : List Int} (hl : l.length ≤ 100000000000) (hi : i ≤ l.length) (ho : out.length ≤ 100000000000) (hlo : lo ≤ p.length) :
  E lo 148 [.ptr (p.length + (q.length + 1)) 0, .ptr (p.length + (q.length + 3)) 0] (p ++ R l i :: (q ++ [.cells [.ptr p.length 0], .cells (tokC 0 []), .cells [.list .yes (ri .i32 out)]])) =
   some (.agg (tokC 7 out), p ++ R l (stepD l i) :: (q ++ [.cells [.ptr p.length 0], .cells (tokC 0 []), .cells [.list .yes (ri .i32 out)]])) := by
 have ks := fun lo p q => f56 (lo := lo) (l := l) (i := i) (p := p) (q := q) (cs := [41]) (by simp; omega)
 have hw : IntKind.i64.wrap ((i : Int) + 1) = ((i + 1 : Nat) : Int) := wrap_succ (by omega)
 have k69 := fun lo h => f69e (lo := lo) (l := out) (h := h) (by omega)
 have es : (⟨(u8s (encs out)).toArray⟩ : ByteArray) = str out := rfl
 simp only [ri_cons, ri_nil, isN_one] at ks
 have hloA : lo ≤ p.length + (q.length + 4) := by omega
 rw [e148 (by simp) (by rfl)]
 unfold stepD
 by_cases hc : chr (suf l i) 0 = 41
 ·have t : (chr (suf l i) 0 == 41) = true := by simp [hc]
  rw [if_pos hc]
  simp only [go_sem, b148, Tryz.f148, ks, t, hw, hlo, hloA, k69, es, tokC, str_nil]
  all_goals rfl
 ·have t : (chr (suf l i) 0 == 41) = false := by simp [hc]
  rw [if_neg hc]
  simp only [go_sem, b148, Tryz.f148, ks, t, hloA, k69, es, tokC, str_nil]
  all_goals rfl
noncomputable abbrev X115 (lo : Nat) (p q : List Ob) : Cx := ⟨Tryz.prog, E, lo, p.length + (q.length + 1), h115⟩
abbrev H115 (p q : List Ob) (l : List Int) (i : Nat) (t : List V) (out : List Int) : Heap := p ++ R l i :: (q ++ [.cells [.ptr p.length 0], .cells t, .cells [.list .yes (ri .i32 out)]])
abbrev P115 (p q : List Ob) (l : List Int) (i : Nat) (out : List Int) : Env × Heap :=
 ([(1, .ptr (p.length + (q.length + 1)) 0), (2, .ptr (p.length + (q.length + 2)) 0), (3, .ptr (p.length + (q.length + 3)) 0), (4, .fn 148 [.ptr (p.length + (q.length + 1)) 0, .ptr (p.length + (q.length + 3)) 0])], H115 p q l i (tokC 0 []) out)
theorem p115a (hl : l.length ≤ 100000000000) (hi : i ≤ l.length) : ∃ j, j ≤ l.length ∧ i ≤ j ∧ suf l j = blanks (suf l i) ∧
  ∀ lo p q, lo ≤ p.length → evL (X115 lo p q) loopW (pc b115 0 4) (args0 [.ptr p.length 0], p ++ R l i :: q) = some (.normal, P115 p q l j []) := by
 obtain ⟨j, a1, a2, a3, a4⟩ := f58 (l := l) (i := i) hl hi
 refine ⟨j, a1, a2, a3, fun lo p q hlo => ?_⟩
 simp only [go_sem, X115, P115, H115, b115, Tryz.f115, a4 _ _ _ hlo, tokC, str_nil, ri_nil]
 all_goals rfl
theorem er115 {out : List Int} {c d : Int} (hl : l.length ≤ 100000000000) (hi : i < l.length) (hol : out.length ≤ 100000000000) (hcc : chr (suf l i) 0 = c) (hdd : chr (suf l (i + 1)) 0 = d) (hs : suf l i = c :: suf l (i + 1)) 
  (hb : blk c = false) (t41 : (c == 41) = false) (te : (c == -1) = false) (u1 : (c == 34) = false) (u2 : (c == 39) = false) (u3 : (c == 40) = false) (u4 : unp c = false) (t92 : (c == 92) = true) (he : esc c d = true) :
  ∃ j0, j0 ≤ l.length ∧ i + 1 ≤ j0 ∧ suf l j0 = (escd (suf l (i + 1))).2 ∧ ∀ lo p q, lo ≤ p.length → lo ≤ p.length + (q.length + 3) →
   evCode (X115 lo p q) loopW l115x0 (P115 p q l i out) = some (.normal, P115 p q l j0 (out ++ [(escd (suf l (i + 1))).1])) := by
 have k0 := fun lo p q => f26 (lo := lo) (l := l) (i := i) (p := p) (q := q) (k := 0) (by omega)
 have ke := fun lo p q => f65 (lo := lo) (l := l) (i := i) (p := p) (q := q) (k := 0) (by omega)
 have hw1 : IntKind.i64.wrap ((i : Int) + 1) = ((i + 1 : Nat) : Int) := wrap_succ (by omega)
 have hn : chr (suf l i) (0 + 1) = chr (suf l (i + 1)) 0 := by rw [hs]; exact chr_succ _ _ 0
 have hr : ∀ k, k ≤ 4 → (out.length + k) * 4 ≤ 140737488355328 := by intro k hk; omega
 have hq : ∀ k, 9223372036854775800 ≤ k → out.length ≤ k := by intro k hk; omega
 have app : ∀ y : Int, ri .i32 out ++ [[V.v (.int .i32 y)]] = ri .i32 (out ++ [y]) := by intro y; rw [← ri_app]; rfl
 simp only [n0, hcc, hn, hdd, he] at k0 ke
 obtain ⟨j0, a1, a2, a3, a4⟩ := f110 (l := l) (i := i + 1) hl (by omega)
 refine ⟨j0, a1, a2, a3, fun lo p q hlo hlo3 => ?_⟩
 simp only [go_sem, X115, P115, H115, l115x0, b115, Tryz.f115, k0, f57, f150, te, t41, hb, u1, u2, u3, u4, t92, ke, hw1, hlo, hlo3, a4 _ _ _ hlo, hr, hq, app, and_self, tokC, str_nil]
 all_goals rfl
theorem ec115 {out : List Int} {c : Int} (hl : l.length ≤ 100000000000) (hi : i < l.length) (hol : out.length ≤ 100000000000) (hcc : chr (suf l i) 0 = c)
  (hb : blk c = false) (t41 : (c == 41) = false) (te : (c == -1) = false) (u1 : (c == 34) = false) (u2 : (c == 39) = false) (u3 : (c == 40) = false) (u4 : unp c = false) (t92 : (c == 92) = false) :
  ∀ lo p q, lo ≤ p.length → lo ≤ p.length + (q.length + 3) →
   evCode (X115 lo p q) loopW l115x0 (P115 p q l i out) = some (.normal, P115 p q l (i + 1) (out ++ [c])) := by
 have k0 := fun lo p q => f26 (lo := lo) (l := l) (i := i) (p := p) (q := q) (k := 0) (by omega)
 have kt := fun lo p q hlo => f70 (lo := lo) (l := l) (i := i) (p := p) (q := q) hlo (by omega)
 have hr : ∀ k, k ≤ 4 → (out.length + k) * 4 ≤ 140737488355328 := by intro k hk; omega
 have hq : ∀ k, 9223372036854775800 ≤ k → out.length ≤ k := by intro k hk; omega
 have app : ∀ y : Int, ri .i32 out ++ [[V.v (.int .i32 y)]] = ri .i32 (out ++ [y]) := by intro y; rw [← ri_app]; rfl
 simp only [n0, hcc] at k0 kt
 intro lo p q hlo hlo3
 simp only [go_sem, X115, P115, H115, l115x0, b115, Tryz.f115, k0, f57, f150, te, t41, hb, u1, u2, u3, u4, t92, hlo, hlo3, kt _ _ _ hlo, hr, hq, app, and_self, tokC, str_nil]
 all_goals rfl
abbrev ret115 (p q : List Ob) (l : List Int) (j : Nat) (t : Tk) (out : List Int) : Option (Ex × Env × Heap) := some (.ret, [(2, .ptr (p.length + (q.length + 2)) 0)], H115 p q l j (tkC t) out)
theorem es115 {out : List Int} (hl : l.length ≤ 100000000000) (hi : i ≤ l.length) (hol : out.length ≤ 100000000000) (hcc : chr (suf l i) 0 = 41 ∨ chr (suf l i) 0 = -1) :
  ∀ lo p q, lo ≤ p.length → lo ≤ p.length + (q.length + 2) → evCode (X115 lo p q) loopW l115x0 (P115 p q l i out) = ret115 p q l (stepD l i) (tk 7 out) out := by
 intro lo p q hlo hlo2
 have k0 := fun lo p q => f26 (lo := lo) (l := l) (i := i) (p := p) (q := q) (k := 0) (by omega)
 have kd := f148 (lo := lo) (l := l) (i := i) (p := p) (q := q) (out := out) hl hi hol hlo
 simp only [n0] at k0
 simp only [tokC, str_nil] at kd
 rcases hcc with hcc | hcc
 ·have t : ((41 : Int) == 41) = true := rfl
  rw [hcc] at k0
  simp only [go_sem, X115, P115, H115, l115x0, b115, Tryz.f115, k0, t, kd, hlo2, tokC, tkC, tk, str_nil]
  all_goals rfl
 ·have t : ((-1 : Int) == 41) = false := rfl
  have t2 : ((-1 : Int) == -1) = true := rfl
  rw [hcc] at k0
  simp only [go_sem, X115, P115, H115, l115x0, b115, Tryz.f115, k0, t, t2, kd, hlo2, tokC, tkC, tk, str_nil]
  all_goals rfl
theorem eb115 {out : List Int} {c : Int} (hl : l.length ≤ 100000000000) (hi : i < l.length) (hol : out.length ≤ 100000000000) (hcc : chr (suf l i) 0 = c) (hb : blk c = true) :
  ∃ j0, j0 ≤ l.length ∧ i ≤ j0 ∧ suf l j0 = blanks (suf l i) ∧ ∃ j, j ≤ l.length ∧ j0 ≤ j ∧
   suf l j = (if chr (suf l j0) 0 = -1 ∨ chr (suf l j0) 0 = 41 then (suf l j0).drop 1 else badu (suf l j0)) ∧
   ∀ lo p q, lo ≤ p.length → lo ≤ p.length + (q.length + 2) → evCode (X115 lo p q) loopW l115x0 (P115 p q l i out) =
    ret115 p q l j (if chr (suf l j0) 0 = -1 ∨ chr (suf l j0) 0 = 41 then tk 7 out else tk 8 []) out := by
 have k0 := fun lo p q => f26 (lo := lo) (l := l) (i := i) (p := p) (q := q) (k := 0) (by omega)
 obtain ⟨j0, a1, a2, a3, a4⟩ := f58 (l := l) (i := i) hl (by omega)
 have kj := fun lo p q => f26 (lo := lo) (l := l) (i := j0) (p := p) (q := q) (k := 0) (by omega)
 have t41 : (c == 41) = false := by
  simp only [blk, Bool.or_eq_true, beq_iff_eq] at hb
  simp
  omega
 have te : (c == -1) = false := by
  simp only [blk, Bool.or_eq_true, beq_iff_eq] at hb
  simp
  omega
 simp only [n0, hcc] at k0
 simp only [n0] at kj
 refine ⟨j0, a1, a2, a3, ?_⟩
 by_cases hend : chr (suf l j0) 0 = -1 ∨ chr (suf l j0) 0 = 41
 ·rw [if_pos hend, if_pos hend]
  have hstep : suf l (stepD l j0) = (suf l j0).drop 1 ∧ stepD l j0 ≤ l.length ∧ j0 ≤ stepD l j0 := by
   unfold stepD
   split
   ·rename_i h41
    have : j0 < l.length := by
     rcases Nat.lt_or_ge j0 l.length with h | h
     ·exact h
     ·rw [suf_end h] at h41; cases h41
    exact ⟨by simp [suf, List.drop_drop], by omega, by omega⟩
   ·rename_i h41
    have hs : suf l j0 = [] := by
     rcases Nat.lt_or_ge j0 l.length with h | h
     ·have := chr_pos h
      omega
     ·exact suf_end h
    exact ⟨by rw [hs]; rfl, a1, Nat.le_refl _⟩
  refine ⟨stepD l j0, hstep.2.1, hstep.2.2, hstep.1, fun lo p q hlo hlo2 => ?_⟩
  have kd := f148 (lo := lo) (l := l) (i := j0) (p := p) (q := q) (out := out) hl a1 hol hlo
  simp only [tokC, str_nil] at kd
  rcases hend with h | h
  ·have t : ((-1 : Int) == 41) = false := rfl
   have t2 : ((-1 : Int) == -1) = true := rfl
   rw [h] at kj
   simp only [go_sem, X115, P115, H115, l115x0, b115, Tryz.f115, k0, t41, te, f57, hb, a4 _ _ _ hlo, kj, t, t2, kd, hlo2, tokC, tkC, tk, str_nil]
   all_goals rfl
  ·have t : ((41 : Int) == 41) = true := rfl
   rw [h] at kj
   simp only [go_sem, X115, P115, H115, l115x0, b115, Tryz.f115, k0, t41, te, f57, hb, a4 _ _ _ hlo, kj, t, kd, hlo2, tokC, tkC, tk, str_nil]
   all_goals rfl
 ·rw [if_neg hend, if_neg hend]
  obtain ⟨j, b1, b2, b3, b4⟩ := f149 (l := l) (i := j0) hl a1
  have t : (chr (suf l j0) 0 == 41) = false := by simp; exact fun h => hend (.inr h)
  have t2 : (chr (suf l j0) 0 == -1) = false := by simp; exact fun h => hend (.inl h)
  refine ⟨j, b1, b2, b3, fun lo p q hlo hlo2 => ?_⟩
  simp only [tokC, str_nil] at b4
  simp only [go_sem, X115, P115, H115, l115x0, b115, Tryz.f115, k0, t41, te, f57, hb, a4 _ _ _ hlo, kj, t, t2, b4 _ _ _ hlo, hlo2, tokC, tkC, tk, str_nil]
  all_goals rfl
theorem ex115 {out : List Int} {c : Int} (hl : l.length ≤ 100000000000) (hi : i < l.length) (hcc : chr (suf l i) 0 = c) (hb : blk c = false) (t41 : (c == 41) = false) (te : (c == -1) = false)
  (hbad : (quo c || c == 40 || unp c) = true ∨ ((quo c || c == 40 || unp c) = false ∧ (c == 92) = true ∧ esc c (chr (suf l (i + 1)) 0) = false)) :
  ∃ j, j ≤ l.length ∧ i ≤ j ∧ suf l j = badu (suf l i) ∧ ∀ lo p q, lo ≤ p.length → lo ≤ p.length + (q.length + 2) → evCode (X115 lo p q) loopW l115x0 (P115 p q l i out) = ret115 p q l j (tk 8 []) out := by
 have k0 := fun lo p q => f26 (lo := lo) (l := l) (i := i) (p := p) (q := q) (k := 0) (by omega)
 have ke := fun lo p q => f65 (lo := lo) (l := l) (i := i) (p := p) (q := q) (k := 0) (by omega)
 have hn : chr (suf l i) (0 + 1) = chr (suf l (i + 1)) 0 := by rw [suf_next hi]; exact chr_succ _ _ 0
 obtain ⟨j, b1, b2, b3, b4⟩ := f149 (l := l) (i := i) hl (by omega)
 simp only [n0, hcc, hn] at k0 ke
 refine ⟨j, b1, b2, b3, fun lo p q hlo hlo2 => ?_⟩
 simp only [tokC, str_nil] at b4
 have hcase : (c == 34) = true ∨ ((c == 34) = false ∧ ((c == 39) = true ∨ ((c == 39) = false ∧ ((c == 40) = true ∨ ((c == 40) = false ∧ (unp c = true ∨ (unp c = false ∧ (c == 92) = true ∧ esc c (chr (suf l (i + 1)) 0) = false))))))) := by
  simp only [quo] at hbad
  cases a1 : (c == 34) <;> cases a2 : (c == 39) <;> cases a3 : (c == 40) <;> cases a4 : unp c <;> simp [a1, a2, a3, a4] at hbad ⊢
  exact hbad
 rcases hcase with u1 | ⟨u1, u2 | ⟨u2, u3 | ⟨u3, u4 | ⟨u4, u5, u6⟩⟩⟩⟩
 ·simp only [go_sem, X115, P115, H115, l115x0, b115, Tryz.f115, k0, f57, f150, te, t41, hb, u1, b4 _ _ _ hlo, hlo2, tokC, tkC, tk, str_nil]
  all_goals rfl
 ·simp only [go_sem, X115, P115, H115, l115x0, b115, Tryz.f115, k0, f57, f150, te, t41, hb, u1, u2, b4 _ _ _ hlo, hlo2, tokC, tkC, tk, str_nil]
  all_goals rfl
 ·simp only [go_sem, X115, P115, H115, l115x0, b115, Tryz.f115, k0, f57, f150, te, t41, hb, u1, u2, u3, b4 _ _ _ hlo, hlo2, tokC, tkC, tk, str_nil]
  all_goals rfl
 ·simp only [go_sem, X115, P115, H115, l115x0, b115, Tryz.f115, k0, f57, f150, te, t41, hb, u1, u2, u3, u4, b4 _ _ _ hlo, hlo2, tokC, tkC, tk, str_nil]
  all_goals rfl
 ·simp only [go_sem, X115, P115, H115, l115x0, b115, Tryz.f115, k0, ke, f57, f150, te, t41, hb, u1, u2, u3, u4, u5, u6, b4 _ _ _ hlo, hlo2, tokC, tkC, tk, str_nil]
  all_goals rfl
theorem loop115 (hl : l.length ≤ 100000000000) : ∀ (m i : Nat) (out : List Int), (suf l i).length ≤ m → i ≤ l.length → out.length ≤ i →
  ∃ j, j ≤ l.length ∧ i ≤ j ∧ suf l j = (urlN m (suf l i)).2.2 ∧ ∃ o2, ∀ lo (p q : List Ob), lo ≤ p.length → lo ≤ p.length + (q.length + 2) → lo ≤ p.length + (q.length + 3) →
   loopW (evCode (X115 lo p q) loopW l115x0) (P115 p q l i out) = ret115 p q l j (if (urlN m (suf l i)).1 = true then tk 7 (out ++ (urlN m (suf l i)).2.1) else tk 8 []) o2 := by
 have stop : ∀ (i : Nat) (out : List Int), (suf l i = [] ∨ ∃ t, suf l i = 41 :: t) → i ≤ l.length → out.length ≤ i →
  ∃ j, j ≤ l.length ∧ i ≤ j ∧ suf l j = (suf l i).drop 1 ∧ ∃ o2, ∀ lo (p q : List Ob), lo ≤ p.length → lo ≤ p.length + (q.length + 2) → lo ≤ p.length + (q.length + 3) →
   loopW (evCode (X115 lo p q) loopW l115x0) (P115 p q l i out) = ret115 p q l j (tk 7 out) o2 := by
  intro i out hs h2 h3
  have hcc : chr (suf l i) 0 = 41 ∨ chr (suf l i) 0 = -1 := by
   rcases hs with hs | ⟨t, hs⟩
   ·right; rw [hs]; rfl
   ·left; rw [hs]; rfl
  refine ⟨stepD l i, ?_, ?_, ?_, out, fun lo p q hlo hlo2 hlo3 => ?_⟩
  ·unfold stepD
   split
   ·rename_i h41
    rcases Nat.lt_or_ge i l.length with h | h
    ·omega
    ·rw [suf_end h] at h41; cases h41
   ·exact h2
  ·unfold stepD; split <;> omega
  ·unfold stepD
   rcases hs with hs | ⟨t, hs⟩
   ·rw [if_neg (by rw [hs]; decide), hs]; rfl
   ·rw [if_pos (by rw [hs]; rfl)]; simp [suf, List.drop_drop]
  ·rw [loop_eq, es115 hl h2 (by omega) hcc lo p q hlo hlo2]
   rfl
 intro m
 induction m with
 | zero =>
  intro i out h1 h2 h3
  have hs : suf l i = [] := List.eq_nil_of_length_eq_zero (by omega)
  obtain ⟨j, j1, j2, j3, o2, j4⟩ := stop i out (.inl hs) h2 h3
  refine ⟨j, j1, j2, by rw [j3, hs]; rfl, o2, fun lo p q hlo hlo2 hlo3 => ?_⟩
  rw [j4 lo p q hlo hlo2 hlo3, hs]
  simp [urlN]
 | succ m ih =>
  intro i out h1 h2 h3
  rcases Nat.lt_or_ge i l.length with hi | hi
  rotate_left
  ·have hs : suf l i = [] := suf_end hi
   obtain ⟨j, j1, j2, j3, o2, j4⟩ := stop i out (.inl hs) h2 h3
   refine ⟨j, j1, j2, by rw [j3, hs]; rfl, o2, fun lo p q hlo hlo2 hlo3 => ?_⟩
   rw [j4 lo p q hlo hlo2 hlo3, hs]
   simp [urlN]
  have hcp := chr_pos hi
  have hs := suf_next hi
  obtain ⟨c, hcc⟩ : ∃ c, chr (suf l i) 0 = c := ⟨_, rfl⟩
  rw [hcc] at hs hcp
  have te : (c == -1) = false := by simp; omega
  by_cases c41 : c = 41
  ·subst c41
   obtain ⟨j, j1, j2, j3, o2, j4⟩ := stop i out (.inr ⟨_, hs⟩) h2 h3
   have e : urlN (m + 1) (41 :: suf l (i + 1)) = (true, [], suf l (i + 1)) := by simp [urlN]
   refine ⟨j, j1, j2, by rw [j3, hs, e]; rfl, o2, fun lo p q hlo hlo2 hlo3 => ?_⟩
   rw [j4 lo p q hlo hlo2 hlo3, hs, e]
   simp
  have t41 : (c == 41) = false := by simp [c41]
  cases hb : blk c with
  | true =>
   obtain ⟨j0, a1, a2, a3, j, b1, b2, b3, b4⟩ := eb115 (out := out) hl hi (by omega) hcc hb
   have hbl : blanks (suf l i) = blanks (suf l (i + 1)) := by rw [hs]; exact List.dropWhile_cons_of_pos hb
   have e : urlN (m + 1) (suf l i) = if chr (suf l j0) 0 = -1 ∨ chr (suf l j0) 0 = 41 then (true, [], (suf l j0).drop 1) else (false, [], badu (suf l j0)) := by
    rw [hs, a3, hbl] at *
    simp only [urlN]
    rw [if_neg c41, if_pos hb]
   refine ⟨j, b1, by omega, by rw [b3, e]; split <;> rfl, out, fun lo p q hlo hlo2 hlo3 => ?_⟩
   rw [loop_eq, b4 lo p q hlo hlo2, e]
   show ret115 _ _ _ _ _ _ = _
   congr 1
   split <;> simp
  | false =>
   by_cases hq1 : (quo c || c == 40 || unp c) = true
   ·obtain ⟨j, j1, j2, j3, j4⟩ := ex115 (out := out) hl hi hcc hb t41 te (.inl hq1)
    have e : urlN (m + 1) (suf l i) = (false, [], badu (suf l i)) := by
     rw [hs]
     simp only [urlN]
     rw [if_neg c41, if_neg (by simp [hb]), if_pos hq1]
    refine ⟨j, j1, by omega, by rw [j3, e], out, fun lo p q hlo hlo2 hlo3 => ?_⟩
    rw [loop_eq, j4 lo p q hlo hlo2, e]
    rfl
   ·have hcase : (c == 34) = false ∧ (c == 39) = false ∧ (c == 40) = false ∧ unp c = false := by
     simp only [quo, Bool.or_eq_true] at hq1
     cases a1 : (c == 34) <;> cases a2 : (c == 39) <;> cases a3 : (c == 40) <;> cases a4 : unp c <;> simp [a1, a2, a3, a4] at hq1 ⊢
    obtain ⟨u1, u2, u3, u4⟩ := hcase
    by_cases c92 : c = 92
    ·have t92 : (c == 92) = true := by simp [c92]
     cases he : esc c (chr (suf l (i + 1)) 0) with
     | true =>
      obtain ⟨j0, a1, a2, a3, a4⟩ := er115 (out := out) (d := chr (suf l (i + 1)) 0) hl hi (by omega) hcc rfl hs hb t41 te u1 u2 u3 u4 t92 he
      have e : urlN (m + 1) (suf l i) = ((urlN m (escd (suf l (i + 1))).2).1, (escd (suf l (i + 1))).1 :: (urlN m (escd (suf l (i + 1))).2).2.1, (urlN m (escd (suf l (i + 1))).2).2.2) := by
       rw [hs]
       simp only [urlN]
       rw [if_neg c41, if_neg (by simp [hb]), if_neg hq1, if_pos c92, if_pos he]
      obtain ⟨j, j1, j2, j3, o2, j4⟩ := ih j0 (out ++ [(escd (suf l (i + 1))).1]) (by rw [suf_len] at h1 ⊢; omega) a1 (by simp; omega)
      refine ⟨j, j1, by omega, by rw [j3, e, a3], o2, fun lo p q hlo hlo2 hlo3 => ?_⟩
      rw [loop_eq, a4 lo p q hlo hlo3, loop_n, j4 lo p q hlo hlo2 hlo3, e, a3]
      simp
     | false =>
      obtain ⟨j, j1, j2, j3, j4⟩ := ex115 (out := out) hl hi hcc hb t41 te (.inr ⟨by simpa using hq1, t92, he⟩)
      have e : urlN (m + 1) (suf l i) = (false, [], badu (suf l i)) := by
       rw [hs]
       simp only [urlN]
       rw [if_neg c41, if_neg (by simp [hb]), if_neg hq1, if_pos c92, if_neg (by simp [he])]
      refine ⟨j, j1, by omega, by rw [j3, e], out, fun lo p q hlo hlo2 hlo3 => ?_⟩
      rw [loop_eq, j4 lo p q hlo hlo2, e]
      rfl
    ·have t92 : (c == 92) = false := by simp [c92]
     have e : urlN (m + 1) (suf l i) = ((urlN m (suf l (i + 1))).1, c :: (urlN m (suf l (i + 1))).2.1, (urlN m (suf l (i + 1))).2.2) := by
      rw [hs]
      simp only [urlN]
      rw [if_neg c41, if_neg (by simp [hb]), if_neg hq1, if_neg c92]
     obtain ⟨j, j1, j2, j3, o2, j4⟩ := ih (i + 1) (out ++ [c]) (by rw [suf_len] at h1 ⊢; omega) (by omega) (by simp; omega)
     refine ⟨j, j1, by omega, by rw [j3, e], o2, fun lo p q hlo hlo2 hlo3 => ?_⟩
     rw [loop_eq, ec115 hl hi (by omega) hcc hb t41 te u1 u2 u3 u4 t92 lo p q hlo hlo3, loop_n, j4 lo p q hlo hlo2 hlo3, e]
     simp
theorem f115 (hl : l.length ≤ 100000000000) (hi : i ≤ l.length) : ∃ j, j ≤ l.length ∧ i ≤ j ∧ suf l j = (url (suf l i)).2.2 ∧
  ∀ lo p q, lo ≤ p.length → E lo 115 [.ptr p.length 0] (p ++ R l i :: q) = some (.agg (tkC (urlT (url (suf l i)))), p ++ R l j :: q) := by
 obtain ⟨j0, a1, a2, a3, a4⟩ := p115a (l := l) (i := i) hl hi
 obtain ⟨j, j1, j2, j3, o2, j4⟩ := loop115 (l := l) hl (suf l j0).length j0 [] (Nat.le_refl _) a1 (by simp)
 have e : url (suf l i) = urlN (suf l j0).length (suf l j0) := by unfold url; rw [a3]
 have hH : ∀ p q : List Ob, (p ++ R l i :: q).length = p.length + (q.length + 1) := fun p q => by simp
 refine ⟨j, j1, by omega, by rw [j3, e], fun lo p q hlo => ?_⟩
 have hL := j4 lo p q hlo (by omega) (by omega)
 rw [List.nil_append] at hL
 have e2 : (if (urlN (suf l j0).length (suf l j0)).1 = true then tk 7 (urlN (suf l j0).length (suf l j0)).2.1 else tk 8 []) = urlT (url (suf l i)) := by rw [e]; rfl
 rw [e2] at hL
 have hB : evL (X115 lo p q) loopW (pc b115 4 1) (P115 p q l j0 []) = ret115 p q l j (urlT (url (suf l i))) o2 := by
  simp only [X115, P115, H115, ret115, l115x0, b115, Tryz.f115, loopAt, loops, bodyOf, go_sem, tokC, tkC, str_nil, ri_nil] at hL
  simp only [go_sem, X115, P115, H115, ret115, b115, Tryz.f115, hL, tokC, tkC, str_nil, ri_nil]
 rw [e115 (by simp) (by rfl), hH, pc_in, pc_go _ _ _ _ 0 4, a4 lo p q hlo, pc_go _ _ _ _ _ 1, hB, ret115, pc_r]
 simp only [go_sem, tkC]
 all_goals rfl
end
end Go.Lift.R4.T
end
