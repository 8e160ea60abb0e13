/- Numbers: the reference. -/
import Derived.Test.YtnfdhgadidacaaaGreatDoorRd
import Derived.Test.YtnfdhgadidacaaaGreatDoorLd
import Derived.Test.YtnfdhgadidacaaaGreatDoorTa
section
/- Numbers, begun: strings by their bytes; the reference's digits. -/
open Go.Proofs
namespace Go.Lift.R3
open Utf Tok
set_option maxRecDepth 20000
set_option linter.unusedSimpArgs false
set_option linter.unusedVariables false

/-! ### Strings by their bytes -/
def bs (l : List Int) : ByteArray := ⟨(u8s l).toArray⟩
theorem bs_size (l : List Int) : (bs l).size = l.length := by simp [bs, ByteArray.size, u8s]
theorem bs_ext (l : List Int) (a b : Nat) : (bs l).extract a b = bs ((l.take b).drop a) := by
  apply ByteArray.ext
  simp only [bs, ByteArray.data_extract]
  apply Array.toList_inj.1
  rw [Array.toList_extract]
  simp only [List.extract, u8s, List.toList_toArray, List.map_drop, List.map_take]
  rw [List.take_drop]
  rcases Nat.le_total a b with h | h
  · rw [Nat.add_sub_cancel' h]
  · rw [List.drop_eq_nil_of_le (by simp; omega), List.drop_eq_nil_of_le (by simp; omega)]
theorem bs_app (a b : List Int) : bs a ++ bs b = bs (a ++ b) := by
  apply ByteArray.ext
  simp [bs, u8s]
theorem bs_ix {l : List Int} (hy : By l) (i : Nat) : ((bs l).data[i]?).map (fun c => V.v (.int .u8 c.toNat)) = (l[i]?).map fun c => V.v (.int .u8 c) := by
  simp only [bs, List.getElem?_toArray, u8s, List.getElem?_map]
  cases h : l[i]? with
  | none => rfl
  | some c =>
    have := hy c (List.mem_of_getElem? h)
    simp only [Option.map_some]
    congr 4
    show ((UInt8.ofNat c.toNat).toNat : Int) = c
    simp only [UInt8.toNat_ofNat']
    omega
theorem bs_list (l : List Int) : (bs l).toList = u8s l := by simp [bs, ByteArray.toList_eq]
theorem bs_nil : bs [] = ByteArray.empty := rfl
/-- is a text the empty one? -/
theorem bs_nil_eq (l : List Int) : ((bs l).toList == (ByteArray.empty).toList) = decide (l = []) := by
  rw [← bs_nil, bs_list, bs_list]
  cases l with
  | nil => rfl
  | cons c t => simp [u8s]
theorem By.take {l : List Int} (h : By l) (n : Nat) : By (l.take n) := fun c hc => h c (List.mem_of_mem_take hc)
theorem By.drop {l : List Int} (h : By l) (n : Nat) : By (l.drop n) := fun c hc => h c (List.mem_of_mem_drop hc)

/-! ### The reference: digits -/
section
variable {lo i : Nat} {l : List Int} {p q : List Ob}
theorem loop119 (hl : l.length ≤ 100000000000) : ∀ (n i : Nat), l.length - i ≤ n → i ≤ l.length →
    ∃ j, j ≤ l.length ∧ i ≤ j ∧ suf l j = (suf l i).dropWhile dig ∧
      ∀ lo (p q : List Ob), lo ≤ p.length → loopW (evCode ⟨Tryz.prog, E, lo, p.length + (q.length + 1), h119⟩ loopW l119x0) ([(0, .ptr p.length 0)], p ++ R l i :: q) = some (.exit 0, [(0, .ptr p.length 0), (4, .v (.bool false))], p ++ R l j :: q) := by
  intro n
  induction n with
  | zero =>
    intro i h1 h2
    obtain rfl : i = l.length := by omega
    have k0 := fun lo p q => f29 (lo := lo) (l := l) (i := l.length) (p := p) (q := q) (k := 0) (by omega)
    have hs : suf l l.length = [] := suf_end (Nat.le_refl _)
    have hb : dig (-1) = false := rfl
    simp only [n0, hs, chr_nil] at k0
    refine ⟨l.length, Nat.le_refl _, Nat.le_refl _, by rw [hs]; rfl, fun lo p q hlo => ?_⟩
    rw [loop_eq]
    simp only [go_sem, l119x0, b119, Tryz.f119, k0, f118, hb]
  | succ n ih =>
    intro i h1 h2
    have k0 := fun lo p q => f29 (lo := lo) (l := l) (i := i) (p := p) (q := q) (k := 0) (by omega)
    simp only [n0] at k0
    have hw : IntKind.i64.wrap ((i : Int) + 1) = ((i + 1 : Nat) : Int) := wrap_succ (by omega)
    cases hb : dig (chr (suf l i) 0) with
    | false =>
      refine ⟨i, h2, Nat.le_refl _, ?_, fun lo p q hlo => ?_⟩
      · by_cases hi : i < l.length
        · rw [suf_next hi] at hb ⊢
          exact (List.dropWhile_cons_of_neg (by simpa [chr] using hb)).symm
        · rw [suf_end (by omega)]; rfl
      · rw [loop_eq]
        simp only [go_sem, l119x0, b119, Tryz.f119, k0, f118, hb]
    | true =>
      have hi : i < l.length := by
        rcases Nat.lt_or_ge i l.length with h | h
        · exact h
        · rw [suf_end h] at hb; exact absurd hb (by decide)
      obtain ⟨j, j1, j2, j3, j4⟩ := ih (i + 1) (by omega) (by omega)
      refine ⟨j, j1, by omega, ?_, fun lo p q hlo => ?_⟩
      · rw [j3, suf_next hi]
        exact (List.dropWhile_cons_of_pos (by simpa using hb)).symm
      · rw [loop_eq]
        have e : evCode ⟨Tryz.prog, E, lo, p.length + (q.length + 1), h119⟩ loopW l119x0 ([(0, .ptr p.length 0)], p ++ R l i :: q) = some (.normal, [(0, .ptr p.length 0)], p ++ R l (i + 1) :: q) := by
          simp only [go_sem, l119x0, b119, Tryz.f119, k0, f118, hb, hw, hlo]
        rw [e, loop_n]
        exact j4 lo p q hlo
/-- (*R).digits -/
theorem f119 (hl : l.length ≤ 100000000000) (hi : i ≤ l.length) : ∃ j, j ≤ l.length ∧ i ≤ j ∧ suf l j = (suf l i).dropWhile dig ∧
    ∀ lo p q, lo ≤ p.length → E lo 119 [.ptr p.length 0] (p ++ R l i :: q) = some (.tup [], p ++ R l j :: q) := by
  obtain ⟨j, j1, j2, j3, j4⟩ := loop119 (l := l) hl l.length i (by omega) hi
  refine ⟨j, j1, j2, j3, fun lo p q hlo => ?_⟩
  have hL := j4 lo p q hlo
  rw [e119 (by simp) (by rfl)]
  simp only [l119x0, b119, Tryz.f119, loopAt, loops, bodyOf, go_sem] at hL
  simp only [go_sem, b119, Tryz.f119, hL]
end

/-! ### The reference: a text's digits, fractions -/
theorem f180 {lo : Nat} {c : Int} {h : Heap} : E lo 180 [.v (.int .u8 c)] h = some (.v (.bool (dig c)), h) := by
  rw [e180 (by simp) (by rfl)]
  simp only [go_sem, b180, Tryz.f180, dig]
def ratC (x : Int × Int) : List V := [.v (.int .i64 x.1), .v (.int .i64 x.2)]
theorem f153 {lo : Nat} {h : Heap} (hlo : lo ≤ h.length) : E lo 153 [] h = some (.agg (ratC (0, 0)), h) := by
  rw [e153 (by simp) (by rfl)]
  simp only [go_sem, b153, Tryz.f153, hlo]
  rfl
theorem f181 {lo : Nat} {n : Int} {h : Heap} (hlo : lo ≤ h.length) : E lo 181 [.v (.int .i64 n)] h = some (.agg (ratC (n, 1)), h) := by
  rw [e181 (by simp) (by rfl)]
  simp only [go_sem, b181, Tryz.f181, hlo]
  rfl

theorem drop_cons {t : List Int} {i : Nat} {c : Int} (h : t[i]? = some c) : t.drop i = c :: t.drop (i + 1) := by
  obtain ⟨hi, rfl⟩ := List.getElem?_eq_some_iff.1 h
  exact List.drop_eq_getElem_cons hi

theorem loop152 {lo : Nat} {t : List Int} {h : Heap} (hy : By t) (hl : t.length ≤ 100000000000) : ∀ (m i : Nat) (ex : Env), (ex = [] ∨ ex = [(14, .v (.bool true))]) → t.length - i ≤ m → i ≤ t.length →
    loopW (evCode ⟨Tryz.prog, E, lo, h.length, h152⟩ loopW l152x0) ((0, .v (.string (bs t))) :: (1, .v (.int .i64 i)) :: ex, h) =
      some (.exit 0, [(0, .v (.string (bs t))), (1, .v (.int .i64 (i + ((t.drop i).takeWhile dig).length : Nat))), (14, .v (.bool false))], h) := by
  intro m
  induction m with
  | zero =>
    intro i ex hex h1 h2
    obtain rfl : i = t.length := by omega
    have hd : decide ((t.length : Int) < (t.length : Int)) = false := by simp
    rw [loop_eq]
    rcases hex with rfl | rfl
    · simp only [go_sem, l152x0, b152, Tryz.f152, bs_size, hd]
      simp
    · simp only [go_sem, l152x0, b152, Tryz.f152, bs_size, hd]
      simp
  | succ m ih =>
    intro i ex hex h1 h2
    rcases Nat.lt_or_ge i t.length with hi | hi
    rotate_left
    · exact ih i ex hex (by omega) h2
    have hd : decide ((i : Int) < (t.length : Int)) = true := by simp; omega
    have hw : IntKind.i64.wrap ((i : Int) + 1) = ((i + 1 : Nat) : Int) := wrap_succ (by omega)
    have hc : t[i]? = some t[i] := List.getElem?_eq_getElem hi
    have hdr := drop_cons hc
    generalize t[i] = c at hc hdr
    cases hb : dig c with
    | false =>
      rw [hdr, List.takeWhile_cons_of_neg (by simp [hb]), loop_eq]
      rcases hex with rfl | rfl
      · simp only [go_sem, l152x0, b152, Tryz.f152, bs_size, hd, bs_ix hy, hc, f180, hb]
        simp
      · simp only [go_sem, l152x0, b152, Tryz.f152, bs_size, hd, bs_ix hy, hc, f180, hb]
        simp
    | true =>
      rw [hdr, List.takeWhile_cons_of_pos hb, loop_eq]
      have e : ∀ ex, (ex = [] ∨ ex = [(14, .v (.bool true))]) → evCode ⟨Tryz.prog, E, lo, h.length, h152⟩ loopW l152x0 ((0, .v (.string (bs t))) :: (1, .v (.int .i64 i)) :: ex, h) = some (.normal, [(0, .v (.string (bs t))), (1, .v (.int .i64 (i + 1 : Nat)))], h) := by
        intro ex hex
        rcases hex with rfl | rfl
        · simp only [go_sem, l152x0, b152, Tryz.f152, bs_size, hd, bs_ix hy, hc, f180, hb, hw]
        · simp only [go_sem, l152x0, b152, Tryz.f152, bs_size, hd, bs_ix hy, hc, f180, hb, hw]
      rw [e ex hex, loop_n, ih (i + 1) [] (.inl rfl) (by omega) (by omega)]
      have e2 : i + (c :: (t.drop (i + 1)).takeWhile dig).length = i + 1 + ((t.drop (i + 1)).takeWhile dig).length := by simp; omega
      rw [e2]
/-- jalousieref1.run -/
theorem f152 {lo i : Nat} {t : List Int} {h : Heap} (hy : By t) (hl : t.length ≤ 100000000000) (hi : i ≤ t.length) :
    E lo 152 [.v (.string (bs t)), .v (.int .i64 i)] h = some (.v (.int .i64 (i + ((t.drop i).takeWhile dig).length : Nat)), h) := by
  have hL := loop152 (lo := lo) (h := h) hy hl t.length i [] (.inl rfl) (by omega) hi
  rw [e152 (by simp) (by rfl)]
  simp only [l152x0, b152, Tryz.f152, loopAt, loops, bodyOf, go_sem] at hL
  simp only [go_sem, b152, Tryz.f152, hL]
end Go.Lift.R3
end

section
/- The reference's value of digits, first part: naughts, digits. -/
open Go.Proofs
namespace Go.Lift.R3
open Utf Tok
set_option maxRecDepth 20000
set_option maxHeartbeats 2000000
set_option linter.unusedSimpArgs false
set_option linter.unusedVariables false

theorem wrap_u64 {n : Int} (h0 : 0 ≤ n) (h1 : n ≤ 18446744073709551615) : IntKind.u64.wrap n = n := by
  unfold IntKind.wrap
  simp only [IntKind.bits, IntKind.signed]
  simp
  omega

theorem core_snoc (l : List Int) (c : Int) : core (l ++ [c]) = if c = 48 then core l else l ++ [c] := by
  unfold core
  rw [List.reverse_append]
  simp only [List.reverse_cons, List.reverse_nil, List.nil_append, List.cons_append, List.dropWhile_cons, beq_iff_eq]
  split <;> simp

/-! ### The reference's value -/
abbrev S154 (below : Bool) (ds : List Int) (e : Int) (h : Heap) (a b : Int) (ex : Env) : Env × Heap :=
  ((0, .v (.bool below)) :: (1, .v (.string (bs ds))) :: (2, .v (.int .i64 e)) :: (6, .ptr h.length 0) :: (7, .v (.int .i64 a)) :: (8, .v (.int .i64 b)) :: ex, h ++ [.cells (ratC (0, 0))])

theorem loop154a {lo : Nat} {below : Bool} {ds : List Int} {e : Int} {h : Heap} (hy : By ds) (hl : ds.length ≤ 100000000000) : ∀ (m a : Nat), ds.length - a ≤ m → a ≤ ds.length →
    loopW (evCode ⟨Tryz.prog, E, lo, h.length, h154⟩ loopW l154x0) (S154 below ds e h a ds.length []) =
      some (.exit 0, S154 below ds e h (a + ((ds.drop a).takeWhile (· == 48)).length : Nat) ds.length [(25, .v (.bool false))]) := by
  intro m
  induction m with
  | zero =>
    intro a h1 h2
    obtain rfl : a = ds.length := by omega
    have hd : decide ((ds.length : Int) < (ds.length : Int)) = false := by simp
    rw [loop_eq]
    simp only [go_sem, l154x0, b154, Tryz.f154, bs_size, hd, ratC]
    simp
    all_goals rfl
  | succ m ih =>
    intro i h1 h2
    rcases Nat.lt_or_ge i ds.length with hi | hi
    rotate_left
    · exact ih i (by omega) h2
    have hd : decide ((i : Int) < (ds.length : Int)) = true := by simp; omega
    have hw : IntKind.i64.wrap ((i : Int) + 1) = ((i + 1 : Nat) : Int) := wrap_succ (by omega)
    have hc : ds[i]? = some ds[i] := List.getElem?_eq_getElem hi
    have hdr := drop_cons hc
    generalize ds[i] = c at hc hdr
    cases hb : (c == 48) with
    | false =>
      rw [hdr, List.takeWhile_cons_of_neg (by simp [hb]), loop_eq]
      simp only [go_sem, l154x0, b154, Tryz.f154, bs_size, hd, bs_ix hy, hc, hb, ratC]
      simp
      all_goals rfl
    | true =>
      rw [hdr, List.takeWhile_cons_of_pos (p := (· == 48)) (by simpa using hb), loop_eq]
      have e1 : evCode ⟨Tryz.prog, E, lo, h.length, h154⟩ loopW l154x0 (S154 below ds e h i ds.length []) = some (.normal, S154 below ds e h (i + 1 : Nat) ds.length []) := by
        simp only [go_sem, l154x0, b154, Tryz.f154, bs_size, hd, bs_ix hy, hc, hb, hw, ratC]
        all_goals rfl
      rw [e1, loop_n, ih (i + 1) (by omega) (by omega)]
      have e2 : i + (c :: (ds.drop (i + 1)).takeWhile (· == 48)).length = i + 1 + ((ds.drop (i + 1)).takeWhile (· == 48)).length := by simp; omega
      rw [e2]

theorem loop154b {lo : Nat} {below : Bool} {ds : List Int} {h : Heap} {a : Nat} {c0 : Int} (hy : By ds) (hl : ds.length ≤ 100000000000) (ha : ds[a]? = some c0) (hc0 : c0 ≠ 48) :
    ∀ (m b : Nat) (e : Int) (x : V), b - a ≤ m → a < b → b ≤ ds.length → -4000000000000 ≤ e → e + b ≤ 4000000000000 →
    ∃ b', a < b' ∧ b' ≤ b ∧ (ds.take b').drop a = core ((ds.take b).drop a) ∧
      loopW (evCode ⟨Tryz.prog, E, lo, h.length, h154⟩ loopW l154x1) (S154 below ds e h a b [(30, x)]) =
        some (.exit 2, S154 below ds (e + b - b') h a b' [(36, .v (.bool false))]) := by
  intro m
  induction m with
  | zero => intro b e x h1 h2; omega
  | succ m ih =>
    intro b e x h1 h2 h3 h4 h5
    obtain ⟨k, rfl⟩ : ∃ k, b = k + 1 := ⟨b - 1, by omega⟩
    have hw : IntKind.i64.wrap (((k + 1 : Nat) : Int) - 1) = (k : Int) := by rw [wrap_i64] <;> omega
    have hwe : IntKind.i64.wrap (e + 1) = e + 1 := by rw [wrap_i64] <;> omega
    have hc : ds[k]? = some ds[k] := List.getElem?_eq_getElem (by omega)
    have hsn : (ds.take (k + 1)).drop a = (ds.take k).drop a ++ [ds[k]] := by
      rw [List.take_add_one, hc]
      rw [List.drop_append_of_le_length (by simp; omega)]
      rfl
    generalize ds[k] = c at hc hsn
    rw [hsn, core_snoc]
    cases hb : (c == 48) with
    | false =>
      have hn : ¬ c = 48 := by simpa using hb
      rw [if_neg hn]
      refine ⟨k + 1, h2, Nat.le_refl _, hsn, ?_⟩
      rw [loop_eq]
      have e2 : e + ((k + 1 : Nat) : Int) - ((k + 1 : Nat) : Int) = e := by omega
      rw [e2]
      simp only [go_sem, l154x1, b154, Tryz.f154, hw, bs_ix hy, hc, hb, ratC]
      all_goals rfl
    | true =>
      have hn : c = 48 := by simpa using hb
      rw [if_pos hn]
      have hka : a < k := by
        rcases Nat.lt_or_ge a k with h | h
        · exact h
        · have : a = k := by omega
          subst this
          rw [hc] at ha
          cases ha
          exact absurd hn hc0
      obtain ⟨b', q1, q2, q3, q4⟩ := ih k (e + 1) .undef (by omega) hka (by omega) (by omega) (by omega)
      refine ⟨b', q1, by omega, q3, ?_⟩
      have e1 : evCode ⟨Tryz.prog, E, lo, h.length, h154⟩ loopW l154x1 (S154 below ds e h a (k + 1 : Nat) [(30, x)]) = some (.normal, S154 below ds (e + 1) h a k [(30, .undef)]) := by
        simp only [go_sem, l154x1, b154, Tryz.f154, hw, hwe, bs_ix hy, hc, hb, ratC]
        all_goals rfl
      rw [loop_eq, e1, loop_n, q4]
      have e2 : e + 1 + (k : Int) - (b' : Int) = e + ((k + 1 : Nat) : Int) - (b' : Int) := by omega
      rw [e2]

abbrev C154 (below : Bool) (e : Int) (h : Heap) (n : Int) (rows : List (List V)) (len k : Int) (ex : Env) : Env × Heap :=
  ((0, .v (.bool below)) :: (2, .v (.int .i64 e)) :: (6, .ptr h.length 0) :: (9, .v (.int .u64 n)) :: (50, .list .no rows) :: (51, .v (.int .i64 len)) :: (52, .v (.int .i64 k)) :: ex, h ++ [.cells (ratC (0, 0))])

theorem loop154c {lo : Nat} {below : Bool} {e : Int} {h : Heap} {d : List Int} (hd : ∀ c ∈ d, dig c = true) (hl : d.length ≤ 18) : ∀ (r : List Int) (k : Nat) (n : Int), d.drop k = r → k + r.length = d.length → 0 ≤ n → n < 10 ^ k →
    loopW (evCode ⟨Tryz.prog, E, lo, h.length, h154⟩ loopW l154x2) (C154 below e h n (ri .u8 d) d.length k []) =
      some (.exit 4, C154 below e h (valN n r) (ri .u8 d) d.length d.length [(53, .v (.bool false))]) := by
  intro r
  induction r with
  | nil =>
    intro k n hr hk h0 h1
    have hk' : k = d.length := by simpa using hk
    subst hk'
    have hlt : decide ((d.length : Int) < (d.length : Int)) = false := by simp
    rw [loop_eq]
    simp only [go_sem, l154x2, b154, Tryz.f154, hlt, valN, ratC]
    all_goals rfl
  | cons c r ih =>
    intro k n hr hk h0 h1
    simp only [List.length_cons] at hk
    have hlt : decide ((k : Int) < (d.length : Int)) = true := by simp; omega
    have hc : d[k]? = some c := by
      have := congrArg (·[0]?) hr
      simpa using this
    have hcd := hd c (List.mem_of_getElem? hc)
    simp only [dig, Bool.and_eq_true, decide_eq_true_eq] at hcd
    have hw : IntKind.i64.wrap ((k : Int) + 1) = ((k + 1 : Nat) : Int) := wrap_succ (by omega)
    have h17 : (10 : Int) ^ k ≤ 100000000000000000 := by
      have : (10 : Int) ^ k ≤ 10 ^ 17 := by
        obtain ⟨j, hj⟩ : ∃ j, 17 = k + j := ⟨17 - k, by omega⟩
        rw [hj, Int.pow_add]
        have h0 := one_pow_le (y := 10) (by omega) k
        exact le_mulr (by omega) (one_pow_le (by omega) j)
      exact this
    have w1 : IntKind.u64.wrap (n * 10) = n * 10 := wrap_u64 (by omega) (by omega)
    have w2 : IntKind.u8.wrap (c - 48) = c - 48 := wrap_u8 (by omega) (by omega)
    have w3 : IntKind.u64.wrap (c - 48) = c - 48 := wrap_u64 (by omega) (by omega)
    have w4 : IntKind.u64.wrap (n * 10 + (c - 48)) = n * 10 + (c - 48) := wrap_u64 (by omega) (by omega)
    have e1 : evCode ⟨Tryz.prog, E, lo, h.length, h154⟩ loopW l154x2 (C154 below e h n (ri .u8 d) d.length k []) = some (.normal, C154 below e h (n * 10 + (c - 48)) (ri .u8 d) d.length (k + 1 : Nat) []) := by
      simp only [go_sem, l154x2, b154, Tryz.f154, hlt, hc, w1, w2, w3, w4, hw, ratC]
      all_goals rfl
    have hp : (10 : Int) ^ (k + 1) = 10 ^ k * 10 := Int.pow_succ 10 k
    rw [loop_eq, e1, loop_n, ih (k + 1) (n * 10 + (c - 48)) (by rw [← List.drop_drop, hr]; rfl) (by omega) (by omega) (by omega)]
    rfl
end Go.Lift.R3
end

section
/- The reference's value of digits, second part: powers of ten. -/
open Go.Proofs
namespace Go.Lift.R3
open Utf Tok
set_option maxRecDepth 20000
set_option maxHeartbeats 2000000
set_option linter.unusedSimpArgs false
set_option linter.unusedVariables false

abbrev U154 (below : Bool) (e : Int) (h : Heap) (n : Int) (ex : Env) : Env × Heap :=
  ((0, .v (.bool below)) :: (2, .v (.int .i64 e)) :: (6, .ptr h.length 0) :: (9, .v (.int .u64 n)) :: (12, .v (.int .u64 1)) :: ex, h ++ [.cells (ratC (0, 0))])
abbrev over154 (h : Heap) : Option (Ex × Env × Heap) := some (.ret, [(6, .ptr h.length 0)], h ++ [.cells (ratC (0, 0))])
theorem ret153 {lo : Nat} {h : Heap} {x : Ob} (hlo : lo ≤ h.length) : E lo 153 [] (h ++ [x]) = some (.agg (ratC (0, 0)), h ++ [x]) := f153 (by simp; omega)

theorem loop154d {lo : Nat} {below : Bool} {h : Heap} (hlo : lo ≤ h.length) : ∀ (m : Nat) (e n : Int), e.toNat = m → e ≤ 4000000000000 → 0 ≤ n → n ≤ 9223372036854775807 →
    loopW (evCode ⟨Tryz.prog, E, lo, h.length, h154⟩ loopW l154x3) (U154 below e h n []) =
      match upN m n with
      | some n' => some (.exit 6, U154 below (if 0 < e then 0 else e) h n' [(64, .v (.bool false))])
      | none => over154 h := by
  intro m
  induction m with
  | zero =>
    intro e n hm he h0 h1
    have hd : decide (0 < e) = false := by simp; omega
    rw [loop_eq, if_neg (by omega)]
    simp only [go_sem, l154x3, b154, Tryz.f154, hd, upN, ratC]
    all_goals rfl
  | succ m ih =>
    intro e n hm he h0 h1
    have hd : decide (0 < e) = true := by simp; omega
    have hw : IntKind.i64.wrap (e - 1) = e - 1 := by rw [wrap_i64] <;> omega
    rw [loop_eq]
    simp only [upN]
    by_cases hb : 922337203685477580 < n
    · have hb' : decide (922337203685477580 < n) = true := by simp [hb]
      rw [if_pos hb]
      simp only [go_sem, l154x3, b154, Tryz.f154, hd, hb', ret153 hlo, hlo, ratC]
      all_goals rfl
    · have hb' : decide (922337203685477580 < n) = false := by simp [hb]
      rw [if_neg hb]
      have w1 : IntKind.u64.wrap (n * 10) = n * 10 := wrap_u64 (by omega) (by omega)
      have e1 : evCode ⟨Tryz.prog, E, lo, h.length, h154⟩ loopW l154x3 (U154 below e h n []) = some (.normal, U154 below (e - 1) h (n * 10) []) := by
        simp only [go_sem, l154x3, b154, Tryz.f154, hd, hb', w1, hw, ratC]
        all_goals rfl
      rw [e1, loop_n, ih (e - 1) (n * 10) (by omega) (by omega) (by omega) (by omega)]
      have e2 : (if 0 < e - 1 then (0 : Int) else e - 1) = if 0 < e then 0 else e := by split <;> split <;> omega
      rw [e2]

abbrev D154 (below : Bool) (h : Heap) (n d a b : Int) (ex : Env) : Env × Heap :=
  ((0, .v (.bool below)) :: (6, .ptr h.length 0) :: (9, .v (.int .u64 n)) :: (12, .v (.int .u64 d)) :: (13, .v (.int .i64 a)) :: (14, .v (.int .i64 b)) :: ex, h ++ [.cells (ratC (0, 0))])

theorem loop154e {lo : Nat} {below : Bool} {h : Heap} {d b : Int} : ∀ (k : Nat) (n : Int), (k : Int) ≤ 9223372036854775807 → 0 ≤ n → n ≤ 9223372036854775807 →
    loopW (evCode ⟨Tryz.prog, E, lo, h.length, h154⟩ loopW l154x4) (D154 below h n d k b []) =
      some (.exit 8, D154 below h (divN 2 k n).2 d (divN 2 k n).1 b [(82, .v (.bool false))]) := by
  intro k
  induction k with
  | zero =>
    intro n hk h0 h1
    have hd : decide ((0 : Int) < 0) = false := rfl
    rw [loop_eq]
    simp only [n0, divN]
    simp only [go_sem, l154x4, b154, Tryz.f154, hd, ratC]
    all_goals rfl
  | succ k ih =>
    intro n hk h0 h1
    have hd : decide ((0 : Int) < ((k + 1 : Nat) : Int)) = true := by simp
    have hw : IntKind.i64.wrap (((k + 1 : Nat) : Int) - 1) = (k : Int) := by rw [wrap_i64] <;> omega
    have hr : Int.tmod n 2 = n % 2 := Int.tmod_eq_emod_of_nonneg h0
    have hq : Int.tdiv n 2 = n / 2 := Int.tdiv_eq_ediv_of_nonneg h0
    have wq : IntKind.u64.wrap (n / 2) = n / 2 := wrap_u64 (by omega) (by omega)
    have z2 : ((2 : Int) = 0) = False := by simp
    rw [loop_eq]
    by_cases hm : n % 2 = 0
    · have hb : (n % 2 == 0) = true := by simp [hm]
      have e1 : evCode ⟨Tryz.prog, E, lo, h.length, h154⟩ loopW l154x4 (D154 below h n d (k + 1 : Nat) b []) = some (.normal, D154 below h (n / 2) d k b []) := by
        simp only [go_sem, l154x4, b154, Tryz.f154, hd, hr, hq, wq, hb, hw, z2, ratC]
        all_goals rfl
      rw [e1, loop_n, ih (n / 2) (by omega) (by omega) (by omega)]
      simp only [divN, hm, if_true]
    · have hb : (n % 2 == 0) = false := by simp; omega
      have e2 : divN 2 (k + 1) n = (k + 1, n) := by simp only [divN]; rw [if_neg hm]
      rw [e2]
      simp only [go_sem, l154x4, b154, Tryz.f154, hd, hr, hb, z2, ratC]
      all_goals rfl

theorem loop154f {lo : Nat} {below : Bool} {h : Heap} {d a : Int} : ∀ (k : Nat) (n : Int) (ex : Env), (ex = [] ∨ ex = [(82, .v (.bool false))]) → (k : Int) ≤ 9223372036854775807 → 0 ≤ n → n ≤ 9223372036854775807 →
    loopW (evCode ⟨Tryz.prog, E, lo, h.length, h154⟩ loopW l154x5) (D154 below h n d a k ex) =
      some (.exit 10, D154 below h (divN 5 k n).2 d a (divN 5 k n).1 [(93, .v (.bool false))]) := by
  intro k
  induction k with
  | zero =>
    intro n ex hex hk h0 h1
    have hd : decide ((0 : Int) < 0) = false := rfl
    rw [loop_eq]
    simp only [n0, divN]
    rcases hex with rfl | rfl
    · simp only [go_sem, l154x5, b154, Tryz.f154, hd, ratC]
      all_goals rfl
    · simp only [go_sem, l154x5, b154, Tryz.f154, hd, ratC]
      all_goals rfl
  | succ k ih =>
    intro n ex hex hk h0 h1
    have hd : decide ((0 : Int) < ((k + 1 : Nat) : Int)) = true := by simp
    have hw : IntKind.i64.wrap (((k + 1 : Nat) : Int) - 1) = (k : Int) := by rw [wrap_i64] <;> omega
    have hr : Int.tmod n 5 = n % 5 := Int.tmod_eq_emod_of_nonneg h0
    have hq : Int.tdiv n 5 = n / 5 := Int.tdiv_eq_ediv_of_nonneg h0
    have wq : IntKind.u64.wrap (n / 5) = n / 5 := wrap_u64 (by omega) (by omega)
    have z2 : ((5 : Int) = 0) = False := by simp
    rw [loop_eq]
    by_cases hm : n % 5 = 0
    · have hb : (n % 5 == 0) = true := by simp [hm]
      have e1 : evCode ⟨Tryz.prog, E, lo, h.length, h154⟩ loopW l154x5 (D154 below h n d a (k + 1 : Nat) ex) = some (.normal, D154 below h (n / 5) d a k []) := by
        rcases hex with rfl | rfl
        · simp only [go_sem, l154x5, b154, Tryz.f154, hd, hr, hq, wq, hb, hw, z2, ratC]
          all_goals rfl
        · simp only [go_sem, l154x5, b154, Tryz.f154, hd, hr, hq, wq, hb, hw, z2, ratC]
          all_goals rfl
      rw [e1, loop_n, ih (n / 5) [] (.inl rfl) (by omega) (by omega) (by omega)]
      simp only [divN, hm, if_true]
    · have hb : (n % 5 == 0) = false := by simp; omega
      have e2 : divN 5 (k + 1) n = (k + 1, n) := by simp only [divN]; rw [if_neg hm]
      rw [e2]
      rcases hex with rfl | rfl
      · simp only [go_sem, l154x5, b154, Tryz.f154, hd, hr, hb, z2, ratC]
        all_goals rfl
      · simp only [go_sem, l154x5, b154, Tryz.f154, hd, hr, hb, z2, ratC]
        all_goals rfl

theorem loop154g {lo : Nat} {below : Bool} {h : Heap} {n b : Int} : ∀ (k a : Nat) (x : V), a + k ≤ 62 →
    loopW (evCode ⟨Tryz.prog, E, lo, h.length, h154⟩ loopW l154x6) (D154 below h n (2 ^ a) k b [(103, x)]) =
      some (.exit 12, D154 below h n (2 ^ (a + k)) 0 b [(106, .v (.bool false))]) := by
  intro k
  induction k with
  | zero =>
    intro a x ha
    have hd : decide ((0 : Int) < 0) = false := rfl
    rw [loop_eq]
    simp only [n0]
    simp only [go_sem, l154x6, b154, Tryz.f154, hd, ratC]
    all_goals rfl
  | succ k ih =>
    intro a x ha
    have hd : decide ((0 : Int) < ((k + 1 : Nat) : Int)) = true := by simp
    have hw : IntKind.i64.wrap (((k + 1 : Nat) : Int) - 1) = (k : Int) := by rw [wrap_i64] <;> omega
    have h61 : (2 : Int) ^ 61 = 2305843009213693952 := by decide
    have hp := two_pow_le (show a ≤ 61 by omega)
    have hp0 := one_pow_le (y := 2) (by omega) a
    have w1 : IntKind.u64.wrap (2 ^ a * 2) = 2 ^ (a + 1) := by rw [Int.pow_succ]; exact wrap_u64 (by omega) (by omega)
    generalize hX : (2 : Int) ^ a = X at *
    have e1 : evCode ⟨Tryz.prog, E, lo, h.length, h154⟩ loopW l154x6 (D154 below h n X (k + 1 : Nat) b [(103, x)]) = some (.normal, D154 below h n (2 ^ (a + 1)) k b [(103, .undef)]) := by
      simp only [go_sem, l154x6, b154, Tryz.f154, hd, w1, hw, ratC]
      all_goals rfl
    rw [loop_eq, e1, loop_n, ih (a + 1) .undef (by omega)]
    have e2 : a + 1 + k = a + (k + 1) := by omega
    rw [e2]

abbrev F154 (below : Bool) (h : Heap) (n d : Int) (ex : Env) : Env × Heap :=
  ((0, .v (.bool below)) :: (6, .ptr h.length 0) :: (9, .v (.int .u64 n)) :: (12, .v (.int .u64 d)) :: ex, h ++ [.cells (ratC (0, 0))])
theorem loop154h {lo : Nat} {below : Bool} {h : Heap} {n : Int} (hlo : lo ≤ h.length) : ∀ (k : Nat) (d : Int) (x y : V) (ex : Env), (ex = [(103, y)] ∨ ex = [(106, y)]) → (k : Int) ≤ 9223372036854775807 → 0 ≤ d → d ≤ 9223372036854775807 →
    loopW (evCode ⟨Tryz.prog, E, lo, h.length, h154⟩ loopW l154x7) (F154 below h n d ((13, x) :: (14, .v (.int .i64 k)) :: ex)) =
      match mulN 5 1844674407370955161 k d with
      | some d' => some (.exit 14, F154 below h n d' [(14, .v (.int .i64 0)), (112, .v (.bool false))])
      | none => over154 h := by
  intro k
  induction k with
  | zero =>
    intro d x y ex hex hk h0 h1
    have hd : decide ((0 : Int) < 0) = false := rfl
    rw [loop_eq]
    simp only [n0, mulN]
    rcases hex with rfl | rfl
    · simp only [go_sem, l154x7, b154, Tryz.f154, hd, ratC]
      all_goals rfl
    · simp only [go_sem, l154x7, b154, Tryz.f154, hd, ratC]
      all_goals rfl
  | succ k ih =>
    intro d x y ex hex hk h0 h1
    have hd : decide ((0 : Int) < ((k + 1 : Nat) : Int)) = true := by simp
    have hw : IntKind.i64.wrap (((k + 1 : Nat) : Int) - 1) = (k : Int) := by rw [wrap_i64] <;> omega
    rw [loop_eq]
    simp only [mulN]
    by_cases hb : 1844674407370955161 < d
    · have hb' : decide (1844674407370955161 < d) = true := by simp [hb]
      rw [if_pos hb]
      rcases hex with rfl | rfl
      · simp only [go_sem, l154x7, b154, Tryz.f154, hd, hb', ret153 hlo, hlo, ratC]
        all_goals rfl
      · simp only [go_sem, l154x7, b154, Tryz.f154, hd, hb', ret153 hlo, hlo, ratC]
        all_goals rfl
    · have hb' : decide (1844674407370955161 < d) = false := by simp [hb]
      rw [if_neg hb]
      have w1 : IntKind.u64.wrap (d * 5) = d * 5 := wrap_u64 (by omega) (by omega)
      have e1 : evCode ⟨Tryz.prog, E, lo, h.length, h154⟩ loopW l154x7 (F154 below h n d ((13, x) :: (14, .v (.int .i64 (k + 1 : Nat))) :: ex)) = some (.normal, F154 below h n (d * 5) [(13, .undef), (14, .v (.int .i64 k)), (103, .undef)]) := by
        rcases hex with rfl | rfl
        · simp only [go_sem, l154x7, b154, Tryz.f154, hd, hb', w1, hw, ratC]
          all_goals rfl
        · simp only [go_sem, l154x7, b154, Tryz.f154, hd, hb', w1, hw, ratC]
          all_goals rfl
      rw [e1, loop_n, ih (d * 5) .undef .undef _ (.inl rfl) (by omega) (by omega) (by omega)]

/-- digits times a power of ten -/
def valR (below : Bool) (ds : List Int) (e : Int) : Int × Int :=
  let d := ds.dropWhile (· == 48)
  if d = [] then (0, 1) else
  if 18 < (core d).length then (0, 0) else
  turn below (scaleR (valN 0 (core d)) (e + (d.length - (core d).length)))
theorem drop_take (p : Int → Bool) : ∀ l : List Int, l.drop (l.takeWhile p).length = l.dropWhile p
  | [] => rfl
  | c :: t => by
    cases h : p c with
    | true => rw [List.takeWhile_cons_of_pos h, List.dropWhile_cons_of_pos h]; exact drop_take p t
    | false => rw [List.takeWhile_cons_of_neg (by simp [h]), List.dropWhile_cons_of_neg (by simp [h])]; rfl
theorem drop_head (p : Int → Bool) : ∀ l : List Int, ∀ c t, l.dropWhile p = c :: t → p c = false
  | [], c, t, h => by cases h
  | x :: l, c, t, h => by
    cases hx : p x with
    | true => rw [List.dropWhile_cons_of_pos hx] at h; exact drop_head p l c t h
    | false => rw [List.dropWhile_cons_of_neg (by simp [hx])] at h; cases h; exact hx
theorem core_all {l : List Int} (h : ∀ c ∈ l, dig c = true) : ∀ c ∈ core l, dig c = true := fun c hc => by
  unfold core at hc
  rw [List.mem_reverse] at hc
  exact h c (by simpa using (List.dropWhile_sublist _).subset hc)


/-! the pieces of its body -/
section
variable {lo : Nat} {below : Bool} {ds : List Int} {e : Int} {h : Heap}
noncomputable abbrev X154 (lo : Nat) (h : Heap) : Cx := ⟨Tryz.prog, E, lo, h.length, h154⟩
theorem p154a (hy : By ds) (hl : ds.length ≤ 100000000000) (hlo : lo ≤ h.length) : evL (X154 lo h) loopW (pc b154 0 5) (args0 [.v (.bool below), .v (.string (bs ds)), .v (.int .i64 e)], h) =
    if ds.dropWhile (· == 48) = [] then some (.ret, [(6, .ptr h.length 0)], h ++ [.cells (ratC (0, 1))])
    else some (.normal, S154 below ds e h (ds.takeWhile (· == 48)).length ds.length [(30, .v (.bool false))]) := by
  have hL0 := loop154a (lo := lo) (below := below) (e := e) (h := h) hy hl ds.length 0 (by omega) (by omega)
  simp only [List.drop_zero, Nat.zero_add] at hL0
  have hsum : ((ds.takeWhile (· == 48)).length) + (ds.dropWhile (· == 48)).length = ds.length := by
    rw [← List.length_append, List.takeWhile_append_dropWhile]
  have hk := f181 (h := h ++ [Ob.cells [V.v (Value.int IntKind.i64 0), V.v (Value.int IntKind.i64 0)]]) (lo := lo) (n := 0) (by simp; omega)
  generalize (ds.takeWhile (· == 48)).length = a at *
  generalize ds.dropWhile (· == 48) = D at *
  simp only [S154, l154x0, b154, Tryz.f154, loopAt, loops, bodyOf, go_sem, ratC] at hL0 hk
  cases D with
  | nil =>
    have t1 : ((a : Int) == (ds.length : Int)) = true := by simp at hsum ⊢; omega
    rw [if_pos rfl]
    simp only [go_sem, X154, b154, Tryz.f154, bs_size, hL0, t1, hk, ratC, hlo]
    all_goals rfl
  | cons c0 t0 =>
    have t1 : ((a : Int) == (ds.length : Int)) = false := by simp at hsum ⊢; omega
    rw [if_neg (by simp)]
    simp only [go_sem, X154, b154, Tryz.f154, bs_size, hL0, t1, ratC]
    all_goals rfl
theorem p154b {a : Nat} {c0 : Int} (hy : By ds) (hl : ds.length ≤ 100000000000) (ha : ds[a]? = some c0) (hc0 : c0 ≠ 48) (he0 : -2000000000000 ≤ e) (he1 : e ≤ 2000000000000) :
    ∃ b', a < b' ∧ b' ≤ ds.length ∧ (ds.take b').drop a = core (ds.drop a) ∧
      evL (X154 lo h) loopW (pc b154 5 1) (S154 below ds e h a ds.length [(30, .v (.bool false))]) = some (.normal, S154 below ds (e + ds.length - b') h a b' [(36, .v (.bool false))]) := by
  have hal : a < ds.length := (List.getElem?_eq_some_iff.1 ha).1
  obtain ⟨b', q1, q2, q3, q4⟩ := loop154b (lo := lo) (below := below) (h := h) hy hl ha hc0 ds.length ds.length e (.v (.bool false)) (by omega) hal (Nat.le_refl _) (by omega) (by omega)
  rw [List.take_length] at q3
  refine ⟨b', q1, q2, q3, ?_⟩
  simp only [S154, l154x1, b154, Tryz.f154, loopAt, loops, bodyOf, go_sem, ratC] at q4
  simp only [go_sem, X154, S154, b154, Tryz.f154, q4, ratC]
theorem p154c {a b : Nat} (hab : a ≤ b) (hb : b ≤ 100000000000) (hlo : lo ≤ h.length) : evL (X154 lo h) loopW (pc b154 6 2) (S154 below ds e h a b [(36, .v (.bool false))]) =
    if 18 < b - a then over154 h else some (.normal, S154 below ds e h a b [(44, .v (.bool false))]) := by
  have hw : IntKind.i64.wrap ((b : Int) - a) = ((b - a : Nat) : Int) := by rw [wrap_i64 (by omega) (by omega)]; omega
  have hk := ret153 (lo := lo) (h := h) (x := Ob.cells [V.v (Value.int IntKind.i64 0), V.v (Value.int IntKind.i64 0)]) hlo
  by_cases h18 : 18 < b - a
  · have t : decide (18 < ((b - a : Nat) : Int)) = true := by simp; omega
    rw [if_pos h18]
    simp only [go_sem, X154, S154, b154, Tryz.f154, hw, t, hk, hlo, ratC]
    all_goals rfl
  · have t : decide (18 < ((b - a : Nat) : Int)) = false := by simp; omega
    rw [if_neg h18]
    simp only [go_sem, X154, S154, b154, Tryz.f154, hw, t, ratC]
    all_goals rfl
theorem bytes_bs {l : List Int} (hy : By l) : byteRows (bs l) = ri .u8 l := by
  unfold byteRows bs u8s ri
  simp only [List.map_map]
  apply List.map_congr_left
  intro c hc
  have := hy c hc
  simp only [Function.comp]
  congr 4
  show ((UInt8.ofNat c.toNat).toNat : Int) = c
  simp only [UInt8.toNat_ofNat']
  omega
theorem p154d {a b : Nat} {d : List Int} (hd : ∀ c ∈ d, dig c = true) (hdl : d.length ≤ 18) (hab : a ≤ b) (hbl : b ≤ ds.length) (hdd : (ds.take b).drop a = d) :
    evL (X154 lo h) loopW (pc b154 8 3) (S154 below ds e h a b [(44, .v (.bool false))]) = some (.normal, C154 below e h (valN 0 d) (ri .u8 d) d.length d.length [(53, .v (.bool false))]) := by
  have hy : By d := fun c hc => by
    have := hd c hc
    simp only [dig, Bool.and_eq_true, decide_eq_true_eq] at this
    omega
  have hL := loop154c (lo := lo) (below := below) (e := e) (h := h) hd hdl d 0 0 rfl (by simp) (by omega) (by simp)
  simp only [C154, l154x2, b154, Tryz.f154, loopAt, loops, bodyOf, go_sem, ratC] at hL
  simp only [go_sem, X154, S154, C154, b154, Tryz.f154, bs_size, bs_ext, hab, hbl, hdd, bytes_bs hy, hL, ratC]
  all_goals rfl
theorem p154e {rows : List (List V)} {len k n : Int} (hlo : lo ≤ h.length) (he1 : e ≤ 4000000000000) (h0 : 0 ≤ n) (h1 : n ≤ 9223372036854775807) :
    evL (X154 lo h) loopW (pc b154 11 2) (C154 below e h n rows len k [(53, .v (.bool false))]) =
      match upN e.toNat n with
      | some n' => some (.normal, U154 below (if 0 < e then 0 else e) h n' [(64, .v (.bool false))])
      | none => over154 h := by
  have hL := loop154d (lo := lo) (below := below) (h := h) hlo e.toNat e n rfl he1 h0 h1
  cases hu : upN e.toNat n with
  | some n' =>
    rw [hu] at hL
    simp only [U154, l154x3, b154, Tryz.f154, loopAt, loops, bodyOf, go_sem, ratC] at hL
    simp only [go_sem, X154, C154, U154, b154, Tryz.f154, hL, ratC]
    all_goals rfl
  | none =>
    rw [hu] at hL
    simp only [U154, over154, l154x3, b154, Tryz.f154, loopAt, loops, bodyOf, go_sem, ratC] at hL
    simp only [go_sem, X154, C154, over154, b154, Tryz.f154, hL, ratC]
    all_goals rfl
theorem p154f {n : Int} (he0 : -4000000000000 ≤ e) (he1 : e ≤ 0) (h0 : 1 ≤ n) (h1 : n ≤ 9223372036854775807) :
    evL (X154 lo h) loopW (pc b154 13 3) (U154 below e h n [(64, .v (.bool false))]) =
      some (.normal, D154 below h (divN 5 (-e).toNat (divN 2 (-e).toNat n).2).2 1 (divN 2 (-e).toNat n).1 (divN 5 (-e).toNat (divN 2 (-e).toNat n).2).1 [(93, .v (.bool false))]) := by
  obtain ⟨k, hk⟩ : ∃ k, (-e).toNat = k := ⟨_, rfl⟩
  have hw : IntKind.i64.wrap (0 - e) = (k : Int) := by rw [wrap_i64 (by omega) (by omega)]; omega
  rw [hk]
  obtain ⟨a1, b1, c1, d1⟩ := divN_spec (y := 2) (by omega) k n h0
  have hL := loop154e (lo := lo) (below := below) (h := h) (d := 1) (b := k) k n (by omega) (by omega) (by omega)
  generalize divN 2 k n = r at *
  have hM := loop154f (lo := lo) (below := below) (h := h) (d := 1) (a := r.1) k r.2 [(82, .v (.bool false))] (.inr rfl) (by omega) (by omega) (by omega)
  simp only [D154, l154x4, l154x5, b154, Tryz.f154, loopAt, loops, bodyOf, go_sem, ratC] at hL hM
  simp only [go_sem, X154, U154, D154, b154, Tryz.f154, hw, hL, hM, ratC]
  all_goals rfl
theorem p154g {n : Int} {a b : Nat} (hlo : lo ≤ h.length) : evL (X154 lo h) loopW (pc b154 16 2) (D154 below h n 1 a b [(93, .v (.bool false))]) =
    if 62 < a ∨ 27 < b then over154 h else some (.normal, D154 below h n 1 a b [(103, .v (.bool false))]) := by
  have hk := ret153 (lo := lo) (h := h) (x := Ob.cells [V.v (Value.int IntKind.i64 0), V.v (Value.int IntKind.i64 0)]) hlo
  by_cases h62 : 62 < a
  · have t : decide (62 < (a : Int)) = true := by simp; omega
    rw [if_pos (.inl h62)]
    simp only [go_sem, X154, D154, b154, Tryz.f154, t, hk, hlo, ratC]
    all_goals rfl
  · have t : decide (62 < (a : Int)) = false := by simp; omega
    by_cases h27 : 27 < b
    · have t2 : decide (27 < (b : Int)) = true := by simp; omega
      rw [if_pos (.inr h27)]
      simp only [go_sem, X154, D154, b154, Tryz.f154, t, t2, hk, hlo, ratC]
      all_goals rfl
    · have t2 : decide (27 < (b : Int)) = false := by simp; omega
      rw [if_neg (by omega)]
      simp only [go_sem, X154, D154, b154, Tryz.f154, t, t2, ratC]
      all_goals rfl
theorem p154h {n b : Int} {a : Nat} (ha : a ≤ 62) : evL (X154 lo h) loopW (pc b154 18 1) (D154 below h n 1 a b [(103, .v (.bool false))]) = some (.normal, D154 below h n (2 ^ a) 0 b [(106, .v (.bool false))]) := by
  have hL := loop154g (lo := lo) (below := below) (h := h) (n := n) (b := b) a 0 (.v (.bool false)) (by omega)
  rw [Nat.zero_add] at hL
  simp only [D154, l154x6, b154, Tryz.f154, loopAt, loops, bodyOf, go_sem, ratC, Int.pow_zero] at hL
  simp only [go_sem, X154, D154, b154, Tryz.f154, hL, ratC]
theorem p154i {n d : Int} {b : Nat} (hlo : lo ≤ h.length) (hb : (b : Int) ≤ 9223372036854775807) (h0 : 0 ≤ d) (h1 : d ≤ 9223372036854775807) : evL (X154 lo h) loopW (pc b154 19 1) (D154 below h n d 0 b [(106, .v (.bool false))]) =
    match mulN 5 1844674407370955161 b d with
    | some d' => some (.normal, F154 below h n d' [(14, .v (.int .i64 0)), (112, .v (.bool false))])
    | none => over154 h := by
  have hL := loop154h (lo := lo) (below := below) (h := h) (n := n) hlo b d (.v (.int .i64 0)) (.v (.bool false)) [(106, .v (.bool false))] (.inr rfl) hb h0 h1
  cases hu : mulN 5 1844674407370955161 b d with
  | some d' =>
    rw [hu] at hL
    simp only [F154, l154x7, b154, Tryz.f154, loopAt, loops, bodyOf, go_sem, ratC] at hL
    simp only [go_sem, X154, D154, F154, b154, Tryz.f154, hL, ratC]
  | none =>
    rw [hu] at hL
    simp only [F154, over154, l154x7, b154, Tryz.f154, loopAt, loops, bodyOf, go_sem, ratC] at hL
    simp only [go_sem, X154, D154, over154, b154, Tryz.f154, hL, ratC]
theorem p154j {n d : Int} (hlo : lo ≤ h.length) (h0 : 0 ≤ n) (h1 : n ≤ 9223372036854775807) (g0 : 0 ≤ d) (g1 : d ≤ 9223372036854775807) : evL (X154 lo h) loopW (pc b154 20 4) (F154 below h n d [(14, .v (.int .i64 0)), (112, .v (.bool false))]) =
    some (.ret, [(6, .ptr h.length 0)], h ++ [.cells (ratC (turn below (some (n, d))))]) := by
  have w1 : IntKind.i64.wrap n = n := by rw [wrap_i64] <;> omega
  have w2 : IntKind.i64.wrap d = d := by rw [wrap_i64] <;> omega
  have w3 : IntKind.i64.wrap (0 - n) = -n := by rw [wrap_i64] <;> omega
  cases below with
  | true =>
    simp only [go_sem, X154, F154, b154, Tryz.f154, w1, w2, w3, hlo, turn, ratC]
    all_goals rfl
  | false =>
    simp only [go_sem, X154, F154, b154, Tryz.f154, w1, w2, w3, hlo, turn, ratC]
    all_goals rfl
end
end Go.Lift.R3
end

section
/- The reference's value of digits, whole. -/
open Go.Proofs
namespace Go.Lift.R3
open Utf Tok
set_option maxRecDepth 20000
set_option maxHeartbeats 2000000
set_option linter.unusedSimpArgs false
set_option linter.unusedVariables false

theorem core_ne (c : Int) (t : List Int) (hc : c ≠ 48) : ∃ u, core (c :: t) = c :: u := by
  unfold core
  rw [List.reverse_cons]
  have : ∀ l : List Int, ∃ u, (l ++ [c]).dropWhile (· == 48) = u ++ [c] := by
    intro l
    induction l with
    | nil => exact ⟨[], by rw [List.nil_append, List.dropWhile_cons_of_neg (by simpa using hc)]⟩
    | cons x l ih =>
      rw [List.cons_append]
      cases hx : (x == (48 : Int)) with
      | true => rw [List.dropWhile_cons_of_pos (p := (· == 48)) hx]; exact ih
      | false => rw [List.dropWhile_cons_of_neg (p := (· == 48)) (by simp [hx])]; exact ⟨x :: l, rfl⟩
  obtain ⟨u, hu⟩ := this t.reverse
  rw [hu]
  exact ⟨u.reverse, by simp⟩
theorem core_val {c : Int} {t : List Int} (hd : ∀ x ∈ c :: t, dig x = true) (hc : c ≠ 48) (hl : (core (c :: t)).length ≤ 18) : 1 ≤ valN 0 (core (c :: t)) ∧ valN 0 (core (c :: t)) < 10 ^ 18 := by
  obtain ⟨u, hu⟩ := core_ne c t hc
  have hmem := core_all hd
  rw [hu] at hl hmem ⊢
  have h1 := hmem c (by simp)
  simp only [dig, Bool.and_eq_true, decide_eq_true_eq] at h1
  have h2 : valN 0 (c :: u) = valN (c - 48) u := by simp [valN]
  rw [h2]
  obtain ⟨a, b, d⟩ := valN_bound u (c - 48) 1 (fun x hx => hmem x (by simp [hx])) (by omega) (by omega)
  refine ⟨by omega, ?_⟩
  simp only [List.length_cons] at hl
  obtain ⟨j, hj⟩ : ∃ j, 18 = 1 + u.length + j := ⟨18 - (1 + u.length), by omega⟩
  have h3 : (10 : Int) ^ (1 + u.length) ≤ 10 ^ 18 := by
    rw [hj, Int.pow_add _ (1 + u.length) j]
    have h0 := one_pow_le (y := 10) (by omega) (1 + u.length)
    exact le_mulr (by omega) (one_pow_le (by omega) j)
  omega

theorem turn_none (below : Bool) : turn below none = (0, 0) := rfl
theorem upN_le : ∀ (k : Nat) (n m : Int), 1 ≤ n → n ≤ 9223372036854775807 → upN k n = some m → 1 ≤ m ∧ m ≤ 9223372036854775807
  | 0, n, m, h0, h1, h => by simp only [upN, Option.some.injEq] at h; omega
  | k + 1, n, m, h0, h1, h => by
    simp only [upN] at h
    split at h
    · cases h
    · exact upN_le k (n * 10) m (by omega) (by omega) h
theorem mulN_le : ∀ (k : Nat) (n m : Int), 1 ≤ n → n ≤ 9223372036854775807 → mulN 5 1844674407370955161 k n = some m → 1 ≤ m ∧ m ≤ 9223372036854775807
  | 0, n, m, h0, h1, h => by simp only [mulN, Option.some.injEq] at h; omega
  | k + 1, n, m, h0, h1, h => by
    simp only [mulN] at h
    split at h
    · cases h
    · exact mulN_le k (n * 5) m (by omega) (by omega) h

theorem fin154 {h : Heap} {x : Int × Int} : fin Tryz.prog [.cell 6 32] h.length (some (.ret, [(6, .ptr h.length 0)], h ++ [.cells (ratC x)])) = some (.agg (ratC x), h) := by
  simp only [go_sem, ratC]
  all_goals rfl

/-- jalousieref1.value -/
theorem f154 {lo : Nat} {below : Bool} {ds : List Int} {e : Int} {h : Heap} (hd : ∀ c ∈ ds, dig c = true) (hl : ds.length ≤ 100000000000) (he0 : -2000000000000 ≤ e) (he1 : e ≤ 2000000000000) (hlo : lo ≤ h.length) :
    E lo 154 [.v (.bool below), .v (.string (bs ds)), .v (.int .i64 e)] h = some (.agg (ratC (valR below ds e)), h) := by
  have hy : By ds := fun c hc => by
    have := hd c hc
    simp only [dig, Bool.and_eq_true, decide_eq_true_eq] at this
    omega
  have hdt := drop_take (· == 48) ds
  have hsum : ((ds.takeWhile (· == 48)).length) + (ds.dropWhile (· == 48)).length = ds.length := by
    rw [← List.length_append, List.takeWhile_append_dropWhile]
  have hhead := drop_head (· == 48) ds
  have hmem : ∀ c ∈ ds.dropWhile (· == 48), dig c = true := fun c hc => hd c ((List.dropWhile_sublist _).subset hc)
  rw [e154 (by simp) (by rfl), pc_in, pc_go _ _ _ _ 0 5, p154a hy hl hlo]
  unfold valR
  generalize (ds.takeWhile (· == 48)).length = a at *
  generalize hD : ds.dropWhile (· == 48) = D at *
  cases D with
  | nil =>
    rw [if_pos rfl, pc_r]
    exact fin154
  | cons c0 t0 =>
    rw [if_neg (by simp), pc_go _ _ _ _ _ 1]
    have hc0 : c0 ≠ 48 := by have := hhead c0 t0 rfl; simpa using this
    have ha : ds[a]? = some c0 := by
      have := congrArg (·[0]?) hdt
      simpa using this
    obtain ⟨b', q1, q2, q3, q4⟩ := p154b (lo := lo) (below := below) (h := h) hy hl ha hc0 he0 he1
    rw [q4, pc_go _ _ _ _ _ 2, p154c (by omega) (by omega) hlo]
    rw [hdt] at q3
    have hlen : (core (c0 :: t0)).length = b' - a := by rw [← q3, List.length_drop, List.length_take]; omega
    simp only [reduceCtorEq, if_false]
    by_cases h18 : 18 < b' - a
    · rw [if_pos h18, if_pos (by omega), over154, pc_r]
      exact fin154
    rw [if_neg h18, if_neg (by omega), pc_go _ _ _ _ _ 3, p154d (core_all hmem) (by omega) (by omega) q2 q3, pc_go _ _ _ _ _ 2]
    obtain ⟨n0', n1⟩ := core_val hmem hc0 (by omega)
    have h1018 : (10 : Int) ^ 18 = 1000000000000000000 := by decide
    rw [p154e hlo (by omega) (by omega) (by omega)]
    have hE : e + (((c0 :: t0).length : Int) - ((core (c0 :: t0)).length : Int)) = e + ds.length - b' := by
      rw [hlen]; omega
    rw [hE]
    generalize valN 0 (core (c0 :: t0)) = n at *
    have hEb : -4000000000000 ≤ e + ds.length - b' ∧ e + ds.length - b' ≤ 4000000000000 := by omega
    generalize e + (ds.length : Int) - (b' : Int) = p at *
    unfold scaleR
    cases hu : upN p.toNat n with
    | none =>
      rw [over154]
      simp only
      rw [pc_r]
      exact fin154
    | some m =>
      obtain ⟨m0, m1⟩ := upN_le _ _ _ n0' (by omega) hu
      simp only
      have hp0 : (if 0 < p then (0 : Int) else p) ≤ 0 := by split <;> omega
      have hpn : (-(if 0 < p then (0 : Int) else p)).toNat = (-p).toNat := by split <;> omega
      rw [pc_go _ _ _ _ _ 3, p154f (by split <;> omega) hp0 m0 m1, hpn]
      obtain ⟨a1, b1, c1, d1⟩ := divN_spec (y := 2) (by omega) (-p).toNat m m0
      obtain ⟨a2, b2, c2, d2⟩ := divN_spec (y := 5) (by omega) (-p).toNat _ b1
      generalize divN 2 (-p).toNat m = r at *
      generalize divN 5 (-p).toNat r.2 = s at *
      rw [pc_go _ _ _ _ _ 2, p154g hlo]
      by_cases hov : 62 < r.1 ∨ 27 < s.1
      · rw [if_pos hov, if_pos hov, over154, pc_r]
        exact fin154
      · rw [if_neg hov, if_neg hov, pc_go _ _ _ _ _ 1, p154h (by omega), pc_go _ _ _ _ _ 1]
        have h62 : (2 : Int) ^ 62 = 4611686018427387904 := by decide
        have g1 := two_pow_le (show r.1 ≤ 62 by omega)
        have g0 := one_pow_le (y := 2) (by omega) r.1
        rw [p154i hlo (by omega) (by omega) (by omega)]
        cases hm : mulN 5 1844674407370955161 s.1 (2 ^ r.1) with
        | none =>
          simp only [Option.map_none]
          rw [over154, pc_r]
          exact fin154
        | some d =>
          obtain ⟨d0, d1⟩ := mulN_le _ _ _ (by omega) (by omega) hm
          simp only [Option.map_some]
          rw [pc_go _ _ _ _ _ 4, p154j hlo (by omega) (by omega) (by omega) (by omega), pc_r]
          exact fin154
end Go.Lift.R3
end

section
/- The reference's Decimal. -/
open Go.Proofs
namespace Go.Lift.R3
open Utf Tok
set_option maxRecDepth 20000
set_option maxHeartbeats 4000000
set_option linter.unusedSimpArgs false
set_option linter.unusedVariables false

theorem expN_in : ∀ (l : List Int) (e : Int), (∀ c ∈ l, dig c = true) → 0 ≤ e → e ≤ 1099511627776 → 0 ≤ expN e l ∧ expN e l ≤ 1099511627776
  | [], e, _, h0, h1 => ⟨h0, h1⟩
  | c :: t, e, hl, h0, h1 => by
    have hc := hl c (by simp)
    simp only [dig, Bool.and_eq_true, decide_eq_true_eq] at hc
    simp only [expN]
    exact expN_in t _ (fun x hx => hl x (by simp [hx])) (by split <;> omega) (by split <;> omega)

theorem tw_all : ∀ {l : List Int}, (∀ c ∈ l, dig c = true) → l.takeWhile dig = l
  | [], _ => rfl
  | c :: t, h => by rw [List.takeWhile_cons_of_pos (h c (by simp)), tw_all fun x hx => h x (by simp [hx])]
section
variable {lo : Nat} {t : List Int} {h : Heap} {neg : Bool}
noncomputable abbrev X120 (lo : Nat) (h : Heap) : Cx := ⟨Tryz.prog, E, lo, h.length, h120⟩
abbrev P120 (t : List Int) (h : Heap) (i : Int) (neg : Bool) (j : Int) (ds : List Int) (fr : Int) (whole : Bool) (e : Int) (down : Bool) (ex : Env) : Env × Heap :=
  ((0, .v (.string (bs t))) :: (2, .ptr h.length 0) :: (5, .v (.int .i64 i)) :: (6, .v (.bool neg)) :: (7, .v (.int .i64 j)) :: (8, .v (.string (bs ds))) :: (9, .v (.int .i64 fr)) :: (10, .v (.bool whole)) :: (11, .v (.int .i64 e)) :: (12, .v (.bool down)) :: ex, h ++ [.cells (ratC (0, 0))])
theorem loop120 {ds : List Int} {fr : Int} {whole down : Bool} (hy : By t) (hl : t.length ≤ 100000000000) : ∀ (r : List Int) (i : Nat) (e : Int) (x : V), t.drop i = r → i + r.length = t.length → (∀ c ∈ r, dig c = true) → 0 ≤ e → e ≤ 1099511627776 →
    loopW (evCode (X120 lo h) loopW l120x0) (P120 t h i neg t.length ds fr whole e down [(127, x)]) =
      some (.exit 0, P120 t h t.length neg t.length ds fr whole (expN e r) down [(131, .v (.bool false))]) := by
  intro r
  induction r with
  | nil =>
    intro i e x hr hi hd h0 h1
    obtain rfl : i = t.length := by simpa using hi
    have hlt : decide ((t.length : Int) < (t.length : Int)) = false := by simp
    rw [loop_eq]
    simp only [go_sem, X120, l120x0, b120, Tryz.f120, hlt, expN, ratC]
    all_goals rfl
  | cons c r ih =>
    intro i e x hr hi hd h0 h1
    simp only [List.length_cons] at hi
    have hlt : decide ((i : Int) < (t.length : Int)) = true := by simp; omega
    have hc : t[i]? = some c := by
      have := congrArg (·[0]?) hr
      simpa using this
    have hcd := hd c (by simp)
    simp only [dig, Bool.and_eq_true, decide_eq_true_eq] at hcd
    have hw : IntKind.i64.wrap ((i : Int) + 1) = ((i + 1 : Nat) : Int) := wrap_succ (by omega)
    have w1 : IntKind.i64.wrap (e * 10) = e * 10 := wrap_i64 (by omega) (by omega)
    have w2 : IntKind.u8.wrap (c - 48) = c - 48 := wrap_u8 (by omega) (by omega)
    have w3 : IntKind.i64.wrap (c - 48) = c - 48 := wrap_i64 (by omega) (by omega)
    have w4 : IntKind.i64.wrap (e * 10 + (c - 48)) = e * 10 + (c - 48) := wrap_i64 (by omega) (by omega)
    have e1 : evCode (X120 lo h) loopW l120x0 (P120 t h i neg t.length ds fr whole e down [(127, x)]) =
        some (.normal, P120 t h (i + 1 : Nat) neg t.length ds fr whole (if 1099511627776 < e * 10 + (c - 48) then 1099511627776 else e * 10 + (c - 48)) down [(127, .undef)]) := by
      simp only [go_sem, X120, l120x0, b120, Tryz.f120, hlt, bs_ix hy, hc, w1, w2, w3, w4, hw, ratC]
      all_goals rfl
    rw [loop_eq, e1, loop_n, ih (i + 1) _ .undef (by rw [← List.drop_drop, hr]; rfl) (by omega) (fun x hx => hd x (by simp [hx])) (by split <;> omega) (by split <;> omega)]
    rfl

/-- the sign -/
theorem p120a {k : Nat} (hy : By t) (hl : t.length ≤ 100000000000) (hlo : lo ≤ h.length)
    (ht : (∃ c, t[0]? = some c ∧ (c == 43) = false ∧ (c == 45) = false ∧ k = 0 ∧ neg = false) ∨ (t[0]? = some 43 ∧ k = 1 ∧ neg = false) ∨ (t[0]? = some 45 ∧ k = 1 ∧ neg = true)) :
    ∃ x, evL (X120 lo h) loopW (pc b120 0 4) (args0 [.v (.string (bs t))], h) = some (.normal, [(0, .v (.string (bs t))), (2, .ptr h.length 0), (5, .v (.int .i64 k)), (6, .v (.bool neg)), (28, x)], h ++ [.cells (ratC (0, 0))]) := by
  have hlen : 0 < t.length := by
    rcases ht with ⟨c, h, _⟩ | ⟨h, _⟩ | ⟨h, _⟩ <;> exact (List.getElem?_eq_some_iff.1 h).1
  have t0 : decide ((0 : Int) < (t.length : Int)) = true := by simp; omega
  have z0 : (0 : Int).toNat = 0 := rfl
  have w1 : IntKind.i64.wrap (0 + 1) = 1 := rfl
  rcases ht with ⟨c, hc, c1, c2, rfl, rfl⟩ | ⟨hc, rfl, rfl⟩ | ⟨hc, rfl, rfl⟩
  · refine ⟨.v (.bool false), ?_⟩
    simp only [go_sem, X120, b120, Tryz.f120, bs_size, t0, bs_ix hy, z0, hc, c1, c2, ratC]
    all_goals rfl
  · have c1 : ((43 : Int) == 43) = true := rfl
    have c2 : ((43 : Int) == 45) = false := rfl
    refine ⟨.undef, ?_⟩
    simp only [go_sem, X120, b120, Tryz.f120, bs_size, t0, bs_ix hy, z0, hc, c1, c2, w1, ratC]
    all_goals rfl
  · have c1 : ((45 : Int) == 43) = false := rfl
    have c2 : ((45 : Int) == 45) = true := rfl
    refine ⟨.undef, ?_⟩
    simp only [go_sem, X120, b120, Tryz.f120, bs_size, t0, bs_ix hy, z0, hc, c1, c2, w1, ratC]
    all_goals rfl

/-- the digits ahead of the point; is there one? -/
theorem p120b {k j : Nat} {d : List Int} {x : V} {pt : Bool} (hy : By t) (hl : t.length ≤ 100000000000) (hk : k ≤ t.length) (hj : k + ((t.drop k).takeWhile dig).length = j) (hjl : j ≤ t.length) (hd : (t.take j).drop k = d)
    (hpt : (∃ c, t[j]? = some c ∧ (c == 46) = pt) ∨ (t.length ≤ j ∧ pt = false)) :
    evL (X120 lo h) loopW (pc b120 4 4) ([(0, .v (.string (bs t))), (2, .ptr h.length 0), (5, .v (.int .i64 k)), (6, .v (.bool neg)), (28, x)], h ++ [.cells (ratC (0, 0))]) =
      some (.normal, [(0, .v (.string (bs t))), (2, .ptr h.length 0), (5, .v (.int .i64 j)), (6, .v (.bool neg)), (8, .v (.string (bs d))), (9, .v (.int .i64 0)), (10, .v (.bool true)), (52, .v (.bool pt))], h ++ [.cells (ratC (0, 0))]) := by
  have k152 := fun h => f152 (lo := lo) (h := h) hy hl hk
  have hkj : k ≤ j := by omega
  simp only [hj] at k152
  rcases hpt with ⟨c, hc, rfl⟩ | ⟨hn, rfl⟩
  · have hlt := (List.getElem?_eq_some_iff.1 hc).1
    have t1 : decide ((j : Int) < (t.length : Int)) = true := by simp; omega
    simp only [go_sem, X120, b120, Tryz.f120, bs_size, k152, bs_ext, hd, hkj, hjl, t1, bs_ix hy, hc, ratC]
    all_goals rfl
  · have t1 : decide ((j : Int) < (t.length : Int)) = false := by simp; omega
    have hnn : t[j]? = none := List.getElem?_eq_none hn
    simp only [go_sem, X120, b120, Tryz.f120, bs_size, k152, bs_ext, hd, hkj, hjl, t1, bs_ix hy, hnn, ratC]
    all_goals rfl

/-- what stands behind the point -/
theorem p120c0 {j : Nat} {d : List Int} : evL (X120 lo h) loopW (pc b120 8 1) ([(0, .v (.string (bs t))), (2, .ptr h.length 0), (5, .v (.int .i64 j)), (6, .v (.bool neg)), (8, .v (.string (bs d))), (9, .v (.int .i64 0)), (10, .v (.bool true)), (52, .v (.bool false))], h ++ [.cells (ratC (0, 0))]) =
      some (.normal, [(0, .v (.string (bs t))), (2, .ptr h.length 0), (5, .v (.int .i64 j)), (6, .v (.bool neg)), (8, .v (.string (bs d))), (9, .v (.int .i64 0)), (10, .v (.bool true)), (52, .v (.bool false))], h ++ [.cells (ratC (0, 0))]) := by
  simp only [go_sem, X120, b120, Tryz.f120, ratC]
theorem p120c1 {j n : Nat} {d f : List Int} (hy : By t) (hl : t.length ≤ 100000000000) (hdl : d.length ≤ 100000000000) (hjl : j + 1 ≤ t.length) (hn : j + 1 + ((t.drop (j + 1)).takeWhile dig).length = n) (hnl : n ≤ t.length) (hnj : j + 1 < n) (hf : (t.take n).drop (j + 1) = f) :
    evL (X120 lo h) loopW (pc b120 8 1) ([(0, .v (.string (bs t))), (2, .ptr h.length 0), (5, .v (.int .i64 j)), (6, .v (.bool neg)), (8, .v (.string (bs d))), (9, .v (.int .i64 0)), (10, .v (.bool true)), (52, .v (.bool true))], h ++ [.cells (ratC (0, 0))]) =
      some (.normal, [(0, .v (.string (bs t))), (2, .ptr h.length 0), (5, .v (.int .i64 n)), (6, .v (.bool neg)), (8, .v (.string (bs (d ++ f)))), (9, .v (.int .i64 f.length)), (10, .v (.bool false)), (52, .undef)], h ++ [.cells (ratC (0, 0))]) := by
  have hw : IntKind.i64.wrap ((j : Int) + 1) = ((j + 1 : Nat) : Int) := wrap_succ (by omega)
  have k152 := fun h => f152 (lo := lo) (h := h) hy hl hjl
  simp only [hn] at k152
  have t1 : ((n : Int) == ((j + 1 : Nat) : Int)) = false := by simp; omega
  have hflen : f.length = n - (j + 1) := by rw [← hf, List.length_drop, List.length_take]; omega
  have w2 : IntKind.i64.wrap ((n : Int) - j) = ((n - j : Nat) : Int) := by rw [wrap_i64 (by omega) (by omega)]; omega
  have w3 : IntKind.i64.wrap (((n - j : Nat) : Int) - 1) = (f.length : Int) := by rw [wrap_i64 (by omega) (by omega)]; omega
  have hjn : j + 1 ≤ n := by omega
  have hsz : d.length + f.length ≤ 9223372036854775807 := by omega
  simp only [go_sem, X120, b120, Tryz.f120, bs_size, hw, k152, t1, bs_ext, hf, hjn, hnl, hsz, bs_app, w2, w3, ratC]
  all_goals rfl

/-- there are digits; does more come? -/
theorem p120d {j : Nat} {d : List Int} {fr : Int} {whole more : Bool} {x : V} (hd : d ≠ []) (hm : decide (j < t.length) = more) :
    evL (X120 lo h) loopW (pc b120 9 4) ([(0, .v (.string (bs t))), (2, .ptr h.length 0), (5, .v (.int .i64 j)), (6, .v (.bool neg)), (8, .v (.string (bs d))), (9, .v (.int .i64 fr)), (10, .v (.bool whole)), (52, x)], h ++ [.cells (ratC (0, 0))]) =
      some (.normal, [(0, .v (.string (bs t))), (2, .ptr h.length 0), (5, .v (.int .i64 j)), (6, .v (.bool neg)), (8, .v (.string (bs d))), (9, .v (.int .i64 fr)), (10, .v (.bool whole)), (11, .v (.int .i64 0)), (80, .v (.bool more))], h ++ [.cells (ratC (0, 0))]) := by
  have t1 : ((bs d).toList == (⟨#[]⟩ : ByteArray).toList) = false := (bs_nil_eq d).trans (by simp [hd])
  have t2 : decide ((j : Int) < (t.length : Int)) = more := by rw [← hm]; simp
  simp only [go_sem, X120, b120, Tryz.f120, bs_size, t1, t2, ratC]
  all_goals rfl

/-- no exponent -/
theorem p120e0 {d : List Int} {fr j : Int} {whole : Bool} {y : Int × Int} (hlo : lo ≤ h.length) (hw : IntKind.i64.wrap (0 - fr) = -fr)
    (hv : ∀ h, lo ≤ h.length → E lo 154 [.v (.bool neg), .v (.string (bs d)), .v (.int .i64 (-fr))] h = some (.agg (ratC y), h)) :
    evL (X120 lo h) loopW (pc b120 13 3) ([(0, .v (.string (bs t))), (2, .ptr h.length 0), (5, .v (.int .i64 j)), (6, .v (.bool neg)), (8, .v (.string (bs d))), (9, .v (.int .i64 fr)), (10, .v (.bool whole)), (11, .v (.int .i64 0)), (80, .v (.bool false))], h ++ [.cells (ratC (0, 0))]) =
      some (.ret, [(2, .ptr h.length 0), (3, .v (.bool whole)), (4, .v (.int .i64 0))], h ++ [.cells (ratC y)]) := by
  have k := hv (h ++ [.cells (ratC (0, 0))]) (by simp; omega)
  simp only [ratC] at k
  simp only [go_sem, X120, b120, Tryz.f120, hw, k, hlo, ratC]
  all_goals rfl
theorem p120e1 {d r : List Int} {fr c : Int} {j i : Nat} {whole down : Bool} {y : Int × Int} (hy : By t) (hl : t.length ≤ 100000000000) (hlo : lo ≤ h.length)
    (hc : t[j]? = some c) (hce : (c != 101 && c != 69) = false)
    (hi : (∃ s, t[j + 1]? = some s ∧ (s == 43 || s == 45) = true ∧ i = j + 2 ∧ down = (s == 45)) ∨ (∃ s, t[j + 1]? = some s ∧ (s == 43 || s == 45) = false ∧ i = j + 1 ∧ down = false))
    (hr : t.drop i = r) (hrd : ∀ x ∈ r, dig x = true) (hr0 : r ≠ []) (hil : i + r.length = t.length) (hf0 : 0 ≤ fr) (hf1 : fr ≤ 100000000000)
    (hv : ∀ h, lo ≤ h.length → E lo 154 [.v (.bool neg), .v (.string (bs d)), .v (.int .i64 ((if down = true then - expN 0 r else expN 0 r) - fr))] h = some (.agg (ratC y), h)) :
    evL (X120 lo h) loopW (pc b120 13 3) ([(0, .v (.string (bs t))), (2, .ptr h.length 0), (5, .v (.int .i64 j)), (6, .v (.bool neg)), (8, .v (.string (bs d))), (9, .v (.int .i64 fr)), (10, .v (.bool whole)), (11, .v (.int .i64 0)), (80, .v (.bool true))], h ++ [.cells (ratC (0, 0))]) =
      some (.ret, [(2, .ptr h.length 0), (3, .v (.bool false)), (4, .v (.int .i64 0))], h ++ [.cells (ratC y)]) := by
  have k := hv (h ++ [.cells (ratC (0, 0))]) (by simp; omega)
  have w1 : IntKind.i64.wrap ((j : Int) + 1) = ((j + 1 : Nat) : Int) := wrap_succ (by have := (List.getElem?_eq_some_iff.1 hc).1; omega)
  have w2 : IntKind.i64.wrap (((j + 1 : Nat) : Int) + 1) = ((j + 2 : Nat) : Int) := wrap_succ (by have := (List.getElem?_eq_some_iff.1 hc).1; omega)
  have htw : ((t.drop i).takeWhile dig).length = r.length := by
    rw [hr, tw_all hrd]
  have hrl : 1 ≤ r.length := by
    cases r with
    | nil => exact absurd rfl hr0
    | cons _ _ => simp
  have hil2 : i ≤ t.length := by omega
  have k152 := fun h => f152 (lo := lo) (h := h) hy hl hil2
  simp only [htw, hil] at k152
  have t1 : ((t.length : Int) == (i : Int)) = false := by simp; omega
  have t2 : ((t.length : Int) != (t.length : Int)) = false := by simp
  have hL := loop120 (lo := lo) (h := h) (neg := neg) (ds := d) (fr := fr) (whole := false) (down := down) hy hl r i 0 (.v (.bool false)) hr hil hrd (by omega) (by omega)
  obtain ⟨x0, x1⟩ := expN_in r 0 hrd (by omega) (by omega)
  generalize expN 0 r = ee at *
  simp only [P120, X120, l120x0, b120, Tryz.f120, loopAt, loops, bodyOf, go_sem, ratC] at hL
  simp only [ratC] at k
  rcases hi with ⟨s, hs, hss, rfl, rfl⟩ | ⟨s, hs, hss, rfl, rfl⟩
  · have hlt : decide (((j + 1 : Nat) : Int) < (t.length : Int)) = true := by have := (List.getElem?_eq_some_iff.1 hs).1; simp; omega
    cases hdn : (s == 45) with
    | true =>
      rw [hdn] at k hL
      simp only [if_true] at k
      have w3 : IntKind.i64.wrap (0 - ee) = -ee := by rw [wrap_i64 (by omega) (by omega)]; omega
      have w4 : IntKind.i64.wrap (-ee - fr) = -ee - fr := by rw [wrap_i64 (by omega) (by omega)]
      simp only [hdn, Bool.or_true] at hss
      simp only [go_sem, X120, b120, Tryz.f120, bs_size, bs_ix hy, hc, hce, w1, w2, hs, hss, hdn, hlt, k152, t1, t2, hL, w3, w4, k, hlo, ratC]
      all_goals rfl
    | false =>
      have h43 : (s == 43) = true := by simpa [hdn] using hss
      rw [hdn] at k hL hss
      simp only [Bool.false_eq_true, if_false] at k
      have w4 : IntKind.i64.wrap (ee - fr) = ee - fr := by rw [wrap_i64 (by omega) (by omega)]
      simp only [go_sem, X120, b120, Tryz.f120, bs_size, bs_ix hy, hc, hce, w1, w2, hs, h43, hdn, hlt, k152, t1, t2, hL, w4, k, hlo, ratC]
      all_goals rfl
  · have hlt : decide (((j + 1 : Nat) : Int) < (t.length : Int)) = true := by have := (List.getElem?_eq_some_iff.1 hs).1; simp; omega
    simp only [Bool.false_eq_true, if_false] at k
    have w4 : IntKind.i64.wrap (ee - fr) = ee - fr := by rw [wrap_i64 (by omega) (by omega)]
    simp only [go_sem, X120, b120, Tryz.f120, bs_size, bs_ix hy, hc, hce, w1, w2, hs, hss, hlt, k152, t1, t2, hL, w4, k, hlo, ratC]
    all_goals rfl
end
end Go.Lift.R3
end

section
/- A number's text, place by place; the reference's Decimal, whole. -/
open Go.Proofs
namespace Go.Lift.R3
open Utf Tok
set_option maxRecDepth 20000
set_option maxHeartbeats 4000000
set_option linter.unusedSimpArgs false
set_option linter.unusedVariables false

theorem tw_app {r : List Int} (hr : ∀ c u, r = c :: u → dig c = false) : ∀ {l : List Int}, (∀ c ∈ l, dig c = true) → (l ++ r).takeWhile dig = l
  | [], _ => by
    cases r with
    | nil => rfl
    | cons c u => rw [List.nil_append, List.takeWhile_cons_of_neg (by simp [hr c u rfl])]
  | c :: t, h => by rw [List.cons_append, List.takeWhile_cons_of_pos (h c (by simp)), tw_app hr fun x hx => h x (by simp [hx])]
theorem all_dig {l : List Int} (h : l.all dig = true) : ∀ c ∈ l, dig c = true := fun c hc => List.all_eq_true.1 h c hc

/-- the point and what is behind it; the exponent -/
def nmF (n : Nm) : List Int := if n.fr = [] then [] else 46 :: n.fr
def nmR (n : Nm) : List Int := n.ex ++ n.d3
theorem nm_text (n : Nm) : n.text = n.sg ++ (n.d1 ++ (nmF n ++ nmR n)) := by simp [Nm.text, nmF, nmR]
theorem nmR_head {n : Nm} (ok : n.Ok) : ∀ c u, nmR n = c :: u → dig c = false ∧ (c = 101 ∨ c = 69) := by
  intro c u h
  unfold nmR at h
  rcases ok.ex with ⟨h1, h2⟩ | ⟨⟨e, he, h1 | h1 | h1⟩, h2⟩
  · rw [h1, h2] at h; cases h
  all_goals
    rw [h1] at h
    cases h
    rcases he with rfl | rfl
    · exact ⟨rfl, .inl rfl⟩
    · exact ⟨rfl, .inr rfl⟩
theorem nmF_head {n : Nm} (ok : n.Ok) : ∀ c u, nmF n ++ nmR n = c :: u → dig c = false := by
  intro c u h
  unfold nmF at h
  split at h
  · exact (nmR_head ok c u h).1
  · cases h; rfl
theorem nm_by {n : Nm} (ok : n.Ok) : By n.text := by
  have dg : ∀ {l : List Int}, l.all dig = true → ∀ c ∈ l, 0 ≤ c ∧ c ≤ 255 := fun h c hc => by
    have := all_dig h c hc
    simp only [dig, Bool.and_eq_true, decide_eq_true_eq] at this
    omega
  intro c hc
  rw [nm_text, List.mem_append, List.mem_append, List.mem_append] at hc
  rcases hc with hc | hc | hc | hc
  · rcases ok.sg with h | h | h <;> rw [h] at hc <;> simp at hc <;> subst hc <;> decide
  · exact dg ok.d1 c hc
  · unfold nmF at hc
    split at hc
    · cases hc
    · rcases List.mem_cons.1 hc with rfl | hc
      · decide
      · exact dg ok.fr c hc
  · unfold nmR at hc
    rcases List.mem_append.1 hc with hc | hc
    · rcases ok.ex with ⟨h1, h2⟩ | ⟨⟨e, he, h1 | h1 | h1⟩, h2⟩
      · rw [h1] at hc; cases hc
      all_goals
        rw [h1] at hc
        simp at hc
        omega
    · exact dg ok.d3 c hc
theorem ratio_val (w : Wr) : ratio w = valR w.below w.digits (w.exp - w.behind) := rfl

theorem fin120 {h : Heap} {x : Int × Int} {whole : Bool} : fin Tryz.prog [.cell 2 32, .tmp 3, .tmp 4] h.length (some (.ret, [(2, .ptr h.length 0), (3, .v (.bool whole)), (4, .v (.int .i64 0))], h ++ [.cells (ratC x)])) = some (.tup [.agg (ratC x), .v (.bool whole), .v (.int .i64 0)], h) := by
  simp only [go_sem, ratC]
  all_goals rfl

/-- jalousieref1.Decimal, of a number's text -/
theorem f120 {lo : Nat} {n : Nm} {h : Heap} (ok : n.Ok) (hl : n.text.length ≤ 100000000000) (hlo : lo ≤ h.length) :
    E lo 120 [.v (.string (bs n.text))] h = some (.tup [.agg (ratC n.num.1), .v (.bool n.num.2), .v (.int .i64 0)], h) := by
  have hy := nm_by ok
  have hT := nm_text n
  have hF := nmF_head ok
  have hRh := nmR_head ok
  obtain ⟨k, hk⟩ : ∃ k, n.sg.length = k := ⟨_, rfl⟩
  obtain ⟨j, hj⟩ : ∃ j, k + n.d1.length = j := ⟨_, rfl⟩
  obtain ⟨m, hm⟩ : ∃ m, j + (nmF n).length = m := ⟨_, rfl⟩
  generalize n.text = t at *
  have hlen : t.length = m + (nmR n).length := by rw [hT]; simp; omega
  have D1 : t.drop k = n.d1 ++ (nmF n ++ nmR n) := by rw [hT, ← hk, List.drop_left]
  have D2 : t.drop j = nmF n ++ nmR n := by rw [← hj, ← List.drop_drop, D1, List.drop_left]
  have D3 : t.drop m = nmR n := by rw [← hm, ← List.drop_drop, D2, List.drop_left]
  have at_ : ∀ i, t[i]? = (t.drop i)[0]? := fun i => by simp
  have hd1 := all_dig ok.d1
  have hfr := all_dig ok.fr
  have hd3 := all_dig ok.d3
  have ht0 : (∃ c, t[0]? = some c ∧ (c == 43) = false ∧ (c == 45) = false ∧ k = 0 ∧ (n.sg == [45]) = false) ∨ (t[0]? = some 43 ∧ k = 1 ∧ (n.sg == [45]) = false) ∨ (t[0]? = some 45 ∧ k = 1 ∧ (n.sg == [45]) = true) := by
    rcases ok.sg with hs | hs | hs
    · left
      rw [hs] at hk hT ⊢
      rw [List.nil_append] at hT
      cases hd : n.d1 with
      | cons c u =>
        have hc := hd1 c (by rw [hd]; simp)
        simp only [dig, Bool.and_eq_true, decide_eq_true_eq] at hc
        exact ⟨c, by rw [hT, hd]; rfl, by simp; omega, by simp; omega, hk.symm, rfl⟩
      | nil =>
        have hne : n.fr ≠ [] := fun h => ok.some (by rw [hd, h]; rfl)
        exact ⟨46, by rw [hT, hd]; unfold nmF; rw [if_neg hne]; rfl, rfl, rfl, hk.symm, rfl⟩
    · exact .inr (.inl ⟨by rw [hT, hs]; rfl, by rw [← hk, hs]; rfl, by rw [hs]; rfl⟩)
    · exact .inr (.inr ⟨by rw [hT, hs]; rfl, by rw [← hk, hs]; rfl, by rw [hs]; rfl⟩)
  obtain ⟨x, hA⟩ := p120a (lo := lo) (h := h) (neg := n.sg == [45]) hy hl hlo ht0
  rw [e120 (by simp) (by rfl), pc_in, pc_go _ _ _ _ 0 4, hA, pc_go _ _ _ _ _ 4]
  have htw : ((t.drop k).takeWhile dig).length = n.d1.length := by rw [D1, tw_app hF hd1]
  have hex1 : (t.take j).drop k = n.d1 := by
    rw [← hj, ← List.take_drop, D1, List.take_left]
  rw [p120b (pt := !n.fr.isEmpty) hy hl (by omega) (by omega) (by omega) hex1 (by
    cases hfe : n.fr with
    | cons c u => exact .inl ⟨46, by rw [at_, D2]; unfold nmF; rw [hfe]; rfl, rfl⟩
    | nil =>
      cases hr : nmR n with
      | nil => exact .inr ⟨by rw [hlen, hr, ← hm]; unfold nmF; rw [hfe]; simp, rfl⟩
      | cons c u =>
        refine .inl ⟨c, by rw [at_, D2, hr]; unfold nmF; rw [hfe]; rfl, ?_⟩
        rcases (hRh c u hr).2 with rfl | rfl <;> rfl)]
  rw [pc_go _ _ _ _ _ 1]
  -- behind the point
  have hB : ∃ y, evL (X120 lo h) loopW (pc b120 8 1) ([(0, .v (.string (bs t))), (2, .ptr h.length 0), (5, .v (.int .i64 j)), (6, .v (.bool (n.sg == [45]))), (8, .v (.string (bs n.d1))), (9, .v (.int .i64 0)), (10, .v (.bool true)), (52, .v (.bool (!n.fr.isEmpty)))], h ++ [.cells (ratC (0, 0))]) =
      some (.normal, [(0, .v (.string (bs t))), (2, .ptr h.length 0), (5, .v (.int .i64 m)), (6, .v (.bool (n.sg == [45]))), (8, .v (.string (bs (n.d1 ++ n.fr)))), (9, .v (.int .i64 n.fr.length)), (10, .v (.bool n.fr.isEmpty)), (52, y)], h ++ [.cells (ratC (0, 0))]) := by
    cases hfe : n.fr with
    | nil =>
      have : m = j := by rw [← hm]; unfold nmF; rw [hfe]; simp
      subst this
      refine ⟨.v (.bool false), ?_⟩
      rw [List.append_nil]
      exact p120c0
    | cons c u =>
      have hnF : nmF n = 46 :: n.fr := by unfold nmF; rw [if_neg (by simp [hfe])]
      have D2' : t.drop (j + 1) = n.fr ++ nmR n := by rw [← List.drop_drop, D2, hnF]; rfl
      have hm' : m = j + 1 + n.fr.length := by rw [← hm, hnF]; simp; omega
      have h1 : ((t.drop (j + 1)).takeWhile dig).length = n.fr.length := by rw [D2', tw_app (fun c u h => (hRh c u h).1) hfr]
      have h2 : (t.take m).drop (j + 1) = n.fr := by rw [hm', ← List.take_drop, D2', List.take_left]
      have hpos : 0 < n.fr.length := by rw [hfe]; simp
      refine ⟨.undef, ?_⟩
      have := p120c1 (lo := lo) (h := h) (neg := n.sg == [45]) (j := j) (n := m) (d := n.d1) (f := n.fr) hy hl (by omega) (by omega) (by omega) (by omega) (by omega) h2
      rw [← hfe] 
      simpa [hfe] using this
  obtain ⟨y, hB⟩ := hB
  rw [hB, pc_go _ _ _ _ _ 4]
  have hne : n.d1 ++ n.fr ≠ [] := ok.some
  have hall : ∀ c ∈ n.d1 ++ n.fr, dig c = true := fun c hc => by
    rcases List.mem_append.1 hc with hc | hc
    · exact hd1 c hc
    · exact hfr c hc
  have hfl : n.fr.length ≤ (nmF n).length := by unfold nmF; split <;> simp_all
  have hsz : (n.d1 ++ n.fr).length ≤ 100000000000 := by simp; omega
  rcases ok.ex with ⟨h1, h2⟩ | ⟨⟨e, he, hx⟩, h2⟩
  · have hr : nmR n = [] := by unfold nmR; rw [h1, h2]; rfl
    rw [p120d (more := false) hne (by rw [hlen, hr]; simp), pc_go _ _ _ _ _ 3]
    have hq : n.num = (valR (n.sg == [45]) (n.d1 ++ n.fr) (-(n.fr.length : Int)), n.fr.isEmpty) := by
      unfold Nm.num
      rw [ratio_val]
      simp [Nm.wr, h1, h2, chr, expN]
    rw [hq, p120e0 (y := valR (n.sg == [45]) (n.d1 ++ n.fr) (-(n.fr.length : Int))) hlo (by rw [wrap_i64 (by omega) (by omega)]; omega) (fun h hh => f154 hall hsz (by omega) (by omega) hh), pc_r]
    exact fin120
  · have hd3l : 0 < n.d3.length := by
      cases hd : n.d3 with
      | nil => exact absurd hd h2
      | cons _ _ => simp
    obtain ⟨s3, u3, hs3⟩ : ∃ s u, n.d3 = s :: u := by
      cases hd : n.d3 with
      | nil => exact absurd hd h2
      | cons s u => exact ⟨s, u, rfl⟩
    have hs3d := hd3 s3 (by rw [hs3]; simp)
    simp only [dig, Bool.and_eq_true, decide_eq_true_eq] at hs3d
    have hexl : n.ex ≠ [] := by rcases hx with h | h | h <;> rw [h] <;> simp
    have hrl : (nmR n).length = n.ex.length + n.d3.length := by simp [nmR]
    have hxl : 0 < n.ex.length := by rcases hx with h | h | h <;> rw [h] <;> simp
    rw [p120d (more := true) hne (by rw [hlen]; simp; omega), pc_go _ _ _ _ _ 3]
    have hce : (e != 101 && e != 69) = false := by rcases he with rfl | rfl <;> rfl
    obtain ⟨x0, x1⟩ := expN_in n.d3 0 hd3 (by omega) (by omega)
    have hq : n.num = (valR (n.sg == [45]) (n.d1 ++ n.fr) ((if (chr n.ex 1 == 45) = true then -expN 0 n.d3 else expN 0 n.d3) - (n.fr.length : Int)), false) := by
      unfold Nm.num
      rw [ratio_val]
      have : n.ex.isEmpty = false := by rcases hx with h | h | h <;> rw [h] <;> rfl
      simp [Nm.wr, this]
    have hat0 : t[m]? = some e := by
      rw [at_, D3]; unfold nmR
      rcases hx with h | h | h <;> rw [h] <;> rfl
    have D3' : t.drop (m + n.ex.length) = n.d3 := by rw [← List.drop_drop, D3]; unfold nmR; rw [List.drop_left]
    have hi : (∃ s, t[m + 1]? = some s ∧ (s == 43 || s == 45) = true ∧ m + n.ex.length = m + 2 ∧ (chr n.ex 1 == 45) = (s == 45)) ∨ (∃ s, t[m + 1]? = some s ∧ (s == 43 || s == 45) = false ∧ m + n.ex.length = m + 1 ∧ (chr n.ex 1 == 45) = false) := by
      have a1 : t[m + 1]? = (nmR n)[1]? := by rw [← D3]; simp
      rw [a1]
      unfold nmR
      rcases hx with h | h | h
      · right
        rw [h, hs3]
        refine ⟨s3, rfl, ?_, rfl, rfl⟩
        simp
        omega
      · left; rw [h]; exact ⟨43, rfl, rfl, rfl, rfl⟩
      · left; rw [h]; exact ⟨45, rfl, rfl, rfl, rfl⟩
    rw [hq, p120e1 (y := valR (n.sg == [45]) (n.d1 ++ n.fr) ((if (chr n.ex 1 == 45) = true then -expN 0 n.d3 else expN 0 n.d3) - (n.fr.length : Int))) hy hl hlo hat0 hce hi D3' hd3 h2 (by rw [hlen, hrl]; omega) (by omega) (by omega) (fun h hh => f154 hall hsz (by split <;> omega) (by split <;> omega) hh), pc_r]
    exact fin120
end Go.Lift.R3
end

section
/- The reference's figure: a number, and what it is of. -/
open Go.Proofs
namespace Go.Lift.R3
open Utf Tok
set_option maxRecDepth 20000
set_option maxHeartbeats 4000000
set_option linter.unusedSimpArgs false
set_option linter.unusedVariables false

/-! ### Plain characters -/
def Asc (l : List Int) : Prop := ∀ c ∈ l, 0 ≤ c ∧ c < 128
theorem scal_asc {c : Int} (h : 0 ≤ c ∧ c < 128) : scal c = c := by
  unfold scal
  rw [if_neg]
  simp
  omega
theorem scal_asc_inv {x c : Int} (h : scal x = c) (hc : c < 128) : x = c := by
  unfold scal at h
  split at h
  · omega
  · exact h
theorem encs_asc : ∀ {l : List Int}, Asc l → encs l = l
  | [], _ => rfl
  | c :: t, h => by
    have hc := h c (by simp)
    have e : encs (c :: t) = enc (scal c) ++ encs t := rfl
    rw [e, encs_asc fun x hx => h x (by simp [hx]), scal_asc hc]
    unfold enc
    simp [hc.2]
theorem raw_asc : ∀ {l t : List Int}, l.map scal = t → Asc t → l = t
  | [], t, h, _ => by simpa using h
  | x :: l, [], h, _ => by simp at h
  | x :: l, c :: t, h, ha => by
    simp only [List.map_cons, List.cons.injEq] at h
    rw [scal_asc_inv h.1 (ha c (by simp)).2, raw_asc h.2 fun y hy => ha y (by simp [hy])]
theorem nm_asc {n : Nm} (ok : n.Ok) : Asc n.text := by
  have dg : ∀ {l : List Int}, l.all dig = true → ∀ c ∈ l, 0 ≤ c ∧ c < 128 := fun h c hc => by
    have := all_dig h c hc
    simp only [dig, Bool.and_eq_true, decide_eq_true_eq] at this
    omega
  intro c hc
  rw [nm_text, List.mem_append, List.mem_append, List.mem_append] at hc
  rcases hc with hc | hc | hc | hc
  · rcases ok.sg with h | h | h <;> rw [h] at hc <;> simp at hc <;> subst hc <;> decide
  · exact dg ok.d1 c hc
  · unfold nmF at hc
    split at hc
    · cases hc
    · rcases List.mem_cons.1 hc with rfl | hc
      · decide
      · exact dg ok.fr c hc
  · unfold nmR at hc
    rcases List.mem_append.1 hc with hc | hc
    · rcases ok.ex with ⟨h1, h2⟩ | ⟨⟨e, he, h1 | h1 | h1⟩, h2⟩
      · rw [h1] at hc; cases hc
      all_goals
        rw [h1] at hc
        simp at hc
        omega
    · exact dg ok.d3 c hc
/-- the characters between two places -/
theorem between {l t : List Int} {i j : Nat} (hij : i ≤ j) (hj : j ≤ l.length) (hs : suf l i = t ++ suf l j) (ha : Asc t) : (l.take j).drop i = t := by
  have hlen := congrArg List.length hs
  rw [List.length_append, suf_len, suf_len] at hlen
  refine raw_asc ?_ ha
  rw [List.map_drop, List.map_take]
  have h1 : ((l.map scal).take j).drop i = (suf l i).take (j - i) := by
    unfold suf
    rw [List.drop_take]
  rw [h1, hs]
  have h2 : j - i = t.length := by omega
  rw [h2, List.take_left]
theorem ri_cut (k : IntKind) (l : List Int) (a b : Nat) : ((ri k l).take b).drop a = ri k ((l.take b).drop a) := by simp [ri, List.map_drop, List.map_take]

/-- a token's cells -/
def tkC (t : Tk) : List V := [.v (.int .i64 t.kind), .v (.string (str t.text)), .v (.int .i64 t.num.1), .v (.int .i64 t.num.2), .v (.bool t.whole), .v (.bool t.id)]
theorem tkC_tk (k : Int) (t : List Int) : tokC k t = tkC (tk k t) := rfl

section
variable {lo i j : Nat} {l : List Int} {p q : List Ob}
noncomputable abbrev X80 (lo : Nat) (p q : List Ob) : Cx := ⟨Tryz.prog, E, lo, p.length + (q.length + 1), h80⟩
abbrev H80 (p q : List Ob) (l : List Int) (j : Nat) (more : List Ob) : Heap := p ++ R l j :: (q ++ (.cells (tokC 0 []) :: more))
abbrev P80 (p q : List Ob) (l : List Int) (i j : Nat) (ex : Env) : Env × Heap :=
  ((0, .ptr p.length 0) :: (2, .ptr (p.length + (q.length + 1)) 0) :: (3, .v (.int .i64 i)) :: ex, H80 p q l j [])

/-- the sign -/
theorem p80a (hl : l.length ≤ 100000000000) (hi : i ≤ l.length) : ∃ j, j ≤ l.length ∧ i ≤ j ∧ suf l j = (if (chr (suf l i) 0 == 43 || chr (suf l i) 0 == 45) = true then (suf l i).drop 1 else suf l i) ∧
    ∃ x, ∀ lo p q, lo ≤ p.length → evL (X80 lo p q) loopW (pc b80 0 5) (args0 [.ptr p.length 0], p ++ R l i :: q) = some (.normal, P80 p q l i j [(23, x)]) := by
  have k0 := fun lo p q => f29 (lo := lo) (l := l) (i := i) (p := p) (q := q) (k := 0) (by omega)
  have hw : IntKind.i64.wrap ((i : Int) + 1) = ((i + 1 : Nat) : Int) := wrap_succ (by omega)
  simp only [n0] at k0
  generalize hc : chr (suf l i) 0 = c at *
  by_cases hs : (c == 43 || c == 45) = true
  · have hne : i < l.length := by
      rcases Nat.lt_or_ge i l.length with h | h
      · exact h
      · rw [suf_end h] at hc
        rw [← hc] at hs
        exact absurd hs (by decide)
    rw [if_pos hs]
    refine ⟨i + 1, by omega, by omega, by simp [suf, List.drop_drop], ?_⟩
    cases h43 : (c == 43) with
    | true =>
      refine ⟨.v (.bool true), fun lo p q hlo => ?_⟩
      simp only [go_sem, X80, P80, H80, b80, Tryz.f80, k0, h43, hw, hlo, tokC, str_nil]
      all_goals rfl
    | false =>
      have h45 : (c == 45) = true := by simpa [h43] using hs
      refine ⟨.v (.bool true), fun lo p q hlo => ?_⟩
      simp only [go_sem, X80, P80, H80, b80, Tryz.f80, k0, h43, h45, hw, hlo, tokC, str_nil]
      all_goals rfl
  · rw [if_neg hs]
    have h43 : (c == 43) = false := by simp at hs ⊢; omega
    have h45 : (c == 45) = false := by simp at hs ⊢; omega
    refine ⟨i, hi, Nat.le_refl _, rfl, .v (.bool false), fun lo p q hlo => ?_⟩
    simp only [go_sem, X80, P80, H80, b80, Tryz.f80, k0, h43, h45, hw, hlo, tokC, str_nil]
    all_goals rfl

/-- the digits, and what is behind a point -/
theorem p80b {x : V} (hl : l.length ≤ 100000000000) (hj : j ≤ l.length) : ∃ j', j' ≤ l.length ∧ j ≤ j' ∧
    suf l j' = (if (chr ((suf l j).dropWhile dig) 0 == 46 && dig (chr ((suf l j).dropWhile dig) 1)) = true then (((suf l j).dropWhile dig).drop 1).dropWhile dig else (suf l j).dropWhile dig) ∧
    ∃ y, ∀ lo p q (i : Nat), lo ≤ p.length → evL (X80 lo p q) loopW (pc b80 5 3) (P80 p q l i j [(23, x)]) = some (.normal, P80 p q l i j' [(40, y)]) := by
  obtain ⟨j1, a1, a2, a3, a4⟩ := f119 (l := l) (i := j) hl hj
  have k0 := fun lo p q => f29 (lo := lo) (l := l) (i := j1) (p := p) (q := q) (k := 0) (by omega)
  have k1 := fun lo p q => f29 (lo := lo) (l := l) (i := j1) (p := p) (q := q) (k := 1) (by omega)
  have hw : IntKind.i64.wrap ((j1 : Int) + 1) = ((j1 + 1 : Nat) : Int) := wrap_succ (by omega)
  have n1 : ((1 : Nat) : Int) = 1 := rfl
  simp only [n0, n1] at k0 k1
  rw [← a3]
  by_cases hf : (chr (suf l j1) 0 == 46 && dig (chr (suf l j1) 1)) = true
  · rw [if_pos hf]
    rw [Bool.and_eq_true] at hf
    obtain ⟨h46, hd⟩ := hf
    have hne : j1 < l.length := by
      rcases Nat.lt_or_ge j1 l.length with h | h
      · exact h
      · rw [suf_end h] at h46
        exact absurd h46 (by decide)
    obtain ⟨j2, b1, b2, b3, b4⟩ := f119 (l := l) (i := j1 + 1) hl (by omega)
    refine ⟨j2, b1, by omega, by rw [b3]; simp [suf, List.drop_drop], .undef, fun lo p q i hlo => ?_⟩
    simp only [go_sem, X80, P80, H80, b80, Tryz.f80, a4 _ _ _ hlo, k0, k1, f118, h46, hd, hw, hlo, b4 _ _ _ hlo, tokC, str_nil]
    all_goals rfl
  · rw [if_neg hf]
    refine ⟨j1, a1, a2, rfl, .v (.bool false), fun lo p q i hlo => ?_⟩
    cases h46 : (chr (suf l j1) 0 == 46) with
    | true =>
      have hd : dig (chr (suf l j1) 1) = false := by simpa [h46] using hf
      simp only [go_sem, X80, P80, H80, b80, Tryz.f80, a4 _ _ _ hlo, k0, k1, f118, h46, hd, tokC, str_nil]
      all_goals rfl
    | false =>
      simp only [go_sem, X80, P80, H80, b80, Tryz.f80, a4 _ _ _ hlo, k0, k1, f118, h46, tokC, str_nil]
      all_goals rfl
/-- the exponent -/
theorem p80c {x : V} (hl : l.length ≤ 100000000000) (hj : j ≤ l.length) : ∃ j', j' ≤ l.length ∧ j ≤ j' ∧
    suf l j' = (if ((chr (suf l j) 0 == 101 || chr (suf l j) 0 == 69) && dig (chr (suf l j) (if (chr (suf l j) 1 == 43 || chr (suf l j) 1 == 45) = true then 2 else 1))) = true
      then ((suf l j).drop (if (chr (suf l j) 1 == 43 || chr (suf l j) 1 == 45) = true then 2 else 1)).dropWhile dig else suf l j) ∧
    ∃ ex : Env, ((∃ x, ex = [(57, x)]) ∨ ∃ x y, ex = [(6, x), (69, y)]) ∧ ∀ lo p q (i : Nat), lo ≤ p.length → evL (X80 lo p q) loopW (pc b80 8 3) (P80 p q l i j [(40, x)]) = some (.normal, P80 p q l i j' ex) := by
  have k0 := fun lo p q => f29 (lo := lo) (l := l) (i := j) (p := p) (q := q) (k := 0) (by omega)
  have k1 := fun lo p q => f29 (lo := lo) (l := l) (i := j) (p := p) (q := q) (k := 1) (by omega)
  have k2 := fun lo p q => f29 (lo := lo) (l := l) (i := j) (p := p) (q := q) (k := 2) (by omega)
  have hw1 : IntKind.i64.wrap ((j : Int) + 1) = ((j + 1 : Nat) : Int) := wrap_succ (by omega)
  have hw2 : IntKind.i64.wrap ((j : Int) + 2) = ((j + 2 : Nat) : Int) := by rw [wrap_i64 (by omega) (by omega)]; omega
  have n1 : ((1 : Nat) : Int) = 1 := rfl
  have n2 : ((2 : Nat) : Int) = 2 := rfl
  simp only [n0, n1, n2] at k0 k1 k2
  have hlen := suf_len l j
  by_cases he : (chr (suf l j) 0 == 101 || chr (suf l j) 0 == 69) = true
  rotate_left
  · rw [Bool.not_eq_true] at he
    rw [he, Bool.false_and, if_neg (by simp)]
    rw [Bool.or_eq_false_iff] at he
    obtain ⟨h1, h2⟩ := he
    refine ⟨j, hj, Nat.le_refl _, rfl, [(57, .v (.bool false))], .inl ⟨_, rfl⟩, fun lo p q i hlo => ?_⟩
    simp only [go_sem, X80, P80, H80, b80, Tryz.f80, k0, h1, h2, tokC, str_nil]
    all_goals rfl
  rw [he, Bool.true_and]
  by_cases hs : (chr (suf l j) 1 == 43 || chr (suf l j) 1 == 45) = true
  · rw [if_pos hs]
    by_cases hd : dig (chr (suf l j) 2) = true
    · rw [if_pos hd]
      have hne : j + 2 ≤ l.length := by
        rcases Nat.lt_or_ge (j + 1) l.length with h | h
        · omega
        · exfalso
          have : chr (suf l j) 1 = -1 := by simp only [chr]; rw [List.getElem?_eq_none (by omega)]
          rw [this] at hs
          exact absurd hs (by decide)
      obtain ⟨j2, b1, b2, b3, b4⟩ := f119 (l := l) (i := j + 2) hl (by omega)
      refine ⟨j2, b1, by omega, by rw [b3]; simp [suf, List.drop_drop], [(57, .undef)], .inl ⟨_, rfl⟩, fun lo p q i hlo => ?_⟩
      cases h1 : (chr (suf l j) 0 == 101) <;> cases h43 : (chr (suf l j) 1 == 43) <;> simp only [h1, h43, Bool.false_or, Bool.true_or] at he hs <;>
        simp only [go_sem, X80, P80, H80, b80, Tryz.f80, k0, k1, k2, f118, h1, he, h43, hs, hd, hw2, hlo, b4 _ _ _ hlo, tokC, str_nil] <;> rfl
    · rw [if_neg hd]
      rw [Bool.not_eq_true] at hd
      refine ⟨j, hj, Nat.le_refl _, rfl, [(6, .v (.int .i64 2)), (69, .v (.bool false))], .inr ⟨_, _, rfl⟩, fun lo p q i hlo => ?_⟩
      cases h1 : (chr (suf l j) 0 == 101) <;> cases h43 : (chr (suf l j) 1 == 43) <;> simp only [h1, h43, Bool.false_or, Bool.true_or] at he hs <;>
        simp only [go_sem, X80, P80, H80, b80, Tryz.f80, k0, k1, k2, f118, h1, he, h43, hs, hd, tokC, str_nil] <;> rfl
  · rw [if_neg hs]
    rw [Bool.not_eq_true, Bool.or_eq_false_iff] at hs
    obtain ⟨h43, h45⟩ := hs
    by_cases hd : dig (chr (suf l j) 1) = true
    · rw [if_pos hd]
      have hne : j + 1 ≤ l.length := by
        rcases Nat.lt_or_ge j l.length with h | h
        · omega
        · exfalso
          rw [suf_end h] at he
          exact absurd he (by decide)
      obtain ⟨j2, b1, b2, b3, b4⟩ := f119 (l := l) (i := j + 1) hl (by omega)
      refine ⟨j2, b1, by omega, by rw [b3]; simp [suf, List.drop_drop], [(57, .undef)], .inl ⟨_, rfl⟩, fun lo p q i hlo => ?_⟩
      cases h1 : (chr (suf l j) 0 == 101) <;> simp only [h1, Bool.false_or, Bool.true_or] at he <;>
        simp only [go_sem, X80, P80, H80, b80, Tryz.f80, k0, k1, k2, f118, h1, he, h43, h45, hd, hw1, hlo, b4 _ _ _ hlo, tokC, str_nil] <;> rfl
    · rw [if_neg hd]
      rw [Bool.not_eq_true] at hd
      refine ⟨j, hj, Nat.le_refl _, rfl, [(6, .v (.int .i64 1)), (69, .v (.bool false))], .inr ⟨_, _, rfl⟩, fun lo p q i hlo => ?_⟩
      cases h1 : (chr (suf l j) 0 == 101) <;> simp only [h1, Bool.false_or, Bool.true_or] at he <;>
        simp only [go_sem, X80, P80, H80, b80, Tryz.f80, k0, k1, k2, f118, h1, he, h43, h45, hd, tokC, str_nil] <;> rfl
end
end Go.Lift.R3
end

section
/- The reference's figure, whole. -/
open Go.Proofs
namespace Go.Lift.R3
open Utf Tok
set_option maxRecDepth 20000
set_option maxHeartbeats 4000000
set_option linter.unusedSimpArgs false
set_option linter.unusedVariables false

section
variable {lo i j : Nat} {l : List Int} {p q : List Ob}
theorem str_asc {t : List Int} (h : Asc t) : str t = bs t := by unfold str bs; rw [encs_asc h]
/-- the fraction -/
theorem p80d {n : Nm} (hl : l.length ≤ 100000000000) (hij : i ≤ j) (hj : j ≤ l.length) (ok : n.Ok) (hs : suf l i = n.text ++ suf l j) {ex : Env} (hex : (∃ x, ex = [(57, x)]) ∨ ∃ x y, ex = [(6, x), (69, y)]) (hlo : lo ≤ p.length) (hlo2 : lo ≤ p.length + (q.length + 2)) :
    evL (X80 lo p q) loopW (pc b80 11 1) (P80 p q l i j ex) = some (.normal, [(0, .ptr p.length 0), (2, .ptr (p.length + (q.length + 1)) 0), (8, .ptr (p.length + (q.length + 2)) 0), (9, .v (.bool n.num.2))], H80 p q l j [.cells (ratC n.num.1)]) := by
  have hasc := nm_asc ok
  have hbt := between hij hj hs hasc
  have hlen : n.text.length ≤ 100000000000 := by
    have := congrArg List.length hs
    rw [suf_len, List.length_append] at this
    omega
  have k82 : ∀ lo h, E lo 82 [.list .no (ri .i32 n.text)] h = some (.v (.string (bs n.text)), h) := fun lo h => by
    rw [f82 (by omega), str_asc hasc]
  have k120 : ∀ lo h, lo ≤ h.length → E lo 120 [.v (.string (bs n.text))] h = some (.tup [.agg (ratC n.num.1), .v (.bool n.num.2), .v (.int .i64 0)], h) := fun lo h hh => f120 ok hlen hh
  simp only [ratC] at k120
  have hlA : ∀ h : Heap, h.length ≤ h.length := fun h => Nat.le_refl _
  rcases hex with ⟨x, rfl⟩ | ⟨x, y, rfl⟩
  · simp only [go_sem, X80, P80, H80, b80, Tryz.f80, ri_cut, hbt, hij, hj, k82, k120, Nat.le_refl, hlo, hlo2, tokC, str_nil, ratC]
    all_goals rfl
  · simp only [go_sem, X80, P80, H80, b80, Tryz.f80, ri_cut, hbt, hij, hj, k82, k120, Nat.le_refl, hlo, hlo2, tokC, str_nil, ratC]
    all_goals rfl
/-- a number's token -/
theorem p80e {n : Nm} (hlo : lo ≤ p.length) (hlo2 : lo ≤ p.length + (q.length + 3)) :
    evL (X80 lo p q) loopW (pc b80 12 1) ([(0, .ptr p.length 0), (2, .ptr (p.length + (q.length + 1)) 0), (8, .ptr (p.length + (q.length + 2)) 0), (9, .v (.bool n.num.2))], H80 p q l j [.cells (ratC n.num.1)]) =
      some (.normal, [(0, .ptr p.length 0), (2, .ptr (p.length + (q.length + 1)) 0), (11, .ptr (p.length + (q.length + 3)) 0)], H80 p q l j [.cells (ratC n.num.1), .cells (tkC ⟨10, [], n.num.1, n.num.2, false⟩)]) := by
  simp only [go_sem, X80, H80, b80, Tryz.f80, hlo2, tokC, tkC, str_nil, ratC]
  all_goals rfl
/-- what it is of -/
theorem p80f {r : List V} {m : Int × Int} {w : Bool} (hl : l.length ≤ 100000000000) (hj : j ≤ l.length) : ∃ j', j' ≤ l.length ∧ j ≤ j' ∧
    ∃ t : Tk, (t, suf l j') = (if beg (chr (suf l j) 0) (chr (suf l j) 1) (chr (suf l j) 2) = true then (⟨12, (name (suf l j)).1, m, w, false⟩, (name (suf l j)).2)
      else if chr (suf l j) 0 = 37 then (⟨11, [], m, w, false⟩, (suf l j).drop 1) else (⟨10, [], m, w, false⟩, suf l j)) ∧
    ∀ lo p q, lo ≤ p.length → lo ≤ p.length + (q.length + 1) → lo ≤ p.length + (q.length + 3) →
      evL (X80 lo p q) loopW (pc b80 13 4) ([(0, .ptr p.length 0), (2, .ptr (p.length + (q.length + 1)) 0), (11, .ptr (p.length + (q.length + 3)) 0)], H80 p q l j [.cells r, .cells (tkC ⟨10, [], m, w, false⟩)]) =
        some (.ret, [(2, .ptr (p.length + (q.length + 1)) 0)], p ++ R l j' :: (q ++ [.cells (tkC t), .cells r, .cells (tkC t)])) := by
  have k0 := fun lo p q => f29 (lo := lo) (l := l) (i := j) (p := p) (q := q) (k := 0) (by omega)
  have k1 := fun lo p q => f29 (lo := lo) (l := l) (i := j) (p := p) (q := q) (k := 1) (by omega)
  have k2 := fun lo p q => f29 (lo := lo) (l := l) (i := j) (p := p) (q := q) (k := 2) (by omega)
  have hw1 : IntKind.i64.wrap ((j : Int) + 1) = ((j + 1 : Nat) : Int) := wrap_succ (by omega)
  have n1 : ((1 : Nat) : Int) = 1 := rfl
  have n2 : ((2 : Nat) : Int) = 2 := rfl
  simp only [n0, n1, n2] at k0 k1 k2
  by_cases hb : beg (chr (suf l j) 0) (chr (suf l j) 1) (chr (suf l j) 2) = true
  · obtain ⟨j2, b1, b2, b3, b4⟩ := f78 (l := l) (i := j) hl hj
    refine ⟨j2, b1, b2, ⟨12, (name (suf l j)).1, m, w, false⟩, by rw [if_pos hb, b3], fun lo p q hlo hlo2 hlo3 => ?_⟩
    simp only [go_sem, X80, H80, b80, Tryz.f80, k0, k1, k2, f77, hb, b4 _ _ _ hlo, hlo, hlo2, hlo3, tokC, tkC, str_nil]
    all_goals rfl
  · rw [if_neg hb]
    rw [Bool.not_eq_true] at hb
    by_cases h37 : chr (suf l j) 0 = 37
    · have hne : j < l.length := by
        rcases Nat.lt_or_ge j l.length with h | h
        · exact h
        · rw [suf_end h] at h37; cases h37
      rw [if_pos h37]
      have t37 : (chr (suf l j) 0 == 37) = true := by simp [h37]
      refine ⟨j + 1, by omega, by omega, ⟨11, [], m, w, false⟩, by simp [suf, List.drop_drop], fun lo p q hlo hlo2 hlo3 => ?_⟩
      simp only [go_sem, X80, H80, b80, Tryz.f80, k0, k1, k2, f77, hb, t37, hw1, hlo, hlo2, hlo3, tokC, tkC, str_nil]
      all_goals rfl
    · rw [if_neg h37]
      have t37 : (chr (suf l j) 0 == 37) = false := by simp [h37]
      refine ⟨j, hj, Nat.le_refl _, ⟨10, [], m, w, false⟩, rfl, fun lo p q hlo hlo2 hlo3 => ?_⟩
      simp only [go_sem, X80, H80, b80, Tryz.f80, k0, k1, k2, f77, hb, t37, hlo, hlo2, hlo3, tokC, tkC, str_nil]
      all_goals rfl

theorem fin80 {t : Tk} {h r r2 : List Ob} {o : Ob} : fin Tryz.prog [.cell 2 34] (p.length + (q.length + 1)) (some (.ret, [(2, .ptr (p.length + (q.length + 1)) 0)], p ++ o :: (q ++ .cells (tkC t) :: r))) = some (.agg (tkC t), p ++ o :: q) := by
  simp only [go_sem, tkC]
  all_goals rfl

/-- (*R).figure -/
theorem f80 (hl : l.length ≤ 100000000000) (hi : i ≤ l.length) (hn : num (chr (suf l i) 0) (chr (suf l i) 1) (chr (suf l i) 2) = true) :
    ∃ j, j ≤ l.length ∧ i ≤ j ∧ suf l j = (figure (suf l i)).2 ∧
      ∀ lo p q, lo ≤ p.length → E lo 80 [.ptr p.length 0] (p ++ R l i :: q) = some (.agg (tkC (figure (suf l i)).1), p ++ R l j :: q) := by
  obtain ⟨j1, a1, a2, a3, x, a4⟩ := p80a (l := l) (i := i) hl hi
  obtain ⟨j2, b1, b2, b3, y, b4⟩ := p80b (l := l) (j := j1) (x := x) hl a1
  obtain ⟨j3, c1, c2, c3, ex, hex, c4⟩ := p80c (l := l) (j := j2) (x := y) hl b1
  have hrest : suf l j3 = (numP (suf l i)).2 := by
    rw [c3, b3, a3]
    unfold numP
    simp only
  have hok := numP_ok hn
  have htext := numP_text (suf l i)
  rw [← hrest] at htext
  obtain ⟨j4, d1, d2, t, d3, d4⟩ := p80f (l := l) (j := j3) (r := ratC (numP (suf l i)).1.num.1) (m := (numP (suf l i)).1.num.1) (w := (numP (suf l i)).1.num.2) hl c1
  have hfig : (t, suf l j4) = figure (suf l i) := by
    rw [d3, hrest]
    unfold figure
    simp only
  refine ⟨j4, d1, by omega, by rw [← hfig], fun lo p q hlo => ?_⟩
  have hlo1 : lo ≤ p.length + (q.length + 1) := by omega
  have hlo2 : lo ≤ p.length + (q.length + 2) := by omega
  have hlo3 : lo ≤ p.length + (q.length + 3) := by omega
  have hH : (p ++ R l i :: q).length = p.length + (q.length + 1) := by simp
  rw [e80 (by simp) (by rfl), hH]
  rw [pc_in, pc_go _ _ _ _ 0 5, a4 lo p q hlo, pc_go _ _ _ _ _ 3, b4 lo p q i hlo, pc_go _ _ _ _ _ 3, c4 lo p q i hlo, pc_go _ _ _ _ _ 1,
    p80d hl (by omega) c1 hok htext.symm hex hlo hlo2, pc_go _ _ _ _ _ 1, p80e hlo hlo3, pc_go _ _ _ _ _ 4, d4 lo p q hlo hlo1 hlo3, pc_r, ← hfig]
  exact fin80 (h := []) (r2 := [])
end
end Go.Lift.R3
end
