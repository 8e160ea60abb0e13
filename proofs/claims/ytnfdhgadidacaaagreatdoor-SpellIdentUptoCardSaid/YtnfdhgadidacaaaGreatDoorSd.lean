/- Strings by their bytes; a fraction, the program. -/
import Derived.Lib.IndexLaws
import Derived.Test.YtnfdhgadidacaaaGreatDoorSb
import Derived.Test.YtnfdhgadidacaaaGreatDoorLd
import Derived.Test.YtnfdhgadidacaaaGreatDoorTa
section
/- Strings by their bytes; strings.TrimRight of naughts; what the library's contracts answer, by bytes. -/
open Go.Proofs
namespace Go.Lift.R4
set_option linter.unusedSectionVars false
variable [MX]
open Utf Tok Spell
set_option maxRecDepth 20000
set_option maxHeartbeats 2000000
set_option linter.unusedSimpArgs false
set_option linter.unusedVariables false

/-! ### Strings by their bytes -/
def bs (l : List Int) : ByteArray := ⟨(u8s l).toArray⟩
theorem bs_size (l : List Int) : (bs l).size = l.length := by simp [bs, ByteArray.size, u8s]
theorem bs_ext (l : List Int) (a b : Nat) : (bs l).extract a b = bs ((l.take b).drop a) := by
  apply ByteArray.ext
  simp only [bs, ByteArray.data_extract]
  apply Array.toList_inj.1
  rw [Array.toList_extract]
  simp only [List.extract, u8s, List.toList_toArray, List.map_drop, List.map_take]
  rw [List.take_drop]
  rcases Nat.le_total a b with h | h
  · rw [Nat.add_sub_cancel' h]
  · rw [List.drop_eq_nil_of_le (by simp; omega), List.drop_eq_nil_of_le (by simp; omega)]
theorem bs_app (a b : List Int) : bs a ++ bs b = bs (a ++ b) := by
  apply ByteArray.ext
  simp [bs, u8s]
theorem bs_ix {l : List Int} (hy : By l) (i : Nat) : ((bs l).data[i]?).map (fun c => V.v (.int .u8 c.toNat)) = (l[i]?).map fun c => V.v (.int .u8 c) := by
  simp only [bs, List.getElem?_toArray, u8s, List.getElem?_map]
  cases h : l[i]? with
  | none => rfl
  | some c =>
    have := hy c (List.mem_of_getElem? h)
    simp only [Option.map_some]
    congr 4
    show ((UInt8.ofNat c.toNat).toNat : Int) = c
    simp only [UInt8.toNat_ofNat']
    omega
theorem bs_list (l : List Int) : (bs l).toList = u8s l := by simp [bs, ByteArray.toList_eq]
theorem bs_nil : bs [] = ByteArray.empty := rfl
/-- is a text the empty one? -/
theorem bs_nil_eq (l : List Int) : ((bs l).toList == (ByteArray.empty).toList) = decide (l = []) := by
  rw [← bs_nil, bs_list, bs_list]
  cases l with
  | nil => rfl
  | cons c t => simp [u8s]
theorem By.take {l : List Int} (h : By l) (n : Nat) : By (l.take n) := fun c hc => h c (List.mem_of_mem_take hc)
theorem By.drop {l : List Int} (h : By l) (n : Nat) : By (l.drop n) := fun c hc => h c (List.mem_of_mem_drop hc)

theorem core_snoc (l : List Int) (c : Int) : core (l ++ [c]) = if c = 48 then core l else l ++ [c] := by
  unfold core
  rw [List.reverse_append]
  simp only [List.reverse_cons, List.reverse_nil, List.nil_append, List.cons_append, List.dropWhile_cons, beq_iff_eq]
  split <;> simp

theorem bytes_bs {l : List Int} (hy : By l) : byteRows (bs l) = ri .u8 l := by
  unfold byteRows bs u8s ri
  simp only [List.map_map]
  apply List.map_congr_left
  intro c hc
  have := hy c hc
  simp only [Function.comp]
  congr 4
  show ((UInt8.ofNat c.toNat).toNat : Int) = c
  simp only [UInt8.toNat_ofNat']
  omega

/-- digits -/
theorem bs_dgt (m : Int) : (⟨(Go.Lib.decDigits m.toNat).toArray⟩ : ByteArray) = bs (dgt m) := by
  unfold bs dgt u8s
  congr 2
  rw [List.map_map]
  conv => lhs; rw [← List.map_id (Go.Lib.decDigits m.toNat)]
  apply List.map_congr_left
  intro c _
  simp
/-- one byte, so many times -/
theorem rep_list (c : UInt8) : ∀ n : Nat, Go.Lib.repeatL [c] n = List.replicate n c
  | 0 => rfl
  | n + 1 => by rw [Go.Lib.repeatL, rep_list c n]; rfl
theorem bs_rep (c : UInt8) (n : Nat) : (⟨(Go.Lib.repeatL [c] n).toArray⟩ : ByteArray) = bs (List.replicate n (c.toNat : Int)) := by
  rw [rep_list]
  unfold bs u8s
  congr 2
  rw [List.map_replicate]
  simp
/-- is a byte in a text? -/
theorem bs_idx {l : List Int} (hy : By l) {c : Int} (h0 : 0 ≤ c) (h1 : c ≤ 255) : decide (0 ≤ Go.Lib.indexByte (bs l).data.toList c.toNat.toUInt8) = l.contains c := by
  unfold bs
  simp only
  induction l with
  | nil => rfl
  | cons x t ih =>
    have hx := hy x (by simp)
    have ih := ih fun y hy2 => hy y (by simp [hy2])
    have hge := Go.Lib.indexByte_ge (u8s t) c.toNat.toUInt8
    simp only [u8s, List.map_cons, Go.Lib.indexByte, List.contains_cons] at ih hge ⊢
    have e : (UInt8.ofNat x.toNat == c.toNat.toUInt8) = (c == x) := by
      rw [Bool.eq_iff_iff, beq_iff_eq, beq_iff_eq]
      constructor
      · intro h
        have h2 := congrArg UInt8.toNat h
        simp only [UInt8.toNat_ofNat', Nat.toUInt8_eq] at h2
        omega
      · rintro rfl
        rfl
    rw [e]
    cases c == x with
    | true => rw [if_pos rfl]; simp
    | false =>
      rw [if_neg (by simp), Bool.false_or, ← ih]
      by_cases h : Go.Lib.indexByte (List.map (fun n => UInt8.ofNat n.toNat) t) c.toNat.toUInt8 = -1
      · rw [if_pos (by simpa using h)]
        refine decide_eq_decide.2 ⟨fun h9 => by omega, fun h9 => ?_⟩
        have h8 : 0 ≤ Go.Lib.indexByte (List.map (fun n => UInt8.ofNat n.toNat) t) c.toNat.toUInt8 := h9
        omega
      · rw [if_neg (by simpa using h)]
        refine decide_eq_decide.2 ⟨fun h9 => ?_, fun h9 => ?_⟩
        · show 0 ≤ Go.Lib.indexByte (List.map (fun n => UInt8.ofNat n.toNat) t) c.toNat.toUInt8
          omega
        · have h8 : 0 ≤ Go.Lib.indexByte (List.map (fun n => UInt8.ofNat n.toNat) t) c.toNat.toUInt8 := h9
          omega

theorem core_nil : core [] = [] := rfl
theorem loop133 {lo : Nat} {h : Heap} : ∀ (m : Nat) (l : List Int), l.length = m → By l → l.length ≤ 100000000000 →
    loopW (evCode ⟨Tryz.prog, E, lo, h.length, h133⟩ loopW l133x0) ([(0, .v (.string (bs l))), (1, .v (.int .u8 48))], h) =
      some (.exit 0, [(0, .v (.string (bs (core l)))), (1, .v (.int .u8 48)), (16, .v (.bool false))], h) := by
  intro m
  induction m with
  | zero =>
    intro l hm hy hl
    obtain rfl := List.eq_nil_of_length_eq_zero hm
    have hd : decide ((0 : Int) < 0) = false := rfl
    rw [loop_eq]
    simp only [go_sem, l133x0, b133, Tryz.f133, bs_size, hd, core_nil]
  | succ m ih =>
    intro l hm hy hl
    obtain ⟨t, c, rfl⟩ : ∃ t c, l = t ++ [c] := by
      rcases List.eq_nil_or_concat l with h | ⟨t, c, h⟩
      · rw [h] at hm; cases hm
      · exact ⟨t, c, by simpa using h⟩
    have hsz : (t ++ [c]).length = t.length + 1 := by simp
    have htm : t.length = m := by omega
    have hd : decide ((0 : Int) < ((t.length + 1 : Nat) : Int)) = true := by simp
    have hc : (t ++ [c])[t.length]? = some c := by simp
    have hw : IntKind.i64.wrap (((t.length + 1 : Nat) : Int) - 1) = (t.length : Int) := by rw [wrap_i64 (by omega) (by omega)]; omega
    have hix := bs_ix hy t.length
    rw [hc] at hix
    have htk : (t ++ [c]).take t.length = t := by simp
    rw [loop_eq, core_snoc]
    cases hb : (c == 48) with
    | false =>
      rw [if_neg (by simpa using hb)]
      simp only [go_sem, l133x0, b133, Tryz.f133, bs_size, hsz, hd, hw, hix, hb]
    | true =>
      rw [if_pos (by simpa using hb)]
      have h1 : t.length ≤ t.length + 1 := by omega
      have e : evCode ⟨Tryz.prog, E, lo, h.length, h133⟩ loopW l133x0 ([(0, .v (.string (bs (t ++ [c])))), (1, .v (.int .u8 48))], h) = some (.normal, [(0, .v (.string (bs t))), (1, .v (.int .u8 48))], h) := by
        simp only [go_sem, l133x0, b133, Tryz.f133, bs_size, hsz, hd, hw, hix, hb, h1, Nat.zero_le, bs_ext, htk]
      rw [e, loop_n]
      exact ih t htm (fun x hx => hy x (by simp [hx])) (by omega)
theorem f133 {lo : Nat} {l : List Int} {h : Heap} (hy : By l) (hl : l.length ≤ 100000000000) : E lo 133 [.v (.string (bs l)), .v (.int .u8 48)] h = some (.v (.string (bs (core l))), h) := by
  have hL := loop133 (lo := lo) (h := h) l.length l rfl hy hl
  rw [e133 (by simp) (by rfl)]
  simp only [l133x0, b133, Tryz.f133, loopAt, loops, bodyOf, go_sem] at hL
  simp only [go_sem, b133, Tryz.f133, hL]
theorem bs_nil_eq' (l : List Int) : ((bs l).toList == (⟨#[]⟩ : ByteArray).toList) = decide (l = []) := bs_nil_eq l
theorem cut48 : ((⟨#[48]⟩ : ByteArray).toList == (⟨#[]⟩ : ByteArray).toList) = false := (bs_nil_eq' [48]).trans (by simp)
theorem f98 {lo : Nat} {l : List Int} {h : Heap} (hy : By l) (hl : l.length ≤ 100000000000) : E lo 98 [.v (.string (bs l)), .v (.string ⟨#[48]⟩)] h = some (.v (.string (bs (core l))), h) := by
  rw [e98 (by simp) (by rfl)]
  cases l with
  | nil =>
    have t1 := bs_nil_eq' []
    simp only [decide_true] at t1
    simp only [go_sem, b98, Tryz.f98, t1]
    rfl
  | cons c t =>
    have t1 := bs_nil_eq' (c :: t)
    rw [decide_eq_false (by simp)] at t1
    have t2 : ((1 : Nat) : Int) = 1 := rfl
    have t3 : ((1 : Int) == 1) = true := rfl
    have t4 : decide ((48 : Int) < 128) = true := rfl
    have t5 : ((UInt8.toNat 48 : Nat) : Int) = 48 := rfl
    have t6 : (⟨#[48]⟩ : ByteArray).size = 1 := rfl
    simp only [go_sem, b98, Tryz.f98, t1, cut48, t2, t3, t4, t5, t6, f133 hy hl]

end Go.Lift.R4
end

section
/- What the library's contracts answer, by bytes; strings.Contains of one byte. -/
open Go.Proofs
namespace Go.Lift.R4
set_option linter.unusedSectionVars false
variable [MX]
open Utf Tok Spell
set_option maxRecDepth 20000
set_option maxHeartbeats 4000000
set_option linter.unusedSimpArgs false
set_option linter.unusedVariables false

section
variable {lo : Nat} {h : Heap}
/-- internal/stringslite.IndexByte -/
theorem f182 {s : ByteArray} {c : Int} : E lo 182 [.v (.string s), .v (.int .u8 c)] h = some (.v (.int .i64 (Go.Lib.indexByte s.data.toList c.toNat.toUInt8)), h) := by
  show ev Tryz.prog hints primz lo 182 _ h = _
  rw [ev_prim (p := idxP) rfl]
  rfl
/-- math/bits.TrailingZeros64 -/
theorem f132 {x : Int} (h0 : 0 ≤ x) (h1 : x < 18446744073709551616) : E lo 132 [.v (.int .u64 x)] h = some (.v (.int .i64 (Go.Lib.ctz 64 x.toNat)), h) := by
  show ev Tryz.prog hints primz lo 132 _ h = _
  rw [ev_prim (p := ctzP) rfl]
  unfold ctzP
  simp only
  rw [if_pos ⟨h0, h1⟩]
/-- strings.Repeat of one byte -/
theorem f94 {c : UInt8} {n : Int} (h0 : 0 ≤ n) (h1 : n ≤ 1000000) : E lo 94 [.v (.string ⟨#[c]⟩), .v (.int .i64 n)] h = some (.v (.string (bs (List.replicate n.toNat (c.toNat : Int)))), h) := by
  show ev Tryz.prog hints primz lo 94 _ h = _
  rw [ev_prim (p := repP) rfl]
  unfold repP
  simp only
  rw [if_pos ⟨rfl, h0, h1⟩]
  rw [← bs_rep]
/-- strconv.FormatUint, in decimal digits -/
theorem f104 {x : Int} (h0 : 0 ≤ x) (h1 : x < 18446744073709551616) : E lo 104 [.v (.int .u64 x), .v (.int .i64 10)] h = some (.v (.string (bs (dgt x))), h) := by
  show ev Tryz.prog hints primz lo 104 _ h = _
  rw [ev_prim (p := fmtP) rfl]
  unfold fmtP
  simp only
  rw [if_pos ⟨trivial, h0, h1⟩, bs_dgt]

theorem u8s_one {c : Int} : (bs [c]).data.toList = [c.toNat.toUInt8] := rfl
theorem f159 {l : List Int} (hy : By l) {c : Int} (h0 : 0 ≤ c) (h1 : c ≤ 255) :
    E lo 159 [.v (.string (bs l)), .v (.string (bs [c]))] h = some (.v (.int .i64 (Go.Lib.indexByte (bs l).data.toList c.toNat.toUInt8)), h) := by
  show ev Tryz.prog hints primz lo 159 _ h = _
  rw [ev_prim (p := ixP) rfl]
  unfold ixP
  simp only [u8s_one]
theorem f127 {l : List Int} (hy : By l) {c : Int} (h0 : 0 ≤ c) (h1 : c ≤ 255) :
    E lo 127 [.v (.string (bs l)), .v (.string (bs [c]))] h = some (.v (.int .i64 (Go.Lib.indexByte (bs l).data.toList c.toNat.toUInt8)), h) := by
  rw [e127 (by simp) (by rfl)]
  simp only [go_sem, b127, Tryz.f127, f159 hy h0 h1]
  all_goals rfl
/-- strings.Contains of one byte -/
theorem f92 {l : List Int} (hy : By l) {c : Int} (h0 : 0 ≤ c) (h1 : c ≤ 255) :
    E lo 92 [.v (.string (bs l)), .v (.string (bs [c]))] h = some (.v (.bool (l.contains c)), h) := by
  rw [e92 (by simp) (by rfl)]
  have t := bs_idx hy h0 h1
  simp only [go_sem, b92, Tryz.f92, f127 hy h0 h1, t]
  all_goals rfl
end
end Go.Lift.R4
end

section
/- Fractions, both sides: sizes, divisors, whether one may be. -/
open Go.Proofs
namespace Go.Lift.R4
set_option linter.unusedSectionVars false
variable [MX]
open Utf Tok Spell
set_option maxRecDepth 20000
set_option maxHeartbeats 4000000
set_option linter.unusedSimpArgs false
set_option linter.unusedVariables false

theorem wrap_u64 {n : Int} (h0 : 0 ≤ n) (h1 : n ≤ 18446744073709551615) : IntKind.u64.wrap n = n := by
  simp only [IntKind.wrap, IntKind.signed, IntKind.bits]
  simp
  omega
theorem wrap_u64m {n : Int} (h0 : -9223372036854775808 ≤ n) (h1 : n < 0) : IntKind.u64.wrap n = n + 18446744073709551616 := by
  simp only [IntKind.wrap, IntKind.signed, IntKind.bits]
  simp
  omega
section
variable {lo : Nat} {h : Heap}
/-- jalousie/rat.size -/
theorem f96 {n : Int} (h0 : -9223372036854775808 ≤ n) (h1 : n ≤ 9223372036854775807) : E lo 96 [.v (.int .i64 n)] h = some (.v (.int .u64 n.natAbs), h) := by
  rw [e96 (by simp) (by rfl)]
  by_cases hn : n < 0
  · have q : decide (n < 0) = true := by simp [hn]
    have w1 : IntKind.u64.wrap n = n + 18446744073709551616 := wrap_u64m h0 hn
    have w2 : IntKind.u64.wrap (0 - (n + 18446744073709551616)) = (n.natAbs : Int) := by
      simp only [IntKind.wrap, IntKind.signed, IntKind.bits]
      simp
      omega
    simp only [go_sem, b96, Tryz.f96, q, w1, w2]
    all_goals rfl
  · have q : decide (n < 0) = false := by simp; omega
    have w1 : IntKind.u64.wrap n = (n.natAbs : Int) := by rw [wrap_u64 (by omega) (by omega)]; omega
    simp only [go_sem, b96, Tryz.f96, q, w1]
    all_goals rfl
/-- jalousieref1.mag -/
theorem f103 {n : Int} (h0 : -9223372036854775808 ≤ n) (h1 : n ≤ 9223372036854775807) : E lo 103 [.v (.int .i64 n)] h = some (.v (.int .u64 n.natAbs), h) := by
  rw [e103 (by simp) (by rfl)]
  by_cases hn : n < 0
  · have q : decide (n < 0) = true := by simp [hn]
    have w1 : IntKind.i64.wrap (n + 1) = n + 1 := wrap_i64 (by omega) (by omega)
    have w2 : IntKind.i64.wrap (0 - (n + 1)) = 0 - (n + 1) := wrap_i64 (by omega) (by omega)
    have w3 : IntKind.u64.wrap (0 - (n + 1)) = 0 - (n + 1) := wrap_u64 (by omega) (by omega)
    have w4 : IntKind.u64.wrap (0 - (n + 1) + 1) = (n.natAbs : Int) := by rw [wrap_u64 (by omega) (by omega)]; omega
    simp only [go_sem, b103, Tryz.f103, q, w1, w2, w3, w4]
    all_goals rfl
  · have q : decide (n < 0) = false := by simp; omega
    have w1 : IntKind.u64.wrap n = (n.natAbs : Int) := by rw [wrap_u64 (by omega) (by omega)]; omega
    simp only [go_sem, b103, Tryz.f103, q, w1]
    all_goals rfl
theorem tmod_nat (a b : Nat) : ((b : Int).tmod (a : Int)) = ((b % a : Nat) : Int) := by
  rw [Int.tmod_eq_emod_of_nonneg (by omega)]; rfl
theorem tdiv_nat (a b : Nat) : ((b : Int).tdiv (a : Int)) = ((b / a : Nat) : Int) := by
  rw [Int.tdiv_eq_ediv_of_nonneg (by omega)]; rfl
theorem loop160 : ∀ (m a b : Nat), a ≤ m → loopW (evCode ⟨Tryz.prog, E, lo, h.length, h160⟩ loopW l160x0) ([(0, .v (.int .u64 a)), (1, .v (.int .u64 b))], h) =
    some (.exit 0, [(0, .v (.int .u64 0)), (1, .v (.int .u64 (Nat.gcd a b))), (6, .v (.bool false))], h) := by
  have stop : ∀ b : Nat, loopW (evCode ⟨Tryz.prog, E, lo, h.length, h160⟩ loopW l160x0) ([(0, .v (.int .u64 (0 : Nat))), (1, .v (.int .u64 b))], h) =
    some (.exit 0, [(0, .v (.int .u64 0)), (1, .v (.int .u64 (Nat.gcd 0 b))), (6, .v (.bool false))], h) := by
    intro b
    have q : (((0 : Nat) : Int) != 0) = false := rfl
    rw [loop_eq, Nat.gcd_zero_left]
    simp only [go_sem, l160x0, b160, Tryz.f160, q]
    all_goals rfl
  intro m
  induction m with
  | zero =>
    intro a b ha
    obtain rfl : a = 0 := by omega
    exact stop b
  | succ m ih =>
    intro a b ha
    by_cases h0 : a = 0
    · subst h0; exact stop b
    have q : ((a : Int) != 0) = true := by simp; omega
    have z : ¬ ((a : Int) = 0) := by omega
    have t := tmod_nat a b
    have er : evCode ⟨Tryz.prog, E, lo, h.length, h160⟩ loopW l160x0 ([(0, .v (.int .u64 a)), (1, .v (.int .u64 b))], h) = some (.normal, [(0, .v (.int .u64 ((b % a : Nat) : Int))), (1, .v (.int .u64 a))], h) := by
      simp only [go_sem, l160x0, b160, Tryz.f160, q, z, t]
      all_goals rfl
    rw [loop_eq, er, loop_n, ih (b % a) a (by have := Nat.mod_lt b (by omega : 0 < a); omega), Nat.gcd_rec a b]
/-- jalousie/rat.gcd -/
theorem f160 {a b : Nat} : E lo 160 [.v (.int .u64 a), .v (.int .u64 b)] h = some (.v (.int .u64 (Nat.gcd a b)), h) := by
  have hL := loop160 (lo := lo) (h := h) a a b (Nat.le_refl _)
  simp only [l160x0, b160, Tryz.f160, loopAt, loops, bodyOf, go_sem] at hL
  rw [e160 (by simp) (by rfl)]
  simp only [go_sem, b160, Tryz.f160, hL]
  all_goals rfl
theorem loop138 : ∀ (m a b : Nat), b ≤ m → loopW (evCode ⟨Tryz.prog, E, lo, h.length, h138⟩ loopW l138x0) ([(0, .v (.int .u64 a)), (1, .v (.int .u64 b))], h) =
    some (.exit 0, [(0, .v (.int .u64 (Nat.gcd a b))), (1, .v (.int .u64 0)), (6, .v (.bool false))], h) := by
  have stop : ∀ a : Nat, loopW (evCode ⟨Tryz.prog, E, lo, h.length, h138⟩ loopW l138x0) ([(0, .v (.int .u64 a)), (1, .v (.int .u64 (0 : Nat)))], h) =
    some (.exit 0, [(0, .v (.int .u64 (Nat.gcd a 0))), (1, .v (.int .u64 0)), (6, .v (.bool false))], h) := by
    intro a
    have q : decide (0 < ((0 : Nat) : Int)) = false := rfl
    rw [loop_eq, Nat.gcd_zero_right]
    simp only [go_sem, l138x0, b138, Tryz.f138, q]
    all_goals rfl
  intro m
  induction m with
  | zero =>
    intro a b ha
    obtain rfl : b = 0 := by omega
    exact stop a
  | succ m ih =>
    intro a b ha
    by_cases h0 : b = 0
    · subst h0; exact stop a
    have q : decide (0 < (b : Int)) = true := by simp; omega
    have z : ¬ ((b : Int) = 0) := by omega
    have t := tmod_nat b a
    have er : evCode ⟨Tryz.prog, E, lo, h.length, h138⟩ loopW l138x0 ([(0, .v (.int .u64 a)), (1, .v (.int .u64 b))], h) = some (.normal, [(0, .v (.int .u64 b)), (1, .v (.int .u64 ((a % b : Nat) : Int)))], h) := by
      simp only [go_sem, l138x0, b138, Tryz.f138, q, z, t]
      all_goals rfl
    rw [loop_eq, er, loop_n, ih b (a % b) (by have := Nat.mod_lt a (by omega : 0 < b); omega), Nat.gcd_comm a b, Nat.gcd_rec b a, Nat.gcd_comm (a % b) b]
/-- jalousieref1.small -/
theorem f138 {a b : Nat} : E lo 138 [.v (.int .u64 a), .v (.int .u64 b)] h = some (.v (.int .u64 (Nat.gcd a b)), h) := by
  have hL := loop138 (lo := lo) (h := h) b a b (Nat.le_refl _)
  simp only [l138x0, b138, Tryz.f138, loopAt, loops, bodyOf, go_sem] at hL
  rw [e138 (by simp) (by rfl)]
  simp only [go_sem, b138, Tryz.f138, hL]
  all_goals rfl
/-- jalousie/rat.sure -/
theorem f128 {n d : Int} (h0 : -9223372036854775808 ≤ n) (h1 : n ≤ 9223372036854775807) (h2 : d ≤ 9223372036854775807) (hlo : lo ≤ h.length) :
    E lo 128 [.agg [.v (.int .i64 n), .v (.int .i64 d)]] h = some (.v (.bool (sureR n d)), h) := by
  unfold sureR
  rw [e128 (by simp) (by rfl)]
  by_cases hd : 1 ≤ d
  rotate_left
  · have q : decide (1 ≤ d) = false := by simp; omega
    rw [q]
    simp only [go_sem, b128, Tryz.f128, q, Bool.false_and]
    all_goals rfl
  have q : decide (1 ≤ d) = true := by simp [hd]
  by_cases hn : n = -9223372036854775808
  · have q2 : (n != -9223372036854775808) = false := by simp [hn]
    rw [q, q2]
    simp only [go_sem, b128, Tryz.f128, q, q2, Bool.false_and, Bool.and_false]
    all_goals rfl
  have q2 : (n != -9223372036854775808) = true := by simp [hn]
  have w1 : IntKind.u64.wrap d = (d.toNat : Int) := by rw [wrap_u64 (by omega) (by omega)]; omega
  have k1 := fun lo h => f96 (lo := lo) (h := h) h0 h1
  have k2 := fun lo h => f160 (lo := lo) (h := h) (a := n.natAbs) (b := d.toNat)
  have k3 : ((Nat.gcd n.natAbs d.toNat : Int) == 1) = (Nat.gcd n.natAbs d.toNat == 1) := by
    rw [Bool.eq_iff_iff, beq_iff_eq, beq_iff_eq]; omega
  rw [q, q2]
  simp only [go_sem, b128, Tryz.f128, q, q2, w1, k1, k2, k3, hlo, Bool.true_and, Bool.and_true]
  all_goals rfl
theorem fl32 : flatOf Tryz.prog 32 = some [1, 1] := by kernel_rfl
theorem eq_rat (n d x y : Int) : eqCells [1, 1] [.v (.int .i64 n), .v (.int .i64 d)] [.v (.int .i64 x), .v (.int .i64 y)] = some (n == x && d == y) := by
  simp [eqCells, eqS]
/-- jalousie/rat.May -/
theorem f93 {n d : Int} (h0 : -9223372036854775808 ≤ n) (h1 : n ≤ 9223372036854775807) (h2 : d ≤ 9223372036854775807) (hlo : lo ≤ h.length) :
    E lo 93 [.agg [.v (.int .i64 n), .v (.int .i64 d)]] h = some (.v (.bool (mayR n d)), h) := by
  have k := fun lo h hlo => f128 (lo := lo) (h := h) h0 h1 h2 hlo
  have e := eq_rat n d 0 0
  have hlo2 : lo ≤ h.length + 1 := by omega
  unfold mayR
  rw [e93 (by simp) (by rfl)]
  cases q : (n == 0 && d == 0) with
  | true =>
    rw [q] at e
    simp only [go_sem, b93, Tryz.f93, fl32, e, hlo]
    all_goals rfl
  | false =>
    rw [q] at e
    have k' := k lo (h ++ [.cells [.v (.int .i64 n), .v (.int .i64 d)]]) (by simp; omega)
    simp only [go_sem, b93, Tryz.f93, fl32, e, k', hlo, Bool.false_or]
    all_goals rfl
/-- jalousieref1.May -/
theorem f102 {n d : Int} (h0 : -9223372036854775808 ≤ n) (h1 : n ≤ 9223372036854775807) (h2 : d ≤ 9223372036854775807) (hlo : lo ≤ h.length) :
    E lo 102 [.agg [.v (.int .i64 n), .v (.int .i64 d)]] h = some (.v (.bool (mayR n d)), h) := by
  unfold mayR sureR
  rw [e102 (by simp) (by rfl)]
  cases q0 : (n == 0 && d == 0) with
  | true =>
    rw [Bool.and_eq_true] at q0
    obtain ⟨qn, qd⟩ := q0
    simp only [go_sem, b102, Tryz.f102, qn, qd, hlo, Bool.true_or]
    all_goals rfl
  | false =>
    rw [Bool.false_or]
    have k1 := fun lo h => f103 (lo := lo) (h := h) h0 h1
    have k2 := fun lo h => f138 (lo := lo) (h := h) (a := n.natAbs) (b := d.toNat)
    have k3 : ((Nat.gcd n.natAbs d.toNat : Int) == 1) = (Nat.gcd n.natAbs d.toNat == 1) := by
      rw [Bool.eq_iff_iff, beq_iff_eq, beq_iff_eq]; omega
    have main : ∀ b1 b2 : Bool, (n == 0) = b1 → (d == 0) = b2 → (b1 && b2) = false → fin Tryz.prog [.tmp 2] h.length (evCode ⟨Tryz.prog, E, lo, h.length, h102⟩ loopW b102 (args0 [.agg [.v (.int .i64 n), .v (.int .i64 d)]], h)) =
        some (.v (.bool (decide (1 ≤ d) && n != -9223372036854775808 && Nat.gcd n.natAbs d.toNat == 1)), h) := by
      intro b1 b2 e1 e2 e3
      by_cases hd : 1 ≤ d
      rotate_left
      · have q : decide (1 ≤ d) = false := by simp; omega
        rw [q]
        cases b1 with
        | false => simp only [go_sem, b102, Tryz.f102, e1, q, hlo, Bool.false_and]
        | true =>
          cases b2 with
          | true => cases e3
          | false => simp only [go_sem, b102, Tryz.f102, e1, e2, q, hlo, Bool.false_and]
      have q : decide (1 ≤ d) = true := by simp [hd]
      by_cases hn : n = -9223372036854775808
      · have q2 : (n != -9223372036854775808) = false := by simp [hn]
        rw [q, q2]
        cases b1 with
        | false => simp only [go_sem, b102, Tryz.f102, e1, q, q2, hlo, Bool.false_and, Bool.and_false]
        | true =>
          cases b2 with
          | true => cases e3
          | false => simp only [go_sem, b102, Tryz.f102, e1, e2, q, q2, hlo, Bool.false_and, Bool.and_false]
      have q2 : (n != -9223372036854775808) = true := by simp [hn]
      have w1 : IntKind.u64.wrap d = (d.toNat : Int) := by rw [wrap_u64 (by omega) (by omega)]; omega
      rw [q, q2]
      cases b1 with
      | false => simp only [go_sem, b102, Tryz.f102, e1, q, q2, w1, k1, k2, k3, hlo, Bool.true_and, Bool.and_true]
      | true =>
        cases b2 with
        | true => cases e3
        | false => simp only [go_sem, b102, Tryz.f102, e1, e2, q, q2, w1, k1, k2, k3, hlo, Bool.true_and, Bool.and_true]
    exact main _ _ rfl rfl q0
end
end Go.Lift.R4
end

section
/- rat.powers, rat.number. -/
open Go.Proofs
namespace Go.Lift.R4
set_option linter.unusedSectionVars false
variable [MX]
open Utf Tok Spell
set_option maxRecDepth 20000
set_option maxHeartbeats 4000000
set_option linter.unusedSimpArgs false
set_option linter.unusedVariables false

section
variable {lo : Nat} {h : Heap}
theorem loop95 {a : Int} : ∀ (m : Nat) (n : Int) (c : Nat), 1 ≤ n → n < 5 ^ m → n ≤ 9223372036854775807 → c + m ≤ 1000 →
    loopW (evCode ⟨Tryz.prog, E, lo, h.length, h95⟩ loopW l95x0) ([(0, .v (.int .u64 n)), (5, .v (.int .i64 a)), (6, .v (.int .i64 c))], h) =
      some (.exit 0, [(0, .v (.int .u64 (fv m n).2)), (5, .v (.int .i64 a)), (6, .v (.int .i64 (c + (fv m n).1 : Nat))), (14, .v (.bool false))], h) := by
  intro m
  induction m with
  | zero => intro n c h1 h2 _ _; simp at h2; omega
  | succ m ih =>
    intro n c h1 h2 h3 hc
    have w2 : IntKind.u64.wrap (n / 5) = n / 5 := wrap_u64 (by omega) (by omega)
    have t1 : n.tmod 5 = n % 5 := Int.tmod_eq_emod_of_nonneg (by omega)
    have t2 : n.tdiv 5 = n / 5 := Int.tdiv_eq_ediv_of_nonneg (by omega)
    have z : ¬ ((5 : Int) = 0) := by omega
    have w : IntKind.i64.wrap ((c : Int) + 1) = ((c + 1 : Nat) : Int) := wrap_succ (by omega)
    simp only [fv]
    by_cases q : n % 5 = 0
    · have q1 : (n % 5 == 0) = true := by simp [q]
      have er : evCode ⟨Tryz.prog, E, lo, h.length, h95⟩ loopW l95x0 ([(0, .v (.int .u64 n)), (5, .v (.int .i64 a)), (6, .v (.int .i64 c))], h) = some (.normal, [(0, .v (.int .u64 (n / 5))), (5, .v (.int .i64 a)), (6, .v (.int .i64 (c + 1 : Nat)))], h) := by
        simp only [go_sem, l95x0, b95, Tryz.f95, t1, t2, z, q1, w, w2]
        all_goals rfl
      rw [loop_eq, er, loop_n, ih (n / 5) (c + 1) (by omega) (by rw [Int.pow_succ] at h2; omega) (by omega) (by omega), if_pos q]
      have e : c + 1 + (fv m (n / 5)).1 = c + ((fv m (n / 5)).1 + 1) := by omega
      rw [e]
    · have q1 : (n % 5 == 0) = false := by simp [q]
      rw [if_neg q, loop_eq]
      simp only [go_sem, l95x0, b95, Tryz.f95, t1, t2, z, q1]
      all_goals rfl
/-- jalousie/rat.powers -/
theorem f95 {d : Int} (h0 : 1 ≤ d) (h1 : d < 9223372036854775808) :
    E lo 95 [.v (.int .u64 d)] h = some (.tup [.v (.int .i64 (Go.Lib.ctz 64 d.toNat)), .v (.int .i64 (fv 64 (d / 2 ^ Go.Lib.ctz 64 d.toNat)).1), .v (.bool ((fv 64 (d / 2 ^ Go.Lib.ctz 64 d.toNat)).2 == 1))], h) := by
  have hlow := Go.Lib.ctzFrom_spec 64 d.toNat (by omega) (by omega)
  have hctz : Go.Lib.ctz 64 d.toNat = Go.Lib.ctzFrom 64 d.toNat := by unfold Go.Lib.ctz; rw [if_neg (by omega)]
  rw [← hctz] at hlow
  have k1 := fun h => f132 (lo := lo) (h := h) (x := d) (by omega) (by omega)
  generalize Go.Lib.ctz 64 d.toNat = a at *
  obtain ⟨m, hm, ha⟩ := hlow
  have pa := Spell.pow_pos (x := 2) (by omega) a
  have hq : 1 ≤ d / 2 ^ a := by
    have : (d.toNat : Int) = ((2 ^ a * (2 * m + 1) : Nat) : Int) := by rw [hm]
    have e : (d.toNat : Int) = d := by omega
    rw [e] at this
    have hd : d = 2 ^ a * (2 * (m : Int) + 1) := by rw [this]; push_cast; rfl
    rw [hd, Int.mul_ediv_cancel_left _ (by omega)]
    omega
  have hq2 : d / 2 ^ a ≤ d := Int.ediv_le_self _ (by omega)
  have h64 : (9223372036854775808 : Int) ≤ 5 ^ 64 := by decide
  have hL := loop95 (lo := lo) (h := h) (a := a) 64 (d / 2 ^ a) 0 hq (by omega) (by omega) (by omega)
  have n0 : ((0 : Nat) : Int) = 0 := rfl
  simp only [l95x0, b95, Tryz.f95, loopAt, loops, bodyOf, go_sem, n0, Nat.zero_add] at hL
  have sh : ishr IntKind.u64 d (a : Int) = d / 2 ^ a := by
    unfold ishr
    have e : min ((a : Int)).toNat IntKind.u64.bits = a := by
      show min ((a : Int)).toNat 64 = a
      omega
    rw [e, Int.fdiv_eq_ediv_of_nonneg _ (by omega)]
  have w1 : IntKind.u64.wrap (d / 2 ^ a) = d / 2 ^ a := wrap_u64 (by omega) (by omega)
  rw [e95 (by simp) (by rfl)]
  simp only [go_sem, b95, Tryz.f95, k1, sh, w1, hL]
  all_goals rfl
theorem dgt_one {n : Int} (h0 : 0 ≤ n) (h : n < 10) : dgt n = [48 + n] := by
  unfold dgt
  rw [Go.Lib.decDigits_one (by omega)]
  simp
  omega
theorem dgt_more {n : Int} (h : 10 ≤ n) : dgt n = dgt (n / 10) ++ [48 + n % 10] := by
  unfold dgt
  rw [Go.Lib.decDigits, dif_neg (by omega)]
  have e : (n / 10).toNat = n.toNat / 10 := by omega
  rw [e, List.map_append]
  congr 1
  simp
  omega
theorem dgt_by (n : Int) : By (dgt n) := fun c hc => by
  unfold dgt at hc
  obtain ⟨x, _, rfl⟩ := List.mem_map.1 hc
  have := x.toNat_lt
  omega
theorem dgt_len : ∀ (k : Nat) (n : Int), 0 ≤ n → n < 10 ^ (k + 1) → 1 ≤ (dgt n).length ∧ (dgt n).length ≤ k + 1 := by
  intro k
  induction k with
  | zero =>
    intro n h0 h1
    rw [dgt_one h0 (by simpa using h1)]
    simp
  | succ k ih =>
    intro n h0 h1
    by_cases h : n < 10
    · rw [dgt_one h0 h]; simp
    · rw [dgt_more (by omega)]
      have := ih (n / 10) (by omega) (by rw [Int.pow_succ] at h1; omega)
      simp
      omega
abbrev cz (k : Nat) (suf : List Int) : Ob := .cells (List.replicate k (.v (.int .u8 0)) ++ suf.map fun c => .v (.int .u8 c))
theorem set_cz (k : Nat) (c : Int) (suf : List Int) : (List.replicate (k + 1) (V.v (.int .u8 0)) ++ suf.map fun c => V.v (.int .u8 c)).set k (.v (.int .u8 c)) = List.replicate k (V.v (.int .u8 0)) ++ (c :: suf).map fun c => V.v (.int .u8 c) := by
  rw [List.replicate_succ', List.append_assoc, List.set_append_right _ _ (by simp)]
  simp
theorem last97 (hlo : lo ≤ h.length) {ex : Env} (hex : ex = [] ∨ ∃ b, ex = [(16, .v (.bool b))]) {n : Int} {j : Nat} {suf : List Int} (h0 : 0 ≤ n) (h1 : n < 10) (h4 : j + 1 + suf.length = 20) :
    ∃ x : Ob, loopW (evCode ⟨Tryz.prog, E, lo, h.length, h97⟩ loopW l97x0) ((0, .v (.int .u64 n)) :: (3, .ptr h.length 0) :: (4, .v (.int .i64 (j + 1 : Nat))) :: ex, h ++ [cz (j + 1) suf]) =
      some (.ret, [(2, .v (.string (bs (dgt n ++ suf))))], h ++ [x]) := by
  have t1 : n.tmod 10 = n % 10 := Int.tmod_eq_emod_of_nonneg (by omega)
  have t2 : n.tdiv 10 = n / 10 := Int.tdiv_eq_ediv_of_nonneg (by omega)
  have t3 : n / 10 = 0 := by omega
  have t4 : n % 10 = n := by omega
  have w1 : IntKind.i64.wrap (((j + 1 : Nat) : Int) - 1) = (j : Int) := by rw [wrap_i64 (by omega) (by omega)]; omega
  have w2 : IntKind.u64.wrap (48 + n) = 48 + n := wrap_u64 (by omega) (by omega)
  have w3 : IntKind.u8.wrap (48 + n) = 48 + n := by simp only [IntKind.wrap, IntKind.signed, IntKind.bits]; simp; omega
  have b1 : (j : Int) < ((20 : Nat) : Int) := by omega
  have e := set_cz j (48 + n) suf
  have e2 : j + 1 ≤ (List.replicate (j + 1) (V.v (Value.int IntKind.u8 0)) ++ List.map (fun c => V.v (Value.int IntKind.u8 c)) suf).length := by simp
  have q0 : ((0 : Int) == 0) = true := rfl
  have z : ¬ ((10 : Int) = 0) := by omega
  have e3 : decide (j + (20 - j) ≤ (List.replicate j (V.v (Value.int IntKind.u8 0)) ++ V.v (Value.int IntKind.u8 (48 + n)) :: List.map (fun c => V.v (Value.int IntKind.u8 c)) suf).length) = true := by simp; omega
  have e4 : bytesOf (List.map (fun x => [x]) (List.take (20 - j) (List.drop j (List.replicate j (V.v (Value.int IntKind.u8 0)) ++ V.v (Value.int IntKind.u8 (48 + n)) :: List.map (fun c => V.v (Value.int IntKind.u8 c)) suf)))) = some (u8s ((48 + n) :: suf)) := by
    rw [List.drop_left' (by simp), List.take_of_length_le (by simp; omega)]
    have : List.map (fun x => [x]) (V.v (Value.int IntKind.u8 (48 + n)) :: List.map (fun c => V.v (Value.int IntKind.u8 c)) suf) = ri .u8 ((48 + n) :: suf) := by simp [ri]
    rw [this]
    exact ri_bytes _
  have w0 : IntKind.u64.wrap 0 = 0 := wrap_u64 (by omega) (by omega)
  have b2 : j ≤ 20 := by omega
  have b3 : j < 20 := by omega
  rw [dgt_one h0 h1]
  refine ⟨cz j ((48 + n) :: suf), ?_⟩
  rw [loop_eq]
  rcases hex with rfl | ⟨b, rfl⟩ <;>
  simp only [go_sem, l97x0, b97, Tryz.f97, t1, t2, t3, t4, w1, w2, w3, b1, e, e2, e3, e4, hlo, q0, z, w0, b2, b3, cz, Nat.zero_add, Nat.mul_one]
  all_goals rfl
theorem more97 (hlo : lo ≤ h.length) {ex : Env} (hex : ex = [] ∨ ∃ b, ex = [(16, .v (.bool b))]) {n : Int} {j : Nat} {suf : List Int} (h0 : 10 ≤ n) (h1 : n ≤ 18446744073709551615) (h4 : j + 1 + suf.length = 20) :
    evCode ⟨Tryz.prog, E, lo, h.length, h97⟩ loopW l97x0 ((0, .v (.int .u64 n)) :: (3, .ptr h.length 0) :: (4, .v (.int .i64 (j + 1 : Nat))) :: ex, h ++ [cz (j + 1) suf]) =
      some (.normal, [(0, .v (.int .u64 (n / 10))), (3, .ptr h.length 0), (4, .v (.int .i64 j)), (16, .v (.bool false))], h ++ [cz j ((48 + n % 10) :: suf)]) := by
  have t1 : n.tmod 10 = n % 10 := Int.tmod_eq_emod_of_nonneg (by omega)
  have t2 : n.tdiv 10 = n / 10 := Int.tdiv_eq_ediv_of_nonneg (by omega)
  have w1 : IntKind.i64.wrap (((j + 1 : Nat) : Int) - 1) = (j : Int) := by rw [wrap_i64 (by omega) (by omega)]; omega
  have w2 : IntKind.u64.wrap (48 + n % 10) = 48 + n % 10 := wrap_u64 (by omega) (by omega)
  have w3 : IntKind.u8.wrap (48 + n % 10) = 48 + n % 10 := by simp only [IntKind.wrap, IntKind.signed, IntKind.bits]; simp; omega
  have w0 : IntKind.u64.wrap (n / 10) = n / 10 := wrap_u64 (by omega) (by omega)
  have w4 : IntKind.u64.wrap (n % 10) = n % 10 := wrap_u64 (by omega) (by omega)
  have b1 : (j : Int) < ((20 : Nat) : Int) := by omega
  have e := set_cz j (48 + n % 10) suf
  have e2 : j + 1 ≤ (List.replicate (j + 1) (V.v (Value.int IntKind.u8 0)) ++ List.map (fun c => V.v (Value.int IntKind.u8 c)) suf).length := by simp
  have q0 : (n / 10 == 0) = false := by simp; omega
  have z : ¬ ((10 : Int) = 0) := by omega
  rcases hex with rfl | ⟨b, rfl⟩ <;>
  simp only [go_sem, l97x0, b97, Tryz.f97, t1, t2, w1, w2, w3, w4, b1, e, e2, hlo, q0, z, w0, cz, Nat.zero_add, Nat.mul_one]
  all_goals rfl
theorem loop97 (hlo : lo ≤ h.length) : ∀ (k : Nat) (n : Int) (j : Nat) (suf : List Int) (ex : Env), (ex = [] ∨ ∃ b, ex = [(16, .v (.bool b))]) → 0 ≤ n → n < 10 ^ (k + 1) → n ≤ 18446744073709551615 → k ≤ j → j + 1 + suf.length = 20 →
    ∃ x : Ob, loopW (evCode ⟨Tryz.prog, E, lo, h.length, h97⟩ loopW l97x0) ((0, .v (.int .u64 n)) :: (3, .ptr h.length 0) :: (4, .v (.int .i64 (j + 1 : Nat))) :: ex, h ++ [cz (j + 1) suf]) =
      some (.ret, [(2, .v (.string (bs (dgt n ++ suf))))], h ++ [x]) := by
  intro k
  induction k with
  | zero => intro n j suf ex hex h0 h1 _ h2 h4; exact last97 hlo hex h0 (by simpa using h1) h4
  | succ k ih =>
    intro n j suf ex hex h0 h1 h3 h2 h4
    by_cases hn : n < 10
    · exact last97 hlo hex h0 hn h4
    obtain ⟨i, rfl⟩ : ∃ i, j = i + 1 := ⟨j - 1, by omega⟩
    obtain ⟨x, hx⟩ := ih (n / 10) i ((48 + n % 10) :: suf) [(16, .v (.bool false))] (.inr ⟨_, rfl⟩) (by omega) (by rw [Int.pow_succ] at h1; omega) (by omega) (by omega) (by simp; omega)
    refine ⟨x, ?_⟩
    rw [loop_eq, more97 hlo hex (by omega) h3 h4, loop_n, hx, dgt_more (n := n) (by omega), List.append_assoc]
    rfl
/-- jalousie/rat.number -/
theorem f97 (hlo : lo ≤ h.length) {n : Int} (h0 : 0 ≤ n) (h1 : n ≤ 18446744073709551615) : E lo 97 [.v (.int .u64 n)] h = some (.v (.string (bs (dgt n))), h) := by
  obtain ⟨x, hL⟩ := loop97 (lo := lo) (h := h) hlo 19 n 19 [] [] (.inl rfl) h0 (by omega) h1 (by omega) (by simp)
  have n20 : ((19 + 1 : Nat) : Int) = 20 := rfl
  have hz : cz (19 + 1) [] = .cells [.v (.int .u8 0), .v (.int .u8 0), .v (.int .u8 0), .v (.int .u8 0), .v (.int .u8 0), .v (.int .u8 0), .v (.int .u8 0), .v (.int .u8 0), .v (.int .u8 0), .v (.int .u8 0), .v (.int .u8 0), .v (.int .u8 0), .v (.int .u8 0), .v (.int .u8 0), .v (.int .u8 0), .v (.int .u8 0), .v (.int .u8 0), .v (.int .u8 0), .v (.int .u8 0), .v (.int .u8 0)] := rfl
  rw [n20, hz, List.append_nil] at hL
  simp only [l97x0, b97, Tryz.f97, loopAt, loops, bodyOf, go_sem] at hL
  rw [e97 (by simp) (by rfl)]
  simp only [go_sem, b97, Tryz.f97, hL]
  all_goals rfl
end
end Go.Lift.R4
end

section
/- rat.Plain. -/
open Go.Proofs
namespace Go.Lift.R4
set_option linter.unusedSectionVars false
variable [MX]
open Utf Tok Spell
set_option maxRecDepth 20000
set_option maxHeartbeats 4000000
set_option linter.unusedSimpArgs false
set_option linter.unusedVariables false

section
variable {lo : Nat} {h : Heap}
noncomputable abbrev X36 (lo N : Nat) : Cx := ⟨Tryz.prog, E, lo, N, h36⟩
theorem upM_le {x : Int} (hx : 1 ≤ x) (hx2 : x ≤ 5) : ∀ (k : Nat) (m r : Int), 0 ≤ m → m ≤ 9223372036854775808 → upM x k m = some r → 0 ≤ r ∧ r ≤ 9223372036854775808
  | 0, m, r, h0, h1, h => by cases h; exact ⟨h0, h1⟩
  | k + 1, m, r, h0, h1, h => by
    simp only [upM] at h
    split at h
    · cases h
    · rename_i hb
      unfold big at hb
      have h2 : 0 ≤ m * x := Int.mul_nonneg h0 (by omega)
      have h3 : m * x ≤ m * 5 := Int.mul_le_mul_of_nonneg_left hx2 h0
      exact upM_le hx hx2 k (m * x) r h2 (by omega) h
abbrev I36 (p : Heap) (w : Bool) (q b n a1 a2 i K j : Int) (q0 : Nat) : Env :=
  [(1, .v (.bool w)), (2, .ptr q0 0), (9, .v (.int .i64 b)), (10, .v (.int .u64 n)), (12, .ptr p.length 0), (65, .agg [.v (.int .u64 2), .v (.int .u64 a1), .v (.int .u64 5), .v (.int .u64 a2)]), (66, .v (.int .i64 i)), (70, .v (.int .u64 K)), (71, .v (.int .u64 j))]
theorem loop36i {p : Heap} {N q0 : Nat} {w : Bool} {b a1 a2 i x : Int} {K : Nat} (hlo : lo ≤ p.length) (hx : 1 ≤ x) (hx2 : x ≤ 5) (hK : K ≤ 1000) : ∀ (k j : Nat) (n : Int), j + k = K → 0 ≤ n → n ≤ 9223372036854775808 →
    loopW (evCode (X36 lo N) loopW l36x1) (I36 p w 0 b n a1 a2 i K j q0, p ++ [.cells [.v (.int .u64 x), .v (.int .u64 K)]]) =
      match upM x k n with
      | some r => some (.exit 3, I36 p w 0 b r a1 a2 i K K q0 ++ [(72, .v (.bool false))], p ++ [.cells [.v (.int .u64 x), .v (.int .u64 K)]])
      | none => some (.ret, [(4, .v (.string ⟨#[]⟩)), (5, .v (.int .i64 1))], p ++ [.cells [.v (.int .u64 x), .v (.int .u64 K)]]) := by
  intro k
  induction k with
  | zero =>
    intro j n hj h0 h1
    obtain rfl : j = K := by omega
    have q : decide ((j : Int) < (j : Int)) = false := by simp
    rw [loop_eq]
    simp only [go_sem, l36x1, b36, Tryz.f36, q, upM]
    all_goals rfl
  | succ k ih =>
    intro j n hj h0 h1
    have q : decide ((j : Int) < (K : Int)) = true := by simp; omega
    rw [loop_eq]
    simp only [upM]
    unfold big
    by_cases hb : 1000000000000000000 < n
    · have q2 : decide (1000000000000000000 < n) = true := by simp [hb]
      rw [if_pos hb]
      simp only [go_sem, l36x1, b36, Tryz.f36, q, q2]
      all_goals rfl
    · have q2 : decide (1000000000000000000 < n) = false := by simp; omega
      have h2 : 0 ≤ n * x := Int.mul_nonneg h0 (by omega)
      have h3 : n * x ≤ n * 5 := Int.mul_le_mul_of_nonneg_left hx2 h0
      have w1 : IntKind.u64.wrap (n * x) = n * x := wrap_u64 h2 (by omega)
      have w2 : IntKind.u64.wrap ((j : Int) + 1) = ((j + 1 : Nat) : Int) := by rw [wrap_u64 (by omega) (by omega)]; omega
      have b0 : (0 : Int) < ((2 : Nat) : Int) := by omega
      rw [if_neg hb]
      have er : evCode (X36 lo N) loopW l36x1 (I36 p w 0 b n a1 a2 i K j q0, p ++ [.cells [.v (.int .u64 x), .v (.int .u64 K)]]) = some (.normal, I36 p w 0 b (n * x) a1 a2 i K (j + 1 : Nat) q0, p ++ [.cells [.v (.int .u64 x), .v (.int .u64 K)]]) := by
        simp only [go_sem, l36x1, b36, Tryz.f36, q, q2, w1, w2, b0]
        all_goals rfl
      rw [er, loop_n, ih (j + 1) (n * x) (by omega) h2 (by omega)]
abbrev O36 (w : Bool) (q0 : Nat) (b n a1 a2 i : Int) : Env :=
  [(1, .v (.bool w)), (2, .ptr q0 0), (9, .v (.int .i64 b)), (10, .v (.int .u64 n)), (65, .agg [.v (.int .u64 2), .v (.int .u64 a1), .v (.int .u64 5), .v (.int .u64 a2)]), (66, .v (.int .i64 i))]
theorem round36a {p : Heap} {N q0 : Nat} {w : Bool} {b : Int} {K1 K2 : Nat} (hlo : lo ≤ p.length) (hK : K1 ≤ 1000) {n : Int} (h0 : 0 ≤ n) (h1 : n ≤ 9223372036854775808) :
    evCode (X36 lo N) loopW l36x0 (O36 w q0 b n K1 K2 0, p) = match upM 2 K1 n with
      | some r => some (.normal, O36 w q0 b r K1 K2 1, p ++ [.cells [.v (.int .u64 2), .v (.int .u64 K1)]])
      | none => some (.ret, [(4, .v (.string ⟨#[]⟩)), (5, .v (.int .i64 1))], p ++ [.cells [.v (.int .u64 2), .v (.int .u64 K1)]]) := by
  have hL := loop36i (lo := lo) (p := p) (N := N) (q0 := q0) (w := w) (b := b) (a1 := K1) (a2 := K2) (i := 0) (x := 2) hlo (by omega) (by omega) hK K1 0 n (by omega) h0 h1
  have n0 : ((0 : Nat) : Int) = 0 := rfl
  have q : decide ((0 : Int) < 2) = true := rfl
  have b0 : (0 : Int) < ((2 : Nat) : Int) := by omega
  have b1 : (1 : Int) < ((2 : Nat) : Int) := by omega
  have w1 : IntKind.i64.wrap (0 + 1) = 1 := rfl
  simp only [l36x1, b36, Tryz.f36, loopAt, loops, bodyOf, go_sem, n0] at hL
  cases hu : upM 2 K1 n with
  | none =>
    rw [hu] at hL
    simp only [go_sem, l36x0, b36, Tryz.f36, q, b0, b1, hL, hlo]
    all_goals rfl
  | some r =>
    rw [hu] at hL
    simp only [go_sem, l36x0, b36, Tryz.f36, q, b0, b1, w1, hL, hlo]
    all_goals rfl
theorem round36b {p : Heap} {N q0 : Nat} {w : Bool} {b : Int} {K1 K2 : Nat} (hlo : lo ≤ p.length) (hK : K2 ≤ 1000) {n : Int} (h0 : 0 ≤ n) (h1 : n ≤ 9223372036854775808) :
    evCode (X36 lo N) loopW l36x0 (O36 w q0 b n K1 K2 1, p) = match upM 5 K2 n with
      | some r => some (.normal, O36 w q0 b r K1 K2 2, p ++ [.cells [.v (.int .u64 5), .v (.int .u64 K2)]])
      | none => some (.ret, [(4, .v (.string ⟨#[]⟩)), (5, .v (.int .i64 1))], p ++ [.cells [.v (.int .u64 5), .v (.int .u64 K2)]]) := by
  have hL := loop36i (lo := lo) (p := p) (N := N) (q0 := q0) (w := w) (b := b) (a1 := K1) (a2 := K2) (i := 1) (x := 5) hlo (by omega) (by omega) hK K2 0 n (by omega) h0 h1
  have n0 : ((0 : Nat) : Int) = 0 := rfl
  have q : decide ((1 : Int) < 2) = true := rfl
  have b0 : (0 : Int) < ((2 : Nat) : Int) := by omega
  have b1 : (1 : Int) < ((2 : Nat) : Int) := by omega
  have w1 : IntKind.i64.wrap (1 + 1) = 2 := rfl
  simp only [l36x1, b36, Tryz.f36, loopAt, loops, bodyOf, go_sem, n0] at hL
  cases hu : upM 5 K2 n with
  | none =>
    rw [hu] at hL
    simp only [go_sem, l36x0, b36, Tryz.f36, q, b0, b1, hL, hlo]
    all_goals rfl
  | some r =>
    rw [hu] at hL
    simp only [go_sem, l36x0, b36, Tryz.f36, q, b0, b1, w1, hL, hlo]
    all_goals rfl
theorem loop36o {p : Heap} {N q0 : Nat} {w : Bool} {b : Int} {K1 K2 : Nat} (hlo : lo ≤ p.length) (hK1 : K1 ≤ 1000) (hK2 : K2 ≤ 1000) {n : Int} (h0 : 0 ≤ n) (h1 : n ≤ 9223372036854775808) :
    ∃ q : Heap, loopW (evCode (X36 lo N) loopW l36x0) (O36 w q0 b n K1 K2 0, p) = match (upM 2 K1 n).bind (upM 5 K2) with
      | some r => some (.exit 1, O36 w q0 b r K1 K2 2 ++ [(67, .v (.bool false))], p ++ q)
      | none => some (.ret, [(4, .v (.string ⟨#[]⟩)), (5, .v (.int .i64 1))], p ++ q) := by
  rw [loop_eq, round36a hlo hK1 h0 h1]
  cases hu : upM 2 K1 n with
  | none => exact ⟨_, by rw [Option.bind_none, loop_r]⟩
  | some r =>
    obtain ⟨r0, r1⟩ := upM_le (x := 2) (by omega) (by omega) K1 n r h0 h1 hu
    simp only [Option.bind_some]
    rw [loop_n, loop_eq, round36b (by simp; omega) hK2 r0 r1]
    cases hu2 : upM 5 K2 r with
    | none => exact ⟨_, by rw [loop_r, List.append_assoc]⟩
    | some m =>
      refine ⟨[.cells [.v (.int .u64 2), .v (.int .u64 K1)]] ++ [.cells [.v (.int .u64 5), .v (.int .u64 K2)]], ?_⟩
      simp only
      rw [loop_n, loop_eq, List.append_assoc]
      have q : decide ((2 : Int) < 2) = false := rfl
      simp only [go_sem, l36x0, b36, Tryz.f36, q]
      all_goals rfl
theorem fv_le : ∀ (k : Nat) (d : Int), (fv k d).1 ≤ k
  | 0, _ => Nat.le_refl _
  | k + 1, d => by
    simp only [fv]
    split
    · have := fv_le k (d / 5)
      simp only
      omega
    · simp
/-- as far as the number that is written -/
theorem p36a (hlo : lo ≤ h.length) {n d : Int} {w : Bool} (h0 : -9223372036854775808 ≤ n) (h1 : n ≤ 9223372036854775807) (h2 : 1 ≤ d) (h3 : d ≤ 9223372036854775807) (hm : mayR n d = true) (hw : (w && decide (1 < d)) = false) :
    ∃ (q : Heap) (a1 a2 : Int), evL (X36 lo h.length) loopW (pc b36 0 9) (args0 [.agg [.v (.int .i64 n), .v (.int .i64 d)], .v (.bool w)], h) = match progN n.natAbs d with
      | some (m, k) => some (.normal, O36 w h.length k m a1 a2 2 ++ [(67, .v (.bool false))], h ++ .cells [.v (.int .i64 n), .v (.int .i64 d)] :: q)
      | none => some (.ret, [(4, .v (.string ⟨#[]⟩)), (5, .v (.int .i64 1))], h ++ .cells [.v (.int .i64 n), .v (.int .i64 d)] :: q) := by
  have k1 := fun lo h hlo => f93 (lo := lo) (h := h) h0 h1 h3 hlo
  rw [hm] at k1
  have k1 := k1 lo (h ++ [.cells [.v (.int .i64 n), .v (.int .i64 d)]]) (by simp; omega)
  have k2 := fun lo h => f95 (lo := lo) (h := h) (d := d) h2 (by omega)
  have k3 := fun lo h => f96 (lo := lo) (h := h) h0 h1
  have wd : IntKind.u64.wrap d = d := wrap_u64 (by omega) (by omega)
  have qd : (d == 0) = false := by simp; omega
  have hA : Go.Lib.ctz 64 d.toNat ≤ 64 := by
    have hlow := Go.Lib.ctzFrom_spec 64 d.toNat (by omega) (by omega)
    have hctz : Go.Lib.ctz 64 d.toNat = Go.Lib.ctzFrom 64 d.toNat := by unfold Go.Lib.ctz; rw [if_neg (by omega)]
    rw [← hctz] at hlow
    obtain ⟨_, _, h⟩ := hlow
    omega
  have hB := fv_le 64 (d / 2 ^ Go.Lib.ctz 64 d.toNat)
  unfold progN
  simp only
  generalize Go.Lib.ctz 64 d.toNat = A at *
  generalize fv 64 (d / 2 ^ A) = BR at *
  obtain ⟨B, R⟩ := BR
  simp only at k2 hB ⊢
  have pre : ∀ wv : Bool, (wv && decide (1 < d)) = false → True := fun _ _ => trivial
  by_cases hR : R = 1
  rotate_left
  · have qR : (R == 1) = false := by simp [hR]
    rw [if_neg hR]
    refine ⟨[], 0, 0, ?_⟩
    cases w with
    | true =>
      have q1 : decide (1 < d) = false := by simpa using hw
      simp only [go_sem, b36, Tryz.f36, k1, k2, k3, wd, qd, q1, qR, hlo]
      all_goals rfl
    | false =>
      simp only [go_sem, b36, Tryz.f36, k1, k2, k3, wd, qd, qR, hlo]
      all_goals rfl
  have qR : (R == 1) = true := by simp [hR]
  rw [if_pos hR]
  have mx : (if (A : Int) < (B : Int) then (B : Int) else (A : Int)) = ((max A B : Nat) : Int) := by split <;> omega
  have hmA : A ≤ max A B := by omega
  have hmB : B ≤ max A B := by omega
  have hmM : max A B ≤ 64 := by omega
  generalize max A B = M at *
  have w1 : IntKind.i64.wrap ((M : Int) - A) = ((M - A : Nat) : Int) := by rw [wrap_i64 (by omega) (by omega)]; omega
  have w2 : IntKind.i64.wrap ((M : Int) - B) = ((M - B : Nat) : Int) := by rw [wrap_i64 (by omega) (by omega)]; omega
  have w3 : IntKind.u64.wrap (((M - A : Nat) : Int)) = ((M - A : Nat) : Int) := wrap_u64 (by omega) (by omega)
  have w4 : IntKind.u64.wrap (((M - B : Nat) : Int)) = ((M - B : Nat) : Int) := wrap_u64 (by omega) (by omega)
  obtain ⟨q, hL⟩ := loop36o (lo := lo) (p := h ++ [.cells [.v (.int .i64 n), .v (.int .i64 d)]]) (N := h.length) (q0 := h.length) (w := w) (b := M) (K1 := M - A) (K2 := M - B) (by simp; omega) (by omega) (by omega) (n := n.natAbs) (by omega) (by omega)
  refine ⟨q, ((M - A : Nat) : Int), ((M - B : Nat) : Int), ?_⟩
  simp only [l36x0, b36, Tryz.f36, loopAt, loops, bodyOf, go_sem] at hL
  cases hu : (upM 2 (M - A) (n.natAbs : Int)).bind (upM 5 (M - B)) with
  | none =>
    rw [hu] at hL
    cases w with
    | true =>
      have q1 : decide (1 < d) = false := by simpa using hw
      simp only [go_sem, b36, Tryz.f36, k1, k2, k3, wd, qd, q1, qR, mx, w1, w2, w3, w4, hL, hlo, Option.map_none]
      all_goals rfl
    | false =>
      simp only [go_sem, b36, Tryz.f36, k1, k2, k3, wd, qd, qR, mx, w1, w2, w3, w4, hL, hlo, Option.map_none]
      all_goals rfl
  | some m =>
    rw [hu] at hL
    cases w with
    | true =>
      have q1 : decide (1 < d) = false := by simpa using hw
      simp only [go_sem, b36, Tryz.f36, k1, k2, k3, wd, qd, q1, qR, mx, w1, w2, w3, w4, hL, hlo, Option.map_some]
      all_goals rfl
    | false =>
      simp only [go_sem, b36, Tryz.f36, k1, k2, k3, wd, qd, qR, mx, w1, w2, w3, w4, hL, hlo, Option.map_some]
      all_goals rfl
end
end Go.Lift.R4
end

section
/- rat.Plain, to its end. -/
open Go.Proofs
namespace Go.Lift.R4
set_option linter.unusedSectionVars false
variable [MX]
open Utf Tok Spell
set_option maxRecDepth 20000
set_option maxHeartbeats 4000000
set_option linter.unusedSimpArgs false
set_option linter.unusedVariables false

section
variable {lo : Nat} {h : Heap}
theorem bs_45 : (⟨#[45]⟩ : ByteArray) = bs [45] := rfl
theorem bs_46 : (⟨#[46]⟩ : ByteArray) = bs [46] := rfl
theorem bs_48 : (⟨#[48]⟩ : ByteArray) = bs [48] := rfl
/-- the digits, with naughts ahead -/
def wide (m : Int) (p : Nat) : List Int := List.replicate (p + 1 - (dgt m).length) 48 ++ dgt m
theorem wide_len {m : Int} {p : Nat} : p + 1 ≤ (wide m p).length ∧ (wide m p).length ≤ (dgt m).length + p + 1 := by
  unfold wide
  simp
  omega
theorem wide_by (m : Int) (p : Nat) : By (wide m p) := fun c hc => by
  unfold wide at hc
  rcases List.mem_append.1 hc with h | h
  · have := List.eq_of_mem_replicate h; omega
  · exact dgt_by m c h
/-- the digits -/
theorem p36b (hlo : lo ≤ h.length) {n d m a1 a2 : Int} {w : Bool} {p : Nat} {q : Heap} (h0 : 0 ≤ m) (h1 : m ≤ 9223372036854775808) (hp : p ≤ 1000) :
    evL (X36 lo h.length) loopW (pc b36 9 3) (O36 w h.length p m a1 a2 2 ++ [(67, .v (.bool false))], h ++ .cells [.v (.int .i64 n), .v (.int .i64 d)] :: q) =
      if 18 < (core (dgt m)).length then some (.ret, [(4, .v (.string ⟨#[]⟩)), (5, .v (.int .i64 1))], h ++ .cells [.v (.int .i64 n), .v (.int .i64 d)] :: q)
      else some (.normal, [(1, .v (.bool w)), (2, .ptr h.length 0), (9, .v (.int .i64 p)), (13, .v (.string (bs (dgt m)))), (86, .v (.bool false))], h ++ .cells [.v (.int .i64 n), .v (.int .i64 d)] :: q) := by
  have k1 := fun (lo : Nat) (h : Heap) (hlo : lo ≤ h.length) => f97 (lo := lo) (h := h) hlo h0 (n := m) (by omega)
  have k1 := k1 lo (h ++ .cells [.v (.int .i64 n), .v (.int .i64 d)] :: q) (by simp; omega)
  obtain ⟨l1, l2⟩ := dgt_len 19 m h0 (by have : (10 : Int) ^ (19 + 1) = 100000000000000000000 := by decide
                                         omega)
  have k2 := fun lo h => f98 (lo := lo) (h := h) (dgt_by m) (by omega)
  have sz := bs_size (core (dgt m))
  by_cases hc : 18 < (core (dgt m)).length
  · have q1 : decide (18 < (((core (dgt m)).length : Nat) : Int)) = true := by simp; omega
    rw [if_pos hc]
    simp only [go_sem, b36, Tryz.f36, k1, k2, sz, q1, hlo, O36]
    all_goals rfl
  · have q1 : decide (18 < (((core (dgt m)).length : Nat) : Int)) = false := by simp; omega
    rw [if_neg hc]
    simp only [go_sem, b36, Tryz.f36, k1, k2, sz, q1, hlo, O36]
    all_goals rfl
theorem p36c {n d m : Int} {w : Bool} {p : Nat} {q : Heap} (h0 : 0 ≤ m) (h1 : m ≤ 9223372036854775808) (hp : p ≤ 1000) :
    evL (X36 lo h.length) loopW (pc b36 12 2) ([(1, .v (.bool w)), (2, .ptr h.length 0), (9, .v (.int .i64 p)), (13, .v (.string (bs (dgt m)))), (86, .v (.bool false))], h ++ .cells [.v (.int .i64 n), .v (.int .i64 d)] :: q) =
      some (.normal, [(1, .v (.bool w)), (2, .ptr h.length 0), (9, .v (.int .i64 p)), (13, .v (.string (bs (wide m p)))), (90, .v (.bool (decide ((dgt m).length ≤ p))))], h ++ .cells [.v (.int .i64 n), .v (.int .i64 d)] :: q) := by
  obtain ⟨l1, l2⟩ := dgt_len 19 m h0 (by have : (10 : Int) ^ (19 + 1) = 100000000000000000000 := by decide
                                         omega)
  have sz := bs_size (dgt m)
  unfold wide
  by_cases hc : (dgt m).length ≤ p
  · have q1 : decide (((dgt m).length : Int) ≤ (p : Int)) = true := by simp; omega
    have q2 : decide ((dgt m).length ≤ p) = true := by simp [hc]
    have w1 : IntKind.i64.wrap ((p : Int) + 1) = (p : Int) + 1 := wrap_i64 (by omega) (by omega)
    have w2 : IntKind.i64.wrap ((p : Int) + 1 - ((dgt m).length : Int)) = (p : Int) + 1 - ((dgt m).length : Int) := wrap_i64 (by omega) (by omega)
    have k1 := fun lo h => f94 (lo := lo) (h := h) (c := 48) (n := (p : Int) + 1 - ((dgt m).length : Int)) (by omega) (by omega)
    have e : ((p : Int) + 1 - ((dgt m).length : Int)).toNat = p + 1 - (dgt m).length := by omega
    have e2 : ((UInt8.toNat 48 : Nat) : Int) = 48 := rfl
    rw [e, e2] at k1
    have z1 : (bs (List.replicate (p + 1 - (dgt m).length) 48)).size + (dgt m).length ≤ 9223372036854775807 := by rw [bs_size, List.length_replicate]; omega
    rw [q2]
    simp only [go_sem, b36, Tryz.f36, sz, q1, w1, w2, k1, bs_app, z1]
    all_goals rfl
  · have q1 : decide (((dgt m).length : Int) ≤ (p : Int)) = false := by simp; omega
    have q2 : decide ((dgt m).length ≤ p) = false := by simp [hc]
    have e : p + 1 - (dgt m).length = 0 := by omega
    rw [q2, e]
    simp only [go_sem, b36, Tryz.f36, sz, q1]
    all_goals rfl
/-- the text of digits, with its point -/
def point (T : List Int) (p : Nat) (w : Bool) : List Int := if w = true then T else T.take (T.length - p) ++ 46 :: (T.drop (T.length - p) ++ if p = 0 then [48] else [])
theorem p36d {T : List Int} {n d : Int} {w b : Bool} {p : Nat} {q : Heap} (hp : p + 1 ≤ T.length) (hl : T.length ≤ 1000000) :
    ∃ e1 e2 : Env, (e1 = [] ∨ ∃ v, e1 = [(9, v)]) ∧ (e2 = [] ∨ (∃ v, e2 = [(100, v)]) ∨ ∃ v, e2 = [(114, v)]) ∧
    evL (X36 lo h.length) loopW (pc b36 14 2) ([(1, .v (.bool w)), (2, .ptr h.length 0), (9, .v (.int .i64 p)), (13, .v (.string (bs T))), (90, .v (.bool b))], h ++ .cells [.v (.int .i64 n), .v (.int .i64 d)] :: q) =
      some (.normal, (2, .ptr h.length 0) :: (e1 ++ (13, .v (.string (bs (point T p w)))) :: e2), h ++ .cells [.v (.int .i64 n), .v (.int .i64 d)] :: q) := by
  unfold point
  cases w with
  | true =>
    refine ⟨[(9, .v (.int .i64 p))], [(100, .v (.bool false))], .inr ⟨_, rfl⟩, .inr (.inl ⟨_, rfl⟩), ?_⟩
    simp only [go_sem, b36, Tryz.f36]
    all_goals rfl
  | false =>
    have sz := bs_size T
    have w1 : IntKind.i64.wrap ((T.length : Int) - (p : Int)) = ((T.length - p : Nat) : Int) := by rw [wrap_i64 (by omega) (by omega)]; omega
    have b1 : T.length - p ≤ T.length := by omega
    have e1 : (T.take T.length).drop (T.length - p) = T.drop (T.length - p) := by rw [List.take_length]
    have e0 : (T.take (T.length - p)).drop 0 = T.take (T.length - p) := rfl
    have zz : ∀ a b : List Int, a.length + b.length ≤ 2000000000 → (bs a).size + (bs b).size ≤ 9223372036854775807 := fun a b h => by rw [bs_size, bs_size]; omega
    have z1 := zz (T.take (T.length - p)) [46] (by simp; omega)
    have z2 := zz (T.take (T.length - p) ++ [46]) (T.drop (T.length - p)) (by simp; omega)
    have z3 := zz (T.take (T.length - p) ++ [46] ++ T.drop (T.length - p)) [48] (by simp; omega)
    rw [List.append_assoc, List.singleton_append] at z3
    have z0 : 0 ≤ T.length - p := Nat.zero_le _
    by_cases hp0 : p = 0
    · have q0 : ((p : Int) == 0) = true := by simp [hp0]
      have q2 : (p == 0) = true := by simp [hp0]
      rw [if_pos hp0]
      refine ⟨[(9, .undef)], [(100, .undef)], .inr ⟨_, rfl⟩, .inr (.inl ⟨_, rfl⟩), ?_⟩
      simp only [go_sem, b36, Tryz.f36, sz, w1, b1, bs_ext, e0, e1, bs_46, bs_48, bs_app, q0, z0, z1, z2, z3, Nat.le_refl, List.append_assoc]
      all_goals rfl
    · have q0 : ((p : Int) == 0) = false := by simp; omega
      have q2 : (p == 0) = false := by simp [hp0]
      rw [if_neg hp0]
      refine ⟨[], [(114, .v (.bool false))], .inl rfl, .inr (.inr ⟨_, rfl⟩), ?_⟩
      simp only [go_sem, b36, Tryz.f36, sz, w1, b1, bs_ext, e0, e1, bs_46, bs_48, bs_app, q0, z0, z1, z2, z3, Nat.le_refl, List.append_assoc]
      all_goals rfl
theorem p36e {T : List Int} {n d : Int} {q : Heap} {e1 e2 : Env} (hl : T.length ≤ 2000000) (he : e1 = [] ∨ ∃ v, e1 = [(9, v)]) (ht : e2 = [] ∨ (∃ v, e2 = [(100, v)]) ∨ ∃ v, e2 = [(114, v)]) :
    evL (X36 lo h.length) loopW (pc b36 16 4) ((2, .ptr h.length 0) :: (e1 ++ (13, .v (.string (bs T))) :: e2), h ++ .cells [.v (.int .i64 n), .v (.int .i64 d)] :: q) =
      some (.ret, [(4, .v (.string (bs ((if n < 0 then [45] else []) ++ T)))), (5, .v (.int .i64 0))], h ++ .cells [.v (.int .i64 n), .v (.int .i64 d)] :: q) := by
  have z1 : (bs [45]).size + (bs T).size ≤ 9223372036854775807 := by rw [bs_size, bs_size]; simp; omega
  by_cases hn : n < 0
  · have q1 : decide (n < 0) = true := by simp [hn]
    rw [if_pos hn]
    rcases he with rfl | ⟨v, rfl⟩ <;> rcases ht with rfl | ⟨v2, rfl⟩ | ⟨v2, rfl⟩ <;>
    simp only [go_sem, b36, Tryz.f36, q1, bs_45, bs_app, z1] <;> rfl
  · have q1 : decide (n < 0) = false := by simp; omega
    rw [if_neg hn]
    rcases he with rfl | ⟨v, rfl⟩ <;> rcases ht with rfl | ⟨v2, rfl⟩ | ⟨v2, rfl⟩ <;>
    simp only [go_sem, b36, Tryz.f36, q1, List.nil_append] <;> rfl
theorem fin36 {x : List Int} {e : Int} {c : Ob} {q : Heap} : fin Tryz.prog [.tmp 4, .tmp 5] h.length (some (.ret, [(4, .v (.string (bs x))), (5, .v (.int .i64 e))], h ++ c :: q)) = some (.tup [.v (.string (bs x)), .v (.int .i64 e)], h) := by
  simp only [go_sem]
  all_goals rfl
/-- what a fraction's text comes back as -/
def plainV (x : Option (List Int)) : V := match x with
  | some t => .tup [.v (.string (bs t)), .v (.int .i64 0)]
  | none => .tup [.v (.string (bs [])), .v (.int .i64 1)]
theorem prog_one {n m : Int} {p : Nat} (h : progN n 1 = some (m, p)) : p = 0 := by
  have hc : Go.Lib.ctz 64 1 = 0 := by decide
  unfold progN at h
  have e1 : (1 : Int).toNat = 1 := rfl
  have e2 : (1 : Int) / 2 ^ 0 = 1 := rfl
  have e3 : fv 64 1 = (0, 1) := rfl
  simp only [e1, hc, e2, e3] at h
  simp [upM] at h
  omega
end
end Go.Lift.R4
end
