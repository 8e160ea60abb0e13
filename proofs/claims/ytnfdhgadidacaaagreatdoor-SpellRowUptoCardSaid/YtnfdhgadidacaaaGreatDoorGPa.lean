/- The program, evaluated. -/
import Derived.Lib.IndexLaws
import Derived.Test.YtnfdhgadidacaaaGreatDoorGLc
import Derived.Test.YtnfdhgadidacaaaGreatDoorGZa
import Derived.Test.YtnfdhgadidacaaaGreatDoorGP4Basea
import Derived.Test.YtnfdhgadidacaaaGreatDoorGZb
section
open Go.Proofs
namespace Go.Lift.R4
set_option linter.unusedSectionVars false
variable [MX]
open Utf Tok Spell
set_option maxRecDepth 20000
set_option maxHeartbeats 2000000
set_option linter.unusedSimpArgs false
set_option linter.unusedVariables false
def bs (l : List Int) : ByteArray := ⟨(u8s l).toArray⟩
theorem bs_size (l : List Int) : (bs l).size = l.length := by simp [bs, ByteArray.size, u8s]
theorem bs_ext (l : List Int) (a b : Nat) : (bs l).extract a b = bs ((l.take b).drop a) := by
 apply ByteArray.ext
 simp only [bs, ByteArray.data_extract]
 apply Array.toList_inj.1
 rw [Array.toList_extract]
 simp only [List.extract, u8s, List.toList_toArray, List.map_drop, List.map_take]
 rw [List.take_drop]
 rcases Nat.le_total a b with h | h
 ·rw [Nat.add_sub_cancel' h]
 ·rw [List.drop_eq_nil_of_le (by simp; omega), List.drop_eq_nil_of_le (by simp; omega)]
theorem bs_app (a b : List Int) : bs a ++ bs b = bs (a ++ b) := by
 apply ByteArray.ext
 simp [bs, u8s]
theorem bs_ix {l : List Int} (hy : By l) (i : Nat) : ((bs l).data[i]?).map (fun c => V.v (.int .u8 c.toNat)) = (l[i]?).map fun c => V.v (.int .u8 c) := by
 simp only [bs, List.getElem?_toArray, u8s, List.getElem?_map]
 cases h : l[i]? with
 | none => rfl
 | some c =>
  have := hy c (List.mem_of_getElem? h)
  simp only [Option.map_some]
  congr 4
  show ((UInt8.ofNat c.toNat).toNat : Int) = c
  simp only [UInt8.toNat_ofNat']
  omega
theorem bs_list (l : List Int) : (bs l).toList = u8s l := by simp [bs, ByteArray.toList_eq]
theorem bs_nil : bs [] = ByteArray.empty := rfl
theorem bs_nil_eq (l : List Int) : ((bs l).toList == (ByteArray.empty).toList) = decide (l = []) := by
 rw [← bs_nil, bs_list, bs_list]
 cases l with
 | nil => rfl
 | cons c t => simp [u8s]
theorem By.take {l : List Int} (h : By l) (n : Nat) : By (l.take n) := fun c hc => h c (List.mem_of_mem_take hc)
theorem By.drop {l : List Int} (h : By l) (n : Nat) : By (l.drop n) := fun c hc => h c (List.mem_of_mem_drop hc)
theorem core_snoc (l : List Int) (c : Int) : core (l ++ [c]) = if c = 48 then core l else l ++ [c] := by
 unfold core
 rw [List.reverse_append]
 simp only [List.reverse_cons, List.reverse_nil, List.nil_append, List.cons_append, List.dropWhile_cons, beq_iff_eq]
 split <;> simp
theorem bytes_bs {l : List Int} (hy : By l) : byteRows (bs l) = ri .u8 l := by
 unfold byteRows bs u8s ri
 simp only [List.map_map]
 apply List.map_congr_left
 intro c hc
 have := hy c hc
 simp only [Function.comp]
 congr 4
 show ((UInt8.ofNat c.toNat).toNat : Int) = c
 simp only [UInt8.toNat_ofNat']
 omega
theorem rep_list (c : UInt8) : ∀ n : Nat, Go.Lib.repeatL [c] n = List.replicate n c
 | 0 => rfl
 | n + 1 => by rw [Go.Lib.repeatL, rep_list c n]; rfl
theorem bs_rep (c : UInt8) (n : Nat) : (⟨(Go.Lib.repeatL [c] n).toArray⟩ : ByteArray) = bs (List.replicate n (c.toNat : Int)) := by
 rw [rep_list]
 unfold bs u8s
 congr 2
 rw [List.map_replicate]
 simp
theorem bs_idx {l : List Int} (hy : By l) {c : Int} (h0 : 0 ≤ c) (h1 : c ≤ 255) : decide (0 ≤ Go.Lib.indexByte (bs l).data.toList c.toNat.toUInt8) = l.contains c := by
 unfold bs
 simp only
 induction l with
 | nil => rfl
 | cons x t ih =>
  have hx := hy x (by simp)
  have ih := ih fun y hy2 => hy y (by simp [hy2])
  have hge := Go.Lib.indexByte_ge (u8s t) c.toNat.toUInt8
  simp only [u8s, List.map_cons, Go.Lib.indexByte, List.contains_cons] at ih hge ⊢
  have e : (UInt8.ofNat x.toNat == c.toNat.toUInt8) = (c == x) := by
   rw [Bool.eq_iff_iff, beq_iff_eq, beq_iff_eq]
   constructor
   ·intro h
    have h2 := congrArg UInt8.toNat h
    simp only [UInt8.toNat_ofNat', Nat.toUInt8_eq] at h2
    omega
   ·rintro rfl
    rfl
  rw [e]
  cases c == x with
  | true => rw [if_pos rfl]; simp
  | false =>
   rw [if_neg (by simp), Bool.false_or, ← ih]
   by_cases h : Go.Lib.indexByte (List.map (fun n => UInt8.ofNat n.toNat) t) c.toNat.toUInt8 = -1
   ·rw [if_pos (by simpa using h)]
    refine decide_eq_decide.2 ⟨fun h9 => by omega, fun h9 => ?_⟩
    have h8 : 0 ≤ Go.Lib.indexByte (List.map (fun n => UInt8.ofNat n.toNat) t) c.toNat.toUInt8 := h9
    omega
   ·rw [if_neg (by simpa using h)]
    refine decide_eq_decide.2 ⟨fun h9 => ?_, fun h9 => ?_⟩
    ·show 0 ≤ Go.Lib.indexByte (List.map (fun n => UInt8.ofNat n.toNat) t) c.toNat.toUInt8
     omega
    ·have h8 : 0 ≤ Go.Lib.indexByte (List.map (fun n => UInt8.ofNat n.toNat) t) c.toNat.toUInt8 := h9
     omega
theorem core_nil : core [] = [] := rfl
theorem loop133 {lo : Nat} {h : Heap} : ∀ (m : Nat) (l : List Int), l.length = m → By l → l.length ≤ 100000000000 →
  loopW (evCode ⟨Tryz.prog, E, lo, h.length, h133⟩ loopW l133x0) ([(0, .v (.string (bs l))), (1, .v (.int .u8 48))], h) =
   some (.exit 0, [(0, .v (.string (bs (core l)))), (1, .v (.int .u8 48)), (16, .v (.bool false))], h) := by
 intro m
 induction m with
 | zero =>
  intro l hm hy hl
  obtain rfl := List.eq_nil_of_length_eq_zero hm
  have hd : decide ((0 : Int) < 0) = false := rfl
  rw [loop_eq]
  simp only [go_sem, l133x0, b133, Tryz.f133, bs_size, hd, core_nil]
 | succ m ih =>
  intro l hm hy hl
  obtain ⟨t, c, rfl⟩ : ∃ t c, l = t ++ [c] := by
   rcases List.eq_nil_or_concat l with h | ⟨t, c, h⟩
   ·rw [h] at hm; cases hm
   ·exact ⟨t, c, by simpa using h⟩
  have hsz : (t ++ [c]).length = t.length + 1 := by simp
  have htm : t.length = m := by omega
  have hd : decide ((0 : Int) < ((t.length + 1 : Nat) : Int)) = true := by simp
  have hc : (t ++ [c])[t.length]? = some c := by simp
  have hw : IntKind.i64.wrap (((t.length + 1 : Nat) : Int) - 1) = (t.length : Int) := by rw [wrap_i64 (by omega) (by omega)]; omega
  have hix := bs_ix hy t.length
  rw [hc] at hix
  have htk : (t ++ [c]).take t.length = t := by simp
  rw [loop_eq, core_snoc]
  cases hb : (c == 48) with
  | false =>
   rw [if_neg (by simpa using hb)]
   simp only [go_sem, l133x0, b133, Tryz.f133, bs_size, hsz, hd, hw, hix, hb]
  | true =>
   rw [if_pos (by simpa using hb)]
   have h1 : t.length ≤ t.length + 1 := by omega
   have e : evCode ⟨Tryz.prog, E, lo, h.length, h133⟩ loopW l133x0 ([(0, .v (.string (bs (t ++ [c])))), (1, .v (.int .u8 48))], h) = some (.normal, [(0, .v (.string (bs t))), (1, .v (.int .u8 48))], h) := by
    simp only [go_sem, l133x0, b133, Tryz.f133, bs_size, hsz, hd, hw, hix, hb, h1, Nat.zero_le, bs_ext, htk]
   rw [e, loop_n]
   exact ih t htm (fun x hx => hy x (by simp [hx])) (by omega)
theorem f133 {lo : Nat} {l : List Int} {h : Heap} (hy : By l) (hl : l.length ≤ 100000000000) : E lo 133 [.v (.string (bs l)), .v (.int .u8 48)] h = some (.v (.string (bs (core l))), h) := by
 have hL := loop133 (lo := lo) (h := h) l.length l rfl hy hl
 rw [e133 (by simp) (by rfl)]
 simp only [l133x0, b133, Tryz.f133, loopAt, loops, bodyOf, go_sem] at hL
 simp only [go_sem, b133, Tryz.f133, hL]
theorem bs_nil_eq' (l : List Int) : ((bs l).toList == (⟨#[]⟩ : ByteArray).toList) = decide (l = []) := bs_nil_eq l
theorem cut48 : ((⟨#[48]⟩ : ByteArray).toList == (⟨#[]⟩ : ByteArray).toList) = false := (bs_nil_eq' [48]).trans (by simp)
theorem f98 {lo : Nat} {l : List Int} {h : Heap} (hy : By l) (hl : l.length ≤ 100000000000) : E lo 98 [.v (.string (bs l)), .v (.string ⟨#[48]⟩)] h = some (.v (.string (bs (core l))), h) := by
 rw [e98 (by simp) (by rfl)]
 cases l with
 | nil =>
  have t1 := bs_nil_eq' []
  simp only [decide_true] at t1
  simp only [go_sem, b98, Tryz.f98, t1]
  rfl
 | cons c t =>
  have t1 := bs_nil_eq' (c :: t)
  rw [decide_eq_false (by simp)] at t1
  have t2 : ((1 : Nat) : Int) = 1 := rfl
  have t3 : ((1 : Int) == 1) = true := rfl
  have t4 : decide ((48 : Int) < 128) = true := rfl
  have t5 : ((UInt8.toNat 48 : Nat) : Int) = 48 := rfl
  have t6 : (⟨#[48]⟩ : ByteArray).size = 1 := rfl
  simp only [go_sem, b98, Tryz.f98, t1, cut48, t2, t3, t4, t5, t6, f133 hy hl]
end Go.Lift.R4
end

section
open Go.Proofs
namespace Go.Lift.R4
set_option linter.unusedSectionVars false
variable [MX]
set_option linter.unusedVariables false
set_option linter.unusedSimpArgs false
open Utf
set_option maxRecDepth 20000
set_option linter.unusedSimpArgs false
theorem fdiv64 (y : Int) (k : Nat) : y.fdiv (2 ^ min k 32) = y / 2 ^ min k 32 := by
 rw [Int.fdiv_eq_ediv_of_nonneg]
 exact Int.le_of_lt (Int.pow_pos (by omega))
theorem bytes_eq (y : Int) (h0 : 0 ≤ y) (h1 : y ≤ 1114111) (out : List Int) :
  (
   if decide (y < 128) = true then ri .u8 out ++ [[V.v (.int .u8 (IntKind.u8.wrap y))]]
   else if decide (y < 2048) = true then ri .u8 out ++ [[V.v (.int .u8 (IntKind.u8.wrap ↑(BitVec.ofInt 8 192 ||| BitVec.ofInt 8 (IntKind.u8.wrap (y.fdiv (2 ^ min 6 32)))).toNat))],
    [V.v (.int .u8 (IntKind.u8.wrap ↑(BitVec.ofInt 8 128 ||| BitVec.ofInt 8 (IntKind.u8.wrap (IntKind.i32.wrap ↑(BitVec.ofInt 32 y &&& BitVec.ofInt 32 63).toNat))).toNat))]]
   else if decide (y < 65536) = true then ri .u8 out ++ [[V.v (.int .u8 (IntKind.u8.wrap ↑(BitVec.ofInt 8 224 ||| BitVec.ofInt 8 (IntKind.u8.wrap (y.fdiv (2 ^ min 12 32)))).toNat))],
    [V.v (.int .u8 (IntKind.u8.wrap ↑(BitVec.ofInt 8 128 ||| BitVec.ofInt 8 (IntKind.u8.wrap (IntKind.i32.wrap ↑(BitVec.ofInt 32 (y.fdiv (2 ^ min 6 32)) &&& BitVec.ofInt 32 63).toNat))).toNat))],
    [V.v (.int .u8 (IntKind.u8.wrap ↑(BitVec.ofInt 8 128 ||| BitVec.ofInt 8 (IntKind.u8.wrap (IntKind.i32.wrap ↑(BitVec.ofInt 32 y &&& BitVec.ofInt 32 63).toNat))).toNat))]]
   else ri .u8 out ++ [[V.v (.int .u8 (IntKind.u8.wrap ↑(BitVec.ofInt 8 240 ||| BitVec.ofInt 8 (IntKind.u8.wrap (y.fdiv (2 ^ min 18 32)))).toNat))],
    [V.v (.int .u8 (IntKind.u8.wrap ↑(BitVec.ofInt 8 128 ||| BitVec.ofInt 8 (IntKind.u8.wrap (IntKind.i32.wrap ↑(BitVec.ofInt 32 (y.fdiv (2 ^ min 12 32)) &&& BitVec.ofInt 32 63).toNat))).toNat))],
    [V.v (.int .u8 (IntKind.u8.wrap ↑(BitVec.ofInt 8 128 ||| BitVec.ofInt 8 (IntKind.u8.wrap (IntKind.i32.wrap ↑(BitVec.ofInt 32 (y.fdiv (2 ^ min 6 32)) &&& BitVec.ofInt 32 63).toNat))).toNat))],
    [V.v (.int .u8 (IntKind.u8.wrap ↑(BitVec.ofInt 8 128 ||| BitVec.ofInt 8 (IntKind.u8.wrap (IntKind.i32.wrap ↑(BitVec.ofInt 32 y &&& BitVec.ofInt 32 63).toNat))).toNat))]])
  = ri .u8 (out ++ enc y) := by
 have lo6 : ∀ z : Int, 0 ≤ z → z ≤ 1114111 → IntKind.u8.wrap ↑(BitVec.ofInt 8 128 ||| BitVec.ofInt 8 (IntKind.u8.wrap (IntKind.i32.wrap ↑(BitVec.ofInt 32 z &&& BitVec.ofInt 32 63).toNat))).toNat = 128 + z % 64 := by
  intro z z0 z1
  rw [and63 z0 (by omega), wrap_i32 (by omega) (by omega), wrap_u8 (n := z % 64) (by omega) (by omega), Utf.o8 (n := 64) (by omega) (by omega) (by omega), wrap_u8 (by omega) (by omega)]
 have e6 : y.fdiv (2 ^ min 6 32) = y / 64 := fdiv64 y 6
 have e69 : y.fdiv (2 ^ min 12 32) = y / 4096 := fdiv64 y 12
 have e18 : y.fdiv (2 ^ min 18 32) = y / 262144 := fdiv64 y 18
 rw [e6, e69, e18, lo6 y h0 h1, lo6 (y / 64) (by omega) (by omega), lo6 (y / 4096) (by omega) (by omega), ← ri_app]
 unfold enc
 by_cases c1 : y < 128
 ·simp only [c1, decide_true, if_true, ri_cons, ri_nil]
  rw [wrap_u8 (by omega) (by omega)]
 ·by_cases c2 : y < 2048
  ·simp only [c1, c2, decide_true, decide_false, if_true, if_false, ri_cons, ri_nil, Bool.false_eq_true]
   rw [wrap_u8 (n := y / 64) (by omega) (by omega), Utf.o8 (n := 32) (by omega) (by omega) (by omega), wrap_u8 (by omega) (by omega)]
  ·by_cases c3 : y < 65536
   ·simp only [c1, c2, c3, decide_true, decide_false, if_true, if_false, ri_cons, ri_nil, Bool.false_eq_true]
    rw [wrap_u8 (n := y / 4096) (by omega) (by omega), Utf.o8 (n := 16) (by omega) (by omega) (by omega), wrap_u8 (by omega) (by omega)]
   ·simp only [c1, c2, c3, decide_true, decide_false, if_true, if_false, ri_cons, ri_nil, Bool.false_eq_true]
    rw [wrap_u8 (n := y / 262144) (by omega) (by omega), Utf.o8 (n := 8) (by omega) (by omega) (by omega), wrap_u8 (by omega) (by omega)]
end Go.Lift.R4
end

section
open Go.Proofs
namespace Go.Lift.R4
set_option linter.unusedSectionVars false
variable [MX]
open Utf Tok Spell
set_option maxRecDepth 20000
set_option maxHeartbeats 4000000
set_option linter.unusedSimpArgs false
set_option linter.unusedVariables false
theorem rows_ri (l : List Int) : rowsInts (ri .u8 l) = some l := by
 induction l with
 | nil => rfl
 | cons n l ih => rw [ri_cons]; unfold rowsInts; rw [ih]; rfl
theorem by_all {l : List Int} (hy : By l) : (l.all fun c => decide (0 ≤ c) && decide (c ≤ 255)) = true := by
 rw [List.all_eq_true]
 intro c hc
 have := hy c hc
 simp
 exact this
section
variable {lo : Nat} {p q : Heap} {p0 x : V} {out : List Int}
theorem at_ob (o : Ob) : (p ++ o :: q)[p.length]? = some o := by simp
theorem set_ob (o : Ob) (cs : List V) : Lift.setOb (p ++ o :: q) p.length cs = p ++ .cells cs :: q := by
 unfold Lift.setOb
 rw [List.set_append_right _ _ (Nat.le_refl _)]
 simp
theorem ok_self : okP p.length (.ptr p.length 0) = true := by simp [okP]
theorem ok_nil (i : Nat) : okP i (.v (.pointer none)) = true := rfl
theorem f108 (hlo : lo ≤ p.length) (hp : okP p.length p0 = true) : E lo 108 [.ptr p.length 0] (p ++ .cells [p0, x] :: q) = some (.tup [], p ++ .cells [.ptr p.length 0, x] :: q) := by
 show ev _ hints primz lo _ _ _ = _
 rw [ev_prim (p := ccP) rfl]
 unfold ccP
 simp only [at_ob]
 rw [if_pos ⟨hlo, hp⟩, set_ob]
theorem f90 (hlo : lo ≤ p.length) (hp : okP p.length p0 = true) {r : Int} (h0 : -2147483648 ≤ r) (h1 : r ≤ 2147483647) (hl : out.length ≤ 1000000000) :
  E lo 90 [.ptr p.length 0, .v (.int .i32 r)] (p ++ .cells [p0, .list .yes (ri .u8 out)] :: q) =
   some (.tup [.v (.int .i64 ((enc (scal r)).length : Nat)), .v .nilIface], p ++ .cells [.ptr p.length 0, .list .yes (ri .u8 (out ++ enc (scal r)))] :: q) := by
 show ev _ hints primz lo _ _ _ = _
 rw [ev_prim (p := wrP) rfl]
 unfold wrP
 simp only [at_ob, rows_ri]
 rw [if_pos ⟨hlo, hp, h0, h1, hl⟩, set_ob]
theorem f49 (hlo : lo ≤ p.length) (hy : By out) (hl : out.length ≤ 1000000000) :
  E lo 49 [.ptr p.length 0] (p ++ .cells [p0, .list .yes (ri .u8 out)] :: q) = some (.v (.string (bs out)), p ++ .cells [p0, .list .no (ri .u8 out)] :: q) := by
 show ev _ hints primz lo _ _ _ = _
 rw [ev_prim (p := stP) rfl]
 unfold stP
 simp only [at_ob, rows_ri]
 rw [if_pos ⟨hlo, by_all hy, hl⟩, set_ob]
 rfl
theorem f91 (hlo : lo ≤ p.length) (hp : okP p.length p0 = true) {c : Int} (hl : out.length ≤ 1000000000) :
  E lo 91 [.ptr p.length 0, .v (.int .u8 c)] (p ++ .cells [p0, .list .yes (ri .u8 out)] :: q) =
   some (.v .nilIface, p ++ .cells [.ptr p.length 0, .list .yes (ri .u8 (out ++ [c]))] :: q) := by
 have k := f108 (lo := lo) (p := p) (q := q) (p0 := p0) (x := .list .yes (ri .u8 out)) hlo hp
 have hr : ∀ k, k ≤ 4 → (out.length + k) * 1 ≤ 140737488355328 := by intro k hk; omega
 have hq : ∀ k, 9223372036854775800 ≤ k → out.length ≤ k := by intro k hk; omega
 have e : ri .u8 (out ++ [c]) = ri .u8 out ++ [[V.v (.int .u8 c)]] := by rw [← ri_app]; rfl
 rw [e91 (by simp) (by rfl), e]
 simp only [go_sem, b91, Tryz.f91, k, hr, hq, hlo]
 all_goals rfl
theorem f48 (hlo : lo ≤ p.length) (hp : okP p.length p0 = true) {s : List Int} (hs : By s) (hl : out.length ≤ 1000000000) (hl2 : s.length ≤ 1000000000) :
  E lo 48 [.ptr p.length 0, .v (.string (bs s))] (p ++ .cells [p0, .list .yes (ri .u8 out)] :: q) =
   some (.tup [.v (.int .i64 s.length), .v .nilIface], p ++ .cells [.ptr p.length 0, .list .yes (ri .u8 (out ++ s))] :: q) := by
 have k := f108 (lo := lo) (p := p) (q := q) (p0 := p0) (x := .list .yes (ri .u8 out)) hlo hp
 have e : ri .u8 (out ++ s) = ri .u8 out ++ ri .u8 s := by rw [← ri_app]
 have sz := bs_size s
 have h1 : (out.length + s.length) * 1 ≤ 140737488355328 := by omega
 have h2 : out.length + s.length ≤ 9223372036854775807 := by omega
 rw [e48 (by simp) (by rfl), e]
 simp only [go_sem, b48, Tryz.f48, k, hlo, bytes_bs hs, sz, h1, h2]
 all_goals rfl
end
end Go.Lift.R4
end

section
open Go.Proofs
namespace Go.Lift.R4
set_option linter.unusedSectionVars false
variable [MX]
open Utf Tok Spell
set_option maxRecDepth 20000
set_option maxHeartbeats 4000000
set_option linter.unusedSimpArgs false
set_option linter.unusedVariables false
section
variable {lo : Nat} {h : Heap}
theorem bs_hex : (⟨#[48, 49, 50, 51, 52, 53, 54, 55, 56, 57, 97, 98, 99, 100, 101, 102]⟩ : ByteArray) = bs hexS := rfl
theorem by_hex : By hexS := by decide
theorem wrap_i32' {n : Int} (h0 : -2147483648 ≤ n) (h1 : n ≤ 2147483647) : IntKind.i32.wrap n = n := by
 simp only [IntKind.wrap, IntKind.signed, IntKind.bits]
 simp
 omega
theorem loop87a : ∀ (k : Nat) (r : Int) (out : List Int), 0 ≤ r → r < 16 ^ k → r ≤ 2147483647 → out.length + k ≤ 1000 →
  loopW (evCode ⟨Tryz.prog, E, lo, h.length, h87⟩ loopW l87x0) ([(0, .v (.int .i32 r)), (3, .list .yes (ri .u8 out))], h) =
   some (.exit 0, [(0, .v (.int .i32 0)), (3, .list .yes (ri .u8 (out ++ rdN k r))), (7, .v (.bool false))], h) := by
 intro k
 induction k with
 | zero =>
  intro r out h0 h1 _ _
  obtain rfl : r = 0 := by simp at h1; omega
  have q : decide ((0 : Int) < 0) = false := rfl
  rw [loop_eq, rdN, List.append_nil]
  simp only [go_sem, l87x0, b87, Tryz.f87, q]
  all_goals rfl
 | succ k ih =>
  intro r out h0 h1 h2 h3
  by_cases hr : r ≤ 0
  ·obtain rfl : r = 0 := by omega
   have q : decide ((0 : Int) < 0) = false := rfl
   rw [loop_eq, rdN, if_pos (by omega), List.append_nil]
   simp only [go_sem, l87x0, b87, Tryz.f87, q]
   all_goals rfl
  ·have q : decide (0 < r) = true := by simp; omega
   have t1 : r.tmod 16 = r % 16 := Int.tmod_eq_emod_of_nonneg (by omega)
   have t2 : r.tdiv 16 = r / 16 := Int.tdiv_eq_ediv_of_nonneg (by omega)
   have z : ¬ ((16 : Int) = 0) := by omega
   have w1 : IntKind.i32.wrap (r % 16) = r % 16 := wrap_i32' (by omega) (by omega)
   have w2 : IntKind.i32.wrap (r / 16) = r / 16 := wrap_i32' (by omega) (by omega)
   have hi := bs_ix by_hex (r % 16).toNat
   rw [hexS_at (by omega) (by omega)] at hi
   have hn : 0 ≤ r % 16 := by omega
   have hr1 : ∀ k, k ≤ 4 → (out.length + k) * 1 ≤ 140737488355328 := by intro k hk; omega
   have hq : ∀ k, 9223372036854775800 ≤ k → out.length ≤ k := by intro k hk; omega
   have e : ri .u8 out ++ [[V.v (.int .u8 (hexD (r % 16)))]] = ri .u8 (out ++ [hexD (r % 16)]) := by rw [← ri_app]; rfl
   have er : evCode ⟨Tryz.prog, E, lo, h.length, h87⟩ loopW l87x0 ([(0, .v (.int .i32 r)), (3, .list .yes (ri .u8 out))], h) = some (.normal, [(0, .v (.int .i32 (r / 16))), (3, .list .yes (ri .u8 (out ++ [hexD (r % 16)])))], h) := by
    simp only [go_sem, l87x0, b87, Tryz.f87, q, t1, t2, z, w1, w2, bs_hex, hi, hn, hr1, hq, e]
    all_goals rfl
   rw [loop_eq, er, loop_n, ih (r / 16) _ (by omega) (by rw [Int.pow_succ] at h1; omega) (by omega) (by simp; omega), rdN, if_neg hr, List.append_assoc]
   rfl
theorem loop87b {b : List Int} (hlo : lo ≤ h.length) (hb : b.length ≤ 1000) : ∀ (n : Nat) (out : List Int), n ≤ b.length → out.length + n ≤ 2000 →
  loopW (evCode ⟨Tryz.prog, E, lo, h.length, h87⟩ loopW l87x1) ([(3, .list .yes (ri .u8 b)), (4, .ptr h.length 0), (5, .v (.int .i64 ((n : Int) - 1)))], h ++ [.cells [.ptr h.length 0, .list .yes (ri .u8 out)]]) =
   some (.exit 2, [(3, .list .yes (ri .u8 b)), (4, .ptr h.length 0), (5, .v (.int .i64 (-1))), (21, .v (.bool false))], h ++ [.cells [.ptr h.length 0, .list .yes (ri .u8 (out ++ (b.take n).reverse))]]) := by
 intro n
 induction n with
 | zero =>
  intro out h1 h2
  have e : ((0 : Nat) : Int) - 1 = -1 := rfl
  have q : decide ((0 : Int) ≤ -1) = false := rfl
  rw [loop_eq, e]
  simp only [go_sem, l87x1, b87, Tryz.f87, q, List.take_zero, List.reverse_nil, List.append_nil]
  all_goals rfl
 | succ n ih =>
  intro out h1 h2
  have e : ((n + 1 : Nat) : Int) - 1 = (n : Int) := by omega
  have q : decide ((0 : Int) ≤ (n : Int)) = true := by simp
  have hg : b[n]? = some b[n] := List.getElem?_eq_getElem (by omega)
  have ht : b.take (n + 1) = b.take n ++ [b[n]] := List.take_succ_eq_append_getElem (by omega)
  have w1 : IntKind.i64.wrap ((n : Int) - 1) = (n : Int) - 1 := wrap_i64 (by omega) (by omega)
  generalize b[n] = x at *
  have k := f91 (lo := lo) (p := h) (q := []) (p0 := .ptr h.length 0) (out := out) hlo ok_self (c := x) (by omega)
  have k2 := f91 (lo := h.length) (p := h) (q := []) (p0 := .ptr h.length 0) (out := out) (Nat.le_refl _) ok_self (c := x) (by omega)
  have er : evCode ⟨Tryz.prog, E, lo, h.length, h87⟩ loopW l87x1 ([(3, .list .yes (ri .u8 b)), (4, .ptr h.length 0), (5, .v (.int .i64 (n : Int)))], h ++ [.cells [.ptr h.length 0, .list .yes (ri .u8 out)]]) =
    some (.normal, [(3, .list .yes (ri .u8 b)), (4, .ptr h.length 0), (5, .v (.int .i64 ((n : Int) - 1)))], h ++ [.cells [.ptr h.length 0, .list .yes (ri .u8 (out ++ [x]))]]) := by
   simp only [go_sem, l87x1, b87, Tryz.f87, q, hg, w1, k, k2]
   all_goals rfl
  rw [loop_eq, e, er, loop_n, ih _ (by omega) (by simp; omega), ht, List.reverse_append, List.append_assoc]
  rfl
theorem f87 (hlo : lo ≤ h.length) {r : Int} (h0 : 0 ≤ r) (h1 : r ≤ 2147483647) : E lo 87 [.v (.int .i32 r)] h = some (.v (.string (bs (codeT r))), h) := by
 have hA := loop87a (lo := lo) (h := h) 8 r [] h0 (by
                            have : (16 : Int) ^ 8 = 4294967296 := by decide
                            omega) h1 (by simp)
 have hlen := rdN_len 8 r
 generalize hR : rdN 8 r = R at *
 have hby : By R := hR ▸ rdN_by 8 r
 have hB := loop87b (lo := lo) (h := h) (b := R) hlo (by omega) R.length [92] (Nat.le_refl _) (by simp; omega)
 rw [List.take_length] at hB
 simp only [l87x0, b87, Tryz.f87, loopAt, loops, bodyOf, go_sem, ri_nil] at hA
 simp only [l87x1, b87, Tryz.f87, loopAt, loops, bodyOf, go_sem] at hB
 have k1 := fun lo hlo => f91 (lo := lo) (p := h) (q := []) (p0 := .v (.pointer none)) (out := []) hlo (ok_nil _) (c := 92) (by simp)
 have k2 := fun lo hlo => f91 (lo := lo) (p := h) (q := []) (p0 := .ptr h.length 0) (out := 92 :: R.reverse) hlo ok_self (c := 32) (by simp; omega)
 have k3 := fun lo hlo => f49 (lo := lo) (p := h) (q := []) (p0 := .ptr h.length 0) (out := codeT r) hlo (codeT_by r) (by have := codeT_len r; omega)
 have ec : 92 :: R.reverse ++ [32] = codeT r := by unfold codeT; rw [hR]; simp
 rw [ec] at k2
 have k1a := k1 lo hlo; have k1b := k1 h.length (Nat.le_refl _)
 have k2a := k2 lo hlo; have k2b := k2 h.length (Nat.le_refl _)
 have k3a := k3 lo hlo; have k3b := k3 h.length (Nat.le_refl _)
 have w1 : IntKind.i64.wrap ((R.length : Int) - 1) = (R.length : Int) - 1 := wrap_i64 (by omega) (by omega)
 rw [ri_nil, List.nil_append] at k1a k1b
 rw [e87 (by simp) (by rfl)]
 simp only [go_sem, b87, Tryz.f87, hA, k1a, k1b, w1, hB, k2a, k2b, k3a, k3b]
 all_goals rfl
end
end Go.Lift.R4
end

section
open Go.Proofs
namespace Go.Lift.R4
set_option linter.unusedSectionVars false
variable [MX]
open Utf Tok Spell
set_option maxRecDepth 20000
set_option maxHeartbeats 4000000
set_option linter.unusedSimpArgs false
set_option linter.unusedVariables false
section
variable {lo : Nat} {h : Heap} {c : Int}
theorem f88 : E lo 88 [.v (.int .i32 c)] h = some (.v (.bool (hidT c)), h) := by
 rw [e88 (by simp) (by rfl)]
 simp only [go_sem, b88, Tryz.f88, hidT]
theorem dig86 : E lo 86 [.v (.int .i32 c)] h = some (.v (.bool (dig c)), h) := by
 rw [e86 (by simp) (by rfl)]
 simp only [go_sem, b86, Tryz.f86, dig]
theorem f89 : E lo 89 [.v (.int .i32 c)] h = some (.v (.bool (ltr c)), h) := by
 have hc : (97 ≤ c ∧ c ≤ 122) ∨ (65 ≤ c ∧ c ≤ 90) ∨ (c = 95) ∨ (c = 45) ∨ (128 ≤ c) ∨ (c < 65 ∧ c ≠ 45) ∨ (91 ≤ c ∧ c ≤ 96 ∧ c ≠ 95) ∨ (123 ≤ c ∧ c ≤ 127) := by omega
 rw [e89 (by simp) (by rfl)]
 rcases hc with hc | hc | hc | hc | hc | hc | hc | hc
 ·have q1 : decide (97 ≤ c) = true := by simp; omega
  have q2 : decide (c ≤ 122) = true := by simp; omega
  have e : ltr c = true := by unfold ltr fst1; simp; omega
  rw [e]
  simp only [go_sem, b89, Tryz.f89, dig86, q1, q2]
  all_goals rfl
 ·have q1 : decide (97 ≤ c) = false := by simp; omega
  have q3 : decide (65 ≤ c) = true := by simp; omega
  have q4 : decide (c ≤ 90) = true := by simp; omega
  have e : ltr c = true := by unfold ltr fst1; simp; omega
  rw [e]
  simp only [go_sem, b89, Tryz.f89, dig86, q1, q3, q4]
  all_goals rfl
 ·have q1 : decide (97 ≤ c) = false := by simp; omega
  have q3 : decide (65 ≤ c) = true := by simp; omega
  have q4 : decide (c ≤ 90) = false := by simp; omega
  have q5 : (c == 95) = true := by simp; omega
  have e : ltr c = true := by unfold ltr fst1; simp; omega
  rw [e]
  simp only [go_sem, b89, Tryz.f89, dig86, q1, q3, q4, q5]
  all_goals rfl
 ·have q1 : decide (97 ≤ c) = false := by simp; omega
  have q3 : decide (65 ≤ c) = false := by simp; omega
  have q5 : (c == 95) = false := by simp; omega
  have q6 : (c == 45) = true := by simp; omega
  have e : ltr c = true := by unfold ltr fst1; simp; omega
  rw [e]
  simp only [go_sem, b89, Tryz.f89, dig86, q1, q3, q5, q6]
  all_goals rfl
 ·have q1 : decide (97 ≤ c) = true := by simp; omega
  have q2 : decide (c ≤ 122) = false := by simp; omega
  have q3 : decide (65 ≤ c) = true := by simp; omega
  have q4 : decide (c ≤ 90) = false := by simp; omega
  have q5 : (c == 95) = false := by simp; omega
  have q6 : (c == 45) = false := by simp; omega
  have q7 : decide (128 ≤ c) = true := by simp; omega
  have e : ltr c = true := by unfold ltr fst1; simp; omega
  rw [e]
  simp only [go_sem, b89, Tryz.f89, dig86, q1, q2, q3, q4, q5, q6, q7]
  all_goals rfl
 ·have q1 : decide (97 ≤ c) = false := by simp; omega
  have q3 : decide (65 ≤ c) = false := by simp; omega
  have q5 : (c == 95) = false := by simp; omega
  have q6 : (c == 45) = false := by simp; omega
  have q7 : decide (128 ≤ c) = false := by simp; omega
  have e : ltr c = dig c := by unfold ltr fst1; cases hd : dig c <;> simp <;> omega
  rw [e]
  simp only [go_sem, b89, Tryz.f89, dig86, q1, q3, q5, q6, q7]
  all_goals rfl
 ·have q1 : decide (97 ≤ c) = false := by simp; omega
  have q3 : decide (65 ≤ c) = true := by simp; omega
  have q4 : decide (c ≤ 90) = false := by simp; omega
  have q5 : (c == 95) = false := by simp; omega
  have q6 : (c == 45) = false := by simp; omega
  have q7 : decide (128 ≤ c) = false := by simp; omega
  have e : ltr c = dig c := by unfold ltr fst1; cases hd : dig c <;> simp <;> omega
  rw [e]
  simp only [go_sem, b89, Tryz.f89, dig86, q1, q3, q4, q5, q6, q7]
  all_goals rfl
 ·have q1 : decide (97 ≤ c) = true := by simp; omega
  have q2 : decide (c ≤ 122) = false := by simp; omega
  have q3 : decide (65 ≤ c) = true := by simp; omega
  have q4 : decide (c ≤ 90) = false := by simp; omega
  have q5 : (c == 95) = false := by simp; omega
  have q6 : (c == 45) = false := by simp; omega
  have q7 : decide (128 ≤ c) = false := by simp; omega
  have e : ltr c = dig c := by unfold ltr fst1; cases hd : dig c <;> simp <;> omega
  rw [e]
  simp only [go_sem, b89, Tryz.f89, dig86, q1, q2, q3, q4, q5, q6, q7]
  all_goals rfl
end
theorem bs_get {L : List Int} {i : Nat} {c : Int} (h : L[i]? = some c) (h0 : 0 ≤ c) (h1 : c ≤ 255) : ((bs L).get! i).toNat = c.toNat := by
 have hi : i < L.length := (List.getElem?_eq_some_iff.1 h).1
 have hg : (u8s L)[i]? = some (UInt8.ofNat c.toNat) := by simp [u8s, h]
 have : (bs L).get! i = UInt8.ofNat c.toNat := by
  show (u8s L).toArray[i]! = _
  simp only [List.getElem!_toArray]
  rw [List.getElem!_eq_getElem?_getD, hg]
  rfl
 rw [this]
 simp only [UInt8.toNat_ofNat']
 omega
theorem dec1 {s : ByteArray} {i b0 : Nat} (g0 : (s.get! i).toNat = b0) (h : b0 < 128) : Utf8.decode s i = (b0, 1) := by
 have g0' : (s.get! (i + 0)).toNat = b0 := g0
 unfold Utf8.decode
 simp only [g0', h, if_true]
theorem dec2 {s : ByteArray} {i b0 b1 : Nat} (g0 : (s.get! i).toNat = b0) (g1 : (s.get! (i + 1)).toNat = b1) (hs : i + 1 < s.size) (h0 : b0 / 32 = 6) (h1 : b1 / 64 = 2) (hc : 128 ≤ b0 % 32 * 64 + b1 % 64) :
  Utf8.decode s i = (b0 % 32 * 64 + b1 % 64, 2) := by
 have g0' : (s.get! (i + 0)).toNat = b0 := g0
 have hn : ¬ b0 < 128 := by omega
 unfold Utf8.decode
 simp only [g0', g1, hn, h0, h1, hs, hc, decide_true, if_true, if_false, Bool.and_self, BEq.rfl, ge_iff_le, Nat.reduceBEq]
theorem dec3 {s : ByteArray} {i b0 b1 b2 : Nat} (g0 : (s.get! i).toNat = b0) (g1 : (s.get! (i + 1)).toNat = b1) (g2 : (s.get! (i + 2)).toNat = b2) (hs : i + 2 < s.size) (h0 : b0 / 16 = 14) (h1 : b1 / 64 = 2) (h2 : b2 / 64 = 2)
  (hc : 2048 ≤ b0 % 16 * 4096 + b1 % 64 * 64 + b2 % 64) (hv : Utf8.valid ((b0 % 16 * 4096 + b1 % 64 * 64 + b2 % 64 : Nat) : Int) = true) :
  Utf8.decode s i = (b0 % 16 * 4096 + b1 % 64 * 64 + b2 % 64, 3) := by
 have g0' : (s.get! (i + 0)).toNat = b0 := g0
 have hn : ¬ b0 < 128 := by omega
 have hn2 : (b0 / 32 == 6) = false := by simp; omega
 have hs1 : i + 1 < s.size := by omega
 unfold Utf8.decode
 simp only [g0', g1, g2, hn, hn2, h0, h1, h2, hs, hs1, hc, hv, decide_true, if_true, if_false, Bool.and_self, Bool.false_and, Bool.false_eq_true, BEq.rfl, ge_iff_le, Nat.reduceBEq]
theorem dec4 {s : ByteArray} {i b0 b1 b2 b3 : Nat} (g0 : (s.get! i).toNat = b0) (g1 : (s.get! (i + 1)).toNat = b1) (g2 : (s.get! (i + 2)).toNat = b2) (g3 : (s.get! (i + 3)).toNat = b3) (hs : i + 3 < s.size) (h0 : b0 / 8 = 30) (h1 : b1 / 64 = 2) (h2 : b2 / 64 = 2) (h3 : b3 / 64 = 2)
  (hc : 65536 ≤ b0 % 8 * 262144 + b1 % 64 * 4096 + b2 % 64 * 64 + b3 % 64) (hv : Utf8.valid ((b0 % 8 * 262144 + b1 % 64 * 4096 + b2 % 64 * 64 + b3 % 64 : Nat) : Int) = true) :
  Utf8.decode s i = (b0 % 8 * 262144 + b1 % 64 * 4096 + b2 % 64 * 64 + b3 % 64, 4) := by
 have g0' : (s.get! (i + 0)).toNat = b0 := g0
 have hn : ¬ b0 < 128 := by omega
 have hn2 : (b0 / 32 == 6) = false := by simp; omega
 have hn3 : (b0 / 16 == 14) = false := by simp; omega
 have hs1 : i + 1 < s.size := by omega
 have hs2 : i + 2 < s.size := by omega
 unfold Utf8.decode
 simp only [g0', g1, g2, g3, hn, hn2, hn3, h0, h1, h2, h3, hs, hs1, hs2, hc, hv, decide_true, if_true, if_false, Bool.and_self, Bool.false_and, Bool.false_eq_true, BEq.rfl, ge_iff_le, Nat.reduceBEq]
theorem dec_enc {pre rest : List Int} {x : Int} (hs : scal x = x) : Utf8.decode (bs (pre ++ (enc x ++ rest))) pre.length = (x.toNat, (enc x).length) := by
 obtain ⟨h0, h1, h2⟩ := (scal_iff x).1 hs
 have hsz : (bs (pre ++ (enc x ++ rest))).size = pre.length + ((enc x).length + rest.length) := by rw [bs_size]; simp
 have hb := enc_by x h0 h1
 have hget : ∀ (k : Nat) (c : Int), (enc x)[k]? = some c → ((bs (pre ++ (enc x ++ rest))).get! (pre.length + k)).toNat = c.toNat := fun k c hk => by
  have := hb c (List.mem_of_getElem? hk)
  refine bs_get ?_ this.1 this.2
  rw [List.getElem?_append_right (by omega), Nat.add_sub_cancel_left, List.getElem?_append_left (List.getElem?_eq_some_iff.1 hk).1]
  exact hk
 generalize bs (pre ++ (enc x ++ rest)) = s at *
 generalize pre.length = i at *
 obtain ⟨n, rfl⟩ : ∃ n : Nat, x = n := ⟨x.toNat, by omega⟩
 have hn : ((n : Int)).toNat = n := by omega
 rw [hn]
 by_cases c1 : (n : Int) < 128
 ·have e : enc (n : Int) = [(n : Int)] := by unfold enc; rw [if_pos c1]
  rw [e] at hget ⊢
  exact dec1 (by have := hget 0 _ rfl; simpa using this) (by omega)
 ·by_cases c2 : (n : Int) < 2048
  ·have e : enc (n : Int) = [192 + (n : Int) / 64, 128 + (n : Int) % 64] := by unfold enc; rw [if_neg c1, if_pos c2]
   rw [e] at hget hsz ⊢
   have g0 := hget 0 _ rfl
   have g1 := hget 1 _ rfl
   have d := dec2 (s := s) (i := i) g0 g1 (by rw [hsz]; simp; omega) (by omega) (by omega) (by omega)
   rw [d]
   simp
   omega
  ·by_cases c3 : (n : Int) < 65536
   ·have e : enc (n : Int) = [224 + (n : Int) / 4096, 128 + (n : Int) / 64 % 64, 128 + (n : Int) % 64] := by unfold enc; rw [if_neg c1, if_neg c2, if_pos c3]
    rw [e] at hget hsz ⊢
    have g0 := hget 0 _ rfl
    have g1 := hget 1 _ rfl
    have g2 := hget 2 _ rfl
    have ev : (224 + (n : Int) / 4096).toNat % 16 * 4096 + (128 + (n : Int) / 64 % 64).toNat % 64 * 64 + (128 + (n : Int) % 64).toNat % 64 = n := by omega
    have d := dec3 (s := s) (i := i) g0 g1 g2 (by rw [hsz]; simp; omega) (by omega) (by omega) (by omega) (by omega) (by rw [ev]; simp [Utf8.valid]; omega)
    rw [d, ev]
    rfl
   ·have e : enc (n : Int) = [240 + (n : Int) / 262144, 128 + (n : Int) / 4096 % 64, 128 + (n : Int) / 64 % 64, 128 + (n : Int) % 64] := by unfold enc; rw [if_neg c1, if_neg c2, if_neg c3]
    rw [e] at hget hsz ⊢
    have g0 := hget 0 _ rfl
    have g1 := hget 1 _ rfl
    have g2 := hget 2 _ rfl
    have g3 := hget 3 _ rfl
    have ev : (240 + (n : Int) / 262144).toNat % 8 * 262144 + (128 + (n : Int) / 4096 % 64).toNat % 64 * 4096 + (128 + (n : Int) / 64 % 64).toNat % 64 * 64 + (128 + (n : Int) % 64).toNat % 64 = n := by omega
    have d := dec4 (s := s) (i := i) g0 g1 g2 g3 (by rw [hsz]; simp; omega) (by omega) (by omega) (by omega) (by omega) (by omega) (by rw [ev]; simp [Utf8.valid]; omega)
    rw [d, ev]
    rfl
end Go.Lift.R4
end

section
open Go.Proofs
namespace Go.Lift.R4
set_option linter.unusedSectionVars false
variable [MX]
open Utf Tok Spell
set_option maxRecDepth 20000
set_option maxHeartbeats 4000000
set_option linter.unusedSimpArgs false
set_option linter.unusedVariables false
section
variable {lo : Nat} {h : Heap} {done : List Int} {p0 : V} {out : List Int} {x : Int} {s : ByteArray} {pos : Nat}
abbrev H34 (h : Heap) (p0 : V) (out : List Int) (s : ByteArray) (pos : Nat) : Heap := h ++ [.cells [p0, .list .yes (ri .u8 out)], .iter s pos]
theorem round34 (hlo : lo ≤ h.length) (hp : okP h.length p0 = true) (hx0 : 0 ≤ x) (hx1 : x ≤ 1114111) (hpos : pos < s.size) (hdec : Utf8.decode s pos = (x.toNat, (enc (scal x)).length)) (hl : out.length ≤ 900000000) :
  evCode ⟨Tryz.prog, E, lo, h.length, h34⟩ loopW l34x0 ([(3, .ptr h.length 0), (7, .ptr (h.length + 1) 0)], H34 h p0 out s pos) =
   some (.normal, [(3, .ptr h.length 0), (7, .ptr (h.length + 1) 0)], H34 h (.ptr h.length 0) (out ++ nameC x) s (pos + (enc (scal x)).length)) := by
 have hlo1 : lo ≤ h.length + 1 := by omega
 have hxn : ((x.toNat : Nat) : Int) = x := by omega
 have hcl := codeT_len x
 have hel := enc_len (scal x)
 have c87 := fun lo hlo => f87 (lo := lo) (h := H34 h p0 out s (pos + (enc (scal x)).length)) hlo hx0 (r := x) (by omega)
 have c87a := c87 lo (by simp; omega)
 have c87b := c87 h.length (by simp)
 have c87c := c87 (h.length + 2) (by simp)
 have c48 := fun lo hlo => f48 (lo := lo) (p := h) (q := [.iter s (pos + (enc (scal x)).length)]) (p0 := p0) (out := out) hlo hp (s := codeT x) (codeT_by x) (by omega) (by omega)
 have c90 := fun lo hlo => f90 (lo := lo) (p := h) (q := [.iter s (pos + (enc (scal x)).length)]) (p0 := p0) (out := out) hlo hp (r := x) (by omega) (by omega) (by omega)
 have c91 := fun lo hlo => f91 (lo := lo) (p := h) (q := [.iter s (pos + (enc (scal x)).length)]) (p0 := p0) (out := out) hlo hp (c := 92) (by omega)
 have c92 := fun lo hlo => f90 (lo := lo) (p := h) (q := [.iter s (pos + (enc (scal x)).length)]) (p0 := .ptr h.length 0) (out := out ++ [92]) hlo ok_self (r := x) (by omega) (by omega) (by simp; omega)
 have c48a := c48 lo hlo; have c48b := c48 h.length (Nat.le_refl _)
 have c90a := c90 lo hlo; have c90b := c90 h.length (Nat.le_refl _)
 have c91a := c91 lo hlo; have c91b := c91 h.length (Nat.le_refl _)
 have c92a := c92 lo hlo; have c92b := c92 h.length (Nat.le_refl _)
 clear c87 c48 c90 c91 c92
 have e1 : (Utf8.decode s pos).1 = x.toNat := by rw [hdec]
 have e2 : (Utf8.decode s pos).2 = (enc (scal x)).length := by rw [hdec]
 have k88 := fun lo h => f88 (lo := lo) (h := h) (c := x)
 have k89 := fun lo h => f89 (lo := lo) (h := h) (c := x)
 unfold nameC
 cases qh : hidT x with
 | true =>
  rw [qh] at k88
  simp only [go_sem, l34x0, b34, Tryz.f34, hlo, hlo1, hpos, e1, e2, hxn, k88, c87a, c87b, c87c, c48a, c48b, if_true]
  all_goals rfl
 | false =>
  rw [qh] at k88
  cases ql : ltr x with
  | true =>
   rw [ql] at k89
   simp only [go_sem, l34x0, b34, Tryz.f34, hlo, hlo1, hpos, e1, e2, hxn, k88, k89, c90a, c90b, if_true, Bool.false_eq_true, if_false]
   all_goals rfl
  | false =>
   rw [ql] at k89
   have e3 : out ++ [92] ++ enc (scal x) = out ++ 92 :: enc (scal x) := by simp
   rw [e3] at c92a c92b
   simp only [go_sem, l34x0, b34, Tryz.f34, hlo, hlo1, hpos, e1, e2, hxn, k88, k89, c91a, c91b, c92a, c92b, Bool.false_eq_true, if_false]
   all_goals rfl
theorem stop34 (hlo : lo ≤ h.length) (hpos : ¬ pos < s.size) :
  loopW (evCode ⟨Tryz.prog, E, lo, h.length, h34⟩ loopW l34x0) ([(3, .ptr h.length 0), (7, .ptr (h.length + 1) 0)], H34 h p0 out s pos) =
   some (.exit 0, [(3, .ptr h.length 0), (7, .ptr (h.length + 1) 0), (8, .tup [.v (.bool false)]), (9, .v (.bool false))], H34 h p0 out s pos) := by
 have hlo1 : lo ≤ h.length + 1 := by omega
 rw [loop_eq]
 simp only [go_sem, l34x0, b34, Tryz.f34, hlo, hlo1, hpos]
 all_goals rfl
theorem loop34 (hlo : lo ≤ h.length) : ∀ (l : List Int) (done : List Int) (p0 : V) (out : List Int), (∀ x ∈ l, scal x = x) → okP h.length p0 = true → out.length + 10 * l.length ≤ 900000000 →
  ∃ p1, okP h.length p1 = true ∧ loopW (evCode ⟨Tryz.prog, E, lo, h.length, h34⟩ loopW l34x0) ([(3, .ptr h.length 0), (7, .ptr (h.length + 1) 0)], H34 h p0 out (bs (done ++ encs l)) done.length) =
   some (.exit 0, [(3, .ptr h.length 0), (7, .ptr (h.length + 1) 0), (8, .tup [.v (.bool false)]), (9, .v (.bool false))], H34 h p1 (out ++ nameT l) (bs (done ++ encs l)) (done ++ encs l).length) := by
 intro l
 induction l with
 | nil =>
  intro done p0 out _ hp _
  refine ⟨p0, hp, ?_⟩
  have e : done ++ encs [] = done := by simp [encs]
  rw [e, stop34 hlo (by rw [bs_size]; omega)]
  simp [nameT]
 | cons x l ih =>
  intro done p0 out hs hp hl
  have hx := hs x (by simp)
  have hx2 := scal_in x
  rw [hx] at hx2
  have hel := enc_len x
  have hcl := nameC_len x
  have hdec := dec_enc (pre := done) (rest := encs l) hx
  have e1 : encs (x :: l) = enc x ++ encs l := by rw [encs_cons, hx]
  have e2 : done ++ encs (x :: l) = (done ++ enc x) ++ encs l := by rw [e1, List.append_assoc]
  simp only [List.length_cons] at hl
  obtain ⟨p1, hp1, hL⟩ := ih (done ++ enc x) (.ptr h.length 0) (out ++ nameC x) (fun y hy => hs y (by simp [hy])) ok_self (by simp; omega)
  refine ⟨p1, hp1, ?_⟩
  rw [e1, ← List.append_assoc]
  rw [← List.append_assoc] at hdec
  rw [loop_eq, round34 hlo hp hx2.1 hx2.2 (by rw [bs_size]; simp; omega) (by rw [hdec, hx]) (by omega), loop_n, hx]
  have e3 : done.length + (enc x).length = (done ++ enc x).length := by simp
  rw [e3, hL, nameT_cons, List.append_assoc]
theorem f34 (hlo : lo ≤ h.length) {l : List Int} (hs : ∀ x ∈ l, scal x = x) (hl : l.length ≤ 10000000) : E lo 34 [.v (.string (bs (encs l)))] h = some (.v (.string (bs (nameT l))), h) := by
 have hlen := nameT_len l
 obtain ⟨p1, hp1, hL⟩ := loop34 (lo := lo) (h := h) hlo l [] (.v (.pointer none)) [] hs rfl (by simp; omega)
 rw [List.nil_append, List.nil_append, List.length_nil] at hL
 have k := fun lo hlo => f49 (lo := lo) (p := h) (q := [.iter (bs (encs l)) (encs l).length]) (p0 := p1) (out := nameT l) hlo (nameT_by l) (by omega)
 have ka := k lo hlo; have kb := k h.length (Nat.le_refl _)
 simp only [l34x0, b34, Tryz.f34, loopAt, loops, bodyOf, go_sem, ri_nil, H34] at hL
 rw [e34 (by simp) (by rfl)]
 simp only [go_sem, b34, Tryz.f34, hlo, hL, ka, kb]
 all_goals rfl
end
end Go.Lift.R4
end
