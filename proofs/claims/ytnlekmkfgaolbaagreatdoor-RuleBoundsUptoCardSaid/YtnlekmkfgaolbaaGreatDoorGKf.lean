/- jalousielaw5.deepest, of rules that may be. -/
import Derived.Lib.MapLaws
import Derived.Lib.DecodeN
import Derived.Test.YtnlekmkfgaolbaaGreatDoorGLc
import Derived.Test.YtnlekmkfgaolbaaGreatDoorGKa
import Derived.Test.YtnlekmkfgaolbaaGreatDoorGKc
import Derived.Test.YtnlekmkfgaolbaaGreatDoorGKd
import Derived.Test.YtnlekmkfgaolbaaGreatDoorGKe
set_option linter.unusedVariables false
set_option linter.unusedSimpArgs false
set_option linter.unusedSectionVars false
set_option maxRecDepth 20000
set_option maxHeartbeats 8000000
section
open Go.Proofs
namespace Go.Lift.P8
open Rul (rusC mayL)
variable [MX]
variable {lo : Nat} {h : Heap}
theorem deepR_pos {k : Int} {n : List Int} {p : List Rul.CV} {ds : List Rul.Dc} {rs : List Rul.Ru} (hp : 0 <= Rul.deepestR (.mk k n p ds rs)) :
  mayL 64 p = true /\ (∀ d ∈ ds, mayL 64 d.val = true) /\ 0 <= Rul.deepest rs /\ Rul.deepestR (.mk k n p ds rs) = Rul.deepest rs + 1 := by
 rw [Rul.deepestR] at hp ⊢
 split at hp
 ·omega
 ·rename_i h1
  rw [if_neg h1]
  split at hp
  ·omega
  ·rename_i h2
   rw [if_neg h2]
   split at hp
   ·omega
   ·rename_i h3
    rw [if_neg h3]
    refine ⟨by simpa using h1, fun d hd => ?_, by omega, rfl⟩
    simp only [List.any_eq_true, not_exists, not_and] at h2
    simpa using h2 d hd
theorem deep_cons {r : Rul.Ru} {l : List Rul.Ru} (hp : 0 <= Rul.deepest (r :: l)) : 0 <= Rul.deepestR r /\ 0 <= Rul.deepest l /\ Rul.deepest (r :: l) = max (Rul.deepestR r) (Rul.deepest l) := by
 rw [Rul.deepest] at hp ⊢
 split at hp
 ·omega
 ·rename_i h1
  rw [if_neg h1]
  split at hp
  ·omega
  ·rename_i h2
   rw [if_neg h2]
   exact ⟨by omega, by omega, rfl⟩
abbrev ruC (k : Int) (n : List Int) (p : List Rul.CV) (ds : List Rul.Dc) (rs : List Rul.Ru) : List V := [.v (.int .i64 k), .v (.string (Rul.bs n)), .list .no (Rul.rowsC p), .list .no (ds.map Rul.declC), .list .no (rusC rs)]
abbrev NI22 (h : Heap) (l : List Rul.Ru) (d : Int) (i : Nat) (ds : List Rul.Dc) (j : Nat) : Env := [(3, .v (.int .i64 d)), (5, .ptr h.length 0), (9, .list .no (rusC l)), (10, .v (.int .i64 l.length)), (11, .v (.int .i64 i)), (20, .list .no (ds.map Rul.declC)), (21, .v (.int .i64 ds.length)), (22, .v (.int .i64 j))]
theorem dround22 {l : List Rul.Ru} {d : Int} {i j : Nat} {ds : List Rul.Dc} {x : Rul.Dc} {k : Int} {n : List Int} {p : List Rul.CV} {rs : List Rul.Ru} {es : List Rul.Dc} (hlo : lo <= h.length) (hg : ds[j]? = some x) (hl : ds.length <= 1000000000) (hn : Rul.nodesL x.val <= 100000000) (hm : mayL 64 x.val = true) :
  evCode ⟨Tryz.prog, E, lo, h.length, h22⟩ loopW l22x1 (NI22 h l d i ds j, h ++ [.cells (ruC k n p es rs)]) = some (.normal, NI22 h l d i ds (j + 1), h ++ [.cells (ruC k n p es rs)]) := by
 have hlt : j < ds.length := (List.getElem?_eq_some_iff.1 hg).1
 have q : decide ((j : Int) < (ds.length : Int)) = true := by simpa using hlt
 have hgr : (ds.map Rul.declC)[j]? = some (Rul.declC x) := by rw [List.getElem?_map, hg]; rfl
 have hw : IntKind.i64.wrap ((j : Int) + 1) = ((j + 1 : Nat) : Int) := wrap_succ (by omega)
 have l1 : lo <= h.length + 1 := by omega
 have l2 : lo <= h.length + 2 := by omega
 have hc := fun lo hlo => f32 (lo := lo) (h := h ++ [.cells (ruC k n p es rs), .cells (Rul.declC x)]) (l := x.val) hlo (by omega)
 rw [hm] at hc
 have ca := hc lo (by simp; omega); have cb := hc (h.length + 2) (by simp)
 clear hc
 obtain ⟨xn, xv, xi⟩ := x
 simp only [Rul.declC] at hgr ca cb
 simp only [NI22, ruC, go_sem, l22x1, b22, Tryz.f22, hlo, l1, l2, q, hgr, hw, ca, cb, List.length_map]
 all_goals rfl
theorem dloop22 {l : List Rul.Ru} {d : Int} {i : Nat} {ds : List Rul.Dc} {k : Int} {n : List Int} {p : List Rul.CV} {rs : List Rul.Ru} {es : List Rul.Dc} (hlo : lo <= h.length) (hl : ds.length <= 1000000000) (hn : ∀ x ∈ ds, Rul.nodesL x.val <= 100000000 /\ mayL 64 x.val = true) : ∀ (m j : Nat), m = ds.length - j -> j <= ds.length ->
  loopW (evCode ⟨Tryz.prog, E, lo, h.length, h22⟩ loopW l22x1) (NI22 h l d i ds j, h ++ [.cells (ruC k n p es rs)]) = some (.exit 2, NI22 h l d i ds ds.length ++ [(23, .v (.bool false))], h ++ [.cells (ruC k n p es rs)])
 | 0, j, hm, hj => by
  obtain rfl : j = ds.length := by omega
  have hd : decide ((ds.length : Int) < (ds.length : Int)) = false := by simp
  rw [loop_eq]
  simp only [NI22, ruC, go_sem, l22x1, b22, Tryz.f22, hlo, hd]
  all_goals rfl
 | m + 1, j, hm, hj => by
  have hlt : j < ds.length := by omega
  have := hn _ (List.getElem_mem hlt)
  rw [loop_eq, dround22 hlo (List.getElem?_eq_getElem hlt) hl this.1 this.2, loop_n]
  exact dloop22 hlo hl hn m (j + 1) (by omega) (by omega)
abbrev N22 (l : List Rul.Ru) (d : Int) (i : Nat) : Env := [(3, .v (.int .i64 d)), (9, .list .no (rusC l)), (10, .v (.int .i64 l.length)), (11, .v (.int .i64 i))]
theorem round22 {l : List Rul.Ru} {d : Int} {i : Nat} {k : Int} {n : List Int} {p : List Rul.CV} {ds : List Rul.Dc} {rs : List Rul.Ru} (hlo : lo <= h.length) (hg : l[i]? = some (.mk k n p ds rs)) (hl : l.length <= 1000000000) (hp : 0 <= Rul.deepestR (.mk k n p ds rs)) (hb : Rul.deepestR (.mk k n p ds rs) <= 1000)
  (hnp : Rul.nodesL p <= 100000000) (hld : ds.length <= 1000000000) (hnd : ∀ x ∈ ds, Rul.nodesL x.val <= 100000000)
  (ih : ∀ lo h, lo <= h.length -> E lo 22 [.list .no (rusC rs)] h = some (.v (.int .i64 (Rul.deepest rs)), h)) :
  evCode ⟨Tryz.prog, E, lo, h.length, h22⟩ loopW l22x0 (N22 l d i, h) = some (.normal, N22 l (max d (Rul.deepestR (.mk k n p ds rs))) (i + 1), h) := by
 obtain ⟨m1, m2, m3, m4⟩ := deepR_pos hp
 have hlt : i < l.length := (List.getElem?_eq_some_iff.1 hg).1
 have q : decide ((i : Int) < (l.length : Int)) = true := by simpa using hlt
 have hgr : (rusC l)[i]? = some (ruC k n p ds rs) := by rw [Rul.rusC_map, List.getElem?_map, hg]; exact congrArg some (ruV_eq k n p ds rs)
 have hw : IntKind.i64.wrap ((i : Int) + 1) = ((i + 1 : Nat) : Int) := wrap_succ (by omega)
 have l1 : lo <= h.length + 1 := by omega
 have hc := fun lo hlo => f32 (lo := lo) (h := h ++ [.cells (ruC k n p ds rs)]) (l := p) hlo (by omega)
 rw [m1] at hc
 have ca := hc lo (by simp; omega); have cb := hc (h.length + 1) (by simp)
 clear hc
 have cc := ih lo (h ++ [.cells (ruC k n p ds rs)]) (by simp; omega)
 have cd := ih (h.length + 1) (h ++ [.cells (ruC k n p ds rs)]) (by simp)
 clear ih
 have hL := dloop22 (lo := lo) (h := h) (l := l) (d := d) (i := i) (ds := ds) (k := k) (n := n) (p := p) (rs := rs) (es := ds) hlo hld (fun x hx => ⟨hnd x hx, m2 x hx⟩) ds.length 0 (by omega) (by omega)
 rw [m4] at hb ⊢
 generalize Rul.deepest rs = D at *
 have q0 : decide (D < 0) = false := by rw [decide_eq_false_iff_not]; omega
 have w1 : IntKind.i64.wrap (D + 1) = D + 1 := by rw [wrap_i64] <;> omega
 have em : max d (D + 1) = if D + 1 > d then D + 1 else d := by split <;> omega
 rw [em]
 simp only [ruC] at hgr ca cb cc cd hL
 simp only [NI22, l22x1, b22, Tryz.f22, loopAt, loops, bodyOf, go_sem] at hL
 simp only [N22, go_sem, l22x0, b22, Tryz.f22, hlo, l1, q, hgr, hw, ca, cb, cc, cd, hL, q0, w1, Rul.rusC_len, List.length_map]
 all_goals rfl
theorem loop22 {l : List Rul.Ru} (hlo : lo <= h.length) (hl : l.length <= 1000000000) (hw : WkRs l)
  (ih : ∀ r ∈ l, 0 <= Rul.deepestR r -> Rul.deepestR r <= 1000 -> ∀ lo h, lo <= h.length -> E lo 22 [.list .no (rusC (kidsS r))] h = some (.v (.int .i64 (Rul.deepest (kidsS r))), h)) :
  ∀ (m i : Nat) (d : Int), m = l.length - i -> i <= l.length -> 0 <= d -> 0 <= Rul.deepest (l.drop i) -> Rul.deepest (l.drop i) <= 1000 ->
  loopW (evCode ⟨Tryz.prog, E, lo, h.length, h22⟩ loopW l22x0) (N22 l d i, h) = some (.exit 0, N22 l (max d (Rul.deepest (l.drop i))) l.length ++ [(12, .v (.bool false))], h)
 | 0, i, d, hm, hi, hd0, hp, hb => by
  obtain rfl : i = l.length := by omega
  have hd : decide ((l.length : Int) < (l.length : Int)) = false := by simp
  rw [List.drop_length, Rul.deepest, show max d 0 = d by omega, loop_eq]
  simp only [N22, go_sem, l22x0, b22, Tryz.f22, hlo, hd]
  all_goals rfl
 | m + 1, i, d, hm, hi, hd0, hp, hb => by
  have hlt : i < l.length := by omega
  have hg := List.getElem?_eq_getElem hlt
  have hmem := List.getElem_mem hlt
  rw [List.drop_eq_getElem_cons hlt] at hp hb ⊢
  obtain ⟨h1, h2, h3⟩ := deep_cons hp
  rw [h3] at hb ⊢
  have hwr := wkRs_mem hw hmem
  have ihr := ih _ hmem h1 (by omega)
  generalize l[i] = r at *
  obtain ⟨k, n, p, ds, rs⟩ := r
  rw [wkR_eq] at hwr
  rw [loop_eq, round22 hlo hg hl h1 (by omega) hwr.2.2.1 hwr.2.2.2.1 (fun x hx => (hwr.2.2.2.2.1 x hx).hn) ihr, loop_n,
   loop22 hlo hl hw ih m (i + 1) _ (by omega) (by omega) (by omega) h2 (by omega), Int.max_assoc]
theorem f22 : ∀ (n : Nat) (l : List Rul.Ru), szRs l <= n -> l.length <= 1000000000 -> WkRs l -> 0 <= Rul.deepest l -> Rul.deepest l <= 1000 -> ∀ (lo : Nat) (h : Heap), lo <= h.length ->
  E lo 22 [.list .no (rusC l)] h = some (.v (.int .i64 (Rul.deepest l)), h) := by
 intro n
 induction n with
 | zero =>
  intro l hs hl hw hp hb lo h hlo
  have hL := loop22 (lo := lo) (h := h) (l := l) hlo hl hw (fun r hr h1 h2 lo h hlo => by
   have hz := szRs_mem hr
   have hz2 := szR_kids (r := r)
   omega) l.length 0 0 (by omega) (Nat.zero_le _) (Int.le_refl _) (by rw [List.drop_zero]; exact hp) (by rw [List.drop_zero]; exact hb)
  rw [List.drop_zero, show max 0 (Rul.deepest l) = Rul.deepest l by omega] at hL
  simp only [N22, l22x0, b22, Tryz.f22, loopAt, loops, bodyOf, go_sem] at hL
  rw [e22 (by simp) (by rfl)]
  simp only [go_sem, b22, Tryz.f22, hlo, hL, Rul.rusC_len]
  all_goals rfl
 | succ n ih =>
  intro l hs hl hw hp hb lo h hlo
  have hL := loop22 (lo := lo) (h := h) (l := l) hlo hl hw (fun r hr h1 h2 lo h hlo => by
   have hk := kids_wk (wkRs_mem hw hr)
   have hz := szRs_mem hr
   have hz2 := szR_kids (r := r)
   obtain ⟨k, nn, p, ds, rs⟩ := r
   obtain ⟨_, _, m3, m4⟩ := deepR_pos h1
   exact ih rs (by show szRs (kidsS (.mk k nn p ds rs)) <= n; omega) hk.2 hk.1 m3 (by omega) lo h hlo) l.length 0 0 (by omega) (Nat.zero_le _) (Int.le_refl _) (by rw [List.drop_zero]; exact hp) (by rw [List.drop_zero]; exact hb)
  rw [List.drop_zero, show max 0 (Rul.deepest l) = Rul.deepest l by omega] at hL
  simp only [N22, l22x0, b22, Tryz.f22, loopAt, loops, bodyOf, go_sem] at hL
  rw [e22 (by simp) (by rfl)]
  simp only [go_sem, b22, Tryz.f22, hlo, hL, Rul.rusC_len]
  all_goals rfl
end Go.Lift.P8
end

section
open Go.Proofs
namespace Go.Lift.P8.T
variable [MX]
open Utf Tok
def bs (l : List Int) : ByteArray := ⟨(u8s l).toArray⟩
theorem bs_size (l : List Int) : (bs l).size = l.length := by simp [bs, ByteArray.size, u8s]
theorem bs_ext (l : List Int) (a b : Nat) : (bs l).extract a b = bs ((l.take b).drop a) := by
 apply ByteArray.ext
 simp only [bs, ByteArray.data_extract]
 apply Array.toList_inj.1
 rw [Array.toList_extract]
 simp only [List.extract, u8s, List.toList_toArray, List.map_drop, List.map_take]
 rw [List.take_drop]
 rcases Nat.le_total a b with h | h
 ·rw [Nat.add_sub_cancel' h]
 ·rw [List.drop_eq_nil_of_le (by simp; omega), List.drop_eq_nil_of_le (by simp; omega)]
theorem bs_app (a b : List Int) : bs a ++ bs b = bs (a ++ b) := by
 apply ByteArray.ext
 simp [bs, u8s]
theorem bs_ix {l : List Int} (hy : By l) (i : Nat) : ((bs l).data[i]?).map (fun c => V.v (.int .u8 c.toNat)) = (l[i]?).map fun c => V.v (.int .u8 c) := by
 simp only [bs, List.getElem?_toArray, u8s, List.getElem?_map]
 cases h : l[i]? with
 | none => rfl
 | some c =>
  have := hy c (List.mem_of_getElem? h)
  simp only [Option.map_some]
  congr 4
  show ((UInt8.ofNat c.toNat).toNat : Int) = c
  simp only [UInt8.toNat_ofNat']
  omega
theorem bs_list (l : List Int) : (bs l).toList = u8s l := by simp [bs, ByteArray.toList_eq]
theorem bs_nil : bs [] = ByteArray.empty := rfl
theorem bs_nil_eq (l : List Int) : ((bs l).toList == (ByteArray.empty).toList) = decide (l = []) := by
 rw [<- bs_nil, bs_list, bs_list]
 cases l with
 | nil => rfl
 | cons c t => simp [u8s]
theorem By.take {l : List Int} (h : By l) (n : Nat) : By (l.take n) := fun c hc => h c (List.mem_of_mem_take hc)
theorem By.drop {l : List Int} (h : By l) (n : Nat) : By (l.drop n) := fun c hc => h c (List.mem_of_mem_drop hc)
section
variable {lo i : Nat} {l : List Int} {p q : List Ob}
end
def ratC (x : Int × Int) : List V := [.v (.int .i64 x.1), .v (.int .i64 x.2)]
theorem drop_cons {t : List Int} {i : Nat} {c : Int} (h : t[i]? = some c) : t.drop i = c :: t.drop (i + 1) := by
 obtain ⟨hi, rfl⟩ := List.getElem?_eq_some_iff.1 h
 exact List.drop_eq_getElem_cons hi
end Go.Lift.P8.T
end

section
open Go.Proofs
namespace Go.Lift.P8.T
variable [MX]
open Utf Tok
theorem wrap_u64 {n : Int} (h0 : 0 <= n) (h1 : n <= 18446744073709551615) : IntKind.u64.wrap n = n := by
 unfold IntKind.wrap
 simp only [IntKind.bits, IntKind.signed]
 simp
 omega
theorem core_snoc (l : List Int) (c : Int) : core (l ++ [c]) = if c = 48 then core l else l ++ [c] := by
 unfold core
 rw [List.reverse_append]
 simp only [List.reverse_cons, List.reverse_nil, List.nil_append, List.cons_append, List.dropWhile_cons, beq_iff_eq]
 split <;> simp
end Go.Lift.P8.T
end

section
open Go.Proofs
namespace Go.Lift.P8.T
variable [MX]
open Utf Tok
theorem drop_head (p : Int -> Bool) : ∀ l : List Int, ∀ c t, l.dropWhile p = c :: t -> p c = false
 | [], c, t, h => by cases h
 | x :: l, c, t, h => by
  cases hx : p x with
  | true => rw [List.dropWhile_cons_of_pos hx] at h; exact drop_head p l c t h
  | false => rw [List.dropWhile_cons_of_neg (by simp [hx])] at h; cases h; exact hx
theorem core_all {l : List Int} (h : ∀ c ∈ l, dig c = true) : ∀ c ∈ core l, dig c = true := fun c hc => by
 unfold core at hc
 rw [List.mem_reverse] at hc
 exact h c (by simpa using (List.dropWhile_sublist _).subset hc)
section
variable {lo : Nat} {below : Bool} {ds : List Int} {e : Int} {h : Heap}
theorem bytes_bs {l : List Int} (hy : By l) : byteRows (bs l) = ri .u8 l := by
 unfold byteRows bs u8s ri
 simp only [List.map_map]
 apply List.map_congr_left
 intro c hc
 have := hy c hc
 simp only [Function.comp]
 congr 4
 show ((UInt8.ofNat c.toNat).toNat : Int) = c
 simp only [UInt8.toNat_ofNat']
 omega
end
end Go.Lift.P8.T
end

section
open Go.Proofs
namespace Go.Lift.P8.T
variable [MX]
open Utf Tok
theorem core_ne (c : Int) (t : List Int) (hc : c ≠ 48) : ∃ u, core (c :: t) = c :: u := by
 unfold core
 rw [List.reverse_cons]
 have : ∀ l : List Int, ∃ u, (l ++ [c]).dropWhile (· == 48) = u ++ [c] := by
  intro l
  induction l with
  | nil => exact ⟨[], by rw [List.nil_append, List.dropWhile_cons_of_neg (by simpa using hc)]⟩
  | cons x l ih =>
   rw [List.cons_append]
   cases hx : (x == (48 : Int)) with
   | true => rw [List.dropWhile_cons_of_pos (p := (· == 48)) hx]; exact ih
   | false => rw [List.dropWhile_cons_of_neg (p := (· == 48)) (by simp [hx])]; exact ⟨x :: l, rfl⟩
 obtain ⟨u, hu⟩ := this t.reverse
 rw [hu]
 exact ⟨u.reverse, by simp⟩
theorem core_val {c : Int} {t : List Int} (hd : ∀ x ∈ c :: t, dig x = true) (hc : c ≠ 48) (hl : (core (c :: t)).length <= 18) : 1 <= valN 0 (core (c :: t)) /\ valN 0 (core (c :: t)) < 10 ^ 18 := by
 obtain ⟨u, hu⟩ := core_ne c t hc
 have hmem := core_all hd
 rw [hu] at hl hmem ⊢
 have h1 := hmem c (by simp)
 simp only [dig, Bool.and_eq_true, decide_eq_true_eq] at h1
 have h2 : valN 0 (c :: u) = valN (c - 48) u := by simp [valN]
 rw [h2]
 obtain ⟨a, b, d⟩ := valN_bound u (c - 48) 1 (fun x hx => hmem x (by simp [hx])) (by omega) (by omega)
 refine ⟨by omega, ?_⟩
 simp only [List.length_cons] at hl
 obtain ⟨j, hj⟩ : ∃ j, 18 = 1 + u.length + j := ⟨18 - (1 + u.length), by omega⟩
 have h3 : (10 : Int) ^ (1 + u.length) <= 10 ^ 18 := by
  rw [hj, Int.pow_add _ (1 + u.length) j]
  have h0 := one_pow_le (y := 10) (by omega) (1 + u.length)
  exact le_mulr (by omega) (one_pow_le (by omega) j)
 omega
theorem upN_le : ∀ (k : Nat) (n m : Int), 1 <= n -> n <= 9223372036854775807 -> upN k n = some m -> 1 <= m /\ m <= 9223372036854775807
 | 0, n, m, h0, h1, h => by simp only [upN, Option.some.injEq] at h; omega
 | k + 1, n, m, h0, h1, h => by
  simp only [upN] at h
  split at h
  ·cases h
  ·exact upN_le k (n * 10) m (by omega) (by omega) h
theorem fin154 {h : Heap} {x : Int × Int} : fin Tryz.prog [.cell 6 35] h.length (some (.ret, [(6, .ptr h.length 0)], h ++ [.cells (ratC x)])) = some (.agg (ratC x), h) := by
 simp only [go_sem, ratC]
 all_goals rfl
end Go.Lift.P8.T
end

section
open Go.Proofs
namespace Go.Lift.P8.T
variable [MX]
open Utf Tok
theorem expN_in : ∀ (l : List Int) (e : Int), (∀ c ∈ l, dig c = true) -> 0 <= e -> e <= 1099511627776 -> 0 <= expN e l /\ expN e l <= 1099511627776
 | [], e, _, h0, h1 => ⟨h0, h1⟩
 | c :: t, e, hl, h0, h1 => by
  have hc := hl c (by simp)
  simp only [dig, Bool.and_eq_true, decide_eq_true_eq] at hc
  simp only [expN]
  exact expN_in t _ (fun x hx => hl x (by simp [hx])) (by split <;> omega) (by split <;> omega)
theorem tw_all : ∀ {l : List Int}, (∀ c ∈ l, dig c = true) -> l.takeWhile dig = l
 | [], _ => rfl
 | c :: t, h => by rw [List.takeWhile_cons_of_pos (h c (by simp)), tw_all fun x hx => h x (by simp [hx])]
section
variable {lo : Nat} {t : List Int} {h : Heap} {neg : Bool}
end
end Go.Lift.P8.T
end

section
open Go.Proofs
namespace Go.Lift.P8.T
variable [MX]
open Utf Tok
theorem tw_app {r : List Int} (hr : ∀ c u, r = c :: u -> dig c = false) : ∀ {l : List Int}, (∀ c ∈ l, dig c = true) -> (l ++ r).takeWhile dig = l
 | [], _ => by
  cases r with
  | nil => rfl
  | cons c u => rw [List.nil_append, List.takeWhile_cons_of_neg (by simp [hr c u rfl])]
 | c :: t, h => by rw [List.cons_append, List.takeWhile_cons_of_pos (h c (by simp)), tw_app hr fun x hx => h x (by simp [hx])]
theorem all_dig {l : List Int} (h : l.all dig = true) : ∀ c ∈ l, dig c = true := fun c hc => List.all_eq_true.1 h c hc
def nmF (n : Nm) : List Int := if n.fr = [] then [] else 46 :: n.fr
def nmR (n : Nm) : List Int := n.ex ++ n.d3
theorem nm_text (n : Nm) : n.text = n.sg ++ (n.d1 ++ (nmF n ++ nmR n)) := by simp [Nm.text, nmF, nmR]
theorem nmR_head {n : Nm} (ok : n.Ok) : ∀ c u, nmR n = c :: u -> dig c = false /\ (c = 101 \/ c = 69) := by
 intro c u h
 unfold nmR at h
 rcases ok.ex with ⟨h1, h2⟩ | ⟨⟨e, he, h1 | h1 | h1⟩, h2⟩
 ·rw [h1, h2] at h; cases h
 all_goals
  rw [h1] at h
  cases h
  rcases he with rfl | rfl
  ·exact ⟨rfl, .inl rfl⟩
  ·exact ⟨rfl, .inr rfl⟩
theorem nmF_head {n : Nm} (ok : n.Ok) : ∀ c u, nmF n ++ nmR n = c :: u -> dig c = false := by
 intro c u h
 unfold nmF at h
 split at h
 ·exact (nmR_head ok c u h).1
 ·cases h; rfl
theorem nm_by {n : Nm} (ok : n.Ok) : By n.text := by
 have dg : ∀ {l : List Int}, l.all dig = true -> ∀ c ∈ l, 0 <= c /\ c <= 255 := fun h c hc => by
  have := all_dig h c hc
  simp only [dig, Bool.and_eq_true, decide_eq_true_eq] at this
  omega
 intro c hc
 rw [nm_text, List.mem_append, List.mem_append, List.mem_append] at hc
 rcases hc with hc | hc | hc | hc
 ·rcases ok.sg with h | h | h <;> rw [h] at hc <;> simp at hc <;> subst hc <;> decide
 ·exact dg ok.d1 c hc
 ·unfold nmF at hc
  split at hc
  ·cases hc
  ·rcases List.mem_cons.1 hc with rfl | hc
   ·decide
   ·exact dg ok.fr c hc
 ·unfold nmR at hc
  rcases List.mem_append.1 hc with hc | hc
  ·rcases ok.ex with ⟨h1, h2⟩ | ⟨⟨e, he, h1 | h1 | h1⟩, h2⟩
   ·rw [h1] at hc; cases hc
   all_goals
    rw [h1] at hc
    simp at hc
    omega
  ·exact dg ok.d3 c hc
end Go.Lift.P8.T
end

section
open Go.Proofs
namespace Go.Lift.P8.T
variable [MX]
open Utf Tok
def Asc (l : List Int) : Prop := ∀ c ∈ l, 0 <= c /\ c < 128
theorem scal_asc {c : Int} (h : 0 <= c /\ c < 128) : scal c = c := by
 unfold scal
 rw [if_neg]
 simp
 omega
theorem scal_asc_inv {x c : Int} (h : scal x = c) (hc : c < 128) : x = c := by
 unfold scal at h
 split at h
 ·omega
 ·exact h
theorem raw_asc : ∀ {l t : List Int}, l.map scal = t -> Asc t -> l = t
 | [], t, h, _ => by simpa using h
 | x :: l, [], h, _ => by simp at h
 | x :: l, c :: t, h, ha => by
  simp only [List.map_cons, List.cons.injEq] at h
  rw [scal_asc_inv h.1 (ha c (by simp)).2, raw_asc h.2 fun y hy => ha y (by simp [hy])]
theorem nm_asc {n : Nm} (ok : n.Ok) : Asc n.text := by
 have dg : ∀ {l : List Int}, l.all dig = true -> ∀ c ∈ l, 0 <= c /\ c < 128 := fun h c hc => by
  have := all_dig h c hc
  simp only [dig, Bool.and_eq_true, decide_eq_true_eq] at this
  omega
 intro c hc
 rw [nm_text, List.mem_append, List.mem_append, List.mem_append] at hc
 rcases hc with hc | hc | hc | hc
 ·rcases ok.sg with h | h | h <;> rw [h] at hc <;> simp at hc <;> subst hc <;> decide
 ·exact dg ok.d1 c hc
 ·unfold nmF at hc
  split at hc
  ·cases hc
  ·rcases List.mem_cons.1 hc with rfl | hc
   ·decide
   ·exact dg ok.fr c hc
 ·unfold nmR at hc
  rcases List.mem_append.1 hc with hc | hc
  ·rcases ok.ex with ⟨h1, h2⟩ | ⟨⟨e, he, h1 | h1 | h1⟩, h2⟩
   ·rw [h1] at hc; cases hc
   all_goals
    rw [h1] at hc
    simp at hc
    omega
  ·exact dg ok.d3 c hc
theorem between {l t : List Int} {i j : Nat} (hij : i <= j) (hj : j <= l.length) (hs : suf l i = t ++ suf l j) (ha : Asc t) : (l.take j).drop i = t := by
 have hlen := congrArg List.length hs
 rw [List.length_append, suf_len, suf_len] at hlen
 refine raw_asc ?_ ha
 rw [List.map_drop, List.map_take]
 have h1 : ((l.map scal).take j).drop i = (suf l i).take (j - i) := by
  unfold suf
  rw [List.drop_take]
 rw [h1, hs]
 have h2 : j - i = t.length := by omega
 rw [h2, List.take_left]
theorem ri_cut (k : IntKind) (l : List Int) (a b : Nat) : ((ri k l).take b).drop a = ri k ((l.take b).drop a) := by simp [ri, List.map_drop, List.map_take]
def tkC (t : Tk) : List V := [.v (.int .i64 t.kind), .v (.string (str t.text)), .v (.int .i64 t.num.1), .v (.int .i64 t.num.2), .v (.bool t.whole), .v (.bool t.id)]
section
variable {lo i j : Nat} {l : List Int} {p q : List Ob}
end
end Go.Lift.P8.T
end

section
open Go.Proofs
namespace Go.Lift.P8.T
variable [MX]
open Utf Tok
section
variable {lo i j : Nat} {l : List Int} {p q : List Ob}
theorem fin80 {t : Tk} {h r r2 : List Ob} {o : Ob} : fin Tryz.prog [.cell 2 37] (p.length + (q.length + 1)) (some (.ret, [(2, .ptr (p.length + (q.length + 1)) 0)], p ++ o :: (q ++ .cells (tkC t) :: r))) = some (.agg (tkC t), p ++ o :: q) := by
 simp only [go_sem, tkC]
 all_goals rfl
end
end Go.Lift.P8.T
end

section
open Go.Proofs
namespace Go.Lift.P8.T
variable [MX]
open Utf Tok
theorem enc_len4 (x : Int) : (enc x).length <= 4 := by
 unfold enc
 split
 ·simp
 ·split
  ·simp
  ·split <;> simp
theorem encs_len : ∀ l : List Int, (encs l).length <= 4 * l.length
 | [] => by simp [encs]
 | c :: t => by
  have e : encs (c :: t) = enc (scal c) ++ encs t := rfl
  have := encs_len t
  have := enc_len4 (scal c)
  rw [e, List.length_append, List.length_cons]
  omega
theorem hexN_len : ∀ (k : Nat) (n : Int) (s : List Int), (hexN k n s).2.length <= s.length
 | 0, n, s => Nat.le_refl _
 | k + 1, n, [] => Nat.le_refl _
 | k + 1, n, c :: t => by
  simp only [hexN]
  split
  ·exact Nat.le_refl _
  ·have := hexN_len k (n * 16 + hex c) t
   simp
   omega
theorem one1_len (s : List Int) : (one1 s).length <= s.length := by
 cases s with
 | nil => exact Nat.le_refl _
 | cons d u => simp only [one1]; split <;> simp
theorem escd_len (s : List Int) : (escd s).2.length <= s.length := by
 cases s with
 | nil => exact Nat.le_refl _
 | cons c t =>
  simp only [escd]
  split
  ·simp
  ·have := one1_len (hexN 6 0 (c :: t)).2
   have := hexN_len 6 0 (c :: t)
   simp only at *
   omega
theorem nameN_len : ∀ (n : Nat) (s : List Int), (nameN n s).1.length + (nameN n s).2.length <= s.length
 | 0, s => by simp [nameN]
 | n + 1, [] => by simp [nameN]
 | n + 1, c :: t => by
  simp only [nameN]
  split
  ·have := nameN_len n t
   simp
   omega
  ·split
   ·have := nameN_len n (escd t).2
    have := escd_len t
    simp
    omega
   ·simp
theorem name_len (s : List Int) : (name s).1.length <= s.length := by
 have := nameN_len s.length s
 unfold name
 omega
theorem enc_front (x : Int) (h0 : 0 <= x) (h1 : 128 <= x) (h2 : x <= 1114111) : ∃ b r, enc x = b :: r /\ 128 <= b /\ b <= 255 := by
 unfold enc
 rw [if_neg (by omega)]
 split
 ·exact ⟨_, _, rfl, by omega, by omega⟩
 ·split
  ·exact ⟨_, _, rfl, by omega, by omega⟩
  ·exact ⟨_, _, rfl, by omega, by omega⟩
theorem low_url : ∀ (n ks : List Int), (∀ k ∈ ks, 97 <= k /\ k < 128) -> (((encs n).map lowc = ks) ↔ (n.map lowc = ks))
 | [], ks, _ => Iff.rfl
 | c :: t, ks, hk => by
  have e : encs (c :: t) = enc (scal c) ++ encs t := rfl
  have hs := scal_in c
  by_cases hc : 0 <= c /\ c < 128
  ·have e1 : enc (scal c) = [c] := by
    rw [scal_asc hc]; unfold enc; rw [if_pos hc.2]
   rw [e, e1]
   cases ks with
   | nil => simp
   | cons k ks =>
    simp only [List.cons_append, List.nil_append, List.map_cons, List.cons.injEq]
    rw [low_url t ks fun x hx => hk x (by simp [hx])]
  ·have hsc : 128 <= scal c := by
    rcases Int.lt_or_le (scal c) 128 with h | h
    ·have := scal_asc_inv rfl h
     omega
    ·exact h
   obtain ⟨b, r, e1, b1, b2⟩ := enc_front (scal c) hs.1 hsc hs.2
   rw [e, e1]
   cases ks with
   | nil => simp
   | cons k ks =>
    have hk0 := hk k (by simp)
    simp only [List.cons_append, List.map_cons, List.cons.injEq]
    constructor
    ·rintro ⟨h, _⟩
     exfalso
     unfold lowc at h
     split at h
     ·rename_i h2; simp at h2; omega
     ·omega
    ·rintro ⟨h, _⟩
     exfalso
     unfold lowc at h
     split at h
     ·rename_i h2; simp at h2; omega
     ·omega
section
variable {lo i j : Nat} {l : List Int} {p q : List Ob}
theorem fin81 {t : Tk} {o : Ob} : fin Tryz.prog [.cell 2 37] (p.length + (q.length + 1)) (some (.ret, [(2, .ptr (p.length + (q.length + 1)) 0)], p ++ o :: (q ++ [.cells (tkC t)]))) = some (.agg (tkC t), p ++ o :: q) := fin80 (h := []) (r2 := [])
end
end Go.Lift.P8.T
end

section
open Go.Proofs
namespace Go.Lift.P8.T
variable [MX]
open Utf Tok
section
variable {lo i j : Nat} {l : List Int} {p q : List Ob}
def stepD (l : List Int) (i : Nat) : Nat := if chr (suf l i) 0 = 41 then i + 1 else i
theorem f192 {out : List Int} (hl : l.length <= 100000000000) (hi : i <= l.length) (ho : out.length <= 100000000000) (hlo : lo <= p.length) :
  E lo 192 [.ptr (p.length + (q.length + 1)) 0, .ptr (p.length + (q.length + 3)) 0] (p ++ R l i :: (q ++ [.cells [.ptr p.length 0], .cells (tokC 0 []), .cells [.list .yes (ri .i32 out)]])) =
   some (.agg (tokC 7 out), p ++ R l (stepD l i) :: (q ++ [.cells [.ptr p.length 0], .cells (tokC 0 []), .cells [.list .yes (ri .i32 out)]])) := by
 have ks := fun lo p q => f106 (lo := lo) (l := l) (i := i) (p := p) (q := q) (cs := [41]) (by simp; omega)
 have hw : IntKind.i64.wrap ((i : Int) + 1) = ((i + 1 : Nat) : Int) := wrap_succ (by omega)
 have k69 := fun lo h => f119e (lo := lo) (l := out) (h := h) (by omega)
 have es : (⟨(u8s (encs out)).toArray⟩ : ByteArray) = str out := rfl
 simp only [ri_cons, ri_nil, isN_one] at ks
 have hloA : lo <= p.length + (q.length + 4) := by omega
 rw [e192 (by simp) (by rfl)]
 unfold stepD
 by_cases hc : chr (suf l i) 0 = 41
 ·have t : (chr (suf l i) 0 == 41) = true := by simp [hc]
  rw [if_pos hc]
  simp only [go_sem, b192, Tryz.f192, ks, t, hw, hlo, hloA, k69, es, tokC, str_nil]
  all_goals rfl
 ·have t : (chr (suf l i) 0 == 41) = false := by simp [hc]
  rw [if_neg hc]
  simp only [go_sem, b192, Tryz.f192, ks, t, hloA, k69, es, tokC, str_nil]
  all_goals rfl
noncomputable abbrev X159 (lo : Nat) (p q : List Ob) : Cx := ⟨Tryz.prog, E, lo, p.length + (q.length + 1), h159⟩
abbrev H115 (p q : List Ob) (l : List Int) (i : Nat) (t : List V) (out : List Int) : Heap := p ++ R l i :: (q ++ [.cells [.ptr p.length 0], .cells t, .cells [.list .yes (ri .i32 out)]])
abbrev P115 (p q : List Ob) (l : List Int) (i : Nat) (out : List Int) : Env × Heap :=
 ([(1, .ptr (p.length + (q.length + 1)) 0), (2, .ptr (p.length + (q.length + 2)) 0), (3, .ptr (p.length + (q.length + 3)) 0), (4, .fn 192 [.ptr (p.length + (q.length + 1)) 0, .ptr (p.length + (q.length + 3)) 0])], H115 p q l i (tokC 0 []) out)
theorem p115a (hl : l.length <= 100000000000) (hi : i <= l.length) : ∃ j, j <= l.length /\ i <= j /\ suf l j = blanks (suf l i) /\
  ∀ lo p q, lo <= p.length -> evL (X159 lo p q) loopW (pc b159 0 4) (args0 [.ptr p.length 0], p ++ R l i :: q) = some (.normal, P115 p q l j []) := by
 obtain ⟨j, a1, a2, a3, a4⟩ := f108 (l := l) (i := i) hl hi
 refine ⟨j, a1, a2, a3, fun lo p q hlo => ?_⟩
 simp only [go_sem, X159, P115, H115, b159, Tryz.f159, a4 _ _ _ hlo, tokC, str_nil, ri_nil]
 all_goals rfl
theorem er115 {out : List Int} {c d : Int} (hl : l.length <= 100000000000) (hi : i < l.length) (hol : out.length <= 100000000000) (hcc : chr (suf l i) 0 = c) (hdd : chr (suf l (i + 1)) 0 = d) (hs : suf l i = c :: suf l (i + 1)) 
  (hb : blk c = false) (t41 : (c == 41) = false) (te : (c == -1) = false) (u1 : (c == 34) = false) (u2 : (c == 39) = false) (u3 : (c == 40) = false) (u4 : unp c = false) (t92 : (c == 92) = true) (he : esc c d = true) :
  ∃ j0, j0 <= l.length /\ i + 1 <= j0 /\ suf l j0 = (escd (suf l (i + 1))).2 /\ ∀ lo p q, lo <= p.length -> lo <= p.length + (q.length + 3) ->
   evCode (X159 lo p q) loopW l159x0 (P115 p q l i out) = some (.normal, P115 p q l j0 (out ++ [(escd (suf l (i + 1))).1])) := by
 have k0 := fun lo p q => f90 (lo := lo) (l := l) (i := i) (p := p) (q := q) (k := 0) (by omega)
 have ke := fun lo p q => f115 (lo := lo) (l := l) (i := i) (p := p) (q := q) (k := 0) (by omega)
 have hw1 : IntKind.i64.wrap ((i : Int) + 1) = ((i + 1 : Nat) : Int) := wrap_succ (by omega)
 have hn : chr (suf l i) (0 + 1) = chr (suf l (i + 1)) 0 := by rw [hs]; exact chr_succ _ _ 0
 have hr : ∀ k, k <= 4 -> (out.length + k) * 4 <= 140737488355328 := by intro k hk; omega
 have hq : ∀ k, 9223372036854775800 <= k -> out.length <= k := by intro k hk; omega
 have app : ∀ y : Int, ri .i32 out ++ [[V.v (.int .i32 y)]] = ri .i32 (out ++ [y]) := by intro y; rw [<- ri_app]; rfl
 simp only [n0, hcc, hn, hdd, he] at k0 ke
 obtain ⟨j0, a1, a2, a3, a4⟩ := f154 (l := l) (i := i + 1) hl (by omega)
 refine ⟨j0, a1, a2, a3, fun lo p q hlo hlo3 => ?_⟩
 simp only [go_sem, X159, P115, H115, l159x0, b159, Tryz.f159, k0, f107, f194, te, t41, hb, u1, u2, u3, u4, t92, ke, hw1, hlo, hlo3, a4 _ _ _ hlo, hr, hq, app, and_self, tokC, str_nil]
 all_goals rfl
theorem ec115 {out : List Int} {c : Int} (hl : l.length <= 100000000000) (hi : i < l.length) (hol : out.length <= 100000000000) (hcc : chr (suf l i) 0 = c)
  (hb : blk c = false) (t41 : (c == 41) = false) (te : (c == -1) = false) (u1 : (c == 34) = false) (u2 : (c == 39) = false) (u3 : (c == 40) = false) (u4 : unp c = false) (t92 : (c == 92) = false) :
  ∀ lo p q, lo <= p.length -> lo <= p.length + (q.length + 3) ->
   evCode (X159 lo p q) loopW l159x0 (P115 p q l i out) = some (.normal, P115 p q l (i + 1) (out ++ [c])) := by
 have k0 := fun lo p q => f90 (lo := lo) (l := l) (i := i) (p := p) (q := q) (k := 0) (by omega)
 have kt := fun lo p q hlo => f120 (lo := lo) (l := l) (i := i) (p := p) (q := q) hlo (by omega)
 have hr : ∀ k, k <= 4 -> (out.length + k) * 4 <= 140737488355328 := by intro k hk; omega
 have hq : ∀ k, 9223372036854775800 <= k -> out.length <= k := by intro k hk; omega
 have app : ∀ y : Int, ri .i32 out ++ [[V.v (.int .i32 y)]] = ri .i32 (out ++ [y]) := by intro y; rw [<- ri_app]; rfl
 simp only [n0, hcc] at k0 kt
 intro lo p q hlo hlo3
 simp only [go_sem, X159, P115, H115, l159x0, b159, Tryz.f159, k0, f107, f194, te, t41, hb, u1, u2, u3, u4, t92, hlo, hlo3, kt _ _ _ hlo, hr, hq, app, and_self, tokC, str_nil]
 all_goals rfl
abbrev ret115 (p q : List Ob) (l : List Int) (j : Nat) (t : Tk) (out : List Int) : Option (Ex × Env × Heap) := some (.ret, [(2, .ptr (p.length + (q.length + 2)) 0)], H115 p q l j (tkC t) out)
theorem es115 {out : List Int} (hl : l.length <= 100000000000) (hi : i <= l.length) (hol : out.length <= 100000000000) (hcc : chr (suf l i) 0 = 41 \/ chr (suf l i) 0 = -1) :
  ∀ lo p q, lo <= p.length -> lo <= p.length + (q.length + 2) -> evCode (X159 lo p q) loopW l159x0 (P115 p q l i out) = ret115 p q l (stepD l i) (tk 7 out) out := by
 intro lo p q hlo hlo2
 have k0 := fun lo p q => f90 (lo := lo) (l := l) (i := i) (p := p) (q := q) (k := 0) (by omega)
 have kd := f192 (lo := lo) (l := l) (i := i) (p := p) (q := q) (out := out) hl hi hol hlo
 simp only [n0] at k0
 simp only [tokC, str_nil] at kd
 rcases hcc with hcc | hcc
 ·have t : ((41 : Int) == 41) = true := rfl
  rw [hcc] at k0
  simp only [go_sem, X159, P115, H115, l159x0, b159, Tryz.f159, k0, t, kd, hlo2, tokC, tkC, tk, str_nil]
  all_goals rfl
 ·have t : ((-1 : Int) == 41) = false := rfl
  have t2 : ((-1 : Int) == -1) = true := rfl
  rw [hcc] at k0
  simp only [go_sem, X159, P115, H115, l159x0, b159, Tryz.f159, k0, t, t2, kd, hlo2, tokC, tkC, tk, str_nil]
  all_goals rfl
theorem eb115 {out : List Int} {c : Int} (hl : l.length <= 100000000000) (hi : i < l.length) (hol : out.length <= 100000000000) (hcc : chr (suf l i) 0 = c) (hb : blk c = true) :
  ∃ j0, j0 <= l.length /\ i <= j0 /\ suf l j0 = blanks (suf l i) /\ ∃ j, j <= l.length /\ j0 <= j /\
   suf l j = (if chr (suf l j0) 0 = -1 \/ chr (suf l j0) 0 = 41 then (suf l j0).drop 1 else badu (suf l j0)) /\
   ∀ lo p q, lo <= p.length -> lo <= p.length + (q.length + 2) -> evCode (X159 lo p q) loopW l159x0 (P115 p q l i out) =
    ret115 p q l j (if chr (suf l j0) 0 = -1 \/ chr (suf l j0) 0 = 41 then tk 7 out else tk 8 []) out := by
 have k0 := fun lo p q => f90 (lo := lo) (l := l) (i := i) (p := p) (q := q) (k := 0) (by omega)
 obtain ⟨j0, a1, a2, a3, a4⟩ := f108 (l := l) (i := i) hl (by omega)
 have kj := fun lo p q => f90 (lo := lo) (l := l) (i := j0) (p := p) (q := q) (k := 0) (by omega)
 have t41 : (c == 41) = false := by
  simp only [blk, Bool.or_eq_true, beq_iff_eq] at hb
  simp
  omega
 have te : (c == -1) = false := by
  simp only [blk, Bool.or_eq_true, beq_iff_eq] at hb
  simp
  omega
 simp only [n0, hcc] at k0
 simp only [n0] at kj
 refine ⟨j0, a1, a2, a3, ?_⟩
 by_cases hend : chr (suf l j0) 0 = -1 \/ chr (suf l j0) 0 = 41
 ·rw [if_pos hend, if_pos hend]
  have hstep : suf l (stepD l j0) = (suf l j0).drop 1 /\ stepD l j0 <= l.length /\ j0 <= stepD l j0 := by
   unfold stepD
   split
   ·rename_i h41
    have : j0 < l.length := by
     rcases Nat.lt_or_ge j0 l.length with h | h
     ·exact h
     ·rw [suf_end h] at h41; cases h41
    exact ⟨by simp [suf, List.drop_drop], by omega, by omega⟩
   ·rename_i h41
    have hs : suf l j0 = [] := by
     rcases Nat.lt_or_ge j0 l.length with h | h
     ·have := chr_pos h
      omega
     ·exact suf_end h
    exact ⟨by rw [hs]; rfl, a1, Nat.le_refl _⟩
  refine ⟨stepD l j0, hstep.2.1, hstep.2.2, hstep.1, fun lo p q hlo hlo2 => ?_⟩
  have kd := f192 (lo := lo) (l := l) (i := j0) (p := p) (q := q) (out := out) hl a1 hol hlo
  simp only [tokC, str_nil] at kd
  rcases hend with h | h
  ·have t : ((-1 : Int) == 41) = false := rfl
   have t2 : ((-1 : Int) == -1) = true := rfl
   rw [h] at kj
   simp only [go_sem, X159, P115, H115, l159x0, b159, Tryz.f159, k0, t41, te, f107, hb, a4 _ _ _ hlo, kj, t, t2, kd, hlo2, tokC, tkC, tk, str_nil]
   all_goals rfl
  ·have t : ((41 : Int) == 41) = true := rfl
   rw [h] at kj
   simp only [go_sem, X159, P115, H115, l159x0, b159, Tryz.f159, k0, t41, te, f107, hb, a4 _ _ _ hlo, kj, t, kd, hlo2, tokC, tkC, tk, str_nil]
   all_goals rfl
 ·rw [if_neg hend, if_neg hend]
  obtain ⟨j, b1, b2, b3, b4⟩ := f193 (l := l) (i := j0) hl a1
  have t : (chr (suf l j0) 0 == 41) = false := by simp; exact fun h => hend (.inr h)
  have t2 : (chr (suf l j0) 0 == -1) = false := by simp; exact fun h => hend (.inl h)
  refine ⟨j, b1, b2, b3, fun lo p q hlo hlo2 => ?_⟩
  simp only [tokC, str_nil] at b4
  simp only [go_sem, X159, P115, H115, l159x0, b159, Tryz.f159, k0, t41, te, f107, hb, a4 _ _ _ hlo, kj, t, t2, b4 _ _ _ hlo, hlo2, tokC, tkC, tk, str_nil]
  all_goals rfl
theorem ex115 {out : List Int} {c : Int} (hl : l.length <= 100000000000) (hi : i < l.length) (hcc : chr (suf l i) 0 = c) (hb : blk c = false) (t41 : (c == 41) = false) (te : (c == -1) = false)
  (hbad : (quo c || c == 40 || unp c) = true \/ ((quo c || c == 40 || unp c) = false /\ (c == 92) = true /\ esc c (chr (suf l (i + 1)) 0) = false)) :
  ∃ j, j <= l.length /\ i <= j /\ suf l j = badu (suf l i) /\ ∀ lo p q, lo <= p.length -> lo <= p.length + (q.length + 2) -> evCode (X159 lo p q) loopW l159x0 (P115 p q l i out) = ret115 p q l j (tk 8 []) out := by
 have k0 := fun lo p q => f90 (lo := lo) (l := l) (i := i) (p := p) (q := q) (k := 0) (by omega)
 have ke := fun lo p q => f115 (lo := lo) (l := l) (i := i) (p := p) (q := q) (k := 0) (by omega)
 have hn : chr (suf l i) (0 + 1) = chr (suf l (i + 1)) 0 := by rw [suf_next hi]; exact chr_succ _ _ 0
 obtain ⟨j, b1, b2, b3, b4⟩ := f193 (l := l) (i := i) hl (by omega)
 simp only [n0, hcc, hn] at k0 ke
 refine ⟨j, b1, b2, b3, fun lo p q hlo hlo2 => ?_⟩
 simp only [tokC, str_nil] at b4
 have hcase : (c == 34) = true \/ ((c == 34) = false /\ ((c == 39) = true \/ ((c == 39) = false /\ ((c == 40) = true \/ ((c == 40) = false /\ (unp c = true \/ (unp c = false /\ (c == 92) = true /\ esc c (chr (suf l (i + 1)) 0) = false))))))) := by
  simp only [quo] at hbad
  cases a1 : (c == 34) <;> cases a2 : (c == 39) <;> cases a3 : (c == 40) <;> cases a4 : unp c <;> simp [a1, a2, a3, a4] at hbad ⊢
  exact hbad
 rcases hcase with u1 | ⟨u1, u2 | ⟨u2, u3 | ⟨u3, u4 | ⟨u4, u5, u6⟩⟩⟩⟩
 ·simp only [go_sem, X159, P115, H115, l159x0, b159, Tryz.f159, k0, f107, f194, te, t41, hb, u1, b4 _ _ _ hlo, hlo2, tokC, tkC, tk, str_nil]
  all_goals rfl
 ·simp only [go_sem, X159, P115, H115, l159x0, b159, Tryz.f159, k0, f107, f194, te, t41, hb, u1, u2, b4 _ _ _ hlo, hlo2, tokC, tkC, tk, str_nil]
  all_goals rfl
 ·simp only [go_sem, X159, P115, H115, l159x0, b159, Tryz.f159, k0, f107, f194, te, t41, hb, u1, u2, u3, b4 _ _ _ hlo, hlo2, tokC, tkC, tk, str_nil]
  all_goals rfl
 ·simp only [go_sem, X159, P115, H115, l159x0, b159, Tryz.f159, k0, f107, f194, te, t41, hb, u1, u2, u3, u4, b4 _ _ _ hlo, hlo2, tokC, tkC, tk, str_nil]
  all_goals rfl
 ·simp only [go_sem, X159, P115, H115, l159x0, b159, Tryz.f159, k0, ke, f107, f194, te, t41, hb, u1, u2, u3, u4, u5, u6, b4 _ _ _ hlo, hlo2, tokC, tkC, tk, str_nil]
  all_goals rfl
theorem loop159 (hl : l.length <= 100000000000) : ∀ (m i : Nat) (out : List Int), (suf l i).length <= m -> i <= l.length -> out.length <= i ->
  ∃ j, j <= l.length /\ i <= j /\ suf l j = (urlN m (suf l i)).2.2 /\ ∃ o2, ∀ lo (p q : List Ob), lo <= p.length -> lo <= p.length + (q.length + 2) -> lo <= p.length + (q.length + 3) ->
   loopW (evCode (X159 lo p q) loopW l159x0) (P115 p q l i out) = ret115 p q l j (if (urlN m (suf l i)).1 = true then tk 7 (out ++ (urlN m (suf l i)).2.1) else tk 8 []) o2 := by
 have stop : ∀ (i : Nat) (out : List Int), (suf l i = [] \/ ∃ t, suf l i = 41 :: t) -> i <= l.length -> out.length <= i ->
  ∃ j, j <= l.length /\ i <= j /\ suf l j = (suf l i).drop 1 /\ ∃ o2, ∀ lo (p q : List Ob), lo <= p.length -> lo <= p.length + (q.length + 2) -> lo <= p.length + (q.length + 3) ->
   loopW (evCode (X159 lo p q) loopW l159x0) (P115 p q l i out) = ret115 p q l j (tk 7 out) o2 := by
  intro i out hs h2 h3
  have hcc : chr (suf l i) 0 = 41 \/ chr (suf l i) 0 = -1 := by
   rcases hs with hs | ⟨t, hs⟩
   ·right; rw [hs]; rfl
   ·left; rw [hs]; rfl
  refine ⟨stepD l i, ?_, ?_, ?_, out, fun lo p q hlo hlo2 hlo3 => ?_⟩
  ·unfold stepD
   split
   ·rename_i h41
    rcases Nat.lt_or_ge i l.length with h | h
    ·omega
    ·rw [suf_end h] at h41; cases h41
   ·exact h2
  ·unfold stepD; split <;> omega
  ·unfold stepD
   rcases hs with hs | ⟨t, hs⟩
   ·rw [if_neg (by rw [hs]; decide), hs]; rfl
   ·rw [if_pos (by rw [hs]; rfl)]; simp [suf, List.drop_drop]
  ·rw [loop_eq, es115 hl h2 (by omega) hcc lo p q hlo hlo2]
   rfl
 intro m
 induction m with
 | zero =>
  intro i out h1 h2 h3
  have hs : suf l i = [] := List.eq_nil_of_length_eq_zero (by omega)
  obtain ⟨j, j1, j2, j3, o2, j4⟩ := stop i out (.inl hs) h2 h3
  refine ⟨j, j1, j2, by rw [j3, hs]; rfl, o2, fun lo p q hlo hlo2 hlo3 => ?_⟩
  rw [j4 lo p q hlo hlo2 hlo3, hs]
  simp [urlN]
 | succ m ih =>
  intro i out h1 h2 h3
  rcases Nat.lt_or_ge i l.length with hi | hi
  rotate_left
  ·have hs : suf l i = [] := suf_end hi
   obtain ⟨j, j1, j2, j3, o2, j4⟩ := stop i out (.inl hs) h2 h3
   refine ⟨j, j1, j2, by rw [j3, hs]; rfl, o2, fun lo p q hlo hlo2 hlo3 => ?_⟩
   rw [j4 lo p q hlo hlo2 hlo3, hs]
   simp [urlN]
  have hcp := chr_pos hi
  have hs := suf_next hi
  obtain ⟨c, hcc⟩ : ∃ c, chr (suf l i) 0 = c := ⟨_, rfl⟩
  rw [hcc] at hs hcp
  have te : (c == -1) = false := by simp; omega
  by_cases c41 : c = 41
  ·subst c41
   obtain ⟨j, j1, j2, j3, o2, j4⟩ := stop i out (.inr ⟨_, hs⟩) h2 h3
   have e : urlN (m + 1) (41 :: suf l (i + 1)) = (true, [], suf l (i + 1)) := by simp [urlN]
   refine ⟨j, j1, j2, by rw [j3, hs, e]; rfl, o2, fun lo p q hlo hlo2 hlo3 => ?_⟩
   rw [j4 lo p q hlo hlo2 hlo3, hs, e]
   simp
  have t41 : (c == 41) = false := by simp [c41]
  cases hb : blk c with
  | true =>
   obtain ⟨j0, a1, a2, a3, j, b1, b2, b3, b4⟩ := eb115 (out := out) hl hi (by omega) hcc hb
   have hbl : blanks (suf l i) = blanks (suf l (i + 1)) := by rw [hs]; exact List.dropWhile_cons_of_pos hb
   have e : urlN (m + 1) (suf l i) = if chr (suf l j0) 0 = -1 \/ chr (suf l j0) 0 = 41 then (true, [], (suf l j0).drop 1) else (false, [], badu (suf l j0)) := by
    rw [hs, a3, hbl] at *
    simp only [urlN]
    rw [if_neg c41, if_pos hb]
   refine ⟨j, b1, by omega, by rw [b3, e]; split <;> rfl, out, fun lo p q hlo hlo2 hlo3 => ?_⟩
   rw [loop_eq, b4 lo p q hlo hlo2, e]
   show ret115 _ _ _ _ _ _ = _
   congr 1
   split <;> simp
  | false =>
   by_cases hq1 : (quo c || c == 40 || unp c) = true
   ·obtain ⟨j, j1, j2, j3, j4⟩ := ex115 (out := out) hl hi hcc hb t41 te (.inl hq1)
    have e : urlN (m + 1) (suf l i) = (false, [], badu (suf l i)) := by
     rw [hs]
     simp only [urlN]
     rw [if_neg c41, if_neg (by simp [hb]), if_pos hq1]
    refine ⟨j, j1, by omega, by rw [j3, e], out, fun lo p q hlo hlo2 hlo3 => ?_⟩
    rw [loop_eq, j4 lo p q hlo hlo2, e]
    rfl
   ·have hcase : (c == 34) = false /\ (c == 39) = false /\ (c == 40) = false /\ unp c = false := by
     simp only [quo, Bool.or_eq_true] at hq1
     cases a1 : (c == 34) <;> cases a2 : (c == 39) <;> cases a3 : (c == 40) <;> cases a4 : unp c <;> simp [a1, a2, a3, a4] at hq1 ⊢
    obtain ⟨u1, u2, u3, u4⟩ := hcase
    by_cases c92 : c = 92
    ·have t92 : (c == 92) = true := by simp [c92]
     cases he : esc c (chr (suf l (i + 1)) 0) with
     | true =>
      obtain ⟨j0, a1, a2, a3, a4⟩ := er115 (out := out) (d := chr (suf l (i + 1)) 0) hl hi (by omega) hcc rfl hs hb t41 te u1 u2 u3 u4 t92 he
      have e : urlN (m + 1) (suf l i) = ((urlN m (escd (suf l (i + 1))).2).1, (escd (suf l (i + 1))).1 :: (urlN m (escd (suf l (i + 1))).2).2.1, (urlN m (escd (suf l (i + 1))).2).2.2) := by
       rw [hs]
       simp only [urlN]
       rw [if_neg c41, if_neg (by simp [hb]), if_neg hq1, if_pos c92, if_pos he]
      obtain ⟨j, j1, j2, j3, o2, j4⟩ := ih j0 (out ++ [(escd (suf l (i + 1))).1]) (by rw [suf_len] at h1 ⊢; omega) a1 (by simp; omega)
      refine ⟨j, j1, by omega, by rw [j3, e, a3], o2, fun lo p q hlo hlo2 hlo3 => ?_⟩
      rw [loop_eq, a4 lo p q hlo hlo3, loop_n, j4 lo p q hlo hlo2 hlo3, e, a3]
      simp
     | false =>
      obtain ⟨j, j1, j2, j3, j4⟩ := ex115 (out := out) hl hi hcc hb t41 te (.inr ⟨by simpa using hq1, t92, he⟩)
      have e : urlN (m + 1) (suf l i) = (false, [], badu (suf l i)) := by
       rw [hs]
       simp only [urlN]
       rw [if_neg c41, if_neg (by simp [hb]), if_neg hq1, if_pos c92, if_neg (by simp [he])]
      refine ⟨j, j1, by omega, by rw [j3, e], out, fun lo p q hlo hlo2 hlo3 => ?_⟩
      rw [loop_eq, j4 lo p q hlo hlo2, e]
      rfl
    ·have t92 : (c == 92) = false := by simp [c92]
     have e : urlN (m + 1) (suf l i) = ((urlN m (suf l (i + 1))).1, c :: (urlN m (suf l (i + 1))).2.1, (urlN m (suf l (i + 1))).2.2) := by
      rw [hs]
      simp only [urlN]
      rw [if_neg c41, if_neg (by simp [hb]), if_neg hq1, if_neg c92]
     obtain ⟨j, j1, j2, j3, o2, j4⟩ := ih (i + 1) (out ++ [c]) (by rw [suf_len] at h1 ⊢; omega) (by omega) (by simp; omega)
     refine ⟨j, j1, by omega, by rw [j3, e], o2, fun lo p q hlo hlo2 hlo3 => ?_⟩
     rw [loop_eq, ec115 hl hi (by omega) hcc hb t41 te u1 u2 u3 u4 t92 lo p q hlo hlo3, loop_n, j4 lo p q hlo hlo2 hlo3, e]
     simp
theorem f159 (hl : l.length <= 100000000000) (hi : i <= l.length) : ∃ j, j <= l.length /\ i <= j /\ suf l j = (url (suf l i)).2.2 /\
  ∀ lo p q, lo <= p.length -> E lo 159 [.ptr p.length 0] (p ++ R l i :: q) = some (.agg (tkC (urlT (url (suf l i)))), p ++ R l j :: q) := by
 obtain ⟨j0, a1, a2, a3, a4⟩ := p115a (l := l) (i := i) hl hi
 obtain ⟨j, j1, j2, j3, o2, j4⟩ := loop159 (l := l) hl (suf l j0).length j0 [] (Nat.le_refl _) a1 (by simp)
 have e : url (suf l i) = urlN (suf l j0).length (suf l j0) := by unfold url; rw [a3]
 have hH : ∀ p q : List Ob, (p ++ R l i :: q).length = p.length + (q.length + 1) := fun p q => by simp
 refine ⟨j, j1, by omega, by rw [j3, e], fun lo p q hlo => ?_⟩
 have hL := j4 lo p q hlo (by omega) (by omega)
 rw [List.nil_append] at hL
 have e2 : (if (urlN (suf l j0).length (suf l j0)).1 = true then tk 7 (urlN (suf l j0).length (suf l j0)).2.1 else tk 8 []) = urlT (url (suf l i)) := by rw [e]; rfl
 rw [e2] at hL
 have hB : evL (X159 lo p q) loopW (pc b159 4 1) (P115 p q l j0 []) = ret115 p q l j (urlT (url (suf l i))) o2 := by
  simp only [X159, P115, H115, ret115, l159x0, b159, Tryz.f159, loopAt, loops, bodyOf, go_sem, tokC, tkC, str_nil, ri_nil] at hL
  simp only [go_sem, X159, P115, H115, ret115, b159, Tryz.f159, hL, tokC, tkC, str_nil, ri_nil]
 rw [e159 (by simp) (by rfl), hH, pc_in, pc_go _ _ _ _ 0 4, a4 lo p q hlo, pc_go _ _ _ _ _ 1, hB, ret115, pc_r]
 simp only [go_sem, tkC]
 all_goals rfl
end
end Go.Lift.P8.T
end

section
open Go.Proofs
namespace Go.Lift.P8.T
variable [MX]
open Utf Tok
theorem dec_head (c : UInt8) (t : List UInt8) : ∃ n b1 b2 b3, 0 < n /\ Go.Lib.decodeL (c :: t) = Go.Lib.decodeN n c.toNat b1 b2 b3 := by
 unfold Go.Lib.decodeL
 rw [Go.Lib.decode_at]
 exact ⟨_, _, _, _, by simp [ByteArray.size], rfl⟩
theorem dec_asc {c : UInt8} {t : List UInt8} (h : c.toNat < 128) : Go.Lib.decodeL (c :: t) = (c.toNat, 1) := by
 obtain ⟨n, b1, b2, b3, _, e⟩ := dec_head c t
 rw [e]
 unfold Go.Lib.decodeN
 rw [if_pos h]
theorem dec_big {c : UInt8} {t : List UInt8} (h : 128 <= c.toNat) : 128 <= (Go.Lib.decodeL (c :: t)).1 := by
 obtain ⟨n, b1, b2, b3, _, e⟩ := dec_head c t
 rw [e]
 unfold Go.Lib.decodeN
 rw [if_neg (by omega)]
 split
 ·split
  ·rename_i h2; exact h2
  ·decide
 ·split
  ·split
   ·rename_i h2
    have := h2.1
    exact Nat.le_trans (by decide) this
   ·decide
  ·split
   ·split
    ·rename_i h2
     have := h2.1
     exact Nat.le_trans (by decide) this
    ·decide
   ·decide
theorem encZ_big {r : Int} (h : 128 <= r) : ∃ b u, Go.Lib.encodeRune r = b :: u /\ 128 <= b.toNat := by
 unfold Go.Lib.encodeRune Go.Lib.encodeRuneZ
 have toN : ∀ z : Int, 128 <= z -> z <= 255 -> 128 <= (z.toNat.toUInt8).toNat := fun z h1 h2 => by
  show 128 <= (UInt8.ofNat z.toNat).toNat
  simp only [UInt8.toNat_ofNat']
  omega
 rw [if_neg (by omega)]
 split
 ·exact ⟨_, _, rfl, toN _ (by omega) (by omega)⟩
 ·split
  ·exact ⟨_, _, rfl, toN _ (by omega) (by omega)⟩
  ·split
   ·exact ⟨_, _, rfl, toN _ (by omega) (by omega)⟩
   ·exact ⟨_, _, rfl, by decide⟩
theorem lowU_eq (c : Int) : lowU c = lowc c := rfl
theorem map_low : ∀ (b ks : List Int), By b -> (∀ k ∈ ks, 97 <= k /\ k < 128) -> (Go.Lib.mapD lowU (u8s b) = u8s ks ↔ b.map lowc = ks)
 | [], ks, _, _ => by
  rw [show u8s [] = [] from rfl, Go.Lib.mapD_nil]
  cases ks with
  | nil => simp [u8s]
  | cons k t => simp [u8s]
 | c :: t, ks, hy, hk => by
  have hc := hy c (by simp)
  have hyt : By t := fun x hx => hy x (by simp [hx])
  have e : u8s (c :: t) = UInt8.ofNat c.toNat :: u8s t := rfl
  have hn : (UInt8.ofNat c.toNat).toNat = c.toNat := by simp only [UInt8.toNat_ofNat']; omega
  rw [e, Go.Lib.mapD_step _ _ (by simp)]
  by_cases h128 : c < 128
  ·rw [dec_asc (by rw [hn]; omega), hn]
   simp only
   have hci : ((c.toNat : Nat) : Int) = c := by omega
   rw [hci]
   have hl0 : 0 <= lowU c := by unfold lowU; split <;> omega
   have hl1 : lowU c <= 127 := by
    unfold lowU
    split
    ·rename_i h2; simp at h2; omega
    ·omega
   rw [if_pos hl0]
   have e2 : Go.Lib.encodeRune (lowU c) = [UInt8.ofNat (lowU c).toNat] := by
    unfold Go.Lib.encodeRune
    rw [Go.Lib.encodeRuneZ_one hl0 hl1]
    rfl
   rw [e2, List.drop_succ_cons, List.drop_zero]
   cases ks with
   | nil => simp [u8s]
   | cons k ks =>
    have hk0 := hk k (by simp)
    have e3 : u8s (k :: ks) = UInt8.ofNat k.toNat :: u8s ks := rfl
    rw [e3, List.cons_append, List.nil_append, List.map_cons, List.cons.injEq, List.cons.injEq, map_low t ks hyt fun x hx => hk x (by simp [hx])]
    have hb : UInt8.ofNat (lowU c).toNat = UInt8.ofNat k.toNat ↔ lowc c = k := by
     rw [<- lowU_eq]
     constructor
     ·intro h
      have := congrArg UInt8.toNat h
      simp only [UInt8.toNat_ofNat'] at this
      omega
     ·intro h; rw [h]
    rw [hb]
  ·have h1 := dec_big (c := UInt8.ofNat c.toNat) (t := u8s t) (by rw [hn]; omega)
   obtain ⟨b, u, e2, hb⟩ := encZ_big (r := lowU (Go.Lib.decodeL (UInt8.ofNat c.toNat :: u8s t)).1) (by
    unfold lowU
    split
    ·rename_i h2; simp at h2; omega
    ·omega)
   rw [if_pos (by unfold lowU; split <;> omega), e2]
   have hlc : lowc c = c := by
    unfold lowc
    split
    ·rename_i h2; simp at h2; omega
    ·rfl
   cases ks with
   | nil => simp [u8s]
   | cons k ks =>
    have hk0 := hk k (by simp)
    have e3 : u8s (k :: ks) = UInt8.ofNat k.toNat :: u8s ks := rfl
    rw [e3, List.cons_append, List.map_cons, List.cons.injEq, List.cons.injEq, hlc]
    constructor
    ·rintro ⟨h, _⟩
     exfalso
     have := congrArg UInt8.toNat h
     simp only [UInt8.toNat_ofNat'] at this
     omega
    ·rintro ⟨h, _⟩
     exfalso
     omega
theorem f190 {lo : Nat} {s : ByteArray} {h : Heap} (hs : s.size < 35184372088832) : E lo 190 [.fn 191 [], .v (.string s)] h = some (.v (.string ⟨(Go.Lib.mapD lowU s.data.toList).toArray⟩), h) := by
 show ev Tryz.prog hints primz lo 190 [.fn 191 [], .v (.string s)] h = _
 rw [ev_prim (p := mapP) rfl]
 unfold mapP
 simp only [hs, and_self, if_true]
theorem f158 {lo : Nat} {n : List Int} {h : Heap} (hn : n.length <= 1000000000000) : E lo 158 [.v (.string (str n)), .v (.string ⟨#[117, 114, 108]⟩)] h = some (.v (.bool (isUrl n)), h) := by
 have hel := encs_len n
 have hsz : (str n).size < 35184372088832 := by
  have : (str n).size = (encs n).length := bs_size (encs n)
  omega
 have hd : (str n).data.toList = u8s (encs n) := by simp [str]
 have k := fun lo h => f190 (lo := lo) (h := h) hsz
 simp only [hd] at k
 have hq : ((⟨(Go.Lib.mapD lowU (u8s (encs n))).toArray⟩ : ByteArray).toList == (⟨#[117, 114, 108]⟩ : ByteArray).toList) = isUrl n := by
  rw [ByteArray.toList_eq, ByteArray.toList_eq]
  unfold isUrl
  rw [Bool.eq_iff_iff, beq_iff_eq, beq_iff_eq, <- low_url n [117, 114, 108] (by decide), <- map_low (encs n) [117, 114, 108] (encs_by n) (by decide)]
  exact Iff.rfl
 rw [e158 (by simp) (by rfl)]
 simp only [go_sem, b158, Tryz.f158, k, hq]
end Go.Lift.P8.T
end

section
open Go.Proofs
namespace Go.Lift.P8.T
variable [MX]
open Utf Tok
section
variable {lo i j : Nat} {l : List Int} {p q : List Ob}
noncomputable abbrev X118 (lo : Nat) (p q : List Ob) : Cx := ⟨Tryz.prog, E, lo, p.length + (q.length + 1), h118⟩
abbrev P68 (p q : List Ob) (l : List Int) (j : Nat) (n : List Int) (ex : Env) : Env × Heap :=
 ((0, .ptr p.length 0) :: (2, .ptr (p.length + (q.length + 1)) 0) :: (3, .v (.string (str n))) :: ex, p ++ R l j :: (q ++ [.cells (tokC 0 [])]))
abbrev ret68 (p q : List Ob) (l : List Int) (j : Nat) (t : Tk) : Option (Ex × Env × Heap) := some (.ret, [(2, .ptr (p.length + (q.length + 1)) 0)], p ++ R l j :: (q ++ [.cells (tkC t)]))
theorem p68a (hl : l.length <= 100000000000) (hi : i <= l.length) : ∃ j, j <= l.length /\ i <= j /\ suf l j = (name (suf l i)).2 /\
  ∀ lo p q, lo <= p.length -> lo <= p.length + (q.length + 1) -> evL (X118 lo p q) loopW (pc b118 0 4) (args0 [.ptr p.length 0], p ++ R l i :: q) =
   if chr (suf l j) 0 = 40 then some (.normal, P68 p q l j (name (suf l i)).1 [(15, .v (.bool false))]) else ret68 p q l j (tk 1 (name (suf l i)).1) := by
 obtain ⟨j, a1, a2, a3, a4⟩ := f117 (l := l) (i := i) hl hi
 have k0 := fun lo p q => f106 (lo := lo) (l := l) (i := j) (p := p) (q := q) (cs := [40]) (by simp; omega)
 simp only [ri_cons, ri_nil, isN_one] at k0
 refine ⟨j, a1, a2, a3, fun lo p q hlo hlo2 => ?_⟩
 by_cases hc : chr (suf l j) 0 = 40
 ·have t : (chr (suf l j) 0 == 40) = true := by simp [hc]
  rw [if_pos hc]
  simp only [go_sem, X118, P68, b118, Tryz.f118, a4 _ _ _ hlo, k0, t, tokC, str_nil]
  all_goals rfl
 ·have t : (chr (suf l j) 0 == 40) = false := by simp [hc]
  rw [if_neg hc]
  simp only [go_sem, X118, P68, b118, Tryz.f118, a4 _ _ _ hlo, k0, t, hlo2, tokC, tkC, tk, str_nil]
  all_goals rfl
theorem p68b {n : List Int} (hn : n.length <= 200000000000) (hj : j <= 100000000000) : ∀ lo p q, lo <= p.length -> lo <= p.length + (q.length + 1) ->
  evL (X118 lo p q) loopW (pc b118 4 3) (P68 p q l j n [(15, .v (.bool false))]) =
   if isUrl n = true then some (.normal, P68 p q l (j + 1) n [(29, .v (.bool false))]) else ret68 p q l (j + 1) (tk 2 n) := by
 intro lo p q hlo hlo2
 have hw1 : IntKind.i64.wrap ((j : Int) + 1) = ((j + 1 : Nat) : Int) := wrap_succ (by omega)
 have k := fun h => f158 (lo := lo) (n := n) (h := h) (by omega)
 cases hu : isUrl n with
 | true =>
  rw [hu] at k
  rw [if_pos rfl]
  simp only [go_sem, X118, P68, b118, Tryz.f118, hw1, hlo, k, tokC, str_nil]
  all_goals rfl
 | false =>
  rw [hu] at k
  rw [if_neg (by simp)]
  simp only [go_sem, X118, P68, b118, Tryz.f118, hw1, hlo, hlo2, k, tokC, tkC, tk, str_nil]
  all_goals rfl
theorem loop118 {n : List Int} (hl : l.length <= 100000000000) : ∀ (m i : Nat) (x : V), (suf l i).length <= m -> i <= l.length ->
  ∃ j, j <= l.length /\ i <= j /\ suf l j = skip2N m (suf l i) /\
   ∀ lo (p q : List Ob), lo <= p.length -> loopW (evCode (X118 lo p q) loopW l118x0) (P68 p q l i n [(29, x)]) = some (.exit 0, P68 p q l j n [(43, .v (.bool false))]) := by
 have stop : ∀ (i : Nat) (x : V), i <= l.length -> (blk (chr (suf l i) 0) && blk (chr (suf l i) 1)) = false ->
   ∀ lo (p q : List Ob), lo <= p.length -> loopW (evCode (X118 lo p q) loopW l118x0) (P68 p q l i n [(29, x)]) = some (.exit 0, P68 p q l i n [(43, .v (.bool false))]) := by
  intro i x hi hb lo p q hlo
  have k0 := fun lo p q => f90 (lo := lo) (l := l) (i := i) (p := p) (q := q) (k := 0) (by omega)
  have k1 := fun lo p q => f90 (lo := lo) (l := l) (i := i) (p := p) (q := q) (k := 1) (by omega)
  have n1 : ((1 : Nat) : Int) = 1 := rfl
  simp only [n0, n1] at k0 k1
  rw [loop_eq]
  cases h0 : blk (chr (suf l i) 0) with
  | true =>
   have h1 : blk (chr (suf l i) 1) = false := by simpa [h0] using hb
   simp only [go_sem, X118, P68, l118x0, b118, Tryz.f118, k0, k1, f107, h0, h1, tokC, str_nil]
   all_goals rfl
  | false =>
   simp only [go_sem, X118, P68, l118x0, b118, Tryz.f118, k0, k1, f107, h0, tokC, str_nil]
   all_goals rfl
 intro m
 induction m with
 | zero =>
  intro i x h1 h2
  have hs : suf l i = [] := List.eq_nil_of_length_eq_zero (by omega)
  exact ⟨i, h2, Nat.le_refl _, rfl, stop i x h2 (by rw [hs]; rfl)⟩
 | succ m ih =>
  intro i x h1 h2
  by_cases hb : (blk (chr (suf l i) 0) && blk (chr (suf l i) 1)) = true
  ·have hi : i < l.length := by
    rcases Nat.lt_or_ge i l.length with h | h
    ·exact h
    ·rw [suf_end h] at hb; exact absurd hb (by decide)
   have k0 := fun lo p q => f90 (lo := lo) (l := l) (i := i) (p := p) (q := q) (k := 0) (by omega)
   have k1 := fun lo p q => f90 (lo := lo) (l := l) (i := i) (p := p) (q := q) (k := 1) (by omega)
   have hw1 : IntKind.i64.wrap ((i : Int) + 1) = ((i + 1 : Nat) : Int) := wrap_succ (by omega)
   have n1 : ((1 : Nat) : Int) = 1 := rfl
   simp only [n0, n1] at k0 k1
   obtain ⟨j, j1, j2, j3, j4⟩ := ih (i + 1) .undef (by rw [suf_len] at h1 ⊢; omega) (by omega)
   have e1 : suf l (i + 1) = (suf l i).drop 1 := by simp [suf, List.drop_drop]
   refine ⟨j, j1, by omega, by rw [j3, e1]; simp only [skip2N]; rw [if_pos hb], fun lo p q hlo => ?_⟩
   rw [Bool.and_eq_true] at hb
   have e : evCode (X118 lo p q) loopW l118x0 (P68 p q l i n [(29, x)]) = some (.normal, P68 p q l (i + 1) n [(29, .undef)]) := by
    simp only [go_sem, X118, P68, l118x0, b118, Tryz.f118, k0, k1, f107, hb.1, hb.2, hw1, hlo, tokC, str_nil]
    all_goals rfl
   rw [loop_eq, e, loop_n]
   exact j4 lo p q hlo
  ·refine ⟨i, h2, Nat.le_refl _, by simp only [skip2N]; rw [if_neg hb], stop i x h2 (by simpa using hb)⟩
theorem p68c {n : List Int} (hl : l.length <= 100000000000) (hi : i <= l.length) : ∃ j, j <= l.length /\ i <= j /\ suf l j = skip2 (suf l i) /\
  ∀ lo p q, lo <= p.length -> evL (X118 lo p q) loopW (pc b118 7 1) (P68 p q l i n [(29, .v (.bool false))]) = some (.normal, P68 p q l j n [(43, .v (.bool false))]) := by
 obtain ⟨j, j1, j2, j3, j4⟩ := loop118 (n := n) hl (suf l i).length i (.v (.bool false)) (Nat.le_refl _) hi
 refine ⟨j, j1, j2, j3, fun lo p q hlo => ?_⟩
 have hL := j4 lo p q hlo
 simp only [X118, P68, l118x0, b118, Tryz.f118, loopAt, loops, bodyOf, go_sem, tokC, str_nil] at hL
 simp only [go_sem, X118, P68, b118, Tryz.f118, hL, tokC, str_nil]
theorem p68d {n : List Int} (hj : j <= 100000000000) : ∀ lo p q, lo <= p.length -> lo <= p.length + (q.length + 1) ->
  evL (X118 lo p q) loopW (pc b118 8 6) (P68 p q l j n [(43, .v (.bool false))]) =
   if quo (if blk (chr (suf l j) 0) = true then chr (suf l j) 1 else chr (suf l j) 0) = true then ret68 p q l j (tk 2 n) else some (.normal, P68 p q l j n [(68, .v (.bool false))]) := by
 intro lo p q hlo hlo2
 have k0 := fun lo p q => f90 (lo := lo) (l := l) (i := j) (p := p) (q := q) (k := 0) (by omega)
 have k1 := fun lo p q => f90 (lo := lo) (l := l) (i := j) (p := p) (q := q) (k := 1) (by omega)
 have n1 : ((1 : Nat) : Int) = 1 := rfl
 simp only [n0, n1] at k0 k1
 cases hb : blk (chr (suf l j) 0) with
 | true =>
  simp only [if_true]
  generalize chr (suf l j) 1 = c at *
  cases h34 : (c == 34) with
  | true =>
   rw [if_pos (by simp [quo, h34])]
   simp only [go_sem, X118, P68, b118, Tryz.f118, k0, k1, f107, hb, h34, hlo2, tokC, tkC, tk, str_nil]
   all_goals rfl
  | false =>
   cases h39 : (c == 39) with
   | true =>
    rw [if_pos (by simp [quo, h39])]
    simp only [go_sem, X118, P68, b118, Tryz.f118, k0, k1, f107, hb, h34, h39, hlo2, tokC, tkC, tk, str_nil]
    all_goals rfl
   | false =>
    rw [if_neg (by simp [quo, h34, h39])]
    simp only [go_sem, X118, P68, b118, Tryz.f118, k0, k1, f107, hb, h34, h39, tokC, str_nil]
    all_goals rfl
 | false =>
  simp only [Bool.false_eq_true, if_false]
  generalize chr (suf l j) 0 = c at *
  cases h34 : (c == 34) with
  | true =>
   rw [if_pos (by simp [quo, h34])]
   simp only [go_sem, X118, P68, b118, Tryz.f118, k0, k1, f107, hb, h34, hlo2, tokC, tkC, tk, str_nil]
   all_goals rfl
  | false =>
   cases h39 : (c == 39) with
   | true =>
    rw [if_pos (by simp [quo, h39])]
    simp only [go_sem, X118, P68, b118, Tryz.f118, k0, k1, f107, hb, h34, h39, hlo2, tokC, tkC, tk, str_nil]
    all_goals rfl
   | false =>
    rw [if_neg (by simp [quo, h34, h39])]
    simp only [go_sem, X118, P68, b118, Tryz.f118, k0, k1, f107, hb, h34, h39, tokC, str_nil]
    all_goals rfl
theorem p68e {n : List Int} (hl : l.length <= 100000000000) (hi : i <= l.length) : ∃ j, j <= l.length /\ i <= j /\ suf l j = (url (suf l i)).2.2 /\
  ∀ lo p q, lo <= p.length -> lo <= p.length + (q.length + 1) -> evL (X118 lo p q) loopW (pc b118 14 2) (P68 p q l i n [(68, .v (.bool false))]) = ret68 p q l j (urlT (url (suf l i))) := by
 obtain ⟨j, a1, a2, a3, a4⟩ := f159 (l := l) (i := i) hl hi
 refine ⟨j, a1, a2, a3, fun lo p q hlo hlo2 => ?_⟩
 have k := a4 lo p (q ++ [.cells (tokC 0 [])]) hlo
 simp only [tokC, tkC, str_nil] at k
 simp only [go_sem, X118, P68, b118, Tryz.f118, k, hlo2, tokC, tkC, str_nil]
 all_goals rfl
theorem fin68 {t : Tk} {o : Ob} : fin Tryz.prog [.cell 2 37] (p.length + (q.length + 1)) (some (.ret, [(2, .ptr (p.length + (q.length + 1)) 0)], p ++ o :: (q ++ [.cells (tkC t)]))) = some (.agg (tkC t), p ++ o :: q) := fin80 (h := []) (r2 := [])
theorem f118 (hl : l.length <= 100000000000) (hi : i <= l.length) : ∃ j, j <= l.length /\ i <= j /\ suf l j = (word (suf l i)).2 /\
  ∀ lo p q, lo <= p.length -> E lo 118 [.ptr p.length 0] (p ++ R l i :: q) = some (.agg (tkC (word (suf l i)).1), p ++ R l j :: q) := by
 obtain ⟨j1, a1, a2, a3, a4⟩ := p68a (l := l) (i := i) hl hi
 have hnl := name_len (suf l i)
 rw [suf_len] at hnl
 have hH : ∀ p q : List Ob, (p ++ R l i :: q).length = p.length + (q.length + 1) := fun p q => by simp
 unfold word
 simp only
 rw [<- a3]
 by_cases h40 : chr (suf l j1) 0 = 40
 ·have hne : j1 < l.length := by
   rcases Nat.lt_or_ge j1 l.length with h | h
   ·exact h
   ·rw [suf_end h] at h40; cases h40
  have e1 : suf l (j1 + 1) = (suf l j1).drop 1 := by simp [suf, List.drop_drop]
  rw [if_pos h40] 
  cases hu : isUrl (name (suf l i)).1 with
  | true =>
   obtain ⟨j2, b1, b2, b3, b4⟩ := p68c (n := (name (suf l i)).1) (l := l) (i := j1 + 1) hl (by omega)
   rw [if_pos rfl, <- e1, <- b3]
   by_cases hq : quo (if blk (chr (suf l j2) 0) = true then chr (suf l j2) 1 else chr (suf l j2) 0) = true
   ·rw [if_pos hq]
    refine ⟨j2, by omega, by omega, rfl, fun lo p q hlo => ?_⟩
    rw [e118 (by simp) (by rfl), hH, pc_in, pc_go _ _ _ _ 0 4, a4 lo p q hlo (by omega), if_pos h40, pc_go _ _ _ _ _ 3, p68b (by omega) (by omega) lo p q hlo (by omega), hu, if_pos rfl,
     pc_go _ _ _ _ _ 1, b4 lo p q hlo, pc_go _ _ _ _ _ 6, p68d (by omega) lo p q hlo (by omega), if_pos hq, ret68, pc_r]
    exact fin68
   ·obtain ⟨j3, c1, c2, c3, c4⟩ := p68e (n := (name (suf l i)).1) (l := l) (i := j2) hl b1
    rw [if_neg hq]
    refine ⟨j3, c1, by omega, c3, fun lo p q hlo => ?_⟩
    rw [e118 (by simp) (by rfl), hH, pc_in, pc_go _ _ _ _ 0 4, a4 lo p q hlo (by omega), if_pos h40, pc_go _ _ _ _ _ 3, p68b (by omega) (by omega) lo p q hlo (by omega), hu, if_pos rfl,
     pc_go _ _ _ _ _ 1, b4 lo p q hlo, pc_go _ _ _ _ _ 6, p68d (by omega) lo p q hlo (by omega), if_neg hq, pc_go _ _ _ _ _ 2, c4 lo p q hlo (by omega), ret68, pc_r]
    exact fin68
  | false =>
   rw [if_neg (by simp)]
   refine ⟨j1 + 1, by omega, by omega, e1, fun lo p q hlo => ?_⟩
   rw [e118 (by simp) (by rfl), hH, pc_in, pc_go _ _ _ _ 0 4, a4 lo p q hlo (by omega), if_pos h40, pc_go _ _ _ _ _ 3, p68b (by omega) (by omega) lo p q hlo (by omega), hu, if_neg (by simp), ret68, pc_r]
   exact fin68
 ·rw [if_neg h40]
  refine ⟨j1, by omega, by omega, rfl, fun lo p q hlo => ?_⟩
  rw [e118 (by simp) (by rfl), hH, pc_in, pc_go _ _ _ _ 0 4, a4 lo p q hlo (by omega), if_neg h40, ret68, pc_r]
  exact fin68
end
end Go.Lift.P8.T
end

section
open Go.Proofs
namespace Go.Lift.P8.T
variable [MX]
open Utf Tok
theorem loop216 {lo : Nat} {t : List Int} {h : Heap} (hy : By t) (hl : t.length <= 100000000000) : ∀ (m i : Nat), t.length - i <= m -> i <= t.length ->
  loopW (evCode ⟨Tryz.prog, E, lo, h.length, h216⟩ loopW l216x0) ([(0, .v (.string (bs t))), (3, .v (.int .i64 i))], h) =
   some (.exit 0, [(0, .v (.string (bs t))), (3, .v (.int .i64 (i + ((t.drop i).takeWhile dig).length : Nat))), (19, .v (.bool false))], h) := by
 intro m
 induction m with
 | zero =>
  intro i h1 h2
  obtain rfl : i = t.length := by omega
  have hd : decide ((t.length : Int) < (t.length : Int)) = false := by simp
  rw [loop_eq]
  simp only [go_sem, l216x0, b216, Tryz.f216, bs_size, hd]
  all_goals simp
 | succ m ih =>
  intro i h1 h2
  rcases Nat.lt_or_ge i t.length with hi | hi
  rotate_left
  ·exact ih i (by omega) h2
  have hd : decide ((i : Int) < (t.length : Int)) = true := by simp; omega
  have hw : IntKind.i64.wrap ((i : Int) + 1) = ((i + 1 : Nat) : Int) := wrap_succ (by omega)
  have hc : t[i]? = some t[i] := List.getElem?_eq_getElem hi
  have hdr := drop_cons hc
  generalize t[i] = c at hc hdr
  rw [hdr]
  cases hb : dig c with
  | false =>
   rw [List.takeWhile_cons_of_neg (by simp [hb]), loop_eq]
   simp only [dig, Bool.and_eq_false_iff] at hb
   cases h48 : decide (48 <= c) with
   | false =>
    simp only [go_sem, l216x0, b216, Tryz.f216, bs_size, hd, bs_ix hy, hc, h48]
    all_goals simp
   | true =>
    have h57 : decide (c <= 57) = false := by rcases hb with h | h; rw [h48] at h; cases h; exact h
    simp only [go_sem, l216x0, b216, Tryz.f216, bs_size, hd, bs_ix hy, hc, h48, h57]
    all_goals simp
  | true =>
   rw [List.takeWhile_cons_of_pos hb, loop_eq]
   simp only [dig, Bool.and_eq_true] at hb
   obtain ⟨h48, h57⟩ := hb
   have e : evCode ⟨Tryz.prog, E, lo, h.length, h216⟩ loopW l216x0 ([(0, .v (.string (bs t))), (3, .v (.int .i64 i))], h) = some (.normal, [(0, .v (.string (bs t))), (3, .v (.int .i64 (i + 1 : Nat)))], h) := by
    simp only [go_sem, l216x0, b216, Tryz.f216, bs_size, hd, bs_ix hy, hc, h48, h57, hw]
   rw [e, loop_n, ih (i + 1) (by omega) (by omega)]
   have e2 : i + (c :: (t.drop (i + 1)).takeWhile dig).length = i + 1 + ((t.drop (i + 1)).takeWhile dig).length := by simp; omega
   rw [e2]
theorem f216 {lo : Nat} {t : List Int} {h : Heap} (hy : By t) (hl : t.length <= 100000000000) :
  E lo 216 [.v (.string (bs t))] h = some (.v (.int .i64 ((t.takeWhile dig).length : Nat)), h) := by
 have hL := loop216 (lo := lo) (h := h) hy hl t.length 0 (by omega) (by omega)
 rw [e216 (by simp) (by rfl)]
 simp only [l216x0, b216, Tryz.f216, loopAt, loops, bodyOf, go_sem, Nat.zero_add] at hL
 simp only [go_sem, b216, Tryz.f216, hL]
theorem loop217 {lo : Nat} {h : Heap} : ∀ (l : List Int), By l -> l.length <= 100000000000 ->
  loopW (evCode ⟨Tryz.prog, E, lo, h.length, h217⟩ loopW l217x0) ([(0, .v (.string (bs l))), (1, .v (.int .u8 48))], h) =
   some (.exit 0, [(0, .v (.string (bs (l.dropWhile (· == 48))))), (1, .v (.int .u8 48)), (13, .v (.bool false))], h)
 | [], hy, hl => by
  have hd : decide ((0 : Int) < 0) = false := rfl
  rw [loop_eq]
  simp only [go_sem, l217x0, b217, Tryz.f217, bs_size, hd]
  rfl
 | c :: t, hy, hl => by
  have hd : decide ((0 : Int) < ((t.length + 1 : Nat) : Int)) = true := by simp
  have hc : (c :: t)[0]? = some c := rfl
  have hix := bs_ix hy 0
  rw [hc] at hix
  rw [loop_eq]
  cases hb : (c == 48) with
  | false =>
   rw [List.dropWhile_cons_of_neg (by simp [hb])]
   simp only [go_sem, l217x0, b217, Tryz.f217, bs_size, hd, hix, hb]
  | true =>
   rw [List.dropWhile_cons_of_pos (p := (· == 48)) hb]
   have h1 : 1 <= t.length + 1 := by omega
   have e : evCode ⟨Tryz.prog, E, lo, h.length, h217⟩ loopW l217x0 ([(0, .v (.string (bs (c :: t)))), (1, .v (.int .u8 48))], h) = some (.normal, [(0, .v (.string (bs t))), (1, .v (.int .u8 48))], h) := by
    simp only [go_sem, l217x0, b217, Tryz.f217, bs_size, hd, hix, hb, h1, Nat.le_refl, bs_ext]
   rw [e, loop_n]
   exact loop217 t (fun x hx => hy x (by simp [hx])) (by simp at hl; omega)
theorem f217 {lo : Nat} {l : List Int} {h : Heap} (hy : By l) (hl : l.length <= 100000000000) : E lo 217 [.v (.string (bs l)), .v (.int .u8 48)] h = some (.v (.string (bs (l.dropWhile (· == 48)))), h) := by
 have hL := loop217 (lo := lo) (h := h) l hy hl
 rw [e217 (by simp) (by rfl)]
 simp only [l217x0, b217, Tryz.f217, loopAt, loops, bodyOf, go_sem] at hL
 simp only [go_sem, b217, Tryz.f217, hL]
theorem core_nil : core [] = [] := rfl
theorem loop221 {lo : Nat} {h : Heap} : ∀ (m : Nat) (l : List Int), l.length = m -> By l -> l.length <= 100000000000 ->
  loopW (evCode ⟨Tryz.prog, E, lo, h.length, h221⟩ loopW l221x0) ([(0, .v (.string (bs l))), (1, .v (.int .u8 48))], h) =
   some (.exit 0, [(0, .v (.string (bs (core l)))), (1, .v (.int .u8 48)), (16, .v (.bool false))], h) := by
 intro m
 induction m with
 | zero =>
  intro l hm hy hl
  obtain rfl := List.eq_nil_of_length_eq_zero hm
  have hd : decide ((0 : Int) < 0) = false := rfl
  rw [loop_eq]
  simp only [go_sem, l221x0, b221, Tryz.f221, bs_size, hd, core_nil]
 | succ m ih =>
  intro l hm hy hl
  obtain ⟨t, c, rfl⟩ : ∃ t c, l = t ++ [c] := by
   rcases List.eq_nil_or_concat l with h | ⟨t, c, h⟩
   ·rw [h] at hm; cases hm
   ·exact ⟨t, c, by simpa using h⟩
  have hsz : (t ++ [c]).length = t.length + 1 := by simp
  have htm : t.length = m := by omega
  have hd : decide ((0 : Int) < ((t.length + 1 : Nat) : Int)) = true := by simp
  have hc : (t ++ [c])[t.length]? = some c := by simp
  have hw : IntKind.i64.wrap (((t.length + 1 : Nat) : Int) - 1) = (t.length : Int) := by rw [wrap_i64 (by omega) (by omega)]; omega
  have hix := bs_ix hy t.length
  rw [hc] at hix
  have htk : (t ++ [c]).take t.length = t := by simp
  rw [loop_eq, core_snoc]
  cases hb : (c == 48) with
  | false =>
   rw [if_neg (by simpa using hb)]
   simp only [go_sem, l221x0, b221, Tryz.f221, bs_size, hsz, hd, hw, hix, hb]
  | true =>
   rw [if_pos (by simpa using hb)]
   have h1 : t.length <= t.length + 1 := by omega
   have e : evCode ⟨Tryz.prog, E, lo, h.length, h221⟩ loopW l221x0 ([(0, .v (.string (bs (t ++ [c])))), (1, .v (.int .u8 48))], h) = some (.normal, [(0, .v (.string (bs t))), (1, .v (.int .u8 48))], h) := by
    simp only [go_sem, l221x0, b221, Tryz.f221, bs_size, hsz, hd, hw, hix, hb, h1, Nat.zero_le, bs_ext, htk]
   rw [e, loop_n]
   exact ih t htm (fun x hx => hy x (by simp [hx])) (by omega)
theorem f221 {lo : Nat} {l : List Int} {h : Heap} (hy : By l) (hl : l.length <= 100000000000) : E lo 221 [.v (.string (bs l)), .v (.int .u8 48)] h = some (.v (.string (bs (core l))), h) := by
 have hL := loop221 (lo := lo) (h := h) l.length l rfl hy hl
 rw [e221 (by simp) (by rfl)]
 simp only [l221x0, b221, Tryz.f221, loopAt, loops, bodyOf, go_sem] at hL
 simp only [go_sem, b221, Tryz.f221, hL]
theorem bs_nil_eq' (l : List Int) : ((bs l).toList == (⟨#[]⟩ : ByteArray).toList) = decide (l = []) := bs_nil_eq l
theorem cut48 : ((⟨#[48]⟩ : ByteArray).toList == (⟨#[]⟩ : ByteArray).toList) = false := (bs_nil_eq' [48]).trans (by simp)
theorem f187 {lo : Nat} {l : List Int} {h : Heap} (hy : By l) (hl : l.length <= 100000000000) : E lo 187 [.v (.string (bs l)), .v (.string ⟨#[48]⟩)] h = some (.v (.string (bs (l.dropWhile (· == 48)))), h) := by
 rw [e187 (by simp) (by rfl)]
 cases l with
 | nil =>
  have t1 := bs_nil_eq' []
  simp only [decide_true] at t1
  simp only [go_sem, b187, Tryz.f187, t1]
  rfl
 | cons c t =>
  have t1 := bs_nil_eq' (c :: t)
  rw [decide_eq_false (by simp)] at t1
  have t2 : ((1 : Nat) : Int) = 1 := rfl
  have t3 : ((1 : Int) == 1) = true := rfl
  have t4 : decide ((48 : Int) < 128) = true := rfl
  have t5 : ((UInt8.toNat 48 : Nat) : Int) = 48 := rfl
  have t6 : (⟨#[48]⟩ : ByteArray).size = 1 := rfl
  simp only [go_sem, b187, Tryz.f187, t1, cut48, t2, t3, t4, t5, t6, f217 hy hl]
theorem f188 {lo : Nat} {l : List Int} {h : Heap} (hy : By l) (hl : l.length <= 100000000000) : E lo 188 [.v (.string (bs l)), .v (.string ⟨#[48]⟩)] h = some (.v (.string (bs (core l))), h) := by
 rw [e188 (by simp) (by rfl)]
 cases l with
 | nil =>
  have t1 := bs_nil_eq' []
  simp only [decide_true] at t1
  simp only [go_sem, b188, Tryz.f188, t1]
  rfl
 | cons c t =>
  have t1 := bs_nil_eq' (c :: t)
  rw [decide_eq_false (by simp)] at t1
  have t2 : ((1 : Nat) : Int) = 1 := rfl
  have t3 : ((1 : Int) == 1) = true := rfl
  have t4 : decide ((48 : Int) < 128) = true := rfl
  have t5 : ((UInt8.toNat 48 : Nat) : Int) = 48 := rfl
  have t6 : (⟨#[48]⟩ : ByteArray).size = 1 := rfl
  simp only [go_sem, b188, Tryz.f188, t1, cut48, t2, t3, t4, t5, t6, f221 hy hl]
theorem f224 {lo : Nat} {below : Bool} {n d : Int} {h : Heap} (hlo : lo <= h.length) (h0 : 0 <= n) (h1 : n <= 9223372036854775807) (g0 : 1 <= d) (g1 : d <= 9223372036854775807) :
  E lo 224 [.v (.bool below), .v (.int .u64 n), .v (.int .u64 d)] h = some (.agg (ratC (turn below (some (n, d)))), h) := by
 have t1 : decide (9223372036854775807 < n) = false := by simp; omega
 have t2 : decide (9223372036854775807 < d) = false := by simp; omega
 have t3 : (d == 0) = false := by simp; omega
 have w1 : IntKind.i64.wrap n = n := by rw [wrap_i64] <;> omega
 have w2 : IntKind.i64.wrap d = d := by rw [wrap_i64] <;> omega
 have w3 : IntKind.i64.wrap (0 - n) = -n := by rw [wrap_i64] <;> omega
 rw [e224 (by simp) (by rfl)]
 cases below with
 | true =>
  simp only [go_sem, b224, Tryz.f224, t1, t2, t3, w1, w2, w3, hlo, turn, ratC]
  all_goals rfl
 | false =>
  simp only [go_sem, b224, Tryz.f224, t1, t2, t3, w1, w2, w3, hlo, turn, ratC]
  all_goals rfl
end Go.Lift.P8.T
end

section
open Go.Proofs
namespace Go.Lift.P8.T
variable [MX]
open Utf Tok
section
variable {lo : Nat} {below : Bool} {h : Heap} {p : Int}
noncomputable abbrev X189 (lo : Nat) (h : Heap) : Cx := ⟨Tryz.prog, E, lo, h.length, h189⟩
abbrev over145 (h : Heap) : Option (Ex × Env × Heap) := some (.ret, [(6, .ptr h.length 0)], h ++ [.cells (ratC (0, 0))])
abbrev U145 (below : Bool) (h : Heap) (n p : Int) (ex : Env) : Env × Heap :=
 ((0, .v (.bool below)) :: (1, .v (.int .u64 n)) :: (2, .v (.int .i64 p)) :: (6, .ptr h.length 0) :: ex, h ++ [.cells (ratC (0, 0))])
theorem loop189a (hlo : lo <= h.length) : ∀ (m : Nat) (p n : Int) (x : V), p.toNat = m -> p <= 4000000000000 -> 0 <= n -> n <= 9223372036854775807 ->
  loopW (evCode (X189 lo h) loopW l189x0) (U145 below h n p [(16, x)]) =
   match upN m n with
   | some n' => some (.exit 0, U145 below h n' (if 0 < p then 0 else p) [(19, .v (.bool false))])
   | none => over145 h := by
 intro m
 induction m with
 | zero =>
  intro p n x hm he h0 h1
  have hd : decide (0 < p) = false := by simp; omega
  rw [loop_eq, if_neg (by omega)]
  simp only [go_sem, X189, l189x0, b189, Tryz.f189, hd, upN, ratC]
  all_goals rfl
 | succ m ih =>
  intro p n x hm he h0 h1
  have hd : decide (0 < p) = true := by simp; omega
  have hw : IntKind.i64.wrap (p - 1) = p - 1 := by rw [wrap_i64] <;> omega
  rw [loop_eq]
  simp only [upN]
  by_cases hb : 922337203685477580 < n
  ·have hb' : decide (922337203685477580 < n) = true := by simp [hb]
   rw [if_pos hb]
   simp only [go_sem, X189, l189x0, b189, Tryz.f189, hd, hb', hlo, ratC]
   all_goals rfl
  ·have hb' : decide (922337203685477580 < n) = false := by simp [hb]
   rw [if_neg hb]
   have w1 : IntKind.u64.wrap (n * 10) = n * 10 := wrap_u64 (by omega) (by omega)
   have e1 : evCode (X189 lo h) loopW l189x0 (U145 below h n p [(16, x)]) = some (.normal, U145 below h (n * 10) (p - 1) [(16, .undef)]) := by
    simp only [go_sem, X189, l189x0, b189, Tryz.f189, hd, hb', w1, hw, ratC]
    all_goals rfl
   rw [e1, loop_n, ih (p - 1) (n * 10) .undef (by omega) (by omega) (by omega) (by omega)]
   have e2 : (if 0 < p - 1 then (0 : Int) else p - 1) = if 0 < p then 0 else p := by split <;> split <;> omega
   rw [e2]
abbrev rows25 : List (List V) := [[.v (.int .u64 2)], [.v (.int .u64 5)]]
abbrev I145 (below : Bool) (h : Heap) (n p d y k i : Int) (ex : Env) : Env × Heap :=
 ((0, .v (.bool below)) :: (1, .v (.int .u64 n)) :: (2, .v (.int .i64 p)) :: (6, .ptr h.length 0) :: (7, .v (.int .u64 d)) :: (9, .v (.int .u64 y)) :: (10, .v (.int .i64 k)) :: (27, .list .yes rows25) :: (28, .v (.int .i64 2)) :: (29, .v (.int .i64 i)) :: ex, h ++ [.cells (ratC (0, 0))])
theorem loop189c {y b i : Int} (hlo : lo <= h.length) (hyb : (y = 2 /\ b = 4611686018427387903) \/ (y = 5 /\ b = 1844674407370955161)) :
  ∀ (m : Nat) (k n d : Int), (-k).toNat = m -> k <= 0 -> -4000000000000 <= k -> 0 <= n -> n <= 9223372036854775807 -> 0 <= d -> d <= 9223372036854775807 ->
  loopW (evCode (X189 lo h) loopW l189x2) (I145 below h n p d y k i []) =
   match downN y b m n d with
   | some r => some (.exit 4, I145 below h r.1 p r.2 y 0 i [(35, .v (.bool false))])
   | none => over145 h := by
 have hy0 : 0 < y := by omega
 have hyz : (y = 0) = False := by simp; omega
 have hbq : Int.tdiv 9223372036854775807 y = b := by rcases hyb with ⟨rfl, rfl⟩ | ⟨rfl, rfl⟩ <;> rfl
 have wb : IntKind.u64.wrap b = b := wrap_u64 (by omega) (by omega)
 have hby : b * y <= 9223372036854775807 := by rcases hyb with ⟨rfl, rfl⟩ | ⟨rfl, rfl⟩ <;> decide
 have hb0 : 0 <= b := by omega
 intro m
 induction m with
 | zero =>
  intro k n d hm hk hk2 h0 h1 g0 g1
  obtain rfl : k = 0 := by omega
  have hd : decide ((0 : Int) < 0) = false := rfl
  rw [loop_eq]
  simp only [downN]
  simp only [go_sem, X189, l189x2, b189, Tryz.f189, hd, ratC]
  all_goals rfl
 | succ m ih =>
  intro k n d hm hk hk2 h0 h1 g0 g1
  have hd : decide (k < 0) = true := by simp; omega
  have hw : IntKind.i64.wrap (k + 1) = k + 1 := by rw [wrap_i64] <;> omega
  have hr : Int.tmod n y = n % y := Int.tmod_eq_emod_of_nonneg h0
  have hq : Int.tdiv n y = n / y := Int.tdiv_eq_ediv_of_nonneg h0
  have hq0 : 0 <= n / y := Int.ediv_nonneg h0 (by omega)
  have hq1 : n / y <= n := Int.ediv_le_self y h0
  have wq : IntKind.u64.wrap (n / y) = n / y := wrap_u64 (by omega) (by omega)
  rw [loop_eq]
  simp only [downN]
  by_cases hm0 : n % y = 0
  ·have hb : (n % y == 0) = true := by simp [hm0]
   have e1 : evCode (X189 lo h) loopW l189x2 (I145 below h n p d y k i []) = some (.normal, I145 below h (n / y) p d y (k + 1) i []) := by
    simp only [go_sem, X189, l189x2, b189, Tryz.f189, hd, hr, hq, wq, hb, hw, hyz, ratC]
    all_goals rfl
   rw [e1, loop_n, ih (k + 1) (n / y) d (by omega) (by omega) (by omega) (by omega) (by omega) g0 g1, if_pos hm0]
  ·have hb : (n % y == 0) = false := by simp [hm0]
   rw [if_neg hm0]
   by_cases hbd : b < d
   ·have hbd' : decide (b < d) = true := by simp [hbd]
    rw [if_pos hbd]
    simp only [go_sem, X189, l189x2, b189, Tryz.f189, hd, hr, hb, hbq, wb, hbd', hyz, hlo, ratC]
    all_goals rfl
   ·have hbd' : decide (b < d) = false := by simp [hbd]
    rw [if_neg hbd]
    have hdy : d * y <= b * y := Int.mul_le_mul_of_nonneg_right (by omega) (by omega)
    have hdy0 : 0 <= d * y := Int.mul_nonneg g0 (by omega)
    have w1 : IntKind.u64.wrap (d * y) = d * y := wrap_u64 (by omega) (by omega)
    have e1 : evCode (X189 lo h) loopW l189x2 (I145 below h n p d y k i []) = some (.normal, I145 below h n p (d * y) y (k + 1) i []) := by
     simp only [go_sem, X189, l189x2, b189, Tryz.f189, hd, hr, hb, hbq, wb, hbd', w1, hw, hyz, ratC]
     all_goals rfl
    rw [e1, loop_n, ih (k + 1) n (d * y) (by omega) (by omega) (by omega) h0 h1 hdy0 (by omega)]
abbrev O145 (below : Bool) (h : Heap) (n p d i : Int) (ex : Env) : Env × Heap :=
 ((0, .v (.bool below)) :: (1, .v (.int .u64 n)) :: (2, .v (.int .i64 p)) :: (6, .ptr h.length 0) :: (7, .v (.int .u64 d)) :: (27, .list .yes rows25) :: (28, .v (.int .i64 2)) :: (29, .v (.int .i64 i)) :: ex, h ++ [.cells (ratC (0, 0))])
theorem round189 {y b : Int} {i : Nat} (hlo : lo <= h.length) (hyb : (i = 0 /\ y = 2 /\ b = 4611686018427387903) \/ (i = 1 /\ y = 5 /\ b = 1844674407370955161))
  {n d : Int} (hk : p <= 0) (hk2 : -4000000000000 <= p) (h0 : 0 <= n) (h1 : n <= 9223372036854775807) (g0 : 0 <= d) (g1 : d <= 9223372036854775807) :
  evCode (X189 lo h) loopW l189x1 (O145 below h n p d i []) = match downN y b (-p).toNat n d with
   | some r => some (.normal, O145 below h r.1 p r.2 (i + 1 : Nat) [])
   | none => over145 h := by
 have hL := loop189c (lo := lo) (below := below) (h := h) (p := p) (y := y) (b := b) (i := i) hlo (by omega) (-p).toNat p n d rfl hk hk2 h0 h1 g0 g1
 cases hu : downN y b (-p).toNat n d with
 | some r =>
  rw [hu] at hL
  rcases hyb with ⟨rfl, rfl, rfl⟩ | ⟨rfl, rfl, rfl⟩
  ·have hd : decide (((0 : Nat) : Int) < 2) = true := rfl
   have hw : IntKind.i64.wrap (((0 : Nat) : Int) + 1) = ((0 + 1 : Nat) : Int) := rfl
   simp only [I145, l189x2, X189, b189, Tryz.f189, loopAt, loops, bodyOf, go_sem, ratC] at hL hd hw
   simp only [go_sem, X189, O145, l189x1, b189, Tryz.f189, hd, hw, hL, ratC]
   all_goals rfl
  ·have hd : decide (((1 : Nat) : Int) < 2) = true := rfl
   have hw : IntKind.i64.wrap (((1 : Nat) : Int) + 1) = ((1 + 1 : Nat) : Int) := rfl
   simp only [I145, l189x2, X189, b189, Tryz.f189, loopAt, loops, bodyOf, go_sem, ratC] at hL hd hw
   simp only [go_sem, X189, O145, l189x1, b189, Tryz.f189, hd, hw, hL, ratC]
   all_goals rfl
 | none =>
  rw [hu] at hL
  rcases hyb with ⟨rfl, rfl, rfl⟩ | ⟨rfl, rfl, rfl⟩
  ·have hd : decide (((0 : Nat) : Int) < 2) = true := rfl
   simp only [I145, over145, l189x2, X189, b189, Tryz.f189, loopAt, loops, bodyOf, go_sem, ratC] at hL hd
   simp only [go_sem, X189, O145, over145, l189x1, b189, Tryz.f189, hd, hL, ratC]
   all_goals rfl
  ·have hd : decide (((1 : Nat) : Int) < 2) = true := rfl
   simp only [I145, over145, l189x2, X189, b189, Tryz.f189, loopAt, loops, bodyOf, go_sem, ratC] at hL hd
   simp only [go_sem, X189, O145, over145, l189x1, b189, Tryz.f189, hd, hL, ratC]
   all_goals rfl
end
end Go.Lift.P8.T
end

section
open Go.Proofs
namespace Go.Lift.P8.T
variable [MX]
open Utf Tok
theorem downN_le {y b : Int} (hy : 0 < y) (hb : b * y <= 9223372036854775807) : ∀ (k : Nat) (n d : Int) (r : Int × Int), 1 <= n -> n <= 9223372036854775807 -> 1 <= d -> d <= 9223372036854775807 -> downN y b k n d = some r ->
  1 <= r.1 /\ r.1 <= 9223372036854775807 /\ 1 <= r.2 /\ r.2 <= 9223372036854775807
 | 0, n, d, r, h0, h1, g0, g1, h => by simp only [downN, Option.some.injEq] at h; subst h; exact ⟨h0, h1, g0, g1⟩
 | k + 1, n, d, r, h0, h1, g0, g1, h => by
  simp only [downN] at h
  split at h
  ·rename_i hm
   have hq1 : n / y <= n := Int.ediv_le_self y (by omega)
   have h3 : 1 <= n / y := by
    rcases Int.lt_or_le (n / y) 1 with h4 | h4
    ·have h2 : n = n / y * y := by have := Int.mul_ediv_add_emod n y; rw [hm, Int.add_zero] at this; rw [Int.mul_comm]; exact this.symm
     have : n / y * y <= 0 := Int.mul_nonpos_of_nonpos_of_nonneg (by omega) (by omega)
     omega
    ·exact h4
   exact downN_le hy hb k (n / y) d r h3 (by omega) g0 g1 h
  ·split at h
   ·cases h
   ·have hdy : d * y <= b * y := Int.mul_le_mul_of_nonneg_right (by omega) (by omega)
    have hdy0 : 1 <= d * y := by
     have := le_mulr (a := d) (b := y) (by omega) (by omega)
     omega
    exact downN_le hy hb k n (d * y) r h0 h1 hdy0 (by omega) h
section
variable {lo : Nat} {below : Bool} {h : Heap} {p : Int}
theorem p145a {n : Int} (hlo : lo <= h.length) : evL (X189 lo h) loopW (pc b189 0 3) (args0 [.v (.bool below), .v (.int .u64 n), .v (.int .i64 p)], h) =
  if 18 < p \/ p < -100 then over145 h else some (.normal, U145 below h n p [(16, .v (.bool false))]) := by
 by_cases h18 : 18 < p
 ·have t1 : decide (18 < p) = true := by simp [h18]
  rw [if_pos (.inl h18)]
  simp only [go_sem, X189, b189, Tryz.f189, t1, hlo, ratC]
  all_goals rfl
 ·have t1 : decide (18 < p) = false := by simp [h18]
  by_cases h100 : p < -100
  ·have t2 : decide (p < -100) = true := by simp [h100]
   rw [if_pos (.inr h100)]
   simp only [go_sem, X189, b189, Tryz.f189, t1, t2, hlo, ratC]
   all_goals rfl
  ·have t2 : decide (p < -100) = false := by simp [h100]
   rw [if_neg (by omega)]
   simp only [go_sem, X189, b189, Tryz.f189, t1, t2, ratC]
   all_goals rfl
theorem p145b {n : Int} (hlo : lo <= h.length) (hp : p <= 4000000000000) (h0 : 0 <= n) (h1 : n <= 9223372036854775807) : evL (X189 lo h) loopW (pc b189 3 1) (U145 below h n p [(16, .v (.bool false))]) =
  match upN p.toNat n with
  | some n' => some (.normal, U145 below h n' (if 0 < p then 0 else p) [(19, .v (.bool false))])
  | none => over145 h := by
 have hL := loop189a (lo := lo) (below := below) (h := h) hlo p.toNat p n (.v (.bool false)) rfl hp h0 h1
 cases hu : upN p.toNat n with
 | some n' =>
  rw [hu] at hL
  simp only [U145, l189x0, X189, b189, Tryz.f189, loopAt, loops, bodyOf, go_sem, ratC] at hL
  simp only [go_sem, X189, U145, b189, Tryz.f189, hL, ratC]
 | none =>
  rw [hu] at hL
  simp only [U145, over145, l189x0, X189, b189, Tryz.f189, loopAt, loops, bodyOf, go_sem, ratC] at hL
  simp only [go_sem, X189, U145, over145, b189, Tryz.f189, hL, ratC]
theorem outer145 {n : Int} (hlo : lo <= h.length) (hk : p <= 0) (hk2 : -4000000000000 <= p) (h0 : 1 <= n) (h1 : n <= 9223372036854775807) :
  loopW (evCode (X189 lo h) loopW l189x1) (O145 below h n p 1 0 []) =
   match downN 2 4611686018427387903 (-p).toNat n 1 with
   | some r => match downN 5 1844674407370955161 (-p).toNat r.1 r.2 with
    | some s => some (.exit 2, O145 below h s.1 p s.2 2 [(30, .v (.bool false))])
    | none => over145 h
   | none => over145 h := by
 have hA := round189 (lo := lo) (below := below) (h := h) (p := p) (i := 0) hlo (.inl ⟨rfl, rfl, rfl⟩) (n := n) (d := 1) hk hk2 (by omega) h1 (by omega) (by omega)
 rw [loop_eq]
 simp only [n0] at hA
 rw [hA]
 cases hu : downN 2 4611686018427387903 (-p).toNat n 1 with
 | none => rfl
 | some r =>
  obtain ⟨q0, q1, q2, q3⟩ := downN_le (by omega) (by omega) _ _ _ _ h0 h1 (by omega) (by omega) hu
  have hB := round189 (lo := lo) (below := below) (h := h) (p := p) (i := 1) hlo (.inr ⟨rfl, rfl, rfl⟩) (n := r.1) (d := r.2) hk hk2 (by omega) q1 (by omega) q3
  simp only
  rw [loop_n, loop_eq]
  have e1 : ((0 + 1 : Nat) : Int) = ((1 : Nat) : Int) := rfl
  rw [e1, hB]
  cases hv : downN 5 1844674407370955161 (-p).toNat r.1 r.2 with
  | none => rfl
  | some s =>
   simp only
   rw [loop_n, loop_eq]
   have hd : decide (((1 + 1 : Nat) : Int) < 2) = false := rfl
   simp only [go_sem, X189, O145, l189x1, b189, Tryz.f189, hd, ratC]
   all_goals rfl
theorem p145c {n : Int} (hlo : lo <= h.length) (hk : p <= 0) (hk2 : -4000000000000 <= p) (h0 : 1 <= n) (h1 : n <= 9223372036854775807) : evL (X189 lo h) loopW (pc b189 4 3) (U145 below h n p [(19, .v (.bool false))]) =
  match downN 2 4611686018427387903 (-p).toNat n 1 with
   | some r => match downN 5 1844674407370955161 (-p).toNat r.1 r.2 with
    | some s => some (.normal, O145 below h s.1 p s.2 2 [(30, .v (.bool false))])
    | none => over145 h
   | none => over145 h := by
 have n2 : ((2 : Nat) : Int) = 2 := rfl
 have hL := outer145 (lo := lo) (below := below) (h := h) hlo hk hk2 h0 h1
 cases hu : downN 2 4611686018427387903 (-p).toNat n 1 with
 | none =>
  rw [hu] at hL
  simp only [O145, over145, l189x1, X189, b189, Tryz.f189, loopAt, loops, bodyOf, go_sem, ratC] at hL
  simp only [go_sem, X189, U145, over145, b189, Tryz.f189, n2, hL, ratC]
  all_goals rfl
 | some r =>
  rw [hu] at hL
  simp only at hL ⊢
  cases hv : downN 5 1844674407370955161 (-p).toNat r.1 r.2 with
  | none =>
   rw [hv] at hL
   simp only [O145, over145, l189x1, X189, b189, Tryz.f189, loopAt, loops, bodyOf, go_sem, ratC] at hL
   simp only [go_sem, X189, U145, over145, b189, Tryz.f189, n2, hL, ratC]
   all_goals rfl
  | some s =>
   rw [hv] at hL
   simp only [O145, l189x1, X189, b189, Tryz.f189, loopAt, loops, bodyOf, go_sem, ratC] at hL
   simp only [go_sem, X189, U145, O145, b189, Tryz.f189, n2, hL, ratC]
   all_goals rfl
theorem p145d {n d : Int} (hlo : lo <= h.length) (h0 : 1 <= n) (h1 : n <= 9223372036854775807) (g0 : 1 <= d) (g1 : d <= 9223372036854775807) : evL (X189 lo h) loopW (pc b189 7 2) (O145 below h n p d 2 [(30, .v (.bool false))]) =
  some (.ret, [(6, .ptr h.length 0)], h ++ [.cells (ratC (turn below (some (n, d))))]) := by
 have k := f224 (lo := lo) (below := below) (n := n) (d := d) (h := h ++ [.cells (ratC (0, 0))]) (by simp; omega) (by omega) h1 g0 g1
 simp only [ratC] at k
 simp only [go_sem, X189, O145, b189, Tryz.f189, k, hlo, ratC]
 all_goals rfl
theorem fin145 {h : Heap} {x : Int × Int} : fin Tryz.prog [.cell 6 35] h.length (some (.ret, [(6, .ptr h.length 0)], h ++ [.cells (ratC x)])) = some (.agg (ratC x), h) := fin154
theorem f189 {n : Int} (hlo : lo <= h.length) (hp0 : -4000000000000 <= p) (hp1 : p <= 4000000000000) (h0 : 1 <= n) (h1 : n < 10 ^ 18) :
  E lo 189 [.v (.bool below), .v (.int .u64 n), .v (.int .i64 p)] h = some (.agg (ratC (turn below (scaleR n p))), h) := by
 have h18 : (10 : Int) ^ 18 = 1000000000000000000 := by decide
 rw [<- scale_eq h0 h1, e189 (by simp) (by rfl), pc_in, pc_go _ _ _ _ 0 3, p145a hlo]
 unfold scaleP
 by_cases hov : 18 < p \/ p < -100
 ·rw [if_pos hov, if_pos hov, over145, pc_r]
  exact fin145
 rw [if_neg hov, if_neg hov, pc_go _ _ _ _ _ 1, p145b hlo hp1 (by omega) (by omega)]
 cases hu : upN p.toNat n with
 | none =>
  simp only
  rw [over145, pc_r]
  exact fin145
 | some m =>
  obtain ⟨m0, m1⟩ := upN_le _ _ _ h0 (by omega) hu
  simp only
  have hp0 : (if 0 < p then (0 : Int) else p) <= 0 := by split <;> omega
  have hpn : (-(if 0 < p then (0 : Int) else p)).toNat = (-p).toNat := by split <;> omega
  rw [pc_go _ _ _ _ _ 3, p145c hlo hp0 (by split <;> omega) m0 m1, hpn]
  cases hv : downN 2 4611686018427387903 (-p).toNat m 1 with
  | none =>
   simp only
   rw [over145, pc_r]
   exact fin145
  | some r =>
   obtain ⟨q0, q1, q2, q3⟩ := downN_le (by omega) (by omega) _ _ _ _ m0 m1 (by omega) (by omega) hv
   obtain ⟨r1, r2⟩ := r
   simp only
   cases hw : downN 5 1844674407370955161 (-p).toNat r1 r2 with
   | none =>
    simp only
    rw [over145, pc_r]
    exact fin145
   | some s =>
    obtain ⟨s0, s1, s2, s3⟩ := downN_le (by omega) (by omega) _ _ _ _ q0 q1 q2 q3 hw
    simp only
    rw [pc_go _ _ _ _ _ 2, p145d hlo s0 s1 s2 s3, pc_r]
    exact fin145
end
end Go.Lift.P8.T
end
