/- utf.Decode, jalousieref2.Decode: bytes as a stylesheet's. -/
import Derived.Test.YtedlleekcinbcaaR1Utf9
open Go.Proofs
namespace Go.Lift.R1
open Utf
set_option maxRecDepth 20000
set_option linter.unusedSimpArgs false
set_option linter.unusedVariables false

theorem dstep_len (back : Bool) (x : Int) : (dstep back x).length ≤ 1 := by
  unfold dstep
  split <;> simp

theorem round22 {lo i : Nat} {l out : List Int} {h : Heap} {x : Int} {back : Bool} (hx : l[i]? = some x) (hi : i < l.length) (hl : l.length ≤ 1000000000) (ho : out.length ≤ 1000000000) :
   evCode ⟨Try.prog, E, lo, h.length, h22⟩ loopW l22x0 ([(3, .list .yes (ri .i32 out)), (4, .v (.bool back)), (32, .list .no (ri .i32 l)), (33, .v (.int .i64 l.length)), (34, .v (.int .i64 i))], h) =
     some (.normal, [(3, .list .yes (ri .i32 (out ++ dstep back x))), (4, .v (.bool (x == 13))), (32, .list .no (ri .i32 l)), (33, .v (.int .i64 l.length)), (34, .v (.int .i64 (i + 1 : Nat)))], h) := by
  have hd : decide ((i : Int) < l.length) = true := by simpa using hi
  have hr : ∀ k, k ≤ 4 → (out.length + k) * 4 ≤ 140737488355328 := by intro k hk; omega
  have hq : ∀ k, 9223372036854775800 ≤ k → out.length ≤ k := by intro k hk; omega
  have hw : IntKind.i64.wrap ((i : Int) + 1) = ((i + 1 : Nat) : Int) := wrap_succ (by omega)
  have app : ∀ y : Int, ri .i32 (out ++ [y]) = ri .i32 out ++ [[V.v (.int .i32 y)]] := by intro y; rw [← ri_app]; rfl
  by_cases h10 : x = 10
  · subst h10
    have e13 : ((10 : Int) == 13) = false := rfl
    have e10 : ((10 : Int) == 10) = true := rfl
    cases back with
    | true =>
      have ed : dstep true 10 = [] := rfl
      simp only [go_sem, l22x0, b22, Try.f22, hd, hx, hr, hq, hw, ed, e13, e10, List.append_nil]
    | false =>
      have ed : dstep false 10 = [10] := rfl
      simp only [go_sem, l22x0, b22, Try.f22, hd, hx, hr, hq, hw, ed, e13, e10, app]
  have e10 : (x == 10) = false := by simp [h10]
  by_cases h13 : x = 13
  · subst h13
    have e13 : ((13 : Int) == 13) = true := rfl
    have ed : dstep back 13 = [10] := rfl
    simp only [go_sem, l22x0, b22, Try.f22, hd, hx, hr, hq, hw, ed, e13, e10, app]
  have e13 : (x == 13) = false := by simp [h13]
  by_cases h12 : x = 12
  · subst h12
    have e12 : ((12 : Int) == 12) = true := rfl
    have ed : dstep back 12 = [10] := rfl
    simp only [go_sem, l22x0, b22, Try.f22, hd, hx, hr, hq, hw, ed, e13, e10, e12, app]
  have e12 : (x == 12) = false := by simp [h12]
  by_cases h0 : x = 0
  · subst h0
    have e0 : ((0 : Int) == 0) = true := rfl
    have ed : dstep back 0 = [65533] := rfl
    simp only [go_sem, l22x0, b22, Try.f22, hd, hx, hr, hq, hw, ed, e13, e10, e12, e0, app]
  have e0 : (x == 0) = false := by simp [h0]
  have ed : dstep back x = [x] := by simp [dstep, e10, e13, e12, e0]
  simp only [go_sem, l22x0, b22, Try.f22, hd, hx, hr, hq, hw, ed, e13, e10, e12, e0, app]

theorem loop22 {lo : Nat} {l : List Int} {h : Heap} (hl : l.length ≤ 1000000000) : ∀ (n i : Nat) (out : List Int) (back : Bool), n = l.length - i → i ≤ l.length → out.length ≤ i →
   ∃ back', loopW (evCode ⟨Try.prog, E, lo, h.length, h22⟩ loopW l22x0) ([(3, .list .yes (ri .i32 out)), (4, .v (.bool back)), (32, .list .no (ri .i32 l)), (33, .v (.int .i64 l.length)), (34, .v (.int .i64 i))], h) =
     some (.exit 0, [(3, .list .yes (ri .i32 (out ++ dec back (l.drop i)))), (4, .v (.bool back')), (32, .list .no (ri .i32 l)), (33, .v (.int .i64 l.length)), (34, .v (.int .i64 l.length)), (35, .v (.bool false))], h) := by
  intro n
  induction n with
  | zero =>
    intro i out back hn hi ho
    obtain rfl : i = l.length := by omega
    rw [loop_eq]
    have hd : decide ((l.length : Int) < l.length) = false := by simp
    refine ⟨back, ?_⟩
    simp only [go_sem, l22x0, b22, Try.f22, hd, List.drop_length, dec]
  | succ n ih =>
    intro i out back hn hi ho
    have hlt : i < l.length := by omega
    have hx : l[i]? = some l[i] := List.getElem?_eq_getElem hlt
    have he := dstep_len back l[i]
    obtain ⟨b', hb⟩ := ih (i + 1) (out ++ dstep back l[i]) (l[i] == 13) (by omega) (by omega) (by rw [List.length_append]; omega)
    refine ⟨b', ?_⟩
    rw [loop_eq, round22 hx hlt hl (by omega), loop_n, hb, List.drop_eq_getElem_cons hlt, dec, List.append_assoc]

theorem round23 {lo i : Nat} {l out : List Int} {h : Heap} {x last : Int} (hx : l[i]? = some x) (hi : i < l.length) (hl : l.length ≤ 1000000000) (ho : out.length ≤ 1000000000) :
   evCode ⟨Try.prog, E, lo, h.length, h23⟩ loopW l23x0 ([(3, .list .yes (ri .i32 out)), (4, .v (.int .i32 last)), (32, .list .no (ri .i32 l)), (33, .v (.int .i64 l.length)), (34, .v (.int .i64 i))], h) =
     some (.normal, [(3, .list .yes (ri .i32 (out ++ dstep (last == 13) x))), (4, .v (.int .i32 x)), (32, .list .no (ri .i32 l)), (33, .v (.int .i64 l.length)), (34, .v (.int .i64 (i + 1 : Nat)))], h) := by
  have hd : decide ((i : Int) < l.length) = true := by simpa using hi
  have hr : ∀ k, k ≤ 4 → (out.length + k) * 4 ≤ 140737488355328 := by intro k hk; omega
  have hq : ∀ k, 9223372036854775800 ≤ k → out.length ≤ k := by intro k hk; omega
  have hw : IntKind.i64.wrap ((i : Int) + 1) = ((i + 1 : Nat) : Int) := wrap_succ (by omega)
  have app : ∀ y : Int, ri .i32 (out ++ [y]) = ri .i32 out ++ [[V.v (.int .i32 y)]] := by intro y; rw [← ri_app]; rfl
  by_cases h10 : x = 10
  · subst h10
    have e13 : ((10 : Int) == 13) = false := rfl
    have e12 : ((10 : Int) == 12) = false := rfl
    have e0 : ((10 : Int) == 0) = false := rfl
    have n10 : ((10 : Int) != 10) = false := rfl
    cases hb : last == 13 with
    | true =>
      have nl : (last != 13) = false := by simp [bne, hb]
      have ed : dstep true 10 = [] := rfl
      simp only [go_sem, l23x0, b23, Try.f23, hd, hx, hr, hq, hw, ed, e13, e12, e0, n10, nl, List.append_nil]
    | false =>
      have nl : (last != 13) = true := by simp [bne, hb]
      have ed : dstep false 10 = [10] := rfl
      simp only [go_sem, l23x0, b23, Try.f23, hd, hx, hr, hq, hw, ed, e13, e12, e0, n10, nl, app]
  have n10 : (x != 10) = true := by simp [h10]
  have e10 : (x == 10) = false := by simp [h10]
  by_cases h13 : x = 13
  · subst h13
    have e13 : ((13 : Int) == 13) = true := rfl
    have ed : dstep (last == 13) 13 = [10] := rfl
    simp only [go_sem, l23x0, b23, Try.f23, hd, hx, hr, hq, hw, ed, e13, n10, app]
  have e13 : (x == 13) = false := by simp [h13]
  by_cases h12 : x = 12
  · subst h12
    have e12 : ((12 : Int) == 12) = true := rfl
    have ed : dstep (last == 13) 12 = [10] := rfl
    simp only [go_sem, l23x0, b23, Try.f23, hd, hx, hr, hq, hw, ed, e13, n10, e12, app]
  have e12 : (x == 12) = false := by simp [h12]
  by_cases h0 : x = 0
  · subst h0
    have e0 : ((0 : Int) == 0) = true := rfl
    have ed : dstep (last == 13) 0 = [65533] := rfl
    simp only [go_sem, l23x0, b23, Try.f23, hd, hx, hr, hq, hw, ed, e13, n10, e12, e0, app]
  have e0 : (x == 0) = false := by simp [h0]
  have ed : dstep (last == 13) x = [x] := by simp [dstep, e10, e13, e12, e0]
  simp only [go_sem, l23x0, b23, Try.f23, hd, hx, hr, hq, hw, ed, e13, n10, e12, e0, app]

theorem loop23 {lo : Nat} {l : List Int} {h : Heap} (hl : l.length ≤ 1000000000) : ∀ (n i : Nat) (out : List Int) (last : Int), n = l.length - i → i ≤ l.length → out.length ≤ i →
   ∃ last' : Int, loopW (evCode ⟨Try.prog, E, lo, h.length, h23⟩ loopW l23x0) ([(3, .list .yes (ri .i32 out)), (4, .v (.int .i32 last)), (32, .list .no (ri .i32 l)), (33, .v (.int .i64 l.length)), (34, .v (.int .i64 i))], h) =
     some (.exit 0, [(3, .list .yes (ri .i32 (out ++ dec (last == 13) (l.drop i)))), (4, .v (.int .i32 last')), (32, .list .no (ri .i32 l)), (33, .v (.int .i64 l.length)), (34, .v (.int .i64 l.length)), (35, .v (.bool false))], h) := by
  intro n
  induction n with
  | zero =>
    intro i out last hn hi ho
    obtain rfl : i = l.length := by omega
    rw [loop_eq]
    have hd : decide ((l.length : Int) < l.length) = false := by simp
    refine ⟨last, ?_⟩
    simp only [go_sem, l23x0, b23, Try.f23, hd, List.drop_length, dec]
  | succ n ih =>
    intro i out last hn hi ho
    have hlt : i < l.length := by omega
    have hx : l[i]? = some l[i] := List.getElem?_eq_getElem hlt
    have he := dstep_len (last == 13) l[i]
    obtain ⟨b', hb⟩ := ih (i + 1) (out ++ dstep (last == 13) l[i]) l[i] (by omega) (by omega) (by rw [List.length_append]; omega)
    refine ⟨b', ?_⟩
    rw [loop_eq, round23 hx hlt hl (by omega), loop_n, hb, List.drop_eq_getElem_cons hlt, dec, List.append_assoc]

theorem raw_len' (b : List Int) : (raw b).length ≤ b.length := (raw_count b).1
theorem strip_len (b : List Int) : (strip b).length ≤ b.length := by
  unfold strip
  split
  · rw [List.length_drop]; omega
  · omega

/-- utf.Decode -/
theorem f22 {lo : Nat} {b : List Int} {h : Heap} (hb : b.length ≤ 1000000000) (hy : By b) : E lo 22 [.list .no (ri .u8 b)] h = some (.list .no (ri .i32 (Utf.decode b)), h) := by
  rw [e22 (by simp) (by rfl)]
  have hr := raw_len' (strip b)
  have hs := strip_len b
  have hf := fun lo h => f17 (lo := lo) (h := h) (b := strip b) (by omega) (strip_by hy)
  obtain ⟨q, hL⟩ := loop22 (lo := lo) (h := h) (l := raw (strip b)) (by omega) _ 0 [] false rfl (by omega) (by simp)
  simp only [l22x0, b22, Try.f22, loopAt, loops, bodyOf, go_sem, ri_nil, List.drop_zero] at hL
  rw [Utf.decode]
  by_cases h3 : 3 ≤ b.length
  · have t3 : decide ((3 : Int) ≤ b.length) = true := by simp; omega
    obtain ⟨a1, a2, a3, t, he⟩ : ∃ a1 a2 a3 t, b = a1 :: a2 :: a3 :: t := by
      match b, h3 with
      | a1 :: a2 :: a3 :: t, _ => exact ⟨_, _, _, _, rfl⟩
    have x1 : b[0]? = some a1 := by rw [he]; rfl
    have x2 : b[1]? = some a2 := by rw [he]; rfl
    have x3 : b[2]? = some a3 := by rw [he]; rfl
    have hv : bom b = (a1 == 239 && (a2 == 187 && a3 == 191)) := by rw [he]; simp [bom]
    cases hm : bom b with
    | true =>
      have hd : strip b = b.drop 3 := by rw [strip, if_pos hm]
      rw [hv] at hm
      simp only [Bool.and_eq_true] at hm
      rw [hd] at hf hL ⊢
      simp only [go_sem, b22, Try.f22, t3, x1, x2, x3, hm.1, hm.2.1, hm.2.2, ri_drop, ri_take, h3, Nat.le_refl, and_self, hf, hL]
    | false =>
      have hd : strip b = b := by rw [strip, if_neg (by simp [hm])]
      rw [hv] at hm
      rw [hd] at hf hL ⊢
      cases g1 : a1 == 239 with
      | false => simp only [go_sem, b22, Try.f22, t3, x1, x2, x3, g1, hf, hL]
      | true =>
        cases g2 : a2 == 187 with
        | false => simp only [go_sem, b22, Try.f22, t3, x1, x2, x3, g1, g2, hf, hL]
        | true =>
          cases g3 : a3 == 191 with
          | false => simp only [go_sem, b22, Try.f22, t3, x1, x2, x3, g1, g2, g3, hf, hL]
          | true => simp [g1, g2, g3] at hm
  · have t3 : decide ((3 : Int) ≤ b.length) = false := by simp; omega
    have hm : bom b = false := by
      match b, h3 with
      | [], _ => rfl
      | [_], _ => simp [bom]
      | [_, _], _ => simp [bom]
      | _ :: _ :: _ :: _, h3 => simp at h3
    have hd : strip b = b := by rw [strip, if_neg (by simp [hm])]
    rw [hd] at hf hL ⊢
    simp only [go_sem, b22, Try.f22, t3, hf, hL]

/-- jalousieref2.Decode -/
theorem f23 {lo : Nat} {b : List Int} {h : Heap} (hb : b.length ≤ 1000000000) (hy : By b) : E lo 23 [.list .no (ri .u8 b)] h = some (.list .no (ri .i32 (Utf.decode b)), h) := by
  rw [e23 (by simp) (by rfl)]
  have hr := raw_len' (strip b)
  have hs := strip_len b
  have hf := fun lo h => f18 (lo := lo) (h := h) (b := strip b) (by omega) (strip_by hy)
  obtain ⟨q, hL⟩ := loop23 (lo := lo) (h := h) (l := raw (strip b)) (by omega) _ 0 [] 0 rfl (by omega) (by simp)
  have z : ((0 : Int) == 13) = false := rfl
  simp only [l23x0, b23, Try.f23, loopAt, loops, bodyOf, go_sem, ri_nil, List.drop_zero, z] at hL
  rw [Utf.decode]
  by_cases h3 : 3 ≤ b.length
  · have t3 : decide ((3 : Int) ≤ b.length) = true := by simp; omega
    obtain ⟨a1, a2, a3, t, he⟩ : ∃ a1 a2 a3 t, b = a1 :: a2 :: a3 :: t := by
      match b, h3 with
      | a1 :: a2 :: a3 :: t, _ => exact ⟨_, _, _, _, rfl⟩
    have x1 : b[0]? = some a1 := by rw [he]; rfl
    have x2 : b[1]? = some a2 := by rw [he]; rfl
    have x3 : b[2]? = some a3 := by rw [he]; rfl
    have hv : bom b = (a1 == 239 && (a2 == 187 && a3 == 191)) := by rw [he]; simp [bom]
    cases hm : bom b with
    | true =>
      have hd : strip b = b.drop 3 := by rw [strip, if_pos hm]
      rw [hv] at hm
      simp only [Bool.and_eq_true] at hm
      rw [hd] at hf hL ⊢
      simp only [go_sem, b23, Try.f23, t3, x1, x2, x3, hm.1, hm.2.1, hm.2.2, ri_drop, ri_take, h3, Nat.le_refl, and_self, hf, hL]
    | false =>
      have hd : strip b = b := by rw [strip, if_neg (by simp [hm])]
      rw [hv] at hm
      rw [hd] at hf hL ⊢
      cases g1 : a1 == 239 with
      | false => simp only [go_sem, b23, Try.f23, t3, x1, x2, x3, g1, hf, hL]
      | true =>
        cases g2 : a2 == 187 with
        | false => simp only [go_sem, b23, Try.f23, t3, x1, x2, x3, g1, g2, hf, hL]
        | true =>
          cases g3 : a3 == 191 with
          | false => simp only [go_sem, b23, Try.f23, t3, x1, x2, x3, g1, g2, g3, hf, hL]
          | true => simp [g1, g2, g3] at hm
  · have t3 : decide ((3 : Int) ≤ b.length) = false := by simp; omega
    have hm : bom b = false := by
      match b, h3 with
      | [], _ => rfl
      | [_], _ => simp [bom]
      | [_, _], _ => simp [bom]
      | _ :: _ :: _ :: _, h3 => simp at h3
    have hd : strip b = b := by rw [strip, if_neg (by simp [hm])]
    rw [hd] at hf hL ⊢
    simp only [go_sem, b23, Try.f23, t3, hf, hL]
end Go.Lift.R1
