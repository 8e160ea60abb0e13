/- jalousieref4.letters. -/
import Derived.Test.YtehffjejplpaeaaGreatDoorGKc
import Derived.Test.YtehffjejplpaeaaGreatDoorGKd
set_option linter.unusedVariables false
set_option linter.unusedSimpArgs false
set_option linter.unusedSectionVars false
section
open Go.Proofs
namespace Go.Lift.P7
variable [MX]
open Utf Tok Spell
set_option maxRecDepth 20000
set_option maxHeartbeats 4000000
section
variable {lo : Nat} {h : Heap}
theorem f71 {x : Int} : E lo 71 [.list .no [[.v (.int .i32 x)]]] h = some (.v (.string (bs (enc (scal x)))), h) := by
 have k := fun lo h => f95 (lo := lo) (h := h) (l := [x]) (by simp)
 have e : ri .i32 [x] = [[V.v (.int .i32 x)]] := rfl
 have e2 : ([x].flatMap fun x => enc (scal x)) = enc (scal x) := by simp
 rw [e, e2] at k
 have e3 : (⟨(u8s (enc (scal x))).toArray⟩ : ByteArray) = bs (enc (scal x)) := rfl
 rw [e71 (by simp) (by rfl)]
 simp only [go_sem, b71, Tryz.f71, k, ri_bytes, e3]
 all_goals rfl
theorem hid_pos {x : Int} (h : hidT x = true) : 1 ≤ x := by
 unfold hidT at h
 simp at h
 omega
theorem loop43 (hlo : lo ≤ h.length) {l : List Int} (hl : l.length ≤ 10000000) (hs : ∀ x ∈ l, scal x = x) : ∀ (m k : Nat) (out : List Int), k + m = l.length → out.length + 10 * m ≤ 900000000 →
  loopW (evCode ⟨Tryz.prog, E, lo, h.length, h43⟩ loopW l43x0) ([(3, .v (.string (bs out))), (6, .list .no (ri .i32 l)), (7, .v (.int .i64 l.length)), (8, .v (.int .i64 k))], h) =
   some (.exit 0, [(3, .v (.string (bs (out ++ nameT (l.drop k))))), (6, .list .no (ri .i32 l)), (7, .v (.int .i64 l.length)), (8, .v (.int .i64 l.length)), (9, .v (.bool false))], h) := by
 intro m
 induction m with
 | zero =>
  intro k out hk _
  obtain rfl : k = l.length := by omega
  have q : decide ((l.length : Int) < (l.length : Int)) = false := by simp
  rw [loop_eq, List.drop_length]
  simp only [go_sem, l43x0, b43, Tryz.f43, q, nameT, List.append_nil]
  all_goals rfl
 | succ m ih =>
  intro k out hk ho
  have hlt : k < l.length := by omega
  have hg : l[k]? = some l[k] := List.getElem?_eq_getElem hlt
  have hd : l.drop k = l[k] :: l.drop (k + 1) := List.drop_eq_getElem_cons hlt
  have hx := hs l[k] (List.getElem_mem hlt)
  have q : decide ((k : Int) < (l.length : Int)) = true := by simp; omega
  have w1 : IntKind.i64.wrap ((k : Int) + 1) = ((k + 1 : Nat) : Int) := wrap_succ (by omega)
  rw [hd, nameT_cons]
  generalize l[k] = x at *
  have hx2 := scal_in x
  rw [hx] at hx2
  have hcl := nameC_len x
  have hel := enc_len (scal x)
  have er : evCode ⟨Tryz.prog, E, lo, h.length, h43⟩ loopW l43x0 ([(3, .v (.string (bs out))), (6, .list .no (ri .i32 l)), (7, .v (.int .i64 l.length)), (8, .v (.int .i64 k))], h) = some (.normal, [(3, .v (.string (bs (out ++ nameC x)))), (6, .list .no (ri .i32 l)), (7, .v (.int .i64 l.length)), (8, .v (.int .i64 (k + 1 : Nat)))], h) := by
   have k107 := fun lo h => f69 (lo := lo) (h := h) (c := x)
   have k75 := fun lo h => f70 (lo := lo) (h := h) (c := x)
   have k82 := fun lo h => f71 (lo := lo) (h := h) (x := x)
   unfold nameC
   cases qh : hidT x with
   | true =>
    rw [qh] at k107
    have k105 := fun lo hlo => f66 (lo := lo) (h := h) hlo (x := x) (hid_pos qh) (by omega)
    have ka := k105 lo hlo; have kb := k105 h.length (Nat.le_refl _)
    have z1 : (bs out).size + (bs (codeT x)).size ≤ 9223372036854775807 := by rw [bs_size, bs_size]; have := codeT_len x; omega
    simp only [go_sem, l43x0, b43, Tryz.f43, q, hg, w1, k107, ka, kb, bs_app, z1, if_true]
    all_goals rfl
   | false =>
    rw [qh] at k107
    cases ql : ltr x with
    | true =>
     rw [ql] at k75
     have z1 : (bs out).size + (bs (enc (scal x))).size ≤ 9223372036854775807 := by rw [bs_size, bs_size]; omega
     simp only [go_sem, l43x0, b43, Tryz.f43, q, hg, w1, k107, k75, k82, bs_app, z1, if_true, Bool.false_eq_true, if_false]
     all_goals rfl
    | false =>
     rw [ql] at k75
     have z1 : (bs [92]).size + (bs (enc (scal x))).size ≤ 9223372036854775807 := by rw [bs_size, bs_size]; simp; omega
     have z2 : (bs out).size + (bs (92 :: enc (scal x))).size ≤ 9223372036854775807 := by rw [bs_size, bs_size]; simp; omega
     simp only [go_sem, l43x0, b43, Tryz.f43, q, hg, w1, k107, k75, k82, bs_92, bs_app, z1, z2, List.singleton_append, Bool.false_eq_true, if_false]
     all_goals rfl
  rw [loop_eq, er, loop_n, ih (k + 1) _ (by omega) (by simp; omega), List.append_assoc]
theorem f43 (hlo : lo ≤ h.length) {l : List Int} (hl : l.length ≤ 10000000) (hs : ∀ x ∈ l, scal x = x) : E lo 43 [.list .no (ri .i32 l)] h = some (.v (.string (bs (nameT l))), h) := by
 have hL := loop43 (lo := lo) (h := h) hlo hl hs l.length 0 [] (by omega) (by simp; omega)
 have n0 : ((0 : Nat) : Int) = 0 := rfl
 have be : bs [] = (⟨#[]⟩ : ByteArray) := rfl
 rw [List.drop_zero, List.nil_append, be, n0] at hL
 simp only [l43x0, b43, Tryz.f43, loopAt, loops, bodyOf, go_sem] at hL
 rw [e43 (by simp) (by rfl)]
 simp only [go_sem, b43, Tryz.f43, hL]
 all_goals rfl
end
end Go.Lift.P7
end

section
namespace Go.Lift.Spell
open Utf Tok
theorem by_nil : By [] := fun c hc => by cases hc
theorem by_app {a b : List Int} (ha : By a) (hb : By b) : By (a ++ b) := fun c hc => by
 rcases List.mem_append.1 hc with h | h
 ·exact ha c h
 ·exact hb c h
theorem by_cons {x : Int} {b : List Int} (h0 : 0 ≤ x) (h1 : x ≤ 255) (hb : By b) : By (x :: b) := fun c hc => by
 rcases List.mem_cons.1 hc with rfl | h
 ·exact ⟨h0, h1⟩
 ·exact hb c h
def textC (sg : List Int) (sp : Bool) (x : Int) : List Int :=
 if (hidT x || (sp && x == 32)) = true then codeT x else if sg.contains x = true then 92 :: enc (scal x) else enc (scal x)
def textT (sg : List Int) (sp : Bool) : List Int → List Int
 | [] => []
 | x :: l => textC sg sp x ++ textT sg sp l
theorem textC_len (sg : List Int) (sp : Bool) (x : Int) : (textC sg sp x).length ≤ 10 := by
 unfold textC
 have := enc_len (scal x)
 split
 ·exact codeT_len x
 ·split
  ·simp; omega
  ·omega
theorem enc_scal_by (x : Int) : By (enc (scal x)) := by
 have hs := scal_in x
 exact enc_by (scal x) hs.1 hs.2
theorem textC_by (sg : List Int) (sp : Bool) (x : Int) : By (textC sg sp x) := by
 unfold textC
 split
 ·exact codeT_by x
 ·split
  ·exact by_cons (by omega) (by omega) (enc_scal_by x)
  ·exact enc_scal_by x
theorem textT_len (sg : List Int) (sp : Bool) : ∀ l : List Int, (textT sg sp l).length ≤ 10 * l.length
 | [] => by simp [textT]
 | x :: l => by
  have := textC_len sg sp x
  have := textT_len sg sp l
  simp only [textT, List.length_append, List.length_cons]
  omega
theorem textT_by (sg : List Int) (sp : Bool) : ∀ l : List Int, By (textT sg sp l)
 | [] => by_nil
 | x :: l => by_app (textC_by sg sp x) (textT_by sg sp l)
theorem identT_by (l : List Int) : By (identT l) := by
 unfold identT
 split
 ·exact by_cons (by omega) (by omega) (by_cons (by omega) (by omega) by_nil)
 ·split
  ·exact by_nil
  ·split
   ·exact by_app (codeT_by _) (nameT_by _)
   ·split
    ·exact nameT_by _
    ·split
     ·exact by_cons (by omega) (by omega) (by_app (codeT_by _) (nameT_by _))
     ·exact nameT_by _
theorem identT_len (l : List Int) : (identT l).length ≤ 10 * l.length + 1 := by
 unfold identT
 split
 ·rename_i h
  subst h
  simp
 ·split
  ·simp
  ·rename_i x t _
   split
   ·have := codeT_len x
    have := nameT_len t
    simp only [List.length_append, List.length_cons]
    omega
   ·split
    ·have := nameT_len [x]
     omega
    ·rename_i y u _
     split
     ·have := codeT_len y
      have := nameT_len u
      simp only [List.length_append, List.length_cons]
      omega
     ·have := nameT_len (x :: y :: u)
      omega
def expT (l : List Int) : Bool := match l with
 | [] => false
 | y :: u => dig y || y == 45 && (match u with
  | [] => false
  | z :: _ => dig z)
def unitT (l : List Int) : List Int := match l with
 | [] => []
 | x :: t => if ((x == 101 || x == 69) && expT t) = true then codeT x ++ nameT t else identT (x :: t)
theorem unitT_by (l : List Int) : By (unitT l) := by
 unfold unitT
 split
 ·exact by_nil
 ·split
  ·exact by_app (codeT_by _) (nameT_by _)
  ·exact identT_by _
theorem unitT_len (l : List Int) : (unitT l).length ≤ 10 * l.length + 1 := by
 unfold unitT
 split
 ·simp
 ·rename_i x t
  split
  ·have := codeT_len x
   have := nameT_len t
   simp only [List.length_append, List.length_cons]
   omega
  ·exact identT_len _
theorem exp_encs (l : List Int) (h : ∀ x ∈ l, scal x = x) : expT (encs l) = expT l := by
 cases l with
 | nil => rfl
 | cons x t =>
  have hs := h x (by simp)
  have hb := scal_in x
  rw [hs] at hb
  rw [encs_cons, hs]
  by_cases h1 : x < 128
  ·rw [enc_low h1]
   simp only [List.cons_append, List.nil_append, expT]
   congr 2
   cases t with
   | nil => rfl
   | cons y u =>
    have hs2 := h y (by simp)
    have hb2 := scal_in y
    rw [hs2] at hb2
    rw [encs_cons, hs2]
    by_cases h2 : y < 128
    ·rw [enc_low h2]; rfl
    ·obtain ⟨c, v, e, _, hh⟩ := enc_high (by omega) hb2.2
     rw [e]
     simp only [List.cons_append]
     rw [dig_high (hh c (by rw [e]; simp)), dig_high (x := y) (by omega)]
  ·obtain ⟨c, v, e, _, hh⟩ := enc_high (by omega) hb.2
   have hc := hh c (by rw [e]; simp)
   rw [e]
   simp only [List.cons_append, expT]
   have e1 : (x == 45) = false := by simp; omega
   have e2 : (c == 45) = false := by simp; omega
   rw [dig_high hc, dig_high (x := x) (by omega), e1, e2]
   rfl
def fixT (k : Int) : List Int :=
 if k = 6 then [34, 10] else if k = 8 then [117, 114, 108, 40, 40, 41] else if k = 13 then [32] else if k = 14 then [60, 33, 45, 45] else if k = 15 then [45, 45, 62]
 else if k = 16 then [58] else if k = 17 then [59] else if k = 18 then [44] else if k = 19 then [91] else if k = 20 then [93] else if k = 21 then [40] else if k = 22 then [41] else if k = 23 then [123] else if k = 24 then [125] else []
def tokenT (k : Int) (b : List Int) (n d : Int) (w i : Bool) : List Int :=
 if k = 1 then identT (raw b)
 else if k = 2 then identT (raw b) ++ [40]
 else if k = 3 then 64 :: identT (raw b)
 else if k = 4 then 35 :: (if i = true then identT (raw b) else nameT (raw b))
 else if k = 5 then 34 :: (textT [34, 92] false (raw b) ++ [34])
 else if k = 7 then 117 :: 114 :: 108 :: 40 :: (textT [34, 39, 40, 41, 92] true (raw b) ++ [41])
 else if k = 9 then (if b = [92] then [92, 10] else b)
 else if k = 10 then (plainT n d w).getD []
 else if k = 11 then (plainT n d w).getD [] ++ [37]
 else if k = 12 then (plainT n d w).getD [] ++ unitT (raw b)
 else fixT k
theorem fix_cases (k : Int) : (k = 6 ∨ k = 8 ∨ k = 13 ∨ k = 14 ∨ k = 15 ∨ k = 16 ∨ k = 17 ∨ k = 18 ∨ k = 19 ∨ k = 20 ∨ k = 21 ∨ k = 22 ∨ k = 23 ∨ k = 24) ∨ fixT k = [] := by
 by_cases h : k = 6 ∨ k = 8 ∨ k = 13 ∨ k = 14 ∨ k = 15 ∨ k = 16 ∨ k = 17 ∨ k = 18 ∨ k = 19 ∨ k = 20 ∨ k = 21 ∨ k = 22 ∨ k = 23 ∨ k = 24
 ·exact .inl h
 ·refine .inr ?_
  simp only [not_or] at h
  simp [fixT, h]
theorem fixT_by (k : Int) : By (fixT k) := by
 have : ∀ l : List Int, (l.all fun c => decide (0 ≤ c) && decide (c ≤ 255)) = true → By l := fun l h c hc => by
  have := List.all_eq_true.1 h c hc
  simp at this
  exact this
 rcases fix_cases k with (rfl | rfl | rfl | rfl | rfl | rfl | rfl | rfl | rfl | rfl | rfl | rfl | rfl | rfl) | h
 all_goals first
  | exact this _ rfl
  | (rw [h]; exact by_nil)
theorem fixT_len (k : Int) : (fixT k).length ≤ 6 := by
 rcases fix_cases k with (rfl | rfl | rfl | rfl | rfl | rfl | rfl | rfl | rfl | rfl | rfl | rfl | rfl | rfl) | h
 all_goals first
  | decide
  | (rw [h]; decide)
theorem raw_len (b : List Int) : (raw b).length ≤ b.length := (raw_count b).1
theorem tokenT_by {k : Int} {b : List Int} {n d : Int} {w i : Bool} (hy : By b) (hp : By ((plainT n d w).getD [])) : By (tokenT k b n d w i) := by
 unfold tokenT
 have h1 : ∀ x : Int, 0 ≤ x → x ≤ 255 → By [x] := fun x h0 h1 => by_cons h0 h1 by_nil
 repeat' split
 all_goals first
  | exact identT_by _
  | exact by_app (identT_by _) (h1 _ (by omega) (by omega))
  | exact by_cons (by omega) (by omega) (identT_by _)
  | exact by_cons (by omega) (by omega) (nameT_by _)
  | exact by_cons (by omega) (by omega) (by_app (textT_by _ _ _) (h1 _ (by omega) (by omega)))
  | exact by_cons (by omega) (by omega) (by_cons (by omega) (by omega) (by_cons (by omega) (by omega) (by_cons (by omega) (by omega) (by_app (textT_by _ _ _) (h1 _ (by omega) (by omega))))))
  | exact by_cons (by omega) (by omega) (h1 _ (by omega) (by omega))
  | exact hy
  | exact hp
  | exact by_app hp (h1 _ (by omega) (by omega))
  | exact by_app hp (unitT_by _)
  | exact fixT_by _
theorem tokenT_len {k : Int} {b : List Int} {n d : Int} {w i : Bool} (hp : ((plainT n d w).getD []).length ≤ 200) : (tokenT k b n d w i).length ≤ 10 * b.length + 300 := by
 have h1 := identT_len (raw b)
 have h2 := nameT_len (raw b)
 have h3 := textT_len [34, 92] false (raw b)
 have h4 := textT_len [34, 39, 40, 41, 92] true (raw b)
 have h5 := unitT_len (raw b)
 have h6 := fixT_len k
 have h7 := raw_len b
 unfold tokenT
 repeat' split
 all_goals (try simp only [List.length_append, List.length_cons, List.length_nil])
 all_goals omega
end Go.Lift.Spell
end

section
open Go.Proofs
namespace Go.Lift.P7
variable [MX]
open Utf Tok Spell
set_option maxRecDepth 20000
set_option maxHeartbeats 4000000
theorem enc_utf {x : Int} (hs : scal x = x) : Utf8.encode x = bs (enc x) := by
 obtain ⟨h0, h1, h2⟩ := (scal_iff x).1 hs
 obtain ⟨n, rfl⟩ : ∃ n : Nat, x = n := ⟨x.toNat, by omega⟩
 have hv : Utf8.valid (n : Int) = true := by simp [Utf8.valid]; omega
 have hn : ((n : Int)).toNat = n := by omega
 unfold Utf8.encode enc
 simp only [hv, hn, if_true]
 by_cases c1 : n < 128
 ·rw [if_pos c1, if_pos (show (n : Int) < 128 by omega)]
  rfl
 rw [if_neg c1, if_neg (show ¬ (n : Int) < 128 by omega)]
 by_cases c2 : n < 2048
 ·rw [if_pos c2, if_pos (show (n : Int) < 2048 by omega)]
  show _ = (⟨#[UInt8.ofNat (192 + (n : Int) / 64).toNat, UInt8.ofNat (128 + (n : Int) % 64).toNat]⟩ : ByteArray)
  rw [show (192 + (n : Int) / 64).toNat = 192 + n / 64 by omega, show (128 + (n : Int) % 64).toNat = 128 + n % 64 by omega]
 rw [if_neg c2, if_neg (show ¬ (n : Int) < 2048 by omega)]
 by_cases c3 : n < 65536
 ·rw [if_pos c3, if_pos (show (n : Int) < 65536 by omega)]
  show _ = (⟨#[UInt8.ofNat (224 + (n : Int) / 4096).toNat, UInt8.ofNat (128 + (n : Int) / 64 % 64).toNat, UInt8.ofNat (128 + (n : Int) % 64).toNat]⟩ : ByteArray)
  rw [show (224 + (n : Int) / 4096).toNat = 224 + n / 4096 by omega, show (128 + (n : Int) / 64 % 64).toNat = 128 + n / 64 % 64 by omega, show (128 + (n : Int) % 64).toNat = 128 + n % 64 by omega]
 ·rw [if_neg c3, if_neg (show ¬ (n : Int) < 65536 by omega)]
  show _ = (⟨#[UInt8.ofNat (240 + (n : Int) / 262144).toNat, UInt8.ofNat (128 + (n : Int) / 4096 % 64).toNat, UInt8.ofNat (128 + (n : Int) / 64 % 64).toNat, UInt8.ofNat (128 + (n : Int) % 64).toNat]⟩ : ByteArray)
  rw [show (240 + (n : Int) / 262144).toNat = 240 + n / 262144 by omega, show (128 + (n : Int) / 4096 % 64).toNat = 128 + n / 4096 % 64 by omega, show (128 + (n : Int) / 64 % 64).toNat = 128 + n / 64 % 64 by omega, show (128 + (n : Int) % 64).toNat = 128 + n % 64 by omega]
theorem index_none {c : UInt8} {r : List UInt8} : ∀ {s : List UInt8}, (∀ x ∈ s, x ≠ c) → Go.Lib.index s (c :: r) = -1
 | [], _ => rfl
 | b :: l, h => by
  have hb : (c == b) = false := by
   have := h b (by simp)
   simp
   exact fun e => this e.symm
  unfold Go.Lib.index
  rw [index_none fun x hx => h x (by simp [hx])]
  simp [List.isPrefixOf, hb]
section
variable {lo : Nat} {h : Heap}
theorem f92x {l : List Int} (hy : ∀ c ∈ l, 0 ≤ c ∧ c < 128) (hl : l.length ≤ 1000000) {x : Int} (hs : scal x = x) :
  E lo 60 [.v (.string (bs l)), .v (.string (bs (enc x)))] h = some (.v (.bool (l.contains x)), h) := by
 obtain ⟨h0, h1, _⟩ := (scal_iff x).1 hs
 have hby : By l := fun c hc => by have := hy c hc; omega
 by_cases hx : x < 128
 ·rw [enc_low hx]
  exact f60 hby (by omega) (by omega)
 ·obtain ⟨c, t, e, ht, hh⟩ := enc_high (x := x) (by omega) h1
  have hb := enc_by x h0 h1
  rw [e] at hh hb ⊢
  have hc := hh c (by simp)
  have hc2 := hb c (by simp)
  have hn : l.contains x = false := by
   rw [Bool.eq_false_iff]
   intro hcon
   have := hy x (by simpa using hcon)
   omega
  obtain ⟨d, u, rfl⟩ : ∃ d u, t = d :: u := by
   cases t with
   | nil => exact absurd rfl ht
   | cons d u => exact ⟨d, u, rfl⟩
  have hix : Go.Lib.index (bs l).data.toList (bs (c :: d :: u)).data.toList = -1 := by
   show Go.Lib.index (u8s l) (UInt8.ofNat c.toNat :: u8s (d :: u)) = -1
   refine index_none fun y hy2 => ?_
   simp only [u8s, List.mem_map] at hy2
   obtain ⟨z, hz, rfl⟩ := hy2
   have := hy z hz
   intro he
   have := congrArg UInt8.toNat he
   simp only [UInt8.toNat_ofNat'] at this
   omega
  have k159 : ∀ lo h, E lo 108 [.v (.string (bs l)), .v (.string (bs (c :: d :: u)))] h = some (.v (.int .i64 (-1)), h) := fun lo h => by
   show ev Tryz.prog hints primz lo 108 _ h = _
   rw [ev_prim (p := ixP) rfl]
   unfold ixP
   have e2 : (bs (c :: d :: u)).data.toList = UInt8.ofNat c.toNat :: UInt8.ofNat d.toNat :: u8s u := rfl
   simp only [hix]
   rw [e2]
   simp only
   rw [if_pos (by rw [bs_size]; omega)]
  have k127 : ∀ lo h, E lo 88 [.v (.string (bs l)), .v (.string (bs (c :: d :: u)))] h = some (.v (.int .i64 (-1)), h) := fun lo h => by
   rw [e88 (by simp) (by rfl)]
   simp only [go_sem, b88, Tryz.f88, k159]
   all_goals rfl
  have q : decide ((0 : Int) ≤ -1) = false := rfl
  rw [e60 (by simp) (by rfl), hn]
  simp only [go_sem, b60, Tryz.f60, k127, q]
  all_goals rfl
end
end Go.Lift.P7
end

section
open Go.Proofs
namespace Go.Lift.P7
variable [MX]
open Utf Tok Spell
set_option maxRecDepth 20000
set_option maxHeartbeats 4000000
section
variable {lo : Nat} {h : Heap} {done : List Int} {p0 : V} {out sg : List Int} {sp : Bool} {x : Int} {s : ByteArray} {pos : Nat}
abbrev N35 (h : Heap) (sg : List Int) (sp : Bool) : Env := [(1, .v (.string (bs sg))), (2, .v (.bool sp)), (7, .ptr h.length 0), (11, .ptr (h.length + 1) 0)]
theorem round54 (hlo : lo ≤ h.length) (hp : okP h.length p0 = true) (hsg : ∀ c ∈ sg, 0 ≤ c ∧ c < 128) (hsl : sg.length ≤ 1000000) (hs : scal x = x) (hpos : pos < s.size) (hdec : Utf8.decode s pos = (x.toNat, (enc (scal x)).length)) (hl : out.length ≤ 900000000) :
  evCode ⟨Tryz.prog, E, lo, h.length, h54⟩ loopW l54x0 (N35 h sg sp, H34 h p0 out s pos) =
   some (.normal, N35 h sg sp, H34 h (.ptr h.length 0) (out ++ textC sg sp x) s (pos + (enc (scal x)).length)) := by
 obtain ⟨hx0, hx1, _⟩ := (scal_iff x).1 hs
 have hlo1 : lo ≤ h.length + 1 := by omega
 have hxn : ((x.toNat : Nat) : Int) = x := by omega
 have hcl := codeT_len x
 have hel := enc_len (scal x)
 have c87 := fun lo hlo => f74 (lo := lo) (h := H34 h p0 out s (pos + (enc (scal x)).length)) hlo hx0 (r := x) (by omega)
 have c87a := c87 lo (by simp; omega)
 have c87b := c87 h.length (by simp)
 have c87c := c87 (h.length + 2) (by simp)
 have c48 := fun lo hlo => f30 (lo := lo) (p := h) (q := [.iter s (pos + (enc (scal x)).length)]) (p0 := p0) (out := out) hlo hp (s := codeT x) (codeT_by x) (by omega) (by omega)
 have c90 := fun lo hlo => f77 (lo := lo) (p := h) (q := [.iter s (pos + (enc (scal x)).length)]) (p0 := p0) (out := out) hlo hp (r := x) (by omega) (by omega) (by omega)
 have c91 := fun lo hlo => f78 (lo := lo) (p := h) (q := [.iter s (pos + (enc (scal x)).length)]) (p0 := p0) (out := out) hlo hp (c := 92) (by omega)
 have c92 := fun lo hlo => f77 (lo := lo) (p := h) (q := [.iter s (pos + (enc (scal x)).length)]) (p0 := .ptr h.length 0) (out := out ++ [92]) hlo ok_self (r := x) (by omega) (by omega) (by simp; omega)
 have c48a := c48 lo hlo; have c48b := c48 h.length (Nat.le_refl _)
 have c90a := c90 lo hlo; have c90b := c90 h.length (Nat.le_refl _)
 have c91a := c91 lo hlo; have c91b := c91 h.length (Nat.le_refl _)
 have c92a := c92 lo hlo; have c92b := c92 h.length (Nat.le_refl _)
 clear c87 c48 c90 c91 c92
 have e1 : (Utf8.decode s pos).1 = x.toNat := by rw [hdec]
 have e2 : (Utf8.decode s pos).2 = (enc (scal x)).length := by rw [hdec]
 have eu : Utf8.encode x = bs (enc (scal x)) := by rw [enc_utf hs, hs]
 have k88 := fun lo h => f75 (lo := lo) (h := h) (c := x)
 have k92 := fun lo h => f92x (lo := lo) (h := h) hsg hsl hs
 have e3 : out ++ [92] ++ enc (scal x) = out ++ 92 :: enc (scal x) := by simp
 rw [e3] at c92a c92b
 have hsx := hs
 rw [← hs] at k92
 rw [hs] at k92
 have ks : ∀ lo h, E lo 60 [.v (.string (bs sg)), .v (.string (bs (enc (scal x))))] h = some (.v (.bool (sg.contains x)), h) := fun lo h => by
  have := k92 lo h
  rw [hs]
  exact this
 clear k92
 unfold textC
 cases qh : hidT x with
 | true =>
  rw [qh] at k88
  simp only [go_sem, l54x0, b54, Tryz.f54, hlo, hlo1, hpos, e1, e2, hxn, k88, c87a, c87b, c87c, c48a, c48b, if_true]
  all_goals rfl
 | false =>
  rw [qh] at k88
  cases sp with
  | true =>
   cases q32 : (x == 32) with
   | true =>
    simp only [go_sem, l54x0, b54, Tryz.f54, hlo, hlo1, hpos, e1, e2, hxn, k88, q32, c87a, c87b, c87c, c48a, c48b, if_true]
    all_goals rfl
   | false =>
    cases qc : sg.contains x with
    | true =>
     rw [qc] at ks
     simp only [go_sem, l54x0, b54, Tryz.f54, hlo, hlo1, hpos, e1, e2, hxn, k88, q32, eu, ks, c91a, c91b, c92a, c92b, if_true, Bool.false_eq_true, if_false]
     all_goals rfl
    | false =>
     rw [qc] at ks
     simp only [go_sem, l54x0, b54, Tryz.f54, hlo, hlo1, hpos, e1, e2, hxn, k88, q32, eu, ks, c90a, c90b, if_true, Bool.false_eq_true, if_false]
     all_goals rfl
  | false =>
   cases qc : sg.contains x with
   | true =>
    rw [qc] at ks
    simp only [go_sem, l54x0, b54, Tryz.f54, hlo, hlo1, hpos, e1, e2, hxn, k88, eu, ks, c91a, c91b, c92a, c92b, if_true, Bool.false_eq_true, if_false]
    all_goals rfl
   | false =>
    rw [qc] at ks
    simp only [go_sem, l54x0, b54, Tryz.f54, hlo, hlo1, hpos, e1, e2, hxn, k88, eu, ks, c90a, c90b, if_true, Bool.false_eq_true, if_false]
    all_goals rfl
theorem stop54 (hlo : lo ≤ h.length) (hpos : ¬ pos < s.size) :
  loopW (evCode ⟨Tryz.prog, E, lo, h.length, h54⟩ loopW l54x0) (N35 h sg sp, H34 h p0 out s pos) =
   some (.exit 0, N35 h sg sp ++ [(12, .tup [.v (.bool false)]), (13, .v (.bool false))], H34 h p0 out s pos) := by
 have hlo1 : lo ≤ h.length + 1 := by omega
 rw [loop_eq]
 simp only [go_sem, l54x0, b54, Tryz.f54, hlo, hlo1, hpos]
 all_goals rfl
theorem loop54 (hlo : lo ≤ h.length) (hsg : ∀ c ∈ sg, 0 ≤ c ∧ c < 128) (hsl : sg.length ≤ 1000000) : ∀ (l : List Int) (done : List Int) (p0 : V) (out : List Int), (∀ x ∈ l, scal x = x) → okP h.length p0 = true → out.length + 10 * l.length ≤ 900000000 →
  ∃ p1, okP h.length p1 = true ∧ loopW (evCode ⟨Tryz.prog, E, lo, h.length, h54⟩ loopW l54x0) (N35 h sg sp, H34 h p0 out (bs (done ++ encs l)) done.length) =
   some (.exit 0, N35 h sg sp ++ [(12, .tup [.v (.bool false)]), (13, .v (.bool false))], H34 h p1 (out ++ textT sg sp l) (bs (done ++ encs l)) (done ++ encs l).length) := by
 intro l
 induction l with
 | nil =>
  intro done p0 out _ hp _
  refine ⟨p0, hp, ?_⟩
  have e : done ++ encs [] = done := by simp [encs]
  rw [e, stop54 hlo (by rw [bs_size]; omega)]
  simp [textT]
 | cons x l ih =>
  intro done p0 out hs hp hl
  have hx := hs x (by simp)
  have hel := enc_len x
  have hcl := textC_len sg sp x
  have hdec := dec_enc (pre := done) (rest := encs l) hx
  have e1 : encs (x :: l) = enc x ++ encs l := by rw [encs_cons, hx]
  simp only [List.length_cons] at hl
  obtain ⟨p1, hp1, hL⟩ := ih (done ++ enc x) (.ptr h.length 0) (out ++ textC sg sp x) (fun y hy => hs y (by simp [hy])) ok_self (by simp; omega)
  refine ⟨p1, hp1, ?_⟩
  rw [e1, ← List.append_assoc]
  rw [← List.append_assoc] at hdec
  rw [loop_eq, round54 hlo hp hsg hsl hx (by rw [bs_size]; simp; omega) (by rw [hdec, hx]) (by omega), loop_n, hx]
  have e3 : done.length + (enc x).length = (done ++ enc x).length := by simp
  have e4 : textT sg sp (x :: l) = textC sg sp x ++ textT sg sp l := rfl
  rw [e3, hL, e4, List.append_assoc]
theorem f54 (hlo : lo ≤ h.length) (hsg : ∀ c ∈ sg, 0 ≤ c ∧ c < 128) (hsl : sg.length ≤ 1000000) {l : List Int} (hs : ∀ x ∈ l, scal x = x) (hl : l.length ≤ 10000000) :
  E lo 54 [.v (.string (bs (encs l))), .v (.string (bs sg)), .v (.bool sp)] h = some (.v (.string (bs (textT sg sp l))), h) := by
 have hlen := textT_len sg sp l
 obtain ⟨p1, hp1, hL⟩ := loop54 (lo := lo) (h := h) (sp := sp) hlo hsg hsl l [] (.v (.pointer none)) [] hs rfl (by simp; omega)
 rw [List.nil_append, List.nil_append, List.length_nil] at hL
 have k := fun lo hlo => f31 (lo := lo) (p := h) (q := [.iter (bs (encs l)) (encs l).length]) (p0 := p1) (out := textT sg sp l) hlo (textT_by sg sp l) (by omega)
 have ka := k lo hlo; have kb := k h.length (Nat.le_refl _)
 simp only [l54x0, b54, Tryz.f54, loopAt, loops, bodyOf, go_sem, ri_nil, H34, N35, List.cons_append, List.nil_append] at hL
 rw [e54 (by simp) (by rfl)]
 simp only [go_sem, b54, Tryz.f54, hlo, hL, ka, kb]
 all_goals rfl
end
end Go.Lift.P7
end

section
open Go.Proofs
namespace Go.Lift.P7
variable [MX]
open Utf Tok Spell
set_option maxRecDepth 20000
set_option maxHeartbeats 4000000
section
variable {lo : Nat} {h : Heap} {l : List Int}
theorem bs_9245 : (⟨#[92, 45]⟩ : ByteArray) = bs [92, 45] := rfl
theorem encs_len (l : List Int) : (encs l).length ≤ 4 * l.length := by
 induction l with
 | nil => simp [encs]
 | cons x l ih =>
  rw [encs_cons, List.length_append, List.length_cons]
  have := enc_len (scal x)
  omega
theorem chars42 (hs : ∀ x ∈ l, scal x = x) (h0 : l.contains 0 = false) (hl : l.length ≤ 10000000) : E lo 42 [.v (.string (bs (encs l)))] h = some (.tup [.list .no (ri .i32 l), .v (.bool true)], h) := by
 have k := f42 (lo := lo) (h := h) (l := encs l) (encs_by l) (by have := encs_len l; omega)
 have e1 : charsL (encs l) = l := by
  unfold charsL
  rw [charsOk hs, h0, if_neg (by simp)]
 have e2 : sound (encs l) = true := by
  unfold sound
  rw [(raw_encs l).2, zero_encs l hs, h0]
  rfl
 rw [k, e1, e2]
theorem f41 (hlo : lo ≤ h.length) (hs : ∀ x ∈ l, scal x = x) (h0 : l.contains 0 = false) (hl : l.length ≤ 10000000) : E lo 41 [.v (.string (bs (encs l)))] h = some (.v (.string (bs (identT l))), h) := by
 have k42 := fun lo h => chars42 (lo := lo) (h := h) hs h0 hl
 have hb := bs_beq (encs_by l) by_45
 have k43 := fun lo hlo => f43 (lo := lo) (h := h) hlo hl hs
 have k43a := k43 lo hlo; have k43b := k43 h.length (Nat.le_refl _)
 clear k43
 rw [e41 (by simp) (by rfl)]
 by_cases h45 : l = [45]
 ·have q : (encs l == [45]) = true := by rw [beq_iff_eq]; exact (encs_one hs).2 h45
  rw [q] at hb
  have e : identT l = [92, 45] := by unfold identT; rw [if_pos h45]
  rw [e]
  simp only [go_sem, b41, Tryz.f41, k42, bs_45', hb, bs_9245]
  all_goals rfl
 have q : (encs l == [45]) = false := by rw [beq_eq_false_iff_ne]; exact fun h => h45 ((encs_one hs).1 h)
 rw [q] at hb
 have hby : ∀ t : List Int, (nameT t).length ≤ 10 * t.length := nameT_len
 cases l with
 | nil =>
  have q1 : decide ((0 : Int) < 0) = false := rfl
  have q2 : decide ((1 : Int) < 0) = false := rfl
  have e : identT [] = nameT [] := rfl
  rw [ri_nil] at k43a k43b k42
  rw [e]
  simp only [go_sem, b41, Tryz.f41, k42, bs_45', hb, q1, q2, k43a, k43b]
  all_goals rfl
 | cons x t =>
  have hx := scal_in x
  rw [hs x (by simp)] at hx
  have hst : ∀ y ∈ t, scal y = y := fun y hy => hs y (by simp [hy])
  have g0 : (x :: t)[0]? = some x := rfl
  have p1 : decide ((0 : Int) < ((x :: t).length : Int)) = true := by rw [decide_eq_true_iff]; simp only [List.length_cons]; omega
  have p2 : 1 ≤ (x :: t).length := by simp
  have ed : (x :: t).drop 1 = t := rfl
  have k100 := fun lo h => f61 (lo := lo) (h := h) (x := x)
  simp only [List.length_cons] at hl
  cases qd : dig x with
  | true =>
   rw [qd] at k100
   have hx1 : 1 ≤ x := by simp [dig] at qd; omega
   have k105 := fun lo hlo => f66 (lo := lo) (h := h) hlo (x := x) hx1 (by omega)
   have k105a := k105 lo hlo; have k105b := k105 h.length (Nat.le_refl _)
   have kt := fun lo hlo => f43 (lo := lo) (h := h) hlo (l := t) (by omega) hst
   have kta := kt lo hlo; have ktb := kt h.length (Nat.le_refl _)
   have e : identT (x :: t) = codeT x ++ nameT t := by unfold identT; rw [if_neg h45]; simp only [qd, if_true]
   have z1 : (bs (codeT x)).size + (bs (nameT t)).size ≤ 9223372036854775807 := by rw [bs_size, bs_size]; have := codeT_len x; have := hby t; omega
   rw [e]
   clear k43a k43b
   generalize x :: t = M at *
   simp only [go_sem, b41, Tryz.f41, k42, bs_45', hb, p1, g0, k100, k105a, k105b, p2, Nat.le_refl, ri_drop, ri_take, ed, kta, ktb, bs_app, z1]
   all_goals rfl
  | false =>
   rw [qd] at k100
   cases t with
   | nil =>
    have p3 : decide ((1 : Int) < (([x] : List Int).length : Int)) = false := rfl
    have e : identT [x] = nameT [x] := by unfold identT; rw [if_neg h45]; simp only [qd, Bool.false_eq_true, if_false]
    rw [e]
    generalize [x] = M at *
    simp only [go_sem, b41, Tryz.f41, k42, bs_45', hb, p1, g0, k100, p3, k43a, k43b]
    all_goals rfl
   | cons y u =>
    have hy := scal_in y
    rw [hs y (by simp)] at hy
    have p3 : decide ((1 : Int) < ((x :: y :: u).length : Int)) = true := by simp; omega
    have g1 : (x :: y :: u)[1]? = some y := rfl
    have k100y := fun lo h => f61 (lo := lo) (h := h) (x := y)
    have e0 : identT (x :: y :: u) = if x = 45 ∧ dig y = true then 45 :: (codeT y ++ nameT u) else nameT (x :: y :: u) := by unfold identT; rw [if_neg h45]; simp only [qd, Bool.false_eq_true, if_false]
    cases qx : (x == 45) with
    | false =>
     have e : identT (x :: y :: u) = nameT (x :: y :: u) := by rw [e0, if_neg]; simp at qx; simp [qx]
     rw [e]
     generalize x :: y :: u = M at *
     simp only [go_sem, b41, Tryz.f41, k42, bs_45', hb, p1, g0, k100, p3, qx, k43a, k43b]
     all_goals rfl
    | true =>
     cases qy : dig y with
     | false =>
      rw [qy] at k100y
      have e : identT (x :: y :: u) = nameT (x :: y :: u) := by rw [e0, if_neg]; simp [qy]
      rw [e]
      generalize x :: y :: u = M at *
      simp only [go_sem, b41, Tryz.f41, k42, bs_45', hb, p1, g0, g1, k100, p3, qx, k100y, k43a, k43b]
      all_goals rfl
     | true =>
      rw [qy] at k100y
      have hy1 : 1 ≤ y := by simp [dig] at qy; omega
      have e : identT (x :: y :: u) = 45 :: (codeT y ++ nameT u) := by rw [e0, if_pos ⟨by simpa using qx, qy⟩]
      simp only [List.length_cons] at hl
      have k105 := fun lo hlo => f66 (lo := lo) (h := h) hlo (x := y) hy1 (by omega)
      have k105a := k105 lo hlo; have k105b := k105 h.length (Nat.le_refl _)
      have kt := fun lo hlo => f43 (lo := lo) (h := h) hlo (l := u) (by omega) (fun z hz => hst z (by simp [hz]))
      have kta := kt lo hlo; have ktb := kt h.length (Nat.le_refl _)
      have p4 : 2 ≤ (x :: y :: u).length := by simp
      have ed2 : (x :: y :: u).drop 2 = u := rfl
      have z1 : (bs [45]).size + (bs (codeT y)).size ≤ 9223372036854775807 := by rw [bs_size, bs_size]; have := codeT_len y; simp; omega
      have z2 : (bs (45 :: codeT y)).size + (bs (nameT u)).size ≤ 9223372036854775807 := by rw [bs_size, bs_size]; have := codeT_len y; have := hby u; simp; omega
      rw [e]
      clear k43a k43b
      generalize x :: y :: u = M at *
      simp only [go_sem, b41, Tryz.f41, k42, bs_45', hb, p1, g0, g1, k100, p3, qx, k100y, k105a, k105b, p4, Nat.le_refl, ri_drop, ri_take, ed2, kta, ktb, bs_app, z1, z2, List.singleton_append, List.cons_append]
      all_goals rfl
end
end Go.Lift.P7
end

section
open Go.Proofs
namespace Go.Lift.P7
variable [MX]
open Utf Tok Spell
set_option maxRecDepth 20000
set_option maxHeartbeats 4000000
section
variable {lo : Nat} {h : Heap}
theorem enc_34 : Utf8.encode 34 = bs [34] := enc_utf (by decide)
theorem enc_39 : Utf8.encode 39 = bs [39] := enc_utf (by decide)
theorem enc_40 : Utf8.encode 40 = bs [40] := enc_utf (by decide)
theorem enc_41 : Utf8.encode 41 = bs [41] := enc_utf (by decide)
theorem enc_92 : Utf8.encode 92 = bs [92] := enc_utf (by decide)
theorem w8_34 : IntKind.u8.wrap 34 = 34 := rfl
theorem w8_39 : IntKind.u8.wrap 39 = 39 := rfl
theorem w8_40 : IntKind.u8.wrap 40 = 40 := rfl
theorem w8_41 : IntKind.u8.wrap 41 = 41 := rfl
theorem w8_92 : IntKind.u8.wrap 92 = 92 := rfl
theorem bs_34 : (⟨#[34]⟩ : ByteArray) = bs [34] := rfl
theorem bs_41 : (⟨#[41]⟩ : ByteArray) = bs [41] := rfl
theorem bs_url : (⟨#[117, 114, 108, 40]⟩ : ByteArray) = bs [117, 114, 108, 40] := rfl
abbrev sg5 : List Int := [34, 92]
abbrev sg7 : List Int := [34, 39, 40, 41, 92]
theorem loop44 (hlo : lo ≤ h.length) {l : List Int} (hl : l.length ≤ 10000000) (hs : ∀ x ∈ l, scal x = x) : ∀ (m k : Nat) (out : List Int), k + m = l.length → out.length + 10 * m ≤ 900000000 →
  loopW (evCode ⟨Tryz.prog, E, lo, h.length, h44⟩ loopW l44x0) ([(5, .v (.string (bs out))), (13, .list .no (ri .i32 l)), (14, .v (.int .i64 l.length)), (15, .v (.int .i64 k))], h) =
   some (.exit 0, [(5, .v (.string (bs (out ++ textT sg5 false (l.drop k))))), (13, .list .no (ri .i32 l)), (14, .v (.int .i64 l.length)), (15, .v (.int .i64 l.length)), (16, .v (.bool false))], h) := by
 intro m
 induction m with
 | zero =>
  intro k out hk _
  obtain rfl : k = l.length := by omega
  have q : decide ((l.length : Int) < (l.length : Int)) = false := by simp
  rw [loop_eq, List.drop_length]
  simp only [go_sem, l44x0, b44, Tryz.f44, q, textT, List.append_nil]
  all_goals rfl
 | succ m ih =>
  intro k out hk ho
  have hlt : k < l.length := by omega
  have hg : l[k]? = some l[k] := List.getElem?_eq_getElem hlt
  have hd : l.drop k = l[k] :: l.drop (k + 1) := List.drop_eq_getElem_cons hlt
  have hx := hs l[k] (List.getElem_mem hlt)
  have q : decide ((k : Int) < (l.length : Int)) = true := by simp; omega
  have w1 : IntKind.i64.wrap ((k : Int) + 1) = ((k + 1 : Nat) : Int) := wrap_succ (by omega)
  have et : ∀ (x : Int) (t : List Int), textT sg5 false (x :: t) = textC sg5 false x ++ textT sg5 false t := fun _ _ => rfl
  rw [hd, et]
  generalize l[k] = x at *
  have hx2 := scal_in x
  rw [hx] at hx2
  have hcl := textC_len sg5 false x
  have hel := enc_len (scal x)
  have er : evCode ⟨Tryz.prog, E, lo, h.length, h44⟩ loopW l44x0 ([(5, .v (.string (bs out))), (13, .list .no (ri .i32 l)), (14, .v (.int .i64 l.length)), (15, .v (.int .i64 k))], h) = some (.normal, [(5, .v (.string (bs (out ++ textC sg5 false x)))), (13, .list .no (ri .i32 l)), (14, .v (.int .i64 l.length)), (15, .v (.int .i64 (k + 1 : Nat)))], h) := by
   have k107 := fun lo h => f69 (lo := lo) (h := h) (c := x)
   have k82 := fun lo h => f71 (lo := lo) (h := h) (x := x)
   unfold textC
   cases qh : hidT x with
   | true =>
    rw [qh] at k107
    have k105 := fun lo hlo => f66 (lo := lo) (h := h) hlo (x := x) (hid_pos qh) (by omega)
    have ka := k105 lo hlo; have kb := k105 h.length (Nat.le_refl _)
    have z1 : (bs out).size + (bs (codeT x)).size ≤ 9223372036854775807 := by rw [bs_size, bs_size]; have := codeT_len x; omega
    simp only [go_sem, l44x0, b44, Tryz.f44, q, hg, w1, k107, ka, kb, bs_app, z1, if_true]
    all_goals rfl
   | false =>
    rw [qh] at k107
    have z0 : ∀ c : Int, (bs out).size + (bs [92, c]).size ≤ 9223372036854775807 := by intro c; rw [bs_size, bs_size]; simp; omega
    have z3 : ∀ c : Int, (bs [92]).size + (bs [c]).size ≤ 9223372036854775807 := by intro c; rw [bs_size, bs_size]; simp
    by_cases c1 : x = 34
    ·subst c1
     have e : (if (false || (false && ((34 : Int) == 32))) = true then codeT 34 else if sg5.contains 34 = true then 92 :: enc (scal 34) else enc (scal 34)) = [92, 34] := by decide
     rw [e]
     simp only [go_sem, l44x0, b44, Tryz.f44, Int.reduceBEq, q, hg, w1, k107, enc_34, w8_34, bs_92, bs_app, z0, z3, List.singleton_append]
     all_goals rfl
    by_cases c2 : x = 92
    ·subst c2
     have e : (if (false || (false && ((92 : Int) == 32))) = true then codeT 92 else if sg5.contains 92 = true then 92 :: enc (scal 92) else enc (scal 92)) = [92, 92] := by decide
     rw [e]
     simp only [go_sem, l44x0, b44, Tryz.f44, Int.reduceBEq, q, hg, w1, k107, enc_92, w8_92, bs_92, bs_app, z0, z3, List.singleton_append]
     all_goals rfl
    have q1 : (x == 34) = false := by simp [c1]
    have q2 : (x == 92) = false := by simp [c2]
    have e : sg5.contains x = false := by simp [c1, c2]
    have z1 : (bs out).size + (bs (enc (scal x))).size ≤ 9223372036854775807 := by rw [bs_size, bs_size]; omega
    rw [e]
    simp only [go_sem, l44x0, b44, Tryz.f44, q, hg, w1, k107, k82, q1, q2, bs_app, z1, if_true, Bool.false_eq_true, if_false]
    all_goals rfl
  rw [loop_eq, er, loop_n, ih (k + 1) _ (by omega) (by simp; omega), List.append_assoc]
theorem f44 (hlo : lo ≤ h.length) {l : List Int} (hl : l.length ≤ 10000000) (hs : ∀ x ∈ l, scal x = x) (h0 : l.contains 0 = false) : E lo 44 [.v (.string (bs (encs l)))] h = some (.v (.string (bs (34 :: (textT sg5 false l ++ [34])))), h) := by
 have k42 := fun lo h => chars42 (lo := lo) (h := h) hs h0 hl
 have hL := loop44 (lo := lo) (h := h) hlo hl hs l.length 0 [34] (by omega) (by simp; omega)
 have n0 : ((0 : Nat) : Int) = 0 := rfl
 have hlen := textT_len sg5 false l
 have z1 : (bs (34 :: textT sg5 false l)).size + (bs [34]).size ≤ 9223372036854775807 := by rw [bs_size, bs_size]; simp; omega
 rw [List.drop_zero, n0] at hL
 simp only [l44x0, b44, Tryz.f44, loopAt, loops, bodyOf, go_sem, List.singleton_append] at hL
 rw [e44 (by simp) (by rfl)]
 simp only [go_sem, b44, Tryz.f44, k42, bs_34, hL, bs_app, z1, List.cons_append]
 all_goals rfl
theorem loop45 (hlo : lo ≤ h.length) {l : List Int} (hl : l.length ≤ 10000000) (hs : ∀ x ∈ l, scal x = x) : ∀ (m k : Nat) (out : List Int), k + m = l.length → out.length + 10 * m ≤ 900000000 →
  loopW (evCode ⟨Tryz.prog, E, lo, h.length, h45⟩ loopW l45x0) ([(5, .v (.string (bs out))), (13, .list .no (ri .i32 l)), (14, .v (.int .i64 l.length)), (15, .v (.int .i64 k))], h) =
   some (.exit 0, [(5, .v (.string (bs (out ++ textT sg7 true (l.drop k))))), (13, .list .no (ri .i32 l)), (14, .v (.int .i64 l.length)), (15, .v (.int .i64 l.length)), (16, .v (.bool false))], h) := by
 intro m
 induction m with
 | zero =>
  intro k out hk _
  obtain rfl : k = l.length := by omega
  have q : decide ((l.length : Int) < (l.length : Int)) = false := by simp
  rw [loop_eq, List.drop_length]
  simp only [go_sem, l45x0, b45, Tryz.f45, q, textT, List.append_nil]
  all_goals rfl
 | succ m ih =>
  intro k out hk ho
  have hlt : k < l.length := by omega
  have hg : l[k]? = some l[k] := List.getElem?_eq_getElem hlt
  have hd : l.drop k = l[k] :: l.drop (k + 1) := List.drop_eq_getElem_cons hlt
  have hx := hs l[k] (List.getElem_mem hlt)
  have q : decide ((k : Int) < (l.length : Int)) = true := by simp; omega
  have w1 : IntKind.i64.wrap ((k : Int) + 1) = ((k + 1 : Nat) : Int) := wrap_succ (by omega)
  have et : ∀ (x : Int) (t : List Int), textT sg7 true (x :: t) = textC sg7 true x ++ textT sg7 true t := fun _ _ => rfl
  rw [hd, et]
  generalize l[k] = x at *
  have hx2 := scal_in x
  rw [hx] at hx2
  have hcl := textC_len sg7 true x
  have hel := enc_len (scal x)
  have er : evCode ⟨Tryz.prog, E, lo, h.length, h45⟩ loopW l45x0 ([(5, .v (.string (bs out))), (13, .list .no (ri .i32 l)), (14, .v (.int .i64 l.length)), (15, .v (.int .i64 k))], h) = some (.normal, [(5, .v (.string (bs (out ++ textC sg7 true x)))), (13, .list .no (ri .i32 l)), (14, .v (.int .i64 l.length)), (15, .v (.int .i64 (k + 1 : Nat)))], h) := by
   have k107 := fun lo h => f69 (lo := lo) (h := h) (c := x)
   have k82 := fun lo h => f71 (lo := lo) (h := h) (x := x)
   have z0 : ∀ c : Int, (bs out).size + (bs [92, c]).size ≤ 9223372036854775807 := by intro c; rw [bs_size, bs_size]; simp; omega
   have z3 : ∀ c : Int, (bs [92]).size + (bs [c]).size ≤ 9223372036854775807 := by intro c; rw [bs_size, bs_size]; simp
   have zc : (bs out).size + (bs (codeT x)).size ≤ 9223372036854775807 := by rw [bs_size, bs_size]; have := codeT_len x; omega
   unfold textC
   cases qh : hidT x with
   | true =>
    rw [qh] at k107
    have k105 := fun lo hlo => f66 (lo := lo) (h := h) hlo (x := x) (hid_pos qh) (by omega)
    have ka := k105 lo hlo; have kb := k105 h.length (Nat.le_refl _)
    simp only [go_sem, l45x0, b45, Tryz.f45, q, hg, w1, k107, ka, kb, bs_app, zc, if_true]
    all_goals rfl
   | false =>
    rw [qh] at k107
    cases q32 : (x == 32) with
    | true =>
     have hx32 : x = 32 := by simpa using q32
     have k105 := fun lo hlo => f66 (lo := lo) (h := h) hlo (x := x) (by omega) (by omega)
     have ka := k105 lo hlo; have kb := k105 h.length (Nat.le_refl _)
     simp only [go_sem, l45x0, b45, Tryz.f45, q, hg, w1, k107, q32, ka, kb, bs_app, zc, if_true]
     all_goals rfl
    | false =>
     by_cases c1 : x = 34
     ·subst c1
      have e : (if (false || (true && false)) = true then codeT 34 else if sg7.contains 34 = true then 92 :: enc (scal 34) else enc (scal 34)) = [92, 34] := by decide
      rw [e]
      simp only [go_sem, l45x0, b45, Tryz.f45, Int.reduceBEq, q, hg, w1, k107, enc_34, w8_34, bs_92, bs_app, z0, z3, List.singleton_append]
      all_goals rfl
     by_cases c2 : x = 39
     ·subst c2
      have e : (if (false || (true && false)) = true then codeT 39 else if sg7.contains 39 = true then 92 :: enc (scal 39) else enc (scal 39)) = [92, 39] := by decide
      rw [e]
      simp only [go_sem, l45x0, b45, Tryz.f45, Int.reduceBEq, q, hg, w1, k107, enc_39, w8_39, bs_92, bs_app, z0, z3, List.singleton_append]
      all_goals rfl
     by_cases c3 : x = 40
     ·subst c3
      have e : (if (false || (true && false)) = true then codeT 40 else if sg7.contains 40 = true then 92 :: enc (scal 40) else enc (scal 40)) = [92, 40] := by decide
      rw [e]
      simp only [go_sem, l45x0, b45, Tryz.f45, Int.reduceBEq, q, hg, w1, k107, enc_40, w8_40, bs_92, bs_app, z0, z3, List.singleton_append]
      all_goals rfl
     by_cases c4 : x = 41
     ·subst c4
      have e : (if (false || (true && false)) = true then codeT 41 else if sg7.contains 41 = true then 92 :: enc (scal 41) else enc (scal 41)) = [92, 41] := by decide
      rw [e]
      simp only [go_sem, l45x0, b45, Tryz.f45, Int.reduceBEq, q, hg, w1, k107, enc_41, w8_41, bs_92, bs_app, z0, z3, List.singleton_append]
      all_goals rfl
     by_cases c5 : x = 92
     ·subst c5
      have e : (if (false || (true && false)) = true then codeT 92 else if sg7.contains 92 = true then 92 :: enc (scal 92) else enc (scal 92)) = [92, 92] := by decide
      rw [e]
      simp only [go_sem, l45x0, b45, Tryz.f45, Int.reduceBEq, q, hg, w1, k107, enc_92, w8_92, bs_92, bs_app, z0, z3, List.singleton_append]
      all_goals rfl
     have q1 : (x == 34) = false := by simp [c1]
     have q2 : (x == 39) = false := by simp [c2]
     have q3 : (x == 40) = false := by simp [c3]
     have q4 : (x == 41) = false := by simp [c4]
     have q5 : (x == 92) = false := by simp [c5]
     have e : sg7.contains x = false := by simp [c1, c2, c3, c4, c5]
     have z1 : (bs out).size + (bs (enc (scal x))).size ≤ 9223372036854775807 := by rw [bs_size, bs_size]; omega
     rw [e]
     simp only [go_sem, l45x0, b45, Tryz.f45, q, hg, w1, k107, k82, q32, q1, q2, q3, q4, q5, bs_app, z1, if_true, Bool.false_eq_true, if_false]
     all_goals rfl
  rw [loop_eq, er, loop_n, ih (k + 1) _ (by omega) (by simp; omega), List.append_assoc]
theorem f45 (hlo : lo ≤ h.length) {l : List Int} (hl : l.length ≤ 10000000) (hs : ∀ x ∈ l, scal x = x) (h0 : l.contains 0 = false) : E lo 45 [.v (.string (bs (encs l)))] h = some (.v (.string (bs (117 :: 114 :: 108 :: 40 :: (textT sg7 true l ++ [41])))), h) := by
 have k42 := fun lo h => chars42 (lo := lo) (h := h) hs h0 hl
 have hL := loop45 (lo := lo) (h := h) hlo hl hs l.length 0 [117, 114, 108, 40] (by omega) (by simp; omega)
 have n0 : ((0 : Nat) : Int) = 0 := rfl
 have hlen := textT_len sg7 true l
 have z1 : (bs (117 :: 114 :: 108 :: 40 :: textT sg7 true l)).size + (bs [41]).size ≤ 9223372036854775807 := by rw [bs_size, bs_size]; simp; omega
 rw [List.drop_zero, n0] at hL
 simp only [l45x0, b45, Tryz.f45, loopAt, loops, bodyOf, go_sem, List.cons_append, List.nil_append] at hL
 rw [e45 (by simp) (by rfl)]
 simp only [go_sem, b45, Tryz.f45, k42, bs_41, bs_url, hL, bs_app, z1, List.cons_append]
 all_goals rfl
end
end Go.Lift.P7
end

section
open Go.Proofs
namespace Go.Lift.P7
variable [MX]
open Utf Tok Spell
set_option maxRecDepth 20000
set_option maxHeartbeats 4000000
section
variable {lo : Nat} {h : Heap} {l : List Int}
def hd45 : List Int → Bool
 | [] => false
 | c :: _ => c == 45
theorem f96 {b : List Int} (hy : By b) (hl : b.length ≤ 1000000000) : E lo 96 [.v (.string (bs b)), .v (.string (bs [45]))] h = some (.v (.bool (hd45 b)), h) := by
 have s1 : (bs [45]).size = 1 := bs_size [45]
 have n1 : ((1 : Nat) : Int) = 1 := rfl
 rw [e96 (by simp) (by rfl)]
 cases b with
 | nil =>
  have s0 : (bs []).size = 0 := rfl
  have n0 : ((0 : Nat) : Int) = 0 := rfl
  have q : decide ((1 : Int) ≤ 0) = false := rfl
  simp only [go_sem, b96, Tryz.f96, s1, s0, n1, n0, q]
  all_goals rfl
 | cons c t =>
  have sz := bs_size (c :: t)
  have q : decide ((1 : Int) ≤ ((c :: t).length : Int)) = true := by rw [decide_eq_true_iff]; simp only [List.length_cons]; omega
  have p2 : 1 ≤ (c :: t).length := by simp
  have ed : ((c :: t).take 1).drop 0 = [c] := rfl
  have hb := bs_beq (a := [c]) (b := [45]) (fun x hx => by simp at hx; subst hx; exact hy _ (by simp)) by_45
  have e : ([c] == [45]) = (c == 45) := by simp
  rw [e] at hb
  have eh : hd45 (c :: t) = (c == 45) := rfl
  rw [eh]
  generalize c :: t = M at *
  simp only [go_sem, b96, Tryz.f96, s1, n1, sz, q, p2, bs_ext, ed, hb, Nat.zero_le]
  all_goals rfl
theorem f73 {b : List Int} (hy : By b) (hl : b.length ≤ 1000000000) : E lo 73 [.v (.string (bs b)), .v (.string (bs [45]))] h = some (.v (.bool (hd45 b)), h) := by
 have k := fun lo h => f96 (lo := lo) (h := h) hy hl
 rw [e73 (by simp) (by rfl)]
 simp only [go_sem, b73, Tryz.f73, k]
 all_goals rfl
theorem first_byte {x : Int} (h0 : 0 ≤ x) (h1 : x ≤ 1114111) : ∃ c t, enc x = c :: t ∧ 0 ≤ c ∧ c ≤ 255 ∧ ((x < 128 ∧ c = x ∧ t = []) ∨ (128 ≤ x ∧ 128 ≤ c)) := by
 have hb := enc_by x h0 h1
 by_cases hx : x < 128
 ·exact ⟨x, [], enc_low hx, h0, by omega, .inl ⟨hx, rfl, rfl⟩⟩
 ·obtain ⟨c, t, e, _, hh⟩ := enc_high (by omega) h1
  have hc := hh c (by rw [e]; simp)
  have hc2 := hb c (by rw [e]; simp)
  exact ⟨c, t, e, by omega, by omega, .inr ⟨by omega, hc⟩⟩
theorem f52 (hlo : lo ≤ h.length) (hs : ∀ x ∈ l, scal x = x) (hl : l.length ≤ 10000000) : E lo 52 [.v (.string (bs (encs l)))] h = some (.v (.string (bs (identT l))), h) := by
 have hby := encs_by l
 have hel := encs_len l
 have hb := bs_beq hby by_45
 have k34 := fun lo hlo => f53 (lo := lo) (h := h) hlo hs hl
 have k34a := k34 lo hlo; have k34b := k34 h.length (Nat.le_refl _)
 have k85 := fun lo h => f73 (lo := lo) (h := h) hby (by omega)
 have sz := bs_size (encs l)
 clear k34
 rw [e52 (by simp) (by rfl)]
 by_cases h45 : l = [45]
 ·have q : (encs l == [45]) = true := by rw [beq_iff_eq]; exact (encs_one hs).2 h45
  rw [q] at hb
  have e : identT l = [92, 45] := by unfold identT; rw [if_pos h45]
  rw [e]
  simp only [go_sem, b52, Tryz.f52, bs_45', hb, bs_9245]
  all_goals rfl
 have q : (encs l == [45]) = false := by rw [beq_eq_false_iff_ne]; exact fun h => h45 ((encs_one hs).1 h)
 rw [q] at hb
 cases l with
 | nil =>
  have e0 : encs [] = [] := rfl
  have q1 : decide ((0 : Int) < 0) = false := rfl
  have n0 : ((0 : Nat) : Int) = 0 := rfl
  have e : identT [] = nameT [] := rfl
  have eh : hd45 [] = false := rfl
  rw [e0] at hb k34a k34b k85 sz ⊢
  rw [e]
  rw [eh] at k85
  rw [List.length_nil] at sz
  simp only [go_sem, b52, Tryz.f52, bs_45', hb, k85, sz, n0, q1, k34a, k34b]
  all_goals rfl
 | cons x t =>
  have hx := scal_in x
  rw [hs x (by simp)] at hx
  have hst : ∀ y ∈ t, scal y = y := fun y hy => hs y (by simp [hy])
  obtain ⟨c, tc, ec, hc0, hc1, hcx⟩ := first_byte hx.1 hx.2
  have eB : encs (x :: t) = c :: (tc ++ encs t) := by rw [encs_cons, hs x (by simp), ec]; rfl
  have wc := wrap_i32 hc0 hc1
  have k86 := fun lo h => dig86 (lo := lo) (h := h) (c := c)
  have n0 : ((0 : Nat) : Int) = 0 := rfl
  have p1 : decide ((0 : Int) < ((encs (x :: t)).length : Int)) = true := by rw [eB, decide_eq_true_iff]; simp only [List.length_cons]; omega
  have i0 := bs_ix hby 0
  have g0 : (encs (x :: t))[0]? = some c := by rw [eB]; rfl
  rw [g0] at i0
  have eh : hd45 (encs (x :: t)) = (c == 45) := by rw [eB]; rfl
  rw [eh] at k85
  simp only [List.length_cons] at hl
  cases q45 : (c == 45) with
  | false =>
   rw [q45] at k85
   have hx45 : x ≠ 45 := by
    intro h
    have : c ≠ 45 := by simpa using q45
    omega
   cases qd : dig c with
   | false =>
    rw [qd] at k86
    have hdx : dig x = false := by
     rcases hcx with ⟨_, rfl, _⟩ | ⟨h1, _⟩
     ·exact qd
     ·exact dig_high h1
    have e : identT (x :: t) = nameT (x :: t) := by
     unfold identT
     rw [if_neg h45]
     simp only [hdx, Bool.false_eq_true, if_false]
     cases t with
     | nil => rfl
     | cons y u => simp only; rw [if_neg]; simp [hx45]
    rw [e]
    clear eB g0
    generalize encs (x :: t) = B at *
    simp only [go_sem, b52, Tryz.f52, bs_45', hb, k85, sz, p1, i0, wc, k86, k34a, k34b]
    all_goals rfl
   | true =>
    rw [qd] at k86
    obtain ⟨hx128, rfl, rfl⟩ : x < 128 ∧ c = x ∧ tc = [] := by
     rcases hcx with h | ⟨_, h⟩
     ·exact h
     ·rw [dig_high h] at qd; cases qd
    have e : identT (c :: t) = codeT c ++ nameT t := by unfold identT; rw [if_neg h45]; simp only [qd, if_true]
    have k87 := fun lo hlo => f74 (lo := lo) (h := h) hlo (r := c) hx.1 (by omega)
    have k87a := k87 lo hlo; have k87b := k87 h.length (Nat.le_refl _)
    have kt := fun lo hlo => f53 (lo := lo) (h := h) hlo (l := t) hst (by omega)
    have kta := kt lo hlo; have ktb := kt h.length (Nat.le_refl _)
    have w1 : IntKind.i64.wrap (0 + 1) = 1 := rfl
    have p2 : 1 ≤ (encs (c :: t)).length := by rw [eB]; simp
    have ed0 : ((encs (c :: t)).take 0).drop 0 = [] := rfl
    have ed : (encs (c :: t)).drop 1 = encs t := by rw [eB]; rfl
    have z1 : (bs []).size + (bs (codeT c)).size ≤ 9223372036854775807 := by rw [bs_size, bs_size]; have := codeT_len c; simp; omega
    have z2 : (bs (codeT c)).size + (bs (nameT t)).size ≤ 9223372036854775807 := by rw [bs_size, bs_size]; have := codeT_len c; have := nameT_len t; omega
    rw [e]
    clear eB g0 k34a k34b
    generalize encs (c :: t) = B at *
    simp only [go_sem, b52, Tryz.f52, bs_45', hb, k85, sz, p1, i0, wc, k86, k87a, k87b, kta, ktb, w1, p2, Nat.le_refl, Nat.zero_le, bs_ext, ed0, ed, bs_app, z1, z2, List.nil_append]
    all_goals rfl
  | true =>
   rw [q45] at k85
   have hc45 : c = 45 := by simpa using q45
   obtain ⟨hx128, rfl, rfl⟩ : x < 128 ∧ c = x ∧ tc = [] := by
    rcases hcx with h | ⟨_, h⟩
    ·exact h
    ·omega
   subst hc45
   cases t with
   | nil => exact absurd rfl h45
   | cons y u =>
    have hy := scal_in y
    rw [hst y (by simp)] at hy
    obtain ⟨c1, t1, ec1, hd0, hd1, hdy⟩ := first_byte hy.1 hy.2
    have eB2 : encs (45 :: y :: u) = 45 :: c1 :: (t1 ++ encs u) := by rw [eB, encs_cons, hst y (by simp), ec1]; rfl
    have g1 : (encs (45 :: y :: u))[1]? = some c1 := by rw [eB2]; rfl
    have i1 := bs_ix hby 1
    rw [g1] at i1
    have wd := wrap_i32 hd0 hd1
    have k86d := fun lo h => dig86 (lo := lo) (h := h) (c := c1)
    have p3 : decide ((1 : Int) < ((encs (45 :: y :: u)).length : Int)) = true := by rw [eB2, decide_eq_true_iff]; simp only [List.length_cons]; omega
    have d45 : dig 45 = false := rfl
    have e0 : identT (45 :: y :: u) = if dig y = true then 45 :: (codeT y ++ nameT u) else nameT (45 :: y :: u) := by
     unfold identT
     rw [if_neg h45]
     simp only [d45, Bool.false_eq_true, if_false, true_and]
    cases qd : dig c1 with
    | false =>
     rw [qd] at k86d
     have hdy2 : dig y = false := by
      rcases hdy with ⟨_, rfl, _⟩ | ⟨h1, _⟩
      ·exact qd
      ·exact dig_high h1
     have e : identT (45 :: y :: u) = nameT (45 :: y :: u) := by rw [e0, if_neg (by simp [hdy2])]
     rw [e]
     clear eB g0 eB2 g1
     generalize encs (45 :: y :: u) = B at *
     simp only [go_sem, b52, Tryz.f52, bs_45', hb, k85, sz, p3, i1, wd, k86d, k34a, k34b]
     all_goals rfl
    | true =>
     rw [qd] at k86d
     obtain ⟨hy128, rfl, rfl⟩ : y < 128 ∧ c1 = y ∧ t1 = [] := by
      rcases hdy with h | ⟨_, h⟩
      ·exact h
      ·rw [dig_high h] at qd; cases qd
     have e : identT (45 :: c1 :: u) = 45 :: (codeT c1 ++ nameT u) := by rw [e0, if_pos qd]
     simp only [List.length_cons] at hl
     have k87 := fun lo hlo => f74 (lo := lo) (h := h) hlo (r := c1) hy.1 (by omega)
     have k87a := k87 lo hlo; have k87b := k87 h.length (Nat.le_refl _)
     have kt := fun lo hlo => f53 (lo := lo) (h := h) hlo (l := u) (fun z hz => hst z (by simp [hz])) (by omega)
     have kta := kt lo hlo; have ktb := kt h.length (Nat.le_refl _)
     have w1 : IntKind.i64.wrap (1 + 1) = 2 := rfl
     have p2 : 1 ≤ (encs (45 :: c1 :: u)).length := by rw [eB2]; simp
     have p4 : 2 ≤ (encs (45 :: c1 :: u)).length := by rw [eB2]; simp
     have ed0 : ((encs (45 :: c1 :: u)).take 1).drop 0 = [45] := by rw [eB2]; rfl
     have ed : (encs (45 :: c1 :: u)).drop 2 = encs u := by rw [eB2]; rfl
     have z1 : (bs [45]).size + (bs (codeT c1)).size ≤ 9223372036854775807 := by rw [bs_size, bs_size]; have := codeT_len c1; simp; omega
     have z2 : (bs (45 :: codeT c1)).size + (bs (nameT u)).size ≤ 9223372036854775807 := by rw [bs_size, bs_size]; have := codeT_len c1; have := nameT_len u; simp; omega
     rw [e]
     clear eB g0 eB2 g1 k34a k34b
     generalize encs (45 :: c1 :: u) = B at *
     simp only [go_sem, b52, Tryz.f52, bs_45', hb, k85, sz, p3, i1, wd, k86d, k87a, k87b, kta, ktb, w1, p2, p4, Nat.le_refl, Nat.zero_le, bs_ext, ed0, ed, bs_app, z1, z2, List.singleton_append, List.cons_append]
     all_goals rfl
end
end Go.Lift.P7
end

section
open Go.Proofs
namespace Go.Lift.P7
variable [MX]
open Utf Tok Spell
set_option maxRecDepth 20000
set_option maxHeartbeats 4000000
section
variable {lo : Nat} {h : Heap} {l : List Int}
def trim45 (b : List Int) : List Int := if hd45 b = true then b.drop 1 else b
theorem f107 {b : List Int} (hy : By b) (hl : b.length ≤ 1000000000) : E lo 107 [.v (.string (bs b)), .v (.string (bs [45]))] h = some (.v (.string (bs (trim45 b))), h) := by
 have k := fun lo h => f96 (lo := lo) (h := h) hy hl
 have s1 : (bs [45]).size = 1 := bs_size [45]
 have n1 : ((1 : Nat) : Int) = 1 := rfl
 have sz := bs_size b
 unfold trim45
 rw [e107 (by simp) (by rfl)]
 cases q : hd45 b with
 | false =>
  rw [q] at k
  simp only [go_sem, b107, Tryz.f107, k, Bool.false_eq_true, if_false]
  all_goals rfl
 | true =>
  rw [q] at k
  have p2 : 1 ≤ b.length := by
   cases b with
   | nil => cases q
   | cons c t => simp
  have ed : ((b.take b.length).drop 1) = b.drop 1 := by rw [List.take_length]
  simp only [go_sem, b107, Tryz.f107, k, s1, n1, sz, p2, bs_ext, ed, Nat.le_refl, if_true]
  all_goals rfl
theorem f85 {b : List Int} (hy : By b) (hl : b.length ≤ 1000000000) : E lo 85 [.v (.string (bs b)), .v (.string (bs [45]))] h = some (.v (.string (bs (trim45 b))), h) := by
 have k := fun lo h => f107 (lo := lo) (h := h) hy hl
 rw [e85 (by simp) (by rfl)]
 simp only [go_sem, b85, Tryz.f85, k]
 all_goals rfl
def dg0 : List Int → Bool
 | [] => false
 | c :: _ => dig c
theorem dg_trim (b : List Int) : dg0 (trim45 b) = expT b := by
 cases b with
 | nil => rfl
 | cons y u =>
  by_cases hy : y = 45
  ·subst hy
   cases u with
   | nil => rfl
   | cons z v => rfl
  ·have q : (y == 45) = false := by simp [hy]
   have e1 : trim45 (y :: u) = y :: u := by show (if (y == 45) = true then (y :: u).drop 1 else y :: u) = y :: u; simp only [q, Bool.false_eq_true, if_false]
   rw [e1]
   unfold expT dg0
   simp only
   rw [q, Bool.false_and, Bool.or_false]
theorem trim_by {b : List Int} (hy : By b) : By (trim45 b) := by
 unfold trim45
 split
 ·exact fun c hc => hy c (List.mem_of_mem_drop hc)
 ·exact hy
theorem f56 (hlo : lo ≤ h.length) (hs : ∀ x ∈ l, scal x = x) (hn : l ≠ []) (hl : l.length ≤ 10000000) : E lo 56 [.v (.string (bs (encs l)))] h = some (.v (.string (bs (unitT l))), h) := by
 obtain ⟨x, t, rfl⟩ : ∃ x t, l = x :: t := by
  cases l with
  | nil => exact absurd rfl hn
  | cons x t => exact ⟨x, t, rfl⟩
 have hby := encs_by (x :: t)
 have hel := encs_len (x :: t)
 have k33 := fun lo hlo => f52 (lo := lo) (h := h) hlo hs hl
 have k33a := k33 lo hlo; have k33b := k33 h.length (Nat.le_refl _)
 clear k33
 have sz := bs_size (encs (x :: t))
 have hx := scal_in x
 rw [hs x (by simp)] at hx
 have hst : ∀ y ∈ t, scal y = y := fun y hy => hs y (by simp [hy])
 obtain ⟨c, tc, ec, hc0, hc1, hcx⟩ := first_byte hx.1 hx.2
 have eB : encs (x :: t) = c :: (tc ++ encs t) := by rw [encs_cons, hs x (by simp), ec]; rfl
 have i0 := bs_ix hby 0
 have g0 : (encs (x :: t))[0]? = some c := by rw [eB]; rfl
 rw [g0] at i0
 have wc := wrap_i32 hc0 hc1
 simp only [List.length_cons] at hl
 rw [e56 (by simp) (by rfl)]
 have main : ∀ (m : Int), (m = 101 ∨ m = 69) → c = m →
   E lo 56 [.v (.string (bs (encs (x :: t))))] h = some (.v (.string (bs (unitT (x :: t)))), h) := fun m hm hcm => by
  obtain ⟨hx128, rfl, rfl⟩ : x < 128 ∧ c = x ∧ tc = [] := by
   rcases hcx with h | ⟨_, h⟩
   ·exact h
   ·omega
  rw [List.nil_append] at eB
  have hbt := encs_by t
  have k99 := fun lo h => f85 (lo := lo) (h := h) hbt (by have := encs_len t; omega)
  have hT := trim_by hbt
  have hdg := dg_trim (encs t)
  rw [exp_encs t hst] at hdg
  have hTl : (trim45 (encs t)).length ≤ 1000000000 := by
   have := encs_len t
   unfold trim45
   split
   ·rw [List.length_drop]; omega
   ·omega
  have t1 := bs_nil_eq' (trim45 (encs t))
  have szT := bs_size (trim45 (encs t))
  have iT := bs_ix hT 0
  have k87 := fun lo hlo => f74 (lo := lo) (h := h) hlo (r := c) hx.1 (by omega)
  have k87a := k87 lo hlo; have k87b := k87 h.length (Nat.le_refl _)
  have kt := fun lo hlo => f53 (lo := lo) (h := h) hlo (l := t) hst (by omega)
  have kta := kt lo hlo; have ktb := kt h.length (Nat.le_refl _)
  have p2 : 1 ≤ (encs (c :: t)).length := by rw [eB]; simp
  have ed : (encs (c :: t)).drop 1 = encs t := by rw [eB]; rfl
  have et : (encs (c :: t)).take (encs (c :: t)).length = encs (c :: t) := List.take_length
  have z2 : (bs (codeT c)).size + (bs (nameT t)).size ≤ 9223372036854775807 := by rw [bs_size, bs_size]; have := codeT_len c; have := nameT_len t; omega
  have eu : unitT (c :: t) = if ((c == 101 || c == 69) && expT t) = true then codeT c ++ nameT t else identT (c :: t) := rfl
  have ec2 : (c == 101 || c == 69) = true := by rcases hm with rfl | rfl <;> subst hcm <;> rfl
  rw [ec2, Bool.true_and] at eu
  rw [eu]
  clear eB g0 eu
  generalize encs (c :: t) = B at *
  generalize trim45 (encs t) = T at *
  rw [e56 (by simp) (by rfl)]
  cases T with
  | nil =>
   have hx0 : expT t = false := hdg.symm
   rw [hx0, if_neg (by simp)]
   rw [decide_eq_true rfl] at t1
   rcases hm with rfl | rfl <;> subst hcm <;>
   simp only [go_sem, b56, Tryz.f56, Int.reduceBEq, sz, i0, p2, Nat.le_refl, bs_ext, bs_45', et, ed, k99, t1, k33a, k33b] <;> rfl
  | cons z v =>
   rw [decide_eq_false (by simp)] at t1
   have hz := hT z (by simp)
   have wz := wrap_i32 hz.1 hz.2
   have gz : (z :: v)[0]? = some z := rfl
   rw [gz] at iT
   have k86 := fun lo h => dig86 (lo := lo) (h := h) (c := z)
   have hdz : dig z = expT t := hdg
   rw [hdz] at k86
   clear gz hdg hdz hT
   generalize z :: v = T at *
   cases qe : expT t with
   | true =>
    rw [qe] at k86
    rw [if_pos rfl]
    rcases hm with rfl | rfl <;> subst hcm <;>
    simp only [go_sem, b56, Tryz.f56, Int.reduceBEq, sz, szT, i0, iT, p2, Nat.le_refl, bs_ext, bs_45', et, ed, k99, t1, wz, wc, k86, k87a, k87b, kta, ktb, bs_app, z2] <;> rfl
   | false =>
    rw [qe] at k86
    rw [if_neg (by simp)]
    rcases hm with rfl | rfl <;> subst hcm <;>
    simp only [go_sem, b56, Tryz.f56, Int.reduceBEq, sz, szT, i0, iT, p2, Nat.le_refl, bs_ext, bs_45', et, ed, k99, t1, wz, k86, k33a, k33b] <;> rfl
 rw [← e56 (by simp) (by rfl)]
 by_cases h1 : c = 101
 ·exact main 101 (.inl rfl) h1
 by_cases h2 : c = 69
 ·exact main 69 (.inr rfl) h2
 have q1 : (c == 101) = false := by simp [h1]
 have q2 : (c == 69) = false := by simp [h2]
 have hx2 : (x == 101 || x == 69) = false := by
  rcases hcx with ⟨_, rfl, _⟩ | ⟨h3, _⟩
  ·simp [h1, h2]
  ·simp; omega
 have eu : unitT (x :: t) = identT (x :: t) := by
  show (if ((x == 101 || x == 69) && expT t) = true then codeT x ++ nameT t else identT (x :: t)) = _
  rw [hx2]; rfl
 rw [eu, e56 (by simp) (by rfl)]
 clear eB g0
 generalize encs (x :: t) = B at *
 simp only [go_sem, b56, Tryz.f56, sz, i0, q1, q2, k33a, k33b]
 all_goals rfl
theorem f46 (hlo : lo ≤ h.length) (hs : ∀ x ∈ l, scal x = x) (h0 : l.contains 0 = false) (hn : l ≠ []) (hl : l.length ≤ 10000000) : E lo 46 [.v (.string (bs (encs l)))] h = some (.v (.string (bs (unitT l))), h) := by
 have k42 := fun lo h => chars42 (lo := lo) (h := h) hs h0 hl
 have k41 := fun lo hlo => f41 (lo := lo) (h := h) hlo hs h0 hl
 have k41a := k41 lo hlo; have k41b := k41 h.length (Nat.le_refl _)
 clear k41
 obtain ⟨x, t, rfl⟩ : ∃ x t, l = x :: t := by
  cases l with
  | nil => exact absurd rfl hn
  | cons x t => exact ⟨x, t, rfl⟩
 have hx := scal_in x
 rw [hs x (by simp)] at hx
 have hst : ∀ y ∈ t, scal y = y := fun y hy => hs y (by simp [hy])
 have g0 : (x :: t)[0]? = some x := rfl
 simp only [List.length_cons] at hl
 have eu : unitT (x :: t) = if ((x == 101 || x == 69) && expT t) = true then codeT x ++ nameT t else identT (x :: t) := rfl
 rw [eu]
 have main : ∀ (m : Int), (m = 101 ∨ m = 69) → x = m →
   E lo 46 [.v (.string (bs (encs (x :: t))))] h = some (.v (.string (bs (if expT t = true then codeT x ++ nameT t else identT (x :: t)))), h) := fun m hm hxm => by
  have k105 := fun lo hlo => f66 (lo := lo) (h := h) hlo (x := x) (by omega) (by omega)
  have k105a := k105 lo hlo; have k105b := k105 h.length (Nat.le_refl _)
  have kt := fun lo hlo => f43 (lo := lo) (h := h) hlo (l := t) (by omega) hst
  have kta := kt lo hlo; have ktb := kt h.length (Nat.le_refl _)
  have z1 : (bs (codeT x)).size + (bs (nameT t)).size ≤ 9223372036854775807 := by rw [bs_size, bs_size]; have := codeT_len x; have := nameT_len t; omega
  have p2 : 1 ≤ (x :: t).length := by simp
  have ed : (x :: t).drop 1 = t := rfl
  have et : (x :: t).take (x :: t).length = x :: t := List.take_length
  have k100 := fun lo h y => f61 (lo := lo) (h := h) (x := y)
  rw [e46 (by simp) (by rfl)]
  match t, hst with
  | [], _ =>
   have q1 : decide ((1 : Int) < (([x] : List Int).length : Int)) = false := rfl
   have q2 : decide ((2 : Int) < (([x] : List Int).length : Int)) = false := rfl
   rw [if_neg (by simp [expT])]
   generalize ([x] : List Int) = M at *
   rcases hm with rfl | rfl <;> subst hxm <;>
   simp only [go_sem, b46, Tryz.f46, Int.reduceBEq, k42, g0, q1, q2, k41a, k41b] <;> rfl
  | [y], hst =>
   have q1 : decide ((1 : Int) < (([x, y] : List Int).length : Int)) = true := rfl
   have q2 : decide ((2 : Int) < (([x, y] : List Int).length : Int)) = false := rfl
   have g1 : ([x, y] : List Int)[1]? = some y := rfl
   have ky := fun lo h => k100 lo h y
   have ee : expT [y] = dig y := by simp [expT]
   rw [ee]
   cases qd : dig y with
   | true =>
    rw [qd] at ky
    rw [if_pos rfl]
    generalize ([x, y] : List Int) = M at *
    generalize ([y] : List Int) = M2 at *
    rcases hm with rfl | rfl <;> subst hxm <;>
    simp only [go_sem, b46, Tryz.f46, Int.reduceBEq, k42, g0, g1, q1, q2, ky, k105a, k105b, p2, Nat.le_refl, ri_drop, ri_take, ed, et, kta, ktb, bs_app, z1] <;> rfl
   | false =>
    rw [qd] at ky
    rw [if_neg (by simp)]
    generalize ([x, y] : List Int) = M at *
    rcases hm with rfl | rfl <;> subst hxm <;>
    simp only [go_sem, b46, Tryz.f46, Int.reduceBEq, k42, g0, g1, q1, q2, ky, k41a, k41b] <;> rfl
  | y :: z :: u, hst =>
   have q1 : decide ((1 : Int) < ((x :: y :: z :: u).length : Int)) = true := by simp; omega
   have q2 : decide ((2 : Int) < ((x :: y :: z :: u).length : Int)) = true := by simp; omega
   have g1 : (x :: y :: z :: u)[1]? = some y := rfl
   have g2 : (x :: y :: z :: u)[2]? = some z := rfl
   have ky := fun lo h => k100 lo h y
   have kz := fun lo h => k100 lo h z
   have ee : expT (y :: z :: u) = (dig y || y == 45 && dig z) := rfl
   rw [ee]
   cases qd : dig y with
   | true =>
    rw [qd] at ky
    rw [Bool.true_or, if_pos rfl]
    generalize x :: y :: z :: u = M at *
    generalize y :: z :: u = M2 at *
    rcases hm with rfl | rfl <;> subst hxm <;>
    simp only [go_sem, b46, Tryz.f46, Int.reduceBEq, k42, g0, g1, q1, q2, ky, k105a, k105b, p2, Nat.le_refl, ri_drop, ri_take, ed, et, kta, ktb, bs_app, z1] <;> rfl
   | false =>
    rw [qd] at ky
    rw [Bool.false_or]
    cases q45 : (y == 45) with
    | false =>
     rw [Bool.false_and, if_neg (by simp)]
     generalize x :: y :: z :: u = M at *
     rcases hm with rfl | rfl <;> subst hxm <;>
     simp only [go_sem, b46, Tryz.f46, Int.reduceBEq, k42, g0, g1, q1, q2, ky, q45, k41a, k41b] <;> rfl
    | true =>
     rw [Bool.true_and]
     cases qz : dig z with
     | true =>
      rw [qz] at kz
      rw [if_pos rfl]
      generalize x :: y :: z :: u = M at *
      generalize y :: z :: u = M2 at *
      rcases hm with rfl | rfl <;> subst hxm <;>
      simp only [go_sem, b46, Tryz.f46, Int.reduceBEq, k42, g0, g1, g2, q1, q2, ky, q45, kz, k105a, k105b, p2, Nat.le_refl, ri_drop, ri_take, ed, et, kta, ktb, bs_app, z1] <;> rfl
     | false =>
      rw [qz] at kz
      rw [if_neg (by simp)]
      generalize x :: y :: z :: u = M at *
      rcases hm with rfl | rfl <;> subst hxm <;>
      simp only [go_sem, b46, Tryz.f46, Int.reduceBEq, k42, g0, g1, g2, q1, q2, ky, q45, kz, k41a, k41b] <;> rfl
 by_cases h1 : x = 101
 ·have := main 101 (.inl rfl) h1
  rw [this, show (x == 101) = true by simp [h1], Bool.true_or, Bool.true_and]
 by_cases h2 : x = 69
 ·have := main 69 (.inr rfl) h2
  rw [this, show (x == 69) = true by simp [h2], Bool.or_true, Bool.true_and]
 have q1 : (x == 101) = false := by simp [h1]
 have q2 : (x == 69) = false := by simp [h2]
 rw [q1, q2, Bool.false_or, Bool.false_and, if_neg (by simp), e46 (by simp) (by rfl)]
 generalize x :: t = M at *
 simp only [go_sem, b46, Tryz.f46, k42, g0, q1, q2, k41a, k41b]
 all_goals rfl
end
end Go.Lift.P7
end

section
open Go.Proofs
namespace Go.Lift.P7
variable [MX]
open Utf Tok Spell
set_option maxRecDepth 20000
set_option maxHeartbeats 4000000
section
variable {lo : Nat} {h : Heap} {k : Int}
abbrev A38 : List V := [.v (.int .i64 13), .v (.int .i64 16), .v (.int .i64 17), .v (.int .i64 18), .v (.int .i64 19), .v (.int .i64 20), .v (.int .i64 21), .v (.int .i64 22), .v (.int .i64 23), .v (.int .i64 24)]
abbrev K38 : List Int := [13, 16, 17, 18, 19, 20, 21, 22, 23, 24]
abbrev S38 : List Int := [32, 58, 59, 44, 91, 93, 40, 41, 123, 125]
abbrev N38 (k : Int) (j : Int) : Env := [(0, .v (.int .i64 k)), (16, .agg A38), (17, .v (.int .i64 j))]
theorem bs_s38 : (⟨#[32, 58, 59, 44, 91, 93, 40, 41, 123, 125]⟩ : ByteArray) = bs S38 := rfl
theorem round57 (hlo : lo ≤ h.length) (j : Fin 10) :
  evCode ⟨Tryz.prog, E, lo, h.length, h57⟩ loopW l57x0 (N38 k (j.val : Int), h ++ [.cells A38]) =
   if (K38[j.val] == k) = true then some (.ret, [(2, .v (.string (bs [S38[j.val]])))], h ++ [.cells A38]) else some (.normal, N38 k ((j.val : Int) + 1), h ++ [.cells A38]) := by
 have sz : (bs S38).size = 10 := bs_size S38
 have hl : S38.length = 10 := rfl
 have n10 : ((10 : Nat) : Int) = 10 := rfl
 rcases j with ⟨j, hj⟩
 simp only
 have hc : j = 0 ∨ j = 1 ∨ j = 2 ∨ j = 3 ∨ j = 4 ∨ j = 5 ∨ j = 6 ∨ j = 7 ∨ j = 8 ∨ j = 9 := by omega
 rcases hc with rfl | rfl | rfl | rfl | rfl | rfl | rfl | rfl | rfl | rfl
 ·have w1 : IntKind.i64.wrap (0 + 1) = 1 := rfl
  have n0 : ((0 : Nat) : Int) = 0 := rfl
  have ed : ((S38.take 1).drop 0) = [32] := rfl
  show _ = if ((13 : Int) == k) = true then some (Ex.ret, [(2, V.v (.string (bs [32])))], _) else some (Ex.normal, N38 k 1, _)
  rw [n0]
  cases q : ((13 : Int) == k) with
  | true =>
   simp only [go_sem, l57x0, b57, Tryz.f57, Int.reduceLT, Int.reduceLE, Int.reduceToNat, Nat.reduceLeDiff, decide_true, if_true, n10, hl, q, w1, bs_s38, bs_ext, ed]
   all_goals rfl
  | false =>
   simp only [go_sem, l57x0, b57, Tryz.f57, Int.reduceLT, Int.reduceToNat, decide_true, if_true, n10, q, w1, Bool.false_eq_true, if_false]
   all_goals rfl
 ·have w1 : IntKind.i64.wrap (1 + 1) = 2 := rfl
  have n0 : ((1 : Nat) : Int) = 1 := rfl
  have ed : ((S38.take 2).drop 1) = [58] := rfl
  show _ = if ((16 : Int) == k) = true then some (Ex.ret, [(2, V.v (.string (bs [58])))], _) else some (Ex.normal, N38 k 2, _)
  rw [n0]
  cases q : ((16 : Int) == k) with
  | true =>
   simp only [go_sem, l57x0, b57, Tryz.f57, Int.reduceLT, Int.reduceLE, Int.reduceToNat, Nat.reduceLeDiff, decide_true, if_true, n10, hl, q, w1, bs_s38, bs_ext, ed]
   all_goals rfl
  | false =>
   simp only [go_sem, l57x0, b57, Tryz.f57, Int.reduceLT, Int.reduceToNat, decide_true, if_true, n10, q, w1, Bool.false_eq_true, if_false]
   all_goals rfl
 ·have w1 : IntKind.i64.wrap (2 + 1) = 3 := rfl
  have n0 : ((2 : Nat) : Int) = 2 := rfl
  have ed : ((S38.take 3).drop 2) = [59] := rfl
  show _ = if ((17 : Int) == k) = true then some (Ex.ret, [(2, V.v (.string (bs [59])))], _) else some (Ex.normal, N38 k 3, _)
  rw [n0]
  cases q : ((17 : Int) == k) with
  | true =>
   simp only [go_sem, l57x0, b57, Tryz.f57, Int.reduceLT, Int.reduceLE, Int.reduceToNat, Nat.reduceLeDiff, decide_true, if_true, n10, hl, q, w1, bs_s38, bs_ext, ed]
   all_goals rfl
  | false =>
   simp only [go_sem, l57x0, b57, Tryz.f57, Int.reduceLT, Int.reduceToNat, decide_true, if_true, n10, q, w1, Bool.false_eq_true, if_false]
   all_goals rfl
 ·have w1 : IntKind.i64.wrap (3 + 1) = 4 := rfl
  have n0 : ((3 : Nat) : Int) = 3 := rfl
  have ed : ((S38.take 4).drop 3) = [44] := rfl
  show _ = if ((18 : Int) == k) = true then some (Ex.ret, [(2, V.v (.string (bs [44])))], _) else some (Ex.normal, N38 k 4, _)
  rw [n0]
  cases q : ((18 : Int) == k) with
  | true =>
   simp only [go_sem, l57x0, b57, Tryz.f57, Int.reduceLT, Int.reduceLE, Int.reduceToNat, Nat.reduceLeDiff, decide_true, if_true, n10, hl, q, w1, bs_s38, bs_ext, ed]
   all_goals rfl
  | false =>
   simp only [go_sem, l57x0, b57, Tryz.f57, Int.reduceLT, Int.reduceToNat, decide_true, if_true, n10, q, w1, Bool.false_eq_true, if_false]
   all_goals rfl
 ·have w1 : IntKind.i64.wrap (4 + 1) = 5 := rfl
  have n0 : ((4 : Nat) : Int) = 4 := rfl
  have ed : ((S38.take 5).drop 4) = [91] := rfl
  show _ = if ((19 : Int) == k) = true then some (Ex.ret, [(2, V.v (.string (bs [91])))], _) else some (Ex.normal, N38 k 5, _)
  rw [n0]
  cases q : ((19 : Int) == k) with
  | true =>
   simp only [go_sem, l57x0, b57, Tryz.f57, Int.reduceLT, Int.reduceLE, Int.reduceToNat, Nat.reduceLeDiff, decide_true, if_true, n10, hl, q, w1, bs_s38, bs_ext, ed]
   all_goals rfl
  | false =>
   simp only [go_sem, l57x0, b57, Tryz.f57, Int.reduceLT, Int.reduceToNat, decide_true, if_true, n10, q, w1, Bool.false_eq_true, if_false]
   all_goals rfl
 ·have w1 : IntKind.i64.wrap (5 + 1) = 6 := rfl
  have n0 : ((5 : Nat) : Int) = 5 := rfl
  have ed : ((S38.take 6).drop 5) = [93] := rfl
  show _ = if ((20 : Int) == k) = true then some (Ex.ret, [(2, V.v (.string (bs [93])))], _) else some (Ex.normal, N38 k 6, _)
  rw [n0]
  cases q : ((20 : Int) == k) with
  | true =>
   simp only [go_sem, l57x0, b57, Tryz.f57, Int.reduceLT, Int.reduceLE, Int.reduceToNat, Nat.reduceLeDiff, decide_true, if_true, n10, hl, q, w1, bs_s38, bs_ext, ed]
   all_goals rfl
  | false =>
   simp only [go_sem, l57x0, b57, Tryz.f57, Int.reduceLT, Int.reduceToNat, decide_true, if_true, n10, q, w1, Bool.false_eq_true, if_false]
   all_goals rfl
 ·have w1 : IntKind.i64.wrap (6 + 1) = 7 := rfl
  have n0 : ((6 : Nat) : Int) = 6 := rfl
  have ed : ((S38.take 7).drop 6) = [40] := rfl
  show _ = if ((21 : Int) == k) = true then some (Ex.ret, [(2, V.v (.string (bs [40])))], _) else some (Ex.normal, N38 k 7, _)
  rw [n0]
  cases q : ((21 : Int) == k) with
  | true =>
   simp only [go_sem, l57x0, b57, Tryz.f57, Int.reduceLT, Int.reduceLE, Int.reduceToNat, Nat.reduceLeDiff, decide_true, if_true, n10, hl, q, w1, bs_s38, bs_ext, ed]
   all_goals rfl
  | false =>
   simp only [go_sem, l57x0, b57, Tryz.f57, Int.reduceLT, Int.reduceToNat, decide_true, if_true, n10, q, w1, Bool.false_eq_true, if_false]
   all_goals rfl
 ·have w1 : IntKind.i64.wrap (7 + 1) = 8 := rfl
  have n0 : ((7 : Nat) : Int) = 7 := rfl
  have ed : ((S38.take 8).drop 7) = [41] := rfl
  show _ = if ((22 : Int) == k) = true then some (Ex.ret, [(2, V.v (.string (bs [41])))], _) else some (Ex.normal, N38 k 8, _)
  rw [n0]
  cases q : ((22 : Int) == k) with
  | true =>
   simp only [go_sem, l57x0, b57, Tryz.f57, Int.reduceLT, Int.reduceLE, Int.reduceToNat, Nat.reduceLeDiff, decide_true, if_true, n10, hl, q, w1, bs_s38, bs_ext, ed]
   all_goals rfl
  | false =>
   simp only [go_sem, l57x0, b57, Tryz.f57, Int.reduceLT, Int.reduceToNat, decide_true, if_true, n10, q, w1, Bool.false_eq_true, if_false]
   all_goals rfl
 ·have w1 : IntKind.i64.wrap (8 + 1) = 9 := rfl
  have n0 : ((8 : Nat) : Int) = 8 := rfl
  have ed : ((S38.take 9).drop 8) = [123] := rfl
  show _ = if ((23 : Int) == k) = true then some (Ex.ret, [(2, V.v (.string (bs [123])))], _) else some (Ex.normal, N38 k 9, _)
  rw [n0]
  cases q : ((23 : Int) == k) with
  | true =>
   simp only [go_sem, l57x0, b57, Tryz.f57, Int.reduceLT, Int.reduceLE, Int.reduceToNat, Nat.reduceLeDiff, decide_true, if_true, n10, hl, q, w1, bs_s38, bs_ext, ed]
   all_goals rfl
  | false =>
   simp only [go_sem, l57x0, b57, Tryz.f57, Int.reduceLT, Int.reduceToNat, decide_true, if_true, n10, q, w1, Bool.false_eq_true, if_false]
   all_goals rfl
 ·have w1 : IntKind.i64.wrap (9 + 1) = 10 := rfl
  have n0 : ((9 : Nat) : Int) = 9 := rfl
  have ed : ((S38.take 10).drop 9) = [125] := rfl
  show _ = if ((24 : Int) == k) = true then some (Ex.ret, [(2, V.v (.string (bs [125])))], _) else some (Ex.normal, N38 k 10, _)
  rw [n0]
  cases q : ((24 : Int) == k) with
  | true =>
   simp only [go_sem, l57x0, b57, Tryz.f57, Int.reduceLT, Int.reduceLE, Int.reduceToNat, Nat.reduceLeDiff, decide_true, if_true, n10, hl, q, w1, bs_s38, bs_ext, ed]
   all_goals rfl
  | false =>
   simp only [go_sem, l57x0, b57, Tryz.f57, Int.reduceLT, Int.reduceToNat, decide_true, if_true, n10, q, w1, Bool.false_eq_true, if_false]
   all_goals rfl
theorem fix38 : ∀ j : Fin 10, fixT K38[j.val] = [S38[j.val]] := by decide
theorem loop57 (hlo : lo ≤ h.length) : ∀ (m j : Nat), j + m = 10 → k ∈ K38.drop j →
  loopW (evCode ⟨Tryz.prog, E, lo, h.length, h57⟩ loopW l57x0) (N38 k (j : Int), h ++ [.cells A38]) = some (.ret, [(2, .v (.string (bs (fixT k))))], h ++ [.cells A38]) := by
 intro m
 induction m with
 | zero =>
  intro j hj hk
  obtain rfl : j = 10 := by omega
  cases hk
 | succ m ih =>
  intro j hj hk
  have hjl : j < K38.length := by show j < 10; omega
  have hr := round57 (lo := lo) (h := h) (k := k) hlo ⟨j, by omega⟩
  simp only at hr
  rw [loop_eq, hr]
  have hd : K38.drop j = K38[j] :: K38.drop (j + 1) := List.drop_eq_getElem_cons hjl
  cases q : (K38[j] == k) with
  | true =>
   have hf := fix38 ⟨j, by omega⟩
   simp only at hf
   have e : K38[j] = k := by simpa using q
   rw [if_pos rfl, ← e, hf]
   rfl
  | false =>
   rw [if_neg (by simp), loop_n]
   rw [hd] at hk
   rcases List.mem_cons.1 hk with hk | hk
   ·rw [← hk] at q
    simp at q
   ·exact ih (j + 1) (by omega) hk
theorem f57 (hlo : lo ≤ h.length) (hk : k = 6 ∨ k = 8 ∨ k = 13 ∨ k = 14 ∨ k = 15 ∨ k = 16 ∨ k = 17 ∨ k = 18 ∨ k = 19 ∨ k = 20 ∨ k = 21 ∨ k = 22 ∨ k = 23 ∨ k = 24) :
  E lo 57 [.v (.int .i64 k)] h = some (.v (.string (bs (fixT k))), h) := by
 have hL := fun (hk : k ∈ K38) => loop57 (lo := lo) (h := h) (k := k) hlo 10 0 rfl hk
 have n0 : ((0 : Nat) : Int) = 0 := rfl
 rw [n0] at hL
 simp only [l57x0, b57, Tryz.f57, loopAt, loops, bodyOf, go_sem, A38, N38] at hL
 rw [e57 (by simp) (by rfl)]
 rcases hk with rfl | rfl | rfl | rfl | rfl | rfl | rfl | rfl | rfl | rfl | rfl | rfl | rfl | rfl
 all_goals first
  | (
    have hL := hL (by decide)
    simp only [go_sem, b57, Tryz.f57, Int.reduceBEq, hlo, hL]
    all_goals rfl)
  | (
    simp only [go_sem, b57, Tryz.f57, Int.reduceBEq, hlo]
    all_goals rfl)
end
end Go.Lift.P7
end

section
open Go.Proofs
namespace Go.Lift.P7
variable [MX]
open Utf Tok Spell
set_option maxRecDepth 20000
theorem numText_ok {b w : Bool} {m : Int} {p : Nat} {t : List Int} (m0 : 0 ≤ m) (m1 : m ≤ 9223372036854775808) (hp : p ≤ 64) (h : numText b w m p = some t) : By t ∧ t.length ≤ 200 := by
 obtain ⟨g1, g2⟩ := dgt_len 19 m m0 (by
                     have : (10 : Int) ^ (19 + 1) = 100000000000000000000 := by decide
                     omega)
 have h2 : t = (if b = true then [45] else []) ++ (((List.replicate (p + 1 - (dgt m).length) 48 ++ dgt m).take ((List.replicate (p + 1 - (dgt m).length) 48 ++ dgt m).length - p) ++ (if w = true then [] else 46 :: ((List.replicate (p + 1 - (dgt m).length) 48 ++ dgt m).drop ((List.replicate (p + 1 - (dgt m).length) 48 ++ dgt m).length - p) ++ if p = 0 then [48] else [])))) := by
  unfold numText at h
  split at h
  ·cases h
  ·exact (Option.some.inj h).symm
 have hT : By (List.replicate (p + 1 - (dgt m).length) 48 ++ dgt m) := by
  refine by_app (fun c hc => ?_) (dgt_by m)
  have := List.eq_of_mem_replicate hc
  omega
 have hTl : (List.replicate (p + 1 - (dgt m).length) (48 : Int) ++ dgt m).length ≤ 90 := by simp; omega
 generalize List.replicate (p + 1 - (dgt m).length) (48 : Int) ++ dgt m = T at *
 subst h2
 constructor
 ·refine by_app ?_ (by_app (fun c hc => hT c (List.mem_of_mem_take hc)) ?_)
  ·split
   ·exact by_cons (by omega) (by omega) by_nil
   ·exact by_nil
  ·split
   ·exact by_nil
   ·refine by_cons (by omega) (by omega) (by_app (fun c hc => hT c (List.mem_of_mem_drop hc)) ?_)
    split
    ·exact by_cons (by omega) (by omega) by_nil
    ·exact by_nil
 ·have a1 : (if b = true then [(45 : Int)] else []).length ≤ 1 := by split <;> simp
  have a2 : (if w = true then [] else 46 :: (T.drop (T.length - p) ++ if p = 0 then [(48 : Int)] else [])).length ≤ 95 := by
   split
   ·simp
   ·have a3 : (if p = 0 then [(48 : Int)] else []).length ≤ 1 := by split <;> simp
    simp only [List.length_cons, List.length_append, List.length_drop]
    omega
  simp only [List.length_append, List.length_take]
  omega
theorem plainT_ok {n d : Int} {w : Bool} (h0 : -9223372036854775808 ≤ n) (h1 : n ≤ 9223372036854775807) (h2 : -9223372036854775808 ≤ d) (h3 : d ≤ 9223372036854775807) : By ((plainT n d w).getD []) ∧ ((plainT n d w).getD []).length ≤ 200 := by
 cases ht : plainT n d w with
 | none => exact ⟨by_nil, by simp⟩
 | some t =>
  simp only [Option.getD_some]
  unfold plainT at ht
  split at ht
  ·cases ht
  ·rename_i hc
   split at ht
   ·cases ht
    split
    ·refine ⟨fun c hc => ?_, by simp⟩
     have := List.eq_of_mem_replicate hc
     omega
    ·exact ⟨by_cons (by omega) (by omega) (by_cons (by omega) (by omega) (by_cons (by omega) (by omega) (by_cons (by omega) (by omega) by_nil))), by simp⟩
   ·rename_i hd
    have hm : mayR n d = true := by
     cases q : mayR n d with
     | true => rfl
     | false => rw [q] at hc; simp at hc
    have h1d := may_pos hm hd
    split at ht
    ·cases ht
    ·rename_i m p hp
     obtain ⟨m0, m1, p1⟩ := progN_le (by omega) (by omega) h1d h3 hp
     exact numText_ok m0 m1 p1 ht
end Go.Lift.P7
end
