/- spell.Token, jalousieref4.Token: a token's text. -/
import Derived.Test.YtehffjejplpaeaaGreatDoorGKd
import Derived.Test.YtehffjejplpaeaaGreatDoorGKe
set_option linter.unusedVariables false
set_option linter.unusedSimpArgs false
set_option linter.unusedSectionVars false
section
open Go.Proofs
namespace Go.Lift.P7
variable [MX]
open Utf Tok Spell
set_option maxRecDepth 20000
set_option maxHeartbeats 4000000
section
variable {lo : Nat} {h : Heap} {k n d : Int} {b : List Int} {w i : Bool}
theorem bs_40 : (⟨#[40]⟩ : ByteArray) = bs [40] := rfl
theorem bs_64 : (⟨#[64]⟩ : ByteArray) = bs [64] := rfl
theorem bs_35 : (⟨#[35]⟩ : ByteArray) = bs [35] := rfl
theorem bs_37 : (⟨#[37]⟩ : ByteArray) = bs [37] := rfl
theorem bs_g5 : (⟨#[34, 92]⟩ : ByteArray) = bs sg5 := rfl
theorem bs_g7 : (⟨#[34, 39, 40, 41, 92]⟩ : ByteArray) = bs sg7 := rfl
theorem bs_9210 : (⟨#[92, 10]⟩ : ByteArray) = bs [92, 10] := rfl
theorem by_92 : By [92] := fun x hx => by simp at hx; omega
theorem sg5_lo : ∀ c ∈ sg5, 0 ≤ c ∧ c < 128 := by decide
theorem sg7_lo : ∀ c ∈ sg7, 0 ≤ c ∧ c < 128 := by decide
def okV (t : List Int) : V := .tup [.v (.string (bs t)), .v (.int .i64 0)]
def errV : V := .tup [.v (.string (bs [])), .v (.int .i64 1)]
def tokR (k : Int) (b : List Int) (n d : Int) (w i : Bool) : V := if mayV k b n d w i = true then okV (tokenT k b n d w i) else errV
theorem sound_chars (hy : By b) (hs : sound b = true) : ∃ L, b = encs L ∧ raw b = L ∧ (∀ x ∈ L, scal x = x) ∧ L.contains 0 = false ∧ L.length ≤ b.length := by
 have h2 := hs
 unfold sound at h2
 rw [Bool.and_eq_true] at h2
 refine ⟨raw b, (encs_raw b hy h2.1).symm, rfl, raw_scal b hy, ?_, raw_len b⟩
 rw [zero_raw hy h2.1]
 simpa using h2.2
theorem may_sound (h : mayV k b n d w i = true) (hk : k = 1 ∨ k = 2 ∨ k = 3 ∨ k = 4 ∨ k = 5 ∨ k = 7 ∨ k = 12) : sound b = true := by
 unfold mayV at h
 rcases hk with rfl | rfl | rfl | rfl | rfl | rfl | rfl <;> simp at h <;> simp [h]
theorem may_ne (h : mayV k b n d w i = true) (hk : k = 1 ∨ k = 2 ∨ k = 3 ∨ k = 4 ∨ k = 12) : b ≠ [] := by
 unfold mayV at h
 rcases hk with rfl | rfl | rfl | rfl | rfl <;> simp at h <;> simp [h]
theorem may_plain (h : mayV k b n d w i = true) (hk : k = 10 ∨ k = 11 ∨ k = 12) : ∃ t, plainT n d w = some t := by
 unfold mayV at h
 have : (plainT n d w).isSome = true := by rcases hk with rfl | rfl | rfl <;> simp at h <;> simp [h]
 exact Option.isSome_iff_exists.1 this
theorem may_kind (h : mayV k b n d w i = true) : 1 ≤ k ∧ k ≤ 24 := by
 unfold mayV at h
 rcases kinds k with hk | hk | hk | hk | hk | hk | hk | hk
 all_goals first
  | omega
  | (
    exfalso
    rw [if_neg (by omega), if_neg (by omega), if_neg (by omega), if_neg (by omega), if_neg (by omega), if_neg (by omega), if_neg (by omega)] at h
    cases h)
theorem perr (hlo : lo ≤ h.length) (hy : By b) (hl : b.length ≤ 10000000) (h0 : -9223372036854775808 ≤ n) (h1 : n ≤ 9223372036854775807) (h2 : -9223372036854775808 ≤ d) (h3 : d ≤ 9223372036854775807) (hm : mayV k b n d w i = false) :
  E lo 28 [.agg (tokV k b n d w i)] h = some (errV, h) := by
 have hl1 : lo ≤ (h ++ [Ob.cells (tokV k b n d w i)]).length := by simp; omega
 have hl2 : h.length ≤ (h ++ [Ob.cells (tokV k b n d w i)]).length := by simp
 have hl3 : h.length + 1 ≤ (h ++ [Ob.cells (tokV k b n d w i)]).length := by simp
 have km := fun lo hlo => f27 (lo := lo) (h := h ++ [Ob.cells (tokV k b n d w i)]) (k := k) (b := b) (n := n) (d := d) (w := w) (i := i) hlo hy (by omega) h0 h1 h2 h3
 rw [hm] at km
 have kma := km lo hl1; have kmb := km h.length hl2; have kmc := km (h.length + 1) hl3
 rw [e28 (by simp) (by rfl)]
 unfold tokV at *
 simp only [go_sem, b28, Tryz.f28, hlo, kma, kmb, kmc]
 all_goals rfl
theorem p1 (hlo : lo ≤ h.length) {L : List Int} (hs : ∀ x ∈ L, scal x = x) (hz : L.contains 0 = false) (hl : L.length ≤ 10000000) (hb : (encs L).length ≤ 10000000) (h0 : -9223372036854775808 ≤ n) (h1 : n ≤ 9223372036854775807) (h2 : -9223372036854775808 ≤ d) (h3 : d ≤ 9223372036854775807) (hm : mayV 1 (encs L) n d w i = true) :
  E lo 28 [.agg (tokV 1 (encs L) n d w i)] h = some (okV (identT L), h) := by
 have hl1 : lo ≤ (h ++ [Ob.cells (tokV 1 (encs L) n d w i)]).length := by simp; omega
 have hl2 : h.length ≤ (h ++ [Ob.cells (tokV 1 (encs L) n d w i)]).length := by simp
 have hl3 : h.length + 1 ≤ (h ++ [Ob.cells (tokV 1 (encs L) n d w i)]).length := by simp
 have km := fun lo hlo => f27 (lo := lo) (h := h ++ [Ob.cells (tokV 1 (encs L) n d w i)]) (k := 1) (b := (encs L)) (n := n) (d := d) (w := w) (i := i) hlo (encs_by L) (by omega) h0 h1 h2 h3
 rw [hm] at km
 have ki := fun lo hlo => f52 (lo := lo) (h := h ++ [Ob.cells (tokV 1 (encs L) n d w i)]) hlo hs hl
 have kma := km lo hl1; have kmb := km h.length hl2; have kmc := km (h.length + 1) hl3
 have kia := ki lo hl1; have kib := ki h.length hl2; have kic := ki (h.length + 1) hl3
 have hil := identT_len L
 rw [e28 (by simp) (by rfl)]
 unfold tokV at *
 simp only [go_sem, b28, Tryz.f28, Int.reduceBEq, hlo, kma, kmb, kmc, kia, kib, kic]
 all_goals rfl
theorem p2 (hlo : lo ≤ h.length) {L : List Int} (hs : ∀ x ∈ L, scal x = x) (hz : L.contains 0 = false) (hl : L.length ≤ 10000000) (hb : (encs L).length ≤ 10000000) (h0 : -9223372036854775808 ≤ n) (h1 : n ≤ 9223372036854775807) (h2 : -9223372036854775808 ≤ d) (h3 : d ≤ 9223372036854775807) (hm : mayV 2 (encs L) n d w i = true) :
  E lo 28 [.agg (tokV 2 (encs L) n d w i)] h = some (okV (identT L ++ [40]), h) := by
 have hl1 : lo ≤ (h ++ [Ob.cells (tokV 2 (encs L) n d w i)]).length := by simp; omega
 have hl2 : h.length ≤ (h ++ [Ob.cells (tokV 2 (encs L) n d w i)]).length := by simp
 have hl3 : h.length + 1 ≤ (h ++ [Ob.cells (tokV 2 (encs L) n d w i)]).length := by simp
 have km := fun lo hlo => f27 (lo := lo) (h := h ++ [Ob.cells (tokV 2 (encs L) n d w i)]) (k := 2) (b := (encs L)) (n := n) (d := d) (w := w) (i := i) hlo (encs_by L) (by omega) h0 h1 h2 h3
 rw [hm] at km
 have ki := fun lo hlo => f52 (lo := lo) (h := h ++ [Ob.cells (tokV 2 (encs L) n d w i)]) hlo hs hl
 have kma := km lo hl1; have kmb := km h.length hl2; have kmc := km (h.length + 1) hl3
 have kia := ki lo hl1; have kib := ki h.length hl2; have kic := ki (h.length + 1) hl3
 have hil := identT_len L
 have z1 : (bs (identT L)).size + (bs [40]).size ≤ 9223372036854775807 := by rw [bs_size, bs_size]; simp; omega
 rw [e28 (by simp) (by rfl)]
 unfold tokV at *
 simp only [go_sem, b28, Tryz.f28, Int.reduceBEq, hlo, kma, kmb, kmc, kia, kib, kic, bs_40, bs_app, z1]
 all_goals rfl
theorem p3 (hlo : lo ≤ h.length) {L : List Int} (hs : ∀ x ∈ L, scal x = x) (hz : L.contains 0 = false) (hl : L.length ≤ 10000000) (hb : (encs L).length ≤ 10000000) (h0 : -9223372036854775808 ≤ n) (h1 : n ≤ 9223372036854775807) (h2 : -9223372036854775808 ≤ d) (h3 : d ≤ 9223372036854775807) (hm : mayV 3 (encs L) n d w i = true) :
  E lo 28 [.agg (tokV 3 (encs L) n d w i)] h = some (okV (64 :: identT L), h) := by
 have hl1 : lo ≤ (h ++ [Ob.cells (tokV 3 (encs L) n d w i)]).length := by simp; omega
 have hl2 : h.length ≤ (h ++ [Ob.cells (tokV 3 (encs L) n d w i)]).length := by simp
 have hl3 : h.length + 1 ≤ (h ++ [Ob.cells (tokV 3 (encs L) n d w i)]).length := by simp
 have km := fun lo hlo => f27 (lo := lo) (h := h ++ [Ob.cells (tokV 3 (encs L) n d w i)]) (k := 3) (b := (encs L)) (n := n) (d := d) (w := w) (i := i) hlo (encs_by L) (by omega) h0 h1 h2 h3
 rw [hm] at km
 have ki := fun lo hlo => f52 (lo := lo) (h := h ++ [Ob.cells (tokV 3 (encs L) n d w i)]) hlo hs hl
 have kma := km lo hl1; have kmb := km h.length hl2; have kmc := km (h.length + 1) hl3
 have kia := ki lo hl1; have kib := ki h.length hl2; have kic := ki (h.length + 1) hl3
 have hil := identT_len L
 have z1 : (bs [64]).size + (bs (identT L)).size ≤ 9223372036854775807 := by rw [bs_size, bs_size]; simp; omega
 rw [e28 (by simp) (by rfl)]
 unfold tokV at *
 simp only [go_sem, b28, Tryz.f28, Int.reduceBEq, hlo, kma, kmb, kmc, kia, kib, kic, bs_64, bs_app, z1, List.singleton_append]
 all_goals rfl
theorem p4t (hlo : lo ≤ h.length) {L : List Int} (hs : ∀ x ∈ L, scal x = x) (hz : L.contains 0 = false) (hl : L.length ≤ 10000000) (hb : (encs L).length ≤ 10000000) (h0 : -9223372036854775808 ≤ n) (h1 : n ≤ 9223372036854775807) (h2 : -9223372036854775808 ≤ d) (h3 : d ≤ 9223372036854775807) (hm : mayV 4 (encs L) n d w true = true) :
  E lo 28 [.agg (tokV 4 (encs L) n d w true)] h = some (okV (35 :: identT L), h) := by
 have hl1 : lo ≤ (h ++ [Ob.cells (tokV 4 (encs L) n d w true)]).length := by simp; omega
 have hl2 : h.length ≤ (h ++ [Ob.cells (tokV 4 (encs L) n d w true)]).length := by simp
 have hl3 : h.length + 1 ≤ (h ++ [Ob.cells (tokV 4 (encs L) n d w true)]).length := by simp
 have km := fun lo hlo => f27 (lo := lo) (h := h ++ [Ob.cells (tokV 4 (encs L) n d w true)]) (k := 4) (b := (encs L)) (n := n) (d := d) (w := w) (i := true) hlo (encs_by L) (by omega) h0 h1 h2 h3
 rw [hm] at km
 have ki := fun lo hlo => f52 (lo := lo) (h := h ++ [Ob.cells (tokV 4 (encs L) n d w true)]) hlo hs hl
 have kma := km lo hl1; have kmb := km h.length hl2; have kmc := km (h.length + 1) hl3
 have kia := ki lo hl1; have kib := ki h.length hl2; have kic := ki (h.length + 1) hl3
 have hil := identT_len L
 have z1 : (bs [35]).size + (bs (identT L)).size ≤ 9223372036854775807 := by rw [bs_size, bs_size]; simp; omega
 rw [e28 (by simp) (by rfl)]
 unfold tokV at *
 simp only [go_sem, b28, Tryz.f28, Int.reduceBEq, hlo, kma, kmb, kmc, kia, kib, kic, bs_35, bs_app, z1, List.singleton_append]
 all_goals rfl
theorem p4f (hlo : lo ≤ h.length) {L : List Int} (hs : ∀ x ∈ L, scal x = x) (hz : L.contains 0 = false) (hl : L.length ≤ 10000000) (hb : (encs L).length ≤ 10000000) (h0 : -9223372036854775808 ≤ n) (h1 : n ≤ 9223372036854775807) (h2 : -9223372036854775808 ≤ d) (h3 : d ≤ 9223372036854775807) (hm : mayV 4 (encs L) n d w false = true) :
  E lo 28 [.agg (tokV 4 (encs L) n d w false)] h = some (okV (35 :: nameT L), h) := by
 have hl1 : lo ≤ (h ++ [Ob.cells (tokV 4 (encs L) n d w false)]).length := by simp; omega
 have hl2 : h.length ≤ (h ++ [Ob.cells (tokV 4 (encs L) n d w false)]).length := by simp
 have hl3 : h.length + 1 ≤ (h ++ [Ob.cells (tokV 4 (encs L) n d w false)]).length := by simp
 have km := fun lo hlo => f27 (lo := lo) (h := h ++ [Ob.cells (tokV 4 (encs L) n d w false)]) (k := 4) (b := (encs L)) (n := n) (d := d) (w := w) (i := false) hlo (encs_by L) (by omega) h0 h1 h2 h3
 rw [hm] at km
 have ki := fun lo hlo => f53 (lo := lo) (h := h ++ [Ob.cells (tokV 4 (encs L) n d w false)]) hlo hs hl
 have kma := km lo hl1; have kmb := km h.length hl2; have kmc := km (h.length + 1) hl3
 have kia := ki lo hl1; have kib := ki h.length hl2; have kic := ki (h.length + 1) hl3
 have hil := nameT_len L
 have z1 : (bs [35]).size + (bs (nameT L)).size ≤ 9223372036854775807 := by rw [bs_size, bs_size]; simp; omega
 rw [e28 (by simp) (by rfl)]
 unfold tokV at *
 simp only [go_sem, b28, Tryz.f28, Int.reduceBEq, hlo, kma, kmb, kmc, kia, kib, kic, bs_35, bs_app, z1, List.singleton_append]
 all_goals rfl
theorem p5 (hlo : lo ≤ h.length) {L : List Int} (hs : ∀ x ∈ L, scal x = x) (hz : L.contains 0 = false) (hl : L.length ≤ 10000000) (hb : (encs L).length ≤ 10000000) (h0 : -9223372036854775808 ≤ n) (h1 : n ≤ 9223372036854775807) (h2 : -9223372036854775808 ≤ d) (h3 : d ≤ 9223372036854775807) (hm : mayV 5 (encs L) n d w i = true) :
  E lo 28 [.agg (tokV 5 (encs L) n d w i)] h = some (okV (34 :: (textT sg5 false L ++ [34])), h) := by
 have hl1 : lo ≤ (h ++ [Ob.cells (tokV 5 (encs L) n d w i)]).length := by simp; omega
 have hl2 : h.length ≤ (h ++ [Ob.cells (tokV 5 (encs L) n d w i)]).length := by simp
 have hl3 : h.length + 1 ≤ (h ++ [Ob.cells (tokV 5 (encs L) n d w i)]).length := by simp
 have km := fun lo hlo => f27 (lo := lo) (h := h ++ [Ob.cells (tokV 5 (encs L) n d w i)]) (k := 5) (b := (encs L)) (n := n) (d := d) (w := w) (i := i) hlo (encs_by L) (by omega) h0 h1 h2 h3
 rw [hm] at km
 have ki := fun lo hlo => f54 (lo := lo) (h := h ++ [Ob.cells (tokV 5 (encs L) n d w i)]) (sg := sg5) (sp := false) hlo sg5_lo (by decide) hs hl
 have kma := km lo hl1; have kmb := km h.length hl2; have kmc := km (h.length + 1) hl3
 have kia := ki lo hl1; have kib := ki h.length hl2; have kic := ki (h.length + 1) hl3
 have hil := textT_len sg5 false L
 have z1 : (bs [34]).size + (bs (textT sg5 false L)).size ≤ 9223372036854775807 := by rw [bs_size, bs_size]; simp; omega
 have z2 : (bs (34 :: textT sg5 false L)).size + (bs [34]).size ≤ 9223372036854775807 := by rw [bs_size, bs_size]; simp; omega
 rw [e28 (by simp) (by rfl)]
 unfold tokV at *
 simp only [go_sem, b28, Tryz.f28, Int.reduceBEq, hlo, kma, kmb, kmc, kia, kib, kic, bs_g5, bs_34, bs_app, z1, z2, List.cons_append, List.nil_append]
 all_goals rfl
theorem p7 (hlo : lo ≤ h.length) {L : List Int} (hs : ∀ x ∈ L, scal x = x) (hz : L.contains 0 = false) (hl : L.length ≤ 10000000) (hb : (encs L).length ≤ 10000000) (h0 : -9223372036854775808 ≤ n) (h1 : n ≤ 9223372036854775807) (h2 : -9223372036854775808 ≤ d) (h3 : d ≤ 9223372036854775807) (hm : mayV 7 (encs L) n d w i = true) :
  E lo 28 [.agg (tokV 7 (encs L) n d w i)] h = some (okV (117 :: 114 :: 108 :: 40 :: (textT sg7 true L ++ [41])), h) := by
 have hl1 : lo ≤ (h ++ [Ob.cells (tokV 7 (encs L) n d w i)]).length := by simp; omega
 have hl2 : h.length ≤ (h ++ [Ob.cells (tokV 7 (encs L) n d w i)]).length := by simp
 have hl3 : h.length + 1 ≤ (h ++ [Ob.cells (tokV 7 (encs L) n d w i)]).length := by simp
 have km := fun lo hlo => f27 (lo := lo) (h := h ++ [Ob.cells (tokV 7 (encs L) n d w i)]) (k := 7) (b := (encs L)) (n := n) (d := d) (w := w) (i := i) hlo (encs_by L) (by omega) h0 h1 h2 h3
 rw [hm] at km
 have ki := fun lo hlo => f54 (lo := lo) (h := h ++ [Ob.cells (tokV 7 (encs L) n d w i)]) (sg := sg7) (sp := true) hlo sg7_lo (by decide) hs hl
 have kma := km lo hl1; have kmb := km h.length hl2; have kmc := km (h.length + 1) hl3
 have kia := ki lo hl1; have kib := ki h.length hl2; have kic := ki (h.length + 1) hl3
 have hil := textT_len sg7 true L
 have z1 : (bs [117, 114, 108, 40]).size + (bs (textT sg7 true L)).size ≤ 9223372036854775807 := by rw [bs_size, bs_size]; simp; omega
 have z2 : (bs (117 :: 114 :: 108 :: 40 :: textT sg7 true L)).size + (bs [41]).size ≤ 9223372036854775807 := by rw [bs_size, bs_size]; simp; omega
 rw [e28 (by simp) (by rfl)]
 unfold tokV at *
 simp only [go_sem, b28, Tryz.f28, Int.reduceBEq, hlo, kma, kmb, kmc, kia, kib, kic, bs_g7, bs_url, bs_41, bs_app, z1, z2, List.cons_append, List.nil_append]
 all_goals rfl
theorem p9 (hlo : lo ≤ h.length) (hy : By b) (hl : b.length ≤ 10000000) (h0 : -9223372036854775808 ≤ n) (h1 : n ≤ 9223372036854775807) (h2 : -9223372036854775808 ≤ d) (h3 : d ≤ 9223372036854775807) (hm : mayV 9 b n d w i = true) :
  E lo 28 [.agg (tokV 9 b n d w i)] h = some (okV (if b = [92] then [92, 10] else b), h) := by
 have hl1 : lo ≤ (h ++ [Ob.cells (tokV 9 b n d w i)]).length := by simp; omega
 have hl2 : h.length ≤ (h ++ [Ob.cells (tokV 9 b n d w i)]).length := by simp
 have hl3 : h.length + 1 ≤ (h ++ [Ob.cells (tokV 9 b n d w i)]).length := by simp
 have km := fun lo hlo => f27 (lo := lo) (h := h ++ [Ob.cells (tokV 9 b n d w i)]) (k := 9) (b := b) (n := n) (d := d) (w := w) (i := i) hlo hy (by omega) h0 h1 h2 h3
 rw [hm] at km
 have kma := km lo hl1; have kmb := km h.length hl2; have kmc := km (h.length + 1) hl3
 have hb := bs_beq hy by_92
 rw [e28 (by simp) (by rfl)]
 unfold tokV at *
 by_cases hc : b = [92]
 ·have q : (b == [92]) = true := by simp [hc]
  rw [q] at hb
  rw [if_pos hc]
  simp only [go_sem, b28, Tryz.f28, Int.reduceBEq, hlo, kma, kmb, kmc, bs_92, hb, bs_9210]
  all_goals rfl
 ·have q : (b == [92]) = false := by simp [hc]
  rw [q] at hb
  rw [if_neg hc]
  simp only [go_sem, b28, Tryz.f28, Int.reduceBEq, hlo, kma, kmb, kmc, bs_92, hb]
  all_goals rfl
theorem p10 (hlo : lo ≤ h.length) (hy : By b) (hl : b.length ≤ 10000000) (h0 : -9223372036854775808 ≤ n) (h1 : n ≤ 9223372036854775807) (h2 : -9223372036854775808 ≤ d) (h3 : d ≤ 9223372036854775807) (hm : mayV 10 b n d w i = true) {t : List Int} (ht : plainT n d w = some t) :
  E lo 28 [.agg (tokV 10 b n d w i)] h = some (okV (t), h) := by
 have hl1 : lo ≤ (h ++ [Ob.cells (tokV 10 b n d w i)]).length := by simp; omega
 have hl2 : h.length ≤ (h ++ [Ob.cells (tokV 10 b n d w i)]).length := by simp
 have hl3 : h.length + 1 ≤ (h ++ [Ob.cells (tokV 10 b n d w i)]).length := by simp
 have km := fun lo hlo => f27 (lo := lo) (h := h ++ [Ob.cells (tokV 10 b n d w i)]) (k := 10) (b := b) (n := n) (d := d) (w := w) (i := i) hlo hy (by omega) h0 h1 h2 h3
 rw [hm] at km
 have kp := fun lo hlo => f55 (lo := lo) (h := h ++ [Ob.cells (tokV 10 b n d w i)]) hlo (n := n) (d := d) (w := w) h0 h1 h2 h3
 have ep : plainV (some t) = .tup [.v (.string (bs t)), .v (.int .i64 0)] := rfl
 rw [ht, ep] at kp
 have kma := km lo hl1; have kmb := km h.length hl2; have kmc := km (h.length + 1) hl3
 have kpa := kp lo hl1; have kpb := kp h.length hl2; have kpc := kp (h.length + 1) hl3
 have hok := (plainT_ok (n := n) (d := d) (w := w) h0 h1 h2 h3).2
 rw [ht] at hok
 simp only [Option.getD_some] at hok
 rw [e28 (by simp) (by rfl)]
 unfold tokV at *
 simp only [go_sem, b28, Tryz.f28, Int.reduceBEq, hlo, kma, kmb, kmc, kpa, kpb, kpc]
 all_goals rfl
theorem p11 (hlo : lo ≤ h.length) (hy : By b) (hl : b.length ≤ 10000000) (h0 : -9223372036854775808 ≤ n) (h1 : n ≤ 9223372036854775807) (h2 : -9223372036854775808 ≤ d) (h3 : d ≤ 9223372036854775807) (hm : mayV 11 b n d w i = true) {t : List Int} (ht : plainT n d w = some t) :
  E lo 28 [.agg (tokV 11 b n d w i)] h = some (okV (t ++ [37]), h) := by
 have hl1 : lo ≤ (h ++ [Ob.cells (tokV 11 b n d w i)]).length := by simp; omega
 have hl2 : h.length ≤ (h ++ [Ob.cells (tokV 11 b n d w i)]).length := by simp
 have hl3 : h.length + 1 ≤ (h ++ [Ob.cells (tokV 11 b n d w i)]).length := by simp
 have km := fun lo hlo => f27 (lo := lo) (h := h ++ [Ob.cells (tokV 11 b n d w i)]) (k := 11) (b := b) (n := n) (d := d) (w := w) (i := i) hlo hy (by omega) h0 h1 h2 h3
 rw [hm] at km
 have kp := fun lo hlo => f55 (lo := lo) (h := h ++ [Ob.cells (tokV 11 b n d w i)]) hlo (n := n) (d := d) (w := w) h0 h1 h2 h3
 have ep : plainV (some t) = .tup [.v (.string (bs t)), .v (.int .i64 0)] := rfl
 rw [ht, ep] at kp
 have kma := km lo hl1; have kmb := km h.length hl2; have kmc := km (h.length + 1) hl3
 have kpa := kp lo hl1; have kpb := kp h.length hl2; have kpc := kp (h.length + 1) hl3
 have hok := (plainT_ok (n := n) (d := d) (w := w) h0 h1 h2 h3).2
 rw [ht] at hok
 simp only [Option.getD_some] at hok
 have z1 : (bs t).size + (bs [37]).size ≤ 9223372036854775807 := by rw [bs_size, bs_size]; simp; omega
 rw [e28 (by simp) (by rfl)]
 unfold tokV at *
 simp only [go_sem, b28, Tryz.f28, Int.reduceBEq, hlo, kma, kmb, kmc, kpa, kpb, kpc, bs_37, bs_app, z1]
 all_goals rfl
theorem p12 (hlo : lo ≤ h.length) {L : List Int} (hs : ∀ x ∈ L, scal x = x) (hz : L.contains 0 = false) (hl : L.length ≤ 10000000) (hb : (encs L).length ≤ 10000000) (h0 : -9223372036854775808 ≤ n) (h1 : n ≤ 9223372036854775807) (h2 : -9223372036854775808 ≤ d) (h3 : d ≤ 9223372036854775807) (hn : L ≠ []) (hm : mayV 12 (encs L) n d w i = true) {t : List Int} (ht : plainT n d w = some t) :
  E lo 28 [.agg (tokV 12 (encs L) n d w i)] h = some (okV (t ++ unitT L), h) := by
 have hl1 : lo ≤ (h ++ [Ob.cells (tokV 12 (encs L) n d w i)]).length := by simp; omega
 have hl2 : h.length ≤ (h ++ [Ob.cells (tokV 12 (encs L) n d w i)]).length := by simp
 have hl3 : h.length + 1 ≤ (h ++ [Ob.cells (tokV 12 (encs L) n d w i)]).length := by simp
 have km := fun lo hlo => f27 (lo := lo) (h := h ++ [Ob.cells (tokV 12 (encs L) n d w i)]) (k := 12) (b := (encs L)) (n := n) (d := d) (w := w) (i := i) hlo (encs_by L) (by omega) h0 h1 h2 h3
 rw [hm] at km
 have kp := fun lo hlo => f55 (lo := lo) (h := h ++ [Ob.cells (tokV 12 (encs L) n d w i)]) hlo (n := n) (d := d) (w := w) h0 h1 h2 h3
 have ep : plainV (some t) = .tup [.v (.string (bs t)), .v (.int .i64 0)] := rfl
 rw [ht, ep] at kp
 have ku := fun lo hlo => f56 (lo := lo) (h := h ++ [Ob.cells (tokV 12 (encs L) n d w i)]) hlo hs hn hl
 have kma := km lo hl1; have kmb := km h.length hl2; have kmc := km (h.length + 1) hl3
 have kpa := kp lo hl1; have kpb := kp h.length hl2; have kpc := kp (h.length + 1) hl3
 have kua := ku lo hl1; have kub := ku h.length hl2; have kuc := ku (h.length + 1) hl3
 have hok := (plainT_ok (n := n) (d := d) (w := w) h0 h1 h2 h3).2
 rw [ht] at hok
 simp only [Option.getD_some] at hok
 have hul := unitT_len L
 have z1 : (bs t).size + (bs (unitT L)).size ≤ 9223372036854775807 := by rw [bs_size, bs_size]; omega
 rw [e28 (by simp) (by rfl)]
 unfold tokV at *
 simp only [go_sem, b28, Tryz.f28, Int.reduceBEq, hlo, kma, kmb, kmc, kpa, kpb, kpc, kua, kub, kuc, bs_app, z1]
 all_goals rfl
theorem pfix (hlo : lo ≤ h.length) (hy : By b) (hl : b.length ≤ 10000000) (h0 : -9223372036854775808 ≤ n) (h1 : n ≤ 9223372036854775807) (h2 : -9223372036854775808 ≤ d) (h3 : d ≤ 9223372036854775807) (hm : mayV k b n d w i = true) (hk : k = 6 ∨ k = 8 ∨ k = 13 ∨ k = 14 ∨ k = 15 ∨ k = 16 ∨ k = 17 ∨ k = 18 ∨ k = 19 ∨ k = 20 ∨ k = 21 ∨ k = 22 ∨ k = 23 ∨ k = 24) :
  E lo 28 [.agg (tokV k b n d w i)] h = some (okV (fixT k), h) := by
 have hl1 : lo ≤ (h ++ [Ob.cells (tokV k b n d w i)]).length := by simp; omega
 have hl2 : h.length ≤ (h ++ [Ob.cells (tokV k b n d w i)]).length := by simp
 have hl3 : h.length + 1 ≤ (h ++ [Ob.cells (tokV k b n d w i)]).length := by simp
 have km := fun lo hlo => f27 (lo := lo) (h := h ++ [Ob.cells (tokV k b n d w i)]) (k := k) (b := b) (n := n) (d := d) (w := w) (i := i) hlo hy (by omega) h0 h1 h2 h3
 rw [hm] at km
 have kf := fun lo hlo => f57 (lo := lo) (h := h ++ [Ob.cells (tokV k b n d w i)]) (k := k) hlo hk
 have kma := km lo hl1; have kmb := km h.length hl2; have kmc := km (h.length + 1) hl3
 have kfa := kf lo hl1; have kfb := kf h.length hl2; have kfc := kf (h.length + 1) hl3
 rw [e28 (by simp) (by rfl)]
 unfold tokV at *
 rcases hk with rfl | rfl | rfl | rfl | rfl | rfl | rfl | rfl | rfl | rfl | rfl | rfl | rfl | rfl <;>
 simp only [go_sem, b28, Tryz.f28, Int.reduceBEq, hlo, kma, kmb, kmc, kfa, kfb, kfc] <;> rfl
theorem f28 (hlo : lo ≤ h.length) (hy : By b) (hl : b.length ≤ 10000000) (h0 : -9223372036854775808 ≤ n) (h1 : n ≤ 9223372036854775807) (h2 : -9223372036854775808 ≤ d) (h3 : d ≤ 9223372036854775807) : E lo 28 [.agg (tokV k b n d w i)] h = some (tokR k b n d w i, h) := by
 unfold tokR
 cases hm : mayV k b n d w i with
 | false => rw [if_neg (by simp)]; exact perr hlo hy hl h0 h1 h2 h3 hm
 | true =>
  rw [if_pos rfl]
  have hk := may_kind hm
  rcases (by omega : (k = 1 ∨ k = 2 ∨ k = 3 ∨ k = 4 ∨ k = 5 ∨ k = 7 ∨ k = 12) ∨ k = 9 ∨ k = 10 ∨ k = 11 ∨ (k = 6 ∨ k = 8 ∨ k = 13 ∨ k = 14 ∨ k = 15 ∨ k = 16 ∨ k = 17 ∨ k = 18 ∨ k = 19 ∨ k = 20 ∨ k = 21 ∨ k = 22 ∨ k = 23 ∨ k = 24)) with hk | rfl | rfl | rfl | hk
  ·obtain ⟨L, rfl, eL, hs, hz, hL⟩ := sound_chars hy (may_sound hm hk)
   have hn : (k = 1 ∨ k = 2 ∨ k = 3 ∨ k = 4 ∨ k = 12) → L ≠ [] := fun h e => may_ne hm h (by rw [e]; rfl)
   rcases hk with rfl | rfl | rfl | rfl | rfl | rfl | rfl
   ·have e : tokenT 1 (encs L) n d w i = identT L := by unfold tokenT; rw [if_pos rfl, eL]
    rw [e]; exact p1 hlo hs hz (by omega) hl h0 h1 h2 h3 hm
   ·have e : tokenT 2 (encs L) n d w i = identT L ++ [40] := by unfold tokenT; rw [if_neg (by decide), if_pos rfl, eL]
    rw [e]; exact p2 hlo hs hz (by omega) hl h0 h1 h2 h3 hm
   ·have e : tokenT 3 (encs L) n d w i = 64 :: identT L := by unfold tokenT; rw [if_neg (by decide), if_neg (by decide), if_pos rfl, eL]
    rw [e]; exact p3 hlo hs hz (by omega) hl h0 h1 h2 h3 hm
   ·have e : tokenT 4 (encs L) n d w i = 35 :: (if i = true then identT L else nameT L) := by unfold tokenT; rw [if_neg (by decide), if_neg (by decide), if_neg (by decide), if_pos rfl, eL]
    rw [e]
    cases i with
    | true => rw [if_pos rfl]; exact p4t hlo hs hz (by omega) hl h0 h1 h2 h3 hm
    | false => rw [if_neg (by simp)]; exact p4f hlo hs hz (by omega) hl h0 h1 h2 h3 hm
   ·have e : tokenT 5 (encs L) n d w i = 34 :: (textT [34, 92] false L ++ [34]) := by unfold tokenT; rw [if_neg (by decide), if_neg (by decide), if_neg (by decide), if_neg (by decide), if_pos rfl, eL]
    rw [e]; exact p5 hlo hs hz (by omega) hl h0 h1 h2 h3 hm
   ·have e : tokenT 7 (encs L) n d w i = 117 :: 114 :: 108 :: 40 :: (textT [34, 39, 40, 41, 92] true L ++ [41]) := by unfold tokenT; rw [if_neg (by decide), if_neg (by decide), if_neg (by decide), if_neg (by decide), if_neg (by decide), if_pos rfl, eL]
    rw [e]; exact p7 hlo hs hz (by omega) hl h0 h1 h2 h3 hm
   ·obtain ⟨t, ht⟩ := may_plain hm (by omega)
    have e : tokenT 12 (encs L) n d w i = t ++ unitT L := by unfold tokenT; rw [if_neg (by decide), if_neg (by decide), if_neg (by decide), if_neg (by decide), if_neg (by decide), if_neg (by decide), if_neg (by decide), if_neg (by decide), if_neg (by decide), if_pos rfl, eL, ht]; rfl
    rw [e]; exact p12 hlo hs hz (by omega) hl h0 h1 h2 h3 (hn (by omega)) hm ht
  ·have e : tokenT 9 b n d w i = if b = [92] then [92, 10] else b := by unfold tokenT; rw [if_neg (by decide), if_neg (by decide), if_neg (by decide), if_neg (by decide), if_neg (by decide), if_neg (by decide), if_pos rfl]
   rw [e]; exact p9 hlo hy hl h0 h1 h2 h3 hm
  ·obtain ⟨t, ht⟩ := may_plain hm (by omega)
   have e : tokenT 10 b n d w i = t := by unfold tokenT; rw [if_neg (by decide), if_neg (by decide), if_neg (by decide), if_neg (by decide), if_neg (by decide), if_neg (by decide), if_neg (by decide), if_pos rfl, ht]; rfl
   rw [e]; exact p10 hlo hy hl h0 h1 h2 h3 hm ht
  ·obtain ⟨t, ht⟩ := may_plain hm (by omega)
   have e : tokenT 11 b n d w i = t ++ [37] := by unfold tokenT; rw [if_neg (by decide), if_neg (by decide), if_neg (by decide), if_neg (by decide), if_neg (by decide), if_neg (by decide), if_neg (by decide), if_neg (by decide), if_pos rfl, ht]; rfl
   rw [e]; exact p11 hlo hy hl h0 h1 h2 h3 hm ht
  ·have e : tokenT k b n d w i = fixT k := by unfold tokenT; rw [if_neg (by omega), if_neg (by omega), if_neg (by omega), if_neg (by omega), if_neg (by omega), if_neg (by omega), if_neg (by omega), if_neg (by omega), if_neg (by omega), if_neg (by omega)]
   rw [e]; exact pfix hlo hy hl h0 h1 h2 h3 hm hk
end
end Go.Lift.P7
end

section
open Go.Proofs
namespace Go.Lift.P7
variable [MX]
open Utf Tok Spell
set_option maxRecDepth 20000
set_option maxHeartbeats 4000000
structure Tk4 where
 k : Int
 b : List Int
 n : Int
 d : Int
 w : Bool
 i : Bool
def row (t : Tk4) : List V := tokV t.k t.b t.n t.d t.w t.i
structure TokOk (t : Tk4) : Prop where
 hy : By t.b
 hl : t.b.length ≤ 10000000
 h0 : -9223372036854775808 ≤ t.n
 h1 : t.n ≤ 9223372036854775807
 h2 : -9223372036854775808 ≤ t.d
 h3 : t.d ≤ 9223372036854775807
def may4 (t : Tk4) : Bool := mayV t.k t.b t.n t.d t.w t.i
def txt4 (t : Tk4) : List Int := tokenT t.k t.b t.n t.d t.w t.i
def sepT (p : Option Int) (k : Int) : List Int := match p with
 | none => []
 | some j => if apartT j k = true then [47, 42, 42, 47] else []
def tokensT (p : Option Int) : List Tk4 → List Int
 | [] => []
 | t :: l => sepT p t.k ++ (txt4 t ++ tokensT (some t.k) l)
def cost : List Tk4 → Nat
 | [] => 0
 | t :: l => 10 * t.b.length + 304 + cost l
theorem sep_len (p : Option Int) (k : Int) : (sepT p k).length ≤ 4 := by
 unfold sepT
 split
 ·simp
 ·split <;> simp
theorem sep_by (p : Option Int) (k : Int) : By (sepT p k) := by
 unfold sepT
 split
 ·exact by_nil
 ·split
  ·exact by_cons (by omega) (by omega) (by_cons (by omega) (by omega) (by_cons (by omega) (by omega) (by_cons (by omega) (by omega) by_nil)))
  ·exact by_nil
theorem txt_len {t : Tk4} (h : TokOk t) : (txt4 t).length ≤ 10 * t.b.length + 300 := tokenT_len (plainT_ok h.h0 h.h1 h.h2 h.h3).2
theorem txt_by {t : Tk4} (h : TokOk t) : By (txt4 t) := tokenT_by h.hy (plainT_ok h.h0 h.h1 h.h2 h.h3).1
theorem tokens_len : ∀ (l : List Tk4) (p : Option Int), (∀ t ∈ l, TokOk t) → (tokensT p l).length ≤ cost l
 | [], _, _ => by simp [tokensT, cost]
 | t :: l, p, h => by
  have := txt_len (h t (by simp))
  have := sep_len p t.k
  have := tokens_len l (some t.k) fun x hx => h x (by simp [hx])
  simp only [tokensT, cost, List.length_append]
  omega
theorem tokens_by : ∀ (l : List Tk4) (p : Option Int), (∀ t ∈ l, TokOk t) → By (tokensT p l)
 | [], _, _ => by_nil
 | t :: l, p, h => by_app (sep_by p t.k) (by_app (txt_by (h t (by simp))) (tokens_by l _ fun x hx => h x (by simp [hx])))
def prevK (l : List Tk4) : Nat → Option Int
 | 0 => none
 | j + 1 => (l[j]?).map (·.k)
section
variable {lo : Nat} {h : Heap} {l : List Tk4} {t : Tk4} {p0 : V} {out : List Int} {Y : Heap} {k : Nat}
theorem bs_4742 : (⟨#[47, 42, 42, 47]⟩ : ByteArray) = bs [47, 42, 42, 47] := rfl
abbrev N20 (h : Heap) (l : List Tk4) (k : Nat) : Env := [(0, .list .no (l.map row)), (4, .ptr h.length 0), (9, .list .no (l.map row)), (10, .v (.int .i64 l.length)), (11, .v (.int .i64 k))]
abbrev H20 (h : Heap) (p0 : V) (out : List Int) (Y : Heap) : Heap := h ++ .cells [p0, .list .yes (ri .u8 out)] :: Y
theorem at_end (o c : Ob) : (h ++ o :: (Y ++ [c]))[h.length + (Y.length + 1)]? = some c := by
 rw [List.getElem?_append_right (by omega)]
 simp
theorem round20z (hlo : lo ≤ h.length) (hp : okP h.length p0 = true) (hg : l[0]? = some t) (hok : TokOk t) (hm : may4 t = true) (hl : l.length ≤ 1000000000) (ho : out.length ≤ 900000000) :
  evCode ⟨Tryz.prog, E, lo, h.length, h14⟩ loopW l14x0 (N20 h l 0, H20 h p0 out Y) =
   some (.normal, N20 h l 1, H20 h (.ptr h.length 0) (out ++ txt4 t) (Y ++ [.cells (row t)])) := by
 have hlt : 0 < l.length := (List.getElem?_eq_some_iff.1 hg).1
 have hgr : (l.map row)[0]? = some (row t) := by simp [hg]
 have q : decide ((0 : Int) < (l.length : Int)) = true := by simp; omega
 have q0 : decide ((0 : Int) < 0) = false := rfl
 have w1 : IntKind.i64.wrap (0 + 1) = 1 := rfl
 have k17 := fun lo hlo => f28 (lo := lo) (h := H20 h p0 out (Y ++ [.cells (row t)])) (k := t.k) (b := t.b) (n := t.n) (d := t.d) (w := t.w) (i := t.i) hlo hok.hy hok.hl hok.h0 hok.h1 hok.h2 hok.h3
 have er : tokR t.k t.b t.n t.d t.w t.i = .tup [.v (.string (bs (txt4 t))), .v (.int .i64 0)] := by
  unfold tokR okV; unfold may4 at hm; rw [hm]; rfl
 rw [er] at k17
 have hl1 : lo ≤ (H20 h p0 out (Y ++ [.cells (row t)])).length := by simp; omega
 have hl2 : h.length ≤ (H20 h p0 out (Y ++ [.cells (row t)])).length := by simp
 have k17a := k17 lo hl1; have k17b := k17 h.length hl2; have k17c := k17 (H20 h p0 out (Y ++ [.cells (row t)])).length (Nat.le_refl _)
 have htl := txt_len hok
 have hbl := hok.hl
 have c48 := fun lo hlo => f30 (lo := lo) (p := h) (q := Y ++ [.cells (row t)]) (p0 := p0) (out := out) hlo hp (s := txt4 t) (txt_by hok) (by omega) (by omega)
 have c48a := c48 lo hlo; have c48b := c48 h.length (Nat.le_refl _)
 clear k17 c48
 have n0 : ((0 : Nat) : Int) = 0 := rfl
 have n1 : ((1 : Nat) : Int) = 1 := rfl
 have hlo2 : lo ≤ List.length h + (List.length Y + 1) := by omega
 have hat : ∀ o c : Ob, (h ++ o :: (Y ++ [c]))[h.length + (Y.length + 1)]? = some c := at_end
 rw [N20, n0, N20, n1]
 unfold row tokV at *
 simp only [go_sem, l14x0, b14, Tryz.f14, q, q0, hgr, w1, hlo, hlo2, hat, k17a, k17b, k17c, c48a, c48b, Int.reduceBNe, List.append_assoc, List.cons_append, List.nil_append]
theorem round20s {j : Nat} {t0 : Tk4} (hlo : lo ≤ h.length) (hp : okP h.length p0 = true) (hg0 : l[j]? = some t0) (hg : l[j + 1]? = some t) (hok : TokOk t) (hm : may4 t = true) (hl : l.length ≤ 1000000000) (ho : out.length ≤ 900000000) :
  evCode ⟨Tryz.prog, E, lo, h.length, h14⟩ loopW l14x0 (N20 h l (j + 1), H20 h p0 out Y) =
   some (.normal, N20 h l (j + 1 + 1), H20 h (.ptr h.length 0) (out ++ (sepT (some t0.k) t.k ++ txt4 t)) (Y ++ [.cells (row t)])) := by
 have hlt : j + 1 < l.length := (List.getElem?_eq_some_iff.1 hg).1
 have hgr : (l.map row)[j + 1]? = some (row t) := by simp [hg]
 have hgr0 : (l.map row)[j]? = some (row t0) := by simp [hg0]
 have q : decide (((j + 1 : Nat) : Int) < (l.length : Int)) = true := by simp; omega
 have q0 : decide ((0 : Int) < ((j + 1 : Nat) : Int)) = true := by rw [decide_eq_true_iff]; omega
 have w1 : IntKind.i64.wrap (((j + 1 : Nat) : Int) + 1) = ((j + 1 + 1 : Nat) : Int) := wrap_succ (by omega)
 have w2 : IntKind.i64.wrap (((j + 1 : Nat) : Int) - 1) = (j : Int) := by
  have e : ((j + 1 : Nat) : Int) - 1 = (j : Int) := by omega
  rw [e]
  exact wrap_i64 (by omega) (by omega)
 have k17 := fun lo hlo => f28 (lo := lo) (h := H20 h p0 out (Y ++ [.cells (row t)])) (k := t.k) (b := t.b) (n := t.n) (d := t.d) (w := t.w) (i := t.i) hlo hok.hy hok.hl hok.h0 hok.h1 hok.h2 hok.h3
 have er : tokR t.k t.b t.n t.d t.w t.i = .tup [.v (.string (bs (txt4 t))), .v (.int .i64 0)] := by
  unfold tokR okV; unfold may4 at hm; rw [hm]; rfl
 rw [er] at k17
 have hl1 : lo ≤ (H20 h p0 out (Y ++ [.cells (row t)])).length := by simp; omega
 have hl2 : h.length ≤ (H20 h p0 out (Y ++ [.cells (row t)])).length := by simp
 have k17a := k17 lo hl1; have k17b := k17 h.length hl2; have k17c := k17 (H20 h p0 out (Y ++ [.cells (row t)])).length (Nat.le_refl _)
 have k47 := fun lo hlo => f29 (lo := lo) (h := H20 h p0 out (Y ++ [.cells (row t)])) (ka := t0.k) (ta := t0.b) (na := t0.n) (da := t0.d) (wa := t0.w) (ia := t0.i) (kb := t.k) (tb := t.b) (nb := t.n) (db := t.d) (wb := t.w) (ib := t.i) hlo
 have k47a := k47 lo hl1; have k47b := k47 h.length hl2; have k47c := k47 (h.length + (Y.length + 1 + 1)) (by simp)
 have htl := txt_len hok
 have hbl := hok.hl
 have c48 := fun lo hlo => f30 (lo := lo) (p := h) (q := Y ++ [.cells (row t)]) (p0 := p0) (out := out) hlo hp (s := txt4 t) (txt_by hok) (by omega) (by omega)
 have c48a := c48 lo hlo; have c48b := c48 h.length (Nat.le_refl _)
 have d48 := fun lo hlo => f30 (lo := lo) (p := h) (q := Y ++ [.cells (row t)]) (p0 := p0) (out := out) hlo hp (s := [47, 42, 42, 47]) (by_cons (by omega) (by omega) (by_cons (by omega) (by omega) (by_cons (by omega) (by omega) (by_cons (by omega) (by omega) by_nil)))) (by omega) (by simp)
 have d48a := d48 lo hlo; have d48b := d48 h.length (Nat.le_refl _)
 have g48 := fun lo hlo => f30 (lo := lo) (p := h) (q := Y ++ [.cells (row t)]) (p0 := .ptr h.length 0) (out := out ++ [47, 42, 42, 47]) hlo ok_self (s := txt4 t) (txt_by hok) (by simp; omega) (by omega)
 have g48a := g48 lo hlo; have g48b := g48 h.length (Nat.le_refl _)
 clear k17 c48 d48 g48 k47
 have hlo2 : lo ≤ List.length h + (List.length Y + 1) := by omega
 have hat : ∀ o c : Ob, (h ++ o :: (Y ++ [c]))[h.length + (Y.length + 1)]? = some c := at_end
 rw [N20, N20]
 unfold row tokV at *
 unfold sepT
 simp only
 cases qa : apartT t0.k t.k with
 | true =>
  rw [qa] at k47a k47b k47c
  rw [if_pos rfl]
  rw [List.append_assoc] at g48a g48b
  simp only [go_sem, l14x0, b14, Tryz.f14, q, q0, hgr, hgr0, w1, w2, hlo, hlo2, hat, k17a, k17b, k17c, k47a, k47b, k47c, bs_4742, d48a, d48b, g48a, g48b, Int.reduceBNe, List.append_assoc, List.cons_append, List.nil_append]
  all_goals rfl
 | false =>
  rw [qa] at k47a k47b k47c
  rw [if_neg (by simp), List.nil_append]
  simp only [go_sem, l14x0, b14, Tryz.f14, q, q0, hgr, hgr0, w1, w2, hlo, hlo2, hat, k17a, k17b, k17c, k47a, k47b, k47c, c48a, c48b, Int.reduceBNe, List.append_assoc, List.cons_append, List.nil_append]
  all_goals rfl
theorem err20 {k : Nat} (hlo : lo ≤ h.length) (hg : l[k]? = some t) (hok : TokOk t) (hm : may4 t = false) (hl : l.length ≤ 1000000000) :
  evCode ⟨Tryz.prog, E, lo, h.length, h14⟩ loopW l14x0 (N20 h l k, H20 h p0 out Y) =
   some (.ret, [(2, .v (.string (bs []))), (3, .v (.int .i64 1))], H20 h p0 out (Y ++ [.cells (row t)])) := by
 have hlt : k < l.length := (List.getElem?_eq_some_iff.1 hg).1
 have hgr : (l.map row)[k]? = some (row t) := by simp [hg]
 have q : decide ((k : Int) < (l.length : Int)) = true := by simp; omega
 have k17 := fun lo hlo => f28 (lo := lo) (h := H20 h p0 out (Y ++ [.cells (row t)])) (k := t.k) (b := t.b) (n := t.n) (d := t.d) (w := t.w) (i := t.i) hlo hok.hy hok.hl hok.h0 hok.h1 hok.h2 hok.h3
 have er : tokR t.k t.b t.n t.d t.w t.i = .tup [.v (.string (bs [])), .v (.int .i64 1)] := by
  unfold tokR errV; unfold may4 at hm; rw [hm]; rfl
 rw [er] at k17
 have hl1 : lo ≤ (H20 h p0 out (Y ++ [.cells (row t)])).length := by simp; omega
 have hl2 : h.length ≤ (H20 h p0 out (Y ++ [.cells (row t)])).length := by simp
 have k17a := k17 lo hl1; have k17b := k17 h.length hl2; have k17c := k17 (H20 h p0 out (Y ++ [.cells (row t)])).length (Nat.le_refl _)
 clear k17
 have hlo2 : lo ≤ List.length h + (List.length Y + 1) := by omega
 have hat : ∀ o c : Ob, (h ++ o :: (Y ++ [c]))[h.length + (Y.length + 1)]? = some c := at_end
 rw [N20]
 unfold row tokV at *
 simp only [go_sem, l14x0, b14, Tryz.f14, q, hgr, hlo, hlo2, hat, k17a, k17b, k17c, Int.reduceBNe, List.append_assoc, List.cons_append, List.nil_append]
 all_goals rfl
theorem stop14 (hlo : lo ≤ h.length) : loopW (evCode ⟨Tryz.prog, E, lo, h.length, h14⟩ loopW l14x0) (N20 h l l.length, H20 h p0 out Y) =
   some (.exit 0, N20 h l l.length ++ [(12, .v (.bool false))], H20 h p0 out Y) := by
 have q : decide ((l.length : Int) < (l.length : Int)) = false := by simp
 rw [loop_eq]
 simp only [go_sem, l14x0, b14, Tryz.f14, hlo, q]
 all_goals rfl
theorem loop14 (hlo : lo ≤ h.length) (hl : l.length ≤ 1000000000) (hok : ∀ t ∈ l, TokOk t) : ∀ (m k : Nat) (p0 : V) (out : List Int) (Y : Heap), k + m = l.length → okP h.length p0 = true → out.length + cost (l.drop k) ≤ 900000000 →
  if (l.drop k).all may4 = true then
   ∃ p1 Z, okP h.length p1 = true ∧ loopW (evCode ⟨Tryz.prog, E, lo, h.length, h14⟩ loopW l14x0) (N20 h l k, H20 h p0 out Y) = some (.exit 0, N20 h l l.length ++ [(12, .v (.bool false))], H20 h p1 (out ++ tokensT (prevK l k) (l.drop k)) Z)
  else ∃ p1 o Z, loopW (evCode ⟨Tryz.prog, E, lo, h.length, h14⟩ loopW l14x0) (N20 h l k, H20 h p0 out Y) = some (.ret, [(2, .v (.string (bs []))), (3, .v (.int .i64 1))], H20 h p1 o Z) := by
 intro m
 induction m with
 | zero =>
  intro k p0 out Y hk hp _
  obtain rfl : k = l.length := by omega
  rw [List.drop_length, if_pos (show ([] : List Tk4).all may4 = true from rfl)]
  exact ⟨p0, Y, hp, by rw [stop14 hlo, tokensT, List.append_nil]⟩
 | succ m ih =>
  intro k p0 out Y hk hp ho
  have hlt : k < l.length := by omega
  have hg : l[k]? = some l[k] := List.getElem?_eq_getElem hlt
  have hd : l.drop k = l[k] :: l.drop (k + 1) := List.drop_eq_getElem_cons hlt
  have hok1 := hok l[k] (List.getElem_mem hlt)
  rw [hd] at ho ⊢
  generalize l[k] = t at *
  simp only [cost] at ho
  cases hm : may4 t with
  | false =>
   rw [List.all_cons, hm, Bool.false_and, if_neg (by simp)]
   exact ⟨p0, out, Y ++ [.cells (row t)], by rw [loop_eq, err20 hlo hg hok1 hm hl, loop_r]⟩
  | true =>
   have htl := txt_len hok1
   have hsl := sep_len (prevK l k) t.k
   have er : evCode ⟨Tryz.prog, E, lo, h.length, h14⟩ loopW l14x0 (N20 h l k, H20 h p0 out Y) = some (.normal, N20 h l (k + 1), H20 h (.ptr h.length 0) (out ++ (sepT (prevK l k) t.k ++ txt4 t)) (Y ++ [.cells (row t)])) := by
    cases k with
    | zero => exact round20z hlo hp hg hok1 hm hl (by omega)
    | succ j =>
     have hg0 : l[j]? = some l[j] := List.getElem?_eq_getElem (by omega)
     have e : prevK l (j + 1) = some l[j].k := by show (l[j]?).map (·.k) = _; rw [hg0]; rfl
     rw [e]
     exact round20s hlo hp hg0 hg hok1 hm hl (by omega)
   have ek : prevK l (k + 1) = some t.k := by show (l[k]?).map (·.k) = _; rw [hg]; rfl
   have et : tokensT (prevK l k) (t :: l.drop (k + 1)) = (sepT (prevK l k) t.k ++ txt4 t) ++ tokensT (some t.k) (l.drop (k + 1)) := by simp [tokensT]
   have := ih (k + 1) (.ptr h.length 0) (out ++ (sepT (prevK l k) t.k ++ txt4 t)) (Y ++ [.cells (row t)]) (by omega) ok_self (by simp only [List.length_append]; omega)
   rw [List.all_cons, hm, Bool.true_and, loop_eq, er, loop_n, et]
   rw [ek, List.append_assoc] at this
   exact this
def toksR (l : List Tk4) : V := if l.all may4 = true then okV (tokensT none l) else errV
theorem f14 (hlo : lo ≤ h.length) (hl : l.length ≤ 1000000000) (hok : ∀ t ∈ l, TokOk t) (hc : cost l ≤ 900000000) : E lo 14 [.list .no (l.map row)] h = some (toksR l, h) := by
 have hL := loop14 (lo := lo) (h := h) hlo hl hok l.length 0 (.v (.pointer none)) [] [] (by omega) rfl (by rw [List.drop_zero]; simpa using hc)
 have n0 : ((0 : Nat) : Int) = 0 := rfl
 have hlen := tokens_len l none hok
 rw [List.drop_zero] at hL
 unfold toksR
 rw [e14 (by simp) (by rfl)]
 cases hm : l.all may4 with
 | false =>
  rw [hm, if_neg (by simp)] at hL
  obtain ⟨p1, o, Z, hL⟩ := hL
  rw [if_neg (by simp)]
  simp only [l14x0, b14, Tryz.f14, loopAt, loops, bodyOf, go_sem, ri_nil, H20, N20, n0, List.length_map] at hL
  simp only [go_sem, b14, Tryz.f14, hlo, hL, List.length_map]
  all_goals rfl
 | true =>
  rw [hm, if_pos rfl] at hL
  obtain ⟨p1, Z, hp1, hL⟩ := hL
  rw [if_pos rfl]
  have e : prevK l 0 = none := rfl
  rw [e, List.nil_append] at hL
  have k := fun lo hlo => f31 (lo := lo) (p := h) (q := Z) (p0 := p1) (out := tokensT none l) hlo (tokens_by l none hok) (by omega)
  have ka := k lo hlo; have kb := k h.length (Nat.le_refl _)
  simp only [l14x0, b14, Tryz.f14, loopAt, loops, bodyOf, go_sem, ri_nil, H20, N20, n0, List.length_map, List.cons_append, List.nil_append] at hL
  simp only [go_sem, b14, Tryz.f14, hlo, hL, ka, kb, List.length_map]
  all_goals rfl
end
end Go.Lift.P7
end

section
open Go.Proofs
namespace Go.Lift.P7
variable [MX]
open Utf Tok Spell
set_option maxRecDepth 20000
set_option maxHeartbeats 4000000
section
variable {lo : Nat} {h : Heap} {k n d : Int} {b : List Int} {w i : Bool}
theorem rerr (hlo : lo ≤ h.length) (hy : By b) (hl : b.length ≤ 10000000) (h0 : -9223372036854775808 ≤ n) (h1 : n ≤ 9223372036854775807) (h2 : -9223372036854775808 ≤ d) (h3 : d ≤ 9223372036854775807) (hm : mayV k b n d w i = false) :
  E lo 22 [.agg (tokV k b n d w i)] h = some (errV, h) := by
 have hl1 : lo ≤ (h ++ [Ob.cells (tokV k b n d w i)]).length := by simp; omega
 have hl2 : h.length ≤ (h ++ [Ob.cells (tokV k b n d w i)]).length := by simp
 have hl3 : h.length + 1 ≤ (h ++ [Ob.cells (tokV k b n d w i)]).length := by simp
 have km := fun lo hlo => f39 (lo := lo) (h := h ++ [Ob.cells (tokV k b n d w i)]) (k := k) (b := b) (n := n) (d := d) (w := w) (i := i) hlo hy (by omega) h0 h1 h2 h3
 rw [hm] at km
 have kma := km lo hl1; have kmb := km h.length hl2; have kmc := km (h.length + 1) hl3
 rw [e22 (by simp) (by rfl)]
 unfold tokV at *
 simp only [go_sem, b22, Tryz.f22, hlo, kma, kmb, kmc]
 all_goals rfl
theorem r1 (hlo : lo ≤ h.length) {L : List Int} (hs : ∀ x ∈ L, scal x = x) (hz : L.contains 0 = false) (hl : L.length ≤ 10000000) (hb : (encs L).length ≤ 10000000) (h0 : -9223372036854775808 ≤ n) (h1 : n ≤ 9223372036854775807) (h2 : -9223372036854775808 ≤ d) (h3 : d ≤ 9223372036854775807) (hm : mayV 1 (encs L) n d w i = true) :
  E lo 22 [.agg (tokV 1 (encs L) n d w i)] h = some (okV (identT L), h) := by
 have hl1 : lo ≤ (h ++ [Ob.cells (tokV 1 (encs L) n d w i)]).length := by simp; omega
 have hl2 : h.length ≤ (h ++ [Ob.cells (tokV 1 (encs L) n d w i)]).length := by simp
 have hl3 : h.length + 1 ≤ (h ++ [Ob.cells (tokV 1 (encs L) n d w i)]).length := by simp
 have km := fun lo hlo => f39 (lo := lo) (h := h ++ [Ob.cells (tokV 1 (encs L) n d w i)]) (k := 1) (b := (encs L)) (n := n) (d := d) (w := w) (i := i) hlo (encs_by L) (by omega) h0 h1 h2 h3
 rw [hm] at km
 have ki := fun lo hlo => f41 (lo := lo) (h := h ++ [Ob.cells (tokV 1 (encs L) n d w i)]) hlo hs hz hl
 have kma := km lo hl1; have kmb := km h.length hl2; have kmc := km (h.length + 1) hl3
 have kia := ki lo hl1; have kib := ki h.length hl2; have kic := ki (h.length + 1) hl3
 have hil := identT_len L
 rw [e22 (by simp) (by rfl)]
 unfold tokV at *
 simp only [go_sem, b22, Tryz.f22, Int.reduceBEq, hlo, kma, kmb, kmc, kia, kib, kic]
 all_goals rfl
theorem r2 (hlo : lo ≤ h.length) {L : List Int} (hs : ∀ x ∈ L, scal x = x) (hz : L.contains 0 = false) (hl : L.length ≤ 10000000) (hb : (encs L).length ≤ 10000000) (h0 : -9223372036854775808 ≤ n) (h1 : n ≤ 9223372036854775807) (h2 : -9223372036854775808 ≤ d) (h3 : d ≤ 9223372036854775807) (hm : mayV 2 (encs L) n d w i = true) :
  E lo 22 [.agg (tokV 2 (encs L) n d w i)] h = some (okV (identT L ++ [40]), h) := by
 have hl1 : lo ≤ (h ++ [Ob.cells (tokV 2 (encs L) n d w i)]).length := by simp; omega
 have hl2 : h.length ≤ (h ++ [Ob.cells (tokV 2 (encs L) n d w i)]).length := by simp
 have hl3 : h.length + 1 ≤ (h ++ [Ob.cells (tokV 2 (encs L) n d w i)]).length := by simp
 have km := fun lo hlo => f39 (lo := lo) (h := h ++ [Ob.cells (tokV 2 (encs L) n d w i)]) (k := 2) (b := (encs L)) (n := n) (d := d) (w := w) (i := i) hlo (encs_by L) (by omega) h0 h1 h2 h3
 rw [hm] at km
 have ki := fun lo hlo => f41 (lo := lo) (h := h ++ [Ob.cells (tokV 2 (encs L) n d w i)]) hlo hs hz hl
 have kma := km lo hl1; have kmb := km h.length hl2; have kmc := km (h.length + 1) hl3
 have kia := ki lo hl1; have kib := ki h.length hl2; have kic := ki (h.length + 1) hl3
 have hil := identT_len L
 have z1 : (bs (identT L)).size + (bs [40]).size ≤ 9223372036854775807 := by rw [bs_size, bs_size]; simp; omega
 rw [e22 (by simp) (by rfl)]
 unfold tokV at *
 simp only [go_sem, b22, Tryz.f22, Int.reduceBEq, hlo, kma, kmb, kmc, kia, kib, kic, bs_40, bs_app, z1]
 all_goals rfl
theorem r3 (hlo : lo ≤ h.length) {L : List Int} (hs : ∀ x ∈ L, scal x = x) (hz : L.contains 0 = false) (hl : L.length ≤ 10000000) (hb : (encs L).length ≤ 10000000) (h0 : -9223372036854775808 ≤ n) (h1 : n ≤ 9223372036854775807) (h2 : -9223372036854775808 ≤ d) (h3 : d ≤ 9223372036854775807) (hm : mayV 3 (encs L) n d w i = true) :
  E lo 22 [.agg (tokV 3 (encs L) n d w i)] h = some (okV (64 :: identT L), h) := by
 have hl1 : lo ≤ (h ++ [Ob.cells (tokV 3 (encs L) n d w i)]).length := by simp; omega
 have hl2 : h.length ≤ (h ++ [Ob.cells (tokV 3 (encs L) n d w i)]).length := by simp
 have hl3 : h.length + 1 ≤ (h ++ [Ob.cells (tokV 3 (encs L) n d w i)]).length := by simp
 have km := fun lo hlo => f39 (lo := lo) (h := h ++ [Ob.cells (tokV 3 (encs L) n d w i)]) (k := 3) (b := (encs L)) (n := n) (d := d) (w := w) (i := i) hlo (encs_by L) (by omega) h0 h1 h2 h3
 rw [hm] at km
 have ki := fun lo hlo => f41 (lo := lo) (h := h ++ [Ob.cells (tokV 3 (encs L) n d w i)]) hlo hs hz hl
 have kma := km lo hl1; have kmb := km h.length hl2; have kmc := km (h.length + 1) hl3
 have kia := ki lo hl1; have kib := ki h.length hl2; have kic := ki (h.length + 1) hl3
 have hil := identT_len L
 have z1 : (bs [64]).size + (bs (identT L)).size ≤ 9223372036854775807 := by rw [bs_size, bs_size]; simp; omega
 rw [e22 (by simp) (by rfl)]
 unfold tokV at *
 simp only [go_sem, b22, Tryz.f22, Int.reduceBEq, hlo, kma, kmb, kmc, kia, kib, kic, bs_64, bs_app, z1, List.singleton_append]
 all_goals rfl
theorem r4t (hlo : lo ≤ h.length) {L : List Int} (hs : ∀ x ∈ L, scal x = x) (hz : L.contains 0 = false) (hl : L.length ≤ 10000000) (hb : (encs L).length ≤ 10000000) (h0 : -9223372036854775808 ≤ n) (h1 : n ≤ 9223372036854775807) (h2 : -9223372036854775808 ≤ d) (h3 : d ≤ 9223372036854775807) (hm : mayV 4 (encs L) n d w true = true) :
  E lo 22 [.agg (tokV 4 (encs L) n d w true)] h = some (okV (35 :: identT L), h) := by
 have hl1 : lo ≤ (h ++ [Ob.cells (tokV 4 (encs L) n d w true)]).length := by simp; omega
 have hl2 : h.length ≤ (h ++ [Ob.cells (tokV 4 (encs L) n d w true)]).length := by simp
 have hl3 : h.length + 1 ≤ (h ++ [Ob.cells (tokV 4 (encs L) n d w true)]).length := by simp
 have km := fun lo hlo => f39 (lo := lo) (h := h ++ [Ob.cells (tokV 4 (encs L) n d w true)]) (k := 4) (b := (encs L)) (n := n) (d := d) (w := w) (i := true) hlo (encs_by L) (by omega) h0 h1 h2 h3
 rw [hm] at km
 have ki := fun lo hlo => f41 (lo := lo) (h := h ++ [Ob.cells (tokV 4 (encs L) n d w true)]) hlo hs hz hl
 have kma := km lo hl1; have kmb := km h.length hl2; have kmc := km (h.length + 1) hl3
 have kia := ki lo hl1; have kib := ki h.length hl2; have kic := ki (h.length + 1) hl3
 have hil := identT_len L
 have z1 : (bs [35]).size + (bs (identT L)).size ≤ 9223372036854775807 := by rw [bs_size, bs_size]; simp; omega
 rw [e22 (by simp) (by rfl)]
 unfold tokV at *
 simp only [go_sem, b22, Tryz.f22, Int.reduceBEq, hlo, kma, kmb, kmc, kia, kib, kic, bs_35, bs_app, z1, List.singleton_append]
 all_goals rfl
theorem r4f (hlo : lo ≤ h.length) {L : List Int} (hs : ∀ x ∈ L, scal x = x) (hz : L.contains 0 = false) (hl : L.length ≤ 10000000) (hb : (encs L).length ≤ 10000000) (h0 : -9223372036854775808 ≤ n) (h1 : n ≤ 9223372036854775807) (h2 : -9223372036854775808 ≤ d) (h3 : d ≤ 9223372036854775807) (hm : mayV 4 (encs L) n d w false = true) :
  E lo 22 [.agg (tokV 4 (encs L) n d w false)] h = some (okV (35 :: nameT L), h) := by
 have hl1 : lo ≤ (h ++ [Ob.cells (tokV 4 (encs L) n d w false)]).length := by simp; omega
 have hl2 : h.length ≤ (h ++ [Ob.cells (tokV 4 (encs L) n d w false)]).length := by simp
 have hl3 : h.length + 1 ≤ (h ++ [Ob.cells (tokV 4 (encs L) n d w false)]).length := by simp
 have km := fun lo hlo => f39 (lo := lo) (h := h ++ [Ob.cells (tokV 4 (encs L) n d w false)]) (k := 4) (b := (encs L)) (n := n) (d := d) (w := w) (i := false) hlo (encs_by L) (by omega) h0 h1 h2 h3
 rw [hm] at km
 have ki := fun lo hlo => f43 (lo := lo) (h := h ++ [Ob.cells (tokV 4 (encs L) n d w false)]) hlo hl hs
 have kc := fun lo => chars42 (lo := lo) (h := h ++ [Ob.cells (tokV 4 (encs L) n d w false)]) hs hz hl
 have kma := km lo hl1; have kmb := km h.length hl2; have kmc := km (h.length + 1) hl3
 have kia := ki lo hl1; have kib := ki h.length hl2; have kic := ki (h.length + 1) hl3
 have hil := nameT_len L
 have z1 : (bs [35]).size + (bs (nameT L)).size ≤ 9223372036854775807 := by rw [bs_size, bs_size]; simp; omega
 rw [e22 (by simp) (by rfl)]
 unfold tokV at *
 simp only [go_sem, b22, Tryz.f22, Int.reduceBEq, hlo, kma, kmb, kmc, kia, kib, kic, kc, bs_35, bs_app, z1, List.singleton_append]
 all_goals rfl
theorem r5 (hlo : lo ≤ h.length) {L : List Int} (hs : ∀ x ∈ L, scal x = x) (hz : L.contains 0 = false) (hl : L.length ≤ 10000000) (hb : (encs L).length ≤ 10000000) (h0 : -9223372036854775808 ≤ n) (h1 : n ≤ 9223372036854775807) (h2 : -9223372036854775808 ≤ d) (h3 : d ≤ 9223372036854775807) (hm : mayV 5 (encs L) n d w i = true) :
  E lo 22 [.agg (tokV 5 (encs L) n d w i)] h = some (okV (34 :: (textT sg5 false L ++ [34])), h) := by
 have hl1 : lo ≤ (h ++ [Ob.cells (tokV 5 (encs L) n d w i)]).length := by simp; omega
 have hl2 : h.length ≤ (h ++ [Ob.cells (tokV 5 (encs L) n d w i)]).length := by simp
 have hl3 : h.length + 1 ≤ (h ++ [Ob.cells (tokV 5 (encs L) n d w i)]).length := by simp
 have km := fun lo hlo => f39 (lo := lo) (h := h ++ [Ob.cells (tokV 5 (encs L) n d w i)]) (k := 5) (b := (encs L)) (n := n) (d := d) (w := w) (i := i) hlo (encs_by L) (by omega) h0 h1 h2 h3
 rw [hm] at km
 have ki := fun lo hlo => f44 (lo := lo) (h := h ++ [Ob.cells (tokV 5 (encs L) n d w i)]) hlo hl hs hz
 have kma := km lo hl1; have kmb := km h.length hl2; have kmc := km (h.length + 1) hl3
 have kia := ki lo hl1; have kib := ki h.length hl2; have kic := ki (h.length + 1) hl3
 rw [e22 (by simp) (by rfl)]
 unfold tokV at *
 simp only [go_sem, b22, Tryz.f22, Int.reduceBEq, hlo, kma, kmb, kmc, kia, kib, kic]
 all_goals rfl
theorem r7 (hlo : lo ≤ h.length) {L : List Int} (hs : ∀ x ∈ L, scal x = x) (hz : L.contains 0 = false) (hl : L.length ≤ 10000000) (hb : (encs L).length ≤ 10000000) (h0 : -9223372036854775808 ≤ n) (h1 : n ≤ 9223372036854775807) (h2 : -9223372036854775808 ≤ d) (h3 : d ≤ 9223372036854775807) (hm : mayV 7 (encs L) n d w i = true) :
  E lo 22 [.agg (tokV 7 (encs L) n d w i)] h = some (okV (117 :: 114 :: 108 :: 40 :: (textT sg7 true L ++ [41])), h) := by
 have hl1 : lo ≤ (h ++ [Ob.cells (tokV 7 (encs L) n d w i)]).length := by simp; omega
 have hl2 : h.length ≤ (h ++ [Ob.cells (tokV 7 (encs L) n d w i)]).length := by simp
 have hl3 : h.length + 1 ≤ (h ++ [Ob.cells (tokV 7 (encs L) n d w i)]).length := by simp
 have km := fun lo hlo => f39 (lo := lo) (h := h ++ [Ob.cells (tokV 7 (encs L) n d w i)]) (k := 7) (b := (encs L)) (n := n) (d := d) (w := w) (i := i) hlo (encs_by L) (by omega) h0 h1 h2 h3
 rw [hm] at km
 have ki := fun lo hlo => f45 (lo := lo) (h := h ++ [Ob.cells (tokV 7 (encs L) n d w i)]) hlo hl hs hz
 have kma := km lo hl1; have kmb := km h.length hl2; have kmc := km (h.length + 1) hl3
 have kia := ki lo hl1; have kib := ki h.length hl2; have kic := ki (h.length + 1) hl3
 rw [e22 (by simp) (by rfl)]
 unfold tokV at *
 simp only [go_sem, b22, Tryz.f22, Int.reduceBEq, hlo, kma, kmb, kmc, kia, kib, kic]
 all_goals rfl
theorem r9 (hlo : lo ≤ h.length) (hy : By b) (hl : b.length ≤ 10000000) (h0 : -9223372036854775808 ≤ n) (h1 : n ≤ 9223372036854775807) (h2 : -9223372036854775808 ≤ d) (h3 : d ≤ 9223372036854775807) (hm : mayV 9 b n d w i = true) :
  E lo 22 [.agg (tokV 9 b n d w i)] h = some (okV (if b = [92] then [92, 10] else b), h) := by
 have hl1 : lo ≤ (h ++ [Ob.cells (tokV 9 b n d w i)]).length := by simp; omega
 have hl2 : h.length ≤ (h ++ [Ob.cells (tokV 9 b n d w i)]).length := by simp
 have hl3 : h.length + 1 ≤ (h ++ [Ob.cells (tokV 9 b n d w i)]).length := by simp
 have km := fun lo hlo => f39 (lo := lo) (h := h ++ [Ob.cells (tokV 9 b n d w i)]) (k := 9) (b := b) (n := n) (d := d) (w := w) (i := i) hlo hy (by omega) h0 h1 h2 h3
 rw [hm] at km
 have kma := km lo hl1; have kmb := km h.length hl2; have kmc := km (h.length + 1) hl3
 have hb := bs_beq hy by_92
 rw [e22 (by simp) (by rfl)]
 unfold tokV at *
 by_cases hc : b = [92]
 ·have q : (b == [92]) = true := by simp [hc]
  rw [q] at hb
  rw [if_pos hc]
  simp only [go_sem, b22, Tryz.f22, Int.reduceBEq, hlo, kma, kmb, kmc, bs_92, hb, bs_9210]
  all_goals rfl
 ·have q : (b == [92]) = false := by simp [hc]
  rw [q] at hb
  rw [if_neg hc]
  simp only [go_sem, b22, Tryz.f22, Int.reduceBEq, hlo, kma, kmb, kmc, bs_92, hb]
  all_goals rfl
theorem r10 (hlo : lo ≤ h.length) (hy : By b) (hl : b.length ≤ 10000000) (h0 : -9223372036854775808 ≤ n) (h1 : n ≤ 9223372036854775807) (h2 : -9223372036854775808 ≤ d) (h3 : d ≤ 9223372036854775807) (hm : mayV 10 b n d w i = true) {t : List Int} (ht : plainT n d w = some t) :
  E lo 22 [.agg (tokV 10 b n d w i)] h = some (okV (t), h) := by
 have hl1 : lo ≤ (h ++ [Ob.cells (tokV 10 b n d w i)]).length := by simp; omega
 have hl2 : h.length ≤ (h ++ [Ob.cells (tokV 10 b n d w i)]).length := by simp
 have hl3 : h.length + 1 ≤ (h ++ [Ob.cells (tokV 10 b n d w i)]).length := by simp
 have km := fun lo hlo => f39 (lo := lo) (h := h ++ [Ob.cells (tokV 10 b n d w i)]) (k := 10) (b := b) (n := n) (d := d) (w := w) (i := i) hlo hy (by omega) h0 h1 h2 h3
 rw [hm] at km
 have kp := fun lo hlo => f40 (lo := lo) (h := h ++ [Ob.cells (tokV 10 b n d w i)]) hlo (n := n) (d := d) (w := w) h0 h1 h2 h3
 have ep : plainV (some t) = .tup [.v (.string (bs t)), .v (.int .i64 0)] := rfl
 rw [ht, ep] at kp
 have kma := km lo hl1; have kmb := km h.length hl2; have kmc := km (h.length + 1) hl3
 have kpa := kp lo hl1; have kpb := kp h.length hl2; have kpc := kp (h.length + 1) hl3
 have hok := (plainT_ok (n := n) (d := d) (w := w) h0 h1 h2 h3).2
 rw [ht] at hok
 simp only [Option.getD_some] at hok
 rw [e22 (by simp) (by rfl)]
 unfold tokV at *
 simp only [go_sem, b22, Tryz.f22, Int.reduceBEq, hlo, kma, kmb, kmc, kpa, kpb, kpc]
 all_goals rfl
theorem r11 (hlo : lo ≤ h.length) (hy : By b) (hl : b.length ≤ 10000000) (h0 : -9223372036854775808 ≤ n) (h1 : n ≤ 9223372036854775807) (h2 : -9223372036854775808 ≤ d) (h3 : d ≤ 9223372036854775807) (hm : mayV 11 b n d w i = true) {t : List Int} (ht : plainT n d w = some t) :
  E lo 22 [.agg (tokV 11 b n d w i)] h = some (okV (t ++ [37]), h) := by
 have hl1 : lo ≤ (h ++ [Ob.cells (tokV 11 b n d w i)]).length := by simp; omega
 have hl2 : h.length ≤ (h ++ [Ob.cells (tokV 11 b n d w i)]).length := by simp
 have hl3 : h.length + 1 ≤ (h ++ [Ob.cells (tokV 11 b n d w i)]).length := by simp
 have km := fun lo hlo => f39 (lo := lo) (h := h ++ [Ob.cells (tokV 11 b n d w i)]) (k := 11) (b := b) (n := n) (d := d) (w := w) (i := i) hlo hy (by omega) h0 h1 h2 h3
 rw [hm] at km
 have kp := fun lo hlo => f40 (lo := lo) (h := h ++ [Ob.cells (tokV 11 b n d w i)]) hlo (n := n) (d := d) (w := w) h0 h1 h2 h3
 have ep : plainV (some t) = .tup [.v (.string (bs t)), .v (.int .i64 0)] := rfl
 rw [ht, ep] at kp
 have kma := km lo hl1; have kmb := km h.length hl2; have kmc := km (h.length + 1) hl3
 have kpa := kp lo hl1; have kpb := kp h.length hl2; have kpc := kp (h.length + 1) hl3
 have hok := (plainT_ok (n := n) (d := d) (w := w) h0 h1 h2 h3).2
 rw [ht] at hok
 simp only [Option.getD_some] at hok
 have z1 : (bs t).size + (bs [37]).size ≤ 9223372036854775807 := by rw [bs_size, bs_size]; simp; omega
 rw [e22 (by simp) (by rfl)]
 unfold tokV at *
 simp only [go_sem, b22, Tryz.f22, Int.reduceBEq, hlo, kma, kmb, kmc, kpa, kpb, kpc, bs_37, bs_app, z1]
 all_goals rfl
theorem r12 (hlo : lo ≤ h.length) {L : List Int} (hs : ∀ x ∈ L, scal x = x) (hz : L.contains 0 = false) (hl : L.length ≤ 10000000) (hb : (encs L).length ≤ 10000000) (h0 : -9223372036854775808 ≤ n) (h1 : n ≤ 9223372036854775807) (h2 : -9223372036854775808 ≤ d) (h3 : d ≤ 9223372036854775807) (hn : L ≠ []) (hm : mayV 12 (encs L) n d w i = true) {t : List Int} (ht : plainT n d w = some t) :
  E lo 22 [.agg (tokV 12 (encs L) n d w i)] h = some (okV (t ++ unitT L), h) := by
 have hl1 : lo ≤ (h ++ [Ob.cells (tokV 12 (encs L) n d w i)]).length := by simp; omega
 have hl2 : h.length ≤ (h ++ [Ob.cells (tokV 12 (encs L) n d w i)]).length := by simp
 have hl3 : h.length + 1 ≤ (h ++ [Ob.cells (tokV 12 (encs L) n d w i)]).length := by simp
 have km := fun lo hlo => f39 (lo := lo) (h := h ++ [Ob.cells (tokV 12 (encs L) n d w i)]) (k := 12) (b := (encs L)) (n := n) (d := d) (w := w) (i := i) hlo (encs_by L) (by omega) h0 h1 h2 h3
 rw [hm] at km
 have kp := fun lo hlo => f40 (lo := lo) (h := h ++ [Ob.cells (tokV 12 (encs L) n d w i)]) hlo (n := n) (d := d) (w := w) h0 h1 h2 h3
 have ep : plainV (some t) = .tup [.v (.string (bs t)), .v (.int .i64 0)] := rfl
 rw [ht, ep] at kp
 have ku := fun lo hlo => f46 (lo := lo) (h := h ++ [Ob.cells (tokV 12 (encs L) n d w i)]) hlo hs hz hn hl
 have kma := km lo hl1; have kmb := km h.length hl2; have kmc := km (h.length + 1) hl3
 have kpa := kp lo hl1; have kpb := kp h.length hl2; have kpc := kp (h.length + 1) hl3
 have kua := ku lo hl1; have kub := ku h.length hl2; have kuc := ku (h.length + 1) hl3
 have hok := (plainT_ok (n := n) (d := d) (w := w) h0 h1 h2 h3).2
 rw [ht] at hok
 simp only [Option.getD_some] at hok
 have hul := unitT_len L
 have z1 : (bs t).size + (bs (unitT L)).size ≤ 9223372036854775807 := by rw [bs_size, bs_size]; omega
 rw [e22 (by simp) (by rfl)]
 unfold tokV at *
 simp only [go_sem, b22, Tryz.f22, Int.reduceBEq, hlo, kma, kmb, kmc, kpa, kpb, kpc, kua, kub, kuc, bs_app, z1]
 all_goals rfl
theorem rfix (hlo : lo ≤ h.length) (hy : By b) (hl : b.length ≤ 10000000) (h0 : -9223372036854775808 ≤ n) (h1 : n ≤ 9223372036854775807) (h2 : -9223372036854775808 ≤ d) (h3 : d ≤ 9223372036854775807) (hm : mayV k b n d w i = true) (hk : k = 6 ∨ k = 8 ∨ k = 13 ∨ k = 14 ∨ k = 15 ∨ k = 16 ∨ k = 17 ∨ k = 18 ∨ k = 19 ∨ k = 20 ∨ k = 21 ∨ k = 22 ∨ k = 23 ∨ k = 24) :
  E lo 22 [.agg (tokV k b n d w i)] h = some (okV (fixT k), h) := by
 have hl1 : lo ≤ (h ++ [Ob.cells (tokV k b n d w i)]).length := by simp; omega
 have hl2 : h.length ≤ (h ++ [Ob.cells (tokV k b n d w i)]).length := by simp
 have hl3 : h.length + 1 ≤ (h ++ [Ob.cells (tokV k b n d w i)]).length := by simp
 have km := fun lo hlo => f39 (lo := lo) (h := h ++ [Ob.cells (tokV k b n d w i)]) (k := k) (b := b) (n := n) (d := d) (w := w) (i := i) hlo hy (by omega) h0 h1 h2 h3
 rw [hm] at km
 have kma := km lo hl1; have kmb := km h.length hl2; have kmc := km (h.length + 1) hl3
 have n25 : ((25 : Nat) : Int) = 25 := rfl
 rw [e22 (by simp) (by rfl)]
 unfold tokV at *
 rcases hk with rfl | rfl | rfl | rfl | rfl | rfl | rfl | rfl | rfl | rfl | rfl | rfl | rfl | rfl <;>
 simp only [go_sem, b22, Tryz.f22, Int.reduceBEq, hlo, kma, kmb, kmc, n25, Int.reduceLT, if_true] <;> rfl
theorem f22 (hlo : lo ≤ h.length) (hy : By b) (hl : b.length ≤ 10000000) (h0 : -9223372036854775808 ≤ n) (h1 : n ≤ 9223372036854775807) (h2 : -9223372036854775808 ≤ d) (h3 : d ≤ 9223372036854775807) : E lo 22 [.agg (tokV k b n d w i)] h = some (tokR k b n d w i, h) := by
 unfold tokR
 cases hm : mayV k b n d w i with
 | false => rw [if_neg (by simp)]; exact rerr hlo hy hl h0 h1 h2 h3 hm
 | true =>
  rw [if_pos rfl]
  have hk := may_kind hm
  rcases (by omega : (k = 1 ∨ k = 2 ∨ k = 3 ∨ k = 4 ∨ k = 5 ∨ k = 7 ∨ k = 12) ∨ k = 9 ∨ k = 10 ∨ k = 11 ∨ (k = 6 ∨ k = 8 ∨ k = 13 ∨ k = 14 ∨ k = 15 ∨ k = 16 ∨ k = 17 ∨ k = 18 ∨ k = 19 ∨ k = 20 ∨ k = 21 ∨ k = 22 ∨ k = 23 ∨ k = 24)) with hk | rfl | rfl | rfl | hk
  ·obtain ⟨L, rfl, eL, hs, hz, hL⟩ := sound_chars hy (may_sound hm hk)
   have hn : (k = 1 ∨ k = 2 ∨ k = 3 ∨ k = 4 ∨ k = 12) → L ≠ [] := fun h e => may_ne hm h (by rw [e]; rfl)
   rcases hk with rfl | rfl | rfl | rfl | rfl | rfl | rfl
   ·have e : tokenT 1 (encs L) n d w i = identT L := by unfold tokenT; rw [if_pos rfl, eL]
    rw [e]; exact r1 hlo hs hz (by omega) hl h0 h1 h2 h3 hm
   ·have e : tokenT 2 (encs L) n d w i = identT L ++ [40] := by unfold tokenT; rw [if_neg (by decide), if_pos rfl, eL]
    rw [e]; exact r2 hlo hs hz (by omega) hl h0 h1 h2 h3 hm
   ·have e : tokenT 3 (encs L) n d w i = 64 :: identT L := by unfold tokenT; rw [if_neg (by decide), if_neg (by decide), if_pos rfl, eL]
    rw [e]; exact r3 hlo hs hz (by omega) hl h0 h1 h2 h3 hm
   ·have e : tokenT 4 (encs L) n d w i = 35 :: (if i = true then identT L else nameT L) := by unfold tokenT; rw [if_neg (by decide), if_neg (by decide), if_neg (by decide), if_pos rfl, eL]
    rw [e]
    cases i with
    | true => rw [if_pos rfl]; exact r4t hlo hs hz (by omega) hl h0 h1 h2 h3 hm
    | false => rw [if_neg (by simp)]; exact r4f hlo hs hz (by omega) hl h0 h1 h2 h3 hm
   ·have e : tokenT 5 (encs L) n d w i = 34 :: (textT [34, 92] false L ++ [34]) := by unfold tokenT; rw [if_neg (by decide), if_neg (by decide), if_neg (by decide), if_neg (by decide), if_pos rfl, eL]
    rw [e]; exact r5 hlo hs hz (by omega) hl h0 h1 h2 h3 hm
   ·have e : tokenT 7 (encs L) n d w i = 117 :: 114 :: 108 :: 40 :: (textT [34, 39, 40, 41, 92] true L ++ [41]) := by unfold tokenT; rw [if_neg (by decide), if_neg (by decide), if_neg (by decide), if_neg (by decide), if_neg (by decide), if_pos rfl, eL]
    rw [e]; exact r7 hlo hs hz (by omega) hl h0 h1 h2 h3 hm
   ·obtain ⟨t, ht⟩ := may_plain hm (by omega)
    have e : tokenT 12 (encs L) n d w i = t ++ unitT L := by unfold tokenT; rw [if_neg (by decide), if_neg (by decide), if_neg (by decide), if_neg (by decide), if_neg (by decide), if_neg (by decide), if_neg (by decide), if_neg (by decide), if_neg (by decide), if_pos rfl, eL, ht]; rfl
    rw [e]; exact r12 hlo hs hz (by omega) hl h0 h1 h2 h3 (hn (by omega)) hm ht
  ·have e : tokenT 9 b n d w i = if b = [92] then [92, 10] else b := by unfold tokenT; rw [if_neg (by decide), if_neg (by decide), if_neg (by decide), if_neg (by decide), if_neg (by decide), if_neg (by decide), if_pos rfl]
   rw [e]; exact r9 hlo hy hl h0 h1 h2 h3 hm
  ·obtain ⟨t, ht⟩ := may_plain hm (by omega)
   have e : tokenT 10 b n d w i = t := by unfold tokenT; rw [if_neg (by decide), if_neg (by decide), if_neg (by decide), if_neg (by decide), if_neg (by decide), if_neg (by decide), if_neg (by decide), if_pos rfl, ht]; rfl
   rw [e]; exact r10 hlo hy hl h0 h1 h2 h3 hm ht
  ·obtain ⟨t, ht⟩ := may_plain hm (by omega)
   have e : tokenT 11 b n d w i = t ++ [37] := by unfold tokenT; rw [if_neg (by decide), if_neg (by decide), if_neg (by decide), if_neg (by decide), if_neg (by decide), if_neg (by decide), if_neg (by decide), if_neg (by decide), if_pos rfl, ht]; rfl
   rw [e]; exact r11 hlo hy hl h0 h1 h2 h3 hm ht
  ·have e : tokenT k b n d w i = fixT k := by unfold tokenT; rw [if_neg (by omega), if_neg (by omega), if_neg (by omega), if_neg (by omega), if_neg (by omega), if_neg (by omega), if_neg (by omega), if_neg (by omega), if_neg (by omega), if_neg (by omega)]
   rw [e]; exact rfix hlo hy hl h0 h1 h2 h3 hm hk
end
end Go.Lift.P7
end

section
open Go.Proofs
namespace Go.Lift.P7
variable [MX]
open Utf Tok Spell
set_option maxRecDepth 20000
set_option maxHeartbeats 4000000
section
variable {lo : Nat} {h : Heap} {l : List Tk4} {t : Tk4} {out : List Int} {Y : Heap} {k : Nat}
abbrev N21 (l : List Tk4) (out : List Int) (k : Nat) : Env := [(0, .list .no (l.map row)), (4, .list .yes (ri .u8 out)), (9, .list .no (l.map row)), (10, .v (.int .i64 l.length)), (11, .v (.int .i64 k))]
theorem at_end2 (c : Ob) : (h ++ (Y ++ [c]))[h.length + Y.length]? = some c := by
 rw [List.getElem?_append_right (by omega)]
 simp
theorem round21z (hlo : lo ≤ h.length) (hg : l[0]? = some t) (hok : TokOk t) (hm : may4 t = true) (hl : l.length ≤ 1000000000) (ho : out.length ≤ 900000000) :
  evCode ⟨Tryz.prog, E, lo, h.length, h17⟩ loopW l17x0 (N21 l out 0, h ++ Y) =
   some (.normal, N21 l (out ++ txt4 t) 1, h ++ (Y ++ [Ob.cells (row t)])) := by
 have hlt : 0 < l.length := (List.getElem?_eq_some_iff.1 hg).1
 have hgr : (l.map row)[0]? = some (row t) := by simp [hg]
 have q : decide ((0 : Int) < (l.length : Int)) = true := by simp; omega
 have q0 : decide ((0 : Int) < 0) = false := rfl
 have w1 : IntKind.i64.wrap (0 + 1) = 1 := rfl
 have k18 := fun lo hlo => f22 (lo := lo) (h := h ++ (Y ++ [Ob.cells (row t)])) (k := t.k) (b := t.b) (n := t.n) (d := t.d) (w := t.w) (i := t.i) hlo hok.hy hok.hl hok.h0 hok.h1 hok.h2 hok.h3
 have er : tokR t.k t.b t.n t.d t.w t.i = .tup [.v (.string (bs (txt4 t))), .v (.int .i64 0)] := by
  unfold tokR okV; unfold may4 at hm; rw [hm]; rfl
 rw [er] at k18
 have hl1 : lo ≤ (h ++ (Y ++ [Ob.cells (row t)])).length := by simp; omega
 have hl2 : h.length ≤ (h ++ (Y ++ [Ob.cells (row t)])).length := by simp
 have k18a := k18 lo hl1; have k18b := k18 h.length hl2; have k18c := k18 (h.length + (Y.length + 1)) (by simp)
 have htl := txt_len hok
 have hbl := hok.hl
 have sz := bs_size (txt4 t)
 have hb := bytes_bs (txt_by hok)
 have z1 : (out.length + (txt4 t).length) * 1 ≤ 140737488355328 := by omega
 have z2 : out.length + (txt4 t).length ≤ 9223372036854775807 := by omega
 clear k18
 have n0 : ((0 : Nat) : Int) = 0 := rfl
 have n1 : ((1 : Nat) : Int) = 1 := rfl
 have hlo2 : lo ≤ List.length h + List.length Y := by omega
 have hat : ∀ c : Ob, (h ++ (Y ++ [c]))[h.length + Y.length]? = some c := at_end2
 have e : ri .u8 (out ++ txt4 t) = ri .u8 out ++ ri .u8 (txt4 t) := by rw [← ri_app]
 rw [N21, n0, N21, n1, e]
 unfold row tokV at *
 simp only [go_sem, l17x0, b17, Tryz.f17, q, q0, hgr, w1, hlo, hlo2, hat, k18a, k18b, k18c, sz, hb, z1, z2, Int.reduceBNe, List.append_assoc, List.cons_append, List.nil_append]
 all_goals rfl
theorem round21s {j : Nat} {t0 : Tk4} (hlo : lo ≤ h.length) (hg0 : l[j]? = some t0) (hg : l[j + 1]? = some t) (hok : TokOk t) (hm : may4 t = true) (hl : l.length ≤ 1000000000) (ho : out.length ≤ 900000000) :
  evCode ⟨Tryz.prog, E, lo, h.length, h17⟩ loopW l17x0 (N21 l out (j + 1), h ++ Y) =
   some (.normal, N21 l (out ++ (sepT (some t0.k) t.k ++ txt4 t)) (j + 1 + 1), h ++ (Y ++ [Ob.cells (row t)])) := by
 have hlt : j + 1 < l.length := (List.getElem?_eq_some_iff.1 hg).1
 have hgr : (l.map row)[j + 1]? = some (row t) := by simp [hg]
 have hgr0 : (l.map row)[j]? = some (row t0) := by simp [hg0]
 have q : decide (((j + 1 : Nat) : Int) < (l.length : Int)) = true := by simp; omega
 have q0 : decide ((0 : Int) < ((j + 1 : Nat) : Int)) = true := by rw [decide_eq_true_iff]; omega
 have w1 : IntKind.i64.wrap (((j + 1 : Nat) : Int) + 1) = ((j + 1 + 1 : Nat) : Int) := wrap_succ (by omega)
 have w2 : IntKind.i64.wrap (((j + 1 : Nat) : Int) - 1) = (j : Int) := by
  have e : ((j + 1 : Nat) : Int) - 1 = (j : Int) := by omega
  rw [e]
  exact wrap_i64 (by omega) (by omega)
 have k18 := fun lo hlo => f22 (lo := lo) (h := h ++ (Y ++ [Ob.cells (row t)])) (k := t.k) (b := t.b) (n := t.n) (d := t.d) (w := t.w) (i := t.i) hlo hok.hy hok.hl hok.h0 hok.h1 hok.h2 hok.h3
 have er : tokR t.k t.b t.n t.d t.w t.i = .tup [.v (.string (bs (txt4 t))), .v (.int .i64 0)] := by
  unfold tokR okV; unfold may4 at hm; rw [hm]; rfl
 rw [er] at k18
 have hl1 : lo ≤ (h ++ (Y ++ [Ob.cells (row t)])).length := by simp; omega
 have hl2 : h.length ≤ (h ++ (Y ++ [Ob.cells (row t)])).length := by simp
 have k18a := k18 lo hl1; have k18b := k18 h.length hl2; have k18c := k18 (h.length + (Y.length + 1)) (by simp)
 have k50 := fun lo hlo => f34 (lo := lo) (h := h ++ (Y ++ [Ob.cells (row t)])) (ka := t0.k) (ta := t0.b) (na := t0.n) (da := t0.d) (wa := t0.w) (ia := t0.i) (kb := t.k) (tb := t.b) (nb := t.n) (db := t.d) (wb := t.w) (ib := t.i) hlo
 have k50a := k50 lo hl1; have k50b := k50 h.length hl2; have k50c := k50 (h.length + (Y.length + 1)) (by simp)
 have htl := txt_len hok
 have hbl := hok.hl
 have sz := bs_size (txt4 t)
 have hb := bytes_bs (txt_by hok)
 have z1 : (out.length + (txt4 t).length) * 1 ≤ 140737488355328 := by omega
 have z2 : out.length + (txt4 t).length ≤ 9223372036854775807 := by omega
 have z3 : (out.length + 4 + (txt4 t).length) * 1 ≤ 140737488355328 := by omega
 have z4 : out.length + 4 + (txt4 t).length ≤ 9223372036854775807 := by omega
 have sz4 : (bs [47, 42, 42, 47]).size = 4 := bs_size [47, 42, 42, 47]
 have hb4 := bytes_bs (l := [47, 42, 42, 47]) (by_cons (by omega) (by omega) (by_cons (by omega) (by omega) (by_cons (by omega) (by omega) (by_cons (by omega) (by omega) by_nil))))
 have z5 : (out.length + 4) * 1 ≤ 140737488355328 := by omega
 have z6 : out.length + 4 ≤ 9223372036854775807 := by omega
 clear k18 k50
 have hlo2 : lo ≤ List.length h + List.length Y := by omega
 have hat : ∀ c : Ob, (h ++ (Y ++ [c]))[h.length + Y.length]? = some c := at_end2
 have e : ∀ a b : List Int, ri .u8 (a ++ b) = ri .u8 a ++ ri .u8 b := fun a b => by rw [← ri_app]
 have e4 : (ri .u8 [47, 42, 42, 47]).length = 4 := rfl
 rw [N21, N21]
 unfold row tokV at *
 unfold sepT
 simp only
 cases qa : apartT t0.k t.k with
 | true =>
  rw [qa] at k50a k50b k50c
  rw [if_pos rfl, e, e]
  simp only [go_sem, l17x0, b17, Tryz.f17, q, q0, hgr, hgr0, w1, w2, hlo, hlo2, hat, k18a, k18b, k18c, k50a, k50b, k50c, bs_4742, sz, hb, sz4, hb4, e4, z1, z2, z3, z4, z5, z6, Int.reduceBNe, List.append_assoc, List.length_append]
  all_goals rfl
 | false =>
  rw [qa] at k50a k50b k50c
  rw [if_neg (by simp), List.nil_append, e]
  simp only [go_sem, l17x0, b17, Tryz.f17, q, q0, hgr, hgr0, w1, w2, hlo, hlo2, hat, k18a, k18b, k18c, k50a, k50b, k50c, sz, hb, z1, z2, Int.reduceBNe, List.append_assoc, List.cons_append, List.nil_append]
  all_goals rfl
theorem err21 {k : Nat} (hlo : lo ≤ h.length) (hg : l[k]? = some t) (hok : TokOk t) (hm : may4 t = false) (hl : l.length ≤ 1000000000) :
  evCode ⟨Tryz.prog, E, lo, h.length, h17⟩ loopW l17x0 (N21 l out k, h ++ Y) =
   some (.ret, [(2, .v (.string (bs []))), (3, .v (.int .i64 1))], h ++ (Y ++ [Ob.cells (row t)])) := by
 have hlt : k < l.length := (List.getElem?_eq_some_iff.1 hg).1
 have hgr : (l.map row)[k]? = some (row t) := by simp [hg]
 have q : decide ((k : Int) < (l.length : Int)) = true := by simp; omega
 have k18 := fun lo hlo => f22 (lo := lo) (h := h ++ (Y ++ [Ob.cells (row t)])) (k := t.k) (b := t.b) (n := t.n) (d := t.d) (w := t.w) (i := t.i) hlo hok.hy hok.hl hok.h0 hok.h1 hok.h2 hok.h3
 have er : tokR t.k t.b t.n t.d t.w t.i = .tup [.v (.string (bs [])), .v (.int .i64 1)] := by
  unfold tokR errV; unfold may4 at hm; rw [hm]; rfl
 rw [er] at k18
 have hl1 : lo ≤ (h ++ (Y ++ [Ob.cells (row t)])).length := by simp; omega
 have hl2 : h.length ≤ (h ++ (Y ++ [Ob.cells (row t)])).length := by simp
 have k18a := k18 lo hl1; have k18b := k18 h.length hl2; have k18c := k18 (h.length + (Y.length + 1)) (by simp)
 clear k18
 have hlo2 : lo ≤ List.length h + List.length Y := by omega
 have hat : ∀ c : Ob, (h ++ (Y ++ [c]))[h.length + Y.length]? = some c := at_end2
 rw [N21]
 unfold row tokV at *
 simp only [go_sem, l17x0, b17, Tryz.f17, q, hgr, hlo, hlo2, hat, k18a, k18b, k18c, Int.reduceBNe, List.append_assoc, List.cons_append, List.nil_append]
 all_goals rfl
theorem stop17 (hlo : lo ≤ h.length) : loopW (evCode ⟨Tryz.prog, E, lo, h.length, h17⟩ loopW l17x0) (N21 l out l.length, h ++ Y) =
   some (.exit 0, N21 l out l.length ++ [(12, .v (.bool false))], h ++ Y) := by
 have q : decide ((l.length : Int) < (l.length : Int)) = false := by simp
 rw [loop_eq]
 simp only [go_sem, l17x0, b17, Tryz.f17, hlo, q]
 all_goals rfl
theorem loop17 (hlo : lo ≤ h.length) (hl : l.length ≤ 1000000000) (hok : ∀ t ∈ l, TokOk t) : ∀ (m k : Nat) (out : List Int) (Y : Heap), k + m = l.length → out.length + cost (l.drop k) ≤ 900000000 →
  if (l.drop k).all may4 = true then
   ∃ Z, loopW (evCode ⟨Tryz.prog, E, lo, h.length, h17⟩ loopW l17x0) (N21 l out k, h ++ Y) = some (.exit 0, N21 l (out ++ tokensT (prevK l k) (l.drop k)) l.length ++ [(12, .v (.bool false))], h ++ Z)
  else ∃ Z, loopW (evCode ⟨Tryz.prog, E, lo, h.length, h17⟩ loopW l17x0) (N21 l out k, h ++ Y) = some (.ret, [(2, .v (.string (bs []))), (3, .v (.int .i64 1))], h ++ Z) := by
 intro m
 induction m with
 | zero =>
  intro k out Y hk _
  obtain rfl : k = l.length := by omega
  rw [List.drop_length, if_pos (show ([] : List Tk4).all may4 = true from rfl)]
  exact ⟨Y, by rw [stop17 hlo, tokensT, List.append_nil]⟩
 | succ m ih =>
  intro k out Y hk ho
  have hlt : k < l.length := by omega
  have hg : l[k]? = some l[k] := List.getElem?_eq_getElem hlt
  have hd : l.drop k = l[k] :: l.drop (k + 1) := List.drop_eq_getElem_cons hlt
  have hok1 := hok l[k] (List.getElem_mem hlt)
  rw [hd] at ho ⊢
  generalize l[k] = t at *
  simp only [cost] at ho
  cases hm : may4 t with
  | false =>
   rw [List.all_cons, hm, Bool.false_and, if_neg (by simp)]
   exact ⟨Y ++ [Ob.cells (row t)], by rw [loop_eq, err21 hlo hg hok1 hm hl, loop_r]⟩
  | true =>
   have htl := txt_len hok1
   have hsl := sep_len (prevK l k) t.k
   have er : evCode ⟨Tryz.prog, E, lo, h.length, h17⟩ loopW l17x0 (N21 l out k, h ++ Y) = some (.normal, N21 l (out ++ (sepT (prevK l k) t.k ++ txt4 t)) (k + 1), h ++ (Y ++ [Ob.cells (row t)])) := by
    cases k with
    | zero => exact round21z hlo hg hok1 hm hl (by omega)
    | succ j =>
     have hg0 : l[j]? = some l[j] := List.getElem?_eq_getElem (by omega)
     have e : prevK l (j + 1) = some l[j].k := by show (l[j]?).map (·.k) = _; rw [hg0]; rfl
     rw [e]
     exact round21s hlo hg0 hg hok1 hm hl (by omega)
   have ek : prevK l (k + 1) = some t.k := by show (l[k]?).map (·.k) = _; rw [hg]; rfl
   have et : tokensT (prevK l k) (t :: l.drop (k + 1)) = (sepT (prevK l k) t.k ++ txt4 t) ++ tokensT (some t.k) (l.drop (k + 1)) := by simp [tokensT]
   have := ih (k + 1) (out ++ (sepT (prevK l k) t.k ++ txt4 t)) (Y ++ [Ob.cells (row t)]) (by omega) (by simp only [List.length_append]; omega)
   rw [List.all_cons, hm, Bool.true_and, loop_eq, er, loop_n, et]
   rw [ek, List.append_assoc] at this
   exact this
theorem f17 (hlo : lo ≤ h.length) (hl : l.length ≤ 1000000000) (hok : ∀ t ∈ l, TokOk t) (hc : cost l ≤ 900000000) : E lo 17 [.list .no (l.map row)] h = some (toksR l, h) := by
 have hL := loop17 (lo := lo) (h := h) hlo hl hok l.length 0 [] [] (by omega) (by rw [List.drop_zero]; simpa using hc)
 have n0 : ((0 : Nat) : Int) = 0 := rfl
 have hlen := tokens_len l none hok
 rw [List.drop_zero] at hL
 unfold toksR
 rw [e17 (by simp) (by rfl)]
 cases hm : l.all may4 with
 | false =>
  rw [hm, if_neg (by simp)] at hL
  obtain ⟨Z, hL⟩ := hL
  rw [if_neg (by simp)]
  simp only [l17x0, b17, Tryz.f17, loopAt, loops, bodyOf, go_sem, ri_nil, N21, n0, List.length_map, List.append_nil] at hL
  simp only [go_sem, b17, Tryz.f17, hlo, hL, List.length_map]
  all_goals rfl
 | true =>
  rw [hm, if_pos rfl] at hL
  obtain ⟨Z, hL⟩ := hL
  rw [if_pos rfl]
  have e : prevK l 0 = none := rfl
  rw [e, List.nil_append] at hL
  simp only [l17x0, b17, Tryz.f17, loopAt, loops, bodyOf, go_sem, ri_nil, N21, n0, List.length_map, List.cons_append, List.nil_append, List.append_nil] at hL
  have e3 : (⟨(u8s (tokensT none l)).toArray⟩ : ByteArray) = bs (tokensT none l) := rfl
  simp only [go_sem, b17, Tryz.f17, hlo, hL, List.length_map, ri_bytes, e3]
  all_goals rfl
end
end Go.Lift.P7
end

section
open Go.Proofs
namespace Go.Lift.P7
variable [MX]
open Utf Tok Spell
set_option maxRecDepth 20000
set_option maxHeartbeats 4000000
variable {lo : Nat} {h : Heap}
def ofR (t : Rul.Tk4) : Tk4 := ⟨t.k, t.b, t.n, t.d, t.w, t.i⟩
theorem rows_ofR (l : List Rul.Tk4) : l.map Rul.row = (l.map ofR).map row := by
 rw [List.map_map]
 rfl
theorem all_ofR (l : List Rul.Tk4) : (l.map ofR).all may4 = l.all mayT := by
 rw [List.all_map]
 rfl
theorem ok_ofR {l : List Rul.Tk4} (hok : ∀ t ∈ l, OkT t) : ∀ t ∈ l.map ofR, TokOk t := fun t ht => by
 obtain ⟨u, hu, rfl⟩ := List.mem_map.1 ht
 have := hok u hu
 exact ⟨this.hy, this.hl, this.h0, this.h1, this.h2, this.h3⟩
def valsT (l : List Rul.CV) : List Int := tokensT none ((Rul.flatL l).map ofR)
def valsR (l : List Rul.CV) : V := if fineL l = true then okV (valsT l) else errV
structure OkL (l : List Rul.CV) : Prop where
 hn : Rul.nodesL l ≤ 100000000
 hok : ∀ t ∈ Rul.flatL l, OkT t
 hc : cost ((Rul.flatL l).map ofR) ≤ 900000000
theorem toksR_eq (l : List Rul.CV) : toksR ((Rul.flatL l).map ofR) = if (Rul.flatL l).all mayT = true then okV (valsT l) else errV := by
 unfold toksR
 rw [all_ofR]
 rfl
theorem f6 {l : List Rul.CV} (hlo : lo ≤ h.length) (hL : OkL l) : E lo 6 [.list .no (Rul.rowsC l)] h = some (valsR l, h) := by
 have hfl := Rul.flatL_len l
 have hnn := hL.hn
 have c13 := fun lo hlo => f13 (lo := lo) (h := h) (l := l) hlo hL.hn hL.hok
 have c13a := c13 lo hlo; have c13b := c13 h.length (Nat.le_refl _)
 have c15 := fun lo hlo => f15 (lo := lo) (h := h) (l := l) hlo hL.hn
 have c15a := c15 lo hlo; have c15b := c15 h.length (Nat.le_refl _)
 have c14 := fun lo hlo => f14 (lo := lo) (h := h) (l := (Rul.flatL l).map ofR) hlo (by rw [List.length_map]; omega) (ok_ofR hL.hok) hL.hc
 rw [toksR_eq, ← rows_ofR] at c14
 have c14a := c14 lo hlo; have c14b := c14 h.length (Nat.le_refl _)
 clear c13 c14 c15
 unfold valsR
 rw [e6 (by simp) (by rfl)]
 cases hm : fineL l with
 | false =>
  rw [hm] at c13a c13b
  rw [if_neg (by simp)]
  unfold errV
  simp only [go_sem, b6, Tryz.f6, hlo, c13a, c13b]
  all_goals rfl
 | true =>
  rw [hm] at c13a c13b
  have ha : (Rul.flatL l).all mayT = true := by
   unfold fineL at hm
   rw [Bool.and_eq_true] at hm
   exact hm.2
  rw [if_pos ha] at c14a c14b
  rw [if_pos rfl]
  unfold okV at *
  simp only [go_sem, b6, Tryz.f6, hlo, c13a, c13b, c14a, c14b, c15a, c15b]
  all_goals rfl
theorem f7 {l : List Rul.CV} (hlo : lo ≤ h.length) (hL : OkL l) : E lo 7 [.list .no (Rul.rowsC l)] h = some (valsR l, h) := by
 have hfl := Rul.flatL_len l
 have hnn := hL.hn
 have c16 := fun lo hlo => f16 (lo := lo) (h := h) (l := l) hlo (by omega)
 have c16a := c16 lo hlo; have c16b := c16 h.length (Nat.le_refl _)
 have c18 := fun lo hlo => f18 (Rul.nodesL l) l (Nat.le_refl _) hL.hn lo h hlo
 have c18a := c18 lo hlo; have c18b := c18 h.length (Nat.le_refl _)
 have c17 := fun lo hlo => f17 (lo := lo) (h := h) (l := (Rul.flatL l).map ofR) hlo (by rw [List.length_map]; omega) (ok_ofR hL.hok) hL.hc
 rw [toksR_eq, ← rows_ofR] at c17
 have c17a := c17 lo hlo; have c17b := c17 h.length (Nat.le_refl _)
 clear c16 c17 c18
 unfold valsR
 rw [e7 (by simp) (by rfl)]
 unfold fineL
 cases hm : Rul.mayL 64 l with
 | false =>
  rw [hm] at c16a c16b
  rw [Bool.false_and, if_neg (by simp)]
  unfold errV
  simp only [go_sem, b7, Tryz.f7, hlo, c16a, c16b]
  all_goals rfl
 | true =>
  rw [hm] at c16a c16b
  rw [Bool.true_and]
  cases ha : (Rul.flatL l).all mayT with
  | false =>
   rw [ha, if_neg (by simp)] at c17a c17b
   rw [if_neg (by simp)]
   unfold errV at *
   simp only [go_sem, b7, Tryz.f7, hlo, c16a, c16b, c17a, c17b, c18a, c18b]
   all_goals rfl
  | true =>
   rw [ha, if_pos rfl] at c17a c17b
   rw [if_pos rfl]
   unfold okV at *
   simp only [go_sem, b7, Tryz.f7, hlo, c16a, c16b, c17a, c17b, c18a, c18b]
   all_goals rfl
end Go.Lift.P7
end

section
open Go.Proofs
namespace Go.Lift.P7
variable [MX]
open Utf Tok Spell
set_option maxRecDepth 20000
set_option maxHeartbeats 4000000
variable {lo : Nat} {h : Heap}
def nameT (b : List Int) : Bool := !b.isEmpty && sound b
theorem f36 {b : List Int} (hy : By b) (hl : b.length ≤ 1000000000) : E lo 36 [.v (.string (bs b))] h = some (.v (.bool (nameT b)), h) := by
 have k1 := fun lo h => f59 (lo := lo) (h := h) (b := b) (by omega) hy
 have k2 := fun lo h => f60 (lo := lo) (h := h) hy (c := 0) (by omega) (by omega)
 have t1 := bs_nil_eq' b
 unfold nameT sound
 rw [e36 (by simp) (by rfl)]
 by_cases hb : b = []
 ·rw [decide_eq_true hb] at t1
  have eb : b.isEmpty = true := by simp [hb]
  rw [eb]
  simp only [go_sem, b36, Tryz.f36, t1]
  all_goals rfl
 ·rw [decide_eq_false hb] at t1
  rw [ne_empty hb]
  cases q : whole b with
  | true =>
   rw [q] at k1
   simp only [go_sem, b36, Tryz.f36, t1, bytes_bs hy, k1, bs_0, k2]
   all_goals rfl
  | false =>
   rw [q] at k1
   simp only [go_sem, b36, Tryz.f36, t1, bytes_bs hy, k1]
   all_goals rfl
structure OkD (d : Rul.Dc) : Prop where
 hy : By d.name
 hl : d.name.length ≤ 10000000
 hv : OkL d.val
def claimT (d : Rul.Dc) : Bool := nameT d.name && fineL d.val
abbrev N19 (l : List Rul.Dc) (k : Int) : Env := [(5, .list .no (l.map Rul.declC)), (6, .v (.int .i64 l.length)), (7, .v (.int .i64 k))]
theorem round19 {l : List Rul.Dc} {d : Rul.Dc} {k : Nat} (hlo : lo ≤ h.length) (hl : l.length ≤ 1000000000) (hg : l[k]? = some d) (hok : OkD d) :
  evCode ⟨Tryz.prog, E, lo, h.length, h19⟩ loopW l19x0 (N19 l k, h) =
   if claimT d = true then some (.normal, N19 l (k + 1 : Nat), h) else some (.ret, [(2, .v (.bool false))], h ++ [.cells (Rul.declC d)]) := by
 have hlt : k < l.length := (List.getElem?_eq_some_iff.1 hg).1
 have hgr : (l.map Rul.declC)[k]? = some (Rul.declC d) := by simp [hg]
 have q : decide ((k : Int) < (l.length : Int)) = true := by simp; omega
 have hw : IntKind.i64.wrap ((k : Int) + 1) = ((k + 1 : Nat) : Int) := wrap_succ (by omega)
 have hlo' : lo ≤ h.length + 1 := by omega
 have hb : d.name.length ≤ 1000000000 := by have := hok.hl; omega
 have c36 := fun lo => f36 (lo := lo) (h := h ++ [.cells (Rul.declC d)]) hok.hy hb
 have c13 := fun lo hlo => f13 (lo := lo) (h := h ++ [.cells (Rul.declC d)]) (l := d.val) hlo hok.hv.hn hok.hv.hok
 have c13a := c13 lo (by simp; omega); have c13b := c13 h.length (by simp); have c13c := c13 (h.length + 1) (by simp)
 clear c13
 unfold claimT
 have ed : Rul.declC d = [.v (.string (bs d.name)), .list .no (Rul.rowsC d.val), .v (.bool d.imp)] := rfl
 rw [ed] at hgr c13a c13b c13c ⊢
 simp only [ed] at c36
 cases hn : nameT d.name with
 | false =>
  rw [hn] at c36
  rw [Bool.false_and, if_neg (show ¬ false = true by simp)]
  simp only [go_sem, l19x0, b19, Tryz.f19, hlo, hlo', q, hgr, hw, c36, List.length_map]
  all_goals rfl
 | true =>
  rw [hn] at c36
  rw [Bool.true_and]
  cases hf : fineL d.val with
  | true =>
   rw [hf] at c13a c13b c13c
   rw [if_pos rfl]
   simp only [go_sem, l19x0, b19, Tryz.f19, hlo, hlo', q, hgr, hw, c36, c13a, c13b, c13c, List.length_map]
   all_goals rfl
  | false =>
   rw [hf] at c13a c13b c13c
   rw [if_neg (show ¬ false = true by simp)]
   simp only [go_sem, l19x0, b19, Tryz.f19, hlo, hlo', q, hgr, hw, c36, c13a, c13b, c13c, List.length_map]
   all_goals rfl
end Go.Lift.P7
end

section
open Go.Proofs
namespace Go.Lift.P7
variable [MX]
open Utf Tok Spell
set_option maxRecDepth 20000
set_option maxHeartbeats 4000000
section
variable {lo : Nat} {h : Heap}
theorem tokR_form (k : Int) (b : List Int) (n d : Int) (w i : Bool) : ∃ s e, tokR k b n d w i = .tup [.v (.string (bs s)), .v (.int .i64 e)] := by
 unfold tokR
 split
 ·exact ⟨_, _, rfl⟩
 ·exact ⟨_, _, rfl⟩
theorem sound_asc {c : Int} (hc : 1 ≤ c ∧ c < 128) : raw [c] = [c] ∧ sound [c] = true := by
 have hs : ∀ x ∈ [c], scal x = x := by
  intro x hx
  simp at hx
  subst hx
  exact scal_ok (by omega) (by omega) (by omega)
 have e : encs [c] = [c] := by
  rw [encs_cons, hs c (by simp), enc_low hc.2]
  rfl
 have h1 := charsOk hs
 rw [e] at h1
 have h2 := (raw_encs [c]).2
 rw [e] at h2
 refine ⟨h1, ?_⟩
 unfold sound
 rw [h2]
 have : ([c] : List Int).contains 0 = false := by simp; omega
 rw [this]
 rfl
theorem f37 (hlo : lo ≤ h.length) {b : List Int} (hy : By b) (hl : b.length ≤ 10000000) : E lo 37 [.v (.string (bs b))] h = some (tokR 1 b 0 0 false false, h) := by
 have k := fun lo hlo => f28 (lo := lo) (h := h) (k := 1) (b := b) (n := 0) (d := 0) (w := false) (i := false) hlo hy hl (by omega) (by omega) (by omega) (by omega)
 obtain ⟨s, e, he⟩ := tokR_form 1 b 0 0 false false
 rw [he] at k ⊢
 unfold tokV at k
 have ka := k lo hlo; have kb := k h.length (Nat.le_refl _)
 rw [e37 (by simp) (by rfl)]
 simp only [go_sem, b37, Tryz.f37, ka, kb]
 all_goals rfl
end
end Go.Lift.P7
end

section
open Go.Proofs
namespace Go.Lift.P7
variable [MX]
open Utf Tok Spell
set_option maxRecDepth 20000
set_option maxHeartbeats 4000000
variable {lo : Nat} {p q : Heap} {p0 : V} {out : List Int} {n : Int}
def vtxt (l : List Rul.CV) : List Int := if fineL l = true then valsT l else []
def verr (l : List Rul.CV) : Int := if fineL l = true then 0 else 1
theorem valsR_eq (l : List Rul.CV) : valsR l = .tup [.v (.string (bs (vtxt l))), .v (.int .i64 (verr l))] := by
 unfold valsR vtxt verr
 split <;> rfl
theorem vtxt_by {l : List Rul.CV} (hL : OkL l) : By (vtxt l) := by
 unfold vtxt
 split
 ·exact tokens_by _ _ (ok_ofR hL.hok)
 ·exact by_nil
theorem vtxt_len {l : List Rul.CV} (hL : OkL l) : (vtxt l).length ≤ cost ((Rul.flatL l).map ofR) := by
 unfold vtxt
 split
 ·exact tokens_len _ _ (ok_ofR hL.hok)
 ·simp
def e1 (n e : Int) : Int := if n = 0 then e else n
theorem f38 {l : List Rul.CV} (hlo : lo ≤ p.length) (hp : okP p.length p0 = true) (hL : OkL l) (ho : out.length ≤ 1000000000) :
  E lo 38 [.ptr p.length 0, .list .no (Rul.rowsC l)] (p ++ .cells [p0, .list .yes (ri .u8 out), .v (.int .i64 n)] :: q) =
   some (.tup [], p ++ .cells [.ptr p.length 0, .list .yes (ri .u8 (out ++ vtxt l)), .v (.int .i64 (e1 n (verr l)))] :: q) := by
 have c6 := fun lo hlo => f6 (lo := lo) (h := p ++ .cells [p0, .list .yes (ri .u8 out), .v (.int .i64 n)] :: q) (l := l) hlo hL
 rw [valsR_eq] at c6
 have c6a := c6 lo (by simp; omega); have c6b := c6 (p ++ .cells [p0, .list .yes (ri .u8 out), .v (.int .i64 n)] :: q).length (Nat.le_refl _)
 rw [List.length_append, List.length_cons] at c6b
 have hvl := vtxt_len hL
 have hcc := hL.hc
 have c30 := fun n => f30w (lo := lo) (p := p) (q := q) (p0 := p0) (out := out) (n := n) hlo hp (s := vtxt l) (vtxt_by hL) ho (by omega)
 clear c6
 unfold e1
 rw [e38 (by simp) (by rfl)]
 by_cases hn : n = 0
 ·have qn : (n == 0) = true := by simpa using hn
  rw [if_pos hn]
  subst hn
  simp only [go_sem, b38, Tryz.f38, hlo, qn, c6a, c6b, c30, Int.reduceBEq]
  all_goals rfl
 ·have qn : (n == 0) = false := by simpa using hn
  rw [if_neg hn]
  simp only [go_sem, b38, Tryz.f38, hlo, qn, c6a, c6b, c30]
  all_goals rfl
end Go.Lift.P7
end

section
open Go.Proofs
namespace Go.Lift.P7
variable [MX]
open Utf Tok Spell
set_option maxRecDepth 20000
set_option maxHeartbeats 1000000
variable {lo : Nat} {p q : Heap} {p0 : V} {out : List Int}
def impT : List Int := [32, 33, 105, 109, 112, 111, 114, 116, 97, 110, 116]
theorem bs_58 : (⟨#[58]⟩ : ByteArray) = bs [58] := rfl
theorem bs_59 : (⟨#[59]⟩ : ByteArray) = bs [59] := rfl
theorem bs_imp : (⟨#[32, 33, 105, 109, 112, 111, 114, 116, 97, 110, 116]⟩ : ByteArray) = bs impT := rfl
theorem by_58 : By [58] := by_cons (by omega) (by omega) by_nil
theorem by_59 : By [59] := by_cons (by omega) (by omega) by_nil
theorem by_imp : By impT := by
 intro c hc
 unfold impT at hc
 simp at hc
 omega
def declT (d : Rul.Dc) : List Int := tokenT 1 d.name 0 0 false false ++ ([58] ++ (valsT d.val ++ ((if d.imp = true then impT else []) ++ [59])))
abbrev ND (i : Nat) (l : List Rul.Dc) (k : Int) : Env := [(0, .ptr i 0), (4, .fn 30 [.undef, .ptr i 0]), (13, .list .no (l.map Rul.declC)), (14, .v (.int .i64 l.length)), (15, .v (.int .i64 k))]
theorem roundD {l : List Rul.Dc} {d : Rul.Dc} {k : Nat} (hlo : lo ≤ p.length) (hp : okP p.length p0 = true) (hl : l.length ≤ 1000000000) (hg : l[k]? = some d) (hok : OkD d) (hcl : claimT d = true) (ho : out.length + 10 * d.name.length + cost ((Rul.flatL d.val).map ofR) + 400 ≤ 1000000000) :
  evCode ⟨Tryz.prog, E, lo, p.length + (q.length + 1), h20⟩ loopW l20x0 (ND p.length l k, p ++ .cells [p0, .list .yes (ri .u8 out), .v (.int .i64 0)] :: q) =
   some (.normal, ND p.length l (k + 1 : Nat), p ++ .cells [.ptr p.length 0, .list .yes (ri .u8 (out ++ declT d)), .v (.int .i64 0)] :: q) := by
 have hlt : k < l.length := (List.getElem?_eq_some_iff.1 hg).1
 have hgr : (l.map Rul.declC)[k]? = some (Rul.declC d) := by simp [hg]
 have ed : Rul.declC d = [.v (.string (bs d.name)), .list .no (Rul.rowsC d.val), .v (.bool d.imp)] := rfl
 have qq : decide ((k : Int) < (l.length : Int)) = true := by simp; omega
 have hw : IntKind.i64.wrap ((k : Int) + 1) = ((k + 1 : Nat) : Int) := wrap_succ (by omega)
 have hcl2 := hcl
 unfold claimT at hcl2
 rw [Bool.and_eq_true] at hcl2
 have hm : mayV 1 d.name 0 0 false false = true := by
  unfold mayV
  rw [if_pos (.inl rfl)]
  have := hcl2.1
  unfold nameT at this
  rw [this]
  rfl
 have ht : tokR 1 d.name 0 0 false false = .tup [.v (.string (bs (tokenT 1 d.name 0 0 false false))), .v (.int .i64 0)] := by
  unfold tokR okV; rw [hm]; rfl
 have hvt : vtxt d.val = valsT d.val := by unfold vtxt; rw [if_pos hcl2.2]
 have hve : verr d.val = 0 := by unfold verr; rw [if_pos hcl2.2]
 have hH := fun lo (hlo : lo ≤ (p ++ Ob.cells [p0, .list .yes (ri .u8 out), .v (.int .i64 0)] :: (q ++ [Ob.cells (Rul.declC d)])).length) => f37 (lo := lo) (h := p ++ Ob.cells [p0, .list .yes (ri .u8 out), .v (.int .i64 0)] :: (q ++ [Ob.cells (Rul.declC d)])) hlo hok.hy hok.hl
 rw [ht] at hH
 have c37a := hH lo (by simp; omega); have c37b := hH (p.length + (q.length + 1)) (by simp); have c37c := hH (p.length + (q.length + 1 + 1)) (by simp)
 clear hH
 have hid : (tokenT 1 d.name 0 0 false false).length ≤ 10 * d.name.length + 300 := txt_len (t := ⟨1, d.name, 0, 0, false, false⟩) ⟨hok.hy, hok.hl, by simp, by simp, by simp, by simp⟩
 have hby : By (tokenT 1 d.name 0 0 false false) := txt_by (t := ⟨1, d.name, 0, 0, false, false⟩) ⟨hok.hy, hok.hl, by simp, by simp, by simp, by simp⟩
 unfold declT
 generalize tokenT 1 d.name 0 0 false false = T at *
 have hnl := hok.hl
 have hvl := vtxt_len hok.hv
 rw [hvt] at hvl
 have hcc := hok.hv.hc
 have k1 := f30w (lo := lo) (p := p) (q := q ++ [.cells (Rul.declC d)]) (p0 := p0) (out := out) (n := 0) hlo hp (s := T) hby (by omega) (by omega)
 have k2 := f30w (lo := lo) (p := p) (q := q ++ [.cells (Rul.declC d)]) (p0 := .ptr p.length 0) (out := out ++ T) (n := 0) hlo ok_self (s := [58]) by_58 (by simp; omega) (by simp)
 have k3 := f38 (lo := lo) (p := p) (q := q ++ [.cells (Rul.declC d)]) (p0 := .ptr p.length 0) (out := out ++ T ++ [58]) (n := 0) (l := d.val) hlo ok_self hok.hv (by simp; omega)
 rw [hvt, hve] at k3
 have e0 : e1 0 0 = 0 := rfl
 rw [e0] at k3
 have k4 := f30w (lo := lo) (p := p) (q := q ++ [.cells (Rul.declC d)]) (p0 := .ptr p.length 0) (out := out ++ T ++ [58] ++ valsT d.val) (n := 0) hlo ok_self (s := impT) by_imp (by simp; omega) (by simp [impT])
 have k5 := f30w (lo := lo) (p := p) (q := q ++ [.cells (Rul.declC d)]) (p0 := .ptr p.length 0) (out := out ++ T ++ [58] ++ valsT d.val ++ impT) (n := 0) hlo ok_self (s := [59]) by_59 (by simp [impT]; omega) (by simp)
 have k6 := f30w (lo := lo) (p := p) (q := q ++ [.cells (Rul.declC d)]) (p0 := .ptr p.length 0) (out := out ++ T ++ [58] ++ valsT d.val) (n := 0) hlo ok_self (s := [59]) by_59 (by simp; omega) (by simp)
 have hat : ∀ o c : Ob, (p ++ o :: (q ++ [c]))[p.length + (q.length + 1)]? = some c := fun o c => by
  rw [List.getElem?_append_right (by omega)]; simp
 rw [ed] at hgr c37a c37b c37c k1 k2 k3 k4 k5 k6
 simp only [List.append_assoc, List.cons_append, List.nil_append] at k1 k2 k3 k4 k5 k6 c37a c37b c37c
 have hlo2 : lo ≤ p.length + (q.length + 1) := by omega
 have hlt2 : p.length < p.length + (q.length + 1) := by omega
 cases hi : d.imp with
 | true =>
  rw [hi] at hgr c37a c37b c37c k1 k2 k3 k4 k5 k6
  rw [if_pos rfl]
  simp only [go_sem, l20x0, b20, Tryz.f20, qq, hgr, hw, hlo, hlo2, hlt2, hat, c37a, c37b, c37c, bs_58, bs_59, bs_imp, k1, k2, k3, k4, k5, Int.reduceBEq, List.append_assoc, List.cons_append, List.nil_append, List.length_map]
  all_goals rfl
 | false =>
  rw [hi] at hgr c37a c37b c37c k1 k2 k3 k4 k5 k6
  rw [if_neg (show ¬ false = true by simp)]
  simp only [go_sem, l20x0, b20, Tryz.f20, qq, hgr, hw, hlo, hlo2, hlt2, hat, c37a, c37b, c37c, bs_58, bs_59, bs_imp, k1, k2, k3, k6, Int.reduceBEq, List.append_assoc, List.cons_append, List.nil_append, List.length_map]
  all_goals rfl
end Go.Lift.P7
end

section
open Go.Proofs
namespace Go.Lift.P7
variable [MX]
open Utf Tok Spell
set_option maxRecDepth 20000
set_option maxHeartbeats 1000000
variable {lo : Nat} {h : Heap}
theorem stop19 {l : List Rul.Dc} (hlo : lo ≤ h.length) : evCode ⟨Tryz.prog, E, lo, h.length, h19⟩ loopW l19x0 (N19 l l.length, h) =
   some (.exit 0, N19 l l.length ++ [(8, .v (.bool false))], h) := by
 have q : decide ((l.length : Int) < (l.length : Int)) = false := by simp
 simp only [go_sem, l19x0, b19, Tryz.f19, hlo, q]
 all_goals rfl
theorem loop19 {l : List Rul.Dc} (hlo : lo ≤ h.length) (hl : l.length ≤ 1000000000) (hok : ∀ t ∈ l, OkD t) : ∀ (m k : Nat), k + m = l.length →
  if (l.drop k).all claimT = true then
   loopW (evCode ⟨Tryz.prog, E, lo, h.length, h19⟩ loopW l19x0) (N19 l k, h) = some (.exit 0, N19 l l.length ++ [(8, .v (.bool false))], h)
  else ∃ X, loopW (evCode ⟨Tryz.prog, E, lo, h.length, h19⟩ loopW l19x0) (N19 l k, h) = some (.ret, [(2, .v (.bool false))], h ++ X) := by
 intro m
 induction m with
 | zero =>
  intro k hk
  obtain rfl : k = l.length := by omega
  rw [List.drop_length, if_pos (show ([] : List Rul.Dc).all claimT = true from rfl), loop_eq, stop19 hlo, loop_e]
 | succ m ih =>
  intro k hk
  have hlt : k < l.length := by omega
  have hg : l[k]? = some l[k] := List.getElem?_eq_getElem hlt
  have hd : l.drop k = l[k] :: l.drop (k + 1) := List.drop_eq_getElem_cons hlt
  have hok1 := hok l[k] (List.getElem_mem hlt)
  rw [hd]
  generalize l[k] = t at *
  have hr := round19 hlo hl hg hok1
  cases hm : claimT t with
  | false =>
   rw [hm, if_neg (by simp)] at hr
   rw [List.all_cons, hm, Bool.false_and, if_neg (by simp)]
   exact ⟨_, by rw [loop_eq, hr, loop_r]⟩
  | true =>
   rw [hm, if_pos rfl] at hr
   rw [List.all_cons, hm, Bool.true_and, loop_eq, hr, loop_n]
   exact ih (k + 1) (by omega)
theorem f19 {l : List Rul.Dc} (hlo : lo ≤ h.length) (hl : l.length ≤ 1000000000) (hok : ∀ t ∈ l, OkD t) : E lo 19 [.list .no (l.map Rul.declC)] h = some (.v (.bool (l.all claimT)), h) := by
 have hL := loop19 (lo := lo) (h := h) (l := l) hlo hl hok l.length 0 (by omega)
 rw [List.drop_zero] at hL
 have n0 : ((0 : Nat) : Int) = 0 := rfl
 rw [e19 (by simp) (by rfl)]
 cases ha : l.all claimT with
 | false =>
  rw [ha, if_neg (by simp)] at hL
  obtain ⟨X, hL⟩ := hL
  simp only [l19x0, b19, Tryz.f19, loopAt, loops, bodyOf, go_sem, N19, n0] at hL
  simp only [go_sem, b19, Tryz.f19, hlo, hL, List.length_map, n0]
  all_goals rfl
 | true =>
  rw [ha, if_pos rfl] at hL
  simp only [l19x0, b19, Tryz.f19, loopAt, loops, bodyOf, go_sem, N19, n0, List.cons_append, List.nil_append] at hL
  simp only [go_sem, b19, Tryz.f19, hlo, hL, List.length_map, n0]
  all_goals rfl
end Go.Lift.P7
end

section
open Go.Proofs
namespace Go.Lift.P7
variable [MX]
open Utf Tok Spell
set_option maxRecDepth 20000
set_option maxHeartbeats 1000000
variable {lo : Nat} {p q : Heap} {p0 : V} {out : List Int}
def costD (d : Rul.Dc) : Nat := 10 * d.name.length + cost ((Rul.flatL d.val).map ofR) + 400
def costDs : List Rul.Dc → Nat
 | [] => 0
 | d :: r => costD d + costDs r
def declsT : List Rul.Dc → List Int
 | [] => []
 | d :: r => declT d ++ declsT r
def pw (i : Nat) (p0 : V) (e : Bool) : V := if e = true then p0 else .ptr i 0
theorem name_len {d : Rul.Dc} (hok : OkD d) : (tokenT 1 d.name 0 0 false false).length ≤ 10 * d.name.length + 300 := txt_len (t := ⟨1, d.name, 0, 0, false, false⟩) ⟨hok.hy, hok.hl, by simp, by simp, by simp, by simp⟩
theorem name_by {d : Rul.Dc} (hok : OkD d) : By (tokenT 1 d.name 0 0 false false) := txt_by (t := ⟨1, d.name, 0, 0, false, false⟩) ⟨hok.hy, hok.hl, by simp, by simp, by simp, by simp⟩
theorem valsT_len {l : List Rul.CV} (hL : OkL l) : (valsT l).length ≤ cost ((Rul.flatL l).map ofR) := tokens_len _ _ (ok_ofR hL.hok)
theorem valsT_by {l : List Rul.CV} (hL : OkL l) : By (valsT l) := tokens_by _ _ (ok_ofR hL.hok)
theorem declT_len {d : Rul.Dc} (hok : OkD d) : (declT d).length ≤ costD d := by
 have h1 := name_len hok
 have h2 := valsT_len hok.hv
 have h3 : (if d.imp = true then impT else []).length ≤ 11 := by split <;> simp [impT]
 unfold declT costD
 simp only [List.length_append, List.length_cons, List.length_nil]
 omega
theorem declT_by {d : Rul.Dc} (hok : OkD d) : By (declT d) := by
 have h3 : By (if d.imp = true then impT else []) := by
  split
  ·exact by_imp
  ·exact by_nil
 unfold declT
 exact by_app (name_by hok) (by_app by_58 (by_app (valsT_by hok.hv) (by_app h3 by_59)))
theorem declsT_len : ∀ {l : List Rul.Dc}, (∀ d ∈ l, OkD d) → (declsT l).length ≤ costDs l
 | [], _ => by simp [declsT]
 | d :: r, h => by
  have h1 := declT_len (h d (by simp))
  have h2 := declsT_len (l := r) fun x hx => h x (by simp [hx])
  simp only [declsT, costDs, List.length_append]
  omega
theorem declsT_by : ∀ {l : List Rul.Dc}, (∀ d ∈ l, OkD d) → By (declsT l)
 | [], _ => by_nil
 | d :: r, h => by
  rw [declsT]
  exact by_app (declT_by (h d (by simp))) (declsT_by fun x hx => h x (by simp [hx]))
theorem stop20 {l : List Rul.Dc} (hlo : lo ≤ p.length) :
  evCode ⟨Tryz.prog, E, lo, p.length + (q.length + 1), h20⟩ loopW l20x0 (ND p.length l l.length, p ++ .cells [p0, .list .yes (ri .u8 out), .v (.int .i64 0)] :: q) =
   some (.exit 0, ND p.length l l.length ++ [(16, .v (.bool false))], p ++ .cells [p0, .list .yes (ri .u8 out), .v (.int .i64 0)] :: q) := by
 have qq : decide ((l.length : Int) < (l.length : Int)) = false := by simp
 simp only [go_sem, l20x0, b20, Tryz.f20, hlo, qq]
 all_goals rfl
theorem loop20 {l : List Rul.Dc} (hlo : lo ≤ p.length) (hl : l.length ≤ 1000000000) (hok : ∀ d ∈ l, OkD d) : ∀ (m k : Nat) (out : List Int) (p0 : V), okP p.length p0 = true → k + m = l.length → (l.drop k).all claimT = true → out.length + costDs (l.drop k) ≤ 1000000000 →
  loopW (evCode ⟨Tryz.prog, E, lo, p.length + (q.length + 1), h20⟩ loopW l20x0) (ND p.length l k, p ++ .cells [p0, .list .yes (ri .u8 out), .v (.int .i64 0)] :: q) =
   some (.exit 0, ND p.length l l.length ++ [(16, .v (.bool false))], p ++ .cells [pw p.length p0 (l.drop k).isEmpty, .list .yes (ri .u8 (out ++ declsT (l.drop k))), .v (.int .i64 0)] :: q) := by
 intro m
 induction m with
 | zero =>
  intro k out p0 hp hk _ _
  obtain rfl : k = l.length := by omega
  rw [List.drop_length, loop_eq, stop20 hlo, loop_e]
  simp only [declsT, List.append_nil, pw, List.isEmpty_nil, if_true]
 | succ m ih =>
  intro k out p0 hp hk ha ho
  have hlt : k < l.length := by omega
  have hg : l[k]? = some l[k] := List.getElem?_eq_getElem hlt
  have hd : l.drop k = l[k] :: l.drop (k + 1) := List.drop_eq_getElem_cons hlt
  have hok1 := hok l[k] (List.getElem_mem hlt)
  rw [hd] at ha ho ⊢
  generalize l[k] = t at *
  rw [List.all_cons, Bool.and_eq_true] at ha
  simp only [costDs] at ho
  have hlen := declT_len hok1
  have hr := roundD (q := q) hlo hp hl hg hok1 ha.1 (out := out) (by unfold costD at ho; omega)
  rw [loop_eq, hr, loop_n, ih (k + 1) (out ++ declT t) (.ptr p.length 0) ok_self (by omega) ha.2 (by simp only [List.length_append]; omega)]
  have e1 : pw p.length (.ptr p.length 0) (l.drop (k + 1)).isEmpty = .ptr p.length 0 := by unfold pw; split <;> rfl
  have e2 : pw p.length p0 (t :: l.drop (k + 1)).isEmpty = .ptr p.length 0 := rfl
  rw [e1, e2, declsT, List.append_assoc]
theorem f20 {l : List Rul.Dc} (hlo : lo ≤ p.length) (hp : okP p.length p0 = true) (hl : l.length ≤ 1000000000) (hok : ∀ d ∈ l, OkD d) (ha : l.all claimT = true) (ho : out.length + costDs l ≤ 1000000000) :
  E lo 20 [.ptr p.length 0, .list .no (l.map Rul.declC)] (p ++ .cells [p0, .list .yes (ri .u8 out), .v (.int .i64 0)] :: q) =
   some (.tup [], p ++ .cells [pw p.length p0 l.isEmpty, .list .yes (ri .u8 (out ++ declsT l)), .v (.int .i64 0)] :: q) := by
 have hL := loop20 (q := q) hlo hl hok l.length 0 out p0 hp (by omega) (by rw [List.drop_zero]; exact ha) (by rw [List.drop_zero]; exact ho)
 rw [List.drop_zero] at hL
 have n0 : ((0 : Nat) : Int) = 0 := rfl
 simp only [l20x0, b20, Tryz.f20, loopAt, loops, bodyOf, go_sem, ND, n0, List.cons_append, List.nil_append] at hL
 rw [e20 (by simp) (by rfl)]
 simp only [go_sem, b20, Tryz.f20, hlo, hL, List.length_map, n0]
 all_goals rfl
theorem f21 (hlo : lo ≤ p.length) (hy : By out) (hl : out.length ≤ 1000000000) :
  E lo 21 [.ptr p.length 0] (p ++ .cells [p0, .list .yes (ri .u8 out), .v (.int .i64 0)] :: q) =
   some (.tup [.v (.string (bs out)), .v (.int .i64 0)], p ++ .cells [p0, .list .no (ri .u8 out), .v (.int .i64 0)] :: q) := by
 have k := fun lo hlo => f31r (lo := lo) (p := p) (q := q) (p0 := p0) (r := [.v (.int .i64 0)]) hlo hy hl
 have ka := k lo hlo
 rw [e21 (by simp) (by rfl)]
 simp only [go_sem, b21, Tryz.f21, hlo, ka, Int.reduceBNe]
 all_goals rfl
def declsR (l : List Rul.Dc) : V := if l.all claimT = true then okV (declsT l) else errV
theorem f9 {h : Heap} {l : List Rul.Dc} (hlo : lo ≤ h.length) (hl : l.length ≤ 1000000000) (hok : ∀ d ∈ l, OkD d) (ho : costDs l ≤ 1000000000) :
  E lo 9 [.list .no (l.map Rul.declC)] h = some (declsR l, h) := by
 have c19 := fun lo hlo => f19 (lo := lo) (h := h) (l := l) hlo hl hok
 have c19a := c19 lo hlo; have c19b := c19 h.length (Nat.le_refl _)
 unfold declsR
 rw [e9 (by simp) (by rfl)]
 cases ha : l.all claimT with
 | false =>
  rw [ha] at c19a c19b
  rw [if_neg (by simp)]
  unfold errV
  simp only [go_sem, b9, Tryz.f9, hlo, c19a, c19b]
  all_goals rfl
 | true =>
  rw [ha] at c19a c19b
  rw [if_pos rfl]
  unfold okV
  have c20 := fun lo hlo => f20 (lo := lo) (p := h) (q := []) (p0 := .v (.pointer none)) (out := []) (l := l) hlo rfl hl hok ha (by simpa using ho)
  have c20a := c20 lo hlo; have c20b := c20 h.length (Nat.le_refl _)
  have c21 := fun lo hlo => f21 (lo := lo) (p := h) (q := []) (p0 := pw h.length (.v (.pointer none)) l.isEmpty) (out := declsT l) hlo (declsT_by hok) (by have := declsT_len hok; omega)
  have c21a := c21 lo hlo; have c21b := c21 h.length (Nat.le_refl _)
  clear c20 c21
  rw [List.nil_append] at c20a c20b
  have e0 : ri .u8 [] = [] := rfl
  rw [e0] at c20a c20b
  simp only [go_sem, b9, Tryz.f9, hlo, c19a, c19b, c20a, c20b, c21a, c21b]
  all_goals rfl
end Go.Lift.P7
end
