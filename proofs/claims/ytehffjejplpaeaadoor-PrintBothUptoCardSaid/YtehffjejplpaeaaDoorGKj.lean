/- print.Same. -/
import Derived.Shelf.Strings.BuilderRune
import Derived.Test.YtehffjejplpaeaaDoorGLc
import Derived.Test.YtehffjejplpaeaaDoorGKa
import Derived.Test.YtehffjejplpaeaaDoorGK8Basea
import Derived.Test.YtehffjejplpaeaaDoorGKi
import Derived.Test.YtehffjejplpaeaaDoorGDa
set_option linter.unusedVariables false
set_option linter.unusedSimpArgs false
set_option linter.unusedSectionVars false
section
open Go.Proofs
namespace Go.Lift.D7
variable [MX]
open Utf Tok Spell
set_option maxRecDepth 20000
set_option maxHeartbeats 40000000
variable {lo : Nat} {h : Heap}
abbrev NV5 (l u : List Rul.Ru) (k : Int) : Env := [(0, .list .no (Rul.rusC l)), (1, .list .no (Rul.rusC u)), (17, .v (.int .i64 l.length)), (18, .v (.int .i64 k))]
abbrev NI5 (n : Nat) (l u : List Rul.Ru) (k : Int) (dl : Nat) (j : Int) : Env := [(0, .list .no (Rul.rusC l)), (1, .list .no (Rul.rusC u)), (6, .ptr n 0), (7, .ptr (n + 1) 0), (17, .v (.int .i64 l.length)), (18, .v (.int .i64 k)), (60, .v (.int .i64 dl)), (61, .v (.int .i64 j))]
theorem reg5 {l u : List Rul.Ru} {k : Nat} {a0 b0 : Int} {a1 b1 : List Int} {a2 b2 : List Rul.CV} {a3 b3 : List Rul.Dc} {a4 b4 : List Rul.Ru} (hlo : lo ≤ h.length)
  (hg : (Rul.rusC l)[k]? = some [.v (.int .i64 a0), .v (.string (bs a1)), .list .no (Rul.rowsC a2), .list .no (a3.map Rul.declC), .list .no (Rul.rusC a4)])
  (hu : (Rul.rusC u)[k]? = some [.v (.int .i64 b0), .v (.string (bs b1)), .list .no (Rul.rowsC b2), .list .no (b3.map Rul.declC), .list .no (Rul.rusC b4)]) :
  evRegion ⟨Tryd.prog, E, lo, h.length, h5⟩ 6 (regOps b5 6) true ([(0, .list .no (Rul.rusC l)), (1, .list .no (Rul.rusC u)), (5, .v (.int .i64 k)), (17, .v (.int .i64 l.length)), (18, .v (.int .i64 k))], h) =
   some ([(0, .list .no (Rul.rusC l)), (1, .list .no (Rul.rusC u)), (6, .ptr h.length 0), (7, .ptr (h.length + 1) 0), (17, .v (.int .i64 l.length)), (18, .v (.int .i64 k))],
    h ++ [.cells [.v (.int .i64 a0), .v (.string (bs a1)), .list .no (Rul.rowsC a2), .list .no (a3.map Rul.declC), .list .no (Rul.rusC a4)], .cells [.v (.int .i64 b0), .v (.string (bs b1)), .list .no (Rul.rowsC b2), .list .no (b3.map Rul.declC), .list .no (Rul.rusC b4)]]) := by
 have hlo' : lo ≤ h.length + 1 := by omega
 have hs : h.length + 1 < h.length + 2 := by omega
 simp only [regOps, regsC, b5, Tryd.f5, bodyOf, List.lookup, Nat.reduceBEq, List.cons_append, List.nil_append, List.append_assoc, Option.getD]
 simp only [go_sem, hlo, hlo', hs, hg, hu]
 all_goals rfl
theorem reg5i {l u : List Rul.Ru} {k j dl : Nat} {a0 b0 : Int} {a1 b1 : List Int} {a2 b2 : List Rul.CV} {a3 b3 : List Rul.Dc} {a4 b4 : List Rul.Ru} {d0 e0 : List Int} {d1 e1 : List Rul.CV} {d2 e2 : Bool} (hlo : lo ≤ h.length)
  (hg : (a3.map Rul.declC)[j]? = some [.v (.string (bs d0)), .list .no (Rul.rowsC d1), .v (.bool d2)])
  (hu : (b3.map Rul.declC)[j]? = some [.v (.string (bs e0)), .list .no (Rul.rowsC e1), .v (.bool e2)]) :
  evRegion ⟨Tryd.prog, E, lo, h.length, h5⟩ 12 (regOps b5 12) true ([(0, .list .no (Rul.rusC l)), (1, .list .no (Rul.rusC u)), (6, .ptr h.length 0), (7, .ptr (h.length + 1) 0), (8, .v (.int .i64 j)), (17, .v (.int .i64 l.length)), (18, .v (.int .i64 k)), (60, .v (.int .i64 dl)), (61, .v (.int .i64 j))], h ++ [.cells [.v (.int .i64 a0), .v (.string (bs a1)), .list .no (Rul.rowsC a2), .list .no (a3.map Rul.declC), .list .no (Rul.rusC a4)], .cells [.v (.int .i64 b0), .v (.string (bs b1)), .list .no (Rul.rowsC b2), .list .no (b3.map Rul.declC), .list .no (Rul.rusC b4)]]) =
   some ([(0, .list .no (Rul.rusC l)), (1, .list .no (Rul.rusC u)), (6, .ptr h.length 0), (7, .ptr (h.length + 1) 0), (9, .ptr (h.length + 2) 0), (10, .ptr (h.length + 3) 0), (17, .v (.int .i64 l.length)), (18, .v (.int .i64 k)), (60, .v (.int .i64 dl)), (61, .v (.int .i64 j))],
    h ++ [.cells [.v (.int .i64 a0), .v (.string (bs a1)), .list .no (Rul.rowsC a2), .list .no (a3.map Rul.declC), .list .no (Rul.rusC a4)], .cells [.v (.int .i64 b0), .v (.string (bs b1)), .list .no (Rul.rowsC b2), .list .no (b3.map Rul.declC), .list .no (Rul.rusC b4)], .cells [.v (.string (bs d0)), .list .no (Rul.rowsC d1), .v (.bool d2)], .cells [.v (.string (bs e0)), .list .no (Rul.rowsC e1), .v (.bool e2)]]) := by
 have hlo1 : lo ≤ h.length + 1 := by omega
 have hlo2 : lo ≤ h.length + 2 := by omega
 have hlo3 : lo ≤ h.length + 3 := by omega
 have hs : h.length + 3 < h.length + 4 := by omega
 simp only [regOps, regsC, b5, Tryd.f5, bodyOf, List.lookup, Nat.reduceBEq, List.cons_append, List.nil_append, List.append_assoc, Option.getD]
 simp only [go_sem, hlo, hlo1, hlo2, hlo3, hs, hg, hu]
 all_goals rfl
theorem ri5 {l u : List Rul.Ru} {k j : Nat} {a0 b0 : Int} {a1 b1 : List Int} {a2 b2 : List Rul.CV} {a3 b3 : List Rul.Dc} {a4 b4 : List Rul.Ru} {d e : Rul.Dc} (hlo : lo ≤ h.length) (hl : a3.length ≤ 1000000000) (hg : a3[j]? = some d) (hu : b3[j]? = some e) (hb : OkE d) (hc : OkE e) :
  ∃ X, evCode ⟨Tryd.prog, E, lo, h.length, h5⟩ loopW l5x1 (NI5 h.length l u k a3.length j, h ++ [.cells [.v (.int .i64 a0), .v (.string (bs a1)), .list .no (Rul.rowsC a2), .list .no (a3.map Rul.declC), .list .no (Rul.rusC a4)], .cells [.v (.int .i64 b0), .v (.string (bs b1)), .list .no (Rul.rowsC b2), .list .no (b3.map Rul.declC), .list .no (Rul.rusC b4)]]) = if eqD d e = true then some (.normal, NI5 h.length l u k a3.length (j + 1 : Nat), h ++ [.cells [.v (.int .i64 a0), .v (.string (bs a1)), .list .no (Rul.rowsC a2), .list .no (a3.map Rul.declC), .list .no (Rul.rusC a4)], .cells [.v (.int .i64 b0), .v (.string (bs b1)), .list .no (Rul.rowsC b2), .list .no (b3.map Rul.declC), .list .no (Rul.rusC b4)]]) else some (.ret, [(4, .v (.bool false))], h ++ X) := by
 obtain ⟨d0, d1, d2⟩ := d
 obtain ⟨e0, e1, e2⟩ := e
 have hlt : j < a3.length := (List.getElem?_eq_some_iff.1 hg).1
 have hgr : (a3.map Rul.declC)[j]? = some [.v (.string (bs d0)), .list .no (Rul.rowsC d1), .v (.bool d2)] := by rw [List.getElem?_map, hg]; rfl
 have hur : (b3.map Rul.declC)[j]? = some [.v (.string (bs e0)), .list .no (Rul.rowsC e1), .v (.bool e2)] := by rw [List.getElem?_map, hu]; rfl
 have hR := reg5i (l := l) (u := u) (k := k) (dl := a3.length) (a0 := a0) (a1 := a1) (a2 := a2) (a4 := a4) (b0 := b0) (b1 := b1) (b2 := b2) (b4 := b4) hlo hgr hur
 simp only [regOps, regsC, b5, Tryd.f5, bodyOf, List.lookup, Nat.reduceBEq, List.cons_append, List.nil_append, List.append_assoc, Option.getD] at hR
 have q : decide ((j : Int) < (a3.length : Int)) = true := by simp; omega
 have hw : IntKind.i64.wrap ((j : Int) + 1) = ((j + 1 : Nat) : Int) := wrap_succ (by omega)
 have b1' := bs_beq hb.hy hc.hy
 have hlo1 : lo ≤ h.length + 1 := by omega
 have hlo2 : lo ≤ h.length + 2 := by omega
 have hlo3 : lo ≤ h.length + 3 := by omega
 have g1 : h.length < h.length + 2 := by omega
 have g2 : h.length + 1 < h.length + 2 := by omega
 have c9 := fun lo hlo => f9 _ d1 e1 lo (h ++ [.cells [.v (.int .i64 a0), .v (.string (bs a1)), .list .no (Rul.rowsC a2), .list .no (a3.map Rul.declC), .list .no (Rul.rusC a4)], .cells [.v (.int .i64 b0), .v (.string (bs b1)), .list .no (Rul.rowsC b2), .list .no (b3.map Rul.declC), .list .no (Rul.rusC b4)], .cells [.v (.string (bs d0)), .list .no (Rul.rowsC d1), .v (.bool d2)], .cells [.v (.string (bs e0)), .list .no (Rul.rowsC e1), .v (.bool e2)]]) (Nat.le_refl _) hb.hn hc.hn hb.hv hc.hv hlo
 have c9a := c9 lo (by simp; omega); have c9b := c9 h.length (by simp); have c9c := c9 (h.length + 4) (by simp)
 clear c9
 refine ⟨[.cells [.v (.int .i64 a0), .v (.string (bs a1)), .list .no (Rul.rowsC a2), .list .no (a3.map Rul.declC), .list .no (Rul.rusC a4)], .cells [.v (.int .i64 b0), .v (.string (bs b1)), .list .no (Rul.rowsC b2), .list .no (b3.map Rul.declC), .list .no (Rul.rusC b4)], .cells [.v (.string (bs d0)), .list .no (Rul.rowsC d1), .v (.bool d2)], .cells [.v (.string (bs e0)), .list .no (Rul.rowsC e1), .v (.bool e2)]], ?_⟩
 unfold eqD
 show _ = if (d0 == e0 && (d2 == e2 && eqL d1 e1)) = true then _ else _
 change ((bs d0).toList == (bs e0).toList) = (d0 == e0) at b1'
 cases n0 : d0 == e0 with
 | false =>
  rw [n0] at b1'
  rw [Bool.false_and, if_neg (by simp)]
  simp only [go_sem, l5x1, b5, Tryd.f5, hlo, hlo1, hlo2, hlo3, g1, g2, q, ↓hR, hw, b1', Bool.not_true, Bool.not_false]
  all_goals rfl
 | true =>
  rw [n0] at b1'
  rw [Bool.true_and]
  cases n1 : d2 == e2 with
  | false =>
   rw [Bool.false_and, if_neg (by simp)]
   simp only [go_sem, l5x1, b5, Tryd.f5, hlo, hlo1, hlo2, hlo3, g1, g2, q, ↓hR, hw, b1', n1, Bool.not_true, Bool.not_false]
   all_goals rfl
  | true =>
   rw [Bool.true_and]
   cases n2 : eqL d1 e1 with
   | false =>
    rw [n2] at c9a c9b c9c
    rw [if_neg (by simp)]
    simp only [go_sem, l5x1, b5, Tryd.f5, hlo, hlo1, hlo2, hlo3, g1, g2, q, ↓hR, hw, b1', n1, c9a, c9b, c9c, Bool.not_true, Bool.not_false]
    all_goals rfl
   | true =>
    rw [n2] at c9a c9b c9c
    rw [if_pos rfl]
    simp only [go_sem, l5x1, b5, Tryd.f5, hlo, hlo1, hlo2, hlo3, g1, g2, q, ↓hR, hw, b1', n1, c9a, c9b, c9c, Bool.not_true, Bool.not_false]
    all_goals rfl
theorem si5 {l u : List Rul.Ru} {k : Nat} {a0 b0 : Int} {a1 b1 : List Int} {a2 b2 : List Rul.CV} {a3 b3 : List Rul.Dc} {a4 b4 : List Rul.Ru} (hlo : lo ≤ h.length) :
  evCode ⟨Tryd.prog, E, lo, h.length, h5⟩ loopW l5x1 (NI5 h.length l u k a3.length a3.length, h ++ [.cells [.v (.int .i64 a0), .v (.string (bs a1)), .list .no (Rul.rowsC a2), .list .no (a3.map Rul.declC), .list .no (Rul.rusC a4)], .cells [.v (.int .i64 b0), .v (.string (bs b1)), .list .no (Rul.rowsC b2), .list .no (b3.map Rul.declC), .list .no (Rul.rusC b4)]]) = some (.exit 2, NI5 h.length l u k a3.length a3.length ++ [(62, .v (.bool false))], h ++ [.cells [.v (.int .i64 a0), .v (.string (bs a1)), .list .no (Rul.rowsC a2), .list .no (a3.map Rul.declC), .list .no (Rul.rusC a4)], .cells [.v (.int .i64 b0), .v (.string (bs b1)), .list .no (Rul.rowsC b2), .list .no (b3.map Rul.declC), .list .no (Rul.rusC b4)]]) := by
 have q : decide ((a3.length : Int) < (a3.length : Int)) = false := by simp
 simp only [go_sem, l5x1, b5, Tryd.f5, hlo, q]
 all_goals rfl
theorem li5 {l u : List Rul.Ru} {k : Nat} {a0 b0 : Int} {a1 b1 : List Int} {a2 b2 : List Rul.CV} {a3 b3 : List Rul.Dc} {a4 b4 : List Rul.Ru} (hlo : lo ≤ h.length) (hl : a3.length ≤ 1000000000) (hlu : a3.length = b3.length) (hb : ∀ d ∈ a3, OkE d) (hc : ∀ d ∈ b3, OkE d) : ∀ (m j : Nat), j + m = a3.length →
  if eqDs (a3.drop j) (b3.drop j) = true then
   loopW (evCode ⟨Tryd.prog, E, lo, h.length, h5⟩ loopW l5x1) (NI5 h.length l u k a3.length j, h ++ [.cells [.v (.int .i64 a0), .v (.string (bs a1)), .list .no (Rul.rowsC a2), .list .no (a3.map Rul.declC), .list .no (Rul.rusC a4)], .cells [.v (.int .i64 b0), .v (.string (bs b1)), .list .no (Rul.rowsC b2), .list .no (b3.map Rul.declC), .list .no (Rul.rusC b4)]]) = some (.exit 2, NI5 h.length l u k a3.length a3.length ++ [(62, .v (.bool false))], h ++ [.cells [.v (.int .i64 a0), .v (.string (bs a1)), .list .no (Rul.rowsC a2), .list .no (a3.map Rul.declC), .list .no (Rul.rusC a4)], .cells [.v (.int .i64 b0), .v (.string (bs b1)), .list .no (Rul.rowsC b2), .list .no (b3.map Rul.declC), .list .no (Rul.rusC b4)]])
  else ∃ X, loopW (evCode ⟨Tryd.prog, E, lo, h.length, h5⟩ loopW l5x1) (NI5 h.length l u k a3.length j, h ++ [.cells [.v (.int .i64 a0), .v (.string (bs a1)), .list .no (Rul.rowsC a2), .list .no (a3.map Rul.declC), .list .no (Rul.rusC a4)], .cells [.v (.int .i64 b0), .v (.string (bs b1)), .list .no (Rul.rowsC b2), .list .no (b3.map Rul.declC), .list .no (Rul.rusC b4)]]) = some (.ret, [(4, .v (.bool false))], h ++ X) := by
 intro m
 induction m with
 | zero =>
  intro j hk
  obtain rfl : j = a3.length := by omega
  have e : b3.drop a3.length = [] := List.drop_eq_nil_of_le (by omega)
  rw [List.drop_length, e, if_pos eqDs_nil, loop_eq, si5 hlo, loop_e]
 | succ m ihm =>
  intro j hk
  have hlt : j < a3.length := by omega
  have hlt2 : j < b3.length := by omega
  have hg : a3[j]? = some a3[j] := List.getElem?_eq_getElem hlt
  have hu : b3[j]? = some b3[j] := List.getElem?_eq_getElem hlt2
  obtain ⟨X, hr⟩ := ri5 (lo := lo) (h := h) (l := l) (u := u) (k := k) (a0 := a0) (a1 := a1) (a2 := a2) (a4 := a4) (b0 := b0) (b1 := b1) (b2 := b2) (b4 := b4) hlo hl hg hu (hb _ (List.getElem_mem hlt)) (hc _ (List.getElem_mem hlt2))
  rw [List.drop_eq_getElem_cons hlt, List.drop_eq_getElem_cons hlt2, eqDs_cons]
  cases hm : eqD a3[j] b3[j] with
  | false =>
   rw [hm, if_neg (by simp)] at hr
   rw [Bool.false_and, if_neg (by simp)]
   exact ⟨X, by rw [loop_eq, hr, loop_r]⟩
  | true =>
   rw [hm, if_pos rfl] at hr
   rw [Bool.true_and, loop_eq, hr, loop_n]
   exact ihm (j + 1) (by omega)
theorem rv5 {l u : List Rul.Ru} {k : Nat} {a0 b0 : Int} {a1 b1 : List Int} {a2 b2 : List Rul.CV} {a3 b3 : List Rul.Dc} {a4 b4 : List Rul.Ru} (hlo : lo ≤ h.length) (hl : l.length ≤ 1000000000) (hg : l[k]? = some (.mk a0 a1 a2 a3 a4)) (hu : u[k]? = some (.mk b0 b1 b2 b3 b4)) (hb : OkR (.mk a0 a1 a2 a3 a4)) (hc : OkR (.mk b0 b1 b2 b3 b4))
  (ih : ∀ lo h, lo ≤ h.length → E lo 5 [.list .no (Rul.rusC a4), .list .no (Rul.rusC b4)] h = some (.v (.bool (eqRs a4 b4)), h)) :
  if eqR (.mk a0 a1 a2 a3 a4) (.mk b0 b1 b2 b3 b4) = true then evCode ⟨Tryd.prog, E, lo, h.length, h5⟩ loopW l5x0 (NV5 l u k, h) = some (.normal, NV5 l u (k + 1 : Nat), h) else ∃ X, evCode ⟨Tryd.prog, E, lo, h.length, h5⟩ loopW l5x0 (NV5 l u k, h) = some (.ret, [(4, .v (.bool false))], h ++ X) := by
 have hlt : k < l.length := (List.getElem?_eq_some_iff.1 hg).1
 have hgr := rus_get hg
 have hur := rus_get hu
 rw [ruV_eq] at hgr hur
 have hR := reg5 hlo hgr hur
 simp only [regOps, regsC, b5, Tryd.f5, bodyOf, List.lookup, Nat.reduceBEq, List.cons_append, List.nil_append, List.append_assoc, Option.getD] at hR
 have q : decide ((k : Int) < (l.length : Int)) = true := by simp; omega
 have hw : IntKind.i64.wrap ((k : Int) + 1) = ((k + 1 : Nat) : Int) := wrap_succ (by omega)
 rw [okR_eq] at hb hc
 have b1' := bs_beq hb.1 hc.1
 have hlo1 : lo ≤ h.length + 1 := by omega
 have hlo2 : lo ≤ h.length + 2 := by omega
 have n0 : ((0 : Nat) : Int) = 0 := rfl
 have c9 := fun lo hlo => f9 _ a2 b2 lo (h ++ [.cells [.v (.int .i64 a0), .v (.string (bs a1)), .list .no (Rul.rowsC a2), .list .no (a3.map Rul.declC), .list .no (Rul.rusC a4)], .cells [.v (.int .i64 b0), .v (.string (bs b1)), .list .no (Rul.rowsC b2), .list .no (b3.map Rul.declC), .list .no (Rul.rusC b4)]]) (Nat.le_refl _) hb.2.2.1.hn hc.2.2.1.hn (byL_ok hb.2.2.1) (byL_ok hc.2.2.1) hlo
 have c9a := c9 lo (by simp; omega); have c9b := c9 h.length (by simp); have c9c := c9 (h.length + 2) (by simp)
 have c5 := fun lo hlo => ih lo (h ++ [.cells [.v (.int .i64 a0), .v (.string (bs a1)), .list .no (Rul.rowsC a2), .list .no (a3.map Rul.declC), .list .no (Rul.rusC a4)], .cells [.v (.int .i64 b0), .v (.string (bs b1)), .list .no (Rul.rowsC b2), .list .no (b3.map Rul.declC), .list .no (Rul.rusC b4)]]) hlo
 have c5a := c5 lo (by simp; omega); have c5b := c5 h.length (by simp); have c5c := c5 (h.length + 2) (by simp)
 clear c9 c5
 rw [eqR]
 have q1 : (a0 != b0) = !(a0 == b0) := rfl
 cases m0 : a0 == b0 with
 | false =>
  rw [m0] at q1
  rw [Bool.false_and, if_neg (by simp)]
  refine ⟨[.cells [.v (.int .i64 a0), .v (.string (bs a1)), .list .no (Rul.rowsC a2), .list .no (a3.map Rul.declC), .list .no (Rul.rusC a4)], .cells [.v (.int .i64 b0), .v (.string (bs b1)), .list .no (Rul.rowsC b2), .list .no (b3.map Rul.declC), .list .no (Rul.rusC b4)]], ?_⟩
  simp only [go_sem, l5x0, b5, Tryd.f5, hlo, hlo1, hlo2, q, ↓hR, hw, q1, Rul.rusC_len, Bool.not_false]
  all_goals rfl
 | true =>
  rw [m0] at q1
  rw [Bool.true_and]
  cases m1 : a1 == b1 with
  | false =>
   rw [m1] at b1'
   rw [Bool.false_and, if_neg (by simp)]
   refine ⟨[.cells [.v (.int .i64 a0), .v (.string (bs a1)), .list .no (Rul.rowsC a2), .list .no (a3.map Rul.declC), .list .no (Rul.rusC a4)], .cells [.v (.int .i64 b0), .v (.string (bs b1)), .list .no (Rul.rowsC b2), .list .no (b3.map Rul.declC), .list .no (Rul.rusC b4)]], ?_⟩
   simp only [go_sem, l5x0, b5, Tryd.f5, hlo, hlo1, hlo2, q, ↓hR, hw, q1, b1', Rul.rusC_len, Bool.not_true, Bool.not_false]
   all_goals rfl
  | true =>
   rw [m1] at b1'
   rw [Bool.true_and]
   cases m2 : eqL a2 b2 with
   | false =>
    rw [m2] at c9a c9b c9c
    rw [Bool.false_and, if_neg (by simp)]
    refine ⟨[.cells [.v (.int .i64 a0), .v (.string (bs a1)), .list .no (Rul.rowsC a2), .list .no (a3.map Rul.declC), .list .no (Rul.rusC a4)], .cells [.v (.int .i64 b0), .v (.string (bs b1)), .list .no (Rul.rowsC b2), .list .no (b3.map Rul.declC), .list .no (Rul.rusC b4)]], ?_⟩
    simp only [go_sem, l5x0, b5, Tryd.f5, hlo, hlo1, hlo2, q, ↓hR, hw, q1, b1', c9a, c9b, c9c, Rul.rusC_len, Bool.not_true, Bool.not_false]
    all_goals rfl
   | true =>
    rw [m2] at c9a c9b c9c
    rw [Bool.true_and]
    by_cases hdl : a3.length = b3.length
    ·have qd : ((a3.length : Int) != (b3.length : Int)) = false := by simp [hdl]
     have hL := li5 (l := l) (u := u) (k := k) (a0 := a0) (a1 := a1) (a2 := a2) (a4 := a4) (b0 := b0) (b1 := b1) (b2 := b2) (b4 := b4) hlo hb.2.2.2.1 hdl (fun d hd => okE (hb.2.2.2.2.1 d hd)) (fun d hd => okE (hc.2.2.2.2.1 d hd)) a3.length 0 (by omega)
     rw [List.drop_zero, List.drop_zero] at hL
     cases m3 : eqDs a3 b3 with
     | false =>
      rw [m3, if_neg (by simp)] at hL
      obtain ⟨X, hL⟩ := hL
      rw [Bool.false_and, if_neg (by simp)]
      refine ⟨X, ?_⟩
      simp only [l5x1, b5, Tryd.f5, loopAt, loops, bodyOf, NI5, n0, List.cons_append, List.nil_append, List.append_assoc, List.getElem?_cons_succ, List.getElem?_cons_zero, Option.getD_some, Int.ofNat_zero] at hL
      simp only [go_sem, l5x0, b5, Tryd.f5, hlo, hlo1, hlo2, q, ↓hR, hw, q1, b1', c9a, c9b, c9c, qd, hL, n0, Rul.rusC_len, List.length_map, Bool.not_true, Bool.not_false]
      all_goals rfl
     | true =>
      rw [m3, if_pos rfl] at hL
      rw [Bool.true_and]
      simp only [l5x1, b5, Tryd.f5, loopAt, loops, bodyOf, NI5, n0, List.cons_append, List.nil_append, List.append_assoc, List.getElem?_cons_succ, List.getElem?_cons_zero, Option.getD_some, Int.ofNat_zero] at hL
      cases m4 : eqRs a4 b4 with
      | false =>
       rw [m4] at c5a c5b c5c
       rw [if_neg (by simp)]
       refine ⟨[.cells [.v (.int .i64 a0), .v (.string (bs a1)), .list .no (Rul.rowsC a2), .list .no (a3.map Rul.declC), .list .no (Rul.rusC a4)], .cells [.v (.int .i64 b0), .v (.string (bs b1)), .list .no (Rul.rowsC b2), .list .no (b3.map Rul.declC), .list .no (Rul.rusC b4)]], ?_⟩
       simp only [go_sem, l5x0, b5, Tryd.f5, hlo, hlo1, hlo2, q, ↓hR, hw, q1, b1', c9a, c9b, c9c, qd, hL, c5a, c5b, c5c, n0, Rul.rusC_len, List.length_map, Bool.not_true, Bool.not_false]
       all_goals rfl
      | true =>
       rw [m4] at c5a c5b c5c
       rw [if_pos rfl]
       simp only [go_sem, l5x0, b5, Tryd.f5, hlo, hlo1, hlo2, q, ↓hR, hw, q1, b1', c9a, c9b, c9c, qd, hL, c5a, c5b, c5c, n0, Rul.rusC_len, List.length_map, Bool.not_true, Bool.not_false]
       all_goals rfl
    ·have qd : ((a3.length : Int) != (b3.length : Int)) = true := by simp; omega
     rw [eqDs_len hdl, Bool.false_and, if_neg (by simp)]
     refine ⟨[.cells [.v (.int .i64 a0), .v (.string (bs a1)), .list .no (Rul.rowsC a2), .list .no (a3.map Rul.declC), .list .no (Rul.rusC a4)], .cells [.v (.int .i64 b0), .v (.string (bs b1)), .list .no (Rul.rowsC b2), .list .no (b3.map Rul.declC), .list .no (Rul.rusC b4)]], ?_⟩
     simp only [go_sem, l5x0, b5, Tryd.f5, hlo, hlo1, hlo2, q, ↓hR, hw, q1, b1', c9a, c9b, c9c, qd, Rul.rusC_len, List.length_map, Bool.not_true, Bool.not_false]
     all_goals rfl
theorem sv5 {l u : List Rul.Ru} (hlo : lo ≤ h.length) : evCode ⟨Tryd.prog, E, lo, h.length, h5⟩ loopW l5x0 (NV5 l u l.length, h) =
   some (.exit 0, NV5 l u l.length ++ [(19, .v (.bool false))], h) := by
 have q : decide ((l.length : Int) < (l.length : Int)) = false := by simp
 simp only [go_sem, l5x0, b5, Tryd.f5, hlo, q]
 all_goals rfl
theorem lv5 {l u : List Rul.Ru} (hlo : lo ≤ h.length) (hl : l.length ≤ 1000000000) (hlu : l.length = u.length) (hb : OkRs l) (hc : OkRs u)
  (ih : ∀ v ∈ l, ∀ y ∈ u, ∀ lo h, lo ≤ h.length → E lo 5 [.list .no (Rul.rusC (kidsR v)), .list .no (Rul.rusC (kidsR y))] h = some (.v (.bool (eqRs (kidsR v) (kidsR y))), h)) : ∀ (m k : Nat), k + m = l.length →
  if eqRs (l.drop k) (u.drop k) = true then
   loopW (evCode ⟨Tryd.prog, E, lo, h.length, h5⟩ loopW l5x0) (NV5 l u k, h) = some (.exit 0, NV5 l u l.length ++ [(19, .v (.bool false))], h)
  else ∃ X, loopW (evCode ⟨Tryd.prog, E, lo, h.length, h5⟩ loopW l5x0) (NV5 l u k, h) = some (.ret, [(4, .v (.bool false))], h ++ X) := by
 intro m
 induction m with
 | zero =>
  intro k hk
  obtain rfl : k = l.length := by omega
  have e : u.drop l.length = [] := List.drop_eq_nil_of_le (by omega)
  rw [List.drop_length, e, if_pos eqRs_nil, loop_eq, sv5 hlo, loop_e]
 | succ m ihm =>
  intro k hk
  have hlt : k < l.length := by omega
  have hlt2 : k < u.length := by omega
  have hg : l[k]? = some l[k] := List.getElem?_eq_getElem hlt
  have hu : u[k]? = some u[k] := List.getElem?_eq_getElem hlt2
  have m1 := List.getElem_mem hlt
  have m2 := List.getElem_mem hlt2
  have i1 := ih _ m1 _ m2
  have o1 := okRs_mem hb m1
  have o2 := okRs_mem hc m2
  rw [List.drop_eq_getElem_cons hlt, List.drop_eq_getElem_cons hlt2, eqRs_cons]
  generalize l[k] = v at *
  generalize u[k] = y at *
  obtain ⟨a0, a1, a2, a3, a4⟩ := v
  obtain ⟨b0, b1, b2, b3, b4⟩ := y
  have hr := rv5 (lo := lo) (h := h) hlo hl hg hu o1 o2 i1
  cases hm : eqR (.mk a0 a1 a2 a3 a4) (.mk b0 b1 b2 b3 b4) with
  | false =>
   rw [hm, if_neg (by simp)] at hr
   rw [Bool.false_and, if_neg (by simp)]
   obtain ⟨X, hr⟩ := hr
   exact ⟨X, by rw [loop_eq, hr, loop_r]⟩
  | true =>
   rw [hm, if_pos rfl] at hr
   rw [Bool.true_and, loop_eq, hr, loop_n]
   exact ihm (k + 1) (by omega)
theorem f5 : ∀ (n : Nat) (l u : List Rul.Ru) (lo : Nat) (h : Heap), costRs l ≤ n → OkRs l → OkRs u → l.length ≤ 1000000000 → u.length ≤ 1000000000 → lo ≤ h.length →
  E lo 5 [.list .no (Rul.rusC l), .list .no (Rul.rusC u)] h = some (.v (.bool (eqRs l u)), h) := by
 intro n
 induction n with
 | zero =>
  intro l u lo h hn hb hc hl hul hlo
  have hz : l = [] := by
   cases l with
   | nil => rfl
   | cons r l =>
    rw [costRs_cons] at hn
    have := kids_cost (r := r)
    omega
  subst hz
  have n0 : ((0 : Nat) : Int) = 0 := rfl
  rw [e5 (by simp) (by rfl)]
  cases u with
  | nil =>
   have hL := lv5 (lo := lo) (h := h) (l := []) (u := []) hlo (by simp) rfl hb hc (fun v hv => by cases hv) 0 0 rfl
   rw [List.drop_zero, if_pos eqRs_nil] at hL
   rw [eqRs_nil]
   simp only [l5x0, b5, Tryd.f5, loopAt, loops, bodyOf, go_sem, NV5, n0, List.cons_append, List.nil_append, List.length_nil] at hL
   have q : ((0 : Int) != 0) = false := rfl
   simp only [go_sem, b5, Tryd.f5, hlo, hL, Rul.rusC_len, n0, List.length_nil, q, Int.reduceBNe]
   all_goals rfl
  | cons y r =>
   rw [eqRs_len (by simp)]
   have q : ((0 : Int) != ((r.length + 1 : Nat) : Int)) = true := by simp; omega
   simp only [go_sem, b5, Tryd.f5, hlo, Rul.rusC_len, n0, List.length_nil, q]
   all_goals rfl
 | succ n ihn =>
  intro l u lo h hn hb hc hl hul hlo
  have n0 : ((0 : Nat) : Int) = 0 := rfl
  rw [e5 (by simp) (by rfl)]
  by_cases hq : l.length = u.length
  ·have q : ((l.length : Int) != (u.length : Int)) = false := by simp [hq]
   have hL := lv5 (lo := lo) (h := h) (l := l) (u := u) hlo (by omega) hq hb hc (fun v hv y hy lo h hlo => by
    have h1 := costRs_mem hv
    have h2 := kids_cost (r := v)
    have h3 := kids_ok (okRs_mem hb hv)
    have h4 := kids_ok (okRs_mem hc hy)
    exact ihn (kidsR v) (kidsR y) lo h (by omega) h3.1 h4.1 h3.2 h4.2 hlo) l.length 0 (by omega)
   rw [List.drop_zero, List.drop_zero] at hL
   cases hm : eqRs l u with
   | false =>
    rw [hm, if_neg (by simp)] at hL
    obtain ⟨X, hL⟩ := hL
    simp only [l5x0, b5, Tryd.f5, loopAt, loops, bodyOf, go_sem, NV5, n0] at hL
    simp only [go_sem, b5, Tryd.f5, hlo, hL, Rul.rusC_len, n0, q]
    all_goals rfl
   | true =>
    rw [hm, if_pos rfl] at hL
    simp only [l5x0, b5, Tryd.f5, loopAt, loops, bodyOf, go_sem, NV5, n0, List.cons_append, List.nil_append] at hL
    simp only [go_sem, b5, Tryd.f5, hlo, hL, Rul.rusC_len, n0, q]
    all_goals rfl
  ·have q : ((l.length : Int) != (u.length : Int)) = true := by simp; omega
   rw [eqRs_len hq]
   simp only [go_sem, b5, Tryd.f5, hlo, Rul.rusC_len, n0, q]
   all_goals rfl
end Go.Lift.D7
end

section
open Go.Proofs
namespace Go.Lift.D7
variable [MX]
open Utf Tok Spell
set_option maxRecDepth 20000
set_option maxHeartbeats 40000000
variable {lo : Nat} {h : Heap}
theorem f3 {a b : List Rul.Ru} (hlo : lo ≤ h.length) (hla : a.length ≤ 1000000000) (hlb : b.length ≤ 1000000000) (hoa : OkRs a) (hob : OkRs b) :
  E lo 3 [.list .no (Rul.rusC a), .list .no (Rul.rusC b)] h = some (.v (.bool true), h) := by
 have k1 := fun lo hlo => f5 _ a b lo h (Nat.le_refl _) hoa hob hla hlb hlo
 have k2 := fun lo hlo => f6 _ a b lo h (Nat.le_refl _) hoa hob hla hlb hlo
 have k3 := fun lo hlo => f5 _ a a lo h (Nat.le_refl _) hoa hoa hla hla hlo
 have k4 := fun lo hlo => f7 (lo := lo) (h := h) hlo
 simp only [eqRs_refl] at k3
 have k1a := k1 lo hlo; have k1b := k1 h.length (Nat.le_refl _)
 have k2a := k2 lo hlo; have k2b := k2 h.length (Nat.le_refl _)
 have k3a := k3 lo hlo; have k3b := k3 h.length (Nat.le_refl _)
 have k4a := k4 lo hlo; have k4b := k4 h.length (Nat.le_refl _)
 have q : ∀ x : Bool, (x == x) = true := fun x => by cases x <;> rfl
 have q1 := q (eqRs a b)
 rw [e3 (by simp) (by rfl)]
 simp only [go_sem, b3, Tryd.f3, hlo, k1a, k1b, k2a, k2b, k3a, k3b, k4a, k4b, q1]
 all_goals rfl
end Go.Lift.D7
end

section
open Go.Proofs
namespace Go.Lift.D7
variable [MX]
open Utf
set_option maxRecDepth 20000
set_option maxHeartbeats 4000000
noncomputable abbrev prim0 : Nat → Option (Nat → List V → Heap → Option (V × Heap)) := fun _ => none
noncomputable abbrev E0 : CallF := ev Tryd.prog hints prim0
theorem u8w (z : Int) : IntKind.u8.wrap z = z % 256 := by
 simp only [IntKind.wrap, IntKind.signed, IntKind.bits]
 simp
theorem sh_r (r : Int) (k : Nat) (hk : k ≤ 32) : ishr IntKind.i32 r (k : Int) = r / 2 ^ k := by
 unfold ishr
 have e : min ((k : Int)).toNat IntKind.i32.bits = k := by
  show min ((k : Int)).toNat 32 = k
  omega
 rw [e, Int.fdiv_eq_ediv_of_nonneg _ (Int.le_of_lt (Int.pow_pos (by omega)))]
theorem lo63 (z : Int) : iand .u8 (z % 256) 63 = z % 64 := by
 rw [a63 (y := z % 256) (by omega) (by omega)]
 omega
theorem or_128 {y : Int} (h0 : 0 ≤ y) (h1 : y < 64) : ior .u8 128 y = 128 + y := Utf.o8 (n := 64) (by omega) h0 (by omega)
theorem or_192 {y : Int} (h0 : 0 ≤ y) (h1 : y < 32) : ior .u8 192 y = 192 + y := Utf.o8 (n := 32) (by omega) h0 (by omega)
theorem or_224 {y : Int} (h0 : 0 ≤ y) (h1 : y < 16) : ior .u8 224 y = 224 + y := Utf.o8 (n := 16) (by omega) h0 (by omega)
theorem or_240 {y : Int} (h0 : 0 ≤ y) (h1 : y < 8) : ior .u8 240 y = 240 + y := Utf.o8 (n := 8) (by omega) h0 (by omega)
theorem u32w_pos {r : Int} (h0 : 0 ≤ r) (h1 : r ≤ 2147483647) : IntKind.u32.wrap r = r := by
 simp only [IntKind.wrap, IntKind.signed, IntKind.bits]
 simp
 omega
theorem u32w_neg {r : Int} (h0 : -2147483648 ≤ r) (h1 : r < 0) : IntKind.u32.wrap r = r + 4294967296 := by
 simp only [IntKind.wrap, IntKind.signed, IntKind.bits]
 simp
 omega
section
variable {N : Nat} {h : Heap} {out : List Int} {r : Int}
theorem ev82 (h0 : -2147483648 ≤ r) (h1 : r ≤ 2147483647) (hna : r < 0 ∨ 128 ≤ r) (hl : out.length ≤ 1000000000) :
  evCode ⟨Tryd.prog, E0, N, N, h82⟩ loopW b82 (args0 [.list .yes (ri .u8 out), .v (.int .i32 r)], h) = some (.ret, [(4, .list .yes (ri .u8 (out ++ enc (scal r))))], h) := by
 have hr : ∀ k, k ≤ 4 → (out.length + k) * 1 ≤ 140737488355328 := by intro k hk; omega
 have hq : ∀ k, 9223372036854775800 ≤ k → out.length ≤ k := by intro k hk; omega
 by_cases hbad : r < 0 ∨ 1114111 < r ∨ (55296 ≤ r ∧ r ≤ 57343)
 ·have hs : scal r = 65533 := by
   unfold scal
   rw [if_pos]
   simp
   omega
  have he : enc (scal r) = [239, 191, 189] := by rw [hs]; rfl
  rw [he, ← ri_app]
  have e1 : ri .u8 [239, 191, 189] = [[V.v (.int .u8 239)], [V.v (.int .u8 191)], [V.v (.int .u8 189)]] := rfl
  rw [e1]
  by_cases hn : r < 0
  ·have w := u32w_neg h0 hn
   have q1 : decide (r + 4294967296 ≤ 2047) = false := by simp; omega
   have q2 : decide (r + 4294967296 < 55296) = false := by simp; omega
   have q3 : decide (57343 < r + 4294967296) = true := by simp; omega
   have q4 : decide (r + 4294967296 ≤ 65535) = false := by simp; omega
   have q5 : decide (65535 < r + 4294967296) = true := by simp; omega
   have q6 : decide (r + 4294967296 ≤ 1114111) = false := by simp; omega
   simp only [go_sem, b82, Tryd.f82, w, q1, q2, q3, q4, q5, q6, hr, hq]
   all_goals rfl
  ·have w := u32w_pos (by omega) h1
   have q1 : decide (r ≤ 2047) = false := by simp; omega
   have q2 : decide (r < 55296) = false := by simp; omega
   by_cases hb : 1114111 < r
   ·have q3 : decide (57343 < r) = true := by simp; omega
    have q4 : decide (r ≤ 65535) = false := by simp; omega
    have q5 : decide (65535 < r) = true := by simp; omega
    have q6 : decide (r ≤ 1114111) = false := by simp; omega
    simp only [go_sem, b82, Tryd.f82, w, q1, q2, q3, q4, q5, q6, hr, hq]
    all_goals rfl
   ·have q3 : decide (57343 < r) = false := by simp; omega
    have q5 : decide (65535 < r) = false := by simp; omega
    simp only [go_sem, b82, Tryd.f82, w, q1, q2, q3, q5, hr, hq]
    all_goals rfl
 ·have hs : scal r = r := by
   unfold scal
   rw [if_neg]
   simp
   omega
  have w := u32w_pos (r := r) (by omega) h1
  have s6 : ishr IntKind.i32 r 6 = r / 64 := sh_r r 6 (by omega)
  have s12 : ishr IntKind.i32 r 12 = r / 4096 := sh_r r 12 (by omega)
  have s18 : ishr IntKind.i32 r 18 = r / 262144 := sh_r r 18 (by omega)
  have l0 := lo63 r
  have l6 := lo63 (r / 64)
  have l12 := lo63 (r / 4096)
  have o0 := or_128 (y := r % 64) (by omega) (by omega)
  have o6 := or_128 (y := r / 64 % 64) (by omega) (by omega)
  have o12 := or_128 (y := r / 4096 % 64) (by omega) (by omega)
  have m0 : r % 64 % 256 = r % 64 := by omega
  have m6 : r / 64 % 64 % 256 = r / 64 % 64 := by omega
  have m12 : r / 4096 % 64 % 256 = r / 4096 % 64 := by omega
  have n0 : (128 + r % 64) % 256 = 128 + r % 64 := by omega
  have n6 : (128 + r / 64 % 64) % 256 = 128 + r / 64 % 64 := by omega
  have n12 : (128 + r / 4096 % 64) % 256 = 128 + r / 4096 % 64 := by omega
  rw [hs, ← ri_app]
  by_cases c1 : r ≤ 2047
  ·have q1 : decide (r ≤ 2047) = true := by simp [c1]
   have t : r / 64 % 256 = r / 64 := by omega
   have o := or_192 (y := r / 64) (by omega) (by omega)
   have no : (192 + r / 64) % 256 = 192 + r / 64 := by omega
   have e : ri .u8 (enc r) = [[V.v (.int .u8 (192 + r / 64))], [V.v (.int .u8 (128 + r % 64))]] := by unfold enc; rw [if_neg (by omega), if_pos (by omega)]; rfl
   rw [e]
   simp only [go_sem, b82, Tryd.f82, w, q1, u8w, s6, l0, o0, m0, n0, t, o, no, hr, hq]
   all_goals rfl
  ·have q1 : decide (r ≤ 2047) = false := by simp; omega
   by_cases c2 : r ≤ 65535
   ·have t : r / 4096 % 256 = r / 4096 := by omega
    have o := or_224 (y := r / 4096) (by omega) (by omega)
    have no : (224 + r / 4096) % 256 = 224 + r / 4096 := by omega
    have e : ri .u8 (enc r) = [[V.v (.int .u8 (224 + r / 4096))], [V.v (.int .u8 (128 + r / 64 % 64))], [V.v (.int .u8 (128 + r % 64))]] := by unfold enc; rw [if_neg (by omega), if_neg (by omega), if_pos (by omega)]; rfl
    rw [e]
    by_cases c3 : r < 55296
    ·have q2 : decide (r < 55296) = true := by simp [c3]
     simp only [go_sem, b82, Tryd.f82, w, q1, q2, u8w, s6, s12, l0, l6, o0, o6, m0, m6, n0, n6, t, o, no, hr, hq]
     all_goals rfl
    ·have q2 : decide (r < 55296) = false := by simp; omega
     have q3 : decide (57343 < r) = true := by simp; omega
     have q4 : decide (r ≤ 65535) = true := by simp [c2]
     simp only [go_sem, b82, Tryd.f82, w, q1, q2, q3, q4, u8w, s6, s12, l0, l6, o0, o6, m0, m6, n0, n6, t, o, no, hr, hq]
     all_goals rfl
   ·have q2 : decide (r < 55296) = false := by simp; omega
    have q3 : decide (57343 < r) = true := by simp; omega
    have q4 : decide (r ≤ 65535) = false := by simp; omega
    have q5 : decide (65535 < r) = true := by simp; omega
    have q6 : decide (r ≤ 1114111) = true := by simp; omega
    have t : r / 262144 % 256 = r / 262144 := by omega
    have o := or_240 (y := r / 262144) (by omega) (by omega)
    have no : (240 + r / 262144) % 256 = 240 + r / 262144 := by omega
    have e : ri .u8 (enc r) = [[V.v (.int .u8 (240 + r / 262144))], [V.v (.int .u8 (128 + r / 4096 % 64))], [V.v (.int .u8 (128 + r / 64 % 64))], [V.v (.int .u8 (128 + r % 64))]] := by unfold enc; rw [if_neg (by omega), if_neg (by omega), if_neg (by omega)]; rfl
    rw [e]
    simp only [go_sem, b82, Tryd.f82, w, q1, q2, q3, q4, q5, q6, u8w, s6, s12, s18, l0, l6, l12, o0, o6, o12, m0, m6, m12, n0, n6, n12, t, o, no, hr, hq]
    all_goals rfl
theorem ev69 (h0 : 0 ≤ r) (h1 : r < 128) (hl : out.length ≤ 1000000000) :
  evCode ⟨Tryd.prog, E0, N, N, h69⟩ loopW b69 (args0 [.list .yes (ri .u8 out), .v (.int .i32 r)], h) = some (.ret, [(4, .list .yes (ri .u8 (out ++ enc (scal r))))], h) := by
 have hr : ∀ k, k ≤ 4 → (out.length + k) * 1 ≤ 140737488355328 := by intro k hk; omega
 have hq : ∀ k, 9223372036854775800 ≤ k → out.length ≤ k := by intro k hk; omega
 have hs : scal r = r := by
  unfold scal
  rw [if_neg]
  simp
  omega
 have e : ri .u8 (enc r) = [[V.v (.int .u8 r)]] := by unfold enc; rw [if_pos h1]; rfl
 have w := u32w_pos (r := r) (by omega) (by omega)
 have q : decide (r ≤ 127) = true := by simp; omega
 have t : r % 256 = r := by omega
 rw [hs, ← ri_app, e]
 simp only [go_sem, b69, Tryd.f69, w, q, u8w, t, hr, hq]
 all_goals rfl
end
end Go.Lift.D7
end

section
open Go.Proofs
namespace Go.Lift.D7
variable [MX]
open Utf Go.RowKit
set_option maxRecDepth 100000
set_option maxHeartbeats 4000000
theorem extra105 : Builder.Extra Tryd.prog Tryd.lays105_ren where
 sizeBuilder := by kernel_rfl
 liesBuilder := by kernel_rfl
 t5 := by kernel_rfl
 a5 := Tryd.lays105.a5
 z5 := Tryd.lays105.z5
 v5 := Tryd.lays105.v5
 infoByte := by kernel_rfl
 cellsByte := by kernel_rfl
 sizeByte := by kernel_rfl
 neB5 := by decide
theorem follows4 : Tryd.prog.follows .mixedOrders = true := by kernel_rfl
section
variable {m : List Nat} {c : Cl} {w : World} {h : Heap} {out : List Int} {r : Int} {y : Value}
def Grown (m : List Nat) (c : Cl) (w : World) (h : Heap) (y : Value) (out' : List Int) (z : Value) (w' : World) : Prop :=
 ∃ c', HOK m c' w' h ∧ OwnsH m c' w' h (ri .u8 out') z ∧ FrY y w c w' c' ∧ ∀ b, ownBlk z = some b → w.heap.size ≤ b ∨ ownBlk y = some b
theorem args2 (hO : OwnsH m c w h (ri .u8 out) y) : R2 (VRr m c w) (V.list .yes (ri .u8 out) :: [.v (.int .i32 r)]) (#[y, .int .i32 r] : Array Value).toList := by
 refine ⟨rfl, fun i x z hx hz => ?_⟩
 match i with
 | 0 => cases hx; cases hz; exact hO.1
 | 1 => cases hx; cases hz; rfl
 | i + 2 => simp at hx
theorem ok82 (h0 : -2147483648 ≤ r) (h1 : r ≤ 2147483647) (hna : r < 0 ∨ 128 ≤ r) (hl : out.length ≤ 1000000000) (hH : HOK m c w h) (hO : OwnsH m c w h (ri .u8 out) y) :
  Calls Tryd.prog 82 #[y, .int .i32 r] w fun e w' => ∃ z, e = .returned z ∧ Grown m c w h y (out ++ enc (scal r)) z w' :=
 (own_ok (hints := hints) (prim := prim0) follows4 (fun _ _ hp => by cases hp) (f := 82) (t := 4) (hi := h82) (xs := #[y, .int .i32 r]) Tryd.func82 rfl Tryd.ntmps82 rfl c82 rfl rfl (by simp) (ev82 h0 h1 hna hl) (.inr rfl) rfl hH hO (args2 hO)).mono
  fun e w' ⟨z, c', he, k1, k2, k3, k4⟩ => ⟨z, he, c', k1, k2, k3, k4⟩
theorem rune_ok (h0 : -2147483648 ≤ r) (h1 : r ≤ 2147483647) (hl : out.length ≤ 1000000000) (hH : HOK m c w h) (hO : OwnsH m c w h (ri .u8 out) y) :
  Calls Tryd.prog 69 #[y, .int .i32 r] w fun e w' => ∃ z, e = .returned z ∧ Grown m c w h y (out ++ enc (scal r)) z w' := by
 by_cases hna : r < 0 ∨ 128 ≤ r
 ·have k := ok82 h0 h1 hna hl hH hO
  have hq : decide (IntKind.u32.wrap r ≤ 127) = false := by
   rcases hna with hn | hn
   ·rw [u32w_neg h0 hn]; simp; omega
   ·rw [u32w_pos (by omega) h1]; simp; omega
  clear hO hH
  go_enter Tryd.func69, Tryd.ntmps69
  go_wp2_with (go_at_call 82; refine k.mono ?_; rintro e w' ⟨z, rfl, hg⟩)
  go_ret
  exact ⟨z, rfl, hg⟩
 ·exact (own_ok (hints := hints) (prim := prim0) follows4 (fun _ _ hp => by cases hp) (f := 69) (t := 4) (hi := h69) (xs := #[y, .int .i32 r]) Tryd.func69 rfl Tryd.ntmps69 rfl c69 rfl rfl (by simp) (ev69 (by omega) (by omega) hl) (.inr rfl) rfl hH hO (args2 hO)).mono
   fun e w' ⟨z, c', he, k1, k2, k3, k4⟩ => ⟨z, he, c', k1, k2, k3, k4⟩
end
section
variable {m : List Nat} {c : Cl} {w : World} {h : Heap} {E : Entry}
theorem fresh3 {b : Nat} {w : World} (h0 : w.cell? ⟨b, 0, none⟩ = some (.pointer none)) (hsh : w.shape? b = some (50, 3)) (hfz : w.frozen? ⟨b, 0, none⟩ = false) :
  Calls Tryd.prog 27 #[.pointer (some ⟨b, 0, none⟩)] w fun e w' => e = .returned (.tuple #[]) ∧ w' = w.setCell ⟨b, 0, none⟩ (.pointer (some ⟨b, 0, none⟩)) := by
 obtain ⟨j, hj, hjs⟩ := Option.map_eq_some_iff.1 extra105.sizeBuilder
 go_enter Tryd.func27, Tryd.ntmps27
 go_wp2
 rw [Lib.run_to_unsafe w ⟨b, 0, none⟩ Tryd.underlying45 Tryd.underlying78 hj (by rw [hjs]; decide) hsh (Nat.zero_lt_succ 2)]
 simp only [Result.andThen]
 rw [Oper.upon_value]
 go_wp2
 rw [run_callFunc_extern Tryd.func38 (by kernel_rfl) (by kernel_rfl) (by kernel_rfl) (e := Extern.AbiNoEscape.same) (by kernel_rfl)]
 rw [Lib.run_noEscape]
 simp only [Result.andThen]
 rw [Oper.upon_value]
 go_wp2
 rw [Lib.run_from_unsafe w ⟨b, 0, none⟩ Tryd.underlying78 Tryd.underlying45 hj hsh (by kernel_rfl)]
 simp only [Result.andThen]
 rw [Oper.upon_value]
 go_wp2
 go_end0
 exact ⟨rfl, rfl⟩
theorem cc_inv (hI : InvP [] E m c w [] h act0) {i b : Nat} {p0 x : V} {r : List V} (hr1 : r.length ≤ 1) (hi : h[i]? = some (.cells (p0 :: x :: r))) (hm : m[i]? = some b) (hlo : E.lo ≤ i) (hp : okP i p0 = true) :
  ∃ w1, (Calls Tryd.prog 27 #[.pointer (some ⟨b, 0, none⟩)] w fun e w' => e = .returned (.tuple #[]) ∧ w' = w1) ∧ InvP [] E m c w1 [] (Lift.setOb h i (.ptr i 0 :: x :: r)) act0 := by
 obtain ⟨arr, e, f, hw, hle, hfr, hall, hbld⟩ := hok_cells hI.hok hi hm
 have hcs : cellsOfOb h i = some (p0 :: x :: r) := by unfold cellsOfOb; rw [hi]
 have hsz0 : 0 < arr.size := by simp at hle; omega
 obtain ⟨a0, ha0⟩ : ∃ a0, arr[0]? = some a0 := ⟨_, Array.getElem?_eq_getElem hsz0⟩
 have hr0 := hall 0 p0 a0 rfl ha0
 have hc0 : w.cell? ⟨b, 0, none⟩ = some a0 := by rw [cell_arr hw]; exact ha0
 unfold okP at hp
 split at hp
 ·have hx : a0 = .pointer none := hr0.1
  rw [hx] at hc0
  have k : Calls Tryd.prog 27 #[.pointer (some ⟨b, 0, none⟩)] w fun e w' => e = .returned (.tuple #[]) ∧ w' = w.setCell ⟨b, 0, none⟩ (.pointer (some ⟨b, 0, none⟩)) := by
   match r, hr1, hbld with
   | [], _, hbld =>
    obtain ⟨rfl, hsz⟩ := hbld 48 rfl rfl
    have hsh : w.shape? b = some (48, 2) := by simp [World.shape?, hw, hsz]
    exact Any.Builder_copyCheck_fresh (P := Tryd.prog) (ρ := Tryd.lays105_ren) { Tryd.lays105 with } extra105.toX72 b w hc0 hsh (hfr 0 (by simp))
   | [y], _, hbld =>
    obtain ⟨rfl, hsz⟩ := hbld 50 rfl rfl
    have hsh : w.shape? b = some (50, 3) := by simp [World.shape?, hw, hsz]
    exact fresh3 hc0 hsh (hfr 0 (by simp))
  obtain ⟨hI', _⟩ := store_cells (P := Tryd.prog) hI (off := 0) (vs := [.ptr i 0]) (ys := [.pointer (some ⟨b, 0, none⟩)]) 3 hcs hm hlo (by simp) ⟨rfl, fun j v y hv hy => by
    match j with
    | 0 => cases hv; cases hy; exact ⟨b, hm, rfl⟩
    | j + 1 => simp at hv⟩ (fun y hy => by simp at hy; subst hy; rfl) (fun j r y hv hy => by
    match j with
    | 0 => cases hv
    | j + 1 => simp at hv) (.inr (by simp; omega)) (fun t i j r => by simp [look]) (fun _ v hv => by simp at hv; subst hv; simp [okv, okc]) rfl
  exact ⟨_, k, hI'⟩
 ·rename_i j
  rw [beq_iff_eq] at hp
  subst hp
  obtain ⟨g, hg, hx⟩ := hr0.1
  rw [hm] at hg
  cases hg
  rw [hx] at hc0
  have k := Any.Builder_copyCheck_used (P := Tryd.prog) (ρ := Tryd.lays105_ren) { Tryd.lays105 with } extra105.toX72 b w hc0
  refine ⟨w, k, ?_⟩
  have e1 : Lift.setOb h j (.ptr j 0 :: x :: r) = h := by
   unfold Lift.setOb
   apply List.ext_getElem?
   intro n
   rw [List.getElem?_set]
   split
   ·rename_i hn
    subst hn
    rw [hi]
    simp
    exact (List.getElem?_eq_some_iff.1 hi).1
   ·rfl
  rw [e1]
  exact hI
 ·cases hp
end
theorem set_take {h : Heap} {i lo : Nat} {cs cs0 : List V} (hlo : lo ≤ i) (h0 : h[i]? = some (.cells cs0)) (hk : ∀ n, i < n → (∀ v ∈ cs0, okv n v = true) → ∀ v ∈ cs, okv n v = true) :
  (Lift.setOb h i cs).length = h.length ∧ (Lift.setOb h i cs).take lo = h.take lo ∧ Keeps h.length h (Lift.setOb h i cs) := by
 refine ⟨by unfold Lift.setOb; exact List.length_set, by unfold Lift.setOb; exact List.take_set_of_le hlo, fun n j cs' hj hjn hcs h1 => ?_⟩
 have hil : i < h.length := (List.getElem?_eq_some_iff.1 h0).1
 unfold cellsOfOb Lift.setOb at hcs
 by_cases hji : j = i
 ·subst hji
  rw [List.getElem?_set_self hil] at hcs
  cases hcs
  exact hk n hjn (h1 cs0 (by unfold cellsOfOb; rw [h0]))
 ·rw [List.getElem?_set_ne (fun e => hji e.symm)] at hcs
  exact h1 cs' hcs
theorem ok_ptr {n i o : Nat} (h : i < n) : okv n (.ptr i o) = true := by simp [okv, okc]; omega
theorem ptr_arg {m : List Nat} {c : Cl} {w : World} {i : Nat} {xs : Array Value} (h : R2 (VRr m c w) [.ptr i 0] xs.toList) : ∃ b, m[i]? = some b ∧ xs = #[.pointer (some ⟨b, 0, none⟩)] := by
 obtain ⟨l⟩ := xs
 match l, h.1 with
 | [x], _ =>
  obtain ⟨b, hb, rfl⟩ : ∃ g, m[i]? = some g ∧ x = .pointer (some ⟨g, 0, none⟩) := h.2 0 _ _ rfl rfl
  exact ⟨b, hb, rfl⟩
theorem ptr_arg2 {m : List Nat} {c : Cl} {w : World} {i : Nat} {a : Value} {xs : Array Value} (h : R2 (VRr m c w) [.ptr i 0, .v a] xs.toList) : ∃ b, m[i]? = some b ∧ xs = #[.pointer (some ⟨b, 0, none⟩), a] := by
 obtain ⟨l⟩ := xs
 match l, h.1 with
 | [x, y], _ =>
  obtain ⟨b, hb, rfl⟩ : ∃ g, m[i]? = some g ∧ x = .pointer (some ⟨g, 0, none⟩) := h.2 0 _ _ rfl rfl
  have hy : y = a := h.2 1 _ _ rfl rfl
  subst hy
  exact ⟨b, hb, rfl⟩
theorem cc_ok {lo i : Nat} {h : Heap} {p0 x : V} {r : List V} (hr1 : r.length ≤ 1) (hi : h[i]? = some (.cells (p0 :: x :: r))) (hlo : lo ≤ i) (hlh : lo ≤ h.length) (hp : okP i p0 = true) :
  CallOK0 Tryd.prog lo 27 [.ptr i 0] h (.tup []) (Lift.setOb h i (.ptr i 0 :: x :: r)) := by
 refine ⟨rfl, enters_of Tryd.func27 (by kernel_rfl) rfl, fun m c w xs hH ha => ⟨set_take hlo hi (fun n hn hv v hm => by
  rcases List.mem_cons.1 hm with rfl | hm
  ·exact ok_ptr hn
  ·exact hv v (List.mem_cons.2 (.inr hm))), ?_⟩⟩
 obtain ⟨b, hm, rfl⟩ := ptr_arg ha
 obtain ⟨w1, hk, hI⟩ := cc_inv (inv0 hH hlh) hr1 hi hm hlo hp
 refine hk.mono fun e w' ⟨he, hw⟩ => ?_
 subst hw
 obtain ⟨_, k1, k2, k3⟩ := done0 hH.1.len hI
 exact ⟨_, c, he, ⟨#[], rfl, R2.nil⟩, k1, k2, k3⟩
theorem walk55 {b : Nat} {r : Int} {w w1 : World} {ao : Option Addr} {n cap : Nat} {Q : Value → World → Prop}
  (hcc : Calls Tryd.prog 27 #[.pointer (some ⟨b, 0, none⟩)] w fun e w' => e = .returned (.tuple #[]) ∧ w' = w1)
  (c1 : w1.cell? ⟨b, 1, none⟩ = some (.slice ao n cap))
  (hr : Calls Tryd.prog 69 #[.slice ao n cap, .int .i32 r] w1 fun e w' => ∃ z, e = .returned z ∧ Q z w')
  (hq : ∀ z w', Q z w' → w'.cell? ⟨b, 1, none⟩ = some (.slice ao n cap) ∧ w'.frozen? ⟨b, 1, none⟩ = false ∧ ∃ zo k zc, z = .slice zo k zc) :
  Calls Tryd.prog 55 #[.pointer (some ⟨b, 0, none⟩), .int .i32 r] w fun e w' => ∃ zo k zc w2, Q (.slice zo k zc) w2 ∧ e = .returned (.tuple #[.int .i64 (wrap64 ((k : Int) - (n : Int))), .nilIface]) ∧ w' = w2.setCell ⟨b, 1, none⟩ (.slice zo k zc) := by
 go_enter Tryd.func55, Tryd.ntmps55
 go_wp2_with (go_at_call 27; refine hcc.mono ?_; rintro e w' ⟨rfl, rfl⟩)
 go_wp2_with (go_at_call 69; refine hr.mono ?_; rintro e w2 ⟨z, rfl, hz⟩; obtain ⟨d1, f1, zo, k, zc, rfl⟩ := hq _ _ hz)
 go_ret2
 exact ⟨zo, k, zc, _, hz, rfl, rfl⟩
theorem vp_slice {c : Cl} {w : World} {k : Own} {rows : List (List V)} {x : Value} (h : VP c w (.list k rows) x) : ∃ ao cap, x = .slice ao rows.length cap := by
 cases h with
 | empty => exact ⟨_, _, rfl⟩
 | list => exact ⟨_, _, rfl⟩
theorem cells_setOb {h : Heap} {i : Nat} {cs : List V} (hi : i < h.length) : cellsOfOb (Lift.setOb h i cs) i = some cs := by
 unfold cellsOfOb Lift.setOb
 rw [List.getElem?_set_self hi]
theorem setOb_setOb {h : Heap} {i : Nat} {cs ds : List V} : Lift.setOb (Lift.setOb h i cs) i ds = Lift.setOb h i ds := by
 unfold Lift.setOb
 rw [List.set_set]
theorem wr_ok {lo i : Nat} {h : Heap} {p0 : V} {out : List Int} {r : Int} (hi : h[i]? = some (.cells [p0, .list .yes (ri .u8 out)])) (hlo : lo ≤ i) (hlh : lo ≤ h.length) (hp : okP i p0 = true)
  (h0 : -2147483648 ≤ r) (h1 : r ≤ 2147483647) (hl : out.length ≤ 1000000000) :
  CallOK0 Tryd.prog lo 55 [.ptr i 0, .v (.int .i32 r)] h (.tup [.v (.int .i64 ((enc (scal r)).length : Nat)), .v .nilIface]) (Lift.setOb h i [.ptr i 0, .list .yes (ri .u8 (out ++ enc (scal r)))]) := by
 refine ⟨rfl, enters_of Tryd.func55 (by kernel_rfl) rfl, fun m c w xs hH ha => ⟨set_take hlo hi (fun n hn hv v hm => by
  rcases List.mem_cons.1 hm with rfl | hm
  ·exact ok_ptr hn
  ·obtain rfl : v = _ := by simpa using hm
   rfl), ?_⟩⟩
 obtain ⟨b, hm, rfl⟩ := ptr_arg2 ha
 have hil : i < h.length := (List.getElem?_eq_some_iff.1 hi).1
 obtain ⟨w1, hcc, hI1⟩ := cc_inv (inv0 hH hlh) (r := []) (by simp) hi hm hlo hp
 have hcs1 := cells_setOb (cs := [.ptr i 0, .list .yes (ri .u8 out)]) hil
 have hi1 : (Lift.setOb h i [.ptr i 0, .list .yes (ri .u8 out)])[i]? = some (.cells [.ptr i 0, .list .yes (ri .u8 out)]) := by
  unfold Lift.setOb
  rw [List.getElem?_set_self hil]
 obtain ⟨y, hat, hI2, hO⟩ := set_obj_flag hI1 hcs1 (j := 1) rfl hlo
 obtain ⟨arr, e0, f0, hw0, hle0, hfr0, _, _⟩ := hok_cells hI1.hok hi1 hm
 have hc1 : w1.cell? ⟨b, 1, none⟩ = some y := by
  obtain ⟨cs, b', k1, k2, k3, k4⟩ := hat
  rw [hm] at k3
  cases k3
  exact k4
 have hy := hO.1
 obtain ⟨ao, cap, rfl⟩ := vp_slice hy
 have hOH : OwnsH m c w1 (Lift.setOb (Lift.setOb h i [.ptr i 0, .list .yes (ri .u8 out)]) i (([.ptr i 0, .list .yes (ri .u8 out)] : List V).set 1 (.list .no (ri .u8 out)))) (ri .u8 out) (.slice ao (ri .u8 out).length cap) := ⟨hO.1, hO.2.1, hO.2.2.1⟩
 have hrune := rune_ok h0 h1 hl hI2.hok hOH
 have hbl : b < w1.heap.size := (Array.getElem?_eq_some_iff.1 hw0).1
 have hq : ∀ z w', Grown m c w1 (Lift.setOb (Lift.setOb h i [.ptr i 0, .list .yes (ri .u8 out)]) i (([.ptr i 0, .list .yes (ri .u8 out)] : List V).set 1 (.list .no (ri .u8 out)))) (.slice ao (ri .u8 out).length cap) (out ++ enc (scal r)) z w' →
   w'.cell? ⟨b, 1, none⟩ = some (.slice ao (ri .u8 out).length cap) ∧ w'.frozen? ⟨b, 1, none⟩ = false ∧ ∃ zo k zc, z = .slice zo k zc := fun z w' ⟨c', g1, g2, g3, g4⟩ => by
  have hbb := (g3.2.2.2.2.2 b hbl (fun e => (hO.2.1.lt e).2 (List.mem_of_getElem? hm))).1
  obtain ⟨zo, zc, rfl⟩ := vp_slice g2.1
  exact ⟨by rw [cell_of_heap hbb]; exact hc1, by rw [frozen_of_heap hbb]; exact hfr0 1 (by simp), _, _, _, rfl⟩
 refine (walk55 hcc hc1 hrune hq).mono fun e w' ⟨zo, k, zc, w2, ⟨c', g1, g2, g3, g4⟩, he, hw'⟩ => ?_
 subst hw'
 have hI3 := own_step hI2 hO.2.1 hO.2.2.2 g1 g3
 have hk : k = (ri .u8 (out ++ enc (scal r))).length := by
  obtain ⟨zo', zc', hz⟩ := vp_slice g2.1
  injection hz
 have hcs2 := cells_setOb (h := Lift.setOb h i [.ptr i 0, .list .yes (ri .u8 out)]) (cs := ([.ptr i 0, .list .yes (ri .u8 out)] : List V).set 1 (.list .no (ri .u8 out))) (i := i) (by unfold Lift.setOb; simpa using hil)
 have hsz1 : w.heap.size ≤ w1.heap.size := hI1.fr.size
 obtain ⟨hI4, _⟩ := store_cells (P := Tryd.prog) hI3 (off := 1) (vs := [.list .yes (ri .u8 (out ++ enc (scal r)))]) (ys := [.slice zo k zc]) 1 hcs2 hm hlo (by simp) ⟨rfl, fun j v y hv hy => by
   match j with
   | 0 => cases hv; cases hy; exact VR1_of_VP g2.1
   | j + 1 => simp at hv⟩ (fun y hy => by simp at hy; subst hy; rfl) (fun j r' y hv hy => by
   match j with
   | 0 =>
    cases hv; cases hy
    refine .inr ⟨rfl, g2.2.1, g2.2.2, fun bb hbb => ?_⟩
    rcases g4 bb hbb with h' | h'
    ·exact .inl (Nat.le_trans hsz1 h')
    ·exact hO.2.2.2 bb h'
   | j + 1 => simp at hv) (.inl ⟨Nat.le_refl _, by simp⟩) (fun t i j r => by simp [look]) (fun _ v hv => by simp at hv; subst hv; rfl) rfl
 obtain ⟨_, q1, q2, q3⟩ := done0 hH.1.len hI4
 have hheap : Lift.setOb (Lift.setOb (Lift.setOb h i [.ptr i 0, .list .yes (ri .u8 out)]) i (([.ptr i 0, .list .yes (ri .u8 out)] : List V).set 1 (.list .no (ri .u8 out)))) i (List.take 1 (([.ptr i 0, .list .yes (ri .u8 out)] : List V).set 1 (.list .no (ri .u8 out))) ++ [.list .yes (ri .u8 (out ++ enc (scal r)))] ++ List.drop (1 + ([.list .yes (ri .u8 (out ++ enc (scal r)))] : List V).length) (([.ptr i 0, .list .yes (ri .u8 out)] : List V).set 1 (.list .no (ri .u8 out)))) =
   Lift.setOb h i [.ptr i 0, .list .yes (ri .u8 (out ++ enc (scal r)))] := by
  rw [setOb_setOb, setOb_setOb]
  rfl
 rw [hheap] at q1 q3
 refine ⟨_, c', he, ⟨_, rfl, ?_⟩, q1, q2, q3⟩
 have hlen : wrap64 ((k : Int) - ((ri .u8 out).length : Int)) = ((enc (scal r)).length : Int) := by
  have he4 : (enc (scal r)).length ≤ 4 := by
   unfold enc
   split
   ·simp
   ·split
    ·simp
    ·split <;> simp
  have e1 : ∀ l : List Int, (ri .u8 l).length = l.length := fun l => by simp [ri]
  rw [hk, e1, e1, List.length_append]
  unfold wrap64
  omega
 rw [hlen]
 refine ⟨rfl, fun j v y hv hy => ?_⟩
 match j with
 | 0 => cases hv; cases hy; rfl
 | 1 => cases hv; cases hy; rfl
 | j + 2 => simp at hv
end Go.Lift.D7
end
