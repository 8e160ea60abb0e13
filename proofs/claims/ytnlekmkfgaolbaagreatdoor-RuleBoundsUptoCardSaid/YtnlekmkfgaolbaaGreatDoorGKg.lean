/- The program's numbers: rat.cut. -/
import Derived.Lib.TrailingZeros
import Derived.Lib.ItoaNum
import Derived.Test.YtnlekmkfgaolbaaGreatDoorProg
import Derived.Shelf.LaysM
import Derived.Shelf.Strings.Repeat
import Derived.Shelf.Strings.Search2
import Derived.Shelf.Strconv.Itoa3
import Derived.Shelf.Strings.MapAny
import Derived.WalkKit
import Derived.Test.YtnlekmkfgaolbaaGreatDoorGK8Basea
import Derived.Test.YtnlekmkfgaolbaaGreatDoorGKc
import Derived.Test.YtnlekmkfgaolbaaGreatDoorGKd
import Derived.Test.YtnlekmkfgaolbaaGreatDoorGKe
import Derived.Test.YtnlekmkfgaolbaaGreatDoorGKf
set_option linter.unusedVariables false
set_option linter.unusedSimpArgs false
set_option linter.unusedSectionVars false
set_option maxRecDepth 20000
set_option maxHeartbeats 4000000
section
open Go.Proofs
namespace Go.Lift.P8.T
variable [MX]
open Utf Tok
def wrC (below : Bool) (d : List Int) (behind exp : Int) (whole : Bool) : List V := [.v (.bool below), .v (.string (bs d)), .v (.int .i64 behind), .v (.int .i64 exp), .v (.bool whole)]
section
variable {lo : Nat} {t : List Int} {h : Heap} {neg : Bool}
noncomputable abbrev X186 (lo : Nat) (h : Heap) : Cx := ⟨Tryz.prog, E, lo, h.length, h186⟩
abbrev P143 (t : List Int) (h : Heap) (ex : Env) (w : List V) : Env × Heap :=
 ((0, .v (.string (bs t))) :: (2, .ptr h.length 0) :: (4, .ptr (h.length + 1) 0) :: ex, h ++ [.cells (wrC false [] 0 0 false), .cells w])
theorem p143a {k : Nat} (hy : By t) (hl : t.length <= 100000000000) (hlo : lo <= h.length) (hlo2 : lo <= h.length + 1)
  (ht : (∃ c, t[0]? = some c /\ (c == 43) = false /\ (c == 45) = false /\ k = 0 /\ neg = false) \/ (t[0]? = some 43 /\ k = 1 /\ neg = false) \/ (t[0]? = some 45 /\ k = 1 /\ neg = true)) :
  ∃ x, evL (X186 lo h) loopW (pc b186 0 4) (args0 [.v (.string (bs t))], h) = some (.normal, P143 (t.drop k) h [(21, x)] (wrC neg [] 0 0 false)) := by
 have hlen : 0 < t.length := by
  rcases ht with ⟨c, h, _⟩ | ⟨h, _⟩ | ⟨h, _⟩ <;> exact (List.getElem?_eq_some_iff.1 h).1
 have t0 := bs_nil_eq' t
 rw [decide_eq_false (by intro h; rw [h] at hlen; simp at hlen)] at t0
 have hix := bs_ix hy 0
 have h1 : 1 <= t.length := hlen
 rcases ht with ⟨c, hc, c1, c2, rfl, rfl⟩ | ⟨hc, rfl, rfl⟩ | ⟨hc, rfl, rfl⟩
 ·refine ⟨.v (.bool false), ?_⟩
  rw [hc] at hix
  simp only [go_sem, X186, b186, Tryz.f186, t0, hix, c1, c2, wrC]
  all_goals rfl
 ·have c1 : ((43 : Int) == 43) = true := rfl
  have c2 : ((43 : Int) == 45) = false := rfl
  refine ⟨.v (.bool true), ?_⟩
  rw [hc] at hix
  simp only [go_sem, X186, b186, Tryz.f186, t0, hix, c1, c2, bs_size, bs_ext, h1, Nat.le_refl, hlo, hlo2, wrC]
  all_goals rfl
 ·have c1 : ((45 : Int) == 43) = false := rfl
  have c2 : ((45 : Int) == 45) = true := rfl
  refine ⟨.v (.bool true), ?_⟩
  rw [hc] at hix
  simp only [go_sem, X186, b186, Tryz.f186, t0, hix, c1, c2, bs_size, bs_ext, h1, Nat.le_refl, hlo, hlo2, wrC]
  all_goals rfl
theorem p143b {d r : List Int} {x : V} {pt : Bool} (hy : By t) (hl : t.length <= 100000000000) (hlo2 : lo <= h.length + 1) (hT : t = d ++ r) (htw : t.takeWhile dig = d)
  (hpt : (∃ c, r[0]? = some c /\ (c == 46) = pt) \/ (r = [] /\ pt = false)) :
  evL (X186 lo h) loopW (pc b186 4 3) (P143 t h [(21, x)] (wrC neg [] 0 0 false)) = some (.normal, P143 r h [(44, .v (.bool pt))] (wrC neg d 0 0 true)) := by
 have k172 := fun h => f216 (lo := lo) (h := h) hy hl
 simp only [htw] at k172
 have hyr : By r := fun c hc => hy c (by rw [hT]; simp [hc])
 have e1 : t.take d.length = d := by rw [hT]; simp
 have e2 : t.drop d.length = r := by rw [hT]; simp
 have h1 : d.length <= t.length := by rw [hT]; simp
 have hix := bs_ix hyr 0
 rcases hpt with ⟨c, hc, rfl⟩ | ⟨rfl, rfl⟩
 ·have t0 := bs_nil_eq' r
  rw [decide_eq_false (by intro h; rw [h] at hc; simp at hc)] at t0
  rw [hc] at hix
  simp only [go_sem, X186, P143, b186, Tryz.f186, k172, bs_size, bs_ext, h1, Nat.le_refl, Nat.zero_le, hlo2, e1, e2, t0, hix, wrC]
  all_goals rfl
 ·have t0 := bs_nil_eq' []
  rw [decide_eq_true rfl] at t0
  have hn : ([] : List Int)[0]? = none := rfl
  rw [hn] at hix
  simp only [go_sem, X186, P143, b186, Tryz.f186, k172, bs_size, bs_ext, h1, Nat.le_refl, Nat.zero_le, hlo2, e1, e2, t0, hix, wrC]
  all_goals rfl
theorem p143c0 {w : List V} : evL (X186 lo h) loopW (pc b186 7 1) (P143 t h [(44, .v (.bool false))] w) = some (.normal, P143 t h [(44, .v (.bool false))] w) := by
 simp only [go_sem, X186, P143, b186, Tryz.f186, wrC]
theorem p143c1 {d f r : List Int} (hy : By t) (hl : t.length <= 100000000000) (hdl : d.length <= 100000000000) (hlo2 : lo <= h.length + 1) (hT : t = 46 :: (f ++ r)) (htw : (f ++ r).takeWhile dig = f) (hf : f ≠ []) :
  evL (X186 lo h) loopW (pc b186 7 1) (P143 t h [(44, .v (.bool true))] (wrC neg d 0 0 true)) = some (.normal, P143 r h [(44, .undef)] (wrC neg (d ++ f) f.length 0 false)) := by
 have hyr : By (f ++ r) := fun c hc => hy c (by rw [hT]; simp only [List.mem_cons]; exact .inr hc)
 have hlen : t.length = 1 + (f.length + r.length) := by rw [hT]; simp; omega
 have k172 := fun h => f216 (lo := lo) (h := h) hyr (by simp; omega)
 simp only [htw] at k172
 have e0 : t.drop 1 = f ++ r := by rw [hT]; rfl
 have e1 : (t.take (1 + f.length)).drop 1 = f := by rw [hT, Nat.add_comm]; simp
 have e2 : t.drop (1 + f.length) = r := by rw [hT, Nat.add_comm]; simp
 have h1 : 1 <= t.length := by omega
 have h2 : 1 + f.length <= t.length := by omega
 have h3 : 1 <= 1 + f.length := by omega
 have hfl : 0 < f.length := List.length_pos_iff.2 hf
 have t1 : ((f.length : Int) == 0) = false := by simp; omega
 have w1 : IntKind.i64.wrap (1 + (f.length : Int)) = ((1 + f.length : Nat) : Int) := by rw [wrap_i64 (by omega) (by omega)]; omega
 have hsz : d.length + f.length <= 9223372036854775807 := by omega
 simp only [go_sem, X186, P143, b186, Tryz.f186, k172, bs_size, bs_ext, h1, h2, h3, Nat.le_refl, Nat.zero_le, hlo2, e0, e1, e2, t1, w1, hsz, bs_app, wrC]
 all_goals rfl
theorem p143d0 {d : List Int} {fr e : Int} {wh : Bool} {x : V} (hlo : lo <= h.length) (hd : d ≠ []) :
  evL (X186 lo h) loopW (pc b186 8 4) (P143 [] h [(44, x)] (wrC neg d fr e wh)) = some (.ret, [(2, .ptr h.length 0), (3, .v (.bool true))], h ++ [.cells (wrC neg d fr e wh), .cells (wrC neg d fr e wh)]) := by
 have t0 := bs_nil_eq' d
 rw [decide_eq_false hd] at t0
 have t1 := bs_nil_eq' []
 rw [decide_eq_true rfl] at t1
 simp only [go_sem, X186, P143, b186, Tryz.f186, t0, t1, hlo, wrC]
 all_goals rfl
theorem p143d1 {d : List Int} {fr e : Int} {wh : Bool} {x : V} (hd : d ≠ []) (ht : t ≠ []) :
  evL (X186 lo h) loopW (pc b186 8 4) (P143 t h [(44, x)] (wrC neg d fr e wh)) = some (.normal, P143 t h [(71, .v (.bool false))] (wrC neg d fr e wh)) := by
 have t0 := bs_nil_eq' d
 rw [decide_eq_false hd] at t0
 have t1 := bs_nil_eq' t
 rw [decide_eq_false ht] at t1
 simp only [go_sem, X186, P143, b186, Tryz.f186, t0, t1, wrC]
 all_goals rfl
abbrev L143 (h : Heap) (neg down : Bool) (ds : List Int) (fr e : Int) (wh : Bool) (rows : List (List V)) (len k : Int) (ex : Env) : Env × Heap :=
 ((2, .ptr h.length 0) :: (4, .ptr (h.length + 1) 0) :: (7, .v (.bool down)) :: (113, .list .no rows) :: (114, .v (.int .i64 len)) :: (115, .v (.int .i64 k)) :: ex, h ++ [.cells (wrC false [] 0 0 false), .cells (wrC neg ds fr e wh)])
theorem loop186 {down wh : Bool} {ds d : List Int} {fr : Int} (hlo2 : lo <= h.length + 1) (hd : ∀ c ∈ d, dig c = true) (hl : d.length <= 100000000000) : ∀ (r : List Int) (k : Nat) (e : Int), d.drop k = r -> k + r.length = d.length -> 0 <= e -> e <= 1099511627776 ->
  loopW (evCode (X186 lo h) loopW l186x0) (L143 h neg down ds fr e wh (ri .u8 d) d.length k []) =
   some (.exit 0, L143 h neg down ds fr (expN e r) wh (ri .u8 d) d.length d.length [(116, .v (.bool false))]) := by
 intro r
 induction r with
 | nil =>
  intro k e hr hk h0 h1
  have hk' : k = d.length := by simpa using hk
  subst hk'
  have hlt : decide ((d.length : Int) < (d.length : Int)) = false := by simp
  rw [loop_eq]
  simp only [go_sem, X186, l186x0, b186, Tryz.f186, hlt, expN, wrC]
  all_goals rfl
 | cons c r ih =>
  intro k e hr hk h0 h1
  simp only [List.length_cons] at hk
  have hlt : decide ((k : Int) < (d.length : Int)) = true := by simp; omega
  have hc : d[k]? = some c := by
   have := congrArg (·[0]?) hr
   simpa using this
  have hcd := hd c (List.mem_of_getElem? hc)
  simp only [dig, Bool.and_eq_true, decide_eq_true_eq] at hcd
  have hw : IntKind.i64.wrap ((k : Int) + 1) = ((k + 1 : Nat) : Int) := wrap_succ (by omega)
  have w1 : IntKind.i64.wrap (e * 10) = e * 10 := wrap_i64 (by omega) (by omega)
  have w2 : IntKind.u8.wrap (c - 48) = c - 48 := wrap_u8 (by omega) (by omega)
  have w3 : IntKind.i64.wrap (c - 48) = c - 48 := wrap_i64 (by omega) (by omega)
  have w4 : IntKind.i64.wrap (e * 10 + (c - 48)) = e * 10 + (c - 48) := wrap_i64 (by omega) (by omega)
  have hmin : (if e * 10 + (c - 48) < 1099511627776 then e * 10 + (c - 48) else 1099511627776) = if 1099511627776 < e * 10 + (c - 48) then 1099511627776 else e * 10 + (c - 48) := by split <;> split <;> omega
  have e1 : evCode (X186 lo h) loopW l186x0 (L143 h neg down ds fr e wh (ri .u8 d) d.length k []) =
    some (.normal, L143 h neg down ds fr (if 1099511627776 < e * 10 + (c - 48) then 1099511627776 else e * 10 + (c - 48)) wh (ri .u8 d) d.length (k + 1 : Nat) []) := by
   simp only [go_sem, X186, l186x0, b186, Tryz.f186, hlt, hc, w1, w2, w3, w4, hmin, hw, hlo2, wrC]
   all_goals rfl
  rw [loop_eq, e1, loop_n, ih (k + 1) _ (by rw [<- List.drop_drop, hr]; rfl) (by omega) (by split <;> omega) (by split <;> omega)]
  rfl
theorem p143e {d r u : List Int} {fr c : Int} {wh down : Bool} (hy : By t) (hl : t.length <= 100000000000) (hlo : lo <= h.length) (hlo2 : lo <= h.length + 1)
  (hT : t = c :: u) (hce : (c != 101 && c != 69) = false)
  (hu : (∃ s, u = s :: r /\ (s == 43 || s == 45) = true /\ down = (s == 45)) \/ (∃ s, u[0]? = some s /\ (s == 43 || s == 45) = false /\ u = r /\ down = false))
  (hrd : ∀ x ∈ r, dig x = true) (hr0 : r ≠ []) :
  evL (X186 lo h) loopW (pc b186 12 14) (P143 t h [(71, .v (.bool false))] (wrC neg d fr 0 wh)) =
   some (.ret, [(2, .ptr h.length 0), (3, .v (.bool true))], h ++ [.cells (wrC neg d fr (if down = true then - expN 0 r else expN 0 r) false), .cells (wrC neg d fr (if down = true then - expN 0 r else expN 0 r) false)]) := by
 have hyu : By u := fun x hx => hy x (by rw [hT]; simp [hx])
 have hyr : By r := fun x hx => by
  have := hrd x hx
  simp only [dig, Bool.and_eq_true, decide_eq_true_eq] at this
  omega
 have hix := bs_ix hy 0
 have hc0 : t[0]? = some c := by rw [hT]; rfl
 rw [hc0] at hix
 have e0 : t.drop 1 = u := by rw [hT]; rfl
 have h1 : 1 <= t.length := by rw [hT]; simp
 have hrl : 0 < r.length := List.length_pos_iff.2 hr0
 have hul : u.length < t.length := by rw [hT]; simp
 have hix2 := bs_ix hyu 0
 have hrl2 : r.length <= 100000000000 := by
  rcases hu with ⟨s, hs, _⟩ | ⟨s, _, _, hs, _⟩
  ·rw [hs] at hul; simp at hul; omega
  ·rw [<- hs]; omega
 have k172 := fun h => f216 (lo := lo) (t := r) (h := h) hyr hrl2
 simp only [tw_all hrd] at k172
 have t0 := bs_nil_eq' r
 rw [decide_eq_false hr0] at t0
 have t1 : decide ((r.length : Int) < (r.length : Int)) = false := by simp
 have hL := loop186 (lo := lo) (h := h) (neg := neg) (down := down) (wh := false) (ds := d) (d := r) (fr := fr) hlo2 hrd hrl2 r 0 0 rfl (by omega) (by omega) (by omega)
 obtain ⟨x0, x1⟩ := expN_in r 0 hrd (by omega) (by omega)
 generalize expN 0 r = ee at *
 simp only [L143, X186, l186x0, b186, Tryz.f186, loopAt, loops, bodyOf, go_sem, wrC] at hL
 have hune : u ≠ [] := by
  rcases hu with ⟨s, hs, _⟩ | ⟨s, hs, _, _, _⟩
  ·rw [hs]; simp
  ·intro h; rw [h] at hs; cases hs
 have tu := bs_nil_eq' u
 rw [decide_eq_false hune] at tu
 rcases hu with ⟨s, hs, hss, rfl⟩ | ⟨s, hs, hss, rfl, rfl⟩
 ·have hs0 : u[0]? = some s := by rw [hs]; rfl
  have e1 : u.drop 1 = r := by rw [hs]; rfl
  have h2 : 1 <= u.length := by rw [hs]; simp
  rw [hs0] at hix2
  cases hdn : (s == 45) with
  | true =>
   rw [hdn] at hL
   simp only [hdn, Bool.or_true] at hss
   have w3 : IntKind.i64.wrap (0 - ee) = -ee := by rw [wrap_i64 (by omega) (by omega)]; omega
   simp only [go_sem, X186, P143, b186, Tryz.f186, hix, hce, bs_size, bs_ext, h1, Nat.le_refl, e0, tu, hix2, hss, hdn, e1, h2, k172, t0, t1, bytes_bs hyr, hL, w3, hlo, hlo2, wrC]
   all_goals rfl
  | false =>
   have h43 : (s == 43) = true := by simpa [hdn] using hss
   rw [hdn] at hL
   simp only [go_sem, X186, P143, b186, Tryz.f186, hix, hce, bs_size, bs_ext, h1, Nat.le_refl, e0, tu, hix2, h43, hdn, e1, h2, k172, t0, t1, bytes_bs hyr, hL, hlo, hlo2, wrC]
   all_goals rfl
 ·rw [hs] at hix2
  simp only [go_sem, X186, P143, b186, Tryz.f186, hix, hce, bs_size, bs_ext, h1, Nat.le_refl, e0, tu, hix2, hss, k172, t0, t1, bytes_bs hyr, hL, hlo, hlo2, wrC]
  all_goals rfl
end
end Go.Lift.P8.T
end

section
open Go.Proofs
namespace Go.Lift.P8.T
variable [MX]
open Utf Tok
def wrV (w : Wr) : List V := wrC w.below w.digits w.behind w.exp w.whole
theorem fin143 {h : Heap} {w w2 : List V} {b : Bool} (hw : ∃ a d c e f, w = wrC a d c e f) : fin Tryz.prog [.cell 2 177, .tmp 3] h.length (some (.ret, [(2, .ptr h.length 0), (3, .v (.bool b))], h ++ [.cells w, .cells w2])) = some (.tup [.agg w, .v (.bool b)], h) := by
 obtain ⟨a, d, c, e, f, rfl⟩ := hw
 simp only [go_sem, wrC]
 all_goals rfl
theorem f186 {lo : Nat} {n : Nm} {h : Heap} (ok : n.Ok) (hl : n.text.length <= 100000000000) (hlo : lo <= h.length) :
  E lo 186 [.v (.string (bs n.text))] h = some (.tup [.agg (wrV n.wr), .v (.bool true)], h) := by
 have hlo2 : lo <= h.length + 1 := by omega
 have hy := nm_by ok
 have hT := nm_text n
 have hF := nmF_head ok
 have hRh := nmR_head ok
 have hd1 := all_dig ok.d1
 have hfr := all_dig ok.fr
 have hd3 := all_dig ok.d3
 obtain ⟨k, hk⟩ : ∃ k, n.sg.length = k := ⟨_, rfl⟩
 generalize n.text = t at *
 have D1 : t.drop k = n.d1 ++ (nmF n ++ nmR n) := by rw [hT, <- hk, List.drop_left]
 have hlen : t.length = k + (n.d1.length + ((nmF n).length + (nmR n).length)) := by rw [hT]; simp; omega
 have ht0 : (∃ c, t[0]? = some c /\ (c == 43) = false /\ (c == 45) = false /\ k = 0 /\ (n.sg == [45]) = false) \/ (t[0]? = some 43 /\ k = 1 /\ (n.sg == [45]) = false) \/ (t[0]? = some 45 /\ k = 1 /\ (n.sg == [45]) = true) := by
  rcases ok.sg with hs | hs | hs
  ·left
   rw [hs] at hk hT ⊢
   rw [List.nil_append] at hT
   cases hd : n.d1 with
   | cons c u =>
    have hc := hd1 c (by rw [hd]; simp)
    simp only [dig, Bool.and_eq_true, decide_eq_true_eq] at hc
    exact ⟨c, by rw [hT, hd]; rfl, by simp; omega, by simp; omega, hk.symm, rfl⟩
   | nil =>
    have hne : n.fr ≠ [] := fun h => ok.some (by rw [hd, h]; rfl)
    exact ⟨46, by rw [hT, hd]; unfold nmF; rw [if_neg hne]; rfl, rfl, rfl, hk.symm, rfl⟩
  ·exact .inr (.inl ⟨by rw [hT, hs]; rfl, by rw [<- hk, hs]; rfl, by rw [hs]; rfl⟩)
  ·exact .inr (.inr ⟨by rw [hT, hs]; rfl, by rw [<- hk, hs]; rfl, by rw [hs]; rfl⟩)
 obtain ⟨x, hA⟩ := p143a (lo := lo) (h := h) (neg := n.sg == [45]) hy hl hlo hlo2 ht0
 have hyd : By (t.drop k) := hy.drop k
 have hF1 : By (nmF n ++ nmR n) := fun c hc => hyd c (by rw [D1]; simp only [List.mem_append] at hc ⊢; exact .inr hc)
 have hF2 : By (nmR n) := fun c hc => hF1 c (by simp [hc])
 rw [e186 (by simp) (by rfl), pc_in, pc_go _ _ _ _ 0 4, hA, pc_go _ _ _ _ _ 3]
 rw [p143b (d := n.d1) (r := nmF n ++ nmR n) (pt := !n.fr.isEmpty) hyd (by simp; omega) hlo2 D1 (by rw [D1]; exact tw_app hF hd1) (by
  cases hfe : n.fr with
  | cons c u => exact .inl ⟨46, by unfold nmF; rw [hfe]; rfl, rfl⟩
  | nil =>
   cases hr : nmR n with
   | nil => exact .inr ⟨by unfold nmF; rw [hfe]; rfl, rfl⟩
   | cons c u =>
    refine .inl ⟨c, by unfold nmF; rw [hfe]; rfl, ?_⟩
    rcases (hRh c u hr).2 with rfl | rfl <;> rfl)]
 rw [pc_go _ _ _ _ _ 1]
 have hB : ∃ y, evL (X186 lo h) loopW (pc b186 7 1) (P143 (nmF n ++ nmR n) h [(44, .v (.bool (!n.fr.isEmpty)))] (wrC (n.sg == [45]) n.d1 0 0 true)) =
   some (.normal, P143 (nmR n) h [(44, y)] (wrC (n.sg == [45]) (n.d1 ++ n.fr) n.fr.length 0 n.fr.isEmpty)) := by
  cases hfe : n.fr with
  | nil =>
   have hnF : nmF n = [] := by unfold nmF; rw [if_pos hfe]
   refine ⟨.v (.bool false), ?_⟩
   rw [hnF, List.append_nil]
   exact p143c0
  | cons c u =>
   have hne : n.fr ≠ [] := by rw [hfe]; simp
   have hnF : nmF n = 46 :: n.fr := by unfold nmF; rw [if_neg hne]
   refine ⟨.undef, ?_⟩
   have := p143c1 (lo := lo) (h := h) (neg := n.sg == [45]) (t := nmF n ++ nmR n) (d := n.d1) (f := n.fr) (r := nmR n) hF1 (by simp; omega) (by omega) hlo2 (by rw [hnF]; rfl) (tw_app (fun c u h => (hRh c u h).1) hfr) hne
   simpa [hfe] using this
 obtain ⟨y, hB⟩ := hB
 rw [hB, pc_go _ _ _ _ _ 4]
 have hne : n.d1 ++ n.fr ≠ [] := ok.some
 rcases ok.ex with ⟨h1, h2⟩ | ⟨⟨e, he, hx⟩, h2⟩
 ·have hr : nmR n = [] := by unfold nmR; rw [h1, h2]; rfl
  rw [hr, p143d0 hlo hne, pc_r]
  have hw : wrV n.wr = wrC (n.sg == [45]) (n.d1 ++ n.fr) n.fr.length 0 n.fr.isEmpty := by
   simp [wrV, Nm.wr, h1, h2, chr, expN]
  rw [hw]
  exact fin143 ⟨_, _, _, _, _, rfl⟩
 ·obtain ⟨s3, u3, hs3⟩ : ∃ s u, n.d3 = s :: u := by
   cases hd : n.d3 with
   | nil => exact absurd hd h2
   | cons s u => exact ⟨s, u, rfl⟩
  have hs3d := hd3 s3 (by rw [hs3]; simp)
  simp only [dig, Bool.and_eq_true, decide_eq_true_eq] at hs3d
  have hexe : n.ex.isEmpty = false := by rcases hx with h | h | h <;> rw [h] <;> rfl
  have hce : (e != 101 && e != 69) = false := by rcases he with rfl | rfl <;> rfl
  have hT2 : nmR n = e :: (n.ex.drop 1 ++ n.d3) := by unfold nmR; rcases hx with h | h | h <;> rw [h] <;> rfl
  rw [p143d1 hne (by rw [hT2]; simp), pc_go _ _ _ _ _ 14]
  have hu : (∃ s, n.ex.drop 1 ++ n.d3 = s :: n.d3 /\ (s == 43 || s == 45) = true /\ (chr n.ex 1 == 45) = (s == 45)) \/ (∃ s, (n.ex.drop 1 ++ n.d3)[0]? = some s /\ (s == 43 || s == 45) = false /\ n.ex.drop 1 ++ n.d3 = n.d3 /\ (chr n.ex 1 == 45) = false) := by
   rcases hx with h | h | h
   ·right
    rw [h]
    refine ⟨s3, by rw [hs3]; rfl, ?_, rfl, rfl⟩
    simp
    omega
   ·left; rw [h]; exact ⟨43, rfl, rfl, rfl⟩
   ·left; rw [h]; exact ⟨45, rfl, rfl, rfl⟩
  rw [p143e (u := n.ex.drop 1 ++ n.d3) (r := n.d3) hF2 (by omega) hlo hlo2 hT2 hce hu hd3 h2, pc_r]
  have hw : wrV n.wr = wrC (n.sg == [45]) (n.d1 ++ n.fr) n.fr.length (if (chr n.ex 1 == 45) = true then -expN 0 n.d3 else expN 0 n.d3) false := by
   simp [wrV, Nm.wr, hexe]
  rw [hw]
  exact fin143 ⟨_, _, _, _, _, rfl⟩
section
variable {lo : Nat} {h : Heap} {w : Wr}
noncomputable abbrev X156 (lo : Nat) (h : Heap) : Cx := ⟨Tryz.prog, E, lo, h.length, h156⟩
abbrev P112 (h : Heap) (w : Wr) (ex : Env) : Env × Heap := ((2, .ptr h.length 0) :: (5, .ptr (h.length + 1) 0) :: ex, h ++ [.cells (ratC (0, 0)), .cells (wrV w)])
abbrev ret112 (h : Heap) (x : Int × Int) (w : Wr) : Option (Ex × Env × Heap) := some (.ret, [(2, .ptr h.length 0), (3, .v (.bool w.whole)), (4, .v (.int .i64 0))], h ++ [.cells (ratC x), .cells (wrV w)])
theorem p112a {t : List Int} (hlo2 : lo <= h.length + 1) (k : ∀ h, lo <= h.length -> E lo 186 [.v (.string (bs t))] h = some (.tup [.agg (wrV w), .v (.bool true)], h)) (hlo : lo <= h.length) :
  evL (X156 lo h) loopW (pc b156 0 4) (args0 [.v (.string (bs t))], h) = some (.normal, P112 h w [(18, .v (.bool false))]) := by
 have k1 := k (h ++ [.cells (ratC (0, 0))]) (by simp; omega)
 simp only [ratC, wrV, wrC] at k1
 simp only [go_sem, X156, P112, b156, Tryz.f156, k1, hlo2, ratC, wrV, wrC]
 all_goals rfl
theorem p112b (hlo : lo <= h.length) (hy : By w.digits) (hl : w.digits.length <= 100000000000) : evL (X156 lo h) loopW (pc b156 4 3) (P112 h w [(18, .v (.bool false))]) =
  if w.digits.dropWhile (· == 48) = [] then ret112 h (0, 1) w else some (.normal, P112 h w [(7, .v (.string (bs (w.digits.dropWhile (· == 48))))), (24, .v (.bool false))]) := by
 have k := fun h => f187 (lo := lo) (h := h) hy hl
 generalize w.digits.dropWhile (· == 48) = D at *
 have t0 := bs_nil_eq' D
 by_cases hD : D = []
 ·rw [decide_eq_true hD] at t0
  rw [if_pos hD]
  simp only [go_sem, X156, P112, b156, Tryz.f156, k, t0, hlo, ratC, wrV, wrC]
  all_goals rfl
 ·rw [decide_eq_false hD] at t0
  rw [if_neg hD]
  simp only [go_sem, X156, P112, b156, Tryz.f156, k, t0, hlo, ratC, wrV, wrC]
  all_goals rfl
theorem p112c {D : List Int} (hlo : lo <= h.length) (hy : By D) (hl : D.length <= 100000000000) : evL (X156 lo h) loopW (pc b156 7 3) (P112 h w [(7, .v (.string (bs D))), (24, .v (.bool false))]) =
  if 18 < (core D).length then ret112 h (0, 0) w else some (.normal, P112 h w [(7, .v (.string (bs D))), (8, .v (.string (bs (core D)))), (32, .v (.bool false))]) := by
 have k := fun h => f188 (lo := lo) (h := h) hy hl
 generalize core D = C at *
 by_cases h18 : 18 < C.length
 ·have t : decide (18 < (C.length : Int)) = true := by simp; omega
  rw [if_pos h18]
  simp only [go_sem, X156, P112, b156, Tryz.f156, bs_size, k, t, hlo, ratC, wrV, wrC]
  all_goals rfl
 ·have t : decide (18 < (C.length : Int)) = false := by simp; omega
  rw [if_neg h18]
  simp only [go_sem, X156, P112, b156, Tryz.f156, bs_size, k, t, hlo, ratC, wrV, wrC]
  all_goals rfl
abbrev C112 (h : Heap) (w : Wr) (D C : List Int) (n : Int) (rows : List (List V)) (len k : Int) (ex : Env) : Env × Heap :=
 P112 h w ((7, .v (.string (bs D))) :: (8, .v (.string (bs C))) :: (9, .v (.int .u64 n)) :: (37, .list .no rows) :: (38, .v (.int .i64 len)) :: (39, .v (.int .i64 k)) :: ex)
theorem loop156 {D C d : List Int} (hd : ∀ c ∈ d, dig c = true) (hl : d.length <= 18) : ∀ (r : List Int) (k : Nat) (n : Int), d.drop k = r -> k + r.length = d.length -> 0 <= n -> n < 10 ^ k ->
  loopW (evCode (X156 lo h) loopW l156x0) (C112 h w D C n (ri .u8 d) d.length k []) =
   some (.exit 0, C112 h w D C (valN n r) (ri .u8 d) d.length d.length [(40, .v (.bool false))]) := by
 intro r
 induction r with
 | nil =>
  intro k n hr hk h0 h1
  have hk' : k = d.length := by simpa using hk
  subst hk'
  have hlt : decide ((d.length : Int) < (d.length : Int)) = false := by simp
  rw [loop_eq]
  simp only [go_sem, X156, C112, P112, l156x0, b156, Tryz.f156, hlt, valN, ratC, wrV, wrC]
  all_goals rfl
 | cons c r ih =>
  intro k n hr hk h0 h1
  simp only [List.length_cons] at hk
  have hlt : decide ((k : Int) < (d.length : Int)) = true := by simp; omega
  have hc : d[k]? = some c := by
   have := congrArg (·[0]?) hr
   simpa using this
  have hcd := hd c (List.mem_of_getElem? hc)
  simp only [dig, Bool.and_eq_true, decide_eq_true_eq] at hcd
  have hw : IntKind.i64.wrap ((k : Int) + 1) = ((k + 1 : Nat) : Int) := wrap_succ (by omega)
  have h17 : (10 : Int) ^ k <= 100000000000000000 := by
   have : (10 : Int) ^ k <= 10 ^ 17 := by
    obtain ⟨j, hj⟩ : ∃ j, 17 = k + j := ⟨17 - k, by omega⟩
    rw [hj, Int.pow_add]
    have h0 := one_pow_le (y := 10) (by omega) k
    exact le_mulr (by omega) (one_pow_le (by omega) j)
   exact this
  have w1 : IntKind.u64.wrap (n * 10) = n * 10 := wrap_u64 (by omega) (by omega)
  have w2 : IntKind.u8.wrap (c - 48) = c - 48 := wrap_u8 (by omega) (by omega)
  have w3 : IntKind.u64.wrap (c - 48) = c - 48 := wrap_u64 (by omega) (by omega)
  have w4 : IntKind.u64.wrap (n * 10 + (c - 48)) = n * 10 + (c - 48) := wrap_u64 (by omega) (by omega)
  have e1 : evCode (X156 lo h) loopW l156x0 (C112 h w D C n (ri .u8 d) d.length k []) = some (.normal, C112 h w D C (n * 10 + (c - 48)) (ri .u8 d) d.length (k + 1 : Nat) []) := by
   simp only [go_sem, X156, C112, P112, l156x0, b156, Tryz.f156, hlt, hc, w1, w2, w3, w4, hw, ratC, wrV, wrC]
   all_goals rfl
  have hp : (10 : Int) ^ (k + 1) = 10 ^ k * 10 := Int.pow_succ 10 k
  rw [loop_eq, e1, loop_n, ih (k + 1) (n * 10 + (c - 48)) (by rw [<- List.drop_drop, hr]; rfl) (by omega) (by omega) (by omega)]
  rfl
theorem p112d {D d : List Int} (hd : ∀ c ∈ d, dig c = true) (hdl : d.length <= 18) : evL (X156 lo h) loopW (pc b156 10 3) (P112 h w [(7, .v (.string (bs D))), (8, .v (.string (bs d))), (32, .v (.bool false))]) =
  some (.normal, C112 h w D d (valN 0 d) (ri .u8 d) d.length d.length [(40, .v (.bool false))]) := by
 have hy : By d := fun c hc => by
  have := hd c hc
  simp only [dig, Bool.and_eq_true, decide_eq_true_eq] at this
  omega
 have hL := loop156 (lo := lo) (h := h) (w := w) (D := D) (C := d) hd hdl d 0 0 rfl (by simp) (by omega) (by simp)
 simp only [C112, P112, X156, l156x0, b156, Tryz.f156, loopAt, loops, bodyOf, go_sem, ratC, wrV, wrC] at hL
 simp only [go_sem, X156, C112, P112, b156, Tryz.f156, bytes_bs hy, hL, ratC, wrV, wrC]
 all_goals rfl
theorem p112e {D C : List Int} {n len k : Int} {rows : List (List V)} {y : Int × Int} (hlo : lo <= h.length) (he0 : -1099511627776 <= w.exp) (he1 : w.exp <= 1099511627776) (hb : w.behind <= 100000000000) (hD : D.length <= 100000000000) (hC : C.length <= D.length)
  (kv : ∀ lo h, lo <= h.length -> E lo 189 [.v (.bool w.below), .v (.int .u64 n), .v (.int .i64 (w.exp - w.behind + (D.length - C.length)))] h = some (.agg (ratC y), h)) :
  evL (X156 lo h) loopW (pc b156 13 2) (C112 h w D C n rows len k [(40, .v (.bool false))]) = ret112 h y w := by
 have w1 : IntKind.i64.wrap (w.exp - w.behind) = w.exp - w.behind := wrap_i64 (by omega) (by omega)
 have w2 : IntKind.i64.wrap ((D.length : Int) - C.length) = (D.length : Int) - C.length := wrap_i64 (by omega) (by omega)
 have w3 : IntKind.i64.wrap (w.exp - w.behind + ((D.length : Int) - C.length)) = w.exp - w.behind + ((D.length : Int) - C.length) := wrap_i64 (by omega) (by omega)
 have k1 := kv (h.length + 2) (h ++ [.cells (ratC (0, 0)), .cells (wrV w)]) (by simp)
 simp only [ratC, wrV, wrC] at k1
 simp only [go_sem, X156, C112, P112, b156, Tryz.f156, bs_size, w1, w2, w3, k1, hlo, ratC, wrV, wrC]
 all_goals rfl
theorem fin112 {x : Int × Int} : fin Tryz.prog [.cell 2 35, .tmp 3, .tmp 4] h.length (ret112 h x w) = some (.tup [.agg (ratC x), .v (.bool w.whole), .v (.int .i64 0)], h) := by
 simp only [go_sem, ret112, ratC]
 all_goals rfl
end
theorem f156 {lo : Nat} {n : Nm} {h : Heap} (ok : n.Ok) (hl : n.text.length <= 100000000000) (hlo : lo <= h.length) :
  E lo 156 [.v (.string (bs n.text))] h = some (.tup [.agg (ratC n.num.1), .v (.bool n.num.2), .v (.int .i64 0)], h) := by
 have hall : ∀ c ∈ n.wr.digits, dig c = true := fun c hc => by
  rcases List.mem_append.1 hc with hc | hc
  ·exact all_dig ok.d1 c hc
  ·exact all_dig ok.fr c hc
 have hyd : By n.wr.digits := fun c hc => by
  have := hall c hc
  simp only [dig, Bool.and_eq_true, decide_eq_true_eq] at this
  omega
 have hlt : n.text.length = n.sg.length + (n.d1.length + ((nmF n).length + (nmR n).length)) := by rw [nm_text]; simp
 have hfl : n.fr.length <= (nmF n).length := by unfold nmF; split <;> simp_all
 have hdl : n.wr.digits.length <= 100000000000 := by
  show (n.d1 ++ n.fr).length <= _
  simp
  omega
 have hbh : n.wr.behind <= 100000000000 := by
  show n.fr.length <= _
  omega
 obtain ⟨x0, x1⟩ := expN_in n.d3 0 (all_dig ok.d3) (by omega) (by omega)
 have hexp : -1099511627776 <= n.wr.exp /\ n.wr.exp <= 1099511627776 := by
  show -1099511627776 <= (if chr n.ex 1 = 45 then - expN 0 n.d3 else expN 0 n.d3) /\ (if chr n.ex 1 = 45 then - expN 0 n.d3 else expN 0 n.d3) <= _
  split <;> omega
 unfold Nm.num
 rw [e156 (by simp) (by rfl), pc_in, pc_go _ _ _ _ 0 4, p112a (w := n.wr) (by omega) (fun h hh => f186 ok hl hh) hlo, pc_go _ _ _ _ _ 3, p112b hlo hyd hdl]
 unfold ratio
 have hhead := drop_head (· == 48) n.wr.digits
 have hmem : ∀ c ∈ n.wr.digits.dropWhile (· == 48), dig c = true := fun c hc => hall c ((List.dropWhile_sublist _).subset hc)
 have hDl : (n.wr.digits.dropWhile (· == 48)).length <= n.wr.digits.length := (List.dropWhile_sublist _).length_le
 generalize n.wr.digits.dropWhile (· == 48) = D at *
 have hyD : By D := fun c hc => by
  have := hmem c hc
  simp only [dig, Bool.and_eq_true, decide_eq_true_eq] at this
  omega
 cases D with
 | nil =>
  rw [if_pos rfl, pc_r]
  exact fin112
 | cons c0 t0 =>
  have hc0 : c0 ≠ 48 := by have := hhead c0 t0 rfl; simpa using this
  rw [if_neg (by simp), pc_go _ _ _ _ _ 3, p112c hlo hyD (by omega)]
  simp only [reduceCtorEq, if_false]
  by_cases h18 : 18 < (core (c0 :: t0)).length
  ·rw [if_pos h18, if_pos h18, pc_r]
   exact fin112
  ·rw [if_neg h18, if_neg h18, pc_go _ _ _ _ _ 3, p112d (core_all hmem) (by omega), pc_go _ _ _ _ _ 2]
   obtain ⟨v0, v1⟩ := core_val hmem hc0 (by omega)
   have hcl : (core (c0 :: t0)).length <= (c0 :: t0).length := by
    unfold core
    rw [List.length_reverse]
    exact Nat.le_trans (List.dropWhile_sublist _).length_le (by simp)
   rw [p112e (y := turn n.wr.below (scaleR (valN 0 (core (c0 :: t0))) (n.wr.exp - n.wr.behind + (((c0 :: t0).length : Int) - ((core (c0 :: t0)).length : Int))))) hlo hexp.1 hexp.2 hbh (by omega) hcl (fun lo h hh => f189 hh (by omega) (by omega) v0 v1), pc_r]
   exact fin112
end Go.Lift.P8.T
end

section
open Go.Proofs
namespace Go.Lift.P8.T
variable [MX]
open Utf Tok
theorem enc_asc {c : Int} (h : 0 <= c /\ c < 128) : Utf8.encode c = bs [c] := by
 unfold Utf8.encode
 have hv : Utf8.valid c = true := by
  unfold Utf8.valid
  simp
  omega
 have hn : c.toNat < 128 := by omega
 simp only [hv, if_true, hn]
 rfl
theorem runes_asc {l : List Int} (h : Asc l) : runesBytes l = bs l := by
 have key : ∀ (l a : List Int), Asc l -> l.foldl (fun r n => r ++ Utf8.encode n) (bs a) = bs (a ++ l) := by
  intro l
  induction l with
  | nil => intro a _; simp
  | cons c t ih =>
   intro a h
   rw [List.foldl_cons, enc_asc (h c (by simp)), bs_app, ih (a ++ [c]) fun x hx => h x (by simp [hx])]
   simp
 exact key l [] h
section
variable {lo i j : Nat} {l : List Int} {p q : List Ob}
theorem loop155 {n : Nat} (hl : l.length <= 100000000000) : ∀ (m i : Nat), l.length - i <= m -> i <= l.length ->
  ∃ j, j <= l.length /\ i <= j /\ suf l j = (suf l i).dropWhile dig /\
   ∀ lo n (p q r : List Ob), lo <= p.length -> loopW (evCode ⟨Tryz.prog, E, lo, n, h155⟩ loopW l155x0) ([(0, .ptr (p.length + (q.length + 1)) 0)], p ++ R l i :: (q ++ .cells [.ptr p.length 0] :: r)) =
    some (.exit 0, [(0, .ptr (p.length + (q.length + 1)) 0), (5, .v (.bool false))], p ++ R l j :: (q ++ .cells [.ptr p.length 0] :: r)) := by
 intro m
 induction m with
 | zero =>
  intro i h1 h2
  obtain rfl : i = l.length := by omega
  have k0 := fun lo p q => f90 (lo := lo) (l := l) (i := l.length) (p := p) (q := q) (k := 0) (by omega)
  have hs : suf l l.length = [] := suf_end (Nat.le_refl _)
  have hb : dig (-1) = false := rfl
  simp only [n0, hs, chr_nil] at k0
  refine ⟨l.length, Nat.le_refl _, Nat.le_refl _, by rw [hs]; rfl, fun lo n p q r hlo => ?_⟩
  rw [loop_eq]
  simp only [go_sem, l155x0, b155, Tryz.f155, k0, f111, hb]
 | succ m ih =>
  intro i h1 h2
  have k0 := fun lo p q => f90 (lo := lo) (l := l) (i := i) (p := p) (q := q) (k := 0) (by omega)
  simp only [n0] at k0
  have hw : IntKind.i64.wrap ((i : Int) + 1) = ((i + 1 : Nat) : Int) := wrap_succ (by omega)
  cases hb : dig (chr (suf l i) 0) with
  | false =>
   refine ⟨i, h2, Nat.le_refl _, ?_, fun lo n p q r hlo => ?_⟩
   ·by_cases hi : i < l.length
    ·rw [suf_next hi] at hb ⊢
     exact (List.dropWhile_cons_of_neg (by simpa [chr] using hb)).symm
    ·rw [suf_end (by omega)]; rfl
   ·rw [loop_eq]
    simp only [go_sem, l155x0, b155, Tryz.f155, k0, f111, hb]
  | true =>
   have hi : i < l.length := by
    rcases Nat.lt_or_ge i l.length with h | h
    ·exact h
    ·rw [suf_end h] at hb; exact absurd hb (by decide)
   obtain ⟨j, j1, j2, j3, j4⟩ := ih (i + 1) (by omega) (by omega)
   refine ⟨j, j1, by omega, ?_, fun lo n p q r hlo => ?_⟩
   ·rw [j3, suf_next hi]
    exact (List.dropWhile_cons_of_pos (by simpa using hb)).symm
   ·rw [loop_eq]
    have e : evCode ⟨Tryz.prog, E, lo, n, h155⟩ loopW l155x0 ([(0, .ptr (p.length + (q.length + 1)) 0)], p ++ R l i :: (q ++ .cells [.ptr p.length 0] :: r)) =
      some (.normal, [(0, .ptr (p.length + (q.length + 1)) 0)], p ++ R l (i + 1) :: (q ++ .cells [.ptr p.length 0] :: r)) := by
     simp only [go_sem, l155x0, b155, Tryz.f155, k0, f111, hb, hw, hlo]
    rw [e, loop_n]
    exact j4 lo n p q r hlo
theorem f155 (hl : l.length <= 100000000000) (hi : i <= l.length) : ∃ j, j <= l.length /\ i <= j /\ suf l j = (suf l i).dropWhile dig /\
  ∀ lo p q r, lo <= p.length -> E lo 155 [.ptr (p.length + (q.length + 1)) 0] (p ++ R l i :: (q ++ .cells [.ptr p.length 0] :: r)) = some (.tup [], p ++ R l j :: (q ++ .cells [.ptr p.length 0] :: r)) := by
 obtain ⟨j, j1, j2, j3, j4⟩ := loop155 (n := 0) (l := l) hl l.length i (by omega) hi
 refine ⟨j, j1, j2, j3, fun lo p q r hlo => ?_⟩
 have hL := j4 lo (p ++ R l i :: (q ++ .cells [.ptr p.length 0] :: r)).length p q r hlo
 rw [e155 (by simp) (by rfl)]
 simp only [l155x0, b155, Tryz.f155, loopAt, loops, bodyOf, go_sem] at hL
 simp only [go_sem, b155, Tryz.f155, hL]
noncomputable abbrev X113 (lo : Nat) (p q : List Ob) : Cx := ⟨Tryz.prog, E, lo, p.length + (q.length + 1), h113⟩
abbrev H63 (p q : List Ob) (l : List Int) (j : Nat) (more : List Ob) : Heap := p ++ R l j :: (q ++ (.cells [.ptr p.length 0] :: .cells (tokC 0 []) :: more))
abbrev P63 (p q : List Ob) (l : List Int) (i j : Nat) (ex : Env) : Env × Heap :=
 ((1, .ptr (p.length + (q.length + 1)) 0) :: (2, .ptr (p.length + (q.length + 2)) 0) :: (3, .v (.int .i64 i)) :: ex, H63 p q l j [])
theorem p63a (hl : l.length <= 100000000000) (hi : i <= l.length) : ∃ j, j <= l.length /\ i <= j /\ suf l j = (if (chr (suf l i) 0 == 43 || chr (suf l i) 0 == 45) = true then (suf l i).drop 1 else suf l i) /\
  ∃ x, ∀ lo p q, lo <= p.length -> evL (X113 lo p q) loopW (pc b113 0 5) (args0 [.ptr p.length 0], p ++ R l i :: q) = some (.normal, P63 p q l i j [(23, x)]) := by
 have k0 := fun lo p q => f90 (lo := lo) (l := l) (i := i) (p := p) (q := q) (k := 0) (by omega)
 have hw : IntKind.i64.wrap ((i : Int) + 1) = ((i + 1 : Nat) : Int) := wrap_succ (by omega)
 simp only [n0] at k0
 generalize hc : chr (suf l i) 0 = c at *
 by_cases hs : (c == 43 || c == 45) = true
 ·have hne : i < l.length := by
   rcases Nat.lt_or_ge i l.length with h | h
   ·exact h
   ·rw [suf_end h] at hc
    rw [<- hc] at hs
    exact absurd hs (by decide)
  rw [if_pos hs]
  refine ⟨i + 1, by omega, by omega, by simp [suf, List.drop_drop], ?_⟩
  cases h43 : (c == 43) with
  | true =>
   refine ⟨.v (.bool true), fun lo p q hlo => ?_⟩
   simp only [go_sem, X113, P63, H63, b113, Tryz.f113, k0, h43, hw, hlo, tokC, str_nil]
   all_goals rfl
  | false =>
   have h45 : (c == 45) = true := by simpa [h43] using hs
   refine ⟨.v (.bool true), fun lo p q hlo => ?_⟩
   simp only [go_sem, X113, P63, H63, b113, Tryz.f113, k0, h43, h45, hw, hlo, tokC, str_nil]
   all_goals rfl
 ·rw [if_neg hs]
  have h43 : (c == 43) = false := by simp at hs ⊢; omega
  have h45 : (c == 45) = false := by simp at hs ⊢; omega
  refine ⟨i, hi, Nat.le_refl _, rfl, .v (.bool false), fun lo p q hlo => ?_⟩
  simp only [go_sem, X113, P63, H63, b113, Tryz.f113, k0, h43, h45, hw, hlo, tokC, str_nil]
  all_goals rfl
abbrev clo (p q : List Ob) : V := .fn 155 [.ptr (p.length + (q.length + 1)) 0]
theorem p63b {x : V} (hl : l.length <= 100000000000) (hj : j <= l.length) : ∃ j', j' <= l.length /\ j <= j' /\
  suf l j' = (if (chr ((suf l j).dropWhile dig) 0 == 46 && dig (chr ((suf l j).dropWhile dig) 1)) = true then (((suf l j).dropWhile dig).drop 1).dropWhile dig else (suf l j).dropWhile dig) /\
  ∃ y, ∀ lo p q (i : Nat), lo <= p.length -> evL (X113 lo p q) loopW (pc b113 5 4) (P63 p q l i j [(23, x)]) = some (.normal, P63 p q l i j' [(5, clo p q), (47, y)]) := by
 obtain ⟨j1, a1, a2, a3, a4⟩ := f155 (l := l) (i := j) hl hj
 have k0 := fun lo p q => f90 (lo := lo) (l := l) (i := j1) (p := p) (q := q) (k := 0) (by omega)
 have k1 := fun lo p q => f90 (lo := lo) (l := l) (i := j1) (p := p) (q := q) (k := 1) (by omega)
 have ks := fun lo p q => f106 (lo := lo) (l := l) (i := j1) (p := p) (q := q) (cs := [46]) (by simp; omega)
 have hw : IntKind.i64.wrap ((j1 : Int) + 1) = ((j1 + 1 : Nat) : Int) := wrap_succ (by omega)
 have n1 : ((1 : Nat) : Int) = 1 := rfl
 simp only [n0, n1, ri_cons, ri_nil, isN_one] at k0 k1 ks
 rw [<- a3]
 by_cases hf : (chr (suf l j1) 0 == 46 && dig (chr (suf l j1) 1)) = true
 ·rw [if_pos hf]
  rw [Bool.and_eq_true] at hf
  obtain ⟨h46, hd⟩ := hf
  have hne : j1 < l.length := by
   rcases Nat.lt_or_ge j1 l.length with h | h
   ·exact h
   ·rw [suf_end h] at h46
    exact absurd h46 (by decide)
  obtain ⟨j2, b1, b2, b3, b4⟩ := f155 (l := l) (i := j1 + 1) hl (by omega)
  refine ⟨j2, b1, by omega, by rw [b3]; simp [suf, List.drop_drop], .undef, fun lo p q i hlo => ?_⟩
  simp only [go_sem, X113, P63, H63, b113, Tryz.f113, a4 _ _ _ _ hlo, k0, k1, ks, f111, h46, hd, hw, hlo, b4 _ _ _ _ hlo, tokC, str_nil]
  all_goals rfl
 ·rw [if_neg hf]
  refine ⟨j1, a1, a2, rfl, .v (.bool false), fun lo p q i hlo => ?_⟩
  cases h46 : (chr (suf l j1) 0 == 46) with
  | true =>
   have hd : dig (chr (suf l j1) 1) = false := by simpa [h46] using hf
   simp only [go_sem, X113, P63, H63, b113, Tryz.f113, a4 _ _ _ _ hlo, k0, k1, ks, f111, h46, hd, tokC, str_nil]
   all_goals rfl
  | false =>
   simp only [go_sem, X113, P63, H63, b113, Tryz.f113, a4 _ _ _ _ hlo, k0, k1, ks, f111, h46, tokC, str_nil]
   all_goals rfl
theorem p63c {x : V} (hl : l.length <= 100000000000) (hj : j <= l.length) : ∃ j', j' <= l.length /\ j <= j' /\
  suf l j' = (if ((chr (suf l j) 0 == 101 || chr (suf l j) 0 == 69) && dig (chr (suf l j) (if (chr (suf l j) 1 == 43 || chr (suf l j) 1 == 45) = true then 2 else 1))) = true
   then ((suf l j).drop (if (chr (suf l j) 1 == 43 || chr (suf l j) 1 == 45) = true then 2 else 1)).dropWhile dig else suf l j) /\
  ∃ ex : Env, ((∃ x, ex = [(68, x)]) \/ ∃ x y, ex = [(7, x), (84, y)]) /\ ∀ lo p q (i : Nat), lo <= p.length -> evL (X113 lo p q) loopW (pc b113 9 3) (P63 p q l i j [(5, clo p q), (47, x)]) = some (.normal, P63 p q l i j' ((5, clo p q) :: ex)) := by
 have k0 := fun lo p q => f90 (lo := lo) (l := l) (i := j) (p := p) (q := q) (k := 0) (by omega)
 have k1 := fun lo p q => f90 (lo := lo) (l := l) (i := j) (p := p) (q := q) (k := 1) (by omega)
 have k2 := fun lo p q => f90 (lo := lo) (l := l) (i := j) (p := p) (q := q) (k := 2) (by omega)
 have hw1 : IntKind.i64.wrap ((j : Int) + 1) = ((j + 1 : Nat) : Int) := wrap_succ (by omega)
 have hw2 : IntKind.i64.wrap ((j : Int) + 2) = ((j + 2 : Nat) : Int) := by rw [wrap_i64 (by omega) (by omega)]; omega
 have n1 : ((1 : Nat) : Int) = 1 := rfl
 have n2 : ((2 : Nat) : Int) = 2 := rfl
 simp only [n0, n1, n2] at k0 k1 k2
 have hlen := suf_len l j
 by_cases he : (chr (suf l j) 0 == 101 || chr (suf l j) 0 == 69) = true
 rotate_left
 ·rw [Bool.not_eq_true] at he
  rw [he, Bool.false_and, if_neg (by simp)]
  rw [Bool.or_eq_false_iff] at he
  obtain ⟨h1, h2⟩ := he
  refine ⟨j, hj, Nat.le_refl _, rfl, [(68, .v (.bool false))], .inl ⟨_, rfl⟩, fun lo p q i hlo => ?_⟩
  simp only [go_sem, X113, P63, H63, b113, Tryz.f113, k0, h1, h2, tokC, str_nil]
  all_goals rfl
 rw [he, Bool.true_and]
 by_cases hs : (chr (suf l j) 1 == 43 || chr (suf l j) 1 == 45) = true
 ·rw [if_pos hs]
  by_cases hd : dig (chr (suf l j) 2) = true
  ·rw [if_pos hd]
   have hne : j + 2 <= l.length := by
    rcases Nat.lt_or_ge (j + 1) l.length with h | h
    ·omega
    ·exfalso
     have : chr (suf l j) 1 = -1 := by simp only [chr]; rw [List.getElem?_eq_none (by omega)]
     rw [this] at hs
     exact absurd hs (by decide)
   obtain ⟨j2, b1, b2, b3, b4⟩ := f155 (l := l) (i := j + 2) hl (by omega)
   refine ⟨j2, b1, by omega, by rw [b3]; simp [suf, List.drop_drop], [(68, .undef)], .inl ⟨_, rfl⟩, fun lo p q i hlo => ?_⟩
   cases h1 : (chr (suf l j) 0 == 101) <;> cases h43 : (chr (suf l j) 1 == 43) <;> simp only [h1, h43, Bool.false_or, Bool.true_or] at he hs <;>
    simp only [go_sem, X113, P63, H63, b113, Tryz.f113, k0, k1, k2, f111, h1, he, h43, hs, hd, hw2, hlo, b4 _ _ _ _ hlo, tokC, str_nil] <;> rfl
  ·rw [if_neg hd]
   rw [Bool.not_eq_true] at hd
   refine ⟨j, hj, Nat.le_refl _, rfl, [(7, .v (.int .i64 2)), (84, .v (.bool false))], .inr ⟨_, _, rfl⟩, fun lo p q i hlo => ?_⟩
   cases h1 : (chr (suf l j) 0 == 101) <;> cases h43 : (chr (suf l j) 1 == 43) <;> simp only [h1, h43, Bool.false_or, Bool.true_or] at he hs <;>
    simp only [go_sem, X113, P63, H63, b113, Tryz.f113, k0, k1, k2, f111, h1, he, h43, hs, hd, tokC, str_nil] <;> rfl
 ·rw [if_neg hs]
  rw [Bool.not_eq_true, Bool.or_eq_false_iff] at hs
  obtain ⟨h43, h45⟩ := hs
  by_cases hd : dig (chr (suf l j) 1) = true
  ·rw [if_pos hd]
   have hne : j + 1 <= l.length := by
    rcases Nat.lt_or_ge j l.length with h | h
    ·omega
    ·exfalso
     rw [suf_end h] at he
     exact absurd he (by decide)
   obtain ⟨j2, b1, b2, b3, b4⟩ := f155 (l := l) (i := j + 1) hl (by omega)
   refine ⟨j2, b1, by omega, by rw [b3]; simp [suf, List.drop_drop], [(68, .undef)], .inl ⟨_, rfl⟩, fun lo p q i hlo => ?_⟩
   cases h1 : (chr (suf l j) 0 == 101) <;> simp only [h1, Bool.false_or, Bool.true_or] at he <;>
    simp only [go_sem, X113, P63, H63, b113, Tryz.f113, k0, k1, k2, f111, h1, he, h43, h45, hd, hw1, hlo, b4 _ _ _ _ hlo, tokC, str_nil] <;> rfl
  ·rw [if_neg hd]
   rw [Bool.not_eq_true] at hd
   refine ⟨j, hj, Nat.le_refl _, rfl, [(7, .v (.int .i64 1)), (84, .v (.bool false))], .inr ⟨_, _, rfl⟩, fun lo p q i hlo => ?_⟩
   cases h1 : (chr (suf l j) 0 == 101) <;> simp only [h1, Bool.false_or, Bool.true_or] at he <;>
    simp only [go_sem, X113, P63, H63, b113, Tryz.f113, k0, k1, k2, f111, h1, he, h43, h45, hd, tokC, str_nil] <;> rfl
end
end Go.Lift.P8.T
end

section
open Go.Proofs
namespace Go.Lift.P8.T
variable [MX]
open Utf Tok
section
variable {lo i j : Nat} {l : List Int} {p q : List Ob}
theorem p63d {n : Nm} (hl : l.length <= 100000000000) (hij : i <= j) (hj : j <= l.length) (ok : n.Ok) (hs : suf l i = n.text ++ suf l j) {ex : Env} (hex : (∃ x, ex = [(68, x)]) \/ ∃ x y, ex = [(7, x), (84, y)]) (hlo : lo <= p.length) (hlo2 : lo <= p.length + (q.length + 3)) :
  evL (X113 lo p q) loopW (pc b113 12 2) (P63 p q l i j ((5, clo p q) :: ex)) = some (.normal, [(1, .ptr (p.length + (q.length + 1)) 0), (2, .ptr (p.length + (q.length + 2)) 0), (8, .ptr (p.length + (q.length + 3)) 0)], H63 p q l j [.cells (tkC ⟨0, [], n.num.1, n.num.2, false⟩)]) := by
 have hasc := nm_asc ok
 have hbt := between hij hj hs hasc
 have hlen : n.text.length <= 100000000000 := by
  have := congrArg List.length hs
  rw [suf_len, List.length_append] at this
  omega
 have hrb := runes_asc hasc
 have k112 : ∀ lo h, lo <= h.length -> E lo 156 [.v (.string (bs n.text))] h = some (.tup [.agg (ratC n.num.1), .v (.bool n.num.2), .v (.int .i64 0)], h) := fun lo h hh => f156 ok hlen hh
 simp only [ratC] at k112
 rcases hex with ⟨x, rfl⟩ | ⟨x, y, rfl⟩
 ·simp only [go_sem, X113, P63, H63, b113, Tryz.f113, ri_cut, hbt, hij, hj, hrb, k112, Nat.le_refl, hlo, hlo2, tokC, tkC, str_nil, ratC]
  all_goals rfl
 ·simp only [go_sem, X113, P63, H63, b113, Tryz.f113, ri_cut, hbt, hij, hj, hrb, k112, Nat.le_refl, hlo, hlo2, tokC, tkC, str_nil, ratC]
  all_goals rfl
theorem p63e {m : Int × Int} {w : Bool} (hl : l.length <= 100000000000) (hj : j <= l.length) : ∃ j', j' <= l.length /\ j <= j' /\
  ∃ t : Tk, (t, suf l j') = (if beg (chr (suf l j) 0) (chr (suf l j) 1) (chr (suf l j) 2) = true then (⟨12, (name (suf l j)).1, m, w, false⟩, (name (suf l j)).2)
   else if chr (suf l j) 0 = 37 then (⟨11, [], m, w, false⟩, (suf l j).drop 1) else (⟨10, [], m, w, false⟩, suf l j)) /\
  ∀ lo p q, lo <= p.length -> lo <= p.length + (q.length + 2) -> lo <= p.length + (q.length + 3) ->
   evL (X113 lo p q) loopW (pc b113 14 3) ([(1, .ptr (p.length + (q.length + 1)) 0), (2, .ptr (p.length + (q.length + 2)) 0), (8, .ptr (p.length + (q.length + 3)) 0)], H63 p q l j [.cells (tkC ⟨0, [], m, w, false⟩)]) =
    some (.ret, [(2, .ptr (p.length + (q.length + 2)) 0)], p ++ R l j' :: (q ++ [.cells [.ptr p.length 0], .cells (tkC t), .cells (tkC t)])) := by
 have k0 := fun lo p q => f116 (lo := lo) (l := l) (i := j) (p := p) (q := q) (k := 0) (by omega)
 have ks := fun lo p q => f106 (lo := lo) (l := l) (i := j) (p := p) (q := q) (cs := [37]) (by simp; omega)
 have hw1 : IntKind.i64.wrap ((j : Int) + 1) = ((j + 1 : Nat) : Int) := wrap_succ (by omega)
 simp only [n0, ri_cons, ri_nil, isN_one, Nat.zero_add, Nat.reduceAdd] at k0 ks
 by_cases hb : beg (chr (suf l j) 0) (chr (suf l j) 1) (chr (suf l j) 2) = true
 ·obtain ⟨j2, b1, b2, b3, b4⟩ := f117 (l := l) (i := j) hl hj
  refine ⟨j2, b1, b2, ⟨12, (name (suf l j)).1, m, w, false⟩, by rw [if_pos hb, b3], fun lo p q hlo hlo2 hlo3 => ?_⟩
  simp only [go_sem, X113, H63, b113, Tryz.f113, k0, hb, b4 _ _ _ hlo, hlo, hlo2, hlo3, tokC, tkC, str_nil]
  all_goals rfl
 ·rw [if_neg hb]
  rw [Bool.not_eq_true] at hb
  by_cases h37 : chr (suf l j) 0 = 37
  ·have hne : j < l.length := by
    rcases Nat.lt_or_ge j l.length with h | h
    ·exact h
    ·rw [suf_end h] at h37; cases h37
   rw [if_pos h37]
   have t37 : (chr (suf l j) 0 == 37) = true := by simp [h37]
   refine ⟨j + 1, by omega, by omega, ⟨11, [], m, w, false⟩, by simp [suf, List.drop_drop], fun lo p q hlo hlo2 hlo3 => ?_⟩
   simp only [go_sem, X113, H63, b113, Tryz.f113, k0, ks, hb, t37, hw1, hlo, hlo2, hlo3, tokC, tkC, str_nil]
   all_goals rfl
  ·rw [if_neg h37]
   have t37 : (chr (suf l j) 0 == 37) = false := by simp [h37]
   refine ⟨j, hj, Nat.le_refl _, ⟨10, [], m, w, false⟩, rfl, fun lo p q hlo hlo2 hlo3 => ?_⟩
   simp only [go_sem, X113, H63, b113, Tryz.f113, k0, ks, hb, t37, hlo, hlo2, hlo3, tokC, tkC, str_nil]
   all_goals rfl
theorem fin63 {t : Tk} {r : List Ob} {o o2 : Ob} : fin Tryz.prog [.cell 2 37] (p.length + (q.length + 1)) (some (.ret, [(2, .ptr (p.length + (q.length + 2)) 0)], p ++ o :: (q ++ o2 :: .cells (tkC t) :: r))) = some (.agg (tkC t), p ++ o :: q) := by
 simp only [go_sem, tkC]
 all_goals rfl
theorem f113 (hl : l.length <= 100000000000) (hi : i <= l.length) (hn : num (chr (suf l i) 0) (chr (suf l i) 1) (chr (suf l i) 2) = true) :
  ∃ j, j <= l.length /\ i <= j /\ suf l j = (figure (suf l i)).2 /\
   ∀ lo p q, lo <= p.length -> E lo 113 [.ptr p.length 0] (p ++ R l i :: q) = some (.agg (tkC (figure (suf l i)).1), p ++ R l j :: q) := by
 obtain ⟨j1, a1, a2, a3, x, a4⟩ := p63a (l := l) (i := i) hl hi
 obtain ⟨j2, b1, b2, b3, y, b4⟩ := p63b (l := l) (j := j1) (x := x) hl a1
 obtain ⟨j3, c1, c2, c3, ex, hex, c4⟩ := p63c (l := l) (j := j2) (x := y) hl b1
 have hrest : suf l j3 = (numP (suf l i)).2 := by
  rw [c3, b3, a3]
  unfold numP
  simp only
 have hok := numP_ok hn
 have htext := numP_text (suf l i)
 rw [<- hrest] at htext
 obtain ⟨j4, d1, d2, t, d3, d4⟩ := p63e (l := l) (j := j3) (m := (numP (suf l i)).1.num.1) (w := (numP (suf l i)).1.num.2) hl c1
 have hfig : (t, suf l j4) = figure (suf l i) := by
  rw [d3, hrest]
  unfold figure
  simp only
 refine ⟨j4, d1, by omega, by rw [<- hfig], fun lo p q hlo => ?_⟩
 have hlo2 : lo <= p.length + (q.length + 2) := by omega
 have hlo3 : lo <= p.length + (q.length + 3) := by omega
 have hH : (p ++ R l i :: q).length = p.length + (q.length + 1) := by simp
 rw [e113 (by simp) (by rfl), hH]
 rw [pc_in, pc_go _ _ _ _ 0 5, a4 lo p q hlo, pc_go _ _ _ _ _ 4, b4 lo p q i hlo, pc_go _ _ _ _ _ 3, c4 lo p q i hlo, pc_go _ _ _ _ _ 2,
  p63d hl (by omega) c1 hok htext.symm hex hlo hlo3, pc_go _ _ _ _ _ 3, d4 lo p q hlo hlo2 hlo3, pc_r, <- hfig]
 exact fin63
end
end Go.Lift.P8.T
end

section
open Go.Proofs
namespace Go.Lift.P8.T
variable [MX]
open Utf Tok
def hdC : Code -> Code
 | .seq a _ => a
 | _ => .skip
def cdC : Code -> Operand
 | .seq _ (.cond x _ _) => x
 | _ => .const (.bool false)
def thC : Code -> Code
 | .seq _ (.cond _ a _) => a
 | _ => .skip
def elC : Code -> Code
 | .seq _ (.cond _ _ b) => b
 | _ => .skip
def inC : Code -> Code
 | .block _ a => a
 | _ => .skip
def nthC (b : Code) (n : Nat) : Code := ((flat b)[n]?).getD .skip
theorem hd_s (a b : Code) : hdC (.seq a b) = a := rfl
theorem th_s (r : Code) (x : Operand) (a b : Code) : thC (.seq r (.cond x a b)) = a := rfl
theorem el_s (r : Code) (x : Operand) (a b : Code) : elC (.seq r (.cond x a b)) = b := rfl
theorem in_s (id : Nat) (a : Code) : inC (.block id a) = a := rfl
theorem step_if {c : Cx} {lp : LoopF} {N : Code} {s s' : St} {b : Bool} (hN : N = .seq (hdC N) (.cond (cdC N) (thC N) (elC N))) (hR : evCode c lp (hdC N) s = some (.normal, s')) (hx : opd s'.1 (cdC N) = .v (.bool b)) :
  evCode c lp N s = if b = true then evCode c lp (thC N) s' else evCode c lp (elC N) s' := by
 have e1 : evCode c lp N s = evCode c lp (.seq (hdC N) (.cond (cdC N) (thC N) (elC N))) s := congrArg (fun x => evCode c lp x s) hN
 rw [e1, c_seq, hR, then_n, c_cond, hx, cond_b]
noncomputable def n27 : Nat -> Code
 | 0 => inC (nthC b91 2)
 | k + 1 => elC (n27 k)
theorem n27_0 : n27 0 = inC (nthC b91 2) := rfl
theorem n27_s (k : Nat) : n27 (k + 1) = elC (n27 k) := rfl
theorem s27 : ∀ k, k <= 8 -> n27 k = .seq (hdC (n27 k)) (.cond (cdC (n27 k)) (thC (n27 k)) (elC (n27 k))) := by
 intro k hk
 have : k = 0 \/ k = 1 \/ k = 2 \/ k = 3 \/ k = 4 \/ k = 5 \/ k = 6 \/ k = 7 \/ k = 8 := by omega
 rcases this with rfl | rfl | rfl | rfl | rfl | rfl | rfl | rfl | rfl <;> rfl
section
variable {lo i j : Nat} {l : List Int} {p q : List Ob}
noncomputable abbrev X91 (lo : Nat) (p q : List Ob) : Cx := ⟨Tryz.prog, E, lo, p.length + (q.length + 1), h91⟩
abbrev H27 (p q : List Ob) (l : List Int) (i : Nat) : Heap := p ++ R l i :: (q ++ [.cells (tokC 0 [])])
abbrev P27 (p q : List Ob) (l : List Int) (i : Nat) (c : Int) (ex : Env) : Env × Heap :=
 ((0, .ptr p.length 0) :: (2, .ptr (p.length + (q.length + 1)) 0) :: (3, .v (.int .i32 c)) :: ex, H27 p q l i)
abbrev ret27 (p q : List Ob) (l : List Int) (j : Nat) (t : Tk) : Option (Ex × Env × Heap) := some (.ret, [(2, .ptr (p.length + (q.length + 1)) 0)], p ++ R l j :: (q ++ [.cells (tkC t)]))
theorem tk27a (hi : i <= 100000000000) : evL (X91 lo p q) loopW (pc b91 0 2) (args0 [.ptr p.length 0], p ++ R l i :: q) = some (.normal, P27 p q l i (chr (suf l i) 0) []) := by
 have k0 := fun lo p q => f90 (lo := lo) (l := l) (i := i) (p := p) (q := q) (k := 0) (by omega)
 simp only [n0] at k0
 simp only [go_sem, X91, P27, H27, b91, Tryz.f91, k0, tokC, str_nil]
 all_goals rfl
theorem q0 {c : Int} : evCode (X91 lo p q) loopW (n27 0) (P27 p q l i c []) = if blk c = true then evCode (X91 lo p q) loopW (thC (n27 0)) (P27 p q l i c [(9, .v (.bool true))]) else evCode (X91 lo p q) loopW (n27 1) (P27 p q l i c [(9, .v (.bool false))]) := by
 rw [step_if (s' := P27 p q l i c [(9, .v (.bool (blk c)))]) (b := blk c) (s27 0 (by omega)) ?_ rfl]
 ·cases blk c <;> rfl
 ·simp only [go_sem, n27_0, nthC, hd_s, in_s, X91, P27, H27, b91, Tryz.f91, f107, tokC, str_nil]
theorem q1 {c : Int} {x : V} : evCode (X91 lo p q) loopW (n27 1) (P27 p q l i c [(9, x)]) = if quo c = true then evCode (X91 lo p q) loopW (thC (n27 1)) (P27 p q l i c [(17, .v (.bool true))]) else evCode (X91 lo p q) loopW (n27 2) (P27 p q l i c [(17, .v (.bool false))]) := by
 rw [step_if (s' := P27 p q l i c [(17, .v (.bool (quo c)))]) (b := quo c) (s27 1 (by omega)) ?_ rfl]
 ·cases quo c <;> rfl
 ·simp only [go_sem, n27_0, n27_s, nthC, hd_s, in_s, el_s, X91, P27, H27, b91, Tryz.f91, quo, tokC, str_nil]
theorem plainK_eq (c : Int) : plainK c = plK c := rfl
theorem q2 {c : Int} {x : V} : evCode (X91 lo p q) loopW (n27 2) (P27 p q l i c [(17, x)]) = if 0 < plK c then evCode (X91 lo p q) loopW (thC (n27 2)) (P27 p q l i c [(26, .v (.bool true))]) else evCode (X91 lo p q) loopW (n27 3) (P27 p q l i c [(26, .v (.bool false))]) := by
 rw [step_if (s' := P27 p q l i c [(26, .v (.bool (decide (0 < plK c))))]) (b := decide (0 < plK c)) (s27 2 (by omega)) ?_ rfl]
 ·by_cases h : 0 < plK c
  ·rw [if_pos h, if_pos (by simp [h]), decide_eq_true h]
  ·rw [if_neg h, if_neg (by simp [h]), decide_eq_false h]
   rfl
 ·simp only [go_sem, n27_0, n27_s, nthC, hd_s, in_s, el_s, X91, P27, H27, b91, Tryz.f91, f110, plainK_eq, tokC, str_nil]
theorem num_if (c d e : Int) : ((c == 43 || c == 46 || c == 45 || dig c) && num c d e) = num c d e := by
 cases h : num c d e with
 | false => simp
 | true =>
  rw [Bool.and_true]
  unfold num at h
  split at h
  ·rename_i h2
   simp only [Bool.or_eq_true, beq_iff_eq] at h2 ⊢
   rcases h2 with h2 | h2 <;> simp [h2]
  ·simp only [Bool.or_eq_true, Bool.and_eq_true, beq_iff_eq] at h ⊢
   rcases h with h | h
   ·simp [h]
   ·simp [h.1]
theorem q3 {x : V} (hi : i <= 100000000000) : evCode (X91 lo p q) loopW (n27 3) (P27 p q l i (chr (suf l i) 0) [(26, x)]) = if num (chr (suf l i) 0) (chr (suf l i) 1) (chr (suf l i) 2) = true then evCode (X91 lo p q) loopW (thC (n27 3)) (P27 p q l i (chr (suf l i) 0) [(42, .v (.bool true))]) else evCode (X91 lo p q) loopW (n27 4) (P27 p q l i (chr (suf l i) 0) [(42, .v (.bool false))]) := by
 have k0 := fun lo p q => f112 (lo := lo) (l := l) (i := i) (p := p) (q := q) (k := 0) (by omega)
 simp only [n0, Nat.zero_add, Nat.reduceAdd] at k0
 rw [step_if (s' := P27 p q l i (chr (suf l i) 0) [(42, .v (.bool (num (chr (suf l i) 0) (chr (suf l i) 1) (chr (suf l i) 2))))]) (b := num (chr (suf l i) 0) (chr (suf l i) 1) (chr (suf l i) 2)) (s27 3 (by omega)) ?_ rfl]
 ·cases num (chr (suf l i) 0) (chr (suf l i) 1) (chr (suf l i) 2) <;> rfl
 ·have hS := num_if (chr (suf l i) 0) (chr (suf l i) 1) (chr (suf l i) 2)
  generalize num (chr (suf l i) 0) (chr (suf l i) 1) (chr (suf l i) 2) = b at *
  generalize chr (suf l i) 0 = c at *
  cases hb : b with
  | false =>
   rw [hb] at k0
   cases h1 : (c == 43) <;> cases h2 : (c == 46) <;> cases h3 : (c == 45) <;> cases h4 : dig c <;> simp only [go_sem, n27_0, n27_s, nthC, hd_s, in_s, el_s, X91, P27, H27, b91, Tryz.f91, k0, f111, h1, h2, h3, h4, tokC, str_nil]
  | true =>
   rw [hb] at k0 hS
   cases h1 : (c == 43) <;> cases h2 : (c == 46) <;> cases h3 : (c == 45) <;> cases h4 : dig c <;>
    first
    | (exfalso; simp [h1, h2, h3, h4] at hS; done)
    | simp only [go_sem, n27_0, n27_s, nthC, hd_s, in_s, el_s, X91, P27, H27, b91, Tryz.f91, k0, f111, h1, h2, h3, h4, tokC, str_nil]
theorem isN3 (s : List Int) (a b c : Int) : isN s 0 [a, b, c] = (chr s 0 == a && (chr s 1 == b && chr s 2 == c)) := by simp [isN]
theorem isN4 (s : List Int) (a b c d : Int) : isN s 0 [a, b, c, d] = (chr s 0 == a && (chr s 1 == b && (chr s 2 == c && chr s 3 == d))) := by simp [isN]
theorem q4 {c : Int} {x : V} (hi : i <= 100000000000) : evCode (X91 lo p q) loopW (n27 4) (P27 p q l i c [(42, x)]) = if chr (suf l i) 0 = 45 /\ chr (suf l i) 1 = 45 /\ chr (suf l i) 2 = 62 then evCode (X91 lo p q) loopW (thC (n27 4)) (P27 p q l i c [(65, .v (.bool true))]) else evCode (X91 lo p q) loopW (n27 5) (P27 p q l i c [(65, .v (.bool false))]) := by
 have ks := fun lo p q => f106 (lo := lo) (l := l) (i := i) (p := p) (q := q) (cs := [45, 45, 62]) (by simp; omega)
 simp only [ri_cons, ri_nil, isN3] at ks
 rw [step_if (s' := P27 p q l i c [(65, .v (.bool (chr (suf l i) 0 == 45 && (chr (suf l i) 1 == 45 && chr (suf l i) 2 == 62))))]) (b := (chr (suf l i) 0 == 45 && (chr (suf l i) 1 == 45 && chr (suf l i) 2 == 62))) (s27 4 (by omega)) ?_ rfl]
 ·by_cases h : chr (suf l i) 0 = 45 /\ chr (suf l i) 1 = 45 /\ chr (suf l i) 2 = 62
  ·rw [if_pos h, if_pos (by simp [h])]
   simp only [h]
   rfl
  ·have hb : (chr (suf l i) 0 == 45 && (chr (suf l i) 1 == 45 && chr (suf l i) 2 == 62)) = false := by
    rw [Bool.eq_false_iff]; simpa using h
   rw [if_neg h, hb]
   rfl
 ·simp only [go_sem, n27_0, n27_s, nthC, hd_s, in_s, el_s, X91, P27, H27, b91, Tryz.f91, ks, tokC, str_nil]
theorem q5 {c : Int} {x : V} (hi : i <= 100000000000) : evCode (X91 lo p q) loopW (n27 5) (P27 p q l i c [(65, x)]) = if chr (suf l i) 0 = 60 /\ chr (suf l i) 1 = 33 /\ chr (suf l i) 2 = 45 /\ chr (suf l i) 3 = 45 then evCode (X91 lo p q) loopW (thC (n27 5)) (P27 p q l i c [(81, .v (.bool true))]) else evCode (X91 lo p q) loopW (n27 6) (P27 p q l i c [(81, .v (.bool false))]) := by
 have ks := fun lo p q => f106 (lo := lo) (l := l) (i := i) (p := p) (q := q) (cs := [60, 33, 45, 45]) (by simp; omega)
 simp only [ri_cons, ri_nil, isN4] at ks
 rw [step_if (s' := P27 p q l i c [(81, .v (.bool (chr (suf l i) 0 == 60 && (chr (suf l i) 1 == 33 && (chr (suf l i) 2 == 45 && chr (suf l i) 3 == 45)))))]) (b := (chr (suf l i) 0 == 60 && (chr (suf l i) 1 == 33 && (chr (suf l i) 2 == 45 && chr (suf l i) 3 == 45)))) (s27 5 (by omega)) ?_ rfl]
 ·by_cases h : chr (suf l i) 0 = 60 /\ chr (suf l i) 1 = 33 /\ chr (suf l i) 2 = 45 /\ chr (suf l i) 3 = 45
  ·rw [if_pos h, if_pos (by simp [h])]
   simp only [h]
   rfl
  ·have hb : (chr (suf l i) 0 == 60 && (chr (suf l i) 1 == 33 && (chr (suf l i) 2 == 45 && chr (suf l i) 3 == 45))) = false := by
    rw [Bool.eq_false_iff]; simpa using h
   rw [if_neg h, hb]
   rfl
 ·simp only [go_sem, n27_0, n27_s, nthC, hd_s, in_s, el_s, X91, P27, H27, b91, Tryz.f91, ks, tokC, str_nil]
theorem q6 {c : Int} {x : V} (hi : i <= 100000000000) : evCode (X91 lo p q) loopW (n27 6) (P27 p q l i c [(81, x)]) = if c = 35 /\ (ltr (chr (suf l i) 1) || esc (chr (suf l i) 1) (chr (suf l i) 2)) = true then evCode (X91 lo p q) loopW (thC (n27 6)) (P27 p q l i c [(97, .v (.bool true))]) else evCode (X91 lo p q) loopW (n27 7) (P27 p q l i c [(97, .v (.bool false))]) := by
 have k1 := fun lo p q => f90 (lo := lo) (l := l) (i := i) (p := p) (q := q) (k := 1) (by omega)
 have ke := fun lo p q => f115 (lo := lo) (l := l) (i := i) (p := p) (q := q) (k := 1) (by omega)
 have n1 : ((1 : Nat) : Int) = 1 := rfl
 simp only [n1, Nat.reduceAdd] at k1 ke
 rw [step_if (s' := P27 p q l i c [(97, .v (.bool (c == 35 && (ltr (chr (suf l i) 1) || esc (chr (suf l i) 1) (chr (suf l i) 2)))))]) (b := (c == 35 && (ltr (chr (suf l i) 1) || esc (chr (suf l i) 1) (chr (suf l i) 2)))) (s27 6 (by omega)) ?_ rfl]
 ·cases hb : (c == 35 && (ltr (chr (suf l i) 1) || esc (chr (suf l i) 1) (chr (suf l i) 2))) with
  | true => rw [if_pos rfl, if_pos (by simpa using hb)]
  | false =>
   rw [if_neg (by simp), if_neg (by intro h; rw [Bool.and_eq_false_iff] at hb; rcases hb with hb | hb; simp [h.1] at hb; rw [h.2] at hb; cases hb)]
   rfl
 ·cases h1 : (c == 35) <;> cases h2 : ltr (chr (suf l i) 1) <;>
   simp only [go_sem, n27_0, n27_s, nthC, hd_s, in_s, el_s, X91, P27, H27, b91, Tryz.f91, k1, ke, f114, h1, h2, Bool.true_and, Bool.false_and, Bool.true_or, Bool.false_or, tokC, str_nil]
abbrev Q27 (p q : List Ob) (l : List Int) (i : Nat) (ex : Env) : Env × Heap := ((0, .ptr p.length 0) :: (2, .ptr (p.length + (q.length + 1)) 0) :: ex, H27 p q l i)
theorem q7 {c : Int} {x : V} (hi : i <= 100000000000) : evCode (X91 lo p q) loopW (n27 7) (P27 p q l i c [(97, x)]) = if c = 64 /\ beg (chr (suf l i) 1) (chr (suf l i) 2) (chr (suf l i) 3) = true then evCode (X91 lo p q) loopW (thC (n27 7)) (Q27 p q l i [(132, .v (.bool true))]) else evCode (X91 lo p q) loopW (n27 8) (Q27 p q l i [(132, .v (.bool false))]) := by
 have ke := fun lo p q => f116 (lo := lo) (l := l) (i := i) (p := p) (q := q) (k := 1) (by omega)
 have n1 : ((1 : Nat) : Int) = 1 := rfl
 simp only [n1, Nat.reduceAdd] at ke
 rw [step_if (s' := Q27 p q l i [(132, .v (.bool (c == 64 && beg (chr (suf l i) 1) (chr (suf l i) 2) (chr (suf l i) 3))))]) (b := (c == 64 && beg (chr (suf l i) 1) (chr (suf l i) 2) (chr (suf l i) 3))) (s27 7 (by omega)) ?_ rfl]
 ·cases hb : (c == 64 && beg (chr (suf l i) 1) (chr (suf l i) 2) (chr (suf l i) 3)) with
  | true => rw [if_pos rfl, if_pos (by simpa using hb)]
  | false =>
   rw [if_neg (by simp), if_neg (by intro h; rw [Bool.and_eq_false_iff] at hb; rcases hb with hb | hb; simp [h.1] at hb; rw [h.2] at hb; cases hb)]
   rfl
 ·cases h1 : (c == 64) <;>
   simp only [go_sem, n27_0, n27_s, nthC, hd_s, in_s, el_s, X91, P27, H27, b91, Tryz.f91, Q27, ke, h1, Bool.true_and, Bool.false_and, tokC, str_nil]
theorem q8 {x : V} (hi : i <= 100000000000) : evCode (X91 lo p q) loopW (n27 8) (Q27 p q l i [(132, x)]) = if beg (chr (suf l i) 0) (chr (suf l i) 1) (chr (suf l i) 2) = true then evCode (X91 lo p q) loopW (thC (n27 8)) (Q27 p q l i [(155, .v (.bool true))]) else some (.normal, Q27 p q l i [(155, .v (.bool false))]) := by
 have ke := fun lo p q => f116 (lo := lo) (l := l) (i := i) (p := p) (q := q) (k := 0) (by omega)
 simp only [n0, Nat.zero_add, Nat.reduceAdd] at ke
 rw [step_if (s' := Q27 p q l i [(155, .v (.bool (beg (chr (suf l i) 0) (chr (suf l i) 1) (chr (suf l i) 2))))]) (b := beg (chr (suf l i) 0) (chr (suf l i) 1) (chr (suf l i) 2)) (s27 8 (by omega)) ?_ rfl]
 ·cases beg (chr (suf l i) 0) (chr (suf l i) 1) (chr (suf l i) 2) <;> rfl
 ·simp only [go_sem, n27_0, n27_s, nthC, hd_s, in_s, el_s, X91, P27, H27, b91, Tryz.f91, Q27, ke, tokC, str_nil]
theorem a0 {c : Int} {x : V} (hl : l.length <= 100000000000) (hi : i <= l.length) : ∃ j, j <= l.length /\ suf l j = blanks (suf l i) /\ ∀ lo p q, lo <= p.length -> lo <= p.length + (q.length + 1) ->
  evCode (X91 lo p q) loopW (thC (n27 0)) (P27 p q l i c [(9, x)]) = ret27 p q l j (tk 13 []) := by
 obtain ⟨j, a1, a2, a3, a4⟩ := f108 (l := l) (i := i) hl hi
 refine ⟨j, a1, a3, fun lo p q hlo hlo2 => ?_⟩
 simp only [go_sem, n27_0, n27_s, nthC, th_s, in_s, el_s, X91, P27, H27, ret27, b91, Tryz.f91, a4 _ _ _ hlo, hlo2, tokC, tkC, tk, str_nil]
 all_goals rfl
theorem txtT_eq (x : Bool × List Int × List Int) : (if x.1 = true then tokC 5 x.2.1 else tokC 6 []) = tkC (txtT x) := by
 unfold txtT
 cases x.1 <;> rfl
theorem a1 {c : Int} {t : List Int} {x : V} (hl : l.length <= 100000000000) (hi : i < l.length) (hq : quo c = true) (hs : suf l i = c :: t) : ∃ j, j <= l.length /\ suf l j = (txt c t).2.2 /\ ∀ lo p q, lo <= p.length -> lo <= p.length + (q.length + 1) ->
  evCode (X91 lo p q) loopW (thC (n27 1)) (P27 p q l i c [(17, x)]) = ret27 p q l j (txtT (txt c t)) := by
 obtain ⟨j, a1, a2, a3, a4⟩ := f109 (l := l) (i := i) hl hi hq hs
 simp only [txtT_eq, tkC] at a4
 refine ⟨j, a1, a3, fun lo p q hlo hlo2 => ?_⟩
 simp only [go_sem, n27_0, n27_s, nthC, th_s, in_s, el_s, X91, P27, H27, ret27, b91, Tryz.f91, a4 _ _ _ hlo, hlo2, tokC, tkC, str_nil]
 all_goals rfl
theorem a2 {c : Int} {x : V} (hl : i <= 100000000000) : ∀ lo p q, lo <= p.length -> lo <= p.length + (q.length + 1) ->
  evCode (X91 lo p q) loopW (thC (n27 2)) (P27 p q l i c [(26, x)]) = ret27 p q l (i + 1) (tk (plK c) []) := by
 have hw1 : IntKind.i64.wrap ((i : Int) + 1) = ((i + 1 : Nat) : Int) := wrap_succ (by omega)
 intro lo p q hlo hlo2
 simp only [go_sem, n27_0, n27_s, nthC, th_s, in_s, el_s, X91, P27, H27, ret27, b91, Tryz.f91, f110, plainK_eq, hw1, hlo, hlo2, tokC, tkC, tk, str_nil]
 all_goals rfl
theorem a3 {c : Int} {x : V} (hl : l.length <= 100000000000) (hi : i <= l.length) (hn : num (chr (suf l i) 0) (chr (suf l i) 1) (chr (suf l i) 2) = true) : ∃ j, j <= l.length /\ suf l j = (figure (suf l i)).2 /\ ∀ lo p q, lo <= p.length -> lo <= p.length + (q.length + 1) ->
  evCode (X91 lo p q) loopW (thC (n27 3)) (P27 p q l i c [(42, x)]) = ret27 p q l j (figure (suf l i)).1 := by
 obtain ⟨j, a1, a2, a3, a4⟩ := f113 (l := l) (i := i) hl hi hn
 simp only [tkC] at a4
 refine ⟨j, a1, a3, fun lo p q hlo hlo2 => ?_⟩
 simp only [go_sem, n27_0, n27_s, nthC, th_s, in_s, el_s, X91, P27, H27, ret27, b91, Tryz.f91, a4 _ _ _ hlo, hlo2, tokC, tkC, str_nil]
 all_goals rfl
theorem a4 {c : Int} {x : V} (hl : i <= 100000000000) : ∀ lo p q, lo <= p.length -> lo <= p.length + (q.length + 1) ->
  evCode (X91 lo p q) loopW (thC (n27 4)) (P27 p q l i c [(65, x)]) = ret27 p q l (i + 3) (tk 15 []) := by
 have hw1 : IntKind.i64.wrap ((i : Int) + 3) = ((i + 3 : Nat) : Int) := by rw [wrap_i64 (by omega) (by omega)]; omega
 intro lo p q hlo hlo2
 simp only [go_sem, n27_0, n27_s, nthC, th_s, in_s, el_s, X91, P27, H27, ret27, b91, Tryz.f91, hw1, hlo, hlo2, tokC, tkC, tk, str_nil]
 all_goals rfl
theorem a5 {c : Int} {x : V} (hl : i <= 100000000000) : ∀ lo p q, lo <= p.length -> lo <= p.length + (q.length + 1) ->
  evCode (X91 lo p q) loopW (thC (n27 5)) (P27 p q l i c [(81, x)]) = ret27 p q l (i + 4) (tk 14 []) := by
 have hw1 : IntKind.i64.wrap ((i : Int) + 4) = ((i + 4 : Nat) : Int) := by rw [wrap_i64 (by omega) (by omega)]; omega
 intro lo p q hlo hlo2
 simp only [go_sem, n27_0, n27_s, nthC, th_s, in_s, el_s, X91, P27, H27, ret27, b91, Tryz.f91, hw1, hlo, hlo2, tokC, tkC, tk, str_nil]
 all_goals rfl
theorem a6 {c : Int} {x : V} (hl : l.length <= 100000000000) (hi : i < l.length) : ∃ j, j <= l.length /\ suf l j = (name ((suf l i).drop 1)).2 /\ ∀ lo p q, lo <= p.length -> lo <= p.length + (q.length + 1) ->
  evCode (X91 lo p q) loopW (thC (n27 6)) (P27 p q l i c [(97, x)]) = ret27 p q l j ⟨4, (name ((suf l i).drop 1)).1, (0, 0), false, beg (chr (suf l i) 1) (chr (suf l i) 2) (chr (suf l i) 3)⟩ := by
 have hw1 : IntKind.i64.wrap ((i : Int) + 1) = ((i + 1 : Nat) : Int) := wrap_succ (by omega)
 have ke := fun lo p q => f116 (lo := lo) (l := l) (i := i) (p := p) (q := q) (k := 1) (by omega)
 have n1 : ((1 : Nat) : Int) = 1 := rfl
 simp only [n1, Nat.reduceAdd] at ke
 obtain ⟨j, a1, a2, a3, a4⟩ := f117 (l := l) (i := i + 1) hl (by omega)
 have e1 : suf l (i + 1) = (suf l i).drop 1 := by simp [suf, List.drop_drop]
 rw [e1] at a3 a4
 refine ⟨j, a1, a3, fun lo p q hlo hlo2 => ?_⟩
 simp only [go_sem, n27_0, n27_s, nthC, th_s, in_s, el_s, X91, P27, H27, ret27, b91, Tryz.f91, ke, hw1, a4 _ _ _ hlo, hlo, hlo2, tokC, tkC, str_nil]
 all_goals rfl
theorem a7 {x : V} (hl : l.length <= 100000000000) (hi : i < l.length) : ∃ j, j <= l.length /\ suf l j = (name ((suf l i).drop 1)).2 /\ ∀ lo p q, lo <= p.length -> lo <= p.length + (q.length + 1) ->
  evCode (X91 lo p q) loopW (thC (n27 7)) (Q27 p q l i [(132, x)]) = ret27 p q l j (tk 3 (name ((suf l i).drop 1)).1) := by
 have hw1 : IntKind.i64.wrap ((i : Int) + 1) = ((i + 1 : Nat) : Int) := wrap_succ (by omega)
 obtain ⟨j, a1, a2, a3, a4⟩ := f117 (l := l) (i := i + 1) hl (by omega)
 have e1 : suf l (i + 1) = (suf l i).drop 1 := by simp [suf, List.drop_drop]
 rw [e1] at a3 a4
 refine ⟨j, a1, a3, fun lo p q hlo hlo2 => ?_⟩
 simp only [go_sem, n27_0, n27_s, nthC, th_s, in_s, el_s, X91, P27, H27, ret27, b91, Tryz.f91, Q27, hw1, a4 _ _ _ hlo, hlo, hlo2, tokC, tkC, tk, str_nil]
 all_goals rfl
theorem a8 {x : V} (hl : l.length <= 100000000000) (hi : i <= l.length) : ∃ j, j <= l.length /\ suf l j = (word (suf l i)).2 /\ ∀ lo p q, lo <= p.length -> lo <= p.length + (q.length + 1) ->
  evCode (X91 lo p q) loopW (thC (n27 8)) (Q27 p q l i [(155, x)]) = ret27 p q l j (word (suf l i)).1 := by
 obtain ⟨j, a1, a2, a3, a4⟩ := f118 (l := l) (i := i) hl hi
 simp only [tkC] at a4
 refine ⟨j, a1, a3, fun lo p q hlo hlo2 => ?_⟩
 simp only [go_sem, n27_0, n27_s, nthC, th_s, in_s, el_s, X91, P27, H27, ret27, b91, Tryz.f91, Q27, a4 _ _ _ hlo, hlo2, tokC, tkC, str_nil]
 all_goals rfl
theorem a9 {x : V} (hi : i <= 100000000000) : ∀ lo p q, lo <= p.length -> lo <= p.length + (q.length + 1) ->
  evL (X91 lo p q) loopW (pc b91 3 2) (Q27 p q l i [(155, x)]) = ret27 p q l (i + 1) (tk 9 [chr (suf l i) 0]) := by
 have kt := fun lo p q hlo => f120 (lo := lo) (l := l) (i := i) (p := p) (q := q) hlo (by omega)
 have k69 := fun lo h => f119e (lo := lo) (l := [chr (suf l i) 0]) (h := h) (by simp)
 have es : (⟨(u8s (encs [chr (suf l i) 0])).toArray⟩ : ByteArray) = str [chr (suf l i) 0] := rfl
 simp only [ri_cons, ri_nil] at k69
 intro lo p q hlo hlo2
 simp only [go_sem, X91, Q27, H27, ret27, b91, Tryz.f91, kt _ _ _ hlo, k69, es, hlo2, tokC, tkC, tk, str_nil]
 all_goals rfl
theorem fl27 : flat b91 = [nthC b91 0, nthC b91 1, .block 0 (n27 0), nthC b91 3, nthC b91 4] := rfl
theorem f91 (hl : l.length <= 100000000000) (hi : i < l.length) : ∃ j, j <= l.length /\ suf l j = (token (suf l i)).2 /\
  ∀ lo p q, lo <= p.length -> E lo 91 [.ptr p.length 0] (p ++ R l i :: q) = some (.agg (tkC (token (suf l i)).1), p ++ R l j :: q) := by
 have hH : ∀ p q : List Ob, (p ++ R l i :: q).length = p.length + (q.length + 1) := fun p q => by simp
 have hin : i <= 100000000000 := by omega
 have fin_ : ∀ (j : Nat) (t : Tk), (∀ lo p q, lo <= p.length -> lo <= p.length + (q.length + 1) -> evCode (X91 lo p q) loopW (n27 0) (P27 p q l i (chr (suf l i) 0) []) = ret27 p q l j t) ->
   ∀ lo p q, lo <= p.length -> E lo 91 [.ptr p.length 0] (p ++ R l i :: q) = some (.agg (tkC t), p ++ R l j :: q) := by
  intro j t hq lo p q hlo
  rw [e91 (by simp) (by rfl), hH, pc_in, pc_go _ _ _ _ 0 2, tk27a hin, pc_go _ _ _ _ _ 1]
  have hB : evL (X91 lo p q) loopW (pc b91 2 1) (P27 p q l i (chr (suf l i) 0) []) = ret27 p q l j t := by
   unfold pc
   rw [fl27]
   show evL (X91 lo p q) loopW [.block 0 (n27 0)] _ = _
   rw [one_l, c_block, hq lo p q hlo (by omega)]
   rfl
  rw [hB, ret27, pc_r]
  exact fin81
 have fin2 : (∀ lo p q, lo <= p.length -> lo <= p.length + (q.length + 1) -> evCode (X91 lo p q) loopW (n27 0) (P27 p q l i (chr (suf l i) 0) []) = some (.normal, Q27 p q l i [(155, .v (.bool false))])) ->
   ∀ lo p q, lo <= p.length -> E lo 91 [.ptr p.length 0] (p ++ R l i :: q) = some (.agg (tkC (tk 9 [chr (suf l i) 0])), p ++ R l (i + 1) :: q) := by
  intro hq lo p q hlo
  rw [e91 (by simp) (by rfl), hH, pc_in, pc_go _ _ _ _ 0 2, tk27a hin, pc_go _ _ _ _ _ 1]
  have hB : evL (X91 lo p q) loopW (pc b91 2 1) (P27 p q l i (chr (suf l i) 0) []) = some (.normal, Q27 p q l i [(155, .v (.bool false))]) := by
   unfold pc
   rw [fl27]
   show evL (X91 lo p q) loopW [.block 0 (n27 0)] _ = _
   rw [one_l, c_block, hq lo p q hlo (by omega)]
   rfl
  rw [hB, pc_go _ _ _ _ _ 2, a9 hin lo p q hlo (by omega), ret27, pc_r]
  exact fin81
 have hd1 : ∀ k, suf l (i + k) = (suf l i).drop k := fun k => by simp [suf, List.drop_drop]
 have hgt : ∀ k c, chr (suf l i) k = c -> c ≠ -1 -> i + k < l.length := fun k c h hc => by
  rcases Nat.lt_or_ge (i + k) l.length with h2 | h2
  ·exact h2
  ·exfalso
   have : (suf l i)[k]? = none := List.getElem?_eq_none (by rw [suf_len]; omega)
   simp only [chr, this] at h
   exact hc h.symm
 unfold token
 simp only
 by_cases h0 : blk (chr (suf l i) 0) = true
 ·obtain ⟨j, a1, a2, a3⟩ := a0 (c := chr (suf l i) 0) (x := .v (.bool true)) hl (Nat.le_of_lt hi)
  rw [if_pos h0]
  exact ⟨j, a1, a2, fin_ j _ fun lo p q hlo hlo2 => by rw [q0, if_pos h0, a3 lo p q hlo hlo2]⟩
 rw [if_neg h0]
 by_cases h1 : quo (chr (suf l i) 0) = true
 ·obtain ⟨j, b1, b2, b3⟩ := a1 (x := .v (.bool true)) hl hi h1 (suf_next hi)
  rw [if_pos h1, <- hd1]
  exact ⟨j, b1, b2, fin_ j _ fun lo p q hlo hlo2 => by rw [q0, if_neg h0, q1, if_pos h1, b3 lo p q hlo hlo2]⟩
 rw [if_neg h1]
 by_cases h2 : 0 < plK (chr (suf l i) 0)
 ·rw [if_pos h2]
  exact ⟨i + 1, by omega, hd1 1, fin_ (i + 1) _ fun lo p q hlo hlo2 => by rw [q0, if_neg h0, q1, if_neg h1, q2, if_pos h2, a2 hin lo p q hlo hlo2]⟩
 rw [if_neg h2]
 by_cases h3 : num (chr (suf l i) 0) (chr (suf l i) 1) (chr (suf l i) 2) = true
 ·obtain ⟨j, b1, b2, b3⟩ := a3 (c := chr (suf l i) 0) (x := .v (.bool true)) hl (Nat.le_of_lt hi) h3
  rw [if_pos h3]
  exact ⟨j, b1, b2, fin_ j _ fun lo p q hlo hlo2 => by rw [q0, if_neg h0, q1, if_neg h1, q2, if_neg h2, q3 hin, if_pos h3, b3 lo p q hlo hlo2]⟩
 rw [if_neg h3]
 by_cases h4 : chr (suf l i) 0 = 45 /\ chr (suf l i) 1 = 45 /\ chr (suf l i) 2 = 62
 ·have := hgt 2 62 h4.2.2 (by decide)
  rw [if_pos h4]
  exact ⟨i + 3, by omega, hd1 3, fin_ (i + 3) _ fun lo p q hlo hlo2 => by rw [q0, if_neg h0, q1, if_neg h1, q2, if_neg h2, q3 hin, if_neg h3, q4 hin, if_pos h4, a4 hin lo p q hlo hlo2]⟩
 rw [if_neg h4]
 by_cases h5 : chr (suf l i) 0 = 60 /\ chr (suf l i) 1 = 33 /\ chr (suf l i) 2 = 45 /\ chr (suf l i) 3 = 45
 ·have := hgt 3 45 h5.2.2.2 (by decide)
  rw [if_pos h5]
  exact ⟨i + 4, by omega, hd1 4, fin_ (i + 4) _ fun lo p q hlo hlo2 => by rw [q0, if_neg h0, q1, if_neg h1, q2, if_neg h2, q3 hin, if_neg h3, q4 hin, if_neg h4, q5 hin, if_pos h5, a5 hin lo p q hlo hlo2]⟩
 rw [if_neg h5]
 by_cases h6 : chr (suf l i) 0 = 35 /\ (ltr (chr (suf l i) 1) || esc (chr (suf l i) 1) (chr (suf l i) 2)) = true
 ·obtain ⟨j, b1, b2, b3⟩ := a6 (c := chr (suf l i) 0) (x := .v (.bool true)) hl hi
  rw [if_pos h6]
  exact ⟨j, b1, b2, fin_ j _ fun lo p q hlo hlo2 => by rw [q0, if_neg h0, q1, if_neg h1, q2, if_neg h2, q3 hin, if_neg h3, q4 hin, if_neg h4, q5 hin, if_neg h5, q6 hin, if_pos h6, b3 lo p q hlo hlo2]⟩
 rw [if_neg h6]
 by_cases h7 : chr (suf l i) 0 = 64 /\ beg (chr (suf l i) 1) (chr (suf l i) 2) (chr (suf l i) 3) = true
 ·obtain ⟨j, b1, b2, b3⟩ := a7 (x := .v (.bool true)) hl hi
  rw [if_pos h7]
  exact ⟨j, b1, b2, fin_ j _ fun lo p q hlo hlo2 => by rw [q0, if_neg h0, q1, if_neg h1, q2, if_neg h2, q3 hin, if_neg h3, q4 hin, if_neg h4, q5 hin, if_neg h5, q6 hin, if_neg h6, q7 hin, if_pos h7, b3 lo p q hlo hlo2]⟩
 rw [if_neg h7]
 by_cases h8 : beg (chr (suf l i) 0) (chr (suf l i) 1) (chr (suf l i) 2) = true
 ·obtain ⟨j, b1, b2, b3⟩ := a8 (x := .v (.bool true)) hl (Nat.le_of_lt hi)
  rw [if_pos h8]
  exact ⟨j, b1, b2, fin_ j _ fun lo p q hlo hlo2 => by rw [q0, if_neg h0, q1, if_neg h1, q2, if_neg h2, q3 hin, if_neg h3, q4 hin, if_neg h4, q5 hin, if_neg h5, q6 hin, if_neg h6, q7 hin, if_neg h7, q8 hin, if_pos h8, b3 lo p q hlo hlo2]⟩
 rw [if_neg h8]
 exact ⟨i + 1, by omega, hd1 1, fin2 fun lo p q hlo hlo2 => by rw [q0, if_neg h0, q1, if_neg h1, q2, if_neg h2, q3 hin, if_neg h3, q4 hin, if_neg h4, q5 hin, if_neg h5, q6 hin, if_neg h6, q7 hin, if_neg h7, q8 hin, if_neg h8]⟩
end
end Go.Lift.P8.T
end

section
open Go.Proofs
namespace Go.Lift.P8.T
variable [MX]
@[go_sem] theorem tab0 [HasK] : GTab.tab 0 = some [.v (.int .i64 21), .v (.int .i64 22), .v (.int .i64 19), .v (.int .i64 20), .v (.int .i64 23), .v (.int .i64 24), .v (.int .i64 18), .v (.int .i64 16), .v (.int .i64 17)] := if_pos HasK.h
variable [HasK]
open Utf Tok
section
variable {lo i j : Nat} {l : List Int} {p q : List Ob} {c d e : Int}
end
end Go.Lift.P8.T
end

section
open Go.Proofs
namespace Go.Lift.P8.T
variable [MX]
open Utf Tok
theorem ibr_tk (ts : List Tk) : isByteRow (ts.map tkC) = false := by cases ts <;> rfl
theorem tk_all (ts : List Tk) : ((ts.map tkC).all fun x => x.length == 6) = true := by
 rw [List.all_eq_true]
 intro x hx
 obtain ⟨t, _, rfl⟩ := List.mem_map.1 hx
 rfl
theorem toksN_nil (n : Nat) : toksN n [] = [] := by
 cases n with
 | zero => rfl
 | succ n => simp only [toksN]; rw [if_pos (show rems [] = [] from rfl)]
section
variable {lo i j : Nat} {l : List Int} {h : Heap}
noncomputable abbrev X72 (lo : Nat) (h : Heap) : Cx := ⟨Tryz.prog, E, lo, h.length, h72⟩
theorem loop72 (hl : l.length <= 100000000000) : ∀ (m i : Nat) (out : List Tk), (suf l i).length <= m -> i <= l.length -> out.length + (suf l i).length <= l.length ->
  ∃ j, ∀ lo (h : Heap), lo <= h.length -> loopW (evCode (X72 lo h) loopW l72x0) ([(3, .ptr h.length 0), (4, .list .yes (out.map tkC))], h ++ [R l i]) =
   some (.ret, [(2, .list .no ((out ++ toksN m (suf l i)).map tkC))], h ++ [R l j]) := by
 have stop : ∀ (i : Nat) (out : List Tk), i <= l.length -> rems (suf l i) = [] -> ∃ j, ∀ lo (h : Heap), lo <= h.length -> loopW (evCode (X72 lo h) loopW l72x0) ([(3, .ptr h.length 0), (4, .list .yes (out.map tkC))], h ++ [R l i]) =
   some (.ret, [(2, .list .no (out.map tkC))], h ++ [R l j]) := by
  intro i out hi hr
  obtain ⟨j, a1, a2, a3, a4⟩ := f89 (l := l) (i := i) hl hi
  rw [hr] at a3
  have k0 := fun lo p q => f90 (lo := lo) (l := l) (i := j) (p := p) (q := q) (k := 0) (by omega)
  have t : ((-1 : Int) == -1) = true := rfl
  simp only [n0, a3, chr_nil] at k0
  refine ⟨j, fun lo h hlo => ?_⟩
  rw [loop_eq]
  simp only [go_sem, X72, l72x0, b72, Tryz.f72, a4 _ _ _ hlo, k0, t]
  all_goals rfl
 intro m
 induction m with
 | zero =>
  intro i out h1 h2 h3
  have hs : suf l i = [] := List.eq_nil_of_length_eq_zero (by omega)
  obtain ⟨j, hj⟩ := stop i out h2 (by rw [hs]; rfl)
  refine ⟨j, fun lo h hlo => ?_⟩
  rw [hj lo h hlo, hs, toksN_nil, List.append_nil]
 | succ m ih =>
  intro i out h1 h2 h3
  by_cases hr : rems (suf l i) = []
  ·obtain ⟨j, hj⟩ := stop i out h2 hr
   refine ⟨j, fun lo h hlo => ?_⟩
   rw [hj lo h hlo]
   simp only [toksN]
   rw [if_pos hr, List.append_nil]
  ·obtain ⟨j0, a1, a2, a3, a4⟩ := f89 (l := l) (i := i) hl h2
   have hj0 : j0 < l.length := by
    rcases Nat.lt_or_ge j0 l.length with h | h
    ·exact h
    ·rw [suf_end h] at a3; exact absurd a3.symm hr
   obtain ⟨j1, b1, b2, b3⟩ := f91 (l := l) (i := j0) hl hj0
   have hlt := token_lt (s := suf l j0) (by rw [a3]; exact hr)
   have hle := rems_le (suf l i)
   rw [<- a3] at hle
   rw [<- b2] at hlt
   obtain ⟨j, hj⟩ := ih j1 (out ++ [(token (suf l j0)).1]) (by omega) b1 (by simp; omega)
   refine ⟨j, fun lo h hlo => ?_⟩
   have k0 := fun lo p q => f90 (lo := lo) (l := l) (i := j0) (p := p) (q := q) (k := 0) (by omega)
   have hcp := chr_pos hj0
   have t : (chr (suf l j0) 0 == -1) = false := by simp; omega
   simp only [n0] at k0
   have e : toksN (m + 1) (suf l i) = (token (suf l j0)).1 :: toksN m (suf l j1) := by
    simp only [toksN]
    rw [if_neg hr, <- a3, b2]
   rw [e]
   have hT : ∀ lo (p q : List Ob), lo <= p.length -> E lo 91 [.ptr p.length 0] (p ++ R l j0 :: q) = some (.agg (tkC (token (suf l j0)).1), p ++ R l j1 :: q) := b3
   generalize (token (suf l j0)).1 = T at *
   have hr1 : (out.length + 1) * 48 <= 140737488355328 := by omega
   have hr2 : out.length + 1 <= 9223372036854775807 := by omega
   have app : out.map tkC ++ [tkC T] = (out ++ [T]).map tkC := by simp
   have all := tk_all out
   have ibr := ibr_tk out
   have er : evCode (X72 lo h) loopW l72x0 ([(3, .ptr h.length 0), (4, .list .yes (out.map tkC))], h ++ [R l i]) = some (.normal, [(3, .ptr h.length 0), (4, .list .yes ((out ++ [T]).map tkC))], h ++ [R l j1]) := by
    rw [<- app]
    simp only [tkC] at hT ⊢
    simp only [go_sem, X72, l72x0, b72, Tryz.f72, a4 _ _ _ hlo, k0, t, hT _ _ _ hlo, List.length_map, all, ibr, hr1, hr2]
    all_goals rfl
   rw [loop_eq, er, loop_n, hj lo h hlo]
   simp
theorem suf0 (l : List Int) : suf l 0 = l.map scal := by simp [suf]
theorem f72 (hl : l.length <= 100000000000) (hlo : lo <= h.length) : E lo 72 [.list .no (ri .i32 l)] h = some (.list .no ((toks (l.map scal)).map tkC), h) := by
 obtain ⟨j, hj⟩ := loop72 (l := l) hl (suf l 0).length 0 [] (Nat.le_refl _) (Nat.zero_le _) (by rw [suf_len]; simp)
 have hL := hj lo h hlo
 have hR : R l 0 = .cells [.list .no (ri .i32 l), .v (.int .i64 0)] := rfl
 rw [List.nil_append, suf0, hR] at hL
 have e : toks (l.map scal) = toksN (l.map scal).length (l.map scal) := rfl
 rw [e72 (by simp) (by rfl), e]
 generalize toksN (l.map scal).length (l.map scal) = ts at *
 simp only [X72, l72x0, b72, Tryz.f72, loopAt, loops, bodyOf, go_sem] at hL
 simp only [go_sem, b72, Tryz.f72, hL, hlo]
section
variable [HasK]
end
end
end Go.Lift.P8.T
end

section
open Go.Proofs
namespace Go.Lift.P8.T
variable [MX]
open Utf Tok
section
variable {lo : Nat} {l b : List Int} {h : Heap}
theorem dec_len (p : Bool) : ∀ l : List Int, (Utf.dec p l).length <= l.length := by
 intro l
 induction l generalizing p with
 | nil => simp [Utf.dec]
 | cons x t ih =>
  have := ih (x == 13)
  have h1 := dstep_len p x
  simp only [Utf.dec, List.length_append, List.length_cons]
  omega
theorem decode_len (b : List Int) : (Utf.decode b).length <= b.length := by
 unfold Utf.decode
 have h1 := dec_len false (raw (strip b))
 have h2 := raw_len' (strip b)
 have h3 := strip_len b
 omega
def btoks (b : List Int) : List Tk := toks ((Utf.decode b).map scal)
theorem f46 (hb : b.length <= 1000000000) (hy : By b) (hlo : lo <= h.length) : E lo 46 [.list .no (ri .u8 b)] h = some (.list .no ((btoks b).map tkC), h) := by
 have hl := decode_len b
 have k := f72 (lo := lo) (l := Utf.decode b) (h := h) (by omega) hlo
 rw [e46 (by simp) (by rfl)]
 unfold btoks
 generalize toks ((Utf.decode b).map scal) = ts at *
 simp only [go_sem, b46, Tryz.f46, f73 hb hy, k]
end
end Go.Lift.P8.T
end

section
namespace Go.Lift.Tok
open Utf
section
variable {σ : Int} {y s : List Int}
theorem toksN_more : ∀ (n m : Nat) (s : List Int), s.length <= n -> s.length <= m -> toksN n s = toksN m s
 | 0, m, s, h1, h2 => by
  obtain rfl := List.eq_nil_of_length_eq_zero (by omega : s.length = 0)
  cases m with
  | zero => rfl
  | succ m => simp only [toksN]; rw [if_pos (show rems [] = [] from rfl)]
 | n + 1, 0, s, h1, h2 => by
  obtain rfl := List.eq_nil_of_length_eq_zero (by omega : s.length = 0)
  simp only [toksN]; rw [if_pos (show rems [] = [] from rfl)]
 | n + 1, m + 1, s, h1, h2 => by
  simp only [toksN]
  by_cases hr : rems s = []
  ·rw [if_pos hr, if_pos hr]
  ·rw [if_neg hr, if_neg hr]
   have a := token_lt hr
   have b := rems_le s
   rw [toksN_more n m _ (by omega) (by omega)]
theorem toks_eq (s : List Int) : toks s = if rems s = [] then [] else (token (rems s)).1 :: toks (token (rems s)).2 := by
 by_cases hr : rems s = []
 ·rw [if_pos hr]
  unfold toks
  cases h : s.length with
  | zero => rfl
  | succ n => simp only [toksN]; rw [if_pos hr]
 ·rw [if_neg hr]
  have a := token_lt hr
  have b := rems_le s
  unfold toks
  obtain ⟨n, hn⟩ : ∃ n, s.length = n + 1 := ⟨s.length - 1, by omega⟩
  rw [hn]
  simp only [toksN]
  rw [if_neg hr, toksN_more n (token (rems s)).2.length _ (by omega) (Nat.le_refl _)]
end
end Go.Lift.Tok
end

section
namespace Go.Lift.Spell
open Utf Tok
theorem nameN_sum : ∀ (n : Nat) (s : List Int), (nameN n s).1.length + (nameN n s).2.length <= s.length
 | 0, s => by simp [nameN]
 | n + 1, [] => by simp [nameN]
 | n + 1, c :: t => by
  simp only [nameN]
  split
  ·have := nameN_sum n t
   simp only [List.length_cons]
   omega
  ·split
   ·have := nameN_sum n (escd t).2
    have := escd_le t
    simp only [List.length_cons]
    omega
   ·simp
theorem name_sum (s : List Int) : (Tok.name s).1.length + (Tok.name s).2.length <= s.length := nameN_sum _ s
theorem txtN_sum (sign : Int) : ∀ (n : Nat) (s : List Int), (txtN sign n s).2.1.length + (txtN sign n s).2.2.length <= s.length
 | 0, s => by simp [txtN]
 | n + 1, [] => by simp [txtN]
 | n + 1, c :: t => by
  simp only [txtN]
  split
  ·simp
  ·split
   ·simp
   ·split
    ·cases t with
     | nil => simp
     | cons d u =>
      simp only
      split
      ·have := txtN_sum sign n u
       simp only [List.length_cons]
       omega
      ·have := txtN_sum sign n (escd (d :: u)).2
       have := escd_le (d :: u)
       simp only [List.length_cons] at *
       omega
    ·have := txtN_sum sign n t
     simp only [List.length_cons]
     omega
theorem urlN_sum : ∀ (n : Nat) (s : List Int), (urlN n s).2.1.length + (urlN n s).2.2.length <= s.length
 | 0, s => by simp [urlN]
 | n + 1, [] => by simp [urlN]
 | n + 1, c :: t => by
  simp only [urlN]
  split
  ·simp
  ·split
   ·have := blanks_le t
    split
    ·simp only [List.length_nil, List.length_drop, List.length_cons]
     omega
    ·have := badN_le (blanks t).length (blanks t)
     simp only [badu, List.length_nil, List.length_cons]
     omega
   ·split
    ·have := badN_le (c :: t).length (c :: t)
     simp only [badu, List.length_nil, List.length_cons] at *
     omega
    ·split
     ·split
      ·have := urlN_sum n (escd t).2
       have := escd_le t
       simp only [List.length_cons]
       omega
      ·have := badN_le (c :: t).length (c :: t)
       simp only [badu, List.length_nil, List.length_cons] at *
       omega
     ·have := urlN_sum n t
      simp only [List.length_cons]
      omega
theorem urlT_sum (x : Bool × List Int × List Int) {n : Nat} (h : x.2.1.length + x.2.2.length <= n) : (urlT x).text.length + x.2.2.length <= n := by
 unfold urlT tk
 split
 ·exact h
 ·simp only [List.length_nil]; omega
theorem numP_le (s : List Int) : (numP s).2.length <= s.length := by
 have := congrArg List.length (numP_text s)
 rw [List.length_append] at this
 omega
theorem token_sum (s : List Int) (hne : s ≠ []) : (token s).1.text.length + (token s).2.length <= s.length := by
 unfold token
 simp only
 split
 ·have := blanks_le s
  simp only [tk, List.length_nil]
  omega
 ·split
  ·have h1 := txtN_sum (chr s 0) (s.drop 1).length (s.drop 1)
   have h2 : (s.drop 1).length <= s.length := by rw [List.length_drop]; omega
   show (txtT (txt (chr s 0) (s.drop 1))).text.length + (txt (chr s 0) (s.drop 1)).2.2.length <= _
   have h1 : (txt (chr s 0) (s.drop 1)).2.1.length + (txt (chr s 0) (s.drop 1)).2.2.length <= (s.drop 1).length := h1
   unfold txtT tk
   split
   ·show (txt (chr s 0) (s.drop 1)).2.1.length + _ <= _
    omega
   ·simp only [List.length_nil]; omega
  ·split
   ·simp only [tk, List.length_nil, List.length_drop]; omega
   ·split
    ·have h1 := numP_le s
     unfold figure
     simp only
     split
     ·have := name_sum (numP s).2
      simp only
      omega
     ·split
      ·simp only [List.length_nil, List.length_drop]; omega
      ·simp only [List.length_nil]; omega
    ·split
     ·simp only [tk, List.length_nil, List.length_drop]; omega
     ·split
      ·simp only [tk, List.length_nil, List.length_drop]; omega
      ·split
       ·have h1 := name_sum (s.drop 1)
        rw [List.length_drop] at h1
        simp only
        omega
       ·split
        ·have h1 := name_sum (s.drop 1)
         rw [List.length_drop] at h1
         simp only [tk]
         omega
        ·split
         ·have h1 := name_sum s
          unfold word
          simp only
          split
          ·split
           ·have h2 := skip2_le ((Tok.name s).2.drop 1)
            rw [List.length_drop] at h2
            have h3 := urlN_sum (blanks (skip2 ((Tok.name s).2.drop 1))).length (blanks (skip2 ((Tok.name s).2.drop 1)))
            have h4 := blanks_le (skip2 ((Tok.name s).2.drop 1))
            have key : ∀ q : Bool, (if q = true then (tk 2 (Tok.name s).1, skip2 ((Tok.name s).2.drop 1)) else (urlT (url (skip2 ((Tok.name s).2.drop 1))), (url (skip2 ((Tok.name s).2.drop 1))).2.2)).1.text.length +
              (if q = true then (tk 2 (Tok.name s).1, skip2 ((Tok.name s).2.drop 1)) else (urlT (url (skip2 ((Tok.name s).2.drop 1))), (url (skip2 ((Tok.name s).2.drop 1))).2.2)).2.length <= s.length := by
             intro q
             cases q with
             | true => rw [if_pos rfl]; show (Tok.name s).1.length + (skip2 ((Tok.name s).2.drop 1)).length <= _; omega
             | false =>
              rw [if_neg (by simp)]
              exact urlT_sum _ (Nat.le_trans h3 (by omega))
            exact key _
           ·simp only [tk, List.length_drop]; omega
          ·simp only [tk]; omega
         ·cases s with
          | nil => exact absurd rfl hne
          | cons c t => simp only [tk, List.length_cons, List.length_nil, List.drop_succ_cons, List.drop_zero]; omega
def textSum : List Tk -> Nat
 | [] => 0
 | t :: l => t.text.length + textSum l
theorem toks_sum : ∀ (n : Nat) (s : List Int), s.length <= n -> textSum (toks s) + (toks s).length <= 2 * s.length
 | 0, s, h => by
  have : s = [] := List.eq_nil_of_length_eq_zero (by omega)
  subst this
  exact Nat.le_refl _
 | n + 1, s, h => by
  have hl := rems_le s
  rw [toks_eq]
  by_cases h0 : rems s = []
  ·rw [if_pos h0]
   exact Nat.zero_le _
  ·rw [if_neg h0]
   have hlt := token_lt h0
   have hs := token_sum (rems s) h0
   have := toks_sum n (token (rems s)).2 (by omega)
   simp only [textSum, List.length_cons]
   omega
end Go.Lift.Spell
end

section
open Go.Proofs
namespace Go.Lift.P8
open Rul (rules vals rusC)
open Utf (By)
variable [MX]
def ofK (t : Tok.Tk) : Rul.Tk4 := ⟨t.kind, Utf.encs t.text, t.num.1, t.num.2, t.whole, t.id⟩
theorem tkC_rows (l : List Tok.Tk) : l.map T.tkC = (l.map ofK).map Rul.row := by rw [List.map_map]; rfl
theorem text_one {l : List Tok.Tk} {t : Tok.Tk} (h : t ∈ l) : t.text.length <= Spell.textSum l := by
 induction l with
 | nil => cases h
 | cons x l ih =>
  simp only [Spell.textSum]
  rcases List.mem_cons.1 h with rfl | h
  ·omega
  ·have := ih h; omega
theorem btoks_ok {b : List Int} (hl : b.length <= 1048576) : ((T.btoks b).map ofK).length <= 2097152 /\ ∀ t ∈ (T.btoks b).map ofK, BtT t /\ 1 <= t.k /\ t.k <= 24 := by
 have hd : ((Utf.decode b).map Utf.scal).length <= 1048576 := by
  rw [List.length_map]
  have := T.decode_len b
  omega
 have hs := Spell.toks_sum _ ((Utf.decode b).map Utf.scal) (Nat.le_refl _)
 have hf := Tok.few_toks ((Utf.decode b).map Utf.scal)
 unfold T.btoks
 refine ⟨by rw [List.length_map]; omega, fun x hx => ?_⟩
 obtain ⟨t, ht, rfl⟩ := List.mem_map.1 hx
 have h1 := text_one ht
 have h2 : (Utf.encs t.text).length <= 4 * t.text.length := by
  generalize t.text = L
  induction L with
  | nil => simp [Utf.encs]
  | cons x L ih =>
   have := T.enc_len4 (Utf.scal x)
   rw [Utf.encs_cons, List.length_append, List.length_cons]
   omega
 have h3 := hf t ht
 exact ⟨⟨Utf.encs_by _, by show (Utf.encs t.text).length <= _; omega⟩, h3.lo, h3.hi⟩
theorem f19s {lo : Nat} {h : Heap} {b : List Int} (hlo : lo <= h.length) (hb : b.length <= 16384) (hy : By b) :
  E lo 19 [.list .no (ri .u8 b)] h = some (.tup [.list .no (rusC (rules (vals ((T.btoks b).map ofK)))), .v (.int .i64 0)], h) := by
 have hk := btoks_ok (b := b) (by omega)
 have c46 := T.f46 (lo := lo) (h := h) (b := b) (by omega) hy hlo
 rw [tkC_rows] at c46
 have c16 := f16 (lo := lo) (h := h) (l := (T.btoks b).map ofK) hlo (by omega) fun t ht => (hk.2 t ht).1
 have q : decide ((16384 : Int) < (b.length : Int)) = false := by simp; omega
 rw [e19 (by simp) (by rfl)]
 simp only [go_sem, b19, Tryz.f19, hlo, c46, c16, q]
 all_goals rfl
theorem f19l {lo : Nat} {h : Heap} {b : List Int} (hlo : lo <= h.length) (hb : ¬ b.length <= 16384) :
  E lo 19 [.list .no (ri .u8 b)] h = some (.tup [.list .no [], .v (.int .i64 2)], h) := by
 have q : decide ((16384 : Int) < (b.length : Int)) = true := by simp; omega
 rw [e19 (by simp) (by rfl)]
 simp only [go_sem, b19, Tryz.f19, hlo, q]
 all_goals rfl
theorem f7 {b : List Int} (hl : b.length <= 1048576) (hy : By b) : E 0 7 [.list .no (ri .u8 b)] [] = some (.v (.bool true), []) := by
 have c18 := f18
 rw [e7 (by simp) (by rfl)]
 by_cases hb : b.length <= 16384
 ·have c19 := f19s (lo := 0) (h := []) (Nat.zero_le _) hb hy
  have hk := btoks_ok (b := b) (by omega)
  have hw := rules_wel (l := (T.btoks b).map ofK) (by omega) fun t ht => (hk.2 t ht).1
  have hd := Rul.rules_within (l := (T.btoks b).map ofK) fun t ht => (hk.2 t ht).2
  generalize rules (vals ((T.btoks b).map ofK)) = R at *
  have c22 := f22 _ R (Nat.le_refl _) hw.1 hw.2 hd.1 (by omega) 0 [] (Nat.zero_le _)
  have q : decide ((16384 : Int) < (b.length : Int)) = false := by simp; omega
  have q1 : decide ((0 : Int) <= Rul.deepest R) = true := by rw [decide_eq_true_iff]; exact hd.1
  have q2 : decide (Rul.deepest R <= 64) = true := by rw [decide_eq_true_iff]; exact hd.2
  simp only [go_sem, b7, Tryz.f7, c18, c19, c22, q, q1, q2, List.length_nil, Nat.le_refl, Int.reduceBNe]
  all_goals rfl
 ·have c19 := f19l (lo := 0) (h := []) (b := b) (Nat.zero_le _) hb
  have c22 : E 0 22 [.list .no []] [] = some (.v (.int .i64 0), []) := by
   have := f22 0 [] (by rw [szRs]; omega) (by simp) (by rw [WkRs]; trivial) (by rw [Rul.deepest]; omega) (by rw [Rul.deepest]; omega) 0 [] (Nat.zero_le _)
   rw [Rul.deepest, Rul.rusC_map] at this
   exact this
  have q : decide ((16384 : Int) < (b.length : Int)) = true := by simp; omega
  simp only [go_sem, b7, Tryz.f7, c18, c19, c22, q, List.length_nil, Nat.le_refl, Int.reduceBNe, Int.reduceLT, Int.reduceLE]
  all_goals rfl
end Go.Lift.P8
end

section
namespace Go.Proofs
open Go.Shelf
def Tryz.lays219_ren : Go.Shelf.Ren := ⟨fun | 219 => 206 | 217 => 235 | 225 => 236 | 224 => 237 | 267 => 238 | 266 => 254 | 314 => 255 | n => n, fun | 9 => 9 | 3 => 3 | 4 => 4 | 5 => 5 | 46 => 164 | 146 => 225 | 51 => 224 | n => n, fun | 1 => 1 | n => n⟩
theorem Tryz.lays219 : Go.Proofs.LaysM.n219 Tryz.prog Tryz.lays219_ren := {
 mixed := by kernel_rfl
 f217 := Tryz.func235.trans (congrArg some (by kernel_rfl))
 f219 := Tryz.func206.trans (congrArg some (by kernel_rfl))
 f224 := Tryz.func237.trans (congrArg some (by kernel_rfl))
 f225 := Tryz.func236.trans (congrArg some (by kernel_rfl))
 f266 := Tryz.func254.trans (congrArg some (by kernel_rfl))
 f267 := Tryz.func238.trans (congrArg some (by kernel_rfl))
 f314 := Tryz.func255.trans (congrArg some (by kernel_rfl))
 t3 := Tryz.underlying3
 a3 := Tryz.isAgg3
 z3 := Tryz.sizeOf3
 v3 := Tryz.zeroValue3
 t4 := Tryz.underlying4
 a4 := Tryz.isAgg4
 z4 := Tryz.sizeOf4
 v4 := Tryz.zeroValue4
 t5 := Tryz.underlying5
 a5 := Tryz.isAgg5
 z5 := Tryz.sizeOf5
 v5 := Tryz.zeroValue5
 t9 := Tryz.underlying9
 a9 := Tryz.isAgg9
 z9 := Tryz.sizeOf9
 v9 := Tryz.zeroValue9
 t46 := Tryz.underlying164
 a46 := Tryz.isAgg164
 z46 := Tryz.sizeOf164
 v46 := Tryz.zeroValue164
 t51 := Tryz.underlying224
 a51 := Tryz.isAgg224
 z51 := Tryz.sizeOf224
 v51 := Tryz.zeroValue224
 t146 := Tryz.underlying225
 a146 := Tryz.isAgg225
 z146 := Tryz.sizeOf225
 v146 := Tryz.zeroValue225
 g1 := by kernel_rfl
 i3 := by kernel_rfl
 i4 := by kernel_rfl
 i5 := by kernel_rfl
 i9 := by kernel_rfl
 i46 := by kernel_rfl
 i51 := by kernel_rfl
 i146 := by kernel_rfl
 m1 := by kernel_rfl
 s1_3 := fun w h => Go.Proofs.cell_of_shapedOpen_int (zero := #[.int .i64 0]) (t := 3) h (of_decide_eq_true (by kernel_rfl)) (by kernel_rfl) rfl (by kernel_rfl) (by kernel_rfl) Tryz.underlying3 }
end Go.Proofs
end

section
namespace Go.Proofs
open Go.Shelf
def Tryz.lays230_ren : Go.Shelf.Ren := ⟨fun | 230 => 190 | 197 => 225 | 118 => 226 | 165 => 227 | 166 => 81 | 168 => 210 | 270 => 228 | 167 => 211 | 169 => 84 | 260 => 249 | 240 => 101 | 241 => 250 | 242 => 239 | 276 => 142 | 277 => 264 | 278 => 256 | n => n, fun | 107 => 175 | 9 => 9 | 72 => 85 | 0 => 0 | 4 => 4 | 3 => 3 | 21 => 21 | 105 => 146 | 76 => 118 | 5 => 5 | 75 => 117 | 70 => 83 | 20 => 20 | 37 => 28 | 127 => 135 | 119 => 236 | 46 => 164 | 139 => 239 | 138 => 238 | 164 => 155 | 51 => 224 | 80 => 120 | n => n, fun | 3 => 4 | 4 => 5 | n => n⟩
theorem Tryz.lays230 : Go.Proofs.Lays.n230 Tryz.prog Tryz.lays230_ren := {
 mixed := by kernel_rfl
 f118 := Tryz.func226.trans (congrArg some (by kernel_rfl))
 f165 := Tryz.func227.trans (congrArg some (by kernel_rfl))
 f166 := Tryz.func81.trans (congrArg some (by kernel_rfl))
 f167 := Tryz.func211.trans (congrArg some (by kernel_rfl))
 f168 := Tryz.func210.trans (congrArg some (by kernel_rfl))
 f169 := Tryz.func84.trans (congrArg some (by kernel_rfl))
 f197 := Tryz.func225.trans (congrArg some (by kernel_rfl))
 f230 := Tryz.func190.trans (congrArg some (by kernel_rfl))
 f240 := Tryz.func101.trans (congrArg some (by kernel_rfl))
 f241 := Tryz.func250.trans (congrArg some (by kernel_rfl))
 f242 := Tryz.func239.trans (congrArg some (by kernel_rfl))
 f260 := Tryz.func249.trans (congrArg some (by kernel_rfl))
 f270 := Tryz.func228.trans (congrArg some (by kernel_rfl))
 f276 := Tryz.func142.trans (congrArg some (by kernel_rfl))
 f277 := Tryz.func264.trans (congrArg some (by kernel_rfl))
 f278 := Tryz.func256.trans (congrArg some (by kernel_rfl))
 t0 := Tryz.underlying0
 a0 := Tryz.isAgg0
 z0 := Tryz.sizeOf0
 v0 := Tryz.zeroValue0
 t3 := Tryz.underlying3
 a3 := Tryz.isAgg3
 z3 := Tryz.sizeOf3
 v3 := Tryz.zeroValue3
 t4 := Tryz.underlying4
 a4 := Tryz.isAgg4
 z4 := Tryz.sizeOf4
 v4 := Tryz.zeroValue4
 t5 := Tryz.underlying5
 a5 := Tryz.isAgg5
 z5 := Tryz.sizeOf5
 v5 := Tryz.zeroValue5
 t9 := Tryz.underlying9
 a9 := Tryz.isAgg9
 z9 := Tryz.sizeOf9
 v9 := Tryz.zeroValue9
 t20 := Tryz.underlying20
 a20 := Tryz.isAgg20
 z20 := Tryz.sizeOf20
 v20 := Tryz.zeroValue20
 t21 := Tryz.underlying21
 a21 := Tryz.isAgg21
 z21 := Tryz.sizeOf21
 v21 := Tryz.zeroValue21
 t37 := Tryz.underlying28
 a37 := Tryz.isAgg28
 z37 := Tryz.sizeOf28
 v37 := Tryz.zeroValue28
 t46 := Tryz.underlying164
 a46 := Tryz.isAgg164
 z46 := Tryz.sizeOf164
 v46 := Tryz.zeroValue164
 t51 := Tryz.underlying224
 a51 := Tryz.isAgg224
 z51 := Tryz.sizeOf224
 v51 := Tryz.zeroValue224
 t70 := Tryz.underlying83
 a70 := Tryz.isAgg83
 z70 := Tryz.sizeOf83
 v70 := Tryz.zeroValue83
 t72 := Tryz.underlying85
 a72 := Tryz.isAgg85
 z72 := Tryz.sizeOf85
 v72 := Tryz.zeroValue85
 t75 := Tryz.underlying117
 a75 := Tryz.isAgg117
 z75 := Tryz.sizeOf117
 v75 := Tryz.zeroValue117
 t76 := Tryz.underlying118
 a76 := Tryz.isAgg118
 z76 := Tryz.sizeOf118
 v76 := Tryz.zeroValue118
 t105 := Tryz.underlying146
 a105 := Tryz.isAgg146
 z105 := Tryz.sizeOf146
 v105 := Tryz.zeroValue146
 t107 := Tryz.underlying175
 a107 := Tryz.isAgg175
 z107 := Tryz.sizeOf175
 v107 := Tryz.zeroValue175
 t119 := Tryz.underlying236
 a119 := Tryz.isAgg236
 z119 := Tryz.sizeOf236
 t127 := Tryz.underlying135
 a127 := Tryz.isAgg135
 z127 := Tryz.sizeOf135
 v127 := Tryz.zeroValue135
 t138 := Tryz.underlying238
 a138 := Tryz.isAgg238
 z138 := Tryz.sizeOf238
 v138 := Tryz.zeroValue238
 t139 := Tryz.underlying239
 a139 := Tryz.isAgg239
 z139 := Tryz.sizeOf239
 v139 := Tryz.zeroValue239
 t164 := Tryz.underlying155
 a164 := Tryz.isAgg155
 z164 := Tryz.sizeOf155
 v164 := Tryz.zeroValue155
 g3 := by kernel_rfl
 g4 := by kernel_rfl }
end Go.Proofs
end

section
namespace Go.Lift.P8
variable [MX]
open Go.Proofs Go.RowKit
theorem extra : Builder.Extra Tryz.prog Tryz.lays230_ren where
 sizeBuilder := by kernel_rfl
 liesBuilder := by kernel_rfl
 t5 := by kernel_rfl
 a5 := Tryz.lays230.a5
 z5 := Tryz.lays230.z5
 v5 := Tryz.lays230.v5
 infoByte := by kernel_rfl
 cellsByte := by kernel_rfl
 sizeByte := by kernel_rfl
 neB5 := by decide
theorem walk191 (x : Int) (w : World) : Calls Tryz.prog 191 #[.int .i32 x] w fun e w' => e = .returned (.int .i32 (lowU x)) /\ ∃ q, w' = w.drewN q := by
 by_cases h1 : 65 <= x
 ·by_cases h2 : x <= 90
  ·have e1 : IntKind.i32.wrap (x + 97) = x + 97 := wrap_i32 (by omega) (by omega)
   have e2 : IntKind.i32.wrap (x + 97 - 65) = x + 32 := by rw [wrap_i32 (by omega) (by omega)]; omega
   have e3 : lowU x = x + 32 := by unfold lowU; rw [if_pos (by simp [h1, h2])]
   rw [e3]
   go_enter Tryz.func191, Tryz.ntmps191
   go_wp2
   all_goals go_ret
   exact ⟨rfl, 0, rfl⟩
  ·have e3 : lowU x = x := by unfold lowU; rw [if_neg (by simp [h2])]
   rw [e3]
   go_enter Tryz.func191, Tryz.ntmps191
   go_wp2
   all_goals go_ret
   exact ⟨rfl, 0, rfl⟩
 ·have e3 : lowU x = x := by unfold lowU; rw [if_neg (by simp [h1])]
  rw [e3]
  go_enter Tryz.func191, Tryz.ntmps191
  go_wp2
  all_goals go_ret
  exact ⟨rfl, 0, rfl⟩
theorem g3 : Tryz.lays230_ren.g 3 = 4 := rfl
theorem g4 : Tryz.lays230_ren.g 4 = 5 := rfl
theorem tab4 : GTab.tab 4 = some ((List.range 256).map fun c => V.v (.int .u8 (Go.Lib.firstT c))) := rfl
theorem tab5 : GTab.tab 5 = some ((List.range 16).flatMap fun i => [V.v (.int .u8 (Go.Lib.accLo i)), V.v (.int .u8 (Go.Lib.accHi i))]) := rfl
theorem pairs_get {f g : Nat -> V} : ∀ (n i : Nat), i < n -> ((List.range n).flatMap fun i => [f i, g i])[2 * i]? = some (f i) /\ ((List.range n).flatMap fun i => [f i, g i])[2 * i + 1]? = some (g i) := by
 intro n
 have hlen : ∀ n, ((List.range n).flatMap fun i => [f i, g i]).length = 2 * n := by
  intro n
  induction n with
  | zero => rfl
  | succ n ih => rw [List.range_succ, List.flatMap_append, List.length_append, ih]; simp; omega
 induction n with
 | zero => intro i hi; omega
 | succ n ih =>
  intro i hi
  rw [List.range_succ, List.flatMap_append]
  by_cases h : i < n
  ·obtain ⟨a, b⟩ := ih i h
   rw [List.getElem?_append_left (by rw [hlen]; omega), List.getElem?_append_left (by rw [hlen]; omega)]
   exact ⟨a, b⟩
  ·obtain rfl : i = n := by omega
   rw [List.getElem?_append_right (by rw [hlen]; omega), List.getElem?_append_right (by rw [hlen]; omega), hlen]
   have e1 : 2 * i - 2 * i = 0 := by omega
   have e2 : 2 * i + 1 - 2 * i = 1 := by omega
   rw [e1, e2]
   exact ⟨rfl, rfl⟩
theorem tabs_of {c : Cl} {w : World} (hg : ∀ n cs, GTab.tab n = some cs -> ROs c w ⟨n, 0, none⟩ cs) : Go.Lib.Utf8Tabs 4 5 w := by
 refine ⟨fun k hk => ?_, fun i hi => ?_⟩
 ·obtain ⟨_, h⟩ := hg 4 _ tab4
  obtain ⟨x, hx, hv⟩ := h k (.v (.int .u8 (Go.Lib.firstT k))) (by simp [hk])
  rw [Nat.zero_add] at hx
  rw [hx, VP.v_eq hv]
 ·obtain ⟨_, h⟩ := hg 5 _ tab5
  obtain ⟨p1, p2⟩ := pairs_get (f := fun i => V.v (.int .u8 (Go.Lib.accLo i))) (g := fun i => V.v (.int .u8 (Go.Lib.accHi i))) 16 i hi
  obtain ⟨x, hx, hv⟩ := h _ _ p1
  obtain ⟨y, hy, hu⟩ := h _ _ p2
  rw [Nat.zero_add] at hx hy
  rw [hx, hy, VP.v_eq hv, VP.v_eq hu]
  exact ⟨rfl, rfl⟩
end Go.Lift.P8
end
