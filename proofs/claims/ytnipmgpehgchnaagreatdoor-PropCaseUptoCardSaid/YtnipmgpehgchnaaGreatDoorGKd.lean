/- What calc.Parse tells is of numbers of 64 bits. -/
import Derived.ProofKit
import Derived.Shelf.Strings.Fields
import Derived.Test.YtnipmgpehgchnaaGreatDoorProg
import Derived.Test.YtnipmgpehgchnaaGreatDoorGLd
import Derived.Test.YtnipmgpehgchnaaGreatDoorGK5Basea
import Derived.Test.YtnipmgpehgchnaaGreatDoorGKb
import Derived.Test.YtnipmgpehgchnaaGreatDoorGKc
set_option linter.unusedVariables false
set_option linter.unusedSimpArgs false
set_option linter.unusedSectionVars false
set_option maxRecDepth 100000
set_option maxHeartbeats 4000000
section
open Go.Proofs
namespace Go.Lift.V1
open Rul
open Utf (By)
theorem okX_zero : okX zeroX := by
 unfold zeroX
 rw [okX, okXs]
 exact ⟨by omega, by simp, trivial⟩
theorem okX_num {n d u : Int} (h : (-9223372036854775808 <= n /\ n <= 9223372036854775807) /\ d <= 9223372036854775807) : okX (numX n d u) := by
 unfold numX
 split
 ·rw [okX, okXs]; exact ⟨h, by simp, trivial⟩
 ·rw [okX, okXs]; exact ⟨by omega, by simp, trivial⟩
theorem okX_one {k : Int} {e : X} (h : okX e) : okX (.mk k 0 0 0 [e]) := by
 rw [okX, okXs, okXs]; exact ⟨by omega, by simp, h, trivial⟩
theorem okX_single {k : Int} {ks : List X} (h : okXs ks) (hl : ks.length <= 100000000) : okX (singleX (.mk k 0 0 0 ks)) := by
 match ks, h, hl with
 | [], h, hl => show okX (.mk k 0 0 0 []); rw [okX]; exact ⟨by omega, hl, h⟩
 | [e], h, hl => show okX e; rw [okXs] at h; exact h.1
 | e :: f :: r, h, hl => show okX (.mk k 0 0 0 (e :: f :: r)); rw [okX]; exact ⟨by omega, hl, h⟩
theorem okX_chain {step : Nat -> X × Bool × Nat} {sg : Nat -> Option Bool × Nat} {inv : Int} (hs : ∀ a, okX (step a).1) : ∀ (f a : Nat) (ks : List X), okXs ks ->
  match chainP step sg inv f a ks with
  | .inl (e, _) => okX e
  | .inr (ks', _) => okXs ks'
 | 0, a, ks, h => by unfold chainP; exact h
 | f + 1, a, ks, h => by
  unfold chainP
  generalize sg a = r
  obtain ⟨o, a1⟩ := r
  cases o with
  | none => exact h
  | some b =>
   have h2 := hs a1
   simp only
   generalize step a1 = t at h2 ⊢
   obtain ⟨e, ok, a2⟩ := t
   cases ok with
   | false => exact h2
   | true =>
    refine okX_chain hs f a2 _ (okXs_app h ?_)
    rw [okXs, okXs]
    refine ⟨?_, trivial⟩
    cases b with
    | true => exact okX_one h2
    | false => exact h2
theorem okX_level {step : Nat -> X × Bool × Nat} {sg : Nat -> Option Bool × Nat} {kind inv : Int} {f a : Nat} (hs : ∀ a, okX (step a).1) (hf : f <= 10000000) : okX (levelP step sg kind inv f a).1 := by
 have h1 := hs a
 unfold levelP
 generalize step a = t at h1 ⊢
 obtain ⟨e, ok, a1⟩ := t
 cases ok with
 | false => exact h1
 | true =>
  simp only
  have h2 := okX_chain (sg := sg) (inv := inv) hs f a1 [e] (by rw [okXs, okXs]; exact ⟨h1, trivial⟩)
  have h3 := chain_len (step := step) (sg := sg) (inv := inv) f a1 [e]
  generalize chainP step sg inv f a1 [e] = r at h2 h3 ⊢
  match r, h2, h3 with
  | .inl (e', _), h2, _ => exact h2
  | .inr (ks', a'), h2, h3 => exact okX_single h2 (by have := h3 ks' a' rfl; simp at this; omega)
theorem okXs_split {w : List CV -> X × Bool} : ∀ {ps : List (List CV)} {xs : List X}, (∀ p ∈ ps, okX (w p).1) -> splitX w ps = some xs -> okXs xs
 | [], xs, _, h => by cases h; rw [okXs]; trivial
 | p :: r, xs, hw, h => by
  have h1 := hw p (List.mem_cons_self ..)
  unfold splitX at h
  split at h
  ·cases h
  ·rename_i e he
   obtain ⟨ys, hy, rfl⟩ := Option.map_eq_some_iff.1 h
   rw [he] at h1
   rw [okXs]
   exact ⟨h1, okXs_split (fun p hp => hw p (List.mem_cons_of_mem _ hp)) hy⟩
theorem okX_list {w : List CV -> X × Bool} {K : Int} {kids : List CV} (hl : nodesL kids <= 10000000) (hw : ∀ p ∈ splitB kids, okX (w p).1) : okX (listX K w kids).1 := by
 have hln := nodesL_len kids
 have hsl := splitA_len [] kids
 unfold listX
 cases hx : splitX w (splitB kids) with
 | none => exact okX_zero
 | some xs =>
  have := splitX_len hx
  unfold splitB at this
  show okX (.mk K 0 0 0 xs)
  rw [okX]
  exact ⟨by omega, by omega, okXs_split hw hx⟩
theorem okX_expr {w : List CV -> X × Bool} {v : CV} (hv : okWV v) (hl : nodesV v <= 10000000) (h1 : okX (w v.ks).1) (h2 : ∀ p ∈ splitB v.ks, okX (w p).1) : okX (exprF w v).1 := by
 obtain ⟨t, kids⟩ := v
 have hk := ks_nodes (.mk t kids)
 have ht := tok_ok hv
 have hkl : nodesL kids <= 10000000 := by have : (CV.mk t kids).ks = kids := rfl; rw [this] at hk; omega
 unfold exprF
 simp only
 split
 ·exact okX_num ⟨ht.2.2.1, ht.2.2.2.2⟩
 ·split
  ·exact okX_num ⟨ht.2.2.1, ht.2.2.2.2⟩
  ·split
   ·split
    ·exact h1
    ·split
     ·exact okX_list hkl h2
     ·split
      ·exact okX_list hkl h2
      ·split
       ·exact okX_list hkl h2
       ·exact okX_zero
   ·exact okX_zero
theorem okX_whole : ∀ (n : Nat) (l : List CV), nodesL l <= 2000000 -> okWL l -> okX (wholeN n l).1
 | 0, l, _, _ => okX_zero
 | n + 1, l, hl, ho => by
  have hll := nodesL_len (trim l)
  have htl := nodesL_trim l
  have hop : ∀ a, okX (operandP (opX (wholeN n)) (trim l) a).1 := fun a => by
   unfold operandP
   cases hg : (trim l)[a]? with
   | none => exact okX_zero
   | some v =>
    have hm := trim_mem (List.mem_of_getElem? hg)
    have hv := okWL_mem ho v hm
    have hn := nodesL_mem hm
    have hk := ks_nodes v
    have a1 := okX_whole n v.ks (by omega) (ks_ok hv)
    show okX (opX (wholeN n) v).1
    unfold opX
    split
    ·exact a1
    ·exact okX_expr hv (by omega) a1 fun p hp => okX_whole n p (by have := split_nodes hp; omega) (split_ok (ks_ok hv) hp)
  exact okX_level (fun a => okX_level hop (by omega)) (by omega)
theorem okX_parse {n : Nat} {l : List CV} (hl : nodesL l <= 2000000) (ho : okWL l) : okX (parseX n l).1 := by
 unfold parseX
 split
 ·have hm : ∀ v ∈ trim l, okWV v /\ nodesV v <= nodesL l := fun v hv => ⟨okWL_mem ho v (trim_mem hv), nodesL_mem (trim_mem hv)⟩
  generalize trim l = L at hm ⊢
  match L, hm with
  | [], _ => exact okX_zero
  | [v], hm =>
   have hv := hm v (List.mem_singleton.2 rfl)
   have hk := ks_nodes v
   have h1 := okX_expr (w := wholeN n) hv.1 (by omega) (okX_whole n v.ks (by omega) (ks_ok hv.1)) fun p hp => okX_whole n p (by have := split_nodes hp; omega) (split_ok (ks_ok hv.1) hp)
   simp only
   unfold exprN
   generalize exprF (wholeN n) v = r at h1 ⊢
   obtain ⟨e, b⟩ := r
   cases b with
   | true => exact h1
   | false => exact okX_zero
  | v :: u :: r, _ => exact okX_zero
 ·exact okX_zero
end Go.Lift.V1
end

section
open Go.Proofs
namespace Go.Lift.V1
open Rul
open Utf (By)
variable {lo : Nat} {h : Heap}
def valC (kind : Int) (x : X) (word : ByteArray) (toks : List (List V)) : List V := [.v (.int .i64 kind)] ++ xC x ++ [.v (.string word), .list .no toks]
theorem valC_eq (kind k n d u : Int) (kids : List X) (word : ByteArray) (toks : List (List V)) : valC kind (.mk k n d u kids) word toks = [.v (.int .i64 kind), .v (.int .i64 k), .v (.int .i64 n), .v (.int .i64 d), .v (.int .i64 u), .list .no (xsC kids), .v (.string word), .list .no toks] := by
 unfold valC; rw [xC_eq]; rfl
def zeroB (l : List CV) : Bool := match l with
 | [.mk t _] => t.k == 10 && (t.n == 0 && t.d == 1)
 | _ => false
def xNum : X -> Int
 | .mk _ n _ _ _ => n
def numP (k : Int) (low : Bool) (n : Nat) (l : List CV) : Option X :=
 if (k == 3) = true then none
 else if (k == 1 && zeroB l) = true then some (.mk 1 0 1 1 [])
 else if ((parseX n l).2 != 0) = true then none
 else if ((kindE (parseX n l).1).1 != (if (k == 1) = true then 2 else 1)) = true then none
 else if (!low && ((parseX n l).1.k == 1 && decide (xNum (parseX n l).1 < 0))) = true then none
 else some (parseX n l).1
def numV : Option X -> List V × Int
 | none => (valC 0 zeroX ⟨#[]⟩ [], 3)
 | some x => (valC 1 x ⟨#[]⟩ [], 0)
section
variable {nm : ByteArray} {k : Int} {dn low : Bool} {ws : List ByteArray} {ck a b : Int} {w : ByteArray} {l : List CV} {n : Nat}
theorem f38a (hlo : lo <= h.length) (hk : (k == 3) = true) : E lo 38 [.agg (cellsP nm k dn low ws ck a b w), .list .no (rowsC l)] h = some (.tup [.agg (numV none).1, .v (.int .i64 (numV none).2)], h) := by
 have l1 : lo <= h.length + 1 := by omega
 unfold numV zeroX
 simp only [valC_eq, xsC_nil]
 rw [e38 (by simp) (by rfl)]
 simp only [cellsP, go_sem, b38, Tryz.f38, hlo, l1, hk]
 all_goals rfl
theorem f38b (hlo : lo <= h.length) (hk : (k == 3) = false) (k1 : (k == 1) = true) (hz : zeroB l = true) : E lo 38 [.agg (cellsP nm k dn low ws ck a b w), .list .no (rowsC l)] h = some (.tup [.agg (numV (some (.mk 1 0 1 1 []))).1, .v (.int .i64 (numV (some (.mk 1 0 1 1 []))).2)], h) := by
 have l1 : lo <= h.length + 1 := by omega
 have l2 : lo <= h.length + 1 + 1 := by omega
 match l, hz with
 | [.mk t kids], hz =>
  unfold zeroB at hz
  simp only [Bool.and_eq_true] at hz
  obtain ⟨z1, z2, z3⟩ := hz
  have e := eq_rat t.n t.d 0 1
  rw [z2, z3] at e
  have q1' : ((1 : Int) == 1) = true := rfl
  have q1 : (((0 + 1 : Nat) : Int) == 1) = true := rfl
  unfold numV
  simp only [valC_eq, xsC_nil]
  rw [e38 (by simp) (by rfl), rowsC_cons, rowsC_nil, rowV_eq]
  simp only [cellsP, go_sem, b38, Tryz.f38, hlo, l1, l2, hk, k1, q1, q1', z1, fl28, e, List.length_cons, List.length_nil, Bool.and_true]
  all_goals rfl
noncomputable abbrev X38 (lo : Nat) (h : Heap) : Go.Lift.Cx := ⟨Tryz.prog, E, lo, h.length, h38⟩
def vZ : List V := [.v (.int .i64 0), .v (.int .i64 0), .v (.int .i64 0), .v (.int .i64 0), .v (.int .i64 0), .list .yes [], .v (.string ByteArray.empty), .list .yes []]
abbrev N38 (h : Heap) (l : List CV) : Env := [(1, .list .no (rowsC l)), (2, .ptr h.length 0), (4, .ptr (h.length + 1) 0), (6, .ptr (h.length + 2) 0), (41, .v (.bool false))]
abbrev H38 (h : Heap) (cs : List V) : Heap := h ++ [.cells cs, .cells vZ, .cells [.v (.int .i64 0), .v (.int .i64 1)]]
theorem p38a (hlo : lo <= h.length) (hk : (k == 3) = false) (k1 : (k == 1) = false) : evL (X38 lo h) loopW (pc b38 0 6) (args0 [.agg (cellsP nm k dn low ws ck a b w), .list .no (rowsC l)], h) = some (.normal, N38 h l, H38 h (cellsP nm k dn low ws ck a b w)) := by
 have l1 : lo <= h.length + 1 := by omega
 have l2 : lo <= h.length + 1 + 1 := by omega
 simp only [X38, N38, H38, vZ, cellsP, go_sem, b38, Tryz.f38, hlo, l1, l2, hk, k1]
 all_goals rfl
theorem p38 (hlo : lo <= h.length) (hk : (k == 3) = false) (hz : (k == 1 && zeroB l) = false) : evL (X38 lo h) loopW (pc b38 0 6) (args0 [.agg (cellsP nm k dn low ws ck a b w), .list .no (rowsC l)], h) = some (.normal, N38 h l, H38 h (cellsP nm k dn low ws ck a b w)) := by
 cases k1 : k == 1 with
 | false => exact p38a hlo hk k1
 | true =>
  rw [k1, Bool.true_and] at hz
  have l1 : lo <= h.length + 1 := by omega
  have l2 : lo <= h.length + 1 + 1 := by omega
  match l, hz with
  | [], _ =>
   have q1 : (((0 : Nat) : Int) == 1) = false := rfl
   have q1' : ((0 : Int) == 1) = false := rfl
   rw [rowsC_nil]
   simp only [X38, N38, H38, vZ, cellsP, rowsC_nil, go_sem, b38, Tryz.f38, hlo, l1, l2, hk, k1, q1, q1', List.length_nil]
   all_goals rfl
  | v :: u :: r, _ =>
   have q1 : (((r.length + 1 + 1 : Nat) : Int) == 1) = false := by rw [beq_eq_false_iff_ne]; omega
   rw [rowsC_cons, rowsC_cons]
   simp only [X38, N38, H38, vZ, cellsP, rowsC_cons, go_sem, b38, Tryz.f38, hlo, l1, l2, hk, k1, q1, List.length_cons, rowsC_len]
   all_goals rfl
  | [.mk t kids], hz =>
   have q1 : (((0 + 1 : Nat) : Int) == 1) = true := rfl
   have q1' : ((1 : Int) == 1) = true := rfl
   have hz' : (t.k == 10 && (t.n == 0 && t.d == 1)) = false := hz
   rw [rowsC_cons, rowsC_nil, rowV_eq]
   cases z1 : t.k == 10 with
   | false =>
    simp only [X38, N38, H38, vZ, cellsP, rowsC_cons, rowsC_nil, rowV_eq, go_sem, b38, Tryz.f38, hlo, l1, l2, hk, k1, q1, q1', z1, List.length_cons, List.length_nil]
    all_goals rfl
   | true =>
    rw [z1, Bool.true_and] at hz'
    have e := eq_rat t.n t.d 0 1
    rw [hz'] at e
    simp only [X38, N38, H38, vZ, cellsP, rowsC_cons, rowsC_nil, rowV_eq, go_sem, b38, Tryz.f38, hlo, l1, l2, hk, k1, q1, q1', z1, fl28, e, List.length_cons, List.length_nil]
    all_goals rfl
def valY (kind : Int) (x : X) : List V := [.v (.int .i64 kind)] ++ xC x ++ [.v (.string ByteArray.empty), .list .yes []]
theorem valY_eq (kind k n d u : Int) (kids : List X) : valY kind (.mk k n d u kids) = [.v (.int .i64 kind), .v (.int .i64 k), .v (.int .i64 n), .v (.int .i64 d), .v (.int .i64 u), .list .no (xsC kids), .v (.string ByteArray.empty), .list .yes []] := by
 unfold valY; rw [xC_eq]; rfl
abbrev R38 (h : Heap) (cs vc : List V) (e : X) (er : Int) : Option (Ex × Env × Heap) := some (.ret, [(4, .ptr (h.length + 1) 0), (5, .v (.int .i64 er))], h ++ [.cells cs, .cells vc, .cells [.v (.int .i64 0), .v (.int .i64 1)], .cells (xC e)])
theorem p38r (hlo : lo <= h.length) (hn : nodesL l <= n) (hl : nodesL l <= 2000000) (ho : okWL l) (hk : (k == 3) = false) : ∃ e, evL (X38 lo h) loopW (pc b38 6 20) (N38 h l, H38 h (cellsP nm k dn low ws ck a b w)) =
  (if ((parseX n l).2 != 0) = true then R38 h (cellsP nm k dn low ws ck a b w) vZ e 3
   else if ((kindE (parseX n l).1).1 != (if (k == 1) = true then 2 else 1)) = true then R38 h (cellsP nm k dn low ws ck a b w) vZ e 3
   else if (!low && ((parseX n l).1.k == 1 && decide (xNum (parseX n l).1 < 0))) = true then R38 h (cellsP nm k dn low ws ck a b w) vZ e 3
   else R38 h (cellsP nm k dn low ws ck a b w) (valY 1 (parseX n l).1) e 0) := by
 have l1 : lo <= h.length + 1 := by omega
 have l2 : lo <= h.length + 1 + 1 := by omega
 have l3 : lo <= h.length + 3 := by omega
 have l4 : lo <= h.length + 4 := by omega
 have c60 := fun lo h hlo => f60 (lo := lo) (h := h) (l := l) (n := n) hlo hn (by omega) ho
 have hx := okX_parse (n := n) hl ho
 have c61 := fun lo h hlo => f61 (lo := lo) (h := h) (x := (parseX n l).1) hlo hx
 refine ⟨(parseX n l).1, ?_⟩
 generalize parseX n l = r at c60 c61 hx ⊢
 obtain ⟨x, er⟩ := r
 simp only at c60 c61 ⊢
 generalize kindE x = ke at c61 ⊢
 obtain ⟨kd, ke2⟩ := ke
 obtain ⟨ek, en, ed, eu, el⟩ := x
 simp only [xC_eq, valY_eq, xNum, X.k] at c60 c61 ⊢
 cases qe : er != 0 with
 | true =>
  rw [if_pos rfl]
  simp only [X38, N38, H38, R38, vZ, xC_eq, cellsP, go_sem, b38, Tryz.f38, hlo, l1, l2, l3, l4, hk, c60, c61, qe]
  all_goals rfl
 | false =>
  rw [if_neg (by simp)]
  cases k1 : k == 1 with
  | true =>
   rw [if_pos rfl]
   cases qk : kd != 2 with
   | true =>
    rw [if_pos rfl]
    simp only [X38, N38, H38, R38, vZ, xC_eq, cellsP, go_sem, b38, Tryz.f38, hlo, l1, l2, l3, l4, hk, k1, c60, c61, qe, qk]
    all_goals rfl
   | false =>
    rw [if_neg (by simp)]
    cases low with
    | true =>
     rw [if_neg (by simp)]
     simp only [X38, N38, H38, R38, vZ, xC_eq, cellsP, go_sem, b38, Tryz.f38, hlo, l1, l2, l3, l4, hk, k1, c60, c61, qe, qk]
     all_goals rfl
    | false =>
     cases q1 : ek == 1 with
     | false =>
      rw [if_neg (by simp)]
      simp only [X38, N38, H38, R38, vZ, xC_eq, cellsP, go_sem, b38, Tryz.f38, hlo, l1, l2, l3, l4, hk, k1, c60, c61, qe, qk, q1]
      all_goals rfl
     | true =>
      cases q2 : decide (en < 0) with
      | true =>
       refine Eq.trans ?_ (if_pos (show _ = true from q2)).symm
       simp only [X38, N38, H38, R38, vZ, xC_eq, cellsP, go_sem, b38, Tryz.f38, hlo, l1, l2, l3, l4, hk, k1, c60, c61, qe, qk, q1, q2]
       all_goals rfl
      | false =>
       refine Eq.trans ?_ (if_neg (fun hc => by have hc' : decide (en < 0) = true := hc; rw [q2] at hc'; cases hc')).symm
       simp only [X38, N38, H38, R38, vZ, xC_eq, cellsP, go_sem, b38, Tryz.f38, hlo, l1, l2, l3, l4, hk, k1, c60, c61, qe, qk, q1, q2]
       all_goals rfl
  | false =>
   rw [if_neg (show ¬ (false = true) by simp)]
   cases qk : kd != 1 with
   | true =>
    rw [if_pos rfl]
    simp only [X38, N38, H38, R38, vZ, xC_eq, cellsP, go_sem, b38, Tryz.f38, hlo, l1, l2, l3, l4, hk, k1, c60, c61, qe, qk]
    all_goals rfl
   | false =>
    rw [if_neg (by simp)]
    cases low with
    | true =>
     rw [if_neg (by simp)]
     simp only [X38, N38, H38, R38, vZ, xC_eq, cellsP, go_sem, b38, Tryz.f38, hlo, l1, l2, l3, l4, hk, k1, c60, c61, qe, qk]
     all_goals rfl
    | false =>
     cases q1 : ek == 1 with
     | false =>
      rw [if_neg (by simp)]
      simp only [X38, N38, H38, R38, vZ, xC_eq, cellsP, go_sem, b38, Tryz.f38, hlo, l1, l2, l3, l4, hk, k1, c60, c61, qe, qk, q1]
      all_goals rfl
     | true =>
      cases q2 : decide (en < 0) with
      | true =>
       refine Eq.trans ?_ (if_pos (show _ = true from q2)).symm
       simp only [X38, N38, H38, R38, vZ, xC_eq, cellsP, go_sem, b38, Tryz.f38, hlo, l1, l2, l3, l4, hk, k1, c60, c61, qe, qk, q1, q2]
       all_goals rfl
      | false =>
       refine Eq.trans ?_ (if_neg (fun hc => by have hc' : decide (en < 0) = true := hc; rw [q2] at hc'; cases hc')).symm
       simp only [X38, N38, H38, R38, vZ, xC_eq, cellsP, go_sem, b38, Tryz.f38, hlo, l1, l2, l3, l4, hk, k1, c60, c61, qe, qk, q1, q2]
       all_goals rfl
theorem fin38 {cs vc : List V} {e : X} {er : Int} {r : List V} (hv : vc = vZ /\ r = valC 0 zeroX ⟨#[]⟩ [] \/ ∃ x, vc = valY 1 x /\ r = valC 1 x ⟨#[]⟩ []) :
  fin Tryz.prog [.cell 4 45, .tmp 5] h.length (R38 h cs vc e er) = some (.tup [.agg r, .v (.int .i64 er)], h) := by
 obtain ⟨ek, en, ed, eu, el⟩ := e
 rcases hv with ⟨rfl, rfl⟩ | ⟨⟨fk, fn, fd, fu, fl⟩, rfl, rfl⟩
 ·unfold zeroX
  simp only [R38, valC_eq, xsC_nil, vZ, xC_eq, go_sem]
  all_goals rfl
 ·simp only [R38, valC_eq, valY_eq, xC_eq, go_sem]
  all_goals rfl
theorem f38 (hlo : lo <= h.length) (hn : nodesL l <= n) (hl : nodesL l <= 2000000) (ho : okWL l) : E lo 38 [.agg (cellsP nm k dn low ws ck a b w), .list .no (rowsC l)] h = some (.tup [.agg (numV (numP k low n l)).1, .v (.int .i64 (numV (numP k low n l)).2)], h) := by
 cases hk : k == 3 with
 | true =>
  have e : numP k low n l = none := by unfold numP; rw [if_pos hk]
  rw [e]
  exact f38a hlo hk
 | false =>
  cases hz : (k == 1 && zeroB l) with
  | true =>
   have e : numP k low n l = some (.mk 1 0 1 1 []) := by unfold numP; rw [if_neg (by rw [hk]; simp), if_pos hz]
   rw [e]
   rw [Bool.and_eq_true] at hz
   exact f38b hlo hk hz.1 hz.2
  | false =>
   obtain ⟨e, hr⟩ := p38r (nm := nm) (dn := dn) (low := low) (ws := ws) (ck := ck) (a := a) (b := b) (w := w) hlo hn hl ho hk
   have hp := p38 (nm := nm) (dn := dn) (low := low) (ws := ws) (ck := ck) (a := a) (b := b) (w := w) (l := l) hlo hk hz
   unfold numP
   rw [if_neg (by rw [hk]; simp), if_neg (by rw [hz]; simp), e38 (by simp) (by rfl), pc_in, pc_go _ _ _ _ 0 6, hp, pc_go _ _ _ _ _ 20, hr]
   by_cases c1 : ((parseX n l).2 != 0) = true
   ·rw [if_pos c1, if_pos c1, R38, pc_r]; exact fin38 (.inl ⟨rfl, rfl⟩)
   ·rw [if_neg c1, if_neg c1]
    by_cases c2 : ((kindE (parseX n l).1).1 != (if (k == 1) = true then 2 else 1)) = true
    ·rw [if_pos c2, if_pos c2, R38, pc_r]; exact fin38 (.inl ⟨rfl, rfl⟩)
    ·rw [if_neg c2, if_neg c2]
     by_cases c3 : (!low && ((parseX n l).1.k == 1 && decide (xNum (parseX n l).1 < 0))) = true
     ·rw [if_pos c3, if_pos c3, R38, pc_r]; exact fin38 (.inl ⟨rfl, rfl⟩)
     ·rw [if_neg c3, if_neg c3, R38, pc_r]; exact fin38 (.inr ⟨_, rfl, rfl⟩)
end
end Go.Lift.V1
end

section
open Go.Proofs
namespace Go.Lift.V1
open Rul
variable {lo : Nat} {h : Heap}
theorem lim48 {n : Nat} (h : n <= 1000000000) : (n + 1) * 48 <= 140737488355328 := by omega
theorem lim32 {n : Nat} (h : n <= 1000000000) : (n + 1 + 1) * 32 <= 140737488355328 := by omega
theorem limA {n : Nat} (h : n <= 1000000000) : n <= 9223372036854775806 := by omega
theorem limB {n : Nat} (h : n <= 1000000000) : n + 1 + 1 <= 9223372036854775807 := by omega
def plC : List (List CV × Int) -> List V
 | [] => []
 | p :: r => .list .no (rowsC p.1) :: .v (.int .i64 p.2) :: plC r
theorem plC_len : ∀ l, (plC l).length = l.length * 2
 | [] => rfl
 | p :: r => by simp [plC, plC_len r]; omega
theorem plC_app : ∀ l m, plC (l ++ m) = plC l ++ plC m
 | [], m => rfl
 | p :: r, m => by simp [plC, plC_app r m]
theorem plC_ok (n : Nat) : ∀ l, (plC l).all (okv n) = true
 | [] => rfl
 | p :: r => by simp only [plC, List.all_cons, plC_ok n r]; rfl
theorem plC_stk (n : Nat) : ∀ l, (plC l).all (stkC n) = true
 | [] => rfl
 | p :: r => by simp only [plC, List.all_cons, plC_stk n r]; rfl
theorem plC_at0 (f : List (List CV × Int)) (p : List CV × Int) (r : List (List CV × Int)) : (plC (f ++ p :: r))[f.length * 2]? = some (.list .no (rowsC p.1)) := by
 rw [plC_app, List.getElem?_append_right (by rw [plC_len]; omega), plC_len, Nat.sub_self]
 rfl
theorem plC_at1 (f : List (List CV × Int)) (p : List CV × Int) (r : List (List CV × Int)) : (plC (f ++ p :: r))[f.length * 2 + 1]? = some (.v (.int .i64 p.2)) := by
 rw [plC_app, List.getElem?_append_right (by rw [plC_len]; omega), plC_len, Nat.add_sub_cancel_left]
 rfl
theorem plC_set (f : List (List CV × Int)) (p : List CV × Int) (r : List (List CV × Int)) (l : List CV) : (plC (f ++ p :: r)).set (f.length * 2) (.list .no (rowsC l)) = plC (f ++ (l, p.2) :: r) := by
 rw [plC_app, List.set_append, if_neg (by rw [plC_len]; omega), plC_len, Nat.sub_self, plC_app]
 rfl
theorem plC_take (f r : List (List CV × Int)) : (plC (f ++ r)).take (f.length * 2) = plC f := by
 rw [plC_app, <- plC_len, List.take_left]
abbrev N36f (h : Heap) (out : List Tk4) (n : Nat) (ex : Env) : Env := (3, .list .yes (out.map row)) :: (4, .stk h.length n 2) :: ex
def Ex36f (ex : Env) : Prop := ex = [] \/ ∃ p c b, ex = [(6, p), (7, c), (73, b)]
theorem row_bare (out : List Tk4) (c : Int) : out.map row ++ [[V.v (Value.int IntKind.i64 c), V.v (Value.string ByteArray.empty), V.v (Value.int IntKind.i64 0), V.v (Value.int IntKind.i64 0), V.v (Value.bool false), V.v (Value.bool false)]] = (out ++ [Rul.bare c]).map row := by
 rw [List.map_append]
 rfl
theorem done24 {fs js : List (List CV × Int)} {c : Int} {Y : Heap} {out : List Tk4} {ex : Env} (hlo : lo <= h.length) (hn : fs.length <= 1000000000000000000) (ho : out.length <= 1000000000) (he : Ex36f ex) :
  evCode ⟨Tryz.prog, E, lo, h.length, h36⟩ loopW l36x0 (N36f h out (fs.length + 1) ex, h ++ .cells (plC (fs ++ ([], c) :: js)) :: Y) =
   some (.normal, N36f h (out ++ (if 0 < c then [Rul.bare c] else [])) fs.length [], h ++ [.cells (plC (fs ++ ([], c) :: js))]) := by
 have hgr := plC_at0 fs ([], c) js
 have hgc := plC_at1 fs ([], c) js
 have hok := plC_ok (h.length + 1) (fs ++ ([], c) :: js)
 have hlt : h.length < h.length + 1 := by omega
 have hle : fs.length <= fs.length + 1 := by omega
 generalize plC (fs ++ ([], c) :: js) = C at *
 rw [rowsC_nil] at hgr
 have q : decide ((0 : Int) < ((fs.length + 1 : Nat) : Int)) = true := by rw [decide_eq_true_iff]; omega
 have w1 : IntKind.i64.wrap (((fs.length + 1 : Nat) : Int) - 1) = (fs.length : Int) := by rw [wrap_i64 (by omega) (by omega)]; omega
 have a1 : (0 : Int) <= (fs.length : Int) /\ (fs.length : Int) < ((fs.length + 1 : Nat) : Int) := by omega
 have ra := row_all out
 have o1 : (out.length + 1) * 48 <= 140737488355328 := lim48 ho
 have o2 : out.length <= 9223372036854775806 := limA ho
 have q3 : (((0 : Nat) : Int) == 0) = true := rfl
 by_cases hc : 0 < c
 ·have qc : decide (0 < c) = true := by simpa using hc
  rw [if_pos hc]
  rcases he with rfl | ⟨x, y, b, rfl⟩
  ·simp only [go_sem, l36x0, b36, Tryz.f36, hlo, hlt, hle, q, q3, w1, a1, hgr, hgc, hok, ra, o1, o2, qc, row_bare, List.length_map]
   all_goals rfl
  ·simp only [go_sem, l36x0, b36, Tryz.f36, hlo, hlt, hle, q, q3, w1, a1, hgr, hgc, hok, ra, o1, o2, qc, row_bare, List.length_map]
   all_goals rfl
 ·have qc : decide (0 < c) = false := by simpa using hc
  rw [if_neg hc, List.append_nil]
  rcases he with rfl | ⟨x, y, b, rfl⟩
  ·simp only [go_sem, l36x0, b36, Tryz.f36, hlo, hlt, hle, q, q3, w1, a1, hgr, hgc, hok, qc, List.length_map]
   all_goals rfl
  ·simp only [go_sem, l36x0, b36, Tryz.f36, hlo, hlt, hle, q, q3, w1, a1, hgr, hgc, hok, qc, List.length_map]
   all_goals rfl
theorem row_put (out : List Tk4) (t : Tk4) : out.map row ++ [[V.v (Value.int IntKind.i64 t.k), V.v (Value.string (Rul.bs t.b)), V.v (Value.int IntKind.i64 t.n), V.v (Value.int IntKind.i64 t.d), V.v (Value.bool t.w), V.v (Value.bool t.i)]] = (out ++ [t]).map row := by
 rw [List.map_append]
 rfl
theorem val24 {fs js : List (List CV × Int)} {l ks : List CV} {t : Tk4} {c : Int} {Y : Heap} {out : List Tk4} {ex : Env} (hlo : lo <= h.length) (hn : fs.length <= 1000000000) (ho : out.length <= 1000000000) (he : Ex36f ex) :
  ∃ ex' Y', Ex36f ex' /\ evCode ⟨Tryz.prog, E, lo, h.length, h36⟩ loopW l36x0 (N36f h out (fs.length + 1) ex, h ++ .cells (plC (fs ++ (.mk t ks :: l, c) :: js)) :: Y) =
   if (decide (closer t.k = 0) && ks.isEmpty) = true then some (.normal, N36f h (out ++ [t]) (fs.length + 1) ex', h ++ .cells (plC (fs ++ (l, c) :: js)) :: Y')
   else some (.normal, N36f h (out ++ [t]) (fs.length + 1 + 1) ex', h ++ .cells (plC (fs ++ [(l, c), (ks, closer t.k)])) :: Y') := by
 have hgr := plC_at0 fs (.mk t ks :: l, c) js
 have hgc := plC_at1 fs (.mk t ks :: l, c) js
 have hok := plC_ok (h.length + 1) (fs ++ (.mk t ks :: l, c) :: js)
 have hst := plC_set fs (.mk t ks :: l, c) js l
 have htk : (plC (fs ++ (l, c) :: js)).take ((fs.length + 1) * 2) = plC (fs ++ [(l, c)]) := by
  have e : fs ++ (l, c) :: js = (fs ++ [(l, c)]) ++ js := by simp
  rw [e, <- plC_take (fs ++ [(l, c)]) js, List.length_append]
  rfl
 have hC : fs.length * 2 + 1 <= (plC (fs ++ (.mk t ks :: l, c) :: js)).length := by rw [plC_len]; simp; omega
 have hsk := plC_stk h.length (fs ++ [(l, c)])
 have hln : (fs.length + 1) * 2 <= (plC (fs ++ (l, c) :: js)).length := by rw [plC_len]; simp; omega
 have hpp : plC (fs ++ [(l, c)]) ++ [.list .no (rowsC ks), .v (.int .i64 (closer t.k))] = plC (fs ++ [(l, c), (ks, closer t.k)]) := by
  rw [plC_app, plC_app, List.append_assoc]
  rfl
 have hlt : h.length < h.length + 1 := by omega
 have hle : fs.length <= fs.length + 1 := by omega
 generalize plC (fs ++ (.mk t ks :: l, c) :: js) = C at *
 generalize plC (fs ++ (l, c) :: js) = D at *
 generalize plC (fs ++ [(l, c)]) = F at *
 simp only [rowsC_cons, rowV_eq, rowsC_nil] at hgr
 have q : decide ((0 : Int) < ((fs.length + 1 : Nat) : Int)) = true := by rw [decide_eq_true_iff]; omega
 have w1 : IntKind.i64.wrap (((fs.length + 1 : Nat) : Int) - 1) = (fs.length : Int) := by rw [wrap_i64 (by omega) (by omega)]; omega
 have a1 : (0 : Int) <= (fs.length : Int) /\ (fs.length : Int) < ((fs.length + 1 : Nat) : Int) := by omega
 have ra := row_all out
 have q3 : (((l.length + 1 : Nat) : Int) == 0) = false := by rw [beq_eq_false_iff_ne]; omega
 have c46 := fun lo hlo => f58 (lo := lo) (h := h ++ [.cells D, .cells (rowV (.mk t ks))]) hlo t.k
 rw [rowV_eq] at c46
 have c46a := c46 lo (by simp; omega); have c46b := c46 h.length (by simp); have c46c := c46 (h.length + 1) (by simp); have c46d := c46 (h.length + 2) (by simp)
 clear c46
 have hcl := closer_nn t.k
 have hlo1 : lo <= h.length + 1 := by omega
 have rl := rowsC_all l
 have tl : (rowsC l).take l.length = rowsC l := by rw [<- rowsC_len l, List.take_length]
 have hne : 0 < closer t.k -> ¬ (decide (closer t.k = 0) && ks.isEmpty) = true := fun hc => by rw [show decide (closer t.k = 0) = false by rw [decide_eq_false_iff_not]; omega, Bool.false_and]; simp
 have o1 : (out.length + 1) * 48 <= 140737488355328 := lim48 ho
 have o2 : out.length <= 9223372036854775806 := limA ho
 have o3 : (fs.length + 1 + 1) * 32 <= 140737488355328 := lim32 hn
 have o4 : fs.length + 1 + 1 <= 9223372036854775807 := limB hn
 by_cases hc : 0 < closer t.k
 ·have qc : decide (0 < closer t.k) = true := by simpa using hc
  refine ⟨[], [.cells (rowV (.mk t ks))], .inl rfl, ?_⟩
  rw [if_neg (hne hc), rowV_eq]
  rcases he with rfl | ⟨x, y, b, rfl⟩
  ·simp only [go_sem, l36x0, b36, Tryz.f36, hlo, hlo1, rl, tl, Nat.le_refl, hC, hlt, hle, q, q3, w1, a1, hgr, hgc, hok, ra, o1, o2, o3, o4, hst, htk, hsk, hln, hpp, qc, c46a, c46b, c46c, c46d, row_put, List.length_map, rowsC_len, List.length_cons]
   all_goals rfl
  ·simp only [go_sem, l36x0, b36, Tryz.f36, hlo, hlo1, rl, tl, Nat.le_refl, hC, hlt, hle, q, q3, w1, a1, hgr, hgc, hok, ra, o1, o2, o3, o4, hst, htk, hsk, hln, hpp, qc, c46a, c46b, c46c, c46d, row_put, List.length_map, rowsC_len, List.length_cons]
   all_goals rfl
 ·have qc : decide (0 < closer t.k) = false := by simpa using hc
  have q0 : decide (closer t.k = 0) = true := by rw [decide_eq_true_iff]; omega
  rw [q0, Bool.true_and]
  cases ks with
  | nil =>
   refine ⟨[(6, .ptr (h.length + 1) 0), (7, .v (.int .i64 (closer t.k))), (73, .v (.bool false))], [.cells (rowV (.mk t []))], .inr ⟨_, _, _, rfl⟩, ?_⟩
   have q4 : decide ((0 : Int) < ((0 : Nat) : Int)) = false := rfl
   rw [if_pos (show ([] : List CV).isEmpty = true from rfl), rowV_eq]
   rcases he with rfl | ⟨x, y, b, rfl⟩
   ·simp only [go_sem, l36x0, b36, Tryz.f36, hlo, hlo1, rl, tl, Nat.le_refl, hC, hlt, hle, q, q3, q4, w1, a1, hgr, hgc, hok, ra, o1, o2, o3, o4, hst, htk, hsk, hln, hpp, qc, c46a, c46b, c46c, c46d, row_put, List.length_map, rowsC_len, List.length_cons, List.length_nil]
    all_goals rfl
   ·simp only [go_sem, l36x0, b36, Tryz.f36, hlo, hlo1, rl, tl, Nat.le_refl, hC, hlt, hle, q, q3, q4, w1, a1, hgr, hgc, hok, ra, o1, o2, o3, o4, hst, htk, hsk, hln, hpp, qc, c46a, c46b, c46c, c46d, row_put, List.length_map, rowsC_len, List.length_cons, List.length_nil]
    all_goals rfl
  | cons z ks =>
   refine ⟨[], [.cells (rowV (.mk t (z :: ks)))], .inl rfl, ?_⟩
   have q4 : decide ((0 : Int) < ((ks.length + 1 : Nat) : Int)) = true := by rw [decide_eq_true_iff]; omega
   rw [if_neg (show ¬ (z :: ks).isEmpty = true by simp), rowV_eq]
   rcases he with rfl | ⟨x, y, b, rfl⟩
   ·simp only [go_sem, l36x0, b36, Tryz.f36, hlo, hlo1, rl, tl, Nat.le_refl, hC, hlt, hle, q, q3, q4, w1, a1, hgr, hgc, hok, ra, o1, o2, o3, o4, hst, htk, hsk, hln, hpp, qc, c46a, c46b, c46c, c46d, row_put, List.length_map, rowsC_len, List.length_cons]
    all_goals rfl
   ·simp only [go_sem, l36x0, b36, Tryz.f36, hlo, hlo1, rl, tl, Nat.le_refl, hC, hlt, hle, q, q3, q4, w1, a1, hgr, hgc, hok, ra, o1, o2, o3, o4, hst, htk, hsk, hln, hpp, qc, c46a, c46b, c46c, c46d, row_put, List.length_map, rowsC_len, List.length_cons]
    all_goals rfl
def clT (c : Int) : List Tk4 := if 0 < c then [Rul.bare c] else []
theorem flatL_cons (t : Tk4) (ks r : List CV) : flatL (.mk t ks :: r) = t :: (flatL ks ++ (clT (closer t.k) ++ flatL r)) := by
 rw [flatL, flatV]
 unfold clT
 have hcl := closer_nn t.k
 by_cases hc : closer t.k = 0
 ·rw [if_pos hc, if_neg (by omega)]; simp
 ·rw [if_neg hc, if_pos (by omega)]; simp
theorem flatL_nil : flatL [] = [] := by rw [flatL]
theorem place24 (hlo : lo <= h.length) : ∀ (n : Nat) (l : List CV), nodesL l <= n -> ∀ (fs js : List (List CV × Int)) (c : Int) (Y : Heap) (out : List Tk4) (ex : Env), Ex36f ex -> fs.length + nodesL l <= 1000000000 -> out.length + 2 * nodesL l <= 1000000000 ->
  ∃ js', loopW (evCode ⟨Tryz.prog, E, lo, h.length, h36⟩ loopW l36x0) (N36f h out (fs.length + 1) ex, h ++ .cells (plC (fs ++ (l, c) :: js)) :: Y) =
   loopW (evCode ⟨Tryz.prog, E, lo, h.length, h36⟩ loopW l36x0) (N36f h (out ++ (flatL l ++ clT c)) fs.length [], h ++ [.cells (plC (fs ++ js'))]) := by
 intro n
 induction n with
 | zero =>
  intro l hl fs js c Y out ex he hf ho
  have : l = [] := by
   have := nodesL_len l
   exact List.eq_nil_of_length_eq_zero (by omega)
  subst this
  refine ⟨([], c) :: js, ?_⟩
  rw [loop_eq, done24 hlo (by omega) (by omega) he, loop_n, flatL_nil, List.nil_append]
  rfl
 | succ n ih =>
  intro l hl fs js c Y out ex he hf ho
  cases l with
  | nil =>
   refine ⟨([], c) :: js, ?_⟩
   rw [loop_eq, done24 hlo (by omega) (by omega) he, loop_n, flatL_nil, List.nil_append]
   rfl
  | cons v r =>
   obtain ⟨t, ks⟩ := v
   rw [nodesL_cons, nodesV] at hl hf ho
   obtain ⟨ex', Y', he', hr⟩ := val24 (js := js) (l := r) (ks := ks) (t := t) (c := c) (Y := Y) (out := out) hlo (by omega : fs.length <= 1000000000) (by omega) he
   rw [flatL_cons]
   by_cases hq : (decide (closer t.k = 0) && ks.isEmpty) = true
   ·rw [if_pos hq] at hr
    simp only [Bool.and_eq_true, decide_eq_true_eq, List.isEmpty_iff] at hq
    obtain ⟨hq, rfl⟩ := hq
    obtain ⟨js', h1⟩ := ih r (by omega) fs js c Y' (out ++ [t]) ex' he' (by omega) (by simp only [List.length_append, List.length_cons, List.length_nil]; omega)
    refine ⟨js', ?_⟩
    rw [loop_eq, hr, loop_n, h1, hq, flatL_nil]
    have : clT 0 = [] := rfl
    rw [this]
    simp only [List.append_assoc, List.nil_append, List.cons_append]
   ·rw [if_neg hq] at hr
    have e1 : fs ++ [(r, c), (ks, closer t.k)] = (fs ++ [(r, c)]) ++ (ks, closer t.k) :: [] := by simp
    have e2 : fs.length + 1 = (fs ++ [(r, c)]).length := by simp
    obtain ⟨js1, h1⟩ := ih ks (by omega) (fs ++ [(r, c)]) [] (closer t.k) Y' (out ++ [t]) ex' he' (by simp only [List.length_append, List.length_cons, List.length_nil]; omega) (by simp only [List.length_append, List.length_cons, List.length_nil]; omega)
    have hfl := flatL_len ks
    have hcl : (clT (closer t.k)).length <= 1 := by unfold clT; split <;> simp
    obtain ⟨js2, h2⟩ := ih r (by omega) fs js1 c [] (out ++ [t] ++ (flatL ks ++ clT (closer t.k))) [] (.inl rfl) (by omega) (by simp only [List.length_append, List.length_cons, List.length_nil]; omega)
    refine ⟨js2, ?_⟩
    rw [loop_eq, hr, loop_n, e1]
    rw [<- e2] at h1
    rw [h1]
    have e3 : (fs ++ [(r, c)]) ++ js1 = fs ++ (r, c) :: js1 := by simp
    rw [e3, h2]
    simp only [List.append_assoc, List.nil_append, List.cons_append]
theorem stop36 {js : List (List CV × Int)} {out : List Tk4} (hlo : lo <= h.length) : evCode ⟨Tryz.prog, E, lo, h.length, h36⟩ loopW l36x0 (N36f h out 0 [], h ++ [.cells (plC js)]) =
   some (.exit 0, N36f h out 0 [(13, .v (.bool false))], h ++ [.cells (plC js)]) := by
 have q : decide ((0 : Int) < ((0 : Nat) : Int)) = false := rfl
 have hok := plC_ok (h.length + 1) js
 have hlt : h.length < h.length + 1 := by omega
 simp only [go_sem, l36x0, b36, Tryz.f36, hlo, q, hok, hlt]
 all_goals rfl
theorem f36 {l : List CV} (hlo : lo <= h.length) (hl : nodesL l <= 100000000) : E lo 36 [.list .no (rowsC l)] h = some (.list .no ((flatL l).map row), h) := by
 obtain ⟨js, hL⟩ := place24 hlo (nodesL l) l (Nat.le_refl _) [] [] 0 [] [] [] (.inl rfl) (by simp; omega) (by simp; omega)
 rw [loop_eq (s := (N36f h _ ([] : List (List CV × Int)).length _, _)), List.length_nil, List.nil_append js, stop36 hlo, loop_e] at hL
 have e : clT 0 = [] := rfl
 rw [e, List.append_nil, List.nil_append] at hL
 have e2 : plC [(l, 0)] = [.list .no (rowsC l), .v (.int .i64 0)] := rfl
 rw [e2] at hL
 rw [e36 (by simp) (by rfl)]
 simp only [l36x0, b36, Tryz.f36, loopAt, loops, bodyOf, go_sem, N36f, List.map_nil, List.cons_append, List.nil_append, Nat.zero_add] at hL
 have nb : ((1 : Nat) != 0) = true := rfl
 have rl := rowsC_all l
 simp only [go_sem, b36, Tryz.f36, hlo, hL, nb, rl]
 all_goals rfl
end Go.Lift.V1
end

section
open Go.Proofs
namespace Go.Lift.V1
open Rul
open Utf (By)
variable {lo : Nat} {h : Heap}
theorem stop41 {l : List CV} : evCode (X41 lo h) loopW l41x0 (N41 l l.length, h) = some (.exit 0, N41 l l.length ++ [(9, .v (.bool false))], h) := by
 have q1 : decide ((l.length : Int) < (l.length : Int)) = false := by simp
 simp only [go_sem, l41x0, b41, Tryz.f41, q1]
 all_goals rfl
theorem loop41 {l : List CV} (hlo : lo <= h.length) (hl : l.length <= 1000000000) (hc : ∀ v ∈ l, V22 v) : ∀ (m k : Nat), k + m = l.length -> ∃ j : Nat,
  loopW (evCode (X41 lo h) loopW l41x0) (N41 l k, h) = if varL (l.drop k) = true then some (.ret, [(4, .v (.int .i64 j))], h) else some (.exit 0, N41 l l.length ++ [(9, .v (.bool false))], h)
 | 0, k, hk => by
  have e : k = l.length := by omega
  subst e
  refine ⟨0, ?_⟩
  rw [List.drop_length, varL, if_neg (by simp), loop_eq, stop41, loop_e]
 | m + 1, k, hk => by
  have hlt : k < l.length := by omega
  obtain ⟨v, hg⟩ : ∃ v, l[k]? = some v := ⟨l[k], List.getElem?_eq_getElem hlt⟩
  have hd : l.drop k = v :: l.drop (k + 1) := by
   rw [List.drop_eq_getElem_cons hlt]
   rw [List.getElem?_eq_getElem hlt] at hg
   rw [Option.some.inj hg]
  have hm : v ∈ l := List.mem_of_getElem? hg
  have hr := r41 (lo := lo) (h := h) hlo hl hg (hc v hm)
  obtain ⟨j, hj⟩ := loop41 hlo hl hc m (k + 1) (by omega)
  rw [hd, varL]
  cases hv : varV v with
  | true =>
   rw [if_pos hv] at hr
   refine ⟨k, ?_⟩
   rw [loop_eq, hr, loop_r, Bool.true_or, if_pos rfl]
  | false =>
   rw [if_neg (by simp [hv])] at hr
   refine ⟨j, ?_⟩
   rw [loop_eq, hr, loop_n, Bool.false_or]
   exact hj
theorem f41 {l : List CV} (hlo : lo <= h.length) (hl : l.length <= 1000000000) (hc : ∀ v ∈ l, V22 v) : ∃ j : Nat, E lo 41 [.list .no (rowsC l), .fn 22 []] h = some (.v (.int .i64 (if varL l = true then (j : Int) else -1)), h) := by
 obtain ⟨j, hj⟩ := loop41 (lo := lo) (h := h) hlo hl hc l.length 0 (by omega)
 refine ⟨j, ?_⟩
 rw [List.drop_zero] at hj
 have n0 : ((0 : Nat) : Int) = 0 := rfl
 rw [e41 (by simp) (by rfl)]
 cases hv : varL l with
 | true =>
  rw [hv, if_pos rfl] at hj
  simp only [l41x0, b41, Tryz.f41, loopAt, loops, bodyOf, go_sem, N41, X41, n0] at hj
  simp only [go_sem, b41, Tryz.f41, hlo, hj, rowsC_len, n0]
  all_goals rfl
 | false =>
  rw [hv, if_neg (by simp)] at hj
  simp only [l41x0, b41, Tryz.f41, loopAt, loops, bodyOf, go_sem, N41, X41, n0] at hj
  simp only [go_sem, b41, Tryz.f41, hlo, hj, rowsC_len, n0]
  all_goals rfl
theorem f21 {l : List CV} (hlo : lo <= h.length) (hl : l.length <= 1000000000) (hc : ∀ v ∈ l, V22 v) : E lo 21 [.list .no (rowsC l), .fn 22 []] h = some (.v (.bool (varL l)), h) := by
 obtain ⟨j, hj⟩ := f41 (lo := lo) (h := h) hlo hl hc
 obtain ⟨j2, hj2⟩ := f41 (lo := h.length) (h := h) (Nat.le_refl _) hl hc
 rw [e21 (by simp) (by rfl)]
 cases hv : varL l with
 | true =>
  rw [hv, if_pos rfl] at hj hj2
  have q : decide ((j : Int) >= 0) = true := by simp
  have q2 : decide ((j2 : Int) >= 0) = true := by simp
  have q' : decide ((0 : Int) <= j) = true := by simp
  have q2' : decide ((0 : Int) <= j2) = true := by simp
  simp only [go_sem, b21, Tryz.f21, hlo, hj, hj2, q, q2, q', q2']
  all_goals rfl
 | false =>
  rw [hv, if_neg (by simp)] at hj hj2
  simp only [go_sem, b21, Tryz.f21, hlo, hj, hj2]
  all_goals rfl
theorem f7_of {l : List CV} (hl : l.length <= 1000000000) (hc : ∀ v ∈ l, V22 v) : V7 l := by
 intro lo h hlo
 have k1 := f21 (lo := lo) (h := h) hlo hl hc
 have k2 := f21 (lo := h.length) (h := h) (Nat.le_refl _) hl hc
 rw [e7 (by simp) (by rfl)]
 simp only [go_sem, b7, Tryz.f7, hlo, k1, k2]
 all_goals rfl
mutual
theorem cv_ok : ∀ v : CV, okCV v -> V22 v
 | .mk t kids => by
  have ih := cl_ok kids
  intro hs
  rw [okCV] at hs
  exact f22 hs.1.1 hs.1.2.1 (f7_of hs.1.2.2 (ih hs.2))
theorem cl_ok : ∀ l : List CV, okCL l -> ∀ v ∈ l, V22 v
 | [] => fun _ _ h => nomatch h
 | x :: r => by
  have i1 := cv_ok x
  have i2 := cl_ok r
  intro hs v hm
  rw [okCL] at hs
  rcases List.mem_cons.1 hm with rfl | hm
  ·exact i1 hs.1
  ·exact i2 hs.2 v hm
end
theorem f7 {l : List CV} (hlo : lo <= h.length) (hl : l.length <= 1000000000) (hs : okCL l) : E lo 7 [.list .no (rowsC l)] h = some (.v (.bool (varL l)), h) := f7_of hl (cl_ok l hs) lo h hlo
end Go.Lift.V1
end

section
open Go.Proofs
namespace Go.Lift.V1
open Rul
open Utf (By)
variable {lo : Nat} {h : Heap}
theorem okCL_of : ∀ {l : List CV}, okWL l -> nodesL l <= 1000000000 -> okCL l
 | [], _, _ => by rw [okCL]; trivial
 | .mk t kids :: r, ho, hn => by
  rw [okWL, okWV] at ho
  have e := nodesV_eq (.mk t kids)
  rw [show (CV.mk t kids).ks = kids from rfl] at e
  rw [nodesL_cons, e] at hn
  have hk := nodesL_len kids
  rw [okCL, okCV]
  exact ⟨⟨⟨ho.1.1.1, ho.1.1.2.1, by omega⟩, okCL_of ho.1.2 (by omega)⟩, okCL_of ho.2 (by omega)⟩
theorem f7w {l : List CV} (hlo : lo <= h.length) (hl : nodesL l <= 1000000000) (ho : okWL l) : E lo 7 [.list .no (rowsC l)] h = some (.v (.bool (varL l)), h) :=
 f7 hlo (by have := nodesL_len l; omega) (okCL_of ho hl)
noncomputable abbrev X17 (lo : Nat) (h : Heap) : Go.Lift.Cx := ⟨Tryz.prog, E, lo, h.length, h17⟩
section
variable {nm : ByteArray} {k : Int} {dn low kn : Bool} {ws : List ByteArray} {ck a b : Int} {w : ByteArray} {l : List CV} {n : Nat} {name : List Int}
abbrev H17 (h : Heap) (cs : List V) : Heap := h ++ [.cells vZ, .cells cs]
abbrev N17 (h : Heap) (l : List CV) (kn : Bool) (ex : Env) : Env := [(1, .list .no (rowsC l)), (4, .ptr h.length 0), (6, .ptr (h.length + 1) 0), (7, .v (.bool kn))] ++ ex
abbrev R17 (h : Heap) (cs vc : List V) (er : Int) : Option (Ex × Env × Heap) := some (.ret, [(4, .ptr h.length 0), (5, .v (.int .i64 er))], h ++ [.cells vc, .cells cs])
theorem p17a (hlo : lo <= h.length) (hy : By name) (hnl : name.length <= 1000000000) (hl : nodesL l <= 2000000) (ho : okWL l)
  (c12 : ∀ lo h, lo <= h.length -> E lo 12 [.v (.string (Rul.bs name))] h = some (.tup [.agg (cellsP nm k dn low ws ck a b w), .v (.bool kn)], h)) :
  evL (X17 lo h) loopW (pc b17 0 3) (args0 [.v (.string (Rul.bs name)), .list .no (rowsC l)], h) =
   if (!kn && !custR name) = true then R17 h (cellsP nm k dn low ws ck a b w) vZ 10
   else if (!mayL 64 l) = true then R17 h (cellsP nm k dn low ws ck a b w) vZ 1
   else if (!goodL l true) = true then R17 h (cellsP nm k dn low ws ck a b w) vZ 3
   else some (.normal, N17 h l kn [(28, .v (.bool false))], H17 h (cellsP nm k dn low ws ck a b w)) := by
 have l1 : lo <= h.length + 1 := by omega
 have l2 : lo <= h.length + 1 + 1 := by omega
 have c15 := fun lo h hlo => f15 (lo := lo) (h := h) hy hlo (by omega)
 have c32 := fun lo h hlo => f32 (lo := lo) (h := h) (l := l) hlo (by omega)
 have c33 := fun lo h hlo => f33 (lo := lo) (h := h) (l := l) (top := true) hlo (by omega) ho
 simp only [cellsP] at c12
 generalize custR name = cu at c15 ⊢
 generalize mayL 64 l = my at c32 ⊢
 generalize goodL l true = gd at c33 ⊢
 have rest : ∀ (q : (!kn && !cu) = false), evL (X17 lo h) loopW (pc b17 0 3) (args0 [.v (.string (Rul.bs name)), .list .no (rowsC l)], h) = if (!my) = true then R17 h (cellsP nm k dn low ws ck a b w) vZ 1
   else if (!gd) = true then R17 h (cellsP nm k dn low ws ck a b w) vZ 3
   else some (.normal, N17 h l kn [(28, .v (.bool false))], H17 h (cellsP nm k dn low ws ck a b w)) := by
  intro q
  cases kn with
  | true =>
   cases my with
   | false =>
    rw [if_pos (by simp)]
    simp only [X17, R17, vZ, cellsP, go_sem, b17, Tryz.f17, hlo, l1, l2, c12, c32]
    all_goals rfl
   | true =>
    rw [if_neg (by simp)]
    cases gd with
    | false =>
     rw [if_pos (by simp)]
     simp only [X17, R17, vZ, cellsP, go_sem, b17, Tryz.f17, hlo, l1, l2, c12, c32, c33]
     all_goals rfl
    | true =>
     rw [if_neg (by simp)]
     simp only [X17, R17, N17, H17, vZ, cellsP, go_sem, b17, Tryz.f17, hlo, l1, l2, c12, c32, c33]
     all_goals rfl
  | false =>
   cases cu with
   | false => cases q
   | true =>
    cases my with
    | false =>
     rw [if_pos (by simp)]
     simp only [X17, R17, vZ, cellsP, go_sem, b17, Tryz.f17, hlo, l1, l2, c12, c15, c32]
     all_goals rfl
    | true =>
     rw [if_neg (by simp)]
     cases gd with
     | false =>
      rw [if_pos (by simp)]
      simp only [X17, R17, vZ, cellsP, go_sem, b17, Tryz.f17, hlo, l1, l2, c12, c15, c32, c33]
      all_goals rfl
     | true =>
      rw [if_neg (by simp)]
      simp only [X17, R17, N17, H17, vZ, cellsP, go_sem, b17, Tryz.f17, hlo, l1, l2, c12, c15, c32, c33]
      all_goals rfl
 by_cases q : (!kn && !cu) = true
 ·rw [if_pos q]
  cases kn with
  | true => cases q
  | false =>
   cases cu with
   | true => cases q
   | false =>
    simp only [X17, R17, vZ, cellsP, go_sem, b17, Tryz.f17, hlo, l1, l2, c12, c15]
    all_goals rfl
 ·rw [if_neg q]
  exact rest (by simpa using q)
def wordP (l : List CV) : List Int := match l with
 | [.mk t _] => if (t.k == 1) = true then small t.b else []
 | _ => []
theorem p17b {L : List CV} (hlo : lo <= h.length) (hl : nodesL l <= 2000000) (ho : okWL l) (hL : trim l = L) :
  ∃ q : Bool, evL (X17 lo h) loopW (pc b17 3 4) (N17 h l kn [(28, .v (.bool false))], H17 h (cellsP nm k dn low ws ck a b w)) =
   some (.normal, N17 h L kn [(8, .v (.string (Rul.bs (wordP L)))), (45, .v (.bool q))], H17 h (cellsP nm k dn low ws ck a b w)) := by
 have l1 : lo <= h.length + 1 := by omega
 have l2 : lo <= h.length + 1 + 1 := by omega
 have hm : ∀ v ∈ L, okWV v := fun v hv => by rw [<- hL] at hv; exact okWL_mem ho v (trim_mem hv)
 have c34 := fun lo h hlo => f34 (lo := lo) (h := h) (l := l) hlo (by omega)
 rw [hL] at c34
 match L, c34, hm with
 | [], c34, hm =>
  have q1 : (((0 : Nat) : Int) == 1) = false := rfl
  have q1' : ((0 : Int) == 1) = false := rfl
  rw [rowsC_nil] at c34
  refine ⟨false, ?_⟩
  simp only [X17, N17, H17, vZ, cellsP, rowsC_nil, go_sem, b17, Tryz.f17, hlo, l1, l2, c34, q1, q1', List.length_nil]
  all_goals rfl
 | v :: u :: r, c34, hm =>
  have q1 : (((r.length + 1 + 1 : Nat) : Int) == 1) = false := by rw [beq_eq_false_iff_ne]; omega
  rw [rowsC_cons, rowsC_cons] at c34
  refine ⟨false, ?_⟩
  rw [show wordP (v :: u :: r) = [] by obtain ⟨t, ks⟩ := v; rfl]
  simp only [X17, N17, H17, vZ, cellsP, rowsC_cons, go_sem, b17, Tryz.f17, hlo, l1, l2, c34, q1, List.length_cons, rowsC_len]
  all_goals rfl
 | [.mk t kids], c34, hm =>
  have ht : okT t := tok_ok (hm _ (List.mem_singleton.2 rfl))
  have q1 : (((0 + 1 : Nat) : Int) == 1) = true := rfl
  have q1' : ((1 : Int) == 1) = true := rfl
  have c35 := fun lo h hlo => f35 (lo := lo) (h := h) (l := t.b) hlo (by have := ht.2.1; omega) ht.1
  rw [rowsC_cons, rowsC_nil, rowV_eq] at c34
  unfold wordP
  simp only
  cases z1 : t.k == 1 with
  | false =>
   rw [if_neg (by simp)]
   refine ⟨false, ?_⟩
   simp only [X17, N17, H17, vZ, cellsP, rowsC_cons, rowsC_nil, rowV_eq, go_sem, b17, Tryz.f17, hlo, l1, l2, c34, q1, q1', z1, List.length_cons, List.length_nil]
   all_goals rfl
  | true =>
   rw [if_pos rfl]
   refine ⟨true, ?_⟩
   simp only [X17, N17, H17, vZ, cellsP, rowsC_cons, rowsC_nil, rowV_eq, go_sem, b17, Tryz.f17, hlo, l1, l2, c34, c35, q1, q1', z1, List.length_cons, List.length_nil]
   all_goals rfl
def wInh : List Int := [105, 110, 104, 101, 114, 105, 116]
def wIni : List Int := [105, 110, 105, 116, 105, 97, 108]
def wUns : List Int := [117, 110, 115, 101, 116]
def wideW (b : List Int) : Bool := b == wInh || (b == wIni || b == wUns)
theorem byW {b : List Int} (h : b.all (fun c => decide (0 <= c) && decide (c < 256)) = true) : By b := fun c hc => by
 have := List.all_eq_true.1 h c hc
 simp only [Bool.and_eq_true, decide_eq_true_eq] at this
 omega
def valW (kind : Int) (word : ByteArray) : List V := [.v (.int .i64 kind), .v (.int .i64 0), .v (.int .i64 0), .v (.int .i64 0), .v (.int .i64 0), .list .yes [], .v (.string word), .list .yes []]
def valT (toks : List (List V)) : List V := [.v (.int .i64 4), .v (.int .i64 0), .v (.int .i64 0), .v (.int .i64 0), .v (.int .i64 0), .list .yes [], .v (.string ByteArray.empty), .list .no toks]
abbrev M17 (h : Heap) (l : List CV) (wd : List Int) : Env := [(1, .list .no (rowsC l)), (4, .ptr h.length 0), (6, .ptr (h.length + 1) 0), (8, .v (.string (Rul.bs wd))), (75, .v (.bool false))]
theorem p17c {L : List CV} {q : Bool} {wd : List Int} (hlo : lo <= h.length) (hl : nodesL L <= 2000000) (ho : okWL L) (hwd : By wd) (hws : ws.length <= 1000000000) :
  evL (X17 lo h) loopW (pc b17 7 1) (N17 h L kn [(8, .v (.string (Rul.bs wd))), (45, .v (.bool q))], H17 h (cellsP nm k dn low ws ck a b w)) =
   (
    if wideW wd = true then R17 h (cellsP nm k dn low ws ck a b w) (valW 3 (Rul.bs wd)) 0
    else if (!kn || varL L) = true then R17 h (cellsP nm k dn low ws ck a b w) (valT ((flatL L).map row)) 0
    else if (!(wd == []) && hasS ws (Rul.bs wd)) = true then R17 h (cellsP nm k dn low ws ck a b w) (valW 2 (Rul.bs wd)) 0
    else some (.normal, M17 h L wd, H17 h (cellsP nm k dn low ws ck a b w))) := by
 have l1 : lo <= h.length + 1 := by omega
 have l2 : lo <= h.length + 1 + 1 := by omega
 have e1 := bs_beq' hwd (byW (b := wInh) (by decide))
 have e2 := bs_beq' hwd (byW (b := wIni) (by decide))
 have e3 := bs_beq' hwd (byW (b := wUns) (by decide))
 have e4 := bs_beq' hwd (byW (b := []) (by decide))
 rw [show Rul.bs wInh = ⟨#[105, 110, 104, 101, 114, 105, 116]⟩ from rfl] at e1
 rw [show Rul.bs wIni = ⟨#[105, 110, 105, 116, 105, 97, 108]⟩ from rfl] at e2
 rw [show Rul.bs wUns = ⟨#[117, 110, 115, 101, 116]⟩ from rfl] at e3
 rw [show Rul.bs [] = ⟨#[]⟩ from rfl] at e4
 have c7 := fun lo h hlo => f7w (lo := lo) (h := h) (l := L) hlo (by omega) ho
 have c36 := fun lo h hlo => f36 (lo := lo) (h := h) (l := L) hlo (by omega)
 have c37 := fun lo h hlo => f37 (lo := lo) (h := h) (ws := ws) (s := Rul.bs wd) hlo hws
 unfold wideW
 generalize (wd == wInh) = b1 at e1 ⊢
 generalize (wd == wIni) = b2 at e2 ⊢
 generalize (wd == wUns) = b3 at e3 ⊢
 generalize (wd == []) = b4 at e4 ⊢
 generalize varL L = vl at c7 ⊢
 generalize hasS ws (Rul.bs wd) = hs at c37 ⊢
 unfold strsV at c37
 generalize (flatL L).map row = FL at c36 ⊢
 cases b1 with
 | true =>
  rw [if_pos (by simp)]
  simp only [X17, N17, M17, H17, R17, vZ, valW, cellsP, go_sem, b17, Tryz.f17, hlo, l1, l2, e1]
  all_goals rfl
 | false =>
  cases b2 with
  | true =>
   rw [if_pos (by simp)]
   simp only [X17, N17, M17, H17, R17, vZ, valW, cellsP, go_sem, b17, Tryz.f17, hlo, l1, l2, e1, e2]
   all_goals rfl
  | false =>
   cases b3 with
   | true =>
    rw [if_pos (by simp)]
    simp only [X17, N17, M17, H17, R17, vZ, valW, cellsP, go_sem, b17, Tryz.f17, hlo, l1, l2, e1, e2, e3]
    all_goals rfl
   | false =>
    rw [if_neg (by simp)]
    cases kn with
    | false =>
     rw [if_pos (by simp)]
     simp only [X17, N17, M17, H17, R17, vZ, valT, cellsP, go_sem, b17, Tryz.f17, hlo, l1, l2, e1, e2, e3, c36]
     all_goals rfl
    | true =>
     cases vl with
     | true =>
      rw [if_pos (by simp)]
      simp only [X17, N17, M17, H17, R17, vZ, valT, cellsP, go_sem, b17, Tryz.f17, hlo, l1, l2, e1, e2, e3, c7, c36]
      all_goals rfl
     | false =>
      rw [if_neg (by simp)]
      cases b4 with
      | true =>
       rw [if_neg (by simp)]
       simp only [X17, N17, M17, H17, R17, vZ, cellsP, go_sem, b17, Tryz.f17, hlo, l1, l2, e1, e2, e3, e4, c7, Bool.not_true]
       all_goals rfl
      | false =>
       cases hs with
       | true =>
        rw [if_pos (by simp)]
        simp only [X17, N17, M17, H17, R17, vZ, valW, cellsP, go_sem, b17, Tryz.f17, hlo, l1, l2, e1, e2, e3, e4, c7, c37, Bool.not_false]
        all_goals rfl
       | false =>
        rw [if_neg (by simp)]
        simp only [X17, N17, M17, H17, R17, vZ, cellsP, go_sem, b17, Tryz.f17, hlo, l1, l2, e1, e2, e3, e4, c7, c37, Bool.not_false]
        all_goals rfl
theorem numV_cells (o : Option X) : ∃ kd ek en ed eu el, numV o = ([.v (.int .i64 kd), .v (.int .i64 ek), .v (.int .i64 en), .v (.int .i64 ed), .v (.int .i64 eu), .list .no (xsC el), .v (.string ⟨#[]⟩), .list .no []], (numV o).2) := by
 cases o with
 | none => exact ⟨0, 0, 0, 0, 0, [], by unfold numV zeroX; simp only [valC_eq, xsC_nil]⟩
 | some x =>
  obtain ⟨ek, en, ed, eu, el⟩ := x
  exact ⟨1, ek, en, ed, eu, el, by unfold numV; simp only [valC_eq]⟩
theorem p17d {L : List CV} {wd : List Int} (hlo : lo <= h.length) (hn : nodesL L <= n) (hl : nodesL L <= 2000000) (ho : okWL L) :
  evL (X17 lo h) loopW (pc b17 8 2) (M17 h L wd, H17 h (cellsP nm k dn low ws ck a b w)) = R17 h (cellsP nm k dn low ws ck a b w) (numV (numP k low n L)).1 (numV (numP k low n L)).2 := by
 have l1 : lo <= h.length + 1 := by omega
 have l2 : lo <= h.length + 1 + 1 := by omega
 have c38 := fun lo h hlo => f38 (lo := lo) (h := h) (nm := nm) (k := k) (dn := dn) (low := low) (ws := ws) (ck := ck) (a := a) (b := b) (w := w) (l := L) (n := n) hlo hn hl ho
 obtain ⟨kd, ek, en, ed, eu, el, e⟩ := numV_cells (numP k low n L)
 generalize numV (numP k low n L) = r at c38 e ⊢
 obtain ⟨vc, er⟩ := r
 cases e
 simp only [cellsP] at c38 ⊢
 simp only [X17, M17, H17, R17, vZ, go_sem, b17, Tryz.f17, hlo, l1, l2, c38]
 all_goals rfl
theorem fin17 {cs vc : List V} {er : Int} {r : List V} (hc : ∃ nm k dn low ws ck a b w, cs = cellsP nm k dn low ws ck a b w) (hv : vc = vZ /\ r = valC 0 zeroX ⟨#[]⟩ [] \/ (∃ kd wd, vc = valW kd wd /\ r = valC kd zeroX wd []) \/ (∃ toks, vc = valT toks /\ r = valC 4 zeroX ⟨#[]⟩ toks) \/ ∃ o, vc = (numV o).1 /\ r = (numV o).1) :
  fin Tryz.prog [.cell 4 45, .tmp 5] h.length (R17 h cs vc er) = some (.tup [.agg r, .v (.int .i64 er)], h) := by
 obtain ⟨nm, k, dn, low, ws, ck, a, b, w, rfl⟩ := hc
 rcases hv with ⟨rfl, rfl⟩ | ⟨kd, wd, rfl, rfl⟩ | ⟨toks, rfl, rfl⟩ | ⟨o, rfl, rfl⟩
 ·unfold zeroX
  simp only [R17, cellsP, valC_eq, xsC_nil, vZ, go_sem]
  all_goals rfl
 ·unfold zeroX
  simp only [R17, cellsP, valC_eq, xsC_nil, valW, go_sem]
  all_goals rfl
 ·unfold zeroX
  simp only [R17, cellsP, valC_eq, xsC_nil, valT, go_sem]
  all_goals rfl
 ·obtain ⟨kd, ek, en, ed, eu, el, e⟩ := numV_cells o
  rw [e]
  simp only [R17, cellsP, go_sem]
  all_goals rfl
def parseP (kn : Bool) (k : Int) (low : Bool) (ws : List ByteArray) (name : List Int) (n : Nat) (l : List CV) : List V × Int :=
 if (!kn && !custR name) = true then (valC 0 zeroX ⟨#[]⟩ [], 10)
 else if (!mayL 64 l) = true then (valC 0 zeroX ⟨#[]⟩ [], 1)
 else if (!goodL l true) = true then (valC 0 zeroX ⟨#[]⟩ [], 3)
 else if wideW (wordP (trim l)) = true then (valC 3 zeroX (Rul.bs (wordP (trim l))) [], 0)
 else if (!kn || varL (trim l)) = true then (valC 4 zeroX ⟨#[]⟩ ((flatL (trim l)).map row), 0)
 else if (!(wordP (trim l) == []) && hasS ws (Rul.bs (wordP (trim l)))) = true then (valC 2 zeroX (Rul.bs (wordP (trim l))) [], 0)
 else numV (numP k low n (trim l))
theorem by_word {L : List CV} (ho : ∀ v ∈ L, okWV v) : By (wordP L) := by
 match L, ho with
 | [], _ => exact byW (by decide)
 | [.mk t kids], ho =>
  have ht : okT t := tok_ok (ho _ (List.mem_singleton.2 rfl))
  unfold wordP
  simp only
  split
  ·exact by_small' ht.1
  ·exact byW (by decide)
 | .mk t ks :: u :: r, _ =>
  rw [show wordP (.mk t ks :: u :: r) = [] from rfl]
  exact byW (by decide)
theorem f17 (hlo : lo <= h.length) (hy : By name) (hnl : name.length <= 1000000000) (hn : nodesL l <= n) (hl : nodesL l <= 2000000) (ho : okWL l) (hws : ws.length <= 1000000000)
  (c12 : ∀ lo h, lo <= h.length -> E lo 12 [.v (.string (Rul.bs name))] h = some (.tup [.agg (cellsP nm k dn low ws ck a b w), .v (.bool kn)], h)) :
  E lo 17 [.v (.string (Rul.bs name)), .list .no (rowsC l)] h = some (.tup [.agg (parseP kn k low ws name n l).1, .v (.int .i64 (parseP kn k low ws name n l).2)], h) := by
 have htn := nodesL_trim l
 have hot : okWL (trim l) := okWL_of fun v hv => okWL_mem ho v (trim_mem hv)
 have ha := p17a (k := k) (lo := lo) (h := h) hlo hy hnl hl ho c12
 obtain ⟨q, hb⟩ := p17b (lo := lo) (h := h) (nm := nm) (k := k) (dn := dn) (low := low) (kn := kn) (ws := ws) (ck := ck) (a := a) (b := b) (w := w) hlo hl ho rfl
 have hc := p17c (lo := lo) (h := h) (nm := nm) (k := k) (dn := dn) (low := low) (kn := kn) (ws := ws) (ck := ck) (a := a) (b := b) (w := w) (L := trim l) (q := q) (wd := wordP (trim l)) hlo (by omega) hot (by_word (okWL_mem hot)) hws
 have hd := p17d (lo := lo) (h := h) (nm := nm) (k := k) (dn := dn) (low := low) (ws := ws) (ck := ck) (a := a) (b := b) (w := w) (L := trim l) (wd := wordP (trim l)) (n := n) hlo (by omega) (by omega) hot
 have cs : ∃ nm' k' dn' low' ws' ck' a' b' w', cellsP nm k dn low ws ck a b w = cellsP nm' k' dn' low' ws' ck' a' b' w' := ⟨_, _, _, _, _, _, _, _, _, rfl⟩
 unfold parseP
 rw [e17 (by simp) (by rfl), pc_in, pc_go _ _ _ _ 0 3, ha]
 by_cases c1 : (!kn && !custR name) = true
 ·rw [if_pos c1, if_pos c1, R17, pc_r]; exact fin17 cs (.inl ⟨rfl, rfl⟩)
 rw [if_neg c1, if_neg c1]
 by_cases c2 : (!mayL 64 l) = true
 ·rw [if_pos c2, if_pos c2, R17, pc_r]; exact fin17 cs (.inl ⟨rfl, rfl⟩)
 rw [if_neg c2, if_neg c2]
 by_cases c3 : (!goodL l true) = true
 ·rw [if_pos c3, if_pos c3, R17, pc_r]; exact fin17 cs (.inl ⟨rfl, rfl⟩)
 rw [if_neg c3, if_neg c3, pc_go _ _ _ _ _ 4, hb, pc_go _ _ _ _ _ 1, hc]
 by_cases c4 : wideW (wordP (trim l)) = true
 ·rw [if_pos c4, if_pos c4, R17, pc_r]; exact fin17 cs (.inr (.inl ⟨_, _, rfl, rfl⟩))
 rw [if_neg c4, if_neg c4]
 by_cases c5 : (!kn || varL (trim l)) = true
 ·rw [if_pos c5, if_pos c5, R17, pc_r]; exact fin17 cs (.inr (.inr (.inl ⟨_, rfl, rfl⟩)))
 rw [if_neg c5, if_neg c5]
 by_cases c6 : (!(wordP (trim l) == []) && hasS ws (Rul.bs (wordP (trim l)))) = true
 ·rw [if_pos c6, if_pos c6, R17, pc_r]; exact fin17 cs (.inr (.inl ⟨_, _, rfl, rfl⟩))
 rw [if_neg c6, if_neg c6, pc_go _ _ _ _ _ 2, hd, R17, pc_r]
 exact fin17 cs (.inr (.inr (.inr ⟨_, rfl, rfl⟩)))
end
end Go.Lift.V1
end

section
open Go.Proofs
namespace Go.Lift.V1
open Rul
open Utf (By)
variable {lo : Nat} {h : Heap}
def P39 (x : X) : Prop := ∀ (lo : Nat) (h : Heap), lo <= h.length -> E lo 39 [.agg (xC x), .agg (xC x)] h = some (.v (.bool true), h)
abbrev N39 (h : Heap) (m i : Int) : Env := [(2, .ptr h.length 0), (3, .ptr (h.length + 1) 0), (36, .v (.int .i64 m)), (37, .v (.int .i64 i))]
section
variable {k n d u : Int} {kids : List X}
theorem r39 {x : X} {i : Nat} (hlo : lo <= h.length) (hl : kids.length <= 100000000) (hg : kids[i]? = some x) (hx : P39 x) :
  evCode ⟨Tryz.prog, E, lo, h.length, h39⟩ loopW l39x0 (N39 h kids.length i, h ++ [.cells (xC (.mk k n d u kids)), .cells (xC (.mk k n d u kids))]) = some (.normal, N39 h kids.length (i + 1 : Nat), h ++ [.cells (xC (.mk k n d u kids)), .cells (xC (.mk k n d u kids))]) := by
 have l1 : lo <= h.length + 1 := by omega
 have l2 : lo <= h.length + 1 + 1 := by omega
 have hlt : i < kids.length := (List.getElem?_eq_some_iff.1 hg).1
 have hgr : (xsC kids)[i]? = some (xC x) := by rw [xsC_get, hg]; rfl
 have q1 : decide ((i : Int) < (kids.length : Int)) = true := by rw [decide_eq_true_iff]; omega
 have t1 : Int.toNat (i : Int) = i := by omega
 have hwr : IntKind.i64.wrap ((i : Int) + 1) = ((i + 1 : Nat) : Int) := wrap_succ (by omega)
 unfold P39 at hx
 obtain ⟨ek, en, ed, eu, el⟩ := x
 simp only [xC_eq] at hx hgr ⊢
 simp only [N39, go_sem, l39x0, b39, Tryz.f39, hlo, l1, l2, hgr, q1, t1, hwr, hx, Bool.not_true]
 all_goals rfl
theorem s39 (hlo : lo <= h.length) :
  evCode ⟨Tryz.prog, E, lo, h.length, h39⟩ loopW l39x0 (N39 h kids.length (kids.length : Nat), h ++ [.cells (xC (.mk k n d u kids)), .cells (xC (.mk k n d u kids))]) = some (.exit 0, N39 h kids.length (kids.length : Nat) ++ [(38, .v (.bool false))], h ++ [.cells (xC (.mk k n d u kids)), .cells (xC (.mk k n d u kids))]) := by
 have l1 : lo <= h.length + 1 := by omega
 have q1 : decide ((kids.length : Int) < (kids.length : Int)) = false := by rw [decide_eq_false_iff_not]; omega
 simp only [N39, xC_eq, go_sem, l39x0, b39, Tryz.f39, hlo, l1, q1]
 all_goals rfl
theorem loop39 (hlo : lo <= h.length) (hl : kids.length <= 100000000) (hk : ∀ x ∈ kids, P39 x) : ∀ m i : Nat, i + m = kids.length ->
  loopW (evCode ⟨Tryz.prog, E, lo, h.length, h39⟩ loopW l39x0) (N39 h kids.length i, h ++ [.cells (xC (.mk k n d u kids)), .cells (xC (.mk k n d u kids))]) = some (.exit 0, N39 h kids.length (kids.length : Nat) ++ [(38, .v (.bool false))], h ++ [.cells (xC (.mk k n d u kids)), .cells (xC (.mk k n d u kids))])
 | 0, i, hm => by
  obtain rfl : i = kids.length := by omega
  rw [loop_eq, s39 hlo, loop_e]
 | m + 1, i, hm => by
  have hlt : i < kids.length := by omega
  rw [loop_eq, r39 hlo hl (List.getElem?_eq_getElem hlt) (hk _ (List.getElem_mem hlt)), loop_n]
  exact loop39 hlo hl hk m (i + 1) (by omega)
theorem f39s (hl : kids.length <= 100000000) (hk : ∀ x ∈ kids, P39 x) : P39 (.mk k n d u kids) := by
 intro lo h hlo
 have l1 : lo <= h.length + 1 := by omega
 have l2 : lo <= h.length + 1 + 1 := by omega
 have hL := loop39 (k := k) (n := n) (d := d) (u := u) (lo := lo) (h := h) hlo hl hk kids.length 0 (by omega)
 have e := eq_rat n d n d
 have z1 : (n == n && d == d) = true := by simp
 have z2 : (k != k) = false := by simp
 have z3 : (u != u) = false := by simp
 have z4 : ((kids.length : Int) != (kids.length : Int)) = false := by simp
 rw [z1] at e
 rw [e39 (by simp) (by rfl), xC_eq]
 simp only [l39x0, b39, Tryz.f39, loopAt, loops, bodyOf, N39, xC_eq, show ((0 : Nat) : Int) = 0 from rfl, go_sem] at hL
 simp only [go_sem, b39, Tryz.f39, hlo, l1, l2, xsC_len, fl28, e, z2, z3, z4, hL, Bool.not_true]
 all_goals rfl
end
mutual
theorem f39a : ∀ (x : X), okX x -> P39 x
 | .mk k n d u kids, h => by
  rw [okX] at h
  exact f39s h.2.1 (f39b kids h.2.2)
theorem f39b : ∀ (l : List X), okXs l -> ∀ x ∈ l, P39 x
 | [], _ => fun x hx => nomatch hx
 | y :: r, h => by
  rw [okXs] at h
  exact List.forall_mem_cons.2 ⟨f39a y h.1, f39b r h.2⟩
end
theorem f40 (hlo : lo <= h.length) : E lo 40 [.list .no [], .list .no []] h = some (.v (.bool true), h) := by
 have z4 : ((0 : Int) != 0) = false := rfl
 have q1 : decide ((0 : Int) < 0) = false := rfl
 have hL : loopW (evCode ⟨Tryz.prog, E, lo, h.length, h40⟩ loopW l40x0) ([(0, .list .no []), (1, .list .no []), (12, .v (.int .i64 0)), (13, .v (.int .i64 0))], h) = some (.exit 0, [(0, .list .no []), (1, .list .no []), (12, .v (.int .i64 0)), (13, .v (.int .i64 0)), (14, .v (.bool false))], h) := by
  rw [loop_eq]
  simp only [go_sem, l40x0, b40, Tryz.f40, hlo, q1]
  all_goals rfl
 rw [e40 (by simp) (by rfl)]
 simp only [l40x0, b40, Tryz.f40, loopAt, loops, bodyOf, go_sem] at hL
 simp only [go_sem, b40, Tryz.f40, hlo, z4, hL, List.length_nil]
 all_goals rfl
theorem f19 {kd : Int} {x : X} {word : ByteArray} (hlo : lo <= h.length) (hx : okX x) : E lo 19 [.agg (valC kd x word []), .agg (valC kd x word [])] h = some (.v (.bool true), h) := by
 have l1 : lo <= h.length + 1 := by omega
 have l2 : lo <= h.length + 1 + 1 := by omega
 have c39 := f39a x hx
 unfold P39 at c39
 have c40 := fun lo h hlo => f40 (lo := lo) (h := h) hlo
 have z1 : (kd == kd) = true := by simp
 have z2 : (word.toList == word.toList) = true := by simp
 obtain ⟨ek, en, ed, eu, el⟩ := x
 simp only [xC_eq, valC_eq] at c39 ⊢
 rw [e19 (by simp) (by rfl)]
 simp only [go_sem, b19, Tryz.f19, hlo, l1, l2, c39, c40, z1, z2]
 all_goals rfl
end Go.Lift.V1
end

section
open Go.Proofs
namespace Go.Lift.V1
theorem awk0 : evFun Tryz.prog hints primz0 200 0 10 [] [] = some (.v (.bool true), []) := by kernel_rfl
theorem of0 : evFun Tryz.prog hints primz0 200 0 9 [useT] [] = some (useV, []) := by kernel_rfl
end Go.Lift.V1
end

section
open Go.Proofs
namespace Go.Lift.V1
open Rul
open Utf (By)
variable {lo : Nat} {h : Heap}
theorem f10k (hlo : lo <= h.length) : E lo 10 [] h = some (.v (.bool true), h) := by
 refine (ev_prim (p := memo awkM) rfl).trans ?_
 unfold awkM memo
 rw [if_pos (by kernel_rfl)]
theorem tbl_words : (tblP.all fun p => decide ((Go.Lib.fields p.w.data.toList).length <= 1000000000)) = true := by kernel_rfl
theorem tbl_kinds : (tblP.all fun p => p.k == 1 || (p.k == 2 || p.k == 3)) = true := by kernel_rfl
theorem spec_of (s : ByteArray) : ∃ (nm : ByteArray) (k : Int) (dn low : Bool) (ws : List ByteArray) (ck a b : Int) (w : ByteArray) (kn : Bool), (∀ lo h, lo <= h.length -> E lo 12 [.v (.string s)] h = some (.tup [.agg (cellsP nm k dn low ws ck a b w), .v (.bool kn)], h)) /\
  ws.length <= 1000000000 /\ (kn = true -> k = 1 \/ k = 2 \/ k = 3) := by
 cases hq : atL s tblP 0 with
 | none => exact ⟨⟨#[]⟩, 0, false, false, [], 0, 0, 0, ⟨#[]⟩, false, fun lo h hlo => f12a hlo hq, by simp, fun h => by cases h⟩
 | some i =>
  have hp : ∃ p, tblP[i]? = some p := by
   have key : ∀ (l : List PR) (j i : Nat), atL s l j = some i -> ∃ p, j <= i /\ l[i - j]? = some p := by
    intro l
    induction l with
    | nil => intro j i h; cases h
    | cons q r ih =>
     intro j i h
     unfold atL at h
     split at h
     ·cases h; exact ⟨q, Nat.le_refl _, by simp⟩
     ·obtain ⟨p, h1, h2⟩ := ih (j + 1) i h
      refine ⟨p, by omega, ?_⟩
      rw [show i - j = (i - (j + 1)) + 1 by omega, List.getElem?_cons_succ]
      exact h2
   obtain ⟨p, _, h2⟩ := key tblP 0 i hq
   exact ⟨p, by simpa using h2⟩
  obtain ⟨p, hp⟩ := hp
  have hm := List.mem_of_getElem? hp
  have hw := List.all_eq_true.1 tbl_words p hm
  have hk := List.all_eq_true.1 tbl_kinds p hm
  simp only [Bool.or_eq_true, beq_iff_eq] at hk
  have ep : ∃ a b c d, propP p = cellsP p.n p.k p.d p.l ((Go.Lib.fields p.w.data.toList).map fun l => ⟨l.toArray⟩) a b c d := by
   unfold propP compP cellsP wordsP
   rw [List.map_map]
   split
   ·exact ⟨_, _, _, _, rfl⟩
   ·split
    ·exact ⟨_, _, _, _, rfl⟩
    ·exact ⟨_, _, _, _, rfl⟩
  obtain ⟨a, b, c, d, e⟩ := ep
  exact ⟨p.n, p.k, p.d, p.l, _, a, b, c, d, true, fun lo h hlo => by rw [f12b hlo hq hp, e], by rw [List.length_map]; exact of_decide_eq_true hw, fun _ => hk⟩
section
variable {nm : ByteArray} {k : Int} {dn low kn : Bool} {ws : List ByteArray} {ck a b : Int} {w : ByteArray} {l : List CV} {n : Nat} {name : List Int}
abbrev C17 (name : List Int) (l : List CV) (r : List V) (er : Int) : Prop := ∀ lo h, lo <= h.length -> E lo 17 [.v (.string (Rul.bs name)), .list .no (rowsC l)] h = some (.tup [.agg r, .v (.int .i64 er)], h)
end
theorem var_mem : ∀ {l : List CV}, varL l = true -> ∃ v ∈ l, varV v = true
 | [], h => by rw [varL] at h; cases h
 | v :: r, h => by
  rw [varL, Bool.or_eq_true] at h
  rcases h with h | h
  ·exact ⟨v, List.mem_cons_self .., h⟩
  ·obtain ⟨u, hu, hv⟩ := var_mem h
   exact ⟨u, List.mem_cons_of_mem _ hu, hv⟩
theorem mem_var : ∀ {l : List CV} {v : CV}, v ∈ l -> varV v = true -> varL l = true
 | u :: r, v, hm, hv => by
  rw [varL, Bool.or_eq_true]
  rcases List.mem_cons.1 hm with rfl | hm
  ·exact .inl hv
  ·exact .inr (mem_var hm hv)
theorem var_trim {l : List CV} (h : varL (trim l) = true) : varL l = true := by
 obtain ⟨v, hm, hv⟩ := var_mem h
 exact mem_var (trim_mem hm) hv
theorem num_kind {k : Int} {low : Bool} {n : Nat} {l : List CV} {e : X} (hk : k = 1 \/ k = 2 \/ k = 3) (hl : nodesL l <= 2000000) (ho : okWL l) (h : numP k low n l = some e) :
  okX e /\ ((kindX e == 2) == (k == 1)) = true /\ ((kindX e == 1) == (k == 2)) = true /\ (low || (!(e.k == 1) || decide (xNum e >= 0))) = true := by
 unfold numP at h
 by_cases c0 : (k == 3) = true
 ·rw [if_pos c0] at h; cases h
 rw [if_neg c0] at h
 by_cases c1 : (k == 1 && zeroB l) = true
 ·rw [if_pos c1] at h
  cases h
  rw [Bool.and_eq_true, beq_iff_eq] at c1
  obtain ⟨rfl, _⟩ := c1
  have kz : kindX (.mk 1 0 1 1 []) = 2 := by rw [kindX_eq]; rfl
  refine ⟨by rw [okX, okXs]; exact ⟨by omega, by simp, trivial⟩, by rw [kz]; rfl, by rw [kz]; rfl, ?_⟩
  show (low || (!true || true)) = true
  simp
 rw [if_neg c1] at h
 by_cases c2 : ((parseX n l).2 != 0) = true
 ·rw [if_pos c2] at h; cases h
 rw [if_neg c2] at h
 by_cases c3 : ((kindE (parseX n l).1).1 != (if (k == 1) = true then 2 else 1)) = true
 ·rw [if_pos c3] at h; cases h
 rw [if_neg c3] at h
 by_cases c4 : (!low && ((parseX n l).1.k == 1 && decide (xNum (parseX n l).1 < 0))) = true
 ·rw [if_pos c4] at h; cases h
 rw [if_neg c4] at h
 cases h
 have hx := okX_parse (n := n) hl ho
 generalize (parseX n l).1 = e at *
 have c3' : (kindE e).1 = if (k == 1) = true then 2 else 1 := by simpa using c3
 have hkx : kindX e = if (k == 1) = true then 2 else 1 := by
  unfold kindE at c3'
  split at c3'
  ·split at c3'
   ·exfalso
    revert c3'
    split <;> simp
   ·exact c3'
  ·exfalso
   revert c3'
   split <;> simp
 have k3 : k ≠ 3 := by simpa using c0
 refine ⟨hx, ?_, ?_, ?_⟩
 ·rw [hkx]
  rcases hk with rfl | rfl | rfl
  ·rfl
  ·rfl
  ·exact absurd rfl k3
 ·rw [hkx]
  rcases hk with rfl | rfl | rfl
  ·rfl
  ·rfl
  ·exact absurd rfl k3
 ·cases low with
  | true => rfl
  | false =>
   cases q : e.k == 1 with
   | false => rfl
   | true =>
    rw [q] at c4
    have : ¬ (xNum e < 0) := by simpa using c4
    show (decide (xNum e >= 0)) = true
    rw [decide_eq_true_iff]
    omega
end Go.Lift.V1
end

section
namespace Go.Lift.Rul
def upb (c : Int) : Int := if 97 <= c /\ c <= 122 then c - 32 else c
def upT (t : Tk4) : Tk4 := if (t.k == 1 || (t.k == 2 || t.k == 12)) = true then { t with b := t.b.map upb } else t
def raiseL : Nat -> List CV -> List CV
 | 0, l => l
 | n + 1, l => l.map fun v => .mk (upT v.t) (raiseL n v.ks)
theorem low_up (c : Int) : lowb (upb c) = lowb c := by
 unfold lowb upb
 by_cases h : 97 <= c /\ c <= 122
 ·rw [if_pos h, if_pos (by omega), if_neg (by omega)]; omega
 ·rw [if_neg h]
theorem small_up (b : List Int) : small (b.map upb) = small b := by
 unfold small
 rw [List.map_map]
 exact List.map_congr_left fun c _ => low_up c
theorem upT_k (t : Tk4) : (upT t).k = t.k := by unfold upT; split <;> rfl
theorem upT_n (t : Tk4) : (upT t).n = t.n := by unfold upT; split <;> rfl
theorem upT_d (t : Tk4) : (upT t).d = t.d := by unfold upT; split <;> rfl
theorem upT_small (t : Tk4) : small (upT t).b = small t.b := by
 unfold upT
 split
 ·exact small_up t.b
 ·rfl
theorem upT_delim {t : Tk4} (h : (t.k == 9) = true) : (upT t).b = t.b := by
 unfold upT
 rw [beq_iff_eq] at h
 rw [if_neg (by rw [h]; decide)]
theorem upT_len (t : Tk4) : (upT t).b.length = t.b.length := by
 unfold upT
 split
 ·exact List.length_map _
 ·rfl
theorem raise_len (n : Nat) (l : List CV) : (raiseL n l).length = l.length := by
 cases n with
 | zero => rfl
 | succ n => rw [raiseL, List.length_map]
theorem raise_get (n : Nat) (l : List CV) (i : Nat) : (raiseL (n + 1) l)[i]? = (l[i]?).map fun v => .mk (upT v.t) (raiseL n v.ks) := by rw [raiseL, List.getElem?_map]
theorem raise_k (n : Nat) (v : CV) : (CV.mk (upT v.t) (raiseL n v.ks)).k = v.k := upT_k v.t
theorem raise_space (n : Nat) (v : CV) : spaceC (CV.mk (upT v.t) (raiseL n v.ks)) = spaceC v := by unfold spaceC; rw [raise_k]
theorem map_drop {f : CV -> CV} (hf : ∀ v, spaceC (f v) = spaceC v) : ∀ l : List CV, (l.map f).dropWhile spaceC = (l.dropWhile spaceC).map f
 | [] => rfl
 | v :: r => by
  rw [List.map_cons, List.dropWhile_cons, List.dropWhile_cons, hf v]
  cases spaceC v with
  | true => exact map_drop hf r
  | false => rfl
theorem raise_trim (n : Nat) (l : List CV) : trim (raiseL n l) = raiseL n (trim l) := by
 cases n with
 | zero => rfl
 | succ n =>
  unfold trim
  rw [raiseL, raiseL, map_drop (raise_space n), <- List.map_reverse, map_drop (raise_space n), <- List.map_reverse]
theorem splitA_map {f : CV -> CV} (hk : ∀ v, (f v).k = v.k) (hs : ∀ v, spaceC (f v) = spaceC v) : ∀ (acc l : List CV), splitA (acc.map f) (l.map f) = (splitA acc l).map (List.map f)
 | acc, [] => by
  rw [List.map_nil, splitA, splitA]
  unfold trim
  rw [map_drop hs, <- List.map_reverse, map_drop hs, <- List.map_reverse]
  rfl
 | acc, v :: r => by
  rw [List.map_cons, splitA, splitA, hk v]
  split
  ·have h1 := splitA_map hk hs [] r
   rw [List.map_nil] at h1
   rw [h1, List.map_cons]
   congr 1
   unfold trim
   rw [map_drop hs, <- List.map_reverse, map_drop hs, <- List.map_reverse]
  ·have h1 := splitA_map hk hs (acc ++ [v]) r
   rw [List.map_append] at h1
   exact h1
theorem raise_split (n : Nat) (l : List CV) : splitB (raiseL (n + 1) l) = (splitB l).map (raiseL (n + 1)) := by
 have := splitA_map (f := fun v => .mk (upT v.t) (raiseL n v.ks)) (raise_k n) (raise_space n) [] l
 exact this
theorem skip_raise (n : Nat) (l : List CV) (a : Nat) : skipS (raiseL n l) a = skipS l a := by
 cases n with
 | zero => rfl
 | succ n =>
  have key : ∀ l : List CV, ((l.map fun v => CV.mk (upT v.t) (raiseL n v.ks)).takeWhile spaceC).length = (l.takeWhile spaceC).length := by
   intro l
   induction l with
   | nil => rfl
   | cons v r ih =>
    rw [List.map_cons, List.takeWhile_cons, List.takeWhile_cons, raise_space]
    cases spaceC v with
    | true => rw [if_pos rfl, if_pos rfl, List.length_cons, List.length_cons, ih]
    | false => rfl
  unfold skipS
  rw [raiseL, <- List.map_drop, key]
theorem sign_raise (n : Nat) (l : List CV) (a : Nat) (one other : Int) (apart : Bool) : signP (raiseL n l) a one other apart = signP l a one other apart := by
 cases n with
 | zero => rfl
 | succ n =>
  unfold signP
  rw [skip_raise, raise_get]
  cases hg : l[skipS l a]? with
  | none => rfl
  | some v =>
   simp only [Option.map_some, raise_k, skip_raise]
   by_cases hk : (v.k == 9) = true
   ·rw [if_pos hk, if_pos hk, show (CV.mk (upT v.t) (raiseL n v.ks)).t.b = v.t.b from upT_delim hk]
   ·rw [if_neg hk, if_neg hk]
theorem level_congr {s1 s2 : Nat -> X × Bool × Nat} {g1 g2 : Nat -> Option Bool × Nat} (hs : ∀ a, s1 a = s2 a) (hg : ∀ a, g1 a = g2 a) (k i : Int) (f a : Nat) : levelP s1 g1 k i f a = levelP s2 g2 k i f a := by
 have e1 : s1 = s2 := funext hs
 have e2 : g1 = g2 := funext hg
 rw [e1, e2]
theorem operand_raise {o1 o2 : CV -> X × Bool} {n : Nat} {l : List CV} (ho : ∀ v, o1 (.mk (upT v.t) (raiseL n v.ks)) = o2 v) (a : Nat) : operandP o1 (raiseL (n + 1) l) a = operandP o2 l a := by
 unfold operandP
 rw [raise_get]
 cases hg : l[a]? with
 | none => rfl
 | some v => simp only [Option.map_some, ho]
theorem sum_raise {o1 o2 : CV -> X × Bool} {n : Nat} {l : List CV} (ho : ∀ v, o1 (.mk (upT v.t) (raiseL n v.ks)) = o2 v) (a : Nat) : sumP o1 (raiseL (n + 1) l) a = sumP o2 l a := by
 unfold sumP
 rw [raise_len]
 refine level_congr (fun a => ?_) (fun a => sign_raise ..) _ _ _ _
 unfold productP
 rw [raise_len]
 exact level_congr (operand_raise ho) (fun a => sign_raise ..) _ _ _ _
theorem unit_up (t : Tk4) : unitN (upT t).b = unitN t.b := by unfold unitN; rw [upT_small]
theorem splitX_map {w1 w2 : List CV -> X × Bool} {f : List CV -> List CV} (hw : ∀ p, w1 (f p) = w2 p) : ∀ ps : List (List CV), splitX w1 (ps.map f) = splitX w2 ps
 | [] => rfl
 | p :: r => by
  rw [List.map_cons]
  unfold splitX
  rw [hw p, splitX_map hw r]
theorem expr_raise {w1 w2 : List CV -> X × Bool} {n : Nat} (hw : ∀ l, w1 (raiseL n l) = w2 l) (hn : ∀ l, splitB (raiseL n l) = (splitB l).map (raiseL n)) (v : CV) : exprF w1 (.mk (upT v.t) (raiseL n v.ks)) = exprF w2 v := by
 obtain ⟨t, kids⟩ := v
 show exprF w1 (.mk (upT t) (raiseL n kids)) = _
 have hl : ∀ K, listX K w1 (raiseL n kids) = listX K w2 kids := fun K => by
  unfold listX
  rw [hn, splitX_map hw]
 unfold exprF
 simp only [upT_k, upT_n, upT_d, unit_up, upT_small, hl, hw]
theorem op_raise {w1 w2 : List CV -> X × Bool} {n : Nat} (hw : ∀ l, w1 (raiseL n l) = w2 l) (hn : ∀ l, splitB (raiseL n l) = (splitB l).map (raiseL n)) (v : CV) : opX w1 (.mk (upT v.t) (raiseL n v.ks)) = opX w2 v := by
 unfold opX
 rw [raise_k, expr_raise hw hn]
 show (if (v.k == 21) = true then w1 (raiseL n v.ks) else _) = _
 rw [hw]
theorem split_zero (l : List CV) : splitB (raiseL 0 l) = (splitB l).map (raiseL 0) := by
 show splitB l = (splitB l).map fun l => l
 rw [List.map_id']
theorem split_any (n : Nat) (l : List CV) : splitB (raiseL n l) = (splitB l).map (raiseL n) := by
 cases n with
 | zero => exact split_zero l
 | succ n => exact raise_split n l
theorem whole_raise : ∀ (m n : Nat) (l : List CV), wholeN m (raiseL n l) = wholeN m l
 | 0, _, _ => rfl
 | m + 1, 0, _ => rfl
 | m + 1, n + 1, l => by
  unfold wholeN
  simp only [raise_trim, raise_len]
  rw [sum_raise (o2 := opX (wholeN m)) (op_raise (fun l => whole_raise m n l) (split_any n))]
theorem exprN_raise (m n : Nat) (v : CV) : exprN m (.mk (upT v.t) (raiseL n v.ks)) = exprN m v := expr_raise (fun l => whole_raise m n l) (split_any n) v
end Go.Lift.Rul
end

section
open Go.Proofs
namespace Go.Lift.V1
open Rul
open Utf (By)
theorem may_raise : ∀ (m n : Nat) (l : List CV), mayL m (raiseL n l) = mayL m l
 | m, 0, l => rfl
 | m, n + 1, [] => rfl
 | m, n + 1, v :: r => by
  have ih := may_raise m (n + 1) r
  rw [raiseL] at ih
  rw [raiseL, List.map_cons, mayL_cons, mayL_cons, ih]
  congr 1
  obtain ⟨t, ks⟩ := v
  show mayV m (.mk (upT t) (raiseL n ks)) = _
  rw [mayV_eq, mayV_eq, upT_k]
  have he : (raiseL n ks).isEmpty = ks.isEmpty := by
   cases n with
   | zero => rfl
   | succ n => cases ks <;> rfl
  rw [he]
  cases m with
  | zero => rfl
  | succ m => simp only [may_raise m n ks]
theorem use_up (t : Tk4) : useC (upT t) = useC t := by unfold useC; rw [upT_k, upT_small]
theorem varL_cons (v : CV) (r : List CV) : varL (v :: r) = (varV v || varL r) := by rw [varL]
theorem varV_mk (t : Tk4) (ks : List CV) : varV (.mk t ks) = (useC t || varL ks) := by rw [varV]
theorem var_raise : ∀ (n : Nat) (l : List CV), varL (raiseL n l) = varL l
 | 0, l => rfl
 | n + 1, [] => rfl
 | n + 1, v :: r => by
  have ih := var_raise (n + 1) r
  rw [raiseL] at ih
  rw [raiseL, List.map_cons, varL_cons, varL_cons, ih]
  congr 1
  obtain ⟨t, ks⟩ := v
  show varV (.mk (upT t) (raiseL n ks)) = _
  rw [varV_mk, varV_mk, use_up, var_raise n ks]
theorem goodL_cons (v : CV) (r : List CV) (top : Bool) : goodL (v :: r) top = (goodV v top && goodL r top) := by rw [goodL]
theorem good_raise : ∀ (n : Nat) (l : List CV) (top : Bool), varL l = false -> goodL (raiseL n l) top = goodL l top
 | 0, l, top, _ => rfl
 | n + 1, [], top, _ => rfl
 | n + 1, v :: r, top, h => by
  rw [varL_cons, Bool.or_eq_false_iff] at h
  have ih := good_raise (n + 1) r top h.2
  rw [raiseL] at ih
  rw [raiseL, List.map_cons, goodL_cons, goodL_cons, ih]
  congr 1
  obtain ⟨t, ks⟩ := v
  rw [varV_mk, Bool.or_eq_false_iff] at h
  show goodV (.mk (upT t) (raiseL n ks)) top = _
  rw [goodV_eq, goodV_eq, use_up, upT_k, h.1.1, good_raise n ks false h.1.2]
  rfl
theorem word_raise (n : Nat) (l : List CV) : wordP (raiseL n l) = wordP l := by
 cases n with
 | zero => rfl
 | succ n =>
  match l with
  | [] => rfl
  | [.mk t ks] =>
   show (if ((upT t).k == 1) = true then small (upT t).b else []) = _
   rw [upT_k, upT_small]
   rfl
  | .mk t ks :: .mk u us :: r => rfl
theorem zero_raise (n : Nat) (l : List CV) : zeroB (raiseL n l) = zeroB l := by
 cases n with
 | zero => rfl
 | succ n =>
  match l with
  | [] => rfl
  | [.mk t ks] =>
   show ((upT t).k == 10 && ((upT t).n == 0 && (upT t).d == 1)) = _
   rw [upT_k, upT_n, upT_d]
   rfl
  | .mk t ks :: .mk u us :: r => rfl
theorem parseX_raise (m n : Nat) (l : List CV) : parseX m (raiseL n l) = parseX m l := by
 cases n with
 | zero => rfl
 | succ n =>
  unfold parseX
  rw [may_raise, raise_trim]
  split
  ·match trim l with
   | [] => rfl
   | [v] =>
    show (match exprN m (.mk (upT v.t) (raiseL n v.ks)) with
     | (e, true) => (e, (0 : Int))
     | (_, false) => (zeroX, 3)) = _
    rw [exprN_raise]
    rfl
   | v :: u :: r => rfl
  ·rfl
theorem num_raise (k : Int) (low : Bool) (m n : Nat) (l : List CV) : numP k low m (raiseL n l) = numP k low m l := by
 unfold numP
 rw [zero_raise, parseX_raise]
theorem nodes_raise : ∀ (n : Nat) (l : List CV), nodesL (raiseL n l) = nodesL l
 | 0, l => rfl
 | n + 1, [] => rfl
 | n + 1, v :: r => by
  have ih := nodes_raise (n + 1) r
  rw [raiseL] at ih
  rw [raiseL, List.map_cons, nodesL_cons, nodesL_cons, ih, nodesV_eq, nodesV_eq]
  show 1 + nodesL (raiseL n v.ks) + _ = _
  rw [nodes_raise n v.ks]
theorem by_up {b : List Int} (h : By b) : By (b.map upb) := fun c hc => by
 obtain ⟨x, hx, rfl⟩ := List.mem_map.1 hc
 have := h x hx
 unfold upb
 split <;> omega
theorem okT_up {t : Tk4} (h : okT t) : okT (upT t) := by
 unfold okT at h ⊢
 rw [upT_len, upT_n, upT_d]
 refine ⟨?_, h.2⟩
 unfold upT
 split
 ·exact by_up h.1
 ·exact h.1
theorem okWL_raise : ∀ (n : Nat) (l : List CV), okWL l -> okWL (raiseL n l)
 | 0, l, h => h
 | n + 1, l, h => by
  refine okWL_of fun v hv => ?_
  rw [raiseL] at hv
  obtain ⟨u, hu, rfl⟩ := List.mem_map.1 hv
  have ho := okWL_mem h u hu
  rw [okWV]
  exact ⟨okT_up (tok_ok ho), okWL_raise n u.ks (ks_ok ho)⟩
theorem parse_raise {kn : Bool} {k : Int} {low : Bool} {ws : List ByteArray} {name : List Int} {m n : Nat} {l : List CV} (hc : custR name = false) (hv : varL l = false) :
  parseP kn k low ws name m (raiseL n l) = parseP kn k low ws name m l := by
 have hvt : varL (trim l) = false := by
  cases h : varL (trim l) with
  | false => rfl
  | true =>
   exfalso
   have key : ∀ {l : List CV}, varL l = true -> ∃ v ∈ l, varV v = true := by
    intro l
    induction l with
    | nil => intro h; rw [varL] at h; cases h
    | cons v r ih =>
     intro h
     rw [varL_cons, Bool.or_eq_true] at h
     rcases h with h | h
     ·exact ⟨v, List.mem_cons_self .., h⟩
     ·obtain ⟨u, hu, hv⟩ := ih h
      exact ⟨u, List.mem_cons_of_mem _ hu, hv⟩
   have back : ∀ {l : List CV} {v : CV}, v ∈ l -> varV v = true -> varL l = true := by
    intro l
    induction l with
    | nil => intro v hm _; cases hm
    | cons u r ih =>
     intro v hm hv
     rw [varL_cons, Bool.or_eq_true]
     rcases List.mem_cons.1 hm with rfl | hm
     ·exact .inl hv
     ·exact .inr (ih hm hv)
   obtain ⟨v, hm, hvv⟩ := key h
   rw [back (trim_mem hm) hvv] at hv
   cases hv
 unfold parseP
 rw [may_raise, good_raise n l true hv, raise_trim, word_raise, var_raise, num_raise, hc, hvt]
 cases kn with
 | false => rfl
 | true =>
  simp only [Bool.not_true, Bool.false_and, Bool.false_eq_true, if_false, Bool.false_or]
end Go.Lift.V1
end

section
open Go.Proofs
namespace Go.Lift.V1
open Rul
open Utf (By)
variable {lo : Nat} {h : Heap}
abbrev G18 (h : Heap) (dep : Int) (l out : List CV) (j : Nat) : Env := [(1, .v (.int .i64 dep)), (5, .list .yes (rowsC out))]
abbrev O18 (l : List CV) (j : Nat) : Env := [(15, .list .no (rowsC l)), (16, .v (.int .i64 l.length)), (17, .v (.int .i64 j))]
abbrev I18 (h : Heap) (dep : Int) (l out : List CV) (j k i : Nat) : Env := G18 h dep l out j ++ [(7, .ptr h.length 0), (9, .buf (h.length + 1) 0 k)] ++ O18 l j ++ [(38, .buf (h.length + 1) 0 k), (39, .v (.int .i64 k)), (40, .v (.int .i64 i))]
section
variable {dep : Int} {l out : List CV} {j : Nat} {vc : List V}
theorem loop18i (hlo : lo <= h.length) : ∀ (n : Nat) (a b : List Int), b.length <= n -> a.length + b.length <= 1000000000000 -> By b ->
  loopW (evCode ⟨Tryz.prog, E, lo, h.length, h18⟩ loopW l18x1) (I18 h dep l out j (a.length + b.length) a.length, h ++ [.cells vc, .cells (bl (a ++ b))]) =
   some (.exit 2, I18 h dep l out j (a.length + b.length) (a.length + b.length) ++ [(41, .v (.bool false))], h ++ [.cells vc, .cells (bl (a ++ b.map upb))]) := by
 intro n
 induction n with
 | zero =>
  intro a b hb hab hy
  obtain rfl : b = [] := List.eq_nil_of_length_eq_zero (by omega)
  have hd : decide (((a.length : Nat) : Int) < ((a.length + ([] : List Int).length : Nat) : Int)) = false := by simp
  rw [loop_eq]
  simp only [List.length_nil, Nat.add_zero] at hd ⊢
  simp only [I18, G18, O18, go_sem, l18x1, b18, Tryz.f18, hd, List.map_nil]
  all_goals rfl
 | succ n ih =>
  intro a b hb hab hy
  cases b with
  | nil =>
   have hd : decide (((a.length : Nat) : Int) < ((a.length + ([] : List Int).length : Nat) : Int)) = false := by simp
   rw [loop_eq]
   simp only [List.length_nil, Nat.add_zero] at hd ⊢
   simp only [I18, G18, O18, go_sem, l18x1, b18, Tryz.f18, hd, List.map_nil]
   all_goals rfl
  | cons c b =>
   have hcy := hy c (List.mem_cons_self ..)
   have l1 : lo <= h.length + 1 := by omega
   have hd : decide ((a.length : Int) < ((a.length + (c :: b).length : Nat) : Int)) = true := by simp; omega
   have hx : (bl (a ++ c :: b))[a.length]? = some (.v (.int .u8 c)) := by simp [bl_get]
   have hw : IntKind.i64.wrap ((a.length : Int) + 1) = ((a.length + 1 : Nat) : Int) := wrap_succ (by omega)
   have hlt : a.length < a.length + (c :: b).length := by simp
   have hih := ih (a ++ [upb c]) b (by simp at hb; omega) (by simp at hab ⊢; omega) (fun x hx => hy x (List.mem_cons_of_mem _ hx))
   have el : (a ++ [upb c]).length + b.length = a.length + (c :: b).length := by simp; omega
   have el2 : (a ++ [upb c]).length = a.length + 1 := by simp
   have el3 : a ++ [upb c] ++ b.map upb = a ++ (c :: b).map upb := by simp
   rw [el, el2, el3] at hih
   have hlt' : (a.length : Int) < ((a.length + (c :: b).length : Nat) : Int) := by simp; omega
   have h0' : (0 : Int) <= a.length := by omega
   by_cases h1 : 97 <= c
   ·have q1 : decide (97 <= c) = true := by simpa using h1
    by_cases h2 : c <= 122
    ·have q2 : decide (c <= 122) = true := by simpa using h2
     have hlc : upb c = c - 32 := by unfold upb; rw [if_pos ⟨h1, h2⟩]
     have hs : (bl (a ++ c :: b)).set a.length (.v (.int .u8 (c - 32))) = bl (a ++ [upb c] ++ b) := by
      rw [bl_set, hlc]
      simp
     have hwa : IntKind.u8.wrap (c - 32) = c - 32 := wrap_u8 (by omega) (by omega)
     have hbl : a.length + 1 <= (bl (a ++ c :: b)).length := by rw [bl_len]; simp
     generalize hcs : a.length + (c :: b).length = k at *
     have er : evCode ⟨Tryz.prog, E, lo, h.length, h18⟩ loopW l18x1 (I18 h dep l out j k a.length, h ++ [.cells vc, .cells (bl (a ++ c :: b))]) =
       some (.normal, I18 h dep l out j k (a.length + 1), h ++ [.cells vc, .cells (bl (a ++ [upb c] ++ b))]) := by
      simp only [I18, G18, O18, go_sem, l18x1, b18, Tryz.f18, hd, hx, hw, q1, q2, hwa, hs, hlo, l1, hlt, hlt', h0', hbl, Nat.zero_add, Int.toNat_natCast, and_self]
      all_goals rfl
     rw [loop_eq, er, loop_n]
     exact hih
    ·have q2 : decide (c <= 122) = false := by simpa using h2
     have hlc : upb c = c := by unfold upb; rw [if_neg (by omega)]
     rw [hlc] at hih
     generalize hcs : a.length + (c :: b).length = k at *
     have er : evCode ⟨Tryz.prog, E, lo, h.length, h18⟩ loopW l18x1 (I18 h dep l out j k a.length, h ++ [.cells vc, .cells (bl (a ++ c :: b))]) =
       some (.normal, I18 h dep l out j k (a.length + 1), h ++ [.cells vc, .cells (bl (a ++ c :: b))]) := by
      simp only [I18, G18, O18, go_sem, l18x1, b18, Tryz.f18, hd, hx, hw, q1, q2, hlo, l1, hlt, hlt', h0', Nat.zero_add, Int.toNat_natCast, and_self]
      all_goals rfl
     rw [loop_eq, er, loop_n]
     have e4 : a ++ c :: b = a ++ [c] ++ b := by simp
     rw [e4]
     exact hih
   ·have q1 : decide (97 <= c) = false := by simpa using h1
    have hlc : upb c = c := by unfold upb; rw [if_neg (by omega)]
    rw [hlc] at hih
    generalize hcs : a.length + (c :: b).length = k at *
    have er : evCode ⟨Tryz.prog, E, lo, h.length, h18⟩ loopW l18x1 (I18 h dep l out j k a.length, h ++ [.cells vc, .cells (bl (a ++ c :: b))]) =
      some (.normal, I18 h dep l out j k (a.length + 1), h ++ [.cells vc, .cells (bl (a ++ c :: b))]) := by
     simp only [I18, G18, O18, go_sem, l18x1, b18, Tryz.f18, hd, hx, hw, q1, hlo, l1, hlt, hlt', h0', Nat.zero_add, Int.toNat_natCast, and_self]
     all_goals rfl
    rw [loop_eq, er, loop_n]
    have e4 : a ++ c :: b = a ++ [c] ++ b := by simp
    rw [e4]
    exact hih
abbrev N18 (dep : Int) (l out : List CV) (j : Nat) : Env := [(1, .v (.int .i64 dep)), (5, .list .yes (rowsC out)), (15, .list .no (rowsC l)), (16, .v (.int .i64 l.length)), (17, .v (.int .i64 j))]
theorem rowsC_snoc (out : List CV) (t : Tk4) (ks : List CV) : rowsC out ++ [[V.v (.int .i64 t.k), .v (.string (Rul.bs t.b)), .v (.int .i64 t.n), .v (.int .i64 t.d), .v (.bool t.w), .v (.bool t.i), .list .no (rowsC ks)]] = rowsC (out ++ [.mk t ks]) := row_put55 out t ks
theorem r18 {t : Tk4} {kids : List CV} {n : Nat} (hlo : lo <= h.length) (hd : 0 <= dep /\ dep <= 70) (hl : l.length <= 10000000) (ho : out.length <= 10000000) (ht : okT t) (hg : l[j]? = some (.mk t kids))
  (hk : ∀ lo h, lo <= h.length -> E lo 18 [.list .no (rowsC kids), .v (.int .i64 (dep + 1))] h = some (.list .no (rowsC (raiseL n kids)), h)) :
  evCode ⟨Tryz.prog, E, lo, h.length, h18⟩ loopW l18x0 (N18 dep l out j, h) = some (.normal, N18 dep l (out ++ [.mk (upT t) (raiseL n kids)]) (j + 1), h) := by
 have l1 : lo <= h.length + 1 := by omega
 have l2 : lo <= h.length + 1 + 1 := by omega
 have hlt : j < l.length := (List.getElem?_eq_some_iff.1 hg).1
 have hgr : (rowsC l)[j]? = some (rowV (.mk t kids)) := by rw [rowsC_get, hg]; rfl
 rw [rowV_eq] at hgr
 have q1 : decide ((j : Int) < (l.length : Int)) = true := by rw [decide_eq_true_iff]; omega
 have t1 : Int.toNat (j : Int) = j := by omega
 have hwr : IntKind.i64.wrap ((j : Int) + 1) = ((j + 1 : Nat) : Int) := wrap_succ (by omega)
 have hwd : IntKind.i64.wrap (dep + 1) = dep + 1 := wrap_i64 (by omega) (by omega)
 have o1 := lim72 (show out.length <= 1000000000 by omega)
 have o2 := limC (show out.length <= 1000000000 by omega)
 have ra := rowsC_all out
 have rb := byteRow_rowsC out
 have rl := rowsC_len out
 show _ = some (Ex.normal, [(1, V.v (.int .i64 dep)), (5, .list .yes (rowsC (out ++ [.mk (upT t) (raiseL n kids)]))), (15, .list .no (rowsC l)), (16, .v (.int .i64 l.length)), (17, .v (.int .i64 (j + 1 : Nat)))], h)
 rw [<- rowsC_snoc]
 generalize raiseL n kids = KS at hk ⊢
 have plain : ∀ (t' : Tk4), (t.k == 1 || (t.k == 2 || t.k == 12)) = false -> t' = t ->
   evCode ⟨Tryz.prog, E, lo, h.length, h18⟩ loopW l18x0 (N18 dep l out j, h) = some (.normal, [(1, .v (.int .i64 dep)), (5, .list .yes (rowsC out ++ [[V.v (.int .i64 t'.k), .v (.string (Rul.bs t'.b)), .v (.int .i64 t'.n), .v (.int .i64 t'.d), .v (.bool t'.w), .v (.bool t'.i), .list .no (rowsC KS)]])), (15, .list .no (rowsC l)), (16, .v (.int .i64 l.length)), (17, .v (.int .i64 (j + 1 : Nat)))], h) := by
  rintro t' hc rfl
  simp only [Bool.or_eq_false_iff] at hc
  obtain ⟨c1, c2, c3⟩ := hc
  simp only [N18]
  generalize rowsC out = OUT at ra rl rb ⊢
  simp only [go_sem, l18x0, b18, Tryz.f18, hlo, l1, l2, hgr, q1, t1, hwr, hwd, hk, c1, c2, c3, o1, o2, ra, rl, rb]
  all_goals rfl
 cases hc : (t.k == 1 || (t.k == 2 || t.k == 12)) with
 | false =>
  have e : upT t = t := by unfold upT; rw [if_neg (by rw [hc]; simp)]
  rw [plain (upT t) hc e]
 | true =>
  have e : upT t = { t with b := t.b.map upb } := by unfold upT; rw [if_pos hc]
  rw [e]
  have hy := ht.1
  have hz : (⟨(u8s t.b).toArray⟩ : ByteArray).size = t.b.length := by simp [ByteArray.size, u8s]
  have hsl : (t.b.map upb).length = t.b.length := List.length_map _
  have hL := loop18i (lo := lo) (h := h) (dep := dep) (l := l) (out := out) (j := j) (vc := [.v (.int .i64 t.k), .v (.string (Rul.bs t.b)), .v (.int .i64 t.n), .v (.int .i64 t.d), .v (.bool t.w), .v (.bool t.i), .list .no (rowsC kids)]) hlo t.b.length [] t.b (Nat.le_refl _) (by have := ht.2.1; simp; omega) hy
  simp only [List.length_nil, Nat.zero_add, List.nil_append] at hL
  have hb1 : decide (0 + t.b.length <= (bl (t.b.map upb)).length) = true := by rw [bl_len, hsl]; simp
  have hb2 : ((bl (t.b.map upb)).take t.b.length).map (fun x => [x]) = ri .u8 (t.b.map upb) := by
   rw [List.take_of_length_le (by rw [bl_len, hsl]; exact Nat.le_refl _)]
   simp [bl, ri]
  simp only [N18]
  simp only [I18, G18, O18] at hL
  generalize rowsC out = OUT at ra rl rb hL ⊢
  simp only [l18x1, b18, Tryz.f18, loopAt, loops, bodyOf, I18, G18, O18, List.cons_append, List.nil_append, show ((0 : Nat) : Int) = 0 from rfl, Rul.bs, go_sem] at hL
  cases c1 : t.k == 1 with
  | true =>
   simp only [N18, go_sem, l18x0, b18, Tryz.f18, hlo, l1, l2, hgr, q1, t1, hwr, hwd, hk, c1, o1, o2, ra, rl, rb, hz, Rul.bs, byteCells_u8s hy, hL, hb1, hb2]
   all_goals rfl
  | false =>
   cases c2 : t.k == 2 with
   | true =>
    simp only [N18, go_sem, l18x0, b18, Tryz.f18, hlo, l1, l2, hgr, q1, t1, hwr, hwd, hk, c1, c2, o1, o2, ra, rl, rb, hz, Rul.bs, byteCells_u8s hy, hL, hb1, hb2]
    all_goals rfl
   | false =>
    cases c3 : t.k == 12 with
    | true =>
     simp only [N18, go_sem, l18x0, b18, Tryz.f18, hlo, l1, l2, hgr, q1, t1, hwr, hwd, hk, c1, c2, c3, o1, o2, ra, rl, rb, hz, Rul.bs, byteCells_u8s hy, hL, hb1, hb2]
     all_goals rfl
    | false => rw [c1, c2, c3] at hc; cases hc
theorem stop18 (hlo : lo <= h.length) : evCode ⟨Tryz.prog, E, lo, h.length, h18⟩ loopW l18x0 (N18 dep l out l.length, h) = some (.exit 0, N18 dep l out l.length ++ [(18, .v (.bool false))], h) := by
 have q : decide ((l.length : Int) < (l.length : Int)) = false := by simp
 simp only [N18, go_sem, l18x0, b18, Tryz.f18, hlo, q]
 all_goals rfl
theorem raise_take {n k : Nat} (hlt : k < l.length) : (raiseL (n + 1) l).take k ++ [.mk (upT l[k].t) (raiseL n l[k].ks)] = (raiseL (n + 1) l).take (k + 1) := by
 have h1 : k < (raiseL (n + 1) l).length := by rw [raise_len]; exact hlt
 rw [List.take_succ_eq_append_getElem h1]
 congr 1
 have h2 := List.getElem?_eq_getElem h1
 rw [raise_get, List.getElem?_eq_getElem hlt] at h2
 simp only [Option.map_some, Option.some.injEq] at h2
 rw [h2]
theorem loop18 {n : Nat} (hlo : lo <= h.length) (hd : 0 <= dep /\ dep <= 70) (hl : l.length <= 10000000) (ho : okWL l)
  (ih : ∀ v ∈ l, ∀ lo h, lo <= h.length -> E lo 18 [.list .no (rowsC v.ks), .v (.int .i64 (dep + 1))] h = some (.list .no (rowsC (raiseL n v.ks)), h)) :
  ∀ (m k : Nat), k + m = l.length -> loopW (evCode ⟨Tryz.prog, E, lo, h.length, h18⟩ loopW l18x0) (N18 dep l ((raiseL (n + 1) l).take k) k, h) = some (.exit 0, N18 dep l (raiseL (n + 1) l) l.length ++ [(18, .v (.bool false))], h)
 | 0, k, hk => by
  obtain rfl : k = l.length := by omega
  rw [List.take_of_length_le (by rw [raise_len]; exact Nat.le_refl _), loop_eq, stop18 hlo, loop_e]
 | m + 1, k, hk => by
  have hlt : k < l.length := by omega
  have hr := r18 (h := h) (out := (raiseL (n + 1) l).take k) (t := l[k].t) (kids := l[k].ks) hlo hd hl (by rw [List.length_take]; omega) (tok_ok (okWL_mem ho _ (List.getElem_mem hlt))) (by rw [List.getElem?_eq_getElem hlt]; cases l[k]; rfl) (ih _ (List.getElem_mem hlt))
  rw [loop_eq, hr, loop_n, raise_take hlt]
  exact loop18 hlo hd hl ho ih m (k + 1) (by omega)
end
theorem f18 : ∀ (n : Nat) (l : List CV), n <= 71 -> nodesL l <= 10000000 -> okWL l -> ∀ (lo : Nat) (h : Heap), lo <= h.length -> E lo 18 [.list .no (rowsC l), .v (.int .i64 (71 - n))] h = some (.list .no (rowsC (raiseL n l)), h)
 | 0, l, hn, hl, ho, lo, h, hlo => by
  have hq : decide (70 < ((71 : Int) - (0 : Nat))) = true := by simp
  rw [e18 (by simp) (by rfl)]
  generalize ((71 : Int) - (0 : Nat)) = dep at *
  simp only [go_sem, b18, Tryz.f18, hlo, hq]
  all_goals rfl
 | n + 1, l, hn, hl, ho, lo, h, hlo => by
  have hll := nodesL_len l
  have hL := loop18 (lo := lo) (h := h) (l := l) (dep := 71 - (n + 1 : Nat)) (n := n) hlo (by omega) (by omega) ho (fun v hv lo' h' hlo' => by
   have h1 := Rul.nodesL_mem hv
   rw [nodesV_eq] at h1
   have := f18 n v.ks (by omega) (by omega) (ks_ok (okWL_mem ho v hv)) lo' h' hlo'
   rw [show (71 : Int) - ((n + 1 : Nat) : Int) + 1 = 71 - (n : Nat) by omega]
   exact this) l.length 0 (by omega)
  have n0 : ((0 : Nat) : Int) = 0 := rfl
  have hq : decide (70 < ((71 : Int) - ((n + 1 : Nat) : Int))) = false := by simp; omega
  rw [List.take_zero] at hL
  rw [e18 (by simp) (by rfl)]
  generalize ((71 : Int) - ((n + 1 : Nat) : Int)) = dep at *
  generalize raiseL (n + 1) l = R at *
  simp only [l18x0, b18, Tryz.f18, loopAt, loops, bodyOf, go_sem, N18, n0, rowsC_nil, List.cons_append, List.nil_append] at hL
  simp only [go_sem, b18, Tryz.f18, hlo, hq, hL, rowsC_len, n0]
  all_goals rfl
end Go.Lift.V1
end

section
open Go.Proofs
namespace Go.Lift.V1
open Rul
open Utf (By)
variable {lo : Nat} {h : Heap}
theorem f5a {name : List Int} {l : List CV} (hlo : lo <= h.length) (hy : By name) (hnl : name.length <= 1000000000) (hl : nodesL l <= 2000000) (ho : okWL l) (hc : (custR name || varL l) = true) :
  E lo 5 [.v (.string (Rul.bs name)), .list .no (rowsC l)] h = some (.v (.bool true), h) := by
 have l1 : lo <= h.length + 1 := by omega
 have c15 := fun lo h hlo => f15 (lo := lo) (h := h) hy hlo (by omega)
 have c7 := fun lo h hlo => f7w (lo := lo) (h := h) (l := l) hlo (by omega) ho
 have c10 := fun lo h hlo => f10k (lo := lo) (h := h) hlo
 rw [e5 (by simp) (by rfl)]
 cases q : custR name with
 | true =>
  rw [q] at c15
  simp only [go_sem, b5, Tryz.f5, hlo, l1, c15, c10]
  all_goals rfl
 | false =>
  rw [q] at c15
  have q2 : varL l = true := by rw [q] at hc; simpa using hc
  rw [q2] at c7
  simp only [go_sem, b5, Tryz.f5, hlo, l1, c15, c7, c10]
  all_goals rfl
theorem f5b {name : List Int} {l : List CV} {kd : Int} {x : X} {word : ByteArray} {er : Int} (hlo : lo <= h.length) (hy : By name) (hnl : name.length <= 1000000000) (hl : nodesL l <= 2000000) (ho : okWL l) (hc : custR name = false) (hv : varL l = false)
  (hx : okX x) (c17 : C17 name l (valC kd x word []) er) (c17r : C17 name (raiseL 71 l) (valC kd x word []) er) :
  E lo 5 [.v (.string (Rul.bs name)), .list .no (rowsC l)] h = some (.v (.bool true), h) := by
 have l1 : lo <= h.length + 1 := by omega
 have l2 : lo <= h.length + 1 + 1 := by omega
 have c15 := fun lo h hlo => f15 (lo := lo) (h := h) hy hlo (by omega)
 have c7 := fun lo h hlo => f7w (lo := lo) (h := h) (l := l) hlo (by omega) ho
 have c10 := fun lo h hlo => f10k (lo := lo) (h := h) hlo
 have c18 := f18 71 l (by omega) (by omega) ho
 have c19 := fun lo h hlo => f19 (lo := lo) (h := h) (kd := kd) (x := x) (word := word) hlo hx
 rw [show (71 : Int) - ((71 : Nat) : Int) = 0 from rfl] at c18
 rw [hc] at c15
 rw [hv] at c7
 have he : (er == er) = true := by simp
 obtain ⟨ek, en, ed, eu, el⟩ := x
 simp only [C17, valC_eq, xC_eq] at c17 c17r c19
 generalize raiseL 71 l = R at *
 rw [e5 (by simp) (by rfl)]
 simp only [go_sem, b5, Tryz.f5, hlo, l1, l2, c15, c7, c17, c17r, c18, c19, c10, he]
 all_goals rfl
theorem f5 {l : List CV} {name : List Int} (hlo : lo <= h.length) (hy : By name) (hnl : name.length <= 1000000000) (hl : nodesL l <= 2000000) (ho : okWL l) :
  E lo 5 [.v (.string (Rul.bs name)), .list .no (rowsC l)] h = some (.v (.bool true), h) := by
 by_cases hc : (custR name || varL l) = true
 ·exact f5a hlo hy hnl hl ho hc
 rw [Bool.not_eq_true, Bool.or_eq_false_iff] at hc
 obtain ⟨hc, hv⟩ := hc
 obtain ⟨nm, k, dn, low, ws, ck, a, b, w, kn, c12, hws, hk⟩ := spec_of (Rul.bs name)
 have c17 : C17 name l (parseP kn k low ws name (nodesL l) l).1 (parseP kn k low ws name (nodesL l) l).2 := fun lo h hlo => f17 hlo hy hnl (Nat.le_refl _) hl ho hws c12
 have hnr := nodes_raise 71 l
 have c17r : C17 name (raiseL 71 l) (parseP kn k low ws name (nodesL l) l).1 (parseP kn k low ws name (nodesL l) l).2 := fun lo h hlo => by
  have := f17 (lo := lo) (h := h) (l := raiseL 71 l) (n := nodesL l) hlo hy hnl (by omega) (by omega) (okWL_raise 71 l ho) hws c12
  rw [parse_raise hc hv] at this
  exact this
 have hot : okWL (trim l) := okWL_of fun v hv => okWL_mem ho v (trim_mem hv)
 have htn := nodesL_trim l
 have key : ∃ (kd : Int) (x : X) (word : ByteArray) (er : Int), okX x /\ parseP kn k low ws name (nodesL l) l = (valC kd x word [], er) := by
  unfold parseP
  by_cases c1 : (!kn && !custR name) = true
  ·rw [if_pos c1]; exact ⟨_, _, _, _, okX_zero, rfl⟩
  rw [if_neg c1]
  by_cases c2 : (!mayL 64 l) = true
  ·rw [if_pos c2]; exact ⟨_, _, _, _, okX_zero, rfl⟩
  rw [if_neg c2]
  by_cases c3 : (!goodL l true) = true
  ·rw [if_pos c3]; exact ⟨_, _, _, _, okX_zero, rfl⟩
  rw [if_neg c3]
  by_cases c4 : wideW (wordP (trim l)) = true
  ·rw [if_pos c4]; exact ⟨_, _, _, _, okX_zero, rfl⟩
  rw [if_neg c4]
  by_cases c5 : (!kn || varL (trim l)) = true
  ·exfalso
   have hkn : kn = true := by
    rw [hc] at c1
    cases kn with
    | true => rfl
    | false => exact absurd rfl c1
   rw [hkn] at c5
   rw [var_trim (by simpa using c5)] at hv
   cases hv
  rw [if_neg c5]
  by_cases c6 : (!(wordP (trim l) == []) && hasS ws (Rul.bs (wordP (trim l)))) = true
  ·rw [if_pos c6]; exact ⟨_, _, _, _, okX_zero, rfl⟩
  rw [if_neg c6]
  have hkn : kn = true := by cases kn with
   | true => rfl
   | false => simp at c5
  cases hq : numP k low (nodesL l) (trim l) with
  | none => exact ⟨_, _, _, _, okX_zero, rfl⟩
  | some e =>
   obtain ⟨h1, _⟩ := num_kind (hk hkn) (by omega) hot hq
   exact ⟨_, _, _, _, h1, rfl⟩
 obtain ⟨kd, x, word, er, hx, he⟩ := key
 rw [he] at c17 c17r
 exact f5b hlo hy hnl hl ho hc hv hx c17 c17r
end Go.Lift.V1
end

section
namespace Go.Proofs
open Go.Shelf
def Tryz.lays157_ren : Go.Shelf.Ren := ⟨fun | 157 => 29 | 229 => 51 | 199 => 52 | 261 => 70 | 311 => 92 | 312 => 93 | n => n, fun | 9 => 9 | 31 => 26 | 3 => 3 | 5 => 5 | 4 => 4 | 119 => 98 | 0 => 0 | 40 => 100 | 152 => 118 | 21 => 21 | 154 => 120 | 51 => 121 | 141 => 123 | 196 => 143 | 193 => 140 | 198 => 146 | 49 => 144 | 194 => 141 | 201 => 149 | 226 => 166 | 46 => 162 | 227 => 167 | n => n, fun | 0 => 0 | 6 => 1 | n => n⟩
theorem Tryz.lays157 : Go.Proofs.Lays.n157 Tryz.prog Tryz.lays157_ren := {
 mixed := by kernel_rfl
 f157 := Tryz.func29.trans (congrArg some (by kernel_rfl))
 f199 := Tryz.func52.trans (congrArg some (by kernel_rfl))
 f229 := Tryz.func51.trans (congrArg some (by kernel_rfl))
 f261 := Tryz.func70.trans (congrArg some (by kernel_rfl))
 f311 := Tryz.func92.trans (congrArg some (by kernel_rfl))
 f312 := Tryz.func93.trans (congrArg some (by kernel_rfl))
 t0 := Tryz.underlying0
 a0 := Tryz.isAgg0
 z0 := Tryz.sizeOf0
 v0 := Tryz.zeroValue0
 t3 := Tryz.underlying3
 a3 := Tryz.isAgg3
 z3 := Tryz.sizeOf3
 v3 := Tryz.zeroValue3
 t4 := Tryz.underlying4
 a4 := Tryz.isAgg4
 z4 := Tryz.sizeOf4
 v4 := Tryz.zeroValue4
 t5 := Tryz.underlying5
 a5 := Tryz.isAgg5
 z5 := Tryz.sizeOf5
 v5 := Tryz.zeroValue5
 t9 := Tryz.underlying9
 a9 := Tryz.isAgg9
 z9 := Tryz.sizeOf9
 v9 := Tryz.zeroValue9
 t21 := Tryz.underlying21
 a21 := Tryz.isAgg21
 z21 := Tryz.sizeOf21
 v21 := Tryz.zeroValue21
 t31 := Tryz.underlying26
 a31 := Tryz.isAgg26
 z31 := Tryz.sizeOf26
 v31 := Tryz.zeroValue26
 t40 := Tryz.underlying100
 a40 := Tryz.isAgg100
 z40 := Tryz.sizeOf100
 v40 := Tryz.zeroValue100
 t46 := Tryz.underlying162
 a46 := Tryz.isAgg162
 z46 := Tryz.sizeOf162
 v46 := Tryz.zeroValue162
 t49 := Tryz.underlying144
 a49 := Tryz.isAgg144
 z49 := Tryz.sizeOf144
 v49 := Tryz.zeroValue144
 t51 := Tryz.underlying121
 a51 := Tryz.isAgg121
 z51 := Tryz.sizeOf121
 v51 := Tryz.zeroValue121
 t119 := Tryz.underlying98
 a119 := Tryz.isAgg98
 z119 := Tryz.sizeOf98
 t141 := Tryz.underlying123
 a141 := Tryz.isAgg123
 z141 := Tryz.sizeOf123
 v141 := Tryz.zeroValue123
 t152 := Tryz.underlying118
 a152 := Tryz.isAgg118
 z152 := Tryz.sizeOf118
 v152 := Tryz.zeroValue118
 t154 := Tryz.underlying120
 a154 := Tryz.isAgg120
 z154 := Tryz.sizeOf120
 v154 := Tryz.zeroValue120
 t193 := Tryz.underlying140
 a193 := Tryz.isAgg140
 z193 := Tryz.sizeOf140
 v193 := Tryz.zeroValue140
 t194 := Tryz.underlying141
 a194 := Tryz.isAgg141
 z194 := Tryz.sizeOf141
 v194 := Tryz.zeroValue141
 t196 := Tryz.underlying143
 a196 := Tryz.isAgg143
 z196 := Tryz.sizeOf143
 v196 := Tryz.zeroValue143
 t198 := Tryz.underlying146
 a198 := Tryz.isAgg146
 z198 := Tryz.sizeOf146
 v198 := Tryz.zeroValue146
 t201 := Tryz.underlying149
 a201 := Tryz.isAgg149
 z201 := Tryz.sizeOf149
 v201 := Tryz.zeroValue149
 t226 := Tryz.underlying166
 a226 := Tryz.isAgg166
 z226 := Tryz.sizeOf166
 v226 := Tryz.zeroValue166
 t227 := Tryz.underlying167
 a227 := Tryz.isAgg167
 z227 := Tryz.sizeOf167
 v227 := Tryz.zeroValue167
 g0 := by kernel_rfl
 g6 := by kernel_rfl }
end Go.Proofs
end
