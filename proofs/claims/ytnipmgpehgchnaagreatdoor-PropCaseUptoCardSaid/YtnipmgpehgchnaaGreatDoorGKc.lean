/- (*calc.reader).sum. -/
import Derived.Test.YtnipmgpehgchnaaGreatDoorGKa
import Derived.Test.YtnipmgpehgchnaaGreatDoorGK5Basea
import Derived.Test.YtnipmgpehgchnaaGreatDoorGKb
set_option linter.unusedVariables false
set_option linter.unusedSimpArgs false
set_option linter.unusedSectionVars false
set_option maxRecDepth 20000
set_option maxHeartbeats 4000000
section
open Go.Proofs
namespace Go.Lift.V1
open Rul
open Utf (By)
variable {lo : Nat} {p q : List Ob}
def S125 (step : Nat -> X × Bool × Nat) (l : List CV) : Prop := ∀ lo (p q : List Ob) a, lo <= p.length -> E lo 125 [.ptr p.length 0] (p ++ Rc l a :: q) = some (.tup [.agg (xC (step a).1), .v (.bool (step a).2.1)], p ++ Rc l (step a).2.2 :: q)
abbrev N114 (p q : List Ob) : Env := [(0, .ptr p.length 0), (2, .ptr (p.length + (q.length + 1)) 0), (4, .ptr (p.length + (q.length + 1 + 1)) 0), (6, .ptr (p.length + (q.length + (1 + 1) + 1)) 0)]
abbrev H114 (p q : List Ob) (l : List CV) (a : Nat) (e : X) (ks : List X) : Heap := p ++ Rc l a :: (q ++ [.cells xZ, .cells (xC e), .cells (xO 2 ks)])
noncomputable abbrev X114 (lo : Nat) (p q : List Ob) : Go.Lift.Cx := ⟨Tryz.prog, E, lo, p.length + (q.length + 1), h114⟩
section
variable {l : List CV} {a a1 : Nat} {e : X} {ks : List X} {step : Nat -> X × Bool × Nat}
theorem r114a (hlo : lo <= p.length) (hs : ∀ lo (p q : List Ob), lo <= p.length -> E lo 126 [.ptr p.length 0, .v (.string ⟨#[43]⟩), .v (.string ⟨#[45]⟩), .v (.bool true)] (p ++ Rc l a :: q) = some (.v (.string ⟨#[]⟩), p ++ Rc l a1 :: q)) :
  evCode (X114 lo p q) loopW l114x0 (N114 p q, H114 p q l a e ks) = some (.exit 0, N114 p q ++ [(7, .v (.string ⟨#[]⟩)), (22, .v (.bool true))], H114 p q l a1 e ks) := by
 have l1 : lo <= p.length + (q.length + 1) := by omega
 obtain ⟨ek, en, ed, eu, el⟩ := e
 simp only [N114, H114, X114, xC_eq, xZ, xO, go_sem, l114x0, b114, Tryz.f114, hlo, l1, hs, s_nil]
 all_goals rfl
theorem r114b {c : UInt8} {e' : X} {a2 : Nat} (hlo : lo <= p.length) (hs : ∀ lo (p q : List Ob), lo <= p.length -> E lo 126 [.ptr p.length 0, .v (.string ⟨#[43]⟩), .v (.string ⟨#[45]⟩), .v (.bool true)] (p ++ Rc l a :: q) = some (.v (.string ⟨#[c]⟩), p ++ Rc l a1 :: q))
  (ht : ∀ lo (p q : List Ob), lo <= p.length -> E lo 125 [.ptr p.length 0] (p ++ Rc l a1 :: q) = some (.tup [.agg (xC e'), .v (.bool false)], p ++ Rc l a2 :: q)) :
  evCode (X114 lo p q) loopW l114x0 (N114 p q, H114 p q l a e ks) = some (.ret, [(2, .ptr (p.length + (q.length + 1)) 0), (3, .v (.bool false))], p ++ Rc l a2 :: (q ++ [.cells (xC e'), .cells (xC e'), .cells (xO 2 ks)])) := by
 have l1 : lo <= p.length + (q.length + 1) := by omega
 have l2 : lo <= p.length + (q.length + 1 + 1) := by omega
 obtain ⟨ek, en, ed, eu, el⟩ := e
 obtain ⟨fk, fn, fd, fu, fl⟩ := e'
 simp only [xC_eq] at ht
 have z := s_one c
 simp only [N114, H114, X114, xC_eq, xZ, xO, go_sem, l114x0, b114, Tryz.f114, hlo, l1, l2, hs, ht, z]
 all_goals rfl
theorem r114c {c : UInt8} {e' : X} {a2 : Nat} {b : Bool} (hlo : lo <= p.length) (hk : ks.length <= 1000000000) (hb : ((⟨#[c]⟩ : ByteArray).toList == (⟨#[45]⟩ : ByteArray).toList) = b)
  (hs : ∀ lo (p q : List Ob), lo <= p.length -> E lo 126 [.ptr p.length 0, .v (.string ⟨#[43]⟩), .v (.string ⟨#[45]⟩), .v (.bool true)] (p ++ Rc l a :: q) = some (.v (.string ⟨#[c]⟩), p ++ Rc l a1 :: q))
  (ht : ∀ lo (p q : List Ob), lo <= p.length -> E lo 125 [.ptr p.length 0] (p ++ Rc l a1 :: q) = some (.tup [.agg (xC e'), .v (.bool true)], p ++ Rc l a2 :: q)) :
  evCode (X114 lo p q) loopW l114x0 (N114 p q, H114 p q l a e ks) = some (.normal, N114 p q, H114 p q l a2 (if b = true then .mk 3 0 0 0 [e'] else e') (ks ++ [if b = true then .mk 3 0 0 0 [e'] else e'])) := by
 have l1 : lo <= p.length + (q.length + 1) := by omega
 have l2 : lo <= p.length + (q.length + 1 + 1) := by omega
 have l3 : lo <= p.length + (q.length + (1 + 1) + 1) := by omega
 obtain ⟨ek, en, ed, eu, el⟩ := e
 obtain ⟨fk, fn, fd, fu, fl⟩ := e'
 simp only [xC_eq] at ht
 have z := s_one c
 have o1 := lim40 hk
 have o2 := lim41 hk
 have ra := xsC_all ks
 have rl := xsC_len ks
 have rb := xsC_ibr ks
 cases b with
 | false =>
  rw [if_neg (by simp)]
  simp only [N114, H114, X114, xC_eq, xZ, xO, <- xsC_app, xsC_cons, xsC_nil]
  generalize xsC ks = K at ra rl rb ⊢
  simp only [go_sem, l114x0, b114, Tryz.f114, hlo, l1, l2, l3, hs, ht, z, hb, o1, o2, ra, rl, rb]
  all_goals rfl
 | true =>
  rw [if_pos rfl]
  simp only [N114, H114, X114, xC_eq, xZ, xO, <- xsC_app, xsC_cons, xsC_nil]
  generalize xsC ks = K at ra rl rb ⊢
  simp only [go_sem, l114x0, b114, Tryz.f114, hlo, l1, l2, l3, hs, ht, z, hb, o1, o2, ra, rl, rb]
  all_goals rfl
theorem loop114 (hlo : lo <= p.length) (hl : l.length <= 1000000000) (hy : ∀ v ∈ l, By v.t.b) (hst : S125 step l) (hmo : Mono step) : ∀ (f a : Nat) (e : X) (ks : List X), l.length <= a + f -> ks.length + f <= 1000000000 + 1 ->
  match chainP step (fun a => signP l a 43 45 true) 3 f a ks with
  | .inl (e', a') => ∃ ks', loopW (evCode (X114 lo p q) loopW l114x0) (N114 p q, H114 p q l a e ks) = some (.ret, [(2, .ptr (p.length + (q.length + 1)) 0), (3, .v (.bool false))], p ++ Rc l a' :: (q ++ [.cells (xC e'), .cells (xC e'), .cells (xO 2 ks')]))
  | .inr (ks', a') => ∃ e', loopW (evCode (X114 lo p q) loopW l114x0) (N114 p q, H114 p q l a e ks) = some (.exit 0, N114 p q ++ [(7, .v (.string ⟨#[]⟩)), (22, .v (.bool true))], H114 p q l a' e' ks')
 | 0, a, e, ks, hf, hk => by
  have hs := fun lo (p q : List Ob) hlo => f126 (lo := lo) (p := p) (q := q) (l := l) (a := a) (one := 43) (other := 45) (apart := true) hlo hl hy (by omega) (by omega)
  rw [sign_end (by omega)] at hs
  unfold chainP
  exact ⟨e, by rw [loop_eq, r114a hlo hs, loop_e]⟩
 | f + 1, a, e, ks, hf, hk => by
  have hs := fun lo (p q : List Ob) hlo => f126 (lo := lo) (p := p) (q := q) (l := l) (a := a) (one := 43) (other := 45) (apart := true) hlo hl hy (by omega) (by omega)
  have hon := fun b => sign_on (l := l) (a := a) (one := 43) (other := 45) (apart := true) (b := b)
  unfold chainP
  generalize signP l a 43 45 true = r at hs hon ⊢
  obtain ⟨o, a1⟩ := r
  cases o with
  | none => exact ⟨e, by rw [loop_eq, r114a hlo hs, loop_e]⟩
  | some b =>
   have h1 := hon b rfl
   have ht := fun lo (p q : List Ob) hlo => hst lo p q a1 hlo
   have hm := hmo a1
   simp only
   generalize step a1 = t at ht hm ⊢
   obtain ⟨e', ok, a2⟩ := t
   cases ok with
   | false =>
    refine ⟨ks, ?_⟩
    cases b with
    | false => rw [loop_eq, r114b (c := 43) hlo hs ht, loop_r]
    | true => rw [loop_eq, r114b (c := 45) hlo hs ht, loop_r]
   | true =>
    simp only at h1 hm
    have ih := loop114 hlo hl hy hst hmo f a2 (if b = true then .mk 3 0 0 0 [e'] else e') (ks ++ [if b = true then .mk 3 0 0 0 [e'] else e']) (by omega) (by simp; omega)
    cases b with
    | false =>
     rw [loop_eq, r114c (c := 43) (b := false) hlo (by omega) (s_ne (by decide)) hs ht, loop_n]
     exact ih
    | true =>
     rw [loop_eq, r114c (c := 45) (b := true) hlo (by omega) s_eq hs ht, loop_n]
     exact ih
theorem f114 (hlo : lo <= p.length) (hl : l.length <= 100000000) (hy : ∀ v ∈ l, By v.t.b) (hst : S125 step l) (hmo : Mono step) :
  E lo 114 [.ptr p.length 0] (p ++ Rc l a :: q) = some (.tup [.agg (xC (levelP step (fun a => signP l a 43 45 true) 2 3 (l.length + 1) a).1), .v (.bool (levelP step (fun a => signP l a 43 45 true) 2 3 (l.length + 1) a).2.1)],
   p ++ Rc l (levelP step (fun a => signP l a 43 45 true) 2 3 (l.length + 1) a).2.2 :: q) := by
 have l1 : lo <= p.length + (q.length + 1) := by omega
 have l2 : lo <= p.length + (q.length + 1 + 1) := by omega
 have l3 : lo <= p.length + (q.length + (1 + 1) + 1) := by omega
 have l4 : lo <= p.length + (q.length + 3 + 1) := by omega
 have ht := fun lo (p q : List Ob) hlo => hst lo p q a hlo
 have hm := hmo a
 unfold levelP
 rw [e114 (by simp) (by rfl)]
 generalize step a = t at ht hm ⊢
 obtain ⟨e, ok, a1⟩ := t
 cases ok with
 | false =>
  simp only
  obtain ⟨ek, en, ed, eu, el⟩ := e
  simp only [xC_eq] at ht ⊢
  simp only [go_sem, b114, Tryz.f114, hlo, l1, l2, ht]
  all_goals rfl
 | true =>
  simp only at hm ⊢
  have hL := loop114 (lo := lo) (p := p) (q := q) hlo (by omega) hy hst hmo (l.length + 1) a1 e [e] (by omega) (by simp; omega)
  have hcl := chain_len (step := step) (sg := fun a => signP l a 43 45 true) (inv := 3) (l.length + 1) a1 [e]
  generalize chainP step (fun a => signP l a 43 45 true) 3 (l.length + 1) a1 [e] = r at hL hcl ⊢
  obtain ⟨ek, en, ed, eu, el⟩ := e
  cases r with
  | inl r =>
   obtain ⟨e', a'⟩ := r
   obtain ⟨ks', hL⟩ := hL
   obtain ⟨fk, fn, fd, fu, fl⟩ := e'
   simp only [xC_eq] at ht ⊢
   simp only [l114x0, b114, Tryz.f114, loopAt, loops, bodyOf, N114, H114, X114, xC_eq, xZ, xO, xsC_cons, xsC_nil, go_sem] at hL
   simp only [go_sem, b114, Tryz.f114, hlo, l1, l2, l3, ht, hL]
   all_goals rfl
  | inr r =>
   obtain ⟨ks', a'⟩ := r
   obtain ⟨e', hL⟩ := hL
   have hks := hcl ks' a' rfl
   have c127 := fun lo h hlo => f127 (lo := lo) (h := h) (e := .mk 2 0 0 0 ks') hlo (by simp at hks; show ks'.length <= _; omega)
   obtain ⟨fk, fn, fd, fu, fl⟩ := e'
   simp only
   generalize singleX (.mk 2 0 0 0 ks') = sx at c127 ⊢
   obtain ⟨gk, gn, gd, gu, gl⟩ := sx
   simp only [xC_eq] at ht c127 ⊢
   simp only [l114x0, b114, Tryz.f114, loopAt, loops, bodyOf, N114, H114, X114, xC_eq, xZ, xO, xsC_cons, xsC_nil, go_sem] at hL
   simp only [go_sem, b114, Tryz.f114, hlo, l1, l2, l3, l4, ht, c127, hL]
   all_goals rfl
end
end Go.Lift.V1
end

section
open Go.Proofs
namespace Go.Lift.V1
open Rul
variable {lo : Nat} {h : Heap}
abbrev N55 (l out : List CV) (k : Int) : Env := [(3, .list .yes (rowsC out)), (6, .list .no (rowsC l)), (7, .v (.int .i64 l.length)), (8, .v (.int .i64 k))]
theorem lim72 {n : Nat} (h : n <= 1000000000) : (n + 1) * 72 <= 140737488355328 := by omega
theorem limC {n : Nat} (h : n <= 1000000000) : n <= 9223372036854775806 := by omega
theorem row_put55 (out : List CV) (t : Tk4) (ks : List CV) : rowsC out ++ [[V.v (Value.int IntKind.i64 t.k), V.v (Value.string (Rul.bs t.b)), V.v (Value.int IntKind.i64 t.n), V.v (Value.int IntKind.i64 t.d), V.v (Value.bool t.w), V.v (Value.bool t.i), V.list .no (rowsC ks)]] = rowsC (out ++ [.mk t ks]) := by
 rw [rowsC_app, rowsC_cons, rowsC_nil, rowV_eq]
theorem round56 {l out : List CV} {v : CV} {k : Nat} (hlo : lo <= h.length) (hl : nodesL l <= 1000000000) (hg : l[k]? = some v) (ho : out.length <= 1000000000)
  (ih : ∀ lo h, lo <= h.length -> E lo 56 [.list .no (rowsC v.ks)] h = some (.list .no (rowsC v.ks), h)) :
  evCode ⟨Tryz.prog, E, lo, h.length, h56⟩ loopW l56x0 (N55 l out k, h) = some (.normal, N55 l (out ++ [v]) (k + 1 : Nat), h) := by
 obtain ⟨t, ks⟩ := v
 have hlt : k < l.length := (List.getElem?_eq_some_iff.1 hg).1
 have hgr : (rowsC l)[k]? = some (rowV (.mk t ks)) := by rw [rowsC_get, hg]; rfl
 have q : decide ((k : Int) < (l.length : Int)) = true := by simp; omega
 have hll := nodesL_len l
 have hw : IntKind.i64.wrap ((k : Int) + 1) = ((k + 1 : Nat) : Int) := wrap_succ (by omega)
 have hlo' : lo <= h.length + 1 := by omega
 have c55 := fun lo hlo => ih lo (h ++ [.cells (rowV (.mk t ks))]) hlo
 rw [rowV_eq] at *
 have c55a := c55 lo (by simp; omega); have c55b := c55 (h.length + 1) (by simp)
 clear c55 ih
 have o1 := lim72 ho
 have o2 := limC ho
 have ra := rowsC_all out
 have rl := rowsC_len out
 have rb := byteRow_rowsC out
 simp only [CV.ks] at c55a c55b
 simp only [N55]
 rw [<- row_put55]
 generalize rowsC out = R at *
 simp only [N55, go_sem, l56x0, b56, Tryz.f56, hlo, hlo', q, hgr, hw, c55a, c55b, o1, o2, ra, rl, rb, rowsC_len]
 all_goals rfl
theorem stop56 {l out : List CV} (hlo : lo <= h.length) : evCode ⟨Tryz.prog, E, lo, h.length, h56⟩ loopW l56x0 (N55 l out l.length, h) =
   some (.exit 0, N55 l out l.length ++ [(9, .v (.bool false))], h) := by
 have q : decide ((l.length : Int) < (l.length : Int)) = false := by simp
 simp only [N55, go_sem, l56x0, b56, Tryz.f56, hlo, q]
 all_goals rfl
theorem loop56 {l : List CV} (hlo : lo <= h.length) (hl : nodesL l <= 1000000000)
  (ih : ∀ v ∈ l, ∀ lo h, lo <= h.length -> E lo 56 [.list .no (rowsC v.ks)] h = some (.list .no (rowsC v.ks), h)) :
  ∀ (m k : Nat), k + m = l.length -> loopW (evCode ⟨Tryz.prog, E, lo, h.length, h56⟩ loopW l56x0) (N55 l (l.take k) k, h) = some (.exit 0, N55 l l l.length ++ [(9, .v (.bool false))], h)
 | 0, k, hk => by
  obtain rfl : k = l.length := by omega
  rw [List.take_length, loop_eq, stop56 hlo, loop_e]
 | m + 1, k, hk => by
  have hlt : k < l.length := by omega
  have hll := nodesL_len l
  have hr := round56 (h := h) (out := l.take k) hlo hl (List.getElem?_eq_getElem hlt) (by rw [List.length_take]; omega) (ih _ (List.getElem_mem hlt))
  rw [loop_eq, hr, loop_n, <- List.take_succ_eq_append_getElem hlt]
  exact loop56 hlo hl ih m (k + 1) (by omega)
theorem f56 : ∀ (n : Nat) (l : List CV), nodesL l <= n -> n <= 1000000000 -> ∀ (lo : Nat) (h : Heap), lo <= h.length -> E lo 56 [.list .no (rowsC l)] h = some (.list .no (rowsC l), h)
 | n, l, hl, hn, lo, h, hlo => by
  have hL := loop56 (lo := lo) (h := h) (l := l) hlo (by omega) (fun v hv lo' h' hlo' => by
   have h1 := nodesL_mem hv
   rw [nodesV_eq] at h1
   exact f56 (n - 1) v.ks (by omega) (by omega) lo' h' hlo') l.length 0 (by omega)
  have n0 : ((0 : Nat) : Int) = 0 := rfl
  rw [List.take_zero] at hL
  rw [e56 (by simp) (by rfl)]
  simp only [l56x0, b56, Tryz.f56, loopAt, loops, bodyOf, go_sem, N55, n0, rowsC_nil, List.cons_append, List.nil_append] at hL
  simp only [go_sem, b56, Tryz.f56, hlo, hL, rowsC_len, n0]
  all_goals rfl
 termination_by n => n
 decreasing_by
  have h1 := nodesL_mem hv
  rw [nodesV_eq] at h1
  omega
theorem nodesL_suffix {l m : List CV} (h : m <:+ l) : nodesL m <= nodesL l := by
 obtain ⟨p, rfl⟩ := h
 rw [nodesL_app]; omega
theorem nodesL_prefix {l m : List CV} (h : m <+: l) : nodesL m <= nodesL l := by
 obtain ⟨p, rfl⟩ := h
 rw [nodesL_app]; omega
theorem nodesL_rev : ∀ l : List CV, nodesL l.reverse = nodesL l
 | [] => rfl
 | v :: r => by rw [List.reverse_cons, nodesL_app, nodesL_rev r, nodesL_cons, nodesL_cons, nodesL_nil]; omega
theorem nodesL_trim (l : List CV) : nodesL (trim l) <= nodesL l := by
 unfold trim
 rw [nodesL_rev]
 refine Nat.le_trans (nodesL_suffix (List.dropWhile_suffix _)) ?_
 rw [nodesL_rev]
 exact nodesL_suffix (List.dropWhile_suffix _)
theorem f34 {l : List CV} (hlo : lo <= h.length) (hl : nodesL l <= 1000000000) : E lo 34 [.list .no (rowsC l)] h = some (.list .no (rowsC (trim l)), h) := by
 have hll := nodesL_len l
 have c56 := f57 (lo := lo) (h := h) (l := l) hlo (by omega)
 have c55 := f56 _ (trim l) (nodesL_trim l) (by omega) lo h hlo
 rw [e34 (by simp) (by rfl)]
 simp only [go_sem, b34, Tryz.f34, hlo, c56, c55]
 all_goals rfl
end Go.Lift.V1
end

section
open Go.Proofs
namespace Go.Lift.V1
open Rul
variable {lo : Nat} {h : Heap}
theorem nodes_part {l : List CV} {i f : Nat} : nodesL ((l.take i).drop f) <= nodesL l := Nat.le_trans (nodesL_suffix (List.drop_suffix ..)) (nodesL_prefix (List.take_prefix ..))
theorem nodes_part2 {l : List CV} {f : Nat} : nodesL (l.drop f) <= nodesL l := nodesL_suffix (List.drop_suffix ..)
abbrev N36p (l : List CV) (out : List (List CV)) (f i : Nat) : Env := [(0, .list .no (rowsC l)), (3, .list .yes (pcsC out)), (4, .v (.int .i64 f)), (7, .list .no (rowsC l)), (8, .v (.int .i64 l.length)), (9, .v (.int .i64 i))]
theorem comma36 {l : List CV} {out : List (List CV)} {v : CV} {f i : Nat} (hlo : lo <= h.length) (hl : nodesL l <= 1000000000) (hg : l[i]? = some v) (hf : f <= i) (ho : out.length <= 1000000000) (hk : v.k = 18) :
  evCode ⟨Tryz.prog, E, lo, h.length, h98⟩ loopW l98x0 (N36p l out f i, h) = some (.normal, N36p l (out ++ [trim ((l.take i).drop f)]) (i + 1) (i + 1), h) := by
 obtain ⟨t, ks⟩ := v
 have hlt : i < l.length := (List.getElem?_eq_some_iff.1 hg).1
 have hll : l.length <= 1000000000 := by have := nodesL_len l; omega
 have hgr : (rowsC l)[i]? = some (rowV (.mk t ks)) := by rw [rowsC_get, hg]; rfl
 have q : decide ((i : Int) < (l.length : Int)) = true := by simpa using hlt
 have hw : IntKind.i64.wrap ((i : Int) + 1) = ((i + 1 : Nat) : Int) := wrap_succ (by omega)
 have qk : (t.k == 18) = true := by rw [beq_iff_eq]; exact hk
 have l1 : lo <= h.length + 1 := by omega
 have hi : i <= l.length := by omega
 have hc := fun lo hlo => f34 (lo := lo) (h := h ++ [.cells (rowV (.mk t ks))]) (l := (l.take i).drop f) hlo (by have := nodes_part (l := l) (i := i) (f := f); omega)
 rw [rowV_eq] at *
 have ca := hc lo (by simp; omega); have cb := hc (h.length + 1) (by simp)
 clear hc
 have ed : ((rowsC l).take i).drop f = rowsC ((l.take i).drop f) := by rw [rowsC_take, rowsC_drop]
 have ra := rowsC_all ((l.take i).drop f)
 have rl := rowsC_all l
 have pa := pcs_all out
 have pl := pcs_len out
 have pi := pcs_ibr out
 have o1 : (out.length + 1) * 24 <= 140737488355328 := by omega
 have o2 : out.length <= 9223372036854775806 := by omega
 simp only [N36p]
 rw [pcs_snoc]
 generalize pcsC out = R at *
 simp only [go_sem, l98x0, b98, Tryz.f98, hlo, q, hgr, hw, qk, l1, hi, hf, ca, cb, ed, ra, rl, pa, pl, pi, o1, o2, rowsC_len]
 all_goals rfl
theorem none36 {l : List CV} {out : List (List CV)} {v : CV} {f i : Nat} (hlo : lo <= h.length) (hl : l.length <= 1000000000) (hg : l[i]? = some v) (hk : v.k ≠ 18) :
  evCode ⟨Tryz.prog, E, lo, h.length, h98⟩ loopW l98x0 (N36p l out f i, h) = some (.normal, N36p l out f (i + 1), h) := by
 obtain ⟨t, ks⟩ := v
 have hlt : i < l.length := (List.getElem?_eq_some_iff.1 hg).1
 have hgr : (rowsC l)[i]? = some (rowV (.mk t ks)) := by rw [rowsC_get, hg]; rfl
 have q : decide ((i : Int) < (l.length : Int)) = true := by simpa using hlt
 have hw : IntKind.i64.wrap ((i : Int) + 1) = ((i + 1 : Nat) : Int) := wrap_succ (by omega)
 have qk : (t.k == 18) = false := by rw [beq_eq_false_iff_ne]; exact hk
 have l1 : lo <= h.length + 1 := by omega
 rw [rowV_eq] at *
 simp only [N36p, go_sem, l98x0, b98, Tryz.f98, hlo, q, hgr, hw, qk, l1, rowsC_len]
 all_goals rfl
theorem loop36p {l : List CV} (hlo : lo <= h.length) (hl : nodesL l <= 1000000000) : ∀ (m i f : Nat) (out : List (List CV)), m = l.length - i -> i <= l.length -> f <= i -> out.length <= i ->
  ∃ (f' : Nat) (o : List (List CV)), f' <= l.length /\ o.length <= l.length /\ out ++ splitA ((l.take i).drop f) (l.drop i) = o ++ [trim (l.drop f')] /\
   loopW (evCode ⟨Tryz.prog, E, lo, h.length, h98⟩ loopW l98x0) (N36p l out f i, h) = some (.exit 0, N36p l o f' l.length ++ [(10, .v (.bool false))], h)
 | 0, i, f, out, hm, hi, hf, ho => by
  obtain rfl : i = l.length := by omega
  have hd : decide ((l.length : Int) < (l.length : Int)) = false := by simp
  refine ⟨f, out, hf, ho, ?_, ?_⟩
  ·rw [List.drop_length, splitA, List.take_length]
  ·rw [loop_eq]
   simp only [N36p, go_sem, l98x0, b98, Tryz.f98, hlo, hd]
   all_goals rfl
 | m + 1, i, f, out, hm, hi, hf, ho => by
  have hlt : i < l.length := by omega
  have hll : l.length <= 1000000000 := by have := nodesL_len l; omega
  have hg := List.getElem?_eq_getElem hlt
  rw [List.drop_eq_getElem_cons hlt, splitA, loop_eq]
  by_cases hk : (l[i]).k = 18
  ·rw [if_pos hk, comma36 hlo hl hg hf (by omega) hk, loop_n]
   obtain ⟨f', o, h1, h2, h3, h4⟩ := loop36p hlo hl m (i + 1) (i + 1) (out ++ [trim ((l.take i).drop f)]) (by omega) (by omega) (Nat.le_refl _) (by rw [List.length_append, List.length_singleton]; omega)
   have e0 : (l.take (i + 1)).drop (i + 1) = [] := List.drop_eq_nil_of_le (by rw [List.length_take]; omega)
   rw [e0, List.append_assoc, List.singleton_append] at h3
   exact ⟨f', o, h1, h2, h3, h4⟩
  ·rw [if_neg hk, none36 hlo hll hg hk, loop_n]
   obtain ⟨f', o, h1, h2, h3, h4⟩ := loop36p hlo hl m (i + 1) f out (by omega) (by omega) (by omega) (by omega)
   have hd : (l.take (i + 1)).drop f = (l.take i).drop f ++ [l[i]] := by
    rw [List.take_succ_eq_append_getElem hlt, List.drop_append_of_le_length (by rw [List.length_take]; omega)]
   rw [hd] at h3
   exact ⟨f', o, h1, h2, h3, h4⟩
theorem f98 {l : List CV} (hlo : lo <= h.length) (hl : nodesL l <= 1000000000) : E lo 98 [.list .no (rowsC l)] h = some (.list .no (pcsC (splitB l)), h) := by
 have hll : l.length <= 1000000000 := by have := nodesL_len l; omega
 obtain ⟨f', o, h1, h2, h3, h4⟩ := loop36p (lo := lo) (h := h) hlo hl l.length 0 0 [] (by omega) (Nat.zero_le _) (Nat.le_refl _) (Nat.le_refl _)
 simp only [List.nil_append, List.drop_zero, List.take_zero, List.drop_nil] at h3
 have e : splitB l = o ++ [trim (l.drop f')] := h3
 rw [e, pcs_snoc]
 simp only [N36p, l98x0, b98, Tryz.f98, loopAt, loops, bodyOf, go_sem, pcsC, List.map_nil] at h4
 have hc := fun lo hlo => f34 (lo := lo) (h := h) (l := l.drop f') hlo (by have := nodes_part2 (l := l) (f := f'); omega)
 have ca := hc lo hlo; have cb := hc h.length (Nat.le_refl _)
 have n0 : ((0 : Nat) : Int) = 0 := rfl
 have ed : (rowsC l).drop f' = rowsC (l.drop f') := rowsC_drop l f'
 have et : (rowsC l).take l.length = rowsC l := by rw [rowsC_take, List.take_length]
 have ra := rowsC_all (l.drop f')
 have rl := rowsC_all l
 have pa := pcs_all o
 have pl := pcs_len o
 have pi := pcs_ibr o
 have o1 : (o.length + 1) * 24 <= 140737488355328 := by omega
 have o2 : o.length <= 9223372036854775806 := by omega
 unfold pcsC at pa pl pi ⊢
 rw [e98 (by simp) (by rfl)]
 simp only [go_sem, b98, Tryz.f98, hlo, n0, h4, h1, ca, cb, ed, et, ra, rl, pa, pl, pi, o1, o2, rowsC_len]
 all_goals rfl
end Go.Lift.V1
end

section
open Go.Proofs
namespace Go.Lift.V1
open Rul
open Utf (By)
variable {lo : Nat} {h : Heap}
theorem sign_off {l : List CV} {a : Nat} {one other : Int} {apart : Bool} (h : (signP l a one other apart).1 = none) : (signP l a one other apart).2 = a := by
 unfold signP at h ⊢
 cases hg : l[skipS l a]? with
 | none => rfl
 | some v =>
  rw [hg] at h
  simp only at h ⊢
  split at h
  ·rename_i hk
   rw [if_pos hk]
   split at h
   ·cases h
   ·rename_i hc
    rw [if_neg hc]
  ·rename_i hk
   rw [if_neg hk]
theorem sign_ge (l : List CV) (a : Nat) (one other : Int) (apart : Bool) : a <= (signP l a one other apart).2 := by
 cases hs : (signP l a one other apart).1 with
 | none => rw [sign_off hs]; exact Nat.le_refl _
 | some b => have := sign_on hs; omega
theorem mono_operand (op : CV -> X × Bool) (l : List CV) : Mono (operandP op l) := fun a => by
 unfold operandP
 cases l[a]? with
 | none => exact Nat.le_refl _
 | some v => exact Nat.le_succ _
theorem mono_chain {step : Nat -> X × Bool × Nat} {sg : Nat -> Option Bool × Nat} {inv : Int} (hm : Mono step) (hs : ∀ a, a <= (sg a).2) : ∀ (f a : Nat) (ks : List X),
  match chainP step sg inv f a ks with
  | .inl (_, a') => a <= a'
  | .inr (_, a') => a <= a'
 | 0, a, ks => by unfold chainP; exact Nat.le_refl _
 | f + 1, a, ks => by
  have h1 := hs a
  unfold chainP
  generalize sg a = r at h1 ⊢
  obtain ⟨o, a1⟩ := r
  cases o with
  | none => exact h1
  | some b =>
   have h2 := hm a1
   simp only
   generalize step a1 = t at h2 ⊢
   obtain ⟨e, ok, a2⟩ := t
   simp only at h1 h2
   cases ok with
   | false => simp only; omega
   | true =>
    simp only
    have ih := mono_chain (inv := inv) hm hs f a2 (ks ++ [if b = true then .mk inv 0 0 0 [e] else e])
    revert ih
    generalize chainP step sg inv f a2 (ks ++ [if b = true then .mk inv 0 0 0 [e] else e]) = r
    intro ih
    match r, ih with
    | .inl (_, a'), ih => simp only at ih ⊢; omega
    | .inr (_, a'), ih => simp only at ih ⊢; omega
theorem mono_level {step : Nat -> X × Bool × Nat} {sg : Nat -> Option Bool × Nat} {kind inv : Int} {f : Nat} (hm : Mono step) (hs : ∀ a, a <= (sg a).2) : Mono (levelP step sg kind inv f) := fun a => by
 have h1 := hm a
 unfold levelP
 generalize step a = t at h1 ⊢
 obtain ⟨e, ok, a1⟩ := t
 cases ok with
 | false => exact h1
 | true =>
  simp only at h1 ⊢
  have h2 := mono_chain (inv := inv) hm hs f a1 [e]
  revert h2
  generalize chainP step sg inv f a1 [e] = r
  intro h2
  match r, h2 with
  | .inl (_, a'), h2 => simp only at h2 ⊢; omega
  | .inr (_, a'), h2 => simp only at h2 ⊢; omega
theorem f114w {l : List CV} {a : Nat} {w : List CV -> X × Bool} {p q : List Ob} (hlo : lo <= p.length) (hl : l.length <= 100000000) (hy : ∀ v ∈ l, By v.t.b) (h : ∀ v ∈ l, W97 w v.ks /\ W72 w v) :
  E lo 114 [.ptr p.length 0] (p ++ Rc l a :: q) = some (.tup [.agg (xC (sumP (opX w) l a).1), .v (.bool (sumP (opX w) l a).2.1)], p ++ Rc l (sumP (opX w) l a).2.2 :: q) := by
 have m1 := mono_operand (opX w) l
 have s1 : S132 (operandP (opX w) l) l := fun lo p q a hlo => f132 hlo (by omega) h
 have s2 : S125 (productP (opX w) l) l := fun lo p q a hlo => f125 hlo hl hy s1 m1
 exact f114 hlo hl hy s2 (mono_level m1 fun a => sign_ge ..)
theorem f97 {l : List CV} {n : Nat} (hlo : lo <= h.length) (hl : nodesL l <= 100000000) (hy : ∀ v ∈ trim l, By v.t.b) (hv : ∀ v ∈ trim l, W97 (wholeN n) v.ks /\ W72 (wholeN n) v) :
  E lo 97 [.list .no (rowsC l)] h = some (.tup [.agg (xC (wholeN (n + 1) l).1), .v (.bool (wholeN (n + 1) l).2)], h) := by
 have l1 : lo <= h.length + 1 := by omega
 have l2 : lo <= h.length + 1 + 1 := by omega
 have hll := nodesL_len (trim l)
 have htl := nodesL_trim l
 have c34 := fun lo h hlo => f34 (lo := lo) (h := h) (l := l) hlo (by omega)
 have c114 := fun lo h hlo => f114w (lo := lo) (l := trim l) (a := 0) (w := wholeN n) (p := h ++ [.cells xZ]) (q := []) hlo (by omega) hy hv
 simp only [List.length_append, List.length_cons, List.length_nil, List.append_assoc, List.cons_append, List.nil_append, Nat.zero_add, Rc, show ((0 : Nat) : Int) = 0 from rfl] at c114
 unfold wholeN
 simp only
 generalize trim l = L at c34 c114 hll ⊢
 generalize sumP (opX (wholeN n)) L 0 = r at c114 ⊢
 obtain ⟨⟨ek, en, ed, eu, el⟩, ok, a1⟩ := r
 have hq : ((a1 : Int) == (L.length : Int)) = (a1 == L.length) := by rw [Bool.eq_iff_iff, beq_iff_eq, beq_iff_eq]; omega
 rw [e97 (by simp) (by rfl)]
 simp only [xC_eq, xZ, Rc] at c114 ⊢
 cases ok with
 | false =>
  rw [Bool.false_and]
  simp (config := { maxSteps := 4000000 }) only [go_sem, b97, Tryz.f97, hlo, l1, l2, c34, c114, rowsC_len, hq]
  all_goals rfl
 | true =>
  rw [Bool.true_and]
  simp (config := { maxSteps := 4000000 }) only [go_sem, b97, Tryz.f97, hlo, l1, l2, c34, c114, rowsC_len, hq]
  all_goals rfl
end Go.Lift.V1
end

section
open Go.Proofs
namespace Go.Lift.V1
open Rul
open Utf (By)
variable {lo : Nat} {h : Heap}
def okT (t : Tk4) : Prop := By t.b /\ t.b.length <= 1000000000 /\ (-9223372036854775808 <= t.n /\ t.n <= 9223372036854775807) /\ (-9223372036854775808 <= t.d /\ t.d <= 9223372036854775807)
theorem f72a {t : Tk4} {kids : List CV} {w : List CV -> X × Bool} (hlo : lo <= h.length) (ht : okT t) (hk : (t.k == 10) = true) :
  E lo 72 [.agg (rowV (.mk t kids))] h = some (.tup [.agg (xC (exprF w (.mk t kids)).1), .v (.bool (exprF w (.mk t kids)).2)], h) := by
 have l1 : lo <= h.length + 1 := by omega
 have l2 : lo <= h.length + 1 + 1 := by omega
 have l3 : lo <= h.length + 3 := by omega
 have c94 := fun lo h hlo => f94 (lo := lo) (h := h) (n := t.n) (d := t.d) (u := 0) ht.2.2.1.1 ht.2.2.1.2 ht.2.2.2.2 hlo
 rw [exprF_num hk, e72 (by simp) (by rfl)]
 simp only
 generalize numX t.n t.d 0 = x at c94 ⊢
 obtain ⟨ek, en, ed, eu, el⟩ := x
 simp only [xC_eq, rowV_eq] at c94 ⊢
 simp only [go_sem, b72, Tryz.f72, hlo, l1, l2, l3, hk, c94]
 all_goals rfl
theorem f72b {t : Tk4} {kids : List CV} {w : List CV -> X × Bool} (hlo : lo <= h.length) (ht : okT t) (h0 : (t.k == 10) = false) (hk : (t.k == 12) = true) :
  E lo 72 [.agg (rowV (.mk t kids))] h = some (.tup [.agg (xC (exprF w (.mk t kids)).1), .v (.bool (exprF w (.mk t kids)).2)], h) := by
 have l1 : lo <= h.length + 1 := by omega
 have l2 : lo <= h.length + 1 + 1 := by omega
 have l3 : lo <= h.length + 3 := by omega
 have c95 := fun lo h hlo => f95 (lo := lo) (h := h) (b := t.b) hlo ht.1 ht.2.1
 have c94 := fun lo h hlo => f94 (lo := lo) (h := h) (n := t.n) (d := t.d) (u := unitN t.b) ht.2.2.1.1 ht.2.2.1.2 ht.2.2.2.2 hlo
 rw [exprF_dim h0 hk, e72 (by simp) (by rfl)]
 simp only
 generalize numX t.n t.d (unitN t.b) = x at c94 ⊢
 obtain ⟨ek, en, ed, eu, el⟩ := x
 simp only [xC_eq, rowV_eq] at c94 ⊢
 simp only [go_sem, b72, Tryz.f72, hlo, l1, l2, l3, h0, hk, c94, c95]
 all_goals rfl
theorem f72c {t : Tk4} {kids : List CV} {w : List CV -> X × Bool} (hlo : lo <= h.length) (h0 : (t.k == 10) = false) (h1 : (t.k == 12) = false) (hk : (t.k == 2) = false) :
  E lo 72 [.agg (rowV (.mk t kids))] h = some (.tup [.agg (xC (exprF w (.mk t kids)).1), .v (.bool (exprF w (.mk t kids)).2)], h) := by
 have l1 : lo <= h.length + 1 := by omega
 have l2 : lo <= h.length + 1 + 1 := by omega
 rw [exprF_no h0 h1 hk, e72 (by simp) (by rfl)]
 simp only [zeroX, xC_eq, rowV_eq, xsC_nil]
 simp only [go_sem, b72, Tryz.f72, hlo, l1, l2, h0, h1, hk]
 all_goals rfl
theorem name_beq {t : Tk4} (ht : okT t) {w : List Int} (hw : w.all (fun c => decide (0 <= c) && decide (c < 256)) = true) : ((Rul.bs (small t.b)).toList == (Rul.bs w).toList) = (small t.b == w) :=
 bs_beq' (by_small' ht.1) fun c hc => by
  have := List.all_eq_true.1 hw c hc
  simp only [Bool.and_eq_true, decide_eq_true_eq] at this
  omega
theorem k_calc : Rul.bs wCalc = ⟨#[99, 97, 108, 99]⟩ := rfl
theorem k_min : Rul.bs wMin = ⟨#[109, 105, 110]⟩ := rfl
theorem k_max : Rul.bs wMax = ⟨#[109, 97, 120]⟩ := rfl
theorem k_clamp : Rul.bs wClamp = ⟨#[99, 108, 97, 109, 112]⟩ := rfl
section
variable {t : Tk4} {kids : List CV} {w : List CV -> X × Bool}
theorem f72d (hlo : lo <= h.length) (ht : okT t) (h0 : (t.k == 10) = false) (h1 : (t.k == 12) = false) (hk : (t.k == 2) = true) (hn : (small t.b == wCalc) = true) (hw : W97 w kids) :
  E lo 72 [.agg (rowV (.mk t kids))] h = some (.tup [.agg (xC (exprF w (.mk t kids)).1), .v (.bool (exprF w (.mk t kids)).2)], h) := by
 have l1 : lo <= h.length + 1 := by omega
 have l2 : lo <= h.length + 1 + 1 := by omega
 have l3 : lo <= h.length + 3 := by omega
 have c96 := fun lo h hlo => f96 (lo := lo) (h := h) (l := t.b) hlo (by have := ht.2.1; omega) ht.1
 have c97 : ∀ lo h, lo <= h.length -> E lo 97 [.list .no (rowsC kids)] h = some (.tup [.agg (xC (w kids).1), .v (.bool (w kids).2)], h) := hw
 have q1 := name_beq ht (w := wCalc) (by decide)
 rw [hn, k_calc] at q1
 rw [exprF_fun h0 h1 hk, if_pos hn, e72 (by simp) (by rfl)]
 generalize w kids = r at c97 ⊢
 obtain ⟨⟨ek, en, ed, eu, el⟩, eb⟩ := r
 simp only [xC_eq, rowV_eq] at c97 ⊢
 simp only [go_sem, b72, Tryz.f72, hlo, l1, l2, l3, h0, h1, hk, c96, q1, c97]
 all_goals rfl
theorem f72e (hlo : lo <= h.length) (ht : okT t) (h0 : (t.k == 10) = false) (h1 : (t.k == 12) = false) (hk : (t.k == 2) = true) (n1 : (small t.b == wCalc) = false) (n2 : (small t.b == wMin) = false) (n3 : (small t.b == wMax) = false) (n4 : (small t.b == wClamp) = false) :
  E lo 72 [.agg (rowV (.mk t kids))] h = some (.tup [.agg (xC (exprF w (.mk t kids)).1), .v (.bool (exprF w (.mk t kids)).2)], h) := by
 have l1 : lo <= h.length + 1 := by omega
 have l2 : lo <= h.length + 1 + 1 := by omega
 have l3 : lo <= h.length + 3 := by omega
 have c96 := fun lo h hlo => f96 (lo := lo) (h := h) (l := t.b) hlo (by have := ht.2.1; omega) ht.1
 have q1 := name_beq ht (w := wCalc) (by decide)
 have q2 := name_beq ht (w := wMin) (by decide)
 have q3 := name_beq ht (w := wMax) (by decide)
 have q4 := name_beq ht (w := wClamp) (by decide)
 rw [n1, k_calc] at q1
 rw [n2, k_min] at q2
 rw [n3, k_max] at q3
 rw [n4, k_clamp] at q4
 rw [exprF_fun h0 h1 hk, if_neg (by rw [n1]; simp), if_neg (by rw [n2]; simp), if_neg (by rw [n3]; simp), if_neg (by rw [n4]; simp), e72 (by simp) (by rfl)]
 simp only [zeroX, xC_eq, rowV_eq, xsC_nil]
 simp only [go_sem, b72, Tryz.f72, hlo, l1, l2, l3, h0, h1, hk, c96, q1, q2, q3, q4]
 all_goals rfl
abbrev N72 (h : Heap) (K : Int) (ps : List (List CV)) (j : Int) : Env := [(2, .ptr (h.length + 1) 0), (5, .v (.int .i64 K)), (6, .ptr (h.length + 3) 0), (56, .list .no (pcsC ps)), (57, .v (.int .i64 ps.length)), (58, .v (.int .i64 j))]
abbrev H72 (h : Heap) (t : Tk4) (kids : List CV) (K : Int) (ks : List X) : Heap := h ++ [.cells (rowV (.mk t kids)), .cells xZ, .cells [.v (.int .i64 t.k), .v (.string (Rul.bs t.b)), .v (.int .i64 t.n), .v (.int .i64 t.d), .v (.bool t.w), .v (.bool t.i)], .cells (xO K ks)]
theorem r72a {K : Int} {ps : List (List CV)} {p : List CV} {j : Nat} {ks : List X} {e : X} (hlo : lo <= h.length) (hl : ps.length <= 1000000000) (hks : ks.length <= 1000000000) (hg : ps[j]? = some p)
  (hw : ∀ lo h, lo <= h.length -> E lo 97 [.list .no (rowsC p)] h = some (.tup [.agg (xC e), .v (.bool true)], h)) :
  evCode ⟨Tryz.prog, E, lo, h.length, h72⟩ loopW l72x0 (N72 h K ps j, H72 h t kids K ks) = some (.normal, N72 h K ps (j + 1 : Nat), H72 h t kids K (ks ++ [e])) := by
 have l1 : lo <= h.length + 1 := by omega
 have l2 : lo <= h.length + 1 + 1 := by omega
 have l3 : lo <= h.length + 3 := by omega
 have l4 : lo <= h.length + 4 := by omega
 have hlt : j < ps.length := (List.getElem?_eq_some_iff.1 hg).1
 have hgr : (pcsC ps)[j]? = some [.list .no (rowsC p)] := by unfold pcsC; rw [List.getElem?_map, hg]; rfl
 have q1 : decide ((j : Int) < (ps.length : Int)) = true := by rw [decide_eq_true_iff]; omega
 have t1 : Int.toNat (j : Int) = j := by omega
 have hwr : IntKind.i64.wrap ((j : Int) + 1) = ((j + 1 : Nat) : Int) := wrap_succ (by omega)
 obtain ⟨ek, en, ed, eu, el⟩ := e
 simp only [xC_eq] at hw
 have o1 := lim40 hks
 have o2 := lim41 hks
 have ra := xsC_all ks
 have rl := xsC_len ks
 have rb := xsC_ibr ks
 simp only [N72, H72, rowV_eq, xZ, xO, <- xsC_app, xsC_cons, xsC_nil, xC_eq]
 generalize xsC ks = Q at ra rl rb ⊢
 simp only [go_sem, l72x0, b72, Tryz.f72, hlo, l1, l2, l3, l4, hgr, q1, t1, hwr, hw, o1, o2, ra, rl, rb]
 all_goals rfl
theorem r72b {K : Int} {ps : List (List CV)} {p : List CV} {j : Nat} {ks : List X} {e : X} (hlo : lo <= h.length) (hl : ps.length <= 1000000000) (hg : ps[j]? = some p)
  (hw : ∀ lo h, lo <= h.length -> E lo 97 [.list .no (rowsC p)] h = some (.tup [.agg (xC e), .v (.bool false)], h)) :
  evCode ⟨Tryz.prog, E, lo, h.length, h72⟩ loopW l72x0 (N72 h K ps j, H72 h t kids K ks) = some (.ret, [(2, .ptr (h.length + 1) 0), (3, .v (.bool false))], h ++ [.cells (rowV (.mk t kids)), .cells xZ, .cells [.v (.int .i64 t.k), .v (.string (Rul.bs t.b)), .v (.int .i64 t.n), .v (.int .i64 t.d), .v (.bool t.w), .v (.bool t.i)], .cells (xO K ks), .cells (xC e)]) := by
 have l1 : lo <= h.length + 1 := by omega
 have l2 : lo <= h.length + 1 + 1 := by omega
 have l3 : lo <= h.length + 3 := by omega
 have l4 : lo <= h.length + 4 := by omega
 have hlt : j < ps.length := (List.getElem?_eq_some_iff.1 hg).1
 have hgr : (pcsC ps)[j]? = some [.list .no (rowsC p)] := by unfold pcsC; rw [List.getElem?_map, hg]; rfl
 have q1 : decide ((j : Int) < (ps.length : Int)) = true := by rw [decide_eq_true_iff]; omega
 have t1 : Int.toNat (j : Int) = j := by omega
 obtain ⟨ek, en, ed, eu, el⟩ := e
 simp only [xC_eq] at hw
 simp only [N72, H72, rowV_eq, xZ, xO, xC_eq, zeroX, xsC_nil]
 simp only [go_sem, l72x0, b72, Tryz.f72, hlo, l1, l2, l3, l4, hgr, q1, t1, hw]
 all_goals rfl
theorem stop72 {K : Int} {ps : List (List CV)} {ks : List X} (hlo : lo <= h.length) :
  evCode ⟨Tryz.prog, E, lo, h.length, h72⟩ loopW l72x0 (N72 h K ps (ps.length : Nat), H72 h t kids K ks) = some (.exit 2, N72 h K ps (ps.length : Nat) ++ [(59, .v (.bool false))], H72 h t kids K ks) := by
 have l1 : lo <= h.length + 1 := by omega
 have l3 : lo <= h.length + 3 := by omega
 have q1 : decide ((ps.length : Int) < (ps.length : Int)) = false := by rw [decide_eq_false_iff_not]; omega
 simp only [N72, H72, rowV_eq, xZ, xO, go_sem, l72x0, b72, Tryz.f72, hlo, l1, l3, q1]
 all_goals rfl
theorem d66 : decide ((6 : Int) = 6) = true := by decide
theorem d67 : decide ((6 : Int) = 7) = false := by decide
theorem d68 : decide ((6 : Int) = 8) = false := by decide
theorem d76 : decide ((7 : Int) = 6) = false := by decide
theorem d77 : decide ((7 : Int) = 7) = true := by decide
theorem d78 : decide ((7 : Int) = 8) = false := by decide
theorem d86 : decide ((8 : Int) = 6) = false := by decide
theorem d87 : decide ((8 : Int) = 7) = false := by decide
theorem d88 : decide ((8 : Int) = 8) = true := by decide
theorem split_drop {ps : List (List CV)} {p : List CV} {j : Nat} (hg : ps[j]? = some p) : splitX w (ps.drop j) = match w p with
  | (_, false) => none
  | (e, true) => (splitX w (ps.drop (j + 1))).map (e :: ·) := by
 obtain ⟨hlt, rfl⟩ := List.getElem?_eq_some_iff.1 hg
 rw [List.drop_eq_getElem_cons hlt]
 rfl
theorem loop72 {K : Int} {ps : List (List CV)} (hlo : lo <= h.length) (hl : ps.length <= 100000000) (hw : ∀ p ∈ ps, W97 w p) : ∀ (m j : Nat) (ks : List X), j + m = ps.length -> ks.length + m <= 1000000000 ->
  match splitX w (ps.drop j) with
  | none => ∃ e ks', loopW (evCode ⟨Tryz.prog, E, lo, h.length, h72⟩ loopW l72x0) (N72 h K ps j, H72 h t kids K ks) = some (.ret, [(2, .ptr (h.length + 1) 0), (3, .v (.bool false))], h ++ [.cells (rowV (.mk t kids)), .cells xZ, .cells [.v (.int .i64 t.k), .v (.string (Rul.bs t.b)), .v (.int .i64 t.n), .v (.int .i64 t.d), .v (.bool t.w), .v (.bool t.i)], .cells (xO K ks'), .cells (xC e)])
  | some xs => loopW (evCode ⟨Tryz.prog, E, lo, h.length, h72⟩ loopW l72x0) (N72 h K ps j, H72 h t kids K ks) = some (.exit 2, N72 h K ps (ps.length : Nat) ++ [(59, .v (.bool false))], H72 h t kids K (ks ++ xs))
 | 0, j, ks, hj, hk => by
  obtain rfl : j = ps.length := by omega
  rw [List.drop_length]
  show loopW _ _ = _
  rw [loop_eq, stop72 hlo, loop_e, List.append_nil]
 | m + 1, j, ks, hj, hk => by
  have hlt : j < ps.length := by omega
  have hg := List.getElem?_eq_getElem hlt
  have hp : W97 w ps[j] := hw _ (List.getElem_mem hlt)
  rw [split_drop hg]
  unfold W97 at hp
  generalize w ps[j] = r at hp ⊢
  obtain ⟨e, b⟩ := r
  cases b with
  | false =>
   simp only
   exact ⟨e, ks, by rw [loop_eq, r72b hlo (by omega) hg hp, loop_r]⟩
  | true =>
   simp only
   have ih := loop72 (K := K) hlo hl hw m (j + 1) (ks ++ [e]) (by omega) (by simp; omega)
   rw [loop_eq, r72a hlo (by omega) (by omega) hg hp, loop_n]
   cases hx : splitX w (ps.drop (j + 1)) with
   | none => rw [hx] at ih; exact ih
   | some xs =>
    rw [hx] at ih
    simp only [Option.map_some]
    rw [ih, List.append_assoc]
    rfl
theorem splitX_len : ∀ {ps : List (List CV)} {xs : List X}, splitX w ps = some xs -> xs.length <= ps.length
 | [], xs, h => by cases h; exact Nat.le_refl _
 | p :: r, xs, h => by
  unfold splitX at h
  split at h
  ·cases h
  ·obtain ⟨ys, hy, rfl⟩ := Option.map_eq_some_iff.1 h
   have := splitX_len hy
   simp; omega
theorem f72f {K : Int} (hK : K = 6 \/ K = 7 \/ K = 8) (hlo : lo <= h.length) (ht : okT t) (hl : nodesL kids <= 10000000) (h0 : (t.k == 10) = false) (h1 : (t.k == 12) = false) (hk : (t.k == 2) = true)
  (n1 : (small t.b == wCalc) = false) (n2 : (small t.b == wMin) = decide (K = 6)) (n3 : (small t.b == wMax) = decide (K = 7)) (n4 : (small t.b == wClamp) = decide (K = 8)) (hw : ∀ p ∈ splitB kids, W97 w p) :
  E lo 72 [.agg (rowV (.mk t kids))] h = some (.tup [.agg (xC (listX K w kids).1), .v (.bool (listX K w kids).2)], h) := by
 have l1 : lo <= h.length + 1 := by omega
 have l2 : lo <= h.length + 1 + 1 := by omega
 have l3 : lo <= h.length + 3 := by omega
 have l4 : lo <= h.length + 4 := by omega
 have hln := nodesL_len kids
 have hsl := splitA_len [] kids
 have c96 := fun lo h hlo => f96 (lo := lo) (h := h) (l := t.b) hlo (by have := ht.2.1; omega) ht.1
 have c98 := fun lo h hlo => f98 (lo := lo) (h := h) (l := kids) hlo (by omega)
 have hL := loop72 (t := t) (kids := kids) (w := w) (K := K) hlo (show (splitB kids).length <= _ by unfold splitB; omega) hw (splitB kids).length 0 [] (by omega) (by show 0 + (splitB kids).length <= _; unfold splitB; omega)
 have q1 := name_beq ht (w := wCalc) (by decide)
 have q2 := name_beq ht (w := wMin) (by decide)
 have q3 := name_beq ht (w := wMax) (by decide)
 have q4 := name_beq ht (w := wClamp) (by decide)
 have pl := pcs_len (splitB kids)
 rw [n1, k_calc] at q1
 rw [n2, k_min] at q2
 rw [n3, k_max] at q3
 rw [n4, k_clamp] at q4
 rw [List.drop_zero] at hL
 rw [e72 (by simp) (by rfl)]
 have hkl : ∀ xs, splitX w (splitB kids) = some xs -> xs.length <= 1000000000 := fun xs hx => by
  have := splitX_len hx
  unfold splitB at this
  omega
 unfold listX
 cases hx : splitX w (splitB kids) with
 | none =>
  rw [hx] at hL
  obtain ⟨e, ks', hL⟩ := hL
  generalize splitB kids = PS at c98 pl hL
  simp only [zeroX, xC_eq, xsC_nil]
  rcases hK with rfl | rfl | rfl <;>
  simp only [l72x0, b72, Tryz.f72, loopAt, loops, bodyOf, N72, H72, rowV_eq, xZ, xO, xsC_nil, go_sem] at hL <;>
  simp only [rowV_eq, go_sem, b72, Tryz.f72, hlo, l1, l2, l3, l4, h0, h1, hk, c96, c98, pl, q1, q2, q3, q4, d66, d67, d68, d76, d77, d78, d86, d87, d88, hL] <;> rfl
 | some xs =>
  rw [hx] at hL
  have hxl := hkl xs hx
  simp only [List.nil_append] at hL
  generalize splitB kids = PS at c98 pl hL
  simp only [xC_eq]
  have xl := xsC_len xs
  rcases hK with rfl | rfl | rfl <;>
  simp only [l72x0, b72, Tryz.f72, loopAt, loops, bodyOf, N72, H72, rowV_eq, xZ, xO, xsC_nil, go_sem] at hL <;>
  simp only [rowV_eq, go_sem, b72, Tryz.f72, hlo, l1, l2, l3, l4, h0, h1, hk, c96, c98, pl, q1, q2, q3, q4, d66, d67, d68, d76, d77, d78, d86, d87, d88, hL, xl] <;> rfl
end
end Go.Lift.V1
end

section
open Go.Proofs
namespace Go.Lift.V1
open Rul
variable {lo : Nat} {h : Heap}
theorem f58 (hlo : lo <= h.length) (k : Int) : E lo 58 [.v (.int .i64 k)] h = some (.v (.int .i64 (closer k)), h) := by
 rw [e58 (by simp) (by rfl)]
 unfold closer
 by_cases a : k = 19
 ·subst a; simp only [go_sem, b58, Tryz.f58, hlo]; all_goals rfl
 ·by_cases b : k = 23
  ·subst b; simp only [go_sem, b58, Tryz.f58, hlo]; all_goals rfl
  ·by_cases c : k = 2
   ·subst c; simp only [go_sem, b58, Tryz.f58, hlo]; all_goals rfl
   ·by_cases d : k = 21
    ·subst d; simp only [go_sem, b58, Tryz.f58, hlo]; all_goals rfl
    ·have ha : (k == 19) = false := by simpa using a
     have hb : (k == 23) = false := by simpa using b
     have hc : (k == 2) = false := by simpa using c
     have hd : (k == 21) = false := by simpa using d
     simp only [go_sem, b58, Tryz.f58, hlo, ha, hb, hc, hd, a, b, c, d, or_self, if_false]
abbrev N47 (l : List CV) (d k : Int) : Env := [(1, .v (.int .i64 d)), (7, .list .no (rowsC l)), (8, .v (.int .i64 l.length)), (9, .v (.int .i64 k))]
theorem mayV_eq (n : Nat) (t : Tk4) (ks : List CV) : mayV n (.mk t ks) = (decide (1 <= t.k /\ t.k <= 24) && (if closer t.k = 0 then ks.isEmpty else match n with
  | 0 => false
  | n + 1 => mayL n ks)) := by
 cases n <;> rw [mayV]
theorem round54 {l : List CV} {v : CV} {n k : Nat} (hn : n <= 64) (hlo : lo <= h.length) (hl : nodesL l <= 1000000000000000000) (hg : l[k]? = some v)
  (ih : ∀ m, n = m + 1 -> ∀ lo ks h, lo <= h.length -> nodesL ks <= 1000000000000000000 -> E lo 54 [.list .no (rowsC ks), .v (.int .i64 (64 - (m : Int)))] h = some (.v (.bool (mayL m ks)), h)) :
  evCode ⟨Tryz.prog, E, lo, h.length, h54⟩ loopW l54x0 (N47 l (64 - (n : Int)) k, h) =
   if mayV n v = true then some (.normal, N47 l (64 - (n : Int)) (k + 1 : Nat), h) else some (.ret, [(4, .v (.bool false))], h ++ [.cells (rowV v)]) := by
 obtain ⟨t, ks⟩ := v
 have hlt : k < l.length := (List.getElem?_eq_some_iff.1 hg).1
 have hgr : (rowsC l)[k]? = some (rowV (.mk t ks)) := by rw [rowsC_get, hg]; rfl
 have q : decide ((k : Int) < (l.length : Int)) = true := by simp; omega
 have hll := nodesL_len l
 have hkk : nodesL ks <= nodesL l := nodesL_get (v := .mk t ks) hg
 have hw : IntKind.i64.wrap ((k : Int) + 1) = ((k + 1 : Nat) : Int) := wrap_succ (by omega)
 have hlo' : lo <= h.length + 1 := by omega
 have c46 := fun lo hlo => f58 (lo := lo) (h := h ++ [.cells (rowV (.mk t ks))]) hlo t.k
 have c46a := c46 lo (by simp; omega); have c46b := c46 h.length (by simp); have c46c := c46 (h.length + 1) (by simp)
 clear c46
 rw [mayV_eq]
 rw [rowV_eq] at *
 by_cases a1 : t.k < 1
 ·have q1 : decide (t.k < 1) = true := by simpa using a1
  have : decide (1 <= t.k /\ t.k <= 24) = false := by rw [decide_eq_false_iff_not]; omega
  rw [this, Bool.false_and, if_neg (by simp)]
  simp only [go_sem, l54x0, b54, Tryz.f54, hlo, hlo', q, hgr, q1, rowsC_len]
  all_goals rfl
 have q1 : decide (t.k < 1) = false := by simpa using a1
 by_cases a2 : 24 < t.k
 ·have q2 : decide (24 < t.k) = true := by simpa using a2
  have : decide (1 <= t.k /\ t.k <= 24) = false := by rw [decide_eq_false_iff_not]; omega
  rw [this, Bool.false_and, if_neg (by simp)]
  simp only [go_sem, l54x0, b54, Tryz.f54, hlo, hlo', q, hgr, q1, q2, rowsC_len]
  all_goals rfl
 have q2 : decide (24 < t.k) = false := by simpa using a2
 have : decide (1 <= t.k /\ t.k <= 24) = true := by rw [decide_eq_true_iff]; omega
 rw [this, Bool.true_and]
 by_cases a3 : closer t.k = 0
 ·rw [if_pos a3]
  have q3 : (closer t.k == 0) = true := by simpa using a3
  cases ks with
  | nil =>
   have q4 : decide ((0 : Int) < ((0 : Nat) : Int)) = false := rfl
   rw [if_pos (show ([] : List CV).isEmpty = true from rfl)]
   simp only [go_sem, l54x0, b54, Tryz.f54, hlo, hlo', q, hgr, q1, q2, q3, q4, hw, c46a, c46b, c46c, rowsC_len, List.length_nil]
   all_goals rfl
  | cons x r =>
   have q4 : decide ((0 : Int) < ((r.length + 1 : Nat) : Int)) = true := by rw [decide_eq_true_iff]; omega
   rw [if_neg (show ¬ (x :: r).isEmpty = true by simp)]
   simp only [go_sem, l54x0, b54, Tryz.f54, hlo, hlo', q, hgr, q1, q2, q3, q4, hw, c46a, c46b, c46c, rowsC_len, List.length_cons]
   all_goals rfl
 ·rw [if_neg a3]
  have q3 : (closer t.k == 0) = false := by simpa using a3
  cases n with
  | zero =>
   have q5 : decide ((64 : Int) <= 64 - ((0 : Nat) : Int)) = true := rfl
   rw [if_neg (show ¬ false = true by simp)]
   simp only [go_sem, l54x0, b54, Tryz.f54, hlo, hlo', q, hgr, q1, q2, q3, q5, hw, c46a, c46b, c46c, rowsC_len]
   all_goals rfl
  | succ m =>
   have q5 : decide ((64 : Int) <= 64 - ((m + 1 : Nat) : Int)) = false := by rw [decide_eq_false_iff_not]; omega
   have w2 : IntKind.i64.wrap (64 - ((m + 1 : Nat) : Int) + 1) = 64 - (m : Int) := by
    rw [wrap_i64 (by omega) (by omega)]; omega
   have c47 := fun lo hlo => ih m rfl lo ks (h ++ [.cells (rowV (.mk t ks))]) hlo (by omega)
   rw [rowV_eq] at c47
   have c47a := c47 lo (by simp; omega); have c47b := c47 h.length (by simp); have c47c := c47 (h.length + 1) (by simp)
   clear c47 ih
   show _ = if mayL m ks = true then _ else _
   cases hm : mayL m ks with
   | true =>
    rw [hm] at c47a c47b c47c
    rw [if_pos rfl]
    simp only [go_sem, l54x0, b54, Tryz.f54, hlo, hlo', q, hgr, q1, q2, q3, q5, hw, w2, c46a, c46b, c46c, c47a, c47b, c47c, rowsC_len]
    all_goals rfl
   | false =>
    rw [hm] at c47a c47b c47c
    rw [if_neg (by simp)]
    simp only [go_sem, l54x0, b54, Tryz.f54, hlo, hlo', q, hgr, q1, q2, q3, q5, hw, w2, c46a, c46b, c46c, c47a, c47b, c47c, rowsC_len]
    all_goals rfl
theorem stop54 {l : List CV} {d : Int} (hlo : lo <= h.length) : evCode ⟨Tryz.prog, E, lo, h.length, h54⟩ loopW l54x0 (N47 l d l.length, h) =
   some (.exit 0, N47 l d l.length ++ [(10, .v (.bool false))], h) := by
 have q : decide ((l.length : Int) < (l.length : Int)) = false := by simp
 simp only [go_sem, l54x0, b54, Tryz.f54, hlo, q]
 all_goals rfl
theorem mayL_cons (n : Nat) (v : CV) (r : List CV) : mayL n (v :: r) = (mayV n v && mayL n r) := by rw [mayL]
theorem mayL_nil (n : Nat) : mayL n [] = true := by rw [mayL]
theorem loop54 {l : List CV} {n : Nat} (hn : n <= 64) (hlo : lo <= h.length) (hl : nodesL l <= 1000000000000000000)
  (ih : ∀ m, n = m + 1 -> ∀ lo ks h, lo <= h.length -> nodesL ks <= 1000000000000000000 -> E lo 54 [.list .no (rowsC ks), .v (.int .i64 (64 - (m : Int)))] h = some (.v (.bool (mayL m ks)), h)) :
  ∀ (m k : Nat), k + m = l.length -> if mayL n (l.drop k) = true then
    loopW (evCode ⟨Tryz.prog, E, lo, h.length, h54⟩ loopW l54x0) (N47 l (64 - (n : Int)) k, h) = some (.exit 0, N47 l (64 - (n : Int)) l.length ++ [(10, .v (.bool false))], h)
   else ∃ X, loopW (evCode ⟨Tryz.prog, E, lo, h.length, h54⟩ loopW l54x0) (N47 l (64 - (n : Int)) k, h) = some (.ret, [(4, .v (.bool false))], h ++ X) := by
 intro m
 induction m with
 | zero =>
  intro k hk
  obtain rfl : k = l.length := by omega
  rw [List.drop_length, if_pos (mayL_nil n), loop_eq, stop54 hlo, loop_e]
 | succ m ihm =>
  intro k hk
  have hlt : k < l.length := by omega
  have hg : l[k]? = some l[k] := List.getElem?_eq_getElem hlt
  have hd : l.drop k = l[k] :: l.drop (k + 1) := List.drop_eq_getElem_cons hlt
  rw [hd, mayL_cons]
  generalize l[k] = v at *
  have hr := round54 hn hlo hl hg ih
  cases hm : mayV n v with
  | false =>
   rw [hm, if_neg (by simp)] at hr
   rw [Bool.false_and, if_neg (by simp)]
   exact ⟨_, by rw [loop_eq, hr, loop_r]⟩
  | true =>
   rw [hm, if_pos rfl] at hr
   rw [Bool.true_and, loop_eq, hr, loop_n]
   exact ihm (k + 1) (by omega)
theorem f54 : ∀ (n : Nat), n <= 64 -> ∀ (lo : Nat) (l : List CV) (h : Heap), lo <= h.length -> nodesL l <= 1000000000000000000 -> E lo 54 [.list .no (rowsC l), .v (.int .i64 (64 - (n : Int)))] h = some (.v (.bool (mayL n l)), h) := by
 intro n
 induction n with
 | zero =>
  intro hn lo l h hlo hl
  have hL := loop54 (lo := lo) (h := h) hn hlo hl (fun m hm => by omega) l.length 0 (by omega)
  have n0 : ((0 : Nat) : Int) = 0 := rfl
  rw [List.drop_zero] at hL
  rw [e54 (by simp) (by rfl)]
  cases hm : mayL 0 l with
  | false =>
   rw [hm, if_neg (by simp)] at hL
   obtain ⟨X, hL⟩ := hL
   simp only [l54x0, b54, Tryz.f54, loopAt, loops, bodyOf, go_sem, N47, n0] at hL
   simp only [go_sem, b54, Tryz.f54, hlo, hL, rowsC_len, n0]
   all_goals rfl
  | true =>
   rw [hm, if_pos rfl] at hL
   simp only [l54x0, b54, Tryz.f54, loopAt, loops, bodyOf, go_sem, N47, n0, List.cons_append, List.nil_append] at hL
   simp only [go_sem, b54, Tryz.f54, hlo, hL, rowsC_len, n0]
   all_goals rfl
 | succ n ih =>
  intro hn lo l h hlo hl
  have hL := loop54 (lo := lo) (h := h) hn hlo hl (fun m hm => by
   obtain rfl : n = m := by omega
   exact fun lo ks h hlo hk => ih (by omega) lo ks h hlo hk) l.length 0 (by omega)
  have n0 : ((0 : Nat) : Int) = 0 := rfl
  rw [List.drop_zero] at hL
  rw [e54 (by simp) (by rfl)]
  cases hm : mayL (n + 1) l with
  | false =>
   rw [hm, if_neg (by simp)] at hL
   obtain ⟨X, hL⟩ := hL
   simp only [l54x0, b54, Tryz.f54, loopAt, loops, bodyOf, go_sem, N47, n0] at hL
   simp only [go_sem, b54, Tryz.f54, hlo, hL, rowsC_len, n0]
   all_goals rfl
  | true =>
   rw [hm, if_pos rfl] at hL
   simp only [l54x0, b54, Tryz.f54, loopAt, loops, bodyOf, go_sem, N47, n0, List.cons_append, List.nil_append] at hL
   simp only [go_sem, b54, Tryz.f54, hlo, hL, rowsC_len, n0]
   all_goals rfl
theorem f32 {l : List CV} (hlo : lo <= h.length) (hl : nodesL l <= 1000000000000000000) : E lo 32 [.list .no (rowsC l)] h = some (.v (.bool (mayL 64 l)), h) := by
 have k := fun lo hlo => f54 64 (by omega) lo l h hlo hl
 rw [show (64 : Int) - ((64 : Nat) : Int) = 0 from rfl] at k
 have ka := k lo hlo; have kb := k h.length (Nat.le_refl _)
 rw [e32 (by simp) (by rfl)]
 simp only [go_sem, b32, Tryz.f32, hlo, ka, kb]
 all_goals rfl
end Go.Lift.V1
end

section
open Go.Proofs
namespace Go.Lift.V1
open Rul
open Utf (By)
variable {lo : Nat} {h : Heap}
mutual
def okWV : CV -> Prop
 | .mk t kids => okT t /\ okWL kids
def okWL : List CV -> Prop
 | [] => True
 | v :: r => okWV v /\ okWL r
end
theorem okWL_mem : ∀ {l : List CV}, okWL l -> ∀ v ∈ l, okWV v
 | [], _, _, h => nomatch h
 | x :: r, hs, v, h => by
  rw [okWL] at hs
  rcases List.mem_cons.1 h with rfl | h
  ·exact hs.1
  ·exact okWL_mem hs.2 v h
theorem okWL_of : ∀ {l : List CV}, (∀ v ∈ l, okWV v) -> okWL l
 | [], _ => by rw [okWL]; trivial
 | x :: r, hs => by
  rw [okWL]
  exact ⟨hs x (List.mem_cons_self ..), okWL_of fun v hv => hs v (List.mem_cons_of_mem _ hv)⟩
theorem nodesL_mem {l : List CV} {v : CV} (h : v ∈ l) : nodesV v <= nodesL l := by
 induction l with
 | nil => cases h
 | cons x r ih =>
  rw [nodesL_cons]
  rcases List.mem_cons.1 h with rfl | h
  ·omega
  ·have := ih h; omega
theorem nodesL_append (a b : List CV) : nodesL (a ++ b) = nodesL a + nodesL b := by
 induction a with
 | nil => rw [List.nil_append, nodesL_nil]; omega
 | cons x r ih => rw [List.cons_append, nodesL_cons, nodesL_cons, ih]; omega
theorem splitA_nodes : ∀ (acc l p : List CV), p ∈ splitA acc l -> nodesL p <= nodesL acc + nodesL l
 | acc, [], p, hp => by
  rw [splitA, List.mem_singleton] at hp
  subst hp
  have := nodesL_trim acc
  omega
 | acc, u :: r, p, hp => by
  rw [nodesL_cons]
  rw [splitA] at hp
  split at hp
  ·rcases List.mem_cons.1 hp with rfl | hp
   ·have := nodesL_trim acc; omega
   ·have := splitA_nodes [] r p hp
    rw [nodesL_nil] at this
    omega
  ·have := splitA_nodes (acc ++ [u]) r p hp
   rw [nodesL_append, nodesL_cons, nodesL_nil] at this
   omega
theorem split_ok {l p : List CV} (hl : okWL l) (hp : p ∈ splitB l) : okWL p := okWL_of fun v hv => by
 rcases splitA_mem [] l p hp v hv with h | h
 ·cases h
 ·exact okWL_mem hl v h
theorem split_nodes {l p : List CV} (hp : p ∈ splitB l) : nodesL p <= nodesL l := by
 have := splitA_nodes [] l p hp
 rw [nodesL_nil] at this
 omega
theorem beq_ne {a b c : List Int} (h : (a == b) = true) (hn : b ≠ c) : (a == c) = false := by
 rw [beq_iff_eq] at h
 subst h
 exact beq_eq_false_iff_ne.2 hn
theorem expr_of {w : List CV -> X × Bool} {v : CV} (hv : okWV v) (hl : nodesV v <= 10000000) (h1 : W97 w v.ks) (h2 : ∀ p ∈ splitB v.ks, W97 w p) : W72 w v := by
 obtain ⟨t, kids⟩ := v
 rw [okWV] at hv
 have hk : nodesL kids <= 10000000 := by
  rw [nodesV_eq, show (CV.mk t kids).ks = kids from rfl] at hl
  omega
 intro lo h hlo
 cases q0 : t.k == 10 with
 | true => exact f72a hlo hv.1 q0
 | false =>
  cases q1 : t.k == 12 with
  | true => exact f72b hlo hv.1 q0 q1
  | false =>
   cases q2 : t.k == 2 with
   | false => exact f72c hlo q0 q1 q2
   | true =>
    cases n1 : small t.b == wCalc with
    | true => exact f72d hlo hv.1 q0 q1 q2 n1 h1
    | false =>
     cases n2 : small t.b == wMin with
     | true =>
      have n3 := beq_ne n2 (show wMin ≠ wMax by decide)
      have n4 := beq_ne n2 (show wMin ≠ wClamp by decide)
      rw [exprF_fun q0 q1 q2, if_neg (by rw [n1]; simp), if_pos n2]
      exact f72f (K := 6) (.inl rfl) hlo hv.1 hk q0 q1 q2 n1 (by rw [n2]; rfl) (by rw [n3]; rfl) (by rw [n4]; rfl) h2
     | false =>
      cases n3 : small t.b == wMax with
      | true =>
       have n4 := beq_ne n3 (show wMax ≠ wClamp by decide)
       rw [exprF_fun q0 q1 q2, if_neg (by rw [n1]; simp), if_neg (by rw [n2]; simp), if_pos n3]
       exact f72f (K := 7) (.inr (.inl rfl)) hlo hv.1 hk q0 q1 q2 n1 (by rw [n2]; rfl) (by rw [n3]; rfl) (by rw [n4]; rfl) h2
      | false =>
       cases n4 : small t.b == wClamp with
       | true =>
        rw [exprF_fun q0 q1 q2, if_neg (by rw [n1]; simp), if_neg (by rw [n2]; simp), if_neg (by rw [n3]; simp), if_pos n4]
        exact f72f (K := 8) (.inr (.inr rfl)) hlo hv.1 hk q0 q1 q2 n1 (by rw [n2]; rfl) (by rw [n3]; rfl) (by rw [n4]; rfl) h2
       | false => exact f72e hlo hv.1 q0 q1 q2 n1 n2 n3 n4
theorem ks_nodes (v : CV) : nodesL v.ks + 1 <= nodesV v := by
 rw [nodesV_eq]
 omega
theorem ks_ok {v : CV} (h : okWV v) : okWL v.ks := by
 obtain ⟨t, kids⟩ := v
 rw [okWV] at h
 exact h.2
theorem tok_ok {v : CV} (h : okWV v) : okT v.t := by
 obtain ⟨t, kids⟩ := v
 rw [okWV] at h
 exact h.1
theorem whole_ok : ∀ (n : Nat) (l : List CV), nodesL l < n -> nodesL l <= 10000000 -> okWL l -> W97 (wholeN n) l
 | 0, l, hn, _, _ => by omega
 | n + 1, l, hn, hl, ho => by
  intro lo h hlo
  have hm : ∀ v ∈ trim l, okWV v /\ nodesV v <= nodesL l := fun v hv => ⟨okWL_mem ho v (trim_mem hv), nodesL_mem (trim_mem hv)⟩
  refine f97 hlo (by omega) (fun v hv => (tok_ok (hm v hv).1).1) fun v hv => ?_
  obtain ⟨o, hnv⟩ := hm v hv
  have hk := ks_nodes v
  have a1 := whole_ok n v.ks (by omega) (by omega) (ks_ok o)
  exact ⟨a1, expr_of o (by omega) a1 fun p hp => whole_ok n p (by have := split_nodes hp; omega) (by have := split_nodes hp; omega) (split_ok (ks_ok o) hp)⟩
theorem expr_ok {n : Nat} {v : CV} (hn : nodesV v <= n) (hl : nodesV v <= 10000000) (ho : okWV v) : W72 (wholeN n) v := by
 have hk := ks_nodes v
 exact expr_of ho hl (whole_ok n v.ks (by omega) (by omega) (ks_ok ho)) fun p hp => whole_ok n p (by have := split_nodes hp; omega) (by have := split_nodes hp; omega) (split_ok (ks_ok ho) hp)
theorem f60 {l : List CV} {n : Nat} (hlo : lo <= h.length) (hn : nodesL l <= n) (hl : nodesL l <= 10000000) (ho : okWL l) :
  E lo 60 [.list .no (rowsC l)] h = some (.tup [.agg (xC (parseX n l).1), .v (.int .i64 (parseX n l).2)], h) := by
 have l1 : lo <= h.length + 1 := by omega
 have l2 : lo <= h.length + 1 + 1 := by omega
 have c32 := fun lo h hlo => f32 (lo := lo) (h := h) (l := l) hlo (by omega)
 have c34 := fun lo h hlo => f34 (lo := lo) (h := h) (l := l) hlo (by omega)
 have hm : ∀ v ∈ trim l, okWV v /\ nodesV v <= nodesL l := fun v hv => ⟨okWL_mem ho v (trim_mem hv), nodesL_mem (trim_mem hv)⟩
 have hll := nodesL_len (trim l)
 have htl := nodesL_trim l
 unfold parseX
 rw [e60 (by simp) (by rfl)]
 cases q : mayL 64 l with
 | false =>
  rw [q] at c32
  rw [if_neg (by simp)]
  simp only [zeroX, xC_eq, xsC_nil]
  simp only [go_sem, b60, Tryz.f60, hlo, l1, l2, c32]
  all_goals rfl
 | true =>
  rw [q] at c32
  rw [if_pos rfl]
  generalize trim l = L at c34 hm hll htl ⊢
  match L, c34, hm, hll, htl with
  | [], c34, _, _, _ =>
   have q1 : (((0 : Nat) : Int) != 1) = true := rfl
   have q1' : ((0 : Int) != 1) = true := rfl
   rw [rowsC_nil] at c34
   simp only [zeroX, xC_eq, xsC_nil]
   simp only [go_sem, b60, Tryz.f60, hlo, l1, l2, c32, c34, q1, q1', List.length_nil]
   all_goals rfl
  | [v], c34, hm, _, _ =>
   have hv := hm v (List.mem_singleton.2 rfl)
   have c72 := expr_ok (n := n) (v := v) (by omega) (by omega) hv.1
   unfold W72 at c72
   unfold exprN
   have q1 : (((0 + 1 : Nat) : Int) != 1) = false := rfl
   have q1' : ((1 : Int) != 1) = false := rfl
   rw [rowsC_cons, rowsC_nil] at c34
   simp only
   generalize exprF (wholeN n) v = r at c72 ⊢
   obtain ⟨⟨ek, en, ed, eu, el⟩, b⟩ := r
   obtain ⟨t, kids⟩ := v
   cases b with
   | true =>
    simp only [xC_eq, rowV_eq] at c34 c72 ⊢
    simp only [go_sem, b60, Tryz.f60, hlo, l1, l2, c32, c34, c72, q1, q1', List.length_nil, List.length_cons]
    all_goals rfl
   | false =>
    simp only [zeroX, xC_eq, rowV_eq, xsC_nil] at c34 c72 ⊢
    simp only [go_sem, b60, Tryz.f60, hlo, l1, l2, c32, c34, c72, q1, q1', List.length_nil, List.length_cons]
    all_goals rfl
  | v :: u :: r, c34, _, hll, htl =>
   have q1 : (((r.length + 1 + 1 : Nat) : Int) != 1) = true := by rw [bne_iff_ne]; omega
   rw [rowsC_cons, rowsC_cons] at c34
   simp only [zeroX, xC_eq, xsC_nil]
   simp only [go_sem, b60, Tryz.f60, hlo, l1, l2, c32, c34, q1, List.length_cons, rowsC_len]
   all_goals rfl
end Go.Lift.V1
end

section
open Go.Proofs
namespace Go.Lift.V1
open Rul
open Utf (By)
variable {lo : Nat} {h : Heap}
def strsV (ws : List ByteArray) : List (List V) := ws.map fun x => [.v (.string x)]
def hasS (ws : List ByteArray) (s : ByteArray) : Bool := ws.any fun x => s.toList == x.toList
abbrev N59 (ws : List ByteArray) (s : ByteArray) (i : Int) : Env := [(0, .list .no (strsV ws)), (1, .v (.string s)), (7, .v (.int .i64 ws.length)), (8, .v (.int .i64 i))]
section
variable {ws : List ByteArray} {s : ByteArray}
theorem r59 {x : ByteArray} {i : Nat} (hlo : lo <= h.length) (hl : ws.length <= 1000000000) (hg : ws[i]? = some x) :
  evCode ⟨Tryz.prog, E, lo, h.length, h59⟩ loopW l59x0 (N59 ws s i, h) = if (s.toList == x.toList) = true then some (.ret, [(4, .v (.int .i64 i))], h) else some (.normal, N59 ws s (i + 1 : Nat), h) := by
 have hlt : i < ws.length := (List.getElem?_eq_some_iff.1 hg).1
 have hgr : (strsV ws)[i]? = some [.v (.string x)] := by unfold strsV; rw [List.getElem?_map, hg]; rfl
 have q1 : decide ((i : Int) < (ws.length : Int)) = true := by rw [decide_eq_true_iff]; omega
 have t1 : Int.toNat (i : Int) = i := by omega
 have hwr : IntKind.i64.wrap ((i : Int) + 1) = ((i + 1 : Nat) : Int) := wrap_succ (by omega)
 cases q : s.toList == x.toList with
 | true =>
  rw [if_pos rfl]
  simp only [N59, go_sem, l59x0, b59, Tryz.f59, hlo, hgr, q1, t1, hwr, q]
  all_goals rfl
 | false =>
  rw [if_neg (by simp)]
  simp only [N59, go_sem, l59x0, b59, Tryz.f59, hlo, hgr, q1, t1, hwr, q]
  all_goals rfl
theorem s59 (hlo : lo <= h.length) : evCode ⟨Tryz.prog, E, lo, h.length, h59⟩ loopW l59x0 (N59 ws s (ws.length : Nat), h) = some (.exit 0, N59 ws s (ws.length : Nat) ++ [(9, .v (.bool false))], h) := by
 have q1 : decide ((ws.length : Int) < (ws.length : Int)) = false := by rw [decide_eq_false_iff_not]; omega
 simp only [N59, go_sem, l59x0, b59, Tryz.f59, hlo, q1]
 all_goals rfl
theorem loop59 (hlo : lo <= h.length) (hl : ws.length <= 1000000000) : ∀ m i : Nat, i + m = ws.length ->
  (hasS (ws.drop i) s = true /\ ∃ j : Nat, loopW (evCode ⟨Tryz.prog, E, lo, h.length, h59⟩ loopW l59x0) (N59 ws s i, h) = some (.ret, [(4, .v (.int .i64 j))], h)) \/
  (hasS (ws.drop i) s = false /\ loopW (evCode ⟨Tryz.prog, E, lo, h.length, h59⟩ loopW l59x0) (N59 ws s i, h) = some (.exit 0, N59 ws s (ws.length : Nat) ++ [(9, .v (.bool false))], h))
 | 0, i, hm => by
  obtain rfl : i = ws.length := by omega
  rw [List.drop_length]
  exact .inr ⟨rfl, by rw [loop_eq, s59 hlo, loop_e]⟩
 | m + 1, i, hm => by
  have hlt : i < ws.length := by omega
  rw [loop_eq, r59 hlo hl (List.getElem?_eq_getElem hlt), List.drop_eq_getElem_cons hlt]
  by_cases q : (s.toList == ws[i].toList) = true
  ·rw [if_pos q, loop_r]
   exact .inl ⟨by unfold hasS; rw [List.any_cons, q, Bool.true_or], i, rfl⟩
  ·rw [if_neg q, loop_n]
   have e : hasS (ws[i] :: ws.drop (i + 1)) s = hasS (ws.drop (i + 1)) s := by
    unfold hasS
    rw [List.any_cons, show (s.toList == ws[i].toList) = false from by simpa using q, Bool.false_or]
   rw [e]
   exact loop59 hlo hl m (i + 1) (by omega)
theorem f37 (hlo : lo <= h.length) (hl : ws.length <= 1000000000) : E lo 37 [.list .no (strsV ws), .v (.string s)] h = some (.v (.bool (hasS ws s)), h) := by
 have sl : (strsV ws).length = ws.length := by unfold strsV; rw [List.length_map]
 have c59 : (hasS ws s = true /\ ∀ lo h, lo <= h.length -> ∃ j : Nat, E lo 59 [.list .no (strsV ws), .v (.string s)] h = some (.v (.int .i64 j), h)) \/
   (hasS ws s = false /\ ∀ lo h, lo <= h.length -> E lo 59 [.list .no (strsV ws), .v (.string s)] h = some (.v (.int .i64 (-1)), h)) := by
  cases hs : hasS ws s with
  | true =>
   refine .inl ⟨rfl, fun lo h hlo => ?_⟩
   rcases loop59 (s := s) hlo hl ws.length 0 (by omega) with ⟨_, j, hL⟩ | ⟨h0, _⟩
   ·refine ⟨j, ?_⟩
    rw [e59 (by simp) (by rfl)]
    simp only [l59x0, b59, Tryz.f59, loopAt, loops, bodyOf, N59, show ((0 : Nat) : Int) = 0 from rfl, go_sem] at hL
    simp only [go_sem, b59, Tryz.f59, hlo, sl, hL]
    all_goals rfl
   ·rw [List.drop_zero, hs] at h0; cases h0
  | false =>
   refine .inr ⟨rfl, fun lo h hlo => ?_⟩
   rcases loop59 (s := s) hlo hl ws.length 0 (by omega) with ⟨h0, _⟩ | ⟨_, hL⟩
   ·rw [List.drop_zero, hs] at h0; cases h0
   ·rw [e59 (by simp) (by rfl)]
    simp only [l59x0, b59, Tryz.f59, loopAt, loops, bodyOf, N59, show ((0 : Nat) : Int) = 0 from rfl, go_sem] at hL
    simp only [go_sem, b59, Tryz.f59, hlo, sl, hL]
    all_goals rfl
 rw [e37 (by simp) (by rfl)]
 rcases c59 with ⟨h1, c⟩ | ⟨h1, c⟩
 ·rw [h1]
  obtain ⟨j, cj⟩ := c lo h hlo
  have q : decide ((0 : Int) <= (j : Int)) = true := by rw [decide_eq_true_iff]; omega
  simp only [go_sem, b37, Tryz.f37, hlo, cj, q]
  all_goals rfl
 ·rw [h1]
  have q : decide ((0 : Int) <= (-1 : Int)) = false := rfl
  simp only [go_sem, b37, Tryz.f37, hlo, c, q]
  all_goals rfl
end
def namedB : List CV -> Bool
 | [] => false
 | .mk u _ :: r => u.k == 1 && custR u.b && okRest r
theorem useOk_named (kids : List CV) : useOk kids = namedB (trim kids) := by
 unfold useOk namedB
 rfl
theorem f55 {l : List CV} (hlo : lo <= h.length) (hl : nodesL l <= 10000000) (ho : okWL l) : E lo 55 [.list .no (rowsC l)] h = some (.v (.bool (namedB l)), h) := by
 match l, hl, ho with
 | [], _, _ =>
  have q1' : ((0 : Int) == 0) = true := rfl
  rw [e55 (by simp) (by rfl), rowsC_nil]
  simp only [go_sem, b55, Tryz.f55, hlo, q1', List.length_nil]
  all_goals rfl
 | .mk u ks :: r, hl, ho =>
  rw [okWL, okWV] at ho
  rw [nodesL_cons] at hl
  have ht := ho.1.1
  have hln := nodesL_len r
  have c15 := fun lo h hlo => f15 (lo := lo) (h := h) ht.1 hlo (by have := ht.2.1; omega)
  have c34 := fun lo h hlo => f34 (lo := lo) (h := h) (l := r) hlo (by omega)
  have q0 : (((r.length + 1 : Nat) : Int) == 0) = false := by rw [beq_eq_false_iff_ne]; omega
  have s1 : (1 : Nat) <= r.length + 1 := by omega
  show _ = some (V.v (.bool (u.k == 1 && custR u.b && okRest r)), h)
  rw [e55 (by simp) (by rfl), rowsC_cons, rowV_eq]
  have nk : (u.k != 1) = !(u.k == 1) := rfl
  cases hk : u.k == 1 with
  | false =>
   rw [hk] at nk
   rw [Bool.false_and, Bool.false_and]
   simp only [go_sem, b55, Tryz.f55, hlo, q0, nk, rowsC_len, List.length_cons, Bool.not_false]
   all_goals rfl
  | true =>
   rw [hk] at nk
   cases hc : custR u.b with
   | false =>
    rw [hc] at c15
    rw [Bool.and_false, Bool.false_and]
    simp only [go_sem, b55, Tryz.f55, hlo, q0, nk, c15, rowsC_len, List.length_cons, Bool.not_true]
    all_goals rfl
   | true =>
    rw [hc] at c15
    rw [Bool.and_true, Bool.true_and]
    unfold okRest
    generalize trim r = T at c34 ⊢
    have d1 : List.drop 1 ([V.v (.int .i64 u.k), .v (.string (Rul.bs u.b)), .v (.int .i64 u.n), .v (.int .i64 u.d), .v (.bool u.w), .v (.bool u.i), .list .no (rowsC ks)] :: rowsC r) = rowsC r := rfl
    match T, c34 with
    | [], c34 =>
     have q1' : ((0 : Int) == 0) = true := rfl
     rw [rowsC_nil] at c34
     simp only [go_sem, b55, Tryz.f55, hlo, q0, nk, c15, c34, q1', rowsC_len, rowsC_takeL, rowsC_all, List.length_cons, List.length_nil, Bool.not_true]
     all_goals rfl
    | .mk y yk :: T', c34 =>
     have q2 : (((T'.length + 1 : Nat) : Int) == 0) = false := by rw [beq_eq_false_iff_ne]; omega
     rw [rowsC_cons, rowV_eq] at c34
     simp only [go_sem, b55, Tryz.f55, hlo, q0, nk, c15, c34, q2, rowsC_len, rowsC_takeL, rowsC_all, List.length_cons, Bool.not_true]
     all_goals rfl
end Go.Lift.V1
end

section
open Go.Proofs
namespace Go.Lift.V1
open Rul
open Utf (By)
variable {lo : Nat} {h : Heap}
def badK (k : Int) : Bool := k == 6 || (k == 8 || (k == 22 || (k == 20 || k == 24)))
mutual
def goodV : CV -> Bool -> Bool
 | .mk t kids, top => !badK t.k && (!(t.k == 17 && top) && ((!useC t || useOk kids) && goodL kids false))
def goodL : List CV -> Bool -> Bool
 | [], _ => true
 | v :: r, top => goodV v top && goodL r top
end
theorem goodV_eq (t : Tk4) (kids : List CV) (top : Bool) : goodV (.mk t kids) top = (!badK t.k && (!(t.k == 17 && top) && ((!useC t || useOk kids) && goodL kids false))) := by rw [goodV]
abbrev N33 (l : List CV) (top : Bool) (i : Int) : Env := [(1, .v (.bool top)), (7, .list .no (rowsC l)), (8, .v (.int .i64 l.length)), (9, .v (.int .i64 i))]
theorem r33 {l : List CV} {v : CV} {top : Bool} {i : Nat} (hlo : lo <= h.length) (hl : nodesL l <= 10000000) (ho : okWV v) (hg : l[i]? = some v)
  (hk : ∀ lo h, lo <= h.length -> E lo 33 [.list .no (rowsC v.ks), .v (.bool false)] h = some (.v (.bool (goodL v.ks false)), h)) :
  evCode ⟨Tryz.prog, E, lo, h.length, h33⟩ loopW l33x0 (N33 l top i, h) = if goodV v top = true then some (.normal, N33 l top (i + 1 : Nat), h) else some (.ret, [(4, .v (.bool false))], h ++ [.cells (rowV v)]) := by
 have hll := nodesL_len l
 have hnv := nodesL_mem (List.mem_of_getElem? hg)
 have hkn := ks_nodes v
 obtain ⟨t, kids⟩ := v
 have ht : okT t := tok_ok ho
 have hko : okWL kids := ks_ok ho
 have l1 : lo <= h.length + 1 := by omega
 have hlt : i < l.length := (List.getElem?_eq_some_iff.1 hg).1
 have hgr : (rowsC l)[i]? = some (rowV (.mk t kids)) := by rw [rowsC_get, hg]; rfl
 have q1 : decide ((i : Int) < (l.length : Int)) = true := by rw [decide_eq_true_iff]; omega
 have t1 : Int.toNat (i : Int) = i := by omega
 have hwr : IntKind.i64.wrap ((i : Int) + 1) = ((i + 1 : Nat) : Int) := wrap_succ (by omega)
 have hkids : nodesL kids <= 10000000 := by have : (CV.mk t kids).ks = kids := rfl; rw [this] at hkn; omega
 have c23 := fun lo h hlo => f23 (lo := lo) (h := h) (kids := kids) ht.1 ht.2.1 hlo
 have c34 := fun lo h hlo => f34 (lo := lo) (h := h) (l := kids) hlo (by omega)
 have c55 := fun lo h hlo => f55 (lo := lo) (h := h) (l := trim kids) hlo (by have := nodesL_trim kids; omega) (okWL_of fun v hv => okWL_mem hko v (trim_mem hv))
 have c33 : ∀ lo h, lo <= h.length -> E lo 33 [.list .no (rowsC kids), .v (.bool false)] h = some (.v (.bool (goodL kids false)), h) := hk
 rw [<- useOk_named] at c55
 rw [goodV_eq]
 rw [rowV_eq] at *
 generalize useOk kids = uo at c55 ⊢
 generalize goodL kids false = gk at c33 ⊢
 unfold badK
 cases q6 : t.k == 6 with
 | true =>
  rw [if_neg (by simp)]
  simp only [N33, go_sem, l33x0, b33, Tryz.f33, hlo, l1, hgr, q1, t1, q6]
  all_goals rfl
 | false =>
 cases q8 : t.k == 8 with
 | true =>
  rw [if_neg (by simp)]
  simp only [N33, go_sem, l33x0, b33, Tryz.f33, hlo, l1, hgr, q1, t1, q6, q8]
  all_goals rfl
 | false =>
 cases q22 : t.k == 22 with
 | true =>
  rw [if_neg (by simp)]
  simp only [N33, go_sem, l33x0, b33, Tryz.f33, hlo, l1, hgr, q1, t1, q6, q8, q22]
  all_goals rfl
 | false =>
 cases q20 : t.k == 20 with
 | true =>
  rw [if_neg (by simp)]
  simp only [N33, go_sem, l33x0, b33, Tryz.f33, hlo, l1, hgr, q1, t1, q6, q8, q22, q20]
  all_goals rfl
 | false =>
 cases q24 : t.k == 24 with
 | true =>
  rw [if_neg (by simp)]
  simp only [N33, go_sem, l33x0, b33, Tryz.f33, hlo, l1, hgr, q1, t1, q6, q8, q22, q20, q24]
  all_goals rfl
 | false =>
 have main : ∀ b17 : Bool, (t.k == 17) = b17 -> (b17 && top) = false ->
   evCode ⟨Tryz.prog, E, lo, h.length, h33⟩ loopW l33x0 (N33 l top i, h) = if ((!useC t || uo) && gk) = true then some (.normal, N33 l top (i + 1 : Nat), h) else some (.ret, [(4, .v (.bool false))], h ++ [.cells [.v (.int .i64 t.k), .v (.string (Rul.bs t.b)), .v (.int .i64 t.n), .v (.int .i64 t.d), .v (.bool t.w), .v (.bool t.i), .list .no (rowsC kids)]]) := by
  intro b17 q17 hb
  have fin : ∀ tp : Bool, (b17 && tp) = false -> evCode ⟨Tryz.prog, E, lo, h.length, h33⟩ loopW l33x0 (N33 l tp i, h) = if ((!useC t || uo) && gk) = true then some (.normal, N33 l tp (i + 1 : Nat), h) else some (.ret, [(4, .v (.bool false))], h ++ [.cells [.v (.int .i64 t.k), .v (.string (Rul.bs t.b)), .v (.int .i64 t.n), .v (.int .i64 t.d), .v (.bool t.w), .v (.bool t.i), .list .no (rowsC kids)]]) := by
   intro tp hb
   cases hu : useC t with
   | true =>
    rw [hu] at c23
    cases uo with
    | false =>
     rw [if_neg (by simp)]
     cases b17 with
     | true =>
      cases tp with
      | true => cases hb
      | false =>
       simp only [N33, go_sem, l33x0, b33, Tryz.f33, hlo, l1, hgr, q1, t1, q6, q8, q22, q20, q24, q17, c23, c34, c55, c33, hwr]
       all_goals rfl
     | false =>
      simp only [N33, go_sem, l33x0, b33, Tryz.f33, hlo, l1, hgr, q1, t1, q6, q8, q22, q20, q24, q17, c23, c34, c55, c33, hwr]
      all_goals rfl
    | true =>
     cases gk with
     | false =>
      rw [if_neg (by simp)]
      cases b17 with
      | true =>
       cases tp with
       | true => cases hb
       | false =>
        simp only [N33, go_sem, l33x0, b33, Tryz.f33, hlo, l1, hgr, q1, t1, q6, q8, q22, q20, q24, q17, c23, c34, c55, c33, hwr]
        all_goals rfl
      | false =>
       simp only [N33, go_sem, l33x0, b33, Tryz.f33, hlo, l1, hgr, q1, t1, q6, q8, q22, q20, q24, q17, c23, c34, c55, c33, hwr]
       all_goals rfl
     | true =>
      rw [if_pos (by simp)]
      cases b17 with
      | true =>
       cases tp with
       | true => cases hb
       | false =>
        simp only [N33, go_sem, l33x0, b33, Tryz.f33, hlo, l1, hgr, q1, t1, q6, q8, q22, q20, q24, q17, c23, c34, c55, c33, hwr]
        all_goals rfl
      | false =>
       simp only [N33, go_sem, l33x0, b33, Tryz.f33, hlo, l1, hgr, q1, t1, q6, q8, q22, q20, q24, q17, c23, c34, c55, c33, hwr]
       all_goals rfl
   | false =>
    rw [hu] at c23
    cases gk with
    | false =>
     rw [if_neg (by simp)]
     cases b17 with
     | true =>
      cases tp with
      | true => cases hb
      | false =>
       simp only [N33, go_sem, l33x0, b33, Tryz.f33, hlo, l1, hgr, q1, t1, q6, q8, q22, q20, q24, q17, c23, c34, c55, c33, hwr]
       all_goals rfl
     | false =>
      simp only [N33, go_sem, l33x0, b33, Tryz.f33, hlo, l1, hgr, q1, t1, q6, q8, q22, q20, q24, q17, c23, c34, c55, c33, hwr]
      all_goals rfl
    | true =>
     rw [if_pos (by simp)]
     cases b17 with
     | true =>
      cases tp with
      | true => cases hb
      | false =>
       simp only [N33, go_sem, l33x0, b33, Tryz.f33, hlo, l1, hgr, q1, t1, q6, q8, q22, q20, q24, q17, c23, c34, c55, c33, hwr]
       all_goals rfl
     | false =>
      simp only [N33, go_sem, l33x0, b33, Tryz.f33, hlo, l1, hgr, q1, t1, q6, q8, q22, q20, q24, q17, c23, c34, c55, c33, hwr]
      all_goals rfl
  exact fin top hb
 cases q17 : t.k == 17 with
 | false =>
  rw [main false q17 rfl]
  simp only [Bool.false_and, Bool.or_false, Bool.not_false, Bool.true_and]
 | true =>
  cases top with
  | false =>
   rw [main true q17 rfl]
   simp only [Bool.and_false, Bool.or_false, Bool.not_false, Bool.true_and]
  | true =>
   rw [if_neg (by simp)]
   simp only [N33, go_sem, l33x0, b33, Tryz.f33, hlo, l1, hgr, q1, t1, q6, q8, q22, q20, q24, q17]
   all_goals rfl
theorem s33 {l : List CV} {top : Bool} (hlo : lo <= h.length) : evCode ⟨Tryz.prog, E, lo, h.length, h33⟩ loopW l33x0 (N33 l top (l.length : Nat), h) = some (.exit 0, N33 l top (l.length : Nat) ++ [(10, .v (.bool false))], h) := by
 have q1 : decide ((l.length : Int) < (l.length : Int)) = false := by rw [decide_eq_false_iff_not]; omega
 simp only [N33, go_sem, l33x0, b33, Tryz.f33, hlo, q1]
 all_goals rfl
theorem goodL_drop {l : List CV} {v : CV} {top : Bool} {i : Nat} (hg : l[i]? = some v) : goodL (l.drop i) top = (goodV v top && goodL (l.drop (i + 1)) top) := by
 obtain ⟨hlt, rfl⟩ := List.getElem?_eq_some_iff.1 hg
 rw [List.drop_eq_getElem_cons hlt, goodL]
theorem loop33g {l : List CV} {top : Bool} (hlo : lo <= h.length) (hl : nodesL l <= 10000000) (ho : okWL l)
  (hk : ∀ v ∈ l, ∀ lo h, lo <= h.length -> E lo 33 [.list .no (rowsC v.ks), .v (.bool false)] h = some (.v (.bool (goodL v.ks false)), h)) : ∀ m i : Nat, i + m = l.length ->
  if goodL (l.drop i) top = true then loopW (evCode ⟨Tryz.prog, E, lo, h.length, h33⟩ loopW l33x0) (N33 l top i, h) = some (.exit 0, N33 l top (l.length : Nat) ++ [(10, .v (.bool false))], h)
  else ∃ v, loopW (evCode ⟨Tryz.prog, E, lo, h.length, h33⟩ loopW l33x0) (N33 l top i, h) = some (.ret, [(4, .v (.bool false))], h ++ [.cells (rowV v)])
 | 0, i, hm => by
  obtain rfl : i = l.length := by omega
  rw [List.drop_length, goodL, if_pos rfl, loop_eq, s33 hlo, loop_e]
 | m + 1, i, hm => by
  have hlt : i < l.length := by omega
  have hg := List.getElem?_eq_getElem hlt
  have hmem := List.getElem_mem hlt
  rw [goodL_drop hg, loop_eq, r33 hlo hl (okWL_mem ho _ hmem) hg (hk _ hmem)]
  cases q : goodV l[i] top with
  | false =>
   rw [Bool.false_and, if_neg (by simp), if_neg (by simp), loop_r]
   exact ⟨_, rfl⟩
  | true =>
   rw [Bool.true_and, if_pos rfl, loop_n]
   exact loop33g hlo hl ho hk m (i + 1) (by omega)
theorem f33g : ∀ (n : Nat) (l : List CV), nodesL l < n -> nodesL l <= 10000000 -> okWL l -> ∀ (top : Bool) lo h, lo <= h.length -> E lo 33 [.list .no (rowsC l), .v (.bool top)] h = some (.v (.bool (goodL l top)), h)
 | 0, l, hn, _, _ => by omega
 | n + 1, l, hn, hl, ho => by
  intro top lo h hlo
  have hk : ∀ v ∈ l, ∀ lo h, lo <= h.length -> E lo 33 [.list .no (rowsC v.ks), .v (.bool false)] h = some (.v (.bool (goodL v.ks false)), h) := fun v hv lo h hlo => by
   have h1 := nodesL_mem hv
   have h2 := ks_nodes v
   exact f33g n v.ks (by omega) (by omega) (ks_ok (okWL_mem ho v hv)) false lo h hlo
  have hL := loop33g (lo := lo) (h := h) (top := top) hlo hl ho hk l.length 0 (by omega)
  rw [List.drop_zero] at hL
  rw [e33 (by simp) (by rfl)]
  cases q : goodL l top with
  | true =>
   rw [q, if_pos rfl] at hL
   simp only [l33x0, b33, Tryz.f33, loopAt, loops, bodyOf, N33, show ((0 : Nat) : Int) = 0 from rfl, go_sem] at hL
   simp only [go_sem, b33, Tryz.f33, hlo, rowsC_len, hL]
   all_goals rfl
  | false =>
   rw [q, if_neg (by simp)] at hL
   obtain ⟨v, hL⟩ := hL
   simp only [l33x0, b33, Tryz.f33, loopAt, loops, bodyOf, N33, show ((0 : Nat) : Int) = 0 from rfl, go_sem] at hL
   simp only [go_sem, b33, Tryz.f33, hlo, rowsC_len, hL]
   all_goals rfl
theorem f33 {l : List CV} {top : Bool} (hlo : lo <= h.length) (hl : nodesL l <= 10000000) (ho : okWL l) : E lo 33 [.list .no (rowsC l), .v (.bool top)] h = some (.v (.bool (goodL l top)), h) :=
 f33g (nodesL l + 1) l (by omega) hl ho top lo h hlo
end Go.Lift.V1
end

section
namespace Go.Lift.Rul
def kidsOk (k : Int) (n : Nat) : Bool :=
 if (k == 2 || k == 4 || k == 6 || k == 7) = true then decide ((n : Int) >= 1)
 else if (k == 3 || k == 5) = true then ((n : Int) == 1)
 else if (k == 8) = true then ((n : Int) == 3)
 else false
mutual
def mayX : X -> Int -> Bool
 | .mk k n d u kids, dep =>
  if dep > 340 then false
  else if (k == 1) = true then kids.length == 0 && (Spell.mayR n d && (decide (u >= 0) && decide (u <= 7)))
  else if (!(n == 0 && d == 0) || u != 0) = true then false
  else kidsOk k kids.length && mayXs kids (dep + 1)
def mayXs : List X -> Int -> Bool
 | [], _ => true
 | x :: r, dep => mayX x dep && mayXs r dep
end
mutual
def kindX : X -> Int
 | .mk k n d u kids =>
  if (k == 1) = true then (if (u == 0) = true then 1 else 2)
  else match lensX kids 0 with
   | none => 0
   | some c => if (c == 0) = true then 1 else if ((k == 4 && c == 1) || (k != 4 && (k != 5 && c == (kids.length : Int)))) = true then 2 else 0
def lensX : List X -> Int -> Option Int
 | [], c => some c
 | x :: r, c => if (kindX x == 0) = true then none else lensX r (if (kindX x == 2) = true then c + 1 else c)
end
mutual
def okX : X -> Prop
 | .mk k n d u kids => ((-9223372036854775808 <= n /\ n <= 9223372036854775807) /\ d <= 9223372036854775807) /\ kids.length <= 100000000 /\ okXs kids
def okXs : List X -> Prop
 | [] => True
 | x :: r => okX x /\ okXs r
end
theorem okXs_app : ∀ {a b : List X}, okXs a -> okXs b -> okXs (a ++ b)
 | [], _, _, h => h
 | x :: r, b, ha, hb => by
  rw [okXs] at ha
  rw [List.cons_append, okXs]
  exact ⟨ha.1, okXs_app ha.2 hb⟩
end Go.Lift.Rul
end

section
open Go.Proofs
namespace Go.Lift.V1
open Rul
open Utf (By)
variable {lo : Nat} {h : Heap}
theorem xsC_get (l : List X) (k : Nat) : (xsC l)[k]? = (l[k]?).map xC := by rw [xsC_map, List.getElem?_map]
theorem mayX_eq (k n d u dep : Int) (kids : List X) : mayX (.mk k n d u kids) dep = (if dep > 340 then false
  else if (k == 1) = true then kids.length == 0 && (Spell.mayR n d && (decide (u >= 0) && decide (u <= 7)))
  else if (!(n == 0 && d == 0) || u != 0) = true then false
  else kidsOk k kids.length && mayXs kids (dep + 1)) := by rw [mayX]
abbrev N99 (h : Heap) (dep : Int) (n : Nat) (ok : Bool) (i : Int) : Env := [(1, .v (.int .i64 dep)), (2, .ptr h.length 0), (5, .v (.int .i64 n)), (6, .v (.bool ok)), (7, .v (.int .i64 i))]
section
variable {k n d u dep : Int} {kids : List X}
theorem r99 {x : X} {i : Nat} (hlo : lo <= h.length) (hl : kids.length <= 100000000) (hd : 0 <= dep /\ dep <= 340) (hg : kids[i]? = some x)
  (hx : ∀ lo h, lo <= h.length -> E lo 99 [.agg (xC x), .v (.int .i64 (dep + 1))] h = some (.v (.bool (mayX x (dep + 1))), h)) :
  evCode ⟨Tryz.prog, E, lo, h.length, h99⟩ loopW l99x0 (N99 h dep kids.length true i, h ++ [.cells (xC (.mk k n d u kids))]) = some (.normal, N99 h dep kids.length (mayX x (dep + 1)) (i + 1 : Nat), h ++ [.cells (xC (.mk k n d u kids))]) := by
 have l1 : lo <= h.length + 1 := by omega
 have hlt : i < kids.length := (List.getElem?_eq_some_iff.1 hg).1
 have hgr : (xsC kids)[i]? = some (xC x) := by rw [xsC_get, hg]; rfl
 have q1 : decide ((i : Int) < (kids.length : Int)) = true := by rw [decide_eq_true_iff]; omega
 have t1 : Int.toNat (i : Int) = i := by omega
 have hwr : IntKind.i64.wrap ((i : Int) + 1) = ((i + 1 : Nat) : Int) := wrap_succ (by omega)
 have hwd : IntKind.i64.wrap (dep + 1) = dep + 1 := wrap_i64 (by omega) (by omega)
 obtain ⟨ek, en, ed, eu, el⟩ := x
 simp only [xC_eq] at hx hgr ⊢
 simp only [N99, go_sem, l99x0, b99, Tryz.f99, hlo, l1, hgr, q1, t1, hwr, hwd, hx]
 all_goals rfl
theorem s99a {i : Nat} (hlo : lo <= h.length) (hg : i = kids.length) (ok : Bool) :
  evCode ⟨Tryz.prog, E, lo, h.length, h99⟩ loopW l99x0 (N99 h dep kids.length ok i, h ++ [.cells (xC (.mk k n d u kids))]) = some (.exit 1, N99 h dep kids.length ok i ++ [(65, .v (.bool false))], h ++ [.cells (xC (.mk k n d u kids))]) := by
 have l1 : lo <= h.length + 1 := by omega
 have q1 : decide ((i : Int) < (kids.length : Int)) = false := by rw [decide_eq_false_iff_not]; omega
 simp only [N99, xC_eq, go_sem, l99x0, b99, Tryz.f99, hlo, l1, q1]
 all_goals rfl
theorem s99b {i : Nat} (hlo : lo <= h.length) (hg : i < kids.length) :
  evCode ⟨Tryz.prog, E, lo, h.length, h99⟩ loopW l99x0 (N99 h dep kids.length false i, h ++ [.cells (xC (.mk k n d u kids))]) = some (.exit 1, N99 h dep kids.length false i ++ [(65, .v (.bool false))], h ++ [.cells (xC (.mk k n d u kids))]) := by
 have l1 : lo <= h.length + 1 := by omega
 have q1 : decide ((i : Int) < (kids.length : Int)) = true := by rw [decide_eq_true_iff]; omega
 simp only [N99, xC_eq, go_sem, l99x0, b99, Tryz.f99, hlo, l1, q1]
 all_goals rfl
theorem mayXs_drop {i : Nat} {x : X} {dep : Int} (hg : kids[i]? = some x) : mayXs (kids.drop i) dep = (mayX x dep && mayXs (kids.drop (i + 1)) dep) := by
 obtain ⟨hlt, rfl⟩ := List.getElem?_eq_some_iff.1 hg
 rw [List.drop_eq_getElem_cons hlt, mayXs]
def P99 (x : X) : Prop := ∀ (dep : Int) (lo : Nat) (h : Heap), 0 <= dep -> dep <= 341 -> lo <= h.length -> E lo 99 [.agg (xC x), .v (.int .i64 dep)] h = some (.v (.bool (mayX x dep)), h)
theorem loop99 (hlo : lo <= h.length) (hl : kids.length <= 100000000) (hd : 0 <= dep /\ dep <= 340) (hk : ∀ x ∈ kids, P99 x) : ∀ (m i : Nat) (ok : Bool), i + m = kids.length ->
  ∃ j : Int, loopW (evCode ⟨Tryz.prog, E, lo, h.length, h99⟩ loopW l99x0) (N99 h dep kids.length ok i, h ++ [.cells (xC (.mk k n d u kids))]) = some (.exit 1, N99 h dep kids.length (ok && mayXs (kids.drop i) (dep + 1)) j ++ [(65, .v (.bool false))], h ++ [.cells (xC (.mk k n d u kids))])
 | 0, i, ok, hm => by
  have hi : i = kids.length := by omega
  refine ⟨i, ?_⟩
  rw [loop_eq, s99a hlo hi ok, loop_e, hi, List.drop_length, mayXs, Bool.and_true]
 | m + 1, i, ok, hm => by
  have hlt : i < kids.length := by omega
  cases ok with
  | false =>
   refine ⟨i, ?_⟩
   rw [loop_eq, s99b hlo hlt, loop_e, Bool.false_and]
  | true =>
   have hg := List.getElem?_eq_getElem hlt
   obtain ⟨j, ih⟩ := loop99 hlo hl hd hk m (i + 1) (mayX kids[i] (dep + 1)) (by omega)
   refine ⟨j, ?_⟩
   rw [loop_eq, r99 hlo hl hd hg (fun lo h hlo => hk _ (List.getElem_mem hlt) (dep + 1) lo h (by omega) (by omega) hlo), loop_n, ih, mayXs_drop hg, Bool.true_and]
theorem f99k (hlo : lo <= h.length) (hl : kids.length <= 100000000) (hd0 : 0 <= dep) (hd1 : dep <= 340) (hk : ∀ x ∈ kids, P99 x) (h1 : (k == 1) = false) :
  E lo 99 [.agg (xC (.mk k 0 0 0 kids)), .v (.int .i64 dep)] h = some (.v (.bool (kidsOk k kids.length && mayXs kids (dep + 1))), h) := by
 have l1 : lo <= h.length + 1 := by omega
 have d1 : decide (340 < dep) = false := by rw [decide_eq_false_iff_not]; omega
 have e := eq_rat 0 0 0 0
 obtain ⟨j, hL⟩ := loop99 (k := k) (n := 0) (d := 0) (u := 0) (dep := dep) (h := h) hlo hl ⟨hd0, hd1⟩ hk kids.length 0 (kidsOk k kids.length) (by omega)
 rw [List.drop_zero] at hL
 simp only [show ((0 : Nat) : Int) = 0 from rfl] at hL
 rw [e99 (by simp) (by rfl)]
 unfold kidsOk at hL ⊢
 have z0 : ((0 : Int) == 0 && (0 : Int) == 0) = true := rfl
 have z1 : ((0 : Int) != 0) = false := rfl
 rw [z0] at e
 simp only [l99x0, b99, Tryz.f99, loopAt, loops, bodyOf, N99, xC_eq, go_sem] at hL
 simp only [xC_eq]
 cases q2 : k == 2 with
 | true =>
  simp only [q2, Bool.true_or, if_true] at hL ⊢
  simp only [go_sem, b99, Tryz.f99, hlo, l1, d1, h1, fl28, e, z1, q2, xsC_len, hL]
  all_goals rfl
 | false =>
  cases q4 : k == 4 with
  | true =>
   simp only [q2, q4, Bool.true_or, Bool.false_or, if_true] at hL ⊢
   simp only [go_sem, b99, Tryz.f99, hlo, l1, d1, h1, fl28, e, z1, q2, q4, xsC_len, hL]
   all_goals rfl
  | false =>
   cases q6 : k == 6 with
   | true =>
    simp only [q2, q4, q6, Bool.true_or, Bool.false_or, if_true] at hL ⊢
    simp only [go_sem, b99, Tryz.f99, hlo, l1, d1, h1, fl28, e, z1, q2, q4, q6, xsC_len, hL]
    all_goals rfl
   | false =>
    cases q7 : k == 7 with
    | true =>
     simp only [q2, q4, q6, q7, Bool.true_or, Bool.false_or, if_true] at hL ⊢
     simp only [go_sem, b99, Tryz.f99, hlo, l1, d1, h1, fl28, e, z1, q2, q4, q6, q7, xsC_len, hL]
     all_goals rfl
    | false =>
     cases q3 : k == 3 with
     | true =>
      simp only [q2, q4, q6, q7, q3, Bool.true_or, Bool.false_or, if_true, Bool.false_eq_true, if_false] at hL ⊢
      simp only [go_sem, b99, Tryz.f99, hlo, l1, d1, h1, fl28, e, z1, q2, q4, q6, q7, q3, xsC_len, hL]
      all_goals rfl
     | false =>
      cases q5 : k == 5 with
      | true =>
       simp only [q2, q4, q6, q7, q3, q5, Bool.true_or, Bool.false_or, if_true, Bool.false_eq_true, if_false] at hL ⊢
       simp only [go_sem, b99, Tryz.f99, hlo, l1, d1, h1, fl28, e, z1, q2, q4, q6, q7, q3, q5, xsC_len, hL]
       all_goals rfl
      | false =>
       cases q8 : k == 8 with
       | true =>
        simp only [q2, q4, q6, q7, q3, q5, q8, Bool.true_or, Bool.false_or, if_true, Bool.false_eq_true, if_false] at hL ⊢
        simp only [go_sem, b99, Tryz.f99, hlo, l1, d1, h1, fl28, e, z1, q2, q4, q6, q7, q3, q5, q8, xsC_len, hL]
        all_goals rfl
       | false =>
        simp only [q2, q4, q6, q7, q3, q5, q8, Bool.true_or, Bool.false_or, if_true, Bool.false_eq_true, if_false] at hL ⊢
        simp only [go_sem, b99, Tryz.f99, hlo, l1, d1, h1, fl28, e, z1, q2, q4, q6, q7, q3, q5, q8, xsC_len, hL]
        all_goals rfl
theorem f99s (hl : kids.length <= 100000000) (hn : (-9223372036854775808 <= n /\ n <= 9223372036854775807) /\ d <= 9223372036854775807) (hk : ∀ x ∈ kids, P99 x) : P99 (.mk k n d u kids) := by
 intro dep lo h hd0 hd1 hlo
 have l1 : lo <= h.length + 1 := by omega
 rw [mayX_eq]
 by_cases hd : dep > 340
 ·have d1 : decide (340 < dep) = true := by rw [decide_eq_true_iff]; omega
  rw [if_pos hd, e99 (by simp) (by rfl), xC_eq]
  simp only [go_sem, b99, Tryz.f99, hlo, l1, d1]
  all_goals rfl
 have d1 : decide (340 < dep) = false := by rw [decide_eq_false_iff_not]; omega
 rw [if_neg hd]
 cases h1 : k == 1 with
 | true =>
  rw [if_pos rfl]
  have hz : (((kids.length : Nat) : Int) == 0) = (kids.length == 0) := by rw [Bool.eq_iff_iff, beq_iff_eq, beq_iff_eq]; omega
  have c112 := fun lo h hlo => f112 (lo := lo) (h := h) hn.1.1 hn.1.2 hn.2 hlo
  rw [e99 (by simp) (by rfl), xC_eq]
  cases q1 : kids.length == 0 with
  | false =>
   rw [q1] at hz
   simp only [go_sem, b99, Tryz.f99, hlo, l1, d1, h1, xsC_len, hz, Bool.false_and]
   all_goals rfl
  | true =>
   rw [q1] at hz
   cases q2 : Spell.mayR n d with
   | false =>
    rw [q2] at c112
    simp only [go_sem, b99, Tryz.f99, hlo, l1, d1, h1, xsC_len, hz, c112, Bool.false_and, Bool.true_and]
    all_goals rfl
   | true =>
    rw [q2] at c112
    cases q3 : decide (u >= 0) with
    | false =>
     have q3' : decide (0 <= u) = false := q3
     simp only [go_sem, b99, Tryz.f99, hlo, l1, d1, h1, xsC_len, hz, c112, q3', Bool.false_and, Bool.true_and]
     all_goals rfl
    | true =>
     have q3' : decide (0 <= u) = true := q3
     simp only [go_sem, b99, Tryz.f99, hlo, l1, d1, h1, xsC_len, hz, c112, q3', Bool.false_and, Bool.true_and]
     all_goals rfl
 | false =>
  rw [if_neg (by simp)]
  have e := eq_rat n d 0 0
  cases q1 : (n == 0 && d == 0) with
  | false =>
   rw [q1] at e
   rw [if_pos (by simp), e99 (by simp) (by rfl), xC_eq]
   simp only [go_sem, b99, Tryz.f99, hlo, l1, d1, h1, xsC_len, fl28, e, Bool.not_false]
   all_goals rfl
  | true =>
   cases q2 : u != 0 with
   | true =>
    rw [q1] at e
    rw [if_pos (by simp), e99 (by simp) (by rfl), xC_eq]
    simp only [go_sem, b99, Tryz.f99, hlo, l1, d1, h1, xsC_len, fl28, e, q2, Bool.not_true]
    all_goals rfl
   | false =>
    rw [if_neg (by simp)]
    simp only [Bool.and_eq_true, beq_iff_eq] at q1
    obtain ⟨rfl, rfl⟩ := q1
    obtain rfl : u = 0 := by simpa using q2
    exact f99k hlo hl hd0 (by omega) hk h1
end
mutual
theorem f99a : ∀ (x : X), okX x -> P99 x
 | .mk k n d u kids, h => by
  rw [okX] at h
  exact f99s h.2.1 h.1 (f99b kids h.2.2)
theorem f99b : ∀ (l : List X), okXs l -> ∀ x ∈ l, P99 x
 | [], _ => fun x hx => nomatch hx
 | y :: r, h => by
  rw [okXs] at h
  exact List.forall_mem_cons.2 ⟨f99a y h.1, f99b r h.2⟩
end
theorem f73 {x : X} (hlo : lo <= h.length) (hx : okX x) : E lo 73 [.agg (xC x)] h = some (.v (.bool (mayX x 1)), h) := by
 have c99 := fun lo h hlo => f99a x hx 1 lo h (by omega) (by omega) hlo
 have l1 : lo <= h.length + 1 := by omega
 generalize mayX x 1 = b at c99 ⊢
 obtain ⟨k, n, d, u, kids⟩ := x
 simp only [xC_eq] at c99 ⊢
 rw [e73 (by simp) (by rfl)]
 simp only [go_sem, b73, Tryz.f73, hlo, l1, c99]
 all_goals rfl
theorem kindX_eq (k n d u : Int) (kids : List X) : kindX (.mk k n d u kids) = (if (k == 1) = true then (if (u == 0) = true then 1 else 2)
  else match lensX kids 0 with
   | none => 0
   | some c => if (c == 0) = true then 1 else if ((k == 4 && c == 1) || (k != 4 && (k != 5 && c == (kids.length : Int)))) = true then 2 else 0) := by rw [kindX]; all_goals rfl
def P74 (x : X) : Prop := ∀ (lo : Nat) (h : Heap), lo <= h.length -> E lo 74 [.agg (xC x)] h = some (.v (.int .i64 (kindX x)), h)
abbrev N74 (h : Heap) (kids : List X) (c i : Int) : Env := [(1, .ptr h.length 0), (3, .v (.int .i64 c)), (13, .list .no (xsC kids)), (14, .v (.int .i64 kids.length)), (15, .v (.int .i64 i))]
section
variable {k n d u : Int} {kids : List X}
theorem r74 {x : X} {i : Nat} {c : Int} (hlo : lo <= h.length) (hl : kids.length <= 100000000) (hc : 0 <= c /\ c <= 1000000000) (hg : kids[i]? = some x) (hx : P74 x) :
  evCode ⟨Tryz.prog, E, lo, h.length, h74⟩ loopW l74x0 (N74 h kids c i, h ++ [.cells (xC (.mk k n d u kids))]) =
   if (kindX x == 0) = true then some (.ret, [(2, .v (.int .i64 0))], h ++ [.cells (xC (.mk k n d u kids)), .cells (xC x)])
   else some (.normal, N74 h kids (if (kindX x == 2) = true then c + 1 else c) (i + 1 : Nat), h ++ [.cells (xC (.mk k n d u kids))]) := by
 have l1 : lo <= h.length + 1 := by omega
 have l2 : lo <= h.length + 1 + 1 := by omega
 have hlt : i < kids.length := (List.getElem?_eq_some_iff.1 hg).1
 have hgr : (xsC kids)[i]? = some (xC x) := by rw [xsC_get, hg]; rfl
 have q1 : decide ((i : Int) < (kids.length : Int)) = true := by rw [decide_eq_true_iff]; omega
 have t1 : Int.toNat (i : Int) = i := by omega
 have hwr : IntKind.i64.wrap ((i : Int) + 1) = ((i + 1 : Nat) : Int) := wrap_succ (by omega)
 have hwc : IntKind.i64.wrap (c + 1) = c + 1 := wrap_i64 (by omega) (by omega)
 unfold P74 at hx
 generalize kindX x = K at hx ⊢
 obtain ⟨ek, en, ed, eu, el⟩ := x
 simp only [xC_eq] at hx hgr ⊢
 cases k0 : K == 0 with
 | true =>
  rw [if_pos rfl]
  simp only [N74, go_sem, l74x0, b74, Tryz.f74, hlo, l1, l2, hgr, q1, t1, hwr, hx, k0]
  all_goals rfl
 | false =>
  rw [if_neg (by simp)]
  cases k2 : K == 2 with
  | true =>
   rw [if_pos rfl]
   simp only [N74, go_sem, l74x0, b74, Tryz.f74, hlo, l1, l2, hgr, q1, t1, hwr, hwc, hx, k0, k2]
   all_goals rfl
  | false =>
   rw [if_neg (by simp)]
   simp only [N74, go_sem, l74x0, b74, Tryz.f74, hlo, l1, l2, hgr, q1, t1, hwr, hx, k0, k2]
   all_goals rfl
theorem s74 {c : Int} (hlo : lo <= h.length) :
  evCode ⟨Tryz.prog, E, lo, h.length, h74⟩ loopW l74x0 (N74 h kids c (kids.length : Nat), h ++ [.cells (xC (.mk k n d u kids))]) = some (.exit 0, N74 h kids c (kids.length : Nat) ++ [(16, .v (.bool false))], h ++ [.cells (xC (.mk k n d u kids))]) := by
 have l1 : lo <= h.length + 1 := by omega
 have q1 : decide ((kids.length : Int) < (kids.length : Int)) = false := by rw [decide_eq_false_iff_not]; omega
 simp only [N74, xC_eq, go_sem, l74x0, b74, Tryz.f74, hlo, l1, q1]
 all_goals rfl
theorem lens_drop {i : Nat} {x : X} {c : Int} (hg : kids[i]? = some x) : lensX (kids.drop i) c = if (kindX x == 0) = true then none else lensX (kids.drop (i + 1)) (if (kindX x == 2) = true then c + 1 else c) := by
 obtain ⟨hlt, rfl⟩ := List.getElem?_eq_some_iff.1 hg
 rw [List.drop_eq_getElem_cons hlt, lensX]
theorem loop74 (hlo : lo <= h.length) (hl : kids.length <= 100000000) (hk : ∀ x ∈ kids, P74 x) : ∀ (m i : Nat) (c : Int), i + m = kids.length -> 0 <= c -> c + m <= 1000000000 ->
  match lensX (kids.drop i) c with
  | none => ∃ x, loopW (evCode ⟨Tryz.prog, E, lo, h.length, h74⟩ loopW l74x0) (N74 h kids c i, h ++ [.cells (xC (.mk k n d u kids))]) = some (.ret, [(2, .v (.int .i64 0))], h ++ [.cells (xC (.mk k n d u kids)), .cells (xC x)])
  | some c' => loopW (evCode ⟨Tryz.prog, E, lo, h.length, h74⟩ loopW l74x0) (N74 h kids c i, h ++ [.cells (xC (.mk k n d u kids))]) = some (.exit 0, N74 h kids c' (kids.length : Nat) ++ [(16, .v (.bool false))], h ++ [.cells (xC (.mk k n d u kids))])
 | 0, i, c, hm, h0, h1 => by
  obtain rfl : i = kids.length := by omega
  rw [List.drop_length, lensX]
  show loopW _ _ = _
  rw [loop_eq, s74 hlo, loop_e]
 | m + 1, i, c, hm, h0, h1 => by
  have hlt : i < kids.length := by omega
  have hg := List.getElem?_eq_getElem hlt
  rw [lens_drop hg]
  by_cases q0 : (kindX kids[i] == 0) = true
  ·rw [if_pos q0]
   exact ⟨kids[i], by rw [loop_eq, r74 hlo hl ⟨h0, by omega⟩ hg (hk _ (List.getElem_mem hlt)), if_pos q0, loop_r]⟩
  ·rw [if_neg q0, loop_eq, r74 hlo hl ⟨h0, by omega⟩ hg (hk _ (List.getElem_mem hlt)), if_neg q0, loop_n]
   exact loop74 hlo hl hk m (i + 1) _ (by omega) (by split <;> omega) (by split <;> omega)
theorem f74s (hl : kids.length <= 100000000) (hk : ∀ x ∈ kids, P74 x) : P74 (.mk k n d u kids) := by
 intro lo h hlo
 have l1 : lo <= h.length + 1 := by omega
 rw [kindX_eq, e74 (by simp) (by rfl)]
 cases h1 : k == 1 with
 | true =>
  rw [if_pos rfl]
  cases h2 : u == 0 with
  | true =>
   rw [if_pos rfl, xC_eq]
   simp only [go_sem, b74, Tryz.f74, hlo, l1, h1, h2]
   all_goals rfl
  | false =>
   rw [if_neg (by simp), xC_eq]
   simp only [go_sem, b74, Tryz.f74, hlo, l1, h1, h2]
   all_goals rfl
 | false =>
  rw [if_neg (by simp)]
  have hL := loop74 (k := k) (n := n) (d := d) (u := u) (lo := lo) (h := h) hlo hl hk kids.length 0 0 (by omega) (by omega) (by omega)
  rw [List.drop_zero] at hL
  simp only [show ((0 : Nat) : Int) = 0 from rfl] at hL
  cases hx : lensX kids 0 with
  | none =>
   rw [hx] at hL
   obtain ⟨⟨ek, en, ed, eu, el⟩, hL⟩ := hL
   simp only [l74x0, b74, Tryz.f74, loopAt, loops, bodyOf, N74, xC_eq, go_sem] at hL
   simp only [xC_eq, go_sem, b74, Tryz.f74, hlo, l1, h1, xsC_len, hL]
   all_goals rfl
  | some c =>
   rw [hx] at hL
   simp only
   simp only [l74x0, b74, Tryz.f74, loopAt, loops, bodyOf, N74, xC_eq, go_sem] at hL
   cases q0 : c == 0 with
   | true =>
    rw [if_pos rfl]
    simp only [xC_eq, go_sem, b74, Tryz.f74, hlo, l1, h1, xsC_len, hL, q0]
    all_goals rfl
   | false =>
    rw [if_neg (by simp)]
    have n4 : (k != 4) = !(k == 4) := rfl
    have n5 : (k != 5) = !(k == 5) := rfl
    rw [n4, n5]
    cases q4 : k == 4 with
    | true =>
     rw [q4] at n4
     cases q1 : c == 1 with
     | true =>
      rw [if_pos (by simp)]
      simp only [xC_eq, go_sem, b74, Tryz.f74, hlo, l1, h1, xsC_len, hL, q0, q4, q1]
      all_goals rfl
     | false =>
      rw [if_neg (by simp)]
      simp only [xC_eq, go_sem, b74, Tryz.f74, hlo, l1, h1, xsC_len, hL, q0, q4, q1, n4, Bool.not_true]
      all_goals rfl
    | false =>
     rw [q4] at n4
     cases q5 : k == 5 with
     | true =>
      rw [q5] at n5
      rw [if_neg (by simp)]
      simp only [xC_eq, go_sem, b74, Tryz.f74, hlo, l1, h1, xsC_len, hL, q0, q4, n4, n5, Bool.not_true, Bool.not_false]
      all_goals rfl
     | false =>
      rw [q5] at n5
      cases q6 : c == (kids.length : Int) with
      | true =>
       rw [if_pos (by simp)]
       simp only [xC_eq, go_sem, b74, Tryz.f74, hlo, l1, h1, xsC_len, hL, q0, q4, n4, n5, q6, Bool.not_true, Bool.not_false]
       all_goals rfl
      | false =>
       rw [if_neg (by simp)]
       simp only [xC_eq, go_sem, b74, Tryz.f74, hlo, l1, h1, xsC_len, hL, q0, q4, n4, n5, q6, Bool.not_true, Bool.not_false]
       all_goals rfl
end
mutual
theorem f74a : ∀ (x : X), okX x -> P74 x
 | .mk k n d u kids, h => by
  rw [okX] at h
  exact f74s h.2.1 (f74b kids h.2.2)
theorem f74b : ∀ (l : List X), okXs l -> ∀ x ∈ l, P74 x
 | [], _ => fun x hx => nomatch hx
 | y :: r, h => by
  rw [okXs] at h
  exact List.forall_mem_cons.2 ⟨f74a y h.1, f74b r h.2⟩
end
def kindE (x : X) : Int × Int := if mayX x 1 = true then (if (kindX x == 0) = true then (0, 4) else (kindX x, 0)) else (0, 1)
theorem f61 {x : X} (hlo : lo <= h.length) (hx : okX x) : E lo 61 [.agg (xC x)] h = some (.tup [.v (.int .i64 (kindE x).1), .v (.int .i64 (kindE x).2)], h) := by
 have l1 : lo <= h.length + 1 := by omega
 have c73 := fun lo h hlo => f73 (lo := lo) (h := h) hlo hx
 have c74 := f74a x hx
 unfold P74 at c74
 unfold kindE
 generalize mayX x 1 = b at c73 ⊢
 generalize kindX x = K at c74 ⊢
 obtain ⟨k, n, d, u, kids⟩ := x
 simp only [xC_eq] at c73 c74 ⊢
 rw [e61 (by simp) (by rfl)]
 cases b with
 | false =>
  rw [if_neg (by simp)]
  simp only [go_sem, b61, Tryz.f61, hlo, l1, c73, c74]
  all_goals rfl
 | true =>
  rw [if_pos rfl]
  cases q : K == 0 with
  | true =>
   rw [if_pos rfl]
   simp only [go_sem, b61, Tryz.f61, hlo, l1, c73, c74, q]
   all_goals rfl
  | false =>
   rw [if_neg (by simp)]
   simp only [go_sem, b61, Tryz.f61, hlo, l1, c73, c74, q]
   all_goals rfl
end Go.Lift.V1
end
