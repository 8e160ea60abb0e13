/- Words and urls, both sides. -/
import Derived.Lib.MapLaws
import Derived.Lib.DecodeN
import Derived.Test.YtnfdhgadidacaaaDoorRd
import Derived.Test.YtnfdhgadidacaaaDoorRe
section
/- The reference's word: names, functions, urls. -/
open Go.Proofs
namespace Go.Lift.D3
open Utf Tok
set_option maxRecDepth 20000
set_option maxHeartbeats 4000000
set_option linter.unusedSimpArgs false
set_option linter.unusedVariables false

theorem enc_len4 (x : Int) : (enc x).length ≤ 4 := by
  unfold enc
  split
  · simp
  · split
    · simp
    · split <;> simp
theorem encs_len : ∀ l : List Int, (encs l).length ≤ 4 * l.length
  | [] => by simp [encs]
  | c :: t => by
    have e : encs (c :: t) = enc (scal c) ++ encs t := rfl
    have := encs_len t
    have := enc_len4 (scal c)
    rw [e, List.length_append, List.length_cons]
    omega
theorem hexN_len : ∀ (k : Nat) (n : Int) (s : List Int), (hexN k n s).2.length ≤ s.length
  | 0, n, s => Nat.le_refl _
  | k + 1, n, [] => Nat.le_refl _
  | k + 1, n, c :: t => by
    simp only [hexN]
    split
    · exact Nat.le_refl _
    · have := hexN_len k (n * 16 + hex c) t
      simp
      omega
theorem one1_len (s : List Int) : (one1 s).length ≤ s.length := by
  cases s with
  | nil => exact Nat.le_refl _
  | cons d u => simp only [one1]; split <;> simp
theorem escd_len (s : List Int) : (escd s).2.length ≤ s.length := by
  cases s with
  | nil => exact Nat.le_refl _
  | cons c t =>
    simp only [escd]
    split
    · simp
    · have := one1_len (hexN 6 0 (c :: t)).2
      have := hexN_len 6 0 (c :: t)
      simp only at *
      omega
theorem nameN_len : ∀ (n : Nat) (s : List Int), (nameN n s).1.length + (nameN n s).2.length ≤ s.length
  | 0, s => by simp [nameN]
  | n + 1, [] => by simp [nameN]
  | n + 1, c :: t => by
    simp only [nameN]
    split
    · have := nameN_len n t
      simp
      omega
    · split
      · have := nameN_len n (escd t).2
        have := escd_len t
        simp
        omega
      · simp
theorem name_len (s : List Int) : (name s).1.length ≤ s.length := by
  have := nameN_len s.length s
  unfold name
  omega
/-! ### url, whatever its letters' size -/
theorem low_eq (c : Int) : low c = lowc c := rfl
theorem u8s_inj : ∀ {a b : List Int}, By a → By b → u8s a = u8s b → a = b
  | [], [], _, _, _ => rfl
  | [], _ :: _, _, _, h => by simp [u8s] at h
  | _ :: _, [], _, _, h => by simp [u8s] at h
  | x :: a, y :: b, ha, hb, h => by
    simp only [u8s, List.map_cons, List.cons.injEq] at h
    have hx := ha x (by simp)
    have hy := hb y (by simp)
    have h1 : x = y := by
      have := congrArg UInt8.toNat h.1
      simp only [UInt8.toNat_ofNat'] at this
      omega
    rw [h1, u8s_inj (fun c hc => ha c (by simp [hc])) (fun c hc => hb c (by simp [hc])) h.2]
theorem enc_front (x : Int) (h0 : 0 ≤ x) (h1 : 128 ≤ x) (h2 : x ≤ 1114111) : ∃ b r, enc x = b :: r ∧ 128 ≤ b ∧ b ≤ 255 := by
  unfold enc
  rw [if_neg (by omega)]
  split
  · exact ⟨_, _, rfl, by omega, by omega⟩
  · split
    · exact ⟨_, _, rfl, by omega, by omega⟩
    · exact ⟨_, _, rfl, by omega, by omega⟩
theorem low_url : ∀ (n ks : List Int), (∀ k ∈ ks, 97 ≤ k ∧ k < 128) → (((encs n).map lowc = ks) ↔ (n.map lowc = ks))
  | [], ks, _ => Iff.rfl
  | c :: t, ks, hk => by
    have e : encs (c :: t) = enc (scal c) ++ encs t := rfl
    have hs := scal_in c
    by_cases hc : 0 ≤ c ∧ c < 128
    · have e1 : enc (scal c) = [c] := by
        rw [scal_asc hc]; unfold enc; rw [if_pos hc.2]
      rw [e, e1]
      cases ks with
      | nil => simp
      | cons k ks =>
        simp only [List.cons_append, List.nil_append, List.map_cons, List.cons.injEq]
        rw [low_url t ks fun x hx => hk x (by simp [hx])]
    · have hsc : 128 ≤ scal c := by
        rcases Int.lt_or_le (scal c) 128 with h | h
        · have := scal_asc_inv rfl h
          omega
        · exact h
      obtain ⟨b, r, e1, b1, b2⟩ := enc_front (scal c) hs.1 hsc hs.2
      rw [e, e1]
      cases ks with
      | nil => simp
      | cons k ks =>
        have hk0 := hk k (by simp)
        simp only [List.cons_append, List.map_cons, List.cons.injEq]
        constructor
        · rintro ⟨h, _⟩
          exfalso
          unfold lowc at h
          split at h
          · rename_i h2; simp at h2; omega
          · omega
        · rintro ⟨h, _⟩
          exfalso
          unfold lowc at h
          split at h
          · rename_i h2; simp at h2; omega
          · omega
theorem low_by {l : List Int} (h : By l) : By (l.map lowc) := by
  intro c hc
  obtain ⟨x, hx, rfl⟩ := List.mem_map.1 hc
  have := h x hx
  unfold lowc
  split
  · rename_i h2; simp at h2; omega
  · exact this
theorem like_url (n : List Int) : like (encs n) [117, 114, 108] = isUrl n := by
  unfold like isUrl
  have h1 : ([117, 114, 108] : List Int).map low = [117, 114, 108] := by decide
  have h2 : (encs n).map low = (encs n).map lowc := rfl
  rw [h1, h2, Bool.eq_iff_iff, beq_iff_eq, beq_iff_eq, ← low_url n [117, 114, 108] (by decide)]
  constructor
  · exact u8s_inj (low_by (encs_by n)) (by decide)
  · intro h; rw [h]

section
variable {lo i j : Nat} {l : List Int} {p q : List Ob}
abbrev P81 (p q : List Ob) (l : List Int) (j : Nat) (n : List Int) (ex : Env) : Env × Heap :=
  ((0, .ptr p.length 0) :: (2, .ptr (p.length + (q.length + 1)) 0) :: (3, .v (.string (str n))) :: ex, p ++ R l j :: (q ++ [.cells (tokC 0 [])]))
abbrev ret81 (p q : List Ob) (l : List Int) (j : Nat) (t : Tk) : Option (Ex × Env × Heap) := some (.ret, [(2, .ptr (p.length + (q.length + 1)) 0)], p ++ R l j :: (q ++ [.cells (tkC t)]))
theorem urlC_tk (x : Bool × List Int × List Int) : urlC [] x = tkC (urlT x) := by
  unfold urlC urlT
  cases x.1 <;> rfl
theorem fin81 {t : Tk} {o : Ob} : fin Tryd.prog [.cell 2 28] (p.length + (q.length + 1)) (some (.ret, [(2, .ptr (p.length + (q.length + 1)) 0)], p ++ o :: (q ++ [.cells (tkC t)]))) = some (.agg (tkC t), p ++ o :: q) := fin80 (h := []) (r2 := [])

end
end Go.Lift.D3
end

section
/- The program's url. -/
open Go.Proofs
namespace Go.Lift.D3
open Utf Tok
set_option maxRecDepth 20000
set_option maxHeartbeats 8000000
set_option linter.unusedSimpArgs false
set_option linter.unusedVariables false

section
variable {lo i j : Nat} {l : List Int} {p q : List Ob}
/-- what the closure leaves behind -/
def stepD (l : List Int) (i : Nat) : Nat := if chr (suf l i) 0 = 41 then i + 1 else i
theorem f75 {out : List Int} (hl : l.length ≤ 100000000000) (hi : i ≤ l.length) (ho : out.length ≤ 100000000000) (hlo : lo ≤ p.length) :
    E lo 75 [.ptr (p.length + (q.length + 1)) 0, .ptr (p.length + (q.length + 3)) 0] (p ++ R l i :: (q ++ [.cells [.ptr p.length 0], .cells (tokC 0 []), .cells [.list .yes (ri .i32 out)]])) =
      some (.agg (tokC 7 out), p ++ R l (stepD l i) :: (q ++ [.cells [.ptr p.length 0], .cells (tokC 0 []), .cells [.list .yes (ri .i32 out)]])) := by
  have ks := fun lo p q => f27 (lo := lo) (l := l) (i := i) (p := p) (q := q) (cs := [41]) (by simp; omega)
  have hw : IntKind.i64.wrap ((i : Int) + 1) = ((i + 1 : Nat) : Int) := wrap_succ (by omega)
  have k69 := fun lo h => f40e (lo := lo) (l := out) (h := h) (by omega)
  have es : (⟨(u8s (encs out)).toArray⟩ : ByteArray) = str out := rfl
  simp only [ri_cons, ri_nil, isN_one] at ks
  have hloA : lo ≤ p.length + (q.length + 4) := by omega
  rw [e75 (by simp) (by rfl)]
  unfold stepD
  by_cases hc : chr (suf l i) 0 = 41
  · have t : (chr (suf l i) 0 == 41) = true := by simp [hc]
    rw [if_pos hc]
    simp only [go_sem, b75, Tryd.f75, ks, t, hw, hlo, hloA, k69, es, tokC, str_nil]
    all_goals rfl
  · have t : (chr (suf l i) 0 == 41) = false := by simp [hc]
    rw [if_neg hc]
    simp only [go_sem, b75, Tryd.f75, ks, t, hloA, k69, es, tokC, str_nil]
    all_goals rfl

noncomputable abbrev X57 (lo : Nat) (p q : List Ob) : Cx := ⟨Tryd.prog, E, lo, p.length + (q.length + 1), h57⟩
abbrev H115 (p q : List Ob) (l : List Int) (i : Nat) (t : List V) (out : List Int) : Heap := p ++ R l i :: (q ++ [.cells [.ptr p.length 0], .cells t, .cells [.list .yes (ri .i32 out)]])
abbrev P115 (p q : List Ob) (l : List Int) (i : Nat) (out : List Int) : Env × Heap :=
  ([(1, .ptr (p.length + (q.length + 1)) 0), (2, .ptr (p.length + (q.length + 2)) 0), (3, .ptr (p.length + (q.length + 3)) 0), (4, .fn 75 [.ptr (p.length + (q.length + 1)) 0, .ptr (p.length + (q.length + 3)) 0])], H115 p q l i (tokC 0 []) out)
theorem p115a (hl : l.length ≤ 100000000000) (hi : i ≤ l.length) : ∃ j, j ≤ l.length ∧ i ≤ j ∧ suf l j = blanks (suf l i) ∧
    ∀ lo p q, lo ≤ p.length → evL (X57 lo p q) loopW (pc b57 0 4) (args0 [.ptr p.length 0], p ++ R l i :: q) = some (.normal, P115 p q l j []) := by
  obtain ⟨j, a1, a2, a3, a4⟩ := f29 (l := l) (i := i) hl hi
  refine ⟨j, a1, a2, a3, fun lo p q hlo => ?_⟩
  simp only [go_sem, X57, P115, H115, b57, Tryd.f57, a4 _ _ _ hlo, tokC, str_nil, ri_nil]
  all_goals rfl
/-- an escape is taken -/
theorem er115 {out : List Int} {c d : Int} (hl : l.length ≤ 100000000000) (hi : i < l.length) (hol : out.length ≤ 100000000000) (hcc : chr (suf l i) 0 = c) (hdd : chr (suf l (i + 1)) 0 = d) (hs : suf l i = c :: suf l (i + 1)) 
    (hb : blk c = false) (t41 : (c == 41) = false) (te : (c == -1) = false) (u1 : (c == 34) = false) (u2 : (c == 39) = false) (u3 : (c == 40) = false) (u4 : unp c = false) (t92 : (c == 92) = true) (he : esc c d = true) :
    ∃ j0, j0 ≤ l.length ∧ i + 1 ≤ j0 ∧ suf l j0 = (escd (suf l (i + 1))).2 ∧ ∀ lo p q, lo ≤ p.length → lo ≤ p.length + (q.length + 3) →
      evCode (X57 lo p q) loopW l57x0 (P115 p q l i out) = some (.normal, P115 p q l j0 (out ++ [(escd (suf l (i + 1))).1])) := by
  have k0 := fun lo p q => f16 (lo := lo) (l := l) (i := i) (p := p) (q := q) (k := 0) (by omega)
  have ke := fun lo p q => f36 (lo := lo) (l := l) (i := i) (p := p) (q := q) (k := 0) (by omega)
  have hw1 : IntKind.i64.wrap ((i : Int) + 1) = ((i + 1 : Nat) : Int) := wrap_succ (by omega)
  have hn : chr (suf l i) (0 + 1) = chr (suf l (i + 1)) 0 := by rw [hs]; exact chr_succ _ _ 0
  have hr : ∀ k, k ≤ 4 → (out.length + k) * 4 ≤ 140737488355328 := by intro k hk; omega
  have hq : ∀ k, 9223372036854775800 ≤ k → out.length ≤ k := by intro k hk; omega
  have app : ∀ y : Int, ri .i32 out ++ [[V.v (.int .i32 y)]] = ri .i32 (out ++ [y]) := by intro y; rw [← ri_app]; rfl
  simp only [n0, hcc, hn, hdd, he] at k0 ke
  obtain ⟨j0, a1, a2, a3, a4⟩ := f52 (l := l) (i := i + 1) hl (by omega)
  refine ⟨j0, a1, a2, a3, fun lo p q hlo hlo3 => ?_⟩
  simp only [go_sem, X57, P115, H115, l57x0, b57, Tryd.f57, k0, f28, f77, te, t41, hb, u1, u2, u3, u4, t92, ke, hw1, hlo, hlo3, a4 _ _ _ hlo, hr, hq, app, and_self, tokC, str_nil]
  all_goals rfl
/-- a character is taken -/
theorem ec115 {out : List Int} {c : Int} (hl : l.length ≤ 100000000000) (hi : i < l.length) (hol : out.length ≤ 100000000000) (hcc : chr (suf l i) 0 = c)
    (hb : blk c = false) (t41 : (c == 41) = false) (te : (c == -1) = false) (u1 : (c == 34) = false) (u2 : (c == 39) = false) (u3 : (c == 40) = false) (u4 : unp c = false) (t92 : (c == 92) = false) :
    ∀ lo p q, lo ≤ p.length → lo ≤ p.length + (q.length + 3) →
      evCode (X57 lo p q) loopW l57x0 (P115 p q l i out) = some (.normal, P115 p q l (i + 1) (out ++ [c])) := by
  have k0 := fun lo p q => f16 (lo := lo) (l := l) (i := i) (p := p) (q := q) (k := 0) (by omega)
  have kt := fun lo p q hlo => f41 (lo := lo) (l := l) (i := i) (p := p) (q := q) hlo (by omega)
  have hr : ∀ k, k ≤ 4 → (out.length + k) * 4 ≤ 140737488355328 := by intro k hk; omega
  have hq : ∀ k, 9223372036854775800 ≤ k → out.length ≤ k := by intro k hk; omega
  have app : ∀ y : Int, ri .i32 out ++ [[V.v (.int .i32 y)]] = ri .i32 (out ++ [y]) := by intro y; rw [← ri_app]; rfl
  simp only [n0, hcc] at k0 kt
  intro lo p q hlo hlo3
  simp only [go_sem, X57, P115, H115, l57x0, b57, Tryd.f57, k0, f28, f77, te, t41, hb, u1, u2, u3, u4, t92, hlo, hlo3, kt _ _ _ hlo, hr, hq, app, and_self, tokC, str_nil]
  all_goals rfl
abbrev ret115 (p q : List Ob) (l : List Int) (j : Nat) (t : Tk) (out : List Int) : Option (Ex × Env × Heap) := some (.ret, [(2, .ptr (p.length + (q.length + 2)) 0)], H115 p q l j (tkC t) out)
/-- the end, or the sign that closes -/
theorem es115 {out : List Int} (hl : l.length ≤ 100000000000) (hi : i ≤ l.length) (hol : out.length ≤ 100000000000) (hcc : chr (suf l i) 0 = 41 ∨ chr (suf l i) 0 = -1) :
    ∀ lo p q, lo ≤ p.length → lo ≤ p.length + (q.length + 2) → evCode (X57 lo p q) loopW l57x0 (P115 p q l i out) = ret115 p q l (stepD l i) (tk 7 out) out := by
  intro lo p q hlo hlo2
  have k0 := fun lo p q => f16 (lo := lo) (l := l) (i := i) (p := p) (q := q) (k := 0) (by omega)
  have kd := f75 (lo := lo) (l := l) (i := i) (p := p) (q := q) (out := out) hl hi hol hlo
  simp only [n0] at k0
  simp only [tokC, str_nil] at kd
  rcases hcc with hcc | hcc
  · have t : ((41 : Int) == 41) = true := rfl
    rw [hcc] at k0
    simp only [go_sem, X57, P115, H115, l57x0, b57, Tryd.f57, k0, t, kd, hlo2, tokC, tkC, tk, str_nil]
    all_goals rfl
  · have t : ((-1 : Int) == 41) = false := rfl
    have t2 : ((-1 : Int) == -1) = true := rfl
    rw [hcc] at k0
    simp only [go_sem, X57, P115, H115, l57x0, b57, Tryd.f57, k0, t, t2, kd, hlo2, tokC, tkC, tk, str_nil]
    all_goals rfl
/-- white space: then the end, or a bad one -/
theorem eb115 {out : List Int} {c : Int} (hl : l.length ≤ 100000000000) (hi : i < l.length) (hol : out.length ≤ 100000000000) (hcc : chr (suf l i) 0 = c) (hb : blk c = true) :
    ∃ j0, j0 ≤ l.length ∧ i ≤ j0 ∧ suf l j0 = blanks (suf l i) ∧ ∃ j, j ≤ l.length ∧ j0 ≤ j ∧
      suf l j = (if chr (suf l j0) 0 = -1 ∨ chr (suf l j0) 0 = 41 then (suf l j0).drop 1 else badu (suf l j0)) ∧
      ∀ lo p q, lo ≤ p.length → lo ≤ p.length + (q.length + 2) → evCode (X57 lo p q) loopW l57x0 (P115 p q l i out) =
        ret115 p q l j (if chr (suf l j0) 0 = -1 ∨ chr (suf l j0) 0 = 41 then tk 7 out else tk 8 []) out := by
  have k0 := fun lo p q => f16 (lo := lo) (l := l) (i := i) (p := p) (q := q) (k := 0) (by omega)
  obtain ⟨j0, a1, a2, a3, a4⟩ := f29 (l := l) (i := i) hl (by omega)
  have kj := fun lo p q => f16 (lo := lo) (l := l) (i := j0) (p := p) (q := q) (k := 0) (by omega)
  have t41 : (c == 41) = false := by
    simp only [blk, Bool.or_eq_true, beq_iff_eq] at hb
    simp
    omega
  have te : (c == -1) = false := by
    simp only [blk, Bool.or_eq_true, beq_iff_eq] at hb
    simp
    omega
  simp only [n0, hcc] at k0
  simp only [n0] at kj
  refine ⟨j0, a1, a2, a3, ?_⟩
  by_cases hend : chr (suf l j0) 0 = -1 ∨ chr (suf l j0) 0 = 41
  · rw [if_pos hend, if_pos hend]
    have hstep : suf l (stepD l j0) = (suf l j0).drop 1 ∧ stepD l j0 ≤ l.length ∧ j0 ≤ stepD l j0 := by
      unfold stepD
      split
      · rename_i h41
        have : j0 < l.length := by
          rcases Nat.lt_or_ge j0 l.length with h | h
          · exact h
          · rw [suf_end h] at h41; cases h41
        exact ⟨by simp [suf, List.drop_drop], by omega, by omega⟩
      · rename_i h41
        have hs : suf l j0 = [] := by
          rcases Nat.lt_or_ge j0 l.length with h | h
          · have := chr_pos h
            omega
          · exact suf_end h
        exact ⟨by rw [hs]; rfl, a1, Nat.le_refl _⟩
    refine ⟨stepD l j0, hstep.2.1, hstep.2.2, hstep.1, fun lo p q hlo hlo2 => ?_⟩
    have kd := f75 (lo := lo) (l := l) (i := j0) (p := p) (q := q) (out := out) hl a1 hol hlo
    simp only [tokC, str_nil] at kd
    rcases hend with h | h
    · have t : ((-1 : Int) == 41) = false := rfl
      have t2 : ((-1 : Int) == -1) = true := rfl
      rw [h] at kj
      simp only [go_sem, X57, P115, H115, l57x0, b57, Tryd.f57, k0, t41, te, f28, hb, a4 _ _ _ hlo, kj, t, t2, kd, hlo2, tokC, tkC, tk, str_nil]
      all_goals rfl
    · have t : ((41 : Int) == 41) = true := rfl
      rw [h] at kj
      simp only [go_sem, X57, P115, H115, l57x0, b57, Tryd.f57, k0, t41, te, f28, hb, a4 _ _ _ hlo, kj, t, kd, hlo2, tokC, tkC, tk, str_nil]
      all_goals rfl
  · rw [if_neg hend, if_neg hend]
    obtain ⟨j, b1, b2, b3, b4⟩ := f76 (l := l) (i := j0) hl a1
    have t : (chr (suf l j0) 0 == 41) = false := by simp; exact fun h => hend (.inr h)
    have t2 : (chr (suf l j0) 0 == -1) = false := by simp; exact fun h => hend (.inl h)
    refine ⟨j, b1, b2, b3, fun lo p q hlo hlo2 => ?_⟩
    simp only [tokC, str_nil] at b4
    simp only [go_sem, X57, P115, H115, l57x0, b57, Tryd.f57, k0, t41, te, f28, hb, a4 _ _ _ hlo, kj, t, t2, b4 _ _ _ hlo, hlo2, tokC, tkC, tk, str_nil]
    all_goals rfl
/-- a bad one -/
theorem ex115 {out : List Int} {c : Int} (hl : l.length ≤ 100000000000) (hi : i < l.length) (hcc : chr (suf l i) 0 = c) (hb : blk c = false) (t41 : (c == 41) = false) (te : (c == -1) = false)
    (hbad : (quo c || c == 40 || unp c) = true ∨ ((quo c || c == 40 || unp c) = false ∧ (c == 92) = true ∧ esc c (chr (suf l (i + 1)) 0) = false)) :
    ∃ j, j ≤ l.length ∧ i ≤ j ∧ suf l j = badu (suf l i) ∧ ∀ lo p q, lo ≤ p.length → lo ≤ p.length + (q.length + 2) → evCode (X57 lo p q) loopW l57x0 (P115 p q l i out) = ret115 p q l j (tk 8 []) out := by
  have k0 := fun lo p q => f16 (lo := lo) (l := l) (i := i) (p := p) (q := q) (k := 0) (by omega)
  have ke := fun lo p q => f36 (lo := lo) (l := l) (i := i) (p := p) (q := q) (k := 0) (by omega)
  have hn : chr (suf l i) (0 + 1) = chr (suf l (i + 1)) 0 := by rw [suf_next hi]; exact chr_succ _ _ 0
  obtain ⟨j, b1, b2, b3, b4⟩ := f76 (l := l) (i := i) hl (by omega)
  simp only [n0, hcc, hn] at k0 ke
  refine ⟨j, b1, b2, b3, fun lo p q hlo hlo2 => ?_⟩
  simp only [tokC, str_nil] at b4
  have hcase : (c == 34) = true ∨ ((c == 34) = false ∧ ((c == 39) = true ∨ ((c == 39) = false ∧ ((c == 40) = true ∨ ((c == 40) = false ∧ (unp c = true ∨ (unp c = false ∧ (c == 92) = true ∧ esc c (chr (suf l (i + 1)) 0) = false))))))) := by
    simp only [quo] at hbad
    cases a1 : (c == 34) <;> cases a2 : (c == 39) <;> cases a3 : (c == 40) <;> cases a4 : unp c <;> simp [a1, a2, a3, a4] at hbad ⊢
    exact hbad
  rcases hcase with u1 | ⟨u1, u2 | ⟨u2, u3 | ⟨u3, u4 | ⟨u4, u5, u6⟩⟩⟩⟩
  · simp only [go_sem, X57, P115, H115, l57x0, b57, Tryd.f57, k0, f28, f77, te, t41, hb, u1, b4 _ _ _ hlo, hlo2, tokC, tkC, tk, str_nil]
    all_goals rfl
  · simp only [go_sem, X57, P115, H115, l57x0, b57, Tryd.f57, k0, f28, f77, te, t41, hb, u1, u2, b4 _ _ _ hlo, hlo2, tokC, tkC, tk, str_nil]
    all_goals rfl
  · simp only [go_sem, X57, P115, H115, l57x0, b57, Tryd.f57, k0, f28, f77, te, t41, hb, u1, u2, u3, b4 _ _ _ hlo, hlo2, tokC, tkC, tk, str_nil]
    all_goals rfl
  · simp only [go_sem, X57, P115, H115, l57x0, b57, Tryd.f57, k0, f28, f77, te, t41, hb, u1, u2, u3, u4, b4 _ _ _ hlo, hlo2, tokC, tkC, tk, str_nil]
    all_goals rfl
  · simp only [go_sem, X57, P115, H115, l57x0, b57, Tryd.f57, k0, ke, f28, f77, te, t41, hb, u1, u2, u3, u4, u5, u6, b4 _ _ _ hlo, hlo2, tokC, tkC, tk, str_nil]
    all_goals rfl

theorem loop57 (hl : l.length ≤ 100000000000) : ∀ (m i : Nat) (out : List Int), (suf l i).length ≤ m → i ≤ l.length → out.length ≤ i →
    ∃ j, j ≤ l.length ∧ i ≤ j ∧ suf l j = (urlN m (suf l i)).2.2 ∧ ∃ o2, ∀ lo (p q : List Ob), lo ≤ p.length → lo ≤ p.length + (q.length + 2) → lo ≤ p.length + (q.length + 3) →
      loopW (evCode (X57 lo p q) loopW l57x0) (P115 p q l i out) = ret115 p q l j (if (urlN m (suf l i)).1 = true then tk 7 (out ++ (urlN m (suf l i)).2.1) else tk 8 []) o2 := by
  have stop : ∀ (i : Nat) (out : List Int), (suf l i = [] ∨ ∃ t, suf l i = 41 :: t) → i ≤ l.length → out.length ≤ i →
    ∃ j, j ≤ l.length ∧ i ≤ j ∧ suf l j = (suf l i).drop 1 ∧ ∃ o2, ∀ lo (p q : List Ob), lo ≤ p.length → lo ≤ p.length + (q.length + 2) → lo ≤ p.length + (q.length + 3) →
      loopW (evCode (X57 lo p q) loopW l57x0) (P115 p q l i out) = ret115 p q l j (tk 7 out) o2 := by
    intro i out hs h2 h3
    have hcc : chr (suf l i) 0 = 41 ∨ chr (suf l i) 0 = -1 := by
      rcases hs with hs | ⟨t, hs⟩
      · right; rw [hs]; rfl
      · left; rw [hs]; rfl
    refine ⟨stepD l i, ?_, ?_, ?_, out, fun lo p q hlo hlo2 hlo3 => ?_⟩
    · unfold stepD
      split
      · rename_i h41
        rcases Nat.lt_or_ge i l.length with h | h
        · omega
        · rw [suf_end h] at h41; cases h41
      · exact h2
    · unfold stepD; split <;> omega
    · unfold stepD
      rcases hs with hs | ⟨t, hs⟩
      · rw [if_neg (by rw [hs]; decide), hs]; rfl
      · rw [if_pos (by rw [hs]; rfl)]; simp [suf, List.drop_drop]
    · rw [loop_eq, es115 hl h2 (by omega) hcc lo p q hlo hlo2]
      rfl
  intro m
  induction m with
  | zero =>
    intro i out h1 h2 h3
    have hs : suf l i = [] := List.eq_nil_of_length_eq_zero (by omega)
    obtain ⟨j, j1, j2, j3, o2, j4⟩ := stop i out (.inl hs) h2 h3
    refine ⟨j, j1, j2, by rw [j3, hs]; rfl, o2, fun lo p q hlo hlo2 hlo3 => ?_⟩
    rw [j4 lo p q hlo hlo2 hlo3, hs]
    simp [urlN]
  | succ m ih =>
    intro i out h1 h2 h3
    rcases Nat.lt_or_ge i l.length with hi | hi
    rotate_left
    · have hs : suf l i = [] := suf_end hi
      obtain ⟨j, j1, j2, j3, o2, j4⟩ := stop i out (.inl hs) h2 h3
      refine ⟨j, j1, j2, by rw [j3, hs]; rfl, o2, fun lo p q hlo hlo2 hlo3 => ?_⟩
      rw [j4 lo p q hlo hlo2 hlo3, hs]
      simp [urlN]
    have hcp := chr_pos hi
    have hs := suf_next hi
    obtain ⟨c, hcc⟩ : ∃ c, chr (suf l i) 0 = c := ⟨_, rfl⟩
    rw [hcc] at hs hcp
    have te : (c == -1) = false := by simp; omega
    by_cases c41 : c = 41
    · subst c41
      obtain ⟨j, j1, j2, j3, o2, j4⟩ := stop i out (.inr ⟨_, hs⟩) h2 h3
      have e : urlN (m + 1) (41 :: suf l (i + 1)) = (true, [], suf l (i + 1)) := by simp [urlN]
      refine ⟨j, j1, j2, by rw [j3, hs, e]; rfl, o2, fun lo p q hlo hlo2 hlo3 => ?_⟩
      rw [j4 lo p q hlo hlo2 hlo3, hs, e]
      simp
    have t41 : (c == 41) = false := by simp [c41]
    cases hb : blk c with
    | true =>
      obtain ⟨j0, a1, a2, a3, j, b1, b2, b3, b4⟩ := eb115 (out := out) hl hi (by omega) hcc hb
      have hbl : blanks (suf l i) = blanks (suf l (i + 1)) := by rw [hs]; exact List.dropWhile_cons_of_pos hb
      have e : urlN (m + 1) (suf l i) = if chr (suf l j0) 0 = -1 ∨ chr (suf l j0) 0 = 41 then (true, [], (suf l j0).drop 1) else (false, [], badu (suf l j0)) := by
        rw [hs, a3, hbl] at *
        simp only [urlN]
        rw [if_neg c41, if_pos hb]
      refine ⟨j, b1, by omega, by rw [b3, e]; split <;> rfl, out, fun lo p q hlo hlo2 hlo3 => ?_⟩
      rw [loop_eq, b4 lo p q hlo hlo2, e]
      show ret115 _ _ _ _ _ _ = _
      congr 1
      split <;> simp
    | false =>
      by_cases hq1 : (quo c || c == 40 || unp c) = true
      · obtain ⟨j, j1, j2, j3, j4⟩ := ex115 (out := out) hl hi hcc hb t41 te (.inl hq1)
        have e : urlN (m + 1) (suf l i) = (false, [], badu (suf l i)) := by
          rw [hs]
          simp only [urlN]
          rw [if_neg c41, if_neg (by simp [hb]), if_pos hq1]
        refine ⟨j, j1, by omega, by rw [j3, e], out, fun lo p q hlo hlo2 hlo3 => ?_⟩
        rw [loop_eq, j4 lo p q hlo hlo2, e]
        rfl
      · have hcase : (c == 34) = false ∧ (c == 39) = false ∧ (c == 40) = false ∧ unp c = false := by
          simp only [quo, Bool.or_eq_true] at hq1
          cases a1 : (c == 34) <;> cases a2 : (c == 39) <;> cases a3 : (c == 40) <;> cases a4 : unp c <;> simp [a1, a2, a3, a4] at hq1 ⊢
        obtain ⟨u1, u2, u3, u4⟩ := hcase
        by_cases c92 : c = 92
        · have t92 : (c == 92) = true := by simp [c92]
          cases he : esc c (chr (suf l (i + 1)) 0) with
          | true =>
            obtain ⟨j0, a1, a2, a3, a4⟩ := er115 (out := out) (d := chr (suf l (i + 1)) 0) hl hi (by omega) hcc rfl hs hb t41 te u1 u2 u3 u4 t92 he
            have e : urlN (m + 1) (suf l i) = ((urlN m (escd (suf l (i + 1))).2).1, (escd (suf l (i + 1))).1 :: (urlN m (escd (suf l (i + 1))).2).2.1, (urlN m (escd (suf l (i + 1))).2).2.2) := by
              rw [hs]
              simp only [urlN]
              rw [if_neg c41, if_neg (by simp [hb]), if_neg hq1, if_pos c92, if_pos he]
            obtain ⟨j, j1, j2, j3, o2, j4⟩ := ih j0 (out ++ [(escd (suf l (i + 1))).1]) (by rw [suf_len] at h1 ⊢; omega) a1 (by simp; omega)
            refine ⟨j, j1, by omega, by rw [j3, e, a3], o2, fun lo p q hlo hlo2 hlo3 => ?_⟩
            rw [loop_eq, a4 lo p q hlo hlo3, loop_n, j4 lo p q hlo hlo2 hlo3, e, a3]
            simp
          | false =>
            obtain ⟨j, j1, j2, j3, j4⟩ := ex115 (out := out) hl hi hcc hb t41 te (.inr ⟨by simpa using hq1, t92, he⟩)
            have e : urlN (m + 1) (suf l i) = (false, [], badu (suf l i)) := by
              rw [hs]
              simp only [urlN]
              rw [if_neg c41, if_neg (by simp [hb]), if_neg hq1, if_pos c92, if_neg (by simp [he])]
            refine ⟨j, j1, by omega, by rw [j3, e], out, fun lo p q hlo hlo2 hlo3 => ?_⟩
            rw [loop_eq, j4 lo p q hlo hlo2, e]
            rfl
        · have t92 : (c == 92) = false := by simp [c92]
          have e : urlN (m + 1) (suf l i) = ((urlN m (suf l (i + 1))).1, c :: (urlN m (suf l (i + 1))).2.1, (urlN m (suf l (i + 1))).2.2) := by
            rw [hs]
            simp only [urlN]
            rw [if_neg c41, if_neg (by simp [hb]), if_neg hq1, if_neg c92]
          obtain ⟨j, j1, j2, j3, o2, j4⟩ := ih (i + 1) (out ++ [c]) (by rw [suf_len] at h1 ⊢; omega) (by omega) (by simp; omega)
          refine ⟨j, j1, by omega, by rw [j3, e], o2, fun lo p q hlo hlo2 hlo3 => ?_⟩
          rw [loop_eq, ec115 hl hi (by omega) hcc hb t41 te u1 u2 u3 u4 t92 lo p q hlo hlo3, loop_n, j4 lo p q hlo hlo2 hlo3, e]
          simp
/-- (*reader).url -/
theorem f57 (hl : l.length ≤ 100000000000) (hi : i ≤ l.length) : ∃ j, j ≤ l.length ∧ i ≤ j ∧ suf l j = (url (suf l i)).2.2 ∧
    ∀ lo p q, lo ≤ p.length → E lo 57 [.ptr p.length 0] (p ++ R l i :: q) = some (.agg (tkC (urlT (url (suf l i)))), p ++ R l j :: q) := by
  obtain ⟨j0, a1, a2, a3, a4⟩ := p115a (l := l) (i := i) hl hi
  obtain ⟨j, j1, j2, j3, o2, j4⟩ := loop57 (l := l) hl (suf l j0).length j0 [] (Nat.le_refl _) a1 (by simp)
  have e : url (suf l i) = urlN (suf l j0).length (suf l j0) := by unfold url; rw [a3]
  have hH : ∀ p q : List Ob, (p ++ R l i :: q).length = p.length + (q.length + 1) := fun p q => by simp
  refine ⟨j, j1, by omega, by rw [j3, e], fun lo p q hlo => ?_⟩
  have hL := j4 lo p q hlo (by omega) (by omega)
  rw [List.nil_append] at hL
  have e2 : (if (urlN (suf l j0).length (suf l j0)).1 = true then tk 7 (urlN (suf l j0).length (suf l j0)).2.1 else tk 8 []) = urlT (url (suf l i)) := by rw [e]; rfl
  rw [e2] at hL
  have hB : evL (X57 lo p q) loopW (pc b57 4 1) (P115 p q l j0 []) = ret115 p q l j (urlT (url (suf l i))) o2 := by
    simp only [X57, P115, H115, ret115, l57x0, b57, Tryd.f57, loopAt, loops, bodyOf, go_sem, tokC, tkC, str_nil, ri_nil] at hL
    simp only [go_sem, X57, P115, H115, ret115, b57, Tryd.f57, hL, tokC, tkC, str_nil, ri_nil]
  rw [e57 (by simp) (by rfl), hH, pc_in, pc_go _ _ _ _ 0 4, a4 lo p q hlo, pc_go _ _ _ _ _ 1, hB, ret115, pc_r]
  simp only [go_sem, tkC]
  all_goals rfl
end
end Go.Lift.D3
end

section
/- The program's alike: a name and a word, whatever the letters' size. -/
open Go.Proofs
namespace Go.Lift.D3
open Utf Tok
set_option maxRecDepth 20000
set_option maxHeartbeats 4000000
set_option linter.unusedSimpArgs false
set_option linter.unusedVariables false

theorem dec_head (c : UInt8) (t : List UInt8) : ∃ n b1 b2 b3, 0 < n ∧ Go.Lib.decodeL (c :: t) = Go.Lib.decodeN n c.toNat b1 b2 b3 := by
  unfold Go.Lib.decodeL
  rw [Go.Lib.decode_at]
  exact ⟨_, _, _, _, by simp [ByteArray.size], rfl⟩
theorem dec_asc {c : UInt8} {t : List UInt8} (h : c.toNat < 128) : Go.Lib.decodeL (c :: t) = (c.toNat, 1) := by
  obtain ⟨n, b1, b2, b3, _, e⟩ := dec_head c t
  rw [e]
  unfold Go.Lib.decodeN
  rw [if_pos h]
theorem dec_big {c : UInt8} {t : List UInt8} (h : 128 ≤ c.toNat) : 128 ≤ (Go.Lib.decodeL (c :: t)).1 := by
  obtain ⟨n, b1, b2, b3, _, e⟩ := dec_head c t
  rw [e]
  unfold Go.Lib.decodeN
  rw [if_neg (by omega)]
  split
  · split
    · rename_i h2; exact h2
    · decide
  · split
    · split
      · rename_i h2
        have := h2.1
        exact Nat.le_trans (by decide) this
      · decide
    · split
      · split
        · rename_i h2
          have := h2.1
          exact Nat.le_trans (by decide) this
        · decide
      · decide
theorem encZ_big {r : Int} (h : 128 ≤ r) : ∃ b u, Go.Lib.encodeRune r = b :: u ∧ 128 ≤ b.toNat := by
  unfold Go.Lib.encodeRune Go.Lib.encodeRuneZ
  have toN : ∀ z : Int, 128 ≤ z → z ≤ 255 → 128 ≤ (z.toNat.toUInt8).toNat := fun z h1 h2 => by
    show 128 ≤ (UInt8.ofNat z.toNat).toNat
    simp only [UInt8.toNat_ofNat']
    omega
  rw [if_neg (by omega)]
  split
  · exact ⟨_, _, rfl, toN _ (by omega) (by omega)⟩
  · split
    · exact ⟨_, _, rfl, toN _ (by omega) (by omega)⟩
    · split
      · exact ⟨_, _, rfl, toN _ (by omega) (by omega)⟩
      · exact ⟨_, _, rfl, by decide⟩
theorem lowU_eq (c : Int) : lowU c = lowc c := rfl
theorem map_low : ∀ (b ks : List Int), By b → (∀ k ∈ ks, 97 ≤ k ∧ k < 128) → (Go.Lib.mapD lowU (u8s b) = u8s ks ↔ b.map lowc = ks)
  | [], ks, _, _ => by
    rw [show u8s [] = [] from rfl, Go.Lib.mapD_nil]
    cases ks with
    | nil => simp [u8s]
    | cons k t => simp [u8s]
  | c :: t, ks, hy, hk => by
    have hc := hy c (by simp)
    have hyt : By t := fun x hx => hy x (by simp [hx])
    have e : u8s (c :: t) = UInt8.ofNat c.toNat :: u8s t := rfl
    have hn : (UInt8.ofNat c.toNat).toNat = c.toNat := by simp only [UInt8.toNat_ofNat']; omega
    rw [e, Go.Lib.mapD_step _ _ (by simp)]
    by_cases h128 : c < 128
    · rw [dec_asc (by rw [hn]; omega), hn]
      simp only
      have hci : ((c.toNat : Nat) : Int) = c := by omega
      rw [hci]
      have hl0 : 0 ≤ lowU c := by unfold lowU; split <;> omega
      have hl1 : lowU c ≤ 127 := by
        unfold lowU
        split
        · rename_i h2; simp at h2; omega
        · omega
      rw [if_pos hl0]
      have e2 : Go.Lib.encodeRune (lowU c) = [UInt8.ofNat (lowU c).toNat] := by
        unfold Go.Lib.encodeRune
        rw [Go.Lib.encodeRuneZ_one hl0 hl1]
        rfl
      rw [e2, List.drop_succ_cons, List.drop_zero]
      cases ks with
      | nil => simp [u8s]
      | cons k ks =>
        have hk0 := hk k (by simp)
        have e3 : u8s (k :: ks) = UInt8.ofNat k.toNat :: u8s ks := rfl
        rw [e3, List.cons_append, List.nil_append, List.map_cons, List.cons.injEq, List.cons.injEq, map_low t ks hyt fun x hx => hk x (by simp [hx])]
        have hb : UInt8.ofNat (lowU c).toNat = UInt8.ofNat k.toNat ↔ lowc c = k := by
          rw [← lowU_eq]
          constructor
          · intro h
            have := congrArg UInt8.toNat h
            simp only [UInt8.toNat_ofNat'] at this
            omega
          · intro h; rw [h]
        rw [hb]
    · have h1 := dec_big (c := UInt8.ofNat c.toNat) (t := u8s t) (by rw [hn]; omega)
      obtain ⟨b, u, e2, hb⟩ := encZ_big (r := lowU (Go.Lib.decodeL (UInt8.ofNat c.toNat :: u8s t)).1) (by
        unfold lowU
        split
        · rename_i h2; simp at h2; omega
        · omega)
      rw [if_pos (by unfold lowU; split <;> omega), e2]
      have hlc : lowc c = c := by
        unfold lowc
        split
        · rename_i h2; simp at h2; omega
        · rfl
      cases ks with
      | nil => simp [u8s]
      | cons k ks =>
        have hk0 := hk k (by simp)
        have e3 : u8s (k :: ks) = UInt8.ofNat k.toNat :: u8s ks := rfl
        rw [e3, List.cons_append, List.map_cons, List.cons.injEq, List.cons.injEq, hlc]
        constructor
        · rintro ⟨h, _⟩
          exfalso
          have := congrArg UInt8.toNat h
          simp only [UInt8.toNat_ofNat'] at this
          omega
        · rintro ⟨h, _⟩
          exfalso
          omega

theorem f73 {lo : Nat} {s : ByteArray} {h : Heap} (hs : s.size < 35184372088832) : E lo 73 [.fn 74 [], .v (.string s)] h = some (.v (.string ⟨(Go.Lib.mapD lowU s.data.toList).toArray⟩), h) := by
  show ev Tryd.prog hints primz lo 73 [.fn 74 [], .v (.string s)] h = _
  rw [ev_prim (p := mapP) rfl]
  unfold mapP
  simp only [hs, and_self, if_true]
/-- jalousie/tok.alike -/
theorem f56 {lo : Nat} {n : List Int} {h : Heap} (hn : n.length ≤ 1000000000000) : E lo 56 [.v (.string (str n)), .v (.string ⟨#[117, 114, 108]⟩)] h = some (.v (.bool (isUrl n)), h) := by
  have hel := encs_len n
  have hsz : (str n).size < 35184372088832 := by
    have : (str n).size = (encs n).length := bs_size (encs n)
    omega
  have hd : (str n).data.toList = u8s (encs n) := by simp [str]
  have k := fun lo h => f73 (lo := lo) (h := h) hsz
  simp only [hd] at k
  have hq : ((⟨(Go.Lib.mapD lowU (u8s (encs n))).toArray⟩ : ByteArray).toList == (⟨#[117, 114, 108]⟩ : ByteArray).toList) = isUrl n := by
    rw [ByteArray.toList_eq, ByteArray.toList_eq]
    unfold isUrl
    rw [Bool.eq_iff_iff, beq_iff_eq, beq_iff_eq, ← low_url n [117, 114, 108] (by decide), ← map_low (encs n) [117, 114, 108] (encs_by n) (by decide)]
    exact Iff.rfl
  rw [e56 (by simp) (by rfl)]
  simp only [go_sem, b56, Tryd.f56, k, hq]
end Go.Lift.D3
end

section
/- The program's word: names, functions, urls. -/
open Go.Proofs
namespace Go.Lift.D3
open Utf Tok
set_option maxRecDepth 20000
set_option maxHeartbeats 4000000
set_option linter.unusedSimpArgs false
set_option linter.unusedVariables false

section
variable {lo i j : Nat} {l : List Int} {p q : List Ob}
noncomputable abbrev X39 (lo : Nat) (p q : List Ob) : Cx := ⟨Tryd.prog, E, lo, p.length + (q.length + 1), h39⟩
abbrev P68 (p q : List Ob) (l : List Int) (j : Nat) (n : List Int) (ex : Env) : Env × Heap :=
  ((0, .ptr p.length 0) :: (2, .ptr (p.length + (q.length + 1)) 0) :: (3, .v (.string (str n))) :: ex, p ++ R l j :: (q ++ [.cells (tokC 0 [])]))
abbrev ret68 (p q : List Ob) (l : List Int) (j : Nat) (t : Tk) : Option (Ex × Env × Heap) := some (.ret, [(2, .ptr (p.length + (q.length + 1)) 0)], p ++ R l j :: (q ++ [.cells (tkC t)]))
theorem p68a (hl : l.length ≤ 100000000000) (hi : i ≤ l.length) : ∃ j, j ≤ l.length ∧ i ≤ j ∧ suf l j = (name (suf l i)).2 ∧
    ∀ lo p q, lo ≤ p.length → lo ≤ p.length + (q.length + 1) → evL (X39 lo p q) loopW (pc b39 0 4) (args0 [.ptr p.length 0], p ++ R l i :: q) =
      if chr (suf l j) 0 = 40 then some (.normal, P68 p q l j (name (suf l i)).1 [(15, .v (.bool false))]) else ret68 p q l j (tk 1 (name (suf l i)).1) := by
  obtain ⟨j, a1, a2, a3, a4⟩ := f38 (l := l) (i := i) hl hi
  have k0 := fun lo p q => f27 (lo := lo) (l := l) (i := j) (p := p) (q := q) (cs := [40]) (by simp; omega)
  simp only [ri_cons, ri_nil, isN_one] at k0
  refine ⟨j, a1, a2, a3, fun lo p q hlo hlo2 => ?_⟩
  by_cases hc : chr (suf l j) 0 = 40
  · have t : (chr (suf l j) 0 == 40) = true := by simp [hc]
    rw [if_pos hc]
    simp only [go_sem, X39, P68, b39, Tryd.f39, a4 _ _ _ hlo, k0, t, tokC, str_nil]
    all_goals rfl
  · have t : (chr (suf l j) 0 == 40) = false := by simp [hc]
    rw [if_neg hc]
    simp only [go_sem, X39, P68, b39, Tryd.f39, a4 _ _ _ hlo, k0, t, hlo2, tokC, tkC, tk, str_nil]
    all_goals rfl
theorem p68b {n : List Int} (hn : n.length ≤ 200000000000) (hj : j ≤ 100000000000) : ∀ lo p q, lo ≤ p.length → lo ≤ p.length + (q.length + 1) →
    evL (X39 lo p q) loopW (pc b39 4 3) (P68 p q l j n [(15, .v (.bool false))]) =
      if isUrl n = true then some (.normal, P68 p q l (j + 1) n [(29, .v (.bool false))]) else ret68 p q l (j + 1) (tk 2 n) := by
  intro lo p q hlo hlo2
  have hw1 : IntKind.i64.wrap ((j : Int) + 1) = ((j + 1 : Nat) : Int) := wrap_succ (by omega)
  have k := fun h => f56 (lo := lo) (n := n) (h := h) (by omega)
  cases hu : isUrl n with
  | true =>
    rw [hu] at k
    rw [if_pos rfl]
    simp only [go_sem, X39, P68, b39, Tryd.f39, hw1, hlo, k, tokC, str_nil]
    all_goals rfl
  | false =>
    rw [hu] at k
    rw [if_neg (by simp)]
    simp only [go_sem, X39, P68, b39, Tryd.f39, hw1, hlo, hlo2, k, tokC, tkC, tk, str_nil]
    all_goals rfl
theorem loop39 {n : List Int} (hl : l.length ≤ 100000000000) : ∀ (m i : Nat) (x : V), (suf l i).length ≤ m → i ≤ l.length →
    ∃ j, j ≤ l.length ∧ i ≤ j ∧ suf l j = skip2N m (suf l i) ∧
      ∀ lo (p q : List Ob), lo ≤ p.length → loopW (evCode (X39 lo p q) loopW l39x0) (P68 p q l i n [(29, x)]) = some (.exit 0, P68 p q l j n [(43, .v (.bool false))]) := by
  have stop : ∀ (i : Nat) (x : V), i ≤ l.length → (blk (chr (suf l i) 0) && blk (chr (suf l i) 1)) = false →
      ∀ lo (p q : List Ob), lo ≤ p.length → loopW (evCode (X39 lo p q) loopW l39x0) (P68 p q l i n [(29, x)]) = some (.exit 0, P68 p q l i n [(43, .v (.bool false))]) := by
    intro i x hi hb lo p q hlo
    have k0 := fun lo p q => f16 (lo := lo) (l := l) (i := i) (p := p) (q := q) (k := 0) (by omega)
    have k1 := fun lo p q => f16 (lo := lo) (l := l) (i := i) (p := p) (q := q) (k := 1) (by omega)
    have n1 : ((1 : Nat) : Int) = 1 := rfl
    simp only [n0, n1] at k0 k1
    rw [loop_eq]
    cases h0 : blk (chr (suf l i) 0) with
    | true =>
      have h1 : blk (chr (suf l i) 1) = false := by simpa [h0] using hb
      simp only [go_sem, X39, P68, l39x0, b39, Tryd.f39, k0, k1, f28, h0, h1, tokC, str_nil]
      all_goals rfl
    | false =>
      simp only [go_sem, X39, P68, l39x0, b39, Tryd.f39, k0, k1, f28, h0, tokC, str_nil]
      all_goals rfl
  intro m
  induction m with
  | zero =>
    intro i x h1 h2
    have hs : suf l i = [] := List.eq_nil_of_length_eq_zero (by omega)
    exact ⟨i, h2, Nat.le_refl _, rfl, stop i x h2 (by rw [hs]; rfl)⟩
  | succ m ih =>
    intro i x h1 h2
    by_cases hb : (blk (chr (suf l i) 0) && blk (chr (suf l i) 1)) = true
    · have hi : i < l.length := by
        rcases Nat.lt_or_ge i l.length with h | h
        · exact h
        · rw [suf_end h] at hb; exact absurd hb (by decide)
      have k0 := fun lo p q => f16 (lo := lo) (l := l) (i := i) (p := p) (q := q) (k := 0) (by omega)
      have k1 := fun lo p q => f16 (lo := lo) (l := l) (i := i) (p := p) (q := q) (k := 1) (by omega)
      have hw1 : IntKind.i64.wrap ((i : Int) + 1) = ((i + 1 : Nat) : Int) := wrap_succ (by omega)
      have n1 : ((1 : Nat) : Int) = 1 := rfl
      simp only [n0, n1] at k0 k1
      obtain ⟨j, j1, j2, j3, j4⟩ := ih (i + 1) .undef (by rw [suf_len] at h1 ⊢; omega) (by omega)
      have e1 : suf l (i + 1) = (suf l i).drop 1 := by simp [suf, List.drop_drop]
      refine ⟨j, j1, by omega, by rw [j3, e1]; simp only [skip2N]; rw [if_pos hb], fun lo p q hlo => ?_⟩
      rw [Bool.and_eq_true] at hb
      have e : evCode (X39 lo p q) loopW l39x0 (P68 p q l i n [(29, x)]) = some (.normal, P68 p q l (i + 1) n [(29, .undef)]) := by
        simp only [go_sem, X39, P68, l39x0, b39, Tryd.f39, k0, k1, f28, hb.1, hb.2, hw1, hlo, tokC, str_nil]
        all_goals rfl
      rw [loop_eq, e, loop_n]
      exact j4 lo p q hlo
    · refine ⟨i, h2, Nat.le_refl _, by simp only [skip2N]; rw [if_neg hb], stop i x h2 (by simpa using hb)⟩
theorem p68c {n : List Int} (hl : l.length ≤ 100000000000) (hi : i ≤ l.length) : ∃ j, j ≤ l.length ∧ i ≤ j ∧ suf l j = skip2 (suf l i) ∧
    ∀ lo p q, lo ≤ p.length → evL (X39 lo p q) loopW (pc b39 7 1) (P68 p q l i n [(29, .v (.bool false))]) = some (.normal, P68 p q l j n [(43, .v (.bool false))]) := by
  obtain ⟨j, j1, j2, j3, j4⟩ := loop39 (n := n) hl (suf l i).length i (.v (.bool false)) (Nat.le_refl _) hi
  refine ⟨j, j1, j2, j3, fun lo p q hlo => ?_⟩
  have hL := j4 lo p q hlo
  simp only [X39, P68, l39x0, b39, Tryd.f39, loopAt, loops, bodyOf, go_sem, tokC, str_nil] at hL
  simp only [go_sem, X39, P68, b39, Tryd.f39, hL, tokC, str_nil]
theorem p68d {n : List Int} (hj : j ≤ 100000000000) : ∀ lo p q, lo ≤ p.length → lo ≤ p.length + (q.length + 1) →
    evL (X39 lo p q) loopW (pc b39 8 6) (P68 p q l j n [(43, .v (.bool false))]) =
      if quo (if blk (chr (suf l j) 0) = true then chr (suf l j) 1 else chr (suf l j) 0) = true then ret68 p q l j (tk 2 n) else some (.normal, P68 p q l j n [(68, .v (.bool false))]) := by
  intro lo p q hlo hlo2
  have k0 := fun lo p q => f16 (lo := lo) (l := l) (i := j) (p := p) (q := q) (k := 0) (by omega)
  have k1 := fun lo p q => f16 (lo := lo) (l := l) (i := j) (p := p) (q := q) (k := 1) (by omega)
  have n1 : ((1 : Nat) : Int) = 1 := rfl
  simp only [n0, n1] at k0 k1
  cases hb : blk (chr (suf l j) 0) with
  | true =>
    simp only [if_true]
    generalize chr (suf l j) 1 = c at *
    cases h34 : (c == 34) with
    | true =>
      rw [if_pos (by simp [quo, h34])]
      simp only [go_sem, X39, P68, b39, Tryd.f39, k0, k1, f28, hb, h34, hlo2, tokC, tkC, tk, str_nil]
      all_goals rfl
    | false =>
      cases h39 : (c == 39) with
      | true =>
        rw [if_pos (by simp [quo, h39])]
        simp only [go_sem, X39, P68, b39, Tryd.f39, k0, k1, f28, hb, h34, h39, hlo2, tokC, tkC, tk, str_nil]
        all_goals rfl
      | false =>
        rw [if_neg (by simp [quo, h34, h39])]
        simp only [go_sem, X39, P68, b39, Tryd.f39, k0, k1, f28, hb, h34, h39, tokC, str_nil]
        all_goals rfl
  | false =>
    simp only [Bool.false_eq_true, if_false]
    generalize chr (suf l j) 0 = c at *
    cases h34 : (c == 34) with
    | true =>
      rw [if_pos (by simp [quo, h34])]
      simp only [go_sem, X39, P68, b39, Tryd.f39, k0, k1, f28, hb, h34, hlo2, tokC, tkC, tk, str_nil]
      all_goals rfl
    | false =>
      cases h39 : (c == 39) with
      | true =>
        rw [if_pos (by simp [quo, h39])]
        simp only [go_sem, X39, P68, b39, Tryd.f39, k0, k1, f28, hb, h34, h39, hlo2, tokC, tkC, tk, str_nil]
        all_goals rfl
      | false =>
        rw [if_neg (by simp [quo, h34, h39])]
        simp only [go_sem, X39, P68, b39, Tryd.f39, k0, k1, f28, hb, h34, h39, tokC, str_nil]
        all_goals rfl
theorem p68e {n : List Int} (hl : l.length ≤ 100000000000) (hi : i ≤ l.length) : ∃ j, j ≤ l.length ∧ i ≤ j ∧ suf l j = (url (suf l i)).2.2 ∧
    ∀ lo p q, lo ≤ p.length → lo ≤ p.length + (q.length + 1) → evL (X39 lo p q) loopW (pc b39 14 2) (P68 p q l i n [(68, .v (.bool false))]) = ret68 p q l j (urlT (url (suf l i))) := by
  obtain ⟨j, a1, a2, a3, a4⟩ := f57 (l := l) (i := i) hl hi
  refine ⟨j, a1, a2, a3, fun lo p q hlo hlo2 => ?_⟩
  have k := a4 lo p (q ++ [.cells (tokC 0 [])]) hlo
  simp only [tokC, tkC, str_nil] at k
  simp only [go_sem, X39, P68, b39, Tryd.f39, k, hlo2, tokC, tkC, str_nil]
  all_goals rfl
theorem fin68 {t : Tk} {o : Ob} : fin Tryd.prog [.cell 2 28] (p.length + (q.length + 1)) (some (.ret, [(2, .ptr (p.length + (q.length + 1)) 0)], p ++ o :: (q ++ [.cells (tkC t)]))) = some (.agg (tkC t), p ++ o :: q) := fin80 (h := []) (r2 := [])

/-- (*R).word -/
theorem f39 (hl : l.length ≤ 100000000000) (hi : i ≤ l.length) : ∃ j, j ≤ l.length ∧ i ≤ j ∧ suf l j = (word (suf l i)).2 ∧
    ∀ lo p q, lo ≤ p.length → E lo 39 [.ptr p.length 0] (p ++ R l i :: q) = some (.agg (tkC (word (suf l i)).1), p ++ R l j :: q) := by
  obtain ⟨j1, a1, a2, a3, a4⟩ := p68a (l := l) (i := i) hl hi
  have hnl := name_len (suf l i)
  rw [suf_len] at hnl
  have hH : ∀ p q : List Ob, (p ++ R l i :: q).length = p.length + (q.length + 1) := fun p q => by simp
  unfold word
  simp only
  rw [← a3]
  by_cases h40 : chr (suf l j1) 0 = 40
  · have hne : j1 < l.length := by
      rcases Nat.lt_or_ge j1 l.length with h | h
      · exact h
      · rw [suf_end h] at h40; cases h40
    have e1 : suf l (j1 + 1) = (suf l j1).drop 1 := by simp [suf, List.drop_drop]
    rw [if_pos h40] 
    cases hu : isUrl (name (suf l i)).1 with
    | true =>
      obtain ⟨j2, b1, b2, b3, b4⟩ := p68c (n := (name (suf l i)).1) (l := l) (i := j1 + 1) hl (by omega)
      rw [if_pos rfl, ← e1, ← b3]
      by_cases hq : quo (if blk (chr (suf l j2) 0) = true then chr (suf l j2) 1 else chr (suf l j2) 0) = true
      · rw [if_pos hq]
        refine ⟨j2, by omega, by omega, rfl, fun lo p q hlo => ?_⟩
        rw [e39 (by simp) (by rfl), hH, pc_in, pc_go _ _ _ _ 0 4, a4 lo p q hlo (by omega), if_pos h40, pc_go _ _ _ _ _ 3, p68b (by omega) (by omega) lo p q hlo (by omega), hu, if_pos rfl,
          pc_go _ _ _ _ _ 1, b4 lo p q hlo, pc_go _ _ _ _ _ 6, p68d (by omega) lo p q hlo (by omega), if_pos hq, ret68, pc_r]
        exact fin68
      · obtain ⟨j3, c1, c2, c3, c4⟩ := p68e (n := (name (suf l i)).1) (l := l) (i := j2) hl b1
        rw [if_neg hq]
        refine ⟨j3, c1, by omega, c3, fun lo p q hlo => ?_⟩
        rw [e39 (by simp) (by rfl), hH, pc_in, pc_go _ _ _ _ 0 4, a4 lo p q hlo (by omega), if_pos h40, pc_go _ _ _ _ _ 3, p68b (by omega) (by omega) lo p q hlo (by omega), hu, if_pos rfl,
          pc_go _ _ _ _ _ 1, b4 lo p q hlo, pc_go _ _ _ _ _ 6, p68d (by omega) lo p q hlo (by omega), if_neg hq, pc_go _ _ _ _ _ 2, c4 lo p q hlo (by omega), ret68, pc_r]
        exact fin68
    | false =>
      rw [if_neg (by simp)]
      refine ⟨j1 + 1, by omega, by omega, e1, fun lo p q hlo => ?_⟩
      rw [e39 (by simp) (by rfl), hH, pc_in, pc_go _ _ _ _ 0 4, a4 lo p q hlo (by omega), if_pos h40, pc_go _ _ _ _ _ 3, p68b (by omega) (by omega) lo p q hlo (by omega), hu, if_neg (by simp), ret68, pc_r]
      exact fin68
  · rw [if_neg h40]
    refine ⟨j1, by omega, by omega, rfl, fun lo p q hlo => ?_⟩
    rw [e39 (by simp) (by rfl), hH, pc_in, pc_go _ _ _ _ 0 4, a4 lo p q hlo (by omega), if_neg h40, ret68, pc_r]
    exact fin68
end
end Go.Lift.D3
end
