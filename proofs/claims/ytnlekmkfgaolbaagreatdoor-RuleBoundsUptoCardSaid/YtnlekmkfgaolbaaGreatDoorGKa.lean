/- Characters to bytes: the arithmetic. -/
import Derived.Test.YtnlekmkfgaolbaaGreatDoorGLc
set_option linter.unusedVariables false
set_option linter.unusedSimpArgs false
set_option linter.unusedSectionVars false
section
namespace Go.Lift.Utf
def scal (x : Int) : Int := if (decide (x < 0) || decide (1114111 < x) || decide (55296 <= x) && decide (x <= 57343)) = true then 65533 else x
theorem scal_in (x : Int) : 0 <= scal x /\ scal x <= 1114111 := by
 unfold scal
 split
 ·omega
 ·rename_i h
  simp at h
  omega
def enc (y : Int) : List Int :=
 if y < 128 then [y] else if y < 2048 then [192 + y / 64, 128 + y % 64] else if y < 65536 then [224 + y / 4096, 128 + y / 64 % 64, 128 + y % 64]
 else [240 + y / 262144, 128 + y / 4096 % 64, 128 + y / 64 % 64, 128 + y % 64]
theorem or8_192 : ∀ z : Fin 32, (BitVec.ofInt 8 192 ||| BitVec.ofInt 8 (z.val : Int)).toNat = 192 + z.val := by decide
theorem or8_224 : ∀ z : Fin 16, (BitVec.ofInt 8 224 ||| BitVec.ofInt 8 (z.val : Int)).toNat = 224 + z.val := by decide
theorem or8_240 : ∀ z : Fin 8, (BitVec.ofInt 8 240 ||| BitVec.ofInt 8 (z.val : Int)).toNat = 240 + z.val := by decide
theorem or8_128 : ∀ z : Fin 64, (BitVec.ofInt 8 128 ||| BitVec.ofInt 8 (z.val : Int)).toNat = 128 + z.val := by decide
theorem and63 {y : Int} (h0 : 0 <= y) (h1 : y <= 2147483647) : ((BitVec.ofInt 32 y &&& BitVec.ofInt 32 63).toNat : Int) = y % 64 := by
 rw [BitVec.toNat_and]
 have e1 : (BitVec.ofInt 32 y).toNat = y.toNat := by
  rw [BitVec.toNat_ofInt]
  omega
 have e2 : (BitVec.ofInt 32 63).toNat = 2 ^ 6 - 1 := by decide
 rw [e1, e2, Nat.and_two_pow_sub_one_eq_mod]
 omega
theorem o8 {c : Int} {n : Nat} (hc : (c = 192 /\ n = 32) \/ (c = 224 /\ n = 16) \/ (c = 240 /\ n = 8) \/ (c = 128 /\ n = 64)) {y : Int} (h0 : 0 <= y) (h1 : y < n) : ((BitVec.ofInt 8 c ||| BitVec.ofInt 8 y).toNat : Int) = c + y := by
 obtain ⟨z, rfl⟩ : ∃ z : Nat, y = z := ⟨y.toNat, by omega⟩
 rcases hc with ⟨rfl, rfl⟩ | ⟨rfl, rfl⟩ | ⟨rfl, rfl⟩ | ⟨rfl, rfl⟩
 ·have := or8_192 ⟨z, by omega⟩; simp only at this; omega
 ·have := or8_224 ⟨z, by omega⟩; simp only at this; omega
 ·have := or8_240 ⟨z, by omega⟩; simp only at this; omega
 ·have := or8_128 ⟨z, by omega⟩; simp only at this; omega
end Go.Lift.Utf
end

section
namespace Go.Lift.Utf
def nd (c : Int) : Nat × Int × Int :=
 if 194 <= c /\ c <= 223 then (1, 128, 191)
 else if c = 224 then (2, 160, 191)
 else if c = 237 then (2, 128, 159)
 else if 225 <= c /\ c <= 239 then (2, 128, 191)
 else if c = 240 then (3, 144, 191)
 else if 241 <= c /\ c <= 243 then (3, 128, 191)
 else if c = 244 then (3, 128, 143)
 else (0, 0, 0)
def more : Nat -> Int -> Int -> Int -> Nat -> List Int -> Int × Nat × Bool
 | 0, r, _, _, k, _ => (r, k, true)
 | _ + 1, _, _, _, k, [] => (65533, k, false)
 | n + 1, r, lo, hi, k, c :: t => if c < lo \/ hi < c then (65533, k, false) else more n (r * 64 + c % 64) 128 191 (k + 1) t
def one : List Int -> Int × Nat × Bool
 | [] => (65533, 1, false)
 | c :: t => if c < 128 then (c, 1, true) else if (nd c).1 = 0 then (65533, 1, false) else more (nd c).1 (c % 2 ^ (6 - (nd c).1)) (nd c).2.1 (nd c).2.2 1 t
abbrev By (b : List Int) : Prop := ∀ c ∈ b, 0 <= c /\ c <= 255
theorem or64 {r y : Int} (h0 : 0 <= r) (h1 : r <= 1000000) (h2 : 0 <= y) (h3 : y < 64) : (ior .i32 (r * 64) y) = r * 64 + y := by
 obtain ⟨m, rfl⟩ : ∃ m : Nat, r = m := ⟨r.toNat, by omega⟩
 obtain ⟨z, rfl⟩ : ∃ z : Nat, y = z := ⟨y.toNat, by omega⟩
 show ((BitVec.ofInt 32 ((m : Int) * 64) ||| BitVec.ofInt 32 (z : Int)).toNat : Int) = _
 rw [BitVec.toNat_or]
 have e1 : (BitVec.ofInt 32 ((m : Int) * 64)).toNat = m <<< 6 := by
  rw [BitVec.toNat_ofInt, Nat.shiftLeft_eq]
  omega
 have e2 : (BitVec.ofInt 32 (z : Int)).toNat = z := by
  rw [BitVec.toNat_ofInt]
  omega
 rw [e1, e2, <- Nat.shiftLeft_add_eq_or_of_lt (by omega), Nat.shiftLeft_eq]
 omega
theorem and8 {y : Int} {k : Nat} (hk : k <= 7) (h0 : 0 <= y) (h1 : y <= 255) : iand .u8 y (2 ^ k - 1) = y % 2 ^ k := by
 obtain ⟨z, rfl⟩ : ∃ z : Nat, y = z := ⟨y.toNat, by omega⟩
 show ((BitVec.ofInt 8 (z : Int) &&& BitVec.ofInt 8 ((2 : Int) ^ k - 1)).toNat : Int) = _
 rw [BitVec.toNat_and]
 have e1 : (BitVec.ofInt 8 (z : Int)).toNat = z := by
  rw [BitVec.toNat_ofInt]
  omega
 have hp : 2 ^ k <= 128 := by
  have : 2 ^ k <= 2 ^ 7 := Nat.pow_le_pow_right (by omega) hk
  omega
 have hq : 1 <= 2 ^ k := Nat.one_le_two_pow
 have e2 : (BitVec.ofInt 8 ((2 : Int) ^ k - 1)).toNat = 2 ^ k - 1 := by
  have e3 : (2 : Int) ^ k = ((2 ^ k : Nat) : Int) := by simp
  rw [BitVec.toNat_ofInt, e3]
  omega
 rw [e1, e2, Nat.and_two_pow_sub_one_eq_mod]
 simp
theorem and32 {y : Int} {k : Nat} (hk : k <= 7) (h0 : 0 <= y) (h1 : y <= 2147483647) : iand .i32 y (2 ^ k - 1) = y % 2 ^ k := by
 obtain ⟨z, rfl⟩ : ∃ z : Nat, y = z := ⟨y.toNat, by omega⟩
 show ((BitVec.ofInt 32 (z : Int) &&& BitVec.ofInt 32 ((2 : Int) ^ k - 1)).toNat : Int) = _
 rw [BitVec.toNat_and]
 have e1 : (BitVec.ofInt 32 (z : Int)).toNat = z := by
  rw [BitVec.toNat_ofInt]
  omega
 have hp : 2 ^ k <= 128 := by
  have : 2 ^ k <= 2 ^ 7 := Nat.pow_le_pow_right (by omega) hk
  omega
 have hq : 1 <= 2 ^ k := Nat.one_le_two_pow
 have e2 : (BitVec.ofInt 32 ((2 : Int) ^ k - 1)).toNat = 2 ^ k - 1 := by
  have e3 : (2 : Int) ^ k = ((2 ^ k : Nat) : Int) := by simp
  rw [BitVec.toNat_ofInt, e3]
  omega
 rw [e1, e2, Nat.and_two_pow_sub_one_eq_mod]
 simp
section
variable {y : Int} (h0 : 0 <= y) (h1 : y <= 255)
include h0 h1
theorem a63 : iand .u8 y 63 = y % 64 := and8 (k := 6) (by omega) h0 h1
theorem a31 : iand .u8 y 31 = y % 32 := and8 (k := 5) (by omega) h0 h1
theorem a15 : iand .u8 y 15 = y % 16 := and8 (k := 4) (by omega) h0 h1
theorem a7 : iand .u8 y 7 = y % 8 := and8 (k := 3) (by omega) h0 h1
theorem c63 : iand .i32 y 63 = y % 64 := and32 (k := 6) (by omega) h0 (by omega)
theorem c7 : iand .i32 y 7 = y % 8 := and32 (k := 3) (by omega) h0 (by omega)
end
def rawN : Nat -> List Int -> List Int
 | 0, _ => []
 | _ + 1, [] => []
 | n + 1, c :: t => (one (c :: t)).1 :: rawN n ((c :: t).drop (one (c :: t)).2.1)
def raw (b : List Int) : List Int := rawN b.length b
def wholeN : Nat -> List Int -> Bool
 | 0, _ => true
 | _ + 1, [] => true
 | n + 1, c :: t => (one (c :: t)).2.2 && wholeN n ((c :: t).drop (one (c :: t)).2.1)
def whole (b : List Int) : Bool := wholeN b.length b
theorem more_k : ∀ (n : Nat) (r lo hi : Int) (k : Nat) (t : List Int), k <= (more n r lo hi k t).2.1 /\ (more n r lo hi k t).2.1 <= k + n /\ (more n r lo hi k t).2.1 <= k + t.length
 | 0, _, _, _, _, _ => by simp [more]
 | n + 1, _, _, _, _, [] => by simp [more]
 | n + 1, r, lo, hi, k, c :: t => by
  unfold more
  split
  ·simp
  ·have := more_k n (r * 64 + c % 64) 128 191 (k + 1) t
   simp only [List.length_cons]
   omega
theorem nd_le (c : Int) : (nd c).1 <= 3 := by
 unfold nd
 repeat' split
 all_goals simp
theorem one_k (c : Int) (t : List Int) : 1 <= (one (c :: t)).2.1 /\ (one (c :: t)).2.1 <= 4 /\ (one (c :: t)).2.1 <= (c :: t).length := by
 simp only [one]
 split
 ·simp
 ·split
  ·simp
  ·have := more_k (nd c).1 (c % 2 ^ (6 - (nd c).1)) (nd c).2.1 (nd c).2.2 1 t
   have := nd_le c
   simp only [List.length_cons]
   omega
theorem rawN_more : ∀ (n m : Nat) (b : List Int), b.length <= n -> b.length <= m -> rawN n b = rawN m b
 | 0, 0, _, _, _ => rfl
 | 0, m + 1, [], _, _ => rfl
 | n + 1, 0, [], _, _ => rfl
 | n + 1, m + 1, [], _, _ => rfl
 | n + 1, m + 1, c :: t, h1, h2 => by
  have := one_k c t
  simp only [rawN]
  rw [rawN_more n m _ (by rw [List.length_drop]; omega) (by rw [List.length_drop]; omega)]
theorem raw_nil : raw [] = [] := rfl
theorem raw_cons (c : Int) (t : List Int) : raw (c :: t) = (one (c :: t)).1 :: raw ((c :: t).drop (one (c :: t)).2.1) := by
 have := one_k c t
 show (one (c :: t)).1 :: rawN t.length ((c :: t).drop (one (c :: t)).2.1) = _
 rw [raw, rawN_more _ _ _ (by rw [List.length_drop, List.length_cons]; omega) (Nat.le_refl _)]
theorem By.drop {b : List Int} (h : By b) (n : Nat) : By (b.drop n) := fun c hc => h c (List.mem_of_mem_drop hc)
theorem shl6 {r : Int} (h0 : 0 <= r) (h1 : r <= 1000000) : IntKind.i32.wrap (ishl .i32 r 6) = r * 64 := wrap_i32 (by show _ <= r * 64; omega) (by show r * 64 <= _; omega)
end Go.Lift.Utf
end

section
namespace Go.Lift.Utf
theorem raw_b {b : List Int} (h : b ≠ []) : raw b = (one b).1 :: raw (b.drop (one b).2.1) := by
 cases b with
 | nil => exact absurd rfl h
 | cons c t => exact raw_cons c t
theorem one_b {b : List Int} (h : b ≠ []) : 1 <= (one b).2.1 /\ (one b).2.1 <= 4 /\ (one b).2.1 <= b.length := by
 cases b with
 | nil => exact absurd rfl h
 | cons c t => exact one_k c t
theorem bytes_ind {p : List Int -> Prop} (h0 : p []) (h1 : ∀ b, b ≠ [] -> p (b.drop (one b).2.1) -> p b) (b : List Int) : p b := by
 suffices ∀ n (b : List Int), b.length <= n -> p b from this b.length b (Nat.le_refl _)
 intro n
 induction n with
 | zero => intro b hb; obtain rfl : b = [] := List.eq_nil_of_length_eq_zero (by omega); exact h0
 | succ n ih =>
  intro b hb
  by_cases hn : b = []
  ·subst hn; exact h0
  ·have := one_b hn
   exact h1 b hn (ih _ (by rw [List.length_drop]; omega))
theorem raw_count (b : List Int) : (raw b).length <= b.length /\ b.length <= 4 * (raw b).length := by
 refine bytes_ind (p := fun b => (raw b).length <= b.length /\ b.length <= 4 * (raw b).length) (by simp [raw_nil]) (fun b hn ih => ?_) b
 have hk := one_b hn
 rw [raw_b hn, List.length_cons]
 rw [List.length_drop] at ih
 omega
def encs (l : List Int) : List Int := l.flatMap fun x => enc (scal x)
theorem enc_by (x : Int) (h0 : 0 <= x) (h1 : x <= 1114111) : By (enc x) := by
 unfold enc
 intro c hc
 split at hc
 ·simp only [List.mem_cons, List.not_mem_nil, or_false] at hc; omega
 ·split at hc
  ·simp only [List.mem_cons, List.not_mem_nil, or_false] at hc; omega
  ·split at hc <;> simp only [List.mem_cons, List.not_mem_nil, or_false] at hc <;> omega
theorem encs_by (l : List Int) : By (encs l) := by
 intro c hc
 obtain ⟨x, _, hx⟩ := List.mem_flatMap.mp hc
 have := scal_in x
 exact enc_by _ this.1 this.2 c hx
theorem encs_cons (x : Int) (l : List Int) : encs (x :: l) = enc (scal x) ++ encs l := rfl
def dstep (back : Bool) (x : Int) : List Int := if x == 10 && back then [] else [if x == 13 || x == 12 then 10 else if x == 0 then 65533 else x]
def dec : Bool -> List Int -> List Int
 | _, [] => []
 | back, x :: l => dstep back x ++ dec (x == 13) l
def bom (b : List Int) : Bool := b.take 3 == [239, 187, 191]
def strip (b : List Int) : List Int := if bom b = true then b.drop 3 else b
def decode (b : List Int) : List Int := dec false (raw (strip b))
def fine (x : Int) : Prop := x ≠ 0 /\ x ≠ 12 /\ x ≠ 13 /\ scal x = x
theorem strip_by {b : List Int} (hy : By b) : By (strip b) := by
 unfold strip
 split
 ·exact hy.drop _
 ·exact hy
end Go.Lift.Utf
end

section
namespace Go.Lift.Tok
open Utf
def chr (s : List Int) (k : Nat) : Int := match s[k]? with
 | some x => x
 | none => -1
def dig (c : Int) : Bool := decide (48 <= c) && decide (c <= 57)
def fst1 (c : Int) : Bool := decide (97 <= c) && decide (c <= 122) || decide (65 <= c) && decide (c <= 90) || c == 95 || decide (128 <= c)
def ltr (c : Int) : Bool := fst1 c || dig c || c == 45
def blk (c : Int) : Bool := c == 10 || c == 9 || c == 32
def unp (c : Int) : Bool := decide (0 <= c) && decide (c <= 8) || c == 11 || decide (14 <= c) && decide (c <= 31) || c == 127
def hex (c : Int) : Int := if dig c = true then c - 48 else if (decide (97 <= c) && decide (c <= 102)) = true then c - 97 + 10 else if (decide (65 <= c) && decide (c <= 70)) = true then c - 65 + 10 else -1
def esc (a b : Int) : Bool := a == 92 && b != 10
def beg (a b c : Int) : Bool := if (a == 45) = true then fst1 b || b == 45 || esc b c else fst1 a || esc a b
def num (a b c : Int) : Bool := if (a == 43 || a == 45) = true then dig b || b == 46 && dig c else dig a || a == 46 && dig b
def quo (c : Int) : Bool := c == 34 || c == 39
def blanks (s : List Int) : List Int := s.dropWhile blk
def hexN : Nat -> Int -> List Int -> Int × List Int
 | 0, n, s => (n, s)
 | _ + 1, n, [] => (n, [])
 | k + 1, n, c :: t => if hex c < 0 then (n, c :: t) else hexN k (n * 16 + hex c) t
def one1 : List Int -> List Int
 | [] => []
 | d :: u => if blk d = true then u else d :: u
def escd : List Int -> Int × List Int
 | [] => (65533, [])
 | c :: t => if hex c < 0 then (c, t) else
  (if (hexN 6 0 (c :: t)).1 = 0 then 65533 else scal (hexN 6 0 (c :: t)).1, one1 (hexN 6 0 (c :: t)).2)
def nameN : Nat -> List Int -> List Int × List Int
 | 0, s => ([], s)
 | _ + 1, [] => ([], [])
 | n + 1, c :: t =>
  if ltr c = true then (c :: (nameN n t).1, (nameN n t).2)
  else if esc c (chr t 0) = true then ((escd t).1 :: (nameN n (escd t).2).1, (nameN n (escd t).2).2)
  else ([], c :: t)
def name (s : List Int) : List Int × List Int := nameN s.length s
def skipR : List Int -> List Int
 | [] => []
 | [_] => []
 | c :: d :: t => if c = 42 /\ d = 47 then t else skipR (d :: t)
def remN : Nat -> List Int -> List Int
 | 0, s => s
 | n + 1, c :: d :: t => if c = 47 /\ d = 42 then remN n (skipR t) else c :: d :: t
 | _ + 1, s => s
def rems (s : List Int) : List Int := remN s.length s
def txtN (sign : Int) : Nat -> List Int -> Bool × List Int × List Int
 | 0, s => (true, [], s)
 | _ + 1, [] => (true, [], [])
 | n + 1, c :: t =>
  if c = 10 then (false, [], c :: t)
  else if c = sign then (true, [], t)
  else if c = 92 then
   match t with
   | [] => (true, [], [])
   | d :: u => if d = 10 then txtN sign n u else ((txtN sign n (escd t).2).1, (escd t).1 :: (txtN sign n (escd t).2).2.1, (txtN sign n (escd t).2).2.2)
  else ((txtN sign n t).1, c :: (txtN sign n t).2.1, (txtN sign n t).2.2)
def txt (sign : Int) (s : List Int) : Bool × List Int × List Int := txtN sign s.length s
def badN : Nat -> List Int -> List Int
 | 0, s => s
 | _ + 1, [] => []
 | n + 1, c :: t => if c = 41 then t else if esc c (chr t 0) = true then badN n (escd t).2 else badN n t
def badu (s : List Int) : List Int := badN s.length s
def urlN : Nat -> List Int -> Bool × List Int × List Int
 | 0, s => (true, [], s)
 | _ + 1, [] => (true, [], [])
 | n + 1, c :: t =>
  if c = 41 then (true, [], t)
  else if blk c = true then (if chr (blanks t) 0 = -1 \/ chr (blanks t) 0 = 41 then (true, [], (blanks t).drop 1) else (false, [], badu (blanks t)))
  else if (quo c || c == 40 || unp c) = true then (false, [], badu (c :: t))
  else if c = 92 then
   if esc c (chr t 0) = true then ((urlN n (escd t).2).1, (escd t).1 :: (urlN n (escd t).2).2.1, (urlN n (escd t).2).2.2)
   else (false, [], badu (c :: t))
  else ((urlN n t).1, c :: (urlN n t).2.1, (urlN n t).2.2)
def url (s : List Int) : Bool × List Int × List Int := urlN (blanks s).length (blanks s)
structure Tk where
 kind : Int
 text : List Int
 num : Int × Int
 whole : Bool
 id : Bool
 deriving DecidableEq
end Go.Lift.Tok
end

section
namespace Go.Lift.Rul
structure Tk4 where
 k : Int
 b : List Int
 n : Int
 d : Int
 w : Bool
 i : Bool
 deriving DecidableEq
def closer (k : Int) : Int := if k = 2 \/ k = 21 then 22 else if k = 19 then 20 else if k = 23 then 24 else 0
theorem closer_closer (k : Int) : closer (closer k) = 0 := by
 unfold closer
 repeat' split
 all_goals first | rfl | (exfalso; omega)
theorem closer_nn (k : Int) : closer k = 0 \/ closer k = 20 \/ closer k = 22 \/ closer k = 24 := by
 unfold closer
 repeat' split
 all_goals simp
inductive CV where
 | mk (t : Tk4) (kids : List CV)
def CV.t : CV -> Tk4
 | .mk t _ => t
def CV.ks : CV -> List CV
 | .mk _ k => k
abbrev Stk := List (Tk4 × List CV)
def addTop (v : CV) : Stk -> List CV -> Stk × List CV
 | [], b => ([], b ++ [v])
 | (o, ks) :: r, b => ((o, ks ++ [v]) :: r, b)
def shutS : Stk -> List CV -> Stk × List CV
 | [], b => ([], b)
 | (o, ks) :: r, b => addTop (.mk o ks) r b
def ctx : Stk -> Option Int
 | [] => none
 | (o, _) :: _ => some (closer o.k)
def stepS (t : Tk4) (s : Stk) (b : List CV) : Stk × List CV :=
 if ctx s = some t.k then shutS s b else if closer t.k ≠ 0 then ((t, []) :: s, b) else addTop (.mk t []) s b
def runS : List Tk4 -> Stk -> List CV -> Stk × List CV
 | [], s, b => (s, b)
 | t :: l, s, b => runS l (stepS t s b).1 (stepS t s b).2
theorem addTop_len (v : CV) (s : Stk) (b : List CV) : (addTop v s b).1.length = s.length := by
 cases s with
 | nil => rfl
 | cons p r => rfl
theorem shutS_len (o : Tk4 × List CV) (r : Stk) (b : List CV) : (shutS (o :: r) b).1.length = r.length := addTop_len _ _ _
def shutN : Nat -> Stk -> List CV -> List CV
 | 0, _, b => b
 | n + 1, s, b => shutN n (shutS s b).1 (shutS s b).2
def shutAll (s : Stk) (b : List CV) : List CV := shutN s.length s b
def vals (l : List Tk4) : List CV := shutAll (runS l [] []).1 (runS l [] []).2
inductive PV where
 | leaf (t : Tk4)
 | node (t : Tk4) (kids : List PV) (c : Option Tk4)
mutual
def toksV : PV -> List Tk4
 | .leaf t => [t]
 | .node t ks c => t :: (toksL ks ++ c.toList)
def toksL : List PV -> List Tk4
 | [] => []
 | v :: r => toksV v ++ toksL r
end
mutual
def cvV : PV -> CV
 | .leaf t => .mk t []
 | .node t ks _ => .mk t (cvL ks)
def cvL : List PV -> List CV
 | [] => []
 | v :: r => cvV v :: cvL r
end
mutual
def goodV (x : Option Int) (last : Bool) : PV -> Prop
 | .leaf t => closer t.k = 0 /\ x ≠ some t.k
 | .node t ks c => closer t.k ≠ 0 /\ x ≠ some t.k /\ (match c with
  | some e => e.k = closer t.k /\ goodL (some (closer t.k)) false ks
  | none => last = true /\ goodL (some (closer t.k)) true ks)
def goodL (x : Option Int) (last : Bool) : List PV -> Prop
 | [] => True
 | v :: r => goodV x (last && r.isEmpty) v /\ goodL x last r
end
theorem goodV_leaf {x : Option Int} {b : Bool} {t : Tk4} : goodV x b (.leaf t) ↔ closer t.k = 0 /\ x ≠ some t.k := by rw [goodV]
theorem goodV_none {x : Option Int} {b : Bool} {t : Tk4} {ks : List PV} : goodV x b (.node t ks none) ↔ closer t.k ≠ 0 /\ x ≠ some t.k /\ b = true /\ goodL (some (closer t.k)) true ks := by rw [goodV]
theorem goodV_some {x : Option Int} {b : Bool} {t e : Tk4} {ks : List PV} : goodV x b (.node t ks (some e)) ↔ closer t.k ≠ 0 /\ x ≠ some t.k /\ e.k = closer t.k /\ goodL (some (closer t.k)) false ks := by rw [goodV]
theorem goodL_cons {x : Option Int} {b : Bool} {v : PV} {r : List PV} : goodL x b (v :: r) ↔ goodV x (b && r.isEmpty) v /\ goodL x b r := by
 rw [goodL]
def isCl (k : Int) : Prop := k = 20 \/ k = 22 \/ k = 24
theorem closer_isCl {k : Int} (h : closer k ≠ 0) : isCl (closer k) := by
 rcases closer_nn k with h' | h' | h' | h'
 ·exact absurd h' h
 ·exact .inl h'
 ·exact .inr (.inl h')
 ·exact .inr (.inr h')
theorem parse_ex : ∀ (n : Nat) (l : List Tk4), l.length <= n -> ∀ x : Option Int, (∀ k, x = some k -> isCl k) ->
  ∃ F rest, l = toksL F ++ rest /\ ((rest = [] /\ goodL x true F) \/ ∃ e r, rest = e :: r /\ x = some e.k /\ goodL x false F) := by
 intro n
 induction n with
 | zero =>
  intro l hl x hx
  obtain rfl : l = [] := List.eq_nil_of_length_eq_zero (by omega)
  exact ⟨[], [], rfl, .inl ⟨rfl, trivial⟩⟩
 | succ n ih =>
  intro l hl x hx
  cases l with
  | nil => exact ⟨[], [], rfl, .inl ⟨rfl, trivial⟩⟩
  | cons t l =>
   simp only [List.length_cons] at hl
   by_cases h1 : x = some t.k
   ·exact ⟨[], t :: l, rfl, .inr ⟨t, l, rfl, h1, trivial⟩⟩
   by_cases h2 : closer t.k = 0
   ·obtain ⟨F, rest, e, h⟩ := ih l (by omega) x hx
    refine ⟨.leaf t :: F, rest, by rw [e, toksL, toksV]; rfl, ?_⟩
    rcases h with ⟨rfl, hg⟩ | ⟨e', r, rfl, he, hg⟩
    ·exact .inl ⟨rfl, goodL_cons.2 ⟨by rw [goodV]; exact ⟨h2, h1⟩, hg⟩⟩
    ·exact .inr ⟨e', r, rfl, he, goodL_cons.2 ⟨by rw [goodV]; exact ⟨h2, h1⟩, hg⟩⟩
   ·obtain ⟨K, rest, e, h⟩ := ih l (by omega) (some (closer t.k)) (fun k hk => by cases hk; exact closer_isCl h2)
    rcases h with ⟨rfl, hg⟩ | ⟨e', r, rfl, he, hg⟩
    ·refine ⟨[.node t K none], [], ?_, .inl ⟨rfl, goodL_cons.2 ⟨by rw [goodV]; exact ⟨h2, h1, rfl, hg⟩, trivial⟩⟩⟩
     rw [e, toksL, toksV, toksL]
     simp
    ·have hr : r.length <= n := by
      have := congrArg List.length e
      simp only [List.length_append, List.length_cons] at this
      omega
     obtain ⟨F, rest, e2, h⟩ := ih r hr x hx
     have hn : ∀ b, goodV x b (.node t K (some e')) := fun b => by
      rw [goodV]
      exact ⟨h2, h1, (Option.some.inj he).symm, hg⟩
     refine ⟨.node t K (some e') :: F, rest, ?_, ?_⟩
     ·rw [e, e2, toksL, toksV]
      simp
     ·rcases h with ⟨rfl, hg2⟩ | ⟨e3, r3, rfl, he3, hg2⟩
      ·exact .inl ⟨rfl, goodL_cons.2 ⟨hn _, hg2⟩⟩
      ·exact .inr ⟨e3, r3, rfl, he3, goodL_cons.2 ⟨hn _, hg2⟩⟩
theorem tree_of (l : List Tk4) : ∃ F, l = toksL F /\ goodL none true F := by
 obtain ⟨F, rest, e, h⟩ := parse_ex l.length l (Nat.le_refl _) none (fun k hk => by cases hk)
 rcases h with ⟨rfl, hg⟩ | ⟨e', r, rfl, he, hg⟩
 ·exact ⟨F, by rw [e, List.append_nil], hg⟩
 ·cases he
theorem goodL_up : ∀ (F : List PV) {x : Option Int} {b : Bool}, goodL x b F -> goodL none b F
 | [], _, _, _ => trivial
 | v :: r, x, b, h => by
  rw [goodL_cons] at h ⊢
  refine ⟨?_, goodL_up r h.2⟩
  have h1 := h.1
  cases v with
  | leaf t => exact goodV_leaf.2 ⟨(goodV_leaf.1 h1).1, fun h => by cases h⟩
  | node t ks c =>
   cases c with
   | none => exact goodV_none.2 ⟨(goodV_none.1 h1).1, fun h => (by cases h), (goodV_none.1 h1).2.2⟩
   | some e => exact goodV_some.2 ⟨(goodV_some.1 h1).1, fun h => (by cases h), (goodV_some.1 h1).2.2⟩
theorem goodL_app : ∀ (F G : List PV) {x : Option Int} {b : Bool}, goodL x b (F ++ G) -> goodL x (b && G.isEmpty) F /\ goodL x b G
 | [], G, x, b, h => ⟨trivial, h⟩
 | v :: r, G, x, b, h => by
  rw [List.cons_append, goodL_cons] at h
  obtain ⟨h1, h2⟩ := goodL_app r G h.2
  refine ⟨goodL_cons.2 ⟨?_, h1⟩, h2⟩
  have : (b && (r ++ G).isEmpty) = (b && G.isEmpty && r.isEmpty) := by
   cases b <;> cases r <;> cases G <;> rfl
  rw [<- this]
  exact h.1
theorem goodV_true {v : PV} {x : Option Int} {b : Bool} (h : goodV x b v) : goodV x true v := by
 cases v with
 | leaf t => exact goodV_leaf.2 (goodV_leaf.1 h)
 | node t ks c =>
  cases c with
  | none => exact goodV_none.2 ⟨(goodV_none.1 h).1, (goodV_none.1 h).2.1, rfl, (goodV_none.1 h).2.2.2⟩
  | some e => exact goodV_some.2 (goodV_some.1 h)
theorem goodL_true : ∀ (F : List PV) {x : Option Int} {b : Bool}, goodL x b F -> goodL x true F
 | [], _, _, _ => trivial
 | v :: r, x, b, h => by
  rw [goodL_cons] at h ⊢
  refine ⟨?_, goodL_true r h.2⟩
  cases r with
  | nil => exact goodV_true h.1
  | cons u r =>
   have : (b && (u :: r).isEmpty) = (true && (u :: r).isEmpty) := by simp
   rw [<- this]
   exact h.1
theorem toksL_app (F G : List PV) : toksL (F ++ G) = toksL F ++ toksL G := by
 induction F with
 | nil => rfl
 | cons v r ih => rw [List.cons_append, toksL, ih, toksL, List.append_assoc]
theorem cvL_app (F G : List PV) : cvL (F ++ G) = cvL F ++ cvL G := by
 induction F with
 | nil => rfl
 | cons v r ih => rw [List.cons_append, cvL, ih, cvL, List.cons_append]
theorem cvL_len (F : List PV) : (cvL F).length = F.length := by
 induction F with
 | nil => rfl
 | cons v r ih => rw [cvL, List.length_cons, ih, List.length_cons]
def addTops (vs : List CV) : Stk -> List CV -> Stk × List CV
 | [], b => ([], b ++ vs)
 | (o, ks) :: r, b => ((o, ks ++ vs) :: r, b)
theorem addTops_nil (s : Stk) (b : List CV) : addTops [] s b = (s, b) := by
 cases s with
 | nil => simp [addTops]
 | cons p r => obtain ⟨o, ks⟩ := p; simp [addTops]
theorem addTops_cons (v : CV) (vs : List CV) (s : Stk) (b : List CV) : addTops vs (addTop v s b).1 (addTop v s b).2 = addTops (v :: vs) s b := by
 cases s with
 | nil => simp [addTop, addTops]
 | cons p r => obtain ⟨o, ks⟩ := p; simp [addTop, addTops]
theorem ctx_addTop (v : CV) (s : Stk) (b : List CV) : ctx (addTop v s b).1 = ctx s := by
 cases s with
 | nil => rfl
 | cons p r => obtain ⟨o, ks⟩ := p; rfl
theorem runS_app (l m : List Tk4) : ∀ (s : Stk) (b : List CV), runS (l ++ m) s b = runS m (runS l s b).1 (runS l s b).2 := by
 induction l with
 | nil => intro s b; rfl
 | cons t l ih => intro s b; rw [List.cons_append, runS, ih, runS]
mutual
theorem run_closedV : ∀ (v : PV) (s : Stk) (b : List CV), goodV (ctx s) false v -> runS (toksV v) s b = addTop (cvV v) s b
 | .leaf t, s, b, h => by
  rw [goodV] at h
  rw [toksV, runS, runS, cvV]
  unfold stepS
  rw [if_neg h.2, if_neg (by simp [h.1])]
 | .node t ks none, s, b, h => by
  rw [goodV] at h
  exact absurd h.2.2.1 (by decide)
 | .node t ks (some e), s, b, h => by
  rw [goodV] at h
  obtain ⟨h1, h2, h3, h4⟩ := h
  have e1 : stepS t s b = ((t, []) :: s, b) := by
   unfold stepS
   rw [if_neg h2, if_pos h1]
  rw [toksV, runS, e1, runS_app]
  simp only
  rw [run_closedL ks ((t, []) :: s) b h4]
  simp only [addTops, List.nil_append, Option.toList]
  rw [runS, runS, cvV]
  unfold stepS
  rw [if_pos (by show some (closer t.k) = some e.k; rw [h3])]
  rfl
theorem run_closedL : ∀ (F : List PV) (s : Stk) (b : List CV), goodL (ctx s) false F -> runS (toksL F) s b = addTops (cvL F) s b
 | [], s, b, _ => by rw [toksL, runS, cvL, addTops_nil]
 | v :: r, s, b, h => by
  rw [goodL] at h
  rw [toksL, runS_app, run_closedV v s b (by simpa using h.1), run_closedL r _ _ (by rw [ctx_addTop]; exact h.2), cvL, addTops_cons]
end
theorem shutAll_cons (p : Tk4 × List CV) (s : Stk) (b : List CV) : shutAll (p :: s) b = shutAll (shutS (p :: s) b).1 (shutS (p :: s) b).2 := by
 unfold shutAll
 rw [List.length_cons, shutN, shutS_len]
mutual
theorem run_openV : ∀ (v : PV) (s : Stk) (b : List CV), goodV (ctx s) true v -> shutAll (runS (toksV v) s b).1 (runS (toksV v) s b).2 = shutAll (addTop (cvV v) s b).1 (addTop (cvV v) s b).2
 | .leaf t, s, b, h => by rw [run_closedV (.leaf t) s b (by rw [goodV] at h ⊢; exact h)]
 | .node t ks (some e), s, b, h => by rw [run_closedV (.node t ks (some e)) s b (by rw [goodV] at h ⊢; exact h)]
 | .node t ks none, s, b, h => by
  rw [goodV] at h
  obtain ⟨h1, h2, _, h4⟩ := h
  have e1 : stepS t s b = ((t, []) :: s, b) := by
   unfold stepS
   rw [if_neg h2, if_pos h1]
  rw [toksV, runS, e1]
  simp only [Option.toList, List.append_nil]
  rw [run_openL ks ((t, []) :: s) b h4]
  simp only [addTops, List.nil_append]
  rw [shutAll_cons, cvV]
  rfl
theorem run_openL : ∀ (F : List PV) (s : Stk) (b : List CV), goodL (ctx s) true F -> shutAll (runS (toksL F) s b).1 (runS (toksL F) s b).2 = shutAll (addTops (cvL F) s b).1 (addTops (cvL F) s b).2
 | [], s, b, _ => by rw [toksL, runS, cvL, addTops_nil]
 | [v], s, b, h => by
  rw [goodL] at h
  rw [toksL, toksL, List.append_nil, run_openV v s b (by simpa using h.1), cvL, cvL, <- addTops_cons, addTops_nil]
 | v :: u :: r, s, b, h => by
  rw [goodL] at h
  rw [toksL, runS_app, run_closedV v s b (by simpa using h.1), run_openL (u :: r) _ _ (by rw [ctx_addTop]; exact h.2), addTops_cons, <- cvL]
end
theorem vals_toks {F : List PV} {x : Option Int} {b : Bool} (h : goodL x b F) : vals (toksL F) = cvL F := by
 have := run_openL F [] [] (goodL_true F (goodL_up F h))
 unfold vals
 rw [this]
 show shutAll [] ([] ++ cvL F) = _
 rfl
end Go.Lift.Rul
end

section
namespace Go.Lift.Rul
mutual
def depV : PV -> Nat
 | .leaf _ => 0
 | .node _ ks _ => depL ks + 1
def depL : List PV -> Nat
 | [] => 0
 | v :: r => max (depV v) (depL r)
end
structure LS where
 st : List Nat
 E : List Nat
 D : List Nat
def shutL (at_ : Nat) (s : LS) : LS :=
 match s.st with
 | [] => s
 | [i] => ⟨[], s.E.set i at_, s.D.set i (s.D.getD i 0 + 1)⟩
 | i :: j :: r => ⟨j :: r, s.E.set i at_, (s.D.set i (s.D.getD i 0 + 1)).set j (max (s.D.getD j 0) (s.D.getD i 0 + 1))⟩
def clAt (l : List Tk4) (j : Nat) : Int := match l[j]? with
 | some t => closer t.k
 | none => 0
def ctxL (l : List Tk4) : List Nat -> Option Int
 | [] => none
 | j :: _ => some (clAt l j)
def stepL (l : List Tk4) (i : Nat) (x : Tk4) (s : LS) : LS :=
 if closer x.k ≠ 0 then ⟨i :: s.st, s.E, s.D⟩ else if ctxL l s.st = some x.k then shutL i s else s
def runL (l : List Tk4) : Nat -> List Tk4 -> LS -> LS
 | _, [], s => s
 | i, x :: r, s => runL l (i + 1) r (stepL l i x s)
def shutK (N : Nat) : Nat -> LS -> LS
 | 0, s => s
 | k + 1, s => shutK N k (shutL N s)
def laidM (l : List Tk4) : LS :=
 let s := runL l 0 l ⟨[], List.replicate l.length 0, List.replicate l.length 0⟩
 shutK l.length s.st.length s
mutual
def laidV (N : Nat) (E D : List Nat) (p : Nat) : PV -> Prop
 | .leaf _ => D.getD p 0 = 0
 | .node t ks c => E.getD p 0 = (match c with
  | some _ => p + 1 + (toksL ks).length
  | none => N) /\ D.getD p 0 = depL ks + 1 /\ laidL N E D (p + 1) ks
def laidL (N : Nat) (E D : List Nat) (p : Nat) : List PV -> Prop
 | [] => True
 | v :: r => laidV N E D p v /\ laidL N E D (p + (toksV v).length) r
end
def endOf (N p : Nat) (ks : List PV) (c : Option Tk4) : Nat := match c with
 | some _ => p + 1 + (toksL ks).length
 | none => N
theorem laidV_node {N p : Nat} {E D : List Nat} {t : Tk4} {ks : List PV} {c : Option Tk4} : laidV N E D p (.node t ks c) ↔ E.getD p 0 = endOf N p ks c /\ D.getD p 0 = depL ks + 1 /\ laidL N E D (p + 1) ks := by
 cases c <;> rw [laidV] <;> rfl
theorem toksV_pos (v : PV) : 0 < (toksV v).length := by
 cases v with
 | leaf t => rw [toksV]; exact Nat.one_pos
 | node t ks c => rw [toksV]; simp
mutual
theorem laidV_same {N : Nat} {E D E' D' : List Nat} : ∀ (v : PV) {p : Nat}, (∀ q, p <= q -> q < p + (toksV v).length -> E'.getD q 0 = E.getD q 0 /\ D'.getD q 0 = D.getD q 0) -> laidV N E D p v -> laidV N E' D' p v
 | .leaf t, p, h, hl => by
  rw [laidV] at hl ⊢
  rw [(h p (Nat.le_refl _) (by rw [toksV]; simp)).2]
  exact hl
 | .node t ks c, p, h, hl => by
  rw [laidV_node] at hl ⊢
  obtain ⟨h1, h2, h3⟩ := hl
  have hp := h p (Nat.le_refl _) (by rw [toksV]; simp)
  refine ⟨by rw [hp.1]; exact h1, by rw [hp.2]; exact h2, laidL_same ks (fun q hq hq2 => h q (by omega) ?_) h3⟩
  rw [toksV]
  simp only [List.length_cons, List.length_append]
  omega
theorem laidL_same {N : Nat} {E D E' D' : List Nat} : ∀ (F : List PV) {p : Nat}, (∀ q, p <= q -> q < p + (toksL F).length -> E'.getD q 0 = E.getD q 0 /\ D'.getD q 0 = D.getD q 0) -> laidL N E D p F -> laidL N E' D' p F
 | [], p, _, _ => by rw [laidL]; trivial
 | v :: r, p, h, hl => by
  rw [laidL] at hl ⊢
  rw [toksL] at h
  simp only [List.length_append] at h
  exact ⟨laidV_same v (fun q h1 h2 => h q h1 (by omega)) hl.1, laidL_same r (fun q h1 h2 => h q (by omega) (by omega)) hl.2⟩
end
structure Lays (N p : Nat) (F : List PV) (s s' : LS) : Prop where
 st : s'.st = s.st
 le : s'.E.length = N
 ld : s'.D.length = N
 e : ∀ q, q < p -> s'.E.getD q 0 = s.E.getD q 0
 d : ∀ q, q < p -> s.st.head? ≠ some q -> s'.D.getD q 0 = s.D.getD q 0
 top : ∀ j, s.st.head? = some j -> s'.D.getD j 0 = max (s.D.getD j 0) (depL F)
 new : ∀ q, p + (toksL F).length <= q -> s'.D.getD q 0 = 0
 laid : laidL N s'.E s'.D p F
structure Begins (N p : Nat) (s : LS) : Prop where
 le : s.E.length = N
 ld : s.D.length = N
 lt : ∀ j ∈ s.st, j < p
 new : ∀ q, p <= q -> s.D.getD q 0 = 0
theorem getD_set_eq {l : List Nat} {i : Nat} {x : Nat} (h : i < l.length) : (l.set i x).getD i 0 = x := by simp [List.getD_eq_getElem?_getD, h]
theorem getD_set_ne' {l : List Nat} {i q : Nat} {x : Nat} (h : q ≠ i) : (l.set i x).getD q 0 = l.getD q 0 := by simp [List.getD_eq_getElem?_getD, List.getElem?_set, Ne.symm h]
theorem Begins.lays_nil {N p : Nat} {s : LS} (h : Begins N p s) : Lays N p [] s s :=
 ⟨rfl, h.le, h.ld, fun _ _ => rfl, fun _ _ _ => rfl, fun j _ => by rw [depL]; omega, fun q hq => h.new q (by omega), by rw [laidL]; trivial⟩
theorem Lays.seq {N p : Nat} {v : PV} {r : List PV} {s s1 s2 : LS} (hb : Begins N p s) (h1 : Lays N p [v] s s1) (h2 : Lays N (p + (toksV v).length) r s1 s2) : Lays N p (v :: r) s s2 := by
 have e1 : (toksL [v]).length = (toksV v).length := by rw [toksL, toksL, List.append_nil]
 have e2 : (toksL (v :: r)).length = (toksV v).length + (toksL r).length := by rw [toksL, List.length_append]
 have htop : ∀ j, s.st.head? = some j -> j < p := fun j hj => hb.lt j (List.mem_of_mem_head? hj)
 refine ⟨h2.st.trans h1.st, h2.le, h2.ld, fun q hq => ?_, fun q hq hn => ?_, fun j hj => ?_, fun q hq => h2.new q (by omega), ?_⟩
 ·rw [h2.e q (by omega), h1.e q hq]
 ·rw [h2.d q (by omega) (by rw [h1.st]; exact hn), h1.d q hq hn]
 ·rw [h2.top j (by rw [h1.st]; exact hj), h1.top j hj, depL, depL, depL]
  omega
 ·rw [laidL]
  refine ⟨laidV_same v (fun q q1 q2 => ⟨h2.e q q2, h2.d q q2 (fun e => ?_)⟩) (by have := h1.laid; rw [laidL] at this; exact this.1), h2.laid⟩
  rw [h1.st] at e
  have := htop q e
  omega
theorem Lays.begins {N p : Nat} {F : List PV} {s s1 : LS} (hb : Begins N p s) (h : Lays N p F s s1) : Begins N (p + (toksL F).length) s1 :=
 ⟨h.le, h.ld, fun j hj => by rw [h.st] at hj; have := hb.lt j hj; omega, h.new⟩
theorem runL_app (l : List Tk4) : ∀ (a b : List Tk4) (i : Nat) (s : LS), runL l i (a ++ b) s = runL l (i + a.length) b (runL l i a s)
 | [], b, i, s => rfl
 | x :: a, b, i, s => by
  rw [List.cons_append, runL, runL_app l a b, runL, List.length_cons]
  congr 1
  omega
theorem shutK_succ (N k : Nat) (s : LS) : shutK N (k + 1) s = shutL N (shutK N k s) := by
 induction k generalizing s with
 | zero => rfl
 | succ k ih => rw [shutK, ih, shutK]
theorem close_lays {N p a : Nat} {t : Tk4} {ks : List PV} {c : Option Tk4} {s s1 : LS} (hb : Begins N p s) (hp : p < N) (h : Lays N (p + 1) ks ⟨p :: s.st, s.E, s.D⟩ s1)
  (ha : a = match c with
   | some _ => p + 1 + (toksL ks).length
   | none => N) : Lays N p [.node t ks c] s (shutL a s1) := by
 have hlen : (toksL [PV.node t ks c]).length = 1 + (toksL ks).length + c.toList.length := by
  rw [toksL, toksL, toksV]
  simp only [List.append_nil, List.length_cons, List.length_append]
  omega
 have htp : s1.D.getD p 0 = depL ks := by
  have := h.top p rfl
  rw [this]
  show max (s.D.getD p 0) _ = _
  rw [hb.new p (Nat.le_refl _)]
  omega
 have hdep : depL [PV.node t ks c] = depL ks + 1 := by rw [depL, depL, depV]; omega
 have hst := h.st
 simp only at hst
 have hold : ∀ q, q < p -> s1.D.getD q 0 = s.D.getD q 0 := fun q hq => h.d q (by omega) (by simp; omega)
 have holdE : ∀ q, q < p -> s1.E.getD q 0 = s.E.getD q 0 := fun q hq => h.e q (by omega)
 obtain ⟨st1, E1, D1⟩ := s1
 subst hst
 have hE : E1.length = N := h.le
 have hD : D1.length = N := h.ld
 simp only at htp hold holdE
 have hnew : ∀ q, p + 1 + (toksL ks).length <= q -> D1.getD q 0 = 0 := h.new
 have hlaid : laidL N E1 D1 (p + 1) ks := h.laid
 cases hs : s.st with
 | nil =>
  have e : shutL a ⟨[p], E1, D1⟩ = ⟨[], E1.set p a, D1.set p (depL ks + 1)⟩ := by
   show LS.mk [] _ (D1.set p (D1.getD p 0 + 1)) = _
   rw [htp]
  rw [e]
  refine ⟨hs.symm, by simpa using hE, by simpa using hD, fun q hq => ?_, fun q hq _ => ?_, fun j hj => ?_, fun q hq => ?_, ?_⟩
  ·show (E1.set p a).getD q 0 = _
   rw [getD_set_ne' (by omega), holdE q hq]
  ·show (D1.set p _).getD q 0 = _
   rw [getD_set_ne' (by omega), hold q hq]
  ·rw [hs] at hj; cases hj
  ·show (D1.set p _).getD q 0 = _
   rw [getD_set_ne' (by omega)]
   exact hnew q (by omega)
  ·show laidL N (E1.set p a) (D1.set p (depL ks + 1)) p _
   rw [laidL, laidV_node]
   refine ⟨⟨?_, ?_, laidL_same ks (fun q q1 q2 => ⟨getD_set_ne' (by omega), getD_set_ne' (by omega)⟩) hlaid⟩, by rw [laidL]; trivial⟩
   ·rw [getD_set_eq (by omega), ha]
    cases c <;> rfl
   ·rw [getD_set_eq (by omega)]
 | cons j r =>
  have hjp : j < p := hb.lt j (by rw [hs]; simp)
  have e : shutL a ⟨p :: j :: r, E1, D1⟩ = ⟨j :: r, E1.set p a, (D1.set p (depL ks + 1)).set j (max (D1.getD j 0) (depL ks + 1))⟩ := by
   show LS.mk (j :: r) _ ((D1.set p (D1.getD p 0 + 1)).set j (max (D1.getD j 0) (D1.getD p 0 + 1))) = _
   rw [htp]
  rw [e]
  refine ⟨hs.symm, by simpa using hE, by simpa using hD, fun q hq => ?_, fun q hq hn => ?_, fun k hk => ?_, fun q hq => ?_, ?_⟩
  ·show (E1.set p a).getD q 0 = _
   rw [getD_set_ne' (by omega), holdE q hq]
  ·show ((D1.set p _).set j _).getD q 0 = _
   have hqj : q ≠ j := fun e => hn (by rw [hs, e]; rfl)
   rw [getD_set_ne' hqj, getD_set_ne' (by omega), hold q hq]
  ·rw [hs] at hk
   obtain rfl : j = k := by simpa using hk
   show ((D1.set p _).set j _).getD j 0 = _
   rw [getD_set_eq (by simp; omega), hold j hjp, hdep]
  ·show ((D1.set p _).set j _).getD q 0 = _
   rw [getD_set_ne' (by omega), getD_set_ne' (by omega)]
   exact hnew q (by omega)
  ·show laidL N (E1.set p a) ((D1.set p (depL ks + 1)).set j _) p _
   rw [laidL, laidV_node]
   refine ⟨⟨?_, ?_, laidL_same ks (fun q q1 q2 => ⟨getD_set_ne' (by omega), by rw [getD_set_ne' (by omega), getD_set_ne' (by omega)]⟩) hlaid⟩, by rw [laidL]; trivial⟩
   ·rw [getD_set_eq (by omega), ha]
    cases c <;> rfl
   ·rw [getD_set_ne' (by omega), getD_set_eq (by omega)]
def Lies (l : List Tk4) (p : Nat) (m : List Tk4) : Prop := ∀ k, k < m.length -> l[p + k]? = m[k]?
theorem Lies.left {l a b : List Tk4} {p : Nat} (h : Lies l p (a ++ b)) : Lies l p a := fun k hk => by
 rw [h k (by simp; omega), List.getElem?_append_left hk]
theorem Lies.right {l a b : List Tk4} {p : Nat} (h : Lies l p (a ++ b)) : Lies l (p + a.length) b := fun k hk => by
 have := h (a.length + k) (by simp; omega)
 rw [List.getElem?_append_right (by omega), Nat.add_sub_cancel_left] at this
 rw [Nat.add_assoc]
 exact this
theorem Lies.le {l m : List Tk4} {p : Nat} (h : Lies l p m) (hm : m ≠ []) : p + m.length <= l.length := by
 have hp : 0 < m.length := List.length_pos_iff.2 hm
 have h1 := h (m.length - 1) (by omega)
 rw [List.getElem?_eq_getElem (show m.length - 1 < m.length by omega)] at h1
 have := (List.getElem?_eq_some_iff.1 h1).1
 omega
theorem stepL_open {l : List Tk4} {p : Nat} {t : Tk4} {s : LS} (h : closer t.k ≠ 0) : stepL l p t s = ⟨p :: s.st, s.E, s.D⟩ := by
 unfold stepL; rw [if_pos h]
theorem begins_open {N p : Nat} {s : LS} (hb : Begins N p s) : Begins N (p + 1) ⟨p :: s.st, s.E, s.D⟩ :=
 ⟨hb.le, hb.ld, fun j hj => by
  rcases List.mem_cons.1 hj with rfl | hj
  ·omega
  ·have := hb.lt j hj; omega, fun q hq => hb.new q (by omega)⟩
theorem ctxL_open {l : List Tk4} {p : Nat} {t : Tk4} {st : List Nat} (h : l[p]? = some t) : ctxL l (p :: st) = some (closer t.k) := by
 simp [ctxL, clAt, h]
mutual
theorem laysV : ∀ (v : PV) (l : List Tk4) (p : Nat) (s : LS), goodV (ctxL l s.st) false v -> Lies l p (toksV v) -> Begins l.length p s -> Lays l.length p [v] s (runL l p (toksV v) s)
 | .leaf t, l, p, s, hg, hl, hb => by
  rw [goodV_leaf] at hg
  rw [toksV, runL, runL]
  have e : stepL l p t s = s := by
   unfold stepL
   rw [if_neg (by simp [hg.1]), if_neg hg.2]
  rw [e]
  refine ⟨rfl, hb.le, hb.ld, fun _ _ => rfl, fun _ _ _ => rfl, fun j _ => by rw [depL, depL, depV]; omega, fun q hq => hb.new q (by rw [toksL, toksV] at hq; simp at hq; omega), ?_⟩
  rw [laidL, laidV, laidL]
  exact ⟨hb.new p (Nat.le_refl _), trivial⟩
 | .node t ks none, l, p, s, hg, _, _ => by
  rw [goodV_none] at hg
  exact absurd hg.2.2.1 (by decide)
 | .node t ks (some e), l, p, s, hg, hl, hb => by
  rw [goodV_some] at hg
  obtain ⟨h1, h2, h3, h4⟩ := hg
  rw [toksV] at hl ⊢
  have hp : l[p]? = some t := hl 0 (by simp)
  have hpl := (List.getElem?_eq_some_iff.1 hp).1
  have hl2 : Lies l (p + 1) (toksL ks ++ [e]) := fun k hk => by
   have := hl (k + 1) (by simp at hk ⊢; omega)
   rw [show p + (k + 1) = p + 1 + k by omega] at this
   exact this
  rw [runL, stepL_open h1]
  show Lays l.length p _ s (runL l (p + 1) (toksL ks ++ [e]) _)
  rw [runL_app, runL, runL]
  have hk := laysL ks l (p + 1) ⟨p :: s.st, s.E, s.D⟩ (by rw [ctxL_open hp]; exact h4) hl2.left (begins_open hb)
  have hst := hk.st
  simp only at hst
  have hc0 : closer e.k = 0 := by rw [h3]; exact closer_closer _
  have e2 : stepL l (p + 1 + (toksL ks).length) e (runL l (p + 1) (toksL ks) ⟨p :: s.st, s.E, s.D⟩) = shutL (p + 1 + (toksL ks).length) (runL l (p + 1) (toksL ks) ⟨p :: s.st, s.E, s.D⟩) := by
   unfold stepL
   rw [if_neg (by simp [hc0]), if_pos (by rw [hst, ctxL_open hp, h3])]
  rw [e2]
  exact close_lays hb hpl hk rfl
theorem laysL : ∀ (F : List PV) (l : List Tk4) (p : Nat) (s : LS), goodL (ctxL l s.st) false F -> Lies l p (toksL F) -> Begins l.length p s -> Lays l.length p F s (runL l p (toksL F) s)
 | [], l, p, s, _, _, hb => by rw [toksL, runL]; exact hb.lays_nil
 | v :: r, l, p, s, hg, hl, hb => by
  rw [goodL] at hg
  rw [toksL] at hl ⊢
  rw [runL_app]
  have h1 := laysV v l p s (by simpa using hg.1) hl.left hb
  have hb1 := h1.begins hb
  have e1 : (toksL [v]).length = (toksV v).length := by rw [toksL, toksL, List.append_nil]
  rw [e1] at hb1
  exact h1.seq hb (laysL r l _ _ (by rw [h1.st]; exact hg.2) hl.right hb1)
end
mutual
theorem lays_openV : ∀ (v : PV) (l : List Tk4) (p : Nat) (s : LS), goodV (ctxL l s.st) true v -> Lies l p (toksV v) -> Begins l.length p s ->
  ∃ k, (runL l p (toksV v) s).st.length = k + s.st.length /\ Lays l.length p [v] s (shutK l.length k (runL l p (toksV v) s))
 | .leaf t, l, p, s, hg, hl, hb => by
  have h := laysV (.leaf t) l p s (goodV_leaf.2 (goodV_leaf.1 hg)) hl hb
  exact ⟨0, by rw [h.st, Nat.zero_add], h⟩
 | .node t ks (some e), l, p, s, hg, hl, hb => by
  have h := laysV (.node t ks (some e)) l p s (goodV_some.2 (goodV_some.1 hg)) hl hb
  exact ⟨0, by rw [h.st, Nat.zero_add], h⟩
 | .node t ks none, l, p, s, hg, hl, hb => by
  rw [goodV_none] at hg
  obtain ⟨h1, h2, _, h4⟩ := hg
  rw [toksV] at hl ⊢
  simp only [Option.toList, List.append_nil] at hl ⊢
  have hp : l[p]? = some t := hl 0 (by simp)
  have hpl := (List.getElem?_eq_some_iff.1 hp).1
  have hl2 : Lies l (p + 1) (toksL ks) := fun k hk => by
   have := hl (k + 1) (by simp at hk ⊢; omega)
   rw [show p + (k + 1) = p + 1 + k by omega] at this
   exact this
  rw [runL, stepL_open h1]
  obtain ⟨k, hk1, hk2⟩ := lays_openL ks l (p + 1) ⟨p :: s.st, s.E, s.D⟩ (by rw [ctxL_open hp]; exact h4) hl2 (begins_open hb)
  refine ⟨k + 1, by rw [hk1, List.length_cons]; omega, ?_⟩
  rw [shutK_succ]
  exact close_lays hb hpl hk2 rfl
theorem lays_openL : ∀ (F : List PV) (l : List Tk4) (p : Nat) (s : LS), goodL (ctxL l s.st) true F -> Lies l p (toksL F) -> Begins l.length p s ->
  ∃ k, (runL l p (toksL F) s).st.length = k + s.st.length /\ Lays l.length p F s (shutK l.length k (runL l p (toksL F) s))
 | [], l, p, s, _, _, hb => ⟨0, by rw [toksL, runL, Nat.zero_add], by rw [toksL, runL]; exact hb.lays_nil⟩
 | [v], l, p, s, hg, hl, hb => by
  rw [goodL] at hg
  rw [toksL, toksL, List.append_nil] at hl ⊢
  exact lays_openV v l p s (by simpa using hg.1) hl hb
 | v :: u :: r, l, p, s, hg, hl, hb => by
  rw [goodL] at hg
  rw [toksL] at hl ⊢
  rw [runL_app]
  have h1 := laysV v l p s (by simpa using hg.1) hl.left hb
  have hb1 := h1.begins hb
  have e1 : (toksL [v]).length = (toksV v).length := by rw [toksL, toksL, List.append_nil]
  rw [e1] at hb1
  obtain ⟨k, hk1, hk2⟩ := lays_openL (u :: r) l _ _ (by rw [h1.st]; exact hg.2) hl.right hb1
  exact ⟨k, by rw [hk1, h1.st], h1.seq hb hk2⟩
end
theorem laid_ok {F : List PV} {x : Option Int} {b : Bool} (h : goodL x b F) : laidL (toksL F).length (laidM (toksL F)).E (laidM (toksL F)).D 0 F /\ (laidM (toksL F)).E.length = (toksL F).length /\ (laidM (toksL F)).D.length = (toksL F).length := by
 have hb : Begins (toksL F).length 0 ⟨[], List.replicate (toksL F).length 0, List.replicate (toksL F).length 0⟩ :=
  ⟨by simp, by simp, fun j hj => (by cases hj), fun q _ => by
   by_cases hq : q < (toksL F).length <;> simp [List.getD_eq_getElem?_getD, hq]⟩
 obtain ⟨k, h1, h2⟩ := lays_openL F (toksL F) 0 ⟨[], List.replicate (toksL F).length 0, List.replicate (toksL F).length 0⟩ (goodL_true F (goodL_up F h)) (fun k hk => by rw [Nat.zero_add]) hb
 have hk : (runL (toksL F) 0 (toksL F) ⟨[], List.replicate (toksL F).length 0, List.replicate (toksL F).length 0⟩).st.length = k := by rw [h1]; rfl
 unfold laidM
 simp only
 rw [hk]
 exact ⟨h2.laid, h2.le, h2.ld⟩
end Go.Lift.Rul
end

section
namespace Go.Lift.Rul
def CV.k (v : CV) : Int := v.t.k
def spaceC (v : CV) : Bool := v.k == 13
def trim (l : List CV) : List CV := ((l.dropWhile spaceC).reverse.dropWhile spaceC).reverse
def nor (a b : Int) (v : CV) : Bool := v.k != a && v.k != b
mutual
def deepV : Nat -> CV -> Bool
 | n, .mk t ks => closer t.k != 0 && (match n with
  | 0 => true
  | n + 1 => deepL n ks)
def deepL : Nat -> List CV -> Bool
 | _, [] => false
 | n, v :: r => deepV n v || deepL n r
end
def lowb (c : Int) : Int := if 65 <= c /\ c <= 90 then c + 32 else c
def small (b : List Int) : List Int := b.map lowb
def important : List Int := [105, 109, 112, 111, 114, 116, 97, 110, 116]
structure Dc where
 name : List Int
 val : List CV
 imp : Bool
def nameOf (b : List Int) : List Int := if [45, 45].isPrefixOf b then b else small b
def impOf (v : List CV) : List CV × Bool :=
 match v.reverse with
 | x :: y :: r =>
  if x.k == 1 && small x.t.b == important then
   match (y :: r).dropWhile spaceC with
   | z :: s => if z.k == 9 && z.t.b == [33] then (trim s.reverse, true) else (v, false)
   | [] => (v, false)
  else (v, false)
 | _ => (v, false)
def decl : List CV -> Option Dc
 | [] => none
 | x :: l => if x.k != 1 then none else
  match l.dropWhile spaceC with
  | [] => none
  | c :: r => if c.k != 16 then none else if deepL 64 r then none else
   some ⟨nameOf x.t.b, (impOf (trim r)).1, (impOf (trim r)).2⟩
def declsN : Nat -> List CV -> List Dc
 | 0, _ => []
 | n + 1, [] => []
 | n + 1, v :: r =>
  if v.k == 13 || v.k == 17 then declsN n r
  else if v.k == 3 then declsN n ((v :: r).dropWhile (nor 17 23)).tail
  else (decl ((v :: r).takeWhile (nor 17 17))).toList ++ declsN n ((v :: r).dropWhile (nor 17 17))
def decls (l : List CV) : List Dc := declsN (l.length + 1) l
inductive Ru where
 | mk (kind : Int) (name : List Int) (prel : List CV) (decls : List Dc) (rules : List Ru)
def isGroup (n : List Int) : Bool := n == [109, 101, 100, 105, 97] || n == [115, 117, 112, 112, 111, 114, 116, 115] || n == [99, 111, 110, 116, 97, 105, 110, 101, 114]
def rulesN (sub : List CV -> List Ru) (live top : Bool) : Nat -> List CV -> List Ru
 | 0, _ => []
 | n + 1, [] => []
 | n + 1, v :: r =>
  if v.k == 13 || (top && (v.k == 14 || v.k == 15)) then rulesN sub live top n r
  else if v.k == 3 then
   match (v :: r).dropWhile (nor 17 23) with
   | [] => []
   | x :: s => (if x.k == 23 && isGroup (small v.t.b) && !deepL 64 (((v :: r).takeWhile (nor 17 23)).tail) && live then [Ru.mk 2 (small v.t.b) (trim ((v :: r).takeWhile (nor 17 23)).tail) [] (sub x.ks)] else []) ++ rulesN sub live top n s
  else
   match (v :: r).dropWhile (nor 23 23) with
   | [] => []
   | x :: s => (if !deepL 64 ((v :: r).takeWhile (nor 23 23)) && live then [Ru.mk 1 [] (trim ((v :: r).takeWhile (nor 23 23))) (decls x.ks) []] else []) ++ rulesN sub live top n s
def rulesF : Nat -> Bool -> List CV -> List Ru
 | 0, top, l => rulesN (fun _ => []) false top (l.length + 1) l
 | f + 1, top, l => rulesN (rulesF f false) true top (l.length + 1) l
def rules (l : List CV) : List Ru := rulesF 64 true l
theorem drop_len {p : CV -> Bool} (l : List CV) : (l.dropWhile p).length <= l.length := (List.dropWhile_suffix p).length_le
theorem rulesN_more (sub : List CV -> List Ru) (live top : Bool) : ∀ (n m : Nat) (l : List CV), l.length < n -> l.length < m -> rulesN sub live top n l = rulesN sub live top m l
 | 0, _, l, h, _ => by omega
 | n + 1, 0, l, _, h => by omega
 | n + 1, m + 1, [], _, _ => rfl
 | n + 1, m + 1, v :: r, h1, h2 => by
  simp only [List.length_cons] at h1 h2
  have hd := drop_len (p := nor 17 23) (v :: r)
  have hd2 := drop_len (p := nor 23 23) (v :: r)
  simp only [List.length_cons] at hd hd2
  rw [rulesN, rulesN]
  split
  ·exact rulesN_more sub live top n m r (by omega) (by omega)
  ·split
   ·split
    ·rfl
    ·rename_i x s e
     rw [e] at hd
     simp only [List.length_cons] at hd
     rw [rulesN_more sub live top n m s (by omega) (by omega)]
   ·split
    ·rfl
    ·rename_i x s e
     rw [e] at hd2
     simp only [List.length_cons] at hd2
     rw [rulesN_more sub live top n m s (by omega) (by omega)]
end Go.Lift.Rul
end

section
namespace Go.Lift.Rul
def bare (k : Int) : Tk4 := ⟨k, [], 0, 0, false, false⟩
mutual
def mayV : Nat -> CV -> Bool
 | n, .mk t ks => decide (1 <= t.k /\ t.k <= 24) && (if closer t.k = 0 then ks.isEmpty else match n with
  | 0 => false
  | n + 1 => mayL n ks)
def mayL : Nat -> List CV -> Bool
 | _, [] => true
 | n, v :: r => mayV n v && mayL n r
end
def pieces : List CV -> List (List CV)
 | [] => [[]]
 | v :: r => if v.k == 18 then [] :: pieces r else match pieces r with
  | p :: q => (v :: p) :: q
  | [] => [[v]]
def split (l : List CV) : List (List CV) := (pieces l).map trim
end Go.Lift.Rul
end

section
namespace Go.Lift.Rul
theorem dropWhile_app {p : CV -> Bool} : ∀ (A B : List CV), (A ++ B).dropWhile p = if A.all p then B.dropWhile p else A.dropWhile p ++ B
 | [], B => by simp
 | v :: A, B => by
  rw [List.cons_append, List.dropWhile_cons, List.dropWhile_cons, dropWhile_app A B, List.all_cons]
  cases p v <;> simp
theorem drop_all {p : CV -> Bool} {A : List CV} (h : A.all p = true) : A.dropWhile p = [] := by
 induction A with
 | nil => rfl
 | cons v A ih =>
  rw [List.all_cons, Bool.and_eq_true] at h
  rw [List.dropWhile_cons, if_pos h.1, ih h.2]
theorem take_all {p : CV -> Bool} {A : List CV} (h : A.all p = true) : A.takeWhile p = A := by
 induction A with
 | nil => rfl
 | cons v A ih =>
  rw [List.all_cons, Bool.and_eq_true] at h
  rw [List.takeWhile_cons, if_pos h.1, ih h.2]
end Go.Lift.Rul
end

section
namespace Go.Lift.Rul
mutual
def wfV : CV -> Prop
 | .mk t ks => 1 <= t.k /\ t.k <= 24 /\ (closer t.k = 0 -> ks = []) /\ wfL ks
def wfL : List CV -> Prop
 | [] => True
 | v :: r => wfV v /\ wfL r
end
theorem wfL_iff {l : List CV} : wfL l ↔ ∀ v ∈ l, wfV v := by
 induction l with
 | nil => simp [wfL]
 | cons v r ih => rw [wfL, ih]; simp
theorem wfV_ks {v : CV} (h : wfV v) : wfL v.ks := by
 obtain ⟨t, ks⟩ := v
 rw [wfV] at h
 exact h.2.2.2
mutual
theorem may_deepV : ∀ (v : CV) (n : Nat), wfV v -> mayV n v = !deepV n v
 | .mk t ks, n, h => by
  rw [wfV] at h
  obtain ⟨h1, h2, h3, h4⟩ := h
  have h12 : decide (1 <= t.k /\ t.k <= 24) = true := by simp [h1, h2]
  by_cases hc : closer t.k = 0
  ·cases n with
   | zero => rw [mayV, deepV, h12, Bool.true_and, if_pos hc, h3 hc]; simp [hc]
   | succ n => rw [mayV, deepV, h12, Bool.true_and, if_pos hc, h3 hc]; simp [hc]
  ·have hb : (closer t.k != 0) = true := by simp [hc]
   cases n with
   | zero => rw [mayV, deepV, h12, Bool.true_and, if_neg hc, hb, Bool.true_and]; rfl
   | succ n =>
    rw [mayV, deepV, h12, Bool.true_and, if_neg hc, hb, Bool.true_and]
    exact may_deepL ks n h4
theorem may_deepL : ∀ (l : List CV) (n : Nat), wfL l -> mayL n l = !deepL n l
 | [], n, _ => by rw [mayL, deepL]; rfl
 | v :: r, n, h => by
  rw [wfL] at h
  rw [mayL, deepL, may_deepV v n h.1, may_deepL r n h.2, Bool.not_or]
end
mutual
theorem wf_cvV : ∀ (v : PV) {x : Option Int} {b : Bool}, goodV x b v -> (∀ t ∈ toksV v, 1 <= t.k /\ t.k <= 24) -> wfV (cvV v)
 | .leaf t, x, b, h, ht => by
  rw [cvV, wfV]
  have := ht t (by rw [toksV]; simp)
  exact ⟨this.1, this.2, fun _ => rfl, by rw [wfL]; trivial⟩
 | .node t ks none, x, b, h, ht => by
  have h := goodV_none.1 h
  rw [toksV] at ht
  rw [cvV, wfV]
  have := ht t (by simp)
  exact ⟨this.1, this.2, fun hc => absurd hc h.1, wf_cvL ks h.2.2.2 fun u hu => ht u (by simp [hu])⟩
 | .node t ks (some e), x, b, h, ht => by
  have h := goodV_some.1 h
  rw [toksV] at ht
  rw [cvV, wfV]
  have := ht t (by simp)
  exact ⟨this.1, this.2, fun hc => absurd hc h.1, wf_cvL ks h.2.2.2 fun u hu => ht u (by simp [hu])⟩
theorem wf_cvL : ∀ (F : List PV) {x : Option Int} {b : Bool}, goodL x b F -> (∀ t ∈ toksL F, 1 <= t.k /\ t.k <= 24) -> wfL (cvL F)
 | [], x, b, _, _ => by rw [cvL, wfL]; trivial
 | v :: r, x, b, h, ht => by
  rw [goodL_cons] at h
  rw [toksL] at ht
  rw [cvL, wfL]
  exact ⟨wf_cvV v h.1 fun t h' => ht t (by simp [h']), wf_cvL r h.2 fun t h' => ht t (by simp [h'])⟩
end
theorem wf_vals {l : List Tk4} (h : ∀ t ∈ l, 1 <= t.k /\ t.k <= 24) : wfL (vals l) := by
 obtain ⟨F, rfl, hg⟩ := tree_of l
 rw [vals_toks hg]
 exact wf_cvL F hg h
theorem deepL_iff {n : Nat} {l : List CV} : deepL n l = false ↔ ∀ v ∈ l, deepV n v = false := by
 induction l with
 | nil => simp [deepL]
 | cons v r ih => rw [deepL]; simp [ih]
theorem deepL_sub {n : Nat} {l m : List CV} (h : deepL n l = false) (hs : ∀ v ∈ m, v ∈ l) : deepL n m = false :=
 deepL_iff.2 fun v hv => deepL_iff.1 h v (hs v hv)
theorem wfL_sub {l m : List CV} (h : wfL l) (hs : ∀ v ∈ m, v ∈ l) : wfL m := wfL_iff.2 fun v hv => wfL_iff.1 h v (hs v hv)
theorem trim_sub {l : List CV} {v : CV} (h : v ∈ trim l) : v ∈ l := by
 unfold trim at h
 rw [List.mem_reverse] at h
 have h1 := (List.dropWhile_suffix _).subset h
 rw [List.mem_reverse] at h1
 exact (List.dropWhile_suffix _).subset h1
theorem take_sub {p : CV -> Bool} {l : List CV} {v : CV} (h : v ∈ l.takeWhile p) : v ∈ l := (List.takeWhile_prefix p).subset h
theorem drop_sub {p : CV -> Bool} {l : List CV} {v : CV} (h : v ∈ l.dropWhile p) : v ∈ l := (List.dropWhile_suffix p).subset h
theorem imp_sub {l : List CV} {v : CV} (h : v ∈ (impOf l).1) : v ∈ l := by
 unfold impOf at h
 split at h
 ·rename_i x y r e
  split at h
  ·split at h
   ·rename_i z s e2
    split at h
    ·have h1 := trim_sub h
     rw [List.mem_reverse] at h1
     have h2 : v ∈ (y :: r).dropWhile spaceC := by rw [e2]; exact List.mem_cons_of_mem _ h1
     have h3 := drop_sub h2
     rw [<- List.mem_reverse, e]
     exact List.mem_cons_of_mem _ h3
    ·exact h
   ·exact h
  ·exact h
 ·exact h
theorem decl_may {l : List CV} {d : Dc} (hw : wfL l) (h : decl l = some d) : mayL 64 d.val = true := by
 unfold decl at h
 split at h
 ·cases h
 ·rename_i x m
  split at h
  ·cases h
  ·split at h
   ·cases h
   ·rename_i c r e
    split at h
    ·cases h
    ·split at h
     ·cases h
     ·rename_i hd
      cases h
      have hr : ∀ v ∈ r, v ∈ x :: m := fun v hv => List.mem_cons_of_mem _ (drop_sub (by rw [e]; exact List.mem_cons_of_mem _ hv))
      have hs : ∀ v ∈ (impOf (trim r)).1, v ∈ r := fun v hv => trim_sub (imp_sub hv)
      show mayL 64 (impOf (trim r)).1 = true
      rw [may_deepL _ _ (wfL_sub hw fun v hv => hr v (hs v hv)), deepL_sub (by simpa using hd) hs]
      rfl
theorem declsN_may : ∀ (n : Nat) (l : List CV), wfL l -> ∀ d ∈ declsN n l, mayL 64 d.val = true
 | 0, l, _, d, h => by cases h
 | n + 1, [], _, d, h => by cases h
 | n + 1, v :: r, hw, d, h => by
  rw [declsN] at h
  split at h
  ·exact declsN_may n r (wfL_sub hw fun u hu => List.mem_cons_of_mem _ hu) d h
  ·split at h
   ·exact declsN_may n _ (wfL_sub hw fun u hu => drop_sub (List.mem_of_mem_tail hu)) d h
   ·rcases List.mem_append.1 h with h | h
    ·rw [Option.mem_toList] at h
     exact decl_may (wfL_sub hw fun u hu => take_sub hu) h
    ·exact declsN_may n _ (wfL_sub hw fun u hu => drop_sub hu) d h
mutual
def deepestR : Ru -> Int
 | .mk _ _ p ds rs => if !mayL 64 p then -1 else if ds.any (fun d => !mayL 64 d.val) then -1 else if deepest rs < 0 then -1 else deepest rs + 1
def deepest : List Ru -> Int
 | [] => 0
 | r :: l => if deepestR r < 0 then -1 else if deepest l < 0 then -1 else max (deepestR r) (deepest l)
end
def Within (n : Int) (l : List Ru) : Prop := ∀ r ∈ l, 0 <= deepestR r /\ deepestR r <= n
theorem within_deepest {n : Int} (hn : 0 <= n) : ∀ {l : List Ru}, Within n l -> 0 <= deepest l /\ deepest l <= n
 | [], _ => by rw [deepest]; omega
 | r :: l, h => by
  have h1 := h r (by simp)
  have h2 := within_deepest hn (l := l) fun x hx => h x (by simp [hx])
  rw [deepest, if_neg (by omega), if_neg (by omega)]
  omega
theorem rulesN_within {sub : List CV -> List Ru} {live : Bool} {n : Int} (hn : 0 <= n) (hs : live = true -> ∀ l, wfL l -> Within (n - 1) (sub l)) (hl : live = true -> 1 <= n) {top : Bool} : ∀ (k : Nat) (l : List CV), wfL l -> Within n (rulesN sub live top k l)
 | 0, l, _ => fun r hr => by cases hr
 | k + 1, [], _ => fun r hr => by cases hr
 | k + 1, v :: r, hw => by
  rw [rulesN]
  split
  ·exact rulesN_within hn hs hl k r (wfL_sub hw fun u hu => List.mem_cons_of_mem _ hu)
  ·split
   ·split
    ·exact fun r hr => by cases hr
    ·rename_i x s e
     have hxs : ∀ u ∈ x :: s, u ∈ v :: r := fun u hu => drop_sub (by rw [e]; exact hu)
     intro q hq
     rcases List.mem_append.1 hq with hq | hq
     ·split at hq
      ·rename_i hc
       simp only [Bool.and_eq_true, Bool.not_eq_true'] at hc
       obtain ⟨⟨⟨_, _⟩, hd⟩, hlv⟩ := hc
       rw [List.mem_singleton] at hq
       subst hq
       have hp : ∀ u ∈ trim ((v :: r).takeWhile (nor 17 23)).tail, u ∈ ((v :: r).takeWhile (nor 17 23)).tail := fun u hu => trim_sub hu
       have hsub : ∀ u ∈ ((v :: r).takeWhile (nor 17 23)).tail, u ∈ v :: r := fun u hu => take_sub (List.mem_of_mem_tail hu)
       have hm : mayL 64 (trim ((v :: r).takeWhile (nor 17 23)).tail) = true := by
        rw [may_deepL _ _ (wfL_sub hw fun u hu => hsub u (hp u hu)), deepL_sub hd hp]; rfl
       have hwx : wfL x.ks := wfV_ks (wfL_iff.1 hw x (hxs x (by simp)))
       have h1 := within_deepest (by have := hl hlv; omega) (hs hlv _ hwx)
       rw [deepestR, hm]
       simp only [Bool.not_true, Bool.false_eq_true, if_false, List.any_nil]
       rw [if_neg (by omega)]
       omega
      ·cases hq
     ·exact rulesN_within hn hs hl k s (wfL_sub hw fun u hu => hxs u (by simp [hu])) q hq
   ·split
    ·exact fun r hr => by cases hr
    ·rename_i x s e
     have hxs : ∀ u ∈ x :: s, u ∈ v :: r := fun u hu => drop_sub (by rw [e]; exact hu)
     intro q hq
     rcases List.mem_append.1 hq with hq | hq
     ·split at hq
      ·rename_i hc
       simp only [Bool.and_eq_true, Bool.not_eq_true'] at hc
       obtain ⟨hd, hlv⟩ := hc
       rw [List.mem_singleton] at hq
       subst hq
       have hp : ∀ u ∈ trim ((v :: r).takeWhile (nor 23 23)), u ∈ (v :: r).takeWhile (nor 23 23) := fun u hu => trim_sub hu
       have hm : mayL 64 (trim ((v :: r).takeWhile (nor 23 23))) = true := by
        rw [may_deepL _ _ (wfL_sub hw fun u hu => take_sub (hp u hu)), deepL_sub hd hp]; rfl
       have hwx : wfL x.ks := wfV_ks (wfL_iff.1 hw x (hxs x (by simp)))
       have hds : (decls x.ks).any (fun d => !mayL 64 d.val) = false := by
        rw [List.any_eq_false]
        intro d hd
        rw [declsN_may _ _ hwx d hd]
        simp
       have := hl hlv
       rw [deepestR, hm, hds]
       have e0 : deepest [] = 0 := by rw [deepest]
       simp only [Bool.not_true, Bool.false_eq_true, if_false]
       rw [e0, if_neg (by omega)]
       omega
      ·cases hq
     ·exact rulesN_within hn hs hl k s (wfL_sub hw fun u hu => hxs u (by simp [hu])) q hq
theorem rulesF_within : ∀ (f : Nat) (top : Bool) (l : List CV), wfL l -> Within f (rulesF f top l)
 | 0, top, l, h => by
  rw [rulesF]
  exact rulesN_within (by omega) (fun h => by cases h) (fun h => by cases h) _ l h
 | f + 1, top, l, h => by
  rw [rulesF]
  exact rulesN_within (by omega) (fun _ m hm => by
   have := rulesF_within f false m hm
   have e : ((f + 1 : Nat) : Int) - 1 = f := by omega
   rw [e]
   exact this) (fun _ => by omega) _ l h
theorem rules_within {l : List Tk4} (h : ∀ t ∈ l, 1 <= t.k /\ t.k <= 24) : 0 <= deepest (rules (vals l)) /\ deepest (rules (vals l)) <= 64 :=
 within_deepest (by omega) (rulesF_within 64 true _ (wf_vals h))
end Go.Lift.Rul
end

section
namespace Go.Lift.Rul
def PV.t : PV -> Tk4
 | .leaf t => t
 | .node t _ _ => t
theorem cv_t (v : PV) : (cvV v).t = v.t := by
 cases v with
 | leaf t => rw [cvV]; rfl
 | node t ks c => rw [cvV]; rfl
theorem cv_k (v : PV) : (cvV v).k = v.t.k := by unfold CV.k; rw [cv_t]
theorem toks_head (v : PV) : (toksV v)[0]? = some v.t := by
 cases v with
 | leaf t => rw [toksV]; rfl
 | node t ks c => rw [toksV]; rfl
mutual
theorem deep_depV : ∀ (v : PV) {x : Option Int} {b : Bool} (n : Nat), goodV x b v -> deepV n (cvV v) = decide (n < depV v)
 | .leaf t, x, b, n, h => by
  rw [cvV]
  have h := goodV_leaf.1 h
  cases n <;> rw [deepV, depV] <;> simp [h.1]
 | .node t ks c, x, b, n, h => by
  have hc : closer t.k ≠ 0 := by
   cases c with
   | none => exact (goodV_none.1 h).1
   | some e => exact (goodV_some.1 h).1
  have hk : ∃ y b', goodL y b' ks := by
   cases c with
   | none => exact ⟨_, _, (goodV_none.1 h).2.2.2⟩
   | some e => exact ⟨_, _, (goodV_some.1 h).2.2.2⟩
  obtain ⟨y, b', hk⟩ := hk
  have hb : (closer t.k != 0) = true := by simp [hc]
  rw [cvV]
  cases n with
  | zero => rw [deepV, depV, hb]; simp
  | succ n => rw [deepV, depV, hb, Bool.true_and, deep_depL ks n hk]; simp
theorem deep_depL : ∀ (F : List PV) {x : Option Int} {b : Bool} (n : Nat), goodL x b F -> deepL n (cvL F) = decide (n < depL F)
 | [], x, b, n, _ => by rw [cvL, deepL, depL]; simp
 | v :: r, x, b, n, h => by
  rw [goodL_cons] at h
  rw [cvL, deepL, depL, deep_depV v n h.1, deep_depL r n h.2]
  rw [Bool.eq_iff_iff]
  simp only [Bool.or_eq_true, decide_eq_true_eq]
  omega
end
def ltrim (l : List CV) : List CV := l.dropWhile spaceC
def rtrim (l : List CV) : List CV := (l.reverse.dropWhile spaceC).reverse
theorem trim_eq (l : List CV) : trim l = rtrim (ltrim l) := rfl
theorem rtrim_cons {v : CV} {r : List CV} (h : spaceC v = false) : rtrim (v :: r) = v :: rtrim r := by
 unfold rtrim
 rw [List.reverse_cons, dropWhile_app]
 split
 ·rename_i ha
  rw [List.dropWhile_cons, h]
  simp only [Bool.false_eq_true, if_false]
  rw [drop_all ha]
  rfl
 ·rw [List.reverse_append]
  rfl
theorem rtrim_spaces {l : List CV} (h : l.all spaceC = true) : rtrim l = [] := by
 unfold rtrim
 rw [drop_all (by rw [List.all_reverse]; exact h)]
 rfl
theorem rtrim_snoc (l : List CV) (v : CV) : rtrim (l ++ [v]) = if spaceC v then rtrim l else l ++ [v] := by
 unfold rtrim
 rw [List.reverse_append, List.reverse_cons, List.reverse_nil, List.nil_append, List.singleton_append, List.dropWhile_cons]
 split
 ·rfl
 ·rw [List.reverse_cons, List.reverse_reverse]
theorem rtrim_nil : rtrim [] = [] := rfl
theorem rtrim_sp {v : CV} {r : List CV} (h : spaceC v = true) : rtrim (v :: r) = if r.all spaceC then [] else v :: rtrim r := by
 by_cases ha : r.all spaceC = true
 ·rw [if_pos ha]
  exact rtrim_spaces (by rw [List.all_cons, h, ha]; rfl)
 ·rw [if_neg ha]
  unfold rtrim
  rw [List.reverse_cons, dropWhile_app, List.all_reverse, if_neg ha, List.reverse_append]
  rfl
theorem ltrim_rtrim : ∀ (r : List CV), ltrim (rtrim r) = rtrim (ltrim r)
 | [] => rfl
 | v :: r => by
  cases hv : spaceC v with
  | false =>
   have h1 : ltrim (v :: r) = v :: r := by unfold ltrim; rw [List.dropWhile_cons, hv]; rfl
   rw [h1, rtrim_cons hv]
   unfold ltrim
   rw [List.dropWhile_cons, hv]
   rfl
  | true =>
   have h1 : ltrim (v :: r) = ltrim r := by unfold ltrim; rw [List.dropWhile_cons, hv]; rfl
   rw [h1, rtrim_sp hv]
   split
   ·rename_i ha
    have : ltrim r = [] := drop_all ha
    rw [this]
    rfl
   ·have h2 : ltrim (v :: rtrim r) = ltrim (rtrim r) := by unfold ltrim; rw [List.dropWhile_cons, hv]; rfl
    rw [h2, ltrim_rtrim r]
theorem ltrim_ltrim (l : List CV) : ltrim (ltrim l) = ltrim l := by
 unfold ltrim
 induction l with
 | nil => rfl
 | cons v l ih =>
  rw [List.dropWhile_cons]
  split
  ·exact ih
  ·rename_i h; rw [List.dropWhile_cons, if_neg h]
end Go.Lift.Rul
end

section
namespace Go.Lift.Rul
def bs (l : List Int) : ByteArray := ⟨(u8s l).toArray⟩
def row (t : Tk4) : List V := [.v (.int .i64 t.k), .v (.string (bs t.b)), .v (.int .i64 t.n), .v (.int .i64 t.d), .v (.bool t.w), .v (.bool t.i)]
mutual
def rowV : CV -> List V
 | .mk t ks => row t ++ [.list .no (rowsC ks)]
def rowsC : List CV -> List (List V)
 | [] => []
 | v :: r => rowV v :: rowsC r
end
theorem rowV_eq (t : Tk4) (ks : List CV) : rowV (.mk t ks) = [.v (.int .i64 t.k), .v (.string (bs t.b)), .v (.int .i64 t.n), .v (.int .i64 t.d), .v (.bool t.w), .v (.bool t.i), .list .no (rowsC ks)] := by
 rw [rowV]; rfl
theorem rowV_eta (v : CV) : rowV v = [.v (.int .i64 v.t.k), .v (.string (bs v.t.b)), .v (.int .i64 v.t.n), .v (.int .i64 v.t.d), .v (.bool v.t.w), .v (.bool v.t.i), .list .no (rowsC v.ks)] := by
 obtain ⟨t, ks⟩ := v
 exact rowV_eq t ks
theorem rowsC_map : ∀ l : List CV, rowsC l = l.map rowV
 | [] => by rw [rowsC]; rfl
 | v :: r => by rw [rowsC, rowsC_map r]; rfl
theorem rowsC_nil : rowsC [] = [] := by rw [rowsC]
theorem rowsC_cons (v : CV) (r : List CV) : rowsC (v :: r) = rowV v :: rowsC r := by rw [rowsC]
theorem rowsC_len (l : List CV) : (rowsC l).length = l.length := by rw [rowsC_map, List.length_map]
theorem rowsC_get (l : List CV) (i : Nat) : (rowsC l)[i]? = (l[i]?).map rowV := by rw [rowsC_map, List.getElem?_map]
theorem rowsC_app (l m : List CV) : rowsC (l ++ m) = rowsC l ++ rowsC m := by simp [rowsC_map]
theorem rowsC_take (l : List CV) (n : Nat) : (rowsC l).take n = rowsC (l.take n) := by simp [rowsC_map, List.map_take]
theorem rowV_len (v : CV) : (rowV v).length = 7 := by rw [rowV_eta]; rfl
theorem rowsC_all (l : List CV) : ((rowsC l).all fun x => x.length == 7) = true := by
 rw [List.all_eq_true]
 intro x hx
 rw [rowsC_map] at hx
 obtain ⟨v, _, rfl⟩ := List.mem_map.1 hx
 rw [rowV_len]; rfl
theorem row_all (l : List Tk4) : ((l.map row).all fun x => x.length == 6) = true := by
 rw [List.all_eq_true]
 intro x hx
 obtain ⟨v, _, rfl⟩ := List.mem_map.1 hx
 rfl
def declC (d : Dc) : List V := [.v (.string (bs d.name)), .list .no (rowsC d.val), .v (.bool d.imp)]
theorem declC_all (l : List Dc) : ((l.map declC).all fun x => x.length == 3) = true := by
 rw [List.all_eq_true]
 intro x hx
 obtain ⟨v, _, rfl⟩ := List.mem_map.1 hx
 rfl
mutual
def ruV : Ru -> List V
 | .mk k n p ds rs => [.v (.int .i64 k), .v (.string (bs n)), .list .no (rowsC p), .list .no (ds.map declC), .list .no (rusC rs)]
def rusC : List Ru -> List (List V)
 | [] => []
 | r :: l => ruV r :: rusC l
end
theorem rusC_map : ∀ l : List Ru, rusC l = l.map ruV
 | [] => by rw [rusC]; rfl
 | v :: r => by rw [rusC, rusC_map r]; rfl
theorem ruV_len (r : Ru) : (ruV r).length = 5 := by cases r; rw [ruV]; rfl
theorem rusC_all (l : List Ru) : ((rusC l).all fun x => x.length == 5) = true := by
 rw [List.all_eq_true]
 intro x hx
 rw [rusC_map] at hx
 obtain ⟨v, _, rfl⟩ := List.mem_map.1 hx
 rw [ruV_len]; rfl
theorem rusC_app (l m : List Ru) : rusC (l ++ m) = rusC l ++ rusC m := by simp [rusC_map]
theorem rusC_len (l : List Ru) : (rusC l).length = l.length := by rw [rusC_map, List.length_map]
@[go_sem] theorem byteRow_row (l : List Tk4) : isByteRow (l.map row) = false := by cases l <;> rfl
@[go_sem] theorem byteRow_rowsC (l : List CV) : isByteRow (rowsC l) = false := by
 cases l with
 | nil => rw [rowsC_nil]; rfl
 | cons v r => rw [rowsC_cons, rowV_eta]; rfl
@[go_sem] theorem byteRow_decl (l : List Dc) : isByteRow (l.map declC) = false := by cases l <;> rfl
@[go_sem] theorem byteRow_rus (l : List Ru) : isByteRow (rusC l) = false := by
 cases l with
 | nil => rw [rusC_map]; rfl
 | cons v r => rw [rusC_map, List.map_cons]; cases v; rw [ruV]; rfl
end Go.Lift.Rul
end

section
namespace Go.Lift.Rul
mutual
def nodesV : CV -> Nat
 | .mk _ ks => 1 + nodesL ks
def nodesL : List CV -> Nat
 | [] => 0
 | v :: r => nodesV v + nodesL r
end
theorem nodesV_eq (v : CV) : nodesV v = 1 + nodesL v.ks := by
 cases v; rw [nodesV]; rfl
theorem nodesL_nil : nodesL [] = 0 := by rw [nodesL]
theorem nodesL_cons (v : CV) (r : List CV) : nodesL (v :: r) = nodesV v + nodesL r := by rw [nodesL]
theorem nodesL_len : ∀ l : List CV, l.length <= nodesL l
 | [] => by simp
 | v :: r => by
  have := nodesL_len r
  rw [nodesL_cons, nodesV_eq, List.length_cons]
  omega
theorem nodesL_mem : ∀ {l : List CV} {v : CV}, v ∈ l -> nodesV v <= nodesL l
 | [], v, h => by cases h
 | x :: r, v, h => by
  rw [nodesL_cons]
  rcases List.mem_cons.1 h with rfl | h
  ·omega
  ·have := nodesL_mem h
   omega
theorem nodesL_get {l : List CV} {v : CV} {k : Nat} (h : l[k]? = some v) : nodesL v.ks <= nodesL l := by
 have := nodesL_mem (List.mem_of_getElem? h)
 rw [nodesV_eq] at this
 omega
theorem nodesL_app : ∀ l m : List CV, nodesL (l ++ m) = nodesL l + nodesL m
 | [], m => by simp [nodesL_nil]
 | v :: r, m => by rw [List.cons_append, nodesL_cons, nodesL_cons, nodesL_app r m]; omega
end Go.Lift.Rul
end
