/- Characters to bytes: the arithmetic. -/
import Derived.Test.YtnipmgpehgchnaaGreatDoorGLd
set_option linter.unusedVariables false
set_option linter.unusedSimpArgs false
set_option linter.unusedSectionVars false
section
namespace Go.Lift.Utf
def scal (x : Int) : Int := if (decide (x < 0) || decide (1114111 < x) || decide (55296 <= x) && decide (x <= 57343)) = true then 65533 else x
theorem or32_192 : ∀ z : Fin 32, (BitVec.ofInt 32 192 ||| BitVec.ofInt 32 (z.val : Int)).toNat = 192 + z.val := by decide
theorem or32_224 : ∀ z : Fin 16, (BitVec.ofInt 32 224 ||| BitVec.ofInt 32 (z.val : Int)).toNat = 224 + z.val := by decide
theorem or32_240 : ∀ z : Fin 8, (BitVec.ofInt 32 240 ||| BitVec.ofInt 32 (z.val : Int)).toNat = 240 + z.val := by decide
theorem or32_128 : ∀ z : Fin 64, (BitVec.ofInt 32 128 ||| BitVec.ofInt 32 (z.val : Int)).toNat = 128 + z.val := by decide
theorem o32 {c : Int} {n : Nat} (hc : (c = 192 /\ n = 32) \/ (c = 224 /\ n = 16) \/ (c = 240 /\ n = 8) \/ (c = 128 /\ n = 64)) {y : Int} (h0 : 0 <= y) (h1 : y < n) : ((BitVec.ofInt 32 c ||| BitVec.ofInt 32 y).toNat : Int) = c + y := by
 obtain ⟨z, rfl⟩ : ∃ z : Nat, y = z := ⟨y.toNat, by omega⟩
 rcases hc with ⟨rfl, rfl⟩ | ⟨rfl, rfl⟩ | ⟨rfl, rfl⟩ | ⟨rfl, rfl⟩
 ·have := or32_192 ⟨z, by omega⟩; simp only at this; omega
 ·have := or32_224 ⟨z, by omega⟩; simp only at this; omega
 ·have := or32_240 ⟨z, by omega⟩; simp only at this; omega
 ·have := or32_128 ⟨z, by omega⟩; simp only at this; omega
end Go.Lift.Utf
end

section
namespace Go.Lift.Utf
def nd (c : Int) : Nat × Int × Int :=
 if 194 <= c /\ c <= 223 then (1, 128, 191)
 else if c = 224 then (2, 160, 191)
 else if c = 237 then (2, 128, 159)
 else if 225 <= c /\ c <= 239 then (2, 128, 191)
 else if c = 240 then (3, 144, 191)
 else if 241 <= c /\ c <= 243 then (3, 128, 191)
 else if c = 244 then (3, 128, 143)
 else (0, 0, 0)
def more : Nat -> Int -> Int -> Int -> Nat -> List Int -> Int × Nat × Bool
 | 0, r, _, _, k, _ => (r, k, true)
 | _ + 1, _, _, _, k, [] => (65533, k, false)
 | n + 1, r, lo, hi, k, c :: t => if c < lo \/ hi < c then (65533, k, false) else more n (r * 64 + c % 64) 128 191 (k + 1) t
def one : List Int -> Int × Nat × Bool
 | [] => (65533, 1, false)
 | c :: t => if c < 128 then (c, 1, true) else if (nd c).1 = 0 then (65533, 1, false) else more (nd c).1 (c % 2 ^ (6 - (nd c).1)) (nd c).2.1 (nd c).2.2 1 t
abbrev By (b : List Int) : Prop := ∀ c ∈ b, 0 <= c /\ c <= 255
theorem and32 {y : Int} {k : Nat} (hk : k <= 7) (h0 : 0 <= y) (h1 : y <= 2147483647) : iand .i32 y (2 ^ k - 1) = y % 2 ^ k := by
 obtain ⟨z, rfl⟩ : ∃ z : Nat, y = z := ⟨y.toNat, by omega⟩
 show ((BitVec.ofInt 32 (z : Int) &&& BitVec.ofInt 32 ((2 : Int) ^ k - 1)).toNat : Int) = _
 rw [BitVec.toNat_and]
 have e1 : (BitVec.ofInt 32 (z : Int)).toNat = z := by
  rw [BitVec.toNat_ofInt]
  omega
 have hp : 2 ^ k <= 128 := by
  have : 2 ^ k <= 2 ^ 7 := Nat.pow_le_pow_right (by omega) hk
  omega
 have hq : 1 <= 2 ^ k := Nat.one_le_two_pow
 have e2 : (BitVec.ofInt 32 ((2 : Int) ^ k - 1)).toNat = 2 ^ k - 1 := by
  have e3 : (2 : Int) ^ k = ((2 ^ k : Nat) : Int) := by simp
  rw [BitVec.toNat_ofInt, e3]
  omega
 rw [e1, e2, Nat.and_two_pow_sub_one_eq_mod]
 simp
section
variable {y : Int} (h0 : 0 <= y) (h1 : y <= 255)
include h0 h1
theorem c31 : iand .i32 y 31 = y % 32 := and32 (k := 5) (by omega) h0 (by omega)
theorem c15 : iand .i32 y 15 = y % 16 := and32 (k := 4) (by omega) h0 (by omega)
theorem c7 : iand .i32 y 7 = y % 8 := and32 (k := 3) (by omega) h0 (by omega)
end
def rawN : Nat -> List Int -> List Int
 | 0, _ => []
 | _ + 1, [] => []
 | n + 1, c :: t => (one (c :: t)).1 :: rawN n ((c :: t).drop (one (c :: t)).2.1)
def raw (b : List Int) : List Int := rawN b.length b
def wholeN : Nat -> List Int -> Bool
 | 0, _ => true
 | _ + 1, [] => true
 | n + 1, c :: t => (one (c :: t)).2.2 && wholeN n ((c :: t).drop (one (c :: t)).2.1)
def whole (b : List Int) : Bool := wholeN b.length b
theorem By.drop {b : List Int} (h : By b) (n : Nat) : By (b.drop n) := fun c hc => h c (List.mem_of_mem_drop hc)
end Go.Lift.Utf
end

section
namespace Go.Lift.Utf
def dstep (back : Bool) (x : Int) : List Int := if x == 10 && back then [] else [if x == 13 || x == 12 then 10 else if x == 0 then 65533 else x]
def dec : Bool -> List Int -> List Int
 | _, [] => []
 | back, x :: l => dstep back x ++ dec (x == 13) l
def bom (b : List Int) : Bool := b.take 3 == [239, 187, 191]
def strip (b : List Int) : List Int := if bom b = true then b.drop 3 else b
def decode (b : List Int) : List Int := dec false (raw (strip b))
end Go.Lift.Utf
end

section
namespace Go.Lift.Tok
open Utf
def chr (s : List Int) (k : Nat) : Int := match s[k]? with
 | some x => x
 | none => -1
def dig (c : Int) : Bool := decide (48 <= c) && decide (c <= 57)
def fst1 (c : Int) : Bool := decide (97 <= c) && decide (c <= 122) || decide (65 <= c) && decide (c <= 90) || c == 95 || decide (128 <= c)
def ltr (c : Int) : Bool := fst1 c || dig c || c == 45
def blk (c : Int) : Bool := c == 10 || c == 9 || c == 32
def hex (c : Int) : Int := if dig c = true then c - 48 else if (decide (97 <= c) && decide (c <= 102)) = true then c - 97 + 10 else if (decide (65 <= c) && decide (c <= 70)) = true then c - 65 + 10 else -1
def esc (a b : Int) : Bool := a == 92 && b != 10
def hexN : Nat -> Int -> List Int -> Int × List Int
 | 0, n, s => (n, s)
 | _ + 1, n, [] => (n, [])
 | k + 1, n, c :: t => if hex c < 0 then (n, c :: t) else hexN k (n * 16 + hex c) t
def one1 : List Int -> List Int
 | [] => []
 | d :: u => if blk d = true then u else d :: u
def escd : List Int -> Int × List Int
 | [] => (65533, [])
 | c :: t => if hex c < 0 then (c, t) else
  (if (hexN 6 0 (c :: t)).1 = 0 then 65533 else scal (hexN 6 0 (c :: t)).1, one1 (hexN 6 0 (c :: t)).2)
def nameN : Nat -> List Int -> List Int × List Int
 | 0, s => ([], s)
 | _ + 1, [] => ([], [])
 | n + 1, c :: t =>
  if ltr c = true then (c :: (nameN n t).1, (nameN n t).2)
  else if esc c (chr t 0) = true then ((escd t).1 :: (nameN n (escd t).2).1, (nameN n (escd t).2).2)
  else ([], c :: t)
def name (s : List Int) : List Int × List Int := nameN s.length s
end Go.Lift.Tok
end

section
namespace Go.Lift.Rul
structure Tk4 where
 k : Int
 b : List Int
 n : Int
 d : Int
 w : Bool
 i : Bool
 deriving DecidableEq
def closer (k : Int) : Int := if k = 2 \/ k = 21 then 22 else if k = 19 then 20 else if k = 23 then 24 else 0
theorem closer_nn (k : Int) : closer k = 0 \/ closer k = 20 \/ closer k = 22 \/ closer k = 24 := by
 unfold closer
 repeat' split
 all_goals simp
inductive CV where
 | mk (t : Tk4) (kids : List CV)
def CV.t : CV -> Tk4
 | .mk t _ => t
def CV.ks : CV -> List CV
 | .mk _ k => k
inductive PV where
 | leaf (t : Tk4)
 | node (t : Tk4) (kids : List PV) (c : Option Tk4)
mutual
def goodV (x : Option Int) (last : Bool) : PV -> Prop
 | .leaf t => closer t.k = 0 /\ x ≠ some t.k
 | .node t ks c => closer t.k ≠ 0 /\ x ≠ some t.k /\ (match c with
  | some e => e.k = closer t.k /\ goodL (some (closer t.k)) false ks
  | none => last = true /\ goodL (some (closer t.k)) true ks)
def goodL (x : Option Int) (last : Bool) : List PV -> Prop
 | [] => True
 | v :: r => goodV x (last && r.isEmpty) v /\ goodL x last r
end
theorem goodL_cons {x : Option Int} {b : Bool} {v : PV} {r : List PV} : goodL x b (v :: r) ↔ goodV x (b && r.isEmpty) v /\ goodL x b r := by
 rw [goodL]
end Go.Lift.Rul
end

section
namespace Go.Lift.Rul
def CV.k (v : CV) : Int := v.t.k
def spaceC (v : CV) : Bool := v.k == 13
def trim (l : List CV) : List CV := ((l.dropWhile spaceC).reverse.dropWhile spaceC).reverse
def nor (a b : Int) (v : CV) : Bool := v.k != a && v.k != b
mutual
def deepV : Nat -> CV -> Bool
 | n, .mk t ks => closer t.k != 0 && (match n with
  | 0 => true
  | n + 1 => deepL n ks)
def deepL : Nat -> List CV -> Bool
 | _, [] => false
 | n, v :: r => deepV n v || deepL n r
end
def lowb (c : Int) : Int := if 65 <= c /\ c <= 90 then c + 32 else c
def small (b : List Int) : List Int := b.map lowb
def important : List Int := [105, 109, 112, 111, 114, 116, 97, 110, 116]
structure Dc where
 name : List Int
 val : List CV
 imp : Bool
def nameOf (b : List Int) : List Int := if [45, 45].isPrefixOf b then b else small b
def impOf (v : List CV) : List CV × Bool :=
 match v.reverse with
 | x :: y :: r =>
  if x.k == 1 && small x.t.b == important then
   match (y :: r).dropWhile spaceC with
   | z :: s => if z.k == 9 && z.t.b == [33] then (trim s.reverse, true) else (v, false)
   | [] => (v, false)
  else (v, false)
 | _ => (v, false)
def decl : List CV -> Option Dc
 | [] => none
 | x :: l => if x.k != 1 then none else
  match l.dropWhile spaceC with
  | [] => none
  | c :: r => if c.k != 16 then none else if deepL 64 r then none else
   some ⟨nameOf x.t.b, (impOf (trim r)).1, (impOf (trim r)).2⟩
def declsN : Nat -> List CV -> List Dc
 | 0, _ => []
 | n + 1, [] => []
 | n + 1, v :: r =>
  if v.k == 13 || v.k == 17 then declsN n r
  else if v.k == 3 then declsN n ((v :: r).dropWhile (nor 17 23)).tail
  else (decl ((v :: r).takeWhile (nor 17 17))).toList ++ declsN n ((v :: r).dropWhile (nor 17 17))
def decls (l : List CV) : List Dc := declsN (l.length + 1) l
inductive Ru where
 | mk (kind : Int) (name : List Int) (prel : List CV) (decls : List Dc) (rules : List Ru)
def isGroup (n : List Int) : Bool := n == [109, 101, 100, 105, 97] || n == [115, 117, 112, 112, 111, 114, 116, 115] || n == [99, 111, 110, 116, 97, 105, 110, 101, 114]
def rulesN (sub : List CV -> List Ru) (live top : Bool) : Nat -> List CV -> List Ru
 | 0, _ => []
 | n + 1, [] => []
 | n + 1, v :: r =>
  if v.k == 13 || (top && (v.k == 14 || v.k == 15)) then rulesN sub live top n r
  else if v.k == 3 then
   match (v :: r).dropWhile (nor 17 23) with
   | [] => []
   | x :: s => (if x.k == 23 && isGroup (small v.t.b) && !deepL 64 (((v :: r).takeWhile (nor 17 23)).tail) && live then [Ru.mk 2 (small v.t.b) (trim ((v :: r).takeWhile (nor 17 23)).tail) [] (sub x.ks)] else []) ++ rulesN sub live top n s
  else
   match (v :: r).dropWhile (nor 23 23) with
   | [] => []
   | x :: s => (if !deepL 64 ((v :: r).takeWhile (nor 23 23)) && live then [Ru.mk 1 [] (trim ((v :: r).takeWhile (nor 23 23))) (decls x.ks) []] else []) ++ rulesN sub live top n s
def rulesF : Nat -> Bool -> List CV -> List Ru
 | 0, top, l => rulesN (fun _ => []) false top (l.length + 1) l
 | f + 1, top, l => rulesN (rulesF f false) true top (l.length + 1) l
def rules (l : List CV) : List Ru := rulesF 64 true l
end Go.Lift.Rul
end

section
namespace Go.Lift.Rul
def bare (k : Int) : Tk4 := ⟨k, [], 0, 0, false, false⟩
mutual
def flatV : CV -> List Tk4
 | .mk t ks => t :: (flatL ks ++ (if closer t.k = 0 then [] else [bare (closer t.k)]))
def flatL : List CV -> List Tk4
 | [] => []
 | v :: r => flatV v ++ flatL r
end
mutual
def mayV : Nat -> CV -> Bool
 | n, .mk t ks => decide (1 <= t.k /\ t.k <= 24) && (if closer t.k = 0 then ks.isEmpty else match n with
  | 0 => false
  | n + 1 => mayL n ks)
def mayL : Nat -> List CV -> Bool
 | _, [] => true
 | n, v :: r => mayV n v && mayL n r
end
def pieces : List CV -> List (List CV)
 | [] => [[]]
 | v :: r => if v.k == 18 then [] :: pieces r else match pieces r with
  | p :: q => (v :: p) :: q
  | [] => [[v]]
def split (l : List CV) : List (List CV) := (pieces l).map trim
end Go.Lift.Rul
end

section
namespace Go.Lift.Rul
def PV.t : PV -> Tk4
 | .leaf t => t
 | .node t _ _ => t
def ltrim (l : List CV) : List CV := l.dropWhile spaceC
def rtrim (l : List CV) : List CV := (l.reverse.dropWhile spaceC).reverse
theorem trim_eq (l : List CV) : trim l = rtrim (ltrim l) := rfl
theorem rtrim_snoc (l : List CV) (v : CV) : rtrim (l ++ [v]) = if spaceC v then rtrim l else l ++ [v] := by
 unfold rtrim
 rw [List.reverse_append, List.reverse_cons, List.reverse_nil, List.nil_append, List.singleton_append, List.dropWhile_cons]
 split
 ·rfl
 ·rw [List.reverse_cons, List.reverse_reverse]
theorem rtrim_nil : rtrim [] = [] := rfl
end Go.Lift.Rul
end

section
namespace Go.Lift.Rul
def bs (l : List Int) : ByteArray := ⟨(u8s l).toArray⟩
def row (t : Tk4) : List V := [.v (.int .i64 t.k), .v (.string (bs t.b)), .v (.int .i64 t.n), .v (.int .i64 t.d), .v (.bool t.w), .v (.bool t.i)]
mutual
def rowV : CV -> List V
 | .mk t ks => row t ++ [.list .no (rowsC ks)]
def rowsC : List CV -> List (List V)
 | [] => []
 | v :: r => rowV v :: rowsC r
end
theorem rowV_eq (t : Tk4) (ks : List CV) : rowV (.mk t ks) = [.v (.int .i64 t.k), .v (.string (bs t.b)), .v (.int .i64 t.n), .v (.int .i64 t.d), .v (.bool t.w), .v (.bool t.i), .list .no (rowsC ks)] := by
 rw [rowV]; rfl
theorem rowV_eta (v : CV) : rowV v = [.v (.int .i64 v.t.k), .v (.string (bs v.t.b)), .v (.int .i64 v.t.n), .v (.int .i64 v.t.d), .v (.bool v.t.w), .v (.bool v.t.i), .list .no (rowsC v.ks)] := by
 obtain ⟨t, ks⟩ := v
 exact rowV_eq t ks
theorem rowsC_map : ∀ l : List CV, rowsC l = l.map rowV
 | [] => by rw [rowsC]; rfl
 | v :: r => by rw [rowsC, rowsC_map r]; rfl
theorem rowsC_nil : rowsC [] = [] := by rw [rowsC]
theorem rowsC_cons (v : CV) (r : List CV) : rowsC (v :: r) = rowV v :: rowsC r := by rw [rowsC]
theorem rowsC_len (l : List CV) : (rowsC l).length = l.length := by rw [rowsC_map, List.length_map]
theorem rowsC_get (l : List CV) (i : Nat) : (rowsC l)[i]? = (l[i]?).map rowV := by rw [rowsC_map, List.getElem?_map]
theorem rowsC_app (l m : List CV) : rowsC (l ++ m) = rowsC l ++ rowsC m := by simp [rowsC_map]
theorem rowsC_take (l : List CV) (n : Nat) : (rowsC l).take n = rowsC (l.take n) := by simp [rowsC_map, List.map_take]
theorem rowsC_drop (l : List CV) (n : Nat) : (rowsC l).drop n = rowsC (l.drop n) := by simp [rowsC_map, List.map_drop]
theorem rowV_len (v : CV) : (rowV v).length = 7 := by rw [rowV_eta]; rfl
theorem rowsC_all (l : List CV) : ((rowsC l).all fun x => x.length == 7) = true := by
 rw [List.all_eq_true]
 intro x hx
 rw [rowsC_map] at hx
 obtain ⟨v, _, rfl⟩ := List.mem_map.1 hx
 rw [rowV_len]; rfl
theorem row_all (l : List Tk4) : ((l.map row).all fun x => x.length == 6) = true := by
 rw [List.all_eq_true]
 intro x hx
 obtain ⟨v, _, rfl⟩ := List.mem_map.1 hx
 rfl
def declC (d : Dc) : List V := [.v (.string (bs d.name)), .list .no (rowsC d.val), .v (.bool d.imp)]
mutual
def ruV : Ru -> List V
 | .mk k n p ds rs => [.v (.int .i64 k), .v (.string (bs n)), .list .no (rowsC p), .list .no (ds.map declC), .list .no (rusC rs)]
def rusC : List Ru -> List (List V)
 | [] => []
 | r :: l => ruV r :: rusC l
end
theorem rusC_map : ∀ l : List Ru, rusC l = l.map ruV
 | [] => by rw [rusC]; rfl
 | v :: r => by rw [rusC, rusC_map r]; rfl
@[go_sem] theorem byteRow_row (l : List Tk4) : isByteRow (l.map row) = false := by cases l <;> rfl
@[go_sem] theorem byteRow_rowsC (l : List CV) : isByteRow (rowsC l) = false := by
 cases l with
 | nil => rw [rowsC_nil]; rfl
 | cons v r => rw [rowsC_cons, rowV_eta]; rfl
@[go_sem] theorem byteRow_decl (l : List Dc) : isByteRow (l.map declC) = false := by cases l <;> rfl
@[go_sem] theorem byteRow_rus (l : List Ru) : isByteRow (rusC l) = false := by
 cases l with
 | nil => rw [rusC_map]; rfl
 | cons v r => rw [rusC_map, List.map_cons]; cases v; rw [ruV]; rfl
end Go.Lift.Rul
end

section
namespace Go.Lift.Rul
mutual
def nodesV : CV -> Nat
 | .mk _ ks => 1 + nodesL ks
def nodesL : List CV -> Nat
 | [] => 0
 | v :: r => nodesV v + nodesL r
end
theorem nodesV_eq (v : CV) : nodesV v = 1 + nodesL v.ks := by
 cases v; rw [nodesV]; rfl
theorem nodesL_nil : nodesL [] = 0 := by rw [nodesL]
theorem nodesL_cons (v : CV) (r : List CV) : nodesL (v :: r) = nodesV v + nodesL r := by rw [nodesL]
theorem nodesL_len : ∀ l : List CV, l.length <= nodesL l
 | [] => by simp
 | v :: r => by
  have := nodesL_len r
  rw [nodesL_cons, nodesV_eq, List.length_cons]
  omega
theorem nodesL_mem : ∀ {l : List CV} {v : CV}, v ∈ l -> nodesV v <= nodesL l
 | [], v, h => by cases h
 | x :: r, v, h => by
  rw [nodesL_cons]
  rcases List.mem_cons.1 h with rfl | h
  ·omega
  ·have := nodesL_mem h
   omega
theorem nodesL_get {l : List CV} {v : CV} {k : Nat} (h : l[k]? = some v) : nodesL v.ks <= nodesL l := by
 have := nodesL_mem (List.mem_of_getElem? h)
 rw [nodesV_eq] at this
 omega
theorem nodesL_app : ∀ l m : List CV, nodesL (l ++ m) = nodesL l + nodesL m
 | [], m => by simp [nodesL_nil]
 | v :: r, m => by rw [List.cons_append, nodesL_cons, nodesL_cons, nodesL_app r m]; omega
mutual
theorem flatV_len : ∀ v : CV, (flatV v).length <= 2 * nodesV v
 | .mk t ks => by
  have := flatL_len ks
  rw [flatV, nodesV]
  split <;> simp <;> omega
theorem flatL_len : ∀ l : List CV, (flatL l).length <= 2 * nodesL l
 | [] => by rw [flatL]; simp
 | v :: r => by
  have := flatL_len r
  have := flatV_len v
  rw [flatL, nodesL, List.length_append]
  omega
end
end Go.Lift.Rul
end
