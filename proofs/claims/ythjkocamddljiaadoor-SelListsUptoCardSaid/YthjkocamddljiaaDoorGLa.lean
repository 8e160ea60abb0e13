/- The lifting: values, states, evaluation, and that it is sound. -/
import Derived.WalkKit
import Derived.Still
import Derived.StillTail
import Derived.Scope
import Derived.LoopN
import Derived.Laws.AppendOwnNone
import Derived.Deep.MidRow
import Derived.Laws.Cover4
set_option linter.unusedVariables false
set_option linter.unusedSimpArgs false
set_option linter.unusedSectionVars false
section
namespace Go.Lift
inductive Own where
 | no
 | yes
 | cell (b o : Nat)
 | slot (t : Nat)
 deriving DecidableEq, Inhabited
inductive V where
 | v (x : Value)
 | nil
 | list (k : Own) (rows : List (List V))
 | ptr (b o : Nat)
 | rp (cells : List V)
 | buf (b o n : Nat)
 | stk (b n sz : Nat)
 | mp (b : Nat)
 | agg (cells : List V)
 | tup (vs : List V)
 | fn (f : Nat) (caps : List V)
 | undef
 | any
 deriving Inhabited
inductive Ob where
 | cells (cs : List V)
 | iter (s : ByteArray) (pos : Nat)
 | tab (es : List (Value × Value))
 deriving Inhabited
abbrev Env := List (Nat × V)
abbrev Heap := List Ob
abbrev St := Env × Heap
def look : Env → Nat → V
 | [], _ => .undef
 | (k, x) :: l, t => if k = t then x else look l t
def ins (t : Nat) (x : V) : Env → Env
 | [] => [(t, x)]
 | (k, y) :: l => if t < k then (t, x) :: (k, y) :: l else if t = k then (t, x) :: l else (k, y) :: ins t x l
def put (d : Option Nat) (x : V) (g : Env) : Env :=
 match d with
 | some t => ins t x g
 | none => g
def cp : V → V
 | .list _ r => .list .no r
 | x => x
def cps : V → V
 | .agg cs => .agg (cs.map cp)
 | x => cp x
def own1 : V → V
 | .nil => .list .yes []
 | x => x
def own1s : V → V
 | .agg cs => .agg (cs.map own1)
 | x => own1 x
def fz : V → V
 | .nil => .list .no []
 | .list _ r => .list .no r
 | x => x
def fzs : V → V
 | .agg cs => .agg (cs.map fz)
 | x => fz x
def fzr : V → V
 | .tup vs => .tup (vs.map fzs)
 | x => fzs x
def okc (b : Nat) : V → Bool
 | .v _ => true
 | .nil => true
 | .list _ _ => true
 | .rp _ => true
 | .ptr i _ => decide (i < b)
 | .buf i _ _ => decide (i < b)
 | .stk i _ _ => decide (i < b)
 | .mp i => decide (i < b)
 | .undef => true
 | .any => true
 | _ => false
def okv (b : Nat) : V → Bool
 | .agg cs => cs.all (okc b)
 | .undef => true
 | .fn _ cs => cs.all (okc b)
 | x => okc b x
def okr (b : Nat) : V → Bool
 | .tup vs => vs.all (okv b)
 | x => okv b x
def keptO (cs : List V) : V → Bool
 | .stk j _ _ => cs.any fun u => match u with
  | .stk i _ _ => i == j
  | _ => false
 | _ => false
def pure1 : V → Bool
 | .v z => z.oneCell'
 | .list _ _ => true
 | _ => false
def pure2 : V → Bool
 | .v z => z.oneCell'
 | .list _ _ => true
 | .nil => true
 | _ => false
def avc (i : Nat) : V → Bool
 | .ptr b _ => decide (b ≠ i)
 | .buf b _ _ => decide (b ≠ i)
 | .stk b _ _ => decide (b ≠ i)
 | .mp b => decide (b ≠ i)
 | _ => true
def avf (i : Nat) : V → Bool
 | .fn _ cs => cs.all (avc i)
 | x => avc i x
def avv (i : Nat) : V → Bool
 | .agg cs => cs.all (avf i)
 | x => avf i x
def avr (i : Nat) : V → Bool
 | .tup vs => vs.all (avv i)
 | x => avv i x
def kil (i : Nat) (v : V) : V := if avr i v then v else .undef
def kilf (i : Nat) (v : V) : V := if avf i v then v else .undef
def kilE (i : Nat) (g : Env) : Env := g.map fun p => (p.1, kil i p.2)
def kilO (i : Nat) : Ob → Ob
 | .cells cs => if cs.all (avf i) then .cells cs else .cells (cs.map (kilf i))
 | o => o
def kilH (base i : Nat) (h : Heap) : Heap := h.take base ++ (h.drop base).map (kilO i)
def headB : List V → List V
 | .undef :: r => r
 | _ => []
def tailB : List V → List V
 | .undef :: _ => []
 | cs => cs
def isU : V → Bool
 | .undef => true
 | _ => false
def leaf0 : V → Bool
 | .agg _ => false
 | .tup _ => false
 | .fn _ _ => false
 | _ => true
def untag1 : V → V
 | .list (.cell _ _) r => .list .no r
 | .list (.slot _) r => .list .no r
 | x => x
def untag (g : Env) : Env := g.map fun p => (p.1, untag1 p.2)
def untagC1 : V → V
 | .list (.cell _ _) r => .list .no r
 | x => x
def untagC (g : Env) : Env := g.map fun p => (p.1, untagC1 p.2)
def ofC1 : Value → V
 | .slice none 0 0 => .nil
 | .func (.func f) a b => if a.size = 0 ∧ b.size = 0 then .fn f [] else .v (.func (.func f) a b)
 | x => .v x
def ofC : Value → V
 | .agg cs => .agg (cs.toList.map ofC1)
 | x => ofC1 x
class BTy where
 bt : List (Nat × TypeId)
 bb : Option TypeId
def isNilP : V → Bool
 | .v (.pointer none) => true
 | _ => false
def isBld : List V → Bool
 | x :: _ => isNilP x
 | _ => false
def btOf [BTy] (n : Nat) : Option TypeId := BTy.bt.lookup n
def bldT [BTy] (t : TypeId) (cs : List V) : Bool := match btOf cs.length with
 | none => true
 | some T => !isBld cs || t == T
def isByteV : List V → Bool
 | [.v (.int .u8 _)] => true
 | _ => false
def isByteRow : List (List V) → Bool
 | r :: _ => isByteV r
 | [] => false
def byT [BTy] (e : TypeId) (r q : List (List V)) : Bool := match BTy.bb with
 | none => true
 | some T => e == T || (!isByteRow r && !isByteRow q)
def bldS [BTy] (vs : List V) : Bool := BTy.bt.isEmpty || !vs.any isNilP
class GTab where
 tab : Nat → Option (List V)
variable [GTab] [BTy]
def opd (g : Env) : Operand → V
 | .tmp t => look g t
 | .const c => ofC c
 | .global n =>
  match GTab.tab n with
  | some cs => .rp cs
  | none => .v (.pointer (some ⟨n, 0, none⟩))
 | .func f => .fn f []
def cellsV : V → List V
 | .agg cs => cs
 | x => [x]
section types
variable (P : Program)
def tsize (t : TypeId) : Nat := P.cellsOf t
def ttag (t : TypeId) : Option Bool :=
 match P.underlying t with
 | some (.struct _) => some true
 | some (.array _ _) => some true
 | some _ => some false
 | none => none
def tzero (t : TypeId) : Option (List Value) := ((P.info? t).bind (·.zero)).map fun z => z.cells.toList
def tfields (t : TypeId) : List (Nat × TypeId) :=
 match P.underlying t with
 | some (.struct fs) => fs.toList.map fun f => (f.offset, f.type)
 | _ => []
def structOk (t : TypeId) : Bool := (tfields P t).all fun p => (P.info? p.2).isSome
def isStr (t : TypeId) : Bool :=
 match P.underlying t with
 | some .string => true
 | _ => false
def isU8 (t : TypeId) : Bool :=
 match P.underlying t with
 | some (.int .u8) => true
 | _ => false
def isI32 (t : TypeId) : Bool :=
 match P.underlying t with
 | some (.int .i32) => true
 | _ => false
end types
def binS (op : BinOp) (x y : Value) : Option Value :=
 match x, y with
 | .int k a, .int k' b =>
  match op with
  | .shl => if 0 ≤ b then some (.int k (k.wrap (a * 2 ^ (min b.toNat k.bits)))) else none
  | .shr => if 0 ≤ b then some (.int k (a.fdiv (2 ^ (min b.toNat k.bits)))) else none
  | _ =>
   if k = k' then
    match op with
    | .add => some (.int k (k.wrap (a + b)))
    | .sub => some (.int k (k.wrap (a - b)))
    | .mul => some (.int k (k.wrap (a * b)))
    | .quo => if b = 0 then none else some (.int k (k.wrap (a.tdiv b)))
    | .rem => if b = 0 then none else some (.int k (a.tmod b))
    | .and => some (.int k (k.wrap (BitVec.ofInt k.bits a &&& BitVec.ofInt k.bits b).toNat))
    | .or => some (.int k (k.wrap (BitVec.ofInt k.bits a ||| BitVec.ofInt k.bits b).toNat))
    | .xor => some (.int k (k.wrap (BitVec.ofInt k.bits a ^^^ BitVec.ofInt k.bits b).toNat))
    | .andNot => some (.int k (k.wrap (BitVec.ofInt k.bits a &&& ~~~ BitVec.ofInt k.bits b).toNat))
    | .eql => some (.bool (a == b))
    | .neq => some (.bool (a != b))
    | .lss => some (.bool (decide (a < b)))
    | .leq => some (.bool (decide (a ≤ b)))
    | .gtr => some (.bool (decide (b < a)))
    | .geq => some (.bool (decide (b ≤ a)))
    | .shl => none
    | .shr => none
   else none
 | .string a, .string b =>
  match op with
  | .add => if a.size + b.size ≤ 9223372036854775807 then some (.string (a ++ b)) else none
  | .eql => some (.bool (a.toList == b.toList))
  | .neq => some (.bool (!(a.toList == b.toList)))
  | .lss => some (.bool (Op.bytesLess a.toList b.toList))
  | .leq => some (.bool (Op.bytesLess a.toList b.toList || a.toList == b.toList))
  | .gtr => some (.bool (!(Op.bytesLess a.toList b.toList || a.toList == b.toList)))
  | .geq => some (.bool (!(Op.bytesLess a.toList b.toList)))
  | _ => none
 | _, _ => none
def binT (P : Program) (op : BinOp) (t : TypeId) (x y : Value) : Option Value :=
 match x, y with
 | .bool a, .bool b =>
  match P.underlying t with
  | some .bool =>
   match op with
   | .eql => some (.bool (a == b))
   | .neq => some (.bool (!(a == b)))
   | _ => none
  | _ => none
 | x, y => binS op x y
def eqS (k : Nat) (x y : Value) : Option Bool :=
 match k, x, y with
 | 0, .bool a, .bool b => some (a == b)
 | 1, .int k a, .int k' b => if k = k' then some (a == b) else none
 | 2, .string a, .string b => some (a.toList == b.toList)
 | _, _, _ => none
def eqCells : List Nat → List V → List V → Option Bool
 | [], [], [] => some true
 | k :: ks, .v x :: l, .v y :: m =>
  match eqS k x y, eqCells ks l m with
  | some a, some b => some (a && b)
  | _, _ => none
 | _, _, _ => none
def flatFs (f : TypeId → Option (List Nat)) : List Field → Nat → Option (List Nat)
 | [], _ => some []
 | x :: r, o =>
  if x.offset = o ∧ x.name ≠ "_" then
   match f x.type with
   | some l => match flatFs f r (o + l.length) with
    | some l' => some (l ++ l')
    | none => none
   | none => none
  else none
def flatK (P : Program) : Nat → TypeId → Option (List Nat)
 | 0, _ => none
 | d + 1, t =>
  match P.underlying t with
  | some .bool => some [0]
  | some (.int _) => some [1]
  | some .string => some [2]
  | some (.array n e) =>
   match flatK P d e with
   | some l => if tsize P e = l.length then some (List.replicate n l).flatten else none
   | none => none
  | some (.struct fs) => if P.stoodInHeld t = false ∧ (fs.toList.all fun f => match flatK P d f.type with | some l => tsize P f.type == l.length | none => false) then flatFs (flatK P d) fs.toList 0 else none
  | _ => none
def flatOf (P : Program) (t : TypeId) : Option (List Nat) := if 20 ≤ P.depth ∧ ttag P t = some true then flatK P 20 t else none
def unS (op : UnOp) (x : Value) : Option Value :=
 match op, x with
 | .neg, .int k n => some (.int k (k.wrap (0 - n)))
 | .not, .bool b => some (.bool !b)
 | _, _ => none
def convS (P : Program) (s d : TypeId) (x : V) : Option V :=
 match P.underlying s, P.underlying d, x with
 | some (.int _), some (.int k), .v (.int _ n) => some (.v (.int k (k.wrap n)))
 | some (.int _), some .string, .v (.int _ n) => some (.v (.string (Utf8.encode n)))
 | some .string, some .string, .v (.string b) => some (.v (.string b))
 | _, _, _ => none
def bytesOf : List (List V) → Option (List UInt8)
 | [] => some []
 | [.v (.int .u8 n)] :: l => (bytesOf l).map fun r => UInt8.ofNat n.toNat :: r
 | _ => none
def runesOf : List (List V) → Option (List Int)
 | [] => some []
 | [.v (.int .i32 n)] :: l => (runesOf l).map fun r => n :: r
 | _ => none
def idx : V → Option Int
 | .v (.int _ n) => some n
 | _ => none
def bnd (g : Env) (o : Option Operand) (d : Nat) : Option Nat :=
 match o with
 | none => some d
 | some x => match idx (opd g x) with
  | some n => if 0 ≤ n then some n.toNat else none
  | none => none
def takeCells (P : Program) (t : TypeId) (cs : List V) : Option V :=
 match ttag P t with
 | some true => if tsize P t ≤ cs.length then some (.agg ((cs.take (tsize P t)).map cp)) else none
 | some false => (cs[0]?).map cp
 | none => none
def tagC (b o : Nat) : V → V
 | .list .yes r => .list (.cell b o) r
 | x => cp x
def cellsOfOb (h : Heap) (b : Nat) : Option (List V) :=
 match h[b]? with
 | some (.cells cs) => some cs
 | _ => none
def loadV (P : Program) (h : Heap) (t : TypeId) (a : V) : Option V :=
 match a with
 | .ptr b o =>
  match cellsOfOb h b with
  | some cs => match ttag P t with
   | some true => takeCells P t (cs.drop o)
   | some false => (cs[o]?).map (tagC b o)
   | none => none
  | none => none
 | .rp cs => takeCells P t cs
 | _ => none
def fieldOff (P : Program) (t : TypeId) (f : Nat) : Option (Nat × TypeId) := (tfields P t)[f]?
def partOk : V → Bool
 | .v z => z.oneCell'
 | .undef => false
 | .any => false
 | .tup _ => false
 | _ => true
def stoOk : V → Bool
 | .v z => z.oneCell'
 | .undef => false
 | .any => false
 | .tup _ => false
 | .agg _ => false
 | _ => true
def buildV (off : Nat → Option (Nat × Nat)) : List (Nat × V) → List V → Option (List V)
 | [], cs => some cs
 | (i, x) :: r, cs =>
  match off i with
  | some (o, n) => if partOk x = true ∧ (cellsV x).length = n ∧ o + n ≤ cs.length then buildV off r (cs.take o ++ (cellsV x).map cp ++ cs.drop (o + n)) else none
  | none => none
def evPure (P : Program) (vars : List Nat) (s : St) : Op → Option V
 | .move x =>
  match x with
  | .tmp t => match look s.1 t with
   | .list .yes r => some (.list (if t ∈ vars then .slot t else .no) r)
   | y => some (cps y)
  | x => some (opd s.1 x)
 | .pick c a b =>
  match opd s.1 c with
  | .v (.bool x) => some (if x then cps (opd s.1 a) else cps (opd s.1 b))
  | _ => none
 | .build t parts =>
  match tzero P t with
  | none => none
  | some z =>
   match P.underlying t with
   | some (.struct _) => if structOk P t then
    (buildV (fun i => (fieldOff P t i).map fun p => (p.1, tsize P p.2)) (parts.toList.map fun p => (p.1, opd s.1 p.2)) (z.map ofC1)).map .agg else none
   | some (.array _ e) => if (P.info? e).isSome then
    (buildV (fun i => some (i * tsize P e, tsize P e)) (parts.toList.map fun p => (p.1, opd s.1 p.2)) (z.map ofC1)).map .agg else none
   | _ => none
 | .load t a => loadV P s.2 t (opd s.1 a)
 | .nilCheck x =>
  match opd s.1 x with
  | .ptr b o => some (.ptr b o)
  | .rp cs => some (.rp cs)
  | .fn f cs => some (.fn f cs)
  | _ => none
 | .binOp op t x y _ =>
  match opd s.1 x, opd s.1 y with
  | .v a, .v b => (binT P op t a b).map .v
  | .agg cs, .agg ds =>
   match flatOf P t with
   | some ks =>
    match op with
    | .eql => (eqCells ks cs ds).map fun r => .v (.bool r)
    | .neq => (eqCells ks cs ds).map fun r => .v (.bool !r)
    | _ => none
   | none => none
  | _, _ => none
 | .unOp op _ x =>
  match opd s.1 x with
  | .v a => (unS op a).map .v
  | _ => none
 | .convert a b x =>
  match opd s.1 x with
  | .v y => convS P a b (.v y)
  | .list _ rows =>
   if isStr P b then
    match P.underlying a with
    | some (.slice e) => if isU8 P e then (bytesOf rows).map fun l => .v (.string ⟨l.toArray⟩) else if isI32 P e then (runesOf rows).map fun l => .v (.string (runesBytes l)) else none
    | _ => none
   else none
  | .buf i o n =>
   if isStr P b then
    match P.underlying a, cellsOfOb s.2 i with
    | some (.slice e), some cs =>
     if isU8 P e && decide (o + n ≤ cs.length) then (bytesOf (((cs.drop o).take n).map fun x => [x])).map fun l => .v (.string ⟨l.toArray⟩) else none
    | _, _ => none
   else none
  | _ => none
 | .fieldAddr t x f =>
  match opd s.1 x, fieldOff P t f with
  | .ptr b o, some (k, u) => if 0 < tsize P u then some (.ptr b (o + k)) else none
  | .rp cs, some (k, u) => if 0 < tsize P u ∧ k < cs.length then some (.rp (cs.drop k)) else none
  | _, _ => none
 | .field t x f =>
  match opd s.1 x, fieldOff P t f with
  | .agg cs, some (k, u) =>
   takeCells P u (cs.drop k)
  | _, _ => none
 | .indexAddr t x i =>
  match opd s.1 x, idx (opd s.1 i), P.underlying t with
  | .list _ rows, some n, some (.slice e) =>
   if 0 ≤ n then
    match rows[n.toNat]? with
    | some row => if row.length = tsize P e ∧ 0 < tsize P e then some (.rp row) else none
    | none => none
   else none
  | .buf b o m, some n, some (.slice e) => if 0 ≤ n ∧ n < m ∧ tsize P e = 1 then some (.ptr b (o + n.toNat)) else none
  | .stk b m sz, some n, some (.slice e) => if 0 ≤ n ∧ n < m ∧ tsize P e = sz ∧ 0 < sz then some (.ptr b (n.toNat * sz)) else none
  | .ptr b o, some n, some (.array m e) => if 0 ≤ n ∧ n < m ∧ 0 < tsize P e then some (.ptr b (o + n.toNat * tsize P e)) else none
  | .rp cs, some n, some (.array m e) => if 0 ≤ n ∧ n < m ∧ 0 < tsize P e ∧ n.toNat * tsize P e < cs.length then some (.rp (cs.drop (n.toNat * tsize P e))) else none
  | _, _, _ => none
 | .index t x i =>
  match opd s.1 x, idx (opd s.1 i), P.underlying t with
  | .v (.string b), some n, some .string =>
   if 0 ≤ n then (b.data[n.toNat]?).map fun c => .v (.int .u8 c.toNat) else none
  | .agg cs, some n, some (.array m e) =>
   if 0 ≤ n ∧ n < m then
    takeCells P e (cs.drop (n.toNat * tsize P e))
   else none
  | _, _, _ => none
 | .slice t x lo hi mx =>
  match mx, opd s.1 x, P.underlying t with
  | none, .v (.string b), some .string =>
   match bnd s.1 hi b.size with
   | some h => match bnd s.1 lo 0 with
    | some l => if l ≤ h ∧ h ≤ b.size then some (.v (.string (b.extract l h))) else none
    | none => none
   | none => none
  | none, .list _ rows, some (.slice e) =>
   match bnd s.1 hi rows.length with
   | some h => match bnd s.1 lo 0 with
    | some l => if l ≤ h ∧ h ≤ rows.length ∧ 0 < tsize P e ∧ (rows.all fun r => r.length == tsize P e) then some (.list .no ((rows.take h).drop l)) else none
    | none => none
   | none => none
  | none, .stk b n sz, some (.slice e) =>
   match bnd s.1 hi n with
   | some h => match bnd s.1 lo 0 with
    | some l => if l = 0 ∧ h ≤ n ∧ tsize P e = sz ∧ 0 < sz then some (.stk b h sz) else none
    | none => none
   | none => none
  | none, .ptr b o, some (.array n e) =>
   match bnd s.1 hi n with
   | some h => match bnd s.1 lo 0 with
    | some l => if l ≤ h ∧ h ≤ n ∧ l < n ∧ tsize P e = 1 then some (.buf b (o + l) (h - l)) else none
    | none => none
   | none => none
  | _, _, _ => none
 | .extract x i =>
  match opd s.1 x with
  | .tup vs => (vs[i]?).map cps
  | _ => none
 | .makeFunc fn first caps =>
  match fn with
  | .func f => if ((first.toList ++ caps.toList).all fun c => leaf0 (opd s.1 c) && !isU (opd s.1 c)) = true then (if first.size = 0 then some (.fn f (caps.toList.map fun c => cp (opd s.1 c))) else if caps.size = 0 then some (.fn f (.undef :: first.toList.map fun c => cp (opd s.1 c))) else none) else none
  | _ => none
 | .call c =>
  match c.callee with
  | .builtin .len =>
   match (c.args[0]?).map (opd s.1), (c.argTypes[0]?).bind P.underlying with
   | some (.list _ rows), some (.slice _) => some (.v (.int .i64 rows.length))
   | some .nil, some (.slice _) => some (.v (.int .i64 0))
   | some (.buf _ _ n), some (.slice _) => some (.v (.int .i64 n))
   | some (.stk _ n _), some (.slice _) => some (.v (.int .i64 n))
   | some (.v (.string b)), some .string => some (.v (.int .i64 b.size))
   | _, _ => none
  | .builtin .min =>
   match c.args.toList.map (opd s.1) with
   | [.v (.int k x), .v (.int k' y)] => if k = k' then some (.v (.int k (if y < x then y else x))) else none
   | _ => none
  | .builtin .max =>
   match c.args.toList.map (opd s.1) with
   | [.v (.int k x), .v (.int k' y)] => if k = k' then some (.v (.int k (if y > x then y else x))) else none
   | _ => none
  | _ => none
 | _ => none
def takeO (g : Env) (x : Operand) : V × Env :=
 match x with
 | .tmp t => match look g t with
  | .list .yes r => (.list .yes r, ins t (.list .no r) g)
  | y => (cps y, g)
 | x => (opd g x, g)
def setOb (h : Heap) (b : Nat) (cs : List V) : Heap := h.set b (.cells cs)
def isAssign : Op → Bool
 | .assign _ => true
 | _ => false
def isRow (P : Program) (a b : TypeId) : Bool := a == b && match P.underlying a with
 | some (.slice e) => isU8 P e
 | _ => false
def isEff (P : Program) : Op → Bool
 | .assign _ => true
 | .makeMap _ _ => true
 | .insert _ _ _ _ => true
 | .mapUpdate _ _ _ _ => true
 | .lookup _ _ _ _ => true
 | .alloc _ => true
 | .box _ _ => true
 | .buildSlice _ _ _ => true
 | .store _ _ _ => true
 | .range _ _ => true
 | .next _ _ => true
 | .makeSlice _ _ _ => true
 | .convert a b _ => isStr P a || isRow P a b
 | .call c => match c.callee with
  | .value _ => true
  | .builtin .append => true
  | _ => false
 | _ => false
def byteRows (s : ByteArray) : List (List V) := s.data.toList.map fun c => [.v (.int .u8 c.toNat)]
def byteCells (s : ByteArray) : List V := s.data.toList.map fun c => .v (.int .u8 c.toNat)
def notInt : TypeDesc → Bool
 | .slice _ => true
 | .string => true
 | _ => false
def appRows (P : Program) (e : TypeId) : V → Option (List (List V))
 | .nil => some []
 | .list _ r => if r.all fun x => x.length == tsize P e then some r else none
 | .v (.string s) => if isU8 P e = true ∧ tsize P e = 1 then some (byteRows s) else none
 | _ => none
def owner (lo : Nat) (s : St) (x : Operand) : Option (List (List V) × St) :=
 match x with
 | .tmp t =>
  match look s.1 t with
  | .nil => some ([], s)
  | .list .yes r => some (r, (ins t (.list .no r) s.1, s.2))
  | .list (.slot u) r => match look s.1 u with
   | .list .yes q => some (r, (ins u (.list .no q) s.1, s.2))
   | _ => none
  | .list (.cell b o) r => match cellsOfOb s.2 b with
   | some cs => match cs[o]? with
    | some (.list .yes q) => if lo ≤ b then some (r, (s.1, setOb s.2 b (cs.set o (.list .no q)))) else none
    | _ => none
   | none => none
  | _ => none
 | .const c => match ofC c with
  | .nil => some ([], s)
  | _ => none
 | _ => none
def freezeV (s : St) : Operand → Option (V × St)
 | .tmp t => match look s.1 t with
  | .list .yes r => if r.isEmpty then none else some (.list .no r, (untag (ins t (.list .no r) s.1), s.2))
  | _ => none
 | _ => none
abbrev CallF := Nat → Nat → List V → Heap → Option (V × Heap)
def evCall (call : CallF) (lo : Nat) (s : St) (f : Operand) (args : List V) : Option (V × St) :=
 match opd s.1 f with
 | .fn f caps => match call lo f (headB caps ++ (args.map fzs ++ tailB caps)) s.2 with
  | some (r, h) => some (r, (untagC s.1, h))
  | none => none
 | _ => none
def sameT : TypeDesc → Value → Value → Option Bool
 | .int _, .int k a, .int k' b => if k = k' then some (a == b) else none
 | .string, .string a, .string b => some (a.toList == b.toList)
 | _, _, _ => none
def findT (d : TypeDesc) (k : Value) : List (Value × Value) → Nat → Option (Option (Nat × Value))
 | [], _ => some none
 | e :: es, i =>
  match sameT d k e.1 with
  | some true => some (some (i, e.2))
  | some false => findT d k es (i + 1)
  | none => none
def keyT : TypeDesc → Value → Bool
 | .int k, .int j _ => k == j
 | .string, .string _ => true
 | _, _ => false
def zero1 (P : Program) (t : TypeId) : Option Value :=
 match (P.info? t).bind (·.zero) with
 | some (.int k n) => some (.int k n)
 | some (.bool b) => some (.bool b)
 | some (.string b) => some (.string b)
 | _ => none
def lookT (P : Program) (kt et : TypeId) (k : Value) (es : List (Value × Value)) (two : Bool) : Option V :=
 match P.underlying kt with
 | some d => if keyT d k then
   match findT d k es 0, zero1 P et with
   | some (some (_, x)), _ => some (if two then .tup [.v x, .v (.bool true)] else .v x)
   | some none, some z => some (if two then .tup [.v z, .v (.bool false)] else .v z)
   | _, _ => none
  else none
 | none => none
def putT (P : Program) (kt : TypeId) (k x : Value) (es : List (Value × Value)) : Option (List (Value × Value)) :=
 match P.underlying kt with
 | some d => if keyT d k then
   match findT d k es 0 with
   | some (some (i, _)) => some (es.set i (k, x))
   | some none => some (es ++ [(k, x)])
   | none => none
  else none
 | none => none
def lookupV (P : Program) (s : St) (t : TypeId) (two : Bool) : V → V → Option V
 | .mp b, .v k => match s.2[b]?, P.underlying t with
  | some (.tab es), some (.map kt et) => lookT P kt et k es two
  | _, _ => none
 | _, _ => none
def insertV (P : Program) (lo : Nat) (s : St) (t : TypeId) : V → V → V → Option St
 | .mp b, .v k, .v x => match s.2[b]?, P.underlying t with
  | some (.tab es), some (.map kt _) => if lo ≤ b then (putT P kt k x es).map fun es' => (untag s.1, s.2.set b (.tab es')) else none
  | _, _ => none
 | _, _, _ => none
def evEff (P : Program) (call : CallF) (lo : Nat) (mutc : Bool) (s : St) : Op → Option (V × St)
 | .assign x => some (own1 (takeO s.1 x).1, (untag (takeO s.1 x).2, s.2))
 | .alloc t =>
  match tzero P t with
  | some z => if ((z.map ofC1).all stoOk && bldT t (z.map ofC1)) then some (.ptr s.2.length 0, (s.1, s.2 ++ [.cells ((z.map ofC1).map own1)])) else none
  | none => none
 | .box t x =>
  if partOk (cps (opd s.1 x)) && ((cellsV (cps (opd s.1 x))).all stoOk && bldT t (cellsV (cps (opd s.1 x)))) then some (.ptr s.2.length 0, (s.1, s.2 ++ [.cells ((cellsV (cps (opd s.1 x))).map own1)])) else none
 | .buildSlice t n parts =>
  match P.underlying t with
  | some (.slice e) =>
   let rows := parts.toList.map fun p => cellsV (fzs (opd s.1 p.2))
   if (parts.toList.map (·.1)) = List.range n ∧ (tzero P e).isSome = true ∧ 0 < tsize P e ∧ n * tsize P e ≤ 16777216 ∧ (rows.all fun r => r.length == tsize P e && r.all pure1) ∧ byT e [] rows = true then
    some (.list .yes rows, s)
   else none
  | _ => none
 | .store t a x =>
  match opd s.1 a with
  | .ptr b o =>
   match cellsOfOb s.2 b with
   | some cs =>
    let v := (takeO s.1 x).1
    if lo ≤ b ∧ o + tsize P t ≤ cs.length ∧ (cellsV v).length = tsize P t ∧ (P.info? t).isSome ∧ ((cellsV v).all stoOk && bldS (cellsV v)) = true ∧ (okv (b + 1) v || keptO cs v) = true then
     match own1s v with
     | .agg ds => some (.v undef, (untag (takeO s.1 x).2, setOb s.2 b (cs.take o ++ ds ++ cs.drop (o + tsize P t))))
     | u => some (.v undef, (untag (takeO s.1 x).2, setOb s.2 b (cs.set o u)))
    else none
   | none => none
  | _ => none
 | .range t x =>
  match opd s.1 x, P.underlying t with
  | .v (.string b), some .string => some (.ptr s.2.length 0, (s.1, s.2 ++ [.iter b 0]))
  | _, _ => none
 | .next x str =>
  match opd s.1 x, str with
  | .ptr b 0, true =>
   match s.2[b]? with
   | some (.iter t pos) =>
    if lo ≤ b then
     if pos < t.size then some (.tup [.v (.bool true), .v (.int .i64 pos), .v (.int .i32 (Utf8.decode t pos).1)], (untag s.1, s.2.set b (.iter t (pos + (Utf8.decode t pos).2))))
     else some (.tup [.v (.bool false)], (untag s.1, s.2))
    else none
   | _ => none
  | _, _ => none
 | .makeMap t none => match P.underlying t with
  | some (.map _ _) => some (.mp s.2.length, (s.1, s.2 ++ [.tab []]))
  | _ => none
 | .insert t m k x => (insertV P lo s t (opd s.1 m) (opd s.1 k) (opd s.1 x)).map fun s' => (.v undef, s')
 | .mapUpdate t m k x => (insertV P lo s t (opd s.1 m) (opd s.1 k) (opd s.1 x)).map fun s' => (.v undef, s')
 | .lookup t m k two => (lookupV P s t two (opd s.1 m) (opd s.1 k)).map fun v => (v, s)
 | .convert a b x =>
  if isRow P a b then freezeV s x else
  match P.underlying a, P.underlying b, opd s.1 x with
  | some .string, some (.slice e), .v (.string y) =>
   if isU8 P e then
    if mutc then some (.buf s.2.length 0 y.size, (s.1, s.2 ++ [.cells (byteCells y)]))
    else some (.list .no (byteRows y), s)
   else none
  | some .string, some .string, .v (.string y) => some (.v (.string y), s)
  | _, _, _ => none
 | .call c =>
  match c.callee with
  | .value f => evCall call lo s f (c.args.toList.map (opd s.1))
  | .builtin .append =>
   match c.args.toList, c.argTypes.toList.map P.underlying with
   | [x, y], [some (.slice e), some u] =>
    match owner lo s x, appRows P e (opd s.1 y) with
    | some (r, s'), some q =>
     if (tzero P e).map (·.length) = some (tsize P e) ∧ 0 < tsize P e ∧ (r.all fun z => z.length == tsize P e) ∧ (r.length + q.length) * P.bytesOf e ≤ 140737488355328 ∧ r.length + q.length ≤ 9223372036854775807 ∧ notInt u = true ∧ byT e r q = true then
      some (.list .yes (r ++ q), (untag s'.1, s'.2))
     else none
    | _, _ => none
   | _, _ => none
  | _ => none
 | _ => none
def isNew (md : Option Nat → Nat) (d : Option Nat) : Op → Bool
 | .makeSlice _ _ _ => true
 | .buildSlice _ _ _ => md d != 0
 | .store _ _ _ => md none == 3 || md none == 4
 | .alloc _ => md d == 4
 | .call c => match c.callee with
  | .builtin .append => md d == 1
  | _ => false
 | _ => false
def mkRows : Nat → List V → List V
 | 0, _ => []
 | n + 1, z => z ++ mkRows n z
def pure3 (v : V) : Bool := pure2 v && !isNilP v
def stkC (i : Nat) (v : V) : Bool := avf i v && !isNilP v
def keepC (v : V) : V := own1 (cp v)
def appNew (P : Program) (base lo : Nat) (s : St) (x : Operand) (e : TypeId) (q : List (List V)) (sz : Nat) : V → Option (V × St)
 | .stk i n z =>
  match cellsOfOb s.2 i with
  | some cs => if base ≤ i ∧ z = sz ∧ n * sz ≤ cs.length ∧ ((cs.take (n * sz)).all (stkC i) && q.flatten.all pure3) = true ∧ (n + q.length) * P.bytesOf e ≤ 140737488355328 ∧ n + q.length ≤ 9223372036854775807 then
    some (.stk i (n + q.length) sz, (kilE i (untag s.1), (kilH base i s.2).set i (.cells (cs.take (n * sz) ++ q.flatten.map keepC)))) else none
  | none => none
 | _ =>
  match owner lo s x with
  | some ([], s') => if q.flatten.all pure3 = true ∧ 0 < q.length ∧ q.length * P.bytesOf e ≤ 140737488355328 ∧ q.length ≤ 9223372036854775807 then
    some (.stk s'.2.length q.length sz, (untag s'.1, s'.2 ++ [.cells (q.flatten.map keepC)])) else none
  | _ => none
def evNew (P : Program) (base lo md : Nat) (s : St) : Op → Option (V × St)
 | .makeSlice t n k =>
  match idx (opd s.1 n), idx (opd s.1 k), P.underlying t with
  | some a, some b, some (.slice e) =>
   match tzero P e with
   | some z => if 0 ≤ a ∧ a = b ∧ z.length = tsize P e ∧ 0 < tsize P e ∧ a.toNat * P.bytesOf e ≤ 140737488355328 ∧ a ≤ 9223372036854775807 ∧ (z.map ofC1).all pure3 = true then
     some (.stk s.2.length a.toNat (tsize P e), (s.1, s.2 ++ [.cells (mkRows a.toNat ((z.map ofC1).map own1))])) else none
   | none => none
  | _, _, _ => none
 | .buildSlice t n parts =>
  match P.underlying t with
  | some (.slice e) =>
   let rows := parts.toList.map fun p => cellsV (cps (opd s.1 p.2))
   if (parts.toList.map (·.1)) = List.range n ∧ (tzero P e).isSome = true ∧ 0 < tsize P e ∧ n * tsize P e ≤ 16777216 ∧ (rows.all fun r => r.length == tsize P e && r.all pure2) ∧ byT e [] rows = true then
    if md = 2 then some (.list .yes rows, s)
    else if rows.flatten.all pure3 = true then some (.stk s.2.length n (tsize P e), (s.1, s.2 ++ [.cells (rows.flatten.map own1)])) else none
   else none
  | _ => none
 | .alloc t =>
  match tzero P t with
  | some z => if ((z.map ofC1).all stoOk && bldT t (z.map ofC1)) then some (.ptr s.2.length 0, (s.1, s.2 ++ [.cells (z.map ofC1)])) else none
  | none => none
 | .store t a x =>
  match opd s.1 a with
  | .ptr b o =>
   match cellsOfOb s.2 b with
   | some cs =>
    if md = 4 then
     let v := (takeO s.1 x).1
     if lo ≤ b ∧ o + tsize P t ≤ cs.length ∧ (cellsV v).length = tsize P t ∧ (P.info? t).isSome ∧ ((cellsV v).all stoOk && bldS (cellsV v)) = true ∧ (decide (base ≤ b) || (okv (b + 1) v || keptO cs v)) = true then
      some (.v undef, (untag (takeO s.1 x).2, setOb s.2 b (cs.take o ++ cellsV v ++ cs.drop (o + tsize P t))))
     else none
    else
    let v := (takeO s.1 x).1
    if lo ≤ b ∧ o + tsize P t ≤ cs.length ∧ (cellsV v).length = tsize P t ∧ (P.info? t).isSome ∧ ((cellsV v).all stoOk && bldS (cellsV v)) = true ∧ (decide (base ≤ b) || (okv (b + 1) v || keptO cs v)) = true then
     match own1s v with
     | .agg ds => some (.v undef, (untag (takeO s.1 x).2, setOb s.2 b (cs.take o ++ ds ++ cs.drop (o + tsize P t))))
     | u => some (.v undef, (untag (takeO s.1 x).2, setOb s.2 b (cs.set o u)))
    else none
   | none => none
  | _ => none
 | .call c =>
  match c.args.toList, c.argTypes.toList.map P.underlying with
  | [x, y], [some (.slice e), some u] =>
   match appRows P e (opd s.1 y) with
   | some q =>
    if (tzero P e).map (·.length) = some (tsize P e) ∧ 0 < tsize P e ∧ notInt u = true then
     appNew P base lo s x e q (tsize P e) (opd s.1 x)
    else none
   | none => none
  | _, _ => none
 | _ => none
def want (ops : Array Oper) (g : Env) (o : Oper) : Option Bool :=
 match o.guard with
 | none => some true
 | some (j, b) =>
  match (ops[j]?).bind (·.dst) with
  | some t => match look g t with
   | .v (.bool x) => some (x == b)
   | .v (.tuple _) => some false
   | _ => none
  | none => some false
inductive Tr where
 | fin
 | finS (i : Nat)
 | finL (l : List Nat)
 | head (k : Nat) (t : Tr)
 | one (k : Nat) (t : Tr)
 | alt (a b : Tr)
 | two (k : Nat)
 deriving Inhabited
structure Mix where
 heads : List Nat
 takes : List Nat
 tree : Tr
 deriving Inhabited
structure Hint where
 live : Nat → Option (List Nat)
 keep : Nat → Option Nat
 tail : Nat → Option Nat
 vars : List Nat
 mutc : Bool
 mix : Nat → Option Mix
 mode : Option Nat → Nat := fun _ => 0
 ret : Nat := 0
 rawr : Bool := false
 late : Nat → Option Nat := fun _ => none
 deriving Inhabited
structure Cx where
 P : Program
 call : CallF
 lo : Nat
 base : Nat
 hint : Hint
def evOp (c : Cx) (s : St) (o : Oper) : Option (V × St) :=
 if isNew c.hint.mode o.dst o.op then evNew c.P c.base c.lo (c.hint.mode o.dst) s o.op else
 if isEff c.P o.op then evEff c.P c.call c.lo c.hint.mutc s o.op else (evPure c.P c.hint.vars s o.op).map fun v => (v, s)
def evOps (c : Cx) (ops : Array Oper) : List Oper → St → Option St
 | [], s => some s
 | o :: r, s =>
  match want ops s.1 o with
  | some true => match evOp c s o with
   | some (v, g, h) => evOps c ops r (put o.dst v g, h)
   | none => none
  | some false => if isAssign o.op then none else evOps c ops r (put o.dst (.v undef) s.1, s.2)
  | none => none
def sameH (n : Nat) : Option (V × Heap) → Option V
 | some (v, h) => if h.length = n then some v else none
 | none => none
def evHead (c : Cx) (s : St) (o : Oper) : Option V :=
 if isEff c.P o.op then
  match o.op with
  | .call d => match d.callee with
   | .value f => match opd s.1 f with
    | .fn f caps => sameH s.2.length (c.call s.2.length f (headB caps ++ ((d.args.toList.map (opd s.1)).map fzs ++ tailB caps)) s.2)
    | _ => none
   | _ => none
  | .convert a b x =>
   if c.hint.mutc || isRow c.P a b then none else (evEff c.P c.call c.lo false s (.convert a b x)).map (·.1)
  | .buildSlice t n parts => (evEff c.P c.call c.lo false s (.buildSlice t n parts)).map (·.1)
  | _ => none
 else evPure c.P c.hint.vars s o.op
def evHeads (c : Cx) (ops : Array Oper) : List Oper → St → Option St
 | [], s => some s
 | o :: r, s =>
  match want ops s.1 o with
  | some true => match evHead c s o with
   | some v => evHeads c ops r (put o.dst v s.1, s.2)
   | none => none
  | some false => if isAssign o.op then none else evHeads c ops r (put o.dst (.v undef) s.1, s.2)
  | none => none
def headOp (P : Program) : Op → Bool
 | .call c => match c.callee with
  | .value _ => true
  | .builtin .append => false
  | _ => true
 | .convert _ _ _ => true
 | o => !isEff P o
def tailAt (P : Program) (h : Hint) (id : Nat) (ops : Array Oper) : Nat :=
 match h.tail id with
 | some n => n
 | none => (ops.toList.findIdx? fun o => !headOp P o.op).getD ops.size
def drawOk0 (P : Program) (h : Hint) (id : Nat) (ops : Array Oper) : Bool :=
 if tailAt P h id ops = ops.size then Region.lexB .any ops else Region.lexTailB .any ops (tailAt P h id ops)
def behind (ops : Array Oper) (k : Nat) : List Nat :=
 (List.range ops.size).foldl (fun acc j => match ops[j]? with
  | some o => if o.after.any (fun e => Region.binds .any e && (e.on == k || acc.contains e.on)) then j :: acc else acc
  | none => acc) []
def Tr.firsts : Tr → List Nat
 | .one k _ => [k]
 | .alt a b => a.firsts ++ b.firsts
 | _ => []
def plainOp : Op → Bool
 | .move _ => true
 | .pick _ _ _ => true
 | .build _ _ => true
 | .load _ _ => true
 | .nilCheck _ => true
 | .binOp _ _ _ _ _ => true
 | .unOp _ _ _ => true
 | .fieldAddr _ _ _ => true
 | .field _ _ _ => true
 | .indexAddr _ _ _ => true
 | .index _ _ _ => true
 | .slice _ _ _ _ _ => true
 | .extract _ _ => true
 | .call c => match c.callee with
  | .builtin .len => true
  | _ => false
 | _ => false
def isAlloc : Op → Bool
 | .alloc _ => true
 | .makeSlice _ _ _ => true
 | _ => false
def headFree (mx : Mix) (ops : Array Oper) (listed : Array Bool) (k : Nat) : Bool :=
 match ops[k]? with
 | none => false
 | some o => mx.heads.contains k && (List.range ops.size).all fun j => j == k || listed.getD j true || (behind ops k).contains j || match ops[j]? with
   | some oj => (mx.heads.contains j || (!mx.takes.contains j && plainOp o.op && isAlloc oj.op)) && o.apart ops oj
   | none => true
def twoB (ops : Array Oper) (k m : Nat) : Nat → Nat → Nat → Array Bool → Bool
 | 0, p, j, listed => p == 2 && j == m && (Region.ready .any ops listed).isEmpty
 | f + 1, p, j, listed => !(Region.ready .any ops listed).isEmpty && (Region.ready .any ops listed).all (fun i => (i == k + 1 + p && decide (p < 2)) || (i == k + 3 + j && decide (j < m))) &&
   (decide (2 ≤ p) || twoB ops k m f (p + 1) j (listed.setIfInBounds (k + 1 + p) true)) && (decide (m ≤ j) || twoB ops k m f p (j + 1) (listed.setIfInBounds (k + 3 + j) true))
def twoOk (mx : Mix) (ops : Array Oper) (k n : Nat) (listed : Array Bool) : Bool :=
 (Region.ready .any ops listed == [k]) && !mx.heads.contains k && (match ops[k]? with | some o => !isAlloc o.op | none => false) && decide (k + 3 ≤ ops.size) && n == ops.size - k &&
  (match ops[k + 1]? with | some o1 => (match o1.dst with | some d1 => (ops.toList.drop (k + 3)).all fun o => o.dst != some d1 | none => false) | none => false) &&
  twoB ops k (ops.size - (k + 3)) (ops.size - (k + 1)) 0 0 (listed.setIfInBounds k true)
def trOk (mx : Mix) (ops : Array Oper) : Tr → Nat → Bool → Array Bool → Bool
 | .fin, n, top, listed => top && n == 0 && (Region.ready .any ops listed).isEmpty
 | .finS _, n, top, listed => top && n == 0 && (Region.ready .any ops listed).isEmpty
 | .finL _, n, top, listed => top && n == 0 && (Region.ready .any ops listed).isEmpty
 | .head k t, n, top, listed => match n with
  | 0 => false
  | n + 1 => top && (Region.ready .any ops listed).contains k && headFree mx ops listed k && trOk mx ops t n true (listed.setIfInBounds k true)
 | .one k t, n, top, listed => match n with
  | 0 => false
  | n + 1 => (!top || (!(Region.ready .any ops listed).isEmpty && (Region.ready .any ops listed).all (· == k))) && trOk mx ops t n true (listed.setIfInBounds k true)
 | .alt a b, n, top, listed => (!top || (!(Region.ready .any ops listed).isEmpty && (Region.ready .any ops listed).all fun k => (a.firsts ++ b.firsts).contains k)) && trOk mx ops a n false listed && trOk mx ops b n false listed
 | .two k, n, top, listed => top && twoOk mx ops k n listed
def drawOk (P : Program) (h : Hint) (id : Nat) (ops : Array Oper) : Bool :=
 match h.mix id with
 | none => drawOk0 P h id ops
 | some mx => Region.noSelect ops && trOk mx ops mx.tree ops.size true (Array.replicate ops.size false)
def dstOk (h : Hint) (nt : Nat) (o : Oper) : Bool :=
 match o.dst with
 | none => true
 | some t => decide (t < nt) && (isAssign o.op || !h.vars.contains t)
def codeOk (P : Program) (h : Hint) (nt : Nat) : Code → Bool
 | .region id ops draw => ops.toList.all (dstOk h nt) && (!draw || drawOk P h id ops)
 | .seq a b => codeOk P h nt a && codeOk P h nt b
 | .cond _ a b => codeOk P h nt a && codeOk P h nt b
 | .block _ a => codeOk P h nt a
 | .loop a => codeOk P h nt a
 | .scope a => codeOk P h nt a
 | _ => true
def evDraw0 (c : Cx) (id : Nat) (ops : Array Oper) (s : St) : Option St :=
 match evHeads c ops (ops.toList.take (tailAt c.P c.hint id ops)) s with
 | some s' => evOps c ops (ops.toList.drop (tailAt c.P c.hint id ops)) s'
 | none => none
def lives (l : Option (List Nat)) (g : Env) : Env :=
 match l with
 | some ts => ts.map fun t => (t, look g t)
 | none => g
def evTake (c : Cx) (s : St) (o : Oper) : Option St :=
 match o.dst with
 | some t => match evPure c.P c.hint.vars s o.op with
  | some v => match owner c.lo (put (some t) v s.1, s.2) (.tmp t) with
   | some (r, g, h) => some (put (some t) (.list .yes r) (untag g), h)
   | none => none
  | none => none
 | none => none
def stepT (c : Cx) (mx : Mix) (ops : Array Oper) (k : Nat) (s : St) : Option St :=
 match ops[k]? with
 | none => none
 | some o =>
  if mx.heads.contains k then evHeads c ops [o] s
  else if mx.takes.contains k then (if o.guard.isNone && !isEff c.P o.op then evTake c s o else none)
  else evOps c ops [o] s
def vtag : Value → Nat
 | .bool _ => 0
 | .int _ _ => 1
 | .string _ => 2
 | _ => 3
open Classical in
noncomputable def valeq : Value → Value → Bool
 | .bool a, .bool b => a == b
 | .int k a, .int j b => decide (k = j) && decide (a = b)
 | .string s, .string t => decide (s.data.toList = t.data.toList)
 | .pointer none, .pointer none => true
 | .slice none 0 0, .slice none 0 0 => true
 | .map none, .map none => true
 | .nilFunc, .nilFunc => true
 | .nilIface, .nilIface => true
 | x, y => if vtag x = 3 ∧ vtag y = 3 then decide (x = y) else false
theorem valeq_eq {x y : Value} (h : valeq x y = true) : x = y := by
 unfold valeq at h
 split at h
 ·rw [beq_iff_eq] at h; rw [h]
 ·simp only [Bool.and_eq_true, decide_eq_true_eq] at h; rw [h.1, h.2]
 ·rename_i s t
  rw [decide_eq_true_eq] at h
  obtain ⟨⟨a⟩⟩ := s
  obtain ⟨⟨b⟩⟩ := t
  simp only at h
  rw [h]
 ·rfl
 ·rfl
 ·rfl
 ·rfl
 ·rfl
 ·split at h
  ·exact @of_decide_eq_true _ (Classical.propDecidable _) h
  ·cases h
open Classical in
theorem valeq_refl (x : Value) : valeq x x = true := by
 cases x with
 | bool b => simp [valeq]
 | int k n => simp only [valeq]; simp
 | string s => simp only [valeq]; simp
 | pointer a => cases a <;> simp [valeq, vtag]
 | map a => cases a <;> simp [valeq, vtag]
 | slice a l c =>
  unfold valeq
  split <;> first | rfl | simp_all [vtag]
 | _ => simp [valeq, vtag]
mutual
noncomputable def veq : V → V → Bool
 | .v x, u => match u with | .v y => valeq x y | _ => false
 | .nil, u => match u with | .nil => true | _ => false
 | .list k r, u => match u with | .list j q => decide (k = j) && veqr r q | _ => false
 | .ptr b o, u => match u with | .ptr c p => b == c && o == p | _ => false
 | .rp a, u => match u with | .rp b => veqs a b | _ => false
 | .buf b o n, u => match u with | .buf c p m => b == c && (o == p && n == m) | _ => false
 | .stk b o n, u => match u with | .stk c p m => b == c && (o == p && n == m) | _ => false
 | .mp b, u => match u with | .mp c => b == c | _ => false
 | .agg a, u => match u with | .agg b => veqs a b | _ => false
 | .tup a, u => match u with | .tup b => veqs a b | _ => false
 | .fn f a, u => match u with | .fn g b => f == g && veqs a b | _ => false
 | .undef, u => match u with | .undef => true | _ => false
 | .any, u => match u with | .any => true | _ => false
noncomputable def veqs : List V → List V → Bool
 | [], u => match u with | [] => true | _ => false
 | v :: r, u => match u with | w :: q => veq v w && veqs r q | _ => false
noncomputable def veqr : List (List V) → List (List V) → Bool
 | [], u => match u with | [] => true | _ => false
 | v :: r, u => match u with | w :: q => veqs v w && veqr r q | _ => false
end
mutual
theorem veq_eq : ∀ (v u : V), veq v u = true → v = u
 | .v x, u, h => by cases u <;> simp only [veq] at h <;> first | (rw [valeq_eq h]) | cases h
 | .nil, u, h => by cases u <;> simp only [veq] at h <;> first | rfl | cases h
 | .list k r, u, h => by
  cases u <;> simp only [veq] at h <;> try cases h
  simp only [Bool.and_eq_true, decide_eq_true_eq] at h
  rw [h.1, veqr_eq r _ h.2]
 | .ptr b o, u, h => by
  cases u <;> simp only [veq] at h <;> try cases h
  simp only [Bool.and_eq_true, beq_iff_eq] at h
  rw [h.1, h.2]
 | .rp a, u, h => by
  cases u <;> simp only [veq] at h <;> try cases h
  rw [veqs_eq a _ h]
 | .buf b o n, u, h => by
  cases u <;> simp only [veq] at h <;> try cases h
  simp only [Bool.and_eq_true, beq_iff_eq] at h
  rw [h.1, h.2.1, h.2.2]
 | .stk b o n, u, h => by
  cases u <;> simp only [veq] at h <;> try cases h
  simp only [Bool.and_eq_true, beq_iff_eq] at h
  rw [h.1, h.2.1, h.2.2]
 | .mp b, u, h => by
  cases u <;> simp only [veq] at h <;> try cases h
  simp only [beq_iff_eq] at h
  rw [h]
 | .agg a, u, h => by
  cases u <;> simp only [veq] at h <;> try cases h
  rw [veqs_eq a _ h]
 | .tup a, u, h => by
  cases u <;> simp only [veq] at h <;> try cases h
  rw [veqs_eq a _ h]
 | .fn f a, u, h => by
  cases u <;> simp only [veq] at h <;> try cases h
  simp only [Bool.and_eq_true, beq_iff_eq] at h
  rw [h.1, veqs_eq a _ h.2]
 | .undef, u, h => by cases u <;> simp only [veq] at h <;> first | rfl | cases h
 | .any, u, h => by cases u <;> simp only [veq] at h <;> first | rfl | cases h
theorem veqs_eq : ∀ (v u : List V), veqs v u = true → v = u
 | [], u, h => by cases u <;> simp only [veqs] at h <;> first | rfl | cases h
 | v :: r, u, h => by
  cases u <;> simp only [veqs] at h <;> try cases h
  simp only [Bool.and_eq_true] at h
  rw [veq_eq v _ h.1, veqs_eq r _ h.2]
theorem veqr_eq : ∀ (v u : List (List V)), veqr v u = true → v = u
 | [], u, h => by cases u <;> simp only [veqr] at h <;> first | rfl | cases h
 | v :: r, u, h => by
  cases u <;> simp only [veqr] at h <;> try cases h
  simp only [Bool.and_eq_true] at h
  rw [veqs_eq v _ h.1, veqr_eq r _ h.2]
end
noncomputable def tabeq : List (Value × Value) → List (Value × Value) → Bool
 | [], u => match u with | [] => true | _ => false
 | v :: r, u => match u with | w :: q => valeq v.1 w.1 && (valeq v.2 w.2 && tabeq r q) | _ => false
theorem tabeq_eq : ∀ (v u : List (Value × Value)), tabeq v u = true → v = u
 | [], u, h => by cases u <;> simp only [tabeq] at h <;> first | rfl | cases h
 | (k, x) :: r, u, h => by
  cases u <;> simp only [tabeq] at h <;> try cases h
  rename_i w q
  simp only [Bool.and_eq_true] at h
  obtain ⟨j, y⟩ := w
  rw [show k = j from valeq_eq h.1, show x = y from valeq_eq h.2.1, tabeq_eq r _ h.2.2]
theorem tabeq_refl : ∀ v : List (Value × Value), tabeq v v = true
 | [] => rfl
 | v :: r => by simp only [tabeq, valeq_refl, tabeq_refl r, Bool.and_self]
noncomputable def obeq : Ob → Ob → Bool
 | .cells a, .cells b => veqs a b
 | .iter s p, .iter t q => decide (s.data.toList = t.data.toList) && p == q
 | .tab a, .tab b => tabeq a b
 | _, _ => false
theorem obeq_eq {a b : Ob} (h : obeq a b = true) : a = b := by
 unfold obeq at h
 split at h
 ·rw [veqs_eq _ _ h]
 ·rename_i s p t q
  simp only [Bool.and_eq_true, decide_eq_true_eq, beq_iff_eq] at h
  obtain ⟨⟨a⟩⟩ := s
  obtain ⟨⟨b⟩⟩ := t
  have h1 := h.1
  simp only at h1
  rw [h1, h.2]
 ·rw [tabeq_eq _ _ h]
 ·cases h
noncomputable def heq : Heap → Heap → Bool
 | [], u => match u with | [] => true | _ => false
 | v :: r, u => match u with | w :: q => obeq v w && heq r q | _ => false
theorem heq_eq : ∀ (v u : Heap), heq v u = true → v = u
 | [], u, h => by cases u <;> simp only [heq] at h <;> first | rfl | cases h
 | v :: r, u, h => by
  cases u <;> simp only [heq] at h <;> try cases h
  simp only [Bool.and_eq_true] at h
  rw [obeq_eq h.1, heq_eq r _ h.2]
noncomputable def enveq : Env → Env → Bool
 | [], u => match u with | [] => true | _ => false
 | v :: r, u => match u with | w :: q => v.1 == w.1 && (veq v.2 w.2 && enveq r q) | _ => false
theorem enveq_eq : ∀ (v u : Env), enveq v u = true → v = u
 | [], u, h => by cases u <;> simp only [enveq] at h <;> first | rfl | cases h
 | (k, v) :: r, u, h => by
  cases u <;> simp only [enveq] at h <;> try cases h
  rename_i w q
  simp only [Bool.and_eq_true, beq_iff_eq] at h
  obtain ⟨j, w⟩ := w
  rw [show k = j from h.1, veq_eq v w h.2.1, enveq_eq r _ h.2.2]
mutual
theorem veq_refl : ∀ v : V, veq v v = true
 | .v x => by simp only [veq]; exact valeq_refl x
 | .nil => rfl
 | .list k r => by simp only [veq, veqr_refl r, Bool.and_true, decide_eq_true_eq]
 | .ptr b o => by simp [veq]
 | .rp a => by simp only [veq]; exact veqs_refl a
 | .buf b o n => by simp [veq]
 | .stk b o n => by simp [veq]
 | .mp b => by simp [veq]
 | .agg a => by simp only [veq]; exact veqs_refl a
 | .tup a => by simp only [veq]; exact veqs_refl a
 | .fn f a => by simp [veq, veqs_refl a]
 | .undef => rfl
 | .any => rfl
theorem veqs_refl : ∀ v : List V, veqs v v = true
 | [] => rfl
 | v :: r => by simp only [veqs, veq_refl v, veqs_refl r, Bool.and_self]
theorem veqr_refl : ∀ v : List (List V), veqr v v = true
 | [] => rfl
 | v :: r => by simp only [veqr, veqs_refl v, veqr_refl r, Bool.and_self]
end
theorem obeq_refl (a : Ob) : obeq a a = true := by
 cases a with
 | cells a => exact veqs_refl a
 | iter s p => simp [obeq]
 | tab a => exact tabeq_refl a
theorem heq_refl : ∀ h : Heap, heq h h = true
 | [] => rfl
 | v :: r => by simp only [heq, obeq_refl v, heq_refl r, Bool.and_self]
theorem enveq_refl : ∀ g : Env, enveq g g = true
 | [] => rfl
 | (k, v) :: r => by simp only [enveq, veq_refl v, enveq_refl r, Bool.and_self, beq_self_eq_true]
def isBoolV : V → Bool
 | .v (.bool _) => true
 | .any => true
 | _ => false
noncomputable def joinV (v u : V) : V := if veq v u = true then v else if isBoolV v = true ∧ isBoolV u = true then .any else .undef
noncomputable def joinE : Env → Env → Option Env
 | [], [] => some []
 | (k, v) :: r, (j, u) :: q => if k = j then (joinE r q).map ((k, joinV v u) :: ·) else none
 | _, _ => none
noncomputable def joinS : Option St → Option St → Option St
 | some x, some y => if heq x.2 y.2 = true then (joinE x.1 y.1).map fun g => (g, x.2) else none
 | _, _ => none
def okO (n : Nat) : Ob → Bool
 | .cells cs => cs.all (okv n)
 | _ => true
def sw (j i : Nat) : Nat := if i = j then j + 1 else if i = j + 1 then j else i
def swc (j : Nat) : V → V
 | .ptr b o => .ptr (sw j b) o
 | .buf b o n => .buf (sw j b) o n
 | .stk b n z => .stk (sw j b) n z
 | .mp b => .mp (sw j b)
 | x => x
def swf (j : Nat) : V → V
 | .fn f cs => .fn f (cs.map (swc j))
 | x => swc j x
def swv (j : Nat) : V → V
 | .agg cs => .agg (cs.map (swf j))
 | x => swf j x
def swr (j : Nat) : V → V
 | .tup vs => .tup (vs.map (swv j))
 | x => swv j x
def swE (j : Nat) (g : Env) : Env := g.map fun p => (p.1, swr j p.2)
def swO (j : Nat) : Ob → Ob
 | .cells cs => .cells (cs.map (swf j))
 | o => o
def swL {α : Type} (j : Nat) (l : List α) : List α := match l[j]?, l[j + 1]? with
 | some x, some y => (l.set j y).set (j + 1) x
 | _, _ => l
def swS (base i : Nat) (s : St) : Option St := if base + i + 1 < s.2.length then some (swE (base + i) s.1, s.2.take base ++ swL i ((s.2.drop base).map (swO (base + i)))) else none
def keep1 (base n : Nat) (s : St) : Option St :=
 if (s.1.all fun p => okv (base + n) p.2) && ((s.2.drop base).take n).all (okO (base + n)) then
  some (s.1, s.2.take (base + n))
 else none
def sinkS (base : Nat) (s : St) : V → Option St
 | .ptr b 0 => if base ≤ b ∧ b + 2 = s.2.length then swS base (b - base) s else some s
 | _ => some s
def keeps (base : Nat) (k : Option Nat) (s : St) : Option St :=
 match k with
 | none => some s
 | some n => if n < 1000 then keep1 base n s else if n < 2000 then keep1 base ((s.2.drop base).length - (n - 1000)) s else sinkS base s (look s.1 (n - 2000))
def evMid (P : Program) (lo base u nn ex : Nat) : List Oper → St → Option St
 | [], _ => none
 | [o], s => match o.op, o.guard, o.dst with
  | .store t p (.tmp u'), none, none => match opd s.1 p, look s.1 u with
   | .ptr i off, .list .yes r => match cellsOfOb s.2 i with
    | some cs => if u' = u ∧ lo ≤ i ∧ off + 1 ≤ cs.length ∧ tsize P t = 1 ∧ (P.info? t).isSome ∧ bldS [V.list .yes r] = true then
      some (untag (ins u (.list .no r) s.1), setOb s.2 i (cs.take off ++ [.list .yes r] ++ cs.drop (off + 1))) else none
    | none => none
   | _, _ => none
  | _, _, _ => none
 | o :: q :: l, s => match o.op, o.guard, o.dst with
  | .indexAddr t x i, none, some d => match opd s.1 x with
   | .stk _ _ _ => if d ≠ u ∧ d ≠ nn ∧ d ≠ ex then match evPure P [] s (.indexAddr t x i) with
     | some v => evMid P lo base u nn ex (q :: l) (ins d v s.1, s.2)
     | none => none else none
   | _ => none
  | .fieldAddr t x f, none, some d => match opd s.1 x with
   | .ptr _ _ => if d ≠ u ∧ d ≠ nn ∧ d ≠ ex then match evPure P [] s (.fieldAddr t x f) with
     | some v => evMid P lo base u nn ex (q :: l) (ins d v s.1, s.2)
     | none => none else none
   | _ => none
  | .nilCheck x, none, some d => match opd s.1 x with
   | .ptr i o => if d ≠ u ∧ d ≠ nn ∧ d ≠ ex then evMid P lo base u nn ex (q :: l) (ins d (.ptr i o) s.1, s.2) else none
   | _ => none
  | _, _, _ => none
def evLate1 (P : Program) (lo base : Nat) (live : Option (List Nat)) (keep : Option Nat) (k : Nat) (ops : Array Oper) (ops' : Array Oper) (s1 : St) : Option St :=
 match ops[k]?, ops'.toList with
 | some o, [o1, o2] =>
  match o.op, o.dst, o1.op, o1.dst, o2.op with
  | .call cl, some u, .indexAddr tt (.tmp u1) (.tmp nn), some d1, .store t2 (.tmp d2) (.tmp ex) =>
   match cl.callee, cl.args.toList, cl.argTypes.toList.map P.underlying, P.underlying tt with
   | .builtin .append, [x, y], [some (.slice e), some du], some (.slice e') =>
    if u1 = u ∧ d2 = d1 ∧ e' = e ∧ d1 ≠ ex ∧ d1 ≠ u ∧ d1 ≠ nn ∧ u ≠ nn ∧ u ≠ ex ∧ o.guard.isNone = true ∧ o1.guard.isNone = true ∧ o2.guard.isNone = true ∧ o2.dst.isNone = true ∧ tsize P t2 = tsize P e ∧ (P.info? t2).isSome ∧ (P.info? e).isSome ∧ k < ops.size then
     match owner lo s1 x, appRows P e (opd s1.1 y), look s1.1 nn with
     | some (r, g1, h1), some [z], .v (.int _ n) =>
      if n = r.length ∧ partOk (look s1.1 ex) = true ∧ (cellsV (fzs (look s1.1 ex))).length = tsize P e ∧ (cellsV (fzs (look s1.1 ex))).all pure1 = true ∧ (cellsV (look s1.1 ex)).all stoOk = true ∧ (tzero P e).map (·.length) = some (tsize P e) ∧ 0 < tsize P e ∧ (r.all fun z => z.length == tsize P e) = true ∧
        (r.length + 1) * P.bytesOf e ≤ 140737488355328 ∧ r.length + 1 ≤ 9223372036854775807 ∧ notInt du = true ∧ byT e r [cellsV (fzs (look s1.1 ex))] = true then
       match evMid P lo base u nn ex (ops.toList.drop (k + 1)) (ins d1 .undef (ins u (.list .yes (r ++ [cellsV (fzs (look s1.1 ex))])) (untag g1)), h1) with
       | some s2 => keeps base keep (untag (lives live (ins d1 .undef s2.1)), s2.2)
       | none => none
      else none
     | _, _, _ => none
    else none
   | _, _, _, _ => none
  | _, _, _, _, _ => none
 | _, _ => none
noncomputable def evTwo (P : Program) (lo base k : Nat) (ops : Array Oper) (s : St) : Option St :=
 match ops.toList.drop (k + 1) with
 | o1 :: o2 :: mid => evLate1 P lo base none none k (ops.toList.take (k + 1) ++ mid).toArray #[o1, o2] s
 | _ => none
def swSs (base : Nat) : List Nat → St → Option St
 | [], s => some s
 | i :: l, s => match swS base i s with
  | some s' => swSs base l s'
  | none => none
def leafT (base : Nat) (live : Option (List Nat)) (k : Option Nat) (sw : List Nat) (s : St) : Option St := match swSs base sw (untag (lives live s.1), s.2) with
 | some s' => keeps base k s'
 | none => none
noncomputable def evT (c : Cx) (mx : Mix) (id : Nat) (ops : Array Oper) : Tr → St → Option St
 | .fin, s => leafT c.base (c.hint.live id) (c.hint.keep id) [] s
 | .finS i, s => leafT c.base (c.hint.live id) (c.hint.keep id) [i] s
 | .finL l, s => leafT c.base (c.hint.live id) (c.hint.keep id) l s
 | .head k t, s => match stepT c mx ops k s with
  | some s1 => evT c mx id ops t s1
  | none => none
 | .one k t, s => match stepT c mx ops k s with
  | some s1 => evT c mx id ops t s1
  | none => none
 | .alt a b, s => joinS (evT c mx id ops a s) (evT c mx id ops b s)
 | .two k, s => match evTwo c.P c.lo c.base k ops s with
  | some s1 => leafT c.base (c.hint.live id) (c.hint.keep id) [] s1
  | none => none
noncomputable def evDraw (c : Cx) (id : Nat) (ops : Array Oper) (s : St) : Option St :=
 match c.hint.mix id with
 | none => evDraw0 c id ops s
 | some mx => evT c mx id ops mx.tree s
def once (m : Option Mix) (draw : Bool) (k : Option Nat) : Option Nat :=
 match k with
 | none => none
 | some n => if (draw && m.isSome && decide (1000 ≤ n) && decide (n < 2000)) = true then none else some n
def notYes : V → Bool
 | .list .yes _ => false
 | _ => true
def evAdopt (c : Cx) (ops : Array Oper) (k : Nat) (s : St) : Option St :=
 match ops[k]?, ops[k + 1]?, ops[k + 2]? with
 | some ⟨some tB, .build T parts, y1, p1, a1, none⟩, some ⟨some tC, .alloc T1, y2, p2, a2, none⟩, some ⟨none, .store T2 (.tmp u1) (.tmp u2), y3, p3, a3, none⟩ =>
  match parts.toList.getLast? with
  | some (i, .tmp tA) =>
   match fieldOff c.P T i, look s.1 tA, tzero c.P T1, evPure c.P c.hint.vars s (.build T parts) with
   | some (off, et), .list .yes r, some z, some (.agg ds) =>
    if (T1 = T ∧ T2 = T ∧ u1 = tC ∧ u2 = tB ∧ tA ≠ tB ∧ tA ≠ tC ∧ tB ≠ tC) ∧ (tsize c.P et = 1 ∧ off < ds.length ∧ ds.length = tsize c.P T ∧ z.length = tsize c.P T ∧ (c.P.info? T).isSome) ∧
      (ds.all stoOk && (ds.all notYes && (bldS ((ds.map own1).set off (.list .yes r)) && ((z.map ofC1).all stoOk && bldT T1 (z.map ofC1))))) = true ∧ c.base ≤ s.2.length ∧ c.lo ≤ s.2.length ∧ k + 3 = ops.size then
     some (untag (ins tA (.list .no r) (ins tC (.ptr s.2.length 0) (ins tB (.agg ds) s.1))), s.2 ++ [.cells ((ds.map own1).set off (.list .yes r))])
    else none
   | _, _, _, _ => none
  | _ => none
 | _, _, _ => none
def evLine (c : Cx) (ops : Array Oper) (s : St) : Option Nat → Option St
 | none => evOps c ops ops.toList s
 | some k => match evOps c ops (ops.toList.take k) s with
  | some s1 => evAdopt c ops k s1
  | none => none
noncomputable def evRegion (c : Cx) (id : Nat) (ops : Array Oper) (draw : Bool) (s : St) : Option St :=
 match (if draw then evDraw c id ops s else evLine c ops s (c.hint.tail id)) with
 | some s' => keeps c.base (once (c.hint.mix id) draw (c.hint.keep id)) (untag (lives (c.hint.live id) s'.1), s'.2)
 | none => none
noncomputable def evLate (c : Cx) (k : Nat) (ops : Array Oper) (id' : Nat) (ops' : Array Oper) (s : St) : Option St :=
 match evHeads c ops (ops.toList.take k) s with
 | some s1 => evLate1 c.P c.lo c.base (c.hint.live id') (c.hint.keep id') k ops ops' s1
 | none => none
def lateOf (P : Program) (hint : Hint) : Code → Option (Nat × Array Oper × Nat × Array Oper)
 | .seq (.region id ops true) (.region id' ops' false) => match hint.late id, hint.mix id with
  | some _, none => some (tailAt P hint id ops, ops, id', ops')
  | _, _ => none
 | _ => none
inductive Ex where
 | normal
 | exit (id : Nat)
 | ret
 deriving DecidableEq, Inhabited
abbrev LoopF := (St → Option (Ex × St)) → St → Option (Ex × St)
noncomputable def exeq : Option (Ex × St) → Option (Ex × St) → Bool
 | some (e, g, h), some (f, q, k) => decide (e = f) && (enveq g q && heq h k)
 | none, none => true
 | _, _ => false
theorem exeq_eq {x y : Option (Ex × St)} (h : exeq x y = true) : x = y := by
 unfold exeq at h
 split at h
 ·simp only [Bool.and_eq_true, decide_eq_true_eq] at h
  rw [h.1, enveq_eq _ _ h.2.1, heq_eq _ _ h.2.2]
 ·rfl
 ·cases h
theorem exeq_refl (x : Option (Ex × St)) : exeq x x = true := by
 cases x with
 | none => rfl
 | some p => obtain ⟨e, g, h⟩ := p; simp only [exeq, enveq_refl, heq_refl, Bool.and_self, decide_true]
noncomputable def sameX (x y : Option (Ex × St)) : Option (Ex × St) := if exeq x y = true then x else none
noncomputable def evCode (c : Cx) (lp : LoopF) : Code → St → Option (Ex × St)
 | .skip, s => some (.normal, s)
 | .region id ops draw, s => (evRegion c id ops draw s).map fun s' => (.normal, s')
 | .seq a b, s =>
  match evCode c lp a s with
  | some (.normal, s') => evCode c lp b s'
  | r => r
 | .cond x a b, s =>
  match opd s.1 x with
  | .v (.bool t) => if t then evCode c lp a s else evCode c lp b s
  | .any => sameX (match lateOf c.P c.hint a with | some (k, ops, id', ops') => (evLate c k ops id' ops' s).map fun s' => (Ex.normal, s') | none => evCode c lp a s) (evCode c lp b s)
  | _ => none
 | .block id a, s =>
  match evCode c lp a s with
  | some (.exit j, s') => if j = id then some (.normal, s') else some (.exit j, s')
  | r => r
 | .loop a, s => lp (evCode c lp a) s
 | .exit id, s => some (.exit id, s)
 | .scope a, s => evCode c lp a s
 | .label _, s => some (.normal, s)
 | .ret, s => some (.ret, s)
 | _, _ => none
def loopN : Nat → LoopF
 | 0, _, _ => none
 | n + 1, f, s =>
  match f s with
  | some (.normal, s') => loopN n f s'
  | r => r
def evRes (P : Program) (s : St) : ResultVar → Option V
 | .tmp t => match look s.1 t with
  | .tup _ => none
  | x => some (fzs x)
 | .cell a t =>
  match look s.1 a with
  | .ptr b o => (loadV P s.2 t (.ptr b o)).map fzs
  | _ => none
def evResults (P : Program) (s : St) : List ResultVar → Option (List V)
 | [] => some []
 | r :: l => match evRes P s r, evResults P s l with
  | some x, some xs => some (x :: xs)
  | _, _ => none
def evResR (P : Program) (s : St) : ResultVar → Option V
 | .tmp t => match look s.1 t with
  | .tup _ => none
  | x => some (cps x)
 | .cell a t =>
  match look s.1 a with
  | .ptr b o => if ttag P t = some true then loadV P s.2 t (.ptr b o) else none
  | _ => none
def evResultsR (P : Program) (s : St) : List ResultVar → Option (List V)
 | [] => some []
 | r :: l => match evResR P s r, evResultsR P s l with
  | some x, some xs => some (x :: xs)
  | _, _ => none
def resV : List V → V
 | [x] => x
 | l => .tup l
def args0 (args : List V) : Env := args.zipIdx.map fun p => (p.2, p.1)
def bare : V → Bool
 | .list .no _ => true
 | .list _ _ => false
 | _ => true
def finish (P : Program) (fn : Func) (base ret : Nat) (rawr : Bool) (s : St) : Option (V × Heap) :=
 match (if rawr then evResultsR P s fn.results.toList else evResults P s fn.results.toList) with
 | some vs => if okr (base + ret) (resV vs) && (((s.2.drop base).take ret).all (okO (base + ret)) && (ret == 0 || decide (base + ret ≤ s.2.length))) then some (resV vs, s.2.take (base + ret)) else none
 | none => none
noncomputable def evBody (P : Program) (hints : Nat → Hint) (call : CallF) (lp : LoopF) (lo f : Nat) (args : List V) (h : Heap) : Option (V × Heap) :=
 match P.funcs[f]? with
 | some fn =>
  match fn.body with
  | some b =>
   if codeOk P (hints f) fn.ntmps b && decide (args.length ≤ fn.ntmps) && args.all bare && fn.name != "runtime.NumGoroutine" then
    match evCode ⟨P, call, lo, h.length, hints f⟩ lp b (args0 args, h) with
    | some (.exit _, _) => none
    | some (_, s) => finish P fn h.length (hints f).ret (hints f).rawr s
    | none => none
   else none
  | none => none
 | none => none
noncomputable def evFun (P : Program) (hints : Nat → Hint) (prim : Nat → Option (Nat → List V → Heap → Option (V × Heap))) : Nat → CallF
 | 0 => fun _ _ _ _ => none
 | n + 1 => fun lo f args h =>
  match prim f with
  | some p => p lo args h
  | none => evBody P hints (evFun P hints prim n) (loopN n) lo f args h
end Go.Lift
end

section
namespace Go.Lift
def R2 {α β : Type} (R : α -> β -> Prop) (l : List α) (m : List β) : Prop :=
 l.length = m.length /\ ∀ (i : Nat) x y, l[i]? = some x -> m[i]? = some y -> R x y
theorem R2.mono {α β : Type} {R S : α -> β -> Prop} {l : List α} {m : List β} (h : R2 R l m) (hs : ∀ x y, R x y -> S x y) : R2 S l m :=
 ⟨h.1, fun i x y hx hy => hs x y (h.2 i x y hx hy)⟩
theorem R2.nil {α β : Type} {R : α -> β -> Prop} : R2 R ([] : List α) ([] : List β) := ⟨rfl, fun i x y hx _ => by simp at hx⟩
theorem R2.cons {α β : Type} {R : α -> β -> Prop} {x : α} {y : β} {l : List α} {m : List β} (h : R x y) (hs : R2 R l m) : R2 R (x :: l) (y :: m) :=
 ⟨by simp [hs.1], fun i u v hu hv => by
  cases i with
  | zero => simp at hu hv; subst hu; subst hv; exact h
  | succ i => exact hs.2 i u v (by simpa using hu) (by simpa using hv)⟩
theorem R2.head {α β : Type} {R : α -> β -> Prop} {x : α} {y : β} {l : List α} {m : List β} (h : R2 R (x :: l) (y :: m)) : R x y :=
 h.2 0 x y rfl rfl
theorem R2.tail {α β : Type} {R : α -> β -> Prop} {x : α} {y : β} {l : List α} {m : List β} (h : R2 R (x :: l) (y :: m)) : R2 R l m :=
 ⟨by simpa using h.1, fun i u v hu hv => h.2 (i + 1) u v (by simpa using hu) (by simpa using hv)⟩
theorem R2.get {α β : Type} {R : α -> β -> Prop} {l : List α} {m : List β} (h : R2 R l m) {i : Nat} {x : α} (hx : l[i]? = some x) : ∃ y, m[i]? = some y /\ R x y := by
 have hi : i < l.length := (List.getElem?_eq_some_iff.1 hx).1
 have hm : i < m.length := by rw [<- h.1]; exact hi
 exact ⟨m[i], List.getElem?_eq_getElem hm, h.2 i x _ hx (List.getElem?_eq_getElem hm)⟩
theorem R2.take {α β : Type} {R : α -> β -> Prop} {l : List α} {m : List β} (h : R2 R l m) (n : Nat) : R2 R (l.take n) (m.take n) :=
 ⟨by simp [h.1], fun i x y hx hy => by
  rw [List.getElem?_take] at hx hy
  split at hx
  ·exact h.2 i x y hx (by simpa [*] using hy)
  ·cases hx⟩
theorem R2.drop {α β : Type} {R : α -> β -> Prop} {l : List α} {m : List β} (h : R2 R l m) (n : Nat) : R2 R (l.drop n) (m.drop n) :=
 ⟨by simp [h.1], fun i x y hx hy => by
  rw [List.getElem?_drop] at hx hy
  exact h.2 _ x y hx hy⟩
theorem R2.append {α β : Type} {R : α -> β -> Prop} {l l' : List α} {m m' : List β} (h : R2 R l m) (h' : R2 R l' m') : R2 R (l ++ l') (m ++ m') :=
 ⟨by simp [h.1, h'.1], fun i x y hx hy => by
  rw [List.getElem?_append] at hx hy
  rw [h.1] at hx
  split at hx
  ·rename_i hi; rw [if_pos hi] at hy; exact h.2 i x y hx hy
  ·rename_i hi; rw [if_neg hi] at hy; exact h'.2 _ x y hx hy⟩
theorem R2.map {α β α' β' : Type} {R : α -> β -> Prop} {S : α' -> β' -> Prop} {f : α -> α'} {g : β -> β'} {l : List α} {m : List β} (h : R2 R l m) (hs : ∀ x y, R x y -> S (f x) (g y)) : R2 S (l.map f) (m.map g) :=
 ⟨by simp [h.1], fun i x y hx hy => by
  simp only [List.getElem?_map, Option.map_eq_some_iff] at hx hy
  obtain ⟨x', hx', rfl⟩ := hx
  obtain ⟨y', hy', rfl⟩ := hy
  exact hs _ _ (h.2 i x' y' hx' hy')⟩
theorem R2.set {α β : Type} {R : α -> β -> Prop} {l : List α} {m : List β} (h : R2 R l m) {x : α} {y : β} (n : Nat) (hxy : R x y) : R2 R (l.set n x) (m.set n y) :=
 ⟨by simp [h.1], fun i u v hu hv => by
  rw [List.getElem?_set] at hu hv
  by_cases hi : n = i
  ·subst hi
   by_cases hl : n < l.length
   ·have hl' : n < m.length := by rw [<- h.1]; exact hl
    simp [hl] at hu; simp [hl'] at hv; subst hu; subst hv; exact hxy
   ·simp [hl] at hu
  ·simp [hi] at hu hv; exact h.2 i u v hu hv⟩
abbrev Cl := Nat -> Nat
inductive VP (c : Cl) (w : World) : V -> Value -> Prop
 | v (x : Value) (h : x.oneCell' = true) : VP c w (.v x) x
 | nil : VP c w .nil (.slice none 0 0)
 | empty (k : Own) (ao : Option Addr) (cap : Nat) : VP c w (.list k []) (.slice ao 0 cap)
 | list (k : Own) (rows : List (List V)) (a : Addr) (cap sz : Nat) (xs : Nat -> Nat -> Value)
   (hne : rows ≠ []) (hsz : 0 < sz) (hspot : a.spot = none) (hcap : rows.length <= cap) (hcl : a.off + rows.length * sz <= c a.block)
   (hrow : ∀ (i : Nat) (row : List V), rows[i]? = some row -> row.length = sz)
   (hcell : ∀ (i j : Nat) (row : List V) (v : V), rows[i]? = some row -> row[j]? = some v -> w.cell? ⟨a.block, a.off + i * sz + j, none⟩ = some (xs i j))
   (hrec : ∀ (i j : Nat) (row : List V) (v : V), rows[i]? = some row -> row[j]? = some v -> VP c w v (xs i j)) : VP c w (.list k rows) (.slice (some a) rows.length cap)
def Shp (w w' : World) (b : Nat) : Prop := ∀ arr e f, w.heap[b]? = some (.cells arr e f) -> ∃ arr' f', w'.heap[b]? = some (.cells arr' e f') /\ arr'.size = arr.size /\ ∀ j, j < arr.size -> w.frozen? ⟨b, j, none⟩ = false -> w'.frozen? ⟨b, j, none⟩ = false
theorem Shp.refl (w : World) (b : Nat) : Shp w w b := fun arr e f h => ⟨arr, f, h, rfl, fun _ _ h => h⟩
theorem Shp.trans {w w' w'' : World} {b : Nat} (h : Shp w w' b) (h' : Shp w' w'' b) : Shp w w'' b := fun arr e f hb => by
 obtain ⟨arr', f', k1, k2, k3⟩ := h arr e f hb
 obtain ⟨arr'', f'', q1, q2, q3⟩ := h' arr' e f' k1
 exact ⟨arr'', f'', q1, q2.trans k2, fun j hj hf => q3 j (by rw [k2]; exact hj) (k3 j hj hf)⟩
theorem Shp.same {w w' : World} {b : Nat} (h : w'.heap[b]? = w.heap[b]?) : Shp w w' b := fun arr e f hb => ⟨arr, f, by rw [h]; exact hb, rfl, fun j _ hf => by
 have : w'.frozen? ⟨b, j, none⟩ = w.frozen? ⟨b, j, none⟩ := by simp [World.frozen?, h]
 rw [this]; exact hf⟩
theorem Shp.none {w w' : World} {b : Nat} (h : w.heap.size <= b) : Shp w w' b := fun arr e f hb => by
 have := (Array.getElem?_eq_some_iff.1 hb).1
 omega
theorem Shp.old {w w' : World} (h : ∀ b, b < w.heap.size -> w'.heap[b]? = w.heap[b]?) (b : Nat) : Shp w w' b := by
 rcases Nat.lt_or_ge b w.heap.size with hb | hb
 ·exact Shp.same (h b hb)
 ·exact Shp.none hb
structure Ext (c : Cl) (w : World) (c' : Cl) (w' : World) : Prop where
 cl : ∀ b, c b <= c' b
 cell : ∀ b off, off < c b -> w'.cell? ⟨b, off, none⟩ = w.cell? ⟨b, off, none⟩
 shp : ∀ b, c' b = 0 -> Shp w w' b
theorem Ext.refl (c : Cl) (w : World) : Ext c w c w := ⟨fun _ => Nat.le_refl _, fun _ _ _ => rfl, fun b _ => Shp.refl w b⟩
theorem Ext.trans {c c' c'' : Cl} {w w' w'' : World} (h : Ext c w c' w') (h' : Ext c' w' c'' w'') : Ext c w c'' w'' :=
 ⟨fun b => Nat.le_trans (h.cl b) (h'.cl b), fun b o ho => (h'.cell b o (Nat.lt_of_lt_of_le ho (h.cl b))).trans (h.cell b o ho), fun b hb => (h.shp b (by have := h'.cl b; omega)).trans (h'.shp b hb)⟩
theorem VP.mono {c c' : Cl} {w w' : World} {v : V} {x : Value} (h : VP c w v x) (e : Ext c w c' w') : VP c' w' v x := by
 induction h with
 | v x h => exact .v x h
 | nil => exact .nil
 | empty k ao cap => exact .empty k ao cap
 | list k rows a cap sz xs hne hsz hspot hcap hcl hrow hcell hrec ih =>
  refine .list k rows a cap sz xs hne hsz hspot hcap (Nat.le_trans hcl (e.cl _)) hrow ?_ ih
  intro i j row v hi hj
  rw [e.cell]
  ·exact hcell i j row v hi hj
  ·have h1 : j < row.length := (List.getElem?_eq_some_iff.1 hj).1
   have h2 : i < rows.length := (List.getElem?_eq_some_iff.1 hi).1
   rw [hrow i row hi] at h1
   have h3 : (i + 1) * sz <= rows.length * sz := Nat.mul_le_mul_right _ h2
   rw [Nat.add_mul] at h3
   omega
theorem VP.flag {c : Cl} {w : World} {k : Own} {r : List (List V)} {x : Value} (h : VP c w (.list k r) x) (k' : Own) : VP c w (.list k' r) x := by
 cases h with
 | empty k ao cap => exact .empty k' ao cap
 | list k rows a cap sz xs hne hsz hspot hcap hcl hrow hcell hrec => exact .list k' _ a cap sz xs hne hsz hspot hcap hcl hrow hcell hrec
theorem VP.oneCell {c : Cl} {w : World} {v : V} {x : Value} (h : VP c w v x) : x.oneCell' = true := by
 cases h with
 | v x h => exact h
 | nil => rfl
 | empty => rfl
 | list => rfl
def ROs (c : Cl) (w : World) (a : Addr) (cs : List V) : Prop :=
 a.off + cs.length <= c a.block /\ ∀ (j : Nat) v, cs[j]? = some v -> ∃ x, w.cell? ⟨a.block, a.off + j, none⟩ = some x /\ VP c w v x
theorem ROs.mono {c c' : Cl} {w w' : World} {a : Addr} {cs : List V} (h : ROs c w a cs) (e : Ext c w c' w') : ROs c' w' a cs :=
 ⟨Nat.le_trans h.1 (e.cl _), fun j v hj => by
  obtain ⟨x, hx, hv⟩ := h.2 j v hj
  have hl : j < cs.length := (List.getElem?_eq_some_iff.1 hj).1
  exact ⟨x, by rw [e.cell _ _ (by have := h.1; omega)]; exact hx, hv.mono e⟩⟩
theorem headB_mem {u : V} {cs : List V} (h : u ∈ headB cs) : u ∈ cs := by
 unfold headB at h
 split at h
 ·exact List.mem_cons_of_mem _ h
 ·cases h
theorem tailB_mem {u : V} {cs : List V} (h : u ∈ tailB cs) : u ∈ cs := by
 unfold tailB at h
 split at h
 ·cases h
 ·exact h
theorem splitB_mem {u : V} {cs : List V} (h : u ∈ cs) : u = .undef \/ u ∈ headB cs \/ u ∈ tailB cs := by
 unfold headB tailB
 split
 ·rcases List.mem_cons.1 h with h | h
  ·exact .inl h
  ·exact .inr (.inl h)
 ·exact .inr (.inr h)
theorem tailB_id {cs : List V} (h : ∀ u ∈ cs, isU u = false) : headB cs = [] /\ tailB cs = cs := by
 unfold headB tailB
 split
 ·have := h .undef (by simp)
  cases this
 ·exact ⟨rfl, rfl⟩
def VR0 (m : List Nat) (c : Cl) (w : World) : V -> Value -> Prop
 | .v x, y => y = x
 | .nil, y => y = .slice none 0 0
 | .list k r, y => VP c w (.list k r) y
 | .ptr b o, y => ∃ g, m[b]? = some g /\ y = .pointer (some ⟨g, o, none⟩)
 | .rp cs, y => ∃ a : Addr, y = .pointer (some a) /\ a.spot = none /\ ROs c w a cs
 | .buf b o n, y => ∃ g cap, m[b]? = some g /\ y = .slice (some ⟨g, o, none⟩) n cap /\ n <= cap
 | .stk b n sz, y => ∃ g cap, m[b]? = some g /\ y = .slice (some ⟨g, 0, none⟩) n cap /\ n <= cap /\ cap <= maxLen /\ (c g = 0 -> ∃ arr e f, w.heap[g]? = some (.cells arr e f) /\ arr.size = cap * sz /\ ∀ j, j < arr.size -> w.frozen? ⟨g, j, none⟩ = false)
 | .mp b, y => ∃ g, m[b]? = some g /\ y = .map (some g)
 | .undef, _ => True
 | .any, y => ∃ b, y = .bool b
 | .agg _, _ => False
 | .tup _, _ => False
 | .fn _ _, _ => False
def VR1 (m : List Nat) (c : Cl) (w : World) : V -> Value -> Prop
 | .fn f cs, y => ∃ fs xs : Array Value, y = .func (.func f) fs xs /\ R2 (VR0 m c w) (headB cs) fs.toList /\ R2 (VR0 m c w) (tailB cs) xs.toList
 | x, y => VR0 m c w x y
def VR (m : List Nat) (c : Cl) (w : World) : V -> Value -> Prop
 | .agg cs, y => ∃ xs : Array Value, y = .agg xs /\ R2 (VR1 m c w) cs xs.toList
 | x, y => VR1 m c w x y
def VRr (m : List Nat) (c : Cl) (w : World) : V -> Value -> Prop
 | .tup vs, y => ∃ xs : Array Value, y = .tuple xs /\ R2 (VR m c w) vs xs.toList
 | x, y => VR m c w x y
def Pre (m m' : List Nat) : Prop := ∀ (i : Nat) b, m[i]? = some b -> m'[i]? = some b
theorem Pre.refl (m : List Nat) : Pre m m := fun _ _ h => h
theorem Pre.trans {m m' m'' : List Nat} (h : Pre m m') (h' : Pre m' m'') : Pre m m'' := fun i b hb => h' i b (h i b hb)
theorem Pre.append (m l : List Nat) : Pre m (m ++ l) := fun i b h => by
 have hi := (List.getElem?_eq_some_iff.1 h).1
 rw [List.getElem?_append_left hi]; exact h
section mono
variable {m m' : List Nat} {c c' : Cl} {w w' : World}
theorem VR0.mono (hm : Pre m m') (e : Ext c w c' w') {v : V} {x : Value} (h : VR0 m c w v x) : VR0 m' c' w' v x := by
 cases v with
 | v y => exact h
 | nil => exact h
 | list k r => exact VP.mono h e
 | ptr b o => obtain ⟨g, hg, rfl⟩ := h; exact ⟨g, hm _ _ hg, rfl⟩
 | mp b => obtain ⟨g, hg, rfl⟩ := h; exact ⟨g, hm _ _ hg, rfl⟩
 | rp cs => obtain ⟨a, rfl, hs, hr⟩ := h; exact ⟨a, rfl, hs, hr.mono e⟩
 | buf b o n => obtain ⟨g, cap, hg, rfl, hc⟩ := h; exact ⟨g, cap, hm _ _ hg, rfl, hc⟩
 | stk b n sz =>
  obtain ⟨g, cap, hg, rfl, hc, hmx, hsh⟩ := h
  refine ⟨g, cap, hm _ _ hg, rfl, hc, hmx, fun hcz => ?_⟩
  obtain ⟨arr, e', f, h1, h2, h3⟩ := hsh (by have := e.cl g; omega)
  obtain ⟨arr', f', k1, k2, k3⟩ := e.shp g hcz arr e' f h1
  exact ⟨arr', e', f', k1, k2.trans h2, fun j hj => k3 j (by rw [<- k2]; exact hj) (h3 j (by rw [<- k2]; exact hj))⟩
 | undef => trivial
 | any => trivial
 | agg cs => exact h.elim
 | tup cs => exact h.elim
 | fn f cs => exact h.elim
theorem VR1.mono (hm : Pre m m') (e : Ext c w c' w') {v : V} {x : Value} (h : VR1 m c w v x) : VR1 m' c' w' v x := by
 cases v with
 | fn f cs => obtain ⟨fs, xs, rfl, hr1, hr⟩ := h; exact ⟨fs, xs, rfl, hr1.mono fun _ _ => VR0.mono hm e, hr.mono fun _ _ => VR0.mono hm e⟩
 | v y => exact VR0.mono (v := (.v y)) (x := x) hm e h
 | nil => exact VR0.mono (v := .nil) (x := x) hm e h
 | list k r => exact VR0.mono (v := (.list k r)) (x := x) hm e h
 | ptr b o => exact VR0.mono (v := (.ptr b o)) (x := x) hm e h
 | mp b => exact VR0.mono (v := (.mp b)) (x := x) hm e h
 | rp cs => exact VR0.mono (v := (.rp cs)) (x := x) hm e h
 | buf b o n => exact VR0.mono (v := (.buf b o n)) (x := x) hm e h
 | stk b n sz => exact VR0.mono (v := (.stk b n sz)) (x := x) hm e h
 | agg cs => exact VR0.mono (v := (.agg cs)) (x := x) hm e h
 | tup vs => exact VR0.mono (v := (.tup vs)) (x := x) hm e h
 | undef => exact VR0.mono (v := .undef) (x := x) hm e h
 | any => exact VR0.mono (v := .any) (x := x) hm e h
theorem VR.mono (hm : Pre m m') (e : Ext c w c' w') {v : V} {x : Value} (h : VR m c w v x) : VR m' c' w' v x := by
 cases v with
 | agg cs => obtain ⟨xs, rfl, hr⟩ := h; exact ⟨xs, rfl, hr.mono fun _ _ => VR1.mono hm e⟩
 | v y => exact VR1.mono (v := (.v y)) (x := x) hm e h
 | nil => exact VR1.mono (v := .nil) (x := x) hm e h
 | list k r => exact VR1.mono (v := (.list k r)) (x := x) hm e h
 | ptr b o => exact VR1.mono (v := (.ptr b o)) (x := x) hm e h
 | mp b => exact VR1.mono (v := (.mp b)) (x := x) hm e h
 | rp cs => exact VR1.mono (v := (.rp cs)) (x := x) hm e h
 | buf b o n => exact VR1.mono (v := (.buf b o n)) (x := x) hm e h
 | stk b n sz => exact VR1.mono (v := (.stk b n sz)) (x := x) hm e h
 | tup vs => exact VR1.mono (v := (.tup vs)) (x := x) hm e h
 | fn f cs => exact VR1.mono (v := (.fn f cs)) (x := x) hm e h
 | undef => exact VR1.mono (v := .undef) (x := x) hm e h
 | any => exact VR1.mono (v := .any) (x := x) hm e h
theorem VRr.mono (hm : Pre m m') (e : Ext c w c' w') {v : V} {x : Value} (h : VRr m c w v x) : VRr m' c' w' v x := by
 cases v with
 | tup cs => obtain ⟨xs, rfl, hr⟩ := h; exact ⟨xs, rfl, hr.mono fun _ _ => VR.mono hm e⟩
 | v y => exact VR.mono (v := (.v y)) hm e h
 | nil => exact VR.mono (v := .nil) hm e h
 | list k r => exact VR.mono (v := (.list k r)) hm e h
 | ptr b o => exact VR.mono (v := (.ptr b o)) hm e h
 | mp b => exact VR.mono (v := (.mp b)) hm e h
 | rp cs => exact VR.mono (v := (.rp cs)) hm e h
 | buf b o n => exact VR.mono (v := (.buf b o n)) hm e h
 | stk b n sz => exact VR.mono (v := (.stk b n sz)) hm e h
 | agg cs => exact VR.mono (v := (.agg cs)) hm e h
 | fn f cs => exact VR.mono (v := (.fn f cs)) hm e h
 | undef => exact VR.mono (v := .undef) (x := x) hm e h
 | any => exact VR.mono (v := .any) (x := x) hm e h
end mono
section flags
variable {m : List Nat} {c : Cl} {w : World} {v : V} {x : Value}
theorem VR0.cp (h : VR0 m c w v x) : VR0 m c w (cp v) x := by
 cases v with
 | list k r => exact VP.flag h .no
 | _ => exact h
theorem VR1.cp (h : VR1 m c w v x) : VR1 m c w (cp v) x := by
 cases v with
 | list k r => exact VP.flag h .no
 | _ => exact h
theorem VR1.fz (h : VR1 m c w v x) : VR1 m c w (fz v) x := by
 cases v with
 | list k r => exact VP.flag h .no
 | nil => have h' : x = .slice none 0 0 := h; subst h'; exact VP.empty .no none 0
 | _ => exact h
theorem VRr.cps (h : VRr m c w v x) : VRr m c w (cps v) x := by
 cases v with
 | list k r => exact VP.flag h .no
 | agg cs => obtain ⟨xs, rfl, hr⟩ := h; exact ⟨xs, rfl, by simpa using hr.map (g := id) fun _ _ => VR1.cp⟩
 | _ => exact h
theorem VR.cps (h : VR m c w v x) : VR m c w (cps v) x := by
 cases v with
 | list k r => exact VP.flag h .no
 | agg cs => obtain ⟨xs, rfl, hr⟩ := h; exact ⟨xs, rfl, by simpa using hr.map (g := id) fun _ _ => VR1.cp⟩
 | _ => exact h
theorem VR.fzs (h : VR m c w v x) : VR m c w (fzs v) x := by
 cases v with
 | list k r => exact VP.flag h .no
 | nil => have h' : x = .slice none 0 0 := h; subst h'; exact VP.empty .no none 0
 | agg cs => obtain ⟨xs, rfl, hr⟩ := h; exact ⟨xs, rfl, by simpa using hr.map (g := id) fun _ _ => VR1.fz⟩
 | _ => exact h
theorem VRr.fzs (h : VRr m c w v x) : VRr m c w (fzs v) x := by
 cases v with
 | tup vs => exact h
 | list k r => exact VP.flag h .no
 | nil => have h' : x = .slice none 0 0 := h; subst h'; exact VP.empty .no none 0
 | agg cs => obtain ⟨xs, rfl, hr⟩ := h; exact ⟨xs, rfl, by simpa using hr.map (g := id) fun _ _ => VR1.fz⟩
 | _ => exact h
end flags
/- fewer objects: what reaches none of those that go -/
section less
variable {m : List Nat} {c : Cl} {w : World} {n : Nat}
theorem getElem?_take_lt {m : List Nat} {n b g : Nat} (h : m[b]? = some g) (hb : b < n) : (m.take n)[b]? = some g := by
 rw [List.getElem?_take, if_pos hb]; exact h
theorem VR0.less {v : V} {x : Value} (h : VR0 m c w v x) (hk : okc n v = true \/ v = .undef) : VR0 (m.take n) c w v x := by
 cases v with
 | ptr b o => obtain ⟨g, hg, rfl⟩ := h; exact ⟨g, getElem?_take_lt hg (by simpa [okc] using hk), rfl⟩
 | mp b => obtain ⟨g, hg, rfl⟩ := h; exact ⟨g, getElem?_take_lt hg (by simpa [okc] using hk), rfl⟩
 | buf b o k => obtain ⟨g, cap, hg, rfl, hc⟩ := h; exact ⟨g, cap, getElem?_take_lt hg (by simpa [okc] using hk), rfl, hc⟩
 | stk b k sz => obtain ⟨g, cap, hg, rfl, hc⟩ := h; exact ⟨g, cap, getElem?_take_lt hg (by simpa [okc] using hk), rfl, hc⟩
 | _ => exact h
theorem VR1.less {v : V} {x : Value} (h : VR1 m c w v x) (hk : okc n v = true \/ v = .undef) : VR1 (m.take n) c w v x := by
 cases v with
 | fn f cs => rcases hk with hk | hk <;> simp [okc] at hk
 | v y => exact VR0.less (m := m) (c := c) (w := w) (n := n) (v := (.v y)) (x := x) h hk
 | nil => exact VR0.less (m := m) (c := c) (w := w) (n := n) (v := .nil) (x := x) h hk
 | list k r => exact VR0.less (m := m) (c := c) (w := w) (n := n) (v := (.list k r)) (x := x) h hk
 | ptr b o => exact VR0.less (m := m) (c := c) (w := w) (n := n) (v := (.ptr b o)) (x := x) h hk
 | mp b => exact VR0.less (m := m) (c := c) (w := w) (n := n) (v := (.mp b)) (x := x) h hk
 | rp cs => exact VR0.less (m := m) (c := c) (w := w) (n := n) (v := (.rp cs)) (x := x) h hk
 | buf b o k => exact VR0.less (m := m) (c := c) (w := w) (n := n) (v := (.buf b o k)) (x := x) h hk
 | stk b k sz => exact VR0.less (m := m) (c := c) (w := w) (n := n) (v := (.stk b k sz)) (x := x) h hk
 | agg cs => exact VR0.less (m := m) (c := c) (w := w) (n := n) (v := (.agg cs)) (x := x) h hk
 | tup vs => exact VR0.less (m := m) (c := c) (w := w) (n := n) (v := (.tup vs)) (x := x) h hk
 | undef => exact VR0.less (m := m) (c := c) (w := w) (n := n) (v := .undef) (x := x) h hk
 | any => exact VR0.less (m := m) (c := c) (w := w) (n := n) (v := .any) (x := x) h hk
theorem VR.less {v : V} {x : Value} (h : VR m c w v x) (hk : okv n v = true) : VR (m.take n) c w v x := by
 cases v with
 | agg cs =>
  obtain ⟨xs, rfl, hr⟩ := h
  simp only [okv, List.all_eq_true] at hk
  exact ⟨xs, rfl, hr.1, fun i u y hu hy => (hr.2 i u y hu hy).less (.inl (hk u (List.mem_of_getElem? hu)))⟩
 | fn f cs =>
  obtain ⟨fs, xs, rfl, hr1, hr⟩ := h
  simp only [okv, List.all_eq_true] at hk
  exact ⟨fs, xs, rfl, ⟨hr1.1, fun i u y hu hy => (hr1.2 i u y hu hy).less (.inl (hk u (headB_mem (List.mem_of_getElem? hu))))⟩, ⟨hr.1, fun i u y hu hy => (hr.2 i u y hu hy).less (.inl (hk u (tailB_mem (List.mem_of_getElem? hu))))⟩⟩
 | undef => trivial
 | any => trivial
 | v y => exact VR1.less (m := m) (c := c) (w := w) (n := n) (v := (.v y)) (x := x) h (.inl (by exact hk))
 | nil => exact VR1.less (m := m) (c := c) (w := w) (n := n) (v := .nil) (x := x) h (.inl (by exact hk))
 | list k r => exact VR1.less (m := m) (c := c) (w := w) (n := n) (v := (.list k r)) (x := x) h (.inl (by exact hk))
 | ptr b o => exact VR1.less (m := m) (c := c) (w := w) (n := n) (v := (.ptr b o)) (x := x) h (.inl (by exact hk))
 | mp b => exact VR1.less (m := m) (c := c) (w := w) (n := n) (v := (.mp b)) (x := x) h (.inl (by exact hk))
 | rp cs => exact VR1.less (m := m) (c := c) (w := w) (n := n) (v := (.rp cs)) (x := x) h (.inl (by exact hk))
 | buf b o k => exact VR1.less (m := m) (c := c) (w := w) (n := n) (v := (.buf b o k)) (x := x) h (.inl (by exact hk))
 | stk b k sz => exact VR1.less (m := m) (c := c) (w := w) (n := n) (v := (.stk b k sz)) (x := x) h (.inl (by exact hk))
 | tup vs => exact VR1.less (m := m) (c := c) (w := w) (n := n) (v := (.tup vs)) (x := x) h (.inl (by exact hk))
theorem VRr.less {v : V} {x : Value} (h : VRr m c w v x) (hk : okr n v = true) : VRr (m.take n) c w v x := by
 cases v with
 | tup vs =>
  obtain ⟨xs, rfl, hr⟩ := h
  simp only [okr, List.all_eq_true] at hk
  exact ⟨xs, rfl, hr.1, fun i u y hu hy => (hr.2 i u y hu hy).less (hk u (List.mem_of_getElem? hu))⟩
 | v y => exact VR.less (m := m) (c := c) (w := w) (n := n) (v := (.v y)) (x := x) h hk
 | nil => exact VR.less (m := m) (c := c) (w := w) (n := n) (v := .nil) (x := x) h hk
 | list k r => exact VR.less (m := m) (c := c) (w := w) (n := n) (v := (.list k r)) (x := x) h hk
 | ptr b o => exact VR.less (m := m) (c := c) (w := w) (n := n) (v := (.ptr b o)) (x := x) h hk
 | mp b => exact VR.less (m := m) (c := c) (w := w) (n := n) (v := (.mp b)) (x := x) h hk
 | rp cs => exact VR.less (m := m) (c := c) (w := w) (n := n) (v := (.rp cs)) (x := x) h hk
 | buf b o k => exact VR.less (m := m) (c := c) (w := w) (n := n) (v := (.buf b o k)) (x := x) h hk
 | stk b k sz => exact VR.less (m := m) (c := c) (w := w) (n := n) (v := (.stk b k sz)) (x := x) h hk
 | agg cs => exact VR.less (m := m) (c := c) (w := w) (n := n) (v := (.agg cs)) (x := x) h hk
 | fn f cs => exact VR.less (m := m) (c := c) (w := w) (n := n) (v := (.fn f cs)) (x := x) h hk
 | undef => exact VR.less (m := m) (c := c) (w := w) (n := n) (v := .undef) (x := x) h hk
 | any => exact VR.less (m := m) (c := c) (w := w) (n := n) (v := .any) (x := x) h hk
end less
theorem VR.r {m : List Nat} {c : Cl} {w : World} {v : V} {x : Value} (h : VR m c w v x) : VRr m c w v x := by
 cases v with
 | tup cs => exact h.elim
 | _ => exact h
theorem VR1.r {m : List Nat} {c : Cl} {w : World} {v : V} {x : Value} (h : VR1 m c w v x) : VR m c w v x := by
 cases v with
 | agg cs => exact h.elim
 | _ => exact h
theorem VR0.r {m : List Nat} {c : Cl} {w : World} {v : V} {x : Value} (h : VR0 m c w v x) : VR1 m c w v x := by
 cases v with
 | fn f cs => exact h.elim
 | _ => exact h
theorem VR1_of_VP {m : List Nat} {c : Cl} {w : World} {v : V} {x : Value} (h : VP c w v x) : VR1 m c w v x := by
 cases h with
 | v x h => rfl
 | nil => rfl
 | empty => exact VP.empty _ _ _
 | list k rows a cap sz xs hne hsz hspot hcap hcl hrow hcell hrec => exact VP.list k rows a cap sz xs hne hsz hspot hcap hcl hrow hcell hrec
theorem VR1_ofC1 {m : List Nat} {c : Cl} {w : World} (x : Value) : VR1 m c w (ofC1 x) x := by
 unfold ofC1
 split
 ·rfl
 ·rename_i f a b
  split
  ·rename_i h
   have ha : a = #[] := Array.eq_empty_of_size_eq_zero h.1
   have hb : b = #[] := Array.eq_empty_of_size_eq_zero h.2
   subst ha; subst hb
   exact ⟨#[], #[], rfl, R2.nil, R2.nil⟩
  ·rfl
 ·rfl
theorem VR_ofC {m : List Nat} {c : Cl} {w : World} (x : Value) : VR m c w (ofC x) x := by
 unfold ofC
 split
 ·refine ⟨_, rfl, ?_⟩
  refine ⟨by simp, fun i u y hu hy => ?_⟩
  simp only [List.getElem?_map, Option.map_eq_some_iff] at hu
  obtain ⟨z, hz, rfl⟩ := hu
  rw [hy] at hz
  cases hz
  exact VR1_ofC1 _
 ·exact (VR1_ofC1 _).r
def ownBlk : Value -> Option Nat
 | .slice (some a) _ _ => some a.block
 | _ => none
variable [BTy]
def OwnB (m : List Nat) (c : Cl) (w : World) (r : List (List V)) (x : Value) : Prop :=
 (x = .slice none 0 0 /\ r = []) \/
 ∃ b cap cur e sz, x = .slice (some ⟨b, 0, none⟩) r.length cap /\ w.heap[b]? = some (.cells cur e (0, 0)) /\ r.length <= cap /\ cap <= maxLen /\ cur.size = cap * sz /\
  0 < sz /\ (∀ row ∈ r, row.length = sz) /\ c b = r.length * sz /\ b ∉ m /\ (r = [] -> cap = 0) /\ ∀ T, BTy.bb = some T -> isByteRow r = true -> e = T
inductive Loc where
 | slot (t : Nat)
 | cell (i j : Nat)
def At (m : List Nat) (w : World) (g : Env) (h : Heap) (a : Act) : Loc -> List (List V) -> Value -> Prop
 | .slot t, r, x => look g t = .list .yes r /\ x = a.tmps.getD t undef
 | .cell i j, r, x => ∃ cs b, cellsOfOb h i = some cs /\ cs[j]? = some (.list .yes r) /\ m[i]? = some b /\ w.cell? ⟨b, j, none⟩ = some x
def ObR (m : List Nat) (c : Cl) (w : World) : Ob -> Nat -> Prop
 | .cells cs, b => ∃ arr e f, w.heap[b]? = some (.cells arr e f) /\ cs.length <= arr.size /\ (∀ j, j < cs.length -> w.frozen? ⟨b, j, none⟩ = false) /\
   (∀ (j : Nat) v x, cs[j]? = some v -> arr[j]? = some x -> VR1 m c w v x /\ x.oneCell' = true) /\ ∀ T, btOf cs.length = some T -> isBld cs = true -> e = T /\ arr.size = cs.length
 | .iter s pos, b => w.heap[b]? = some (.stringIter s pos)
 | .tab es, b => ∃ arr clock, w.heap[b]? = some (.map arr clock) /\ arr.toList.map (fun e => (e.key, e.val)) = es
variable [GTab]
structure Core (vars : List Nat) (m : List Nat) (c : Cl) (w : World) (g : Env) (h : Heap) (a : Act) : Prop where
 wf1 : ∀ b, 0 < c b -> ∃ arr e f, w.heap[b]? = some (.cells arr e f) /\ c b <= arr.size
 wf2 : ∀ b ∈ m, c b = 0
 nd : m.Nodup
 len : m.length = h.length
 env : ∀ t, VRr m c w (look g t) (a.tmps.getD t undef)
 ob : ∀ (i : Nat) o b, h[i]? = some o -> m[i]? = some b -> ObR m c w o b
 own : ∀ l r x, At m w g h a l r x -> OwnB m c w r x
 uniq : ∀ l l' r r' x x' b, At m w g h a l r x -> At m w g h a l' r' x' -> ownBlk x = some b -> ownBlk x' = some b -> l = l'
 tagS : ∀ t u r, look g t = .list (.slot u) r -> u ∈ vars /\ look g u = .list .yes r /\ a.tmps.getD t undef = a.tmps.getD u undef
 tagC : ∀ t i j r, look g t = .list (.cell i j) r -> At m w g h a (.cell i j) r (a.tmps.getD t undef)
 gt : ∀ n cs, GTab.tab n = some cs -> ROs c w ⟨n, 0, none⟩ cs
structure Fr (lo : Nat) (ho : Nat -> Prop) (w0 : World) (m0 : List Nat) (c0 : Cl) (w : World) (m : List Nat) (c : Cl) : Prop where
 os : w.os = w0.os
 tape : w.tape = w0.tape
 output : w.output = w0.output
 size : w0.heap.size <= w.heap.size
 pre : Pre m0 m
 new : ∀ (i : Nat) b, m0.length <= i -> m[i]? = some b -> w0.heap.size <= b
 ext : Ext c0 w0 c w
 fix : ∀ b, b < w0.heap.size -> (∀ i : Nat, lo <= i -> m0[i]? ≠ some b) -> ¬ ho b -> w.heap[b]? = w0.heap[b]? /\ c b = c0 b
def upper (lo : Nat) : Loc -> Prop
 | .slot _ => True
 | .cell i _ => lo <= i
def Owned (lo : Nat) (ho : Nat -> Prop) (w0 : World) (m : List Nat) (w : World) (g : Env) (h : Heap) (a : Act) : Prop :=
 ∀ l r x b, At m w g h a l r x -> upper lo l -> ownBlk x = some b -> w0.heap.size <= b \/ ho b
theorem Fr.refl (lo : Nat) (ho : Nat -> Prop) (w : World) (m : List Nat) (c : Cl) : Fr lo ho w m c w m c :=
 ⟨rfl, rfl, rfl, Nat.le_refl _, Pre.refl m, fun i b hi hb => by
  have := (List.getElem?_eq_some_iff.1 hb).1; omega, Ext.refl c w, fun _ _ _ _ => ⟨rfl, rfl⟩⟩
end Go.Lift
end

section
namespace Go.Lift
variable [GTab] [BTy]
section
variable {P : Program} {vars : List Nat} {m : List Nat} {c : Cl} {w : World} {g : Env} {h : Heap} {a : Act}
theorem Core.opd (hC : Core vars m c w g h a) (x : Operand) : VRr m c w (opd g x) (a.eval x) := by
 cases x with
 | tmp t => exact hC.env t
 | const v => exact (VR_ofC v).r
 | global n =>
  simp only [Lift.opd]
  split
  ·rename_i cs hg
   exact ⟨_, rfl, rfl, hC.gt n cs hg⟩
  ·rfl
 | func f => exact ⟨#[], #[], rfl, R2.nil, R2.nil⟩
def TagOK (vars : List Nat) (m : List Nat) (w : World) (g : Env) (h : Heap) (a : Act) (v : V) (x : Value) : Prop :=
 (∀ r, v ≠ .list .yes r) /\ (∀ u r, v = .list (.slot u) r -> u ∈ vars /\ look g u = .list .yes r /\ x = a.tmps.getD u undef) /\
  (∀ i j r, v = .list (.cell i j) r -> At m w g h a (.cell i j) r x)
theorem TagOK.bare {v : V} {x : Value} (hb : bare v = true) : TagOK vars m w g h a v x := by
 refine ⟨fun r e => ?_, fun u r e => ?_, fun i j r e => ?_⟩ <;> subst e <;> simp [Lift.bare] at hb
theorem bare_cps (v : V) : bare (cps v) = true := by
 cases v <;> rfl
theorem bare_cp (v : V) : bare (cp v) = true := by
 cases v <;> rfl
theorem bare_ofC (y : Value) : bare (ofC y) = true := by
 unfold ofC
 split
 ·rfl
 ·unfold ofC1
  split
  ·rfl
  ·split <;> rfl
  ·rfl
theorem run_sizeOf {t : TypeId} {i : TypeInfo} (hi : P.info? t = some i) : (sizeOf t).run P w = .ok i.size w := by
 simp [sizeOf, typeInfo, hi]
def Yields (P : Program) (w : World) (a : Act) (o : Oper) (x : Value) : Prop := (execOp a.eval o).run P w = .ok (.value x) w
theorem yields_of {o : Oper} {s : Sem Value} {x : Value} (he : execOp a.eval o = (do pure (Next.value (<- s)))) (hs : s.run P w = .ok x w) : Yields P w a o x := by
 unfold Yields
 rw [he, Sem.run_bind, hs]
 rfl
theorem pure_move (hC : Core vars m c w g h a) {o : Oper} {x : Operand} (ho : o.op = .move x) {v : V} (hv : evPure P vars (g, h) (.move x) = some v) :
  ∃ y, Yields P w a o y /\ VRr m c w v y /\ TagOK vars m w g h a v y := by
 refine ⟨a.eval x, by simp [Yields, execOp, ho], ?_⟩
 cases x with
 | tmp t =>
  have he := hC.env t
  simp only [evPure] at hv
  split at hv
  ·rename_i r hr
   cases hv
   rw [hr] at he
   refine ⟨VP.flag he _, fun r' e => ?_, fun u r' e => ?_, fun i j r' e => ?_⟩
   ·split at e <;> cases e
   ·split at e
    ·cases e; rename_i hm; exact ⟨hm, hr, rfl⟩
    ·cases e
   ·split at e <;> cases e
  ·cases hv
   exact ⟨he.cps, TagOK.bare (bare_cps _)⟩
 | const y => simp only [evPure, Option.some.injEq] at hv; subst hv; exact ⟨(VR_ofC y).r, TagOK.bare (bare_ofC y)⟩
 | global n =>
  have h1 := hC.opd (.global n)
  simp only [evPure, Lift.opd] at hv
  simp only [Lift.opd] at h1
  cases hg : GTab.tab n with
  | none => rw [hg] at hv h1; cases hv; exact ⟨h1, TagOK.bare rfl⟩
  | some cs => rw [hg] at hv h1; cases hv; exact ⟨h1, TagOK.bare rfl⟩
 | func f => cases hv; exact ⟨⟨#[], #[], rfl, R2.nil, R2.nil⟩, TagOK.bare rfl⟩
theorem VRr.bool {x : Value} {b : Bool} (h : VRr m c w (.v (.bool b)) x) : x = .bool b := h
theorem VRr.v {x y : Value} (h : VRr m c w (.v y) x) : x = y := h
theorem pure_pick (hC : Core vars m c w g h a) {o : Oper} {k x y : Operand} (ho : o.op = .pick k x y) {v : V} (hv : evPure P vars (g, h) (.pick k x y) = some v) :
  ∃ y, Yields P w a o y /\ VRr m c w v y /\ TagOK vars m w g h a v y := by
 simp only [evPure] at hv
 split at hv
 ·rename_i b hb
  cases hv
  have hk := hC.opd k
  rw [hb] at hk
  have hk' : a.eval k = .bool b := hk
  refine ⟨if b then a.eval x else a.eval y, ?_, ?_, ?_⟩
  ·refine yields_of (s := do pure (if <- asBool (a.eval k) then a.eval x else a.eval y)) (by simp [execOp, ho]) ?_
   simp [hk', asBool]
  ·cases b
   ·exact (hC.opd y).cps
   ·exact (hC.opd x).cps
  ·cases b
   ·exact TagOK.bare (bare_cps _)
   ·exact TagOK.bare (bare_cps _)
 ·cases hv
theorem R2_take_cp {cs : List V} {xs : List Value} (hr : R2 (VR1 m c w) cs xs) (n : Nat) : R2 (VR1 m c w) ((cs.take n).map cp) (xs.take n) := by
 simpa using (hr.take n).map (f := cp) (g := id) fun _ _ => VR1.cp
theorem ttag_true {t : TypeId} (ht : ttag P t = some true) : ∃ d, P.underlying t = some d /\ d.isRow = true := by
 unfold ttag at ht
 split at ht
 ·rename_i fs hf; exact ⟨_, hf, rfl⟩
 ·rename_i n e hf; exact ⟨_, hf, rfl⟩
 ·cases ht
 ·cases ht
theorem ttag_false {t : TypeId} (ht : ttag P t = some false) : ∃ d, P.underlying t = some d /\ d.isRow = false := by
 unfold ttag at ht
 split at ht
 ·cases ht
 ·cases ht
 ·rename_i d h1 h2 hf
  refine ⟨d, hf, ?_⟩
  cases d <;> first | rfl | (exact absurd rfl (h1 _)) | (exact absurd rfl (h2 _ _))
 ·cases ht
theorem info_of_underlying {t : TypeId} {d : TypeDesc} (hd : P.underlying t = some d) : ∃ i, P.info? t = some i := by
 unfold Program.underlying at hd
 cases hi : P.info? t with
 | some i => exact ⟨i, rfl⟩
 | none => simp [hi] at hd
theorem size_of_info {t : TypeId} {i : TypeInfo} (hi : P.info? t = some i) : tsize P t = i.size := by
 simp [tsize, Program.cellsOf, hi]
theorem run_isAgg_row {t : TypeId} {d : TypeDesc} (hd : P.underlying t = some d) : (isAgg t).run P w = .ok d.isRow w := by
 unfold isAgg
 rw [Sem.run_bind, run_underlying hd]
 cases d <;> rfl
def CellsAt (R : V -> Value -> Prop) (w : World) (b o : Nat) (cs : List V) : Prop := ∀ (j : Nat) v, cs[j]? = some v -> ∃ x, w.cell? ⟨b, o + j, none⟩ = some x /\ R v x
theorem CellsAt.list {R : V -> Value -> Prop} {b o : Nat} : ∀ {cs : List V}, CellsAt R w b o cs -> ∃ xs : List Value, xs.length = cs.length /\ w.rangeAt b o xs /\ R2 R cs xs := by
 intro cs
 induction cs generalizing o with
 | nil => intro _; exact ⟨[], rfl, fun j v hj => by simp at hj, R2.nil⟩
 | cons v cs ih =>
  intro hc
  obtain ⟨x, hx, hv⟩ := hc 0 v rfl
  obtain ⟨xs, hl, hr, h2⟩ := ih (o := o + 1) (fun j u hj => by
   obtain ⟨y, hy, hu⟩ := hc (j + 1) u (by simpa using hj)
   exact ⟨y, by rw [show o + 1 + j = o + (j + 1) by omega]; exact hy, hu⟩)
  refine ⟨x :: xs, by simp [hl], fun j u hj => ?_, R2.cons hv h2⟩
  cases j with
  | zero => simp at hj; subst hj; exact hx
  | succ j => rw [show o + (j + 1) = o + 1 + j by omega]; exact hr j u (by simpa using hj)
theorem CellsAt.take {R : V -> Value -> Prop} {b o n : Nat} {cs : List V} (hc : CellsAt R w b o cs) : CellsAt R w b o (cs.take n) := fun j v hj => by
 rw [List.getElem?_take] at hj
 split at hj
 ·exact hc j v hj
 ·cases hj
theorem CellsAt.drop {R : V -> Value -> Prop} {b o n : Nat} {cs : List V} (hc : CellsAt R w b o cs) : CellsAt R w b (o + n) (cs.drop n) := fun j v hj => by
 rw [List.getElem?_drop] at hj
 obtain ⟨x, hx, hv⟩ := hc _ v hj
 exact ⟨x, by rw [show o + n + j = o + (n + j) by omega]; exact hx, hv⟩
theorem take_load {t : TypeId} {b o : Nat} {cs : List V} (hc : CellsAt (VR1 m c w) w b o cs) {v : V} (hv : takeCells P t cs = some v) :
  ∃ y, (loadVar t ⟨b, o, none⟩).run P w = .ok y w /\ VR m c w v y /\ bare v = true := by
 unfold takeCells at hv
 split at hv
 ·rename_i ht
  obtain ⟨d, hd, hrow⟩ := ttag_true ht
  obtain ⟨i, hi⟩ := info_of_underlying hd
  split at hv
  ·rename_i hle
   cases hv
   obtain ⟨xs, hl, hr, h2⟩ := CellsAt.list hc
   refine ⟨.agg (xs.take (tsize P t)).toArray, ?_, ⟨_, rfl, ?_⟩, rfl⟩
   ·refine run_loadVar_mid (P := P) w b o t (xs.take (tsize P t)) d (fun j u hj => ?_) hd hrow ?_
    ·rw [List.getElem?_take] at hj
     split at hj
     ·exact hr j u hj
     ·cases hj
    ·rw [hi]
     have := size_of_info hi
     simp only [Option.map_some, List.length_take, hl]
     congr 1
     omega
   ·exact R2_take_cp h2 _
  ·cases hv
 ·rename_i ht
  obtain ⟨d, hd, hrow⟩ := ttag_false ht
  cases hcs : cs[0]? with
  | none => simp [hcs] at hv
  | some u =>
   simp only [hcs, Option.map_some, Option.some.injEq] at hv
   subst hv
   obtain ⟨x, hx, hu⟩ := hc 0 u hcs
   refine ⟨x, ?_, hu.cp.r, bare_cp _⟩
   simp only [Nat.add_zero] at hx
   simp [loadVar, run_isAgg_row hd, hrow, hx]
 ·cases hv
theorem ROs.cells {ad : Addr} {cs : List V} (h : ROs c w ad cs) : CellsAt (VR1 m c w) w ad.block ad.off cs := fun j v hj => by
 obtain ⟨x, hx, hv⟩ := h.2 j v hj
 exact ⟨x, hx, VR1_of_VP hv⟩
theorem Core.obCells (hC : Core vars m c w g h a) {i b : Nat} {cs : List V} (hh : cellsOfOb h i = some cs) (hm : m[i]? = some b) :
  CellsAt (VR1 m c w) w b 0 cs /\ ∀ (j : Nat) v x, cs[j]? = some v -> w.cell? ⟨b, j, none⟩ = some x -> VR1 m c w v x /\ x.oneCell' = true := by
 unfold cellsOfOb at hh
 split at hh
 ·rename_i cs' hcs
  cases hh
  obtain ⟨arr, e, f, hb, hle, _, hall, _⟩ := hC.ob i _ b hcs hm
  have hcell : ∀ j, w.cell? ⟨b, j, none⟩ = arr[j]? := fun j => by simp [World.cell?, hb]
  refine ⟨fun j v hj => ?_, fun j v x hj hx => hall j v x hj (by rw [<- hcell]; exact hx)⟩
  have hlt : j < cs.length := (List.getElem?_eq_some_iff.1 hj).1
  have ha : arr[j]? = some arr[j] := Array.getElem?_eq_getElem (by omega)
  exact ⟨arr[j], by rw [Nat.zero_add, hcell, ha], (hall j v _ hj ha).1⟩
 ·cases hh
theorem addr_eta {ad : Addr} (hs : ad.spot = none) : ad = ⟨ad.block, ad.off, none⟩ := by
 cases ad; simp at hs; simp [hs]
theorem loadV_ok (hC : Core vars m c w g h a) {t : TypeId} {p v : V} {y : Value} (hp : VRr m c w p y) (hv : loadV P h t p = some v) :
  ∃ z, (Instr.loadAt t y).run P w = .ok z w /\ VR m c w v z /\ TagOK vars m w g h a v z := by
 unfold loadV at hv
 split at hv
 ·rename_i b o
  obtain ⟨gb, hg, rfl⟩ := hp
  split at hv
  ·rename_i cs hcs
   obtain ⟨hc1, hc2⟩ := hC.obCells hcs hg
   have hrun : ∀ z, (loadVar t ⟨gb, o, none⟩).run P w = .ok z w -> (Instr.loadAt t (.pointer (some ⟨gb, o, none⟩))).run P w = .ok z w := fun z hz => by
    simp [Instr.loadAt, Instr.sureAddr, hz]
   split at hv
   ·obtain ⟨z, hz, hr, hb⟩ := take_load (by simpa using hc1.drop (n := o)) hv
    exact ⟨z, hrun z hz, hr, TagOK.bare hb⟩
   ·rename_i ht
    obtain ⟨d, hd, hrow⟩ := ttag_false ht
    cases hj : cs[o]? with
    | none => simp [hj] at hv
    | some u =>
     simp only [hj, Option.map_some, Option.some.injEq] at hv
     subst hv
     obtain ⟨x, hx, hu⟩ := hc1 o u hj
     rw [Nat.zero_add] at hx
     refine ⟨x, hrun x (by simp [loadVar, run_isAgg_row hd, hrow, hx]), ?_, ?_⟩
     ·unfold tagC
      split
      ·exact VP.flag hu _
      ·exact hu.cp.r
     ·unfold tagC
      split
      ·rename_i r
       refine ⟨fun r' e => (by cases e), fun u r' e => (by cases e), fun i j r' e => ?_⟩
       cases e
       exact ⟨cs, gb, hcs, hj, hg, hx⟩
      ·exact TagOK.bare (bare_cp _)
   ·cases hv
  ·cases hv
 ·obtain ⟨ad, rfl, hs, hr⟩ := hp
  obtain ⟨z, hz, hr, hb⟩ := take_load (m := m) (hr.cells (m := m)) hv
  refine ⟨z, ?_, hr, TagOK.bare hb⟩
  rw [addr_eta hs]
  simp [Instr.loadAt, Instr.sureAddr, hz]
 ·cases hv
theorem pure_load (hC : Core vars m c w g h a) {o : Oper} {t : TypeId} {x : Operand} (ho : o.op = .load t x) {v : V} (hv : evPure P vars (g, h) (.load t x) = some v) :
  ∃ y, Yields P w a o y /\ VRr m c w v y /\ TagOK vars m w g h a v y := by
 obtain ⟨z, hz, hr, ht⟩ := loadV_ok hC (hC.opd x) hv
 exact ⟨z, yields_of (by simp [execOp, ho]) hz, hr.r, ht⟩
end
end Go.Lift
end

section
namespace Go.Lift
variable [GTab] [BTy]
section
variable {P : Program} {vars : List Nat} {m : List Nat} {c : Cl} {w : World} {g : Env} {h : Heap} {a : Act}
abbrev Fine (P : Program) (vars : List Nat) (m : List Nat) (c : Cl) (w : World) (g : Env) (h : Heap) (a : Act) (o : Oper) (v : V) : Prop :=
 ∃ y, Yields P w a o y /\ VRr m c w v y /\ TagOK vars m w g h a v y
theorem pure_nilCheck (hC : Core vars m c w g h a) {o : Oper} {x : Operand} (ho : o.op = .nilCheck x) {v : V} (hv : evPure P vars (g, h) (.nilCheck x) = some v) :
  Fine P vars m c w g h a o v := by
 have hx := hC.opd x
 simp only [evPure] at hv
 split at hv
 ·rename_i b k he
  cases hv
  rw [he] at hx
  obtain ⟨gb, hg, hy⟩ := hx
  exact ⟨_, by simp [Yields, execOp, ho, hy], ⟨gb, hg, rfl⟩, TagOK.bare rfl⟩
 ·rename_i cs he
  cases hv
  rw [he] at hx
  obtain ⟨ad, hy, hs, hr⟩ := hx
  exact ⟨_, by simp [Yields, execOp, ho, hy], ⟨ad, rfl, hs, hr⟩, TagOK.bare rfl⟩
 ·rename_i f cs he
  cases hv
  rw [he] at hx
  obtain ⟨fs, xs, hy, hr1, hr⟩ := hx
  exact ⟨_, by simp [Yields, execOp, ho, hy], ⟨fs, xs, rfl, hr1, hr⟩, TagOK.bare rfl⟩
 ·cases hv
theorem pure_unOp (hC : Core vars m c w g h a) {o : Oper} {op : UnOp} {t : TypeId} {x : Operand} (ho : o.op = .unOp op t x) {v : V} (hv : evPure P vars (g, h) (.unOp op t x) = some v) :
  Fine P vars m c w g h a o v := by
 have hx := hC.opd x
 simp only [evPure] at hv
 split at hv
 ·rename_i y he
  rw [he] at hx
  have hx' : a.eval x = y := hx
  unfold unS at hv
  split at hv
  ·cases hv
   exact ⟨_, yields_of (by simp [execOp, ho, hx']; rfl) (by simp [Op.unary, Op.intArith]), rfl, TagOK.bare rfl⟩
  ·cases hv
   exact ⟨_, yields_of (by simp [execOp, ho, hx']; rfl) (by simp [Op.unary]), rfl, TagOK.bare rfl⟩
  ·cases hv
 ·cases hv
theorem fieldOff_spec {t : TypeId} {f k : Nat} {u : TypeId} (hf : fieldOff P t f = some (k, u)) :
  ∃ fs fd, P.underlying t = some (.struct fs) /\ fs[f]? = some fd /\ fd.offset = k /\ fd.type = u := by
 unfold fieldOff tfields at hf
 split at hf
 ·rename_i fs hfs
  simp only [List.getElem?_map, Option.map_eq_some_iff] at hf
  obtain ⟨fd, h1, h2⟩ := hf
  cases h2
  exact ⟨fs, fd, hfs, by simpa using h1, rfl, rfl⟩
 ·simp at hf
theorem run_fieldAt {t : TypeId} {fs : Array Field} {fd : Field} {f : Nat} (hu : P.underlying t = some (.struct fs)) (hf : fs[f]? = some fd) (hs : 0 < tsize P fd.type) (ad : Addr) :
  (Instr.fieldAt t (.pointer (some ad)) f).run P w = .ok (.pointer (some (ad.add fd.offset))) w := by
 have : ∃ i, P.info? fd.type = some i := by
  cases hi : P.info? fd.type with
  | some i => exact ⟨i, rfl⟩
  | none => simp [tsize, Program.cellsOf, hi] at hs
 obtain ⟨i, hi⟩ := this
 have hne : i.size ≠ 0 := by rw [<- size_of_info hi]; omega
 simp [Instr.fieldAt, run_underlying hu, hf, Instr.sureAddr, fieldPlace, sizeOf, typeInfo, hi, hne]
theorem add_none (b o n : Nat) : (⟨b, o, none⟩ : Addr).add n = ⟨b, o + n, none⟩ := by unfold Addr.add; split <;> simp_all
theorem pure_fieldAddr (hC : Core vars m c w g h a) {o : Oper} {t : TypeId} {x : Operand} {f : Nat} (ho : o.op = .fieldAddr t x f) {v : V} (hv : evPure P vars (g, h) (.fieldAddr t x f) = some v) :
  Fine P vars m c w g h a o v := by
 have hx := hC.opd x
 simp only [evPure] at hv
 split at hv
 ·rename_i b k off u he hf
  split at hv
  ·rename_i hs
   cases hv
   obtain ⟨fs, fd, hu, hfd, rfl, rfl⟩ := fieldOff_spec hf
   rw [he] at hx
   obtain ⟨gb, hg, hy⟩ := hx
   exact ⟨_, yields_of (by simp [execOp, ho, hy]; rfl) (run_fieldAt hu hfd hs _), ⟨gb, hg, by rw [add_none]⟩, TagOK.bare rfl⟩
  ·cases hv
 ·rename_i cs off u he hf
  split at hv
  ·rename_i hs
   cases hv
   obtain ⟨fs, fd, hu, hfd, rfl, rfl⟩ := fieldOff_spec hf
   rw [he] at hx
   obtain ⟨ad, hy, hsp, hr⟩ := hx
   refine ⟨_, yields_of (by simp [execOp, ho, hy]; rfl) (run_fieldAt hu hfd hs.1 _), ⟨_, rfl, ?_, ?_⟩, TagOK.bare rfl⟩
   ·rw [addr_eta hsp, add_none]
   ·rw [addr_eta hsp, add_none]
    refine ⟨?_, fun j v hj => ?_⟩
    ·have := hr.1
     have h2 := hs.2
     simp only [List.length_drop]
     omega
    ·rw [List.getElem?_drop] at hj
     obtain ⟨z, hz, hv⟩ := hr.2 _ v hj
     exact ⟨z, by simpa [Nat.add_assoc] using hz, hv⟩
  ·cases hv
 ·cases hv
theorem take_part {t : TypeId} {cs : List V} {xs : Array Value} (hr : R2 (VR1 m c w) cs xs.toList) {off : Nat} {v : V} (hv : takeCells P t (cs.drop off) = some v) :
  ∃ y, (part t xs off).run P w = .ok y w /\ VR m c w v y /\ bare v = true := by
 unfold takeCells at hv
 split at hv
 ·rename_i ht
  obtain ⟨d, hd, hrow⟩ := ttag_true ht
  obtain ⟨i, hi⟩ := info_of_underlying hd
  split at hv
  ·rename_i hle
   cases hv
   refine ⟨.agg (xs.extract off (off + tsize P t)), ?_, ⟨_, rfl, ?_⟩, rfl⟩
   ·simp [part, run_isAgg_row hd, hrow, sizeOf, typeInfo, hi, size_of_info hi]
   ·have h2 := R2_take_cp (hr.drop off) (tsize P t)
    simpa [Array.toList_extract, List.extract] using h2
  ·cases hv
 ·rename_i ht
  obtain ⟨d, hd, hrow⟩ := ttag_false ht
  cases hcs : (cs.drop off)[0]? with
  | none => simp [hcs] at hv
  | some u =>
   simp only [hcs, Option.map_some, Option.some.injEq] at hv
   subst hv
   rw [List.getElem?_drop, Nat.add_zero] at hcs
   obtain ⟨x, hx, hu⟩ := hr.get hcs
   refine ⟨x, ?_, hu.cp.r, bare_cp _⟩
   have hx' : xs[off]? = some x := by simpa using hx
   simp [part, run_isAgg_row hd, hrow, hx']
 ·cases hv
theorem pure_field (hC : Core vars m c w g h a) {o : Oper} {t : TypeId} {x : Operand} {f : Nat} (ho : o.op = .field t x f) {v : V} (hv : evPure P vars (g, h) (.field t x f) = some v) :
  Fine P vars m c w g h a o v := by
 have hx := hC.opd x
 simp only [evPure] at hv
 split at hv
 ·rename_i cs off u he hf
  obtain ⟨fs, fd, hu, hfd, rfl, rfl⟩ := fieldOff_spec hf
  rw [he] at hx
  obtain ⟨xs, hy, hr⟩ := hx
  obtain ⟨y, hp, hvy, hb⟩ := take_part hr hv
  exact ⟨y, yields_of (by simp [execOp, ho, hy]; rfl) (by simp [Instr.field, run_underlying hu, hfd, asAgg, hp]), hvy.r, TagOK.bare hb⟩
 ·cases hv
theorem idx_spec {v : V} {n : Int} (hn : idx v = some n) : ∃ k, v = .v (.int k n) := by
 unfold idx at hn
 split at hn
 ·cases hn; exact ⟨_, rfl⟩
 ·cases hn
theorem VP.row {k : Own} {rows : List (List V)} {x : Value} (hp : VP c w (.list k rows) x) {n : Nat} {row : List V} (hn : rows[n]? = some row) :
  ∃ ad cap, x = .slice (some ad) rows.length cap /\ ad.spot = none /\ ROs c w ⟨ad.block, ad.off + n * row.length, none⟩ row := by
 cases hp with
 | empty => simp at hn
 | list k rows ad cap sz xs hne hsz hspot hcap hcl hrow hcell hrec =>
  have hl := hrow n row hn
  subst hl
  refine ⟨ad, cap, rfl, hspot, ?_, fun j v hj => ⟨xs n j, hcell n j row v hn hj, hrec n j row v hn hj⟩⟩
  have h2 : n < rows.length := (List.getElem?_eq_some_iff.1 hn).1
  have h3 : (n + 1) * row.length <= rows.length * row.length := Nat.mul_le_mul_right _ h2
  rw [Nat.add_mul] at h3
  show ad.off + n * row.length + row.length <= c ad.block
  omega
theorem add_eta {ad : Addr} (hs : ad.spot = none) (n : Nat) : ad.add n = ⟨ad.block, ad.off + n, none⟩ := by
 rw [addr_eta hs]; exact add_none _ _ _
theorem pure_indexAddr (hC : Core vars m c w g h a) {o : Oper} {t : TypeId} {x i : Operand} (ho : o.op = .indexAddr t x i) {v : V} (hv : evPure P vars (g, h) (.indexAddr t x i) = some v) :
  Fine P vars m c w g h a o v := by
 have hx := hC.opd x
 have hi := hC.opd i
 simp only [evPure] at hv
 split at hv
 ·rename_i k rows n e he hn hu
  obtain ⟨kk, hkk⟩ := idx_spec hn
  rw [hkk] at hi
  have hi' : a.eval i = .int kk n := hi
  split at hv
  ·rename_i h0
   split at hv
   ·rename_i row hrow
    split at hv
    ·rename_i hlen
     cases hv
     rw [he] at hx
     obtain ⟨ad, cap, hy, hsp, hro⟩ := VP.row hx hrow
     have hlt : n.toNat < rows.length := (List.getElem?_eq_some_iff.1 hrow).1
     refine ⟨.pointer (some (ad.add (n.toNat * tsize P e))), yields_of (by simp [execOp, ho, hy, hi']; rfl) ?_, ⟨_, rfl, ?_, ?_⟩, TagOK.bare rfl⟩
     ·obtain ⟨ie, hie⟩ : ∃ ie, P.info? e = some ie := by
       cases hie : P.info? e with
       | some ie => exact ⟨ie, rfl⟩
       | none => have := hlen.2; simp [tsize, Program.cellsOf, hie] at this
      have hb : 0 <= n /\ n < (rows.length : Int) := ⟨h0, by omega⟩
      simp [Instr.indexAt, asIntOf, run_underlying hu, hb, sizeOf, typeInfo, hie, size_of_info hie]
     ·rw [add_eta hsp]
     ·rw [add_eta hsp, <- hlen.1]
      exact hro
    ·cases hv
   ·cases hv
  ·cases hv
 ·rename_i b off mm n e he hn hu
  obtain ⟨kk, hkk⟩ := idx_spec hn
  rw [hkk] at hi
  have hi' : a.eval i = .int kk n := hi
  split at hv
  ·rename_i hb
   cases hv
   rw [he] at hx
   obtain ⟨gb, cap, hg, hy, hcap⟩ := hx
   obtain ⟨ie, hie⟩ : ∃ ie, P.info? e = some ie := by
    cases hie : P.info? e with
    | some ie => exact ⟨ie, rfl⟩
    | none => have := hb.2.2; simp [tsize, Program.cellsOf, hie] at this
   have hs1 : ie.size = 1 := by rw [<- size_of_info hie]; exact hb.2.2
   refine ⟨.pointer (some ((⟨gb, off, none⟩ : Addr).add n.toNat)), yields_of (by simp [execOp, ho, hy, hi']; rfl) ?_, ⟨gb, hg, by rw [add_none]⟩, TagOK.bare rfl⟩
   have hb' : 0 <= n /\ n < (mm : Int) := ⟨hb.1, hb.2.1⟩
   simp [Instr.indexAt, asIntOf, run_underlying hu, hb', sizeOf, typeInfo, hie, hs1]
  ·cases hv
 ·rename_i b mm sz n e he hn hu
  obtain ⟨kk, hkk⟩ := idx_spec hn
  rw [hkk] at hi
  have hi' : a.eval i = .int kk n := hi
  split at hv
  ·rename_i hb
   cases hv
   rw [he] at hx
   obtain ⟨gb, cap, hg, hy, hcap, _⟩ := hx
   obtain ⟨ie, hie⟩ : ∃ ie, P.info? e = some ie := by
    cases hie : P.info? e with
    | some ie => exact ⟨ie, rfl⟩
    | none =>
     have h1 := hb.2.2.1
     have h2 := hb.2.2.2
     simp [tsize, Program.cellsOf, hie] at h1
     omega
   refine ⟨.pointer (some ((⟨gb, 0, none⟩ : Addr).add (n.toNat * tsize P e))), yields_of (by simp [execOp, ho, hy, hi']; rfl) ?_, ⟨gb, hg, by rw [add_none, Nat.zero_add, hb.2.2.1]⟩, TagOK.bare rfl⟩
   have hb' : 0 <= n /\ n < (mm : Int) := ⟨hb.1, hb.2.1⟩
   simp [Instr.indexAt, asIntOf, run_underlying hu, hb', sizeOf, typeInfo, hie, size_of_info hie]
  ·cases hv
 ·rename_i b off n mm e he hn hu
  obtain ⟨kk, hkk⟩ := idx_spec hn
  rw [hkk] at hi
  have hi' : a.eval i = .int kk n := hi
  split at hv
  ·rename_i hb
   cases hv
   rw [he] at hx
   obtain ⟨gb, hg, hy⟩ := hx
   obtain ⟨ie, hie⟩ : ∃ ie, P.info? e = some ie := by
    cases hie : P.info? e with
    | some ie => exact ⟨ie, rfl⟩
    | none => have := hb.2.2; simp [tsize, Program.cellsOf, hie] at this
   refine ⟨.pointer (some ((⟨gb, off, none⟩ : Addr).add (n.toNat * tsize P e))), yields_of (by simp [execOp, ho, hy, hi']; rfl) ?_, ⟨gb, hg, by rw [add_none]⟩, TagOK.bare rfl⟩
   have hb' : 0 <= n /\ n < (mm : Int) := ⟨hb.1, hb.2.1⟩
   simp [Instr.indexAt, Instr.sureAddr, asIntOf, run_underlying hu, hb', sizeOf, typeInfo, hie, size_of_info hie]
  ·cases hv
 ·rename_i cs n mm e he hn hu
  obtain ⟨kk, hkk⟩ := idx_spec hn
  rw [hkk] at hi
  have hi' : a.eval i = .int kk n := hi
  split at hv
  ·rename_i hb
   cases hv
   rw [he] at hx
   obtain ⟨ad, hy, hsp, hr⟩ := hx
   obtain ⟨ie, hie⟩ : ∃ ie, P.info? e = some ie := by
    cases hie : P.info? e with
    | some ie => exact ⟨ie, rfl⟩
    | none => have := hb.2.2.1; simp [tsize, Program.cellsOf, hie] at this
   have hb' : 0 <= n /\ n < (mm : Int) := ⟨hb.1, hb.2.1⟩
   refine ⟨.pointer (some (ad.add (n.toNat * tsize P e))), yields_of (by simp [execOp, ho, hy, hi']; rfl) ?_, ⟨_, rfl, ?_, ?_⟩, TagOK.bare rfl⟩
   ·simp [Instr.indexAt, Instr.sureAddr, asIntOf, run_underlying hu, hb', sizeOf, typeInfo, hie, size_of_info hie]
   ·rw [addr_eta hsp, add_none]
   ·rw [addr_eta hsp, add_none]
    refine ⟨?_, fun j v hj => ?_⟩
    ·have := hr.1
     have h2 := hb.2.2.2
     simp only [List.length_drop]
     omega
    ·rw [List.getElem?_drop] at hj
     obtain ⟨z, hz, hv⟩ := hr.2 _ v hj
     exact ⟨z, by simpa [Nat.add_assoc] using hz, hv⟩
  ·cases hv
 ·cases hv
theorem pure_index (hC : Core vars m c w g h a) {o : Oper} {t : TypeId} {x i : Operand} (ho : o.op = .index t x i) {v : V} (hv : evPure P vars (g, h) (.index t x i) = some v) :
  Fine P vars m c w g h a o v := by
 have hx := hC.opd x
 have hi := hC.opd i
 simp only [evPure] at hv
 split at hv
 ·rename_i b n he hn hu
  obtain ⟨kk, hkk⟩ := idx_spec hn
  rw [hkk] at hi
  have hi' : a.eval i = .int kk n := hi
  rw [he] at hx
  have hx' : a.eval x = .string b := hx
  split at hv
  ·rename_i h0
   cases hj : b.data[n.toNat]? with
   | none => simp [hj] at hv
   | some u =>
    simp only [hj, Option.map_some, Option.some.injEq] at hv
    subst hv
    refine ⟨_, yields_of (by simp [execOp, ho, hx', hi']; rfl) ?_, rfl, TagOK.bare rfl⟩
    have hb : b[n.toNat]? = some u := by
     obtain ⟨hl, hq⟩ := Array.getElem?_eq_some_iff.1 hj
     have : b[n.toNat]? = some (b[n.toNat]'hl) := by
      rw [getElem?_pos]
     rw [this]
     exact congrArg some hq
    simp [Instr.index, asIntOf, run_underlying hu, h0, hb]
  ·cases hv
 ·rename_i cs n mm e he hn hu
  obtain ⟨kk, hkk⟩ := idx_spec hn
  rw [hkk] at hi
  have hi' : a.eval i = .int kk n := hi
  rw [he] at hx
  obtain ⟨xs, hy, hr⟩ := hx
  split at hv
  ·rename_i hb
   obtain ⟨y, hp, hvy, hbr⟩ := take_part hr hv
   refine ⟨y, yields_of (by simp [execOp, ho, hy, hi']; rfl) ?_, hvy.r, TagOK.bare hbr⟩
   obtain ⟨ie, hie⟩ : ∃ ie, P.info? e = some ie := by
    have : (ttag P e).isSome = true := by
     unfold takeCells at hv
     split at hv <;> simp_all
    unfold ttag at this
    split at this
    ·rename_i hq; exact info_of_underlying hq
    ·rename_i hq; exact info_of_underlying hq
    ·rename_i hq; exact info_of_underlying hq
    ·simp at this
   rw [size_of_info hie] at hp
   have hb' : 0 <= n /\ n < (mm : Int) := ⟨hb.1, hb.2⟩
   simp [Instr.index, asIntOf, run_underlying hu, hb', sizeOf, typeInfo, hie, hp]
  ·cases hv
 ·cases hv
theorem pure_extract (hC : Core vars m c w g h a) {o : Oper} {x : Operand} {i : Nat} (ho : o.op = .extract x i) {v : V} (hv : evPure P vars (g, h) (.extract x i) = some v) :
  Fine P vars m c w g h a o v := by
 have hx := hC.opd x
 simp only [evPure] at hv
 split at hv
 ·rename_i vs he
  rw [he] at hx
  obtain ⟨xs, hy, hr⟩ := hx
  cases hj : vs[i]? with
  | none => simp [hj] at hv
  | some u =>
   simp only [hj, Option.map_some, Option.some.injEq] at hv
   subst hv
   obtain ⟨z, hz, hu⟩ := hr.get hj
   have hz' : xs[i]? = some z := by simpa using hz
   exact ⟨z, yields_of (by simp [execOp, ho, hy]; rfl) (by simp [Instr.extract, hz']), hu.cps.r, TagOK.bare (bare_cps _)⟩
 ·cases hv
end
end Go.Lift
end

section
namespace Go.Lift
variable [GTab] [BTy]
section
variable {P : Program} {vars : List Nat} {m : List Nat} {c : Cl} {w : World} {g : Env} {h : Heap} {a : Act}
theorem bnd_spec (hC : Core vars m c w g h a) {o : Option Operand} {d k : Nat} (hk : bnd g o d = some k) :
  (o = none /\ k = d) \/ ∃ x kk, o = some x /\ a.eval x = .int kk k := by
 unfold bnd at hk
 split at hk
 ·cases hk; exact .inl ⟨rfl, rfl⟩
 ·rename_i x
  split at hk
  ·rename_i n hn
   split at hk
   ·rename_i h0
    cases hk
    obtain ⟨kk, hkk⟩ := idx_spec hn
    have hx := hC.opd x
    rw [hkk] at hx
    have hx' : a.eval x = .int kk n := hx
    exact .inr ⟨x, kk, rfl, by rw [hx', Int.toNat_of_nonneg h0]⟩
   ·cases hk
  ·cases hk
theorem run_sliceBound (kk : IntKind) (n y : Nat) (code : BoundsCode) (hn : n <= y) : (Instr.sliceBound (.int kk n) y code).run P w = .ok n w := by
 have hb : 0 <= (n : Int) /\ (n : Int) <= y := ⟨by omega, by omega⟩
 simp [Instr.sliceBound, asIntOf, hn]
theorem run_sliceBounds (hC : Core vars m c w g h a) {lo hi : Option Operand} {len cap l k : Nat} (b : Bool) (hk : bnd g hi len = some k) (hl : bnd g lo 0 = some l)
  (h1 : l <= k) (h2 : k <= cap) : (Instr.sliceBounds b len cap (lo.map a.eval) (hi.map a.eval) none).run P w = .ok (l, k, cap) w := by
 unfold Instr.sliceBounds
 rcases bnd_spec hC hk with ⟨rfl, rfl⟩ | ⟨x, kk, rfl, hx⟩
 ·rcases bnd_spec hC hl with ⟨rfl, rfl⟩ | ⟨y, kl, rfl, hy⟩
  ·rfl
  ·simp [hy, run_sliceBound kl l k _ h1]
 ·rcases bnd_spec hC hl with ⟨rfl, rfl⟩ | ⟨y, kl, rfl, hy⟩
  ·simp [hx, run_sliceBound kk k cap _ h2]
  ·simp [hx, hy, run_sliceBound kl l k _ h1, run_sliceBound kk k cap _ h2]
theorem pure_slice (hC : Core vars m c w g h a) {o : Oper} {t : TypeId} {x : Operand} {lo hi mx : Option Operand} (ho : o.op = .slice t x lo hi mx) {v : V} (hv : evPure P vars (g, h) (.slice t x lo hi mx) = some v) :
  Fine P vars m c w g h a o v := by
 have hx := hC.opd x
 simp only [evPure] at hv
 split at hv
 ·rename_i b he hu
  rw [he] at hx
  have hx' : a.eval x = .string b := hx
  split at hv
  ·rename_i k hk
   split at hv
   ·rename_i l hl
    split at hv
    ·rename_i hb
     cases hv
     refine ⟨_, yields_of (by simp [execOp, ho, hx']; rfl) ?_, rfl, TagOK.bare rfl⟩
     have hs := run_sliceBounds (P := P) hC (cap := b.size) false hk hl hb.1 hb.2
     simp [Instr.sliceAt, Instr.slice, run_underlying hu, hs]
    ·cases hv
   ·cases hv
  ·cases hv
 ·rename_i kf rows e he hu
  rw [he] at hx
  split at hv
  ·rename_i k hk
   split at hv
   ·rename_i l hl
    split at hv
    ·rename_i hb
     cases hv
     obtain ⟨hlk, hkn, hsz, hall⟩ := hb
     have hp : VP c w (.list kf rows) (a.eval x) := hx
     cases hq : a.eval x with
     | slice ao n cap =>
      rw [hq] at hp
      obtain ⟨ie, hie⟩ : ∃ ie, P.info? e = some ie := by
       cases hie : P.info? e with
       | some ie => exact ⟨ie, rfl⟩
       | none => simp [tsize, Program.cellsOf, hie] at hsz
      have hn : n = rows.length := by cases hp <;> rfl
      subst hn
      have hcap : k <= cap := by cases hp with
       | empty => simp at hkn; omega
       | list => omega
      have hs := run_sliceBounds (P := P) hC (cap := cap) (len := rows.length) true hk hl hlk hcap
      refine ⟨.slice (if cap = l then ao else ao.map (·.add (l * tsize P e))) (k - l) (cap - l), yields_of (by simp [execOp, ho, hq]; rfl) ?_, ?_, TagOK.bare rfl⟩
      ·simp [Instr.sliceAt, Instr.slice, run_underlying hu, hs, sizeOf, typeInfo, hie, size_of_info hie]
      ·show VP c w (.list .no ((rows.take k).drop l)) _
       by_cases hempty : (rows.take k).drop l = []
       ·rw [hempty]
        have : k - l = 0 := by
         have := congrArg List.length hempty
         simp at this
         omega
        rw [this]
        exact .empty _ _ _
       ·cases hp with
        | empty => simp at hempty
        | list kf rows ad cap sz xs hne hsz' hspot hcp hcl hrow hcell hrec =>
         have hlen : ((rows.take k).drop l).length = k - l := by simp; omega
         have hlt : l < k := by
          have : 0 < ((rows.take k).drop l).length := List.length_pos_iff.2 hempty
          omega
         have hszeq : tsize P e = sz := by
          obtain ⟨r0, hr0⟩ := List.exists_mem_of_ne_nil _ hne
          obtain ⟨i0, hi0, hi1⟩ := List.getElem_of_mem hr0
          have h1 := List.all_eq_true.1 hall r0 hr0
          have h2 := hrow i0 r0 (by rw [List.getElem?_eq_getElem hi0, hi1])
          simp at h1
          omega
         rw [hszeq]
         have hne' : ¬ cap = l := by omega
         rw [if_neg hne', <- hlen]
         simp only [Option.map_some, add_eta hspot]
         have hget : ∀ (i : Nat) row, ((rows.take k).drop l)[i]? = some row -> rows[l + i]? = some row := fun i row hi => by
          rw [List.getElem?_drop, List.getElem?_take] at hi
          split at hi
          ·exact hi
          ·cases hi
         refine VP.list .no _ _ _ sz (fun i j => xs (l + i) j) hempty hsz' rfl (by omega) ?_ (fun i row hi => hrow _ row (hget i row hi)) ?_ (fun i j row v hi hj => hrec _ j row v (hget i row hi) hj)
         ·show ad.off + l * sz + ((rows.take k).drop l).length * sz <= c ad.block
          rw [hlen]
          have : (l + (k - l)) * sz <= rows.length * sz := Nat.mul_le_mul_right _ (by omega)
          rw [Nat.add_mul] at this
          omega
         ·intro i j row v hi hj
          have := hcell _ j row v (hget i row hi) hj
          rw [Nat.add_mul] at this
          show w.cell? ⟨ad.block, ad.off + l * sz + i * sz + j, none⟩ = _
          rw [<- this]
          congr 2
          omega
     | _ => rw [hq] at hp; cases hp
    ·cases hv
   ·cases hv
  ·cases hv
 ·rename_i b n sz e he hu
  rw [he] at hx
  obtain ⟨gb, cap, hg, hy, hcap, hrest⟩ := hx
  split at hv
  ·rename_i k hk
   split at hv
   ·rename_i l hl
    split at hv
    ·rename_i hb
     cases hv
     obtain ⟨hl0, hkn, hsz, hsz0⟩ := hb
     subst hl0
     obtain ⟨ie, hie⟩ : ∃ ie, P.info? e = some ie := by
      cases hie : P.info? e with
      | some ie => exact ⟨ie, rfl⟩
      | none => simp [tsize, Program.cellsOf, hie] at hsz; omega
     have hs := run_sliceBounds (P := P) hC (cap := cap) (len := n) true hk hl (Nat.zero_le _) (by omega)
     refine ⟨.slice (some ⟨gb, 0, none⟩) k cap, yields_of (by simp [execOp, ho, hy]; rfl) ?_, ⟨gb, cap, hg, rfl, by omega, hrest⟩, TagOK.bare rfl⟩
     simp [Instr.sliceAt, Instr.slice, run_underlying hu, hs, sizeOf, typeInfo, hie, size_of_info hie, add_none]
    ·cases hv
   ·cases hv
  ·cases hv
 ·rename_i b off n e he hu
  rw [he] at hx
  obtain ⟨gb, hg, hy⟩ := hx
  split at hv
  ·rename_i k hk
   split at hv
   ·rename_i l hl
    split at hv
    ·rename_i hb
     cases hv
     obtain ⟨ie, hie⟩ : ∃ ie, P.info? e = some ie := by
      cases hie : P.info? e with
      | some ie => exact ⟨ie, rfl⟩
      | none => have := hb.2.2.2; simp [tsize, Program.cellsOf, hie] at this
     have hs1 : ie.size = 1 := by rw [<- size_of_info hie]; exact hb.2.2.2
     have hs := run_sliceBounds (P := P) hC (cap := n) (len := n) false hk hl hb.1 hb.2.1
     have hnl : ¬ n = l := by have := hb.2.2.1; omega
     refine ⟨.slice (some ((⟨gb, off, none⟩ : Addr).add l)) (k - l) (n - l), yields_of (by simp [execOp, ho, hy]; rfl) ?_, ⟨gb, n - l, hg, by rw [add_none], by omega⟩, TagOK.bare rfl⟩
     simp [Instr.sliceAt, run_underlying hu, Instr.sureAddr, hs, sizeOf, typeInfo, hie, hs1, hnl]
    ·cases hv
   ·cases hv
  ·cases hv
 ·cases hv
theorem VRr.leaf {v : V} {x : Value} (hx : VRr m c w v x) (hl : leaf0 v = true) : VR0 m c w v x := by
 cases v <;> first | exact hx | (simp [leaf0] at hl)
theorem caps_rel (hC : Core vars m c w g h a) {ops : Array Operand} (hl : ∀ z ∈ ops.toList, leaf0 (opd g z) = true /\ isU (opd g z) = false) :
  R2 (VR0 m c w) (ops.toList.map fun c => cp (opd g c)) (ops.map a.eval).toList /\ ∀ u ∈ (ops.toList.map fun c => cp (opd g c)), isU u = false := by
 refine ⟨⟨by simp, fun i u y hu hy => ?_⟩, fun u hu => ?_⟩
 ·simp only [List.getElem?_map, Option.map_eq_some_iff] at hu
  obtain ⟨z, hz, rfl⟩ := hu
  simp only [Array.toList_map, List.getElem?_map, Option.map_eq_some_iff] at hy
  obtain ⟨z', hz', rfl⟩ := hy
  rw [hz] at hz'
  cases hz'
  exact (VRr.leaf (hC.opd z) (hl z (List.mem_of_getElem? hz)).1).cp
 ·obtain ⟨z, hz, rfl⟩ := List.mem_map.1 hu
  have := (hl z hz).2
  cases hv : opd g z <;> rw [hv] at this <;> first | rfl | cases this
theorem pure_makeFunc (hC : Core vars m c w g h a) {o : Oper} {fn : Fn} {first caps : Array Operand} (ho : o.op = .makeFunc fn first caps) {v : V} (hv : evPure P vars (g, h) (.makeFunc fn first caps) = some v) :
  Fine P vars m c w g h a o v := by
 simp only [evPure] at hv
 split at hv
 ·rename_i f
  split at hv
  ·rename_i hb
   have hl : ∀ z, z ∈ first.toList ++ caps.toList -> leaf0 (opd g z) = true /\ isU (opd g z) = false := fun z hz => by
    have := List.all_eq_true.1 hb z hz
    simpa using this
   obtain ⟨r1, u1⟩ := caps_rel hC (ops := first) fun z hz => hl z (List.mem_append.2 (.inl hz))
   obtain ⟨r2, u2⟩ := caps_rel hC (ops := caps) fun z hz => hl z (List.mem_append.2 (.inr hz))
   split at hv
   ·rename_i hb1
    cases hv
    have hf : first = #[] := Array.eq_empty_of_size_eq_zero hb1
    subst hf
    obtain ⟨e1, e2⟩ := tailB_id u2
    exact ⟨.func (.func f) #[] (caps.map a.eval), yields_of (by simp [execOp, ho]; rfl) (by simp [Instr.makeFunc]), ⟨#[], _, rfl, by rw [e1]; exact R2.nil, by rw [e2]; exact r2⟩, TagOK.bare rfl⟩
   ·split at hv
    ·rename_i hb2
     cases hv
     have hf : caps = #[] := Array.eq_empty_of_size_eq_zero hb2
     subst hf
     exact ⟨.func (.func f) (first.map a.eval) #[], yields_of (by simp [execOp, ho]; rfl) (by simp [Instr.makeFunc]), ⟨_, #[], rfl, r1, R2.nil⟩, TagOK.bare rfl⟩
    ·cases hv
  ·cases hv
 ·cases hv
theorem pure_len (hC : Core vars m c w g h a) {o : Oper} {k : Call} (ho : o.op = .call k) {v : V} (hv : evPure P vars (g, h) (.call k) = some v) :
  Fine P vars m c w g h a o v := by
 simp only [evPure] at hv
 split at hv
 ·rename_i hc
  have hrun : ∀ (t : TypeId) (x : Operand) (y : Value), k.args[0]? = some x -> k.argTypes[0]? = some t -> (Builtin.len_ k.argTypes o.type (k.args.map a.eval)).run P w = .ok y w -> Yields P w a o y := fun t x y hx ht hr => by
   refine yields_of (s := Builtin.len_ k.argTypes o.type (k.args.map a.eval)) ?_ hr
   simp [execOp, ho, resolve, hc, invoke, builtin]
  split at hv
  ·rename_i kf rows e h1 h2
   cases hv
   simp only [Option.map_eq_some_iff] at h1
   obtain ⟨x, hx, he⟩ := h1
   simp only [Option.bind_eq_some_iff] at h2
   obtain ⟨t, ht, hu⟩ := h2
   have hp := hC.opd x
   rw [he] at hp
   have hp' : VP c w (.list kf rows) (a.eval x) := hp
   obtain ⟨ao, cap, hq⟩ : ∃ ao cap, a.eval x = .slice ao rows.length cap := by
    generalize a.eval x = y at hp'
    cases hp' with
    | empty k ao cap => exact ⟨ao, cap, rfl⟩
    | list => exact ⟨_, _, rfl⟩
   refine ⟨_, hrun t x _ hx ht ?_, rfl, TagOK.bare rfl⟩
   simp [Builtin.len_, ht, hx, hq, run_underlying hu, goInt]
  ·rename_i e h1 h2
   cases hv
   simp only [Option.map_eq_some_iff] at h1
   obtain ⟨x, hx, he⟩ := h1
   simp only [Option.bind_eq_some_iff] at h2
   obtain ⟨t, ht, hu⟩ := h2
   have hp := hC.opd x
   rw [he] at hp
   have hq : a.eval x = .slice none 0 0 := hp
   refine ⟨_, hrun t x _ hx ht ?_, rfl, TagOK.bare rfl⟩
   simp [Builtin.len_, ht, hx, hq, run_underlying hu, goInt]
  ·rename_i b off n e h1 h2
   cases hv
   simp only [Option.map_eq_some_iff] at h1
   obtain ⟨x, hx, he⟩ := h1
   simp only [Option.bind_eq_some_iff] at h2
   obtain ⟨t, ht, hu⟩ := h2
   have hp := hC.opd x
   rw [he] at hp
   obtain ⟨gb, cap, hg, hq, hcap⟩ := hp
   refine ⟨_, hrun t x _ hx ht ?_, rfl, TagOK.bare rfl⟩
   simp [Builtin.len_, ht, hx, hq, run_underlying hu, goInt]
  ·rename_i b n sz e h1 h2
   cases hv
   simp only [Option.map_eq_some_iff] at h1
   obtain ⟨x, hx, he⟩ := h1
   simp only [Option.bind_eq_some_iff] at h2
   obtain ⟨t, ht, hu⟩ := h2
   have hp := hC.opd x
   rw [he] at hp
   obtain ⟨gb, cap, hg, hq, hcap, _⟩ := hp
   refine ⟨_, hrun t x _ hx ht ?_, rfl, TagOK.bare rfl⟩
   simp [Builtin.len_, ht, hx, hq, run_underlying hu, goInt]
  ·rename_i b h1 h2
   cases hv
   simp only [Option.map_eq_some_iff] at h1
   obtain ⟨x, hx, he⟩ := h1
   simp only [Option.bind_eq_some_iff] at h2
   obtain ⟨t, ht, hu⟩ := h2
   have hp := hC.opd x
   rw [he] at hp
   have hq : a.eval x = .string b := hp
   refine ⟨_, hrun t x _ hx ht ?_, rfl, TagOK.bare rfl⟩
   simp [Builtin.len_, ht, hx, hq, run_underlying hu, goInt]
  ·cases hv
 ·rename_i hc
  split at hv
  ·rename_i k1 x k2 y he
   split at hv
   ·rename_i hk
    cases hv
    subst hk
    have h2 : k.args.toList.map a.eval = [.int k1 x, .int k1 y] := by
     rcases hl : k.args.toList with _ | ⟨p, _ | ⟨q, _ | ⟨p', r⟩⟩⟩
     ·rw [hl] at he; simp at he
     ·rw [hl] at he; simp at he
     ·rw [hl] at he
      simp only [List.map_cons, List.map_nil, List.cons.injEq, and_true] at he
      have h1 := hC.opd p
      have h2 := hC.opd q
      rw [he.1] at h1
      rw [he.2] at h2
      have h1' : a.eval p = _ := h1
      have h2' : a.eval q = _ := h2
      simp [h1', h2']
     ·rw [hl] at he; simp at he
    refine ⟨_, yields_of (s := Builtin.min_ k.argTypes o.type (k.args.map a.eval)) (by simp [execOp, ho, resolve, hc, invoke, builtin]) ?_, rfl, TagOK.bare rfl⟩
    simp [Builtin.min_, h2, Builtin.min2]
   ·cases hv
  ·cases hv
 ·rename_i hc
  split at hv
  ·rename_i k1 x k2 y he
   split at hv
   ·rename_i hk
    cases hv
    subst hk
    have h2 : k.args.toList.map a.eval = [.int k1 x, .int k1 y] := by
     rcases hl : k.args.toList with _ | ⟨p, _ | ⟨q, _ | ⟨p', r⟩⟩⟩
     ·rw [hl] at he; simp at he
     ·rw [hl] at he; simp at he
     ·rw [hl] at he
      simp only [List.map_cons, List.map_nil, List.cons.injEq, and_true] at he
      have h1 := hC.opd p
      have h2 := hC.opd q
      rw [he.1] at h1
      rw [he.2] at h2
      have h1' : a.eval p = _ := h1
      have h2' : a.eval q = _ := h2
      simp [h1', h2']
     ·rw [hl] at he; simp at he
    refine ⟨_, yields_of (s := Builtin.max_ k.argTypes o.type (k.args.map a.eval)) (by simp [execOp, ho, resolve, hc, invoke, builtin]) ?_, rfl, TagOK.bare rfl⟩
    simp [Builtin.max_, h2, Builtin.max2]
   ·cases hv
  ·cases hv
 ·cases hv
theorem cells_rel {v : V} {y : Value} (hv : VRr m c w v y) (hp : partOk v = true) : R2 (VR1 m c w) (cellsV v) y.cells.toList := by
 cases v with
 | v z =>
  have : y = z := hv
  subst this
  have : y.cells = #[y] := by cases y <;> first | rfl | (simp [partOk, Value.oneCell'] at hp)
  rw [this]
  exact R2.cons rfl R2.nil
 | nil => have : y = .slice none 0 0 := hv; subst this; exact R2.cons rfl R2.nil
 | list k r => have h2 : VP c w (.list k r) y := hv; cases h2 <;> exact R2.cons hv R2.nil
 | ptr b o => obtain ⟨g, hg, rfl⟩ := hv; exact R2.cons ⟨g, hg, rfl⟩ R2.nil
 | mp b => obtain ⟨g, hg, rfl⟩ := hv; exact R2.cons ⟨g, hg, rfl⟩ R2.nil
 | rp cs => obtain ⟨ad, rfl, hs, hr⟩ := hv; exact R2.cons ⟨ad, rfl, hs, hr⟩ R2.nil
 | buf b o n => obtain ⟨g, cap, hg, rfl, hc⟩ := hv; exact R2.cons ⟨g, cap, hg, rfl, hc⟩ R2.nil
 | stk b n sz => obtain ⟨g, cap, hg, rfl, hc⟩ := hv; exact R2.cons ⟨g, cap, hg, rfl, hc⟩ R2.nil
 | agg cs => obtain ⟨xs, rfl, hr⟩ := hv; exact hr
 | tup vs => simp [partOk] at hp
 | fn f cs => obtain ⟨fs, xs, rfl, hr1, hr⟩ := hv; exact R2.cons ⟨fs, xs, rfl, hr1, hr⟩ R2.nil
 | undef => simp [partOk] at hp
 | any => simp [partOk] at hp
theorem fold_splice (off : Nat) : ∀ (vs : List Value) (k : Nat) (zs : Array Value), off + k + vs.length <= zs.size ->
  ((vs.zipIdx k).foldl (fun cs p => cs.setIfInBounds (off + p.2) p.1) zs).toList = zs.toList.take (off + k) ++ vs ++ zs.toList.drop (off + k + vs.length)
 | [], k, zs, _ => by simp
 | v :: vs, k, zs, hb => by
  simp only [List.length_cons] at hb
  have ih := fold_splice off vs (k + 1) (zs.setIfInBounds (off + k) v) (by simp; omega)
  simp only [List.zipIdx_cons, List.foldl_cons]
  rw [ih]
  have hlt : off + k < zs.toList.length := by simp; omega
  simp only [Array.toList_setIfInBounds, List.length_cons]
  rw [show off + (k + 1) = off + k + 1 by omega, List.take_succ_eq_append_getElem (by simpa using hlt), List.getElem_set_self, List.take_set_of_le (by omega), List.drop_set_of_lt (by omega)]
  simp only [List.append_assoc, List.cons_append, List.nil_append]
  rw [show off + k + 1 + vs.length = off + k + (vs.length + 1) by omega]
theorem buildV_spec {place : Nat -> Option (Nat × Nat)} : ∀ (parts : List (Nat × V)) (qs : List (Nat × Value)) (cs : List V) (zs : Array Value) (ds : List V),
  R2 (fun p q => p.1 = q.1 /\ VRr m c w p.2 q.2) parts qs -> R2 (VR1 m c w) cs zs.toList -> buildV place parts cs = some ds ->
  ∃ ys : Array Value, Instr.fill place zs qs = some ys /\ R2 (VR1 m c w) ds ys.toList
 | [], qs, cs, zs, ds, hp, hc, hd => by
  have : qs = [] := List.eq_nil_of_length_eq_zero hp.1.symm
  subst this
  cases hd
  exact ⟨zs, rfl, hc⟩
 | (i, x) :: r, qs, cs, zs, ds, hp, hc, hd => by
  match qs, hp with
  | [], hp => simp [R2] at hp
  | (j, y) :: s, hp =>
   have h0 := hp.head
   simp only at h0
   obtain ⟨rfl, hxy⟩ := h0
   unfold buildV at hd
   split at hd
   ·rename_i off n hpl
    split at hd
    ·rename_i hb
     have hcells : R2 (VR1 m c w) (cellsV x) y.cells.toList := cells_rel hxy hb.1
     have hlen : y.cells.size = n := by have := hcells.1; have := hb.2.1; simp at *; omega
     have hzs : zs.size = cs.length := by have := hc.1; simp at this; omega
     have hfold : ∃ ys : Array Value, y.cells.zipIdx.foldl (fun cs (c, j) => cs.setIfInBounds (off + j) c) zs = ys /\ R2 (VR1 m c w) (cs.take off ++ (cellsV x).map cp ++ cs.drop (off + n)) ys.toList := by
      refine ⟨_, rfl, ?_⟩
      have hf := fold_splice off y.cells.toList 0 zs (by have := hb.2.2; simp [hlen, hzs]; omega)
      have he : (y.cells.zipIdx.foldl (fun cs (c, j) => cs.setIfInBounds (off + j) c) zs).toList = zs.toList.take off ++ y.cells.toList ++ zs.toList.drop (off + n) := by
       simp only [Nat.add_zero, Array.length_toList, hlen] at hf
       rw [<- hf, <- Array.foldl_toList, Array.toList_zipIdx]
      rw [he]
      exact ((hc.take off).append (by simpa using hcells.map (f := cp) (g := id) fun _ _ => VR1.cp)).append (hc.drop _)
     obtain ⟨ys, hys, hr⟩ := hfold
     obtain ⟨us, hus, hr'⟩ := buildV_spec r s _ ys ds hp.tail hr hd
     refine ⟨us, ?_, hr'⟩
     unfold Instr.fill
     simp only [hpl]
     rw [if_neg (by have := hb.2.2; simp [hlen, hzs]; omega), hys]
     exact hus
    ·cases hd
   ·cases hd
theorem ofC1_cells (z : Value) : R2 (VR1 m c w) (z.cells.toList.map ofC1) z.cells.toList :=
 ⟨by simp, fun i u y hu hy => by
  simp only [List.getElem?_map, Option.map_eq_some_iff] at hu
  obtain ⟨q, hq, rfl⟩ := hu
  rw [hq] at hy
  cases hy
  exact VR1_ofC1 _⟩
theorem tzero_spec {t : TypeId} {z : List Value} (hz : tzero P t = some z) : ∃ zv, (zeroValue t).run P w = .ok zv w /\ z = zv.cells.toList := by
 unfold tzero at hz
 cases hi : P.info? t with
 | none => simp [hi] at hz
 | some i =>
  cases hz0 : i.zero with
  | none => simp [hi, hz0] at hz
  | some zv =>
   simp only [hi, Option.bind_some, hz0, Option.map_some, Option.some.injEq] at hz
   exact ⟨zv, by simp [zeroValue, typeInfo, hi, hz0], hz.symm⟩
theorem run_places : ∀ (l : List Field), (∀ f ∈ l, ∃ i, P.info? f.type = some i) ->
  (l.toArray.mapM (m := Sem) fun f => do pure (f.offset, <- sizeOf f.type)).run P w = .ok (l.map fun f => (f.offset, tsize P f.type)).toArray w := by
 intro l hl
 rw [List.mapM_toArray, Sem.run_map]
 have : ∀ (l : List Field), (∀ f ∈ l, ∃ i, P.info? f.type = some i) -> (l.mapM (m := Sem) fun f => do pure (f.offset, <- sizeOf f.type)).run P w = .ok (l.map fun f => (f.offset, tsize P f.type)) w := by
  intro l
  induction l with
  | nil => intro _; rfl
  | cons f l ih =>
   intro hl
   obtain ⟨i, hi⟩ := hl f (by simp)
   rw [List.mapM_cons]
   simp only [Sem.run_bind, run_sizeOf hi, Result.andThen_ok, Sem.run_pure, ih (fun f hf => hl f (by simp [hf])), List.map_cons, size_of_info hi]
 rw [this l hl]
 rfl
theorem pure_build (hC : Core vars m c w g h a) {o : Oper} {t : TypeId} {parts : Array (Nat × Operand)} (ho : o.op = .build t parts) {v : V} (hv : evPure P vars (g, h) (.build t parts) = some v) :
  Fine P vars m c w g h a o v := by
 simp only [evPure] at hv
 split at hv
 ·cases hv
 ·rename_i z hz
  obtain ⟨zv, hzv, rfl⟩ := tzero_spec (w := w) hz
  have hparts : R2 (fun (p : Nat × V) (q : Nat × Value) => p.1 = q.1 /\ VRr m c w p.2 q.2) (parts.toList.map fun p => (p.1, opd g p.2)) (parts.map fun (i, x) => (i, a.eval x)).toList := by
   refine ⟨by simp, fun i u y hu hy => ?_⟩
   simp only [Array.toList_map, List.getElem?_map, Option.map_eq_some_iff] at hu hy
   obtain ⟨p, hp, rfl⟩ := hu
   obtain ⟨q, hq, rfl⟩ := hy
   rw [hp] at hq
   cases hq
   exact ⟨rfl, hC.opd _⟩
  split at hv
  ·rename_i fs hu
   split at hv
   ·rename_i hok
    simp only [Option.map_eq_some_iff] at hv
    obtain ⟨ds, hds, rfl⟩ := hv
    have hall : ∀ f ∈ fs.toList, ∃ i, P.info? f.type = some i := by
     intro f hf
     unfold structOk tfields at hok
     simp only [hu, List.all_map, List.all_eq_true] at hok
     exact Option.isSome_iff_exists.1 (hok f hf)
    have hm := run_places fs.toList hall (w := w)
    rw [Array.toArray_toList] at hm
    have hplace : (fun i => (fieldOff P t i).map fun p => (p.1, tsize P p.2)) = fun i => (fs.toList.map fun f => (f.offset, tsize P f.type)).toArray[i]? := by
     funext i
     unfold fieldOff tfields
     simp only [hu]
     simp only [List.getElem?_map, Option.map_map, List.getElem?_toArray]
     rfl
    rw [hplace] at hds
    obtain ⟨ys, hys, hr⟩ := buildV_spec _ _ _ zv.cells ds hparts (ofC1_cells zv) hds
    refine ⟨.agg ys, yields_of (by simp [execOp, ho]; rfl) ?_, ⟨ys, rfl, hr⟩, TagOK.bare rfl⟩
    unfold Instr.build
    simp only [Sem.run_bind, hzv, Result.andThen_ok, run_underlying hu, hm, hys]
    rfl
   ·cases hv
  ·rename_i n e hu
   split at hv
   ·rename_i hok
    simp only [Option.map_eq_some_iff] at hv
    obtain ⟨ds, hds, rfl⟩ := hv
    obtain ⟨ie, hie⟩ := Option.isSome_iff_exists.1 hok
    obtain ⟨ys, hys, hr⟩ := buildV_spec _ _ _ zv.cells ds hparts (ofC1_cells zv) hds
    rw [size_of_info hie] at hys
    refine ⟨.agg ys, yields_of (by simp [execOp, ho]; rfl) ?_, ⟨ys, rfl, hr⟩, TagOK.bare rfl⟩
    unfold Instr.build
    simp only [Sem.run_bind, hzv, Result.andThen_ok, run_underlying hu, run_sizeOf hie, hys]
    rfl
   ·cases hv
  ·cases hv
theorem VP.v_eq {y x : Value} (hp : VP c w (.v y) x) : x = y := by cases hp; rfl
theorem bytesOf_spec : ∀ {rows : List (List V)} {l : List UInt8}, bytesOf rows = some l ->
  ∃ ns : List Int, rows = ns.map (fun n => [.v (.int .u8 n)]) /\ l = ns.map fun n => UInt8.ofNat n.toNat
 | [], l, hb => by cases hb; exact ⟨[], rfl, rfl⟩
 | r :: rows, l, hb => by
  unfold bytesOf at hb
  split at hb
  ·rename_i h1; cases h1
  ·rename_i n rest h1
   cases h1
   simp only [Option.map_eq_some_iff] at hb
   obtain ⟨l', hl', rfl⟩ := hb
   obtain ⟨ns, rfl, rfl⟩ := bytesOf_spec hl'
   exact ⟨n :: ns, rfl, rfl⟩
  ·cases hb
theorem push_fold : ∀ (ns : List Int) (b : ByteArray), ns.foldl (fun r n => r.push (UInt8.ofNat n.toNat)) b = ⟨b.data ++ (ns.map fun n => UInt8.ofNat n.toNat).toArray⟩
 | [], b => by simp
 | n :: ns, b => by
  rw [List.foldl_cons, push_fold ns]
  congr 1
  simp [ByteArray.push]
theorem run_conv_bytes {s d e : TypeId} (hs : P.underlying s = some (.slice e)) (hd : P.underlying d = some .string) (he : P.underlying e = some (.int .u8)) (y : Value) (ao : Option Addr) (n cap : Nat) (hy : y = .slice ao n cap) :
  (convert s d y).run P w = (Conv.bytesToString y).run P w := by
 subst hy
 simp [convert, run_underlying hs, run_underlying hd, run_underlying he]
theorem is_string {b : TypeId} (h1 : isStr P b = true) : P.underlying b = some .string := by
 unfold isStr at h1
 split at h1
 ·assumption
 ·cases h1
theorem is_u8 {b : TypeId} (h1 : isU8 P b = true) : P.underlying b = some (.int .u8) := by
 unfold isU8 at h1
 split at h1
 ·assumption
 ·cases h1
theorem is_i32 {b : TypeId} (h1 : isI32 P b = true) : P.underlying b = some (.int .i32) := by
 unfold isI32 at h1
 split at h1
 ·assumption
 ·cases h1
theorem runesOf_spec : ∀ {rows : List (List V)} {l : List Int}, runesOf rows = some l -> rows = l.map (fun n => [.v (.int .i32 n)])
 | [], l, hb => by cases hb; rfl
 | r :: rows, l, hb => by
  unfold runesOf at hb
  split at hb
  ·rename_i h1; cases h1
  ·rename_i n rest h1
   cases h1
   simp only [Option.map_eq_some_iff] at hb
   obtain ⟨l', hl', rfl⟩ := hb
   rw [runesOf_spec hl']
   rfl
  ·cases hb
theorem run_conv_runes {s d e : TypeId} (hs : P.underlying s = some (.slice e)) (hd : P.underlying d = some .string) (he : P.underlying e = some (.int .i32)) (y : Value) (ao : Option Addr) (n cap : Nat) (hy : y = .slice ao n cap) :
  (convert s d y).run P w = (Conv.runesToString y).run P w := by
 subst hy
 exact run_convert_runes_string w s d e ao n cap hs he hd
theorem pure_convert (hC : Core vars m c w g h a) {o : Oper} {s d : TypeId} {x : Operand} (ho : o.op = .convert s d x) {v : V} (hv : evPure P vars (g, h) (.convert s d x) = some v) :
  Fine P vars m c w g h a o v := by
 have hx := hC.opd x
 simp only [evPure] at hv
 split at hv
 ·rename_i y he
  rw [he] at hx
  have hx' : a.eval x = y := hx
  unfold convS at hv
  split at hv
  ·rename_i k' k n h1 h2 h3
   cases h3; cases hv
   exact ⟨_, yields_of (by simp [execOp, ho, hx']; rfl) (by simp [convert, run_underlying h1, run_underlying h2, Conv.intToInt]), rfl, TagOK.bare rfl⟩
  ·rename_i k' k n h1 h2 h3
   cases h3; cases hv
   exact ⟨_, yields_of (by simp [execOp, ho, hx']; rfl) (by simp [convert, run_underlying h1, run_underlying h2, Conv.intToString]), rfl, TagOK.bare rfl⟩
  ·rename_i b h1 h2 h3
   cases h3; cases hv
   exact ⟨_, yields_of (by simp [execOp, ho, hx']; rfl) (by simp [convert, run_underlying h1, run_underlying h2]), rfl, TagOK.bare rfl⟩
  ·cases hv
 ·rename_i kf rows he
  rw [he] at hx
  have hp : VP c w (.list kf rows) (a.eval x) := hx
  split at hv
  ·rename_i hd
   have hd := is_string hd
   split at hv
   ·rename_i e hs
    split at hv
    ·rename_i hu
     have hu := is_u8 hu
     simp only [Option.map_eq_some_iff] at hv
     obtain ⟨l, hl, rfl⟩ := hv
     obtain ⟨ns, rfl, rfl⟩ := bytesOf_spec hl
     refine ⟨.string ⟨(ns.map fun n : Int => UInt8.ofNat n.toNat).toArray⟩, yields_of (s := convert s d (a.eval x)) (by simp [execOp, ho]) ?_, rfl, TagOK.bare rfl⟩
     generalize a.eval x = y at hp
     by_cases hns : ns = []
     ·subst hns
      cases hp with
      | empty k ao cap =>
       rw [run_conv_bytes hs hd hu _ ao 0 cap rfl]
       cases ao with
       | none => rfl
       | some ad => rfl
      | list k rows ad cap sz xs hne => exact absurd rfl hne
     ·generalize hrw : ns.map (fun n => [V.v (.int .u8 n)]) = rows at hp
      cases hp with
      | empty => simp at hrw; exact absurd hrw hns
      | list k rows ad cap sz xs hne hsz hspot hcap hcl hrow hcell hrec =>
       subst hrw
       have hlen : (ns.map (fun n => [V.v (.int .u8 n)])).length = ns.length := by simp
       rw [run_conv_bytes hs hd hu _ (some ad) _ cap rfl, hlen]
       have hld : (loadCells ad ns.length).run P w = .ok (ns.map (Value.int .u8)).toArray w := by
        have := run_loadCells_list (P := P) w ad (ns.map (Value.int .u8)) (fun j v hj => by
         simp only [List.getElem?_map, Option.map_eq_some_iff] at hj
         obtain ⟨n, hn, rfl⟩ := hj
         have h1 : (ns.map (fun n => [V.v (.int .u8 n)]))[j]? = some [V.v (.int .u8 n)] := by simp [hn]
         have hs1 := hrow j _ h1
         simp only [List.length_cons, List.length_nil, Nat.zero_add] at hs1
         have h2 := hcell j 0 _ _ h1 rfl
         have h3 := hrec j 0 _ _ h1 rfl
         rw [<- hs1, Nat.mul_one, Nat.add_zero] at h2
         rw [add_eta hspot, h2]
         have h4 : xs j 0 = .int .u8 n := VP.v_eq h3
         rw [h4])
        simpa using this
       rw [run_bytesToString w ad _ _ ns hld, push_fold]
       simp
    ·split at hv
     ·rename_i hu
      have hu := is_i32 hu
      simp only [Option.map_eq_some_iff] at hv
      obtain ⟨ns, hl, rfl⟩ := hv
      obtain rfl := runesOf_spec hl
      refine ⟨.string (runesBytes ns), yields_of (s := convert s d (a.eval x)) (by simp [execOp, ho]) ?_, rfl, TagOK.bare rfl⟩
      generalize a.eval x = y at hp
      by_cases hns : ns = []
      ·subst hns
       cases hp with
       | empty k ao cap =>
        rw [run_conv_runes hs hd hu _ ao 0 cap rfl]
        cases ao with
        | none => rfl
        | some ad => rfl
       | list k rows ad cap sz xs hne => exact absurd rfl hne
      ·generalize hrw : ns.map (fun n => [V.v (.int .i32 n)]) = rows at hp
       cases hp with
       | empty => simp at hrw; exact absurd hrw hns
       | list k rows ad cap sz xs hne hsz hspot hcap hcl hrow hcell hrec =>
        subst hrw
        have hlen : (ns.map (fun n => [V.v (.int .i32 n)])).length = ns.length := by simp
        rw [run_conv_runes hs hd hu _ (some ad) _ cap rfl, hlen]
        have hld : (loadCells ad ns.length).run P w = .ok (ns.map (Value.int .i32)).toArray w := by
         have := run_loadCells_list (P := P) w ad (ns.map (Value.int .i32)) (fun j v hj => by
          simp only [List.getElem?_map, Option.map_eq_some_iff] at hj
          obtain ⟨n, hn, rfl⟩ := hj
          have h1 : (ns.map (fun n => [V.v (.int .i32 n)]))[j]? = some [V.v (.int .i32 n)] := by simp [hn]
          have hs1 := hrow j _ h1
          simp only [List.length_cons, List.length_nil, Nat.zero_add] at hs1
          have h2 := hcell j 0 _ _ h1 rfl
          have h3 := hrec j 0 _ _ h1 rfl
          rw [<- hs1, Nat.mul_one, Nat.add_zero] at h2
          rw [add_eta hspot, h2]
          have h4 : xs j 0 = .int .i32 n := VP.v_eq h3
          rw [h4])
         simpa using this
        rw [run_runesToString w ad _ _ ns hld]
     ·cases hv
   ·cases hv
  ·cases hv
 ·rename_i i off n he
  rw [he] at hx
  obtain ⟨gb, cap, hg, hy, hcap⟩ := hx
  split at hv
  ·rename_i hd
   have hd := is_string hd
   split at hv
   ·rename_i e cs hs hcs
    split at hv
    ·rename_i hu
     simp only [Bool.and_eq_true, decide_eq_true_eq] at hu
     have hle := hu.2
     have hu := is_u8 hu.1
     simp only [Option.map_eq_some_iff] at hv
     obtain ⟨l, hl, rfl⟩ := hv
     obtain ⟨ns, hns, rfl⟩ := bytesOf_spec hl
     refine ⟨.string ⟨(ns.map fun n : Int => UInt8.ofNat n.toNat).toArray⟩, yields_of (s := convert s d (a.eval x)) (by simp [execOp, ho]) ?_, rfl, TagOK.bare rfl⟩
     rw [run_conv_bytes hs hd hu _ _ n cap hy, hy]
     have hlen : n = ns.length := by
      have := congrArg List.length hns
      simp only [List.length_map, List.length_take, List.length_drop] at this
      omega
     have hld : (loadCells ⟨gb, off, none⟩ n).run P w = .ok (ns.map (Value.int .u8)).toArray w := by
      have := run_loadCells_list (P := P) w ⟨gb, off, none⟩ (ns.map (Value.int .u8)) (fun j v hj => by
       simp only [List.getElem?_map, Option.map_eq_some_iff] at hj
       obtain ⟨k, hk, rfl⟩ := hj
       have hjl : j < ns.length := (List.getElem?_eq_some_iff.1 hk).1
       have h1 : (((cs.drop off).take n).map fun x => [x])[j]? = some [V.v (.int .u8 k)] := by rw [hns]; simp [hk]
       simp only [List.getElem?_map, Option.map_eq_some_iff, List.cons.injEq, and_true] at h1
       obtain ⟨u, hu1, hu2⟩ := h1
       subst hu2
       rw [List.getElem?_take, if_pos (by omega), List.getElem?_drop] at hu1
       obtain ⟨y, hy1, hy2⟩ := (hC.obCells hcs hg).1 _ _ hu1
       rw [Nat.zero_add] at hy1
       rw [add_none, hy1]
       have : y = .int .u8 k := hy2
       rw [this])
      simpa [hlen] using this
     rw [run_bytesToString w _ _ _ ns hld, push_fold]
     simp
    ·cases hv
   ·cases hv
  ·cases hv
 ·cases hv
end
end Go.Lift
end

section
namespace Go.Lift
variable [GTab] [BTy]
section
variable {P : Program} {vars : List Nat} {m : List Nat} {c : Cl} {w : World} {g : Env} {h : Heap} {a : Act}
theorem run_eqGuard_int (op : BinOp) (t : TypeId) (x y : Operand) (k k' : IntKind) (p q : Int) : (eqGuard op t x y (.int k p) (.int k' q)).run P w = .ok () w := by
 cases op <;> simp [eqGuard]
theorem run_eqGuard_string (op : BinOp) (t : TypeId) (x y : Operand) (p q : ByteArray) : (eqGuard op t x y (.string p) (.string q)).run P w = .ok () w := by
 cases op <;> simp [eqGuard]
theorem binS_run {op : BinOp} {t : TypeId} {p q r : Value} (hr : binS op p q = some r) : (binOp op t p q).run P w = .ok r w /\ (∀ x y, (eqGuard op t x y p q).run P w = .ok () w) := by
 unfold binS at hr
 split at hr
 ·rename_i k u k' v
  refine ⟨?_, fun x y => run_eqGuard_int op t x y k k' u v⟩
  split at hr
  ·split at hr
   ·rename_i h0; cases hr; simp [binOp, Op.shift, show ¬ v < 0 by omega]
   ·cases hr
  ·split at hr
   ·rename_i h0; cases hr; simp [binOp, Op.shift, show ¬ v < 0 by omega]
   ·cases hr
  ·rename_i h1 h2
   split at hr
   ·rename_i hk
    subst hk
    cases op <;> simp only [Option.some.injEq] at hr
    case quo =>
     split at hr
     ·cases hr
     ·rename_i h0; cases hr; simp [binOp, Op.intDiv, h0]
    case rem =>
     split at hr
     ·cases hr
     ·rename_i h0; cases hr; simp [binOp, Op.intDiv, h0]
    all_goals first
     | (subst hr; simp [binOp, Op.intArith, Op.intBits, Op.intCmp]; done)
     | (subst hr; simp [binOp, Op.intArith, Op.intBits, Op.intCmp]; rfl)
     | exact absurd rfl h1
     | exact absurd rfl h2
     | cases hr
   ·cases hr
 ·rename_i p q
  refine ⟨?_, fun x y => run_eqGuard_string op t x y p q⟩
  cases op <;> simp only [Option.some.injEq] at hr
  case add =>
   split at hr
   ·rename_i hb
    cases hr
    have : ¬ (IntKind.i64.max : Int) < ((p.size + q.size : Nat) : Int) := by
     have : (IntKind.i64.max : Int) = 9223372036854775807 := by decide
     rw [this]
     omega
    simp only [binOp, Op.stringOp]
    rw [if_neg (by simpa using this)]
    rfl
   ·cases hr
  all_goals first
   | (subst hr; simp [binOp, Op.stringOp]; done)
   | cases hr
 ·cases hr
theorem binT_run {op : BinOp} {t : TypeId} {p q r : Value} (hr : binT P op t p q = some r) : (binOp op t p q).run P w = .ok r w /\ (∀ x y, (eqGuard op t x y p q).run P w = .ok () w) := by
 unfold binT at hr
 split at hr
 ·rename_i x y
  split at hr
  ·rename_i hu
   refine ⟨?_, fun x y => by cases op <;> simp [eqGuard]⟩
   have hq : (Op.equal t (.bool x) (.bool y)).run P w = .ok (x == y) w := by
    have h1 : ∀ d, (Op.equalIn (d + 1) t (.bool x) (.bool y)).run P w = .ok (x == y) w := by
     intro d
     unfold Op.equalIn
     simp [run_underlying hu]
    exact h1 9999
   split at hr
   ·cases hr
    show (do pure (.bool (<- Op.equal t (.bool x) (.bool y)))  : Sem Value).run P w = _
    simp only [Sem.run_bind, hq, Result.andThen_ok]
    rfl
   ·cases hr
    show (do pure (.bool (!(<- Op.equal t (.bool x) (.bool y))))  : Sem Value).run P w = _
    simp only [Sem.run_bind, hq, Result.andThen_ok]
    rfl
   ·cases hr
  ·cases hr
 ·exact binS_run hr
def eqL : List Nat -> List Value -> List Value -> Option Bool
 | [], [], [] => some true
 | k :: ks, x :: l, y :: m =>
  match eqS k x y, eqL ks l m with
  | some a, some b => some (a && b)
  | _, _ => none
 | _, _, _ => none
theorem eqCells_eqL : ∀ {ks : List Nat} {cs ds : List V} {xs ys : List Value} {r : Bool}, R2 (VR1 m c w) cs xs -> R2 (VR1 m c w) ds ys -> eqCells ks cs ds = some r -> eqL ks xs ys = some r := by
 intro ks
 induction ks with
 | nil =>
  intro cs ds xs ys r h1 h2 he
  unfold eqCells at he
  split at he
  ·have hx : xs = [] := List.eq_nil_of_length_eq_zero h1.1.symm
   have hy : ys = [] := List.eq_nil_of_length_eq_zero h2.1.symm
   subst hx; subst hy
   exact he
  ·rename_i h0; cases h0
  ·cases he
 | cons k ks ih =>
  intro cs ds xs ys r h1 h2 he
  unfold eqCells at he
  split at he
  ·rename_i h0; cases h0
  ·rename_i k' ks' x l y q h0
   cases h0
   match xs, ys, h1, h2 with
   | [], _, h1, _ => simp [R2] at h1
   | _ :: _, [], _, h2 => simp [R2] at h2
   | x' :: xs, y' :: ys, h1, h2 =>
    have e1 : x' = x := h1.head
    have e2 : y' = y := h2.head
    subst e1; subst e2
    split at he
    ·rename_i b b' hb hb'
     have := ih h1.tail h2.tail hb'
     simp only [eqL, hb, this]
     exact he
    ·cases he
  ·cases he
theorem eqL_len : ∀ {ks : List Nat} {xs ys : List Value} {r : Bool}, eqL ks xs ys = some r -> xs.length = ks.length /\ ys.length = ks.length := by
 intro ks
 induction ks with
 | nil =>
  intro xs ys r he
  unfold eqL at he
  split at he
  ·exact ⟨rfl, rfl⟩
  ·rename_i h0; cases h0
  ·cases he
 | cons k ks ih =>
  intro xs ys r he
  unfold eqL at he
  split at he
  ·rename_i h0; cases h0
  ·rename_i h0
   cases h0
   split at he
   ·rename_i hb'
    have := ih hb'
    exact ⟨by simp [this.1], by simp [this.2]⟩
   ·cases he
  ·cases he
theorem eqL_append : ∀ {k1 k2 : List Nat} {xs ys : List Value} {r : Bool}, eqL (k1 ++ k2) xs ys = some r ->
  ∃ a b, eqL k1 (xs.take k1.length) (ys.take k1.length) = some a /\ eqL k2 (xs.drop k1.length) (ys.drop k1.length) = some b /\ r = (a && b) := by
 intro k1
 induction k1 with
 | nil => intro k2 xs ys r he; exact ⟨true, r, by simp [eqL], by simpa using he, by simp⟩
 | cons k ks ih =>
  intro k2 xs ys r he
  rw [List.cons_append] at he
  unfold eqL at he
  split at he
  ·rename_i h0; cases h0
  ·rename_i k' ks' x l y q h0
   cases h0
   split at he
   ·rename_i p p' hp hp'
    obtain ⟨u, v, hu, hv, rfl⟩ := ih hp'
    cases he
    refine ⟨p && u, v, ?_, by simpa using hv, by simp [Bool.and_assoc]⟩
    simp [eqL, hp, hu]
   ·cases he
  ·cases he
def valOf (P : Program) (t : TypeId) (xs : List Value) : Value := if ttag P t = some true then .agg xs.toArray else xs.headD undef
theorem run_part_val {t : TypeId} {d : TypeDesc} (hd : P.underlying t = some d) {xs : List Value} {off : Nat} (h1 : ttag P t = some false -> tsize P t = 1 /\ off < xs.length) :
  (part t xs.toArray off).run P w = .ok (valOf P t ((xs.drop off).take (tsize P t))) w := by
 obtain ⟨i, hi⟩ := info_of_underlying hd
 unfold valOf
 cases hr : d.isRow
 ·have ht : ttag P t = some false := by
   unfold ttag; rw [hd]; cases d <;> first | rfl | (simp [TypeDesc.isRow] at hr)
  obtain ⟨h0, hlt⟩ := h1 ht
  rw [ht]
  simp [part, run_isAgg_row hd, hr, List.head?_take, List.head?_drop, hlt, h0]
 ·have ht : ttag P t = some true := by
   unfold ttag; rw [hd]; cases d <;> first | rfl | (simp [TypeDesc.isRow] at hr)
  rw [ht]
  simp [part, run_isAgg_row hd, hr, sizeOf, typeInfo, hi, size_of_info hi, List.extract]
theorem flatK_leaf {d : Nat} {t : TypeId} {l : List Nat} (hf : flatK P d t = some l) (ht : ttag P t = some false) : l.length = 1 := by
 cases d with
 | zero => cases hf
 | succ d =>
  unfold flatK at hf
  unfold ttag at ht
  split at hf
  ·cases hf; rfl
  ·cases hf; rfl
  ·cases hf; rfl
  ·rename_i hu; rw [hu] at ht; cases ht
  ·rename_i hu; rw [hu] at ht; cases ht
  ·cases hf
theorem flatK_under {d : Nat} {t : TypeId} {l : List Nat} (hf : flatK P d t = some l) : ∃ u, P.underlying t = some u := by
 cases d with
 | zero => cases hf
 | succ d =>
  unfold flatK at hf
  split at hf <;> first | exact ⟨_, by assumption⟩ | cases hf
theorem eqL_nil {xs ys : List Value} {r : Bool} (he : eqL [] xs ys = some r) : r = true := by
 cases xs <;> cases ys <;> simp [eqL] at he
 exact he
theorem eqL_one {k : Nat} {xs ys : List Value} {r : Bool} (he : eqL [k] xs ys = some r) : ∃ x y, xs = [x] /\ ys = [y] /\ eqS k x y = some r := by
 unfold eqL at he
 split at he
 ·rename_i h0; cases h0
 ·rename_i k' ks' x l y q h0
  cases h0
  split at he
  ·rename_i u v hu hv
   have := eqL_len hv
   have hl : l = [] := List.eq_nil_of_length_eq_zero this.1
   have hq : q = [] := List.eq_nil_of_length_eq_zero this.2
   subst hl; subst hq
   cases hv; cases he
   exact ⟨x, y, rfl, rfl, by simpa using hu⟩
  ·cases he
 ·cases he
theorem run_all_list (f : Nat -> Sem Bool) (b : Nat -> Bool) : ∀ (l : List Nat), (∀ i ∈ l, (f i).run P w = .ok (b i) w) ->
  (do
   for i in l do
    if !(<- f i) then return false
   pure true : Sem Bool).run P w = .ok (l.all b) w := by
 intro l
 induction l with
 | nil => intro _; rfl
 | cons i l ih =>
  intro hf
  have h1 := hf i (by simp)
  have h2 := ih (fun j hj => hf j (by simp [hj]))
  simp only [List.forIn_cons, Sem.run_bind, h1, Result.andThen_ok, Sem.run_ite, Sem.run_pure] at h2 ⊢
  cases hb : b i
  ·simp [hb]
  ·simp only [hb, Bool.not_true, Bool.false_eq_true, if_false, Result.andThen_ok, List.all_cons, Bool.true_and]
   exact h2
theorem run_forIn_all {n : Nat} (f : Nat -> Sem Bool) (b : Nat -> Bool) (hf : ∀ i, i < n -> (f i).run P w = .ok (b i) w) :
  (do
   for i in [0:n] do
    if !(<- f i) then return false
   pure true : Sem Bool).run P w = .ok ((List.range n).all b) w := by
 have := run_all_list (P := P) (w := w) f b (List.range n) (fun i hi => hf i (List.mem_range.1 hi))
 simp only [Std.Legacy.Range.forIn_eq_forIn_range', Std.Legacy.Range.size, Nat.sub_zero, Nat.add_sub_cancel, Nat.div_one] at this ⊢
 rw [<- List.range_eq_range']
 exact this
theorem part_run {d n o : Nat} {t : TypeId} {l : List Nat} (hf : flatK P d t = some l) (hs : tsize P t = l.length) {xs ys : List Value} {r : Bool}
  (he : eqL l ((xs.drop o).take l.length) ((ys.drop o).take l.length) = some r)
  (ih : ∀ {xs ys : List Value} {r : Bool}, eqL l xs ys = some r -> (Op.equalIn n t (valOf P t xs) (valOf P t ys)).run P w = .ok r w) :
  ∃ x y, (part t xs.toArray o).run P w = .ok x w /\ (part t ys.toArray o).run P w = .ok y w /\ (Op.equalIn n t x y).run P w = .ok r w := by
 obtain ⟨u, hu⟩ := flatK_under hf
 have hl := eqL_len he
 have hb : ∀ zs : List Value, ((zs.drop o).take l.length).length = l.length -> ttag P t = some false -> tsize P t = 1 /\ o < zs.length := fun zs hz ht => by
  have h1 := flatK_leaf hf ht
  rw [h1] at hz
  simp only [List.length_take, List.length_drop] at hz
  exact ⟨by omega, by omega⟩
 have hx := run_part_val (P := P) (w := w) hu (hb xs hl.1)
 have hy := run_part_val (P := P) (w := w) hu (hb ys hl.2)
 rw [hs] at hx hy
 exact ⟨_, _, hx, hy, ih he⟩
theorem fields_run {d n : Nat} (ih : ∀ {t : TypeId} {l : List Nat}, flatK P d t = some l -> ∀ {xs ys : List Value} {r : Bool}, eqL l xs ys = some r -> (Op.equalIn n t (valOf P t xs) (valOf P t ys)).run P w = .ok r w) (xs ys : List Value) :
  ∀ (fs : List Field) (o : Nat) (ks : List Nat) (r : Bool), flatFs (flatK P d) fs o = some ks -> (∀ f ∈ fs, ∀ l, flatK P d f.type = some l -> tsize P f.type = l.length) -> eqL ks (xs.drop o) (ys.drop o) = some r ->
  (Op.eqFields n xs.toArray ys.toArray fs).run P w = .ok r w := by
 intro fs
 induction fs with
 | nil => intro o ks r hf _ he; cases hf; rw [eqL_nil he]; rfl
 | cons f fs ihf =>
  intro o ks r hf hs he
  unfold flatFs at hf
  split at hf
  ·rename_i hb
   split at hf
   ·rename_i l hl
    split at hf
    ·rename_i l' hl'
     cases hf
     obtain ⟨p, q, hp, hq, rfl⟩ := eqL_append he
     obtain ⟨x, y, hx, hy, hxy⟩ := part_run hl (hs f (by simp) l hl) hp (fun h => ih hl h)
     have := ihf (o + l.length) l' q hl' (fun f hf => hs f (by simp [hf])) (by simpa [List.drop_drop] using hq)
     unfold Op.eqFields
     rw [if_pos hb.2, hb.1]
     simp only [Sem.run_bind, hx, hy, hxy, Result.andThen_ok, Sem.run_ite, this]
     cases p <;> simp
    ·cases hf
   ·cases hf
  ·cases hf
theorem flat_run : ∀ (d : Nat) {t : TypeId} {l : List Nat}, flatK P d t = some l -> ∀ n, d <= n -> ∀ {xs ys : List Value} {r : Bool}, eqL l xs ys = some r ->
  (Op.equalIn n t (valOf P t xs) (valOf P t ys)).run P w = .ok r w := by
 intro d
 induction d with
 | zero => intro t l hf; cases hf
 | succ d ih =>
  intro t l hf n hn xs ys r he
  obtain ⟨n, rfl⟩ : ∃ k, n = k + 1 := ⟨n - 1, by omega⟩
  unfold flatK at hf
  split at hf
  ·rename_i hu
   cases hf
   obtain ⟨x, y, rfl, rfl, hs⟩ := eqL_one he
   have ht : ttag P t = some false := by unfold ttag; rw [hu]
   simp only [valOf, ht]
   unfold eqS at hs
   split at hs
   ·cases hs; simp [Op.equalIn, run_underlying hu]
   ·rename_i h0; cases h0
   ·rename_i h0; cases h0
   ·cases hs
  ·rename_i k hu
   cases hf
   obtain ⟨x, y, rfl, rfl, hs⟩ := eqL_one he
   have ht : ttag P t = some false := by unfold ttag; rw [hu]
   simp only [valOf, ht]
   unfold eqS at hs
   split at hs
   ·rename_i h0; cases h0
   ·split at hs
    ·rename_i hk; cases hs; subst hk; simp [Op.equalIn, run_underlying hu]
    ·cases hs
   ·rename_i h0; cases h0
   ·cases hs
  ·rename_i hu
   cases hf
   obtain ⟨x, y, rfl, rfl, hs⟩ := eqL_one he
   have ht : ttag P t = some false := by unfold ttag; rw [hu]
   simp only [valOf, ht]
   unfold eqS at hs
   split at hs
   ·rename_i h0; cases h0
   ·rename_i h0; cases h0
   ·cases hs; simp [Op.equalIn, run_underlying hu, beq_toListBytes]
   ·cases hs
  ·rename_i k e hu
   split at hf
   ·rename_i l0 hl0
    split at hf
    ·rename_i hsz
     cases hf
     have ht : ttag P t = some true := by unfold ttag; rw [hu]
     obtain ⟨ue, hue⟩ := flatK_under hl0
     obtain ⟨ie, hie⟩ := info_of_underlying hue
     simp only [valOf, ht, if_true]
     have hall : ∃ b : Nat -> Bool, (∀ i, i < k -> eqL l0 ((xs.drop (i * l0.length)).take l0.length) ((ys.drop (i * l0.length)).take l0.length) = some (b i)) /\ r = (List.range k).all b := by
      clear hu
      induction k generalizing xs ys r with
      | zero =>
       refine ⟨fun _ => true, fun i hi => by omega, ?_⟩
       simp only [List.replicate_zero, List.flatten_nil] at he
       rw [eqL_nil he]
       rfl
      | succ k ihk =>
       rw [List.replicate_succ, List.flatten_cons] at he
       obtain ⟨p, q, hp, hq, rfl⟩ := eqL_append he
       obtain ⟨b, hb, rfl⟩ := ihk hq
       refine ⟨fun i => if i = 0 then p else b (i - 1), fun i hi => ?_, ?_⟩
       ·cases i with
        | zero => simpa using hp
        | succ i =>
         have := hb i (by omega)
         simp only [List.drop_drop] at this
         simp only [Nat.add_one_ne_zero, if_false, Nat.add_sub_cancel]
         rw [show (i + 1) * l0.length = l0.length + i * l0.length by rw [Nat.add_mul]; omega]
         exact this
       ·rw [List.range_succ_eq_map, List.all_cons, List.all_map]
        simp
        rfl
     obtain ⟨b, hb, rfl⟩ := hall
     have hrun := run_forIn_all (P := P) (w := w) (n := k) (fun i => do Op.equalIn n e (<- part e xs.toArray (i * l0.length)) (<- part e ys.toArray (i * l0.length))) b (fun i hi => by
      obtain ⟨x, y, hx, hy, hxy⟩ := part_run (n := n) (w := w) hl0 hsz (hb i hi) (fun h => ih hl0 n (by omega) h)
      simp [hx, hy, hxy])
     unfold Op.equalIn
     simp only [Sem.run_bind, run_underlying hu, Result.andThen_ok, run_sizeOf hie, <- size_of_info hie, hsz]
     simpa using hrun
    ·cases hf
   ·cases hf
  ·rename_i fs hu
   split at hf
   ·rename_i hb
    have ht : ttag P t = some true := by unfold ttag; rw [hu]
    simp only [valOf, ht, if_true]
    have hfo : P.fieldsOf t = fs := by unfold Program.fieldsOf; rw [hu]
    rw [run_equalIn_struct w n t xs.toArray ys.toArray (by rw [hfo]; exact hu) hb.1, hfo]
    refine fields_run (fun {_ _} h {_ _ _} he => ih h n (by omega) he) xs ys fs.toList 0 l r hf (fun f hm l hl => ?_) (by simpa using he)
    have := List.all_eq_true.1 hb.2 f hm
    rw [hl] at this
    simpa using this
   ·cases hf
  ·cases hf
theorem flatK_noGuard : ∀ (d : Nat) {t : TypeId} {l : List Nat}, flatK P d t = some l -> ∀ n, d <= n -> P.eqGuardType n t = false := by
 intro d
 induction d with
 | zero => intro t l hf; cases hf
 | succ d ih =>
  intro t l hf n hn
  obtain ⟨n, rfl⟩ : ∃ k, n = k + 1 := ⟨n - 1, by omega⟩
  unfold flatK at hf
  unfold Program.eqGuardType
  split at hf
  ·rename_i hu; rw [hu]
  ·rename_i hu; rw [hu]
  ·rename_i hu; rw [hu]
  ·rename_i hu
   rw [hu]
   split at hf
   ·rename_i l0 hl0
    exact ih hl0 n (by omega)
   ·cases hf
  ·rename_i fs hu
   rw [hu]
   split at hf
   ·rename_i hb
    simp only [Array.any_eq_false']
    intro f hm
    have := List.all_eq_true.1 hb.2 f (by simpa using hm)
    split at this
    ·rename_i l hl
     rw [ih hl n (by omega)]
     simp
    ·cases this
   ·cases hf
  ·cases hf
theorem pure_binOp (hC : Core vars m c w g h a) {o : Oper} {op : BinOp} {t u : TypeId} {x y : Operand} (ho : o.op = .binOp op t x y u) {v : V} (hv : evPure P vars (g, h) (.binOp op t x y u) = some v) :
  Fine P vars m c w g h a o v := by
 have hx := hC.opd x
 have hy := hC.opd y
 simp only [evPure] at hv
 split at hv
 ·rename_i p q hp hq
  rw [hp] at hx
  rw [hq] at hy
  have hx' : a.eval x = p := hx
  have hy' : a.eval y = q := hy
  simp only [Option.map_eq_some_iff] at hv
  obtain ⟨r, hr, rfl⟩ := hv
  obtain ⟨h1, h2⟩ := binT_run (P := P) (w := w) (t := t) hr
  exact ⟨r, yields_of (s := do eqGuard op t x y (a.eval x) (a.eval y); binOp op t (a.eval x) (a.eval y)) (by simp [execOp, ho]) (by simp [hx', hy', h1, h2]), rfl, TagOK.bare rfl⟩
 ·rename_i cs ds hp hq
  rw [hp] at hx
  rw [hq] at hy
  obtain ⟨xs, hx', hrx⟩ := hx
  obtain ⟨ys, hy', hry⟩ := hy
  split at hv
  ·rename_i ks hks
   unfold flatOf at hks
   split at hks
   ·rename_i hd
    have hg := flatK_noGuard 20 hks P.depth hd.1
    have key : ∀ r, eqCells ks cs ds = some r -> (Op.equalIn 10000 t (.agg xs) (.agg ys)).run P w = .ok r w := fun r hr => by
     have := flat_run (w := w) 20 hks 10000 (by omega) (eqCells_eqL hrx hry hr)
     simpa [valOf, hd.2] using this
    split at hv
    ·simp only [Option.map_eq_some_iff] at hv
     obtain ⟨r, hr, rfl⟩ := hv
     refine ⟨.bool r, yields_of (s := do eqGuard .eql t x y (a.eval x) (a.eval y); binOp .eql t (a.eval x) (a.eval y)) (by simp [execOp, ho]) ?_, rfl, TagOK.bare rfl⟩
     simp only [hx', hy', Sem.run_bind, run_eqGuard_agg w .eql t x y xs ys hg, Result.andThen_ok, run_eql_struct, key r hr]
    ·simp only [Option.map_eq_some_iff] at hv
     obtain ⟨r, hr, rfl⟩ := hv
     refine ⟨.bool !r, yields_of (s := do eqGuard .neq t x y (a.eval x) (a.eval y); binOp .neq t (a.eval x) (a.eval y)) (by simp [execOp, ho]) ?_, rfl, TagOK.bare rfl⟩
     simp only [hx', hy', Sem.run_bind, run_eqGuard_agg w .neq t x y xs ys hg, Result.andThen_ok, run_neq_struct, key r hr]
    ·cases hv
   ·cases hks
  ·cases hv
 ·cases hv
theorem pure_ok (hC : Core vars m c w g h a) {o : Oper} {v : V} (hv : evPure P vars (g, h) o.op = some v) : Fine P vars m c w g h a o v := by
 generalize hop : o.op = op at hv
 cases op with
 | move x => exact pure_move hC hop hv
 | pick k x y => exact pure_pick hC hop hv
 | build t parts => exact pure_build hC hop hv
 | load t x => exact pure_load hC hop hv
 | nilCheck x => exact pure_nilCheck hC hop hv
 | binOp op t x y u => exact pure_binOp hC hop hv
 | unOp op t x => exact pure_unOp hC hop hv
 | convert s d x => exact pure_convert hC hop hv
 | fieldAddr t x f => exact pure_fieldAddr hC hop hv
 | field t x f => exact pure_field hC hop hv
 | indexAddr t x i => exact pure_indexAddr hC hop hv
 | index t x i => exact pure_index hC hop hv
 | slice t x lo hi mx => exact pure_slice hC hop hv
 | extract x i => exact pure_extract hC hop hv
 | makeFunc fn first caps => exact pure_makeFunc hC hop hv
 | call k => exact pure_len hC hop hv
 | _ => cases hv
end
end Go.Lift
end

section
namespace Go.Lift
variable [GTab] [BTy]
theorem look_ins (t : Nat) (x : V) : ∀ (g : Env) (u : Nat), look (ins t x g) u = if u = t then x else look g u
 | [], u => by
  simp only [ins, look]
  by_cases h : u = t
  ·simp [h]
  ·simp [h, Ne.symm h]
 | (k, y) :: l, u => by
  unfold ins
  split
  ·simp only [look]
   by_cases h : u = t
   ·simp [h]
   ·simp [h, Ne.symm h]
  ·split
   ·rename_i h1 h2
    subst h2
    simp only [look]
    by_cases h : u = t
    ·simp [h]
    ·simp [h, Ne.symm h]
   ·rename_i h1 h2
    simp only [look, look_ins t x l u]
    by_cases hk : k = u
    ·subst hk
     simp [Ne.symm h2]
    ·simp [hk]
theorem look_untag : ∀ (g : Env) (u : Nat), look (untag g) u = untag1 (look g u)
 | [], u => rfl
 | (k, y) :: l, u => by
  simp only [untag, List.map_cons, look]
  split
  ·rfl
  ·exact look_untag l u
theorem look_untagC : ∀ (g : Env) (u : Nat), look (untagC g) u = untagC1 (look g u)
 | [], u => rfl
 | (k, y) :: l, u => by
  simp only [untagC, List.map_cons, look]
  split
  ·rfl
  ·exact look_untagC l u
theorem untag1_C1 (v : V) : untag1 (untagC1 v) = untag1 v := by
 cases v with
 | list k r => cases k <;> rfl
 | _ => rfl
theorem untag_untagC (g : Env) : untag (untagC g) = untag g := by
 simp only [untag, untagC, List.map_map]
 exact List.map_congr_left fun p _ => by simp only [Function.comp, untag1_C1]
theorem untagC1_slot {v : V} {u : Nat} {r : List (List V)} (hv : untagC1 v = .list (.slot u) r) : v = .list (.slot u) r := by
 cases v with
 | list k q => cases k <;> simp [untagC1] at hv ⊢; exact hv
 | _ => simp [untagC1] at hv
theorem untagC1_cell {v : V} {i j : Nat} {r : List (List V)} : untagC1 v ≠ .list (.cell i j) r := by
 cases v with
 | list k q => cases k <;> simp [untagC1]
 | _ => simp [untagC1]
section
variable {P : Program} {vars : List Nat} {m : List Nat} {c : Cl} {w : World} {g : Env} {h : Heap} {a : Act}
theorem VRr.untagC {v : V} {x : Value} (hv : VRr m c w v x) : VRr m c w (untagC1 v) x := by
 cases v with
 | list k r => cases k <;> exact VP.flag hv _
 | _ => exact hv
theorem VRr.untag {v : V} {x : Value} (hv : VRr m c w v x) : VRr m c w (untag1 v) x := by
 cases v with
 | list k r => cases k <;> exact VP.flag hv _
 | _ => exact hv
theorem untag1_yes {v : V} {r : List (List V)} : untag1 v = .list .yes r ↔ v = .list .yes r := by
 cases v with
 | list k q => cases k <;> simp [untag1]
 | _ => simp [untag1]
theorem untag1_tag {v : V} {k : Own} {r : List (List V)} (hv : untag1 v = .list k r) : k = .yes \/ k = .no := by
 cases v with
 | list k q => cases k <;> simp [untag1] at hv <;> simp [hv.1.symm]
 | _ => simp [untag1] at hv
theorem Core.untag (hC : Core vars m c w g h a) : Core vars m c w (untag g) h a := by
 have hAt : ∀ {l r x}, At m w (Lift.untag g) h a l r x -> At m w g h a l r x := fun {l r x} hl => by
  cases l with
  | slot t => exact ⟨untag1_yes.1 (by rw [<- look_untag]; exact hl.1), hl.2⟩
  | cell i j => exact hl
 refine ⟨hC.wf1, hC.wf2, hC.nd, hC.len, fun t => ?_, hC.ob, fun l r x hl => hC.own l r x (hAt hl), fun l l' r r' x x' b h1 h2 => hC.uniq l l' r r' x x' b (hAt h1) (hAt h2), fun t u r ht => ?_, fun t i j r ht => ?_, hC.gt⟩
 ·rw [look_untag]; exact (hC.env t).untag
 ·rw [look_untag] at ht; have := untag1_tag ht; simp at this
 ·rw [look_untag] at ht; have := untag1_tag ht; simp at this
theorem noTags (t u : Nat) (r : List (List V)) : look (untag g) t ≠ .list (.slot u) r := fun ht => by
 rw [look_untag] at ht; have := untag1_tag ht; simp at this
theorem getD_set (tm : Array Value) (t u : Nat) (x : Value) (ht : t < tm.size) : (tm.setIfInBounds t x).getD u undef = if u = t then x else tm.getD u undef := by
 by_cases h : u = t
 ·subst h; simp [Array.getD, ht]
 ·simp only [if_neg h]
  simp only [Array.getD_eq_getD_getElem?, Array.getElem?_setIfInBounds_ne (Ne.symm h)]
theorem Core.ins (hC : Core vars m c w g h a) {t : Nat} {v : V} {x : Value} (ht : t < a.tmps.size) (hv : VRr m c w v x)
  (hown : ∀ r, v = .list .yes r -> OwnB m c w r x /\ ∀ l r' x' b, l ≠ .slot t -> At m w g h a l r' x' -> ownBlk x = some b -> ownBlk x' ≠ some b)
  (htS : ∀ u r, v = .list (.slot u) r -> u ∈ vars /\ u ≠ t /\ look g u = .list .yes r /\ x = a.tmps.getD u undef)
  (htC : ∀ i j r, v = .list (.cell i j) r -> At m w g h a (.cell i j) r x)
  (hno : t ∉ vars \/ ∀ t' u r, look g t' ≠ .list (.slot u) r) :
  Core vars m c w (ins t v g) h { a with tmps := a.tmps.setIfInBounds t x } := by
 have hget := fun u => getD_set a.tmps t u x ht
 have hAt : ∀ {l r y}, At m w (Lift.ins t v g) h { a with tmps := a.tmps.setIfInBounds t x } l r y ->
   (l = .slot t /\ v = .list .yes r /\ y = x) \/ (l ≠ .slot t /\ At m w g h a l r y) := fun {l r y} hl => by
  cases l with
  | slot u =>
   obtain ⟨h1, h2⟩ := hl
   rw [look_ins] at h1
   simp only [hget] at h2
   by_cases hu : u = t
   ·subst hu
    simp only [if_true] at h1 h2
    exact .inl ⟨rfl, h1, h2⟩
   ·simp only [if_neg hu] at h1 h2
    exact .inr ⟨fun e => hu (by cases e; rfl), h1, h2⟩
  | cell i j => exact .inr ⟨fun e => (by cases e), hl⟩
 refine ⟨hC.wf1, hC.wf2, hC.nd, hC.len, fun u => ?_, hC.ob, fun l r y hl => ?_, fun l l' r r' y y' b h1 h2 hb hb' => ?_, fun u s r hu => ?_, fun u i j r hu => ?_, hC.gt⟩
 ·rw [look_ins]
  simp only [hget]
  split
  ·exact hv
  ·exact hC.env u
 ·rcases hAt hl with ⟨_, he, rfl⟩ | ⟨_, hl⟩
  ·exact (hown r he).1
  ·exact hC.own l r y hl
 ·rcases hAt h1 with ⟨e1, he, hy⟩ | ⟨n1, g1⟩
  ·rcases hAt h2 with ⟨e2, _, _⟩ | ⟨n2, g2⟩
   ·rw [e1, e2]
   ·exact absurd hb' ((hown r he).2 l' r' y' b n2 g2 (hy ▸ hb))
  ·rcases hAt h2 with ⟨e2, he, hy⟩ | ⟨n2, g2⟩
   ·exact absurd hb ((hown r' he).2 l r y b n1 g1 (hy ▸ hb'))
   ·exact hC.uniq l l' r r' y y' b g1 g2 hb hb'
 ·rw [look_ins] at hu
  simp only [look_ins, hget]
  by_cases hut : u = t
  ·simp only [hut, if_true] at hu ⊢
   obtain ⟨h1, h2, h3, h4⟩ := htS s r hu
   simp only [if_neg h2]
   exact ⟨h1, h3, h4⟩
  ·simp only [if_neg hut] at hu ⊢
   obtain ⟨h1, h2, h3⟩ := hC.tagS u s r hu
   have hst : s ≠ t := by
    rcases hno with hno | hno
    ·intro e; rw [e] at h1; exact hno h1
    ·exact absurd hu (hno u s r)
   simp only [if_neg hst]
   exact ⟨h1, h2, h3⟩
 ·rw [look_ins] at hu
  simp only [hget]
  by_cases hut : u = t
  ·simp only [hut, if_true] at hu ⊢
   exact htC i j r hu
  ·simp only [if_neg hut] at hu ⊢
   exact hC.tagC u i j r hu
theorem Core.release (hC : Core vars m c w g h a) {u : Nat} {r q : List (List V)} (hu : look g u = .list .yes r) (hq : q = r) : Core vars m c w (Lift.untag (Lift.ins u (.list .no q) g)) h a := by
 subst hq
 have hAt : ∀ {l r x}, At m w (Lift.untag (Lift.ins u (.list .no q) g)) h a l r x -> l ≠ .slot u /\ At m w g h a l r x := fun {l r x} hl => by
  cases l with
  | slot t =>
   obtain ⟨h1, h2⟩ := hl
   rw [look_untag, untag1_yes, look_ins] at h1
   split at h1
   ·cases h1
   ·rename_i ht
    exact ⟨fun e => ht (by cases e; rfl), h1, h2⟩
  | cell i j => exact ⟨fun e => (by cases e), hl⟩
 refine ⟨hC.wf1, hC.wf2, hC.nd, hC.len, fun t => ?_, hC.ob, fun l r x hl => hC.own l r x (hAt hl).2, fun l l' r r' x x' b h1 h2 => hC.uniq l l' r r' x x' b (hAt h1).2 (hAt h2).2, fun t s r ht => ?_, fun t i j r ht => ?_, hC.gt⟩
 ·rw [look_untag, look_ins]
  apply VRr.untag
  split
  ·rename_i ht
   subst ht
   have := hC.env t
   rw [hu] at this
   exact VP.flag this _
  ·exact hC.env t
 ·exact absurd ht (noTags t s r)
 ·rw [look_untag] at ht; have := untag1_tag ht; simp at this
end
end Go.Lift
end

section
namespace Go.Lift
variable [GTab] [BTy]
section
variable {P : Program} {vars : List Nat} {m : List Nat} {c : Cl} {w : World} {g : Env} {h : Heap} {a : Act}
theorem Core.c_zero (hC : Core vars m c w g h a) {b : Nat} (hb : w.heap.size <= b) : c b = 0 := by
 rcases Nat.eq_zero_or_pos (c b) with h0 | h0
 ·exact h0
 ·obtain ⟨arr, e, f, he, _⟩ := hC.wf1 b h0
  have := (Array.getElem?_eq_some_iff.1 he).1
  omega
theorem ObR.lt {o : Ob} {b : Nat} (ho : ObR m c w o b) : b < w.heap.size := by
 cases o with
 | cells cs => obtain ⟨arr, e, f, he, _⟩ := ho; exact (Array.getElem?_eq_some_iff.1 he).1
 | iter s p => exact (Array.getElem?_eq_some_iff.1 ho).1
 | tab es => obtain ⟨arr, k, he, _⟩ := ho; exact (Array.getElem?_eq_some_iff.1 he).1
theorem Core.m_lt (hC : Core vars m c w g h a) {i b : Nat} (hi : m[i]? = some b) : b < w.heap.size := by
 have hl : i < h.length := by rw [<- hC.len]; exact (List.getElem?_eq_some_iff.1 hi).1
 exact (hC.ob i h[i] b (List.getElem?_eq_getElem hl) hi).lt
theorem cell_of_heap {w w' : World} {b : Nat} (hb : w'.heap[b]? = w.heap[b]?) (o : Nat) : w'.cell? ⟨b, o, none⟩ = w.cell? ⟨b, o, none⟩ := by
 simp [World.cell?, hb]
theorem frozen_of_heap {w w' : World} {b : Nat} (hb : w'.heap[b]? = w.heap[b]?) (o : Nat) : w'.frozen? ⟨b, o, none⟩ = w.frozen? ⟨b, o, none⟩ := by
 simp [World.frozen?, hb]
theorem ObR.keep {w' : World} {m' : List Nat} {c' : Cl} {o : Ob} {b : Nat} (ho : ObR m c w o b) (hb : w'.heap[b]? = w.heap[b]?) (hm : Pre m m') (e : Ext c w c' w') : ObR m' c' w' o b := by
 cases o with
 | cells cs =>
  obtain ⟨arr, el, f, he, hle, hfr, hall, hbld⟩ := ho
  exact ⟨arr, el, f, by rw [hb]; exact he, hle, fun j hj => by rw [frozen_of_heap hb]; exact hfr j hj, fun j v x hv hx => ⟨(hall j v x hv hx).1.mono hm e, (hall j v x hv hx).2⟩, hbld⟩
 | iter s p => show w'.heap[b]? = _; rw [hb]; exact ho
 | tab es => obtain ⟨arr, k, he, h2⟩ := ho; exact ⟨arr, k, by rw [hb]; exact he, h2⟩
theorem OwnB.keep {w' : World} {m' : List Nat} {c' : Cl} {r : List (List V)} {x : Value} (ho : OwnB m c w r x) (hb : ∀ b, ownBlk x = some b -> w'.heap[b]? = w.heap[b]? /\ c' b = c b /\ (b ∉ m -> b ∉ m')) : OwnB m' c' w' r x := by
 rcases ho with h0 | ⟨b, cap, cur, e, sz, rfl, h1, h2, h3, h4, h5, h6, h7, h8, h9, h10⟩
 ·exact .inl h0
 ·obtain ⟨k1, k2, k3⟩ := hb b rfl
  exact .inr ⟨b, cap, cur, e, sz, rfl, by rw [k1]; exact h1, h2, h3, h4, h5, h6, by rw [k2]; exact h7, k3 h8, h9, h10⟩
theorem OwnB.lt {r : List (List V)} {x : Value} (ho : OwnB m c w r x) {b : Nat} (hb : ownBlk x = some b) : b < w.heap.size /\ b ∉ m := by
 rcases ho with ⟨rfl, _⟩ | ⟨b', cap, cur, e, sz, rfl, h1, h2, h3, h4, h5, h6, h7, h8, h9, h10⟩
 ·cases hb
 ·cases hb; exact ⟨(Array.getElem?_eq_some_iff.1 h1).1, h8⟩
theorem okc_mono {n k : Nat} (hn : n <= k) {v : V} (hv : okc n v = true) : okc k v = true := by
 cases v <;> first | exact hv | (simp [okc] at hv ⊢; omega)
theorem okv_mono {n k : Nat} {v : V} (hv : okv n v = true) (hn : n <= k) : okv k v = true := by
 cases v with
 | agg cs => simp only [okv, List.all_eq_true] at hv ⊢; exact fun x hx => okc_mono hn (hv x hx)
 | fn f cs => simp only [okv, List.all_eq_true] at hv ⊢; exact fun x hx => okc_mono hn (hv x hx)
 | undef => rfl
 | any => rfl
 | v y => rfl
 | nil => rfl
 | list k r => rfl
 | rp cs => rfl
 | tup vs => cases hv
 | ptr b o => exact okc_mono (v := .ptr b o) hn hv
 | mp b => exact okc_mono (v := .mp b) hn hv
 | buf b o k => exact okc_mono (v := .buf b o k) hn hv
 | stk b k sz => exact okc_mono (v := .stk b k sz) hn hv
theorem VR0.okc {v : V} {x : Value} (hv : VR0 m c w v x) : okc m.length v = true := by
 cases v with
 | ptr b o => obtain ⟨g, hg, _⟩ := hv; simp [Lift.okc]; exact (List.getElem?_eq_some_iff.1 hg).1
 | mp b => obtain ⟨g, hg, _⟩ := hv; simp [Lift.okc]; exact (List.getElem?_eq_some_iff.1 hg).1
 | buf b o n => obtain ⟨g, cap, hg, _⟩ := hv; simp [Lift.okc]; exact (List.getElem?_eq_some_iff.1 hg).1
 | stk b n sz => obtain ⟨g, cap, hg, _⟩ := hv; simp [Lift.okc]; exact (List.getElem?_eq_some_iff.1 hg).1
 | agg cs => exact hv.elim
 | tup cs => exact hv.elim
 | fn f cs => exact hv.elim
 | _ => rfl
theorem VR1.okv {v : V} {x : Value} (hv : VR1 m c w v x) : okv m.length v = true := by
 cases v with
 | fn f cs =>
  obtain ⟨fs, xs, rfl, hr1, hr⟩ := hv
  simp only [Lift.okv, List.all_eq_true]
  intro y hy
  rcases splitB_mem hy with rfl | hy | hy
  ·rfl
  ·obtain ⟨i, hi, rfl⟩ := List.getElem_of_mem hy
   obtain ⟨z, hz, hv⟩ := hr1.get (List.getElem?_eq_getElem hi)
   exact hv.okc
  ·obtain ⟨i, hi, rfl⟩ := List.getElem_of_mem hy
   obtain ⟨z, hz, hv⟩ := hr.get (List.getElem?_eq_getElem hi)
   exact hv.okc
 | agg cs => exact hv.elim
 | tup cs => exact hv.elim
 | undef => rfl
 | any => rfl
 | v y => rfl
 | nil => rfl
 | list k r => rfl
 | ptr b o => exact VR0.okc (c := c) (w := w) (v := .ptr b o) (x := x) hv
 | mp b => exact VR0.okc (c := c) (w := w) (v := .mp b) (x := x) hv
 | rp cs => rfl
 | buf b o n => exact VR0.okc (c := c) (w := w) (v := .buf b o n) (x := x) hv
 | stk b n sz => exact VR0.okc (c := c) (w := w) (v := .stk b n sz) (x := x) hv
structure Grow (m : List Nat) (c : Cl) (w : World) (h : Heap) (nm : List Nat) (c' : Cl) (w' : World) (nh : Heap) : Prop where
 size : w.heap.size <= w'.heap.size
 old : ∀ b, b < w.heap.size -> w'.heap[b]? = w.heap[b]?
 oldc : ∀ b, b < w.heap.size -> c' b = c b
 newc : ∀ b, w.heap.size <= b -> 0 < c' b -> ∃ arr e f, w'.heap[b]? = some (.cells arr e f) /\ c' b <= arr.size
 nm1 : ∀ b ∈ nm, w.heap.size <= b /\ c' b = 0
 nd : nm.Nodup
 len : nm.length = nh.length
 ob : ∀ (i : Nat) o b, nh[i]? = some o -> nm[i]? = some b -> ObR (m ++ nm) c' w' o b
 one : nm.length <= 1
 noOwn : ∀ (i : Nat) (cs : List V) (j : Nat) (r : List (List V)) (b : Nat), nh[i]? = some (.cells cs) -> cs[j]? = some (.list .yes r) -> nm[i]? = some b -> r = [] /\ w'.cell? ⟨b, j, none⟩ = some (.slice none 0 0)
 os : w'.os = w.os
 tape : w'.tape = w.tape
 output : w'.output = w.output
theorem Grow.ext {nm : List Nat} {c' : Cl} {w' : World} {nh : Heap} (hG : Grow m c w h nm c' w' nh) (hC : Core vars m c w g h a) : Ext c w c' w' := by
 refine ⟨fun b => ?_, fun b o ho => ?_, fun b _ => ?_⟩
 ·rcases Nat.lt_or_ge b w.heap.size with hb | hb
  ·rw [hG.oldc b hb]; exact Nat.le_refl _
  ·rw [hC.c_zero hb]; exact Nat.zero_le _
 ·rcases Nat.lt_or_ge b w.heap.size with hb | hb
  ·exact cell_of_heap (hG.old b hb) o
  ·rw [hC.c_zero hb] at ho; omega
 ·exact Shp.old hG.old b
theorem cellsOfOb_append {h nh : Heap} {i : Nat} {cs : List V} (hi : cellsOfOb (h ++ nh) i = some cs) : (i < h.length /\ cellsOfOb h i = some cs) \/ (h.length <= i /\ nh[i - h.length]? = some (.cells cs)) := by
 unfold cellsOfOb at *
 rw [List.getElem?_append] at hi
 split at hi
 ·rename_i cs' hcs
  cases hi
  split at hcs
  ·rename_i hl; rw [hcs]; exact .inl ⟨hl, rfl⟩
  ·rename_i hl; exact .inr ⟨by omega, hcs⟩
 ·cases hi
theorem Core.grow {nm : List Nat} {c' : Cl} {w' : World} {nh : Heap} (hC : Core vars m c w g h a) (hG : Grow m c w h nm c' w' nh) :
  Core vars (m ++ nm) c' w' g (h ++ nh) a := by
 have he := hG.ext hC
 have hmm : ∀ {i b}, m[i]? = some b -> b ∉ nm := fun hi hb => by have := hC.m_lt hi; have := (hG.nm1 _ hb).1; omega
 have hAt : ∀ {l r x}, At (m ++ nm) w' g (h ++ nh) a l r x -> At m w g h a l r x \/ (r = [] /\ x = .slice none 0 0) := fun {l r x} hl => by
  cases l with
  | slot t => exact .inl hl
  | cell i j =>
   obtain ⟨cs, b, h1, h2, h3, h4⟩ := hl
   rcases cellsOfOb_append h1 with ⟨hi, hcs⟩ | ⟨hi, hcs⟩
   ·rw [List.getElem?_append_left (by rw [hC.len]; exact hi)] at h3
    exact .inl ⟨cs, b, hcs, h2, h3, by rw [<- cell_of_heap (hG.old b (hC.m_lt h3))]; exact h4⟩
   ·rw [List.getElem?_append_right (by rw [hC.len]; exact hi), hC.len] at h3
    obtain ⟨k1, k2⟩ := hG.noOwn _ cs j r b hcs h2 h3
    rw [h4] at k2
    exact .inr ⟨k1, Option.some.inj k2⟩
 have hAt' : ∀ {l r x}, At m w g h a l r x -> At (m ++ nm) w' g (h ++ nh) a l r x := fun {l r x} hl => by
  cases l with
  | slot t => exact hl
  | cell i j =>
   obtain ⟨cs, b, h1, h2, h3, h4⟩ := hl
   refine ⟨cs, b, ?_, h2, Pre.append m nm i b h3, by rw [cell_of_heap (hG.old b (hC.m_lt h3))]; exact h4⟩
   unfold cellsOfOb at *
   split at h1
   ·rename_i cs' hcs
    cases h1
    rw [List.getElem?_append_left (List.getElem?_eq_some_iff.1 hcs).1, hcs]
   ·cases h1
 refine ⟨fun b hb => ?_, fun b hb => ?_, ?_, by simp [hC.len, hG.len], fun t => (hC.env t).mono (Pre.append m nm) he, fun i o b ho hb => ?_, fun l r x hl => ?_, fun l l' r r' x x' b h1 h2 hb hb' => ?_, hC.tagS, fun t i j r ht => hAt' (hC.tagC t i j r ht), fun n cs hg => (hC.gt n cs hg).mono he⟩
 ·rcases Nat.lt_or_ge b w.heap.size with hl | hl
  ·rw [hG.oldc b hl] at hb
   rw [hG.oldc b hl, hG.old b hl]
   exact hC.wf1 b hb
  ·exact hG.newc b hl hb
 ·rcases List.mem_append.1 hb with hb | hb
  ·obtain ⟨i, hi, rfl⟩ := List.getElem_of_mem hb
   rw [hG.oldc _ (hC.m_lt (List.getElem?_eq_getElem hi))]
   exact hC.wf2 _ hb
  ·exact (hG.nm1 b hb).2
 ·rw [List.nodup_append]
  refine ⟨hC.nd, hG.nd, fun x hx y hy e => ?_⟩
  obtain ⟨i, hi, rfl⟩ := List.getElem_of_mem hx
  subst e
  exact hmm (List.getElem?_eq_getElem hi) hy
 ·rw [List.getElem?_append] at ho hb
  rw [hC.len] at hb
  split at ho
  ·rename_i hl
   rw [if_pos hl] at hb
   exact (hC.ob i o b ho hb).keep (hG.old b (hC.m_lt hb)) (Pre.append m nm) he
  ·rename_i hl
   rw [if_neg hl] at hb
   exact hG.ob _ o b ho hb
 ·rcases hAt hl with hl | ⟨rfl, rfl⟩
  ·refine (hC.own l r x hl).keep fun b hb => ?_
   have := (hC.own l r x hl).lt hb
   exact ⟨hG.old b this.1, hG.oldc b this.1, fun hn hb' => by
    rcases List.mem_append.1 hb' with h' | h'
    ·exact hn h'
    ·have := (hG.nm1 b h').1; omega⟩
  ·exact .inl ⟨rfl, rfl⟩
 ·rcases hAt h1 with h1 | ⟨rfl, rfl⟩
  ·rcases hAt h2 with h2 | ⟨rfl, rfl⟩
   ·exact hC.uniq l l' r r' x x' b h1 h2 hb hb'
   ·cases hb'
  ·cases hb
def Keeps (B : Nat) (h0 h : Heap) : Prop := ∀ (n i : Nat) cs, i < B -> i < n -> cellsOfOb h i = some cs -> (∀ cs0, cellsOfOb h0 i = some cs0 -> ∀ v ∈ cs0, okv n v = true) -> ∀ v ∈ cs, okv n v = true
structure Entry where
 lo : Nat
 base : Nat
 w : World
 m : List Nat
 c : Cl
 ho : Nat -> Prop
 h : Heap
 nt : Nat
structure InvP (vars : List Nat) (E : Entry) (m : List Nat) (c : Cl) (w : World) (g : Env) (h : Heap) (a : Act) : Prop where
 core : Core vars m c w g h a
 fr : Fr E.lo E.ho E.w E.m E.c w m c
 owned : Owned E.lo E.ho E.w m w g h a
 hlo : h.take E.lo = E.h.take E.lo
 hlen : E.base <= h.length
 ml : E.m.length = E.base
 lole : E.lo <= E.base
 nt : a.tmps.size = E.nt
 df : a.defers = []
 old : Keeps E.base E.h h
 ent : ∀ (i : Nat) cs, cellsOfOb E.h i = some cs -> ∀ v ∈ cs, okv E.base v = true
theorem InvP.grow {E : Entry} {nm : List Nat} {c' : Cl} {w' : World} {nh : Heap} (hI : InvP vars E m c w g h a) (hG : Grow m c w h nm c' w' nh) :
  InvP vars E (m ++ nm) c' w' g (h ++ nh) a := by
 have hC := hI.core
 refine ⟨hC.grow hG, ?_, ?_, ?_, by simp; have := hI.hlen; omega, hI.ml, hI.lole, hI.nt, hI.df, fun n i cs hib hin hcs h0 => ?_, hI.ent⟩
 ·refine ⟨hG.os.trans hI.fr.os, hG.tape.trans hI.fr.tape, hG.output.trans hI.fr.output, Nat.le_trans hI.fr.size hG.size, hI.fr.pre.trans (Pre.append m nm), fun i b hi hb => ?_, hI.fr.ext.trans (hG.ext hC), fun b hb h1 h2 => ?_⟩
  ·rw [List.getElem?_append] at hb
   split at hb
   ·exact hI.fr.new i b hi hb
   ·exact Nat.le_trans hI.fr.size (hG.nm1 b (List.mem_of_getElem? hb)).1
  ·have hl := Nat.lt_of_lt_of_le hb hI.fr.size
   rw [hG.old b hl, hG.oldc b hl]
   exact hI.fr.fix b hb h1 h2
 ·intro l r x b hl hu hb
  cases l with
  | slot t => exact hI.owned (.slot t) r x b hl hu hb
  | cell i j =>
   obtain ⟨cs, bb, h1, h2, h3, h4⟩ := hl
   rcases cellsOfOb_append h1 with ⟨hi, hcs⟩ | ⟨hi, hcs⟩
   ·rw [List.getElem?_append_left (by rw [hC.len]; exact hi)] at h3
    exact hI.owned (.cell i j) r x b ⟨cs, bb, hcs, h2, h3, by rw [<- cell_of_heap (hG.old bb (hC.m_lt h3))]; exact h4⟩ hu hb
   ·rw [List.getElem?_append_right (by rw [hC.len]; exact hi), hC.len] at h3
    obtain ⟨k1, k2⟩ := hG.noOwn _ cs j r bb hcs h2 h3
    rw [h4] at k2
    cases k2
    cases hb
 ·rw [List.take_append_of_le_length (by have := hI.hlen; have := hI.lole; omega)]
  exact hI.hlo
 ·rcases cellsOfOb_append hcs with ⟨_, hcs⟩ | ⟨hi', hcs⟩
  ·exact hI.old n i cs hib hin hcs h0
  ·have := hI.hlen
   omega
theorem InvP.ins {E : Entry} (hI : InvP vars E m c w g h a) {t : Nat} {v : V} {x : Value} (ht : t < E.nt) (hv : VRr m c w v x)
  (hown : ∀ r, v = .list .yes r -> (OwnB m c w r x /\ ∀ l r' x' b, l ≠ .slot t -> At m w g h a l r' x' -> ownBlk x = some b -> ownBlk x' ≠ some b) /\ ∀ b, ownBlk x = some b -> E.w.heap.size <= b \/ E.ho b)
  (htS : ∀ u r, v = .list (.slot u) r -> u ∈ vars /\ u ≠ t /\ look g u = .list .yes r /\ x = a.tmps.getD u undef)
  (htC : ∀ i j r, v = .list (.cell i j) r -> At m w g h a (.cell i j) r x)
  (hno : t ∉ vars \/ ∀ t' u r, look g t' ≠ .list (.slot u) r) :
  InvP vars E m c w (Lift.ins t v g) h (a.put (some t) x) := by
 have ht' : t < a.tmps.size := by rw [hI.nt]; exact ht
 refine ⟨hI.core.ins ht' hv (fun r hr => (hown r hr).1) htS htC hno, hI.fr, ?_, hI.hlo, hI.hlen, hI.ml, hI.lole, by simp [Act.put, hI.nt], hI.df, hI.old, hI.ent⟩
 intro l r y b hl hu hb
 cases l with
 | slot u =>
  obtain ⟨h1, h2⟩ := hl
  rw [look_ins] at h1
  simp only [Act.put, getD_set a.tmps t u x ht'] at h2
  by_cases hut : u = t
  ·simp only [hut, if_true] at h1 h2
   subst h2
   exact (hown r h1).2 b hb
  ·simp only [if_neg hut] at h1 h2
   exact hI.owned (.slot u) r y b ⟨h1, h2⟩ trivial hb
 | cell i j => exact hI.owned (.cell i j) r y b hl hu hb
theorem InvP.put {E : Entry} (hI : InvP vars E m c w g h a) {d : Option Nat} {v : V} {x : Value} (hd : ∀ t, d = some t -> t < E.nt) (hv : VRr m c w v x) (ht : TagOK vars m w g h a v x)
  (hno : (∀ t, d = some t -> t ∉ vars) \/ ((∀ t' u r, look g t' ≠ .list (.slot u) r) /\ bare v = true)) : InvP vars E m c w (Lift.put d v g) h (a.put d x) := by
 cases d with
 | none => exact hI
 | some t =>
  refine hI.ins (hd t rfl) hv (fun r e => absurd e (ht.1 r)) (fun u r e => ?_) (fun i j r e => ht.2.2 i j r e) (hno.imp (fun h1 => h1 t rfl) (fun h1 => h1.1))
  obtain ⟨h1, h2, h3⟩ := ht.2.1 u r e
  refine ⟨h1, ?_, h2, h3⟩
  rcases hno with hno | hno
  ·intro e'; exact hno t rfl (e' ▸ h1)
  ·rw [e] at hno; simp [Lift.bare] at hno
theorem InvP.untag {E : Entry} (hI : InvP vars E m c w g h a) : InvP vars E m c w (Lift.untag g) h a :=
 ⟨hI.core.untag, hI.fr, fun l r x b hl hu hb => by
  cases l with
  | slot t => exact hI.owned (.slot t) r x b ⟨untag1_yes.1 (by rw [<- look_untag]; exact hl.1), hl.2⟩ trivial hb
  | cell i j => exact hI.owned (.cell i j) r x b hl hu hb, hI.hlo, hI.hlen, hI.ml, hI.lole, hI.nt, hI.df, hI.old, hI.ent⟩
theorem InvP.release {E : Entry} (hI : InvP vars E m c w g h a) {u : Nat} {r : List (List V)} (hu : look g u = .list .yes r) : InvP vars E m c w (Lift.untag (Lift.ins u (.list .no r) g)) h a :=
 ⟨hI.core.release hu rfl, hI.fr, fun l q x b hl hup hb => by
  cases l with
  | slot t =>
   obtain ⟨h1, h2⟩ := hl
   rw [look_untag, untag1_yes, look_ins] at h1
   split at h1
   ·cases h1
   ·exact hI.owned (.slot t) q x b ⟨h1, h2⟩ trivial hb
  | cell i j => exact hI.owned (.cell i j) q x b hl hup hb, hI.hlo, hI.hlen, hI.ml, hI.lole, hI.nt, hI.df, hI.old, hI.ent⟩
end
end Go.Lift
end

section
namespace Go.Lift
variable [GTab] [BTy]
section
variable {P : Program} {vars : List Nat} {m : List Nat} {c : Cl} {w : World} {g : Env} {h : Heap} {a : Act}
theorem cellsOfOb_set {h : Heap} {i k : Nat} {o : Ob} {cs : List V} (hk : cellsOfOb (h.set i o) k = some cs) : (k = i /\ o = .cells cs) \/ (k ≠ i /\ cellsOfOb h k = some cs) := by
 unfold cellsOfOb at *
 rw [List.getElem?_set] at hk
 by_cases hki : i = k
 ·subst hki
  simp only [if_true] at hk
  by_cases hl : i < h.length
  ·simp only [hl, if_true] at hk
   split at hk
   ·rename_i cs' hcs
    cases hk; cases hcs
    exact .inl ⟨rfl, rfl⟩
   ·cases hk
  ·simp [hl] at hk
 ·simp only [if_neg hki] at hk
  exact .inr ⟨Ne.symm hki, hk⟩
theorem InvP.setOb {E : Entry} (hI : InvP vars E m c w g h a) {i gb : Nat} {o' : Ob} {w' : World} (jf : Nat)
  (hlo : E.lo <= i) (hi : m[i]? = some gb)
  (hsz : w'.heap.size = w.heap.size) (hother : ∀ b, b ≠ gb -> w'.heap[b]? = w.heap[b]?) (hos : w'.os = w.os) (htape : w'.tape = w.tape) (hout : w'.output = w.output)
  (hob : ObR m c w' o' gb)
  (hown : ∀ cs' (j : Nat) r x, o' = .cells cs' -> cs'[j]? = some (.list .yes r) -> w'.cell? ⟨gb, j, none⟩ = some x -> (r = [] /\ x = .slice none 0 0) \/
   (j ≠ jf -> At m w g h a (.cell i j) r x) /\
   (j = jf -> OwnB m c w r x /\ (∀ l r' x' b, At m w g h a l r' x' -> l ≠ .cell i j -> ownBlk x = some b -> ownBlk x' ≠ some b) /\ ∀ b, ownBlk x = some b -> E.w.heap.size <= b \/ E.ho b))
  (hnt : ∀ t i j r, look g t ≠ .list (.cell i j) r)
  (hold : ∀ cs', o' = .cells cs' -> i < E.base -> ∀ n, i < n -> (∀ cs, cellsOfOb h i = some cs -> ∀ v ∈ cs, okv n v = true) -> ∀ v ∈ cs', okv n v = true) (hshp : Shp w w' gb) :
  InvP vars E m c w' g (h.set i o') a := by
 have hC := hI.core
 have hc0 : c gb = 0 := hC.wf2 gb (List.mem_of_getElem? hi)
 have he : Ext c w c w' := ⟨fun _ => Nat.le_refl _, fun b o ho => by
  by_cases hb : b = gb
  ·rw [hb, hc0] at ho; omega
  ·exact cell_of_heap (hother b hb) o, fun b _ => by
  by_cases hb : b = gb
  ·rw [hb]; exact hshp
  ·exact Shp.same (hother b hb)⟩
 have hmne : ∀ {k b}, m[k]? = some b -> k ≠ i -> b ≠ gb := fun {k b} hk hki e => by
  subst e
  have h1 := (List.getElem?_eq_some_iff.1 hk)
  have h2 := (List.getElem?_eq_some_iff.1 hi)
  obtain ⟨l1, e1⟩ := h1
  obtain ⟨l2, e2⟩ := h2
  exact hki ((List.getElem_inj hC.nd).1 (e1.trans e2.symm))
 have hAt : ∀ {l r x}, At m w' g (h.set i o') a l r x -> (At m w g h a l r x /\ l ≠ .cell i jf) \/
   (l = .cell i jf /\ OwnB m c w r x /\ (∀ l r' x' b, At m w g h a l r' x' -> l ≠ .cell i jf -> ownBlk x = some b -> ownBlk x' ≠ some b) /\ ∀ b, ownBlk x = some b -> E.w.heap.size <= b \/ E.ho b) \/ (r = [] /\ x = .slice none 0 0) := fun {l r x} hl => by
  cases l with
  | slot t => exact .inl ⟨hl, fun e => by cases e⟩
  | cell k j =>
   obtain ⟨cs, b, h1, h2, h3, h4⟩ := hl
   rcases cellsOfOb_set h1 with ⟨rfl, ho⟩ | ⟨hki, hcs⟩
   ·rw [hi] at h3
    cases h3
    rcases hown cs j r x ho h2 h4 with h0 | this
    ·exact .inr (.inr h0)
    ·by_cases hj : j = jf
     ·subst hj
      exact .inr (.inl ⟨rfl, this.2 rfl⟩)
     ·exact .inl ⟨this.1 hj, fun e => hj (by cases e; rfl)⟩
   ·exact .inl ⟨⟨cs, b, hcs, h2, h3, by rw [<- cell_of_heap (hother b (hmne h3 hki))]; exact h4⟩, fun e => hki (by cases e; rfl)⟩
 have hkeep : ∀ {r x}, OwnB m c w r x -> OwnB m c w' r x := fun {r x} ho => ho.keep fun b hb => by
  have := ho.lt hb
  exact ⟨hother b (fun e => this.2 (e ▸ List.mem_of_getElem? hi)), rfl, id⟩
 refine ⟨⟨fun b hb => ?_, hC.wf2, hC.nd, by simp [hC.len], fun t => (hC.env t).mono (Pre.refl m) he, fun k o b ho hb => ?_, fun l r x hl => ?_, fun l l' r r' x x' b h1 h2 hb hb' => ?_, hC.tagS, fun t i j r ht => absurd ht (hnt t i j r), fun n cs hg => (hC.gt n cs hg).mono he⟩,
  ⟨hos.trans hI.fr.os, htape.trans hI.fr.tape, hout.trans hI.fr.output, by rw [hsz]; exact hI.fr.size, hI.fr.pre, hI.fr.new, hI.fr.ext.trans he, fun b hb h1 h2 => ?_⟩, fun l r x b hl hu hb => ?_, ?_, by simpa using hI.hlen, hI.ml, hI.lole, hI.nt, hI.df, fun n k cs hkb hkn hcs h0 => ?_, hI.ent⟩
 ·rw [hother b (fun e => by rw [e, hc0] at hb; omega)]
  exact hC.wf1 b hb
 ·rw [List.getElem?_set] at ho
  by_cases hik : i = k
  ·subst hik
   rw [hi] at hb
   cases hb
   by_cases hl : i < h.length
   ·simp only [hl, if_true, Option.some.injEq] at ho
    subst ho
    exact hob
   ·simp [hl] at ho
  ·simp only [if_neg hik] at ho
   exact (hC.ob k o b ho hb).keep (hother b (hmne hb (Ne.symm hik))) (Pre.refl m) he
 ·rcases hAt hl with ⟨hl, _⟩ | ⟨_, ho, _⟩ | h0
  ·exact hkeep (hC.own l r x hl)
  ·exact hkeep ho
  ·exact .inl ⟨h0.2, h0.1⟩
 ·rcases hAt h1 with ⟨g1, n1⟩ | ⟨e1, _, d1, _⟩ | ⟨_, rfl⟩
  ·rcases hAt h2 with ⟨g2, n2⟩ | ⟨e2, _, d2, _⟩ | ⟨_, rfl⟩
   ·exact hC.uniq l l' r r' x x' b g1 g2 hb hb'
   ·exact absurd hb (d2 l r x b g1 n1 hb')
   ·cases hb'
  ·rcases hAt h2 with ⟨g2, n2⟩ | ⟨e2, _, d2, _⟩ | ⟨_, rfl⟩
   ·exact absurd hb' (d1 l' r' x' b g2 n2 hb)
   ·rw [e1, e2]
   ·cases hb'
  ·cases hb
 ·by_cases hbg : b = gb
  ·subst hbg
   by_cases hil : i < E.m.length
   ·have := hI.fr.pre i _ (List.getElem?_eq_getElem hil)
    rw [hi] at this
    cases this
    exact absurd (List.getElem?_eq_getElem hil) (h1 i hlo)
   ·have := hI.fr.new i b (by omega) hi
    omega
  ·rw [hother b hbg]
   exact hI.fr.fix b hb h1 h2
 ·rcases hAt hl with ⟨hl, _⟩ | ⟨_, _, _, ho⟩ | ⟨_, rfl⟩
  ·exact hI.owned l r x b hl hu hb
  ·exact ho b hb
  ·cases hb
 ·rw [List.take_set_of_le (by omega)]
  exact hI.hlo
 ·rcases cellsOfOb_set hcs with ⟨rfl, ho⟩ | ⟨_, hcs⟩
  ·exact hold cs ho hkb n hkn fun cs1 h1 => hI.old n _ cs1 hkb hkn h1 h0
  ·exact hI.old n k cs hkb hkn hcs h0
theorem InvP.grown {E : Entry} (hI : InvP vars E m c w g h a) {c' : Cl} {w' : World} (fb : Option Nat)
  (hsz : w.heap.size <= w'.heap.size) (hold : ∀ b, b < w.heap.size -> fb ≠ some b -> w'.heap[b]? = w.heap[b]? /\ c' b = c b)
  (hfb : ∀ b, fb = some b -> b ∉ m /\ (∀ l r x, At m w g h a l r x -> ownBlk x ≠ some b) /\ (E.w.heap.size <= b \/ E.ho b) /\ c b <= c' b /\
   (∀ o, o < c b -> w'.cell? ⟨b, o, none⟩ = w.cell? ⟨b, o, none⟩) /\ (∃ arr e f, w'.heap[b]? = some (.cells arr e f) /\ c' b <= arr.size) /\ (c' b = 0 -> Shp w w' b))
  (hnew : ∀ b, w.heap.size <= b -> fb ≠ some b -> 0 < c' b -> ∃ arr e f, w'.heap[b]? = some (.cells arr e f) /\ c' b <= arr.size)
  (hos : w'.os = w.os) (htape : w'.tape = w.tape) (hout : w'.output = w.output) : InvP vars E m c' w' g h a := by
 have hC := hI.core
 have he : Ext c w c' w' := by
  refine ⟨fun b => ?_, fun b o ho => ?_, fun b hcz => ?_⟩
  ·by_cases hb : fb = some b
   ·exact (hfb b hb).2.2.2.1
   ·rcases Nat.lt_or_ge b w.heap.size with hl | hl
    ·rw [(hold b hl hb).2]; exact Nat.le_refl _
    ·rw [hC.c_zero hl]; exact Nat.zero_le _
  ·by_cases hb : fb = some b
   ·exact (hfb b hb).2.2.2.2.1 o ho
   ·rcases Nat.lt_or_ge b w.heap.size with hl | hl
    ·exact cell_of_heap (hold b hl hb).1 o
    ·rw [hC.c_zero hl] at ho; omega
  ·by_cases hb : fb = some b
   ·exact (hfb b hb).2.2.2.2.2.2 hcz
   ·rcases Nat.lt_or_ge b w.heap.size with hl | hl
    ·exact Shp.same (hold b hl hb).1
    ·exact Shp.none hl
 have hm : ∀ {i b}, m[i]? = some b -> w'.heap[b]? = w.heap[b]? /\ c' b = c b := fun {i b} hi =>
  hold b (hC.m_lt hi) (fun e => (hfb b e).1 (List.mem_of_getElem? hi))
 have hAt : ∀ {l r x}, At m w' g h a l r x -> At m w g h a l r x := fun {l r x} hl => by
  cases l with
  | slot t => exact hl
  | cell i j =>
   obtain ⟨cs, b, h1, h2, h3, h4⟩ := hl
   exact ⟨cs, b, h1, h2, h3, by rw [<- cell_of_heap (hm h3).1]; exact h4⟩
 have hAt' : ∀ {l r x}, At m w g h a l r x -> At m w' g h a l r x := fun {l r x} hl => by
  cases l with
  | slot t => exact hl
  | cell i j =>
   obtain ⟨cs, b, h1, h2, h3, h4⟩ := hl
   exact ⟨cs, b, h1, h2, h3, by rw [cell_of_heap (hm h3).1]; exact h4⟩
 refine ⟨⟨fun b hb => ?_, fun b hb => ?_, hC.nd, hC.len, fun t => (hC.env t).mono (Pre.refl m) he, fun i o b ho hb => (hC.ob i o b ho hb).keep (hm hb).1 (Pre.refl m) he, fun l r x hl => ?_, fun l l' r r' x x' b h1 h2 => hC.uniq l l' r r' x x' b (hAt h1) (hAt h2), hC.tagS, fun t i j r ht => hAt' (hC.tagC t i j r ht), fun n cs hg => (hC.gt n cs hg).mono he⟩,
  ⟨hos.trans hI.fr.os, htape.trans hI.fr.tape, hout.trans hI.fr.output, Nat.le_trans hI.fr.size hsz, hI.fr.pre, hI.fr.new, hI.fr.ext.trans he, fun b hb h1 h2 => ?_⟩, fun l r x b hl hu hb => hI.owned l r x b (hAt hl) hu hb, hI.hlo, hI.hlen, hI.ml, hI.lole, hI.nt, hI.df, hI.old, hI.ent⟩
 ·by_cases hf : fb = some b
  ·exact (hfb b hf).2.2.2.2.2.1
  ·rcases Nat.lt_or_ge b w.heap.size with hl | hl
   ·rw [(hold b hl hf).1, (hold b hl hf).2]
    exact hC.wf1 b (by rw [<- (hold b hl hf).2]; exact hb)
   ·exact hnew b hl hf hb
 ·obtain ⟨i, hi, rfl⟩ := List.getElem_of_mem hb
  rw [(hm (List.getElem?_eq_getElem hi)).2]
  exact hC.wf2 _ hb
 ·refine (hC.own l r x (hAt hl)).keep fun b hb => ?_
  have hb1 := (hC.own l r x (hAt hl)).lt hb
  have := hold b hb1.1 (fun e => (hfb b e).2.1 l r x (hAt hl) hb)
  exact ⟨this.1, this.2, id⟩
 ·have hne : fb ≠ some b := fun e => by
   rcases (hfb b e).2.2.1 with h' | h'
   ·omega
   ·exact h2 h'
  have := hold b (Nat.lt_of_lt_of_le hb hI.fr.size) hne
  rw [this.1, this.2]
  exact hI.fr.fix b hb h1 h2
theorem InvP.less {E : Entry} (hI : InvP vars E m c w g h a) {n : Nat} (hn : E.base <= n) (hno : ∀ (i : Nat) cs, cellsOfOb h i = some cs -> E.base <= i -> i < n -> ∀ v ∈ cs, okv n v = true) (hg : ∀ p ∈ g, okv n p.2 = true /\ untag1 p.2 = p.2 /\ (∀ vs, p.2 ≠ .tup vs)) :
  InvP vars E (m.take n) c w g (h.take n) a := by
 have hC := hI.core
 have hget : ∀ {i b}, (m.take n)[i]? = some b -> m[i]? = some b /\ i < n := fun {i b} hi => by
  rw [List.getElem?_take] at hi
  split at hi
  ·rename_i hl; exact ⟨hi, hl⟩
  ·cases hi
 have hgeth : ∀ {i cs}, cellsOfOb (h.take n) i = some cs -> cellsOfOb h i = some cs /\ i < n := fun {i cs} hi => by
  unfold cellsOfOb at *
  rw [List.getElem?_take] at hi
  split at hi
  ·rename_i cs' hcs
   split at hcs
   ·rename_i hl; cases hi; rw [hcs]; exact ⟨rfl, hl⟩
   ·cases hcs
  ·cases hi
 have hlook : ∀ t, (look g t = .undef) \/ ∃ p ∈ g, p.2 = look g t := by
  intro t
  clear hg hI hC
  induction g with
  | nil => exact .inl rfl
  | cons p g ih =>
   obtain ⟨k, y⟩ := p
   simp only [look]
   split
   ·exact .inr ⟨_, List.mem_cons_self .., rfl⟩
   ·rcases ih with h1 | ⟨p, hp, h1⟩
    ·exact .inl h1
    ·exact .inr ⟨p, List.mem_cons_of_mem _ hp, h1⟩
 have hAt : ∀ {l r x}, At (m.take n) w g (h.take n) a l r x -> At m w g h a l r x := fun {l r x} hl => by
  cases l with
  | slot t => exact hl
  | cell i j =>
   obtain ⟨cs, b, h1, h2, h3, h4⟩ := hl
   exact ⟨cs, b, (hgeth h1).1, h2, (hget h3).1, h4⟩
 have hsub : ∀ {b}, b ∈ m.take n -> b ∈ m := fun hb => List.mem_of_mem_take hb
 have hpl := hI.ml
 refine ⟨⟨hC.wf1, fun b hb => hC.wf2 b (hsub hb), hC.nd.sublist (List.take_sublist ..), by simp [hC.len], fun t => ?_, fun i o b ho hb => ?_, fun l r x hl => ?_, fun l l' r r' x x' b h1 h2 => hC.uniq l l' r r' x x' b (hAt h1) (hAt h2), hC.tagS, fun t i j r ht => ?_, hC.gt⟩,
  ⟨hI.fr.os, hI.fr.tape, hI.fr.output, hI.fr.size, fun i b hi => ?_, fun i b hi hb => hI.fr.new i b hi (hget hb).1, hI.fr.ext, hI.fr.fix⟩, fun l r x b hl hu hb => hI.owned l r x b (hAt hl) hu hb, ?_, ?_, hI.ml, hI.lole, hI.nt, hI.df, fun k i cs hib hik hcs h0 => hI.old k i cs hib hik (hgeth hcs).1 h0, hI.ent⟩
 ·rcases hlook t with h1 | ⟨p, hp, h1⟩
  ·rw [h1]; trivial
  ·have := hC.env t
   rw [<- h1] at this ⊢
   refine VRr.less this ?_
   have h2 := (hg p hp)
   cases hq : p.2 <;> first | (rw [hq] at h2; exact h2.1) | (exact absurd hq (h2.2.2 _))
 ·obtain ⟨h1, h2⟩ := hget hb
  rw [List.getElem?_take, if_pos h2] at ho
  have := hC.ob i o b ho h1
  cases o with
  | cells cs =>
   obtain ⟨arr, e, f, k1, k2, k3, k4, k5⟩ := this
   refine ⟨arr, e, f, k1, k2, k3, fun j v x hv hx => ⟨?_, (k4 j v x hv hx).2⟩, k5⟩
   have hcs : cellsOfOb h i = some cs := by unfold cellsOfOb; rw [ho]
   have hok : okv n v = true := by
    rcases Nat.lt_or_ge i E.base with hib | hib
    ·exact hI.old n i cs hib h2 hcs (fun cs0 h0 u hu => okv_mono (hI.ent i cs0 h0 u hu) hn) v (List.mem_of_getElem? hv)
    ·exact hno i cs hcs hib h2 v (List.mem_of_getElem? hv)
   have h5 := VR.less (k4 j v x hv hx).1.r hok
   have h6 := (k4 j v x hv hx).1
   cases v <;> first | exact h5 | exact h6.elim
  | iter s p => exact this
  | tab es => exact this
 ·refine (hC.own l r x (hAt hl)).keep fun b hb => ⟨rfl, rfl, fun hn hb' => hn (hsub hb')⟩
 ·rcases hlook t with h1 | ⟨p, hp, h1⟩
  ·rw [h1] at ht; cases ht
  ·have h2 := (hg p hp).2.1
   rw [h1, ht] at h2
   cases h2
 ·rw [List.getElem?_take, if_pos]
  ·exact hI.fr.pre i b hi
  ·have := (List.getElem?_eq_some_iff.1 hi).1; omega
 ·rw [List.take_take, Nat.min_eq_left (by have := hI.lole; omega)]
  exact hI.hlo
 ·have := hI.hlen; simp; omega
end
end Go.Lift
end
namespace Go.Lift.Rul
end Go.Lift.Rul
namespace Go.Lift.Spell
end Go.Lift.Spell
namespace Go.Lift.Tok
end Go.Lift.Tok
namespace Go.Lift.Utf
end Go.Lift.Utf
namespace Go.Proofs
end Go.Proofs
