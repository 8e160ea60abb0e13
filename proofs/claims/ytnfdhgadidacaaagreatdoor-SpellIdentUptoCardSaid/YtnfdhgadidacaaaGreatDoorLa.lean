/- The lifting, first part: values, states, evaluation, relations, plain operations. -/
import Derived.WalkKit
import Derived.Still
import Derived.StillTail
import Derived.Scope
import Derived.LoopN
import Derived.Laws.AppendOwnNone
import Derived.Deep.MidRow
import Derived.Laws.Cover4
section
/- The lifting, first part: values, states and the evaluation of Go code over values in the place of memory. -/
namespace Go.Lift
set_option linter.unusedVariables false
set_option linter.unusedSimpArgs false
set_option linter.unusedSectionVars false

/-- who may append to a slice in place: nobody, this very place, or the place that it was read from -/
inductive Own where
  | no
  | yes
  | cell (b o : Nat)
  | slot (t : Nat)
  deriving DecidableEq, Inhabited

/-- values: a slice is its rows (each row the cells of one element); a pointer goes to a cell of an object, or to protected cells -/
inductive V where
  | v (x : Value)
  | nil
  | list (k : Own) (rows : List (List V))
  | ptr (b o : Nat)
  | rp (cells : List V)
  | buf (b o n : Nat)
  | agg (cells : List V)
  | tup (vs : List V)
  | fn (f : Nat) (caps : List V)
  | undef
  deriving Inhabited

inductive Ob where
  | cells (cs : List V)
  | iter (s : ByteArray) (pos : Nat)
  deriving Inhabited

abbrev Env := List (Nat × V)
abbrev Heap := List Ob
abbrev St := Env × Heap

def look : Env → Nat → V
  | [], _ => .undef
  | (k, x) :: l, t => if k = t then x else look l t

def ins (t : Nat) (x : V) : Env → Env
  | [] => [(t, x)]
  | (k, y) :: l => if t < k then (t, x) :: (k, y) :: l else if t = k then (t, x) :: l else (k, y) :: ins t x l

def put (d : Option Nat) (x : V) (g : Env) : Env :=
  match d with
  | some t => ins t x g
  | none => g

/-- a copy is no owner -/
def cp : V → V
  | .list _ r => .list .no r
  | x => x
def cps : V → V
  | .agg cs => .agg (cs.map cp)
  | x => cp x
/-- where it is kept, a nil slice is an owner of nothing -/
def own1 : V → V
  | .nil => .list .yes []
  | x => x
def own1s : V → V
  | .agg cs => .agg (cs.map own1)
  | x => own1 x
/-- what goes to a callee, comes back, or becomes an element -/
def fz : V → V
  | .nil => .list .no []
  | .list _ r => .list .no r
  | x => x
def fzs : V → V
  | .agg cs => .agg (cs.map fz)
  | x => fz x
def fzr : V → V
  | .tup vs => .tup (vs.map fzs)
  | x => fzs x

/-- a cell that reaches no object from b on -/
def okc (b : Nat) : V → Bool
  | .v _ => true
  | .nil => true
  | .list _ _ => true
  | .rp _ => true
  | .ptr i _ => decide (i < b)
  | .buf i _ _ => decide (i < b)
  | .undef => true
  | _ => false
def okv (b : Nat) : V → Bool
  | .agg cs => cs.all (okc b)
  | .undef => true
  | .fn _ cs => cs.all (okc b)
  | x => okc b x
def okr (b : Nat) : V → Bool
  | .tup vs => vs.all (okv b)
  | x => okv b x
/-- a cell of plain data: what an element is made of -/
def pure1 : V → Bool
  | .v z => z.oneCell'
  | .list _ _ => true
  | _ => false

/-- what a closure may take along -/
def leaf0 : V → Bool
  | .agg _ => false
  | .tup _ => false
  | .fn _ _ => false
  | _ => true

/-- the marks 'read from there' go -/
def untag1 : V → V
  | .list (.cell _ _) r => .list .no r
  | .list (.slot _) r => .list .no r
  | x => x
def untag (g : Env) : Env := g.map fun p => (p.1, untag1 p.2)

/-- the marks 'read from an object's cell' go -/
def untagC1 : V → V
  | .list (.cell _ _) r => .list .no r
  | x => x
def untagC (g : Env) : Env := g.map fun p => (p.1, untagC1 p.2)

def ofC1 : Value → V
  | .slice none 0 0 => .nil
  | .func (.func f) a b => if a.size = 0 ∧ b.size = 0 then .fn f [] else .v (.func (.func f) a b)
  | x => .v x
def ofC : Value → V
  | .agg cs => .agg (cs.toList.map ofC1)
  | x => ofC1 x

/-- bt: of which type an object is that has two cells and begins with a nil pointer (where a program has but one such type, and its evaluation asks for it); bb: of which type the elements of rows of bytes are -/
class BTy where
  bt : Option TypeId
  bb : Option TypeId
def isNilP : V → Bool
  | .v (.pointer none) => true
  | _ => false
def isBld : List V → Bool
  | [x, _] => isNilP x
  | _ => false
def bldT [BTy] (t : TypeId) (cs : List V) : Bool := match BTy.bt with
  | none => true
  | some T => !isBld cs || t == T
def isByteV : List V → Bool
  | [.v (.int .u8 _)] => true
  | _ => false
def isByteRow : List (List V) → Bool
  | r :: _ => isByteV r
  | [] => false
def byT [BTy] (e : TypeId) (r q : List (List V)) : Bool := match BTy.bb with
  | none => true
  | some T => e == T || (!isByteRow r && !isByteRow q)
def bldS [BTy] (vs : List V) : Bool := match BTy.bt with
  | none => true
  | some _ => !vs.any isNilP
/-- what package-level variables hold: rows of cells that nothing writes -/
class GTab where
  tab : Nat → Option (List V)
variable [GTab] [BTy]

def opd (g : Env) : Operand → V
  | .tmp t => look g t
  | .const c => ofC c
  | .global n =>
    match GTab.tab n with
    | some cs => .rp cs
    | none => .v (.pointer (some ⟨n, 0, none⟩))
  | .func f => .fn f []

def cellsV : V → List V
  | .agg cs => cs
  | x => [x]

section types
variable (P : Program)
def tsize (t : TypeId) : Nat := P.cellsOf t
/-- is it a struct or an array? (none: there is no such type) -/
def ttag (t : TypeId) : Option Bool :=
  match P.underlying t with
  | some (.struct _) => some true
  | some (.array _ _) => some true
  | some _ => some false
  | none => none
def tzero (t : TypeId) : Option (List Value) := ((P.info? t).bind (·.zero)).map fun z => z.cells.toList
def tfields (t : TypeId) : List (Nat × TypeId) :=
  match P.underlying t with
  | some (.struct fs) => fs.toList.map fun f => (f.offset, f.type)
  | _ => []
/-- a struct all of whose fields' types are known -/
def structOk (t : TypeId) : Bool := (tfields P t).all fun p => (P.info? p.2).isSome
def isStr (t : TypeId) : Bool :=
  match P.underlying t with
  | some .string => true
  | _ => false
def isU8 (t : TypeId) : Bool :=
  match P.underlying t with
  | some (.int .u8) => true
  | _ => false
def isI32 (t : TypeId) : Bool :=
  match P.underlying t with
  | some (.int .i32) => true
  | _ => false
def telem (t : TypeId) : TypeId :=
  match P.underlying t with
  | some (.slice e) => e
  | _ => 0
end types

/-- integer operations on plain values -/
def binS (op : BinOp) (x y : Value) : Option Value :=
  match x, y with
  | .int k a, .int k' b =>
    match op with
    | .shl => if 0 ≤ b then some (.int k (k.wrap (a * 2 ^ (min b.toNat k.bits)))) else none
    | .shr => if 0 ≤ b then some (.int k (a.fdiv (2 ^ (min b.toNat k.bits)))) else none
    | _ =>
      if k = k' then
        match op with
        | .add => some (.int k (k.wrap (a + b)))
        | .sub => some (.int k (k.wrap (a - b)))
        | .mul => some (.int k (k.wrap (a * b)))
        | .quo => if b = 0 then none else some (.int k (k.wrap (a.tdiv b)))
        | .rem => if b = 0 then none else some (.int k (a.tmod b))
        | .and => some (.int k (k.wrap (BitVec.ofInt k.bits a &&& BitVec.ofInt k.bits b).toNat))
        | .or => some (.int k (k.wrap (BitVec.ofInt k.bits a ||| BitVec.ofInt k.bits b).toNat))
        | .xor => some (.int k (k.wrap (BitVec.ofInt k.bits a ^^^ BitVec.ofInt k.bits b).toNat))
        | .andNot => some (.int k (k.wrap (BitVec.ofInt k.bits a &&& ~~~ BitVec.ofInt k.bits b).toNat))
        | .eql => some (.bool (a == b))
        | .neq => some (.bool (a != b))
        | .lss => some (.bool (decide (a < b)))
        | .leq => some (.bool (decide (a ≤ b)))
        | .gtr => some (.bool (decide (b < a)))
        | .geq => some (.bool (decide (b ≤ a)))
        | .shl => none
        | .shr => none
      else none
  | .string a, .string b =>
    match op with
    | .add => if a.size + b.size ≤ 9223372036854775807 then some (.string (a ++ b)) else none
    | .eql => some (.bool (a.toList == b.toList))
    | .neq => some (.bool (!(a.toList == b.toList)))
    | .lss => some (.bool (Op.bytesLess a.toList b.toList))
    | .leq => some (.bool (Op.bytesLess a.toList b.toList || a.toList == b.toList))
    | .gtr => some (.bool (!(Op.bytesLess a.toList b.toList || a.toList == b.toList)))
    | .geq => some (.bool (!(Op.bytesLess a.toList b.toList)))
    | _ => none
  | _, _ => none

/-- of two truth values, too -/
def binT (P : Program) (op : BinOp) (t : TypeId) (x y : Value) : Option Value :=
  match x, y with
  | .bool a, .bool b =>
    match P.underlying t with
    | some .bool =>
      match op with
      | .eql => some (.bool (a == b))
      | .neq => some (.bool (!(a == b)))
      | _ => none
    | _ => none
  | x, y => binS op x y

/-- one cell against another: 0 a bool, 1 an integer, 2 a string -/
def eqS (k : Nat) (x y : Value) : Option Bool :=
  match k, x, y with
  | 0, .bool a, .bool b => some (a == b)
  | 1, .int k a, .int k' b => if k = k' then some (a == b) else none
  | 2, .string a, .string b => some (a.toList == b.toList)
  | _, _, _ => none
def eqCells : List Nat → List V → List V → Option Bool
  | [], [], [] => some true
  | k :: ks, .v x :: l, .v y :: m =>
    match eqS k x y, eqCells ks l m with
    | some a, some b => some (a && b)
    | _, _ => none
  | _, _, _ => none

/-- the fields of a struct, one behind the other: the kinds of their cells -/
def flatFs (f : TypeId → Option (List Nat)) : List Field → Nat → Option (List Nat)
  | [], _ => some []
  | x :: r, o =>
    if x.offset = o ∧ x.name ≠ "_" then
      match f x.type with
      | some l => match flatFs f r (o + l.length) with
        | some l' => some (l ++ l')
        | none => none
      | none => none
    else none

/-- types of plain data whose cells are compared one by one: the kinds of the cells -/
def flatK (P : Program) : Nat → TypeId → Option (List Nat)
  | 0, _ => none
  | d + 1, t =>
    match P.underlying t with
    | some .bool => some [0]
    | some (.int _) => some [1]
    | some .string => some [2]
    | some (.array n e) =>
      match flatK P d e with
      | some l => if tsize P e = l.length then some (List.replicate n l).flatten else none
      | none => none
    | some (.struct fs) => if P.stoodInHeld t = false ∧ (fs.toList.all fun f => match flatK P d f.type with | some l => tsize P f.type == l.length | none => false) then flatFs (flatK P d) fs.toList 0 else none
    | _ => none
/-- the kinds, if the comparison's depth reaches -/
def flatOf (P : Program) (t : TypeId) : Option (List Nat) := if 20 ≤ P.depth ∧ ttag P t = some true then flatK P 20 t else none

def unS (op : UnOp) (x : Value) : Option Value :=
  match op, x with
  | .neg, .int k n => some (.int k (k.wrap (0 - n)))
  | .not, .bool b => some (.bool !b)
  | _, _ => none

/-- conversions that make no memory -/
def convS (P : Program) (s d : TypeId) (x : V) : Option V :=
  match P.underlying s, P.underlying d, x with
  | some (.int _), some (.int k), .v (.int _ n) => some (.v (.int k (k.wrap n)))
  | some (.int _), some .string, .v (.int _ n) => some (.v (.string (Utf8.encode n)))
  | some .string, some .string, .v (.string b) => some (.v (.string b))
  | _, _, _ => none

/-- the bytes of a slice of bytes -/
def bytesOf : List (List V) → Option (List UInt8)
  | [] => some []
  | [.v (.int .u8 n)] :: l => (bytesOf l).map fun r => UInt8.ofNat n.toNat :: r
  | _ => none

def runesOf : List (List V) → Option (List Int)
  | [] => some []
  | [.v (.int .i32 n)] :: l => (runesOf l).map fun r => n :: r
  | _ => none

def idx : V → Option Int
  | .v (.int _ n) => some n
  | _ => none
/-- an optional bound: its value, or what stands for none -/
def bnd (g : Env) (o : Option Operand) (d : Nat) : Option Nat :=
  match o with
  | none => some d
  | some x => match idx (opd g x) with
    | some n => if 0 ≤ n then some n.toNat else none
    | none => none

def takeCells (P : Program) (t : TypeId) (cs : List V) : Option V :=
  match ttag P t with
  | some true => if tsize P t ≤ cs.length then some (.agg ((cs.take (tsize P t)).map cp)) else none
  | some false => (cs[0]?).map cp
  | none => none

/-- a value of the type, read at an object's cell, says where it was read -/
def tagC (b o : Nat) : V → V
  | .list .yes r => .list (.cell b o) r
  | x => cp x

def cellsOfOb (h : Heap) (b : Nat) : Option (List V) :=
  match h[b]? with
  | some (.cells cs) => some cs
  | _ => none

def loadV (P : Program) (h : Heap) (t : TypeId) (a : V) : Option V :=
  match a with
  | .ptr b o =>
    match cellsOfOb h b with
    | some cs => match ttag P t with
      | some true => takeCells P t (cs.drop o)
      | some false => (cs[o]?).map (tagC b o)
      | none => none
    | none => none
  | .rp cs => takeCells P t cs
  | _ => none

def fieldOff (P : Program) (t : TypeId) (f : Nat) : Option (Nat × TypeId) := (tfields P t)[f]?

/-- a part of a struct: one cell, or cells -/
def partOk : V → Bool
  | .v z => z.oneCell'
  | .undef => false
  | .tup _ => false
  | _ => true
/-- a cell that may be stored -/
def stoOk : V → Bool
  | .v z => z.oneCell'
  | .undef => false
  | .tup _ => false
  | .agg _ => false
  | _ => true

def buildV (off : Nat → Option (Nat × Nat)) : List (Nat × V) → List V → Option (List V)
  | [], cs => some cs
  | (i, x) :: r, cs =>
    match off i with
    | some (o, n) => if partOk x = true ∧ (cellsV x).length = n ∧ o + n ≤ cs.length then buildV off r (cs.take o ++ (cellsV x).map cp ++ cs.drop (o + n)) else none
    | none => none

/-- operations that leave the state alone but for the temporary that they fill -/
def evPure (P : Program) (vars : List Nat) (s : St) : Op → Option V
  | .move x =>
    match x with
    | .tmp t => match look s.1 t with
      | .list .yes r => some (.list (if t ∈ vars then .slot t else .no) r)
      | y => some (cps y)
    | x => some (opd s.1 x)
  | .pick c a b =>
    match opd s.1 c with
    | .v (.bool x) => some (if x then cps (opd s.1 a) else cps (opd s.1 b))
    | _ => none
  | .build t parts =>
    match tzero P t with
    | none => none
    | some z =>
      match P.underlying t with
      | some (.struct _) => if structOk P t then
        (buildV (fun i => (fieldOff P t i).map fun p => (p.1, tsize P p.2)) (parts.toList.map fun p => (p.1, opd s.1 p.2)) (z.map ofC1)).map .agg else none
      | some (.array _ e) => if (P.info? e).isSome then
        (buildV (fun i => some (i * tsize P e, tsize P e)) (parts.toList.map fun p => (p.1, opd s.1 p.2)) (z.map ofC1)).map .agg else none
      | _ => none
  | .load t a => loadV P s.2 t (opd s.1 a)
  | .nilCheck x =>
    match opd s.1 x with
    | .ptr b o => some (.ptr b o)
    | .rp cs => some (.rp cs)
    | .fn f cs => some (.fn f cs)
    | _ => none
  | .binOp op t x y _ =>
    match opd s.1 x, opd s.1 y with
    | .v a, .v b => (binT P op t a b).map .v
    | .agg cs, .agg ds =>
      match flatOf P t with
      | some ks =>
        match op with
        | .eql => (eqCells ks cs ds).map fun r => .v (.bool r)
        | .neq => (eqCells ks cs ds).map fun r => .v (.bool !r)
        | _ => none
      | none => none
    | _, _ => none
  | .unOp op _ x =>
    match opd s.1 x with
    | .v a => (unS op a).map .v
    | _ => none
  | .convert a b x =>
    match opd s.1 x with
    | .v y => convS P a b (.v y)
    | .list _ rows =>
      if isStr P b then
        match P.underlying a with
        | some (.slice e) => if isU8 P e then (bytesOf rows).map fun l => .v (.string ⟨l.toArray⟩) else if isI32 P e then (runesOf rows).map fun l => .v (.string (runesBytes l)) else none
        | _ => none
      else none
    | .buf i o n =>
      if isStr P b then
        match P.underlying a, cellsOfOb s.2 i with
        | some (.slice e), some cs =>
          if isU8 P e && decide (o + n ≤ cs.length) then (bytesOf (((cs.drop o).take n).map fun x => [x])).map fun l => .v (.string ⟨l.toArray⟩) else none
        | _, _ => none
      else none
    | _ => none
  | .fieldAddr t x f =>
    match opd s.1 x, fieldOff P t f with
    | .ptr b o, some (k, u) => if 0 < tsize P u then some (.ptr b (o + k)) else none
    | .rp cs, some (k, u) => if 0 < tsize P u ∧ k < cs.length then some (.rp (cs.drop k)) else none
    | _, _ => none
  | .field t x f =>
    match opd s.1 x, fieldOff P t f with
    | .agg cs, some (k, u) =>
      takeCells P u (cs.drop k)
    | _, _ => none
  | .indexAddr t x i =>
    match opd s.1 x, idx (opd s.1 i), P.underlying t with
    | .list _ rows, some n, some (.slice e) =>
      if 0 ≤ n then
        match rows[n.toNat]? with
        | some row => if row.length = tsize P e ∧ 0 < tsize P e then some (.rp row) else none
        | none => none
      else none
    | .buf b o m, some n, some (.slice e) => if 0 ≤ n ∧ n < m ∧ tsize P e = 1 then some (.ptr b (o + n.toNat)) else none
    | .ptr b o, some n, some (.array m e) => if 0 ≤ n ∧ n < m ∧ 0 < tsize P e then some (.ptr b (o + n.toNat * tsize P e)) else none
    | .rp cs, some n, some (.array m e) => if 0 ≤ n ∧ n < m ∧ 0 < tsize P e ∧ n.toNat * tsize P e < cs.length then some (.rp (cs.drop (n.toNat * tsize P e))) else none
    | _, _, _ => none
  | .index t x i =>
    match opd s.1 x, idx (opd s.1 i), P.underlying t with
    | .v (.string b), some n, some .string =>
      if 0 ≤ n then (b.data[n.toNat]?).map fun c => .v (.int .u8 c.toNat) else none
    | .agg cs, some n, some (.array m e) =>
      if 0 ≤ n ∧ n < m then
        takeCells P e (cs.drop (n.toNat * tsize P e))
      else none
    | _, _, _ => none
  | .slice t x lo hi mx =>
    match mx, opd s.1 x, P.underlying t with
    | none, .v (.string b), some .string =>
      match bnd s.1 hi b.size with
      | some h => match bnd s.1 lo 0 with
        | some l => if l ≤ h ∧ h ≤ b.size then some (.v (.string (b.extract l h))) else none
        | none => none
      | none => none
    | none, .list _ rows, some (.slice e) =>
      match bnd s.1 hi rows.length with
      | some h => match bnd s.1 lo 0 with
        | some l => if l ≤ h ∧ h ≤ rows.length ∧ 0 < tsize P e ∧ (rows.all fun r => r.length == tsize P e) then some (.list .no ((rows.take h).drop l)) else none
        | none => none
      | none => none
    | none, .ptr b o, some (.array n e) =>
      match bnd s.1 hi n with
      | some h => match bnd s.1 lo 0 with
        | some l => if l ≤ h ∧ h ≤ n ∧ l < n ∧ tsize P e = 1 then some (.buf b (o + l) (h - l)) else none
        | none => none
      | none => none
    | _, _, _ => none
  | .extract x i =>
    match opd s.1 x with
    | .tup vs => (vs[i]?).map cps
    | _ => none
  | .makeFunc fn first caps =>
    match fn with
    | .func f => if first.size = 0 ∧ (caps.toList.all fun c => leaf0 (opd s.1 c)) then some (.fn f (caps.toList.map fun c => cp (opd s.1 c))) else none
    | _ => none
  | .call c =>
    match c.callee with
    | .builtin .len =>
      match (c.args[0]?).map (opd s.1), (c.argTypes[0]?).bind P.underlying with
      | some (.list _ rows), some (.slice _) => some (.v (.int .i64 rows.length))
      | some .nil, some (.slice _) => some (.v (.int .i64 0))
      | some (.buf _ _ n), some (.slice _) => some (.v (.int .i64 n))
      | some (.v (.string b)), some .string => some (.v (.int .i64 b.size))
      | _, _ => none
    | .builtin .min =>
      match c.args.toList.map (opd s.1) with
      | [.v (.int k x), .v (.int k' y)] => if k = k' then some (.v (.int k (if y < x then y else x))) else none
      | _ => none
    | .builtin .max =>
      match c.args.toList.map (opd s.1) with
      | [.v (.int k x), .v (.int k' y)] => if k = k' then some (.v (.int k (if y > x then y else x))) else none
      | _ => none
    | _ => none
  | _ => none

/-- taken over: an owner's place is left -/
def takeO (g : Env) (x : Operand) : V × Env :=
  match x with
  | .tmp t => match look g t with
    | .list .yes r => (.list .yes r, ins t (.list .no r) g)
    | y => (cps y, g)
  | x => (opd g x, g)

def setOb (h : Heap) (b : Nat) (cs : List V) : Heap := h.set b (.cells cs)

def isAssign : Op → Bool
  | .assign _ => true
  | _ => false

/-- a row of bytes to a row of bytes -/
def isRow (P : Program) (a b : TypeId) : Bool := a == b && match P.underlying a with
  | some (.slice e) => isU8 P e
  | _ => false

def isEff (P : Program) : Op → Bool
  | .assign _ => true
  | .alloc _ => true
  | .box _ _ => true
  | .buildSlice _ _ _ => true
  | .store _ _ _ => true
  | .range _ _ => true
  | .next _ _ => true
  | .convert a b _ => isStr P a || isRow P a b
  | .call c => match c.callee with
    | .value _ => true
    | .builtin .append => true
    | _ => false
  | _ => false

def byteRows (s : ByteArray) : List (List V) := s.data.toList.map fun c => [.v (.int .u8 c.toNat)]
def byteCells (s : ByteArray) : List V := s.data.toList.map fun c => .v (.int .u8 c.toNat)

def notInt : TypeDesc → Bool
  | .slice _ => true
  | .string => true
  | _ => false

/-- what is appended -/
def appRows (P : Program) (e : TypeId) : V → Option (List (List V))
  | .nil => some []
  | .list _ r => if r.all fun x => x.length == tsize P e then some r else none
  | .v (.string s) => if isU8 P e = true ∧ tsize P e = 1 then some (byteRows s) else none
  | _ => none

/-- whose place it is that is appended to: its rows, and the state without it as an owner -/
def owner (lo : Nat) (s : St) (x : Operand) : Option (List (List V) × St) :=
  match x with
  | .tmp t =>
    match look s.1 t with
    | .nil => some ([], s)
    | .list .yes r => some (r, (ins t (.list .no r) s.1, s.2))
    | .list (.slot u) r => match look s.1 u with
      | .list .yes q => some (r, (ins u (.list .no q) s.1, s.2))
      | _ => none
    | .list (.cell b o) r => match cellsOfOb s.2 b with
      | some cs => match cs[o]? with
        | some (.list .yes q) => if lo ≤ b then some (r, (s.1, setOb s.2 b (cs.set o (.list .no q)))) else none
        | _ => none
      | none => none
    | _ => none
  | .const c => match ofC c with
    | .nil => some ([], s)
    | _ => none
  | _ => none

/-- a row that is made anew and converted: nobody appends to it any more -/
def freezeV (s : St) : Operand → Option (V × St)
  | .tmp t => match look s.1 t with
    | .list .yes r => if r.isEmpty then none else some (.list .no r, (untag (ins t (.list .no r) s.1), s.2))
    | _ => none
  | _ => none

abbrev CallF := Nat → Nat → List V → Heap → Option (V × Heap)

def evCall (call : CallF) (lo : Nat) (s : St) (f : Operand) (args : List V) : Option (V × St) :=
  match opd s.1 f with
  | .fn f caps => match call lo f (args.map fzs ++ caps) s.2 with
    | some (r, h) => some (r, (untagC s.1, h))
    | none => none
  | _ => none

def evEff (P : Program) (call : CallF) (lo : Nat) (mutc : Bool) (s : St) : Op → Option (V × St)
  | .assign x => some (own1 (takeO s.1 x).1, (untag (takeO s.1 x).2, s.2))
  | .alloc t =>
    match tzero P t with
    | some z => if ((z.map ofC1).all stoOk && bldT t (z.map ofC1)) then some (.ptr s.2.length 0, (s.1, s.2 ++ [.cells ((z.map ofC1).map own1)])) else none
    | none => none
  | .box t x =>
    if partOk (cps (opd s.1 x)) && ((cellsV (cps (opd s.1 x))).all stoOk && bldT t (cellsV (cps (opd s.1 x)))) then some (.ptr s.2.length 0, (s.1, s.2 ++ [.cells ((cellsV (cps (opd s.1 x))).map own1)])) else none
  | .buildSlice t n parts =>
    match P.underlying t with
    | some (.slice e) =>
      let rows := parts.toList.map fun p => cellsV (fzs (opd s.1 p.2))
      if (parts.toList.map (·.1)) = List.range n ∧ (tzero P e).isSome = true ∧ 0 < tsize P e ∧ n * tsize P e ≤ 16777216 ∧ (rows.all fun r => r.length == tsize P e && r.all pure1) ∧ byT e [] rows = true then
        some (.list .yes rows, s)
      else none
    | _ => none
  | .store t a x =>
    match opd s.1 a with
    | .ptr b o =>
      match cellsOfOb s.2 b with
      | some cs =>
        let v := (takeO s.1 x).1
        if lo ≤ b ∧ o + tsize P t ≤ cs.length ∧ (cellsV v).length = tsize P t ∧ (P.info? t).isSome ∧ ((cellsV v).all stoOk && bldS (cellsV v)) = true ∧ okv (b + 1) v = true then
          match own1s v with
          | .agg ds => some (.v undef, (untag (takeO s.1 x).2, setOb s.2 b (cs.take o ++ ds ++ cs.drop (o + tsize P t))))
          | u => some (.v undef, (untag (takeO s.1 x).2, setOb s.2 b (cs.set o u)))
        else none
      | none => none
    | _ => none
  | .range t x =>
    match opd s.1 x, P.underlying t with
    | .v (.string b), some .string => some (.ptr s.2.length 0, (s.1, s.2 ++ [.iter b 0]))
    | _, _ => none
  | .next x str =>
    match opd s.1 x, str with
    | .ptr b 0, true =>
      match s.2[b]? with
      | some (.iter t pos) =>
        if lo ≤ b then
          if pos < t.size then some (.tup [.v (.bool true), .v (.int .i64 pos), .v (.int .i32 (Utf8.decode t pos).1)], (untag s.1, s.2.set b (.iter t (pos + (Utf8.decode t pos).2))))
          else some (.tup [.v (.bool false)], (untag s.1, s.2))
        else none
      | _ => none
    | _, _ => none
  | .convert a b x =>
    if isRow P a b then freezeV s x else
    match P.underlying a, P.underlying b, opd s.1 x with
    | some .string, some (.slice e), .v (.string y) =>
      if isU8 P e then
        if mutc then some (.buf s.2.length 0 y.size, (s.1, s.2 ++ [.cells (byteCells y)]))
        else some (.list .no (byteRows y), s)
      else none
    | some .string, some .string, .v (.string y) => some (.v (.string y), s)
    | _, _, _ => none
  | .call c =>
    match c.callee with
    | .value f => evCall call lo s f (c.args.toList.map (opd s.1))
    | .builtin .append =>
      match c.args.toList, c.argTypes.toList.map P.underlying with
      | [x, y], [some (.slice e), some u] =>
        match owner lo s x, appRows P e (opd s.1 y) with
        | some (r, s'), some q =>
          if (tzero P e).map (·.length) = some (tsize P e) ∧ 0 < tsize P e ∧ (r.all fun z => z.length == tsize P e) ∧ (r.length + q.length) * P.bytesOf e ≤ 140737488355328 ∧ r.length + q.length ≤ 9223372036854775807 ∧ notInt u = true ∧ byT e r q = true then
            some (.list .yes (r ++ q), (untag s'.1, s'.2))
          else none
        | _, _ => none
      | _, _ => none
    | _ => none
  | _ => none

/-- does an operation's guard let it? (none: not known) -/
def want (ops : Array Oper) (g : Env) (o : Oper) : Option Bool :=
  match o.guard with
  | none => some true
  | some (j, b) =>
    match (ops[j]?).bind (·.dst) with
    | some t => match look g t with
      | .v (.bool x) => some (x == b)
      | .v (.tuple _) => some false
      | _ => none
    | none => some false

/-- in which orders a region's operations are tried: one that may stand first, and the rest; one that must, and the rest; ways that come to the same -/
inductive Tr where
  | fin
  | head (k : Nat) (t : Tr)
  | one (k : Nat) (t : Tr)
  | alt (a b : Tr)
  deriving Inhabited

/-- a region with an order of its own: the operations that write nothing; the loads that take an owner along; the orders -/
structure Mix where
  heads : List Nat
  takes : List Nat
  tree : Tr
  deriving Inhabited

/-- the code's own facts, told from outside; nothing hangs on their being right: which slots live on behind a region, how many of the call's own objects -/
structure Hint where
  live : Nat → Option (List Nat)
  keep : Nat → Option Nat
  tail : Nat → Option Nat
  vars : List Nat
  mutc : Bool
  mix : Nat → Option Mix
  deriving Inhabited

structure Cx where
  P : Program
  call : CallF
  lo : Nat
  base : Nat
  hint : Hint

def evOp (c : Cx) (s : St) (o : Oper) : Option (V × St) :=
  if isEff c.P o.op then evEff c.P c.call c.lo c.hint.mutc s o.op else (evPure c.P c.hint.vars s o.op).map fun v => (v, s)

def evOps (c : Cx) (ops : Array Oper) : List Oper → St → Option St
  | [], s => some s
  | o :: r, s =>
    match want ops s.1 o with
    | some true => match evOp c s o with
      | some (v, g, h) => evOps c ops r (put o.dst v g, h)
      | none => none
    | some false => if isAssign o.op then none else evOps c ops r (put o.dst (.v undef) s.1, s.2)
    | none => none

/-- an operation ahead of all that writes, in a region whose order is open -/
def evHead (c : Cx) (s : St) (o : Oper) : Option V :=
  if isEff c.P o.op then
    match o.op with
    | .call d => match d.callee with
      | .value f => match opd s.1 f with
        | .fn f caps => (c.call s.2.length f ((d.args.toList.map (opd s.1)).map fzs ++ caps) s.2).map (·.1)
        | _ => none
      | _ => none
    | .convert a b x =>
      if c.hint.mutc || isRow c.P a b then none else (evEff c.P c.call c.lo false s (.convert a b x)).map (·.1)
    | _ => none
  else evPure c.P c.hint.vars s o.op

def evHeads (c : Cx) (ops : Array Oper) : List Oper → St → Option St
  | [], s => some s
  | o :: r, s =>
    match want ops s.1 o with
    | some true => match evHead c s o with
      | some v => evHeads c ops r (put o.dst v s.1, s.2)
      | none => none
    | some false => if isAssign o.op then none else evHeads c ops r (put o.dst (.v undef) s.1, s.2)
    | none => none

/-- may it stand ahead of all that writes? -/
def headOp (P : Program) : Op → Bool
  | .call c => match c.callee with
    | .value _ => true
    | .builtin .append => false
    | _ => true
  | .convert _ _ _ => true
  | o => !isEff P o

def tailAt (P : Program) (h : Hint) (id : Nat) (ops : Array Oper) : Nat :=
  match h.tail id with
  | some n => n
  | none => (ops.toList.findIdx? fun o => !headOp P o.op).getD ops.size

def drawOk0 (P : Program) (h : Hint) (id : Nat) (ops : Array Oper) : Bool :=
  if tailAt P h id ops = ops.size then Region.lexB .any ops else Region.lexTailB .any ops (tailAt P h id ops)

/-- the operations that wait, in the end, on number k -/
def behind (ops : Array Oper) (k : Nat) : List Nat :=
  (List.range ops.size).foldl (fun acc j => match ops[j]? with
    | some o => if o.after.any (fun e => Region.binds .any e && (e.on == k || acc.contains e.on)) then j :: acc else acc
    | none => acc) []

def Tr.firsts : Tr → List Nat
  | .one k _ => [k]
  | .alt a b => a.firsts ++ b.firsts
  | _ => []

/-- of the memory it reads at most -/
def plainOp : Op → Bool
  | .move _ => true
  | .pick _ _ _ => true
  | .build _ _ => true
  | .load _ _ => true
  | .nilCheck _ => true
  | .binOp _ _ _ _ _ => true
  | .unOp _ _ _ => true
  | .fieldAddr _ _ _ => true
  | .field _ _ _ => true
  | .indexAddr _ _ _ => true
  | .index _ _ _ => true
  | .slice _ _ _ _ _ => true
  | .extract _ _ => true
  | _ => false
def isAlloc : Op → Bool
  | .alloc _ => true
  | _ => false

/-- may number k stand first? -/
def headFree (mx : Mix) (ops : Array Oper) (listed : Array Bool) (k : Nat) : Bool :=
  match ops[k]? with
  | none => false
  | some o => mx.heads.contains k && (List.range ops.size).all fun j => j == k || listed.getD j true || (behind ops k).contains j || match ops[j]? with
      | some oj => (mx.heads.contains j || (!mx.takes.contains j && plainOp o.op && isAlloc oj.op)) && o.apart ops oj
      | none => true

def trOk (mx : Mix) (ops : Array Oper) : Tr → Nat → Bool → Array Bool → Bool
  | .fin, n, top, listed => top && n == 0 && (Region.ready .any ops listed).isEmpty
  | .head k t, n, top, listed => match n with
    | 0 => false
    | n + 1 => top && (Region.ready .any ops listed).contains k && headFree mx ops listed k && trOk mx ops t n true (listed.setIfInBounds k true)
  | .one k t, n, top, listed => match n with
    | 0 => false
    | n + 1 => (!top || (!(Region.ready .any ops listed).isEmpty && (Region.ready .any ops listed).all (· == k))) && trOk mx ops t n true (listed.setIfInBounds k true)
  | .alt a b, n, top, listed => (!top || (!(Region.ready .any ops listed).isEmpty && (Region.ready .any ops listed).all fun k => (a.firsts ++ b.firsts).contains k)) && trOk mx ops a n false listed && trOk mx ops b n false listed

def drawOk (P : Program) (h : Hint) (id : Nat) (ops : Array Oper) : Bool :=
  match h.mix id with
  | none => drawOk0 P h id ops
  | some mx => Region.noSelect ops && trOk mx ops mx.tree ops.size true (Array.replicate ops.size false)

def dstOk (h : Hint) (nt : Nat) (o : Oper) : Bool :=
  match o.dst with
  | none => true
  | some t => decide (t < nt) && (isAssign o.op || !h.vars.contains t)

/-- what is asked of a function's code once: its slots, and the regions whose order is open -/
def codeOk (P : Program) (h : Hint) (nt : Nat) : Code → Bool
  | .region id ops draw => ops.toList.all (dstOk h nt) && (!draw || drawOk P h id ops)
  | .seq a b => codeOk P h nt a && codeOk P h nt b
  | .cond _ a b => codeOk P h nt a && codeOk P h nt b
  | .block _ a => codeOk P h nt a
  | .loop a => codeOk P h nt a
  | .scope a => codeOk P h nt a
  | _ => true

def evDraw0 (c : Cx) (id : Nat) (ops : Array Oper) (s : St) : Option St :=
  match evHeads c ops (ops.toList.take (tailAt c.P c.hint id ops)) s with
  | some s' => evOps c ops (ops.toList.drop (tailAt c.P c.hint id ops)) s'
  | none => none

/-- what lives on, in the hint's order -/
def lives (l : Option (List Nat)) (g : Env) : Env :=
  match l with
  | some ts => ts.map fun t => (t, look g t)
  | none => g

/-- an owner is taken out of an object's cell -/
def evTake (c : Cx) (s : St) (o : Oper) : Option St :=
  match o.dst with
  | some t => match evPure c.P c.hint.vars s o.op with
    | some v => match owner c.lo (put (some t) v s.1, s.2) (.tmp t) with
      | some (r, g, h) => some (put (some t) (.list .yes r) (untag g), h)
      | none => none
    | none => none
  | none => none

def stepT (c : Cx) (mx : Mix) (ops : Array Oper) (k : Nat) (s : St) : Option St :=
  match ops[k]? with
  | none => none
  | some o =>
    if mx.heads.contains k then evHeads c ops [o] s
    else if mx.takes.contains k then (if o.guard.isNone && !isEff c.P o.op then evTake c s o else none)
    else evOps c ops [o] s

open Classical in
noncomputable def same (x y : Option St) : Option St := if x = y then x else none

noncomputable def evT (c : Cx) (mx : Mix) (id : Nat) (ops : Array Oper) : Tr → St → Option St
  | .fin, s => some (untag (lives (c.hint.live id) s.1), s.2)
  | .head k t, s => match stepT c mx ops k s with
    | some s1 => evT c mx id ops t s1
    | none => none
  | .one k t, s => match stepT c mx ops k s with
    | some s1 => evT c mx id ops t s1
    | none => none
  | .alt a b, s => same (evT c mx id ops a s) (evT c mx id ops b s)

noncomputable def evDraw (c : Cx) (id : Nat) (ops : Array Oper) (s : St) : Option St :=
  match c.hint.mix id with
  | none => evDraw0 c id ops s
  | some mx => evT c mx id ops mx.tree s

/-- the call's own objects behind the first k are let go, if nothing that stays reaches them -/
def keeps (base : Nat) (k : Option Nat) (s : St) : Option St :=
  match k with
  | none => some s
  | some n =>
    if s.1.all fun p => okv (base + n) p.2 then
      some (s.1, s.2.take (base + n))
    else none

noncomputable def evRegion (c : Cx) (id : Nat) (ops : Array Oper) (draw : Bool) (s : St) : Option St :=
  match (if draw then evDraw c id ops s else evOps c ops ops.toList s) with
  | some s' => keeps c.base (c.hint.keep id) (untag (lives (c.hint.live id) s'.1), s'.2)
  | none => none

inductive Ex where
  | normal
  | exit (id : Nat)
  | ret
  deriving DecidableEq, Inhabited

abbrev LoopF := (St → Option (Ex × St)) → St → Option (Ex × St)

noncomputable def evCode (c : Cx) (lp : LoopF) : Code → St → Option (Ex × St)
  | .skip, s => some (.normal, s)
  | .region id ops draw, s => (evRegion c id ops draw s).map fun s' => (.normal, s')
  | .seq a b, s =>
    match evCode c lp a s with
    | some (.normal, s') => evCode c lp b s'
    | r => r
  | .cond x a b, s =>
    match opd s.1 x with
    | .v (.bool t) => if t then evCode c lp a s else evCode c lp b s
    | _ => none
  | .block id a, s =>
    match evCode c lp a s with
    | some (.exit j, s') => if j = id then some (.normal, s') else some (.exit j, s')
    | r => r
  | .loop a, s => lp (evCode c lp a) s
  | .exit id, s => some (.exit id, s)
  | .scope a, s => evCode c lp a s
  | .label _, s => some (.normal, s)
  | .ret, s => some (.ret, s)
  | _, _ => none

/-- a loop of at most n rounds -/
def loopN : Nat → LoopF
  | 0, _, _ => none
  | n + 1, f, s =>
    match f s with
    | some (.normal, s') => loopN n f s'
    | r => r

def evRes (P : Program) (s : St) : ResultVar → Option V
  | .tmp t => match look s.1 t with
    | .tup _ => none
    | x => some (fzs x)
  | .cell a t =>
    match look s.1 a with
    | .ptr b o => (loadV P s.2 t (.ptr b o)).map fzs
    | _ => none

def evResults (P : Program) (s : St) : List ResultVar → Option (List V)
  | [] => some []
  | r :: l => match evRes P s r, evResults P s l with
    | some x, some xs => some (x :: xs)
    | _, _ => none

def resV : List V → V
  | [x] => x
  | l => .tup l

def args0 (args : List V) : Env := args.zipIdx.map fun p => (p.2, p.1)

/-- a value without a mark of its own -/
def bare : V → Bool
  | .list .no _ => true
  | .list _ _ => false
  | _ => true

/-- a call's end: its results; its own objects go -/
def finish (P : Program) (fn : Func) (base : Nat) (s : St) : Option (V × Heap) :=
  match evResults P s fn.results.toList with
  | some vs => if okr base (resV vs) then some (resV vs, s.2.take base) else none
  | none => none

noncomputable def evBody (P : Program) (hints : Nat → Hint) (call : CallF) (lp : LoopF) (lo f : Nat) (args : List V) (h : Heap) : Option (V × Heap) :=
  match P.funcs[f]? with
  | some fn =>
    match fn.body with
    | some b =>
      if codeOk P (hints f) fn.ntmps b && decide (args.length ≤ fn.ntmps) && args.all bare && fn.name != "runtime.NumGoroutine" then
        match evCode ⟨P, call, lo, h.length, hints f⟩ lp b (args0 args, h) with
        | some (.exit _, _) => none
        | some (_, s) => finish P fn h.length s
        | none => none
      else none
    | none => none
  | none => none

/-- calls nested at most n deep, loops of at most n rounds; some functions by a contract of their own -/
noncomputable def evFun (P : Program) (hints : Nat → Hint) (prim : Nat → Option (Nat → List V → Heap → Option (V × Heap))) : Nat → CallF
  | 0 => fun _ _ _ _ => none
  | n + 1 => fun lo f args h =>
    match prim f with
    | some p => p lo args h
    | none => evBody P hints (evFun P hints prim n) (loopN n) lo f args h

end Go.Lift
end

section
/- The lifting, second part: what it means that a value and a state of the evaluation stand for the machine's. -/
namespace Go.Lift
set_option linter.unusedVariables false
set_option linter.unusedSimpArgs false
set_option linter.unusedSectionVars false

def R2 {α β : Type} (R : α → β → Prop) (l : List α) (m : List β) : Prop :=
  l.length = m.length ∧ ∀ (i : Nat) x y, l[i]? = some x → m[i]? = some y → R x y

theorem R2.mono {α β : Type} {R S : α → β → Prop} {l : List α} {m : List β} (h : R2 R l m) (hs : ∀ x y, R x y → S x y) : R2 S l m :=
  ⟨h.1, fun i x y hx hy => hs x y (h.2 i x y hx hy)⟩
theorem R2.nil {α β : Type} {R : α → β → Prop} : R2 R ([] : List α) ([] : List β) := ⟨rfl, fun i x y hx _ => by simp at hx⟩
theorem R2.cons {α β : Type} {R : α → β → Prop} {x : α} {y : β} {l : List α} {m : List β} (h : R x y) (hs : R2 R l m) : R2 R (x :: l) (y :: m) :=
  ⟨by simp [hs.1], fun i u v hu hv => by
    cases i with
    | zero => simp at hu hv; subst hu; subst hv; exact h
    | succ i => exact hs.2 i u v (by simpa using hu) (by simpa using hv)⟩
theorem R2.head {α β : Type} {R : α → β → Prop} {x : α} {y : β} {l : List α} {m : List β} (h : R2 R (x :: l) (y :: m)) : R x y :=
  h.2 0 x y rfl rfl
theorem R2.tail {α β : Type} {R : α → β → Prop} {x : α} {y : β} {l : List α} {m : List β} (h : R2 R (x :: l) (y :: m)) : R2 R l m :=
  ⟨by simpa using h.1, fun i u v hu hv => h.2 (i + 1) u v (by simpa using hu) (by simpa using hv)⟩
theorem R2.get {α β : Type} {R : α → β → Prop} {l : List α} {m : List β} (h : R2 R l m) {i : Nat} {x : α} (hx : l[i]? = some x) : ∃ y, m[i]? = some y ∧ R x y := by
  have hi : i < l.length := (List.getElem?_eq_some_iff.1 hx).1
  have hm : i < m.length := by rw [← h.1]; exact hi
  exact ⟨m[i], List.getElem?_eq_getElem hm, h.2 i x _ hx (List.getElem?_eq_getElem hm)⟩
theorem R2.take {α β : Type} {R : α → β → Prop} {l : List α} {m : List β} (h : R2 R l m) (n : Nat) : R2 R (l.take n) (m.take n) :=
  ⟨by simp [h.1], fun i x y hx hy => by
    rw [List.getElem?_take] at hx hy
    split at hx
    · exact h.2 i x y hx (by simpa [*] using hy)
    · cases hx⟩
theorem R2.drop {α β : Type} {R : α → β → Prop} {l : List α} {m : List β} (h : R2 R l m) (n : Nat) : R2 R (l.drop n) (m.drop n) :=
  ⟨by simp [h.1], fun i x y hx hy => by
    rw [List.getElem?_drop] at hx hy
    exact h.2 _ x y hx hy⟩
theorem R2.append {α β : Type} {R : α → β → Prop} {l l' : List α} {m m' : List β} (h : R2 R l m) (h' : R2 R l' m') : R2 R (l ++ l') (m ++ m') :=
  ⟨by simp [h.1, h'.1], fun i x y hx hy => by
    rw [List.getElem?_append] at hx hy
    rw [h.1] at hx
    split at hx
    · rename_i hi; rw [if_pos hi] at hy; exact h.2 i x y hx hy
    · rename_i hi; rw [if_neg hi] at hy; exact h'.2 _ x y hx hy⟩
theorem R2.map {α β α' β' : Type} {R : α → β → Prop} {S : α' → β' → Prop} {f : α → α'} {g : β → β'} {l : List α} {m : List β} (h : R2 R l m) (hs : ∀ x y, R x y → S (f x) (g y)) : R2 S (l.map f) (m.map g) :=
  ⟨by simp [h.1], fun i x y hx hy => by
    simp only [List.getElem?_map, Option.map_eq_some_iff] at hx hy
    obtain ⟨x', hx', rfl⟩ := hx
    obtain ⟨y', hy', rfl⟩ := hy
    exact hs _ _ (h.2 i x' y' hx' hy')⟩
theorem R2.set {α β : Type} {R : α → β → Prop} {l : List α} {m : List β} (h : R2 R l m) {x : α} {y : β} (n : Nat) (hxy : R x y) : R2 R (l.set n x) (m.set n y) :=
  ⟨by simp [h.1], fun i u v hu hv => by
    rw [List.getElem?_set] at hu hv
    by_cases hi : n = i
    · subst hi
      by_cases hl : n < l.length
      · have hl' : n < m.length := by rw [← h.1]; exact hl
        simp [hl] at hu; simp [hl'] at hv; subst hu; subst hv; exact hxy
      · simp [hl] at hu
    · simp [hi] at hu hv; exact h.2 i u v hu hv⟩

abbrev Cl := Nat → Nat

/-- plain data: it lies below the claims, where nothing is written any more -/
inductive VP (c : Cl) (w : World) : V → Value → Prop
  | v (x : Value) (h : x.oneCell' = true) : VP c w (.v x) x
  | empty (k : Own) (ao : Option Addr) (cap : Nat) : VP c w (.list k []) (.slice ao 0 cap)
  | list (k : Own) (rows : List (List V)) (a : Addr) (cap sz : Nat) (xs : Nat → Nat → Value)
      (hne : rows ≠ []) (hsz : 0 < sz) (hspot : a.spot = none) (hcap : rows.length ≤ cap) (hcl : a.off + rows.length * sz ≤ c a.block)
      (hrow : ∀ (i : Nat) (row : List V), rows[i]? = some row → row.length = sz)
      (hcell : ∀ (i j : Nat) (row : List V) (v : V), rows[i]? = some row → row[j]? = some v → w.cell? ⟨a.block, a.off + i * sz + j, none⟩ = some (xs i j))
      (hrec : ∀ (i j : Nat) (row : List V) (v : V), rows[i]? = some row → row[j]? = some v → VP c w v (xs i j)) : VP c w (.list k rows) (.slice (some a) rows.length cap)

structure Ext (c : Cl) (w : World) (c' : Cl) (w' : World) : Prop where
  cl : ∀ b, c b ≤ c' b
  cell : ∀ b off, off < c b → w'.cell? ⟨b, off, none⟩ = w.cell? ⟨b, off, none⟩

theorem Ext.refl (c : Cl) (w : World) : Ext c w c w := ⟨fun _ => Nat.le_refl _, fun _ _ _ => rfl⟩
theorem Ext.trans {c c' c'' : Cl} {w w' w'' : World} (h : Ext c w c' w') (h' : Ext c' w' c'' w'') : Ext c w c'' w'' :=
  ⟨fun b => Nat.le_trans (h.cl b) (h'.cl b), fun b o ho => (h'.cell b o (Nat.lt_of_lt_of_le ho (h.cl b))).trans (h.cell b o ho)⟩

theorem VP.mono {c c' : Cl} {w w' : World} {v : V} {x : Value} (h : VP c w v x) (e : Ext c w c' w') : VP c' w' v x := by
  induction h with
  | v x h => exact .v x h
  | empty k ao cap => exact .empty k ao cap
  | list k rows a cap sz xs hne hsz hspot hcap hcl hrow hcell hrec ih =>
    refine .list k rows a cap sz xs hne hsz hspot hcap (Nat.le_trans hcl (e.cl _)) hrow ?_ ih
    intro i j row v hi hj
    rw [e.cell]
    · exact hcell i j row v hi hj
    · have h1 : j < row.length := (List.getElem?_eq_some_iff.1 hj).1
      have h2 : i < rows.length := (List.getElem?_eq_some_iff.1 hi).1
      rw [hrow i row hi] at h1
      have h3 : (i + 1) * sz ≤ rows.length * sz := Nat.mul_le_mul_right _ h2
      rw [Nat.add_mul] at h3
      omega

theorem VP.flag {c : Cl} {w : World} {k : Own} {r : List (List V)} {x : Value} (h : VP c w (.list k r) x) (k' : Own) : VP c w (.list k' r) x := by
  cases h with
  | empty k ao cap => exact .empty k' ao cap
  | list k rows a cap sz xs hne hsz hspot hcap hcl hrow hcell hrec => exact .list k' _ a cap sz xs hne hsz hspot hcap hcl hrow hcell hrec

theorem VP.oneCell {c : Cl} {w : World} {v : V} {x : Value} (h : VP c w v x) : x.oneCell' = true := by
  cases h with
  | v x h => exact h
  | empty => rfl
  | list => rfl

/-- cells that lie protected from an address on -/
def ROs (c : Cl) (w : World) (a : Addr) (cs : List V) : Prop :=
  a.off + cs.length ≤ c a.block ∧ ∀ (j : Nat) v, cs[j]? = some v → ∃ x, w.cell? ⟨a.block, a.off + j, none⟩ = some x ∧ VP c w v x

theorem ROs.mono {c c' : Cl} {w w' : World} {a : Addr} {cs : List V} (h : ROs c w a cs) (e : Ext c w c' w') : ROs c' w' a cs :=
  ⟨Nat.le_trans h.1 (e.cl _), fun j v hj => by
    obtain ⟨x, hx, hv⟩ := h.2 j v hj
    have hl : j < cs.length := (List.getElem?_eq_some_iff.1 hj).1
    exact ⟨x, by rw [e.cell _ _ (by have := h.1; omega)]; exact hx, hv.mono e⟩⟩

def VR0 (m : List Nat) (c : Cl) (w : World) : V → Value → Prop
  | .v x, y => y = x
  | .nil, y => y = .slice none 0 0
  | .list k r, y => VP c w (.list k r) y
  | .ptr b o, y => ∃ g, m[b]? = some g ∧ y = .pointer (some ⟨g, o, none⟩)
  | .rp cs, y => ∃ a : Addr, y = .pointer (some a) ∧ a.spot = none ∧ ROs c w a cs
  | .buf b o n, y => ∃ g cap, m[b]? = some g ∧ y = .slice (some ⟨g, o, none⟩) n cap ∧ n ≤ cap
  | .undef, _ => True
  | .agg _, _ => False
  | .tup _, _ => False
  | .fn _ _, _ => False

def VR1 (m : List Nat) (c : Cl) (w : World) : V → Value → Prop
  | .fn f cs, y => ∃ xs : Array Value, y = .func (.func f) #[] xs ∧ R2 (VR0 m c w) cs xs.toList
  | x, y => VR0 m c w x y

def VR (m : List Nat) (c : Cl) (w : World) : V → Value → Prop
  | .agg cs, y => ∃ xs : Array Value, y = .agg xs ∧ R2 (VR1 m c w) cs xs.toList
  | x, y => VR1 m c w x y

def VRr (m : List Nat) (c : Cl) (w : World) : V → Value → Prop
  | .tup vs, y => ∃ xs : Array Value, y = .tuple xs ∧ R2 (VR m c w) vs xs.toList
  | x, y => VR m c w x y

def Pre (m m' : List Nat) : Prop := ∀ (i : Nat) b, m[i]? = some b → m'[i]? = some b
theorem Pre.refl (m : List Nat) : Pre m m := fun _ _ h => h
theorem Pre.trans {m m' m'' : List Nat} (h : Pre m m') (h' : Pre m' m'') : Pre m m'' := fun i b hb => h' i b (h i b hb)
theorem Pre.append (m l : List Nat) : Pre m (m ++ l) := fun i b h => by
  have hi := (List.getElem?_eq_some_iff.1 h).1
  rw [List.getElem?_append_left hi]; exact h

section mono
variable {m m' : List Nat} {c c' : Cl} {w w' : World}
theorem VR0.mono (hm : Pre m m') (e : Ext c w c' w') {v : V} {x : Value} (h : VR0 m c w v x) : VR0 m' c' w' v x := by
  cases v with
  | v y => exact h
  | nil => exact h
  | list k r => exact VP.mono h e
  | ptr b o => obtain ⟨g, hg, rfl⟩ := h; exact ⟨g, hm _ _ hg, rfl⟩
  | rp cs => obtain ⟨a, rfl, hs, hr⟩ := h; exact ⟨a, rfl, hs, hr.mono e⟩
  | buf b o n => obtain ⟨g, cap, hg, rfl, hc⟩ := h; exact ⟨g, cap, hm _ _ hg, rfl, hc⟩
  | undef => trivial
  | agg cs => exact h.elim
  | tup cs => exact h.elim
  | fn f cs => exact h.elim
theorem VR1.mono (hm : Pre m m') (e : Ext c w c' w') {v : V} {x : Value} (h : VR1 m c w v x) : VR1 m' c' w' v x := by
  cases v with
  | fn f cs => obtain ⟨xs, rfl, hr⟩ := h; exact ⟨xs, rfl, hr.mono fun _ _ => VR0.mono hm e⟩
  | v y => exact VR0.mono (v := (.v y)) (x := x) hm e h
  | nil => exact VR0.mono (v := .nil) (x := x) hm e h
  | list k r => exact VR0.mono (v := (.list k r)) (x := x) hm e h
  | ptr b o => exact VR0.mono (v := (.ptr b o)) (x := x) hm e h
  | rp cs => exact VR0.mono (v := (.rp cs)) (x := x) hm e h
  | buf b o n => exact VR0.mono (v := (.buf b o n)) (x := x) hm e h
  | agg cs => exact VR0.mono (v := (.agg cs)) (x := x) hm e h
  | tup vs => exact VR0.mono (v := (.tup vs)) (x := x) hm e h
  | undef => exact VR0.mono (v := .undef) (x := x) hm e h
theorem VR.mono (hm : Pre m m') (e : Ext c w c' w') {v : V} {x : Value} (h : VR m c w v x) : VR m' c' w' v x := by
  cases v with
  | agg cs => obtain ⟨xs, rfl, hr⟩ := h; exact ⟨xs, rfl, hr.mono fun _ _ => VR1.mono hm e⟩
  | v y => exact VR1.mono (v := (.v y)) (x := x) hm e h
  | nil => exact VR1.mono (v := .nil) (x := x) hm e h
  | list k r => exact VR1.mono (v := (.list k r)) (x := x) hm e h
  | ptr b o => exact VR1.mono (v := (.ptr b o)) (x := x) hm e h
  | rp cs => exact VR1.mono (v := (.rp cs)) (x := x) hm e h
  | buf b o n => exact VR1.mono (v := (.buf b o n)) (x := x) hm e h
  | tup vs => exact VR1.mono (v := (.tup vs)) (x := x) hm e h
  | fn f cs => exact VR1.mono (v := (.fn f cs)) (x := x) hm e h
  | undef => exact VR1.mono (v := .undef) (x := x) hm e h
theorem VRr.mono (hm : Pre m m') (e : Ext c w c' w') {v : V} {x : Value} (h : VRr m c w v x) : VRr m' c' w' v x := by
  cases v with
  | tup cs => obtain ⟨xs, rfl, hr⟩ := h; exact ⟨xs, rfl, hr.mono fun _ _ => VR.mono hm e⟩
  | v y => exact VR.mono (v := (.v y)) hm e h
  | nil => exact VR.mono (v := .nil) hm e h
  | list k r => exact VR.mono (v := (.list k r)) hm e h
  | ptr b o => exact VR.mono (v := (.ptr b o)) hm e h
  | rp cs => exact VR.mono (v := (.rp cs)) hm e h
  | buf b o n => exact VR.mono (v := (.buf b o n)) hm e h
  | agg cs => exact VR.mono (v := (.agg cs)) hm e h
  | fn f cs => exact VR.mono (v := (.fn f cs)) hm e h
  | undef => exact VR.mono (v := .undef) (x := x) hm e h
end mono

section flags
variable {m : List Nat} {c : Cl} {w : World} {v : V} {x : Value}
theorem VR0.cp (h : VR0 m c w v x) : VR0 m c w (cp v) x := by
  cases v with
  | list k r => exact VP.flag h .no
  | _ => exact h
theorem VR1.cp (h : VR1 m c w v x) : VR1 m c w (cp v) x := by
  cases v with
  | list k r => exact VP.flag h .no
  | _ => exact h
theorem VR1.fz (h : VR1 m c w v x) : VR1 m c w (fz v) x := by
  cases v with
  | list k r => exact VP.flag h .no
  | nil => have h' : x = .slice none 0 0 := h; subst h'; exact VP.empty .no none 0
  | _ => exact h
theorem VRr.cps (h : VRr m c w v x) : VRr m c w (cps v) x := by
  cases v with
  | list k r => exact VP.flag h .no
  | agg cs => obtain ⟨xs, rfl, hr⟩ := h; exact ⟨xs, rfl, by simpa using hr.map (g := id) fun _ _ => VR1.cp⟩
  | _ => exact h
theorem VR.cps (h : VR m c w v x) : VR m c w (cps v) x := by
  cases v with
  | list k r => exact VP.flag h .no
  | agg cs => obtain ⟨xs, rfl, hr⟩ := h; exact ⟨xs, rfl, by simpa using hr.map (g := id) fun _ _ => VR1.cp⟩
  | _ => exact h
theorem VR.fzs (h : VR m c w v x) : VR m c w (fzs v) x := by
  cases v with
  | list k r => exact VP.flag h .no
  | nil => have h' : x = .slice none 0 0 := h; subst h'; exact VP.empty .no none 0
  | agg cs => obtain ⟨xs, rfl, hr⟩ := h; exact ⟨xs, rfl, by simpa using hr.map (g := id) fun _ _ => VR1.fz⟩
  | _ => exact h
theorem VRr.fzs (h : VRr m c w v x) : VRr m c w (fzs v) x := by
  cases v with
  | tup vs => exact h
  | list k r => exact VP.flag h .no
  | nil => have h' : x = .slice none 0 0 := h; subst h'; exact VP.empty .no none 0
  | agg cs => obtain ⟨xs, rfl, hr⟩ := h; exact ⟨xs, rfl, by simpa using hr.map (g := id) fun _ _ => VR1.fz⟩
  | _ => exact h
end flags

/- fewer objects: what reaches none of those that go -/
section less
variable {m : List Nat} {c : Cl} {w : World} {n : Nat}
theorem getElem?_take_lt {m : List Nat} {n b g : Nat} (h : m[b]? = some g) (hb : b < n) : (m.take n)[b]? = some g := by
  rw [List.getElem?_take, if_pos hb]; exact h
theorem VR0.less {v : V} {x : Value} (h : VR0 m c w v x) (hk : okc n v = true ∨ v = .undef) : VR0 (m.take n) c w v x := by
  cases v with
  | ptr b o => obtain ⟨g, hg, rfl⟩ := h; exact ⟨g, getElem?_take_lt hg (by simpa [okc] using hk), rfl⟩
  | buf b o k => obtain ⟨g, cap, hg, rfl, hc⟩ := h; exact ⟨g, cap, getElem?_take_lt hg (by simpa [okc] using hk), rfl, hc⟩
  | _ => exact h
theorem VR1.less {v : V} {x : Value} (h : VR1 m c w v x) (hk : okc n v = true ∨ v = .undef) : VR1 (m.take n) c w v x := by
  cases v with
  | fn f cs => rcases hk with hk | hk <;> simp [okc] at hk
  | v y => exact VR0.less (m := m) (c := c) (w := w) (n := n) (v := (.v y)) (x := x) h hk
  | nil => exact VR0.less (m := m) (c := c) (w := w) (n := n) (v := .nil) (x := x) h hk
  | list k r => exact VR0.less (m := m) (c := c) (w := w) (n := n) (v := (.list k r)) (x := x) h hk
  | ptr b o => exact VR0.less (m := m) (c := c) (w := w) (n := n) (v := (.ptr b o)) (x := x) h hk
  | rp cs => exact VR0.less (m := m) (c := c) (w := w) (n := n) (v := (.rp cs)) (x := x) h hk
  | buf b o k => exact VR0.less (m := m) (c := c) (w := w) (n := n) (v := (.buf b o k)) (x := x) h hk
  | agg cs => exact VR0.less (m := m) (c := c) (w := w) (n := n) (v := (.agg cs)) (x := x) h hk
  | tup vs => exact VR0.less (m := m) (c := c) (w := w) (n := n) (v := (.tup vs)) (x := x) h hk
  | undef => exact VR0.less (m := m) (c := c) (w := w) (n := n) (v := .undef) (x := x) h hk
theorem VR.less {v : V} {x : Value} (h : VR m c w v x) (hk : okv n v = true) : VR (m.take n) c w v x := by
  cases v with
  | agg cs =>
    obtain ⟨xs, rfl, hr⟩ := h
    simp only [okv, List.all_eq_true] at hk
    exact ⟨xs, rfl, hr.1, fun i u y hu hy => (hr.2 i u y hu hy).less (.inl (hk u (List.mem_of_getElem? hu)))⟩
  | fn f cs =>
    obtain ⟨xs, rfl, hr⟩ := h
    simp only [okv, List.all_eq_true] at hk
    exact ⟨xs, rfl, hr.1, fun i u y hu hy => (hr.2 i u y hu hy).less (.inl (hk u (List.mem_of_getElem? hu)))⟩
  | undef => trivial
  | v y => exact VR1.less (m := m) (c := c) (w := w) (n := n) (v := (.v y)) (x := x) h (.inl (by exact hk))
  | nil => exact VR1.less (m := m) (c := c) (w := w) (n := n) (v := .nil) (x := x) h (.inl (by exact hk))
  | list k r => exact VR1.less (m := m) (c := c) (w := w) (n := n) (v := (.list k r)) (x := x) h (.inl (by exact hk))
  | ptr b o => exact VR1.less (m := m) (c := c) (w := w) (n := n) (v := (.ptr b o)) (x := x) h (.inl (by exact hk))
  | rp cs => exact VR1.less (m := m) (c := c) (w := w) (n := n) (v := (.rp cs)) (x := x) h (.inl (by exact hk))
  | buf b o k => exact VR1.less (m := m) (c := c) (w := w) (n := n) (v := (.buf b o k)) (x := x) h (.inl (by exact hk))
  | tup vs => exact VR1.less (m := m) (c := c) (w := w) (n := n) (v := (.tup vs)) (x := x) h (.inl (by exact hk))
theorem VRr.less {v : V} {x : Value} (h : VRr m c w v x) (hk : okr n v = true) : VRr (m.take n) c w v x := by
  cases v with
  | tup vs =>
    obtain ⟨xs, rfl, hr⟩ := h
    simp only [okr, List.all_eq_true] at hk
    exact ⟨xs, rfl, hr.1, fun i u y hu hy => (hr.2 i u y hu hy).less (hk u (List.mem_of_getElem? hu))⟩
  | v y => exact VR.less (m := m) (c := c) (w := w) (n := n) (v := (.v y)) (x := x) h hk
  | nil => exact VR.less (m := m) (c := c) (w := w) (n := n) (v := .nil) (x := x) h hk
  | list k r => exact VR.less (m := m) (c := c) (w := w) (n := n) (v := (.list k r)) (x := x) h hk
  | ptr b o => exact VR.less (m := m) (c := c) (w := w) (n := n) (v := (.ptr b o)) (x := x) h hk
  | rp cs => exact VR.less (m := m) (c := c) (w := w) (n := n) (v := (.rp cs)) (x := x) h hk
  | buf b o k => exact VR.less (m := m) (c := c) (w := w) (n := n) (v := (.buf b o k)) (x := x) h hk
  | agg cs => exact VR.less (m := m) (c := c) (w := w) (n := n) (v := (.agg cs)) (x := x) h hk
  | fn f cs => exact VR.less (m := m) (c := c) (w := w) (n := n) (v := (.fn f cs)) (x := x) h hk
  | undef => exact VR.less (m := m) (c := c) (w := w) (n := n) (v := .undef) (x := x) h hk
end less

theorem VR.r {m : List Nat} {c : Cl} {w : World} {v : V} {x : Value} (h : VR m c w v x) : VRr m c w v x := by
  cases v with
  | tup cs => exact h.elim
  | _ => exact h
theorem VR1.r {m : List Nat} {c : Cl} {w : World} {v : V} {x : Value} (h : VR1 m c w v x) : VR m c w v x := by
  cases v with
  | agg cs => exact h.elim
  | _ => exact h
theorem VR0.r {m : List Nat} {c : Cl} {w : World} {v : V} {x : Value} (h : VR0 m c w v x) : VR1 m c w v x := by
  cases v with
  | fn f cs => exact h.elim
  | _ => exact h

theorem VR1_of_VP {m : List Nat} {c : Cl} {w : World} {v : V} {x : Value} (h : VP c w v x) : VR1 m c w v x := by
  cases h with
  | v x h => rfl
  | empty => exact VP.empty _ _ _
  | list k rows a cap sz xs hne hsz hspot hcap hcl hrow hcell hrec => exact VP.list k rows a cap sz xs hne hsz hspot hcap hcl hrow hcell hrec

/-- constants -/
theorem VR1_ofC1 {m : List Nat} {c : Cl} {w : World} (x : Value) : VR1 m c w (ofC1 x) x := by
  unfold ofC1
  split
  · rfl
  · rename_i f a b
    split
    · rename_i h
      have ha : a = #[] := Array.eq_empty_of_size_eq_zero h.1
      have hb : b = #[] := Array.eq_empty_of_size_eq_zero h.2
      subst ha; subst hb
      exact ⟨#[], rfl, R2.nil⟩
    · rfl
  · rfl
theorem VR_ofC {m : List Nat} {c : Cl} {w : World} (x : Value) : VR m c w (ofC x) x := by
  unfold ofC
  split
  · refine ⟨_, rfl, ?_⟩
    refine ⟨by simp, fun i u y hu hy => ?_⟩
    simp only [List.getElem?_map, Option.map_eq_some_iff] at hu
    obtain ⟨z, hz, rfl⟩ := hu
    rw [hy] at hz
    cases hz
    exact VR1_ofC1 _
  · exact (VR1_ofC1 _).r

/-! what an owner is -/
def ownBlk : Value → Option Nat
  | .slice (some a) _ _ => some a.block
  | _ => none

variable [BTy]
def OwnB (m : List Nat) (c : Cl) (w : World) (r : List (List V)) (x : Value) : Prop :=
  (x = .slice none 0 0 ∧ r = []) ∨
  ∃ b cap cur e sz, x = .slice (some ⟨b, 0, none⟩) r.length cap ∧ w.heap[b]? = some (.cells cur e (0, 0)) ∧ r.length ≤ cap ∧ cap ≤ maxLen ∧ cur.size = cap * sz ∧
    0 < sz ∧ (∀ row ∈ r, row.length = sz) ∧ c b = r.length * sz ∧ b ∉ m ∧ (r = [] → cap = 0) ∧ ∀ T, BTy.bb = some T → isByteRow r = true → e = T

inductive Loc where
  | slot (t : Nat)
  | cell (i j : Nat)

def At (m : List Nat) (w : World) (g : Env) (h : Heap) (a : Act) : Loc → List (List V) → Value → Prop
  | .slot t, r, x => look g t = .list .yes r ∧ x = a.tmps.getD t undef
  | .cell i j, r, x => ∃ cs b, cellsOfOb h i = some cs ∧ cs[j]? = some (.list .yes r) ∧ m[i]? = some b ∧ w.cell? ⟨b, j, none⟩ = some x

def ObR (m : List Nat) (c : Cl) (w : World) : Ob → Nat → Prop
  | .cells cs, b => ∃ arr e f, w.heap[b]? = some (.cells arr e f) ∧ cs.length ≤ arr.size ∧ (∀ j, j < cs.length → w.frozen? ⟨b, j, none⟩ = false) ∧
      (∀ (j : Nat) v x, cs[j]? = some v → arr[j]? = some x → VR1 m c w v x ∧ x.oneCell' = true) ∧ ∀ T, BTy.bt = some T → isBld cs = true → e = T ∧ arr.size = 2
  | .iter s pos, b => w.heap[b]? = some (.stringIter s pos)

variable [GTab]
structure Core (vars : List Nat) (m : List Nat) (c : Cl) (w : World) (g : Env) (h : Heap) (a : Act) : Prop where
  wf1 : ∀ b, 0 < c b → ∃ arr e f, w.heap[b]? = some (.cells arr e f) ∧ c b ≤ arr.size
  wf2 : ∀ b ∈ m, c b = 0
  nd : m.Nodup
  len : m.length = h.length
  env : ∀ t, VRr m c w (look g t) (a.tmps.getD t undef)
  ob : ∀ (i : Nat) o b, h[i]? = some o → m[i]? = some b → ObR m c w o b
  own : ∀ l r x, At m w g h a l r x → OwnB m c w r x
  uniq : ∀ l l' r r' x x' b, At m w g h a l r x → At m w g h a l' r' x' → ownBlk x = some b → ownBlk x' = some b → l = l'
  tagS : ∀ t u r, look g t = .list (.slot u) r → u ∈ vars ∧ look g u = .list .yes r ∧ a.tmps.getD t undef = a.tmps.getD u undef
  tagC : ∀ t i j r, look g t = .list (.cell i j) r → At m w g h a (.cell i j) r (a.tmps.getD t undef)
  gt : ∀ n cs, GTab.tab n = some cs → ROs c w ⟨n, 0, none⟩ cs

/-- what a call may turn: new blocks, objects from lo on, and what their cells own -/
structure Fr (lo : Nat) (ho : Nat → Prop) (w0 : World) (m0 : List Nat) (c0 : Cl) (w : World) (m : List Nat) (c : Cl) : Prop where
  os : w.os = w0.os
  tape : w.tape = w0.tape
  output : w.output = w0.output
  size : w0.heap.size ≤ w.heap.size
  pre : Pre m0 m
  new : ∀ (i : Nat) b, m0.length ≤ i → m[i]? = some b → w0.heap.size ≤ b
  ext : Ext c0 w0 c w
  fix : ∀ b, b < w0.heap.size → (∀ i : Nat, lo ≤ i → m0[i]? ≠ some b) → ¬ ho b → w.heap[b]? = w0.heap[b]? ∧ c b = c0 b

def upper (lo : Nat) : Loc → Prop
  | .slot _ => True
  | .cell i _ => lo ≤ i

/-- whoever owns, owns a new block, or one that was owned by an object's cell -/
def Owned (lo : Nat) (ho : Nat → Prop) (w0 : World) (m : List Nat) (w : World) (g : Env) (h : Heap) (a : Act) : Prop :=
  ∀ l r x b, At m w g h a l r x → upper lo l → ownBlk x = some b → w0.heap.size ≤ b ∨ ho b

theorem Fr.refl (lo : Nat) (ho : Nat → Prop) (w : World) (m : List Nat) (c : Cl) : Fr lo ho w m c w m c :=
  ⟨rfl, rfl, rfl, Nat.le_refl _, Pre.refl m, fun i b hi hb => by
    have := (List.getElem?_eq_some_iff.1 hb).1; omega, Ext.refl c w, fun _ _ _ _ => ⟨rfl, rfl⟩⟩

end Go.Lift
end

section
/- The lifting, third part: operations that leave the state alone. -/
namespace Go.Lift
set_option linter.unusedVariables false
set_option linter.unusedSimpArgs false
set_option linter.unusedSectionVars false
variable [GTab] [BTy]

section
variable {P : Program} {vars : List Nat} {m : List Nat} {c : Cl} {w : World} {g : Env} {h : Heap} {a : Act}

theorem Core.opd (hC : Core vars m c w g h a) (x : Operand) : VRr m c w (opd g x) (a.eval x) := by
  cases x with
  | tmp t => exact hC.env t
  | const v => exact (VR_ofC v).r
  | global n =>
    simp only [Lift.opd]
    split
    · rename_i cs hg
      exact ⟨_, rfl, rfl, hC.gt n cs hg⟩
    · rfl
  | func f => exact ⟨#[], rfl, R2.nil⟩

/-- what a new temporary may say of itself -/
def TagOK (vars : List Nat) (m : List Nat) (w : World) (g : Env) (h : Heap) (a : Act) (v : V) (x : Value) : Prop :=
  (∀ r, v ≠ .list .yes r) ∧ (∀ u r, v = .list (.slot u) r → u ∈ vars ∧ look g u = .list .yes r ∧ x = a.tmps.getD u undef) ∧
    (∀ i j r, v = .list (.cell i j) r → At m w g h a (.cell i j) r x)

theorem TagOK.bare {v : V} {x : Value} (hb : bare v = true) : TagOK vars m w g h a v x := by
  refine ⟨fun r e => ?_, fun u r e => ?_, fun i j r e => ?_⟩ <;> subst e <;> simp [Lift.bare] at hb
theorem bare_cps (v : V) : bare (cps v) = true := by
  cases v <;> rfl
theorem bare_cp (v : V) : bare (cp v) = true := by
  cases v <;> rfl

theorem bare_ofC (y : Value) : bare (ofC y) = true := by
  unfold ofC
  split
  · rfl
  · unfold ofC1
    split
    · rfl
    · split <;> rfl
    · rfl

theorem run_type {t : TypeId} {d : TypeDesc} (hd : P.underlying t = some d) : (underlying t).run P w = .ok d w := run_underlying hd w
theorem run_sizeOf {t : TypeId} {i : TypeInfo} (hi : P.info? t = some i) : (sizeOf t).run P w = .ok i.size w := by
  simp [sizeOf, typeInfo, hi]

/-- whatever the operation is: the run that its value comes of -/
def Yields (P : Program) (w : World) (a : Act) (o : Oper) (x : Value) : Prop := (execOp a.eval o).run P w = .ok (.value x) w

theorem yields_of {o : Oper} {s : Sem Value} {x : Value} (he : execOp a.eval o = (do pure (Next.value (← s)))) (hs : s.run P w = .ok x w) : Yields P w a o x := by
  unfold Yields
  rw [he, Sem.run_bind, hs]
  rfl

theorem pure_move (hC : Core vars m c w g h a) {o : Oper} {x : Operand} (ho : o.op = .move x) {v : V} (hv : evPure P vars (g, h) (.move x) = some v) :
    ∃ y, Yields P w a o y ∧ VRr m c w v y ∧ TagOK vars m w g h a v y := by
  refine ⟨a.eval x, by simp [Yields, execOp, ho], ?_⟩
  cases x with
  | tmp t =>
    have he := hC.env t
    simp only [evPure] at hv
    split at hv
    · rename_i r hr
      cases hv
      rw [hr] at he
      refine ⟨VP.flag he _, fun r' e => ?_, fun u r' e => ?_, fun i j r' e => ?_⟩
      · split at e <;> cases e
      · split at e
        · cases e; rename_i hm; exact ⟨hm, hr, rfl⟩
        · cases e
      · split at e <;> cases e
    · cases hv
      exact ⟨he.cps, TagOK.bare (bare_cps _)⟩
  | const y => simp only [evPure, Option.some.injEq] at hv; subst hv; exact ⟨(VR_ofC y).r, TagOK.bare (bare_ofC y)⟩
  | global n =>
    have h1 := hC.opd (.global n)
    simp only [evPure, Lift.opd] at hv
    simp only [Lift.opd] at h1
    cases hg : GTab.tab n with
    | none => rw [hg] at hv h1; cases hv; exact ⟨h1, TagOK.bare rfl⟩
    | some cs => rw [hg] at hv h1; cases hv; exact ⟨h1, TagOK.bare rfl⟩
  | func f => cases hv; exact ⟨⟨#[], rfl, R2.nil⟩, TagOK.bare rfl⟩

theorem VRr.bool {x : Value} {b : Bool} (h : VRr m c w (.v (.bool b)) x) : x = .bool b := h
theorem VRr.v {x y : Value} (h : VRr m c w (.v y) x) : x = y := h

theorem pure_pick (hC : Core vars m c w g h a) {o : Oper} {k x y : Operand} (ho : o.op = .pick k x y) {v : V} (hv : evPure P vars (g, h) (.pick k x y) = some v) :
    ∃ y, Yields P w a o y ∧ VRr m c w v y ∧ TagOK vars m w g h a v y := by
  simp only [evPure] at hv
  split at hv
  · rename_i b hb
    cases hv
    have hk := hC.opd k
    rw [hb] at hk
    have hk' : a.eval k = .bool b := hk
    refine ⟨if b then a.eval x else a.eval y, ?_, ?_, ?_⟩
    · refine yields_of (s := do pure (if ← asBool (a.eval k) then a.eval x else a.eval y)) (by simp [execOp, ho]) ?_
      simp [hk', asBool]
    · cases b
      · exact (hC.opd y).cps
      · exact (hC.opd x).cps
    · cases b
      · exact TagOK.bare (bare_cps _)
      · exact TagOK.bare (bare_cps _)
  · cases hv

theorem R2_take_cp {cs : List V} {xs : List Value} (hr : R2 (VR1 m c w) cs xs) (n : Nat) : R2 (VR1 m c w) ((cs.take n).map cp) (xs.take n) := by
  simpa using (hr.take n).map (f := cp) (g := id) fun _ _ => VR1.cp

theorem ttag_true {t : TypeId} (ht : ttag P t = some true) : ∃ d, P.underlying t = some d ∧ d.isRow = true := by
  unfold ttag at ht
  split at ht
  · rename_i fs hf; exact ⟨_, hf, rfl⟩
  · rename_i n e hf; exact ⟨_, hf, rfl⟩
  · cases ht
  · cases ht
theorem ttag_false {t : TypeId} (ht : ttag P t = some false) : ∃ d, P.underlying t = some d ∧ d.isRow = false := by
  unfold ttag at ht
  split at ht
  · cases ht
  · cases ht
  · rename_i d h1 h2 hf
    refine ⟨d, hf, ?_⟩
    cases d <;> first | rfl | (exact absurd rfl (h1 _)) | (exact absurd rfl (h2 _ _))
  · cases ht
theorem info_of_underlying {t : TypeId} {d : TypeDesc} (hd : P.underlying t = some d) : ∃ i, P.info? t = some i := by
  unfold Program.underlying at hd
  cases hi : P.info? t with
  | some i => exact ⟨i, rfl⟩
  | none => simp [hi] at hd
theorem size_of_info {t : TypeId} {i : TypeInfo} (hi : P.info? t = some i) : tsize P t = i.size := by
  simp [tsize, Program.cellsOf, hi]
theorem run_isAgg_row {t : TypeId} {d : TypeDesc} (hd : P.underlying t = some d) : (isAgg t).run P w = .ok d.isRow w := by
  unfold isAgg
  rw [Sem.run_bind, run_underlying hd]
  cases d <;> rfl

/-- cells at an address, each as told -/
def CellsAt (R : V → Value → Prop) (w : World) (b o : Nat) (cs : List V) : Prop := ∀ (j : Nat) v, cs[j]? = some v → ∃ x, w.cell? ⟨b, o + j, none⟩ = some x ∧ R v x

theorem CellsAt.list {R : V → Value → Prop} {b o : Nat} : ∀ {cs : List V}, CellsAt R w b o cs → ∃ xs : List Value, xs.length = cs.length ∧ w.rangeAt b o xs ∧ R2 R cs xs := by
  intro cs
  induction cs generalizing o with
  | nil => intro _; exact ⟨[], rfl, fun j v hj => by simp at hj, R2.nil⟩
  | cons v cs ih =>
    intro hc
    obtain ⟨x, hx, hv⟩ := hc 0 v rfl
    obtain ⟨xs, hl, hr, h2⟩ := ih (o := o + 1) (fun j u hj => by
      obtain ⟨y, hy, hu⟩ := hc (j + 1) u (by simpa using hj)
      exact ⟨y, by rw [show o + 1 + j = o + (j + 1) by omega]; exact hy, hu⟩)
    refine ⟨x :: xs, by simp [hl], fun j u hj => ?_, R2.cons hv h2⟩
    cases j with
    | zero => simp at hj; subst hj; exact hx
    | succ j => rw [show o + (j + 1) = o + 1 + j by omega]; exact hr j u (by simpa using hj)

theorem CellsAt.take {R : V → Value → Prop} {b o n : Nat} {cs : List V} (hc : CellsAt R w b o cs) : CellsAt R w b o (cs.take n) := fun j v hj => by
  rw [List.getElem?_take] at hj
  split at hj
  · exact hc j v hj
  · cases hj
theorem CellsAt.drop {R : V → Value → Prop} {b o n : Nat} {cs : List V} (hc : CellsAt R w b o cs) : CellsAt R w b (o + n) (cs.drop n) := fun j v hj => by
  rw [List.getElem?_drop] at hj
  obtain ⟨x, hx, hv⟩ := hc _ v hj
  exact ⟨x, by rw [show o + n + j = o + (n + j) by omega]; exact hx, hv⟩

theorem take_load {t : TypeId} {b o : Nat} {cs : List V} (hc : CellsAt (VR1 m c w) w b o cs) {v : V} (hv : takeCells P t cs = some v) :
    ∃ y, (loadVar t ⟨b, o, none⟩).run P w = .ok y w ∧ VR m c w v y ∧ bare v = true := by
  unfold takeCells at hv
  split at hv
  · rename_i ht
    obtain ⟨d, hd, hrow⟩ := ttag_true ht
    obtain ⟨i, hi⟩ := info_of_underlying hd
    split at hv
    · rename_i hle
      cases hv
      obtain ⟨xs, hl, hr, h2⟩ := CellsAt.list hc
      refine ⟨.agg (xs.take (tsize P t)).toArray, ?_, ⟨_, rfl, ?_⟩, rfl⟩
      · refine run_loadVar_mid (P := P) w b o t (xs.take (tsize P t)) d (fun j u hj => ?_) hd hrow ?_
        · rw [List.getElem?_take] at hj
          split at hj
          · exact hr j u hj
          · cases hj
        · rw [hi]
          have := size_of_info hi
          simp only [Option.map_some, List.length_take, hl]
          congr 1
          omega
      · exact R2_take_cp h2 _
    · cases hv
  · rename_i ht
    obtain ⟨d, hd, hrow⟩ := ttag_false ht
    cases hcs : cs[0]? with
    | none => simp [hcs] at hv
    | some u =>
      simp only [hcs, Option.map_some, Option.some.injEq] at hv
      subst hv
      obtain ⟨x, hx, hu⟩ := hc 0 u hcs
      refine ⟨x, ?_, hu.cp.r, bare_cp _⟩
      simp only [Nat.add_zero] at hx
      simp [loadVar, run_isAgg_row hd, hrow, hx]
  · cases hv

theorem ROs.cells {ad : Addr} {cs : List V} (h : ROs c w ad cs) : CellsAt (VR1 m c w) w ad.block ad.off cs := fun j v hj => by
  obtain ⟨x, hx, hv⟩ := h.2 j v hj
  exact ⟨x, hx, VR1_of_VP hv⟩

theorem Core.obCells (hC : Core vars m c w g h a) {i b : Nat} {cs : List V} (hh : cellsOfOb h i = some cs) (hm : m[i]? = some b) :
    CellsAt (VR1 m c w) w b 0 cs ∧ ∀ (j : Nat) v x, cs[j]? = some v → w.cell? ⟨b, j, none⟩ = some x → VR1 m c w v x ∧ x.oneCell' = true := by
  unfold cellsOfOb at hh
  split at hh
  · rename_i cs' hcs
    cases hh
    obtain ⟨arr, e, f, hb, hle, _, hall, _⟩ := hC.ob i _ b hcs hm
    have hcell : ∀ j, w.cell? ⟨b, j, none⟩ = arr[j]? := fun j => by simp [World.cell?, hb]
    refine ⟨fun j v hj => ?_, fun j v x hj hx => hall j v x hj (by rw [← hcell]; exact hx)⟩
    have hlt : j < cs.length := (List.getElem?_eq_some_iff.1 hj).1
    have ha : arr[j]? = some arr[j] := Array.getElem?_eq_getElem (by omega)
    exact ⟨arr[j], by rw [Nat.zero_add, hcell, ha], (hall j v _ hj ha).1⟩
  · cases hh

theorem addr_eta {ad : Addr} (hs : ad.spot = none) : ad = ⟨ad.block, ad.off, none⟩ := by
  cases ad; simp at hs; simp [hs]

theorem loadV_ok (hC : Core vars m c w g h a) {t : TypeId} {p v : V} {y : Value} (hp : VRr m c w p y) (hv : loadV P h t p = some v) :
    ∃ z, (Instr.loadAt t y).run P w = .ok z w ∧ VR m c w v z ∧ TagOK vars m w g h a v z := by
  unfold loadV at hv
  split at hv
  · rename_i b o
    obtain ⟨gb, hg, rfl⟩ := hp
    split at hv
    · rename_i cs hcs
      obtain ⟨hc1, hc2⟩ := hC.obCells hcs hg
      have hrun : ∀ z, (loadVar t ⟨gb, o, none⟩).run P w = .ok z w → (Instr.loadAt t (.pointer (some ⟨gb, o, none⟩))).run P w = .ok z w := fun z hz => by
        simp [Instr.loadAt, Instr.sureAddr, hz]
      split at hv
      · obtain ⟨z, hz, hr, hb⟩ := take_load (by simpa using hc1.drop (n := o)) hv
        exact ⟨z, hrun z hz, hr, TagOK.bare hb⟩
      · rename_i ht
        obtain ⟨d, hd, hrow⟩ := ttag_false ht
        cases hj : cs[o]? with
        | none => simp [hj] at hv
        | some u =>
          simp only [hj, Option.map_some, Option.some.injEq] at hv
          subst hv
          obtain ⟨x, hx, hu⟩ := hc1 o u hj
          rw [Nat.zero_add] at hx
          refine ⟨x, hrun x (by simp [loadVar, run_isAgg_row hd, hrow, hx]), ?_, ?_⟩
          · unfold tagC
            split
            · exact VP.flag hu _
            · exact hu.cp.r
          · unfold tagC
            split
            · rename_i r
              refine ⟨fun r' e => (by cases e), fun u r' e => (by cases e), fun i j r' e => ?_⟩
              cases e
              exact ⟨cs, gb, hcs, hj, hg, hx⟩
            · exact TagOK.bare (bare_cp _)
      · cases hv
    · cases hv
  · obtain ⟨ad, rfl, hs, hr⟩ := hp
    obtain ⟨z, hz, hr, hb⟩ := take_load (m := m) (hr.cells (m := m)) hv
    refine ⟨z, ?_, hr, TagOK.bare hb⟩
    rw [addr_eta hs]
    simp [Instr.loadAt, Instr.sureAddr, hz]
  · cases hv

theorem pure_load (hC : Core vars m c w g h a) {o : Oper} {t : TypeId} {x : Operand} (ho : o.op = .load t x) {v : V} (hv : evPure P vars (g, h) (.load t x) = some v) :
    ∃ y, Yields P w a o y ∧ VRr m c w v y ∧ TagOK vars m w g h a v y := by
  obtain ⟨z, hz, hr, ht⟩ := loadV_ok hC (hC.opd x) hv
  exact ⟨z, yields_of (by simp [execOp, ho]) hz, hr.r, ht⟩

end
end Go.Lift
end

section
/- The lifting, fourth part: more operations that leave the state alone. -/
namespace Go.Lift
set_option linter.unusedVariables false
set_option linter.unusedSimpArgs false
set_option linter.unusedSectionVars false
variable [GTab] [BTy]

section
variable {P : Program} {vars : List Nat} {m : List Nat} {c : Cl} {w : World} {g : Env} {h : Heap} {a : Act}

/-- what each lemma of this part says -/
abbrev Fine (P : Program) (vars : List Nat) (m : List Nat) (c : Cl) (w : World) (g : Env) (h : Heap) (a : Act) (o : Oper) (v : V) : Prop :=
  ∃ y, Yields P w a o y ∧ VRr m c w v y ∧ TagOK vars m w g h a v y

theorem pure_nilCheck (hC : Core vars m c w g h a) {o : Oper} {x : Operand} (ho : o.op = .nilCheck x) {v : V} (hv : evPure P vars (g, h) (.nilCheck x) = some v) :
    Fine P vars m c w g h a o v := by
  have hx := hC.opd x
  simp only [evPure] at hv
  split at hv
  · rename_i b k he
    cases hv
    rw [he] at hx
    obtain ⟨gb, hg, hy⟩ := hx
    exact ⟨_, by simp [Yields, execOp, ho, hy], ⟨gb, hg, rfl⟩, TagOK.bare rfl⟩
  · rename_i cs he
    cases hv
    rw [he] at hx
    obtain ⟨ad, hy, hs, hr⟩ := hx
    exact ⟨_, by simp [Yields, execOp, ho, hy], ⟨ad, rfl, hs, hr⟩, TagOK.bare rfl⟩
  · rename_i f cs he
    cases hv
    rw [he] at hx
    obtain ⟨xs, hy, hr⟩ := hx
    exact ⟨_, by simp [Yields, execOp, ho, hy], ⟨xs, rfl, hr⟩, TagOK.bare rfl⟩
  · cases hv

theorem pure_unOp (hC : Core vars m c w g h a) {o : Oper} {op : UnOp} {t : TypeId} {x : Operand} (ho : o.op = .unOp op t x) {v : V} (hv : evPure P vars (g, h) (.unOp op t x) = some v) :
    Fine P vars m c w g h a o v := by
  have hx := hC.opd x
  simp only [evPure] at hv
  split at hv
  · rename_i y he
    rw [he] at hx
    have hx' : a.eval x = y := hx
    unfold unS at hv
    split at hv
    · cases hv
      exact ⟨_, yields_of (by simp [execOp, ho, hx']; rfl) (by simp [Op.unary, Op.intArith]), rfl, TagOK.bare rfl⟩
    · cases hv
      exact ⟨_, yields_of (by simp [execOp, ho, hx']; rfl) (by simp [Op.unary]), rfl, TagOK.bare rfl⟩
    · cases hv
  · cases hv

theorem fieldOff_spec {t : TypeId} {f k : Nat} {u : TypeId} (hf : fieldOff P t f = some (k, u)) :
    ∃ fs fd, P.underlying t = some (.struct fs) ∧ fs[f]? = some fd ∧ fd.offset = k ∧ fd.type = u := by
  unfold fieldOff tfields at hf
  split at hf
  · rename_i fs hfs
    simp only [List.getElem?_map, Option.map_eq_some_iff] at hf
    obtain ⟨fd, h1, h2⟩ := hf
    cases h2
    exact ⟨fs, fd, hfs, by simpa using h1, rfl, rfl⟩
  · simp at hf

theorem run_fieldAt {t : TypeId} {fs : Array Field} {fd : Field} {f : Nat} (hu : P.underlying t = some (.struct fs)) (hf : fs[f]? = some fd) (hs : 0 < tsize P fd.type) (ad : Addr) :
    (Instr.fieldAt t (.pointer (some ad)) f).run P w = .ok (.pointer (some (ad.add fd.offset))) w := by
  have : ∃ i, P.info? fd.type = some i := by
    cases hi : P.info? fd.type with
    | some i => exact ⟨i, rfl⟩
    | none => simp [tsize, Program.cellsOf, hi] at hs
  obtain ⟨i, hi⟩ := this
  have hne : i.size ≠ 0 := by rw [← size_of_info hi]; omega
  simp [Instr.fieldAt, run_underlying hu, hf, Instr.sureAddr, fieldPlace, sizeOf, typeInfo, hi, hne]

theorem add_none (b o n : Nat) : (⟨b, o, none⟩ : Addr).add n = ⟨b, o + n, none⟩ := by unfold Addr.add; split <;> simp_all

theorem pure_fieldAddr (hC : Core vars m c w g h a) {o : Oper} {t : TypeId} {x : Operand} {f : Nat} (ho : o.op = .fieldAddr t x f) {v : V} (hv : evPure P vars (g, h) (.fieldAddr t x f) = some v) :
    Fine P vars m c w g h a o v := by
  have hx := hC.opd x
  simp only [evPure] at hv
  split at hv
  · rename_i b k off u he hf
    split at hv
    · rename_i hs
      cases hv
      obtain ⟨fs, fd, hu, hfd, rfl, rfl⟩ := fieldOff_spec hf
      rw [he] at hx
      obtain ⟨gb, hg, hy⟩ := hx
      exact ⟨_, yields_of (by simp [execOp, ho, hy]; rfl) (run_fieldAt hu hfd hs _), ⟨gb, hg, by rw [add_none]⟩, TagOK.bare rfl⟩
    · cases hv
  · rename_i cs off u he hf
    split at hv
    · rename_i hs
      cases hv
      obtain ⟨fs, fd, hu, hfd, rfl, rfl⟩ := fieldOff_spec hf
      rw [he] at hx
      obtain ⟨ad, hy, hsp, hr⟩ := hx
      refine ⟨_, yields_of (by simp [execOp, ho, hy]; rfl) (run_fieldAt hu hfd hs.1 _), ⟨_, rfl, ?_, ?_⟩, TagOK.bare rfl⟩
      · rw [addr_eta hsp, add_none]
      · rw [addr_eta hsp, add_none]
        refine ⟨?_, fun j v hj => ?_⟩
        · have := hr.1
          have h2 := hs.2
          simp only [List.length_drop]
          omega
        · rw [List.getElem?_drop] at hj
          obtain ⟨z, hz, hv⟩ := hr.2 _ v hj
          exact ⟨z, by simpa [Nat.add_assoc] using hz, hv⟩
    · cases hv
  · cases hv

theorem take_part {t : TypeId} {cs : List V} {xs : Array Value} (hr : R2 (VR1 m c w) cs xs.toList) {off : Nat} {v : V} (hv : takeCells P t (cs.drop off) = some v) :
    ∃ y, (part t xs off).run P w = .ok y w ∧ VR m c w v y ∧ bare v = true := by
  unfold takeCells at hv
  split at hv
  · rename_i ht
    obtain ⟨d, hd, hrow⟩ := ttag_true ht
    obtain ⟨i, hi⟩ := info_of_underlying hd
    split at hv
    · rename_i hle
      cases hv
      refine ⟨.agg (xs.extract off (off + tsize P t)), ?_, ⟨_, rfl, ?_⟩, rfl⟩
      · simp [part, run_isAgg_row hd, hrow, sizeOf, typeInfo, hi, size_of_info hi]
      · have h2 := R2_take_cp (hr.drop off) (tsize P t)
        simpa [Array.toList_extract, List.extract] using h2
    · cases hv
  · rename_i ht
    obtain ⟨d, hd, hrow⟩ := ttag_false ht
    cases hcs : (cs.drop off)[0]? with
    | none => simp [hcs] at hv
    | some u =>
      simp only [hcs, Option.map_some, Option.some.injEq] at hv
      subst hv
      rw [List.getElem?_drop, Nat.add_zero] at hcs
      obtain ⟨x, hx, hu⟩ := hr.get hcs
      refine ⟨x, ?_, hu.cp.r, bare_cp _⟩
      have hx' : xs[off]? = some x := by simpa using hx
      simp [part, run_isAgg_row hd, hrow, hx']
  · cases hv

theorem pure_field (hC : Core vars m c w g h a) {o : Oper} {t : TypeId} {x : Operand} {f : Nat} (ho : o.op = .field t x f) {v : V} (hv : evPure P vars (g, h) (.field t x f) = some v) :
    Fine P vars m c w g h a o v := by
  have hx := hC.opd x
  simp only [evPure] at hv
  split at hv
  · rename_i cs off u he hf
    obtain ⟨fs, fd, hu, hfd, rfl, rfl⟩ := fieldOff_spec hf
    rw [he] at hx
    obtain ⟨xs, hy, hr⟩ := hx
    obtain ⟨y, hp, hvy, hb⟩ := take_part hr hv
    exact ⟨y, yields_of (by simp [execOp, ho, hy]; rfl) (by simp [Instr.field, run_underlying hu, hfd, asAgg, hp]), hvy.r, TagOK.bare hb⟩
  · cases hv

theorem idx_spec {v : V} {n : Int} (hn : idx v = some n) : ∃ k, v = .v (.int k n) := by
  unfold idx at hn
  split at hn
  · cases hn; exact ⟨_, rfl⟩
  · cases hn

/-- a row of a slice lies protected -/
theorem VP.row {k : Own} {rows : List (List V)} {x : Value} (hp : VP c w (.list k rows) x) {n : Nat} {row : List V} (hn : rows[n]? = some row) :
    ∃ ad cap, x = .slice (some ad) rows.length cap ∧ ad.spot = none ∧ ROs c w ⟨ad.block, ad.off + n * row.length, none⟩ row := by
  cases hp with
  | empty => simp at hn
  | list k rows ad cap sz xs hne hsz hspot hcap hcl hrow hcell hrec =>
    have hl := hrow n row hn
    subst hl
    refine ⟨ad, cap, rfl, hspot, ?_, fun j v hj => ⟨xs n j, hcell n j row v hn hj, hrec n j row v hn hj⟩⟩
    have h2 : n < rows.length := (List.getElem?_eq_some_iff.1 hn).1
    have h3 : (n + 1) * row.length ≤ rows.length * row.length := Nat.mul_le_mul_right _ h2
    rw [Nat.add_mul] at h3
    show ad.off + n * row.length + row.length ≤ c ad.block
    omega

theorem add_eta {ad : Addr} (hs : ad.spot = none) (n : Nat) : ad.add n = ⟨ad.block, ad.off + n, none⟩ := by
  rw [addr_eta hs]; exact add_none _ _ _

theorem pure_indexAddr (hC : Core vars m c w g h a) {o : Oper} {t : TypeId} {x i : Operand} (ho : o.op = .indexAddr t x i) {v : V} (hv : evPure P vars (g, h) (.indexAddr t x i) = some v) :
    Fine P vars m c w g h a o v := by
  have hx := hC.opd x
  have hi := hC.opd i
  simp only [evPure] at hv
  split at hv
  · rename_i k rows n e he hn hu
    obtain ⟨kk, hkk⟩ := idx_spec hn
    rw [hkk] at hi
    have hi' : a.eval i = .int kk n := hi
    split at hv
    · rename_i h0
      split at hv
      · rename_i row hrow
        split at hv
        · rename_i hlen
          cases hv
          rw [he] at hx
          obtain ⟨ad, cap, hy, hsp, hro⟩ := VP.row hx hrow
          have hlt : n.toNat < rows.length := (List.getElem?_eq_some_iff.1 hrow).1
          refine ⟨.pointer (some (ad.add (n.toNat * tsize P e))), yields_of (by simp [execOp, ho, hy, hi']; rfl) ?_, ⟨_, rfl, ?_, ?_⟩, TagOK.bare rfl⟩
          · obtain ⟨ie, hie⟩ : ∃ ie, P.info? e = some ie := by
              cases hie : P.info? e with
              | some ie => exact ⟨ie, rfl⟩
              | none => have := hlen.2; simp [tsize, Program.cellsOf, hie] at this
            have hb : 0 ≤ n ∧ n < (rows.length : Int) := ⟨h0, by omega⟩
            simp [Instr.indexAt, asIntOf, run_underlying hu, hb, sizeOf, typeInfo, hie, size_of_info hie]
          · rw [add_eta hsp]
          · rw [add_eta hsp, ← hlen.1]
            exact hro
        · cases hv
      · cases hv
    · cases hv
  · rename_i b off mm n e he hn hu
    obtain ⟨kk, hkk⟩ := idx_spec hn
    rw [hkk] at hi
    have hi' : a.eval i = .int kk n := hi
    split at hv
    · rename_i hb
      cases hv
      rw [he] at hx
      obtain ⟨gb, cap, hg, hy, hcap⟩ := hx
      obtain ⟨ie, hie⟩ : ∃ ie, P.info? e = some ie := by
        cases hie : P.info? e with
        | some ie => exact ⟨ie, rfl⟩
        | none => have := hb.2.2; simp [tsize, Program.cellsOf, hie] at this
      have hs1 : ie.size = 1 := by rw [← size_of_info hie]; exact hb.2.2
      refine ⟨.pointer (some ((⟨gb, off, none⟩ : Addr).add n.toNat)), yields_of (by simp [execOp, ho, hy, hi']; rfl) ?_, ⟨gb, hg, by rw [add_none]⟩, TagOK.bare rfl⟩
      have hb' : 0 ≤ n ∧ n < (mm : Int) := ⟨hb.1, hb.2.1⟩
      simp [Instr.indexAt, asIntOf, run_underlying hu, hb', sizeOf, typeInfo, hie, hs1]
    · cases hv
  · rename_i b off n mm e he hn hu
    obtain ⟨kk, hkk⟩ := idx_spec hn
    rw [hkk] at hi
    have hi' : a.eval i = .int kk n := hi
    split at hv
    · rename_i hb
      cases hv
      rw [he] at hx
      obtain ⟨gb, hg, hy⟩ := hx
      obtain ⟨ie, hie⟩ : ∃ ie, P.info? e = some ie := by
        cases hie : P.info? e with
        | some ie => exact ⟨ie, rfl⟩
        | none => have := hb.2.2; simp [tsize, Program.cellsOf, hie] at this
      refine ⟨.pointer (some ((⟨gb, off, none⟩ : Addr).add (n.toNat * tsize P e))), yields_of (by simp [execOp, ho, hy, hi']; rfl) ?_, ⟨gb, hg, by rw [add_none]⟩, TagOK.bare rfl⟩
      have hb' : 0 ≤ n ∧ n < (mm : Int) := ⟨hb.1, hb.2.1⟩
      simp [Instr.indexAt, Instr.sureAddr, asIntOf, run_underlying hu, hb', sizeOf, typeInfo, hie, size_of_info hie]
    · cases hv
  · rename_i cs n mm e he hn hu
    obtain ⟨kk, hkk⟩ := idx_spec hn
    rw [hkk] at hi
    have hi' : a.eval i = .int kk n := hi
    split at hv
    · rename_i hb
      cases hv
      rw [he] at hx
      obtain ⟨ad, hy, hsp, hr⟩ := hx
      obtain ⟨ie, hie⟩ : ∃ ie, P.info? e = some ie := by
        cases hie : P.info? e with
        | some ie => exact ⟨ie, rfl⟩
        | none => have := hb.2.2.1; simp [tsize, Program.cellsOf, hie] at this
      have hb' : 0 ≤ n ∧ n < (mm : Int) := ⟨hb.1, hb.2.1⟩
      refine ⟨.pointer (some (ad.add (n.toNat * tsize P e))), yields_of (by simp [execOp, ho, hy, hi']; rfl) ?_, ⟨_, rfl, ?_, ?_⟩, TagOK.bare rfl⟩
      · simp [Instr.indexAt, Instr.sureAddr, asIntOf, run_underlying hu, hb', sizeOf, typeInfo, hie, size_of_info hie]
      · rw [addr_eta hsp, add_none]
      · rw [addr_eta hsp, add_none]
        refine ⟨?_, fun j v hj => ?_⟩
        · have := hr.1
          have h2 := hb.2.2.2
          simp only [List.length_drop]
          omega
        · rw [List.getElem?_drop] at hj
          obtain ⟨z, hz, hv⟩ := hr.2 _ v hj
          exact ⟨z, by simpa [Nat.add_assoc] using hz, hv⟩
    · cases hv
  · cases hv

theorem pure_index (hC : Core vars m c w g h a) {o : Oper} {t : TypeId} {x i : Operand} (ho : o.op = .index t x i) {v : V} (hv : evPure P vars (g, h) (.index t x i) = some v) :
    Fine P vars m c w g h a o v := by
  have hx := hC.opd x
  have hi := hC.opd i
  simp only [evPure] at hv
  split at hv
  · rename_i b n he hn hu
    obtain ⟨kk, hkk⟩ := idx_spec hn
    rw [hkk] at hi
    have hi' : a.eval i = .int kk n := hi
    rw [he] at hx
    have hx' : a.eval x = .string b := hx
    split at hv
    · rename_i h0
      cases hj : b.data[n.toNat]? with
      | none => simp [hj] at hv
      | some u =>
        simp only [hj, Option.map_some, Option.some.injEq] at hv
        subst hv
        refine ⟨_, yields_of (by simp [execOp, ho, hx', hi']; rfl) ?_, rfl, TagOK.bare rfl⟩
        have hb : b[n.toNat]? = some u := by
          obtain ⟨hl, hq⟩ := Array.getElem?_eq_some_iff.1 hj
          have : b[n.toNat]? = some (b[n.toNat]'hl) := by
            rw [getElem?_pos]
          rw [this]
          exact congrArg some hq
        simp [Instr.index, asIntOf, run_underlying hu, h0, hb]
    · cases hv
  · rename_i cs n mm e he hn hu
    obtain ⟨kk, hkk⟩ := idx_spec hn
    rw [hkk] at hi
    have hi' : a.eval i = .int kk n := hi
    rw [he] at hx
    obtain ⟨xs, hy, hr⟩ := hx
    split at hv
    · rename_i hb
      obtain ⟨y, hp, hvy, hbr⟩ := take_part hr hv
      refine ⟨y, yields_of (by simp [execOp, ho, hy, hi']; rfl) ?_, hvy.r, TagOK.bare hbr⟩
      obtain ⟨ie, hie⟩ : ∃ ie, P.info? e = some ie := by
        have : (ttag P e).isSome = true := by
          unfold takeCells at hv
          split at hv <;> simp_all
        unfold ttag at this
        split at this
        · rename_i hq; exact info_of_underlying hq
        · rename_i hq; exact info_of_underlying hq
        · rename_i hq; exact info_of_underlying hq
        · simp at this
      rw [size_of_info hie] at hp
      have hb' : 0 ≤ n ∧ n < (mm : Int) := ⟨hb.1, hb.2⟩
      simp [Instr.index, asIntOf, run_underlying hu, hb', sizeOf, typeInfo, hie, hp]
    · cases hv
  · cases hv

theorem pure_extract (hC : Core vars m c w g h a) {o : Oper} {x : Operand} {i : Nat} (ho : o.op = .extract x i) {v : V} (hv : evPure P vars (g, h) (.extract x i) = some v) :
    Fine P vars m c w g h a o v := by
  have hx := hC.opd x
  simp only [evPure] at hv
  split at hv
  · rename_i vs he
    rw [he] at hx
    obtain ⟨xs, hy, hr⟩ := hx
    cases hj : vs[i]? with
    | none => simp [hj] at hv
    | some u =>
      simp only [hj, Option.map_some, Option.some.injEq] at hv
      subst hv
      obtain ⟨z, hz, hu⟩ := hr.get hj
      have hz' : xs[i]? = some z := by simpa using hz
      exact ⟨z, yields_of (by simp [execOp, ho, hy]; rfl) (by simp [Instr.extract, hz']), hu.cps.r, TagOK.bare (bare_cps _)⟩
  · cases hv

end
end Go.Lift
end

section
/- The lifting, fifth part: cuts of strings and slices, structs written out, conversions, operators, lengths. -/
namespace Go.Lift
set_option linter.unusedVariables false
set_option linter.unusedSimpArgs false
set_option linter.unusedSectionVars false
variable [GTab] [BTy]

section
variable {P : Program} {vars : List Nat} {m : List Nat} {c : Cl} {w : World} {g : Env} {h : Heap} {a : Act}

/-- the bound of a cut, as the machine reads it -/
theorem bnd_spec (hC : Core vars m c w g h a) {o : Option Operand} {d k : Nat} (hk : bnd g o d = some k) :
    (o = none ∧ k = d) ∨ ∃ x kk, o = some x ∧ a.eval x = .int kk k := by
  unfold bnd at hk
  split at hk
  · cases hk; exact .inl ⟨rfl, rfl⟩
  · rename_i x
    split at hk
    · rename_i n hn
      split at hk
      · rename_i h0
        cases hk
        obtain ⟨kk, hkk⟩ := idx_spec hn
        have hx := hC.opd x
        rw [hkk] at hx
        have hx' : a.eval x = .int kk n := hx
        exact .inr ⟨x, kk, rfl, by rw [hx', Int.toNat_of_nonneg h0]⟩
      · cases hk
    · cases hk

theorem run_sliceBound (kk : IntKind) (n y : Nat) (code : BoundsCode) (hn : n ≤ y) : (Instr.sliceBound (.int kk n) y code).run P w = .ok n w := by
  have hb : 0 ≤ (n : Int) ∧ (n : Int) ≤ y := ⟨by omega, by omega⟩
  simp [Instr.sliceBound, asIntOf, hn]

theorem run_sliceBounds (hC : Core vars m c w g h a) {lo hi : Option Operand} {len cap l k : Nat} (b : Bool) (hk : bnd g hi len = some k) (hl : bnd g lo 0 = some l)
    (h1 : l ≤ k) (h2 : k ≤ cap) : (Instr.sliceBounds b len cap (lo.map a.eval) (hi.map a.eval) none).run P w = .ok (l, k, cap) w := by
  unfold Instr.sliceBounds
  rcases bnd_spec hC hk with ⟨rfl, rfl⟩ | ⟨x, kk, rfl, hx⟩
  · rcases bnd_spec hC hl with ⟨rfl, rfl⟩ | ⟨y, kl, rfl, hy⟩
    · rfl
    · simp [hy, run_sliceBound kl l k _ h1]
  · rcases bnd_spec hC hl with ⟨rfl, rfl⟩ | ⟨y, kl, rfl, hy⟩
    · simp [hx, run_sliceBound kk k cap _ h2]
    · simp [hx, hy, run_sliceBound kl l k _ h1, run_sliceBound kk k cap _ h2]

theorem pure_slice (hC : Core vars m c w g h a) {o : Oper} {t : TypeId} {x : Operand} {lo hi mx : Option Operand} (ho : o.op = .slice t x lo hi mx) {v : V} (hv : evPure P vars (g, h) (.slice t x lo hi mx) = some v) :
    Fine P vars m c w g h a o v := by
  have hx := hC.opd x
  simp only [evPure] at hv
  split at hv
  · rename_i b he hu
    rw [he] at hx
    have hx' : a.eval x = .string b := hx
    split at hv
    · rename_i k hk
      split at hv
      · rename_i l hl
        split at hv
        · rename_i hb
          cases hv
          refine ⟨_, yields_of (by simp [execOp, ho, hx']; rfl) ?_, rfl, TagOK.bare rfl⟩
          have hs := run_sliceBounds (P := P) hC (cap := b.size) false hk hl hb.1 hb.2
          simp [Instr.sliceAt, Instr.slice, run_underlying hu, hs]
        · cases hv
      · cases hv
    · cases hv
  · rename_i kf rows e he hu
    rw [he] at hx
    split at hv
    · rename_i k hk
      split at hv
      · rename_i l hl
        split at hv
        · rename_i hb
          cases hv
          obtain ⟨hlk, hkn, hsz, hall⟩ := hb
          have hp : VP c w (.list kf rows) (a.eval x) := hx
          cases hq : a.eval x with
          | slice ao n cap =>
            rw [hq] at hp
            obtain ⟨ie, hie⟩ : ∃ ie, P.info? e = some ie := by
              cases hie : P.info? e with
              | some ie => exact ⟨ie, rfl⟩
              | none => simp [tsize, Program.cellsOf, hie] at hsz
            have hn : n = rows.length := by cases hp <;> rfl
            subst hn
            have hcap : k ≤ cap := by cases hp with
              | empty => simp at hkn; omega
              | list => omega
            have hs := run_sliceBounds (P := P) hC (cap := cap) (len := rows.length) true hk hl hlk hcap
            refine ⟨.slice (if cap = l then ao else ao.map (·.add (l * tsize P e))) (k - l) (cap - l), yields_of (by simp [execOp, ho, hq]; rfl) ?_, ?_, TagOK.bare rfl⟩
            · simp [Instr.sliceAt, Instr.slice, run_underlying hu, hs, sizeOf, typeInfo, hie, size_of_info hie]
            · show VP c w (.list .no ((rows.take k).drop l)) _
              by_cases hempty : (rows.take k).drop l = []
              · rw [hempty]
                have : k - l = 0 := by
                  have := congrArg List.length hempty
                  simp at this
                  omega
                rw [this]
                exact .empty _ _ _
              · cases hp with
                | empty => simp at hempty
                | list kf rows ad cap sz xs hne hsz' hspot hcp hcl hrow hcell hrec =>
                  have hlen : ((rows.take k).drop l).length = k - l := by simp; omega
                  have hlt : l < k := by
                    have : 0 < ((rows.take k).drop l).length := List.length_pos_iff.2 hempty
                    omega
                  have hszeq : tsize P e = sz := by
                    obtain ⟨r0, hr0⟩ := List.exists_mem_of_ne_nil _ hne
                    obtain ⟨i0, hi0, hi1⟩ := List.getElem_of_mem hr0
                    have h1 := List.all_eq_true.1 hall r0 hr0
                    have h2 := hrow i0 r0 (by rw [List.getElem?_eq_getElem hi0, hi1])
                    simp at h1
                    omega
                  rw [hszeq]
                  have hne' : ¬ cap = l := by omega
                  rw [if_neg hne', ← hlen]
                  simp only [Option.map_some, add_eta hspot]
                  have hget : ∀ (i : Nat) row, ((rows.take k).drop l)[i]? = some row → rows[l + i]? = some row := fun i row hi => by
                    rw [List.getElem?_drop, List.getElem?_take] at hi
                    split at hi
                    · exact hi
                    · cases hi
                  refine VP.list .no _ _ _ sz (fun i j => xs (l + i) j) hempty hsz' rfl (by omega) ?_ (fun i row hi => hrow _ row (hget i row hi)) ?_ (fun i j row v hi hj => hrec _ j row v (hget i row hi) hj)
                  · show ad.off + l * sz + ((rows.take k).drop l).length * sz ≤ c ad.block
                    rw [hlen]
                    have : (l + (k - l)) * sz ≤ rows.length * sz := Nat.mul_le_mul_right _ (by omega)
                    rw [Nat.add_mul] at this
                    omega
                  · intro i j row v hi hj
                    have := hcell _ j row v (hget i row hi) hj
                    rw [Nat.add_mul] at this
                    show w.cell? ⟨ad.block, ad.off + l * sz + i * sz + j, none⟩ = _
                    rw [← this]
                    congr 2
                    omega
          | _ => rw [hq] at hp; cases hp
        · cases hv
      · cases hv
    · cases hv
  · rename_i b off n e he hu
    rw [he] at hx
    obtain ⟨gb, hg, hy⟩ := hx
    split at hv
    · rename_i k hk
      split at hv
      · rename_i l hl
        split at hv
        · rename_i hb
          cases hv
          obtain ⟨ie, hie⟩ : ∃ ie, P.info? e = some ie := by
            cases hie : P.info? e with
            | some ie => exact ⟨ie, rfl⟩
            | none => have := hb.2.2.2; simp [tsize, Program.cellsOf, hie] at this
          have hs1 : ie.size = 1 := by rw [← size_of_info hie]; exact hb.2.2.2
          have hs := run_sliceBounds (P := P) hC (cap := n) (len := n) false hk hl hb.1 hb.2.1
          have hnl : ¬ n = l := by have := hb.2.2.1; omega
          refine ⟨.slice (some ((⟨gb, off, none⟩ : Addr).add l)) (k - l) (n - l), yields_of (by simp [execOp, ho, hy]; rfl) ?_, ⟨gb, n - l, hg, by rw [add_none], by omega⟩, TagOK.bare rfl⟩
          simp [Instr.sliceAt, run_underlying hu, Instr.sureAddr, hs, sizeOf, typeInfo, hie, hs1, hnl]
        · cases hv
      · cases hv
    · cases hv
  · cases hv

theorem VRr.leaf {v : V} {x : Value} (hx : VRr m c w v x) (hl : leaf0 v = true) : VR0 m c w v x := by
  cases v <;> first | exact hx | (simp [leaf0] at hl)

theorem pure_makeFunc (hC : Core vars m c w g h a) {o : Oper} {fn : Fn} {first caps : Array Operand} (ho : o.op = .makeFunc fn first caps) {v : V} (hv : evPure P vars (g, h) (.makeFunc fn first caps) = some v) :
    Fine P vars m c w g h a o v := by
  simp only [evPure] at hv
  split at hv
  · rename_i f
    split at hv
    · rename_i hb
      cases hv
      have hf : first = #[] := Array.eq_empty_of_size_eq_zero hb.1
      subst hf
      refine ⟨.func (.func f) #[] (caps.map a.eval), yields_of (by simp [execOp, ho]; rfl) (by simp [Instr.makeFunc]), ⟨_, rfl, ?_⟩, TagOK.bare rfl⟩
      refine ⟨by simp, fun i u y hu hy => ?_⟩
      simp only [List.getElem?_map, Option.map_eq_some_iff] at hu
      obtain ⟨z, hz, rfl⟩ := hu
      simp only [Array.toList_map, List.getElem?_map, Option.map_eq_some_iff] at hy
      obtain ⟨z', hz', rfl⟩ := hy
      rw [hz] at hz'
      cases hz'
      have hl := List.all_eq_true.1 hb.2 z (List.mem_of_getElem? hz)
      exact (VRr.leaf (hC.opd z) hl).cp
    · cases hv
  · cases hv

theorem pure_len (hC : Core vars m c w g h a) {o : Oper} {k : Call} (ho : o.op = .call k) {v : V} (hv : evPure P vars (g, h) (.call k) = some v) :
    Fine P vars m c w g h a o v := by
  simp only [evPure] at hv
  split at hv
  · rename_i hc
    have hrun : ∀ (t : TypeId) (x : Operand) (y : Value), k.args[0]? = some x → k.argTypes[0]? = some t → (Builtin.len_ k.argTypes o.type (k.args.map a.eval)).run P w = .ok y w → Yields P w a o y := fun t x y hx ht hr => by
      refine yields_of (s := Builtin.len_ k.argTypes o.type (k.args.map a.eval)) ?_ hr
      simp [execOp, ho, resolve, hc, invoke, builtin]
    split at hv
    · rename_i kf rows e h1 h2
      cases hv
      simp only [Option.map_eq_some_iff] at h1
      obtain ⟨x, hx, he⟩ := h1
      simp only [Option.bind_eq_some_iff] at h2
      obtain ⟨t, ht, hu⟩ := h2
      have hp := hC.opd x
      rw [he] at hp
      have hp' : VP c w (.list kf rows) (a.eval x) := hp
      obtain ⟨ao, cap, hq⟩ : ∃ ao cap, a.eval x = .slice ao rows.length cap := by
        generalize a.eval x = y at hp'
        cases hp' with
        | empty k ao cap => exact ⟨ao, cap, rfl⟩
        | list => exact ⟨_, _, rfl⟩
      refine ⟨_, hrun t x _ hx ht ?_, rfl, TagOK.bare rfl⟩
      simp [Builtin.len_, ht, hx, hq, run_underlying hu, goInt]
    · rename_i e h1 h2
      cases hv
      simp only [Option.map_eq_some_iff] at h1
      obtain ⟨x, hx, he⟩ := h1
      simp only [Option.bind_eq_some_iff] at h2
      obtain ⟨t, ht, hu⟩ := h2
      have hp := hC.opd x
      rw [he] at hp
      have hq : a.eval x = .slice none 0 0 := hp
      refine ⟨_, hrun t x _ hx ht ?_, rfl, TagOK.bare rfl⟩
      simp [Builtin.len_, ht, hx, hq, run_underlying hu, goInt]
    · rename_i b off n e h1 h2
      cases hv
      simp only [Option.map_eq_some_iff] at h1
      obtain ⟨x, hx, he⟩ := h1
      simp only [Option.bind_eq_some_iff] at h2
      obtain ⟨t, ht, hu⟩ := h2
      have hp := hC.opd x
      rw [he] at hp
      obtain ⟨gb, cap, hg, hq, hcap⟩ := hp
      refine ⟨_, hrun t x _ hx ht ?_, rfl, TagOK.bare rfl⟩
      simp [Builtin.len_, ht, hx, hq, run_underlying hu, goInt]
    · rename_i b h1 h2
      cases hv
      simp only [Option.map_eq_some_iff] at h1
      obtain ⟨x, hx, he⟩ := h1
      simp only [Option.bind_eq_some_iff] at h2
      obtain ⟨t, ht, hu⟩ := h2
      have hp := hC.opd x
      rw [he] at hp
      have hq : a.eval x = .string b := hp
      refine ⟨_, hrun t x _ hx ht ?_, rfl, TagOK.bare rfl⟩
      simp [Builtin.len_, ht, hx, hq, run_underlying hu, goInt]
    · cases hv
  · rename_i hc
    split at hv
    · rename_i k1 x k2 y he
      split at hv
      · rename_i hk
        cases hv
        subst hk
        have h2 : k.args.toList.map a.eval = [.int k1 x, .int k1 y] := by
          rcases hl : k.args.toList with _ | ⟨p, _ | ⟨q, _ | ⟨p', r⟩⟩⟩
          · rw [hl] at he; simp at he
          · rw [hl] at he; simp at he
          · rw [hl] at he
            simp only [List.map_cons, List.map_nil, List.cons.injEq, and_true] at he
            have h1 := hC.opd p
            have h2 := hC.opd q
            rw [he.1] at h1
            rw [he.2] at h2
            have h1' : a.eval p = _ := h1
            have h2' : a.eval q = _ := h2
            simp [h1', h2']
          · rw [hl] at he; simp at he
        refine ⟨_, yields_of (s := Builtin.min_ k.argTypes o.type (k.args.map a.eval)) (by simp [execOp, ho, resolve, hc, invoke, builtin]) ?_, rfl, TagOK.bare rfl⟩
        simp [Builtin.min_, h2, Builtin.min2]
      · cases hv
    · cases hv
  · rename_i hc
    split at hv
    · rename_i k1 x k2 y he
      split at hv
      · rename_i hk
        cases hv
        subst hk
        have h2 : k.args.toList.map a.eval = [.int k1 x, .int k1 y] := by
          rcases hl : k.args.toList with _ | ⟨p, _ | ⟨q, _ | ⟨p', r⟩⟩⟩
          · rw [hl] at he; simp at he
          · rw [hl] at he; simp at he
          · rw [hl] at he
            simp only [List.map_cons, List.map_nil, List.cons.injEq, and_true] at he
            have h1 := hC.opd p
            have h2 := hC.opd q
            rw [he.1] at h1
            rw [he.2] at h2
            have h1' : a.eval p = _ := h1
            have h2' : a.eval q = _ := h2
            simp [h1', h2']
          · rw [hl] at he; simp at he
        refine ⟨_, yields_of (s := Builtin.max_ k.argTypes o.type (k.args.map a.eval)) (by simp [execOp, ho, resolve, hc, invoke, builtin]) ?_, rfl, TagOK.bare rfl⟩
        simp [Builtin.max_, h2, Builtin.max2]
      · cases hv
    · cases hv
  · cases hv

theorem cells_rel {v : V} {y : Value} (hv : VRr m c w v y) (hp : partOk v = true) : R2 (VR1 m c w) (cellsV v) y.cells.toList := by
  cases v with
  | v z =>
    have : y = z := hv
    subst this
    have : y.cells = #[y] := by cases y <;> first | rfl | (simp [partOk, Value.oneCell'] at hp)
    rw [this]
    exact R2.cons rfl R2.nil
  | nil => have : y = .slice none 0 0 := hv; subst this; exact R2.cons rfl R2.nil
  | list k r => have h2 : VP c w (.list k r) y := hv; cases h2 <;> exact R2.cons hv R2.nil
  | ptr b o => obtain ⟨g, hg, rfl⟩ := hv; exact R2.cons ⟨g, hg, rfl⟩ R2.nil
  | rp cs => obtain ⟨ad, rfl, hs, hr⟩ := hv; exact R2.cons ⟨ad, rfl, hs, hr⟩ R2.nil
  | buf b o n => obtain ⟨g, cap, hg, rfl, hc⟩ := hv; exact R2.cons ⟨g, cap, hg, rfl, hc⟩ R2.nil
  | agg cs => obtain ⟨xs, rfl, hr⟩ := hv; exact hr
  | tup vs => simp [partOk] at hp
  | fn f cs => obtain ⟨xs, rfl, hr⟩ := hv; exact R2.cons ⟨xs, rfl, hr⟩ R2.nil
  | undef => simp [partOk] at hp

theorem fold_splice (off : Nat) : ∀ (vs : List Value) (k : Nat) (zs : Array Value), off + k + vs.length ≤ zs.size →
    ((vs.zipIdx k).foldl (fun cs p => cs.setIfInBounds (off + p.2) p.1) zs).toList = zs.toList.take (off + k) ++ vs ++ zs.toList.drop (off + k + vs.length)
  | [], k, zs, _ => by simp
  | v :: vs, k, zs, hb => by
    simp only [List.length_cons] at hb
    have ih := fold_splice off vs (k + 1) (zs.setIfInBounds (off + k) v) (by simp; omega)
    simp only [List.zipIdx_cons, List.foldl_cons]
    rw [ih]
    have hlt : off + k < zs.toList.length := by simp; omega
    simp only [Array.toList_setIfInBounds, List.length_cons]
    rw [show off + (k + 1) = off + k + 1 by omega, List.take_succ_eq_append_getElem (by simpa using hlt), List.getElem_set_self, List.take_set_of_le (by omega), List.drop_set_of_lt (by omega)]
    simp only [List.append_assoc, List.cons_append, List.nil_append]
    rw [show off + k + 1 + vs.length = off + k + (vs.length + 1) by omega]

/-- a struct or an array written out -/
theorem buildV_spec {place : Nat → Option (Nat × Nat)} : ∀ (parts : List (Nat × V)) (qs : List (Nat × Value)) (cs : List V) (zs : Array Value) (ds : List V),
    R2 (fun p q => p.1 = q.1 ∧ VRr m c w p.2 q.2) parts qs → R2 (VR1 m c w) cs zs.toList → buildV place parts cs = some ds →
    ∃ ys : Array Value, Instr.fill place zs qs = some ys ∧ R2 (VR1 m c w) ds ys.toList
  | [], qs, cs, zs, ds, hp, hc, hd => by
    have : qs = [] := List.eq_nil_of_length_eq_zero hp.1.symm
    subst this
    cases hd
    exact ⟨zs, rfl, hc⟩
  | (i, x) :: r, qs, cs, zs, ds, hp, hc, hd => by
    match qs, hp with
    | [], hp => simp [R2] at hp
    | (j, y) :: s, hp =>
      have h0 := hp.head
      simp only at h0
      obtain ⟨rfl, hxy⟩ := h0
      unfold buildV at hd
      split at hd
      · rename_i off n hpl
        split at hd
        · rename_i hb
          have hcells : R2 (VR1 m c w) (cellsV x) y.cells.toList := cells_rel hxy hb.1
          have hlen : y.cells.size = n := by have := hcells.1; have := hb.2.1; simp at *; omega
          have hzs : zs.size = cs.length := by have := hc.1; simp at this; omega
          have hfold : ∃ ys : Array Value, y.cells.zipIdx.foldl (fun cs (c, j) => cs.setIfInBounds (off + j) c) zs = ys ∧ R2 (VR1 m c w) (cs.take off ++ (cellsV x).map cp ++ cs.drop (off + n)) ys.toList := by
            refine ⟨_, rfl, ?_⟩
            have hf := fold_splice off y.cells.toList 0 zs (by have := hb.2.2; simp [hlen, hzs]; omega)
            have he : (y.cells.zipIdx.foldl (fun cs (c, j) => cs.setIfInBounds (off + j) c) zs).toList = zs.toList.take off ++ y.cells.toList ++ zs.toList.drop (off + n) := by
              simp only [Nat.add_zero, Array.length_toList, hlen] at hf
              rw [← hf, ← Array.foldl_toList, Array.toList_zipIdx]
            rw [he]
            exact ((hc.take off).append (by simpa using hcells.map (f := cp) (g := id) fun _ _ => VR1.cp)).append (hc.drop _)
          obtain ⟨ys, hys, hr⟩ := hfold
          obtain ⟨us, hus, hr'⟩ := buildV_spec r s _ ys ds hp.tail hr hd
          refine ⟨us, ?_, hr'⟩
          unfold Instr.fill
          simp only [hpl]
          rw [if_neg (by have := hb.2.2; simp [hlen, hzs]; omega), hys]
          exact hus
        · cases hd
      · cases hd

theorem ofC1_cells (z : Value) : R2 (VR1 m c w) (z.cells.toList.map ofC1) z.cells.toList :=
  ⟨by simp, fun i u y hu hy => by
    simp only [List.getElem?_map, Option.map_eq_some_iff] at hu
    obtain ⟨q, hq, rfl⟩ := hu
    rw [hq] at hy
    cases hy
    exact VR1_ofC1 _⟩

theorem tzero_spec {t : TypeId} {z : List Value} (hz : tzero P t = some z) : ∃ zv, (zeroValue t).run P w = .ok zv w ∧ z = zv.cells.toList := by
  unfold tzero at hz
  cases hi : P.info? t with
  | none => simp [hi] at hz
  | some i =>
    cases hz0 : i.zero with
    | none => simp [hi, hz0] at hz
    | some zv =>
      simp only [hi, Option.bind_some, hz0, Option.map_some, Option.some.injEq] at hz
      exact ⟨zv, by simp [zeroValue, typeInfo, hi, hz0], hz.symm⟩

theorem run_places : ∀ (l : List Field), (∀ f ∈ l, ∃ i, P.info? f.type = some i) →
    (l.toArray.mapM (m := Sem) fun f => do pure (f.offset, ← sizeOf f.type)).run P w = .ok (l.map fun f => (f.offset, tsize P f.type)).toArray w := by
  intro l hl
  rw [List.mapM_toArray, Sem.run_map]
  have : ∀ (l : List Field), (∀ f ∈ l, ∃ i, P.info? f.type = some i) → (l.mapM (m := Sem) fun f => do pure (f.offset, ← sizeOf f.type)).run P w = .ok (l.map fun f => (f.offset, tsize P f.type)) w := by
    intro l
    induction l with
    | nil => intro _; rfl
    | cons f l ih =>
      intro hl
      obtain ⟨i, hi⟩ := hl f (by simp)
      rw [List.mapM_cons]
      simp only [Sem.run_bind, run_sizeOf hi, Result.andThen_ok, Sem.run_pure, ih (fun f hf => hl f (by simp [hf])), List.map_cons, size_of_info hi]
  rw [this l hl]
  rfl

theorem pure_build (hC : Core vars m c w g h a) {o : Oper} {t : TypeId} {parts : Array (Nat × Operand)} (ho : o.op = .build t parts) {v : V} (hv : evPure P vars (g, h) (.build t parts) = some v) :
    Fine P vars m c w g h a o v := by
  simp only [evPure] at hv
  split at hv
  · cases hv
  · rename_i z hz
    obtain ⟨zv, hzv, rfl⟩ := tzero_spec (w := w) hz
    have hparts : R2 (fun (p : Nat × V) (q : Nat × Value) => p.1 = q.1 ∧ VRr m c w p.2 q.2) (parts.toList.map fun p => (p.1, opd g p.2)) (parts.map fun (i, x) => (i, a.eval x)).toList := by
      refine ⟨by simp, fun i u y hu hy => ?_⟩
      simp only [Array.toList_map, List.getElem?_map, Option.map_eq_some_iff] at hu hy
      obtain ⟨p, hp, rfl⟩ := hu
      obtain ⟨q, hq, rfl⟩ := hy
      rw [hp] at hq
      cases hq
      exact ⟨rfl, hC.opd _⟩
    split at hv
    · rename_i fs hu
      split at hv
      · rename_i hok
        simp only [Option.map_eq_some_iff] at hv
        obtain ⟨ds, hds, rfl⟩ := hv
        have hall : ∀ f ∈ fs.toList, ∃ i, P.info? f.type = some i := by
          intro f hf
          unfold structOk tfields at hok
          simp only [hu, List.all_map, List.all_eq_true] at hok
          exact Option.isSome_iff_exists.1 (hok f hf)
        have hm := run_places fs.toList hall (w := w)
        rw [Array.toArray_toList] at hm
        have hplace : (fun i => (fieldOff P t i).map fun p => (p.1, tsize P p.2)) = fun i => (fs.toList.map fun f => (f.offset, tsize P f.type)).toArray[i]? := by
          funext i
          unfold fieldOff tfields
          simp only [hu]
          simp only [List.getElem?_map, Option.map_map, List.getElem?_toArray]
          rfl
        rw [hplace] at hds
        obtain ⟨ys, hys, hr⟩ := buildV_spec _ _ _ zv.cells ds hparts (ofC1_cells zv) hds
        refine ⟨.agg ys, yields_of (by simp [execOp, ho]; rfl) ?_, ⟨ys, rfl, hr⟩, TagOK.bare rfl⟩
        unfold Instr.build
        simp only [Sem.run_bind, hzv, Result.andThen_ok, run_underlying hu, hm, hys]
        rfl
      · cases hv
    · rename_i n e hu
      split at hv
      · rename_i hok
        simp only [Option.map_eq_some_iff] at hv
        obtain ⟨ds, hds, rfl⟩ := hv
        obtain ⟨ie, hie⟩ := Option.isSome_iff_exists.1 hok
        obtain ⟨ys, hys, hr⟩ := buildV_spec _ _ _ zv.cells ds hparts (ofC1_cells zv) hds
        rw [size_of_info hie] at hys
        refine ⟨.agg ys, yields_of (by simp [execOp, ho]; rfl) ?_, ⟨ys, rfl, hr⟩, TagOK.bare rfl⟩
        unfold Instr.build
        simp only [Sem.run_bind, hzv, Result.andThen_ok, run_underlying hu, run_sizeOf hie, hys]
        rfl
      · cases hv
    · cases hv

theorem VP.v_eq {y x : Value} (hp : VP c w (.v y) x) : x = y := by cases hp; rfl

theorem bytesOf_spec : ∀ {rows : List (List V)} {l : List UInt8}, bytesOf rows = some l →
    ∃ ns : List Int, rows = ns.map (fun n => [.v (.int .u8 n)]) ∧ l = ns.map fun n => UInt8.ofNat n.toNat
  | [], l, hb => by cases hb; exact ⟨[], rfl, rfl⟩
  | r :: rows, l, hb => by
    unfold bytesOf at hb
    split at hb
    · rename_i h1; cases h1
    · rename_i n rest h1
      cases h1
      simp only [Option.map_eq_some_iff] at hb
      obtain ⟨l', hl', rfl⟩ := hb
      obtain ⟨ns, rfl, rfl⟩ := bytesOf_spec hl'
      exact ⟨n :: ns, rfl, rfl⟩
    · cases hb

theorem push_fold : ∀ (ns : List Int) (b : ByteArray), ns.foldl (fun r n => r.push (UInt8.ofNat n.toNat)) b = ⟨b.data ++ (ns.map fun n => UInt8.ofNat n.toNat).toArray⟩
  | [], b => by simp
  | n :: ns, b => by
    rw [List.foldl_cons, push_fold ns]
    congr 1
    simp [ByteArray.push]

theorem run_conv_bytes {s d e : TypeId} (hs : P.underlying s = some (.slice e)) (hd : P.underlying d = some .string) (he : P.underlying e = some (.int .u8)) (y : Value) (ao : Option Addr) (n cap : Nat) (hy : y = .slice ao n cap) :
    (convert s d y).run P w = (Conv.bytesToString y).run P w := by
  subst hy
  simp [convert, run_underlying hs, run_underlying hd, run_underlying he]

theorem is_string {b : TypeId} (h1 : isStr P b = true) : P.underlying b = some .string := by
  unfold isStr at h1
  split at h1
  · assumption
  · cases h1
theorem is_u8 {b : TypeId} (h1 : isU8 P b = true) : P.underlying b = some (.int .u8) := by
  unfold isU8 at h1
  split at h1
  · assumption
  · cases h1

theorem is_i32 {b : TypeId} (h1 : isI32 P b = true) : P.underlying b = some (.int .i32) := by
  unfold isI32 at h1
  split at h1
  · assumption
  · cases h1
theorem runesOf_spec : ∀ {rows : List (List V)} {l : List Int}, runesOf rows = some l → rows = l.map (fun n => [.v (.int .i32 n)])
  | [], l, hb => by cases hb; rfl
  | r :: rows, l, hb => by
    unfold runesOf at hb
    split at hb
    · rename_i h1; cases h1
    · rename_i n rest h1
      cases h1
      simp only [Option.map_eq_some_iff] at hb
      obtain ⟨l', hl', rfl⟩ := hb
      rw [runesOf_spec hl']
      rfl
    · cases hb
theorem run_conv_runes {s d e : TypeId} (hs : P.underlying s = some (.slice e)) (hd : P.underlying d = some .string) (he : P.underlying e = some (.int .i32)) (y : Value) (ao : Option Addr) (n cap : Nat) (hy : y = .slice ao n cap) :
    (convert s d y).run P w = (Conv.runesToString y).run P w := by
  subst hy
  exact run_convert_runes_string w s d e ao n cap hs he hd

theorem pure_convert (hC : Core vars m c w g h a) {o : Oper} {s d : TypeId} {x : Operand} (ho : o.op = .convert s d x) {v : V} (hv : evPure P vars (g, h) (.convert s d x) = some v) :
    Fine P vars m c w g h a o v := by
  have hx := hC.opd x
  simp only [evPure] at hv
  split at hv
  · rename_i y he
    rw [he] at hx
    have hx' : a.eval x = y := hx
    unfold convS at hv
    split at hv
    · rename_i k' k n h1 h2 h3
      cases h3; cases hv
      exact ⟨_, yields_of (by simp [execOp, ho, hx']; rfl) (by simp [convert, run_underlying h1, run_underlying h2, Conv.intToInt]), rfl, TagOK.bare rfl⟩
    · rename_i k' k n h1 h2 h3
      cases h3; cases hv
      exact ⟨_, yields_of (by simp [execOp, ho, hx']; rfl) (by simp [convert, run_underlying h1, run_underlying h2, Conv.intToString]), rfl, TagOK.bare rfl⟩
    · rename_i b h1 h2 h3
      cases h3; cases hv
      exact ⟨_, yields_of (by simp [execOp, ho, hx']; rfl) (by simp [convert, run_underlying h1, run_underlying h2]), rfl, TagOK.bare rfl⟩
    · cases hv
  · rename_i kf rows he
    rw [he] at hx
    have hp : VP c w (.list kf rows) (a.eval x) := hx
    split at hv
    · rename_i hd
      have hd := is_string hd
      split at hv
      · rename_i e hs
        split at hv
        · rename_i hu
          have hu := is_u8 hu
          simp only [Option.map_eq_some_iff] at hv
          obtain ⟨l, hl, rfl⟩ := hv
          obtain ⟨ns, rfl, rfl⟩ := bytesOf_spec hl
          refine ⟨.string ⟨(ns.map fun n : Int => UInt8.ofNat n.toNat).toArray⟩, yields_of (s := convert s d (a.eval x)) (by simp [execOp, ho]) ?_, rfl, TagOK.bare rfl⟩
          generalize a.eval x = y at hp
          by_cases hns : ns = []
          · subst hns
            cases hp with
            | empty k ao cap =>
              rw [run_conv_bytes hs hd hu _ ao 0 cap rfl]
              cases ao with
              | none => rfl
              | some ad => rfl
            | list k rows ad cap sz xs hne => exact absurd rfl hne
          · generalize hrw : ns.map (fun n => [V.v (.int .u8 n)]) = rows at hp
            cases hp with
            | empty => simp at hrw; exact absurd hrw hns
            | list k rows ad cap sz xs hne hsz hspot hcap hcl hrow hcell hrec =>
              subst hrw
              have hlen : (ns.map (fun n => [V.v (.int .u8 n)])).length = ns.length := by simp
              rw [run_conv_bytes hs hd hu _ (some ad) _ cap rfl, hlen]
              have hld : (loadCells ad ns.length).run P w = .ok (ns.map (Value.int .u8)).toArray w := by
                have := run_loadCells_list (P := P) w ad (ns.map (Value.int .u8)) (fun j v hj => by
                  simp only [List.getElem?_map, Option.map_eq_some_iff] at hj
                  obtain ⟨n, hn, rfl⟩ := hj
                  have h1 : (ns.map (fun n => [V.v (.int .u8 n)]))[j]? = some [V.v (.int .u8 n)] := by simp [hn]
                  have hs1 := hrow j _ h1
                  simp only [List.length_cons, List.length_nil, Nat.zero_add] at hs1
                  have h2 := hcell j 0 _ _ h1 rfl
                  have h3 := hrec j 0 _ _ h1 rfl
                  rw [← hs1, Nat.mul_one, Nat.add_zero] at h2
                  rw [add_eta hspot, h2]
                  have h4 : xs j 0 = .int .u8 n := VP.v_eq h3
                  rw [h4])
                simpa using this
              rw [run_bytesToString w ad _ _ ns hld, push_fold]
              simp
        · split at hv
          · rename_i hu
            have hu := is_i32 hu
            simp only [Option.map_eq_some_iff] at hv
            obtain ⟨ns, hl, rfl⟩ := hv
            obtain rfl := runesOf_spec hl
            refine ⟨.string (runesBytes ns), yields_of (s := convert s d (a.eval x)) (by simp [execOp, ho]) ?_, rfl, TagOK.bare rfl⟩
            generalize a.eval x = y at hp
            by_cases hns : ns = []
            · subst hns
              cases hp with
              | empty k ao cap =>
                rw [run_conv_runes hs hd hu _ ao 0 cap rfl]
                cases ao with
                | none => rfl
                | some ad => rfl
              | list k rows ad cap sz xs hne => exact absurd rfl hne
            · generalize hrw : ns.map (fun n => [V.v (.int .i32 n)]) = rows at hp
              cases hp with
              | empty => simp at hrw; exact absurd hrw hns
              | list k rows ad cap sz xs hne hsz hspot hcap hcl hrow hcell hrec =>
                subst hrw
                have hlen : (ns.map (fun n => [V.v (.int .i32 n)])).length = ns.length := by simp
                rw [run_conv_runes hs hd hu _ (some ad) _ cap rfl, hlen]
                have hld : (loadCells ad ns.length).run P w = .ok (ns.map (Value.int .i32)).toArray w := by
                  have := run_loadCells_list (P := P) w ad (ns.map (Value.int .i32)) (fun j v hj => by
                    simp only [List.getElem?_map, Option.map_eq_some_iff] at hj
                    obtain ⟨n, hn, rfl⟩ := hj
                    have h1 : (ns.map (fun n => [V.v (.int .i32 n)]))[j]? = some [V.v (.int .i32 n)] := by simp [hn]
                    have hs1 := hrow j _ h1
                    simp only [List.length_cons, List.length_nil, Nat.zero_add] at hs1
                    have h2 := hcell j 0 _ _ h1 rfl
                    have h3 := hrec j 0 _ _ h1 rfl
                    rw [← hs1, Nat.mul_one, Nat.add_zero] at h2
                    rw [add_eta hspot, h2]
                    have h4 : xs j 0 = .int .i32 n := VP.v_eq h3
                    rw [h4])
                  simpa using this
                rw [run_runesToString w ad _ _ ns hld]
          · cases hv
      · cases hv
    · cases hv
  · rename_i i off n he
    rw [he] at hx
    obtain ⟨gb, cap, hg, hy, hcap⟩ := hx
    split at hv
    · rename_i hd
      have hd := is_string hd
      split at hv
      · rename_i e cs hs hcs
        split at hv
        · rename_i hu
          simp only [Bool.and_eq_true, decide_eq_true_eq] at hu
          have hle := hu.2
          have hu := is_u8 hu.1
          simp only [Option.map_eq_some_iff] at hv
          obtain ⟨l, hl, rfl⟩ := hv
          obtain ⟨ns, hns, rfl⟩ := bytesOf_spec hl
          refine ⟨.string ⟨(ns.map fun n : Int => UInt8.ofNat n.toNat).toArray⟩, yields_of (s := convert s d (a.eval x)) (by simp [execOp, ho]) ?_, rfl, TagOK.bare rfl⟩
          rw [run_conv_bytes hs hd hu _ _ n cap hy, hy]
          have hlen : n = ns.length := by
            have := congrArg List.length hns
            simp only [List.length_map, List.length_take, List.length_drop] at this
            omega
          have hld : (loadCells ⟨gb, off, none⟩ n).run P w = .ok (ns.map (Value.int .u8)).toArray w := by
            have := run_loadCells_list (P := P) w ⟨gb, off, none⟩ (ns.map (Value.int .u8)) (fun j v hj => by
              simp only [List.getElem?_map, Option.map_eq_some_iff] at hj
              obtain ⟨k, hk, rfl⟩ := hj
              have hjl : j < ns.length := (List.getElem?_eq_some_iff.1 hk).1
              have h1 : (((cs.drop off).take n).map fun x => [x])[j]? = some [V.v (.int .u8 k)] := by rw [hns]; simp [hk]
              simp only [List.getElem?_map, Option.map_eq_some_iff, List.cons.injEq, and_true] at h1
              obtain ⟨u, hu1, hu2⟩ := h1
              subst hu2
              rw [List.getElem?_take, if_pos (by omega), List.getElem?_drop] at hu1
              obtain ⟨y, hy1, hy2⟩ := (hC.obCells hcs hg).1 _ _ hu1
              rw [Nat.zero_add] at hy1
              rw [add_none, hy1]
              have : y = .int .u8 k := hy2
              rw [this])
            simpa [hlen] using this
          rw [run_bytesToString w _ _ _ ns hld, push_fold]
          simp
        · cases hv
      · cases hv
    · cases hv
  · cases hv

end
end Go.Lift
end
