/- The lifting, first part: values, states and the evaluation of Go code over values in the place of memory. -/
import Derived.WalkKit
import Derived.Still
import Derived.StillTail
import Derived.Scope
import Derived.LoopN
import Derived.Laws.AppendOwnNone
import Derived.Deep.MidRow
import Derived.Laws.Cover4
namespace Go.Lift
set_option linter.unusedVariables false
set_option linter.unusedSimpArgs false
set_option linter.unusedSectionVars false

/-- who may append to a slice in place: nobody, this very place, or the place that it was read from -/
inductive Own where
  | no
  | yes
  | cell (b o : Nat)
  | slot (t : Nat)
  deriving DecidableEq, Inhabited

/-- values: a slice is its rows (each row the cells of one element); a pointer goes to a cell of an object, or to protected cells -/
inductive V where
  | v (x : Value)
  | nil
  | list (k : Own) (rows : List (List V))
  | ptr (b o : Nat)
  | rp (cells : List V)
  | buf (b o n : Nat)
  | agg (cells : List V)
  | tup (vs : List V)
  | fn (f : Nat) (caps : List V)
  | undef
  deriving Inhabited

inductive Ob where
  | cells (cs : List V)
  | iter (s : ByteArray) (pos : Nat)
  deriving Inhabited

abbrev Env := List (Nat × V)
abbrev Heap := List Ob
abbrev St := Env × Heap

def look : Env → Nat → V
  | [], _ => .undef
  | (k, x) :: l, t => if k = t then x else look l t

def ins (t : Nat) (x : V) : Env → Env
  | [] => [(t, x)]
  | (k, y) :: l => if t < k then (t, x) :: (k, y) :: l else if t = k then (t, x) :: l else (k, y) :: ins t x l

def put (d : Option Nat) (x : V) (g : Env) : Env :=
  match d with
  | some t => ins t x g
  | none => g

/-- a copy is no owner -/
def cp : V → V
  | .list _ r => .list .no r
  | x => x
def cps : V → V
  | .agg cs => .agg (cs.map cp)
  | x => cp x
/-- where it is kept, a nil slice is an owner of nothing -/
def own1 : V → V
  | .nil => .list .yes []
  | x => x
def own1s : V → V
  | .agg cs => .agg (cs.map own1)
  | x => own1 x
/-- what goes to a callee, comes back, or becomes an element -/
def fz : V → V
  | .nil => .list .no []
  | .list _ r => .list .no r
  | x => x
def fzs : V → V
  | .agg cs => .agg (cs.map fz)
  | x => fz x
def fzr : V → V
  | .tup vs => .tup (vs.map fzs)
  | x => fzs x

/-- a cell that reaches no object from b on -/
def okc (b : Nat) : V → Bool
  | .v _ => true
  | .nil => true
  | .list _ _ => true
  | .rp _ => true
  | .ptr i _ => decide (i < b)
  | .buf i _ _ => decide (i < b)
  | .undef => true
  | _ => false
def okv (b : Nat) : V → Bool
  | .agg cs => cs.all (okc b)
  | .undef => true
  | .fn _ cs => cs.all (okc b)
  | x => okc b x
def okr (b : Nat) : V → Bool
  | .tup vs => vs.all (okv b)
  | x => okv b x
/-- a cell of plain data: what an element is made of -/
def pure1 : V → Bool
  | .v z => z.oneCell'
  | .list _ _ => true
  | _ => false

/-- what a closure may take along -/
def leaf0 : V → Bool
  | .agg _ => false
  | .tup _ => false
  | .fn _ _ => false
  | _ => true

/-- the marks 'read from there' go -/
def untag1 : V → V
  | .list (.cell _ _) r => .list .no r
  | .list (.slot _) r => .list .no r
  | x => x
def untag (g : Env) : Env := g.map fun p => (p.1, untag1 p.2)

def ofC1 : Value → V
  | .slice none 0 0 => .nil
  | .func (.func f) a b => if a.size = 0 ∧ b.size = 0 then .fn f [] else .v (.func (.func f) a b)
  | x => .v x
def ofC : Value → V
  | .agg cs => .agg (cs.toList.map ofC1)
  | x => ofC1 x

/-- what package-level variables hold: rows of cells that nothing writes -/
class GTab where
  tab : Nat → Option (List V)
variable [GTab]

def opd (g : Env) : Operand → V
  | .tmp t => look g t
  | .const c => ofC c
  | .global n =>
    match GTab.tab n with
    | some cs => .rp cs
    | none => .v (.pointer (some ⟨n, 0, none⟩))
  | .func f => .fn f []

def cellsV : V → List V
  | .agg cs => cs
  | x => [x]

section types
variable (P : Program)
def tsize (t : TypeId) : Nat := P.cellsOf t
/-- is it a struct or an array? (none: there is no such type) -/
def ttag (t : TypeId) : Option Bool :=
  match P.underlying t with
  | some (.struct _) => some true
  | some (.array _ _) => some true
  | some _ => some false
  | none => none
def tzero (t : TypeId) : Option (List Value) := ((P.info? t).bind (·.zero)).map fun z => z.cells.toList
def tfields (t : TypeId) : List (Nat × TypeId) :=
  match P.underlying t with
  | some (.struct fs) => fs.toList.map fun f => (f.offset, f.type)
  | _ => []
/-- a struct all of whose fields' types are known -/
def structOk (t : TypeId) : Bool := (tfields P t).all fun p => (P.info? p.2).isSome
def isStr (t : TypeId) : Bool :=
  match P.underlying t with
  | some .string => true
  | _ => false
def isU8 (t : TypeId) : Bool :=
  match P.underlying t with
  | some (.int .u8) => true
  | _ => false
def isI32 (t : TypeId) : Bool :=
  match P.underlying t with
  | some (.int .i32) => true
  | _ => false
def telem (t : TypeId) : TypeId :=
  match P.underlying t with
  | some (.slice e) => e
  | _ => 0
end types

/-- integer operations on plain values -/
def binS (op : BinOp) (x y : Value) : Option Value :=
  match x, y with
  | .int k a, .int k' b =>
    match op with
    | .shl => if 0 ≤ b then some (.int k (k.wrap (a * 2 ^ (min b.toNat k.bits)))) else none
    | .shr => if 0 ≤ b then some (.int k (a.fdiv (2 ^ (min b.toNat k.bits)))) else none
    | _ =>
      if k = k' then
        match op with
        | .add => some (.int k (k.wrap (a + b)))
        | .sub => some (.int k (k.wrap (a - b)))
        | .mul => some (.int k (k.wrap (a * b)))
        | .quo => if b = 0 then none else some (.int k (k.wrap (a.tdiv b)))
        | .rem => if b = 0 then none else some (.int k (a.tmod b))
        | .and => some (.int k (k.wrap (BitVec.ofInt k.bits a &&& BitVec.ofInt k.bits b).toNat))
        | .or => some (.int k (k.wrap (BitVec.ofInt k.bits a ||| BitVec.ofInt k.bits b).toNat))
        | .xor => some (.int k (k.wrap (BitVec.ofInt k.bits a ^^^ BitVec.ofInt k.bits b).toNat))
        | .andNot => some (.int k (k.wrap (BitVec.ofInt k.bits a &&& ~~~ BitVec.ofInt k.bits b).toNat))
        | .eql => some (.bool (a == b))
        | .neq => some (.bool (a != b))
        | .lss => some (.bool (decide (a < b)))
        | .leq => some (.bool (decide (a ≤ b)))
        | .gtr => some (.bool (decide (b < a)))
        | .geq => some (.bool (decide (b ≤ a)))
        | .shl => none
        | .shr => none
      else none
  | .string a, .string b =>
    match op with
    | .add => if a.size + b.size ≤ 9223372036854775807 then some (.string (a ++ b)) else none
    | .eql => some (.bool (a.toList == b.toList))
    | .neq => some (.bool (!(a.toList == b.toList)))
    | .lss => some (.bool (Op.bytesLess a.toList b.toList))
    | .leq => some (.bool (Op.bytesLess a.toList b.toList || a.toList == b.toList))
    | .gtr => some (.bool (!(Op.bytesLess a.toList b.toList || a.toList == b.toList)))
    | .geq => some (.bool (!(Op.bytesLess a.toList b.toList)))
    | _ => none
  | _, _ => none

/-- of two truth values, too -/
def binT (P : Program) (op : BinOp) (t : TypeId) (x y : Value) : Option Value :=
  match x, y with
  | .bool a, .bool b =>
    match P.underlying t with
    | some .bool =>
      match op with
      | .eql => some (.bool (a == b))
      | .neq => some (.bool (!(a == b)))
      | _ => none
    | _ => none
  | x, y => binS op x y

/-- one cell against another: 0 a bool, 1 an integer, 2 a string -/
def eqS (k : Nat) (x y : Value) : Option Bool :=
  match k, x, y with
  | 0, .bool a, .bool b => some (a == b)
  | 1, .int k a, .int k' b => if k = k' then some (a == b) else none
  | 2, .string a, .string b => some (a.toList == b.toList)
  | _, _, _ => none
def eqCells : List Nat → List V → List V → Option Bool
  | [], [], [] => some true
  | k :: ks, .v x :: l, .v y :: m =>
    match eqS k x y, eqCells ks l m with
    | some a, some b => some (a && b)
    | _, _ => none
  | _, _, _ => none

/-- the fields of a struct, one behind the other: the kinds of their cells -/
def flatFs (f : TypeId → Option (List Nat)) : List Field → Nat → Option (List Nat)
  | [], _ => some []
  | x :: r, o =>
    if x.offset = o ∧ x.name ≠ "_" then
      match f x.type with
      | some l => match flatFs f r (o + l.length) with
        | some l' => some (l ++ l')
        | none => none
      | none => none
    else none

/-- types of plain data whose cells are compared one by one: the kinds of the cells -/
def flatK (P : Program) : Nat → TypeId → Option (List Nat)
  | 0, _ => none
  | d + 1, t =>
    match P.underlying t with
    | some .bool => some [0]
    | some (.int _) => some [1]
    | some .string => some [2]
    | some (.array n e) =>
      match flatK P d e with
      | some l => if tsize P e = l.length then some (List.replicate n l).flatten else none
      | none => none
    | some (.struct fs) => if P.stoodInHeld t = false ∧ (fs.toList.all fun f => match flatK P d f.type with | some l => tsize P f.type == l.length | none => false) then flatFs (flatK P d) fs.toList 0 else none
    | _ => none
/-- the kinds, if the comparison's depth reaches -/
def flatOf (P : Program) (t : TypeId) : Option (List Nat) := if 20 ≤ P.depth ∧ ttag P t = some true then flatK P 20 t else none

def unS (op : UnOp) (x : Value) : Option Value :=
  match op, x with
  | .neg, .int k n => some (.int k (k.wrap (0 - n)))
  | .not, .bool b => some (.bool !b)
  | _, _ => none

/-- conversions that make no memory -/
def convS (P : Program) (s d : TypeId) (x : V) : Option V :=
  match P.underlying s, P.underlying d, x with
  | some (.int _), some (.int k), .v (.int _ n) => some (.v (.int k (k.wrap n)))
  | some (.int _), some .string, .v (.int _ n) => some (.v (.string (Utf8.encode n)))
  | some .string, some .string, .v (.string b) => some (.v (.string b))
  | _, _, _ => none

/-- the bytes of a slice of bytes -/
def bytesOf : List (List V) → Option (List UInt8)
  | [] => some []
  | [.v (.int .u8 n)] :: l => (bytesOf l).map fun r => UInt8.ofNat n.toNat :: r
  | _ => none

def runesOf : List (List V) → Option (List Int)
  | [] => some []
  | [.v (.int .i32 n)] :: l => (runesOf l).map fun r => n :: r
  | _ => none

def idx : V → Option Int
  | .v (.int _ n) => some n
  | _ => none
/-- an optional bound: its value, or what stands for none -/
def bnd (g : Env) (o : Option Operand) (d : Nat) : Option Nat :=
  match o with
  | none => some d
  | some x => match idx (opd g x) with
    | some n => if 0 ≤ n then some n.toNat else none
    | none => none

def takeCells (P : Program) (t : TypeId) (cs : List V) : Option V :=
  match ttag P t with
  | some true => if tsize P t ≤ cs.length then some (.agg ((cs.take (tsize P t)).map cp)) else none
  | some false => (cs[0]?).map cp
  | none => none

/-- a value of the type, read at an object's cell, says where it was read -/
def tagC (b o : Nat) : V → V
  | .list .yes r => .list (.cell b o) r
  | x => cp x

def cellsOfOb (h : Heap) (b : Nat) : Option (List V) :=
  match h[b]? with
  | some (.cells cs) => some cs
  | _ => none

def loadV (P : Program) (h : Heap) (t : TypeId) (a : V) : Option V :=
  match a with
  | .ptr b o =>
    match cellsOfOb h b with
    | some cs => match ttag P t with
      | some true => takeCells P t (cs.drop o)
      | some false => (cs[o]?).map (tagC b o)
      | none => none
    | none => none
  | .rp cs => takeCells P t cs
  | _ => none

def fieldOff (P : Program) (t : TypeId) (f : Nat) : Option (Nat × TypeId) := (tfields P t)[f]?

/-- a part of a struct: one cell, or cells -/
def partOk : V → Bool
  | .v z => z.oneCell'
  | .undef => false
  | .tup _ => false
  | _ => true
/-- a cell that may be stored -/
def stoOk : V → Bool
  | .v z => z.oneCell'
  | .undef => false
  | .tup _ => false
  | .agg _ => false
  | _ => true

def buildV (off : Nat → Option (Nat × Nat)) : List (Nat × V) → List V → Option (List V)
  | [], cs => some cs
  | (i, x) :: r, cs =>
    match off i with
    | some (o, n) => if partOk x = true ∧ (cellsV x).length = n ∧ o + n ≤ cs.length then buildV off r (cs.take o ++ (cellsV x).map cp ++ cs.drop (o + n)) else none
    | none => none

/-- operations that leave the state alone but for the temporary that they fill -/
def evPure (P : Program) (vars : List Nat) (s : St) : Op → Option V
  | .move x =>
    match x with
    | .tmp t => match look s.1 t with
      | .list .yes r => some (.list (if t ∈ vars then .slot t else .no) r)
      | y => some (cps y)
    | x => some (opd s.1 x)
  | .pick c a b =>
    match opd s.1 c with
    | .v (.bool x) => some (if x then cps (opd s.1 a) else cps (opd s.1 b))
    | _ => none
  | .build t parts =>
    match tzero P t with
    | none => none
    | some z =>
      match P.underlying t with
      | some (.struct _) => if structOk P t then
        (buildV (fun i => (fieldOff P t i).map fun p => (p.1, tsize P p.2)) (parts.toList.map fun p => (p.1, opd s.1 p.2)) (z.map ofC1)).map .agg else none
      | some (.array _ e) => if (P.info? e).isSome then
        (buildV (fun i => some (i * tsize P e, tsize P e)) (parts.toList.map fun p => (p.1, opd s.1 p.2)) (z.map ofC1)).map .agg else none
      | _ => none
  | .load t a => loadV P s.2 t (opd s.1 a)
  | .nilCheck x =>
    match opd s.1 x with
    | .ptr b o => some (.ptr b o)
    | .rp cs => some (.rp cs)
    | .fn f cs => some (.fn f cs)
    | _ => none
  | .binOp op t x y _ =>
    match opd s.1 x, opd s.1 y with
    | .v a, .v b => (binT P op t a b).map .v
    | .agg cs, .agg ds =>
      match flatOf P t with
      | some ks =>
        match op with
        | .eql => (eqCells ks cs ds).map fun r => .v (.bool r)
        | .neq => (eqCells ks cs ds).map fun r => .v (.bool !r)
        | _ => none
      | none => none
    | _, _ => none
  | .unOp op _ x =>
    match opd s.1 x with
    | .v a => (unS op a).map .v
    | _ => none
  | .convert a b x =>
    match opd s.1 x with
    | .v y => convS P a b (.v y)
    | .list _ rows =>
      if isStr P b then
        match P.underlying a with
        | some (.slice e) => if isU8 P e then (bytesOf rows).map fun l => .v (.string ⟨l.toArray⟩) else if isI32 P e then (runesOf rows).map fun l => .v (.string (runesBytes l)) else none
        | _ => none
      else none
    | .buf i o n =>
      if isStr P b then
        match P.underlying a, cellsOfOb s.2 i with
        | some (.slice e), some cs =>
          if isU8 P e && decide (o + n ≤ cs.length) then (bytesOf (((cs.drop o).take n).map fun x => [x])).map fun l => .v (.string ⟨l.toArray⟩) else none
        | _, _ => none
      else none
    | _ => none
  | .fieldAddr t x f =>
    match opd s.1 x, fieldOff P t f with
    | .ptr b o, some (k, u) => if 0 < tsize P u then some (.ptr b (o + k)) else none
    | .rp cs, some (k, u) => if 0 < tsize P u ∧ k < cs.length then some (.rp (cs.drop k)) else none
    | _, _ => none
  | .field t x f =>
    match opd s.1 x, fieldOff P t f with
    | .agg cs, some (k, u) =>
      takeCells P u (cs.drop k)
    | _, _ => none
  | .indexAddr t x i =>
    match opd s.1 x, idx (opd s.1 i), P.underlying t with
    | .list _ rows, some n, some (.slice e) =>
      if 0 ≤ n then
        match rows[n.toNat]? with
        | some row => if row.length = tsize P e ∧ 0 < tsize P e then some (.rp row) else none
        | none => none
      else none
    | .buf b o m, some n, some (.slice e) => if 0 ≤ n ∧ n < m ∧ tsize P e = 1 then some (.ptr b (o + n.toNat)) else none
    | .ptr b o, some n, some (.array m e) => if 0 ≤ n ∧ n < m ∧ 0 < tsize P e then some (.ptr b (o + n.toNat * tsize P e)) else none
    | _, _, _ => none
  | .index t x i =>
    match opd s.1 x, idx (opd s.1 i), P.underlying t with
    | .v (.string b), some n, some .string =>
      if 0 ≤ n then (b.data[n.toNat]?).map fun c => .v (.int .u8 c.toNat) else none
    | .agg cs, some n, some (.array m e) =>
      if 0 ≤ n ∧ n < m then
        takeCells P e (cs.drop (n.toNat * tsize P e))
      else none
    | _, _, _ => none
  | .slice t x lo hi mx =>
    match mx, opd s.1 x, P.underlying t with
    | none, .v (.string b), some .string =>
      match bnd s.1 hi b.size with
      | some h => match bnd s.1 lo 0 with
        | some l => if l ≤ h ∧ h ≤ b.size then some (.v (.string (b.extract l h))) else none
        | none => none
      | none => none
    | none, .list _ rows, some (.slice e) =>
      match bnd s.1 hi rows.length with
      | some h => match bnd s.1 lo 0 with
        | some l => if l ≤ h ∧ h ≤ rows.length ∧ 0 < tsize P e ∧ (rows.all fun r => r.length == tsize P e) then some (.list .no ((rows.take h).drop l)) else none
        | none => none
      | none => none
    | none, .ptr b o, some (.array n e) =>
      match bnd s.1 hi n with
      | some h => match bnd s.1 lo 0 with
        | some l => if l ≤ h ∧ h ≤ n ∧ l < n ∧ tsize P e = 1 then some (.buf b (o + l) (h - l)) else none
        | none => none
      | none => none
    | _, _, _ => none
  | .extract x i =>
    match opd s.1 x with
    | .tup vs => (vs[i]?).map cps
    | _ => none
  | .makeFunc fn first caps =>
    match fn with
    | .func f => if first.size = 0 ∧ (caps.toList.all fun c => leaf0 (opd s.1 c)) then some (.fn f (caps.toList.map fun c => cp (opd s.1 c))) else none
    | _ => none
  | .call c =>
    match c.callee with
    | .builtin .len =>
      match (c.args[0]?).map (opd s.1), (c.argTypes[0]?).bind P.underlying with
      | some (.list _ rows), some (.slice _) => some (.v (.int .i64 rows.length))
      | some .nil, some (.slice _) => some (.v (.int .i64 0))
      | some (.buf _ _ n), some (.slice _) => some (.v (.int .i64 n))
      | some (.v (.string b)), some .string => some (.v (.int .i64 b.size))
      | _, _ => none
    | .builtin .min =>
      match c.args.toList.map (opd s.1) with
      | [.v (.int k x), .v (.int k' y)] => if k = k' then some (.v (.int k (if y < x then y else x))) else none
      | _ => none
    | .builtin .max =>
      match c.args.toList.map (opd s.1) with
      | [.v (.int k x), .v (.int k' y)] => if k = k' then some (.v (.int k (if y > x then y else x))) else none
      | _ => none
    | _ => none
  | _ => none

/-- taken over: an owner's place is left -/
def takeO (g : Env) (x : Operand) : V × Env :=
  match x with
  | .tmp t => match look g t with
    | .list .yes r => (.list .yes r, ins t (.list .no r) g)
    | y => (cps y, g)
  | x => (opd g x, g)

def setOb (h : Heap) (b : Nat) (cs : List V) : Heap := h.set b (.cells cs)

def isAssign : Op → Bool
  | .assign _ => true
  | _ => false

def isEff (P : Program) : Op → Bool
  | .assign _ => true
  | .alloc _ => true
  | .box _ _ => true
  | .buildSlice _ _ _ => true
  | .store _ _ _ => true
  | .range _ _ => true
  | .next _ _ => true
  | .convert a _ _ => isStr P a
  | .call c => match c.callee with
    | .value _ => true
    | .builtin .append => true
    | _ => false
  | _ => false

def byteRows (s : ByteArray) : List (List V) := s.data.toList.map fun c => [.v (.int .u8 c.toNat)]
def byteCells (s : ByteArray) : List V := s.data.toList.map fun c => .v (.int .u8 c.toNat)

def notInt : TypeDesc → Bool
  | .slice _ => true
  | .string => true
  | _ => false

/-- what is appended -/
def appRows (P : Program) (e : TypeId) : V → Option (List (List V))
  | .nil => some []
  | .list _ r => if r.all fun x => x.length == tsize P e then some r else none
  | .v (.string s) => if isU8 P e = true ∧ tsize P e = 1 then some (byteRows s) else none
  | _ => none

/-- whose place it is that is appended to: its rows, and the state without it as an owner -/
def owner (lo : Nat) (s : St) (x : Operand) : Option (List (List V) × St) :=
  match x with
  | .tmp t =>
    match look s.1 t with
    | .nil => some ([], s)
    | .list .yes r => some (r, (ins t (.list .no r) s.1, s.2))
    | .list (.slot u) r => match look s.1 u with
      | .list .yes q => some (r, (ins u (.list .no q) s.1, s.2))
      | _ => none
    | .list (.cell b o) r => match cellsOfOb s.2 b with
      | some cs => match cs[o]? with
        | some (.list .yes q) => if lo ≤ b then some (r, (s.1, setOb s.2 b (cs.set o (.list .no q)))) else none
        | _ => none
      | none => none
    | _ => none
  | .const c => match ofC c with
    | .nil => some ([], s)
    | _ => none
  | _ => none

abbrev CallF := Nat → Nat → List V → Heap → Option (V × Heap)

def evCall (call : CallF) (lo : Nat) (s : St) (f : Operand) (args : List V) : Option (V × St) :=
  match opd s.1 f with
  | .fn f caps => match call lo f (args.map fzs ++ caps) s.2 with
    | some (r, h) => some (r, (untag s.1, h))
    | none => none
  | _ => none

def evEff (P : Program) (call : CallF) (lo : Nat) (mutc : Bool) (s : St) : Op → Option (V × St)
  | .assign x => some (own1 (takeO s.1 x).1, (untag (takeO s.1 x).2, s.2))
  | .alloc t =>
    match tzero P t with
    | some z => if (z.map ofC1).all stoOk then some (.ptr s.2.length 0, (s.1, s.2 ++ [.cells ((z.map ofC1).map own1)])) else none
    | none => none
  | .box _ x =>
    if partOk (cps (opd s.1 x)) && (cellsV (cps (opd s.1 x))).all stoOk then some (.ptr s.2.length 0, (s.1, s.2 ++ [.cells ((cellsV (cps (opd s.1 x))).map own1)])) else none
  | .buildSlice t n parts =>
    match P.underlying t with
    | some (.slice e) =>
      let rows := parts.toList.map fun p => cellsV (fzs (opd s.1 p.2))
      if (parts.toList.map (·.1)) = List.range n ∧ (tzero P e).isSome = true ∧ 0 < tsize P e ∧ n * tsize P e ≤ 16777216 ∧ (rows.all fun r => r.length == tsize P e && r.all pure1) then
        some (.list .yes rows, s)
      else none
    | _ => none
  | .store t a x =>
    match opd s.1 a with
    | .ptr b o =>
      match cellsOfOb s.2 b with
      | some cs =>
        let v := (takeO s.1 x).1
        if lo ≤ b ∧ o + tsize P t ≤ cs.length ∧ (cellsV v).length = tsize P t ∧ (P.info? t).isSome ∧ ((cellsV v).all stoOk = true) ∧ okv (b + 1) v = true then
          match own1s v with
          | .agg ds => some (.v undef, (untag (takeO s.1 x).2, setOb s.2 b (cs.take o ++ ds ++ cs.drop (o + tsize P t))))
          | u => some (.v undef, (untag (takeO s.1 x).2, setOb s.2 b (cs.set o u)))
        else none
      | none => none
    | _ => none
  | .range t x =>
    match opd s.1 x, P.underlying t with
    | .v (.string b), some .string => some (.ptr s.2.length 0, (s.1, s.2 ++ [.iter b 0]))
    | _, _ => none
  | .next x str =>
    match opd s.1 x, str with
    | .ptr b 0, true =>
      match s.2[b]? with
      | some (.iter t pos) =>
        if lo ≤ b then
          if pos < t.size then some (.tup [.v (.bool true), .v (.int .i64 pos), .v (.int .i32 (Utf8.decode t pos).1)], (untag s.1, s.2.set b (.iter t (pos + (Utf8.decode t pos).2))))
          else some (.tup [.v (.bool false)], (untag s.1, s.2))
        else none
      | _ => none
    | _, _ => none
  | .convert a b x =>
    match P.underlying a, P.underlying b, opd s.1 x with
    | some .string, some (.slice e), .v (.string y) =>
      if isU8 P e then
        if mutc then some (.buf s.2.length 0 y.size, (s.1, s.2 ++ [.cells (byteCells y)]))
        else some (.list .no (byteRows y), s)
      else none
    | some .string, some .string, .v (.string y) => some (.v (.string y), s)
    | _, _, _ => none
  | .call c =>
    match c.callee with
    | .value f => evCall call lo s f (c.args.toList.map (opd s.1))
    | .builtin .append =>
      match c.args.toList, c.argTypes.toList.map P.underlying with
      | [x, y], [some (.slice e), some u] =>
        match owner lo s x, appRows P e (opd s.1 y) with
        | some (r, s'), some q =>
          if (tzero P e).map (·.length) = some (tsize P e) ∧ 0 < tsize P e ∧ (r.all fun z => z.length == tsize P e) ∧ (r.length + q.length) * P.bytesOf e ≤ 140737488355328 ∧ r.length + q.length ≤ 9223372036854775807 ∧ notInt u = true then
            some (.list .yes (r ++ q), (untag s'.1, s'.2))
          else none
        | _, _ => none
      | _, _ => none
    | _ => none
  | _ => none

/-- does an operation's guard let it? (none: not known) -/
def want (ops : Array Oper) (g : Env) (o : Oper) : Option Bool :=
  match o.guard with
  | none => some true
  | some (j, b) =>
    match (ops[j]?).bind (·.dst) with
    | some t => match look g t with
      | .v (.bool x) => some (x == b)
      | .v (.tuple _) => some false
      | _ => none
    | none => some false

/-- the code's own facts, told from outside; nothing hangs on their being right: which slots live on behind a region, how many of the call's own objects -/
structure Hint where
  live : Nat → Option (List Nat)
  keep : Nat → Option Nat
  tail : Nat → Option Nat
  vars : List Nat
  mutc : Bool
  deriving Inhabited

structure Cx where
  P : Program
  call : CallF
  lo : Nat
  base : Nat
  hint : Hint

def evOp (c : Cx) (s : St) (o : Oper) : Option (V × St) :=
  if isEff c.P o.op then evEff c.P c.call c.lo c.hint.mutc s o.op else (evPure c.P c.hint.vars s o.op).map fun v => (v, s)

def evOps (c : Cx) (ops : Array Oper) : List Oper → St → Option St
  | [], s => some s
  | o :: r, s =>
    match want ops s.1 o with
    | some true => match evOp c s o with
      | some (v, g, h) => evOps c ops r (put o.dst v g, h)
      | none => none
    | some false => if isAssign o.op then none else evOps c ops r (put o.dst (.v undef) s.1, s.2)
    | none => none

/-- an operation ahead of all that writes, in a region whose order is open -/
def evHead (c : Cx) (s : St) (o : Oper) : Option V :=
  if isEff c.P o.op then
    match o.op with
    | .call d => match d.callee with
      | .value f => match opd s.1 f with
        | .fn f caps => (c.call s.2.length f ((d.args.toList.map (opd s.1)).map fzs ++ caps) s.2).map (·.1)
        | _ => none
      | _ => none
    | .convert a b x =>
      if c.hint.mutc then none else (evEff c.P c.call c.lo false s (.convert a b x)).map (·.1)
    | _ => none
  else evPure c.P c.hint.vars s o.op

def evHeads (c : Cx) (ops : Array Oper) : List Oper → St → Option St
  | [], s => some s
  | o :: r, s =>
    match want ops s.1 o with
    | some true => match evHead c s o with
      | some v => evHeads c ops r (put o.dst v s.1, s.2)
      | none => none
    | some false => if isAssign o.op then none else evHeads c ops r (put o.dst (.v undef) s.1, s.2)
    | none => none

/-- may it stand ahead of all that writes? -/
def headOp (P : Program) : Op → Bool
  | .call c => match c.callee with
    | .value _ => true
    | .builtin .append => false
    | _ => true
  | .convert _ _ _ => true
  | o => !isEff P o

def tailAt (P : Program) (h : Hint) (id : Nat) (ops : Array Oper) : Nat :=
  match h.tail id with
  | some n => n
  | none => (ops.toList.findIdx? fun o => !headOp P o.op).getD ops.size

def drawOk (P : Program) (h : Hint) (id : Nat) (ops : Array Oper) : Bool :=
  if tailAt P h id ops = ops.size then Region.lexB .any ops else Region.lexTailB .any ops (tailAt P h id ops)

def dstOk (h : Hint) (nt : Nat) (o : Oper) : Bool :=
  match o.dst with
  | none => true
  | some t => decide (t < nt) && (isAssign o.op || !h.vars.contains t)

/-- what is asked of a function's code once: its slots, and the regions whose order is open -/
def codeOk (P : Program) (h : Hint) (nt : Nat) : Code → Bool
  | .region id ops draw => ops.toList.all (dstOk h nt) && (!draw || drawOk P h id ops)
  | .seq a b => codeOk P h nt a && codeOk P h nt b
  | .cond _ a b => codeOk P h nt a && codeOk P h nt b
  | .block _ a => codeOk P h nt a
  | .loop a => codeOk P h nt a
  | .scope a => codeOk P h nt a
  | _ => true

def evDraw (c : Cx) (id : Nat) (ops : Array Oper) (s : St) : Option St :=
  match evHeads c ops (ops.toList.take (tailAt c.P c.hint id ops)) s with
  | some s' => evOps c ops (ops.toList.drop (tailAt c.P c.hint id ops)) s'
  | none => none

/-- what lives on, in the hint's order -/
def lives (l : Option (List Nat)) (g : Env) : Env :=
  match l with
  | some ts => ts.map fun t => (t, look g t)
  | none => g

/-- the call's own objects behind the first k are let go, if nothing that stays reaches them -/
def keeps (base : Nat) (k : Option Nat) (s : St) : Option St :=
  match k with
  | none => some s
  | some n =>
    if s.1.all fun p => okv (base + n) p.2 then
      some (s.1, s.2.take (base + n))
    else none

def evRegion (c : Cx) (id : Nat) (ops : Array Oper) (draw : Bool) (s : St) : Option St :=
  match (if draw then evDraw c id ops s else evOps c ops ops.toList s) with
  | some s' => keeps c.base (c.hint.keep id) (untag (lives (c.hint.live id) s'.1), s'.2)
  | none => none

inductive Ex where
  | normal
  | exit (id : Nat)
  | ret
  deriving DecidableEq, Inhabited

abbrev LoopF := (St → Option (Ex × St)) → St → Option (Ex × St)

def evCode (c : Cx) (lp : LoopF) : Code → St → Option (Ex × St)
  | .skip, s => some (.normal, s)
  | .region id ops draw, s => (evRegion c id ops draw s).map fun s' => (.normal, s')
  | .seq a b, s =>
    match evCode c lp a s with
    | some (.normal, s') => evCode c lp b s'
    | r => r
  | .cond x a b, s =>
    match opd s.1 x with
    | .v (.bool t) => if t then evCode c lp a s else evCode c lp b s
    | _ => none
  | .block id a, s =>
    match evCode c lp a s with
    | some (.exit j, s') => if j = id then some (.normal, s') else some (.exit j, s')
    | r => r
  | .loop a, s => lp (evCode c lp a) s
  | .exit id, s => some (.exit id, s)
  | .scope a, s => evCode c lp a s
  | .label _, s => some (.normal, s)
  | .ret, s => some (.ret, s)
  | _, _ => none

/-- a loop of at most n rounds -/
def loopN : Nat → LoopF
  | 0, _, _ => none
  | n + 1, f, s =>
    match f s with
    | some (.normal, s') => loopN n f s'
    | r => r

def evRes (P : Program) (s : St) : ResultVar → Option V
  | .tmp t => match look s.1 t with
    | .tup _ => none
    | x => some (fzs x)
  | .cell a t =>
    match look s.1 a with
    | .ptr b o => (loadV P s.2 t (.ptr b o)).map fzs
    | _ => none

def evResults (P : Program) (s : St) : List ResultVar → Option (List V)
  | [] => some []
  | r :: l => match evRes P s r, evResults P s l with
    | some x, some xs => some (x :: xs)
    | _, _ => none

def resV : List V → V
  | [x] => x
  | l => .tup l

def args0 (args : List V) : Env := args.zipIdx.map fun p => (p.2, p.1)

/-- a value without a mark of its own -/
def bare : V → Bool
  | .list .no _ => true
  | .list _ _ => false
  | _ => true

/-- a call's end: its results; its own objects go -/
def finish (P : Program) (fn : Func) (base : Nat) (s : St) : Option (V × Heap) :=
  match evResults P s fn.results.toList with
  | some vs => if okr base (resV vs) then some (resV vs, s.2.take base) else none
  | none => none

def evBody (P : Program) (hints : Nat → Hint) (call : CallF) (lp : LoopF) (lo f : Nat) (args : List V) (h : Heap) : Option (V × Heap) :=
  match P.funcs[f]? with
  | some fn =>
    match fn.body with
    | some b =>
      if codeOk P (hints f) fn.ntmps b && decide (args.length ≤ fn.ntmps) && args.all bare && fn.name != "runtime.NumGoroutine" then
        match evCode ⟨P, call, lo, h.length, hints f⟩ lp b (args0 args, h) with
        | some (.exit _, _) => none
        | some (_, s) => finish P fn h.length s
        | none => none
      else none
    | none => none
  | none => none

/-- calls nested at most n deep, loops of at most n rounds; some functions by a contract of their own -/
def evFun (P : Program) (hints : Nat → Hint) (prim : Nat → Option (Nat → List V → Heap → Option (V × Heap))) : Nat → CallF
  | 0 => fun _ _ _ _ => none
  | n + 1 => fun lo f args h =>
    match prim f with
    | some p => p lo args h
    | none => evBody P hints (evFun P hints prim n) (loopN n) lo f args h

end Go.Lift
