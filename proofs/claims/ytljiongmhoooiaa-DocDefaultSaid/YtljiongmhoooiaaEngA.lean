/- The engine, part A: a deterministic evaluator for the model's code over abstract memory. No conditions: definitions alone. -/
import Derived.WalkKit
namespace Go.Eng
open Go

/-- abstract values: addresses are names of abstract blocks -/
inductive V where
  | bool (b : Bool)
  | int (k : IntKind) (n : Int)
  | str (s : List UInt8)
  | ptr (a : Option (Nat × Nat))
  | slc (a : Option (Nat × Nat)) (len cap esz : Nat)
  | map (r : Option Nat)
  | fn (f : Fn) (first captured : List V)
  | nilFn
  | iface (t : TypeId) (v : V)
  | nilIface
  | agg (cs : List V)
  | tup (vs : List V)
  deriving Inhabited

/-- abstract blocks -/
inductive O where
  | cells (cs : List V)
  | map (es : List (V × V × Nat)) (clock : Nat)
  | siter (s : List UInt8) (pos : Nat)
  deriving Inhabited

/-- a tree of slots by number -/
inductive Tr (α : Type) where
  | nil
  | node (v : Option α) (l r : Tr α)
  deriving Inhabited

def Tr.get {α : Type} : Tr α → Nat → Option α
  | .nil, _ => none
  | .node v l r, k =>
    match k with
    | 0 => v
    | k + 1 => match k % 2 with
      | 0 => l.get (k / 2)
      | _ => r.get (k / 2)

def Tr.setF {α : Type} : Nat → Tr α → Nat → Option α → Tr α
  | 0, t, _, _ => t
  | f + 1, .nil, k, x =>
    match k with
    | 0 => .node x .nil .nil
    | k + 1 => match k % 2 with
      | 0 => .node none (Tr.setF f .nil (k / 2) x) .nil
      | _ => .node none .nil (Tr.setF f .nil (k / 2) x)
  | f + 1, .node v l r, k, x =>
    match k with
    | 0 => .node x l r
    | k + 1 => match k % 2 with
      | 0 => .node v (Tr.setF f l (k / 2) x) r
      | _ => .node v l (Tr.setF f r (k / 2) x)

def top : Nat := 4294967296
def Tr.set {α : Type} (t : Tr α) (k : Nat) (x : Option α) : Tr α := Tr.setF 33 t k x

def ofScalar : Value → Option V
  | .bool b => some (.bool b)
  | .int k n => some (.int k n)
  | .string s => some (.str s.data.toList)
  | .pointer none => some (.ptr none)
  | .slice none 0 0 => some (.slc none 0 0 0)
  | .map none => some (.map none)
  | .nilFunc => some .nilFn
  | .nilIface => some .nilIface
  | _ => none

def ofScalars : List Value → Option (List V)
  | [] => some []
  | v :: vs => match ofScalar v with
    | some x => match ofScalars vs with
      | some xs => some (x :: xs)
      | none => none
    | none => none

def ofVal : Value → Option V
  | .agg cs => match ofScalars cs.toList with
    | some xs => some (.agg xs)
    | none => none
  | v => ofScalar v

def V.cells : V → List V
  | .agg cs => cs
  | v => [v]

def V.scalar : V → Bool
  | .agg _ | .tup _ => false
  | _ => true

def szof (P : Program) (t : TypeId) : Option Nat := (P.info? t).map (·.size)
def zeroOf (P : Program) (t : TypeId) : Option V :=
  match P.info? t with
  | some i => match i.zero with
    | some v => ofVal v
    | none => none
  | none => none

def aggT (P : Program) (t : TypeId) : Option Bool :=
  match P.underlying t with
  | some (.struct _) => some true
  | some (.array _ _) => some true
  | some _ => some false
  | none => none

/-- what an operation comes to -/
inductive R where
  | val (v : V) (h : Tr O) (n : Nat)
  | call (f : FuncId) (args : List V)
  | dfr (f : FuncId) (captured args : List V)
  | recover
  | panic (v : V)

def okV (h : Tr O) (n : Nat) : Option V → Option R
  | some v => some (.val v h n)
  | none => none

def newObj (h : Tr O) (n : Nat) (o : O) : Option (Tr O × Nat) :=
  if n < top then some (h.set n (some o), n + 1) else none

def cut (cs : List V) (o size : Nat) : Option (List V) :=
  if o + size ≤ cs.length then some ((cs.drop o).take size) else none

def splice (cs : List V) (o : Nat) (new : List V) : Option (List V) :=
  if o + new.length ≤ cs.length then some (cs.take o ++ (new ++ cs.drop (o + new.length))) else none

def readAt (P : Program) (t : TypeId) (cs : List V) (o : Nat) : Option V :=
  match aggT P t with
  | some true => match szof P t with
    | some s => (cut cs o s).map .agg
    | none => none
  | some false => cs[o]?
  | none => none

def loadAt (P : Program) (t : TypeId) (h : Tr O) : V → Option V
  | .ptr (some (m, o)) => match h.get m with
    | some (.cells cs) => readAt P t cs o
    | _ => none
  | _ => none

def storeAt (P : Program) (t : TypeId) (h : Tr O) (v : V) : V → Option (Tr O)
  | .ptr (some (m, o)) => match h.get m with
    | some (.cells cs) =>
      match szof P t with
      | some s =>
        if v.cells.length = s ∧ 0 < s ∧ m < top ∧ v.cells.all V.scalar = true then
          match splice cs o v.cells with
          | some cs' => some (h.set m (some (.cells cs')))
          | none => none
        else none
      | none => none
    | _ => none
  | _ => none

def fillV (place : Nat → Option (Nat × Nat)) : List V → List (Nat × V) → Option (List V)
  | cells, [] => some cells
  | cells, (i, v) :: rest =>
    match place i with
    | none => none
    | some (off, size) =>
      if v.cells.length = size then
        match splice cells off v.cells with
        | some cells' => fillV place cells' rest
        | none => none
      else none

def sizesOf (P : Program) : List Field → Option (List (Nat × Nat))
  | [] => some []
  | f :: fs => match szof P f.type with
    | some s => match sizesOf P fs with
      | some r => some ((f.offset, s) :: r)
      | none => none
    | none => none

def buildV (P : Program) (t : TypeId) (parts : List (Nat × V)) : Option V :=
  match zeroOf P t, P.underlying t with
  | some z, some (.struct fields) =>
    match sizesOf P fields.toList with
    | some places => (fillV (fun i => places[i]?) z.cells parts).map .agg
    | none => none
  | some z, some (.array _ elem) =>
    match szof P elem with
    | some s => (fillV (fun i => some (i * s, s)) z.cells parts).map .agg
    | none => none
  | _, _ => none

def repeatV (z : List V) : Nat → List V
  | 0 => []
  | n + 1 => z ++ repeatV z n

def elemT (P : Program) (t : TypeId) : Option TypeId :=
  match P.underlying t with
  | some (.slice e) => some e
  | _ => none

def buildSliceV (P : Program) (t : TypeId) (len : Nat) (parts : List (Nat × V)) (h : Tr O) (n : Nat) : Option R :=
  match elemT P t with
  | some e => match szof P e, zeroOf P e with
    | some s, some z =>
      if 0 < s ∧ len * s ≤ 16777216 ∧ z.cells.length = s then
        match fillV (fun i => some (i * s, s)) (repeatV z.cells len) parts with
        | some cs => match newObj h n (.cells cs) with
          | some (h', n') => some (.val (.slc (some (n, 0)) len len s) h' n')
          | none => none
        | none => none
      else none
    | _, _ => none
  | none => none

def pureSem : Sem Value → Option V
  | .pure v => ofScalar v
  | _ => none

def beqB : List UInt8 → List UInt8 → Bool
  | [], [] => true
  | a :: x, b :: y => match Nat.beq a.toNat b.toNat with
    | true => beqB x y
    | false => false
  | _, _ => false

def intMax : Nat := 9223372036854775807

def strOp (op : BinOp) (a b : List UInt8) : Option V :=
  match op with
  | .add => if a.length + b.length ≤ intMax then some (.str (a ++ b)) else none
  | .eql => some (.bool (beqB a b))
  | .neq => some (.bool (!beqB a b))
  | _ => none

def partV (P : Program) (t : TypeId) (cs : List V) (off : Nat) : Option V := readAt P t cs off

def eqFields (P : Program) (eq : TypeId → V → V → Option Bool) : List Field → List V → List V → Option Bool
  | [], _, _ => some true
  | f :: fs, xs, ys =>
    if f.name ≠ "_" then
      match partV P f.type xs f.offset, partV P f.type ys f.offset with
      | some a, some b => match eq f.type a b with
        | some true => eqFields P eq fs xs ys
        | some false => some false
        | none => none
      | _, _ => none
    else eqFields P eq fs xs ys

def eqV (P : Program) : Nat → TypeId → V → V → Option Bool
  | 0, _, _, _ => none
  | d + 1, t, x, y =>
    match P.underlying t with
    | some .bool => match x, y with
      | .bool a, .bool b => some (a == b)
      | _, _ => none
    | some (.int _) => match x, y with
      | .int k a, .int k' b => if k = k' then some (a == b) else none
      | _, _ => none
    | some .string => match x, y with
      | .str a, .str b => some (beqB a b)
      | _, _ => none
    | some (.pointer _) => match x, y with
      | .ptr none, .ptr b => some b.isNone
      | .ptr (some _), .ptr none => some false
      | _, _ => none
    | some (.interface _) => match x, y with
      | .nilIface, .nilIface => some true
      | .nilIface, .iface _ _ => some false
      | .iface _ _, .nilIface => some false
      | _, _ => none
    | some (.struct fields) => match x, y with
      | .agg xs, .agg ys => if P.stoodInHeld t then none else eqFields P (fun u a b => eqV P d u a b) fields.toList xs ys
      | _, _ => none
    | some (.slice _) => match x, y with
      | .slc none _ _ _, .slc b _ _ _ => some b.isNone
      | .slc (some _) _ _ _, .slc none _ _ _ => some false
      | _, _ => none
    | some (.map _ _) => match x, y with
      | .map none, .map b => some b.isNone
      | .map (some _), .map none => some false
      | _, _ => none
    | _ => none

def isLit : Operand → Bool
  | .const _ => true
  | _ => false

def eqOp (P : Program) (t : TypeId) (x y : Operand) (a b : V) : Option Bool :=
  match a, b with
  | .nilIface, .nilIface => if isLit x || isLit y then eqV P 10000 t a b else none
  | .agg _, .agg _ => if P.eqGuardType P.depth t then none else eqV P 10000 t a b
  | _, _ => eqV P 10000 t a b

def binV (P : Program) (op : BinOp) (t : TypeId) (x y : Operand) (a b : V) : Option V :=
  match a, b with
  | .int k m, .int k' n => pureSem (binOp op t (.int k m) (.int k' n))
  | .str s, .str u => strOp op s u
  | a, b => match op with
    | .eql => (eqOp P t x y a b).map .bool
    | .neq => (eqOp P t x y a b).map fun r => .bool (!r)
    | _ => none

def unV (op : UnOp) : V → Option V
  | .int k n => pureSem (Op.unary op (.int k n))
  | .bool b => pureSem (Op.unary op (.bool b))
  | _ => none

def bytesV (s : List UInt8) : List V := s.map fun b => .int .u8 b.toNat

def toBytes : List V → Option (List UInt8)
  | [] => some []
  | .int .u8 n :: vs => match toBytes vs with
    | some bs => some (UInt8.ofNat n.toNat :: bs)
    | none => none
  | _ :: _ => none

def convV (P : Program) (src dst : TypeId) (v : V) (h : Tr O) (n : Nat) : Option R :=
  match P.underlying src, P.underlying dst, v with
  | some _, some (.int k), .int _ m => some (.val (.int k (k.wrap m)) h n)
  | some _, some .string, .str s => some (.val (.str s) h n)
  | some .string, some (.slice e), .str s =>
    match P.underlying e with
    | some (.int .u8) => match newObj h n (.cells (bytesV s)) with
      | some (h', n') => some (.val (.slc (some (n, 0)) s.length s.length 1) h' n')
      | none => none
    | _ => none
  | some (.slice e), some .string, .slc none _ _ _ =>
    match P.underlying e with
    | some (.int .u8) => some (.val (.str []) h n)
    | _ => none
  | some (.slice e), some .string, .slc (some (m, o)) len _ esz =>
    match P.underlying e with
    | some (.int .u8) => if esz = 1 then (match len with
      | 0 => some (.val (.str []) h n)
      | _ => match h.get m with
        | some (.cells cs) => match cut cs o len with
          | some bs => match toBytes bs with
            | some s => some (.val (.str s) h n)
            | none => none
          | none => none
        | _ => none) else none
    | _ => none
  | _, _, _ => none

def intOf? : V → Option Int
  | .int _ n => some n
  | _ => none

def makeSliceV (P : Program) (t : TypeId) (l c : V) (h : Tr O) (n : Nat) : Option R :=
  match elemT P t, l, c with
  | some e, .int _ l, .int _ c =>
    match P.info? e, zeroOf P e with
    | some i, some z =>
      let l' := IntKind.i64.wrap l
      let c' := IntKind.i64.wrap c
      if 0 < i.size ∧ z.cells.length = i.size ∧ 0 ≤ l' ∧ l' ≤ c' ∧ i.bytes * c' ≤ 281474976710656 then
        match newObj h n (.cells (repeatV z.cells c'.toNat)) with
        | some (h', n') => some (.val (.slc (some (n, 0)) l'.toNat c'.toNat i.size) h' n')
        | none => none
      else none
    | _, _ => none
  | _, _, _ => none

/-- a bound of a slice expression: an integer between 0 and y -/
def boundV (dflt : Nat) (y : Nat) : Option V → Option Nat
  | none => some dflt
  | some (.int _ i) => if 0 ≤ i ∧ i ≤ y then some i.toNat else none
  | some _ => none

/-- is there a live row of so many cells? -/
def liveRow (h : Tr O) (m k : Nat) : Bool :=
  match h.get m with
  | some (.cells cs) => decide (k ≤ cs.length)
  | _ => false

def sliceV (P : Program) (t : TypeId) (hp : Tr O) (x : V) (lo hi mx : Option V) : Option V :=
  if mx.isSome = true ∧ hi.isSome = false then none else
  match P.underlying t, x with
  | some .string, .str s =>
    match mx with
    | some _ => none
    | none => match boundV s.length s.length hi with
      | some h => match boundV 0 h lo with
        | some l => some (.str ((s.take h).drop l))
        | none => none
      | none => none
  | some (.slice e), .slc a len cap esz =>
    match szof P e with
    | some s => if s = esz ∨ a = none then
        match boundV cap cap mx with
        | some m => match boundV len m hi with
          | some h => match boundV 0 h lo with
            | some l => some (.slc (match a with | none => none | some (b, o) => some (b, o + l * esz)) (h - l) (m - l) esz)
            | none => none
          | none => none
        | none => none
      else none
    | none => none
  | some (.array n e), .ptr (some (b, o)) =>
    match szof P e with
    | some s =>
      match boundV n n mx with
      | some m => match boundV n m hi with
        | some h => match boundV 0 h lo with
          | some l => if 0 < s ∧ 0 < n ∧ liveRow hp b (o + n * s) = true then some (.slc (some (b, o + l * s)) (h - l) (m - l) s) else none
          | none => none
        | none => none
      | none => none
    | none => none
  | _, _ => none

def fieldAddrV (P : Program) (t : TypeId) (f : Nat) : V → Option V
  | .ptr (some (m, o)) => match P.underlying t with
    | some (.struct fs) => match fs[f]? with
      | some fd => match szof P fd.type with
        | some (_ + 1) => some (.ptr (some (m, o + fd.offset)))
        | _ => none
      | none => none
    | _ => none
  | _ => none

def fieldV (P : Program) (t : TypeId) (f : Nat) : V → Option V
  | .agg cs => match P.underlying t with
    | some (.struct fs) => match fs[f]? with
      | some fd => partV P fd.type cs fd.offset
      | none => none
    | _ => none
  | _ => none

def indexAddrV (P : Program) (t : TypeId) (x ix : V) : Option V :=
  match ix with
  | .int _ i =>
    match P.underlying t, x with
    | some (.array len e), .ptr (some (m, o)) =>
      match szof P e with
      | some s => if 0 ≤ i ∧ i < len then some (.ptr (some (m, o + i.toNat * s))) else none
      | none => none
    | some (.slice e), .slc (some (m, o)) len _ esz =>
      match szof P e with
      | some s => if 0 ≤ i ∧ i < len ∧ s = esz then some (.ptr (some (m, o + i.toNat * s))) else none
      | none => none
    | _, _ => none
  | _ => none

def indexV (P : Program) (t : TypeId) (x ix : V) : Option V :=
  match ix with
  | .int _ i =>
    match P.underlying t, x with
    | some (.array len e), .agg cs =>
      match szof P e with
      | some s => if 0 ≤ i ∧ i < len then partV P e cs (i.toNat * s) else none
      | none => none
    | some .string, .str s =>
      if 0 ≤ i then (match s[i.toNat]? with
        | some b => some (.int .u8 b.toNat)
        | none => none) else none
    | _, _ => none
  | _ => none

/-- keys of maps: integers and strings -/
def keyEq : TypeDesc → V → V → Option Bool
  | .int _, .int k a, .int k' b => if k = k' then some (a == b) else none
  | .string, .str a, .str b => some (beqB a b)
  | _, _, _ => none

def findV (kd : TypeDesc) (k : V) : List (V × V × Nat) → Nat → Option (Option (Nat × V × V × Nat))
  | [], _ => some none
  | e :: es, i =>
    match keyEq kd k e.1 with
    | some true => some (some (i, e))
    | some false => findV kd k es (i + 1)
    | none => none

def keyOk : TypeDesc → V → Bool
  | .int _, .int _ _ => true
  | .string, .str _ => true
  | _, _ => false

def lookupV (P : Program) (t : TypeId) (h : Tr O) (x k : V) (ok : Bool) : Option V :=
  match P.underlying t with
  | some (.map kt et) => match P.underlying kt, zeroOf P et with
    | some kd, some z =>
      if keyOk kd k then
        match (match x with
          | .map none => some []
          | .map (some r) => (match h.get r with
            | some (.map es _) => some es
            | _ => none)
          | _ => none : Option (List (V × V × Nat))) with
        | some es => match findV kd k es 0 with
          | some (some (_, _, v, _)) => some (if ok then .tup [v, .bool true] else v)
          | some none => some (if ok then .tup [z, .bool false] else z)
          | none => none
        | none => none
      else none
    | _, _ => none
  | _ => none

def setNth {α : Type} : List α → Nat → (α → α) → List α
  | [], _, _ => []
  | x :: xs, 0, f => f x :: xs
  | x :: xs, i + 1, f => x :: setNth xs i f

def mapUpdateV (P : Program) (t : TypeId) (h : Tr O) (n : Nat) (m k v : V) : Option R :=
  match P.underlying t, m with
  | some (.map kt _), .map (some r) => match P.underlying kt, h.get r with
    | some kd, some (.map es clock) =>
      if keyOk kd k ∧ r < top then
        match findV kd k es 0 with
        | some (some (i, _)) => some (.val (.tup []) (h.set r (some (.map (setNth es i fun e => (k, v, e.2.2)) clock))) n)
        | some none => some (.val (.tup []) (h.set r (some (.map (es ++ [(k, v, clock)]) (clock + 1)))) n)
        | none => none
      else none
    | _, _ => none
  | _, _ => none

def mapEntryV (P : Program) (t : TypeId) (h : Tr O) (n : Nat) (m k : V) : Option R :=
  match P.underlying t, m with
  | some (.map kt et), .map (some r) => match P.underlying kt, h.get r, zeroOf P et with
    | some kd, some (.map es clock), some z =>
      if keyOk kd k ∧ r < top then
        match findV kd k es 0 with
        | some (some (i, e)) => some (.val (.tup [e.2.1, .int .i64 e.2.2]) (h.set r (some (.map (setNth es i fun e => (k, e.2.1, e.2.2)) clock))) n)
        | some none => some (.val (.tup [z, .int .i64 clock]) (h.set r (some (.map (es ++ [(k, z, clock)]) (clock + 1)))) n)
        | none => none
      else none
    | _, _, _ => none
  | _, _ => none

def bornAt (b : Int) : List (V × V × Nat) → Nat → Option Nat
  | [], _ => none
  | e :: es, i => if (e.2.2 : Int) == b then some i else bornAt b es (i + 1)

def entryStoreV (h : Tr O) (n : Nat) (m stamp v : V) : Option R :=
  match m, stamp with
  | .map (some r), .int _ b => match h.get r with
    | some (.map es clock) =>
      if r < top then
        match bornAt b es 0 with
        | some i => some (.val (.tup []) (h.set r (some (.map (setNth es i fun e => (e.1, v, e.2.2)) clock))) n)
        | none => none
      else none
    | _ => none
  | _, _ => none

def typeAssertV (P : Program) (x : V) (asserted : TypeId) (ok : Bool) : Option V :=
  match P.underlying asserted, x with
  | some (.interface _), _ => none
  | some _, .nilIface => if ok then (match zeroOf P asserted with | some z => some (.tup [z, .bool false]) | none => none) else none
  | some _, .iface t v => if t = asserted then some (if ok then .tup [v, .bool true] else v)
    else if ok then (match zeroOf P asserted with | some z => some (.tup [z, .bool false]) | none => none) else none
  | _, _ => none

/-- the cells of what is appended -/
def tailCells (h : Tr O) (size : Nat) : V → Option (Nat × List V)
  | .slc none len _ _ => if len = 0 then some (0, []) else none
  | .slc (some (m, o)) len _ esz => if esz = size then (match len with
    | 0 => some (0, [])
    | _ => match h.get m with
      | some (.cells cs) => match cut cs o (len * size) with
        | some r => some (len, r)
        | none => none
      | _ => none) else none
  | .str s => if size = 1 then some (s.length, bytesV s) else none
  | _ => none

def roomy (need size bytes : Nat) : Bool := decide (need * bytes ≤ 281474976710 ∧ need * size ≤ 281474976710)

def appendV (P : Program) (argTypes : Array TypeId) (args : List V) (h : Tr O) (n : Nat) : Option R :=
  match argTypes[0]?, argTypes[1]?, args with
  | some st, some xt, [s, x] =>
    match elemT P st, P.underlying xt with
    | some e, some xd =>
      match (match xd with | .slice _ => true | .string => true | _ => false), P.info? e, zeroOf P e with
      | true, some i, some z =>
        if 0 < i.size ∧ 0 < i.bytes ∧ z.cells.length = i.size then
          match tailCells h i.size x with
          | some (k, new) =>
            if new.all V.scalar = true then
            match s with
            | .slc none 0 _ _ =>
              match k with
              | 0 => some (.val (.slc none 0 0 0) h n)
              | _ => if roomy k i.size i.bytes then (match newObj h n (.cells new) with
                | some (h', n') => some (.val (.slc (some (n, 0)) k k i.size) h' n')
                | none => none) else none
            | .slc (some (m, o)) len _ esz =>
              if esz = i.size ∧ roomy (len + k) i.size i.bytes ∧ m < top then
                match h.get m with
                | some (.cells cs) =>
                  match (match len with | 0 => some [] | _ => cut cs o (len * i.size) : Option (List V)) with
                  | some old =>
                    match k with
                    | 0 => some (.val s h n)
                    | _ => match newObj (h.set m none) n (.cells (old ++ new)) with
                      | some (h', n') => some (.val (.slc (some (n, 0)) (len + k) (len + k) esz) h' n')
                      | none => none
                  | none => none
                | _ => none
              else none
            | _ => none
            else none
          | none => none
        else none
      | _, _, _ => none
    | _, _ => none
  | _, _, _ => none

def lenV (P : Program) (argTypes : Array TypeId) (args : List V) (h : Tr O) : Option V :=
  match argTypes[0]?, args with
  | some t, [x] => match P.underlying t, x with
    | some .string, .str s => some (.int .i64 s.length)
    | some (.array n _), _ => some (.int .i64 n)
    | some (.slice _), .slc _ len _ _ => some (.int .i64 len)
    | some (.map _ _), .map none => some (.int .i64 0)
    | some (.map _ _), .map (some r) => match h.get r with
      | some (.map es _) => some (.int .i64 es.length)
      | _ => none
    | _, _ => none
  | _, _ => none

def rangeV (P : Program) (t : TypeId) (x : V) (h : Tr O) (n : Nat) : Option R :=
  match P.underlying t, x with
  | some .string, .str s => match newObj h n (.siter s 0) with
    | some (h', n') => some (.val (.ptr (some (n, 0))) h' n')
    | none => none
  | _, _ => none

def nextV (x : V) (isString : Bool) (h : Tr O) (n : Nat) : Option R :=
  match x, isString with
  | .ptr (some (m, 0)), true => match h.get m with
    | some (.siter s pos) =>
      if pos < s.length then
        let cw := Utf8.decode ⟨s.toArray⟩ pos
        if m < top then some (.val (.tup [.bool true, .int .i64 pos, .int .i32 cw.1]) (h.set m (some (.siter s (pos + cw.2)))) n) else none
      else some (.val (.tup [.bool false]) h n)
    | _ => none
  | _, _ => none

def maxV : V → List V → Option V
  | x, [] => some x
  | .int k a, .int _ b :: vs => maxV (.int k (if b > a then b else a)) vs
  | _, _ => none
def minV : V → List V → Option V
  | x, [] => some x
  | .int k a, .int _ b :: vs => minV (.int k (if b < a then b else a)) vs
  | _, _ => none

def opd (fr : Tr V) : Operand → Option V
  | .tmp t => fr.get t
  | .const v => ofVal v
  | .func f => some (.fn (.func f) [] [])
  | .global _ => none

def opds (fr : Tr V) : List Operand → Option (List V)
  | [] => some []
  | x :: xs => match opd fr x with
    | some v => match opds fr xs with
      | some vs => some (v :: vs)
      | none => none
    | none => none

def opdOpt (fr : Tr V) : Option Operand → Option (Option V)
  | none => some none
  | some x => match opd fr x with
    | some v => some (some v)
    | none => none

def opdParts (fr : Tr V) : List (Nat × Operand) → Option (List (Nat × V))
  | [] => some []
  | (i, x) :: xs => match opd fr x with
    | some v => match opdParts fr xs with
      | some vs => some ((i, v) :: vs)
      | none => none
    | none => none

def callee (P : Program) (f : FuncId) : Bool :=
  match P.funcs[f]? with
  | some fn => fn.body.isSome && fn.name != "runtime.NumGoroutine"
  | none => false

def builtinV (P : Program) (b : Builtin) (argTypes : Array TypeId) (args : List V) (h : Tr O) (n : Nat) : Option R :=
  match b with
  | .append => if argTypes.size = 2 then appendV P argTypes args h n else none
  | .len => okV h n (lenV P argTypes args h)
  | .max => match args with
    | x :: xs => okV h n (maxV x xs)
    | [] => none
  | .min => match args with
    | x :: xs => okV h n (minV x xs)
    | [] => none
  | .panic => match args with
    | [.iface t v] => some (.panic (.iface t v))
    | _ => none
  | .recover => some .recover
  | _ => none

def callV (P : Program) (fr : Tr V) (c : Call) (h : Tr O) (n : Nat) : Option R :=
  match opds fr c.args.toList with
  | some args => match c.callee with
    | .builtin b => builtinV P b c.argTypes args h n
    | .invoke _ _ => none
    | .value f => match opd fr f with
      | some (.fn (.func g) first captured) => if callee P g then some (.call g (first ++ args ++ captured)) else none
      | _ => none
  | none => none

def deferV (fr : Tr V) (c : Call) : Option R :=
  match opds fr c.args.toList with
  | some args => match c.callee with
    | .value f => match opd fr f with
      | some (.fn (.func g) first captured) => some (.dfr g captured (first ++ args))
      | _ => none
    | _ => none
  | none => none

def stepOp (P : Program) (o : Oper) (fr : Tr V) (h : Tr O) (n : Nat) : Option R :=
  match o.op with
  | .move x => okV h n (opd fr x)
  | .assign x => okV h n (opd fr x)
  | .pick c a b => match opd fr c with
    | some (.bool true) => okV h n (opd fr a)
    | some (.bool false) => okV h n (opd fr b)
    | _ => none
  | .alloc e => match zeroOf P e with
    | some z => match newObj h n (.cells z.cells) with
      | some (h', n') => some (.val (.ptr (some (n, 0))) h' n')
      | none => none
    | none => none
  | .box _ x => match opd fr x with
    | some v => match newObj h n (.cells v.cells) with
      | some (h', n') => some (.val (.ptr (some (n, 0))) h' n')
      | none => none
    | none => none
  | .build t parts => match opdParts fr parts.toList with
    | some ps => okV h n (buildV P t ps)
    | none => none
  | .buildSlice t len parts => match opdParts fr parts.toList with
    | some ps => buildSliceV P t len ps h n
    | none => none
  | .load t a => match opd fr a with
    | some v => okV h n (loadAt P t h v)
    | none => none
  | .store t a x => match opd fr a, opd fr x with
    | some av, some xv => match storeAt P t h xv av with
      | some h' => some (.val (.tup []) h' n)
      | none => none
    | _, _ => none
  | .nilCheck x => match opd fr x with
    | some (.ptr (some p)) => some (.val (.ptr (some p)) h n)
    | some (.fn (.func f) a c) => some (.val (.fn (.func f) a c) h n)
    | some (.iface t v) => some (.val (.iface t v) h n)
    | _ => none
  | .binOp op t x y _ => match opd fr x, opd fr y with
    | some a, some b => okV h n (binV P op t x y a b)
    | _, _ => none
  | .unOp op _ x => match opd fr x with
    | some v => okV h n (unV op v)
    | none => none
  | .convert src dst x => match opd fr x with
    | some v => convV P src dst v h n
    | none => none
  | .makeInterface t x => match opd fr x, P.underlying t with
    | some v, some d => match d with
      | .interface _ => none
      | _ => some (.val (.iface t v) h n)
    | _, _ => none
  | .makeFunc f first captured => match opds fr first.toList, opds fr captured.toList with
    | some a, some c => some (.val (.fn f a c) h n)
    | _, _ => none
  | .makeMap _ none => match newObj h n (.map [] 0) with
    | some (h', n') => some (.val (.map (some n)) h' n')
    | none => none
  | .makeSlice t l c => match opd fr l, opd fr c with
    | some l, some c => makeSliceV P t l c h n
    | _, _ => none
  | .slice t x lo hi mx => match opd fr x, opdOpt fr lo, opdOpt fr hi, opdOpt fr mx with
    | some v, some lo, some hi, some mx => okV h n (sliceV P t h v lo hi mx)
    | _, _, _, _ => none
  | .fieldAddr t x f => match opd fr x with
    | some v => okV h n (fieldAddrV P t f v)
    | none => none
  | .field t x f => match opd fr x with
    | some v => okV h n (fieldV P t f v)
    | none => none
  | .indexAddr t x i => match opd fr x, opd fr i with
    | some v, some i => okV h n (indexAddrV P t v i)
    | _, _ => none
  | .index t x i => match opd fr x, opd fr i with
    | some v, some i => okV h n (indexV P t v i)
    | _, _ => none
  | .lookup t x k ok => match opd fr x, opd fr k with
    | some x, some k => okV h n (lookupV P t h x k ok)
    | _, _ => none
  | .mapUpdate t m k v => match opd fr m, opd fr k, opd fr v with
    | some m, some k, some v => mapUpdateV P t h n m k v
    | _, _, _ => none
  | .insert t m k v => match opd fr m, opd fr k, opd fr v with
    | some m, some k, some v => mapUpdateV P t h n m k v
    | _, _, _ => none
  | .mapEntry t m k => match opd fr m, opd fr k with
    | some m, some k => mapEntryV P t h n m k
    | _, _ => none
  | .entryStore _ m s v => match opd fr m, opd fr s, opd fr v with
    | some m, some s, some v => entryStoreV h n m s v
    | _, _, _ => none
  | .typeAssert x _ t ok => match opd fr x with
    | some v => okV h n (typeAssertV P v t ok)
    | none => none
  | .extract x i => match opd fr x with
    | some (.tup vs) => okV h n (vs[i]?)
    | _ => none
  | .range t x => match opd fr x with
    | some v => rangeV P t v h n
    | none => none
  | .next it b => match opd fr it with
    | some v => nextV v b h n
    | none => none
  | .panic x => match opd fr x with
    | some (.iface t v) => some (.panic (.iface t v))
    | _ => none
  | .call c => callV P fr c h n
  | .defer c => deferV fr c
  | _ => none

/-- a frame, the memory, the next name, the deferred calls -/
structure St where
  fr : Tr V
  h : Tr O
  n : Nat
  dfs : List (FuncId × List V × List V)
  deriving Inhabited

inductive X where
  | normal
  | exit (id : Nat)
  | ret
  | panic (v : V)

inductive Out where
  | ret (v : V)
  | pan (v : V)

abbrev CallF := FuncId → List V → Tr O → Nat → Option (Out × Tr O × Nat)

def putD (fr : Tr V) (dst : Option Nat) (v : V) : Option (Tr V) :=
  match dst with
  | none => some fr
  | some d => if d < top then some (fr.set d (some v)) else none

def yieldedV (ops : Array Oper) (fr : Tr V) (j : Nat) : Option Bool :=
  match ops[j]? with
  | some o => match o.dst with
    | some d => match fr.get d with
      | some (.bool b) => some b
      | some (.tup []) => none
      | _ => none
    | none => none
  | none => none

/-- is the operation wanted? -/
def wantedV (ops : Array Oper) (o : Oper) (fr : Tr V) : Option Bool :=
  match o.guard with
  | none => some true
  | some (j, want) => match ops[j]? with
    | some q => match q.dst with
      | some d => match fr.get d with
        | some (.bool b) => some (b == want)
        | some (.tup []) => some false
        | _ => none
      | none => none
    | none => none

/-- no rule fits here -/
def lost {α : Type} (_ : Nat) : Option α := none

/-- no rule fits this operation -/
def miss {α : Type} (_ : Oper) : Option α := none

def seqOps (P : Program) (cf : CallF) (ops : Array Oper) : List Oper → St → Option (X × St)
  | [], s => some (.normal, s)
  | o :: rest, s =>
    match wantedV ops o s.fr with
    | some false => match putD s.fr o.dst (.tup []) with
      | some fr => seqOps P cf ops rest { s with fr := fr }
      | none => none
    | some true => match stepOp P o s.fr s.h s.n with
      | some (.val v h n) => match putD s.fr o.dst v with
        | some fr => seqOps P cf ops rest { s with fr := fr, h := h, n := n }
        | none => none
      | some (.call f args) => match cf f args s.h s.n with
        | some (.ret v, h, n) => match putD s.fr o.dst v with
          | some fr => seqOps P cf ops rest { s with fr := fr, h := h, n := n }
          | none => none
        | some (.pan v, h, n) => some (.panic v, { s with h := h, n := n })
        | none => none
      | some (.dfr f c args) => match putD s.fr o.dst (.tup []) with
        | some fr => seqOps P cf ops rest { s with fr := fr, dfs := (f, c, args) :: s.dfs }
        | none => none
      | some (.panic v) => some (.panic v, s)
      | some .recover => none
      | none => miss o
    | none => miss o

/-- equality of abstract values, as a test -/
def beqAddr : Option (Nat × Nat) → Option (Nat × Nat) → Bool
  | none, none => true
  | some (a, b), some (c, d) => Nat.beq a c && Nat.beq b d
  | _, _ => false

def beqNat? : Option Nat → Option Nat → Bool
  | none, none => true
  | some a, some b => Nat.beq a b
  | _, _ => false

def beqFn : Fn → Fn → Bool
  | .func a, .func b => Nat.beq a b
  | _, _ => false

mutual
def V.beq : V → V → Bool
  | .bool a, .bool b => a == b
  | .int k a, .int j b => decide (k = j) && decide (a = b)
  | .str a, .str b => beqB a b
  | .ptr a, .ptr b => beqAddr a b
  | .slc a l c e, .slc a' l' c' e' => beqAddr a a' && Nat.beq l l' && Nat.beq c c' && Nat.beq e e'
  | .map a, .map b => beqNat? a b
  | .fn f a c, .fn g b d => beqFn f g && V.beqs a b && V.beqs c d
  | .nilFn, .nilFn => true
  | .iface t x, .iface u y => Nat.beq t u && V.beq x y
  | .nilIface, .nilIface => true
  | .agg a, .agg b => V.beqs a b
  | .tup a, .tup b => V.beqs a b
  | _, _ => false
def V.beqs : List V → List V → Bool
  | [], [] => true
  | a :: x, b :: y => V.beq a b && V.beqs x y
  | _, _ => false
end

/-- operations that write, call or take from an iterator -/
def isEff : Op → Bool
  | .store .. | .mapUpdate .. | .insert .. | .mapEntry .. | .entryStore .. | .next .. | .defer _ | .panic _ => true
  | .call { callee := .builtin b, .. } => match b with
    | .len | .max | .min => false
    | _ => true
  | .call _ => true
  | _ => false

/-- operations that look at their operands alone -/
def isPure : Op → Bool
  | .move _ | .assign _ | .pick .. | .build .. | .nilCheck _ | .binOp .. | .unOp .. | .makeInterface .. | .makeFunc .. | .fieldAddr .. | .field ..
  | .indexAddr .. | .index .. | .typeAssert .. | .extract .. => true
  | _ => false

/-- the state of a statement whose operations may run in more orders than one -/
structure Dr where
  fr : Tr V
  masks : List Nat
  cur : Nat × Tr O
  hist : List (Nat × Nat × Tr O)
  last : Option Nat
  allocs : List (Nat × O)
  reads : List (Nat × Nat × Oper × Tr V × V)
  n : Nat

def hasBit (m i : Nat) : Bool := Nat.testBit m i

/-- the memory that an operation sees whose ancestors are 'anc': X and the new blocks of its ancestors that X lacks ('m': those that X holds) -/
def view (n0 : Nat) : List (Nat × O) → Nat → Tr O → Nat → Tr O
  | [], _, x, _ => x
  | (i, o) :: r, m, x, anc => if hasBit anc i && !hasBit m i then (view n0 r m x anc).set (n0 + i) (some o) else view n0 r m x anc

def maskOf (masks : List Nat) : List Edge → Nat
  | [] => 0
  | e :: es => if Region.binds .any e then maskOf masks es ||| (2 ^ e.on ||| masks.getD e.on 0) else maskOf masks es

/-- does a read give the same in memory x? -/
def readsSame (P : Program) (n0 i : Nat) (o : Oper) (fr : Tr V) (v : V) (x : Tr O) : Bool :=
  match stepOp P o fr x (n0 + i) with
  | some (.val u _ k) => Nat.beq k (n0 + i) && V.beq u v
  | _ => false

def histOk (P : Program) (n0 i : Nat) (o : Oper) (fr : Tr V) (v : V) (allocs : List (Nat × O)) (anc : Nat) : List (Nat × Nat × Tr O) → Bool
  | [] => true
  | (e, m, x) :: r => if hasBit anc e then true else readsSame P n0 i o fr v (view n0 allocs m x anc) && histOk P n0 i o fr v allocs anc r

def readsOk (P : Program) (n0 : Nat) (allocs : List (Nat × O)) (m : Nat) (x : Tr O) : List (Nat × Nat × Oper × Tr V × V) → Bool
  | [] => true
  | (j, anc, o, fr, v) :: r => (hasBit m j || readsSame P n0 j o fr v (view n0 allocs m x anc)) && readsOk P n0 allocs m x r

def lastOk (anc : Nat) : Option Nat → Bool
  | none => true
  | some e => hasBit anc e

/-- behind an effect -/
def afterEff (P : Program) (n0 i anc : Nat) (o : Oper) (s : Dr) (v : V) (h : Tr O) (n : Nat) : Option Dr :=
  match putD s.fr o.dst v with
  | some fr =>
    if readsOk P n0 s.allocs anc h s.reads then
      some { fr := fr, masks := s.masks ++ [anc], cur := (anc, h), hist := (i, s.cur.1, s.cur.2) :: s.hist, last := some i, allocs := s.allocs, reads := s.reads, n := n }
    else none
  | none => none

/-- one operation: the new state, or the value of a panic with the memory and the next name -/
def drawOp (P : Program) (cf : CallF) (ops : Array Oper) (n0 i : Nat) (o : Oper) (s : Dr) : Option (Dr ⊕ (Tr V × V × Tr O × Nat)) :=
  let anc := maskOf s.masks o.after.toList
  match wantedV ops o s.fr with
  | some false => match putD s.fr o.dst (.tup []) with
    | some fr => some (.inl { s with fr := fr, masks := s.masks ++ [anc] })
    | none => miss o
  | some true =>
    if isEff o.op then
      if lastOk anc s.last then
        match stepOp P o s.fr (view n0 s.allocs s.cur.1 s.cur.2 anc) s.n with
        | some (.val v h n) => match afterEff P n0 i anc o s v h n with
          | some s' => some (.inl s')
          | none => miss o
        | some (.call f args) => match cf f args (view n0 s.allocs s.cur.1 s.cur.2 anc) s.n with
          | some (.ret v, h, n) => match afterEff P n0 i anc o s v h n with
            | some s' => some (.inl s')
            | none => miss o
          | some (.pan v, h, n) => if Nat.beq (anc + 1) (2 ^ i) && Nat.beq (i + 1) ops.size then some (.inr (s.fr, v, h, n)) else miss o
          | none => none
        | _ => miss o
      else miss o
    else
      let x := view n0 s.allocs s.cur.1 s.cur.2 anc
      match stepOp P o s.fr x (n0 + i) with
      | some (.val v h k) => match putD s.fr o.dst v with
        | some fr =>
          if Nat.beq k (n0 + i) then
            if isPure o.op then some (.inl { s with fr := fr, masks := s.masks ++ [anc] })
            else if histOk P n0 i o s.fr v s.allocs anc s.hist then
              some (.inl { s with fr := fr, masks := s.masks ++ [anc], reads := (i, anc, o, s.fr, v) :: s.reads })
            else miss o
          else match h.get (n0 + i) with
            | some b => some (.inl { s with fr := fr, masks := s.masks ++ [anc], allocs := (i, b) :: s.allocs })
            | none => miss o
        | none => miss o
      | _ => miss o
  | none => miss o

def drawOps (P : Program) (cf : CallF) (ops : Array Oper) (n0 : Nat) : List Oper → Nat → Dr → Option (Dr ⊕ (Tr V × V × Tr O × Nat))
  | [], _, s => some (.inl s)
  | o :: r, i, s => match drawOp P cf ops n0 i o s with
    | some (.inl s') => drawOps P cf ops n0 r (i + 1) s'
    | x => x

def drawn (P : Program) (cf : CallF) (ops : Array Oper) (s : St) : Option (X × St) :=
  if s.n + ops.size < top then
    match drawOps P cf ops s.n ops.toList 0 { fr := s.fr, masks := [], cur := (0, s.h), hist := [], last := none, allocs := [], reads := [], n := s.n + ops.size } with
    | some (.inl d) => some (.normal, { fr := d.fr, h := view s.n d.allocs d.cur.1 d.cur.2 (2 ^ ops.size - 1), n := d.n, dfs := s.dfs })
    | some (.inr (fr, v, h, n)) => some (.panic v, { s with fr := fr, h := h, n := n })
    | none => none
  else none

def rounds (f : St → Option (X × St)) : Nat → St → Option (X × St)
  | 0, _ => lost 1
  | k + 1, s => match f s with
    | some (.normal, s') => rounds f k s'
    | r => r

def exec (P : Program) (cf : CallF) (F : Nat) : Code → St → Option (X × St)
  | .skip, s => some (.normal, s)
  | .region _ ops false, s => seqOps P cf ops ops.toList s
  | .region _ ops true, s => drawn P cf ops s
  | .seq a b, s => match exec P cf F a s with
    | some (.normal, s') => exec P cf F b s'
    | r => r
  | .cond c a b, s => match opd s.fr c with
    | some (.bool true) => exec P cf F a s
    | some (.bool false) => exec P cf F b s
    | _ => lost 2
  | .block id body, s => match exec P cf F body s with
    | some (.exit id', s') => if id' = id then some (.normal, s') else some (.exit id', s')
    | r => r
  | .loop body, s => rounds (exec P cf F body) F s
  | .exit id, s => some (.exit id, s)
  | .ret, s => some (.ret, s)
  | _, _ => lost 3

def frameOf : List V → Nat → Tr V → Tr V
  | [], _, t => t
  | v :: vs, i, t => frameOf vs (i + 1) (t.set i (some v))

def resultV (P : Program) (fr : Tr V) (h : Tr O) : ResultVar → Option V
  | .tmp t => fr.get t
  | .cell a t => match fr.get a with
    | some v => loadAt P t h v
    | none => none

def resultsV (P : Program) (fr : Tr V) (h : Tr O) : List ResultVar → Option (List V)
  | [] => some []
  | r :: rs => match resultV P fr h r with
    | some v => match resultsV P fr h rs with
      | some vs => some (v :: vs)
      | none => none
    | none => none

def oneOf : List V → V
  | [v] => v
  | vs => .tup vs

/-- what a frame is doing while it leaves: returning, or panicking with a value that may have been recovered -/
inductive Mode where
  | ret
  | pan (v : V) (rec : Bool)

/-- operations of a deferred call, which may recover -/
def seqOpsD (P : Program) (cf : CallF) (ops : Array Oper) : List Oper → St → Mode → Option (X × St × Mode)
  | [], s, m => some (.normal, s, m)
  | o :: rest, s, m =>
    match wantedV ops o s.fr with
    | some false => match putD s.fr o.dst (.tup []) with
      | some fr => seqOpsD P cf ops rest { s with fr := fr } m
      | none => none
    | some true => match stepOp P o s.fr s.h s.n with
      | some (.val v h n) => match putD s.fr o.dst v with
        | some fr => seqOpsD P cf ops rest { s with fr := fr, h := h, n := n } m
        | none => none
      | some .recover => match m with
        | .pan v false => match putD s.fr o.dst v with
          | some fr => seqOpsD P cf ops rest { s with fr := fr } (.pan v true)
          | none => none
        | m => match putD s.fr o.dst .nilIface with
          | some fr => seqOpsD P cf ops rest { s with fr := fr } m
          | none => none
      | _ => miss o
    | none => miss o

def execD (P : Program) (cf : CallF) (F : Nat) : Code → St → Mode → Option (X × St × Mode)
  | .region _ ops false, s, m => seqOpsD P cf ops ops.toList s m
  | .seq a b, s, m => match execD P cf F a s m with
    | some (.normal, s', m') => execD P cf F b s' m'
    | r => r
  | .cond c a b, s, m => match opd s.fr c with
    | some (.bool true) => execD P cf F a s m
    | some (.bool false) => execD P cf F b s m
    | _ => lost 5
  | c, s, m => match exec P cf F c s with
    | some (x, s') => some (x, s', m)
    | none => none

/-- the deferred calls, and the end of the frame -/
def leave (P : Program) (cf : CallF) (F : Nat) (fn : Func) (fr : Tr V) : List (FuncId × List V × List V) → Mode → Tr O → Nat → Option (Out × Tr O × Nat)
  | [], .ret, h, n => match resultsV P fr h fn.results.toList with
    | some vs => some (.ret (oneOf vs), h, n)
    | none => lost 11
  | [], .pan v false, h, n => some (.pan v, h, n)
  | [], .pan _ true, _, _ => lost 12
  | (g, c, args) :: ds, m, h, n =>
    match P.funcs[g]? with
    | some gn => match gn.body with
      | some code =>
        if callee P g = true ∧ (args ++ c).length ≤ gn.ntmps ∧ gn.ntmps < top then
          match execD P cf F code { fr := frameOf (args ++ c) 0 .nil, h := h, n := n, dfs := [] } m with
          | some (.normal, s', m') =>
            (match s'.dfs with
            | [] => match resultsV P s'.fr s'.h gn.results.toList with
              | some _ => leave P cf F fn fr ds (match m' with | .pan _ true => .ret | m => m) s'.h s'.n
              | none => lost 13
            | _ => lost 14)
          | some (.ret, s', m') =>
            (match s'.dfs with
            | [] => match resultsV P s'.fr s'.h gn.results.toList with
              | some _ => leave P cf F fn fr ds (match m' with | .pan _ true => .ret | m => m) s'.h s'.n
              | none => lost 15
            | _ => lost 16)
          | _ => lost 17
        else none
      | none => lost 18
    | none => lost 19

def enter (P : Program) (cf : CallF) (F : Nat) (f : FuncId) (args : List V) (h : Tr O) (n : Nat) : Option (Out × Tr O × Nat) :=
  match P.funcs[f]? with
  | some fn => match fn.body with
    | some code =>
      if args.length ≤ fn.ntmps ∧ fn.ntmps < top then
        match exec P cf F code { fr := frameOf args 0 .nil, h := h, n := n, dfs := [] } with
        | some (.normal, s) => leave P cf F fn s.fr s.dfs .ret s.h s.n
        | some (.ret, s) => leave P cf F fn s.fr s.dfs .ret s.h s.n
        | some (.panic v, s) => leave P cf F fn s.fr s.dfs (.pan v false) s.h s.n
        | _ => lost 20
      else none
    | none => lost 21
  | none => lost 22

def call (P : Program) (F : Nat) : Nat → CallF
  | 0 => fun _ _ _ _ => lost 23
  | k + 1 => fun f args h n => enter P (call P F k) F f args h n
end Go.Eng
