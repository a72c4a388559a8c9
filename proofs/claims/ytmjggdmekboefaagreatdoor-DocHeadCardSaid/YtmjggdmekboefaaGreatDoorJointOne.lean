/- The engine: the variables of the program that are known (number, name). No conditions. -/
import GoSem.Core.Ast
import Derived.WalkKit
import Derived.Orders
import Derived.ChangeKeysEq
set_option linter.unusedVariables false
set_option linter.unusedSimpArgs false
set_option linter.unusedSectionVars false
namespace Go.Eng
def gtab:List (Nat × Nat):=[(0,0),(1,1),(2,2)]
end Go.Eng
namespace Go.Eng
open Go
theorem kRfl {α:Sort _} {a b:α} (h:a=b:=by kernel_rfl):a=b:=h
theorem oMga {p:Prop} (h:p:=by omega):p:=h
theorem dCde {p:Prop} (h:p:=by decide):p:=h
theorem ofNE (n:Nat):Int.ofNat n=(n:Int):=rfl
theorem oOnE {p:Prop} (h:p:=by simp only [ofNE]; omega):p:=h
theorem onE1 {α:Type} {a:α} {C Q:α→Prop} (h:Q a):∀ g ∈ [a],C g→Q g:=fun _ hg _=>List.mem_singleton.1 hg ▸ h
theorem fmE1 {p:Prop} {l:List Prop} (h:p) (t:∀ a ∈ l,a):∀ a ∈ p :: l,a:=List.forall_mem_cons.2 ⟨h,t⟩
theorem soE1 {α:Type _} {a b:α} (h:some a=some b):a=b:=Option.some.inj h
theorem spE2 {α:Type _} {β:Type _} {a c:α} {b d:β} (h:some (a,b)=some (c,d)):a=c∧b=d:=Prod.mk.inj (Option.some.inj h)
inductive D where
 | bool (b:Bool)
 | int (k:IntKind) (n:Int)
 | str (s:List UInt8)
 | lst (n:Nat) (cs:List D)
 | agg (cs:List D)
 deriving Inhabited
inductive V where
 | bool (b:Bool)
 | int (k:IntKind) (n:Int)
 | str (s:List UInt8)
 | ptr (a:Option (Nat × Nat))
 | slc (a:Option (Nat × Nat)) (len cap esz:Nat)
 | map (r:Option Nat)
 | fn (f:Fn) (first captured:List V)
 | nilFn
 | iface (t:TypeId) (v:V)
 | nilIface
 | agg (cs:List V)
 | tup (vs:List V)
 | lst (f:Bool) (n:Nat) (cs:List D)
 | fptr (cs:List D)
 deriving Inhabited
mutual
def D.toV:D→V
 | .bool b=>.bool b
 | .int k n=>.int k n
 | .str s=>.str s
 | .lst n cs=>.lst false n cs
 | .agg cs=>.agg (D.toVs cs)
def D.toVs:List D→List V
 | []=>[]
 | x :: xs=>x.toV :: D.toVs xs
end
theorem D.toVs_map:∀ l:List D,D.toVs l=l.map D.toV
 | []=>rfl
 | x :: xs=>by rw [D.toVs,D.toVs_map xs]; rfl
def D.scalar:D→Bool
 | .agg _=>false
 | _=>true
mutual
def V.toD:V→Option D
 | .bool b=>some (.bool b)
 | .int k n=>some (.int k n)
 | .str s=>some (.str s)
 | .lst _ n cs=>some (.lst n cs)
 | .slc none _ _ _=>some (.lst 0 [])
 | .slc (some _) 0 _ _=>some (.lst 0 [])
 | .agg cs=>match V.toDs cs with
   | some l=>some (.agg l)
   | none=>none
 | _=>none
def V.toDs:List V→Option (List D)
 | []=>some []
 | x :: xs=>match V.toD x with
   | some d=>match V.toDs xs with
     | some l=>match d.scalar with
       | true=>some (d :: l)
       | false=>none
     | none=>none
   | none=>none
end
inductive Tr (α:Type) where
 | nil
 | node (v:Option α) (l r:Tr α)
 deriving Inhabited
inductive O where
 | cells (cs:List V)
 | map (es:List (V × V × Nat)) (clock:Nat)
 | siter (s:List UInt8) (pos:Nat)
 | ints (k:IntKind) (ks:List Int)
 | own (k:IntKind) (ks:List Int)
 | deep (cs:List D)
 | buf (el:TypeId) (fro:Bool) (s:List UInt8)
 | bld (t:TypeId) (self:Bool) (x:V)
 | mapD (kd:Option IntKind) (es:List (D × D))
 | dfr
 | loop (st:Bool) (pe:Option Code) (fr:Tr V) (ps:List Nat) (assign body:Code)
 deriving Inhabited
def O.wr:O→Bool
 | .ints _ _=>false
 | _=>true
def Tr.get {α:Type}:Tr α→Nat→Option α
 | .nil,_=>none
 | .node v l r,k=>
   match k with
   | 0=>v
   | k+1=>match k % 2 with
     | 0=>l.get (k / 2)
     | _=>r.get (k / 2)
def Tr.setF {α:Type}:Nat→Tr α→Nat→Option α→Tr α
 | 0,t,_,_=>t
 | f+1,.nil,k,x=>
   match k with
   | 0=>.node x .nil .nil
   | k+1=>match k % 2 with
     | 0=>.node none (Tr.setF f .nil (k / 2) x) .nil
     | _=>.node none .nil (Tr.setF f .nil (k / 2) x)
 | f+1,.node v l r,k,x=>
   match k with
   | 0=>.node x l r
   | k+1=>match k % 2 with
     | 0=>.node v (Tr.setF f l (k / 2) x) r
     | _=>.node v l (Tr.setF f r (k / 2) x)
def top:Nat:=4294967296
def Tr.set {α:Type} (t:Tr α) (k:Nat) (x:Option α):Tr α:=Tr.setF 33 t k x
def ofScalar:Value→Option V
 | .bool b=>some (.bool b)
 | .int k n=>some (.int k n)
 | .string s=>some (.str s.data.toList)
 | .pointer none=>some (.ptr none)
 | .slice none 0 0=>some (.slc none 0 0 0)
 | .map none=>some (.map none)
 | .nilFunc=>some .nilFn
 | .nilIface=>some .nilIface
 | _=>none
def ofScalars:List Value→Option (List V)
 | []=>some []
 | v :: vs=>match ofScalar v with
   | some x=>match ofScalars vs with
     | some xs=>some (x :: xs)
     | none=>none
   | none=>none
def ofVal:Value→Option V
 | .agg cs=>match ofScalars cs.toList with
   | some xs=>some (.agg xs)
   | none=>none
 | v=>ofScalar v
def V.cells:V→List V
 | .agg cs=>cs
 | v=>[v]
def V.scalar:V→Bool
 | .agg _ | .tup _=>false
 | _=>true
def szof (P:Program) (t:TypeId):Option Nat:=(P.info? t).map (·.size)
def zeroOf (P:Program) (t:TypeId):Option V:=
 match P.info? t with
 | some i=>match i.zero with
   | some v=>ofVal v
   | none=>none
 | none=>none
def aggT (P:Program) (t:TypeId):Option Bool:=
 match P.underlying t with
 | some (.struct _)=>some true
 | some (.array _ _)=>some true
 | some _=>some false
 | none=>none
inductive R where
 | val (v:V) (h:Tr O) (n:Nat)
 | call (f:FuncId) (args:List V)
 | dfr (f:FuncId) (captured args:List V)
 | recover
 | panic (v:V)
def okV (h:Tr O) (n:Nat):Option V→Option R
 | some v=>some (.val v h n)
 | none=>none
def newObj (h:Tr O) (n:Nat) (o:O):Option (Tr O × Nat):=
 if n < top then some (h.set n (some o),n+1) else none
def cut (cs:List V) (o size:Nat):Option (List V):=
 if o+size ≤ cs.length then some ((cs.drop o).take size) else none
def splice (cs:List V) (o:Nat) (new:List V):Option (List V):=
 if o+new.length ≤ cs.length then some (cs.take o ++ (new ++ cs.drop (o+new.length))) else none
def readAt (P:Program) (t:TypeId) (cs:List V) (o:Nat):Option V:=
 match aggT P t with
 | some true=>match szof P t with
   | some s=>(cut cs o s).map .agg
   | none=>none
 | some false=>cs[o]?
 | none=>none
def bldCells (m:Nat) (self:Bool) (x:V):List V:=[if self then .ptr (some (m,0)) else .ptr none,x]
def allocO (P:Program) (t:TypeId) (z:V):O:=match z.cells with
 | [.ptr none,.slc none 0 0 0]=>match P.underlying t with
   | some (.struct fs)=>match fs[0]? with
     | some f=>match P.underlying f.type with
       | some (.pointer t')=>if Nat.beq t' t then .bld t false (.slc none 0 0 0) else .cells z.cells
       | _=>.cells z.cells
     | none=>.cells z.cells
   | _=>.cells z.cells
 | _=>.cells z.cells
def loadAt (P:Program) (t:TypeId) (h:Tr O):V→Option V
 | .ptr (some (m,o))=>match h.get m with
   | some (.cells cs)=>readAt P t cs o
   | some (.ints k ks)=>readAt P t (ks.map (.int k)) o
   | some (.own k ks)=>readAt P t (ks.map (.int k)) o
   | some (.deep cs)=>readAt P t (D.toVs cs) o
   | some (.bld _ self x)=>readAt P t (bldCells m self x) o
   | _=>none
 | .fptr cs=>readAt P t (D.toVs cs) 0
 | _=>none
inductive Row where
 | vs (cs:List V)
 | is (k:IntKind) (ks:List Int)
 | ds (cs:List D)
def Row.toV:Row→List V
 | .vs cs=>cs
 | .is k ks=>ks.map (.int k)
 | .ds cs=>D.toVs cs
def Row.toO:Row→O
 | .vs cs=>.cells cs
 | .is k ks=>.own k ks
 | .ds cs=>.deep cs
def O.row:O→Option Row
 | .cells cs=>some (.vs cs)
 | .own k ks=>some (.is k ks)
 | .deep cs=>some (.ds cs)
 | _=>none
def O.rowR:O→Option Row
 | .cells cs=>some (.vs cs)
 | .own k ks=>some (.is k ks)
 | .ints k ks=>some (.is k ks)
 | .deep cs=>some (.ds cs)
 | _=>none
def deepsOf:List V→Option (List D)
 | []=>some []
 | x :: r=>match (match x with
   | .bool b=>some (.bool b)
   | .int k n=>some (.int k n)
   | .str s=>some (.str s)
   | .lst _ n cs=>some (.lst n cs)
   | .slc none _ _ _=>some (.lst 0 [])
   | _=>none:Option D) with
   | some d=>match deepsOf r with
     | some l=>some (d :: l)
     | none=>none
   | none=>none
def intsOf (k:IntKind):List V→Option (List Int)
 | []=>some []
 | .int k' x :: r=>match decide (k'=k),intsOf k r with
   | true,some l=>some (x :: l)
   | _,_=>none
 | _ :: _=>none
def Row.app:Row→Row→Row
 | .vs a,.vs b=>.vs (a ++ b)
 | .is k a,.is k' b=>match decide (k'=k) with
   | true=>.is k (a ++ b)
   | false=>.vs (a.map (.int k) ++ b.map (.int k'))
 | .is k a,.vs b=>match intsOf k b with
   | some l=>.is k (a ++ l)
   | none=>.vs (a.map (.int k) ++ b)
 | .vs a,.is k b=>match intsOf k a with
   | some l=>.is k (l ++ b)
   | none=>.vs (a ++ b.map (.int k))
 | .ds a,.ds b=>.ds (a ++ b)
 | .ds a,.vs b=>match deepsOf b with
   | some l=>.ds (a ++ l)
   | none=>.vs (D.toVs a ++ b)
 | .vs a,.ds b=>match deepsOf a with
   | some l=>.ds (l ++ b)
   | none=>.vs (a ++ D.toVs b)
 | .ds a,.is k b=>.ds (a ++ b.map (.int k))
 | .is k a,.ds b=>.ds (a.map (.int k) ++ b)
def Row.cut (o size:Nat):Row→Option Row
 | .vs cs=>match Eng.cut cs o size with
   | some r=>some (.vs r)
   | none=>none
 | .is k ks=>if o+size ≤ ks.length then some (.is k ((ks.drop o).take size)) else none
 | .ds cs=>if o+size ≤ cs.length then some (.ds ((cs.drop o).take size)) else none
def Row.soft:Row→Bool
 | .ds _=>true
 | _=>false
def Row.flat:Row→Bool
 | .vs cs=>cs.all V.scalar
 | .is _ _=>true
 | .ds _=>true
def putDs (ks:List D) (o:Nat) (new:List D):List D:=ks.take o ++ (new ++ ks.drop (o+new.length))
def putI (ks:List Int) (o:Nat) (new:List Int):List Int:=ks.take o ++ (new ++ ks.drop (o+new.length))
def storeAt (P:Program) (t:TypeId) (h:Tr O) (v:V):V→Option (Tr O)
 | .ptr (some (m,o))=>match h.get m with
   | some (.cells cs)=>
     match szof P t with
     | some s=>
       if v.cells.length=s∧0 < s∧m < top∧v.cells.all V.scalar=true then
        match splice cs o v.cells with
        | some cs'=>some (h.set m (some (.cells cs')))
        | none=>none
       else none
     | none=>none
   | some (.own k ks)=>
     match szof P t with
     | some s=>
       if v.cells.length=s∧0 < s∧m < top then
        match intsOf k v.cells with
        | some new=>if o+s ≤ ks.length then some (h.set m (some (.own k (putI ks o new)))) else none
        | none=>none
       else none
     | none=>none
   | some (.deep cs)=>
     match szof P t with
     | some s=>
       if v.cells.length=s∧0 < s∧m < top then
        match deepsOf v.cells with
        | some new=>if o+s ≤ cs.length then some (h.set m (some (.deep (putDs cs o new)))) else none
        | none=>none
       else none
     | none=>none
   | some (.bld T self _)=>match szof P t,v.cells with
     | some 1,[x]=>if o=1∧m < top∧x.scalar=true then some (h.set m (some (.bld T self x))) else none
     | _,_=>none
   | _=>none
 | _=>none
def fillV (place:Nat→Option (Nat × Nat)):List V→List (Nat × V)→Option (List V)
 | cells,[]=>some cells
 | cells,(i,v) :: rest=>
   match place i with
   | none=>none
   | some (off,size)=>
     if v.cells.length=size then
      match splice cells off v.cells with
      | some cells'=>fillV place cells' rest
      | none=>none
     else none
def sizesOf (P:Program):List Field→Option (List (Nat × Nat))
 | []=>some []
 | f :: fs=>match szof P f.type with
   | some s=>match sizesOf P fs with
     | some r=>some ((f.offset,s) :: r)
     | none=>none
   | none=>none
def buildV (P:Program) (t:TypeId) (parts:List (Nat × V)):Option V:=
 match zeroOf P t,P.underlying t with
 | some z,some (.struct fields)=>
   match sizesOf P fields.toList with
   | some places=>(fillV (fun i=>places[i]?) z.cells parts).map .agg
   | none=>none
 | some z,some (.array _ elem)=>
   match szof P elem with
   | some s=>(fillV (fun i=>some (i * s,s)) z.cells parts).map .agg
   | none=>none
 | _,_=>none
def repeatV (z:List V):Nat→List V
 | 0=>[]
 | n+1=>z ++ repeatV z n
def elemT (P:Program) (t:TypeId):Option TypeId:=
 match P.underlying t with
 | some (.slice e)=>some e
 | _=>none
def buildSliceV (P:Program) (t:TypeId) (len:Nat) (parts:List (Nat × V)) (h:Tr O) (n:Nat):Option R:=
 match elemT P t with
 | some e=>match szof P e,zeroOf P e with
   | some s,some z=>
     if 0 < s∧len * s ≤ 16777216∧z.cells.length=s then
      match fillV (fun i=>some (i * s,s)) (repeatV z.cells len) parts with
      | some cs=>match newObj h n (.cells cs) with
        | some (h',n')=>some (.val (.slc (some (n,0)) len len s) h' n')
        | none=>none
      | none=>none
     else none
   | _,_=>none
 | none=>none
def pureSem:Sem Value→Option V
 | .pure v=>ofScalar v
 | _=>none
def beqB:List UInt8→List UInt8→Bool
 | [],[]=>true
 | a :: x,b :: y=>match Nat.beq a.toNat b.toNat with
   | true=>beqB x y
   | false=>false
 | _,_=>false
def intMax:Nat:=9223372036854775807
def ltB:List UInt8→List UInt8→Bool
 | _,[]=>false
 | [],_ :: _=>true
 | a :: x,b :: y=>match Nat.blt a.toNat b.toNat with
   | true=>true
   | false=>match Nat.beq a.toNat b.toNat with
     | true=>ltB x y
     | false=>false
def strOp (op:BinOp) (a b:List UInt8):Option V:=
 match op with
 | .lss=>some (.bool (ltB a b))
 | .geq=>some (.bool (!ltB a b))
 | .leq=>some (.bool (ltB a b || beqB a b))
 | .gtr=>some (.bool (!(ltB a b || beqB a b)))
 | .add=>if a.length+b.length ≤ intMax then some (.str (a ++ b)) else none
 | .eql=>some (.bool (beqB a b))
 | .neq=>some (.bool (!beqB a b))
 | _=>none
def partV (P:Program) (t:TypeId) (cs:List V) (off:Nat):Option V:=readAt P t cs off
def eqFields (P:Program) (eq:TypeId→V→V→Option Bool):List Field→List V→List V→Option Bool
 | [],_,_=>some true
 | f :: fs,xs,ys=>
   if f.name ≠ "_" then
    match partV P f.type xs f.offset,partV P f.type ys f.offset with
    | some a,some b=>match eq f.type a b with
      | some true=>eqFields P eq fs xs ys
      | some false=>some false
      | none=>none
    | _,_=>none
   else eqFields P eq fs xs ys
def eqItemsV (P:Program) (eq:V→V→Option Bool) (e:TypeId) (c:Nat) (xs ys:List V):List Nat→Option Bool
 | []=>some true
 | i :: is=>match partV P e xs (i * c),partV P e ys (i * c) with
   | some a,some b=>match eq a b with
     | some true=>eqItemsV P eq e c xs ys is
     | some false=>some false
     | none=>none
   | _,_=>none
def eqV (P:Program):Nat→TypeId→V→V→Option Bool
 | 0,_,_,_=>none
 | d+1,t,x,y=>
   match P.underlying t with
   | some .bool=>match x,y with
     | .bool a,.bool b=>some (a == b)
     | _,_=>none
   | some (.int _)=>match x,y with
     | .int k a,.int k' b=>if k=k' then some (a == b) else none
     | _,_=>none
   | some .string=>match x,y with
     | .str a,.str b=>some (beqB a b)
     | _,_=>none
   | some (.pointer el)=>match x,y with
     | .ptr none,.ptr b=>some b.isNone
     | .ptr (some _),.ptr none=>some false
     | .ptr (some (m,o)),.ptr (some (m',o'))=>if (m=m'∧o=o')∧(szof P el).isSome=true then some true else none
     | .ptr none,.fptr _=>some false
     | .fptr _,.ptr none=>some false
     | _,_=>none
   | some (.interface _)=>match x,y with
     | .nilIface,.nilIface=>some true
     | .nilIface,.iface _ _=>some false
     | .iface _ _,.nilIface=>some false
     | _,_=>none
   | some (.struct fields)=>match x,y with
     | .agg xs,.agg ys=>if P.stoodInHeld t then none else eqFields P (fun u a b=>eqV P d u a b) fields.toList xs ys
     | _,_=>none
   | some (.slice _)=>match x,y with
     | .slc none _ _ _,.slc b _ _ _=>some b.isNone
     | .slc (some _) _ _ _,.slc none _ _ _=>some false
     | .lst _ n _,.slc none _ _ _=>match n with
       | _+1=>some false
       | 0=>none
     | _,_=>none
   | some (.map _ _)=>match x,y with
     | .map none,.map b=>some b.isNone
     | .map (some _),.map none=>some false
     | _,_=>none
   | some (.array n e)=>match x,y with
     | .agg xs,.agg ys=>match (P.info? e).isSome with
       | true=>eqItemsV P (eqV P d e) e (P.cellsOf e) xs ys (List.range n)
       | false=>none
     | _,_=>none
   | _=>none
def isLit:Operand→Bool
 | .const _=>true
 | _=>false
def eqOp (P:Program) (t:TypeId) (x y:Operand) (a b:V):Option Bool:=
 match a,b with
 | .nilIface,.nilIface=>if isLit x || isLit y then eqV P 10000 t a b else none
 | .agg _,.agg _=>if P.eqGuardType P.depth t then none else eqV P 10000 t a b
 | _,_=>eqV P 10000 t a b
def binV (P:Program) (op:BinOp) (t:TypeId) (x y:Operand) (a b:V):Option V:=
 match a,b with
 | .int k m,.int k' n=>pureSem (binOp op t (.int k m) (.int k' n))
 | .str s,.str u=>strOp op s u
 | a,b=>match op with
   | .eql=>(eqOp P t x y a b).map .bool
   | .neq=>(eqOp P t x y a b).map fun r=>.bool (!r)
   | _=>none
def unV (op:UnOp):V→Option V
 | .int k n=>pureSem (Op.unary op (.int k n))
 | .bool b=>pureSem (Op.unary op (.bool b))
 | _=>none
def bytesV (s:List UInt8):List V:=s.map fun b=>.int .u8 b.toNat
def bytesI (s:List UInt8):List Int:=s.map fun b=>(b.toNat:Int)
def strI (ks:List Int):List UInt8:=ks.map fun n=>UInt8.ofNat n.toNat
def bufRow:Option O→Option (List UInt8)
 | some (.buf _ _ s)=>some s
 | _=>none
def u8Row:Option O→Option (List Int)
 | some (.own .u8 ks)=>some ks
 | some (.ints .u8 ks)=>some ks
 | _=>none
def toBytes:List V→Option (List UInt8)
 | []=>some []
 | .int .u8 n :: vs=>match toBytes vs with
   | some bs=>some (UInt8.ofNat n.toNat :: bs)
   | none=>none
 | _ :: _=>none
def convV (P:Program) (src dst:TypeId) (v:V) (h:Tr O) (n:Nat):Option R:=
 match P.underlying src,P.underlying dst,v with
 | some _,some (.int k),.int _ m=>some (.val (.int k (k.wrap m)) h n)
 | some _,some .string,.str s=>some (.val (.str s) h n)
 | some .string,some (.slice e),.str s=>
   match P.underlying e with
   | some (.int .u8)=>match newObj h n (.own .u8 (bytesI s)) with
     | some (h',n')=>some (.val (.slc (some (n,0)) s.length s.length 1) h' n')
     | none=>none
   | _=>none
 | some (.slice e),some .string,.lst _ 0 _=>
   match P.underlying e with
   | some (.int .u8)=>some (.val (.str []) h n)
   | _=>none
 | some (.slice e),some .string,.slc none _ _ _=>
   match P.underlying e with
   | some (.int .u8)=>some (.val (.str []) h n)
   | _=>none
 | some (.slice e),some .string,.slc (some (m,o)) len _ esz=>
   match P.underlying e with
   | some (.int .u8)=>if esz=1 then (match bufRow (h.get m) with
     | some s0=>if len=0 ∨ o+len ≤ s0.length then some (.val (.str ((s0.drop o).take len)) h n) else none
     | none=>match u8Row (h.get m) with
     | some ks=>if len=0 ∨ o+len ≤ ks.length then some (.val (.str (strI ((ks.drop o).take len))) h n) else none
     | none=>match len with
     | 0=>some (.val (.str []) h n)
     | _=>match h.get m with
       | some (.cells cs)=>match cut cs o len with
         | some bs=>match toBytes bs with
           | some s=>some (.val (.str s) h n)
           | none=>none
         | none=>none
       | _=>none) else none
   | _=>none
 | _,_,_=>none
def repI (ks:List Int):Nat→List Int
 | 0=>[]
 | n+1=>ks ++ repI ks n
def repD (ks:List D):Nat→List D
 | 0=>[]
 | n+1=>ks ++ repD ks n
def zeroRow (z:List V) (n:Nat):Row:=match z with
 | .int k x :: r=>match intsOf k (.int k x :: r) with
   | some ks=>.is k (repI ks n)
   | none=>match deepsOf (.int k x :: r) with
     | some ds=>.ds (repD ds n)
     | none=>.vs (repeatV (.int k x :: r) n)
 | z=>match deepsOf z with
   | some ds=>.ds (repD ds n)
   | none=>.vs (repeatV z n)
def makeSliceV (P:Program) (t:TypeId) (l c:V) (h:Tr O) (n:Nat):Option R:=
 match elemT P t,l,c with
 | some e,.int _ l,.int _ c=>
   match P.info? e,zeroOf P e with
   | some i,some z=>
     let l':=IntKind.i64.wrap l
     let c':=IntKind.i64.wrap c
     if 0 < i.size∧z.cells.length=i.size∧0 ≤ l'∧l' ≤ c'∧i.bytes * c' ≤ 281474976710656 then
      match newObj h n (zeroRow z.cells c'.toNat).toO with
      | some (h',n')=>some (.val (.slc (some (n,0)) l'.toNat c'.toNat i.size) h' n')
      | none=>none
     else none
   | _,_=>none
 | _,_,_=>none
def boundV (dflt:Nat) (y:Nat):Option V→Option Nat
 | none=>some dflt
 | some (.int _ i)=>if 0 ≤ i∧i ≤ y then some i.toNat else none
 | some _=>none
def liveRow (h:Tr O) (m k:Nat):Bool:=
 match h.get m with
 | some (.cells cs)=>decide (k ≤ cs.length)
 | _=>false
def sliceV (P:Program) (t:TypeId) (hp:Tr O) (x:V) (lo hi mx:Option V):Option V:=
 if mx.isSome=true∧hi.isSome=false then none else
 match P.underlying t,x with
 | some .string,.str s=>
   match mx with
   | some _=>none
   | none=>match boundV s.length s.length hi with
     | some h=>match boundV 0 h lo with
       | some l=>some (.str ((s.take h).drop l))
       | none=>none
     | none=>none
 | some (.slice e),.slc a len cap esz=>
   match szof P e with
   | some s=>if s=esz ∨ a=none then
      match boundV cap cap mx with
      | some m=>match boundV len m hi with
        | some h=>match boundV 0 h lo with
          | some l=>some (.slc (match a with | none=>none | some (b,o)=>some (b,o+l * esz)) (h - l) (m - l) esz)
          | none=>none
        | none=>none
      | none=>none
     else none
   | none=>none
 | some (.slice e),.lst f len cs=>
   match szof P e with
   | some s=>if cs.length=len * s then
      match mx with
      | none=>match boundV len len hi with
        | some h=>match boundV 0 h lo with
          | some l=>some (.lst (f && !hi.isSome) (h - l) ((cs.drop (l * s)).take ((h - l) * s)))
          | none=>none
        | none=>none
      | some m=>match boundV len len (some m) with
        | some m=>match boundV len m hi with
          | some h=>match boundV 0 h lo with
            | some l=>if h=m then some (.lst true (h - l) ((cs.drop (l * s)).take ((h - l) * s))) else none
            | none=>none
          | none=>none
        | none=>none
     else none
   | none=>none
 | some (.array n e),.ptr (some (b,o))=>
   match szof P e with
   | some s=>
     match boundV n n mx with
     | some m=>match boundV n m hi with
       | some h=>match boundV 0 h lo with
         | some l=>if 0 < s∧0 < n∧liveRow hp b (o+n * s)=true then some (.slc (some (b,o+l * s)) (h - l) (m - l) s) else none
         | none=>none
       | none=>none
     | none=>none
   | none=>none
 | _,_=>none
def fieldAddrV (P:Program) (t:TypeId) (f:Nat):V→Option V
 | .ptr (some (m,o))=>match P.underlying t with
   | some (.struct fs)=>match fs[f]? with
     | some fd=>match szof P fd.type with
       | some (_+1)=>some (.ptr (some (m,o+fd.offset)))
       | _=>none
     | none=>none
   | _=>none
 | .fptr cs=>match P.underlying t with
   | some (.struct fs)=>match fs[f]? with
     | some fd=>match szof P fd.type with
       | some (_+1)=>some (.fptr (cs.drop fd.offset))
       | _=>none
     | none=>none
   | _=>none
 | _=>none
def fieldV (P:Program) (t:TypeId) (f:Nat):V→Option V
 | .agg cs=>match P.underlying t with
   | some (.struct fs)=>match fs[f]? with
     | some fd=>partV P fd.type cs fd.offset
     | none=>none
   | _=>none
 | _=>none
def indexAddrV (P:Program) (t:TypeId) (x ix:V):Option V:=
 match ix with
 | .int _ i=>
   match P.underlying t,x with
   | some (.array len e),.ptr (some (m,o))=>
     match szof P e with
     | some s=>if 0 ≤ i∧i < len then some (.ptr (some (m,o+i.toNat * s))) else none
     | none=>none
   | some (.slice e),.slc (some (m,o)) len _ esz=>
     match szof P e with
     | some s=>if 0 ≤ i∧i < len∧s=esz then some (.ptr (some (m,o+i.toNat * s))) else none
     | none=>none
   | some (.slice e),.lst _ len cs=>
     match szof P e with
     | some s=>if (0 ≤ i∧i < len)∧cs.length=len * s then some (.fptr ((cs.drop (i.toNat * s)).take s)) else none
     | none=>none
   | some (.array len e),.fptr cs=>
     match szof P e with
     | some s=>if 0 ≤ i∧i < len then some (.fptr (cs.drop (i.toNat * s))) else none
     | none=>none
   | _,_=>none
 | _=>none
def indexV (P:Program) (t:TypeId) (x ix:V):Option V:=
 match ix with
 | .int _ i=>
   match P.underlying t,x with
   | some (.array len e),.agg cs=>
     match szof P e with
     | some s=>if 0 ≤ i∧i < len then partV P e cs (i.toNat * s) else none
     | none=>none
   | some .string,.str s=>
     if 0 ≤ i then (match s[i.toNat]? with
      | some b=>some (.int .u8 b.toNat)
      | none=>none) else none
   | _,_=>none
 | _=>none
def keyEq:TypeDesc→V→V→Option Bool
 | .int _,.int k a,.int k' b=>if k=k' then some (a == b) else none
 | .string,.str a,.str b=>some (beqB a b)
 | _,_,_=>none
def keyEqD:D→D→Bool
 | .int k a,.int k' b=>decide (k=k') && decide (a=b)
 | .str a,.str b=>beqB a b
 | _,_=>false
def keyKd:Option IntKind→D→Bool
 | some k,.int k' _=>decide (k'=k)
 | none,.str _=>true
 | _,_=>false
def descKd:TypeDesc→Option IntKind→Bool
 | .int k,some k'=>decide (k=k')
 | .string,none=>true
 | _,_=>false
def lookD (k:D):List (D × D)→Option D
 | []=>none
 | e :: es=>match keyEqD k e.1 with
   | true=>some e.2
   | false=>lookD k es
def updD (k v:D):List (D × D)→List (D × D)
 | []=>[(k,v)]
 | e :: es=>match keyEqD k e.1 with
   | true=>(k,v) :: es
   | false=>e :: updD k v es
def delD (k:D):List (D × D)→List (D × D)
 | []=>[]
 | e :: es=>match keyEqD k e.1 with
   | true=>es
   | false=>e :: delD k es
def D.valV (z:V):Option D→V
 | some d=>d.toV
 | none=>z
def keyOf:V→Option D
 | .int k n=>some (.int k n)
 | .str s=>some (.str s)
 | _=>none
def findV (kd:TypeDesc) (k:V):List (V × V × Nat)→Nat→Option (Option (Nat × V × V × Nat))
 | [],_=>some none
 | e :: es,i=>
   match keyEq kd k e.1 with
   | some true=>some (some (i,e))
   | some false=>findV kd k es (i+1)
   | none=>none
def keyOk:TypeDesc→V→Bool
 | .int _,.int _ _=>true
 | .string,.str _=>true
 | _,_=>false
def V.mapIn (h:Tr O):V→Option O
 | .map (some r)=>h.get r
 | _=>none
def lookupV (P:Program) (t:TypeId) (h:Tr O) (x k:V) (ok:Bool):Option V:=
 match P.underlying t with
 | some (.map kt et)=>match P.underlying kt,zeroOf P et with
   | some kd,some z=>
     match x,x.mapIn h with
     | .map (some _),some (.mapD kk es)=>match keyOf k with
       | some k=>if descKd kd kk && keyKd kk k then some (if ok then .tup [D.valV z (lookD k es),.bool (lookD k es).isSome] else D.valV z (lookD k es)) else none
       | none=>none
     | x,_=>
     if keyOk kd k then
      match (match x with
       | .map none=>some []
       | .map (some r)=>(match h.get r with
         | some (.map es _)=>some es
         | _=>none)
       | _=>none:Option (List (V × V × Nat))) with
      | some es=>match findV kd k es 0 with
        | some (some (_,_,v,_))=>some (if ok then .tup [v,.bool true] else v)
        | some none=>some (if ok then .tup [z,.bool false] else z)
        | none=>none
      | none=>none
     else none
   | _,_=>none
 | _=>none
def setNth {α:Type}:List α→Nat→(α→α)→List α
 | [],_,_=>[]
 | x :: xs,0,f=>f x :: xs
 | x :: xs,i+1,f=>x :: setNth xs i f
def mapUpdateV (P:Program) (t:TypeId) (h:Tr O) (n:Nat) (m k v:V):Option R:=
 match P.underlying t,m with
 | some (.map kt _),.map (some r)=>match P.underlying kt,h.get r with
   | some kd,some (.map es clock)=>
     if keyOk kd k∧r < top then
      match findV kd k es 0 with
      | some (some (i,_))=>some (.val (.tup []) (h.set r (some (.map (setNth es i fun e=>(k,v,e.2.2)) clock))) n)
      | some none=>some (.val (.tup []) (h.set r (some (.map (es ++ [(k,v,clock)]) (clock+1)))) n)
      | none=>none
     else none
   | some kd,some (.mapD kk es)=>match keyOf k,V.toD v with
     | some k,some v=>if descKd kd kk && (keyKd kk k && decide (r < top)) then some (.val (.tup []) (h.set r (some (.mapD kk (updD k v es)))) n) else none
     | _,_=>none
   | _,_=>none
 | _,_=>none
def deleteV (P:Program) (argTypes:Array TypeId) (args:List V) (h:Tr O) (n:Nat):Option R:=
 match argTypes[0]?,args with
 | some t,[.map (some r),k]=>match P.underlying t with
   | some (.map kt _)=>match P.underlying kt,h.get r,keyOf k with
     | some kd,some (.mapD kk es),some k=>if descKd kd kk && (keyKd kk k && decide (r < top)) then some (.val (.tup []) (h.set r (some (.mapD kk (delD k es)))) n) else none
     | _,_,_=>none
   | _=>none
 | _,_=>none
def mapEntryV (P:Program) (t:TypeId) (h:Tr O) (n:Nat) (m k:V):Option R:=
 match P.underlying t,m with
 | some (.map kt et),.map (some r)=>match P.underlying kt,h.get r,zeroOf P et with
   | some kd,some (.map es clock),some z=>
     if keyOk kd k∧r < top then
      match findV kd k es 0 with
      | some (some (i,e))=>some (.val (.tup [e.2.1,.int .i64 e.2.2]) (h.set r (some (.map (setNth es i fun e=>(k,e.2.1,e.2.2)) clock))) n)
      | some none=>some (.val (.tup [z,.int .i64 clock]) (h.set r (some (.map (es ++ [(k,z,clock)]) (clock+1)))) n)
      | none=>none
     else none
   | _,_,_=>none
 | _,_=>none
def bornAt (b:Int):List (V × V × Nat)→Nat→Option Nat
 | [],_=>none
 | e :: es,i=>if (e.2.2:Int) == b then some i else bornAt b es (i+1)
def entryStoreV (h:Tr O) (n:Nat) (m stamp v:V):Option R:=
 match m,stamp with
 | .map (some r),.int _ b=>match h.get r with
   | some (.map es clock)=>
     if r < top then
      match bornAt b es 0 with
      | some i=>some (.val (.tup []) (h.set r (some (.map (setNth es i fun e=>(e.1,v,e.2.2)) clock))) n)
      | none=>none
     else none
   | _=>none
 | _,_=>none
def typeAssertV (P:Program) (x:V) (asserted:TypeId) (ok:Bool):Option V:=
 match P.underlying asserted,x with
 | some (.interface _),_=>none
 | some _,.nilIface=>if ok then (match zeroOf P asserted with | some z=>some (.tup [z,.bool false]) | none=>none) else none
 | some _,.iface t v=>if t=asserted then some (if ok then .tup [v,.bool true] else v)
   else if ok then (match zeroOf P asserted with | some z=>some (.tup [z,.bool false]) | none=>none) else none
 | _,_=>none
def tailCells (h:Tr O) (size:Nat):V→Option (Nat × Row)
 | .slc none len _ _=>if len=0 then some (0,.vs []) else none
 | .slc (some (m,o)) len _ esz=>if esz=size then (match len with
   | 0=>some (0,.vs [])
   | _=>match h.get m with
     | some ob=>match ob.rowR with
       | some r=>match r.cut o (len * size) with
         | some r=>some (len,r)
         | none=>none
       | none=>none
     | none=>none) else none
 | .str s=>if size=1 then some (s.length,.is .u8 (bytesI s)) else none
 | .lst _ len cs=>if cs.length=len * size then some (len,.ds cs) else none
 | _=>none
def bytesOfV:List V→Option (List UInt8)
 | []=>some []
 | .int .u8 x :: r=>match bytesOfV r with
   | some l=>some (UInt8.ofNat x.toNat :: l)
   | none=>none
 | _ :: _=>none
def rowBytes:Row→Option (List UInt8)
 | .is .u8 ks=>some (strI ks)
 | .vs cs=>bytesOfV cs
 | _=>none
def nilRow (e:TypeId) (x:V) (new:Row):O:=match x with
 | .str t=>.buf e false t
 | _=>new.toO
def roomy (need size bytes:Nat):Bool:=decide (need * bytes ≤ 281474976710∧need * size ≤ 281474976710)
def isSeqT:TypeDesc→Bool
 | .slice _=>true
 | .string=>true
 | _=>false
def appendV (P:Program) (argTypes:Array TypeId) (args:List V) (h:Tr O) (n:Nat):Option R:=
 match argTypes[0]?,argTypes[1]?,args with
 | some st,some xt,[s,x]=>
   match elemT P st,P.underlying xt with
   | some e,some xd=>
     match isSeqT xd,P.info? e,zeroOf P e with
     | true,some i,some z=>
       if 0 < i.size∧0 < i.bytes∧z.cells.length=i.size then
        match tailCells h i.size x with
        | some (k,new)=>
          if new.flat=true then
          match s with
          | .slc none 0 _ _=>
            match k with
            | 0=>some (.val (.slc none 0 0 0) h n)
            | _=>if roomy k i.size i.bytes then (match newObj h n (nilRow e x new) with
              | some (h',n')=>some (.val (.slc (some (n,0)) k k i.size) h' n')
              | none=>none) else none
          | .lst true len cs=>
            match k with
            | 0=>some (.val (.lst true len cs) h n)
            | _=>if roomy (len+k) i.size i.bytes∧cs.length=len * i.size then (match newObj h n ((Row.ds cs).app new).toO with
              | some (h',n')=>some (.val (.slc (some (n,0)) (len+k) (len+k) i.size) h' n')
              | none=>none) else none
          | .slc (some (m,o)) len cap esz=>
            if esz=i.size∧roomy (len+k) i.size i.bytes∧m < top then
             match h.get m with
             | some (.buf el fro s0)=>match rowBytes new with
               | some t=>if (o=0∧0 < cap)∧(len ≤ s0.length∧(fro=true→len=s0.length))∧(i.size=1∧el=e) then (match newObj (h.set m none) n (.buf el fro (s0.take len ++ t)) with
                 | some (h',n')=>some (.val (.slc (some (n,0)) (len+k) (len+k) esz) h' n')
                 | none=>none) else none
               | none=>none
             | some ob=>match ob.row with
               | some r=>
                 match (if r.soft=false∧len=0 then some (.vs []) else r.cut o (len * i.size):Option Row) with
                 | some old=>
                   if new.soft=false∧k=0 then some (.val s h n)
                   else match newObj (h.set m none) n (old.app new).toO with
                    | some (h',n')=>some (.val (.slc (some (n,0)) (len+k) (len+k) esz) h' n')
                    | none=>none
                 | none=>none
               | none=>none
             | _=>none
            else none
          | _=>none
          else none
        | none=>none
       else none
     | _,_,_=>none
   | _,_=>none
 | _,_,_=>none
def lenV (P:Program) (argTypes:Array TypeId) (args:List V) (h:Tr O):Option V:=
 match argTypes[0]?,args with
 | some t,[x]=>match P.underlying t,x with
   | some .string,.str s=>some (.int .i64 s.length)
   | some (.array n _),_=>some (.int .i64 n)
   | some (.slice _),.slc _ len _ _=>some (.int .i64 len)
   | some (.slice _),.lst _ len _=>some (.int .i64 len)
   | some (.map _ _),.map none=>some (.int .i64 0)
   | some (.map _ _),.map (some r)=>match h.get r with
     | some (.map es _)=>some (.int .i64 es.length)
     | some (.mapD _ es)=>some (.int .i64 es.length)
     | _=>none
   | _,_=>none
 | _,_=>none
def rangeV (P:Program) (t:TypeId) (x:V) (h:Tr O) (n:Nat):Option R:=
 match P.underlying t,x with
 | some .string,.str s=>match newObj h n (.siter s 0) with
   | some (h',n')=>some (.val (.ptr (some (n,0))) h' n')
   | none=>none
 | _,_=>none
def nextV (x:V) (isString:Bool) (h:Tr O) (n:Nat):Option R:=
 match x,isString with
 | .ptr (some (m,0)),true=>match h.get m with
   | some (.siter s pos)=>
     if pos < s.length then
      let cw:=Utf8.decode ⟨s.toArray⟩ pos
      if m < top then some (.val (.tup [.bool true,.int .i64 pos,.int .i32 cw.1]) (h.set m (some (.siter s (pos+cw.2)))) n) else none
     else some (.val (.tup [.bool false]) h n)
   | _=>none
 | _,_=>none
def maxV:V→List V→Option V
 | x,[]=>some x
 | .int k a,.int _ b :: vs=>maxV (.int k (if b > a then b else a)) vs
 | _,_=>none
def minV:V→List V→Option V
 | x,[]=>some x
 | .int k a,.int _ b :: vs=>minV (.int k (if b < a then b else a)) vs
 | _,_=>none
def gptr:List (Nat × Nat)→Nat→Option V
 | [],_=>none
 | p :: r,g=>match Nat.beq p.1 g with
   | true=>some (.ptr (some (p.2,0)))
   | false=>gptr r g
def opd (fr:Tr V):Operand→Option V
 | .tmp t=>fr.get t
 | .const v=>ofVal v
 | .func f=>some (.fn (.func f) [] [])
 | .global g=>gptr gtab g
def opds (fr:Tr V):List Operand→Option (List V)
 | []=>some []
 | x :: xs=>match opd fr x with
   | some v=>match opds fr xs with
     | some vs=>some (v :: vs)
     | none=>none
   | none=>none
def opdOpt (fr:Tr V):Option Operand→Option (Option V)
 | none=>some none
 | some x=>match opd fr x with
   | some v=>some (some v)
   | none=>none
def opdParts (fr:Tr V):List (Nat × Operand)→Option (List (Nat × V))
 | []=>some []
 | (i,x) :: xs=>match opd fr x with
   | some v=>match opdParts fr xs with
     | some vs=>some ((i,v) :: vs)
     | none=>none
   | none=>none
def callee (P:Program) (f:FuncId):Bool:=
 match P.funcs[f]? with
 | some fn=>fn.body.isSome && fn.name != "runtime.NumGoroutine"
 | none=>false
def builtinV (P:Program) (b:Builtin) (argTypes:Array TypeId) (args:List V) (h:Tr O) (n:Nat):Option R:=
 match b with
 | .append=>if argTypes.size=2 then appendV P argTypes args h n else none
 | .len=>okV h n (lenV P argTypes args h)
 | .max=>match args with
   | x :: xs=>okV h n (maxV x xs)
   | []=>none
 | .min=>match args with
   | x :: xs=>okV h n (minV x xs)
   | []=>none
 | .panic=>match args with
   | [.iface t v]=>some (.panic (.iface t v))
   | _=>none
 | .recover=>some .recover
 | .unsafeSliceData=>match args with
   | [.slc (some (m,o)) _ cap _]=>if 0 < cap then some (.val (.ptr (some (m,o))) h n) else none
   | [.slc none _ _ _]=>some (.val (.ptr none) h n)
   | _=>none
 | .unsafeString=>match argTypes[0]?,args with
   | some pt,[.ptr (some (m,0)),.int .i64 l]=>match P.underlying pt,h.get m with
     | some (.pointer e),some (.buf el _ s)=>if (l=s.length∧0 < s.length)∧(el=e∧P.cellsOf e=1)∧(m < top∧argTypes.size=2∧s.length ≤ intMax) then some (.val (.str s) (h.set m (some (.buf el true s))) n) else none
     | _,_=>none
   | some _,[.ptr none,.int .i64 l]=>if l=0∧argTypes.size=2 then some (.val (.str []) h n) else none
   | _,_=>none
 | .delete=>if argTypes.size=2 then deleteV P argTypes args h n else none
 | _=>none
def callV (P:Program) (fr:Tr V) (c:Call) (h:Tr O) (n:Nat):Option R:=
 match opds fr c.args.toList with
 | some args=>match c.callee with
   | .builtin b=>builtinV P b c.argTypes args h n
   | .invoke _ _=>none
   | .value f=>match opd fr f with
     | some (.fn (.func g) first captured)=>if callee P g then some (.call g (first ++ args ++ captured)) else none
     | some (.fn (.yield m) [] [])=>match h.get m with
       | some (.loop _ _ _ ps _ _)=>if ps.length=args.length then some (.call (P.funcs.size+m) args) else none
       | _=>none
     | _=>none
 | none=>none
def deferV (fr:Tr V) (c:Call):Option R:=
 match opds fr c.args.toList with
 | some args=>match c.callee with
   | .value f=>match opd fr f with
     | some (.fn (.func g) first captured)=>some (.dfr g captured (first ++ args))
     | _=>none
   | _=>none
 | none=>none
def noYield:Fn→Bool
 | .yield _=>false
 | _=>true
def stepOp (P:Program) (o:Oper) (fr:Tr V) (h:Tr O) (n:Nat):Option R:=
 match o.op with
 | .move x=>okV h n (opd fr x)
 | .assign x=>okV h n (opd fr x)
 | .pick c a b=>match opd fr c with
   | some (.bool true)=>okV h n (opd fr a)
   | some (.bool false)=>okV h n (opd fr b)
   | _=>none
 | .alloc e=>match zeroOf P e with
   | some z=>match newObj h n (allocO P e z) with
     | some (h',n')=>some (.val (.ptr (some (n,0))) h' n')
     | none=>none
   | none=>none
 | .box _ x=>match opd fr x with
   | some v=>match newObj h n (.cells v.cells) with
     | some (h',n')=>some (.val (.ptr (some (n,0))) h' n')
     | none=>none
   | none=>none
 | .build t parts=>match opdParts fr parts.toList with
   | some ps=>okV h n (buildV P t ps)
   | none=>none
 | .buildSlice t len parts=>match opdParts fr parts.toList with
   | some ps=>buildSliceV P t len ps h n
   | none=>none
 | .load t a=>match opd fr a with
   | some v=>okV h n (loadAt P t h v)
   | none=>none
 | .store t a x=>match opd fr a,opd fr x with
   | some av,some xv=>match storeAt P t h xv av with
     | some h'=>some (.val (.tup []) h' n)
     | none=>none
   | _,_=>none
 | .nilCheck x=>match opd fr x with
   | some (.ptr (some p))=>some (.val (.ptr (some p)) h n)
   | some (.fptr cs)=>some (.val (.fptr cs) h n)
   | some (.fn (.func f) a c)=>some (.val (.fn (.func f) a c) h n)
   | some (.iface t v)=>some (.val (.iface t v) h n)
   | _=>none
 | .binOp op t x y _=>match opd fr x,opd fr y with
   | some a,some b=>okV h n (binV P op t x y a b)
   | _,_=>none
 | .unOp op _ x=>match opd fr x with
   | some v=>okV h n (unV op v)
   | none=>none
 | .convert src dst x=>match opd fr x with
   | some v=>convV P src dst v h n
   | none=>none
 | .makeInterface t x=>match opd fr x,P.underlying t with
   | some v,some d=>match d with
     | .interface _=>none
     | _=>some (.val (.iface t v) h n)
   | _,_=>none
 | .makeFunc f first captured=>match opds fr first.toList,opds fr captured.toList with
   | some a,some c=>if noYield f=true then some (.val (.fn f a c) h n) else none
   | _,_=>none
 | .makeMap _ none=>match newObj h n (.map [] 0) with
   | some (h',n')=>some (.val (.map (some n)) h' n')
   | none=>none
 | .makeSlice t l c=>match opd fr l,opd fr c with
   | some l,some c=>makeSliceV P t l c h n
   | _,_=>none
 | .slice t x lo hi mx=>match opd fr x,opdOpt fr lo,opdOpt fr hi,opdOpt fr mx with
   | some v,some lo,some hi,some mx=>okV h n (sliceV P t h v lo hi mx)
   | _,_,_,_=>none
 | .fieldAddr t x f=>match opd fr x with
   | some v=>okV h n (fieldAddrV P t f v)
   | none=>none
 | .field t x f=>match opd fr x with
   | some v=>okV h n (fieldV P t f v)
   | none=>none
 | .indexAddr t x i=>match opd fr x,opd fr i with
   | some v,some i=>okV h n (indexAddrV P t v i)
   | _,_=>none
 | .index t x i=>match opd fr x,opd fr i with
   | some v,some i=>okV h n (indexV P t v i)
   | _,_=>none
 | .lookup t x k ok=>match opd fr x,opd fr k with
   | some x,some k=>okV h n (lookupV P t h x k ok)
   | _,_=>none
 | .mapUpdate t m k v=>match opd fr m,opd fr k,opd fr v with
   | some m,some k,some v=>mapUpdateV P t h n m k v
   | _,_,_=>none
 | .insert t m k v=>match opd fr m,opd fr k,opd fr v with
   | some m,some k,some v=>mapUpdateV P t h n m k v
   | _,_,_=>none
 | .mapEntry t m k=>match opd fr m,opd fr k with
   | some m,some k=>mapEntryV P t h n m k
   | _,_=>none
 | .entryStore _ m s v=>match opd fr m,opd fr s,opd fr v with
   | some m,some s,some v=>entryStoreV h n m s v
   | _,_,_=>none
 | .typeAssert x _ t ok=>match opd fr x with
   | some v=>okV h n (typeAssertV P v t ok)
   | none=>none
 | .extract x i=>match opd fr x with
   | some (.tup vs)=>okV h n (vs[i]?)
   | _=>none
 | .range t x=>match opd fr x with
   | some v=>rangeV P t v h n
   | none=>none
 | .next it b=>match opd fr it with
   | some v=>nextV v b h n
   | none=>none
 | .panic x=>match opd fr x with
   | some (.iface t v)=>some (.panic (.iface t v))
   | _=>none
 | .call c=>callV P fr c h n
 | .defer c=>deferV fr c
 | _=>none
structure St where
 fr:Tr V
 h:Tr O
 n:Nat
 dfs:List (FuncId × List V × List V)
 deriving Inhabited
inductive X where
 | normal
 | exit (id:Nat)
 | ret
 | panic (v:V)
inductive Out where
 | ret (v:V)
 | pan (v:V)
abbrev CallF:=FuncId→List V→Tr O→Nat→Option (Out × Tr O × Nat)
def putD (fr:Tr V) (dst:Option Nat) (v:V):Option (Tr V):=
 match dst with
 | none=>some fr
 | some d=>if d < top then some (fr.set d (some v)) else none
def wantedV (ops:Array Oper) (o:Oper) (fr:Tr V):Option Bool:=
 match o.guard with
 | none=>some true
 | some (j,want)=>match ops[j]? with
   | some q=>match q.dst with
     | some d=>match fr.get d with
       | some (.bool b)=>some (b == want)
       | some (.tup [])=>some false
       | _=>none
     | none=>none
   | none=>none
def lost {α:Type} (_:Nat):Option α:=none
def miss {α:Type} (_:Oper):Option α:=none
def opPlain:Op→Bool
 | .defer _=>false
 | _=>true
def seqOps (P:Program) (cf:CallF) (ops:Array Oper):List Oper→St→Option (X × St)
 | [],s=>some (.normal,s)
 | o :: rest,s=>
   match wantedV ops o s.fr with
   | some false=>match putD s.fr o.dst (.tup []) with
     | some fr=>seqOps P cf ops rest { s with fr:=fr }
     | none=>none
   | some true=>match stepOp P o s.fr s.h s.n with
     | some (.val v h n)=>match putD s.fr o.dst v with
       | some fr=>seqOps P cf ops rest { s with fr:=fr,h:=h,n:=n }
       | none=>none
     | some (.call f args)=>match cf f args s.h s.n with
       | some (.ret v,h,n)=>match putD s.fr o.dst v with
         | some fr=>seqOps P cf ops rest { s with fr:=fr,h:=h,n:=n }
         | none=>none
       | some (.pan v,h,n)=>some (.panic v,{ s with h:=h,n:=n })
       | none=>none
     | some (.dfr f c args)=>if f < top∧opPlain o.op=false then (match putD s.fr o.dst (.tup []) with
       | some fr=>seqOps P cf ops rest { s with fr:=fr,dfs:=(f,c,args) :: s.dfs }
       | none=>none) else miss o
     | some (.panic v)=>some (.panic v,s)
     | some .recover=>none
     | none=>miss o
   | none=>miss o
def beqAddr:Option (Nat × Nat)→Option (Nat × Nat)→Bool
 | none,none=>true
 | some (a,b),some (c,d)=>Nat.beq a c && Nat.beq b d
 | _,_=>false
def beqNat? :Option Nat→Option Nat→Bool
 | none,none=>true
 | some a,some b=>Nat.beq a b
 | _,_=>false
def beqFn:Fn→Fn→Bool
 | .func a,.func b=>Nat.beq a b
 | .yield a,.yield b=>Nat.beq a b
 | _,_=>false
mutual
def D.beq:D→D→Bool
 | .bool a,.bool b=>a == b
 | .int k a,.int j b=>decide (k=j) && decide (a=b)
 | .str a,.str b=>beqB a b
 | .lst n a,.lst m b=>Nat.beq n m && D.beqs a b
 | .agg a,.agg b=>D.beqs a b
 | _,_=>false
def D.beqs:List D→List D→Bool
 | [],[]=>true
 | a :: x,b :: y=>D.beq a b && D.beqs x y
 | _,_=>false
end
mutual
def V.beq:V→V→Bool
 | .bool a,.bool b=>a == b
 | .int k a,.int j b=>decide (k=j) && decide (a=b)
 | .str a,.str b=>beqB a b
 | .ptr a,.ptr b=>beqAddr a b
 | .slc a l c e,.slc a' l' c' e'=>beqAddr a a' && Nat.beq l l' && Nat.beq c c' && Nat.beq e e'
 | .map a,.map b=>beqNat? a b
 | .fn f a c,.fn g b d=>beqFn f g && V.beqs a b && V.beqs c d
 | .nilFn,.nilFn=>true
 | .iface t x,.iface u y=>Nat.beq t u && V.beq x y
 | .nilIface,.nilIface=>true
 | .agg a,.agg b=>V.beqs a b
 | .tup a,.tup b=>V.beqs a b
 | .lst f n a,.lst g m b=>f == g && (Nat.beq n m && D.beqs a b)
 | .fptr a,.fptr b=>D.beqs a b
 | _,_=>false
def V.beqs:List V→List V→Bool
 | [],[]=>true
 | a :: x,b :: y=>V.beq a b && V.beqs x y
 | _,_=>false
end
def isEff:Op→Bool
 | .store .. | .mapUpdate .. | .insert .. | .mapEntry .. | .entryStore .. | .next .. | .defer _ | .panic _=>true
 | .call { callee:=.builtin b,.. }=>match b with
   | .len | .max | .min=>false
   | _=>true
 | .call _=>true
 | _=>false
def isPure:Op→Bool
 | .move _ | .assign _ | .pick .. | .build .. | .nilCheck _ | .binOp .. | .unOp .. | .makeInterface .. | .makeFunc .. | .fieldAddr .. | .field ..
 | .indexAddr .. | .index .. | .typeAssert .. | .extract ..=>true
 | _=>false
structure Dr where
 fr:Tr V
 masks:List Nat
 cur:Nat × Tr O
 hist:List (Nat × Nat × Tr O)
 last:Option Nat
 allocs:List (Nat × O)
 reads:List (Nat × Nat × Oper × Tr V × V)
 n:Nat
def hasBit (m i:Nat):Bool:=Nat.testBit m i
def view (n0:Nat):List (Nat × O)→Nat→Tr O→Nat→Tr O
 | [],_,x,_=>x
 | (i,o) :: r,m,x,anc=>if hasBit anc i && !hasBit m i then (view n0 r m x anc).set (n0+i) (some o) else view n0 r m x anc
def maskOf (masks:List Nat):List Edge→Nat
 | []=>0
 | e :: es=>if Region.binds .any e then maskOf masks es ||| (2 ^ e.on ||| masks.getD e.on 0) else maskOf masks es
def readsSame (P:Program) (n0 i:Nat) (o:Oper) (fr:Tr V) (v:V) (x:Tr O):Bool:=
 match stepOp P o fr x (n0+i) with
 | some (.val u _ k)=>Nat.beq k (n0+i) && V.beq u v
 | _=>false
def histOk (P:Program) (n0 i:Nat) (o:Oper) (fr:Tr V) (v:V) (allocs:List (Nat × O)) (anc:Nat):List (Nat × Nat × Tr O)→Bool
 | []=>true
 | (e,m,x) :: r=>if hasBit anc e then true else readsSame P n0 i o fr v (view n0 allocs m x anc) && histOk P n0 i o fr v allocs anc r
def readsOk (P:Program) (n0:Nat) (allocs:List (Nat × O)) (m:Nat) (x:Tr O):List (Nat × Nat × Oper × Tr V × V)→Bool
 | []=>true
 | (j,anc,o,fr,v) :: r=>(hasBit m j || readsSame P n0 j o fr v (view n0 allocs m x anc)) && readsOk P n0 allocs m x r
def lastOk (anc:Nat):Option Nat→Bool
 | none=>true
 | some e=>hasBit anc e
def afterEff (P:Program) (n0 i anc:Nat) (o:Oper) (s:Dr) (v:V) (h:Tr O) (n:Nat):Option Dr:=
 match putD s.fr o.dst v with
 | some fr=>
   if readsOk P n0 s.allocs anc h s.reads then
    some { fr:=fr,masks:=s.masks ++ [anc],cur:=(anc,h),hist:=(i,s.cur.1,s.cur.2) :: s.hist,last:=some i,allocs:=s.allocs,reads:=s.reads,n:=n }
   else none
 | none=>none
def drawOp (P:Program) (cf:CallF) (ops:Array Oper) (n0 i:Nat) (o:Oper) (s:Dr):Option (Dr ⊕ (Tr V × V × Tr O × Nat)):=
 let anc:=maskOf s.masks o.after.toList
 match wantedV ops o s.fr with
 | some false=>match putD s.fr o.dst (.tup []) with
   | some fr=>some (.inl { s with fr:=fr,masks:=s.masks ++ [anc] })
   | none=>miss o
 | some true=>
   if isEff o.op then
    if lastOk anc s.last then
     match stepOp P o s.fr (view n0 s.allocs s.cur.1 s.cur.2 anc) s.n with
     | some (.val v h n)=>match afterEff P n0 i anc o s v h n with
       | some s'=>some (.inl s')
       | none=>miss o
     | some (.call f args)=>match cf f args (view n0 s.allocs s.cur.1 s.cur.2 anc) s.n with
       | some (.ret v,h,n)=>match afterEff P n0 i anc o s v h n with
         | some s'=>some (.inl s')
         | none=>miss o
       | some (.pan v,h,n)=>if Nat.beq (anc+1) (2 ^ i) && Nat.beq (i+1) ops.size then some (.inr (s.fr,v,h,n)) else miss o
       | none=>none
     | _=>miss o
    else miss o
   else
    let x:=view n0 s.allocs s.cur.1 s.cur.2 anc
    match stepOp P o s.fr x (n0+i) with
    | some (.val v h k)=>match putD s.fr o.dst v with
      | some fr=>
        if Nat.beq k (n0+i) then
         if isPure o.op then some (.inl { s with fr:=fr,masks:=s.masks ++ [anc] })
         else if histOk P n0 i o s.fr v s.allocs anc s.hist then
          some (.inl { s with fr:=fr,masks:=s.masks ++ [anc],reads:=(i,anc,o,s.fr,v) :: s.reads })
         else miss o
        else match h.get (n0+i) with
         | some b=>if b.wr=true then some (.inl { s with fr:=fr,masks:=s.masks ++ [anc],allocs:=(i,b) :: s.allocs }) else miss o
         | none=>miss o
      | none=>miss o
    | _=>miss o
 | none=>miss o
def drawOps (P:Program) (cf:CallF) (ops:Array Oper) (n0:Nat):List Oper→Nat→Dr→Option (Dr ⊕ (Tr V × V × Tr O × Nat))
 | [],_,s=>some (.inl s)
 | o :: r,i,s=>match drawOp P cf ops n0 i o s with
   | some (.inl s')=>drawOps P cf ops n0 r (i+1) s'
   | x=>x
def drawn (P:Program) (cf:CallF) (ops:Array Oper) (s:St):Option (X × St):=
 if s.n+ops.size < top then
  match drawOps P cf ops s.n ops.toList 0 { fr:=s.fr,masks:=[],cur:=(0,s.h),hist:=[],last:=none,allocs:=[],reads:=[],n:=s.n+ops.size } with
  | some (.inl d)=>some (.normal,{ fr:=d.fr,h:=view s.n d.allocs d.cur.1 d.cur.2 (2 ^ ops.size - 1),n:=d.n,dfs:=s.dfs })
  | some (.inr (fr,v,h,n))=>some (.panic v,{ s with fr:=fr,h:=h,n:=n })
  | none=>none
 else none
def rounds (f:St→Option (X × St)):Nat→St→Option (X × St)
 | 0,_=>lost 1
 | k+1,s=>match f s with
   | some (.normal,s')=>rounds f k s'
   | r=>r
def exec (P:Program) (cf:CallF) (F:Nat):Code→St→Option (X × St)
 | .skip,s=>some (.normal,s)
 | .region _ ops false,s=>seqOps P cf ops ops.toList s
 | .region _ ops true,s=>drawn P cf ops s
 | .seq a b,s=>match exec P cf F a s with
   | some (.normal,s')=>exec P cf F b s'
   | r=>r
 | .cond c a b,s=>match opd s.fr c with
   | some (.bool true)=>exec P cf F a s
   | some (.bool false)=>exec P cf F b s
   | _=>lost 2
 | .block id body,s=>match exec P cf F body s with
   | some (.exit id',s')=>if id'=id then some (.normal,s') else some (.exit id',s')
   | r=>r
 | .loop body,s=>rounds (exec P cf F body) F s
 | .exit id,s=>some (.exit id,s)
 | .ret,s=>some (.ret,s)
 | .rangeFunc g ps assign body,s=>match opd s.fr g with
   | some (.fn (.func gf) [] lb)=>
     if callee P gf=true∧s.n+1 < top then
      match cf gf (.fn (.yield (s.n+1)) [] [] :: lb) ((s.h.set s.n (some .dfr)).set (s.n+1) (some (.loop true none s.fr ps.toList assign body))) (s.n+2) with
      | some (.ret _,h,n)=>match h.get s.n,h.get (s.n+1) with
        | some .dfr,some (.loop true none _ _ _ _)=>some (.normal,{ s with h:=h.set (s.n+1) none,n:=n,dfs:=(top,[],[.map (some s.n)]) :: s.dfs })
        | some .dfr,some (.loop false (some .ret) _ _ _ _)=>some (.ret,{ s with h:=h.set (s.n+1) none,n:=n,dfs:=(top,[],[.map (some s.n)]) :: s.dfs })
        | some .dfr,some (.loop false (some (.exit id)) _ _ _ _)=>some (.exit id,{ s with h:=h.set (s.n+1) none,n:=n,dfs:=(top,[],[.map (some s.n)]) :: s.dfs })
        | _,_=>lost 31
      | _=>lost 32
     else lost 33
   | _=>lost 34
 | _,_=>lost 3
def frameOf:List V→Nat→Tr V→Tr V
 | [],_,t=>t
 | v :: vs,i,t=>frameOf vs (i+1) (t.set i (some v))
def resultV (P:Program) (fr:Tr V) (h:Tr O):ResultVar→Option V
 | .tmp t=>fr.get t
 | .cell a t=>match fr.get a with
   | some v=>loadAt P t h v
   | none=>none
def resultsV (P:Program) (fr:Tr V) (h:Tr O):List ResultVar→Option (List V)
 | []=>some []
 | r :: rs=>match resultV P fr h r with
   | some v=>match resultsV P fr h rs with
     | some vs=>some (v :: vs)
     | none=>none
   | none=>none
def oneOf:List V→V
 | [v]=>v
 | vs=>.tup vs
inductive Mode where
 | ret
 | pan (v:V) (rec:Bool)
def seqOpsD (P:Program) (cf:CallF) (ops:Array Oper):List Oper→St→Mode→Option (X × St × Mode)
 | [],s,m=>some (.normal,s,m)
 | o :: rest,s,m=>
   match wantedV ops o s.fr with
   | some false=>match putD s.fr o.dst (.tup []) with
     | some fr=>seqOpsD P cf ops rest { s with fr:=fr } m
     | none=>none
   | some true=>match stepOp P o s.fr s.h s.n with
     | some (.val v h n)=>match putD s.fr o.dst v with
       | some fr=>seqOpsD P cf ops rest { s with fr:=fr,h:=h,n:=n } m
       | none=>none
     | some .recover=>match m with
       | .pan v false=>match putD s.fr o.dst v with
         | some fr=>seqOpsD P cf ops rest { s with fr:=fr } (.pan v true)
         | none=>none
       | m=>match putD s.fr o.dst .nilIface with
         | some fr=>seqOpsD P cf ops rest { s with fr:=fr } m
         | none=>none
     | _=>miss o
   | none=>miss o
def execD (P:Program) (cf:CallF) (F:Nat):Code→St→Mode→Option (X × St × Mode)
 | .region _ ops false,s,m=>seqOpsD P cf ops ops.toList s m
 | .seq a b,s,m=>match execD P cf F a s m with
   | some (.normal,s',m')=>execD P cf F b s' m'
   | r=>r
 | .cond c a b,s,m=>match opd s.fr c with
   | some (.bool true)=>execD P cf F a s m
   | some (.bool false)=>execD P cf F b s m
   | _=>lost 5
 | c,s,m=>match exec P cf F c s with
   | some (x,s')=>some (x,s',m)
   | none=>none
def leave (P:Program) (cf:CallF) (F:Nat) (fn:Func) (fr:Tr V):List (FuncId × List V × List V)→Mode→Tr O→Nat→Option (Out × Tr O × Nat)
 | [],.ret,h,n=>match resultsV P fr h fn.results.toList with
   | some vs=>some (.ret (oneOf vs),h,n)
   | none=>lost 11
 | [],.pan v false,h,n=>some (.pan v,h,n)
 | [],.pan _ true,_,_=>lost 12
 | (g,c,args) :: ds,m,h,n=>
   if top ≤ g then (match args with
    | [.map (some b)]=>(match h.get b with
      | some .dfr=>if b < top then leave P cf F fn fr ds m (h.set b none) n else lost 41
      | _=>lost 42)
    | _=>lost 43) else
   match P.funcs[g]? with
   | some gn=>match gn.body with
     | some code=>
       if callee P g=true∧(args ++ c).length ≤ gn.ntmps∧gn.ntmps < top then
        match execD P cf F code { fr:=frameOf (args ++ c) 0 .nil,h:=h,n:=n,dfs:=[] } m with
        | some (.normal,s',m')=>
          (match s'.dfs with
          | []=>match resultsV P s'.fr s'.h gn.results.toList with
            | some _=>leave P cf F fn fr ds (match m' with | .pan _ true=>.ret | m=>m) s'.h s'.n
            | none=>lost 13
          | _=>lost 14)
        | some (.ret,s',m')=>
          (match s'.dfs with
          | []=>match resultsV P s'.fr s'.h gn.results.toList with
            | some _=>leave P cf F fn fr ds (match m' with | .pan _ true=>.ret | m=>m) s'.h s'.n
            | none=>lost 15
          | _=>lost 16)
        | _=>lost 17
       else none
     | none=>lost 18
   | none=>lost 19
def enter (P:Program) (cf:CallF) (F:Nat) (f:FuncId) (args:List V) (h:Tr O) (n:Nat):Option (Out × Tr O × Nat):=
 match P.funcs[f]? with
 | some fn=>match fn.body with
   | some code=>
     if args.length ≤ fn.ntmps∧fn.ntmps < top then
      match exec P cf F code { fr:=frameOf args 0 .nil,h:=h,n:=n,dfs:=[] } with
      | some (.normal,s)=>leave P cf F fn s.fr s.dfs .ret s.h s.n
      | some (.ret,s)=>leave P cf F fn s.fr s.dfs .ret s.h s.n
      | some (.panic v,s)=>leave P cf F fn s.fr s.dfs (.pan v false) s.h s.n
      | _=>lost 20
     else none
   | none=>lost 21
 | none=>lost 22
def plainC:Code→Bool
 | .region _ ops _=>ops.toList.all fun o=>opPlain o.op
 | .seq a b=>plainC a && plainC b
 | .cond _ a b=>plainC a && plainC b
 | .block _ c=>plainC c
 | .loop c=>plainC c
 | .rangeFunc ..=>false
 | _=>true
def putAll:List (Nat × V)→Tr V→Option (Tr V)
 | [],t=>some t
 | (i,v) :: r,t=>if i < top then putAll r (t.set i (some v)) else none
def zipL:List Nat→List V→List (Nat × V)
 | i :: is,v :: vs=>(i,v) :: zipL is vs
 | _,_=>[]
def aRound (P:Program) (cf:CallF) (F:Nat) (m:Nat) (args:List V) (h:Tr O) (n:Nat):Option (Out × Tr O × Nat):=
 match h.get m with
 | some (.loop true none fr ps assign body)=>
   if m < top∧ps.length=args.length∧plainC assign=true∧plainC body=true then
    match putAll (zipL ps args) fr with
    | some fr1=>match exec P cf F assign { fr:=fr1,h:=h.set m none,n:=n,dfs:=[] } with
      | some (.normal,s1)=>match exec P cf F body s1 with
        | some (.normal,s2)=>some (.ret (.bool true),s2.h.set m (some (.loop true none fr ps assign body)),s2.n)
        | some (.ret,s2)=>some (.ret (.bool false),s2.h.set m (some (.loop false (some .ret) fr ps assign body)),s2.n)
        | some (.exit id,s2)=>some (.ret (.bool false),s2.h.set m (some (.loop false (some (.exit id)) fr ps assign body)),s2.n)
        | _=>lost 51
      | _=>lost 52
    | none=>lost 53
   else lost 54
 | _=>lost 55
def call (P:Program) (F:Nat):Nat→CallF
 | 0=>fun _ _ _ _=>lost 23
 | k+1=>fun f args h n=>if f < P.funcs.size then enter P (call P F k) F f args h n else aRound P (call P F k) F (f - P.funcs.size) args h n
def mlist (l:List Oper):List Nat:=l.foldl (fun acc o=>acc ++ [maskOf acc o.after.toList]) []
def usesOf (ops:Array Oper) (o:Oper):List Nat:=
 (o.op.operands.toList.filterMap fun x=>match x with | .tmp t=>some t | _=>none) ++
  (match o.guard with | some (j,_)=>(match ops[j]? with | some q=>q.dst.toList | none=>[]) | none=>[])
def pairOk (ops:Array Oper) (m:List Nat) (i j:Nat):Bool:=
 match ops[i]?,ops[j]? with
 | some o,some q=>match o.dst with
   | some t=>(match q.dst with | some u=>!Nat.beq t u | none=>true) &&
      (if (usesOf ops q).contains t then (if i < j then hasBit (m.getD j 0) i else hasBit (m.getD i 0) j) else true)
   | none=>true
 | _,_=>true
def regOk (ops:Array Oper) (N:Nat):Bool:=
 let m:=mlist ops.toList
 (List.range ops.size).all fun j=>match ops[j]? with
  | some o=>o.after.toList.all (fun e=>!Region.binds .any e || decide (e.on < j)) && (match o.dst with | some d=>decide (d < N) | none=>true) &&
     (List.range ops.size).all fun i=>Nat.beq i j || pairOk ops m i j
  | none=>true
def codeOk (N:Nat):Code→Bool
 | .region _ ops draw=>ops.toList.all (fun o=>match o.dst with | some d=>decide (d < N) | none=>true) && (if draw then regOk ops N else true)
 | .seq a b=>codeOk N a && codeOk N b
 | .cond _ a b=>codeOk N a && codeOk N b
 | .block _ c=>codeOk N c
 | .loop c=>codeOk N c
 | .scope c=>codeOk N c
 | .rangeFunc _ ps a b=>ps.toList.all (fun p=>decide (p < N)) && (codeOk N a && codeOk N b)
 | _=>true
end Go.Eng
namespace Go.Eng
open Go
structure Env where
 ι:Nat→Option (Nat × Nat)
 β:Nat→Nat
 φ:Nat→Option (Array Value)
mutual
def drel (φ:Nat→Option (Array Value)):D→Value→Prop
 | .bool b,v=>v= .bool b
 | .int k n,v=>v= .int k n
 | .str s,v=>v= .string ⟨s.toArray⟩
 | .lst n cs,v=>∃ a cap vs,v= .slice a n cap∧n ≤ cap∧drels φ cs vs∧(n=0→cs=[])∧
    (0 < n→∃ b o c,a=some ⟨b,o,none⟩∧φ b=some c∧∀ (j:Nat) (w:Value),vs[j]? =some w→c[o+j]? =some w)
 | .agg cs,v=>∃ vs,drels φ cs vs∧v= .agg vs.toArray
def drels (φ:Nat→Option (Array Value)):List D→List Value→Prop
 | [],l=>l=[]
 | x :: xs,l=>∃ y ys,x.scalar=true∧drel φ x y∧drels φ xs ys∧l=y :: ys
end
def fnrel (E:Env):Fn→Fn→Prop
 | .yield m,f'=>∃ l s,E.ι m=some (l,s)∧f'= .yield l
 | f,f'=>f'=f
mutual
def vrel (E:Env):V→Value→Prop
 | .bool b,v=>v= .bool b
 | .int k n,v=>v= .int k n
 | .str s,v=>v= .string ⟨s.toArray⟩
 | .ptr none,v=>v= .pointer none
 | .ptr (some (m,o)),v=>∃ b s,E.ι m=some (b,s)∧v= .pointer (some ⟨b,s+o,none⟩)
 | .slc none len cap _,v=>len=0∧cap=0∧v= .slice none 0 0
 | .slc (some (m,o)) len cap esz,v=>∃ b s o' cap',E.ι m=some (b,s)∧(0 < cap→o'=s+o)∧len ≤ cap∧cap ≤ cap'∧o'+cap' * esz ≤ E.β b∧
    v= .slice (some ⟨b,o',none⟩) len cap'
 | .map none,v=>v= .map none
 | .map (some m),v=>∃ b,E.ι m=some (b,0)∧v= .map (some b)
 | .fn f a c,v=>∃ f' a' c',fnrel E f f'∧vrels E a a'∧vrels E c c'∧v= .func f' a'.toArray c'.toArray
 | .nilFn,v=>v= .nilFunc
 | .iface t x,v=>∃ x',vrel E x x'∧v= .iface t x'
 | .nilIface,v=>v= .nilIface
 | .agg cs,v=>∃ cs',vrels E cs cs'∧v= .agg cs'.toArray
 | .tup cs,v=>∃ cs',vrels E cs cs'∧v= .tuple cs'.toArray
 | .lst f n cs,v=>drel E.φ (.lst n cs) v∧(f=true→∃ a,v= .slice a n n)
 | .fptr cs,v=>∃ b o c vs,v= .pointer (some ⟨b,o,none⟩)∧E.φ b=some c∧drels E.φ cs vs∧∀ (j:Nat) (w:Value),vs[j]? =some w→c[o+j]? =some w
def vrels (E:Env):List V→List Value→Prop
 | [],l=>l=[]
 | x :: xs,l=>∃ y ys,vrel E x y∧vrels E xs ys∧l=y :: ys
end
structure Env.le (E E':Env):Prop where
 nm:∀ m b s,E.ι m=some (b,s)→E'.ι m=some (b,s)∧E'.β b=E.β b
 fz:∀ b c,E.φ b=some c→E'.φ b=some c
def GE (E:Env):Prop:=∀ p ∈ gtab,E.ι p.2=some (p.1,0)
theorem GE.mono {E E':Env} (h:GE E) (k:E.le E'):GE E':=fun p hp=>(k.nm _ _ _ (h p hp)).1
theorem gptr_mem:∀ {l:List (Nat × Nat)} {g:Nat} {v:V},gptr l g=some v→∃ m,(g,m) ∈ l∧v= .ptr (some (m,0))
 | [],_,_,h=>by cases h
 | p :: r,g,v,h=>by
   unfold gptr at h
   split at h
   · rename_i hb
     cases h
     exact ⟨p.2,List.mem_cons.2 (.inl (by rw [← Nat.eq_of_beq_eq_true hb])),rfl⟩
   · obtain ⟨m,h1,h2⟩:=gptr_mem h
     exact ⟨m,List.mem_cons_of_mem _ h1,h2⟩
theorem gptr_rel {E:Env} (h:GE E) {g:Nat} {v:V} (e:gptr gtab g=some v):vrel E v (.pointer (some ⟨g,0,none⟩)):=by
 obtain ⟨m,h1,rfl⟩:=gptr_mem e
 exact ⟨g,0,h _ h1,rfl⟩
theorem Env.le_refl (E:Env):E.le E:=⟨fun _ _ _ h=>⟨h,rfl⟩,fun _ _ h=>h⟩
theorem Env.le_trans {A B C:Env} (h:A.le B) (k:B.le C):A.le C:=⟨fun m b s e=>
 ⟨(k.nm m b s (h.nm m b s e).1).1,(k.nm m b s (h.nm m b s e).1).2.trans (h.nm m b s e).2⟩,fun b c e=>k.fz b c (h.fz b c e)⟩
mutual
theorem drel_mono {φ φ':Nat→Option (Array Value)} (h:∀ b c,φ b=some c→φ' b=some c):∀ (d:D) (v:Value),drel φ d v→drel φ' d v
 | .bool _,_,r=>r
 | .int _ _,_,r=>r
 | .str _,_,r=>r
 | .lst _ cs,_,⟨a,cap,vs,e,hc,r,h0,h1⟩=>⟨a,cap,vs,e,hc,drels_mono h cs vs r,h0,fun hn=>let ⟨b,o,c,e1,e2,e3⟩:=h1 hn; ⟨b,o,c,e1,h _ _ e2,e3⟩⟩
 | .agg cs,_,⟨vs,r,e⟩=>⟨vs,drels_mono h cs vs r,e⟩
theorem drels_mono {φ φ':Nat→Option (Array Value)} (h:∀ b c,φ b=some c→φ' b=some c):∀ (d:List D) (v:List Value),drels φ d v→drels φ' d v
 | [],_,r=>r
 | x :: xs,_,⟨y,ys,s,r,rs,e⟩=>⟨y,ys,s,drel_mono h x y r,drels_mono h xs ys rs,e⟩
end
mutual
theorem drel_toV {E:Env}:∀ (d:D) (v:Value),drel E.φ d v→vrel E d.toV v
 | .bool _,_,r=>r
 | .int _ _,_,r=>r
 | .str _,_,r=>r
 | .lst _ _,_,r=>⟨r,fun h=>by cases h⟩
 | .agg cs,_,⟨vs,r,e⟩=>⟨vs,drels_toV cs vs r,e⟩
theorem drels_toV {E:Env}:∀ (d:List D) (v:List Value),drels E.φ d v→vrels E (D.toVs d) v
 | [],_,r=>r
 | x :: xs,_,⟨y,ys,_,r,rs,e⟩=>⟨y,ys,drel_toV x y r,drels_toV xs ys rs,e⟩
end
mutual
theorem toV_drel {E:Env}:∀ (d:D) (v:Value),vrel E d.toV v→(∀ cs,d= .agg cs→∀ x ∈ cs,x.scalar=true)→drel E.φ d v
 | .bool _,_,r,_=>r
 | .int _ _,_,r,_=>r
 | .str _,_,r,_=>r
 | .lst _ _,_,r,_=>r.1
 | .agg cs,_,⟨vs,r,e⟩,h=>⟨vs,toVs_drels cs vs r (h cs rfl),e⟩
theorem toVs_drels {E:Env}:∀ (d:List D) (v:List Value),vrels E (D.toVs d) v→(∀ x ∈ d,x.scalar=true)→drels E.φ d v
 | [],_,r,_=>r
 | x :: xs,_,⟨y,ys,r,rs,e⟩,h=>⟨y,ys,h x (by simp),toV_drel x y r (fun cs q=>by have:=h x (by simp); rw [q] at this; cases this),toVs_drels xs ys rs (fun z hz=>h z (by simp [hz])),e⟩
end
theorem drels_length {φ:Nat→Option (Array Value)}:∀ {xs:List D} {ys:List Value},drels φ xs ys→ys.length=xs.length
 | [],_,r=>by simp only [drels] at r; subst r; rfl
 | _ :: _,_,r=>by obtain ⟨y,ys,_,_,rs,rfl⟩:=r; simp [drels_length rs]
theorem drels_get {φ:Nat→Option (Array Value)}:∀ {xs:List D} {ys:List Value},drels φ xs ys→∀ (i:Nat) (d:D),xs[i]? =some d→∃ v',ys[i]? =some v'∧d.scalar=true∧drel φ d v'
 | [],_,r,i,v,h=>by simp at h
 | x :: xs,_,r,i,v,h=>by
   obtain ⟨y,ys,s0,r0,rs,rfl⟩:=r
   cases i with
   | zero=>simp at h; subst h; exact ⟨y,by simp,s0,r0⟩
   | succ i=>simp at h; obtain ⟨v',h1,h2⟩:=drels_get rs i v h; exact ⟨v',by simpa using h1,h2⟩
theorem drels_of_get {φ:Nat→Option (Array Value)}:∀ {xs:List D} {ys:List Value},xs.length=ys.length→(∀ (i:Nat) (d:D),xs[i]? =some d→∃ v',ys[i]? =some v'∧d.scalar=true∧drel φ d v')→drels φ xs ys
 | [],[],_,_=>rfl
 | [],_ :: _,h,_=>by simp at h
 | _ :: _,[],h,_=>by simp at h
 | x :: xs,y :: ys,h,r=>by
   obtain ⟨v',h1,h2,h3⟩:=r 0 x (by simp)
   simp at h1; subst h1
   exact ⟨y,ys,h2,h3,drels_of_get (by simpa using h) (fun i v hi=>r (i+1) v (by simpa using hi)),rfl⟩
theorem drels_take {φ:Nat→Option (Array Value)} {n:Nat} {xs:List D} {ys:List Value} (r:drels φ xs ys):drels φ (xs.take n) (ys.take n):=by
 refine drels_of_get (by simp [drels_length r]) fun i v h=>?_
 rw [List.getElem?_take] at h ⊢
 split at h
 · rename_i hi; rw [if_pos hi]; exact drels_get r i v h
 · simp at h
theorem drels_drop {φ:Nat→Option (Array Value)} {n:Nat} {xs:List D} {ys:List Value} (r:drels φ xs ys):drels φ (xs.drop n) (ys.drop n):=by
 refine drels_of_get (by simp [drels_length r]) fun i v h=>?_
 rw [List.getElem?_drop] at h ⊢
 exact drels_get r _ v h
theorem drels_append {φ:Nat→Option (Array Value)}:∀ {xs xs':List D} {ys ys':List Value},drels φ xs ys→drels φ xs' ys'→drels φ (xs ++ xs') (ys ++ ys')
 | [],_,_,_,r,r'=>by simp only [drels] at r; subst r; simpa using r'
 | x :: xs,_,_,_,r,r'=>by
   obtain ⟨y,ys,s0,r0,rs,rfl⟩:=r
   exact ⟨y,_,s0,r0,drels_append rs r',rfl⟩
theorem drels_scalar {φ:Nat→Option (Array Value)}:∀ {xs:List D} {ys:List Value},drels φ xs ys→∀ x ∈ xs,x.scalar=true
 | [],_,_,x,h=>by simp at h
 | a :: xs,_,r,x,h=>by
   obtain ⟨y,ys,s0,_,rs,_⟩:=r
   rcases List.mem_cons.1 h with rfl | h
   · exact s0
   · exact drels_scalar rs x h
theorem toV_scalar {d:D} (h:d.scalar=true):d.toV.scalar=true:=by cases d <;> first | rfl | (simp [D.scalar] at h)
theorem toVs_scalar {ds:List D} (h:∀ x ∈ ds,x.scalar=true):(D.toVs ds).all V.scalar=true:=by
 rw [D.toVs_map,List.all_eq_true]
 intro x hx
 obtain ⟨d,hd,rfl⟩:=List.mem_map.1 hx
 exact toV_scalar (h d hd)
theorem fnrel_mono {E E':Env} (h:E.le E'):∀ (f f':Fn),fnrel E f f'→fnrel E' f f'
 | .yield _,_,⟨l,s,e,q⟩=>⟨l,s,(h.nm _ _ _ e).1,q⟩
 | .func _,_,r=>r
 | .method _,_,r=>r
 | .methodOf _ _,_,r=>r
 | .via _ _ _ _,_,r=>r
mutual
theorem vrel_mono {E E':Env} (h:E.le E'):∀ (v:V) (v':Value),vrel E v v'→vrel E' v v'
 | .bool _,_,r=>r
 | .int _ _,_,r=>r
 | .str _,_,r=>r
 | .ptr none,_,r=>r
 | .ptr (some (_,_)),_,⟨b,s,e,q⟩=>⟨b,s,(h.nm _ _ _ e).1,q⟩
 | .slc none _ _ _,_,r=>r
 | .slc (some (_,_)) _ _ _,_,⟨b,s,o',cap',e,q1,q2,q3,q4,q5⟩=>⟨b,s,o',cap',(h.nm _ _ _ e).1,q1,q2,q3,(h.nm _ _ _ e).2 ▸ q4,q5⟩
 | .map none,_,r=>r
 | .map (some _),_,⟨b,e,q⟩=>⟨b,(h.nm _ _ _ e).1,q⟩
 | .fn _ a c,_,⟨f',a',c',rf,ra,rc,q⟩=>⟨f',a',c',fnrel_mono h _ _ rf,vrels_mono h a a' ra,vrels_mono h c c' rc,q⟩
 | .nilFn,_,r=>r
 | .iface _ x,_,⟨x',r,q⟩=>⟨x',vrel_mono h x x' r,q⟩
 | .nilIface,_,r=>r
 | .agg cs,_,⟨cs',r,q⟩=>⟨cs',vrels_mono h cs cs' r,q⟩
 | .tup cs,_,⟨cs',r,q⟩=>⟨cs',vrels_mono h cs cs' r,q⟩
 | .lst _ _ _,_,⟨r,q⟩=>⟨drel_mono h.fz _ _ r,q⟩
 | .fptr cs,_,⟨b,o,c,vs,e,e1,r,q⟩=>⟨b,o,c,vs,e,h.fz _ _ e1,drels_mono h.fz cs vs r,q⟩
theorem vrels_mono {E E':Env} (h:E.le E'):∀ (v:List V) (v':List Value),vrels E v v'→vrels E' v v'
 | [],_,r=>r
 | x :: xs,_,⟨y,ys,r,rs,q⟩=>⟨y,ys,vrel_mono h x y r,vrels_mono h xs ys rs,q⟩
end
theorem vrels_length {E:Env}:∀ {xs:List V} {ys:List Value},vrels E xs ys→ys.length=xs.length
 | [],_,r=>by simp only [vrels] at r; subst r; rfl
 | _ :: _,_,r=>by obtain ⟨y,ys,_,rs,rfl⟩:=r; simp [vrels_length rs]
theorem vrels_get {E:Env}:∀ {xs:List V} {ys:List Value},vrels E xs ys→∀ (i:Nat) (v:V),xs[i]? =some v→∃ v',ys[i]? =some v'∧vrel E v v'
 | [],_,_,i,v,h=>by simp at h
 | x :: xs,_,r,i,v,h=>by
   obtain ⟨y,ys,r0,rs,rfl⟩:=r
   cases i with
   | zero=>simp at h; subst h; exact ⟨y,by simp,r0⟩
   | succ i=>simp at h; obtain ⟨v',h1,h2⟩:=vrels_get rs i v h; exact ⟨v',by simpa using h1,h2⟩
theorem vrels_of_get {E:Env}:∀ {xs:List V} {ys:List Value},xs.length=ys.length→(∀ (i:Nat) (v:V),xs[i]? =some v→∃ v',ys[i]? =some v'∧vrel E v v')→vrels E xs ys
 | [],[],_,_=>rfl
 | [],_ :: _,h,_=>by simp at h
 | _ :: _,[],h,_=>by simp at h
 | x :: xs,y :: ys,h,r=>by
   obtain ⟨v',h1,h2⟩:=r 0 x (by simp)
   simp at h1; subst h1
   exact ⟨y,ys,h2,vrels_of_get (by simpa using h) (fun i v hi=>r (i+1) v (by simpa using hi)),rfl⟩
theorem vrels_append {E:Env}:∀ {xs xs':List V} {ys ys':List Value},vrels E xs ys→vrels E xs' ys'→vrels E (xs ++ xs') (ys ++ ys')
 | [],_,_,_,r,r'=>by simp only [vrels] at r; subst r; simpa using r'
 | x :: xs,_,_,_,r,r'=>by
   obtain ⟨y,ys,r0,rs,rfl⟩:=r
   exact ⟨y,_,r0,vrels_append rs r',rfl⟩
theorem vrels_take {E:Env} {n:Nat}:∀ {xs:List V} {ys:List Value},vrels E xs ys→vrels E (xs.take n) (ys.take n):=by
 intro xs ys r
 refine vrels_of_get (by simp [vrels_length r]) fun i v h=>?_
 rw [List.getElem?_take] at h ⊢
 split at h
 · rename_i hi; rw [if_pos hi]; exact vrels_get r i v h
 · simp at h
theorem vrels_drop {E:Env} {n:Nat}:∀ {xs:List V} {ys:List Value},vrels E xs ys→vrels E (xs.drop n) (ys.drop n):=by
 intro xs ys r
 refine vrels_of_get (by simp [vrels_length r]) fun i v h=>?_
 rw [List.getElem?_drop] at h ⊢
 exact vrels_get r _ v h
theorem vrel_cells {E:Env}:∀ {v:V} {v':Value},vrel E v v'→vrels E v.cells v'.cells.toList:=by
 intro v v' r
 have one:∀ {x:V} {y:Value},vrel E x y→y.cells=#[y]→x.cells=[x]→vrels E x.cells y.cells.toList:=by
  intro x y r h1 h2
  rw [h1,h2]; exact ⟨y,[],r,rfl,rfl⟩
 cases v with
 | agg cs=>obtain ⟨cs',rs,rfl⟩:=r; simpa [V.cells,Value.cells] using rs
 | bool b=>simp only [vrel] at r; subst r; exact one (by simp [vrel]) rfl rfl
 | int k n=>simp only [vrel] at r; subst r; exact one (by simp [vrel]) rfl rfl
 | str s=>simp only [vrel] at r; subst r; exact one (by simp [vrel]) rfl rfl
 | ptr a=>refine one r ?_ rfl; cases a <;> simp only [vrel] at r; · subst r; rfl
          · obtain ⟨b,s,_,rfl⟩:=r; rfl
 | slc a l c e=>refine one r ?_ rfl; cases a <;> simp only [vrel] at r; · obtain ⟨_,_,rfl⟩:=r; rfl
                · obtain ⟨b,s,_,_,_,_,_,_,_,rfl⟩:=r; rfl
 | map a=>refine one r ?_ rfl; cases a <;> simp only [vrel] at r; · subst r; rfl
          · obtain ⟨b,_,rfl⟩:=r; rfl
 | fn f a c=>refine one r ?_ rfl; obtain ⟨_,_,_,_,_,_,rfl⟩:=r; rfl
 | nilFn=>simp only [vrel] at r; subst r; exact one (by simp [vrel]) rfl rfl
 | iface t x=>refine one r ?_ rfl; obtain ⟨_,_,rfl⟩:=r; rfl
 | nilIface=>simp only [vrel] at r; subst r; exact one (by simp [vrel]) rfl rfl
 | tup vs=>refine one r ?_ rfl; obtain ⟨_,_,rfl⟩:=r; rfl
 | lst f n cs=>refine one r ?_ rfl; obtain ⟨⟨_,_,_,rfl,_⟩,_⟩:=r; rfl
 | fptr cs=>refine one r ?_ rfl; obtain ⟨_,_,_,_,rfl,_⟩:=r; rfl
theorem vrel_scalar {E:Env}:∀ {v:V} {v':Value},vrel E v v'→v.scalar=true→v'.oneCell'=true:=by
 intro v v' r h
 cases v with
 | agg cs=>simp [V.scalar] at h
 | tup cs=>simp [V.scalar] at h
 | bool b=>simp only [vrel] at r; subst r; rfl
 | int k n=>simp only [vrel] at r; subst r; rfl
 | str s=>simp only [vrel] at r; subst r; rfl
 | ptr a=>cases a <;> simp only [vrel] at r; · subst r; rfl
          · obtain ⟨b,s,_,rfl⟩:=r; rfl
 | slc a l c e=>cases a <;> simp only [vrel] at r; · obtain ⟨_,_,rfl⟩:=r; rfl
                · obtain ⟨b,s,_,_,_,_,_,_,_,rfl⟩:=r; rfl
 | map a=>cases a <;> simp only [vrel] at r; · subst r; rfl
          · obtain ⟨b,_,rfl⟩:=r; rfl
 | fn f a c=>obtain ⟨_,_,_,_,_,_,rfl⟩:=r; rfl
 | nilFn=>simp only [vrel] at r; subst r; rfl
 | iface t x=>obtain ⟨_,_,rfl⟩:=r; rfl
 | nilIface=>simp only [vrel] at r; subst r; rfl
 | lst f n cs=>obtain ⟨⟨_,_,_,rfl,_⟩,_⟩:=r; rfl
 | fptr cs=>obtain ⟨_,_,_,_,rfl,_⟩:=r; rfl
theorem Tr.get_setF {α:Type}:∀ (f:Nat) (t:Tr α) (k:Nat) (x:Option α) (j:Nat),k+1 < 2 ^ f→(Tr.setF f t k x).get j=if j=k then x else t.get j
 | 0,t,k,x,j,h=>by simp at h
 | f+1,t,k,x,j,h=>by
   have hk:∀ k',k=k'+1→k' / 2+1 < 2 ^ f:=by intro k' e; subst e; rw [Nat.pow_succ] at h; omega
   cases t with
   | nil=>
     cases k with
     | zero=>
       cases j with
       | zero=>simp [Tr.setF,Tr.get]
       | succ j=>simp only [Tr.setF,Tr.get]; rw [if_neg (by omega)]; split <;> rfl
     | succ k=>
       have ih:=fun j=>Tr.get_setF f (.nil:Tr α) (k / 2) x j (hk k rfl)
       rcases Nat.mod_two_eq_zero_or_one k with e | e
       · cases j with
         | zero=>simp [Tr.setF,Tr.get,e]
         | succ j=>
           rcases Nat.mod_two_eq_zero_or_one j with e' | e'
           · simp only [Tr.setF,e,Tr.get,e',ih]
             by_cases hj:j=k
             · subst hj; simp
             · rw [if_neg (by omega),if_neg (by omega)]
           · simp only [Tr.setF,e,Tr.get,e']; rw [if_neg (by omega)]
       · cases j with
         | zero=>simp [Tr.setF,Tr.get,e]
         | succ j=>
           rcases Nat.mod_two_eq_zero_or_one j with e' | e'
           · simp only [Tr.setF,e,Tr.get,e']; rw [if_neg (by omega)]
           · simp only [Tr.setF,e,Tr.get,e',ih]
             by_cases hj:j=k
             · subst hj; simp
             · rw [if_neg (by omega),if_neg (by omega)]
   | node v l r=>
     cases k with
     | zero=>cases j <;> simp [Tr.setF,Tr.get]
     | succ k=>
       have ihl:=fun j=>Tr.get_setF f l (k / 2) x j (hk k rfl)
       have ihr:=fun j=>Tr.get_setF f r (k / 2) x j (hk k rfl)
       rcases Nat.mod_two_eq_zero_or_one k with e | e
       · cases j with
         | zero=>simp [Tr.setF,Tr.get,e]
         | succ j=>
           rcases Nat.mod_two_eq_zero_or_one j with e' | e'
           · simp only [Tr.setF,e,Tr.get,e',ihl]
             by_cases hj:j=k
             · subst hj; simp
             · rw [if_neg (by omega),if_neg (by omega)]
           · simp only [Tr.setF,e,Tr.get,e']; rw [if_neg (by omega)]
       · cases j with
         | zero=>simp [Tr.setF,Tr.get,e]
         | succ j=>
           rcases Nat.mod_two_eq_zero_or_one j with e' | e'
           · simp only [Tr.setF,e,Tr.get,e']; rw [if_neg (by omega)]
           · simp only [Tr.setF,e,Tr.get,e',ihr]
             by_cases hj:j=k
             · subst hj; simp
             · rw [if_neg (by omega),if_neg (by omega)]
theorem Tr.get_set {α:Type} (t:Tr α) {k:Nat} (x:Option α) (j:Nat) (h:k < top):(t.set k x).get j=if j=k then x else t.get j:=
 Tr.get_setF 33 t k x j (by unfold top at h; omega)
theorem Tr.get_set_same {α:Type} (t:Tr α) {k:Nat} (x:Option α) (h:k < top):(t.set k x).get k=x:=by rw [Tr.get_set t x k h,if_pos rfl]
theorem Tr.get_set_ne {α:Type} (t:Tr α) {k j:Nat} (x:Option α) (h:k < top) (hj:j ≠ k):(t.set k x).get j=t.get j:=by rw [Tr.get_set t x j h,if_neg hj]
end Go.Eng
namespace Go.Eng
open Go
def erels (E:Env):List (V × V × Nat)→List MapEntry→Prop
 | [],l=>l=[]
 | x :: xs,l=>∃ y ys,vrel E x.1 y.key∧vrel E x.2.1 y.val∧y.born=x.2.2∧erels E xs ys∧l=y :: ys
theorem erels_mono {E E':Env} (h:E.le E'):∀ (xs:List (V × V × Nat)) (ys:List MapEntry),erels E xs ys→erels E' xs ys
 | [],_,r=>r
 | _ :: xs,_,⟨y,ys,a,b,c,r,q⟩=>⟨y,ys,vrel_mono h _ _ a,vrel_mono h _ _ b,c,erels_mono h xs ys r,q⟩
def mrels (φ:Nat→Option (Array Value)):List (D × D)→List MapEntry→Prop
 | [],l=>l=[]
 | x :: xs,l=>∃ y ys,drel φ x.1 y.key∧drel φ x.2 y.val∧mrels φ xs ys∧l=y :: ys
theorem mrels_mono {φ φ':Nat→Option (Array Value)} (h:∀ b c,φ b=some c→φ' b=some c):∀ (xs:List (D × D)) (ys:List MapEntry),mrels φ xs ys→mrels φ' xs ys
 | [],_,r=>r
 | _ :: xs,_,⟨y,ys,a,b,r,q⟩=>⟨y,ys,drel_mono h _ _ a,drel_mono h _ _ b,mrels_mono h xs ys r,q⟩
structure MapRel (φ:Nat→Option (Array Value)) (kd:Option IntKind) (es:List (D × D)) (es':List MapEntry) (clock:Nat):Prop where
 row:∃ l,List.Perm l es∧mrels φ l es'
 keys:(es.map (·.1)).Nodup
 kind:∀ e ∈ es,keyKd kd e.1=true
 old:∀ e ∈ es',e.born < clock
 born:(es'.map (·.born)).Nodup
theorem MapRel.mono {φ φ':Nat→Option (Array Value)} (h:∀ b c,φ b=some c→φ' b=some c) {kd:Option IntKind} {es:List (D × D)} {es':List MapEntry} {clock:Nat} (r:MapRel φ kd es es' clock):MapRel φ' kd es es' clock:=
 ⟨let ⟨l,h1,h2⟩:=r.row; ⟨l,h1,mrels_mono h _ _ h2⟩,r.keys,r.kind,r.old,r.born⟩
def unfrozen (fz:Nat × Nat) (n:Nat):Prop:=∀ i,i < n→¬ (fz.1 ≤ i∧i < fz.2)
def crel (E:Env) (s:Nat) (cs:List V) (c:Array Value):Prop:=∀ (i:Nat) (v:V),cs[i]? =some v→∃ v',c[s+i]? =some v'∧vrel E v v'
def trel (E:Env) (fr:Tr V) (tmps:Array Value):Prop:=∀ t v,fr.get t=some v→∃ v',tmps[t]? =some v'∧vrel E v v'
theorem trel_mono {E E':Env} (h:E.le E') {fr:Tr V} {a:Array Value} (r:trel E fr a):trel E' fr a:=fun t v e=>let ⟨v',h1,h2⟩:=r t v e; ⟨v',h1,vrel_mono h v v' h2⟩
def orel (E:Env) (w:World) (b s:Nat):O→Prop
 | .cells cs=>∃ c el fz,w.heap[b]? =some (.cells c el fz)∧c.size=E.β b∧unfrozen fz c.size∧crel E s cs c
 | .map es clock=>s=0∧∃ es',w.heap[b]? =some (.map es' clock)∧erels E es es'.toList
 | .siter st pos=>s=0∧w.heap[b]? =some (.stringIter ⟨st.toArray⟩ pos)
 | .ints k ks=>∃ c el fz,w.heap[b]? =some (.cells c el fz)∧c.size=E.β b∧∀ (i:Nat) (x:Int),ks[i]? =some x→c[s+i]? =some (.int k x)
 | .own k ks=>∃ c el fz,w.heap[b]? =some (.cells c el fz)∧c.size=E.β b∧unfrozen fz c.size∧crel E s (ks.map (.int k)) c
 | .deep cs=>∃ c el fz vs,w.heap[b]? =some (.cells c el fz)∧c.size=E.β b∧unfrozen fz c.size∧drels E.φ cs vs∧∀ (j:Nat) (x:Value),vs[j]? =some x→c[s+j]? =some x
 | .buf el fro t=>∃ c fz xs,w.heap[b]? =some (.cells c el fz)∧s=0∧c.size=E.β b∧((fz.1=fz.2 ∨ fz.2 ≤ t.length)∧(fro=false→fz.1=fz.2))∧strI xs=t∧∀ (j:Nat) (x:Int),xs[j]? =some x→c[j]? =some (.int .u8 x)
 | .bld t self x=>s=0∧∃ x' fz,w.heap[b]? =some (.cells #[.pointer (if self then some ⟨b,0,none⟩ else none),x'] t fz)∧2=E.β b∧unfrozen fz 2∧vrel E x x'
 | .mapD kd es=>s=0∧∃ es' clock,w.heap[b]? =some (.map es' clock)∧MapRel E.φ kd es es'.toList clock
 | .dfr=>w.heap[b]? =some (.deferred (some []))
 | .loop st pe fr ps assign body=>∃ r:Loop,w.heap[b]? =some (.loop r)∧r.state=(if st then .ready else .done)∧r.pending=pe∧r.params.toList=ps∧r.assign=assign∧r.body=body∧trel E fr r.tmps∧codeOk r.tmps.size assign=true∧codeOk r.tmps.size body=true∧∀ p ∈ ps,p < r.tmps.size
theorem crel_mono {E E':Env} (h:E.le E') {s:Nat} {cs:List V} {c:Array Value} (r:crel E s cs c):crel E' s cs c:=
 fun i v e=>let ⟨v',h1,h2⟩:=r i v e; ⟨v',h1,vrel_mono h v v' h2⟩
theorem orel_mono {E E':Env} {w w':World} {b s:Nat} {o:O} (h:E.le E') (hb:E'.β b=E.β b) (hw:w'.heap[b]? =w.heap[b]?) (r:orel E w b s o):orel E' w' b s o:=by
 cases o with
 | cells cs=>obtain ⟨c,el,fz,h1,h2,h3,h4⟩:=r; exact ⟨c,el,fz,hw.trans h1,h2.trans hb.symm,h3,crel_mono h h4⟩
 | map es clock=>obtain ⟨hs,es',h1,h2⟩:=r; exact ⟨hs,es',hw.trans h1,erels_mono h _ _ h2⟩
 | siter st pos=>exact ⟨r.1,hw.trans r.2⟩
 | ints k ks=>obtain ⟨c,el,fz,h1,h2,h3⟩:=r; exact ⟨c,el,fz,hw.trans h1,h2.trans hb.symm,h3⟩
 | own k ks=>obtain ⟨c,el,fz,h1,h2,h3,h4⟩:=r; exact ⟨c,el,fz,hw.trans h1,h2.trans hb.symm,h3,crel_mono h h4⟩
 | deep cs=>obtain ⟨c,el,fz,vs,h1,h2,h3,h4,h5⟩:=r; exact ⟨c,el,fz,vs,hw.trans h1,h2.trans hb.symm,h3,drels_mono h.fz _ _ h4,h5⟩
 | buf el fro t=>obtain ⟨c,fz,xs,h1,h0,h2,h3⟩:=r; exact ⟨c,fz,xs,hw.trans h1,h0,h2.trans hb.symm,h3⟩
 | bld t self x=>obtain ⟨h0,x',fz,h1,h2,h3,h4⟩:=r; exact ⟨h0,x',fz,hw.trans h1,h2.trans hb.symm,h3,vrel_mono h _ _ h4⟩
 | mapD kd es=>obtain ⟨hs,es',clock,h1,h2⟩:=r; exact ⟨hs,es',clock,hw.trans h1,h2.mono h.fz⟩
 | dfr=>exact hw.trans r
 | loop st pe fr ps assign body=>obtain ⟨r,h1,h2,h3,h4,h5,h6,h7,h8⟩:=r; exact ⟨r,hw.trans h1,h2,h3,h4,h5,h6,trel_mono h h7,h8⟩
theorem crel_ints {E:Env} {s:Nat} {k:IntKind} {ks:List Int} {c:Array Value}:crel E s (ks.map (.int k)) c ↔ ∀ (i:Nat) (x:Int),ks[i]? =some x→c[s+i]? =some (.int k x):=by
 constructor
 · intro r i x e
   obtain ⟨v',h1,h2⟩:=r i (.int k x) (by rw [List.getElem?_map,e]; rfl)
   simp only [vrel] at h2
   rw [h1,h2]
 · intro r i v e
   rw [List.getElem?_map] at e
   cases hx:ks[i]? with
   | none=>rw [hx] at e; cases e
   | some x=>
     rw [hx] at e
     simp only [Option.map_some,Option.some.injEq] at e; subst e
     exact ⟨_,r i x hx,rfl⟩
theorem crel_ints_env {E E':Env} {s:Nat} {k:IntKind} {ks:List Int} {c:Array Value} (r:crel E s (ks.map (.int k)) c):crel E' s (ks.map (.int k)) c:=crel_ints.2 (crel_ints.1 r)
theorem intsOf_eq {k:IntKind}:∀ {l:List V} {ks:List Int},intsOf k l=some ks→l=ks.map (.int k)
 | [],ks,h=>by simp only [intsOf,Option.some.injEq] at h; subst h; rfl
 | v :: r,ks,h=>by
   unfold intsOf at h
   split at h
   · rename_i q; cases q
   · rename_i k' x r' q
     cases q
     split at h
     · rename_i l h1 h2
       simp only [Option.some.injEq] at h; subst h
       have:=of_decide_eq_true h1; subst this
       rw [intsOf_eq h2]; rfl
     · cases h
   · cases h
theorem crel_deep {E:Env} {s:Nat} {cs:List D} {c:Array Value} (hs:∀ x ∈ cs,x.scalar=true):crel E s (D.toVs cs) c ↔ ∃ vs,drels E.φ cs vs∧∀ (j:Nat) (x:Value),vs[j]? =some x→c[s+j]? =some x:=by
 constructor
 · intro r
   have hg:∀ i,i < cs.length→∃ x,c[s+i]? =some x:=by
    intro i hi
    obtain ⟨v',h1,_⟩:=r i (cs[i]).toV (by rw [D.toVs_map,List.getElem?_map,List.getElem?_eq_getElem hi]; rfl)
    exact ⟨v',h1⟩
   refine ⟨(List.range cs.length).map fun i=>(c[s+i]?).getD undef,drels_of_get (by simp) fun i d hd=>?_,fun j x hx=>?_⟩
   · have hi:=(List.getElem?_eq_some_iff.1 hd).1
     obtain ⟨v',h1,h2⟩:=r i d.toV (by rw [D.toVs_map,List.getElem?_map,hd]; rfl)
     refine ⟨v',by simp [List.getElem?_range hi,h1],hs d (List.mem_of_getElem? hd),toV_drel d v' h2 fun ds q=>?_⟩
     have:=hs d (List.mem_of_getElem? hd)
     rw [q] at this; cases this
   · rw [List.getElem?_map] at hx
     by_cases hj:j < cs.length
     · rw [List.getElem?_range hj] at hx
       simp only [Option.map_some,Option.some.injEq] at hx
       obtain ⟨y,hy⟩:=hg j hj
       rw [hy] at hx ⊢
       simpa using hx
     · rw [List.getElem?_eq_none (by simpa using Nat.le_of_not_lt hj)] at hx
       cases hx
 · rintro ⟨vs,r,hv⟩ i v hi
   rw [D.toVs_map,List.getElem?_map] at hi
   cases hd:cs[i]? with
   | none=>rw [hd] at hi; cases hi
   | some d=>
     rw [hd] at hi
     simp only [Option.map_some,Option.some.injEq] at hi; subst hi
     obtain ⟨v',h1,_,h3⟩:=drels_get r i d hd
     exact ⟨v',hv i v' h1,drel_toV d v' h3⟩
theorem deepsOf_eq:∀ {l:List V} {ds:List D},deepsOf l=some ds→∀ {E:Env} {l':List Value},vrels E l l'→drels E.φ ds l'
 | [],ds,h,E,l',r=>by simp only [deepsOf,Option.some.injEq] at h; subst h; exact r
 | x :: xs,ds,h,E,l',r=>by
   simp only [deepsOf] at h
   split at h
   case h_2=>cases h
   rename_i d hd
   split at h
   case h_2=>cases h
   rename_i l hl
   simp only [Option.some.injEq] at h; subst h
   obtain ⟨y,ys,r0,rs,rfl⟩:=r
   refine ⟨y,ys,?_,?_,deepsOf_eq hl rs,rfl⟩
   · split at hd <;> first | (cases hd; rfl) | cases hd
   · split at hd <;> first | (cases hd; first | exact r0 | exact r0.1 | exact ⟨none,0,[],r0.2.2,Nat.le_refl _,rfl,fun _=>rfl,fun q=>absurd q (Nat.lt_irrefl _)⟩) | cases hd
theorem deepsOf_length:∀ {l:List V} {ds:List D},deepsOf l=some ds→ds.length=l.length
 | [],ds,h=>by simp only [deepsOf,Option.some.injEq] at h; subst h; rfl
 | x :: xs,ds,h=>by
   simp only [deepsOf] at h
   split at h
   case h_2=>cases h
   split at h
   case h_2=>cases h
   rename_i l hl
   simp only [Option.some.injEq] at h; subst h
   simp [deepsOf_length hl]
mutual
theorem toD_rel {E:Env}:∀ {x:V} {d:D},V.toD x=some d→∀ {v:Value},vrel E x v→drel E.φ d v∧(x.scalar=true→d.scalar=true)
 | .bool _,d,h,v,r=>by simp only [V.toD,Option.some.injEq] at h; subst h; exact ⟨r,fun _=>rfl⟩
 | .int _ _,d,h,v,r=>by simp only [V.toD,Option.some.injEq] at h; subst h; exact ⟨r,fun _=>rfl⟩
 | .str _,d,h,v,r=>by simp only [V.toD,Option.some.injEq] at h; subst h; exact ⟨r,fun _=>rfl⟩
 | .lst _ _ _,d,h,v,r=>by simp only [V.toD,Option.some.injEq] at h; subst h; exact ⟨r.1,fun _=>rfl⟩
 | .agg cs,d,h,v,r=>by
   simp only [V.toD] at h
   split at h
   · rename_i l hl
     simp only [Option.some.injEq] at h; subst h
     obtain ⟨vs,r,e⟩:=r
     exact ⟨⟨vs,toDs_rel hl r,e⟩,fun h=>by cases h⟩
   · cases h
 | .ptr _,d,h,_,_=>by cases h
 | .slc none _ _ _,d,h,v,r=>by
   simp only [V.toD,Option.some.injEq] at h; subst h
   exact ⟨⟨none,0,[],r.2.2,Nat.le_refl _,rfl,fun _=>rfl,fun q=>absurd q (Nat.lt_irrefl _)⟩,fun _=>rfl⟩
 | .slc (some _) 0 _ _,d,h,v,r=>by
   simp only [V.toD,Option.some.injEq] at h; subst h
   obtain ⟨b,s,o',cap',_,_,_,_,_,e⟩:=r
   exact ⟨⟨_,cap',[],e,Nat.zero_le _,rfl,fun _=>rfl,fun q=>absurd q (Nat.lt_irrefl _)⟩,fun _=>rfl⟩
 | .slc (some _) (_+1) _ _,d,h,_,_=>by cases h
 | .map _,d,h,_,_=>by cases h
 | .fn _ _ _,d,h,_,_=>by cases h
 | .nilFn,d,h,_,_=>by cases h
 | .iface _ _,d,h,_,_=>by cases h
 | .nilIface,d,h,_,_=>by cases h
 | .tup _,d,h,_,_=>by cases h
 | .fptr _,d,h,_,_=>by cases h
theorem toDs_rel {E:Env}:∀ {xs:List V} {ds:List D},V.toDs xs=some ds→∀ {vs:List Value},vrels E xs vs→drels E.φ ds vs
 | [],ds,h,v,r=>by simp only [V.toDs,Option.some.injEq] at h; subst h; exact r
 | x :: xs,ds,h,v,r=>by
   simp only [V.toDs] at h
   split at h
   case h_2=>cases h
   rename_i d hd
   split at h
   case h_2=>cases h
   rename_i l hl
   split at h
   case h_2=>cases h
   rename_i hsc
   simp only [Option.some.injEq] at h; subst h
   obtain ⟨y,ys,r0,rs,rfl⟩:=r
   exact ⟨y,ys,hsc,(toD_rel hd r0).1,toDs_rel hl rs,rfl⟩
end
theorem vrels_split {E:Env}:∀ {xs ys:List V} {l:List Value},vrels E (xs ++ ys) l→∃ l1 l2,vrels E xs l1∧vrels E ys l2∧l=l1 ++ l2
 | [],_,l,r=>⟨[],l,rfl,r,rfl⟩
 | x :: xs,_,l,⟨y,zs,r0,rs,e⟩=>by
   obtain ⟨l1,l2,h1,h2,h3⟩:=vrels_split rs
   exact ⟨y :: l1,l2,⟨y,l1,r0,h1,rfl⟩,h2,by rw [e,h3]; rfl⟩
def wk (xs ys:List V):Prop:=∀ (E:Env) (l:List Value),vrels E xs l→vrels E ys l
theorem wk_refl (xs:List V):wk xs xs:=fun _ _ r=>r
theorem wk_append {a b a' b':List V} (h:wk a a') (k:wk b b'):wk (a ++ b) (a' ++ b'):=fun E l r=>by
 obtain ⟨l1,l2,h1,h2,rfl⟩:=vrels_split r
 exact vrels_append (h E l1 h1) (k E l2 h2)
theorem wk_deeps {l:List V} {ds:List D} (h:deepsOf l=some ds):wk l (D.toVs ds):=fun _ _ r=>drels_toV _ _ (deepsOf_eq h r)
theorem crel_iff {E:Env} {s:Nat} {cs:List V} {c:Array Value}:crel E s cs c ↔ ∃ vs,vrels E cs vs∧∀ (j:Nat) (x:Value),vs[j]? =some x→c[s+j]? =some x:=by
 constructor
 · intro r
   have hg:∀ i,i < cs.length→∃ x,c[s+i]? =some x:=fun i hi=>by
    obtain ⟨v',h1,_⟩:=r i cs[i] (List.getElem?_eq_getElem hi)
    exact ⟨v',h1⟩
   refine ⟨(List.range cs.length).map fun i=>(c[s+i]?).getD undef,vrels_of_get (by simp) fun i d hd=>?_,fun j x hx=>?_⟩
   · have hi:=(List.getElem?_eq_some_iff.1 hd).1
     obtain ⟨v',h1,h2⟩:=r i d hd
     exact ⟨v',by simp [List.getElem?_range hi,h1],h2⟩
   · rw [List.getElem?_map] at hx
     by_cases hj:j < cs.length
     · rw [List.getElem?_range hj] at hx
       simp only [Option.map_some,Option.some.injEq] at hx
       obtain ⟨y,hy⟩:=hg j hj
       rw [hy] at hx ⊢
       simpa using hx
     · rw [List.getElem?_eq_none (by simpa using Nat.le_of_not_lt hj)] at hx
       cases hx
 · rintro ⟨vs,r,hv⟩ i v hi
   obtain ⟨v',h1,h2⟩:=vrels_get r i v hi
   exact ⟨v',hv i v' h1,h2⟩
theorem crel_wk {E:Env} {s:Nat} {xs ys:List V} {c:Array Value} (h:wk xs ys) (r:crel E s xs c):crel E s ys c:=by
 obtain ⟨vs,h1,h2⟩:=crel_iff.1 r
 exact crel_iff.2 ⟨vs,h E vs h1,h2⟩
def Row.sc:Row→Prop
 | .ds cs=>∀ x ∈ cs,x.scalar=true
 | _=>True
theorem deepsOf_sc:∀ {l:List V} {ds:List D},deepsOf l=some ds→∀ x ∈ ds,x.scalar=true
 | [],ds,h,x,hx=>by simp only [deepsOf,Option.some.injEq] at h; subst h; simp at hx
 | y :: l,ds,h,x,hx=>by
   simp only [deepsOf] at h
   split at h
   case h_2=>cases h
   rename_i d hd
   split at h
   case h_2=>cases h
   rename_i l' hl
   simp only [Option.some.injEq] at h; subst h
   rcases List.mem_cons.1 hx with rfl | hx
   · split at hd <;> first | (cases hd; rfl) | cases hd
   · exact deepsOf_sc hl x hx
theorem Row.app_wk (a b:Row):wk (a.toV ++ b.toV) (a.app b).toV:=by
 have e:∀ {k:IntKind} {l:List V} {ks:List Int},intsOf k l=some ks→l=ks.map (.int k):=fun h=>intsOf_eq h
 have hm:∀ (k:IntKind) (ks:List Int),D.toVs (ks.map (.int k))=ks.map (.int k):=fun k ks=>by rw [D.toVs_map,List.map_map]; rfl
 have ha:∀ (x y:List D),D.toVs (x ++ y)=D.toVs x ++ D.toVs y:=fun x y=>by rw [D.toVs_map,D.toVs_map,D.toVs_map,List.map_append]
 cases a <;> cases b <;> simp only [Row.app]
 · exact wk_refl _
 · rename_i cs k ks
   split
   · rename_i l h; simp only [Row.toV,e h,List.map_append]; exact wk_refl _
   · exact wk_refl _
 · rename_i cs ds
   split
   · rename_i l h; simp only [Row.toV,ha]; exact wk_append (wk_deeps h) (wk_refl _)
   · exact wk_refl _
 · rename_i k ks cs
   split
   · rename_i l h; simp only [Row.toV,e h,List.map_append]; exact wk_refl _
   · exact wk_refl _
 · rename_i k ks k' ks'
   split
   · rename_i h; have:=of_decide_eq_true h; subst this; simp only [Row.toV,List.map_append]; exact wk_refl _
   · exact wk_refl _
 · simp only [Row.toV,ha,hm]; exact wk_refl _
 · rename_i cs ds
   split
   · rename_i l h; simp only [Row.toV,ha]; exact wk_append (wk_refl _) (wk_deeps h)
   · exact wk_refl _
 · simp only [Row.toV,ha,hm]; exact wk_refl _
 · simp only [Row.toV,ha]; exact wk_refl _
theorem Row.app_sc {a b:Row} (h:a.sc) (k:b.sc):(a.app b).sc:=by
 have hi:∀ (k:IntKind) (ks:List Int),∀ x ∈ ks.map (D.int k),x.scalar=true:=fun k ks x hx=>by
  obtain ⟨n,_,rfl⟩:=List.mem_map.1 hx; rfl
 have ap:∀ {x y:List D},(∀ z ∈ x,z.scalar=true)→(∀ z ∈ y,z.scalar=true)→∀ z ∈ x ++ y,z.scalar=true:=fun h k z hz=>(List.mem_append.1 hz).elim (h z) (k z)
 cases a <;> cases b <;> simp only [Row.app] <;> first | trivial | skip
 · split <;> trivial
 · split
   · rename_i l hl; exact ap (deepsOf_sc hl) k
   · trivial
 · split <;> trivial
 · split <;> trivial
 · exact ap (hi _ _) k
 · split
   · rename_i l hl; exact ap h (deepsOf_sc hl)
   · trivial
 · exact ap h (hi _ _)
 · exact ap h k
theorem Row.cut_sc {o size:Nat} {r r':Row} (h:r.cut o size=some r') (k:r.sc):r'.sc:=by
 cases r with
 | vs cs=>simp only [Row.cut] at h; split at h <;> first | (cases h; trivial) | cases h
 | is k ks=>simp only [Row.cut] at h; split at h <;> first | (cases h; trivial) | cases h
 | ds cs=>
   simp only [Row.cut] at h; split at h
   · cases h; exact fun x hx=>k x (List.mem_of_mem_drop (List.mem_of_mem_take hx))
   · cases h
theorem Row.cut_toV {o size:Nat} {r r':Row} (h:r.cut o size=some r'):Eng.cut r.toV o size=some r'.toV:=by
 cases r with
 | vs cs=>
   simp only [Row.cut] at h
   split at h
   · rename_i q; simp only [Option.some.injEq] at h; subst h; exact q
   · cases h
 | is k ks=>
   simp only [Row.cut] at h
   split at h
   · rename_i q
     simp only [Option.some.injEq] at h; subst h
     simp only [Eng.cut,Row.toV,List.length_map,if_pos q,List.map_take,List.map_drop]
   · cases h
 | ds cs=>
   simp only [Row.cut] at h
   split at h
   · rename_i q
     simp only [Option.some.injEq] at h; subst h
     simp only [Eng.cut,Row.toV,D.toVs_map,List.length_map,if_pos q,List.map_take,List.map_drop]
   · cases h
theorem Row.flat_toV {r:Row} (h:r.flat=true) (k:r.sc):r.toV.all V.scalar=true:=by
 cases r with
 | vs cs=>exact h
 | is k ks=>simp [Row.toV,V.scalar]
 | ds cs=>exact toVs_scalar k
theorem orel_row {E:Env} {w:World} {b s:Nat} {o:O} {r:Row} (h:o.row=some r) (q:orel E w b s o):(∃ c el fz,w.heap[b]? =some (.cells c el fz)∧c.size=E.β b∧unfrozen fz c.size∧crel E s r.toV c)∧r.sc:=by
 cases o <;> simp only [O.row,Option.some.injEq,reduceCtorEq] at h <;> subst h
 · exact ⟨q,trivial⟩
 · exact ⟨q,trivial⟩
 · obtain ⟨c,el,fz,vs,h1,h2,h3,h4,h5⟩:=q
   exact ⟨⟨c,el,fz,h1,h2,h3,(crel_deep (drels_scalar h4)).2 ⟨vs,h4,h5⟩⟩,drels_scalar h4⟩
theorem orel_rowR {E:Env} {w:World} {b s:Nat} {o:O} {r:Row} (h:o.rowR=some r) (q:orel E w b s o):(∃ c el fz,w.heap[b]? =some (.cells c el fz)∧c.size=E.β b∧crel E s r.toV c)∧r.sc:=by
 cases o <;> simp only [O.rowR,Option.some.injEq,reduceCtorEq] at h <;> subst h
 · obtain ⟨c,el,fz,h1,h2,_,h4⟩:=q; exact ⟨⟨c,el,fz,h1,h2,h4⟩,trivial⟩
 · obtain ⟨c,el,fz,h1,h2,h3⟩:=q; exact ⟨⟨c,el,fz,h1,h2,crel_ints.2 h3⟩,trivial⟩
 · obtain ⟨c,el,fz,h1,h2,_,h4⟩:=q; exact ⟨⟨c,el,fz,h1,h2,h4⟩,trivial⟩
 · obtain ⟨c,el,fz,vs,h1,h2,h3,h4,h5⟩:=q
   exact ⟨⟨c,el,fz,h1,h2,(crel_deep (drels_scalar h4)).2 ⟨vs,h4,h5⟩⟩,drels_scalar h4⟩
theorem orel_toO {E:Env} {w:World} {b s:Nat} {r:Row} (q:∃ c el fz,w.heap[b]? =some (.cells c el fz)∧c.size=E.β b∧unfrozen fz c.size∧crel E s r.toV c) (k:r.sc):orel E w b s r.toO:=by
 cases r with
 | ds cs=>
   obtain ⟨c,el,fz,h1,h2,h3,h4⟩:=q
   obtain ⟨vs,h5,h6⟩:=(crel_deep k).1 h4
   exact ⟨c,el,fz,vs,h1,h2,h3,h5,h6⟩
 | _=>exact q
theorem row_wr {o:O} {r:Row} (h:o.row=some r):o.wr=true:=by cases o <;> simp [O.row] at h <;> rfl
def wlive (h:Tr O) (m:Nat):Prop:=∃ o,h.get m=some o∧o.wr=true
theorem wlive_of {h h':Tr O} {m n:Nat} (e:h.get m=h'.get n) (k:wlive h m):wlive h' n:=by obtain ⟨o,a,b⟩:=k; exact ⟨o,e.symm.trans a,b⟩
theorem wlive_set {h:Tr O} {n m:Nat} {x:Option O} (hn:n < top):wlive (h.set n x) m→(m=n∧∃ o,x=some o∧o.wr=true) ∨ (m ≠ n∧wlive h m):=by
 rintro ⟨o,e,k⟩
 rw [Tr.get_set _ _ _ hn] at e
 split at e
 · rename_i q; exact .inl ⟨q,o,e,k⟩
 · rename_i q; exact .inr ⟨q,o,e,k⟩
theorem wlive_ne {h:Tr O} {n m:Nat} {x:Option O} (hn:n < top) (k:wlive (h.set n x) m) (q:m ≠ n):wlive h m:=
 (wlive_set hn k).elim (fun c=>absurd c.1 q) (·.2)
theorem wlive.live {h:Tr O} {m:Nat} (k:wlive h m):h.get m ≠ none:=by obtain ⟨o,e,_⟩:=k; rw [e]; simp
structure Good (E:Env) (h:Tr O) (w:World):Prop where
 rel:∀ m o,h.get m=some o→∃ b s,E.ι m=some (b,s)∧orel E w b s o
 inj:∀ m m' b s s',m ≠ m'→wlive h m→h.get m' ≠ none→E.ι m=some (b,s)→E.ι m'=some (b,s')→False
 bnd:∀ m b s,E.ι m=some (b,s)→b < w.heap.size
 glob:GE E
 froz:∀ b c,E.φ b=some c→(∃ el fz,w.heap[b]? =some (.cells c el fz))∧∀ m s,wlive h m→E.ι m ≠ some (b,s)
structure Upd (E:Env) (h:Tr O) (w:World) (E':Env) (h':Tr O) (w':World):Prop where
 le:E.le E'
 good:Good E' h' w'
 size:w.heap.size ≤ w'.heap.size
 tape:w'.tape=w.tape
 os:w'.os=w.os
 output:w'.output=w.output
 keep:∀ b,b < w.heap.size→(∀ m s,wlive h m→E.ι m ≠ some (b,s))→w'.heap[b]? =w.heap[b]?
 img:∀ m b s,h'.get m ≠ none→E'.ι m=some (b,s)→b < w.heap.size→∃ m0 s0,h.get m0 ≠ none∧E.ι m0=some (b,s0)∧(wlive h' m→wlive h m0)
 fzn:∀ b c,E'.φ b=some c→E.φ b=some c ∨ w.heap.size ≤ b ∨ ∃ m s,wlive h m∧E.ι m=some (b,s)
theorem Upd.refl {E:Env} {h:Tr O} {w:World} (g:Good E h w):Upd E h w E h w:=
 ⟨E.le_refl,g,Nat.le_refl _,rfl,rfl,rfl,fun _ _ _=>rfl,fun m _ s hm e _=>⟨m,s,hm,e,id⟩,fun _ _ q=>.inl q⟩
theorem Upd.trans {E E1 E2:Env} {h h1 h2:Tr O} {w w1 w2:World} (a:Upd E h w E1 h1 w1) (b:Upd E1 h1 w1 E2 h2 w2):Upd E h w E2 h2 w2 where
 le:=Env.le_trans a.le b.le
 good:=b.good
 size:=Nat.le_trans a.size b.size
 tape:=b.tape.trans a.tape
 os:=b.os.trans a.os
 output:=b.output.trans a.output
 keep:=fun x hx hn=>by
  rw [b.keep x (Nat.lt_of_lt_of_le hx a.size) ?_,a.keep x hx hn]
  intro m s hm e
  obtain ⟨m0,s0,h0,e0,k0⟩:=a.img m x s hm.live e hx
  exact hn m0 s0 (k0 hm) e0
 img:=fun m x s hm e hx=>by
  obtain ⟨m1,s1,h1',e1,k1⟩:=b.img m x s hm e (Nat.lt_of_lt_of_le hx a.size)
  obtain ⟨m2,s2,h2,e2,k2⟩:=a.img m1 x s1 h1' e1 hx
  exact ⟨m2,s2,h2,e2,fun q=>k2 (k1 q)⟩
 fzn:=fun x c hc=>by
  rcases b.fzn x c hc with q | q | ⟨m,s,q1,q2⟩
  · exact a.fzn x c q
  · exact .inr (.inl (Nat.le_trans a.size q))
  · rcases Nat.lt_or_ge x w.heap.size with hx | hx
    · obtain ⟨m0,s0,_,e0,k0⟩:=a.img m x s q1.live q2 hx
      exact .inr (.inr ⟨m0,s0,k0 q1,e0⟩)
    · exact .inr (.inl hx)
theorem Good.same {E:Env} {h:Tr O} {w w':World} (g:Good E h w) (e:w'.heap=w.heap):Good E h w' where
 rel:=fun m o hm=>let ⟨b,s,h1,h2⟩:=g.rel m o hm; ⟨b,s,h1,orel_mono E.le_refl rfl (by rw [e]) h2⟩
 inj:=g.inj
 bnd:=fun m b s h=>by rw [e]; exact g.bnd m b s h
 glob:=g.glob
 froz:=fun b c q=>⟨by rw [e]; exact (g.froz b c q).1,(g.froz b c q).2⟩
theorem Upd.drew {E:Env} {h:Tr O} {w:World} (g:Good E h w):Upd E h w E h w.drew:=
 ⟨E.le_refl,g.same rfl,Nat.le_refl _,rfl,rfl,rfl,fun _ _ _=>rfl,fun m _ s hm e _=>⟨m,s,hm,e,id⟩,fun _ _ q=>.inl q⟩
def Env.put (E:Env) (n b s z:Nat):Env:={ ι:=fun m=>if m=n then some (b,s) else E.ι m,β:=fun x=>if x=b then z else E.β x,φ:=E.φ }
theorem Env.put_same {E:Env} {n b s z:Nat}:(E.put n b s z).ι n=some (b,s):=by simp [Env.put]
theorem Env.put_ne {E:Env} {n b s z m:Nat} (h:m ≠ n):(E.put n b s z).ι m=E.ι m:=by simp [Env.put,h]
theorem Env.le_put {E:Env} {n b s z:Nat} (hn:E.ι n=none) (hb:∀ m x t,E.ι m=some (x,t)→x=b→E.β b=z):E.le (E.put n b s z):=by
 refine ⟨?_,fun _ _ h=>h⟩
 intro m x t e
 have:m ≠ n:=by intro h; rw [h,hn] at e; simp at e
 refine ⟨by rw [Env.put_ne this]; exact e,?_⟩
 show (if x=b then z else E.β x)=E.β x
 split
 · rename_i h; rw [← hb m x t e h,h]
 · rfl
theorem heap_alloc_lt {w:World} {o:Obj} {b:Nat} (h:b < w.heap.size):(w.alloc o).heap[b]? =w.heap[b]?:=by
 simp only [World.alloc,Array.getElem?_push]; rw [if_neg (by omega)]
theorem heap_alloc_new {w:World} {o:Obj}:(w.alloc o).heap[w.heap.size]? =some o:=by
 simp only [World.alloc,Array.getElem?_push,if_true]
def sizeOfObj:Obj→Nat
 | .cells c _ _=>c.size
 | _=>0
theorem Upd.alloc {E:Env} {h:Tr O} {w:World} {n:Nat} {o:O} {ob:Obj} (g:Good E h w) (hn:E.ι n=none) (ht:n < top)
  (ho:orel (E.put n w.heap.size 0 (sizeOfObj ob)) (w.alloc ob) w.heap.size 0 o):
  Upd E h w (E.put n w.heap.size 0 (sizeOfObj ob)) (h.set n (some o)) (w.alloc ob):=by
 have hfresh:∀ m b s,E.ι m=some (b,s)→b ≠ w.heap.size:=fun m b s e hb=>by have:=g.bnd m b s e; omega
 have hle:E.le (E.put n w.heap.size 0 (sizeOfObj ob)):=Env.le_put hn fun m x t e hx=>absurd hx (hfresh m x t e)
 have hfz:∀ b c,E.φ b=some c→b < w.heap.size:=fun b c q=>by
  obtain ⟨⟨el,fz,e⟩,_⟩:=g.froz b c q
  exact (Array.getElem?_eq_some_iff.1 e).1
 refine ⟨hle,⟨?_,?_,?_,g.glob.mono hle,fun b c q=>⟨by rw [heap_alloc_lt (hfz b c q)]; exact (g.froz b c q).1,fun m s hm e=>?_⟩⟩,by simp,rfl,rfl,rfl,fun b hb _=>heap_alloc_lt hb,?_,fun _ _ q=>.inl q⟩
 case refine_4=>
  by_cases a:m=n
  · subst a; rw [Env.put_same] at e; cases e; exact absurd (hfz _ c q) (Nat.lt_irrefl _)
  · rw [Env.put_ne a] at e; exact (g.froz b c q).2 m s (wlive_ne ht hm a) e
 · intro m o' hm
   rw [Tr.get_set _ _ _ ht] at hm
   by_cases e:m=n
   · subst e; rw [if_pos rfl] at hm; cases hm; exact ⟨_,_,Env.put_same,ho⟩
   · rw [if_neg e] at hm
     obtain ⟨b,s,h1,h2⟩:=g.rel m o' hm
     exact ⟨b,s,by rw [Env.put_ne e]; exact h1,orel_mono hle (hle.nm m b s h1).2 (heap_alloc_lt (g.bnd m b s h1)) h2⟩
 · intro m m' b s s' hne hm hm' e e'
   rw [Tr.get_set _ _ _ ht] at hm'
   by_cases a:m=n
   · subst a
     rw [Env.put_same] at e
     have:m' ≠ m:=fun x=>hne x.symm
     rw [Env.put_ne this] at e'
     cases e; exact hfresh _ _ _ e' rfl
   · rw [Env.put_ne a] at e
     replace hm:wlive h m:=wlive_ne ht hm a
     by_cases a':m'=n
     · subst a'; rw [Env.put_same] at e'; cases e'; exact hfresh _ _ _ e rfl
     · rw [Env.put_ne a'] at e'; rw [if_neg a'] at hm'
       exact g.inj m m' b s s' hne hm hm' e e'
 · intro m b s e
   by_cases a:m=n
   · subst a; rw [Env.put_same] at e; cases e; simp
   · rw [Env.put_ne a] at e; have:=g.bnd m b s e; simp; omega
 · intro m b s hm e hb
   by_cases a:m=n
   · subst a; rw [Env.put_same] at e; cases e; omega
   · rw [Env.put_ne a] at e; rw [Tr.get_set _ _ _ ht,if_neg a] at hm
     exact ⟨m,s,hm,e,fun q=>wlive_ne ht q a⟩
theorem Upd.write {E:Env} {h:Tr O} {w w':World} {m b s:Nat} {o:O} (g:Good E h w) (ht:m < top) (hlive:wlive h m) (hm:E.ι m=some (b,s))
  (hsize:w'.heap.size=w.heap.size) (htape:w'.tape=w.tape) (hos:w'.os=w.os) (hout:w'.output=w.output)
  (hother:∀ x,x ≠ b→w'.heap[x]? =w.heap[x]?) (ho:orel E w' b s o):Upd E h w E (h.set m (some o)) w':=by
 refine ⟨E.le_refl,⟨?_,?_,?_,g.glob,fun b' c q=>⟨?_,fun k t hk e=>?_⟩⟩,by omega,htape,hos,hout,?_,?_,fun _ _ q=>.inl q⟩
 case refine_4=>rw [hother b' fun e=>(g.froz b' c q).2 m s hlive (e ▸ hm)]; exact (g.froz b' c q).1
 case refine_5=>
  rcases wlive_set ht hk with ⟨a,_⟩ | a
  · exact (g.froz b' c q).2 m t hlive (a ▸ e)
  · exact (g.froz b' c q).2 k t a.2 e
 · intro k o' hk
   rw [Tr.get_set _ _ _ ht] at hk
   by_cases e:k=m
   · subst e; rw [if_pos rfl] at hk; cases hk; exact ⟨b,s,hm,ho⟩
   · rw [if_neg e] at hk
     obtain ⟨b',s',h1,h2⟩:=g.rel k o' hk
     have hne:b' ≠ b:=by
      intro hb; subst hb
      exact g.inj m k b' s s' (fun q=>e q.symm) hlive (by rw [hk]; simp) hm h1
     exact ⟨b',s',h1,orel_mono E.le_refl rfl (hother b' hne) h2⟩
 · intro k k' x t t' hne hk hk' e e'
   refine g.inj k k' x t t' hne ?_ ?_ e e'
   · rcases wlive_set ht hk with ⟨q,_⟩ | q
     · rw [q]; exact hlive
     · exact q.2
   · rw [Tr.get_set _ _ _ ht] at hk'; split at hk'
     · rename_i q; rw [q]; exact hlive.live
     · exact hk'
 · intro k x t e; rw [hsize]; exact g.bnd k x t e
 · intro x _ hn
   refine hother x ?_
   intro hx; subst hx; exact hn m s hlive hm
 · intro k x t hk e _
   by_cases q:k=m
   · subst q; exact ⟨k,t,hlive.live,e,fun _=>hlive⟩
   · rw [Tr.get_set _ _ _ ht,if_neg q] at hk
     exact ⟨k,t,hk,e,fun c=>wlive_ne ht c q⟩
theorem Upd.move {E:Env} {h:Tr O} {w w':World} {m n b s s':Nat} {o:O} (g:Good E h w) (ht:m < top) (hn:n < top) (hnew:E.ι n=none) (hlive:wlive h m) (hm:E.ι m=some (b,s))
  (hsize:w'.heap.size=w.heap.size) (htape:w'.tape=w.tape) (hos:w'.os=w.os) (hout:w'.output=w.output)
  (hother:∀ x,x ≠ b→w'.heap[x]? =w.heap[x]?) (ho:orel (E.put n b s' (E.β b)) w' b s' o):
  Upd E h w (E.put n b s' (E.β b)) ((h.set m none).set n (some o)) w':=by
 have hmn:m ≠ n:=by intro e; rw [e,hnew] at hm; simp at hm
 have hle:E.le (E.put n b s' (E.β b)):=Env.le_put hnew fun _ _ _ _ _=>rfl
 have hget:∀ k,((h.set m none).set n (some o)).get k=if k=n then some o else if k=m then none else h.get k:=by
  intro k; rw [Tr.get_set _ _ _ hn]; split
  · rfl
  · rw [Tr.get_set _ _ _ ht]
 have hwl:∀ k,wlive ((h.set m none).set n (some o)) k→k=n ∨ (k ≠ n∧k ≠ m∧wlive h k):=by
  intro k q
  rcases wlive_set hn q with q | q
  · exact .inl q.1
  · rcases wlive_set ht q.2 with c | c
    · obtain ⟨_,_,c,_⟩:=c; cases c
    · exact .inr ⟨q.1,c.1,c.2⟩
 refine ⟨hle,⟨?_,?_,?_,g.glob.mono hle,fun b2 c q=>⟨?_,fun k t hk e=>?_⟩⟩,by omega,htape,hos,hout,?_,?_,fun _ _ q=>.inl q⟩
 case refine_4=>rw [hother b2 fun e=>(g.froz b2 c q).2 m s hlive (e ▸ hm)]; exact (g.froz b2 c q).1
 case refine_5=>
  rcases hwl k hk with a | ⟨a,_,a2⟩
  · subst a; rw [Env.put_same] at e; cases e; exact (g.froz _ c q).2 m s hlive hm
  · rw [Env.put_ne a] at e; exact (g.froz b2 c q).2 k t a2 e
 · intro k o' hk
   rw [hget] at hk
   by_cases e:k=n
   · subst e; rw [if_pos rfl] at hk; cases hk; exact ⟨_,_,Env.put_same,ho⟩
   · rw [if_neg e] at hk
     by_cases e2:k=m
     · rw [if_pos e2] at hk; cases hk
     · rw [if_neg e2] at hk
       obtain ⟨b',t,h1,h2⟩:=g.rel k o' hk
       have hne:b' ≠ b:=by
        intro hb; subst hb
        exact g.inj m k b' s t (fun q=>e2 q.symm) hlive (by rw [hk]; simp) hm h1
       exact ⟨b',t,by rw [Env.put_ne e]; exact h1,orel_mono hle (hle.nm k b' t h1).2 (hother b' hne) h2⟩
 · intro k k' x t t' hne hk hk' e e'
   rw [hget] at hk'
   rcases hwl k hk with a | ⟨a,c,hk0⟩
   · subst a
     rw [Env.put_same] at e; cases e
     have a':k' ≠ k:=fun q=>hne q.symm
     rw [Env.put_ne a'] at e'; rw [if_neg a'] at hk'
     by_cases c:k'=m
     · rw [if_pos c] at hk'; exact hk' rfl
     · rw [if_neg c] at hk'; exact g.inj m k' b s t' (fun q=>c q.symm) hlive hk' hm e'
   · rw [Env.put_ne a] at e
     by_cases a':k'=n
     · subst a'; rw [Env.put_same] at e'; cases e'; exact g.inj m k b s t (fun q=>c q.symm) hlive hk0.live hm e
     · rw [Env.put_ne a'] at e'; rw [if_neg a'] at hk'
       by_cases c':k'=m
       · rw [if_pos c'] at hk'; exact hk' rfl
       · rw [if_neg c'] at hk'; exact g.inj k k' x t t' hne hk0 hk' e e'
 · intro k x t e
   by_cases a:k=n
   · subst a; rw [Env.put_same] at e; cases e; rw [hsize]; exact g.bnd m b s hm
   · rw [Env.put_ne a] at e; rw [hsize]; exact g.bnd k x t e
 · intro x _ hx
   refine hother x ?_
   intro q; subst q; exact hx m s hlive hm
 · intro k x t hk e _
   rw [hget] at hk
   by_cases a:k=n
   · subst a; rw [Env.put_same] at e; cases e; exact ⟨m,s,hlive.live,hm,fun _=>hlive⟩
   · rw [Env.put_ne a] at e; rw [if_neg a] at hk
     by_cases c:k=m
     · rw [if_pos c] at hk; exact absurd rfl hk
     · rw [if_neg c] at hk; exact ⟨k,t,hk,e,fun q=>(hwl k q).elim (fun c=>absurd c a) (·.2.2)⟩
theorem live_sub {h h':Tr O} (hs:∀ m o,h'.get m=some o→h.get m=some o) {m:Nat} (k:h'.get m ≠ none):h.get m ≠ none:=by
 cases q:h'.get m with
 | none=>exact absurd q k
 | some o=>rw [hs m o q]; simp
theorem wlive_sub {h h':Tr O} (hs:∀ m o,h'.get m=some o→h.get m=some o) {m:Nat} (k:wlive h' m):wlive h m:=by
 obtain ⟨o,a,b⟩:=k; exact ⟨o,hs m o a,b⟩
theorem Good.sub {E:Env} {h h':Tr O} {w:World} (g:Good E h w) (hs:∀ m o,h'.get m=some o→h.get m=some o):Good E h' w where
 rel:=fun m o hm=>g.rel m o (hs m o hm)
 inj:=fun m m' b s s' hne hm hm' e e'=>g.inj m m' b s s' hne (wlive_sub hs hm) (live_sub hs hm') e e'
 bnd:=g.bnd
 glob:=g.glob
 froz:=fun b c q=>⟨(g.froz b c q).1,fun m s hm=>(g.froz b c q).2 m s (wlive_sub hs hm)⟩
theorem Upd.forget {E:Env} {h:Tr O} {w:World} {m:Nat} (g:Good E h w) (ht:m < top):Upd E h w E (h.set m none) w:=by
 have hs:∀ k o,(h.set m none).get k=some o→h.get k=some o:=by
  intro k o hk; rw [Tr.get_set _ _ _ ht] at hk; split at hk
  · cases hk
  · exact hk
 exact ⟨E.le_refl,g.sub hs,Nat.le_refl _,rfl,rfl,rfl,fun _ _ _=>rfl,fun k b s hk e _=>⟨k,s,live_sub hs hk,e,wlive_sub hs⟩,fun _ _ q=>.inl q⟩
theorem Addr.add_none (b o n:Nat):(⟨b,o,none⟩:Addr).add n=⟨b,o+n,none⟩:=by
 unfold Addr.add; split
 · rename_i h; subst h; rfl
 · rfl
theorem cell_of_heap {w:World} {b i:Nat} {c:Array Value} {el:TypeId} {fz:Nat × Nat} (h:w.heap[b]? =some (.cells c el fz)):w.cell? ⟨b,i,none⟩=c[i]?:=by
 simp [World.cell?,h]
theorem run_loadCellsFrom {P:Program} {w:World} {b o:Nat} {c:Array Value} {el:TypeId} {fz:Nat × Nat} (h:w.heap[b]? =some (.cells c el fz)):
  ∀ (n i:Nat) (acc:Array Value),o+i+n ≤ c.size→(loadCellsFrom ⟨b,o,none⟩ i n acc).run P w= .ok (acc ++ ((c.toList.drop (o+i)).take n).toArray) w
 | 0,i,acc,_=>by simp [loadCellsFrom]
 | n+1,i,acc,hn=>by
   have hlt:o+i < c.size:=by omega
   simp only [loadCellsFrom,Sem.run_bind,run_load,Addr.add_none,cell_of_heap h]
   rw [Array.getElem?_eq_getElem hlt]
   simp only [Result.andThen_ok]
   rw [run_loadCellsFrom h n (i+1) _ (by omega)]
   congr 1
   have hd:c.toList.drop (o+i)=c[o+i] :: c.toList.drop (o+(i+1)):=by
    rw [List.drop_eq_getElem_cons (by simpa using hlt)]; simp [Nat.add_assoc]
   rw [hd]
   simp
theorem run_loadCells {P:Program} {w:World} {b o n:Nat} {c:Array Value} {el:TypeId} {fz:Nat × Nat} (h:w.heap[b]? =some (.cells c el fz)) (hn:o+n ≤ c.size):
  (loadCells ⟨b,o,none⟩ n).run P w= .ok ((c.toList.drop o).take n).toArray w:=by
 unfold loadCells; rw [run_loadCellsFrom h n 0 #[] (by omega)]; simp
def putCells (c:Array Value) (o:Nat) (vs:List Value):Array Value:=(c.toList.take o ++ (vs ++ c.toList.drop (o+vs.length))).toArray
theorem putCells_size {c:Array Value} {o:Nat} {vs:List Value} (h:o+vs.length ≤ c.size):(putCells c o vs).size=c.size:=by
 simp [putCells]; omega
theorem putCells_get {c:Array Value} {o:Nat} {vs:List Value} (h:o+vs.length ≤ c.size) (j:Nat):
  (putCells c o vs)[j]? =if o ≤ j∧j < o+vs.length then vs[j - o]? else c[j]?:=by
 simp only [putCells,List.getElem?_toArray]
 rw [List.getElem?_append]
 have hl:(List.take o c.toList).length=o:=by simp; omega
 rw [hl]
 by_cases h1:j < o
 · rw [if_pos h1,if_neg (by omega),List.getElem?_take,if_pos h1]; simp
 · rw [if_neg h1,List.getElem?_append]
   by_cases h2:j < o+vs.length
   · rw [if_pos (by omega),if_pos (by omega)]
   · rw [if_neg (by omega),if_neg (by omega),List.getElem?_drop]
     simp; congr 1; omega
theorem putCells_cons {c:Array Value} {o:Nat} {v:Value} {vs:List Value} (h:o+(vs.length+1) ≤ c.size):
  putCells (c.setIfInBounds o v) (o+1) vs=putCells c o (v :: vs):=by
 have e1:o+1+vs.length ≤ (c.setIfInBounds o v).size:=by simp; omega
 have e2:o+(v :: vs).length ≤ c.size:=by simpa using h
 apply Array.ext
 · rw [putCells_size e1,putCells_size e2]; simp
 · intro j h1 h2
   have:(putCells (c.setIfInBounds o v) (o+1) vs)[j]? =(putCells c o (v :: vs))[j]?:=by
    rw [putCells_get e1,putCells_get e2]
    by_cases a:j=o
    · subst a
      rw [if_neg (by omega),if_pos (by simp)]
      have hj:j < c.size:=by omega
      simp [hj]
    · by_cases b:o+1 ≤ j∧j < o+1+vs.length
      · rw [if_pos b,if_pos (by simp; omega)]
        have:j - o=(j - (o+1))+1:=by omega
        rw [this]; simp
      · rw [if_neg b,if_neg (by simp; omega)]
        rw [Array.getElem?_setIfInBounds]; rw [if_neg (fun q=>a q.symm)]
   rw [Array.getElem?_eq_getElem h1,Array.getElem?_eq_getElem h2] at this
   exact Option.some.inj this
theorem run_storeCells {P:Program} {b o:Nat} {el:TypeId} {fz:Nat × Nat}:∀ (vs:List Value) (i:Nat) (w:World) (c:Array Value),w.heap[b]? =some (.cells c el fz)→
  unfrozen fz c.size→(∀ v ∈ vs,v.oneCell'=true)→o+i+vs.length ≤ c.size→
  ∃ w',(storeCells ⟨b,o,none⟩ vs i).run P w= .ok () w'∧w'.heap[b]? =some (.cells (putCells c (o+i) vs) el fz)∧w'.heap.size=w.heap.size∧w'.tape=w.tape∧w'.os=w.os∧w'.output=w.output∧
    ∀ x,x ≠ b→w'.heap[x]? =w.heap[x]?
 | [],i,w,c,h,_,_,hn=>by
   refine ⟨w,rfl,?_,rfl,rfl,rfl,rfl,fun _ _=>rfl⟩
   rw [h]
   have:putCells c (o+i) []=c:=by simp [putCells]
   rw [this]
 | v :: vs,i,w,c,h,hf,hv,hn=>by
   simp only [List.length_cons] at hn
   have hlt:o+i < c.size:=by omega
   have hnf:w.frozen? ⟨b,o+i,none⟩=false:=by
    have:=hf (o+i) hlt
    simp only [World.frozen?,h]
    simpa using this
   let w1:=w.setCell ⟨b,o+i,none⟩ v
   have hw1:w1.heap[b]? =some (.cells (c.setIfInBounds (o+i) v) el fz):=by
    simp [w1,World.setCell,Array.getElem?_modify,h]
   obtain ⟨w',e1,e2,e3,e4,e5,e6,e7⟩:=run_storeCells (P:=P) (o:=o) vs (i+1) w1 (c.setIfInBounds (o+i) v) hw1 (by simpa using hf) (fun v hv'=>hv v (by simp [hv'])) (by simp only [Array.size_setIfInBounds]; omega)
   refine ⟨w',?_,?_,by rw [e3]; simp [w1],by rw [e4]; rfl,by rw [e5]; rfl,by rw [e6]; rfl,?_⟩
   · simp only [storeCells,Sem.run_bind]
     rw [run_store P w _ v .plain (hv v (by simp)),Addr.add_none,cell_of_heap h,Array.getElem?_eq_getElem hlt]
     simp only [hnf,Bool.false_eq_true,if_false,Result.andThen_ok]
     exact e1
   · rw [e2]
     have:o+(i+1)=o+i+1:=by omega
     rw [this,putCells_cons (by omega)]
   · intro x hx
     rw [e7 x hx]
     simp [w1,World.setCell,Array.getElem?_modify,Ne.symm hx]
end Go.Eng
namespace Go.Eng
open Go
theorem ofScalar_rel {E:Env}:∀ {v:Value} {x:V},ofScalar v=some x→vrel E x v:=by
 intro v x h
 cases v with
 | bool b=>simp only [ofScalar,Option.some.injEq] at h; subst h; rfl
 | int k n=>simp only [ofScalar,Option.some.injEq] at h; subst h; rfl
 | string s=>
   simp only [ofScalar,Option.some.injEq] at h; subst h
   show Value.string s= .string ⟨s.data.toList.toArray⟩
   rw [Array.toArray_toList]
 | pointer a=>cases a <;> simp only [ofScalar,Option.some.injEq] at h; · subst h; rfl
              · cases h
 | slice a l c=>
   cases a with
   | none=>match l,c,h with
     | 0,0,h=>simp only [ofScalar,Option.some.injEq] at h; subst h; exact ⟨rfl,rfl,rfl⟩
   | some a=>simp [ofScalar] at h
 | map a=>cases a <;> simp only [ofScalar,Option.some.injEq] at h; · subst h; rfl
          · cases h
 | nilFunc=>simp only [ofScalar,Option.some.injEq] at h; subst h; rfl
 | nilIface=>simp only [ofScalar,Option.some.injEq] at h; subst h; rfl
 | _=>simp [ofScalar] at h
theorem ofScalars_rel {E:Env}:∀ {vs:List Value} {xs:List V},ofScalars vs=some xs→vrels E xs vs
 | [],xs,h=>by simp only [ofScalars,Option.some.injEq] at h; subst h; rfl
 | v :: vs,xs,h=>by
   simp only [ofScalars] at h
   cases h1:ofScalar v with
   | none=>simp [h1] at h
   | some x=>cases h2:ofScalars vs with
     | none=>simp [h1,h2] at h
     | some r=>simp only [h1,h2,Option.some.injEq] at h; subst h; exact ⟨v,vs,ofScalar_rel h1,ofScalars_rel h2,rfl⟩
theorem ofVal_rel {E:Env} {v:Value} {x:V} (h:ofVal v=some x):vrel E x v:=by
 unfold ofVal at h
 split at h
 · rename_i cs
   cases h1:ofScalars cs.toList with
   | none=>simp [h1] at h
   | some r=>simp only [h1,Option.some.injEq] at h; subst h; exact ⟨cs.toList,ofScalars_rel h1,by simp⟩
 · exact ofScalar_rel h
section runs
variable {P:Program} {w:World}
theorem run_und {t:TypeId} {d:TypeDesc} (h:P.underlying t=some d):(underlying t).run P w= .ok d w:=by simp [underlying,h]
theorem run_sizeOf' {t:TypeId} {s:Nat} (h:szof P t=some s):(sizeOf t).run P w= .ok s w:=by
 unfold szof at h
 cases hi:P.info? t with
 | none=>simp [hi] at h
 | some i=>simp [hi] at h; simp [sizeOf,typeInfo,hi,h]
theorem run_zero {t:TypeId} {z:V} (E:Env) (h:zeroOf P t=some z):∃ z',(zeroValue t).run P w= .ok z' w∧vrel E z z'∧(∃ i,P.info? t=some i∧i.zero=some z'):=by
 unfold zeroOf at h
 cases hi:P.info? t with
 | none=>simp [hi] at h
 | some i=>
   simp only [hi] at h
   cases hz:i.zero with
   | none=>simp [hz] at h
   | some v=>simp only [hz] at h; exact ⟨v,by simp [zeroValue,typeInfo,hi,hz],ofVal_rel h,i,rfl,hz⟩
theorem run_isAgg {t:TypeId} {b:Bool} (h:aggT P t=some b):(isAgg t).run P w= .ok b w:=by
 unfold aggT at h
 split at h
 · rename_i hu; simp at h; subst h; simp [isAgg,run_und hu]
 · rename_i hu; simp at h; subst h; simp [isAgg,run_und hu]
 · rename_i d h1 h2 hu
   simp at h; subst h
   simp only [isAgg,Sem.run_bind,run_und hu,Result.andThen_ok]
   first | rfl | (split <;> first | rfl | (exact absurd rfl (h1 _)) | (exact absurd rfl (h2 _ _)))
 · cases h
end runs
def OpOk (P:Program) (E:Env) (h:Tr O) (n:Nat) (w:World) (s:Sem Next):R→Prop
 | .val v h' n'=>∃ E' w' v',(s.run P w= .ok (.value v') w' ∨ (s.run P w= .ok .skip w'∧v'=undef))∧vrel E' v v'∧Upd E h w E' h' w'∧
    (∀ m,m ≠ n→E'.ι m=E.ι m)∧((n'=n∧E'=E) ∨ n'=n+1)
 | .call f args=>∃ args',vrels E args args'∧((s.run P w= .ok (.enter f args'.toArray) w∧callee P f=true) ∨ (∃ m l b,f=P.funcs.size+m∧E.ι m=some (l,b)∧s.run P w=(Instr.yield l args'.toArray).run P w))
 | .dfr f c args=>∃ c' args',s.run P w= .ok (.defer { target:=.fn (.func f) c'.toArray,args:=args'.toArray }) w∧vrels E c c'∧vrels E args args'
 | .recover=>s.run P w= .ok .recover w
 | .panic v=>∃ v',s.run P w= .halt (.panic v') w∧vrel E v v'
theorem ok_same {P:Program} {E:Env} {h:Tr O} {n:Nat} {w:World} {s:Sem Next} {v:V} {v':Value} (g:Good E h w)
  (hr:s.run P w= .ok (.value v') w) (hv:vrel E v v'):OpOk P E h n w s (.val v h n):=
 ⟨E,w,v',.inl hr,hv,Upd.refl g,fun _ _=>rfl,.inl ⟨rfl,rfl⟩⟩
theorem crel_of_vrels {E:Env} {cs:List V} {c:Array Value} (r:vrels E cs c.toList):crel E 0 cs c:=by
 intro i v h
 obtain ⟨v',h1,h2⟩:=vrels_get r i v h
 exact ⟨v',by simpa using h1,h2⟩
theorem newObj_eq {h h':Tr O} {n n':Nat} {o:O} (e:newObj h n o=some (h',n')):n < top∧h'=h.set n (some o)∧n'=n+1:=by
 unfold newObj at e; split at e
 · rename_i q; simp at e; exact ⟨q,e.1.symm,e.2.symm⟩
 · cases e
theorem ok_newRowZ {P:Program} {E:Env} {h h':Tr O} {n n':Nat} {w w1:World} {s:Sem Next} {cs:List V} {c:Array Value} {el:TypeId} {fz:Nat × Nat} {v:V} {v':Value}
  (g:Good E h w) (hn:E.ι n=none) (e:newObj h n (.cells cs)=some (h',n')) (hw:w1.heap=w.heap) (ht:w1.tape=w.tape) (ho:w1.os=w.os) (hout:w1.output=w.output)
  (hfz:unfrozen fz c.size) (hr:s.run P w= .ok (.value v') (w1.alloc (.cells c el fz))) (hc:crel E 0 cs c)
  (hv:vrel (E.put n w.heap.size 0 c.size) v v'):OpOk P E h n w s (.val v h' n'):=by
 obtain ⟨htop,rfl,rfl⟩:=newObj_eq e
 have g1:Good E h w1:=g.same hw
 have hs:w1.heap.size=w.heap.size:=by rw [hw]
 have hle:E.le (E.put n w1.heap.size 0 c.size):=Env.le_put hn fun m x t q hx=>by have:=g1.bnd m x t q; omega
 have u1:Upd E h w E h w1:=⟨E.le_refl,g1,by omega,ht,ho,hout,fun b _ _=>by rw [hw],fun m _ s hm q _=>⟨m,s,hm,q,id⟩,fun _ _ q=>.inl q⟩
 have u:=Upd.alloc (ob:=.cells c el fz) (o:=.cells cs) g1 hn htop ⟨c,el,fz,heap_alloc_new,by simp [Env.put,sizeOfObj],hfz,crel_mono hle hc⟩
 refine ⟨E.put n w1.heap.size 0 c.size,_,v',.inl hr,by rw [hs]; exact hv,u1.trans u,fun m hm=>Env.put_ne hm,.inr rfl⟩
theorem ok_newRow {P:Program} {E:Env} {h h':Tr O} {n n':Nat} {w w1:World} {s:Sem Next} {cs:List V} {c:Array Value} {el:TypeId} {v:V} {v':Value}
  (g:Good E h w) (hn:E.ι n=none) (e:newObj h n (.cells cs)=some (h',n')) (hw:w1.heap=w.heap) (ht:w1.tape=w.tape) (ho:w1.os=w.os) (hout:w1.output=w.output)
  (hr:s.run P w= .ok (.value v') (w1.alloc (.cells c el))) (hc:crel E 0 cs c)
  (hv:vrel (E.put n w.heap.size 0 c.size) v v'):OpOk P E h n w s (.val v h' n'):=
 ok_newRowZ g hn e hw ht ho hout (fun i _ q=>by simp at q) hr hc hv
theorem ok_newRowZR {P:Program} {E:Env} {h h':Tr O} {n n':Nat} {w w1:World} {s:Sem Next} {r:Row} {c:Array Value} {el:TypeId} {fz:Nat × Nat} {v:V} {v':Value}
  (g:Good E h w) (hn:E.ι n=none) (hsc:r.sc) (e:newObj h n r.toO=some (h',n')) (hw:w1.heap=w.heap) (ht:w1.tape=w.tape) (ho:w1.os=w.os) (hout:w1.output=w.output)
  (hfz:unfrozen fz c.size) (hr:s.run P w= .ok (.value v') (w1.alloc (.cells c el fz))) (hc:crel E 0 r.toV c)
  (hv:vrel (E.put n w.heap.size 0 c.size) v v'):OpOk P E h n w s (.val v h' n'):=by
 obtain ⟨htop,rfl,rfl⟩:=newObj_eq e
 have g1:Good E h w1:=g.same hw
 have hs:w1.heap.size=w.heap.size:=by rw [hw]
 have hle:E.le (E.put n w1.heap.size 0 c.size):=Env.le_put hn fun m x t q hx=>by have:=g1.bnd m x t q; omega
 have u1:Upd E h w E h w1:=⟨E.le_refl,g1,by omega,ht,ho,hout,fun b _ _=>by rw [hw],fun m _ s hm q _=>⟨m,s,hm,q,id⟩,fun _ _ q=>.inl q⟩
 have u:=Upd.alloc (ob:=.cells c el fz) (o:=r.toO) g1 hn htop (orel_toO ⟨c,el,_,heap_alloc_new,by simp [Env.put,sizeOfObj],hfz,crel_mono hle hc⟩ hsc)
 refine ⟨E.put n w1.heap.size 0 c.size,_,v',.inl hr,by rw [hs]; exact hv,u1.trans u,fun m hm=>Env.put_ne hm,.inr rfl⟩
theorem ok_newRowR {P:Program} {E:Env} {h h':Tr O} {n n':Nat} {w w1:World} {s:Sem Next} {r:Row} {c:Array Value} {el:TypeId} {v:V} {v':Value}
  (g:Good E h w) (hn:E.ι n=none) (hsc:r.sc) (e:newObj h n r.toO=some (h',n')) (hw:w1.heap=w.heap) (ht:w1.tape=w.tape) (ho:w1.os=w.os) (hout:w1.output=w.output)
  (hr:s.run P w= .ok (.value v') (w1.alloc (.cells c el))) (hc:crel E 0 r.toV c)
  (hv:vrel (E.put n w.heap.size 0 c.size) v v'):OpOk P E h n w s (.val v h' n'):=by
 obtain ⟨htop,rfl,rfl⟩:=newObj_eq e
 have g1:Good E h w1:=g.same hw
 have hs:w1.heap.size=w.heap.size:=by rw [hw]
 have hle:E.le (E.put n w1.heap.size 0 c.size):=Env.le_put hn fun m x t q hx=>by have:=g1.bnd m x t q; omega
 have u1:Upd E h w E h w1:=⟨E.le_refl,g1,by omega,ht,ho,hout,fun b _ _=>by rw [hw],fun m _ s hm q _=>⟨m,s,hm,q,id⟩,fun _ _ q=>.inl q⟩
 have u:=Upd.alloc (ob:=.cells c el) (o:=r.toO) g1 hn htop (orel_toO ⟨c,el,_,heap_alloc_new,by simp [Env.put,sizeOfObj],(fun i _ q=>by simp at q),crel_mono hle hc⟩ hsc)
 refine ⟨E.put n w1.heap.size 0 c.size,_,v',.inl hr,by rw [hs]; exact hv,u1.trans u,fun m hm=>Env.put_ne hm,.inr rfl⟩
theorem le_new {E:Env} {h:Tr O} {w:World} {n z:Nat} (g:Good E h w) (hn:E.ι n=none):E.le (E.put n w.heap.size 0 z):=
 Env.le_put hn fun m x t q hx=>by have:=g.bnd m x t q; omega
section ops
variable {P:Program} {E:Env} {h:Tr O} {n:Nat} {w:World}
theorem allocO_cases (P:Program) (t:TypeId) (z:V):allocO P t z= .cells z.cells ∨ (z.cells=[.ptr none,.slc none 0 0 0]∧allocO P t z= .bld t false (.slc none 0 0 0)):=by
 unfold allocO
 split
 · rename_i hz
   split
   · split
     · split
       · split
         · exact .inr ⟨hz,rfl⟩
         · exact .inl rfl
       · exact .inl rfl
     · exact .inl rfl
   · exact .inl rfl
 · exact .inl rfl
theorem op_alloc {t:TypeId} {z:V} {h':Tr O} {n':Nat} (g:Good E h w) (hn:E.ι n=none) (hz:zeroOf P t=some z) (e:newObj h n (allocO P t z)=some (h',n')):
  OpOk P E h n w (do pure (.value (← Instr.alloc t true (.tuple #[])))) (.val (.ptr (some (n,0))) h' n'):=by
 obtain ⟨z',hr,hv,_⟩:=run_zero (w:=w) E hz
 rcases allocO_cases P t z with q | ⟨hc,q⟩
 case inr=>
  rw [q] at e
  obtain ⟨htop,rfl,rfl⟩:=newObj_eq e
  have hcs:=vrel_cells hv
  rw [hc] at hcs
  obtain ⟨p',_,r1,⟨x',_,r2,hnil,rfl⟩,hl⟩:=hcs
  simp only [vrels] at hnil; subst hnil
  simp only [vrel] at r1
  subst r1
  have hzc:z'.cells=#[.pointer none,x']:=by apply Array.ext'; rw [hl]
  have hu:=Upd.alloc (ob:=.cells z'.cells t) (o:=.bld t false (.slc none 0 0 0)) g hn htop ⟨rfl,x',_,by rw [heap_alloc_new,hzc]; rfl,by simp [Env.put,sizeOfObj,hzc],(fun i _ q=>by simp at q),vrel_mono (le_new g hn) _ _ r2⟩
  exact ⟨_,_,.pointer (some ⟨w.heap.size,0,none⟩),.inl (by simp [Instr.alloc,hr,newVar,newRow]),⟨_,_,Env.put_same,by simp⟩,hu,fun m hm=>Env.put_ne hm,.inr rfl⟩
 rw [q] at e
 refine ok_newRow (c:=z'.cells) (el:=t) (w1:=w) (v':=.pointer (some ⟨w.heap.size,0,none⟩)) g hn e rfl rfl rfl rfl ?_ (crel_of_vrels (vrel_cells hv)) ⟨_,_,Env.put_same,by simp⟩
 simp [Instr.alloc,hr,newVar,newRow]
theorem op_box {t:TypeId} {v:V} {v':Value} {h':Tr O} {n':Nat} (g:Good E h w) (hn:E.ι n=none) (hv:vrel E v v') (e:newObj h n (.cells v.cells)=some (h',n')):
  OpOk P E h n w (do pure (.value (← Instr.box t v'))) (.val (.ptr (some (n,0))) h' n'):=by
 refine ok_newRow (c:=v'.cells) (el:=t) (w1:=w) (v':=.pointer (some ⟨w.heap.size,0,none⟩)) g hn e rfl rfl rfl rfl ?_ (crel_of_vrels (vrel_cells hv)) ⟨_,_,Env.put_same,by simp⟩
 simp [Instr.box,newVar,newRow]
theorem crel_bound {s:Nat} {cs:List V} {c:Array Value} (r:crel E s cs c) {k:Nat} (hk:0 < k) (hc:k ≤ cs.length):s+k ≤ c.size:=by
 obtain ⟨v',h1,_⟩:=r (k - 1) (cs[k - 1]'(by omega)) (List.getElem?_eq_getElem _)
 have:=(Array.getElem?_eq_some_iff.1 h1).1
 omega
theorem crel_slice {s:Nat} {cs:List V} {c:Array Value} (r:crel E s cs c) {o k:Nat} (hk:o+k ≤ cs.length) (h0:s+o+k ≤ c.size):
  vrels E ((cs.drop o).take k) ((c.toList.drop (s+o)).take k):=by
 refine vrels_of_get (by simp; omega) fun i v q=>?_
 rw [List.getElem?_take] at q ⊢
 split at q
 · rename_i hi
   rw [if_pos hi]
   rw [List.getElem?_drop] at q ⊢
   obtain ⟨v',h1,h2⟩:=r (o+i) v q
   exact ⟨v',by rw [← h1]; simp [Nat.add_assoc],h2⟩
 · cases q
theorem cut_eq {cs:List V} {o k:Nat} {r:List V} (e:cut cs o k=some r):o+k ≤ cs.length∧r=(cs.drop o).take k:=by
 unfold cut at e; split at e
 · rename_i q; simp at e; exact ⟨q,e.symm⟩
 · cases e
theorem run_loadVar_rel {t:TypeId} {b s o:Nat} {cs:List V} {v:V} {c:Array Value} {el:TypeId} {fz:Nat × Nat} (hb:w.heap[b]? =some (.cells c el fz)) (r:crel E s cs c)
  (e:readAt P t cs o=some v):∃ v',(loadVar t ⟨b,s+o,none⟩).run P w= .ok v' w∧vrel E v v':=by
 unfold readAt at e
 split at e
 · rename_i ha
   cases hs:szof P t with
   | none=>simp [hs] at e
   | some k=>
     simp only [hs] at e
     cases hc:cut cs o k with
     | none=>simp [hc] at e
     | some x=>
       simp only [hc,Option.map_some,Option.some.injEq] at e; subst e
       obtain ⟨h1,rfl⟩:=cut_eq hc
       by_cases hk:k=0
       · subst hk
         refine ⟨.agg #[],?_,[],by simp [vrels],rfl⟩
         simp [loadVar,run_isAgg ha,run_sizeOf' hs,loadCells,loadCellsFrom]
       · have h0:s+o+k ≤ c.size:=by have:=crel_bound r (k:=o+k) (by omega) h1; omega
         refine ⟨_,?_,_,crel_slice r h1 h0,rfl⟩
         simp [loadVar,run_isAgg ha,run_sizeOf' hs,run_loadCells hb h0]
 · rename_i ha
   obtain ⟨v',h1,h2⟩:=r o v e
   refine ⟨v',?_,h2⟩
   simp [loadVar,run_isAgg ha,cell_of_heap hb,h1]
 · cases e
theorem bld_crel {E:Env} {m b:Nat} {self:Bool} {x:V} {x':Value} (hi:E.ι m=some (b,0)) (hx:vrel E x x'):crel E 0 (bldCells m self x) #[.pointer (if self then some ⟨b,0,none⟩ else none),x']:=by
 intro i v q
 match i with
 | 0=>
   simp only [bldCells,List.getElem?_cons_zero,Option.some.injEq] at q; subst q
   refine ⟨_,rfl,?_⟩
   cases self with
   | true=>exact ⟨b,0,hi,rfl⟩
   | false=>rfl
 | 1=>
   simp only [bldCells,List.getElem?_cons_succ,List.getElem?_cons_zero,Option.some.injEq] at q; subst q
   exact ⟨_,rfl,hx⟩
 | i+2=>simp [bldCells] at q
theorem loadAt_rel {t:TypeId} {a v:V} {a':Value} (g:Good E h w) (ha:vrel E a a') (e:loadAt P t h a=some v):
  ∃ b s,a'= .pointer (some ⟨b,s,none⟩)∧∃ v',(loadVar t ⟨b,s,none⟩).run P w= .ok v' w∧vrel E v v':=by
 unfold loadAt at e
 split at e
 · rename_i m o
   split at e
   · rename_i cs hm
     obtain ⟨b,s,hi,c,el,fz,hb,_,_,hc⟩:=g.rel m _ hm
     obtain ⟨b',s',hi',rfl⟩:=ha
     rw [hi] at hi'; cases hi'
     obtain ⟨v',h1,h2⟩:=run_loadVar_rel hb hc e
     exact ⟨b,s+o,rfl,v',h1,h2⟩
   · rename_i k ks hm
     obtain ⟨b,s,hi,c,el,fz,hb,_,hc⟩:=g.rel m _ hm
     obtain ⟨b',s',hi',rfl⟩:=ha
     rw [hi] at hi'; cases hi'
     obtain ⟨v',h1,h2⟩:=run_loadVar_rel hb (crel_ints.2 hc) e
     exact ⟨b,s+o,rfl,v',h1,h2⟩
   · rename_i k ks hm
     obtain ⟨b,s,hi,c,el,fz,hb,_,_,hc⟩:=g.rel m _ hm
     obtain ⟨b',s',hi',rfl⟩:=ha
     rw [hi] at hi'; cases hi'
     obtain ⟨v',h1,h2⟩:=run_loadVar_rel hb hc e
     exact ⟨b,s+o,rfl,v',h1,h2⟩
   · rename_i cs hm
     obtain ⟨b,s,hi,c,el,fz,vs,hb,_,_,hd,hc⟩:=g.rel m _ hm
     obtain ⟨b',s',hi',rfl⟩:=ha
     rw [hi] at hi'; cases hi'
     obtain ⟨v',h1,h2⟩:=run_loadVar_rel hb ((crel_deep (drels_scalar hd)).2 ⟨vs,hd,hc⟩) e
     exact ⟨b,s+o,rfl,v',h1,h2⟩
   · rename_i T self x hm
     obtain ⟨b,s,hi,hs,x',fz,hb,_,_,hx⟩:=g.rel m _ hm
     obtain ⟨b',s',hi',rfl⟩:=ha
     rw [hi] at hi'; cases hi'
     subst hs
     obtain ⟨v',h1,h2⟩:=run_loadVar_rel (E:=E) (s:=0) hb (bld_crel hi hx) e
     exact ⟨b,0+o,rfl,v',h1,h2⟩
   · cases e
 · rename_i cs
   obtain ⟨b,o,c,vs,rfl,hf,hd,hc⟩:=ha
   obtain ⟨⟨el,fz,hb⟩,_⟩:=g.froz b c hf
   obtain ⟨v',h1,h2⟩:=run_loadVar_rel hb ((crel_deep (drels_scalar hd)).2 ⟨vs,hd,hc⟩) e
   exact ⟨b,o,rfl,v',h1,h2⟩
 · cases e
theorem op_load {t:TypeId} {a v:V} {a':Value} (g:Good E h w) (ha:vrel E a a') (e:loadAt P t h a=some v):
  OpOk P E h n w (do pure (.value (← Instr.loadAt t a'))) (.val v h n):=by
 obtain ⟨b,s,rfl,v',h1,h2⟩:=loadAt_rel g ha e
 exact ok_same g (by simp [Instr.loadAt,Instr.sureAddr,h1]) h2
theorem splice_eq {cs new r:List V} {o:Nat} (e:splice cs o new=some r):o+new.length ≤ cs.length∧r=cs.take o ++ (new ++ cs.drop (o+new.length)):=by
 unfold splice at e; split at e
 · rename_i q; simp at e; exact ⟨q,e.symm⟩
 · cases e
theorem splice_get {α:Type} {cs new:List α} {o:Nat} (h:o+new.length ≤ cs.length) (j:Nat):
  (cs.take o ++ (new ++ cs.drop (o+new.length)))[j]? =if o ≤ j∧j < o+new.length then new[j - o]? else cs[j]?:=by
 rw [List.getElem?_append]
 have hl:(List.take o cs).length=o:=by simp; omega
 rw [hl]
 by_cases h1:j < o
 · rw [if_pos h1,if_neg (by omega),List.getElem?_take,if_pos h1]
 · rw [if_neg h1,List.getElem?_append]
   by_cases h2:j < o+new.length
   · rw [if_pos (by omega),if_pos (by omega)]
   · rw [if_neg (by omega),if_neg (by omega),List.getElem?_drop]
     congr 1; omega
theorem crel_splice {s o:Nat} {cs new:List V} {new':List Value} {c:Array Value} (r:crel E s cs c) (hn:vrels E new new') (hne:0 < new.length) (h:o+new.length ≤ cs.length):
  s+o+new'.length ≤ c.size∧crel E s (cs.take o ++ (new ++ cs.drop (o+new.length))) (putCells c (s+o) new'):=by
 have hl:=vrels_length hn
 have hb:s+o+new'.length ≤ c.size:=by have:=crel_bound r (k:=o+new.length) (by omega) h; omega
 refine ⟨hb,fun i v q=>?_⟩
 rw [splice_get h] at q
 rw [putCells_get hb]
 split at q
 · rename_i hi
   rw [if_pos (by omega)]
   obtain ⟨v',h1,h2⟩:=vrels_get hn _ v q
   exact ⟨v',by rw [← h1]; congr 1; omega,h2⟩
 · rename_i hi
   rw [if_neg (by omega)]
   exact r i v q
theorem store_updR {m o b s:Nat} {ob:O} {r r':Row} {new:List V} {new':List Value} (g:Good E h w) (htop:m < top) (hm:h.get m=some ob) (hr:ob.row=some r) (hi:E.ι m=some (b,s))
  (hn:vrels E new new') (hne:0 < new.length) (hsc:new.all V.scalar=true) (hl:o+new.length ≤ r.toV.length) (hr':wk (r.toV.take o ++ (new ++ r.toV.drop (o+new.length))) r'.toV) (hrs:r.sc→r'.sc):
  ∃ w',(storeCells ⟨b,s+o,none⟩ new').run P w= .ok () w'∧Upd E h w E (h.set m (some r'.toO)) w':=by
 obtain ⟨b',s',hi',q⟩:=g.rel m _ hm
 obtain ⟨⟨c,el,fz,hb,hz,hf,hc⟩,hrsc⟩:=orel_row hr q
 rw [hi] at hi'; cases hi'
 obtain ⟨hbound,hcr⟩:=crel_splice hc hn hne hl
 have hone:∀ v ∈ new',v.oneCell'=true:=by
  intro v hv
  obtain ⟨i,hi'⟩:=List.getElem?_of_mem hv
  have hlt:i < new.length:=by rw [← vrels_length hn]; exact (List.getElem?_eq_some_iff.1 hi').1
  obtain ⟨v',h1,h2⟩:=vrels_get hn i new[i] (List.getElem?_eq_getElem hlt)
  rw [hi'] at h1; cases h1
  exact vrel_scalar h2 (by rw [List.all_eq_true] at hsc; exact hsc _ (List.getElem_mem hlt))
 obtain ⟨w',e1,e2,e3,e4,e5,e6,e7⟩:=run_storeCells (P:=P) (o:=s+o) new' 0 w c hb hf hone (by omega)
 refine ⟨w',e1,Upd.write g htop ⟨_,hm,row_wr hr⟩ hi e3 e4 e5 e6 e7 ?_⟩
 exact orel_toO ⟨_,el,fz,e2,by rw [putCells_size (by omega)]; exact hz,by rw [putCells_size (by omega)]; exact hf,crel_wk hr' hcr⟩ (hrs hrsc)
theorem store_upd {m o b s:Nat} {cs new:List V} {new':List Value} (g:Good E h w) (htop:m < top) (hm:h.get m=some (.cells cs)) (hi:E.ι m=some (b,s))
  (hn:vrels E new new') (hne:0 < new.length) (hsc:new.all V.scalar=true) (hl:o+new.length ≤ cs.length):
  ∃ w',(storeCells ⟨b,s+o,none⟩ new').run P w= .ok () w'∧Upd E h w E (h.set m (some (.cells (cs.take o ++ (new ++ cs.drop (o+new.length)))))) w':=
 store_updR (r':=.vs (cs.take o ++ (new ++ cs.drop (o+new.length)))) g htop hm rfl hi hn hne hsc hl (wk_refl _) (fun _=>trivial)
theorem op_store {t:TypeId} {a v:V} {a' v':Value} {h':Tr O} (g:Good E h w) (ha:vrel E a a') (hv:vrel E v v') (e:storeAt P t h v a=some h'):
  OpOk P E h n w (do Instr.storeAt t a' v'; pure .skip) (.val (.tup []) h' n):=by
 unfold storeAt at e
 split at e
 · rename_i m o
   split at e
   · rename_i cs hm
     split at e
     · rename_i s hs
       split at e
       · rename_i hq
         obtain ⟨h1,h2,h3,h4⟩:=hq
         split at e
         · rename_i cs' hsp
           simp only [Option.some.injEq] at e; subst e
           obtain ⟨hle,rfl⟩:=splice_eq hsp
           obtain ⟨b,s',hi,rfl⟩:=ha
           have hcells:=vrel_cells hv
           obtain ⟨w',hr,hu⟩:=store_upd (P:=P) g h3 hm hi hcells (by omega) h4 hle
           refine ⟨E,w',undef,.inr ⟨?_,rfl⟩,⟨[],rfl,rfl⟩,hu,fun _ _=>rfl,.inl ⟨rfl,rfl⟩⟩
           have hsz:v'.cells.size=s:=by have:=vrels_length hcells; simp at this; omega
           simp [Instr.storeAt,Instr.sureAddr,storeVar,run_sizeOf' hs,hsz,hr]
         · cases e
       · cases e
     · cases e
   · rename_i k ks hm
     split at e
     · rename_i s hs
       split at e
       · rename_i hq
         obtain ⟨h1,h2,h3⟩:=hq
         split at e
         · rename_i new hnew
           split at e
           · rename_i hle
             simp only [Option.some.injEq] at e; subst e
             have hvc:=intsOf_eq hnew
             have hnl:new.length=s:=by have:=congrArg List.length hvc; simp at this; omega
             obtain ⟨b,s',hi,rfl⟩:=ha
             have hcells:=vrel_cells hv
             obtain ⟨w',hr,hu⟩:=store_updR (P:=P) (o:=o) (r':=.is k (putI ks o new)) g h3 hm rfl hi hcells (by omega) (by rw [hvc]; simp [V.scalar]) (by rw [hvc]; simp [Row.toV]; omega)
              (by rw [hvc]; simp [Row.toV,putI,List.map_append,List.map_take,List.map_drop]; exact wk_refl _) (fun _=>trivial)
             refine ⟨E,w',undef,.inr ⟨?_,rfl⟩,⟨[],rfl,rfl⟩,hu,fun _ _=>rfl,.inl ⟨rfl,rfl⟩⟩
             have hsz:v'.cells.size=s:=by have:=vrels_length hcells; simp at this; omega
             simp [Instr.storeAt,Instr.sureAddr,storeVar,run_sizeOf' hs,hsz,hr]
           · cases e
         · cases e
       · cases e
     · cases e
   · rename_i cs hm
     split at e
     · rename_i s hs
       split at e
       · rename_i hq
         obtain ⟨h1,h2,h3⟩:=hq
         split at e
         · rename_i new hnew
           split at e
           · rename_i hle
             simp only [Option.some.injEq] at e; subst e
             have hnl:=deepsOf_length hnew
             obtain ⟨b,s',hi,rfl⟩:=ha
             have hcells:=vrel_cells hv
             have hcn:vrels E (D.toVs new) v'.cells.toList:=wk_deeps hnew E _ hcells
             have hnl2:(D.toVs new).length=s:=by rw [D.toVs_map,List.length_map]; omega
             obtain ⟨w',hr,hu⟩:=store_updR (P:=P) (o:=o) (r:=.ds cs) (r':=.ds (putDs cs o new)) g h3 hm rfl hi hcn (by omega) (toVs_scalar (deepsOf_sc hnew)) (by simp only [Row.toV,D.toVs_map,List.length_map]; omega)
              (by simp [Row.toV,putDs,D.toVs_map,List.map_append,List.map_take,List.map_drop]; exact wk_refl _)
              (fun hs x hx=>by
               simp only [putDs,List.mem_append] at hx
               rcases hx with hx | hx | hx
               · exact hs x (List.mem_of_mem_take hx)
               · exact deepsOf_sc hnew x hx
               · exact hs x (List.mem_of_mem_drop hx))
             refine ⟨E,w',undef,.inr ⟨?_,rfl⟩,⟨[],rfl,rfl⟩,hu,fun _ _=>rfl,.inl ⟨rfl,rfl⟩⟩
             have hsz:v'.cells.size=s:=by have:=vrels_length hcells; simp at this; omega
             simp [Instr.storeAt,Instr.sureAddr,storeVar,run_sizeOf' hs,hsz,hr]
           · cases e
         · cases e
       · cases e
     · cases e
   · rename_i T self x0 hm
     split at e
     · rename_i x hs hcv
       split at e
       · rename_i hq
         obtain ⟨rfl,h3,h4⟩:=hq
         simp only [Option.some.injEq] at e; subst e
         obtain ⟨b,s',hi,rfl⟩:=ha
         obtain ⟨b',s,hi',h0,x0',fz,hb,hβ,hf,hx0⟩:=g.rel m _ hm
         rw [hi] at hi'; cases hi'
         subst h0
         have hcells:=vrel_cells hv
         rw [hcv] at hcells
         obtain ⟨x',_,r1,hnil,hl⟩:=hcells
         simp only [vrels] at hnil; subst hnil
         have hvc:v'.cells=#[x']:=by apply Array.ext'; rw [hl]
         obtain ⟨w',e1,e2,e3,e4,e5,e6,e7⟩:=run_storeCells (P:=P) (o:=0+1) [x'] 0 w _ hb hf (fun y hy=>by rw [List.mem_singleton] at hy; subst hy; exact vrel_scalar r1 h4) (by simp)
         refine ⟨E,w',undef,.inr ⟨?_,rfl⟩,⟨[],rfl,rfl⟩,Upd.write g h3 ⟨_,hm,rfl⟩ hi e3 e4 e5 e6 e7 ⟨rfl,x',fz,?_,hβ,hf,r1⟩,fun _ _=>rfl,.inl ⟨rfl,rfl⟩⟩
         · have hsz:v'.cells.size=1:=by rw [hvc]; rfl
           have e1':(storeCells ⟨b,1,none⟩ v'.cells.toList).run P w= .ok () w':=by rw [hvc]; simpa using e1
           simp [Instr.storeAt,Instr.sureAddr,storeVar,run_sizeOf' hs,hsz,e1']
         · rw [e2]; rfl
       · cases e
     · cases e
   · cases e
 · cases e
end ops
end Go.Eng
namespace Go.Eng
open Go
def prels (E:Env):List (Nat × V)→List (Nat × Value)→Prop
 | [],l=>l=[]
 | x :: xs,l=>∃ y ys,y.1=x.1∧vrel E x.2 y.2∧prels E xs ys∧l=y :: ys
theorem foldl_put (off:Nat):∀ (vs:List Value) (k:Nat) (c:Array Value),off+k+vs.length ≤ c.size→
  (vs.zipIdx k).foldl (fun cs (x:Value × Nat)=>cs.setIfInBounds (off+x.2) x.1) c=putCells c (off+k) vs
 | [],k,c,_=>by simp [putCells]
 | v :: vs,k,c,h=>by
   simp only [List.length_cons] at h
   simp only [List.zipIdx_cons,List.foldl_cons]
   rw [foldl_put off vs (k+1) _ (by simp; omega)]
   have:off+(k+1)=off+k+1:=by omega
   rw [this,putCells_cons (by omega)]
theorem fill_rel {E:Env} {place:Nat→Option (Nat × Nat)}:∀ (parts:List (Nat × V)) (parts':List (Nat × Value)) (cells:List V) (cells':Array Value) (r:List V),
  fillV place cells parts=some r→vrels E cells cells'.toList→prels E parts parts'→∃ r',Instr.fill place cells' parts'=some r'∧vrels E r r'.toList
 | [],_,cells,cells',r,e,hc,hp=>by
   simp only [prels] at hp; subst hp
   simp only [fillV,Option.some.injEq] at e; subst e
   exact ⟨cells',rfl,hc⟩
 | (i,v) :: rest,_,cells,cells',r,e,hc,hp=>by
   obtain ⟨⟨i',v'⟩,ys,q1,hv,hr,rfl⟩:=hp
   simp only at q1 hv; subst q1
   simp only [fillV] at e
   cases hpl:place i' with
   | none=>simp [hpl] at e
   | some p=>
     obtain ⟨off,size⟩:=p
     simp only [hpl] at e
     split at e
     · rename_i hsz
       cases hs:splice cells off v.cells with
       | none=>simp [hs] at e
       | some cells2=>
         simp only [hs] at e
         obtain ⟨hle,rfl⟩:=splice_eq hs
         have hcv:=vrel_cells hv
         have hlv:=vrels_length hcv
         have hlc:=vrels_length hc
         simp only [Array.length_toList] at hlv hlc
         have hput:v'.cells.zipIdx.foldl (fun cs (x:Value × Nat)=>cs.setIfInBounds (off+x.2) x.1) cells'=putCells cells' off v'.cells.toList:=by
          rw [← Array.foldl_toList,Array.toList_zipIdx]
          exact foldl_put off v'.cells.toList 0 cells' (by simp; omega)
         have hrel:vrels E (cells.take off ++ (v.cells ++ cells.drop (off+v.cells.length))) (putCells cells' off v'.cells.toList).toList:=by
          simp only [putCells]
          refine vrels_append (vrels_take hc) (vrels_append hcv ?_)
          have:off+v'.cells.toList.length=off+v.cells.length:=by simp; omega
          rw [this]; exact vrels_drop hc
         obtain ⟨r',h1,h2⟩:=fill_rel rest ys _ _ r e hrel hr
         refine ⟨r',?_,h2⟩
         simp only [Instr.fill,hpl]
         rw [if_neg (by simp; omega)]
         rw [← h1,← hput]
     · cases e
theorem sizesOf_places {P:Program}:∀ (fs:List Field) (places:List (Nat × Nat)),sizesOf P fs=some places→
  fs.mapM (fun f=>(P.info? f.type).map fun i=>(f.offset,i.size))=some places
 | [],places,h=>by simp [sizesOf] at h; subst h; rfl
 | f :: fs,places,h=>by
   simp only [sizesOf,szof] at h
   cases hi:P.info? f.type with
   | none=>simp [hi] at h
   | some i=>
     simp only [hi,Option.map_some] at h
     cases hr:sizesOf P fs with
     | none=>simp [hr] at h
     | some r=>
       simp only [hr,Option.some.injEq] at h; subst h
       simp [List.mapM_cons,hi,sizesOf_places fs r hr]
theorem repeatV_get {z:List V} (hz:0 < z.length):∀ (n i:Nat),(repeatV z n)[i]? =if i < n * z.length then z[i % z.length]? else none
 | 0,i=>by simp [repeatV]
 | n+1,i=>by
   simp only [repeatV,List.getElem?_append]
   by_cases h:i < z.length
   · rw [if_pos h,if_pos (by rw [Nat.add_mul]; omega),Nat.mod_eq_of_lt h]
   · rw [if_neg h,repeatV_get hz n,Nat.add_mul,Nat.one_mul]
     have:(i - z.length) % z.length=i % z.length:=by rw [Nat.mod_eq_sub_mod (a:=i) (by omega)]
     rw [this]
     by_cases h2:i - z.length < n * z.length
     · rw [if_pos h2,if_pos (by omega)]
     · rw [if_neg h2,if_neg (by omega)]
theorem repeatV_length {z:List V}:∀ n,(repeatV z n).length=n * z.length
 | 0=>by simp [repeatV]
 | n+1=>by simp [repeatV,repeatV_length n,Nat.add_mul]; omega
theorem repeat_rel {E:Env} {z:List V} {z':Array Value} (hz:vrels E z z'.toList) (h0:0 < z.length) (n:Nat):
  vrels E (repeatV z n) ((Array.range (n * z.length)).map (z'[· % z'.size]!)).toList:=by
 have hl:z'.size=z.length:=by have:=vrels_length hz; simpa using this
 refine vrels_of_get (by simp [repeatV_length]) fun i v q=>?_
 rw [repeatV_get h0] at q
 split at q
 · rename_i hi
   obtain ⟨v',h1,h2⟩:=vrels_get hz _ v q
   refine ⟨v',?_,h2⟩
   have hlt:i % z'.size < z'.size:=Nat.mod_lt _ (by omega)
   rw [Array.getElem?_toList] at h1
   have h1':z'[i % z'.size]? =some v':=by rw [hl]; exact h1
   rw [Array.getElem?_toList,Array.getElem?_map]
   rw [Array.getElem?_range]
   rw [if_pos hi]
   simp only [Option.map_some]
   rw [getElem!_pos z' _ hlt]
   rw [Array.getElem?_eq_getElem hlt] at h1'
   exact h1'
 · cases q
theorem pureSem_eq {s:Sem Value} {v:V} (e:pureSem s=some v):∃ v',s= .pure v'∧∀ E,vrel E v v':=by
 cases s with
 | pure v'=>exact ⟨v',rfl,fun E=>ofScalar_rel e⟩
 | _=>simp [pureSem] at e
theorem beqB_eq:∀ (a b:List UInt8),beqB a b=(a == b)
 | [],[]=>rfl
 | [],_ :: _=>rfl
 | _ :: _,[]=>rfl
 | a :: x,b :: y=>by
   simp only [beqB]
   by_cases h:a=b
   · subst h
     have:Nat.beq a.toNat a.toNat=true:=Nat.beq_refl _
     rw [this]; simp [beqB_eq x y]
   · have:Nat.beq a.toNat b.toNat=false:=by
      cases hh:Nat.beq a.toNat b.toNat with
      | false=>rfl
      | true=>exact absurd (UInt8.toNat_inj.1 (Nat.eq_of_beq_eq_true hh)) h
     rw [this]
     have hab:(a == b)=false:=by simpa using h
     simp [hab]
theorem bytes_beq (a b:List UInt8):((⟨a.toArray⟩:ByteArray) == ⟨b.toArray⟩)=beqB a b:=by
 rw [beqB_eq,beq_toListBytes,ByteArray.toList_eq,ByteArray.toList_eq]
theorem bytes_beqL (a b:List UInt8):((⟨a.toArray⟩:ByteArray).toList == (⟨b.toArray⟩:ByteArray).toList)=beqB a b:=by
 rw [← bytes_beq,beq_toListBytes]
section ops
variable {P:Program} {E:Env} {h:Tr O} {n:Nat} {w:World}
theorem build_rel {t:TypeId} {parts:List (Nat × V)} {parts':Array (Nat × Value)} {v:V} (hp:prels E parts parts'.toList) (e:buildV P t parts=some v):
  ∃ v',(Instr.build t parts').run P w= .ok v' w∧vrel E v v':=by
 unfold buildV at e
 split at e
 · rename_i z fields hz hu
   obtain ⟨z',_,hv,i,hi,hiz⟩:=run_zero (w:=w) E hz
   cases hs:sizesOf P fields.toList with
   | none=>simp [hs] at e
   | some places=>
     simp only [hs] at e
     cases hf:fillV (fun i=>places[i]?) z.cells parts with
     | none=>simp [hf] at e
     | some cs=>
       simp only [hf,Option.map_some,Option.some.injEq] at e; subst e
       obtain ⟨r',h1,h2⟩:=fill_rel parts parts'.toList z.cells z'.cells cs hf (vrel_cells hv) hp
       refine ⟨.agg r',run_build w t parts' r' ?_,r'.toList,h2,by simp⟩
       simp only [Program.built,hi,hu,hiz,sizesOf_places _ _ hs]
       simpa using h1
 · rename_i z m elem hz hu
   obtain ⟨z',_,hv,i,hi,hiz⟩:=run_zero (w:=w) E hz
   cases hs:szof P elem with
   | none=>simp [hs] at e
   | some s=>
     simp only [hs] at e
     cases hf:fillV (fun i=>some (i * s,s)) z.cells parts with
     | none=>simp [hf] at e
     | some cs=>
       simp only [hf,Option.map_some,Option.some.injEq] at e; subst e
       obtain ⟨r',h1,h2⟩:=fill_rel parts parts'.toList z.cells z'.cells cs hf (vrel_cells hv) hp
       refine ⟨.agg r',run_build w t parts' r' ?_,r'.toList,h2,by simp⟩
       unfold szof at hs
       cases hie:P.info? elem with
       | none=>simp [hie] at hs
       | some ie=>
         simp only [hie,Option.map_some,Option.some.injEq] at hs
         simp only [Program.built,hi,hu,hiz,hie,hs]
         exact h1
 · cases e
theorem op_buildSlice {t:TypeId} {len:Nat} {parts:List (Nat × V)} {parts':Array (Nat × Value)} {r:R} (g:Good E h w) (hn:E.ι n=none) (hp:prels E parts parts'.toList)
  (e:buildSliceV P t len parts h n=some r):OpOk P E h n w (do pure (.value (← Instr.buildSlice t len parts'))) r:=by
 unfold buildSliceV at e
 cases he:elemT P t with
 | none=>simp [he] at e
 | some el=>
   simp only [he] at e
   cases hs:szof P el with
   | none=>simp [hs] at e
   | some s=>
     cases hz:zeroOf P el with
     | none=>simp [hs,hz] at e
     | some z=>
       simp only [hs,hz] at e
       split at e
       · rename_i hq
         obtain ⟨hs0,hcap,hzl⟩:=hq
         cases hf:fillV (fun i=>some (i * s,s)) (repeatV z.cells len) parts with
         | none=>simp [hf] at e
         | some cs=>
           simp only [hf] at e
           cases ho:newObj h n (.cells cs) with
           | none=>simp [ho] at e
           | some x=>
             obtain ⟨h',n'⟩:=x
             simp only [ho,Option.some.injEq] at e; subst e
             obtain ⟨z',hzr,hzv,_⟩:=run_zero (w:=w) E hz
             have hzc:=vrel_cells hzv
             have hrep:=repeat_rel hzc (by omega) len
             rw [hzl] at hrep
             obtain ⟨r',h1,h2⟩:=fill_rel parts parts'.toList _ _ cs hf hrep hp
             have hu:P.underlying t=some (.slice el):=by
              unfold elemT at he; split at he
              · rename_i q; simp at he; subst he; exact q
              · cases he
             have hlen:r'.size=len * s:=by
              have a:=vrels_length h2
              have b:cs.length=(repeatV z.cells len).length:=fillV_length _ _ _ _ hf
              rw [repeatV_length,hzl] at b
              simpa [b] using a
             refine ok_newRow (c:=r') (el:=el) (w1:=w) (v':=.slice (some ⟨w.heap.size,0,none⟩) len len) g hn ho rfl rfl rfl rfl ?_ (crel_of_vrels h2) ?_
             · simp only [Instr.buildSlice,Sem.run_bind,run_und hu,Result.andThen_ok,run_sizeOf' hs]
               rw [if_neg (show ¬ (len * s > 2 ^ 24) by omega)]
               by_cases q0:len * s=0
               · have hc0:(Array.range (len * s)).map (fun x=>(#[]:Array Value)[x % (#[]:Array Value).size]!)=(Array.range (len * s)).map (z'.cells[· % z'.cells.size]!):=by rw [q0]; simp
                 rw [if_pos q0]
                 simp only [Sem.run_bind,Sem.run_pure,Result.andThen_ok]
                 rw [hc0,h1]
                 simp [newRow]
               · rw [if_neg q0]
                 simp only [Sem.run_bind,Sem.run_pure,Result.andThen_ok,hzr]
                 rw [h1]
                 simp [newRow]
             · refine ⟨w.heap.size,0,0,len,Env.put_same,fun _=>by simp,Nat.le_refl _,Nat.le_refl _,?_,rfl⟩
               simp [Env.put,hlen]
       · cases e
where
 fillV_length (place:Nat→Option (Nat × Nat)):∀ (parts:List (Nat × V)) (cells r:List V),fillV place cells parts=some r→r.length=cells.length
  | [],cells,r,e=>by simp only [fillV,Option.some.injEq] at e; rw [e]
  | (i,v) :: rest,cells,r,e=>by
    simp only [fillV] at e
    split at e
    · cases e
    · split at e
      · split at e
        · rename_i cells2 hs
          obtain ⟨hle,rfl⟩:=splice_eq hs
          rw [fillV_length place rest _ r e]
          simp; omega
        · cases e
      · cases e
end ops
end Go.Eng
namespace Go.Eng
open Go
section
variable {P:Program} {E:Env} {h:Tr O} {n:Nat} {w:World}
theorem part_rel {t:TypeId} {cs:List V} {cs':Array Value} {off:Nat} {v:V} (r:vrels E cs cs'.toList) (e:partV P t cs off=some v):
  ∃ v',(part t cs' off).run P w= .ok v' w∧vrel E v v':=by
 unfold partV readAt at e
 have hl:=vrels_length r
 simp only [Array.length_toList] at hl
 split at e
 · rename_i ha
   cases hs:szof P t with
   | none=>simp [hs] at e
   | some k=>
     simp only [hs] at e
     cases hc:cut cs off k with
     | none=>simp [hc] at e
     | some x=>
       simp only [hc,Option.map_some,Option.some.injEq] at e; subst e
       obtain ⟨h1,rfl⟩:=cut_eq hc
       refine ⟨.agg (cs'.extract off (off+k)),by simp [part,run_isAgg ha,run_sizeOf' hs],(cs'.toList.drop off).take k,vrels_take (vrels_drop r),?_⟩
       congr 1
       apply Array.ext'
       simp [List.extract_eq_take_drop]
 · rename_i ha
   obtain ⟨v',h1,h2⟩:=vrels_get r off v e
   refine ⟨v',?_,h2⟩
   rw [Array.getElem?_toList] at h1
   simp [part,run_isAgg ha,h1]
 · cases e
end
def V.tag:V→Nat
 | .bool _=>0 | .int _ _=>1 | .str _=>2 | .ptr _=>3 | .slc _ _ _ _=>4 | .map _=>5 | .fn _ _ _=>6 | .nilFn=>7 | .iface _ _=>8 | .nilIface=>9 | .agg _=>10 | .tup _=>11 | .lst _ _ _=>4 | .fptr _=>3
def tagOf:Value→Nat
 | .bool _=>0 | .int _ _=>1 | .string _=>2 | .pointer _=>3 | .slice _ _ _=>4 | .map _=>5 | .func _ _ _=>6 | .nilFunc=>7 | .iface _ _=>8 | .nilIface=>9 | .agg _=>10 | .tuple _=>11
 | .float _ _=>12 | .complex _ _ _=>13 | .chan _=>14
theorem vrel_tag {E:Env}:∀ {x:V} {v:Value},vrel E x v→x.tag=tagOf v:=by
 intro x v r
 cases x with
 | agg cs=>obtain ⟨cs',_,rfl⟩:=r; rfl
 | tup cs=>obtain ⟨cs',_,rfl⟩:=r; rfl
 | bool b=>simp only [vrel] at r; subst r; rfl
 | int k n=>simp only [vrel] at r; subst r; rfl
 | str s=>simp only [vrel] at r; subst r; rfl
 | ptr a=>cases a <;> simp only [vrel] at r; · subst r; rfl
          · obtain ⟨b,s,_,rfl⟩:=r; rfl
 | slc a l c e=>cases a <;> simp only [vrel] at r; · obtain ⟨_,_,rfl⟩:=r; rfl
                · obtain ⟨b,s,_,_,_,_,_,_,_,rfl⟩:=r; rfl
 | map a=>cases a <;> simp only [vrel] at r; · subst r; rfl
          · obtain ⟨b,_,rfl⟩:=r; rfl
 | fn f a c=>obtain ⟨_,_,_,_,_,_,rfl⟩:=r; rfl
 | nilFn=>simp only [vrel] at r; subst r; rfl
 | iface t x=>obtain ⟨_,_,rfl⟩:=r; rfl
 | nilIface=>simp only [vrel] at r; subst r; rfl
 | lst f n cs=>obtain ⟨⟨_,_,_,rfl,_⟩,_⟩:=r; rfl
 | fptr cs=>obtain ⟨_,_,_,_,rfl,_⟩:=r; rfl
theorem vrel_int_inv {E:Env} {x:V} {k:IntKind} {m:Int} (r:vrel E x (.int k m)):x= .int k m:=by
 have t:=vrel_tag r
 cases x <;> simp [V.tag,tagOf] at t
 simp only [vrel] at r; cases r; rfl
theorem vrel_str_inv {E:Env} {x:V} {s:ByteArray} (r:vrel E x (.string s)):∃ l,x= .str l:=by
 have t:=vrel_tag r
 cases x <;> simp [V.tag,tagOf] at t
 exact ⟨_,rfl⟩
theorem vrel_no_float {E:Env} {x:V} {k:FloatKind} {m:Nat} (r:vrel E x (.float k m)):False:=by
 have t:=vrel_tag r
 cases x <;> simp [V.tag,tagOf] at t
theorem vrel_no_complex {E:Env} {x:V} {k:FloatKind} {m m':Nat} (r:vrel E x (.complex k m m')):False:=by
 have t:=vrel_tag r
 cases x <;> simp [V.tag,tagOf] at t
theorem binOp_eq {E:Env} {x y:V} {x' y':Value} {t:TypeId} (rx:vrel E x x') (ry:vrel E y y') (hi:∀ k m k' m',¬ (x= .int k m∧y= .int k' m')) (hs:∀ s u,¬ (x= .str s∧y= .str u)):
  binOp .eql t x' y'=(do pure (.bool (← Op.equal t x' y')))∧binOp .neq t x' y'=(do pure (.bool (!(← Op.equal t x' y')))):=by
 cases x' <;> cases y' <;> first
  | exact ⟨rfl,rfl⟩
  | exact absurd ⟨vrel_int_inv rx,vrel_int_inv ry⟩ (hi _ _ _ _)
  | exact (vrel_no_float rx).elim
  | exact (vrel_no_complex rx).elim
  | (obtain ⟨l,e1⟩:=vrel_str_inv rx; obtain ⟨l',e2⟩:=vrel_str_inv ry; exact absurd ⟨e1,e2⟩ (hs _ _))
section
variable {P:Program} {E:Env} {h:Tr O} {n:Nat} {w:World}
theorem eqFields_rel {d:Nat} {eq:TypeId→V→V→Option Bool} (ih:∀ t x y x' y' r,eq t x y=some r→vrel E x x'→vrel E y y'→(Op.equalIn d t x' y').run P w= .ok r w)
  {xs ys:List V} {xs' ys':Array Value} (rx:vrels E xs xs'.toList) (ry:vrels E ys ys'.toList):∀ (fs:List Field) (r:Bool),eqFields P eq fs xs ys=some r→(Op.eqFields d xs' ys' fs).run P w= .ok r w
 | [],r,e=>by simp only [eqFields,Option.some.injEq] at e; subst e; rfl
 | f :: fs,r,e=>by
   simp only [eqFields] at e
   simp only [Op.eqFields]
   split at e
   · rename_i hne
     rw [if_pos hne]
     cases h1:partV P f.type xs f.offset with
     | none=>simp [h1] at e
     | some a=>cases h2:partV P f.type ys f.offset with
       | none=>simp [h1,h2] at e
       | some b=>
         simp only [h1,h2] at e
         obtain ⟨a',p1,p2⟩:=part_rel (P:=P) (w:=w) rx h1
         obtain ⟨b',q1,q2⟩:=part_rel (P:=P) (w:=w) ry h2
         cases h3:eq f.type a b with
         | none=>simp [h3] at e
         | some c=>
           have hr:=ih _ _ _ _ _ _ h3 p2 q2
           simp only [Sem.run_bind,p1,q1,Result.andThen_ok,hr]
           cases c with
           | false=>simp only [h3,Option.some.injEq] at e; subst e; simp
           | true=>simp only [h3] at e; simp only [Bool.not_true,Bool.false_eq_true,if_false]; exact eqFields_rel ih rx ry fs r e
   · rename_i hne
     rw [if_neg hne]
     exact eqFields_rel ih rx ry fs r e
theorem eqItems_rel {d c:Nat} {el:TypeId} {eq:V→V→Option Bool} (ih:∀ x y x' y' r,eq x y=some r→vrel E x x'→vrel E y y'→(Op.equalIn d el x' y').run P w= .ok r w)
  {xs ys:List V} {xs' ys':Array Value} (rx:vrels E xs xs'.toList) (ry:vrels E ys ys'.toList):∀ (is:List Nat) (r:Bool),eqItemsV P eq el c xs ys is=some r→(Op.eqItems d el c xs' ys' is).run P w= .ok r w
 | [],r,e=>by simp only [eqItemsV,Option.some.injEq] at e; subst e; rfl
 | i :: is,r,e=>by
   simp only [eqItemsV] at e
   simp only [Op.eqItems]
   cases h1:partV P el xs (i * c) with
   | none=>simp [h1] at e
   | some a=>cases h2:partV P el ys (i * c) with
     | none=>simp [h1,h2] at e
     | some b=>
       simp only [h1,h2] at e
       obtain ⟨a',p1,p2⟩:=part_rel (P:=P) (w:=w) rx h1
       obtain ⟨b',q1,q2⟩:=part_rel (P:=P) (w:=w) ry h2
       cases h3:eq a b with
       | none=>simp [h3] at e
       | some q=>
         have hr:=ih _ _ _ _ _ h3 p2 q2
         simp only [Sem.run_bind,p1,q1,Result.andThen_ok,hr]
         cases q with
         | false=>simp only [h3,Option.some.injEq] at e; subst e; simp
         | true=>simp only [h3] at e; simp only [Bool.not_true,Bool.false_eq_true,if_false]; exact eqItems_rel ih rx ry is r e
theorem eqV_rel:∀ (d:Nat) (t:TypeId) (x y:V) (x' y':Value) (r:Bool),eqV P d t x y=some r→vrel E x x'→vrel E y y'→(Op.equalIn d t x' y').run P w= .ok r w:=by
 intro d
 induction d with
 | zero=>intro t x y x' y' r e; simp [eqV] at e
 | succ d ih=>
   intro t x y x' y' r e rx ry
   simp only [eqV] at e
   split at e
   · rename_i hu
     split at e
     · simp only [vrel] at rx ry; subst rx; subst ry
       simp only [Option.some.injEq] at e; subst e
       simp [Op.equalIn,run_und hu]
     · cases e
   · rename_i hu
     split at e
     · simp only [vrel] at rx ry; subst rx; subst ry
       split at e
       · rename_i hk; subst hk; simp only [Option.some.injEq] at e; subst e
         simp [Op.equalIn,run_und hu]
       · cases e
     · cases e
   · rename_i hu
     split at e
     · simp only [vrel] at rx ry; subst rx; subst ry
       simp only [Option.some.injEq] at e; subst e
       simp only [Op.equalIn,Sem.run_bind,run_und hu,Result.andThen_ok,Sem.run_pure]
       rw [bytes_beq]
     · cases e
   · rename_i hu
     split at e
     · rename_i b
       simp only [vrel] at rx; subst rx
       simp only [Option.some.injEq] at e; subst e
       cases b with
       | none=>simp only [vrel] at ry; subst ry; simp [Op.equalIn,run_und hu]
       | some p=>obtain ⟨_,_,_,rfl⟩:=ry; simp [Op.equalIn,run_und hu]
     · rename_i p
       simp only [Option.some.injEq] at e; subst e
       obtain ⟨_,_,_,rfl⟩:=rx
       simp only [vrel] at ry; subst ry
       simp [Op.equalIn,run_und hu]
     · split at e
       · rename_i hmm
         obtain ⟨⟨rfl,rfl⟩,hsz⟩:=hmm
         simp only [Option.some.injEq] at e; subst e
         obtain ⟨b,s,h1,rfl⟩:=rx
         obtain ⟨b',s',h2,rfl⟩:=ry
         rw [h1] at h2; cases h2
         obtain ⟨z,hz⟩:=Option.isSome_iff_exists.1 hsz
         simp only [Op.equalIn,Sem.run_bind,run_und hu,Result.andThen_ok,run_sizeOf' hz]
         by_cases hz0:z=0
         · simp [hz0]
         · simp [hz0,sameAddr]
       · cases e
     · simp only [Option.some.injEq] at e; subst e
       simp only [vrel] at rx; subst rx
       obtain ⟨_,_,_,_,rfl,_⟩:=ry
       simp [Op.equalIn,run_und hu]
     · simp only [Option.some.injEq] at e; subst e
       obtain ⟨_,_,_,_,rfl,_⟩:=rx
       simp only [vrel] at ry; subst ry
       simp [Op.equalIn,run_und hu]
     · cases e
   · rename_i hu
     split at e
     · simp only [vrel] at rx ry; subst rx; subst ry
       simp only [Option.some.injEq] at e; subst e
       simp [Op.equalIn,run_und hu]
     · simp only [vrel] at rx; subst rx; obtain ⟨_,_,rfl⟩:=ry
       simp only [Option.some.injEq] at e; subst e
       simp [Op.equalIn,run_und hu]
     · simp only [vrel] at ry; subst ry; obtain ⟨_,_,rfl⟩:=rx
       simp only [Option.some.injEq] at e; subst e
       simp [Op.equalIn,run_und hu]
     · cases e
   · rename_i fields hu
     split at e
     · split at e
       · cases e
       · rename_i hst
         obtain ⟨xs',rxs,rfl⟩:=rx
         obtain ⟨ys',rys,rfl⟩:=ry
         have hf:P.fieldsOf t=fields:=by simp [Program.fieldsOf,hu]
         rw [run_equalIn_struct w d t _ _ (by rw [hf]; exact hu) (by simpa using hst),hf]
         exact eqFields_rel (fun u a b a' b' r e ra rb=>ih u a b a' b' r e ra rb) (by simpa using rxs) (by simpa using rys) _ _ e
     · cases e
   · rename_i hu
     split at e
     · rename_i b _ _ _
       obtain ⟨_,_,rfl⟩:=rx
       simp only [Option.some.injEq] at e; subst e
       cases b with
       | none=>obtain ⟨_,_,rfl⟩:=ry; simp [Op.equalIn,run_und hu]
       | some p=>obtain ⟨_,_,_,_,_,_,_,_,_,rfl⟩:=ry; simp [Op.equalIn,run_und hu]
     · simp only [Option.some.injEq] at e; subst e
       obtain ⟨_,_,_,_,_,_,_,_,_,rfl⟩:=rx
       obtain ⟨_,_,rfl⟩:=ry
       simp [Op.equalIn,run_und hu]
     · split at e
       · simp only [Option.some.injEq] at e; subst e
         obtain ⟨⟨a,cap,vs,rfl,_,_,_,h1⟩,_⟩:=rx
         obtain ⟨_,_,_,rfl,_⟩:=h1 (Nat.succ_pos _)
         obtain ⟨_,_,rfl⟩:=ry
         simp [Op.equalIn,run_und hu]
       · cases e
     · cases e
   · rename_i hu
     split at e
     · rename_i b
       simp only [vrel] at rx; subst rx
       simp only [Option.some.injEq] at e; subst e
       cases b with
       | none=>simp only [vrel] at ry; subst ry; simp [Op.equalIn,run_und hu]
       | some p=>obtain ⟨_,_,rfl⟩:=ry; simp [Op.equalIn,run_und hu]
     · simp only [Option.some.injEq] at e; subst e
       obtain ⟨_,_,rfl⟩:=rx
       simp only [vrel] at ry; subst ry
       simp [Op.equalIn,run_und hu]
     · cases e
   · rename_i m el hu
     split at e
     · split at e
       · rename_i hi
         obtain ⟨i,hi⟩:=Option.isSome_iff_exists.1 hi
         obtain ⟨xs',rxs,rfl⟩:=rx
         obtain ⟨ys',rys,rfl⟩:=ry
         rw [run_equalIn_array w d xs'.toArray ys'.toArray hu hi]
         exact eqItems_rel (fun a b a' b' r e ra rb=>ih el a b a' b' r e ra rb) (by simpa using rxs) (by simpa using rys) _ _ e
       · cases e
     · cases e
   · cases e
end
end Go.Eng
namespace Go.Eng
open Go
section
variable {P:Program} {E:Env} {h:Tr O} {n:Nat} {w:World}
theorem ltB_eq:∀ s u:List UInt8,ltB s u=Op.bytesLess s u
 | _,[]=>by cases ‹List UInt8› <;> rfl
 | [],_ :: _=>rfl
 | a :: x,b :: y=>by
   simp only [ltB,Op.bytesLess]
   have h1:(a < b) ↔ a.toNat < b.toNat:=UInt8.lt_iff_toNat_lt
   have h2:(a=b) ↔ a.toNat=b.toNat:=UInt8.toNat_inj.symm
   rcases Nat.lt_trichotomy a.toNat b.toNat with h | h | h
   · have:Nat.blt a.toNat b.toNat=true:=Nat.ble_eq_true_of_le h
     rw [this]; simp [h1.2 h]
   · have e1:Nat.blt a.toNat b.toNat=false:=by cases q:Nat.blt a.toNat b.toNat with | false=>rfl | true=>exact absurd (Nat.le_of_ble_eq_true q) (by omega)
     have e2:Nat.beq a.toNat b.toNat=true:=by rw [h]; exact Nat.beq_refl _
     have e3:¬ a < b:=fun q=>by have:=h1.1 q; omega
     have e4:a=b:=h2.2 h
     rw [e1,e2]; simp only [ltB_eq x y,e4]; simp
   · have e1:Nat.blt a.toNat b.toNat=false:=by cases q:Nat.blt a.toNat b.toNat with | false=>rfl | true=>exact absurd (Nat.le_of_ble_eq_true q) (by omega)
     have e2:Nat.beq a.toNat b.toNat=false:=by cases q:Nat.beq a.toNat b.toNat with | false=>rfl | true=>exact absurd (Nat.eq_of_beq_eq_true q) (by omega)
     have e3:¬ a < b:=fun q=>by have:=h1.1 q; omega
     have e4:¬ a=b:=fun q=>by have:=h2.1 q; omega
     rw [e1,e2]; simp [e3,e4]
theorem ba_toList (s:List UInt8):(⟨s.toArray⟩:ByteArray).toList=s:=by rw [ByteArray.toList_eq]
theorem op_binOp {op:BinOp} {t:TypeId} {x y:Operand} {a b v:V} {a' b':Value} (g:Good E h w) (ra:vrel E a a') (rb:vrel E b b') (e:binV P op t x y a b=some v):
  OpOk P E h n w (do pure (.value (← (do eqGuard op t x y a' b'; binOp op t a' b')))) (.val v h n):=by
 unfold binV at e
 split at e
 · rename_i k m k' m'
   simp only [vrel] at ra rb; subst ra; subst rb
   obtain ⟨v',q1,q2⟩:=pureSem_eq e
   refine ok_same g (v':=v') ?_ (q2 E)
   have hg:(eqGuard op t x y (.int k m) (.int k' m')).run P w= .ok () w:=by cases op <;> rfl
   simp only [Sem.run_bind,hg,Result.andThen_ok,q1]
   rfl
 · rename_i s u
   simp only [vrel] at ra rb; subst ra; subst rb
   have hg:(eqGuard op t x y (.string ⟨s.toArray⟩) (.string ⟨u.toArray⟩)).run P w= .ok () w:=by cases op <;> rfl
   cases op <;> simp only [strOp] at e <;> first
    | (cases e; done)
    | skip
   · split at e
     · rename_i hl
       simp only [Option.some.injEq] at e; subst e
       refine ok_same g (v':=.string (⟨s.toArray⟩ ++ ⟨u.toArray⟩)) ?_ ?_
       · have hsz:¬ (((ByteArray.size ⟨s.toArray⟩+ByteArray.size ⟨u.toArray⟩:Nat):Int) > IntKind.i64.max):=by
          have:(IntKind.i64.max:Int)=9223372036854775807:=by decide
          rw [this]
          show ¬ (((s.toArray.size+u.toArray.size:Nat):Int) > 9223372036854775807)
          unfold intMax at hl
          simp only [List.size_toArray]
          omega
         simp only [Sem.run_bind,hg,Result.andThen_ok,binOp,Op.stringOp]
         rw [if_neg hsz]; rfl
       · show Value.string _= .string ⟨(s ++ u).toArray⟩
         congr 1
     · cases e
   · simp only [Option.some.injEq] at e; subst e
     refine ok_same g (v':=.bool (beqB s u)) ?_ rfl
     simp only [Sem.run_bind,hg,Result.andThen_ok,binOp,Op.stringOp,bytes_beqL]
     rfl
   · simp only [Option.some.injEq] at e; subst e
     refine ok_same g (v':=.bool (!beqB s u)) ?_ rfl
     simp only [Sem.run_bind,hg,Result.andThen_ok,binOp,Op.stringOp,bytes_beqL]
     rfl
   · simp only [Option.some.injEq] at e; subst e
     refine ok_same g (v':=.bool (ltB s u)) ?_ rfl
     simp only [Sem.run_bind,hg,Result.andThen_ok,binOp,Op.stringOp,ltB_eq,ba_toList]
     rfl
   · simp only [Option.some.injEq] at e; subst e
     refine ok_same g (v':=.bool (ltB s u || beqB s u)) ?_ rfl
     simp only [Sem.run_bind,hg,Result.andThen_ok,binOp,Op.stringOp,bytes_beqL,beqB_eq,ltB_eq,ba_toList]
     rfl
   · simp only [Option.some.injEq] at e; subst e
     refine ok_same g (v':=.bool (!(ltB s u || beqB s u))) ?_ rfl
     simp only [Sem.run_bind,hg,Result.andThen_ok,binOp,Op.stringOp,bytes_beqL,beqB_eq,ltB_eq,ba_toList]
     rfl
   · simp only [Option.some.injEq] at e; subst e
     refine ok_same g (v':=.bool (!ltB s u)) ?_ rfl
     simp only [Sem.run_bind,hg,Result.andThen_ok,binOp,Op.stringOp,ltB_eq,ba_toList]
     rfl
 · rename_i hni hns
   have hb:=binOp_eq (t:=t) ra rb (fun k m k' m' q=>hni k m k' m' q.1 q.2) (fun s u q=>hns s u q.1 q.2)
   have main:∀ r,eqOp P t x y a b=some r→∀ op,(op= .eql ∨ op= .neq)→(eqGuard op t x y a' b').run P w= .ok () w∧(Op.equal t a' b').run P w= .ok r w:=by
    intro r er op hop
    unfold eqOp at er
    split at er
    · simp only [vrel] at ra rb; subst ra; subst rb
      split at er
      · rename_i hlit
        refine ⟨?_,eqV_rel (E:=E) 10000 t _ _ _ _ r er rfl rfl⟩
        clear hb e
        rcases hop with rfl | rfl <;> cases x <;> cases y <;> first
         | rfl
         | (simp only [isLit,Bool.or_self,Bool.false_eq_true] at hlit)
      · cases er
    · split at er
      · cases er
      · rename_i hg
        obtain ⟨xs',rx,rfl⟩:=ra
        obtain ⟨ys',ry,rfl⟩:=rb
        refine ⟨run_eqGuard_agg w op t x y _ _ (by simpa using hg),eqV_rel 10000 t _ _ _ _ r er ⟨xs',rx,rfl⟩ ⟨ys',ry,rfl⟩⟩
    · rename_i hn1 hn2
      refine ⟨?_,eqV_rel 10000 t _ _ _ _ r er ra rb⟩
      have t1:=vrel_tag ra
      have t2:=vrel_tag rb
      rcases hop with rfl | rfl <;> cases a' <;> first
       | rfl
       | (cases b' <;> first
         | rfl
         | (exfalso; cases a <;> simp [V.tag,tagOf] at t1; cases b <;> simp [V.tag,tagOf] at t2; exact hn1 rfl rfl)
         | (exfalso; cases a <;> simp [V.tag,tagOf] at t1; cases b <;> simp [V.tag,tagOf] at t2; exact hn2 _ _ rfl rfl))
   split at e
   · cases hq:eqOp P t x y a b with
     | none=>simp [hq] at e
     | some r=>
       simp only [hq,Option.map_some,Option.some.injEq] at e; subst e
       obtain ⟨m1,m2⟩:=main r hq .eql (.inl rfl)
       refine ok_same g (v':=.bool r) ?_ rfl
       simp only [Sem.run_bind,m1,Result.andThen_ok,hb.1,m2,Sem.run_pure]
   · cases hq:eqOp P t x y a b with
     | none=>simp [hq] at e
     | some r=>
       simp only [hq,Option.map_some,Option.some.injEq] at e; subst e
       obtain ⟨m1,m2⟩:=main r hq .neq (.inr rfl)
       refine ok_same g (v':=.bool (!r)) ?_ rfl
       simp only [Sem.run_bind,m1,Result.andThen_ok,hb.2,m2,Sem.run_pure]
   · cases e
theorem op_unOp {op:UnOp} {x v:V} {x':Value} (g:Good E h w) (r:vrel E x x') (e:unV op x=some v):OpOk P E h n w (do pure (.value (← Op.unary op x'))) (.val v h n):=by
 unfold unV at e
 split at e
 · simp only [vrel] at r; subst r
   obtain ⟨v',q1,q2⟩:=pureSem_eq e
   exact ok_same g (v':=v') (by rw [q1]; rfl) (q2 E)
 · simp only [vrel] at r; subst r
   obtain ⟨v',q1,q2⟩:=pureSem_eq e
   exact ok_same g (v':=v') (by rw [q1]; rfl) (q2 E)
 · cases e
theorem elemT_eq {t e:TypeId} (q:elemT P t=some e):P.underlying t=some (.slice e):=by
 unfold elemT at q; split at q
 · rename_i hu; simp at q; subst q; exact hu
 · cases q
theorem op_fieldAddr {t:TypeId} {f:Nat} {x v:V} {x':Value} (g:Good E h w) (r:vrel E x x') (e:fieldAddrV P t f x=some v):
  OpOk P E h n w (do pure (.value (← Instr.fieldAt t x' f))) (.val v h n):=by
 unfold fieldAddrV at e
 split at e
 · rename_i m o
   split at e
   · rename_i fs hu
     split at e
     · rename_i fd hf
       split at e
       · rename_i k hk
         simp only [Option.some.injEq] at e; subst e
         obtain ⟨b,s,hi,rfl⟩:=r
         refine ok_same g (v':=.pointer (some ⟨b,s+(o+fd.offset),none⟩)) ?_ ⟨b,s,hi,rfl⟩
         simp [Instr.fieldAt,run_und hu,hf,Instr.sureAddr,fieldPlace,run_sizeOf' hk,Addr.add_none,Nat.add_assoc]
       · cases e
     · cases e
   · cases e
 · rename_i cs
   split at e
   · rename_i fs hu
     split at e
     · rename_i fd hf
       split at e
       · rename_i k hk
         simp only [Option.some.injEq] at e; subst e
         obtain ⟨b,o,c,vs,rfl,hfz,hd,hc⟩:=r
         refine ok_same g (v':=.pointer (some ⟨b,o+fd.offset,none⟩)) ?_ ⟨b,_,c,vs.drop fd.offset,rfl,hfz,drels_drop hd,fun j w q=>?_⟩
         · simp [Instr.fieldAt,run_und hu,hf,Instr.sureAddr,fieldPlace,run_sizeOf' hk,Addr.add_none]
         · rw [List.getElem?_drop] at q; rw [← hc _ w q,Nat.add_assoc]
       · cases e
     · cases e
   · cases e
 · cases e
theorem op_field {t:TypeId} {f:Nat} {x v:V} {x':Value} (g:Good E h w) (r:vrel E x x') (e:fieldV P t f x=some v):
  OpOk P E h n w (do pure (.value (← Instr.field t x' f))) (.val v h n):=by
 unfold fieldV at e
 split at e
 · split at e
   · rename_i fs hu
     split at e
     · rename_i fd hf
       obtain ⟨cs',rc,rfl⟩:=r
       obtain ⟨v',h1,h2⟩:=part_rel (P:=P) (w:=w) (cs':=cs'.toArray) (by simpa using rc) e
       refine ok_same g (v':=v') ?_ h2
       simp [Instr.field,run_und hu,hf,asAgg,h1]
     · cases e
   · cases e
 · cases e
theorem op_indexAddr {t:TypeId} {x i v:V} {x' i':Value} (g:Good E h w) (r:vrel E x x') (ri:vrel E i i') (e:indexAddrV P t x i=some v):
  OpOk P E h n w (do pure (.value (← Instr.indexAt t x' i'))) (.val v h n):=by
 unfold indexAddrV at e
 split at e
 · rename_i k i
   simp only [vrel] at ri; subst ri
   split at e
   · rename_i len el m o hu
     split at e
     · rename_i s hs
       split at e
       · rename_i hb
         simp only [Option.some.injEq] at e; subst e
         obtain ⟨b,sh,hi,rfl⟩:=r
         refine ok_same g (v':=.pointer (some ⟨b,sh+(o+i.toNat * s),none⟩)) ?_ ⟨b,sh,hi,rfl⟩
         simp [Instr.indexAt,asIntOf,run_und hu,Instr.sureAddr,hb.1,hb.2,run_sizeOf' hs,Addr.add_none,Nat.add_assoc]
       · cases e
     · cases e
   · rename_i el m o len cap esz hu
     split at e
     · rename_i s hs
       split at e
       · rename_i hb
         obtain ⟨h1,h2,h3⟩:=hb
         simp only [Option.some.injEq] at e; subst e
         obtain ⟨b,sh,o',cap',hi,q1,q2,q3,q4,rfl⟩:=r
         have ho:o'=sh+o:=q1 (by omega)
         subst ho
         refine ok_same g (v':=.pointer (some ⟨b,sh+(o+i.toNat * s),none⟩)) ?_ ⟨b,sh,hi,rfl⟩
         simp [Instr.indexAt,asIntOf,run_und hu,h1,h2,run_sizeOf' hs,Addr.add_none,Nat.add_assoc]
       · cases e
     · cases e
   · rename_i el f len cs hu
     split at e
     · rename_i s hs
       split at e
       · rename_i hb
         obtain ⟨⟨h1,h2⟩,h3⟩:=hb
         simp only [Option.some.injEq] at e; subst e
         obtain ⟨⟨a,cap,vs,rfl,hcap,hd,h0,hpos⟩,_⟩:=r
         obtain ⟨b,o,c,rfl,hfz,hc⟩:=hpos (by omega)
         refine ok_same g (v':=.pointer (some ⟨b,o+i.toNat * s,none⟩)) ?_ ⟨b,_,c,(vs.drop (i.toNat * s)).take s,rfl,hfz,drels_take (drels_drop hd),fun j w q=>?_⟩
         · simp [Instr.indexAt,asIntOf,run_und hu,h1,h2,run_sizeOf' hs,Addr.add_none]
         · rw [List.getElem?_take] at q
           split at q
           · rw [List.getElem?_drop] at q; rw [← hc _ w q,Nat.add_assoc]
           · cases q
       · cases e
     · cases e
   · rename_i len el cs hu
     split at e
     · rename_i s hs
       split at e
       · rename_i hb
         simp only [Option.some.injEq] at e; subst e
         obtain ⟨b,o,c,vs,rfl,hfz,hd,hc⟩:=r
         refine ok_same g (v':=.pointer (some ⟨b,o+i.toNat * s,none⟩)) ?_ ⟨b,_,c,vs.drop (i.toNat * s),rfl,hfz,drels_drop hd,fun j w q=>?_⟩
         · simp [Instr.indexAt,asIntOf,run_und hu,Instr.sureAddr,hb.1,hb.2,run_sizeOf' hs,Addr.add_none]
         · rw [List.getElem?_drop] at q; rw [← hc _ w q,Nat.add_assoc]
       · cases e
     · cases e
   · cases e
 · cases e
theorem op_index {t:TypeId} {x i v:V} {x' i':Value} (g:Good E h w) (r:vrel E x x') (ri:vrel E i i') (e:indexV P t x i=some v):
  OpOk P E h n w (do pure (.value (← Instr.index t x' i'))) (.val v h n):=by
 unfold indexV at e
 split at e
 · rename_i k i
   simp only [vrel] at ri; subst ri
   split at e
   · rename_i len el cs hu
     split at e
     · rename_i s hs
       split at e
       · rename_i hb
         obtain ⟨cs',rc,rfl⟩:=r
         obtain ⟨v',h1,h2⟩:=part_rel (P:=P) (w:=w) (cs':=cs'.toArray) (by simpa using rc) e
         refine ok_same g (v':=v') ?_ h2
         simp [Instr.index,asIntOf,run_und hu,hb.1,hb.2,run_sizeOf' hs,h1]
       · cases e
     · cases e
   · rename_i s hu
     split at e
     · rename_i hb
       split at e
       · rename_i b hsb
         simp only [Option.some.injEq] at e; subst e
         simp only [vrel] at r; subst r
         refine ok_same g (v':=.int .u8 b.toNat) ?_ rfl
         have hg:(⟨s.toArray⟩:ByteArray)[i.toNat]? =some b:=by
          obtain ⟨hlt,hv⟩:=List.getElem?_eq_some_iff.1 hsb
          have hsz:i.toNat < (⟨s.toArray⟩:ByteArray).size:=by show i.toNat < s.toArray.size; simpa using hlt
          rw [getElem?_pos (⟨s.toArray⟩:ByteArray) i.toNat hsz]
          congr 1
         simp [Instr.index,asIntOf,run_und hu,hb,hg]
       · cases e
     · cases e
   · cases e
 · cases e
theorem op_extract {vs:List V} {i:Nat} {v:V} {x':Value} (g:Good E h w) (r:vrel E (.tup vs) x') (e:vs[i]? =some v):
  OpOk P E h n w (do pure (.value (← Instr.extract x' i))) (.val v h n):=by
 obtain ⟨vs',rs,rfl⟩:=r
 obtain ⟨v',h1,h2⟩:=vrels_get rs i v e
 refine ok_same g (v':=v') ?_ h2
 simp [Instr.extract,h1]
theorem op_typeAssert {x v:V} {xt t:TypeId} {ok:Bool} {x':Value} (g:Good E h w) (r:vrel E x x') (e:typeAssertV P x t ok=some v):
  OpOk P E h n w (do pure (.value (← Instr.typeAssert x' xt t ok))) (.val v h n):=by
 unfold typeAssertV at e
 split at e
 · cases e
 · rename_i d hu hd
   simp only [vrel] at r; subst r
   split at e
   · rename_i hok
     cases hz:zeroOf P t with
     | none=>simp [hz] at e
     | some z=>
       simp only [hz,Option.some.injEq] at e; subst e
       obtain ⟨z',hr,hv,_⟩:=run_zero (w:=w) E hz
       refine ok_same g (v':=.tuple #[z',.bool false]) ?_ ⟨[z',.bool false],⟨z',_,hv,⟨.bool false,[],rfl,rfl,rfl⟩,rfl⟩,rfl⟩
       cases d <;> first | (exact absurd rfl (hu _)) | simp [Instr.typeAssert,run_und hd,hok,hr]
   · cases e
 · rename_i d t2 x2 hu hd
   obtain ⟨y,ry,rfl⟩:=r
   split at e
   · rename_i ht
     subst ht
     simp only [Option.some.injEq] at e; subst e
     cases ok with
     | true=>
       refine ok_same g (v':=.tuple #[y,.bool true]) ?_ ⟨[y,.bool true],⟨y,_,ry,⟨.bool true,[],rfl,rfl,rfl⟩,rfl⟩,rfl⟩
       cases d <;> first | (exact absurd rfl (hu _)) | simp [Instr.typeAssert,run_und hd]
     | false=>
       refine ok_same g (v':=y) ?_ ry
       cases d <;> first | (exact absurd rfl (hu _)) | simp [Instr.typeAssert,run_und hd]
   · rename_i ht
     split at e
     · rename_i hok
       cases hz:zeroOf P t with
       | none=>simp [hz] at e
       | some z=>
         simp only [hz,Option.some.injEq] at e; subst e
         obtain ⟨z',hr,hv,_⟩:=run_zero (w:=w) E hz
         refine ok_same g (v':=.tuple #[z',.bool false]) ?_ ⟨[z',.bool false],⟨z',_,hv,⟨.bool false,[],rfl,rfl,rfl⟩,rfl⟩,rfl⟩
         cases d <;> first | (exact absurd rfl (hu _)) | simp [Instr.typeAssert,run_und hd,hok,hr,ht]
     · cases e
 · cases e
end
end Go.Eng
namespace Go.Eng
open Go
def optrel (E:Env):Option V→Option Value→Prop
 | none,y=>y=none
 | some x,y=>∃ y',vrel E x y'∧y=some y'
section
variable {P:Program} {E:Env} {h:Tr O} {n:Nat} {w:World}
theorem bound_rel {d y r:Nat} {x:V} {x':Value} {c:BoundsCode} (e:boundV d y (some x)=some r) (rx:vrel E x x'):
  (Instr.sliceBound x' y c).run P w= .ok r w∧r ≤ y:=by
 unfold boundV at e
 split at e
 · rename_i q; cases q
 · rename_i k i q
   cases q
   simp only [vrel] at rx; subst rx
   split at e
   · rename_i hb
     simp only [Option.some.injEq] at e; subst e
     refine ⟨?_,by omega⟩
     simp [Instr.sliceBound,asIntOf,hb.1,hb.2]
   · cases e
 · cases e
theorem bounds_rel {isS:Bool} {len cap l hh m:Nat} {lo hi mx:Option V} {lo' hi' mx':Option Value} (rl:optrel E lo lo') (rh:optrel E hi hi') (rm:optrel E mx mx')
  (hmh:mx=none ∨ hi ≠ none) (e1:boundV cap cap mx=some m) (e2:boundV len m hi=some hh) (e3:boundV 0 hh lo=some l) (hlen:len ≤ cap):
  (Instr.sliceBounds isS len cap lo' hi' mx').run P w= .ok (l,hh,m) w∧l ≤ hh∧hh ≤ m∧m ≤ cap:=by
 have low:∀ c,((match lo' with | some v=>Instr.sliceBound v hh c | none=>pure 0):Sem Nat).run P w= .ok l w∧l ≤ hh:=by
  intro c
  cases lo with
  | none=>simp only [optrel] at rl; subst rl; simp only [boundV,Option.some.injEq] at e3; subst e3; exact ⟨rfl,Nat.zero_le _⟩
  | some x=>obtain ⟨x',rx,rfl⟩:=rl; exact bound_rel e3 rx
 cases mx with
 | none=>
   simp only [optrel] at rm; subst rm
   simp only [boundV,Option.some.injEq] at e1; subst e1
   cases hi with
   | none=>
     simp only [optrel] at rh; subst rh
     simp only [boundV,Option.some.injEq] at e2; subst e2
     obtain ⟨h1,h2⟩:=low .sliceB
     refine ⟨?_,h2,hlen,Nat.le_refl _⟩
     cases lo' <;> simp_all [Instr.sliceBounds]
   | some x=>
     obtain ⟨x',rx,rfl⟩:=rh
     obtain ⟨p1,p2⟩:=bound_rel (P:=P) (w:=w) (c:=if isS then .sliceAcap else .sliceAlen) e2 rx
     obtain ⟨h1,h2⟩:=low .sliceB
     refine ⟨?_,h2,p2,Nat.le_refl _⟩
     cases lo' <;> simp_all [Instr.sliceBounds]
 | some y=>
   obtain ⟨y',ry,rfl⟩:=rm
   obtain ⟨p1,p2⟩:=bound_rel (P:=P) (w:=w) (c:=if isS then .slice3Acap else .slice3Alen) e1 ry
   cases hi with
   | none=>rcases hmh with q | q <;> simp at q
   | some x=>
     obtain ⟨x',rx,rfl⟩:=rh
     obtain ⟨q1,q2⟩:=bound_rel (P:=P) (w:=w) (c:=.slice3B) e2 rx
     obtain ⟨h1,h2⟩:=low .slice3C
     refine ⟨?_,h2,q2,p2⟩
     cases lo' <;> simp_all [Instr.sliceBounds]
theorem take_extract (s:List UInt8) (l hh:Nat):(⟨s.toArray⟩:ByteArray).extract l hh=⟨((s.take hh).drop l).toArray⟩:=by
 apply ByteArray.ext
 simp [List.extract_eq_take_drop,List.drop_take]
theorem op_slice {t:TypeId} {x v:V} {x':Value} {lo hi mx:Option V} {lo' hi' mx':Option Value} (g:Good E h w) (r:vrel E x x') (rl:optrel E lo lo') (rh:optrel E hi hi') (rm:optrel E mx mx')
  (e:sliceV P t h x lo hi mx=some v):OpOk P E h n w (do pure (.value (← Instr.sliceAt t x' lo' hi' mx'))) (.val v h n):=by
 unfold sliceV at e
 split at e
 · cases e
 · rename_i hmh0
   have hmh:mx=none ∨ hi ≠ none:=by
    cases mx with
    | none=>exact .inl rfl
    | some _=>cases hi with
      | none=>simp at hmh0
      | some _=>exact .inr (by simp)
   clear hmh0
   split at e
   · rename_i s hu
     cases mx with
     | some _=>simp at e
     | none=>
       simp only [optrel] at rm; subst rm
       simp only at e
       simp only [vrel] at r; subst r
       cases h2:boundV s.length s.length hi with
       | none=>simp [h2] at e
       | some hh=>
         simp only [h2] at e
         cases h3:boundV 0 hh lo with
         | none=>simp [h3] at e
         | some l=>
           simp only [h3,Option.some.injEq] at e; subst e
           have hsz:(⟨s.toArray⟩:ByteArray).size=s.length:=by show s.toArray.size=_; simp
           obtain ⟨q,q1,q2,_⟩:=bounds_rel (P:=P) (w:=w) (isS:=false) (len:=s.length) (cap:=s.length) (mx:=none) (mx':=none) rl rh rfl (.inl rfl) rfl h2 h3 (Nat.le_refl _)
           refine ok_same g (v':=.string ⟨((s.take hh).drop l).toArray⟩) ?_ rfl
           simp only [Sem.run_bind,Instr.sliceAt,run_und hu,Result.andThen_ok,Instr.slice,Option.isSome_none,Bool.false_eq_true,if_false,hsz,q,Sem.run_pure,take_extract s l hh]
   · rename_i el a len cap esz hu
     split at e
     · rename_i s hs
       split at e
       · rename_i hse
         cases h1:boundV cap cap mx with
         | none=>simp [h1] at e
         | some m=>
           simp only [h1] at e
           cases h2:boundV len m hi with
           | none=>simp [h2] at e
           | some hh=>
             simp only [h2] at e
             cases h3:boundV 0 hh lo with
             | none=>simp [h3] at e
             | some l=>
               simp only [h3,Option.some.injEq] at e; subst e
               cases a with
               | none=>
                 obtain ⟨rfl,rfl,rfl⟩:=r
                 obtain ⟨q,q1,q2,q3⟩:=bounds_rel (P:=P) (w:=w) (isS:=true) rl rh rm hmh h1 h2 h3 (Nat.le_refl _)
                 have hm:m=0:=by omega
                 have hh0:hh=0:=by omega
                 have hl0:l=0:=by omega
                 subst hm; subst hh0; subst hl0
                 refine ok_same g (v':=.slice none 0 0) ?_ ⟨rfl,rfl,rfl⟩
                 simp only [Sem.run_bind,Instr.sliceAt,run_und hu,Result.andThen_ok,Instr.slice,q,run_sizeOf' hs,Sem.run_pure]
                 rfl
               | some a=>
                 obtain ⟨bm,o⟩:=a
                 have hse:s=esz:=by rcases hse with q | q; · exact q
                                    · cases q
                 subst hse
                 obtain ⟨b,sh,o',cap',hi',c1,c2,c3,c4,rfl⟩:=r
                 cases mx with
                 | none=>
                   simp only [optrel] at rm; subst rm
                   simp only [boundV,Option.some.injEq] at h1; subst h1
                   have h2':boundV len cap' hi=some hh:=by
                    cases hi with
                    | none=>exact h2
                    | some y=>
                      unfold boundV at h2 ⊢
                      split at h2
                      · rename_i q; cases q
                      · rename_i k i q; cases q
                        split at h2
                        · rename_i hb; rw [if_pos ⟨hb.1,by omega⟩]; exact h2
                        · cases h2
                      · cases h2
                   obtain ⟨q,q1,q2,q3⟩:=bounds_rel (P:=P) (w:=w) (isS:=true) (mx:=none) (mx':=none) (cap:=cap') rl rh rfl (.inl rfl) rfl h2' h3 (by omega)
                   have hhc:hh ≤ cap:=by
                    cases hi with
                    | none=>simp only [boundV,Option.some.injEq] at h2; omega
                    | some y=>
                      unfold boundV at h2
                      split at h2
                      · rename_i q; cases q
                      · rename_i k i q; cases q
                        split at h2
                        · rename_i hb; simp only [Option.some.injEq] at h2; omega
                        · cases h2
                      · cases h2
                   refine ok_same g (v':=.slice (if cap'=l then some ⟨b,o',none⟩ else some ⟨b,o'+l * s,none⟩) (hh - l) (cap' - l)) ?_ ?_
                   · simp only [Sem.run_bind,Instr.sliceAt,run_und hu,Result.andThen_ok,Instr.slice,q,run_sizeOf' hs,Sem.run_pure,Option.map_some,Addr.add_none]
                   · by_cases hcl:cap'=l
                     · rw [if_pos hcl]
                       refine ⟨b,sh,o',cap' - l,hi',fun q=>by omega,by omega,by omega,?_,rfl⟩
                       rw [hcl]; simp; omega
                     · rw [if_neg hcl]
                       refine ⟨b,sh,o'+l * s,cap' - l,hi',fun q=>?_,by omega,by omega,?_,rfl⟩
                       · rw [c1 (by omega)]; omega
                       · have hm:l * s+(cap' - l) * s=cap' * s:=by rw [← Nat.add_mul]; congr 1; omega
                         omega
                 | some y=>
                   obtain ⟨y',ry,rfl⟩:=rm
                   have h1':boundV cap' cap' (some y)=some m:=by
                    unfold boundV at h1 ⊢
                    split at h1
                    · rename_i q; cases q
                    · rename_i k i q; cases q
                      split at h1
                      · rename_i hb; rw [if_pos ⟨hb.1,by omega⟩]; exact h1
                      · cases h1
                    · cases h1
                   have hmc:m ≤ cap:=by
                    unfold boundV at h1
                    split at h1
                    · rename_i q; cases q
                    · rename_i k i q; cases q
                      split at h1
                      · rename_i hb; simp only [Option.some.injEq] at h1; omega
                      · cases h1
                    · cases h1
                   obtain ⟨q,q1,q2,q3⟩:=bounds_rel (P:=P) (w:=w) (isS:=true) (cap:=cap') rl rh (mx:=some y) (mx':=some y') ⟨y',ry,rfl⟩ hmh h1' h2 h3 (by omega)
                   refine ok_same g (v':=.slice (if m=l then some ⟨b,o',none⟩ else some ⟨b,o'+l * s,none⟩) (hh - l) (m - l)) ?_ ?_
                   · simp only [Sem.run_bind,Instr.sliceAt,run_und hu,Result.andThen_ok,Instr.slice,q,run_sizeOf' hs,Sem.run_pure,Option.map_some,Addr.add_none]
                   · by_cases hcl:m=l
                     · rw [if_pos hcl]
                       refine ⟨b,sh,o',m - l,hi',fun q=>by omega,by omega,by omega,?_,rfl⟩
                       rw [hcl]; simp; omega
                     · rw [if_neg hcl]
                       refine ⟨b,sh,o'+l * s,m - l,hi',fun q=>?_,by omega,Nat.le_refl _,?_,rfl⟩
                       · rw [c1 (by omega)]; omega
                       · have hm:l * s+(m - l) * s=m * s:=by rw [← Nat.add_mul]; congr 1; omega
                         have hm2:m * s ≤ cap' * s:=Nat.mul_le_mul_right _ (by omega)
                         omega
       · cases e
     · cases e
   · rename_i el f len cs hu
     have bnd:∀ {y cap r:Nat} {o:Option V},boundV y y o=some r→y ≤ cap→o ≠ none→boundV cap cap o=some r∧r ≤ y:=fun {y cap r o} q hq hne=>by
      cases o with
      | none=>exact absurd rfl hne
      | some v=>
        cases v with
        | int k i=>
          simp only [boundV] at q ⊢
          split at q
          · rename_i hb
            simp only [Option.some.injEq] at q; subst q
            exact ⟨if_pos ⟨hb.1,by omega⟩,by omega⟩
          · cases q
        | _=>simp only [boundV] at q; cases q
     split at e
     · rename_i s hs
       split at e
       · rename_i hcl
         obtain ⟨⟨a,cap,vs,rfl,hcap,hd,h0,hpos⟩,hfull⟩:=r
         have key:∀ (l hh m:Nat),l ≤ hh→hh ≤ len→hh ≤ m→∀ (f':Bool),(f'=true→m=hh)→
           vrel E (.lst f' (hh - l) ((cs.drop (l * s)).take ((hh - l) * s))) (.slice (if m=l then a else a.map (·.add (l * s))) (hh - l) (m - l)):=by
          intro l hh m k1 k2 k3 f' hf'
          refine ⟨⟨_,_,(vs.drop (l * s)).take ((hh - l) * s),rfl,by omega,drels_take (drels_drop hd),fun q=>by rw [q]; simp,fun q=>?_⟩,fun q=>⟨_,by rw [hf' q]⟩⟩
          obtain ⟨b,o,c,rfl,hfz,hc⟩:=hpos (by omega)
          refine ⟨b,o+l * s,c,?_,hfz,fun j w hw=>?_⟩
          · rw [if_neg (by omega)]; simp [Addr.add_none]
          · rw [List.getElem?_take] at hw
            split at hw
            · rw [List.getElem?_drop] at hw; rw [← hc _ w hw,Nat.add_assoc]
            · cases hw
         cases mx with
         | none=>
           simp only [optrel] at rm; subst rm
           simp only at e
           cases h2:boundV len len hi with
           | none=>simp [h2] at e
           | some hh=>
             simp only [h2] at e
             cases h3:boundV 0 hh lo with
             | none=>simp [h3] at e
             | some l=>
               simp only [h3,Option.some.injEq] at e; subst e
               have h2':boundV len cap hi=some hh∧hh ≤ len:=by
                cases hi with
                | none=>simp only [boundV,Option.some.injEq] at h2 ⊢; exact ⟨h2,by omega⟩
                | some y=>
                  obtain ⟨q1,q2⟩:=bnd h2 hcap (by simp)
                  exact ⟨by cases y <;> exact q1,q2⟩
               obtain ⟨q,q1,q2,q3⟩:=bounds_rel (P:=P) (w:=w) (isS:=true) (mx:=none) (mx':=none) (cap:=cap) rl rh rfl (.inl rfl) rfl h2'.1 h3 hcap
               refine ok_same g (v':=.slice (if cap=l then a else a.map (·.add (l * s))) (hh - l) (cap - l)) ?_ (key l hh cap q1 h2'.2 q2 _ fun hf=>?_)
               · simp only [Sem.run_bind,Instr.sliceAt,run_und hu,Result.andThen_ok,Instr.slice,q,run_sizeOf' hs,Sem.run_pure]
               · simp only [Bool.and_eq_true,Bool.not_eq_true',Option.isSome_eq_false_iff,Option.isNone_iff_eq_none] at hf
                 obtain ⟨hf1,rfl⟩:=hf
                 simp only [boundV,Option.some.injEq] at h2
                 obtain ⟨a',ha'⟩:=hfull hf1
                 simp only [Value.slice.injEq] at ha'
                 omega
         | some y=>
           simp only at e
           cases h1:boundV len len (some y) with
           | none=>simp [h1] at e
           | some m=>
             simp only [h1] at e
             cases h2:boundV len m hi with
             | none=>simp [h2] at e
             | some hh=>
               simp only [h2] at e
               cases h3:boundV 0 hh lo with
               | none=>simp [h3] at e
               | some l=>
                 simp only [h3] at e
                 split at e
                 · rename_i hhm
                   simp only [Option.some.injEq] at e; subst e
                   obtain ⟨k1,k2⟩:=bnd h1 hcap (by simp)
                   obtain ⟨q,q1,q2,q3⟩:=bounds_rel (P:=P) (w:=w) (isS:=true) (cap:=cap) rl rh rm hmh k1 h2 h3 hcap
                   refine ok_same g (v':=.slice (if m=l then a else a.map (·.add (l * s))) (hh - l) (m - l)) ?_ (key l hh m q1 (by omega) q2 _ fun _=>hhm.symm)
                   simp only [Sem.run_bind,Instr.sliceAt,run_und hu,Result.andThen_ok,Instr.slice,q,run_sizeOf' hs,Sem.run_pure]
                 · cases e
       · cases e
     · cases e
   · rename_i len el bm o hu
     split at e
     · rename_i s hs
       cases h1:boundV len len mx with
       | none=>simp [h1] at e
       | some m=>
         simp only [h1] at e
         cases h2:boundV len m hi with
         | none=>simp [h2] at e
         | some hh=>
           simp only [h2] at e
           cases h3:boundV 0 hh lo with
           | none=>simp [h3] at e
           | some l=>
             simp only [h3] at e
             split at e
             · rename_i hb
               simp only [Option.some.injEq] at e; subst e
               obtain ⟨hs0,hn0,hlive⟩:=hb
               unfold liveRow at hlive
               split at hlive
               · rename_i cs hm
                 have hlc:o+len * s ≤ cs.length:=by simpa using hlive
                 obtain ⟨b,sh,hi',rfl⟩:=r
                 obtain ⟨b',sh',hi2,c,el',fz,hbk,hsz,_,hcr⟩:=g.rel bm _ hm
                 rw [hi'] at hi2; cases hi2
                 obtain ⟨q,q1,q2,q3⟩:=bounds_rel (P:=P) (w:=w) (isS:=false) rl rh rm hmh h1 h2 h3 (Nat.le_refl _)
                 refine ok_same g (v':=.slice (some (if m=l then ⟨b,sh+o,none⟩ else ⟨b,sh+o+l * s,none⟩)) (hh - l) (m - l)) ?_ ?_
                 · simp only [Sem.run_bind,Instr.sliceAt,run_und hu,Result.andThen_ok,Instr.sureAddr,q,run_sizeOf' hs,Sem.run_pure,Addr.add_none]
                 · have hbound:sh+o+m * s ≤ E.β b:=by
                    have hpos:0 < len * s:=Nat.mul_pos hn0 hs0
                    have hb1:=crel_bound hcr (k:=o+len * s) (by omega) hlc
                    have hb2:m * s ≤ len * s:=Nat.mul_le_mul_right _ q3
                    omega
                   by_cases hcl:m=l
                   · rw [if_pos hcl]
                     refine ⟨b,sh,sh+o,m - l,hi',fun q=>by omega,by omega,by omega,?_,rfl⟩
                     rw [hcl]; simp; omega
                   · rw [if_neg hcl]
                     refine ⟨b,sh,sh+o+l * s,m - l,hi',fun q=>by omega,by omega,Nat.le_refl _,?_,rfl⟩
                     have hm:l * s+(m - l) * s=m * s:=by rw [← Nat.add_mul]; congr 1; omega
                     omega
               · cases hlive
             · cases e
     · cases e
   · cases e
end
end Go.Eng
