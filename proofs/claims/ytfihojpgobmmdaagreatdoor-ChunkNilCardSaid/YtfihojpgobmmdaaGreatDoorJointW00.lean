/- Lemmas of the engine. No conditions. -/
import GoSem.Core.Ast
import Derived.WalkKit
import Derived.Orders
set_option linter.unusedVariables false
set_option linter.unusedSimpArgs false
set_option linter.unusedSectionVars false
namespace Go.Eng
def jU:List (Nat×Nat):=[(0,0),(1,1),(2,2)]
open Go
abbrev an:=@Option.some.injEq
abbrev aq:=@List.mem_singleton
abbrev au:=@Nat.le_of_ble_eq_true
abbrev ax:=@List.length_append
abbrev ay:=@List.getElem?_eq_getElem
abbrev az:=@Int.natCast_nonneg
abbrev aA:=@Nat.le_refl
abbrev aB:=@Prod.mk.injEq
abbrev aC:=@Bool.and_eq_true
abbrev aD:=@Nat.eq_of_beq_eq_true
abbrev aE:=@of_decide_eq_true
abbrev aF:=@List.mem_cons
abbrev aG:=@List.getElem?_eq_some_iff
abbrev aH:=@if_pos
abbrev aI:=@if_neg
abbrev aJ:=@of_decide_eq_false
abbrev aK:=@List.mem_cons_of_mem
abbrev aL:=@List.not_mem_nil
abbrev aM:=@List.getD_eq_getElem?_getD
abbrev aN:=@congrArg
abbrev aO:=@Bool.false_eq_true
abbrev aP:=@List.mem_cons_self
abbrev aQ:=@Array.getElem?_eq_some_iff
abbrev aS:=@List.length_cons
abbrev aT:=@List.length_map
abbrev aU:=@List.take_length
abbrev aW:=@List.mem_append
abbrev aX:=@Nat.zero_le
abbrev aY:=@List.map_append
abbrev aZ:=@List.length_take
abbrev bf:=@List.mem_of_getElem?
abbrev bh:=@Option.ne_none_iff_exists'
abbrev bj:=@Option.map_some
abbrev bk:=@Nat.mul_one
abbrev bn:=@List.drop_zero
abbrev bq:=@List.take_of_length_le
abbrev br:=@Array.getElem?_eq_getElem
abbrev bt:=@List.all_eq_true
abbrev bu:=@List.getElem?_map
abbrev bw:=@or_false
abbrev bz:=@List.getElem?_append_left
abbrev bA:=@List.mem_map
abbrev bB:=@List.append_assoc
abbrev bC:=@decide_eq_false
abbrev bD:=@decide_eq_true_eq
abbrev bE:=@Nat.zero_add
abbrev bF:=@Nat.lt_of_lt_of_le
abbrev bG:=@List.take_add_one
abbrev bH:=@List.drop_eq_getElem_cons
abbrev bI:=@List.getElem?_cons_zero
abbrev bJ:=@List.getElem?_drop
abbrev bK:=@Nat.lt_or_ge
abbrev bL:=@List.mem_iff_getElem?
abbrev bM:=@List.length_replicate
abbrev bN:=@List.getElem?_eq_none
abbrev bO:=@Array.getElem?_toList
abbrev bP:=@List.getElem?_take
abbrev bQ:=@decide_eq_true
abbrev bR:=@List.length_nil
abbrev bS:=@Array.getElem?_append_left
abbrev bT:=@List.getElem?_append
abbrev bU:=@Bool.or_eq_true
abbrev bV:=@List.length_drop
abbrev bW:=@Option.isSome_iff_exists
abbrev bX:=@Nat.le_trans
abbrev bY:=@List.map_cons
abbrev bZ:=@List.take_append_of_le_length
abbrev b7:=@List.getElem_mem
abbrev b9:=@List.mem_append_right
abbrev cg:=@Array.getD_eq_getD_getElem?
abbrev cj:=@List.nodup_cons
abbrev ck:=@List.nil_append
abbrev cm:=@List.getElem?_append_right
abbrev cn:=@List.take_append_drop
abbrev cq:=@Array.getElem?_modify
abbrev cr:=@beq_self_eq_true
abbrev ct:=@Nat.mul_le_mul_right
abbrev cu:=@List.forall_mem_cons
abbrev cz:=@List.flatten_append
abbrev cA:=@List.append_nil
abbrev cB:=@List.getElem?_cons_succ
abbrev cC:=@Int.tmod_eq_emod_of_nonneg
abbrev cD:=@Nat.add_assoc
abbrev cE:=@Option.toList_some
abbrev cF:=@Option.some.inj
abbrev cG:=@Nat.lt_irrefl
abbrev cH:=@Nat.ble_eq_true_of_le
abbrev cI:=@if_false
abbrev cJ:=@List.length_eq_zero_iff
abbrev cK:=@Nat.mod_two_eq_zero_or_one
abbrev cL:=@List.mem_append_left
abbrev cM:=@Int.fdiv_eq_ediv_of_nonneg
abbrev cN:=@List.map_take
abbrev cO:=@Nat.beq_refl
abbrev cP:=@Nat.add_mul
abbrev L:=List UInt8
abbrev ah:=List Prop
abbrev aj:=IntKind.i64
theorem U{α:Sort _}{a b:α}(h:a=b:=by kernel_rfl):a=b:=h
section
variable{p:Prop}{α:Type _}
theorem K(h:p:=by omega):p:=h
theorem dU(h:p:=by decide):p:=h
theorem ajW(n:Nat):Int.ofNat n=(n:Int):=rfl
theorem dm(h:p:=by simp only[ajW];omega):p:=h
theorem dG{α:Type}{a:α}{cs es:α->Prop}(h:es a):∀g∈[a],cs g->es g:=fun _ hg _=>aq.1 hg▸h
theorem iI{l:ah}(h:p)(t:∀a∈l,a):∀a∈p::l,a:=cu.2 ⟨h,t⟩
theorem ek{a b:α}(h:some a=some b):a=b:=cF h
theorem fg{β:Type _}{a c:α}{b d:β}(h:some (a,b)=some (c,d)):a=c/\b=d:=Prod.mk.inj (cF h)
end
inductive rs where
 |bool (b:Bool)
 |int (k:IntKind) (n:Int)
 |str (s:L)
 |dS (n:Nat) (C:List rs)
 |agg (C:List rs)
 deriving Inhabited
abbrev ae:=List (rs×rs)
abbrev ai:=List rs
inductive V where
 |bool (b:Bool)
 |int (k:IntKind) (n:Int)
 |str (s:L)
 |ptr (a:Option (Nat×Nat))
 |dj (a:Option (Nat×Nat)) (T A jC:Nat)
 |map (r:Option Nat)
 |fn (f:Fn) (first captured:List V)
 |kB
 |iface (t:TypeId) (v:V)
 |nilIface
 |agg (C:List V)
 |ew (vs:List V)
 |dS (f:Bool) (n:Nat) (C:ai)
 |dx (C:ai)
 deriving Inhabited
abbrev ag:=List V
mutual
def rs.iZ:rs->V
 | .bool b=>.bool b
 | .int k n=>.int k n
 | .str s=>.str s
 | .dS n C=>.dS false n C
 | .agg C=>.agg (rs.l6 C)
def rs.l6:ai->ag
 | []=>[]
 |x::xs=>x.iZ::rs.l6 xs
end
theorem rs.gB:∀l:ai,rs.l6 l=l.map rs.iZ
 | []=>rfl
 |x::xs=>by rw[rs.l6,rs.gB xs];rfl
def rs.scalar:rs->Bool
 | .agg _=>false
 |_=>true
mutual
def V.PN:V->Option rs
 | .bool b=>some (.bool b)
 | .int k n=>some (.int k n)
 | .str s=>some (.str s)
 | .dS _ n C=>some (.dS n C)
 | .dj none _ _ _=>some (.dS 0 [])
 | .dj (some _) 0 _ _=>some (.dS 0 [])
 | .agg C=>match V.PO C with
   |some l=>some (.agg l)
   |none=>none
 |_=>none
def V.PO:ag->Option (ai)
 | []=>some []
 |x::xs=>match V.PN x with
  |some d=>match V.PO xs with
   |some l=>match d.scalar with
    |true=>some (d::l)
    |false=>none
   |none=>none
  |none=>none
end
inductive H(α:Type) where
 |nil
 |node (v:Option α) (l r:H α)
 deriving Inhabited
inductive lf where
 |cells (C:ag)
 |map (Q:List (V×V×Nat)) (eD:Nat)
 |nU (s:L) (pos:Nat)
 |ints (k:IntKind) (ks:List Int)
 |own (k:IntKind) (ks:List Int)
 |deep (C:ai)
 |jf (el:TypeId) (AW:Bool) (s:L)
 |AX (t:TypeId) (self:Bool) (x:V)
 |dI (kd:Option IntKind) (Q:ae)
 |mF
 |loop (st:Bool) (pe:Option Code) (S:H V) (ps:List Nat) (assign body:Code)
 deriving Inhabited
abbrev af:=List (Nat×lf)
def lf.wr:lf->Bool
 | .ints _ _=>false
 |_=>true
def H.get{α:Type}:H α->Nat->Option α
 | .nil,_=>none
 | .node v l r,k=>
   match k with
   |0=>v
   |k+1=>match k%2 with
    |0=>l.get (k/2)
    |_=>r.get (k/2)
def H.rS{α:Type}:Nat->H α->Nat->Option α->H α
 |0,t,_,_=>t
 |f+1,.nil,k,x=>
  match k with
  |0=>.node x .nil .nil
  |k+1=>match k%2 with
   |0=>.node none (H.rS f .nil (k/2) x) .nil
   |_=>.node none .nil (H.rS f .nil (k/2) x)
 |f+1,.node v l r,k,x=>
  match k with
  |0=>.node x l r
  |k+1=>match k%2 with
   |0=>.node v (H.rS f l (k/2) x) r
   |_=>.node v l (H.rS f r (k/2) x)
def fP:Nat:=4294967296
def H.set{α:Type}(t:H α)(k:Nat)(x:Option α):H α:=H.rS 33 t k x
def iP:Value->Option V
 | .bool b=>some (.bool b)
 | .int k n=>some (.int k n)
 | .string s=>some (.str s.data.toList)
 | .pointer none=>some (.ptr none)
 | .slice none 0 0=>some (.dj none 0 0 0)
 | .map none=>some (.map none)
 | .nilFunc=>some .kB
 | .nilIface=>some .nilIface
 |_=>none
def oc:List Value->Option (ag)
 | []=>some []
 |v::vs=>match iP v with
  |some x=>match oc vs with
   |some xs=>some (x::xs)
   |none=>none
  |none=>none
def Mp:Value->Option V
 | .agg C=>match oc C.toList with
   |some xs=>some (.agg xs)
   |none=>none
 |v=>iP v
def V.cells:V->ag
 | .agg C=>C
 |v=>[v]
def V.scalar:V->Bool
 | .agg _ | .ew _=>false
 |_=>true
def kV(P:Program)(t:TypeId):Option Nat:=(P.info? t).map (·.size)
def zeroOf(P:Program)(t:TypeId):Option V:=
 match P.info? t with
 |some i=>match i.zero with
  |some v=>Mp v
  |none=>none
 |none=>none
def NM(P:Program)(t:TypeId):Option Bool:=
 match P.underlying t with
 |some (.struct _)=>some true
 |some (.array _ _)=>some true
 |some _=>some false
 |none=>none
inductive nx where
 |val (v:V) (h:H lf) (n:Nat)
 |call (f:FuncId) (args:ag)
 |mF (f:FuncId) (captured args:ag)
 |recover
 |panic (v:V)
section
variable(h:H lf)(C:ag)(n o:Nat)
def ng:Option V->Option nx
 |some v=>some (.val v h n)
 |none=>none
def newObj(o:lf):Option (H lf×Nat):=
 if n<fP then some (h.set n (some o),n+1)else none
def cut(size:Nat):Option (ag):=
 if o+size<=C.length then some ((C.drop o).take size)else none
def Cg(new:ag):Option (ag):=
 if o+new.length<=C.length then some (C.take o++(new++C.drop (o+new.length)))else none
end
def lz(P:Program)(t:TypeId)(C:ag)(o:Nat):Option V:=
 match NM P t with
 |some true=>match kV P t with
  |some s=>(cut C o s).map .agg
  |none=>none
 |some false=>C[o]?
 |none=>none
def uL(m:Nat)(self:Bool)(x:V):ag:=[if self then .ptr (some (m,0))else .ptr none,x]
def Ch(P:Program)(t:TypeId)(z:V):lf:=match z.cells with
 | [.ptr none,.dj none 0 0 0]=>match P.underlying t with
   |some (.struct fs)=>match fs[0]? with
    |some f=>match P.underlying f.type with
     |some (.pointer t')=>if Nat.beq t' t then .AX t false (.dj none 0 0 0)else .cells z.cells
     |_=>.cells z.cells
    |none=>.cells z.cells
   |_=>.cells z.cells
 |_=>.cells z.cells
def loadAt(P:Program)(t:TypeId)(h:H lf):V->Option V
 | .ptr (some (m,o))=>match h.get m with
   |some (.cells C)=>lz P t C o
   |some (.ints k ks)=>lz P t (ks.map (.int k)) o
   |some (.own k ks)=>lz P t (ks.map (.int k)) o
   |some (.deep C)=>lz P t (rs.l6 C) o
   |some (.AX _ self x)=>lz P t (uL m self x) o
   |_=>none
 | .dx C=>lz P t (rs.l6 C) 0
 |_=>none
inductive Row where
 |vs (C:ag)
 |is (k:IntKind) (ks:List Int)
 |ds (C:ai)
def Row.iZ:Row->ag
 | .vs C=>C
 | .is k ks=>ks.map (.int k)
 | .ds C=>rs.l6 C
def Row.EM:Row->lf
 | .vs C=>.cells C
 | .is k ks=>.own k ks
 | .ds C=>.deep C
def lf.row:lf->Option Row
 | .cells C=>some (.vs C)
 | .own k ks=>some (.is k ks)
 | .deep C=>some (.ds C)
 |_=>none
def lf.NN:lf->Option Row
 | .cells C=>some (.vs C)
 | .own k ks=>some (.is k ks)
 | .ints k ks=>some (.is k ks)
 | .deep C=>some (.ds C)
 |_=>none
def iC:ag->Option (ai)
 | []=>some []
 |x::r=>match(match x with
  | .bool b=>some (.bool b)
  | .int k n=>some (.int k n)
  | .str s=>some (.str s)
  | .dS _ n C=>some (.dS n C)
  | .dj none _ _ _=>some (.dS 0 [])
  |_=>none:Option rs)with
  |some d=>match iC r with
   |some l=>some (d::l)
   |none=>none
  |none=>none
def pI(k:IntKind):ag->Option (List Int)
 | []=>some []
 | .int k' x::r=>match decide (k'=k),pI k r with
   |true,some l=>some (x::l)
   |_,_=>none
 |_::_=>none
def Row.app:Row->Row->Row
 | .vs a,.vs b=>.vs (a++b)
 | .is k a,.is k' b=>match decide (k'=k)with
   |true=>.is k (a++b)
   |false=>.vs (a.map (.int k)++b.map (.int k'))
 | .is k a,.vs b=>match pI k b with
   |some l=>.is k (a++l)
   |none=>.vs (a.map (.int k)++b)
 | .vs a,.is k b=>match pI k a with
   |some l=>.is k (l++b)
   |none=>.vs (a++b.map (.int k))
 | .ds a,.ds b=>.ds (a++b)
 | .ds a,.vs b=>match iC b with
   |some l=>.ds (a++l)
   |none=>.vs (rs.l6 a++b)
 | .vs a,.ds b=>match iC a with
   |some l=>.ds (l++b)
   |none=>.vs (a++rs.l6 b)
 | .ds a,.is k b=>.ds (a++b.map (.int k))
 | .is k a,.ds b=>.ds (a.map (.int k)++b)
def Row.cut(o size:Nat):Row->Option Row
 | .vs C=>match Eng.cut C o size with
   |some r=>some (.vs r)
   |none=>none
 | .is k ks=>if o+size<=ks.length then some (.is k ((ks.drop o).take size))else none
 | .ds C=>if o+size<=C.length then some (.ds ((C.drop o).take size))else none
def Row.soft:Row->Bool
 | .ds _=>true
 |_=>false
def Row.flat:Row->Bool
 | .vs C=>C.all V.scalar
 | .is _ _=>true
 | .ds _=>true
def nV(ks:ai)(o:Nat)(new:ai):ai:=ks.take o++(new++ks.drop (o+new.length))
def fZ(ks:List Int)(o:Nat)(new:List Int):List Int:=ks.take o++(new++ks.drop (o+new.length))
def storeAt(P:Program)(t:TypeId)(h:H lf)(v:V):V->Option (H lf)
 | .ptr (some (m,o))=>match h.get m with
   |some (.cells C)=>
    match kV P t with
    |some s=>
     if v.cells.length=s/\0<s/\m<fP/\v.cells.all V.scalar=true then
      match Cg C o v.cells with
      |some cs'=>some (h.set m (some (.cells cs')))
      |none=>none
     else none
    |none=>none
   |some (.own k ks)=>
    match kV P t with
    |some s=>
     if v.cells.length=s/\0<s/\m<fP then
      match pI k v.cells with
      |some new=>if o+s<=ks.length then some (h.set m (some (.own k (fZ ks o new))))else none
      |none=>none
     else none
    |none=>none
   |some (.deep C)=>
    match kV P t with
    |some s=>
     if v.cells.length=s/\0<s/\m<fP then
      match iC v.cells with
      |some new=>if o+s<=C.length then some (h.set m (some (.deep (nV C o new))))else none
      |none=>none
     else none
    |none=>none
   |some (.AX cQ self _)=>match kV P t,v.cells with
    |some 1,[x]=>if o=1/\m<fP/\x.scalar=true then some (h.set m (some (.AX cQ self x)))else none
    |_,_=>none
   |_=>none
 |_=>none
def sj(yw:Nat->Option (Nat×Nat)):ag->List (Nat×V)->Option (ag)
 |cells,[]=>some cells
 |cells,(i,v)::rest=>
  match yw i with
  |none=>none
  |some (off,size)=>
   if v.cells.length=size then
    match Cg cells off v.cells with
    |some qy=>sj yw qy rest
    |none=>none
   else none
def tf(P:Program):List Field->Option (List (Nat×Nat))
 | []=>some []
 |f::fs=>match kV P f.type with
  |some s=>match tf P fs with
   |some r=>some ((f.offset,s)::r)
   |none=>none
  |none=>none
def J6(P:Program)(t:TypeId)(parts:List (Nat×V)):Option V:=
 match zeroOf P t,P.underlying t with
 |some z,some (.struct od)=>
  match tf P od.toList with
  |some uM=>(sj (fun i=>uM[i]?) z.cells parts).map .agg
  |none=>none
 |some z,some (.array _ Uz)=>
  match kV P Uz with
  |some s=>(sj (fun i=>some (i*s,s)) z.cells parts).map .agg
  |none=>none
 |_,_=>none
def ia(z:ag):Nat->ag
 |0=>[]
 |n+1=>z++ia z n
def uN(P:Program)(t:TypeId):Option TypeId:=
 match P.underlying t with
 |some (.slice e)=>some e
 |_=>none
def oQ(P:Program)(t:TypeId)(T:Nat)(parts:List (Nat×V))(h:H lf)(n:Nat):Option nx:=
 match uN P t with
 |some e=>match kV P e,zeroOf P e with
  |some s,some z=>
   if 0<s/\T*s<=16777216/\z.cells.length=s then
    match sj (fun i=>some (i*s,s)) (ia z.cells T) parts with
    |some C=>match newObj h n (.cells C)with
     |some (h',n')=>some (.val (.dj (some (n,0)) T T s) h' n')
     |none=>none
    |none=>none
   else none
  |_,_=>none
 |none=>none
def tg:Sem Value->Option V
 | .pure v=>iP v
 |_=>none
def eJ:L->L->Bool
 | [],[]=>true
 |a::x,b::y=>match Nat.beq a.toNat b.toNat with
  |true=>eJ x y
  |false=>false
 |_,_=>false
def xD:Nat:=9223372036854775807
def yx:L->L->Bool
 |_,[]=>false
 | [],_::_=>true
 |a::x,b::y=>match Nat.blt a.toNat b.toNat with
  |true=>true
  |false=>match Nat.beq a.toNat b.toNat with
   |true=>yx x y
   |false=>false
def PR(op:BinOp)(a b:L):Option V:=
 match op with
 | .lss=>some (.bool (yx a b))
 | .geq=>some (.bool (!yx a b))
 | .leq=>some (.bool (yx a b||eJ a b))
 | .gtr=>some (.bool (!(yx a b||eJ a b)))
 | .add=>if a.length+b.length<=xD then some (.str (a++b))else none
 | .eql=>some (.bool (eJ a b))
 | .neq=>some (.bool (!eJ a b))
 |_=>none
def xe(P:Program)(t:TypeId)(C:ag)(off:Nat):Option V:=lz P t C off
def eqFields(P:Program)(eq:TypeId->V->V->Option Bool):List Field->ag->ag->Option Bool
 | [],_,_=>some true
 |f::fs,xs,ys=>
  if f.name ≠ "_" then
   match xe P f.type xs f.offset,xe P f.type ys f.offset with
   |some a,some b=>match eq f.type a b with
    |some true=>eqFields P eq fs xs ys
    |some false=>some false
    |none=>none
   |_,_=>none
  else eqFields P eq fs xs ys
def Mq(P:Program):Nat->TypeId->V->V->Option Bool
 |0,_,_,_=>none
 |d+1,t,x,y=>
  match P.underlying t with
  |some .bool=>match x,y with
   | .bool a,.bool b=>some (a==b)
   |_,_=>none
  |some (.int _)=>match x,y with
   | .int k a,.int k' b=>if k=k' then some (a==b)else none
   |_,_=>none
  |some .string=>match x,y with
   | .str a,.str b=>some (eJ a b)
   |_,_=>none
  |some (.pointer el)=>match x,y with
   | .ptr none,.ptr b=>some b.isNone
   | .ptr (some _),.ptr none=>some false
   | .ptr (some (m,o)),.ptr (some (m',o'))=>if(m=m'/\o=o')/\(kV P el).isSome=true then some true else none
   | .ptr none,.dx _=>some false
   | .dx _,.ptr none=>some false
   |_,_=>none
  |some (.interface _)=>match x,y with
   | .nilIface,.nilIface=>some true
   | .nilIface,.iface _ _=>some false
   | .iface _ _,.nilIface=>some false
   |_,_=>none
  |some (.struct od)=>match x,y with
   | .agg xs,.agg ys=>if P.stoodInHeld t then none else eqFields P (fun u a b=>Mq P d u a b) od.toList xs ys
   |_,_=>none
  |some (.slice _)=>match x,y with
   | .dj none _ _ _,.dj b _ _ _=>some b.isNone
   | .dj (some _) _ _ _,.dj none _ _ _=>some false
   | .dS _ n _,.dj none _ _ _=>match n with
     |_+1=>some false
     |0=>none
   |_,_=>none
  |some (.map _ _)=>match x,y with
   | .map none,.map b=>some b.isNone
   | .map (some _),.map none=>some false
   |_,_=>none
  |_=>none
def isLit:Operand->Bool
 | .const _=>true
 |_=>false
def F0(P:Program)(t:TypeId)(x y:Operand)(a b:V):Option Bool:=
 match a,b with
 | .nilIface,.nilIface=>if isLit x||isLit y then Mq P 10000 t a b else none
 | .agg _,.agg _=>if P.eqGuardType P.depth t then none else Mq P 10000 t a b
 |_,_=>Mq P 10000 t a b
def Ci(P:Program)(op:BinOp)(t:TypeId)(x y:Operand)(a b:V):Option V:=
 match a,b with
 | .int k m,.int k' n=>tg (binOp op t (.int k m) (.int k' n))
 | .str s,.str u=>PR op s u
 |a,b=>match op with
  | .eql=>(F0 P t x y a b).map .bool
  | .neq=>(F0 P t x y a b).map fun r=>.bool (!r)
  |_=>none
def unV(op:UnOp):V->Option V
 | .int k n=>tg (Op.unary op (.int k n))
 | .bool b=>tg (Op.unary op (.bool b))
 |_=>none
def Cj(s:L):ag:=s.map fun b=>.int .u8 b.toNat
def ef(s:L):List Int:=s.map fun b=>(b.toNat:Int)
def eT(ks:List Int):L:=ks.map fun n=>UInt8.ofNat n.toNat
def uO:Option lf->Option (L)
 |some (.jf _ _ s)=>some s
 |_=>none
def AY:Option lf->Option (List Int)
 |some (.own .u8 ks)=>some ks
 |some (.ints .u8 ks)=>some ks
 |_=>none
def ru:ag->Option (L)
 | []=>some []
 | .int .u8 n::vs=>match ru vs with
   |some bs=>some (UInt8.ofNat n.toNat::bs)
   |none=>none
 |_::_=>none
def qz(P:Program)(Mr dst:TypeId)(v:V)(h:H lf)(n:Nat):Option nx:=
 match P.underlying Mr,P.underlying dst,v with
 |some _,some (.int k),.int _ m=>some (.val (.int k (k.wrap m)) h n)
 |some _,some .string,.str s=>some (.val (.str s) h n)
 |some .string,some (.slice e),.str s=>
  match P.underlying e with
  |some (.int .u8)=>match newObj h n (.own .u8 (ef s))with
   |some (h',n')=>some (.val (.dj (some (n,0)) s.length s.length 1) h' n')
   |none=>none
  |_=>none
 |some (.slice e),some .string,.dS _ 0 _=>
  match P.underlying e with
  |some (.int .u8)=>some (.val (.str []) h n)
  |_=>none
 |some (.slice e),some .string,.dj none _ _ _=>
  match P.underlying e with
  |some (.int .u8)=>some (.val (.str []) h n)
  |_=>none
 |some (.slice e),some .string,.dj (some (m,o)) T _ jC=>
  match P.underlying e with
  |some (.int .u8)=>if jC=1 then(match uO (h.get m)with
   |some s0=>if T=0\/o+T<=s0.length then some (.val (.str ((s0.drop o).take T)) h n)else none
   |none=>match AY (h.get m)with
   |some ks=>if T=0\/o+T<=ks.length then some (.val (.str (eT ((ks.drop o).take T))) h n)else none
   |none=>match T with
   |0=>some (.val (.str []) h n)
   |_=>match h.get m with
    |some (.cells C)=>match cut C o T with
     |some bs=>match ru bs with
      |some s=>some (.val (.str s) h n)
      |none=>none
     |none=>none
    |_=>none)else none
  |_=>none
 |_,_,_=>none
def uy(ks:List Int):Nat->List Int
 |0=>[]
 |n+1=>ks++uy ks n
def BA(ks:ai):Nat->ai
 |0=>[]
 |n+1=>ks++BA ks n
def vX(z:ag)(n:Nat):Row:=match z with
 | .int k x::r=>match pI k (.int k x::r)with
   |some ks=>.is k (uy ks n)
   |none=>match iC (.int k x::r)with
    |some ds=>.ds (BA ds n)
    |none=>.vs (ia (.int k x::r) n)
 |z=>match iC z with
  |some ds=>.ds (BA ds n)
  |none=>.vs (ia z n)
def oe(P:Program)(t:TypeId)(l c:V)(h:H lf)(n:Nat):Option nx:=
 match uN P t,l,c with
 |some e,.int _ l,.int _ c=>
  match P.info? e,zeroOf P e with
  |some i,some z=>
   let l':=IntKind.i64.wrap l
   let c':=IntKind.i64.wrap c
   if 0<i.size/\z.cells.length=i.size/\0<=l'/\l'<=c'/\i.bytes*c'<=281474976710656 then
    match newObj h n (vX z.cells c'.toNat).EM with
    |some (h',n')=>some (.val (.dj (some (n,0)) l'.toNat c'.toNat i.size) h' n')
    |none=>none
   else none
  |_,_=>none
 |_,_,_=>none
def eO(uP:Nat)(y:Nat):Option V->Option Nat
 |none=>some uP
 |some (.int _ i)=>if 0<=i/\i<=y then some i.toNat else none
 |some _=>none
def yy(h:H lf)(m k:Nat):Bool:=
 match h.get m with
 |some (.cells C)=>decide (k<=C.length)
 |_=>false
def mH(P:Program)(t:TypeId)(hp:H lf)(x:V)(lo hi mx:Option V):Option V:=
 if mx.isSome=true/\hi.isSome=false then none else
 match P.underlying t,x with
 |some .string,.str s=>
  match mx with
  |some _=>none
  |none=>match eO s.length s.length hi with
   |some h=>match eO 0 h lo with
    |some l=>some (.str ((s.take h).drop l))
    |none=>none
   |none=>none
 |some (.slice e),.dj a T A jC=>
  match kV P e with
  |some s=>if s=jC\/a=none then
    match eO A A mx with
    |some m=>match eO T m hi with
     |some h=>match eO 0 h lo with
      |some l=>some (.dj (match a with|none=>none|some (b,o)=>some (b,o+l*jC)) (h-l) (m-l) jC)
      |none=>none
     |none=>none
    |none=>none
   else none
  |none=>none
 |some (.slice e),.dS f T C=>
  match kV P e with
  |some s=>if C.length=T*s then
    match mx with
    |none=>match eO T T hi with
     |some h=>match eO 0 h lo with
      |some l=>some (.dS (f&& !hi.isSome) (h-l) ((C.drop (l*s)).take ((h-l)*s)))
      |none=>none
     |none=>none
    |some m=>match eO T T (some m)with
     |some m=>match eO T m hi with
      |some h=>match eO 0 h lo with
       |some l=>if h=m then some (.dS true (h-l) ((C.drop (l*s)).take ((h-l)*s)))else none
       |none=>none
      |none=>none
     |none=>none
   else none
  |none=>none
 |some (.array n e),.ptr (some (b,o))=>
  match kV P e with
  |some s=>
   match eO n n mx with
   |some m=>match eO n m hi with
    |some h=>match eO 0 h lo with
     |some l=>if 0<s/\0<n/\yy hp b (o+n*s)=true then some (.dj (some (b,o+l*s)) (h-l) (m-l) s)else none
     |none=>none
    |none=>none
   |none=>none
  |none=>none
 |_,_=>none
def xE(P:Program)(t:TypeId)(f:Nat):V->Option V
 | .ptr (some (m,o))=>match P.underlying t with
   |some (.struct fs)=>match fs[f]? with
    |some fd=>match kV P fd.type with
     |some (_+1)=>some (.ptr (some (m,o+fd.offset)))
     |_=>none
    |none=>none
   |_=>none
 | .dx C=>match P.underlying t with
   |some (.struct fs)=>match fs[f]? with
    |some fd=>match kV P fd.type with
     |some (_+1)=>some (.dx (C.drop fd.offset))
     |_=>none
    |none=>none
   |_=>none
 |_=>none
def J7(P:Program)(t:TypeId)(f:Nat):V->Option V
 | .agg C=>match P.underlying t with
   |some (.struct fs)=>match fs[f]? with
    |some fd=>xe P fd.type C fd.offset
    |none=>none
   |_=>none
 |_=>none
def og(P:Program)(t:TypeId)(x ix:V):Option V:=
 match ix with
 | .int _ i=>
   match P.underlying t,x with
   |some (.array T e),.ptr (some (m,o))=>
    match kV P e with
    |some s=>if 0<=i/\i<T then some (.ptr (some (m,o+i.toNat*s)))else none
    |none=>none
   |some (.slice e),.dj (some (m,o)) T _ jC=>
    match kV P e with
    |some s=>if 0<=i/\i<T/\s=jC then some (.ptr (some (m,o+i.toNat*s)))else none
    |none=>none
   |some (.slice e),.dS _ T C=>
    match kV P e with
    |some s=>if(0<=i/\i<T)/\C.length=T*s then some (.dx ((C.drop (i.toNat*s)).take s))else none
    |none=>none
   |some (.array T e),.dx C=>
    match kV P e with
    |some s=>if 0<=i/\i<T then some (.dx (C.drop (i.toNat*s)))else none
    |none=>none
   |_,_=>none
 |_=>none
def F1(P:Program)(t:TypeId)(x ix:V):Option V:=
 match ix with
 | .int _ i=>
   match P.underlying t,x with
   |some (.array T e),.agg C=>
    match kV P e with
    |some s=>if 0<=i/\i<T then xe P e C (i.toNat*s)else none
    |none=>none
   |some .string,.str s=>
    if 0<=i then(match s[i.toNat]? with
     |some b=>some (.int .u8 b.toNat)
     |none=>none)else none
   |_,_=>none
 |_=>none
def yz:TypeDesc->V->V->Option Bool
 | .int _,.int k a,.int k' b=>if k=k' then some (a==b)else none
 | .string,.str a,.str b=>some (eJ a b)
 |_,_,_=>none
def jd:rs->rs->Bool
 | .int k a,.int k' b=>decide (k=k')&&decide (a=b)
 | .str a,.str b=>eJ a b
 |_,_=>false
def gL:Option IntKind->rs->Bool
 |some k,.int k' _=>decide (k'=k)
 |none,.str _=>true
 |_,_=>false
def mI:TypeDesc->Option IntKind->Bool
 | .int k,some k'=>decide (k=k')
 | .string,none=>true
 |_,_=>false
def dr(k:rs):ae->Option rs
 | []=>none
 |e::Q=>match jd k e.1 with
  |true=>some e.2
  |false=>dr k Q
def ir(k v:rs):ae->ae
 | []=>[(k,v)]
 |e::Q=>match jd k e.1 with
  |true=>(k,v)::Q
  |false=>e::ir k v Q
def lT(k:rs):ae->ae
 | []=>[]
 |e::Q=>match jd k e.1 with
  |true=>Q
  |false=>e::lT k Q
def rs.fW(z:V):Option rs->V
 |some d=>d.iZ
 |none=>z
def keyOf:V->Option rs
 | .int k n=>some (.int k n)
 | .str s=>some (.str s)
 |_=>none
def uQ(kd:TypeDesc)(k:V):List (V×V×Nat)->Nat->Option (Option (Nat×V×V×Nat))
 | [],_=>some none
 |e::Q,i=>
  match yz kd k e.1 with
  |some true=>some (some (i,e))
  |some false=>uQ kd k Q (i+1)
  |none=>none
def Ck:TypeDesc->V->Bool
 | .int _,.int _ _=>true
 | .string,.str _=>true
 |_,_=>false
def V.Yb(h:H lf):V->Option lf
 | .map (some r)=>h.get r
 |_=>none
def vY(P:Program)(t:TypeId)(h:H lf)(x k:V)(ok:Bool):Option V:=
 match P.underlying t with
 |some (.map kt et)=>match P.underlying kt,zeroOf P et with
  |some kd,some z=>
   match x,x.Yb h with
   | .map (some _),some (.dI kk Q)=>match keyOf k with
     |some k=>if mI kd kk&&gL kk k then some (if ok then .ew [rs.fW z (dr k Q),.bool (dr k Q).isSome]else rs.fW z (dr k Q))else none
     |none=>none
   |x,_=>
   if Ck kd k then
    match(match x with
     | .map none=>some []
     | .map (some r)=>(match h.get r with
       |some (.map Q _)=>some Q
       |_=>none)
     |_=>none:Option (List (V×V×Nat)))with
    |some Q=>match uQ kd k Q 0 with
     |some (some (_,_,v,_))=>some (if ok then .ew [v,.bool true]else v)
     |some none=>some (if ok then .ew [z,.bool false]else z)
     |none=>none
    |none=>none
   else none
  |_,_=>none
 |_=>none
def th{α:Type}:List α->Nat->(α->α)->List α
 | [],_,_=>[]
 |x::xs,0,f=>f x::xs
 |x::xs,i+1,f=>x::th xs i f
def tj(P:Program)(t:TypeId)(h:H lf)(n:Nat)(m k v:V):Option nx:=
 match P.underlying t,m with
 |some (.map kt _),.map (some r)=>match P.underlying kt,h.get r with
  |some kd,some (.map Q eD)=>
   if Ck kd k/\r<fP then
    match uQ kd k Q 0 with
    |some (some (i,_))=>some (.val (.ew []) (h.set r (some (.map (th Q i fun e=>(k,v,e.2.2)) eD))) n)
    |some none=>some (.val (.ew []) (h.set r (some (.map (Q++[(k,v,eD)]) (eD+1)))) n)
    |none=>none
   else none
  |some kd,some (.dI kk Q)=>match keyOf k,V.PN v with
   |some k,some v=>if mI kd kk&&(gL kk k&&decide (r<fP))then some (.val (.ew []) (h.set r (some (.dI kk (ir k v Q)))) n)else none
   |_,_=>none
  |_,_=>none
 |_,_=>none
def F2(P:Program)(eH:Array TypeId)(args:ag)(h:H lf)(n:Nat):Option nx:=
 match eH[0]?,args with
 |some t,[.map (some r),k]=>match P.underlying t with
  |some (.map kt _)=>match P.underlying kt,h.get r,keyOf k with
   |some kd,some (.dI kk Q),some k=>if mI kd kk&&(gL kk k&&decide (r<fP))then some (.val (.ew []) (h.set r (some (.dI kk (lT k Q)))) n)else none
   |_,_,_=>none
  |_=>none
 |_,_=>none
def zZ(P:Program)(t:TypeId)(h:H lf)(n:Nat)(m k:V):Option nx:=
 match P.underlying t,m with
 |some (.map kt et),.map (some r)=>match P.underlying kt,h.get r,zeroOf P et with
  |some kd,some (.map Q eD),some z=>
   if Ck kd k/\r<fP then
    match uQ kd k Q 0 with
    |some (some (i,e))=>some (.val (.ew [e.2.1,.int .i64 e.2.2]) (h.set r (some (.map (th Q i fun e=>(k,e.2.1,e.2.2)) eD))) n)
    |some none=>some (.val (.ew [z,.int .i64 eD]) (h.set r (some (.map (Q++[(k,z,eD)]) (eD+1)))) n)
    |none=>none
   else none
  |_,_,_=>none
 |_,_=>none
def z6(b:Int):List (V×V×Nat)->Nat->Option Nat
 | [],_=>none
 |e::Q,i=>if(e.2.2:Int)==b then some i else z6 b Q (i+1)
def uR(h:H lf)(n:Nat)(m adE v:V):Option nx:=
 match m,adE with
 | .map (some r),.int _ b=>match h.get r with
   |some (.map Q eD)=>
    if r<fP then
     match z6 b Q 0 with
     |some i=>some (.val (.ew []) (h.set r (some (.map (th Q i fun e=>(e.1,v,e.2.2)) eD))) n)
     |none=>none
    else none
   |_=>none
 |_,_=>none
def uT(P:Program)(x:V)(yA:TypeId)(ok:Bool):Option V:=
 match P.underlying yA,x with
 |some (.interface _),_=>none
 |some _,.nilIface=>if ok then(match zeroOf P yA with|some z=>some (.ew [z,.bool false])|none=>none)else none
 |some _,.iface t v=>if t=yA then some (if ok then .ew [v,.bool true]else v)
  else if ok then(match zeroOf P yA with|some z=>some (.ew [z,.bool false])|none=>none)else none
 |_,_=>none
def jE(h:H lf)(size:Nat):V->Option (Nat×Row)
 | .dj none T _ _=>if T=0 then some (0,.vs [])else none
 | .dj (some (m,o)) T _ jC=>if jC=size then(match T with
   |0=>some (0,.vs [])
   |_=>match h.get m with
    |some ob=>match ob.NN with
     |some r=>match r.cut o (T*size)with
      |some r=>some (T,r)
      |none=>none
     |none=>none
    |none=>none)else none
 | .str s=>if size=1 then some (s.length,.is .u8 (ef s))else none
 | .dS _ T C=>if C.length=T*size then some (T,.ds C)else none
 |_=>none
def uU:ag->Option (L)
 | []=>some []
 | .int .u8 x::r=>match uU r with
   |some l=>some (UInt8.ofNat x.toNat::l)
   |none=>none
 |_::_=>none
def uV:Row->Option (L)
 | .is .u8 ks=>some (eT ks)
 | .vs C=>uU C
 |_=>none
def Cl(e:TypeId)(x:V)(new:Row):lf:=match x with
 | .str t=>.jf e false t
 |_=>new.EM
def eU(NO size bytes:Nat):Bool:=decide (NO*bytes<=281474976710/\NO*size<=281474976710)
def J8:TypeDesc->Bool
 | .slice _=>true
 | .string=>true
 |_=>false
def yB(P:Program)(eH:Array TypeId)(args:ag)(h:H lf)(n:Nat):Option nx:=
 match eH[0]?,eH[1]?,args with
 |some st,some xt,[s,x]=>
  match uN P st,P.underlying xt with
  |some e,some xd=>
   match J8 xd,P.info? e,zeroOf P e with
   |true,some i,some z=>
    if 0<i.size/\0<i.bytes/\z.cells.length=i.size then
     match jE h i.size x with
     |some (k,new)=>
      if new.flat=true then
      match s with
      | .dj none 0 _ _=>
        match k with
        |0=>some (.val (.dj none 0 0 0) h n)
        |_=>if eU k i.size i.bytes then(match newObj h n (Cl e x new)with
         |some (h',n')=>some (.val (.dj (some (n,0)) k k i.size) h' n')
         |none=>none)else none
      | .dS true T C=>
        match k with
        |0=>some (.val (.dS true T C) h n)
        |_=>if eU (T+k) i.size i.bytes/\C.length=T*i.size then(match newObj h n ((Row.ds C).app new).EM with
         |some (h',n')=>some (.val (.dj (some (n,0)) (T+k) (T+k) i.size) h' n')
         |none=>none)else none
      | .dj (some (m,o)) T A jC=>
        if jC=i.size/\eU (T+k) i.size i.bytes/\m<fP then
         match h.get m with
         |some (.jf el AW s0)=>match uV new with
          |some t=>if(o=0/\0<A)/\(T<=s0.length/\(AW=true->T=s0.length))/\(i.size=1/\el=e)then(match newObj (h.set m none) n (.jf el AW (s0.take T++t))with
           |some (h',n')=>some (.val (.dj (some (n,0)) (T+k) (T+k) jC) h' n')
           |none=>none)else none
          |none=>none
         |some ob=>match ob.row with
          |some r=>
           match(if r.soft=false/\T=0 then some (.vs [])else r.cut o (T*i.size):Option Row)with
           |some old=>
            if new.soft=false/\k=0 then some (.val s h n)
            else match newObj (h.set m none) n (old.app new).EM with
             |some (h',n')=>some (.val (.dj (some (n,0)) (T+k) (T+k) jC) h' n')
             |none=>none
           |none=>none
          |none=>none
         |_=>none
        else none
      |_=>none
      else none
     |none=>none
    else none
   |_,_,_=>none
  |_,_=>none
 |_,_,_=>none
def NP(P:Program)(eH:Array TypeId)(args:ag)(h:H lf):Option V:=
 match eH[0]?,args with
 |some t,[x]=>match P.underlying t,x with
  |some .string,.str s=>some (.int .i64 s.length)
  |some (.array n _),_=>some (.int .i64 n)
  |some (.slice _),.dj _ T _ _=>some (.int .i64 T)
  |some (.slice _),.dS _ T _=>some (.int .i64 T)
  |some (.map _ _),.map none=>some (.int .i64 0)
  |some (.map _ _),.map (some r)=>match h.get r with
   |some (.map Q _)=>some (.int .i64 Q.length)
   |some (.dI _ Q)=>some (.int .i64 Q.length)
   |_=>none
  |_,_=>none
 |_,_=>none
def Cm(P:Program)(t:TypeId)(x:V)(h:H lf)(n:Nat):Option nx:=
 match P.underlying t,x with
 |some .string,.str s=>match newObj h n (.nU s 0)with
  |some (h',n')=>some (.val (.ptr (some (n,0))) h' n')
  |none=>none
 |_,_=>none
def PS(x:V)(PT:Bool)(h:H lf)(n:Nat):Option nx:=
 match x,PT with
 | .ptr (some (m,0)),true=>match h.get m with
   |some (.nU s pos)=>
    if pos<s.length then
     let cw:=Utf8.decode ⟨s.toArray⟩ pos
     if m<fP then some (.val (.ew [.bool true,.int .i64 pos,.int .i32 cw.1]) (h.set m (some (.nU s (pos+cw.2)))) n)else none
    else some (.val (.ew [.bool false]) h n)
   |_=>none
 |_,_=>none
def HQ:V->ag->Option V
 |x,[]=>some x
 | .int k a,.int _ b::vs=>HQ (.int k (if b>a then b else a)) vs
 |_,_=>none
def HR:V->ag->Option V
 |x,[]=>some x
 | .int k a,.int _ b::vs=>HR (.int k (if b<a then b else a)) vs
 |_,_=>none
def PU:List (Nat×Nat)->Nat->Option V
 | [],_=>none
 |p::r,g=>match Nat.beq p.1 g with
  |true=>some (.ptr (some (p.2,0)))
  |false=>PU r g
def iY(S:H V):Operand->Option V
 | .tmp t=>S.get t
 | .const v=>Mp v
 | .func f=>some (.fn (.func f) [] [])
 | .global g=>PU jU g
def uW(S:H V):List Operand->Option (ag)
 | []=>some []
 |x::xs=>match iY S x with
  |some v=>match uW S xs with
   |some vs=>some (v::vs)
   |none=>none
  |none=>none
def mJ(S:H V):Option Operand->Option (Option V)
 |none=>some none
 |some x=>match iY S x with
  |some v=>some (some v)
  |none=>none
def qA(S:H V):List (Nat×Operand)->Option (List (Nat×V))
 | []=>some []
 |(i,x)::xs=>match iY S x with
  |some v=>match qA S xs with
   |some vs=>some ((i,v)::vs)
   |none=>none
  |none=>none
def callee(P:Program)(f:FuncId):Bool:=
 match P.funcs[f]? with
 |some fn=>fn.body.isSome&&fn.name != "runtime.NumGoroutine"
 |none=>false
def lA(P:Program)(b:Builtin)(eH:Array TypeId)(args:ag)(h:H lf)(n:Nat):Option nx:=
 match b with
 | .append=>if eH.size=2 then yB P eH args h n else none
 | .len=>ng h n (NP P eH args h)
 | .max=>match args with
   |x::xs=>ng h n (HQ x xs)
   | []=>none
 | .min=>match args with
   |x::xs=>ng h n (HR x xs)
   | []=>none
 | .panic=>match args with
   | [.iface t v]=>some (.panic (.iface t v))
   |_=>none
 | .recover=>some .recover
 | .unsafeSliceData=>match args with
   | [.dj (some (m,o)) _ A _]=>if 0<A then some (.val (.ptr (some (m,o))) h n)else none
   |_=>none
 | .unsafeString=>match eH[0]?,args with
   |some pt,[.ptr (some (m,0)),.int .i64 l]=>match P.underlying pt,h.get m with
    |some (.pointer e),some (.jf el _ s)=>if(l=s.length/\0<s.length)/\(el=e/\P.cellsOf e=1)/\(m<fP/\eH.size=2/\s.length<=xD)then some (.val (.str s) (h.set m (some (.jf el true s))) n)else none
    |_,_=>none
   |_,_=>none
 | .delete=>if eH.size=2 then F2 P eH args h n else none
 |_=>none
def xg(P:Program)(S:H V)(c:Call)(h:H lf)(n:Nat):Option nx:=
 match uW S c.args.toList with
 |some args=>match c.callee with
  | .builtin b=>lA P b c.argTypes args h n
  | .invoke _ _=>none
  | .value f=>match iY S f with
    |some (.fn (.func g) first captured)=>if callee P g then some (.call g (first++args++captured))else none
    |some (.fn (.yield m) [] [])=>match h.get m with
     |some (.loop _ _ _ ps _ _)=>if ps.length=args.length then some (.call (P.funcs.size+m) args)else none
     |_=>none
    |_=>none
 |none=>none
def Cn(S:H V)(c:Call):Option nx:=
 match uW S c.args.toList with
 |some args=>match c.callee with
  | .value f=>match iY S f with
    |some (.fn (.func g) first captured)=>some (.mF g captured (first++args))
    |_=>none
  |_=>none
 |none=>none
def vZ:Fn->Bool
 | .yield _=>false
 |_=>true
def dJ(P:Program)(o:Oper)(S:H V)(h:H lf)(n:Nat):Option nx:=
 match o.op with
 | .move x=>ng h n (iY S x)
 | .assign x=>ng h n (iY S x)
 | .pick c a b=>match iY S c with
   |some (.bool true)=>ng h n (iY S a)
   |some (.bool false)=>ng h n (iY S b)
   |_=>none
 | .alloc e=>match zeroOf P e with
   |some z=>match newObj h n (Ch P e z)with
    |some (h',n')=>some (.val (.ptr (some (n,0))) h' n')
    |none=>none
   |none=>none
 | .box _ x=>match iY S x with
   |some v=>match newObj h n (.cells v.cells)with
    |some (h',n')=>some (.val (.ptr (some (n,0))) h' n')
    |none=>none
   |none=>none
 | .build t parts=>match qA S parts.toList with
   |some ps=>ng h n (J6 P t ps)
   |none=>none
 | .buildSlice t T parts=>match qA S parts.toList with
   |some ps=>oQ P t T ps h n
   |none=>none
 | .load t a=>match iY S a with
   |some v=>ng h n (loadAt P t h v)
   |none=>none
 | .store t a x=>match iY S a,iY S x with
   |some av,some xv=>match storeAt P t h xv av with
    |some h'=>some (.val (.ew []) h' n)
    |none=>none
   |_,_=>none
 | .nilCheck x=>match iY S x with
   |some (.ptr (some p))=>some (.val (.ptr (some p)) h n)
   |some (.dx C)=>some (.val (.dx C) h n)
   |some (.fn (.func f) a c)=>some (.val (.fn (.func f) a c) h n)
   |some (.iface t v)=>some (.val (.iface t v) h n)
   |_=>none
 | .binOp op t x y _=>match iY S x,iY S y with
   |some a,some b=>ng h n (Ci P op t x y a b)
   |_,_=>none
 | .unOp op _ x=>match iY S x with
   |some v=>ng h n (unV op v)
   |none=>none
 | .convert Mr dst x=>match iY S x with
   |some v=>qz P Mr dst v h n
   |none=>none
 | .makeInterface t x=>match iY S x,P.underlying t with
   |some v,some d=>match d with
    | .interface _=>none
    |_=>some (.val (.iface t v) h n)
   |_,_=>none
 | .makeFunc f first captured=>match uW S first.toList,uW S captured.toList with
   |some a,some c=>if vZ f=true then some (.val (.fn f a c) h n)else none
   |_,_=>none
 | .makeMap _ none=>match newObj h n (.map [] 0)with
   |some (h',n')=>some (.val (.map (some n)) h' n')
   |none=>none
 | .makeSlice t l c=>match iY S l,iY S c with
   |some l,some c=>oe P t l c h n
   |_,_=>none
 | .slice t x lo hi mx=>match iY S x,mJ S lo,mJ S hi,mJ S mx with
   |some v,some lo,some hi,some mx=>ng h n (mH P t h v lo hi mx)
   |_,_,_,_=>none
 | .fieldAddr t x f=>match iY S x with
   |some v=>ng h n (xE P t f v)
   |none=>none
 | .field t x f=>match iY S x with
   |some v=>ng h n (J7 P t f v)
   |none=>none
 | .indexAddr t x i=>match iY S x,iY S i with
   |some v,some i=>ng h n (og P t v i)
   |_,_=>none
 | .index t x i=>match iY S x,iY S i with
   |some v,some i=>ng h n (F1 P t v i)
   |_,_=>none
 | .lookup t x k ok=>match iY S x,iY S k with
   |some x,some k=>ng h n (vY P t h x k ok)
   |_,_=>none
 | .mapUpdate t m k v=>match iY S m,iY S k,iY S v with
   |some m,some k,some v=>tj P t h n m k v
   |_,_,_=>none
 | .insert t m k v=>match iY S m,iY S k,iY S v with
   |some m,some k,some v=>tj P t h n m k v
   |_,_,_=>none
 | .mapEntry t m k=>match iY S m,iY S k with
   |some m,some k=>zZ P t h n m k
   |_,_=>none
 | .entryStore _ m s v=>match iY S m,iY S s,iY S v with
   |some m,some s,some v=>uR h n m s v
   |_,_,_=>none
 | .typeAssert x _ t ok=>match iY S x with
   |some v=>ng h n (uT P v t ok)
   |none=>none
 | .extract x i=>match iY S x with
   |some (.ew vs)=>ng h n (vs[i]?)
   |_=>none
 | .range t x=>match iY S x with
   |some v=>Cm P t v h n
   |none=>none
 | .next it b=>match iY S it with
   |some v=>PS v b h n
   |none=>none
 | .panic x=>match iY S x with
   |some (.iface t v)=>some (.panic (.iface t v))
   |_=>none
 | .call c=>xg P S c h n
 | .defer c=>Cn S c
 |_=>none
structure St where
 S:H V
 h:H lf
 n:Nat
 gG:List (FuncId×ag×ag)
 deriving Inhabited
inductive fl where
 |normal
 |exit (id:Nat)
 |ret
 |panic (v:V)
inductive PV where
 |ret (v:V)
 |z7 (v:V)
abbrev fT:=FuncId->ag->H lf->Nat->Option (PV×H lf×Nat)
def jg(S:H V)(dst:Option Nat)(v:V):Option (H V):=
 match dst with
 |none=>some S
 |some d=>if d<fP then some (S.set d (some v))else none
def iJ(ops:Array Oper)(o:Oper)(S:H V):Option Bool:=
 match o.guard with
 |none=>some true
 |some (j,J9)=>match ops[j]? with
  |some q=>match q.dst with
   |some d=>match S.get d with
    |some (.bool b)=>some (b==J9)
    |some (.ew [])=>some false
    |_=>none
   |none=>none
  |none=>none
def nk{α:Type}(_:Nat):Option α:=none
def nl{α:Type}(_:Oper):Option α:=none
def BO:Op->Bool
 | .defer _=>false
 |_=>true
def jl(P:Program)(cf:fT)(ops:Array Oper):List Oper->St->Option (fl×St)
 | [],s=>some (.normal,s)
 |o::rest,s=>
  match iJ ops o s.S with
  |some false=>match jg s.S o.dst (.ew [])with
   |some S=>jl P cf ops rest { s with S:=S }
   |none=>none
  |some true=>match dJ P o s.S s.h s.n with
   |some (.val v h n)=>match jg s.S o.dst v with
    |some S=>jl P cf ops rest { s with S:=S,h:=h,n:=n }
    |none=>none
   |some (.call f args)=>match cf f args s.h s.n with
    |some (.ret v,h,n)=>match jg s.S o.dst v with
     |some S=>jl P cf ops rest { s with S:=S,h:=h,n:=n }
     |none=>none
    |some (.z7 v,h,n)=>some (.panic v,{ s with h:=h,n:=n })
    |none=>none
   |some (.mF f c args)=>if f<fP/\BO o.op=false then(match jg s.S o.dst (.ew [])with
    |some S=>jl P cf ops rest { s with S:=S,gG:=(f,c,args)::s.gG }
    |none=>none)else nl o
   |some (.panic v)=>some (.panic v,s)
   |some .recover=>none
   |none=>nl o
  |none=>nl o
def rz:Option (Nat×Nat)->Option (Nat×Nat)->Bool
 |none,none=>true
 |some (a,b),some (c,d)=>Nat.beq a c&&Nat.beq b d
 |_,_=>false
def F3 :Option Nat->Option Nat->Bool
 |none,none=>true
 |some a,some b=>Nat.beq a b
 |_,_=>false
def PW:Fn->Fn->Bool
 | .func a,.func b=>Nat.beq a b
 | .yield a,.yield b=>Nat.beq a b
 |_,_=>false
mutual
def rs.beq:rs->rs->Bool
 | .bool a,.bool b=>a==b
 | .int k a,.int j b=>decide (k=j)&&decide (a=b)
 | .str a,.str b=>eJ a b
 | .dS n a,.dS m b=>Nat.beq n m&&rs.p9 a b
 | .agg a,.agg b=>rs.p9 a b
 |_,_=>false
def rs.p9:ai->ai->Bool
 | [],[]=>true
 |a::x,b::y=>rs.beq a b&&rs.p9 x y
 |_,_=>false
end
mutual
def V.beq:V->V->Bool
 | .bool a,.bool b=>a==b
 | .int k a,.int j b=>decide (k=j)&&decide (a=b)
 | .str a,.str b=>eJ a b
 | .ptr a,.ptr b=>rz a b
 | .dj a l c e,.dj a' l' c' e'=>rz a a'&&Nat.beq l l'&&Nat.beq c c'&&Nat.beq e e'
 | .map a,.map b=>F3 a b
 | .fn f a c,.fn g b d=>PW f g&&V.p9 a b&&V.p9 c d
 | .kB,.kB=>true
 | .iface t x,.iface u y=>Nat.beq t u&&V.beq x y
 | .nilIface,.nilIface=>true
 | .agg a,.agg b=>V.p9 a b
 | .ew a,.ew b=>V.p9 a b
 | .dS f n a,.dS g m b=>f==g&&(Nat.beq n m&&rs.p9 a b)
 | .dx a,.dx b=>rs.p9 a b
 |_,_=>false
def V.p9:ag->ag->Bool
 | [],[]=>true
 |a::x,b::y=>V.beq a b&&V.p9 x y
 |_,_=>false
end
def rC:Op->Bool
 | .store .. | .mapUpdate .. | .insert .. | .mapEntry .. | .entryStore .. | .next .. | .defer _ | .panic _=>true
 | .call { callee:=.builtin b,.. }=>match b with
   | .len | .max | .min=>false
   |_=>true
 | .call _=>true
 |_=>false
def qB:Op->Bool
 | .move _ | .assign _ | .pick .. | .build .. | .nilCheck _ | .binOp .. | .unOp .. | .makeInterface .. | .makeFunc .. | .fieldAddr .. | .field ..
 | .indexAddr .. | .index .. | .typeAssert .. | .extract ..=>true
 |_=>false
structure Dr where
 S:H V
 eC:List Nat
 cur:Nat×H lf
 qa:List (Nat×Nat×H lf)
 last:Option Nat
 c7:af
 reads:List (Nat×Nat×Oper×H V×V)
 n:Nat
def eo(m i:Nat):Bool:=Nat.testBit m i
def gY(M:Nat):af->Nat->H lf->Nat->H lf
 | [],_,x,_=>x
 |(i,o)::r,m,x,iu=>if eo iu i&& !eo m i then(gY M r m x iu).set (M+i) (some o)else gY M r m x iu
def eS(eC:List Nat):List Edge->Nat
 | []=>0
 |e::Q=>if Region.binds .any e then eS eC Q|||(2^e.on|||eC.getD e.on 0)else eS eC Q
def mR(P:Program)(M i:Nat)(o:Oper)(S:H V)(v:V)(x:H lf):Bool:=
 match dJ P o S x (M+i)with
 |some (.val u _ k)=>Nat.beq k (M+i)&&V.beq u v
 |_=>false
def qC(P:Program)(M i:Nat)(o:Oper)(S:H V)(v:V)(c7:af)(iu:Nat):List (Nat×Nat×H lf)->Bool
 | []=>true
 |(e,m,x)::r=>if eo iu e then true else mR P M i o S v (gY M c7 m x iu)&&qC P M i o S v c7 iu r
def qb(P:Program)(M:Nat)(c7:af)(m:Nat)(x:H lf):List (Nat×Nat×Oper×H V×V)->Bool
 | []=>true
 |(j,iu,o,S,v)::r=>(eo m j||mR P M j o S v (gY M c7 m x iu))&&qb P M c7 m x r
def z8(iu:Nat):Option Nat->Bool
 |none=>true
 |some e=>eo iu e
def kJ(P:Program)(M i iu:Nat)(o:Oper)(s:Dr)(v:V)(h:H lf)(n:Nat):Option Dr:=
 match jg s.S o.dst v with
 |some S=>
  if qb P M s.c7 iu h s.reads then
   some { S:=S,eC:=s.eC++[iu],cur:=(iu,h),qa:=(i,s.cur.1,s.cur.2)::s.qa,last:=some i,c7:=s.c7,reads:=s.reads,n:=n }
  else none
 |none=>none
def uX(P:Program)(cf:fT)(ops:Array Oper)(M i:Nat)(o:Oper)(s:Dr):Option (Dr ⊕ (H V×V×H lf×Nat)):=
 let iu:=eS s.eC o.after.toList
 match iJ ops o s.S with
 |some false=>match jg s.S o.dst (.ew [])with
  |some S=>some (.inl { s with S:=S,eC:=s.eC++[iu] })
  |none=>nl o
 |some true=>
  if rC o.op then
   if z8 iu s.last then
    match dJ P o s.S (gY M s.c7 s.cur.1 s.cur.2 iu) s.n with
    |some (.val v h n)=>match kJ P M i iu o s v h n with
     |some s'=>some (.inl s')
     |none=>nl o
    |some (.call f args)=>match cf f args (gY M s.c7 s.cur.1 s.cur.2 iu) s.n with
     |some (.ret v,h,n)=>match kJ P M i iu o s v h n with
      |some s'=>some (.inl s')
      |none=>nl o
     |some (.z7 v,h,n)=>if Nat.beq (iu+1) (2^i)&&Nat.beq (i+1) ops.size then some (.inr (s.S,v,h,n))else nl o
     |none=>none
    |_=>nl o
   else nl o
  else
   let x:=gY M s.c7 s.cur.1 s.cur.2 iu
   match dJ P o s.S x (M+i)with
   |some (.val v h k)=>match jg s.S o.dst v with
    |some S=>
     if Nat.beq k (M+i)then
      if qB o.op then some (.inl { s with S:=S,eC:=s.eC++[iu] })
      else if qC P M i o s.S v s.c7 iu s.qa then
       some (.inl { s with S:=S,eC:=s.eC++[iu],reads:=(i,iu,o,s.S,v)::s.reads })
      else nl o
     else match h.get (M+i)with
      |some b=>if b.wr=true then some (.inl { s with S:=S,eC:=s.eC++[iu],c7:=(i,b)::s.c7 })else nl o
      |none=>nl o
    |none=>nl o
   |_=>nl o
 |none=>nl o
def rD(P:Program)(cf:fT)(ops:Array Oper)(M:Nat):List Oper->Nat->Dr->Option (Dr ⊕ (H V×V×H lf×Nat))
 | [],_,s=>some (.inl s)
 |o::r,i,s=>match uX P cf ops M i o s with
  |some (.inl s')=>rD P cf ops M r (i+1) s'
  |x=>x
def drawn(P:Program)(cf:fT)(ops:Array Oper)(s:St):Option (fl×St):=
 if s.n+ops.size<fP then
  match rD P cf ops s.n ops.toList 0 { S:=s.S,eC:=[],cur:=(0,s.h),qa:=[],last:=none,c7:=[],reads:=[],n:=s.n+ops.size }with
  |some (.inl d)=>some (.normal,{ S:=d.S,h:=gY s.n d.c7 d.cur.1 d.cur.2 (2^ops.size-1),n:=d.n,gG:=s.gG })
  |some (.inr (S,v,h,n))=>some (.panic v,{ s with S:=S,h:=h,n:=n })
  |none=>none
 else none
def rounds(f:St->Option (fl×St)):Nat->St->Option (fl×St)
 |0,_=>nk 1
 |k+1,s=>match f s with
  |some (.normal,s')=>rounds f k s'
  |r=>r
def jm(P:Program)(cf:fT)(rt:Nat):Code->St->Option (fl×St)
 | .skip,s=>some (.normal,s)
 | .region _ ops false,s=>jl P cf ops ops.toList s
 | .region _ ops true,s=>drawn P cf ops s
 | .seq a b,s=>match jm P cf rt a s with
   |some (.normal,s')=>jm P cf rt b s'
   |r=>r
 | .cond c a b,s=>match iY s.S c with
   |some (.bool true)=>jm P cf rt a s
   |some (.bool false)=>jm P cf rt b s
   |_=>nk 2
 | .block id body,s=>match jm P cf rt body s with
   |some (.exit id',s')=>if id'=id then some (.normal,s')else some (.exit id',s')
   |r=>r
 | .loop body,s=>rounds (jm P cf rt body) rt s
 | .exit id,s=>some (.exit id,s)
 | .ret,s=>some (.ret,s)
 | .rangeFunc g ps assign body,s=>match iY s.S g with
   |some (.fn (.func gf) [] lb)=>
    if callee P gf=true/\s.n+1<fP then
     match cf gf (.fn (.yield (s.n+1)) [] []::lb) ((s.h.set s.n (some .mF)).set (s.n+1) (some (.loop true none s.S ps.toList assign body))) (s.n+2)with
     |some (.ret _,h,n)=>match h.get s.n,h.get (s.n+1)with
      |some .mF,some (.loop true none _ _ _ _)=>some (.normal,{ s with h:=h.set (s.n+1) none,n:=n,gG:=(fP,[],[.map (some s.n)])::s.gG })
      |some .mF,some (.loop false (some .ret) _ _ _ _)=>some (.ret,{ s with h:=h.set (s.n+1) none,n:=n,gG:=(fP,[],[.map (some s.n)])::s.gG })
      |some .mF,some (.loop false (some (.exit id)) _ _ _ _)=>some (.exit id,{ s with h:=h.set (s.n+1) none,n:=n,gG:=(fP,[],[.map (some s.n)])::s.gG })
      |_,_=>nk 31
     |_=>nk 32
    else nk 33
   |_=>nk 34
 |_,_=>nk 3
def lU:ag->Nat->H V->H V
 | [],_,t=>t
 |v::vs,i,t=>lU vs (i+1) (t.set i (some v))
def F4(P:Program)(S:H V)(h:H lf):ResultVar->Option V
 | .tmp t=>S.get t
 | .cell a t=>match S.get a with
   |some v=>loadAt P t h v
   |none=>none
def lB(P:Program)(S:H V)(h:H lf):List ResultVar->Option (ag)
 | []=>some []
 |r::D=>match F4 P S h r with
  |some v=>match lB P S h D with
   |some vs=>some (v::vs)
   |none=>none
  |none=>none
def oneOf:ag->V
 | [v]=>v
 |vs=>.ew vs
inductive Mode where
 |ret
 |z7 (v:V) (rec:Bool)
def rE(P:Program)(cf:fT)(ops:Array Oper):List Oper->St->Mode->Option (fl×St×Mode)
 | [],s,m=>some (.normal,s,m)
 |o::rest,s,m=>
  match iJ ops o s.S with
  |some false=>match jg s.S o.dst (.ew [])with
   |some S=>rE P cf ops rest { s with S:=S } m
   |none=>none
  |some true=>match dJ P o s.S s.h s.n with
   |some (.val v h n)=>match jg s.S o.dst v with
    |some S=>rE P cf ops rest { s with S:=S,h:=h,n:=n } m
    |none=>none
   |some .recover=>match m with
    | .z7 v false=>match jg s.S o.dst v with
      |some S=>rE P cf ops rest { s with S:=S } (.z7 v true)
      |none=>none
    |m=>match jg s.S o.dst .nilIface with
     |some S=>rE P cf ops rest { s with S:=S } m
     |none=>none
   |_=>nl o
  |none=>nl o
def uq(P:Program)(cf:fT)(rt:Nat):Code->St->Mode->Option (fl×St×Mode)
 | .region _ ops false,s,m=>rE P cf ops ops.toList s m
 | .seq a b,s,m=>match uq P cf rt a s m with
   |some (.normal,s',m')=>uq P cf rt b s' m'
   |r=>r
 | .cond c a b,s,m=>match iY s.S c with
   |some (.bool true)=>uq P cf rt a s m
   |some (.bool false)=>uq P cf rt b s m
   |_=>nk 5
 |c,s,m=>match jm P cf rt c s with
  |some (x,s')=>some (x,s',m)
  |none=>none
def nW(P:Program)(cf:fT)(rt:Nat)(fn:Func)(S:H V):List (FuncId×ag×ag)->Mode->H lf->Nat->Option (PV×H lf×Nat)
 | [],.ret,h,n=>match lB P S h fn.results.toList with
   |some vs=>some (.ret (oneOf vs),h,n)
   |none=>nk 11
 | [],.z7 v false,h,n=>some (.z7 v,h,n)
 | [],.z7 _ true,_,_=>nk 12
 |(g,c,args)::ds,m,h,n=>
  if fP<=g then(match args with
   | [.map (some b)]=>(match h.get b with
     |some .mF=>if b<fP then nW P cf rt fn S ds m (h.set b none) n else nk 41
     |_=>nk 42)
   |_=>nk 43)else
  match P.funcs[g]? with
  |some gn=>match gn.body with
   |some code=>
    if callee P g=true/\(args++c).length<=gn.ntmps/\gn.ntmps<fP then
     match uq P cf rt code { S:=lU (args++c) 0 .nil,h:=h,n:=n,gG:=[] } m with
     |some (.normal,s',m')=>
      (match s'.gG with
      | []=>match lB P s'.S s'.h gn.results.toList with
        |some _=>nW P cf rt fn S ds (match m' with | .z7 _ true=>.ret|m=>m) s'.h s'.n
        |none=>nk 13
      |_=>nk 14)
     |some (.ret,s',m')=>
      (match s'.gG with
      | []=>match lB P s'.S s'.h gn.results.toList with
        |some _=>nW P cf rt fn S ds (match m' with | .z7 _ true=>.ret|m=>m) s'.h s'.n
        |none=>nk 15
      |_=>nk 16)
     |_=>nk 17
    else none
   |none=>nk 18
  |none=>nk 19
def enter(P:Program)(cf:fT)(rt:Nat)(f:FuncId)(args:ag)(h:H lf)(n:Nat):Option (PV×H lf×Nat):=
 match P.funcs[f]? with
 |some fn=>match fn.body with
  |some code=>
   if args.length<=fn.ntmps/\fn.ntmps<fP then
    match jm P cf rt code { S:=lU args 0 .nil,h:=h,n:=n,gG:=[] }with
    |some (.normal,s)=>nW P cf rt fn s.S s.gG .ret s.h s.n
    |some (.ret,s)=>nW P cf rt fn s.S s.gG .ret s.h s.n
    |some (.panic v,s)=>nW P cf rt fn s.S s.gG (.z7 v false) s.h s.n
    |_=>nk 20
   else none
  |none=>nk 21
 |none=>nk 22
def jV:Code->Bool
 | .region _ ops _=>ops.toList.all fun o=>BO o.op
 | .seq a b=>jV a&&jV b
 | .cond _ a b=>jV a&&jV b
 | .block _ c=>jV c
 | .loop c=>jV c
 | .rangeFunc ..=>false
 |_=>true
def xF:List (Nat×V)->H V->Option (H V)
 | [],t=>some t
 |(i,v)::r,t=>if i<fP then xF r (t.set i (some v))else none
def Ka:List Nat->ag->List (Nat×V)
 |i::is,v::vs=>(i,v)::Ka is vs
 |_,_=>[]
def xG(P:Program)(cf:fT)(rt:Nat)(m:Nat)(args:ag)(h:H lf)(n:Nat):Option (PV×H lf×Nat):=
 match h.get m with
 |some (.loop true none S ps assign body)=>
  if m<fP/\ps.length=args.length/\jV assign=true/\jV body=true then
   match xF (Ka ps args) S with
   |some Aa=>match jm P cf rt assign { S:=Aa,h:=h.set m none,n:=n,gG:=[] }with
    |some (.normal,s1)=>match jm P cf rt body s1 with
     |some (.normal,s2)=>some (.ret (.bool true),s2.h.set m (some (.loop true none S ps assign body)),s2.n)
     |some (.ret,s2)=>some (.ret (.bool false),s2.h.set m (some (.loop false (some .ret) S ps assign body)),s2.n)
     |some (.exit id,s2)=>some (.ret (.bool false),s2.h.set m (some (.loop false (some (.exit id)) S ps assign body)),s2.n)
     |_=>nk 51
    |_=>nk 52
   |none=>nk 53
  else nk 54
 |_=>nk 55
def call(P:Program)(rt:Nat):Nat->fT
 |0=>fun _ _ _ _=>nk 23
 |k+1=>fun f args h n=>if f<P.funcs.size then enter P (call P rt k) rt f args h n else xG P (call P rt k) rt (f-P.funcs.size) args h n
def pU(l:List Oper):List Nat:=l.foldl (fun gy o=>gy++[eS gy o.after.toList]) []
section
variable(ops:Array Oper)
def uY(o:Oper):List Nat:=
 (o.op.operands.toList.filterMap fun x=>match x with | .tmp t=>some t|_=>none) ++
  (match o.guard with|some (j,_)=>(match ops[j]? with|some q=>q.dst.toList|none=>[])|none=>[])
def F5(m:List Nat)(i j:Nat):Bool:=
 match ops[i]?,ops[j]? with
 |some o,some q=>match o.dst with
  |some t=>(match q.dst with|some u=>!Nat.beq t u|none=>true) &&
    (if(uY ops q).contains t then(if i<j then eo (m.getD j 0) i else eo (m.getD i 0) j)else true)
  |none=>true
 |_,_=>true
def PX(h1:Nat):Bool:=
 let m:=pU ops.toList
 (List.range ops.size).all fun j=>match ops[j]? with
  |some o=>o.after.toList.all (fun e=>!Region.binds .any e||decide (e.on<j))&&(match o.dst with|some d=>decide (d<h1)|none=>true) &&
    (List.range ops.size).all fun i=>Nat.beq i j||F5 ops m i j
  |none=>true
end
def fc(h1:Nat):Code->Bool
 | .region _ ops Kb=>ops.toList.all (fun o=>match o.dst with|some d=>decide (d<h1)|none=>true)&&(if Kb then PX ops h1 else true)
 | .seq a b=>fc h1 a&&fc h1 b
 | .cond _ a b=>fc h1 a&&fc h1 b
 | .block _ c=>fc h1 c
 | .loop c=>fc h1 c
 | .scope c=>fc h1 c
 | .rangeFunc _ ps a b=>ps.toList.all (fun p=>decide (p<h1))&&(fc h1 a&&fc h1 b)
 |_=>true
structure Env where
 ι:Nat->Option (Nat×Nat)
 β:Nat->Nat
 φ:Nat->Option (Array Value)
mutual
def lH(φ:Nat->Option (Array Value)):rs->Value->Prop
 | .bool b,v=>v= .bool b
 | .int k n,v=>v= .int k n
 | .str s,v=>v= .string ⟨s.toArray⟩
 | .dS n C,v=>∃a A vs,v= .slice a n A/\n<=A/\iw φ C vs/\(n=0->C=[])/\
    (0<n->∃b o c,a=some ⟨b,o,none⟩/\φ b=some c/\∀(j:Nat) (w:Value),vs[j]? =some w->c[o+j]? =some w)
 | .agg C,v=>∃vs,iw φ C vs/\v= .agg vs.toArray
def iw(φ:Nat->Option (Array Value)):ai->List Value->Prop
 | [],l=>l=[]
 |x::xs,l=>∃y ys,x.scalar=true/\lH φ x y/\iw φ xs ys/\l=y::ys
end
def yC(E:Env):Fn->Fn->Prop
 | .yield m,f'=>∃l s,E.ι m=some (l,s)/\f'= .yield l
 |f,f'=>f'=f
mutual
def dK(E:Env):V->Value->Prop
 | .bool b,v=>v= .bool b
 | .int k n,v=>v= .int k n
 | .str s,v=>v= .string ⟨s.toArray⟩
 | .ptr none,v=>v= .pointer none
 | .ptr (some (m,o)),v=>∃b s,E.ι m=some (b,s)/\v= .pointer (some ⟨b,s+o,none⟩)
 | .dj none T A _,v=>T=0/\A=0/\v= .slice none 0 0
 | .dj (some (m,o)) T A jC,v=>∃b s o' gp,E.ι m=some (b,s)/\(0<A->o'=s+o)/\T<=A/\A<=gp/\o'+gp*jC<=E.β b/\
    v= .slice (some ⟨b,o',none⟩) T gp
 | .map none,v=>v= .map none
 | .map (some m),v=>∃b,E.ι m=some (b,0)/\v= .map (some b)
 | .fn f a c,v=>∃f' a' c',yC E f f'/\dL E a a'/\dL E c c'/\v= .func f' a'.toArray c'.toArray
 | .kB,v=>v= .nilFunc
 | .iface t x,v=>∃x',dK E x x'/\v= .iface t x'
 | .nilIface,v=>v= .nilIface
 | .agg C,v=>∃cs',dL E C cs'/\v= .agg cs'.toArray
 | .ew C,v=>∃cs',dL E C cs'/\v= .tuple cs'.toArray
 | .dS f n C,v=>lH E.φ (.dS n C) v/\(f=true->∃a,v= .slice a n n)
 | .dx C,v=>∃b o c vs,v= .pointer (some ⟨b,o,none⟩)/\E.φ b=some c/\iw E.φ C vs/\∀(j:Nat) (w:Value),vs[j]? =some w->c[o+j]? =some w
def dL(E:Env):ag->List Value->Prop
 | [],l=>l=[]
 |x::xs,l=>∃y ys,dK E x y/\dL E xs ys/\l=y::ys
end
structure Env.le(E E':Env):Prop where
 nm:∀m b s,E.ι m=some (b,s)->E'.ι m=some (b,s)/\E'.β b=E.β b
 fz:∀b c,E.φ b=some c->E'.φ b=some c
def GE(E:Env):Prop:=∀p∈jU,E.ι p.2=some (p.1,0)
theorem GE.mono{E E':Env}(h:GE E)(k:E.le E'):GE E':=fun p hp=>(k.nm _ _ _ (h p hp)).1
theorem HS:∀{l:List (Nat×Nat)} {g:Nat} {v:V},PU l g=some v->∃m,(g,m)∈l/\v= .ptr (some (m,0))
 | [],_,_,h=>by cases h
 |p::r,g,v,h=>by
  unfold PU at h;split at h
  . rename_i hb;cases h;exact⟨p.2,aF.2 (.inl (by rw[<- aD hb])),rfl⟩
  . obtain⟨m,N,B⟩:=HS h;exact⟨m,aK _ N,B⟩
theorem HT{E:Env}(h:GE E){g:Nat}{v:V}(e:PU jU g=some v):dK E v (.pointer (some ⟨g,0,none⟩)):=by
 obtain⟨m,N,rfl⟩:=HS e;exact⟨g,0,h _ N,rfl⟩
theorem Env.le_refl(E:Env):E.le E:=⟨fun _ _ _ h=>⟨h,rfl⟩,fun _ _ h=>h⟩
theorem Env.le_trans{cS h2 cs:Env}(h:cS.le h2)(k:h2.le cs):cS.le cs:=⟨fun m b s e=>
 ⟨(k.nm m b s (h.nm m b s e).1).1,(k.nm m b s (h.nm m b s e).1).2.trans (h.nm m b s e).2⟩,fun b c e=>k.fz b c (h.fz b c e)⟩
mutual
theorem kO{φ Ms:Nat->Option (Array Value)}(h:∀b c,φ b=some c->Ms b=some c):∀(d:rs) (v:Value),lH φ d v->lH Ms d v
 | .bool _,_,r=>r
 | .int _ _,_,r=>r
 | .str _,_,r=>r
 | .dS _ C,_,⟨a,A,vs,e,I,r,h0,N⟩=>⟨a,A,vs,e,I,iD h C vs r,h0,fun hn=>let⟨b,o,c,e1,e2,e3⟩:=N hn;⟨b,o,c,e1,h _ _ e2,e3⟩⟩
 | .agg C,_,⟨vs,r,e⟩=>⟨vs,iD h C vs r,e⟩
theorem iD{φ Ms:Nat->Option (Array Value)}(h:∀b c,φ b=some c->Ms b=some c):∀(d:ai) (v:List Value),iw φ d v->iw Ms d v
 | [],_,r=>r
 |x::xs,_,⟨y,ys,s,r,D,e⟩=>⟨y,ys,s,kO h x y r,iD h xs ys D,e⟩
end
mutual
theorem my{E:Env}:∀(d:rs) (v:Value),lH E.φ d v->dK E d.iZ v
 | .bool _,_,r=>r
 | .int _ _,_,r=>r
 | .str _,_,r=>r
 | .dS _ _,_,r=>⟨r,fun h=>by cases h⟩
 | .agg C,_,⟨vs,r,e⟩=>⟨vs,v7 C vs r,e⟩
theorem v7{E:Env}:∀(d:ai) (v:List Value),iw E.φ d v->dL E (rs.l6 d) v
 | [],_,r=>r
 |x::xs,_,⟨y,ys,_,r,D,e⟩=>⟨y,ys,my x y r,v7 xs ys D,e⟩
end
mutual
theorem HU{E:Env}:∀(d:rs) (v:Value),dK E d.iZ v->(∀C,d= .agg C->∀x∈C,x.scalar=true)->lH E.φ d v
 | .bool _,_,r,_=>r
 | .int _ _,_,r,_=>r
 | .str _,_,r,_=>r
 | .dS _ _,_,r,_=>r.1
 | .agg C,_,⟨vs,r,e⟩,h=>⟨vs,Co C vs r (h C rfl),e⟩
theorem Co{E:Env}:∀(d:ai) (v:List Value),dL E (rs.l6 d) v->(∀x∈d,x.scalar=true)->iw E.φ d v
 | [],_,r,_=>r
 |x::xs,_,⟨y,ys,r,D,e⟩,h=>⟨y,ys,h x (by simp),HU x y r (fun C q=>by have:=h x (by simp);rw[q]at this;cases this),Co xs ys D (fun z hz=>h z (by simp[hz])),e⟩
end
theorem qc{φ:Nat->Option (Array Value)}:∀{xs:ai} {ys:List Value},iw φ xs ys->ys.length=xs.length
 | [],_,r=>by simp only[iw]at r;subst r;rfl
 |_::_,_,r=>by obtain⟨y,ys,_,_,D,rfl⟩:=r;simp[qc D]
theorem v8{φ:Nat->Option (Array Value)}:∀{xs:ai} {ys:List Value},iw φ xs ys->∀(i:Nat) (d:rs),xs[i]? =some d->∃v',ys[i]? =some v'/\d.scalar=true/\lH φ d v'
 | [],_,r,i,v,h=>by simp at h
 |x::xs,_,r,i,v,h=>by
  obtain⟨y,ys,s0,r0,D,rfl⟩:=r;cases i with
  |zero=>simp at h;subst h;exact⟨y,by simp,s0,r0⟩
  |succ i=>simp at h;obtain⟨v',N,B⟩:=v8 D i v h;exact⟨v',by simpa using N,B⟩
theorem qd{φ:Nat->Option (Array Value)}:∀{xs:ai} {ys:List Value},xs.length=ys.length->(∀(i:Nat) (d:rs),xs[i]? =some d->∃v',ys[i]? =some v'/\d.scalar=true/\lH φ d v')->iw φ xs ys
 | [],[],_,_=>rfl
 | [],_::_,h,_=>by simp at h
 |_::_,[],h,_=>by simp at h
 |x::xs,y::ys,h,r=>by
  obtain⟨v',N,B,h3⟩:=r 0 x (by simp);simp at N;subst N;exact⟨y,ys,B,h3,qd (by simpa using h) (fun i v hi=>r (i+1) v (by simpa using hi)),rfl⟩
section
variable{φ:Nat->Option (Array Value)}{n:Nat}{xs:ai}{ys:List Value}
theorem tn(r:iw φ xs ys):iw φ (xs.take n) (ys.take n):=by
 refine qd (by simp[qc r]) fun i v h=>?_;rw[bP]at h ⊢;split at h
 . rename_i hi;rw[aH hi];exact v8 r i v h
 . simp at h
theorem oh(r:iw φ xs ys):iw φ (xs.drop n) (ys.drop n):=by
 refine qd (by simp[qc r]) fun i v h=>?_;rw[bJ]at h ⊢;exact v8 r _ v h
end
theorem qe{φ:Nat->Option (Array Value)}:∀{xs Cp:ai} {ys Kc:List Value},iw φ xs ys->iw φ Cp Kc->iw φ (xs++Cp) (ys++Kc)
 | [],_,_,_,r,r'=>by simp only[iw]at r;subst r;simpa using r'
 |x::xs,_,_,_,r,r'=>by
  obtain⟨y,ys,s0,r0,D,rfl⟩:=r;exact⟨y,_,s0,r0,qe D r',rfl⟩
theorem jn{φ:Nat->Option (Array Value)}:∀{xs:ai} {ys:List Value},iw φ xs ys->∀x∈xs,x.scalar=true
 | [],_,_,x,h=>by simp at h
 |a::xs,_,r,x,h=>by
  obtain⟨y,ys,s0,_,D,_⟩:=r;rcases aF.1 h with rfl|h
  . exact s0
  . exact jn D x h
theorem Ke{d:rs}(h:d.scalar=true):d.iZ.scalar=true:=by cases d<;>first|rfl|(simp[rs.scalar]at h)
theorem AZ{ds:ai}(h:∀x∈ds,x.scalar=true):(rs.l6 ds).all V.scalar=true:=by
 rw[rs.gB,bt];intro x G;obtain⟨d,hd,rfl⟩:=bA.1 G;exact Ke (h d hd)
theorem Kf{E E':Env}(h:E.le E'):∀(f f':Fn),yC E f f'->yC E' f f'
 | .yield _,_,⟨l,s,e,q⟩=>⟨l,s,(h.nm _ _ _ e).1,q⟩
 | .func _,_,r=>r
 | .method _,_,r=>r
 | .methodOf _ _,_,r=>r
 | .via _ _ _ _,_,r=>r
mutual
theorem js{E E':Env}(h:E.le E'):∀(v:V) (v':Value),dK E v v'->dK E' v v'
 | .bool _,_,r=>r
 | .int _ _,_,r=>r
 | .str _,_,r=>r
 | .ptr none,_,r=>r
 | .ptr (some (_,_)),_,⟨b,s,e,q⟩=>⟨b,s,(h.nm _ _ _ e).1,q⟩
 | .dj none _ _ _,_,r=>r
 | .dj (some (_,_)) _ _ _,_,⟨b,s,o',gp,e,q1,q2,q3,q4,q5⟩=>⟨b,s,o',gp,(h.nm _ _ _ e).1,q1,q2,q3,(h.nm _ _ _ e).2▸q4,q5⟩
 | .map none,_,r=>r
 | .map (some _),_,⟨b,e,q⟩=>⟨b,(h.nm _ _ _ e).1,q⟩
 | .fn _ a c,_,⟨f',a',c',rf,ra,rc,q⟩=>⟨f',a',c',Kf h _ _ rf,kF h a a' ra,kF h c c' rc,q⟩
 | .kB,_,r=>r
 | .iface _ x,_,⟨x',r,q⟩=>⟨x',js h x x' r,q⟩
 | .nilIface,_,r=>r
 | .agg C,_,⟨cs',r,q⟩=>⟨cs',kF h C cs' r,q⟩
 | .ew C,_,⟨cs',r,q⟩=>⟨cs',kF h C cs' r,q⟩
 | .dS _ _ _,_,⟨r,q⟩=>⟨kO h.fz _ _ r,q⟩
 | .dx C,_,⟨b,o,c,vs,e,e1,r,q⟩=>⟨b,o,c,vs,e,h.fz _ _ e1,iD h.fz C vs r,q⟩
theorem kF{E E':Env}(h:E.le E'):∀(v:ag) (v':List Value),dL E v v'->dL E' v v'
 | [],_,r=>r
 |x::xs,_,⟨y,ys,r,D,q⟩=>⟨y,ys,js h x y r,kF h xs ys D,q⟩
end
theorem eP{E:Env}:∀{xs:ag} {ys:List Value},dL E xs ys->ys.length=xs.length
 | [],_,r=>by simp only[dL]at r;subst r;rfl
 |_::_,_,r=>by obtain⟨y,ys,_,D,rfl⟩:=r;simp[eP D]
theorem gK{E:Env}:∀{xs:ag} {ys:List Value},dL E xs ys->∀(i:Nat) (v:V),xs[i]? =some v->∃v',ys[i]? =some v'/\dK E v v'
 | [],_,_,i,v,h=>by simp at h
 |x::xs,_,r,i,v,h=>by
  obtain⟨y,ys,r0,D,rfl⟩:=r;cases i with
  |zero=>simp at h;subst h;exact⟨y,by simp,r0⟩
  |succ i=>simp at h;obtain⟨v',N,B⟩:=gK D i v h;exact⟨v',by simpa using N,B⟩
theorem jG{E:Env}:∀{xs:ag} {ys:List Value},xs.length=ys.length->(∀(i:Nat) (v:V),xs[i]? =some v->∃v',ys[i]? =some v'/\dK E v v')->dL E xs ys
 | [],[],_,_=>rfl
 | [],_::_,h,_=>by simp at h
 |_::_,[],h,_=>by simp at h
 |x::xs,y::ys,h,r=>by
  obtain⟨v',N,B⟩:=r 0 x (by simp);simp at N;subst N;exact⟨y,ys,B,jG (by simpa using h) (fun i v hi=>r (i+1) v (by simpa using hi)),rfl⟩
theorem iK{E:Env}:∀{xs Cp:ag} {ys Kc:List Value},dL E xs ys->dL E Cp Kc->dL E (xs++Cp) (ys++Kc)
 | [],_,_,_,r,r'=>by simp only[dL]at r;subst r;simpa using r'
 |x::xs,_,_,_,r,r'=>by
  obtain⟨y,ys,r0,D,rfl⟩:=r;exact⟨y,_,r0,iK D r',rfl⟩
section
variable{E:Env}{n:Nat}
theorem Cq:∀{xs:ag} {ys:List Value},dL E xs ys->dL E (xs.take n) (ys.take n):=by
 intro xs ys r;refine jG (by simp[eP r]) fun i v h=>?_;rw[bP]at h ⊢;split at h
 . rename_i hi;rw[aH hi];exact gK r i v h
 . simp at h
theorem Cr:∀{xs:ag} {ys:List Value},dL E xs ys->dL E (xs.drop n) (ys.drop n):=by
 intro xs ys r;refine jG (by simp[eP r]) fun i v h=>?_;rw[bJ]at h ⊢;exact gK r _ v h
theorem iE:∀{v:V} {v':Value},dK E v v'->dL E v.cells v'.cells.toList:=by
 intro v v' r;have one:∀{x:V} {y:Value},dK E x y->y.cells=#[y]->x.cells=[x]->dL E x.cells y.cells.toList:=by
  intro x y r N B;rw[N,B];exact⟨y,[],r,rfl,rfl⟩
 cases v with
 |agg C=>obtain⟨cs',D,rfl⟩:=r;simpa[V.cells,Value.cells]using D
 |bool b=>simp only[dK]at r;subst r;exact one (by simp[dK]) rfl rfl
 |int k n=>simp only[dK]at r;subst r;exact one (by simp[dK]) rfl rfl
 |str s=>simp only[dK]at r;subst r;exact one (by simp[dK]) rfl rfl
 |ptr a=>refine one r ?_ rfl;cases a<;>simp only[dK]at r;. subst r;rfl
         . obtain⟨b,s,_,rfl⟩:=r;rfl
 |dj a l c e=>refine one r ?_ rfl;cases a<;>simp only[dK]at r;. obtain⟨_,_,rfl⟩:=r;rfl
              . obtain⟨b,s,_,_,_,_,_,_,_,rfl⟩:=r;rfl
 |map a=>refine one r ?_ rfl;cases a<;>simp only[dK]at r;. subst r;rfl
         . obtain⟨b,_,rfl⟩:=r;rfl
 |fn f a c=>refine one r ?_ rfl;obtain⟨_,_,_,_,_,_,rfl⟩:=r;rfl
 |kB=>simp only[dK]at r;subst r;exact one (by simp[dK]) rfl rfl
 |iface t x=>refine one r ?_ rfl;obtain⟨_,_,rfl⟩:=r;rfl
 |nilIface=>simp only[dK]at r;subst r;exact one (by simp[dK]) rfl rfl
 |ew vs=>refine one r ?_ rfl;obtain⟨_,_,rfl⟩:=r;rfl
 |dS f n C=>refine one r ?_ rfl;obtain⟨⟨_,_,_,rfl,_⟩,_⟩:=r;rfl
 |dx C=>refine one r ?_ rfl;obtain⟨_,_,_,_,rfl,_⟩:=r;rfl
theorem uZ:∀{v:V} {v':Value},dK E v v'->v.scalar=true->v'.oneCell'=true:=by
 intro v v' r h;cases v with
 |agg C=>simp[V.scalar]at h
 |ew C=>simp[V.scalar]at h
 |bool b=>simp only[dK]at r;subst r;rfl
 |int k n=>simp only[dK]at r;subst r;rfl
 |str s=>simp only[dK]at r;subst r;rfl
 |ptr a=>cases a<;>simp only[dK]at r;. subst r;rfl
         . obtain⟨b,s,_,rfl⟩:=r;rfl
 |dj a l c e=>cases a<;>simp only[dK]at r;. obtain⟨_,_,rfl⟩:=r;rfl
              . obtain⟨b,s,_,_,_,_,_,_,_,rfl⟩:=r;rfl
 |map a=>cases a<;>simp only[dK]at r;. subst r;rfl
         . obtain⟨b,_,rfl⟩:=r;rfl
 |fn f a c=>obtain⟨_,_,_,_,_,_,rfl⟩:=r;rfl
 |kB=>simp only[dK]at r;subst r;rfl
 |iface t x=>obtain⟨_,_,rfl⟩:=r;rfl
 |nilIface=>simp only[dK]at r;subst r;rfl
 |dS f n C=>obtain⟨⟨_,_,_,rfl,_⟩,_⟩:=r;rfl
 |dx C=>obtain⟨_,_,_,_,rfl,_⟩:=r;rfl
end
theorem H.yD{α:Type}:∀(f:Nat) (t:H α) (k:Nat) (x:Option α) (j:Nat),k+1<2^f->(H.rS f t k x).get j=if j=k then x else t.get j
 |0,t,k,x,j,h=>by simp at h
 |f+1,t,k,x,j,h=>by
  have hk:∀k',k=k'+1->k'/2+1<2^f:=by intro k' e;subst e;rw[Nat.pow_succ]at h;omega
  cases t with
  |nil=>
   cases k with
   |zero=>
    cases j with
    |zero=>simp[H.rS,H.get]
    |succ j=>simp only[H.rS,H.get];rw[aI K];split<;>rfl
   |succ k=>
    have ih:=fun j=>H.yD f (.nil:H α) (k/2) x j (hk k rfl);rcases cK k with e|e
    . cases j with
      |zero=>simp[H.rS,H.get,e]
      |succ j=>
       rcases cK j with e'|e'
       . simp only[H.rS,e,H.get,e',ih];by_cases hj:j=k
         . subst hj;simp
         . rw[aI K,aI K]
       . simp only[H.rS,e,H.get,e'];rw[aI K]
    . cases j with
      |zero=>simp[H.rS,H.get,e]
      |succ j=>
       rcases cK j with e'|e'
       . simp only[H.rS,e,H.get,e'];rw[aI K]
       . simp only[H.rS,e,H.get,e',ih];by_cases hj:j=k
         . subst hj;simp
         . rw[aI K,aI K]
  |node v l r=>
   cases k with
   |zero=>cases j<;>simp[H.rS,H.get]
   |succ k=>
    have ihl:=fun j=>H.yD f l (k/2) x j (hk k rfl);have ihr:=fun j=>H.yD f r (k/2) x j (hk k rfl);rcases cK k with e|e
    . cases j with
      |zero=>simp[H.rS,H.get,e]
      |succ j=>
       rcases cK j with e'|e'
       . simp only[H.rS,e,H.get,e',ihl];by_cases hj:j=k
         . subst hj;simp
         . rw[aI K,aI K]
       . simp only[H.rS,e,H.get,e'];rw[aI K]
    . cases j with
      |zero=>simp[H.rS,H.get,e]
      |succ j=>
       rcases cK j with e'|e'
       . simp only[H.rS,e,H.get,e'];rw[aI K]
       . simp only[H.rS,e,H.get,e',ihr];by_cases hj:j=k
         . subst hj;simp
         . rw[aI K,aI K]
section
variable{α:Type}(t:H α){k:Nat}(x:Option α)
theorem H.eY(j:Nat)(h:k<fP):(t.set k x).get j=if j=k then x else t.get j:=
 H.yD 33 t k x j (by unfold fP at h;omega)
theorem H.nr(h:k<fP):(t.set k x).get k=x:=by rw[H.eY t x k h,aH rfl]
theorem H.qD{j:Nat}(x:Option α)(h:k<fP)(hj:j≠k):(t.set k x).get j=t.get j:=by rw[H.eY t x j h,aI hj]
end
def kK(E:Env):List (V×V×Nat)->List MapEntry->Prop
 | [],l=>l=[]
 |x::xs,l=>∃y ys,dK E x.1 y.key/\dK E x.2.1 y.val/\y.born=x.2.2/\kK E xs ys/\l=y::ys
theorem Cs{E E':Env}(h:E.le E'):∀(xs:List (V×V×Nat)) (ys:List MapEntry),kK E xs ys->kK E' xs ys
 | [],_,r=>r
 |_::xs,_,⟨y,ys,a,b,c,r,q⟩=>⟨y,ys,js h _ _ a,js h _ _ b,c,Cs h xs ys r,q⟩
def jW(φ:Nat->Option (Array Value)):ae->List MapEntry->Prop
 | [],l=>l=[]
 |x::xs,l=>∃y ys,lH φ x.1 y.key/\lH φ x.2 y.val/\jW φ xs ys/\l=y::ys
theorem xH{φ Ms:Nat->Option (Array Value)}(h:∀b c,φ b=some c->Ms b=some c):∀(xs:ae) (ys:List MapEntry),jW φ xs ys->jW Ms xs ys
 | [],_,r=>r
 |_::xs,_,⟨y,ys,a,b,r,q⟩=>⟨y,ys,kO h _ _ a,kO h _ _ b,xH h xs ys r,q⟩
structure jX(φ:Nat->Option (Array Value))(kd:Option IntKind)(Q:ae)(gj:List MapEntry)(eD:Nat):Prop where
 row:∃l,List.Perm l Q/\jW φ l gj
 keys:(Q.map (·.1)).Nodup
 kind:∀e∈Q,gL kd e.1=true
 old:∀e∈gj,e.born<eD
 born:(gj.map (·.born)).Nodup
theorem jX.mono{φ Ms:Nat->Option (Array Value)}(h:∀b c,φ b=some c->Ms b=some c){kd:Option IntKind}{Q:ae}{gj:List MapEntry}{eD:Nat}(r:jX φ kd Q gj eD):jX Ms kd Q gj eD:=
 ⟨let⟨l,N,B⟩:=r.row;⟨l,N,xH h _ _ B⟩,r.keys,r.kind,r.old,r.born⟩
def nt(fz:Nat×Nat)(n:Nat):Prop:=∀i,i<n->¬(fz.1<=i/\i<fz.2)
def mz(E:Env)(s:Nat)(C:ag)(c:Array Value):Prop:=∀(i:Nat) (v:V),C[i]? =some v->∃v',c[s+i]? =some v'/\dK E v v'
def PY(E:Env)(S:H V)(tmps:Array Value):Prop:=∀t v,S.get t=some v->∃v',tmps[t]? =some v'/\dK E v v'
section
variable{E E':Env}{s:Nat}
theorem wc(h:E.le E'){S:H V}{a:Array Value}(r:PY E S a):PY E' S a:=fun t v e=>let⟨v',N,B⟩:=r t v e;⟨v',N,js h v v' B⟩
def l7(E:Env)(w:World)(b s:Nat):lf->Prop
 | .cells C=>∃c el fz,w.heap[b]? =some (.cells c el fz)/\c.size=E.β b/\nt fz c.size/\mz E s C c
 | .map Q eD=>s=0/\∃gj,w.heap[b]? =some (.map gj eD)/\kK E Q gj.toList
 | .nU st pos=>s=0/\w.heap[b]? =some (.stringIter ⟨st.toArray⟩ pos)
 | .ints k ks=>∃c el fz,w.heap[b]? =some (.cells c el fz)/\c.size=E.β b/\∀(i:Nat) (x:Int),ks[i]? =some x->c[s+i]? =some (.int k x)
 | .own k ks=>∃c el fz,w.heap[b]? =some (.cells c el fz)/\c.size=E.β b/\nt fz c.size/\mz E s (ks.map (.int k)) c
 | .deep C=>∃c el fz vs,w.heap[b]? =some (.cells c el fz)/\c.size=E.β b/\nt fz c.size/\iw E.φ C vs/\∀(j:Nat) (x:Value),vs[j]? =some x->c[s+j]? =some x
 | .jf el AW t=>∃c fz xs,w.heap[b]? =some (.cells c el fz)/\s=0/\c.size=E.β b/\((fz.1=fz.2\/fz.2<=t.length)/\(AW=false->fz.1=fz.2))/\eT xs=t/\∀(j:Nat) (x:Int),xs[j]? =some x->c[j]? =some (.int .u8 x)
 | .AX t self x=>s=0/\∃x' fz,w.heap[b]? =some (.cells #[.pointer (if self then some ⟨b,0,none⟩else none),x'] t fz)/\2=E.β b/\nt fz 2/\dK E x x'
 | .dI kd Q=>s=0/\∃gj eD,w.heap[b]? =some (.map gj eD)/\jX E.φ kd Q gj.toList eD
 | .mF=>w.heap[b]? =some (.deferred (some []))
 | .loop st pe S ps assign body=>∃r:Loop,w.heap[b]? =some (.loop r)/\r.state=(if st then .ready else .done)/\r.pending=pe/\r.params.toList=ps/\r.assign=assign/\r.body=body/\PY E S r.tmps/\fc r.tmps.size assign=true/\fc r.tmps.size body=true/\∀p∈ps,p<r.tmps.size
theorem qn(h:E.le E'){s:Nat}{C:ag}{c:Array Value}(r:mz E s C c):mz E' s C c:=
 fun i v e=>let⟨v',N,B⟩:=r i v e;⟨v',N,js h v v' B⟩
theorem gU{w w':World}{b s:Nat}{o:lf}(h:E.le E')(hb:E'.β b=E.β b)(hw:w'.heap[b]? =w.heap[b]?)(r:l7 E w b s o):l7 E' w' b s o:=by
 cases o with
 |cells C=>obtain⟨c,el,fz,N,B,h3,h4⟩:=r;exact⟨c,el,fz,hw.trans N,B.trans hb.symm,h3,qn h h4⟩
 |map Q eD=>obtain⟨hs,gj,N,B⟩:=r;exact⟨hs,gj,hw.trans N,Cs h _ _ B⟩
 |nU st pos=>exact⟨r.1,hw.trans r.2⟩
 |ints k ks=>obtain⟨c,el,fz,N,B,h3⟩:=r;exact⟨c,el,fz,hw.trans N,B.trans hb.symm,h3⟩
 |own k ks=>obtain⟨c,el,fz,N,B,h3,h4⟩:=r;exact⟨c,el,fz,hw.trans N,B.trans hb.symm,h3,qn h h4⟩
 |deep C=>obtain⟨c,el,fz,vs,N,B,h3,h4,h5⟩:=r;exact⟨c,el,fz,vs,hw.trans N,B.trans hb.symm,h3,iD h.fz _ _ h4,h5⟩
 |jf el AW t=>obtain⟨c,fz,xs,N,h0,B,h3⟩:=r;exact⟨c,fz,xs,hw.trans N,h0,B.trans hb.symm,h3⟩
 |AX t self x=>obtain⟨h0,x',fz,N,B,h3,h4⟩:=r;exact⟨h0,x',fz,hw.trans N,B.trans hb.symm,h3,js h _ _ h4⟩
 |dI kd Q=>obtain⟨hs,gj,eD,N,B⟩:=r;exact⟨hs,gj,eD,hw.trans N,B.mono h.fz⟩
 |mF=>exact hw.trans r
 |loop st pe S ps assign body=>obtain⟨r,N,B,h3,h4,h5,h6,h7,h8⟩:=r;exact⟨r,hw.trans N,B,h3,h4,h5,h6,wc h h7,h8⟩
theorem mS{k:IntKind}{ks:List Int}{c:Array Value}:mz E s (ks.map (.int k)) c↔∀(i:Nat) (x:Int),ks[i]? =some x->c[s+i]? =some (.int k x):=by
 constructor
 . intro r i x e;obtain⟨v',N,B⟩:=r i (.int k x) (by rw[bu,e];rfl);simp only[dK]at B;rw[N,B]
 . intro r i v e;rw[bu]at e;cases G:ks[i]? with
   |none=>rw[G]at e;cases e
   |some x=>
    rw[G]at e;simp only[bj,an]at e;subst e;exact⟨_,r i x G,rfl⟩
theorem xh{k:IntKind}{ks:List Int}{c:Array Value}(r:mz E s (ks.map (.int k)) c):mz E' s (ks.map (.int k)) c:=mS.2 (mS.1 r)
end
theorem qo{k:IntKind}:∀{l:ag} {ks:List Int},pI k l=some ks->l=ks.map (.int k)
 | [],ks,h=>by simp only[pI,an]at h;subst h;rfl
 |v::r,ks,h=>by
  unfold pI at h;split at h
  . rename_i q;cases q
  . rename_i k' x r' q;cases q;split at h
    . rename_i l N B;obtain rfl:=ek h;have:=aE N;subst this;rw[qo B];rfl
    . cases h
  . cases h
theorem oo{E:Env}{s:Nat}{C:ai}{c:Array Value}(hs:∀x∈C,x.scalar=true):mz E s (rs.l6 C) c↔∃vs,iw E.φ C vs/\∀(j:Nat) (x:Value),vs[j]? =some x->c[s+j]? =some x:=by
 constructor
 . intro r;have hg:∀i,i<C.length->∃x,c[s+i]? =some x:=by
    intro i hi;obtain⟨v',N,_⟩:=r i (C[i]).iZ (by rw[rs.gB,bu,ay hi];rfl);exact⟨v',N⟩
   refine⟨(List.range C.length).map fun i=>(c[s+i]?).getD undef,qd (by simp) fun i d hd=>?_,fun j x G=>?_⟩
   . have hi:=(aG.1 hd).1;obtain⟨v',N,B⟩:=r i d.iZ (by rw[rs.gB,bu,hd];rfl);refine⟨v',by simp[List.getElem?_range hi,N],hs d (bf hd),HU d v' B fun ds q=>?_⟩;have:=hs d (bf hd);rw[q]at this;cases this
   . rw[bu]at G;by_cases hj:j<C.length
     . rw[List.getElem?_range hj]at G;simp only[bj,an]at G;obtain⟨y,hy⟩:=hg j hj;rw[hy]at G ⊢;simpa using G
     . rw[bN (by simpa using Nat.le_of_not_lt hj)]at G;cases G
 . rintro⟨vs,r,hv⟩ i v hi;rw[rs.gB,bu]at hi;cases hd:C[i]? with
   |none=>rw[hd]at hi;cases hi
   |some d=>
    rw[hd]at hi;simp only[bj,an]at hi;subst hi;obtain⟨v',N,_,h3⟩:=v8 r i d hd;exact⟨v',hv i v' N,my d v' h3⟩
theorem tq:∀{l:ag} {ds:ai},iC l=some ds->∀{E:Env} {l':List Value},dL E l l'->iw E.φ ds l'
 | [],ds,h,E,l',r=>by simp only[iC,an]at h;subst h;exact r
 |x::xs,ds,h,E,l',r=>by
  simp only[iC]at h;split at h
  case h_2=>cases h
  rename_i d hd;split at h
  case h_2=>cases h
  rename_i l hl;obtain rfl:=ek h;obtain⟨y,ys,r0,D,rfl⟩:=r;refine⟨y,ys,?_,?_,tq hl D,rfl⟩
  . split at hd<;>first|(cases hd;rfl)|cases hd
  . split at hd<;>first|(cases hd;first|exact r0|exact r0.1|exact⟨none,0,[],r0.2.2,aA _,rfl,fun _=>rfl,fun q=>absurd q (cG _)⟩)|cases hd
theorem u6:∀{l:ag} {ds:ai},iC l=some ds->ds.length=l.length
 | [],ds,h=>by simp only[iC,an]at h;subst h;rfl
 |x::xs,ds,h=>by
  simp only[iC]at h;split at h
  case h_2=>cases h
  split at h
  case h_2=>cases h
  rename_i l hl;obtain rfl:=ek h;simp[u6 hl]
mutual
theorem F6{E:Env}:∀{x:V} {d:rs},V.PN x=some d->∀{v:Value},dK E x v->lH E.φ d v/\(x.scalar=true->d.scalar=true)
 | .bool _,d,h,v,r=>by simp only[V.PN,an]at h;subst h;exact⟨r,fun _=>rfl⟩
 | .int _ _,d,h,v,r=>by simp only[V.PN,an]at h;subst h;exact⟨r,fun _=>rfl⟩
 | .str _,d,h,v,r=>by simp only[V.PN,an]at h;subst h;exact⟨r,fun _=>rfl⟩
 | .dS _ _ _,d,h,v,r=>by simp only[V.PN,an]at h;subst h;exact⟨r.1,fun _=>rfl⟩
 | .agg C,d,h,v,r=>by
   simp only[V.PN]at h;split at h
   . rename_i l hl;obtain rfl:=ek h;obtain⟨vs,r,e⟩:=r;exact⟨⟨vs,HV hl r,e⟩,fun h=>by cases h⟩
   . cases h
 | .ptr _,d,h,_,_=>by cases h
 | .dj none _ _ _,d,h,v,r=>by
   simp only[V.PN,an]at h;subst h;exact⟨⟨none,0,[],r.2.2,aA _,rfl,fun _=>rfl,fun q=>absurd q (cG _)⟩,fun _=>rfl⟩
 | .dj (some _) 0 _ _,d,h,v,r=>by
   simp only[V.PN,an]at h;subst h;obtain⟨b,s,o',gp,_,_,_,_,_,e⟩:=r;exact⟨⟨_,gp,[],e,aX _,rfl,fun _=>rfl,fun q=>absurd q (cG _)⟩,fun _=>rfl⟩
 | .dj (some _) (_+1) _ _,d,h,_,_=>by cases h
 | .map _,d,h,_,_=>by cases h
 | .fn _ _ _,d,h,_,_=>by cases h
 | .kB,d,h,_,_=>by cases h
 | .iface _ _,d,h,_,_=>by cases h
 | .nilIface,d,h,_,_=>by cases h
 | .ew _,d,h,_,_=>by cases h
 | .dx _,d,h,_,_=>by cases h
theorem HV{E:Env}:∀{xs:ag} {ds:ai},V.PO xs=some ds->∀{vs:List Value},dL E xs vs->iw E.φ ds vs
 | [],ds,h,v,r=>by simp only[V.PO,an]at h;subst h;exact r
 |x::xs,ds,h,v,r=>by
  simp only[V.PO]at h;split at h
  case h_2=>cases h
  rename_i d hd;split at h
  case h_2=>cases h
  rename_i l hl;split at h
  case h_2=>cases h
  rename_i Kg;obtain rfl:=ek h;obtain⟨y,ys,r0,D,rfl⟩:=r;exact⟨y,ys,Kg,(F6 hd r0).1,HV hl D,rfl⟩
end
theorem A2{E:Env}:∀{xs ys:ag} {l:List Value},dL E (xs++ys) l->∃l1 l2,dL E xs l1/\dL E ys l2/\l=l1++l2
 | [],_,l,r=>⟨[],l,rfl,r,rfl⟩
 |x::xs,_,l,⟨y,zs,r0,D,e⟩=>by
  obtain⟨l1,l2,N,B,h3⟩:=A2 D;exact⟨y::l1,l2,⟨y,l1,r0,N,rfl⟩,B,by rw[e,h3];rfl⟩
def wk(xs ys:ag):Prop:=∀(E:Env) (l:List Value),dL E xs l->dL E ys l
theorem jb(xs:ag):wk xs xs:=fun _ _ r=>r
theorem Ab{a b a' b':ag}(h:wk a a')(k:wk b b'):wk (a++b) (a'++b'):=fun E l r=>by
 obtain⟨l1,l2,N,B,rfl⟩:=A2 r;exact iK (h E l1 N) (k E l2 B)
theorem yE{l:ag}{ds:ai}(h:iC l=some ds):wk l (rs.l6 ds):=fun _ _ r=>v7 _ _ (tq h r)
theorem sk{E:Env}{s:Nat}{C:ag}{c:Array Value}:mz E s C c↔∃vs,dL E C vs/\∀(j:Nat) (x:Value),vs[j]? =some x->c[s+j]? =some x:=by
 constructor
 . intro r;have hg:∀i,i<C.length->∃x,c[s+i]? =some x:=fun i hi=>by
    obtain⟨v',N,_⟩:=r i C[i] (ay hi);exact⟨v',N⟩
   refine⟨(List.range C.length).map fun i=>(c[s+i]?).getD undef,jG (by simp) fun i d hd=>?_,fun j x G=>?_⟩
   . have hi:=(aG.1 hd).1;obtain⟨v',N,B⟩:=r i d hd;exact⟨v',by simp[List.getElem?_range hi,N],B⟩
   . rw[bu]at G;by_cases hj:j<C.length
     . rw[List.getElem?_range hj]at G;simp only[bj,an]at G;obtain⟨y,hy⟩:=hg j hj;rw[hy]at G ⊢;simpa using G
     . rw[bN (by simpa using Nat.le_of_not_lt hj)]at G;cases G
 . rintro⟨vs,r,hv⟩ i v hi;obtain⟨v',N,B⟩:=gK r i v hi;exact⟨v',hv i v' N,B⟩
theorem yF{E:Env}{s:Nat}{xs ys:ag}{c:Array Value}(h:wk xs ys)(r:mz E s xs c):mz E s ys c:=by
 obtain⟨vs,N,B⟩:=sk.1 r;exact sk.2 ⟨vs,h E vs N,B⟩
def Row.sc:Row->Prop
 | .ds C=>∀x∈C,x.scalar=true
 |_=>True
theorem oq:∀{l:ag} {ds:ai},iC l=some ds->∀x∈ds,x.scalar=true
 | [],ds,h,x,G=>by simp only[iC,an]at h;subst h;simp at G
 |y::l,ds,h,x,G=>by
  simp only[iC]at h;split at h
  case h_2=>cases h
  rename_i d hd;split at h
  case h_2=>cases h
  rename_i l' hl;obtain rfl:=ek h;rcases aF.1 G with rfl|G
  . split at hd<;>first|(cases hd;rfl)|cases hd
  . exact oq hl x G
theorem Row.Kh(a b:Row):wk (a.iZ++b.iZ) (a.app b).iZ:=by
 have e:∀{k:IntKind} {l:ag} {ks:List Int},pI k l=some ks->l=ks.map (.int k):=fun h=>qo h;have W:∀(k:IntKind) (ks:List Int),rs.l6 (ks.map (.int k))=ks.map (.int k):=fun k ks=>by rw[rs.gB,List.map_map];rfl
 have ha:∀(x y:ai),rs.l6 (x++y)=rs.l6 x++rs.l6 y:=fun x y=>by rw[rs.gB,rs.gB,rs.gB,aY]
 cases a<;>cases b<;>simp only[Row.app]
 . exact jb _
 . rename_i C k ks;split
   . rename_i l h;simp only[Row.iZ,e h,aY];exact jb _
   . exact jb _
 . rename_i C ds;split
   . rename_i l h;simp only[Row.iZ,ha];exact Ab (yE h) (jb _)
   . exact jb _
 . rename_i k ks C;split
   . rename_i l h;simp only[Row.iZ,e h,aY];exact jb _
   . exact jb _
 . rename_i k ks k' Yc;split
   . rename_i h;have:=aE h;subst this;simp only[Row.iZ,aY];exact jb _
   . exact jb _
 . simp only[Row.iZ,ha,W];exact jb _
 . rename_i C ds;split
   . rename_i l h;simp only[Row.iZ,ha];exact Ab (jb _) (yE h)
   . exact jb _
 . simp only[Row.iZ,ha,W];exact jb _
 . simp only[Row.iZ,ha];exact jb _
theorem Row.Ki{a b:Row}(h:a.sc)(k:b.sc):(a.app b).sc:=by
 have hi:∀(k:IntKind) (ks:List Int),∀x∈ks.map (rs.int k),x.scalar=true:=fun k ks x G=>by
  obtain⟨n,_,rfl⟩:=bA.1 G;rfl
 have ap:∀{x y:ai},(∀z∈x,z.scalar=true)->(∀z∈y,z.scalar=true)->∀z∈x++y,z.scalar=true:=fun h k z hz=>(aW.1 hz).elim (h z) (k z);cases a<;>cases b<;>simp only[Row.app]<;>first|trivial|skip
 . split<;>trivial
 . split
   . rename_i l hl;exact ap (oq hl) k
   . trivial
 . split<;>trivial
 . split<;>trivial
 . exact ap (hi _ _) k
 . split
   . rename_i l hl;exact ap h (oq hl)
   . trivial
 . exact ap h (hi _ _)
 . exact ap h k
theorem Row.PZ{o size:Nat}{r r':Row}(h:r.cut o size=some r')(k:r.sc):r'.sc:=by
 cases r with
 |vs C=>simp only[Row.cut]at h;split at h<;>first|(cases h;trivial)|cases h
 |is k ks=>simp only[Row.cut]at h;split at h<;>first|(cases h;trivial)|cases h
 |ds C=>
  simp only[Row.cut]at h;split at h
  . cases h;exact fun x G=>k x (List.mem_of_mem_drop (List.mem_of_mem_take G))
  . cases h
theorem Row.F7{o size:Nat}{r r':Row}(h:r.cut o size=some r'):Eng.cut r.iZ o size=some r'.iZ:=by
 cases r with
 |vs C=>
  simp only[Row.cut]at h;split at h
  . rename_i q;obtain rfl:=ek h;exact q
  . cases h
 |is k ks=>
  simp only[Row.cut]at h;split at h
  . rename_i q;obtain rfl:=ek h;simp only[Eng.cut,Row.iZ,aT,aH q,cN,List.map_drop]
  . cases h
 |ds C=>
  simp only[Row.cut]at h;split at h
  . rename_i q;obtain rfl:=ek h;simp only[Eng.cut,Row.iZ,rs.gB,aT,aH q,cN,List.map_drop]
  . cases h
section
variable{h:H lf}{E:Env}{w:World}{n m b s:Nat}{x:Option lf}
theorem Row.P0{r:Row}(h:r.flat=true)(k:r.sc):r.iZ.all V.scalar=true:=by
 cases r with
 |vs C=>exact h
 |is k ks=>simp[Row.iZ,V.scalar]
 |ds C=>exact AZ k
theorem HW{o:lf}{r:Row}(h:o.row=some r)(q:l7 E w b s o):(∃c el fz,w.heap[b]? =some (.cells c el fz)/\c.size=E.β b/\nt fz c.size/\mz E s r.iZ c)/\r.sc:=by
 cases o<;>simp only[lf.row,an,reduceCtorEq]at h<;>subst h
 . exact⟨q,trivial⟩
 . exact⟨q,trivial⟩
 . obtain⟨c,el,fz,vs,N,B,h3,h4,h5⟩:=q;exact⟨⟨c,el,fz,N,B,h3,(oo (jn h4)).2 ⟨vs,h4,h5⟩⟩,jn h4⟩
theorem NQ{o:lf}{r:Row}(h:o.NN=some r)(q:l7 E w b s o):(∃c el fz,w.heap[b]? =some (.cells c el fz)/\c.size=E.β b/\mz E s r.iZ c)/\r.sc:=by
 cases o<;>simp only[lf.NN,an,reduceCtorEq]at h<;>subst h
 . obtain⟨c,el,fz,N,B,_,h4⟩:=q;exact⟨⟨c,el,fz,N,B,h4⟩,trivial⟩
 . obtain⟨c,el,fz,N,B,h3⟩:=q;exact⟨⟨c,el,fz,N,B,mS.2 h3⟩,trivial⟩
 . obtain⟨c,el,fz,N,B,_,h4⟩:=q;exact⟨⟨c,el,fz,N,B,h4⟩,trivial⟩
 . obtain⟨c,el,fz,vs,N,B,h3,h4,h5⟩:=q;exact⟨⟨c,el,fz,N,B,(oo (jn h4)).2 ⟨vs,h4,h5⟩⟩,jn h4⟩
theorem yG{r:Row}(q:∃c el fz,w.heap[b]? =some (.cells c el fz)/\c.size=E.β b/\nt fz c.size/\mz E s r.iZ c)(k:r.sc):l7 E w b s r.EM:=by
 cases r with
 |ds C=>
  obtain⟨c,el,fz,N,B,h3,h4⟩:=q;obtain⟨vs,h5,h6⟩:=(oo k).1 h4;exact⟨c,el,fz,vs,N,B,h3,h5,h6⟩
 |_=>exact q
theorem P4{o:lf}{r:Row}(h:o.row=some r):o.wr=true:=by cases o<;>simp[lf.row]at h<;>rfl
def eE(h:H lf)(m:Nat):Prop:=∃o,h.get m=some o/\o.wr=true
theorem P5{h':H lf}{m n:Nat}(e:h.get m=h'.get n)(k:eE h m):eE h' n:=by obtain⟨o,a,b⟩:=k;exact⟨o,e.symm.trans a,b⟩
theorem sq(hn:n<fP):eE (h.set n x) m->(m=n/\∃o,x=some o/\o.wr=true)\/(m≠n/\eE h m):=by
 rintro⟨o,e,k⟩;rw[H.eY _ _ _ hn]at e;split at e
 . rename_i q;exact .inl ⟨q,o,e,k⟩
 . rename_i q;exact .inr ⟨q,o,e,k⟩
theorem oS(hn:n<fP)(k:eE (h.set n x) m)(q:m≠n):eE h m:=
 (sq hn k).elim (fun c=>absurd c.1 q) (·.2)
theorem eE.live(k:eE h m):h.get m≠none:=by obtain⟨o,e,_⟩:=k;rw[e];simp
end
structure Good(E:Env)(h:H lf)(w:World):Prop where
 rel:∀m o,h.get m=some o->∃b s,E.ι m=some (b,s)/\l7 E w b s o
 inj:∀m m' b s s',m≠m'->eE h m->h.get m'≠none->E.ι m=some (b,s)->E.ι m'=some (b,s')->False
 mK:∀m b s,E.ι m=some (b,s)->b<w.heap.size
 jh:GE E
 gQ:∀b c,E.φ b=some c->(∃el fz,w.heap[b]? =some (.cells c el fz))/\∀m s,eE h m->E.ι m≠some (b,s)
structure iG(E:Env)(h:H lf)(w:World)(E':Env)(h':H lf)(w':World):Prop where
 le:E.le E'
 good:Good E' h' w'
 size:w.heap.size<=w'.heap.size
 tape:w'.tape=w.tape
 os:w'.os=w.os
 output:w'.output=w.output
 keep:∀b,b<w.heap.size->(∀m s,eE h m->E.ι m≠some (b,s))->w'.heap[b]? =w.heap[b]?
 s9:∀m b s,h'.get m≠none->E'.ι m=some (b,s)->b<w.heap.size->∃m0 s0,h.get m0≠none/\E.ι m0=some (b,s0)/\(eE h' m->eE h m0)
 Ea:∀b c,E'.φ b=some c->E.φ b=some c\/w.heap.size<=b\/∃m s,eE h m/\E.ι m=some (b,s)
theorem iG.refl{E:Env}{h:H lf}{w:World}(g:Good E h w):iG E h w E h w:=
 ⟨E.le_refl,g,aA _,rfl,rfl,rfl,fun _ _ _=>rfl,fun m _ s W e _=>⟨m,s,W,e,id⟩,fun _ _ q=>.inl q⟩
theorem iG.trans{E E1 E2:Env}{h N B:H lf}{w w1 w2:World}(a:iG E h w E1 N w1)(b:iG E1 N w1 E2 B w2):iG E h w E2 B w2 where
 le:=Env.le_trans a.le b.le
 good:=b.good
 size:=bX a.size b.size
 tape:=b.tape.trans a.tape
 os:=b.os.trans a.os
 output:=b.output.trans a.output
 keep:=fun x G hn=>by
  rw[b.keep x (bF G a.size) ?_,a.keep x G hn];intro m s W e;obtain⟨m0,s0,h0,e0,k0⟩:=a.s9 m x s W.live e G;exact hn m0 s0 (k0 W) e0
 s9:=fun m x s W e G=>by
  obtain⟨m1,s1,mA,e1,k1⟩:=b.s9 m x s W e (bF G a.size);obtain⟨m2,s2,B,e2,k2⟩:=a.s9 m1 x s1 mA e1 G;exact⟨m2,s2,B,e2,fun q=>k2 (k1 q)⟩
 Ea:=fun x c I=>by
  rcases b.Ea x c I with q|q|⟨m,s,q1,q2⟩
  . exact a.Ea x c q
  . exact .inr (.inl (bX a.size q))
  . rcases bK x w.heap.size with G|G
    . obtain⟨m0,s0,_,e0,k0⟩:=a.s9 m x s q1.live q2 G;exact .inr (.inr ⟨m0,s0,k0 q1,e0⟩)
    . exact .inr (.inl G)
theorem Good.same{E:Env}{h:H lf}{w w':World}(g:Good E h w)(e:w'.heap=w.heap):Good E h w' where
 rel:=fun m o W=>let⟨b,s,N,B⟩:=g.rel m o W;⟨b,s,N,gU E.le_refl rfl (by rw[e]) B⟩
 inj:=g.inj
 mK:=fun m b s h=>by rw[e];exact g.mK m b s h
 jh:=g.jh
 gQ:=fun b c q=>⟨by rw[e];exact(g.gQ b c q).1,(g.gQ b c q).2⟩
theorem iG.drew{E:Env}{h:H lf}{w:World}(g:Good E h w):iG E h w E h w.drew:=
 ⟨E.le_refl,g.same rfl,aA _,rfl,rfl,rfl,fun _ _ _=>rfl,fun m _ s W e _=>⟨m,s,W,e,id⟩,fun _ _ q=>.inl q⟩
def Env.put(E:Env)(n b s z:Nat):Env:={ ι:=fun m=>if m=n then some (b,s)else E.ι m,β:=fun x=>if x=b then z else E.β x,φ:=E.φ }
section
variable{E:Env}{w:World}{n:Nat}{o:Obj}{b s z:Nat}
theorem Env.ff:(E.put n b s z).ι n=some (b,s):=by simp[Env.put]
theorem Env.fF{m:Nat}(h:m≠n):(E.put n b s z).ι m=E.ι m:=by simp[Env.put,h]
theorem Env.rT(hn:E.ι n=none)(hb:∀m x t,E.ι m=some (x,t)->x=b->E.β b=z):E.le (E.put n b s z):=by
 refine⟨?_,fun _ _ h=>h⟩;intro m x t e;have:m≠n:=by intro h;rw[h,hn]at e;simp at e
 refine⟨by rw[Env.fF this];exact e,?_⟩;show(if x=b then z else E.β x)=E.β x;split
 . rename_i h;rw[<- hb m x t e h,h]
 . rfl
theorem jN(h:b<w.heap.size):(w.alloc o).heap[b]? =w.heap[b]?:=by
 simp only[World.alloc,Array.getElem?_push];rw[aI K]
theorem heap_alloc_new:(w.alloc o).heap[w.heap.size]? =some o:=by
 simp only[World.alloc,Array.getElem?_push,if_true]
end
def jY:Obj->Nat
 | .cells c _ _=>c.size
 |_=>0
theorem iG.alloc{E:Env}{h:H lf}{w:World}{n:Nat}{o:lf}{ob:Obj}(g:Good E h w)(hn:E.ι n=none)(ht:n<fP)
  (ho:l7 (E.put n w.heap.size 0 (jY ob)) (w.alloc ob) w.heap.size 0 o):
  iG E h w (E.put n w.heap.size 0 (jY ob)) (h.set n (some o)) (w.alloc ob):=by
 have u7:∀m b s,E.ι m=some (b,s)->b≠w.heap.size:=fun m b s e hb=>by have:=g.mK m b s e;omega
 have ku:E.le (E.put n w.heap.size 0 (jY ob)):=Env.rT hn fun m x t e G=>absurd G (u7 m x t e);have BP:∀b c,E.φ b=some c->b<w.heap.size:=fun b c q=>by
  obtain⟨⟨el,fz,e⟩,_⟩:=g.gQ b c q;exact(aQ.1 e).1
 refine⟨ku,⟨?_,?_,?_,g.jh.mono ku,fun b c q=>⟨by rw[jN (BP b c q)];exact(g.gQ b c q).1,fun m s W e=>?_⟩⟩,by simp,rfl,rfl,rfl,fun b hb _=>jN hb,?_,fun _ _ q=>.inl q⟩
 case refine_4=>
  by_cases a:m=n
  . subst a;rw[Env.ff]at e;cases e;exact absurd (BP _ c q) (cG _)
  . rw[Env.fF a]at e;exact(g.gQ b c q).2 m s (oS ht W a) e
 . intro m o' W;rw[H.eY _ _ _ ht]at W;by_cases e:m=n
   . subst e;rw[aH rfl]at W;cases W;exact⟨_,_,Env.ff,ho⟩
   . rw[aI e]at W;obtain⟨b,s,N,B⟩:=g.rel m o' W;exact⟨b,s,by rw[Env.fF e];exact N,gU ku (ku.nm m b s N).2 (jN (g.mK m b s N)) B⟩
 . intro m m' b s s' fU W tr e e';rw[H.eY _ _ _ ht]at tr;by_cases a:m=n
   . subst a;rw[Env.ff]at e;have:m'≠m:=fun x=>fU x.symm;rw[Env.fF this]at e';cases e;exact u7 _ _ _ e' rfl
   . rw[Env.fF a]at e;replace W:eE h m:=oS ht W a;by_cases a':m'=n
     . subst a';rw[Env.ff]at e';cases e';exact u7 _ _ _ e rfl
     . rw[Env.fF a']at e';rw[aI a']at tr;exact g.inj m m' b s s' fU W tr e e'
 . intro m b s e;by_cases a:m=n
   . subst a;rw[Env.ff]at e;cases e;simp
   . rw[Env.fF a]at e;have:=g.mK m b s e;simp;omega
 . intro m b s W e hb;by_cases a:m=n
   . subst a;rw[Env.ff]at e;cases e;omega
   . rw[Env.fF a]at e;rw[H.eY _ _ _ ht,aI a]at W;exact⟨m,s,W,e,fun q=>oS ht q a⟩
section
variable{E:Env}{h h':H lf}{w w':World}{m b s:Nat}{o:lf}
theorem iG.write(g:Good E h w)(ht:m<fP)(iH:eE h m)(W:E.ι m=some (b,s))
  (EN:w'.heap.size=w.heap.size) (HX:w'.tape=w.tape) (hos:w'.os=w.os) (pJ:w'.output=w.output)
  (qE:∀x,x≠b->w'.heap[x]? =w.heap[x]?) (ho:l7 E w' b s o):iG E h w E (h.set m (some o)) w':=by
 refine⟨E.le_refl,⟨?_,?_,?_,g.jh,fun b' c q=>⟨?_,fun k t hk e=>?_⟩⟩,K,HX,hos,pJ,?_,?_,fun _ _ q=>.inl q⟩
 case refine_4=>rw[qE b' fun e=>(g.gQ b' c q).2 m s iH (e▸W)];exact(g.gQ b' c q).1
 case refine_5=>
  rcases sq ht hk with⟨a,_⟩|a
  . exact(g.gQ b' c q).2 m t iH (a▸e)
  . exact(g.gQ b' c q).2 k t a.2 e
 . intro k o' hk;rw[H.eY _ _ _ ht]at hk;by_cases e:k=m
   . subst e;rw[aH rfl]at hk;cases hk;exact⟨b,s,W,ho⟩
   . rw[aI e]at hk;obtain⟨b',s',N,B⟩:=g.rel k o' hk;have fU:b'≠b:=by
      intro hb;subst hb;exact g.inj m k b' s s' (fun q=>e q.symm) iH (by rw[hk];simp) W N
     exact⟨b',s',N,gU E.le_refl rfl (qE b' fU) B⟩
 . intro k k' x t t' fU hk uH e e';refine g.inj k k' x t t' fU ?_ ?_ e e'
   . rcases sq ht hk with⟨q,_⟩|q
     . rw[q];exact iH
     . exact q.2
   . rw[H.eY _ _ _ ht]at uH;split at uH
     . rename_i q;rw[q];exact iH.live
     . exact uH
 . intro k x t e;rw[EN];exact g.mK k x t e
 . intro x _ hn;refine qE x ?_;intro G;subst G;exact hn m s iH W
 . intro k x t hk e _;by_cases q:k=m
   . subst q;exact⟨k,t,iH.live,e,fun _=>iH⟩
   . rw[H.eY _ _ _ ht,aI q]at hk;exact⟨k,t,hk,e,fun c=>oS ht c q⟩
theorem iG.move{n b s s':Nat}{o:lf}(g:Good E h w)(ht:m<fP)(hn:n<fP)(tu:E.ι n=none)(iH:eE h m)(W:E.ι m=some (b,s))
  (EN:w'.heap.size=w.heap.size) (HX:w'.tape=w.tape) (hos:w'.os=w.os) (pJ:w'.output=w.output)
  (qE:∀x,x≠b->w'.heap[x]? =w.heap[x]?) (ho:l7 (E.put n b s' (E.β b)) w' b s' o):
  iG E h w (E.put n b s' (E.β b)) ((h.set m none).set n (some o)) w':=by
 have P6:m≠n:=by intro e;rw[e,tu]at W;simp at W
 have ku:E.le (E.put n b s' (E.β b)):=Env.rT tu fun _ _ _ _ _=>rfl;have kL:∀k,((h.set m none).set n (some o)).get k=if k=n then some o else if k=m then none else h.get k:=by
  intro k;rw[H.eY _ _ _ hn];split
  . rfl
  . rw[H.eY _ _ _ ht]
 have uz:∀k,eE ((h.set m none).set n (some o)) k->k=n\/(k≠n/\k≠m/\eE h k):=by
  intro k q;rcases sq hn q with q|q
  . exact .inl q.1
  . rcases sq ht q.2 with c|c
    . obtain⟨_,_,c,_⟩:=c;cases c
    . exact .inr ⟨q.1,c.1,c.2⟩
 refine⟨ku,⟨?_,?_,?_,g.jh.mono ku,fun b2 c q=>⟨?_,fun k t hk e=>?_⟩⟩,K,HX,hos,pJ,?_,?_,fun _ _ q=>.inl q⟩
 case refine_4=>rw[qE b2 fun e=>(g.gQ b2 c q).2 m s iH (e▸W)];exact(g.gQ b2 c q).1
 case refine_5=>
  rcases uz k hk with a|⟨a,_,a2⟩
  . subst a;rw[Env.ff]at e;cases e;exact(g.gQ _ c q).2 m s iH W
  . rw[Env.fF a]at e;exact(g.gQ b2 c q).2 k t a2 e
 . intro k o' hk;rw[kL]at hk;by_cases e:k=n
   . subst e;rw[aH rfl]at hk;cases hk;exact⟨_,_,Env.ff,ho⟩
   . rw[aI e]at hk;by_cases e2:k=m
     . rw[aH e2]at hk;cases hk
     . rw[aI e2]at hk;obtain⟨b',t,N,B⟩:=g.rel k o' hk;have fU:b'≠b:=by
        intro hb;subst hb;exact g.inj m k b' s t (fun q=>e2 q.symm) iH (by rw[hk];simp) W N
       exact⟨b',t,by rw[Env.fF e];exact N,gU ku (ku.nm k b' t N).2 (qE b' fU) B⟩
 . intro k k' x t t' fU hk uH e e';rw[kL]at uH;rcases uz k hk with a|⟨a,c,Px⟩
   . subst a;rw[Env.ff]at e;cases e;have a':k'≠k:=fun q=>fU q.symm;rw[Env.fF a']at e';rw[aI a']at uH;by_cases c:k'=m
     . rw[aH c]at uH;exact uH rfl
     . rw[aI c]at uH;exact g.inj m k' b s t' (fun q=>c q.symm) iH uH W e'
   . rw[Env.fF a]at e;by_cases a':k'=n
     . subst a';rw[Env.ff]at e';cases e';exact g.inj m k b s t (fun q=>c q.symm) iH Px.live W e
     . rw[Env.fF a']at e';rw[aI a']at uH;by_cases c':k'=m
       . rw[aH c']at uH;exact uH rfl
       . rw[aI c']at uH;exact g.inj k k' x t t' fU Px uH e e'
 . intro k x t e;by_cases a:k=n
   . subst a;rw[Env.ff]at e;cases e;rw[EN];exact g.mK m b s W
   . rw[Env.fF a]at e;rw[EN];exact g.mK k x t e
 . intro x _ G;refine qE x ?_;intro q;subst q;exact G m s iH W
 . intro k x t hk e _;rw[kL]at hk;by_cases a:k=n
   . subst a;rw[Env.ff]at e;cases e;exact⟨m,s,iH.live,W,fun _=>iH⟩
   . rw[Env.fF a]at e;rw[aI a]at hk;by_cases c:k=m
     . rw[aH c]at hk;exact absurd rfl hk
     . rw[aI c]at hk;exact⟨k,t,hk,e,fun q=>(uz k q).elim (fun c=>absurd c a) (·.2.2)⟩
theorem nu(hs:∀m o,h'.get m=some o->h.get m=some o){m:Nat}(k:h'.get m≠none):h.get m≠none:=by
 cases q:h'.get m with
 |none=>exact absurd q k
 |some o=>rw[hs m o q];simp
theorem gz(hs:∀m o,h'.get m=some o->h.get m=some o){m:Nat}(k:eE h' m):eE h m:=by
 obtain⟨o,a,b⟩:=k;exact⟨o,hs m o a,b⟩
theorem Good.sub(g:Good E h w)(hs:∀m o,h'.get m=some o->h.get m=some o):Good E h' w where
 rel:=fun m o W=>g.rel m o (hs m o W)
 inj:=fun m m' b s s' fU W tr e e'=>g.inj m m' b s s' fU (gz hs W) (nu hs tr) e e'
 mK:=g.mK
 jh:=g.jh
 gQ:=fun b c q=>⟨(g.gQ b c q).1,fun m s W=>(g.gQ b c q).2 m s (gz hs W)⟩
theorem iG.forget(g:Good E h w)(ht:m<fP):iG E h w E (h.set m none) w:=by
 have hs:∀k o,(h.set m none).get k=some o->h.get k=some o:=by
  intro k o hk;rw[H.eY _ _ _ ht]at hk;split at hk
  . cases hk
  . exact hk
 exact⟨E.le_refl,g.sub hs,aA _,rfl,rfl,rfl,fun _ _ _=>rfl,fun k b s hk e _=>⟨k,s,nu hs hk,e,gz hs⟩,fun _ _ q=>.inl q⟩
theorem Addr.ji(b o n:Nat):(⟨b,o,none⟩:Addr).add n=⟨b,o+n,none⟩:=by
 unfold Addr.add;split
 . rename_i h;subst h;rfl
 . rfl
theorem nv{i:Nat}{c:Array Value}{el:TypeId}{fz:Nat×Nat}(h:w.heap[b]? =some (.cells c el fz)):w.cell? ⟨b,i,none⟩=c[i]?:=by
 simp[World.cell?,h]
end
theorem run_loadCellsFrom{P:Program}{w:World}{b o:Nat}{c:Array Value}{el:TypeId}{fz:Nat×Nat}(h:w.heap[b]? =some (.cells c el fz)):
  ∀(n i:Nat) (gy:Array Value),o+i+n<=c.size->(loadCellsFrom ⟨b,o,none⟩ i n gy).run P w= .ok (gy++((c.toList.drop (o+i)).take n).toArray) w
 |0,i,gy,_=>by simp[loadCellsFrom]
 |n+1,i,gy,hn=>by
  have fI:o+i<c.size:=by omega
  simp only[loadCellsFrom,Sem.run_bind,run_load,Addr.ji,nv h];rw[br fI];simp only[Result.andThen_ok];rw[run_loadCellsFrom h n (i+1) _ K];congr 1;have hd:c.toList.drop (o+i)=c[o+i]::c.toList.drop (o+(i+1)):=by
   rw[bH (by simpa using fI)];simp[cD]
  rw[hd];simp
theorem run_loadCells{P:Program}{w:World}{b o n:Nat}{c:Array Value}{el:TypeId}{fz:Nat×Nat}(h:w.heap[b]? =some (.cells c el fz))(hn:o+n<=c.size):
  (loadCells ⟨b,o,none⟩ n).run P w= .ok ((c.toList.drop o).take n).toArray w:=by
 unfold loadCells;rw[run_loadCellsFrom h n 0 #[] K];simp
def putCells(c:Array Value)(o:Nat)(vs:List Value):Array Value:=(c.toList.take o++(vs++c.toList.drop (o+vs.length))).toArray
theorem jO{c:Array Value}{o:Nat}{vs:List Value}(h:o+vs.length<=c.size):(putCells c o vs).size=c.size:=by
 simp[putCells];omega
theorem nw{c:Array Value}{o:Nat}{vs:List Value}(h:o+vs.length<=c.size)(j:Nat):
  (putCells c o vs)[j]? =if o<=j/\j<o+vs.length then vs[j-o]? else c[j]?:=by
 simp only[putCells,List.getElem?_toArray];rw[bT];have hl:(List.take o c.toList).length=o:=by simp;omega
 rw[hl];by_cases N:j<o
 . rw[aH N,aI K,bP,aH N];simp
 . rw[aI N,bT];by_cases B:j<o+vs.length
   . rw[aH K,aH K]
   . rw[aI K,aI K,bJ];simp;congr 1;omega
theorem rU{c:Array Value}{o:Nat}{v:Value}{vs:List Value}(h:o+(vs.length+1)<=c.size):
  putCells (c.setIfInBounds o v) (o+1) vs=putCells c o (v::vs):=by
 have e1:o+1+vs.length<=(c.setIfInBounds o v).size:=by simp;omega
 have e2:o+(v::vs).length<=c.size:=by simpa using h
 apply Array.ext
 . rw[jO e1,jO e2];simp
 . intro j N B;have:(putCells (c.setIfInBounds o v) (o+1) vs)[j]? =(putCells c o (v::vs))[j]?:=by
    rw[nw e1,nw e2];by_cases a:j=o
    . subst a;rw[aI K,aH (by simp)];have hj:j<c.size:=by omega
      simp[hj]
    . by_cases b:o+1<=j/\j<o+1+vs.length
      . rw[aH b,aH (by simp;omega)];have:j-o=(j-(o+1))+1:=by omega
        rw[this];simp
      . rw[aI b,aI (by simp;omega)];rw[Array.getElem?_setIfInBounds];rw[aI (fun q=>a q.symm)]
   rw[br N,br B]at this;exact cF this
theorem ny{P:Program}{b o:Nat}{el:TypeId}{fz:Nat×Nat}:∀(vs:List Value) (i:Nat) (w:World) (c:Array Value),w.heap[b]? =some (.cells c el fz)->
  nt fz c.size->(∀v∈vs,v.oneCell'=true)->o+i+vs.length<=c.size->
  ∃w',(storeCells ⟨b,o,none⟩ vs i).run P w= .ok () w'/\w'.heap[b]? =some (.cells (putCells c (o+i) vs) el fz)/\w'.heap.size=w.heap.size/\w'.tape=w.tape/\w'.os=w.os/\w'.output=w.output/\
   ∀x,x≠b->w'.heap[x]? =w.heap[x]?
 | [],i,w,c,h,_,_,hn=>by
   refine⟨w,rfl,?_,rfl,rfl,rfl,rfl,fun _ _=>rfl⟩;rw[h];have:putCells c (o+i) []=c:=by simp[putCells]
   rw[this]
 |v::vs,i,w,c,h,hf,hv,hn=>by
  simp only[aS]at hn;have fI:o+i<c.size:=by omega
  have hnf:w.frozen? ⟨b,o+i,none⟩=false:=by
   have:=hf (o+i) fI;simp only[World.frozen?,h];simpa using this
  let w1:=w.setCell ⟨b,o+i,none⟩ v
  have HE:w1.heap[b]? =some (.cells (c.setIfInBounds (o+i) v) el fz):=by
   simp[w1,World.setCell,cq,h]
  obtain⟨w',e1,e2,e3,e4,e5,e6,e7⟩:=ny (P:=P) (o:=o) vs (i+1) w1 (c.setIfInBounds (o+i) v) HE (by simpa using hf) (fun v hv'=>hv v (by simp[hv'])) (by simp only[Array.size_setIfInBounds];omega);refine⟨w',?_,?_,by rw[e3];simp[w1],by rw[e4];rfl,by rw[e5];rfl,by rw[e6];rfl,?_⟩
  . simp only[storeCells,Sem.run_bind];rw[run_store P w _ v .plain (hv v (by simp)),Addr.ji,nv h,br fI];simp only[hnf,aO,cI,Result.andThen_ok];exact e1
  . rw[e2];have:o+(i+1)=o+i+1:=by omega
    rw[this,rU K]
  . intro x G;rw[e7 x G];simp[w1,World.setCell,cq,Ne.symm G]
theorem tw{E:Env}:∀{v:Value} {x:V},iP v=some x->dK E x v:=by
 intro v x h;cases v with
 |bool b=>simp only[iP,an]at h;subst h;rfl
 |int k n=>simp only[iP,an]at h;subst h;rfl
 |string s=>
  simp only[iP,an]at h;subst h;show Value.string s= .string ⟨s.data.toList.toArray⟩;rw[Array.toArray_toList]
 |pointer a=>cases a<;>simp only[iP,an]at h;. subst h;rfl
             . cases h
 |slice a l c=>
  cases a with
  |none=>match l,c,h with
   |0,0,h=>simp only[iP,an]at h;subst h;exact⟨rfl,rfl,rfl⟩
  |some a=>simp[iP]at h
 |map a=>cases a<;>simp only[iP,an]at h;. subst h;rfl
         . cases h
 |nilFunc=>simp only[iP,an]at h;subst h;rfl
 |nilIface=>simp only[iP,an]at h;subst h;rfl
 |_=>simp[iP]at h
theorem xj{E:Env}:∀{vs:List Value} {xs:ag},oc vs=some xs->dL E xs vs
 | [],xs,h=>by simp only[oc,an]at h;subst h;rfl
 |v::vs,xs,h=>by
  simp only[oc]at h;cases N:iP v with
  |none=>simp[N]at h
  |some x=>cases B:oc vs with
   |none=>simp[N,B]at h
   |some r=>simp only[N,B,an]at h;subst h;exact⟨v,vs,tw N,xj B,rfl⟩
theorem Ac{E:Env}{v:Value}{x:V}(h:Mp v=some x):dK E x v:=by
 unfold Mp at h;split at h
 . rename_i C;cases N:oc C.toList with
   |none=>simp[N]at h
   |some r=>simp only[N,an]at h;subst h;exact⟨C.toList,xj N,by simp⟩
 . exact tw h
section runs
variable{P:Program}{w:World}
section
variable{t:TypeId}
theorem dD{d:TypeDesc}(h:P.underlying t=some d):(underlying t).run P w= .ok d w:=by simp[underlying,h]
theorem fe{s:Nat}(h:kV P t=some s):(sizeOf t).run P w= .ok s w:=by
 unfold kV at h;cases hi:P.info? t with
 |none=>simp[hi]at h
 |some i=>simp[hi]at h;simp[sizeOf,typeInfo,hi,h]
theorem mB{z:V}(E:Env)(h:zeroOf P t=some z):∃z',(zeroValue t).run P w= .ok z' w/\dK E z z'/\(∃i,P.info? t=some i/\i.zero=some z'):=by
 unfold zeroOf at h;cases hi:P.info? t with
 |none=>simp[hi]at h
 |some i=>
  simp only[hi]at h;cases hz:i.zero with
  |none=>simp[hz]at h
  |some v=>simp only[hz]at h;exact⟨v,by simp[zeroValue,typeInfo,hi,hz],Ac h,i,rfl,hz⟩
theorem su{b:Bool}(h:NM P t=some b):(isAgg t).run P w= .ok b w:=by
 unfold NM at h;split at h
 . rename_i hu;simp at h;subst h;simp[isAgg,dD hu]
 . rename_i hu;simp at h;subst h;simp[isAgg,dD hu]
 . rename_i d N B hu;simp at h;subst h;simp only[isAgg,Sem.run_bind,dD hu,Result.andThen_ok]
   first|rfl|(split<;>first|rfl|(exact absurd rfl (N _))|(exact absurd rfl (B _ _)))
 . cases h
end
end runs
def kz(P:Program)(E:Env)(h:H lf)(n:Nat)(w:World)(s:Sem Next):nx->Prop
 | .val v h' n'=>∃E' w' v',(s.run P w= .ok (.value v') w'\/(s.run P w= .ok .skip w'/\v'=undef))/\dK E' v v'/\iG E h w E' h' w'/\
    (∀m,m≠n->E'.ι m=E.ι m)/\((n'=n/\E'=E)\/n'=n+1)
 | .call f args=>∃de,dL E args de/\((s.run P w= .ok (.enter f de.toArray) w/\callee P f=true)\/(∃m l b,f=P.funcs.size+m/\E.ι m=some (l,b)/\s.run P w=(Instr.yield l de.toArray).run P w))
 | .mF f c args=>∃c' de,s.run P w= .ok (.defer { target:=.fn (.func f) c'.toArray,args:=de.toArray }) w/\dL E c c'/\dL E args de
 | .recover=>s.run P w= .ok .recover w
 | .panic v=>∃v',s.run P w= .halt (.panic v') w/\dK E v v'
theorem ee{P:Program}{E:Env}{h:H lf}{n:Nat}{w:World}{s:Sem Next}{v:V}{v':Value}(g:Good E h w)
  (hr:s.run P w= .ok (.value v') w) (hv:dK E v v'):kz P E h n w s (.val v h n):=
 ⟨E,w,v',.inl hr,hv,iG.refl g,fun _ _=>rfl,.inl ⟨rfl,rfl⟩⟩
theorem oL{E:Env}{C:ag}{c:Array Value}(r:dL E C c.toList):mz E 0 C c:=by
 intro i v h;obtain⟨v',N,B⟩:=gK r i v h;exact⟨v',by simpa using N,B⟩
theorem kP{h h':H lf}{n n':Nat}{o:lf}(e:newObj h n o=some (h',n')):n<fP/\h'=h.set n (some o)/\n'=n+1:=by
 unfold newObj at e;split at e
 . rename_i q;simp at e;exact⟨q,e.1.symm,e.2.symm⟩
 . cases e
theorem Kj{P:Program}{E:Env}{h h':H lf}{n n':Nat}{w w1:World}{s:Sem Next}{C:ag}{c:Array Value}{el:TypeId}{fz:Nat×Nat}{v:V}{v':Value}
  (g:Good E h w) (hn:E.ι n=none) (e:newObj h n (.cells C)=some (h',n')) (hw:w1.heap=w.heap) (ht:w1.tape=w.tape) (ho:w1.os=w.os) (pJ:w1.output=w.output)
  (BP:nt fz c.size) (hr:s.run P w= .ok (.value v') (w1.alloc (.cells c el fz))) (I:mz E 0 C c)
  (hv:dK (E.put n w.heap.size 0 c.size) v v'):kz P E h n w s (.val v h' n'):=by
 obtain⟨gT,rfl,rfl⟩:=kP e;have g1:Good E h w1:=g.same hw;have hs:w1.heap.size=w.heap.size:=by rw[hw]
 have ku:E.le (E.put n w1.heap.size 0 c.size):=Env.rT hn fun m x t q G=>by have:=g1.mK m x t q;omega
 have u1:iG E h w E h w1:=⟨E.le_refl,g1,K,ht,ho,pJ,fun b _ _=>by rw[hw],fun m _ s W q _=>⟨m,s,W,q,id⟩,fun _ _ q=>.inl q⟩;have u:=iG.alloc (ob:=.cells c el fz) (o:=.cells C) g1 hn gT ⟨c,el,fz,heap_alloc_new,by simp[Env.put,jY],BP,qn ku I⟩;refine⟨E.put n w1.heap.size 0 c.size,_,v',.inl hr,by rw[hs];exact hv,u1.trans u,fun m W=>Env.fF W,.inr rfl⟩
theorem Ad{P:Program}{E:Env}{h h':H lf}{n n':Nat}{w w1:World}{s:Sem Next}{C:ag}{c:Array Value}{el:TypeId}{v:V}{v':Value}
  (g:Good E h w) (hn:E.ι n=none) (e:newObj h n (.cells C)=some (h',n')) (hw:w1.heap=w.heap) (ht:w1.tape=w.tape) (ho:w1.os=w.os) (pJ:w1.output=w.output)
  (hr:s.run P w= .ok (.value v') (w1.alloc (.cells c el))) (I:mz E 0 C c)
  (hv:dK (E.put n w.heap.size 0 c.size) v v'):kz P E h n w s (.val v h' n'):=
 Kj g hn e hw ht ho pJ (fun i _ q=>by simp at q) hr I hv
theorem HY{P:Program}{E:Env}{h h':H lf}{n n':Nat}{w w1:World}{s:Sem Next}{r:Row}{c:Array Value}{el:TypeId}{fz:Nat×Nat}{v:V}{v':Value}
  (g:Good E h w) (hn:E.ι n=none) (Kg:r.sc) (e:newObj h n r.EM=some (h',n')) (hw:w1.heap=w.heap) (ht:w1.tape=w.tape) (ho:w1.os=w.os) (pJ:w1.output=w.output)
  (BP:nt fz c.size) (hr:s.run P w= .ok (.value v') (w1.alloc (.cells c el fz))) (I:mz E 0 r.iZ c)
  (hv:dK (E.put n w.heap.size 0 c.size) v v'):kz P E h n w s (.val v h' n'):=by
 obtain⟨gT,rfl,rfl⟩:=kP e;have g1:Good E h w1:=g.same hw;have hs:w1.heap.size=w.heap.size:=by rw[hw]
 have ku:E.le (E.put n w1.heap.size 0 c.size):=Env.rT hn fun m x t q G=>by have:=g1.mK m x t q;omega
 have u1:iG E h w E h w1:=⟨E.le_refl,g1,K,ht,ho,pJ,fun b _ _=>by rw[hw],fun m _ s W q _=>⟨m,s,W,q,id⟩,fun _ _ q=>.inl q⟩;have u:=iG.alloc (ob:=.cells c el fz) (o:=r.EM) g1 hn gT (yG ⟨c,el,_,heap_alloc_new,by simp[Env.put,jY],BP,qn ku I⟩ Kg);refine⟨E.put n w1.heap.size 0 c.size,_,v',.inl hr,by rw[hs];exact hv,u1.trans u,fun m W=>Env.fF W,.inr rfl⟩
theorem tx{P:Program}{E:Env}{h h':H lf}{n n':Nat}{w w1:World}{s:Sem Next}{r:Row}{c:Array Value}{el:TypeId}{v:V}{v':Value}
  (g:Good E h w) (hn:E.ι n=none) (Kg:r.sc) (e:newObj h n r.EM=some (h',n')) (hw:w1.heap=w.heap) (ht:w1.tape=w.tape) (ho:w1.os=w.os) (pJ:w1.output=w.output)
  (hr:s.run P w= .ok (.value v') (w1.alloc (.cells c el))) (I:mz E 0 r.iZ c)
  (hv:dK (E.put n w.heap.size 0 c.size) v v'):kz P E h n w s (.val v h' n'):=by
 obtain⟨gT,rfl,rfl⟩:=kP e;have g1:Good E h w1:=g.same hw;have hs:w1.heap.size=w.heap.size:=by rw[hw]
 have ku:E.le (E.put n w1.heap.size 0 c.size):=Env.rT hn fun m x t q G=>by have:=g1.mK m x t q;omega
 have u1:iG E h w E h w1:=⟨E.le_refl,g1,K,ht,ho,pJ,fun b _ _=>by rw[hw],fun m _ s W q _=>⟨m,s,W,q,id⟩,fun _ _ q=>.inl q⟩;have u:=iG.alloc (ob:=.cells c el) (o:=r.EM) g1 hn gT (yG ⟨c,el,_,heap_alloc_new,by simp[Env.put,jY],(fun i _ q=>by simp at q),qn ku I⟩ Kg);refine⟨E.put n w1.heap.size 0 c.size,_,v',.inl hr,by rw[hs];exact hv,u1.trans u,fun m W=>Env.fF W,.inr rfl⟩
theorem Zo{E:Env}{h:H lf}{w:World}{n z:Nat}(g:Good E h w)(hn:E.ι n=none):E.le (E.put n w.heap.size 0 z):=
 Env.rT hn fun m x t q G=>by have:=g.mK m x t q;omega
section ops
variable{P:Program}{E:Env}{h:H lf}{n:Nat}{w:World}
theorem F8(P:Program)(t:TypeId)(z:V):Ch P t z= .cells z.cells\/(z.cells=[.ptr none,.dj none 0 0 0]/\Ch P t z= .AX t false (.dj none 0 0 0)):=by
 unfold Ch;split
 . rename_i hz;split
   . split
     . split
       . split
         . exact .inr ⟨hz,rfl⟩
         . exact .inl rfl
       . exact .inl rfl
     . exact .inl rfl
   . exact .inl rfl
 . exact .inl rfl
section
variable{t:TypeId}{m s:Nat}{C:ag}{o k:Nat}{new:ag}
theorem P7{z:V}{h':H lf}{n':Nat}(g:Good E h w)(hn:E.ι n=none)(hz:zeroOf P t=some z)(e:newObj h n (Ch P t z)=some (h',n')):
  kz P E h n w (do pure (.value (<- Instr.alloc t true (.tuple #[])))) (.val (.ptr (some (n,0))) h' n'):=by
 obtain⟨z',hr,hv,_⟩:=mB (w:=w) E hz;rcases F8 P t z with q|⟨I,q⟩
 case inr=>
  rw[q]at e;obtain⟨gT,rfl,rfl⟩:=kP e;have nX:=iE hv;rw[I]at nX;obtain⟨p',_,r1,⟨x',_,r2,pK,rfl⟩,hl⟩:=nX;simp only[dL]at pK;subst pK;simp only[dK]at r1;subst r1;have hzc:z'.cells=#[.pointer none,x']:=by apply Array.ext';rw[hl]
  have hu:=iG.alloc (ob:=.cells z'.cells t) (o:=.AX t false (.dj none 0 0 0)) g hn gT ⟨rfl,x',_,by rw[heap_alloc_new,hzc];rfl,by simp[Env.put,jY,hzc],(fun i _ q=>by simp at q),js (Zo g hn) _ _ r2⟩;exact⟨_,_,.pointer (some ⟨w.heap.size,0,none⟩),.inl (by simp[Instr.alloc,hr,newVar,newRow]),⟨_,_,Env.ff,by simp⟩,hu,fun m W=>Env.fF W,.inr rfl⟩
 rw[q]at e;refine Ad (c:=z'.cells) (el:=t) (w1:=w) (v':=.pointer (some ⟨w.heap.size,0,none⟩)) g hn e rfl rfl rfl rfl ?_ (oL (iE hv)) ⟨_,_,Env.ff,by simp⟩;simp[Instr.alloc,hr,newVar,newRow]
theorem Zp{v:V}{v':Value}{h':H lf}{n':Nat}(g:Good E h w)(hn:E.ι n=none)(hv:dK E v v')(e:newObj h n (.cells v.cells)=some (h',n')):
  kz P E h n w (do pure (.value (<- Instr.box t v'))) (.val (.ptr (some (n,0))) h' n'):=by
 refine Ad (c:=v'.cells) (el:=t) (w1:=w) (v':=.pointer (some ⟨w.heap.size,0,none⟩)) g hn e rfl rfl rfl rfl ?_ (oL (iE hv)) ⟨_,_,Env.ff,by simp⟩;simp[Instr.box,newVar,newRow]
theorem ot{c:Array Value}(r:mz E s C c){k:Nat}(hk:0<k)(I:k<=C.length):s+k<=c.size:=by
 obtain⟨v',N,_⟩:=r (k-1) (C[k-1]'(by omega)) (ay _);have:=(aQ.1 N).1;omega
theorem ou{c:Array Value}(r:mz E s C c){o k:Nat}(hk:o+k<=C.length)(h0:s+o+k<=c.size):
  dL E ((C.drop o).take k) ((c.toList.drop (s+o)).take k):=by
 refine jG (by simp;omega) fun i v q=>?_;rw[bP]at q ⊢;split at q
 . rename_i hi;rw[aH hi];rw[bJ]at q ⊢;obtain⟨v',N,B⟩:=r (o+i) v q;exact⟨v',by rw[<- N];simp[cD],B⟩
 . cases q
theorem Ae{r:ag}(e:cut C o k=some r):o+k<=C.length/\r=(C.drop o).take k:=by
 unfold cut at e;split at e
 . rename_i q;simp at e;exact⟨q,e.symm⟩
 . cases e
theorem jF{b s o:Nat}{C:ag}{v:V}{c:Array Value}{el:TypeId}{fz:Nat×Nat}(hb:w.heap[b]? =some (.cells c el fz))(r:mz E s C c)
  (e:lz P t C o=some v):∃v',(loadVar t ⟨b,s+o,none⟩).run P w= .ok v' w/\dK E v v':=by
 unfold lz at e;split at e
 . rename_i ha;cases hs:kV P t with
   |none=>simp[hs]at e
   |some k=>
    simp only[hs]at e;cases I:cut C o k with
    |none=>simp[I]at e
    |some x=>
     simp only[I,bj,an]at e;subst e;obtain⟨N,rfl⟩:=Ae I;by_cases hk:k=0
     . subst hk;refine⟨.agg #[],?_,[],by simp[dL],rfl⟩;simp[loadVar,su ha,fe hs,loadCells,loadCellsFrom]
     . have h0:s+o+k<=c.size:=by have:=ot r (k:=o+k) K N;omega
       refine⟨_,?_,_,ou r N h0,rfl⟩;simp[loadVar,su ha,fe hs,run_loadCells hb h0]
 . rename_i ha;obtain⟨v',N,B⟩:=r o v e;refine⟨v',?_,B⟩;simp[loadVar,su ha,nv hb,N]
 . cases e
theorem P9{E:Env}{m b:Nat}{self:Bool}{x:V}{x':Value}(hi:E.ι m=some (b,0))(G:dK E x x'):mz E 0 (uL m self x) #[.pointer (if self then some ⟨b,0,none⟩else none),x']:=by
 intro i v q
 match i with
 |0=>
  simp only[uL,bI,an]at q;subst q;refine⟨_,rfl,?_⟩;cases self with
  |true=>exact⟨b,0,hi,rfl⟩
  |false=>rfl
 |1=>
  simp only[uL,cB,bI,an]at q;subst q;exact⟨_,rfl,G⟩
 |i+2=>simp[uL]at q
theorem Ct{t:TypeId}{a v:V}{a':Value}(g:Good E h w)(ha:dK E a a')(e:loadAt P t h a=some v):
  ∃b s,a'= .pointer (some ⟨b,s,none⟩)/\∃v',(loadVar t ⟨b,s,none⟩).run P w= .ok v' w/\dK E v v':=by
 unfold loadAt at e;split at e
 . rename_i m o;split at e
   . rename_i C W;obtain⟨b,s,hi,c,el,fz,hb,_,_,I⟩:=g.rel m _ W;obtain⟨b',s',kI,rfl⟩:=ha;rw[hi]at kI;cases kI;obtain⟨v',N,B⟩:=jF hb I e;exact⟨b,s+o,rfl,v',N,B⟩
   . rename_i k ks W;obtain⟨b,s,hi,c,el,fz,hb,_,I⟩:=g.rel m _ W;obtain⟨b',s',kI,rfl⟩:=ha;rw[hi]at kI;cases kI;obtain⟨v',N,B⟩:=jF hb (mS.2 I) e;exact⟨b,s+o,rfl,v',N,B⟩
   . rename_i k ks W;obtain⟨b,s,hi,c,el,fz,hb,_,_,I⟩:=g.rel m _ W;obtain⟨b',s',kI,rfl⟩:=ha;rw[hi]at kI;cases kI;obtain⟨v',N,B⟩:=jF hb I e;exact⟨b,s+o,rfl,v',N,B⟩
   . rename_i C W;obtain⟨b,s,hi,c,el,fz,vs,hb,_,_,hd,I⟩:=g.rel m _ W;obtain⟨b',s',kI,rfl⟩:=ha;rw[hi]at kI;cases kI;obtain⟨v',N,B⟩:=jF hb ((oo (jn hd)).2 ⟨vs,hd,I⟩) e;exact⟨b,s+o,rfl,v',N,B⟩
   . rename_i cQ self x W;obtain⟨b,s,hi,hs,x',fz,hb,_,_,G⟩:=g.rel m _ W;obtain⟨b',s',kI,rfl⟩:=ha;rw[hi]at kI;cases kI;subst hs;obtain⟨v',N,B⟩:=jF (E:=E) (s:=0) hb (P9 hi G) e;exact⟨b,0+o,rfl,v',N,B⟩
   . cases e
 . rename_i C;obtain⟨b,o,c,vs,rfl,hf,hd,I⟩:=ha;obtain⟨⟨el,fz,hb⟩,_⟩:=g.gQ b c hf;obtain⟨v',N,B⟩:=jF hb ((oo (jn hd)).2 ⟨vs,hd,I⟩) e;exact⟨b,o,rfl,v',N,B⟩
 . cases e
theorem UA{a v:V}{a':Value}(g:Good E h w)(ha:dK E a a')(e:loadAt P t h a=some v):
  kz P E h n w (do pure (.value (<- Instr.loadAt t a'))) (.val v h n):=by
 obtain⟨b,s,rfl,v',N,B⟩:=Ct g ha e;exact ee g (by simp[Instr.loadAt,Instr.sureAddr,N]) B
theorem Af{r:ag}{o:Nat}(e:Cg C o new=some r):o+new.length<=C.length/\r=C.take o++(new++C.drop (o+new.length)):=by
 unfold Cg at e;split at e
 . rename_i q;simp at e;exact⟨q,e.symm⟩
 . cases e
theorem Kk{α:Type}{C new:List α}{o:Nat}(h:o+new.length<=C.length)(j:Nat):
  (C.take o++(new++C.drop (o+new.length)))[j]? =if o<=j/\j<o+new.length then new[j-o]? else C[j]?:=by
 rw[bT];have hl:(List.take o C).length=o:=by simp;omega
 rw[hl];by_cases N:j<o
 . rw[aH N,aI K,bP,aH N]
 . rw[aI N,bT];by_cases B:j<o+new.length
   . rw[aH K,aH K]
   . rw[aI K,aI K,bJ];congr 1;omega
theorem HZ{C new:ag}{kG:List Value}{c:Array Value}(r:mz E s C c)(hn:dL E new kG)(fU:0<new.length)(h:o+new.length<=C.length):
  s+o+kG.length<=c.size/\mz E s (C.take o++(new++C.drop (o+new.length))) (putCells c (s+o) kG):=by
 have hl:=eP hn;have hb:s+o+kG.length<=c.size:=by have:=ot r (k:=o+new.length) K h;omega
 refine⟨hb,fun i v q=>?_⟩;rw[Kk h]at q;rw[nw hb];split at q
 . rename_i hi;rw[aH K];obtain⟨v',N,B⟩:=gK hn _ v q;exact⟨v',by rw[<- N];congr 1;omega,B⟩
 . rename_i hi;rw[aI K];exact r i v q
theorem xI{b s:Nat}{ob:lf}{r r':Row}{new:ag}{kG:List Value}(g:Good E h w)(gT:m<fP)(W:h.get m=some ob)(hr:ob.row=some r)(hi:E.ι m=some (b,s))
  (hn:dL E new kG) (fU:0<new.length) (Kg:new.all V.scalar=true) (hl:o+new.length<=r.iZ.length) (Ua:wk (r.iZ.take o++(new++r.iZ.drop (o+new.length))) r'.iZ) (H6:r.sc->r'.sc):
  ∃w',(storeCells ⟨b,s+o,none⟩ kG).run P w= .ok () w'/\iG E h w E (h.set m (some r'.EM)) w':=by
 obtain⟨b',s',kI,q⟩:=g.rel m _ W;obtain⟨⟨c,el,fz,hb,hz,hf,I⟩,Zq⟩:=HW hr q;rw[hi]at kI;cases kI;obtain⟨Ag,EO⟩:=HZ I hn fU hl;have Kl:∀v∈kG,v.oneCell'=true:=by
  intro v hv;obtain⟨i,kI⟩:=List.getElem?_of_mem hv;have fI:i<new.length:=by rw[<- eP hn];exact(aG.1 kI).1
  obtain⟨v',N,B⟩:=gK hn i new[i] (ay fI);rw[kI]at N;cases N;exact uZ B (by rw[bt]at Kg;exact Kg _ (b7 fI))
 obtain⟨w',e1,e2,e3,e4,e5,e6,e7⟩:=ny (P:=P) (o:=s+o) kG 0 w c hb hf Kl K;refine⟨w',e1,iG.write g gT ⟨_,W,P4 hr⟩ hi e3 e4 e5 e6 e7 ?_⟩;exact yG ⟨_,el,fz,e2,by rw[jO K];exact hz,by rw[jO K];exact hf,yF Ua EO⟩ (H6 Zq)
theorem NR{b s:Nat}{C new:ag}{kG:List Value}(g:Good E h w)(gT:m<fP)(W:h.get m=some (.cells C))(hi:E.ι m=some (b,s))
  (hn:dL E new kG) (fU:0<new.length) (Kg:new.all V.scalar=true) (hl:o+new.length<=C.length):
  ∃w',(storeCells ⟨b,s+o,none⟩ kG).run P w= .ok () w'/\iG E h w E (h.set m (some (.cells (C.take o++(new++C.drop (o+new.length)))))) w':=
 xI (r':=.vs (C.take o++(new++C.drop (o+new.length)))) g gT W rfl hi hn fU Kg hl (jb _) (fun _=>trivial)
theorem Qa{a v:V}{a' v':Value}{h':H lf}(g:Good E h w)(ha:dK E a a')(hv:dK E v v')(e:storeAt P t h v a=some h'):
  kz P E h n w (do Instr.storeAt t a' v';pure .skip) (.val (.ew []) h' n):=by
 unfold storeAt at e;split at e
 . rename_i m o;split at e
   . rename_i C W;split at e
     . rename_i s hs;split at e
       . rename_i hq;obtain⟨N,B,h3,h4⟩:=hq;split at e
         . rename_i cs' hsp;obtain rfl:=ek e;obtain⟨ku,rfl⟩:=Af hsp;obtain⟨b,s',hi,rfl⟩:=ha;have ow:=iE hv;obtain⟨w',hr,hu⟩:=NR (P:=P) g h3 W hi ow K h4 ku;refine⟨E,w',undef,.inr ⟨?_,rfl⟩,⟨[],rfl,rfl⟩,hu,fun _ _=>rfl,.inl ⟨rfl,rfl⟩⟩;have l8:v'.cells.size=s:=by have:=eP ow;simp at this;omega
           simp[Instr.storeAt,Instr.sureAddr,storeVar,fe hs,l8,hr]
         . cases e
       . cases e
     . cases e
   . rename_i k ks W;split at e
     . rename_i s hs;split at e
       . rename_i hq;obtain⟨N,B,h3⟩:=hq;split at e
         . rename_i new tu;split at e
           . rename_i ku;obtain rfl:=ek e;have Zr:=qo tu;have Mt:new.length=s:=by have:=aN List.length Zr;simp at this;omega
             obtain⟨b,s',hi,rfl⟩:=ha;have ow:=iE hv;obtain⟨w',hr,hu⟩:=xI (P:=P) (o:=o) (r':=.is k (fZ ks o new)) g h3 W rfl hi ow K (by rw[Zr];simp[V.scalar]) (by rw[Zr];simp[Row.iZ];omega)
              (by rw[Zr];simp[Row.iZ,fZ,aY,cN,List.map_drop];exact jb _) (fun _=>trivial)
             refine⟨E,w',undef,.inr ⟨?_,rfl⟩,⟨[],rfl,rfl⟩,hu,fun _ _=>rfl,.inl ⟨rfl,rfl⟩⟩;have l8:v'.cells.size=s:=by have:=eP ow;simp at this;omega
             simp[Instr.storeAt,Instr.sureAddr,storeVar,fe hs,l8,hr]
           . cases e
         . cases e
       . cases e
     . cases e
   . rename_i C W;split at e
     . rename_i s hs;split at e
       . rename_i hq;obtain⟨N,B,h3⟩:=hq;split at e
         . rename_i new tu;split at e
           . rename_i ku;obtain rfl:=ek e;have Mt:=u6 tu;obtain⟨b,s',hi,rfl⟩:=ha;have ow:=iE hv;have hcn:dL E (rs.l6 new) v'.cells.toList:=yE tu E _ ow;have UB:(rs.l6 new).length=s:=by rw[rs.gB,aT];omega
             obtain⟨w',hr,hu⟩:=xI (P:=P) (o:=o) (r:=.ds C) (r':=.ds (nV C o new)) g h3 W rfl hi hcn K (AZ (oq tu)) (by simp only[Row.iZ,rs.gB,aT];omega)
              (by simp[Row.iZ,nV,rs.gB,aY,cN,List.map_drop];exact jb _)
              (fun hs x G=>by
               simp only[nV,aW]at G;rcases G with G|G|G
               . exact hs x (List.mem_of_mem_take G)
               . exact oq tu x G
               . exact hs x (List.mem_of_mem_drop G))
             refine⟨E,w',undef,.inr ⟨?_,rfl⟩,⟨[],rfl,rfl⟩,hu,fun _ _=>rfl,.inl ⟨rfl,rfl⟩⟩;have l8:v'.cells.size=s:=by have:=eP ow;simp at this;omega
             simp[Instr.storeAt,Instr.sureAddr,storeVar,fe hs,l8,hr]
           . cases e
         . cases e
       . cases e
     . cases e
   . rename_i cQ self x0 W;split at e
     . rename_i x hs hcv;split at e
       . rename_i hq;obtain⟨rfl,h3,h4⟩:=hq;obtain rfl:=ek e;obtain⟨b,s',hi,rfl⟩:=ha;obtain⟨b',s,kI,h0,x0',fz,hb,pG,hf,hx0⟩:=g.rel m _ W;rw[hi]at kI;cases kI;subst h0;have ow:=iE hv;rw[hcv]at ow;obtain⟨x',_,r1,pK,hl⟩:=ow;simp only[dL]at pK;subst pK;have Zr:v'.cells=#[x']:=by apply Array.ext';rw[hl]
         obtain⟨w',e1,e2,e3,e4,e5,e6,e7⟩:=ny (P:=P) (o:=0+1) [x'] 0 w _ hb hf (fun y hy=>by rw[aq]at hy;subst hy;exact uZ r1 h4) (by simp);refine⟨E,w',undef,.inr ⟨?_,rfl⟩,⟨[],rfl,rfl⟩,iG.write g h3 ⟨_,W,rfl⟩ hi e3 e4 e5 e6 e7 ⟨rfl,x',fz,?_,pG,hf,r1⟩,fun _ _=>rfl,.inl ⟨rfl,rfl⟩⟩
         . have l8:v'.cells.size=1:=by rw[Zr];rfl
           have e1':(storeCells ⟨b,1,none⟩ v'.cells.toList).run P w= .ok () w':=by rw[Zr];simpa using e1
           simp[Instr.storeAt,Instr.sureAddr,storeVar,fe hs,l8,e1']
         . rw[e2];rfl
       . cases e
     . cases e
   . cases e
 . cases e
end
end ops
def A3(E:Env):List (Nat×V)->List (Nat×Value)->Prop
 | [],l=>l=[]
 |x::xs,l=>∃y ys,y.1=x.1/\dK E x.2 y.2/\A3 E xs ys/\l=y::ys
theorem EP(off:Nat):∀(vs:List Value) (k:Nat) (c:Array Value),off+k+vs.length<=c.size->
  (vs.zipIdx k).foldl (fun C (x:Value×Nat)=>C.setIfInBounds (off+x.2) x.1) c=putCells c (off+k) vs
 | [],k,c,_=>by simp[putCells]
 |v::vs,k,c,h=>by
  simp only[aS]at h;simp only[List.zipIdx_cons,List.foldl_cons];rw[EP off vs (k+1) _ (by simp;omega)];have:off+(k+1)=off+k+1:=by omega
  rw[this,rU K]
theorem yH{E:Env}{yw:Nat->Option (Nat×Nat)}:∀(parts:List (Nat×V)) (ox:List (Nat×Value)) (cells:ag) (qy:Array Value) (r:ag),
  sj yw cells parts=some r->dL E cells qy.toList->A3 E parts ox->∃r',Instr.fill yw qy ox=some r'/\dL E r r'.toList
 | [],_,cells,qy,r,e,I,hp=>by
   simp only[A3]at hp;subst hp;simp only[sj,an]at e;subst e;exact⟨qy,rfl,I⟩
 |(i,v)::rest,_,cells,qy,r,e,I,hp=>by
  obtain⟨⟨i',v'⟩,ys,q1,hv,hr,rfl⟩:=hp;simp only at q1 hv;subst q1;simp only[sj]at e;cases oM:yw i' with
  |none=>simp[oM]at e
  |some p=>
   obtain⟨off,size⟩:=p;simp only[oM]at e;split at e
   . rename_i l8;cases hs:Cg cells off v.cells with
     |none=>simp[hs]at e
     |some Zs=>
      simp only[hs]at e;obtain⟨ku,rfl⟩:=Af hs;have hcv:=iE hv;have F9:=eP hcv;have hlc:=eP I;simp only[Array.length_toList]at F9 hlc;have rV:v'.cells.zipIdx.foldl (fun C (x:Value×Nat)=>C.setIfInBounds (off+x.2) x.1) qy=putCells qy off v'.cells.toList:=by
       rw[<- Array.foldl_toList,Array.toList_zipIdx];exact EP off v'.cells.toList 0 qy (by simp;omega)
      have aj0:dL E (cells.take off++(v.cells++cells.drop (off+v.cells.length))) (putCells qy off v'.cells.toList).toList:=by
       simp only[putCells];refine iK (Cq I) (iK hcv ?_);have:off+v'.cells.toList.length=off+v.cells.length:=by simp;omega
       rw[this];exact Cr I
      obtain⟨r',N,B⟩:=yH rest ys _ _ r e aj0 hr;refine⟨r',?_,B⟩;simp only[Instr.fill,oM];rw[aI (by simp;omega)];rw[<- N,<- rV]
   . cases e
theorem u9{P:Program}:∀(fs:List Field) (uM:List (Nat×Nat)),tf P fs=some uM->
  fs.mapM (fun f=>(P.info? f.type).map fun i=>(f.offset,i.size))=some uM
 | [],uM,h=>by simp[tf]at h;subst h;rfl
 |f::fs,uM,h=>by
  simp only[tf,kV]at h;cases hi:P.info? f.type with
  |none=>simp[hi]at h
  |some i=>
   simp only[hi,bj]at h;cases hr:tf P fs with
   |none=>simp[hr]at h
   |some r=>
    simp only[hr,an]at h;subst h;simp[List.mapM_cons,hi,u9 fs r hr]
theorem A4{z:ag}(hz:0<z.length):∀(n i:Nat),(ia z n)[i]? =if i<n*z.length then z[i%z.length]? else none
 |0,i=>by simp[ia]
 |n+1,i=>by
  simp only[ia,bT];by_cases h:i<z.length
  . rw[aH h,aH (by rw[cP];omega),Nat.mod_eq_of_lt h]
  . rw[aI h,A4 hz n,cP,Nat.one_mul];have:(i-z.length)%z.length=i%z.length:=by rw[Nat.mod_eq_sub_mod (a:=i) K]
    rw[this];by_cases B:i-z.length<n*z.length
    . rw[aH B,aH K]
    . rw[aI B,aI K]
theorem qF{z:ag}:∀n,(ia z n).length=n*z.length
 |0=>by simp[ia]
 |n+1=>by simp[ia,qF n,cP];omega
theorem Cu{E:Env}{z:ag}{z':Array Value}(hz:dL E z z'.toList)(h0:0<z.length)(n:Nat):
  dL E (ia z n) ((Array.range (n*z.length)).map (z'[·%z'.size]!)).toList:=by
 have hl:z'.size=z.length:=by have:=eP hz;simpa using this
 refine jG (by simp[qF]) fun i v q=>?_;rw[A4 h0]at q;split at q
 . rename_i hi;obtain⟨v',N,B⟩:=gK hz _ v q;refine⟨v',?_,B⟩;have fI:i%z'.size<z'.size:=Nat.mod_lt _ K;rw[bO]at N;have mA:z'[i%z'.size]? =some v':=by rw[hl];exact N
   rw[bO,Array.getElem?_map];rw[Array.getElem?_range];rw[aH hi];simp only[bj];rw[getElem!_pos z' _ fI];rw[br fI]at mA;exact mA
 . cases q
theorem xJ{s:Sem Value}{v:V}(e:tg s=some v):∃v',s= .pure v'/\∀E,dK E v v':=by
 cases s with
 |pure v'=>exact⟨v',rfl,fun E=>tw e⟩
 |_=>simp[tg]at e
theorem fV:∀(a b:L),eJ a b=(a==b)
 | [],[]=>rfl
 | [],_::_=>rfl
 |_::_,[]=>rfl
 |a::x,b::y=>by
  simp only[eJ];by_cases h:a=b
  . subst h;have:Nat.beq a.toNat a.toNat=true:=cO _;rw[this];simp[fV x y]
  . have:Nat.beq a.toNat b.toNat=false:=by
     cases hh:Nat.beq a.toNat b.toNat with
     |false=>rfl
     |true=>exact absurd (UInt8.toNat_inj.1 (aD hh)) h
    rw[this];have hab:(a==b)=false:=by simpa using h
    simp[hab]
theorem sw(a b:L):((⟨a.toArray⟩:ByteArray)==⟨b.toArray⟩)=eJ a b:=by
 rw[fV,beq_toListBytes,ByteArray.toList_eq,ByteArray.toList_eq]
theorem tA(a b:L):((⟨a.toArray⟩:ByteArray).toList==(⟨b.toArray⟩:ByteArray).toList)=eJ a b:=by
 rw[<- sw,beq_toListBytes]
section ops
variable{P:Program}{E:Env}{h:H lf}{n:Nat}{w:World}
theorem NS{t:TypeId}{parts:List (Nat×V)}{ox:Array (Nat×Value)}{v:V}(hp:A3 E parts ox.toList)(e:J6 P t parts=some v):
  ∃v',(Instr.build t ox).run P w= .ok v' w/\dK E v v':=by
 unfold J6 at e;split at e
 . rename_i z od hz hu;obtain⟨z',_,hv,i,hi,hiz⟩:=mB (w:=w) E hz;cases hs:tf P od.toList with
   |none=>simp[hs]at e
   |some uM=>
    simp only[hs]at e;cases hf:sj (fun i=>uM[i]?) z.cells parts with
    |none=>simp[hf]at e
    |some C=>
     simp only[hf,bj,an]at e;subst e;obtain⟨r',N,B⟩:=yH parts ox.toList z.cells z'.cells C hf (iE hv) hp;refine⟨.agg r',run_build w t ox r' ?_,r'.toList,B,by simp⟩;simp only[Program.built,hi,hu,hiz,u9 _ _ hs];simpa using N
 . rename_i z m Uz hz hu;obtain⟨z',_,hv,i,hi,hiz⟩:=mB (w:=w) E hz;cases hs:kV P Uz with
   |none=>simp[hs]at e
   |some s=>
    simp only[hs]at e;cases hf:sj (fun i=>some (i*s,s)) z.cells parts with
    |none=>simp[hf]at e
    |some C=>
     simp only[hf,bj,an]at e;subst e;obtain⟨r',N,B⟩:=yH parts ox.toList z.cells z'.cells C hf (iE hv) hp;refine⟨.agg r',run_build w t ox r' ?_,r'.toList,B,by simp⟩;unfold kV at hs;cases hie:P.info? Uz with
     |none=>simp[hie]at hs
     |some ie=>
      simp only[hie,bj,an]at hs;simp only[Program.built,hi,hu,hiz,hie,hs];exact N
 . cases e
theorem El{t:TypeId}{T:Nat}{parts:List (Nat×V)}{ox:Array (Nat×Value)}{r:nx}(g:Good E h w)(hn:E.ι n=none)(hp:A3 E parts ox.toList)
  (e:oQ P t T parts h n=some r):kz P E h n w (do pure (.value (<- Instr.buildSlice t T ox))) r:=by
 unfold oQ at e;cases he:uN P t with
 |none=>simp[he]at e
 |some el=>
  simp only[he]at e;cases hs:kV P el with
  |none=>simp[hs]at e
  |some s=>
   cases hz:zeroOf P el with
   |none=>simp[hs,hz]at e
   |some z=>
    simp only[hs,hz]at e;split at e
    . rename_i hq;obtain⟨Ga,nP,ER⟩:=hq;cases hf:sj (fun i=>some (i*s,s)) (ia z.cells T) parts with
      |none=>simp[hf]at e
      |some C=>
       simp only[hf]at e;cases ho:newObj h n (.cells C)with
       |none=>simp[ho]at e
       |some x=>
        obtain⟨h',n'⟩:=x;simp only[ho,an]at e;subst e;obtain⟨z',hzr,hzv,_⟩:=mB (w:=w) E hz;have hzc:=iE hzv;have Qb:=Cu hzc K T;rw[ER]at Qb;obtain⟨r',N,B⟩:=yH parts ox.toList _ _ C hf Qb hp;have hu:P.underlying t=some (.slice el):=by
         unfold uN at he;split at he
         . rename_i q;simp at he;subst he;exact q
         . cases he
        have iQ:r'.size=T*s:=by
         have a:=eP B;have b:C.length=(ia z.cells T).length:=yI _ _ _ _ hf;rw[qF,ER]at b;simpa[b]using a
        refine Ad (c:=r') (el:=el) (w1:=w) (v':=.slice (some ⟨w.heap.size,0,none⟩) T T) g hn ho rfl rfl rfl rfl ?_ (oL B) ?_
        . simp only[Instr.buildSlice,Sem.run_bind,dD hu,Result.andThen_ok,fe hs];rw[aI (show ¬(T*s>2^24)by omega)];by_cases q0:T*s=0
          . have sg:(Array.range (T*s)).map (fun x=>(#[]:Array Value)[x%(#[]:Array Value).size]!)=(Array.range (T*s)).map (z'.cells[·%z'.cells.size]!):=by rw[q0];simp
            rw[aH q0];simp only[Sem.run_bind,Sem.run_pure,Result.andThen_ok];rw[sg,N];simp[newRow]
          . rw[aI q0];simp only[Sem.run_bind,Sem.run_pure,Result.andThen_ok,hzr];rw[N];simp[newRow]
        . refine⟨w.heap.size,0,0,T,Env.ff,fun _=>by simp,aA _,aA _,?_,rfl⟩;simp[Env.put,iQ]
    . cases e
where
 yI (yw:Nat->Option (Nat×Nat)):∀(parts:List (Nat×V)) (cells r:ag),sj yw cells parts=some r->r.length=cells.length
  | [],cells,r,e=>by simp only[sj,an]at e;rw[e]
  |(i,v)::rest,cells,r,e=>by
   simp only[sj]at e;split at e
   . cases e
   . split at e
     . split at e
       . rename_i Zs hs;obtain⟨ku,rfl⟩:=Af hs;rw[yI yw rest _ r e];simp;omega
       . cases e
     . cases e
end ops
section
variable{P:Program}{E:Env}{h:H lf}{n:Nat}{w:World}
theorem yJ{t:TypeId}{C:ag}{cs':Array Value}{off:Nat}{v:V}(r:dL E C cs'.toList)(e:xe P t C off=some v):
  ∃v',(part t cs' off).run P w= .ok v' w/\dK E v v':=by
 unfold xe lz at e;have hl:=eP r;simp only[Array.length_toList]at hl;split at e
 . rename_i ha;cases hs:kV P t with
   |none=>simp[hs]at e
   |some k=>
    simp only[hs]at e;cases I:cut C off k with
    |none=>simp[I]at e
    |some x=>
     simp only[I,bj,an]at e;subst e;obtain⟨N,rfl⟩:=Ae I;refine⟨.agg (cs'.extract off (off+k)),by simp[part,su ha,fe hs],(cs'.toList.drop off).take k,Cq (Cr r),?_⟩;congr 1;apply Array.ext';simp[List.extract_eq_take_drop]
 . rename_i ha;obtain⟨v',N,B⟩:=gK r off v e;refine⟨v',?_,B⟩;rw[bO]at N;simp[part,su ha,N]
 . cases e
end
def V.tag:V->Nat
 | .bool _=>0 | .int _ _=>1 | .str _=>2 | .ptr _=>3 | .dj _ _ _ _=>4 | .map _=>5 | .fn _ _ _=>6 | .kB=>7 | .iface _ _=>8 | .nilIface=>9 | .agg _=>10 | .ew _=>11 | .dS _ _ _=>4 | .dx _=>3
def yK:Value->Nat
 | .bool _=>0 | .int _ _=>1 | .string _=>2 | .pointer _=>3 | .slice _ _ _=>4 | .map _=>5 | .func _ _ _=>6 | .nilFunc=>7 | .iface _ _=>8 | .nilIface=>9 | .agg _=>10 | .tuple _=>11
 | .float _ _=>12 | .complex _ _ _=>13 | .chan _=>14
theorem sA{E:Env}:∀{x:V} {v:Value},dK E x v->x.tag=yK v:=by
 intro x v r;cases x with
 |agg C=>obtain⟨cs',_,rfl⟩:=r;rfl
 |ew C=>obtain⟨cs',_,rfl⟩:=r;rfl
 |bool b=>simp only[dK]at r;subst r;rfl
 |int k n=>simp only[dK]at r;subst r;rfl
 |str s=>simp only[dK]at r;subst r;rfl
 |ptr a=>cases a<;>simp only[dK]at r;. subst r;rfl
         . obtain⟨b,s,_,rfl⟩:=r;rfl
 |dj a l c e=>cases a<;>simp only[dK]at r;. obtain⟨_,_,rfl⟩:=r;rfl
              . obtain⟨b,s,_,_,_,_,_,_,_,rfl⟩:=r;rfl
 |map a=>cases a<;>simp only[dK]at r;. subst r;rfl
         . obtain⟨b,_,rfl⟩:=r;rfl
 |fn f a c=>obtain⟨_,_,_,_,_,_,rfl⟩:=r;rfl
 |kB=>simp only[dK]at r;subst r;rfl
 |iface t x=>obtain⟨_,_,rfl⟩:=r;rfl
 |nilIface=>simp only[dK]at r;subst r;rfl
 |dS f n C=>obtain⟨⟨_,_,_,rfl,_⟩,_⟩:=r;rfl
 |dx C=>obtain⟨_,_,_,_,rfl,_⟩:=r;rfl
theorem yL{E:Env}{x:V}{k:IntKind}{m:Int}(r:dK E x (.int k m)):x= .int k m:=by
 have t:=sA r;cases x<;>simp[V.tag,yK]at t;simp only[dK]at r;cases r;rfl
theorem yM{E:Env}{x:V}{s:ByteArray}(r:dK E x (.string s)):∃l,x= .str l:=by
 have t:=sA r;cases x<;>simp[V.tag,yK]at t;exact⟨_,rfl⟩
theorem Em{E:Env}{x:V}{k:FloatKind}{m:Nat}(r:dK E x (.float k m)):False:=by
 have t:=sA r;cases x<;>simp[V.tag,yK]at t
theorem BB{E:Env}{x:V}{k:FloatKind}{m m':Nat}(r:dK E x (.complex k m m')):False:=by
 have t:=sA r;cases x<;>simp[V.tag,yK]at t
theorem Qc{E:Env}{x y:V}{x' y':Value}{t:TypeId}(rx:dK E x x')(ry:dK E y y')(hi:∀k m k' m',¬(x= .int k m/\y= .int k' m'))(hs:∀s u,¬(x= .str s/\y= .str u)):
  binOp .eql t x' y'=(do pure (.bool (<- Op.equal t x' y')))/\binOp .neq t x' y'=(do pure (.bool (!(<- Op.equal t x' y')))):=by
 cases x'<;>cases y'<;>first
  |exact⟨rfl,rfl⟩
  |exact absurd ⟨yL rx,yL ry⟩ (hi _ _ _ _)
  |exact(Em rx).elim
  |exact(BB rx).elim
  |(obtain⟨l,e1⟩:=yM rx;obtain⟨l',e2⟩:=yM ry;exact absurd ⟨e1,e2⟩ (hs _ _))
section
variable{P:Program}{E:Env}{h:H lf}{n:Nat}{w:World}
theorem tB{d:Nat}{eq:TypeId->V->V->Option Bool}(ih:∀t x y x' y' r,eq t x y=some r->dK E x x'->dK E y y'->(Op.equalIn d t x' y').run P w= .ok r w)
  {xs ys:ag} {Cp Kc:Array Value} (rx:dL E xs Cp.toList) (ry:dL E ys Kc.toList):∀(fs:List Field) (r:Bool),eqFields P eq fs xs ys=some r->(Op.eqFields d Cp Kc fs).run P w= .ok r w
 | [],r,e=>by simp only[eqFields,an]at e;subst e;rfl
 |f::fs,r,e=>by
  simp only[eqFields]at e;simp only[Op.eqFields];split at e
  . rename_i fU;rw[aH fU];cases N:xe P f.type xs f.offset with
    |none=>simp[N]at e
    |some a=>cases B:xe P f.type ys f.offset with
     |none=>simp[N,B]at e
     |some b=>
      simp only[N,B]at e;obtain⟨a',p1,p2⟩:=yJ (P:=P) (w:=w) rx N;obtain⟨b',q1,q2⟩:=yJ (P:=P) (w:=w) ry B;cases h3:eq f.type a b with
      |none=>simp[h3]at e
      |some c=>
       have hr:=ih _ _ _ _ _ _ h3 p2 q2;simp only[Sem.run_bind,p1,q1,Result.andThen_ok,hr];cases c with
       |false=>simp only[h3,an]at e;subst e;simp
       |true=>simp only[h3]at e;simp only[Bool.not_true,aO,cI];exact tB ih rx ry fs r e
  . rename_i fU;rw[aI fU];exact tB ih rx ry fs r e
theorem Gb:∀(d:Nat) (t:TypeId) (x y:V) (x' y':Value) (r:Bool),Mq P d t x y=some r->dK E x x'->dK E y y'->(Op.equalIn d t x' y').run P w= .ok r w:=by
 intro d
 induction d with
 |zero=>intro t x y x' y' r e;simp[Mq]at e
 |succ d ih=>
  intro t x y x' y' r e rx ry;simp only[Mq]at e;split at e
  . rename_i hu;split at e
    . simp only[dK]at rx ry;subst rx;subst ry;obtain rfl:=ek e;simp[Op.equalIn,dD hu]
    . cases e
  . rename_i hu;split at e
    . simp only[dK]at rx ry;subst rx;subst ry;split at e
      . rename_i hk;subst hk;obtain rfl:=ek e;simp[Op.equalIn,dD hu]
      . cases e
    . cases e
  . rename_i hu;split at e
    . simp only[dK]at rx ry;subst rx;subst ry;obtain rfl:=ek e;simp only[Op.equalIn,Sem.run_bind,dD hu,Result.andThen_ok,Sem.run_pure];rw[sw]
    . cases e
  . rename_i hu;split at e
    . rename_i b;simp only[dK]at rx;subst rx;obtain rfl:=ek e;cases b with
      |none=>simp only[dK]at ry;subst ry;simp[Op.equalIn,dD hu]
      |some p=>obtain⟨_,_,_,rfl⟩:=ry;simp[Op.equalIn,dD hu]
    . rename_i p;obtain rfl:=ek e;obtain⟨_,_,_,rfl⟩:=rx;simp only[dK]at ry;subst ry;simp[Op.equalIn,dD hu]
    . split at e
      . rename_i UC;obtain⟨⟨rfl,rfl⟩,l8⟩:=UC;obtain rfl:=ek e;obtain⟨b,s,N,rfl⟩:=rx;obtain⟨b',s',B,rfl⟩:=ry;rw[N]at B;cases B;obtain⟨z,hz⟩:=bW.1 l8;simp only[Op.equalIn,Sem.run_bind,dD hu,Result.andThen_ok,fe hz];by_cases Zt:z=0
        . simp[Zt]
        . simp[Zt,sameAddr]
      . cases e
    . obtain rfl:=ek e;simp only[dK]at rx;subst rx;obtain⟨_,_,_,_,rfl,_⟩:=ry;simp[Op.equalIn,dD hu]
    . obtain rfl:=ek e;obtain⟨_,_,_,_,rfl,_⟩:=rx;simp only[dK]at ry;subst ry;simp[Op.equalIn,dD hu]
    . cases e
  . rename_i hu;split at e
    . simp only[dK]at rx ry;subst rx;subst ry;obtain rfl:=ek e;simp[Op.equalIn,dD hu]
    . simp only[dK]at rx;subst rx;obtain⟨_,_,rfl⟩:=ry;obtain rfl:=ek e;simp[Op.equalIn,dD hu]
    . simp only[dK]at ry;subst ry;obtain⟨_,_,rfl⟩:=rx;obtain rfl:=ek e;simp[Op.equalIn,dD hu]
    . cases e
  . rename_i od hu;split at e
    . split at e
      . cases e
      . rename_i BC;obtain⟨Cp,rxs,rfl⟩:=rx;obtain⟨Kc,rys,rfl⟩:=ry;have hf:P.fieldsOf t=od:=by simp[Program.fieldsOf,hu]
        rw[run_equalIn_struct w d t _ _ (by rw[hf];exact hu) (by simpa using BC),hf];exact tB (fun u a b a' b' r e ra rb=>ih u a b a' b' r e ra rb) (by simpa using rxs) (by simpa using rys) _ _ e
    . cases e
  . rename_i hu;split at e
    . rename_i b _ _ _;obtain⟨_,_,rfl⟩:=rx;obtain rfl:=ek e;cases b with
      |none=>obtain⟨_,_,rfl⟩:=ry;simp[Op.equalIn,dD hu]
      |some p=>obtain⟨_,_,_,_,_,_,_,_,_,rfl⟩:=ry;simp[Op.equalIn,dD hu]
    . obtain rfl:=ek e;obtain⟨_,_,_,_,_,_,_,_,_,rfl⟩:=rx;obtain⟨_,_,rfl⟩:=ry;simp[Op.equalIn,dD hu]
    . split at e
      . obtain rfl:=ek e;obtain⟨⟨a,A,vs,rfl,_,_,_,N⟩,_⟩:=rx;obtain⟨_,_,_,rfl,_⟩:=N (Nat.succ_pos _);obtain⟨_,_,rfl⟩:=ry;simp[Op.equalIn,dD hu]
      . cases e
    . cases e
  . rename_i hu;split at e
    . rename_i b;simp only[dK]at rx;subst rx;obtain rfl:=ek e;cases b with
      |none=>simp only[dK]at ry;subst ry;simp[Op.equalIn,dD hu]
      |some p=>obtain⟨_,_,rfl⟩:=ry;simp[Op.equalIn,dD hu]
    . obtain rfl:=ek e;obtain⟨_,_,rfl⟩:=rx;simp only[dK]at ry;subst ry;simp[Op.equalIn,dD hu]
    . cases e
  . cases e
end
section
variable{P:Program}{E:Env}{h:H lf}{n:Nat}{w:World}
theorem Cv:∀s u:L,yx s u=Op.bytesLess s u
 |_,[]=>by cases ‹L›<;>rfl
 | [],_::_=>rfl
 |a::x,b::y=>by
  simp only[yx,Op.bytesLess];have N:(a<b)↔a.toNat<b.toNat:=UInt8.lt_iff_toNat_lt;have B:(a=b)↔a.toNat=b.toNat:=UInt8.toNat_inj.symm;rcases Nat.lt_trichotomy a.toNat b.toNat with h|h|h
  . have:Nat.blt a.toNat b.toNat=true:=cH h;rw[this];simp[N.2 h]
  . have e1:Nat.blt a.toNat b.toNat=false:=by cases q:Nat.blt a.toNat b.toNat with|false=>rfl|true=>exact absurd (au q) K
    have e2:Nat.beq a.toNat b.toNat=true:=by rw[h];exact cO _
    have e3:¬a<b:=fun q=>by have:=N.1 q;omega
    have e4:a=b:=B.2 h;rw[e1,e2];simp only[Cv x y,e4];simp
  . have e1:Nat.blt a.toNat b.toNat=false:=by cases q:Nat.blt a.toNat b.toNat with|false=>rfl|true=>exact absurd (au q) K
    have e2:Nat.beq a.toNat b.toNat=false:=by cases q:Nat.beq a.toNat b.toNat with|false=>rfl|true=>exact absurd (aD q) K
    have e3:¬a<b:=fun q=>by have:=N.1 q;omega
    have e4:¬a=b:=fun q=>by have:=B.1 q;omega
    rw[e1,e2];simp[e3,e4]
theorem we(s:L):(⟨s.toArray⟩:ByteArray).toList=s:=by rw[ByteArray.toList_eq]
theorem Qd{op:BinOp}{t:TypeId}{x y:Operand}{a b v:V}{a' b':Value}(g:Good E h w)(ra:dK E a a')(rb:dK E b b')(e:Ci P op t x y a b=some v):
  kz P E h n w (do pure (.value (<- (do eqGuard op t x y a' b';binOp op t a' b')))) (.val v h n):=by
 unfold Ci at e;split at e
 . rename_i k m k' m';simp only[dK]at ra rb;subst ra;subst rb;obtain⟨v',q1,q2⟩:=xJ e;refine ee g (v':=v') ?_ (q2 E);have hg:(eqGuard op t x y (.int k m) (.int k' m')).run P w= .ok () w:=by cases op<;>rfl
   simp only[Sem.run_bind,hg,Result.andThen_ok,q1];rfl
 . rename_i s u;simp only[dK]at ra rb;subst ra;subst rb;have hg:(eqGuard op t x y (.string ⟨s.toArray⟩) (.string ⟨u.toArray⟩)).run P w= .ok () w:=by cases op<;>rfl
   cases op<;>simp only[PR]at e<;>first
    |(cases e;done)
    |skip
   . split at e
     . rename_i hl;obtain rfl:=ek e;refine ee g (v':=.string (⟨s.toArray⟩++⟨u.toArray⟩)) ?_ ?_
       . have l8:¬(((ByteArray.size ⟨s.toArray⟩+ByteArray.size ⟨u.toArray⟩:Nat):Int)>IntKind.i64.max):=by
          have:(IntKind.i64.max:Int)=9223372036854775807:=by decide
          rw[this];show ¬(((s.toArray.size+u.toArray.size:Nat):Int)>9223372036854775807);unfold xD at hl;simp only[List.size_toArray];omega
         simp only[Sem.run_bind,hg,Result.andThen_ok,binOp,Op.stringOp];rw[aI l8];rfl
       . show Value.string _= .string ⟨(s++u).toArray⟩;congr 1
     . cases e
   . obtain rfl:=ek e;refine ee g (v':=.bool (eJ s u)) ?_ rfl;simp only[Sem.run_bind,hg,Result.andThen_ok,binOp,Op.stringOp,tA];rfl
   . obtain rfl:=ek e;refine ee g (v':=.bool (!eJ s u)) ?_ rfl;simp only[Sem.run_bind,hg,Result.andThen_ok,binOp,Op.stringOp,tA];rfl
   . obtain rfl:=ek e;refine ee g (v':=.bool (yx s u)) ?_ rfl;simp only[Sem.run_bind,hg,Result.andThen_ok,binOp,Op.stringOp,Cv,we];rfl
   . obtain rfl:=ek e;refine ee g (v':=.bool (yx s u||eJ s u)) ?_ rfl;simp only[Sem.run_bind,hg,Result.andThen_ok,binOp,Op.stringOp,tA,fV,Cv,we];rfl
   . obtain rfl:=ek e;refine ee g (v':=.bool (!(yx s u||eJ s u))) ?_ rfl;simp only[Sem.run_bind,hg,Result.andThen_ok,binOp,Op.stringOp,tA,fV,Cv,we];rfl
   . obtain rfl:=ek e;refine ee g (v':=.bool (!yx s u)) ?_ rfl;simp only[Sem.run_bind,hg,Result.andThen_ok,binOp,Op.stringOp,Cv,we];rfl
 . rename_i hni Gc;have hb:=Qc (t:=t) ra rb (fun k m k' m' q=>hni k m k' m' q.1 q.2) (fun s u q=>Gc s u q.1 q.2);have Qe:∀r,F0 P t x y a b=some r->∀op,(op= .eql\/op= .neq)->(eqGuard op t x y a' b').run P w= .ok () w/\(Op.equal t a' b').run P w= .ok r w:=by
    intro r er op pM;unfold F0 at er;split at er
    . simp only[dK]at ra rb;subst ra;subst rb;split at er
      . rename_i aj3;refine⟨?_,Gb (E:=E) 10000 t _ _ _ _ r er rfl rfl⟩;clear hb e;rcases pM with rfl|rfl<;>cases x<;>cases y<;>first
         |rfl
         |(simp only[isLit,Bool.or_self,aO]at aj3)
      . cases er
    . split at er
      . cases er
      . rename_i hg;obtain⟨Cp,rx,rfl⟩:=ra;obtain⟨Kc,ry,rfl⟩:=rb;refine⟨run_eqGuard_agg w op t x y _ _ (by simpa using hg),Gb 10000 t _ _ _ _ r er ⟨Cp,rx,rfl⟩ ⟨Kc,ry,rfl⟩⟩
    . rename_i Eb xK;refine⟨?_,Gb 10000 t _ _ _ _ r er ra rb⟩;have t1:=sA ra;have t2:=sA rb;rcases pM with rfl|rfl<;>cases a'<;>first
       |rfl
       |(cases b'<;>first
        |rfl
        |(exfalso;cases a<;>simp[V.tag,yK]at t1;cases b<;>simp[V.tag,yK]at t2;exact Eb rfl rfl)
        |(exfalso;cases a<;>simp[V.tag,yK]at t1;cases b<;>simp[V.tag,yK]at t2;exact xK _ _ rfl rfl))
   split at e
   . cases hq:F0 P t x y a b with
     |none=>simp[hq]at e
     |some r=>
      simp only[hq,bj,an]at e;subst e;obtain⟨m1,m2⟩:=Qe r hq .eql (.inl rfl);refine ee g (v':=.bool r) ?_ rfl;simp only[Sem.run_bind,m1,Result.andThen_ok,hb.1,m2,Sem.run_pure]
   . cases hq:F0 P t x y a b with
     |none=>simp[hq]at e
     |some r=>
      simp only[hq,bj,an]at e;subst e;obtain⟨m1,m2⟩:=Qe r hq .neq (.inr rfl);refine ee g (v':=.bool (!r)) ?_ rfl;simp only[Sem.run_bind,m1,Result.andThen_ok,hb.2,m2,Sem.run_pure]
   . cases e
section
variable{t:TypeId}{f:Nat}{x i:V}
theorem UD{op:UnOp}{x v:V}{x':Value}(g:Good E h w)(r:dK E x x')(e:unV op x=some v):kz P E h n w (do pure (.value (<- Op.unary op x'))) (.val v h n):=by
 unfold unV at e;split at e
 . simp only[dK]at r;subst r;obtain⟨v',q1,q2⟩:=xJ e;exact ee g (v':=v') (by rw[q1];rfl) (q2 E)
 . simp only[dK]at r;subst r;obtain⟨v',q1,q2⟩:=xJ e;exact ee g (v':=v') (by rw[q1];rfl) (q2 E)
 . cases e
theorem H7{e:TypeId}(q:uN P t=some e):P.underlying t=some (.slice e):=by
 unfold uN at q;split at q
 . rename_i hu;simp at q;subst q;exact hu
 . cases q
theorem Gd{v:V}{x':Value}(g:Good E h w)(r:dK E x x')(e:xE P t f x=some v):
  kz P E h n w (do pure (.value (<- Instr.fieldAt t x' f))) (.val v h n):=by
 unfold xE at e;split at e
 . rename_i m o;split at e
   . rename_i fs hu;split at e
     . rename_i fd hf;split at e
       . rename_i k hk;obtain rfl:=ek e;obtain⟨b,s,hi,rfl⟩:=r;refine ee g (v':=.pointer (some ⟨b,s+(o+fd.offset),none⟩)) ?_ ⟨b,s,hi,rfl⟩;simp[Instr.fieldAt,dD hu,hf,Instr.sureAddr,fieldPlace,fe hk,Addr.ji,cD]
       . cases e
     . cases e
   . cases e
 . rename_i C;split at e
   . rename_i fs hu;split at e
     . rename_i fd hf;split at e
       . rename_i k hk;obtain rfl:=ek e;obtain⟨b,o,c,vs,rfl,BP,hd,I⟩:=r;refine ee g (v':=.pointer (some ⟨b,o+fd.offset,none⟩)) ?_ ⟨b,_,c,vs.drop fd.offset,rfl,BP,oh hd,fun j w q=>?_⟩
         . simp[Instr.fieldAt,dD hu,hf,Instr.sureAddr,fieldPlace,fe hk,Addr.ji]
         . rw[bJ]at q;rw[<- I _ w q,cD]
       . cases e
     . cases e
   . cases e
 . cases e
theorem Qf{v:V}{x':Value}(g:Good E h w)(r:dK E x x')(e:J7 P t f x=some v):
  kz P E h n w (do pure (.value (<- Instr.field t x' f))) (.val v h n):=by
 unfold J7 at e;split at e
 . split at e
   . rename_i fs hu;split at e
     . rename_i fd hf;obtain⟨cs',rc,rfl⟩:=r;obtain⟨v',N,B⟩:=yJ (P:=P) (w:=w) (cs':=cs'.toArray) (by simpa using rc) e;refine ee g (v':=v') ?_ B;simp[Instr.field,dD hu,hf,asAgg,N]
     . cases e
   . cases e
 . cases e
theorem Ge{v:V}{x' i':Value}(g:Good E h w)(r:dK E x x')(ri:dK E i i')(e:og P t x i=some v):
  kz P E h n w (do pure (.value (<- Instr.indexAt t x' i'))) (.val v h n):=by
 unfold og at e;split at e
 . rename_i k i;simp only[dK]at ri;subst ri;split at e
   . rename_i T el m o hu;split at e
     . rename_i s hs;split at e
       . rename_i hb;obtain rfl:=ek e;obtain⟨b,sh,hi,rfl⟩:=r;refine ee g (v':=.pointer (some ⟨b,sh+(o+i.toNat*s),none⟩)) ?_ ⟨b,sh,hi,rfl⟩;simp[Instr.indexAt,asIntOf,dD hu,Instr.sureAddr,hb.1,hb.2,fe hs,Addr.ji,cD]
       . cases e
     . cases e
   . rename_i el m o T A jC hu;split at e
     . rename_i s hs;split at e
       . rename_i hb;obtain⟨N,B,h3⟩:=hb;obtain rfl:=ek e;obtain⟨b,sh,o',gp,hi,q1,q2,q3,q4,rfl⟩:=r;have ho:o'=sh+o:=q1 K;subst ho;refine ee g (v':=.pointer (some ⟨b,sh+(o+i.toNat*s),none⟩)) ?_ ⟨b,sh,hi,rfl⟩;simp[Instr.indexAt,asIntOf,dD hu,N,B,fe hs,Addr.ji,cD]
       . cases e
     . cases e
   . rename_i el f T C hu;split at e
     . rename_i s hs;split at e
       . rename_i hb;obtain⟨⟨N,B⟩,h3⟩:=hb;obtain rfl:=ek e;obtain⟨⟨a,A,vs,rfl,nP,hd,h0,mL⟩,_⟩:=r;obtain⟨b,o,c,rfl,BP,I⟩:=mL K;refine ee g (v':=.pointer (some ⟨b,o+i.toNat*s,none⟩)) ?_ ⟨b,_,c,(vs.drop (i.toNat*s)).take s,rfl,BP,tn (oh hd),fun j w q=>?_⟩
         . simp[Instr.indexAt,asIntOf,dD hu,N,B,fe hs,Addr.ji]
         . rw[bP]at q;split at q
           . rw[bJ]at q;rw[<- I _ w q,cD]
           . cases q
       . cases e
     . cases e
   . rename_i T el C hu;split at e
     . rename_i s hs;split at e
       . rename_i hb;obtain rfl:=ek e;obtain⟨b,o,c,vs,rfl,BP,hd,I⟩:=r;refine ee g (v':=.pointer (some ⟨b,o+i.toNat*s,none⟩)) ?_ ⟨b,_,c,vs.drop (i.toNat*s),rfl,BP,oh hd,fun j w q=>?_⟩
         . simp[Instr.indexAt,asIntOf,dD hu,Instr.sureAddr,hb.1,hb.2,fe hs,Addr.ji]
         . rw[bJ]at q;rw[<- I _ w q,cD]
       . cases e
     . cases e
   . cases e
 . cases e
theorem Qg{v:V}{x' i':Value}(g:Good E h w)(r:dK E x x')(ri:dK E i i')(e:F1 P t x i=some v):
  kz P E h n w (do pure (.value (<- Instr.index t x' i'))) (.val v h n):=by
 unfold F1 at e;split at e
 . rename_i k i;simp only[dK]at ri;subst ri;split at e
   . rename_i T el C hu;split at e
     . rename_i s hs;split at e
       . rename_i hb;obtain⟨cs',rc,rfl⟩:=r;obtain⟨v',N,B⟩:=yJ (P:=P) (w:=w) (cs':=cs'.toArray) (by simpa using rc) e;refine ee g (v':=v') ?_ B;simp[Instr.index,asIntOf,dD hu,hb.1,hb.2,fe hs,N]
       . cases e
     . cases e
   . rename_i s hu;split at e
     . rename_i hb;split at e
       . rename_i b hsb;obtain rfl:=ek e;simp only[dK]at r;subst r;refine ee g (v':=.int .u8 b.toNat) ?_ rfl;have hg:(⟨s.toArray⟩:ByteArray)[i.toNat]? =some b:=by
          obtain⟨fI,hv⟩:=aG.1 hsb;have l8:i.toNat<(⟨s.toArray⟩:ByteArray).size:=by show i.toNat<s.toArray.size;simpa using fI
          rw[getElem?_pos (⟨s.toArray⟩:ByteArray) i.toNat l8];congr 1
         simp[Instr.index,asIntOf,dD hu,hb,hg]
       . cases e
     . cases e
   . cases e
 . cases e
theorem Km{vs:ag}{i:Nat}{v:V}{x':Value}(g:Good E h w)(r:dK E (.ew vs) x')(e:vs[i]? =some v):
  kz P E h n w (do pure (.value (<- Instr.extract x' i))) (.val v h n):=by
 obtain⟨Yd,D,rfl⟩:=r;obtain⟨v',N,B⟩:=gK D i v e;refine ee g (v':=v') ?_ B;simp[Instr.extract,N]
theorem En{v:V}{xt t:TypeId}{ok:Bool}{x':Value}(g:Good E h w)(r:dK E x x')(e:uT P x t ok=some v):
  kz P E h n w (do pure (.value (<- Instr.typeAssert x' xt t ok))) (.val v h n):=by
 unfold uT at e;split at e
 . cases e
 . rename_i d hu hd;simp only[dK]at r;subst r;split at e
   . rename_i iy;cases hz:zeroOf P t with
     |none=>simp[hz]at e
     |some z=>
      simp only[hz,an]at e;subst e;obtain⟨z',hr,hv,_⟩:=mB (w:=w) E hz;refine ee g (v':=.tuple #[z',.bool false]) ?_ ⟨[z',.bool false],⟨z',_,hv,⟨.bool false,[],rfl,rfl,rfl⟩,rfl⟩,rfl⟩;cases d<;>first|(exact absurd rfl (hu _))|simp[Instr.typeAssert,dD hd,iy,hr]
   . cases e
 . rename_i d t2 x2 hu hd;obtain⟨y,ry,rfl⟩:=r;split at e
   . rename_i ht;subst ht;obtain rfl:=ek e;cases ok with
     |true=>
      refine ee g (v':=.tuple #[y,.bool true]) ?_ ⟨[y,.bool true],⟨y,_,ry,⟨.bool true,[],rfl,rfl,rfl⟩,rfl⟩,rfl⟩;cases d<;>first|(exact absurd rfl (hu _))|simp[Instr.typeAssert,dD hd]
     |false=>
      refine ee g (v':=y) ?_ ry;cases d<;>first|(exact absurd rfl (hu _))|simp[Instr.typeAssert,dD hd]
   . rename_i ht;split at e
     . rename_i iy;cases hz:zeroOf P t with
       |none=>simp[hz]at e
       |some z=>
        simp only[hz,an]at e;subst e;obtain⟨z',hr,hv,_⟩:=mB (w:=w) E hz;refine ee g (v':=.tuple #[z',.bool false]) ?_ ⟨[z',.bool false],⟨z',_,hv,⟨.bool false,[],rfl,rfl,rfl⟩,rfl⟩,rfl⟩;cases d<;>first|(exact absurd rfl (hu _))|simp[Instr.typeAssert,dD hd,iy,hr,ht]
     . cases e
 . cases e
end
end
def oy(E:Env):Option V->Option Value->Prop
 |none,y=>y=none
 |some x,y=>∃y',dK E x y'/\y=some y'
section
variable{P:Program}{E:Env}{h:H lf}{n:Nat}{w:World}
theorem wh{d y r:Nat}{x:V}{x':Value}{c:BoundsCode}(e:eO d y (some x)=some r)(rx:dK E x x'):
  (Instr.sliceBound x' y c).run P w= .ok r w/\r<=y:=by
 unfold eO at e;split at e
 . rename_i q;cases q
 . rename_i k i q;cases q;simp only[dK]at rx;subst rx;split at e
   . rename_i hb;obtain rfl:=ek e;refine⟨?_,K⟩;simp[Instr.sliceBound,asIntOf,hb.1,hb.2]
   . cases e
 . cases e
theorem mM{Ub:Bool}{T A l hh m:Nat}{lo hi mx:Option V}{UE kI UF:Option Value}(rl:oy E lo UE)(rh:oy E hi kI)(rm:oy E mx UF)
  (hmh:mx=none\/hi≠none) (e1:eO A A mx=some m) (e2:eO T m hi=some hh) (e3:eO 0 hh lo=some l) (iQ:T<=A):
  (Instr.sliceBounds Ub T A UE kI UF).run P w= .ok (l,hh,m) w/\l<=hh/\hh<=m/\m<=A:=by
 have low:∀c,((match UE with|some v=>Instr.sliceBound v hh c|none=>pure 0):Sem Nat).run P w= .ok l w/\l<=hh:=by
  intro c;cases lo with
  |none=>simp only[oy]at rl;subst rl;simp only[eO,an]at e3;subst e3;exact⟨rfl,aX _⟩
  |some x=>obtain⟨x',rx,rfl⟩:=rl;exact wh e3 rx
 cases mx with
 |none=>
  simp only[oy]at rm;subst rm;simp only[eO,an]at e1;subst e1;cases hi with
  |none=>
   simp only[oy]at rh;subst rh;simp only[eO,an]at e2;subst e2;obtain⟨N,B⟩:=low .sliceB;refine⟨?_,B,iQ,aA _⟩;cases UE<;>simp_all [Instr.sliceBounds]
  |some x=>
   obtain⟨x',rx,rfl⟩:=rh;obtain⟨p1,p2⟩:=wh (P:=P) (w:=w) (c:=if Ub then .sliceAcap else .sliceAlen) e2 rx;obtain⟨N,B⟩:=low .sliceB;refine⟨?_,B,p2,aA _⟩;cases UE<;>simp_all [Instr.sliceBounds]
 |some y=>
  obtain⟨y',ry,rfl⟩:=rm;obtain⟨p1,p2⟩:=wh (P:=P) (w:=w) (c:=if Ub then .slice3Acap else .slice3Alen) e1 ry;cases hi with
  |none=>rcases hmh with q|q<;>simp at q
  |some x=>
   obtain⟨x',rx,rfl⟩:=rh;obtain⟨q1,q2⟩:=wh (P:=P) (w:=w) (c:=.slice3B) e2 rx;obtain⟨N,B⟩:=low .slice3C;refine⟨?_,B,q2,p2⟩;cases UE<;>simp_all [Instr.sliceBounds]
theorem Gf(s:L)(l hh:Nat):(⟨s.toArray⟩:ByteArray).extract l hh=⟨((s.take hh).drop l).toArray⟩:=by
 apply ByteArray.ext;simp[List.extract_eq_take_drop,List.drop_take]
theorem Qh{t:TypeId}{x v:V}{x':Value}{lo hi mx:Option V}{UE kI UF:Option Value}(g:Good E h w)(r:dK E x x')(rl:oy E lo UE)(rh:oy E hi kI)(rm:oy E mx UF)
  (e:mH P t h x lo hi mx=some v):kz P E h n w (do pure (.value (<- Instr.sliceAt t x' UE kI UF))) (.val v h n):=by
 unfold mH at e;split at e
 . cases e
 . rename_i adL;have hmh:mx=none\/hi≠none:=by
    cases mx with
    |none=>exact .inl rfl
    |some _=>cases hi with
     |none=>simp at adL
     |some _=>exact .inr (by simp)
   clear adL;split at e
   . rename_i s hu;cases mx with
     |some _=>simp at e
     |none=>
      simp only[oy]at rm;subst rm;simp only at e;simp only[dK]at r;subst r;cases B:eO s.length s.length hi with
      |none=>simp[B]at e
      |some hh=>
       simp only[B]at e;cases h3:eO 0 hh lo with
       |none=>simp[h3]at e
       |some l=>
        simp only[h3,an]at e;subst e;have l8:(⟨s.toArray⟩:ByteArray).size=s.length:=by show s.toArray.size=_;simp
        obtain⟨q,q1,q2,_⟩:=mM (P:=P) (w:=w) (Ub:=false) (T:=s.length) (A:=s.length) (mx:=none) (UF:=none) rl rh rfl (.inl rfl) rfl B h3 (aA _);refine ee g (v':=.string ⟨((s.take hh).drop l).toArray⟩) ?_ rfl;simp only[Sem.run_bind,Instr.sliceAt,dD hu,Result.andThen_ok,Instr.slice,Option.isSome_none,aO,cI,l8,q,Sem.run_pure,Gf s l hh]
   . rename_i el a T A jC hu;split at e
     . rename_i s hs;split at e
       . rename_i hse;cases N:eO A A mx with
         |none=>simp[N]at e
         |some m=>
          simp only[N]at e;cases B:eO T m hi with
          |none=>simp[B]at e
          |some hh=>
           simp only[B]at e;cases h3:eO 0 hh lo with
           |none=>simp[h3]at e
           |some l=>
            simp only[h3,an]at e;subst e;cases a with
            |none=>
             obtain⟨rfl,rfl,rfl⟩:=r;obtain⟨q,q1,q2,q3⟩:=mM (P:=P) (w:=w) (Ub:=true) rl rh rm hmh N B h3 (aA _);have W:m=0:=by omega
             have hh0:hh=0:=by omega
             have wj:l=0:=by omega
             subst W;subst hh0;subst wj;refine ee g (v':=.slice none 0 0) ?_ ⟨rfl,rfl,rfl⟩;simp only[Sem.run_bind,Instr.sliceAt,dD hu,Result.andThen_ok,Instr.slice,q,fe hs,Sem.run_pure];rfl
            |some a=>
             obtain⟨bm,o⟩:=a
             have hse:s=jC:=by rcases hse with q|q;. exact q
                               . cases q
             subst hse;obtain⟨b,sh,o',gp,kI,c1,c2,c3,c4,rfl⟩:=r;cases mx with
             |none=>
              simp only[oy]at rm;subst rm;simp only[eO,an]at N;subst N;have UG:eO T gp hi=some hh:=by
               cases hi with
               |none=>exact B
               |some y=>
                unfold eO at B ⊢;split at B
                . rename_i q;cases q
                . rename_i k i q;cases q;split at B
                  . rename_i hb;rw[aH ⟨hb.1,K⟩];exact B
                  . cases B
                . cases B
              obtain⟨q,q1,q2,q3⟩:=mM (P:=P) (w:=w) (Ub:=true) (mx:=none) (UF:=none) (A:=gp) rl rh rfl (.inl rfl) rfl UG h3 K;have hhc:hh<=A:=by
               cases hi with
               |none=>simp only[eO,an]at B;omega
               |some y=>
                unfold eO at B;split at B
                . rename_i q;cases q
                . rename_i k i q;cases q;split at B
                  . rename_i hb;simp only[an]at B;omega
                  . cases B
                . cases B
              refine ee g (v':=.slice (if gp=l then some ⟨b,o',none⟩else some ⟨b,o'+l*s,none⟩) (hh-l) (gp-l)) ?_ ?_
              . simp only[Sem.run_bind,Instr.sliceAt,dD hu,Result.andThen_ok,Instr.slice,q,fe hs,Sem.run_pure,bj,Addr.ji]
              . by_cases oO:gp=l
                . rw[aH oO];refine⟨b,sh,o',gp-l,kI,fun q=>by omega,K,K,?_,rfl⟩;rw[oO];simp;omega
                . rw[aI oO];refine⟨b,sh,o'+l*s,gp-l,kI,fun q=>?_,K,K,?_,rfl⟩
                  . rw[c1 K];omega
                  . have W:l*s+(gp-l)*s=gp*s:=by rw[<- cP];congr 1;omega
                    omega
             |some y=>
              obtain⟨y',ry,rfl⟩:=rm;have mA:eO gp gp (some y)=some m:=by
               unfold eO at N ⊢;split at N
               . rename_i q;cases q
               . rename_i k i q;cases q;split at N
                 . rename_i hb;rw[aH ⟨hb.1,K⟩];exact N
                 . cases N
               . cases N
              have hmc:m<=A:=by
               unfold eO at N;split at N
               . rename_i q;cases q
               . rename_i k i q;cases q;split at N
                 . rename_i hb;simp only[an]at N;omega
                 . cases N
               . cases N
              obtain⟨q,q1,q2,q3⟩:=mM (P:=P) (w:=w) (Ub:=true) (A:=gp) rl rh (mx:=some y) (UF:=some y') ⟨y',ry,rfl⟩ hmh mA B h3 K;refine ee g (v':=.slice (if m=l then some ⟨b,o',none⟩else some ⟨b,o'+l*s,none⟩) (hh-l) (m-l)) ?_ ?_
              . simp only[Sem.run_bind,Instr.sliceAt,dD hu,Result.andThen_ok,Instr.slice,q,fe hs,Sem.run_pure,bj,Addr.ji]
              . by_cases oO:m=l
                . rw[aH oO];refine⟨b,sh,o',m-l,kI,fun q=>by omega,K,K,?_,rfl⟩;rw[oO];simp;omega
                . rw[aI oO];refine⟨b,sh,o'+l*s,m-l,kI,fun q=>?_,K,aA _,?_,rfl⟩
                  . rw[c1 K];omega
                  . have W:l*s+(m-l)*s=m*s:=by rw[<- cP];congr 1;omega
                    have hm2:m*s<=gp*s:=ct _ K;omega
       . cases e
     . cases e
   . rename_i el f T C hu;have mK:∀{y A r:Nat} {o:Option V},eO y y o=some r->y<=A->o≠none->eO A A o=some r/\r<=y:=fun {y A r o} q hq fU=>by
      cases o with
      |none=>exact absurd rfl fU
      |some v=>
       cases v with
       |int k i=>
        simp only[eO]at q ⊢;split at q
        . rename_i hb;obtain rfl:=ek q;exact⟨aH ⟨hb.1,K⟩,K⟩
        . cases q
       |_=>simp only[eO]at q;cases q
     split at e
     . rename_i s hs;split at e
       . rename_i oO;obtain⟨⟨a,A,vs,rfl,nP,hd,h0,mL⟩,yN⟩:=r;have key:∀(l hh m:Nat),l<=hh->hh<=T->hh<=m->∀(f':Bool),(f'=true->m=hh)->
           dK E (.dS f' (hh-l) ((C.drop (l*s)).take ((hh-l)*s))) (.slice (if m=l then a else a.map (·.add (l*s))) (hh-l) (m-l)):=by
          intro l hh m k1 k2 k3 f' hf';refine⟨⟨_,_,(vs.drop (l*s)).take ((hh-l)*s),rfl,K,tn (oh hd),fun q=>by rw[q];simp,fun q=>?_⟩,fun q=>⟨_,by rw[hf' q]⟩⟩;obtain⟨b,o,c,rfl,BP,I⟩:=mL K;refine⟨b,o+l*s,c,?_,BP,fun j w hw=>?_⟩
          . rw[aI K];simp[Addr.ji]
          . rw[bP]at hw;split at hw
            . rw[bJ]at hw;rw[<- I _ w hw,cD]
            . cases hw
         cases mx with
         |none=>
          simp only[oy]at rm;subst rm;simp only at e;cases B:eO T T hi with
          |none=>simp[B]at e
          |some hh=>
           simp only[B]at e;cases h3:eO 0 hh lo with
           |none=>simp[h3]at e
           |some l=>
            simp only[h3,an]at e;subst e;have UG:eO T A hi=some hh/\hh<=T:=by
             cases hi with
             |none=>simp only[eO,an]at B ⊢;exact⟨B,K⟩
             |some y=>
              obtain⟨q1,q2⟩:=mK B nP (by simp);exact⟨by cases y<;>exact q1,q2⟩
            obtain⟨q,q1,q2,q3⟩:=mM (P:=P) (w:=w) (Ub:=true) (mx:=none) (UF:=none) (A:=A) rl rh rfl (.inl rfl) rfl UG.1 h3 nP;refine ee g (v':=.slice (if A=l then a else a.map (·.add (l*s))) (hh-l) (A-l)) ?_ (key l hh A q1 UG.2 q2 _ fun hf=>?_)
            . simp only[Sem.run_bind,Instr.sliceAt,dD hu,Result.andThen_ok,Instr.slice,q,fe hs,Sem.run_pure]
            . simp only[aC,Bool.not_eq_true',Option.isSome_eq_false_iff,Option.isNone_iff_eq_none]at hf;obtain⟨hf1,rfl⟩:=hf;simp only[eO,an]at B;obtain⟨a',ha'⟩:=yN hf1;simp only[Value.slice.injEq]at ha';omega
         |some y=>
          simp only at e;cases N:eO T T (some y)with
          |none=>simp[N]at e
          |some m=>
           simp only[N]at e;cases B:eO T m hi with
           |none=>simp[B]at e
           |some hh=>
            simp only[B]at e;cases h3:eO 0 hh lo with
            |none=>simp[h3]at e
            |some l=>
             simp only[h3]at e;split at e
             . rename_i hhm;obtain rfl:=ek e;obtain⟨k1,k2⟩:=mK N nP (by simp);obtain⟨q,q1,q2,q3⟩:=mM (P:=P) (w:=w) (Ub:=true) (A:=A) rl rh rm hmh k1 B h3 nP;refine ee g (v':=.slice (if m=l then a else a.map (·.add (l*s))) (hh-l) (m-l)) ?_ (key l hh m q1 K q2 _ fun _=>hhm.symm);simp only[Sem.run_bind,Instr.sliceAt,dD hu,Result.andThen_ok,Instr.slice,q,fe hs,Sem.run_pure]
             . cases e
       . cases e
     . cases e
   . rename_i T el bm o hu;split at e
     . rename_i s hs;cases N:eO T T mx with
       |none=>simp[N]at e
       |some m=>
        simp only[N]at e;cases B:eO T m hi with
        |none=>simp[B]at e
        |some hh=>
         simp only[B]at e;cases h3:eO 0 hh lo with
         |none=>simp[h3]at e
         |some l=>
          simp only[h3]at e;split at e
          . rename_i hb;obtain rfl:=ek e;obtain⟨Ga,UH,iH⟩:=hb;unfold yy at iH;split at iH
            . rename_i C W;have hlc:o+T*s<=C.length:=by simpa using iH
              obtain⟨b,sh,kI,rfl⟩:=r;obtain⟨b',sh',zX,c,UI,fz,wY,l8,_,EO⟩:=g.rel bm _ W;rw[kI]at zX;cases zX;obtain⟨q,q1,q2,q3⟩:=mM (P:=P) (w:=w) (Ub:=false) rl rh rm hmh N B h3 (aA _);refine ee g (v':=.slice (some (if m=l then⟨b,sh+o,none⟩else⟨b,sh+o+l*s,none⟩)) (hh-l) (m-l)) ?_ ?_
              . simp only[Sem.run_bind,Instr.sliceAt,dD hu,Result.andThen_ok,Instr.sureAddr,q,fe hs,Sem.run_pure,Addr.ji]
              . have Ag:sh+o+m*s<=E.β b:=by
                 have mL:0<T*s:=Nat.mul_pos UH Ga;have yO:=ot EO (k:=o+T*s) K hlc;have H8:m*s<=T*s:=ct _ q3;omega
                by_cases oO:m=l
                . rw[aH oO];refine⟨b,sh,sh+o,m-l,kI,fun q=>by omega,K,K,?_,rfl⟩;rw[oO];simp;omega
                . rw[aI oO];refine⟨b,sh,sh+o+l*s,m-l,kI,fun q=>by omega,K,aA _,?_,rfl⟩;have W:l*s+(m-l)*s=m*s:=by rw[<- cP];congr 1;omega
                  omega
            . cases iH
          . cases e
     . cases e
   . cases e
end
end Go.Eng
