/- The engine: the variables of the program that are known (number, name). No conditions. -/
import GoSem.Core.Ast
import Derived.WalkKit
import Derived.Orders
set_option linter.unusedVariables false
set_option linter.unusedSimpArgs false
set_option linter.unusedSectionVars false
namespace Go.Eng
def jN:List (Nat×Nat):=[(0,0),(1,1),(2,2)]
open Go
abbrev an:=@Option.some.injEq
abbrev aq:=@List.mem_singleton
abbrev au:=@Nat.le_of_ble_eq_true
abbrev ax:=@List.length_append
abbrev ay:=@List.getElem?_eq_getElem
abbrev az:=@Int.natCast_nonneg
abbrev aA:=@Nat.le_refl
abbrev aB:=@Prod.mk.injEq
abbrev aC:=@Bool.and_eq_true
abbrev aD:=@Nat.eq_of_beq_eq_true
abbrev aE:=@List.mem_cons
abbrev aF:=@List.getElem?_eq_some_iff
abbrev aG:=@if_pos
abbrev aH:=@of_decide_eq_true
abbrev aI:=@if_neg
abbrev aJ:=@of_decide_eq_false
abbrev aK:=@List.mem_cons_of_mem
abbrev aL:=@List.getD_eq_getElem?_getD
abbrev aM:=@List.not_mem_nil
abbrev aN:=@congrArg
abbrev aO:=@Bool.false_eq_true
abbrev aP:=@List.mem_cons_self
abbrev aQ:=@Array.getElem?_eq_some_iff
abbrev aS:=@List.take_length
abbrev aT:=@List.length_cons
abbrev aU:=@List.mem_append
abbrev aW:=@List.length_map
abbrev aX:=@List.length_take
abbrev aY:=@Nat.zero_le
abbrev aZ:=@List.map_append
abbrev bf:=@List.mem_of_getElem?
abbrev bg:=@Option.ne_none_iff_exists'
abbrev bh:=@Option.map_some
abbrev bj:=@Nat.mul_one
abbrev bk:=@Array.getElem?_eq_getElem
abbrev bn:=@List.all_eq_true
abbrev bq:=@List.take_of_length_le
abbrev br:=@List.getElem?_map
abbrev bt:=@or_false
abbrev bu:=@List.drop_zero
abbrev bw:=@decide_eq_false
abbrev bz:=@List.getElem?_append_left
abbrev bA:=@List.append_assoc
abbrev bB:=@List.mem_map
abbrev bC:=@decide_eq_true_eq
abbrev bD:=@Nat.lt_of_lt_of_le
abbrev bE:=@Nat.zero_add
abbrev bF:=@List.drop_eq_getElem_cons
abbrev bG:=@List.getElem?_cons_zero
abbrev bH:=@List.getElem?_drop
abbrev bI:=@List.take_add_one
abbrev bJ:=@List.length_replicate
abbrev bK:=@Array.getElem?_toList
abbrev bL:=@List.getElem?_take
abbrev bM:=@decide_eq_true
abbrev bN:=@Nat.lt_or_ge
abbrev bO:=@List.length_nil
abbrev bP:=@List.getElem?_eq_none
abbrev bQ:=@List.take_append_of_le_length
abbrev bR:=@Array.getElem?_append_left
abbrev bS:=@List.getElem?_append
abbrev bT:=@Bool.or_eq_true
abbrev bU:=@Nat.le_trans
abbrev bV:=@List.mem_iff_getElem?
abbrev bW:=@List.map_cons
abbrev bX:=@List.length_drop
abbrev bY:=@List.getElem_mem
abbrev bZ:=@List.mem_append_right
abbrev b7:=@Array.getD_eq_getD_getElem?
abbrev b9:=@Option.isSome_iff_exists
abbrev cg:=@List.nodup_cons
abbrev cj:=@List.getElem?_append_right
abbrev ck:=@List.take_append_drop
abbrev cm:=@Array.getElem?_modify
abbrev cn:=@Nat.mul_le_mul_right
abbrev cq:=@List.forall_mem_cons
abbrev cr:=@List.flatten_append
abbrev ct:=@List.append_nil
abbrev cu:=@List.getElem?_cons_succ
abbrev cz:=@Int.tmod_eq_emod_of_nonneg
abbrev cA:=@Nat.add_assoc
abbrev cB:=@Option.toList_some
abbrev cC:=@Option.some.inj
abbrev cD:=@List.nil_append
abbrev cE:=@beq_self_eq_true
abbrev cF:=@Nat.lt_irrefl
abbrev cG:=@if_false
abbrev cH:=@List.length_eq_zero_iff
abbrev cI:=@Nat.mod_two_eq_zero_or_one
abbrev cJ:=@List.mem_append_left
abbrev cK:=@Int.fdiv_eq_ediv_of_nonneg
abbrev cL:=@List.map_take
abbrev cM:=@Nat.beq_refl
abbrev cN:=@Nat.add_mul
abbrev aa:=List UInt8
abbrev ah:=List Prop
abbrev aj:=IntKind.i64
theorem U{α:Sort _}{a b:α}(h:a=b:=by kernel_rfl):a=b:=h
section
variable{p:Prop}{α:Type _}
theorem be(h:p:=by omega):p:=h
theorem dP(h:p:=by decide):p:=h
theorem ai7(n:Nat):Int.ofNat n=(n:Int):=rfl
theorem dh(h:p:=by simp only[ai7];omega):p:=h
theorem dG{α:Type}{a:α}{C Q:α->Prop}(h:Q a):∀g∈[a],C g->Q g:=fun _ hg _=>aq.1 hg▸h
theorem ju{l:ah}(h:p)(t:∀a∈l,a):∀a∈p::l,a:=cq.2 ⟨h,t⟩
theorem ew{a b:α}(h:some a=some b):a=b:=cC h
theorem fa{β:Type _}{a c:α}{b d:β}(h:some (a,b)=some (c,d)):a=c/\b=d:=Prod.mk.inj (cC h)
end
inductive D where
 |bool (b:Bool)
 |int (k:IntKind) (n:Int)
 |str (s:aa)
 |dM (n:Nat) (cs:List D)
 |agg (cs:List D)
 deriving Inhabited
abbrev ae:=List (D×D)
abbrev ai:=List D
inductive V where
 |bool (b:Bool)
 |int (k:IntKind) (n:Int)
 |str (s:aa)
 |ptr (a:Option (Nat×Nat))
 |di (a:Option (Nat×Nat)) (cO cP jv:Nat)
 |map (r:Option Nat)
 |fn (f:Fn) (first captured:List V)
 |kE
 |iface (t:TypeId) (v:V)
 |nilIface
 |agg (cs:List V)
 |ef (vs:List V)
 |dM (f:Bool) (n:Nat) (cs:ai)
 |dw (cs:ai)
 deriving Inhabited
abbrev ag:=List V
mutual
def D.iL:D->V
 | .bool b=>.bool b
 | .int k n=>.int k n
 | .str s=>.str s
 | .dM n cs=>.dM false n cs
 | .agg cs=>.agg (D.jO cs)
def D.jO:ai->ag
 | []=>[]
 |x::xs=>x.iL::D.jO xs
end
theorem D.gx:∀l:ai,D.jO l=l.map D.iL
 | []=>rfl
 |x::xs=>by rw[D.jO,D.gx xs];rfl
def D.scalar:D->Bool
 | .agg _=>false
 |_=>true
mutual
def V.PC:V->Option D
 | .bool b=>some (.bool b)
 | .int k n=>some (.int k n)
 | .str s=>some (.str s)
 | .dM _ n cs=>some (.dM n cs)
 | .di none _ _ _=>some (.dM 0 [])
 | .di (some _) 0 _ _=>some (.dM 0 [])
 | .agg cs=>match V.PD cs with
   |some l=>some (.agg l)
   |none=>none
 |_=>none
def V.PD:ag->Option (ai)
 | []=>some []
 |x::xs=>match V.PC x with
  |some d=>match V.PD xs with
   |some l=>match d.scalar with
    |true=>some (d::l)
    |false=>none
   |none=>none
  |none=>none
end
inductive Tr(α:Type) where
 |nil
 |node (v:Option α) (l r:Tr α)
 deriving Inhabited
inductive O where
 |cells (cs:ag)
 |map (es:List (V×V×Nat)) (eo:Nat)
 |nE (s:aa) (pos:Nat)
 |ints (k:IntKind) (ks:List Int)
 |own (k:IntKind) (ks:List Int)
 |deep (cs:ai)
 |iX (el:TypeId) (AL:Bool) (s:aa)
 |Bp (t:TypeId) (self:Bool) (x:V)
 |dy (kd:Option IntKind) (es:ae)
 |mA
 |loop (st:Bool) (pe:Option Code) (fr:Tr V) (ps:List Nat) (assign body:Code)
 deriving Inhabited
abbrev af:=List (Nat×O)
def O.wr:O->Bool
 | .ints _ _=>false
 |_=>true
def Tr.get{α:Type}:Tr α->Nat->Option α
 | .nil,_=>none
 | .node v l r,k=>
   match k with
   |0=>v
   |k+1=>match k%2 with
    |0=>l.get (k/2)
    |_=>r.get (k/2)
def Tr.ru{α:Type}:Nat->Tr α->Nat->Option α->Tr α
 |0,t,_,_=>t
 |f+1,.nil,k,x=>
  match k with
  |0=>.node x .nil .nil
  |k+1=>match k%2 with
   |0=>.node none (Tr.ru f .nil (k/2) x) .nil
   |_=>.node none .nil (Tr.ru f .nil (k/2) x)
 |f+1,.node v l r,k,x=>
  match k with
  |0=>.node x l r
  |k+1=>match k%2 with
   |0=>.node v (Tr.ru f l (k/2) x) r
   |_=>.node v l (Tr.ru f r (k/2) x)
def fN:Nat:=4294967296
def Tr.set{α:Type}(t:Tr α)(k:Nat)(x:Option α):Tr α:=Tr.ru 33 t k x
def iE:Value->Option V
 | .bool b=>some (.bool b)
 | .int k n=>some (.int k n)
 | .string s=>some (.str s.data.toList)
 | .pointer none=>some (.ptr none)
 | .slice none 0 0=>some (.di none 0 0 0)
 | .map none=>some (.map none)
 | .nilFunc=>some .kE
 | .nilIface=>some .nilIface
 |_=>none
def nL:List Value->Option (ag)
 | []=>some []
 |v::vs=>match iE v with
  |some x=>match nL vs with
   |some xs=>some (x::xs)
   |none=>none
  |none=>none
def Ml:Value->Option V
 | .agg cs=>match nL cs.toList with
   |some xs=>some (.agg xs)
   |none=>none
 |v=>iE v
def V.cells:V->ag
 | .agg cs=>cs
 |v=>[v]
def V.scalar:V->Bool
 | .agg _ | .ef _=>false
 |_=>true
def kN(P:Program)(t:TypeId):Option Nat:=(P.info? t).map (·.size)
def zeroOf(P:Program)(t:TypeId):Option V:=
 match P.info? t with
 |some i=>match i.zero with
  |some v=>Ml v
  |none=>none
 |none=>none
def NH(P:Program)(t:TypeId):Option Bool:=
 match P.underlying t with
 |some (.struct _)=>some true
 |some (.array _ _)=>some true
 |some _=>some false
 |none=>none
inductive R where
 |val (v:V) (h:Tr O) (n:Nat)
 |call (f:FuncId) (args:ag)
 |mA (f:FuncId) (captured args:ag)
 |recover
 |panic (v:V)
section
variable(h:Tr O)(cs:ag)(n o:Nat)
def mS:Option V->Option R
 |some v=>some (.val v h n)
 |none=>none
def newObj(o:O):Option (Tr O×Nat):=
 if n<fN then some (h.set n (some o),n+1)else none
def cut(size:Nat):Option (ag):=
 if o+size<=cs.length then some ((cs.drop o).take size)else none
def B2(new:ag):Option (ag):=
 if o+new.length<=cs.length then some (cs.take o++(new++cs.drop (o+new.length)))else none
end
def lj(P:Program)(t:TypeId)(cs:ag)(o:Nat):Option V:=
 match NH P t with
 |some true=>match kN P t with
  |some s=>(cut cs o s).map .agg
  |none=>none
 |some false=>cs[o]?
 |none=>none
def uv(m:Nat)(self:Bool)(x:V):ag:=[if self then .ptr (some (m,0))else .ptr none,x]
def B3(P:Program)(t:TypeId)(z:V):O:=match z.cells with
 | [.ptr none,.di none 0 0 0]=>match P.underlying t with
   |some (.struct fs)=>match fs[0]? with
    |some f=>match P.underlying f.type with
     |some (.pointer t')=>if Nat.beq t' t then .Bp t false (.di none 0 0 0)else .cells z.cells
     |_=>.cells z.cells
    |none=>.cells z.cells
   |_=>.cells z.cells
 |_=>.cells z.cells
def loadAt(P:Program)(t:TypeId)(h:Tr O):V->Option V
 | .ptr (some (m,o))=>match h.get m with
   |some (.cells cs)=>lj P t cs o
   |some (.ints k ks)=>lj P t (ks.map (.int k)) o
   |some (.own k ks)=>lj P t (ks.map (.int k)) o
   |some (.deep cs)=>lj P t (D.jO cs) o
   |some (.Bp _ self x)=>lj P t (uv m self x) o
   |_=>none
 | .dw cs=>lj P t (D.jO cs) 0
 |_=>none
inductive Row where
 |vs (cs:ag)
 |is (k:IntKind) (ks:List Int)
 |ds (cs:ai)
def Row.iL:Row->ag
 | .vs cs=>cs
 | .is k ks=>ks.map (.int k)
 | .ds cs=>D.jO cs
def Row.EC:Row->O
 | .vs cs=>.cells cs
 | .is k ks=>.own k ks
 | .ds cs=>.deep cs
def O.row:O->Option Row
 | .cells cs=>some (.vs cs)
 | .own k ks=>some (.is k ks)
 | .deep cs=>some (.ds cs)
 |_=>none
def O.NI:O->Option Row
 | .cells cs=>some (.vs cs)
 | .own k ks=>some (.is k ks)
 | .ints k ks=>some (.is k ks)
 | .deep cs=>some (.ds cs)
 |_=>none
def ia:ag->Option (ai)
 | []=>some []
 |x::r=>match(match x with
  | .bool b=>some (.bool b)
  | .int k n=>some (.int k n)
  | .str s=>some (.str s)
  | .dM _ n cs=>some (.dM n cs)
  | .di none _ _ _=>some (.dM 0 [])
  |_=>none:Option D)with
  |some d=>match ia r with
   |some l=>some (d::l)
   |none=>none
  |none=>none
def oT(k:IntKind):ag->Option (List Int)
 | []=>some []
 | .int k' x::r=>match decide (k'=k),oT k r with
   |true,some l=>some (x::l)
   |_,_=>none
 |_::_=>none
def Row.app:Row->Row->Row
 | .vs a,.vs b=>.vs (a++b)
 | .is k a,.is k' b=>match decide (k'=k)with
   |true=>.is k (a++b)
   |false=>.vs (a.map (.int k)++b.map (.int k'))
 | .is k a,.vs b=>match oT k b with
   |some l=>.is k (a++l)
   |none=>.vs (a.map (.int k)++b)
 | .vs a,.is k b=>match oT k a with
   |some l=>.is k (l++b)
   |none=>.vs (a++b.map (.int k))
 | .ds a,.ds b=>.ds (a++b)
 | .ds a,.vs b=>match ia b with
   |some l=>.ds (a++l)
   |none=>.vs (D.jO a++b)
 | .vs a,.ds b=>match ia a with
   |some l=>.ds (l++b)
   |none=>.vs (a++D.jO b)
 | .ds a,.is k b=>.ds (a++b.map (.int k))
 | .is k a,.ds b=>.ds (a.map (.int k)++b)
def Row.cut(o size:Nat):Row->Option Row
 | .vs cs=>match Eng.cut cs o size with
   |some r=>some (.vs r)
   |none=>none
 | .is k ks=>if o+size<=ks.length then some (.is k ((ks.drop o).take size))else none
 | .ds cs=>if o+size<=cs.length then some (.ds ((cs.drop o).take size))else none
def Row.soft:Row->Bool
 | .ds _=>true
 |_=>false
def Row.flat:Row->Bool
 | .vs cs=>cs.all V.scalar
 | .is _ _=>true
 | .ds _=>true
def wL(ks:ai)(o:Nat)(new:ai):ai:=ks.take o++(new++ks.drop (o+new.length))
def fS(ks:List Int)(o:Nat)(new:List Int):List Int:=ks.take o++(new++ks.drop (o+new.length))
def storeAt(P:Program)(t:TypeId)(h:Tr O)(v:V):V->Option (Tr O)
 | .ptr (some (m,o))=>match h.get m with
   |some (.cells cs)=>
    match kN P t with
    |some s=>
     if v.cells.length=s/\0<s/\m<fN/\v.cells.all V.scalar=true then
      match B2 cs o v.cells with
      |some cs'=>some (h.set m (some (.cells cs')))
      |none=>none
     else none
    |none=>none
   |some (.own k ks)=>
    match kN P t with
    |some s=>
     if v.cells.length=s/\0<s/\m<fN then
      match oT k v.cells with
      |some new=>if o+s<=ks.length then some (h.set m (some (.own k (fS ks o new))))else none
      |none=>none
     else none
    |none=>none
   |some (.deep cs)=>
    match kN P t with
    |some s=>
     if v.cells.length=s/\0<s/\m<fN then
      match ia v.cells with
      |some new=>if o+s<=cs.length then some (h.set m (some (.deep (wL cs o new))))else none
      |none=>none
     else none
    |none=>none
   |some (.Bp T self _)=>match kN P t,v.cells with
    |some 1,[x]=>if o=1/\m<fN/\x.scalar=true then some (h.set m (some (.Bp T self x)))else none
    |_,_=>none
   |_=>none
 |_=>none
def rL(yd:Nat->Option (Nat×Nat)):ag->List (Nat×V)->Option (ag)
 |cells,[]=>some cells
 |cells,(i,v)::rest=>
  match yd i with
  |none=>none
  |some (off,size)=>
   if v.cells.length=size then
    match B2 cells off v.cells with
    |some qe=>rL yd qe rest
    |none=>none
   else none
def sN(P:Program):List Field->Option (List (Nat×Nat))
 | []=>some []
 |f::fs=>match kN P f.type with
  |some s=>match sN P fs with
   |some r=>some ((f.offset,s)::r)
   |none=>none
  |none=>none
def JY(P:Program)(t:TypeId)(parts:List (Nat×V)):Option V:=
 match zeroOf P t,P.underlying t with
 |some z,some (.struct nM)=>
  match sN P nM.toList with
  |some uw=>(rL (fun i=>uw[i]?) z.cells parts).map .agg
  |none=>none
 |some z,some (.array _ Uc)=>
  match kN P Uc with
  |some s=>(rL (fun i=>some (i*s,s)) z.cells parts).map .agg
  |none=>none
 |_,_=>none
def gQ(z:ag):Nat->ag
 |0=>[]
 |n+1=>z++gQ z n
def ux(P:Program)(t:TypeId):Option TypeId:=
 match P.underlying t with
 |some (.slice e)=>some e
 |_=>none
def oy(P:Program)(t:TypeId)(cO:Nat)(parts:List (Nat×V))(h:Tr O)(n:Nat):Option R:=
 match ux P t with
 |some e=>match kN P e,zeroOf P e with
  |some s,some z=>
   if 0<s/\cO*s<=16777216/\z.cells.length=s then
    match rL (fun i=>some (i*s,s)) (gQ z.cells cO) parts with
    |some cs=>match newObj h n (.cells cs)with
     |some (h',n')=>some (.val (.di (some (n,0)) cO cO s) h' n')
     |none=>none
    |none=>none
   else none
  |_,_=>none
 |none=>none
def sO:Sem Value->Option V
 | .pure v=>iE v
 |_=>none
def eG:aa->aa->Bool
 | [],[]=>true
 |a::x,b::y=>match Nat.beq a.toNat b.toNat with
  |true=>eG x y
  |false=>false
 |_,_=>false
def xe:Nat:=9223372036854775807
def ye:aa->aa->Bool
 |_,[]=>false
 | [],_::_=>true
 |a::x,b::y=>match Nat.blt a.toNat b.toNat with
  |true=>true
  |false=>match Nat.beq a.toNat b.toNat with
   |true=>ye x y
   |false=>false
def PE(op:BinOp)(a b:aa):Option V:=
 match op with
 | .lss=>some (.bool (ye a b))
 | .geq=>some (.bool (!ye a b))
 | .leq=>some (.bool (ye a b||eG a b))
 | .gtr=>some (.bool (!(ye a b||eG a b)))
 | .add=>if a.length+b.length<=xe then some (.str (a++b))else none
 | .eql=>some (.bool (eG a b))
 | .neq=>some (.bool (!eG a b))
 |_=>none
def wM(P:Program)(t:TypeId)(cs:ag)(off:Nat):Option V:=lj P t cs off
def eqFields(P:Program)(eq:TypeId->V->V->Option Bool):List Field->ag->ag->Option Bool
 | [],_,_=>some true
 |f::fs,xs,ys=>
  if f.name ≠ "_" then
   match wM P f.type xs f.offset,wM P f.type ys f.offset with
   |some a,some b=>match eq f.type a b with
    |some true=>eqFields P eq fs xs ys
    |some false=>some false
    |none=>none
   |_,_=>none
  else eqFields P eq fs xs ys
def Mm(P:Program):Nat->TypeId->V->V->Option Bool
 |0,_,_,_=>none
 |d+1,t,x,y=>
  match P.underlying t with
  |some .bool=>match x,y with
   | .bool a,.bool b=>some (a==b)
   |_,_=>none
  |some (.int _)=>match x,y with
   | .int k a,.int k' b=>if k=k' then some (a==b)else none
   |_,_=>none
  |some .string=>match x,y with
   | .str a,.str b=>some (eG a b)
   |_,_=>none
  |some (.pointer el)=>match x,y with
   | .ptr none,.ptr b=>some b.isNone
   | .ptr (some _),.ptr none=>some false
   | .ptr (some (m,o)),.ptr (some (m',o'))=>if(m=m'/\o=o')/\(kN P el).isSome=true then some true else none
   | .ptr none,.dw _=>some false
   | .dw _,.ptr none=>some false
   |_,_=>none
  |some (.interface _)=>match x,y with
   | .nilIface,.nilIface=>some true
   | .nilIface,.iface _ _=>some false
   | .iface _ _,.nilIface=>some false
   |_,_=>none
  |some (.struct nM)=>match x,y with
   | .agg xs,.agg ys=>if P.stoodInHeld t then none else eqFields P (fun u a b=>Mm P d u a b) nM.toList xs ys
   |_,_=>none
  |some (.slice _)=>match x,y with
   | .di none _ _ _,.di b _ _ _=>some b.isNone
   | .di (some _) _ _ _,.di none _ _ _=>some false
   | .dM _ n _,.di none _ _ _=>match n with
     |_+1=>some false
     |0=>none
   |_,_=>none
  |some (.map _ _)=>match x,y with
   | .map none,.map b=>some b.isNone
   | .map (some _),.map none=>some false
   |_,_=>none
  |_=>none
def isLit:Operand->Bool
 | .const _=>true
 |_=>false
def FV(P:Program)(t:TypeId)(x y:Operand)(a b:V):Option Bool:=
 match a,b with
 | .nilIface,.nilIface=>if isLit x||isLit y then Mm P 10000 t a b else none
 | .agg _,.agg _=>if P.eqGuardType P.depth t then none else Mm P 10000 t a b
 |_,_=>Mm P 10000 t a b
def B4(P:Program)(op:BinOp)(t:TypeId)(x y:Operand)(a b:V):Option V:=
 match a,b with
 | .int k m,.int k' n=>sO (binOp op t (.int k m) (.int k' n))
 | .str s,.str u=>PE op s u
 |a,b=>match op with
  | .eql=>(FV P t x y a b).map .bool
  | .neq=>(FV P t x y a b).map fun r=>.bool (!r)
  |_=>none
def unV(op:UnOp):V->Option V
 | .int k n=>sO (Op.unary op (.int k n))
 | .bool b=>sO (Op.unary op (.bool b))
 |_=>none
def B5(s:aa):ag:=s.map fun b=>.int .u8 b.toNat
def dX(s:aa):List Int:=s.map fun b=>(b.toNat:Int)
def eN(ks:List Int):aa:=ks.map fun n=>UInt8.ofNat n.toNat
def uy:Option O->Option (aa)
 |some (.iX _ _ s)=>some s
 |_=>none
def AM:Option O->Option (List Int)
 |some (.own .u8 ks)=>some ks
 |some (.ints .u8 ks)=>some ks
 |_=>none
def qO:ag->Option (aa)
 | []=>some []
 | .int .u8 n::vs=>match qO vs with
   |some bs=>some (UInt8.ofNat n.toNat::bs)
   |none=>none
 |_::_=>none
def qf(P:Program)(Mn dst:TypeId)(v:V)(h:Tr O)(n:Nat):Option R:=
 match P.underlying Mn,P.underlying dst,v with
 |some _,some (.int k),.int _ m=>some (.val (.int k (k.wrap m)) h n)
 |some _,some .string,.str s=>some (.val (.str s) h n)
 |some .string,some (.slice e),.str s=>
  match P.underlying e with
  |some (.int .u8)=>match newObj h n (.own .u8 (dX s))with
   |some (h',n')=>some (.val (.di (some (n,0)) s.length s.length 1) h' n')
   |none=>none
  |_=>none
 |some (.slice e),some .string,.dM _ 0 _=>
  match P.underlying e with
  |some (.int .u8)=>some (.val (.str []) h n)
  |_=>none
 |some (.slice e),some .string,.di none _ _ _=>
  match P.underlying e with
  |some (.int .u8)=>some (.val (.str []) h n)
  |_=>none
 |some (.slice e),some .string,.di (some (m,o)) cO _ jv=>
  match P.underlying e with
  |some (.int .u8)=>if jv=1 then(match uy (h.get m)with
   |some s0=>if cO=0\/o+cO<=s0.length then some (.val (.str ((s0.drop o).take cO)) h n)else none
   |none=>match AM (h.get m)with
   |some ks=>if cO=0\/o+cO<=ks.length then some (.val (.str (eN ((ks.drop o).take cO))) h n)else none
   |none=>match cO with
   |0=>some (.val (.str []) h n)
   |_=>match h.get m with
    |some (.cells cs)=>match cut cs o cO with
     |some bs=>match qO bs with
      |some s=>some (.val (.str s) h n)
      |none=>none
     |none=>none
    |_=>none)else none
  |_=>none
 |_,_,_=>none
def tY(ks:List Int):Nat->List Int
 |0=>[]
 |n+1=>ks++tY ks n
def Bq(ks:ai):Nat->ai
 |0=>[]
 |n+1=>ks++Bq ks n
def vJ(z:ag)(n:Nat):Row:=match z with
 | .int k x::r=>match oT k (.int k x::r)with
   |some ks=>.is k (tY ks n)
   |none=>match ia (.int k x::r)with
    |some ds=>.ds (Bq ds n)
    |none=>.vs (gQ (.int k x::r) n)
 |z=>match ia z with
  |some ds=>.ds (Bq ds n)
  |none=>.vs (gQ z n)
def nN(P:Program)(t:TypeId)(l c:V)(h:Tr O)(n:Nat):Option R:=
 match ux P t,l,c with
 |some e,.int _ l,.int _ c=>
  match P.info? e,zeroOf P e with
  |some i,some z=>
   let l':=IntKind.i64.wrap l
   let c':=IntKind.i64.wrap c
   if 0<i.size/\z.cells.length=i.size/\0<=l'/\l'<=c'/\i.bytes*c'<=281474976710656 then
    match newObj h n (vJ z.cells c'.toNat).EC with
    |some (h',n')=>some (.val (.di (some (n,0)) l'.toNat c'.toNat i.size) h' n')
    |none=>none
   else none
  |_,_=>none
 |_,_,_=>none
def eK(uz:Nat)(y:Nat):Option V->Option Nat
 |none=>some uz
 |some (.int _ i)=>if 0<=i/\i<=y then some i.toNat else none
 |some _=>none
def yf(h:Tr O)(m k:Nat):Bool:=
 match h.get m with
 |some (.cells cs)=>decide (k<=cs.length)
 |_=>false
def mD(P:Program)(t:TypeId)(hp:Tr O)(x:V)(lo hi mx:Option V):Option V:=
 if mx.isSome=true/\hi.isSome=false then none else
 match P.underlying t,x with
 |some .string,.str s=>
  match mx with
  |some _=>none
  |none=>match eK s.length s.length hi with
   |some h=>match eK 0 h lo with
    |some l=>some (.str ((s.take h).drop l))
    |none=>none
   |none=>none
 |some (.slice e),.di a cO cP jv=>
  match kN P e with
  |some s=>if s=jv\/a=none then
    match eK cP cP mx with
    |some m=>match eK cO m hi with
     |some h=>match eK 0 h lo with
      |some l=>some (.di (match a with|none=>none|some (b,o)=>some (b,o+l*jv)) (h-l) (m-l) jv)
      |none=>none
     |none=>none
    |none=>none
   else none
  |none=>none
 |some (.slice e),.dM f cO cs=>
  match kN P e with
  |some s=>if cs.length=cO*s then
    match mx with
    |none=>match eK cO cO hi with
     |some h=>match eK 0 h lo with
      |some l=>some (.dM (f&& !hi.isSome) (h-l) ((cs.drop (l*s)).take ((h-l)*s)))
      |none=>none
     |none=>none
    |some m=>match eK cO cO (some m)with
     |some m=>match eK cO m hi with
      |some h=>match eK 0 h lo with
       |some l=>if h=m then some (.dM true (h-l) ((cs.drop (l*s)).take ((h-l)*s)))else none
       |none=>none
      |none=>none
     |none=>none
   else none
  |none=>none
 |some (.array n e),.ptr (some (b,o))=>
  match kN P e with
  |some s=>
   match eK n n mx with
   |some m=>match eK n m hi with
    |some h=>match eK 0 h lo with
     |some l=>if 0<s/\0<n/\yf hp b (o+n*s)=true then some (.di (some (b,o+l*s)) (h-l) (m-l) s)else none
     |none=>none
    |none=>none
   |none=>none
  |none=>none
 |_,_=>none
def xg(P:Program)(t:TypeId)(f:Nat):V->Option V
 | .ptr (some (m,o))=>match P.underlying t with
   |some (.struct fs)=>match fs[f]? with
    |some fd=>match kN P fd.type with
     |some (_+1)=>some (.ptr (some (m,o+fd.offset)))
     |_=>none
    |none=>none
   |_=>none
 | .dw cs=>match P.underlying t with
   |some (.struct fs)=>match fs[f]? with
    |some fd=>match kN P fd.type with
     |some (_+1)=>some (.dw (cs.drop fd.offset))
     |_=>none
    |none=>none
   |_=>none
 |_=>none
def JZ(P:Program)(t:TypeId)(f:Nat):V->Option V
 | .agg cs=>match P.underlying t with
   |some (.struct fs)=>match fs[f]? with
    |some fd=>wM P fd.type cs fd.offset
    |none=>none
   |_=>none
 |_=>none
def nO(P:Program)(t:TypeId)(x ix:V):Option V:=
 match ix with
 | .int _ i=>
   match P.underlying t,x with
   |some (.array cO e),.ptr (some (m,o))=>
    match kN P e with
    |some s=>if 0<=i/\i<cO then some (.ptr (some (m,o+i.toNat*s)))else none
    |none=>none
   |some (.slice e),.di (some (m,o)) cO _ jv=>
    match kN P e with
    |some s=>if 0<=i/\i<cO/\s=jv then some (.ptr (some (m,o+i.toNat*s)))else none
    |none=>none
   |some (.slice e),.dM _ cO cs=>
    match kN P e with
    |some s=>if(0<=i/\i<cO)/\cs.length=cO*s then some (.dw ((cs.drop (i.toNat*s)).take s))else none
    |none=>none
   |some (.array cO e),.dw cs=>
    match kN P e with
    |some s=>if 0<=i/\i<cO then some (.dw (cs.drop (i.toNat*s)))else none
    |none=>none
   |_,_=>none
 |_=>none
def FW(P:Program)(t:TypeId)(x ix:V):Option V:=
 match ix with
 | .int _ i=>
   match P.underlying t,x with
   |some (.array cO e),.agg cs=>
    match kN P e with
    |some s=>if 0<=i/\i<cO then wM P e cs (i.toNat*s)else none
    |none=>none
   |some .string,.str s=>
    if 0<=i then(match s[i.toNat]? with
     |some b=>some (.int .u8 b.toNat)
     |none=>none)else none
   |_,_=>none
 |_=>none
def yg:TypeDesc->V->V->Option Bool
 | .int _,.int k a,.int k' b=>if k=k' then some (a==b)else none
 | .string,.str a,.str b=>some (eG a b)
 |_,_,_=>none
def iR:D->D->Bool
 | .int k a,.int k' b=>decide (k=k')&&decide (a=b)
 | .str a,.str b=>eG a b
 |_,_=>false
def gD:Option IntKind->D->Bool
 |some k,.int k' _=>decide (k'=k)
 |none,.str _=>true
 |_,_=>false
def mE:TypeDesc->Option IntKind->Bool
 | .int k,some k'=>decide (k=k')
 | .string,none=>true
 |_,_=>false
def dj(k:D):ae->Option D
 | []=>none
 |e::es=>match iR k e.1 with
  |true=>some e.2
  |false=>dj k es
def ig(k v:D):ae->ae
 | []=>[(k,v)]
 |e::es=>match iR k e.1 with
  |true=>(k,v)::es
  |false=>e::ig k v es
def lO(k:D):ae->ae
 | []=>[]
 |e::es=>match iR k e.1 with
  |true=>es
  |false=>e::lO k es
def D.fZ(z:V):Option D->V
 |some d=>d.iL
 |none=>z
def keyOf:V->Option D
 | .int k n=>some (.int k n)
 | .str s=>some (.str s)
 |_=>none
def uA(kd:TypeDesc)(k:V):List (V×V×Nat)->Nat->Option (Option (Nat×V×V×Nat))
 | [],_=>some none
 |e::es,i=>
  match yg kd k e.1 with
  |some true=>some (some (i,e))
  |some false=>uA kd k es (i+1)
  |none=>none
def B6:TypeDesc->V->Bool
 | .int _,.int _ _=>true
 | .string,.str _=>true
 |_,_=>false
def V.Xp(h:Tr O):V->Option O
 | .map (some r)=>h.get r
 |_=>none
def vK(P:Program)(t:TypeId)(h:Tr O)(x k:V)(ok:Bool):Option V:=
 match P.underlying t with
 |some (.map kt et)=>match P.underlying kt,zeroOf P et with
  |some kd,some z=>
   match x,x.Xp h with
   | .map (some _),some (.dy kk es)=>match keyOf k with
     |some k=>if mE kd kk&&gD kk k then some (if ok then .ef [D.fZ z (dj k es),.bool (dj k es).isSome]else D.fZ z (dj k es))else none
     |none=>none
   |x,_=>
   if B6 kd k then
    match(match x with
     | .map none=>some []
     | .map (some r)=>(match h.get r with
       |some (.map es _)=>some es
       |_=>none)
     |_=>none:Option (List (V×V×Nat)))with
    |some es=>match uA kd k es 0 with
     |some (some (_,_,v,_))=>some (if ok then .ef [v,.bool true]else v)
     |some none=>some (if ok then .ef [z,.bool false]else z)
     |none=>none
    |none=>none
   else none
  |_,_=>none
 |_=>none
def sP{α:Type}:List α->Nat->(α->α)->List α
 | [],_,_=>[]
 |x::xs,0,f=>f x::xs
 |x::xs,i+1,f=>x::sP xs i f
def sQ(P:Program)(t:TypeId)(h:Tr O)(n:Nat)(m k v:V):Option R:=
 match P.underlying t,m with
 |some (.map kt _),.map (some r)=>match P.underlying kt,h.get r with
  |some kd,some (.map es eo)=>
   if B6 kd k/\r<fN then
    match uA kd k es 0 with
    |some (some (i,_))=>some (.val (.ef []) (h.set r (some (.map (sP es i fun e=>(k,v,e.2.2)) eo))) n)
    |some none=>some (.val (.ef []) (h.set r (some (.map (es++[(k,v,eo)]) (eo+1)))) n)
    |none=>none
   else none
  |some kd,some (.dy kk es)=>match keyOf k,V.PC v with
   |some k,some v=>if mE kd kk&&(gD kk k&&decide (r<fN))then some (.val (.ef []) (h.set r (some (.dy kk (ig k v es)))) n)else none
   |_,_=>none
  |_,_=>none
 |_,_=>none
def FX(P:Program)(eE:Array TypeId)(args:ag)(h:Tr O)(n:Nat):Option R:=
 match eE[0]?,args with
 |some t,[.map (some r),k]=>match P.underlying t with
  |some (.map kt _)=>match P.underlying kt,h.get r,keyOf k with
   |some kd,some (.dy kk es),some k=>if mE kd kk&&(gD kk k&&decide (r<fN))then some (.val (.ef []) (h.set r (some (.dy kk (lO k es)))) n)else none
   |_,_,_=>none
  |_=>none
 |_,_=>none
def zO(P:Program)(t:TypeId)(h:Tr O)(n:Nat)(m k:V):Option R:=
 match P.underlying t,m with
 |some (.map kt et),.map (some r)=>match P.underlying kt,h.get r,zeroOf P et with
  |some kd,some (.map es eo),some z=>
   if B6 kd k/\r<fN then
    match uA kd k es 0 with
    |some (some (i,e))=>some (.val (.ef [e.2.1,.int .i64 e.2.2]) (h.set r (some (.map (sP es i fun e=>(k,e.2.1,e.2.2)) eo))) n)
    |some none=>some (.val (.ef [z,.int .i64 eo]) (h.set r (some (.map (es++[(k,z,eo)]) (eo+1)))) n)
    |none=>none
   else none
  |_,_,_=>none
 |_,_=>none
def zP(b:Int):List (V×V×Nat)->Nat->Option Nat
 | [],_=>none
 |e::es,i=>if(e.2.2:Int)==b then some i else zP b es (i+1)
def uB(h:Tr O)(n:Nat)(m adk v:V):Option R:=
 match m,adk with
 | .map (some r),.int _ b=>match h.get r with
   |some (.map es eo)=>
    if r<fN then
     match zP b es 0 with
     |some i=>some (.val (.ef []) (h.set r (some (.map (sP es i fun e=>(e.1,v,e.2.2)) eo))) n)
     |none=>none
    else none
   |_=>none
 |_,_=>none
def uC(P:Program)(x:V)(yh:TypeId)(ok:Bool):Option V:=
 match P.underlying yh,x with
 |some (.interface _),_=>none
 |some _,.nilIface=>if ok then(match zeroOf P yh with|some z=>some (.ef [z,.bool false])|none=>none)else none
 |some _,.iface t v=>if t=yh then some (if ok then .ef [v,.bool true]else v)
  else if ok then(match zeroOf P yh with|some z=>some (.ef [z,.bool false])|none=>none)else none
 |_,_=>none
def jx(h:Tr O)(size:Nat):V->Option (Nat×Row)
 | .di none cO _ _=>if cO=0 then some (0,.vs [])else none
 | .di (some (m,o)) cO _ jv=>if jv=size then(match cO with
   |0=>some (0,.vs [])
   |_=>match h.get m with
    |some ob=>match ob.NI with
     |some r=>match r.cut o (cO*size)with
      |some r=>some (cO,r)
      |none=>none
     |none=>none
    |none=>none)else none
 | .str s=>if size=1 then some (s.length,.is .u8 (dX s))else none
 | .dM _ cO cs=>if cs.length=cO*size then some (cO,.ds cs)else none
 |_=>none
def uD:ag->Option (aa)
 | []=>some []
 | .int .u8 x::r=>match uD r with
   |some l=>some (UInt8.ofNat x.toNat::l)
   |none=>none
 |_::_=>none
def uE:Row->Option (aa)
 | .is .u8 ks=>some (eN ks)
 | .vs cs=>uD cs
 |_=>none
def B7(e:TypeId)(x:V)(new:Row):O:=match x with
 | .str t=>.iX e false t
 |_=>new.EC
def eT(NJ size bytes:Nat):Bool:=decide (NJ*bytes<=281474976710/\NJ*size<=281474976710)
def J0:TypeDesc->Bool
 | .slice _=>true
 | .string=>true
 |_=>false
def yj(P:Program)(eE:Array TypeId)(args:ag)(h:Tr O)(n:Nat):Option R:=
 match eE[0]?,eE[1]?,args with
 |some st,some xt,[s,x]=>
  match ux P st,P.underlying xt with
  |some e,some xd=>
   match J0 xd,P.info? e,zeroOf P e with
   |true,some i,some z=>
    if 0<i.size/\0<i.bytes/\z.cells.length=i.size then
     match jx h i.size x with
     |some (k,new)=>
      if new.flat=true then
      match s with
      | .di none 0 _ _=>
        match k with
        |0=>some (.val (.di none 0 0 0) h n)
        |_=>if eT k i.size i.bytes then(match newObj h n (B7 e x new)with
         |some (h',n')=>some (.val (.di (some (n,0)) k k i.size) h' n')
         |none=>none)else none
      | .dM true cO cs=>
        match k with
        |0=>some (.val (.dM true cO cs) h n)
        |_=>if eT (cO+k) i.size i.bytes/\cs.length=cO*i.size then(match newObj h n ((Row.ds cs).app new).EC with
         |some (h',n')=>some (.val (.di (some (n,0)) (cO+k) (cO+k) i.size) h' n')
         |none=>none)else none
      | .di (some (m,o)) cO cP jv=>
        if jv=i.size/\eT (cO+k) i.size i.bytes/\m<fN then
         match h.get m with
         |some (.iX el AL s0)=>match uE new with
          |some t=>if(o=0/\0<cP)/\(cO<=s0.length/\(AL=true->cO=s0.length))/\(i.size=1/\el=e)then(match newObj (h.set m none) n (.iX el AL (s0.take cO++t))with
           |some (h',n')=>some (.val (.di (some (n,0)) (cO+k) (cO+k) jv) h' n')
           |none=>none)else none
          |none=>none
         |some ob=>match ob.row with
          |some r=>
           match(if r.soft=false/\cO=0 then some (.vs [])else r.cut o (cO*i.size):Option Row)with
           |some old=>
            if new.soft=false/\k=0 then some (.val s h n)
            else match newObj (h.set m none) n (old.app new).EC with
             |some (h',n')=>some (.val (.di (some (n,0)) (cO+k) (cO+k) jv) h' n')
             |none=>none
           |none=>none
          |none=>none
         |_=>none
        else none
      |_=>none
      else none
     |none=>none
    else none
   |_,_,_=>none
  |_,_=>none
 |_,_,_=>none
def NK(P:Program)(eE:Array TypeId)(args:ag)(h:Tr O):Option V:=
 match eE[0]?,args with
 |some t,[x]=>match P.underlying t,x with
  |some .string,.str s=>some (.int .i64 s.length)
  |some (.array n _),_=>some (.int .i64 n)
  |some (.slice _),.di _ cO _ _=>some (.int .i64 cO)
  |some (.slice _),.dM _ cO _=>some (.int .i64 cO)
  |some (.map _ _),.map none=>some (.int .i64 0)
  |some (.map _ _),.map (some r)=>match h.get r with
   |some (.map es _)=>some (.int .i64 es.length)
   |some (.dy _ es)=>some (.int .i64 es.length)
   |_=>none
  |_,_=>none
 |_,_=>none
def B8(P:Program)(t:TypeId)(x:V)(h:Tr O)(n:Nat):Option R:=
 match P.underlying t,x with
 |some .string,.str s=>match newObj h n (.nE s 0)with
  |some (h',n')=>some (.val (.ptr (some (n,0))) h' n')
  |none=>none
 |_,_=>none
def PF(x:V)(PG:Bool)(h:Tr O)(n:Nat):Option R:=
 match x,PG with
 | .ptr (some (m,0)),true=>match h.get m with
   |some (.nE s pos)=>
    if pos<s.length then
     let cw:=Utf8.decode ⟨s.toArray⟩ pos
     if m<fN then some (.val (.ef [.bool true,.int .i64 pos,.int .i32 cw.1]) (h.set m (some (.nE s (pos+cw.2)))) n)else none
    else some (.val (.ef [.bool false]) h n)
   |_=>none
 |_,_=>none
def HI:V->ag->Option V
 |x,[]=>some x
 | .int k a,.int _ b::vs=>HI (.int k (if b>a then b else a)) vs
 |_,_=>none
def HJ:V->ag->Option V
 |x,[]=>some x
 | .int k a,.int _ b::vs=>HJ (.int k (if b<a then b else a)) vs
 |_,_=>none
def PI:List (Nat×Nat)->Nat->Option V
 | [],_=>none
 |p::r,g=>match Nat.beq p.1 g with
  |true=>some (.ptr (some (p.2,0)))
  |false=>PI r g
def iK(fr:Tr V):Operand->Option V
 | .tmp t=>fr.get t
 | .const v=>Ml v
 | .func f=>some (.fn (.func f) [] [])
 | .global g=>PI jN g
def uF(fr:Tr V):List Operand->Option (ag)
 | []=>some []
 |x::xs=>match iK fr x with
  |some v=>match uF fr xs with
   |some vs=>some (v::vs)
   |none=>none
  |none=>none
def mF(fr:Tr V):Option Operand->Option (Option V)
 |none=>some none
 |some x=>match iK fr x with
  |some v=>some (some v)
  |none=>none
def qg(fr:Tr V):List (Nat×Operand)->Option (List (Nat×V))
 | []=>some []
 |(i,x)::xs=>match iK fr x with
  |some v=>match qg fr xs with
   |some vs=>some ((i,v)::vs)
   |none=>none
  |none=>none
def callee(P:Program)(f:FuncId):Bool:=
 match P.funcs[f]? with
 |some fn=>fn.body.isSome&&fn.name != "runtime.NumGoroutine"
 |none=>false
def lp(P:Program)(b:Builtin)(eE:Array TypeId)(args:ag)(h:Tr O)(n:Nat):Option R:=
 match b with
 | .append=>if eE.size=2 then yj P eE args h n else none
 | .len=>mS h n (NK P eE args h)
 | .max=>match args with
   |x::xs=>mS h n (HI x xs)
   | []=>none
 | .min=>match args with
   |x::xs=>mS h n (HJ x xs)
   | []=>none
 | .panic=>match args with
   | [.iface t v]=>some (.panic (.iface t v))
   |_=>none
 | .recover=>some .recover
 | .unsafeSliceData=>match args with
   | [.di (some (m,o)) _ cP _]=>if 0<cP then some (.val (.ptr (some (m,o))) h n)else none
   |_=>none
 | .unsafeString=>match eE[0]?,args with
   |some pt,[.ptr (some (m,0)),.int .i64 l]=>match P.underlying pt,h.get m with
    |some (.pointer e),some (.iX el _ s)=>if(l=s.length/\0<s.length)/\(el=e/\P.cellsOf e=1)/\(m<fN/\eE.size=2/\s.length<=xe)then some (.val (.str s) (h.set m (some (.iX el true s))) n)else none
    |_,_=>none
   |_,_=>none
 | .delete=>if eE.size=2 then FX P eE args h n else none
 |_=>none
def wN(P:Program)(fr:Tr V)(c:Call)(h:Tr O)(n:Nat):Option R:=
 match uF fr c.args.toList with
 |some args=>match c.callee with
  | .builtin b=>lp P b c.argTypes args h n
  | .invoke _ _=>none
  | .value f=>match iK fr f with
    |some (.fn (.func g) first captured)=>if callee P g then some (.call g (first++args++captured))else none
    |some (.fn (.yield m) [] [])=>match h.get m with
     |some (.loop _ _ _ ps _ _)=>if ps.length=args.length then some (.call (P.funcs.size+m) args)else none
     |_=>none
    |_=>none
 |none=>none
def B9(fr:Tr V)(c:Call):Option R:=
 match uF fr c.args.toList with
 |some args=>match c.callee with
  | .value f=>match iK fr f with
    |some (.fn (.func g) first captured)=>some (.mA g captured (first++args))
    |_=>none
  |_=>none
 |none=>none
def vL:Fn->Bool
 | .yield _=>false
 |_=>true
def dD(P:Program)(o:Oper)(fr:Tr V)(h:Tr O)(n:Nat):Option R:=
 match o.op with
 | .move x=>mS h n (iK fr x)
 | .assign x=>mS h n (iK fr x)
 | .pick c a b=>match iK fr c with
   |some (.bool true)=>mS h n (iK fr a)
   |some (.bool false)=>mS h n (iK fr b)
   |_=>none
 | .alloc e=>match zeroOf P e with
   |some z=>match newObj h n (B3 P e z)with
    |some (h',n')=>some (.val (.ptr (some (n,0))) h' n')
    |none=>none
   |none=>none
 | .box _ x=>match iK fr x with
   |some v=>match newObj h n (.cells v.cells)with
    |some (h',n')=>some (.val (.ptr (some (n,0))) h' n')
    |none=>none
   |none=>none
 | .build t parts=>match qg fr parts.toList with
   |some ps=>mS h n (JY P t ps)
   |none=>none
 | .buildSlice t cO parts=>match qg fr parts.toList with
   |some ps=>oy P t cO ps h n
   |none=>none
 | .load t a=>match iK fr a with
   |some v=>mS h n (loadAt P t h v)
   |none=>none
 | .store t a x=>match iK fr a,iK fr x with
   |some av,some xv=>match storeAt P t h xv av with
    |some h'=>some (.val (.ef []) h' n)
    |none=>none
   |_,_=>none
 | .nilCheck x=>match iK fr x with
   |some (.ptr (some p))=>some (.val (.ptr (some p)) h n)
   |some (.dw cs)=>some (.val (.dw cs) h n)
   |some (.fn (.func f) a c)=>some (.val (.fn (.func f) a c) h n)
   |some (.iface t v)=>some (.val (.iface t v) h n)
   |_=>none
 | .binOp op t x y _=>match iK fr x,iK fr y with
   |some a,some b=>mS h n (B4 P op t x y a b)
   |_,_=>none
 | .unOp op _ x=>match iK fr x with
   |some v=>mS h n (unV op v)
   |none=>none
 | .convert Mn dst x=>match iK fr x with
   |some v=>qf P Mn dst v h n
   |none=>none
 | .makeInterface t x=>match iK fr x,P.underlying t with
   |some v,some d=>match d with
    | .interface _=>none
    |_=>some (.val (.iface t v) h n)
   |_,_=>none
 | .makeFunc f first captured=>match uF fr first.toList,uF fr captured.toList with
   |some a,some c=>if vL f=true then some (.val (.fn f a c) h n)else none
   |_,_=>none
 | .makeMap _ none=>match newObj h n (.map [] 0)with
   |some (h',n')=>some (.val (.map (some n)) h' n')
   |none=>none
 | .makeSlice t l c=>match iK fr l,iK fr c with
   |some l,some c=>nN P t l c h n
   |_,_=>none
 | .slice t x lo hi mx=>match iK fr x,mF fr lo,mF fr hi,mF fr mx with
   |some v,some lo,some hi,some mx=>mS h n (mD P t h v lo hi mx)
   |_,_,_,_=>none
 | .fieldAddr t x f=>match iK fr x with
   |some v=>mS h n (xg P t f v)
   |none=>none
 | .field t x f=>match iK fr x with
   |some v=>mS h n (JZ P t f v)
   |none=>none
 | .indexAddr t x i=>match iK fr x,iK fr i with
   |some v,some i=>mS h n (nO P t v i)
   |_,_=>none
 | .index t x i=>match iK fr x,iK fr i with
   |some v,some i=>mS h n (FW P t v i)
   |_,_=>none
 | .lookup t x k ok=>match iK fr x,iK fr k with
   |some x,some k=>mS h n (vK P t h x k ok)
   |_,_=>none
 | .mapUpdate t m k v=>match iK fr m,iK fr k,iK fr v with
   |some m,some k,some v=>sQ P t h n m k v
   |_,_,_=>none
 | .insert t m k v=>match iK fr m,iK fr k,iK fr v with
   |some m,some k,some v=>sQ P t h n m k v
   |_,_,_=>none
 | .mapEntry t m k=>match iK fr m,iK fr k with
   |some m,some k=>zO P t h n m k
   |_,_=>none
 | .entryStore _ m s v=>match iK fr m,iK fr s,iK fr v with
   |some m,some s,some v=>uB h n m s v
   |_,_,_=>none
 | .typeAssert x _ t ok=>match iK fr x with
   |some v=>mS h n (uC P v t ok)
   |none=>none
 | .extract x i=>match iK fr x with
   |some (.ef vs)=>mS h n (vs[i]?)
   |_=>none
 | .range t x=>match iK fr x with
   |some v=>B8 P t v h n
   |none=>none
 | .next it b=>match iK fr it with
   |some v=>PF v b h n
   |none=>none
 | .panic x=>match iK fr x with
   |some (.iface t v)=>some (.panic (.iface t v))
   |_=>none
 | .call c=>wN P fr c h n
 | .defer c=>B9 fr c
 |_=>none
structure St where
 fr:Tr V
 h:Tr O
 n:Nat
 gz:List (FuncId×ag×ag)
 deriving Inhabited
inductive X where
 |normal
 |exit (id:Nat)
 |ret
 |panic (v:V)
inductive PJ where
 |ret (v:V)
 |zQ (v:V)
abbrev fO:=FuncId->ag->Tr O->Nat->Option (PJ×Tr O×Nat)
def iZ(fr:Tr V)(dst:Option Nat)(v:V):Option (Tr V):=
 match dst with
 |none=>some fr
 |some d=>if d<fN then some (fr.set d (some v))else none
def iA(ops:Array Oper)(o:Oper)(fr:Tr V):Option Bool:=
 match o.guard with
 |none=>some true
 |some (j,J1)=>match ops[j]? with
  |some q=>match q.dst with
   |some d=>match fr.get d with
    |some (.bool b)=>some (b==J1)
    |some (.ef [])=>some false
    |_=>none
   |none=>none
  |none=>none
def mW{α:Type}(_:Nat):Option α:=none
def mX{α:Type}(_:Oper):Option α:=none
def BC:Op->Bool
 | .defer _=>false
 |_=>true
def je(P:Program)(cf:fO)(ops:Array Oper):List Oper->St->Option (X×St)
 | [],s=>some (.normal,s)
 |o::rest,s=>
  match iA ops o s.fr with
  |some false=>match iZ s.fr o.dst (.ef [])with
   |some fr=>je P cf ops rest { s with fr:=fr }
   |none=>none
  |some true=>match dD P o s.fr s.h s.n with
   |some (.val v h n)=>match iZ s.fr o.dst v with
    |some fr=>je P cf ops rest { s with fr:=fr,h:=h,n:=n }
    |none=>none
   |some (.call f args)=>match cf f args s.h s.n with
    |some (.ret v,h,n)=>match iZ s.fr o.dst v with
     |some fr=>je P cf ops rest { s with fr:=fr,h:=h,n:=n }
     |none=>none
    |some (.zQ v,h,n)=>some (.panic v,{ s with h:=h,n:=n })
    |none=>none
   |some (.mA f c args)=>if f<fN/\BC o.op=false then(match iZ s.fr o.dst (.ef [])with
    |some fr=>je P cf ops rest { s with fr:=fr,gz:=(f,c,args)::s.gz }
    |none=>none)else mX o
   |some (.panic v)=>some (.panic v,s)
   |some .recover=>none
   |none=>mX o
  |none=>mX o
def qP:Option (Nat×Nat)->Option (Nat×Nat)->Bool
 |none,none=>true
 |some (a,b),some (c,d)=>Nat.beq a c&&Nat.beq b d
 |_,_=>false
def FY :Option Nat->Option Nat->Bool
 |none,none=>true
 |some a,some b=>Nat.beq a b
 |_,_=>false
def PK:Fn->Fn->Bool
 | .func a,.func b=>Nat.beq a b
 | .yield a,.yield b=>Nat.beq a b
 |_,_=>false
mutual
def D.beq:D->D->Bool
 | .bool a,.bool b=>a==b
 | .int k a,.int j b=>decide (k=j)&&decide (a=b)
 | .str a,.str b=>eG a b
 | .dM n a,.dM m b=>Nat.beq n m&&D.pG a b
 | .agg a,.agg b=>D.pG a b
 |_,_=>false
def D.pG:ai->ai->Bool
 | [],[]=>true
 |a::x,b::y=>D.beq a b&&D.pG x y
 |_,_=>false
end
mutual
def V.beq:V->V->Bool
 | .bool a,.bool b=>a==b
 | .int k a,.int j b=>decide (k=j)&&decide (a=b)
 | .str a,.str b=>eG a b
 | .ptr a,.ptr b=>qP a b
 | .di a l c e,.di a' l' c' e'=>qP a a'&&Nat.beq l l'&&Nat.beq c c'&&Nat.beq e e'
 | .map a,.map b=>FY a b
 | .fn f a c,.fn g b d=>PK f g&&V.pG a b&&V.pG c d
 | .kE,.kE=>true
 | .iface t x,.iface u y=>Nat.beq t u&&V.beq x y
 | .nilIface,.nilIface=>true
 | .agg a,.agg b=>V.pG a b
 | .ef a,.ef b=>V.pG a b
 | .dM f n a,.dM g m b=>f==g&&(Nat.beq n m&&D.pG a b)
 | .dw a,.dw b=>D.pG a b
 |_,_=>false
def V.pG:ag->ag->Bool
 | [],[]=>true
 |a::x,b::y=>V.beq a b&&V.pG x y
 |_,_=>false
end
def qQ:Op->Bool
 | .store .. | .mapUpdate .. | .insert .. | .mapEntry .. | .entryStore .. | .next .. | .defer _ | .panic _=>true
 | .call { callee:=.builtin b,.. }=>match b with
   | .len | .max | .min=>false
   |_=>true
 | .call _=>true
 |_=>false
def qh:Op->Bool
 | .move _ | .assign _ | .pick .. | .build .. | .nilCheck _ | .binOp .. | .unOp .. | .makeInterface .. | .makeFunc .. | .fieldAddr .. | .field ..
 | .indexAddr .. | .index .. | .typeAssert .. | .extract ..=>true
 |_=>false
structure Dr where
 fr:Tr V
 ek:List Nat
 cur:Nat×Tr O
 pH:List (Nat×Nat×Tr O)
 last:Option Nat
 cZ:af
 reads:List (Nat×Nat×Oper×Tr V×V)
 n:Nat
def ee(m i:Nat):Bool:=Nat.testBit m i
def gL(n0:Nat):af->Nat->Tr O->Nat->Tr O
 | [],_,x,_=>x
 |(i,o)::r,m,x,gY=>if ee gY i&& !ee m i then(gL n0 r m x gY).set (n0+i) (some o)else gL n0 r m x gY
def eM(ek:List Nat):List Edge->Nat
 | []=>0
 |e::es=>if Region.binds .any e then eM ek es|||(2^e.on|||ek.getD e.on 0)else eM ek es
def mM(P:Program)(n0 i:Nat)(o:Oper)(fr:Tr V)(v:V)(x:Tr O):Bool:=
 match dD P o fr x (n0+i)with
 |some (.val u _ k)=>Nat.beq k (n0+i)&&V.beq u v
 |_=>false
def qi(P:Program)(n0 i:Nat)(o:Oper)(fr:Tr V)(v:V)(cZ:af)(gY:Nat):List (Nat×Nat×Tr O)->Bool
 | []=>true
 |(e,m,x)::r=>if ee gY e then true else mM P n0 i o fr v (gL n0 cZ m x gY)&&qi P n0 i o fr v cZ gY r
def pI(P:Program)(n0:Nat)(cZ:af)(m:Nat)(x:Tr O):List (Nat×Nat×Oper×Tr V×V)->Bool
 | []=>true
 |(j,gY,o,fr,v)::r=>(ee m j||mM P n0 j o fr v (gL n0 cZ m x gY))&&pI P n0 cZ m x r
def zR(gY:Nat):Option Nat->Bool
 |none=>true
 |some e=>ee gY e
def kF(P:Program)(n0 i gY:Nat)(o:Oper)(s:Dr)(v:V)(h:Tr O)(n:Nat):Option Dr:=
 match iZ s.fr o.dst v with
 |some fr=>
  if pI P n0 s.cZ gY h s.reads then
   some { fr:=fr,ek:=s.ek++[gY],cur:=(gY,h),pH:=(i,s.cur.1,s.cur.2)::s.pH,last:=some i,cZ:=s.cZ,reads:=s.reads,n:=n }
  else none
 |none=>none
def uG(P:Program)(cf:fO)(ops:Array Oper)(n0 i:Nat)(o:Oper)(s:Dr):Option (Dr ⊕ (Tr V×V×Tr O×Nat)):=
 let gY:=eM s.ek o.after.toList
 match iA ops o s.fr with
 |some false=>match iZ s.fr o.dst (.ef [])with
  |some fr=>some (.inl { s with fr:=fr,ek:=s.ek++[gY] })
  |none=>mX o
 |some true=>
  if qQ o.op then
   if zR gY s.last then
    match dD P o s.fr (gL n0 s.cZ s.cur.1 s.cur.2 gY) s.n with
    |some (.val v h n)=>match kF P n0 i gY o s v h n with
     |some s'=>some (.inl s')
     |none=>mX o
    |some (.call f args)=>match cf f args (gL n0 s.cZ s.cur.1 s.cur.2 gY) s.n with
     |some (.ret v,h,n)=>match kF P n0 i gY o s v h n with
      |some s'=>some (.inl s')
      |none=>mX o
     |some (.zQ v,h,n)=>if Nat.beq (gY+1) (2^i)&&Nat.beq (i+1) ops.size then some (.inr (s.fr,v,h,n))else mX o
     |none=>none
    |_=>mX o
   else mX o
  else
   let x:=gL n0 s.cZ s.cur.1 s.cur.2 gY
   match dD P o s.fr x (n0+i)with
   |some (.val v h k)=>match iZ s.fr o.dst v with
    |some fr=>
     if Nat.beq k (n0+i)then
      if qh o.op then some (.inl { s with fr:=fr,ek:=s.ek++[gY] })
      else if qi P n0 i o s.fr v s.cZ gY s.pH then
       some (.inl { s with fr:=fr,ek:=s.ek++[gY],reads:=(i,gY,o,s.fr,v)::s.reads })
      else mX o
     else match h.get (n0+i)with
      |some b=>if b.wr=true then some (.inl { s with fr:=fr,ek:=s.ek++[gY],cZ:=(i,b)::s.cZ })else mX o
      |none=>mX o
    |none=>mX o
   |_=>mX o
 |none=>mX o
def qR(P:Program)(cf:fO)(ops:Array Oper)(n0:Nat):List Oper->Nat->Dr->Option (Dr ⊕ (Tr V×V×Tr O×Nat))
 | [],_,s=>some (.inl s)
 |o::r,i,s=>match uG P cf ops n0 i o s with
  |some (.inl s')=>qR P cf ops n0 r (i+1) s'
  |x=>x
def drawn(P:Program)(cf:fO)(ops:Array Oper)(s:St):Option (X×St):=
 if s.n+ops.size<fN then
  match qR P cf ops s.n ops.toList 0 { fr:=s.fr,ek:=[],cur:=(0,s.h),pH:=[],last:=none,cZ:=[],reads:=[],n:=s.n+ops.size }with
  |some (.inl d)=>some (.normal,{ fr:=d.fr,h:=gL s.n d.cZ d.cur.1 d.cur.2 (2^ops.size-1),n:=d.n,gz:=s.gz })
  |some (.inr (fr,v,h,n))=>some (.panic v,{ s with fr:=fr,h:=h,n:=n })
  |none=>none
 else none
def rounds(f:St->Option (X×St)):Nat->St->Option (X×St)
 |0,_=>mW 1
 |k+1,s=>match f s with
  |some (.normal,s')=>rounds f k s'
  |r=>r
def jf(P:Program)(cf:fO)(F:Nat):Code->St->Option (X×St)
 | .skip,s=>some (.normal,s)
 | .region _ ops false,s=>je P cf ops ops.toList s
 | .region _ ops true,s=>drawn P cf ops s
 | .seq a b,s=>match jf P cf F a s with
   |some (.normal,s')=>jf P cf F b s'
   |r=>r
 | .cond c a b,s=>match iK s.fr c with
   |some (.bool true)=>jf P cf F a s
   |some (.bool false)=>jf P cf F b s
   |_=>mW 2
 | .block id body,s=>match jf P cf F body s with
   |some (.exit id',s')=>if id'=id then some (.normal,s')else some (.exit id',s')
   |r=>r
 | .loop body,s=>rounds (jf P cf F body) F s
 | .exit id,s=>some (.exit id,s)
 | .ret,s=>some (.ret,s)
 | .rangeFunc g ps assign body,s=>match iK s.fr g with
   |some (.fn (.func gf) [] lb)=>
    if callee P gf=true/\s.n+1<fN then
     match cf gf (.fn (.yield (s.n+1)) [] []::lb) ((s.h.set s.n (some .mA)).set (s.n+1) (some (.loop true none s.fr ps.toList assign body))) (s.n+2)with
     |some (.ret _,h,n)=>match h.get s.n,h.get (s.n+1)with
      |some .mA,some (.loop true none _ _ _ _)=>some (.normal,{ s with h:=h.set (s.n+1) none,n:=n,gz:=(fN,[],[.map (some s.n)])::s.gz })
      |some .mA,some (.loop false (some .ret) _ _ _ _)=>some (.ret,{ s with h:=h.set (s.n+1) none,n:=n,gz:=(fN,[],[.map (some s.n)])::s.gz })
      |some .mA,some (.loop false (some (.exit id)) _ _ _ _)=>some (.exit id,{ s with h:=h.set (s.n+1) none,n:=n,gz:=(fN,[],[.map (some s.n)])::s.gz })
      |_,_=>mW 31
     |_=>mW 32
    else mW 33
   |_=>mW 34
 |_,_=>mW 3
def lP:ag->Nat->Tr V->Tr V
 | [],_,t=>t
 |v::vs,i,t=>lP vs (i+1) (t.set i (some v))
def FZ(P:Program)(fr:Tr V)(h:Tr O):ResultVar->Option V
 | .tmp t=>fr.get t
 | .cell a t=>match fr.get a with
   |some v=>loadAt P t h v
   |none=>none
def lq(P:Program)(fr:Tr V)(h:Tr O):List ResultVar->Option (ag)
 | []=>some []
 |r::rs=>match FZ P fr h r with
  |some v=>match lq P fr h rs with
   |some vs=>some (v::vs)
   |none=>none
  |none=>none
def oneOf:ag->V
 | [v]=>v
 |vs=>.ef vs
inductive Mode where
 |ret
 |zQ (v:V) (rec:Bool)
def qT(P:Program)(cf:fO)(ops:Array Oper):List Oper->St->Mode->Option (X×St×Mode)
 | [],s,m=>some (.normal,s,m)
 |o::rest,s,m=>
  match iA ops o s.fr with
  |some false=>match iZ s.fr o.dst (.ef [])with
   |some fr=>qT P cf ops rest { s with fr:=fr } m
   |none=>none
  |some true=>match dD P o s.fr s.h s.n with
   |some (.val v h n)=>match iZ s.fr o.dst v with
    |some fr=>qT P cf ops rest { s with fr:=fr,h:=h,n:=n } m
    |none=>none
   |some .recover=>match m with
    | .zQ v false=>match iZ s.fr o.dst v with
      |some fr=>qT P cf ops rest { s with fr:=fr } (.zQ v true)
      |none=>none
    |m=>match iZ s.fr o.dst .nilIface with
     |some fr=>qT P cf ops rest { s with fr:=fr } m
     |none=>none
   |_=>mX o
  |none=>mX o
def tS(P:Program)(cf:fO)(F:Nat):Code->St->Mode->Option (X×St×Mode)
 | .region _ ops false,s,m=>qT P cf ops ops.toList s m
 | .seq a b,s,m=>match tS P cf F a s m with
   |some (.normal,s',m')=>tS P cf F b s' m'
   |r=>r
 | .cond c a b,s,m=>match iK s.fr c with
   |some (.bool true)=>tS P cf F a s m
   |some (.bool false)=>tS P cf F b s m
   |_=>mW 5
 |c,s,m=>match jf P cf F c s with
  |some (x,s')=>some (x,s',m)
  |none=>none
def nF(P:Program)(cf:fO)(F:Nat)(fn:Func)(fr:Tr V):List (FuncId×ag×ag)->Mode->Tr O->Nat->Option (PJ×Tr O×Nat)
 | [],.ret,h,n=>match lq P fr h fn.results.toList with
   |some vs=>some (.ret (oneOf vs),h,n)
   |none=>mW 11
 | [],.zQ v false,h,n=>some (.zQ v,h,n)
 | [],.zQ _ true,_,_=>mW 12
 |(g,c,args)::ds,m,h,n=>
  if fN<=g then(match args with
   | [.map (some b)]=>(match h.get b with
     |some .mA=>if b<fN then nF P cf F fn fr ds m (h.set b none) n else mW 41
     |_=>mW 42)
   |_=>mW 43)else
  match P.funcs[g]? with
  |some gn=>match gn.body with
   |some code=>
    if callee P g=true/\(args++c).length<=gn.ntmps/\gn.ntmps<fN then
     match tS P cf F code { fr:=lP (args++c) 0 .nil,h:=h,n:=n,gz:=[] } m with
     |some (.normal,s',m')=>
      (match s'.gz with
      | []=>match lq P s'.fr s'.h gn.results.toList with
        |some _=>nF P cf F fn fr ds (match m' with | .zQ _ true=>.ret|m=>m) s'.h s'.n
        |none=>mW 13
      |_=>mW 14)
     |some (.ret,s',m')=>
      (match s'.gz with
      | []=>match lq P s'.fr s'.h gn.results.toList with
        |some _=>nF P cf F fn fr ds (match m' with | .zQ _ true=>.ret|m=>m) s'.h s'.n
        |none=>mW 15
      |_=>mW 16)
     |_=>mW 17
    else none
   |none=>mW 18
  |none=>mW 19
def enter(P:Program)(cf:fO)(F:Nat)(f:FuncId)(args:ag)(h:Tr O)(n:Nat):Option (PJ×Tr O×Nat):=
 match P.funcs[f]? with
 |some fn=>match fn.body with
  |some code=>
   if args.length<=fn.ntmps/\fn.ntmps<fN then
    match jf P cf F code { fr:=lP args 0 .nil,h:=h,n:=n,gz:=[] }with
    |some (.normal,s)=>nF P cf F fn s.fr s.gz .ret s.h s.n
    |some (.ret,s)=>nF P cf F fn s.fr s.gz .ret s.h s.n
    |some (.panic v,s)=>nF P cf F fn s.fr s.gz (.zQ v false) s.h s.n
    |_=>mW 20
   else none
  |none=>mW 21
 |none=>mW 22
def jP:Code->Bool
 | .region _ ops _=>ops.toList.all fun o=>BC o.op
 | .seq a b=>jP a&&jP b
 | .cond _ a b=>jP a&&jP b
 | .block _ c=>jP c
 | .loop c=>jP c
 | .rangeFunc ..=>false
 |_=>true
def xh:List (Nat×V)->Tr V->Option (Tr V)
 | [],t=>some t
 |(i,v)::r,t=>if i<fN then xh r (t.set i (some v))else none
def J2:List Nat->ag->List (Nat×V)
 |i::is,v::vs=>(i,v)::J2 is vs
 |_,_=>[]
def xj(P:Program)(cf:fO)(F:Nat)(m:Nat)(args:ag)(h:Tr O)(n:Nat):Option (PJ×Tr O×Nat):=
 match h.get m with
 |some (.loop true none fr ps assign body)=>
  if m<fN/\ps.length=args.length/\jP assign=true/\jP body=true then
   match xh (J2 ps args) fr with
   |some zS=>match jf P cf F assign { fr:=zS,h:=h.set m none,n:=n,gz:=[] }with
    |some (.normal,s1)=>match jf P cf F body s1 with
     |some (.normal,s2)=>some (.ret (.bool true),s2.h.set m (some (.loop true none fr ps assign body)),s2.n)
     |some (.ret,s2)=>some (.ret (.bool false),s2.h.set m (some (.loop false (some .ret) fr ps assign body)),s2.n)
     |some (.exit id,s2)=>some (.ret (.bool false),s2.h.set m (some (.loop false (some (.exit id)) fr ps assign body)),s2.n)
     |_=>mW 51
    |_=>mW 52
   |none=>mW 53
  else mW 54
 |_=>mW 55
def call(P:Program)(F:Nat):Nat->fO
 |0=>fun _ _ _ _=>mW 23
 |k+1=>fun f args h n=>if f<P.funcs.size then enter P (call P F k) F f args h n else xj P (call P F k) F (f-P.funcs.size) args h n
def pn(l:List Oper):List Nat:=l.foldl (fun gq o=>gq++[eM gq o.after.toList]) []
section
variable(ops:Array Oper)
def uH(o:Oper):List Nat:=
 (o.op.operands.toList.filterMap fun x=>match x with | .tmp t=>some t|_=>none) ++
  (match o.guard with|some (j,_)=>(match ops[j]? with|some q=>q.dst.toList|none=>[])|none=>[])
def F0(m:List Nat)(i j:Nat):Bool:=
 match ops[i]?,ops[j]? with
 |some o,some q=>match o.dst with
  |some t=>(match q.dst with|some u=>!Nat.beq t u|none=>true) &&
    (if(uH ops q).contains t then(if i<j then ee (m.getD j 0) i else ee (m.getD i 0) j)else true)
  |none=>true
 |_,_=>true
def PL(N:Nat):Bool:=
 let m:=pn ops.toList
 (List.range ops.size).all fun j=>match ops[j]? with
  |some o=>o.after.toList.all (fun e=>!Region.binds .any e||decide (e.on<j))&&(match o.dst with|some d=>decide (d<N)|none=>true) &&
    (List.range ops.size).all fun i=>Nat.beq i j||F0 ops m i j
  |none=>true
end
def eU(N:Nat):Code->Bool
 | .region _ ops J3=>ops.toList.all (fun o=>match o.dst with|some d=>decide (d<N)|none=>true)&&(if J3 then PL ops N else true)
 | .seq a b=>eU N a&&eU N b
 | .cond _ a b=>eU N a&&eU N b
 | .block _ c=>eU N c
 | .loop c=>eU N c
 | .scope c=>eU N c
 | .rangeFunc _ ps a b=>ps.toList.all (fun p=>decide (p<N))&&(eU N a&&eU N b)
 |_=>true
structure Env where
 ι:Nat->Option (Nat×Nat)
 β:Nat->Nat
 φ:Nat->Option (Array Value)
mutual
def kO(φ:Nat->Option (Array Value)):D->Value->Prop
 | .bool b,v=>v= .bool b
 | .int k n,v=>v= .int k n
 | .str s,v=>v= .string ⟨s.toArray⟩
 | .dM n cs,v=>∃a cP vs,v= .slice a n cP/\n<=cP/\iw φ cs vs/\(n=0->cs=[])/\
    (0<n->∃b o c,a=some ⟨b,o,none⟩/\φ b=some c/\∀(j:Nat) (w:Value),vs[j]? =some w->c[o+j]? =some w)
 | .agg cs,v=>∃vs,iw φ cs vs/\v= .agg vs.toArray
def iw(φ:Nat->Option (Array Value)):ai->List Value->Prop
 | [],l=>l=[]
 |x::xs,l=>∃y ys,x.scalar=true/\kO φ x y/\iw φ xs ys/\l=y::ys
end
def yl(E:Env):Fn->Fn->Prop
 | .yield m,f'=>∃l s,E.ι m=some (l,s)/\f'= .yield l
 |f,f'=>f'=f
mutual
def dF(E:Env):V->Value->Prop
 | .bool b,v=>v= .bool b
 | .int k n,v=>v= .int k n
 | .str s,v=>v= .string ⟨s.toArray⟩
 | .ptr none,v=>v= .pointer none
 | .ptr (some (m,o)),v=>∃b s,E.ι m=some (b,s)/\v= .pointer (some ⟨b,s+o,none⟩)
 | .di none cO cP _,v=>cO=0/\cP=0/\v= .slice none 0 0
 | .di (some (m,o)) cO cP jv,v=>∃b s o' gj,E.ι m=some (b,s)/\(0<cP->o'=s+o)/\cO<=cP/\cP<=gj/\o'+gj*jv<=E.β b/\
    v= .slice (some ⟨b,o',none⟩) cO gj
 | .map none,v=>v= .map none
 | .map (some m),v=>∃b,E.ι m=some (b,0)/\v= .map (some b)
 | .fn f a c,v=>∃f' a' c',yl E f f'/\dI E a a'/\dI E c c'/\v= .func f' a'.toArray c'.toArray
 | .kE,v=>v= .nilFunc
 | .iface t x,v=>∃x',dF E x x'/\v= .iface t x'
 | .nilIface,v=>v= .nilIface
 | .agg cs,v=>∃cs',dI E cs cs'/\v= .agg cs'.toArray
 | .ef cs,v=>∃cs',dI E cs cs'/\v= .tuple cs'.toArray
 | .dM f n cs,v=>kO E.φ (.dM n cs) v/\(f=true->∃a,v= .slice a n n)
 | .dw cs,v=>∃b o c vs,v= .pointer (some ⟨b,o,none⟩)/\E.φ b=some c/\iw E.φ cs vs/\∀(j:Nat) (w:Value),vs[j]? =some w->c[o+j]? =some w
def dI(E:Env):ag->List Value->Prop
 | [],l=>l=[]
 |x::xs,l=>∃y ys,dF E x y/\dI E xs ys/\l=y::ys
end
structure Env.le(E E':Env):Prop where
 nm:∀m b s,E.ι m=some (b,s)->E'.ι m=some (b,s)/\E'.β b=E.β b
 fz:∀b c,E.φ b=some c->E'.φ b=some c
def GE(E:Env):Prop:=∀p∈jN,E.ι p.2=some (p.1,0)
theorem GE.mono{E E':Env}(h:GE E)(k:E.le E'):GE E':=fun p hp=>(k.nm _ _ _ (h p hp)).1
theorem HK:∀{l:List (Nat×Nat)} {g:Nat} {v:V},PI l g=some v->∃m,(g,m)∈l/\v= .ptr (some (m,0))
 | [],_,_,h=>by cases h
 |p::r,g,v,h=>by
  unfold PI at h;split at h
  . rename_i hb;cases h;exact⟨p.2,aE.2 (.inl (by rw[<- aD hb])),rfl⟩
  . obtain⟨m,h1,h2⟩:=HK h;exact⟨m,aK _ h1,h2⟩
theorem HL{E:Env}(h:GE E){g:Nat}{v:V}(e:PI jN g=some v):dF E v (.pointer (some ⟨g,0,none⟩)):=by
 obtain⟨m,h1,rfl⟩:=HK e;exact⟨g,0,h _ h1,rfl⟩
theorem Env.le_refl(E:Env):E.le E:=⟨fun _ _ _ h=>⟨h,rfl⟩,fun _ _ h=>h⟩
theorem Env.le_trans{A B C:Env}(h:A.le B)(k:B.le C):A.le C:=⟨fun m b s e=>
 ⟨(k.nm m b s (h.nm m b s e).1).1,(k.nm m b s (h.nm m b s e).1).2.trans (h.nm m b s e).2⟩,fun b c e=>k.fz b c (h.fz b c e)⟩
mutual
theorem kJ{φ Mo:Nat->Option (Array Value)}(h:∀b c,φ b=some c->Mo b=some c):∀(d:D) (v:Value),kO φ d v->kO Mo d v
 | .bool _,_,r=>r
 | .int _ _,_,r=>r
 | .str _,_,r=>r
 | .dM _ cs,_,⟨a,cP,vs,e,hc,r,h0,h1⟩=>⟨a,cP,vs,e,hc,iS h cs vs r,h0,fun hn=>let⟨b,o,c,e1,e2,e3⟩:=h1 hn;⟨b,o,c,e1,h _ _ e2,e3⟩⟩
 | .agg cs,_,⟨vs,r,e⟩=>⟨vs,iS h cs vs r,e⟩
theorem iS{φ Mo:Nat->Option (Array Value)}(h:∀b c,φ b=some c->Mo b=some c):∀(d:ai) (v:List Value),iw φ d v->iw Mo d v
 | [],_,r=>r
 |x::xs,_,⟨y,ys,s,r,rs,e⟩=>⟨y,ys,s,kJ h x y r,iS h xs ys rs,e⟩
end
mutual
theorem lu{E:Env}:∀(d:D) (v:Value),kO E.φ d v->dF E d.iL v
 | .bool _,_,r=>r
 | .int _ _,_,r=>r
 | .str _,_,r=>r
 | .dM _ _,_,r=>⟨r,fun h=>by cases h⟩
 | .agg cs,_,⟨vs,r,e⟩=>⟨vs,vM cs vs r,e⟩
theorem vM{E:Env}:∀(d:ai) (v:List Value),iw E.φ d v->dI E (D.jO d) v
 | [],_,r=>r
 |x::xs,_,⟨y,ys,_,r,rs,e⟩=>⟨y,ys,lu x y r,vM xs ys rs,e⟩
end
mutual
theorem HM{E:Env}:∀(d:D) (v:Value),dF E d.iL v->(∀cs,d= .agg cs->∀x∈cs,x.scalar=true)->kO E.φ d v
 | .bool _,_,r,_=>r
 | .int _ _,_,r,_=>r
 | .str _,_,r,_=>r
 | .dM _ _,_,r,_=>r.1
 | .agg cs,_,⟨vs,r,e⟩,h=>⟨vs,Ca cs vs r (h cs rfl),e⟩
theorem Ca{E:Env}:∀(d:ai) (v:List Value),dI E (D.jO d) v->(∀x∈d,x.scalar=true)->iw E.φ d v
 | [],_,r,_=>r
 |x::xs,_,⟨y,ys,r,rs,e⟩,h=>⟨y,ys,h x (by simp),HM x y r (fun cs q=>by have:=h x (by simp);rw[q]at this;cases this),Ca xs ys rs (fun z hz=>h z (by simp[hz])),e⟩
end
theorem pJ{φ:Nat->Option (Array Value)}:∀{xs:ai} {ys:List Value},iw φ xs ys->ys.length=xs.length
 | [],_,r=>by simp only[iw]at r;subst r;rfl
 |_::_,_,r=>by obtain⟨y,ys,_,_,rs,rfl⟩:=r;simp[pJ rs]
theorem vN{φ:Nat->Option (Array Value)}:∀{xs:ai} {ys:List Value},iw φ xs ys->∀(i:Nat) (d:D),xs[i]? =some d->∃v',ys[i]? =some v'/\d.scalar=true/\kO φ d v'
 | [],_,r,i,v,h=>by simp at h
 |x::xs,_,r,i,v,h=>by
  obtain⟨y,ys,s0,r0,rs,rfl⟩:=r;cases i with
  |zero=>simp at h;subst h;exact⟨y,by simp,s0,r0⟩
  |succ i=>simp at h;obtain⟨v',h1,h2⟩:=vN rs i v h;exact⟨v',by simpa using h1,h2⟩
theorem pK{φ:Nat->Option (Array Value)}:∀{xs:ai} {ys:List Value},xs.length=ys.length->(∀(i:Nat) (d:D),xs[i]? =some d->∃v',ys[i]? =some v'/\d.scalar=true/\kO φ d v')->iw φ xs ys
 | [],[],_,_=>rfl
 | [],_::_,h,_=>by simp at h
 |_::_,[],h,_=>by simp at h
 |x::xs,y::ys,h,r=>by
  obtain⟨v',h1,h2,h3⟩:=r 0 x (by simp);simp at h1;subst h1;exact⟨y,ys,h2,h3,pK (by simpa using h) (fun i v hi=>r (i+1) v (by simpa using hi)),rfl⟩
section
variable{φ:Nat->Option (Array Value)}{n:Nat}{xs:ai}{ys:List Value}
theorem sR(r:iw φ xs ys):iw φ (xs.take n) (ys.take n):=by
 refine pK (by simp[pJ r]) fun i v h=>?_;rw[bL]at h ⊢;split at h
 . rename_i hi;rw[aG hi];exact vN r i v h
 . simp at h
theorem nP(r:iw φ xs ys):iw φ (xs.drop n) (ys.drop n):=by
 refine pK (by simp[pJ r]) fun i v h=>?_;rw[bH]at h ⊢;exact vN r _ v h
end
theorem pM{φ:Nat->Option (Array Value)}:∀{xs Cb:ai} {ys J4:List Value},iw φ xs ys->iw φ Cb J4->iw φ (xs++Cb) (ys++J4)
 | [],_,_,_,r,r'=>by simp only[iw]at r;subst r;simpa using r'
 |x::xs,_,_,_,r,r'=>by
  obtain⟨y,ys,s0,r0,rs,rfl⟩:=r;exact⟨y,_,s0,r0,pM rs r',rfl⟩
theorem jg{φ:Nat->Option (Array Value)}:∀{xs:ai} {ys:List Value},iw φ xs ys->∀x∈xs,x.scalar=true
 | [],_,_,x,h=>by simp at h
 |a::xs,_,r,x,h=>by
  obtain⟨y,ys,s0,_,rs,_⟩:=r;rcases aE.1 h with rfl|h
  . exact s0
  . exact jg rs x h
theorem J5{d:D}(h:d.scalar=true):d.iL.scalar=true:=by cases d<;>first|rfl|(simp[D.scalar]at h)
theorem AN{ds:ai}(h:∀x∈ds,x.scalar=true):(D.jO ds).all V.scalar=true:=by
 rw[D.gx,bn];intro x hx;obtain⟨d,hd,rfl⟩:=bB.1 hx;exact J5 (h d hd)
theorem J6{E E':Env}(h:E.le E'):∀(f f':Fn),yl E f f'->yl E' f f'
 | .yield _,_,⟨l,s,e,q⟩=>⟨l,s,(h.nm _ _ _ e).1,q⟩
 | .func _,_,r=>r
 | .method _,_,r=>r
 | .methodOf _ _,_,r=>r
 | .via _ _ _ _,_,r=>r
mutual
theorem jl{E E':Env}(h:E.le E'):∀(v:V) (v':Value),dF E v v'->dF E' v v'
 | .bool _,_,r=>r
 | .int _ _,_,r=>r
 | .str _,_,r=>r
 | .ptr none,_,r=>r
 | .ptr (some (_,_)),_,⟨b,s,e,q⟩=>⟨b,s,(h.nm _ _ _ e).1,q⟩
 | .di none _ _ _,_,r=>r
 | .di (some (_,_)) _ _ _,_,⟨b,s,o',gj,e,q1,q2,q3,q4,q5⟩=>⟨b,s,o',gj,(h.nm _ _ _ e).1,q1,q2,q3,(h.nm _ _ _ e).2▸q4,q5⟩
 | .map none,_,r=>r
 | .map (some _),_,⟨b,e,q⟩=>⟨b,(h.nm _ _ _ e).1,q⟩
 | .fn _ a c,_,⟨f',a',c',rf,ra,rc,q⟩=>⟨f',a',c',J6 h _ _ rf,ku h a a' ra,ku h c c' rc,q⟩
 | .kE,_,r=>r
 | .iface _ x,_,⟨x',r,q⟩=>⟨x',jl h x x' r,q⟩
 | .nilIface,_,r=>r
 | .agg cs,_,⟨cs',r,q⟩=>⟨cs',ku h cs cs' r,q⟩
 | .ef cs,_,⟨cs',r,q⟩=>⟨cs',ku h cs cs' r,q⟩
 | .dM _ _ _,_,⟨r,q⟩=>⟨kJ h.fz _ _ r,q⟩
 | .dw cs,_,⟨b,o,c,vs,e,e1,r,q⟩=>⟨b,o,c,vs,e,h.fz _ _ e1,iS h.fz cs vs r,q⟩
theorem ku{E E':Env}(h:E.le E'):∀(v:ag) (v':List Value),dI E v v'->dI E' v v'
 | [],_,r=>r
 |x::xs,_,⟨y,ys,r,rs,q⟩=>⟨y,ys,jl h x y r,ku h xs ys rs,q⟩
end
theorem eL{E:Env}:∀{xs:ag} {ys:List Value},dI E xs ys->ys.length=xs.length
 | [],_,r=>by simp only[dI]at r;subst r;rfl
 |_::_,_,r=>by obtain⟨y,ys,_,rs,rfl⟩:=r;simp[eL rs]
theorem gC{E:Env}:∀{xs:ag} {ys:List Value},dI E xs ys->∀(i:Nat) (v:V),xs[i]? =some v->∃v',ys[i]? =some v'/\dF E v v'
 | [],_,_,i,v,h=>by simp at h
 |x::xs,_,r,i,v,h=>by
  obtain⟨y,ys,r0,rs,rfl⟩:=r;cases i with
  |zero=>simp at h;subst h;exact⟨y,by simp,r0⟩
  |succ i=>simp at h;obtain⟨v',h1,h2⟩:=gC rs i v h;exact⟨v',by simpa using h1,h2⟩
theorem jz{E:Env}:∀{xs:ag} {ys:List Value},xs.length=ys.length->(∀(i:Nat) (v:V),xs[i]? =some v->∃v',ys[i]? =some v'/\dF E v v')->dI E xs ys
 | [],[],_,_=>rfl
 | [],_::_,h,_=>by simp at h
 |_::_,[],h,_=>by simp at h
 |x::xs,y::ys,h,r=>by
  obtain⟨v',h1,h2⟩:=r 0 x (by simp);simp at h1;subst h1;exact⟨y,ys,h2,jz (by simpa using h) (fun i v hi=>r (i+1) v (by simpa using hi)),rfl⟩
theorem iB{E:Env}:∀{xs Cb:ag} {ys J4:List Value},dI E xs ys->dI E Cb J4->dI E (xs++Cb) (ys++J4)
 | [],_,_,_,r,r'=>by simp only[dI]at r;subst r;simpa using r'
 |x::xs,_,_,_,r,r'=>by
  obtain⟨y,ys,r0,rs,rfl⟩:=r;exact⟨y,_,r0,iB rs r',rfl⟩
section
variable{E:Env}{n:Nat}
theorem Cc:∀{xs:ag} {ys:List Value},dI E xs ys->dI E (xs.take n) (ys.take n):=by
 intro xs ys r;refine jz (by simp[eL r]) fun i v h=>?_;rw[bL]at h ⊢;split at h
 . rename_i hi;rw[aG hi];exact gC r i v h
 . simp at h
theorem Cd:∀{xs:ag} {ys:List Value},dI E xs ys->dI E (xs.drop n) (ys.drop n):=by
 intro xs ys r;refine jz (by simp[eL r]) fun i v h=>?_;rw[bH]at h ⊢;exact gC r _ v h
theorem ij:∀{v:V} {v':Value},dF E v v'->dI E v.cells v'.cells.toList:=by
 intro v v' r;have one:∀{x:V} {y:Value},dF E x y->y.cells=#[y]->x.cells=[x]->dI E x.cells y.cells.toList:=by
  intro x y r h1 h2;rw[h1,h2];exact⟨y,[],r,rfl,rfl⟩
 cases v with
 |agg cs=>obtain⟨cs',rs,rfl⟩:=r;simpa[V.cells,Value.cells]using rs
 |bool b=>simp only[dF]at r;subst r;exact one (by simp[dF]) rfl rfl
 |int k n=>simp only[dF]at r;subst r;exact one (by simp[dF]) rfl rfl
 |str s=>simp only[dF]at r;subst r;exact one (by simp[dF]) rfl rfl
 |ptr a=>refine one r ?_ rfl;cases a<;>simp only[dF]at r;. subst r;rfl
         . obtain⟨b,s,_,rfl⟩:=r;rfl
 |di a l c e=>refine one r ?_ rfl;cases a<;>simp only[dF]at r;. obtain⟨_,_,rfl⟩:=r;rfl
              . obtain⟨b,s,_,_,_,_,_,_,_,rfl⟩:=r;rfl
 |map a=>refine one r ?_ rfl;cases a<;>simp only[dF]at r;. subst r;rfl
         . obtain⟨b,_,rfl⟩:=r;rfl
 |fn f a c=>refine one r ?_ rfl;obtain⟨_,_,_,_,_,_,rfl⟩:=r;rfl
 |kE=>simp only[dF]at r;subst r;exact one (by simp[dF]) rfl rfl
 |iface t x=>refine one r ?_ rfl;obtain⟨_,_,rfl⟩:=r;rfl
 |nilIface=>simp only[dF]at r;subst r;exact one (by simp[dF]) rfl rfl
 |ef vs=>refine one r ?_ rfl;obtain⟨_,_,rfl⟩:=r;rfl
 |dM f n cs=>refine one r ?_ rfl;obtain⟨⟨_,_,_,rfl,_⟩,_⟩:=r;rfl
 |dw cs=>refine one r ?_ rfl;obtain⟨_,_,_,_,rfl,_⟩:=r;rfl
theorem uJ:∀{v:V} {v':Value},dF E v v'->v.scalar=true->v'.oneCell'=true:=by
 intro v v' r h;cases v with
 |agg cs=>simp[V.scalar]at h
 |ef cs=>simp[V.scalar]at h
 |bool b=>simp only[dF]at r;subst r;rfl
 |int k n=>simp only[dF]at r;subst r;rfl
 |str s=>simp only[dF]at r;subst r;rfl
 |ptr a=>cases a<;>simp only[dF]at r;. subst r;rfl
         . obtain⟨b,s,_,rfl⟩:=r;rfl
 |di a l c e=>cases a<;>simp only[dF]at r;. obtain⟨_,_,rfl⟩:=r;rfl
              . obtain⟨b,s,_,_,_,_,_,_,_,rfl⟩:=r;rfl
 |map a=>cases a<;>simp only[dF]at r;. subst r;rfl
         . obtain⟨b,_,rfl⟩:=r;rfl
 |fn f a c=>obtain⟨_,_,_,_,_,_,rfl⟩:=r;rfl
 |kE=>simp only[dF]at r;subst r;rfl
 |iface t x=>obtain⟨_,_,rfl⟩:=r;rfl
 |nilIface=>simp only[dF]at r;subst r;rfl
 |dM f n cs=>obtain⟨⟨_,_,_,rfl,_⟩,_⟩:=r;rfl
 |dw cs=>obtain⟨_,_,_,_,rfl,_⟩:=r;rfl
end
theorem Tr.yn{α:Type}:∀(f:Nat) (t:Tr α) (k:Nat) (x:Option α) (j:Nat),k+1<2^f->(Tr.ru f t k x).get j=if j=k then x else t.get j
 |0,t,k,x,j,h=>by simp at h
 |f+1,t,k,x,j,h=>by
  have hk:∀k',k=k'+1->k'/2+1<2^f:=by intro k' e;subst e;rw[Nat.pow_succ]at h;omega
  cases t with
  |nil=>
   cases k with
   |zero=>
    cases j with
    |zero=>simp[Tr.ru,Tr.get]
    |succ j=>simp only[Tr.ru,Tr.get];rw[aI be];split<;>rfl
   |succ k=>
    have ih:=fun j=>Tr.yn f (.nil:Tr α) (k/2) x j (hk k rfl);rcases cI k with e|e
    . cases j with
      |zero=>simp[Tr.ru,Tr.get,e]
      |succ j=>
       rcases cI j with e'|e'
       . simp only[Tr.ru,e,Tr.get,e',ih];by_cases hj:j=k
         . subst hj;simp
         . rw[aI be,aI be]
       . simp only[Tr.ru,e,Tr.get,e'];rw[aI be]
    . cases j with
      |zero=>simp[Tr.ru,Tr.get,e]
      |succ j=>
       rcases cI j with e'|e'
       . simp only[Tr.ru,e,Tr.get,e'];rw[aI be]
       . simp only[Tr.ru,e,Tr.get,e',ih];by_cases hj:j=k
         . subst hj;simp
         . rw[aI be,aI be]
  |node v l r=>
   cases k with
   |zero=>cases j<;>simp[Tr.ru,Tr.get]
   |succ k=>
    have ihl:=fun j=>Tr.yn f l (k/2) x j (hk k rfl);have ihr:=fun j=>Tr.yn f r (k/2) x j (hk k rfl);rcases cI k with e|e
    . cases j with
      |zero=>simp[Tr.ru,Tr.get,e]
      |succ j=>
       rcases cI j with e'|e'
       . simp only[Tr.ru,e,Tr.get,e',ihl];by_cases hj:j=k
         . subst hj;simp
         . rw[aI be,aI be]
       . simp only[Tr.ru,e,Tr.get,e'];rw[aI be]
    . cases j with
      |zero=>simp[Tr.ru,Tr.get,e]
      |succ j=>
       rcases cI j with e'|e'
       . simp only[Tr.ru,e,Tr.get,e'];rw[aI be]
       . simp only[Tr.ru,e,Tr.get,e',ihr];by_cases hj:j=k
         . subst hj;simp
         . rw[aI be,aI be]
section
variable{α:Type}(t:Tr α){k:Nat}(x:Option α)
theorem Tr.eS(j:Nat)(h:k<fN):(t.set k x).get j=if j=k then x else t.get j:=
 Tr.yn 33 t k x j (by unfold fN at h;omega)
theorem Tr.mY(h:k<fN):(t.set k x).get k=x:=by rw[Tr.eS t x k h,aG rfl]
theorem Tr.qj{j:Nat}(x:Option α)(h:k<fN)(hj:j≠k):(t.set k x).get j=t.get j:=by rw[Tr.eS t x j h,aI hj]
end
def kG(E:Env):List (V×V×Nat)->List MapEntry->Prop
 | [],l=>l=[]
 |x::xs,l=>∃y ys,dF E x.1 y.key/\dF E x.2.1 y.val/\y.born=x.2.2/\kG E xs ys/\l=y::ys
theorem Ce{E E':Env}(h:E.le E'):∀(xs:List (V×V×Nat)) (ys:List MapEntry),kG E xs ys->kG E' xs ys
 | [],_,r=>r
 |_::xs,_,⟨y,ys,a,b,c,r,q⟩=>⟨y,ys,jl h _ _ a,jl h _ _ b,c,Ce h xs ys r,q⟩
def jQ(φ:Nat->Option (Array Value)):ae->List MapEntry->Prop
 | [],l=>l=[]
 |x::xs,l=>∃y ys,kO φ x.1 y.key/\kO φ x.2 y.val/\jQ φ xs ys/\l=y::ys
theorem xk{φ Mo:Nat->Option (Array Value)}(h:∀b c,φ b=some c->Mo b=some c):∀(xs:ae) (ys:List MapEntry),jQ φ xs ys->jQ Mo xs ys
 | [],_,r=>r
 |_::xs,_,⟨y,ys,a,b,r,q⟩=>⟨y,ys,kJ h _ _ a,kJ h _ _ b,xk h xs ys r,q⟩
structure jR(φ:Nat->Option (Array Value))(kd:Option IntKind)(es:ae)(fW:List MapEntry)(eo:Nat):Prop where
 row:∃l,List.Perm l es/\jQ φ l fW
 keys:(es.map (·.1)).Nodup
 kind:∀e∈es,gD kd e.1=true
 old:∀e∈fW,e.born<eo
 born:(fW.map (·.born)).Nodup
theorem jR.mono{φ Mo:Nat->Option (Array Value)}(h:∀b c,φ b=some c->Mo b=some c){kd:Option IntKind}{es:ae}{fW:List MapEntry}{eo:Nat}(r:jR φ kd es fW eo):jR Mo kd es fW eo:=
 ⟨let⟨l,h1,h2⟩:=r.row;⟨l,h1,xk h _ _ h2⟩,r.keys,r.kind,r.old,r.born⟩
def mZ(fz:Nat×Nat)(n:Nat):Prop:=∀i,i<n->¬(fz.1<=i/\i<fz.2)
def l9(E:Env)(s:Nat)(cs:ag)(c:Array Value):Prop:=∀(i:Nat) (v:V),cs[i]? =some v->∃v',c[s+i]? =some v'/\dF E v v'
def PM(E:Env)(fr:Tr V)(tmps:Array Value):Prop:=∀t v,fr.get t=some v->∃v',tmps[t]? =some v'/\dF E v v'
section
variable{E E':Env}{s:Nat}
theorem vO(h:E.le E'){fr:Tr V}{a:Array Value}(r:PM E fr a):PM E' fr a:=fun t v e=>let⟨v',h1,h2⟩:=r t v e;⟨v',h1,jl h v v' h2⟩
def lY(E:Env)(w:World)(b s:Nat):O->Prop
 | .cells cs=>∃c el fz,w.heap[b]? =some (.cells c el fz)/\c.size=E.β b/\mZ fz c.size/\l9 E s cs c
 | .map es eo=>s=0/\∃fW,w.heap[b]? =some (.map fW eo)/\kG E es fW.toList
 | .nE st pos=>s=0/\w.heap[b]? =some (.stringIter ⟨st.toArray⟩ pos)
 | .ints k ks=>∃c el fz,w.heap[b]? =some (.cells c el fz)/\c.size=E.β b/\∀(i:Nat) (x:Int),ks[i]? =some x->c[s+i]? =some (.int k x)
 | .own k ks=>∃c el fz,w.heap[b]? =some (.cells c el fz)/\c.size=E.β b/\mZ fz c.size/\l9 E s (ks.map (.int k)) c
 | .deep cs=>∃c el fz vs,w.heap[b]? =some (.cells c el fz)/\c.size=E.β b/\mZ fz c.size/\iw E.φ cs vs/\∀(j:Nat) (x:Value),vs[j]? =some x->c[s+j]? =some x
 | .iX el AL t=>∃c fz xs,w.heap[b]? =some (.cells c el fz)/\s=0/\c.size=E.β b/\((fz.1=fz.2\/fz.2<=t.length)/\(AL=false->fz.1=fz.2))/\eN xs=t/\∀(j:Nat) (x:Int),xs[j]? =some x->c[j]? =some (.int .u8 x)
 | .Bp t self x=>s=0/\∃x' fz,w.heap[b]? =some (.cells #[.pointer (if self then some ⟨b,0,none⟩else none),x'] t fz)/\2=E.β b/\mZ fz 2/\dF E x x'
 | .dy kd es=>s=0/\∃fW eo,w.heap[b]? =some (.map fW eo)/\jR E.φ kd es fW.toList eo
 | .mA=>w.heap[b]? =some (.deferred (some []))
 | .loop st pe fr ps assign body=>∃r:Loop,w.heap[b]? =some (.loop r)/\r.state=(if st then .ready else .done)/\r.pending=pe/\r.params.toList=ps/\r.assign=assign/\r.body=body/\PM E fr r.tmps/\eU r.tmps.size assign=true/\eU r.tmps.size body=true/\∀p∈ps,p<r.tmps.size
theorem pW(h:E.le E'){s:Nat}{cs:ag}{c:Array Value}(r:l9 E s cs c):l9 E' s cs c:=
 fun i v e=>let⟨v',h1,h2⟩:=r i v e;⟨v',h1,jl h v v' h2⟩
theorem ik{w w':World}{b s:Nat}{o:O}(h:E.le E')(hb:E'.β b=E.β b)(hw:w'.heap[b]? =w.heap[b]?)(r:lY E w b s o):lY E' w' b s o:=by
 cases o with
 |cells cs=>obtain⟨c,el,fz,h1,h2,h3,h4⟩:=r;exact⟨c,el,fz,hw.trans h1,h2.trans hb.symm,h3,pW h h4⟩
 |map es eo=>obtain⟨hs,fW,h1,h2⟩:=r;exact⟨hs,fW,hw.trans h1,Ce h _ _ h2⟩
 |nE st pos=>exact⟨r.1,hw.trans r.2⟩
 |ints k ks=>obtain⟨c,el,fz,h1,h2,h3⟩:=r;exact⟨c,el,fz,hw.trans h1,h2.trans hb.symm,h3⟩
 |own k ks=>obtain⟨c,el,fz,h1,h2,h3,h4⟩:=r;exact⟨c,el,fz,hw.trans h1,h2.trans hb.symm,h3,pW h h4⟩
 |deep cs=>obtain⟨c,el,fz,vs,h1,h2,h3,h4,h5⟩:=r;exact⟨c,el,fz,vs,hw.trans h1,h2.trans hb.symm,h3,iS h.fz _ _ h4,h5⟩
 |iX el AL t=>obtain⟨c,fz,xs,h1,h0,h2,h3⟩:=r;exact⟨c,fz,xs,hw.trans h1,h0,h2.trans hb.symm,h3⟩
 |Bp t self x=>obtain⟨h0,x',fz,h1,h2,h3,h4⟩:=r;exact⟨h0,x',fz,hw.trans h1,h2.trans hb.symm,h3,jl h _ _ h4⟩
 |dy kd es=>obtain⟨hs,fW,eo,h1,h2⟩:=r;exact⟨hs,fW,eo,hw.trans h1,h2.mono h.fz⟩
 |mA=>exact hw.trans r
 |loop st pe fr ps assign body=>obtain⟨r,h1,h2,h3,h4,h5,h6,h7,h8⟩:=r;exact⟨r,hw.trans h1,h2,h3,h4,h5,h6,vO h h7,h8⟩
theorem mN{k:IntKind}{ks:List Int}{c:Array Value}:l9 E s (ks.map (.int k)) c↔∀(i:Nat) (x:Int),ks[i]? =some x->c[s+i]? =some (.int k x):=by
 constructor
 . intro r i x e;obtain⟨v',h1,h2⟩:=r i (.int k x) (by rw[br,e];rfl);simp only[dF]at h2;rw[h1,h2]
 . intro r i v e;rw[br]at e;cases hx:ks[i]? with
   |none=>rw[hx]at e;cases e
   |some x=>
    rw[hx]at e;simp only[bh,an]at e;subst e;exact⟨_,r i x hx,rfl⟩
theorem wO{k:IntKind}{ks:List Int}{c:Array Value}(r:l9 E s (ks.map (.int k)) c):l9 E' s (ks.map (.int k)) c:=mN.2 (mN.1 r)
end
theorem pX{k:IntKind}:∀{l:ag} {ks:List Int},oT k l=some ks->l=ks.map (.int k)
 | [],ks,h=>by simp only[oT,an]at h;subst h;rfl
 |v::r,ks,h=>by
  unfold oT at h;split at h
  . rename_i q;cases q
  . rename_i k' x r' q;cases q;split at h
    . rename_i l h1 h2;obtain rfl:=ew h;have:=aH h1;subst this;rw[pX h2];rfl
    . cases h
  . cases h
theorem nQ{E:Env}{s:Nat}{cs:ai}{c:Array Value}(hs:∀x∈cs,x.scalar=true):l9 E s (D.jO cs) c↔∃vs,iw E.φ cs vs/\∀(j:Nat) (x:Value),vs[j]? =some x->c[s+j]? =some x:=by
 constructor
 . intro r;have hg:∀i,i<cs.length->∃x,c[s+i]? =some x:=by
    intro i hi;obtain⟨v',h1,_⟩:=r i (cs[i]).iL (by rw[D.gx,br,ay hi];rfl);exact⟨v',h1⟩
   refine⟨(List.range cs.length).map fun i=>(c[s+i]?).getD undef,pK (by simp) fun i d hd=>?_,fun j x hx=>?_⟩
   . have hi:=(aF.1 hd).1;obtain⟨v',h1,h2⟩:=r i d.iL (by rw[D.gx,br,hd];rfl);refine⟨v',by simp[List.getElem?_range hi,h1],hs d (bf hd),HM d v' h2 fun ds q=>?_⟩;have:=hs d (bf hd);rw[q]at this;cases this
   . rw[br]at hx;by_cases hj:j<cs.length
     . rw[List.getElem?_range hj]at hx;simp only[bh,an]at hx;obtain⟨y,hy⟩:=hg j hj;rw[hy]at hx ⊢;simpa using hx
     . rw[bP (by simpa using Nat.le_of_not_lt hj)]at hx;cases hx
 . rintro⟨vs,r,hv⟩ i v hi;rw[D.gx,br]at hi;cases hd:cs[i]? with
   |none=>rw[hd]at hi;cases hi
   |some d=>
    rw[hd]at hi;simp only[bh,an]at hi;subst hi;obtain⟨v',h1,_,h3⟩:=vN r i d hd;exact⟨v',hv i v' h1,lu d v' h3⟩
theorem sU:∀{l:ag} {ds:ai},ia l=some ds->∀{E:Env} {l':List Value},dI E l l'->iw E.φ ds l'
 | [],ds,h,E,l',r=>by simp only[ia,an]at h;subst h;exact r
 |x::xs,ds,h,E,l',r=>by
  simp only[ia]at h;split at h
  case h_2=>cases h
  rename_i d hd;split at h
  case h_2=>cases h
  rename_i l hl;obtain rfl:=ew h;obtain⟨y,ys,r0,rs,rfl⟩:=r;refine⟨y,ys,?_,?_,sU hl rs,rfl⟩
  . split at hd<;>first|(cases hd;rfl)|cases hd
  . split at hd<;>first|(cases hd;first|exact r0|exact r0.1|exact⟨none,0,[],r0.2.2,aA _,rfl,fun _=>rfl,fun q=>absurd q (cF _)⟩)|cases hd
theorem uK:∀{l:ag} {ds:ai},ia l=some ds->ds.length=l.length
 | [],ds,h=>by simp only[ia,an]at h;subst h;rfl
 |x::xs,ds,h=>by
  simp only[ia]at h;split at h
  case h_2=>cases h
  split at h
  case h_2=>cases h
  rename_i l hl;obtain rfl:=ew h;simp[uK hl]
mutual
theorem F1{E:Env}:∀{x:V} {d:D},V.PC x=some d->∀{v:Value},dF E x v->kO E.φ d v/\(x.scalar=true->d.scalar=true)
 | .bool _,d,h,v,r=>by simp only[V.PC,an]at h;subst h;exact⟨r,fun _=>rfl⟩
 | .int _ _,d,h,v,r=>by simp only[V.PC,an]at h;subst h;exact⟨r,fun _=>rfl⟩
 | .str _,d,h,v,r=>by simp only[V.PC,an]at h;subst h;exact⟨r,fun _=>rfl⟩
 | .dM _ _ _,d,h,v,r=>by simp only[V.PC,an]at h;subst h;exact⟨r.1,fun _=>rfl⟩
 | .agg cs,d,h,v,r=>by
   simp only[V.PC]at h;split at h
   . rename_i l hl;obtain rfl:=ew h;obtain⟨vs,r,e⟩:=r;exact⟨⟨vs,HN hl r,e⟩,fun h=>by cases h⟩
   . cases h
 | .ptr _,d,h,_,_=>by cases h
 | .di none _ _ _,d,h,v,r=>by
   simp only[V.PC,an]at h;subst h;exact⟨⟨none,0,[],r.2.2,aA _,rfl,fun _=>rfl,fun q=>absurd q (cF _)⟩,fun _=>rfl⟩
 | .di (some _) 0 _ _,d,h,v,r=>by
   simp only[V.PC,an]at h;subst h;obtain⟨b,s,o',gj,_,_,_,_,_,e⟩:=r;exact⟨⟨_,gj,[],e,aY _,rfl,fun _=>rfl,fun q=>absurd q (cF _)⟩,fun _=>rfl⟩
 | .di (some _) (_+1) _ _,d,h,_,_=>by cases h
 | .map _,d,h,_,_=>by cases h
 | .fn _ _ _,d,h,_,_=>by cases h
 | .kE,d,h,_,_=>by cases h
 | .iface _ _,d,h,_,_=>by cases h
 | .nilIface,d,h,_,_=>by cases h
 | .ef _,d,h,_,_=>by cases h
 | .dw _,d,h,_,_=>by cases h
theorem HN{E:Env}:∀{xs:ag} {ds:ai},V.PD xs=some ds->∀{vs:List Value},dI E xs vs->iw E.φ ds vs
 | [],ds,h,v,r=>by simp only[V.PD,an]at h;subst h;exact r
 |x::xs,ds,h,v,r=>by
  simp only[V.PD]at h;split at h
  case h_2=>cases h
  rename_i d hd;split at h
  case h_2=>cases h
  rename_i l hl;split at h
  case h_2=>cases h
  rename_i J7;obtain rfl:=ew h;obtain⟨y,ys,r0,rs,rfl⟩:=r;exact⟨y,ys,J7,(F1 hd r0).1,HN hl rs,rfl⟩
end
theorem AO{E:Env}:∀{xs ys:ag} {l:List Value},dI E (xs++ys) l->∃l1 l2,dI E xs l1/\dI E ys l2/\l=l1++l2
 | [],_,l,r=>⟨[],l,rfl,r,rfl⟩
 |x::xs,_,l,⟨y,zs,r0,rs,e⟩=>by
  obtain⟨l1,l2,h1,h2,h3⟩:=AO rs;exact⟨y::l1,l2,⟨y,l1,r0,h1,rfl⟩,h2,by rw[e,h3];rfl⟩
def wk(xs ys:ag):Prop:=∀(E:Env) (l:List Value),dI E xs l->dI E ys l
theorem iP(xs:ag):wk xs xs:=fun _ _ r=>r
theorem zT{a b a' b':ag}(h:wk a a')(k:wk b b'):wk (a++b) (a'++b'):=fun E l r=>by
 obtain⟨l1,l2,h1,h2,rfl⟩:=AO r;exact iB (h E l1 h1) (k E l2 h2)
theorem yo{l:ag}{ds:ai}(h:ia l=some ds):wk l (D.jO ds):=fun _ _ r=>vM _ _ (sU h r)
theorem rM{E:Env}{s:Nat}{cs:ag}{c:Array Value}:l9 E s cs c↔∃vs,dI E cs vs/\∀(j:Nat) (x:Value),vs[j]? =some x->c[s+j]? =some x:=by
 constructor
 . intro r;have hg:∀i,i<cs.length->∃x,c[s+i]? =some x:=fun i hi=>by
    obtain⟨v',h1,_⟩:=r i cs[i] (ay hi);exact⟨v',h1⟩
   refine⟨(List.range cs.length).map fun i=>(c[s+i]?).getD undef,jz (by simp) fun i d hd=>?_,fun j x hx=>?_⟩
   . have hi:=(aF.1 hd).1;obtain⟨v',h1,h2⟩:=r i d hd;exact⟨v',by simp[List.getElem?_range hi,h1],h2⟩
   . rw[br]at hx;by_cases hj:j<cs.length
     . rw[List.getElem?_range hj]at hx;simp only[bh,an]at hx;obtain⟨y,hy⟩:=hg j hj;rw[hy]at hx ⊢;simpa using hx
     . rw[bP (by simpa using Nat.le_of_not_lt hj)]at hx;cases hx
 . rintro⟨vs,r,hv⟩ i v hi;obtain⟨v',h1,h2⟩:=gC r i v hi;exact⟨v',hv i v' h1,h2⟩
theorem yp{E:Env}{s:Nat}{xs ys:ag}{c:Array Value}(h:wk xs ys)(r:l9 E s xs c):l9 E s ys c:=by
 obtain⟨vs,h1,h2⟩:=rM.1 r;exact rM.2 ⟨vs,h E vs h1,h2⟩
def Row.sc:Row->Prop
 | .ds cs=>∀x∈cs,x.scalar=true
 |_=>True
theorem nT:∀{l:ag} {ds:ai},ia l=some ds->∀x∈ds,x.scalar=true
 | [],ds,h,x,hx=>by simp only[ia,an]at h;subst h;simp at hx
 |y::l,ds,h,x,hx=>by
  simp only[ia]at h;split at h
  case h_2=>cases h
  rename_i d hd;split at h
  case h_2=>cases h
  rename_i l' hl;obtain rfl:=ew h;rcases aE.1 hx with rfl|hx
  . split at hd<;>first|(cases hd;rfl)|cases hd
  . exact nT hl x hx
theorem Row.J8(a b:Row):wk (a.iL++b.iL) (a.app b).iL:=by
 have e:∀{k:IntKind} {l:ag} {ks:List Int},oT k l=some ks->l=ks.map (.int k):=fun h=>pX h;have hm:∀(k:IntKind) (ks:List Int),D.jO (ks.map (.int k))=ks.map (.int k):=fun k ks=>by rw[D.gx,List.map_map];rfl
 have ha:∀(x y:ai),D.jO (x++y)=D.jO x++D.jO y:=fun x y=>by rw[D.gx,D.gx,D.gx,aZ]
 cases a<;>cases b<;>simp only[Row.app]
 . exact iP _
 . rename_i cs k ks;split
   . rename_i l h;simp only[Row.iL,e h,aZ];exact iP _
   . exact iP _
 . rename_i cs ds;split
   . rename_i l h;simp only[Row.iL,ha];exact zT (yo h) (iP _)
   . exact iP _
 . rename_i k ks cs;split
   . rename_i l h;simp only[Row.iL,e h,aZ];exact iP _
   . exact iP _
 . rename_i k ks k' Xq;split
   . rename_i h;have:=aH h;subst this;simp only[Row.iL,aZ];exact iP _
   . exact iP _
 . simp only[Row.iL,ha,hm];exact iP _
 . rename_i cs ds;split
   . rename_i l h;simp only[Row.iL,ha];exact zT (iP _) (yo h)
   . exact iP _
 . simp only[Row.iL,ha,hm];exact iP _
 . simp only[Row.iL,ha];exact iP _
theorem Row.J9{a b:Row}(h:a.sc)(k:b.sc):(a.app b).sc:=by
 have hi:∀(k:IntKind) (ks:List Int),∀x∈ks.map (D.int k),x.scalar=true:=fun k ks x hx=>by
  obtain⟨n,_,rfl⟩:=bB.1 hx;rfl
 have ap:∀{x y:ai},(∀z∈x,z.scalar=true)->(∀z∈y,z.scalar=true)->∀z∈x++y,z.scalar=true:=fun h k z hz=>(aU.1 hz).elim (h z) (k z);cases a<;>cases b<;>simp only[Row.app]<;>first|trivial|skip
 . split<;>trivial
 . split
   . rename_i l hl;exact ap (nT hl) k
   . trivial
 . split<;>trivial
 . split<;>trivial
 . exact ap (hi _ _) k
 . split
   . rename_i l hl;exact ap h (nT hl)
   . trivial
 . exact ap h (hi _ _)
 . exact ap h k
theorem Row.PN{o size:Nat}{r r':Row}(h:r.cut o size=some r')(k:r.sc):r'.sc:=by
 cases r with
 |vs cs=>simp only[Row.cut]at h;split at h<;>first|(cases h;trivial)|cases h
 |is k ks=>simp only[Row.cut]at h;split at h<;>first|(cases h;trivial)|cases h
 |ds cs=>
  simp only[Row.cut]at h;split at h
  . cases h;exact fun x hx=>k x (List.mem_of_mem_drop (List.mem_of_mem_take hx))
  . cases h
theorem Row.F2{o size:Nat}{r r':Row}(h:r.cut o size=some r'):Eng.cut r.iL o size=some r'.iL:=by
 cases r with
 |vs cs=>
  simp only[Row.cut]at h;split at h
  . rename_i q;obtain rfl:=ew h;exact q
  . cases h
 |is k ks=>
  simp only[Row.cut]at h;split at h
  . rename_i q;obtain rfl:=ew h;simp only[Eng.cut,Row.iL,aW,aG q,cL,List.map_drop]
  . cases h
 |ds cs=>
  simp only[Row.cut]at h;split at h
  . rename_i q;obtain rfl:=ew h;simp only[Eng.cut,Row.iL,D.gx,aW,aG q,cL,List.map_drop]
  . cases h
section
variable{h:Tr O}{E:Env}{w:World}{n m b s:Nat}{x:Option O}
theorem Row.PO{r:Row}(h:r.flat=true)(k:r.sc):r.iL.all V.scalar=true:=by
 cases r with
 |vs cs=>exact h
 |is k ks=>simp[Row.iL,V.scalar]
 |ds cs=>exact AN k
theorem HO{o:O}{r:Row}(h:o.row=some r)(q:lY E w b s o):(∃c el fz,w.heap[b]? =some (.cells c el fz)/\c.size=E.β b/\mZ fz c.size/\l9 E s r.iL c)/\r.sc:=by
 cases o<;>simp only[O.row,an,reduceCtorEq]at h<;>subst h
 . exact⟨q,trivial⟩
 . exact⟨q,trivial⟩
 . obtain⟨c,el,fz,vs,h1,h2,h3,h4,h5⟩:=q;exact⟨⟨c,el,fz,h1,h2,h3,(nQ (jg h4)).2 ⟨vs,h4,h5⟩⟩,jg h4⟩
theorem NL{o:O}{r:Row}(h:o.NI=some r)(q:lY E w b s o):(∃c el fz,w.heap[b]? =some (.cells c el fz)/\c.size=E.β b/\l9 E s r.iL c)/\r.sc:=by
 cases o<;>simp only[O.NI,an,reduceCtorEq]at h<;>subst h
 . obtain⟨c,el,fz,h1,h2,_,h4⟩:=q;exact⟨⟨c,el,fz,h1,h2,h4⟩,trivial⟩
 . obtain⟨c,el,fz,h1,h2,h3⟩:=q;exact⟨⟨c,el,fz,h1,h2,mN.2 h3⟩,trivial⟩
 . obtain⟨c,el,fz,h1,h2,_,h4⟩:=q;exact⟨⟨c,el,fz,h1,h2,h4⟩,trivial⟩
 . obtain⟨c,el,fz,vs,h1,h2,h3,h4,h5⟩:=q;exact⟨⟨c,el,fz,h1,h2,(nQ (jg h4)).2 ⟨vs,h4,h5⟩⟩,jg h4⟩
theorem yq{r:Row}(q:∃c el fz,w.heap[b]? =some (.cells c el fz)/\c.size=E.β b/\mZ fz c.size/\l9 E s r.iL c)(k:r.sc):lY E w b s r.EC:=by
 cases r with
 |ds cs=>
  obtain⟨c,el,fz,h1,h2,h3,h4⟩:=q;obtain⟨vs,h5,h6⟩:=(nQ k).1 h4;exact⟨c,el,fz,vs,h1,h2,h3,h5,h6⟩
 |_=>exact q
theorem PR{o:O}{r:Row}(h:o.row=some r):o.wr=true:=by cases o<;>simp[O.row]at h<;>rfl
def eC(h:Tr O)(m:Nat):Prop:=∃o,h.get m=some o/\o.wr=true
theorem PS{h':Tr O}{m n:Nat}(e:h.get m=h'.get n)(k:eC h m):eC h' n:=by obtain⟨o,a,b⟩:=k;exact⟨o,e.symm.trans a,b⟩
theorem rO(hn:n<fN):eC (h.set n x) m->(m=n/\∃o,x=some o/\o.wr=true)\/(m≠n/\eC h m):=by
 rintro⟨o,e,k⟩;rw[Tr.eS _ _ _ hn]at e;split at e
 . rename_i q;exact .inl ⟨q,o,e,k⟩
 . rename_i q;exact .inr ⟨q,o,e,k⟩
theorem oz(hn:n<fN)(k:eC (h.set n x) m)(q:m≠n):eC h m:=
 (rO hn k).elim (fun c=>absurd c.1 q) (·.2)
theorem eC.live(k:eC h m):h.get m≠none:=by obtain⟨o,e,_⟩:=k;rw[e];simp
end
structure Good(E:Env)(h:Tr O)(w:World):Prop where
 rel:∀m o,h.get m=some o->∃b s,E.ι m=some (b,s)/\lY E w b s o
 inj:∀m m' b s s',m≠m'->eC h m->h.get m'≠none->E.ι m=some (b,s)->E.ι m'=some (b,s')->False
 mU:∀m b s,E.ι m=some (b,s)->b<w.heap.size
 jm:GE E
 gM:∀b c,E.φ b=some c->(∃el fz,w.heap[b]? =some (.cells c el fz))/\∀m s,eC h m->E.ι m≠some (b,s)
structure iy(E:Env)(h:Tr O)(w:World)(E':Env)(h':Tr O)(w':World):Prop where
 le:E.le E'
 good:Good E' h' w'
 size:w.heap.size<=w'.heap.size
 tape:w'.tape=w.tape
 os:w'.os=w.os
 output:w'.output=w.output
 keep:∀b,b<w.heap.size->(∀m s,eC h m->E.ι m≠some (b,s))->w'.heap[b]? =w.heap[b]?
 sV:∀m b s,h'.get m≠none->E'.ι m=some (b,s)->b<w.heap.size->∃m0 s0,h.get m0≠none/\E.ι m0=some (b,s0)/\(eC h' m->eC h m0)
 DU:∀b c,E'.φ b=some c->E.φ b=some c\/w.heap.size<=b\/∃m s,eC h m/\E.ι m=some (b,s)
theorem iy.refl{E:Env}{h:Tr O}{w:World}(g:Good E h w):iy E h w E h w:=
 ⟨E.le_refl,g,aA _,rfl,rfl,rfl,fun _ _ _=>rfl,fun m _ s hm e _=>⟨m,s,hm,e,id⟩,fun _ _ q=>.inl q⟩
theorem iy.trans{E E1 E2:Env}{h h1 h2:Tr O}{w w1 w2:World}(a:iy E h w E1 h1 w1)(b:iy E1 h1 w1 E2 h2 w2):iy E h w E2 h2 w2 where
 le:=Env.le_trans a.le b.le
 good:=b.good
 size:=bU a.size b.size
 tape:=b.tape.trans a.tape
 os:=b.os.trans a.os
 output:=b.output.trans a.output
 keep:=fun x hx hn=>by
  rw[b.keep x (bD hx a.size) ?_,a.keep x hx hn];intro m s hm e;obtain⟨m0,s0,h0,e0,k0⟩:=a.sV m x s hm.live e hx;exact hn m0 s0 (k0 hm) e0
 sV:=fun m x s hm e hx=>by
  obtain⟨m1,s1,mB,e1,k1⟩:=b.sV m x s hm e (bD hx a.size);obtain⟨m2,s2,h2,e2,k2⟩:=a.sV m1 x s1 mB e1 hx;exact⟨m2,s2,h2,e2,fun q=>k2 (k1 q)⟩
 DU:=fun x c hc=>by
  rcases b.DU x c hc with q|q|⟨m,s,q1,q2⟩
  . exact a.DU x c q
  . exact .inr (.inl (bU a.size q))
  . rcases bN x w.heap.size with hx|hx
    . obtain⟨m0,s0,_,e0,k0⟩:=a.sV m x s q1.live q2 hx;exact .inr (.inr ⟨m0,s0,k0 q1,e0⟩)
    . exact .inr (.inl hx)
theorem Good.same{E:Env}{h:Tr O}{w w':World}(g:Good E h w)(e:w'.heap=w.heap):Good E h w' where
 rel:=fun m o hm=>let⟨b,s,h1,h2⟩:=g.rel m o hm;⟨b,s,h1,ik E.le_refl rfl (by rw[e]) h2⟩
 inj:=g.inj
 mU:=fun m b s h=>by rw[e];exact g.mU m b s h
 jm:=g.jm
 gM:=fun b c q=>⟨by rw[e];exact(g.gM b c q).1,(g.gM b c q).2⟩
theorem iy.drew{E:Env}{h:Tr O}{w:World}(g:Good E h w):iy E h w E h w.drew:=
 ⟨E.le_refl,g.same rfl,aA _,rfl,rfl,rfl,fun _ _ _=>rfl,fun m _ s hm e _=>⟨m,s,hm,e,id⟩,fun _ _ q=>.inl q⟩
def Env.put(E:Env)(n b s z:Nat):Env:={ ι:=fun m=>if m=n then some (b,s)else E.ι m,β:=fun x=>if x=b then z else E.β x,φ:=E.φ }
section
variable{E:Env}{w:World}{n:Nat}{o:Obj}{b s z:Nat}
theorem Env.eY:(E.put n b s z).ι n=some (b,s):=by simp[Env.put]
theorem Env.fB{m:Nat}(h:m≠n):(E.put n b s z).ι m=E.ι m:=by simp[Env.put,h]
theorem Env.rz(hn:E.ι n=none)(hb:∀m x t,E.ι m=some (x,t)->x=b->E.β b=z):E.le (E.put n b s z):=by
 refine⟨?_,fun _ _ h=>h⟩;intro m x t e;have:m≠n:=by intro h;rw[h,hn]at e;simp at e
 refine⟨by rw[Env.fB this];exact e,?_⟩;show(if x=b then z else E.β x)=E.β x;split
 . rename_i h;rw[<- hb m x t e h,h]
 . rfl
theorem jD(h:b<w.heap.size):(w.alloc o).heap[b]? =w.heap[b]?:=by
 simp only[World.alloc,Array.getElem?_push];rw[aI be]
theorem heap_alloc_new:(w.alloc o).heap[w.heap.size]? =some o:=by
 simp only[World.alloc,Array.getElem?_push,if_true]
end
def jS:Obj->Nat
 | .cells c _ _=>c.size
 |_=>0
theorem iy.alloc{E:Env}{h:Tr O}{w:World}{n:Nat}{o:O}{ob:Obj}(g:Good E h w)(hn:E.ι n=none)(ht:n<fN)
  (ho:lY (E.put n w.heap.size 0 (jS ob)) (w.alloc ob) w.heap.size 0 o):
  iy E h w (E.put n w.heap.size 0 (jS ob)) (h.set n (some o)) (w.alloc ob):=by
 have uL:∀m b s,E.ι m=some (b,s)->b≠w.heap.size:=fun m b s e hb=>by have:=g.mU m b s e;omega
 have kC:E.le (E.put n w.heap.size 0 (jS ob)):=Env.rz hn fun m x t e hx=>absurd hx (uL m x t e);have BD:∀b c,E.φ b=some c->b<w.heap.size:=fun b c q=>by
  obtain⟨⟨el,fz,e⟩,_⟩:=g.gM b c q;exact(aQ.1 e).1
 refine⟨kC,⟨?_,?_,?_,g.jm.mono kC,fun b c q=>⟨by rw[jD (BD b c q)];exact(g.gM b c q).1,fun m s hm e=>?_⟩⟩,by simp,rfl,rfl,rfl,fun b hb _=>jD hb,?_,fun _ _ q=>.inl q⟩
 case refine_4=>
  by_cases a:m=n
  . subst a;rw[Env.eY]at e;cases e;exact absurd (BD _ c q) (cF _)
  . rw[Env.fB a]at e;exact(g.gM b c q).2 m s (oz ht hm a) e
 . intro m o' hm;rw[Tr.eS _ _ _ ht]at hm;by_cases e:m=n
   . subst e;rw[aG rfl]at hm;cases hm;exact⟨_,_,Env.eY,ho⟩
   . rw[aI e]at hm;obtain⟨b,s,h1,h2⟩:=g.rel m o' hm;exact⟨b,s,by rw[Env.fB e];exact h1,ik kC (kC.nm m b s h1).2 (jD (g.mU m b s h1)) h2⟩
 . intro m m' b s s' fP hm sW e e';rw[Tr.eS _ _ _ ht]at sW;by_cases a:m=n
   . subst a;rw[Env.eY]at e;have:m'≠m:=fun x=>fP x.symm;rw[Env.fB this]at e';cases e;exact uL _ _ _ e' rfl
   . rw[Env.fB a]at e;replace hm:eC h m:=oz ht hm a;by_cases a':m'=n
     . subst a';rw[Env.eY]at e';cases e';exact uL _ _ _ e rfl
     . rw[Env.fB a']at e';rw[aI a']at sW;exact g.inj m m' b s s' fP hm sW e e'
 . intro m b s e;by_cases a:m=n
   . subst a;rw[Env.eY]at e;cases e;simp
   . rw[Env.fB a]at e;have:=g.mU m b s e;simp;omega
 . intro m b s hm e hb;by_cases a:m=n
   . subst a;rw[Env.eY]at e;cases e;omega
   . rw[Env.fB a]at e;rw[Tr.eS _ _ _ ht,aI a]at hm;exact⟨m,s,hm,e,fun q=>oz ht q a⟩
section
variable{E:Env}{h h':Tr O}{w w':World}{m b s:Nat}{o:O}
theorem iy.write(g:Good E h w)(ht:m<fN)(iz:eC h m)(hm:E.ι m=some (b,s))
  (ED:w'.heap.size=w.heap.size) (HP:w'.tape=w.tape) (hos:w'.os=w.os) (oU:w'.output=w.output)
  (ql:∀x,x≠b->w'.heap[x]? =w.heap[x]?) (ho:lY E w' b s o):iy E h w E (h.set m (some o)) w':=by
 refine⟨E.le_refl,⟨?_,?_,?_,g.jm,fun b' c q=>⟨?_,fun k t hk e=>?_⟩⟩,be,HP,hos,oU,?_,?_,fun _ _ q=>.inl q⟩
 case refine_4=>rw[ql b' fun e=>(g.gM b' c q).2 m s iz (e▸hm)];exact(g.gM b' c q).1
 case refine_5=>
  rcases rO ht hk with⟨a,_⟩|a
  . exact(g.gM b' c q).2 m t iz (a▸e)
  . exact(g.gM b' c q).2 k t a.2 e
 . intro k o' hk;rw[Tr.eS _ _ _ ht]at hk;by_cases e:k=m
   . subst e;rw[aG rfl]at hk;cases hk;exact⟨b,s,hm,ho⟩
   . rw[aI e]at hk;obtain⟨b',s',h1,h2⟩:=g.rel k o' hk;have fP:b'≠b:=by
      intro hb;subst hb;exact g.inj m k b' s s' (fun q=>e q.symm) iz (by rw[hk];simp) hm h1
     exact⟨b',s',h1,ik E.le_refl rfl (ql b' fP) h2⟩
 . intro k k' x t t' fP hk uj e e';refine g.inj k k' x t t' fP ?_ ?_ e e'
   . rcases rO ht hk with⟨q,_⟩|q
     . rw[q];exact iz
     . exact q.2
   . rw[Tr.eS _ _ _ ht]at uj;split at uj
     . rename_i q;rw[q];exact iz.live
     . exact uj
 . intro k x t e;rw[ED];exact g.mU k x t e
 . intro x _ hn;refine ql x ?_;intro hx;subst hx;exact hn m s iz hm
 . intro k x t hk e _;by_cases q:k=m
   . subst q;exact⟨k,t,iz.live,e,fun _=>iz⟩
   . rw[Tr.eS _ _ _ ht,aI q]at hk;exact⟨k,t,hk,e,fun c=>oz ht c q⟩
theorem iy.move{n b s s':Nat}{o:O}(g:Good E h w)(ht:m<fN)(hn:n<fN)(sX:E.ι n=none)(iz:eC h m)(hm:E.ι m=some (b,s))
  (ED:w'.heap.size=w.heap.size) (HP:w'.tape=w.tape) (hos:w'.os=w.os) (oU:w'.output=w.output)
  (ql:∀x,x≠b->w'.heap[x]? =w.heap[x]?) (ho:lY (E.put n b s' (E.β b)) w' b s' o):
  iy E h w (E.put n b s' (E.β b)) ((h.set m none).set n (some o)) w':=by
 have Ka:m≠n:=by intro e;rw[e,sX]at hm;simp at hm
 have kC:E.le (E.put n b s' (E.β b)):=Env.rz sX fun _ _ _ _ _=>rfl;have kH:∀k,((h.set m none).set n (some o)).get k=if k=n then some o else if k=m then none else h.get k:=by
  intro k;rw[Tr.eS _ _ _ hn];split
  . rfl
  . rw[Tr.eS _ _ _ ht]
 have tZ:∀k,eC ((h.set m none).set n (some o)) k->k=n\/(k≠n/\k≠m/\eC h k):=by
  intro k q;rcases rO hn q with q|q
  . exact .inl q.1
  . rcases rO ht q.2 with c|c
    . obtain⟨_,_,c,_⟩:=c;cases c
    . exact .inr ⟨q.1,c.1,c.2⟩
 refine⟨kC,⟨?_,?_,?_,g.jm.mono kC,fun b2 c q=>⟨?_,fun k t hk e=>?_⟩⟩,be,HP,hos,oU,?_,?_,fun _ _ q=>.inl q⟩
 case refine_4=>rw[ql b2 fun e=>(g.gM b2 c q).2 m s iz (e▸hm)];exact(g.gM b2 c q).1
 case refine_5=>
  rcases tZ k hk with a|⟨a,_,a2⟩
  . subst a;rw[Env.eY]at e;cases e;exact(g.gM _ c q).2 m s iz hm
  . rw[Env.fB a]at e;exact(g.gM b2 c q).2 k t a2 e
 . intro k o' hk;rw[kH]at hk;by_cases e:k=n
   . subst e;rw[aG rfl]at hk;cases hk;exact⟨_,_,Env.eY,ho⟩
   . rw[aI e]at hk;by_cases e2:k=m
     . rw[aG e2]at hk;cases hk
     . rw[aI e2]at hk;obtain⟨b',t,h1,h2⟩:=g.rel k o' hk;have fP:b'≠b:=by
        intro hb;subst hb;exact g.inj m k b' s t (fun q=>e2 q.symm) iz (by rw[hk];simp) hm h1
       exact⟨b',t,by rw[Env.fB e];exact h1,ik kC (kC.nm k b' t h1).2 (ql b' fP) h2⟩
 . intro k k' x t t' fP hk uj e e';rw[kH]at uj;rcases tZ k hk with a|⟨a,c,Ps⟩
   . subst a;rw[Env.eY]at e;cases e;have a':k'≠k:=fun q=>fP q.symm;rw[Env.fB a']at e';rw[aI a']at uj;by_cases c:k'=m
     . rw[aG c]at uj;exact uj rfl
     . rw[aI c]at uj;exact g.inj m k' b s t' (fun q=>c q.symm) iz uj hm e'
   . rw[Env.fB a]at e;by_cases a':k'=n
     . subst a';rw[Env.eY]at e';cases e';exact g.inj m k b s t (fun q=>c q.symm) iz Ps.live hm e
     . rw[Env.fB a']at e';rw[aI a']at uj;by_cases c':k'=m
       . rw[aG c']at uj;exact uj rfl
       . rw[aI c']at uj;exact g.inj k k' x t t' fP Ps uj e e'
 . intro k x t e;by_cases a:k=n
   . subst a;rw[Env.eY]at e;cases e;rw[ED];exact g.mU m b s hm
   . rw[Env.fB a]at e;rw[ED];exact g.mU k x t e
 . intro x _ hx;refine ql x ?_;intro q;subst q;exact hx m s iz hm
 . intro k x t hk e _;rw[kH]at hk;by_cases a:k=n
   . subst a;rw[Env.eY]at e;cases e;exact⟨m,s,iz.live,hm,fun _=>iz⟩
   . rw[Env.fB a]at e;rw[aI a]at hk;by_cases c:k=m
     . rw[aG c]at hk;exact absurd rfl hk
     . rw[aI c]at hk;exact⟨k,t,hk,e,fun q=>(tZ k q).elim (fun c=>absurd c a) (·.2.2)⟩
theorem nc(hs:∀m o,h'.get m=some o->h.get m=some o){m:Nat}(k:h'.get m≠none):h.get m≠none:=by
 cases q:h'.get m with
 |none=>exact absurd q k
 |some o=>rw[hs m o q];simp
theorem gr(hs:∀m o,h'.get m=some o->h.get m=some o){m:Nat}(k:eC h' m):eC h m:=by
 obtain⟨o,a,b⟩:=k;exact⟨o,hs m o a,b⟩
theorem Good.sub(g:Good E h w)(hs:∀m o,h'.get m=some o->h.get m=some o):Good E h' w where
 rel:=fun m o hm=>g.rel m o (hs m o hm)
 inj:=fun m m' b s s' fP hm sW e e'=>g.inj m m' b s s' fP (gr hs hm) (nc hs sW) e e'
 mU:=g.mU
 jm:=g.jm
 gM:=fun b c q=>⟨(g.gM b c q).1,fun m s hm=>(g.gM b c q).2 m s (gr hs hm)⟩
theorem iy.forget(g:Good E h w)(ht:m<fN):iy E h w E (h.set m none) w:=by
 have hs:∀k o,(h.set m none).get k=some o->h.get k=some o:=by
  intro k o hk;rw[Tr.eS _ _ _ ht]at hk;split at hk
  . cases hk
  . exact hk
 exact⟨E.le_refl,g.sub hs,aA _,rfl,rfl,rfl,fun _ _ _=>rfl,fun k b s hk e _=>⟨k,s,nc hs hk,e,gr hs⟩,fun _ _ q=>.inl q⟩
theorem Addr.ja(b o n:Nat):(⟨b,o,none⟩:Addr).add n=⟨b,o+n,none⟩:=by
 unfold Addr.add;split
 . rename_i h;subst h;rfl
 . rfl
theorem nf{i:Nat}{c:Array Value}{el:TypeId}{fz:Nat×Nat}(h:w.heap[b]? =some (.cells c el fz)):w.cell? ⟨b,i,none⟩=c[i]?:=by
 simp[World.cell?,h]
end
theorem run_loadCellsFrom{P:Program}{w:World}{b o:Nat}{c:Array Value}{el:TypeId}{fz:Nat×Nat}(h:w.heap[b]? =some (.cells c el fz)):
  ∀(n i:Nat) (gq:Array Value),o+i+n<=c.size->(loadCellsFrom ⟨b,o,none⟩ i n gq).run P w= .ok (gq++((c.toList.drop (o+i)).take n).toArray) w
 |0,i,gq,_=>by simp[loadCellsFrom]
 |n+1,i,gq,hn=>by
  have fJ:o+i<c.size:=by omega
  simp only[loadCellsFrom,Sem.run_bind,run_load,Addr.ja,nf h];rw[bk fJ];simp only[Result.andThen_ok];rw[run_loadCellsFrom h n (i+1) _ be];congr 1;have hd:c.toList.drop (o+i)=c[o+i]::c.toList.drop (o+(i+1)):=by
   rw[bF (by simpa using fJ)];simp[cA]
  rw[hd];simp
theorem run_loadCells{P:Program}{w:World}{b o n:Nat}{c:Array Value}{el:TypeId}{fz:Nat×Nat}(h:w.heap[b]? =some (.cells c el fz))(hn:o+n<=c.size):
  (loadCells ⟨b,o,none⟩ n).run P w= .ok ((c.toList.drop o).take n).toArray w:=by
 unfold loadCells;rw[run_loadCellsFrom h n 0 #[] be];simp
def putCells(c:Array Value)(o:Nat)(vs:List Value):Array Value:=(c.toList.take o++(vs++c.toList.drop (o+vs.length))).toArray
theorem jE{c:Array Value}{o:Nat}{vs:List Value}(h:o+vs.length<=c.size):(putCells c o vs).size=c.size:=by
 simp[putCells];omega
theorem ng{c:Array Value}{o:Nat}{vs:List Value}(h:o+vs.length<=c.size)(j:Nat):
  (putCells c o vs)[j]? =if o<=j/\j<o+vs.length then vs[j-o]? else c[j]?:=by
 simp only[putCells,List.getElem?_toArray];rw[bS];have hl:(List.take o c.toList).length=o:=by simp;omega
 rw[hl];by_cases h1:j<o
 . rw[aG h1,aI be,bL,aG h1];simp
 . rw[aI h1,bS];by_cases h2:j<o+vs.length
   . rw[aG be,aG be]
   . rw[aI be,aI be,bH];simp;congr 1;omega
theorem rC{c:Array Value}{o:Nat}{v:Value}{vs:List Value}(h:o+(vs.length+1)<=c.size):
  putCells (c.setIfInBounds o v) (o+1) vs=putCells c o (v::vs):=by
 have e1:o+1+vs.length<=(c.setIfInBounds o v).size:=by simp;omega
 have e2:o+(v::vs).length<=c.size:=by simpa using h
 apply Array.ext
 . rw[jE e1,jE e2];simp
 . intro j h1 h2;have:(putCells (c.setIfInBounds o v) (o+1) vs)[j]? =(putCells c o (v::vs))[j]?:=by
    rw[ng e1,ng e2];by_cases a:j=o
    . subst a;rw[aI be,aG (by simp)];have hj:j<c.size:=by omega
      simp[hj]
    . by_cases b:o+1<=j/\j<o+1+vs.length
      . rw[aG b,aG (by simp;omega)];have:j-o=(j-(o+1))+1:=by omega
        rw[this];simp
      . rw[aI b,aI (by simp;omega)];rw[Array.getElem?_setIfInBounds];rw[aI (fun q=>a q.symm)]
   rw[bk h1,bk h2]at this;exact cC this
theorem nh{P:Program}{b o:Nat}{el:TypeId}{fz:Nat×Nat}:∀(vs:List Value) (i:Nat) (w:World) (c:Array Value),w.heap[b]? =some (.cells c el fz)->
  mZ fz c.size->(∀v∈vs,v.oneCell'=true)->o+i+vs.length<=c.size->
  ∃w',(storeCells ⟨b,o,none⟩ vs i).run P w= .ok () w'/\w'.heap[b]? =some (.cells (putCells c (o+i) vs) el fz)/\w'.heap.size=w.heap.size/\w'.tape=w.tape/\w'.os=w.os/\w'.output=w.output/\
   ∀x,x≠b->w'.heap[x]? =w.heap[x]?
 | [],i,w,c,h,_,_,hn=>by
   refine⟨w,rfl,?_,rfl,rfl,rfl,rfl,fun _ _=>rfl⟩;rw[h];have:putCells c (o+i) []=c:=by simp[putCells]
   rw[this]
 |v::vs,i,w,c,h,hf,hv,hn=>by
  simp only[aT]at hn;have fJ:o+i<c.size:=by omega
  have hnf:w.frozen? ⟨b,o+i,none⟩=false:=by
   have:=hf (o+i) fJ;simp only[World.frozen?,h];simpa using this
  let w1:=w.setCell ⟨b,o+i,none⟩ v
  have Hx:w1.heap[b]? =some (.cells (c.setIfInBounds (o+i) v) el fz):=by
   simp[w1,World.setCell,cm,h]
  obtain⟨w',e1,e2,e3,e4,e5,e6,e7⟩:=nh (P:=P) (o:=o) vs (i+1) w1 (c.setIfInBounds (o+i) v) Hx (by simpa using hf) (fun v hv'=>hv v (by simp[hv'])) (by simp only[Array.size_setIfInBounds];omega);refine⟨w',?_,?_,by rw[e3];simp[w1],by rw[e4];rfl,by rw[e5];rfl,by rw[e6];rfl,?_⟩
  . simp only[storeCells,Sem.run_bind];rw[run_store P w _ v .plain (hv v (by simp)),Addr.ja,nf h,bk fJ];simp only[hnf,aO,cG,Result.andThen_ok];exact e1
  . rw[e2];have:o+(i+1)=o+i+1:=by omega
    rw[this,rC be]
  . intro x hx;rw[e7 x hx];simp[w1,World.setCell,cm,Ne.symm hx]
theorem sY{E:Env}:∀{v:Value} {x:V},iE v=some x->dF E x v:=by
 intro v x h;cases v with
 |bool b=>simp only[iE,an]at h;subst h;rfl
 |int k n=>simp only[iE,an]at h;subst h;rfl
 |string s=>
  simp only[iE,an]at h;subst h;show Value.string s= .string ⟨s.data.toList.toArray⟩;rw[Array.toArray_toList]
 |pointer a=>cases a<;>simp only[iE,an]at h;. subst h;rfl
             . cases h
 |slice a l c=>
  cases a with
  |none=>match l,c,h with
   |0,0,h=>simp only[iE,an]at h;subst h;exact⟨rfl,rfl,rfl⟩
  |some a=>simp[iE]at h
 |map a=>cases a<;>simp only[iE,an]at h;. subst h;rfl
         . cases h
 |nilFunc=>simp only[iE,an]at h;subst h;rfl
 |nilIface=>simp only[iE,an]at h;subst h;rfl
 |_=>simp[iE]at h
theorem wP{E:Env}:∀{vs:List Value} {xs:ag},nL vs=some xs->dI E xs vs
 | [],xs,h=>by simp only[nL,an]at h;subst h;rfl
 |v::vs,xs,h=>by
  simp only[nL]at h;cases h1:iE v with
  |none=>simp[h1]at h
  |some x=>cases h2:nL vs with
   |none=>simp[h1,h2]at h
   |some r=>simp only[h1,h2,an]at h;subst h;exact⟨v,vs,sY h1,wP h2,rfl⟩
theorem zU{E:Env}{v:Value}{x:V}(h:Ml v=some x):dF E x v:=by
 unfold Ml at h;split at h
 . rename_i cs;cases h1:nL cs.toList with
   |none=>simp[h1]at h
   |some r=>simp only[h1,an]at h;subst h;exact⟨cs.toList,wP h1,by simp⟩
 . exact sY h
section runs
variable{P:Program}{w:World}
section
variable{t:TypeId}
theorem dr{d:TypeDesc}(h:P.underlying t=some d):(underlying t).run P w= .ok d w:=by simp[underlying,h]
theorem eV{s:Nat}(h:kN P t=some s):(sizeOf t).run P w= .ok s w:=by
 unfold kN at h;cases hi:P.info? t with
 |none=>simp[hi]at h
 |some i=>simp[hi]at h;simp[sizeOf,typeInfo,hi,h]
theorem me{z:V}(E:Env)(h:zeroOf P t=some z):∃z',(zeroValue t).run P w= .ok z' w/\dF E z z'/\(∃i,P.info? t=some i/\i.zero=some z'):=by
 unfold zeroOf at h;cases hi:P.info? t with
 |none=>simp[hi]at h
 |some i=>
  simp only[hi]at h;cases hz:i.zero with
  |none=>simp[hz]at h
  |some v=>simp only[hz]at h;exact⟨v,by simp[zeroValue,typeInfo,hi,hz],zU h,i,rfl,hz⟩
theorem rP{b:Bool}(h:NH P t=some b):(isAgg t).run P w= .ok b w:=by
 unfold NH at h;split at h
 . rename_i hu;simp at h;subst h;simp[isAgg,dr hu]
 . rename_i hu;simp at h;subst h;simp[isAgg,dr hu]
 . rename_i d h1 h2 hu;simp at h;subst h;simp only[isAgg,Sem.run_bind,dr hu,Result.andThen_ok]
   first|rfl|(split<;>first|rfl|(exact absurd rfl (h1 _))|(exact absurd rfl (h2 _ _)))
 . cases h
end
end runs
def kf(P:Program)(E:Env)(h:Tr O)(n:Nat)(w:World)(s:Sem Next):R->Prop
 | .val v h' n'=>∃E' w' v',(s.run P w= .ok (.value v') w'\/(s.run P w= .ok .skip w'/\v'=undef))/\dF E' v v'/\iy E h w E' h' w'/\
    (∀m,m≠n->E'.ι m=E.ι m)/\((n'=n/\E'=E)\/n'=n+1)
 | .call f args=>∃c9,dI E args c9/\((s.run P w= .ok (.enter f c9.toArray) w/\callee P f=true)\/(∃m l b,f=P.funcs.size+m/\E.ι m=some (l,b)/\s.run P w=(Instr.yield l c9.toArray).run P w))
 | .mA f c args=>∃c' c9,s.run P w= .ok (.defer { target:=.fn (.func f) c'.toArray,args:=c9.toArray }) w/\dI E c c'/\dI E args c9
 | .recover=>s.run P w= .ok .recover w
 | .panic v=>∃v',s.run P w= .halt (.panic v') w/\dF E v v'
theorem dU{P:Program}{E:Env}{h:Tr O}{n:Nat}{w:World}{s:Sem Next}{v:V}{v':Value}(g:Good E h w)
  (hr:s.run P w= .ok (.value v') w) (hv:dF E v v'):kf P E h n w s (.val v h n):=
 ⟨E,w,v',.inl hr,hv,iy.refl g,fun _ _=>rfl,.inl ⟨rfl,rfl⟩⟩
theorem ow{E:Env}{cs:ag}{c:Array Value}(r:dI E cs c.toList):l9 E 0 cs c:=by
 intro i v h;obtain⟨v',h1,h2⟩:=gC r i v h;exact⟨v',by simpa using h1,h2⟩
theorem kK{h h':Tr O}{n n':Nat}{o:O}(e:newObj h n o=some (h',n')):n<fN/\h'=h.set n (some o)/\n'=n+1:=by
 unfold newObj at e;split at e
 . rename_i q;simp at e;exact⟨q,e.1.symm,e.2.symm⟩
 . cases e
theorem Kb{P:Program}{E:Env}{h h':Tr O}{n n':Nat}{w w1:World}{s:Sem Next}{cs:ag}{c:Array Value}{el:TypeId}{fz:Nat×Nat}{v:V}{v':Value}
  (g:Good E h w) (hn:E.ι n=none) (e:newObj h n (.cells cs)=some (h',n')) (hw:w1.heap=w.heap) (ht:w1.tape=w.tape) (ho:w1.os=w.os) (oU:w1.output=w.output)
  (BD:mZ fz c.size) (hr:s.run P w= .ok (.value v') (w1.alloc (.cells c el fz))) (hc:l9 E 0 cs c)
  (hv:dF (E.put n w.heap.size 0 c.size) v v'):kf P E h n w s (.val v h' n'):=by
 obtain⟨gH,rfl,rfl⟩:=kK e;have g1:Good E h w1:=g.same hw;have hs:w1.heap.size=w.heap.size:=by rw[hw]
 have kC:E.le (E.put n w1.heap.size 0 c.size):=Env.rz hn fun m x t q hx=>by have:=g1.mU m x t q;omega
 have u1:iy E h w E h w1:=⟨E.le_refl,g1,be,ht,ho,oU,fun b _ _=>by rw[hw],fun m _ s hm q _=>⟨m,s,hm,q,id⟩,fun _ _ q=>.inl q⟩;have u:=iy.alloc (ob:=.cells c el fz) (o:=.cells cs) g1 hn gH ⟨c,el,fz,heap_alloc_new,by simp[Env.put,jS],BD,pW kC hc⟩;refine⟨E.put n w1.heap.size 0 c.size,_,v',.inl hr,by rw[hs];exact hv,u1.trans u,fun m hm=>Env.fB hm,.inr rfl⟩
theorem zV{P:Program}{E:Env}{h h':Tr O}{n n':Nat}{w w1:World}{s:Sem Next}{cs:ag}{c:Array Value}{el:TypeId}{v:V}{v':Value}
  (g:Good E h w) (hn:E.ι n=none) (e:newObj h n (.cells cs)=some (h',n')) (hw:w1.heap=w.heap) (ht:w1.tape=w.tape) (ho:w1.os=w.os) (oU:w1.output=w.output)
  (hr:s.run P w= .ok (.value v') (w1.alloc (.cells c el))) (hc:l9 E 0 cs c)
  (hv:dF (E.put n w.heap.size 0 c.size) v v'):kf P E h n w s (.val v h' n'):=
 Kb g hn e hw ht ho oU (fun i _ q=>by simp at q) hr hc hv
theorem HQ{P:Program}{E:Env}{h h':Tr O}{n n':Nat}{w w1:World}{s:Sem Next}{r:Row}{c:Array Value}{el:TypeId}{fz:Nat×Nat}{v:V}{v':Value}
  (g:Good E h w) (hn:E.ι n=none) (J7:r.sc) (e:newObj h n r.EC=some (h',n')) (hw:w1.heap=w.heap) (ht:w1.tape=w.tape) (ho:w1.os=w.os) (oU:w1.output=w.output)
  (BD:mZ fz c.size) (hr:s.run P w= .ok (.value v') (w1.alloc (.cells c el fz))) (hc:l9 E 0 r.iL c)
  (hv:dF (E.put n w.heap.size 0 c.size) v v'):kf P E h n w s (.val v h' n'):=by
 obtain⟨gH,rfl,rfl⟩:=kK e;have g1:Good E h w1:=g.same hw;have hs:w1.heap.size=w.heap.size:=by rw[hw]
 have kC:E.le (E.put n w1.heap.size 0 c.size):=Env.rz hn fun m x t q hx=>by have:=g1.mU m x t q;omega
 have u1:iy E h w E h w1:=⟨E.le_refl,g1,be,ht,ho,oU,fun b _ _=>by rw[hw],fun m _ s hm q _=>⟨m,s,hm,q,id⟩,fun _ _ q=>.inl q⟩;have u:=iy.alloc (ob:=.cells c el fz) (o:=r.EC) g1 hn gH (yq ⟨c,el,_,heap_alloc_new,by simp[Env.put,jS],BD,pW kC hc⟩ J7);refine⟨E.put n w1.heap.size 0 c.size,_,v',.inl hr,by rw[hs];exact hv,u1.trans u,fun m hm=>Env.fB hm,.inr rfl⟩
theorem s7{P:Program}{E:Env}{h h':Tr O}{n n':Nat}{w w1:World}{s:Sem Next}{r:Row}{c:Array Value}{el:TypeId}{v:V}{v':Value}
  (g:Good E h w) (hn:E.ι n=none) (J7:r.sc) (e:newObj h n r.EC=some (h',n')) (hw:w1.heap=w.heap) (ht:w1.tape=w.tape) (ho:w1.os=w.os) (oU:w1.output=w.output)
  (hr:s.run P w= .ok (.value v') (w1.alloc (.cells c el))) (hc:l9 E 0 r.iL c)
  (hv:dF (E.put n w.heap.size 0 c.size) v v'):kf P E h n w s (.val v h' n'):=by
 obtain⟨gH,rfl,rfl⟩:=kK e;have g1:Good E h w1:=g.same hw;have hs:w1.heap.size=w.heap.size:=by rw[hw]
 have kC:E.le (E.put n w1.heap.size 0 c.size):=Env.rz hn fun m x t q hx=>by have:=g1.mU m x t q;omega
 have u1:iy E h w E h w1:=⟨E.le_refl,g1,be,ht,ho,oU,fun b _ _=>by rw[hw],fun m _ s hm q _=>⟨m,s,hm,q,id⟩,fun _ _ q=>.inl q⟩;have u:=iy.alloc (ob:=.cells c el) (o:=r.EC) g1 hn gH (yq ⟨c,el,_,heap_alloc_new,by simp[Env.put,jS],(fun i _ q=>by simp at q),pW kC hc⟩ J7);refine⟨E.put n w1.heap.size 0 c.size,_,v',.inl hr,by rw[hs];exact hv,u1.trans u,fun m hm=>Env.fB hm,.inr rfl⟩
theorem YX{E:Env}{h:Tr O}{w:World}{n z:Nat}(g:Good E h w)(hn:E.ι n=none):E.le (E.put n w.heap.size 0 z):=
 Env.rz hn fun m x t q hx=>by have:=g.mU m x t q;omega
section ops
variable{P:Program}{E:Env}{h:Tr O}{n:Nat}{w:World}
theorem F3(P:Program)(t:TypeId)(z:V):B3 P t z= .cells z.cells\/(z.cells=[.ptr none,.di none 0 0 0]/\B3 P t z= .Bp t false (.di none 0 0 0)):=by
 unfold B3;split
 . rename_i hz;split
   . split
     . split
       . split
         . exact .inr ⟨hz,rfl⟩
         . exact .inl rfl
       . exact .inl rfl
     . exact .inl rfl
   . exact .inl rfl
 . exact .inl rfl
section
variable{t:TypeId}{m s:Nat}{cs:ag}{o k:Nat}{new:ag}
theorem PT{z:V}{h':Tr O}{n':Nat}(g:Good E h w)(hn:E.ι n=none)(hz:zeroOf P t=some z)(e:newObj h n (B3 P t z)=some (h',n')):
  kf P E h n w (do pure (.value (<- Instr.alloc t true (.tuple #[])))) (.val (.ptr (some (n,0))) h' n'):=by
 obtain⟨z',hr,hv,_⟩:=me (w:=w) E hz;rcases F3 P t z with q|⟨hc,q⟩
 case inr=>
  rw[q]at e;obtain⟨gH,rfl,rfl⟩:=kK e;have oV:=ij hv;rw[hc]at oV;obtain⟨p',_,r1,⟨x',_,r2,qm,rfl⟩,hl⟩:=oV;simp only[dI]at qm;subst qm;simp only[dF]at r1;subst r1;have hzc:z'.cells=#[.pointer none,x']:=by apply Array.ext';rw[hl]
  have hu:=iy.alloc (ob:=.cells z'.cells t) (o:=.Bp t false (.di none 0 0 0)) g hn gH ⟨rfl,x',_,by rw[heap_alloc_new,hzc];rfl,by simp[Env.put,jS,hzc],(fun i _ q=>by simp at q),jl (YX g hn) _ _ r2⟩;exact⟨_,_,.pointer (some ⟨w.heap.size,0,none⟩),.inl (by simp[Instr.alloc,hr,newVar,newRow]),⟨_,_,Env.eY,by simp⟩,hu,fun m hm=>Env.fB hm,.inr rfl⟩
 rw[q]at e;refine zV (c:=z'.cells) (el:=t) (w1:=w) (v':=.pointer (some ⟨w.heap.size,0,none⟩)) g hn e rfl rfl rfl rfl ?_ (ow (ij hv)) ⟨_,_,Env.eY,by simp⟩;simp[Instr.alloc,hr,newVar,newRow]
theorem YY{v:V}{v':Value}{h':Tr O}{n':Nat}(g:Good E h w)(hn:E.ι n=none)(hv:dF E v v')(e:newObj h n (.cells v.cells)=some (h',n')):
  kf P E h n w (do pure (.value (<- Instr.box t v'))) (.val (.ptr (some (n,0))) h' n'):=by
 refine zV (c:=v'.cells) (el:=t) (w1:=w) (v':=.pointer (some ⟨w.heap.size,0,none⟩)) g hn e rfl rfl rfl rfl ?_ (ow (ij hv)) ⟨_,_,Env.eY,by simp⟩;simp[Instr.box,newVar,newRow]
theorem nU{c:Array Value}(r:l9 E s cs c){k:Nat}(hk:0<k)(hc:k<=cs.length):s+k<=c.size:=by
 obtain⟨v',h1,_⟩:=r (k-1) (cs[k-1]'(by omega)) (ay _);have:=(aQ.1 h1).1;omega
theorem nV{c:Array Value}(r:l9 E s cs c){o k:Nat}(hk:o+k<=cs.length)(h0:s+o+k<=c.size):
  dI E ((cs.drop o).take k) ((c.toList.drop (s+o)).take k):=by
 refine jz (by simp;omega) fun i v q=>?_;rw[bL]at q ⊢;split at q
 . rename_i hi;rw[aG hi];rw[bH]at q ⊢;obtain⟨v',h1,h2⟩:=r (o+i) v q;exact⟨v',by rw[<- h1];simp[cA],h2⟩
 . cases q
theorem zX{r:ag}(e:cut cs o k=some r):o+k<=cs.length/\r=(cs.drop o).take k:=by
 unfold cut at e;split at e
 . rename_i q;simp at e;exact⟨q,e.symm⟩
 . cases e
theorem jy{b s o:Nat}{cs:ag}{v:V}{c:Array Value}{el:TypeId}{fz:Nat×Nat}(hb:w.heap[b]? =some (.cells c el fz))(r:l9 E s cs c)
  (e:lj P t cs o=some v):∃v',(loadVar t ⟨b,s+o,none⟩).run P w= .ok v' w/\dF E v v':=by
 unfold lj at e;split at e
 . rename_i ha;cases hs:kN P t with
   |none=>simp[hs]at e
   |some k=>
    simp only[hs]at e;cases hc:cut cs o k with
    |none=>simp[hc]at e
    |some x=>
     simp only[hc,bh,an]at e;subst e;obtain⟨h1,rfl⟩:=zX hc;by_cases hk:k=0
     . subst hk;refine⟨.agg #[],?_,[],by simp[dI],rfl⟩;simp[loadVar,rP ha,eV hs,loadCells,loadCellsFrom]
     . have h0:s+o+k<=c.size:=by have:=nU r (k:=o+k) be h1;omega
       refine⟨_,?_,_,nV r h1 h0,rfl⟩;simp[loadVar,rP ha,eV hs,run_loadCells hb h0]
 . rename_i ha;obtain⟨v',h1,h2⟩:=r o v e;refine⟨v',?_,h2⟩;simp[loadVar,rP ha,nf hb,h1]
 . cases e
theorem PU{E:Env}{m b:Nat}{self:Bool}{x:V}{x':Value}(hi:E.ι m=some (b,0))(hx:dF E x x'):l9 E 0 (uv m self x) #[.pointer (if self then some ⟨b,0,none⟩else none),x']:=by
 intro i v q
 match i with
 |0=>
  simp only[uv,bG,an]at q;subst q;refine⟨_,rfl,?_⟩;cases self with
  |true=>exact⟨b,0,hi,rfl⟩
  |false=>rfl
 |1=>
  simp only[uv,cu,bG,an]at q;subst q;exact⟨_,rfl,hx⟩
 |i+2=>simp[uv]at q
theorem Cf{t:TypeId}{a v:V}{a':Value}(g:Good E h w)(ha:dF E a a')(e:loadAt P t h a=some v):
  ∃b s,a'= .pointer (some ⟨b,s,none⟩)/\∃v',(loadVar t ⟨b,s,none⟩).run P w= .ok v' w/\dF E v v':=by
 unfold loadAt at e;split at e
 . rename_i m o;split at e
   . rename_i cs hm;obtain⟨b,s,hi,c,el,fz,hb,_,_,hc⟩:=g.rel m _ hm;obtain⟨b',s',kD,rfl⟩:=ha;rw[hi]at kD;cases kD;obtain⟨v',h1,h2⟩:=jy hb hc e;exact⟨b,s+o,rfl,v',h1,h2⟩
   . rename_i k ks hm;obtain⟨b,s,hi,c,el,fz,hb,_,hc⟩:=g.rel m _ hm;obtain⟨b',s',kD,rfl⟩:=ha;rw[hi]at kD;cases kD;obtain⟨v',h1,h2⟩:=jy hb (mN.2 hc) e;exact⟨b,s+o,rfl,v',h1,h2⟩
   . rename_i k ks hm;obtain⟨b,s,hi,c,el,fz,hb,_,_,hc⟩:=g.rel m _ hm;obtain⟨b',s',kD,rfl⟩:=ha;rw[hi]at kD;cases kD;obtain⟨v',h1,h2⟩:=jy hb hc e;exact⟨b,s+o,rfl,v',h1,h2⟩
   . rename_i cs hm;obtain⟨b,s,hi,c,el,fz,vs,hb,_,_,hd,hc⟩:=g.rel m _ hm;obtain⟨b',s',kD,rfl⟩:=ha;rw[hi]at kD;cases kD;obtain⟨v',h1,h2⟩:=jy hb ((nQ (jg hd)).2 ⟨vs,hd,hc⟩) e;exact⟨b,s+o,rfl,v',h1,h2⟩
   . rename_i T self x hm;obtain⟨b,s,hi,hs,x',fz,hb,_,_,hx⟩:=g.rel m _ hm;obtain⟨b',s',kD,rfl⟩:=ha;rw[hi]at kD;cases kD;subst hs;obtain⟨v',h1,h2⟩:=jy (E:=E) (s:=0) hb (PU hi hx) e;exact⟨b,0+o,rfl,v',h1,h2⟩
   . cases e
 . rename_i cs;obtain⟨b,o,c,vs,rfl,hf,hd,hc⟩:=ha;obtain⟨⟨el,fz,hb⟩,_⟩:=g.gM b c hf;obtain⟨v',h1,h2⟩:=jy hb ((nQ (jg hd)).2 ⟨vs,hd,hc⟩) e;exact⟨b,o,rfl,v',h1,h2⟩
 . cases e
theorem Ud{a v:V}{a':Value}(g:Good E h w)(ha:dF E a a')(e:loadAt P t h a=some v):
  kf P E h n w (do pure (.value (<- Instr.loadAt t a'))) (.val v h n):=by
 obtain⟨b,s,rfl,v',h1,h2⟩:=Cf g ha e;exact dU g (by simp[Instr.loadAt,Instr.sureAddr,h1]) h2
theorem zY{r:ag}{o:Nat}(e:B2 cs o new=some r):o+new.length<=cs.length/\r=cs.take o++(new++cs.drop (o+new.length)):=by
 unfold B2 at e;split at e
 . rename_i q;simp at e;exact⟨q,e.symm⟩
 . cases e
theorem Kc{α:Type}{cs new:List α}{o:Nat}(h:o+new.length<=cs.length)(j:Nat):
  (cs.take o++(new++cs.drop (o+new.length)))[j]? =if o<=j/\j<o+new.length then new[j-o]? else cs[j]?:=by
 rw[bS];have hl:(List.take o cs).length=o:=by simp;omega
 rw[hl];by_cases h1:j<o
 . rw[aG h1,aI be,bL,aG h1]
 . rw[aI h1,bS];by_cases h2:j<o+new.length
   . rw[aG be,aG be]
   . rw[aI be,aI be,bH];congr 1;omega
theorem HR{cs new:ag}{kz:List Value}{c:Array Value}(r:l9 E s cs c)(hn:dI E new kz)(fP:0<new.length)(h:o+new.length<=cs.length):
  s+o+kz.length<=c.size/\l9 E s (cs.take o++(new++cs.drop (o+new.length))) (putCells c (s+o) kz):=by
 have hl:=eL hn;have hb:s+o+kz.length<=c.size:=by have:=nU r (k:=o+new.length) be h;omega
 refine⟨hb,fun i v q=>?_⟩;rw[Kc h]at q;rw[ng hb];split at q
 . rename_i hi;rw[aG be];obtain⟨v',h1,h2⟩:=gC hn _ v q;exact⟨v',by rw[<- h1];congr 1;omega,h2⟩
 . rename_i hi;rw[aI be];exact r i v q
theorem xl{b s:Nat}{ob:O}{r r':Row}{new:ag}{kz:List Value}(g:Good E h w)(gH:m<fN)(hm:h.get m=some ob)(hr:ob.row=some r)(hi:E.ι m=some (b,s))
  (hn:dI E new kz) (fP:0<new.length) (J7:new.all V.scalar=true) (hl:o+new.length<=r.iL.length) (TQ:wk (r.iL.take o++(new++r.iL.drop (o+new.length))) r'.iL) (NM:r.sc->r'.sc):
  ∃w',(storeCells ⟨b,s+o,none⟩ kz).run P w= .ok () w'/\iy E h w E (h.set m (some r'.EC)) w':=by
 obtain⟨b',s',kD,q⟩:=g.rel m _ hm;obtain⟨⟨c,el,fz,hb,hz,hf,hc⟩,YZ⟩:=HO hr q;rw[hi]at kD;cases kD;obtain⟨zZ,DV⟩:=HR hc hn fP hl;have Ke:∀v∈kz,v.oneCell'=true:=by
  intro v hv;obtain⟨i,kD⟩:=List.getElem?_of_mem hv;have fJ:i<new.length:=by rw[<- eL hn];exact(aF.1 kD).1
  obtain⟨v',h1,h2⟩:=gC hn i new[i] (ay fJ);rw[kD]at h1;cases h1;exact uJ h2 (by rw[bn]at J7;exact J7 _ (bY fJ))
 obtain⟨w',e1,e2,e3,e4,e5,e6,e7⟩:=nh (P:=P) (o:=s+o) kz 0 w c hb hf Ke be;refine⟨w',e1,iy.write g gH ⟨_,hm,PR hr⟩ hi e3 e4 e5 e6 e7 ?_⟩;exact yq ⟨_,el,fz,e2,by rw[jE be];exact hz,by rw[jE be];exact hf,yp TQ DV⟩ (NM YZ)
theorem NN{b s:Nat}{cs new:ag}{kz:List Value}(g:Good E h w)(gH:m<fN)(hm:h.get m=some (.cells cs))(hi:E.ι m=some (b,s))
  (hn:dI E new kz) (fP:0<new.length) (J7:new.all V.scalar=true) (hl:o+new.length<=cs.length):
  ∃w',(storeCells ⟨b,s+o,none⟩ kz).run P w= .ok () w'/\iy E h w E (h.set m (some (.cells (cs.take o++(new++cs.drop (o+new.length)))))) w':=
 xl (r':=.vs (cs.take o++(new++cs.drop (o+new.length)))) g gH hm rfl hi hn fP J7 hl (iP _) (fun _=>trivial)
theorem PV{a v:V}{a' v':Value}{h':Tr O}(g:Good E h w)(ha:dF E a a')(hv:dF E v v')(e:storeAt P t h v a=some h'):
  kf P E h n w (do Instr.storeAt t a' v';pure .skip) (.val (.ef []) h' n):=by
 unfold storeAt at e;split at e
 . rename_i m o;split at e
   . rename_i cs hm;split at e
     . rename_i s hs;split at e
       . rename_i hq;obtain⟨h1,h2,h3,h4⟩:=hq;split at e
         . rename_i cs' hsp;obtain rfl:=ew e;obtain⟨kC,rfl⟩:=zY hsp;obtain⟨b,s',hi,rfl⟩:=ha;have nW:=ij hv;obtain⟨w',hr,hu⟩:=NN (P:=P) g h3 hm hi nW be h4 kC;refine⟨E,w',undef,.inr ⟨?_,rfl⟩,⟨[],rfl,rfl⟩,hu,fun _ _=>rfl,.inl ⟨rfl,rfl⟩⟩;have lQ:v'.cells.size=s:=by have:=eL nW;simp at this;omega
           simp[Instr.storeAt,Instr.sureAddr,storeVar,eV hs,lQ,hr]
         . cases e
       . cases e
     . cases e
   . rename_i k ks hm;split at e
     . rename_i s hs;split at e
       . rename_i hq;obtain⟨h1,h2,h3⟩:=hq;split at e
         . rename_i new sX;split at e
           . rename_i kC;obtain rfl:=ew e;have Y0:=pX sX;have Mp:new.length=s:=by have:=aN List.length Y0;simp at this;omega
             obtain⟨b,s',hi,rfl⟩:=ha;have nW:=ij hv;obtain⟨w',hr,hu⟩:=xl (P:=P) (o:=o) (r':=.is k (fS ks o new)) g h3 hm rfl hi nW be (by rw[Y0];simp[V.scalar]) (by rw[Y0];simp[Row.iL];omega)
              (by rw[Y0];simp[Row.iL,fS,aZ,cL,List.map_drop];exact iP _) (fun _=>trivial)
             refine⟨E,w',undef,.inr ⟨?_,rfl⟩,⟨[],rfl,rfl⟩,hu,fun _ _=>rfl,.inl ⟨rfl,rfl⟩⟩;have lQ:v'.cells.size=s:=by have:=eL nW;simp at this;omega
             simp[Instr.storeAt,Instr.sureAddr,storeVar,eV hs,lQ,hr]
           . cases e
         . cases e
       . cases e
     . cases e
   . rename_i cs hm;split at e
     . rename_i s hs;split at e
       . rename_i hq;obtain⟨h1,h2,h3⟩:=hq;split at e
         . rename_i new sX;split at e
           . rename_i kC;obtain rfl:=ew e;have Mp:=uK sX;obtain⟨b,s',hi,rfl⟩:=ha;have nW:=ij hv;have hcn:dI E (D.jO new) v'.cells.toList:=yo sX E _ nW;have Ue:(D.jO new).length=s:=by rw[D.gx,aW];omega
             obtain⟨w',hr,hu⟩:=xl (P:=P) (o:=o) (r:=.ds cs) (r':=.ds (wL cs o new)) g h3 hm rfl hi hcn be (AN (nT sX)) (by simp only[Row.iL,D.gx,aW];omega)
              (by simp[Row.iL,wL,D.gx,aZ,cL,List.map_drop];exact iP _)
              (fun hs x hx=>by
               simp only[wL,aU]at hx;rcases hx with hx|hx|hx
               . exact hs x (List.mem_of_mem_take hx)
               . exact nT sX x hx
               . exact hs x (List.mem_of_mem_drop hx))
             refine⟨E,w',undef,.inr ⟨?_,rfl⟩,⟨[],rfl,rfl⟩,hu,fun _ _=>rfl,.inl ⟨rfl,rfl⟩⟩;have lQ:v'.cells.size=s:=by have:=eL nW;simp at this;omega
             simp[Instr.storeAt,Instr.sureAddr,storeVar,eV hs,lQ,hr]
           . cases e
         . cases e
       . cases e
     . cases e
   . rename_i T self x0 hm;split at e
     . rename_i x hs hcv;split at e
       . rename_i hq;obtain⟨rfl,h3,h4⟩:=hq;obtain rfl:=ew e;obtain⟨b,s',hi,rfl⟩:=ha;obtain⟨b',s,kD,h0,x0',fz,hb,oQ,hf,hx0⟩:=g.rel m _ hm;rw[hi]at kD;cases kD;subst h0;have nW:=ij hv;rw[hcv]at nW;obtain⟨x',_,r1,qm,hl⟩:=nW;simp only[dI]at qm;subst qm;have Y0:v'.cells=#[x']:=by apply Array.ext';rw[hl]
         obtain⟨w',e1,e2,e3,e4,e5,e6,e7⟩:=nh (P:=P) (o:=0+1) [x'] 0 w _ hb hf (fun y hy=>by rw[aq]at hy;subst hy;exact uJ r1 h4) (by simp);refine⟨E,w',undef,.inr ⟨?_,rfl⟩,⟨[],rfl,rfl⟩,iy.write g h3 ⟨_,hm,rfl⟩ hi e3 e4 e5 e6 e7 ⟨rfl,x',fz,?_,oQ,hf,r1⟩,fun _ _=>rfl,.inl ⟨rfl,rfl⟩⟩
         . have lQ:v'.cells.size=1:=by rw[Y0];rfl
           have e1':(storeCells ⟨b,1,none⟩ v'.cells.toList).run P w= .ok () w':=by rw[Y0];simpa using e1
           simp[Instr.storeAt,Instr.sureAddr,storeVar,eV hs,lQ,e1']
         . rw[e2];rfl
       . cases e
     . cases e
   . cases e
 . cases e
end
end ops
def AP(E:Env):List (Nat×V)->List (Nat×Value)->Prop
 | [],l=>l=[]
 |x::xs,l=>∃y ys,y.1=x.1/\dF E x.2 y.2/\AP E xs ys/\l=y::ys
theorem EE(off:Nat):∀(vs:List Value) (k:Nat) (c:Array Value),off+k+vs.length<=c.size->
  (vs.zipIdx k).foldl (fun cs (x:Value×Nat)=>cs.setIfInBounds (off+x.2) x.1) c=putCells c (off+k) vs
 | [],k,c,_=>by simp[putCells]
 |v::vs,k,c,h=>by
  simp only[aT]at h;simp only[List.zipIdx_cons,List.foldl_cons];rw[EE off vs (k+1) _ (by simp;omega)];have:off+(k+1)=off+k+1:=by omega
  rw[this,rC be]
theorem yu{E:Env}{yd:Nat->Option (Nat×Nat)}:∀(parts:List (Nat×V)) (nX:List (Nat×Value)) (cells:ag) (qe:Array Value) (r:ag),
  rL yd cells parts=some r->dI E cells qe.toList->AP E parts nX->∃r',Instr.fill yd qe nX=some r'/\dI E r r'.toList
 | [],_,cells,qe,r,e,hc,hp=>by
   simp only[AP]at hp;subst hp;simp only[rL,an]at e;subst e;exact⟨qe,rfl,hc⟩
 |(i,v)::rest,_,cells,qe,r,e,hc,hp=>by
  obtain⟨⟨i',v'⟩,ys,q1,hv,hr,rfl⟩:=hp;simp only at q1 hv;subst q1;simp only[rL]at e;cases pA:yd i' with
  |none=>simp[pA]at e
  |some p=>
   obtain⟨off,size⟩:=p;simp only[pA]at e;split at e
   . rename_i lQ;cases hs:B2 cells off v.cells with
     |none=>simp[hs]at e
     |some Y1=>
      simp only[hs]at e;obtain⟨kC,rfl⟩:=zY hs;have hcv:=ij hv;have F4:=eL hcv;have hlc:=eL hc;simp only[Array.length_toList]at F4 hlc;have rD:v'.cells.zipIdx.foldl (fun cs (x:Value×Nat)=>cs.setIfInBounds (off+x.2) x.1) qe=putCells qe off v'.cells.toList:=by
       rw[<- Array.foldl_toList,Array.toList_zipIdx];exact EE off v'.cells.toList 0 qe (by simp;omega)
      have ajb:dI E (cells.take off++(v.cells++cells.drop (off+v.cells.length))) (putCells qe off v'.cells.toList).toList:=by
       simp only[putCells];refine iB (Cc hc) (iB hcv ?_);have:off+v'.cells.toList.length=off+v.cells.length:=by simp;omega
       rw[this];exact Cd hc
      obtain⟨r',h1,h2⟩:=yu rest ys _ _ r e ajb hr;refine⟨r',?_,h2⟩;simp only[Instr.fill,pA];rw[aI (by simp;omega)];rw[<- h1,<- rD]
   . cases e
theorem uM{P:Program}:∀(fs:List Field) (uw:List (Nat×Nat)),sN P fs=some uw->
  fs.mapM (fun f=>(P.info? f.type).map fun i=>(f.offset,i.size))=some uw
 | [],uw,h=>by simp[sN]at h;subst h;rfl
 |f::fs,uw,h=>by
  simp only[sN,kN]at h;cases hi:P.info? f.type with
  |none=>simp[hi]at h
  |some i=>
   simp only[hi,bh]at h;cases hr:sN P fs with
   |none=>simp[hr]at h
   |some r=>
    simp only[hr,an]at h;subst h;simp[List.mapM_cons,hi,uM fs r hr]
theorem AQ{z:ag}(hz:0<z.length):∀(n i:Nat),(gQ z n)[i]? =if i<n*z.length then z[i%z.length]? else none
 |0,i=>by simp[gQ]
 |n+1,i=>by
  simp only[gQ,bS];by_cases h:i<z.length
  . rw[aG h,aG (by rw[cN];omega),Nat.mod_eq_of_lt h]
  . rw[aI h,AQ hz n,cN,Nat.one_mul];have:(i-z.length)%z.length=i%z.length:=by rw[Nat.mod_eq_sub_mod (a:=i) be]
    rw[this];by_cases h2:i-z.length<n*z.length
    . rw[aG h2,aG be]
    . rw[aI h2,aI be]
theorem qn{z:ag}:∀n,(gQ z n).length=n*z.length
 |0=>by simp[gQ]
 |n+1=>by simp[gQ,qn n,cN];omega
theorem Cg{E:Env}{z:ag}{z':Array Value}(hz:dI E z z'.toList)(h0:0<z.length)(n:Nat):
  dI E (gQ z n) ((Array.range (n*z.length)).map (z'[·%z'.size]!)).toList:=by
 have hl:z'.size=z.length:=by have:=eL hz;simpa using this
 refine jz (by simp[qn]) fun i v q=>?_;rw[AQ h0]at q;split at q
 . rename_i hi;obtain⟨v',h1,h2⟩:=gC hz _ v q;refine⟨v',?_,h2⟩;have fJ:i%z'.size<z'.size:=Nat.mod_lt _ be;rw[bK]at h1;have mB:z'[i%z'.size]? =some v':=by rw[hl];exact h1
   rw[bK,Array.getElem?_map];rw[Array.getElem?_range];rw[aG hi];simp only[bh];rw[getElem!_pos z' _ fJ];rw[bk fJ]at mB;exact mB
 . cases q
theorem xm{s:Sem Value}{v:V}(e:sO s=some v):∃v',s= .pure v'/\∀E,dF E v v':=by
 cases s with
 |pure v'=>exact⟨v',rfl,fun E=>sY e⟩
 |_=>simp[sO]at e
theorem ga:∀(a b:aa),eG a b=(a==b)
 | [],[]=>rfl
 | [],_::_=>rfl
 |_::_,[]=>rfl
 |a::x,b::y=>by
  simp only[eG];by_cases h:a=b
  . subst h;have:Nat.beq a.toNat a.toNat=true:=cM _;rw[this];simp[ga x y]
  . have:Nat.beq a.toNat b.toNat=false:=by
     cases hh:Nat.beq a.toNat b.toNat with
     |false=>rfl
     |true=>exact absurd (UInt8.toNat_inj.1 (aD hh)) h
    rw[this];have hab:(a==b)=false:=by simpa using h
    simp[hab]
theorem rQ(a b:aa):((⟨a.toArray⟩:ByteArray)==⟨b.toArray⟩)=eG a b:=by
 rw[ga,beq_toListBytes,ByteArray.toList_eq,ByteArray.toList_eq]
theorem s8(a b:aa):((⟨a.toArray⟩:ByteArray).toList==(⟨b.toArray⟩:ByteArray).toList)=eG a b:=by
 rw[<- rQ,beq_toListBytes]
section ops
variable{P:Program}{E:Env}{h:Tr O}{n:Nat}{w:World}
theorem NO{t:TypeId}{parts:List (Nat×V)}{nX:Array (Nat×Value)}{v:V}(hp:AP E parts nX.toList)(e:JY P t parts=some v):
  ∃v',(Instr.build t nX).run P w= .ok v' w/\dF E v v':=by
 unfold JY at e;split at e
 . rename_i z nM hz hu;obtain⟨z',_,hv,i,hi,hiz⟩:=me (w:=w) E hz;cases hs:sN P nM.toList with
   |none=>simp[hs]at e
   |some uw=>
    simp only[hs]at e;cases hf:rL (fun i=>uw[i]?) z.cells parts with
    |none=>simp[hf]at e
    |some cs=>
     simp only[hf,bh,an]at e;subst e;obtain⟨r',h1,h2⟩:=yu parts nX.toList z.cells z'.cells cs hf (ij hv) hp;refine⟨.agg r',run_build w t nX r' ?_,r'.toList,h2,by simp⟩;simp only[Program.built,hi,hu,hiz,uM _ _ hs];simpa using h1
 . rename_i z m Uc hz hu;obtain⟨z',_,hv,i,hi,hiz⟩:=me (w:=w) E hz;cases hs:kN P Uc with
   |none=>simp[hs]at e
   |some s=>
    simp only[hs]at e;cases hf:rL (fun i=>some (i*s,s)) z.cells parts with
    |none=>simp[hf]at e
    |some cs=>
     simp only[hf,bh,an]at e;subst e;obtain⟨r',h1,h2⟩:=yu parts nX.toList z.cells z'.cells cs hf (ij hv) hp;refine⟨.agg r',run_build w t nX r' ?_,r'.toList,h2,by simp⟩;unfold kN at hs;cases hie:P.info? Uc with
     |none=>simp[hie]at hs
     |some ie=>
      simp only[hie,bh,an]at hs;simp only[Program.built,hi,hu,hiz,hie,hs];exact h1
 . cases e
theorem D6{t:TypeId}{cO:Nat}{parts:List (Nat×V)}{nX:Array (Nat×Value)}{r:R}(g:Good E h w)(hn:E.ι n=none)(hp:AP E parts nX.toList)
  (e:oy P t cO parts h n=some r):kf P E h n w (do pure (.value (<- Instr.buildSlice t cO nX))) r:=by
 unfold oy at e;cases he:ux P t with
 |none=>simp[he]at e
 |some el=>
  simp only[he]at e;cases hs:kN P el with
  |none=>simp[hs]at e
  |some s=>
   cases hz:zeroOf P el with
   |none=>simp[hs,hz]at e
   |some z=>
    simp only[hs,hz]at e;split at e
    . rename_i hq;obtain⟨F5,nA,Hy⟩:=hq;cases hf:rL (fun i=>some (i*s,s)) (gQ z.cells cO) parts with
      |none=>simp[hf]at e
      |some cs=>
       simp only[hf]at e;cases ho:newObj h n (.cells cs)with
       |none=>simp[ho]at e
       |some x=>
        obtain⟨h',n'⟩:=x;simp only[ho,an]at e;subst e;obtain⟨z',hzr,hzv,_⟩:=me (w:=w) E hz;have hzc:=ij hzv;have PW:=Cg hzc be cO;rw[Hy]at PW;obtain⟨r',h1,h2⟩:=yu parts nX.toList _ _ cs hf PW hp;have hu:P.underlying t=some (.slice el):=by
         unfold ux at he;split at he
         . rename_i q;simp at he;subst he;exact q
         . cases he
        have iT:r'.size=cO*s:=by
         have a:=eL h2;have b:cs.length=(gQ z.cells cO).length:=yw _ _ _ _ hf;rw[qn,Hy]at b;simpa[b]using a
        refine zV (c:=r') (el:=el) (w1:=w) (v':=.slice (some ⟨w.heap.size,0,none⟩) cO cO) g hn ho rfl rfl rfl rfl ?_ (ow h2) ?_
        . simp only[Instr.buildSlice,Sem.run_bind,dr hu,Result.andThen_ok,eV hs];rw[aI (show ¬(cO*s>2^24)by omega)];by_cases q0:cO*s=0
          . have rR:(Array.range (cO*s)).map (fun x=>(#[]:Array Value)[x%(#[]:Array Value).size]!)=(Array.range (cO*s)).map (z'.cells[·%z'.cells.size]!):=by rw[q0];simp
            rw[aG q0];simp only[Sem.run_bind,Sem.run_pure,Result.andThen_ok];rw[rR,h1];simp[newRow]
          . rw[aI q0];simp only[Sem.run_bind,Sem.run_pure,Result.andThen_ok,hzr];rw[h1];simp[newRow]
        . refine⟨w.heap.size,0,0,cO,Env.eY,fun _=>by simp,aA _,aA _,?_,rfl⟩;simp[Env.put,iT]
    . cases e
where
 yw (yd:Nat->Option (Nat×Nat)):∀(parts:List (Nat×V)) (cells r:ag),rL yd cells parts=some r->r.length=cells.length
  | [],cells,r,e=>by simp only[rL,an]at e;rw[e]
  |(i,v)::rest,cells,r,e=>by
   simp only[rL]at e;split at e
   . cases e
   . split at e
     . split at e
       . rename_i Y1 hs;obtain⟨kC,rfl⟩:=zY hs;rw[yw yd rest _ r e];simp;omega
       . cases e
     . cases e
end ops
section
variable{P:Program}{E:Env}{h:Tr O}{n:Nat}{w:World}
theorem yy{t:TypeId}{cs:ag}{cs':Array Value}{off:Nat}{v:V}(r:dI E cs cs'.toList)(e:wM P t cs off=some v):
  ∃v',(part t cs' off).run P w= .ok v' w/\dF E v v':=by
 unfold wM lj at e;have hl:=eL r;simp only[Array.length_toList]at hl;split at e
 . rename_i ha;cases hs:kN P t with
   |none=>simp[hs]at e
   |some k=>
    simp only[hs]at e;cases hc:cut cs off k with
    |none=>simp[hc]at e
    |some x=>
     simp only[hc,bh,an]at e;subst e;obtain⟨h1,rfl⟩:=zX hc;refine⟨.agg (cs'.extract off (off+k)),by simp[part,rP ha,eV hs],(cs'.toList.drop off).take k,Cc (Cd r),?_⟩;congr 1;apply Array.ext';simp[List.extract_eq_take_drop]
 . rename_i ha;obtain⟨v',h1,h2⟩:=gC r off v e;refine⟨v',?_,h2⟩;rw[bK]at h1;simp[part,rP ha,h1]
 . cases e
end
def V.tag:V->Nat
 | .bool _=>0 | .int _ _=>1 | .str _=>2 | .ptr _=>3 | .di _ _ _ _=>4 | .map _=>5 | .fn _ _ _=>6 | .kE=>7 | .iface _ _=>8 | .nilIface=>9 | .agg _=>10 | .ef _=>11 | .dM _ _ _=>4 | .dw _=>3
def yz:Value->Nat
 | .bool _=>0 | .int _ _=>1 | .string _=>2 | .pointer _=>3 | .slice _ _ _=>4 | .map _=>5 | .func _ _ _=>6 | .nilFunc=>7 | .iface _ _=>8 | .nilIface=>9 | .agg _=>10 | .tuple _=>11
 | .float _ _=>12 | .complex _ _ _=>13 | .chan _=>14
theorem rS{E:Env}:∀{x:V} {v:Value},dF E x v->x.tag=yz v:=by
 intro x v r;cases x with
 |agg cs=>obtain⟨cs',_,rfl⟩:=r;rfl
 |ef cs=>obtain⟨cs',_,rfl⟩:=r;rfl
 |bool b=>simp only[dF]at r;subst r;rfl
 |int k n=>simp only[dF]at r;subst r;rfl
 |str s=>simp only[dF]at r;subst r;rfl
 |ptr a=>cases a<;>simp only[dF]at r;. subst r;rfl
         . obtain⟨b,s,_,rfl⟩:=r;rfl
 |di a l c e=>cases a<;>simp only[dF]at r;. obtain⟨_,_,rfl⟩:=r;rfl
              . obtain⟨b,s,_,_,_,_,_,_,_,rfl⟩:=r;rfl
 |map a=>cases a<;>simp only[dF]at r;. subst r;rfl
         . obtain⟨b,_,rfl⟩:=r;rfl
 |fn f a c=>obtain⟨_,_,_,_,_,_,rfl⟩:=r;rfl
 |kE=>simp only[dF]at r;subst r;rfl
 |iface t x=>obtain⟨_,_,rfl⟩:=r;rfl
 |nilIface=>simp only[dF]at r;subst r;rfl
 |dM f n cs=>obtain⟨⟨_,_,_,rfl,_⟩,_⟩:=r;rfl
 |dw cs=>obtain⟨_,_,_,_,rfl,_⟩:=r;rfl
theorem yA{E:Env}{x:V}{k:IntKind}{m:Int}(r:dF E x (.int k m)):x= .int k m:=by
 have t:=rS r;cases x<;>simp[V.tag,yz]at t;simp only[dF]at r;cases r;rfl
theorem yB{E:Env}{x:V}{s:ByteArray}(r:dF E x (.string s)):∃l,x= .str l:=by
 have t:=rS r;cases x<;>simp[V.tag,yz]at t;exact⟨_,rfl⟩
theorem D7{E:Env}{x:V}{k:FloatKind}{m:Nat}(r:dF E x (.float k m)):False:=by
 have t:=rS r;cases x<;>simp[V.tag,yz]at t
theorem Br{E:Env}{x:V}{k:FloatKind}{m m':Nat}(r:dF E x (.complex k m m')):False:=by
 have t:=rS r;cases x<;>simp[V.tag,yz]at t
theorem PX{E:Env}{x y:V}{x' y':Value}{t:TypeId}(rx:dF E x x')(ry:dF E y y')(hi:∀k m k' m',¬(x= .int k m/\y= .int k' m'))(hs:∀s u,¬(x= .str s/\y= .str u)):
  binOp .eql t x' y'=(do pure (.bool (<- Op.equal t x' y')))/\binOp .neq t x' y'=(do pure (.bool (!(<- Op.equal t x' y')))):=by
 cases x'<;>cases y'<;>first
  |exact⟨rfl,rfl⟩
  |exact absurd ⟨yA rx,yA ry⟩ (hi _ _ _ _)
  |exact(D7 rx).elim
  |exact(Br rx).elim
  |(obtain⟨l,e1⟩:=yB rx;obtain⟨l',e2⟩:=yB ry;exact absurd ⟨e1,e2⟩ (hs _ _))
section
variable{P:Program}{E:Env}{h:Tr O}{n:Nat}{w:World}
theorem s9{d:Nat}{eq:TypeId->V->V->Option Bool}(ih:∀t x y x' y' r,eq t x y=some r->dF E x x'->dF E y y'->(Op.equalIn d t x' y').run P w= .ok r w)
  {xs ys:ag} {Cb J4:Array Value} (rx:dI E xs Cb.toList) (ry:dI E ys J4.toList):∀(fs:List Field) (r:Bool),eqFields P eq fs xs ys=some r->(Op.eqFields d Cb J4 fs).run P w= .ok r w
 | [],r,e=>by simp only[eqFields,an]at e;subst e;rfl
 |f::fs,r,e=>by
  simp only[eqFields]at e;simp only[Op.eqFields];split at e
  . rename_i fP;rw[aG fP];cases h1:wM P f.type xs f.offset with
    |none=>simp[h1]at e
    |some a=>cases h2:wM P f.type ys f.offset with
     |none=>simp[h1,h2]at e
     |some b=>
      simp only[h1,h2]at e;obtain⟨a',p1,p2⟩:=yy (P:=P) (w:=w) rx h1;obtain⟨b',q1,q2⟩:=yy (P:=P) (w:=w) ry h2;cases h3:eq f.type a b with
      |none=>simp[h3]at e
      |some c=>
       have hr:=ih _ _ _ _ _ _ h3 p2 q2;simp only[Sem.run_bind,p1,q1,Result.andThen_ok,hr];cases c with
       |false=>simp only[h3,an]at e;subst e;simp
       |true=>simp only[h3]at e;simp only[Bool.not_true,aO,cG];exact s9 ih rx ry fs r e
  . rename_i fP;rw[aI fP];exact s9 ih rx ry fs r e
theorem F6:∀(d:Nat) (t:TypeId) (x y:V) (x' y':Value) (r:Bool),Mm P d t x y=some r->dF E x x'->dF E y y'->(Op.equalIn d t x' y').run P w= .ok r w:=by
 intro d
 induction d with
 |zero=>intro t x y x' y' r e;simp[Mm]at e
 |succ d ih=>
  intro t x y x' y' r e rx ry;simp only[Mm]at e;split at e
  . rename_i hu;split at e
    . simp only[dF]at rx ry;subst rx;subst ry;obtain rfl:=ew e;simp[Op.equalIn,dr hu]
    . cases e
  . rename_i hu;split at e
    . simp only[dF]at rx ry;subst rx;subst ry;split at e
      . rename_i hk;subst hk;obtain rfl:=ew e;simp[Op.equalIn,dr hu]
      . cases e
    . cases e
  . rename_i hu;split at e
    . simp only[dF]at rx ry;subst rx;subst ry;obtain rfl:=ew e;simp only[Op.equalIn,Sem.run_bind,dr hu,Result.andThen_ok,Sem.run_pure];rw[rQ]
    . cases e
  . rename_i hu;split at e
    . rename_i b;simp only[dF]at rx;subst rx;obtain rfl:=ew e;cases b with
      |none=>simp only[dF]at ry;subst ry;simp[Op.equalIn,dr hu]
      |some p=>obtain⟨_,_,_,rfl⟩:=ry;simp[Op.equalIn,dr hu]
    . rename_i p;obtain rfl:=ew e;obtain⟨_,_,_,rfl⟩:=rx;simp only[dF]at ry;subst ry;simp[Op.equalIn,dr hu]
    . split at e
      . rename_i Uf;obtain⟨⟨rfl,rfl⟩,lQ⟩:=Uf;obtain rfl:=ew e;obtain⟨b,s,h1,rfl⟩:=rx;obtain⟨b',s',h2,rfl⟩:=ry;rw[h1]at h2;cases h2;obtain⟨z,hz⟩:=b9.1 lQ;simp only[Op.equalIn,Sem.run_bind,dr hu,Result.andThen_ok,eV hz];by_cases Y2:z=0
        . simp[Y2]
        . simp[Y2,sameAddr]
      . cases e
    . obtain rfl:=ew e;simp only[dF]at rx;subst rx;obtain⟨_,_,_,_,rfl,_⟩:=ry;simp[Op.equalIn,dr hu]
    . obtain rfl:=ew e;obtain⟨_,_,_,_,rfl,_⟩:=rx;simp only[dF]at ry;subst ry;simp[Op.equalIn,dr hu]
    . cases e
  . rename_i hu;split at e
    . simp only[dF]at rx ry;subst rx;subst ry;obtain rfl:=ew e;simp[Op.equalIn,dr hu]
    . simp only[dF]at rx;subst rx;obtain⟨_,_,rfl⟩:=ry;obtain rfl:=ew e;simp[Op.equalIn,dr hu]
    . simp only[dF]at ry;subst ry;obtain⟨_,_,rfl⟩:=rx;obtain rfl:=ew e;simp[Op.equalIn,dr hu]
    . cases e
  . rename_i nM hu;split at e
    . split at e
      . cases e
      . rename_i z6;obtain⟨Cb,rxs,rfl⟩:=rx;obtain⟨J4,rys,rfl⟩:=ry;have hf:P.fieldsOf t=nM:=by simp[Program.fieldsOf,hu]
        rw[run_equalIn_struct w d t _ _ (by rw[hf];exact hu) (by simpa using z6),hf];exact s9 (fun u a b a' b' r e ra rb=>ih u a b a' b' r e ra rb) (by simpa using rxs) (by simpa using rys) _ _ e
    . cases e
  . rename_i hu;split at e
    . rename_i b _ _ _;obtain⟨_,_,rfl⟩:=rx;obtain rfl:=ew e;cases b with
      |none=>obtain⟨_,_,rfl⟩:=ry;simp[Op.equalIn,dr hu]
      |some p=>obtain⟨_,_,_,_,_,_,_,_,_,rfl⟩:=ry;simp[Op.equalIn,dr hu]
    . obtain rfl:=ew e;obtain⟨_,_,_,_,_,_,_,_,_,rfl⟩:=rx;obtain⟨_,_,rfl⟩:=ry;simp[Op.equalIn,dr hu]
    . split at e
      . obtain rfl:=ew e;obtain⟨⟨a,cP,vs,rfl,_,_,_,h1⟩,_⟩:=rx;obtain⟨_,_,_,rfl,_⟩:=h1 (Nat.succ_pos _);obtain⟨_,_,rfl⟩:=ry;simp[Op.equalIn,dr hu]
      . cases e
    . cases e
  . rename_i hu;split at e
    . rename_i b;simp only[dF]at rx;subst rx;obtain rfl:=ew e;cases b with
      |none=>simp only[dF]at ry;subst ry;simp[Op.equalIn,dr hu]
      |some p=>obtain⟨_,_,rfl⟩:=ry;simp[Op.equalIn,dr hu]
    . obtain rfl:=ew e;obtain⟨_,_,rfl⟩:=rx;simp only[dF]at ry;subst ry;simp[Op.equalIn,dr hu]
    . cases e
  . cases e
end
section
variable{P:Program}{E:Env}{h:Tr O}{n:Nat}{w:World}
theorem Ch:∀s u:aa,ye s u=Op.bytesLess s u
 |_,[]=>by cases ‹aa›<;>rfl
 | [],_::_=>rfl
 |a::x,b::y=>by
  simp only[ye,Op.bytesLess];have h1:(a<b)↔a.toNat<b.toNat:=UInt8.lt_iff_toNat_lt;have h2:(a=b)↔a.toNat=b.toNat:=UInt8.toNat_inj.symm;rcases Nat.lt_trichotomy a.toNat b.toNat with h|h|h
  . have:Nat.blt a.toNat b.toNat=true:=Nat.ble_eq_true_of_le h;rw[this];simp[h1.2 h]
  . have e1:Nat.blt a.toNat b.toNat=false:=by cases q:Nat.blt a.toNat b.toNat with|false=>rfl|true=>exact absurd (au q) be
    have e2:Nat.beq a.toNat b.toNat=true:=by rw[h];exact cM _
    have e3:¬a<b:=fun q=>by have:=h1.1 q;omega
    have e4:a=b:=h2.2 h;rw[e1,e2];simp only[Ch x y,e4];simp
  . have e1:Nat.blt a.toNat b.toNat=false:=by cases q:Nat.blt a.toNat b.toNat with|false=>rfl|true=>exact absurd (au q) be
    have e2:Nat.beq a.toNat b.toNat=false:=by cases q:Nat.beq a.toNat b.toNat with|false=>rfl|true=>exact absurd (aD q) be
    have e3:¬a<b:=fun q=>by have:=h1.1 q;omega
    have e4:¬a=b:=fun q=>by have:=h2.1 q;omega
    rw[e1,e2];simp[e3,e4]
theorem vP(s:aa):(⟨s.toArray⟩:ByteArray).toList=s:=by rw[ByteArray.toList_eq]
theorem PY{op:BinOp}{t:TypeId}{x y:Operand}{a b v:V}{a' b':Value}(g:Good E h w)(ra:dF E a a')(rb:dF E b b')(e:B4 P op t x y a b=some v):
  kf P E h n w (do pure (.value (<- (do eqGuard op t x y a' b';binOp op t a' b')))) (.val v h n):=by
 unfold B4 at e;split at e
 . rename_i k m k' m';simp only[dF]at ra rb;subst ra;subst rb;obtain⟨v',q1,q2⟩:=xm e;refine dU g (v':=v') ?_ (q2 E);have hg:(eqGuard op t x y (.int k m) (.int k' m')).run P w= .ok () w:=by cases op<;>rfl
   simp only[Sem.run_bind,hg,Result.andThen_ok,q1];rfl
 . rename_i s u;simp only[dF]at ra rb;subst ra;subst rb;have hg:(eqGuard op t x y (.string ⟨s.toArray⟩) (.string ⟨u.toArray⟩)).run P w= .ok () w:=by cases op<;>rfl
   cases op<;>simp only[PE]at e<;>first
    |(cases e;done)
    |skip
   . split at e
     . rename_i hl;obtain rfl:=ew e;refine dU g (v':=.string (⟨s.toArray⟩++⟨u.toArray⟩)) ?_ ?_
       . have lQ:¬(((ByteArray.size ⟨s.toArray⟩+ByteArray.size ⟨u.toArray⟩:Nat):Int)>IntKind.i64.max):=by
          have:(IntKind.i64.max:Int)=9223372036854775807:=by decide
          rw[this];show ¬(((s.toArray.size+u.toArray.size:Nat):Int)>9223372036854775807);unfold xe at hl;simp only[List.size_toArray];omega
         simp only[Sem.run_bind,hg,Result.andThen_ok,binOp,Op.stringOp];rw[aI lQ];rfl
       . show Value.string _= .string ⟨(s++u).toArray⟩;congr 1
     . cases e
   . obtain rfl:=ew e;refine dU g (v':=.bool (eG s u)) ?_ rfl;simp only[Sem.run_bind,hg,Result.andThen_ok,binOp,Op.stringOp,s8];rfl
   . obtain rfl:=ew e;refine dU g (v':=.bool (!eG s u)) ?_ rfl;simp only[Sem.run_bind,hg,Result.andThen_ok,binOp,Op.stringOp,s8];rfl
   . obtain rfl:=ew e;refine dU g (v':=.bool (ye s u)) ?_ rfl;simp only[Sem.run_bind,hg,Result.andThen_ok,binOp,Op.stringOp,Ch,vP];rfl
   . obtain rfl:=ew e;refine dU g (v':=.bool (ye s u||eG s u)) ?_ rfl;simp only[Sem.run_bind,hg,Result.andThen_ok,binOp,Op.stringOp,s8,ga,Ch,vP];rfl
   . obtain rfl:=ew e;refine dU g (v':=.bool (!(ye s u||eG s u))) ?_ rfl;simp only[Sem.run_bind,hg,Result.andThen_ok,binOp,Op.stringOp,s8,ga,Ch,vP];rfl
   . obtain rfl:=ew e;refine dU g (v':=.bool (!ye s u)) ?_ rfl;simp only[Sem.run_bind,hg,Result.andThen_ok,binOp,Op.stringOp,Ch,vP];rfl
 . rename_i hni F7;have hb:=PX (t:=t) ra rb (fun k m k' m' q=>hni k m k' m' q.1 q.2) (fun s u q=>F7 s u q.1 q.2);have PZ:∀r,FV P t x y a b=some r->∀op,(op= .eql\/op= .neq)->(eqGuard op t x y a' b').run P w= .ok () w/\(Op.equal t a' b').run P w= .ok r w:=by
    intro r er op oW;unfold FV at er;split at er
    . simp only[dF]at ra rb;subst ra;subst rb;split at er
      . rename_i aje;refine⟨?_,F6 (E:=E) 10000 t _ _ _ _ r er rfl rfl⟩;clear hb e;rcases oW with rfl|rfl<;>cases x<;>cases y<;>first
         |rfl
         |(simp only[isLit,Bool.or_self,aO]at aje)
      . cases er
    . split at er
      . cases er
      . rename_i hg;obtain⟨Cb,rx,rfl⟩:=ra;obtain⟨J4,ry,rfl⟩:=rb;refine⟨run_eqGuard_agg w op t x y _ _ (by simpa using hg),F6 10000 t _ _ _ _ r er ⟨Cb,rx,rfl⟩ ⟨J4,ry,rfl⟩⟩
    . rename_i DW xn;refine⟨?_,F6 10000 t _ _ _ _ r er ra rb⟩;have t1:=rS ra;have t2:=rS rb;rcases oW with rfl|rfl<;>cases a'<;>first
       |rfl
       |(cases b'<;>first
        |rfl
        |(exfalso;cases a<;>simp[V.tag,yz]at t1;cases b<;>simp[V.tag,yz]at t2;exact DW rfl rfl)
        |(exfalso;cases a<;>simp[V.tag,yz]at t1;cases b<;>simp[V.tag,yz]at t2;exact xn _ _ rfl rfl))
   split at e
   . cases hq:FV P t x y a b with
     |none=>simp[hq]at e
     |some r=>
      simp only[hq,bh,an]at e;subst e;obtain⟨m1,m2⟩:=PZ r hq .eql (.inl rfl);refine dU g (v':=.bool r) ?_ rfl;simp only[Sem.run_bind,m1,Result.andThen_ok,hb.1,m2,Sem.run_pure]
   . cases hq:FV P t x y a b with
     |none=>simp[hq]at e
     |some r=>
      simp only[hq,bh,an]at e;subst e;obtain⟨m1,m2⟩:=PZ r hq .neq (.inr rfl);refine dU g (v':=.bool (!r)) ?_ rfl;simp only[Sem.run_bind,m1,Result.andThen_ok,hb.2,m2,Sem.run_pure]
   . cases e
section
variable{t:TypeId}{f:Nat}{x i:V}
theorem Ug{op:UnOp}{x v:V}{x':Value}(g:Good E h w)(r:dF E x x')(e:unV op x=some v):kf P E h n w (do pure (.value (<- Op.unary op x'))) (.val v h n):=by
 unfold unV at e;split at e
 . simp only[dF]at r;subst r;obtain⟨v',q1,q2⟩:=xm e;exact dU g (v':=v') (by rw[q1];rfl) (q2 E)
 . simp only[dF]at r;subst r;obtain⟨v',q1,q2⟩:=xm e;exact dU g (v':=v') (by rw[q1];rfl) (q2 E)
 . cases e
theorem HS{e:TypeId}(q:ux P t=some e):P.underlying t=some (.slice e):=by
 unfold ux at q;split at q
 . rename_i hu;simp at q;subst q;exact hu
 . cases q
theorem F8{v:V}{x':Value}(g:Good E h w)(r:dF E x x')(e:xg P t f x=some v):
  kf P E h n w (do pure (.value (<- Instr.fieldAt t x' f))) (.val v h n):=by
 unfold xg at e;split at e
 . rename_i m o;split at e
   . rename_i fs hu;split at e
     . rename_i fd hf;split at e
       . rename_i k hk;obtain rfl:=ew e;obtain⟨b,s,hi,rfl⟩:=r;refine dU g (v':=.pointer (some ⟨b,s+(o+fd.offset),none⟩)) ?_ ⟨b,s,hi,rfl⟩;simp[Instr.fieldAt,dr hu,hf,Instr.sureAddr,fieldPlace,eV hk,Addr.ja,cA]
       . cases e
     . cases e
   . cases e
 . rename_i cs;split at e
   . rename_i fs hu;split at e
     . rename_i fd hf;split at e
       . rename_i k hk;obtain rfl:=ew e;obtain⟨b,o,c,vs,rfl,BD,hd,hc⟩:=r;refine dU g (v':=.pointer (some ⟨b,o+fd.offset,none⟩)) ?_ ⟨b,_,c,vs.drop fd.offset,rfl,BD,nP hd,fun j w q=>?_⟩
         . simp[Instr.fieldAt,dr hu,hf,Instr.sureAddr,fieldPlace,eV hk,Addr.ja]
         . rw[bH]at q;rw[<- hc _ w q,cA]
       . cases e
     . cases e
   . cases e
 . cases e
theorem P0{v:V}{x':Value}(g:Good E h w)(r:dF E x x')(e:JZ P t f x=some v):
  kf P E h n w (do pure (.value (<- Instr.field t x' f))) (.val v h n):=by
 unfold JZ at e;split at e
 . split at e
   . rename_i fs hu;split at e
     . rename_i fd hf;obtain⟨cs',rc,rfl⟩:=r;obtain⟨v',h1,h2⟩:=yy (P:=P) (w:=w) (cs':=cs'.toArray) (by simpa using rc) e;refine dU g (v':=v') ?_ h2;simp[Instr.field,dr hu,hf,asAgg,h1]
     . cases e
   . cases e
 . cases e
theorem F9{v:V}{x' i':Value}(g:Good E h w)(r:dF E x x')(ri:dF E i i')(e:nO P t x i=some v):
  kf P E h n w (do pure (.value (<- Instr.indexAt t x' i'))) (.val v h n):=by
 unfold nO at e;split at e
 . rename_i k i;simp only[dF]at ri;subst ri;split at e
   . rename_i cO el m o hu;split at e
     . rename_i s hs;split at e
       . rename_i hb;obtain rfl:=ew e;obtain⟨b,sh,hi,rfl⟩:=r;refine dU g (v':=.pointer (some ⟨b,sh+(o+i.toNat*s),none⟩)) ?_ ⟨b,sh,hi,rfl⟩;simp[Instr.indexAt,asIntOf,dr hu,Instr.sureAddr,hb.1,hb.2,eV hs,Addr.ja,cA]
       . cases e
     . cases e
   . rename_i el m o cO cP jv hu;split at e
     . rename_i s hs;split at e
       . rename_i hb;obtain⟨h1,h2,h3⟩:=hb;obtain rfl:=ew e;obtain⟨b,sh,o',gj,hi,q1,q2,q3,q4,rfl⟩:=r;have ho:o'=sh+o:=q1 be;subst ho;refine dU g (v':=.pointer (some ⟨b,sh+(o+i.toNat*s),none⟩)) ?_ ⟨b,sh,hi,rfl⟩;simp[Instr.indexAt,asIntOf,dr hu,h1,h2,eV hs,Addr.ja,cA]
       . cases e
     . cases e
   . rename_i el f cO cs hu;split at e
     . rename_i s hs;split at e
       . rename_i hb;obtain⟨⟨h1,h2⟩,h3⟩:=hb;obtain rfl:=ew e;obtain⟨⟨a,cP,vs,rfl,nA,hd,h0,mG⟩,_⟩:=r;obtain⟨b,o,c,rfl,BD,hc⟩:=mG be;refine dU g (v':=.pointer (some ⟨b,o+i.toNat*s,none⟩)) ?_ ⟨b,_,c,(vs.drop (i.toNat*s)).take s,rfl,BD,sR (nP hd),fun j w q=>?_⟩
         . simp[Instr.indexAt,asIntOf,dr hu,h1,h2,eV hs,Addr.ja]
         . rw[bL]at q;split at q
           . rw[bH]at q;rw[<- hc _ w q,cA]
           . cases q
       . cases e
     . cases e
   . rename_i cO el cs hu;split at e
     . rename_i s hs;split at e
       . rename_i hb;obtain rfl:=ew e;obtain⟨b,o,c,vs,rfl,BD,hd,hc⟩:=r;refine dU g (v':=.pointer (some ⟨b,o+i.toNat*s,none⟩)) ?_ ⟨b,_,c,vs.drop (i.toNat*s),rfl,BD,nP hd,fun j w q=>?_⟩
         . simp[Instr.indexAt,asIntOf,dr hu,Instr.sureAddr,hb.1,hb.2,eV hs,Addr.ja]
         . rw[bH]at q;rw[<- hc _ w q,cA]
       . cases e
     . cases e
   . cases e
 . cases e
theorem P4{v:V}{x' i':Value}(g:Good E h w)(r:dF E x x')(ri:dF E i i')(e:FW P t x i=some v):
  kf P E h n w (do pure (.value (<- Instr.index t x' i'))) (.val v h n):=by
 unfold FW at e;split at e
 . rename_i k i;simp only[dF]at ri;subst ri;split at e
   . rename_i cO el cs hu;split at e
     . rename_i s hs;split at e
       . rename_i hb;obtain⟨cs',rc,rfl⟩:=r;obtain⟨v',h1,h2⟩:=yy (P:=P) (w:=w) (cs':=cs'.toArray) (by simpa using rc) e;refine dU g (v':=v') ?_ h2;simp[Instr.index,asIntOf,dr hu,hb.1,hb.2,eV hs,h1]
       . cases e
     . cases e
   . rename_i s hu;split at e
     . rename_i hb;split at e
       . rename_i b hsb;obtain rfl:=ew e;simp only[dF]at r;subst r;refine dU g (v':=.int .u8 b.toNat) ?_ rfl;have hg:(⟨s.toArray⟩:ByteArray)[i.toNat]? =some b:=by
          obtain⟨fJ,hv⟩:=aF.1 hsb;have lQ:i.toNat<(⟨s.toArray⟩:ByteArray).size:=by show i.toNat<s.toArray.size;simpa using fJ
          rw[getElem?_pos (⟨s.toArray⟩:ByteArray) i.toNat lQ];congr 1
         simp[Instr.index,asIntOf,dr hu,hb,hg]
       . cases e
     . cases e
   . cases e
 . cases e
theorem Kf{vs:ag}{i:Nat}{v:V}{x':Value}(g:Good E h w)(r:dF E (.ef vs) x')(e:vs[i]? =some v):
  kf P E h n w (do pure (.value (<- Instr.extract x' i))) (.val v h n):=by
 obtain⟨Xr,rs,rfl⟩:=r;obtain⟨v',h1,h2⟩:=gC rs i v e;refine dU g (v':=v') ?_ h2;simp[Instr.extract,h1]
theorem D8{v:V}{xt t:TypeId}{ok:Bool}{x':Value}(g:Good E h w)(r:dF E x x')(e:uC P x t ok=some v):
  kf P E h n w (do pure (.value (<- Instr.typeAssert x' xt t ok))) (.val v h n):=by
 unfold uC at e;split at e
 . cases e
 . rename_i d hu hd;simp only[dF]at r;subst r;split at e
   . rename_i ic;cases hz:zeroOf P t with
     |none=>simp[hz]at e
     |some z=>
      simp only[hz,an]at e;subst e;obtain⟨z',hr,hv,_⟩:=me (w:=w) E hz;refine dU g (v':=.tuple #[z',.bool false]) ?_ ⟨[z',.bool false],⟨z',_,hv,⟨.bool false,[],rfl,rfl,rfl⟩,rfl⟩,rfl⟩;cases d<;>first|(exact absurd rfl (hu _))|simp[Instr.typeAssert,dr hd,ic,hr]
   . cases e
 . rename_i d t2 x2 hu hd;obtain⟨y,ry,rfl⟩:=r;split at e
   . rename_i ht;subst ht;obtain rfl:=ew e;cases ok with
     |true=>
      refine dU g (v':=.tuple #[y,.bool true]) ?_ ⟨[y,.bool true],⟨y,_,ry,⟨.bool true,[],rfl,rfl,rfl⟩,rfl⟩,rfl⟩;cases d<;>first|(exact absurd rfl (hu _))|simp[Instr.typeAssert,dr hd]
     |false=>
      refine dU g (v':=y) ?_ ry;cases d<;>first|(exact absurd rfl (hu _))|simp[Instr.typeAssert,dr hd]
   . rename_i ht;split at e
     . rename_i ic;cases hz:zeroOf P t with
       |none=>simp[hz]at e
       |some z=>
        simp only[hz,an]at e;subst e;obtain⟨z',hr,hv,_⟩:=me (w:=w) E hz;refine dU g (v':=.tuple #[z',.bool false]) ?_ ⟨[z',.bool false],⟨z',_,hv,⟨.bool false,[],rfl,rfl,rfl⟩,rfl⟩,rfl⟩;cases d<;>first|(exact absurd rfl (hu _))|simp[Instr.typeAssert,dr hd,ic,hr,ht]
     . cases e
 . cases e
end
end
def nY(E:Env):Option V->Option Value->Prop
 |none,y=>y=none
 |some x,y=>∃y',dF E x y'/\y=some y'
section
variable{P:Program}{E:Env}{h:Tr O}{n:Nat}{w:World}
theorem vQ{d y r:Nat}{x:V}{x':Value}{c:BoundsCode}(e:eK d y (some x)=some r)(rx:dF E x x'):
  (Instr.sliceBound x' y c).run P w= .ok r w/\r<=y:=by
 unfold eK at e;split at e
 . rename_i q;cases q
 . rename_i k i q;cases q;simp only[dF]at rx;subst rx;split at e
   . rename_i hb;obtain rfl:=ew e;refine⟨?_,be⟩;simp[Instr.sliceBound,asIntOf,hb.1,hb.2]
   . cases e
 . cases e
theorem mH{TR:Bool}{cO cP l hh m:Nat}{lo hi mx:Option V}{Uh kD Ui:Option Value}(rl:nY E lo Uh)(rh:nY E hi kD)(rm:nY E mx Ui)
  (hmh:mx=none\/hi≠none) (e1:eK cP cP mx=some m) (e2:eK cO m hi=some hh) (e3:eK 0 hh lo=some l) (iT:cO<=cP):
  (Instr.sliceBounds TR cO cP Uh kD Ui).run P w= .ok (l,hh,m) w/\l<=hh/\hh<=m/\m<=cP:=by
 have low:∀c,((match Uh with|some v=>Instr.sliceBound v hh c|none=>pure 0):Sem Nat).run P w= .ok l w/\l<=hh:=by
  intro c;cases lo with
  |none=>simp only[nY]at rl;subst rl;simp only[eK,an]at e3;subst e3;exact⟨rfl,aY _⟩
  |some x=>obtain⟨x',rx,rfl⟩:=rl;exact vQ e3 rx
 cases mx with
 |none=>
  simp only[nY]at rm;subst rm;simp only[eK,an]at e1;subst e1;cases hi with
  |none=>
   simp only[nY]at rh;subst rh;simp only[eK,an]at e2;subst e2;obtain⟨h1,h2⟩:=low .sliceB;refine⟨?_,h2,iT,aA _⟩;cases Uh<;>simp_all [Instr.sliceBounds]
  |some x=>
   obtain⟨x',rx,rfl⟩:=rh;obtain⟨p1,p2⟩:=vQ (P:=P) (w:=w) (c:=if TR then .sliceAcap else .sliceAlen) e2 rx;obtain⟨h1,h2⟩:=low .sliceB;refine⟨?_,h2,p2,aA _⟩;cases Uh<;>simp_all [Instr.sliceBounds]
 |some y=>
  obtain⟨y',ry,rfl⟩:=rm;obtain⟨p1,p2⟩:=vQ (P:=P) (w:=w) (c:=if TR then .slice3Acap else .slice3Alen) e1 ry;cases hi with
  |none=>rcases hmh with q|q<;>simp at q
  |some x=>
   obtain⟨x',rx,rfl⟩:=rh;obtain⟨q1,q2⟩:=vQ (P:=P) (w:=w) (c:=.slice3B) e2 rx;obtain⟨h1,h2⟩:=low .slice3C;refine⟨?_,h2,q2,p2⟩;cases Uh<;>simp_all [Instr.sliceBounds]
theorem Ga(s:aa)(l hh:Nat):(⟨s.toArray⟩:ByteArray).extract l hh=⟨((s.take hh).drop l).toArray⟩:=by
 apply ByteArray.ext;simp[List.extract_eq_take_drop,List.drop_take]
theorem P5{t:TypeId}{x v:V}{x':Value}{lo hi mx:Option V}{Uh kD Ui:Option Value}(g:Good E h w)(r:dF E x x')(rl:nY E lo Uh)(rh:nY E hi kD)(rm:nY E mx Ui)
  (e:mD P t h x lo hi mx=some v):kf P E h n w (do pure (.value (<- Instr.sliceAt t x' Uh kD Ui))) (.val v h n):=by
 unfold mD at e;split at e
 . cases e
 . rename_i adr;have hmh:mx=none\/hi≠none:=by
    cases mx with
    |none=>exact .inl rfl
    |some _=>cases hi with
     |none=>simp at adr
     |some _=>exact .inr (by simp)
   clear adr;split at e
   . rename_i s hu;cases mx with
     |some _=>simp at e
     |none=>
      simp only[nY]at rm;subst rm;simp only at e;simp only[dF]at r;subst r;cases h2:eK s.length s.length hi with
      |none=>simp[h2]at e
      |some hh=>
       simp only[h2]at e;cases h3:eK 0 hh lo with
       |none=>simp[h3]at e
       |some l=>
        simp only[h3,an]at e;subst e;have lQ:(⟨s.toArray⟩:ByteArray).size=s.length:=by show s.toArray.size=_;simp
        obtain⟨q,q1,q2,_⟩:=mH (P:=P) (w:=w) (TR:=false) (cO:=s.length) (cP:=s.length) (mx:=none) (Ui:=none) rl rh rfl (.inl rfl) rfl h2 h3 (aA _);refine dU g (v':=.string ⟨((s.take hh).drop l).toArray⟩) ?_ rfl;simp only[Sem.run_bind,Instr.sliceAt,dr hu,Result.andThen_ok,Instr.slice,Option.isSome_none,aO,cG,lQ,q,Sem.run_pure,Ga s l hh]
   . rename_i el a cO cP jv hu;split at e
     . rename_i s hs;split at e
       . rename_i hse;cases h1:eK cP cP mx with
         |none=>simp[h1]at e
         |some m=>
          simp only[h1]at e;cases h2:eK cO m hi with
          |none=>simp[h2]at e
          |some hh=>
           simp only[h2]at e;cases h3:eK 0 hh lo with
           |none=>simp[h3]at e
           |some l=>
            simp only[h3,an]at e;subst e;cases a with
            |none=>
             obtain⟨rfl,rfl,rfl⟩:=r;obtain⟨q,q1,q2,q3⟩:=mH (P:=P) (w:=w) (TR:=true) rl rh rm hmh h1 h2 h3 (aA _);have hm:m=0:=by omega
             have hh0:hh=0:=by omega
             have vR:l=0:=by omega
             subst hm;subst hh0;subst vR;refine dU g (v':=.slice none 0 0) ?_ ⟨rfl,rfl,rfl⟩;simp only[Sem.run_bind,Instr.sliceAt,dr hu,Result.andThen_ok,Instr.slice,q,eV hs,Sem.run_pure];rfl
            |some a=>
             obtain⟨bm,o⟩:=a
             have hse:s=jv:=by rcases hse with q|q;. exact q
                               . cases q
             subst hse;obtain⟨b,sh,o',gj,kD,c1,c2,c3,c4,rfl⟩:=r;cases mx with
             |none=>
              simp only[nY]at rm;subst rm;simp only[eK,an]at h1;subst h1;have Uj:eK cO gj hi=some hh:=by
               cases hi with
               |none=>exact h2
               |some y=>
                unfold eK at h2 ⊢;split at h2
                . rename_i q;cases q
                . rename_i k i q;cases q;split at h2
                  . rename_i hb;rw[aG ⟨hb.1,be⟩];exact h2
                  . cases h2
                . cases h2
              obtain⟨q,q1,q2,q3⟩:=mH (P:=P) (w:=w) (TR:=true) (mx:=none) (Ui:=none) (cP:=gj) rl rh rfl (.inl rfl) rfl Uj h3 be;have hhc:hh<=cP:=by
               cases hi with
               |none=>simp only[eK,an]at h2;omega
               |some y=>
                unfold eK at h2;split at h2
                . rename_i q;cases q
                . rename_i k i q;cases q;split at h2
                  . rename_i hb;simp only[an]at h2;omega
                  . cases h2
                . cases h2
              refine dU g (v':=.slice (if gj=l then some ⟨b,o',none⟩else some ⟨b,o'+l*s,none⟩) (hh-l) (gj-l)) ?_ ?_
              . simp only[Sem.run_bind,Instr.sliceAt,dr hu,Result.andThen_ok,Instr.slice,q,eV hs,Sem.run_pure,bh,Addr.ja]
              . by_cases rT:gj=l
                . rw[aG rT];refine⟨b,sh,o',gj-l,kD,fun q=>by omega,be,be,?_,rfl⟩;rw[rT];simp;omega
                . rw[aI rT];refine⟨b,sh,o'+l*s,gj-l,kD,fun q=>?_,be,be,?_,rfl⟩
                  . rw[c1 be];omega
                  . have hm:l*s+(gj-l)*s=gj*s:=by rw[<- cN];congr 1;omega
                    omega
             |some y=>
              obtain⟨y',ry,rfl⟩:=rm;have mB:eK gj gj (some y)=some m:=by
               unfold eK at h1 ⊢;split at h1
               . rename_i q;cases q
               . rename_i k i q;cases q;split at h1
                 . rename_i hb;rw[aG ⟨hb.1,be⟩];exact h1
                 . cases h1
               . cases h1
              have hmc:m<=cP:=by
               unfold eK at h1;split at h1
               . rename_i q;cases q
               . rename_i k i q;cases q;split at h1
                 . rename_i hb;simp only[an]at h1;omega
                 . cases h1
               . cases h1
              obtain⟨q,q1,q2,q3⟩:=mH (P:=P) (w:=w) (TR:=true) (cP:=gj) rl rh (mx:=some y) (Ui:=some y') ⟨y',ry,rfl⟩ hmh mB h2 h3 be;refine dU g (v':=.slice (if m=l then some ⟨b,o',none⟩else some ⟨b,o'+l*s,none⟩) (hh-l) (m-l)) ?_ ?_
              . simp only[Sem.run_bind,Instr.sliceAt,dr hu,Result.andThen_ok,Instr.slice,q,eV hs,Sem.run_pure,bh,Addr.ja]
              . by_cases rT:m=l
                . rw[aG rT];refine⟨b,sh,o',m-l,kD,fun q=>by omega,be,be,?_,rfl⟩;rw[rT];simp;omega
                . rw[aI rT];refine⟨b,sh,o'+l*s,m-l,kD,fun q=>?_,be,aA _,?_,rfl⟩
                  . rw[c1 be];omega
                  . have hm:l*s+(m-l)*s=m*s:=by rw[<- cN];congr 1;omega
                    have hm2:m*s<=gj*s:=cn _ be;omega
       . cases e
     . cases e
   . rename_i el f cO cs hu;have mU:∀{y cP r:Nat} {o:Option V},eK y y o=some r->y<=cP->o≠none->eK cP cP o=some r/\r<=y:=fun {y cP r o} q hq fP=>by
      cases o with
      |none=>exact absurd rfl fP
      |some v=>
       cases v with
       |int k i=>
        simp only[eK]at q ⊢;split at q
        . rename_i hb;obtain rfl:=ew q;exact⟨aG ⟨hb.1,be⟩,be⟩
        . cases q
       |_=>simp only[eK]at q;cases q
     split at e
     . rename_i s hs;split at e
       . rename_i rT;obtain⟨⟨a,cP,vs,rfl,nA,hd,h0,mG⟩,yC⟩:=r;have key:∀(l hh m:Nat),l<=hh->hh<=cO->hh<=m->∀(f':Bool),(f'=true->m=hh)->
           dF E (.dM f' (hh-l) ((cs.drop (l*s)).take ((hh-l)*s))) (.slice (if m=l then a else a.map (·.add (l*s))) (hh-l) (m-l)):=by
          intro l hh m k1 k2 k3 f' hf';refine⟨⟨_,_,(vs.drop (l*s)).take ((hh-l)*s),rfl,be,sR (nP hd),fun q=>by rw[q];simp,fun q=>?_⟩,fun q=>⟨_,by rw[hf' q]⟩⟩;obtain⟨b,o,c,rfl,BD,hc⟩:=mG be;refine⟨b,o+l*s,c,?_,BD,fun j w hw=>?_⟩
          . rw[aI be];simp[Addr.ja]
          . rw[bL]at hw;split at hw
            . rw[bH]at hw;rw[<- hc _ w hw,cA]
            . cases hw
         cases mx with
         |none=>
          simp only[nY]at rm;subst rm;simp only at e;cases h2:eK cO cO hi with
          |none=>simp[h2]at e
          |some hh=>
           simp only[h2]at e;cases h3:eK 0 hh lo with
           |none=>simp[h3]at e
           |some l=>
            simp only[h3,an]at e;subst e;have Uj:eK cO cP hi=some hh/\hh<=cO:=by
             cases hi with
             |none=>simp only[eK,an]at h2 ⊢;exact⟨h2,be⟩
             |some y=>
              obtain⟨q1,q2⟩:=mU h2 nA (by simp);exact⟨by cases y<;>exact q1,q2⟩
            obtain⟨q,q1,q2,q3⟩:=mH (P:=P) (w:=w) (TR:=true) (mx:=none) (Ui:=none) (cP:=cP) rl rh rfl (.inl rfl) rfl Uj.1 h3 nA;refine dU g (v':=.slice (if cP=l then a else a.map (·.add (l*s))) (hh-l) (cP-l)) ?_ (key l hh cP q1 Uj.2 q2 _ fun hf=>?_)
            . simp only[Sem.run_bind,Instr.sliceAt,dr hu,Result.andThen_ok,Instr.slice,q,eV hs,Sem.run_pure]
            . simp only[aC,Bool.not_eq_true',Option.isSome_eq_false_iff,Option.isNone_iff_eq_none]at hf;obtain⟨hf1,rfl⟩:=hf;simp only[eK,an]at h2;obtain⟨a',ha'⟩:=yC hf1;simp only[Value.slice.injEq]at ha';omega
         |some y=>
          simp only at e;cases h1:eK cO cO (some y)with
          |none=>simp[h1]at e
          |some m=>
           simp only[h1]at e;cases h2:eK cO m hi with
           |none=>simp[h2]at e
           |some hh=>
            simp only[h2]at e;cases h3:eK 0 hh lo with
            |none=>simp[h3]at e
            |some l=>
             simp only[h3]at e;split at e
             . rename_i hhm;obtain rfl:=ew e;obtain⟨k1,k2⟩:=mU h1 nA (by simp);obtain⟨q,q1,q2,q3⟩:=mH (P:=P) (w:=w) (TR:=true) (cP:=cP) rl rh rm hmh k1 h2 h3 nA;refine dU g (v':=.slice (if m=l then a else a.map (·.add (l*s))) (hh-l) (m-l)) ?_ (key l hh m q1 be q2 _ fun _=>hhm.symm);simp only[Sem.run_bind,Instr.sliceAt,dr hu,Result.andThen_ok,Instr.slice,q,eV hs,Sem.run_pure]
             . cases e
       . cases e
     . cases e
   . rename_i cO el bm o hu;split at e
     . rename_i s hs;cases h1:eK cO cO mx with
       |none=>simp[h1]at e
       |some m=>
        simp only[h1]at e;cases h2:eK cO m hi with
        |none=>simp[h2]at e
        |some hh=>
         simp only[h2]at e;cases h3:eK 0 hh lo with
         |none=>simp[h3]at e
         |some l=>
          simp only[h3]at e;split at e
          . rename_i hb;obtain rfl:=ew e;obtain⟨F5,Uk,iz⟩:=hb;unfold yf at iz;split at iz
            . rename_i cs hm;have hlc:o+cO*s<=cs.length:=by simpa using iz
              obtain⟨b,sh,kD,rfl⟩:=r;obtain⟨b',sh',zM,c,Xs,fz,wG,lQ,_,DV⟩:=g.rel bm _ hm;rw[kD]at zM;cases zM;obtain⟨q,q1,q2,q3⟩:=mH (P:=P) (w:=w) (TR:=false) rl rh rm hmh h1 h2 h3 (aA _);refine dU g (v':=.slice (some (if m=l then⟨b,sh+o,none⟩else⟨b,sh+o+l*s,none⟩)) (hh-l) (m-l)) ?_ ?_
              . simp only[Sem.run_bind,Instr.sliceAt,dr hu,Result.andThen_ok,Instr.sureAddr,q,eV hs,Sem.run_pure,Addr.ja]
              . have zZ:sh+o+m*s<=E.β b:=by
                 have mG:0<cO*s:=Nat.mul_pos Uk F5;have yD:=nU DV (k:=o+cO*s) be hlc;have HT:m*s<=cO*s:=cn _ q3;omega
                by_cases rT:m=l
                . rw[aG rT];refine⟨b,sh,sh+o,m-l,kD,fun q=>by omega,be,be,?_,rfl⟩;rw[rT];simp;omega
                . rw[aI rT];refine⟨b,sh,sh+o+l*s,m-l,kD,fun q=>by omega,be,aA _,?_,rfl⟩;have hm:l*s+(m-l)*s=m*s:=by rw[<- cN];congr 1;omega
                  omega
            . cases iz
          . cases e
     . cases e
   . cases e
end
end Go.Eng
