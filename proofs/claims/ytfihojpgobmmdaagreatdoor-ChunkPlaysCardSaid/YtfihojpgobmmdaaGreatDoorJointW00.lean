/- The engine: the variables of the program that are known (number, name). No conditions. -/
import GoSem.Core.Ast
import Derived.WalkKit
import Derived.Orders
set_option linter.unusedVariables false
set_option linter.unusedSimpArgs false
set_option linter.unusedSectionVars false
namespace Go.Eng
def jL:List (Nat×Nat):=[(0,0),(1,1),(2,2)]
open Go
abbrev an:=@Option.some.injEq
abbrev aq:=@List.mem_singleton
abbrev au:=@Nat.le_of_ble_eq_true
abbrev ax:=@List.length_append
abbrev ay:=@List.getElem?_eq_getElem
abbrev az:=@Int.natCast_nonneg
abbrev aA:=@Nat.le_refl
abbrev aB:=@Prod.mk.injEq
abbrev aC:=@Bool.and_eq_true
abbrev aD:=@Nat.eq_of_beq_eq_true
abbrev aE:=@List.mem_cons
abbrev aF:=@List.getElem?_eq_some_iff
abbrev aG:=@if_pos
abbrev aH:=@of_decide_eq_true
abbrev aI:=@if_neg
abbrev aJ:=@List.mem_cons_of_mem
abbrev aK:=@of_decide_eq_false
abbrev aL:=@List.not_mem_nil
abbrev aM:=@List.getD_eq_getElem?_getD
abbrev aN:=@congrArg
abbrev aO:=@Bool.false_eq_true
abbrev aP:=@List.mem_cons_self
abbrev aQ:=@Array.getElem?_eq_some_iff
abbrev aS:=@List.length_cons
abbrev aT:=@List.take_length
abbrev aU:=@List.mem_append
abbrev aW:=@Nat.zero_le
abbrev aX:=@List.map_append
abbrev aY:=@List.length_map
abbrev aZ:=@List.mem_of_getElem?
abbrev bf:=@Option.ne_none_iff_exists'
abbrev bg:=@List.length_take
abbrev bh:=@Option.map_some
abbrev bj:=@Nat.mul_one
abbrev bk:=@Array.getElem?_eq_getElem
abbrev bn:=@List.all_eq_true
abbrev bq:=@List.take_of_length_le
abbrev br:=@List.getElem?_map
abbrev bt:=@or_false
abbrev bu:=@List.drop_zero
abbrev bw:=@List.getElem?_append_left
abbrev bz:=@List.append_assoc
abbrev bA:=@List.mem_map
abbrev bB:=@decide_eq_true_eq
abbrev bC:=@decide_eq_false
abbrev bD:=@Nat.lt_of_lt_of_le
abbrev bE:=@List.drop_eq_getElem_cons
abbrev bF:=@List.getElem?_cons_zero
abbrev bG:=@List.getElem?_drop
abbrev bH:=@Nat.zero_add
abbrev bI:=@List.take_add_one
abbrev bJ:=@List.length_replicate
abbrev bK:=@Array.getElem?_toList
abbrev bL:=@decide_eq_true
abbrev bM:=@List.getElem?_take
abbrev bN:=@Nat.lt_or_ge
abbrev bO:=@List.length_nil
abbrev bP:=@List.getElem?_eq_none
abbrev bQ:=@Array.getElem?_append_left
abbrev bR:=@List.getElem?_append
abbrev bS:=@Bool.or_eq_true
abbrev bT:=@List.mem_iff_getElem?
abbrev bU:=@Nat.le_trans
abbrev bV:=@List.map_cons
abbrev bW:=@List.take_append_of_le_length
abbrev bX:=@List.length_drop
abbrev bY:=@List.getElem_mem
abbrev bZ:=@List.mem_append_right
abbrev b7:=@Array.getD_eq_getD_getElem?
abbrev b9:=@Option.isSome_iff_exists
abbrev cg:=@List.nodup_cons
abbrev cj:=@List.getElem?_append_right
abbrev ck:=@List.take_append_drop
abbrev cm:=@Array.getElem?_modify
abbrev cn:=@Nat.mul_le_mul_right
abbrev cq:=@List.forall_mem_cons
abbrev cr:=@List.flatten_append
abbrev ct:=@List.append_nil
abbrev cu:=@List.getElem?_cons_succ
abbrev cz:=@Int.tmod_eq_emod_of_nonneg
abbrev cA:=@Nat.add_assoc
abbrev cB:=@Option.toList_some
abbrev cC:=@Option.some.inj
abbrev cD:=@List.nil_append
abbrev cE:=@Nat.lt_irrefl
abbrev cF:=@if_false
abbrev cG:=@List.length_eq_zero_iff
abbrev cH:=@Nat.mod_two_eq_zero_or_one
abbrev cI:=@List.mem_append_left
abbrev cJ:=@Int.fdiv_eq_ediv_of_nonneg
abbrev cK:=@List.map_take
abbrev cL:=@Nat.beq_refl
abbrev cM:=@Nat.add_mul
abbrev aa:=List UInt8
abbrev ah:=List Prop
abbrev aj:=IntKind.i64
theorem U{α:Sort _}{a b:α}(h:a=b:=by kernel_rfl):a=b:=h
section
variable{p:Prop}{α:Type _}
theorem be(h:p:=by omega):p:=h
theorem dN(h:p:=by decide):p:=h
theorem ahR(n:Nat):Int.ofNat n=(n:Int):=rfl
theorem de(h:p:=by simp only[ahR];omega):p:=h
theorem dI{α:Type}{a:α}{C Q:α->Prop}(h:Q a):∀g∈[a],C g->Q g:=fun _ hg _=>aq.1 hg▸h
theorem jn{l:ah}(h:p)(t:∀a∈l,a):∀a∈p::l,a:=cq.2 ⟨h,t⟩
theorem ek{a b:α}(h:some a=some b):a=b:=cC h
theorem eY{β:Type _}{a c:α}{b d:β}(h:some (a,b)=some (c,d)):a=c/\b=d:=Prod.mk.inj (cC h)
end
inductive D where
 |bool (b:Bool)
 |int (k:IntKind) (n:Int)
 |str (s:aa)
 |dL (n:Nat) (cs:List D)
 |agg (cs:List D)
 deriving Inhabited
abbrev ae:=List (D×D)
abbrev ai:=List D
inductive V where
 |bool (b:Bool)
 |int (k:IntKind) (n:Int)
 |str (s:aa)
 |ptr (a:Option (Nat×Nat))
 |di (a:Option (Nat×Nat)) (cN cO jo:Nat)
 |map (r:Option Nat)
 |fn (f:Fn) (first captured:List V)
 |kA
 |iface (t:TypeId) (v:V)
 |nilIface
 |agg (cs:List V)
 |eo (vs:List V)
 |dL (f:Bool) (n:Nat) (cs:ai)
 |dm (cs:ai)
 deriving Inhabited
abbrev ag:=List V
mutual
def D.iH:D->V
 | .bool b=>.bool b
 | .int k n=>.int k n
 | .str s=>.str s
 | .dL n cs=>.dL false n cs
 | .agg cs=>.agg (D.lN cs)
def D.lN:ai->ag
 | []=>[]
 |x::xs=>x.iH::D.lN xs
end
theorem D.gr:∀l:ai,D.lN l=l.map D.iH
 | []=>rfl
 |x::xs=>by rw[D.lN,D.gr xs];rfl
def D.scalar:D->Bool
 | .agg _=>false
 |_=>true
mutual
def V.OV:V->Option D
 | .bool b=>some (.bool b)
 | .int k n=>some (.int k n)
 | .str s=>some (.str s)
 | .dL _ n cs=>some (.dL n cs)
 | .di none _ _ _=>some (.dL 0 [])
 | .di (some _) 0 _ _=>some (.dL 0 [])
 | .agg cs=>match V.OW cs with
   |some l=>some (.agg l)
   |none=>none
 |_=>none
def V.OW:ag->Option (ai)
 | []=>some []
 |x::xs=>match V.OV x with
  |some d=>match V.OW xs with
   |some l=>match d.scalar with
    |true=>some (d::l)
    |false=>none
   |none=>none
  |none=>none
end
inductive Tr(α:Type) where
 |nil
 |node (v:Option α) (l r:Tr α)
 deriving Inhabited
inductive O where
 |cells (cs:ag)
 |map (es:List (V×V×Nat)) (ef:Nat)
 |nA (s:aa) (pos:Nat)
 |ints (k:IntKind) (ks:List Int)
 |own (k:IntKind) (ks:List Int)
 |deep (cs:ai)
 |iS (el:TypeId) (As:Bool) (s:aa)
 |A3 (t:TypeId) (self:Bool) (x:V)
 |dD (kd:Option IntKind) (es:ae)
 |me
 |loop (st:Bool) (pe:Option Code) (fr:Tr V) (ps:List Nat) (assign body:Code)
 deriving Inhabited
abbrev af:=List (Nat×O)
def O.wr:O->Bool
 | .ints _ _=>false
 |_=>true
def Tr.get{α:Type}:Tr α->Nat->Option α
 | .nil,_=>none
 | .node v l r,k=>
   match k with
   |0=>v
   |k+1=>match k%2 with
    |0=>l.get (k/2)
    |_=>r.get (k/2)
def Tr.q7{α:Type}:Nat->Tr α->Nat->Option α->Tr α
 |0,t,_,_=>t
 |f+1,.nil,k,x=>
  match k with
  |0=>.node x .nil .nil
  |k+1=>match k%2 with
   |0=>.node none (Tr.q7 f .nil (k/2) x) .nil
   |_=>.node none .nil (Tr.q7 f .nil (k/2) x)
 |f+1,.node v l r,k,x=>
  match k with
  |0=>.node x l r
  |k+1=>match k%2 with
   |0=>.node v (Tr.q7 f l (k/2) x) r
   |_=>.node v l (Tr.q7 f r (k/2) x)
def fI:Nat:=4294967296
def Tr.set{α:Type}(t:Tr α)(k:Nat)(x:Option α):Tr α:=Tr.q7 33 t k x
def iz:Value->Option V
 | .bool b=>some (.bool b)
 | .int k n=>some (.int k n)
 | .string s=>some (.str s.data.toList)
 | .pointer none=>some (.ptr none)
 | .slice none 0 0=>some (.di none 0 0 0)
 | .map none=>some (.map none)
 | .nilFunc=>some .kA
 | .nilIface=>some .nilIface
 |_=>none
def nH:List Value->Option (ag)
 | []=>some []
 |v::vs=>match iz v with
  |some x=>match nH vs with
   |some xs=>some (x::xs)
   |none=>none
  |none=>none
def Lv:Value->Option V
 | .agg cs=>match nH cs.toList with
   |some xs=>some (.agg xs)
   |none=>none
 |v=>iz v
def V.cells:V->ag
 | .agg cs=>cs
 |v=>[v]
def V.scalar:V->Bool
 | .agg _ | .eo _=>false
 |_=>true
def kK(P:Program)(t:TypeId):Option Nat:=(P.info? t).map (·.size)
def zeroOf(P:Program)(t:TypeId):Option V:=
 match P.info? t with
 |some i=>match i.zero with
  |some v=>Lv v
  |none=>none
 |none=>none
def MX(P:Program)(t:TypeId):Option Bool:=
 match P.underlying t with
 |some (.struct _)=>some true
 |some (.array _ _)=>some true
 |some _=>some false
 |none=>none
inductive R where
 |val (v:V) (h:Tr O) (n:Nat)
 |call (f:FuncId) (args:ag)
 |me (f:FuncId) (captured args:ag)
 |recover
 |panic (v:V)
section
variable(h:Tr O)(cs:ag)(n o:Nat)
def mM:Option V->Option R
 |some v=>some (.val v h n)
 |none=>none
def newObj(o:O):Option (Tr O×Nat):=
 if n<fI then some (h.set n (some o),n+1)else none
def cut(size:Nat):Option (ag):=
 if o+size<=cs.length then some ((cs.drop o).take size)else none
def BH(new:ag):Option (ag):=
 if o+new.length<=cs.length then some (cs.take o++(new++cs.drop (o+new.length)))else none
end
def kX(P:Program)(t:TypeId)(cs:ag)(o:Nat):Option V:=
 match MX P t with
 |some true=>match kK P t with
  |some s=>(cut cs o s).map .agg
  |none=>none
 |some false=>cs[o]?
 |none=>none
def ue(m:Nat)(self:Bool)(x:V):ag:=[if self then .ptr (some (m,0))else .ptr none,x]
def BI(P:Program)(t:TypeId)(z:V):O:=match z.cells with
 | [.ptr none,.di none 0 0 0]=>match P.underlying t with
   |some (.struct fs)=>match fs[0]? with
    |some f=>match P.underlying f.type with
     |some (.pointer t')=>if Nat.beq t' t then .A3 t false (.di none 0 0 0)else .cells z.cells
     |_=>.cells z.cells
    |none=>.cells z.cells
   |_=>.cells z.cells
 |_=>.cells z.cells
def loadAt(P:Program)(t:TypeId)(h:Tr O):V->Option V
 | .ptr (some (m,o))=>match h.get m with
   |some (.cells cs)=>kX P t cs o
   |some (.ints k ks)=>kX P t (ks.map (.int k)) o
   |some (.own k ks)=>kX P t (ks.map (.int k)) o
   |some (.deep cs)=>kX P t (D.lN cs) o
   |some (.A3 _ self x)=>kX P t (ue m self x) o
   |_=>none
 | .dm cs=>kX P t (D.lN cs) 0
 |_=>none
inductive Row where
 |vs (cs:ag)
 |is (k:IntKind) (ks:List Int)
 |ds (cs:ai)
def Row.iH:Row->ag
 | .vs cs=>cs
 | .is k ks=>ks.map (.int k)
 | .ds cs=>D.lN cs
def Row.Eh:Row->O
 | .vs cs=>.cells cs
 | .is k ks=>.own k ks
 | .ds cs=>.deep cs
def O.row:O->Option Row
 | .cells cs=>some (.vs cs)
 | .own k ks=>some (.is k ks)
 | .deep cs=>some (.ds cs)
 |_=>none
def O.MY:O->Option Row
 | .cells cs=>some (.vs cs)
 | .own k ks=>some (.is k ks)
 | .ints k ks=>some (.is k ks)
 | .deep cs=>some (.ds cs)
 |_=>none
def gX:ag->Option (ai)
 | []=>some []
 |x::r=>match(match x with
  | .bool b=>some (.bool b)
  | .int k n=>some (.int k n)
  | .str s=>some (.str s)
  | .dL _ n cs=>some (.dL n cs)
  | .di none _ _ _=>some (.dL 0 [])
  |_=>none:Option D)with
  |some d=>match gX r with
   |some l=>some (d::l)
   |none=>none
  |none=>none
def oO(k:IntKind):ag->Option (List Int)
 | []=>some []
 | .int k' x::r=>match decide (k'=k),oO k r with
   |true,some l=>some (x::l)
   |_,_=>none
 |_::_=>none
def Row.app:Row->Row->Row
 | .vs a,.vs b=>.vs (a++b)
 | .is k a,.is k' b=>match decide (k'=k)with
   |true=>.is k (a++b)
   |false=>.vs (a.map (.int k)++b.map (.int k'))
 | .is k a,.vs b=>match oO k b with
   |some l=>.is k (a++l)
   |none=>.vs (a.map (.int k)++b)
 | .vs a,.is k b=>match oO k a with
   |some l=>.is k (l++b)
   |none=>.vs (a++b.map (.int k))
 | .ds a,.ds b=>.ds (a++b)
 | .ds a,.vs b=>match gX b with
   |some l=>.ds (a++l)
   |none=>.vs (D.lN a++b)
 | .vs a,.ds b=>match gX a with
   |some l=>.ds (l++b)
   |none=>.vs (a++D.lN b)
 | .ds a,.is k b=>.ds (a++b.map (.int k))
 | .is k a,.ds b=>.ds (a.map (.int k)++b)
def Row.cut(o size:Nat):Row->Option Row
 | .vs cs=>match Eng.cut cs o size with
   |some r=>some (.vs r)
   |none=>none
 | .is k ks=>if o+size<=ks.length then some (.is k ((ks.drop o).take size))else none
 | .ds cs=>if o+size<=cs.length then some (.ds ((cs.drop o).take size))else none
def Row.soft:Row->Bool
 | .ds _=>true
 |_=>false
def Row.flat:Row->Bool
 | .vs cs=>cs.all V.scalar
 | .is _ _=>true
 | .ds _=>true
def wA(ks:ai)(o:Nat)(new:ai):ai:=ks.take o++(new++ks.drop (o+new.length))
def fM(ks:List Int)(o:Nat)(new:List Int):List Int:=ks.take o++(new++ks.drop (o+new.length))
def storeAt(P:Program)(t:TypeId)(h:Tr O)(v:V):V->Option (Tr O)
 | .ptr (some (m,o))=>match h.get m with
   |some (.cells cs)=>
    match kK P t with
    |some s=>
     if v.cells.length=s/\0<s/\m<fI/\v.cells.all V.scalar=true then
      match BH cs o v.cells with
      |some cs'=>some (h.set m (some (.cells cs')))
      |none=>none
     else none
    |none=>none
   |some (.own k ks)=>
    match kK P t with
    |some s=>
     if v.cells.length=s/\0<s/\m<fI then
      match oO k v.cells with
      |some new=>if o+s<=ks.length then some (h.set m (some (.own k (fM ks o new))))else none
      |none=>none
     else none
    |none=>none
   |some (.deep cs)=>
    match kK P t with
    |some s=>
     if v.cells.length=s/\0<s/\m<fI then
      match gX v.cells with
      |some new=>if o+s<=cs.length then some (h.set m (some (.deep (wA cs o new))))else none
      |none=>none
     else none
    |none=>none
   |some (.A3 T self _)=>match kK P t,v.cells with
    |some 1,[x]=>if o=1/\m<fI/\x.scalar=true then some (h.set m (some (.A3 T self x)))else none
    |_,_=>none
   |_=>none
 |_=>none
def rI(xY:Nat->Option (Nat×Nat)):ag->List (Nat×V)->Option (ag)
 |cells,[]=>some cells
 |cells,(i,v)::rest=>
  match xY i with
  |none=>none
  |some (off,size)=>
   if v.cells.length=size then
    match BH cells off v.cells with
    |some p9=>rI xY p9 rest
    |none=>none
   else none
def sH(P:Program):List Field->Option (List (Nat×Nat))
 | []=>some []
 |f::fs=>match kK P f.type with
  |some s=>match sH P fs with
   |some r=>some ((f.offset,s)::r)
   |none=>none
  |none=>none
def Jt(P:Program)(t:TypeId)(parts:List (Nat×V)):Option V:=
 match zeroOf P t,P.underlying t with
 |some z,some (.struct nI)=>
  match sH P nI.toList with
  |some ug=>(rI (fun i=>ug[i]?) z.cells parts).map .agg
  |none=>none
 |some z,some (.array _ Tn)=>
  match kK P Tn with
  |some s=>(rI (fun i=>some (i*s,s)) z.cells parts).map .agg
  |none=>none
 |_,_=>none
def gL(z:ag):Nat->ag
 |0=>[]
 |n+1=>z++gL z n
def uh(P:Program)(t:TypeId):Option TypeId:=
 match P.underlying t with
 |some (.slice e)=>some e
 |_=>none
def ow(P:Program)(t:TypeId)(cN:Nat)(parts:List (Nat×V))(h:Tr O)(n:Nat):Option R:=
 match uh P t with
 |some e=>match kK P e,zeroOf P e with
  |some s,some z=>
   if 0<s/\cN*s<=16777216/\z.cells.length=s then
    match rI (fun i=>some (i*s,s)) (gL z.cells cN) parts with
    |some cs=>match newObj h n (.cells cs)with
     |some (h',n')=>some (.val (.di (some (n,0)) cN cN s) h' n')
     |none=>none
    |none=>none
   else none
  |_,_=>none
 |none=>none
def sI:Sem Value->Option V
 | .pure v=>iz v
 |_=>none
def eE:aa->aa->Bool
 | [],[]=>true
 |a::x,b::y=>match Nat.beq a.toNat b.toNat with
  |true=>eE x y
  |false=>false
 |_,_=>false
def wV:Nat:=9223372036854775807
def xZ:aa->aa->Bool
 |_,[]=>false
 | [],_::_=>true
 |a::x,b::y=>match Nat.blt a.toNat b.toNat with
  |true=>true
  |false=>match Nat.beq a.toNat b.toNat with
   |true=>xZ x y
   |false=>false
def OX(op:BinOp)(a b:aa):Option V:=
 match op with
 | .lss=>some (.bool (xZ a b))
 | .geq=>some (.bool (!xZ a b))
 | .leq=>some (.bool (xZ a b||eE a b))
 | .gtr=>some (.bool (!(xZ a b||eE a b)))
 | .add=>if a.length+b.length<=wV then some (.str (a++b))else none
 | .eql=>some (.bool (eE a b))
 | .neq=>some (.bool (!eE a b))
 |_=>none
def wC(P:Program)(t:TypeId)(cs:ag)(off:Nat):Option V:=kX P t cs off
def eqFields(P:Program)(eq:TypeId->V->V->Option Bool):List Field->ag->ag->Option Bool
 | [],_,_=>some true
 |f::fs,xs,ys=>
  if f.name ≠ "_" then
   match wC P f.type xs f.offset,wC P f.type ys f.offset with
   |some a,some b=>match eq f.type a b with
    |some true=>eqFields P eq fs xs ys
    |some false=>some false
    |none=>none
   |_,_=>none
  else eqFields P eq fs xs ys
def Lw(P:Program):Nat->TypeId->V->V->Option Bool
 |0,_,_,_=>none
 |d+1,t,x,y=>
  match P.underlying t with
  |some .bool=>match x,y with
   | .bool a,.bool b=>some (a==b)
   |_,_=>none
  |some (.int _)=>match x,y with
   | .int k a,.int k' b=>if k=k' then some (a==b)else none
   |_,_=>none
  |some .string=>match x,y with
   | .str a,.str b=>some (eE a b)
   |_,_=>none
  |some (.pointer el)=>match x,y with
   | .ptr none,.ptr b=>some b.isNone
   | .ptr (some _),.ptr none=>some false
   | .ptr (some (m,o)),.ptr (some (m',o'))=>if(m=m'/\o=o')/\(kK P el).isSome=true then some true else none
   | .ptr none,.dm _=>some false
   | .dm _,.ptr none=>some false
   |_,_=>none
  |some (.interface _)=>match x,y with
   | .nilIface,.nilIface=>some true
   | .nilIface,.iface _ _=>some false
   | .iface _ _,.nilIface=>some false
   |_,_=>none
  |some (.struct nI)=>match x,y with
   | .agg xs,.agg ys=>if P.stoodInHeld t then none else eqFields P (fun u a b=>Lw P d u a b) nI.toList xs ys
   |_,_=>none
  |some (.slice _)=>match x,y with
   | .di none _ _ _,.di b _ _ _=>some b.isNone
   | .di (some _) _ _ _,.di none _ _ _=>some false
   | .dL _ n _,.di none _ _ _=>match n with
     |_+1=>some false
     |0=>none
   |_,_=>none
  |some (.map _ _)=>match x,y with
   | .map none,.map b=>some b.isNone
   | .map (some _),.map none=>some false
   |_,_=>none
  |_=>none
def isLit:Operand->Bool
 | .const _=>true
 |_=>false
def Fx(P:Program)(t:TypeId)(x y:Operand)(a b:V):Option Bool:=
 match a,b with
 | .nilIface,.nilIface=>if isLit x||isLit y then Lw P 10000 t a b else none
 | .agg _,.agg _=>if P.eqGuardType P.depth t then none else Lw P 10000 t a b
 |_,_=>Lw P 10000 t a b
def BJ(P:Program)(op:BinOp)(t:TypeId)(x y:Operand)(a b:V):Option V:=
 match a,b with
 | .int k m,.int k' n=>sI (binOp op t (.int k m) (.int k' n))
 | .str s,.str u=>OX op s u
 |a,b=>match op with
  | .eql=>(Fx P t x y a b).map .bool
  | .neq=>(Fx P t x y a b).map fun r=>.bool (!r)
  |_=>none
def unV(op:UnOp):V->Option V
 | .int k n=>sI (Op.unary op (.int k n))
 | .bool b=>sI (Op.unary op (.bool b))
 |_=>none
def BK(s:aa):ag:=s.map fun b=>.int .u8 b.toNat
def dP(s:aa):List Int:=s.map fun b=>(b.toNat:Int)
def eM(ks:List Int):aa:=ks.map fun n=>UInt8.ofNat n.toNat
def uj:Option O->Option (aa)
 |some (.iS _ _ s)=>some s
 |_=>none
def Au:Option O->Option (List Int)
 |some (.own .u8 ks)=>some ks
 |some (.ints .u8 ks)=>some ks
 |_=>none
def qK:ag->Option (aa)
 | []=>some []
 | .int .u8 n::vs=>match qK vs with
   |some bs=>some (UInt8.ofNat n.toNat::bs)
   |none=>none
 |_::_=>none
def qa(P:Program)(Lx dst:TypeId)(v:V)(h:Tr O)(n:Nat):Option R:=
 match P.underlying Lx,P.underlying dst,v with
 |some _,some (.int k),.int _ m=>some (.val (.int k (k.wrap m)) h n)
 |some _,some .string,.str s=>some (.val (.str s) h n)
 |some .string,some (.slice e),.str s=>
  match P.underlying e with
  |some (.int .u8)=>match newObj h n (.own .u8 (dP s))with
   |some (h',n')=>some (.val (.di (some (n,0)) s.length s.length 1) h' n')
   |none=>none
  |_=>none
 |some (.slice e),some .string,.dL _ 0 _=>
  match P.underlying e with
  |some (.int .u8)=>some (.val (.str []) h n)
  |_=>none
 |some (.slice e),some .string,.di none _ _ _=>
  match P.underlying e with
  |some (.int .u8)=>some (.val (.str []) h n)
  |_=>none
 |some (.slice e),some .string,.di (some (m,o)) cN _ jo=>
  match P.underlying e with
  |some (.int .u8)=>if jo=1 then(match uj (h.get m)with
   |some s0=>if cN=0\/o+cN<=s0.length then some (.val (.str ((s0.drop o).take cN)) h n)else none
   |none=>match Au (h.get m)with
   |some ks=>if cN=0\/o+cN<=ks.length then some (.val (.str (eM ((ks.drop o).take cN))) h n)else none
   |none=>match cN with
   |0=>some (.val (.str []) h n)
   |_=>match h.get m with
    |some (.cells cs)=>match cut cs o cN with
     |some bs=>match qK bs with
      |some s=>some (.val (.str s) h n)
      |none=>none
     |none=>none
    |_=>none)else none
  |_=>none
 |_,_,_=>none
def tS(ks:List Int):Nat->List Int
 |0=>[]
 |n+1=>ks++tS ks n
def A4(ks:ai):Nat->ai
 |0=>[]
 |n+1=>ks++A4 ks n
def vB(z:ag)(n:Nat):Row:=match z with
 | .int k x::r=>match oO k (.int k x::r)with
   |some ks=>.is k (tS ks n)
   |none=>match gX (.int k x::r)with
    |some ds=>.ds (A4 ds n)
    |none=>.vs (gL (.int k x::r) n)
 |z=>match gX z with
  |some ds=>.ds (A4 ds n)
  |none=>.vs (gL z n)
def nJ(P:Program)(t:TypeId)(l c:V)(h:Tr O)(n:Nat):Option R:=
 match uh P t,l,c with
 |some e,.int _ l,.int _ c=>
  match P.info? e,zeroOf P e with
  |some i,some z=>
   let l':=IntKind.i64.wrap l
   let c':=IntKind.i64.wrap c
   if 0<i.size/\z.cells.length=i.size/\0<=l'/\l'<=c'/\i.bytes*c'<=281474976710656 then
    match newObj h n (vB z.cells c'.toNat).Eh with
    |some (h',n')=>some (.val (.di (some (n,0)) l'.toNat c'.toNat i.size) h' n')
    |none=>none
   else none
  |_,_=>none
 |_,_,_=>none
def eJ(um:Nat)(y:Nat):Option V->Option Nat
 |none=>some um
 |some (.int _ i)=>if 0<=i/\i<=y then some i.toNat else none
 |some _=>none
def x4(h:Tr O)(m k:Nat):Bool:=
 match h.get m with
 |some (.cells cs)=>decide (k<=cs.length)
 |_=>false
def mq(P:Program)(t:TypeId)(hp:Tr O)(x:V)(lo hi mx:Option V):Option V:=
 if mx.isSome=true/\hi.isSome=false then none else
 match P.underlying t,x with
 |some .string,.str s=>
  match mx with
  |some _=>none
  |none=>match eJ s.length s.length hi with
   |some h=>match eJ 0 h lo with
    |some l=>some (.str ((s.take h).drop l))
    |none=>none
   |none=>none
 |some (.slice e),.di a cN cO jo=>
  match kK P e with
  |some s=>if s=jo\/a=none then
    match eJ cO cO mx with
    |some m=>match eJ cN m hi with
     |some h=>match eJ 0 h lo with
      |some l=>some (.di (match a with|none=>none|some (b,o)=>some (b,o+l*jo)) (h-l) (m-l) jo)
      |none=>none
     |none=>none
    |none=>none
   else none
  |none=>none
 |some (.slice e),.dL f cN cs=>
  match kK P e with
  |some s=>if cs.length=cN*s then
    match mx with
    |none=>match eJ cN cN hi with
     |some h=>match eJ 0 h lo with
      |some l=>some (.dL (f&& !hi.isSome) (h-l) ((cs.drop (l*s)).take ((h-l)*s)))
      |none=>none
     |none=>none
    |some m=>match eJ cN cN (some m)with
     |some m=>match eJ cN m hi with
      |some h=>match eJ 0 h lo with
       |some l=>if h=m then some (.dL true (h-l) ((cs.drop (l*s)).take ((h-l)*s)))else none
       |none=>none
      |none=>none
     |none=>none
   else none
  |none=>none
 |some (.array n e),.ptr (some (b,o))=>
  match kK P e with
  |some s=>
   match eJ n n mx with
   |some m=>match eJ n m hi with
    |some h=>match eJ 0 h lo with
     |some l=>if 0<s/\0<n/\x4 hp b (o+n*s)=true then some (.di (some (b,o+l*s)) (h-l) (m-l) s)else none
     |none=>none
    |none=>none
   |none=>none
  |none=>none
 |_,_=>none
def wW(P:Program)(t:TypeId)(f:Nat):V->Option V
 | .ptr (some (m,o))=>match P.underlying t with
   |some (.struct fs)=>match fs[f]? with
    |some fd=>match kK P fd.type with
     |some (_+1)=>some (.ptr (some (m,o+fd.offset)))
     |_=>none
    |none=>none
   |_=>none
 | .dm cs=>match P.underlying t with
   |some (.struct fs)=>match fs[f]? with
    |some fd=>match kK P fd.type with
     |some (_+1)=>some (.dm (cs.drop fd.offset))
     |_=>none
    |none=>none
   |_=>none
 |_=>none
def Ju(P:Program)(t:TypeId)(f:Nat):V->Option V
 | .agg cs=>match P.underlying t with
   |some (.struct fs)=>match fs[f]? with
    |some fd=>wC P fd.type cs fd.offset
    |none=>none
   |_=>none
 |_=>none
def nL(P:Program)(t:TypeId)(x ix:V):Option V:=
 match ix with
 | .int _ i=>
   match P.underlying t,x with
   |some (.array cN e),.ptr (some (m,o))=>
    match kK P e with
    |some s=>if 0<=i/\i<cN then some (.ptr (some (m,o+i.toNat*s)))else none
    |none=>none
   |some (.slice e),.di (some (m,o)) cN _ jo=>
    match kK P e with
    |some s=>if 0<=i/\i<cN/\s=jo then some (.ptr (some (m,o+i.toNat*s)))else none
    |none=>none
   |some (.slice e),.dL _ cN cs=>
    match kK P e with
    |some s=>if(0<=i/\i<cN)/\cs.length=cN*s then some (.dm ((cs.drop (i.toNat*s)).take s))else none
    |none=>none
   |some (.array cN e),.dm cs=>
    match kK P e with
    |some s=>if 0<=i/\i<cN then some (.dm (cs.drop (i.toNat*s)))else none
    |none=>none
   |_,_=>none
 |_=>none
def Fy(P:Program)(t:TypeId)(x ix:V):Option V:=
 match ix with
 | .int _ i=>
   match P.underlying t,x with
   |some (.array cN e),.agg cs=>
    match kK P e with
    |some s=>if 0<=i/\i<cN then wC P e cs (i.toNat*s)else none
    |none=>none
   |some .string,.str s=>
    if 0<=i then(match s[i.toNat]? with
     |some b=>some (.int .u8 b.toNat)
     |none=>none)else none
   |_,_=>none
 |_=>none
def x5:TypeDesc->V->V->Option Bool
 | .int _,.int k a,.int k' b=>if k=k' then some (a==b)else none
 | .string,.str a,.str b=>some (eE a b)
 |_,_,_=>none
def iO:D->D->Bool
 | .int k a,.int k' b=>decide (k=k')&&decide (a=b)
 | .str a,.str b=>eE a b
 |_,_=>false
def gA:Option IntKind->D->Bool
 |some k,.int k' _=>decide (k'=k)
 |none,.str _=>true
 |_,_=>false
def mw:TypeDesc->Option IntKind->Bool
 | .int k,some k'=>decide (k=k')
 | .string,none=>true
 |_,_=>false
def dc(k:D):ae->Option D
 | []=>none
 |e::es=>match iO k e.1 with
  |true=>some e.2
  |false=>dc k es
def gY(k v:D):ae->ae
 | []=>[(k,v)]
 |e::es=>match iO k e.1 with
  |true=>(k,v)::es
  |false=>e::gY k v es
def lB(k:D):ae->ae
 | []=>[]
 |e::es=>match iO k e.1 with
  |true=>es
  |false=>e::lB k es
def D.fS(z:V):Option D->V
 |some d=>d.iH
 |none=>z
def keyOf:V->Option D
 | .int k n=>some (.int k n)
 | .str s=>some (.str s)
 |_=>none
def uo(kd:TypeDesc)(k:V):List (V×V×Nat)->Nat->Option (Option (Nat×V×V×Nat))
 | [],_=>some none
 |e::es,i=>
  match x5 kd k e.1 with
  |some true=>some (some (i,e))
  |some false=>uo kd k es (i+1)
  |none=>none
def BL:TypeDesc->V->Bool
 | .int _,.int _ _=>true
 | .string,.str _=>true
 |_,_=>false
def V.Wx(h:Tr O):V->Option O
 | .map (some r)=>h.get r
 |_=>none
def vC(P:Program)(t:TypeId)(h:Tr O)(x k:V)(ok:Bool):Option V:=
 match P.underlying t with
 |some (.map kt et)=>match P.underlying kt,zeroOf P et with
  |some kd,some z=>
   match x,x.Wx h with
   | .map (some _),some (.dD kk es)=>match keyOf k with
     |some k=>if mw kd kk&&gA kk k then some (if ok then .eo [D.fS z (dc k es),.bool (dc k es).isSome]else D.fS z (dc k es))else none
     |none=>none
   |x,_=>
   if BL kd k then
    match(match x with
     | .map none=>some []
     | .map (some r)=>(match h.get r with
       |some (.map es _)=>some es
       |_=>none)
     |_=>none:Option (List (V×V×Nat)))with
    |some es=>match uo kd k es 0 with
     |some (some (_,_,v,_))=>some (if ok then .eo [v,.bool true]else v)
     |some none=>some (if ok then .eo [z,.bool false]else z)
     |none=>none
    |none=>none
   else none
  |_,_=>none
 |_=>none
def sJ{α:Type}:List α->Nat->(α->α)->List α
 | [],_,_=>[]
 |x::xs,0,f=>f x::xs
 |x::xs,i+1,f=>x::sJ xs i f
def sK(P:Program)(t:TypeId)(h:Tr O)(n:Nat)(m k v:V):Option R:=
 match P.underlying t,m with
 |some (.map kt _),.map (some r)=>match P.underlying kt,h.get r with
  |some kd,some (.map es ef)=>
   if BL kd k/\r<fI then
    match uo kd k es 0 with
    |some (some (i,_))=>some (.val (.eo []) (h.set r (some (.map (sJ es i fun e=>(k,v,e.2.2)) ef))) n)
    |some none=>some (.val (.eo []) (h.set r (some (.map (es++[(k,v,ef)]) (ef+1)))) n)
    |none=>none
   else none
  |some kd,some (.dD kk es)=>match keyOf k,V.OV v with
   |some k,some v=>if mw kd kk&&(gA kk k&&decide (r<fI))then some (.val (.eo []) (h.set r (some (.dD kk (gY k v es)))) n)else none
   |_,_=>none
  |_,_=>none
 |_,_=>none
def Fz(P:Program)(eD:Array TypeId)(args:ag)(h:Tr O)(n:Nat):Option R:=
 match eD[0]?,args with
 |some t,[.map (some r),k]=>match P.underlying t with
  |some (.map kt _)=>match P.underlying kt,h.get r,keyOf k with
   |some kd,some (.dD kk es),some k=>if mw kd kk&&(gA kk k&&decide (r<fI))then some (.val (.eo []) (h.set r (some (.dD kk (lB k es)))) n)else none
   |_,_,_=>none
  |_=>none
 |_,_=>none
def zx(P:Program)(t:TypeId)(h:Tr O)(n:Nat)(m k:V):Option R:=
 match P.underlying t,m with
 |some (.map kt et),.map (some r)=>match P.underlying kt,h.get r,zeroOf P et with
  |some kd,some (.map es ef),some z=>
   if BL kd k/\r<fI then
    match uo kd k es 0 with
    |some (some (i,e))=>some (.val (.eo [e.2.1,.int .i64 e.2.2]) (h.set r (some (.map (sJ es i fun e=>(k,e.2.1,e.2.2)) ef))) n)
    |some none=>some (.val (.eo [z,.int .i64 ef]) (h.set r (some (.map (es++[(k,z,ef)]) (ef+1)))) n)
    |none=>none
   else none
  |_,_,_=>none
 |_,_=>none
def zy(b:Int):List (V×V×Nat)->Nat->Option Nat
 | [],_=>none
 |e::es,i=>if(e.2.2:Int)==b then some i else zy b es (i+1)
def uq(h:Tr O)(n:Nat)(m acg v:V):Option R:=
 match m,acg with
 | .map (some r),.int _ b=>match h.get r with
   |some (.map es ef)=>
    if r<fI then
     match zy b es 0 with
     |some i=>some (.val (.eo []) (h.set r (some (.map (sJ es i fun e=>(e.1,v,e.2.2)) ef))) n)
     |none=>none
    else none
   |_=>none
 |_,_=>none
def ur(P:Program)(x:V)(x6:TypeId)(ok:Bool):Option V:=
 match P.underlying x6,x with
 |some (.interface _),_=>none
 |some _,.nilIface=>if ok then(match zeroOf P x6 with|some z=>some (.eo [z,.bool false])|none=>none)else none
 |some _,.iface t v=>if t=x6 then some (if ok then .eo [v,.bool true]else v)
  else if ok then(match zeroOf P x6 with|some z=>some (.eo [z,.bool false])|none=>none)else none
 |_,_=>none
def jq(h:Tr O)(size:Nat):V->Option (Nat×Row)
 | .di none cN _ _=>if cN=0 then some (0,.vs [])else none
 | .di (some (m,o)) cN _ jo=>if jo=size then(match cN with
   |0=>some (0,.vs [])
   |_=>match h.get m with
    |some ob=>match ob.MY with
     |some r=>match r.cut o (cN*size)with
      |some r=>some (cN,r)
      |none=>none
     |none=>none
    |none=>none)else none
 | .str s=>if size=1 then some (s.length,.is .u8 (dP s))else none
 | .dL _ cN cs=>if cs.length=cN*size then some (cN,.ds cs)else none
 |_=>none
def uv:ag->Option (aa)
 | []=>some []
 | .int .u8 x::r=>match uv r with
   |some l=>some (UInt8.ofNat x.toNat::l)
   |none=>none
 |_::_=>none
def uw:Row->Option (aa)
 | .is .u8 ks=>some (eM ks)
 | .vs cs=>uv cs
 |_=>none
def BM(e:TypeId)(x:V)(new:Row):O:=match x with
 | .str t=>.iS e false t
 |_=>new.Eh
def eP(MZ size bytes:Nat):Bool:=decide (MZ*bytes<=281474976710/\MZ*size<=281474976710)
def Jv:TypeDesc->Bool
 | .slice _=>true
 | .string=>true
 |_=>false
def x7(P:Program)(eD:Array TypeId)(args:ag)(h:Tr O)(n:Nat):Option R:=
 match eD[0]?,eD[1]?,args with
 |some st,some xt,[s,x]=>
  match uh P st,P.underlying xt with
  |some e,some xd=>
   match Jv xd,P.info? e,zeroOf P e with
   |true,some i,some z=>
    if 0<i.size/\0<i.bytes/\z.cells.length=i.size then
     match jq h i.size x with
     |some (k,new)=>
      if new.flat=true then
      match s with
      | .di none 0 _ _=>
        match k with
        |0=>some (.val (.di none 0 0 0) h n)
        |_=>if eP k i.size i.bytes then(match newObj h n (BM e x new)with
         |some (h',n')=>some (.val (.di (some (n,0)) k k i.size) h' n')
         |none=>none)else none
      | .dL true cN cs=>
        match k with
        |0=>some (.val (.dL true cN cs) h n)
        |_=>if eP (cN+k) i.size i.bytes/\cs.length=cN*i.size then(match newObj h n ((Row.ds cs).app new).Eh with
         |some (h',n')=>some (.val (.di (some (n,0)) (cN+k) (cN+k) i.size) h' n')
         |none=>none)else none
      | .di (some (m,o)) cN cO jo=>
        if jo=i.size/\eP (cN+k) i.size i.bytes/\m<fI then
         match h.get m with
         |some (.iS el As s0)=>match uw new with
          |some t=>if(o=0/\0<cO)/\(cN<=s0.length/\(As=true->cN=s0.length))/\(i.size=1/\el=e)then(match newObj (h.set m none) n (.iS el As (s0.take cN++t))with
           |some (h',n')=>some (.val (.di (some (n,0)) (cN+k) (cN+k) jo) h' n')
           |none=>none)else none
          |none=>none
         |some ob=>match ob.row with
          |some r=>
           match(if r.soft=false/\cN=0 then some (.vs [])else r.cut o (cN*i.size):Option Row)with
           |some old=>
            if new.soft=false/\k=0 then some (.val s h n)
            else match newObj (h.set m none) n (old.app new).Eh with
             |some (h',n')=>some (.val (.di (some (n,0)) (cN+k) (cN+k) jo) h' n')
             |none=>none
           |none=>none
          |none=>none
         |_=>none
        else none
      |_=>none
      else none
     |none=>none
    else none
   |_,_,_=>none
  |_,_=>none
 |_,_,_=>none
def M0(P:Program)(eD:Array TypeId)(args:ag)(h:Tr O):Option V:=
 match eD[0]?,args with
 |some t,[x]=>match P.underlying t,x with
  |some .string,.str s=>some (.int .i64 s.length)
  |some (.array n _),_=>some (.int .i64 n)
  |some (.slice _),.di _ cN _ _=>some (.int .i64 cN)
  |some (.slice _),.dL _ cN _=>some (.int .i64 cN)
  |some (.map _ _),.map none=>some (.int .i64 0)
  |some (.map _ _),.map (some r)=>match h.get r with
   |some (.map es _)=>some (.int .i64 es.length)
   |some (.dD _ es)=>some (.int .i64 es.length)
   |_=>none
  |_,_=>none
 |_,_=>none
def BN(P:Program)(t:TypeId)(x:V)(h:Tr O)(n:Nat):Option R:=
 match P.underlying t,x with
 |some .string,.str s=>match newObj h n (.nA s 0)with
  |some (h',n')=>some (.val (.ptr (some (n,0))) h' n')
  |none=>none
 |_,_=>none
def OY(x:V)(OZ:Bool)(h:Tr O)(n:Nat):Option R:=
 match x,OZ with
 | .ptr (some (m,0)),true=>match h.get m with
   |some (.nA s pos)=>
    if pos<s.length then
     let cw:=Utf8.decode ⟨s.toArray⟩ pos
     if m<fI then some (.val (.eo [.bool true,.int .i64 pos,.int .i32 cw.1]) (h.set m (some (.nA s (pos+cw.2)))) n)else none
    else some (.val (.eo [.bool false]) h n)
   |_=>none
 |_,_=>none
def G8:V->ag->Option V
 |x,[]=>some x
 | .int k a,.int _ b::vs=>G8 (.int k (if b>a then b else a)) vs
 |_,_=>none
def G9:V->ag->Option V
 |x,[]=>some x
 | .int k a,.int _ b::vs=>G9 (.int k (if b<a then b else a)) vs
 |_,_=>none
def O0:List (Nat×Nat)->Nat->Option V
 | [],_=>none
 |p::r,g=>match Nat.beq p.1 g with
  |true=>some (.ptr (some (p.2,0)))
  |false=>O0 r g
def iG(fr:Tr V):Operand->Option V
 | .tmp t=>fr.get t
 | .const v=>Lv v
 | .func f=>some (.fn (.func f) [] [])
 | .global g=>O0 jL g
def ux(fr:Tr V):List Operand->Option (ag)
 | []=>some []
 |x::xs=>match iG fr x with
  |some v=>match ux fr xs with
   |some vs=>some (v::vs)
   |none=>none
  |none=>none
def my(fr:Tr V):Option Operand->Option (Option V)
 |none=>some none
 |some x=>match iG fr x with
  |some v=>some (some v)
  |none=>none
def qb(fr:Tr V):List (Nat×Operand)->Option (List (Nat×V))
 | []=>some []
 |(i,x)::xs=>match iG fr x with
  |some v=>match qb fr xs with
   |some vs=>some ((i,v)::vs)
   |none=>none
  |none=>none
def callee(P:Program)(f:FuncId):Bool:=
 match P.funcs[f]? with
 |some fn=>fn.body.isSome&&fn.name != "runtime.NumGoroutine"
 |none=>false
def kY(P:Program)(b:Builtin)(eD:Array TypeId)(args:ag)(h:Tr O)(n:Nat):Option R:=
 match b with
 | .append=>if eD.size=2 then x7 P eD args h n else none
 | .len=>mM h n (M0 P eD args h)
 | .max=>match args with
   |x::xs=>mM h n (G8 x xs)
   | []=>none
 | .min=>match args with
   |x::xs=>mM h n (G9 x xs)
   | []=>none
 | .panic=>match args with
   | [.iface t v]=>some (.panic (.iface t v))
   |_=>none
 | .recover=>some .recover
 | .unsafeSliceData=>match args with
   | [.di (some (m,o)) _ cO _]=>if 0<cO then some (.val (.ptr (some (m,o))) h n)else none
   |_=>none
 | .unsafeString=>match eD[0]?,args with
   |some pt,[.ptr (some (m,0)),.int .i64 l]=>match P.underlying pt,h.get m with
    |some (.pointer e),some (.iS el _ s)=>if(l=s.length/\0<s.length)/\(el=e/\P.cellsOf e=1)/\(m<fI/\eD.size=2/\s.length<=wV)then some (.val (.str s) (h.set m (some (.iS el true s))) n)else none
    |_,_=>none
   |_,_=>none
 | .delete=>if eD.size=2 then Fz P eD args h n else none
 |_=>none
def wD(P:Program)(fr:Tr V)(c:Call)(h:Tr O)(n:Nat):Option R:=
 match ux fr c.args.toList with
 |some args=>match c.callee with
  | .builtin b=>kY P b c.argTypes args h n
  | .invoke _ _=>none
  | .value f=>match iG fr f with
    |some (.fn (.func g) first captured)=>if callee P g then some (.call g (first++args++captured))else none
    |some (.fn (.yield m) [] [])=>match h.get m with
     |some (.loop _ _ _ ps _ _)=>if ps.length=args.length then some (.call (P.funcs.size+m) args)else none
     |_=>none
    |_=>none
 |none=>none
def BO(fr:Tr V)(c:Call):Option R:=
 match ux fr c.args.toList with
 |some args=>match c.callee with
  | .value f=>match iG fr f with
    |some (.fn (.func g) first captured)=>some (.me g captured (first++args))
    |_=>none
  |_=>none
 |none=>none
def vD:Fn->Bool
 | .yield _=>false
 |_=>true
def dy(P:Program)(o:Oper)(fr:Tr V)(h:Tr O)(n:Nat):Option R:=
 match o.op with
 | .move x=>mM h n (iG fr x)
 | .assign x=>mM h n (iG fr x)
 | .pick c a b=>match iG fr c with
   |some (.bool true)=>mM h n (iG fr a)
   |some (.bool false)=>mM h n (iG fr b)
   |_=>none
 | .alloc e=>match zeroOf P e with
   |some z=>match newObj h n (BI P e z)with
    |some (h',n')=>some (.val (.ptr (some (n,0))) h' n')
    |none=>none
   |none=>none
 | .box _ x=>match iG fr x with
   |some v=>match newObj h n (.cells v.cells)with
    |some (h',n')=>some (.val (.ptr (some (n,0))) h' n')
    |none=>none
   |none=>none
 | .build t parts=>match qb fr parts.toList with
   |some ps=>mM h n (Jt P t ps)
   |none=>none
 | .buildSlice t cN parts=>match qb fr parts.toList with
   |some ps=>ow P t cN ps h n
   |none=>none
 | .load t a=>match iG fr a with
   |some v=>mM h n (loadAt P t h v)
   |none=>none
 | .store t a x=>match iG fr a,iG fr x with
   |some av,some xv=>match storeAt P t h xv av with
    |some h'=>some (.val (.eo []) h' n)
    |none=>none
   |_,_=>none
 | .nilCheck x=>match iG fr x with
   |some (.ptr (some p))=>some (.val (.ptr (some p)) h n)
   |some (.dm cs)=>some (.val (.dm cs) h n)
   |some (.fn (.func f) a c)=>some (.val (.fn (.func f) a c) h n)
   |some (.iface t v)=>some (.val (.iface t v) h n)
   |_=>none
 | .binOp op t x y _=>match iG fr x,iG fr y with
   |some a,some b=>mM h n (BJ P op t x y a b)
   |_,_=>none
 | .unOp op _ x=>match iG fr x with
   |some v=>mM h n (unV op v)
   |none=>none
 | .convert Lx dst x=>match iG fr x with
   |some v=>qa P Lx dst v h n
   |none=>none
 | .makeInterface t x=>match iG fr x,P.underlying t with
   |some v,some d=>match d with
    | .interface _=>none
    |_=>some (.val (.iface t v) h n)
   |_,_=>none
 | .makeFunc f first captured=>match ux fr first.toList,ux fr captured.toList with
   |some a,some c=>if vD f=true then some (.val (.fn f a c) h n)else none
   |_,_=>none
 | .makeMap _ none=>match newObj h n (.map [] 0)with
   |some (h',n')=>some (.val (.map (some n)) h' n')
   |none=>none
 | .makeSlice t l c=>match iG fr l,iG fr c with
   |some l,some c=>nJ P t l c h n
   |_,_=>none
 | .slice t x lo hi mx=>match iG fr x,my fr lo,my fr hi,my fr mx with
   |some v,some lo,some hi,some mx=>mM h n (mq P t h v lo hi mx)
   |_,_,_,_=>none
 | .fieldAddr t x f=>match iG fr x with
   |some v=>mM h n (wW P t f v)
   |none=>none
 | .field t x f=>match iG fr x with
   |some v=>mM h n (Ju P t f v)
   |none=>none
 | .indexAddr t x i=>match iG fr x,iG fr i with
   |some v,some i=>mM h n (nL P t v i)
   |_,_=>none
 | .index t x i=>match iG fr x,iG fr i with
   |some v,some i=>mM h n (Fy P t v i)
   |_,_=>none
 | .lookup t x k ok=>match iG fr x,iG fr k with
   |some x,some k=>mM h n (vC P t h x k ok)
   |_,_=>none
 | .mapUpdate t m k v=>match iG fr m,iG fr k,iG fr v with
   |some m,some k,some v=>sK P t h n m k v
   |_,_,_=>none
 | .insert t m k v=>match iG fr m,iG fr k,iG fr v with
   |some m,some k,some v=>sK P t h n m k v
   |_,_,_=>none
 | .mapEntry t m k=>match iG fr m,iG fr k with
   |some m,some k=>zx P t h n m k
   |_,_=>none
 | .entryStore _ m s v=>match iG fr m,iG fr s,iG fr v with
   |some m,some s,some v=>uq h n m s v
   |_,_,_=>none
 | .typeAssert x _ t ok=>match iG fr x with
   |some v=>mM h n (ur P v t ok)
   |none=>none
 | .extract x i=>match iG fr x with
   |some (.eo vs)=>mM h n (vs[i]?)
   |_=>none
 | .range t x=>match iG fr x with
   |some v=>BN P t v h n
   |none=>none
 | .next it b=>match iG fr it with
   |some v=>OY v b h n
   |none=>none
 | .panic x=>match iG fr x with
   |some (.iface t v)=>some (.panic (.iface t v))
   |_=>none
 | .call c=>wD P fr c h n
 | .defer c=>BO fr c
 |_=>none
structure St where
 fr:Tr V
 h:Tr O
 n:Nat
 gu:List (FuncId×ag×ag)
 deriving Inhabited
inductive X where
 |normal
 |exit (id:Nat)
 |ret
 |panic (v:V)
inductive O1 where
 |ret (v:V)
 |zz (v:V)
abbrev fJ:=FuncId->ag->Tr O->Nat->Option (O1×Tr O×Nat)
def iT(fr:Tr V)(dst:Option Nat)(v:V):Option (Tr V):=
 match dst with
 |none=>some fr
 |some d=>if d<fI then some (fr.set d (some v))else none
def iq(ops:Array Oper)(o:Oper)(fr:Tr V):Option Bool:=
 match o.guard with
 |none=>some true
 |some (j,Jw)=>match ops[j]? with
  |some q=>match q.dst with
   |some d=>match fr.get d with
    |some (.bool b)=>some (b==Jw)
    |some (.eo [])=>some false
    |_=>none
   |none=>none
  |none=>none
def mQ{α:Type}(_:Nat):Option α:=none
def mR{α:Type}(_:Oper):Option α:=none
def Bj:Op->Bool
 | .defer _=>false
 |_=>true
def iY(P:Program)(cf:fJ)(ops:Array Oper):List Oper->St->Option (X×St)
 | [],s=>some (.normal,s)
 |o::rest,s=>
  match iq ops o s.fr with
  |some false=>match iT s.fr o.dst (.eo [])with
   |some fr=>iY P cf ops rest { s with fr:=fr }
   |none=>none
  |some true=>match dy P o s.fr s.h s.n with
   |some (.val v h n)=>match iT s.fr o.dst v with
    |some fr=>iY P cf ops rest { s with fr:=fr,h:=h,n:=n }
    |none=>none
   |some (.call f args)=>match cf f args s.h s.n with
    |some (.ret v,h,n)=>match iT s.fr o.dst v with
     |some fr=>iY P cf ops rest { s with fr:=fr,h:=h,n:=n }
     |none=>none
    |some (.zz v,h,n)=>some (.panic v,{ s with h:=h,n:=n })
    |none=>none
   |some (.me f c args)=>if f<fI/\Bj o.op=false then(match iT s.fr o.dst (.eo [])with
    |some fr=>iY P cf ops rest { s with fr:=fr,gu:=(f,c,args)::s.gu }
    |none=>none)else mR o
   |some (.panic v)=>some (.panic v,s)
   |some .recover=>none
   |none=>mR o
  |none=>mR o
def qL:Option (Nat×Nat)->Option (Nat×Nat)->Bool
 |none,none=>true
 |some (a,b),some (c,d)=>Nat.beq a c&&Nat.beq b d
 |_,_=>false
def FA :Option Nat->Option Nat->Bool
 |none,none=>true
 |some a,some b=>Nat.beq a b
 |_,_=>false
def O2:Fn->Fn->Bool
 | .func a,.func b=>Nat.beq a b
 | .yield a,.yield b=>Nat.beq a b
 |_,_=>false
mutual
def D.beq:D->D->Bool
 | .bool a,.bool b=>a==b
 | .int k a,.int j b=>decide (k=j)&&decide (a=b)
 | .str a,.str b=>eE a b
 | .dL n a,.dL m b=>Nat.beq n m&&D.pA a b
 | .agg a,.agg b=>D.pA a b
 |_,_=>false
def D.pA:ai->ai->Bool
 | [],[]=>true
 |a::x,b::y=>D.beq a b&&D.pA x y
 |_,_=>false
end
mutual
def V.beq:V->V->Bool
 | .bool a,.bool b=>a==b
 | .int k a,.int j b=>decide (k=j)&&decide (a=b)
 | .str a,.str b=>eE a b
 | .ptr a,.ptr b=>qL a b
 | .di a l c e,.di a' l' c' e'=>qL a a'&&Nat.beq l l'&&Nat.beq c c'&&Nat.beq e e'
 | .map a,.map b=>FA a b
 | .fn f a c,.fn g b d=>O2 f g&&V.pA a b&&V.pA c d
 | .kA,.kA=>true
 | .iface t x,.iface u y=>Nat.beq t u&&V.beq x y
 | .nilIface,.nilIface=>true
 | .agg a,.agg b=>V.pA a b
 | .eo a,.eo b=>V.pA a b
 | .dL f n a,.dL g m b=>f==g&&(Nat.beq n m&&D.pA a b)
 | .dm a,.dm b=>D.pA a b
 |_,_=>false
def V.pA:ag->ag->Bool
 | [],[]=>true
 |a::x,b::y=>V.beq a b&&V.pA x y
 |_,_=>false
end
def qM:Op->Bool
 | .store .. | .mapUpdate .. | .insert .. | .mapEntry .. | .entryStore .. | .next .. | .defer _ | .panic _=>true
 | .call { callee:=.builtin b,.. }=>match b with
   | .len | .max | .min=>false
   |_=>true
 | .call _=>true
 |_=>false
def qc:Op->Bool
 | .move _ | .assign _ | .pick .. | .build .. | .nilCheck _ | .binOp .. | .unOp .. | .makeInterface .. | .makeFunc .. | .fieldAddr .. | .field ..
 | .indexAddr .. | .index .. | .typeAssert .. | .extract ..=>true
 |_=>false
structure Dr where
 fr:Tr V
 ee:List Nat
 cur:Nat×Tr O
 pC:List (Nat×Nat×Tr O)
 last:Option Nat
 cU:af
 reads:List (Nat×Nat×Oper×Tr V×V)
 n:Nat
def dS(m i:Nat):Bool:=Nat.testBit m i
def gH(n0:Nat):af->Nat->Tr O->Nat->Tr O
 | [],_,x,_=>x
 |(i,o)::r,m,x,gQ=>if dS gQ i&& !dS m i then(gH n0 r m x gQ).set (n0+i) (some o)else gH n0 r m x gQ
def eL(ee:List Nat):List Edge->Nat
 | []=>0
 |e::es=>if Region.binds .any e then eL ee es|||(2^e.on|||ee.getD e.on 0)else eL ee es
def mF(P:Program)(n0 i:Nat)(o:Oper)(fr:Tr V)(v:V)(x:Tr O):Bool:=
 match dy P o fr x (n0+i)with
 |some (.val u _ k)=>Nat.beq k (n0+i)&&V.beq u v
 |_=>false
def qd(P:Program)(n0 i:Nat)(o:Oper)(fr:Tr V)(v:V)(cU:af)(gQ:Nat):List (Nat×Nat×Tr O)->Bool
 | []=>true
 |(e,m,x)::r=>if dS gQ e then true else mF P n0 i o fr v (gH n0 cU m x gQ)&&qd P n0 i o fr v cU gQ r
def pD(P:Program)(n0:Nat)(cU:af)(m:Nat)(x:Tr O):List (Nat×Nat×Oper×Tr V×V)->Bool
 | []=>true
 |(j,gQ,o,fr,v)::r=>(dS m j||mF P n0 j o fr v (gH n0 cU m x gQ))&&pD P n0 cU m x r
def zA(gQ:Nat):Option Nat->Bool
 |none=>true
 |some e=>dS gQ e
def kB(P:Program)(n0 i gQ:Nat)(o:Oper)(s:Dr)(v:V)(h:Tr O)(n:Nat):Option Dr:=
 match iT s.fr o.dst v with
 |some fr=>
  if pD P n0 s.cU gQ h s.reads then
   some { fr:=fr,ee:=s.ee++[gQ],cur:=(gQ,h),pC:=(i,s.cur.1,s.cur.2)::s.pC,last:=some i,cU:=s.cU,reads:=s.reads,n:=n }
  else none
 |none=>none
def uy(P:Program)(cf:fJ)(ops:Array Oper)(n0 i:Nat)(o:Oper)(s:Dr):Option (Dr ⊕ (Tr V×V×Tr O×Nat)):=
 let gQ:=eL s.ee o.after.toList
 match iq ops o s.fr with
 |some false=>match iT s.fr o.dst (.eo [])with
  |some fr=>some (.inl { s with fr:=fr,ee:=s.ee++[gQ] })
  |none=>mR o
 |some true=>
  if qM o.op then
   if zA gQ s.last then
    match dy P o s.fr (gH n0 s.cU s.cur.1 s.cur.2 gQ) s.n with
    |some (.val v h n)=>match kB P n0 i gQ o s v h n with
     |some s'=>some (.inl s')
     |none=>mR o
    |some (.call f args)=>match cf f args (gH n0 s.cU s.cur.1 s.cur.2 gQ) s.n with
     |some (.ret v,h,n)=>match kB P n0 i gQ o s v h n with
      |some s'=>some (.inl s')
      |none=>mR o
     |some (.zz v,h,n)=>if Nat.beq (gQ+1) (2^i)&&Nat.beq (i+1) ops.size then some (.inr (s.fr,v,h,n))else mR o
     |none=>none
    |_=>mR o
   else mR o
  else
   let x:=gH n0 s.cU s.cur.1 s.cur.2 gQ
   match dy P o s.fr x (n0+i)with
   |some (.val v h k)=>match iT s.fr o.dst v with
    |some fr=>
     if Nat.beq k (n0+i)then
      if qc o.op then some (.inl { s with fr:=fr,ee:=s.ee++[gQ] })
      else if qd P n0 i o s.fr v s.cU gQ s.pC then
       some (.inl { s with fr:=fr,ee:=s.ee++[gQ],reads:=(i,gQ,o,s.fr,v)::s.reads })
      else mR o
     else match h.get (n0+i)with
      |some b=>if b.wr=true then some (.inl { s with fr:=fr,ee:=s.ee++[gQ],cU:=(i,b)::s.cU })else mR o
      |none=>mR o
    |none=>mR o
   |_=>mR o
 |none=>mR o
def qN(P:Program)(cf:fJ)(ops:Array Oper)(n0:Nat):List Oper->Nat->Dr->Option (Dr ⊕ (Tr V×V×Tr O×Nat))
 | [],_,s=>some (.inl s)
 |o::r,i,s=>match uy P cf ops n0 i o s with
  |some (.inl s')=>qN P cf ops n0 r (i+1) s'
  |x=>x
def drawn(P:Program)(cf:fJ)(ops:Array Oper)(s:St):Option (X×St):=
 if s.n+ops.size<fI then
  match qN P cf ops s.n ops.toList 0 { fr:=s.fr,ee:=[],cur:=(0,s.h),pC:=[],last:=none,cU:=[],reads:=[],n:=s.n+ops.size }with
  |some (.inl d)=>some (.normal,{ fr:=d.fr,h:=gH s.n d.cU d.cur.1 d.cur.2 (2^ops.size-1),n:=d.n,gu:=s.gu })
  |some (.inr (fr,v,h,n))=>some (.panic v,{ s with fr:=fr,h:=h,n:=n })
  |none=>none
 else none
def rounds(f:St->Option (X×St)):Nat->St->Option (X×St)
 |0,_=>mQ 1
 |k+1,s=>match f s with
  |some (.normal,s')=>rounds f k s'
  |r=>r
def iZ(P:Program)(cf:fJ)(F:Nat):Code->St->Option (X×St)
 | .skip,s=>some (.normal,s)
 | .region _ ops false,s=>iY P cf ops ops.toList s
 | .region _ ops true,s=>drawn P cf ops s
 | .seq a b,s=>match iZ P cf F a s with
   |some (.normal,s')=>iZ P cf F b s'
   |r=>r
 | .cond c a b,s=>match iG s.fr c with
   |some (.bool true)=>iZ P cf F a s
   |some (.bool false)=>iZ P cf F b s
   |_=>mQ 2
 | .block id body,s=>match iZ P cf F body s with
   |some (.exit id',s')=>if id'=id then some (.normal,s')else some (.exit id',s')
   |r=>r
 | .loop body,s=>rounds (iZ P cf F body) F s
 | .exit id,s=>some (.exit id,s)
 | .ret,s=>some (.ret,s)
 | .rangeFunc g ps assign body,s=>match iG s.fr g with
   |some (.fn (.func gf) [] lb)=>
    if callee P gf=true/\s.n+1<fI then
     match cf gf (.fn (.yield (s.n+1)) [] []::lb) ((s.h.set s.n (some .me)).set (s.n+1) (some (.loop true none s.fr ps.toList assign body))) (s.n+2)with
     |some (.ret _,h,n)=>match h.get s.n,h.get (s.n+1)with
      |some .me,some (.loop true none _ _ _ _)=>some (.normal,{ s with h:=h.set (s.n+1) none,n:=n,gu:=(fI,[],[.map (some s.n)])::s.gu })
      |some .me,some (.loop false (some .ret) _ _ _ _)=>some (.ret,{ s with h:=h.set (s.n+1) none,n:=n,gu:=(fI,[],[.map (some s.n)])::s.gu })
      |some .me,some (.loop false (some (.exit id)) _ _ _ _)=>some (.exit id,{ s with h:=h.set (s.n+1) none,n:=n,gu:=(fI,[],[.map (some s.n)])::s.gu })
      |_,_=>mQ 31
     |_=>mQ 32
    else mQ 33
   |_=>mQ 34
 |_,_=>mQ 3
def lH:ag->Nat->Tr V->Tr V
 | [],_,t=>t
 |v::vs,i,t=>lH vs (i+1) (t.set i (some v))
def FB(P:Program)(fr:Tr V)(h:Tr O):ResultVar->Option V
 | .tmp t=>fr.get t
 | .cell a t=>match fr.get a with
   |some v=>loadAt P t h v
   |none=>none
def kZ(P:Program)(fr:Tr V)(h:Tr O):List ResultVar->Option (ag)
 | []=>some []
 |r::rs=>match FB P fr h r with
  |some v=>match kZ P fr h rs with
   |some vs=>some (v::vs)
   |none=>none
  |none=>none
def oneOf:ag->V
 | [v]=>v
 |vs=>.eo vs
inductive Mode where
 |ret
 |zz (v:V) (rec:Bool)
def qO(P:Program)(cf:fJ)(ops:Array Oper):List Oper->St->Mode->Option (X×St×Mode)
 | [],s,m=>some (.normal,s,m)
 |o::rest,s,m=>
  match iq ops o s.fr with
  |some false=>match iT s.fr o.dst (.eo [])with
   |some fr=>qO P cf ops rest { s with fr:=fr } m
   |none=>none
  |some true=>match dy P o s.fr s.h s.n with
   |some (.val v h n)=>match iT s.fr o.dst v with
    |some fr=>qO P cf ops rest { s with fr:=fr,h:=h,n:=n } m
    |none=>none
   |some .recover=>match m with
    | .zz v false=>match iT s.fr o.dst v with
      |some fr=>qO P cf ops rest { s with fr:=fr } (.zz v true)
      |none=>none
    |m=>match iT s.fr o.dst .nilIface with
     |some fr=>qO P cf ops rest { s with fr:=fr } m
     |none=>none
   |_=>mR o
  |none=>mR o
def tM(P:Program)(cf:fJ)(F:Nat):Code->St->Mode->Option (X×St×Mode)
 | .region _ ops false,s,m=>qO P cf ops ops.toList s m
 | .seq a b,s,m=>match tM P cf F a s m with
   |some (.normal,s',m')=>tM P cf F b s' m'
   |r=>r
 | .cond c a b,s,m=>match iG s.fr c with
   |some (.bool true)=>tM P cf F a s m
   |some (.bool false)=>tM P cf F b s m
   |_=>mQ 5
 |c,s,m=>match iZ P cf F c s with
  |some (x,s')=>some (x,s',m)
  |none=>none
def nB(P:Program)(cf:fJ)(F:Nat)(fn:Func)(fr:Tr V):List (FuncId×ag×ag)->Mode->Tr O->Nat->Option (O1×Tr O×Nat)
 | [],.ret,h,n=>match kZ P fr h fn.results.toList with
   |some vs=>some (.ret (oneOf vs),h,n)
   |none=>mQ 11
 | [],.zz v false,h,n=>some (.zz v,h,n)
 | [],.zz _ true,_,_=>mQ 12
 |(g,c,args)::ds,m,h,n=>
  if fI<=g then(match args with
   | [.map (some b)]=>(match h.get b with
     |some .me=>if b<fI then nB P cf F fn fr ds m (h.set b none) n else mQ 41
     |_=>mQ 42)
   |_=>mQ 43)else
  match P.funcs[g]? with
  |some gn=>match gn.body with
   |some code=>
    if callee P g=true/\(args++c).length<=gn.ntmps/\gn.ntmps<fI then
     match tM P cf F code { fr:=lH (args++c) 0 .nil,h:=h,n:=n,gu:=[] } m with
     |some (.normal,s',m')=>
      (match s'.gu with
      | []=>match kZ P s'.fr s'.h gn.results.toList with
        |some _=>nB P cf F fn fr ds (match m' with | .zz _ true=>.ret|m=>m) s'.h s'.n
        |none=>mQ 13
      |_=>mQ 14)
     |some (.ret,s',m')=>
      (match s'.gu with
      | []=>match kZ P s'.fr s'.h gn.results.toList with
        |some _=>nB P cf F fn fr ds (match m' with | .zz _ true=>.ret|m=>m) s'.h s'.n
        |none=>mQ 15
      |_=>mQ 16)
     |_=>mQ 17
    else none
   |none=>mQ 18
  |none=>mQ 19
def enter(P:Program)(cf:fJ)(F:Nat)(f:FuncId)(args:ag)(h:Tr O)(n:Nat):Option (O1×Tr O×Nat):=
 match P.funcs[f]? with
 |some fn=>match fn.body with
  |some code=>
   if args.length<=fn.ntmps/\fn.ntmps<fI then
    match iZ P cf F code { fr:=lH args 0 .nil,h:=h,n:=n,gu:=[] }with
    |some (.normal,s)=>nB P cf F fn s.fr s.gu .ret s.h s.n
    |some (.ret,s)=>nB P cf F fn s.fr s.gu .ret s.h s.n
    |some (.panic v,s)=>nB P cf F fn s.fr s.gu (.zz v false) s.h s.n
    |_=>mQ 20
   else none
  |none=>mQ 21
 |none=>mQ 22
def jM:Code->Bool
 | .region _ ops _=>ops.toList.all fun o=>Bj o.op
 | .seq a b=>jM a&&jM b
 | .cond _ a b=>jM a&&jM b
 | .block _ c=>jM c
 | .loop c=>jM c
 | .rangeFunc ..=>false
 |_=>true
def wX:List (Nat×V)->Tr V->Option (Tr V)
 | [],t=>some t
 |(i,v)::r,t=>if i<fI then wX r (t.set i (some v))else none
def Jx:List Nat->ag->List (Nat×V)
 |i::is,v::vs=>(i,v)::Jx is vs
 |_,_=>[]
def wY(P:Program)(cf:fJ)(F:Nat)(m:Nat)(args:ag)(h:Tr O)(n:Nat):Option (O1×Tr O×Nat):=
 match h.get m with
 |some (.loop true none fr ps assign body)=>
  if m<fI/\ps.length=args.length/\jM assign=true/\jM body=true then
   match wX (Jx ps args) fr with
   |some zB=>match iZ P cf F assign { fr:=zB,h:=h.set m none,n:=n,gu:=[] }with
    |some (.normal,s1)=>match iZ P cf F body s1 with
     |some (.normal,s2)=>some (.ret (.bool true),s2.h.set m (some (.loop true none fr ps assign body)),s2.n)
     |some (.ret,s2)=>some (.ret (.bool false),s2.h.set m (some (.loop false (some .ret) fr ps assign body)),s2.n)
     |some (.exit id,s2)=>some (.ret (.bool false),s2.h.set m (some (.loop false (some (.exit id)) fr ps assign body)),s2.n)
     |_=>mQ 51
    |_=>mQ 52
   |none=>mQ 53
  else mQ 54
 |_=>mQ 55
def call(P:Program)(F:Nat):Nat->fJ
 |0=>fun _ _ _ _=>mQ 23
 |k+1=>fun f args h n=>if f<P.funcs.size then enter P (call P F k) F f args h n else wY P (call P F k) F (f-P.funcs.size) args h n
def o6(l:List Oper):List Nat:=l.foldl (fun gl o=>gl++[eL gl o.after.toList]) []
section
variable(ops:Array Oper)
def uz(o:Oper):List Nat:=
 (o.op.operands.toList.filterMap fun x=>match x with | .tmp t=>some t|_=>none) ++
  (match o.guard with|some (j,_)=>(match ops[j]? with|some q=>q.dst.toList|none=>[])|none=>[])
def FC(m:List Nat)(i j:Nat):Bool:=
 match ops[i]?,ops[j]? with
 |some o,some q=>match o.dst with
  |some t=>(match q.dst with|some u=>!Nat.beq t u|none=>true) &&
    (if(uz ops q).contains t then(if i<j then dS (m.getD j 0) i else dS (m.getD i 0) j)else true)
  |none=>true
 |_,_=>true
def O3(N:Nat):Bool:=
 let m:=o6 ops.toList
 (List.range ops.size).all fun j=>match ops[j]? with
  |some o=>o.after.toList.all (fun e=>!Region.binds .any e||decide (e.on<j))&&(match o.dst with|some d=>decide (d<N)|none=>true) &&
    (List.range ops.size).all fun i=>Nat.beq i j||FC ops m i j
  |none=>true
end
def eS(N:Nat):Code->Bool
 | .region _ ops Jy=>ops.toList.all (fun o=>match o.dst with|some d=>decide (d<N)|none=>true)&&(if Jy then O3 ops N else true)
 | .seq a b=>eS N a&&eS N b
 | .cond _ a b=>eS N a&&eS N b
 | .block _ c=>eS N c
 | .loop c=>eS N c
 | .scope c=>eS N c
 | .rangeFunc _ ps a b=>ps.toList.all (fun p=>decide (p<N))&&(eS N a&&eS N b)
 |_=>true
structure Env where
 ι:Nat->Option (Nat×Nat)
 β:Nat->Nat
 φ:Nat->Option (Array Value)
mutual
def k8(φ:Nat->Option (Array Value)):D->Value->Prop
 | .bool b,v=>v= .bool b
 | .int k n,v=>v= .int k n
 | .str s,v=>v= .string ⟨s.toArray⟩
 | .dL n cs,v=>∃a cO vs,v= .slice a n cO/\n<=cO/\ig φ cs vs/\(n=0->cs=[])/\
    (0<n->∃b o c,a=some ⟨b,o,none⟩/\φ b=some c/\∀(j:Nat) (w:Value),vs[j]? =some w->c[o+j]? =some w)
 | .agg cs,v=>∃vs,ig φ cs vs/\v= .agg vs.toArray
def ig(φ:Nat->Option (Array Value)):ai->List Value->Prop
 | [],l=>l=[]
 |x::xs,l=>∃y ys,x.scalar=true/\k8 φ x y/\ig φ xs ys/\l=y::ys
end
def x8(E:Env):Fn->Fn->Prop
 | .yield m,f'=>∃l s,E.ι m=some (l,s)/\f'= .yield l
 |f,f'=>f'=f
mutual
def dz(E:Env):V->Value->Prop
 | .bool b,v=>v= .bool b
 | .int k n,v=>v= .int k n
 | .str s,v=>v= .string ⟨s.toArray⟩
 | .ptr none,v=>v= .pointer none
 | .ptr (some (m,o)),v=>∃b s,E.ι m=some (b,s)/\v= .pointer (some ⟨b,s+o,none⟩)
 | .di none cN cO _,v=>cN=0/\cO=0/\v= .slice none 0 0
 | .di (some (m,o)) cN cO jo,v=>∃b s o' fZ,E.ι m=some (b,s)/\(0<cO->o'=s+o)/\cN<=cO/\cO<=fZ/\o'+fZ*jo<=E.β b/\
    v= .slice (some ⟨b,o',none⟩) cN fZ
 | .map none,v=>v= .map none
 | .map (some m),v=>∃b,E.ι m=some (b,0)/\v= .map (some b)
 | .fn f a c,v=>∃f' a' c',x8 E f f'/\dG E a a'/\dG E c c'/\v= .func f' a'.toArray c'.toArray
 | .kA,v=>v= .nilFunc
 | .iface t x,v=>∃x',dz E x x'/\v= .iface t x'
 | .nilIface,v=>v= .nilIface
 | .agg cs,v=>∃cs',dG E cs cs'/\v= .agg cs'.toArray
 | .eo cs,v=>∃cs',dG E cs cs'/\v= .tuple cs'.toArray
 | .dL f n cs,v=>k8 E.φ (.dL n cs) v/\(f=true->∃a,v= .slice a n n)
 | .dm cs,v=>∃b o c vs,v= .pointer (some ⟨b,o,none⟩)/\E.φ b=some c/\ig E.φ cs vs/\∀(j:Nat) (w:Value),vs[j]? =some w->c[o+j]? =some w
def dG(E:Env):ag->List Value->Prop
 | [],l=>l=[]
 |x::xs,l=>∃y ys,dz E x y/\dG E xs ys/\l=y::ys
end
structure Env.le(E E':Env):Prop where
 nm:∀m b s,E.ι m=some (b,s)->E'.ι m=some (b,s)/\E'.β b=E.β b
 fz:∀b c,E.φ b=some c->E'.φ b=some c
def GE(E:Env):Prop:=∀p∈jL,E.ι p.2=some (p.1,0)
theorem GE.mono{E E':Env}(h:GE E)(k:E.le E'):GE E':=fun p hp=>(k.nm _ _ _ (h p hp)).1
theorem He:∀{l:List (Nat×Nat)} {g:Nat} {v:V},O0 l g=some v->∃m,(g,m)∈l/\v= .ptr (some (m,0))
 | [],_,_,h=>by cases h
 |p::r,g,v,h=>by
  unfold O0 at h;split at h
  . rename_i hb;cases h;exact⟨p.2,aE.2 (.inl (by rw[<- aD hb])),rfl⟩
  . obtain⟨m,h1,h2⟩:=He h;exact⟨m,aJ _ h1,h2⟩
theorem Hf{E:Env}(h:GE E){g:Nat}{v:V}(e:O0 jL g=some v):dz E v (.pointer (some ⟨g,0,none⟩)):=by
 obtain⟨m,h1,rfl⟩:=He e;exact⟨g,0,h _ h1,rfl⟩
theorem Env.le_refl(E:Env):E.le E:=⟨fun _ _ _ h=>⟨h,rfl⟩,fun _ _ h=>h⟩
theorem Env.le_trans{A B C:Env}(h:A.le B)(k:B.le C):A.le C:=⟨fun m b s e=>
 ⟨(k.nm m b s (h.nm m b s e).1).1,(k.nm m b s (h.nm m b s e).1).2.trans (h.nm m b s e).2⟩,fun b c e=>k.fz b c (h.fz b c e)⟩
mutual
theorem kF{φ Lz:Nat->Option (Array Value)}(h:∀b c,φ b=some c->Lz b=some c):∀(d:D) (v:Value),k8 φ d v->k8 Lz d v
 | .bool _,_,r=>r
 | .int _ _,_,r=>r
 | .str _,_,r=>r
 | .dL _ cs,_,⟨a,cO,vs,e,hc,r,h0,h1⟩=>⟨a,cO,vs,e,hc,iP h cs vs r,h0,fun hn=>let⟨b,o,c,e1,e2,e3⟩:=h1 hn;⟨b,o,c,e1,h _ _ e2,e3⟩⟩
 | .agg cs,_,⟨vs,r,e⟩=>⟨vs,iP h cs vs r,e⟩
theorem iP{φ Lz:Nat->Option (Array Value)}(h:∀b c,φ b=some c->Lz b=some c):∀(d:ai) (v:List Value),ig φ d v->ig Lz d v
 | [],_,r=>r
 |x::xs,_,⟨y,ys,s,r,rs,e⟩=>⟨y,ys,s,kF h x y r,iP h xs ys rs,e⟩
end
mutual
theorem lX{E:Env}:∀(d:D) (v:Value),k8 E.φ d v->dz E d.iH v
 | .bool _,_,r=>r
 | .int _ _,_,r=>r
 | .str _,_,r=>r
 | .dL _ _,_,r=>⟨r,fun h=>by cases h⟩
 | .agg cs,_,⟨vs,r,e⟩=>⟨vs,vE cs vs r,e⟩
theorem vE{E:Env}:∀(d:ai) (v:List Value),ig E.φ d v->dG E (D.lN d) v
 | [],_,r=>r
 |x::xs,_,⟨y,ys,_,r,rs,e⟩=>⟨y,ys,lX x y r,vE xs ys rs,e⟩
end
mutual
theorem Hg{E:Env}:∀(d:D) (v:Value),dz E d.iH v->(∀cs,d= .agg cs->∀x∈cs,x.scalar=true)->k8 E.φ d v
 | .bool _,_,r,_=>r
 | .int _ _,_,r,_=>r
 | .str _,_,r,_=>r
 | .dL _ _,_,r,_=>r.1
 | .agg cs,_,⟨vs,r,e⟩,h=>⟨vs,BP cs vs r (h cs rfl),e⟩
theorem BP{E:Env}:∀(d:ai) (v:List Value),dG E (D.lN d) v->(∀x∈d,x.scalar=true)->ig E.φ d v
 | [],_,r,_=>r
 |x::xs,_,⟨y,ys,r,rs,e⟩,h=>⟨y,ys,h x (by simp),Hg x y r (fun cs q=>by have:=h x (by simp);rw[q]at this;cases this),BP xs ys rs (fun z hz=>h z (by simp[hz])),e⟩
end
theorem pE{φ:Nat->Option (Array Value)}:∀{xs:ai} {ys:List Value},ig φ xs ys->ys.length=xs.length
 | [],_,r=>by simp only[ig]at r;subst r;rfl
 |_::_,_,r=>by obtain⟨y,ys,_,_,rs,rfl⟩:=r;simp[pE rs]
theorem vF{φ:Nat->Option (Array Value)}:∀{xs:ai} {ys:List Value},ig φ xs ys->∀(i:Nat) (d:D),xs[i]? =some d->∃v',ys[i]? =some v'/\d.scalar=true/\k8 φ d v'
 | [],_,r,i,v,h=>by simp at h
 |x::xs,_,r,i,v,h=>by
  obtain⟨y,ys,s0,r0,rs,rfl⟩:=r;cases i with
  |zero=>simp at h;subst h;exact⟨y,by simp,s0,r0⟩
  |succ i=>simp at h;obtain⟨v',h1,h2⟩:=vF rs i v h;exact⟨v',by simpa using h1,h2⟩
theorem pF{φ:Nat->Option (Array Value)}:∀{xs:ai} {ys:List Value},xs.length=ys.length->(∀(i:Nat) (d:D),xs[i]? =some d->∃v',ys[i]? =some v'/\d.scalar=true/\k8 φ d v')->ig φ xs ys
 | [],[],_,_=>rfl
 | [],_::_,h,_=>by simp at h
 |_::_,[],h,_=>by simp at h
 |x::xs,y::ys,h,r=>by
  obtain⟨v',h1,h2,h3⟩:=r 0 x (by simp);simp at h1;subst h1;exact⟨y,ys,h2,h3,pF (by simpa using h) (fun i v hi=>r (i+1) v (by simpa using hi)),rfl⟩
section
variable{φ:Nat->Option (Array Value)}{n:Nat}{xs:ai}{ys:List Value}
theorem sM(r:ig φ xs ys):ig φ (xs.take n) (ys.take n):=by
 refine pF (by simp[pE r]) fun i v h=>?_;rw[bM]at h ⊢;split at h
 . rename_i hi;rw[aG hi];exact vF r i v h
 . simp at h
theorem nM(r:ig φ xs ys):ig φ (xs.drop n) (ys.drop n):=by
 refine pF (by simp[pE r]) fun i v h=>?_;rw[bG]at h ⊢;exact vF r _ v h
end
theorem pG{φ:Nat->Option (Array Value)}:∀{xs BQ:ai} {ys Jz:List Value},ig φ xs ys->ig φ BQ Jz->ig φ (xs++BQ) (ys++Jz)
 | [],_,_,_,r,r'=>by simp only[ig]at r;subst r;simpa using r'
 |x::xs,_,_,_,r,r'=>by
  obtain⟨y,ys,s0,r0,rs,rfl⟩:=r;exact⟨y,_,s0,r0,pG rs r',rfl⟩
theorem ja{φ:Nat->Option (Array Value)}:∀{xs:ai} {ys:List Value},ig φ xs ys->∀x∈xs,x.scalar=true
 | [],_,_,x,h=>by simp at h
 |a::xs,_,r,x,h=>by
  obtain⟨y,ys,s0,_,rs,_⟩:=r;rcases aE.1 h with rfl|h
  . exact s0
  . exact ja rs x h
theorem JA{d:D}(h:d.scalar=true):d.iH.scalar=true:=by cases d<;>first|rfl|(simp[D.scalar]at h)
theorem Av{ds:ai}(h:∀x∈ds,x.scalar=true):(D.lN ds).all V.scalar=true:=by
 rw[D.gr,bn];intro x hx;obtain⟨d,hd,rfl⟩:=bA.1 hx;exact JA (h d hd)
theorem JB{E E':Env}(h:E.le E'):∀(f f':Fn),x8 E f f'->x8 E' f f'
 | .yield _,_,⟨l,s,e,q⟩=>⟨l,s,(h.nm _ _ _ e).1,q⟩
 | .func _,_,r=>r
 | .method _,_,r=>r
 | .methodOf _ _,_,r=>r
 | .via _ _ _ _,_,r=>r
mutual
theorem je{E E':Env}(h:E.le E'):∀(v:V) (v':Value),dz E v v'->dz E' v v'
 | .bool _,_,r=>r
 | .int _ _,_,r=>r
 | .str _,_,r=>r
 | .ptr none,_,r=>r
 | .ptr (some (_,_)),_,⟨b,s,e,q⟩=>⟨b,s,(h.nm _ _ _ e).1,q⟩
 | .di none _ _ _,_,r=>r
 | .di (some (_,_)) _ _ _,_,⟨b,s,o',fZ,e,q1,q2,q3,q4,q5⟩=>⟨b,s,o',fZ,(h.nm _ _ _ e).1,q1,q2,q3,(h.nm _ _ _ e).2▸q4,q5⟩
 | .map none,_,r=>r
 | .map (some _),_,⟨b,e,q⟩=>⟨b,(h.nm _ _ _ e).1,q⟩
 | .fn _ a c,_,⟨f',a',c',rf,ra,rc,q⟩=>⟨f',a',c',JB h _ _ rf,kg h a a' ra,kg h c c' rc,q⟩
 | .kA,_,r=>r
 | .iface _ x,_,⟨x',r,q⟩=>⟨x',je h x x' r,q⟩
 | .nilIface,_,r=>r
 | .agg cs,_,⟨cs',r,q⟩=>⟨cs',kg h cs cs' r,q⟩
 | .eo cs,_,⟨cs',r,q⟩=>⟨cs',kg h cs cs' r,q⟩
 | .dL _ _ _,_,⟨r,q⟩=>⟨kF h.fz _ _ r,q⟩
 | .dm cs,_,⟨b,o,c,vs,e,e1,r,q⟩=>⟨b,o,c,vs,e,h.fz _ _ e1,iP h.fz cs vs r,q⟩
theorem kg{E E':Env}(h:E.le E'):∀(v:ag) (v':List Value),dG E v v'->dG E' v v'
 | [],_,r=>r
 |x::xs,_,⟨y,ys,r,rs,q⟩=>⟨y,ys,je h x y r,kg h xs ys rs,q⟩
end
theorem eK{E:Env}:∀{xs:ag} {ys:List Value},dG E xs ys->ys.length=xs.length
 | [],_,r=>by simp only[dG]at r;subst r;rfl
 |_::_,_,r=>by obtain⟨y,ys,_,rs,rfl⟩:=r;simp[eK rs]
theorem gz{E:Env}:∀{xs:ag} {ys:List Value},dG E xs ys->∀(i:Nat) (v:V),xs[i]? =some v->∃v',ys[i]? =some v'/\dz E v v'
 | [],_,_,i,v,h=>by simp at h
 |x::xs,_,r,i,v,h=>by
  obtain⟨y,ys,r0,rs,rfl⟩:=r;cases i with
  |zero=>simp at h;subst h;exact⟨y,by simp,r0⟩
  |succ i=>simp at h;obtain⟨v',h1,h2⟩:=gz rs i v h;exact⟨v',by simpa using h1,h2⟩
theorem jt{E:Env}:∀{xs:ag} {ys:List Value},xs.length=ys.length->(∀(i:Nat) (v:V),xs[i]? =some v->∃v',ys[i]? =some v'/\dz E v v')->dG E xs ys
 | [],[],_,_=>rfl
 | [],_::_,h,_=>by simp at h
 |_::_,[],h,_=>by simp at h
 |x::xs,y::ys,h,r=>by
  obtain⟨v',h1,h2⟩:=r 0 x (by simp);simp at h1;subst h1;exact⟨y,ys,h2,jt (by simpa using h) (fun i v hi=>r (i+1) v (by simpa using hi)),rfl⟩
theorem ir{E:Env}:∀{xs BQ:ag} {ys Jz:List Value},dG E xs ys->dG E BQ Jz->dG E (xs++BQ) (ys++Jz)
 | [],_,_,_,r,r'=>by simp only[dG]at r;subst r;simpa using r'
 |x::xs,_,_,_,r,r'=>by
  obtain⟨y,ys,r0,rs,rfl⟩:=r;exact⟨y,_,r0,ir rs r',rfl⟩
section
variable{E:Env}{n:Nat}
theorem BR:∀{xs:ag} {ys:List Value},dG E xs ys->dG E (xs.take n) (ys.take n):=by
 intro xs ys r;refine jt (by simp[eK r]) fun i v h=>?_;rw[bM]at h ⊢;split at h
 . rename_i hi;rw[aG hi];exact gz r i v h
 . simp at h
theorem BS:∀{xs:ag} {ys:List Value},dG E xs ys->dG E (xs.drop n) (ys.drop n):=by
 intro xs ys r;refine jt (by simp[eK r]) fun i v h=>?_;rw[bG]at h ⊢;exact gz r _ v h
theorem gZ:∀{v:V} {v':Value},dz E v v'->dG E v.cells v'.cells.toList:=by
 intro v v' r;have one:∀{x:V} {y:Value},dz E x y->y.cells=#[y]->x.cells=[x]->dG E x.cells y.cells.toList:=by
  intro x y r h1 h2;rw[h1,h2];exact⟨y,[],r,rfl,rfl⟩
 cases v with
 |agg cs=>obtain⟨cs',rs,rfl⟩:=r;simpa[V.cells,Value.cells]using rs
 |bool b=>simp only[dz]at r;subst r;exact one (by simp[dz]) rfl rfl
 |int k n=>simp only[dz]at r;subst r;exact one (by simp[dz]) rfl rfl
 |str s=>simp only[dz]at r;subst r;exact one (by simp[dz]) rfl rfl
 |ptr a=>refine one r ?_ rfl;cases a<;>simp only[dz]at r;. subst r;rfl
         . obtain⟨b,s,_,rfl⟩:=r;rfl
 |di a l c e=>refine one r ?_ rfl;cases a<;>simp only[dz]at r;. obtain⟨_,_,rfl⟩:=r;rfl
              . obtain⟨b,s,_,_,_,_,_,_,_,rfl⟩:=r;rfl
 |map a=>refine one r ?_ rfl;cases a<;>simp only[dz]at r;. subst r;rfl
         . obtain⟨b,_,rfl⟩:=r;rfl
 |fn f a c=>refine one r ?_ rfl;obtain⟨_,_,_,_,_,_,rfl⟩:=r;rfl
 |kA=>simp only[dz]at r;subst r;exact one (by simp[dz]) rfl rfl
 |iface t x=>refine one r ?_ rfl;obtain⟨_,_,rfl⟩:=r;rfl
 |nilIface=>simp only[dz]at r;subst r;exact one (by simp[dz]) rfl rfl
 |eo vs=>refine one r ?_ rfl;obtain⟨_,_,rfl⟩:=r;rfl
 |dL f n cs=>refine one r ?_ rfl;obtain⟨⟨_,_,_,rfl,_⟩,_⟩:=r;rfl
 |dm cs=>refine one r ?_ rfl;obtain⟨_,_,_,_,rfl,_⟩:=r;rfl
theorem uA:∀{v:V} {v':Value},dz E v v'->v.scalar=true->v'.oneCell'=true:=by
 intro v v' r h;cases v with
 |agg cs=>simp[V.scalar]at h
 |eo cs=>simp[V.scalar]at h
 |bool b=>simp only[dz]at r;subst r;rfl
 |int k n=>simp only[dz]at r;subst r;rfl
 |str s=>simp only[dz]at r;subst r;rfl
 |ptr a=>cases a<;>simp only[dz]at r;. subst r;rfl
         . obtain⟨b,s,_,rfl⟩:=r;rfl
 |di a l c e=>cases a<;>simp only[dz]at r;. obtain⟨_,_,rfl⟩:=r;rfl
              . obtain⟨b,s,_,_,_,_,_,_,_,rfl⟩:=r;rfl
 |map a=>cases a<;>simp only[dz]at r;. subst r;rfl
         . obtain⟨b,_,rfl⟩:=r;rfl
 |fn f a c=>obtain⟨_,_,_,_,_,_,rfl⟩:=r;rfl
 |kA=>simp only[dz]at r;subst r;rfl
 |iface t x=>obtain⟨_,_,rfl⟩:=r;rfl
 |nilIface=>simp only[dz]at r;subst r;rfl
 |dL f n cs=>obtain⟨⟨_,_,_,rfl,_⟩,_⟩:=r;rfl
 |dm cs=>obtain⟨_,_,_,_,rfl,_⟩:=r;rfl
end
theorem Tr.x9{α:Type}:∀(f:Nat) (t:Tr α) (k:Nat) (x:Option α) (j:Nat),k+1<2^f->(Tr.q7 f t k x).get j=if j=k then x else t.get j
 |0,t,k,x,j,h=>by simp at h
 |f+1,t,k,x,j,h=>by
  have hk:∀k',k=k'+1->k'/2+1<2^f:=by intro k' e;subst e;rw[Nat.pow_succ]at h;omega
  cases t with
  |nil=>
   cases k with
   |zero=>
    cases j with
    |zero=>simp[Tr.q7,Tr.get]
    |succ j=>simp only[Tr.q7,Tr.get];rw[aI be];split<;>rfl
   |succ k=>
    have ih:=fun j=>Tr.x9 f (.nil:Tr α) (k/2) x j (hk k rfl);rcases cH k with e|e
    . cases j with
      |zero=>simp[Tr.q7,Tr.get,e]
      |succ j=>
       rcases cH j with e'|e'
       . simp only[Tr.q7,e,Tr.get,e',ih];by_cases hj:j=k
         . subst hj;simp
         . rw[aI be,aI be]
       . simp only[Tr.q7,e,Tr.get,e'];rw[aI be]
    . cases j with
      |zero=>simp[Tr.q7,Tr.get,e]
      |succ j=>
       rcases cH j with e'|e'
       . simp only[Tr.q7,e,Tr.get,e'];rw[aI be]
       . simp only[Tr.q7,e,Tr.get,e',ih];by_cases hj:j=k
         . subst hj;simp
         . rw[aI be,aI be]
  |node v l r=>
   cases k with
   |zero=>cases j<;>simp[Tr.q7,Tr.get]
   |succ k=>
    have ihl:=fun j=>Tr.x9 f l (k/2) x j (hk k rfl);have ihr:=fun j=>Tr.x9 f r (k/2) x j (hk k rfl);rcases cH k with e|e
    . cases j with
      |zero=>simp[Tr.q7,Tr.get,e]
      |succ j=>
       rcases cH j with e'|e'
       . simp only[Tr.q7,e,Tr.get,e',ihl];by_cases hj:j=k
         . subst hj;simp
         . rw[aI be,aI be]
       . simp only[Tr.q7,e,Tr.get,e'];rw[aI be]
    . cases j with
      |zero=>simp[Tr.q7,Tr.get,e]
      |succ j=>
       rcases cH j with e'|e'
       . simp only[Tr.q7,e,Tr.get,e'];rw[aI be]
       . simp only[Tr.q7,e,Tr.get,e',ihr];by_cases hj:j=k
         . subst hj;simp
         . rw[aI be,aI be]
section
variable{α:Type}(t:Tr α){k:Nat}(x:Option α)
theorem Tr.eO(j:Nat)(h:k<fI):(t.set k x).get j=if j=k then x else t.get j:=
 Tr.x9 33 t k x j (by unfold fI at h;omega)
theorem Tr.mS(h:k<fI):(t.set k x).get k=x:=by rw[Tr.eO t x k h,aG rfl]
theorem Tr.qe{j:Nat}(x:Option α)(h:k<fI)(hj:j≠k):(t.set k x).get j=t.get j:=by rw[Tr.eO t x j h,aI hj]
end
def kC(E:Env):List (V×V×Nat)->List MapEntry->Prop
 | [],l=>l=[]
 |x::xs,l=>∃y ys,dz E x.1 y.key/\dz E x.2.1 y.val/\y.born=x.2.2/\kC E xs ys/\l=y::ys
theorem BT{E E':Env}(h:E.le E'):∀(xs:List (V×V×Nat)) (ys:List MapEntry),kC E xs ys->kC E' xs ys
 | [],_,r=>r
 |_::xs,_,⟨y,ys,a,b,c,r,q⟩=>⟨y,ys,je h _ _ a,je h _ _ b,c,BT h xs ys r,q⟩
def jN(φ:Nat->Option (Array Value)):ae->List MapEntry->Prop
 | [],l=>l=[]
 |x::xs,l=>∃y ys,k8 φ x.1 y.key/\k8 φ x.2 y.val/\jN φ xs ys/\l=y::ys
theorem wZ{φ Lz:Nat->Option (Array Value)}(h:∀b c,φ b=some c->Lz b=some c):∀(xs:ae) (ys:List MapEntry),jN φ xs ys->jN Lz xs ys
 | [],_,r=>r
 |_::xs,_,⟨y,ys,a,b,r,q⟩=>⟨y,ys,kF h _ _ a,kF h _ _ b,wZ h xs ys r,q⟩
structure jO(φ:Nat->Option (Array Value))(kd:Option IntKind)(es:ae)(fQ:List MapEntry)(ef:Nat):Prop where
 row:∃l,List.Perm l es/\jN φ l fQ
 keys:(es.map (·.1)).Nodup
 kind:∀e∈es,gA kd e.1=true
 old:∀e∈fQ,e.born<ef
 born:(fQ.map (·.born)).Nodup
theorem jO.mono{φ Lz:Nat->Option (Array Value)}(h:∀b c,φ b=some c->Lz b=some c){kd:Option IntKind}{es:ae}{fQ:List MapEntry}{ef:Nat}(r:jO φ kd es fQ ef):jO Lz kd es fQ ef:=
 ⟨let⟨l,h1,h2⟩:=r.row;⟨l,h1,wZ h _ _ h2⟩,r.keys,r.kind,r.old,r.born⟩
def mT(fz:Nat×Nat)(n:Nat):Prop:=∀i,i<n->¬(fz.1<=i/\i<fz.2)
def lY(E:Env)(s:Nat)(cs:ag)(c:Array Value):Prop:=∀(i:Nat) (v:V),cs[i]? =some v->∃v',c[s+i]? =some v'/\dz E v v'
def O4(E:Env)(fr:Tr V)(tmps:Array Value):Prop:=∀t v,fr.get t=some v->∃v',tmps[t]? =some v'/\dz E v v'
section
variable{E E':Env}{s:Nat}
theorem vG(h:E.le E'){fr:Tr V}{a:Array Value}(r:O4 E fr a):O4 E' fr a:=fun t v e=>let⟨v',h1,h2⟩:=r t v e;⟨v',h1,je h v v' h2⟩
def lO(E:Env)(w:World)(b s:Nat):O->Prop
 | .cells cs=>∃c el fz,w.heap[b]? =some (.cells c el fz)/\c.size=E.β b/\mT fz c.size/\lY E s cs c
 | .map es ef=>s=0/\∃fQ,w.heap[b]? =some (.map fQ ef)/\kC E es fQ.toList
 | .nA st pos=>s=0/\w.heap[b]? =some (.stringIter ⟨st.toArray⟩ pos)
 | .ints k ks=>∃c el fz,w.heap[b]? =some (.cells c el fz)/\c.size=E.β b/\∀(i:Nat) (x:Int),ks[i]? =some x->c[s+i]? =some (.int k x)
 | .own k ks=>∃c el fz,w.heap[b]? =some (.cells c el fz)/\c.size=E.β b/\mT fz c.size/\lY E s (ks.map (.int k)) c
 | .deep cs=>∃c el fz vs,w.heap[b]? =some (.cells c el fz)/\c.size=E.β b/\mT fz c.size/\ig E.φ cs vs/\∀(j:Nat) (x:Value),vs[j]? =some x->c[s+j]? =some x
 | .iS el As t=>∃c fz xs,w.heap[b]? =some (.cells c el fz)/\s=0/\c.size=E.β b/\((fz.1=fz.2\/fz.2<=t.length)/\(As=false->fz.1=fz.2))/\eM xs=t/\∀(j:Nat) (x:Int),xs[j]? =some x->c[j]? =some (.int .u8 x)
 | .A3 t self x=>s=0/\∃x' fz,w.heap[b]? =some (.cells #[.pointer (if self then some ⟨b,0,none⟩else none),x'] t fz)/\2=E.β b/\mT fz 2/\dz E x x'
 | .dD kd es=>s=0/\∃fQ ef,w.heap[b]? =some (.map fQ ef)/\jO E.φ kd es fQ.toList ef
 | .me=>w.heap[b]? =some (.deferred (some []))
 | .loop st pe fr ps assign body=>∃r:Loop,w.heap[b]? =some (.loop r)/\r.state=(if st then .ready else .done)/\r.pending=pe/\r.params.toList=ps/\r.assign=assign/\r.body=body/\O4 E fr r.tmps/\eS r.tmps.size assign=true/\eS r.tmps.size body=true/\∀p∈ps,p<r.tmps.size
theorem pR(h:E.le E'){s:Nat}{cs:ag}{c:Array Value}(r:lY E s cs c):lY E' s cs c:=
 fun i v e=>let⟨v',h1,h2⟩:=r i v e;⟨v',h1,je h v v' h2⟩
theorem hU{w w':World}{b s:Nat}{o:O}(h:E.le E')(hb:E'.β b=E.β b)(hw:w'.heap[b]? =w.heap[b]?)(r:lO E w b s o):lO E' w' b s o:=by
 cases o with
 |cells cs=>obtain⟨c,el,fz,h1,h2,h3,h4⟩:=r;exact⟨c,el,fz,hw.trans h1,h2.trans hb.symm,h3,pR h h4⟩
 |map es ef=>obtain⟨hs,fQ,h1,h2⟩:=r;exact⟨hs,fQ,hw.trans h1,BT h _ _ h2⟩
 |nA st pos=>exact⟨r.1,hw.trans r.2⟩
 |ints k ks=>obtain⟨c,el,fz,h1,h2,h3⟩:=r;exact⟨c,el,fz,hw.trans h1,h2.trans hb.symm,h3⟩
 |own k ks=>obtain⟨c,el,fz,h1,h2,h3,h4⟩:=r;exact⟨c,el,fz,hw.trans h1,h2.trans hb.symm,h3,pR h h4⟩
 |deep cs=>obtain⟨c,el,fz,vs,h1,h2,h3,h4,h5⟩:=r;exact⟨c,el,fz,vs,hw.trans h1,h2.trans hb.symm,h3,iP h.fz _ _ h4,h5⟩
 |iS el As t=>obtain⟨c,fz,xs,h1,h0,h2,h3⟩:=r;exact⟨c,fz,xs,hw.trans h1,h0,h2.trans hb.symm,h3⟩
 |A3 t self x=>obtain⟨h0,x',fz,h1,h2,h3,h4⟩:=r;exact⟨h0,x',fz,hw.trans h1,h2.trans hb.symm,h3,je h _ _ h4⟩
 |dD kd es=>obtain⟨hs,fQ,ef,h1,h2⟩:=r;exact⟨hs,fQ,ef,hw.trans h1,h2.mono h.fz⟩
 |me=>exact hw.trans r
 |loop st pe fr ps assign body=>obtain⟨r,h1,h2,h3,h4,h5,h6,h7,h8⟩:=r;exact⟨r,hw.trans h1,h2,h3,h4,h5,h6,vG h h7,h8⟩
theorem mG{k:IntKind}{ks:List Int}{c:Array Value}:lY E s (ks.map (.int k)) c↔∀(i:Nat) (x:Int),ks[i]? =some x->c[s+i]? =some (.int k x):=by
 constructor
 . intro r i x e;obtain⟨v',h1,h2⟩:=r i (.int k x) (by rw[br,e];rfl);simp only[dz]at h2;rw[h1,h2]
 . intro r i v e;rw[br]at e;cases hx:ks[i]? with
   |none=>rw[hx]at e;cases e
   |some x=>
    rw[hx]at e;simp only[bh,an]at e;subst e;exact⟨_,r i x hx,rfl⟩
theorem wE{k:IntKind}{ks:List Int}{c:Array Value}(r:lY E s (ks.map (.int k)) c):lY E' s (ks.map (.int k)) c:=mG.2 (mG.1 r)
end
theorem pT{k:IntKind}:∀{l:ag} {ks:List Int},oO k l=some ks->l=ks.map (.int k)
 | [],ks,h=>by simp only[oO,an]at h;subst h;rfl
 |v::r,ks,h=>by
  unfold oO at h;split at h
  . rename_i q;cases q
  . rename_i k' x r' q;cases q;split at h
    . rename_i l h1 h2;obtain rfl:=ek h;have:=aH h1;subst this;rw[pT h2];rfl
    . cases h
  . cases h
theorem nN{E:Env}{s:Nat}{cs:ai}{c:Array Value}(hs:∀x∈cs,x.scalar=true):lY E s (D.lN cs) c↔∃vs,ig E.φ cs vs/\∀(j:Nat) (x:Value),vs[j]? =some x->c[s+j]? =some x:=by
 constructor
 . intro r;have hg:∀i,i<cs.length->∃x,c[s+i]? =some x:=by
    intro i hi;obtain⟨v',h1,_⟩:=r i (cs[i]).iH (by rw[D.gr,br,ay hi];rfl);exact⟨v',h1⟩
   refine⟨(List.range cs.length).map fun i=>(c[s+i]?).getD undef,pF (by simp) fun i d hd=>?_,fun j x hx=>?_⟩
   . have hi:=(aF.1 hd).1;obtain⟨v',h1,h2⟩:=r i d.iH (by rw[D.gr,br,hd];rfl);refine⟨v',by simp[List.getElem?_range hi,h1],hs d (aZ hd),Hg d v' h2 fun ds q=>?_⟩;have:=hs d (aZ hd);rw[q]at this;cases this
   . rw[br]at hx;by_cases hj:j<cs.length
     . rw[List.getElem?_range hj]at hx;simp only[bh,an]at hx;obtain⟨y,hy⟩:=hg j hj;rw[hy]at hx ⊢;simpa using hx
     . rw[bP (by simpa using Nat.le_of_not_lt hj)]at hx;cases hx
 . rintro⟨vs,r,hv⟩ i v hi;rw[D.gr,br]at hi;cases hd:cs[i]? with
   |none=>rw[hd]at hi;cases hi
   |some d=>
    rw[hd]at hi;simp only[bh,an]at hi;subst hi;obtain⟨v',h1,_,h3⟩:=vF r i d hd;exact⟨v',hv i v' h1,lX d v' h3⟩
theorem sN:∀{l:ag} {ds:ai},gX l=some ds->∀{E:Env} {l':List Value},dG E l l'->ig E.φ ds l'
 | [],ds,h,E,l',r=>by simp only[gX,an]at h;subst h;exact r
 |x::xs,ds,h,E,l',r=>by
  simp only[gX]at h;split at h
  case h_2=>cases h
  rename_i d hd;split at h
  case h_2=>cases h
  rename_i l hl;obtain rfl:=ek h;obtain⟨y,ys,r0,rs,rfl⟩:=r;refine⟨y,ys,?_,?_,sN hl rs,rfl⟩
  . split at hd<;>first|(cases hd;rfl)|cases hd
  . split at hd<;>first|(cases hd;first|exact r0|exact r0.1|exact⟨none,0,[],r0.2.2,aA _,rfl,fun _=>rfl,fun q=>absurd q (cE _)⟩)|cases hd
theorem uB:∀{l:ag} {ds:ai},gX l=some ds->ds.length=l.length
 | [],ds,h=>by simp only[gX,an]at h;subst h;rfl
 |x::xs,ds,h=>by
  simp only[gX]at h;split at h
  case h_2=>cases h
  split at h
  case h_2=>cases h
  rename_i l hl;obtain rfl:=ek h;simp[uB hl]
mutual
theorem FD{E:Env}:∀{x:V} {d:D},V.OV x=some d->∀{v:Value},dz E x v->k8 E.φ d v/\(x.scalar=true->d.scalar=true)
 | .bool _,d,h,v,r=>by simp only[V.OV,an]at h;subst h;exact⟨r,fun _=>rfl⟩
 | .int _ _,d,h,v,r=>by simp only[V.OV,an]at h;subst h;exact⟨r,fun _=>rfl⟩
 | .str _,d,h,v,r=>by simp only[V.OV,an]at h;subst h;exact⟨r,fun _=>rfl⟩
 | .dL _ _ _,d,h,v,r=>by simp only[V.OV,an]at h;subst h;exact⟨r.1,fun _=>rfl⟩
 | .agg cs,d,h,v,r=>by
   simp only[V.OV]at h;split at h
   . rename_i l hl;obtain rfl:=ek h;obtain⟨vs,r,e⟩:=r;exact⟨⟨vs,Hh hl r,e⟩,fun h=>by cases h⟩
   . cases h
 | .ptr _,d,h,_,_=>by cases h
 | .di none _ _ _,d,h,v,r=>by
   simp only[V.OV,an]at h;subst h;exact⟨⟨none,0,[],r.2.2,aA _,rfl,fun _=>rfl,fun q=>absurd q (cE _)⟩,fun _=>rfl⟩
 | .di (some _) 0 _ _,d,h,v,r=>by
   simp only[V.OV,an]at h;subst h;obtain⟨b,s,o',fZ,_,_,_,_,_,e⟩:=r;exact⟨⟨_,fZ,[],e,aW _,rfl,fun _=>rfl,fun q=>absurd q (cE _)⟩,fun _=>rfl⟩
 | .di (some _) (_+1) _ _,d,h,_,_=>by cases h
 | .map _,d,h,_,_=>by cases h
 | .fn _ _ _,d,h,_,_=>by cases h
 | .kA,d,h,_,_=>by cases h
 | .iface _ _,d,h,_,_=>by cases h
 | .nilIface,d,h,_,_=>by cases h
 | .eo _,d,h,_,_=>by cases h
 | .dm _,d,h,_,_=>by cases h
theorem Hh{E:Env}:∀{xs:ag} {ds:ai},V.OW xs=some ds->∀{vs:List Value},dG E xs vs->ig E.φ ds vs
 | [],ds,h,v,r=>by simp only[V.OW,an]at h;subst h;exact r
 |x::xs,ds,h,v,r=>by
  simp only[V.OW]at h;split at h
  case h_2=>cases h
  rename_i d hd;split at h
  case h_2=>cases h
  rename_i l hl;split at h
  case h_2=>cases h
  rename_i JC;obtain rfl:=ek h;obtain⟨y,ys,r0,rs,rfl⟩:=r;exact⟨y,ys,JC,(FD hd r0).1,Hh hl rs,rfl⟩
end
theorem Aw{E:Env}:∀{xs ys:ag} {l:List Value},dG E (xs++ys) l->∃l1 l2,dG E xs l1/\dG E ys l2/\l=l1++l2
 | [],_,l,r=>⟨[],l,rfl,r,rfl⟩
 |x::xs,_,l,⟨y,zs,r0,rs,e⟩=>by
  obtain⟨l1,l2,h1,h2,h3⟩:=Aw rs;exact⟨y::l1,l2,⟨y,l1,r0,h1,rfl⟩,h2,by rw[e,h3];rfl⟩
def wk(xs ys:ag):Prop:=∀(E:Env) (l:List Value),dG E xs l->dG E ys l
theorem iK(xs:ag):wk xs xs:=fun _ _ r=>r
theorem zC{a b a' b':ag}(h:wk a a')(k:wk b b'):wk (a++b) (a'++b'):=fun E l r=>by
 obtain⟨l1,l2,h1,h2,rfl⟩:=Aw r;exact ir (h E l1 h1) (k E l2 h2)
theorem ya{l:ag}{ds:ai}(h:gX l=some ds):wk l (D.lN ds):=fun _ _ r=>vE _ _ (sN h r)
theorem rJ{E:Env}{s:Nat}{cs:ag}{c:Array Value}:lY E s cs c↔∃vs,dG E cs vs/\∀(j:Nat) (x:Value),vs[j]? =some x->c[s+j]? =some x:=by
 constructor
 . intro r;have hg:∀i,i<cs.length->∃x,c[s+i]? =some x:=fun i hi=>by
    obtain⟨v',h1,_⟩:=r i cs[i] (ay hi);exact⟨v',h1⟩
   refine⟨(List.range cs.length).map fun i=>(c[s+i]?).getD undef,jt (by simp) fun i d hd=>?_,fun j x hx=>?_⟩
   . have hi:=(aF.1 hd).1;obtain⟨v',h1,h2⟩:=r i d hd;exact⟨v',by simp[List.getElem?_range hi,h1],h2⟩
   . rw[br]at hx;by_cases hj:j<cs.length
     . rw[List.getElem?_range hj]at hx;simp only[bh,an]at hx;obtain⟨y,hy⟩:=hg j hj;rw[hy]at hx ⊢;simpa using hx
     . rw[bP (by simpa using Nat.le_of_not_lt hj)]at hx;cases hx
 . rintro⟨vs,r,hv⟩ i v hi;obtain⟨v',h1,h2⟩:=gz r i v hi;exact⟨v',hv i v' h1,h2⟩
theorem yb{E:Env}{s:Nat}{xs ys:ag}{c:Array Value}(h:wk xs ys)(r:lY E s xs c):lY E s ys c:=by
 obtain⟨vs,h1,h2⟩:=rJ.1 r;exact rJ.2 ⟨vs,h E vs h1,h2⟩
def Row.sc:Row->Prop
 | .ds cs=>∀x∈cs,x.scalar=true
 |_=>True
theorem nO:∀{l:ag} {ds:ai},gX l=some ds->∀x∈ds,x.scalar=true
 | [],ds,h,x,hx=>by simp only[gX,an]at h;subst h;simp at hx
 |y::l,ds,h,x,hx=>by
  simp only[gX]at h;split at h
  case h_2=>cases h
  rename_i d hd;split at h
  case h_2=>cases h
  rename_i l' hl;obtain rfl:=ek h;rcases aE.1 hx with rfl|hx
  . split at hd<;>first|(cases hd;rfl)|cases hd
  . exact nO hl x hx
theorem Row.JD(a b:Row):wk (a.iH++b.iH) (a.app b).iH:=by
 have e:∀{k:IntKind} {l:ag} {ks:List Int},oO k l=some ks->l=ks.map (.int k):=fun h=>pT h;have hm:∀(k:IntKind) (ks:List Int),D.lN (ks.map (.int k))=ks.map (.int k):=fun k ks=>by rw[D.gr,List.map_map];rfl
 have ha:∀(x y:ai),D.lN (x++y)=D.lN x++D.lN y:=fun x y=>by rw[D.gr,D.gr,D.gr,aX]
 cases a<;>cases b<;>simp only[Row.app]
 . exact iK _
 . rename_i cs k ks;split
   . rename_i l h;simp only[Row.iH,e h,aX];exact iK _
   . exact iK _
 . rename_i cs ds;split
   . rename_i l h;simp only[Row.iH,ha];exact zC (ya h) (iK _)
   . exact iK _
 . rename_i k ks cs;split
   . rename_i l h;simp only[Row.iH,e h,aX];exact iK _
   . exact iK _
 . rename_i k ks k' Wy;split
   . rename_i h;have:=aH h;subst this;simp only[Row.iH,aX];exact iK _
   . exact iK _
 . simp only[Row.iH,ha,hm];exact iK _
 . rename_i cs ds;split
   . rename_i l h;simp only[Row.iH,ha];exact zC (iK _) (ya h)
   . exact iK _
 . simp only[Row.iH,ha,hm];exact iK _
 . simp only[Row.iH,ha];exact iK _
theorem Row.JE{a b:Row}(h:a.sc)(k:b.sc):(a.app b).sc:=by
 have hi:∀(k:IntKind) (ks:List Int),∀x∈ks.map (D.int k),x.scalar=true:=fun k ks x hx=>by
  obtain⟨n,_,rfl⟩:=bA.1 hx;rfl
 have ap:∀{x y:ai},(∀z∈x,z.scalar=true)->(∀z∈y,z.scalar=true)->∀z∈x++y,z.scalar=true:=fun h k z hz=>(aU.1 hz).elim (h z) (k z);cases a<;>cases b<;>simp only[Row.app]<;>first|trivial|skip
 . split<;>trivial
 . split
   . rename_i l hl;exact ap (nO hl) k
   . trivial
 . split<;>trivial
 . split<;>trivial
 . exact ap (hi _ _) k
 . split
   . rename_i l hl;exact ap h (nO hl)
   . trivial
 . exact ap h (hi _ _)
 . exact ap h k
section
variable{o size:Nat}{r r':Row}
theorem Row.O5(h:r.cut o size=some r')(k:r.sc):r'.sc:=by
 cases r with
 |vs cs=>simp only[Row.cut]at h;split at h<;>first|(cases h;trivial)|cases h
 |is k ks=>simp only[Row.cut]at h;split at h<;>first|(cases h;trivial)|cases h
 |ds cs=>
  simp only[Row.cut]at h;split at h
  . cases h;exact fun x hx=>k x (List.mem_of_mem_drop (List.mem_of_mem_take hx))
  . cases h
theorem Row.FE(h:r.cut o size=some r'):Eng.cut r.iH o size=some r'.iH:=by
 cases r with
 |vs cs=>
  simp only[Row.cut]at h;split at h
  . rename_i q;obtain rfl:=ek h;exact q
  . cases h
 |is k ks=>
  simp only[Row.cut]at h;split at h
  . rename_i q;obtain rfl:=ek h;simp only[Eng.cut,Row.iH,aY,aG q,cK,List.map_drop]
  . cases h
 |ds cs=>
  simp only[Row.cut]at h;split at h
  . rename_i q;obtain rfl:=ek h;simp only[Eng.cut,Row.iH,D.gr,aY,aG q,cK,List.map_drop]
  . cases h
theorem Row.O6(h:r.flat=true)(k:r.sc):r.iH.all V.scalar=true:=by
 cases r with
 |vs cs=>exact h
 |is k ks=>simp[Row.iH,V.scalar]
 |ds cs=>exact Av k
end
section
variable{E:Env}{w:World}{b s:Nat}{o:O}{r:Row}
theorem Hi(h:o.row=some r)(q:lO E w b s o):(∃c el fz,w.heap[b]? =some (.cells c el fz)/\c.size=E.β b/\mT fz c.size/\lY E s r.iH c)/\r.sc:=by
 cases o<;>simp only[O.row,an,reduceCtorEq]at h<;>subst h
 . exact⟨q,trivial⟩
 . exact⟨q,trivial⟩
 . obtain⟨c,el,fz,vs,h1,h2,h3,h4,h5⟩:=q;exact⟨⟨c,el,fz,h1,h2,h3,(nN (ja h4)).2 ⟨vs,h4,h5⟩⟩,ja h4⟩
theorem M1(h:o.MY=some r)(q:lO E w b s o):(∃c el fz,w.heap[b]? =some (.cells c el fz)/\c.size=E.β b/\lY E s r.iH c)/\r.sc:=by
 cases o<;>simp only[O.MY,an,reduceCtorEq]at h<;>subst h
 . obtain⟨c,el,fz,h1,h2,_,h4⟩:=q;exact⟨⟨c,el,fz,h1,h2,h4⟩,trivial⟩
 . obtain⟨c,el,fz,h1,h2,h3⟩:=q;exact⟨⟨c,el,fz,h1,h2,mG.2 h3⟩,trivial⟩
 . obtain⟨c,el,fz,h1,h2,_,h4⟩:=q;exact⟨⟨c,el,fz,h1,h2,h4⟩,trivial⟩
 . obtain⟨c,el,fz,vs,h1,h2,h3,h4,h5⟩:=q;exact⟨⟨c,el,fz,h1,h2,(nN (ja h4)).2 ⟨vs,h4,h5⟩⟩,ja h4⟩
theorem yc(q:∃c el fz,w.heap[b]? =some (.cells c el fz)/\c.size=E.β b/\mT fz c.size/\lY E s r.iH c)(k:r.sc):lO E w b s r.Eh:=by
 cases r with
 |ds cs=>
  obtain⟨c,el,fz,h1,h2,h3,h4⟩:=q;obtain⟨vs,h5,h6⟩:=(nN k).1 h4;exact⟨c,el,fz,vs,h1,h2,h3,h5,h6⟩
 |_=>exact q
end
theorem O7{o:O}{r:Row}(h:o.row=some r):o.wr=true:=by cases o<;>simp[O.row]at h<;>rfl
def ew(h:Tr O)(m:Nat):Prop:=∃o,h.get m=some o/\o.wr=true
section
variable{h:Tr O}{n m:Nat}{x:Option O}
theorem O8{h':Tr O}{m n:Nat}(e:h.get m=h'.get n)(k:ew h m):ew h' n:=by obtain⟨o,a,b⟩:=k;exact⟨o,e.symm.trans a,b⟩
theorem rK(hn:n<fI):ew (h.set n x) m->(m=n/\∃o,x=some o/\o.wr=true)\/(m≠n/\ew h m):=by
 rintro⟨o,e,k⟩;rw[Tr.eO _ _ _ hn]at e;split at e
 . rename_i q;exact .inl ⟨q,o,e,k⟩
 . rename_i q;exact .inr ⟨q,o,e,k⟩
theorem ox(hn:n<fI)(k:ew (h.set n x) m)(q:m≠n):ew h m:=
 (rK hn k).elim (fun c=>absurd c.1 q) (·.2)
theorem ew.live(k:ew h m):h.get m≠none:=by obtain⟨o,e,_⟩:=k;rw[e];simp
end
structure Good(E:Env)(h:Tr O)(w:World):Prop where
 rel:∀m o,h.get m=some o->∃b s,E.ι m=some (b,s)/\lO E w b s o
 inj:∀m m' b s s',m≠m'->ew h m->h.get m'≠none->E.ι m=some (b,s)->E.ι m'=some (b,s')->False
 mO:∀m b s,E.ι m=some (b,s)->b<w.heap.size
 jf:GE E
 gI:∀b c,E.φ b=some c->(∃el fz,w.heap[b]? =some (.cells c el fz))/\∀m s,ew h m->E.ι m≠some (b,s)
structure ij(E:Env)(h:Tr O)(w:World)(E':Env)(h':Tr O)(w':World):Prop where
 le:E.le E'
 good:Good E' h' w'
 size:w.heap.size<=w'.heap.size
 tape:w'.tape=w.tape
 os:w'.os=w.os
 output:w'.output=w.output
 keep:∀b,b<w.heap.size->(∀m s,ew h m->E.ι m≠some (b,s))->w'.heap[b]? =w.heap[b]?
 sO:∀m b s,h'.get m≠none->E'.ι m=some (b,s)->b<w.heap.size->∃m0 s0,h.get m0≠none/\E.ι m0=some (b,s0)/\(ew h' m->ew h m0)
 DF:∀b c,E'.φ b=some c->E.φ b=some c\/w.heap.size<=b\/∃m s,ew h m/\E.ι m=some (b,s)
theorem ij.refl{E:Env}{h:Tr O}{w:World}(g:Good E h w):ij E h w E h w:=
 ⟨E.le_refl,g,aA _,rfl,rfl,rfl,fun _ _ _=>rfl,fun m _ s hm e _=>⟨m,s,hm,e,id⟩,fun _ _ q=>.inl q⟩
theorem ij.trans{E E1 E2:Env}{h h1 h2:Tr O}{w w1 w2:World}(a:ij E h w E1 h1 w1)(b:ij E1 h1 w1 E2 h2 w2):ij E h w E2 h2 w2 where
 le:=Env.le_trans a.le b.le
 good:=b.good
 size:=bU a.size b.size
 tape:=b.tape.trans a.tape
 os:=b.os.trans a.os
 output:=b.output.trans a.output
 keep:=fun x hx hn=>by
  rw[b.keep x (bD hx a.size) ?_,a.keep x hx hn];intro m s hm e;obtain⟨m0,s0,h0,e0,k0⟩:=a.sO m x s hm.live e hx;exact hn m0 s0 (k0 hm) e0
 sO:=fun m x s hm e hx=>by
  obtain⟨m1,s1,mh,e1,k1⟩:=b.sO m x s hm e (bD hx a.size);obtain⟨m2,s2,h2,e2,k2⟩:=a.sO m1 x s1 mh e1 hx;exact⟨m2,s2,h2,e2,fun q=>k2 (k1 q)⟩
 DF:=fun x c hc=>by
  rcases b.DF x c hc with q|q|⟨m,s,q1,q2⟩
  . exact a.DF x c q
  . exact .inr (.inl (bU a.size q))
  . rcases bN x w.heap.size with hx|hx
    . obtain⟨m0,s0,_,e0,k0⟩:=a.sO m x s q1.live q2 hx;exact .inr (.inr ⟨m0,s0,k0 q1,e0⟩)
    . exact .inr (.inl hx)
theorem Good.same{E:Env}{h:Tr O}{w w':World}(g:Good E h w)(e:w'.heap=w.heap):Good E h w' where
 rel:=fun m o hm=>let⟨b,s,h1,h2⟩:=g.rel m o hm;⟨b,s,h1,hU E.le_refl rfl (by rw[e]) h2⟩
 inj:=g.inj
 mO:=fun m b s h=>by rw[e];exact g.mO m b s h
 jf:=g.jf
 gI:=fun b c q=>⟨by rw[e];exact(g.gI b c q).1,(g.gI b c q).2⟩
theorem ij.drew{E:Env}{h:Tr O}{w:World}(g:Good E h w):ij E h w E h w.drew:=
 ⟨E.le_refl,g.same rfl,aA _,rfl,rfl,rfl,fun _ _ _=>rfl,fun m _ s hm e _=>⟨m,s,hm,e,id⟩,fun _ _ q=>.inl q⟩
def Env.put(E:Env)(n b s z:Nat):Env:={ ι:=fun m=>if m=n then some (b,s)else E.ι m,β:=fun x=>if x=b then z else E.β x,φ:=E.φ }
section
variable{E:Env}{w:World}{n:Nat}{o:Obj}{b s z:Nat}
theorem Env.eV:(E.put n b s z).ι n=some (b,s):=by simp[Env.put]
theorem Env.fk{m:Nat}(h:m≠n):(E.put n b s z).ι m=E.ι m:=by simp[Env.put,h]
theorem Env.q8(hn:E.ι n=none)(hb:∀m x t,E.ι m=some (x,t)->x=b->E.β b=z):E.le (E.put n b s z):=by
 refine⟨?_,fun _ _ h=>h⟩;intro m x t e;have:m≠n:=by intro h;rw[h,hn]at e;simp at e
 refine⟨by rw[Env.fk this];exact e,?_⟩;show(if x=b then z else E.β x)=E.β x;split
 . rename_i h;rw[<- hb m x t e h,h]
 . rfl
theorem jz(h:b<w.heap.size):(w.alloc o).heap[b]? =w.heap[b]?:=by
 simp only[World.alloc,Array.getElem?_push];rw[aI be]
theorem heap_alloc_new:(w.alloc o).heap[w.heap.size]? =some o:=by
 simp only[World.alloc,Array.getElem?_push,if_true]
end
def jP:Obj->Nat
 | .cells c _ _=>c.size
 |_=>0
theorem ij.alloc{E:Env}{h:Tr O}{w:World}{n:Nat}{o:O}{ob:Obj}(g:Good E h w)(hn:E.ι n=none)(ht:n<fI)
  (ho:lO (E.put n w.heap.size 0 (jP ob)) (w.alloc ob) w.heap.size 0 o):
  ij E h w (E.put n w.heap.size 0 (jP ob)) (h.set n (some o)) (w.alloc ob):=by
 have uC:∀m b s,E.ι m=some (b,s)->b≠w.heap.size:=fun m b s e hb=>by have:=g.mO m b s e;omega
 have ku:E.le (E.put n w.heap.size 0 (jP ob)):=Env.q8 hn fun m x t e hx=>absurd hx (uC m x t e);have Bk:∀b c,E.φ b=some c->b<w.heap.size:=fun b c q=>by
  obtain⟨⟨el,fz,e⟩,_⟩:=g.gI b c q;exact(aQ.1 e).1
 refine⟨ku,⟨?_,?_,?_,g.jf.mono ku,fun b c q=>⟨by rw[jz (Bk b c q)];exact(g.gI b c q).1,fun m s hm e=>?_⟩⟩,by simp,rfl,rfl,rfl,fun b hb _=>jz hb,?_,fun _ _ q=>.inl q⟩
 case refine_4=>
  by_cases a:m=n
  . subst a;rw[Env.eV]at e;cases e;exact absurd (Bk _ c q) (cE _)
  . rw[Env.fk a]at e;exact(g.gI b c q).2 m s (ox ht hm a) e
 . intro m o' hm;rw[Tr.eO _ _ _ ht]at hm;by_cases e:m=n
   . subst e;rw[aG rfl]at hm;cases hm;exact⟨_,_,Env.eV,ho⟩
   . rw[aI e]at hm;obtain⟨b,s,h1,h2⟩:=g.rel m o' hm;exact⟨b,s,by rw[Env.fk e];exact h1,hU ku (ku.nm m b s h1).2 (jz (g.mO m b s h1)) h2⟩
 . intro m m' b s s' fL hm sP e e';rw[Tr.eO _ _ _ ht]at sP;by_cases a:m=n
   . subst a;rw[Env.eV]at e;have:m'≠m:=fun x=>fL x.symm;rw[Env.fk this]at e';cases e;exact uC _ _ _ e' rfl
   . rw[Env.fk a]at e;replace hm:ew h m:=ox ht hm a;by_cases a':m'=n
     . subst a';rw[Env.eV]at e';cases e';exact uC _ _ _ e rfl
     . rw[Env.fk a']at e';rw[aI a']at sP;exact g.inj m m' b s s' fL hm sP e e'
 . intro m b s e;by_cases a:m=n
   . subst a;rw[Env.eV]at e;cases e;simp
   . rw[Env.fk a]at e;have:=g.mO m b s e;simp;omega
 . intro m b s hm e hb;by_cases a:m=n
   . subst a;rw[Env.eV]at e;cases e;omega
   . rw[Env.fk a]at e;rw[Tr.eO _ _ _ ht,aI a]at hm;exact⟨m,s,hm,e,fun q=>ox ht q a⟩
section
variable{E:Env}{h h':Tr O}{w w':World}{m b s:Nat}{o:O}
theorem ij.write(g:Good E h w)(ht:m<fI)(ik:ew h m)(hm:E.ι m=some (b,s))
  (Ei:w'.heap.size=w.heap.size) (Hj:w'.tape=w.tape) (hos:w'.os=w.os) (oP:w'.output=w.output)
  (qf:∀x,x≠b->w'.heap[x]? =w.heap[x]?) (ho:lO E w' b s o):ij E h w E (h.set m (some o)) w':=by
 refine⟨E.le_refl,⟨?_,?_,?_,g.jf,fun b' c q=>⟨?_,fun k t hk e=>?_⟩⟩,be,Hj,hos,oP,?_,?_,fun _ _ q=>.inl q⟩
 case refine_4=>rw[qf b' fun e=>(g.gI b' c q).2 m s ik (e▸hm)];exact(g.gI b' c q).1
 case refine_5=>
  rcases rK ht hk with⟨a,_⟩|a
  . exact(g.gI b' c q).2 m t ik (a▸e)
  . exact(g.gI b' c q).2 k t a.2 e
 . intro k o' hk;rw[Tr.eO _ _ _ ht]at hk;by_cases e:k=m
   . subst e;rw[aG rfl]at hk;cases hk;exact⟨b,s,hm,ho⟩
   . rw[aI e]at hk;obtain⟨b',s',h1,h2⟩:=g.rel k o' hk;have fL:b'≠b:=by
      intro hb;subst hb;exact g.inj m k b' s s' (fun q=>e q.symm) ik (by rw[hk];simp) hm h1
     exact⟨b',s',h1,hU E.le_refl rfl (qf b' fL) h2⟩
 . intro k k' x t t' fL hk tY e e';refine g.inj k k' x t t' fL ?_ ?_ e e'
   . rcases rK ht hk with⟨q,_⟩|q
     . rw[q];exact ik
     . exact q.2
   . rw[Tr.eO _ _ _ ht]at tY;split at tY
     . rename_i q;rw[q];exact ik.live
     . exact tY
 . intro k x t e;rw[Ei];exact g.mO k x t e
 . intro x _ hn;refine qf x ?_;intro hx;subst hx;exact hn m s ik hm
 . intro k x t hk e _;by_cases q:k=m
   . subst q;exact⟨k,t,ik.live,e,fun _=>ik⟩
   . rw[Tr.eO _ _ _ ht,aI q]at hk;exact⟨k,t,hk,e,fun c=>ox ht c q⟩
theorem ij.move{n b s s':Nat}{o:O}(g:Good E h w)(ht:m<fI)(hn:n<fI)(sQ:E.ι n=none)(ik:ew h m)(hm:E.ι m=some (b,s))
  (Ei:w'.heap.size=w.heap.size) (Hj:w'.tape=w.tape) (hos:w'.os=w.os) (oP:w'.output=w.output)
  (qf:∀x,x≠b->w'.heap[x]? =w.heap[x]?) (ho:lO (E.put n b s' (E.β b)) w' b s' o):
  ij E h w (E.put n b s' (E.β b)) ((h.set m none).set n (some o)) w':=by
 have O9:m≠n:=by intro e;rw[e,sQ]at hm;simp at hm
 have ku:E.le (E.put n b s' (E.β b)):=Env.q8 sQ fun _ _ _ _ _=>rfl;have kD:∀k,((h.set m none).set n (some o)).get k=if k=n then some o else if k=m then none else h.get k:=by
  intro k;rw[Tr.eO _ _ _ hn];split
  . rfl
  . rw[Tr.eO _ _ _ ht]
 have tT:∀k,ew ((h.set m none).set n (some o)) k->k=n\/(k≠n/\k≠m/\ew h k):=by
  intro k q;rcases rK hn q with q|q
  . exact .inl q.1
  . rcases rK ht q.2 with c|c
    . obtain⟨_,_,c,_⟩:=c;cases c
    . exact .inr ⟨q.1,c.1,c.2⟩
 refine⟨ku,⟨?_,?_,?_,g.jf.mono ku,fun b2 c q=>⟨?_,fun k t hk e=>?_⟩⟩,be,Hj,hos,oP,?_,?_,fun _ _ q=>.inl q⟩
 case refine_4=>rw[qf b2 fun e=>(g.gI b2 c q).2 m s ik (e▸hm)];exact(g.gI b2 c q).1
 case refine_5=>
  rcases tT k hk with a|⟨a,_,a2⟩
  . subst a;rw[Env.eV]at e;cases e;exact(g.gI _ c q).2 m s ik hm
  . rw[Env.fk a]at e;exact(g.gI b2 c q).2 k t a2 e
 . intro k o' hk;rw[kD]at hk;by_cases e:k=n
   . subst e;rw[aG rfl]at hk;cases hk;exact⟨_,_,Env.eV,ho⟩
   . rw[aI e]at hk;by_cases e2:k=m
     . rw[aG e2]at hk;cases hk
     . rw[aI e2]at hk;obtain⟨b',t,h1,h2⟩:=g.rel k o' hk;have fL:b'≠b:=by
        intro hb;subst hb;exact g.inj m k b' s t (fun q=>e2 q.symm) ik (by rw[hk];simp) hm h1
       exact⟨b',t,by rw[Env.fk e];exact h1,hU ku (ku.nm k b' t h1).2 (qf b' fL) h2⟩
 . intro k k' x t t' fL hk tY e e';rw[kD]at tY;rcases tT k hk with a|⟨a,c,OJ⟩
   . subst a;rw[Env.eV]at e;cases e;have a':k'≠k:=fun q=>fL q.symm;rw[Env.fk a']at e';rw[aI a']at tY;by_cases c:k'=m
     . rw[aG c]at tY;exact tY rfl
     . rw[aI c]at tY;exact g.inj m k' b s t' (fun q=>c q.symm) ik tY hm e'
   . rw[Env.fk a]at e;by_cases a':k'=n
     . subst a';rw[Env.eV]at e';cases e';exact g.inj m k b s t (fun q=>c q.symm) ik OJ.live hm e
     . rw[Env.fk a']at e';rw[aI a']at tY;by_cases c':k'=m
       . rw[aG c']at tY;exact tY rfl
       . rw[aI c']at tY;exact g.inj k k' x t t' fL OJ tY e e'
 . intro k x t e;by_cases a:k=n
   . subst a;rw[Env.eV]at e;cases e;rw[Ei];exact g.mO m b s hm
   . rw[Env.fk a]at e;rw[Ei];exact g.mO k x t e
 . intro x _ hx;refine qf x ?_;intro q;subst q;exact hx m s ik hm
 . intro k x t hk e _;rw[kD]at hk;by_cases a:k=n
   . subst a;rw[Env.eV]at e;cases e;exact⟨m,s,ik.live,hm,fun _=>ik⟩
   . rw[Env.fk a]at e;rw[aI a]at hk;by_cases c:k=m
     . rw[aG c]at hk;exact absurd rfl hk
     . rw[aI c]at hk;exact⟨k,t,hk,e,fun q=>(tT k q).elim (fun c=>absurd c a) (·.2.2)⟩
theorem mU(hs:∀m o,h'.get m=some o->h.get m=some o){m:Nat}(k:h'.get m≠none):h.get m≠none:=by
 cases q:h'.get m with
 |none=>exact absurd q k
 |some o=>rw[hs m o q];simp
theorem gm(hs:∀m o,h'.get m=some o->h.get m=some o){m:Nat}(k:ew h' m):ew h m:=by
 obtain⟨o,a,b⟩:=k;exact⟨o,hs m o a,b⟩
theorem Good.sub(g:Good E h w)(hs:∀m o,h'.get m=some o->h.get m=some o):Good E h' w where
 rel:=fun m o hm=>g.rel m o (hs m o hm)
 inj:=fun m m' b s s' fL hm sP e e'=>g.inj m m' b s s' fL (gm hs hm) (mU hs sP) e e'
 mO:=g.mO
 jf:=g.jf
 gI:=fun b c q=>⟨(g.gI b c q).1,fun m s hm=>(g.gI b c q).2 m s (gm hs hm)⟩
theorem ij.forget(g:Good E h w)(ht:m<fI):ij E h w E (h.set m none) w:=by
 have hs:∀k o,(h.set m none).get k=some o->h.get k=some o:=by
  intro k o hk;rw[Tr.eO _ _ _ ht]at hk;split at hk
  . cases hk
  . exact hk
 exact⟨E.le_refl,g.sub hs,aA _,rfl,rfl,rfl,fun _ _ _=>rfl,fun k b s hk e _=>⟨k,s,mU hs hk,e,gm hs⟩,fun _ _ q=>.inl q⟩
theorem Addr.iU(b o n:Nat):(⟨b,o,none⟩:Addr).add n=⟨b,o+n,none⟩:=by
 unfold Addr.add;split
 . rename_i h;subst h;rfl
 . rfl
theorem mW{i:Nat}{c:Array Value}{el:TypeId}{fz:Nat×Nat}(h:w.heap[b]? =some (.cells c el fz)):w.cell? ⟨b,i,none⟩=c[i]?:=by
 simp[World.cell?,h]
end
theorem run_loadCellsFrom{P:Program}{w:World}{b o:Nat}{c:Array Value}{el:TypeId}{fz:Nat×Nat}(h:w.heap[b]? =some (.cells c el fz)):
  ∀(n i:Nat) (gl:Array Value),o+i+n<=c.size->(loadCellsFrom ⟨b,o,none⟩ i n gl).run P w= .ok (gl++((c.toList.drop (o+i)).take n).toArray) w
 |0,i,gl,_=>by simp[loadCellsFrom]
 |n+1,i,gl,hn=>by
  have fE:o+i<c.size:=by omega
  simp only[loadCellsFrom,Sem.run_bind,run_load,Addr.iU,mW h];rw[bk fE];simp only[Result.andThen_ok];rw[run_loadCellsFrom h n (i+1) _ be];congr 1;have hd:c.toList.drop (o+i)=c[o+i]::c.toList.drop (o+(i+1)):=by
   rw[bE (by simpa using fE)];simp[cA]
  rw[hd];simp
theorem run_loadCells{P:Program}{w:World}{b o n:Nat}{c:Array Value}{el:TypeId}{fz:Nat×Nat}(h:w.heap[b]? =some (.cells c el fz))(hn:o+n<=c.size):
  (loadCells ⟨b,o,none⟩ n).run P w= .ok ((c.toList.drop o).take n).toArray w:=by
 unfold loadCells;rw[run_loadCellsFrom h n 0 #[] be];simp
def putCells(c:Array Value)(o:Nat)(vs:List Value):Array Value:=(c.toList.take o++(vs++c.toList.drop (o+vs.length))).toArray
theorem jA{c:Array Value}{o:Nat}{vs:List Value}(h:o+vs.length<=c.size):(putCells c o vs).size=c.size:=by
 simp[putCells];omega
theorem mX{c:Array Value}{o:Nat}{vs:List Value}(h:o+vs.length<=c.size)(j:Nat):
  (putCells c o vs)[j]? =if o<=j/\j<o+vs.length then vs[j-o]? else c[j]?:=by
 simp only[putCells,List.getElem?_toArray];rw[bR];have hl:(List.take o c.toList).length=o:=by simp;omega
 rw[hl];by_cases h1:j<o
 . rw[aG h1,aI be,bM,aG h1];simp
 . rw[aI h1,bR];by_cases h2:j<o+vs.length
   . rw[aG be,aG be]
   . rw[aI be,aI be,bG];simp;congr 1;omega
theorem q9{c:Array Value}{o:Nat}{v:Value}{vs:List Value}(h:o+(vs.length+1)<=c.size):
  putCells (c.setIfInBounds o v) (o+1) vs=putCells c o (v::vs):=by
 have e1:o+1+vs.length<=(c.setIfInBounds o v).size:=by simp;omega
 have e2:o+(v::vs).length<=c.size:=by simpa using h
 apply Array.ext
 . rw[jA e1,jA e2];simp
 . intro j h1 h2;have:(putCells (c.setIfInBounds o v) (o+1) vs)[j]? =(putCells c o (v::vs))[j]?:=by
    rw[mX e1,mX e2];by_cases a:j=o
    . subst a;rw[aI be,aG (by simp)];have hj:j<c.size:=by omega
      simp[hj]
    . by_cases b:o+1<=j/\j<o+1+vs.length
      . rw[aG b,aG (by simp;omega)];have:j-o=(j-(o+1))+1:=by omega
        rw[this];simp
      . rw[aI b,aI (by simp;omega)];rw[Array.getElem?_setIfInBounds];rw[aI (fun q=>a q.symm)]
   rw[bk h1,bk h2]at this;exact cC this
theorem mY{P:Program}{b o:Nat}{el:TypeId}{fz:Nat×Nat}:∀(vs:List Value) (i:Nat) (w:World) (c:Array Value),w.heap[b]? =some (.cells c el fz)->
  mT fz c.size->(∀v∈vs,v.oneCell'=true)->o+i+vs.length<=c.size->
  ∃w',(storeCells ⟨b,o,none⟩ vs i).run P w= .ok () w'/\w'.heap[b]? =some (.cells (putCells c (o+i) vs) el fz)/\w'.heap.size=w.heap.size/\w'.tape=w.tape/\w'.os=w.os/\w'.output=w.output/\
   ∀x,x≠b->w'.heap[x]? =w.heap[x]?
 | [],i,w,c,h,_,_,hn=>by
   refine⟨w,rfl,?_,rfl,rfl,rfl,rfl,fun _ _=>rfl⟩;rw[h];have:putCells c (o+i) []=c:=by simp[putCells]
   rw[this]
 |v::vs,i,w,c,h,hf,hv,hn=>by
  simp only[aS]at hn;have fE:o+i<c.size:=by omega
  have hnf:w.frozen? ⟨b,o+i,none⟩=false:=by
   have:=hf (o+i) fE;simp only[World.frozen?,h];simpa using this
  let w1:=w.setCell ⟨b,o+i,none⟩ v
  have Ej:w1.heap[b]? =some (.cells (c.setIfInBounds (o+i) v) el fz):=by
   simp[w1,World.setCell,cm,h]
  obtain⟨w',e1,e2,e3,e4,e5,e6,e7⟩:=mY (P:=P) (o:=o) vs (i+1) w1 (c.setIfInBounds (o+i) v) Ej (by simpa using hf) (fun v hv'=>hv v (by simp[hv'])) (by simp only[Array.size_setIfInBounds];omega);refine⟨w',?_,?_,by rw[e3];simp[w1],by rw[e4];rfl,by rw[e5];rfl,by rw[e6];rfl,?_⟩
  . simp only[storeCells,Sem.run_bind];rw[run_store P w _ v .plain (hv v (by simp)),Addr.iU,mW h,bk fE];simp only[hnf,aO,cF,Result.andThen_ok];exact e1
  . rw[e2];have:o+(i+1)=o+i+1:=by omega
    rw[this,q9 be]
  . intro x hx;rw[e7 x hx];simp[w1,World.setCell,cm,Ne.symm hx]
theorem sR{E:Env}:∀{v:Value} {x:V},iz v=some x->dz E x v:=by
 intro v x h;cases v with
 |bool b=>simp only[iz,an]at h;subst h;rfl
 |int k n=>simp only[iz,an]at h;subst h;rfl
 |string s=>
  simp only[iz,an]at h;subst h;show Value.string s= .string ⟨s.data.toList.toArray⟩;rw[Array.toArray_toList]
 |pointer a=>cases a<;>simp only[iz,an]at h;. subst h;rfl
             . cases h
 |slice a l c=>
  cases a with
  |none=>match l,c,h with
   |0,0,h=>simp only[iz,an]at h;subst h;exact⟨rfl,rfl,rfl⟩
  |some a=>simp[iz]at h
 |map a=>cases a<;>simp only[iz,an]at h;. subst h;rfl
         . cases h
 |nilFunc=>simp only[iz,an]at h;subst h;rfl
 |nilIface=>simp only[iz,an]at h;subst h;rfl
 |_=>simp[iz]at h
theorem wF{E:Env}:∀{vs:List Value} {xs:ag},nH vs=some xs->dG E xs vs
 | [],xs,h=>by simp only[nH,an]at h;subst h;rfl
 |v::vs,xs,h=>by
  simp only[nH]at h;cases h1:iz v with
  |none=>simp[h1]at h
  |some x=>cases h2:nH vs with
   |none=>simp[h1,h2]at h
   |some r=>simp only[h1,h2,an]at h;subst h;exact⟨v,vs,sR h1,wF h2,rfl⟩
theorem zD{E:Env}{v:Value}{x:V}(h:Lv v=some x):dz E x v:=by
 unfold Lv at h;split at h
 . rename_i cs;cases h1:nH cs.toList with
   |none=>simp[h1]at h
   |some r=>simp only[h1,an]at h;subst h;exact⟨cs.toList,wF h1,by simp⟩
 . exact sR h
section runs
variable{P:Program}{w:World}
section
variable{t:TypeId}
theorem dj{d:TypeDesc}(h:P.underlying t=some d):(underlying t).run P w= .ok d w:=by simp[underlying,h]
theorem eT{s:Nat}(h:kK P t=some s):(sizeOf t).run P w= .ok s w:=by
 unfold kK at h;cases hi:P.info? t with
 |none=>simp[hi]at h
 |some i=>simp[hi]at h;simp[sizeOf,typeInfo,hi,h]
theorem lZ{z:V}(E:Env)(h:zeroOf P t=some z):∃z',(zeroValue t).run P w= .ok z' w/\dz E z z'/\(∃i,P.info? t=some i/\i.zero=some z'):=by
 unfold zeroOf at h;cases hi:P.info? t with
 |none=>simp[hi]at h
 |some i=>
  simp only[hi]at h;cases hz:i.zero with
  |none=>simp[hz]at h
  |some v=>simp only[hz]at h;exact⟨v,by simp[zeroValue,typeInfo,hi,hz],zD h,i,rfl,hz⟩
theorem rL{b:Bool}(h:MX P t=some b):(isAgg t).run P w= .ok b w:=by
 unfold MX at h;split at h
 . rename_i hu;simp at h;subst h;simp[isAgg,dj hu]
 . rename_i hu;simp at h;subst h;simp[isAgg,dj hu]
 . rename_i d h1 h2 hu;simp at h;subst h;simp only[isAgg,Sem.run_bind,dj hu,Result.andThen_ok]
   first|rfl|(split<;>first|rfl|(exact absurd rfl (h1 _))|(exact absurd rfl (h2 _ _)))
 . cases h
end
end runs
def jX(P:Program)(E:Env)(h:Tr O)(n:Nat)(w:World)(s:Sem Next):R->Prop
 | .val v h' n'=>∃E' w' v',(s.run P w= .ok (.value v') w'\/(s.run P w= .ok .skip w'/\v'=undef))/\dz E' v v'/\ij E h w E' h' w'/\
    (∀m,m≠n->E'.ι m=E.ι m)/\((n'=n/\E'=E)\/n'=n+1)
 | .call f args=>∃c7,dG E args c7/\((s.run P w= .ok (.enter f c7.toArray) w/\callee P f=true)\/(∃m l b,f=P.funcs.size+m/\E.ι m=some (l,b)/\s.run P w=(Instr.yield l c7.toArray).run P w))
 | .me f c args=>∃c' c7,s.run P w= .ok (.defer { target:=.fn (.func f) c'.toArray,args:=c7.toArray }) w/\dG E c c'/\dG E args c7
 | .recover=>s.run P w= .ok .recover w
 | .panic v=>∃v',s.run P w= .halt (.panic v') w/\dz E v v'
theorem dM{P:Program}{E:Env}{h:Tr O}{n:Nat}{w:World}{s:Sem Next}{v:V}{v':Value}(g:Good E h w)
  (hr:s.run P w= .ok (.value v') w) (hv:dz E v v'):jX P E h n w s (.val v h n):=
 ⟨E,w,v',.inl hr,hv,ij.refl g,fun _ _=>rfl,.inl ⟨rfl,rfl⟩⟩
theorem ot{E:Env}{cs:ag}{c:Array Value}(r:dG E cs c.toList):lY E 0 cs c:=by
 intro i v h;obtain⟨v',h1,h2⟩:=gz r i v h;exact⟨v',by simpa using h1,h2⟩
theorem kG{h h':Tr O}{n n':Nat}{o:O}(e:newObj h n o=some (h',n')):n<fI/\h'=h.set n (some o)/\n'=n+1:=by
 unfold newObj at e;split at e
 . rename_i q;simp at e;exact⟨q,e.1.symm,e.2.symm⟩
 . cases e
theorem JF{P:Program}{E:Env}{h h':Tr O}{n n':Nat}{w w1:World}{s:Sem Next}{cs:ag}{c:Array Value}{el:TypeId}{fz:Nat×Nat}{v:V}{v':Value}
  (g:Good E h w) (hn:E.ι n=none) (e:newObj h n (.cells cs)=some (h',n')) (hw:w1.heap=w.heap) (ht:w1.tape=w.tape) (ho:w1.os=w.os) (oP:w1.output=w.output)
  (Bk:mT fz c.size) (hr:s.run P w= .ok (.value v') (w1.alloc (.cells c el fz))) (hc:lY E 0 cs c)
  (hv:dz (E.put n w.heap.size 0 c.size) v v'):jX P E h n w s (.val v h' n'):=by
 obtain⟨gD,rfl,rfl⟩:=kG e;have g1:Good E h w1:=g.same hw;have hs:w1.heap.size=w.heap.size:=by rw[hw]
 have ku:E.le (E.put n w1.heap.size 0 c.size):=Env.q8 hn fun m x t q hx=>by have:=g1.mO m x t q;omega
 have u1:ij E h w E h w1:=⟨E.le_refl,g1,be,ht,ho,oP,fun b _ _=>by rw[hw],fun m _ s hm q _=>⟨m,s,hm,q,id⟩,fun _ _ q=>.inl q⟩;have u:=ij.alloc (ob:=.cells c el fz) (o:=.cells cs) g1 hn gD ⟨c,el,fz,heap_alloc_new,by simp[Env.put,jP],Bk,pR ku hc⟩;refine⟨E.put n w1.heap.size 0 c.size,_,v',.inl hr,by rw[hs];exact hv,u1.trans u,fun m hm=>Env.fk hm,.inr rfl⟩
theorem zE{P:Program}{E:Env}{h h':Tr O}{n n':Nat}{w w1:World}{s:Sem Next}{cs:ag}{c:Array Value}{el:TypeId}{v:V}{v':Value}
  (g:Good E h w) (hn:E.ι n=none) (e:newObj h n (.cells cs)=some (h',n')) (hw:w1.heap=w.heap) (ht:w1.tape=w.tape) (ho:w1.os=w.os) (oP:w1.output=w.output)
  (hr:s.run P w= .ok (.value v') (w1.alloc (.cells c el))) (hc:lY E 0 cs c)
  (hv:dz (E.put n w.heap.size 0 c.size) v v'):jX P E h n w s (.val v h' n'):=
 JF g hn e hw ht ho oP (fun i _ q=>by simp at q) hr hc hv
theorem Hl{P:Program}{E:Env}{h h':Tr O}{n n':Nat}{w w1:World}{s:Sem Next}{r:Row}{c:Array Value}{el:TypeId}{fz:Nat×Nat}{v:V}{v':Value}
  (g:Good E h w) (hn:E.ι n=none) (JC:r.sc) (e:newObj h n r.Eh=some (h',n')) (hw:w1.heap=w.heap) (ht:w1.tape=w.tape) (ho:w1.os=w.os) (oP:w1.output=w.output)
  (Bk:mT fz c.size) (hr:s.run P w= .ok (.value v') (w1.alloc (.cells c el fz))) (hc:lY E 0 r.iH c)
  (hv:dz (E.put n w.heap.size 0 c.size) v v'):jX P E h n w s (.val v h' n'):=by
 obtain⟨gD,rfl,rfl⟩:=kG e;have g1:Good E h w1:=g.same hw;have hs:w1.heap.size=w.heap.size:=by rw[hw]
 have ku:E.le (E.put n w1.heap.size 0 c.size):=Env.q8 hn fun m x t q hx=>by have:=g1.mO m x t q;omega
 have u1:ij E h w E h w1:=⟨E.le_refl,g1,be,ht,ho,oP,fun b _ _=>by rw[hw],fun m _ s hm q _=>⟨m,s,hm,q,id⟩,fun _ _ q=>.inl q⟩;have u:=ij.alloc (ob:=.cells c el fz) (o:=r.Eh) g1 hn gD (yc ⟨c,el,_,heap_alloc_new,by simp[Env.put,jP],Bk,pR ku hc⟩ JC);refine⟨E.put n w1.heap.size 0 c.size,_,v',.inl hr,by rw[hs];exact hv,u1.trans u,fun m hm=>Env.fk hm,.inr rfl⟩
theorem sU{P:Program}{E:Env}{h h':Tr O}{n n':Nat}{w w1:World}{s:Sem Next}{r:Row}{c:Array Value}{el:TypeId}{v:V}{v':Value}
  (g:Good E h w) (hn:E.ι n=none) (JC:r.sc) (e:newObj h n r.Eh=some (h',n')) (hw:w1.heap=w.heap) (ht:w1.tape=w.tape) (ho:w1.os=w.os) (oP:w1.output=w.output)
  (hr:s.run P w= .ok (.value v') (w1.alloc (.cells c el))) (hc:lY E 0 r.iH c)
  (hv:dz (E.put n w.heap.size 0 c.size) v v'):jX P E h n w s (.val v h' n'):=by
 obtain⟨gD,rfl,rfl⟩:=kG e;have g1:Good E h w1:=g.same hw;have hs:w1.heap.size=w.heap.size:=by rw[hw]
 have ku:E.le (E.put n w1.heap.size 0 c.size):=Env.q8 hn fun m x t q hx=>by have:=g1.mO m x t q;omega
 have u1:ij E h w E h w1:=⟨E.le_refl,g1,be,ht,ho,oP,fun b _ _=>by rw[hw],fun m _ s hm q _=>⟨m,s,hm,q,id⟩,fun _ _ q=>.inl q⟩;have u:=ij.alloc (ob:=.cells c el) (o:=r.Eh) g1 hn gD (yc ⟨c,el,_,heap_alloc_new,by simp[Env.put,jP],(fun i _ q=>by simp at q),pR ku hc⟩ JC);refine⟨E.put n w1.heap.size 0 c.size,_,v',.inl hr,by rw[hs];exact hv,u1.trans u,fun m hm=>Env.fk hm,.inr rfl⟩
theorem Ya{E:Env}{h:Tr O}{w:World}{n z:Nat}(g:Good E h w)(hn:E.ι n=none):E.le (E.put n w.heap.size 0 z):=
 Env.q8 hn fun m x t q hx=>by have:=g.mO m x t q;omega
section ops
variable{P:Program}{E:Env}{h:Tr O}{n:Nat}{w:World}
theorem FF(P:Program)(t:TypeId)(z:V):BI P t z= .cells z.cells\/(z.cells=[.ptr none,.di none 0 0 0]/\BI P t z= .A3 t false (.di none 0 0 0)):=by
 unfold BI;split
 . rename_i hz;split
   . split
     . split
       . split
         . exact .inr ⟨hz,rfl⟩
         . exact .inl rfl
       . exact .inl rfl
     . exact .inl rfl
   . exact .inl rfl
 . exact .inl rfl
section
variable{t:TypeId}{m s:Nat}{cs:ag}{o k:Nat}{new:ag}
theorem Pa{z:V}{h':Tr O}{n':Nat}(g:Good E h w)(hn:E.ι n=none)(hz:zeroOf P t=some z)(e:newObj h n (BI P t z)=some (h',n')):
  jX P E h n w (do pure (.value (<- Instr.alloc t true (.tuple #[])))) (.val (.ptr (some (n,0))) h' n'):=by
 obtain⟨z',hr,hv,_⟩:=lZ (w:=w) E hz;rcases FF P t z with q|⟨hc,q⟩
 case inr=>
  rw[q]at e;obtain⟨gD,rfl,rfl⟩:=kG e;have oQ:=gZ hv;rw[hc]at oQ;obtain⟨p',_,r1,⟨x',_,r2,qg,rfl⟩,hl⟩:=oQ;simp only[dG]at qg;subst qg;simp only[dz]at r1;subst r1;have hzc:z'.cells=#[.pointer none,x']:=by apply Array.ext';rw[hl]
  have hu:=ij.alloc (ob:=.cells z'.cells t) (o:=.A3 t false (.di none 0 0 0)) g hn gD ⟨rfl,x',_,by rw[heap_alloc_new,hzc];rfl,by simp[Env.put,jP,hzc],(fun i _ q=>by simp at q),je (Ya g hn) _ _ r2⟩;exact⟨_,_,.pointer (some ⟨w.heap.size,0,none⟩),.inl (by simp[Instr.alloc,hr,newVar,newRow]),⟨_,_,Env.eV,by simp⟩,hu,fun m hm=>Env.fk hm,.inr rfl⟩
 rw[q]at e;refine zE (c:=z'.cells) (el:=t) (w1:=w) (v':=.pointer (some ⟨w.heap.size,0,none⟩)) g hn e rfl rfl rfl rfl ?_ (ot (gZ hv)) ⟨_,_,Env.eV,by simp⟩;simp[Instr.alloc,hr,newVar,newRow]
theorem Yb{v:V}{v':Value}{h':Tr O}{n':Nat}(g:Good E h w)(hn:E.ι n=none)(hv:dz E v v')(e:newObj h n (.cells v.cells)=some (h',n')):
  jX P E h n w (do pure (.value (<- Instr.box t v'))) (.val (.ptr (some (n,0))) h' n'):=by
 refine zE (c:=v'.cells) (el:=t) (w1:=w) (v':=.pointer (some ⟨w.heap.size,0,none⟩)) g hn e rfl rfl rfl rfl ?_ (ot (gZ hv)) ⟨_,_,Env.eV,by simp⟩;simp[Instr.box,newVar,newRow]
theorem nP{c:Array Value}(r:lY E s cs c){k:Nat}(hk:0<k)(hc:k<=cs.length):s+k<=c.size:=by
 obtain⟨v',h1,_⟩:=r (k-1) (cs[k-1]'(by omega)) (ay _);have:=(aQ.1 h1).1;omega
theorem nQ{c:Array Value}(r:lY E s cs c){o k:Nat}(hk:o+k<=cs.length)(h0:s+o+k<=c.size):
  dG E ((cs.drop o).take k) ((c.toList.drop (s+o)).take k):=by
 refine jt (by simp;omega) fun i v q=>?_;rw[bM]at q ⊢;split at q
 . rename_i hi;rw[aG hi];rw[bG]at q ⊢;obtain⟨v',h1,h2⟩:=r (o+i) v q;exact⟨v',by rw[<- h1];simp[cA],h2⟩
 . cases q
theorem zF{r:ag}(e:cut cs o k=some r):o+k<=cs.length/\r=(cs.drop o).take k:=by
 unfold cut at e;split at e
 . rename_i q;simp at e;exact⟨q,e.symm⟩
 . cases e
theorem jr{b s o:Nat}{cs:ag}{v:V}{c:Array Value}{el:TypeId}{fz:Nat×Nat}(hb:w.heap[b]? =some (.cells c el fz))(r:lY E s cs c)
  (e:kX P t cs o=some v):∃v',(loadVar t ⟨b,s+o,none⟩).run P w= .ok v' w/\dz E v v':=by
 unfold kX at e;split at e
 . rename_i ha;cases hs:kK P t with
   |none=>simp[hs]at e
   |some k=>
    simp only[hs]at e;cases hc:cut cs o k with
    |none=>simp[hc]at e
    |some x=>
     simp only[hc,bh,an]at e;subst e;obtain⟨h1,rfl⟩:=zF hc;by_cases hk:k=0
     . subst hk;refine⟨.agg #[],?_,[],by simp[dG],rfl⟩;simp[loadVar,rL ha,eT hs,loadCells,loadCellsFrom]
     . have h0:s+o+k<=c.size:=by have:=nP r (k:=o+k) be h1;omega
       refine⟨_,?_,_,nQ r h1 h0,rfl⟩;simp[loadVar,rL ha,eT hs,run_loadCells hb h0]
 . rename_i ha;obtain⟨v',h1,h2⟩:=r o v e;refine⟨v',?_,h2⟩;simp[loadVar,rL ha,mW hb,h1]
 . cases e
theorem Pb{E:Env}{m b:Nat}{self:Bool}{x:V}{x':Value}(hi:E.ι m=some (b,0))(hx:dz E x x'):lY E 0 (ue m self x) #[.pointer (if self then some ⟨b,0,none⟩else none),x']:=by
 intro i v q
 match i with
 |0=>
  simp only[ue,bF,an]at q;subst q;refine⟨_,rfl,?_⟩;cases self with
  |true=>exact⟨b,0,hi,rfl⟩
  |false=>rfl
 |1=>
  simp only[ue,cu,bF,an]at q;subst q;exact⟨_,rfl,hx⟩
 |i+2=>simp[ue]at q
theorem BU{t:TypeId}{a v:V}{a':Value}(g:Good E h w)(ha:dz E a a')(e:loadAt P t h a=some v):
  ∃b s,a'= .pointer (some ⟨b,s,none⟩)/\∃v',(loadVar t ⟨b,s,none⟩).run P w= .ok v' w/\dz E v v':=by
 unfold loadAt at e;split at e
 . rename_i m o;split at e
   . rename_i cs hm;obtain⟨b,s,hi,c,el,fz,hb,_,_,hc⟩:=g.rel m _ hm;obtain⟨b',s',kz,rfl⟩:=ha;rw[hi]at kz;cases kz;obtain⟨v',h1,h2⟩:=jr hb hc e;exact⟨b,s+o,rfl,v',h1,h2⟩
   . rename_i k ks hm;obtain⟨b,s,hi,c,el,fz,hb,_,hc⟩:=g.rel m _ hm;obtain⟨b',s',kz,rfl⟩:=ha;rw[hi]at kz;cases kz;obtain⟨v',h1,h2⟩:=jr hb (mG.2 hc) e;exact⟨b,s+o,rfl,v',h1,h2⟩
   . rename_i k ks hm;obtain⟨b,s,hi,c,el,fz,hb,_,_,hc⟩:=g.rel m _ hm;obtain⟨b',s',kz,rfl⟩:=ha;rw[hi]at kz;cases kz;obtain⟨v',h1,h2⟩:=jr hb hc e;exact⟨b,s+o,rfl,v',h1,h2⟩
   . rename_i cs hm;obtain⟨b,s,hi,c,el,fz,vs,hb,_,_,hd,hc⟩:=g.rel m _ hm;obtain⟨b',s',kz,rfl⟩:=ha;rw[hi]at kz;cases kz;obtain⟨v',h1,h2⟩:=jr hb ((nN (ja hd)).2 ⟨vs,hd,hc⟩) e;exact⟨b,s+o,rfl,v',h1,h2⟩
   . rename_i T self x hm;obtain⟨b,s,hi,hs,x',fz,hb,_,_,hx⟩:=g.rel m _ hm;obtain⟨b',s',kz,rfl⟩:=ha;rw[hi]at kz;cases kz;subst hs;obtain⟨v',h1,h2⟩:=jr (E:=E) (s:=0) hb (Pb hi hx) e;exact⟨b,0+o,rfl,v',h1,h2⟩
   . cases e
 . rename_i cs;obtain⟨b,o,c,vs,rfl,hf,hd,hc⟩:=ha;obtain⟨⟨el,fz,hb⟩,_⟩:=g.gI b c hf;obtain⟨v',h1,h2⟩:=jr hb ((nN (ja hd)).2 ⟨vs,hd,hc⟩) e;exact⟨b,o,rfl,v',h1,h2⟩
 . cases e
theorem To{a v:V}{a':Value}(g:Good E h w)(ha:dz E a a')(e:loadAt P t h a=some v):
  jX P E h n w (do pure (.value (<- Instr.loadAt t a'))) (.val v h n):=by
 obtain⟨b,s,rfl,v',h1,h2⟩:=BU g ha e;exact dM g (by simp[Instr.loadAt,Instr.sureAddr,h1]) h2
theorem zG{r:ag}{o:Nat}(e:BH cs o new=some r):o+new.length<=cs.length/\r=cs.take o++(new++cs.drop (o+new.length)):=by
 unfold BH at e;split at e
 . rename_i q;simp at e;exact⟨q,e.symm⟩
 . cases e
theorem JG{α:Type}{cs new:List α}{o:Nat}(h:o+new.length<=cs.length)(j:Nat):
  (cs.take o++(new++cs.drop (o+new.length)))[j]? =if o<=j/\j<o+new.length then new[j-o]? else cs[j]?:=by
 rw[bR];have hl:(List.take o cs).length=o:=by simp;omega
 rw[hl];by_cases h1:j<o
 . rw[aG h1,aI be,bM,aG h1]
 . rw[aI h1,bR];by_cases h2:j<o+new.length
   . rw[aG be,aG be]
   . rw[aI be,aI be,bG];congr 1;omega
theorem Ho{cs new:ag}{ki:List Value}{c:Array Value}(r:lY E s cs c)(hn:dG E new ki)(fL:0<new.length)(h:o+new.length<=cs.length):
  s+o+ki.length<=c.size/\lY E s (cs.take o++(new++cs.drop (o+new.length))) (putCells c (s+o) ki):=by
 have hl:=eK hn;have hb:s+o+ki.length<=c.size:=by have:=nP r (k:=o+new.length) be h;omega
 refine⟨hb,fun i v q=>?_⟩;rw[JG h]at q;rw[mX hb];split at q
 . rename_i hi;rw[aG be];obtain⟨v',h1,h2⟩:=gz hn _ v q;exact⟨v',by rw[<- h1];congr 1;omega,h2⟩
 . rename_i hi;rw[aI be];exact r i v q
theorem w6{b s:Nat}{ob:O}{r r':Row}{new:ag}{ki:List Value}(g:Good E h w)(gD:m<fI)(hm:h.get m=some ob)(hr:ob.row=some r)(hi:E.ι m=some (b,s))
  (hn:dG E new ki) (fL:0<new.length) (JC:new.all V.scalar=true) (hl:o+new.length<=r.iH.length) (S1:wk (r.iH.take o++(new++r.iH.drop (o+new.length))) r'.iH) (M2:r.sc->r'.sc):
  ∃w',(storeCells ⟨b,s+o,none⟩ ki).run P w= .ok () w'/\ij E h w E (h.set m (some r'.Eh)) w':=by
 obtain⟨b',s',kz,q⟩:=g.rel m _ hm;obtain⟨⟨c,el,fz,hb,hz,hf,hc⟩,Yc⟩:=Hi hr q;rw[hi]at kz;cases kz;obtain⟨zH,Ek⟩:=Ho hc hn fL hl;have JH:∀v∈ki,v.oneCell'=true:=by
  intro v hv;obtain⟨i,kz⟩:=List.getElem?_of_mem hv;have fE:i<new.length:=by rw[<- eK hn];exact(aF.1 kz).1
  obtain⟨v',h1,h2⟩:=gz hn i new[i] (ay fE);rw[kz]at h1;cases h1;exact uA h2 (by rw[bn]at JC;exact JC _ (bY fE))
 obtain⟨w',e1,e2,e3,e4,e5,e6,e7⟩:=mY (P:=P) (o:=s+o) ki 0 w c hb hf JH be;refine⟨w',e1,ij.write g gD ⟨_,hm,O7 hr⟩ hi e3 e4 e5 e6 e7 ?_⟩;exact yc ⟨_,el,fz,e2,by rw[jA be];exact hz,by rw[jA be];exact hf,yb S1 Ek⟩ (M2 Yc)
theorem M3{b s:Nat}{cs new:ag}{ki:List Value}(g:Good E h w)(gD:m<fI)(hm:h.get m=some (.cells cs))(hi:E.ι m=some (b,s))
  (hn:dG E new ki) (fL:0<new.length) (JC:new.all V.scalar=true) (hl:o+new.length<=cs.length):
  ∃w',(storeCells ⟨b,s+o,none⟩ ki).run P w= .ok () w'/\ij E h w E (h.set m (some (.cells (cs.take o++(new++cs.drop (o+new.length)))))) w':=
 w6 (r':=.vs (cs.take o++(new++cs.drop (o+new.length)))) g gD hm rfl hi hn fL JC hl (iK _) (fun _=>trivial)
theorem Pc{a v:V}{a' v':Value}{h':Tr O}(g:Good E h w)(ha:dz E a a')(hv:dz E v v')(e:storeAt P t h v a=some h'):
  jX P E h n w (do Instr.storeAt t a' v';pure .skip) (.val (.eo []) h' n):=by
 unfold storeAt at e;split at e
 . rename_i m o;split at e
   . rename_i cs hm;split at e
     . rename_i s hs;split at e
       . rename_i hq;obtain⟨h1,h2,h3,h4⟩:=hq;split at e
         . rename_i cs' hsp;obtain rfl:=ek e;obtain⟨ku,rfl⟩:=zG hsp;obtain⟨b,s',hi,rfl⟩:=ha;have nT:=gZ hv;obtain⟨w',hr,hu⟩:=M3 (P:=P) g h3 hm hi nT be h4 ku;refine⟨E,w',undef,.inr ⟨?_,rfl⟩,⟨[],rfl,rfl⟩,hu,fun _ _=>rfl,.inl ⟨rfl,rfl⟩⟩;have lP:v'.cells.size=s:=by have:=eK nT;simp at this;omega
           simp[Instr.storeAt,Instr.sureAddr,storeVar,eT hs,lP,hr]
         . cases e
       . cases e
     . cases e
   . rename_i k ks hm;split at e
     . rename_i s hs;split at e
       . rename_i hq;obtain⟨h1,h2,h3⟩:=hq;split at e
         . rename_i new sQ;split at e
           . rename_i ku;obtain rfl:=ek e;have Yd:=pT sQ;have LB:new.length=s:=by have:=aN List.length Yd;simp at this;omega
             obtain⟨b,s',hi,rfl⟩:=ha;have nT:=gZ hv;obtain⟨w',hr,hu⟩:=w6 (P:=P) (o:=o) (r':=.is k (fM ks o new)) g h3 hm rfl hi nT be (by rw[Yd];simp[V.scalar]) (by rw[Yd];simp[Row.iH];omega)
              (by rw[Yd];simp[Row.iH,fM,aX,cK,List.map_drop];exact iK _) (fun _=>trivial)
             refine⟨E,w',undef,.inr ⟨?_,rfl⟩,⟨[],rfl,rfl⟩,hu,fun _ _=>rfl,.inl ⟨rfl,rfl⟩⟩;have lP:v'.cells.size=s:=by have:=eK nT;simp at this;omega
             simp[Instr.storeAt,Instr.sureAddr,storeVar,eT hs,lP,hr]
           . cases e
         . cases e
       . cases e
     . cases e
   . rename_i cs hm;split at e
     . rename_i s hs;split at e
       . rename_i hq;obtain⟨h1,h2,h3⟩:=hq;split at e
         . rename_i new sQ;split at e
           . rename_i ku;obtain rfl:=ek e;have LB:=uB sQ;obtain⟨b,s',hi,rfl⟩:=ha;have nT:=gZ hv;have hcn:dG E (D.lN new) v'.cells.toList:=ya sQ E _ nT;have Tp:(D.lN new).length=s:=by rw[D.gr,aY];omega
             obtain⟨w',hr,hu⟩:=w6 (P:=P) (o:=o) (r:=.ds cs) (r':=.ds (wA cs o new)) g h3 hm rfl hi hcn be (Av (nO sQ)) (by simp only[Row.iH,D.gr,aY];omega)
              (by simp[Row.iH,wA,D.gr,aX,cK,List.map_drop];exact iK _)
              (fun hs x hx=>by
               simp only[wA,aU]at hx;rcases hx with hx|hx|hx
               . exact hs x (List.mem_of_mem_take hx)
               . exact nO sQ x hx
               . exact hs x (List.mem_of_mem_drop hx))
             refine⟨E,w',undef,.inr ⟨?_,rfl⟩,⟨[],rfl,rfl⟩,hu,fun _ _=>rfl,.inl ⟨rfl,rfl⟩⟩;have lP:v'.cells.size=s:=by have:=eK nT;simp at this;omega
             simp[Instr.storeAt,Instr.sureAddr,storeVar,eT hs,lP,hr]
           . cases e
         . cases e
       . cases e
     . cases e
   . rename_i T self x0 hm;split at e
     . rename_i x hs hcv;split at e
       . rename_i hq;obtain⟨rfl,h3,h4⟩:=hq;obtain rfl:=ek e;obtain⟨b,s',hi,rfl⟩:=ha;obtain⟨b',s,kz,h0,x0',fz,hb,oM,hf,hx0⟩:=g.rel m _ hm;rw[hi]at kz;cases kz;subst h0;have nT:=gZ hv;rw[hcv]at nT;obtain⟨x',_,r1,qg,hl⟩:=nT;simp only[dG]at qg;subst qg;have Yd:v'.cells=#[x']:=by apply Array.ext';rw[hl]
         obtain⟨w',e1,e2,e3,e4,e5,e6,e7⟩:=mY (P:=P) (o:=0+1) [x'] 0 w _ hb hf (fun y hy=>by rw[aq]at hy;subst hy;exact uA r1 h4) (by simp);refine⟨E,w',undef,.inr ⟨?_,rfl⟩,⟨[],rfl,rfl⟩,ij.write g h3 ⟨_,hm,rfl⟩ hi e3 e4 e5 e6 e7 ⟨rfl,x',fz,?_,oM,hf,r1⟩,fun _ _=>rfl,.inl ⟨rfl,rfl⟩⟩
         . have lP:v'.cells.size=1:=by rw[Yd];rfl
           have e1':(storeCells ⟨b,1,none⟩ v'.cells.toList).run P w= .ok () w':=by rw[Yd];simpa using e1
           simp[Instr.storeAt,Instr.sureAddr,storeVar,eT hs,lP,e1']
         . rw[e2];rfl
       . cases e
     . cases e
   . cases e
 . cases e
end
end ops
def Ax(E:Env):List (Nat×V)->List (Nat×Value)->Prop
 | [],l=>l=[]
 |x::xs,l=>∃y ys,y.1=x.1/\dz E x.2 y.2/\Ax E xs ys/\l=y::ys
theorem El(off:Nat):∀(vs:List Value) (k:Nat) (c:Array Value),off+k+vs.length<=c.size->
  (vs.zipIdx k).foldl (fun cs (x:Value×Nat)=>cs.setIfInBounds (off+x.2) x.1) c=putCells c (off+k) vs
 | [],k,c,_=>by simp[putCells]
 |v::vs,k,c,h=>by
  simp only[aS]at h;simp only[List.zipIdx_cons,List.foldl_cons];rw[El off vs (k+1) _ (by simp;omega)];have:off+(k+1)=off+k+1:=by omega
  rw[this,q9 be]
theorem yd{E:Env}{xY:Nat->Option (Nat×Nat)}:∀(parts:List (Nat×V)) (nU:List (Nat×Value)) (cells:ag) (p9:Array Value) (r:ag),
  rI xY cells parts=some r->dG E cells p9.toList->Ax E parts nU->∃r',Instr.fill xY p9 nU=some r'/\dG E r r'.toList
 | [],_,cells,p9,r,e,hc,hp=>by
   simp only[Ax]at hp;subst hp;simp only[rI,an]at e;subst e;exact⟨p9,rfl,hc⟩
 |(i,v)::rest,_,cells,p9,r,e,hc,hp=>by
  obtain⟨⟨i',v'⟩,ys,q1,hv,hr,rfl⟩:=hp;simp only at q1 hv;subst q1;simp only[rI]at e;cases o7:xY i' with
  |none=>simp[o7]at e
  |some p=>
   obtain⟨off,size⟩:=p;simp only[o7]at e;split at e
   . rename_i lP;cases hs:BH cells off v.cells with
     |none=>simp[hs]at e
     |some Ye=>
      simp only[hs]at e;obtain⟨ku,rfl⟩:=zG hs;have hcv:=gZ hv;have FG:=eK hcv;have hlc:=eK hc;simp only[Array.length_toList]at FG hlc;have rj:v'.cells.zipIdx.foldl (fun cs (x:Value×Nat)=>cs.setIfInBounds (off+x.2) x.1) p9=putCells p9 off v'.cells.toList:=by
       rw[<- Array.foldl_toList,Array.toList_zipIdx];exact El off v'.cells.toList 0 p9 (by simp;omega)
      have ahV:dG E (cells.take off++(v.cells++cells.drop (off+v.cells.length))) (putCells p9 off v'.cells.toList).toList:=by
       simp only[putCells];refine ir (BR hc) (ir hcv ?_);have:off+v'.cells.toList.length=off+v.cells.length:=by simp;omega
       rw[this];exact BS hc
      obtain⟨r',h1,h2⟩:=yd rest ys _ _ r e ahV hr;refine⟨r',?_,h2⟩;simp only[Instr.fill,o7];rw[aI (by simp;omega)];rw[<- h1,<- rj]
   . cases e
theorem uD{P:Program}:∀(fs:List Field) (ug:List (Nat×Nat)),sH P fs=some ug->
  fs.mapM (fun f=>(P.info? f.type).map fun i=>(f.offset,i.size))=some ug
 | [],ug,h=>by simp[sH]at h;subst h;rfl
 |f::fs,ug,h=>by
  simp only[sH,kK]at h;cases hi:P.info? f.type with
  |none=>simp[hi]at h
  |some i=>
   simp only[hi,bh]at h;cases hr:sH P fs with
   |none=>simp[hr]at h
   |some r=>
    simp only[hr,an]at h;subst h;simp[List.mapM_cons,hi,uD fs r hr]
theorem Ay{z:ag}(hz:0<z.length):∀(n i:Nat),(gL z n)[i]? =if i<n*z.length then z[i%z.length]? else none
 |0,i=>by simp[gL]
 |n+1,i=>by
  simp only[gL,bR];by_cases h:i<z.length
  . rw[aG h,aG (by rw[cM];omega),Nat.mod_eq_of_lt h]
  . rw[aI h,Ay hz n,cM,Nat.one_mul];have:(i-z.length)%z.length=i%z.length:=by rw[Nat.mod_eq_sub_mod (a:=i) be]
    rw[this];by_cases h2:i-z.length<n*z.length
    . rw[aG h2,aG be]
    . rw[aI h2,aI be]
theorem qh{z:ag}:∀n,(gL z n).length=n*z.length
 |0=>by simp[gL]
 |n+1=>by simp[gL,qh n,cM];omega
theorem BV{E:Env}{z:ag}{z':Array Value}(hz:dG E z z'.toList)(h0:0<z.length)(n:Nat):
  dG E (gL z n) ((Array.range (n*z.length)).map (z'[·%z'.size]!)).toList:=by
 have hl:z'.size=z.length:=by have:=eK hz;simpa using this
 refine jt (by simp[qh]) fun i v q=>?_;rw[Ay h0]at q;split at q
 . rename_i hi;obtain⟨v',h1,h2⟩:=gz hz _ v q;refine⟨v',?_,h2⟩;have fE:i%z'.size<z'.size:=Nat.mod_lt _ be;rw[bK]at h1;have mh:z'[i%z'.size]? =some v':=by rw[hl];exact h1
   rw[bK,Array.getElem?_map];rw[Array.getElem?_range];rw[aG hi];simp only[bh];rw[getElem!_pos z' _ fE];rw[bk fE]at mh;exact mh
 . cases q
theorem w7{s:Sem Value}{v:V}(e:sI s=some v):∃v',s= .pure v'/\∀E,dz E v v':=by
 cases s with
 |pure v'=>exact⟨v',rfl,fun E=>sR e⟩
 |_=>simp[sI]at e
theorem fT:∀(a b:aa),eE a b=(a==b)
 | [],[]=>rfl
 | [],_::_=>rfl
 |_::_,[]=>rfl
 |a::x,b::y=>by
  simp only[eE];by_cases h:a=b
  . subst h;have:Nat.beq a.toNat a.toNat=true:=cL _;rw[this];simp[fT x y]
  . have:Nat.beq a.toNat b.toNat=false:=by
     cases hh:Nat.beq a.toNat b.toNat with
     |false=>rfl
     |true=>exact absurd (UInt8.toNat_inj.1 (aD hh)) h
    rw[this];have hab:(a==b)=false:=by simpa using h
    simp[hab]
theorem rM(a b:aa):((⟨a.toArray⟩:ByteArray)==⟨b.toArray⟩)=eE a b:=by
 rw[fT,beq_toListBytes,ByteArray.toList_eq,ByteArray.toList_eq]
theorem sV(a b:aa):((⟨a.toArray⟩:ByteArray).toList==(⟨b.toArray⟩:ByteArray).toList)=eE a b:=by
 rw[<- rM,beq_toListBytes]
section ops
variable{P:Program}{E:Env}{h:Tr O}{n:Nat}{w:World}
theorem M4{t:TypeId}{parts:List (Nat×V)}{nU:Array (Nat×Value)}{v:V}(hp:Ax E parts nU.toList)(e:Jt P t parts=some v):
  ∃v',(Instr.build t nU).run P w= .ok v' w/\dz E v v':=by
 unfold Jt at e;split at e
 . rename_i z nI hz hu;obtain⟨z',_,hv,i,hi,hiz⟩:=lZ (w:=w) E hz;cases hs:sH P nI.toList with
   |none=>simp[hs]at e
   |some ug=>
    simp only[hs]at e;cases hf:rI (fun i=>ug[i]?) z.cells parts with
    |none=>simp[hf]at e
    |some cs=>
     simp only[hf,bh,an]at e;subst e;obtain⟨r',h1,h2⟩:=yd parts nU.toList z.cells z'.cells cs hf (gZ hv) hp;refine⟨.agg r',run_build w t nU r' ?_,r'.toList,h2,by simp⟩;simp only[Program.built,hi,hu,hiz,uD _ _ hs];simpa using h1
 . rename_i z m Tn hz hu;obtain⟨z',_,hv,i,hi,hiz⟩:=lZ (w:=w) E hz;cases hs:kK P Tn with
   |none=>simp[hs]at e
   |some s=>
    simp only[hs]at e;cases hf:rI (fun i=>some (i*s,s)) z.cells parts with
    |none=>simp[hf]at e
    |some cs=>
     simp only[hf,bh,an]at e;subst e;obtain⟨r',h1,h2⟩:=yd parts nU.toList z.cells z'.cells cs hf (gZ hv) hp;refine⟨.agg r',run_build w t nU r' ?_,r'.toList,h2,by simp⟩;unfold kK at hs;cases hie:P.info? Tn with
     |none=>simp[hie]at hs
     |some ie=>
      simp only[hie,bh,an]at hs;simp only[Program.built,hi,hu,hiz,hie,hs];exact h1
 . cases e
theorem DP{t:TypeId}{cN:Nat}{parts:List (Nat×V)}{nU:Array (Nat×Value)}{r:R}(g:Good E h w)(hn:E.ι n=none)(hp:Ax E parts nU.toList)
  (e:ow P t cN parts h n=some r):jX P E h n w (do pure (.value (<- Instr.buildSlice t cN nU))) r:=by
 unfold ow at e;cases he:uh P t with
 |none=>simp[he]at e
 |some el=>
  simp only[he]at e;cases hs:kK P el with
  |none=>simp[hs]at e
  |some s=>
   cases hz:zeroOf P el with
   |none=>simp[hs,hz]at e
   |some z=>
    simp only[hs,hz]at e;split at e
    . rename_i hq;obtain⟨FH,nw,GZ⟩:=hq;cases hf:rI (fun i=>some (i*s,s)) (gL z.cells cN) parts with
      |none=>simp[hf]at e
      |some cs=>
       simp only[hf]at e;cases ho:newObj h n (.cells cs)with
       |none=>simp[ho]at e
       |some x=>
        obtain⟨h',n'⟩:=x;simp only[ho,an]at e;subst e;obtain⟨z',hzr,hzv,_⟩:=lZ (w:=w) E hz;have hzc:=gZ hzv;have Pd:=BV hzc be cN;rw[GZ]at Pd;obtain⟨r',h1,h2⟩:=yd parts nU.toList _ _ cs hf Pd hp;have hu:P.underlying t=some (.slice el):=by
         unfold uh at he;split at he
         . rename_i q;simp at he;subst he;exact q
         . cases he
        have iQ:r'.size=cN*s:=by
         have a:=eK h2;have b:cs.length=(gL z.cells cN).length:=ye _ _ _ _ hf;rw[qh,GZ]at b;simpa[b]using a
        refine zE (c:=r') (el:=el) (w1:=w) (v':=.slice (some ⟨w.heap.size,0,none⟩) cN cN) g hn ho rfl rfl rfl rfl ?_ (ot h2) ?_
        . simp only[Instr.buildSlice,Sem.run_bind,dj hu,Result.andThen_ok,eT hs];rw[aI (show ¬(cN*s>2^24)by omega)];by_cases q0:cN*s=0
          . have sW:(Array.range (cN*s)).map (fun x=>(#[]:Array Value)[x%(#[]:Array Value).size]!)=(Array.range (cN*s)).map (z'.cells[·%z'.cells.size]!):=by rw[q0];simp
            rw[aG q0];simp only[Sem.run_bind,Sem.run_pure,Result.andThen_ok];rw[sW,h1];simp[newRow]
          . rw[aI q0];simp only[Sem.run_bind,Sem.run_pure,Result.andThen_ok,hzr];rw[h1];simp[newRow]
        . refine⟨w.heap.size,0,0,cN,Env.eV,fun _=>by simp,aA _,aA _,?_,rfl⟩;simp[Env.put,iQ]
    . cases e
where
 ye (xY:Nat->Option (Nat×Nat)):∀(parts:List (Nat×V)) (cells r:ag),rI xY cells parts=some r->r.length=cells.length
  | [],cells,r,e=>by simp only[rI,an]at e;rw[e]
  |(i,v)::rest,cells,r,e=>by
   simp only[rI]at e;split at e
   . cases e
   . split at e
     . split at e
       . rename_i Ye hs;obtain⟨ku,rfl⟩:=zG hs;rw[ye xY rest _ r e];simp;omega
       . cases e
     . cases e
end ops
section
variable{P:Program}{E:Env}{h:Tr O}{n:Nat}{w:World}
theorem yf{t:TypeId}{cs:ag}{cs':Array Value}{off:Nat}{v:V}(r:dG E cs cs'.toList)(e:wC P t cs off=some v):
  ∃v',(part t cs' off).run P w= .ok v' w/\dz E v v':=by
 unfold wC kX at e;have hl:=eK r;simp only[Array.length_toList]at hl;split at e
 . rename_i ha;cases hs:kK P t with
   |none=>simp[hs]at e
   |some k=>
    simp only[hs]at e;cases hc:cut cs off k with
    |none=>simp[hc]at e
    |some x=>
     simp only[hc,bh,an]at e;subst e;obtain⟨h1,rfl⟩:=zF hc;refine⟨.agg (cs'.extract off (off+k)),by simp[part,rL ha,eT hs],(cs'.toList.drop off).take k,BR (BS r),?_⟩;congr 1;apply Array.ext';simp[List.extract_eq_take_drop]
 . rename_i ha;obtain⟨v',h1,h2⟩:=gz r off v e;refine⟨v',?_,h2⟩;rw[bK]at h1;simp[part,rL ha,h1]
 . cases e
end
def V.tag:V->Nat
 | .bool _=>0 | .int _ _=>1 | .str _=>2 | .ptr _=>3 | .di _ _ _ _=>4 | .map _=>5 | .fn _ _ _=>6 | .kA=>7 | .iface _ _=>8 | .nilIface=>9 | .agg _=>10 | .eo _=>11 | .dL _ _ _=>4 | .dm _=>3
def yg:Value->Nat
 | .bool _=>0 | .int _ _=>1 | .string _=>2 | .pointer _=>3 | .slice _ _ _=>4 | .map _=>5 | .func _ _ _=>6 | .nilFunc=>7 | .iface _ _=>8 | .nilIface=>9 | .agg _=>10 | .tuple _=>11
 | .float _ _=>12 | .complex _ _ _=>13 | .chan _=>14
theorem rO{E:Env}:∀{x:V} {v:Value},dz E x v->x.tag=yg v:=by
 intro x v r;cases x with
 |agg cs=>obtain⟨cs',_,rfl⟩:=r;rfl
 |eo cs=>obtain⟨cs',_,rfl⟩:=r;rfl
 |bool b=>simp only[dz]at r;subst r;rfl
 |int k n=>simp only[dz]at r;subst r;rfl
 |str s=>simp only[dz]at r;subst r;rfl
 |ptr a=>cases a<;>simp only[dz]at r;. subst r;rfl
         . obtain⟨b,s,_,rfl⟩:=r;rfl
 |di a l c e=>cases a<;>simp only[dz]at r;. obtain⟨_,_,rfl⟩:=r;rfl
              . obtain⟨b,s,_,_,_,_,_,_,_,rfl⟩:=r;rfl
 |map a=>cases a<;>simp only[dz]at r;. subst r;rfl
         . obtain⟨b,_,rfl⟩:=r;rfl
 |fn f a c=>obtain⟨_,_,_,_,_,_,rfl⟩:=r;rfl
 |kA=>simp only[dz]at r;subst r;rfl
 |iface t x=>obtain⟨_,_,rfl⟩:=r;rfl
 |nilIface=>simp only[dz]at r;subst r;rfl
 |dL f n cs=>obtain⟨⟨_,_,_,rfl,_⟩,_⟩:=r;rfl
 |dm cs=>obtain⟨_,_,_,_,rfl,_⟩:=r;rfl
theorem yh{E:Env}{x:V}{k:IntKind}{m:Int}(r:dz E x (.int k m)):x= .int k m:=by
 have t:=rO r;cases x<;>simp[V.tag,yg]at t;simp only[dz]at r;cases r;rfl
theorem yj{E:Env}{x:V}{s:ByteArray}(r:dz E x (.string s)):∃l,x= .str l:=by
 have t:=rO r;cases x<;>simp[V.tag,yg]at t;exact⟨_,rfl⟩
theorem DQ{E:Env}{x:V}{k:FloatKind}{m:Nat}(r:dz E x (.float k m)):False:=by
 have t:=rO r;cases x<;>simp[V.tag,yg]at t
theorem A8{E:Env}{x:V}{k:FloatKind}{m m':Nat}(r:dz E x (.complex k m m')):False:=by
 have t:=rO r;cases x<;>simp[V.tag,yg]at t
theorem Pe{E:Env}{x y:V}{x' y':Value}{t:TypeId}(rx:dz E x x')(ry:dz E y y')(hi:∀k m k' m',¬(x= .int k m/\y= .int k' m'))(hs:∀s u,¬(x= .str s/\y= .str u)):
  binOp .eql t x' y'=(do pure (.bool (<- Op.equal t x' y')))/\binOp .neq t x' y'=(do pure (.bool (!(<- Op.equal t x' y')))):=by
 cases x'<;>cases y'<;>first
  |exact⟨rfl,rfl⟩
  |exact absurd ⟨yh rx,yh ry⟩ (hi _ _ _ _)
  |exact(DQ rx).elim
  |exact(A8 rx).elim
  |(obtain⟨l,e1⟩:=yj rx;obtain⟨l',e2⟩:=yj ry;exact absurd ⟨e1,e2⟩ (hs _ _))
section
variable{P:Program}{E:Env}{h:Tr O}{n:Nat}{w:World}
theorem sX{d:Nat}{eq:TypeId->V->V->Option Bool}(ih:∀t x y x' y' r,eq t x y=some r->dz E x x'->dz E y y'->(Op.equalIn d t x' y').run P w= .ok r w)
  {xs ys:ag} {BQ Jz:Array Value} (rx:dG E xs BQ.toList) (ry:dG E ys Jz.toList):∀(fs:List Field) (r:Bool),eqFields P eq fs xs ys=some r->(Op.eqFields d BQ Jz fs).run P w= .ok r w
 | [],r,e=>by simp only[eqFields,an]at e;subst e;rfl
 |f::fs,r,e=>by
  simp only[eqFields]at e;simp only[Op.eqFields];split at e
  . rename_i fL;rw[aG fL];cases h1:wC P f.type xs f.offset with
    |none=>simp[h1]at e
    |some a=>cases h2:wC P f.type ys f.offset with
     |none=>simp[h1,h2]at e
     |some b=>
      simp only[h1,h2]at e;obtain⟨a',p1,p2⟩:=yf (P:=P) (w:=w) rx h1;obtain⟨b',q1,q2⟩:=yf (P:=P) (w:=w) ry h2;cases h3:eq f.type a b with
      |none=>simp[h3]at e
      |some c=>
       have hr:=ih _ _ _ _ _ _ h3 p2 q2;simp only[Sem.run_bind,p1,q1,Result.andThen_ok,hr];cases c with
       |false=>simp only[h3,an]at e;subst e;simp
       |true=>simp only[h3]at e;simp only[Bool.not_true,aO,cF];exact sX ih rx ry fs r e
  . rename_i fL;rw[aI fL];exact sX ih rx ry fs r e
theorem FI:∀(d:Nat) (t:TypeId) (x y:V) (x' y':Value) (r:Bool),Lw P d t x y=some r->dz E x x'->dz E y y'->(Op.equalIn d t x' y').run P w= .ok r w:=by
 intro d
 induction d with
 |zero=>intro t x y x' y' r e;simp[Lw]at e
 |succ d ih=>
  intro t x y x' y' r e rx ry;simp only[Lw]at e;split at e
  . rename_i hu;split at e
    . simp only[dz]at rx ry;subst rx;subst ry;obtain rfl:=ek e;simp[Op.equalIn,dj hu]
    . cases e
  . rename_i hu;split at e
    . simp only[dz]at rx ry;subst rx;subst ry;split at e
      . rename_i hk;subst hk;obtain rfl:=ek e;simp[Op.equalIn,dj hu]
      . cases e
    . cases e
  . rename_i hu;split at e
    . simp only[dz]at rx ry;subst rx;subst ry;obtain rfl:=ek e;simp only[Op.equalIn,Sem.run_bind,dj hu,Result.andThen_ok,Sem.run_pure];rw[rM]
    . cases e
  . rename_i hu;split at e
    . rename_i b;simp only[dz]at rx;subst rx;obtain rfl:=ek e;cases b with
      |none=>simp only[dz]at ry;subst ry;simp[Op.equalIn,dj hu]
      |some p=>obtain⟨_,_,_,rfl⟩:=ry;simp[Op.equalIn,dj hu]
    . rename_i p;obtain rfl:=ek e;obtain⟨_,_,_,rfl⟩:=rx;simp only[dz]at ry;subst ry;simp[Op.equalIn,dj hu]
    . split at e
      . rename_i Tq;obtain⟨⟨rfl,rfl⟩,lP⟩:=Tq;obtain rfl:=ek e;obtain⟨b,s,h1,rfl⟩:=rx;obtain⟨b',s',h2,rfl⟩:=ry;rw[h1]at h2;cases h2;obtain⟨z,hz⟩:=b9.1 lP;simp only[Op.equalIn,Sem.run_bind,dj hu,Result.andThen_ok,eT hz];by_cases Yf:z=0
        . simp[Yf]
        . simp[Yf,sameAddr]
      . cases e
    . obtain rfl:=ek e;simp only[dz]at rx;subst rx;obtain⟨_,_,_,_,rfl,_⟩:=ry;simp[Op.equalIn,dj hu]
    . obtain rfl:=ek e;obtain⟨_,_,_,_,rfl,_⟩:=rx;simp only[dz]at ry;subst ry;simp[Op.equalIn,dj hu]
    . cases e
  . rename_i hu;split at e
    . simp only[dz]at rx ry;subst rx;subst ry;obtain rfl:=ek e;simp[Op.equalIn,dj hu]
    . simp only[dz]at rx;subst rx;obtain⟨_,_,rfl⟩:=ry;obtain rfl:=ek e;simp[Op.equalIn,dj hu]
    . simp only[dz]at ry;subst ry;obtain⟨_,_,rfl⟩:=rx;obtain rfl:=ek e;simp[Op.equalIn,dj hu]
    . cases e
  . rename_i nI hu;split at e
    . split at e
      . cases e
      . rename_i BW;obtain⟨BQ,rxs,rfl⟩:=rx;obtain⟨Jz,rys,rfl⟩:=ry;have hf:P.fieldsOf t=nI:=by simp[Program.fieldsOf,hu]
        rw[run_equalIn_struct w d t _ _ (by rw[hf];exact hu) (by simpa using BW),hf];exact sX (fun u a b a' b' r e ra rb=>ih u a b a' b' r e ra rb) (by simpa using rxs) (by simpa using rys) _ _ e
    . cases e
  . rename_i hu;split at e
    . rename_i b _ _ _;obtain⟨_,_,rfl⟩:=rx;obtain rfl:=ek e;cases b with
      |none=>obtain⟨_,_,rfl⟩:=ry;simp[Op.equalIn,dj hu]
      |some p=>obtain⟨_,_,_,_,_,_,_,_,_,rfl⟩:=ry;simp[Op.equalIn,dj hu]
    . obtain rfl:=ek e;obtain⟨_,_,_,_,_,_,_,_,_,rfl⟩:=rx;obtain⟨_,_,rfl⟩:=ry;simp[Op.equalIn,dj hu]
    . split at e
      . obtain rfl:=ek e;obtain⟨⟨a,cO,vs,rfl,_,_,_,h1⟩,_⟩:=rx;obtain⟨_,_,_,rfl,_⟩:=h1 (Nat.succ_pos _);obtain⟨_,_,rfl⟩:=ry;simp[Op.equalIn,dj hu]
      . cases e
    . cases e
  . rename_i hu;split at e
    . rename_i b;simp only[dz]at rx;subst rx;obtain rfl:=ek e;cases b with
      |none=>simp only[dz]at ry;subst ry;simp[Op.equalIn,dj hu]
      |some p=>obtain⟨_,_,rfl⟩:=ry;simp[Op.equalIn,dj hu]
    . obtain rfl:=ek e;obtain⟨_,_,rfl⟩:=rx;simp only[dz]at ry;subst ry;simp[Op.equalIn,dj hu]
    . cases e
  . cases e
end
section
variable{P:Program}{E:Env}{h:Tr O}{n:Nat}{w:World}
theorem BX:∀s u:aa,xZ s u=Op.bytesLess s u
 |_,[]=>by cases ‹aa›<;>rfl
 | [],_::_=>rfl
 |a::x,b::y=>by
  simp only[xZ,Op.bytesLess];have h1:(a<b)↔a.toNat<b.toNat:=UInt8.lt_iff_toNat_lt;have h2:(a=b)↔a.toNat=b.toNat:=UInt8.toNat_inj.symm;rcases Nat.lt_trichotomy a.toNat b.toNat with h|h|h
  . have:Nat.blt a.toNat b.toNat=true:=Nat.ble_eq_true_of_le h;rw[this];simp[h1.2 h]
  . have e1:Nat.blt a.toNat b.toNat=false:=by cases q:Nat.blt a.toNat b.toNat with|false=>rfl|true=>exact absurd (au q) be
    have e2:Nat.beq a.toNat b.toNat=true:=by rw[h];exact cL _
    have e3:¬a<b:=fun q=>by have:=h1.1 q;omega
    have e4:a=b:=h2.2 h;rw[e1,e2];simp only[BX x y,e4];simp
  . have e1:Nat.blt a.toNat b.toNat=false:=by cases q:Nat.blt a.toNat b.toNat with|false=>rfl|true=>exact absurd (au q) be
    have e2:Nat.beq a.toNat b.toNat=false:=by cases q:Nat.beq a.toNat b.toNat with|false=>rfl|true=>exact absurd (aD q) be
    have e3:¬a<b:=fun q=>by have:=h1.1 q;omega
    have e4:¬a=b:=fun q=>by have:=h2.1 q;omega
    rw[e1,e2];simp[e3,e4]
theorem vH(s:aa):(⟨s.toArray⟩:ByteArray).toList=s:=by rw[ByteArray.toList_eq]
theorem Pf{op:BinOp}{t:TypeId}{x y:Operand}{a b v:V}{a' b':Value}(g:Good E h w)(ra:dz E a a')(rb:dz E b b')(e:BJ P op t x y a b=some v):
  jX P E h n w (do pure (.value (<- (do eqGuard op t x y a' b';binOp op t a' b')))) (.val v h n):=by
 unfold BJ at e;split at e
 . rename_i k m k' m';simp only[dz]at ra rb;subst ra;subst rb;obtain⟨v',q1,q2⟩:=w7 e;refine dM g (v':=v') ?_ (q2 E);have hg:(eqGuard op t x y (.int k m) (.int k' m')).run P w= .ok () w:=by cases op<;>rfl
   simp only[Sem.run_bind,hg,Result.andThen_ok,q1];rfl
 . rename_i s u;simp only[dz]at ra rb;subst ra;subst rb;have hg:(eqGuard op t x y (.string ⟨s.toArray⟩) (.string ⟨u.toArray⟩)).run P w= .ok () w:=by cases op<;>rfl
   cases op<;>simp only[OX]at e<;>first
    |(cases e;done)
    |skip
   . split at e
     . rename_i hl;obtain rfl:=ek e;refine dM g (v':=.string (⟨s.toArray⟩++⟨u.toArray⟩)) ?_ ?_
       . have lP:¬(((ByteArray.size ⟨s.toArray⟩+ByteArray.size ⟨u.toArray⟩:Nat):Int)>IntKind.i64.max):=by
          have:(IntKind.i64.max:Int)=9223372036854775807:=by decide
          rw[this];show ¬(((s.toArray.size+u.toArray.size:Nat):Int)>9223372036854775807);unfold wV at hl;simp only[List.size_toArray];omega
         simp only[Sem.run_bind,hg,Result.andThen_ok,binOp,Op.stringOp];rw[aI lP];rfl
       . show Value.string _= .string ⟨(s++u).toArray⟩;congr 1
     . cases e
   . obtain rfl:=ek e;refine dM g (v':=.bool (eE s u)) ?_ rfl;simp only[Sem.run_bind,hg,Result.andThen_ok,binOp,Op.stringOp,sV];rfl
   . obtain rfl:=ek e;refine dM g (v':=.bool (!eE s u)) ?_ rfl;simp only[Sem.run_bind,hg,Result.andThen_ok,binOp,Op.stringOp,sV];rfl
   . obtain rfl:=ek e;refine dM g (v':=.bool (xZ s u)) ?_ rfl;simp only[Sem.run_bind,hg,Result.andThen_ok,binOp,Op.stringOp,BX,vH];rfl
   . obtain rfl:=ek e;refine dM g (v':=.bool (xZ s u||eE s u)) ?_ rfl;simp only[Sem.run_bind,hg,Result.andThen_ok,binOp,Op.stringOp,sV,fT,BX,vH];rfl
   . obtain rfl:=ek e;refine dM g (v':=.bool (!(xZ s u||eE s u))) ?_ rfl;simp only[Sem.run_bind,hg,Result.andThen_ok,binOp,Op.stringOp,sV,fT,BX,vH];rfl
   . obtain rfl:=ek e;refine dM g (v':=.bool (!xZ s u)) ?_ rfl;simp only[Sem.run_bind,hg,Result.andThen_ok,binOp,Op.stringOp,BX,vH];rfl
 . rename_i hni FJ;have hb:=Pe (t:=t) ra rb (fun k m k' m' q=>hni k m k' m' q.1 q.2) (fun s u q=>FJ s u q.1 q.2);have Pg:∀r,Fx P t x y a b=some r->∀op,(op= .eql\/op= .neq)->(eqGuard op t x y a' b').run P w= .ok () w/\(Op.equal t a' b').run P w= .ok r w:=by
    intro r er op oS;unfold Fx at er;split at er
    . simp only[dz]at ra rb;subst ra;subst rb;split at er
      . rename_i ahY;refine⟨?_,FI (E:=E) 10000 t _ _ _ _ r er rfl rfl⟩;clear hb e;rcases oS with rfl|rfl<;>cases x<;>cases y<;>first
         |rfl
         |(simp only[isLit,Bool.or_self,aO]at ahY)
      . cases er
    . split at er
      . cases er
      . rename_i hg;obtain⟨BQ,rx,rfl⟩:=ra;obtain⟨Jz,ry,rfl⟩:=rb;refine⟨run_eqGuard_agg w op t x y _ _ (by simpa using hg),FI 10000 t _ _ _ _ r er ⟨BQ,rx,rfl⟩ ⟨Jz,ry,rfl⟩⟩
    . rename_i DG w8;refine⟨?_,FI 10000 t _ _ _ _ r er ra rb⟩;have t1:=rO ra;have t2:=rO rb;rcases oS with rfl|rfl<;>cases a'<;>first
       |rfl
       |(cases b'<;>first
        |rfl
        |(exfalso;cases a<;>simp[V.tag,yg]at t1;cases b<;>simp[V.tag,yg]at t2;exact DG rfl rfl)
        |(exfalso;cases a<;>simp[V.tag,yg]at t1;cases b<;>simp[V.tag,yg]at t2;exact w8 _ _ rfl rfl))
   split at e
   . cases hq:Fx P t x y a b with
     |none=>simp[hq]at e
     |some r=>
      simp only[hq,bh,an]at e;subst e;obtain⟨m1,m2⟩:=Pg r hq .eql (.inl rfl);refine dM g (v':=.bool r) ?_ rfl;simp only[Sem.run_bind,m1,Result.andThen_ok,hb.1,m2,Sem.run_pure]
   . cases hq:Fx P t x y a b with
     |none=>simp[hq]at e
     |some r=>
      simp only[hq,bh,an]at e;subst e;obtain⟨m1,m2⟩:=Pg r hq .neq (.inr rfl);refine dM g (v':=.bool (!r)) ?_ rfl;simp only[Sem.run_bind,m1,Result.andThen_ok,hb.2,m2,Sem.run_pure]
   . cases e
section
variable{t:TypeId}{f:Nat}{x i:V}
theorem Ts{op:UnOp}{x v:V}{x':Value}(g:Good E h w)(r:dz E x x')(e:unV op x=some v):jX P E h n w (do pure (.value (<- Op.unary op x'))) (.val v h n):=by
 unfold unV at e;split at e
 . simp only[dz]at r;subst r;obtain⟨v',q1,q2⟩:=w7 e;exact dM g (v':=v') (by rw[q1];rfl) (q2 E)
 . simp only[dz]at r;subst r;obtain⟨v',q1,q2⟩:=w7 e;exact dM g (v':=v') (by rw[q1];rfl) (q2 E)
 . cases e
theorem Hp{e:TypeId}(q:uh P t=some e):P.underlying t=some (.slice e):=by
 unfold uh at q;split at q
 . rename_i hu;simp at q;subst q;exact hu
 . cases q
theorem FK{v:V}{x':Value}(g:Good E h w)(r:dz E x x')(e:wW P t f x=some v):
  jX P E h n w (do pure (.value (<- Instr.fieldAt t x' f))) (.val v h n):=by
 unfold wW at e;split at e
 . rename_i m o;split at e
   . rename_i fs hu;split at e
     . rename_i fd hf;split at e
       . rename_i k hk;obtain rfl:=ek e;obtain⟨b,s,hi,rfl⟩:=r;refine dM g (v':=.pointer (some ⟨b,s+(o+fd.offset),none⟩)) ?_ ⟨b,s,hi,rfl⟩;simp[Instr.fieldAt,dj hu,hf,Instr.sureAddr,fieldPlace,eT hk,Addr.iU,cA]
       . cases e
     . cases e
   . cases e
 . rename_i cs;split at e
   . rename_i fs hu;split at e
     . rename_i fd hf;split at e
       . rename_i k hk;obtain rfl:=ek e;obtain⟨b,o,c,vs,rfl,Bk,hd,hc⟩:=r;refine dM g (v':=.pointer (some ⟨b,o+fd.offset,none⟩)) ?_ ⟨b,_,c,vs.drop fd.offset,rfl,Bk,nM hd,fun j w q=>?_⟩
         . simp[Instr.fieldAt,dj hu,hf,Instr.sureAddr,fieldPlace,eT hk,Addr.iU]
         . rw[bG]at q;rw[<- hc _ w q,cA]
       . cases e
     . cases e
   . cases e
 . cases e
theorem Ph{v:V}{x':Value}(g:Good E h w)(r:dz E x x')(e:Ju P t f x=some v):
  jX P E h n w (do pure (.value (<- Instr.field t x' f))) (.val v h n):=by
 unfold Ju at e;split at e
 . split at e
   . rename_i fs hu;split at e
     . rename_i fd hf;obtain⟨cs',rc,rfl⟩:=r;obtain⟨v',h1,h2⟩:=yf (P:=P) (w:=w) (cs':=cs'.toArray) (by simpa using rc) e;refine dM g (v':=v') ?_ h2;simp[Instr.field,dj hu,hf,asAgg,h1]
     . cases e
   . cases e
 . cases e
theorem FL{v:V}{x' i':Value}(g:Good E h w)(r:dz E x x')(ri:dz E i i')(e:nL P t x i=some v):
  jX P E h n w (do pure (.value (<- Instr.indexAt t x' i'))) (.val v h n):=by
 unfold nL at e;split at e
 . rename_i k i;simp only[dz]at ri;subst ri;split at e
   . rename_i cN el m o hu;split at e
     . rename_i s hs;split at e
       . rename_i hb;obtain rfl:=ek e;obtain⟨b,sh,hi,rfl⟩:=r;refine dM g (v':=.pointer (some ⟨b,sh+(o+i.toNat*s),none⟩)) ?_ ⟨b,sh,hi,rfl⟩;simp[Instr.indexAt,asIntOf,dj hu,Instr.sureAddr,hb.1,hb.2,eT hs,Addr.iU,cA]
       . cases e
     . cases e
   . rename_i el m o cN cO jo hu;split at e
     . rename_i s hs;split at e
       . rename_i hb;obtain⟨h1,h2,h3⟩:=hb;obtain rfl:=ek e;obtain⟨b,sh,o',fZ,hi,q1,q2,q3,q4,rfl⟩:=r;have ho:o'=sh+o:=q1 be;subst ho;refine dM g (v':=.pointer (some ⟨b,sh+(o+i.toNat*s),none⟩)) ?_ ⟨b,sh,hi,rfl⟩;simp[Instr.indexAt,asIntOf,dj hu,h1,h2,eT hs,Addr.iU,cA]
       . cases e
     . cases e
   . rename_i el f cN cs hu;split at e
     . rename_i s hs;split at e
       . rename_i hb;obtain⟨⟨h1,h2⟩,h3⟩:=hb;obtain rfl:=ek e;obtain⟨⟨a,cO,vs,rfl,nw,hd,h0,mz⟩,_⟩:=r;obtain⟨b,o,c,rfl,Bk,hc⟩:=mz be;refine dM g (v':=.pointer (some ⟨b,o+i.toNat*s,none⟩)) ?_ ⟨b,_,c,(vs.drop (i.toNat*s)).take s,rfl,Bk,sM (nM hd),fun j w q=>?_⟩
         . simp[Instr.indexAt,asIntOf,dj hu,h1,h2,eT hs,Addr.iU]
         . rw[bM]at q;split at q
           . rw[bG]at q;rw[<- hc _ w q,cA]
           . cases q
       . cases e
     . cases e
   . rename_i cN el cs hu;split at e
     . rename_i s hs;split at e
       . rename_i hb;obtain rfl:=ek e;obtain⟨b,o,c,vs,rfl,Bk,hd,hc⟩:=r;refine dM g (v':=.pointer (some ⟨b,o+i.toNat*s,none⟩)) ?_ ⟨b,_,c,vs.drop (i.toNat*s),rfl,Bk,nM hd,fun j w q=>?_⟩
         . simp[Instr.indexAt,asIntOf,dj hu,Instr.sureAddr,hb.1,hb.2,eT hs,Addr.iU]
         . rw[bG]at q;rw[<- hc _ w q,cA]
       . cases e
     . cases e
   . cases e
 . cases e
theorem Pj{v:V}{x' i':Value}(g:Good E h w)(r:dz E x x')(ri:dz E i i')(e:Fy P t x i=some v):
  jX P E h n w (do pure (.value (<- Instr.index t x' i'))) (.val v h n):=by
 unfold Fy at e;split at e
 . rename_i k i;simp only[dz]at ri;subst ri;split at e
   . rename_i cN el cs hu;split at e
     . rename_i s hs;split at e
       . rename_i hb;obtain⟨cs',rc,rfl⟩:=r;obtain⟨v',h1,h2⟩:=yf (P:=P) (w:=w) (cs':=cs'.toArray) (by simpa using rc) e;refine dM g (v':=v') ?_ h2;simp[Instr.index,asIntOf,dj hu,hb.1,hb.2,eT hs,h1]
       . cases e
     . cases e
   . rename_i s hu;split at e
     . rename_i hb;split at e
       . rename_i b hsb;obtain rfl:=ek e;simp only[dz]at r;subst r;refine dM g (v':=.int .u8 b.toNat) ?_ rfl;have hg:(⟨s.toArray⟩:ByteArray)[i.toNat]? =some b:=by
          obtain⟨fE,hv⟩:=aF.1 hsb;have lP:i.toNat<(⟨s.toArray⟩:ByteArray).size:=by show i.toNat<s.toArray.size;simpa using fE
          rw[getElem?_pos (⟨s.toArray⟩:ByteArray) i.toNat lP];congr 1
         simp[Instr.index,asIntOf,dj hu,hb,hg]
       . cases e
     . cases e
   . cases e
 . cases e
theorem JI{vs:ag}{i:Nat}{v:V}{x':Value}(g:Good E h w)(r:dz E (.eo vs) x')(e:vs[i]? =some v):
  jX P E h n w (do pure (.value (<- Instr.extract x' i))) (.val v h n):=by
 obtain⟨Wz,rs,rfl⟩:=r;obtain⟨v',h1,h2⟩:=gz rs i v e;refine dM g (v':=v') ?_ h2;simp[Instr.extract,h1]
theorem DR{v:V}{xt t:TypeId}{ok:Bool}{x':Value}(g:Good E h w)(r:dz E x x')(e:ur P x t ok=some v):
  jX P E h n w (do pure (.value (<- Instr.typeAssert x' xt t ok))) (.val v h n):=by
 unfold ur at e;split at e
 . cases e
 . rename_i d hu hd;simp only[dz]at r;subst r;split at e
   . rename_i iA;cases hz:zeroOf P t with
     |none=>simp[hz]at e
     |some z=>
      simp only[hz,an]at e;subst e;obtain⟨z',hr,hv,_⟩:=lZ (w:=w) E hz;refine dM g (v':=.tuple #[z',.bool false]) ?_ ⟨[z',.bool false],⟨z',_,hv,⟨.bool false,[],rfl,rfl,rfl⟩,rfl⟩,rfl⟩;cases d<;>first|(exact absurd rfl (hu _))|simp[Instr.typeAssert,dj hd,iA,hr]
   . cases e
 . rename_i d t2 x2 hu hd;obtain⟨y,ry,rfl⟩:=r;split at e
   . rename_i ht;subst ht;obtain rfl:=ek e;cases ok with
     |true=>
      refine dM g (v':=.tuple #[y,.bool true]) ?_ ⟨[y,.bool true],⟨y,_,ry,⟨.bool true,[],rfl,rfl,rfl⟩,rfl⟩,rfl⟩;cases d<;>first|(exact absurd rfl (hu _))|simp[Instr.typeAssert,dj hd]
     |false=>
      refine dM g (v':=y) ?_ ry;cases d<;>first|(exact absurd rfl (hu _))|simp[Instr.typeAssert,dj hd]
   . rename_i ht;split at e
     . rename_i iA;cases hz:zeroOf P t with
       |none=>simp[hz]at e
       |some z=>
        simp only[hz,an]at e;subst e;obtain⟨z',hr,hv,_⟩:=lZ (w:=w) E hz;refine dM g (v':=.tuple #[z',.bool false]) ?_ ⟨[z',.bool false],⟨z',_,hv,⟨.bool false,[],rfl,rfl,rfl⟩,rfl⟩,rfl⟩;cases d<;>first|(exact absurd rfl (hu _))|simp[Instr.typeAssert,dj hd,iA,hr,ht]
     . cases e
 . cases e
end
end
def nV(E:Env):Option V->Option Value->Prop
 |none,y=>y=none
 |some x,y=>∃y',dz E x y'/\y=some y'
section
variable{P:Program}{E:Env}{h:Tr O}{n:Nat}{w:World}
theorem vI{d y r:Nat}{x:V}{x':Value}{c:BoundsCode}(e:eJ d y (some x)=some r)(rx:dz E x x'):
  (Instr.sliceBound x' y c).run P w= .ok r w/\r<=y:=by
 unfold eJ at e;split at e
 . rename_i q;cases q
 . rename_i k i q;cases q;simp only[dz]at rx;subst rx;split at e
   . rename_i hb;obtain rfl:=ek e;refine⟨?_,be⟩;simp[Instr.sliceBound,asIntOf,hb.1,hb.2]
   . cases e
 . cases e
theorem mA{S2:Bool}{cN cO l hh m:Nat}{lo hi mx:Option V}{Tt kz Tu:Option Value}(rl:nV E lo Tt)(rh:nV E hi kz)(rm:nV E mx Tu)
  (hmh:mx=none\/hi≠none) (e1:eJ cO cO mx=some m) (e2:eJ cN m hi=some hh) (e3:eJ 0 hh lo=some l) (iQ:cN<=cO):
  (Instr.sliceBounds S2 cN cO Tt kz Tu).run P w= .ok (l,hh,m) w/\l<=hh/\hh<=m/\m<=cO:=by
 have low:∀c,((match Tt with|some v=>Instr.sliceBound v hh c|none=>pure 0):Sem Nat).run P w= .ok l w/\l<=hh:=by
  intro c;cases lo with
  |none=>simp only[nV]at rl;subst rl;simp only[eJ,an]at e3;subst e3;exact⟨rfl,aW _⟩
  |some x=>obtain⟨x',rx,rfl⟩:=rl;exact vI e3 rx
 cases mx with
 |none=>
  simp only[nV]at rm;subst rm;simp only[eJ,an]at e1;subst e1;cases hi with
  |none=>
   simp only[nV]at rh;subst rh;simp only[eJ,an]at e2;subst e2;obtain⟨h1,h2⟩:=low .sliceB;refine⟨?_,h2,iQ,aA _⟩;cases Tt<;>simp_all [Instr.sliceBounds]
  |some x=>
   obtain⟨x',rx,rfl⟩:=rh;obtain⟨p1,p2⟩:=vI (P:=P) (w:=w) (c:=if S2 then .sliceAcap else .sliceAlen) e2 rx;obtain⟨h1,h2⟩:=low .sliceB;refine⟨?_,h2,p2,aA _⟩;cases Tt<;>simp_all [Instr.sliceBounds]
 |some y=>
  obtain⟨y',ry,rfl⟩:=rm;obtain⟨p1,p2⟩:=vI (P:=P) (w:=w) (c:=if S2 then .slice3Acap else .slice3Alen) e1 ry;cases hi with
  |none=>rcases hmh with q|q<;>simp at q
  |some x=>
   obtain⟨x',rx,rfl⟩:=rh;obtain⟨q1,q2⟩:=vI (P:=P) (w:=w) (c:=.slice3B) e2 rx;obtain⟨h1,h2⟩:=low .slice3C;refine⟨?_,h2,q2,p2⟩;cases Tt<;>simp_all [Instr.sliceBounds]
theorem FM(s:aa)(l hh:Nat):(⟨s.toArray⟩:ByteArray).extract l hh=⟨((s.take hh).drop l).toArray⟩:=by
 apply ByteArray.ext;simp[List.extract_eq_take_drop,List.drop_take]
theorem Pk{t:TypeId}{x v:V}{x':Value}{lo hi mx:Option V}{Tt kz Tu:Option Value}(g:Good E h w)(r:dz E x x')(rl:nV E lo Tt)(rh:nV E hi kz)(rm:nV E mx Tu)
  (e:mq P t h x lo hi mx=some v):jX P E h n w (do pure (.value (<- Instr.sliceAt t x' Tt kz Tu))) (.val v h n):=by
 unfold mq at e;split at e
 . cases e
 . rename_i aco;have hmh:mx=none\/hi≠none:=by
    cases mx with
    |none=>exact .inl rfl
    |some _=>cases hi with
     |none=>simp at aco
     |some _=>exact .inr (by simp)
   clear aco;split at e
   . rename_i s hu;cases mx with
     |some _=>simp at e
     |none=>
      simp only[nV]at rm;subst rm;simp only at e;simp only[dz]at r;subst r;cases h2:eJ s.length s.length hi with
      |none=>simp[h2]at e
      |some hh=>
       simp only[h2]at e;cases h3:eJ 0 hh lo with
       |none=>simp[h3]at e
       |some l=>
        simp only[h3,an]at e;subst e;have lP:(⟨s.toArray⟩:ByteArray).size=s.length:=by show s.toArray.size=_;simp
        obtain⟨q,q1,q2,_⟩:=mA (P:=P) (w:=w) (S2:=false) (cN:=s.length) (cO:=s.length) (mx:=none) (Tu:=none) rl rh rfl (.inl rfl) rfl h2 h3 (aA _);refine dM g (v':=.string ⟨((s.take hh).drop l).toArray⟩) ?_ rfl;simp only[Sem.run_bind,Instr.sliceAt,dj hu,Result.andThen_ok,Instr.slice,Option.isSome_none,aO,cF,lP,q,Sem.run_pure,FM s l hh]
   . rename_i el a cN cO jo hu;split at e
     . rename_i s hs;split at e
       . rename_i hse;cases h1:eJ cO cO mx with
         |none=>simp[h1]at e
         |some m=>
          simp only[h1]at e;cases h2:eJ cN m hi with
          |none=>simp[h2]at e
          |some hh=>
           simp only[h2]at e;cases h3:eJ 0 hh lo with
           |none=>simp[h3]at e
           |some l=>
            simp only[h3,an]at e;subst e;cases a with
            |none=>
             obtain⟨rfl,rfl,rfl⟩:=r;obtain⟨q,q1,q2,q3⟩:=mA (P:=P) (w:=w) (S2:=true) rl rh rm hmh h1 h2 h3 (aA _);have hm:m=0:=by omega
             have hh0:hh=0:=by omega
             have vJ:l=0:=by omega
             subst hm;subst hh0;subst vJ;refine dM g (v':=.slice none 0 0) ?_ ⟨rfl,rfl,rfl⟩;simp only[Sem.run_bind,Instr.sliceAt,dj hu,Result.andThen_ok,Instr.slice,q,eT hs,Sem.run_pure];rfl
            |some a=>
             obtain⟨bm,o⟩:=a
             have hse:s=jo:=by rcases hse with q|q;. exact q
                               . cases q
             subst hse;obtain⟨b,sh,o',fZ,kz,c1,c2,c3,c4,rfl⟩:=r;cases mx with
             |none=>
              simp only[nV]at rm;subst rm;simp only[eJ,an]at h1;subst h1;have Tv:eJ cN fZ hi=some hh:=by
               cases hi with
               |none=>exact h2
               |some y=>
                unfold eJ at h2 ⊢;split at h2
                . rename_i q;cases q
                . rename_i k i q;cases q;split at h2
                  . rename_i hb;rw[aG ⟨hb.1,be⟩];exact h2
                  . cases h2
                . cases h2
              obtain⟨q,q1,q2,q3⟩:=mA (P:=P) (w:=w) (S2:=true) (mx:=none) (Tu:=none) (cO:=fZ) rl rh rfl (.inl rfl) rfl Tv h3 be;have hhc:hh<=cO:=by
               cases hi with
               |none=>simp only[eJ,an]at h2;omega
               |some y=>
                unfold eJ at h2;split at h2
                . rename_i q;cases q
                . rename_i k i q;cases q;split at h2
                  . rename_i hb;simp only[an]at h2;omega
                  . cases h2
                . cases h2
              refine dM g (v':=.slice (if fZ=l then some ⟨b,o',none⟩else some ⟨b,o'+l*s,none⟩) (hh-l) (fZ-l)) ?_ ?_
              . simp only[Sem.run_bind,Instr.sliceAt,dj hu,Result.andThen_ok,Instr.slice,q,eT hs,Sem.run_pure,bh,Addr.iU]
              . by_cases rD:fZ=l
                . rw[aG rD];refine⟨b,sh,o',fZ-l,kz,fun q=>by omega,be,be,?_,rfl⟩;rw[rD];simp;omega
                . rw[aI rD];refine⟨b,sh,o'+l*s,fZ-l,kz,fun q=>?_,be,be,?_,rfl⟩
                  . rw[c1 be];omega
                  . have hm:l*s+(fZ-l)*s=fZ*s:=by rw[<- cM];congr 1;omega
                    omega
             |some y=>
              obtain⟨y',ry,rfl⟩:=rm;have mh:eJ fZ fZ (some y)=some m:=by
               unfold eJ at h1 ⊢;split at h1
               . rename_i q;cases q
               . rename_i k i q;cases q;split at h1
                 . rename_i hb;rw[aG ⟨hb.1,be⟩];exact h1
                 . cases h1
               . cases h1
              have hmc:m<=cO:=by
               unfold eJ at h1;split at h1
               . rename_i q;cases q
               . rename_i k i q;cases q;split at h1
                 . rename_i hb;simp only[an]at h1;omega
                 . cases h1
               . cases h1
              obtain⟨q,q1,q2,q3⟩:=mA (P:=P) (w:=w) (S2:=true) (cO:=fZ) rl rh (mx:=some y) (Tu:=some y') ⟨y',ry,rfl⟩ hmh mh h2 h3 be;refine dM g (v':=.slice (if m=l then some ⟨b,o',none⟩else some ⟨b,o'+l*s,none⟩) (hh-l) (m-l)) ?_ ?_
              . simp only[Sem.run_bind,Instr.sliceAt,dj hu,Result.andThen_ok,Instr.slice,q,eT hs,Sem.run_pure,bh,Addr.iU]
              . by_cases rD:m=l
                . rw[aG rD];refine⟨b,sh,o',m-l,kz,fun q=>by omega,be,be,?_,rfl⟩;rw[rD];simp;omega
                . rw[aI rD];refine⟨b,sh,o'+l*s,m-l,kz,fun q=>?_,be,aA _,?_,rfl⟩
                  . rw[c1 be];omega
                  . have hm:l*s+(m-l)*s=m*s:=by rw[<- cM];congr 1;omega
                    have hm2:m*s<=fZ*s:=cn _ be;omega
       . cases e
     . cases e
   . rename_i el f cN cs hu;have mO:∀{y cO r:Nat} {o:Option V},eJ y y o=some r->y<=cO->o≠none->eJ cO cO o=some r/\r<=y:=fun {y cO r o} q hq fL=>by
      cases o with
      |none=>exact absurd rfl fL
      |some v=>
       cases v with
       |int k i=>
        simp only[eJ]at q ⊢;split at q
        . rename_i hb;obtain rfl:=ek q;exact⟨aG ⟨hb.1,be⟩,be⟩
        . cases q
       |_=>simp only[eJ]at q;cases q
     split at e
     . rename_i s hs;split at e
       . rename_i rD;obtain⟨⟨a,cO,vs,rfl,nw,hd,h0,mz⟩,yl⟩:=r;have key:∀(l hh m:Nat),l<=hh->hh<=cN->hh<=m->∀(f':Bool),(f'=true->m=hh)->
           dz E (.dL f' (hh-l) ((cs.drop (l*s)).take ((hh-l)*s))) (.slice (if m=l then a else a.map (·.add (l*s))) (hh-l) (m-l)):=by
          intro l hh m k1 k2 k3 f' hf';refine⟨⟨_,_,(vs.drop (l*s)).take ((hh-l)*s),rfl,be,sM (nM hd),fun q=>by rw[q];simp,fun q=>?_⟩,fun q=>⟨_,by rw[hf' q]⟩⟩;obtain⟨b,o,c,rfl,Bk,hc⟩:=mz be;refine⟨b,o+l*s,c,?_,Bk,fun j w hw=>?_⟩
          . rw[aI be];simp[Addr.iU]
          . rw[bM]at hw;split at hw
            . rw[bG]at hw;rw[<- hc _ w hw,cA]
            . cases hw
         cases mx with
         |none=>
          simp only[nV]at rm;subst rm;simp only at e;cases h2:eJ cN cN hi with
          |none=>simp[h2]at e
          |some hh=>
           simp only[h2]at e;cases h3:eJ 0 hh lo with
           |none=>simp[h3]at e
           |some l=>
            simp only[h3,an]at e;subst e;have Tv:eJ cN cO hi=some hh/\hh<=cN:=by
             cases hi with
             |none=>simp only[eJ,an]at h2 ⊢;exact⟨h2,be⟩
             |some y=>
              obtain⟨q1,q2⟩:=mO h2 nw (by simp);exact⟨by cases y<;>exact q1,q2⟩
            obtain⟨q,q1,q2,q3⟩:=mA (P:=P) (w:=w) (S2:=true) (mx:=none) (Tu:=none) (cO:=cO) rl rh rfl (.inl rfl) rfl Tv.1 h3 nw;refine dM g (v':=.slice (if cO=l then a else a.map (·.add (l*s))) (hh-l) (cO-l)) ?_ (key l hh cO q1 Tv.2 q2 _ fun hf=>?_)
            . simp only[Sem.run_bind,Instr.sliceAt,dj hu,Result.andThen_ok,Instr.slice,q,eT hs,Sem.run_pure]
            . simp only[aC,Bool.not_eq_true',Option.isSome_eq_false_iff,Option.isNone_iff_eq_none]at hf;obtain⟨hf1,rfl⟩:=hf;simp only[eJ,an]at h2;obtain⟨a',ha'⟩:=yl hf1;simp only[Value.slice.injEq]at ha';omega
         |some y=>
          simp only at e;cases h1:eJ cN cN (some y)with
          |none=>simp[h1]at e
          |some m=>
           simp only[h1]at e;cases h2:eJ cN m hi with
           |none=>simp[h2]at e
           |some hh=>
            simp only[h2]at e;cases h3:eJ 0 hh lo with
            |none=>simp[h3]at e
            |some l=>
             simp only[h3]at e;split at e
             . rename_i hhm;obtain rfl:=ek e;obtain⟨k1,k2⟩:=mO h1 nw (by simp);obtain⟨q,q1,q2,q3⟩:=mA (P:=P) (w:=w) (S2:=true) (cO:=cO) rl rh rm hmh k1 h2 h3 nw;refine dM g (v':=.slice (if m=l then a else a.map (·.add (l*s))) (hh-l) (m-l)) ?_ (key l hh m q1 be q2 _ fun _=>hhm.symm);simp only[Sem.run_bind,Instr.sliceAt,dj hu,Result.andThen_ok,Instr.slice,q,eT hs,Sem.run_pure]
             . cases e
       . cases e
     . cases e
   . rename_i cN el bm o hu;split at e
     . rename_i s hs;cases h1:eJ cN cN mx with
       |none=>simp[h1]at e
       |some m=>
        simp only[h1]at e;cases h2:eJ cN m hi with
        |none=>simp[h2]at e
        |some hh=>
         simp only[h2]at e;cases h3:eJ 0 hh lo with
         |none=>simp[h3]at e
         |some l=>
          simp only[h3]at e;split at e
          . rename_i hb;obtain rfl:=ek e;obtain⟨FH,Tw,ik⟩:=hb;unfold x4 at ik;split at ik
            . rename_i cs hm;have hlc:o+cN*s<=cs.length:=by simpa using ik
              obtain⟨b,sh,kz,rfl⟩:=r;obtain⟨b',sh',zw,c,WA,fz,wq,lP,_,Ek⟩:=g.rel bm _ hm;rw[kz]at zw;cases zw;obtain⟨q,q1,q2,q3⟩:=mA (P:=P) (w:=w) (S2:=false) rl rh rm hmh h1 h2 h3 (aA _);refine dM g (v':=.slice (some (if m=l then⟨b,sh+o,none⟩else⟨b,sh+o+l*s,none⟩)) (hh-l) (m-l)) ?_ ?_
              . simp only[Sem.run_bind,Instr.sliceAt,dj hu,Result.andThen_ok,Instr.sureAddr,q,eT hs,Sem.run_pure,Addr.iU]
              . have zH:sh+o+m*s<=E.β b:=by
                 have mz:0<cN*s:=Nat.mul_pos Tw FH;have yn:=nP Ek (k:=o+cN*s) be hlc;have Hq:m*s<=cN*s:=cn _ q3;omega
                by_cases rD:m=l
                . rw[aG rD];refine⟨b,sh,sh+o,m-l,kz,fun q=>by omega,be,be,?_,rfl⟩;rw[rD];simp;omega
                . rw[aI rD];refine⟨b,sh,sh+o+l*s,m-l,kz,fun q=>by omega,be,aA _,?_,rfl⟩;have hm:l*s+(m-l)*s=m*s:=by rw[<- cM];congr 1;omega
                  omega
            . cases ik
          . cases e
     . cases e
   . cases e
end
end Go.Eng
