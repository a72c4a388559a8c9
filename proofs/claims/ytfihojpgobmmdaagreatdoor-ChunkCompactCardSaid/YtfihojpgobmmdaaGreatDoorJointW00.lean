/- The engine: the variables of the program that are known (number, name). No conditions. -/
import GoSem.Core.Ast
import Derived.WalkKit
import Derived.Orders
set_option linter.unusedVariables false
set_option linter.unusedSimpArgs false
set_option linter.unusedSectionVars false
namespace Go.Eng
def jR:List (Nat×Nat):=[(0,0),(1,1),(2,2)]
open Go
abbrev an:=@Option.some.injEq
abbrev aq:=@List.mem_singleton
abbrev au:=@Nat.le_of_ble_eq_true
abbrev ax:=@List.length_append
abbrev ay:=@List.getElem?_eq_getElem
abbrev az:=@Int.natCast_nonneg
abbrev aA:=@Nat.le_refl
abbrev aB:=@Prod.mk.injEq
abbrev aC:=@Bool.and_eq_true
abbrev aD:=@Nat.eq_of_beq_eq_true
abbrev aE:=@List.mem_cons
abbrev aF:=@List.getElem?_eq_some_iff
abbrev aG:=@if_pos
abbrev aH:=@of_decide_eq_true
abbrev aI:=@if_neg
abbrev aJ:=@List.mem_cons_of_mem
abbrev aK:=@of_decide_eq_false
abbrev aL:=@List.not_mem_nil
abbrev aM:=@congrArg
abbrev aN:=@List.getD_eq_getElem?_getD
abbrev aO:=@Bool.false_eq_true
abbrev aP:=@List.mem_cons_self
abbrev aQ:=@Array.getElem?_eq_some_iff
abbrev aS:=@List.length_cons
abbrev aT:=@List.mem_append
abbrev aU:=@List.mem_of_getElem?
abbrev aW:=@List.take_length
abbrev aX:=@List.map_append
abbrev aY:=@List.length_map
abbrev aZ:=@Nat.zero_le
abbrev bf:=@Option.ne_none_iff_exists'
abbrev bg:=@List.length_take
abbrev bh:=@Option.map_some
abbrev bj:=@List.mem_map
abbrev bk:=@Nat.mul_one
abbrev bn:=@Array.getElem?_eq_getElem
abbrev bq:=@List.all_eq_true
abbrev br:=@List.take_of_length_le
abbrev bt:=@List.getElem?_map
abbrev bu:=@or_false
abbrev bw:=@List.drop_zero
abbrev bz:=@List.mem_iff_getElem?
abbrev bA:=@List.getElem?_append_left
abbrev bB:=@List.append_assoc
abbrev bC:=@decide_eq_true_eq
abbrev bD:=@decide_eq_false
abbrev bE:=@Nat.lt_of_lt_of_le
abbrev bF:=@List.drop_eq_getElem_cons
abbrev bG:=@List.getElem?_cons_zero
abbrev bH:=@List.getElem?_drop
abbrev bI:=@Nat.zero_add
abbrev bJ:=@List.take_add_one
abbrev bK:=@List.length_replicate
abbrev bL:=@Array.getElem?_toList
abbrev bM:=@decide_eq_true
abbrev bN:=@List.map_cons
abbrev bO:=@List.getElem?_take
abbrev bP:=@Nat.lt_or_ge
abbrev bQ:=@List.length_nil
abbrev bR:=@List.getElem?_eq_none
abbrev bS:=@Array.getElem?_append_left
abbrev bT:=@List.getElem?_append
abbrev bU:=@Bool.or_eq_true
abbrev bV:=@Nat.le_trans
abbrev bW:=@List.take_append_of_le_length
abbrev bX:=@List.length_drop
abbrev bY:=@List.getElem_mem
abbrev bZ:=@List.mem_append_right
abbrev b7:=@Array.getD_eq_getD_getElem?
abbrev b9:=@Option.isSome_iff_exists
abbrev cg:=@List.nodup_cons
abbrev cj:=@List.getElem?_append_right
abbrev ck:=@List.take_append_drop
abbrev cm:=@Array.getElem?_modify
abbrev cn:=@List.flatten_append
abbrev cq:=@Nat.mul_le_mul_right
abbrev cr:=@List.forall_mem_cons
abbrev ct:=@Option.some.inj
abbrev cu:=@List.append_nil
abbrev cz:=@beq_self_eq_true
abbrev cA:=@List.getElem?_cons_succ
abbrev cB:=@Int.tmod_eq_emod_of_nonneg
abbrev cC:=@Nat.add_assoc
abbrev cD:=@Option.toList_some
abbrev cE:=@List.nil_append
abbrev cF:=@Nat.lt_irrefl
abbrev cG:=@if_false
abbrev cH:=@List.length_eq_zero_iff
abbrev cI:=@Nat.mod_two_eq_zero_or_one
abbrev cJ:=@List.mem_append_left
abbrev cK:=@Int.fdiv_eq_ediv_of_nonneg
abbrev cL:=@List.map_take
abbrev cM:=@Nat.beq_refl
abbrev cN:=@Nat.add_mul
abbrev aa:=List UInt8
abbrev ah:=List Prop
abbrev aj:=IntKind.i64
theorem U{α:Sort _}{a b:α}(h:a=b:=by kernel_rfl):a=b:=h
section
variable{p:Prop}{α:Type _}
theorem be(h:p:=by omega):p:=h
theorem dU(h:p:=by decide):p:=h
theorem aiR(n:Nat):Int.ofNat n=(n:Int):=rfl
theorem dh(h:p:=by simp only[aiR];omega):p:=h
theorem dG{α:Type}{a:α}{C Q:α->Prop}(h:Q a):∀g∈[a],C g->Q g:=fun _ hg _=>aq.1 hg▸h
theorem jw{l:ah}(h:p)(t:∀a∈l,a):∀a∈p::l,a:=cr.2 ⟨h,t⟩
theorem eo{a b:α}(h:some a=some b):a=b:=ct h
theorem fc{β:Type _}{a c:α}{b d:β}(h:some (a,b)=some (c,d)):a=c/\b=d:=Prod.mk.inj (ct h)
end
inductive D where
 |bool (b:Bool)
 |int (k:IntKind) (n:Int)
 |str (s:aa)
 |dO (n:Nat) (cs:List D)
 |agg (cs:List D)
 deriving Inhabited
abbrev ae:=List (D×D)
abbrev ai:=List D
inductive V where
 |bool (b:Bool)
 |int (k:IntKind) (n:Int)
 |str (s:aa)
 |ptr (a:Option (Nat×Nat))
 |dj (a:Option (Nat×Nat)) (cO cP jx:Nat)
 |map (r:Option Nat)
 |fn (f:Fn) (first captured:List V)
 |kG
 |iface (t:TypeId) (v:V)
 |nilIface
 |agg (cs:List V)
 |ew (vs:List V)
 |dO (f:Bool) (n:Nat) (cs:ai)
 |dm (cs:ai)
 deriving Inhabited
abbrev ag:=List V
mutual
def D.iJ:D->V
 | .bool b=>.bool b
 | .int k n=>.int k n
 | .str s=>.str s
 | .dO n cs=>.dO false n cs
 | .agg cs=>.agg (D.lT cs)
def D.lT:ai->ag
 | []=>[]
 |x::xs=>x.iJ::D.lT xs
end
theorem D.gx:∀l:ai,D.lT l=l.map D.iJ
 | []=>rfl
 |x::xs=>by rw[D.lT,D.gx xs];rfl
def D.scalar:D->Bool
 | .agg _=>false
 |_=>true
mutual
def V.Pm:V->Option D
 | .bool b=>some (.bool b)
 | .int k n=>some (.int k n)
 | .str s=>some (.str s)
 | .dO _ n cs=>some (.dO n cs)
 | .dj none _ _ _=>some (.dO 0 [])
 | .dj (some _) 0 _ _=>some (.dO 0 [])
 | .agg cs=>match V.Pn cs with
   |some l=>some (.agg l)
   |none=>none
 |_=>none
def V.Pn:ag->Option (ai)
 | []=>some []
 |x::xs=>match V.Pm x with
  |some d=>match V.Pn xs with
   |some l=>match d.scalar with
    |true=>some (d::l)
    |false=>none
   |none=>none
  |none=>none
end
inductive Tr(α:Type) where
 |nil
 |node (v:Option α) (l r:Tr α)
 deriving Inhabited
inductive O where
 |cells (cs:ag)
 |map (es:List (V×V×Nat)) (ek:Nat)
 |nH (s:aa) (pos:Nat)
 |ints (k:IntKind) (ks:List Int)
 |own (k:IntKind) (ks:List Int)
 |deep (cs:ai)
 |iU (el:TypeId) (AH:Bool) (s:aa)
 |Bj (t:TypeId) (self:Bool) (x:V)
 |dF (kd:Option IntKind) (es:ae)
 |my
 |loop (st:Bool) (pe:Option Code) (fr:Tr V) (ps:List Nat) (assign body:Code)
 deriving Inhabited
abbrev af:=List (Nat×O)
def O.wr:O->Bool
 | .ints _ _=>false
 |_=>true
def Tr.get{α:Type}:Tr α->Nat->Option α
 | .nil,_=>none
 | .node v l r,k=>
   match k with
   |0=>v
   |k+1=>match k%2 with
    |0=>l.get (k/2)
    |_=>r.get (k/2)
def Tr.ru{α:Type}:Nat->Tr α->Nat->Option α->Tr α
 |0,t,_,_=>t
 |f+1,.nil,k,x=>
  match k with
  |0=>.node x .nil .nil
  |k+1=>match k%2 with
   |0=>.node none (Tr.ru f .nil (k/2) x) .nil
   |_=>.node none .nil (Tr.ru f .nil (k/2) x)
 |f+1,.node v l r,k,x=>
  match k with
  |0=>.node x l r
  |k+1=>match k%2 with
   |0=>.node v (Tr.ru f l (k/2) x) r
   |_=>.node v l (Tr.ru f r (k/2) x)
def fL:Nat:=4294967296
def Tr.set{α:Type}(t:Tr α)(k:Nat)(x:Option α):Tr α:=Tr.ru 33 t k x
def iC:Value->Option V
 | .bool b=>some (.bool b)
 | .int k n=>some (.int k n)
 | .string s=>some (.str s.data.toList)
 | .pointer none=>some (.ptr none)
 | .slice none 0 0=>some (.dj none 0 0 0)
 | .map none=>some (.map none)
 | .nilFunc=>some .kG
 | .nilIface=>some .nilIface
 |_=>none
def nP:List Value->Option (ag)
 | []=>some []
 |v::vs=>match iC v with
  |some x=>match nP vs with
   |some xs=>some (x::xs)
   |none=>none
  |none=>none
def LW:Value->Option V
 | .agg cs=>match nP cs.toList with
   |some xs=>some (.agg xs)
   |none=>none
 |v=>iC v
def V.cells:V->ag
 | .agg cs=>cs
 |v=>[v]
def V.scalar:V->Bool
 | .agg _ | .ew _=>false
 |_=>true
def kQ(P:Program)(t:TypeId):Option Nat:=(P.info? t).map (·.size)
def zeroOf(P:Program)(t:TypeId):Option V:=
 match P.info? t with
 |some i=>match i.zero with
  |some v=>LW v
  |none=>none
 |none=>none
def Nk(P:Program)(t:TypeId):Option Bool:=
 match P.underlying t with
 |some (.struct _)=>some true
 |some (.array _ _)=>some true
 |some _=>some false
 |none=>none
inductive R where
 |val (v:V) (h:Tr O) (n:Nat)
 |call (f:FuncId) (args:ag)
 |my (f:FuncId) (captured args:ag)
 |recover
 |panic (v:V)
section
variable(h:Tr O)(cs:ag)(n o:Nat)
def mT:Option V->Option R
 |some v=>some (.val v h n)
 |none=>none
def newObj(o:O):Option (Tr O×Nat):=
 if n<fL then some (h.set n (some o),n+1)else none
def cut(size:Nat):Option (ag):=
 if o+size<=cs.length then some ((cs.drop o).take size)else none
def BZ(new:ag):Option (ag):=
 if o+new.length<=cs.length then some (cs.take o++(new++cs.drop (o+new.length)))else none
end
def ld(P:Program)(t:TypeId)(cs:ag)(o:Nat):Option V:=
 match Nk P t with
 |some true=>match kQ P t with
  |some s=>(cut cs o s).map .agg
  |none=>none
 |some false=>cs[o]?
 |none=>none
def uv(m:Nat)(self:Bool)(x:V):ag:=[if self then .ptr (some (m,0))else .ptr none,x]
def B0(P:Program)(t:TypeId)(z:V):O:=match z.cells with
 | [.ptr none,.dj none 0 0 0]=>match P.underlying t with
   |some (.struct fs)=>match fs[0]? with
    |some f=>match P.underlying f.type with
     |some (.pointer t')=>if Nat.beq t' t then .Bj t false (.dj none 0 0 0)else .cells z.cells
     |_=>.cells z.cells
    |none=>.cells z.cells
   |_=>.cells z.cells
 |_=>.cells z.cells
def loadAt(P:Program)(t:TypeId)(h:Tr O):V->Option V
 | .ptr (some (m,o))=>match h.get m with
   |some (.cells cs)=>ld P t cs o
   |some (.ints k ks)=>ld P t (ks.map (.int k)) o
   |some (.own k ks)=>ld P t (ks.map (.int k)) o
   |some (.deep cs)=>ld P t (D.lT cs) o
   |some (.Bj _ self x)=>ld P t (uv m self x) o
   |_=>none
 | .dm cs=>ld P t (D.lT cs) 0
 |_=>none
inductive Row where
 |vs (cs:ag)
 |is (k:IntKind) (ks:List Int)
 |ds (cs:ai)
def Row.iJ:Row->ag
 | .vs cs=>cs
 | .is k ks=>ks.map (.int k)
 | .ds cs=>D.lT cs
def Row.EA:Row->O
 | .vs cs=>.cells cs
 | .is k ks=>.own k ks
 | .ds cs=>.deep cs
def O.row:O->Option Row
 | .cells cs=>some (.vs cs)
 | .own k ks=>some (.is k ks)
 | .deep cs=>some (.ds cs)
 |_=>none
def O.Nl:O->Option Row
 | .cells cs=>some (.vs cs)
 | .own k ks=>some (.is k ks)
 | .ints k ks=>some (.is k ks)
 | .deep cs=>some (.ds cs)
 |_=>none
def ia:ag->Option (ai)
 | []=>some []
 |x::r=>match(match x with
  | .bool b=>some (.bool b)
  | .int k n=>some (.int k n)
  | .str s=>some (.str s)
  | .dO _ n cs=>some (.dO n cs)
  | .dj none _ _ _=>some (.dO 0 [])
  |_=>none:Option D)with
  |some d=>match ia r with
   |some l=>some (d::l)
   |none=>none
  |none=>none
def oW(k:IntKind):ag->Option (List Int)
 | []=>some []
 | .int k' x::r=>match decide (k'=k),oW k r with
   |true,some l=>some (x::l)
   |_,_=>none
 |_::_=>none
def Row.app:Row->Row->Row
 | .vs a,.vs b=>.vs (a++b)
 | .is k a,.is k' b=>match decide (k'=k)with
   |true=>.is k (a++b)
   |false=>.vs (a.map (.int k)++b.map (.int k'))
 | .is k a,.vs b=>match oW k b with
   |some l=>.is k (a++l)
   |none=>.vs (a.map (.int k)++b)
 | .vs a,.is k b=>match oW k a with
   |some l=>.is k (l++b)
   |none=>.vs (a++b.map (.int k))
 | .ds a,.ds b=>.ds (a++b)
 | .ds a,.vs b=>match ia b with
   |some l=>.ds (a++l)
   |none=>.vs (D.lT a++b)
 | .vs a,.ds b=>match ia a with
   |some l=>.ds (l++b)
   |none=>.vs (a++D.lT b)
 | .ds a,.is k b=>.ds (a++b.map (.int k))
 | .is k a,.ds b=>.ds (a.map (.int k)++b)
def Row.cut(o size:Nat):Row->Option Row
 | .vs cs=>match Eng.cut cs o size with
   |some r=>some (.vs r)
   |none=>none
 | .is k ks=>if o+size<=ks.length then some (.is k ((ks.drop o).take size))else none
 | .ds cs=>if o+size<=cs.length then some (.ds ((cs.drop o).take size))else none
def Row.soft:Row->Bool
 | .ds _=>true
 |_=>false
def Row.flat:Row->Bool
 | .vs cs=>cs.all V.scalar
 | .is _ _=>true
 | .ds _=>true
def wJ(ks:ai)(o:Nat)(new:ai):ai:=ks.take o++(new++ks.drop (o+new.length))
def fO(ks:List Int)(o:Nat)(new:List Int):List Int:=ks.take o++(new++ks.drop (o+new.length))
def storeAt(P:Program)(t:TypeId)(h:Tr O)(v:V):V->Option (Tr O)
 | .ptr (some (m,o))=>match h.get m with
   |some (.cells cs)=>
    match kQ P t with
    |some s=>
     if v.cells.length=s/\0<s/\m<fL/\v.cells.all V.scalar=true then
      match BZ cs o v.cells with
      |some cs'=>some (h.set m (some (.cells cs')))
      |none=>none
     else none
    |none=>none
   |some (.own k ks)=>
    match kQ P t with
    |some s=>
     if v.cells.length=s/\0<s/\m<fL then
      match oW k v.cells with
      |some new=>if o+s<=ks.length then some (h.set m (some (.own k (fO ks o new))))else none
      |none=>none
     else none
    |none=>none
   |some (.deep cs)=>
    match kQ P t with
    |some s=>
     if v.cells.length=s/\0<s/\m<fL then
      match ia v.cells with
      |some new=>if o+s<=cs.length then some (h.set m (some (.deep (wJ cs o new))))else none
      |none=>none
     else none
    |none=>none
   |some (.Bj T self _)=>match kQ P t,v.cells with
    |some 1,[x]=>if o=1/\m<fL/\x.scalar=true then some (h.set m (some (.Bj T self x)))else none
    |_,_=>none
   |_=>none
 |_=>none
def rL(yb:Nat->Option (Nat×Nat)):ag->List (Nat×V)->Option (ag)
 |cells,[]=>some cells
 |cells,(i,v)::rest=>
  match yb i with
  |none=>none
  |some (off,size)=>
   if v.cells.length=size then
    match BZ cells off v.cells with
    |some qf=>rL yb qf rest
    |none=>none
   else none
def sK(P:Program):List Field->Option (List (Nat×Nat))
 | []=>some []
 |f::fs=>match kQ P f.type with
  |some s=>match sK P fs with
   |some r=>some ((f.offset,s)::r)
   |none=>none
  |none=>none
def JM(P:Program)(t:TypeId)(parts:List (Nat×V)):Option V:=
 match zeroOf P t,P.underlying t with
 |some z,some (.struct nQ)=>
  match sK P nQ.toList with
  |some uw=>(rL (fun i=>uw[i]?) z.cells parts).map .agg
  |none=>none
 |some z,some (.array _ TW)=>
  match kQ P TW with
  |some s=>(rL (fun i=>some (i*s,s)) z.cells parts).map .agg
  |none=>none
 |_,_=>none
def gQ(z:ag):Nat->ag
 |0=>[]
 |n+1=>z++gQ z n
def ux(P:Program)(t:TypeId):Option TypeId:=
 match P.underlying t with
 |some (.slice e)=>some e
 |_=>none
def oB(P:Program)(t:TypeId)(cO:Nat)(parts:List (Nat×V))(h:Tr O)(n:Nat):Option R:=
 match ux P t with
 |some e=>match kQ P e,zeroOf P e with
  |some s,some z=>
   if 0<s/\cO*s<=16777216/\z.cells.length=s then
    match rL (fun i=>some (i*s,s)) (gQ z.cells cO) parts with
    |some cs=>match newObj h n (.cells cs)with
     |some (h',n')=>some (.val (.dj (some (n,0)) cO cO s) h' n')
     |none=>none
    |none=>none
   else none
  |_,_=>none
 |none=>none
def sM:Sem Value->Option V
 | .pure v=>iC v
 |_=>none
def eG:aa->aa->Bool
 | [],[]=>true
 |a::x,b::y=>match Nat.beq a.toNat b.toNat with
  |true=>eG x y
  |false=>false
 |_,_=>false
def w9:Nat:=9223372036854775807
def yc:aa->aa->Bool
 |_,[]=>false
 | [],_::_=>true
 |a::x,b::y=>match Nat.blt a.toNat b.toNat with
  |true=>true
  |false=>match Nat.beq a.toNat b.toNat with
   |true=>yc x y
   |false=>false
def Po(op:BinOp)(a b:aa):Option V:=
 match op with
 | .lss=>some (.bool (yc a b))
 | .geq=>some (.bool (!yc a b))
 | .leq=>some (.bool (yc a b||eG a b))
 | .gtr=>some (.bool (!(yc a b||eG a b)))
 | .add=>if a.length+b.length<=w9 then some (.str (a++b))else none
 | .eql=>some (.bool (eG a b))
 | .neq=>some (.bool (!eG a b))
 |_=>none
def wK(P:Program)(t:TypeId)(cs:ag)(off:Nat):Option V:=ld P t cs off
def eqFields(P:Program)(eq:TypeId->V->V->Option Bool):List Field->ag->ag->Option Bool
 | [],_,_=>some true
 |f::fs,xs,ys=>
  if f.name ≠ "_" then
   match wK P f.type xs f.offset,wK P f.type ys f.offset with
   |some a,some b=>match eq f.type a b with
    |some true=>eqFields P eq fs xs ys
    |some false=>some false
    |none=>none
   |_,_=>none
  else eqFields P eq fs xs ys
def LX(P:Program):Nat->TypeId->V->V->Option Bool
 |0,_,_,_=>none
 |d+1,t,x,y=>
  match P.underlying t with
  |some .bool=>match x,y with
   | .bool a,.bool b=>some (a==b)
   |_,_=>none
  |some (.int _)=>match x,y with
   | .int k a,.int k' b=>if k=k' then some (a==b)else none
   |_,_=>none
  |some .string=>match x,y with
   | .str a,.str b=>some (eG a b)
   |_,_=>none
  |some (.pointer el)=>match x,y with
   | .ptr none,.ptr b=>some b.isNone
   | .ptr (some _),.ptr none=>some false
   | .ptr (some (m,o)),.ptr (some (m',o'))=>if(m=m'/\o=o')/\(kQ P el).isSome=true then some true else none
   | .ptr none,.dm _=>some false
   | .dm _,.ptr none=>some false
   |_,_=>none
  |some (.interface _)=>match x,y with
   | .nilIface,.nilIface=>some true
   | .nilIface,.iface _ _=>some false
   | .iface _ _,.nilIface=>some false
   |_,_=>none
  |some (.struct nQ)=>match x,y with
   | .agg xs,.agg ys=>if P.stoodInHeld t then none else eqFields P (fun u a b=>LX P d u a b) nQ.toList xs ys
   |_,_=>none
  |some (.slice _)=>match x,y with
   | .dj none _ _ _,.dj b _ _ _=>some b.isNone
   | .dj (some _) _ _ _,.dj none _ _ _=>some false
   | .dO _ n _,.dj none _ _ _=>match n with
     |_+1=>some false
     |0=>none
   |_,_=>none
  |some (.map _ _)=>match x,y with
   | .map none,.map b=>some b.isNone
   | .map (some _),.map none=>some false
   |_,_=>none
  |_=>none
def isLit:Operand->Bool
 | .const _=>true
 |_=>false
def FN(P:Program)(t:TypeId)(x y:Operand)(a b:V):Option Bool:=
 match a,b with
 | .nilIface,.nilIface=>if isLit x||isLit y then LX P 10000 t a b else none
 | .agg _,.agg _=>if P.eqGuardType P.depth t then none else LX P 10000 t a b
 |_,_=>LX P 10000 t a b
def B2(P:Program)(op:BinOp)(t:TypeId)(x y:Operand)(a b:V):Option V:=
 match a,b with
 | .int k m,.int k' n=>sM (binOp op t (.int k m) (.int k' n))
 | .str s,.str u=>Po op s u
 |a,b=>match op with
  | .eql=>(FN P t x y a b).map .bool
  | .neq=>(FN P t x y a b).map fun r=>.bool (!r)
  |_=>none
def unV(op:UnOp):V->Option V
 | .int k n=>sM (Op.unary op (.int k n))
 | .bool b=>sM (Op.unary op (.bool b))
 |_=>none
def B3(s:aa):ag:=s.map fun b=>.int .u8 b.toNat
def dV(s:aa):List Int:=s.map fun b=>(b.toNat:Int)
def eN(ks:List Int):aa:=ks.map fun n=>UInt8.ofNat n.toNat
def uy:Option O->Option (aa)
 |some (.iU _ _ s)=>some s
 |_=>none
def AI:Option O->Option (List Int)
 |some (.own .u8 ks)=>some ks
 |some (.ints .u8 ks)=>some ks
 |_=>none
def qP:ag->Option (aa)
 | []=>some []
 | .int .u8 n::vs=>match qP vs with
   |some bs=>some (UInt8.ofNat n.toNat::bs)
   |none=>none
 |_::_=>none
def qg(P:Program)(LY dst:TypeId)(v:V)(h:Tr O)(n:Nat):Option R:=
 match P.underlying LY,P.underlying dst,v with
 |some _,some (.int k),.int _ m=>some (.val (.int k (k.wrap m)) h n)
 |some _,some .string,.str s=>some (.val (.str s) h n)
 |some .string,some (.slice e),.str s=>
  match P.underlying e with
  |some (.int .u8)=>match newObj h n (.own .u8 (dV s))with
   |some (h',n')=>some (.val (.dj (some (n,0)) s.length s.length 1) h' n')
   |none=>none
  |_=>none
 |some (.slice e),some .string,.dO _ 0 _=>
  match P.underlying e with
  |some (.int .u8)=>some (.val (.str []) h n)
  |_=>none
 |some (.slice e),some .string,.dj none _ _ _=>
  match P.underlying e with
  |some (.int .u8)=>some (.val (.str []) h n)
  |_=>none
 |some (.slice e),some .string,.dj (some (m,o)) cO _ jx=>
  match P.underlying e with
  |some (.int .u8)=>if jx=1 then(match uy (h.get m)with
   |some s0=>if cO=0\/o+cO<=s0.length then some (.val (.str ((s0.drop o).take cO)) h n)else none
   |none=>match AI (h.get m)with
   |some ks=>if cO=0\/o+cO<=ks.length then some (.val (.str (eN ((ks.drop o).take cO))) h n)else none
   |none=>match cO with
   |0=>some (.val (.str []) h n)
   |_=>match h.get m with
    |some (.cells cs)=>match cut cs o cO with
     |some bs=>match qP bs with
      |some s=>some (.val (.str s) h n)
      |none=>none
     |none=>none
    |_=>none)else none
  |_=>none
 |_,_,_=>none
def ud(ks:List Int):Nat->List Int
 |0=>[]
 |n+1=>ks++ud ks n
def Bk(ks:ai):Nat->ai
 |0=>[]
 |n+1=>ks++Bk ks n
def vK(z:ag)(n:Nat):Row:=match z with
 | .int k x::r=>match oW k (.int k x::r)with
   |some ks=>.is k (ud ks n)
   |none=>match ia (.int k x::r)with
    |some ds=>.ds (Bk ds n)
    |none=>.vs (gQ (.int k x::r) n)
 |z=>match ia z with
  |some ds=>.ds (Bk ds n)
  |none=>.vs (gQ z n)
def nT(P:Program)(t:TypeId)(l c:V)(h:Tr O)(n:Nat):Option R:=
 match ux P t,l,c with
 |some e,.int _ l,.int _ c=>
  match P.info? e,zeroOf P e with
  |some i,some z=>
   let l':=IntKind.i64.wrap l
   let c':=IntKind.i64.wrap c
   if 0<i.size/\z.cells.length=i.size/\0<=l'/\l'<=c'/\i.bytes*c'<=281474976710656 then
    match newObj h n (vK z.cells c'.toNat).EA with
    |some (h',n')=>some (.val (.dj (some (n,0)) l'.toNat c'.toNat i.size) h' n')
    |none=>none
   else none
  |_,_=>none
 |_,_,_=>none
def eK(uz:Nat)(y:Nat):Option V->Option Nat
 |none=>some uz
 |some (.int _ i)=>if 0<=i/\i<=y then some i.toNat else none
 |some _=>none
def yd(h:Tr O)(m k:Nat):Bool:=
 match h.get m with
 |some (.cells cs)=>decide (k<=cs.length)
 |_=>false
def mC(P:Program)(t:TypeId)(hp:Tr O)(x:V)(lo hi mx:Option V):Option V:=
 if mx.isSome=true/\hi.isSome=false then none else
 match P.underlying t,x with
 |some .string,.str s=>
  match mx with
  |some _=>none
  |none=>match eK s.length s.length hi with
   |some h=>match eK 0 h lo with
    |some l=>some (.str ((s.take h).drop l))
    |none=>none
   |none=>none
 |some (.slice e),.dj a cO cP jx=>
  match kQ P e with
  |some s=>if s=jx\/a=none then
    match eK cP cP mx with
    |some m=>match eK cO m hi with
     |some h=>match eK 0 h lo with
      |some l=>some (.dj (match a with|none=>none|some (b,o)=>some (b,o+l*jx)) (h-l) (m-l) jx)
      |none=>none
     |none=>none
    |none=>none
   else none
  |none=>none
 |some (.slice e),.dO f cO cs=>
  match kQ P e with
  |some s=>if cs.length=cO*s then
    match mx with
    |none=>match eK cO cO hi with
     |some h=>match eK 0 h lo with
      |some l=>some (.dO (f&& !hi.isSome) (h-l) ((cs.drop (l*s)).take ((h-l)*s)))
      |none=>none
     |none=>none
    |some m=>match eK cO cO (some m)with
     |some m=>match eK cO m hi with
      |some h=>match eK 0 h lo with
       |some l=>if h=m then some (.dO true (h-l) ((cs.drop (l*s)).take ((h-l)*s)))else none
       |none=>none
      |none=>none
     |none=>none
   else none
  |none=>none
 |some (.array n e),.ptr (some (b,o))=>
  match kQ P e with
  |some s=>
   match eK n n mx with
   |some m=>match eK n m hi with
    |some h=>match eK 0 h lo with
     |some l=>if 0<s/\0<n/\yd hp b (o+n*s)=true then some (.dj (some (b,o+l*s)) (h-l) (m-l) s)else none
     |none=>none
    |none=>none
   |none=>none
  |none=>none
 |_,_=>none
def xb(P:Program)(t:TypeId)(f:Nat):V->Option V
 | .ptr (some (m,o))=>match P.underlying t with
   |some (.struct fs)=>match fs[f]? with
    |some fd=>match kQ P fd.type with
     |some (_+1)=>some (.ptr (some (m,o+fd.offset)))
     |_=>none
    |none=>none
   |_=>none
 | .dm cs=>match P.underlying t with
   |some (.struct fs)=>match fs[f]? with
    |some fd=>match kQ P fd.type with
     |some (_+1)=>some (.dm (cs.drop fd.offset))
     |_=>none
    |none=>none
   |_=>none
 |_=>none
def JN(P:Program)(t:TypeId)(f:Nat):V->Option V
 | .agg cs=>match P.underlying t with
   |some (.struct fs)=>match fs[f]? with
    |some fd=>wK P fd.type cs fd.offset
    |none=>none
   |_=>none
 |_=>none
def nU(P:Program)(t:TypeId)(x ix:V):Option V:=
 match ix with
 | .int _ i=>
   match P.underlying t,x with
   |some (.array cO e),.ptr (some (m,o))=>
    match kQ P e with
    |some s=>if 0<=i/\i<cO then some (.ptr (some (m,o+i.toNat*s)))else none
    |none=>none
   |some (.slice e),.dj (some (m,o)) cO _ jx=>
    match kQ P e with
    |some s=>if 0<=i/\i<cO/\s=jx then some (.ptr (some (m,o+i.toNat*s)))else none
    |none=>none
   |some (.slice e),.dO _ cO cs=>
    match kQ P e with
    |some s=>if(0<=i/\i<cO)/\cs.length=cO*s then some (.dm ((cs.drop (i.toNat*s)).take s))else none
    |none=>none
   |some (.array cO e),.dm cs=>
    match kQ P e with
    |some s=>if 0<=i/\i<cO then some (.dm (cs.drop (i.toNat*s)))else none
    |none=>none
   |_,_=>none
 |_=>none
def FO(P:Program)(t:TypeId)(x ix:V):Option V:=
 match ix with
 | .int _ i=>
   match P.underlying t,x with
   |some (.array cO e),.agg cs=>
    match kQ P e with
    |some s=>if 0<=i/\i<cO then wK P e cs (i.toNat*s)else none
    |none=>none
   |some .string,.str s=>
    if 0<=i then(match s[i.toNat]? with
     |some b=>some (.int .u8 b.toNat)
     |none=>none)else none
   |_,_=>none
 |_=>none
def ye:TypeDesc->V->V->Option Bool
 | .int _,.int k a,.int k' b=>if k=k' then some (a==b)else none
 | .string,.str a,.str b=>some (eG a b)
 |_,_,_=>none
def iQ:D->D->Bool
 | .int k a,.int k' b=>decide (k=k')&&decide (a=b)
 | .str a,.str b=>eG a b
 |_,_=>false
def gF:Option IntKind->D->Bool
 |some k,.int k' _=>decide (k'=k)
 |none,.str _=>true
 |_,_=>false
def mD:TypeDesc->Option IntKind->Bool
 | .int k,some k'=>decide (k=k')
 | .string,none=>true
 |_,_=>false
def di(k:D):ae->Option D
 | []=>none
 |e::es=>match iQ k e.1 with
  |true=>some e.2
  |false=>di k es
def ic(k v:D):ae->ae
 | []=>[(k,v)]
 |e::es=>match iQ k e.1 with
  |true=>(k,v)::es
  |false=>e::ic k v es
def lM(k:D):ae->ae
 | []=>[]
 |e::es=>match iQ k e.1 with
  |true=>es
  |false=>e::lM k es
def D.ga(z:V):Option D->V
 |some d=>d.iJ
 |none=>z
def keyOf:V->Option D
 | .int k n=>some (.int k n)
 | .str s=>some (.str s)
 |_=>none
def uA(kd:TypeDesc)(k:V):List (V×V×Nat)->Nat->Option (Option (Nat×V×V×Nat))
 | [],_=>some none
 |e::es,i=>
  match ye kd k e.1 with
  |some true=>some (some (i,e))
  |some false=>uA kd k es (i+1)
  |none=>none
def B4:TypeDesc->V->Bool
 | .int _,.int _ _=>true
 | .string,.str _=>true
 |_,_=>false
def V.Xh(h:Tr O):V->Option O
 | .map (some r)=>h.get r
 |_=>none
def vL(P:Program)(t:TypeId)(h:Tr O)(x k:V)(ok:Bool):Option V:=
 match P.underlying t with
 |some (.map kt et)=>match P.underlying kt,zeroOf P et with
  |some kd,some z=>
   match x,x.Xh h with
   | .map (some _),some (.dF kk es)=>match keyOf k with
     |some k=>if mD kd kk&&gF kk k then some (if ok then .ew [D.ga z (di k es),.bool (di k es).isSome]else D.ga z (di k es))else none
     |none=>none
   |x,_=>
   if B4 kd k then
    match(match x with
     | .map none=>some []
     | .map (some r)=>(match h.get r with
       |some (.map es _)=>some es
       |_=>none)
     |_=>none:Option (List (V×V×Nat)))with
    |some es=>match uA kd k es 0 with
     |some (some (_,_,v,_))=>some (if ok then .ew [v,.bool true]else v)
     |some none=>some (if ok then .ew [z,.bool false]else z)
     |none=>none
    |none=>none
   else none
  |_,_=>none
 |_=>none
def sN{α:Type}:List α->Nat->(α->α)->List α
 | [],_,_=>[]
 |x::xs,0,f=>f x::xs
 |x::xs,i+1,f=>x::sN xs i f
def sO(P:Program)(t:TypeId)(h:Tr O)(n:Nat)(m k v:V):Option R:=
 match P.underlying t,m with
 |some (.map kt _),.map (some r)=>match P.underlying kt,h.get r with
  |some kd,some (.map es ek)=>
   if B4 kd k/\r<fL then
    match uA kd k es 0 with
    |some (some (i,_))=>some (.val (.ew []) (h.set r (some (.map (sN es i fun e=>(k,v,e.2.2)) ek))) n)
    |some none=>some (.val (.ew []) (h.set r (some (.map (es++[(k,v,ek)]) (ek+1)))) n)
    |none=>none
   else none
  |some kd,some (.dF kk es)=>match keyOf k,V.Pm v with
   |some k,some v=>if mD kd kk&&(gF kk k&&decide (r<fL))then some (.val (.ew []) (h.set r (some (.dF kk (ic k v es)))) n)else none
   |_,_=>none
  |_,_=>none
 |_,_=>none
def FP(P:Program)(eE:Array TypeId)(args:ag)(h:Tr O)(n:Nat):Option R:=
 match eE[0]?,args with
 |some t,[.map (some r),k]=>match P.underlying t with
  |some (.map kt _)=>match P.underlying kt,h.get r,keyOf k with
   |some kd,some (.dF kk es),some k=>if mD kd kk&&(gF kk k&&decide (r<fL))then some (.val (.ew []) (h.set r (some (.dF kk (lM k es)))) n)else none
   |_,_,_=>none
  |_=>none
 |_,_=>none
def zK(P:Program)(t:TypeId)(h:Tr O)(n:Nat)(m k:V):Option R:=
 match P.underlying t,m with
 |some (.map kt et),.map (some r)=>match P.underlying kt,h.get r,zeroOf P et with
  |some kd,some (.map es ek),some z=>
   if B4 kd k/\r<fL then
    match uA kd k es 0 with
    |some (some (i,e))=>some (.val (.ew [e.2.1,.int .i64 e.2.2]) (h.set r (some (.map (sN es i fun e=>(k,e.2.1,e.2.2)) ek))) n)
    |some none=>some (.val (.ew [z,.int .i64 ek]) (h.set r (some (.map (es++[(k,z,ek)]) (ek+1)))) n)
    |none=>none
   else none
  |_,_,_=>none
 |_,_=>none
def zL(b:Int):List (V×V×Nat)->Nat->Option Nat
 | [],_=>none
 |e::es,i=>if(e.2.2:Int)==b then some i else zL b es (i+1)
def uB(h:Tr O)(n:Nat)(m ac1 v:V):Option R:=
 match m,ac1 with
 | .map (some r),.int _ b=>match h.get r with
   |some (.map es ek)=>
    if r<fL then
     match zL b es 0 with
     |some i=>some (.val (.ew []) (h.set r (some (.map (sN es i fun e=>(e.1,v,e.2.2)) ek))) n)
     |none=>none
    else none
   |_=>none
 |_,_=>none
def uC(P:Program)(x:V)(yf:TypeId)(ok:Bool):Option V:=
 match P.underlying yf,x with
 |some (.interface _),_=>none
 |some _,.nilIface=>if ok then(match zeroOf P yf with|some z=>some (.ew [z,.bool false])|none=>none)else none
 |some _,.iface t v=>if t=yf then some (if ok then .ew [v,.bool true]else v)
  else if ok then(match zeroOf P yf with|some z=>some (.ew [z,.bool false])|none=>none)else none
 |_,_=>none
def jz(h:Tr O)(size:Nat):V->Option (Nat×Row)
 | .dj none cO _ _=>if cO=0 then some (0,.vs [])else none
 | .dj (some (m,o)) cO _ jx=>if jx=size then(match cO with
   |0=>some (0,.vs [])
   |_=>match h.get m with
    |some ob=>match ob.Nl with
     |some r=>match r.cut o (cO*size)with
      |some r=>some (cO,r)
      |none=>none
     |none=>none
    |none=>none)else none
 | .str s=>if size=1 then some (s.length,.is .u8 (dV s))else none
 | .dO _ cO cs=>if cs.length=cO*size then some (cO,.ds cs)else none
 |_=>none
def uD:ag->Option (aa)
 | []=>some []
 | .int .u8 x::r=>match uD r with
   |some l=>some (UInt8.ofNat x.toNat::l)
   |none=>none
 |_::_=>none
def uE:Row->Option (aa)
 | .is .u8 ks=>some (eN ks)
 | .vs cs=>uD cs
 |_=>none
def B5(e:TypeId)(x:V)(new:Row):O:=match x with
 | .str t=>.iU e false t
 |_=>new.EA
def eT(Nn size bytes:Nat):Bool:=decide (Nn*bytes<=281474976710/\Nn*size<=281474976710)
def JO:TypeDesc->Bool
 | .slice _=>true
 | .string=>true
 |_=>false
def yg(P:Program)(eE:Array TypeId)(args:ag)(h:Tr O)(n:Nat):Option R:=
 match eE[0]?,eE[1]?,args with
 |some st,some xt,[s,x]=>
  match ux P st,P.underlying xt with
  |some e,some xd=>
   match JO xd,P.info? e,zeroOf P e with
   |true,some i,some z=>
    if 0<i.size/\0<i.bytes/\z.cells.length=i.size then
     match jz h i.size x with
     |some (k,new)=>
      if new.flat=true then
      match s with
      | .dj none 0 _ _=>
        match k with
        |0=>some (.val (.dj none 0 0 0) h n)
        |_=>if eT k i.size i.bytes then(match newObj h n (B5 e x new)with
         |some (h',n')=>some (.val (.dj (some (n,0)) k k i.size) h' n')
         |none=>none)else none
      | .dO true cO cs=>
        match k with
        |0=>some (.val (.dO true cO cs) h n)
        |_=>if eT (cO+k) i.size i.bytes/\cs.length=cO*i.size then(match newObj h n ((Row.ds cs).app new).EA with
         |some (h',n')=>some (.val (.dj (some (n,0)) (cO+k) (cO+k) i.size) h' n')
         |none=>none)else none
      | .dj (some (m,o)) cO cP jx=>
        if jx=i.size/\eT (cO+k) i.size i.bytes/\m<fL then
         match h.get m with
         |some (.iU el AH s0)=>match uE new with
          |some t=>if(o=0/\0<cP)/\(cO<=s0.length/\(AH=true->cO=s0.length))/\(i.size=1/\el=e)then(match newObj (h.set m none) n (.iU el AH (s0.take cO++t))with
           |some (h',n')=>some (.val (.dj (some (n,0)) (cO+k) (cO+k) jx) h' n')
           |none=>none)else none
          |none=>none
         |some ob=>match ob.row with
          |some r=>
           match(if r.soft=false/\cO=0 then some (.vs [])else r.cut o (cO*i.size):Option Row)with
           |some old=>
            if new.soft=false/\k=0 then some (.val s h n)
            else match newObj (h.set m none) n (old.app new).EA with
             |some (h',n')=>some (.val (.dj (some (n,0)) (cO+k) (cO+k) jx) h' n')
             |none=>none
           |none=>none
          |none=>none
         |_=>none
        else none
      |_=>none
      else none
     |none=>none
    else none
   |_,_,_=>none
  |_,_=>none
 |_,_,_=>none
def No(P:Program)(eE:Array TypeId)(args:ag)(h:Tr O):Option V:=
 match eE[0]?,args with
 |some t,[x]=>match P.underlying t,x with
  |some .string,.str s=>some (.int .i64 s.length)
  |some (.array n _),_=>some (.int .i64 n)
  |some (.slice _),.dj _ cO _ _=>some (.int .i64 cO)
  |some (.slice _),.dO _ cO _=>some (.int .i64 cO)
  |some (.map _ _),.map none=>some (.int .i64 0)
  |some (.map _ _),.map (some r)=>match h.get r with
   |some (.map es _)=>some (.int .i64 es.length)
   |some (.dF _ es)=>some (.int .i64 es.length)
   |_=>none
  |_,_=>none
 |_,_=>none
def B6(P:Program)(t:TypeId)(x:V)(h:Tr O)(n:Nat):Option R:=
 match P.underlying t,x with
 |some .string,.str s=>match newObj h n (.nH s 0)with
  |some (h',n')=>some (.val (.ptr (some (n,0))) h' n')
  |none=>none
 |_,_=>none
def Pp(x:V)(Pq:Bool)(h:Tr O)(n:Nat):Option R:=
 match x,Pq with
 | .ptr (some (m,0)),true=>match h.get m with
   |some (.nH s pos)=>
    if pos<s.length then
     let cw:=Utf8.decode ⟨s.toArray⟩ pos
     if m<fL then some (.val (.ew [.bool true,.int .i64 pos,.int .i32 cw.1]) (h.set m (some (.nH s (pos+cw.2)))) n)else none
    else some (.val (.ew [.bool false]) h n)
   |_=>none
 |_,_=>none
def Hv:V->ag->Option V
 |x,[]=>some x
 | .int k a,.int _ b::vs=>Hv (.int k (if b>a then b else a)) vs
 |_,_=>none
def Hw:V->ag->Option V
 |x,[]=>some x
 | .int k a,.int _ b::vs=>Hw (.int k (if b<a then b else a)) vs
 |_,_=>none
def Pr:List (Nat×Nat)->Nat->Option V
 | [],_=>none
 |p::r,g=>match Nat.beq p.1 g with
  |true=>some (.ptr (some (p.2,0)))
  |false=>Pr r g
def iI(fr:Tr V):Operand->Option V
 | .tmp t=>fr.get t
 | .const v=>LW v
 | .func f=>some (.fn (.func f) [] [])
 | .global g=>Pr jR g
def uF(fr:Tr V):List Operand->Option (ag)
 | []=>some []
 |x::xs=>match iI fr x with
  |some v=>match uF fr xs with
   |some vs=>some (v::vs)
   |none=>none
  |none=>none
def mE(fr:Tr V):Option Operand->Option (Option V)
 |none=>some none
 |some x=>match iI fr x with
  |some v=>some (some v)
  |none=>none
def qh(fr:Tr V):List (Nat×Operand)->Option (List (Nat×V))
 | []=>some []
 |(i,x)::xs=>match iI fr x with
  |some v=>match qh fr xs with
   |some vs=>some ((i,v)::vs)
   |none=>none
  |none=>none
def callee(P:Program)(f:FuncId):Bool:=
 match P.funcs[f]? with
 |some fn=>fn.body.isSome&&fn.name != "runtime.NumGoroutine"
 |none=>false
def lj(P:Program)(b:Builtin)(eE:Array TypeId)(args:ag)(h:Tr O)(n:Nat):Option R:=
 match b with
 | .append=>if eE.size=2 then yg P eE args h n else none
 | .len=>mT h n (No P eE args h)
 | .max=>match args with
   |x::xs=>mT h n (Hv x xs)
   | []=>none
 | .min=>match args with
   |x::xs=>mT h n (Hw x xs)
   | []=>none
 | .panic=>match args with
   | [.iface t v]=>some (.panic (.iface t v))
   |_=>none
 | .recover=>some .recover
 | .unsafeSliceData=>match args with
   | [.dj (some (m,o)) _ cP _]=>if 0<cP then some (.val (.ptr (some (m,o))) h n)else none
   |_=>none
 | .unsafeString=>match eE[0]?,args with
   |some pt,[.ptr (some (m,0)),.int .i64 l]=>match P.underlying pt,h.get m with
    |some (.pointer e),some (.iU el _ s)=>if(l=s.length/\0<s.length)/\(el=e/\P.cellsOf e=1)/\(m<fL/\eE.size=2/\s.length<=w9)then some (.val (.str s) (h.set m (some (.iU el true s))) n)else none
    |_,_=>none
   |_,_=>none
 | .delete=>if eE.size=2 then FP P eE args h n else none
 |_=>none
def wL(P:Program)(fr:Tr V)(c:Call)(h:Tr O)(n:Nat):Option R:=
 match uF fr c.args.toList with
 |some args=>match c.callee with
  | .builtin b=>lj P b c.argTypes args h n
  | .invoke _ _=>none
  | .value f=>match iI fr f with
    |some (.fn (.func g) first captured)=>if callee P g then some (.call g (first++args++captured))else none
    |some (.fn (.yield m) [] [])=>match h.get m with
     |some (.loop _ _ _ ps _ _)=>if ps.length=args.length then some (.call (P.funcs.size+m) args)else none
     |_=>none
    |_=>none
 |none=>none
def B7(fr:Tr V)(c:Call):Option R:=
 match uF fr c.args.toList with
 |some args=>match c.callee with
  | .value f=>match iI fr f with
    |some (.fn (.func g) first captured)=>some (.my g captured (first++args))
    |_=>none
  |_=>none
 |none=>none
def vM:Fn->Bool
 | .yield _=>false
 |_=>true
def dz(P:Program)(o:Oper)(fr:Tr V)(h:Tr O)(n:Nat):Option R:=
 match o.op with
 | .move x=>mT h n (iI fr x)
 | .assign x=>mT h n (iI fr x)
 | .pick c a b=>match iI fr c with
   |some (.bool true)=>mT h n (iI fr a)
   |some (.bool false)=>mT h n (iI fr b)
   |_=>none
 | .alloc e=>match zeroOf P e with
   |some z=>match newObj h n (B0 P e z)with
    |some (h',n')=>some (.val (.ptr (some (n,0))) h' n')
    |none=>none
   |none=>none
 | .box _ x=>match iI fr x with
   |some v=>match newObj h n (.cells v.cells)with
    |some (h',n')=>some (.val (.ptr (some (n,0))) h' n')
    |none=>none
   |none=>none
 | .build t parts=>match qh fr parts.toList with
   |some ps=>mT h n (JM P t ps)
   |none=>none
 | .buildSlice t cO parts=>match qh fr parts.toList with
   |some ps=>oB P t cO ps h n
   |none=>none
 | .load t a=>match iI fr a with
   |some v=>mT h n (loadAt P t h v)
   |none=>none
 | .store t a x=>match iI fr a,iI fr x with
   |some av,some xv=>match storeAt P t h xv av with
    |some h'=>some (.val (.ew []) h' n)
    |none=>none
   |_,_=>none
 | .nilCheck x=>match iI fr x with
   |some (.ptr (some p))=>some (.val (.ptr (some p)) h n)
   |some (.dm cs)=>some (.val (.dm cs) h n)
   |some (.fn (.func f) a c)=>some (.val (.fn (.func f) a c) h n)
   |some (.iface t v)=>some (.val (.iface t v) h n)
   |_=>none
 | .binOp op t x y _=>match iI fr x,iI fr y with
   |some a,some b=>mT h n (B2 P op t x y a b)
   |_,_=>none
 | .unOp op _ x=>match iI fr x with
   |some v=>mT h n (unV op v)
   |none=>none
 | .convert LY dst x=>match iI fr x with
   |some v=>qg P LY dst v h n
   |none=>none
 | .makeInterface t x=>match iI fr x,P.underlying t with
   |some v,some d=>match d with
    | .interface _=>none
    |_=>some (.val (.iface t v) h n)
   |_,_=>none
 | .makeFunc f first captured=>match uF fr first.toList,uF fr captured.toList with
   |some a,some c=>if vM f=true then some (.val (.fn f a c) h n)else none
   |_,_=>none
 | .makeMap _ none=>match newObj h n (.map [] 0)with
   |some (h',n')=>some (.val (.map (some n)) h' n')
   |none=>none
 | .makeSlice t l c=>match iI fr l,iI fr c with
   |some l,some c=>nT P t l c h n
   |_,_=>none
 | .slice t x lo hi mx=>match iI fr x,mE fr lo,mE fr hi,mE fr mx with
   |some v,some lo,some hi,some mx=>mT h n (mC P t h v lo hi mx)
   |_,_,_,_=>none
 | .fieldAddr t x f=>match iI fr x with
   |some v=>mT h n (xb P t f v)
   |none=>none
 | .field t x f=>match iI fr x with
   |some v=>mT h n (JN P t f v)
   |none=>none
 | .indexAddr t x i=>match iI fr x,iI fr i with
   |some v,some i=>mT h n (nU P t v i)
   |_,_=>none
 | .index t x i=>match iI fr x,iI fr i with
   |some v,some i=>mT h n (FO P t v i)
   |_,_=>none
 | .lookup t x k ok=>match iI fr x,iI fr k with
   |some x,some k=>mT h n (vL P t h x k ok)
   |_,_=>none
 | .mapUpdate t m k v=>match iI fr m,iI fr k,iI fr v with
   |some m,some k,some v=>sO P t h n m k v
   |_,_,_=>none
 | .insert t m k v=>match iI fr m,iI fr k,iI fr v with
   |some m,some k,some v=>sO P t h n m k v
   |_,_,_=>none
 | .mapEntry t m k=>match iI fr m,iI fr k with
   |some m,some k=>zK P t h n m k
   |_,_=>none
 | .entryStore _ m s v=>match iI fr m,iI fr s,iI fr v with
   |some m,some s,some v=>uB h n m s v
   |_,_,_=>none
 | .typeAssert x _ t ok=>match iI fr x with
   |some v=>mT h n (uC P v t ok)
   |none=>none
 | .extract x i=>match iI fr x with
   |some (.ew vs)=>mT h n (vs[i]?)
   |_=>none
 | .range t x=>match iI fr x with
   |some v=>B6 P t v h n
   |none=>none
 | .next it b=>match iI fr it with
   |some v=>Pp v b h n
   |none=>none
 | .panic x=>match iI fr x with
   |some (.iface t v)=>some (.panic (.iface t v))
   |_=>none
 | .call c=>wL P fr c h n
 | .defer c=>B7 fr c
 |_=>none
structure St where
 fr:Tr V
 h:Tr O
 n:Nat
 gz:List (FuncId×ag×ag)
 deriving Inhabited
inductive X where
 |normal
 |exit (id:Nat)
 |ret
 |panic (v:V)
inductive Ps where
 |ret (v:V)
 |zM (v:V)
abbrev fM:=FuncId->ag->Tr O->Nat->Option (Ps×Tr O×Nat)
def iV(fr:Tr V)(dst:Option Nat)(v:V):Option (Tr V):=
 match dst with
 |none=>some fr
 |some d=>if d<fL then some (fr.set d (some v))else none
def iy(ops:Array Oper)(o:Oper)(fr:Tr V):Option Bool:=
 match o.guard with
 |none=>some true
 |some (j,JP)=>match ops[j]? with
  |some q=>match q.dst with
   |some d=>match fr.get d with
    |some (.bool b)=>some (b==JP)
    |some (.ew [])=>some false
    |_=>none
   |none=>none
  |none=>none
def mY{α:Type}(_:Nat):Option α:=none
def mZ{α:Type}(_:Oper):Option α:=none
def By:Op->Bool
 | .defer _=>false
 |_=>true
def ja(P:Program)(cf:fM)(ops:Array Oper):List Oper->St->Option (X×St)
 | [],s=>some (.normal,s)
 |o::rest,s=>
  match iy ops o s.fr with
  |some false=>match iV s.fr o.dst (.ew [])with
   |some fr=>ja P cf ops rest { s with fr:=fr }
   |none=>none
  |some true=>match dz P o s.fr s.h s.n with
   |some (.val v h n)=>match iV s.fr o.dst v with
    |some fr=>ja P cf ops rest { s with fr:=fr,h:=h,n:=n }
    |none=>none
   |some (.call f args)=>match cf f args s.h s.n with
    |some (.ret v,h,n)=>match iV s.fr o.dst v with
     |some fr=>ja P cf ops rest { s with fr:=fr,h:=h,n:=n }
     |none=>none
    |some (.zM v,h,n)=>some (.panic v,{ s with h:=h,n:=n })
    |none=>none
   |some (.my f c args)=>if f<fL/\By o.op=false then(match iV s.fr o.dst (.ew [])with
    |some fr=>ja P cf ops rest { s with fr:=fr,gz:=(f,c,args)::s.gz }
    |none=>none)else mZ o
   |some (.panic v)=>some (.panic v,s)
   |some .recover=>none
   |none=>mZ o
  |none=>mZ o
def qQ:Option (Nat×Nat)->Option (Nat×Nat)->Bool
 |none,none=>true
 |some (a,b),some (c,d)=>Nat.beq a c&&Nat.beq b d
 |_,_=>false
def FQ :Option Nat->Option Nat->Bool
 |none,none=>true
 |some a,some b=>Nat.beq a b
 |_,_=>false
def Pt:Fn->Fn->Bool
 | .func a,.func b=>Nat.beq a b
 | .yield a,.yield b=>Nat.beq a b
 |_,_=>false
mutual
def D.beq:D->D->Bool
 | .bool a,.bool b=>a==b
 | .int k a,.int j b=>decide (k=j)&&decide (a=b)
 | .str a,.str b=>eG a b
 | .dO n a,.dO m b=>Nat.beq n m&&D.pI a b
 | .agg a,.agg b=>D.pI a b
 |_,_=>false
def D.pI:ai->ai->Bool
 | [],[]=>true
 |a::x,b::y=>D.beq a b&&D.pI x y
 |_,_=>false
end
mutual
def V.beq:V->V->Bool
 | .bool a,.bool b=>a==b
 | .int k a,.int j b=>decide (k=j)&&decide (a=b)
 | .str a,.str b=>eG a b
 | .ptr a,.ptr b=>qQ a b
 | .dj a l c e,.dj a' l' c' e'=>qQ a a'&&Nat.beq l l'&&Nat.beq c c'&&Nat.beq e e'
 | .map a,.map b=>FQ a b
 | .fn f a c,.fn g b d=>Pt f g&&V.pI a b&&V.pI c d
 | .kG,.kG=>true
 | .iface t x,.iface u y=>Nat.beq t u&&V.beq x y
 | .nilIface,.nilIface=>true
 | .agg a,.agg b=>V.pI a b
 | .ew a,.ew b=>V.pI a b
 | .dO f n a,.dO g m b=>f==g&&(Nat.beq n m&&D.pI a b)
 | .dm a,.dm b=>D.pI a b
 |_,_=>false
def V.pI:ag->ag->Bool
 | [],[]=>true
 |a::x,b::y=>V.beq a b&&V.pI x y
 |_,_=>false
end
def qR:Op->Bool
 | .store .. | .mapUpdate .. | .insert .. | .mapEntry .. | .entryStore .. | .next .. | .defer _ | .panic _=>true
 | .call { callee:=.builtin b,.. }=>match b with
   | .len | .max | .min=>false
   |_=>true
 | .call _=>true
 |_=>false
def qi:Op->Bool
 | .move _ | .assign _ | .pick .. | .build .. | .nilCheck _ | .binOp .. | .unOp .. | .makeInterface .. | .makeFunc .. | .fieldAddr .. | .field ..
 | .indexAddr .. | .index .. | .typeAssert .. | .extract ..=>true
 |_=>false
structure Dr where
 fr:Tr V
 ef:List Nat
 cur:Nat×Tr O
 pJ:List (Nat×Nat×Tr O)
 last:Option Nat
 cW:af
 reads:List (Nat×Nat×Oper×Tr V×V)
 n:Nat
def dY(m i:Nat):Bool:=Nat.testBit m i
def gO(n0:Nat):af->Nat->Tr O->Nat->Tr O
 | [],_,x,_=>x
 |(i,o)::r,m,x,gX=>if dY gX i&& !dY m i then(gO n0 r m x gX).set (n0+i) (some o)else gO n0 r m x gX
def eM(ef:List Nat):List Edge->Nat
 | []=>0
 |e::es=>if Region.binds .any e then eM ef es|||(2^e.on|||ef.getD e.on 0)else eM ef es
def mL(P:Program)(n0 i:Nat)(o:Oper)(fr:Tr V)(v:V)(x:Tr O):Bool:=
 match dz P o fr x (n0+i)with
 |some (.val u _ k)=>Nat.beq k (n0+i)&&V.beq u v
 |_=>false
def qj(P:Program)(n0 i:Nat)(o:Oper)(fr:Tr V)(v:V)(cW:af)(gX:Nat):List (Nat×Nat×Tr O)->Bool
 | []=>true
 |(e,m,x)::r=>if dY gX e then true else mL P n0 i o fr v (gO n0 cW m x gX)&&qj P n0 i o fr v cW gX r
def pK(P:Program)(n0:Nat)(cW:af)(m:Nat)(x:Tr O):List (Nat×Nat×Oper×Tr V×V)->Bool
 | []=>true
 |(j,gX,o,fr,v)::r=>(dY m j||mL P n0 j o fr v (gO n0 cW m x gX))&&pK P n0 cW m x r
def zN(gX:Nat):Option Nat->Bool
 |none=>true
 |some e=>dY gX e
def kH(P:Program)(n0 i gX:Nat)(o:Oper)(s:Dr)(v:V)(h:Tr O)(n:Nat):Option Dr:=
 match iV s.fr o.dst v with
 |some fr=>
  if pK P n0 s.cW gX h s.reads then
   some { fr:=fr,ef:=s.ef++[gX],cur:=(gX,h),pJ:=(i,s.cur.1,s.cur.2)::s.pJ,last:=some i,cW:=s.cW,reads:=s.reads,n:=n }
  else none
 |none=>none
def uG(P:Program)(cf:fM)(ops:Array Oper)(n0 i:Nat)(o:Oper)(s:Dr):Option (Dr ⊕ (Tr V×V×Tr O×Nat)):=
 let gX:=eM s.ef o.after.toList
 match iy ops o s.fr with
 |some false=>match iV s.fr o.dst (.ew [])with
  |some fr=>some (.inl { s with fr:=fr,ef:=s.ef++[gX] })
  |none=>mZ o
 |some true=>
  if qR o.op then
   if zN gX s.last then
    match dz P o s.fr (gO n0 s.cW s.cur.1 s.cur.2 gX) s.n with
    |some (.val v h n)=>match kH P n0 i gX o s v h n with
     |some s'=>some (.inl s')
     |none=>mZ o
    |some (.call f args)=>match cf f args (gO n0 s.cW s.cur.1 s.cur.2 gX) s.n with
     |some (.ret v,h,n)=>match kH P n0 i gX o s v h n with
      |some s'=>some (.inl s')
      |none=>mZ o
     |some (.zM v,h,n)=>if Nat.beq (gX+1) (2^i)&&Nat.beq (i+1) ops.size then some (.inr (s.fr,v,h,n))else mZ o
     |none=>none
    |_=>mZ o
   else mZ o
  else
   let x:=gO n0 s.cW s.cur.1 s.cur.2 gX
   match dz P o s.fr x (n0+i)with
   |some (.val v h k)=>match iV s.fr o.dst v with
    |some fr=>
     if Nat.beq k (n0+i)then
      if qi o.op then some (.inl { s with fr:=fr,ef:=s.ef++[gX] })
      else if qj P n0 i o s.fr v s.cW gX s.pJ then
       some (.inl { s with fr:=fr,ef:=s.ef++[gX],reads:=(i,gX,o,s.fr,v)::s.reads })
      else mZ o
     else match h.get (n0+i)with
      |some b=>if b.wr=true then some (.inl { s with fr:=fr,ef:=s.ef++[gX],cW:=(i,b)::s.cW })else mZ o
      |none=>mZ o
    |none=>mZ o
   |_=>mZ o
 |none=>mZ o
def qT(P:Program)(cf:fM)(ops:Array Oper)(n0:Nat):List Oper->Nat->Dr->Option (Dr ⊕ (Tr V×V×Tr O×Nat))
 | [],_,s=>some (.inl s)
 |o::r,i,s=>match uG P cf ops n0 i o s with
  |some (.inl s')=>qT P cf ops n0 r (i+1) s'
  |x=>x
def drawn(P:Program)(cf:fM)(ops:Array Oper)(s:St):Option (X×St):=
 if s.n+ops.size<fL then
  match qT P cf ops s.n ops.toList 0 { fr:=s.fr,ef:=[],cur:=(0,s.h),pJ:=[],last:=none,cW:=[],reads:=[],n:=s.n+ops.size }with
  |some (.inl d)=>some (.normal,{ fr:=d.fr,h:=gO s.n d.cW d.cur.1 d.cur.2 (2^ops.size-1),n:=d.n,gz:=s.gz })
  |some (.inr (fr,v,h,n))=>some (.panic v,{ s with fr:=fr,h:=h,n:=n })
  |none=>none
 else none
def rounds(f:St->Option (X×St)):Nat->St->Option (X×St)
 |0,_=>mY 1
 |k+1,s=>match f s with
  |some (.normal,s')=>rounds f k s'
  |r=>r
def jb(P:Program)(cf:fM)(F:Nat):Code->St->Option (X×St)
 | .skip,s=>some (.normal,s)
 | .region _ ops false,s=>ja P cf ops ops.toList s
 | .region _ ops true,s=>drawn P cf ops s
 | .seq a b,s=>match jb P cf F a s with
   |some (.normal,s')=>jb P cf F b s'
   |r=>r
 | .cond c a b,s=>match iI s.fr c with
   |some (.bool true)=>jb P cf F a s
   |some (.bool false)=>jb P cf F b s
   |_=>mY 2
 | .block id body,s=>match jb P cf F body s with
   |some (.exit id',s')=>if id'=id then some (.normal,s')else some (.exit id',s')
   |r=>r
 | .loop body,s=>rounds (jb P cf F body) F s
 | .exit id,s=>some (.exit id,s)
 | .ret,s=>some (.ret,s)
 | .rangeFunc g ps assign body,s=>match iI s.fr g with
   |some (.fn (.func gf) [] lb)=>
    if callee P gf=true/\s.n+1<fL then
     match cf gf (.fn (.yield (s.n+1)) [] []::lb) ((s.h.set s.n (some .my)).set (s.n+1) (some (.loop true none s.fr ps.toList assign body))) (s.n+2)with
     |some (.ret _,h,n)=>match h.get s.n,h.get (s.n+1)with
      |some .my,some (.loop true none _ _ _ _)=>some (.normal,{ s with h:=h.set (s.n+1) none,n:=n,gz:=(fL,[],[.map (some s.n)])::s.gz })
      |some .my,some (.loop false (some .ret) _ _ _ _)=>some (.ret,{ s with h:=h.set (s.n+1) none,n:=n,gz:=(fL,[],[.map (some s.n)])::s.gz })
      |some .my,some (.loop false (some (.exit id)) _ _ _ _)=>some (.exit id,{ s with h:=h.set (s.n+1) none,n:=n,gz:=(fL,[],[.map (some s.n)])::s.gz })
      |_,_=>mY 31
     |_=>mY 32
    else mY 33
   |_=>mY 34
 |_,_=>mY 3
def lN:ag->Nat->Tr V->Tr V
 | [],_,t=>t
 |v::vs,i,t=>lN vs (i+1) (t.set i (some v))
def FR(P:Program)(fr:Tr V)(h:Tr O):ResultVar->Option V
 | .tmp t=>fr.get t
 | .cell a t=>match fr.get a with
   |some v=>loadAt P t h v
   |none=>none
def lp(P:Program)(fr:Tr V)(h:Tr O):List ResultVar->Option (ag)
 | []=>some []
 |r::rs=>match FR P fr h r with
  |some v=>match lp P fr h rs with
   |some vs=>some (v::vs)
   |none=>none
  |none=>none
def oneOf:ag->V
 | [v]=>v
 |vs=>.ew vs
inductive Mode where
 |ret
 |zM (v:V) (rec:Bool)
def qU(P:Program)(cf:fM)(ops:Array Oper):List Oper->St->Mode->Option (X×St×Mode)
 | [],s,m=>some (.normal,s,m)
 |o::rest,s,m=>
  match iy ops o s.fr with
  |some false=>match iV s.fr o.dst (.ew [])with
   |some fr=>qU P cf ops rest { s with fr:=fr } m
   |none=>none
  |some true=>match dz P o s.fr s.h s.n with
   |some (.val v h n)=>match iV s.fr o.dst v with
    |some fr=>qU P cf ops rest { s with fr:=fr,h:=h,n:=n } m
    |none=>none
   |some .recover=>match m with
    | .zM v false=>match iV s.fr o.dst v with
      |some fr=>qU P cf ops rest { s with fr:=fr } (.zM v true)
      |none=>none
    |m=>match iV s.fr o.dst .nilIface with
     |some fr=>qU P cf ops rest { s with fr:=fr } m
     |none=>none
   |_=>mZ o
  |none=>mZ o
def tT(P:Program)(cf:fM)(F:Nat):Code->St->Mode->Option (X×St×Mode)
 | .region _ ops false,s,m=>qU P cf ops ops.toList s m
 | .seq a b,s,m=>match tT P cf F a s m with
   |some (.normal,s',m')=>tT P cf F b s' m'
   |r=>r
 | .cond c a b,s,m=>match iI s.fr c with
   |some (.bool true)=>tT P cf F a s m
   |some (.bool false)=>tT P cf F b s m
   |_=>mY 5
 |c,s,m=>match jb P cf F c s with
  |some (x,s')=>some (x,s',m)
  |none=>none
def nI(P:Program)(cf:fM)(F:Nat)(fn:Func)(fr:Tr V):List (FuncId×ag×ag)->Mode->Tr O->Nat->Option (Ps×Tr O×Nat)
 | [],.ret,h,n=>match lp P fr h fn.results.toList with
   |some vs=>some (.ret (oneOf vs),h,n)
   |none=>mY 11
 | [],.zM v false,h,n=>some (.zM v,h,n)
 | [],.zM _ true,_,_=>mY 12
 |(g,c,args)::ds,m,h,n=>
  if fL<=g then(match args with
   | [.map (some b)]=>(match h.get b with
     |some .my=>if b<fL then nI P cf F fn fr ds m (h.set b none) n else mY 41
     |_=>mY 42)
   |_=>mY 43)else
  match P.funcs[g]? with
  |some gn=>match gn.body with
   |some code=>
    if callee P g=true/\(args++c).length<=gn.ntmps/\gn.ntmps<fL then
     match tT P cf F code { fr:=lN (args++c) 0 .nil,h:=h,n:=n,gz:=[] } m with
     |some (.normal,s',m')=>
      (match s'.gz with
      | []=>match lp P s'.fr s'.h gn.results.toList with
        |some _=>nI P cf F fn fr ds (match m' with | .zM _ true=>.ret|m=>m) s'.h s'.n
        |none=>mY 13
      |_=>mY 14)
     |some (.ret,s',m')=>
      (match s'.gz with
      | []=>match lp P s'.fr s'.h gn.results.toList with
        |some _=>nI P cf F fn fr ds (match m' with | .zM _ true=>.ret|m=>m) s'.h s'.n
        |none=>mY 15
      |_=>mY 16)
     |_=>mY 17
    else none
   |none=>mY 18
  |none=>mY 19
def enter(P:Program)(cf:fM)(F:Nat)(f:FuncId)(args:ag)(h:Tr O)(n:Nat):Option (Ps×Tr O×Nat):=
 match P.funcs[f]? with
 |some fn=>match fn.body with
  |some code=>
   if args.length<=fn.ntmps/\fn.ntmps<fL then
    match jb P cf F code { fr:=lN args 0 .nil,h:=h,n:=n,gz:=[] }with
    |some (.normal,s)=>nI P cf F fn s.fr s.gz .ret s.h s.n
    |some (.ret,s)=>nI P cf F fn s.fr s.gz .ret s.h s.n
    |some (.panic v,s)=>nI P cf F fn s.fr s.gz (.zM v false) s.h s.n
    |_=>mY 20
   else none
  |none=>mY 21
 |none=>mY 22
def jS:Code->Bool
 | .region _ ops _=>ops.toList.all fun o=>By o.op
 | .seq a b=>jS a&&jS b
 | .cond _ a b=>jS a&&jS b
 | .block _ c=>jS c
 | .loop c=>jS c
 | .rangeFunc ..=>false
 |_=>true
def xe:List (Nat×V)->Tr V->Option (Tr V)
 | [],t=>some t
 |(i,v)::r,t=>if i<fL then xe r (t.set i (some v))else none
def JQ:List Nat->ag->List (Nat×V)
 |i::is,v::vs=>(i,v)::JQ is vs
 |_,_=>[]
def xg(P:Program)(cf:fM)(F:Nat)(m:Nat)(args:ag)(h:Tr O)(n:Nat):Option (Ps×Tr O×Nat):=
 match h.get m with
 |some (.loop true none fr ps assign body)=>
  if m<fL/\ps.length=args.length/\jS assign=true/\jS body=true then
   match xe (JQ ps args) fr with
   |some zO=>match jb P cf F assign { fr:=zO,h:=h.set m none,n:=n,gz:=[] }with
    |some (.normal,s1)=>match jb P cf F body s1 with
     |some (.normal,s2)=>some (.ret (.bool true),s2.h.set m (some (.loop true none fr ps assign body)),s2.n)
     |some (.ret,s2)=>some (.ret (.bool false),s2.h.set m (some (.loop false (some .ret) fr ps assign body)),s2.n)
     |some (.exit id,s2)=>some (.ret (.bool false),s2.h.set m (some (.loop false (some (.exit id)) fr ps assign body)),s2.n)
     |_=>mY 51
    |_=>mY 52
   |none=>mY 53
  else mY 54
 |_=>mY 55
def call(P:Program)(F:Nat):Nat->fM
 |0=>fun _ _ _ _=>mY 23
 |k+1=>fun f args h n=>if f<P.funcs.size then enter P (call P F k) F f args h n else xg P (call P F k) F (f-P.funcs.size) args h n
def pD(l:List Oper):List Nat:=l.foldl (fun gr o=>gr++[eM gr o.after.toList]) []
section
variable(ops:Array Oper)
def uH(o:Oper):List Nat:=
 (o.op.operands.toList.filterMap fun x=>match x with | .tmp t=>some t|_=>none) ++
  (match o.guard with|some (j,_)=>(match ops[j]? with|some q=>q.dst.toList|none=>[])|none=>[])
def FT(m:List Nat)(i j:Nat):Bool:=
 match ops[i]?,ops[j]? with
 |some o,some q=>match o.dst with
  |some t=>(match q.dst with|some u=>!Nat.beq t u|none=>true) &&
    (if(uH ops q).contains t then(if i<j then dY (m.getD j 0) i else dY (m.getD i 0) j)else true)
  |none=>true
 |_,_=>true
def Pu(N:Nat):Bool:=
 let m:=pD ops.toList
 (List.range ops.size).all fun j=>match ops[j]? with
  |some o=>o.after.toList.all (fun e=>!Region.binds .any e||decide (e.on<j))&&(match o.dst with|some d=>decide (d<N)|none=>true) &&
    (List.range ops.size).all fun i=>Nat.beq i j||FT ops m i j
  |none=>true
end
def eX(N:Nat):Code->Bool
 | .region _ ops JR=>ops.toList.all (fun o=>match o.dst with|some d=>decide (d<N)|none=>true)&&(if JR then Pu ops N else true)
 | .seq a b=>eX N a&&eX N b
 | .cond _ a b=>eX N a&&eX N b
 | .block _ c=>eX N c
 | .loop c=>eX N c
 | .scope c=>eX N c
 | .rangeFunc _ ps a b=>ps.toList.all (fun p=>decide (p<N))&&(eX N a&&eX N b)
 |_=>true
structure Env where
 ι:Nat->Option (Nat×Nat)
 β:Nat->Nat
 φ:Nat->Option (Array Value)
mutual
def lq(φ:Nat->Option (Array Value)):D->Value->Prop
 | .bool b,v=>v= .bool b
 | .int k n,v=>v= .int k n
 | .str s,v=>v= .string ⟨s.toArray⟩
 | .dO n cs,v=>∃a cP vs,v= .slice a n cP/\n<=cP/\iq φ cs vs/\(n=0->cs=[])/\
    (0<n->∃b o c,a=some ⟨b,o,none⟩/\φ b=some c/\∀(j:Nat) (w:Value),vs[j]? =some w->c[o+j]? =some w)
 | .agg cs,v=>∃vs,iq φ cs vs/\v= .agg vs.toArray
def iq(φ:Nat->Option (Array Value)):ai->List Value->Prop
 | [],l=>l=[]
 |x::xs,l=>∃y ys,x.scalar=true/\lq φ x y/\iq φ xs ys/\l=y::ys
end
def yh(E:Env):Fn->Fn->Prop
 | .yield m,f'=>∃l s,E.ι m=some (l,s)/\f'= .yield l
 |f,f'=>f'=f
mutual
def dD(E:Env):V->Value->Prop
 | .bool b,v=>v= .bool b
 | .int k n,v=>v= .int k n
 | .str s,v=>v= .string ⟨s.toArray⟩
 | .ptr none,v=>v= .pointer none
 | .ptr (some (m,o)),v=>∃b s,E.ι m=some (b,s)/\v= .pointer (some ⟨b,s+o,none⟩)
 | .dj none cO cP _,v=>cO=0/\cP=0/\v= .slice none 0 0
 | .dj (some (m,o)) cO cP jx,v=>∃b s o' gj,E.ι m=some (b,s)/\(0<cP->o'=s+o)/\cO<=cP/\cP<=gj/\o'+gj*jx<=E.β b/\
    v= .slice (some ⟨b,o',none⟩) cO gj
 | .map none,v=>v= .map none
 | .map (some m),v=>∃b,E.ι m=some (b,0)/\v= .map (some b)
 | .fn f a c,v=>∃f' a' c',yh E f f'/\dI E a a'/\dI E c c'/\v= .func f' a'.toArray c'.toArray
 | .kG,v=>v= .nilFunc
 | .iface t x,v=>∃x',dD E x x'/\v= .iface t x'
 | .nilIface,v=>v= .nilIface
 | .agg cs,v=>∃cs',dI E cs cs'/\v= .agg cs'.toArray
 | .ew cs,v=>∃cs',dI E cs cs'/\v= .tuple cs'.toArray
 | .dO f n cs,v=>lq E.φ (.dO n cs) v/\(f=true->∃a,v= .slice a n n)
 | .dm cs,v=>∃b o c vs,v= .pointer (some ⟨b,o,none⟩)/\E.φ b=some c/\iq E.φ cs vs/\∀(j:Nat) (w:Value),vs[j]? =some w->c[o+j]? =some w
def dI(E:Env):ag->List Value->Prop
 | [],l=>l=[]
 |x::xs,l=>∃y ys,dD E x y/\dI E xs ys/\l=y::ys
end
structure Env.le(E E':Env):Prop where
 nm:∀m b s,E.ι m=some (b,s)->E'.ι m=some (b,s)/\E'.β b=E.β b
 fz:∀b c,E.φ b=some c->E'.φ b=some c
def GE(E:Env):Prop:=∀p∈jR,E.ι p.2=some (p.1,0)
theorem GE.mono{E E':Env}(h:GE E)(k:E.le E'):GE E':=fun p hp=>(k.nm _ _ _ (h p hp)).1
theorem Hx:∀{l:List (Nat×Nat)} {g:Nat} {v:V},Pr l g=some v->∃m,(g,m)∈l/\v= .ptr (some (m,0))
 | [],_,_,h=>by cases h
 |p::r,g,v,h=>by
  unfold Pr at h;split at h
  . rename_i hb;cases h;exact⟨p.2,aE.2 (.inl (by rw[<- aD hb])),rfl⟩
  . obtain⟨m,h1,h2⟩:=Hx h;exact⟨m,aJ _ h1,h2⟩
theorem Hy{E:Env}(h:GE E){g:Nat}{v:V}(e:Pr jR g=some v):dD E v (.pointer (some ⟨g,0,none⟩)):=by
 obtain⟨m,h1,rfl⟩:=Hx e;exact⟨g,0,h _ h1,rfl⟩
theorem Env.le_refl(E:Env):E.le E:=⟨fun _ _ _ h=>⟨h,rfl⟩,fun _ _ h=>h⟩
theorem Env.le_trans{A B C:Env}(h:A.le B)(k:B.le C):A.le C:=⟨fun m b s e=>
 ⟨(k.nm m b s (h.nm m b s e).1).1,(k.nm m b s (h.nm m b s e).1).2.trans (h.nm m b s e).2⟩,fun b c e=>k.fz b c (h.fz b c e)⟩
mutual
theorem kM{φ LZ:Nat->Option (Array Value)}(h:∀b c,φ b=some c->LZ b=some c):∀(d:D) (v:Value),lq φ d v->lq LZ d v
 | .bool _,_,r=>r
 | .int _ _,_,r=>r
 | .str _,_,r=>r
 | .dO _ cs,_,⟨a,cP,vs,e,hc,r,h0,h1⟩=>⟨a,cP,vs,e,hc,iR h cs vs r,h0,fun hn=>let⟨b,o,c,e1,e2,e3⟩:=h1 hn;⟨b,o,c,e1,h _ _ e2,e3⟩⟩
 | .agg cs,_,⟨vs,r,e⟩=>⟨vs,iR h cs vs r,e⟩
theorem iR{φ LZ:Nat->Option (Array Value)}(h:∀b c,φ b=some c->LZ b=some c):∀(d:ai) (v:List Value),iq φ d v->iq LZ d v
 | [],_,r=>r
 |x::xs,_,⟨y,ys,s,r,rs,e⟩=>⟨y,ys,s,kM h x y r,iR h xs ys rs,e⟩
end
mutual
theorem l6{E:Env}:∀(d:D) (v:Value),lq E.φ d v->dD E d.iJ v
 | .bool _,_,r=>r
 | .int _ _,_,r=>r
 | .str _,_,r=>r
 | .dO _ _,_,r=>⟨r,fun h=>by cases h⟩
 | .agg cs,_,⟨vs,r,e⟩=>⟨vs,vN cs vs r,e⟩
theorem vN{E:Env}:∀(d:ai) (v:List Value),iq E.φ d v->dI E (D.lT d) v
 | [],_,r=>r
 |x::xs,_,⟨y,ys,_,r,rs,e⟩=>⟨y,ys,l6 x y r,vN xs ys rs,e⟩
end
mutual
theorem Hz{E:Env}:∀(d:D) (v:Value),dD E d.iJ v->(∀cs,d= .agg cs->∀x∈cs,x.scalar=true)->lq E.φ d v
 | .bool _,_,r,_=>r
 | .int _ _,_,r,_=>r
 | .str _,_,r,_=>r
 | .dO _ _,_,r,_=>r.1
 | .agg cs,_,⟨vs,r,e⟩,h=>⟨vs,B8 cs vs r (h cs rfl),e⟩
theorem B8{E:Env}:∀(d:ai) (v:List Value),dI E (D.lT d) v->(∀x∈d,x.scalar=true)->iq E.φ d v
 | [],_,r,_=>r
 |x::xs,_,⟨y,ys,r,rs,e⟩,h=>⟨y,ys,h x (by simp),Hz x y r (fun cs q=>by have:=h x (by simp);rw[q]at this;cases this),B8 xs ys rs (fun z hz=>h z (by simp[hz])),e⟩
end
theorem pM{φ:Nat->Option (Array Value)}:∀{xs:ai} {ys:List Value},iq φ xs ys->ys.length=xs.length
 | [],_,r=>by simp only[iq]at r;subst r;rfl
 |_::_,_,r=>by obtain⟨y,ys,_,_,rs,rfl⟩:=r;simp[pM rs]
theorem vO{φ:Nat->Option (Array Value)}:∀{xs:ai} {ys:List Value},iq φ xs ys->∀(i:Nat) (d:D),xs[i]? =some d->∃v',ys[i]? =some v'/\d.scalar=true/\lq φ d v'
 | [],_,r,i,v,h=>by simp at h
 |x::xs,_,r,i,v,h=>by
  obtain⟨y,ys,s0,r0,rs,rfl⟩:=r;cases i with
  |zero=>simp at h;subst h;exact⟨y,by simp,s0,r0⟩
  |succ i=>simp at h;obtain⟨v',h1,h2⟩:=vO rs i v h;exact⟨v',by simpa using h1,h2⟩
theorem pO{φ:Nat->Option (Array Value)}:∀{xs:ai} {ys:List Value},xs.length=ys.length->(∀(i:Nat) (d:D),xs[i]? =some d->∃v',ys[i]? =some v'/\d.scalar=true/\lq φ d v')->iq φ xs ys
 | [],[],_,_=>rfl
 | [],_::_,h,_=>by simp at h
 |_::_,[],h,_=>by simp at h
 |x::xs,y::ys,h,r=>by
  obtain⟨v',h1,h2,h3⟩:=r 0 x (by simp);simp at h1;subst h1;exact⟨y,ys,h2,h3,pO (by simpa using h) (fun i v hi=>r (i+1) v (by simpa using hi)),rfl⟩
section
variable{φ:Nat->Option (Array Value)}{n:Nat}{xs:ai}{ys:List Value}
theorem sP(r:iq φ xs ys):iq φ (xs.take n) (ys.take n):=by
 refine pO (by simp[pM r]) fun i v h=>?_;rw[bO]at h ⊢;split at h
 . rename_i hi;rw[aG hi];exact vO r i v h
 . simp at h
theorem nV(r:iq φ xs ys):iq φ (xs.drop n) (ys.drop n):=by
 refine pO (by simp[pM r]) fun i v h=>?_;rw[bH]at h ⊢;exact vO r _ v h
end
theorem pP{φ:Nat->Option (Array Value)}:∀{xs B9:ai} {ys JS:List Value},iq φ xs ys->iq φ B9 JS->iq φ (xs++B9) (ys++JS)
 | [],_,_,_,r,r'=>by simp only[iq]at r;subst r;simpa using r'
 |x::xs,_,_,_,r,r'=>by
  obtain⟨y,ys,s0,r0,rs,rfl⟩:=r;exact⟨y,_,s0,r0,pP rs r',rfl⟩
theorem jc{φ:Nat->Option (Array Value)}:∀{xs:ai} {ys:List Value},iq φ xs ys->∀x∈xs,x.scalar=true
 | [],_,_,x,h=>by simp at h
 |a::xs,_,r,x,h=>by
  obtain⟨y,ys,s0,_,rs,_⟩:=r;rcases aE.1 h with rfl|h
  . exact s0
  . exact jc rs x h
theorem JT{d:D}(h:d.scalar=true):d.iJ.scalar=true:=by cases d<;>first|rfl|(simp[D.scalar]at h)
theorem AJ{ds:ai}(h:∀x∈ds,x.scalar=true):(D.lT ds).all V.scalar=true:=by
 rw[D.gx,bq];intro x hx;obtain⟨d,hd,rfl⟩:=bj.1 hx;exact JT (h d hd)
theorem JU{E E':Env}(h:E.le E'):∀(f f':Fn),yh E f f'->yh E' f f'
 | .yield _,_,⟨l,s,e,q⟩=>⟨l,s,(h.nm _ _ _ e).1,q⟩
 | .func _,_,r=>r
 | .method _,_,r=>r
 | .methodOf _ _,_,r=>r
 | .via _ _ _ _,_,r=>r
mutual
theorem ji{E E':Env}(h:E.le E'):∀(v:V) (v':Value),dD E v v'->dD E' v v'
 | .bool _,_,r=>r
 | .int _ _,_,r=>r
 | .str _,_,r=>r
 | .ptr none,_,r=>r
 | .ptr (some (_,_)),_,⟨b,s,e,q⟩=>⟨b,s,(h.nm _ _ _ e).1,q⟩
 | .dj none _ _ _,_,r=>r
 | .dj (some (_,_)) _ _ _,_,⟨b,s,o',gj,e,q1,q2,q3,q4,q5⟩=>⟨b,s,o',gj,(h.nm _ _ _ e).1,q1,q2,q3,(h.nm _ _ _ e).2▸q4,q5⟩
 | .map none,_,r=>r
 | .map (some _),_,⟨b,e,q⟩=>⟨b,(h.nm _ _ _ e).1,q⟩
 | .fn _ a c,_,⟨f',a',c',rf,ra,rc,q⟩=>⟨f',a',c',JU h _ _ rf,kz h a a' ra,kz h c c' rc,q⟩
 | .kG,_,r=>r
 | .iface _ x,_,⟨x',r,q⟩=>⟨x',ji h x x' r,q⟩
 | .nilIface,_,r=>r
 | .agg cs,_,⟨cs',r,q⟩=>⟨cs',kz h cs cs' r,q⟩
 | .ew cs,_,⟨cs',r,q⟩=>⟨cs',kz h cs cs' r,q⟩
 | .dO _ _ _,_,⟨r,q⟩=>⟨kM h.fz _ _ r,q⟩
 | .dm cs,_,⟨b,o,c,vs,e,e1,r,q⟩=>⟨b,o,c,vs,e,h.fz _ _ e1,iR h.fz cs vs r,q⟩
theorem kz{E E':Env}(h:E.le E'):∀(v:ag) (v':List Value),dI E v v'->dI E' v v'
 | [],_,r=>r
 |x::xs,_,⟨y,ys,r,rs,q⟩=>⟨y,ys,ji h x y r,kz h xs ys rs,q⟩
end
theorem eL{E:Env}:∀{xs:ag} {ys:List Value},dI E xs ys->ys.length=xs.length
 | [],_,r=>by simp only[dI]at r;subst r;rfl
 |_::_,_,r=>by obtain⟨y,ys,_,rs,rfl⟩:=r;simp[eL rs]
theorem gD{E:Env}:∀{xs:ag} {ys:List Value},dI E xs ys->∀(i:Nat) (v:V),xs[i]? =some v->∃v',ys[i]? =some v'/\dD E v v'
 | [],_,_,i,v,h=>by simp at h
 |x::xs,_,r,i,v,h=>by
  obtain⟨y,ys,r0,rs,rfl⟩:=r;cases i with
  |zero=>simp at h;subst h;exact⟨y,by simp,r0⟩
  |succ i=>simp at h;obtain⟨v',h1,h2⟩:=gD rs i v h;exact⟨v',by simpa using h1,h2⟩
theorem jD{E:Env}:∀{xs:ag} {ys:List Value},xs.length=ys.length->(∀(i:Nat) (v:V),xs[i]? =some v->∃v',ys[i]? =some v'/\dD E v v')->dI E xs ys
 | [],[],_,_=>rfl
 | [],_::_,h,_=>by simp at h
 |_::_,[],h,_=>by simp at h
 |x::xs,y::ys,h,r=>by
  obtain⟨v',h1,h2⟩:=r 0 x (by simp);simp at h1;subst h1;exact⟨y,ys,h2,jD (by simpa using h) (fun i v hi=>r (i+1) v (by simpa using hi)),rfl⟩
theorem iz{E:Env}:∀{xs B9:ag} {ys JS:List Value},dI E xs ys->dI E B9 JS->dI E (xs++B9) (ys++JS)
 | [],_,_,_,r,r'=>by simp only[dI]at r;subst r;simpa using r'
 |x::xs,_,_,_,r,r'=>by
  obtain⟨y,ys,r0,rs,rfl⟩:=r;exact⟨y,_,r0,iz rs r',rfl⟩
section
variable{E:Env}{n:Nat}
theorem Ca:∀{xs:ag} {ys:List Value},dI E xs ys->dI E (xs.take n) (ys.take n):=by
 intro xs ys r;refine jD (by simp[eL r]) fun i v h=>?_;rw[bO]at h ⊢;split at h
 . rename_i hi;rw[aG hi];exact gD r i v h
 . simp at h
theorem Cb:∀{xs:ag} {ys:List Value},dI E xs ys->dI E (xs.drop n) (ys.drop n):=by
 intro xs ys r;refine jD (by simp[eL r]) fun i v h=>?_;rw[bH]at h ⊢;exact gD r _ v h
theorem ig:∀{v:V} {v':Value},dD E v v'->dI E v.cells v'.cells.toList:=by
 intro v v' r;have one:∀{x:V} {y:Value},dD E x y->y.cells=#[y]->x.cells=[x]->dI E x.cells y.cells.toList:=by
  intro x y r h1 h2;rw[h1,h2];exact⟨y,[],r,rfl,rfl⟩
 cases v with
 |agg cs=>obtain⟨cs',rs,rfl⟩:=r;simpa[V.cells,Value.cells]using rs
 |bool b=>simp only[dD]at r;subst r;exact one (by simp[dD]) rfl rfl
 |int k n=>simp only[dD]at r;subst r;exact one (by simp[dD]) rfl rfl
 |str s=>simp only[dD]at r;subst r;exact one (by simp[dD]) rfl rfl
 |ptr a=>refine one r ?_ rfl;cases a<;>simp only[dD]at r;. subst r;rfl
         . obtain⟨b,s,_,rfl⟩:=r;rfl
 |dj a l c e=>refine one r ?_ rfl;cases a<;>simp only[dD]at r;. obtain⟨_,_,rfl⟩:=r;rfl
              . obtain⟨b,s,_,_,_,_,_,_,_,rfl⟩:=r;rfl
 |map a=>refine one r ?_ rfl;cases a<;>simp only[dD]at r;. subst r;rfl
         . obtain⟨b,_,rfl⟩:=r;rfl
 |fn f a c=>refine one r ?_ rfl;obtain⟨_,_,_,_,_,_,rfl⟩:=r;rfl
 |kG=>simp only[dD]at r;subst r;exact one (by simp[dD]) rfl rfl
 |iface t x=>refine one r ?_ rfl;obtain⟨_,_,rfl⟩:=r;rfl
 |nilIface=>simp only[dD]at r;subst r;exact one (by simp[dD]) rfl rfl
 |ew vs=>refine one r ?_ rfl;obtain⟨_,_,rfl⟩:=r;rfl
 |dO f n cs=>refine one r ?_ rfl;obtain⟨⟨_,_,_,rfl,_⟩,_⟩:=r;rfl
 |dm cs=>refine one r ?_ rfl;obtain⟨_,_,_,_,rfl,_⟩:=r;rfl
theorem uJ:∀{v:V} {v':Value},dD E v v'->v.scalar=true->v'.oneCell'=true:=by
 intro v v' r h;cases v with
 |agg cs=>simp[V.scalar]at h
 |ew cs=>simp[V.scalar]at h
 |bool b=>simp only[dD]at r;subst r;rfl
 |int k n=>simp only[dD]at r;subst r;rfl
 |str s=>simp only[dD]at r;subst r;rfl
 |ptr a=>cases a<;>simp only[dD]at r;. subst r;rfl
         . obtain⟨b,s,_,rfl⟩:=r;rfl
 |dj a l c e=>cases a<;>simp only[dD]at r;. obtain⟨_,_,rfl⟩:=r;rfl
              . obtain⟨b,s,_,_,_,_,_,_,_,rfl⟩:=r;rfl
 |map a=>cases a<;>simp only[dD]at r;. subst r;rfl
         . obtain⟨b,_,rfl⟩:=r;rfl
 |fn f a c=>obtain⟨_,_,_,_,_,_,rfl⟩:=r;rfl
 |kG=>simp only[dD]at r;subst r;rfl
 |iface t x=>obtain⟨_,_,rfl⟩:=r;rfl
 |nilIface=>simp only[dD]at r;subst r;rfl
 |dO f n cs=>obtain⟨⟨_,_,_,rfl,_⟩,_⟩:=r;rfl
 |dm cs=>obtain⟨_,_,_,_,rfl,_⟩:=r;rfl
end
theorem Tr.yj{α:Type}:∀(f:Nat) (t:Tr α) (k:Nat) (x:Option α) (j:Nat),k+1<2^f->(Tr.ru f t k x).get j=if j=k then x else t.get j
 |0,t,k,x,j,h=>by simp at h
 |f+1,t,k,x,j,h=>by
  have hk:∀k',k=k'+1->k'/2+1<2^f:=by intro k' e;subst e;rw[Nat.pow_succ]at h;omega
  cases t with
  |nil=>
   cases k with
   |zero=>
    cases j with
    |zero=>simp[Tr.ru,Tr.get]
    |succ j=>simp only[Tr.ru,Tr.get];rw[aI be];split<;>rfl
   |succ k=>
    have ih:=fun j=>Tr.yj f (.nil:Tr α) (k/2) x j (hk k rfl);rcases cI k with e|e
    . cases j with
      |zero=>simp[Tr.ru,Tr.get,e]
      |succ j=>
       rcases cI j with e'|e'
       . simp only[Tr.ru,e,Tr.get,e',ih];by_cases hj:j=k
         . subst hj;simp
         . rw[aI be,aI be]
       . simp only[Tr.ru,e,Tr.get,e'];rw[aI be]
    . cases j with
      |zero=>simp[Tr.ru,Tr.get,e]
      |succ j=>
       rcases cI j with e'|e'
       . simp only[Tr.ru,e,Tr.get,e'];rw[aI be]
       . simp only[Tr.ru,e,Tr.get,e',ih];by_cases hj:j=k
         . subst hj;simp
         . rw[aI be,aI be]
  |node v l r=>
   cases k with
   |zero=>cases j<;>simp[Tr.ru,Tr.get]
   |succ k=>
    have ihl:=fun j=>Tr.yj f l (k/2) x j (hk k rfl);have ihr:=fun j=>Tr.yj f r (k/2) x j (hk k rfl);rcases cI k with e|e
    . cases j with
      |zero=>simp[Tr.ru,Tr.get,e]
      |succ j=>
       rcases cI j with e'|e'
       . simp only[Tr.ru,e,Tr.get,e',ihl];by_cases hj:j=k
         . subst hj;simp
         . rw[aI be,aI be]
       . simp only[Tr.ru,e,Tr.get,e'];rw[aI be]
    . cases j with
      |zero=>simp[Tr.ru,Tr.get,e]
      |succ j=>
       rcases cI j with e'|e'
       . simp only[Tr.ru,e,Tr.get,e'];rw[aI be]
       . simp only[Tr.ru,e,Tr.get,e',ihr];by_cases hj:j=k
         . subst hj;simp
         . rw[aI be,aI be]
section
variable{α:Type}(t:Tr α){k:Nat}(x:Option α)
theorem Tr.eP(j:Nat)(h:k<fL):(t.set k x).get j=if j=k then x else t.get j:=
 Tr.yj 33 t k x j (by unfold fL at h;omega)
theorem Tr.nc(h:k<fL):(t.set k x).get k=x:=by rw[Tr.eP t x k h,aG rfl]
theorem Tr.ql{j:Nat}(x:Option α)(h:k<fL)(hj:j≠k):(t.set k x).get j=t.get j:=by rw[Tr.eP t x j h,aI hj]
end
def kI(E:Env):List (V×V×Nat)->List MapEntry->Prop
 | [],l=>l=[]
 |x::xs,l=>∃y ys,dD E x.1 y.key/\dD E x.2.1 y.val/\y.born=x.2.2/\kI E xs ys/\l=y::ys
theorem Cc{E E':Env}(h:E.le E'):∀(xs:List (V×V×Nat)) (ys:List MapEntry),kI E xs ys->kI E' xs ys
 | [],_,r=>r
 |_::xs,_,⟨y,ys,a,b,c,r,q⟩=>⟨y,ys,ji h _ _ a,ji h _ _ b,c,Cc h xs ys r,q⟩
def jT(φ:Nat->Option (Array Value)):ae->List MapEntry->Prop
 | [],l=>l=[]
 |x::xs,l=>∃y ys,lq φ x.1 y.key/\lq φ x.2 y.val/\jT φ xs ys/\l=y::ys
theorem xh{φ LZ:Nat->Option (Array Value)}(h:∀b c,φ b=some c->LZ b=some c):∀(xs:ae) (ys:List MapEntry),jT φ xs ys->jT LZ xs ys
 | [],_,r=>r
 |_::xs,_,⟨y,ys,a,b,r,q⟩=>⟨y,ys,kM h _ _ a,kM h _ _ b,xh h xs ys r,q⟩
structure jU(φ:Nat->Option (Array Value))(kd:Option IntKind)(es:ae)(fT:List MapEntry)(ek:Nat):Prop where
 row:∃l,List.Perm l es/\jT φ l fT
 keys:(es.map (·.1)).Nodup
 kind:∀e∈es,gF kd e.1=true
 old:∀e∈fT,e.born<ek
 born:(fT.map (·.born)).Nodup
theorem jU.mono{φ LZ:Nat->Option (Array Value)}(h:∀b c,φ b=some c->LZ b=some c){kd:Option IntKind}{es:ae}{fT:List MapEntry}{ek:Nat}(r:jU φ kd es fT ek):jU LZ kd es fT ek:=
 ⟨let⟨l,h1,h2⟩:=r.row;⟨l,h1,xh h _ _ h2⟩,r.keys,r.kind,r.old,r.born⟩
def nf(fz:Nat×Nat)(n:Nat):Prop:=∀i,i<n->¬(fz.1<=i/\i<fz.2)
def l7(E:Env)(s:Nat)(cs:ag)(c:Array Value):Prop:=∀(i:Nat) (v:V),cs[i]? =some v->∃v',c[s+i]? =some v'/\dD E v v'
def Pv(E:Env)(fr:Tr V)(tmps:Array Value):Prop:=∀t v,fr.get t=some v->∃v',tmps[t]? =some v'/\dD E v v'
section
variable{E E':Env}{s:Nat}
theorem vP(h:E.le E'){fr:Tr V}{a:Array Value}(r:Pv E fr a):Pv E' fr a:=fun t v e=>let⟨v',h1,h2⟩:=r t v e;⟨v',h1,ji h v v' h2⟩
def lU(E:Env)(w:World)(b s:Nat):O->Prop
 | .cells cs=>∃c el fz,w.heap[b]? =some (.cells c el fz)/\c.size=E.β b/\nf fz c.size/\l7 E s cs c
 | .map es ek=>s=0/\∃fT,w.heap[b]? =some (.map fT ek)/\kI E es fT.toList
 | .nH st pos=>s=0/\w.heap[b]? =some (.stringIter ⟨st.toArray⟩ pos)
 | .ints k ks=>∃c el fz,w.heap[b]? =some (.cells c el fz)/\c.size=E.β b/\∀(i:Nat) (x:Int),ks[i]? =some x->c[s+i]? =some (.int k x)
 | .own k ks=>∃c el fz,w.heap[b]? =some (.cells c el fz)/\c.size=E.β b/\nf fz c.size/\l7 E s (ks.map (.int k)) c
 | .deep cs=>∃c el fz vs,w.heap[b]? =some (.cells c el fz)/\c.size=E.β b/\nf fz c.size/\iq E.φ cs vs/\∀(j:Nat) (x:Value),vs[j]? =some x->c[s+j]? =some x
 | .iU el AH t=>∃c fz xs,w.heap[b]? =some (.cells c el fz)/\s=0/\c.size=E.β b/\((fz.1=fz.2\/fz.2<=t.length)/\(AH=false->fz.1=fz.2))/\eN xs=t/\∀(j:Nat) (x:Int),xs[j]? =some x->c[j]? =some (.int .u8 x)
 | .Bj t self x=>s=0/\∃x' fz,w.heap[b]? =some (.cells #[.pointer (if self then some ⟨b,0,none⟩else none),x'] t fz)/\2=E.β b/\nf fz 2/\dD E x x'
 | .dF kd es=>s=0/\∃fT ek,w.heap[b]? =some (.map fT ek)/\jU E.φ kd es fT.toList ek
 | .my=>w.heap[b]? =some (.deferred (some []))
 | .loop st pe fr ps assign body=>∃r:Loop,w.heap[b]? =some (.loop r)/\r.state=(if st then .ready else .done)/\r.pending=pe/\r.params.toList=ps/\r.assign=assign/\r.body=body/\Pv E fr r.tmps/\eX r.tmps.size assign=true/\eX r.tmps.size body=true/\∀p∈ps,p<r.tmps.size
theorem pY(h:E.le E'){s:Nat}{cs:ag}{c:Array Value}(r:l7 E s cs c):l7 E' s cs c:=
 fun i v e=>let⟨v',h1,h2⟩:=r i v e;⟨v',h1,ji h v v' h2⟩
theorem ij{w w':World}{b s:Nat}{o:O}(h:E.le E')(hb:E'.β b=E.β b)(hw:w'.heap[b]? =w.heap[b]?)(r:lU E w b s o):lU E' w' b s o:=by
 cases o with
 |cells cs=>obtain⟨c,el,fz,h1,h2,h3,h4⟩:=r;exact⟨c,el,fz,hw.trans h1,h2.trans hb.symm,h3,pY h h4⟩
 |map es ek=>obtain⟨hs,fT,h1,h2⟩:=r;exact⟨hs,fT,hw.trans h1,Cc h _ _ h2⟩
 |nH st pos=>exact⟨r.1,hw.trans r.2⟩
 |ints k ks=>obtain⟨c,el,fz,h1,h2,h3⟩:=r;exact⟨c,el,fz,hw.trans h1,h2.trans hb.symm,h3⟩
 |own k ks=>obtain⟨c,el,fz,h1,h2,h3,h4⟩:=r;exact⟨c,el,fz,hw.trans h1,h2.trans hb.symm,h3,pY h h4⟩
 |deep cs=>obtain⟨c,el,fz,vs,h1,h2,h3,h4,h5⟩:=r;exact⟨c,el,fz,vs,hw.trans h1,h2.trans hb.symm,h3,iR h.fz _ _ h4,h5⟩
 |iU el AH t=>obtain⟨c,fz,xs,h1,h0,h2,h3⟩:=r;exact⟨c,fz,xs,hw.trans h1,h0,h2.trans hb.symm,h3⟩
 |Bj t self x=>obtain⟨h0,x',fz,h1,h2,h3,h4⟩:=r;exact⟨h0,x',fz,hw.trans h1,h2.trans hb.symm,h3,ji h _ _ h4⟩
 |dF kd es=>obtain⟨hs,fT,ek,h1,h2⟩:=r;exact⟨hs,fT,ek,hw.trans h1,h2.mono h.fz⟩
 |my=>exact hw.trans r
 |loop st pe fr ps assign body=>obtain⟨r,h1,h2,h3,h4,h5,h6,h7,h8⟩:=r;exact⟨r,hw.trans h1,h2,h3,h4,h5,h6,vP h h7,h8⟩
theorem mM{k:IntKind}{ks:List Int}{c:Array Value}:l7 E s (ks.map (.int k)) c↔∀(i:Nat) (x:Int),ks[i]? =some x->c[s+i]? =some (.int k x):=by
 constructor
 . intro r i x e;obtain⟨v',h1,h2⟩:=r i (.int k x) (by rw[bt,e];rfl);simp only[dD]at h2;rw[h1,h2]
 . intro r i v e;rw[bt]at e;cases hx:ks[i]? with
   |none=>rw[hx]at e;cases e
   |some x=>
    rw[hx]at e;simp only[bh,an]at e;subst e;exact⟨_,r i x hx,rfl⟩
theorem wM{k:IntKind}{ks:List Int}{c:Array Value}(r:l7 E s (ks.map (.int k)) c):l7 E' s (ks.map (.int k)) c:=mM.2 (mM.1 r)
end
theorem pZ{k:IntKind}:∀{l:ag} {ks:List Int},oW k l=some ks->l=ks.map (.int k)
 | [],ks,h=>by simp only[oW,an]at h;subst h;rfl
 |v::r,ks,h=>by
  unfold oW at h;split at h
  . rename_i q;cases q
  . rename_i k' x r' q;cases q;split at h
    . rename_i l h1 h2;obtain rfl:=eo h;have:=aH h1;subst this;rw[pZ h2];rfl
    . cases h
  . cases h
theorem nW{E:Env}{s:Nat}{cs:ai}{c:Array Value}(hs:∀x∈cs,x.scalar=true):l7 E s (D.lT cs) c↔∃vs,iq E.φ cs vs/\∀(j:Nat) (x:Value),vs[j]? =some x->c[s+j]? =some x:=by
 constructor
 . intro r;have hg:∀i,i<cs.length->∃x,c[s+i]? =some x:=by
    intro i hi;obtain⟨v',h1,_⟩:=r i (cs[i]).iJ (by rw[D.gx,bt,ay hi];rfl);exact⟨v',h1⟩
   refine⟨(List.range cs.length).map fun i=>(c[s+i]?).getD undef,pO (by simp) fun i d hd=>?_,fun j x hx=>?_⟩
   . have hi:=(aF.1 hd).1;obtain⟨v',h1,h2⟩:=r i d.iJ (by rw[D.gx,bt,hd];rfl);refine⟨v',by simp[List.getElem?_range hi,h1],hs d (aU hd),Hz d v' h2 fun ds q=>?_⟩;have:=hs d (aU hd);rw[q]at this;cases this
   . rw[bt]at hx;by_cases hj:j<cs.length
     . rw[List.getElem?_range hj]at hx;simp only[bh,an]at hx;obtain⟨y,hy⟩:=hg j hj;rw[hy]at hx ⊢;simpa using hx
     . rw[bR (by simpa using Nat.le_of_not_lt hj)]at hx;cases hx
 . rintro⟨vs,r,hv⟩ i v hi;rw[D.gx,bt]at hi;cases hd:cs[i]? with
   |none=>rw[hd]at hi;cases hi
   |some d=>
    rw[hd]at hi;simp only[bh,an]at hi;subst hi;obtain⟨v',h1,_,h3⟩:=vO r i d hd;exact⟨v',hv i v' h1,l6 d v' h3⟩
theorem sQ:∀{l:ag} {ds:ai},ia l=some ds->∀{E:Env} {l':List Value},dI E l l'->iq E.φ ds l'
 | [],ds,h,E,l',r=>by simp only[ia,an]at h;subst h;exact r
 |x::xs,ds,h,E,l',r=>by
  simp only[ia]at h;split at h
  case h_2=>cases h
  rename_i d hd;split at h
  case h_2=>cases h
  rename_i l hl;obtain rfl:=eo h;obtain⟨y,ys,r0,rs,rfl⟩:=r;refine⟨y,ys,?_,?_,sQ hl rs,rfl⟩
  . split at hd<;>first|(cases hd;rfl)|cases hd
  . split at hd<;>first|(cases hd;first|exact r0|exact r0.1|exact⟨none,0,[],r0.2.2,aA _,rfl,fun _=>rfl,fun q=>absurd q (cF _)⟩)|cases hd
theorem uK:∀{l:ag} {ds:ai},ia l=some ds->ds.length=l.length
 | [],ds,h=>by simp only[ia,an]at h;subst h;rfl
 |x::xs,ds,h=>by
  simp only[ia]at h;split at h
  case h_2=>cases h
  split at h
  case h_2=>cases h
  rename_i l hl;obtain rfl:=eo h;simp[uK hl]
mutual
theorem FU{E:Env}:∀{x:V} {d:D},V.Pm x=some d->∀{v:Value},dD E x v->lq E.φ d v/\(x.scalar=true->d.scalar=true)
 | .bool _,d,h,v,r=>by simp only[V.Pm,an]at h;subst h;exact⟨r,fun _=>rfl⟩
 | .int _ _,d,h,v,r=>by simp only[V.Pm,an]at h;subst h;exact⟨r,fun _=>rfl⟩
 | .str _,d,h,v,r=>by simp only[V.Pm,an]at h;subst h;exact⟨r,fun _=>rfl⟩
 | .dO _ _ _,d,h,v,r=>by simp only[V.Pm,an]at h;subst h;exact⟨r.1,fun _=>rfl⟩
 | .agg cs,d,h,v,r=>by
   simp only[V.Pm]at h;split at h
   . rename_i l hl;obtain rfl:=eo h;obtain⟨vs,r,e⟩:=r;exact⟨⟨vs,HA hl r,e⟩,fun h=>by cases h⟩
   . cases h
 | .ptr _,d,h,_,_=>by cases h
 | .dj none _ _ _,d,h,v,r=>by
   simp only[V.Pm,an]at h;subst h;exact⟨⟨none,0,[],r.2.2,aA _,rfl,fun _=>rfl,fun q=>absurd q (cF _)⟩,fun _=>rfl⟩
 | .dj (some _) 0 _ _,d,h,v,r=>by
   simp only[V.Pm,an]at h;subst h;obtain⟨b,s,o',gj,_,_,_,_,_,e⟩:=r;exact⟨⟨_,gj,[],e,aZ _,rfl,fun _=>rfl,fun q=>absurd q (cF _)⟩,fun _=>rfl⟩
 | .dj (some _) (_+1) _ _,d,h,_,_=>by cases h
 | .map _,d,h,_,_=>by cases h
 | .fn _ _ _,d,h,_,_=>by cases h
 | .kG,d,h,_,_=>by cases h
 | .iface _ _,d,h,_,_=>by cases h
 | .nilIface,d,h,_,_=>by cases h
 | .ew _,d,h,_,_=>by cases h
 | .dm _,d,h,_,_=>by cases h
theorem HA{E:Env}:∀{xs:ag} {ds:ai},V.Pn xs=some ds->∀{vs:List Value},dI E xs vs->iq E.φ ds vs
 | [],ds,h,v,r=>by simp only[V.Pn,an]at h;subst h;exact r
 |x::xs,ds,h,v,r=>by
  simp only[V.Pn]at h;split at h
  case h_2=>cases h
  rename_i d hd;split at h
  case h_2=>cases h
  rename_i l hl;split at h
  case h_2=>cases h
  rename_i JV;obtain rfl:=eo h;obtain⟨y,ys,r0,rs,rfl⟩:=r;exact⟨y,ys,JV,(FU hd r0).1,HA hl rs,rfl⟩
end
theorem AK{E:Env}:∀{xs ys:ag} {l:List Value},dI E (xs++ys) l->∃l1 l2,dI E xs l1/\dI E ys l2/\l=l1++l2
 | [],_,l,r=>⟨[],l,rfl,r,rfl⟩
 |x::xs,_,l,⟨y,zs,r0,rs,e⟩=>by
  obtain⟨l1,l2,h1,h2,h3⟩:=AK rs;exact⟨y::l1,l2,⟨y,l1,r0,h1,rfl⟩,h2,by rw[e,h3];rfl⟩
def wk(xs ys:ag):Prop:=∀(E:Env) (l:List Value),dI E xs l->dI E ys l
theorem iM(xs:ag):wk xs xs:=fun _ _ r=>r
theorem zP{a b a' b':ag}(h:wk a a')(k:wk b b'):wk (a++b) (a'++b'):=fun E l r=>by
 obtain⟨l1,l2,h1,h2,rfl⟩:=AK r;exact iz (h E l1 h1) (k E l2 h2)
theorem yl{l:ag}{ds:ai}(h:ia l=some ds):wk l (D.lT ds):=fun _ _ r=>vN _ _ (sQ h r)
theorem rM{E:Env}{s:Nat}{cs:ag}{c:Array Value}:l7 E s cs c↔∃vs,dI E cs vs/\∀(j:Nat) (x:Value),vs[j]? =some x->c[s+j]? =some x:=by
 constructor
 . intro r;have hg:∀i,i<cs.length->∃x,c[s+i]? =some x:=fun i hi=>by
    obtain⟨v',h1,_⟩:=r i cs[i] (ay hi);exact⟨v',h1⟩
   refine⟨(List.range cs.length).map fun i=>(c[s+i]?).getD undef,jD (by simp) fun i d hd=>?_,fun j x hx=>?_⟩
   . have hi:=(aF.1 hd).1;obtain⟨v',h1,h2⟩:=r i d hd;exact⟨v',by simp[List.getElem?_range hi,h1],h2⟩
   . rw[bt]at hx;by_cases hj:j<cs.length
     . rw[List.getElem?_range hj]at hx;simp only[bh,an]at hx;obtain⟨y,hy⟩:=hg j hj;rw[hy]at hx ⊢;simpa using hx
     . rw[bR (by simpa using Nat.le_of_not_lt hj)]at hx;cases hx
 . rintro⟨vs,r,hv⟩ i v hi;obtain⟨v',h1,h2⟩:=gD r i v hi;exact⟨v',hv i v' h1,h2⟩
theorem yn{E:Env}{s:Nat}{xs ys:ag}{c:Array Value}(h:wk xs ys)(r:l7 E s xs c):l7 E s ys c:=by
 obtain⟨vs,h1,h2⟩:=rM.1 r;exact rM.2 ⟨vs,h E vs h1,h2⟩
def Row.sc:Row->Prop
 | .ds cs=>∀x∈cs,x.scalar=true
 |_=>True
theorem nX:∀{l:ag} {ds:ai},ia l=some ds->∀x∈ds,x.scalar=true
 | [],ds,h,x,hx=>by simp only[ia,an]at h;subst h;simp at hx
 |y::l,ds,h,x,hx=>by
  simp only[ia]at h;split at h
  case h_2=>cases h
  rename_i d hd;split at h
  case h_2=>cases h
  rename_i l' hl;obtain rfl:=eo h;rcases aE.1 hx with rfl|hx
  . split at hd<;>first|(cases hd;rfl)|cases hd
  . exact nX hl x hx
theorem Row.JW(a b:Row):wk (a.iJ++b.iJ) (a.app b).iJ:=by
 have e:∀{k:IntKind} {l:ag} {ks:List Int},oW k l=some ks->l=ks.map (.int k):=fun h=>pZ h;have hm:∀(k:IntKind) (ks:List Int),D.lT (ks.map (.int k))=ks.map (.int k):=fun k ks=>by rw[D.gx,List.map_map];rfl
 have ha:∀(x y:ai),D.lT (x++y)=D.lT x++D.lT y:=fun x y=>by rw[D.gx,D.gx,D.gx,aX]
 cases a<;>cases b<;>simp only[Row.app]
 . exact iM _
 . rename_i cs k ks;split
   . rename_i l h;simp only[Row.iJ,e h,aX];exact iM _
   . exact iM _
 . rename_i cs ds;split
   . rename_i l h;simp only[Row.iJ,ha];exact zP (yl h) (iM _)
   . exact iM _
 . rename_i k ks cs;split
   . rename_i l h;simp only[Row.iJ,e h,aX];exact iM _
   . exact iM _
 . rename_i k ks k' Xi;split
   . rename_i h;have:=aH h;subst this;simp only[Row.iJ,aX];exact iM _
   . exact iM _
 . simp only[Row.iJ,ha,hm];exact iM _
 . rename_i cs ds;split
   . rename_i l h;simp only[Row.iJ,ha];exact zP (iM _) (yl h)
   . exact iM _
 . simp only[Row.iJ,ha,hm];exact iM _
 . simp only[Row.iJ,ha];exact iM _
theorem Row.JX{a b:Row}(h:a.sc)(k:b.sc):(a.app b).sc:=by
 have hi:∀(k:IntKind) (ks:List Int),∀x∈ks.map (D.int k),x.scalar=true:=fun k ks x hx=>by
  obtain⟨n,_,rfl⟩:=bj.1 hx;rfl
 have ap:∀{x y:ai},(∀z∈x,z.scalar=true)->(∀z∈y,z.scalar=true)->∀z∈x++y,z.scalar=true:=fun h k z hz=>(aT.1 hz).elim (h z) (k z);cases a<;>cases b<;>simp only[Row.app]<;>first|trivial|skip
 . split<;>trivial
 . split
   . rename_i l hl;exact ap (nX hl) k
   . trivial
 . split<;>trivial
 . split<;>trivial
 . exact ap (hi _ _) k
 . split
   . rename_i l hl;exact ap h (nX hl)
   . trivial
 . exact ap h (hi _ _)
 . exact ap h k
theorem Row.Pw{o size:Nat}{r r':Row}(h:r.cut o size=some r')(k:r.sc):r'.sc:=by
 cases r with
 |vs cs=>simp only[Row.cut]at h;split at h<;>first|(cases h;trivial)|cases h
 |is k ks=>simp only[Row.cut]at h;split at h<;>first|(cases h;trivial)|cases h
 |ds cs=>
  simp only[Row.cut]at h;split at h
  . cases h;exact fun x hx=>k x (List.mem_of_mem_drop (List.mem_of_mem_take hx))
  . cases h
theorem Row.FV{o size:Nat}{r r':Row}(h:r.cut o size=some r'):Eng.cut r.iJ o size=some r'.iJ:=by
 cases r with
 |vs cs=>
  simp only[Row.cut]at h;split at h
  . rename_i q;obtain rfl:=eo h;exact q
  . cases h
 |is k ks=>
  simp only[Row.cut]at h;split at h
  . rename_i q;obtain rfl:=eo h;simp only[Eng.cut,Row.iJ,aY,aG q,cL,List.map_drop]
  . cases h
 |ds cs=>
  simp only[Row.cut]at h;split at h
  . rename_i q;obtain rfl:=eo h;simp only[Eng.cut,Row.iJ,D.gx,aY,aG q,cL,List.map_drop]
  . cases h
section
variable{h:Tr O}{E:Env}{w:World}{n m b s:Nat}{x:Option O}
theorem Row.Px{r:Row}(h:r.flat=true)(k:r.sc):r.iJ.all V.scalar=true:=by
 cases r with
 |vs cs=>exact h
 |is k ks=>simp[Row.iJ,V.scalar]
 |ds cs=>exact AJ k
theorem HB{o:O}{r:Row}(h:o.row=some r)(q:lU E w b s o):(∃c el fz,w.heap[b]? =some (.cells c el fz)/\c.size=E.β b/\nf fz c.size/\l7 E s r.iJ c)/\r.sc:=by
 cases o<;>simp only[O.row,an,reduceCtorEq]at h<;>subst h
 . exact⟨q,trivial⟩
 . exact⟨q,trivial⟩
 . obtain⟨c,el,fz,vs,h1,h2,h3,h4,h5⟩:=q;exact⟨⟨c,el,fz,h1,h2,h3,(nW (jc h4)).2 ⟨vs,h4,h5⟩⟩,jc h4⟩
theorem Np{o:O}{r:Row}(h:o.Nl=some r)(q:lU E w b s o):(∃c el fz,w.heap[b]? =some (.cells c el fz)/\c.size=E.β b/\l7 E s r.iJ c)/\r.sc:=by
 cases o<;>simp only[O.Nl,an,reduceCtorEq]at h<;>subst h
 . obtain⟨c,el,fz,h1,h2,_,h4⟩:=q;exact⟨⟨c,el,fz,h1,h2,h4⟩,trivial⟩
 . obtain⟨c,el,fz,h1,h2,h3⟩:=q;exact⟨⟨c,el,fz,h1,h2,mM.2 h3⟩,trivial⟩
 . obtain⟨c,el,fz,h1,h2,_,h4⟩:=q;exact⟨⟨c,el,fz,h1,h2,h4⟩,trivial⟩
 . obtain⟨c,el,fz,vs,h1,h2,h3,h4,h5⟩:=q;exact⟨⟨c,el,fz,h1,h2,(nW (jc h4)).2 ⟨vs,h4,h5⟩⟩,jc h4⟩
theorem yo{r:Row}(q:∃c el fz,w.heap[b]? =some (.cells c el fz)/\c.size=E.β b/\nf fz c.size/\l7 E s r.iJ c)(k:r.sc):lU E w b s r.EA:=by
 cases r with
 |ds cs=>
  obtain⟨c,el,fz,h1,h2,h3,h4⟩:=q;obtain⟨vs,h5,h6⟩:=(nW k).1 h4;exact⟨c,el,fz,vs,h1,h2,h3,h5,h6⟩
 |_=>exact q
theorem Py{o:O}{r:Row}(h:o.row=some r):o.wr=true:=by cases o<;>simp[O.row]at h<;>rfl
def eC(h:Tr O)(m:Nat):Prop:=∃o,h.get m=some o/\o.wr=true
theorem Pz{h':Tr O}{m n:Nat}(e:h.get m=h'.get n)(k:eC h m):eC h' n:=by obtain⟨o,a,b⟩:=k;exact⟨o,e.symm.trans a,b⟩
theorem rO(hn:n<fL):eC (h.set n x) m->(m=n/\∃o,x=some o/\o.wr=true)\/(m≠n/\eC h m):=by
 rintro⟨o,e,k⟩;rw[Tr.eP _ _ _ hn]at e;split at e
 . rename_i q;exact .inl ⟨q,o,e,k⟩
 . rename_i q;exact .inr ⟨q,o,e,k⟩
theorem oC(hn:n<fL)(k:eC (h.set n x) m)(q:m≠n):eC h m:=
 (rO hn k).elim (fun c=>absurd c.1 q) (·.2)
theorem eC.live(k:eC h m):h.get m≠none:=by obtain⟨o,e,_⟩:=k;rw[e];simp
end
structure Good(E:Env)(h:Tr O)(w:World):Prop where
 rel:∀m o,h.get m=some o->∃b s,E.ι m=some (b,s)/\lU E w b s o
 inj:∀m m' b s s',m≠m'->eC h m->h.get m'≠none->E.ι m=some (b,s)->E.ι m'=some (b,s')->False
 mW:∀m b s,E.ι m=some (b,s)->b<w.heap.size
 jj:GE E
 gP:∀b c,E.φ b=some c->(∃el fz,w.heap[b]? =some (.cells c el fz))/\∀m s,eC h m->E.ι m≠some (b,s)
structure ir(E:Env)(h:Tr O)(w:World)(E':Env)(h':Tr O)(w':World):Prop where
 le:E.le E'
 good:Good E' h' w'
 size:w.heap.size<=w'.heap.size
 tape:w'.tape=w.tape
 os:w'.os=w.os
 output:w'.output=w.output
 keep:∀b,b<w.heap.size->(∀m s,eC h m->E.ι m≠some (b,s))->w'.heap[b]? =w.heap[b]?
 sR:∀m b s,h'.get m≠none->E'.ι m=some (b,s)->b<w.heap.size->∃m0 s0,h.get m0≠none/\E.ι m0=some (b,s0)/\(eC h' m->eC h m0)
 DV:∀b c,E'.φ b=some c->E.φ b=some c\/w.heap.size<=b\/∃m s,eC h m/\E.ι m=some (b,s)
theorem ir.refl{E:Env}{h:Tr O}{w:World}(g:Good E h w):ir E h w E h w:=
 ⟨E.le_refl,g,aA _,rfl,rfl,rfl,fun _ _ _=>rfl,fun m _ s hm e _=>⟨m,s,hm,e,id⟩,fun _ _ q=>.inl q⟩
theorem ir.trans{E E1 E2:Env}{h h1 h2:Tr O}{w w1 w2:World}(a:ir E h w E1 h1 w1)(b:ir E1 h1 w1 E2 h2 w2):ir E h w E2 h2 w2 where
 le:=Env.le_trans a.le b.le
 good:=b.good
 size:=bV a.size b.size
 tape:=b.tape.trans a.tape
 os:=b.os.trans a.os
 output:=b.output.trans a.output
 keep:=fun x hx hn=>by
  rw[b.keep x (bE hx a.size) ?_,a.keep x hx hn];intro m s hm e;obtain⟨m0,s0,h0,e0,k0⟩:=a.sR m x s hm.live e hx;exact hn m0 s0 (k0 hm) e0
 sR:=fun m x s hm e hx=>by
  obtain⟨m1,s1,mz,e1,k1⟩:=b.sR m x s hm e (bE hx a.size);obtain⟨m2,s2,h2,e2,k2⟩:=a.sR m1 x s1 mz e1 hx;exact⟨m2,s2,h2,e2,fun q=>k2 (k1 q)⟩
 DV:=fun x c hc=>by
  rcases b.DV x c hc with q|q|⟨m,s,q1,q2⟩
  . exact a.DV x c q
  . exact .inr (.inl (bV a.size q))
  . rcases bP x w.heap.size with hx|hx
    . obtain⟨m0,s0,_,e0,k0⟩:=a.sR m x s q1.live q2 hx;exact .inr (.inr ⟨m0,s0,k0 q1,e0⟩)
    . exact .inr (.inl hx)
theorem Good.same{E:Env}{h:Tr O}{w w':World}(g:Good E h w)(e:w'.heap=w.heap):Good E h w' where
 rel:=fun m o hm=>let⟨b,s,h1,h2⟩:=g.rel m o hm;⟨b,s,h1,ij E.le_refl rfl (by rw[e]) h2⟩
 inj:=g.inj
 mW:=fun m b s h=>by rw[e];exact g.mW m b s h
 jj:=g.jj
 gP:=fun b c q=>⟨by rw[e];exact(g.gP b c q).1,(g.gP b c q).2⟩
theorem ir.drew{E:Env}{h:Tr O}{w:World}(g:Good E h w):ir E h w E h w.drew:=
 ⟨E.le_refl,g.same rfl,aA _,rfl,rfl,rfl,fun _ _ _=>rfl,fun m _ s hm e _=>⟨m,s,hm,e,id⟩,fun _ _ q=>.inl q⟩
def Env.put(E:Env)(n b s z:Nat):Env:={ ι:=fun m=>if m=n then some (b,s)else E.ι m,β:=fun x=>if x=b then z else E.β x,φ:=E.φ }
section
variable{E:Env}{w:World}{n:Nat}{o:Obj}{b s z:Nat}
theorem Env.fa:(E.put n b s z).ι n=some (b,s):=by simp[Env.put]
theorem Env.fA{m:Nat}(h:m≠n):(E.put n b s z).ι m=E.ι m:=by simp[Env.put,h]
theorem Env.rz(hn:E.ι n=none)(hb:∀m x t,E.ι m=some (x,t)->x=b->E.β b=z):E.le (E.put n b s z):=by
 refine⟨?_,fun _ _ h=>h⟩;intro m x t e;have:m≠n:=by intro h;rw[h,hn]at e;simp at e
 refine⟨by rw[Env.fA this];exact e,?_⟩;show(if x=b then z else E.β x)=E.β x;split
 . rename_i h;rw[<- hb m x t e h,h]
 . rfl
theorem jI(h:b<w.heap.size):(w.alloc o).heap[b]? =w.heap[b]?:=by
 simp only[World.alloc,Array.getElem?_push];rw[aI be]
theorem heap_alloc_new:(w.alloc o).heap[w.heap.size]? =some o:=by
 simp only[World.alloc,Array.getElem?_push,if_true]
end
def jV:Obj->Nat
 | .cells c _ _=>c.size
 |_=>0
theorem ir.alloc{E:Env}{h:Tr O}{w:World}{n:Nat}{o:O}{ob:Obj}(g:Good E h w)(hn:E.ι n=none)(ht:n<fL)
  (ho:lU (E.put n w.heap.size 0 (jV ob)) (w.alloc ob) w.heap.size 0 o):
  ir E h w (E.put n w.heap.size 0 (jV ob)) (h.set n (some o)) (w.alloc ob):=by
 have uL:∀m b s,E.ι m=some (b,s)->b≠w.heap.size:=fun m b s e hb=>by have:=g.mW m b s e;omega
 have kE:E.le (E.put n w.heap.size 0 (jV ob)):=Env.rz hn fun m x t e hx=>absurd hx (uL m x t e);have Bz:∀b c,E.φ b=some c->b<w.heap.size:=fun b c q=>by
  obtain⟨⟨el,fz,e⟩,_⟩:=g.gP b c q;exact(aQ.1 e).1
 refine⟨kE,⟨?_,?_,?_,g.jj.mono kE,fun b c q=>⟨by rw[jI (Bz b c q)];exact(g.gP b c q).1,fun m s hm e=>?_⟩⟩,by simp,rfl,rfl,rfl,fun b hb _=>jI hb,?_,fun _ _ q=>.inl q⟩
 case refine_4=>
  by_cases a:m=n
  . subst a;rw[Env.fa]at e;cases e;exact absurd (Bz _ c q) (cF _)
  . rw[Env.fA a]at e;exact(g.gP b c q).2 m s (oC ht hm a) e
 . intro m o' hm;rw[Tr.eP _ _ _ ht]at hm;by_cases e:m=n
   . subst e;rw[aG rfl]at hm;cases hm;exact⟨_,_,Env.fa,ho⟩
   . rw[aI e]at hm;obtain⟨b,s,h1,h2⟩:=g.rel m o' hm;exact⟨b,s,by rw[Env.fA e];exact h1,ij kE (kE.nm m b s h1).2 (jI (g.mW m b s h1)) h2⟩
 . intro m m' b s s' fN hm sU e e';rw[Tr.eP _ _ _ ht]at sU;by_cases a:m=n
   . subst a;rw[Env.fa]at e;have:m'≠m:=fun x=>fN x.symm;rw[Env.fA this]at e';cases e;exact uL _ _ _ e' rfl
   . rw[Env.fA a]at e;replace hm:eC h m:=oC ht hm a;by_cases a':m'=n
     . subst a';rw[Env.fa]at e';cases e';exact uL _ _ _ e rfl
     . rw[Env.fA a']at e';rw[aI a']at sU;exact g.inj m m' b s s' fN hm sU e e'
 . intro m b s e;by_cases a:m=n
   . subst a;rw[Env.fa]at e;cases e;simp
   . rw[Env.fA a]at e;have:=g.mW m b s e;simp;omega
 . intro m b s hm e hb;by_cases a:m=n
   . subst a;rw[Env.fa]at e;cases e;omega
   . rw[Env.fA a]at e;rw[Tr.eP _ _ _ ht,aI a]at hm;exact⟨m,s,hm,e,fun q=>oC ht q a⟩
section
variable{E:Env}{h h':Tr O}{w w':World}{m b s:Nat}{o:O}
theorem ir.write(g:Good E h w)(ht:m<fL)(iu:eC h m)(hm:E.ι m=some (b,s))
  (EB:w'.heap.size=w.heap.size) (HC:w'.tape=w.tape) (hos:w'.os=w.os) (oZ:w'.output=w.output)
  (qm:∀x,x≠b->w'.heap[x]? =w.heap[x]?) (ho:lU E w' b s o):ir E h w E (h.set m (some o)) w':=by
 refine⟨E.le_refl,⟨?_,?_,?_,g.jj,fun b' c q=>⟨?_,fun k t hk e=>?_⟩⟩,be,HC,hos,oZ,?_,?_,fun _ _ q=>.inl q⟩
 case refine_4=>rw[qm b' fun e=>(g.gP b' c q).2 m s iu (e▸hm)];exact(g.gP b' c q).1
 case refine_5=>
  rcases rO ht hk with⟨a,_⟩|a
  . exact(g.gP b' c q).2 m t iu (a▸e)
  . exact(g.gP b' c q).2 k t a.2 e
 . intro k o' hk;rw[Tr.eP _ _ _ ht]at hk;by_cases e:k=m
   . subst e;rw[aG rfl]at hk;cases hk;exact⟨b,s,hm,ho⟩
   . rw[aI e]at hk;obtain⟨b',s',h1,h2⟩:=g.rel k o' hk;have fN:b'≠b:=by
      intro hb;subst hb;exact g.inj m k b' s s' (fun q=>e q.symm) iu (by rw[hk];simp) hm h1
     exact⟨b',s',h1,ij E.le_refl rfl (qm b' fN) h2⟩
 . intro k k' x t t' fN hk uo e e';refine g.inj k k' x t t' fN ?_ ?_ e e'
   . rcases rO ht hk with⟨q,_⟩|q
     . rw[q];exact iu
     . exact q.2
   . rw[Tr.eP _ _ _ ht]at uo;split at uo
     . rename_i q;rw[q];exact iu.live
     . exact uo
 . intro k x t e;rw[EB];exact g.mW k x t e
 . intro x _ hn;refine qm x ?_;intro hx;subst hx;exact hn m s iu hm
 . intro k x t hk e _;by_cases q:k=m
   . subst q;exact⟨k,t,iu.live,e,fun _=>iu⟩
   . rw[Tr.eP _ _ _ ht,aI q]at hk;exact⟨k,t,hk,e,fun c=>oC ht c q⟩
theorem ir.move{n b s s':Nat}{o:O}(g:Good E h w)(ht:m<fL)(hn:n<fL)(sV:E.ι n=none)(iu:eC h m)(hm:E.ι m=some (b,s))
  (EB:w'.heap.size=w.heap.size) (HC:w'.tape=w.tape) (hos:w'.os=w.os) (oZ:w'.output=w.output)
  (qm:∀x,x≠b->w'.heap[x]? =w.heap[x]?) (ho:lU (E.put n b s' (E.β b)) w' b s' o):
  ir E h w (E.put n b s' (E.β b)) ((h.set m none).set n (some o)) w':=by
 have PA:m≠n:=by intro e;rw[e,sV]at hm;simp at hm
 have kE:E.le (E.put n b s' (E.β b)):=Env.rz sV fun _ _ _ _ _=>rfl;have kJ:∀k,((h.set m none).set n (some o)).get k=if k=n then some o else if k=m then none else h.get k:=by
  intro k;rw[Tr.eP _ _ _ hn];split
  . rfl
  . rw[Tr.eP _ _ _ ht]
 have ue:∀k,eC ((h.set m none).set n (some o)) k->k=n\/(k≠n/\k≠m/\eC h k):=by
  intro k q;rcases rO hn q with q|q
  . exact .inl q.1
  . rcases rO ht q.2 with c|c
    . obtain⟨_,_,c,_⟩:=c;cases c
    . exact .inr ⟨q.1,c.1,c.2⟩
 refine⟨kE,⟨?_,?_,?_,g.jj.mono kE,fun b2 c q=>⟨?_,fun k t hk e=>?_⟩⟩,be,HC,hos,oZ,?_,?_,fun _ _ q=>.inl q⟩
 case refine_4=>rw[qm b2 fun e=>(g.gP b2 c q).2 m s iu (e▸hm)];exact(g.gP b2 c q).1
 case refine_5=>
  rcases ue k hk with a|⟨a,_,a2⟩
  . subst a;rw[Env.fa]at e;cases e;exact(g.gP _ c q).2 m s iu hm
  . rw[Env.fA a]at e;exact(g.gP b2 c q).2 k t a2 e
 . intro k o' hk;rw[kJ]at hk;by_cases e:k=n
   . subst e;rw[aG rfl]at hk;cases hk;exact⟨_,_,Env.fa,ho⟩
   . rw[aI e]at hk;by_cases e2:k=m
     . rw[aG e2]at hk;cases hk
     . rw[aI e2]at hk;obtain⟨b',t,h1,h2⟩:=g.rel k o' hk;have fN:b'≠b:=by
        intro hb;subst hb;exact g.inj m k b' s t (fun q=>e2 q.symm) iu (by rw[hk];simp) hm h1
       exact⟨b',t,by rw[Env.fA e];exact h1,ij kE (kE.nm k b' t h1).2 (qm b' fN) h2⟩
 . intro k k' x t t' fN hk uo e e';rw[kJ]at uo;rcases ue k hk with a|⟨a,c,O8⟩
   . subst a;rw[Env.fa]at e;cases e;have a':k'≠k:=fun q=>fN q.symm;rw[Env.fA a']at e';rw[aI a']at uo;by_cases c:k'=m
     . rw[aG c]at uo;exact uo rfl
     . rw[aI c]at uo;exact g.inj m k' b s t' (fun q=>c q.symm) iu uo hm e'
   . rw[Env.fA a]at e;by_cases a':k'=n
     . subst a';rw[Env.fa]at e';cases e';exact g.inj m k b s t (fun q=>c q.symm) iu O8.live hm e
     . rw[Env.fA a']at e';rw[aI a']at uo;by_cases c':k'=m
       . rw[aG c']at uo;exact uo rfl
       . rw[aI c']at uo;exact g.inj k k' x t t' fN O8 uo e e'
 . intro k x t e;by_cases a:k=n
   . subst a;rw[Env.fa]at e;cases e;rw[EB];exact g.mW m b s hm
   . rw[Env.fA a]at e;rw[EB];exact g.mW k x t e
 . intro x _ hx;refine qm x ?_;intro q;subst q;exact hx m s iu hm
 . intro k x t hk e _;rw[kJ]at hk;by_cases a:k=n
   . subst a;rw[Env.fa]at e;cases e;exact⟨m,s,iu.live,hm,fun _=>iu⟩
   . rw[Env.fA a]at e;rw[aI a]at hk;by_cases c:k=m
     . rw[aG c]at hk;exact absurd rfl hk
     . rw[aI c]at hk;exact⟨k,t,hk,e,fun q=>(ue k q).elim (fun c=>absurd c a) (·.2.2)⟩
theorem ng(hs:∀m o,h'.get m=some o->h.get m=some o){m:Nat}(k:h'.get m≠none):h.get m≠none:=by
 cases q:h'.get m with
 |none=>exact absurd q k
 |some o=>rw[hs m o q];simp
theorem gw(hs:∀m o,h'.get m=some o->h.get m=some o){m:Nat}(k:eC h' m):eC h m:=by
 obtain⟨o,a,b⟩:=k;exact⟨o,hs m o a,b⟩
theorem Good.sub(g:Good E h w)(hs:∀m o,h'.get m=some o->h.get m=some o):Good E h' w where
 rel:=fun m o hm=>g.rel m o (hs m o hm)
 inj:=fun m m' b s s' fN hm sU e e'=>g.inj m m' b s s' fN (gw hs hm) (ng hs sU) e e'
 mW:=g.mW
 jj:=g.jj
 gP:=fun b c q=>⟨(g.gP b c q).1,fun m s hm=>(g.gP b c q).2 m s (gw hs hm)⟩
theorem ir.forget(g:Good E h w)(ht:m<fL):ir E h w E (h.set m none) w:=by
 have hs:∀k o,(h.set m none).get k=some o->h.get k=some o:=by
  intro k o hk;rw[Tr.eP _ _ _ ht]at hk;split at hk
  . cases hk
  . exact hk
 exact⟨E.le_refl,g.sub hs,aA _,rfl,rfl,rfl,fun _ _ _=>rfl,fun k b s hk e _=>⟨k,s,ng hs hk,e,gw hs⟩,fun _ _ q=>.inl q⟩
theorem Addr.iX(b o n:Nat):(⟨b,o,none⟩:Addr).add n=⟨b,o+n,none⟩:=by
 unfold Addr.add;split
 . rename_i h;subst h;rfl
 . rfl
theorem nh{i:Nat}{c:Array Value}{el:TypeId}{fz:Nat×Nat}(h:w.heap[b]? =some (.cells c el fz)):w.cell? ⟨b,i,none⟩=c[i]?:=by
 simp[World.cell?,h]
end
theorem run_loadCellsFrom{P:Program}{w:World}{b o:Nat}{c:Array Value}{el:TypeId}{fz:Nat×Nat}(h:w.heap[b]? =some (.cells c el fz)):
  ∀(n i:Nat) (gr:Array Value),o+i+n<=c.size->(loadCellsFrom ⟨b,o,none⟩ i n gr).run P w= .ok (gr++((c.toList.drop (o+i)).take n).toArray) w
 |0,i,gr,_=>by simp[loadCellsFrom]
 |n+1,i,gr,hn=>by
  have fF:o+i<c.size:=by omega
  simp only[loadCellsFrom,Sem.run_bind,run_load,Addr.iX,nh h];rw[bn fF];simp only[Result.andThen_ok];rw[run_loadCellsFrom h n (i+1) _ be];congr 1;have hd:c.toList.drop (o+i)=c[o+i]::c.toList.drop (o+(i+1)):=by
   rw[bF (by simpa using fF)];simp[cC]
  rw[hd];simp
theorem run_loadCells{P:Program}{w:World}{b o n:Nat}{c:Array Value}{el:TypeId}{fz:Nat×Nat}(h:w.heap[b]? =some (.cells c el fz))(hn:o+n<=c.size):
  (loadCells ⟨b,o,none⟩ n).run P w= .ok ((c.toList.drop o).take n).toArray w:=by
 unfold loadCells;rw[run_loadCellsFrom h n 0 #[] be];simp
def putCells(c:Array Value)(o:Nat)(vs:List Value):Array Value:=(c.toList.take o++(vs++c.toList.drop (o+vs.length))).toArray
theorem jJ{c:Array Value}{o:Nat}{vs:List Value}(h:o+vs.length<=c.size):(putCells c o vs).size=c.size:=by
 simp[putCells];omega
theorem ni{c:Array Value}{o:Nat}{vs:List Value}(h:o+vs.length<=c.size)(j:Nat):
  (putCells c o vs)[j]? =if o<=j/\j<o+vs.length then vs[j-o]? else c[j]?:=by
 simp only[putCells,List.getElem?_toArray];rw[bT];have hl:(List.take o c.toList).length=o:=by simp;omega
 rw[hl];by_cases h1:j<o
 . rw[aG h1,aI be,bO,aG h1];simp
 . rw[aI h1,bT];by_cases h2:j<o+vs.length
   . rw[aG be,aG be]
   . rw[aI be,aI be,bH];simp;congr 1;omega
theorem rC{c:Array Value}{o:Nat}{v:Value}{vs:List Value}(h:o+(vs.length+1)<=c.size):
  putCells (c.setIfInBounds o v) (o+1) vs=putCells c o (v::vs):=by
 have e1:o+1+vs.length<=(c.setIfInBounds o v).size:=by simp;omega
 have e2:o+(v::vs).length<=c.size:=by simpa using h
 apply Array.ext
 . rw[jJ e1,jJ e2];simp
 . intro j h1 h2;have:(putCells (c.setIfInBounds o v) (o+1) vs)[j]? =(putCells c o (v::vs))[j]?:=by
    rw[ni e1,ni e2];by_cases a:j=o
    . subst a;rw[aI be,aG (by simp)];have hj:j<c.size:=by omega
      simp[hj]
    . by_cases b:o+1<=j/\j<o+1+vs.length
      . rw[aG b,aG (by simp;omega)];have:j-o=(j-(o+1))+1:=by omega
        rw[this];simp
      . rw[aI b,aI (by simp;omega)];rw[Array.getElem?_setIfInBounds];rw[aI (fun q=>a q.symm)]
   rw[bn h1,bn h2]at this;exact ct this
theorem nj{P:Program}{b o:Nat}{el:TypeId}{fz:Nat×Nat}:∀(vs:List Value) (i:Nat) (w:World) (c:Array Value),w.heap[b]? =some (.cells c el fz)->
  nf fz c.size->(∀v∈vs,v.oneCell'=true)->o+i+vs.length<=c.size->
  ∃w',(storeCells ⟨b,o,none⟩ vs i).run P w= .ok () w'/\w'.heap[b]? =some (.cells (putCells c (o+i) vs) el fz)/\w'.heap.size=w.heap.size/\w'.tape=w.tape/\w'.os=w.os/\w'.output=w.output/\
   ∀x,x≠b->w'.heap[x]? =w.heap[x]?
 | [],i,w,c,h,_,_,hn=>by
   refine⟨w,rfl,?_,rfl,rfl,rfl,rfl,fun _ _=>rfl⟩;rw[h];have:putCells c (o+i) []=c:=by simp[putCells]
   rw[this]
 |v::vs,i,w,c,h,hf,hv,hn=>by
  simp only[aS]at hn;have fF:o+i<c.size:=by omega
  have hnf:w.frozen? ⟨b,o+i,none⟩=false:=by
   have:=hf (o+i) fF;simp only[World.frozen?,h];simpa using this
  let w1:=w.setCell ⟨b,o+i,none⟩ v
  have Hi:w1.heap[b]? =some (.cells (c.setIfInBounds (o+i) v) el fz):=by
   simp[w1,World.setCell,cm,h]
  obtain⟨w',e1,e2,e3,e4,e5,e6,e7⟩:=nj (P:=P) (o:=o) vs (i+1) w1 (c.setIfInBounds (o+i) v) Hi (by simpa using hf) (fun v hv'=>hv v (by simp[hv'])) (by simp only[Array.size_setIfInBounds];omega);refine⟨w',?_,?_,by rw[e3];simp[w1],by rw[e4];rfl,by rw[e5];rfl,by rw[e6];rfl,?_⟩
  . simp only[storeCells,Sem.run_bind];rw[run_store P w _ v .plain (hv v (by simp)),Addr.iX,nh h,bn fF];simp only[hnf,aO,cG,Result.andThen_ok];exact e1
  . rw[e2];have:o+(i+1)=o+i+1:=by omega
    rw[this,rC be]
  . intro x hx;rw[e7 x hx];simp[w1,World.setCell,cm,Ne.symm hx]
theorem sW{E:Env}:∀{v:Value} {x:V},iC v=some x->dD E x v:=by
 intro v x h;cases v with
 |bool b=>simp only[iC,an]at h;subst h;rfl
 |int k n=>simp only[iC,an]at h;subst h;rfl
 |string s=>
  simp only[iC,an]at h;subst h;show Value.string s= .string ⟨s.data.toList.toArray⟩;rw[Array.toArray_toList]
 |pointer a=>cases a<;>simp only[iC,an]at h;. subst h;rfl
             . cases h
 |slice a l c=>
  cases a with
  |none=>match l,c,h with
   |0,0,h=>simp only[iC,an]at h;subst h;exact⟨rfl,rfl,rfl⟩
  |some a=>simp[iC]at h
 |map a=>cases a<;>simp only[iC,an]at h;. subst h;rfl
         . cases h
 |nilFunc=>simp only[iC,an]at h;subst h;rfl
 |nilIface=>simp only[iC,an]at h;subst h;rfl
 |_=>simp[iC]at h
theorem wN{E:Env}:∀{vs:List Value} {xs:ag},nP vs=some xs->dI E xs vs
 | [],xs,h=>by simp only[nP,an]at h;subst h;rfl
 |v::vs,xs,h=>by
  simp only[nP]at h;cases h1:iC v with
  |none=>simp[h1]at h
  |some x=>cases h2:nP vs with
   |none=>simp[h1,h2]at h
   |some r=>simp only[h1,h2,an]at h;subst h;exact⟨v,vs,sW h1,wN h2,rfl⟩
theorem zQ{E:Env}{v:Value}{x:V}(h:LW v=some x):dD E x v:=by
 unfold LW at h;split at h
 . rename_i cs;cases h1:nP cs.toList with
   |none=>simp[h1]at h
   |some r=>simp only[h1,an]at h;subst h;exact⟨cs.toList,wN h1,by simp⟩
 . exact sW h
section runs
variable{P:Program}{w:World}
section
variable{t:TypeId}
theorem dr{d:TypeDesc}(h:P.underlying t=some d):(underlying t).run P w= .ok d w:=by simp[underlying,h]
theorem eY{s:Nat}(h:kQ P t=some s):(sizeOf t).run P w= .ok s w:=by
 unfold kQ at h;cases hi:P.info? t with
 |none=>simp[hi]at h
 |some i=>simp[hi]at h;simp[sizeOf,typeInfo,hi,h]
theorem l8{z:V}(E:Env)(h:zeroOf P t=some z):∃z',(zeroValue t).run P w= .ok z' w/\dD E z z'/\(∃i,P.info? t=some i/\i.zero=some z'):=by
 unfold zeroOf at h;cases hi:P.info? t with
 |none=>simp[hi]at h
 |some i=>
  simp only[hi]at h;cases hz:i.zero with
  |none=>simp[hz]at h
  |some v=>simp only[hz]at h;exact⟨v,by simp[zeroValue,typeInfo,hi,hz],zQ h,i,rfl,hz⟩
theorem rP{b:Bool}(h:Nk P t=some b):(isAgg t).run P w= .ok b w:=by
 unfold Nk at h;split at h
 . rename_i hu;simp at h;subst h;simp[isAgg,dr hu]
 . rename_i hu;simp at h;subst h;simp[isAgg,dr hu]
 . rename_i d h1 h2 hu;simp at h;subst h;simp only[isAgg,Sem.run_bind,dr hu,Result.andThen_ok]
   first|rfl|(split<;>first|rfl|(exact absurd rfl (h1 _))|(exact absurd rfl (h2 _ _)))
 . cases h
end
end runs
def ki(P:Program)(E:Env)(h:Tr O)(n:Nat)(w:World)(s:Sem Next):R->Prop
 | .val v h' n'=>∃E' w' v',(s.run P w= .ok (.value v') w'\/(s.run P w= .ok .skip w'/\v'=undef))/\dD E' v v'/\ir E h w E' h' w'/\
    (∀m,m≠n->E'.ι m=E.ι m)/\((n'=n/\E'=E)\/n'=n+1)
 | .call f args=>∃c9,dI E args c9/\((s.run P w= .ok (.enter f c9.toArray) w/\callee P f=true)\/(∃m l b,f=P.funcs.size+m/\E.ι m=some (l,b)/\s.run P w=(Instr.yield l c9.toArray).run P w))
 | .my f c args=>∃c' c9,s.run P w= .ok (.defer { target:=.fn (.func f) c'.toArray,args:=c9.toArray }) w/\dI E c c'/\dI E args c9
 | .recover=>s.run P w= .ok .recover w
 | .panic v=>∃v',s.run P w= .halt (.panic v') w/\dD E v v'
theorem dS{P:Program}{E:Env}{h:Tr O}{n:Nat}{w:World}{s:Sem Next}{v:V}{v':Value}(g:Good E h w)
  (hr:s.run P w= .ok (.value v') w) (hv:dD E v v'):ki P E h n w s (.val v h n):=
 ⟨E,w,v',.inl hr,hv,ir.refl g,fun _ _=>rfl,.inl ⟨rfl,rfl⟩⟩
theorem oy{E:Env}{cs:ag}{c:Array Value}(r:dI E cs c.toList):l7 E 0 cs c:=by
 intro i v h;obtain⟨v',h1,h2⟩:=gD r i v h;exact⟨v',by simpa using h1,h2⟩
theorem kN{h h':Tr O}{n n':Nat}{o:O}(e:newObj h n o=some (h',n')):n<fL/\h'=h.set n (some o)/\n'=n+1:=by
 unfold newObj at e;split at e
 . rename_i q;simp at e;exact⟨q,e.1.symm,e.2.symm⟩
 . cases e
theorem JY{P:Program}{E:Env}{h h':Tr O}{n n':Nat}{w w1:World}{s:Sem Next}{cs:ag}{c:Array Value}{el:TypeId}{fz:Nat×Nat}{v:V}{v':Value}
  (g:Good E h w) (hn:E.ι n=none) (e:newObj h n (.cells cs)=some (h',n')) (hw:w1.heap=w.heap) (ht:w1.tape=w.tape) (ho:w1.os=w.os) (oZ:w1.output=w.output)
  (Bz:nf fz c.size) (hr:s.run P w= .ok (.value v') (w1.alloc (.cells c el fz))) (hc:l7 E 0 cs c)
  (hv:dD (E.put n w.heap.size 0 c.size) v v'):ki P E h n w s (.val v h' n'):=by
 obtain⟨gJ,rfl,rfl⟩:=kN e;have g1:Good E h w1:=g.same hw;have hs:w1.heap.size=w.heap.size:=by rw[hw]
 have kE:E.le (E.put n w1.heap.size 0 c.size):=Env.rz hn fun m x t q hx=>by have:=g1.mW m x t q;omega
 have u1:ir E h w E h w1:=⟨E.le_refl,g1,be,ht,ho,oZ,fun b _ _=>by rw[hw],fun m _ s hm q _=>⟨m,s,hm,q,id⟩,fun _ _ q=>.inl q⟩;have u:=ir.alloc (ob:=.cells c el fz) (o:=.cells cs) g1 hn gJ ⟨c,el,fz,heap_alloc_new,by simp[Env.put,jV],Bz,pY kE hc⟩;refine⟨E.put n w1.heap.size 0 c.size,_,v',.inl hr,by rw[hs];exact hv,u1.trans u,fun m hm=>Env.fA hm,.inr rfl⟩
theorem zR{P:Program}{E:Env}{h h':Tr O}{n n':Nat}{w w1:World}{s:Sem Next}{cs:ag}{c:Array Value}{el:TypeId}{v:V}{v':Value}
  (g:Good E h w) (hn:E.ι n=none) (e:newObj h n (.cells cs)=some (h',n')) (hw:w1.heap=w.heap) (ht:w1.tape=w.tape) (ho:w1.os=w.os) (oZ:w1.output=w.output)
  (hr:s.run P w= .ok (.value v') (w1.alloc (.cells c el))) (hc:l7 E 0 cs c)
  (hv:dD (E.put n w.heap.size 0 c.size) v v'):ki P E h n w s (.val v h' n'):=
 JY g hn e hw ht ho oZ (fun i _ q=>by simp at q) hr hc hv
theorem HD{P:Program}{E:Env}{h h':Tr O}{n n':Nat}{w w1:World}{s:Sem Next}{r:Row}{c:Array Value}{el:TypeId}{fz:Nat×Nat}{v:V}{v':Value}
  (g:Good E h w) (hn:E.ι n=none) (JV:r.sc) (e:newObj h n r.EA=some (h',n')) (hw:w1.heap=w.heap) (ht:w1.tape=w.tape) (ho:w1.os=w.os) (oZ:w1.output=w.output)
  (Bz:nf fz c.size) (hr:s.run P w= .ok (.value v') (w1.alloc (.cells c el fz))) (hc:l7 E 0 r.iJ c)
  (hv:dD (E.put n w.heap.size 0 c.size) v v'):ki P E h n w s (.val v h' n'):=by
 obtain⟨gJ,rfl,rfl⟩:=kN e;have g1:Good E h w1:=g.same hw;have hs:w1.heap.size=w.heap.size:=by rw[hw]
 have kE:E.le (E.put n w1.heap.size 0 c.size):=Env.rz hn fun m x t q hx=>by have:=g1.mW m x t q;omega
 have u1:ir E h w E h w1:=⟨E.le_refl,g1,be,ht,ho,oZ,fun b _ _=>by rw[hw],fun m _ s hm q _=>⟨m,s,hm,q,id⟩,fun _ _ q=>.inl q⟩;have u:=ir.alloc (ob:=.cells c el fz) (o:=r.EA) g1 hn gJ (yo ⟨c,el,_,heap_alloc_new,by simp[Env.put,jV],Bz,pY kE hc⟩ JV);refine⟨E.put n w1.heap.size 0 c.size,_,v',.inl hr,by rw[hs];exact hv,u1.trans u,fun m hm=>Env.fA hm,.inr rfl⟩
theorem sX{P:Program}{E:Env}{h h':Tr O}{n n':Nat}{w w1:World}{s:Sem Next}{r:Row}{c:Array Value}{el:TypeId}{v:V}{v':Value}
  (g:Good E h w) (hn:E.ι n=none) (JV:r.sc) (e:newObj h n r.EA=some (h',n')) (hw:w1.heap=w.heap) (ht:w1.tape=w.tape) (ho:w1.os=w.os) (oZ:w1.output=w.output)
  (hr:s.run P w= .ok (.value v') (w1.alloc (.cells c el))) (hc:l7 E 0 r.iJ c)
  (hv:dD (E.put n w.heap.size 0 c.size) v v'):ki P E h n w s (.val v h' n'):=by
 obtain⟨gJ,rfl,rfl⟩:=kN e;have g1:Good E h w1:=g.same hw;have hs:w1.heap.size=w.heap.size:=by rw[hw]
 have kE:E.le (E.put n w1.heap.size 0 c.size):=Env.rz hn fun m x t q hx=>by have:=g1.mW m x t q;omega
 have u1:ir E h w E h w1:=⟨E.le_refl,g1,be,ht,ho,oZ,fun b _ _=>by rw[hw],fun m _ s hm q _=>⟨m,s,hm,q,id⟩,fun _ _ q=>.inl q⟩;have u:=ir.alloc (ob:=.cells c el) (o:=r.EA) g1 hn gJ (yo ⟨c,el,_,heap_alloc_new,by simp[Env.put,jV],(fun i _ q=>by simp at q),pY kE hc⟩ JV);refine⟨E.put n w1.heap.size 0 c.size,_,v',.inl hr,by rw[hs];exact hv,u1.trans u,fun m hm=>Env.fA hm,.inr rfl⟩
theorem YJ{E:Env}{h:Tr O}{w:World}{n z:Nat}(g:Good E h w)(hn:E.ι n=none):E.le (E.put n w.heap.size 0 z):=
 Env.rz hn fun m x t q hx=>by have:=g.mW m x t q;omega
section ops
variable{P:Program}{E:Env}{h:Tr O}{n:Nat}{w:World}
theorem FW(P:Program)(t:TypeId)(z:V):B0 P t z= .cells z.cells\/(z.cells=[.ptr none,.dj none 0 0 0]/\B0 P t z= .Bj t false (.dj none 0 0 0)):=by
 unfold B0;split
 . rename_i hz;split
   . split
     . split
       . split
         . exact .inr ⟨hz,rfl⟩
         . exact .inl rfl
       . exact .inl rfl
     . exact .inl rfl
   . exact .inl rfl
 . exact .inl rfl
section
variable{t:TypeId}{m s:Nat}{cs:ag}{o k:Nat}{new:ag}
theorem PB{z:V}{h':Tr O}{n':Nat}(g:Good E h w)(hn:E.ι n=none)(hz:zeroOf P t=some z)(e:newObj h n (B0 P t z)=some (h',n')):
  ki P E h n w (do pure (.value (<- Instr.alloc t true (.tuple #[])))) (.val (.ptr (some (n,0))) h' n'):=by
 obtain⟨z',hr,hv,_⟩:=l8 (w:=w) E hz;rcases FW P t z with q|⟨hc,q⟩
 case inr=>
  rw[q]at e;obtain⟨gJ,rfl,rfl⟩:=kN e;have o5:=ig hv;rw[hc]at o5;obtain⟨p',_,r1,⟨x',_,r2,qn,rfl⟩,hl⟩:=o5;simp only[dI]at qn;subst qn;simp only[dD]at r1;subst r1;have hzc:z'.cells=#[.pointer none,x']:=by apply Array.ext';rw[hl]
  have hu:=ir.alloc (ob:=.cells z'.cells t) (o:=.Bj t false (.dj none 0 0 0)) g hn gJ ⟨rfl,x',_,by rw[heap_alloc_new,hzc];rfl,by simp[Env.put,jV,hzc],(fun i _ q=>by simp at q),ji (YJ g hn) _ _ r2⟩;exact⟨_,_,.pointer (some ⟨w.heap.size,0,none⟩),.inl (by simp[Instr.alloc,hr,newVar,newRow]),⟨_,_,Env.fa,by simp⟩,hu,fun m hm=>Env.fA hm,.inr rfl⟩
 rw[q]at e;refine zR (c:=z'.cells) (el:=t) (w1:=w) (v':=.pointer (some ⟨w.heap.size,0,none⟩)) g hn e rfl rfl rfl rfl ?_ (oy (ig hv)) ⟨_,_,Env.fa,by simp⟩;simp[Instr.alloc,hr,newVar,newRow]
theorem YK{v:V}{v':Value}{h':Tr O}{n':Nat}(g:Good E h w)(hn:E.ι n=none)(hv:dD E v v')(e:newObj h n (.cells v.cells)=some (h',n')):
  ki P E h n w (do pure (.value (<- Instr.box t v'))) (.val (.ptr (some (n,0))) h' n'):=by
 refine zR (c:=v'.cells) (el:=t) (w1:=w) (v':=.pointer (some ⟨w.heap.size,0,none⟩)) g hn e rfl rfl rfl rfl ?_ (oy (ig hv)) ⟨_,_,Env.fa,by simp⟩;simp[Instr.box,newVar,newRow]
theorem nY{c:Array Value}(r:l7 E s cs c){k:Nat}(hk:0<k)(hc:k<=cs.length):s+k<=c.size:=by
 obtain⟨v',h1,_⟩:=r (k-1) (cs[k-1]'(by omega)) (ay _);have:=(aQ.1 h1).1;omega
theorem nZ{c:Array Value}(r:l7 E s cs c){o k:Nat}(hk:o+k<=cs.length)(h0:s+o+k<=c.size):
  dI E ((cs.drop o).take k) ((c.toList.drop (s+o)).take k):=by
 refine jD (by simp;omega) fun i v q=>?_;rw[bO]at q ⊢;split at q
 . rename_i hi;rw[aG hi];rw[bH]at q ⊢;obtain⟨v',h1,h2⟩:=r (o+i) v q;exact⟨v',by rw[<- h1];simp[cC],h2⟩
 . cases q
theorem zS{r:ag}(e:cut cs o k=some r):o+k<=cs.length/\r=(cs.drop o).take k:=by
 unfold cut at e;split at e
 . rename_i q;simp at e;exact⟨q,e.symm⟩
 . cases e
theorem jA{b s o:Nat}{cs:ag}{v:V}{c:Array Value}{el:TypeId}{fz:Nat×Nat}(hb:w.heap[b]? =some (.cells c el fz))(r:l7 E s cs c)
  (e:ld P t cs o=some v):∃v',(loadVar t ⟨b,s+o,none⟩).run P w= .ok v' w/\dD E v v':=by
 unfold ld at e;split at e
 . rename_i ha;cases hs:kQ P t with
   |none=>simp[hs]at e
   |some k=>
    simp only[hs]at e;cases hc:cut cs o k with
    |none=>simp[hc]at e
    |some x=>
     simp only[hc,bh,an]at e;subst e;obtain⟨h1,rfl⟩:=zS hc;by_cases hk:k=0
     . subst hk;refine⟨.agg #[],?_,[],by simp[dI],rfl⟩;simp[loadVar,rP ha,eY hs,loadCells,loadCellsFrom]
     . have h0:s+o+k<=c.size:=by have:=nY r (k:=o+k) be h1;omega
       refine⟨_,?_,_,nZ r h1 h0,rfl⟩;simp[loadVar,rP ha,eY hs,run_loadCells hb h0]
 . rename_i ha;obtain⟨v',h1,h2⟩:=r o v e;refine⟨v',?_,h2⟩;simp[loadVar,rP ha,nh hb,h1]
 . cases e
theorem PC{E:Env}{m b:Nat}{self:Bool}{x:V}{x':Value}(hi:E.ι m=some (b,0))(hx:dD E x x'):l7 E 0 (uv m self x) #[.pointer (if self then some ⟨b,0,none⟩else none),x']:=by
 intro i v q
 match i with
 |0=>
  simp only[uv,bG,an]at q;subst q;refine⟨_,rfl,?_⟩;cases self with
  |true=>exact⟨b,0,hi,rfl⟩
  |false=>rfl
 |1=>
  simp only[uv,cA,bG,an]at q;subst q;exact⟨_,rfl,hx⟩
 |i+2=>simp[uv]at q
theorem Cd{t:TypeId}{a v:V}{a':Value}(g:Good E h w)(ha:dD E a a')(e:loadAt P t h a=some v):
  ∃b s,a'= .pointer (some ⟨b,s,none⟩)/\∃v',(loadVar t ⟨b,s,none⟩).run P w= .ok v' w/\dD E v v':=by
 unfold loadAt at e;split at e
 . rename_i m o;split at e
   . rename_i cs hm;obtain⟨b,s,hi,c,el,fz,hb,_,_,hc⟩:=g.rel m _ hm;obtain⟨b',s',kF,rfl⟩:=ha;rw[hi]at kF;cases kF;obtain⟨v',h1,h2⟩:=jA hb hc e;exact⟨b,s+o,rfl,v',h1,h2⟩
   . rename_i k ks hm;obtain⟨b,s,hi,c,el,fz,hb,_,hc⟩:=g.rel m _ hm;obtain⟨b',s',kF,rfl⟩:=ha;rw[hi]at kF;cases kF;obtain⟨v',h1,h2⟩:=jA hb (mM.2 hc) e;exact⟨b,s+o,rfl,v',h1,h2⟩
   . rename_i k ks hm;obtain⟨b,s,hi,c,el,fz,hb,_,_,hc⟩:=g.rel m _ hm;obtain⟨b',s',kF,rfl⟩:=ha;rw[hi]at kF;cases kF;obtain⟨v',h1,h2⟩:=jA hb hc e;exact⟨b,s+o,rfl,v',h1,h2⟩
   . rename_i cs hm;obtain⟨b,s,hi,c,el,fz,vs,hb,_,_,hd,hc⟩:=g.rel m _ hm;obtain⟨b',s',kF,rfl⟩:=ha;rw[hi]at kF;cases kF;obtain⟨v',h1,h2⟩:=jA hb ((nW (jc hd)).2 ⟨vs,hd,hc⟩) e;exact⟨b,s+o,rfl,v',h1,h2⟩
   . rename_i T self x hm;obtain⟨b,s,hi,hs,x',fz,hb,_,_,hx⟩:=g.rel m _ hm;obtain⟨b',s',kF,rfl⟩:=ha;rw[hi]at kF;cases kF;subst hs;obtain⟨v',h1,h2⟩:=jA (E:=E) (s:=0) hb (PC hi hx) e;exact⟨b,0+o,rfl,v',h1,h2⟩
   . cases e
 . rename_i cs;obtain⟨b,o,c,vs,rfl,hf,hd,hc⟩:=ha;obtain⟨⟨el,fz,hb⟩,_⟩:=g.gP b c hf;obtain⟨v',h1,h2⟩:=jA hb ((nW (jc hd)).2 ⟨vs,hd,hc⟩) e;exact⟨b,o,rfl,v',h1,h2⟩
 . cases e
theorem TX{a v:V}{a':Value}(g:Good E h w)(ha:dD E a a')(e:loadAt P t h a=some v):
  ki P E h n w (do pure (.value (<- Instr.loadAt t a'))) (.val v h n):=by
 obtain⟨b,s,rfl,v',h1,h2⟩:=Cd g ha e;exact dS g (by simp[Instr.loadAt,Instr.sureAddr,h1]) h2
theorem zT{r:ag}{o:Nat}(e:BZ cs o new=some r):o+new.length<=cs.length/\r=cs.take o++(new++cs.drop (o+new.length)):=by
 unfold BZ at e;split at e
 . rename_i q;simp at e;exact⟨q,e.symm⟩
 . cases e
theorem JZ{α:Type}{cs new:List α}{o:Nat}(h:o+new.length<=cs.length)(j:Nat):
  (cs.take o++(new++cs.drop (o+new.length)))[j]? =if o<=j/\j<o+new.length then new[j-o]? else cs[j]?:=by
 rw[bT];have hl:(List.take o cs).length=o:=by simp;omega
 rw[hl];by_cases h1:j<o
 . rw[aG h1,aI be,bO,aG h1]
 . rw[aI h1,bT];by_cases h2:j<o+new.length
   . rw[aG be,aG be]
   . rw[aI be,aI be,bH];congr 1;omega
theorem HE{cs new:ag}{kA:List Value}{c:Array Value}(r:l7 E s cs c)(hn:dI E new kA)(fN:0<new.length)(h:o+new.length<=cs.length):
  s+o+kA.length<=c.size/\l7 E s (cs.take o++(new++cs.drop (o+new.length))) (putCells c (s+o) kA):=by
 have hl:=eL hn;have hb:s+o+kA.length<=c.size:=by have:=nY r (k:=o+new.length) be h;omega
 refine⟨hb,fun i v q=>?_⟩;rw[JZ h]at q;rw[ni hb];split at q
 . rename_i hi;rw[aG be];obtain⟨v',h1,h2⟩:=gD hn _ v q;exact⟨v',by rw[<- h1];congr 1;omega,h2⟩
 . rename_i hi;rw[aI be];exact r i v q
theorem xj{b s:Nat}{ob:O}{r r':Row}{new:ag}{kA:List Value}(g:Good E h w)(gJ:m<fL)(hm:h.get m=some ob)(hr:ob.row=some r)(hi:E.ι m=some (b,s))
  (hn:dI E new kA) (fN:0<new.length) (JV:new.all V.scalar=true) (hl:o+new.length<=r.iJ.length) (Tz:wk (r.iJ.take o++(new++r.iJ.drop (o+new.length))) r'.iJ) (Nq:r.sc->r'.sc):
  ∃w',(storeCells ⟨b,s+o,none⟩ kA).run P w= .ok () w'/\ir E h w E (h.set m (some r'.EA)) w':=by
 obtain⟨b',s',kF,q⟩:=g.rel m _ hm;obtain⟨⟨c,el,fz,hb,hz,hf,hc⟩,YL⟩:=HB hr q;rw[hi]at kF;cases kF;obtain⟨zU,EC⟩:=HE hc hn fN hl;have J0:∀v∈kA,v.oneCell'=true:=by
  intro v hv;obtain⟨i,kF⟩:=List.getElem?_of_mem hv;have fF:i<new.length:=by rw[<- eL hn];exact(aF.1 kF).1
  obtain⟨v',h1,h2⟩:=gD hn i new[i] (ay fF);rw[kF]at h1;cases h1;exact uJ h2 (by rw[bq]at JV;exact JV _ (bY fF))
 obtain⟨w',e1,e2,e3,e4,e5,e6,e7⟩:=nj (P:=P) (o:=s+o) kA 0 w c hb hf J0 be;refine⟨w',e1,ir.write g gJ ⟨_,hm,Py hr⟩ hi e3 e4 e5 e6 e7 ?_⟩;exact yo ⟨_,el,fz,e2,by rw[jJ be];exact hz,by rw[jJ be];exact hf,yn Tz EC⟩ (Nq YL)
theorem Nr{b s:Nat}{cs new:ag}{kA:List Value}(g:Good E h w)(gJ:m<fL)(hm:h.get m=some (.cells cs))(hi:E.ι m=some (b,s))
  (hn:dI E new kA) (fN:0<new.length) (JV:new.all V.scalar=true) (hl:o+new.length<=cs.length):
  ∃w',(storeCells ⟨b,s+o,none⟩ kA).run P w= .ok () w'/\ir E h w E (h.set m (some (.cells (cs.take o++(new++cs.drop (o+new.length)))))) w':=
 xj (r':=.vs (cs.take o++(new++cs.drop (o+new.length)))) g gJ hm rfl hi hn fN JV hl (iM _) (fun _=>trivial)
theorem PD{a v:V}{a' v':Value}{h':Tr O}(g:Good E h w)(ha:dD E a a')(hv:dD E v v')(e:storeAt P t h v a=some h'):
  ki P E h n w (do Instr.storeAt t a' v';pure .skip) (.val (.ew []) h' n):=by
 unfold storeAt at e;split at e
 . rename_i m o;split at e
   . rename_i cs hm;split at e
     . rename_i s hs;split at e
       . rename_i hq;obtain⟨h1,h2,h3,h4⟩:=hq;split at e
         . rename_i cs' hsp;obtain rfl:=eo e;obtain⟨kE,rfl⟩:=zT hsp;obtain⟨b,s',hi,rfl⟩:=ha;have oa:=ig hv;obtain⟨w',hr,hu⟩:=Nr (P:=P) g h3 hm hi oa be h4 kE;refine⟨E,w',undef,.inr ⟨?_,rfl⟩,⟨[],rfl,rfl⟩,hu,fun _ _=>rfl,.inl ⟨rfl,rfl⟩⟩;have lW:v'.cells.size=s:=by have:=eL oa;simp at this;omega
           simp[Instr.storeAt,Instr.sureAddr,storeVar,eY hs,lW,hr]
         . cases e
       . cases e
     . cases e
   . rename_i k ks hm;split at e
     . rename_i s hs;split at e
       . rename_i hq;obtain⟨h1,h2,h3⟩:=hq;split at e
         . rename_i new sV;split at e
           . rename_i kE;obtain rfl:=eo e;have YM:=pZ sV;have JJ:new.length=s:=by have:=aM List.length YM;simp at this;omega
             obtain⟨b,s',hi,rfl⟩:=ha;have oa:=ig hv;obtain⟨w',hr,hu⟩:=xj (P:=P) (o:=o) (r':=.is k (fO ks o new)) g h3 hm rfl hi oa be (by rw[YM];simp[V.scalar]) (by rw[YM];simp[Row.iJ];omega)
              (by rw[YM];simp[Row.iJ,fO,aX,cL,List.map_drop];exact iM _) (fun _=>trivial)
             refine⟨E,w',undef,.inr ⟨?_,rfl⟩,⟨[],rfl,rfl⟩,hu,fun _ _=>rfl,.inl ⟨rfl,rfl⟩⟩;have lW:v'.cells.size=s:=by have:=eL oa;simp at this;omega
             simp[Instr.storeAt,Instr.sureAddr,storeVar,eY hs,lW,hr]
           . cases e
         . cases e
       . cases e
     . cases e
   . rename_i cs hm;split at e
     . rename_i s hs;split at e
       . rename_i hq;obtain⟨h1,h2,h3⟩:=hq;split at e
         . rename_i new sV;split at e
           . rename_i kE;obtain rfl:=eo e;have JJ:=uK sV;obtain⟨b,s',hi,rfl⟩:=ha;have oa:=ig hv;have hcn:dI E (D.lT new) v'.cells.toList:=yl sV E _ oa;have TY:(D.lT new).length=s:=by rw[D.gx,aY];omega
             obtain⟨w',hr,hu⟩:=xj (P:=P) (o:=o) (r:=.ds cs) (r':=.ds (wJ cs o new)) g h3 hm rfl hi hcn be (AJ (nX sV)) (by simp only[Row.iJ,D.gx,aY];omega)
              (by simp[Row.iJ,wJ,D.gx,aX,cL,List.map_drop];exact iM _)
              (fun hs x hx=>by
               simp only[wJ,aT]at hx;rcases hx with hx|hx|hx
               . exact hs x (List.mem_of_mem_take hx)
               . exact nX sV x hx
               . exact hs x (List.mem_of_mem_drop hx))
             refine⟨E,w',undef,.inr ⟨?_,rfl⟩,⟨[],rfl,rfl⟩,hu,fun _ _=>rfl,.inl ⟨rfl,rfl⟩⟩;have lW:v'.cells.size=s:=by have:=eL oa;simp at this;omega
             simp[Instr.storeAt,Instr.sureAddr,storeVar,eY hs,lW,hr]
           . cases e
         . cases e
       . cases e
     . cases e
   . rename_i T self x0 hm;split at e
     . rename_i x hs hcv;split at e
       . rename_i hq;obtain⟨rfl,h3,h4⟩:=hq;obtain rfl:=eo e;obtain⟨b,s',hi,rfl⟩:=ha;obtain⟨b',s,kF,h0,x0',fz,hb,oU,hf,hx0⟩:=g.rel m _ hm;rw[hi]at kF;cases kF;subst h0;have oa:=ig hv;rw[hcv]at oa;obtain⟨x',_,r1,qn,hl⟩:=oa;simp only[dI]at qn;subst qn;have YM:v'.cells=#[x']:=by apply Array.ext';rw[hl]
         obtain⟨w',e1,e2,e3,e4,e5,e6,e7⟩:=nj (P:=P) (o:=0+1) [x'] 0 w _ hb hf (fun y hy=>by rw[aq]at hy;subst hy;exact uJ r1 h4) (by simp);refine⟨E,w',undef,.inr ⟨?_,rfl⟩,⟨[],rfl,rfl⟩,ir.write g h3 ⟨_,hm,rfl⟩ hi e3 e4 e5 e6 e7 ⟨rfl,x',fz,?_,oU,hf,r1⟩,fun _ _=>rfl,.inl ⟨rfl,rfl⟩⟩
         . have lW:v'.cells.size=1:=by rw[YM];rfl
           have e1':(storeCells ⟨b,1,none⟩ v'.cells.toList).run P w= .ok () w':=by rw[YM];simpa using e1
           simp[Instr.storeAt,Instr.sureAddr,storeVar,eY hs,lW,e1']
         . rw[e2];rfl
       . cases e
     . cases e
   . cases e
 . cases e
end
end ops
def AL(E:Env):List (Nat×V)->List (Nat×Value)->Prop
 | [],l=>l=[]
 |x::xs,l=>∃y ys,y.1=x.1/\dD E x.2 y.2/\AL E xs ys/\l=y::ys
theorem ED(off:Nat):∀(vs:List Value) (k:Nat) (c:Array Value),off+k+vs.length<=c.size->
  (vs.zipIdx k).foldl (fun cs (x:Value×Nat)=>cs.setIfInBounds (off+x.2) x.1) c=putCells c (off+k) vs
 | [],k,c,_=>by simp[putCells]
 |v::vs,k,c,h=>by
  simp only[aS]at h;simp only[List.zipIdx_cons,List.foldl_cons];rw[ED off vs (k+1) _ (by simp;omega)];have:off+(k+1)=off+k+1:=by omega
  rw[this,rC be]
theorem yp{E:Env}{yb:Nat->Option (Nat×Nat)}:∀(parts:List (Nat×V)) (oc:List (Nat×Value)) (cells:ag) (qf:Array Value) (r:ag),
  rL yb cells parts=some r->dI E cells qf.toList->AL E parts oc->∃r',Instr.fill yb qf oc=some r'/\dI E r r'.toList
 | [],_,cells,qf,r,e,hc,hp=>by
   simp only[AL]at hp;subst hp;simp only[rL,an]at e;subst e;exact⟨qf,rfl,hc⟩
 |(i,v)::rest,_,cells,qf,r,e,hc,hp=>by
  obtain⟨⟨i',v'⟩,ys,q1,hv,hr,rfl⟩:=hp;simp only at q1 hv;subst q1;simp only[rL]at e;cases oz:yb i' with
  |none=>simp[oz]at e
  |some p=>
   obtain⟨off,size⟩:=p;simp only[oz]at e;split at e
   . rename_i lW;cases hs:BZ cells off v.cells with
     |none=>simp[hs]at e
     |some YN=>
      simp only[hs]at e;obtain⟨kE,rfl⟩:=zT hs;have hcv:=ig hv;have FX:=eL hcv;have hlc:=eL hc;simp only[Array.length_toList]at FX hlc;have rD:v'.cells.zipIdx.foldl (fun cs (x:Value×Nat)=>cs.setIfInBounds (off+x.2) x.1) qf=putCells qf off v'.cells.toList:=by
       rw[<- Array.foldl_toList,Array.toList_zipIdx];exact ED off v'.cells.toList 0 qf (by simp;omega)
      have aiV:dI E (cells.take off++(v.cells++cells.drop (off+v.cells.length))) (putCells qf off v'.cells.toList).toList:=by
       simp only[putCells];refine iz (Ca hc) (iz hcv ?_);have:off+v'.cells.toList.length=off+v.cells.length:=by simp;omega
       rw[this];exact Cb hc
      obtain⟨r',h1,h2⟩:=yp rest ys _ _ r e aiV hr;refine⟨r',?_,h2⟩;simp only[Instr.fill,oz];rw[aI (by simp;omega)];rw[<- h1,<- rD]
   . cases e
theorem uM{P:Program}:∀(fs:List Field) (uw:List (Nat×Nat)),sK P fs=some uw->
  fs.mapM (fun f=>(P.info? f.type).map fun i=>(f.offset,i.size))=some uw
 | [],uw,h=>by simp[sK]at h;subst h;rfl
 |f::fs,uw,h=>by
  simp only[sK,kQ]at h;cases hi:P.info? f.type with
  |none=>simp[hi]at h
  |some i=>
   simp only[hi,bh]at h;cases hr:sK P fs with
   |none=>simp[hr]at h
   |some r=>
    simp only[hr,an]at h;subst h;simp[List.mapM_cons,hi,uM fs r hr]
theorem AM{z:ag}(hz:0<z.length):∀(n i:Nat),(gQ z n)[i]? =if i<n*z.length then z[i%z.length]? else none
 |0,i=>by simp[gQ]
 |n+1,i=>by
  simp only[gQ,bT];by_cases h:i<z.length
  . rw[aG h,aG (by rw[cN];omega),Nat.mod_eq_of_lt h]
  . rw[aI h,AM hz n,cN,Nat.one_mul];have:(i-z.length)%z.length=i%z.length:=by rw[Nat.mod_eq_sub_mod (a:=i) be]
    rw[this];by_cases h2:i-z.length<n*z.length
    . rw[aG h2,aG be]
    . rw[aI h2,aI be]
theorem qo{z:ag}:∀n,(gQ z n).length=n*z.length
 |0=>by simp[gQ]
 |n+1=>by simp[gQ,qo n,cN];omega
theorem Ce{E:Env}{z:ag}{z':Array Value}(hz:dI E z z'.toList)(h0:0<z.length)(n:Nat):
  dI E (gQ z n) ((Array.range (n*z.length)).map (z'[·%z'.size]!)).toList:=by
 have hl:z'.size=z.length:=by have:=eL hz;simpa using this
 refine jD (by simp[qo]) fun i v q=>?_;rw[AM h0]at q;split at q
 . rename_i hi;obtain⟨v',h1,h2⟩:=gD hz _ v q;refine⟨v',?_,h2⟩;have fF:i%z'.size<z'.size:=Nat.mod_lt _ be;rw[bL]at h1;have mz:z'[i%z'.size]? =some v':=by rw[hl];exact h1
   rw[bL,Array.getElem?_map];rw[Array.getElem?_range];rw[aG hi];simp only[bh];rw[getElem!_pos z' _ fF];rw[bn fF]at mz;exact mz
 . cases q
theorem xk{s:Sem Value}{v:V}(e:sM s=some v):∃v',s= .pure v'/\∀E,dD E v v':=by
 cases s with
 |pure v'=>exact⟨v',rfl,fun E=>sW e⟩
 |_=>simp[sM]at e
theorem fR:∀(a b:aa),eG a b=(a==b)
 | [],[]=>rfl
 | [],_::_=>rfl
 |_::_,[]=>rfl
 |a::x,b::y=>by
  simp only[eG];by_cases h:a=b
  . subst h;have:Nat.beq a.toNat a.toNat=true:=cM _;rw[this];simp[fR x y]
  . have:Nat.beq a.toNat b.toNat=false:=by
     cases hh:Nat.beq a.toNat b.toNat with
     |false=>rfl
     |true=>exact absurd (UInt8.toNat_inj.1 (aD hh)) h
    rw[this];have hab:(a==b)=false:=by simpa using h
    simp[hab]
theorem rQ(a b:aa):((⟨a.toArray⟩:ByteArray)==⟨b.toArray⟩)=eG a b:=by
 rw[fR,beq_toListBytes,ByteArray.toList_eq,ByteArray.toList_eq]
theorem sY(a b:aa):((⟨a.toArray⟩:ByteArray).toList==(⟨b.toArray⟩:ByteArray).toList)=eG a b:=by
 rw[<- rQ,beq_toListBytes]
section ops
variable{P:Program}{E:Env}{h:Tr O}{n:Nat}{w:World}
theorem Ns{t:TypeId}{parts:List (Nat×V)}{oc:Array (Nat×Value)}{v:V}(hp:AL E parts oc.toList)(e:JM P t parts=some v):
  ∃v',(Instr.build t oc).run P w= .ok v' w/\dD E v v':=by
 unfold JM at e;split at e
 . rename_i z nQ hz hu;obtain⟨z',_,hv,i,hi,hiz⟩:=l8 (w:=w) E hz;cases hs:sK P nQ.toList with
   |none=>simp[hs]at e
   |some uw=>
    simp only[hs]at e;cases hf:rL (fun i=>uw[i]?) z.cells parts with
    |none=>simp[hf]at e
    |some cs=>
     simp only[hf,bh,an]at e;subst e;obtain⟨r',h1,h2⟩:=yp parts oc.toList z.cells z'.cells cs hf (ig hv) hp;refine⟨.agg r',run_build w t oc r' ?_,r'.toList,h2,by simp⟩;simp only[Program.built,hi,hu,hiz,uM _ _ hs];simpa using h1
 . rename_i z m TW hz hu;obtain⟨z',_,hv,i,hi,hiz⟩:=l8 (w:=w) E hz;cases hs:kQ P TW with
   |none=>simp[hs]at e
   |some s=>
    simp only[hs]at e;cases hf:rL (fun i=>some (i*s,s)) z.cells parts with
    |none=>simp[hf]at e
    |some cs=>
     simp only[hf,bh,an]at e;subst e;obtain⟨r',h1,h2⟩:=yp parts oc.toList z.cells z'.cells cs hf (ig hv) hp;refine⟨.agg r',run_build w t oc r' ?_,r'.toList,h2,by simp⟩;unfold kQ at hs;cases hie:P.info? TW with
     |none=>simp[hie]at hs
     |some ie=>
      simp only[hie,bh,an]at hs;simp only[Program.built,hi,hu,hiz,hie,hs];exact h1
 . cases e
theorem D6{t:TypeId}{cO:Nat}{parts:List (Nat×V)}{oc:Array (Nat×Value)}{r:R}(g:Good E h w)(hn:E.ι n=none)(hp:AL E parts oc.toList)
  (e:oB P t cO parts h n=some r):ki P E h n w (do pure (.value (<- Instr.buildSlice t cO oc))) r:=by
 unfold oB at e;cases he:ux P t with
 |none=>simp[he]at e
 |some el=>
  simp only[he]at e;cases hs:kQ P el with
  |none=>simp[hs]at e
  |some s=>
   cases hz:zeroOf P el with
   |none=>simp[hs,hz]at e
   |some z=>
    simp only[hs,hz]at e;split at e
    . rename_i hq;obtain⟨FY,nF,Hj⟩:=hq;cases hf:rL (fun i=>some (i*s,s)) (gQ z.cells cO) parts with
      |none=>simp[hf]at e
      |some cs=>
       simp only[hf]at e;cases ho:newObj h n (.cells cs)with
       |none=>simp[ho]at e
       |some x=>
        obtain⟨h',n'⟩:=x;simp only[ho,an]at e;subst e;obtain⟨z',hzr,hzv,_⟩:=l8 (w:=w) E hz;have hzc:=ig hzv;have PE:=Ce hzc be cO;rw[Hj]at PE;obtain⟨r',h1,h2⟩:=yp parts oc.toList _ _ cs hf PE hp;have hu:P.underlying t=some (.slice el):=by
         unfold ux at he;split at he
         . rename_i q;simp at he;subst he;exact q
         . cases he
        have iS:r'.size=cO*s:=by
         have a:=eL h2;have b:cs.length=(gQ z.cells cO).length:=yq _ _ _ _ hf;rw[qo,Hj]at b;simpa[b]using a
        refine zR (c:=r') (el:=el) (w1:=w) (v':=.slice (some ⟨w.heap.size,0,none⟩) cO cO) g hn ho rfl rfl rfl rfl ?_ (oy h2) ?_
        . simp only[Instr.buildSlice,Sem.run_bind,dr hu,Result.andThen_ok,eY hs];rw[aI (show ¬(cO*s>2^24)by omega)];by_cases q0:cO*s=0
          . have s7:(Array.range (cO*s)).map (fun x=>(#[]:Array Value)[x%(#[]:Array Value).size]!)=(Array.range (cO*s)).map (z'.cells[·%z'.cells.size]!):=by rw[q0];simp
            rw[aG q0];simp only[Sem.run_bind,Sem.run_pure,Result.andThen_ok];rw[s7,h1];simp[newRow]
          . rw[aI q0];simp only[Sem.run_bind,Sem.run_pure,Result.andThen_ok,hzr];rw[h1];simp[newRow]
        . refine⟨w.heap.size,0,0,cO,Env.fa,fun _=>by simp,aA _,aA _,?_,rfl⟩;simp[Env.put,iS]
    . cases e
where
 yq (yb:Nat->Option (Nat×Nat)):∀(parts:List (Nat×V)) (cells r:ag),rL yb cells parts=some r->r.length=cells.length
  | [],cells,r,e=>by simp only[rL,an]at e;rw[e]
  |(i,v)::rest,cells,r,e=>by
   simp only[rL]at e;split at e
   . cases e
   . split at e
     . split at e
       . rename_i YN hs;obtain⟨kE,rfl⟩:=zT hs;rw[yq yb rest _ r e];simp;omega
       . cases e
     . cases e
end ops
section
variable{P:Program}{E:Env}{h:Tr O}{n:Nat}{w:World}
theorem yu{t:TypeId}{cs:ag}{cs':Array Value}{off:Nat}{v:V}(r:dI E cs cs'.toList)(e:wK P t cs off=some v):
  ∃v',(part t cs' off).run P w= .ok v' w/\dD E v v':=by
 unfold wK ld at e;have hl:=eL r;simp only[Array.length_toList]at hl;split at e
 . rename_i ha;cases hs:kQ P t with
   |none=>simp[hs]at e
   |some k=>
    simp only[hs]at e;cases hc:cut cs off k with
    |none=>simp[hc]at e
    |some x=>
     simp only[hc,bh,an]at e;subst e;obtain⟨h1,rfl⟩:=zS hc;refine⟨.agg (cs'.extract off (off+k)),by simp[part,rP ha,eY hs],(cs'.toList.drop off).take k,Ca (Cb r),?_⟩;congr 1;apply Array.ext';simp[List.extract_eq_take_drop]
 . rename_i ha;obtain⟨v',h1,h2⟩:=gD r off v e;refine⟨v',?_,h2⟩;rw[bL]at h1;simp[part,rP ha,h1]
 . cases e
end
def V.tag:V->Nat
 | .bool _=>0 | .int _ _=>1 | .str _=>2 | .ptr _=>3 | .dj _ _ _ _=>4 | .map _=>5 | .fn _ _ _=>6 | .kG=>7 | .iface _ _=>8 | .nilIface=>9 | .agg _=>10 | .ew _=>11 | .dO _ _ _=>4 | .dm _=>3
def yw:Value->Nat
 | .bool _=>0 | .int _ _=>1 | .string _=>2 | .pointer _=>3 | .slice _ _ _=>4 | .map _=>5 | .func _ _ _=>6 | .nilFunc=>7 | .iface _ _=>8 | .nilIface=>9 | .agg _=>10 | .tuple _=>11
 | .float _ _=>12 | .complex _ _ _=>13 | .chan _=>14
theorem rR{E:Env}:∀{x:V} {v:Value},dD E x v->x.tag=yw v:=by
 intro x v r;cases x with
 |agg cs=>obtain⟨cs',_,rfl⟩:=r;rfl
 |ew cs=>obtain⟨cs',_,rfl⟩:=r;rfl
 |bool b=>simp only[dD]at r;subst r;rfl
 |int k n=>simp only[dD]at r;subst r;rfl
 |str s=>simp only[dD]at r;subst r;rfl
 |ptr a=>cases a<;>simp only[dD]at r;. subst r;rfl
         . obtain⟨b,s,_,rfl⟩:=r;rfl
 |dj a l c e=>cases a<;>simp only[dD]at r;. obtain⟨_,_,rfl⟩:=r;rfl
              . obtain⟨b,s,_,_,_,_,_,_,_,rfl⟩:=r;rfl
 |map a=>cases a<;>simp only[dD]at r;. subst r;rfl
         . obtain⟨b,_,rfl⟩:=r;rfl
 |fn f a c=>obtain⟨_,_,_,_,_,_,rfl⟩:=r;rfl
 |kG=>simp only[dD]at r;subst r;rfl
 |iface t x=>obtain⟨_,_,rfl⟩:=r;rfl
 |nilIface=>simp only[dD]at r;subst r;rfl
 |dO f n cs=>obtain⟨⟨_,_,_,rfl,_⟩,_⟩:=r;rfl
 |dm cs=>obtain⟨_,_,_,_,rfl,_⟩:=r;rfl
theorem yx{E:Env}{x:V}{k:IntKind}{m:Int}(r:dD E x (.int k m)):x= .int k m:=by
 have t:=rR r;cases x<;>simp[V.tag,yw]at t;simp only[dD]at r;cases r;rfl
theorem yy{E:Env}{x:V}{s:ByteArray}(r:dD E x (.string s)):∃l,x= .str l:=by
 have t:=rR r;cases x<;>simp[V.tag,yw]at t;exact⟨_,rfl⟩
theorem D7{E:Env}{x:V}{k:FloatKind}{m:Nat}(r:dD E x (.float k m)):False:=by
 have t:=rR r;cases x<;>simp[V.tag,yw]at t
theorem Bl{E:Env}{x:V}{k:FloatKind}{m m':Nat}(r:dD E x (.complex k m m')):False:=by
 have t:=rR r;cases x<;>simp[V.tag,yw]at t
theorem PF{E:Env}{x y:V}{x' y':Value}{t:TypeId}(rx:dD E x x')(ry:dD E y y')(hi:∀k m k' m',¬(x= .int k m/\y= .int k' m'))(hs:∀s u,¬(x= .str s/\y= .str u)):
  binOp .eql t x' y'=(do pure (.bool (<- Op.equal t x' y')))/\binOp .neq t x' y'=(do pure (.bool (!(<- Op.equal t x' y')))):=by
 cases x'<;>cases y'<;>first
  |exact⟨rfl,rfl⟩
  |exact absurd ⟨yx rx,yx ry⟩ (hi _ _ _ _)
  |exact(D7 rx).elim
  |exact(Bl rx).elim
  |(obtain⟨l,e1⟩:=yy rx;obtain⟨l',e2⟩:=yy ry;exact absurd ⟨e1,e2⟩ (hs _ _))
section
variable{P:Program}{E:Env}{h:Tr O}{n:Nat}{w:World}
theorem s8{d:Nat}{eq:TypeId->V->V->Option Bool}(ih:∀t x y x' y' r,eq t x y=some r->dD E x x'->dD E y y'->(Op.equalIn d t x' y').run P w= .ok r w)
  {xs ys:ag} {B9 JS:Array Value} (rx:dI E xs B9.toList) (ry:dI E ys JS.toList):∀(fs:List Field) (r:Bool),eqFields P eq fs xs ys=some r->(Op.eqFields d B9 JS fs).run P w= .ok r w
 | [],r,e=>by simp only[eqFields,an]at e;subst e;rfl
 |f::fs,r,e=>by
  simp only[eqFields]at e;simp only[Op.eqFields];split at e
  . rename_i fN;rw[aG fN];cases h1:wK P f.type xs f.offset with
    |none=>simp[h1]at e
    |some a=>cases h2:wK P f.type ys f.offset with
     |none=>simp[h1,h2]at e
     |some b=>
      simp only[h1,h2]at e;obtain⟨a',p1,p2⟩:=yu (P:=P) (w:=w) rx h1;obtain⟨b',q1,q2⟩:=yu (P:=P) (w:=w) ry h2;cases h3:eq f.type a b with
      |none=>simp[h3]at e
      |some c=>
       have hr:=ih _ _ _ _ _ _ h3 p2 q2;simp only[Sem.run_bind,p1,q1,Result.andThen_ok,hr];cases c with
       |false=>simp only[h3,an]at e;subst e;simp
       |true=>simp only[h3]at e;simp only[Bool.not_true,aO,cG];exact s8 ih rx ry fs r e
  . rename_i fN;rw[aI fN];exact s8 ih rx ry fs r e
theorem FZ:∀(d:Nat) (t:TypeId) (x y:V) (x' y':Value) (r:Bool),LX P d t x y=some r->dD E x x'->dD E y y'->(Op.equalIn d t x' y').run P w= .ok r w:=by
 intro d
 induction d with
 |zero=>intro t x y x' y' r e;simp[LX]at e
 |succ d ih=>
  intro t x y x' y' r e rx ry;simp only[LX]at e;split at e
  . rename_i hu;split at e
    . simp only[dD]at rx ry;subst rx;subst ry;obtain rfl:=eo e;simp[Op.equalIn,dr hu]
    . cases e
  . rename_i hu;split at e
    . simp only[dD]at rx ry;subst rx;subst ry;split at e
      . rename_i hk;subst hk;obtain rfl:=eo e;simp[Op.equalIn,dr hu]
      . cases e
    . cases e
  . rename_i hu;split at e
    . simp only[dD]at rx ry;subst rx;subst ry;obtain rfl:=eo e;simp only[Op.equalIn,Sem.run_bind,dr hu,Result.andThen_ok,Sem.run_pure];rw[rQ]
    . cases e
  . rename_i hu;split at e
    . rename_i b;simp only[dD]at rx;subst rx;obtain rfl:=eo e;cases b with
      |none=>simp only[dD]at ry;subst ry;simp[Op.equalIn,dr hu]
      |some p=>obtain⟨_,_,_,rfl⟩:=ry;simp[Op.equalIn,dr hu]
    . rename_i p;obtain rfl:=eo e;obtain⟨_,_,_,rfl⟩:=rx;simp only[dD]at ry;subst ry;simp[Op.equalIn,dr hu]
    . split at e
      . rename_i TZ;obtain⟨⟨rfl,rfl⟩,lW⟩:=TZ;obtain rfl:=eo e;obtain⟨b,s,h1,rfl⟩:=rx;obtain⟨b',s',h2,rfl⟩:=ry;rw[h1]at h2;cases h2;obtain⟨z,hz⟩:=b9.1 lW;simp only[Op.equalIn,Sem.run_bind,dr hu,Result.andThen_ok,eY hz];by_cases YO:z=0
        . simp[YO]
        . simp[YO,sameAddr]
      . cases e
    . obtain rfl:=eo e;simp only[dD]at rx;subst rx;obtain⟨_,_,_,_,rfl,_⟩:=ry;simp[Op.equalIn,dr hu]
    . obtain rfl:=eo e;obtain⟨_,_,_,_,rfl,_⟩:=rx;simp only[dD]at ry;subst ry;simp[Op.equalIn,dr hu]
    . cases e
  . rename_i hu;split at e
    . simp only[dD]at rx ry;subst rx;subst ry;obtain rfl:=eo e;simp[Op.equalIn,dr hu]
    . simp only[dD]at rx;subst rx;obtain⟨_,_,rfl⟩:=ry;obtain rfl:=eo e;simp[Op.equalIn,dr hu]
    . simp only[dD]at ry;subst ry;obtain⟨_,_,rfl⟩:=rx;obtain rfl:=eo e;simp[Op.equalIn,dr hu]
    . cases e
  . rename_i nQ hu;split at e
    . split at e
      . cases e
      . rename_i Bm;obtain⟨B9,rxs,rfl⟩:=rx;obtain⟨JS,rys,rfl⟩:=ry;have hf:P.fieldsOf t=nQ:=by simp[Program.fieldsOf,hu]
        rw[run_equalIn_struct w d t _ _ (by rw[hf];exact hu) (by simpa using Bm),hf];exact s8 (fun u a b a' b' r e ra rb=>ih u a b a' b' r e ra rb) (by simpa using rxs) (by simpa using rys) _ _ e
    . cases e
  . rename_i hu;split at e
    . rename_i b _ _ _;obtain⟨_,_,rfl⟩:=rx;obtain rfl:=eo e;cases b with
      |none=>obtain⟨_,_,rfl⟩:=ry;simp[Op.equalIn,dr hu]
      |some p=>obtain⟨_,_,_,_,_,_,_,_,_,rfl⟩:=ry;simp[Op.equalIn,dr hu]
    . obtain rfl:=eo e;obtain⟨_,_,_,_,_,_,_,_,_,rfl⟩:=rx;obtain⟨_,_,rfl⟩:=ry;simp[Op.equalIn,dr hu]
    . split at e
      . obtain rfl:=eo e;obtain⟨⟨a,cP,vs,rfl,_,_,_,h1⟩,_⟩:=rx;obtain⟨_,_,_,rfl,_⟩:=h1 (Nat.succ_pos _);obtain⟨_,_,rfl⟩:=ry;simp[Op.equalIn,dr hu]
      . cases e
    . cases e
  . rename_i hu;split at e
    . rename_i b;simp only[dD]at rx;subst rx;obtain rfl:=eo e;cases b with
      |none=>simp only[dD]at ry;subst ry;simp[Op.equalIn,dr hu]
      |some p=>obtain⟨_,_,rfl⟩:=ry;simp[Op.equalIn,dr hu]
    . obtain rfl:=eo e;obtain⟨_,_,rfl⟩:=rx;simp only[dD]at ry;subst ry;simp[Op.equalIn,dr hu]
    . cases e
  . cases e
end
section
variable{P:Program}{E:Env}{h:Tr O}{n:Nat}{w:World}
theorem Cf:∀s u:aa,yc s u=Op.bytesLess s u
 |_,[]=>by cases ‹aa›<;>rfl
 | [],_::_=>rfl
 |a::x,b::y=>by
  simp only[yc,Op.bytesLess];have h1:(a<b)↔a.toNat<b.toNat:=UInt8.lt_iff_toNat_lt;have h2:(a=b)↔a.toNat=b.toNat:=UInt8.toNat_inj.symm;rcases Nat.lt_trichotomy a.toNat b.toNat with h|h|h
  . have:Nat.blt a.toNat b.toNat=true:=Nat.ble_eq_true_of_le h;rw[this];simp[h1.2 h]
  . have e1:Nat.blt a.toNat b.toNat=false:=by cases q:Nat.blt a.toNat b.toNat with|false=>rfl|true=>exact absurd (au q) be
    have e2:Nat.beq a.toNat b.toNat=true:=by rw[h];exact cM _
    have e3:¬a<b:=fun q=>by have:=h1.1 q;omega
    have e4:a=b:=h2.2 h;rw[e1,e2];simp only[Cf x y,e4];simp
  . have e1:Nat.blt a.toNat b.toNat=false:=by cases q:Nat.blt a.toNat b.toNat with|false=>rfl|true=>exact absurd (au q) be
    have e2:Nat.beq a.toNat b.toNat=false:=by cases q:Nat.beq a.toNat b.toNat with|false=>rfl|true=>exact absurd (aD q) be
    have e3:¬a<b:=fun q=>by have:=h1.1 q;omega
    have e4:¬a=b:=fun q=>by have:=h2.1 q;omega
    rw[e1,e2];simp[e3,e4]
theorem vQ(s:aa):(⟨s.toArray⟩:ByteArray).toList=s:=by rw[ByteArray.toList_eq]
theorem PG{op:BinOp}{t:TypeId}{x y:Operand}{a b v:V}{a' b':Value}(g:Good E h w)(ra:dD E a a')(rb:dD E b b')(e:B2 P op t x y a b=some v):
  ki P E h n w (do pure (.value (<- (do eqGuard op t x y a' b';binOp op t a' b')))) (.val v h n):=by
 unfold B2 at e;split at e
 . rename_i k m k' m';simp only[dD]at ra rb;subst ra;subst rb;obtain⟨v',q1,q2⟩:=xk e;refine dS g (v':=v') ?_ (q2 E);have hg:(eqGuard op t x y (.int k m) (.int k' m')).run P w= .ok () w:=by cases op<;>rfl
   simp only[Sem.run_bind,hg,Result.andThen_ok,q1];rfl
 . rename_i s u;simp only[dD]at ra rb;subst ra;subst rb;have hg:(eqGuard op t x y (.string ⟨s.toArray⟩) (.string ⟨u.toArray⟩)).run P w= .ok () w:=by cases op<;>rfl
   cases op<;>simp only[Po]at e<;>first
    |(cases e;done)
    |skip
   . split at e
     . rename_i hl;obtain rfl:=eo e;refine dS g (v':=.string (⟨s.toArray⟩++⟨u.toArray⟩)) ?_ ?_
       . have lW:¬(((ByteArray.size ⟨s.toArray⟩+ByteArray.size ⟨u.toArray⟩:Nat):Int)>IntKind.i64.max):=by
          have:(IntKind.i64.max:Int)=9223372036854775807:=by decide
          rw[this];show ¬(((s.toArray.size+u.toArray.size:Nat):Int)>9223372036854775807);unfold w9 at hl;simp only[List.size_toArray];omega
         simp only[Sem.run_bind,hg,Result.andThen_ok,binOp,Op.stringOp];rw[aI lW];rfl
       . show Value.string _= .string ⟨(s++u).toArray⟩;congr 1
     . cases e
   . obtain rfl:=eo e;refine dS g (v':=.bool (eG s u)) ?_ rfl;simp only[Sem.run_bind,hg,Result.andThen_ok,binOp,Op.stringOp,sY];rfl
   . obtain rfl:=eo e;refine dS g (v':=.bool (!eG s u)) ?_ rfl;simp only[Sem.run_bind,hg,Result.andThen_ok,binOp,Op.stringOp,sY];rfl
   . obtain rfl:=eo e;refine dS g (v':=.bool (yc s u)) ?_ rfl;simp only[Sem.run_bind,hg,Result.andThen_ok,binOp,Op.stringOp,Cf,vQ];rfl
   . obtain rfl:=eo e;refine dS g (v':=.bool (yc s u||eG s u)) ?_ rfl;simp only[Sem.run_bind,hg,Result.andThen_ok,binOp,Op.stringOp,sY,fR,Cf,vQ];rfl
   . obtain rfl:=eo e;refine dS g (v':=.bool (!(yc s u||eG s u))) ?_ rfl;simp only[Sem.run_bind,hg,Result.andThen_ok,binOp,Op.stringOp,sY,fR,Cf,vQ];rfl
   . obtain rfl:=eo e;refine dS g (v':=.bool (!yc s u)) ?_ rfl;simp only[Sem.run_bind,hg,Result.andThen_ok,binOp,Op.stringOp,Cf,vQ];rfl
 . rename_i hni F0;have hb:=PF (t:=t) ra rb (fun k m k' m' q=>hni k m k' m' q.1 q.2) (fun s u q=>F0 s u q.1 q.2);have PI:∀r,FN P t x y a b=some r->∀op,(op= .eql\/op= .neq)->(eqGuard op t x y a' b').run P w= .ok () w/\(Op.equal t a' b').run P w= .ok r w:=by
    intro r er op o6;unfold FN at er;split at er
    . simp only[dD]at ra rb;subst ra;subst rb;split at er
      . rename_i aiY;refine⟨?_,FZ (E:=E) 10000 t _ _ _ _ r er rfl rfl⟩;clear hb e;rcases o6 with rfl|rfl<;>cases x<;>cases y<;>first
         |rfl
         |(simp only[isLit,Bool.or_self,aO]at aiY)
      . cases er
    . split at er
      . cases er
      . rename_i hg;obtain⟨B9,rx,rfl⟩:=ra;obtain⟨JS,ry,rfl⟩:=rb;refine⟨run_eqGuard_agg w op t x y _ _ (by simpa using hg),FZ 10000 t _ _ _ _ r er ⟨B9,rx,rfl⟩ ⟨JS,ry,rfl⟩⟩
    . rename_i DW xl;refine⟨?_,FZ 10000 t _ _ _ _ r er ra rb⟩;have t1:=rR ra;have t2:=rR rb;rcases o6 with rfl|rfl<;>cases a'<;>first
       |rfl
       |(cases b'<;>first
        |rfl
        |(exfalso;cases a<;>simp[V.tag,yw]at t1;cases b<;>simp[V.tag,yw]at t2;exact DW rfl rfl)
        |(exfalso;cases a<;>simp[V.tag,yw]at t1;cases b<;>simp[V.tag,yw]at t2;exact xl _ _ rfl rfl))
   split at e
   . cases hq:FN P t x y a b with
     |none=>simp[hq]at e
     |some r=>
      simp only[hq,bh,an]at e;subst e;obtain⟨m1,m2⟩:=PI r hq .eql (.inl rfl);refine dS g (v':=.bool r) ?_ rfl;simp only[Sem.run_bind,m1,Result.andThen_ok,hb.1,m2,Sem.run_pure]
   . cases hq:FN P t x y a b with
     |none=>simp[hq]at e
     |some r=>
      simp only[hq,bh,an]at e;subst e;obtain⟨m1,m2⟩:=PI r hq .neq (.inr rfl);refine dS g (v':=.bool (!r)) ?_ rfl;simp only[Sem.run_bind,m1,Result.andThen_ok,hb.2,m2,Sem.run_pure]
   . cases e
section
variable{t:TypeId}{f:Nat}{x i:V}
theorem T0{op:UnOp}{x v:V}{x':Value}(g:Good E h w)(r:dD E x x')(e:unV op x=some v):ki P E h n w (do pure (.value (<- Op.unary op x'))) (.val v h n):=by
 unfold unV at e;split at e
 . simp only[dD]at r;subst r;obtain⟨v',q1,q2⟩:=xk e;exact dS g (v':=v') (by rw[q1];rfl) (q2 E)
 . simp only[dD]at r;subst r;obtain⟨v',q1,q2⟩:=xk e;exact dS g (v':=v') (by rw[q1];rfl) (q2 E)
 . cases e
theorem HF{e:TypeId}(q:ux P t=some e):P.underlying t=some (.slice e):=by
 unfold ux at q;split at q
 . rename_i hu;simp at q;subst q;exact hu
 . cases q
theorem F1{v:V}{x':Value}(g:Good E h w)(r:dD E x x')(e:xb P t f x=some v):
  ki P E h n w (do pure (.value (<- Instr.fieldAt t x' f))) (.val v h n):=by
 unfold xb at e;split at e
 . rename_i m o;split at e
   . rename_i fs hu;split at e
     . rename_i fd hf;split at e
       . rename_i k hk;obtain rfl:=eo e;obtain⟨b,s,hi,rfl⟩:=r;refine dS g (v':=.pointer (some ⟨b,s+(o+fd.offset),none⟩)) ?_ ⟨b,s,hi,rfl⟩;simp[Instr.fieldAt,dr hu,hf,Instr.sureAddr,fieldPlace,eY hk,Addr.iX,cC]
       . cases e
     . cases e
   . cases e
 . rename_i cs;split at e
   . rename_i fs hu;split at e
     . rename_i fd hf;split at e
       . rename_i k hk;obtain rfl:=eo e;obtain⟨b,o,c,vs,rfl,Bz,hd,hc⟩:=r;refine dS g (v':=.pointer (some ⟨b,o+fd.offset,none⟩)) ?_ ⟨b,_,c,vs.drop fd.offset,rfl,Bz,nV hd,fun j w q=>?_⟩
         . simp[Instr.fieldAt,dr hu,hf,Instr.sureAddr,fieldPlace,eY hk,Addr.iX]
         . rw[bH]at q;rw[<- hc _ w q,cC]
       . cases e
     . cases e
   . cases e
 . cases e
theorem PJ{v:V}{x':Value}(g:Good E h w)(r:dD E x x')(e:JN P t f x=some v):
  ki P E h n w (do pure (.value (<- Instr.field t x' f))) (.val v h n):=by
 unfold JN at e;split at e
 . split at e
   . rename_i fs hu;split at e
     . rename_i fd hf;obtain⟨cs',rc,rfl⟩:=r;obtain⟨v',h1,h2⟩:=yu (P:=P) (w:=w) (cs':=cs'.toArray) (by simpa using rc) e;refine dS g (v':=v') ?_ h2;simp[Instr.field,dr hu,hf,asAgg,h1]
     . cases e
   . cases e
 . cases e
theorem F2{v:V}{x' i':Value}(g:Good E h w)(r:dD E x x')(ri:dD E i i')(e:nU P t x i=some v):
  ki P E h n w (do pure (.value (<- Instr.indexAt t x' i'))) (.val v h n):=by
 unfold nU at e;split at e
 . rename_i k i;simp only[dD]at ri;subst ri;split at e
   . rename_i cO el m o hu;split at e
     . rename_i s hs;split at e
       . rename_i hb;obtain rfl:=eo e;obtain⟨b,sh,hi,rfl⟩:=r;refine dS g (v':=.pointer (some ⟨b,sh+(o+i.toNat*s),none⟩)) ?_ ⟨b,sh,hi,rfl⟩;simp[Instr.indexAt,asIntOf,dr hu,Instr.sureAddr,hb.1,hb.2,eY hs,Addr.iX,cC]
       . cases e
     . cases e
   . rename_i el m o cO cP jx hu;split at e
     . rename_i s hs;split at e
       . rename_i hb;obtain⟨h1,h2,h3⟩:=hb;obtain rfl:=eo e;obtain⟨b,sh,o',gj,hi,q1,q2,q3,q4,rfl⟩:=r;have ho:o'=sh+o:=q1 be;subst ho;refine dS g (v':=.pointer (some ⟨b,sh+(o+i.toNat*s),none⟩)) ?_ ⟨b,sh,hi,rfl⟩;simp[Instr.indexAt,asIntOf,dr hu,h1,h2,eY hs,Addr.iX,cC]
       . cases e
     . cases e
   . rename_i el f cO cs hu;split at e
     . rename_i s hs;split at e
       . rename_i hb;obtain⟨⟨h1,h2⟩,h3⟩:=hb;obtain rfl:=eo e;obtain⟨⟨a,cP,vs,rfl,nF,hd,h0,mF⟩,_⟩:=r;obtain⟨b,o,c,rfl,Bz,hc⟩:=mF be;refine dS g (v':=.pointer (some ⟨b,o+i.toNat*s,none⟩)) ?_ ⟨b,_,c,(vs.drop (i.toNat*s)).take s,rfl,Bz,sP (nV hd),fun j w q=>?_⟩
         . simp[Instr.indexAt,asIntOf,dr hu,h1,h2,eY hs,Addr.iX]
         . rw[bO]at q;split at q
           . rw[bH]at q;rw[<- hc _ w q,cC]
           . cases q
       . cases e
     . cases e
   . rename_i cO el cs hu;split at e
     . rename_i s hs;split at e
       . rename_i hb;obtain rfl:=eo e;obtain⟨b,o,c,vs,rfl,Bz,hd,hc⟩:=r;refine dS g (v':=.pointer (some ⟨b,o+i.toNat*s,none⟩)) ?_ ⟨b,_,c,vs.drop (i.toNat*s),rfl,Bz,nV hd,fun j w q=>?_⟩
         . simp[Instr.indexAt,asIntOf,dr hu,Instr.sureAddr,hb.1,hb.2,eY hs,Addr.iX]
         . rw[bH]at q;rw[<- hc _ w q,cC]
       . cases e
     . cases e
   . cases e
 . cases e
theorem PK{v:V}{x' i':Value}(g:Good E h w)(r:dD E x x')(ri:dD E i i')(e:FO P t x i=some v):
  ki P E h n w (do pure (.value (<- Instr.index t x' i'))) (.val v h n):=by
 unfold FO at e;split at e
 . rename_i k i;simp only[dD]at ri;subst ri;split at e
   . rename_i cO el cs hu;split at e
     . rename_i s hs;split at e
       . rename_i hb;obtain⟨cs',rc,rfl⟩:=r;obtain⟨v',h1,h2⟩:=yu (P:=P) (w:=w) (cs':=cs'.toArray) (by simpa using rc) e;refine dS g (v':=v') ?_ h2;simp[Instr.index,asIntOf,dr hu,hb.1,hb.2,eY hs,h1]
       . cases e
     . cases e
   . rename_i s hu;split at e
     . rename_i hb;split at e
       . rename_i b hsb;obtain rfl:=eo e;simp only[dD]at r;subst r;refine dS g (v':=.int .u8 b.toNat) ?_ rfl;have hg:(⟨s.toArray⟩:ByteArray)[i.toNat]? =some b:=by
          obtain⟨fF,hv⟩:=aF.1 hsb;have lW:i.toNat<(⟨s.toArray⟩:ByteArray).size:=by show i.toNat<s.toArray.size;simpa using fF
          rw[getElem?_pos (⟨s.toArray⟩:ByteArray) i.toNat lW];congr 1
         simp[Instr.index,asIntOf,dr hu,hb,hg]
       . cases e
     . cases e
   . cases e
 . cases e
theorem J1{vs:ag}{i:Nat}{v:V}{x':Value}(g:Good E h w)(r:dD E (.ew vs) x')(e:vs[i]? =some v):
  ki P E h n w (do pure (.value (<- Instr.extract x' i))) (.val v h n):=by
 obtain⟨Xj,rs,rfl⟩:=r;obtain⟨v',h1,h2⟩:=gD rs i v e;refine dS g (v':=v') ?_ h2;simp[Instr.extract,h1]
theorem D8{v:V}{xt t:TypeId}{ok:Bool}{x':Value}(g:Good E h w)(r:dD E x x')(e:uC P x t ok=some v):
  ki P E h n w (do pure (.value (<- Instr.typeAssert x' xt t ok))) (.val v h n):=by
 unfold uC at e;split at e
 . cases e
 . rename_i d hu hd;simp only[dD]at r;subst r;split at e
   . rename_i iD;cases hz:zeroOf P t with
     |none=>simp[hz]at e
     |some z=>
      simp only[hz,an]at e;subst e;obtain⟨z',hr,hv,_⟩:=l8 (w:=w) E hz;refine dS g (v':=.tuple #[z',.bool false]) ?_ ⟨[z',.bool false],⟨z',_,hv,⟨.bool false,[],rfl,rfl,rfl⟩,rfl⟩,rfl⟩;cases d<;>first|(exact absurd rfl (hu _))|simp[Instr.typeAssert,dr hd,iD,hr]
   . cases e
 . rename_i d t2 x2 hu hd;obtain⟨y,ry,rfl⟩:=r;split at e
   . rename_i ht;subst ht;obtain rfl:=eo e;cases ok with
     |true=>
      refine dS g (v':=.tuple #[y,.bool true]) ?_ ⟨[y,.bool true],⟨y,_,ry,⟨.bool true,[],rfl,rfl,rfl⟩,rfl⟩,rfl⟩;cases d<;>first|(exact absurd rfl (hu _))|simp[Instr.typeAssert,dr hd]
     |false=>
      refine dS g (v':=y) ?_ ry;cases d<;>first|(exact absurd rfl (hu _))|simp[Instr.typeAssert,dr hd]
   . rename_i ht;split at e
     . rename_i iD;cases hz:zeroOf P t with
       |none=>simp[hz]at e
       |some z=>
        simp only[hz,an]at e;subst e;obtain⟨z',hr,hv,_⟩:=l8 (w:=w) E hz;refine dS g (v':=.tuple #[z',.bool false]) ?_ ⟨[z',.bool false],⟨z',_,hv,⟨.bool false,[],rfl,rfl,rfl⟩,rfl⟩,rfl⟩;cases d<;>first|(exact absurd rfl (hu _))|simp[Instr.typeAssert,dr hd,iD,hr,ht]
     . cases e
 . cases e
end
end
def od(E:Env):Option V->Option Value->Prop
 |none,y=>y=none
 |some x,y=>∃y',dD E x y'/\y=some y'
section
variable{P:Program}{E:Env}{h:Tr O}{n:Nat}{w:World}
theorem vR{d y r:Nat}{x:V}{x':Value}{c:BoundsCode}(e:eK d y (some x)=some r)(rx:dD E x x'):
  (Instr.sliceBound x' y c).run P w= .ok r w/\r<=y:=by
 unfold eK at e;split at e
 . rename_i q;cases q
 . rename_i k i q;cases q;simp only[dD]at rx;subst rx;split at e
   . rename_i hb;obtain rfl:=eo e;refine⟨?_,be⟩;simp[Instr.sliceBound,asIntOf,hb.1,hb.2]
   . cases e
 . cases e
theorem mG{TA:Bool}{cO cP l hh m:Nat}{lo hi mx:Option V}{T1 kF T2:Option Value}(rl:od E lo T1)(rh:od E hi kF)(rm:od E mx T2)
  (hmh:mx=none\/hi≠none) (e1:eK cP cP mx=some m) (e2:eK cO m hi=some hh) (e3:eK 0 hh lo=some l) (iS:cO<=cP):
  (Instr.sliceBounds TA cO cP T1 kF T2).run P w= .ok (l,hh,m) w/\l<=hh/\hh<=m/\m<=cP:=by
 have low:∀c,((match T1 with|some v=>Instr.sliceBound v hh c|none=>pure 0):Sem Nat).run P w= .ok l w/\l<=hh:=by
  intro c;cases lo with
  |none=>simp only[od]at rl;subst rl;simp only[eK,an]at e3;subst e3;exact⟨rfl,aZ _⟩
  |some x=>obtain⟨x',rx,rfl⟩:=rl;exact vR e3 rx
 cases mx with
 |none=>
  simp only[od]at rm;subst rm;simp only[eK,an]at e1;subst e1;cases hi with
  |none=>
   simp only[od]at rh;subst rh;simp only[eK,an]at e2;subst e2;obtain⟨h1,h2⟩:=low .sliceB;refine⟨?_,h2,iS,aA _⟩;cases T1<;>simp_all [Instr.sliceBounds]
  |some x=>
   obtain⟨x',rx,rfl⟩:=rh;obtain⟨p1,p2⟩:=vR (P:=P) (w:=w) (c:=if TA then .sliceAcap else .sliceAlen) e2 rx;obtain⟨h1,h2⟩:=low .sliceB;refine⟨?_,h2,p2,aA _⟩;cases T1<;>simp_all [Instr.sliceBounds]
 |some y=>
  obtain⟨y',ry,rfl⟩:=rm;obtain⟨p1,p2⟩:=vR (P:=P) (w:=w) (c:=if TA then .slice3Acap else .slice3Alen) e1 ry;cases hi with
  |none=>rcases hmh with q|q<;>simp at q
  |some x=>
   obtain⟨x',rx,rfl⟩:=rh;obtain⟨q1,q2⟩:=vR (P:=P) (w:=w) (c:=.slice3B) e2 rx;obtain⟨h1,h2⟩:=low .slice3C;refine⟨?_,h2,q2,p2⟩;cases T1<;>simp_all [Instr.sliceBounds]
theorem F3(s:aa)(l hh:Nat):(⟨s.toArray⟩:ByteArray).extract l hh=⟨((s.take hh).drop l).toArray⟩:=by
 apply ByteArray.ext;simp[List.extract_eq_take_drop,List.drop_take]
theorem PL{t:TypeId}{x v:V}{x':Value}{lo hi mx:Option V}{T1 kF T2:Option Value}(g:Good E h w)(r:dD E x x')(rl:od E lo T1)(rh:od E hi kF)(rm:od E mx T2)
  (e:mC P t h x lo hi mx=some v):ki P E h n w (do pure (.value (<- Instr.sliceAt t x' T1 kF T2))) (.val v h n):=by
 unfold mC at e;split at e
 . cases e
 . rename_i ac8;have hmh:mx=none\/hi≠none:=by
    cases mx with
    |none=>exact .inl rfl
    |some _=>cases hi with
     |none=>simp at ac8
     |some _=>exact .inr (by simp)
   clear ac8;split at e
   . rename_i s hu;cases mx with
     |some _=>simp at e
     |none=>
      simp only[od]at rm;subst rm;simp only at e;simp only[dD]at r;subst r;cases h2:eK s.length s.length hi with
      |none=>simp[h2]at e
      |some hh=>
       simp only[h2]at e;cases h3:eK 0 hh lo with
       |none=>simp[h3]at e
       |some l=>
        simp only[h3,an]at e;subst e;have lW:(⟨s.toArray⟩:ByteArray).size=s.length:=by show s.toArray.size=_;simp
        obtain⟨q,q1,q2,_⟩:=mG (P:=P) (w:=w) (TA:=false) (cO:=s.length) (cP:=s.length) (mx:=none) (T2:=none) rl rh rfl (.inl rfl) rfl h2 h3 (aA _);refine dS g (v':=.string ⟨((s.take hh).drop l).toArray⟩) ?_ rfl;simp only[Sem.run_bind,Instr.sliceAt,dr hu,Result.andThen_ok,Instr.slice,Option.isSome_none,aO,cG,lW,q,Sem.run_pure,F3 s l hh]
   . rename_i el a cO cP jx hu;split at e
     . rename_i s hs;split at e
       . rename_i hse;cases h1:eK cP cP mx with
         |none=>simp[h1]at e
         |some m=>
          simp only[h1]at e;cases h2:eK cO m hi with
          |none=>simp[h2]at e
          |some hh=>
           simp only[h2]at e;cases h3:eK 0 hh lo with
           |none=>simp[h3]at e
           |some l=>
            simp only[h3,an]at e;subst e;cases a with
            |none=>
             obtain⟨rfl,rfl,rfl⟩:=r;obtain⟨q,q1,q2,q3⟩:=mG (P:=P) (w:=w) (TA:=true) rl rh rm hmh h1 h2 h3 (aA _);have hm:m=0:=by omega
             have hh0:hh=0:=by omega
             have vS:l=0:=by omega
             subst hm;subst hh0;subst vS;refine dS g (v':=.slice none 0 0) ?_ ⟨rfl,rfl,rfl⟩;simp only[Sem.run_bind,Instr.sliceAt,dr hu,Result.andThen_ok,Instr.slice,q,eY hs,Sem.run_pure];rfl
            |some a=>
             obtain⟨bm,o⟩:=a
             have hse:s=jx:=by rcases hse with q|q;. exact q
                               . cases q
             subst hse;obtain⟨b,sh,o',gj,kF,c1,c2,c3,c4,rfl⟩:=r;cases mx with
             |none=>
              simp only[od]at rm;subst rm;simp only[eK,an]at h1;subst h1;have T3:eK cO gj hi=some hh:=by
               cases hi with
               |none=>exact h2
               |some y=>
                unfold eK at h2 ⊢;split at h2
                . rename_i q;cases q
                . rename_i k i q;cases q;split at h2
                  . rename_i hb;rw[aG ⟨hb.1,be⟩];exact h2
                  . cases h2
                . cases h2
              obtain⟨q,q1,q2,q3⟩:=mG (P:=P) (w:=w) (TA:=true) (mx:=none) (T2:=none) (cP:=gj) rl rh rfl (.inl rfl) rfl T3 h3 be;have hhc:hh<=cP:=by
               cases hi with
               |none=>simp only[eK,an]at h2;omega
               |some y=>
                unfold eK at h2;split at h2
                . rename_i q;cases q
                . rename_i k i q;cases q;split at h2
                  . rename_i hb;simp only[an]at h2;omega
                  . cases h2
                . cases h2
              refine dS g (v':=.slice (if gj=l then some ⟨b,o',none⟩else some ⟨b,o'+l*s,none⟩) (hh-l) (gj-l)) ?_ ?_
              . simp only[Sem.run_bind,Instr.sliceAt,dr hu,Result.andThen_ok,Instr.slice,q,eY hs,Sem.run_pure,bh,Addr.iX]
              . by_cases rJ:gj=l
                . rw[aG rJ];refine⟨b,sh,o',gj-l,kF,fun q=>by omega,be,be,?_,rfl⟩;rw[rJ];simp;omega
                . rw[aI rJ];refine⟨b,sh,o'+l*s,gj-l,kF,fun q=>?_,be,be,?_,rfl⟩
                  . rw[c1 be];omega
                  . have hm:l*s+(gj-l)*s=gj*s:=by rw[<- cN];congr 1;omega
                    omega
             |some y=>
              obtain⟨y',ry,rfl⟩:=rm;have mz:eK gj gj (some y)=some m:=by
               unfold eK at h1 ⊢;split at h1
               . rename_i q;cases q
               . rename_i k i q;cases q;split at h1
                 . rename_i hb;rw[aG ⟨hb.1,be⟩];exact h1
                 . cases h1
               . cases h1
              have hmc:m<=cP:=by
               unfold eK at h1;split at h1
               . rename_i q;cases q
               . rename_i k i q;cases q;split at h1
                 . rename_i hb;simp only[an]at h1;omega
                 . cases h1
               . cases h1
              obtain⟨q,q1,q2,q3⟩:=mG (P:=P) (w:=w) (TA:=true) (cP:=gj) rl rh (mx:=some y) (T2:=some y') ⟨y',ry,rfl⟩ hmh mz h2 h3 be;refine dS g (v':=.slice (if m=l then some ⟨b,o',none⟩else some ⟨b,o'+l*s,none⟩) (hh-l) (m-l)) ?_ ?_
              . simp only[Sem.run_bind,Instr.sliceAt,dr hu,Result.andThen_ok,Instr.slice,q,eY hs,Sem.run_pure,bh,Addr.iX]
              . by_cases rJ:m=l
                . rw[aG rJ];refine⟨b,sh,o',m-l,kF,fun q=>by omega,be,be,?_,rfl⟩;rw[rJ];simp;omega
                . rw[aI rJ];refine⟨b,sh,o'+l*s,m-l,kF,fun q=>?_,be,aA _,?_,rfl⟩
                  . rw[c1 be];omega
                  . have hm:l*s+(m-l)*s=m*s:=by rw[<- cN];congr 1;omega
                    have hm2:m*s<=gj*s:=cq _ be;omega
       . cases e
     . cases e
   . rename_i el f cO cs hu;have mW:∀{y cP r:Nat} {o:Option V},eK y y o=some r->y<=cP->o≠none->eK cP cP o=some r/\r<=y:=fun {y cP r o} q hq fN=>by
      cases o with
      |none=>exact absurd rfl fN
      |some v=>
       cases v with
       |int k i=>
        simp only[eK]at q ⊢;split at q
        . rename_i hb;obtain rfl:=eo q;exact⟨aG ⟨hb.1,be⟩,be⟩
        . cases q
       |_=>simp only[eK]at q;cases q
     split at e
     . rename_i s hs;split at e
       . rename_i rJ;obtain⟨⟨a,cP,vs,rfl,nF,hd,h0,mF⟩,yz⟩:=r;have key:∀(l hh m:Nat),l<=hh->hh<=cO->hh<=m->∀(f':Bool),(f'=true->m=hh)->
           dD E (.dO f' (hh-l) ((cs.drop (l*s)).take ((hh-l)*s))) (.slice (if m=l then a else a.map (·.add (l*s))) (hh-l) (m-l)):=by
          intro l hh m k1 k2 k3 f' hf';refine⟨⟨_,_,(vs.drop (l*s)).take ((hh-l)*s),rfl,be,sP (nV hd),fun q=>by rw[q];simp,fun q=>?_⟩,fun q=>⟨_,by rw[hf' q]⟩⟩;obtain⟨b,o,c,rfl,Bz,hc⟩:=mF be;refine⟨b,o+l*s,c,?_,Bz,fun j w hw=>?_⟩
          . rw[aI be];simp[Addr.iX]
          . rw[bO]at hw;split at hw
            . rw[bH]at hw;rw[<- hc _ w hw,cC]
            . cases hw
         cases mx with
         |none=>
          simp only[od]at rm;subst rm;simp only at e;cases h2:eK cO cO hi with
          |none=>simp[h2]at e
          |some hh=>
           simp only[h2]at e;cases h3:eK 0 hh lo with
           |none=>simp[h3]at e
           |some l=>
            simp only[h3,an]at e;subst e;have T3:eK cO cP hi=some hh/\hh<=cO:=by
             cases hi with
             |none=>simp only[eK,an]at h2 ⊢;exact⟨h2,be⟩
             |some y=>
              obtain⟨q1,q2⟩:=mW h2 nF (by simp);exact⟨by cases y<;>exact q1,q2⟩
            obtain⟨q,q1,q2,q3⟩:=mG (P:=P) (w:=w) (TA:=true) (mx:=none) (T2:=none) (cP:=cP) rl rh rfl (.inl rfl) rfl T3.1 h3 nF;refine dS g (v':=.slice (if cP=l then a else a.map (·.add (l*s))) (hh-l) (cP-l)) ?_ (key l hh cP q1 T3.2 q2 _ fun hf=>?_)
            . simp only[Sem.run_bind,Instr.sliceAt,dr hu,Result.andThen_ok,Instr.slice,q,eY hs,Sem.run_pure]
            . simp only[aC,Bool.not_eq_true',Option.isSome_eq_false_iff,Option.isNone_iff_eq_none]at hf;obtain⟨hf1,rfl⟩:=hf;simp only[eK,an]at h2;obtain⟨a',ha'⟩:=yz hf1;simp only[Value.slice.injEq]at ha';omega
         |some y=>
          simp only at e;cases h1:eK cO cO (some y)with
          |none=>simp[h1]at e
          |some m=>
           simp only[h1]at e;cases h2:eK cO m hi with
           |none=>simp[h2]at e
           |some hh=>
            simp only[h2]at e;cases h3:eK 0 hh lo with
            |none=>simp[h3]at e
            |some l=>
             simp only[h3]at e;split at e
             . rename_i hhm;obtain rfl:=eo e;obtain⟨k1,k2⟩:=mW h1 nF (by simp);obtain⟨q,q1,q2,q3⟩:=mG (P:=P) (w:=w) (TA:=true) (cP:=cP) rl rh rm hmh k1 h2 h3 nF;refine dS g (v':=.slice (if m=l then a else a.map (·.add (l*s))) (hh-l) (m-l)) ?_ (key l hh m q1 be q2 _ fun _=>hhm.symm);simp only[Sem.run_bind,Instr.sliceAt,dr hu,Result.andThen_ok,Instr.slice,q,eY hs,Sem.run_pure]
             . cases e
       . cases e
     . cases e
   . rename_i cO el bm o hu;split at e
     . rename_i s hs;cases h1:eK cO cO mx with
       |none=>simp[h1]at e
       |some m=>
        simp only[h1]at e;cases h2:eK cO m hi with
        |none=>simp[h2]at e
        |some hh=>
         simp only[h2]at e;cases h3:eK 0 hh lo with
         |none=>simp[h3]at e
         |some l=>
          simp only[h3]at e;split at e
          . rename_i hb;obtain rfl:=eo e;obtain⟨FY,T4,iu⟩:=hb;unfold yd at iu;split at iu
            . rename_i cs hm;have hlc:o+cO*s<=cs.length:=by simpa using iu
              obtain⟨b,sh,kF,rfl⟩:=r;obtain⟨b',sh',zI,c,Xk,fz,wF,lW,_,EC⟩:=g.rel bm _ hm;rw[kF]at zI;cases zI;obtain⟨q,q1,q2,q3⟩:=mG (P:=P) (w:=w) (TA:=false) rl rh rm hmh h1 h2 h3 (aA _);refine dS g (v':=.slice (some (if m=l then⟨b,sh+o,none⟩else⟨b,sh+o+l*s,none⟩)) (hh-l) (m-l)) ?_ ?_
              . simp only[Sem.run_bind,Instr.sliceAt,dr hu,Result.andThen_ok,Instr.sureAddr,q,eY hs,Sem.run_pure,Addr.iX]
              . have zU:sh+o+m*s<=E.β b:=by
                 have mF:0<cO*s:=Nat.mul_pos T4 FY;have yA:=nY EC (k:=o+cO*s) be hlc;have HG:m*s<=cO*s:=cq _ q3;omega
                by_cases rJ:m=l
                . rw[aG rJ];refine⟨b,sh,sh+o,m-l,kF,fun q=>by omega,be,be,?_,rfl⟩;rw[rJ];simp;omega
                . rw[aI rJ];refine⟨b,sh,sh+o+l*s,m-l,kF,fun q=>by omega,be,aA _,?_,rfl⟩;have hm:l*s+(m-l)*s=m*s:=by rw[<- cN];congr 1;omega
                  omega
            . cases iu
          . cases e
     . cases e
   . cases e
end
end Go.Eng
