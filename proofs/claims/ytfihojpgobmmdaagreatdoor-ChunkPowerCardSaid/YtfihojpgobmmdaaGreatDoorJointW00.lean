/- Lemmas of the engine. No conditions. -/
import GoSem.Core.Ast
import Derived.WalkKit
import Derived.Orders
set_option linter.unusedVariables false
set_option linter.unusedSimpArgs false
set_option linter.unusedSectionVars false
namespace Go.Eng
def kf:List (Nat×Nat):=[(0,0),(1,1),(2,2)]
open Go
abbrev an:=@Option.some.injEq
abbrev au:=@List.mem_singleton
abbrev ax:=@Nat.le_of_ble_eq_true
abbrev ay:=@List.length_append
abbrev az:=@List.getElem?_eq_getElem
abbrev aA:=@Int.natCast_nonneg
abbrev aB:=@Prod.mk.injEq
abbrev aC:=@Nat.le_refl
abbrev aD:=@List.mem_cons
abbrev aE:=@Bool.and_eq_true
abbrev aF:=@if_pos
abbrev aG:=@Nat.eq_of_beq_eq_true
abbrev aH:=@List.getElem?_eq_some_iff
abbrev aI:=@of_decide_eq_true
abbrev aJ:=@if_neg
abbrev aK:=@of_decide_eq_false
abbrev aL:=@congrArg
abbrev aM:=@List.mem_cons_of_mem
abbrev aN:=@List.not_mem_nil
abbrev aO:=@List.getD_eq_getElem?_getD
abbrev aP:=@Bool.false_eq_true
abbrev aQ:=@List.mem_cons_self
abbrev aS:=@Array.getElem?_eq_some_iff
abbrev aT:=@List.length_cons
abbrev aU:=@List.take_length
abbrev aW:=@List.mem_append
abbrev aX:=@Nat.zero_le
abbrev aY:=@List.length_take
abbrev aZ:=@List.map_append
abbrev bf:=@List.length_map
abbrev bg:=@List.mem_of_getElem?
abbrev bh:=@Option.ne_none_iff_exists'
abbrev bj:=@Option.map_some
abbrev bk:=@List.take_of_length_le
abbrev bn:=@Nat.mul_one
abbrev bq:=@Array.getElem?_eq_getElem
abbrev br:=@or_false
abbrev bt:=@List.all_eq_true
abbrev bu:=@List.getElem?_map
abbrev bw:=@List.drop_zero
abbrev bz:=@decide_eq_false
abbrev bA:=@List.append_assoc
abbrev bB:=@List.getElem?_append_left
abbrev bC:=@Nat.lt_of_lt_of_le
abbrev bD:=@decide_eq_true_eq
abbrev bE:=@decide_eq_true
abbrev bF:=@List.mem_map
abbrev bG:=@beq_eq_false_iff_ne
abbrev bH:=@List.take_add_one
abbrev bI:=@Nat.zero_add
abbrev bJ:=@List.drop_eq_getElem_cons
abbrev bK:=@List.getElem?_cons_zero
abbrev bL:=@List.getElem?_drop
abbrev bM:=@List.length_replicate
abbrev bN:=@Array.getElem?_toList
abbrev bO:=@Nat.lt_or_ge
abbrev bP:=@List.length_nil
abbrev bQ:=@List.getElem?_take
abbrev bR:=@Nat.le_trans
abbrev bS:=@List.getElem?_eq_none
abbrev bT:=@Array.getElem?_append_left
abbrev bU:=@List.getElem?_append
abbrev bV:=@Bool.or_eq_true
abbrev bW:=@List.mem_iff_getElem?
abbrev bX:=@List.map_cons
abbrev bY:=@List.take_append_of_le_length
abbrev bZ:=@Int.tmod_eq_emod_of_nonneg
abbrev b7:=@List.length_drop
abbrev b9:=@List.getElem_mem
abbrev cg:=@List.take_append_drop
abbrev cj:=@List.mem_append_right
abbrev ck:=@Array.getD_eq_getD_getElem?
abbrev cm:=@Option.isSome_iff_exists
abbrev cn:=@List.nodup_cons
abbrev cq:=@List.getElem?_append_right
abbrev cr:=@Array.getElem?_modify
abbrev ct:=@List.flatten_append
abbrev cu:=@List.append_nil
abbrev cz:=@Nat.mul_le_mul_right
abbrev cA:=@List.forall_mem_cons
abbrev cB:=@Nat.lt_irrefl
abbrev cC:=@List.length_eq_zero_iff
abbrev cD:=@List.getElem?_cons_succ
abbrev cE:=@Nat.add_assoc
abbrev cF:=@Option.toList_some
abbrev cG:=@Option.some.inj
abbrev cH:=@List.nil_append
abbrev cI:=@Nat.mod_eq_of_lt
abbrev cJ:=@if_false
abbrev cK:=@Nat.mod_two_eq_zero_or_one
abbrev cL:=@List.mem_append_left
abbrev cM:=@Int.fdiv_eq_ediv_of_nonneg
abbrev cN:=@List.map_take
abbrev cO:=@beq_self_eq_true
abbrev cP:=@Nat.beq_refl
abbrev cQ:=@Nat.add_mul
abbrev cR:=@List.foldl_append
abbrev B:=List UInt8
abbrev ah:=List Prop
abbrev aj:=IntKind.i64
theorem U{α:Sort _}{a b:α}(h:a=b:=by kernel_rfl):a=b:=h
section
variable{p:Prop}{α:Type _}
theorem L(h:p:=by omega):p:=h
theorem dP(h:p:=by decide):p:=h
theorem akz(n:Nat):Int.ofNat n=(n:Int):=rfl
theorem dr(h:p:=by simp only[akz];omega):p:=h
theorem dG{α:Type}{a:α}{es cs:α->Prop}(h:cs a):∀g∈[a],es g->cs g:=fun _ hg _=>au.1 hg▸h
theorem kg{l:ah}(h:p)(t:∀a∈l,a):∀a∈p::l,a:=cA.2 ⟨h,t⟩
theorem eE{a b:α}(h:some a=some b):a=b:=cG h
theorem fg{β:Type _}{a c:α}{b d:β}(h:some (a,b)=some (c,d)):a=c/\b=d:=Prod.mk.inj (cG h)
end
inductive lf where
 |bool (b:Bool)
 |int (k:IntKind) (n:Int)
 |str (s:B)
 |dV (n:Nat) (Q:List lf)
 |agg (Q:List lf)
 deriving Inhabited
abbrev ae:=List (lf×lf)
abbrev ai:=List lf
inductive V where
 |bool (b:Bool)
 |int (k:IntKind) (n:Int)
 |str (s:B)
 |ptr (a:Option (Nat×Nat))
 |dx (a:Option (Nat×Nat)) (T A jJ:Nat)
 |map (r:Option Nat)
 |fn (f:Fn) (first captured:List V)
 |kT
 |iface (t:TypeId) (v:V)
 |nilIface
 |agg (Q:List V)
 |ew (vs:List V)
 |dV (f:Bool) (n:Nat) (Q:ai)
 |eK (Q:ai)
 deriving Inhabited
abbrev ag:=List V
mutual
def lf.iZ:lf->V
 | .bool b=>.bool b
 | .int k n=>.int k n
 | .str s=>.str s
 | .dV n Q=>.dV false n Q
 | .agg Q=>.agg (lf.lQ Q)
def lf.lQ:ai->ag
 | []=>[]
 |x::xs=>x.iZ::lf.lQ xs
end
theorem lf.gB:∀l:ai,lf.lQ l=l.map lf.iZ
 | []=>rfl
 |x::xs=>by rw[lf.lQ,lf.gB xs];rfl
def lf.scalar:lf->Bool
 | .agg _=>false
 |_=>true
mutual
def V.QA:V->Option lf
 | .bool b=>some (.bool b)
 | .int k n=>some (.int k n)
 | .str s=>some (.str s)
 | .dV _ n Q=>some (.dV n Q)
 | .dx none _ _ _=>some (.dV 0 [])
 | .dx (some _) 0 _ _=>some (.dV 0 [])
 | .agg Q=>match V.QB Q with
   |some l=>some (.agg l)
   |none=>none
 |_=>none
def V.QB:ag->Option (ai)
 | []=>some []
 |x::xs=>match V.QA x with
  |some d=>match V.QB xs with
   |some l=>match d.scalar with
    |true=>some (d::l)
    |false=>none
   |none=>none
  |none=>none
end
inductive H(α:Type) where
 |nil
 |node (v:Option α) (l r:H α)
 deriving Inhabited
inductive rs where
 |cells (Q:ag)
 |map (C:List (V×V×Nat)) (eD:Nat)
 |oh (s:B) (pos:Nat)
 |ints (k:IntKind) (ks:List Int)
 |own (k:IntKind) (ks:List Int)
 |deep (Q:ai)
 |ia (el:TypeId) (Bg:Bool) (s:B)
 |BO (t:TypeId) (self:Bool) (x:V)
 |dy (kd:Option IntKind) (C:ae)
 |nf
 |loop (st:Bool) (pe:Option Code) (S:H V) (ps:List Nat) (assign body:Code)
 deriving Inhabited
abbrev af:=List (Nat×rs)
def rs.wr:rs->Bool
 | .ints _ _=>false
 |_=>true
def H.get{α:Type}:H α->Nat->Option α
 | .nil,_=>none
 | .node v l r,k=>
   match k with
   |0=>v
   |k+1=>match k%2 with
    |0=>l.get (k/2)
    |_=>r.get (k/2)
def H.sk{α:Type}:Nat->H α->Nat->Option α->H α
 |0,t,_,_=>t
 |f+1,.nil,k,x=>
  match k with
  |0=>.node x .nil .nil
  |k+1=>match k%2 with
   |0=>.node none (H.sk f .nil (k/2) x) .nil
   |_=>.node none .nil (H.sk f .nil (k/2) x)
 |f+1,.node v l r,k,x=>
  match k with
  |0=>.node x l r
  |k+1=>match k%2 with
   |0=>.node v (H.sk f l (k/2) x) r
   |_=>.node v l (H.sk f r (k/2) x)
def fW:Nat:=4294967296
def H.set{α:Type}(t:H α)(k:Nat)(x:Option α):H α:=H.sk 33 t k x
def iQ:Value->Option V
 | .bool b=>some (.bool b)
 | .int k n=>some (.int k n)
 | .string s=>some (.str s.data.toList)
 | .pointer none=>some (.ptr none)
 | .slice none 0 0=>some (.dx none 0 0 0)
 | .map none=>some (.map none)
 | .nilFunc=>some .kT
 | .nilIface=>some .nilIface
 |_=>none
def ov:List Value->Option (ag)
 | []=>some []
 |v::vs=>match iQ v with
  |some x=>match ov vs with
   |some xs=>some (x::xs)
   |none=>none
  |none=>none
def MU:Value->Option V
 | .agg Q=>match ov Q.toList with
   |some xs=>some (.agg xs)
   |none=>none
 |v=>iQ v
def V.cells:V->ag
 | .agg Q=>Q
 |v=>[v]
def V.scalar:V->Bool
 | .agg _ | .ew _=>false
 |_=>true
def lu(P:Program)(t:TypeId):Option Nat:=(P.info? t).map (·.size)
def zeroOf(P:Program)(t:TypeId):Option V:=
 match P.info? t with
 |some i=>match i.zero with
  |some v=>MU v
  |none=>none
 |none=>none
def Ow(P:Program)(t:TypeId):Option Bool:=
 match P.underlying t with
 |some (.struct _)=>some true
 |some (.array _ _)=>some true
 |some _=>some false
 |none=>none
inductive nx where
 |val (v:V) (h:H rs) (n:Nat)
 |call (f:FuncId) (args:ag)
 |nf (f:FuncId) (captured args:ag)
 |recover
 |panic (v:V)
section
variable(h:H rs)(Q:ag)(n o:Nat)
def nu:Option V->Option nx
 |some v=>some (.val v h n)
 |none=>none
def newObj(o:rs):Option (H rs×Nat):=
 if n<fW then some (h.set n (some o),n+1)else none
def cut(size:Nat):Option (ag):=
 if o+size<=Q.length then some ((Q.drop o).take size)else none
def Cx(new:ag):Option (ag):=
 if o+new.length<=Q.length then some (Q.take o++(new++Q.drop (o+new.length)))else none
end
def lT(P:Program)(t:TypeId)(Q:ag)(o:Nat):Option V:=
 match Ow P t with
 |some true=>match lu P t with
  |some s=>(cut Q o s).map .agg
  |none=>none
 |some false=>Q[o]?
 |none=>none
def uZ(m:Nat)(self:Bool)(x:V):ag:=[if self then .ptr (some (m,0))else .ptr none,x]
def Cy(P:Program)(t:TypeId)(z:V):rs:=match z.cells with
 | [.ptr none,.dx none 0 0 0]=>match P.underlying t with
   |some (.struct fs)=>match fs[0]? with
    |some f=>match P.underlying f.type with
     |some (.pointer t')=>if Nat.beq t' t then .BO t false (.dx none 0 0 0)else .cells z.cells
     |_=>.cells z.cells
    |none=>.cells z.cells
   |_=>.cells z.cells
 |_=>.cells z.cells
def loadAt(P:Program)(t:TypeId)(h:H rs):V->Option V
 | .ptr (some (m,o))=>match h.get m with
   |some (.cells Q)=>lT P t Q o
   |some (.ints k ks)=>lT P t (ks.map (.int k)) o
   |some (.own k ks)=>lT P t (ks.map (.int k)) o
   |some (.deep Q)=>lT P t (lf.lQ Q) o
   |some (.BO _ self x)=>lT P t (uZ m self x) o
   |_=>none
 | .eK Q=>lT P t (lf.lQ Q) 0
 |_=>none
inductive Row where
 |vs (Q:ag)
 |is (k:IntKind) (ks:List Int)
 |ds (Q:ai)
def Row.iZ:Row->ag
 | .vs Q=>Q
 | .is k ks=>ks.map (.int k)
 | .ds Q=>lf.lQ Q
def Row.Fo:Row->rs
 | .vs Q=>.cells Q
 | .is k ks=>.own k ks
 | .ds Q=>.deep Q
def rs.row:rs->Option Row
 | .cells Q=>some (.vs Q)
 | .own k ks=>some (.is k ks)
 | .deep Q=>some (.ds Q)
 |_=>none
def rs.Ox:rs->Option Row
 | .cells Q=>some (.vs Q)
 | .own k ks=>some (.is k ks)
 | .ints k ks=>some (.is k ks)
 | .deep Q=>some (.ds Q)
 |_=>none
def iB:ag->Option (ai)
 | []=>some []
 |x::r=>match(match x with
  | .bool b=>some (.bool b)
  | .int k n=>some (.int k n)
  | .str s=>some (.str s)
  | .dV _ n Q=>some (.dV n Q)
  | .dx none _ _ _=>some (.dV 0 [])
  |_=>none:Option lf)with
  |some d=>match iB r with
   |some l=>some (d::l)
   |none=>none
  |none=>none
def pQ(k:IntKind):ag->Option (List Int)
 | []=>some []
 | .int k' x::r=>match decide (k'=k),pQ k r with
   |true,some l=>some (x::l)
   |_,_=>none
 |_::_=>none
def Row.app:Row->Row->Row
 | .vs a,.vs b=>.vs (a++b)
 | .is k a,.is k' b=>match decide (k'=k)with
   |true=>.is k (a++b)
   |false=>.vs (a.map (.int k)++b.map (.int k'))
 | .is k a,.vs b=>match pQ k b with
   |some l=>.is k (a++l)
   |none=>.vs (a.map (.int k)++b)
 | .vs a,.is k b=>match pQ k a with
   |some l=>.is k (l++b)
   |none=>.vs (a++b.map (.int k))
 | .ds a,.ds b=>.ds (a++b)
 | .ds a,.vs b=>match iB b with
   |some l=>.ds (a++l)
   |none=>.vs (lf.lQ a++b)
 | .vs a,.ds b=>match iB a with
   |some l=>.ds (l++b)
   |none=>.vs (a++lf.lQ b)
 | .ds a,.is k b=>.ds (a++b.map (.int k))
 | .is k a,.ds b=>.ds (a.map (.int k)++b)
def Row.cut(o size:Nat):Row->Option Row
 | .vs Q=>match Eng.cut Q o size with
   |some r=>some (.vs r)
   |none=>none
 | .is k ks=>if o+size<=ks.length then some (.is k ((ks.drop o).take size))else none
 | .ds Q=>if o+size<=Q.length then some (.ds ((Q.drop o).take size))else none
def Row.soft:Row->Bool
 | .ds _=>true
 |_=>false
def Row.flat:Row->Bool
 | .vs Q=>Q.all V.scalar
 | .is _ _=>true
 | .ds _=>true
def xn(ks:ai)(o:Nat)(new:ai):ai:=ks.take o++(new++ks.drop (o+new.length))
def fZ(ks:List Int)(o:Nat)(new:List Int):List Int:=ks.take o++(new++ks.drop (o+new.length))
def storeAt(P:Program)(t:TypeId)(h:H rs)(v:V):V->Option (H rs)
 | .ptr (some (m,o))=>match h.get m with
   |some (.cells Q)=>
    match lu P t with
    |some s=>
     if v.cells.length=s/\0<s/\m<fW/\v.cells.all V.scalar=true then
      match Cx Q o v.cells with
      |some cs'=>some (h.set m (some (.cells cs')))
      |none=>none
     else none
    |none=>none
   |some (.own k ks)=>
    match lu P t with
    |some s=>
     if v.cells.length=s/\0<s/\m<fW then
      match pQ k v.cells with
      |some new=>if o+s<=ks.length then some (h.set m (some (.own k (fZ ks o new))))else none
      |none=>none
     else none
    |none=>none
   |some (.deep Q)=>
    match lu P t with
    |some s=>
     if v.cells.length=s/\0<s/\m<fW then
      match iB v.cells with
      |some new=>if o+s<=Q.length then some (h.set m (some (.deep (xn Q o new))))else none
      |none=>none
     else none
    |none=>none
   |some (.BO cS self _)=>match lu P t,v.cells with
    |some 1,[x]=>if o=1/\m<fW/\x.scalar=true then some (h.set m (some (.BO cS self x)))else none
    |_,_=>none
   |_=>none
 |_=>none
def sI(yP:Nat->Option (Nat×Nat)):ag->List (Nat×V)->Option (ag)
 |cells,[]=>some cells
 |cells,(i,v)::rest=>
  match yP i with
  |none=>none
  |some (off,size)=>
   if v.cells.length=size then
    match Cx cells off v.cells with
    |some qI=>sI yP qI rest
    |none=>none
   else none
def tG(P:Program):List Field->Option (List (Nat×Nat))
 | []=>some []
 |f::fs=>match lu P f.type with
  |some s=>match tG P fs with
   |some r=>some ((f.offset,s)::r)
   |none=>none
  |none=>none
def Kt(P:Program)(t:TypeId)(parts:List (Nat×V)):Option V:=
 match zeroOf P t,P.underlying t with
 |some z,some (.struct ow)=>
  match tG P ow.toList with
  |some u6=>(sI (fun i=>u6[i]?) z.cells parts).map .agg
  |none=>none
 |some z,some (.array _ Vm)=>
  match lu P Vm with
  |some s=>(sI (fun i=>some (i*s,s)) z.cells parts).map .agg
  |none=>none
 |_,_=>none
def ig(z:ag):Nat->ag
 |0=>[]
 |n+1=>z++ig z n
def u7(P:Program)(t:TypeId):Option TypeId:=
 match P.underlying t with
 |some (.slice e)=>some e
 |_=>none
def o8(P:Program)(t:TypeId)(T:Nat)(parts:List (Nat×V))(h:H rs)(n:Nat):Option nx:=
 match u7 P t with
 |some e=>match lu P e,zeroOf P e with
  |some s,some z=>
   if 0<s/\T*s<=16777216/\z.cells.length=s then
    match sI (fun i=>some (i*s,s)) (ig z.cells T) parts with
    |some Q=>match newObj h n (.cells Q)with
     |some (h',n')=>some (.val (.dx (some (n,0)) T T s) h' n')
     |none=>none
    |none=>none
   else none
  |_,_=>none
 |none=>none
def tH:Sem Value->Option V
 | .pure v=>iQ v
 |_=>none
def eI:B->B->Bool
 | [],[]=>true
 |a::x,b::y=>match Nat.beq a.toNat b.toNat with
  |true=>eI x y
  |false=>false
 |_,_=>false
def xN:Nat:=9223372036854775807
def yQ:B->B->Bool
 |_,[]=>false
 | [],_::_=>true
 |a::x,b::y=>match Nat.blt a.toNat b.toNat with
  |true=>true
  |false=>match Nat.beq a.toNat b.toNat with
   |true=>yQ x y
   |false=>false
def QC(op:BinOp)(a b:B):Option V:=
 match op with
 | .lss=>some (.bool (yQ a b))
 | .geq=>some (.bool (!yQ a b))
 | .leq=>some (.bool (yQ a b||eI a b))
 | .gtr=>some (.bool (!(yQ a b||eI a b)))
 | .add=>if a.length+b.length<=xN then some (.str (a++b))else none
 | .eql=>some (.bool (eI a b))
 | .neq=>some (.bool (!eI a b))
 |_=>none
def xo(P:Program)(t:TypeId)(Q:ag)(off:Nat):Option V:=lT P t Q off
def eqFields(P:Program)(eq:TypeId->V->V->Option Bool):List Field->ag->ag->Option Bool
 | [],_,_=>some true
 |f::fs,xs,ys=>
  if f.name ≠ "_" then
   match xo P f.type xs f.offset,xo P f.type ys f.offset with
   |some a,some b=>match eq f.type a b with
    |some true=>eqFields P eq fs xs ys
    |some false=>some false
    |none=>none
   |_,_=>none
  else eqFields P eq fs xs ys
def MV(P:Program):Nat->TypeId->V->V->Option Bool
 |0,_,_,_=>none
 |d+1,t,x,y=>
  match P.underlying t with
  |some .bool=>match x,y with
   | .bool a,.bool b=>some (a==b)
   |_,_=>none
  |some (.int _)=>match x,y with
   | .int k a,.int k' b=>if k=k' then some (a==b)else none
   |_,_=>none
  |some .string=>match x,y with
   | .str a,.str b=>some (eI a b)
   |_,_=>none
  |some (.pointer el)=>match x,y with
   | .ptr none,.ptr b=>some b.isNone
   | .ptr (some _),.ptr none=>some false
   | .ptr (some (m,o)),.ptr (some (m',o'))=>if(m=m'/\o=o')/\(lu P el).isSome=true then some true else none
   | .ptr none,.eK _=>some false
   | .eK _,.ptr none=>some false
   |_,_=>none
  |some (.interface _)=>match x,y with
   | .nilIface,.nilIface=>some true
   | .nilIface,.iface _ _=>some false
   | .iface _ _,.nilIface=>some false
   |_,_=>none
  |some (.struct ow)=>match x,y with
   | .agg xs,.agg ys=>if P.stoodInHeld t then none else eqFields P (fun u a b=>MV P d u a b) ow.toList xs ys
   |_,_=>none
  |some (.slice _)=>match x,y with
   | .dx none _ _ _,.dx b _ _ _=>some b.isNone
   | .dx (some _) _ _ _,.dx none _ _ _=>some false
   | .dV _ n _,.dx none _ _ _=>match n with
     |_+1=>some false
     |0=>none
   |_,_=>none
  |some (.map _ _)=>match x,y with
   | .map none,.map b=>some b.isNone
   | .map (some _),.map none=>some false
   |_,_=>none
  |_=>none
def isLit:Operand->Bool
 | .const _=>true
 |_=>false
def Gs(P:Program)(t:TypeId)(x y:Operand)(a b:V):Option Bool:=
 match a,b with
 | .nilIface,.nilIface=>if isLit x||isLit y then MV P 10000 t a b else none
 | .agg _,.agg _=>if P.eqGuardType P.depth t then none else MV P 10000 t a b
 |_,_=>MV P 10000 t a b
def Cz(P:Program)(op:BinOp)(t:TypeId)(x y:Operand)(a b:V):Option V:=
 match a,b with
 | .int k m,.int k' n=>tH (binOp op t (.int k m) (.int k' n))
 | .str s,.str u=>QC op s u
 |a,b=>match op with
  | .eql=>(Gs P t x y a b).map .bool
  | .neq=>(Gs P t x y a b).map fun r=>.bool (!r)
  |_=>none
def unV(op:UnOp):V->Option V
 | .int k n=>tH (Op.unary op (.int k n))
 | .bool b=>tH (Op.unary op (.bool b))
 |_=>none
def CA(s:B):ag:=s.map fun b=>.int .u8 b.toNat
def eo(s:B):List Int:=s.map fun b=>(b.toNat:Int)
def eW(ks:List Int):B:=ks.map fun n=>UInt8.ofNat n.toNat
def u9:Option rs->Option (B)
 |some (.ia _ _ s)=>some s
 |_=>none
def Bh:Option rs->Option (List Int)
 |some (.own .u8 ks)=>some ks
 |some (.ints .u8 ks)=>some ks
 |_=>none
def rP:ag->Option (B)
 | []=>some []
 | .int .u8 n::vs=>match rP vs with
   |some bs=>some (UInt8.ofNat n.toNat::bs)
   |none=>none
 |_::_=>none
def qJ(P:Program)(MW dst:TypeId)(v:V)(h:H rs)(n:Nat):Option nx:=
 match P.underlying MW,P.underlying dst,v with
 |some _,some (.int k),.int _ m=>some (.val (.int k (k.wrap m)) h n)
 |some _,some .string,.str s=>some (.val (.str s) h n)
 |some .string,some (.slice e),.str s=>
  match P.underlying e with
  |some (.int .u8)=>match newObj h n (.own .u8 (eo s))with
   |some (h',n')=>some (.val (.dx (some (n,0)) s.length s.length 1) h' n')
   |none=>none
  |_=>none
 |some (.slice e),some .string,.dV _ 0 _=>
  match P.underlying e with
  |some (.int .u8)=>some (.val (.str []) h n)
  |_=>none
 |some (.slice e),some .string,.dx none _ _ _=>
  match P.underlying e with
  |some (.int .u8)=>some (.val (.str []) h n)
  |_=>none
 |some (.slice e),some .string,.dx (some (m,o)) T _ jJ=>
  match P.underlying e with
  |some (.int .u8)=>if jJ=1 then(match u9 (h.get m)with
   |some s0=>if T=0\/o+T<=s0.length then some (.val (.str ((s0.drop o).take T)) h n)else none
   |none=>match Bh (h.get m)with
   |some ks=>if T=0\/o+T<=ks.length then some (.val (.str (eW ((ks.drop o).take T))) h n)else none
   |none=>match T with
   |0=>some (.val (.str []) h n)
   |_=>match h.get m with
    |some (.cells Q)=>match cut Q o T with
     |some bs=>match rP bs with
      |some s=>some (.val (.str s) h n)
      |none=>none
     |none=>none
    |_=>none)else none
  |_=>none
 |_,_,_=>none
def uK(ks:List Int):Nat->List Int
 |0=>[]
 |n+1=>ks++uK ks n
def BP(ks:ai):Nat->ai
 |0=>[]
 |n+1=>ks++BP ks n
def wv(z:ag)(n:Nat):Row:=match z with
 | .int k x::r=>match pQ k (.int k x::r)with
   |some ks=>.is k (uK ks n)
   |none=>match iB (.int k x::r)with
    |some ds=>.ds (BP ds n)
    |none=>.vs (ig (.int k x::r) n)
 |z=>match iB z with
  |some ds=>.ds (BP ds n)
  |none=>.vs (ig z n)
def ox(P:Program)(t:TypeId)(l c:V)(h:H rs)(n:Nat):Option nx:=
 match u7 P t,l,c with
 |some e,.int _ l,.int _ c=>
  match P.info? e,zeroOf P e with
  |some i,some z=>
   let l':=IntKind.i64.wrap l
   let c':=IntKind.i64.wrap c
   if 0<i.size/\z.cells.length=i.size/\0<=l'/\l'<=c'/\i.bytes*c'<=281474976710656 then
    match newObj h n (wv z.cells c'.toNat).Fo with
    |some (h',n')=>some (.val (.dx (some (n,0)) l'.toNat c'.toNat i.size) h' n')
    |none=>none
   else none
  |_,_=>none
 |_,_,_=>none
def eO(vc:Nat)(y:Nat):Option V->Option Nat
 |none=>some vc
 |some (.int _ i)=>if 0<=i/\i<=y then some i.toNat else none
 |some _=>none
def yR(h:H rs)(m k:Nat):Bool:=
 match h.get m with
 |some (.cells Q)=>decide (k<=Q.length)
 |_=>false
def mQ(P:Program)(t:TypeId)(hp:H rs)(x:V)(lo hi mx:Option V):Option V:=
 if mx.isSome=true/\hi.isSome=false then none else
 match P.underlying t,x with
 |some .string,.str s=>
  match mx with
  |some _=>none
  |none=>match eO s.length s.length hi with
   |some h=>match eO 0 h lo with
    |some l=>some (.str ((s.take h).drop l))
    |none=>none
   |none=>none
 |some (.slice e),.dx a T A jJ=>
  match lu P e with
  |some s=>if s=jJ\/a=none then
    match eO A A mx with
    |some m=>match eO T m hi with
     |some h=>match eO 0 h lo with
      |some l=>some (.dx (match a with|none=>none|some (b,o)=>some (b,o+l*jJ)) (h-l) (m-l) jJ)
      |none=>none
     |none=>none
    |none=>none
   else none
  |none=>none
 |some (.slice e),.dV f T Q=>
  match lu P e with
  |some s=>if Q.length=T*s then
    match mx with
    |none=>match eO T T hi with
     |some h=>match eO 0 h lo with
      |some l=>some (.dV (f&& !hi.isSome) (h-l) ((Q.drop (l*s)).take ((h-l)*s)))
      |none=>none
     |none=>none
    |some m=>match eO T T (some m)with
     |some m=>match eO T m hi with
      |some h=>match eO 0 h lo with
       |some l=>if h=m then some (.dV true (h-l) ((Q.drop (l*s)).take ((h-l)*s)))else none
       |none=>none
      |none=>none
     |none=>none
   else none
  |none=>none
 |some (.array n e),.ptr (some (b,o))=>
  match lu P e with
  |some s=>
   match eO n n mx with
   |some m=>match eO n m hi with
    |some h=>match eO 0 h lo with
     |some l=>if 0<s/\0<n/\yR hp b (o+n*s)=true then some (.dx (some (b,o+l*s)) (h-l) (m-l) s)else none
     |none=>none
    |none=>none
   |none=>none
  |none=>none
 |_,_=>none
def xO(P:Program)(t:TypeId)(f:Nat):V->Option V
 | .ptr (some (m,o))=>match P.underlying t with
   |some (.struct fs)=>match fs[f]? with
    |some fd=>match lu P fd.type with
     |some (_+1)=>some (.ptr (some (m,o+fd.offset)))
     |_=>none
    |none=>none
   |_=>none
 | .eK Q=>match P.underlying t with
   |some (.struct fs)=>match fs[f]? with
    |some fd=>match lu P fd.type with
     |some (_+1)=>some (.eK (Q.drop fd.offset))
     |_=>none
    |none=>none
   |_=>none
 |_=>none
def Ku(P:Program)(t:TypeId)(f:Nat):V->Option V
 | .agg Q=>match P.underlying t with
   |some (.struct fs)=>match fs[f]? with
    |some fd=>xo P fd.type Q fd.offset
    |none=>none
   |_=>none
 |_=>none
def oy(P:Program)(t:TypeId)(x ix:V):Option V:=
 match ix with
 | .int _ i=>
   match P.underlying t,x with
   |some (.array T e),.ptr (some (m,o))=>
    match lu P e with
    |some s=>if 0<=i/\i<T then some (.ptr (some (m,o+i.toNat*s)))else none
    |none=>none
   |some (.slice e),.dx (some (m,o)) T _ jJ=>
    match lu P e with
    |some s=>if 0<=i/\i<T/\s=jJ then some (.ptr (some (m,o+i.toNat*s)))else none
    |none=>none
   |some (.slice e),.dV _ T Q=>
    match lu P e with
    |some s=>if(0<=i/\i<T)/\Q.length=T*s then some (.eK ((Q.drop (i.toNat*s)).take s))else none
    |none=>none
   |some (.array T e),.eK Q=>
    match lu P e with
    |some s=>if 0<=i/\i<T then some (.eK (Q.drop (i.toNat*s)))else none
    |none=>none
   |_,_=>none
 |_=>none
def Gt(P:Program)(t:TypeId)(x ix:V):Option V:=
 match ix with
 | .int _ i=>
   match P.underlying t,x with
   |some (.array T e),.agg Q=>
    match lu P e with
    |some s=>if 0<=i/\i<T then xo P e Q (i.toNat*s)else none
    |none=>none
   |some .string,.str s=>
    if 0<=i then(match s[i.toNat]? with
     |some b=>some (.int .u8 b.toNat)
     |none=>none)else none
   |_,_=>none
 |_=>none
def yS:TypeDesc->V->V->Option Bool
 | .int _,.int k a,.int k' b=>if k=k' then some (a==b)else none
 | .string,.str a,.str b=>some (eI a b)
 |_,_,_=>none
def je:lf->lf->Bool
 | .int k a,.int k' b=>decide (k=k')&&decide (a=b)
 | .str a,.str b=>eI a b
 |_,_=>false
def gK:Option IntKind->lf->Bool
 |some k,.int k' _=>decide (k'=k)
 |none,.str _=>true
 |_,_=>false
def mR:TypeDesc->Option IntKind->Bool
 | .int k,some k'=>decide (k=k')
 | .string,none=>true
 |_,_=>false
def dj(k:lf):ae->Option lf
 | []=>none
 |e::C=>match je k e.1 with
  |true=>some e.2
  |false=>dj k C
def iK(k v:lf):ae->ae
 | []=>[(k,v)]
 |e::C=>match je k e.1 with
  |true=>(k,v)::C
  |false=>e::iK k v C
def mh(k:lf):ae->ae
 | []=>[]
 |e::C=>match je k e.1 with
  |true=>C
  |false=>e::mh k C
def lf.fI(z:V):Option lf->V
 |some d=>d.iZ
 |none=>z
def keyOf:V->Option lf
 | .int k n=>some (.int k n)
 | .str s=>some (.str s)
 |_=>none
def ve(kd:TypeDesc)(k:V):List (V×V×Nat)->Nat->Option (Option (Nat×V×V×Nat))
 | [],_=>some none
 |e::C,i=>
  match yS kd k e.1 with
  |some true=>some (some (i,e))
  |some false=>ve kd k C (i+1)
  |none=>none
def CB:TypeDesc->V->Bool
 | .int _,.int _ _=>true
 | .string,.str _=>true
 |_,_=>false
def V.YI(h:H rs):V->Option rs
 | .map (some r)=>h.get r
 |_=>none
def wz(P:Program)(t:TypeId)(h:H rs)(x k:V)(ok:Bool):Option V:=
 match P.underlying t with
 |some (.map kt et)=>match P.underlying kt,zeroOf P et with
  |some kd,some z=>
   match x,x.YI h with
   | .map (some _),some (.dy kk C)=>match keyOf k with
     |some k=>if mR kd kk&&gK kk k then some (if ok then .ew [lf.fI z (dj k C),.bool (dj k C).isSome]else lf.fI z (dj k C))else none
     |none=>none
   |x,_=>
   if CB kd k then
    match(match x with
     | .map none=>some []
     | .map (some r)=>(match h.get r with
       |some (.map C _)=>some C
       |_=>none)
     |_=>none:Option (List (V×V×Nat)))with
    |some C=>match ve kd k C 0 with
     |some (some (_,_,v,_))=>some (if ok then .ew [v,.bool true]else v)
     |some none=>some (if ok then .ew [z,.bool false]else z)
     |none=>none
    |none=>none
   else none
  |_,_=>none
 |_=>none
def tJ{α:Type}:List α->Nat->(α->α)->List α
 | [],_,_=>[]
 |x::xs,0,f=>f x::xs
 |x::xs,i+1,f=>x::tJ xs i f
def tK(P:Program)(t:TypeId)(h:H rs)(n:Nat)(m k v:V):Option nx:=
 match P.underlying t,m with
 |some (.map kt _),.map (some r)=>match P.underlying kt,h.get r with
  |some kd,some (.map C eD)=>
   if CB kd k/\r<fW then
    match ve kd k C 0 with
    |some (some (i,_))=>some (.val (.ew []) (h.set r (some (.map (tJ C i fun e=>(k,v,e.2.2)) eD))) n)
    |some none=>some (.val (.ew []) (h.set r (some (.map (C++[(k,v,eD)]) (eD+1)))) n)
    |none=>none
   else none
  |some kd,some (.dy kk C)=>match keyOf k,V.QA v with
   |some k,some v=>if mR kd kk&&(gK kk k&&decide (r<fW))then some (.val (.ew []) (h.set r (some (.dy kk (iK k v C)))) n)else none
   |_,_=>none
  |_,_=>none
 |_,_=>none
def Gu(P:Program)(eH:Array TypeId)(args:ag)(h:H rs)(n:Nat):Option nx:=
 match eH[0]?,args with
 |some t,[.map (some r),k]=>match P.underlying t with
  |some (.map kt _)=>match P.underlying kt,h.get r,keyOf k with
   |some kd,some (.dy kk C),some k=>if mR kd kk&&(gK kk k&&decide (r<fW))then some (.val (.ew []) (h.set r (some (.dy kk (mh k C)))) n)else none
   |_,_,_=>none
  |_=>none
 |_,_=>none
def Al(P:Program)(t:TypeId)(h:H rs)(n:Nat)(m k:V):Option nx:=
 match P.underlying t,m with
 |some (.map kt et),.map (some r)=>match P.underlying kt,h.get r,zeroOf P et with
  |some kd,some (.map C eD),some z=>
   if CB kd k/\r<fW then
    match ve kd k C 0 with
    |some (some (i,e))=>some (.val (.ew [e.2.1,.int .i64 e.2.2]) (h.set r (some (.map (tJ C i fun e=>(k,e.2.1,e.2.2)) eD))) n)
    |some none=>some (.val (.ew [z,.int .i64 eD]) (h.set r (some (.map (C++[(k,z,eD)]) (eD+1)))) n)
    |none=>none
   else none
  |_,_,_=>none
 |_,_=>none
def Am(b:Int):List (V×V×Nat)->Nat->Option Nat
 | [],_=>none
 |e::C,i=>if(e.2.2:Int)==b then some i else Am b C (i+1)
def vf(h:H rs)(n:Nat)(m aeE v:V):Option nx:=
 match m,aeE with
 | .map (some r),.int _ b=>match h.get r with
   |some (.map C eD)=>
    if r<fW then
     match Am b C 0 with
     |some i=>some (.val (.ew []) (h.set r (some (.map (tJ C i fun e=>(e.1,v,e.2.2)) eD))) n)
     |none=>none
    else none
   |_=>none
 |_,_=>none
def vg(P:Program)(x:V)(yT:TypeId)(ok:Bool):Option V:=
 match P.underlying yT,x with
 |some (.interface _),_=>none
 |some _,.nilIface=>if ok then(match zeroOf P yT with|some z=>some (.ew [z,.bool false])|none=>none)else none
 |some _,.iface t v=>if t=yT then some (if ok then .ew [v,.bool true]else v)
  else if ok then(match zeroOf P yT with|some z=>some (.ew [z,.bool false])|none=>none)else none
 |_,_=>none
def jL(h:H rs)(size:Nat):V->Option (Nat×Row)
 | .dx none T _ _=>if T=0 then some (0,.vs [])else none
 | .dx (some (m,o)) T _ jJ=>if jJ=size then(match T with
   |0=>some (0,.vs [])
   |_=>match h.get m with
    |some ob=>match ob.Ox with
     |some r=>match r.cut o (T*size)with
      |some r=>some (T,r)
      |none=>none
     |none=>none
    |none=>none)else none
 | .str s=>if size=1 then some (s.length,.is .u8 (eo s))else none
 | .dV _ T Q=>if Q.length=T*size then some (T,.ds Q)else none
 |_=>none
def vh:ag->Option (B)
 | []=>some []
 | .int .u8 x::r=>match vh r with
   |some l=>some (UInt8.ofNat x.toNat::l)
   |none=>none
 |_::_=>none
def vi:Row->Option (B)
 | .is .u8 ks=>some (eW ks)
 | .vs Q=>vh Q
 |_=>none
def CC(e:TypeId)(x:V)(new:Row):rs:=match x with
 | .str t=>.ia e false t
 |_=>new.Fo
def fa(Oy size bytes:Nat):Bool:=decide (Oy*bytes<=281474976710/\Oy*size<=281474976710)
def Kv:TypeDesc->Bool
 | .slice _=>true
 | .string=>true
 |_=>false
def yU(P:Program)(eH:Array TypeId)(args:ag)(h:H rs)(n:Nat):Option nx:=
 match eH[0]?,eH[1]?,args with
 |some st,some xt,[s,x]=>
  match u7 P st,P.underlying xt with
  |some e,some xd=>
   match Kv xd,P.info? e,zeroOf P e with
   |true,some i,some z=>
    if 0<i.size/\0<i.bytes/\z.cells.length=i.size then
     match jL h i.size x with
     |some (k,new)=>
      if new.flat=true then
      match s with
      | .dx none 0 _ _=>
        match k with
        |0=>some (.val (.dx none 0 0 0) h n)
        |_=>if fa k i.size i.bytes then(match newObj h n (CC e x new)with
         |some (h',n')=>some (.val (.dx (some (n,0)) k k i.size) h' n')
         |none=>none)else none
      | .dV true T Q=>
        match k with
        |0=>some (.val (.dV true T Q) h n)
        |_=>if fa (T+k) i.size i.bytes/\Q.length=T*i.size then(match newObj h n ((Row.ds Q).app new).Fo with
         |some (h',n')=>some (.val (.dx (some (n,0)) (T+k) (T+k) i.size) h' n')
         |none=>none)else none
      | .dx (some (m,o)) T A jJ=>
        if jJ=i.size/\fa (T+k) i.size i.bytes/\m<fW then
         match h.get m with
         |some (.ia el Bg s0)=>match vi new with
          |some t=>if(o=0/\0<A)/\(T<=s0.length/\(Bg=true->T=s0.length))/\(i.size=1/\el=e)then(match newObj (h.set m none) n (.ia el Bg (s0.take T++t))with
           |some (h',n')=>some (.val (.dx (some (n,0)) (T+k) (T+k) jJ) h' n')
           |none=>none)else none
          |none=>none
         |some ob=>match ob.row with
          |some r=>
           match(if r.soft=false/\T=0 then some (.vs [])else r.cut o (T*i.size):Option Row)with
           |some old=>
            if new.soft=false/\k=0 then some (.val s h n)
            else match newObj (h.set m none) n (old.app new).Fo with
             |some (h',n')=>some (.val (.dx (some (n,0)) (T+k) (T+k) jJ) h' n')
             |none=>none
           |none=>none
          |none=>none
         |_=>none
        else none
      |_=>none
      else none
     |none=>none
    else none
   |_,_,_=>none
  |_,_=>none
 |_,_,_=>none
def Oz(P:Program)(eH:Array TypeId)(args:ag)(h:H rs):Option V:=
 match eH[0]?,args with
 |some t,[x]=>match P.underlying t,x with
  |some .string,.str s=>some (.int .i64 s.length)
  |some (.array n _),_=>some (.int .i64 n)
  |some (.slice _),.dx _ T _ _=>some (.int .i64 T)
  |some (.slice _),.dV _ T _=>some (.int .i64 T)
  |some (.map _ _),.map none=>some (.int .i64 0)
  |some (.map _ _),.map (some r)=>match h.get r with
   |some (.map C _)=>some (.int .i64 C.length)
   |some (.dy _ C)=>some (.int .i64 C.length)
   |_=>none
  |_,_=>none
 |_,_=>none
def CD(P:Program)(t:TypeId)(x:V)(h:H rs)(n:Nat):Option nx:=
 match P.underlying t,x with
 |some .string,.str s=>match newObj h n (.oh s 0)with
  |some (h',n')=>some (.val (.ptr (some (n,0))) h' n')
  |none=>none
 |_,_=>none
def QD(x:V)(QE:Bool)(h:H rs)(n:Nat):Option nx:=
 match x,QE with
 | .ptr (some (m,0)),true=>match h.get m with
   |some (.oh s pos)=>
    if pos<s.length then
     let cw:=Utf8.decode ⟨s.toArray⟩ pos
     if m<fW then some (.val (.ew [.bool true,.int .i64 pos,.int .i32 cw.1]) (h.set m (some (.oh s (pos+cw.2)))) n)else none
    else some (.val (.ew [.bool false]) h n)
   |_=>none
 |_,_=>none
def Ii:V->ag->Option V
 |x,[]=>some x
 | .int k a,.int _ b::vs=>Ii (.int k (if b>a then b else a)) vs
 |_,_=>none
def Ij:V->ag->Option V
 |x,[]=>some x
 | .int k a,.int _ b::vs=>Ij (.int k (if b<a then b else a)) vs
 |_,_=>none
def QF:List (Nat×Nat)->Nat->Option V
 | [],_=>none
 |p::r,g=>match Nat.beq p.1 g with
  |true=>some (.ptr (some (p.2,0)))
  |false=>QF r g
def iX(S:H V):Operand->Option V
 | .tmp t=>S.get t
 | .const v=>MU v
 | .func f=>some (.fn (.func f) [] [])
 | .global g=>QF kf g
def vj(S:H V):List Operand->Option (ag)
 | []=>some []
 |x::xs=>match iX S x with
  |some v=>match vj S xs with
   |some vs=>some (v::vs)
   |none=>none
  |none=>none
def mS(S:H V):Option Operand->Option (Option V)
 |none=>some none
 |some x=>match iX S x with
  |some v=>some (some v)
  |none=>none
def qK(S:H V):List (Nat×Operand)->Option (List (Nat×V))
 | []=>some []
 |(i,x)::xs=>match iX S x with
  |some v=>match qK S xs with
   |some vs=>some ((i,v)::vs)
   |none=>none
  |none=>none
def callee(P:Program)(f:FuncId):Bool:=
 match P.funcs[f]? with
 |some fn=>fn.body.isSome&&fn.name != "runtime.NumGoroutine"
 |none=>false
def lU(P:Program)(b:Builtin)(eH:Array TypeId)(args:ag)(h:H rs)(n:Nat):Option nx:=
 match b with
 | .append=>if eH.size=2 then yU P eH args h n else none
 | .len=>nu h n (Oz P eH args h)
 | .max=>match args with
   |x::xs=>nu h n (Ii x xs)
   | []=>none
 | .min=>match args with
   |x::xs=>nu h n (Ij x xs)
   | []=>none
 | .panic=>match args with
   | [.iface t v]=>some (.panic (.iface t v))
   |_=>none
 | .recover=>some .recover
 | .unsafeSliceData=>match args with
   | [.dx (some (m,o)) _ A _]=>if 0<A then some (.val (.ptr (some (m,o))) h n)else none
   |_=>none
 | .unsafeString=>match eH[0]?,args with
   |some pt,[.ptr (some (m,0)),.int .i64 l]=>match P.underlying pt,h.get m with
    |some (.pointer e),some (.ia el _ s)=>if(l=s.length/\0<s.length)/\(el=e/\P.cellsOf e=1)/\(m<fW/\eH.size=2/\s.length<=xN)then some (.val (.str s) (h.set m (some (.ia el true s))) n)else none
    |_,_=>none
   |_,_=>none
 | .delete=>if eH.size=2 then Gu P eH args h n else none
 |_=>none
def xp(P:Program)(S:H V)(c:Call)(h:H rs)(n:Nat):Option nx:=
 match vj S c.args.toList with
 |some args=>match c.callee with
  | .builtin b=>lU P b c.argTypes args h n
  | .invoke _ _=>none
  | .value f=>match iX S f with
    |some (.fn (.func g) first captured)=>if callee P g then some (.call g (first++args++captured))else none
    |some (.fn (.yield m) [] [])=>match h.get m with
     |some (.loop _ _ _ ps _ _)=>if ps.length=args.length then some (.call (P.funcs.size+m) args)else none
     |_=>none
    |_=>none
 |none=>none
def CE(S:H V)(c:Call):Option nx:=
 match vj S c.args.toList with
 |some args=>match c.callee with
  | .value f=>match iX S f with
    |some (.fn (.func g) first captured)=>some (.nf g captured (first++args))
    |_=>none
  |_=>none
 |none=>none
def wA:Fn->Bool
 | .yield _=>false
 |_=>true
def dH(P:Program)(o:Oper)(S:H V)(h:H rs)(n:Nat):Option nx:=
 match o.op with
 | .move x=>nu h n (iX S x)
 | .assign x=>nu h n (iX S x)
 | .pick c a b=>match iX S c with
   |some (.bool true)=>nu h n (iX S a)
   |some (.bool false)=>nu h n (iX S b)
   |_=>none
 | .alloc e=>match zeroOf P e with
   |some z=>match newObj h n (Cy P e z)with
    |some (h',n')=>some (.val (.ptr (some (n,0))) h' n')
    |none=>none
   |none=>none
 | .box _ x=>match iX S x with
   |some v=>match newObj h n (.cells v.cells)with
    |some (h',n')=>some (.val (.ptr (some (n,0))) h' n')
    |none=>none
   |none=>none
 | .build t parts=>match qK S parts.toList with
   |some ps=>nu h n (Kt P t ps)
   |none=>none
 | .buildSlice t T parts=>match qK S parts.toList with
   |some ps=>o8 P t T ps h n
   |none=>none
 | .load t a=>match iX S a with
   |some v=>nu h n (loadAt P t h v)
   |none=>none
 | .store t a x=>match iX S a,iX S x with
   |some av,some xv=>match storeAt P t h xv av with
    |some h'=>some (.val (.ew []) h' n)
    |none=>none
   |_,_=>none
 | .nilCheck x=>match iX S x with
   |some (.ptr (some p))=>some (.val (.ptr (some p)) h n)
   |some (.eK Q)=>some (.val (.eK Q) h n)
   |some (.fn (.func f) a c)=>some (.val (.fn (.func f) a c) h n)
   |some (.iface t v)=>some (.val (.iface t v) h n)
   |_=>none
 | .binOp op t x y _=>match iX S x,iX S y with
   |some a,some b=>nu h n (Cz P op t x y a b)
   |_,_=>none
 | .unOp op _ x=>match iX S x with
   |some v=>nu h n (unV op v)
   |none=>none
 | .convert MW dst x=>match iX S x with
   |some v=>qJ P MW dst v h n
   |none=>none
 | .makeInterface t x=>match iX S x,P.underlying t with
   |some v,some d=>match d with
    | .interface _=>none
    |_=>some (.val (.iface t v) h n)
   |_,_=>none
 | .makeFunc f first captured=>match vj S first.toList,vj S captured.toList with
   |some a,some c=>if wA f=true then some (.val (.fn f a c) h n)else none
   |_,_=>none
 | .makeMap _ none=>match newObj h n (.map [] 0)with
   |some (h',n')=>some (.val (.map (some n)) h' n')
   |none=>none
 | .makeSlice t l c=>match iX S l,iX S c with
   |some l,some c=>ox P t l c h n
   |_,_=>none
 | .slice t x lo hi mx=>match iX S x,mS S lo,mS S hi,mS S mx with
   |some v,some lo,some hi,some mx=>nu h n (mQ P t h v lo hi mx)
   |_,_,_,_=>none
 | .fieldAddr t x f=>match iX S x with
   |some v=>nu h n (xO P t f v)
   |none=>none
 | .field t x f=>match iX S x with
   |some v=>nu h n (Ku P t f v)
   |none=>none
 | .indexAddr t x i=>match iX S x,iX S i with
   |some v,some i=>nu h n (oy P t v i)
   |_,_=>none
 | .index t x i=>match iX S x,iX S i with
   |some v,some i=>nu h n (Gt P t v i)
   |_,_=>none
 | .lookup t x k ok=>match iX S x,iX S k with
   |some x,some k=>nu h n (wz P t h x k ok)
   |_,_=>none
 | .mapUpdate t m k v=>match iX S m,iX S k,iX S v with
   |some m,some k,some v=>tK P t h n m k v
   |_,_,_=>none
 | .insert t m k v=>match iX S m,iX S k,iX S v with
   |some m,some k,some v=>tK P t h n m k v
   |_,_,_=>none
 | .mapEntry t m k=>match iX S m,iX S k with
   |some m,some k=>Al P t h n m k
   |_,_=>none
 | .entryStore _ m s v=>match iX S m,iX S s,iX S v with
   |some m,some s,some v=>vf h n m s v
   |_,_,_=>none
 | .typeAssert x _ t ok=>match iX S x with
   |some v=>nu h n (vg P v t ok)
   |none=>none
 | .extract x i=>match iX S x with
   |some (.ew vs)=>nu h n (vs[i]?)
   |_=>none
 | .range t x=>match iX S x with
   |some v=>CD P t v h n
   |none=>none
 | .next it b=>match iX S it with
   |some v=>QD v b h n
   |none=>none
 | .panic x=>match iX S x with
   |some (.iface t v)=>some (.panic (.iface t v))
   |_=>none
 | .call c=>xp P S c h n
 | .defer c=>CE S c
 |_=>none
structure St where
 S:H V
 h:H rs
 n:Nat
 gD:List (FuncId×ag×ag)
 deriving Inhabited
inductive h1 where
 |normal
 |exit (id:Nat)
 |ret
 |panic (v:V)
inductive QG where
 |ret (v:V)
 |An (v:V)
abbrev ga:=FuncId->ag->H rs->Nat->Option (QG×H rs×Nat)
def jj(S:H V)(dst:Option Nat)(v:V):Option (H V):=
 match dst with
 |none=>some S
 |some d=>if d<fW then some (S.set d (some v))else none
def iL(ops:Array Oper)(o:Oper)(S:H V):Option Bool:=
 match o.guard with
 |none=>some true
 |some (j,Kw)=>match ops[j]? with
  |some q=>match q.dst with
   |some d=>match S.get d with
    |some (.bool b)=>some (b==Kw)
    |some (.ew [])=>some false
    |_=>none
   |none=>none
  |none=>none
def nB{α:Type}(_:Nat):Option α:=none
def nD{α:Type}(_:Oper):Option α:=none
def B6:Op->Bool
 | .defer _=>false
 |_=>true
def jo(P:Program)(cf:ga)(ops:Array Oper):List Oper->St->Option (h1×St)
 | [],s=>some (.normal,s)
 |o::rest,s=>
  match iL ops o s.S with
  |some false=>match jj s.S o.dst (.ew [])with
   |some S=>jo P cf ops rest { s with S:=S }
   |none=>none
  |some true=>match dH P o s.S s.h s.n with
   |some (.val v h n)=>match jj s.S o.dst v with
    |some S=>jo P cf ops rest { s with S:=S,h:=h,n:=n }
    |none=>none
   |some (.call f args)=>match cf f args s.h s.n with
    |some (.ret v,h,n)=>match jj s.S o.dst v with
     |some S=>jo P cf ops rest { s with S:=S,h:=h,n:=n }
     |none=>none
    |some (.An v,h,n)=>some (.panic v,{ s with h:=h,n:=n })
    |none=>none
   |some (.nf f c args)=>if f<fW/\B6 o.op=false then(match jj s.S o.dst (.ew [])with
    |some S=>jo P cf ops rest { s with S:=S,gD:=(f,c,args)::s.gD }
    |none=>none)else nD o
   |some (.panic v)=>some (.panic v,s)
   |some .recover=>none
   |none=>nD o
  |none=>nD o
def rQ:Option (Nat×Nat)->Option (Nat×Nat)->Bool
 |none,none=>true
 |some (a,b),some (c,d)=>Nat.beq a c&&Nat.beq b d
 |_,_=>false
def Gv :Option Nat->Option Nat->Bool
 |none,none=>true
 |some a,some b=>Nat.beq a b
 |_,_=>false
def QH:Fn->Fn->Bool
 | .func a,.func b=>Nat.beq a b
 | .yield a,.yield b=>Nat.beq a b
 |_,_=>false
mutual
def lf.beq:lf->lf->Bool
 | .bool a,.bool b=>a==b
 | .int k a,.int j b=>decide (k=j)&&decide (a=b)
 | .str a,.str b=>eI a b
 | .dV n a,.dV m b=>Nat.beq n m&&lf.qg a b
 | .agg a,.agg b=>lf.qg a b
 |_,_=>false
def lf.qg:ai->ai->Bool
 | [],[]=>true
 |a::x,b::y=>lf.beq a b&&lf.qg x y
 |_,_=>false
end
mutual
def V.beq:V->V->Bool
 | .bool a,.bool b=>a==b
 | .int k a,.int j b=>decide (k=j)&&decide (a=b)
 | .str a,.str b=>eI a b
 | .ptr a,.ptr b=>rQ a b
 | .dx a l c e,.dx a' l' c' e'=>rQ a a'&&Nat.beq l l'&&Nat.beq c c'&&Nat.beq e e'
 | .map a,.map b=>Gv a b
 | .fn f a c,.fn g b d=>QH f g&&V.qg a b&&V.qg c d
 | .kT,.kT=>true
 | .iface t x,.iface u y=>Nat.beq t u&&V.beq x y
 | .nilIface,.nilIface=>true
 | .agg a,.agg b=>V.qg a b
 | .ew a,.ew b=>V.qg a b
 | .dV f n a,.dV g m b=>f==g&&(Nat.beq n m&&lf.qg a b)
 | .eK a,.eK b=>lf.qg a b
 |_,_=>false
def V.qg:ag->ag->Bool
 | [],[]=>true
 |a::x,b::y=>V.beq a b&&V.qg x y
 |_,_=>false
end
def rR:Op->Bool
 | .store .. | .mapUpdate .. | .insert .. | .mapEntry .. | .entryStore .. | .next .. | .defer _ | .panic _=>true
 | .call { callee:=.builtin b,.. }=>match b with
   | .len | .max | .min=>false
   |_=>true
 | .call _=>true
 |_=>false
def qL:Op->Bool
 | .move _ | .assign _ | .pick .. | .build .. | .nilCheck _ | .binOp .. | .unOp .. | .makeInterface .. | .makeFunc .. | .fieldAddr .. | .field ..
 | .indexAddr .. | .index .. | .typeAssert .. | .extract ..=>true
 |_=>false
structure Dr where
 S:H V
 eC:List Nat
 cur:Nat×H rs
 qh:List (Nat×Nat×H rs)
 last:Option Nat
 c9:af
 reads:List (Nat×Nat×Oper×H V×V)
 n:Nat
def eu(m i:Nat):Bool:=Nat.testBit m i
def gV(I:Nat):af->Nat->H rs->Nat->H rs
 | [],_,x,_=>x
 |(i,o)::r,m,x,iy=>if eu iy i&& !eu m i then(gV I r m x iy).set (I+i) (some o)else gV I r m x iy
def eT(eC:List Nat):List Edge->Nat
 | []=>0
 |e::C=>if Region.binds .any e then eT eC C|||(2^e.on|||eC.getD e.on 0)else eT eC C
def ng(P:Program)(I i:Nat)(o:Oper)(S:H V)(v:V)(x:H rs):Bool:=
 match dH P o S x (I+i)with
 |some (.val u _ k)=>Nat.beq k (I+i)&&V.beq u v
 |_=>false
def qM(P:Program)(I i:Nat)(o:Oper)(S:H V)(v:V)(c9:af)(iy:Nat):List (Nat×Nat×H rs)->Bool
 | []=>true
 |(e,m,x)::r=>if eu iy e then true else ng P I i o S v (gV I c9 m x iy)&&qM P I i o S v c9 iy r
def qi(P:Program)(I:Nat)(c9:af)(m:Nat)(x:H rs):List (Nat×Nat×Oper×H V×V)->Bool
 | []=>true
 |(j,iy,o,S,v)::r=>(eu m j||ng P I j o S v (gV I c9 m x iy))&&qi P I c9 m x r
def Ao(iy:Nat):Option Nat->Bool
 |none=>true
 |some e=>eu iy e
def kU(P:Program)(I i iy:Nat)(o:Oper)(s:Dr)(v:V)(h:H rs)(n:Nat):Option Dr:=
 match jj s.S o.dst v with
 |some S=>
  if qi P I s.c9 iy h s.reads then
   some { S:=S,eC:=s.eC++[iy],cur:=(iy,h),qh:=(i,s.cur.1,s.cur.2)::s.qh,last:=some i,c9:=s.c9,reads:=s.reads,n:=n }
  else none
 |none=>none
def vk(P:Program)(cf:ga)(ops:Array Oper)(I i:Nat)(o:Oper)(s:Dr):Option (Dr ⊕ (H V×V×H rs×Nat)):=
 let iy:=eT s.eC o.after.toList
 match iL ops o s.S with
 |some false=>match jj s.S o.dst (.ew [])with
  |some S=>some (.inl { s with S:=S,eC:=s.eC++[iy] })
  |none=>nD o
 |some true=>
  if rR o.op then
   if Ao iy s.last then
    match dH P o s.S (gV I s.c9 s.cur.1 s.cur.2 iy) s.n with
    |some (.val v h n)=>match kU P I i iy o s v h n with
     |some s'=>some (.inl s')
     |none=>nD o
    |some (.call f args)=>match cf f args (gV I s.c9 s.cur.1 s.cur.2 iy) s.n with
     |some (.ret v,h,n)=>match kU P I i iy o s v h n with
      |some s'=>some (.inl s')
      |none=>nD o
     |some (.An v,h,n)=>if Nat.beq (iy+1) (2^i)&&Nat.beq (i+1) ops.size then some (.inr (s.S,v,h,n))else nD o
     |none=>none
    |_=>nD o
   else nD o
  else
   let x:=gV I s.c9 s.cur.1 s.cur.2 iy
   match dH P o s.S x (I+i)with
   |some (.val v h k)=>match jj s.S o.dst v with
    |some S=>
     if Nat.beq k (I+i)then
      if qL o.op then some (.inl { s with S:=S,eC:=s.eC++[iy] })
      else if qM P I i o s.S v s.c9 iy s.qh then
       some (.inl { s with S:=S,eC:=s.eC++[iy],reads:=(i,iy,o,s.S,v)::s.reads })
      else nD o
     else match h.get (I+i)with
      |some b=>if b.wr=true then some (.inl { s with S:=S,eC:=s.eC++[iy],c9:=(i,b)::s.c9 })else nD o
      |none=>nD o
    |none=>nD o
   |_=>nD o
 |none=>nD o
def rS(P:Program)(cf:ga)(ops:Array Oper)(I:Nat):List Oper->Nat->Dr->Option (Dr ⊕ (H V×V×H rs×Nat))
 | [],_,s=>some (.inl s)
 |o::r,i,s=>match vk P cf ops I i o s with
  |some (.inl s')=>rS P cf ops I r (i+1) s'
  |x=>x
def drawn(P:Program)(cf:ga)(ops:Array Oper)(s:St):Option (h1×St):=
 if s.n+ops.size<fW then
  match rS P cf ops s.n ops.toList 0 { S:=s.S,eC:=[],cur:=(0,s.h),qh:=[],last:=none,c9:=[],reads:=[],n:=s.n+ops.size }with
  |some (.inl d)=>some (.normal,{ S:=d.S,h:=gV s.n d.c9 d.cur.1 d.cur.2 (2^ops.size-1),n:=d.n,gD:=s.gD })
  |some (.inr (S,v,h,n))=>some (.panic v,{ s with S:=S,h:=h,n:=n })
  |none=>none
 else none
def rounds(f:St->Option (h1×St)):Nat->St->Option (h1×St)
 |0,_=>nB 1
 |k+1,s=>match f s with
  |some (.normal,s')=>rounds f k s'
  |r=>r
def jq(P:Program)(cf:ga)(fl:Nat):Code->St->Option (h1×St)
 | .skip,s=>some (.normal,s)
 | .region _ ops false,s=>jo P cf ops ops.toList s
 | .region _ ops true,s=>drawn P cf ops s
 | .seq a b,s=>match jq P cf fl a s with
   |some (.normal,s')=>jq P cf fl b s'
   |r=>r
 | .cond c a b,s=>match iX s.S c with
   |some (.bool true)=>jq P cf fl a s
   |some (.bool false)=>jq P cf fl b s
   |_=>nB 2
 | .block id body,s=>match jq P cf fl body s with
   |some (.exit id',s')=>if id'=id then some (.normal,s')else some (.exit id',s')
   |r=>r
 | .loop body,s=>rounds (jq P cf fl body) fl s
 | .exit id,s=>some (.exit id,s)
 | .ret,s=>some (.ret,s)
 | .rangeFunc g ps assign body,s=>match iX s.S g with
   |some (.fn (.func gf) [] lb)=>
    if callee P gf=true/\s.n+1<fW then
     match cf gf (.fn (.yield (s.n+1)) [] []::lb) ((s.h.set s.n (some .nf)).set (s.n+1) (some (.loop true none s.S ps.toList assign body))) (s.n+2)with
     |some (.ret _,h,n)=>match h.get s.n,h.get (s.n+1)with
      |some .nf,some (.loop true none _ _ _ _)=>some (.normal,{ s with h:=h.set (s.n+1) none,n:=n,gD:=(fW,[],[.map (some s.n)])::s.gD })
      |some .nf,some (.loop false (some .ret) _ _ _ _)=>some (.ret,{ s with h:=h.set (s.n+1) none,n:=n,gD:=(fW,[],[.map (some s.n)])::s.gD })
      |some .nf,some (.loop false (some (.exit id)) _ _ _ _)=>some (.exit id,{ s with h:=h.set (s.n+1) none,n:=n,gD:=(fW,[],[.map (some s.n)])::s.gD })
      |_,_=>nB 31
     |_=>nB 32
    else nB 33
   |_=>nB 34
 |_,_=>nB 3
def mj:ag->Nat->H V->H V
 | [],_,t=>t
 |v::vs,i,t=>mj vs (i+1) (t.set i (some v))
def Gw(P:Program)(S:H V)(h:H rs):ResultVar->Option V
 | .tmp t=>S.get t
 | .cell a t=>match S.get a with
   |some v=>loadAt P t h v
   |none=>none
def lY(P:Program)(S:H V)(h:H rs):List ResultVar->Option (ag)
 | []=>some []
 |r::O=>match Gw P S h r with
  |some v=>match lY P S h O with
   |some vs=>some (v::vs)
   |none=>none
  |none=>none
def oneOf:ag->V
 | [v]=>v
 |vs=>.ew vs
inductive Mode where
 |ret
 |An (v:V) (rec:Bool)
def rT(P:Program)(cf:ga)(ops:Array Oper):List Oper->St->Mode->Option (h1×St×Mode)
 | [],s,m=>some (.normal,s,m)
 |o::rest,s,m=>
  match iL ops o s.S with
  |some false=>match jj s.S o.dst (.ew [])with
   |some S=>rT P cf ops rest { s with S:=S } m
   |none=>none
  |some true=>match dH P o s.S s.h s.n with
   |some (.val v h n)=>match jj s.S o.dst v with
    |some S=>rT P cf ops rest { s with S:=S,h:=h,n:=n } m
    |none=>none
   |some .recover=>match m with
    | .An v false=>match jj s.S o.dst v with
      |some S=>rT P cf ops rest { s with S:=S } (.An v true)
      |none=>none
    |m=>match jj s.S o.dst .nilIface with
     |some S=>rT P cf ops rest { s with S:=S } m
     |none=>none
   |_=>nD o
  |none=>nD o
def uE(P:Program)(cf:ga)(fl:Nat):Code->St->Mode->Option (h1×St×Mode)
 | .region _ ops false,s,m=>rT P cf ops ops.toList s m
 | .seq a b,s,m=>match uE P cf fl a s m with
   |some (.normal,s',m')=>uE P cf fl b s' m'
   |r=>r
 | .cond c a b,s,m=>match iX s.S c with
   |some (.bool true)=>uE P cf fl a s m
   |some (.bool false)=>uE P cf fl b s m
   |_=>nB 5
 |c,s,m=>match jq P cf fl c s with
  |some (x,s')=>some (x,s',m)
  |none=>none
def oo(P:Program)(cf:ga)(fl:Nat)(fn:Func)(S:H V):List (FuncId×ag×ag)->Mode->H rs->Nat->Option (QG×H rs×Nat)
 | [],.ret,h,n=>match lY P S h fn.results.toList with
   |some vs=>some (.ret (oneOf vs),h,n)
   |none=>nB 11
 | [],.An v false,h,n=>some (.An v,h,n)
 | [],.An _ true,_,_=>nB 12
 |(g,c,args)::ds,m,h,n=>
  if fW<=g then(match args with
   | [.map (some b)]=>(match h.get b with
     |some .nf=>if b<fW then oo P cf fl fn S ds m (h.set b none) n else nB 41
     |_=>nB 42)
   |_=>nB 43)else
  match P.funcs[g]? with
  |some gn=>match gn.body with
   |some code=>
    if callee P g=true/\(args++c).length<=gn.ntmps/\gn.ntmps<fW then
     match uE P cf fl code { S:=mj (args++c) 0 .nil,h:=h,n:=n,gD:=[] } m with
     |some (.normal,s',m')=>
      (match s'.gD with
      | []=>match lY P s'.S s'.h gn.results.toList with
        |some _=>oo P cf fl fn S ds (match m' with | .An _ true=>.ret|m=>m) s'.h s'.n
        |none=>nB 13
      |_=>nB 14)
     |some (.ret,s',m')=>
      (match s'.gD with
      | []=>match lY P s'.S s'.h gn.results.toList with
        |some _=>oo P cf fl fn S ds (match m' with | .An _ true=>.ret|m=>m) s'.h s'.n
        |none=>nB 15
      |_=>nB 16)
     |_=>nB 17
    else none
   |none=>nB 18
  |none=>nB 19
def enter(P:Program)(cf:ga)(fl:Nat)(f:FuncId)(args:ag)(h:H rs)(n:Nat):Option (QG×H rs×Nat):=
 match P.funcs[f]? with
 |some fn=>match fn.body with
  |some code=>
   if args.length<=fn.ntmps/\fn.ntmps<fW then
    match jq P cf fl code { S:=mj args 0 .nil,h:=h,n:=n,gD:=[] }with
    |some (.normal,s)=>oo P cf fl fn s.S s.gD .ret s.h s.n
    |some (.ret,s)=>oo P cf fl fn s.S s.gD .ret s.h s.n
    |some (.panic v,s)=>oo P cf fl fn s.S s.gD (.An v false) s.h s.n
    |_=>nB 20
   else none
  |none=>nB 21
 |none=>nB 22
def ki:Code->Bool
 | .region _ ops _=>ops.toList.all fun o=>B6 o.op
 | .seq a b=>ki a&&ki b
 | .cond _ a b=>ki a&&ki b
 | .block _ c=>ki c
 | .loop c=>ki c
 | .rangeFunc ..=>false
 |_=>true
def xP:List (Nat×V)->H V->Option (H V)
 | [],t=>some t
 |(i,v)::r,t=>if i<fW then xP r (t.set i (some v))else none
def Kx:List Nat->ag->List (Nat×V)
 |i::is,v::vs=>(i,v)::Kx is vs
 |_,_=>[]
def xQ(P:Program)(cf:ga)(fl:Nat)(m:Nat)(args:ag)(h:H rs)(n:Nat):Option (QG×H rs×Nat):=
 match h.get m with
 |some (.loop true none S ps assign body)=>
  if m<fW/\ps.length=args.length/\ki assign=true/\ki body=true then
   match xP (Kx ps args) S with
   |some Ap=>match jq P cf fl assign { S:=Ap,h:=h.set m none,n:=n,gD:=[] }with
    |some (.normal,s1)=>match jq P cf fl body s1 with
     |some (.normal,s2)=>some (.ret (.bool true),s2.h.set m (some (.loop true none S ps assign body)),s2.n)
     |some (.ret,s2)=>some (.ret (.bool false),s2.h.set m (some (.loop false (some .ret) S ps assign body)),s2.n)
     |some (.exit id,s2)=>some (.ret (.bool false),s2.h.set m (some (.loop false (some (.exit id)) S ps assign body)),s2.n)
     |_=>nB 51
    |_=>nB 52
   |none=>nB 53
  else nB 54
 |_=>nB 55
def call(P:Program)(fl:Nat):Nat->ga
 |0=>fun _ _ _ _=>nB 23
 |k+1=>fun f args h n=>if f<P.funcs.size then enter P (call P fl k) fl f args h n else xQ P (call P fl k) fl (f-P.funcs.size) args h n
def qa(l:List Oper):List Nat:=l.foldl (fun gz o=>gz++[eT gz o.after.toList]) []
section
variable(ops:Array Oper)
def vl(o:Oper):List Nat:=
 (o.op.operands.toList.filterMap fun x=>match x with | .tmp t=>some t|_=>none) ++
  (match o.guard with|some (j,_)=>(match ops[j]? with|some q=>q.dst.toList|none=>[])|none=>[])
def Gx(m:List Nat)(i j:Nat):Bool:=
 match ops[i]?,ops[j]? with
 |some o,some q=>match o.dst with
  |some t=>(match q.dst with|some u=>!Nat.beq t u|none=>true) &&
    (if(vl ops q).contains t then(if i<j then eu (m.getD j 0) i else eu (m.getD i 0) j)else true)
  |none=>true
 |_,_=>true
def QI(rt:Nat):Bool:=
 let m:=qa ops.toList
 (List.range ops.size).all fun j=>match ops[j]? with
  |some o=>o.after.toList.all (fun e=>!Region.binds .any e||decide (e.on<j))&&(match o.dst with|some d=>decide (d<rt)|none=>true) &&
    (List.range ops.size).all fun i=>Nat.beq i j||Gx ops m i j
  |none=>true
end
def fb(rt:Nat):Code->Bool
 | .region _ ops Ky=>ops.toList.all (fun o=>match o.dst with|some d=>decide (d<rt)|none=>true)&&(if Ky then QI ops rt else true)
 | .seq a b=>fb rt a&&fb rt b
 | .cond _ a b=>fb rt a&&fb rt b
 | .block _ c=>fb rt c
 | .loop c=>fb rt c
 | .scope c=>fb rt c
 | .rangeFunc _ ps a b=>ps.toList.all (fun p=>decide (p<rt))&&(fb rt a&&fb rt b)
 |_=>true
structure Env where
 ι:Nat->Option (Nat×Nat)
 β:Nat->Nat
 φ:Nat->Option (Array Value)
mutual
def kV(φ:Nat->Option (Array Value)):lf->Value->Prop
 | .bool b,v=>v= .bool b
 | .int k n,v=>v= .int k n
 | .str s,v=>v= .string ⟨s.toArray⟩
 | .dV n Q,v=>∃a A vs,v= .slice a n A/\n<=A/\iH φ Q vs/\(n=0->Q=[])/\
    (0<n->∃b o c,a=some ⟨b,o,none⟩/\φ b=some c/\∀(j:Nat) (w:Value),vs[j]? =some w->c[o+j]? =some w)
 | .agg Q,v=>∃vs,iH φ Q vs/\v= .agg vs.toArray
def iH(φ:Nat->Option (Array Value)):ai->List Value->Prop
 | [],l=>l=[]
 |x::xs,l=>∃y ys,x.scalar=true/\kV φ x y/\iH φ xs ys/\l=y::ys
end
def yV(E:Env):Fn->Fn->Prop
 | .yield m,f'=>∃l s,E.ι m=some (l,s)/\f'= .yield l
 |f,f'=>f'=f
mutual
def dJ(E:Env):V->Value->Prop
 | .bool b,v=>v= .bool b
 | .int k n,v=>v= .int k n
 | .str s,v=>v= .string ⟨s.toArray⟩
 | .ptr none,v=>v= .pointer none
 | .ptr (some (m,o)),v=>∃b s,E.ι m=some (b,s)/\v= .pointer (some ⟨b,s+o,none⟩)
 | .dx none T A _,v=>T=0/\A=0/\v= .slice none 0 0
 | .dx (some (m,o)) T A jJ,v=>∃b s o' gq,E.ι m=some (b,s)/\(0<A->o'=s+o)/\T<=A/\A<=gq/\o'+gq*jJ<=E.β b/\
    v= .slice (some ⟨b,o',none⟩) T gq
 | .map none,v=>v= .map none
 | .map (some m),v=>∃b,E.ι m=some (b,0)/\v= .map (some b)
 | .fn f a c,v=>∃f' a' c',yV E f f'/\dK E a a'/\dK E c c'/\v= .func f' a'.toArray c'.toArray
 | .kT,v=>v= .nilFunc
 | .iface t x,v=>∃x',dJ E x x'/\v= .iface t x'
 | .nilIface,v=>v= .nilIface
 | .agg Q,v=>∃cs',dK E Q cs'/\v= .agg cs'.toArray
 | .ew Q,v=>∃cs',dK E Q cs'/\v= .tuple cs'.toArray
 | .dV f n Q,v=>kV E.φ (.dV n Q) v/\(f=true->∃a,v= .slice a n n)
 | .eK Q,v=>∃b o c vs,v= .pointer (some ⟨b,o,none⟩)/\E.φ b=some c/\iH E.φ Q vs/\∀(j:Nat) (w:Value),vs[j]? =some w->c[o+j]? =some w
def dK(E:Env):ag->List Value->Prop
 | [],l=>l=[]
 |x::xs,l=>∃y ys,dJ E x y/\dK E xs ys/\l=y::ys
end
structure Env.le(E E':Env):Prop where
 nm:∀m b s,E.ι m=some (b,s)->E'.ι m=some (b,s)/\E'.β b=E.β b
 fz:∀b c,E.φ b=some c->E'.φ b=some c
def GE(E:Env):Prop:=∀p∈kf,E.ι p.2=some (p.1,0)
theorem GE.mono{E E':Env}(h:GE E)(k:E.le E'):GE E':=fun p hp=>(k.nm _ _ _ (h p hp)).1
theorem Ik:∀{l:List (Nat×Nat)} {g:Nat} {v:V},QF l g=some v->∃m,(g,m)∈l/\v= .ptr (some (m,0))
 | [],_,_,h=>by cases h
 |p::r,g,v,h=>by
  unfold QF at h;split at h
  . rename_i hb;cases h;exact⟨p.2,aD.2 (.inl (by rw[<- aG hb])),rfl⟩
  . obtain⟨m,X,h2⟩:=Ik h;exact⟨m,aM _ X,h2⟩
theorem Il{E:Env}(h:GE E){g:Nat}{v:V}(e:QF kf g=some v):dJ E v (.pointer (some ⟨g,0,none⟩)):=by
 obtain⟨m,X,rfl⟩:=Ik e;exact⟨g,0,h _ X,rfl⟩
theorem Env.le_refl(E:Env):E.le E:=⟨fun _ _ _ h=>⟨h,rfl⟩,fun _ _ h=>h⟩
theorem Env.le_trans{cU aa es:Env}(h:cU.le aa)(k:aa.le es):cU.le es:=⟨fun m b s e=>
 ⟨(k.nm m b s (h.nm m b s e).1).1,(k.nm m b s (h.nm m b s e).1).2.trans (h.nm m b s e).2⟩,fun b c e=>k.fz b c (h.fz b c e)⟩
mutual
theorem ld{φ MX:Nat->Option (Array Value)}(h:∀b c,φ b=some c->MX b=some c):∀(d:lf) (v:Value),kV φ d v->kV MX d v
 | .bool _,_,r=>r
 | .int _ _,_,r=>r
 | .str _,_,r=>r
 | .dV _ Q,_,⟨a,A,vs,e,J,r,h0,X⟩=>⟨a,A,vs,e,J,jf h Q vs r,h0,fun hn=>let⟨b,o,c,e1,e2,e3⟩:=X hn;⟨b,o,c,e1,h _ _ e2,e3⟩⟩
 | .agg Q,_,⟨vs,r,e⟩=>⟨vs,jf h Q vs r,e⟩
theorem jf{φ MX:Nat->Option (Array Value)}(h:∀b c,φ b=some c->MX b=some c):∀(d:ai) (v:List Value),iH φ d v->iH MX d v
 | [],_,r=>r
 |x::xs,_,⟨y,ys,s,r,O,e⟩=>⟨y,ys,s,ld h x y r,jf h xs ys O,e⟩
end
mutual
theorem kW{E:Env}:∀(d:lf) (v:Value),kV E.φ d v->dJ E d.iZ v
 | .bool _,_,r=>r
 | .int _ _,_,r=>r
 | .str _,_,r=>r
 | .dV _ _,_,r=>⟨r,fun h=>by cases h⟩
 | .agg Q,_,⟨vs,r,e⟩=>⟨vs,wC Q vs r,e⟩
theorem wC{E:Env}:∀(d:ai) (v:List Value),iH E.φ d v->dK E (lf.lQ d) v
 | [],_,r=>r
 |x::xs,_,⟨y,ys,_,r,O,e⟩=>⟨y,ys,kW x y r,wC xs ys O,e⟩
end
mutual
theorem Im{E:Env}:∀(d:lf) (v:Value),dJ E d.iZ v->(∀Q,d= .agg Q->∀x∈Q,x.scalar=true)->kV E.φ d v
 | .bool _,_,r,_=>r
 | .int _ _,_,r,_=>r
 | .str _,_,r,_=>r
 | .dV _ _,_,r,_=>r.1
 | .agg Q,_,⟨vs,r,e⟩,h=>⟨vs,CF Q vs r (h Q rfl),e⟩
theorem CF{E:Env}:∀(d:ai) (v:List Value),dK E (lf.lQ d) v->(∀x∈d,x.scalar=true)->iH E.φ d v
 | [],_,r,_=>r
 |x::xs,_,⟨y,ys,r,O,e⟩,h=>⟨y,ys,h x (by simp),Im x y r (fun Q q=>by have:=h x (by simp);rw[q]at this;cases this),CF xs ys O (fun z hz=>h z (by simp[hz])),e⟩
end
theorem qj{φ:Nat->Option (Array Value)}:∀{xs:ai} {ys:List Value},iH φ xs ys->ys.length=xs.length
 | [],_,r=>by simp only[iH]at r;subst r;rfl
 |_::_,_,r=>by obtain⟨y,ys,_,_,O,rfl⟩:=r;simp[qj O]
theorem wD{φ:Nat->Option (Array Value)}:∀{xs:ai} {ys:List Value},iH φ xs ys->∀(i:Nat) (d:lf),xs[i]? =some d->∃v',ys[i]? =some v'/\d.scalar=true/\kV φ d v'
 | [],_,r,i,v,h=>by simp at h
 |x::xs,_,r,i,v,h=>by
  obtain⟨y,ys,s0,r0,O,rfl⟩:=r;cases i with
  |zero=>simp at h;subst h;exact⟨y,by simp,s0,r0⟩
  |succ i=>simp at h;obtain⟨v',X,h2⟩:=wD O i v h;exact⟨v',by simpa using X,h2⟩
theorem ql{φ:Nat->Option (Array Value)}:∀{xs:ai} {ys:List Value},xs.length=ys.length->(∀(i:Nat) (d:lf),xs[i]? =some d->∃v',ys[i]? =some v'/\d.scalar=true/\kV φ d v')->iH φ xs ys
 | [],[],_,_=>rfl
 | [],_::_,h,_=>by simp at h
 |_::_,[],h,_=>by simp at h
 |x::xs,y::ys,h,r=>by
  obtain⟨v',X,h2,h3⟩:=r 0 x (by simp);simp at X;subst X;exact⟨y,ys,h2,h3,ql (by simpa using h) (fun i v hi=>r (i+1) v (by simpa using hi)),rfl⟩
section
variable{φ:Nat->Option (Array Value)}{n:Nat}{xs:ai}{ys:List Value}
theorem tL(r:iH φ xs ys):iH φ (xs.take n) (ys.take n):=by
 refine ql (by simp[qj r]) fun i v h=>?_;rw[bQ]at h ⊢;split at h
 . rename_i hi;rw[aF hi];exact wD r i v h
 . simp at h
theorem oz(r:iH φ xs ys):iH φ (xs.drop n) (ys.drop n):=by
 refine ql (by simp[qj r]) fun i v h=>?_;rw[bL]at h ⊢;exact wD r _ v h
end
theorem qm{φ:Nat->Option (Array Value)}:∀{xs CG:ai} {ys Kz:List Value},iH φ xs ys->iH φ CG Kz->iH φ (xs++CG) (ys++Kz)
 | [],_,_,_,r,r'=>by simp only[iH]at r;subst r;simpa using r'
 |x::xs,_,_,_,r,r'=>by
  obtain⟨y,ys,s0,r0,O,rfl⟩:=r;exact⟨y,_,s0,r0,qm O r',rfl⟩
theorem jr{φ:Nat->Option (Array Value)}:∀{xs:ai} {ys:List Value},iH φ xs ys->∀x∈xs,x.scalar=true
 | [],_,_,x,h=>by simp at h
 |a::xs,_,r,x,h=>by
  obtain⟨y,ys,s0,_,O,_⟩:=r;rcases aD.1 h with rfl|h
  . exact s0
  . exact jr O x h
theorem KA{d:lf}(h:d.scalar=true):d.iZ.scalar=true:=by cases d<;>first|rfl|(simp[lf.scalar]at h)
theorem Bi{ds:ai}(h:∀x∈ds,x.scalar=true):(lf.lQ ds).all V.scalar=true:=by
 rw[lf.gB,bt];intro x M;obtain⟨d,hd,rfl⟩:=bF.1 M;exact KA (h d hd)
theorem KB{E E':Env}(h:E.le E'):∀(f f':Fn),yV E f f'->yV E' f f'
 | .yield _,_,⟨l,s,e,q⟩=>⟨l,s,(h.nm _ _ _ e).1,q⟩
 | .func _,_,r=>r
 | .method _,_,r=>r
 | .methodOf _ _,_,r=>r
 | .via _ _ _ _,_,r=>r
mutual
theorem jx{E E':Env}(h:E.le E'):∀(v:V) (v':Value),dJ E v v'->dJ E' v v'
 | .bool _,_,r=>r
 | .int _ _,_,r=>r
 | .str _,_,r=>r
 | .ptr none,_,r=>r
 | .ptr (some (_,_)),_,⟨b,s,e,q⟩=>⟨b,s,(h.nm _ _ _ e).1,q⟩
 | .dx none _ _ _,_,r=>r
 | .dx (some (_,_)) _ _ _,_,⟨b,s,o',gq,e,q1,q2,q3,q4,q5⟩=>⟨b,s,o',gq,(h.nm _ _ _ e).1,q1,q2,q3,(h.nm _ _ _ e).2▸q4,q5⟩
 | .map none,_,r=>r
 | .map (some _),_,⟨b,e,q⟩=>⟨b,(h.nm _ _ _ e).1,q⟩
 | .fn _ a c,_,⟨f',a',c',rf,ra,rc,q⟩=>⟨f',a',c',KB h _ _ rf,kP h a a' ra,kP h c c' rc,q⟩
 | .kT,_,r=>r
 | .iface _ x,_,⟨x',r,q⟩=>⟨x',jx h x x' r,q⟩
 | .nilIface,_,r=>r
 | .agg Q,_,⟨cs',r,q⟩=>⟨cs',kP h Q cs' r,q⟩
 | .ew Q,_,⟨cs',r,q⟩=>⟨cs',kP h Q cs' r,q⟩
 | .dV _ _ _,_,⟨r,q⟩=>⟨ld h.fz _ _ r,q⟩
 | .eK Q,_,⟨b,o,c,vs,e,e1,r,q⟩=>⟨b,o,c,vs,e,h.fz _ _ e1,jf h.fz Q vs r,q⟩
theorem kP{E E':Env}(h:E.le E'):∀(v:ag) (v':List Value),dK E v v'->dK E' v v'
 | [],_,r=>r
 |x::xs,_,⟨y,ys,r,O,q⟩=>⟨y,ys,jx h x y r,kP h xs ys O,q⟩
end
theorem eR{E:Env}:∀{xs:ag} {ys:List Value},dK E xs ys->ys.length=xs.length
 | [],_,r=>by simp only[dK]at r;subst r;rfl
 |_::_,_,r=>by obtain⟨y,ys,_,O,rfl⟩:=r;simp[eR O]
theorem gJ{E:Env}:∀{xs:ag} {ys:List Value},dK E xs ys->∀(i:Nat) (v:V),xs[i]? =some v->∃v',ys[i]? =some v'/\dJ E v v'
 | [],_,_,i,v,h=>by simp at h
 |x::xs,_,r,i,v,h=>by
  obtain⟨y,ys,r0,O,rfl⟩:=r;cases i with
  |zero=>simp at h;subst h;exact⟨y,by simp,r0⟩
  |succ i=>simp at h;obtain⟨v',X,h2⟩:=gJ O i v h;exact⟨v',by simpa using X,h2⟩
theorem jN{E:Env}:∀{xs:ag} {ys:List Value},xs.length=ys.length->(∀(i:Nat) (v:V),xs[i]? =some v->∃v',ys[i]? =some v'/\dJ E v v')->dK E xs ys
 | [],[],_,_=>rfl
 | [],_::_,h,_=>by simp at h
 |_::_,[],h,_=>by simp at h
 |x::xs,y::ys,h,r=>by
  obtain⟨v',X,h2⟩:=r 0 x (by simp);simp at X;subst X;exact⟨y,ys,h2,jN (by simpa using h) (fun i v hi=>r (i+1) v (by simpa using hi)),rfl⟩
theorem iM{E:Env}:∀{xs CG:ag} {ys Kz:List Value},dK E xs ys->dK E CG Kz->dK E (xs++CG) (ys++Kz)
 | [],_,_,_,r,r'=>by simp only[dK]at r;subst r;simpa using r'
 |x::xs,_,_,_,r,r'=>by
  obtain⟨y,ys,r0,O,rfl⟩:=r;exact⟨y,_,r0,iM O r',rfl⟩
section
variable{E:Env}{n:Nat}
theorem CH:∀{xs:ag} {ys:List Value},dK E xs ys->dK E (xs.take n) (ys.take n):=by
 intro xs ys r;refine jN (by simp[eR r]) fun i v h=>?_;rw[bQ]at h ⊢;split at h
 . rename_i hi;rw[aF hi];exact gJ r i v h
 . simp at h
theorem CI:∀{xs:ag} {ys:List Value},dK E xs ys->dK E (xs.drop n) (ys.drop n):=by
 intro xs ys r;refine jN (by simp[eR r]) fun i v h=>?_;rw[bL]at h ⊢;exact gJ r _ v h
theorem iE:∀{v:V} {v':Value},dJ E v v'->dK E v.cells v'.cells.toList:=by
 intro v v' r;have one:∀{x:V} {y:Value},dJ E x y->y.cells=#[y]->x.cells=[x]->dK E x.cells y.cells.toList:=by
  intro x y r X h2;rw[X,h2];exact⟨y,[],r,rfl,rfl⟩
 cases v with
 |agg Q=>obtain⟨cs',O,rfl⟩:=r;simpa[V.cells,Value.cells]using O
 |bool b=>simp only[dJ]at r;subst r;exact one (by simp[dJ]) rfl rfl
 |int k n=>simp only[dJ]at r;subst r;exact one (by simp[dJ]) rfl rfl
 |str s=>simp only[dJ]at r;subst r;exact one (by simp[dJ]) rfl rfl
 |ptr a=>refine one r ?_ rfl;cases a<;>simp only[dJ]at r;. subst r;rfl
         . obtain⟨b,s,_,rfl⟩:=r;rfl
 |dx a l c e=>refine one r ?_ rfl;cases a<;>simp only[dJ]at r;. obtain⟨_,_,rfl⟩:=r;rfl
              . obtain⟨b,s,_,_,_,_,_,_,_,rfl⟩:=r;rfl
 |map a=>refine one r ?_ rfl;cases a<;>simp only[dJ]at r;. subst r;rfl
         . obtain⟨b,_,rfl⟩:=r;rfl
 |fn f a c=>refine one r ?_ rfl;obtain⟨_,_,_,_,_,_,rfl⟩:=r;rfl
 |kT=>simp only[dJ]at r;subst r;exact one (by simp[dJ]) rfl rfl
 |iface t x=>refine one r ?_ rfl;obtain⟨_,_,rfl⟩:=r;rfl
 |nilIface=>simp only[dJ]at r;subst r;exact one (by simp[dJ]) rfl rfl
 |ew vs=>refine one r ?_ rfl;obtain⟨_,_,rfl⟩:=r;rfl
 |dV f n Q=>refine one r ?_ rfl;obtain⟨⟨_,_,_,rfl,_⟩,_⟩:=r;rfl
 |eK Q=>refine one r ?_ rfl;obtain⟨_,_,_,_,rfl,_⟩:=r;rfl
theorem vn:∀{v:V} {v':Value},dJ E v v'->v.scalar=true->v'.oneCell'=true:=by
 intro v v' r h;cases v with
 |agg Q=>simp[V.scalar]at h
 |ew Q=>simp[V.scalar]at h
 |bool b=>simp only[dJ]at r;subst r;rfl
 |int k n=>simp only[dJ]at r;subst r;rfl
 |str s=>simp only[dJ]at r;subst r;rfl
 |ptr a=>cases a<;>simp only[dJ]at r;. subst r;rfl
         . obtain⟨b,s,_,rfl⟩:=r;rfl
 |dx a l c e=>cases a<;>simp only[dJ]at r;. obtain⟨_,_,rfl⟩:=r;rfl
              . obtain⟨b,s,_,_,_,_,_,_,_,rfl⟩:=r;rfl
 |map a=>cases a<;>simp only[dJ]at r;. subst r;rfl
         . obtain⟨b,_,rfl⟩:=r;rfl
 |fn f a c=>obtain⟨_,_,_,_,_,_,rfl⟩:=r;rfl
 |kT=>simp only[dJ]at r;subst r;rfl
 |iface t x=>obtain⟨_,_,rfl⟩:=r;rfl
 |nilIface=>simp only[dJ]at r;subst r;rfl
 |dV f n Q=>obtain⟨⟨_,_,_,rfl,_⟩,_⟩:=r;rfl
 |eK Q=>obtain⟨_,_,_,_,rfl,_⟩:=r;rfl
end
theorem H.yW{α:Type}:∀(f:Nat) (t:H α) (k:Nat) (x:Option α) (j:Nat),k+1<2^f->(H.sk f t k x).get j=if j=k then x else t.get j
 |0,t,k,x,j,h=>by simp at h
 |f+1,t,k,x,j,h=>by
  have hk:∀k',k=k'+1->k'/2+1<2^f:=by intro k' e;subst e;rw[Nat.pow_succ]at h;omega
  cases t with
  |nil=>
   cases k with
   |zero=>
    cases j with
    |zero=>simp[H.sk,H.get]
    |succ j=>simp only[H.sk,H.get];rw[aJ L];split<;>rfl
   |succ k=>
    have ih:=fun j=>H.yW f (.nil:H α) (k/2) x j (hk k rfl);rcases cK k with e|e
    . cases j with
      |zero=>simp[H.sk,H.get,e]
      |succ j=>
       rcases cK j with e'|e'
       . simp only[H.sk,e,H.get,e',ih];by_cases hj:j=k
         . subst hj;simp
         . rw[aJ L,aJ L]
       . simp only[H.sk,e,H.get,e'];rw[aJ L]
    . cases j with
      |zero=>simp[H.sk,H.get,e]
      |succ j=>
       rcases cK j with e'|e'
       . simp only[H.sk,e,H.get,e'];rw[aJ L]
       . simp only[H.sk,e,H.get,e',ih];by_cases hj:j=k
         . subst hj;simp
         . rw[aJ L,aJ L]
  |node v l r=>
   cases k with
   |zero=>cases j<;>simp[H.sk,H.get]
   |succ k=>
    have ihl:=fun j=>H.yW f l (k/2) x j (hk k rfl);have ihr:=fun j=>H.yW f r (k/2) x j (hk k rfl);rcases cK k with e|e
    . cases j with
      |zero=>simp[H.sk,H.get,e]
      |succ j=>
       rcases cK j with e'|e'
       . simp only[H.sk,e,H.get,e',ihl];by_cases hj:j=k
         . subst hj;simp
         . rw[aJ L,aJ L]
       . simp only[H.sk,e,H.get,e'];rw[aJ L]
    . cases j with
      |zero=>simp[H.sk,H.get,e]
      |succ j=>
       rcases cK j with e'|e'
       . simp only[H.sk,e,H.get,e'];rw[aJ L]
       . simp only[H.sk,e,H.get,e',ihr];by_cases hj:j=k
         . subst hj;simp
         . rw[aJ L,aJ L]
section
variable{α:Type}(t:H α){k:Nat}(x:Option α)
theorem H.eY(j:Nat)(h:k<fW):(t.set k x).get j=if j=k then x else t.get j:=
 H.yW 33 t k x j (by unfold fW at h;omega)
theorem H.nE(h:k<fW):(t.set k x).get k=x:=by rw[H.eY t x k h,aF rfl]
theorem H.qN{j:Nat}(x:Option α)(h:k<fW)(hj:j≠k):(t.set k x).get j=t.get j:=by rw[H.eY t x j h,aJ hj]
end
def kX(E:Env):List (V×V×Nat)->List MapEntry->Prop
 | [],l=>l=[]
 |x::xs,l=>∃y ys,dJ E x.1 y.key/\dJ E x.2.1 y.val/\y.born=x.2.2/\kX E xs ys/\l=y::ys
theorem CJ{E E':Env}(h:E.le E'):∀(xs:List (V×V×Nat)) (ys:List MapEntry),kX E xs ys->kX E' xs ys
 | [],_,r=>r
 |_::xs,_,⟨y,ys,a,b,c,r,q⟩=>⟨y,ys,jx h _ _ a,jx h _ _ b,c,CJ h xs ys r,q⟩
def kj(φ:Nat->Option (Array Value)):ae->List MapEntry->Prop
 | [],l=>l=[]
 |x::xs,l=>∃y ys,kV φ x.1 y.key/\kV φ x.2 y.val/\kj φ xs ys/\l=y::ys
theorem xS{φ MX:Nat->Option (Array Value)}(h:∀b c,φ b=some c->MX b=some c):∀(xs:ae) (ys:List MapEntry),kj φ xs ys->kj MX xs ys
 | [],_,r=>r
 |_::xs,_,⟨y,ys,a,b,r,q⟩=>⟨y,ys,ld h _ _ a,ld h _ _ b,xS h xs ys r,q⟩
structure ko(φ:Nat->Option (Array Value))(kd:Option IntKind)(C:ae)(gi:List MapEntry)(eD:Nat):Prop where
 row:∃l,List.Perm l C/\kj φ l gi
 keys:(C.map (·.1)).Nodup
 kind:∀e∈C,gK kd e.1=true
 old:∀e∈gi,e.born<eD
 born:(gi.map (·.born)).Nodup
theorem ko.mono{φ MX:Nat->Option (Array Value)}(h:∀b c,φ b=some c->MX b=some c){kd:Option IntKind}{C:ae}{gi:List MapEntry}{eD:Nat}(r:ko φ kd C gi eD):ko MX kd C gi eD:=
 ⟨let⟨l,X,h2⟩:=r.row;⟨l,X,xS h _ _ h2⟩,r.keys,r.kind,r.old,r.born⟩
def nF(fz:Nat×Nat)(n:Nat):Prop:=∀i,i<n->¬(fz.1<=i/\i<fz.2)
def mH(E:Env)(s:Nat)(Q:ag)(c:Array Value):Prop:=∀(i:Nat) (v:V),Q[i]? =some v->∃v',c[s+i]? =some v'/\dJ E v v'
def QJ(E:Env)(S:H V)(tmps:Array Value):Prop:=∀t v,S.get t=some v->∃v',tmps[t]? =some v'/\dJ E v v'
section
variable{E E':Env}{s:Nat}
theorem wE(h:E.le E'){S:H V}{a:Array Value}(r:QJ E S a):QJ E' S a:=fun t v e=>let⟨v',X,h2⟩:=r t v e;⟨v',X,jx h v v' h2⟩
def mC(E:Env)(w:World)(b s:Nat):rs->Prop
 | .cells Q=>∃c el fz,w.heap[b]? =some (.cells c el fz)/\c.size=E.β b/\nF fz c.size/\mH E s Q c
 | .map C eD=>s=0/\∃gi,w.heap[b]? =some (.map gi eD)/\kX E C gi.toList
 | .oh st pos=>s=0/\w.heap[b]? =some (.stringIter ⟨st.toArray⟩ pos)
 | .ints k ks=>∃c el fz,w.heap[b]? =some (.cells c el fz)/\c.size=E.β b/\∀(i:Nat) (x:Int),ks[i]? =some x->c[s+i]? =some (.int k x)
 | .own k ks=>∃c el fz,w.heap[b]? =some (.cells c el fz)/\c.size=E.β b/\nF fz c.size/\mH E s (ks.map (.int k)) c
 | .deep Q=>∃c el fz vs,w.heap[b]? =some (.cells c el fz)/\c.size=E.β b/\nF fz c.size/\iH E.φ Q vs/\∀(j:Nat) (x:Value),vs[j]? =some x->c[s+j]? =some x
 | .ia el Bg t=>∃c fz xs,w.heap[b]? =some (.cells c el fz)/\s=0/\c.size=E.β b/\((fz.1=fz.2\/fz.2<=t.length)/\(Bg=false->fz.1=fz.2))/\eW xs=t/\∀(j:Nat) (x:Int),xs[j]? =some x->c[j]? =some (.int .u8 x)
 | .BO t self x=>s=0/\∃x' fz,w.heap[b]? =some (.cells #[.pointer (if self then some ⟨b,0,none⟩else none),x'] t fz)/\2=E.β b/\nF fz 2/\dJ E x x'
 | .dy kd C=>s=0/\∃gi eD,w.heap[b]? =some (.map gi eD)/\ko E.φ kd C gi.toList eD
 | .nf=>w.heap[b]? =some (.deferred (some []))
 | .loop st pe S ps assign body=>∃r:Loop,w.heap[b]? =some (.loop r)/\r.state=(if st then .ready else .done)/\r.pending=pe/\r.params.toList=ps/\r.assign=assign/\r.body=body/\QJ E S r.tmps/\fb r.tmps.size assign=true/\fb r.tmps.size body=true/\∀p∈ps,p<r.tmps.size
theorem qx(h:E.le E'){s:Nat}{Q:ag}{c:Array Value}(r:mH E s Q c):mH E' s Q c:=
 fun i v e=>let⟨v',X,h2⟩:=r i v e;⟨v',X,jx h v v' h2⟩
theorem iF{w w':World}{b s:Nat}{o:rs}(h:E.le E')(hb:E'.β b=E.β b)(hw:w'.heap[b]? =w.heap[b]?)(r:mC E w b s o):mC E' w' b s o:=by
 cases o with
 |cells Q=>obtain⟨c,el,fz,X,h2,h3,h4⟩:=r;exact⟨c,el,fz,hw.trans X,h2.trans hb.symm,h3,qx h h4⟩
 |map C eD=>obtain⟨hs,gi,X,h2⟩:=r;exact⟨hs,gi,hw.trans X,CJ h _ _ h2⟩
 |oh st pos=>exact⟨r.1,hw.trans r.2⟩
 |ints k ks=>obtain⟨c,el,fz,X,h2,h3⟩:=r;exact⟨c,el,fz,hw.trans X,h2.trans hb.symm,h3⟩
 |own k ks=>obtain⟨c,el,fz,X,h2,h3,h4⟩:=r;exact⟨c,el,fz,hw.trans X,h2.trans hb.symm,h3,qx h h4⟩
 |deep Q=>obtain⟨c,el,fz,vs,X,h2,h3,h4,h5⟩:=r;exact⟨c,el,fz,vs,hw.trans X,h2.trans hb.symm,h3,jf h.fz _ _ h4,h5⟩
 |ia el Bg t=>obtain⟨c,fz,xs,X,h0,h2,h3⟩:=r;exact⟨c,fz,xs,hw.trans X,h0,h2.trans hb.symm,h3⟩
 |BO t self x=>obtain⟨h0,x',fz,X,h2,h3,h4⟩:=r;exact⟨h0,x',fz,hw.trans X,h2.trans hb.symm,h3,jx h _ _ h4⟩
 |dy kd C=>obtain⟨hs,gi,eD,X,h2⟩:=r;exact⟨hs,gi,eD,hw.trans X,h2.mono h.fz⟩
 |nf=>exact hw.trans r
 |loop st pe S ps assign body=>obtain⟨r,X,h2,h3,h4,h5,h6,h7,h8⟩:=r;exact⟨r,hw.trans X,h2,h3,h4,h5,h6,wE h h7,h8⟩
theorem nh{k:IntKind}{ks:List Int}{c:Array Value}:mH E s (ks.map (.int k)) c↔∀(i:Nat) (x:Int),ks[i]? =some x->c[s+i]? =some (.int k x):=by
 constructor
 . intro r i x e;obtain⟨v',X,h2⟩:=r i (.int k x) (by rw[bu,e];rfl);simp only[dJ]at h2;rw[X,h2]
 . intro r i v e;rw[bu]at e;cases M:ks[i]? with
   |none=>rw[M]at e;cases e
   |some x=>
    rw[M]at e;simp only[bj,an]at e;subst e;exact⟨_,r i x M,rfl⟩
theorem xq{k:IntKind}{ks:List Int}{c:Array Value}(r:mH E s (ks.map (.int k)) c):mH E' s (ks.map (.int k)) c:=nh.2 (nh.1 r)
end
theorem qy{k:IntKind}:∀{l:ag} {ks:List Int},pQ k l=some ks->l=ks.map (.int k)
 | [],ks,h=>by simp only[pQ,an]at h;subst h;rfl
 |v::r,ks,h=>by
  unfold pQ at h;split at h
  . rename_i q;cases q
  . rename_i k' x r' q;cases q;split at h
    . rename_i l X h2;obtain rfl:=eE h;have:=aI X;subst this;rw[qy h2];rfl
    . cases h
  . cases h
theorem oA{E:Env}{s:Nat}{Q:ai}{c:Array Value}(hs:∀x∈Q,x.scalar=true):mH E s (lf.lQ Q) c↔∃vs,iH E.φ Q vs/\∀(j:Nat) (x:Value),vs[j]? =some x->c[s+j]? =some x:=by
 constructor
 . intro r;have hg:∀i,i<Q.length->∃x,c[s+i]? =some x:=by
    intro i hi;obtain⟨v',X,_⟩:=r i (Q[i]).iZ (by rw[lf.gB,bu,az hi];rfl);exact⟨v',X⟩
   refine⟨(List.range Q.length).map fun i=>(c[s+i]?).getD undef,ql (by simp) fun i d hd=>?_,fun j x M=>?_⟩
   . have hi:=(aH.1 hd).1;obtain⟨v',X,h2⟩:=r i d.iZ (by rw[lf.gB,bu,hd];rfl);refine⟨v',by simp[List.getElem?_range hi,X],hs d (bg hd),Im d v' h2 fun ds q=>?_⟩;have:=hs d (bg hd);rw[q]at this;cases this
   . rw[bu]at M;by_cases hj:j<Q.length
     . rw[List.getElem?_range hj]at M;simp only[bj,an]at M;obtain⟨y,hy⟩:=hg j hj;rw[hy]at M ⊢;simpa using M
     . rw[bS (by simpa using Nat.le_of_not_lt hj)]at M;cases M
 . rintro⟨vs,r,hv⟩ i v hi;rw[lf.gB,bu]at hi;cases hd:Q[i]? with
   |none=>rw[hd]at hi;cases hi
   |some d=>
    rw[hd]at hi;simp only[bj,an]at hi;subst hi;obtain⟨v',X,_,h3⟩:=wD r i d hd;exact⟨v',hv i v' X,kW d v' h3⟩
theorem tM:∀{l:ag} {ds:ai},iB l=some ds->∀{E:Env} {l':List Value},dK E l l'->iH E.φ ds l'
 | [],ds,h,E,l',r=>by simp only[iB,an]at h;subst h;exact r
 |x::xs,ds,h,E,l',r=>by
  simp only[iB]at h;split at h
  case h_2=>cases h
  rename_i d hd;split at h
  case h_2=>cases h
  rename_i l hl;obtain rfl:=eE h;obtain⟨y,ys,r0,O,rfl⟩:=r;refine⟨y,ys,?_,?_,tM hl O,rfl⟩
  . split at hd<;>first|(cases hd;rfl)|cases hd
  . split at hd<;>first|(cases hd;first|exact r0|exact r0.1|exact⟨none,0,[],r0.2.2,aC _,rfl,fun _=>rfl,fun q=>absurd q (cB _)⟩)|cases hd
theorem vo:∀{l:ag} {ds:ai},iB l=some ds->ds.length=l.length
 | [],ds,h=>by simp only[iB,an]at h;subst h;rfl
 |x::xs,ds,h=>by
  simp only[iB]at h;split at h
  case h_2=>cases h
  split at h
  case h_2=>cases h
  rename_i l hl;obtain rfl:=eE h;simp[vo hl]
mutual
theorem Gy{E:Env}:∀{x:V} {d:lf},V.QA x=some d->∀{v:Value},dJ E x v->kV E.φ d v/\(x.scalar=true->d.scalar=true)
 | .bool _,d,h,v,r=>by simp only[V.QA,an]at h;subst h;exact⟨r,fun _=>rfl⟩
 | .int _ _,d,h,v,r=>by simp only[V.QA,an]at h;subst h;exact⟨r,fun _=>rfl⟩
 | .str _,d,h,v,r=>by simp only[V.QA,an]at h;subst h;exact⟨r,fun _=>rfl⟩
 | .dV _ _ _,d,h,v,r=>by simp only[V.QA,an]at h;subst h;exact⟨r.1,fun _=>rfl⟩
 | .agg Q,d,h,v,r=>by
   simp only[V.QA]at h;split at h
   . rename_i l hl;obtain rfl:=eE h;obtain⟨vs,r,e⟩:=r;exact⟨⟨vs,Io hl r,e⟩,fun h=>by cases h⟩
   . cases h
 | .ptr _,d,h,_,_=>by cases h
 | .dx none _ _ _,d,h,v,r=>by
   simp only[V.QA,an]at h;subst h;exact⟨⟨none,0,[],r.2.2,aC _,rfl,fun _=>rfl,fun q=>absurd q (cB _)⟩,fun _=>rfl⟩
 | .dx (some _) 0 _ _,d,h,v,r=>by
   simp only[V.QA,an]at h;subst h;obtain⟨b,s,o',gq,_,_,_,_,_,e⟩:=r;exact⟨⟨_,gq,[],e,aX _,rfl,fun _=>rfl,fun q=>absurd q (cB _)⟩,fun _=>rfl⟩
 | .dx (some _) (_+1) _ _,d,h,_,_=>by cases h
 | .map _,d,h,_,_=>by cases h
 | .fn _ _ _,d,h,_,_=>by cases h
 | .kT,d,h,_,_=>by cases h
 | .iface _ _,d,h,_,_=>by cases h
 | .nilIface,d,h,_,_=>by cases h
 | .ew _,d,h,_,_=>by cases h
 | .eK _,d,h,_,_=>by cases h
theorem Io{E:Env}:∀{xs:ag} {ds:ai},V.QB xs=some ds->∀{vs:List Value},dK E xs vs->iH E.φ ds vs
 | [],ds,h,v,r=>by simp only[V.QB,an]at h;subst h;exact r
 |x::xs,ds,h,v,r=>by
  simp only[V.QB]at h;split at h
  case h_2=>cases h
  rename_i d hd;split at h
  case h_2=>cases h
  rename_i l hl;split at h
  case h_2=>cases h
  rename_i KC;obtain rfl:=eE h;obtain⟨y,ys,r0,O,rfl⟩:=r;exact⟨y,ys,KC,(Gy hd r0).1,Io hl O,rfl⟩
end
theorem Bj{E:Env}:∀{xs ys:ag} {l:List Value},dK E (xs++ys) l->∃l1 l2,dK E xs l1/\dK E ys l2/\l=l1++l2
 | [],_,l,r=>⟨[],l,rfl,r,rfl⟩
 |x::xs,_,l,⟨y,zs,r0,O,e⟩=>by
  obtain⟨l1,l2,X,h2,h3⟩:=Bj O;exact⟨y::l1,l2,⟨y,l1,r0,X,rfl⟩,h2,by rw[e,h3];rfl⟩
def wk(xs ys:ag):Prop:=∀(E:Env) (l:List Value),dK E xs l->dK E ys l
theorem jd(xs:ag):wk xs xs:=fun _ _ r=>r
theorem Aq{a b a' b':ag}(h:wk a a')(k:wk b b'):wk (a++b) (a'++b'):=fun E l r=>by
 obtain⟨l1,l2,X,h2,rfl⟩:=Bj r;exact iM (h E l1 X) (k E l2 h2)
theorem yX{l:ag}{ds:ai}(h:iB l=some ds):wk l (lf.lQ ds):=fun _ _ r=>wC _ _ (tM h r)
theorem sJ{E:Env}{s:Nat}{Q:ag}{c:Array Value}:mH E s Q c↔∃vs,dK E Q vs/\∀(j:Nat) (x:Value),vs[j]? =some x->c[s+j]? =some x:=by
 constructor
 . intro r;have hg:∀i,i<Q.length->∃x,c[s+i]? =some x:=fun i hi=>by
    obtain⟨v',X,_⟩:=r i Q[i] (az hi);exact⟨v',X⟩
   refine⟨(List.range Q.length).map fun i=>(c[s+i]?).getD undef,jN (by simp) fun i d hd=>?_,fun j x M=>?_⟩
   . have hi:=(aH.1 hd).1;obtain⟨v',X,h2⟩:=r i d hd;exact⟨v',by simp[List.getElem?_range hi,X],h2⟩
   . rw[bu]at M;by_cases hj:j<Q.length
     . rw[List.getElem?_range hj]at M;simp only[bj,an]at M;obtain⟨y,hy⟩:=hg j hj;rw[hy]at M ⊢;simpa using M
     . rw[bS (by simpa using Nat.le_of_not_lt hj)]at M;cases M
 . rintro⟨vs,r,hv⟩ i v hi;obtain⟨v',X,h2⟩:=gJ r i v hi;exact⟨v',hv i v' X,h2⟩
theorem yY{E:Env}{s:Nat}{xs ys:ag}{c:Array Value}(h:wk xs ys)(r:mH E s xs c):mH E s ys c:=by
 obtain⟨vs,X,h2⟩:=sJ.1 r;exact sJ.2 ⟨vs,h E vs X,h2⟩
def Row.sc:Row->Prop
 | .ds Q=>∀x∈Q,x.scalar=true
 |_=>True
theorem oB:∀{l:ag} {ds:ai},iB l=some ds->∀x∈ds,x.scalar=true
 | [],ds,h,x,M=>by simp only[iB,an]at h;subst h;simp at M
 |y::l,ds,h,x,M=>by
  simp only[iB]at h;split at h
  case h_2=>cases h
  rename_i d hd;split at h
  case h_2=>cases h
  rename_i l' hl;obtain rfl:=eE h;rcases aD.1 M with rfl|M
  . split at hd<;>first|(cases hd;rfl)|cases hd
  . exact oB hl x M
theorem Row.KD(a b:Row):wk (a.iZ++b.iZ) (a.app b).iZ:=by
 have e:∀{k:IntKind} {l:ag} {ks:List Int},pQ k l=some ks->l=ks.map (.int k):=fun h=>qy h;have W:∀(k:IntKind) (ks:List Int),lf.lQ (ks.map (.int k))=ks.map (.int k):=fun k ks=>by rw[lf.gB,List.map_map];rfl
 have ha:∀(x y:ai),lf.lQ (x++y)=lf.lQ x++lf.lQ y:=fun x y=>by rw[lf.gB,lf.gB,lf.gB,aZ]
 cases a<;>cases b<;>simp only[Row.app]
 . exact jd _
 . rename_i Q k ks;split
   . rename_i l h;simp only[Row.iZ,e h,aZ];exact jd _
   . exact jd _
 . rename_i Q ds;split
   . rename_i l h;simp only[Row.iZ,ha];exact Aq (yX h) (jd _)
   . exact jd _
 . rename_i k ks Q;split
   . rename_i l h;simp only[Row.iZ,e h,aZ];exact jd _
   . exact jd _
 . rename_i k ks k' YJ;split
   . rename_i h;have:=aI h;subst this;simp only[Row.iZ,aZ];exact jd _
   . exact jd _
 . simp only[Row.iZ,ha,W];exact jd _
 . rename_i Q ds;split
   . rename_i l h;simp only[Row.iZ,ha];exact Aq (jd _) (yX h)
   . exact jd _
 . simp only[Row.iZ,ha,W];exact jd _
 . simp only[Row.iZ,ha];exact jd _
theorem Row.KE{a b:Row}(h:a.sc)(k:b.sc):(a.app b).sc:=by
 have hi:∀(k:IntKind) (ks:List Int),∀x∈ks.map (lf.int k),x.scalar=true:=fun k ks x M=>by
  obtain⟨n,_,rfl⟩:=bF.1 M;rfl
 have ap:∀{x y:ai},(∀z∈x,z.scalar=true)->(∀z∈y,z.scalar=true)->∀z∈x++y,z.scalar=true:=fun h k z hz=>(aW.1 hz).elim (h z) (k z);cases a<;>cases b<;>simp only[Row.app]<;>first|trivial|skip
 . split<;>trivial
 . split
   . rename_i l hl;exact ap (oB hl) k
   . trivial
 . split<;>trivial
 . split<;>trivial
 . exact ap (hi _ _) k
 . split
   . rename_i l hl;exact ap h (oB hl)
   . trivial
 . exact ap h (hi _ _)
 . exact ap h k
section
variable{o size:Nat}{r r':Row}
theorem Row.QK(h:r.cut o size=some r')(k:r.sc):r'.sc:=by
 cases r with
 |vs Q=>simp only[Row.cut]at h;split at h<;>first|(cases h;trivial)|cases h
 |is k ks=>simp only[Row.cut]at h;split at h<;>first|(cases h;trivial)|cases h
 |ds Q=>
  simp only[Row.cut]at h;split at h
  . cases h;exact fun x M=>k x (List.mem_of_mem_drop (List.mem_of_mem_take M))
  . cases h
theorem Row.Gz(h:r.cut o size=some r'):Eng.cut r.iZ o size=some r'.iZ:=by
 cases r with
 |vs Q=>
  simp only[Row.cut]at h;split at h
  . rename_i q;obtain rfl:=eE h;exact q
  . cases h
 |is k ks=>
  simp only[Row.cut]at h;split at h
  . rename_i q;obtain rfl:=eE h;simp only[Eng.cut,Row.iZ,bf,aF q,cN,List.map_drop]
  . cases h
 |ds Q=>
  simp only[Row.cut]at h;split at h
  . rename_i q;obtain rfl:=eE h;simp only[Eng.cut,Row.iZ,lf.gB,bf,aF q,cN,List.map_drop]
  . cases h
theorem Row.QL(h:r.flat=true)(k:r.sc):r.iZ.all V.scalar=true:=by
 cases r with
 |vs Q=>exact h
 |is k ks=>simp[Row.iZ,V.scalar]
 |ds Q=>exact Bi k
end
section
variable{E:Env}{w:World}{b s:Nat}{o:rs}{r:Row}
theorem Ip(h:o.row=some r)(q:mC E w b s o):(∃c el fz,w.heap[b]? =some (.cells c el fz)/\c.size=E.β b/\nF fz c.size/\mH E s r.iZ c)/\r.sc:=by
 cases o<;>simp only[rs.row,an,reduceCtorEq]at h<;>subst h
 . exact⟨q,trivial⟩
 . exact⟨q,trivial⟩
 . obtain⟨c,el,fz,vs,X,h2,h3,h4,h5⟩:=q;exact⟨⟨c,el,fz,X,h2,h3,(oA (jr h4)).2 ⟨vs,h4,h5⟩⟩,jr h4⟩
theorem OA(h:o.Ox=some r)(q:mC E w b s o):(∃c el fz,w.heap[b]? =some (.cells c el fz)/\c.size=E.β b/\mH E s r.iZ c)/\r.sc:=by
 cases o<;>simp only[rs.Ox,an,reduceCtorEq]at h<;>subst h
 . obtain⟨c,el,fz,X,h2,_,h4⟩:=q;exact⟨⟨c,el,fz,X,h2,h4⟩,trivial⟩
 . obtain⟨c,el,fz,X,h2,h3⟩:=q;exact⟨⟨c,el,fz,X,h2,nh.2 h3⟩,trivial⟩
 . obtain⟨c,el,fz,X,h2,_,h4⟩:=q;exact⟨⟨c,el,fz,X,h2,h4⟩,trivial⟩
 . obtain⟨c,el,fz,vs,X,h2,h3,h4,h5⟩:=q;exact⟨⟨c,el,fz,X,h2,(oA (jr h4)).2 ⟨vs,h4,h5⟩⟩,jr h4⟩
theorem yZ(q:∃c el fz,w.heap[b]? =some (.cells c el fz)/\c.size=E.β b/\nF fz c.size/\mH E s r.iZ c)(k:r.sc):mC E w b s r.Fo:=by
 cases r with
 |ds Q=>
  obtain⟨c,el,fz,X,h2,h3,h4⟩:=q;obtain⟨vs,h5,h6⟩:=(oA k).1 h4;exact⟨c,el,fz,vs,X,h2,h3,h5,h6⟩
 |_=>exact q
end
theorem QM{o:rs}{r:Row}(h:o.row=some r):o.wr=true:=by cases o<;>simp[rs.row]at h<;>rfl
def eG(h:H rs)(m:Nat):Prop:=∃o,h.get m=some o/\o.wr=true
section
variable{h:H rs}{n m:Nat}{x:Option rs}
theorem QN{h':H rs}{m n:Nat}(e:h.get m=h'.get n)(k:eG h m):eG h' n:=by obtain⟨o,a,b⟩:=k;exact⟨o,e.symm.trans a,b⟩
theorem sK(hn:n<fW):eG (h.set n x) m->(m=n/\∃o,x=some o/\o.wr=true)\/(m≠n/\eG h m):=by
 rintro⟨o,e,k⟩;rw[H.eY _ _ _ hn]at e;split at e
 . rename_i q;exact .inl ⟨q,o,e,k⟩
 . rename_i q;exact .inr ⟨q,o,e,k⟩
theorem o9(hn:n<fW)(k:eG (h.set n x) m)(q:m≠n):eG h m:=
 (sK hn k).elim (fun c=>absurd c.1 q) (·.2)
theorem eG.live(k:eG h m):h.get m≠none:=by obtain⟨o,e,_⟩:=k;rw[e];simp
end
structure Good(E:Env)(h:H rs)(w:World):Prop where
 rel:∀m o,h.get m=some o->∃b s,E.ι m=some (b,s)/\mC E w b s o
 inj:∀m m' b s s',m≠m'->eG h m->h.get m'≠none->E.ι m=some (b,s)->E.ι m'=some (b,s')->False
 ny:∀m b s,E.ι m=some (b,s)->b<w.heap.size
 jy:GE E
 gX:∀b c,E.φ b=some c->(∃el fz,w.heap[b]? =some (.cells c el fz))/\∀m s,eG h m->E.ι m≠some (b,s)
structure iI(E:Env)(h:H rs)(w:World)(E':Env)(h':H rs)(w':World):Prop where
 le:E.le E'
 good:Good E' h' w'
 size:w.heap.size<=w'.heap.size
 tape:w'.tape=w.tape
 os:w'.os=w.os
 output:w'.output=w.output
 keep:∀b,b<w.heap.size->(∀m s,eG h m->E.ι m≠some (b,s))->w'.heap[b]? =w.heap[b]?
 uF:∀m b s,h'.get m≠none->E'.ι m=some (b,s)->b<w.heap.size->∃m0 s0,h.get m0≠none/\E.ι m0=some (b,s0)/\(eG h' m->eG h m0)
 Eu:∀b c,E'.φ b=some c->E.φ b=some c\/w.heap.size<=b\/∃m s,eG h m/\E.ι m=some (b,s)
theorem iI.refl{E:Env}{h:H rs}{w:World}(g:Good E h w):iI E h w E h w:=
 ⟨E.le_refl,g,aC _,rfl,rfl,rfl,fun _ _ _=>rfl,fun m _ s W e _=>⟨m,s,W,e,id⟩,fun _ _ q=>.inl q⟩
theorem iI.trans{E E1 E2:Env}{h X h2:H rs}{w w1 w2:World}(a:iI E h w E1 X w1)(b:iI E1 X w1 E2 h2 w2):iI E h w E2 h2 w2 where
 le:=Env.le_trans a.le b.le
 good:=b.good
 size:=bR a.size b.size
 tape:=b.tape.trans a.tape
 os:=b.os.trans a.os
 output:=b.output.trans a.output
 keep:=fun x M hn=>by
  rw[b.keep x (bC M a.size) ?_,a.keep x M hn];intro m s W e;obtain⟨m0,s0,h0,e0,k0⟩:=a.uF m x s W.live e M;exact hn m0 s0 (k0 W) e0
 uF:=fun m x s W e M=>by
  obtain⟨m1,s1,mO,e1,k1⟩:=b.uF m x s W e (bC M a.size);obtain⟨m2,s2,h2,e2,k2⟩:=a.uF m1 x s1 mO e1 M;exact⟨m2,s2,h2,e2,fun q=>k2 (k1 q)⟩
 Eu:=fun x c J=>by
  rcases b.Eu x c J with q|q|⟨m,s,q1,q2⟩
  . exact a.Eu x c q
  . exact .inr (.inl (bR a.size q))
  . rcases bO x w.heap.size with M|M
    . obtain⟨m0,s0,_,e0,k0⟩:=a.uF m x s q1.live q2 M;exact .inr (.inr ⟨m0,s0,k0 q1,e0⟩)
    . exact .inr (.inl M)
theorem Good.same{E:Env}{h:H rs}{w w':World}(g:Good E h w)(e:w'.heap=w.heap):Good E h w' where
 rel:=fun m o W=>let⟨b,s,X,h2⟩:=g.rel m o W;⟨b,s,X,iF E.le_refl rfl (by rw[e]) h2⟩
 inj:=g.inj
 ny:=fun m b s h=>by rw[e];exact g.ny m b s h
 jy:=g.jy
 gX:=fun b c q=>⟨by rw[e];exact(g.gX b c q).1,(g.gX b c q).2⟩
theorem iI.drew{E:Env}{h:H rs}{w:World}(g:Good E h w):iI E h w E h w.drew:=
 ⟨E.le_refl,g.same rfl,aC _,rfl,rfl,rfl,fun _ _ _=>rfl,fun m _ s W e _=>⟨m,s,W,e,id⟩,fun _ _ q=>.inl q⟩
def Env.put(E:Env)(n b s z:Nat):Env:={ ι:=fun m=>if m=n then some (b,s)else E.ι m,β:=fun x=>if x=b then z else E.β x,φ:=E.φ }
section
variable{E:Env}{w:World}{n:Nat}{o:Obj}{b s z:Nat}
theorem Env.ff:(E.put n b s z).ι n=some (b,s):=by simp[Env.put]
theorem Env.fG{m:Nat}(h:m≠n):(E.put n b s z).ι m=E.ι m:=by simp[Env.put,h]
theorem Env.sq(hn:E.ι n=none)(hb:∀m x t,E.ι m=some (x,t)->x=b->E.β b=z):E.le (E.put n b s z):=by
 refine⟨?_,fun _ _ h=>h⟩;intro m x t e;have:m≠n:=by intro h;rw[h,hn]at e;simp at e
 refine⟨by rw[Env.fG this];exact e,?_⟩;show(if x=b then z else E.β x)=E.β x;split
 . rename_i h;rw[<- hb m x t e h,h]
 . rfl
theorem jT(h:b<w.heap.size):(w.alloc o).heap[b]? =w.heap[b]?:=by
 simp only[World.alloc,Array.getElem?_push];rw[aJ L]
theorem heap_alloc_new:(w.alloc o).heap[w.heap.size]? =some o:=by
 simp only[World.alloc,Array.getElem?_push,if_true]
end
def kr:Obj->Nat
 | .cells c _ _=>c.size
 |_=>0
theorem iI.alloc{E:Env}{h:H rs}{w:World}{n:Nat}{o:rs}{ob:Obj}(g:Good E h w)(hn:E.ι n=none)(ht:n<fW)
  (ho:mC (E.put n w.heap.size 0 (kr ob)) (w.alloc ob) w.heap.size 0 o):
  iI E h w (E.put n w.heap.size 0 (kr ob)) (h.set n (some o)) (w.alloc ob):=by
 have vp:∀m b s,E.ι m=some (b,s)->b≠w.heap.size:=fun m b s e hb=>by have:=g.ny m b s e;omega
 have kR:E.le (E.put n w.heap.size 0 (kr ob)):=Env.sq hn fun m x t e M=>absurd M (vp m x t e);have B7:∀b c,E.φ b=some c->b<w.heap.size:=fun b c q=>by
  obtain⟨⟨el,fz,e⟩,_⟩:=g.gX b c q;exact(aS.1 e).1
 refine⟨kR,⟨?_,?_,?_,g.jy.mono kR,fun b c q=>⟨by rw[jT (B7 b c q)];exact(g.gX b c q).1,fun m s W e=>?_⟩⟩,by simp,rfl,rfl,rfl,fun b hb _=>jT hb,?_,fun _ _ q=>.inl q⟩
 case refine_4=>
  by_cases a:m=n
  . subst a;rw[Env.ff]at e;cases e;exact absurd (B7 _ c q) (cB _)
  . rw[Env.fG a]at e;exact(g.gX b c q).2 m s (o9 ht W a) e
 . intro m o' W;rw[H.eY _ _ _ ht]at W;by_cases e:m=n
   . subst e;rw[aF rfl]at W;cases W;exact⟨_,_,Env.ff,ho⟩
   . rw[aJ e]at W;obtain⟨b,s,X,h2⟩:=g.rel m o' W;exact⟨b,s,by rw[Env.fG e];exact X,iF kR (kR.nm m b s X).2 (jT (g.ny m b s X)) h2⟩
 . intro m m' b s s' fS W tN e e';rw[H.eY _ _ _ ht]at tN;by_cases a:m=n
   . subst a;rw[Env.ff]at e;have:m'≠m:=fun x=>fS x.symm;rw[Env.fG this]at e';cases e;exact vp _ _ _ e' rfl
   . rw[Env.fG a]at e;replace W:eG h m:=o9 ht W a;by_cases a':m'=n
     . subst a';rw[Env.ff]at e';cases e';exact vp _ _ _ e rfl
     . rw[Env.fG a']at e';rw[aJ a']at tN;exact g.inj m m' b s s' fS W tN e e'
 . intro m b s e;by_cases a:m=n
   . subst a;rw[Env.ff]at e;cases e;simp
   . rw[Env.fG a]at e;have:=g.ny m b s e;simp;omega
 . intro m b s W e hb;by_cases a:m=n
   . subst a;rw[Env.ff]at e;cases e;omega
   . rw[Env.fG a]at e;rw[H.eY _ _ _ ht,aJ a]at W;exact⟨m,s,W,e,fun q=>o9 ht q a⟩
section
variable{E:Env}{h h':H rs}{w w':World}{m b s:Nat}{o:rs}
theorem iI.write(g:Good E h w)(ht:m<fW)(iJ:eG h m)(W:E.ι m=some (b,s))
  (Fp:w'.heap.size=w.heap.size) (Iq:w'.tape=w.tape) (hos:w'.os=w.os) (pR:w'.output=w.output)
  (qO:∀x,x≠b->w'.heap[x]? =w.heap[x]?) (ho:mC E w' b s o):iI E h w E (h.set m (some o)) w':=by
 refine⟨E.le_refl,⟨?_,?_,?_,g.jy,fun b' c q=>⟨?_,fun k t hk e=>?_⟩⟩,L,Iq,hos,pR,?_,?_,fun _ _ q=>.inl q⟩
 case refine_4=>rw[qO b' fun e=>(g.gX b' c q).2 m s iJ (e▸W)];exact(g.gX b' c q).1
 case refine_5=>
  rcases sK ht hk with⟨a,_⟩|a
  . exact(g.gX b' c q).2 m t iJ (a▸e)
  . exact(g.gX b' c q).2 k t a.2 e
 . intro k o' hk;rw[H.eY _ _ _ ht]at hk;by_cases e:k=m
   . subst e;rw[aF rfl]at hk;cases hk;exact⟨b,s,W,ho⟩
   . rw[aJ e]at hk;obtain⟨b',s',X,h2⟩:=g.rel k o' hk;have fS:b'≠b:=by
      intro hb;subst hb;exact g.inj m k b' s s' (fun q=>e q.symm) iJ (by rw[hk];simp) W X
     exact⟨b',s',X,iF E.le_refl rfl (qO b' fS) h2⟩
 . intro k k' x t t' fS hk uT e e';refine g.inj k k' x t t' fS ?_ ?_ e e'
   . rcases sK ht hk with⟨q,_⟩|q
     . rw[q];exact iJ
     . exact q.2
   . rw[H.eY _ _ _ ht]at uT;split at uT
     . rename_i q;rw[q];exact iJ.live
     . exact uT
 . intro k x t e;rw[Fp];exact g.ny k x t e
 . intro x _ hn;refine qO x ?_;intro M;subst M;exact hn m s iJ W
 . intro k x t hk e _;by_cases q:k=m
   . subst q;exact⟨k,t,iJ.live,e,fun _=>iJ⟩
   . rw[H.eY _ _ _ ht,aJ q]at hk;exact⟨k,t,hk,e,fun c=>o9 ht c q⟩
theorem iI.move{n b s s':Nat}{o:rs}(g:Good E h w)(ht:m<fW)(hn:n<fW)(tO:E.ι n=none)(iJ:eG h m)(W:E.ι m=some (b,s))
  (Fp:w'.heap.size=w.heap.size) (Iq:w'.tape=w.tape) (hos:w'.os=w.os) (pR:w'.output=w.output)
  (qO:∀x,x≠b->w'.heap[x]? =w.heap[x]?) (ho:mC (E.put n b s' (E.β b)) w' b s' o):
  iI E h w (E.put n b s' (E.β b)) ((h.set m none).set n (some o)) w':=by
 have QO:m≠n:=by intro e;rw[e,tO]at W;simp at W
 have kR:E.le (E.put n b s' (E.β b)):=Env.sq tO fun _ _ _ _ _=>rfl;have kY:∀k,((h.set m none).set n (some o)).get k=if k=n then some o else if k=m then none else h.get k:=by
  intro k;rw[H.eY _ _ _ hn];split
  . rfl
  . rw[H.eY _ _ _ ht]
 have uL:∀k,eG ((h.set m none).set n (some o)) k->k=n\/(k≠n/\k≠m/\eG h k):=by
  intro k q;rcases sK hn q with q|q
  . exact .inl q.1
  . rcases sK ht q.2 with c|c
    . obtain⟨_,_,c,_⟩:=c;cases c
    . exact .inr ⟨q.1,c.1,c.2⟩
 refine⟨kR,⟨?_,?_,?_,g.jy.mono kR,fun b2 c q=>⟨?_,fun k t hk e=>?_⟩⟩,L,Iq,hos,pR,?_,?_,fun _ _ q=>.inl q⟩
 case refine_4=>rw[qO b2 fun e=>(g.gX b2 c q).2 m s iJ (e▸W)];exact(g.gX b2 c q).1
 case refine_5=>
  rcases uL k hk with a|⟨a,_,a2⟩
  . subst a;rw[Env.ff]at e;cases e;exact(g.gX _ c q).2 m s iJ W
  . rw[Env.fG a]at e;exact(g.gX b2 c q).2 k t a2 e
 . intro k o' hk;rw[kY]at hk;by_cases e:k=n
   . subst e;rw[aF rfl]at hk;cases hk;exact⟨_,_,Env.ff,ho⟩
   . rw[aJ e]at hk;by_cases e2:k=m
     . rw[aF e2]at hk;cases hk
     . rw[aJ e2]at hk;obtain⟨b',t,X,h2⟩:=g.rel k o' hk;have fS:b'≠b:=by
        intro hb;subst hb;exact g.inj m k b' s t (fun q=>e2 q.symm) iJ (by rw[hk];simp) W X
       exact⟨b',t,by rw[Env.fG e];exact X,iF kR (kR.nm k b' t X).2 (qO b' fS) h2⟩
 . intro k k' x t t' fS hk uT e e';rw[kY]at uT;rcases uL k hk with a|⟨a,c,OB⟩
   . subst a;rw[Env.ff]at e;cases e;have a':k'≠k:=fun q=>fS q.symm;rw[Env.fG a']at e';rw[aJ a']at uT;by_cases c:k'=m
     . rw[aF c]at uT;exact uT rfl
     . rw[aJ c]at uT;exact g.inj m k' b s t' (fun q=>c q.symm) iJ uT W e'
   . rw[Env.fG a]at e;by_cases a':k'=n
     . subst a';rw[Env.ff]at e';cases e';exact g.inj m k b s t (fun q=>c q.symm) iJ OB.live W e
     . rw[Env.fG a']at e';rw[aJ a']at uT;by_cases c':k'=m
       . rw[aF c']at uT;exact uT rfl
       . rw[aJ c']at uT;exact g.inj k k' x t t' fS OB uT e e'
 . intro k x t e;by_cases a:k=n
   . subst a;rw[Env.ff]at e;cases e;rw[Fp];exact g.ny m b s W
   . rw[Env.fG a]at e;rw[Fp];exact g.ny k x t e
 . intro x _ M;refine qO x ?_;intro q;subst q;exact M m s iJ W
 . intro k x t hk e _;rw[kY]at hk;by_cases a:k=n
   . subst a;rw[Env.ff]at e;cases e;exact⟨m,s,iJ.live,W,fun _=>iJ⟩
   . rw[Env.fG a]at e;rw[aJ a]at hk;by_cases c:k=m
     . rw[aF c]at hk;exact absurd rfl hk
     . rw[aJ c]at hk;exact⟨k,t,hk,e,fun q=>(uL k q).elim (fun c=>absurd c a) (·.2.2)⟩
theorem nG(hs:∀m o,h'.get m=some o->h.get m=some o){m:Nat}(k:h'.get m≠none):h.get m≠none:=by
 cases q:h'.get m with
 |none=>exact absurd q k
 |some o=>rw[hs m o q];simp
theorem gA(hs:∀m o,h'.get m=some o->h.get m=some o){m:Nat}(k:eG h' m):eG h m:=by
 obtain⟨o,a,b⟩:=k;exact⟨o,hs m o a,b⟩
theorem Good.sub(g:Good E h w)(hs:∀m o,h'.get m=some o->h.get m=some o):Good E h' w where
 rel:=fun m o W=>g.rel m o (hs m o W)
 inj:=fun m m' b s s' fS W tN e e'=>g.inj m m' b s s' fS (gA hs W) (nG hs tN) e e'
 ny:=g.ny
 jy:=g.jy
 gX:=fun b c q=>⟨(g.gX b c q).1,fun m s W=>(g.gX b c q).2 m s (gA hs W)⟩
theorem iI.forget(g:Good E h w)(ht:m<fW):iI E h w E (h.set m none) w:=by
 have hs:∀k o,(h.set m none).get k=some o->h.get k=some o:=by
  intro k o hk;rw[H.eY _ _ _ ht]at hk;split at hk
  . cases hk
  . exact hk
 exact⟨E.le_refl,g.sub hs,aC _,rfl,rfl,rfl,fun _ _ _=>rfl,fun k b s hk e _=>⟨k,s,nG hs hk,e,gA hs⟩,fun _ _ q=>.inl q⟩
theorem Addr.jk(b o n:Nat):(⟨b,o,none⟩:Addr).add n=⟨b,o+n,none⟩:=by
 unfold Addr.add;split
 . rename_i h;subst h;rfl
 . rfl
theorem nH{i:Nat}{c:Array Value}{el:TypeId}{fz:Nat×Nat}(h:w.heap[b]? =some (.cells c el fz)):w.cell? ⟨b,i,none⟩=c[i]?:=by
 simp[World.cell?,h]
end
theorem run_loadCellsFrom{P:Program}{w:World}{b o:Nat}{c:Array Value}{el:TypeId}{fz:Nat×Nat}(h:w.heap[b]? =some (.cells c el fz)):
  ∀(n i:Nat) (gz:Array Value),o+i+n<=c.size->(loadCellsFrom ⟨b,o,none⟩ i n gz).run P w= .ok (gz++((c.toList.drop (o+i)).take n).toArray) w
 |0,i,gz,_=>by simp[loadCellsFrom]
 |n+1,i,gz,hn=>by
  have fH:o+i<c.size:=by omega
  simp only[loadCellsFrom,Sem.run_bind,run_load,Addr.jk,nH h];rw[bq fH];simp only[Result.andThen_ok];rw[run_loadCellsFrom h n (i+1) _ L];congr 1;have hd:c.toList.drop (o+i)=c[o+i]::c.toList.drop (o+(i+1)):=by
   rw[bJ (by simpa using fH)];simp[cE]
  rw[hd];simp
theorem run_loadCells{P:Program}{w:World}{b o n:Nat}{c:Array Value}{el:TypeId}{fz:Nat×Nat}(h:w.heap[b]? =some (.cells c el fz))(hn:o+n<=c.size):
  (loadCells ⟨b,o,none⟩ n).run P w= .ok ((c.toList.drop o).take n).toArray w:=by
 unfold loadCells;rw[run_loadCellsFrom h n 0 #[] L];simp
def putCells(c:Array Value)(o:Nat)(vs:List Value):Array Value:=(c.toList.take o++(vs++c.toList.drop (o+vs.length))).toArray
theorem jU{c:Array Value}{o:Nat}{vs:List Value}(h:o+vs.length<=c.size):(putCells c o vs).size=c.size:=by
 simp[putCells];omega
theorem nI{c:Array Value}{o:Nat}{vs:List Value}(h:o+vs.length<=c.size)(j:Nat):
  (putCells c o vs)[j]? =if o<=j/\j<o+vs.length then vs[j-o]? else c[j]?:=by
 simp only[putCells,List.getElem?_toArray];rw[bU];have hl:(List.take o c.toList).length=o:=by simp;omega
 rw[hl];by_cases X:j<o
 . rw[aF X,aJ L,bQ,aF X];simp
 . rw[aJ X,bU];by_cases h2:j<o+vs.length
   . rw[aF L,aF L]
   . rw[aJ L,aJ L,bL];simp;congr 1;omega
theorem su{c:Array Value}{o:Nat}{v:Value}{vs:List Value}(h:o+(vs.length+1)<=c.size):
  putCells (c.setIfInBounds o v) (o+1) vs=putCells c o (v::vs):=by
 have e1:o+1+vs.length<=(c.setIfInBounds o v).size:=by simp;omega
 have e2:o+(v::vs).length<=c.size:=by simpa using h
 apply Array.ext
 . rw[jU e1,jU e2];simp
 . intro j X h2;have:(putCells (c.setIfInBounds o v) (o+1) vs)[j]? =(putCells c o (v::vs))[j]?:=by
    rw[nI e1,nI e2];by_cases a:j=o
    . subst a;rw[aJ L,aF (by simp)];have hj:j<c.size:=by omega
      simp[hj]
    . by_cases b:o+1<=j/\j<o+1+vs.length
      . rw[aF b,aF (by simp;omega)];have:j-o=(j-(o+1))+1:=by omega
        rw[this];simp
      . rw[aJ b,aJ (by simp;omega)];rw[Array.getElem?_setIfInBounds];rw[aJ (fun q=>a q.symm)]
   rw[bq X,bq h2]at this;exact cG this
theorem nJ{P:Program}{b o:Nat}{el:TypeId}{fz:Nat×Nat}:∀(vs:List Value) (i:Nat) (w:World) (c:Array Value),w.heap[b]? =some (.cells c el fz)->
  nF fz c.size->(∀v∈vs,v.oneCell'=true)->o+i+vs.length<=c.size->
  ∃w',(storeCells ⟨b,o,none⟩ vs i).run P w= .ok () w'/\w'.heap[b]? =some (.cells (putCells c (o+i) vs) el fz)/\w'.heap.size=w.heap.size/\w'.tape=w.tape/\w'.os=w.os/\w'.output=w.output/\
   ∀x,x≠b->w'.heap[x]? =w.heap[x]?
 | [],i,w,c,h,_,_,hn=>by
   refine⟨w,rfl,?_,rfl,rfl,rfl,rfl,fun _ _=>rfl⟩;rw[h];have:putCells c (o+i) []=c:=by simp[putCells]
   rw[this]
 |v::vs,i,w,c,h,hf,hv,hn=>by
  simp only[aT]at hn;have fH:o+i<c.size:=by omega
  have hnf:w.frozen? ⟨b,o+i,none⟩=false:=by
   have:=hf (o+i) fH;simp only[World.frozen?,h];simpa using this
  let w1:=w.setCell ⟨b,o+i,none⟩ v
  have Fq:w1.heap[b]? =some (.cells (c.setIfInBounds (o+i) v) el fz):=by
   simp[w1,World.setCell,cr,h]
  obtain⟨w',e1,e2,e3,e4,e5,e6,e7⟩:=nJ (P:=P) (o:=o) vs (i+1) w1 (c.setIfInBounds (o+i) v) Fq (by simpa using hf) (fun v hv'=>hv v (by simp[hv'])) (by simp only[Array.size_setIfInBounds];omega);refine⟨w',?_,?_,by rw[e3];simp[w1],by rw[e4];rfl,by rw[e5];rfl,by rw[e6];rfl,?_⟩
  . simp only[storeCells,Sem.run_bind];rw[run_store P w _ v .plain (hv v (by simp)),Addr.jk,nH h,bq fH];simp only[hnf,aP,cJ,Result.andThen_ok];exact e1
  . rw[e2];have:o+(i+1)=o+i+1:=by omega
    rw[this,su L]
  . intro x M;rw[e7 x M];simp[w1,World.setCell,cr,Ne.symm M]
theorem tP{E:Env}:∀{v:Value} {x:V},iQ v=some x->dJ E x v:=by
 intro v x h;cases v with
 |bool b=>simp only[iQ,an]at h;subst h;rfl
 |int k n=>simp only[iQ,an]at h;subst h;rfl
 |string s=>
  simp only[iQ,an]at h;subst h;show Value.string s= .string ⟨s.data.toList.toArray⟩;rw[Array.toArray_toList]
 |pointer a=>cases a<;>simp only[iQ,an]at h;. subst h;rfl
             . cases h
 |slice a l c=>
  cases a with
  |none=>match l,c,h with
   |0,0,h=>simp only[iQ,an]at h;subst h;exact⟨rfl,rfl,rfl⟩
  |some a=>simp[iQ]at h
 |map a=>cases a<;>simp only[iQ,an]at h;. subst h;rfl
         . cases h
 |nilFunc=>simp only[iQ,an]at h;subst h;rfl
 |nilIface=>simp only[iQ,an]at h;subst h;rfl
 |_=>simp[iQ]at h
theorem xu{E:Env}:∀{vs:List Value} {xs:ag},ov vs=some xs->dK E xs vs
 | [],xs,h=>by simp only[ov,an]at h;subst h;rfl
 |v::vs,xs,h=>by
  simp only[ov]at h;cases X:iQ v with
  |none=>simp[X]at h
  |some x=>cases h2:ov vs with
   |none=>simp[X,h2]at h
   |some r=>simp only[X,h2,an]at h;subst h;exact⟨v,vs,tP X,xu h2,rfl⟩
theorem Ar{E:Env}{v:Value}{x:V}(h:MU v=some x):dJ E x v:=by
 unfold MU at h;split at h
 . rename_i Q;cases X:ov Q.toList with
   |none=>simp[X]at h
   |some r=>simp only[X,an]at h;subst h;exact⟨Q.toList,xu X,by simp⟩
 . exact tP h
section runs
variable{P:Program}{w:World}
section
variable{t:TypeId}
theorem dz{d:TypeDesc}(h:P.underlying t=some d):(underlying t).run P w= .ok d w:=by simp[underlying,h]
theorem fc{s:Nat}(h:lu P t=some s):(sizeOf t).run P w= .ok s w:=by
 unfold lu at h;cases hi:P.info? t with
 |none=>simp[hi]at h
 |some i=>simp[hi]at h;simp[sizeOf,typeInfo,hi,h]
theorem mI{z:V}(E:Env)(h:zeroOf P t=some z):∃z',(zeroValue t).run P w= .ok z' w/\dJ E z z'/\(∃i,P.info? t=some i/\i.zero=some z'):=by
 unfold zeroOf at h;cases hi:P.info? t with
 |none=>simp[hi]at h
 |some i=>
  simp only[hi]at h;cases hz:i.zero with
  |none=>simp[hz]at h
  |some v=>simp only[hz]at h;exact⟨v,by simp[zeroValue,typeInfo,hi,hz],Ar h,i,rfl,hz⟩
theorem sL{b:Bool}(h:Ow P t=some b):(isAgg t).run P w= .ok b w:=by
 unfold Ow at h;split at h
 . rename_i hu;simp at h;subst h;simp[isAgg,dz hu]
 . rename_i hu;simp at h;subst h;simp[isAgg,dz hu]
 . rename_i d X h2 hu;simp at h;subst h;simp only[isAgg,Sem.run_bind,dz hu,Result.andThen_ok]
   first|rfl|(split<;>first|rfl|(exact absurd rfl (X _))|(exact absurd rfl (h2 _ _)))
 . cases h
end
end runs
def kG(P:Program)(E:Env)(h:H rs)(n:Nat)(w:World)(s:Sem Next):nx->Prop
 | .val v h' n'=>∃E' w' v',(s.run P w= .ok (.value v') w'\/(s.run P w= .ok .skip w'/\v'=undef))/\dJ E' v v'/\iI E h w E' h' w'/\
    (∀m,m≠n->E'.ι m=E.ι m)/\((n'=n/\E'=E)\/n'=n+1)
 | .call f args=>∃dm,dK E args dm/\((s.run P w= .ok (.enter f dm.toArray) w/\callee P f=true)\/(∃m l b,f=P.funcs.size+m/\E.ι m=some (l,b)/\s.run P w=(Instr.yield l dm.toArray).run P w))
 | .nf f c args=>∃c' dm,s.run P w= .ok (.defer { target:=.fn (.func f) c'.toArray,args:=dm.toArray }) w/\dK E c c'/\dK E args dm
 | .recover=>s.run P w= .ok .recover w
 | .panic v=>∃v',s.run P w= .halt (.panic v') w/\dJ E v v'
theorem ee{P:Program}{E:Env}{h:H rs}{n:Nat}{w:World}{s:Sem Next}{v:V}{v':Value}(g:Good E h w)
  (hr:s.run P w= .ok (.value v') w) (hv:dJ E v v'):kG P E h n w s (.val v h n):=
 ⟨E,w,v',.inl hr,hv,iI.refl g,fun _ _=>rfl,.inl ⟨rfl,rfl⟩⟩
theorem oZ{E:Env}{Q:ag}{c:Array Value}(r:dK E Q c.toList):mH E 0 Q c:=by
 intro i v h;obtain⟨v',X,h2⟩:=gJ r i v h;exact⟨v',by simpa using X,h2⟩
theorem lj{h h':H rs}{n n':Nat}{o:rs}(e:newObj h n o=some (h',n')):n<fW/\h'=h.set n (some o)/\n'=n+1:=by
 unfold newObj at e;split at e
 . rename_i q;simp at e;exact⟨q,e.1.symm,e.2.symm⟩
 . cases e
theorem KF{P:Program}{E:Env}{h h':H rs}{n n':Nat}{w w1:World}{s:Sem Next}{Q:ag}{c:Array Value}{el:TypeId}{fz:Nat×Nat}{v:V}{v':Value}
  (g:Good E h w) (hn:E.ι n=none) (e:newObj h n (.cells Q)=some (h',n')) (hw:w1.heap=w.heap) (ht:w1.tape=w.tape) (ho:w1.os=w.os) (pR:w1.output=w.output)
  (B7:nF fz c.size) (hr:s.run P w= .ok (.value v') (w1.alloc (.cells c el fz))) (J:mH E 0 Q c)
  (hv:dJ (E.put n w.heap.size 0 c.size) v v'):kG P E h n w s (.val v h' n'):=by
 obtain⟨gT,rfl,rfl⟩:=lj e;have g1:Good E h w1:=g.same hw;have hs:w1.heap.size=w.heap.size:=by rw[hw]
 have kR:E.le (E.put n w1.heap.size 0 c.size):=Env.sq hn fun m x t q M=>by have:=g1.ny m x t q;omega
 have u1:iI E h w E h w1:=⟨E.le_refl,g1,L,ht,ho,pR,fun b _ _=>by rw[hw],fun m _ s W q _=>⟨m,s,W,q,id⟩,fun _ _ q=>.inl q⟩;have u:=iI.alloc (ob:=.cells c el fz) (o:=.cells Q) g1 hn gT ⟨c,el,fz,heap_alloc_new,by simp[Env.put,kr],B7,qx kR J⟩;refine⟨E.put n w1.heap.size 0 c.size,_,v',.inl hr,by rw[hs];exact hv,u1.trans u,fun m W=>Env.fG W,.inr rfl⟩
theorem As{P:Program}{E:Env}{h h':H rs}{n n':Nat}{w w1:World}{s:Sem Next}{Q:ag}{c:Array Value}{el:TypeId}{v:V}{v':Value}
  (g:Good E h w) (hn:E.ι n=none) (e:newObj h n (.cells Q)=some (h',n')) (hw:w1.heap=w.heap) (ht:w1.tape=w.tape) (ho:w1.os=w.os) (pR:w1.output=w.output)
  (hr:s.run P w= .ok (.value v') (w1.alloc (.cells c el))) (J:mH E 0 Q c)
  (hv:dJ (E.put n w.heap.size 0 c.size) v v'):kG P E h n w s (.val v h' n'):=
 KF g hn e hw ht ho pR (fun i _ q=>by simp at q) hr J hv
theorem Ir{P:Program}{E:Env}{h h':H rs}{n n':Nat}{w w1:World}{s:Sem Next}{r:Row}{c:Array Value}{el:TypeId}{fz:Nat×Nat}{v:V}{v':Value}
  (g:Good E h w) (hn:E.ι n=none) (KC:r.sc) (e:newObj h n r.Fo=some (h',n')) (hw:w1.heap=w.heap) (ht:w1.tape=w.tape) (ho:w1.os=w.os) (pR:w1.output=w.output)
  (B7:nF fz c.size) (hr:s.run P w= .ok (.value v') (w1.alloc (.cells c el fz))) (J:mH E 0 r.iZ c)
  (hv:dJ (E.put n w.heap.size 0 c.size) v v'):kG P E h n w s (.val v h' n'):=by
 obtain⟨gT,rfl,rfl⟩:=lj e;have g1:Good E h w1:=g.same hw;have hs:w1.heap.size=w.heap.size:=by rw[hw]
 have kR:E.le (E.put n w1.heap.size 0 c.size):=Env.sq hn fun m x t q M=>by have:=g1.ny m x t q;omega
 have u1:iI E h w E h w1:=⟨E.le_refl,g1,L,ht,ho,pR,fun b _ _=>by rw[hw],fun m _ s W q _=>⟨m,s,W,q,id⟩,fun _ _ q=>.inl q⟩;have u:=iI.alloc (ob:=.cells c el fz) (o:=r.Fo) g1 hn gT (yZ ⟨c,el,_,heap_alloc_new,by simp[Env.put,kr],B7,qx kR J⟩ KC);refine⟨E.put n w1.heap.size 0 c.size,_,v',.inl hr,by rw[hs];exact hv,u1.trans u,fun m W=>Env.fG W,.inr rfl⟩
theorem tQ{P:Program}{E:Env}{h h':H rs}{n n':Nat}{w w1:World}{s:Sem Next}{r:Row}{c:Array Value}{el:TypeId}{v:V}{v':Value}
  (g:Good E h w) (hn:E.ι n=none) (KC:r.sc) (e:newObj h n r.Fo=some (h',n')) (hw:w1.heap=w.heap) (ht:w1.tape=w.tape) (ho:w1.os=w.os) (pR:w1.output=w.output)
  (hr:s.run P w= .ok (.value v') (w1.alloc (.cells c el))) (J:mH E 0 r.iZ c)
  (hv:dJ (E.put n w.heap.size 0 c.size) v v'):kG P E h n w s (.val v h' n'):=by
 obtain⟨gT,rfl,rfl⟩:=lj e;have g1:Good E h w1:=g.same hw;have hs:w1.heap.size=w.heap.size:=by rw[hw]
 have kR:E.le (E.put n w1.heap.size 0 c.size):=Env.sq hn fun m x t q M=>by have:=g1.ny m x t q;omega
 have u1:iI E h w E h w1:=⟨E.le_refl,g1,L,ht,ho,pR,fun b _ _=>by rw[hw],fun m _ s W q _=>⟨m,s,W,q,id⟩,fun _ _ q=>.inl q⟩;have u:=iI.alloc (ob:=.cells c el) (o:=r.Fo) g1 hn gT (yZ ⟨c,el,_,heap_alloc_new,by simp[Env.put,kr],(fun i _ q=>by simp at q),qx kR J⟩ KC);refine⟨E.put n w1.heap.size 0 c.size,_,v',.inl hr,by rw[hs];exact hv,u1.trans u,fun m W=>Env.fG W,.inr rfl⟩
theorem Z3{E:Env}{h:H rs}{w:World}{n z:Nat}(g:Good E h w)(hn:E.ι n=none):E.le (E.put n w.heap.size 0 z):=
 Env.sq hn fun m x t q M=>by have:=g.ny m x t q;omega
section ops
variable{P:Program}{E:Env}{h:H rs}{n:Nat}{w:World}
theorem GA(P:Program)(t:TypeId)(z:V):Cy P t z= .cells z.cells\/(z.cells=[.ptr none,.dx none 0 0 0]/\Cy P t z= .BO t false (.dx none 0 0 0)):=by
 unfold Cy;split
 . rename_i hz;split
   . split
     . split
       . split
         . exact .inr ⟨hz,rfl⟩
         . exact .inl rfl
       . exact .inl rfl
     . exact .inl rfl
   . exact .inl rfl
 . exact .inl rfl
section
variable{t:TypeId}{m s:Nat}{Q:ag}{o k:Nat}{new:ag}
theorem QS{z:V}{h':H rs}{n':Nat}(g:Good E h w)(hn:E.ι n=none)(hz:zeroOf P t=some z)(e:newObj h n (Cy P t z)=some (h',n')):
  kG P E h n w (do pure (.value (<- Instr.alloc t true (.tuple #[])))) (.val (.ptr (some (n,0))) h' n'):=by
 obtain⟨z',hr,hv,_⟩:=mI (w:=w) E hz;rcases GA P t z with q|⟨J,q⟩
 case inr=>
  rw[q]at e;obtain⟨gT,rfl,rfl⟩:=lj e;have pT:=iE hv;rw[J]at pT;obtain⟨p',_,r1,⟨x',_,r2,qP,rfl⟩,hl⟩:=pT;simp only[dK]at qP;subst qP;simp only[dJ]at r1;subst r1;have hzc:z'.cells=#[.pointer none,x']:=by apply Array.ext';rw[hl]
  have hu:=iI.alloc (ob:=.cells z'.cells t) (o:=.BO t false (.dx none 0 0 0)) g hn gT ⟨rfl,x',_,by rw[heap_alloc_new,hzc];rfl,by simp[Env.put,kr,hzc],(fun i _ q=>by simp at q),jx (Z3 g hn) _ _ r2⟩;exact⟨_,_,.pointer (some ⟨w.heap.size,0,none⟩),.inl (by simp[Instr.alloc,hr,newVar,newRow]),⟨_,_,Env.ff,by simp⟩,hu,fun m W=>Env.fG W,.inr rfl⟩
 rw[q]at e;refine As (c:=z'.cells) (el:=t) (w1:=w) (v':=.pointer (some ⟨w.heap.size,0,none⟩)) g hn e rfl rfl rfl rfl ?_ (oZ (iE hv)) ⟨_,_,Env.ff,by simp⟩;simp[Instr.alloc,hr,newVar,newRow]
theorem Z4{v:V}{v':Value}{h':H rs}{n':Nat}(g:Good E h w)(hn:E.ι n=none)(hv:dJ E v v')(e:newObj h n (.cells v.cells)=some (h',n')):
  kG P E h n w (do pure (.value (<- Instr.box t v'))) (.val (.ptr (some (n,0))) h' n'):=by
 refine As (c:=v'.cells) (el:=t) (w1:=w) (v':=.pointer (some ⟨w.heap.size,0,none⟩)) g hn e rfl rfl rfl rfl ?_ (oZ (iE hv)) ⟨_,_,Env.ff,by simp⟩;simp[Instr.box,newVar,newRow]
theorem oC{c:Array Value}(r:mH E s Q c){k:Nat}(hk:0<k)(J:k<=Q.length):s+k<=c.size:=by
 obtain⟨v',X,_⟩:=r (k-1) (Q[k-1]'(by omega)) (az _);have:=(aS.1 X).1;omega
theorem oD{c:Array Value}(r:mH E s Q c){o k:Nat}(hk:o+k<=Q.length)(h0:s+o+k<=c.size):
  dK E ((Q.drop o).take k) ((c.toList.drop (s+o)).take k):=by
 refine jN (by simp;omega) fun i v q=>?_;rw[bQ]at q ⊢;split at q
 . rename_i hi;rw[aF hi];rw[bL]at q ⊢;obtain⟨v',X,h2⟩:=r (o+i) v q;exact⟨v',by rw[<- X];simp[cE],h2⟩
 . cases q
theorem Au{r:ag}(e:cut Q o k=some r):o+k<=Q.length/\r=(Q.drop o).take k:=by
 unfold cut at e;split at e
 . rename_i q;simp at e;exact⟨q,e.symm⟩
 . cases e
theorem jM{b s o:Nat}{Q:ag}{v:V}{c:Array Value}{el:TypeId}{fz:Nat×Nat}(hb:w.heap[b]? =some (.cells c el fz))(r:mH E s Q c)
  (e:lT P t Q o=some v):∃v',(loadVar t ⟨b,s+o,none⟩).run P w= .ok v' w/\dJ E v v':=by
 unfold lT at e;split at e
 . rename_i ha;cases hs:lu P t with
   |none=>simp[hs]at e
   |some k=>
    simp only[hs]at e;cases J:cut Q o k with
    |none=>simp[J]at e
    |some x=>
     simp only[J,bj,an]at e;subst e;obtain⟨X,rfl⟩:=Au J;by_cases hk:k=0
     . subst hk;refine⟨.agg #[],?_,[],by simp[dK],rfl⟩;simp[loadVar,sL ha,fc hs,loadCells,loadCellsFrom]
     . have h0:s+o+k<=c.size:=by have:=oC r (k:=o+k) L X;omega
       refine⟨_,?_,_,oD r X h0,rfl⟩;simp[loadVar,sL ha,fc hs,run_loadCells hb h0]
 . rename_i ha;obtain⟨v',X,h2⟩:=r o v e;refine⟨v',?_,h2⟩;simp[loadVar,sL ha,nH hb,X]
 . cases e
theorem QT{E:Env}{m b:Nat}{self:Bool}{x:V}{x':Value}(hi:E.ι m=some (b,0))(M:dJ E x x'):mH E 0 (uZ m self x) #[.pointer (if self then some ⟨b,0,none⟩else none),x']:=by
 intro i v q
 match i with
 |0=>
  simp only[uZ,bK,an]at q;subst q;refine⟨_,rfl,?_⟩;cases self with
  |true=>exact⟨b,0,hi,rfl⟩
  |false=>rfl
 |1=>
  simp only[uZ,cD,bK,an]at q;subst q;exact⟨_,rfl,M⟩
 |i+2=>simp[uZ]at q
theorem CK{t:TypeId}{a v:V}{a':Value}(g:Good E h w)(ha:dJ E a a')(e:loadAt P t h a=some v):
  ∃b s,a'= .pointer (some ⟨b,s,none⟩)/\∃v',(loadVar t ⟨b,s,none⟩).run P w= .ok v' w/\dJ E v v':=by
 unfold loadAt at e;split at e
 . rename_i m o;split at e
   . rename_i Q W;obtain⟨b,s,hi,c,el,fz,hb,_,_,J⟩:=g.rel m _ W;obtain⟨b',s',kS,rfl⟩:=ha;rw[hi]at kS;cases kS;obtain⟨v',X,h2⟩:=jM hb J e;exact⟨b,s+o,rfl,v',X,h2⟩
   . rename_i k ks W;obtain⟨b,s,hi,c,el,fz,hb,_,J⟩:=g.rel m _ W;obtain⟨b',s',kS,rfl⟩:=ha;rw[hi]at kS;cases kS;obtain⟨v',X,h2⟩:=jM hb (nh.2 J) e;exact⟨b,s+o,rfl,v',X,h2⟩
   . rename_i k ks W;obtain⟨b,s,hi,c,el,fz,hb,_,_,J⟩:=g.rel m _ W;obtain⟨b',s',kS,rfl⟩:=ha;rw[hi]at kS;cases kS;obtain⟨v',X,h2⟩:=jM hb J e;exact⟨b,s+o,rfl,v',X,h2⟩
   . rename_i Q W;obtain⟨b,s,hi,c,el,fz,vs,hb,_,_,hd,J⟩:=g.rel m _ W;obtain⟨b',s',kS,rfl⟩:=ha;rw[hi]at kS;cases kS;obtain⟨v',X,h2⟩:=jM hb ((oA (jr hd)).2 ⟨vs,hd,J⟩) e;exact⟨b,s+o,rfl,v',X,h2⟩
   . rename_i cS self x W;obtain⟨b,s,hi,hs,x',fz,hb,_,_,M⟩:=g.rel m _ W;obtain⟨b',s',kS,rfl⟩:=ha;rw[hi]at kS;cases kS;subst hs;obtain⟨v',X,h2⟩:=jM (E:=E) (s:=0) hb (QT hi M) e;exact⟨b,0+o,rfl,v',X,h2⟩
   . cases e
 . rename_i Q;obtain⟨b,o,c,vs,rfl,hf,hd,J⟩:=ha;obtain⟨⟨el,fz,hb⟩,_⟩:=g.gX b c hf;obtain⟨v',X,h2⟩:=jM hb ((oA (jr hd)).2 ⟨vs,hd,J⟩) e;exact⟨b,o,rfl,v',X,h2⟩
 . cases e
theorem Vn{a v:V}{a':Value}(g:Good E h w)(ha:dJ E a a')(e:loadAt P t h a=some v):
  kG P E h n w (do pure (.value (<- Instr.loadAt t a'))) (.val v h n):=by
 obtain⟨b,s,rfl,v',X,h2⟩:=CK g ha e;exact ee g (by simp[Instr.loadAt,Instr.sureAddr,X]) h2
theorem Av{r:ag}{o:Nat}(e:Cx Q o new=some r):o+new.length<=Q.length/\r=Q.take o++(new++Q.drop (o+new.length)):=by
 unfold Cx at e;split at e
 . rename_i q;simp at e;exact⟨q,e.symm⟩
 . cases e
theorem KG{α:Type}{Q new:List α}{o:Nat}(h:o+new.length<=Q.length)(j:Nat):
  (Q.take o++(new++Q.drop (o+new.length)))[j]? =if o<=j/\j<o+new.length then new[j-o]? else Q[j]?:=by
 rw[bU];have hl:(List.take o Q).length=o:=by simp;omega
 rw[hl];by_cases X:j<o
 . rw[aF X,aJ L,bQ,aF X]
 . rw[aJ X,bU];by_cases h2:j<o+new.length
   . rw[aF L,aF L]
   . rw[aJ L,aJ L,bL];congr 1;omega
theorem Is{Q new:ag}{kQ:List Value}{c:Array Value}(r:mH E s Q c)(hn:dK E new kQ)(fS:0<new.length)(h:o+new.length<=Q.length):
  s+o+kQ.length<=c.size/\mH E s (Q.take o++(new++Q.drop (o+new.length))) (putCells c (s+o) kQ):=by
 have hl:=eR hn;have hb:s+o+kQ.length<=c.size:=by have:=oC r (k:=o+new.length) L h;omega
 refine⟨hb,fun i v q=>?_⟩;rw[KG h]at q;rw[nI hb];split at q
 . rename_i hi;rw[aF L];obtain⟨v',X,h2⟩:=gJ hn _ v q;exact⟨v',by rw[<- X];congr 1;omega,h2⟩
 . rename_i hi;rw[aJ L];exact r i v q
theorem xT{b s:Nat}{ob:rs}{r r':Row}{new:ag}{kQ:List Value}(g:Good E h w)(gT:m<fW)(W:h.get m=some ob)(hr:ob.row=some r)(hi:E.ι m=some (b,s))
  (hn:dK E new kQ) (fS:0<new.length) (KC:new.all V.scalar=true) (hl:o+new.length<=r.iZ.length) (UZ:wk (r.iZ.take o++(new++r.iZ.drop (o+new.length))) r'.iZ) (GB:r.sc->r'.sc):
  ∃w',(storeCells ⟨b,s+o,none⟩ kQ).run P w= .ok () w'/\iI E h w E (h.set m (some r'.Fo)) w':=by
 obtain⟨b',s',kS,q⟩:=g.rel m _ W;obtain⟨⟨c,el,fz,hb,hz,hf,J⟩,Z5⟩:=Ip hr q;rw[hi]at kS;cases kS;obtain⟨Aw,Ev⟩:=Is J hn fS hl;have KH:∀v∈kQ,v.oneCell'=true:=by
  intro v hv;obtain⟨i,kS⟩:=List.getElem?_of_mem hv;have fH:i<new.length:=by rw[<- eR hn];exact(aH.1 kS).1
  obtain⟨v',X,h2⟩:=gJ hn i new[i] (az fH);rw[kS]at X;cases X;exact vn h2 (by rw[bt]at KC;exact KC _ (b9 fH))
 obtain⟨w',e1,e2,e3,e4,e5,e6,e7⟩:=nJ (P:=P) (o:=s+o) kQ 0 w c hb hf KH L;refine⟨w',e1,iI.write g gT ⟨_,W,QM hr⟩ hi e3 e4 e5 e6 e7 ?_⟩;exact yZ ⟨_,el,fz,e2,by rw[jU L];exact hz,by rw[jU L];exact hf,yY UZ Ev⟩ (GB Z5)
theorem OC{b s:Nat}{Q new:ag}{kQ:List Value}(g:Good E h w)(gT:m<fW)(W:h.get m=some (.cells Q))(hi:E.ι m=some (b,s))
  (hn:dK E new kQ) (fS:0<new.length) (KC:new.all V.scalar=true) (hl:o+new.length<=Q.length):
  ∃w',(storeCells ⟨b,s+o,none⟩ kQ).run P w= .ok () w'/\iI E h w E (h.set m (some (.cells (Q.take o++(new++Q.drop (o+new.length)))))) w':=
 xT (r':=.vs (Q.take o++(new++Q.drop (o+new.length)))) g gT W rfl hi hn fS KC hl (jd _) (fun _=>trivial)
theorem QU{a v:V}{a' v':Value}{h':H rs}(g:Good E h w)(ha:dJ E a a')(hv:dJ E v v')(e:storeAt P t h v a=some h'):
  kG P E h n w (do Instr.storeAt t a' v';pure .skip) (.val (.ew []) h' n):=by
 unfold storeAt at e;split at e
 . rename_i m o;split at e
   . rename_i Q W;split at e
     . rename_i s hs;split at e
       . rename_i hq;obtain⟨X,h2,h3,h4⟩:=hq;split at e
         . rename_i cs' hsp;obtain rfl:=eE e;obtain⟨kR,rfl⟩:=Av hsp;obtain⟨b,s',hi,rfl⟩:=ha;have oF:=iE hv;obtain⟨w',hr,hu⟩:=OC (P:=P) g h3 W hi oF L h4 kR;refine⟨E,w',undef,.inr ⟨?_,rfl⟩,⟨[],rfl,rfl⟩,hu,fun _ _=>rfl,.inl ⟨rfl,rfl⟩⟩;have mA:v'.cells.size=s:=by have:=eR oF;simp at this;omega
           simp[Instr.storeAt,Instr.sureAddr,storeVar,fc hs,mA,hr]
         . cases e
       . cases e
     . cases e
   . rename_i k ks W;split at e
     . rename_i s hs;split at e
       . rename_i hq;obtain⟨X,h2,h3⟩:=hq;split at e
         . rename_i new tO;split at e
           . rename_i kR;obtain rfl:=eE e;have Z6:=qy tO;have KI:new.length=s:=by have:=aL List.length Z6;simp at this;omega
             obtain⟨b,s',hi,rfl⟩:=ha;have oF:=iE hv;obtain⟨w',hr,hu⟩:=xT (P:=P) (o:=o) (r':=.is k (fZ ks o new)) g h3 W rfl hi oF L (by rw[Z6];simp[V.scalar]) (by rw[Z6];simp[Row.iZ];omega)
              (by rw[Z6];simp[Row.iZ,fZ,aZ,cN,List.map_drop];exact jd _) (fun _=>trivial)
             refine⟨E,w',undef,.inr ⟨?_,rfl⟩,⟨[],rfl,rfl⟩,hu,fun _ _=>rfl,.inl ⟨rfl,rfl⟩⟩;have mA:v'.cells.size=s:=by have:=eR oF;simp at this;omega
             simp[Instr.storeAt,Instr.sureAddr,storeVar,fc hs,mA,hr]
           . cases e
         . cases e
       . cases e
     . cases e
   . rename_i Q W;split at e
     . rename_i s hs;split at e
       . rename_i hq;obtain⟨X,h2,h3⟩:=hq;split at e
         . rename_i new tO;split at e
           . rename_i kR;obtain rfl:=eE e;have KI:=vo tO;obtain⟨b,s',hi,rfl⟩:=ha;have oF:=iE hv;have hcn:dK E (lf.lQ new) v'.cells.toList:=yX tO E _ oF;have Vo:(lf.lQ new).length=s:=by rw[lf.gB,bf];omega
             obtain⟨w',hr,hu⟩:=xT (P:=P) (o:=o) (r:=.ds Q) (r':=.ds (xn Q o new)) g h3 W rfl hi hcn L (Bi (oB tO)) (by simp only[Row.iZ,lf.gB,bf];omega)
              (by simp[Row.iZ,xn,lf.gB,aZ,cN,List.map_drop];exact jd _)
              (fun hs x M=>by
               simp only[xn,aW]at M;rcases M with M|M|M
               . exact hs x (List.mem_of_mem_take M)
               . exact oB tO x M
               . exact hs x (List.mem_of_mem_drop M))
             refine⟨E,w',undef,.inr ⟨?_,rfl⟩,⟨[],rfl,rfl⟩,hu,fun _ _=>rfl,.inl ⟨rfl,rfl⟩⟩;have mA:v'.cells.size=s:=by have:=eR oF;simp at this;omega
             simp[Instr.storeAt,Instr.sureAddr,storeVar,fc hs,mA,hr]
           . cases e
         . cases e
       . cases e
     . cases e
   . rename_i cS self x0 W;split at e
     . rename_i x hs hcv;split at e
       . rename_i hq;obtain⟨rfl,h3,h4⟩:=hq;obtain rfl:=eE e;obtain⟨b,s',hi,rfl⟩:=ha;obtain⟨b',s,kS,h0,x0',fz,hb,pP,hf,hx0⟩:=g.rel m _ W;rw[hi]at kS;cases kS;subst h0;have oF:=iE hv;rw[hcv]at oF;obtain⟨x',_,r1,qP,hl⟩:=oF;simp only[dK]at qP;subst qP;have Z6:v'.cells=#[x']:=by apply Array.ext';rw[hl]
         obtain⟨w',e1,e2,e3,e4,e5,e6,e7⟩:=nJ (P:=P) (o:=0+1) [x'] 0 w _ hb hf (fun y hy=>by rw[au]at hy;subst hy;exact vn r1 h4) (by simp);refine⟨E,w',undef,.inr ⟨?_,rfl⟩,⟨[],rfl,rfl⟩,iI.write g h3 ⟨_,W,rfl⟩ hi e3 e4 e5 e6 e7 ⟨rfl,x',fz,?_,pP,hf,r1⟩,fun _ _=>rfl,.inl ⟨rfl,rfl⟩⟩
         . have mA:v'.cells.size=1:=by rw[Z6];rfl
           have e1':(storeCells ⟨b,1,none⟩ v'.cells.toList).run P w= .ok () w':=by rw[Z6];simpa using e1
           simp[Instr.storeAt,Instr.sureAddr,storeVar,fc hs,mA,e1']
         . rw[e2];rfl
       . cases e
     . cases e
   . cases e
 . cases e
end
end ops
def Bk(E:Env):List (Nat×V)->List (Nat×Value)->Prop
 | [],l=>l=[]
 |x::xs,l=>∃y ys,y.1=x.1/\dJ E x.2 y.2/\Bk E xs ys/\l=y::ys
theorem Fs(off:Nat):∀(vs:List Value) (k:Nat) (c:Array Value),off+k+vs.length<=c.size->
  (vs.zipIdx k).foldl (fun Q (x:Value×Nat)=>Q.setIfInBounds (off+x.2) x.1) c=putCells c (off+k) vs
 | [],k,c,_=>by simp[putCells]
 |v::vs,k,c,h=>by
  simp only[aT]at h;simp only[List.zipIdx_cons,List.foldl_cons];rw[Fs off vs (k+1) _ (by simp;omega)];have:off+(k+1)=off+k+1:=by omega
  rw[this,su L]
theorem y4{E:Env}{yP:Nat->Option (Nat×Nat)}:∀(parts:List (Nat×V)) (oG:List (Nat×Value)) (cells:ag) (qI:Array Value) (r:ag),
  sI yP cells parts=some r->dK E cells qI.toList->Bk E parts oG->∃r',Instr.fill yP qI oG=some r'/\dK E r r'.toList
 | [],_,cells,qI,r,e,J,hp=>by
   simp only[Bk]at hp;subst hp;simp only[sI,an]at e;subst e;exact⟨qI,rfl,J⟩
 |(i,v)::rest,_,cells,qI,r,e,J,hp=>by
  obtain⟨⟨i',v'⟩,ys,q1,hv,hr,rfl⟩:=hp;simp only at q1 hv;subst q1;simp only[sI]at e;cases ni:yP i' with
  |none=>simp[ni]at e
  |some p=>
   obtain⟨off,size⟩:=p;simp only[ni]at e;split at e
   . rename_i mA;cases hs:Cx cells off v.cells with
     |none=>simp[hs]at e
     |some Z7=>
      simp only[hs]at e;obtain⟨kR,rfl⟩:=Av hs;have hcv:=iE hv;have GC:=eR hcv;have hlc:=eR J;simp only[Array.length_toList]at GC hlc;have sw:v'.cells.zipIdx.foldl (fun Q (x:Value×Nat)=>Q.setIfInBounds (off+x.2) x.1) qI=putCells qI off v'.cells.toList:=by
       rw[<- Array.foldl_toList,Array.toList_zipIdx];exact Fs off v'.cells.toList 0 qI (by simp;omega)
      have akD:dK E (cells.take off++(v.cells++cells.drop (off+v.cells.length))) (putCells qI off v'.cells.toList).toList:=by
       simp only[putCells];refine iM (CH J) (iM hcv ?_);have:off+v'.cells.toList.length=off+v.cells.length:=by simp;omega
       rw[this];exact CI J
      obtain⟨r',X,h2⟩:=y4 rest ys _ _ r e akD hr;refine⟨r',?_,h2⟩;simp only[Instr.fill,ni];rw[aJ (by simp;omega)];rw[<- X,<- sw]
   . cases e
theorem vr{P:Program}:∀(fs:List Field) (u6:List (Nat×Nat)),tG P fs=some u6->
  fs.mapM (fun f=>(P.info? f.type).map fun i=>(f.offset,i.size))=some u6
 | [],u6,h=>by simp[tG]at h;subst h;rfl
 |f::fs,u6,h=>by
  simp only[tG,lu]at h;cases hi:P.info? f.type with
  |none=>simp[hi]at h
  |some i=>
   simp only[hi,bj]at h;cases hr:tG P fs with
   |none=>simp[hr]at h
   |some r=>
    simp only[hr,an]at h;subst h;simp[List.mapM_cons,hi,vr fs r hr]
theorem Bl{z:ag}(hz:0<z.length):∀(n i:Nat),(ig z n)[i]? =if i<n*z.length then z[i%z.length]? else none
 |0,i=>by simp[ig]
 |n+1,i=>by
  simp only[ig,bU];by_cases h:i<z.length
  . rw[aF h,aF (by rw[cQ];omega),cI h]
  . rw[aJ h,Bl hz n,cQ,Nat.one_mul];have:(i-z.length)%z.length=i%z.length:=by rw[Nat.mod_eq_sub_mod (a:=i) L]
    rw[this];by_cases h2:i-z.length<n*z.length
    . rw[aF h2,aF L]
    . rw[aJ h2,aJ L]
theorem qQ{z:ag}:∀n,(ig z n).length=n*z.length
 |0=>by simp[ig]
 |n+1=>by simp[ig,qQ n,cQ];omega
theorem CL{E:Env}{z:ag}{z':Array Value}(hz:dK E z z'.toList)(h0:0<z.length)(n:Nat):
  dK E (ig z n) ((Array.range (n*z.length)).map (z'[·%z'.size]!)).toList:=by
 have hl:z'.size=z.length:=by have:=eR hz;simpa using this
 refine jN (by simp[qQ]) fun i v q=>?_;rw[Bl h0]at q;split at q
 . rename_i hi;obtain⟨v',X,h2⟩:=gJ hz _ v q;refine⟨v',?_,h2⟩;have fH:i%z'.size<z'.size:=Nat.mod_lt _ L;rw[bN]at X;have mO:z'[i%z'.size]? =some v':=by rw[hl];exact X
   rw[bN,Array.getElem?_map];rw[Array.getElem?_range];rw[aF hi];simp only[bj];rw[getElem!_pos z' _ fH];rw[bq fH]at mO;exact mO
 . cases q
theorem xU{s:Sem Value}{v:V}(e:tH s=some v):∃v',s= .pure v'/\∀E,dJ E v v':=by
 cases s with
 |pure v'=>exact⟨v',rfl,fun E=>tP e⟩
 |_=>simp[tH]at e
theorem gr:∀(a b:B),eI a b=(a==b)
 | [],[]=>rfl
 | [],_::_=>rfl
 |_::_,[]=>rfl
 |a::x,b::y=>by
  simp only[eI];by_cases h:a=b
  . subst h;have:Nat.beq a.toNat a.toNat=true:=cP _;rw[this];simp[gr x y]
  . have:Nat.beq a.toNat b.toNat=false:=by
     cases hh:Nat.beq a.toNat b.toNat with
     |false=>rfl
     |true=>exact absurd (UInt8.toNat_inj.1 (aG hh)) h
    rw[this];have hab:(a==b)=false:=by simpa using h
    simp[hab]
theorem sM(a b:B):((⟨a.toArray⟩:ByteArray)==⟨b.toArray⟩)=eI a b:=by
 rw[gr,beq_toListBytes,ByteArray.toList_eq,ByteArray.toList_eq]
theorem tR(a b:B):((⟨a.toArray⟩:ByteArray).toList==(⟨b.toArray⟩:ByteArray).toList)=eI a b:=by
 rw[<- sM,beq_toListBytes]
section ops
variable{P:Program}{E:Env}{h:H rs}{n:Nat}{w:World}
theorem OD{t:TypeId}{parts:List (Nat×V)}{oG:Array (Nat×Value)}{v:V}(hp:Bk E parts oG.toList)(e:Kt P t parts=some v):
  ∃v',(Instr.build t oG).run P w= .ok v' w/\dJ E v v':=by
 unfold Kt at e;split at e
 . rename_i z ow hz hu;obtain⟨z',_,hv,i,hi,hiz⟩:=mI (w:=w) E hz;cases hs:tG P ow.toList with
   |none=>simp[hs]at e
   |some u6=>
    simp only[hs]at e;cases hf:sI (fun i=>u6[i]?) z.cells parts with
    |none=>simp[hf]at e
    |some Q=>
     simp only[hf,bj,an]at e;subst e;obtain⟨r',X,h2⟩:=y4 parts oG.toList z.cells z'.cells Q hf (iE hv) hp;refine⟨.agg r',run_build w t oG r' ?_,r'.toList,h2,by simp⟩;simp only[Program.built,hi,hu,hiz,vr _ _ hs];simpa using X
 . rename_i z m Vm hz hu;obtain⟨z',_,hv,i,hi,hiz⟩:=mI (w:=w) E hz;cases hs:lu P Vm with
   |none=>simp[hs]at e
   |some s=>
    simp only[hs]at e;cases hf:sI (fun i=>some (i*s,s)) z.cells parts with
    |none=>simp[hf]at e
    |some Q=>
     simp only[hf,bj,an]at e;subst e;obtain⟨r',X,h2⟩:=y4 parts oG.toList z.cells z'.cells Q hf (iE hv) hp;refine⟨.agg r',run_build w t oG r' ?_,r'.toList,h2,by simp⟩;unfold lu at hs;cases hie:P.info? Vm with
     |none=>simp[hie]at hs
     |some ie=>
      simp only[hie,bj,an]at hs;simp only[Program.built,hi,hu,hiz,hie,hs];exact X
 . cases e
theorem EI{t:TypeId}{T:Nat}{parts:List (Nat×V)}{oG:Array (Nat×Value)}{r:nx}(g:Good E h w)(hn:E.ι n=none)(hp:Bk E parts oG.toList)
  (e:o8 P t T parts h n=some r):kG P E h n w (do pure (.value (<- Instr.buildSlice t T oG))) r:=by
 unfold o8 at e;cases he:u7 P t with
 |none=>simp[he]at e
 |some el=>
  simp only[he]at e;cases hs:lu P el with
  |none=>simp[hs]at e
  |some s=>
   cases hz:zeroOf P el with
   |none=>simp[hs,hz]at e
   |some z=>
    simp only[hs,hz]at e;split at e
    . rename_i hq;obtain⟨GD,oc,H9⟩:=hq;cases hf:sI (fun i=>some (i*s,s)) (ig z.cells T) parts with
      |none=>simp[hf]at e
      |some Q=>
       simp only[hf]at e;cases ho:newObj h n (.cells Q)with
       |none=>simp[ho]at e
       |some x=>
        obtain⟨h',n'⟩:=x;simp only[ho,an]at e;subst e;obtain⟨z',hzr,hzv,_⟩:=mI (w:=w) E hz;have hzc:=iE hzv;have QV:=CL hzc L T;rw[H9]at QV;obtain⟨r',X,h2⟩:=y4 parts oG.toList _ _ Q hf QV hp;have hu:P.underlying t=some (.slice el):=by
         unfold u7 at he;split at he
         . rename_i q;simp at he;subst he;exact q
         . cases he
        have ja:r'.size=T*s:=by
         have a:=eR h2;have b:Q.length=(ig z.cells T).length:=y5 _ _ _ _ hf;rw[qQ,H9]at b;simpa[b]using a
        refine As (c:=r') (el:=el) (w1:=w) (v':=.slice (some ⟨w.heap.size,0,none⟩) T T) g hn ho rfl rfl rfl rfl ?_ (oZ h2) ?_
        . simp only[Instr.buildSlice,Sem.run_bind,dz hu,Result.andThen_ok,fc hs];rw[aJ (show ¬(T*s>2^24)by omega)];by_cases q0:T*s=0
          . have qn:(Array.range (T*s)).map (fun x=>(#[]:Array Value)[x%(#[]:Array Value).size]!)=(Array.range (T*s)).map (z'.cells[·%z'.cells.size]!):=by rw[q0];simp
            rw[aF q0];simp only[Sem.run_bind,Sem.run_pure,Result.andThen_ok];rw[qn,X];simp[newRow]
          . rw[aJ q0];simp only[Sem.run_bind,Sem.run_pure,Result.andThen_ok,hzr];rw[X];simp[newRow]
        . refine⟨w.heap.size,0,0,T,Env.ff,fun _=>by simp,aC _,aC _,?_,rfl⟩;simp[Env.put,ja]
    . cases e
where
 y5 (yP:Nat->Option (Nat×Nat)):∀(parts:List (Nat×V)) (cells r:ag),sI yP cells parts=some r->r.length=cells.length
  | [],cells,r,e=>by simp only[sI,an]at e;rw[e]
  |(i,v)::rest,cells,r,e=>by
   simp only[sI]at e;split at e
   . cases e
   . split at e
     . split at e
       . rename_i Z7 hs;obtain⟨kR,rfl⟩:=Av hs;rw[y5 yP rest _ r e];simp;omega
       . cases e
     . cases e
end ops
section
variable{P:Program}{E:Env}{h:H rs}{n:Nat}{w:World}
theorem y6{t:TypeId}{Q:ag}{cs':Array Value}{off:Nat}{v:V}(r:dK E Q cs'.toList)(e:xo P t Q off=some v):
  ∃v',(part t cs' off).run P w= .ok v' w/\dJ E v v':=by
 unfold xo lT at e;have hl:=eR r;simp only[Array.length_toList]at hl;split at e
 . rename_i ha;cases hs:lu P t with
   |none=>simp[hs]at e
   |some k=>
    simp only[hs]at e;cases J:cut Q off k with
    |none=>simp[J]at e
    |some x=>
     simp only[J,bj,an]at e;subst e;obtain⟨X,rfl⟩:=Au J;refine⟨.agg (cs'.extract off (off+k)),by simp[part,sL ha,fc hs],(cs'.toList.drop off).take k,CH (CI r),?_⟩;congr 1;apply Array.ext';simp[List.extract_eq_take_drop]
 . rename_i ha;obtain⟨v',X,h2⟩:=gJ r off v e;refine⟨v',?_,h2⟩;rw[bN]at X;simp[part,sL ha,X]
 . cases e
end
def V.tag:V->Nat
 | .bool _=>0 | .int _ _=>1 | .str _=>2 | .ptr _=>3 | .dx _ _ _ _=>4 | .map _=>5 | .fn _ _ _=>6 | .kT=>7 | .iface _ _=>8 | .nilIface=>9 | .agg _=>10 | .ew _=>11 | .dV _ _ _=>4 | .eK _=>3
def y7:Value->Nat
 | .bool _=>0 | .int _ _=>1 | .string _=>2 | .pointer _=>3 | .slice _ _ _=>4 | .map _=>5 | .func _ _ _=>6 | .nilFunc=>7 | .iface _ _=>8 | .nilIface=>9 | .agg _=>10 | .tuple _=>11
 | .float _ _=>12 | .complex _ _ _=>13 | .chan _=>14
theorem sN{E:Env}:∀{x:V} {v:Value},dJ E x v->x.tag=y7 v:=by
 intro x v r;cases x with
 |agg Q=>obtain⟨cs',_,rfl⟩:=r;rfl
 |ew Q=>obtain⟨cs',_,rfl⟩:=r;rfl
 |bool b=>simp only[dJ]at r;subst r;rfl
 |int k n=>simp only[dJ]at r;subst r;rfl
 |str s=>simp only[dJ]at r;subst r;rfl
 |ptr a=>cases a<;>simp only[dJ]at r;. subst r;rfl
         . obtain⟨b,s,_,rfl⟩:=r;rfl
 |dx a l c e=>cases a<;>simp only[dJ]at r;. obtain⟨_,_,rfl⟩:=r;rfl
              . obtain⟨b,s,_,_,_,_,_,_,_,rfl⟩:=r;rfl
 |map a=>cases a<;>simp only[dJ]at r;. subst r;rfl
         . obtain⟨b,_,rfl⟩:=r;rfl
 |fn f a c=>obtain⟨_,_,_,_,_,_,rfl⟩:=r;rfl
 |kT=>simp only[dJ]at r;subst r;rfl
 |iface t x=>obtain⟨_,_,rfl⟩:=r;rfl
 |nilIface=>simp only[dJ]at r;subst r;rfl
 |dV f n Q=>obtain⟨⟨_,_,_,rfl,_⟩,_⟩:=r;rfl
 |eK Q=>obtain⟨_,_,_,_,rfl,_⟩:=r;rfl
theorem y8{E:Env}{x:V}{k:IntKind}{m:Int}(r:dJ E x (.int k m)):x= .int k m:=by
 have t:=sN r;cases x<;>simp[V.tag,y7]at t;simp only[dJ]at r;cases r;rfl
theorem y9{E:Env}{x:V}{s:ByteArray}(r:dJ E x (.string s)):∃l,x= .str l:=by
 have t:=sN r;cases x<;>simp[V.tag,y7]at t;exact⟨_,rfl⟩
theorem EJ{E:Env}{x:V}{k:FloatKind}{m:Nat}(r:dJ E x (.float k m)):False:=by
 have t:=sN r;cases x<;>simp[V.tag,y7]at t
theorem BQ{E:Env}{x:V}{k:FloatKind}{m m':Nat}(r:dJ E x (.complex k m m')):False:=by
 have t:=sN r;cases x<;>simp[V.tag,y7]at t
theorem QX{E:Env}{x y:V}{x' y':Value}{t:TypeId}(rx:dJ E x x')(ry:dJ E y y')(hi:∀k m k' m',¬(x= .int k m/\y= .int k' m'))(hs:∀s u,¬(x= .str s/\y= .str u)):
  binOp .eql t x' y'=(do pure (.bool (<- Op.equal t x' y')))/\binOp .neq t x' y'=(do pure (.bool (!(<- Op.equal t x' y')))):=by
 cases x'<;>cases y'<;>first
  |exact⟨rfl,rfl⟩
  |exact absurd ⟨y8 rx,y8 ry⟩ (hi _ _ _ _)
  |exact(EJ rx).elim
  |exact(BQ rx).elim
  |(obtain⟨l,e1⟩:=y9 rx;obtain⟨l',e2⟩:=y9 ry;exact absurd ⟨e1,e2⟩ (hs _ _))
section
variable{P:Program}{E:Env}{h:H rs}{n:Nat}{w:World}
theorem tS{d:Nat}{eq:TypeId->V->V->Option Bool}(ih:∀t x y x' y' r,eq t x y=some r->dJ E x x'->dJ E y y'->(Op.equalIn d t x' y').run P w= .ok r w)
  {xs ys:ag} {CG Kz:Array Value} (rx:dK E xs CG.toList) (ry:dK E ys Kz.toList):∀(fs:List Field) (r:Bool),eqFields P eq fs xs ys=some r->(Op.eqFields d CG Kz fs).run P w= .ok r w
 | [],r,e=>by simp only[eqFields,an]at e;subst e;rfl
 |f::fs,r,e=>by
  simp only[eqFields]at e;simp only[Op.eqFields];split at e
  . rename_i fS;rw[aF fS];cases X:xo P f.type xs f.offset with
    |none=>simp[X]at e
    |some a=>cases h2:xo P f.type ys f.offset with
     |none=>simp[X,h2]at e
     |some b=>
      simp only[X,h2]at e;obtain⟨a',p1,p2⟩:=y6 (P:=P) (w:=w) rx X;obtain⟨b',q1,q2⟩:=y6 (P:=P) (w:=w) ry h2;cases h3:eq f.type a b with
      |none=>simp[h3]at e
      |some c=>
       have hr:=ih _ _ _ _ _ _ h3 p2 q2;simp only[Sem.run_bind,p1,q1,Result.andThen_ok,hr];cases c with
       |false=>simp only[h3,an]at e;subst e;simp
       |true=>simp only[h3]at e;simp only[Bool.not_true,aP,cJ];exact tS ih rx ry fs r e
  . rename_i fS;rw[aJ fS];exact tS ih rx ry fs r e
theorem GF:∀(d:Nat) (t:TypeId) (x y:V) (x' y':Value) (r:Bool),MV P d t x y=some r->dJ E x x'->dJ E y y'->(Op.equalIn d t x' y').run P w= .ok r w:=by
 intro d
 induction d with
 |zero=>intro t x y x' y' r e;simp[MV]at e
 |succ d ih=>
  intro t x y x' y' r e rx ry;simp only[MV]at e;split at e
  . rename_i hu;split at e
    . simp only[dJ]at rx ry;subst rx;subst ry;obtain rfl:=eE e;simp[Op.equalIn,dz hu]
    . cases e
  . rename_i hu;split at e
    . simp only[dJ]at rx ry;subst rx;subst ry;split at e
      . rename_i hk;subst hk;obtain rfl:=eE e;simp[Op.equalIn,dz hu]
      . cases e
    . cases e
  . rename_i hu;split at e
    . simp only[dJ]at rx ry;subst rx;subst ry;obtain rfl:=eE e;simp only[Op.equalIn,Sem.run_bind,dz hu,Result.andThen_ok,Sem.run_pure];rw[sM]
    . cases e
  . rename_i hu;split at e
    . rename_i b;simp only[dJ]at rx;subst rx;obtain rfl:=eE e;cases b with
      |none=>simp only[dJ]at ry;subst ry;simp[Op.equalIn,dz hu]
      |some p=>obtain⟨_,_,_,rfl⟩:=ry;simp[Op.equalIn,dz hu]
    . rename_i p;obtain rfl:=eE e;obtain⟨_,_,_,rfl⟩:=rx;simp only[dJ]at ry;subst ry;simp[Op.equalIn,dz hu]
    . split at e
      . rename_i Vp;obtain⟨⟨rfl,rfl⟩,mA⟩:=Vp;obtain rfl:=eE e;obtain⟨b,s,X,rfl⟩:=rx;obtain⟨b',s',h2,rfl⟩:=ry;rw[X]at h2;cases h2;obtain⟨z,hz⟩:=cm.1 mA;simp only[Op.equalIn,Sem.run_bind,dz hu,Result.andThen_ok,fc hz];by_cases hz0:z=0
        . simp[hz0]
        . simp[hz0,sameAddr]
      . cases e
    . obtain rfl:=eE e;simp only[dJ]at rx;subst rx;obtain⟨_,_,_,_,rfl,_⟩:=ry;simp[Op.equalIn,dz hu]
    . obtain rfl:=eE e;obtain⟨_,_,_,_,rfl,_⟩:=rx;simp only[dJ]at ry;subst ry;simp[Op.equalIn,dz hu]
    . cases e
  . rename_i hu;split at e
    . simp only[dJ]at rx ry;subst rx;subst ry;obtain rfl:=eE e;simp[Op.equalIn,dz hu]
    . simp only[dJ]at rx;subst rx;obtain⟨_,_,rfl⟩:=ry;obtain rfl:=eE e;simp[Op.equalIn,dz hu]
    . simp only[dJ]at ry;subst ry;obtain⟨_,_,rfl⟩:=rx;obtain rfl:=eE e;simp[Op.equalIn,dz hu]
    . cases e
  . rename_i ow hu;split at e
    . split at e
      . cases e
      . rename_i wF;obtain⟨CG,rxs,rfl⟩:=rx;obtain⟨Kz,rys,rfl⟩:=ry;have hf:P.fieldsOf t=ow:=by simp[Program.fieldsOf,hu]
        rw[run_equalIn_struct w d t _ _ (by rw[hf];exact hu) (by simpa using wF),hf];exact tS (fun u a b a' b' r e ra rb=>ih u a b a' b' r e ra rb) (by simpa using rxs) (by simpa using rys) _ _ e
    . cases e
  . rename_i hu;split at e
    . rename_i b _ _ _;obtain⟨_,_,rfl⟩:=rx;obtain rfl:=eE e;cases b with
      |none=>obtain⟨_,_,rfl⟩:=ry;simp[Op.equalIn,dz hu]
      |some p=>obtain⟨_,_,_,_,_,_,_,_,_,rfl⟩:=ry;simp[Op.equalIn,dz hu]
    . obtain rfl:=eE e;obtain⟨_,_,_,_,_,_,_,_,_,rfl⟩:=rx;obtain⟨_,_,rfl⟩:=ry;simp[Op.equalIn,dz hu]
    . split at e
      . obtain rfl:=eE e;obtain⟨⟨a,A,vs,rfl,_,_,_,X⟩,_⟩:=rx;obtain⟨_,_,_,rfl,_⟩:=X (Nat.succ_pos _);obtain⟨_,_,rfl⟩:=ry;simp[Op.equalIn,dz hu]
      . cases e
    . cases e
  . rename_i hu;split at e
    . rename_i b;simp only[dJ]at rx;subst rx;obtain rfl:=eE e;cases b with
      |none=>simp only[dJ]at ry;subst ry;simp[Op.equalIn,dz hu]
      |some p=>obtain⟨_,_,rfl⟩:=ry;simp[Op.equalIn,dz hu]
    . obtain rfl:=eE e;obtain⟨_,_,rfl⟩:=rx;simp only[dJ]at ry;subst ry;simp[Op.equalIn,dz hu]
    . cases e
  . cases e
end
section
variable{P:Program}{E:Env}{h:H rs}{n:Nat}{w:World}
theorem CM:∀s u:B,yQ s u=Op.bytesLess s u
 |_,[]=>by cases ‹B›<;>rfl
 | [],_::_=>rfl
 |a::x,b::y=>by
  simp only[yQ,Op.bytesLess];have X:(a<b)↔a.toNat<b.toNat:=UInt8.lt_iff_toNat_lt;have h2:(a=b)↔a.toNat=b.toNat:=UInt8.toNat_inj.symm;rcases Nat.lt_trichotomy a.toNat b.toNat with h|h|h
  . have:Nat.blt a.toNat b.toNat=true:=Nat.ble_eq_true_of_le h;rw[this];simp[X.2 h]
  . have e1:Nat.blt a.toNat b.toNat=false:=by cases q:Nat.blt a.toNat b.toNat with|false=>rfl|true=>exact absurd (ax q) L
    have e2:Nat.beq a.toNat b.toNat=true:=by rw[h];exact cP _
    have e3:¬a<b:=fun q=>by have:=X.1 q;omega
    have e4:a=b:=h2.2 h;rw[e1,e2];simp only[CM x y,e4];simp
  . have e1:Nat.blt a.toNat b.toNat=false:=by cases q:Nat.blt a.toNat b.toNat with|false=>rfl|true=>exact absurd (ax q) L
    have e2:Nat.beq a.toNat b.toNat=false:=by cases q:Nat.beq a.toNat b.toNat with|false=>rfl|true=>exact absurd (aG q) L
    have e3:¬a<b:=fun q=>by have:=X.1 q;omega
    have e4:¬a=b:=fun q=>by have:=h2.1 q;omega
    rw[e1,e2];simp[e3,e4]
theorem wG(s:B):(⟨s.toArray⟩:ByteArray).toList=s:=by rw[ByteArray.toList_eq]
theorem QY{op:BinOp}{t:TypeId}{x y:Operand}{a b v:V}{a' b':Value}(g:Good E h w)(ra:dJ E a a')(rb:dJ E b b')(e:Cz P op t x y a b=some v):
  kG P E h n w (do pure (.value (<- (do eqGuard op t x y a' b';binOp op t a' b')))) (.val v h n):=by
 unfold Cz at e;split at e
 . rename_i k m k' m';simp only[dJ]at ra rb;subst ra;subst rb;obtain⟨v',q1,q2⟩:=xU e;refine ee g (v':=v') ?_ (q2 E);have hg:(eqGuard op t x y (.int k m) (.int k' m')).run P w= .ok () w:=by cases op<;>rfl
   simp only[Sem.run_bind,hg,Result.andThen_ok,q1];rfl
 . rename_i s u;simp only[dJ]at ra rb;subst ra;subst rb;have hg:(eqGuard op t x y (.string ⟨s.toArray⟩) (.string ⟨u.toArray⟩)).run P w= .ok () w:=by cases op<;>rfl
   cases op<;>simp only[QC]at e<;>first
    |(cases e;done)
    |skip
   . split at e
     . rename_i hl;obtain rfl:=eE e;refine ee g (v':=.string (⟨s.toArray⟩++⟨u.toArray⟩)) ?_ ?_
       . have mA:¬(((ByteArray.size ⟨s.toArray⟩+ByteArray.size ⟨u.toArray⟩:Nat):Int)>IntKind.i64.max):=by
          have:(IntKind.i64.max:Int)=9223372036854775807:=by decide
          rw[this];show ¬(((s.toArray.size+u.toArray.size:Nat):Int)>9223372036854775807);unfold xN at hl;simp only[List.size_toArray];omega
         simp only[Sem.run_bind,hg,Result.andThen_ok,binOp,Op.stringOp];rw[aJ mA];rfl
       . show Value.string _= .string ⟨(s++u).toArray⟩;congr 1
     . cases e
   . obtain rfl:=eE e;refine ee g (v':=.bool (eI s u)) ?_ rfl;simp only[Sem.run_bind,hg,Result.andThen_ok,binOp,Op.stringOp,tR];rfl
   . obtain rfl:=eE e;refine ee g (v':=.bool (!eI s u)) ?_ rfl;simp only[Sem.run_bind,hg,Result.andThen_ok,binOp,Op.stringOp,tR];rfl
   . obtain rfl:=eE e;refine ee g (v':=.bool (yQ s u)) ?_ rfl;simp only[Sem.run_bind,hg,Result.andThen_ok,binOp,Op.stringOp,CM,wG];rfl
   . obtain rfl:=eE e;refine ee g (v':=.bool (yQ s u||eI s u)) ?_ rfl;simp only[Sem.run_bind,hg,Result.andThen_ok,binOp,Op.stringOp,tR,gr,CM,wG];rfl
   . obtain rfl:=eE e;refine ee g (v':=.bool (!(yQ s u||eI s u))) ?_ rfl;simp only[Sem.run_bind,hg,Result.andThen_ok,binOp,Op.stringOp,tR,gr,CM,wG];rfl
   . obtain rfl:=eE e;refine ee g (v':=.bool (!yQ s u)) ?_ rfl;simp only[Sem.run_bind,hg,Result.andThen_ok,binOp,Op.stringOp,CM,wG];rfl
 . rename_i hni GG;have hb:=QX (t:=t) ra rb (fun k m k' m' q=>hni k m k' m' q.1 q.2) (fun s u q=>GG s u q.1 q.2);have QZ:∀r,Gs P t x y a b=some r->∀op,(op= .eql\/op= .neq)->(eqGuard op t x y a' b').run P w= .ok () w/\(Op.equal t a' b').run P w= .ok r w:=by
    intro r er op pU;unfold Gs at er;split at er
    . simp only[dJ]at ra rb;subst ra;subst rb;split at er
      . rename_i akG;refine⟨?_,GF (E:=E) 10000 t _ _ _ _ r er rfl rfl⟩;clear hb e;rcases pU with rfl|rfl<;>cases x<;>cases y<;>first
         |rfl
         |(simp only[isLit,Bool.or_self,aP]at akG)
      . cases er
    . split at er
      . cases er
      . rename_i hg;obtain⟨CG,rx,rfl⟩:=ra;obtain⟨Kz,ry,rfl⟩:=rb;refine⟨run_eqGuard_agg w op t x y _ _ (by simpa using hg),GF 10000 t _ _ _ _ r er ⟨CG,rx,rfl⟩ ⟨Kz,ry,rfl⟩⟩
    . rename_i Ew xV;refine⟨?_,GF 10000 t _ _ _ _ r er ra rb⟩;have t1:=sN ra;have t2:=sN rb;rcases pU with rfl|rfl<;>cases a'<;>first
       |rfl
       |(cases b'<;>first
        |rfl
        |(exfalso;cases a<;>simp[V.tag,y7]at t1;cases b<;>simp[V.tag,y7]at t2;exact Ew rfl rfl)
        |(exfalso;cases a<;>simp[V.tag,y7]at t1;cases b<;>simp[V.tag,y7]at t2;exact xV _ _ rfl rfl))
   split at e
   . cases hq:Gs P t x y a b with
     |none=>simp[hq]at e
     |some r=>
      simp only[hq,bj,an]at e;subst e;obtain⟨m1,m2⟩:=QZ r hq .eql (.inl rfl);refine ee g (v':=.bool r) ?_ rfl;simp only[Sem.run_bind,m1,Result.andThen_ok,hb.1,m2,Sem.run_pure]
   . cases hq:Gs P t x y a b with
     |none=>simp[hq]at e
     |some r=>
      simp only[hq,bj,an]at e;subst e;obtain⟨m1,m2⟩:=QZ r hq .neq (.inr rfl);refine ee g (v':=.bool (!r)) ?_ rfl;simp only[Sem.run_bind,m1,Result.andThen_ok,hb.2,m2,Sem.run_pure]
   . cases e
section
variable{t:TypeId}{f:Nat}{x i:V}
theorem Vq{op:UnOp}{x v:V}{x':Value}(g:Good E h w)(r:dJ E x x')(e:unV op x=some v):kG P E h n w (do pure (.value (<- Op.unary op x'))) (.val v h n):=by
 unfold unV at e;split at e
 . simp only[dJ]at r;subst r;obtain⟨v',q1,q2⟩:=xU e;exact ee g (v':=v') (by rw[q1];rfl) (q2 E)
 . simp only[dJ]at r;subst r;obtain⟨v',q1,q2⟩:=xU e;exact ee g (v':=v') (by rw[q1];rfl) (q2 E)
 . cases e
theorem It{e:TypeId}(q:u7 P t=some e):P.underlying t=some (.slice e):=by
 unfold u7 at q;split at q
 . rename_i hu;simp at q;subst q;exact hu
 . cases q
theorem GH{v:V}{x':Value}(g:Good E h w)(r:dJ E x x')(e:xO P t f x=some v):
  kG P E h n w (do pure (.value (<- Instr.fieldAt t x' f))) (.val v h n):=by
 unfold xO at e;split at e
 . rename_i m o;split at e
   . rename_i fs hu;split at e
     . rename_i fd hf;split at e
       . rename_i k hk;obtain rfl:=eE e;obtain⟨b,s,hi,rfl⟩:=r;refine ee g (v':=.pointer (some ⟨b,s+(o+fd.offset),none⟩)) ?_ ⟨b,s,hi,rfl⟩;simp[Instr.fieldAt,dz hu,hf,Instr.sureAddr,fieldPlace,fc hk,Addr.jk,cE]
       . cases e
     . cases e
   . cases e
 . rename_i Q;split at e
   . rename_i fs hu;split at e
     . rename_i fd hf;split at e
       . rename_i k hk;obtain rfl:=eE e;obtain⟨b,o,c,vs,rfl,B7,hd,J⟩:=r;refine ee g (v':=.pointer (some ⟨b,o+fd.offset,none⟩)) ?_ ⟨b,_,c,vs.drop fd.offset,rfl,B7,oz hd,fun j w q=>?_⟩
         . simp[Instr.fieldAt,dz hu,hf,Instr.sureAddr,fieldPlace,fc hk,Addr.jk]
         . rw[bL]at q;rw[<- J _ w q,cE]
       . cases e
     . cases e
   . cases e
 . cases e
theorem Q0{v:V}{x':Value}(g:Good E h w)(r:dJ E x x')(e:Ku P t f x=some v):
  kG P E h n w (do pure (.value (<- Instr.field t x' f))) (.val v h n):=by
 unfold Ku at e;split at e
 . split at e
   . rename_i fs hu;split at e
     . rename_i fd hf;obtain⟨cs',rc,rfl⟩:=r;obtain⟨v',X,h2⟩:=y6 (P:=P) (w:=w) (cs':=cs'.toArray) (by simpa using rc) e;refine ee g (v':=v') ?_ h2;simp[Instr.field,dz hu,hf,asAgg,X]
     . cases e
   . cases e
 . cases e
theorem GI{v:V}{x' i':Value}(g:Good E h w)(r:dJ E x x')(ri:dJ E i i')(e:oy P t x i=some v):
  kG P E h n w (do pure (.value (<- Instr.indexAt t x' i'))) (.val v h n):=by
 unfold oy at e;split at e
 . rename_i k i;simp only[dJ]at ri;subst ri;split at e
   . rename_i T el m o hu;split at e
     . rename_i s hs;split at e
       . rename_i hb;obtain rfl:=eE e;obtain⟨b,sh,hi,rfl⟩:=r;refine ee g (v':=.pointer (some ⟨b,sh+(o+i.toNat*s),none⟩)) ?_ ⟨b,sh,hi,rfl⟩;simp[Instr.indexAt,asIntOf,dz hu,Instr.sureAddr,hb.1,hb.2,fc hs,Addr.jk,cE]
       . cases e
     . cases e
   . rename_i el m o T A jJ hu;split at e
     . rename_i s hs;split at e
       . rename_i hb;obtain⟨X,h2,h3⟩:=hb;obtain rfl:=eE e;obtain⟨b,sh,o',gq,hi,q1,q2,q3,q4,rfl⟩:=r;have ho:o'=sh+o:=q1 L;subst ho;refine ee g (v':=.pointer (some ⟨b,sh+(o+i.toNat*s),none⟩)) ?_ ⟨b,sh,hi,rfl⟩;simp[Instr.indexAt,asIntOf,dz hu,X,h2,fc hs,Addr.jk,cE]
       . cases e
     . cases e
   . rename_i el f T Q hu;split at e
     . rename_i s hs;split at e
       . rename_i hb;obtain⟨⟨X,h2⟩,h3⟩:=hb;obtain rfl:=eE e;obtain⟨⟨a,A,vs,rfl,oc,hd,h0,mT⟩,_⟩:=r;obtain⟨b,o,c,rfl,B7,J⟩:=mT L;refine ee g (v':=.pointer (some ⟨b,o+i.toNat*s,none⟩)) ?_ ⟨b,_,c,(vs.drop (i.toNat*s)).take s,rfl,B7,tL (oz hd),fun j w q=>?_⟩
         . simp[Instr.indexAt,asIntOf,dz hu,X,h2,fc hs,Addr.jk]
         . rw[bQ]at q;split at q
           . rw[bL]at q;rw[<- J _ w q,cE]
           . cases q
       . cases e
     . cases e
   . rename_i T el Q hu;split at e
     . rename_i s hs;split at e
       . rename_i hb;obtain rfl:=eE e;obtain⟨b,o,c,vs,rfl,B7,hd,J⟩:=r;refine ee g (v':=.pointer (some ⟨b,o+i.toNat*s,none⟩)) ?_ ⟨b,_,c,vs.drop (i.toNat*s),rfl,B7,oz hd,fun j w q=>?_⟩
         . simp[Instr.indexAt,asIntOf,dz hu,Instr.sureAddr,hb.1,hb.2,fc hs,Addr.jk]
         . rw[bL]at q;rw[<- J _ w q,cE]
       . cases e
     . cases e
   . cases e
 . cases e
theorem Q2{v:V}{x' i':Value}(g:Good E h w)(r:dJ E x x')(ri:dJ E i i')(e:Gt P t x i=some v):
  kG P E h n w (do pure (.value (<- Instr.index t x' i'))) (.val v h n):=by
 unfold Gt at e;split at e
 . rename_i k i;simp only[dJ]at ri;subst ri;split at e
   . rename_i T el Q hu;split at e
     . rename_i s hs;split at e
       . rename_i hb;obtain⟨cs',rc,rfl⟩:=r;obtain⟨v',X,h2⟩:=y6 (P:=P) (w:=w) (cs':=cs'.toArray) (by simpa using rc) e;refine ee g (v':=v') ?_ h2;simp[Instr.index,asIntOf,dz hu,hb.1,hb.2,fc hs,X]
       . cases e
     . cases e
   . rename_i s hu;split at e
     . rename_i hb;split at e
       . rename_i b hsb;obtain rfl:=eE e;simp only[dJ]at r;subst r;refine ee g (v':=.int .u8 b.toNat) ?_ rfl;have hg:(⟨s.toArray⟩:ByteArray)[i.toNat]? =some b:=by
          obtain⟨fH,hv⟩:=aH.1 hsb;have mA:i.toNat<(⟨s.toArray⟩:ByteArray).size:=by show i.toNat<s.toArray.size;simpa using fH
          rw[getElem?_pos (⟨s.toArray⟩:ByteArray) i.toNat mA];congr 1
         simp[Instr.index,asIntOf,dz hu,hb,hg]
       . cases e
     . cases e
   . cases e
 . cases e
theorem KJ{vs:ag}{i:Nat}{v:V}{x':Value}(g:Good E h w)(r:dJ E (.ew vs) x')(e:vs[i]? =some v):
  kG P E h n w (do pure (.value (<- Instr.extract x' i))) (.val v h n):=by
 obtain⟨YK,O,rfl⟩:=r;obtain⟨v',X,h2⟩:=gJ O i v e;refine ee g (v':=v') ?_ h2;simp[Instr.extract,X]
theorem EK{v:V}{xt t:TypeId}{ok:Bool}{x':Value}(g:Good E h w)(r:dJ E x x')(e:vg P x t ok=some v):
  kG P E h n w (do pure (.value (<- Instr.typeAssert x' xt t ok))) (.val v h n):=by
 unfold vg at e;split at e
 . cases e
 . rename_i d hu hd;simp only[dJ]at r;subst r;split at e
   . rename_i iC;cases hz:zeroOf P t with
     |none=>simp[hz]at e
     |some z=>
      simp only[hz,an]at e;subst e;obtain⟨z',hr,hv,_⟩:=mI (w:=w) E hz;refine ee g (v':=.tuple #[z',.bool false]) ?_ ⟨[z',.bool false],⟨z',_,hv,⟨.bool false,[],rfl,rfl,rfl⟩,rfl⟩,rfl⟩;cases d<;>first|(exact absurd rfl (hu _))|simp[Instr.typeAssert,dz hd,iC,hr]
   . cases e
 . rename_i d t2 x2 hu hd;obtain⟨y,ry,rfl⟩:=r;split at e
   . rename_i ht;subst ht;obtain rfl:=eE e;cases ok with
     |true=>
      refine ee g (v':=.tuple #[y,.bool true]) ?_ ⟨[y,.bool true],⟨y,_,ry,⟨.bool true,[],rfl,rfl,rfl⟩,rfl⟩,rfl⟩;cases d<;>first|(exact absurd rfl (hu _))|simp[Instr.typeAssert,dz hd]
     |false=>
      refine ee g (v':=y) ?_ ry;cases d<;>first|(exact absurd rfl (hu _))|simp[Instr.typeAssert,dz hd]
   . rename_i ht;split at e
     . rename_i iC;cases hz:zeroOf P t with
       |none=>simp[hz]at e
       |some z=>
        simp only[hz,an]at e;subst e;obtain⟨z',hr,hv,_⟩:=mI (w:=w) E hz;refine ee g (v':=.tuple #[z',.bool false]) ?_ ⟨[z',.bool false],⟨z',_,hv,⟨.bool false,[],rfl,rfl,rfl⟩,rfl⟩,rfl⟩;cases d<;>first|(exact absurd rfl (hu _))|simp[Instr.typeAssert,dz hd,iC,hr,ht]
     . cases e
 . cases e
end
end
def oH(E:Env):Option V->Option Value->Prop
 |none,y=>y=none
 |some x,y=>∃y',dJ E x y'/\y=some y'
section
variable{P:Program}{E:Env}{h:H rs}{n:Nat}{w:World}
theorem wH{d y r:Nat}{x:V}{x':Value}{c:BoundsCode}(e:eO d y (some x)=some r)(rx:dJ E x x'):
  (Instr.sliceBound x' y c).run P w= .ok r w/\r<=y:=by
 unfold eO at e;split at e
 . rename_i q;cases q
 . rename_i k i q;cases q;simp only[dJ]at rx;subst rx;split at e
   . rename_i hb;obtain rfl:=eE e;refine⟨?_,L⟩;simp[Instr.sliceBound,asIntOf,hb.1,hb.2]
   . cases e
 . cases e
theorem mU{U0:Bool}{T A l hh m:Nat}{lo hi mx:Option V}{Vr kS Vs:Option Value}(rl:oH E lo Vr)(rh:oH E hi kS)(rm:oH E mx Vs)
  (hmh:mx=none\/hi≠none) (e1:eO A A mx=some m) (e2:eO T m hi=some hh) (e3:eO 0 hh lo=some l) (ja:T<=A):
  (Instr.sliceBounds U0 T A Vr kS Vs).run P w= .ok (l,hh,m) w/\l<=hh/\hh<=m/\m<=A:=by
 have low:∀c,((match Vr with|some v=>Instr.sliceBound v hh c|none=>pure 0):Sem Nat).run P w= .ok l w/\l<=hh:=by
  intro c;cases lo with
  |none=>simp only[oH]at rl;subst rl;simp only[eO,an]at e3;subst e3;exact⟨rfl,aX _⟩
  |some x=>obtain⟨x',rx,rfl⟩:=rl;exact wH e3 rx
 cases mx with
 |none=>
  simp only[oH]at rm;subst rm;simp only[eO,an]at e1;subst e1;cases hi with
  |none=>
   simp only[oH]at rh;subst rh;simp only[eO,an]at e2;subst e2;obtain⟨X,h2⟩:=low .sliceB;refine⟨?_,h2,ja,aC _⟩;cases Vr<;>simp_all [Instr.sliceBounds]
  |some x=>
   obtain⟨x',rx,rfl⟩:=rh;obtain⟨p1,p2⟩:=wH (P:=P) (w:=w) (c:=if U0 then .sliceAcap else .sliceAlen) e2 rx;obtain⟨X,h2⟩:=low .sliceB;refine⟨?_,h2,p2,aC _⟩;cases Vr<;>simp_all [Instr.sliceBounds]
 |some y=>
  obtain⟨y',ry,rfl⟩:=rm;obtain⟨p1,p2⟩:=wH (P:=P) (w:=w) (c:=if U0 then .slice3Acap else .slice3Alen) e1 ry;cases hi with
  |none=>rcases hmh with q|q<;>simp at q
  |some x=>
   obtain⟨x',rx,rfl⟩:=rh;obtain⟨q1,q2⟩:=wH (P:=P) (w:=w) (c:=.slice3B) e2 rx;obtain⟨X,h2⟩:=low .slice3C;refine⟨?_,h2,q2,p2⟩;cases Vr<;>simp_all [Instr.sliceBounds]
theorem GJ(s:B)(l hh:Nat):(⟨s.toArray⟩:ByteArray).extract l hh=⟨((s.take hh).drop l).toArray⟩:=by
 apply ByteArray.ext;simp[List.extract_eq_take_drop,List.drop_take]
theorem Q3{t:TypeId}{x v:V}{x':Value}{lo hi mx:Option V}{Vr kS Vs:Option Value}(g:Good E h w)(r:dJ E x x')(rl:oH E lo Vr)(rh:oH E hi kS)(rm:oH E mx Vs)
  (e:mQ P t h x lo hi mx=some v):kG P E h n w (do pure (.value (<- Instr.sliceAt t x' Vr kS Vs))) (.val v h n):=by
 unfold mQ at e;split at e
 . cases e
 . rename_i aeL;have hmh:mx=none\/hi≠none:=by
    cases mx with
    |none=>exact .inl rfl
    |some _=>cases hi with
     |none=>simp at aeL
     |some _=>exact .inr (by simp)
   clear aeL;split at e
   . rename_i s hu;cases mx with
     |some _=>simp at e
     |none=>
      simp only[oH]at rm;subst rm;simp only at e;simp only[dJ]at r;subst r;cases h2:eO s.length s.length hi with
      |none=>simp[h2]at e
      |some hh=>
       simp only[h2]at e;cases h3:eO 0 hh lo with
       |none=>simp[h3]at e
       |some l=>
        simp only[h3,an]at e;subst e;have mA:(⟨s.toArray⟩:ByteArray).size=s.length:=by show s.toArray.size=_;simp
        obtain⟨q,q1,q2,_⟩:=mU (P:=P) (w:=w) (U0:=false) (T:=s.length) (A:=s.length) (mx:=none) (Vs:=none) rl rh rfl (.inl rfl) rfl h2 h3 (aC _);refine ee g (v':=.string ⟨((s.take hh).drop l).toArray⟩) ?_ rfl;simp only[Sem.run_bind,Instr.sliceAt,dz hu,Result.andThen_ok,Instr.slice,Option.isSome_none,aP,cJ,mA,q,Sem.run_pure,GJ s l hh]
   . rename_i el a T A jJ hu;split at e
     . rename_i s hs;split at e
       . rename_i hse;cases X:eO A A mx with
         |none=>simp[X]at e
         |some m=>
          simp only[X]at e;cases h2:eO T m hi with
          |none=>simp[h2]at e
          |some hh=>
           simp only[h2]at e;cases h3:eO 0 hh lo with
           |none=>simp[h3]at e
           |some l=>
            simp only[h3,an]at e;subst e;cases a with
            |none=>
             obtain⟨rfl,rfl,rfl⟩:=r;obtain⟨q,q1,q2,q3⟩:=mU (P:=P) (w:=w) (U0:=true) rl rh rm hmh X h2 h3 (aC _);have W:m=0:=by omega
             have hh0:hh=0:=by omega
             have vt:l=0:=by omega
             subst W;subst hh0;subst vt;refine ee g (v':=.slice none 0 0) ?_ ⟨rfl,rfl,rfl⟩;simp only[Sem.run_bind,Instr.sliceAt,dz hu,Result.andThen_ok,Instr.slice,q,fc hs,Sem.run_pure];rfl
            |some a=>
             obtain⟨bm,o⟩:=a
             have hse:s=jJ:=by rcases hse with q|q;. exact q
                               . cases q
             subst hse;obtain⟨b,sh,o',gq,kS,c1,c2,c3,c4,rfl⟩:=r;cases mx with
             |none=>
              simp only[oH]at rm;subst rm;simp only[eO,an]at X;subst X;have Vt:eO T gq hi=some hh:=by
               cases hi with
               |none=>exact h2
               |some y=>
                unfold eO at h2 ⊢;split at h2
                . rename_i q;cases q
                . rename_i k i q;cases q;split at h2
                  . rename_i hb;rw[aF ⟨hb.1,L⟩];exact h2
                  . cases h2
                . cases h2
              obtain⟨q,q1,q2,q3⟩:=mU (P:=P) (w:=w) (U0:=true) (mx:=none) (Vs:=none) (A:=gq) rl rh rfl (.inl rfl) rfl Vt h3 L;have hhc:hh<=A:=by
               cases hi with
               |none=>simp only[eO,an]at h2;omega
               |some y=>
                unfold eO at h2;split at h2
                . rename_i q;cases q
                . rename_i k i q;cases q;split at h2
                  . rename_i hb;simp only[an]at h2;omega
                  . cases h2
                . cases h2
              refine ee g (v':=.slice (if gq=l then some ⟨b,o',none⟩else some ⟨b,o'+l*s,none⟩) (hh-l) (gq-l)) ?_ ?_
              . simp only[Sem.run_bind,Instr.sliceAt,dz hu,Result.andThen_ok,Instr.slice,q,fc hs,Sem.run_pure,bj,Addr.jk]
              . by_cases qR:gq=l
                . rw[aF qR];refine⟨b,sh,o',gq-l,kS,fun q=>by omega,L,L,?_,rfl⟩;rw[qR];simp;omega
                . rw[aJ qR];refine⟨b,sh,o'+l*s,gq-l,kS,fun q=>?_,L,L,?_,rfl⟩
                  . rw[c1 L];omega
                  . have W:l*s+(gq-l)*s=gq*s:=by rw[<- cQ];congr 1;omega
                    omega
             |some y=>
              obtain⟨y',ry,rfl⟩:=rm;have mO:eO gq gq (some y)=some m:=by
               unfold eO at X ⊢;split at X
               . rename_i q;cases q
               . rename_i k i q;cases q;split at X
                 . rename_i hb;rw[aF ⟨hb.1,L⟩];exact X
                 . cases X
               . cases X
              have hmc:m<=A:=by
               unfold eO at X;split at X
               . rename_i q;cases q
               . rename_i k i q;cases q;split at X
                 . rename_i hb;simp only[an]at X;omega
                 . cases X
               . cases X
              obtain⟨q,q1,q2,q3⟩:=mU (P:=P) (w:=w) (U0:=true) (A:=gq) rl rh (mx:=some y) (Vs:=some y') ⟨y',ry,rfl⟩ hmh mO h2 h3 L;refine ee g (v':=.slice (if m=l then some ⟨b,o',none⟩else some ⟨b,o'+l*s,none⟩) (hh-l) (m-l)) ?_ ?_
              . simp only[Sem.run_bind,Instr.sliceAt,dz hu,Result.andThen_ok,Instr.slice,q,fc hs,Sem.run_pure,bj,Addr.jk]
              . by_cases qR:m=l
                . rw[aF qR];refine⟨b,sh,o',m-l,kS,fun q=>by omega,L,L,?_,rfl⟩;rw[qR];simp;omega
                . rw[aJ qR];refine⟨b,sh,o'+l*s,m-l,kS,fun q=>?_,L,aC _,?_,rfl⟩
                  . rw[c1 L];omega
                  . have W:l*s+(m-l)*s=m*s:=by rw[<- cQ];congr 1;omega
                    have hm2:m*s<=gq*s:=cz _ L;omega
       . cases e
     . cases e
   . rename_i el f T Q hu;have ny:∀{y A r:Nat} {o:Option V},eO y y o=some r->y<=A->o≠none->eO A A o=some r/\r<=y:=fun {y A r o} q hq fS=>by
      cases o with
      |none=>exact absurd rfl fS
      |some v=>
       cases v with
       |int k i=>
        simp only[eO]at q ⊢;split at q
        . rename_i hb;obtain rfl:=eE q;exact⟨aF ⟨hb.1,L⟩,L⟩
        . cases q
       |_=>simp only[eO]at q;cases q
     split at e
     . rename_i s hs;split at e
       . rename_i qR;obtain⟨⟨a,A,vs,rfl,oc,hd,h0,mT⟩,za⟩:=r;have key:∀(l hh m:Nat),l<=hh->hh<=T->hh<=m->∀(f':Bool),(f'=true->m=hh)->
           dJ E (.dV f' (hh-l) ((Q.drop (l*s)).take ((hh-l)*s))) (.slice (if m=l then a else a.map (·.add (l*s))) (hh-l) (m-l)):=by
          intro l hh m k1 k2 k3 f' hf';refine⟨⟨_,_,(vs.drop (l*s)).take ((hh-l)*s),rfl,L,tL (oz hd),fun q=>by rw[q];simp,fun q=>?_⟩,fun q=>⟨_,by rw[hf' q]⟩⟩;obtain⟨b,o,c,rfl,B7,J⟩:=mT L;refine⟨b,o+l*s,c,?_,B7,fun j w hw=>?_⟩
          . rw[aJ L];simp[Addr.jk]
          . rw[bQ]at hw;split at hw
            . rw[bL]at hw;rw[<- J _ w hw,cE]
            . cases hw
         cases mx with
         |none=>
          simp only[oH]at rm;subst rm;simp only at e;cases h2:eO T T hi with
          |none=>simp[h2]at e
          |some hh=>
           simp only[h2]at e;cases h3:eO 0 hh lo with
           |none=>simp[h3]at e
           |some l=>
            simp only[h3,an]at e;subst e;have Vt:eO T A hi=some hh/\hh<=T:=by
             cases hi with
             |none=>simp only[eO,an]at h2 ⊢;exact⟨h2,L⟩
             |some y=>
              obtain⟨q1,q2⟩:=ny h2 oc (by simp);exact⟨by cases y<;>exact q1,q2⟩
            obtain⟨q,q1,q2,q3⟩:=mU (P:=P) (w:=w) (U0:=true) (mx:=none) (Vs:=none) (A:=A) rl rh rfl (.inl rfl) rfl Vt.1 h3 oc;refine ee g (v':=.slice (if A=l then a else a.map (·.add (l*s))) (hh-l) (A-l)) ?_ (key l hh A q1 Vt.2 q2 _ fun hf=>?_)
            . simp only[Sem.run_bind,Instr.sliceAt,dz hu,Result.andThen_ok,Instr.slice,q,fc hs,Sem.run_pure]
            . simp only[aE,Bool.not_eq_true',Option.isSome_eq_false_iff,Option.isNone_iff_eq_none]at hf;obtain⟨hf1,rfl⟩:=hf;simp only[eO,an]at h2;obtain⟨a',ha'⟩:=za hf1;simp only[Value.slice.injEq]at ha';omega
         |some y=>
          simp only at e;cases X:eO T T (some y)with
          |none=>simp[X]at e
          |some m=>
           simp only[X]at e;cases h2:eO T m hi with
           |none=>simp[h2]at e
           |some hh=>
            simp only[h2]at e;cases h3:eO 0 hh lo with
            |none=>simp[h3]at e
            |some l=>
             simp only[h3]at e;split at e
             . rename_i hhm;obtain rfl:=eE e;obtain⟨k1,k2⟩:=ny X oc (by simp);obtain⟨q,q1,q2,q3⟩:=mU (P:=P) (w:=w) (U0:=true) (A:=A) rl rh rm hmh k1 h2 h3 oc;refine ee g (v':=.slice (if m=l then a else a.map (·.add (l*s))) (hh-l) (m-l)) ?_ (key l hh m q1 L q2 _ fun _=>hhm.symm);simp only[Sem.run_bind,Instr.sliceAt,dz hu,Result.andThen_ok,Instr.slice,q,fc hs,Sem.run_pure]
             . cases e
       . cases e
     . cases e
   . rename_i T el bm o hu;split at e
     . rename_i s hs;cases X:eO T T mx with
       |none=>simp[X]at e
       |some m=>
        simp only[X]at e;cases h2:eO T m hi with
        |none=>simp[h2]at e
        |some hh=>
         simp only[h2]at e;cases h3:eO 0 hh lo with
         |none=>simp[h3]at e
         |some l=>
          simp only[h3]at e;split at e
          . rename_i hb;obtain rfl:=eE e;obtain⟨GD,Vu,iJ⟩:=hb;unfold yR at iJ;split at iJ
            . rename_i Q W;have hlc:o+T*s<=Q.length:=by simpa using iJ
              obtain⟨b,sh,kS,rfl⟩:=r;obtain⟨b',sh',xW,c,YL,fz,xh,mA,_,Ev⟩:=g.rel bm _ W;rw[kS]at xW;cases xW;obtain⟨q,q1,q2,q3⟩:=mU (P:=P) (w:=w) (U0:=false) rl rh rm hmh X h2 h3 (aC _);refine ee g (v':=.slice (some (if m=l then⟨b,sh+o,none⟩else⟨b,sh+o+l*s,none⟩)) (hh-l) (m-l)) ?_ ?_
              . simp only[Sem.run_bind,Instr.sliceAt,dz hu,Result.andThen_ok,Instr.sureAddr,q,fc hs,Sem.run_pure,Addr.jk]
              . have Aw:sh+o+m*s<=E.β b:=by
                 have mT:0<T*s:=Nat.mul_pos Vu GD;have zb:=oC Ev (k:=o+T*s) L hlc;have Iu:m*s<=T*s:=cz _ q3;omega
                by_cases qR:m=l
                . rw[aF qR];refine⟨b,sh,sh+o,m-l,kS,fun q=>by omega,L,L,?_,rfl⟩;rw[qR];simp;omega
                . rw[aJ qR];refine⟨b,sh,sh+o+l*s,m-l,kS,fun q=>by omega,L,aC _,?_,rfl⟩;have W:l*s+(m-l)*s=m*s:=by rw[<- cQ];congr 1;omega
                  omega
            . cases iJ
          . cases e
     . cases e
   . cases e
end
end Go.Eng
