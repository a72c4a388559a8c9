/- Lemmas of the engine. No conditions. -/
import GoSem.Core.Ast
import Derived.WalkKit
import Derived.Orders
import Derived.ChangeKeysEq
set_option linter.unusedVariables false
set_option linter.unusedSimpArgs false
set_option linter.unusedSectionVars false
namespace Go.Eng
def tX:List (Nat×Nat):=[]
open Go
abbrev aq:=@Option.some.injEq
abbrev au:=@List.getElem?_eq_getElem
abbrev ax:=@List.getD_eq_getElem?_getD
abbrev ay:=@Bool.and_eq_true
abbrev az:=@Nat.le_of_ble_eq_true
abbrev aA:=@Nat.eq_of_beq_eq_true
abbrev aB:=@if_neg
abbrev aD:=@List.mem_cons
abbrev aE:=@List.length_append
abbrev aF:=@Prod.mk.injEq
abbrev aG:=@if_pos
abbrev aH:=@List.mem_singleton
abbrev aI:=@congrArg
abbrev aJ:=@List.not_mem_nil
abbrev aK:=@Nat.le_refl
abbrev aL:=@forall_eq_or_imp
abbrev aM:=@Bool.false_eq_true
abbrev aN:=@Bool.true_and
abbrev aP:=@List.length_cons
abbrev aR:=@List.getElem?_eq_some_iff
abbrev aS:=@Bool.false_and
abbrev aT:=@decide_eq_false
abbrev aU:=@Nat.zero_le
abbrev aW:=@Array.getElem?_eq_some_iff
abbrev aX:=@of_decide_eq_true
abbrev aY:=@decide_eq_true_eq
abbrev aZ:=@decide_eq_true
abbrev bf:=@Array.getElem?_eq_getElem
abbrev bg:=@List.mem_append
abbrev bh:=@forall_eq
abbrev bj:=@List.mem_cons_of_mem
abbrev bn:=@or_false
abbrev bq:=@List.length_take
abbrev br:=@List.all_eq_true
abbrev bt:=@Nat.lt_or_ge
abbrev bu:=@decide_eq_false_iff_not
abbrev bw:=@Option.map_some
abbrev bx:=@List.mem_cons_self
abbrev bz:=@List.take_length
abbrev bA:=@Option.ne_none_iff_exists'
abbrev bB:=@of_decide_eq_false
abbrev bC:=@Nat.not_lt_zero
abbrev bD:=@List.getElem?_append_left
abbrev bE:=@Nat.le_trans
abbrev bG:=@List.length_map
abbrev bH:=@Option.isSome_iff_exists
abbrev bI:=@List.getElem?_map
abbrev bJ:=@Array.getD_eq_getD_getElem?
abbrev bK:=@List.getElem_mem
abbrev bL:=@List.mem_range
abbrev bM:=@Array.getElem?_toList
abbrev bN:=@List.mem_map
abbrev bO:=@List.findIdx?_eq_some_iff_getElem
abbrev bP:=@List.map_cons
abbrev bQ:=@List.map_append
abbrev bR:=@Nat.lt_of_lt_of_le
abbrev bS:=@List.getElem?_take
abbrev bU:=@List.getElem?_drop
abbrev bV:=@Bool.not_eq_true'
abbrev bW:=@List.length_nil
abbrev bX:=@Bool.or_eq_true
abbrev bY:=@List.take_add_one
abbrev bZ:=@Int.natCast_nonneg
abbrev b5:=@beq_eq_false_iff_ne
abbrev b6:=@List.getElem_of_mem
abbrev b7:=@Nat.zero_add
abbrev b9:=@List.drop_eq_getElem_cons
abbrev cg:=@List.length_singleton
abbrev cj:=@Array.getElem?_append_left
abbrev ck:=@Option.getD_some
abbrev cm:=@Int.ofNat_lt
abbrev cq:=@Bool.true_or
abbrev cr:=@Bool.false_or
abbrev ct:=@Bool.and_true
abbrev cz:=@if_false
abbrev cA:=@List.drop_zero
abbrev cB:=@Bool.and_false
abbrev cC:=@Bool.or_false
abbrev cE:=@List.eq_nil_iff_length_eq_zero
abbrev cF:=@List.getElem?_cons_zero
abbrev cG:=@beq_iff_eq
abbrev cH:=@List.findIdx?_eq_none_iff
abbrev cI:=@Nat.mul_le_mul_right
abbrev cJ:=@List.mem_of_mem_take
abbrev cK:=@Bool.or_eq_false_iff
abbrev cL:=@List.getElem?_eq_none
abbrev cM:=@List.contains_iff_mem
abbrev cN:=@List.getElem?_append_right
abbrev cO:=@Bool.or_true
abbrev cP:=@List.nil_append
abbrev cQ:=@Nat.le_add_right
abbrev cR:=@Array.getElem?_modify
abbrev cS:=@Nat.testBit_two_pow_sub_one
abbrev cT:=@List.any_eq_false
abbrev cU:=@Nat.mul_one
abbrev cV:=@Nat.mod_two_eq_zero_or_one
abbrev cW:=@List.take_of_length_le
abbrev cZ:=@List.getElem?_range
abbrev dc:=@Nat.add_mul
abbrev de:=@List.append_assoc
abbrev dg:=@Option.some.inj
abbrev dh:=@List.foldl_cons
abbrev aa:=List UInt8
abbrev ah:=List Prop
abbrev A:=IntKind.i64
theorem C{α:Sort _}{a b:α}(h:a=b:=by kernel_rfl):a=b:=h
section
variable{p:Prop}{α:Type _}
theorem H(h:p:=by omega):p:=h
theorem eY(h:p:=by decide):p:=h
theorem agX(n:Nat):Int.ofNat n=(n:Int):=rfl
theorem V3(h:p:=by simp only[agX];omega):p:=h
theorem aaJ{α:Type}{a:α}{be h1:α->Prop}(h:h1 a):∀g∈[a],be g->h1 g:=fun _ hg _=>aH.1 hg▸h
theorem atz{l:ah}(h:p)(t:∀a∈l,a):∀a∈p::l,a:=List.forall_mem_cons.2 ⟨h,t⟩
theorem eH{a b:α}(h:some a=some b):a=b:=dg h
theorem ga{β:Type _}{a c:α}{b d:β}(h:some (a,b)=some (c,d)):a=c/\b=d:=Prod.mk.inj (dg h)
end
inductive D where
 |bool (b:Bool)
 |int (k:IntKind) (n:Int)
 |str (s:aa)
 |eB (n:Nat) (R:List D)
 |agg (R:List D)
 deriving Inhabited
abbrev ae:=List (D×D)
abbrev ai:=List D
inductive V where
 |bool (b:Bool)
 |int (k:IntKind) (n:Int)
 |str (s:aa)
 |ptr (a:Option (Nat×Nat))
 |eR (a:Option (Nat×Nat)) (len jO jv:Nat)
 |map (r:Option Nat)
 |fn (f:Fn) (first captured:List V)
 |kG
 |iface (t:TypeId) (v:V)
 |nilIface
 |agg (R:List V)
 |gw (vs:List V)
 |eB (f:Bool) (n:Nat) (R:ai)
 |dx (R:ai)
 deriving Inhabited
abbrev ag:=List V
mutual
def D.jQ:D->V
 | .bool b=>.bool b
 | .int k n=>.int k n
 | .str s=>.str s
 | .eB n R=>.eB false n R
 | .agg R=>.agg (D.fQ R)
def D.fQ:ai->ag
 | []=>[]
 |x::xs=>x.jQ::D.fQ xs
end
theorem D.gh:∀l:ai,D.fQ l=l.map D.jQ
 | []=>rfl
 |x::xs=>by rw[D.fQ,D.gh xs];rfl
def D.scalar:D->Bool
 | .agg _=>false
 |_=>true
mutual
def V.Jf:V->Option D
 | .bool b=>some (.bool b)
 | .int k n=>some (.int k n)
 | .str s=>some (.str s)
 | .eB _ n R=>some (.eB n R)
 | .eR none _ _ _=>some (.eB 0 [])
 | .eR (some _) 0 _ _=>some (.eB 0 [])
 | .agg R=>match V.N6 R with
   |some l=>some (.agg l)
   |none=>none
 |_=>none
def V.N6:ag->Option (ai)
 | []=>some []
 |x::xs=>match V.Jf x with
  |some d=>match V.N6 xs with
   |some l=>match d.scalar with
    |true=>some (d::l)
    |false=>none
   |none=>none
  |none=>none
end
inductive J(α:Type) where
 |nil
 |node (v:Option α) (l r:J α)
 deriving Inhabited
inductive h2 where
 |cells (R:ag)
 |map (T:List (V×V×Nat)) (eS:Nat)
 |nv (s:aa) (pos:Nat)
 |ints (k:IntKind) (Y:List Int)
 |own (k:IntKind) (Y:List Int)
 |deep (R:ai)
 |tJ (el:TypeId) (Ac:Bool) (s:aa)
 |AS (t:TypeId) (self:Bool) (x:V)
 |gl (kd:Option IntKind) (T:ae)
 |oJ (kd:Option IntKind) (T:ae)
 |tY
 |loop (st:Bool) (pe:Option Code) (N:J V) (ps:List Nat) (assign body:Code)
 deriving Inhabited
abbrev af:=List (Nat×h2)
def h2.wr:h2->Bool
 | .ints _ _=>false
 |_=>true
def J.get{α:Type}:J α->Nat->Option α
 | .nil,_=>none
 | .node v l r,k=>
   match k with
   |0=>v
   |k+1=>match k%2 with
    |0=>l.get (k/2)
    |_=>r.get (k/2)
def J.qS{α:Type}:Nat->J α->Nat->Option α->J α
 |0,t,_,_=>t
 |f+1,.nil,k,x=>
  match k with
  |0=>.node x .nil .nil
  |k+1=>match k%2 with
   |0=>.node none (J.qS f .nil (k/2) x) .nil
   |_=>.node none .nil (J.qS f .nil (k/2) x)
 |f+1,.node v l r,k,x=>
  match k with
  |0=>.node x l r
  |k+1=>match k%2 with
   |0=>.node v (J.qS f l (k/2) x) r
   |_=>.node v l (J.qS f r (k/2) x)
def fZ:Nat:=4294967296
def J.set{α:Type}(t:J α)(k:Nat)(x:Option α):J α:=J.qS 33 t k x
def iN:Value->Option V
 | .bool b=>some (.bool b)
 | .int k n=>some (.int k n)
 | .string s=>some (.str s.data.toList)
 | .pointer none=>some (.ptr none)
 | .slice none 0 0=>some (.eR none 0 0 0)
 | .map none=>some (.map none)
 | .nilFunc=>some .kG
 | .nilIface=>some .nilIface
 |_=>none
def nA:List Value->Option (ag)
 | []=>some []
 |v::vs=>match iN v with
  |some x=>match nA vs with
   |some xs=>some (x::xs)
   |none=>none
  |none=>none
def Ld:Value->Option V
 | .agg R=>match nA R.toList with
   |some xs=>some (.agg xs)
   |none=>none
 |v=>iN v
def V.cells:V->ag
 | .agg R=>R
 |v=>[v]
def V.scalar:V->Bool
 | .agg _ | .gw _=>false
 |_=>true
section
variable(P:Program)(t:TypeId)
def ku:Option Nat:=(P.info? t).map (·.size)
def zeroOf:Option V:=
 match P.info? t with
 |some i=>match i.zero with
  |some v=>Ld v
  |none=>none
 |none=>none
def GV:Option Bool:=
 match P.underlying t with
 |some (.struct _)=>some true
 |some (.array _ _)=>some true
 |some _=>some false
 |none=>none
end
inductive cs where
 |val (v:V) (h:J h2) (n:Nat)
 |call (f:FuncId) (args:ag)
 |tY (f:FuncId) (captured args:ag)
 |recover
 |panic (v:V)
section
variable(P:Program)(h:J h2)(t:TypeId)(n:Nat)
def kF:Option V->Option cs
 |some v=>some (.val v h n)
 |none=>none
def newObj(o:h2):Option (J h2×Nat):=
 if n<fZ then some (h.set n (some o),n+1)else none
def cut(R:ag)(o size:Nat):Option (ag):=
 if o+size<=R.length then some ((R.drop o).take size)else none
def BL(R:ag)(o:Nat)(new:ag):Option (ag):=
 if o+new.length<=R.length then some (R.take o++(new++R.drop (o+new.length)))else none
def kP(R:ag)(o:Nat):Option V:=
 match GV P t with
 |some true=>match ku P t with
  |some s=>(cut R o s).map .agg
  |none=>none
 |some false=>R[o]?
 |none=>none
def uj(m:Nat)(self:Bool)(x:V):ag:=[if self then .ptr (some (m,0))else .ptr none,x]
def BM(z:V):h2:=match z.cells with
 | [.ptr none,.eR none 0 0 0]=>match P.underlying t with
   |some (.struct fs)=>match fs[0]? with
    |some f=>match P.underlying f.type with
     |some (.pointer t')=>if Nat.beq t' t then .AS t false (.eR none 0 0 0)else .cells z.cells
     |_=>.cells z.cells
    |none=>.cells z.cells
   |_=>.cells z.cells
 |_=>.cells z.cells
def loadAt(h:J h2):V->Option V
 | .ptr (some (m,o))=>match h.get m with
   |some (.cells R)=>kP P t R o
   |some (.ints k Y)=>kP P t (Y.map (.int k)) o
   |some (.own k Y)=>kP P t (Y.map (.int k)) o
   |some (.deep R)=>kP P t (D.fQ R) o
   |some (.AS _ self x)=>kP P t (uj m self x) o
   |_=>none
 | .dx R=>kP P t (D.fQ R) 0
 |_=>none
end
inductive Row where
 |vs (R:ag)
 |is (k:IntKind) (Y:List Int)
 |ds (R:ai)
def Row.jQ:Row->ag
 | .vs R=>R
 | .is k Y=>Y.map (.int k)
 | .ds R=>D.fQ R
def Row.Eb:Row->h2
 | .vs R=>.cells R
 | .is k Y=>.own k Y
 | .ds R=>.deep R
def h2.row:h2->Option Row
 | .cells R=>some (.vs R)
 | .own k Y=>some (.is k Y)
 | .deep R=>some (.ds R)
 |_=>none
def h2.Mn:h2->Option Row
 | .cells R=>some (.vs R)
 | .own k Y=>some (.is k Y)
 | .ints k Y=>some (.is k Y)
 | .deep R=>some (.ds R)
 |_=>none
def iu:ag->Option (ai)
 | []=>some []
 |x::r=>match(match x with
  | .bool b=>some (.bool b)
  | .int k n=>some (.int k n)
  | .str s=>some (.str s)
  | .eB _ n R=>some (.eB n R)
  | .eR none _ _ _=>some (.eB 0 [])
  |_=>none:Option D)with
  |some d=>match iu r with
   |some l=>some (d::l)
   |none=>none
  |none=>none
def pL(k:IntKind):ag->Option (List Int)
 | []=>some []
 | .int k' x::r=>match decide (k'=k),pL k r with
   |true,some l=>some (x::l)
   |_,_=>none
 |_::_=>none
def Row.app:Row->Row->Row
 | .vs a,.vs b=>.vs (a++b)
 | .is k a,.is k' b=>match decide (k'=k)with
   |true=>.is k (a++b)
   |false=>.vs (a.map (.int k)++b.map (.int k'))
 | .is k a,.vs b=>match pL k b with
   |some l=>.is k (a++l)
   |none=>.vs (a.map (.int k)++b)
 | .vs a,.is k b=>match pL k a with
   |some l=>.is k (l++b)
   |none=>.vs (a++b.map (.int k))
 | .ds a,.ds b=>.ds (a++b)
 | .ds a,.vs b=>match iu b with
   |some l=>.ds (a++l)
   |none=>.vs (D.fQ a++b)
 | .vs a,.ds b=>match iu a with
   |some l=>.ds (l++b)
   |none=>.vs (a++D.fQ b)
 | .ds a,.is k b=>.ds (a++b.map (.int k))
 | .is k a,.ds b=>.ds (a.map (.int k)++b)
def Row.cut(o size:Nat):Row->Option Row
 | .vs R=>match Eng.cut R o size with
   |some r=>some (.vs r)
   |none=>none
 | .is k Y=>if o+size<=Y.length then some (.is k ((Y.drop o).take size))else none
 | .ds R=>if o+size<=R.length then some (.ds ((R.drop o).take size))else none
def Row.soft:Row->Bool
 | .ds _=>true
 |_=>false
def Row.flat:Row->Bool
 | .vs R=>R.all V.scalar
 | .is _ _=>true
 | .ds _=>true
def um(Y:ai)(o:Nat)(new:ai):ai:=Y.take o++(new++Y.drop (o+new.length))
def AT(Y:List Int)(o:Nat)(new:List Int):List Int:=Y.take o++(new++Y.drop (o+new.length))
def storeAt(P:Program)(t:TypeId)(h:J h2)(v:V):V->Option (J h2)
 | .ptr (some (m,o))=>match h.get m with
   |some (.cells R)=>
    match ku P t with
    |some s=>
     if v.cells.length=s/\0<s/\m<fZ/\v.cells.all V.scalar=true then
      match BL R o v.cells with
      |some cs'=>some (h.set m (some (.cells cs')))
      |none=>none
     else none
    |none=>none
   |some (.own k Y)=>
    match ku P t with
    |some s=>
     if v.cells.length=s/\0<s/\m<fZ then
      match pL k v.cells with
      |some new=>if o+s<=Y.length then some (h.set m (some (.own k (AT Y o new))))else none
      |none=>none
     else none
    |none=>none
   |some (.deep R)=>
    match ku P t with
    |some s=>
     if v.cells.length=s/\0<s/\m<fZ then
      match iu v.cells with
      |some new=>if o+s<=R.length then some (h.set m (some (.deep (um R o new))))else none
      |none=>none
     else none
    |none=>none
   |some (.AS es self _)=>match ku P t,v.cells with
    |some 1,[x]=>if o=1/\m<fZ/\x.scalar=true then some (h.set m (some (.AS es self x)))else none
    |_,_=>none
   |_=>none
 |_=>none
def rD(xB:Nat->Option (Nat×Nat)):ag->List (Nat×V)->Option (ag)
 |cells,[]=>some cells
 |cells,(i,v)::rest=>
  match xB i with
  |none=>none
  |some (off,size)=>
   if v.cells.length=size then
    match BL cells off v.cells with
    |some pM=>rD xB pM rest
    |none=>none
   else none
def sG(P:Program):List Field->Option (List (Nat×Nat))
 | []=>some []
 |f::fs=>match ku P f.type with
  |some s=>match sG P fs with
   |some r=>some ((f.offset,s)::r)
   |none=>none
  |none=>none
def Jg(P:Program)(t:TypeId)(parts:List (Nat×V)):Option V:=
 match zeroOf P t,P.underlying t with
 |some z,some (.struct lN)=>
  match sG P lN.toList with
  |some uo=>(rD (fun i=>uo[i]?) z.cells parts).map .agg
  |none=>none
 |some z,some (.array _ Sq)=>
  match ku P Sq with
  |some s=>(rD (fun i=>some (i*s,s)) z.cells parts).map .agg
  |none=>none
 |_,_=>none
def gX(z:ag):Nat->ag
 |0=>[]
 |n+1=>z++gX z n
section
variable(P:Program)(t:TypeId)
def uq:Option TypeId:=
 match P.underlying t with
 |some (.slice e)=>some e
 |_=>none
def n8(len:Nat)(parts:List (Nat×V))(h:J h2)(n:Nat):Option cs:=
 match uq P t with
 |some e=>match ku P e,zeroOf P e with
  |some s,some z=>
   if 0<s/\len*s<=16777216/\z.cells.length=s then
    match rD (fun i=>some (i*s,s)) (gX z.cells len) parts with
    |some R=>match newObj h n (.cells R)with
     |some (h',n')=>some (.val (.eR (some (n,0)) len len s) h' n')
     |none=>none
    |none=>none
   else none
  |_,_=>none
 |none=>none
end
def sH:Sem Value->Option V
 | .pure v=>iN v
 |_=>none
def lO:aa->aa->Bool
 | [],[]=>true
 |a::x,b::y=>match Nat.beq a.toNat b.toNat with
  |true=>lO x y
  |false=>false
 |_,_=>false
def wu:Nat:=9223372036854775807
def N7:aa->aa->Bool
 |_,[]=>false
 | [],_::_=>true
 |a::x,b::y=>match Nat.blt a.toNat b.toNat with
  |true=>true
  |false=>match Nat.beq a.toNat b.toNat with
   |true=>N7 x y
   |false=>false
def N8(op:BinOp)(a b:aa):Option V:=
 match op with
 | .lss=>some (.bool (N7 a b))
 | .geq=>some (.bool (!N7 a b))
 | .leq=>some (.bool (N7 a b||lO a b))
 | .gtr=>some (.bool (!(N7 a b||lO a b)))
 | .add=>if a.length+b.length<=wu then some (.str (a++b))else none
 | .eql=>some (.bool (lO a b))
 | .neq=>some (.bool (!lO a b))
 |_=>none
def oa(P:Program)(t:TypeId)(R:ag)(off:Nat):Option V:=kP P t R off
def eqFields(P:Program)(eq:TypeId->V->V->Option Bool):List Field->ag->ag->Option Bool
 | [],_,_=>some true
 |f::fs,xs,ys=>
  if f.name ≠ "_" then
   match oa P f.type xs f.offset,oa P f.type ys f.offset with
   |some a,some b=>match eq f.type a b with
    |some true=>eqFields P eq fs xs ys
    |some false=>some false
    |none=>none
   |_,_=>none
  else eqFields P eq fs xs ys
def oc(P:Program)(eq:V->V->Option Bool)(e:TypeId)(c:Nat)(xs ys:ag):List Nat->Option Bool
 | []=>some true
 |i::is=>match oa P e xs (i*c),oa P e ys (i*c)with
  |some a,some b=>match eq a b with
   |some true=>oc P eq e c xs ys is
   |some false=>some false
   |none=>none
  |_,_=>none
def Ec(P:Program):Nat->TypeId->V->V->Option Bool
 |0,_,_,_=>none
 |d+1,t,x,y=>
  match P.underlying t with
  |some .bool=>match x,y with
   | .bool a,.bool b=>some (a==b)
   |_,_=>none
  |some (.int _)=>match x,y with
   | .int k a,.int k' b=>if k=k' then some (a==b)else none
   |_,_=>none
  |some .string=>match x,y with
   | .str a,.str b=>some (lO a b)
   |_,_=>none
  |some (.pointer el)=>match x,y with
   | .ptr none,.ptr b=>some b.isNone
   | .ptr (some _),.ptr none=>some false
   | .ptr (some (m,o)),.ptr (some (m',o'))=>if(m=m'/\o=o')/\(ku P el).isSome=true then some true else none
   | .ptr none,.dx _=>some false
   | .dx _,.ptr none=>some false
   |_,_=>none
  |some (.interface _)=>match x,y with
   | .nilIface,.nilIface=>some true
   | .nilIface,.iface _ _=>some false
   | .iface _ _,.nilIface=>some false
   |_,_=>none
  |some (.struct lN)=>match x,y with
   | .agg xs,.agg ys=>if P.stoodInHeld t then none else eqFields P (fun u a b=>Ec P d u a b) lN.toList xs ys
   |_,_=>none
  |some (.slice _)=>match x,y with
   | .eR none _ _ _,.eR b _ _ _=>some b.isNone
   | .eR (some _) _ _ _,.eR none _ _ _=>some false
   | .eB _ n _,.eR none _ _ _=>match n with
     |_+1=>some false
     |0=>none
   |_,_=>none
  |some (.map _ _)=>match x,y with
   | .map none,.map b=>some b.isNone
   | .map (some _),.map none=>some false
   |_,_=>none
  |some (.array n e)=>match x,y with
   | .agg xs,.agg ys=>match(P.info? e).isSome with
     |true=>oc P (Ec P d e) e (P.cellsOf e) xs ys (List.range n)
     |false=>none
   |_,_=>none
  |_=>none
def isLit:Operand->Bool
 | .const _=>true
 |_=>false
def DH(P:Program)(t:TypeId)(x y:Operand)(a b:V):Option Bool:=
 match a,b with
 | .nilIface,.nilIface=>if isLit x||isLit y then Ec P 10000 t a b else none
 | .agg _,.agg _=>if P.eqGuardType P.depth t then none else Ec P 10000 t a b
 |_,_=>Ec P 10000 t a b
def BN(P:Program)(op:BinOp)(t:TypeId)(x y:Operand)(a b:V):Option V:=
 match a,b with
 | .int k m,.int k' n=>sH (binOp op t (.int k m) (.int k' n))
 | .str s,.str u=>N8 op s u
 |a,b=>match op with
  | .eql=>(DH P t x y a b).map .bool
  | .neq=>(DH P t x y a b).map fun r=>.bool (!r)
  |_=>none
def unV(op:UnOp):V->Option V
 | .int k n=>sH (Op.unary op (.int k n))
 | .bool b=>sH (Op.unary op (.bool b))
 |_=>none
def BO(s:aa):ag:=s.map fun b=>.int .u8 b.toNat
def fV(s:aa):List Int:=s.map fun b=>(b.toNat:Int)
def iy(Y:List Int):aa:=Y.map fun n=>UInt8.ofNat n.toNat
def ur:Option h2->Option (aa)
 |some (.tJ _ _ s)=>some s
 |_=>none
def Ad:Option h2->Option (List Int)
 |some (.own .u8 Y)=>some Y
 |some (.ints .u8 Y)=>some Y
 |_=>none
def qy:ag->Option (aa)
 | []=>some []
 | .int .u8 n::vs=>match qy vs with
   |some bs=>some (UInt8.ofNat n.toNat::bs)
   |none=>none
 |_::_=>none
def gT(m:Int):aa:=(Utf8.encode m).data.toList
def oS(P:Program)(Le dst:TypeId)(v:V)(h:J h2)(n:Nat):Option cs:=
 match P.underlying Le,P.underlying dst,v with
 |some _,some (.int k),.int _ m=>some (.val (.int k (k.wrap m)) h n)
 |some _,some .string,.str s=>some (.val (.str s) h n)
 |some _,some .string,.int _ m=>some (.val (.str (gT m)) h n)
 |some .string,some (.slice e),.str s=>
  match P.underlying e with
  |some (.int .u8)=>match newObj h n (.own .u8 (fV s))with
   |some (h',n')=>some (.val (.eR (some (n,0)) s.length s.length 1) h' n')
   |none=>none
  |_=>none
 |some (.slice e),some .string,.eB _ 0 _=>
  match P.underlying e with
  |some (.int .u8)=>some (.val (.str []) h n)
  |_=>none
 |some (.slice e),some .string,.eR none _ _ _=>
  match P.underlying e with
  |some (.int .u8)=>some (.val (.str []) h n)
  |_=>none
 |some (.slice e),some .string,.eR (some (m,o)) len _ jv=>
  match P.underlying e with
  |some (.int .u8)=>if jv=1 then(match ur (h.get m)with
   |some s0=>if len=0\/o+len<=s0.length then some (.val (.str ((s0.drop o).take len)) h n)else none
   |none=>match Ad (h.get m)with
   |some Y=>if len=0\/o+len<=Y.length then some (.val (.str (iy ((Y.drop o).take len))) h n)else none
   |none=>match len with
   |0=>some (.val (.str []) h n)
   |_=>match h.get m with
    |some (.cells R)=>match cut R o len with
     |some bs=>match qy bs with
      |some s=>some (.val (.str s) h n)
      |none=>none
     |none=>none
    |_=>none)else none
  |_=>none
 |_,_,_=>none
def Sr(Y:List Int):Nat->List Int
 |0=>[]
 |n+1=>Y++Sr Y n
def E8(Y:ai):Nat->ai
 |0=>[]
 |n+1=>Y++E8 Y n
def vj(z:ag)(n:Nat):Row:=match z with
 | .int k x::r=>match pL k (.int k x::r)with
   |some Y=>.is k (Sr Y n)
   |none=>match iu (.int k x::r)with
    |some ds=>.ds (E8 ds n)
    |none=>.vs (gX (.int k x::r) n)
 |z=>match iu z with
  |some ds=>.ds (E8 ds n)
  |none=>.vs (gX z n)
section
variable(P:Program)(t:TypeId)
def nB(l c:V)(h:J h2)(n:Nat):Option cs:=
 match uq P t,l,c with
 |some e,.int _ l,.int _ c=>
  match P.info? e,zeroOf P e with
  |some i,some z=>
   let l':=IntKind.i64.wrap l
   let c':=IntKind.i64.wrap c
   if 0<i.size/\z.cells.length=i.size/\0<=l'/\l'<=c'/\i.bytes*c'<=281474976710656 then
    match newObj h n (vj z.cells c'.toNat).Eb with
    |some (h',n')=>some (.val (.eR (some (n,0)) l'.toNat c'.toNat i.size) h' n')
    |none=>none
   else none
  |_,_=>none
 |_,_,_=>none
def eV(AU:Nat)(y:Nat):Option V->Option Nat
 |none=>some AU
 |some (.int _ i)=>if 0<=i/\i<=y then some i.toNat else none
 |some _=>none
def xC(h:J h2)(m k:Nat):Bool:=
 match h.get m with
 |some (.cells R)=>decide (k<=R.length)
 |_=>false
def l8(hp:J h2)(x:V)(lo hi mx:Option V):Option V:=
 if mx.isSome=true/\hi.isSome=false then none else
 match P.underlying t,x with
 |some .string,.str s=>
  match mx with
  |some _=>none
  |none=>match eV s.length s.length hi with
   |some h=>match eV 0 h lo with
    |some l=>some (.str ((s.take h).drop l))
    |none=>none
   |none=>none
 |some (.slice e),.eR a len jO jv=>
  match ku P e with
  |some s=>if s=jv\/a=none then
    match eV jO jO mx with
    |some m=>match eV len m hi with
     |some h=>match eV 0 h lo with
      |some l=>some (.eR (match a with|none=>none|some (b,o)=>some (b,o+l*jv)) (h-l) (m-l) jv)
      |none=>none
     |none=>none
    |none=>none
   else none
  |none=>none
 |some (.slice e),.eB f len R=>
  match ku P e with
  |some s=>if R.length=len*s then
    match mx with
    |none=>match eV len len hi with
     |some h=>match eV 0 h lo with
      |some l=>some (.eB (f&& !hi.isSome) (h-l) ((R.drop (l*s)).take ((h-l)*s)))
      |none=>none
     |none=>none
    |some m=>match eV len len (some m)with
     |some m=>match eV len m hi with
      |some h=>match eV 0 h lo with
       |some l=>if h=m then some (.eB true (h-l) ((R.drop (l*s)).take ((h-l)*s)))else none
       |none=>none
      |none=>none
     |none=>none
   else none
  |none=>none
 |some (.array n e),.ptr (some (b,o))=>
  match ku P e with
  |some s=>
   match eV n n mx with
   |some m=>match eV n m hi with
    |some h=>match eV 0 h lo with
     |some l=>if 0<s/\0<n/\xC hp b (o+n*s)=true then some (.eR (some (b,o+l*s)) (h-l) (m-l) s)else none
     |none=>none
    |none=>none
   |none=>none
  |none=>none
 |_,_=>none
def wv(f:Nat):V->Option V
 | .ptr (some (m,o))=>match P.underlying t with
   |some (.struct fs)=>match fs[f]? with
    |some fd=>match ku P fd.type with
     |some (_+1)=>some (.ptr (some (m,o+fd.offset)))
     |_=>none
    |none=>none
   |_=>none
 | .dx R=>match P.underlying t with
   |some (.struct fs)=>match fs[f]? with
    |some fd=>match ku P fd.type with
     |some (_+1)=>some (.dx (R.drop fd.offset))
     |_=>none
    |none=>none
   |_=>none
 |_=>none
def Jh(f:Nat):V->Option V
 | .agg R=>match P.underlying t with
   |some (.struct fs)=>match fs[f]? with
    |some fd=>oa P fd.type R fd.offset
    |none=>none
   |_=>none
 |_=>none
def nC(x ix:V):Option V:=
 match ix with
 | .int _ i=>
   match P.underlying t,x with
   |some (.array len e),.ptr (some (m,o))=>
    match ku P e with
    |some s=>if 0<=i/\i<len then some (.ptr (some (m,o+i.toNat*s)))else none
    |none=>none
   |some (.slice e),.eR (some (m,o)) len _ jv=>
    match ku P e with
    |some s=>if 0<=i/\i<len/\s=jv then some (.ptr (some (m,o+i.toNat*s)))else none
    |none=>none
   |some (.slice e),.eB _ len R=>
    match ku P e with
    |some s=>if(0<=i/\i<len)/\R.length=len*s then some (.dx ((R.drop (i.toNat*s)).take s))else none
    |none=>none
   |some (.array len e),.dx R=>
    match ku P e with
    |some s=>if 0<=i/\i<len then some (.dx (R.drop (i.toNat*s)))else none
    |none=>none
   |_,_=>none
 |_=>none
def BP(x ix:V):Option V:=
 match ix with
 | .int _ i=>
   match P.underlying t,x with
   |some (.array len e),.agg R=>
    match ku P e with
    |some s=>if 0<=i/\i<len then oa P e R (i.toNat*s)else none
    |none=>none
   |some .string,.str s=>
    if 0<=i then(match s[i.toNat]? with
     |some b=>some (.int .u8 b.toNat)
     |none=>none)else none
   |_,_=>none
 |_=>none
end
def xD:TypeDesc->V->V->Option Bool
 | .int _,.int k a,.int k' b=>if k=k' then some (a==b)else none
 | .string,.str a,.str b=>some (lO a b)
 |_,_,_=>none
def gz:D->D->Bool
 | .int k a,.int k' b=>decide (k=k')&&decide (a=b)
 | .str a,.str b=>lO a b
 |_,_=>false
def gu:Option IntKind->D->Bool
 |some k,.int k' _=>decide (k'=k)
 |none,.str _=>true
 |_,_=>false
def kV:TypeDesc->Option IntKind->Bool
 | .int k,some k'=>decide (k=k')
 | .string,none=>true
 |_,_=>false
def eZ(k:D):ae->Option D
 | []=>none
 |e::T=>match gz k e.1 with
  |true=>some e.2
  |false=>eZ k T
def l9(k v:D):ae->ae
 | []=>[(k,v)]
 |e::T=>match gz k e.1 with
  |true=>(k,v)::T
  |false=>e::l9 k v T
def tZ(k:D):ae->ae
 | []=>[]
 |e::T=>match gz k e.1 with
  |true=>T
  |false=>e::tZ k T
def D.jX(z:V):Option D->V
 |some d=>d.jQ
 |none=>z
def keyOf:V->Option D
 | .int k n=>some (.int k n)
 | .str s=>some (.str s)
 |_=>none
def uv(kd:TypeDesc)(k:V):List (V×V×Nat)->Nat->Option (Option (Nat×V×V×Nat))
 | [],_=>some none
 |e::T,i=>
  match xD kd k e.1 with
  |some true=>some (some (i,e))
  |some false=>uv kd k T (i+1)
  |none=>none
def BQ:TypeDesc->V->Bool
 | .int _,.int _ _=>true
 | .string,.str _=>true
 |_,_=>false
def V.U1(h:J h2):V->Option h2
 | .map (some r)=>h.get r
 |_=>none
def vk(P:Program)(t:TypeId)(h:J h2)(x k:V)(ok:Bool):Option V:=
 match P.underlying t with
 |some (.map kt et)=>match P.underlying kt,zeroOf P et with
  |some kd,some z=>
   match x,x.U1 h with
   | .map (some _),some (.gl kk T)=>match keyOf k with
     |some k=>if kV kd kk&&gu kk k then some (if ok then .gw [D.jX z (eZ k T),.bool (eZ k T).isSome]else D.jX z (eZ k T))else none
     |none=>none
   |x,_=>
   if BQ kd k then
    match(match x with
     | .map none=>some []
     | .map (some r)=>(match h.get r with
       |some (.map T _)=>some T
       |_=>none)
     |_=>none:Option (List (V×V×Nat)))with
    |some T=>match uv kd k T 0 with
     |some (some (_,_,v,_))=>some (if ok then .gw [v,.bool true]else v)
     |some none=>some (if ok then .gw [z,.bool false]else z)
     |none=>none
    |none=>none
   else none
  |_,_=>none
 |_=>none
def iB{α:Type}:List α->Nat->(α->α)->List α
 | [],_,_=>[]
 |x::xs,0,f=>f x::xs
 |x::xs,i+1,f=>x::iB xs i f
section
variable(P:Program)(t:TypeId)(h:J h2)(n:Nat)(m k:V)
def sI(v:V):Option cs:=
 match P.underlying t,m with
 |some (.map kt _),.map (some r)=>match P.underlying kt,h.get r with
  |some kd,some (.map T eS)=>
   if BQ kd k/\r<fZ then
    match uv kd k T 0 with
    |some (some (i,_))=>some (.val (.gw []) (h.set r (some (.map (iB T i fun e=>(k,v,e.2.2)) eS))) n)
    |some none=>some (.val (.gw []) (h.set r (some (.map (T++[(k,v,eS)]) (eS+1)))) n)
    |none=>none
   else none
  |some kd,some (.gl kk T)=>match keyOf k,V.Jf v with
   |some k,some v=>if kV kd kk&&(gu kk k&&decide (r<fZ))then some (.val (.gw []) (h.set r (some (.gl kk (l9 k v T)))) n)else none
   |_,_=>none
  |_,_=>none
 |_,_=>none
def E9(P:Program)(eA:Array TypeId)(args:ag)(h:J h2)(n:Nat):Option cs:=
 match eA[0]?,args with
 |some t,[.map (some r),k]=>match P.underlying t with
  |some (.map kt _)=>match P.underlying kt,h.get r,keyOf k with
   |some kd,some (.gl kk T),some k=>if kV kd kk&&(gu kk k&&decide (r<fZ))then some (.val (.gw []) (h.set r (some (.gl kk (tZ k T)))) n)else none
   |_,_,_=>none
  |_=>none
 |_,_=>none
def vm:Option cs:=
 match P.underlying t,m with
 |some (.map kt et),.map (some r)=>match P.underlying kt,h.get r,zeroOf P et with
  |some kd,some (.map T eS),some z=>
   if BQ kd k/\r<fZ then
    match uv kd k T 0 with
    |some (some (i,e))=>some (.val (.gw [e.2.1,.int .i64 e.2.2]) (h.set r (some (.map (iB T i fun e=>(k,e.2.1,e.2.2)) eS))) n)
    |some none=>some (.val (.gw [z,.int .i64 eS]) (h.set r (some (.map (T++[(k,z,eS)]) (eS+1)))) n)
    |none=>none
   else none
  |some kd,some (.oJ kk T),some z=>match keyOf k,V.Jf z with
   |some k,some z0=>match eZ k T with
    |none=>if kV kd kk&&(gu kk k&&decide (r<fZ))then some (.val (.gw [z,.int .i64 T.length]) (h.set r (some (.oJ kk (T++[(k,z0)])))) n)else none
    |some _=>none
   |_,_=>none
  |_,_,_=>none
 |_,_=>none
end
def yX(b:Int):List (V×V×Nat)->Nat->Option Nat
 | [],_=>none
 |e::T,i=>if(e.2.2:Int)==b then some i else yX b T (i+1)
def qz(h:J h2)(n:Nat)(m aaK v:V):Option cs:=
 match m,aaK with
 | .map (some r),.int _ b=>match h.get r with
   |some (.map T eS)=>
    if r<fZ then
     match yX b T 0 with
     |some i=>some (.val (.gw []) (h.set r (some (.map (iB T i fun e=>(e.1,v,e.2.2)) eS))) n)
     |none=>none
    else none
   |some (.oJ kk T)=>match V.Jf v with
    |some v=>if r<fZ/\0<=b/\b<T.length then some (.val (.gw []) (h.set r (some (.oJ kk (iB T b.toNat fun e=>(e.1,v))))) n)else none
    |none=>none
   |_=>none
 |_,_=>none
def uw(P:Program)(x:V)(xE:TypeId)(ok:Bool):Option V:=
 match P.underlying xE,x with
 |some (.interface _),_=>none
 |some _,.nilIface=>if ok then(match zeroOf P xE with|some z=>some (.gw [z,.bool false])|none=>none)else none
 |some _,.iface t v=>if t=xE then some (if ok then .gw [v,.bool true]else v)
  else if ok then(match zeroOf P xE with|some z=>some (.gw [z,.bool false])|none=>none)else none
 |_,_=>none
def jz(h:J h2)(size:Nat):V->Option (Nat×Row)
 | .eR none len _ _=>if len=0 then some (0,.vs [])else none
 | .eR (some (m,o)) len _ jv=>if jv=size then(match len with
   |0=>some (0,.vs [])
   |_=>match h.get m with
    |some ob=>match ob.Mn with
     |some r=>match r.cut o (len*size)with
      |some r=>some (len,r)
      |none=>none
     |none=>none
    |none=>none)else none
 | .str s=>if size=1 then some (s.length,.is .u8 (fV s))else none
 | .eB _ len R=>if R.length=len*size then some (len,.ds R)else none
 |_=>none
def ux:ag->Option (aa)
 | []=>some []
 | .int .u8 x::r=>match ux r with
   |some l=>some (UInt8.ofNat x.toNat::l)
   |none=>none
 |_::_=>none
def uy:Row->Option (aa)
 | .is .u8 Y=>some (iy Y)
 | .vs R=>ux R
 |_=>none
def BR(e:TypeId)(x:V)(new:Row):h2:=match x with
 | .str t=>.tJ e false t
 |_=>new.Eb
def fo(Mo size bytes:Nat):Bool:=decide (Mo*bytes<=281474976710/\Mo*size<=281474976710)
def Ji:TypeDesc->Bool
 | .slice _=>true
 | .string=>true
 |_=>false
section
variable(P:Program)(eA:Array TypeId)(args:ag)(h:J h2)
def xF(n:Nat):Option cs:=
 match eA[0]?,eA[1]?,args with
 |some st,some xt,[s,x]=>
  match uq P st,P.underlying xt with
  |some e,some xd=>
   match Ji xd,P.info? e,zeroOf P e with
   |true,some i,some z=>
    if 0<i.size/\0<i.bytes/\z.cells.length=i.size then
     match jz h i.size x with
     |some (k,new)=>
      if new.flat=true then
      match s with
      | .eR none 0 _ _=>
        match k with
        |0=>some (.val (.eR none 0 0 0) h n)
        |_=>if fo k i.size i.bytes then(match newObj h n (BR e x new)with
         |some (h',n')=>some (.val (.eR (some (n,0)) k k i.size) h' n')
         |none=>none)else none
      | .eB true len R=>
        match k with
        |0=>some (.val (.eB true len R) h n)
        |_=>if fo (len+k) i.size i.bytes/\R.length=len*i.size then(match newObj h n ((Row.ds R).app new).Eb with
         |some (h',n')=>some (.val (.eR (some (n,0)) (len+k) (len+k) i.size) h' n')
         |none=>none)else none
      | .eR (some (m,o)) len jO jv=>
        if jv=i.size/\fo (len+k) i.size i.bytes/\m<fZ then
         match h.get m with
         |some (.tJ el Ac s0)=>match uy new with
          |some t=>if(o=0/\0<jO)/\(len<=s0.length/\(Ac=true->len=s0.length))/\(i.size=1/\el=e)then(match newObj (h.set m none) n (.tJ el Ac (s0.take len++t))with
           |some (h',n')=>some (.val (.eR (some (n,0)) (len+k) (len+k) jv) h' n')
           |none=>none)else none
          |none=>none
         |some ob=>match ob.row with
          |some r=>
           match(if r.soft=false/\len=0 then some (.vs [])else r.cut o (len*i.size):Option Row)with
           |some old=>
            if new.soft=false/\k=0 then some (.val s h n)
            else match newObj (h.set m none) n (old.app new).Eb with
             |some (h',n')=>some (.val (.eR (some (n,0)) (len+k) (len+k) jv) h' n')
             |none=>none
           |none=>none
          |none=>none
         |_=>none
        else none
      |_=>none
      else none
     |none=>none
    else none
   |_,_,_=>none
  |_,_=>none
 |_,_,_=>none
def Mp:Option V:=
 match eA[0]?,args with
 |some t,[x]=>match P.underlying t,x with
  |some .string,.str s=>some (.int .i64 s.length)
  |some (.array n _),_=>some (.int .i64 n)
  |some (.slice _),.eR _ len _ _=>some (.int .i64 len)
  |some (.slice _),.eB _ len _=>some (.int .i64 len)
  |some (.map _ _),.map none=>some (.int .i64 0)
  |some (.map _ _),.map (some r)=>match h.get r with
   |some (.map T _)=>some (.int .i64 T.length)
   |some (.gl _ T)=>some (.int .i64 T.length)
   |_=>none
  |_,_=>none
 |_,_=>none
def BS(t:TypeId)(x:V)(h:J h2)(n:Nat):Option cs:=
 match P.underlying t,x with
 |some .string,.str s=>match newObj h n (.nv s 0)with
  |some (h',n')=>some (.val (.ptr (some (n,0))) h' n')
  |none=>none
 |_,_=>none
end
def N9(x:V)(Oa:Bool)(h:J h2)(n:Nat):Option cs:=
 match x,Oa with
 | .ptr (some (m,0)),true=>match h.get m with
   |some (.nv s pos)=>
    if pos<s.length then
     let cw:=Utf8.decode ⟨s.toArray⟩ pos
     if m<fZ then some (.val (.gw [.bool true,.int .i64 pos,.int .i32 cw.1]) (h.set m (some (.nv s (pos+cw.2)))) n)else none
    else some (.val (.gw [.bool false]) h n)
   |_=>none
 |_,_=>none
def GW:V->ag->Option V
 |x,[]=>some x
 | .int k a,.int _ b::vs=>GW (.int k (if b>a then b else a)) vs
 |_,_=>none
def GX:V->ag->Option V
 |x,[]=>some x
 | .int k a,.int _ b::vs=>GX (.int k (if b<a then b else a)) vs
 |_,_=>none
def Oc:List (Nat×Nat)->Nat->Option V
 | [],_=>none
 |p::r,g=>match Nat.beq p.1 g with
  |true=>some (.ptr (some (p.2,0)))
  |false=>Oc r g
def iP(N:J V):Operand->Option V
 | .tmp t=>N.get t
 | .const v=>Ld v
 | .func f=>some (.fn (.func f) [] [])
 | .global g=>Oc tX g
def uz(N:J V):List Operand->Option (ag)
 | []=>some []
 |x::xs=>match iP N x with
  |some v=>match uz N xs with
   |some vs=>some (v::vs)
   |none=>none
  |none=>none
def mb(N:J V):Option Operand->Option (Option V)
 |none=>some none
 |some x=>match iP N x with
  |some v=>some (some v)
  |none=>none
def pN(N:J V):List (Nat×Operand)->Option (List (Nat×V))
 | []=>some []
 |(i,x)::xs=>match iP N x with
  |some v=>match pN N xs with
   |some vs=>some ((i,v)::vs)
   |none=>none
  |none=>none
section
variable(P:Program)(N:J V)(c:Call)(h:J h2)(n:Nat)
def callee(f:FuncId):Bool:=
 match P.funcs[f]? with
 |some fn=>fn.body.isSome&&fn.name != "runtime.NumGoroutine"
 |none=>false
def kW(b:Builtin)(eA:Array TypeId)(args:ag)(h:J h2)(n:Nat):Option cs:=
 match b with
 | .append=>if eA.size=2 then xF P eA args h n else none
 | .len=>kF h n (Mp P eA args h)
 | .max=>match args with
   |x::xs=>kF h n (GW x xs)
   | []=>none
 | .min=>match args with
   |x::xs=>kF h n (GX x xs)
   | []=>none
 | .panic=>match args with
   | [.iface t v]=>some (.panic (.iface t v))
   |_=>none
 | .recover=>some .recover
 | .unsafeSliceData=>match args with
   | [.eR (some (m,o)) _ jO _]=>if 0<jO then some (.val (.ptr (some (m,o))) h n)else none
   | [.eR none _ _ _]=>some (.val (.ptr none) h n)
   |_=>none
 | .unsafeString=>match eA[0]?,args with
   |some pt,[.ptr (some (m,0)),.int .i64 l]=>match P.underlying pt,h.get m with
    |some (.pointer e),some (.tJ el _ s)=>if(l=s.length/\0<s.length)/\(el=e/\P.cellsOf e=1)/\(m<fZ/\eA.size=2/\s.length<=wu)then some (.val (.str s) (h.set m (some (.tJ el true s))) n)else none
    |_,_=>none
   |some _,[.ptr none,.int .i64 l]=>if l=0/\eA.size=2 then some (.val (.str []) h n)else none
   |_,_=>none
 | .delete=>if eA.size=2 then E9 P eA args h n else none
 |_=>none
def vV:Option cs:=
 match uz N c.args.toList with
 |some args=>match c.callee with
  | .builtin b=>kW P b c.argTypes args h n
  | .invoke _ _=>none
  | .value f=>match iP N f with
    |some (.fn (.func g) first captured)=>if callee P g then some (.call g (first++args++captured))else none
    |some (.fn (.yield m) [] [])=>match h.get m with
     |some (.loop _ _ _ ps _ _)=>if ps.length=args.length then some (.call (P.funcs.size+m) args)else none
     |_=>none
    |_=>none
 |none=>none
def BT:Option cs:=
 match uz N c.args.toList with
 |some args=>match c.callee with
  | .value f=>match iP N f with
    |some (.fn (.func g) first captured)=>some (.tY g captured (first++args))
    |_=>none
  |_=>none
 |none=>none
end
def vn:Fn->Bool
 | .yield _=>false
 |_=>true
def dS(P:Program)(o:Oper)(N:J V)(h:J h2)(n:Nat):Option cs:=
 match o.op with
 | .move x=>kF h n (iP N x)
 | .assign x=>kF h n (iP N x)
 | .pick c a b=>match iP N c with
   |some (.bool true)=>kF h n (iP N a)
   |some (.bool false)=>kF h n (iP N b)
   |_=>none
 | .alloc e=>match zeroOf P e with
   |some z=>match newObj h n (BM P e z)with
    |some (h',n')=>some (.val (.ptr (some (n,0))) h' n')
    |none=>none
   |none=>none
 | .box _ x=>match iP N x with
   |some v=>match newObj h n (.cells v.cells)with
    |some (h',n')=>some (.val (.ptr (some (n,0))) h' n')
    |none=>none
   |none=>none
 | .build t parts=>match pN N parts.toList with
   |some ps=>kF h n (Jg P t ps)
   |none=>none
 | .buildSlice t len parts=>match pN N parts.toList with
   |some ps=>n8 P t len ps h n
   |none=>none
 | .load t a=>match iP N a with
   |some v=>kF h n (loadAt P t h v)
   |none=>none
 | .store t a x=>match iP N a,iP N x with
   |some av,some xv=>match storeAt P t h xv av with
    |some h'=>some (.val (.gw []) h' n)
    |none=>none
   |_,_=>none
 | .nilCheck x=>match iP N x with
   |some (.ptr (some p))=>some (.val (.ptr (some p)) h n)
   |some (.dx R)=>some (.val (.dx R) h n)
   |some (.fn (.func f) a c)=>some (.val (.fn (.func f) a c) h n)
   |some (.iface t v)=>some (.val (.iface t v) h n)
   |_=>none
 | .binOp op t x y _=>match iP N x,iP N y with
   |some a,some b=>kF h n (BN P op t x y a b)
   |_,_=>none
 | .unOp op _ x=>match iP N x with
   |some v=>kF h n (unV op v)
   |none=>none
 | .convert Le dst x=>match iP N x with
   |some v=>oS P Le dst v h n
   |none=>none
 | .makeInterface t x=>match iP N x,P.underlying t with
   |some v,some d=>match d with
    | .interface _=>none
    |_=>some (.val (.iface t v) h n)
   |_,_=>none
 | .makeFunc f first captured=>match uz N first.toList,uz N captured.toList with
   |some a,some c=>if vn f=true then some (.val (.fn f a c) h n)else none
   |_,_=>none
 | .makeMap _ none=>match newObj h n (.map [] 0)with
   |some (h',n')=>some (.val (.map (some n)) h' n')
   |none=>none
 | .makeSlice t l c=>match iP N l,iP N c with
   |some l,some c=>nB P t l c h n
   |_,_=>none
 | .slice t x lo hi mx=>match iP N x,mb N lo,mb N hi,mb N mx with
   |some v,some lo,some hi,some mx=>kF h n (l8 P t h v lo hi mx)
   |_,_,_,_=>none
 | .fieldAddr t x f=>match iP N x with
   |some v=>kF h n (wv P t f v)
   |none=>none
 | .field t x f=>match iP N x with
   |some v=>kF h n (Jh P t f v)
   |none=>none
 | .indexAddr t x i=>match iP N x,iP N i with
   |some v,some i=>kF h n (nC P t v i)
   |_,_=>none
 | .index t x i=>match iP N x,iP N i with
   |some v,some i=>kF h n (BP P t v i)
   |_,_=>none
 | .lookup t x k ok=>match iP N x,iP N k with
   |some x,some k=>kF h n (vk P t h x k ok)
   |_,_=>none
 | .mapUpdate t m k v=>match iP N m,iP N k,iP N v with
   |some m,some k,some v=>sI P t h n m k v
   |_,_,_=>none
 | .insert t m k v=>match iP N m,iP N k,iP N v with
   |some m,some k,some v=>sI P t h n m k v
   |_,_,_=>none
 | .mapEntry t m k=>match iP N m,iP N k with
   |some m,some k=>vm P t h n m k
   |_,_=>none
 | .entryStore _ m s v=>match iP N m,iP N s,iP N v with
   |some m,some s,some v=>qz h n m s v
   |_,_,_=>none
 | .typeAssert x _ t ok=>match iP N x with
   |some v=>kF h n (uw P v t ok)
   |none=>none
 | .extract x i=>match iP N x with
   |some (.gw vs)=>kF h n (vs[i]?)
   |_=>none
 | .range t x=>match iP N x with
   |some v=>BS P t v h n
   |none=>none
 | .next it b=>match iP N it with
   |some v=>N9 v b h n
   |none=>none
 | .panic x=>match iP N x with
   |some (.iface t v)=>some (.panic (.iface t v))
   |_=>none
 | .call c=>vV P N c h n
 | .defer c=>BT N c
 |_=>none
structure St where
 N:J V
 h:J h2
 n:Nat
 ij:List (FuncId×ag×ag)
 deriving Inhabited
inductive s' where
 |normal
 |exit (id:Nat)
 |ret
 |panic (v:V)
inductive pO where
 |ret (v:V)
 |nr (v:V)
abbrev fO:=FuncId->ag->J h2->Nat->Option (pO×J h2×Nat)
def jw(N:J V)(dst:Option Nat)(v:V):Option (J V):=
 match dst with
 |none=>some N
 |some d=>if d<fZ then some (N.set d (some v))else none
def fT(ops:Array Oper)(o:Oper)(N:J V):Option Bool:=
 match o.guard with
 |none=>some true
 |some (j,Fa)=>match ops[j]? with
  |some q=>match q.dst with
   |some d=>match N.get d with
    |some (.bool b)=>some (b==Fa)
    |some (.gw [])=>some false
    |_=>none
   |none=>none
  |none=>none
def mL{α:Type}(_:Nat):Option α:=none
def mM{α:Type}(_:Oper):Option α:=none
def Bi:Op->Bool
 | .defer _=>false
 |_=>true
def jk(P:Program)(cf:fO)(ops:Array Oper):List Oper->St->Option (s'×St)
 | [],s=>some (.normal,s)
 |o::rest,s=>
  match fT ops o s.N with
  |some false=>match jw s.N o.dst (.gw [])with
   |some N=>jk P cf ops rest { s with N:=N }
   |none=>none
  |some true=>match dS P o s.N s.h s.n with
   |some (.val v h n)=>match jw s.N o.dst v with
    |some N=>jk P cf ops rest { s with N:=N,h:=h,n:=n }
    |none=>none
   |some (.call f args)=>match cf f args s.h s.n with
    |some (.ret v,h,n)=>match jw s.N o.dst v with
     |some N=>jk P cf ops rest { s with N:=N,h:=h,n:=n }
     |none=>none
    |some (.nr v,h,n)=>some (.panic v,{ s with h:=h,n:=n })
    |none=>none
   |some (.tY f c args)=>if f<fZ/\Bi o.op=false then(match jw s.N o.dst (.gw [])with
    |some N=>jk P cf ops rest { s with N:=N,ij:=(f,c,args)::s.ij }
    |none=>none)else mM o
   |some (.panic v)=>some (.panic v,s)
   |some .recover=>none
   |none=>mM o
  |none=>mM o
def qA:Option (Nat×Nat)->Option (Nat×Nat)->Bool
 |none,none=>true
 |some (a,b),some (c,d)=>Nat.beq a c&&Nat.beq b d
 |_,_=>false
def Fb :Option Nat->Option Nat->Bool
 |none,none=>true
 |some a,some b=>Nat.beq a b
 |_,_=>false
def Od:Fn->Fn->Bool
 | .func a,.func b=>Nat.beq a b
 | .yield a,.yield b=>Nat.beq a b
 |_,_=>false
mutual
def D.beq:D->D->Bool
 | .bool a,.bool b=>a==b
 | .int k a,.int j b=>decide (k=j)&&decide (a=b)
 | .str a,.str b=>lO a b
 | .eB n a,.eB m b=>Nat.beq n m&&D.o5 a b
 | .agg a,.agg b=>D.o5 a b
 |_,_=>false
def D.o5:ai->ai->Bool
 | [],[]=>true
 |a::x,b::y=>D.beq a b&&D.o5 x y
 |_,_=>false
end
mutual
def V.beq:V->V->Bool
 | .bool a,.bool b=>a==b
 | .int k a,.int j b=>decide (k=j)&&decide (a=b)
 | .str a,.str b=>lO a b
 | .ptr a,.ptr b=>qA a b
 | .eR a l c e,.eR a' l' c' e'=>qA a a'&&Nat.beq l l'&&Nat.beq c c'&&Nat.beq e e'
 | .map a,.map b=>Fb a b
 | .fn f a c,.fn g b d=>Od f g&&V.o5 a b&&V.o5 c d
 | .kG,.kG=>true
 | .iface t x,.iface u y=>Nat.beq t u&&V.beq x y
 | .nilIface,.nilIface=>true
 | .agg a,.agg b=>V.o5 a b
 | .gw a,.gw b=>V.o5 a b
 | .eB f n a,.eB g m b=>f==g&&(Nat.beq n m&&D.o5 a b)
 | .dx a,.dx b=>D.o5 a b
 |_,_=>false
def V.o5:ag->ag->Bool
 | [],[]=>true
 |a::x,b::y=>V.beq a b&&V.o5 x y
 |_,_=>false
end
def pP:Op->Bool
 | .store .. | .mapUpdate .. | .insert .. | .mapEntry .. | .entryStore .. | .next .. | .defer _ | .panic _=>true
 | .call { callee:=.builtin b,.. }=>match b with
   | .len | .max | .min=>false
   |_=>true
 | .call _=>true
 |_=>false
def oK:Op->Bool
 | .move _ | .assign _ | .pick .. | .build .. | .nilCheck _ | .binOp .. | .unOp .. | .makeInterface .. | .makeFunc .. | .fieldAddr .. | .field ..
 | .indexAddr .. | .index .. | .typeAssert .. | .extract ..=>true
 |_=>false
structure Dr where
 N:J V
 eC:List Nat
 cur:Nat×J h2
 od:List (Nat×Nat×J h2)
 last:Option Nat
 dA:af
 reads:List (Nat×Nat×Oper×J V×V)
 n:Nat
def ew(m i:Nat):Bool:=Nat.testBit m i
def gC(F:Nat):af->Nat->J h2->Nat->J h2
 | [],_,x,_=>x
 |(i,o)::r,m,x,ik=>if ew ik i&& !ew m i then(gC F r m x ik).set (F+i) (some o)else gC F r m x ik
def ff(eC:List Nat):List Edge->Nat
 | []=>0
 |e::T=>if Region.binds .any e then ff eC T|||(2^e.on|||eC.getD e.on 0)else ff eC T
def mq(P:Program)(F i:Nat)(o:Oper)(N:J V)(v:V)(x:J h2):Bool:=
 match dS P o N x (F+i)with
 |some (.val u _ k)=>Nat.beq k (F+i)&&V.beq u v
 |_=>false
def pQ(P:Program)(F i:Nat)(o:Oper)(N:J V)(v:V)(dA:af)(ik:Nat):List (Nat×Nat×J h2)->Bool
 | []=>true
 |(e,m,x)::r=>if ew ik e then true else mq P F i o N v (gC F dA m x ik)&&pQ P F i o N v dA ik r
def o6(P:Program)(F:Nat)(dA:af)(m:Nat)(x:J h2):List (Nat×Nat×Oper×J V×V)->Bool
 | []=>true
 |(j,ik,o,N,v)::r=>(ew m j||mq P F j o N v (gC F dA m x ik))&&o6 P F dA m x r
def yY(ik:Nat):Option Nat->Bool
 |none=>true
 |some e=>ew ik e
def kH(P:Program)(F i ik:Nat)(o:Oper)(s:Dr)(v:V)(h:J h2)(n:Nat):Option Dr:=
 match jw s.N o.dst v with
 |some N=>
  if o6 P F s.dA ik h s.reads then
   some { N:=N,eC:=s.eC++[ik],cur:=(ik,h),od:=(i,s.cur.1,s.cur.2)::s.od,last:=some i,dA:=s.dA,reads:=s.reads,n:=n }
  else none
 |none=>none
def lP(P:Program)(cf:fO)(ops:Array Oper)(F i:Nat)(o:Oper)(s:Dr):Option (Dr ⊕ (J V×V×J h2×Nat)):=
 let ik:=ff s.eC o.after.toList
 match fT ops o s.N with
 |some false=>match jw s.N o.dst (.gw [])with
  |some N=>some (.inl { s with N:=N,eC:=s.eC++[ik] })
  |none=>mM o
 |some true=>
  if pP o.op then
   if yY ik s.last then
    match dS P o s.N (gC F s.dA s.cur.1 s.cur.2 ik) s.n with
    |some (.val v h n)=>match kH P F i ik o s v h n with
     |some X=>some (.inl X)
     |none=>mM o
    |some (.call f args)=>match cf f args (gC F s.dA s.cur.1 s.cur.2 ik) s.n with
     |some (.ret v,h,n)=>match kH P F i ik o s v h n with
      |some X=>some (.inl X)
      |none=>mM o
     |some (.nr v,h,n)=>if Nat.beq (ik+1) (2^i)&&Nat.beq (i+1) ops.size then some (.inr (s.N,v,h,n))else mM o
     |none=>none
    |_=>mM o
   else mM o
  else
   let x:=gC F s.dA s.cur.1 s.cur.2 ik
   match dS P o s.N x (F+i)with
   |some (.val v h k)=>match jw s.N o.dst v with
    |some N=>
     if Nat.beq k (F+i)then
      if oK o.op then some (.inl { s with N:=N,eC:=s.eC++[ik] })
      else if pQ P F i o s.N v s.dA ik s.od then
       some (.inl { s with N:=N,eC:=s.eC++[ik],reads:=(i,ik,o,s.N,v)::s.reads })
      else mM o
     else match h.get (F+i)with
      |some b=>if b.wr=true then some (.inl { s with N:=N,eC:=s.eC++[ik],dA:=(i,b)::s.dA })else mM o
      |none=>mM o
    |none=>mM o
   |_=>mM o
 |none=>mM o
def iJ(P:Program)(cf:fO)(ops:Array Oper)(F:Nat):List Oper->Nat->Dr->Option (Dr ⊕ (J V×V×J h2×Nat))
 | [],_,s=>some (.inl s)
 |o::r,i,s=>match lP P cf ops F i o s with
  |some (.inl X)=>iJ P cf ops F r (i+1) X
  |x=>x
def drawn(P:Program)(cf:fO)(ops:Array Oper)(s:St):Option (s'×St):=
 if s.n+ops.size<fZ then
  match iJ P cf ops s.n ops.toList 0 { N:=s.N,eC:=[],cur:=(0,s.h),od:=[],last:=none,dA:=[],reads:=[],n:=s.n+ops.size }with
  |some (.inl d)=>some (.normal,{ N:=d.N,h:=gC s.n d.dA d.cur.1 d.cur.2 (2^ops.size-1),n:=d.n,ij:=s.ij })
  |some (.inr (N,v,h,n))=>some (.panic v,{ s with N:=N,h:=h,n:=n })
  |none=>none
 else none
def rounds(f:St->Option (s'×St)):Nat->St->Option (s'×St)
 |0,_=>mL 1
 |k+1,s=>match f s with
  |some (.normal,X)=>rounds f k X
  |r=>r
def gD(P:Program)(cf:fO)(n0:Nat):Code->St->Option (s'×St)
 | .skip,s=>some (.normal,s)
 | .region _ ops false,s=>jk P cf ops ops.toList s
 | .region _ ops true,s=>drawn P cf ops s
 | .seq a b,s=>match gD P cf n0 a s with
   |some (.normal,X)=>gD P cf n0 b X
   |r=>r
 | .cond c a b,s=>match iP s.N c with
   |some (.bool true)=>gD P cf n0 a s
   |some (.bool false)=>gD P cf n0 b s
   |_=>mL 2
 | .block id body,s=>match gD P cf n0 body s with
   |some (.exit Z1,X)=>if Z1=id then some (.normal,X)else some (.exit Z1,X)
   |r=>r
 | .loop body,s=>rounds (gD P cf n0 body) n0 s
 | .exit id,s=>some (.exit id,s)
 | .ret,s=>some (.ret,s)
 | .rangeFunc g ps assign body,s=>match iP s.N g with
   |some (.fn (.func gf) [] lb)=>
    if callee P gf=true/\s.n+1<fZ then
     match cf gf (.fn (.yield (s.n+1)) [] []::lb) ((s.h.set s.n (some .tY)).set (s.n+1) (some (.loop true none s.N ps.toList assign body))) (s.n+2)with
     |some (.ret _,h,n)=>match h.get s.n,h.get (s.n+1)with
      |some .tY,some (.loop true none _ _ _ _)=>some (.normal,{ s with h:=h.set (s.n+1) none,n:=n,ij:=(fZ,[],[.map (some s.n)])::s.ij })
      |some .tY,some (.loop false (some .ret) _ _ _ _)=>some (.ret,{ s with h:=h.set (s.n+1) none,n:=n,ij:=(fZ,[],[.map (some s.n)])::s.ij })
      |some .tY,some (.loop false (some (.exit id)) _ _ _ _)=>some (.exit id,{ s with h:=h.set (s.n+1) none,n:=n,ij:=(fZ,[],[.map (some s.n)])::s.ij })
      |_,_=>mL 31
     |_=>mL 32
    else mL 33
   |_=>mL 34
 |_,_=>mL 3
def lB:ag->Nat->J V->J V
 | [],_,t=>t
 |v::vs,i,t=>lB vs (i+1) (t.set i (some v))
def Fc(P:Program)(N:J V)(h:J h2):ResultVar->Option V
 | .tmp t=>N.get t
 | .cell a t=>match N.get a with
   |some v=>loadAt P t h v
   |none=>none
def kX(P:Program)(N:J V)(h:J h2):List ResultVar->Option (ag)
 | []=>some []
 |r::rs=>match Fc P N h r with
  |some v=>match kX P N h rs with
   |some vs=>some (v::vs)
   |none=>none
  |none=>none
def oneOf:ag->V
 | [v]=>v
 |vs=>.gw vs
inductive Mode where
 |ret
 |nr (v:V) (rec:Bool)
def qB(P:Program)(cf:fO)(ops:Array Oper):List Oper->St->Mode->Option (s'×St×Mode)
 | [],s,m=>some (.normal,s,m)
 |o::rest,s,m=>
  match fT ops o s.N with
  |some false=>match jw s.N o.dst (.gw [])with
   |some N=>qB P cf ops rest { s with N:=N } m
   |none=>none
  |some true=>match dS P o s.N s.h s.n with
   |some (.val v h n)=>match jw s.N o.dst v with
    |some N=>qB P cf ops rest { s with N:=N,h:=h,n:=n } m
    |none=>none
   |some .recover=>match m with
    | .nr v false=>match jw s.N o.dst v with
      |some N=>qB P cf ops rest { s with N:=N } (.nr v true)
      |none=>none
    |m=>match jw s.N o.dst .nilIface with
     |some N=>qB P cf ops rest { s with N:=N } m
     |none=>none
   |_=>mM o
  |none=>mM o
def tK(P:Program)(cf:fO)(n0:Nat):Code->St->Mode->Option (s'×St×Mode)
 | .region _ ops false,s,m=>qB P cf ops ops.toList s m
 | .seq a b,s,m=>match tK P cf n0 a s m with
   |some (.normal,X,m')=>tK P cf n0 b X m'
   |r=>r
 | .cond c a b,s,m=>match iP s.N c with
   |some (.bool true)=>tK P cf n0 a s m
   |some (.bool false)=>tK P cf n0 b s m
   |_=>mL 5
 |c,s,m=>match gD P cf n0 c s with
  |some (x,X)=>some (x,X,m)
  |none=>none
def mN(P:Program)(cf:fO)(n0:Nat)(fn:Func)(N:J V):List (FuncId×ag×ag)->Mode->J h2->Nat->Option (pO×J h2×Nat)
 | [],.ret,h,n=>match kX P N h fn.results.toList with
   |some vs=>some (.ret (oneOf vs),h,n)
   |none=>mL 11
 | [],.nr v false,h,n=>some (.nr v,h,n)
 | [],.nr _ true,_,_=>mL 12
 |(g,c,args)::ds,m,h,n=>
  if fZ<=g then(match args with
   | [.map (some b)]=>(match h.get b with
     |some .tY=>if b<fZ then mN P cf n0 fn N ds m (h.set b none) n else mL 41
     |_=>mL 42)
   |_=>mL 43)else
  match P.funcs[g]? with
  |some gn=>match gn.body with
   |some code=>
    if callee P g=true/\(args++c).length<=gn.ntmps/\gn.ntmps<fZ then
     match tK P cf n0 code { N:=lB (args++c) 0 .nil,h:=h,n:=n,ij:=[] } m with
     |some (.normal,X,m')=>
      (match X.ij with
      | []=>match kX P X.N X.h gn.results.toList with
        |some _=>mN P cf n0 fn N ds (match m' with | .nr _ true=>.ret|m=>m) X.h X.n
        |none=>mL 13
      |_=>mL 14)
     |some (.ret,X,m')=>
      (match X.ij with
      | []=>match kX P X.N X.h gn.results.toList with
        |some _=>mN P cf n0 fn N ds (match m' with | .nr _ true=>.ret|m=>m) X.h X.n
        |none=>mL 15
      |_=>mL 16)
     |_=>mL 17
    else none
   |none=>mL 18
  |none=>mL 19
def enter(P:Program)(cf:fO)(n0:Nat)(f:FuncId)(args:ag)(h:J h2)(n:Nat):Option (pO×J h2×Nat):=
 match P.funcs[f]? with
 |some fn=>match fn.body with
  |some code=>
   if args.length<=fn.ntmps/\fn.ntmps<fZ then
    match gD P cf n0 code { N:=lB args 0 .nil,h:=h,n:=n,ij:=[] }with
    |some (.normal,s)=>mN P cf n0 fn s.N s.ij .ret s.h s.n
    |some (.ret,s)=>mN P cf n0 fn s.N s.ij .ret s.h s.n
    |some (.panic v,s)=>mN P cf n0 fn s.N s.ij (.nr v false) s.h s.n
    |_=>mL 20
   else none
  |none=>mL 21
 |none=>mL 22
def jS:Code->Bool
 | .region _ ops _=>ops.toList.all fun o=>Bi o.op
 | .seq a b=>jS a&&jS b
 | .cond _ a b=>jS a&&jS b
 | .block _ c=>jS c
 | .loop c=>jS c
 | .rangeFunc ..=>false
 |_=>true
def wz:List (Nat×V)->J V->Option (J V)
 | [],t=>some t
 |(i,v)::r,t=>if i<fZ then wz r (t.set i (some v))else none
def Jj:List Nat->ag->List (Nat×V)
 |i::is,v::vs=>(i,v)::Jj is vs
 |_,_=>[]
def wA(P:Program)(cf:fO)(n0:Nat)(m:Nat)(args:ag)(h:J h2)(n:Nat):Option (pO×J h2×Nat):=
 match h.get m with
 |some (.loop true none N ps assign body)=>
  if m<fZ/\ps.length=args.length/\jS assign=true/\jS body=true then
   match wz (Jj ps args) N with
   |some Lf=>match gD P cf n0 assign { N:=Lf,h:=h.set m none,n:=n,ij:=[] }with
    |some (.normal,s1)=>match gD P cf n0 body s1 with
     |some (.normal,s2)=>some (.ret (.bool true),s2.h.set m (some (.loop true none N ps assign body)),s2.n)
     |some (.ret,s2)=>some (.ret (.bool false),s2.h.set m (some (.loop false (some .ret) N ps assign body)),s2.n)
     |some (.exit id,s2)=>some (.ret (.bool false),s2.h.set m (some (.loop false (some (.exit id)) N ps assign body)),s2.n)
     |_=>mL 51
    |_=>mL 52
   |none=>mL 53
  else mL 54
 |_=>mL 55
def call(P:Program)(n0:Nat):Nat->fO
 |0=>fun _ _ _ _=>mL 23
 |k+1=>fun f args h n=>if f<P.funcs.size then enter P (call P n0 k) n0 f args h n else wA P (call P n0 k) n0 (f-P.funcs.size) args h n
def oU(l:List Oper):List Nat:=l.foldl (fun Ed o=>Ed++[ff Ed o.after.toList]) []
section
variable(ops:Array Oper)
def uA(o:Oper):List Nat:=
 (o.op.operands.toList.filterMap fun x=>match x with | .tmp t=>some t|_=>none) ++
  (match o.guard with|some (j,_)=>(match ops[j]? with|some q=>q.dst.toList|none=>[])|none=>[])
def Fe(m:List Nat)(i j:Nat):Bool:=
 match ops[i]?,ops[j]? with
 |some o,some q=>match o.dst with
  |some t=>(match q.dst with|some u=>!Nat.beq t u|none=>true) &&
    (if(uA ops q).contains t then(if i<j then ew (m.getD j 0) i else ew (m.getD i 0) j)else true)
  |none=>true
 |_,_=>true
def Oe(fr:Nat):Bool:=
 let m:=oU ops.toList
 (List.range ops.size).all fun j=>match ops[j]? with
  |some o=>o.after.toList.all (fun e=>!Region.binds .any e||decide (e.on<j))&&(match o.dst with|some d=>decide (d<fr)|none=>true) &&
    (List.range ops.size).all fun i=>Nat.beq i j||Fe ops m i j
  |none=>true
end
def eL(fr:Nat):Code->Bool
 | .region _ ops BU=>ops.toList.all (fun o=>match o.dst with|some d=>decide (d<fr)|none=>true)&&(if BU then Oe ops fr else true)
 | .seq a b=>eL fr a&&eL fr b
 | .cond _ a b=>eL fr a&&eL fr b
 | .block _ c=>eL fr c
 | .loop c=>eL fr c
 | .scope c=>eL fr c
 | .rangeFunc _ ps a b=>ps.toList.all (fun p=>decide (p<fr))&&(eL fr a&&eL fr b)
 |_=>true
structure Env where
 ι:Nat->Option (Nat×Nat)
 β:Nat->Nat
 φ:Nat->Option (Array Value)
mutual
def kS(φ:Nat->Option (Array Value)):D->Value->Prop
 | .bool b,v=>v= .bool b
 | .int k n,v=>v= .int k n
 | .str s,v=>v= .string ⟨s.toArray⟩
 | .eB n R,v=>∃a jO vs,v= .slice a n jO/\n<=jO/\iS φ R vs/\(n=0->R=[])/\
    (0<n->∃b o c,a=some ⟨b,o,none⟩/\φ b=some c/\∀(j:Nat) (w:Value),vs[j]? =some w->c[o+j]? =some w)
 | .agg R,v=>∃vs,iS φ R vs/\v= .agg vs.toArray
def iS(φ:Nat->Option (Array Value)):ai->List Value->Prop
 | [],l=>l=[]
 |x::xs,l=>∃y ys,x.scalar=true/\kS φ x y/\iS φ xs ys/\l=y::ys
end
def Ae(E:Env):Fn->Fn->Prop
 | .yield m,f'=>∃l s,E.ι m=some (l,s)/\f'= .yield l
 |f,f'=>f'=f
mutual
def dV(E:Env):V->Value->Prop
 | .bool b,v=>v= .bool b
 | .int k n,v=>v= .int k n
 | .str s,v=>v= .string ⟨s.toArray⟩
 | .ptr none,v=>v= .pointer none
 | .ptr (some (m,o)),v=>∃b s,E.ι m=some (b,s)/\v= .pointer (some ⟨b,s+o,none⟩)
 | .eR none len jO _,v=>len=0/\jO=0/\v= .slice none 0 0
 | .eR (some (m,o)) len jO jv,v=>∃b s o' gx,E.ι m=some (b,s)/\(0<jO->o'=s+o)/\len<=jO/\jO<=gx/\o'+gx*jv<=E.β b/\
    v= .slice (some ⟨b,o',none⟩) len gx
 | .map none,v=>v= .map none
 | .map (some m),v=>∃b,E.ι m=some (b,0)/\v= .map (some b)
 | .fn f a c,v=>∃f' a' c',Ae E f f'/\dZ E a a'/\dZ E c c'/\v= .func f' a'.toArray c'.toArray
 | .kG,v=>v= .nilFunc
 | .iface t x,v=>∃x',dV E x x'/\v= .iface t x'
 | .nilIface,v=>v= .nilIface
 | .agg R,v=>∃cs',dZ E R cs'/\v= .agg cs'.toArray
 | .gw R,v=>∃cs',dZ E R cs'/\v= .tuple cs'.toArray
 | .eB f n R,v=>kS E.φ (.eB n R) v/\(f=true->∃a,v= .slice a n n)
 | .dx R,v=>∃b o c vs,v= .pointer (some ⟨b,o,none⟩)/\E.φ b=some c/\iS E.φ R vs/\∀(j:Nat) (w:Value),vs[j]? =some w->c[o+j]? =some w
def dZ(E:Env):ag->List Value->Prop
 | [],l=>l=[]
 |x::xs,l=>∃y ys,dV E x y/\dZ E xs ys/\l=y::ys
end
structure Env.le(E E':Env):Prop where
 nm:∀m b s,E.ι m=some (b,s)->E'.ι m=some (b,s)/\E'.β b=E.β b
 fz:∀b c,E.φ b=some c->E'.φ b=some c
def GE(E:Env):Prop:=∀p∈tX,E.ι p.2=some (p.1,0)
theorem GE.mono{E E':Env}(h:GE E)(k:E.le E'):GE E':=fun p hp=>(k.nm _ _ _ (h p hp)).1
theorem GY:∀{l:List (Nat×Nat)} {g:Nat} {v:V},Oc l g=some v->∃m,(g,m)∈l/\v= .ptr (some (m,0))
 | [],_,_,h=>by cases h
 |p::r,g,v,h=>by
  unfold Oc at h;split at h
  . rename_i hb;cases h;exact⟨p.2,aD.2 (.inl (by rw[<- aA hb])),rfl⟩
  . obtain⟨m,Q,O⟩:=GY h;exact⟨m,bj _ Q,O⟩
theorem GZ{E:Env}(h:GE E){g:Nat}{v:V}(e:Oc tX g=some v):dV E v (.pointer (some ⟨g,0,none⟩)):=by
 obtain⟨m,Q,rfl⟩:=GY e;exact⟨g,0,h _ Q,rfl⟩
theorem Env.le_refl(E:Env):E.le E:=⟨fun _ _ _ h=>⟨h,rfl⟩,fun _ _ h=>h⟩
theorem Env.le_trans{aj hc be:Env}(h:aj.le hc)(k:hc.le be):aj.le be:=⟨fun m b s e=>
 ⟨(k.nm m b s (h.nm m b s e).1).1,(k.nm m b s (h.nm m b s e).1).2.trans (h.nm m b s e).2⟩,fun b c e=>k.fz b c (h.fz b c e)⟩
mutual
theorem mw{φ G0:Nat->Option (Array Value)}(h:∀b c,φ b=some c->G0 b=some c):∀(d:D) (v:Value),kS φ d v->kS G0 d v
 | .bool _,_,r=>r
 | .int _ _,_,r=>r
 | .str _,_,r=>r
 | .eB _ R,_,⟨a,jO,vs,e,B,r,h0,Q⟩=>⟨a,jO,vs,e,B,iC h R vs r,h0,fun hn=>let⟨b,o,c,e1,e2,e3⟩:=Q hn;⟨b,o,c,e1,h _ _ e2,e3⟩⟩
 | .agg R,_,⟨vs,r,e⟩=>⟨vs,iC h R vs r,e⟩
theorem iC{φ G0:Nat->Option (Array Value)}(h:∀b c,φ b=some c->G0 b=some c):∀(d:ai) (v:List Value),iS φ d v->iS G0 d v
 | [],_,r=>r
 |x::xs,_,⟨y,ys,s,r,rs,e⟩=>⟨y,ys,s,mw h x y r,iC h xs ys rs,e⟩
end
mutual
theorem rE{E:Env}:∀(d:D) (v:Value),kS E.φ d v->dV E d.jQ v
 | .bool _,_,r=>r
 | .int _ _,_,r=>r
 | .str _,_,r=>r
 | .eB _ _,_,r=>⟨r,fun h=>by cases h⟩
 | .agg R,_,⟨vs,r,e⟩=>⟨vs,vo R vs r,e⟩
theorem vo{E:Env}:∀(d:ai) (v:List Value),iS E.φ d v->dZ E (D.fQ d) v
 | [],_,r=>r
 |x::xs,_,⟨y,ys,_,r,rs,e⟩=>⟨y,ys,rE x y r,vo xs ys rs,e⟩
end
mutual
theorem G1{E:Env}:∀(d:D) (v:Value),dV E d.jQ v->(∀R,d= .agg R->∀x∈R,x.scalar=true)->kS E.φ d v
 | .bool _,_,r,_=>r
 | .int _ _,_,r,_=>r
 | .str _,_,r,_=>r
 | .eB _ _,_,r,_=>r.1
 | .agg R,_,⟨vs,r,e⟩,h=>⟨vs,BV R vs r (h R rfl),e⟩
theorem BV{E:Env}:∀(d:ai) (v:List Value),dZ E (D.fQ d) v->(∀x∈d,x.scalar=true)->iS E.φ d v
 | [],_,r,_=>r
 |x::xs,_,⟨y,ys,r,rs,e⟩,h=>⟨y,ys,h x (by simp),G1 x y r (fun R q=>by have:=h x (by simp);rw[q]at this;cases this),BV xs ys rs (fun z hz=>h z (by simp[hz])),e⟩
end
theorem o7{φ:Nat->Option (Array Value)}:∀{xs:ai} {ys:List Value},iS φ xs ys->ys.length=xs.length
 | [],_,r=>by simp only[iS]at r;subst r;rfl
 |_::_,_,r=>by obtain⟨y,ys,_,_,rs,rfl⟩:=r;simp[o7 rs]
theorem vp{φ:Nat->Option (Array Value)}:∀{xs:ai} {ys:List Value},iS φ xs ys->∀(i:Nat) (d:D),xs[i]? =some d->∃v',ys[i]? =some v'/\d.scalar=true/\kS φ d v'
 | [],_,r,i,v,h=>by simp at h
 |x::xs,_,r,i,v,h=>by
  obtain⟨y,ys,s0,r0,rs,rfl⟩:=r;cases i with
  |zero=>simp at h;subst h;exact⟨y,by simp,s0,r0⟩
  |succ i=>simp at h;obtain⟨v',Q,O⟩:=vp rs i v h;exact⟨v',by simpa using Q,O⟩
theorem o8{φ:Nat->Option (Array Value)}:∀{xs:ai} {ys:List Value},xs.length=ys.length->(∀(i:Nat) (d:D),xs[i]? =some d->∃v',ys[i]? =some v'/\d.scalar=true/\kS φ d v')->iS φ xs ys
 | [],[],_,_=>rfl
 | [],_::_,h,_=>by simp at h
 |_::_,[],h,_=>by simp at h
 |x::xs,y::ys,h,r=>by
  obtain⟨v',Q,O,h3⟩:=r 0 x (by simp);simp at Q;subst Q;exact⟨y,ys,O,h3,o8 (by simpa using h) (fun i v hi=>r (i+1) v (by simpa using hi)),rfl⟩
section
variable{φ:Nat->Option (Array Value)}{n:Nat}{xs:ai}{ys:List Value}
theorem sJ(r:iS φ xs ys):iS φ (xs.take n) (ys.take n):=by
 refine o8 (by simp[o7 r]) fun i v h=>?_;rw[bS]at h ⊢;split at h
 . rename_i hi;rw[aG hi];exact vp r i v h
 . simp at h
theorem nD(r:iS φ xs ys):iS φ (xs.drop n) (ys.drop n):=by
 refine o8 (by simp[o7 r]) fun i v h=>?_;rw[bU]at h ⊢;exact vp r _ v h
end
theorem o9{φ:Nat->Option (Array Value)}:∀{xs yQ:ai} {ys Ee:List Value},iS φ xs ys->iS φ yQ Ee->iS φ (xs++yQ) (ys++Ee)
 | [],_,_,_,r,r'=>by simp only[iS]at r;subst r;simpa using r'
 |x::xs,_,_,_,r,r'=>by
  obtain⟨y,ys,s0,r0,rs,rfl⟩:=r;exact⟨y,_,s0,r0,o9 rs r',rfl⟩
theorem jc{φ:Nat->Option (Array Value)}:∀{xs:ai} {ys:List Value},iS φ xs ys->∀x∈xs,x.scalar=true
 | [],_,_,x,h=>by simp at h
 |a::xs,_,r,x,h=>by
  obtain⟨y,ys,s0,_,rs,_⟩:=r;rcases aD.1 h with rfl|h
  . exact s0
  . exact jc rs x h
theorem Jk{d:D}(h:d.scalar=true):d.jQ.scalar=true:=by cases d<;>first|rfl|(simp[D.scalar]at h)
theorem Af{ds:ai}(h:∀x∈ds,x.scalar=true):(D.fQ ds).all V.scalar=true:=by
 rw[D.gh,br];intro x I;obtain⟨d,hd,rfl⟩:=bN.1 I;exact Jk (h d hd)
theorem Jl{E E':Env}(h:E.le E'):∀(f f':Fn),Ae E f f'->Ae E' f f'
 | .yield _,_,⟨l,s,e,q⟩=>⟨l,s,(h.nm _ _ _ e).1,q⟩
 | .func _,_,r=>r
 | .method _,_,r=>r
 | .methodOf _ _,_,r=>r
 | .via _ _ _ _,_,r=>r
mutual
theorem jh{E E':Env}(h:E.le E'):∀(v:V) (v':Value),dV E v v'->dV E' v v'
 | .bool _,_,r=>r
 | .int _ _,_,r=>r
 | .str _,_,r=>r
 | .ptr none,_,r=>r
 | .ptr (some (_,_)),_,⟨b,s,e,q⟩=>⟨b,s,(h.nm _ _ _ e).1,q⟩
 | .eR none _ _ _,_,r=>r
 | .eR (some (_,_)) _ _ _,_,⟨b,s,o',gx,e,q1,q2,q3,q4,q5⟩=>⟨b,s,o',gx,(h.nm _ _ _ e).1,q1,q2,q3,(h.nm _ _ _ e).2▸q4,q5⟩
 | .map none,_,r=>r
 | .map (some _),_,⟨b,e,q⟩=>⟨b,(h.nm _ _ _ e).1,q⟩
 | .fn _ a c,_,⟨f',a',c',rf,ra,rc,q⟩=>⟨f',a',c',Jl h _ _ rf,kY h a a' ra,kY h c c' rc,q⟩
 | .kG,_,r=>r
 | .iface _ x,_,⟨x',r,q⟩=>⟨x',jh h x x' r,q⟩
 | .nilIface,_,r=>r
 | .agg R,_,⟨cs',r,q⟩=>⟨cs',kY h R cs' r,q⟩
 | .gw R,_,⟨cs',r,q⟩=>⟨cs',kY h R cs' r,q⟩
 | .eB _ _ _,_,⟨r,q⟩=>⟨mw h.fz _ _ r,q⟩
 | .dx R,_,⟨b,o,c,vs,e,e1,r,q⟩=>⟨b,o,c,vs,e,h.fz _ _ e1,iC h.fz R vs r,q⟩
theorem kY{E E':Env}(h:E.le E'):∀(v:ag) (v':List Value),dZ E v v'->dZ E' v v'
 | [],_,r=>r
 |x::xs,_,⟨y,ys,r,rs,q⟩=>⟨y,ys,jh h x y r,kY h xs ys rs,q⟩
end
theorem eT{E:Env}:∀{xs:ag} {ys:List Value},dZ E xs ys->ys.length=xs.length
 | [],_,r=>by simp only[dZ]at r;subst r;rfl
 |_::_,_,r=>by obtain⟨y,ys,_,rs,rfl⟩:=r;simp[eT rs]
theorem gK{E:Env}:∀{xs:ag} {ys:List Value},dZ E xs ys->∀(i:Nat) (v:V),xs[i]? =some v->∃v',ys[i]? =some v'/\dV E v v'
 | [],_,_,i,v,h=>by simp at h
 |x::xs,_,r,i,v,h=>by
  obtain⟨y,ys,r0,rs,rfl⟩:=r;cases i with
  |zero=>simp at h;subst h;exact⟨y,by simp,r0⟩
  |succ i=>simp at h;obtain⟨v',Q,O⟩:=gK rs i v h;exact⟨v',by simpa using Q,O⟩
theorem jd{E:Env}:∀{xs:ag} {ys:List Value},xs.length=ys.length->(∀(i:Nat) (v:V),xs[i]? =some v->∃v',ys[i]? =some v'/\dV E v v')->dZ E xs ys
 | [],[],_,_=>rfl
 | [],_::_,h,_=>by simp at h
 |_::_,[],h,_=>by simp at h
 |x::xs,y::ys,h,r=>by
  obtain⟨v',Q,O⟩:=r 0 x (by simp);simp at Q;subst Q;exact⟨y,ys,O,jd (by simpa using h) (fun i v hi=>r (i+1) v (by simpa using hi)),rfl⟩
theorem iK{E:Env}:∀{xs yQ:ag} {ys Ee:List Value},dZ E xs ys->dZ E yQ Ee->dZ E (xs++yQ) (ys++Ee)
 | [],_,_,_,r,r'=>by simp only[dZ]at r;subst r;simpa using r'
 |x::xs,_,_,_,r,r'=>by
  obtain⟨y,ys,r0,rs,rfl⟩:=r;exact⟨y,_,r0,iK rs r',rfl⟩
section
variable{E:Env}{n:Nat}
theorem BW:∀{xs:ag} {ys:List Value},dZ E xs ys->dZ E (xs.take n) (ys.take n):=by
 intro xs ys r;refine jd (by simp[eT r]) fun i v h=>?_;rw[bS]at h ⊢;split at h
 . rename_i hi;rw[aG hi];exact gK r i v h
 . simp at h
theorem BX:∀{xs:ag} {ys:List Value},dZ E xs ys->dZ E (xs.drop n) (ys.drop n):=by
 intro xs ys r;refine jd (by simp[eT r]) fun i v h=>?_;rw[bU]at h ⊢;exact gK r _ v h
theorem iD:∀{v:V} {v':Value},dV E v v'->dZ E v.cells v'.cells.toList:=by
 intro v v' r;have one:∀{x:V} {y:Value},dV E x y->y.cells=#[y]->x.cells=[x]->dZ E x.cells y.cells.toList:=by
  intro x y r Q O;rw[Q,O];exact⟨y,[],r,rfl,rfl⟩
 cases v with
 |agg R=>obtain⟨cs',rs,rfl⟩:=r;simpa[V.cells,Value.cells]using rs
 |bool b=>simp only[dV]at r;subst r;exact one (by simp[dV]) rfl rfl
 |int k n=>simp only[dV]at r;subst r;exact one (by simp[dV]) rfl rfl
 |str s=>simp only[dV]at r;subst r;exact one (by simp[dV]) rfl rfl
 |ptr a=>refine one r ?_ rfl;cases a<;>simp only[dV]at r;. subst r;rfl
         . obtain⟨b,s,_,rfl⟩:=r;rfl
 |eR a l c e=>refine one r ?_ rfl;cases a<;>simp only[dV]at r;. obtain⟨_,_,rfl⟩:=r;rfl
              . obtain⟨b,s,_,_,_,_,_,_,_,rfl⟩:=r;rfl
 |map a=>refine one r ?_ rfl;cases a<;>simp only[dV]at r;. subst r;rfl
         . obtain⟨b,_,rfl⟩:=r;rfl
 |fn f a c=>refine one r ?_ rfl;obtain⟨_,_,_,_,_,_,rfl⟩:=r;rfl
 |kG=>simp only[dV]at r;subst r;exact one (by simp[dV]) rfl rfl
 |iface t x=>refine one r ?_ rfl;obtain⟨_,_,rfl⟩:=r;rfl
 |nilIface=>simp only[dV]at r;subst r;exact one (by simp[dV]) rfl rfl
 |gw vs=>refine one r ?_ rfl;obtain⟨_,_,rfl⟩:=r;rfl
 |eB f n R=>refine one r ?_ rfl;obtain⟨⟨_,_,_,rfl,_⟩,_⟩:=r;rfl
 |dx R=>refine one r ?_ rfl;obtain⟨_,_,_,_,rfl,_⟩:=r;rfl
theorem uB:∀{v:V} {v':Value},dV E v v'->v.scalar=true->v'.oneCell'=true:=by
 intro v v' r h;cases v with
 |agg R=>simp[V.scalar]at h
 |gw R=>simp[V.scalar]at h
 |bool b=>simp only[dV]at r;subst r;rfl
 |int k n=>simp only[dV]at r;subst r;rfl
 |str s=>simp only[dV]at r;subst r;rfl
 |ptr a=>cases a<;>simp only[dV]at r;. subst r;rfl
         . obtain⟨b,s,_,rfl⟩:=r;rfl
 |eR a l c e=>cases a<;>simp only[dV]at r;. obtain⟨_,_,rfl⟩:=r;rfl
              . obtain⟨b,s,_,_,_,_,_,_,_,rfl⟩:=r;rfl
 |map a=>cases a<;>simp only[dV]at r;. subst r;rfl
         . obtain⟨b,_,rfl⟩:=r;rfl
 |fn f a c=>obtain⟨_,_,_,_,_,_,rfl⟩:=r;rfl
 |kG=>simp only[dV]at r;subst r;rfl
 |iface t x=>obtain⟨_,_,rfl⟩:=r;rfl
 |nilIface=>simp only[dV]at r;subst r;rfl
 |eB f n R=>obtain⟨⟨_,_,_,rfl,_⟩,_⟩:=r;rfl
 |dx R=>obtain⟨_,_,_,_,rfl,_⟩:=r;rfl
end
theorem J.xG{α:Type}:∀(f:Nat) (t:J α) (k:Nat) (x:Option α) (j:Nat),k+1<2^f->(J.qS f t k x).get j=if j=k then x else t.get j
 |0,t,k,x,j,h=>by simp at h
 |f+1,t,k,x,j,h=>by
  have W:∀k',k=k'+1->k'/2+1<2^f:=by intro k' e;subst e;rw[Nat.pow_succ]at h;omega
  cases t with
  |nil=>
   cases k with
   |zero=>
    cases j with
    |zero=>simp[J.qS,J.get]
    |succ j=>simp only[J.qS,J.get];rw[aB H];split<;>rfl
   |succ k=>
    have ih:=fun j=>J.xG f (.nil:J α) (k/2) x j (W k rfl);rcases cV k with e|e
    . cases j with
      |zero=>simp[J.qS,J.get,e]
      |succ j=>
       rcases cV j with e'|e'
       . simp only[J.qS,e,J.get,e',ih];by_cases hj:j=k
         . subst hj;simp
         . rw[aB H,aB H]
       . simp only[J.qS,e,J.get,e'];rw[aB H]
    . cases j with
      |zero=>simp[J.qS,J.get,e]
      |succ j=>
       rcases cV j with e'|e'
       . simp only[J.qS,e,J.get,e'];rw[aB H]
       . simp only[J.qS,e,J.get,e',ih];by_cases hj:j=k
         . subst hj;simp
         . rw[aB H,aB H]
  |node v l r=>
   cases k with
   |zero=>cases j<;>simp[J.qS,J.get]
   |succ k=>
    have ihl:=fun j=>J.xG f l (k/2) x j (W k rfl);have ihr:=fun j=>J.xG f r (k/2) x j (W k rfl);rcases cV k with e|e
    . cases j with
      |zero=>simp[J.qS,J.get,e]
      |succ j=>
       rcases cV j with e'|e'
       . simp only[J.qS,e,J.get,e',ihl];by_cases hj:j=k
         . subst hj;simp
         . rw[aB H,aB H]
       . simp only[J.qS,e,J.get,e'];rw[aB H]
    . cases j with
      |zero=>simp[J.qS,J.get,e]
      |succ j=>
       rcases cV j with e'|e'
       . simp only[J.qS,e,J.get,e'];rw[aB H]
       . simp only[J.qS,e,J.get,e',ihr];by_cases hj:j=k
         . subst hj;simp
         . rw[aB H,aB H]
section
variable{α:Type}(t:J α){k:Nat}(x:Option α)
theorem J.fJ(j:Nat)(h:k<fZ):(t.set k x).get j=if j=k then x else t.get j:=
 J.xG 33 t k x j (by unfold fZ at h;omega)
theorem J.pb(h:k<fZ):(t.set k x).get k=x:=by rw[J.fJ t x k h,aG rfl]
theorem J.wB{j:Nat}(x:Option α)(h:k<fZ)(hj:j≠k):(t.set k x).get j=t.get j:=by rw[J.fJ t x j h,aB hj]
end
def kI(E:Env):List (V×V×Nat)->List MapEntry->Prop
 | [],l=>l=[]
 |x::xs,l=>∃y ys,dV E x.1 y.key/\dV E x.2.1 y.val/\y.born=x.2.2/\kI E xs ys/\l=y::ys
theorem BY{E E':Env}(h:E.le E'):∀(xs:List (V×V×Nat)) (ys:List MapEntry),kI E xs ys->kI E' xs ys
 | [],_,r=>r
 |_::xs,_,⟨y,ys,a,b,c,r,q⟩=>⟨y,ys,jh h _ _ a,jh h _ _ b,c,BY h xs ys r,q⟩
def kJ(φ:Nat->Option (Array Value)):ae->List MapEntry->Prop
 | [],l=>l=[]
 |x::xs,l=>∃y ys,kS φ x.1 y.key/\kS φ x.2 y.val/\kJ φ xs ys/\l=y::ys
theorem sK{φ G0:Nat->Option (Array Value)}(h:∀b c,φ b=some c->G0 b=some c):∀(xs:ae) (ys:List MapEntry),kJ φ xs ys->kJ G0 xs ys
 | [],_,r=>r
 |_::xs,_,⟨y,ys,a,b,r,q⟩=>⟨y,ys,mw h _ _ a,mw h _ _ b,sK h xs ys r,q⟩
structure jT(φ:Nat->Option (Array Value))(kd:Option IntKind)(T:ae)(fK:List MapEntry)(eS:Nat):Prop where
 row:∃l,List.Perm l T/\kJ φ l fK
 keys:(T.map (·.1)).Nodup
 kind:∀e∈T,gu kd e.1=true
 old:∀e∈fK,e.born<eS
 born:(fK.map (·.born)).Nodup
theorem jT.mono{φ G0:Nat->Option (Array Value)}(h:∀b c,φ b=some c->G0 b=some c){kd:Option IntKind}{T:ae}{fK:List MapEntry}{eS:Nat}(r:jT φ kd T fK eS):jT G0 kd T fK eS:=
 ⟨let⟨l,Q,O⟩:=r.row;⟨l,Q,sK h _ _ O⟩,r.keys,r.kind,r.old,r.born⟩
structure lQ(φ:Nat->Option (Array Value))(kd:Option IntKind)(T:ae)(fK:List MapEntry):Prop where
 row:kJ φ T fK
 keys:(T.map (·.1)).Nodup
 kind:∀e∈T,gu kd e.1=true
 born:fK.map (·.born)=List.range T.length
theorem lQ.mono{φ G0:Nat->Option (Array Value)}(h:∀b c,φ b=some c->G0 b=some c){kd:Option IntKind}{T:ae}{fK:List MapEntry}(r:lQ φ kd T fK):lQ G0 kd T fK:=
 ⟨sK h _ _ r.row,r.keys,r.kind,r.born⟩
theorem lQ.rel{φ:Nat->Option (Array Value)}{kd:Option IntKind}{T:ae}{fK:List MapEntry}(r:lQ φ kd T fK):jT φ kd T fK T.length:=
 ⟨⟨T,.refl _,r.row⟩,r.keys,r.kind,fun e he=>by
  have:e.born∈fK.map (·.born):=bN.2 ⟨e,he,rfl⟩;rw[r.born]at this;exact bL.1 this,by rw[r.born];exact List.nodup_range⟩
def mO(fz:Nat×Nat)(n:Nat):Prop:=∀i,i<n->¬(fz.1<=i/\i<fz.2)
def lS(E:Env)(s:Nat)(R:ag)(c:Array Value):Prop:=∀(i:Nat) (v:V),R[i]? =some v->∃v',c[s+i]? =some v'/\dV E v v'
def Of(E:Env)(N:J V)(tmps:Array Value):Prop:=∀t v,N.get t=some v->∃v',tmps[t]? =some v'/\dV E v v'
section
variable{E E':Env}{s:Nat}
theorem yZ(h:E.le E'){N:J V}{a:Array Value}(r:Of E N a):Of E' N a:=fun t v e=>let⟨v',Q,O⟩:=r t v e;⟨v',Q,jh h v v' O⟩
def nE(E:Env)(w:World)(b s:Nat):h2->Prop
 | .cells R=>∃c el fz,w.heap[b]? =some (.cells c el fz)/\c.size=E.β b/\mO fz c.size/\lS E s R c
 | .map T eS=>s=0/\∃fK,w.heap[b]? =some (.map fK eS)/\kI E T fK.toList
 | .nv st pos=>s=0/\w.heap[b]? =some (.stringIter ⟨st.toArray⟩ pos)
 | .ints k Y=>∃c el fz,w.heap[b]? =some (.cells c el fz)/\c.size=E.β b/\∀(i:Nat) (x:Int),Y[i]? =some x->c[s+i]? =some (.int k x)
 | .own k Y=>∃c el fz,w.heap[b]? =some (.cells c el fz)/\c.size=E.β b/\mO fz c.size/\lS E s (Y.map (.int k)) c
 | .deep R=>∃c el fz vs,w.heap[b]? =some (.cells c el fz)/\c.size=E.β b/\mO fz c.size/\iS E.φ R vs/\∀(j:Nat) (x:Value),vs[j]? =some x->c[s+j]? =some x
 | .tJ el Ac t=>∃c fz xs,w.heap[b]? =some (.cells c el fz)/\s=0/\c.size=E.β b/\((fz.1=fz.2\/fz.2<=t.length)/\(Ac=false->fz.1=fz.2))/\iy xs=t/\∀(j:Nat) (x:Int),xs[j]? =some x->c[j]? =some (.int .u8 x)
 | .AS t self x=>s=0/\∃x' fz,w.heap[b]? =some (.cells #[.pointer (if self then some ⟨b,0,none⟩else none),x'] t fz)/\2=E.β b/\mO fz 2/\dV E x x'
 | .gl kd T=>s=0/\∃fK eS,w.heap[b]? =some (.map fK eS)/\jT E.φ kd T fK.toList eS
 | .oJ kd T=>s=0/\∃fK,w.heap[b]? =some (.map fK T.length)/\lQ E.φ kd T fK.toList
 | .tY=>w.heap[b]? =some (.deferred (some []))
 | .loop st pe N ps assign body=>∃r:Loop,w.heap[b]? =some (.loop r)/\r.state=(if st then .ready else .done)/\r.pending=pe/\r.params.toList=ps/\r.assign=assign/\r.body=body/\Of E N r.tmps/\eL r.tmps.size assign=true/\eL r.tmps.size body=true/\∀p∈ps,p<r.tmps.size
theorem pA(h:E.le E'){s:Nat}{R:ag}{c:Array Value}(r:lS E s R c):lS E' s R c:=
 fun i v e=>let⟨v',Q,O⟩:=r i v e;⟨v',Q,jh h v v' O⟩
theorem ji{w w':World}{b s:Nat}{o:h2}(h:E.le E')(hb:E'.β b=E.β b)(hw:w'.heap[b]? =w.heap[b]?)(r:nE E w b s o):nE E' w' b s o:=by
 cases o with
 |cells R=>obtain⟨c,el,fz,Q,O,h3,h4⟩:=r;exact⟨c,el,fz,hw.trans Q,O.trans hb.symm,h3,pA h h4⟩
 |map T eS=>obtain⟨hs,fK,Q,O⟩:=r;exact⟨hs,fK,hw.trans Q,BY h _ _ O⟩
 |nv st pos=>exact⟨r.1,hw.trans r.2⟩
 |ints k Y=>obtain⟨c,el,fz,Q,O,h3⟩:=r;exact⟨c,el,fz,hw.trans Q,O.trans hb.symm,h3⟩
 |own k Y=>obtain⟨c,el,fz,Q,O,h3,h4⟩:=r;exact⟨c,el,fz,hw.trans Q,O.trans hb.symm,h3,pA h h4⟩
 |deep R=>obtain⟨c,el,fz,vs,Q,O,h3,h4,h5⟩:=r;exact⟨c,el,fz,vs,hw.trans Q,O.trans hb.symm,h3,iC h.fz _ _ h4,h5⟩
 |tJ el Ac t=>obtain⟨c,fz,xs,Q,h0,O,h3⟩:=r;exact⟨c,fz,xs,hw.trans Q,h0,O.trans hb.symm,h3⟩
 |AS t self x=>obtain⟨h0,x',fz,Q,O,h3,h4⟩:=r;exact⟨h0,x',fz,hw.trans Q,O.trans hb.symm,h3,jh h _ _ h4⟩
 |gl kd T=>obtain⟨hs,fK,eS,Q,O⟩:=r;exact⟨hs,fK,eS,hw.trans Q,O.mono h.fz⟩
 |oJ kd T=>obtain⟨hs,fK,Q,O⟩:=r;exact⟨hs,fK,hw.trans Q,O.mono h.fz⟩
 |tY=>exact hw.trans r
 |loop st pe N ps assign body=>obtain⟨r,Q,O,h3,h4,h5,h6,h7,h8⟩:=r;exact⟨r,hw.trans Q,O,h3,h4,h5,h6,yZ h h7,h8⟩
theorem nF{k:IntKind}{Y:List Int}{c:Array Value}:lS E s (Y.map (.int k)) c↔∀(i:Nat) (x:Int),Y[i]? =some x->c[s+i]? =some (.int k x):=by
 constructor
 . intro r i x e;obtain⟨v',Q,O⟩:=r i (.int k x) (by rw[bI,e];rfl);simp only[dV]at O;rw[Q,O]
 . intro r i v e;rw[bI]at e;cases I:Y[i]? with
   |none=>rw[I]at e;cases e
   |some x=>
    rw[I]at e;simp only[bw,aq]at e;subst e;exact⟨_,r i x I,rfl⟩
theorem vW{k:IntKind}{Y:List Int}{c:Array Value}(r:lS E s (Y.map (.int k)) c):lS E' s (Y.map (.int k)) c:=nF.2 (nF.1 r)
end
theorem rF{k:IntKind}:∀{l:ag} {Y:List Int},pL k l=some Y->l=Y.map (.int k)
 | [],Y,h=>by simp only[pL,aq]at h;subst h;rfl
 |v::r,Y,h=>by
  unfold pL at h;split at h
  . rename_i q;cases q
  . rename_i k' x r' q;cases q;split at h
    . rename_i l Q O;obtain rfl:=eH h;have:=aX Q;subst this;rw[rF O];rfl
    . cases h
  . cases h
theorem nG{E:Env}{s:Nat}{R:ai}{c:Array Value}(hs:∀x∈R,x.scalar=true):lS E s (D.fQ R) c↔∃vs,iS E.φ R vs/\∀(j:Nat) (x:Value),vs[j]? =some x->c[s+j]? =some x:=by
 constructor
 . intro r;have hg:∀i,i<R.length->∃x,c[s+i]? =some x:=by
    intro i hi;obtain⟨v',Q,_⟩:=r i (R[i]).jQ (by rw[D.gh,bI,au hi];rfl);exact⟨v',Q⟩
   refine⟨(List.range R.length).map fun i=>(c[s+i]?).getD undef,o8 (by simp) fun i d hd=>?_,fun j x I=>?_⟩
   . have hi:=(aR.1 hd).1;obtain⟨v',Q,O⟩:=r i d.jQ (by rw[D.gh,bI,hd];rfl);refine⟨v',by simp[cZ hi,Q],hs d (List.mem_of_getElem? hd),G1 d v' O fun ds q=>?_⟩;have:=hs d (List.mem_of_getElem? hd);rw[q]at this;cases this
   . rw[bI]at I;by_cases hj:j<R.length
     . rw[cZ hj]at I;simp only[bw,aq]at I;obtain⟨y,hy⟩:=hg j hj;rw[hy]at I ⊢;simpa using I
     . rw[cL (by simpa using Nat.le_of_not_lt hj)]at I;cases I
 . rintro⟨vs,r,hv⟩ i v hi;rw[D.gh,bI]at hi;cases hd:R[i]? with
   |none=>rw[hd]at hi;cases hi
   |some d=>
    rw[hd]at hi;simp only[bw,aq]at hi;subst hi;obtain⟨v',Q,_,h3⟩:=vp r i d hd;exact⟨v',hv i v' Q,rE d v' h3⟩
theorem sL:∀{l:ag} {ds:ai},iu l=some ds->∀{E:Env} {l':List Value},dZ E l l'->iS E.φ ds l'
 | [],ds,h,E,l',r=>by simp only[iu,aq]at h;subst h;exact r
 |x::xs,ds,h,E,l',r=>by
  simp only[iu]at h;split at h
  case h_2=>cases h
  rename_i d hd;split at h
  case h_2=>cases h
  rename_i l hl;obtain rfl:=eH h;obtain⟨y,ys,r0,rs,rfl⟩:=r;refine⟨y,ys,?_,?_,sL hl rs,rfl⟩
  . split at hd<;>first|(cases hd;rfl)|cases hd
  . split at hd<;>first|(cases hd;first|exact r0|exact r0.1|exact⟨none,0,[],r0.2.2,aK _,rfl,fun _=>rfl,fun q=>absurd q (Nat.lt_irrefl _)⟩)|cases hd
theorem uC:∀{l:ag} {ds:ai},iu l=some ds->ds.length=l.length
 | [],ds,h=>by simp only[iu,aq]at h;subst h;rfl
 |x::xs,ds,h=>by
  simp only[iu]at h;split at h
  case h_2=>cases h
  split at h
  case h_2=>cases h
  rename_i l hl;obtain rfl:=eH h;simp[uC hl]
mutual
theorem xH{E:Env}:∀{x:V} {d:D},V.Jf x=some d->∀{v:Value},dV E x v->kS E.φ d v/\(x.scalar=true->d.scalar=true)
 | .bool _,d,h,v,r=>by simp only[V.Jf,aq]at h;subst h;exact⟨r,fun _=>rfl⟩
 | .int _ _,d,h,v,r=>by simp only[V.Jf,aq]at h;subst h;exact⟨r,fun _=>rfl⟩
 | .str _,d,h,v,r=>by simp only[V.Jf,aq]at h;subst h;exact⟨r,fun _=>rfl⟩
 | .eB _ _ _,d,h,v,r=>by simp only[V.Jf,aq]at h;subst h;exact⟨r.1,fun _=>rfl⟩
 | .agg R,d,h,v,r=>by
   simp only[V.Jf]at h;split at h
   . rename_i l hl;obtain rfl:=eH h;obtain⟨vs,r,e⟩:=r;exact⟨⟨vs,G2 hl r,e⟩,fun h=>by cases h⟩
   . cases h
 | .ptr _,d,h,_,_=>by cases h
 | .eR none _ _ _,d,h,v,r=>by
   simp only[V.Jf,aq]at h;subst h;exact⟨⟨none,0,[],r.2.2,aK _,rfl,fun _=>rfl,fun q=>absurd q (Nat.lt_irrefl _)⟩,fun _=>rfl⟩
 | .eR (some _) 0 _ _,d,h,v,r=>by
   simp only[V.Jf,aq]at h;subst h;obtain⟨b,s,o',gx,_,_,_,_,_,e⟩:=r;exact⟨⟨_,gx,[],e,aU _,rfl,fun _=>rfl,fun q=>absurd q (Nat.lt_irrefl _)⟩,fun _=>rfl⟩
 | .eR (some _) (_+1) _ _,d,h,_,_=>by cases h
 | .map _,d,h,_,_=>by cases h
 | .fn _ _ _,d,h,_,_=>by cases h
 | .kG,d,h,_,_=>by cases h
 | .iface _ _,d,h,_,_=>by cases h
 | .nilIface,d,h,_,_=>by cases h
 | .gw _,d,h,_,_=>by cases h
 | .dx _,d,h,_,_=>by cases h
theorem G2{E:Env}:∀{xs:ag} {ds:ai},V.N6 xs=some ds->∀{vs:List Value},dZ E xs vs->iS E.φ ds vs
 | [],ds,h,v,r=>by simp only[V.N6,aq]at h;subst h;exact r
 |x::xs,ds,h,v,r=>by
  simp only[V.N6]at h;split at h
  case h_2=>cases h
  rename_i d hd;split at h
  case h_2=>cases h
  rename_i l hl;split at h
  case h_2=>cases h
  rename_i Jm;obtain rfl:=eH h;obtain⟨y,ys,r0,rs,rfl⟩:=r;exact⟨y,ys,Jm,(xH hd r0).1,G2 hl rs,rfl⟩
end
theorem Ag{E:Env}:∀{xs ys:ag} {l:List Value},dZ E (xs++ys) l->∃l1 l2,dZ E xs l1/\dZ E ys l2/\l=l1++l2
 | [],_,l,r=>⟨[],l,rfl,r,rfl⟩
 |x::xs,_,l,⟨y,zs,r0,rs,e⟩=>by
  obtain⟨l1,l2,Q,O,h3⟩:=Ag rs;exact⟨y::l1,l2,⟨y,l1,r0,Q,rfl⟩,O,by rw[e,h3];rfl⟩
def wk(xs ys:ag):Prop:=∀(E:Env) (l:List Value),dZ E xs l->dZ E ys l
theorem iT(xs:ag):wk xs xs:=fun _ _ r=>r
theorem y5{a b a' b':ag}(h:wk a a')(k:wk b b'):wk (a++b) (a'++b'):=fun E l r=>by
 obtain⟨l1,l2,Q,O,rfl⟩:=Ag r;exact iK (h E l1 Q) (k E l2 O)
theorem xJ{l:ag}{ds:ai}(h:iu l=some ds):wk l (D.fQ ds):=fun _ _ r=>vo _ _ (sL h r)
theorem rG{E:Env}{s:Nat}{R:ag}{c:Array Value}:lS E s R c↔∃vs,dZ E R vs/\∀(j:Nat) (x:Value),vs[j]? =some x->c[s+j]? =some x:=by
 constructor
 . intro r;have hg:∀i,i<R.length->∃x,c[s+i]? =some x:=fun i hi=>by
    obtain⟨v',Q,_⟩:=r i R[i] (au hi);exact⟨v',Q⟩
   refine⟨(List.range R.length).map fun i=>(c[s+i]?).getD undef,jd (by simp) fun i d hd=>?_,fun j x I=>?_⟩
   . have hi:=(aR.1 hd).1;obtain⟨v',Q,O⟩:=r i d hd;exact⟨v',by simp[cZ hi,Q],O⟩
   . rw[bI]at I;by_cases hj:j<R.length
     . rw[cZ hj]at I;simp only[bw,aq]at I;obtain⟨y,hy⟩:=hg j hj;rw[hy]at I ⊢;simpa using I
     . rw[cL (by simpa using Nat.le_of_not_lt hj)]at I;cases I
 . rintro⟨vs,r,hv⟩ i v hi;obtain⟨v',Q,O⟩:=gK r i v hi;exact⟨v',hv i v' Q,O⟩
theorem xK{E:Env}{s:Nat}{xs ys:ag}{c:Array Value}(h:wk xs ys)(r:lS E s xs c):lS E s ys c:=by
 obtain⟨vs,Q,O⟩:=rG.1 r;exact rG.2 ⟨vs,h E vs Q,O⟩
def Row.sc:Row->Prop
 | .ds R=>∀x∈R,x.scalar=true
 |_=>True
theorem nH:∀{l:ag} {ds:ai},iu l=some ds->∀x∈ds,x.scalar=true
 | [],ds,h,x,I=>by simp only[iu,aq]at h;subst h;simp at I
 |y::l,ds,h,x,I=>by
  simp only[iu]at h;split at h
  case h_2=>cases h
  rename_i d hd;split at h
  case h_2=>cases h
  rename_i l' hl;obtain rfl:=eH h;rcases aD.1 I with rfl|I
  . split at hd<;>first|(cases hd;rfl)|cases hd
  . exact nH hl x I
theorem Row.Jn(a b:Row):wk (a.jQ++b.jQ) (a.app b).jQ:=by
 have e:∀{k:IntKind} {l:ag} {Y:List Int},pL k l=some Y->l=Y.map (.int k):=fun h=>rF h;have K:∀(k:IntKind) (Y:List Int),D.fQ (Y.map (.int k))=Y.map (.int k):=fun k Y=>by rw[D.gh,List.map_map];rfl
 have ha:∀(x y:ai),D.fQ (x++y)=D.fQ x++D.fQ y:=fun x y=>by rw[D.gh,D.gh,D.gh,bQ]
 cases a<;>cases b<;>simp only[Row.app]
 . exact iT _
 . rename_i R k Y;split
   . rename_i l h;simp only[Row.jQ,e h,bQ];exact iT _
   . exact iT _
 . rename_i R ds;split
   . rename_i l h;simp only[Row.jQ,ha];exact y5 (xJ h) (iT _)
   . exact iT _
 . rename_i k Y R;split
   . rename_i l h;simp only[Row.jQ,e h,bQ];exact iT _
   . exact iT _
 . rename_i k Y k' pC;split
   . rename_i h;have:=aX h;subst this;simp only[Row.jQ,bQ];exact iT _
   . exact iT _
 . simp only[Row.jQ,ha,K];exact iT _
 . rename_i R ds;split
   . rename_i l h;simp only[Row.jQ,ha];exact y5 (iT _) (xJ h)
   . exact iT _
 . simp only[Row.jQ,ha,K];exact iT _
 . simp only[Row.jQ,ha];exact iT _
theorem Row.Jo{a b:Row}(h:a.sc)(k:b.sc):(a.app b).sc:=by
 have hi:∀(k:IntKind) (Y:List Int),∀x∈Y.map (D.int k),x.scalar=true:=fun k Y x I=>by
  obtain⟨n,_,rfl⟩:=bN.1 I;rfl
 have ap:∀{x y:ai},(∀z∈x,z.scalar=true)->(∀z∈y,z.scalar=true)->∀z∈x++y,z.scalar=true:=fun h k z hz=>(bg.1 hz).elim (h z) (k z);cases a<;>cases b<;>simp only[Row.app]<;>first|trivial|skip
 . split<;>trivial
 . split
   . rename_i l hl;exact ap (nH hl) k
   . trivial
 . split<;>trivial
 . split<;>trivial
 . exact ap (hi _ _) k
 . split
   . rename_i l hl;exact ap h (nH hl)
   . trivial
 . exact ap h (hi _ _)
 . exact ap h k
section
variable{o size:Nat}{r r':Row}
theorem Row.Og(h:r.cut o size=some r')(k:r.sc):r'.sc:=by
 cases r with
 |vs R=>simp only[Row.cut]at h;split at h<;>first|(cases h;trivial)|cases h
 |is k Y=>simp only[Row.cut]at h;split at h<;>first|(cases h;trivial)|cases h
 |ds R=>
  simp only[Row.cut]at h;split at h
  . cases h;exact fun x I=>k x (List.mem_of_mem_drop (cJ I))
  . cases h
theorem Row.Ff(h:r.cut o size=some r'):Eng.cut r.jQ o size=some r'.jQ:=by
 cases r with
 |vs R=>
  simp only[Row.cut]at h;split at h
  . rename_i q;obtain rfl:=eH h;exact q
  . cases h
 |is k Y=>
  simp only[Row.cut]at h;split at h
  . rename_i q;obtain rfl:=eH h;simp only[Eng.cut,Row.jQ,bG,aG q,List.map_take,List.map_drop]
  . cases h
 |ds R=>
  simp only[Row.cut]at h;split at h
  . rename_i q;obtain rfl:=eH h;simp only[Eng.cut,Row.jQ,D.gh,bG,aG q,List.map_take,List.map_drop]
  . cases h
theorem Row.Oh(h:r.flat=true)(k:r.sc):r.jQ.all V.scalar=true:=by
 cases r with
 |vs R=>exact h
 |is k Y=>simp[Row.jQ,V.scalar]
 |ds R=>exact Af k
end
section
variable{E:Env}{w:World}{b s:Nat}{o:h2}{r:Row}
theorem G3(h:o.row=some r)(q:nE E w b s o):(∃c el fz,w.heap[b]? =some (.cells c el fz)/\c.size=E.β b/\mO fz c.size/\lS E s r.jQ c)/\r.sc:=by
 cases o<;>simp only[h2.row,aq,reduceCtorEq]at h<;>subst h
 . exact⟨q,trivial⟩
 . exact⟨q,trivial⟩
 . obtain⟨c,el,fz,vs,Q,O,h3,h4,h5⟩:=q;exact⟨⟨c,el,fz,Q,O,h3,(nG (jc h4)).2 ⟨vs,h4,h5⟩⟩,jc h4⟩
theorem Mq(h:o.Mn=some r)(q:nE E w b s o):(∃c el fz,w.heap[b]? =some (.cells c el fz)/\c.size=E.β b/\lS E s r.jQ c)/\r.sc:=by
 cases o<;>simp only[h2.Mn,aq,reduceCtorEq]at h<;>subst h
 . obtain⟨c,el,fz,Q,O,_,h4⟩:=q;exact⟨⟨c,el,fz,Q,O,h4⟩,trivial⟩
 . obtain⟨c,el,fz,Q,O,h3⟩:=q;exact⟨⟨c,el,fz,Q,O,nF.2 h3⟩,trivial⟩
 . obtain⟨c,el,fz,Q,O,_,h4⟩:=q;exact⟨⟨c,el,fz,Q,O,h4⟩,trivial⟩
 . obtain⟨c,el,fz,vs,Q,O,h3,h4,h5⟩:=q;exact⟨⟨c,el,fz,Q,O,(nG (jc h4)).2 ⟨vs,h4,h5⟩⟩,jc h4⟩
theorem xL(q:∃c el fz,w.heap[b]? =some (.cells c el fz)/\c.size=E.β b/\mO fz c.size/\lS E s r.jQ c)(k:r.sc):nE E w b s r.Eb:=by
 cases r with
 |ds R=>
  obtain⟨c,el,fz,Q,O,h3,h4⟩:=q;obtain⟨vs,h5,h6⟩:=(nG k).1 h4;exact⟨c,el,fz,vs,Q,O,h3,h5,h6⟩
 |_=>exact q
end
theorem Oi{o:h2}{r:Row}(h:o.row=some r):o.wr=true:=by cases o<;>simp[h2.row]at h<;>rfl
def eN(h:J h2)(m:Nat):Prop:=∃o,h.get m=some o/\o.wr=true
section
variable{h:J h2}{n m:Nat}{x:Option h2}
theorem Oj{h':J h2}{m n:Nat}(e:h.get m=h'.get n)(k:eN h m):eN h' n:=by obtain⟨o,a,b⟩:=k;exact⟨o,e.symm.trans a,b⟩
theorem rH(hn:n<fZ):eN (h.set n x) m->(m=n/\∃o,x=some o/\o.wr=true)\/(m≠n/\eN h m):=by
 rintro⟨o,e,k⟩;rw[J.fJ _ _ _ hn]at e;split at e
 . rename_i q;exact .inl ⟨q,o,e,k⟩
 . rename_i q;exact .inr ⟨q,o,e,k⟩
theorem pR(hn:n<fZ)(k:eN (h.set n x) m)(q:m≠n):eN h m:=
 (rH hn k).elim (fun c=>absurd c.1 q) (·.2)
theorem eN.live(k:eN h m):h.get m≠none:=by obtain⟨o,e,_⟩:=k;rw[e];simp
end
structure Good(E:Env)(h:J h2)(w:World):Prop where
 rel:∀m o,h.get m=some o->∃b s,E.ι m=some (b,s)/\nE E w b s o
 inj:∀m m' b s X,m≠m'->eN h m->h.get m'≠none->E.ι m=some (b,s)->E.ι m'=some (b,X)->False
 oL:∀m b s,E.ι m=some (b,s)->b<w.heap.size
 kx:GE E
 iz:∀b c,E.φ b=some c->(∃el fz,w.heap[b]? =some (.cells c el fz))/\∀m s,eN h m->E.ι m≠some (b,s)
structure iQ(E:Env)(h:J h2)(w:World)(E':Env)(h':J h2)(w':World):Prop where
 le:E.le E'
 good:Good E' h' w'
 size:w.heap.size<=w'.heap.size
 tape:w'.tape=w.tape
 os:w'.os=w.os
 output:w'.output=w.output
 keep:∀b,b<w.heap.size->(∀m s,eN h m->E.ι m≠some (b,s))->w'.heap[b]? =w.heap[b]?
 tL:∀m b s,h'.get m≠none->E'.ι m=some (b,s)->b<w.heap.size->∃m0 s0,h.get m0≠none/\E.ι m0=some (b,s0)/\(eN h' m->eN h m0)
 DI:∀b c,E'.φ b=some c->E.φ b=some c\/w.heap.size<=b\/∃m s,eN h m/\E.ι m=some (b,s)
theorem iQ.refl{E:Env}{h:J h2}{w:World}(g:Good E h w):iQ E h w E h w:=
 ⟨E.le_refl,g,aK _,rfl,rfl,rfl,fun _ _ _=>rfl,fun m _ s K e _=>⟨m,s,K,e,id⟩,fun _ _ q=>.inl q⟩
theorem iQ.trans{E E1 E2:Env}{h Q O:J h2}{w w1 w2:World}(a:iQ E h w E1 Q w1)(b:iQ E1 Q w1 E2 O w2):iQ E h w E2 O w2 where
 le:=Env.le_trans a.le b.le
 good:=b.good
 size:=bE a.size b.size
 tape:=b.tape.trans a.tape
 os:=b.os.trans a.os
 output:=b.output.trans a.output
 keep:=fun x I hn=>by
  rw[b.keep x (bR I a.size) ?_,a.keep x I hn];intro m s K e;obtain⟨m0,s0,h0,e0,k0⟩:=a.tL m x s K.live e I;exact hn m0 s0 (k0 K) e0
 tL:=fun m x s K e I=>by
  obtain⟨m1,s1,oG,e1,k1⟩:=b.tL m x s K e (bR I a.size);obtain⟨m2,s2,O,e2,k2⟩:=a.tL m1 x s1 oG e1 I;exact⟨m2,s2,O,e2,fun q=>k2 (k1 q)⟩
 DI:=fun x c B=>by
  rcases b.DI x c B with q|q|⟨m,s,q1,q2⟩
  . exact a.DI x c q
  . exact .inr (.inl (bE a.size q))
  . rcases bt x w.heap.size with I|I
    . obtain⟨m0,s0,_,e0,k0⟩:=a.tL m x s q1.live q2 I;exact .inr (.inr ⟨m0,s0,k0 q1,e0⟩)
    . exact .inr (.inl I)
theorem Good.same{E:Env}{h:J h2}{w w':World}(g:Good E h w)(e:w'.heap=w.heap):Good E h w' where
 rel:=fun m o K=>let⟨b,s,Q,O⟩:=g.rel m o K;⟨b,s,Q,ji E.le_refl rfl (by rw[e]) O⟩
 inj:=g.inj
 oL:=fun m b s h=>by rw[e];exact g.oL m b s h
 kx:=g.kx
 iz:=fun b c q=>⟨by rw[e];exact(g.iz b c q).1,(g.iz b c q).2⟩
theorem iQ.drew{E:Env}{h:J h2}{w:World}(g:Good E h w):iQ E h w E h w.drew:=
 ⟨E.le_refl,g.same rfl,aK _,rfl,rfl,rfl,fun _ _ _=>rfl,fun m _ s K e _=>⟨m,s,K,e,id⟩,fun _ _ q=>.inl q⟩
def Env.put(E:Env)(n b s z:Nat):Env:={ ι:=fun m=>if m=n then some (b,s)else E.ι m,β:=fun x=>if x=b then z else E.β x,φ:=E.φ }
section
variable{E:Env}{w:World}{n:Nat}{o:Obj}{b s z:Nat}
theorem Env.fP:(E.put n b s z).ι n=some (b,s):=by simp[Env.put]
theorem Env.gU{m:Nat}(h:m≠n):(E.put n b s z).ι m=E.ι m:=by simp[Env.put,h]
theorem Env.uD(hn:E.ι n=none)(hb:∀m x t,E.ι m=some (x,t)->x=b->E.β b=z):E.le (E.put n b s z):=by
 refine⟨?_,fun _ _ h=>h⟩;intro m x t e;have:m≠n:=by intro h;rw[h,hn]at e;simp at e
 refine⟨by rw[Env.gU this];exact e,?_⟩;show(if x=b then z else E.β x)=E.β x;split
 . rename_i h;rw[<- hb m x t e h,h]
 . rfl
theorem qT(h:b<w.heap.size):(w.alloc o).heap[b]? =w.heap[b]?:=by
 simp only[World.alloc,Array.getElem?_push];rw[aB H]
theorem heap_alloc_new:(w.alloc o).heap[w.heap.size]? =some o:=by
 simp only[World.alloc,Array.getElem?_push,if_true]
end
def jU:Obj->Nat
 | .cells c _ _=>c.size
 |_=>0
theorem iQ.alloc{E:Env}{h:J h2}{w:World}{n:Nat}{o:h2}{ob:Obj}(g:Good E h w)(hn:E.ι n=none)(ht:n<fZ)
  (ho:nE (E.put n w.heap.size 0 (jU ob)) (w.alloc ob) w.heap.size 0 o):
  iQ E h w (E.put n w.heap.size 0 (jU ob)) (h.set n (some o)) (w.alloc ob):=by
 have y6:∀m b s,E.ι m=some (b,s)->b≠w.heap.size:=fun m b s e hb=>by have:=g.oL m b s e;omega
 have kK:E.le (E.put n w.heap.size 0 (jU ob)):=Env.uD hn fun m x t e I=>absurd I (y6 m x t e);have DJ:∀b c,E.φ b=some c->b<w.heap.size:=fun b c q=>by
  obtain⟨⟨el,fz,e⟩,_⟩:=g.iz b c q;exact(aW.1 e).1
 refine⟨kK,⟨?_,?_,?_,g.kx.mono kK,fun b c q=>⟨by rw[qT (DJ b c q)];exact(g.iz b c q).1,fun m s K e=>?_⟩⟩,by simp,rfl,rfl,rfl,fun b hb _=>qT hb,?_,fun _ _ q=>.inl q⟩
 case refine_4=>
  by_cases a:m=n
  . subst a;rw[Env.fP]at e;cases e;exact absurd (DJ _ c q) (Nat.lt_irrefl _)
  . rw[Env.gU a]at e;exact(g.iz b c q).2 m s (pR ht K a) e
 . intro m o' K;rw[J.fJ _ _ _ ht]at K;by_cases e:m=n
   . subst e;rw[aG rfl]at K;cases K;exact⟨_,_,Env.fP,ho⟩
   . rw[aB e]at K;obtain⟨b,s,Q,O⟩:=g.rel m o' K;exact⟨b,s,by rw[Env.gU e];exact Q,ji kK (kK.nm m b s Q).2 (qT (g.oL m b s Q)) O⟩
 . intro m m' b s X iV K sD e e';rw[J.fJ _ _ _ ht]at sD;by_cases a:m=n
   . subst a;rw[Env.fP]at e;have:m'≠m:=fun x=>iV x.symm;rw[Env.gU this]at e';cases e;exact y6 _ _ _ e' rfl
   . rw[Env.gU a]at e;replace K:eN h m:=pR ht K a;by_cases a':m'=n
     . subst a';rw[Env.fP]at e';cases e';exact y6 _ _ _ e rfl
     . rw[Env.gU a']at e';rw[aB a']at sD;exact g.inj m m' b s X iV K sD e e'
 . intro m b s e;by_cases a:m=n
   . subst a;rw[Env.fP]at e;cases e;simp
   . rw[Env.gU a]at e;have:=g.oL m b s e;simp;omega
 . intro m b s K e hb;by_cases a:m=n
   . subst a;rw[Env.fP]at e;cases e;omega
   . rw[Env.gU a]at e;rw[J.fJ _ _ _ ht,aB a]at K;exact⟨m,s,K,e,fun q=>pR ht q a⟩
section
variable{E:Env}{h h':J h2}{w w':World}{m b s:Nat}{o:h2}
theorem iQ.write(g:Good E h w)(ht:m<fZ)(iU:eN h m)(K:E.ι m=some (b,s))
  (Ef:w'.heap.size=w.heap.size) (G4:w'.tape=w.tape) (hos:w'.os=w.os) (y7:w'.output=w.output)
  (pS:∀x,x≠b->w'.heap[x]? =w.heap[x]?) (ho:nE E w' b s o):iQ E h w E (h.set m (some o)) w':=by
 refine⟨E.le_refl,⟨?_,?_,?_,g.kx,fun b' c q=>⟨?_,fun k t W e=>?_⟩⟩,H,G4,hos,y7,?_,?_,fun _ _ q=>.inl q⟩
 case refine_4=>rw[pS b' fun e=>(g.iz b' c q).2 m s iU (e▸K)];exact(g.iz b' c q).1
 case refine_5=>
  rcases rH ht W with⟨a,_⟩|a
  . exact(g.iz b' c q).2 m t iU (a▸e)
  . exact(g.iz b' c q).2 k t a.2 e
 . intro k o' W;rw[J.fJ _ _ _ ht]at W;by_cases e:k=m
   . subst e;rw[aG rfl]at W;cases W;exact⟨b,s,K,ho⟩
   . rw[aB e]at W;obtain⟨b',X,Q,O⟩:=g.rel k o' W;have iV:b'≠b:=by
      intro hb;subst hb;exact g.inj m k b' s X (fun q=>e q.symm) iU (by rw[W];simp) K Q
     exact⟨b',X,Q,ji E.le_refl rfl (pS b' iV) O⟩
 . intro k k' x t t' iV W oV e e';refine g.inj k k' x t t' iV ?_ ?_ e e'
   . rcases rH ht W with⟨q,_⟩|q
     . rw[q];exact iU
     . exact q.2
   . rw[J.fJ _ _ _ ht]at oV;split at oV
     . rename_i q;rw[q];exact iU.live
     . exact oV
 . intro k x t e;rw[Ef];exact g.oL k x t e
 . intro x _ hn;refine pS x ?_;intro I;subst I;exact hn m s iU K
 . intro k x t W e _;by_cases q:k=m
   . subst q;exact⟨k,t,iU.live,e,fun _=>iU⟩
   . rw[J.fJ _ _ _ ht,aB q]at W;exact⟨k,t,W,e,fun c=>pR ht c q⟩
theorem iQ.move{n b s X:Nat}{o:h2}(g:Good E h w)(ht:m<fZ)(hn:n<fZ)(qU:E.ι n=none)(iU:eN h m)(K:E.ι m=some (b,s))
  (Ef:w'.heap.size=w.heap.size) (G4:w'.tape=w.tape) (hos:w'.os=w.os) (y7:w'.output=w.output)
  (pS:∀x,x≠b->w'.heap[x]? =w.heap[x]?) (ho:nE (E.put n b X (E.β b)) w' b X o):
  iQ E h w (E.put n b X (E.β b)) ((h.set m none).set n (some o)) w':=by
 have Ss:m≠n:=by intro e;rw[e,qU]at K;simp at K
 have kK:E.le (E.put n b X (E.β b)):=Env.uD qU fun _ _ _ _ _=>rfl;have lC:∀k,((h.set m none).set n (some o)).get k=if k=n then some o else if k=m then none else h.get k:=by
  intro k;rw[J.fJ _ _ _ hn];split
  . rfl
  . rw[J.fJ _ _ _ ht]
 have Mr:∀k,eN ((h.set m none).set n (some o)) k->k=n\/(k≠n/\k≠m/\eN h k):=by
  intro k q;rcases rH hn q with q|q
  . exact .inl q.1
  . rcases rH ht q.2 with c|c
    . obtain⟨_,_,c,_⟩:=c;cases c
    . exact .inr ⟨q.1,c.1,c.2⟩
 refine⟨kK,⟨?_,?_,?_,g.kx.mono kK,fun b2 c q=>⟨?_,fun k t W e=>?_⟩⟩,H,G4,hos,y7,?_,?_,fun _ _ q=>.inl q⟩
 case refine_4=>rw[pS b2 fun e=>(g.iz b2 c q).2 m s iU (e▸K)];exact(g.iz b2 c q).1
 case refine_5=>
  rcases Mr k W with a|⟨a,_,a2⟩
  . subst a;rw[Env.fP]at e;cases e;exact(g.iz _ c q).2 m s iU K
  . rw[Env.gU a]at e;exact(g.iz b2 c q).2 k t a2 e
 . intro k o' W;rw[lC]at W;by_cases e:k=n
   . subst e;rw[aG rfl]at W;cases W;exact⟨_,_,Env.fP,ho⟩
   . rw[aB e]at W;by_cases e2:k=m
     . rw[aG e2]at W;cases W
     . rw[aB e2]at W;obtain⟨b',t,Q,O⟩:=g.rel k o' W;have iV:b'≠b:=by
        intro hb;subst hb;exact g.inj m k b' s t (fun q=>e2 q.symm) iU (by rw[W];simp) K Q
       exact⟨b',t,by rw[Env.gU e];exact Q,ji kK (kK.nm k b' t Q).2 (pS b' iV) O⟩
 . intro k k' x t t' iV W oV e e';rw[lC]at oV;rcases Mr k W with a|⟨a,c,Ms⟩
   . subst a;rw[Env.fP]at e;cases e;have a':k'≠k:=fun q=>iV q.symm;rw[Env.gU a']at e';rw[aB a']at oV;by_cases c:k'=m
     . rw[aG c]at oV;exact oV rfl
     . rw[aB c]at oV;exact g.inj m k' b s t' (fun q=>c q.symm) iU oV K e'
   . rw[Env.gU a]at e;by_cases a':k'=n
     . subst a';rw[Env.fP]at e';cases e';exact g.inj m k b s t (fun q=>c q.symm) iU Ms.live K e
     . rw[Env.gU a']at e';rw[aB a']at oV;by_cases c':k'=m
       . rw[aG c']at oV;exact oV rfl
       . rw[aB c']at oV;exact g.inj k k' x t t' iV Ms oV e e'
 . intro k x t e;by_cases a:k=n
   . subst a;rw[Env.fP]at e;cases e;rw[Ef];exact g.oL m b s K
   . rw[Env.gU a]at e;rw[Ef];exact g.oL k x t e
 . intro x _ I;refine pS x ?_;intro q;subst q;exact I m s iU K
 . intro k x t W e _;rw[lC]at W;by_cases a:k=n
   . subst a;rw[Env.fP]at e;cases e;exact⟨m,s,iU.live,K,fun _=>iU⟩
   . rw[Env.gU a]at e;rw[aB a]at W;by_cases c:k=m
     . rw[aG c]at W;exact absurd rfl W
     . rw[aB c]at W;exact⟨k,t,W,e,fun q=>(Mr k q).elim (fun c=>absurd c a) (·.2.2)⟩
theorem pU(hs:∀m o,h'.get m=some o->h.get m=some o){m:Nat}(k:h'.get m≠none):h.get m≠none:=by
 cases q:h'.get m with
 |none=>exact absurd q k
 |some o=>rw[hs m o q];simp
theorem ig(hs:∀m o,h'.get m=some o->h.get m=some o){m:Nat}(k:eN h' m):eN h m:=by
 obtain⟨o,a,b⟩:=k;exact⟨o,hs m o a,b⟩
theorem Good.sub(g:Good E h w)(hs:∀m o,h'.get m=some o->h.get m=some o):Good E h' w where
 rel:=fun m o K=>g.rel m o (hs m o K)
 inj:=fun m m' b s X iV K sD e e'=>g.inj m m' b s X iV (ig hs K) (pU hs sD) e e'
 oL:=g.oL
 kx:=g.kx
 iz:=fun b c q=>⟨(g.iz b c q).1,fun m s K=>(g.iz b c q).2 m s (ig hs K)⟩
theorem iQ.forget(g:Good E h w)(ht:m<fZ):iQ E h w E (h.set m none) w:=by
 have hs:∀k o,(h.set m none).get k=some o->h.get k=some o:=by
  intro k o W;rw[J.fJ _ _ _ ht]at W;split at W
  . cases W
  . exact W
 exact⟨E.le_refl,g.sub hs,aK _,rfl,rfl,rfl,fun _ _ _=>rfl,fun k b s W e _=>⟨k,s,pU hs W,e,ig hs⟩,fun _ _ q=>.inl q⟩
theorem Addr.jb(b o n:Nat):(⟨b,o,none⟩:Addr).add n=⟨b,o+n,none⟩:=by
 unfold Addr.add;split
 . rename_i h;subst h;rfl
 . rfl
theorem mP{i:Nat}{c:Array Value}{el:TypeId}{fz:Nat×Nat}(h:w.heap[b]? =some (.cells c el fz)):w.cell? ⟨b,i,none⟩=c[i]?:=by
 simp[World.cell?,h]
end
theorem run_loadCellsFrom{P:Program}{w:World}{b o:Nat}{c:Array Value}{el:TypeId}{fz:Nat×Nat}(h:w.heap[b]? =some (.cells c el fz)):
  ∀(n i:Nat) (Ed:Array Value),o+i+n<=c.size->(loadCellsFrom ⟨b,o,none⟩ i n Ed).run P w= .ok (Ed++((c.toList.drop (o+i)).take n).toArray) w
 |0,i,Ed,_=>by simp[loadCellsFrom]
 |n+1,i,Ed,hn=>by
  have eO:o+i<c.size:=by omega
  simp only[loadCellsFrom,Sem.run_bind,run_load,Addr.jb,mP h];rw[bf eO];simp only[Result.andThen_ok];rw[run_loadCellsFrom h n (i+1) _ H];congr 1;have hd:c.toList.drop (o+i)=c[o+i]::c.toList.drop (o+(i+1)):=by
   rw[b9 (by simpa using eO)];simp[Nat.add_assoc]
  rw[hd];simp
theorem run_loadCells{P:Program}{w:World}{b o n:Nat}{c:Array Value}{el:TypeId}{fz:Nat×Nat}(h:w.heap[b]? =some (.cells c el fz))(hn:o+n<=c.size):
  (loadCells ⟨b,o,none⟩ n).run P w= .ok ((c.toList.drop o).take n).toArray w:=by
 unfold loadCells;rw[run_loadCellsFrom h n 0 #[] H];simp
def putCells(c:Array Value)(o:Nat)(vs:List Value):Array Value:=(c.toList.take o++(vs++c.toList.drop (o+vs.length))).toArray
section
variable{c:Array Value}{o:Nat}{vs:List Value}
theorem jG(h:o+vs.length<=c.size):(putCells c o vs).size=c.size:=by
 simp[putCells];omega
theorem mQ(h:o+vs.length<=c.size)(j:Nat):
  (putCells c o vs)[j]? =if o<=j/\j<o+vs.length then vs[j-o]? else c[j]?:=by
 simp only[putCells,List.getElem?_toArray];rw[List.getElem?_append];have hl:(List.take o c.toList).length=o:=by simp;omega
 rw[hl];by_cases Q:j<o
 . rw[aG Q,aB H,bS,aG Q];simp
 . rw[aB Q,List.getElem?_append];by_cases O:j<o+vs.length
   . rw[aG H,aG H]
   . rw[aB H,aB H,bU];simp;congr 1;omega
theorem qV{v:Value}{vs:List Value}(h:o+(vs.length+1)<=c.size):
  putCells (c.setIfInBounds o v) (o+1) vs=putCells c o (v::vs):=by
 have e1:o+1+vs.length<=(c.setIfInBounds o v).size:=by simp;omega
 have e2:o+(v::vs).length<=c.size:=by simpa using h
 apply Array.ext
 . rw[jG e1,jG e2];simp
 . intro j Q O;have:(putCells (c.setIfInBounds o v) (o+1) vs)[j]? =(putCells c o (v::vs))[j]?:=by
    rw[mQ e1,mQ e2];by_cases a:j=o
    . subst a;rw[aB H,aG (by simp)];have hj:j<c.size:=by omega
      simp[hj]
    . by_cases b:o+1<=j/\j<o+1+vs.length
      . rw[aG b,aG (by simp;omega)];have:j-o=(j-(o+1))+1:=by omega
        rw[this];simp
      . rw[aB b,aB (by simp;omega)];rw[Array.getElem?_setIfInBounds];rw[aB (fun q=>a q.symm)]
   rw[bf Q,bf O]at this;exact dg this
end
theorem mR{P:Program}{b o:Nat}{el:TypeId}{fz:Nat×Nat}:∀(vs:List Value) (i:Nat) (w:World) (c:Array Value),w.heap[b]? =some (.cells c el fz)->
  mO fz c.size->(∀v∈vs,v.oneCell'=true)->o+i+vs.length<=c.size->
  ∃w',(storeCells ⟨b,o,none⟩ vs i).run P w= .ok () w'/\w'.heap[b]? =some (.cells (putCells c (o+i) vs) el fz)/\w'.heap.size=w.heap.size/\w'.tape=w.tape/\w'.os=w.os/\w'.output=w.output/\
   ∀x,x≠b->w'.heap[x]? =w.heap[x]?
 | [],i,w,c,h,_,_,hn=>by
   refine⟨w,rfl,?_,rfl,rfl,rfl,rfl,fun _ _=>rfl⟩;rw[h];have:putCells c (o+i) []=c:=by simp[putCells]
   rw[this]
 |v::vs,i,w,c,h,hf,hv,hn=>by
  simp only[aP]at hn;have eO:o+i<c.size:=by omega
  have hnf:w.frozen? ⟨b,o+i,none⟩=false:=by
   have:=hf (o+i) eO;simp only[World.frozen?,h];simpa using this
  let w1:=w.setCell ⟨b,o+i,none⟩ v
  have Jp:w1.heap[b]? =some (.cells (c.setIfInBounds (o+i) v) el fz):=by
   simp[w1,World.setCell,cR,h]
  obtain⟨w',e1,e2,e3,e4,e5,e6,e7⟩:=mR (P:=P) (o:=o) vs (i+1) w1 (c.setIfInBounds (o+i) v) Jp (by simpa using hf) (fun v hv'=>hv v (by simp[hv'])) (by simp only[Array.size_setIfInBounds];omega);refine⟨w',?_,?_,by rw[e3];simp[w1],by rw[e4];rfl,by rw[e5];rfl,by rw[e6];rfl,?_⟩
  . simp only[storeCells,Sem.run_bind];rw[run_store P w _ v .plain (hv v (by simp)),Addr.jb,mP h,bf eO];simp only[hnf,aM,cz,Result.andThen_ok];exact e1
  . rw[e2];have:o+(i+1)=o+i+1:=by omega
    rw[this,qV H]
  . intro x I;rw[e7 x I];simp[w1,World.setCell,cR,Ne.symm I]
theorem sM{E:Env}:∀{v:Value} {x:V},iN v=some x->dV E x v:=by
 intro v x h;cases v with
 |bool b=>simp only[iN,aq]at h;subst h;rfl
 |int k n=>simp only[iN,aq]at h;subst h;rfl
 |string s=>
  simp only[iN,aq]at h;subst h;show Value.string s= .string ⟨s.data.toList.toArray⟩;rw[Array.toArray_toList]
 |pointer a=>cases a<;>simp only[iN,aq]at h;. subst h;rfl
             . cases h
 |slice a l c=>
  cases a with
  |none=>match l,c,h with
   |0,0,h=>simp only[iN,aq]at h;subst h;exact⟨rfl,rfl,rfl⟩
  |some a=>simp[iN]at h
 |map a=>cases a<;>simp only[iN,aq]at h;. subst h;rfl
         . cases h
 |nilFunc=>simp only[iN,aq]at h;subst h;rfl
 |nilIface=>simp only[iN,aq]at h;subst h;rfl
 |_=>simp[iN]at h
theorem vX{E:Env}:∀{vs:List Value} {xs:ag},nA vs=some xs->dZ E xs vs
 | [],xs,h=>by simp only[nA,aq]at h;subst h;rfl
 |v::vs,xs,h=>by
  simp only[nA]at h;cases Q:iN v with
  |none=>simp[Q]at h
  |some x=>cases O:nA vs with
   |none=>simp[Q,O]at h
   |some r=>simp only[Q,O,aq]at h;subst h;exact⟨v,vs,sM Q,vX O,rfl⟩
theorem y8{E:Env}{v:Value}{x:V}(h:Ld v=some x):dV E x v:=by
 unfold Ld at h;split at h
 . rename_i R;cases Q:nA R.toList with
   |none=>simp[Q]at h
   |some r=>simp only[Q,aq]at h;subst h;exact⟨R.toList,vX Q,by simp⟩
 . exact sM h
section runs
variable{P:Program}{w:World}
section
variable{t:TypeId}
theorem dP{d:TypeDesc}(h:P.underlying t=some d):(underlying t).run P w= .ok d w:=by simp[underlying,h]
theorem fB{s:Nat}(h:ku P t=some s):(sizeOf t).run P w= .ok s w:=by
 unfold ku at h;cases hi:P.info? t with
 |none=>simp[hi]at h
 |some i=>simp[hi]at h;simp[sizeOf,typeInfo,hi,h]
theorem kZ{z:V}(E:Env)(h:zeroOf P t=some z):∃z',(zeroValue t).run P w= .ok z' w/\dV E z z'/\(∃i,P.info? t=some i/\i.zero=some z'):=by
 unfold zeroOf at h;cases hi:P.info? t with
 |none=>simp[hi]at h
 |some i=>
  simp only[hi]at h;cases hz:i.zero with
  |none=>simp[hz]at h
  |some v=>simp only[hz]at h;exact⟨v,by simp[zeroValue,typeInfo,hi,hz],y8 h,i,rfl,hz⟩
theorem rI{b:Bool}(h:GV P t=some b):(isAgg t).run P w= .ok b w:=by
 unfold GV at h;split at h
 . rename_i hu;simp at h;subst h;simp[isAgg,dP hu]
 . rename_i hu;simp at h;subst h;simp[isAgg,dP hu]
 . rename_i d Q O hu;simp at h;subst h;simp only[isAgg,Sem.run_bind,dP hu,Result.andThen_ok]
   first|rfl|(split<;>first|rfl|(exact absurd rfl (Q _))|(exact absurd rfl (O _ _)))
 . cases h
end
end runs
def jP(P:Program)(E:Env)(h:J h2)(n:Nat)(w:World)(s:Sem Next):cs->Prop
 | .val v h' n'=>∃E' w' v',(s.run P w= .ok (.value v') w'\/(s.run P w= .ok .skip w'/\v'=undef))/\dV E' v v'/\iQ E h w E' h' w'/\
    (∀m,m≠n->E'.ι m=E.ι m)/\((n'=n/\E'=E)\/n'=n+1)
 | .call f args=>∃dH,dZ E args dH/\((s.run P w= .ok (.enter f dH.toArray) w/\callee P f=true)\/(∃m l b,f=P.funcs.size+m/\E.ι m=some (l,b)/\s.run P w=(Instr.yield l dH.toArray).run P w))
 | .tY f c args=>∃c' dH,s.run P w= .ok (.defer { target:=.fn (.func f) c'.toArray,args:=dH.toArray }) w/\dZ E c c'/\dZ E args dH
 | .recover=>s.run P w= .ok .recover w
 | .panic v=>∃v',s.run P w= .halt (.panic v') w/\dV E v v'
theorem eu{P:Program}{E:Env}{h:J h2}{n:Nat}{w:World}{s:Sem Next}{v:V}{v':Value}(g:Good E h w)
  (hr:s.run P w= .ok (.value v') w) (hv:dV E v v'):jP P E h n w s (.val v h n):=
 ⟨E,w,v',.inl hr,hv,iQ.refl g,fun _ _=>rfl,.inl ⟨rfl,rfl⟩⟩
theorem n5{E:Env}{R:ag}{c:Array Value}(r:dZ E R c.toList):lS E 0 R c:=by
 intro i v h;obtain⟨v',Q,O⟩:=gK r i v h;exact⟨v',by simpa using Q,O⟩
theorem kN{h h':J h2}{n n':Nat}{o:h2}(e:newObj h n o=some (h',n')):n<fZ/\h'=h.set n (some o)/\n'=n+1:=by
 unfold newObj at e;split at e
 . rename_i q;simp at e;exact⟨q,e.1.symm,e.2.symm⟩
 . cases e
theorem Jq{P:Program}{E:Env}{h h':J h2}{n n':Nat}{w w1:World}{s:Sem Next}{R:ag}{c:Array Value}{el:TypeId}{fz:Nat×Nat}{v:V}{v':Value}
  (g:Good E h w) (hn:E.ι n=none) (e:newObj h n (.cells R)=some (h',n')) (hw:w1.heap=w.heap) (ht:w1.tape=w.tape) (ho:w1.os=w.os) (y7:w1.output=w.output)
  (DJ:mO fz c.size) (hr:s.run P w= .ok (.value v') (w1.alloc (.cells c el fz))) (B:lS E 0 R c)
  (hv:dV (E.put n w.heap.size 0 c.size) v v'):jP P E h n w s (.val v h' n'):=by
 obtain⟨gL,rfl,rfl⟩:=kN e;have g1:Good E h w1:=g.same hw;have hs:w1.heap.size=w.heap.size:=by rw[hw]
 have kK:E.le (E.put n w1.heap.size 0 c.size):=Env.uD hn fun m x t q I=>by have:=g1.oL m x t q;omega
 have u1:iQ E h w E h w1:=⟨E.le_refl,g1,H,ht,ho,y7,fun b _ _=>by rw[hw],fun m _ s K q _=>⟨m,s,K,q,id⟩,fun _ _ q=>.inl q⟩;have u:=iQ.alloc (ob:=.cells c el fz) (o:=.cells R) g1 hn gL ⟨c,el,fz,heap_alloc_new,by simp[Env.put,jU],DJ,pA kK B⟩;refine⟨E.put n w1.heap.size 0 c.size,_,v',.inl hr,by rw[hs];exact hv,u1.trans u,fun m K=>Env.gU K,.inr rfl⟩
theorem y9{P:Program}{E:Env}{h h':J h2}{n n':Nat}{w w1:World}{s:Sem Next}{R:ag}{c:Array Value}{el:TypeId}{v:V}{v':Value}
  (g:Good E h w) (hn:E.ι n=none) (e:newObj h n (.cells R)=some (h',n')) (hw:w1.heap=w.heap) (ht:w1.tape=w.tape) (ho:w1.os=w.os) (y7:w1.output=w.output)
  (hr:s.run P w= .ok (.value v') (w1.alloc (.cells c el))) (B:lS E 0 R c)
  (hv:dV (E.put n w.heap.size 0 c.size) v v'):jP P E h n w s (.val v h' n'):=
 Jq g hn e hw ht ho y7 (fun i _ q=>by simp at q) hr B hv
theorem G5{P:Program}{E:Env}{h h':J h2}{n n':Nat}{w w1:World}{s:Sem Next}{r:Row}{c:Array Value}{el:TypeId}{fz:Nat×Nat}{v:V}{v':Value}
  (g:Good E h w) (hn:E.ι n=none) (Jm:r.sc) (e:newObj h n r.Eb=some (h',n')) (hw:w1.heap=w.heap) (ht:w1.tape=w.tape) (ho:w1.os=w.os) (y7:w1.output=w.output)
  (DJ:mO fz c.size) (hr:s.run P w= .ok (.value v') (w1.alloc (.cells c el fz))) (B:lS E 0 r.jQ c)
  (hv:dV (E.put n w.heap.size 0 c.size) v v'):jP P E h n w s (.val v h' n'):=by
 obtain⟨gL,rfl,rfl⟩:=kN e;have g1:Good E h w1:=g.same hw;have hs:w1.heap.size=w.heap.size:=by rw[hw]
 have kK:E.le (E.put n w1.heap.size 0 c.size):=Env.uD hn fun m x t q I=>by have:=g1.oL m x t q;omega
 have u1:iQ E h w E h w1:=⟨E.le_refl,g1,H,ht,ho,y7,fun b _ _=>by rw[hw],fun m _ s K q _=>⟨m,s,K,q,id⟩,fun _ _ q=>.inl q⟩;have u:=iQ.alloc (ob:=.cells c el fz) (o:=r.Eb) g1 hn gL (xL ⟨c,el,_,heap_alloc_new,by simp[Env.put,jU],DJ,pA kK B⟩ Jm);refine⟨E.put n w1.heap.size 0 c.size,_,v',.inl hr,by rw[hs];exact hv,u1.trans u,fun m K=>Env.gU K,.inr rfl⟩
theorem sN{P:Program}{E:Env}{h h':J h2}{n n':Nat}{w w1:World}{s:Sem Next}{r:Row}{c:Array Value}{el:TypeId}{v:V}{v':Value}
  (g:Good E h w) (hn:E.ι n=none) (Jm:r.sc) (e:newObj h n r.Eb=some (h',n')) (hw:w1.heap=w.heap) (ht:w1.tape=w.tape) (ho:w1.os=w.os) (y7:w1.output=w.output)
  (hr:s.run P w= .ok (.value v') (w1.alloc (.cells c el))) (B:lS E 0 r.jQ c)
  (hv:dV (E.put n w.heap.size 0 c.size) v v'):jP P E h n w s (.val v h' n'):=by
 obtain⟨gL,rfl,rfl⟩:=kN e;have g1:Good E h w1:=g.same hw;have hs:w1.heap.size=w.heap.size:=by rw[hw]
 have kK:E.le (E.put n w1.heap.size 0 c.size):=Env.uD hn fun m x t q I=>by have:=g1.oL m x t q;omega
 have u1:iQ E h w E h w1:=⟨E.le_refl,g1,H,ht,ho,y7,fun b _ _=>by rw[hw],fun m _ s K q _=>⟨m,s,K,q,id⟩,fun _ _ q=>.inl q⟩;have u:=iQ.alloc (ob:=.cells c el) (o:=r.Eb) g1 hn gL (xL ⟨c,el,_,heap_alloc_new,by simp[Env.put,jU],(fun i _ q=>by simp at q),pA kK B⟩ Jm);refine⟨E.put n w1.heap.size 0 c.size,_,v',.inl hr,by rw[hs];exact hv,u1.trans u,fun m K=>Env.gU K,.inr rfl⟩
theorem V4{E:Env}{h:J h2}{w:World}{n z:Nat}(g:Good E h w)(hn:E.ι n=none):E.le (E.put n w.heap.size 0 z):=
 Env.uD hn fun m x t q I=>by have:=g.oL m x t q;omega
section ops
variable{P:Program}{E:Env}{h:J h2}{n:Nat}{w:World}
theorem Fg(P:Program)(t:TypeId)(z:V):BM P t z= .cells z.cells\/(z.cells=[.ptr none,.eR none 0 0 0]/\BM P t z= .AS t false (.eR none 0 0 0)):=by
 unfold BM;split
 . rename_i hz;split
   . split
     . split
       . split
         . exact .inr ⟨hz,rfl⟩
         . exact .inl rfl
       . exact .inl rfl
     . exact .inl rfl
   . exact .inl rfl
 . exact .inl rfl
section
variable{t:TypeId}{m s o:Nat}
theorem Ok{z:V}{h':J h2}{n':Nat}(g:Good E h w)(hn:E.ι n=none)(hz:zeroOf P t=some z)(e:newObj h n (BM P t z)=some (h',n')):
  jP P E h n w (do pure (.value (<- Instr.alloc t true (.tuple #[])))) (.val (.ptr (some (n,0))) h' n'):=by
 obtain⟨z',hr,hv,_⟩:=kZ (w:=w) E hz;rcases Fg P t z with q|⟨B,q⟩
 case inr=>
  rw[q]at e;obtain⟨gL,rfl,rfl⟩:=kN e;have qq:=iD hv;rw[B]at qq;obtain⟨p',_,r1,⟨x',_,r2,mS,rfl⟩,hl⟩:=qq;simp only[dZ]at mS;subst mS;simp only[dV]at r1;subst r1;have Z2:z'.cells=#[.pointer none,x']:=by apply Array.ext';rw[hl]
  have hu:=iQ.alloc (ob:=.cells z'.cells t) (o:=.AS t false (.eR none 0 0 0)) g hn gL ⟨rfl,x',_,by rw[heap_alloc_new,Z2];rfl,by simp[Env.put,jU,Z2],(fun i _ q=>by simp at q),jh (V4 g hn) _ _ r2⟩;exact⟨_,_,.pointer (some ⟨w.heap.size,0,none⟩),.inl (by simp[Instr.alloc,hr,newVar,newRow]),⟨_,_,Env.fP,by simp⟩,hu,fun m K=>Env.gU K,.inr rfl⟩
 rw[q]at e;refine y9 (c:=z'.cells) (el:=t) (w1:=w) (v':=.pointer (some ⟨w.heap.size,0,none⟩)) g hn e rfl rfl rfl rfl ?_ (n5 (iD hv)) ⟨_,_,Env.fP,by simp⟩;simp[Instr.alloc,hr,newVar,newRow]
theorem V5{v:V}{v':Value}{h':J h2}{n':Nat}(g:Good E h w)(hn:E.ι n=none)(hv:dV E v v')(e:newObj h n (.cells v.cells)=some (h',n')):
  jP P E h n w (do pure (.value (<- Instr.box t v'))) (.val (.ptr (some (n,0))) h' n'):=by
 refine y9 (c:=v'.cells) (el:=t) (w1:=w) (v':=.pointer (some ⟨w.heap.size,0,none⟩)) g hn e rfl rfl rfl rfl ?_ (n5 (iD hv)) ⟨_,_,Env.fP,by simp⟩;simp[Instr.box,newVar,newRow]
theorem nI{R:ag}{c:Array Value}(r:lS E s R c){k:Nat}(W:0<k)(B:k<=R.length):s+k<=c.size:=by
 obtain⟨v',Q,_⟩:=r (k-1) (R[k-1]'(by omega)) (au _);have:=(aW.1 Q).1;omega
theorem nJ{R:ag}{c:Array Value}(r:lS E s R c){o k:Nat}(W:o+k<=R.length)(h0:s+o+k<=c.size):
  dZ E ((R.drop o).take k) ((c.toList.drop (s+o)).take k):=by
 refine jd (by simp;omega) fun i v q=>?_;rw[bS]at q ⊢;split at q
 . rename_i hi;rw[aG hi];rw[bU]at q ⊢;obtain⟨v',Q,O⟩:=r (o+i) v q;exact⟨v',by rw[<- Q];simp[Nat.add_assoc],O⟩
 . cases q
theorem za{R:ag}{o k:Nat}{r:ag}(e:cut R o k=some r):o+k<=R.length/\r=(R.drop o).take k:=by
 unfold cut at e;split at e
 . rename_i q;simp at e;exact⟨q,e.symm⟩
 . cases e
theorem jA{b s o:Nat}{R:ag}{v:V}{c:Array Value}{el:TypeId}{fz:Nat×Nat}(hb:w.heap[b]? =some (.cells c el fz))(r:lS E s R c)
  (e:kP P t R o=some v):∃v',(loadVar t ⟨b,s+o,none⟩).run P w= .ok v' w/\dV E v v':=by
 unfold kP at e;split at e
 . rename_i ha;cases hs:ku P t with
   |none=>simp[hs]at e
   |some k=>
    simp only[hs]at e;cases B:cut R o k with
    |none=>simp[B]at e
    |some x=>
     simp only[B,bw,aq]at e;subst e;obtain⟨Q,rfl⟩:=za B;by_cases W:k=0
     . subst W;refine⟨.agg #[],?_,[],by simp[dZ],rfl⟩;simp[loadVar,rI ha,fB hs,loadCells,loadCellsFrom]
     . have h0:s+o+k<=c.size:=by have:=nI r (k:=o+k) H Q;omega
       refine⟨_,?_,_,nJ r Q h0,rfl⟩;simp[loadVar,rI ha,fB hs,run_loadCells hb h0]
 . rename_i ha;obtain⟨v',Q,O⟩:=r o v e;refine⟨v',?_,O⟩;simp[loadVar,rI ha,mP hb,Q]
 . cases e
theorem Ol{E:Env}{m b:Nat}{self:Bool}{x:V}{x':Value}(hi:E.ι m=some (b,0))(I:dV E x x'):lS E 0 (uj m self x) #[.pointer (if self then some ⟨b,0,none⟩else none),x']:=by
 intro i v q
 match i with
 |0=>
  simp only[uj,cF,aq]at q;subst q;refine⟨_,rfl,?_⟩;cases self with
  |true=>exact⟨b,0,hi,rfl⟩
  |false=>rfl
 |1=>
  simp only[uj,List.getElem?_cons_succ,cF,aq]at q;subst q;exact⟨_,rfl,I⟩
 |i+2=>simp[uj]at q
theorem BZ{t:TypeId}{a v:V}{a':Value}(g:Good E h w)(ha:dV E a a')(e:loadAt P t h a=some v):
  ∃b s,a'= .pointer (some ⟨b,s,none⟩)/\∃v',(loadVar t ⟨b,s,none⟩).run P w= .ok v' w/\dV E v v':=by
 unfold loadAt at e;split at e
 . rename_i m o;split at e
   . rename_i R K;obtain⟨b,s,hi,c,el,fz,hb,_,_,B⟩:=g.rel m _ K;obtain⟨b',X,jB,rfl⟩:=ha;rw[hi]at jB;cases jB;obtain⟨v',Q,O⟩:=jA hb B e;exact⟨b,s+o,rfl,v',Q,O⟩
   . rename_i k Y K;obtain⟨b,s,hi,c,el,fz,hb,_,B⟩:=g.rel m _ K;obtain⟨b',X,jB,rfl⟩:=ha;rw[hi]at jB;cases jB;obtain⟨v',Q,O⟩:=jA hb (nF.2 B) e;exact⟨b,s+o,rfl,v',Q,O⟩
   . rename_i k Y K;obtain⟨b,s,hi,c,el,fz,hb,_,_,B⟩:=g.rel m _ K;obtain⟨b',X,jB,rfl⟩:=ha;rw[hi]at jB;cases jB;obtain⟨v',Q,O⟩:=jA hb B e;exact⟨b,s+o,rfl,v',Q,O⟩
   . rename_i R K;obtain⟨b,s,hi,c,el,fz,vs,hb,_,_,hd,B⟩:=g.rel m _ K;obtain⟨b',X,jB,rfl⟩:=ha;rw[hi]at jB;cases jB;obtain⟨v',Q,O⟩:=jA hb ((nG (jc hd)).2 ⟨vs,hd,B⟩) e;exact⟨b,s+o,rfl,v',Q,O⟩
   . rename_i es self x K;obtain⟨b,s,hi,hs,x',fz,hb,_,_,I⟩:=g.rel m _ K;obtain⟨b',X,jB,rfl⟩:=ha;rw[hi]at jB;cases jB;subst hs;obtain⟨v',Q,O⟩:=jA (E:=E) (s:=0) hb (Ol hi I) e;exact⟨b,0+o,rfl,v',Q,O⟩
   . cases e
 . rename_i R;obtain⟨b,o,c,vs,rfl,hf,hd,B⟩:=ha;obtain⟨⟨el,fz,hb⟩,_⟩:=g.iz b c hf;obtain⟨v',Q,O⟩:=jA hb ((nG (jc hd)).2 ⟨vs,hd,B⟩) e;exact⟨b,o,rfl,v',Q,O⟩
 . cases e
theorem Su{a v:V}{a':Value}(g:Good E h w)(ha:dV E a a')(e:loadAt P t h a=some v):
  jP P E h n w (do pure (.value (<- Instr.loadAt t a'))) (.val v h n):=by
 obtain⟨b,s,rfl,v',Q,O⟩:=BZ g ha e;exact eu g (by simp[Instr.loadAt,Instr.sureAddr,Q]) O
theorem zb{R new r:ag}{o:Nat}(e:BL R o new=some r):o+new.length<=R.length/\r=R.take o++(new++R.drop (o+new.length)):=by
 unfold BL at e;split at e
 . rename_i q;simp at e;exact⟨q,e.symm⟩
 . cases e
theorem Jr{α:Type}{R new:List α}{o:Nat}(h:o+new.length<=R.length)(j:Nat):
  (R.take o++(new++R.drop (o+new.length)))[j]? =if o<=j/\j<o+new.length then new[j-o]? else R[j]?:=by
 rw[List.getElem?_append];have hl:(List.take o R).length=o:=by simp;omega
 rw[hl];by_cases Q:j<o
 . rw[aG Q,aB H,bS,aG Q]
 . rw[aB Q,List.getElem?_append];by_cases O:j<o+new.length
   . rw[aG H,aG H]
   . rw[aB H,aB H,bU];congr 1;omega
theorem G6{R new:ag}{kz:List Value}{c:Array Value}(r:lS E s R c)(hn:dZ E new kz)(iV:0<new.length)(h:o+new.length<=R.length):
  s+o+kz.length<=c.size/\lS E s (R.take o++(new++R.drop (o+new.length))) (putCells c (s+o) kz):=by
 have hl:=eT hn;have hb:s+o+kz.length<=c.size:=by have:=nI r (k:=o+new.length) H h;omega
 refine⟨hb,fun i v q=>?_⟩;rw[Jr h]at q;rw[mQ hb];split at q
 . rename_i hi;rw[aG H];obtain⟨v',Q,O⟩:=gK hn _ v q;exact⟨v',by rw[<- Q];congr 1;omega,O⟩
 . rename_i hi;rw[aB H];exact r i v q
theorem wC{b s:Nat}{ob:h2}{r r':Row}{new:ag}{kz:List Value}(g:Good E h w)(gL:m<fZ)(K:h.get m=some ob)(hr:ob.row=some r)(hi:E.ι m=some (b,s))
  (hn:dZ E new kz) (iV:0<new.length) (Jm:new.all V.scalar=true) (hl:o+new.length<=r.jQ.length) (Js:wk (r.jQ.take o++(new++r.jQ.drop (o+new.length))) r'.jQ) (V6:r.sc->r'.sc):
  ∃w',(storeCells ⟨b,s+o,none⟩ kz).run P w= .ok () w'/\iQ E h w E (h.set m (some r'.Eb)) w':=by
 obtain⟨b',X,jB,q⟩:=g.rel m _ K;obtain⟨⟨c,el,fz,hb,hz,hf,B⟩,V7⟩:=G3 hr q;rw[hi]at jB;cases jB;obtain⟨ze,Eg⟩:=G6 B hn iV hl;have Jt:∀v∈kz,v.oneCell'=true:=by
  intro v hv;obtain⟨i,jB⟩:=List.getElem?_of_mem hv;have eO:i<new.length:=by rw[<- eT hn];exact(aR.1 jB).1
  obtain⟨v',Q,O⟩:=gK hn i new[i] (au eO);rw[jB]at Q;cases Q;exact uB O (by rw[br]at Jm;exact Jm _ (bK eO))
 obtain⟨w',e1,e2,e3,e4,e5,e6,e7⟩:=mR (P:=P) (o:=s+o) kz 0 w c hb hf Jt H;refine⟨w',e1,iQ.write g gL ⟨_,K,Oi hr⟩ hi e3 e4 e5 e6 e7 ?_⟩;exact xL ⟨_,el,fz,e2,by rw[jG H];exact hz,by rw[jG H];exact hf,xK Js Eg⟩ (V6 V7)
theorem Mt{b s:Nat}{R new:ag}{kz:List Value}(g:Good E h w)(gL:m<fZ)(K:h.get m=some (.cells R))(hi:E.ι m=some (b,s))
  (hn:dZ E new kz) (iV:0<new.length) (Jm:new.all V.scalar=true) (hl:o+new.length<=R.length):
  ∃w',(storeCells ⟨b,s+o,none⟩ kz).run P w= .ok () w'/\iQ E h w E (h.set m (some (.cells (R.take o++(new++R.drop (o+new.length)))))) w':=
 wC (r':=.vs (R.take o++(new++R.drop (o+new.length)))) g gL K rfl hi hn iV Jm hl (iT _) (fun _=>trivial)
theorem Om{a v:V}{a' v':Value}{h':J h2}(g:Good E h w)(ha:dV E a a')(hv:dV E v v')(e:storeAt P t h v a=some h'):
  jP P E h n w (do Instr.storeAt t a' v';pure .skip) (.val (.gw []) h' n):=by
 unfold storeAt at e;split at e
 . rename_i m o;split at e
   . rename_i R K;split at e
     . rename_i s hs;split at e
       . rename_i hq;obtain⟨Q,O,h3,h4⟩:=hq;split at e
         . rename_i cs' DK;obtain rfl:=eH e;obtain⟨kK,rfl⟩:=zb DK;obtain⟨b,X,hi,rfl⟩:=ha;have nK:=iD hv;obtain⟨w',hr,hu⟩:=Mt (P:=P) g h3 K hi nK H h4 kK;refine⟨E,w',undef,.inr ⟨?_,rfl⟩,⟨[],rfl,rfl⟩,hu,fun _ _=>rfl,.inl ⟨rfl,rfl⟩⟩;have my:v'.cells.size=s:=by have:=eT nK;simp at this;omega
           simp[Instr.storeAt,Instr.sureAddr,storeVar,fB hs,my,hr]
         . cases e
       . cases e
     . cases e
   . rename_i k Y K;split at e
     . rename_i s hs;split at e
       . rename_i hq;obtain⟨Q,O,h3⟩:=hq;split at e
         . rename_i new qU;split at e
           . rename_i kK;obtain rfl:=eH e;have V8:=rF qU;have R4:new.length=s:=by have:=aI List.length V8;simp at this;omega
             obtain⟨b,X,hi,rfl⟩:=ha;have nK:=iD hv;obtain⟨w',hr,hu⟩:=wC (P:=P) (o:=o) (r':=.is k (AT Y o new)) g h3 K rfl hi nK H (by rw[V8];simp[V.scalar]) (by rw[V8];simp[Row.jQ];omega)
              (by rw[V8];simp[Row.jQ,AT,bQ,List.map_take,List.map_drop];exact iT _) (fun _=>trivial)
             refine⟨E,w',undef,.inr ⟨?_,rfl⟩,⟨[],rfl,rfl⟩,hu,fun _ _=>rfl,.inl ⟨rfl,rfl⟩⟩;have my:v'.cells.size=s:=by have:=eT nK;simp at this;omega
             simp[Instr.storeAt,Instr.sureAddr,storeVar,fB hs,my,hr]
           . cases e
         . cases e
       . cases e
     . cases e
   . rename_i R K;split at e
     . rename_i s hs;split at e
       . rename_i hq;obtain⟨Q,O,h3⟩:=hq;split at e
         . rename_i new qU;split at e
           . rename_i kK;obtain rfl:=eH e;have R4:=uC qU;obtain⟨b,X,hi,rfl⟩:=ha;have nK:=iD hv;have hcn:dZ E (D.fQ new) v'.cells.toList:=xJ qU E _ nK;have Sv:(D.fQ new).length=s:=by rw[D.gh,bG];omega
             obtain⟨w',hr,hu⟩:=wC (P:=P) (o:=o) (r:=.ds R) (r':=.ds (um R o new)) g h3 K rfl hi hcn H (Af (nH qU)) (by simp only[Row.jQ,D.gh,bG];omega)
              (by simp[Row.jQ,um,D.gh,bQ,List.map_take,List.map_drop];exact iT _)
              (fun hs x I=>by
               simp only[um,bg]at I;rcases I with I|I|I
               . exact hs x (cJ I)
               . exact nH qU x I
               . exact hs x (List.mem_of_mem_drop I))
             refine⟨E,w',undef,.inr ⟨?_,rfl⟩,⟨[],rfl,rfl⟩,hu,fun _ _=>rfl,.inl ⟨rfl,rfl⟩⟩;have my:v'.cells.size=s:=by have:=eT nK;simp at this;omega
             simp[Instr.storeAt,Instr.sureAddr,storeVar,fB hs,my,hr]
           . cases e
         . cases e
       . cases e
     . cases e
   . rename_i es self x0 K;split at e
     . rename_i x hs On;split at e
       . rename_i hq;obtain⟨rfl,h3,h4⟩:=hq;obtain rfl:=eH e;obtain⟨b,X,hi,rfl⟩:=ha;obtain⟨b',s,jB,h0,x0',fz,hb,oH,hf,hx0⟩:=g.rel m _ K;rw[hi]at jB;cases jB;subst h0;have nK:=iD hv;rw[On]at nK;obtain⟨x',_,r1,mS,hl⟩:=nK;simp only[dZ]at mS;subst mS;have V8:v'.cells=#[x']:=by apply Array.ext';rw[hl]
         obtain⟨w',e1,e2,e3,e4,e5,e6,e7⟩:=mR (P:=P) (o:=0+1) [x'] 0 w _ hb hf (fun y hy=>by rw[aH]at hy;subst hy;exact uB r1 h4) (by simp);refine⟨E,w',undef,.inr ⟨?_,rfl⟩,⟨[],rfl,rfl⟩,iQ.write g h3 ⟨_,K,rfl⟩ hi e3 e4 e5 e6 e7 ⟨rfl,x',fz,?_,oH,hf,r1⟩,fun _ _=>rfl,.inl ⟨rfl,rfl⟩⟩
         . have my:v'.cells.size=1:=by rw[V8];rfl
           have e1':(storeCells ⟨b,1,none⟩ v'.cells.toList).run P w= .ok () w':=by rw[V8];simpa using e1
           simp[Instr.storeAt,Instr.sureAddr,storeVar,fB hs,my,e1']
         . rw[e2];rfl
       . cases e
     . cases e
   . cases e
 . cases e
end
end ops
def Ah(E:Env):List (Nat×V)->List (Nat×Value)->Prop
 | [],l=>l=[]
 |x::xs,l=>∃y ys,y.1=x.1/\dV E x.2 y.2/\Ah E xs ys/\l=y::ys
theorem Eh(off:Nat):∀(vs:List Value) (k:Nat) (c:Array Value),off+k+vs.length<=c.size->
  (vs.zipIdx k).foldl (fun R (x:Value×Nat)=>R.setIfInBounds (off+x.2) x.1) c=putCells c (off+k) vs
 | [],k,c,_=>by simp[putCells]
 |v::vs,k,c,h=>by
  simp only[aP]at h;simp only[List.zipIdx_cons,dh];rw[Eh off vs (k+1) _ (by simp;omega)];have:off+(k+1)=off+k+1:=by omega
  rw[this,qV H]
theorem xM{E:Env}{xB:Nat->Option (Nat×Nat)}:∀(parts:List (Nat×V)) (nL:List (Nat×Value)) (cells:ag) (pM:Array Value) (r:ag),
  rD xB cells parts=some r->dZ E cells pM.toList->Ah E parts nL->∃r',Instr.fill xB pM nL=some r'/\dZ E r r'.toList
 | [],_,cells,pM,r,e,B,hp=>by
   simp only[Ah]at hp;subst hp;simp only[rD,aq]at e;subst e;exact⟨pM,rfl,B⟩
 |(i,v)::rest,_,cells,pM,r,e,B,hp=>by
  obtain⟨⟨i',v'⟩,ys,q1,hv,hr,rfl⟩:=hp;simp only at q1 hv;subst q1;simp only[rD]at e;cases ug:xB i' with
  |none=>simp[ug]at e
  |some p=>
   obtain⟨off,size⟩:=p;simp only[ug]at e;split at e
   . rename_i my;cases hs:BL cells off v.cells with
     |none=>simp[hs]at e
     |some V9=>
      simp only[hs]at e;obtain⟨kK,rfl⟩:=zb hs;have On:=iD hv;have Fh:=eT On;have hlc:=eT B;simp only[Array.length_toList]at Fh hlc;have qW:v'.cells.zipIdx.foldl (fun R (x:Value×Nat)=>R.setIfInBounds (off+x.2) x.1) pM=putCells pM off v'.cells.toList:=by
       rw[<- Array.foldl_toList,Array.toList_zipIdx];exact Eh off v'.cells.toList 0 pM (by simp;omega)
      have ag3:dZ E (cells.take off++(v.cells++cells.drop (off+v.cells.length))) (putCells pM off v'.cells.toList).toList:=by
       simp only[putCells];refine iK (BW B) (iK On ?_);have:off+v'.cells.toList.length=off+v.cells.length:=by simp;omega
       rw[this];exact BX B
      obtain⟨r',Q,O⟩:=xM rest ys _ _ r e ag3 hr;refine⟨r',?_,O⟩;simp only[Instr.fill,ug];rw[aB (by simp;omega)];rw[<- Q,<- qW]
   . cases e
theorem uE{P:Program}:∀(fs:List Field) (uo:List (Nat×Nat)),sG P fs=some uo->
  fs.mapM (fun f=>(P.info? f.type).map fun i=>(f.offset,i.size))=some uo
 | [],uo,h=>by simp[sG]at h;subst h;rfl
 |f::fs,uo,h=>by
  simp only[sG,ku]at h;cases hi:P.info? f.type with
  |none=>simp[hi]at h
  |some i=>
   simp only[hi,bw]at h;cases hr:sG P fs with
   |none=>simp[hr]at h
   |some r=>
    simp only[hr,aq]at h;subst h;simp[List.mapM_cons,hi,uE fs r hr]
theorem Ai{z:ag}(hz:0<z.length):∀(n i:Nat),(gX z n)[i]? =if i<n*z.length then z[i%z.length]? else none
 |0,i=>by simp[gX]
 |n+1,i=>by
  simp only[gX,List.getElem?_append];by_cases h:i<z.length
  . rw[aG h,aG (by rw[dc];omega),Nat.mod_eq_of_lt h]
  . rw[aB h,Ai hz n,dc,Nat.one_mul];have:(i-z.length)%z.length=i%z.length:=by rw[Nat.mod_eq_sub_mod (a:=i) H]
    rw[this];by_cases O:i-z.length<n*z.length
    . rw[aG O,aG H]
    . rw[aB O,aB H]
theorem pV{z:ag}:∀n,(gX z n).length=n*z.length
 |0=>by simp[gX]
 |n+1=>by simp[gX,pV n,dc];omega
theorem B0{E:Env}{z:ag}{z':Array Value}(hz:dZ E z z'.toList)(h0:0<z.length)(n:Nat):
  dZ E (gX z n) ((Array.range (n*z.length)).map (z'[·%z'.size]!)).toList:=by
 have hl:z'.size=z.length:=by have:=eT hz;simpa using this
 refine jd (by simp[pV]) fun i v q=>?_;rw[Ai h0]at q;split at q
 . rename_i hi;obtain⟨v',Q,O⟩:=gK hz _ v q;refine⟨v',?_,O⟩;have eO:i%z'.size<z'.size:=Nat.mod_lt _ H;rw[bM]at Q;have oG:z'[i%z'.size]? =some v':=by rw[hl];exact Q
   rw[bM,Array.getElem?_map];rw[Array.getElem?_range];rw[aG hi];simp only[bw];rw[getElem!_pos z' _ eO];rw[bf eO]at oG;exact oG
 . cases q
theorem wD{s:Sem Value}{v:V}(e:sH s=some v):∃v',s= .pure v'/\∀E,dV E v v':=by
 cases s with
 |pure v'=>exact⟨v',rfl,fun E=>sM e⟩
 |_=>simp[sH]at e
theorem kA:∀(a b:aa),lO a b=(a==b)
 | [],[]=>rfl
 | [],_::_=>rfl
 |_::_,[]=>rfl
 |a::x,b::y=>by
  simp only[lO];by_cases h:a=b
  . subst h;have:Nat.beq a.toNat a.toNat=true:=Nat.beq_refl _;rw[this];simp[kA x y]
  . have:Nat.beq a.toNat b.toNat=false:=by
     cases hh:Nat.beq a.toNat b.toNat with
     |false=>rfl
     |true=>exact absurd (UInt8.toNat_inj.1 (aA hh)) h
    rw[this];have hab:(a==b)=false:=by simpa using h
    simp[hab]
theorem rJ(a b:aa):((⟨a.toArray⟩:ByteArray)==⟨b.toArray⟩)=lO a b:=by
 rw[kA,beq_toListBytes,ByteArray.toList_eq,ByteArray.toList_eq]
theorem sP(a b:aa):((⟨a.toArray⟩:ByteArray).toList==(⟨b.toArray⟩:ByteArray).toList)=lO a b:=by
 rw[<- rJ,beq_toListBytes]
section ops
variable{P:Program}{E:Env}{h:J h2}{n:Nat}{w:World}
theorem Mu{t:TypeId}{parts:List (Nat×V)}{nL:Array (Nat×Value)}{v:V}(hp:Ah E parts nL.toList)(e:Jg P t parts=some v):
  ∃v',(Instr.build t nL).run P w= .ok v' w/\dV E v v':=by
 unfold Jg at e;split at e
 . rename_i z lN hz hu;obtain⟨z',_,hv,i,hi,hiz⟩:=kZ (w:=w) E hz;cases hs:sG P lN.toList with
   |none=>simp[hs]at e
   |some uo=>
    simp only[hs]at e;cases hf:rD (fun i=>uo[i]?) z.cells parts with
    |none=>simp[hf]at e
    |some R=>
     simp only[hf,bw,aq]at e;subst e;obtain⟨r',Q,O⟩:=xM parts nL.toList z.cells z'.cells R hf (iD hv) hp;refine⟨.agg r',run_build w t nL r' ?_,r'.toList,O,by simp⟩;simp only[Program.built,hi,hu,hiz,uE _ _ hs];simpa using Q
 . rename_i z m Sq hz hu;obtain⟨z',_,hv,i,hi,hiz⟩:=kZ (w:=w) E hz;cases hs:ku P Sq with
   |none=>simp[hs]at e
   |some s=>
    simp only[hs]at e;cases hf:rD (fun i=>some (i*s,s)) z.cells parts with
    |none=>simp[hf]at e
    |some R=>
     simp only[hf,bw,aq]at e;subst e;obtain⟨r',Q,O⟩:=xM parts nL.toList z.cells z'.cells R hf (iD hv) hp;refine⟨.agg r',run_build w t nL r' ?_,r'.toList,O,by simp⟩;unfold ku at hs;cases hie:P.info? Sq with
     |none=>simp[hie]at hs
     |some ie=>
      simp only[hie,bw,aq]at hs;simp only[Program.built,hi,hu,hiz,hie,hs];exact Q
 . cases e
theorem DL{t:TypeId}{len:Nat}{parts:List (Nat×V)}{nL:Array (Nat×Value)}{r:cs}(g:Good E h w)(hn:E.ι n=none)(hp:Ah E parts nL.toList)
  (e:n8 P t len parts h n=some r):jP P E h n w (do pure (.value (<- Instr.buildSlice t len nL))) r:=by
 unfold n8 at e;cases he:uq P t with
 |none=>simp[he]at e
 |some el=>
  simp only[he]at e;cases hs:ku P el with
  |none=>simp[hs]at e
  |some s=>
   cases hz:zeroOf P el with
   |none=>simp[hs,hz]at e
   |some z=>
    simp only[hs,hz]at e;split at e
    . rename_i hq;obtain⟨Ju,oe,hzl⟩:=hq;cases hf:rD (fun i=>some (i*s,s)) (gX z.cells len) parts with
      |none=>simp[hf]at e
      |some R=>
       simp only[hf]at e;cases ho:newObj h n (.cells R)with
       |none=>simp[ho]at e
       |some x=>
        obtain⟨h',n'⟩:=x;simp only[ho,aq]at e;subst e;obtain⟨z',hzr,hzv,_⟩:=kZ (w:=w) E hz;have Z2:=iD hzv;have Oo:=B0 Z2 H len;rw[hzl]at Oo;obtain⟨r',Q,O⟩:=xM parts nL.toList _ _ R hf Oo hp;have hu:P.underlying t=some (.slice el):=by
         unfold uq at he;split at he
         . rename_i q;simp at he;subst he;exact q
         . cases he
        have jx:r'.size=len*s:=by
         have a:=eT O;have b:R.length=(gX z.cells len).length:=xN _ _ _ _ hf;rw[pV,hzl]at b;simpa[b]using a
        refine y9 (c:=r') (el:=el) (w1:=w) (v':=.slice (some ⟨w.heap.size,0,none⟩) len len) g hn ho rfl rfl rfl rfl ?_ (n5 O) ?_
        . simp only[Instr.buildSlice,Sem.run_bind,dP hu,Result.andThen_ok,fB hs];rw[aB (show ¬(len*s>2^24)by omega)];by_cases q0:len*s=0
          . have tM:(Array.range (len*s)).map (fun x=>(#[]:Array Value)[x%(#[]:Array Value).size]!)=(Array.range (len*s)).map (z'.cells[·%z'.cells.size]!):=by rw[q0];simp
            rw[aG q0];simp only[Sem.run_bind,Sem.run_pure,Result.andThen_ok];rw[tM,Q];simp[newRow]
          . rw[aB q0];simp only[Sem.run_bind,Sem.run_pure,Result.andThen_ok,hzr];rw[Q];simp[newRow]
        . refine⟨w.heap.size,0,0,len,Env.fP,fun _=>by simp,aK _,aK _,?_,rfl⟩;simp[Env.put,jx]
    . cases e
where
 xN (xB:Nat->Option (Nat×Nat)):∀(parts:List (Nat×V)) (cells r:ag),rD xB cells parts=some r->r.length=cells.length
  | [],cells,r,e=>by simp only[rD,aq]at e;rw[e]
  |(i,v)::rest,cells,r,e=>by
   simp only[rD]at e;split at e
   . cases e
   . split at e
     . split at e
       . rename_i V9 hs;obtain⟨kK,rfl⟩:=zb hs;rw[xN xB rest _ r e];simp;omega
       . cases e
     . cases e
end ops
section
variable{P:Program}{E:Env}{h:J h2}{n:Nat}{w:World}
theorem rK{t:TypeId}{R:ag}{cs':Array Value}{off:Nat}{v:V}(r:dZ E R cs'.toList)(e:oa P t R off=some v):
  ∃v',(part t cs' off).run P w= .ok v' w/\dV E v v':=by
 unfold oa kP at e;have hl:=eT r;simp only[Array.length_toList]at hl;split at e
 . rename_i ha;cases hs:ku P t with
   |none=>simp[hs]at e
   |some k=>
    simp only[hs]at e;cases B:cut R off k with
    |none=>simp[B]at e
    |some x=>
     simp only[B,bw,aq]at e;subst e;obtain⟨Q,rfl⟩:=za B;refine⟨.agg (cs'.extract off (off+k)),by simp[part,rI ha,fB hs],(cs'.toList.drop off).take k,BW (BX r),?_⟩;congr 1;apply Array.ext';simp[List.extract_eq_take_drop]
 . rename_i ha;obtain⟨v',Q,O⟩:=gK r off v e;refine⟨v',?_,O⟩;rw[bM]at Q;simp[part,rI ha,Q]
 . cases e
end
def V.tag:V->Nat
 | .bool _=>0 | .int _ _=>1 | .str _=>2 | .ptr _=>3 | .eR _ _ _ _=>4 | .map _=>5 | .fn _ _ _=>6 | .kG=>7 | .iface _ _=>8 | .nilIface=>9 | .agg _=>10 | .gw _=>11 | .eB _ _ _=>4 | .dx _=>3
def xO:Value->Nat
 | .bool _=>0 | .int _ _=>1 | .string _=>2 | .pointer _=>3 | .slice _ _ _=>4 | .map _=>5 | .func _ _ _=>6 | .nilFunc=>7 | .iface _ _=>8 | .nilIface=>9 | .agg _=>10 | .tuple _=>11
 | .float _ _=>12 | .complex _ _ _=>13 | .chan _=>14
theorem rL{E:Env}:∀{x:V} {v:Value},dV E x v->x.tag=xO v:=by
 intro x v r;cases x with
 |agg R=>obtain⟨cs',_,rfl⟩:=r;rfl
 |gw R=>obtain⟨cs',_,rfl⟩:=r;rfl
 |bool b=>simp only[dV]at r;subst r;rfl
 |int k n=>simp only[dV]at r;subst r;rfl
 |str s=>simp only[dV]at r;subst r;rfl
 |ptr a=>cases a<;>simp only[dV]at r;. subst r;rfl
         . obtain⟨b,s,_,rfl⟩:=r;rfl
 |eR a l c e=>cases a<;>simp only[dV]at r;. obtain⟨_,_,rfl⟩:=r;rfl
              . obtain⟨b,s,_,_,_,_,_,_,_,rfl⟩:=r;rfl
 |map a=>cases a<;>simp only[dV]at r;. subst r;rfl
         . obtain⟨b,_,rfl⟩:=r;rfl
 |fn f a c=>obtain⟨_,_,_,_,_,_,rfl⟩:=r;rfl
 |kG=>simp only[dV]at r;subst r;rfl
 |iface t x=>obtain⟨_,_,rfl⟩:=r;rfl
 |nilIface=>simp only[dV]at r;subst r;rfl
 |eB f n R=>obtain⟨⟨_,_,_,rfl,_⟩,_⟩:=r;rfl
 |dx R=>obtain⟨_,_,_,_,rfl,_⟩:=r;rfl
theorem xP{E:Env}{x:V}{k:IntKind}{m:Int}(r:dV E x (.int k m)):x= .int k m:=by
 have t:=rL r;cases x<;>simp[V.tag,xO]at t;simp only[dV]at r;cases r;rfl
theorem xQ{E:Env}{x:V}{s:ByteArray}(r:dV E x (.string s)):∃l,x= .str l:=by
 have t:=rL r;cases x<;>simp[V.tag,xO]at t;exact⟨_,rfl⟩
theorem DM{E:Env}{x:V}{k:FloatKind}{m:Nat}(r:dV E x (.float k m)):False:=by
 have t:=rL r;cases x<;>simp[V.tag,xO]at t
theorem AV{E:Env}{x:V}{k:FloatKind}{m m':Nat}(r:dV E x (.complex k m m')):False:=by
 have t:=rL r;cases x<;>simp[V.tag,xO]at t
theorem Oq{E:Env}{x y:V}{x' y':Value}{t:TypeId}(rx:dV E x x')(ry:dV E y y')(hi:∀k m k' m',¬(x= .int k m/\y= .int k' m'))(hs:∀s u,¬(x= .str s/\y= .str u)):
  binOp .eql t x' y'=(do pure (.bool (<- Op.equal t x' y')))/\binOp .neq t x' y'=(do pure (.bool (!(<- Op.equal t x' y')))):=by
 cases x'<;>cases y'<;>first
  |exact⟨rfl,rfl⟩
  |exact absurd ⟨xP rx,xP ry⟩ (hi _ _ _ _)
  |exact(DM rx).elim
  |exact(AV rx).elim
  |(obtain⟨l,e1⟩:=xQ rx;obtain⟨l',e2⟩:=xQ ry;exact absurd ⟨e1,e2⟩ (hs _ _))
section
variable{P:Program}{E:Env}{h:J h2}{n:Nat}{w:World}
theorem sQ{d:Nat}{eq:TypeId->V->V->Option Bool}(ih:∀t x y x' y' r,eq t x y=some r->dV E x x'->dV E y y'->(Op.equalIn d t x' y').run P w= .ok r w)
  {xs ys:ag} {yQ Ee:Array Value} (rx:dZ E xs yQ.toList) (ry:dZ E ys Ee.toList):∀(fs:List Field) (r:Bool),eqFields P eq fs xs ys=some r->(Op.eqFields d yQ Ee fs).run P w= .ok r w
 | [],r,e=>by simp only[eqFields,aq]at e;subst e;rfl
 |f::fs,r,e=>by
  simp only[eqFields]at e;simp only[Op.eqFields];split at e
  . rename_i iV;rw[aG iV];cases Q:oa P f.type xs f.offset with
    |none=>simp[Q]at e
    |some a=>cases O:oa P f.type ys f.offset with
     |none=>simp[Q,O]at e
     |some b=>
      simp only[Q,O]at e;obtain⟨a',p1,p2⟩:=rK (P:=P) (w:=w) rx Q;obtain⟨b',q1,q2⟩:=rK (P:=P) (w:=w) ry O;cases h3:eq f.type a b with
      |none=>simp[h3]at e
      |some c=>
       have hr:=ih _ _ _ _ _ _ h3 p2 q2;simp only[Sem.run_bind,p1,q1,Result.andThen_ok,hr];cases c with
       |false=>simp only[h3,aq]at e;subst e;simp
       |true=>simp only[h3]at e;simp only[Bool.not_true,aM,cz];exact sQ ih rx ry fs r e
  . rename_i iV;rw[aB iV];exact sQ ih rx ry fs r e
theorem Aj{d c:Nat}{el:TypeId}{eq:V->V->Option Bool}(ih:∀x y x' y' r,eq x y=some r->dV E x x'->dV E y y'->(Op.equalIn d el x' y').run P w= .ok r w)
  {xs ys:ag} {yQ Ee:Array Value} (rx:dZ E xs yQ.toList) (ry:dZ E ys Ee.toList):∀(is:List Nat) (r:Bool),oc P eq el c xs ys is=some r->(Op.eqItems d el c yQ Ee is).run P w= .ok r w
 | [],r,e=>by simp only[oc,aq]at e;subst e;rfl
 |i::is,r,e=>by
  simp only[oc]at e;simp only[Op.eqItems];cases Q:oa P el xs (i*c)with
  |none=>simp[Q]at e
  |some a=>cases O:oa P el ys (i*c)with
   |none=>simp[Q,O]at e
   |some b=>
    simp only[Q,O]at e;obtain⟨a',p1,p2⟩:=rK (P:=P) (w:=w) rx Q;obtain⟨b',q1,q2⟩:=rK (P:=P) (w:=w) ry O;cases h3:eq a b with
    |none=>simp[h3]at e
    |some q=>
     have hr:=ih _ _ _ _ _ h3 p2 q2;simp only[Sem.run_bind,p1,q1,Result.andThen_ok,hr];cases q with
     |false=>simp only[h3,aq]at e;subst e;simp
     |true=>simp only[h3]at e;simp only[Bool.not_true,aM,cz];exact Aj ih rx ry is r e
theorem Fi:∀(d:Nat) (t:TypeId) (x y:V) (x' y':Value) (r:Bool),Ec P d t x y=some r->dV E x x'->dV E y y'->(Op.equalIn d t x' y').run P w= .ok r w:=by
 intro d
 induction d with
 |zero=>intro t x y x' y' r e;simp[Ec]at e
 |succ d ih=>
  intro t x y x' y' r e rx ry;simp only[Ec]at e;split at e
  . rename_i hu;split at e
    . simp only[dV]at rx ry;subst rx;subst ry;obtain rfl:=eH e;simp[Op.equalIn,dP hu]
    . cases e
  . rename_i hu;split at e
    . simp only[dV]at rx ry;subst rx;subst ry;split at e
      . rename_i W;subst W;obtain rfl:=eH e;simp[Op.equalIn,dP hu]
      . cases e
    . cases e
  . rename_i hu;split at e
    . simp only[dV]at rx ry;subst rx;subst ry;obtain rfl:=eH e;simp only[Op.equalIn,Sem.run_bind,dP hu,Result.andThen_ok,Sem.run_pure];rw[rJ]
    . cases e
  . rename_i hu;split at e
    . rename_i b;simp only[dV]at rx;subst rx;obtain rfl:=eH e;cases b with
      |none=>simp only[dV]at ry;subst ry;simp[Op.equalIn,dP hu]
      |some p=>obtain⟨_,_,_,rfl⟩:=ry;simp[Op.equalIn,dP hu]
    . rename_i p;obtain rfl:=eH e;obtain⟨_,_,_,rfl⟩:=rx;simp only[dV]at ry;subst ry;simp[Op.equalIn,dP hu]
    . split at e
      . rename_i hmm;obtain⟨⟨rfl,rfl⟩,my⟩:=hmm;obtain rfl:=eH e;obtain⟨b,s,Q,rfl⟩:=rx;obtain⟨b',X,O,rfl⟩:=ry;rw[Q]at O;cases O;obtain⟨z,hz⟩:=bH.1 my;simp only[Op.equalIn,Sem.run_bind,dP hu,Result.andThen_ok,fB hz];by_cases Z3:z=0
        . simp[Z3]
        . simp[Z3,sameAddr]
      . cases e
    . obtain rfl:=eH e;simp only[dV]at rx;subst rx;obtain⟨_,_,_,_,rfl,_⟩:=ry;simp[Op.equalIn,dP hu]
    . obtain rfl:=eH e;obtain⟨_,_,_,_,rfl,_⟩:=rx;simp only[dV]at ry;subst ry;simp[Op.equalIn,dP hu]
    . cases e
  . rename_i hu;split at e
    . simp only[dV]at rx ry;subst rx;subst ry;obtain rfl:=eH e;simp[Op.equalIn,dP hu]
    . simp only[dV]at rx;subst rx;obtain⟨_,_,rfl⟩:=ry;obtain rfl:=eH e;simp[Op.equalIn,dP hu]
    . simp only[dV]at ry;subst ry;obtain⟨_,_,rfl⟩:=rx;obtain rfl:=eH e;simp[Op.equalIn,dP hu]
    . cases e
  . rename_i lN hu;split at e
    . split at e
      . cases e
      . rename_i vK;obtain⟨yQ,Wa,rfl⟩:=rx;obtain⟨Ee,Wb,rfl⟩:=ry;have hf:P.fieldsOf t=lN:=by simp[Program.fieldsOf,hu]
        rw[run_equalIn_struct w d t _ _ (by rw[hf];exact hu) (by simpa using vK),hf];exact sQ (fun u a b a' b' r e ra rb=>ih u a b a' b' r e ra rb) (by simpa using Wa) (by simpa using Wb) _ _ e
    . cases e
  . rename_i hu;split at e
    . rename_i b _ _ _;obtain⟨_,_,rfl⟩:=rx;obtain rfl:=eH e;cases b with
      |none=>obtain⟨_,_,rfl⟩:=ry;simp[Op.equalIn,dP hu]
      |some p=>obtain⟨_,_,_,_,_,_,_,_,_,rfl⟩:=ry;simp[Op.equalIn,dP hu]
    . obtain rfl:=eH e;obtain⟨_,_,_,_,_,_,_,_,_,rfl⟩:=rx;obtain⟨_,_,rfl⟩:=ry;simp[Op.equalIn,dP hu]
    . split at e
      . obtain rfl:=eH e;obtain⟨⟨a,jO,vs,rfl,_,_,_,Q⟩,_⟩:=rx;obtain⟨_,_,_,rfl,_⟩:=Q (Nat.succ_pos _);obtain⟨_,_,rfl⟩:=ry;simp[Op.equalIn,dP hu]
      . cases e
    . cases e
  . rename_i hu;split at e
    . rename_i b;simp only[dV]at rx;subst rx;obtain rfl:=eH e;cases b with
      |none=>simp only[dV]at ry;subst ry;simp[Op.equalIn,dP hu]
      |some p=>obtain⟨_,_,rfl⟩:=ry;simp[Op.equalIn,dP hu]
    . obtain rfl:=eH e;obtain⟨_,_,rfl⟩:=rx;simp only[dV]at ry;subst ry;simp[Op.equalIn,dP hu]
    . cases e
  . rename_i m el hu;split at e
    . split at e
      . rename_i hi;obtain⟨i,hi⟩:=bH.1 hi;obtain⟨yQ,Wa,rfl⟩:=rx;obtain⟨Ee,Wb,rfl⟩:=ry;rw[run_equalIn_array w d yQ.toArray Ee.toArray hu hi];exact Aj (fun a b a' b' r e ra rb=>ih el a b a' b' r e ra rb) (by simpa using Wa) (by simpa using Wb) _ _ e
      . cases e
    . cases e
  . cases e
end
section
variable{P:Program}{E:Env}{h:J h2}{n:Nat}{w:World}
theorem B3:∀s u:aa,N7 s u=Op.bytesLess s u
 |_,[]=>by cases ‹aa›<;>rfl
 | [],_::_=>rfl
 |a::x,b::y=>by
  simp only[N7,Op.bytesLess];have Q:(a<b)↔a.toNat<b.toNat:=UInt8.lt_iff_toNat_lt;have O:(a=b)↔a.toNat=b.toNat:=UInt8.toNat_inj.symm;rcases Nat.lt_trichotomy a.toNat b.toNat with h|h|h
  . have:Nat.blt a.toNat b.toNat=true:=Nat.ble_eq_true_of_le h;rw[this];simp[Q.2 h]
  . have e1:Nat.blt a.toNat b.toNat=false:=by cases q:Nat.blt a.toNat b.toNat with|false=>rfl|true=>exact absurd (az q) H
    have e2:Nat.beq a.toNat b.toNat=true:=by rw[h];exact Nat.beq_refl _
    have e3:¬a<b:=fun q=>by have:=Q.1 q;omega
    have e4:a=b:=O.2 h;rw[e1,e2];simp only[B3 x y,e4];simp
  . have e1:Nat.blt a.toNat b.toNat=false:=by cases q:Nat.blt a.toNat b.toNat with|false=>rfl|true=>exact absurd (az q) H
    have e2:Nat.beq a.toNat b.toNat=false:=by cases q:Nat.beq a.toNat b.toNat with|false=>rfl|true=>exact absurd (aA q) H
    have e3:¬a<b:=fun q=>by have:=Q.1 q;omega
    have e4:¬a=b:=fun q=>by have:=O.1 q;omega
    rw[e1,e2];simp[e3,e4]
theorem vr(s:aa):(⟨s.toArray⟩:ByteArray).toList=s:=by rw[ByteArray.toList_eq]
theorem Ot{op:BinOp}{t:TypeId}{x y:Operand}{a b v:V}{a' b':Value}(g:Good E h w)(ra:dV E a a')(rb:dV E b b')(e:BN P op t x y a b=some v):
  jP P E h n w (do pure (.value (<- (do eqGuard op t x y a' b';binOp op t a' b')))) (.val v h n):=by
 unfold BN at e;split at e
 . rename_i k m k' m';simp only[dV]at ra rb;subst ra;subst rb;obtain⟨v',q1,q2⟩:=wD e;refine eu g (v':=v') ?_ (q2 E);have hg:(eqGuard op t x y (.int k m) (.int k' m')).run P w= .ok () w:=by cases op<;>rfl
   simp only[Sem.run_bind,hg,Result.andThen_ok,q1];rfl
 . rename_i s u;simp only[dV]at ra rb;subst ra;subst rb;have hg:(eqGuard op t x y (.string ⟨s.toArray⟩) (.string ⟨u.toArray⟩)).run P w= .ok () w:=by cases op<;>rfl
   cases op<;>simp only[N8]at e<;>first
    |(cases e;done)
    |skip
   . split at e
     . rename_i hl;obtain rfl:=eH e;refine eu g (v':=.string (⟨s.toArray⟩++⟨u.toArray⟩)) ?_ ?_
       . have my:¬(((ByteArray.size ⟨s.toArray⟩+ByteArray.size ⟨u.toArray⟩:Nat):Int)>IntKind.i64.max):=by
          have:(IntKind.i64.max:Int)=9223372036854775807:=by decide
          rw[this];show ¬(((s.toArray.size+u.toArray.size:Nat):Int)>9223372036854775807);unfold wu at hl;simp only[List.size_toArray];omega
         simp only[Sem.run_bind,hg,Result.andThen_ok,binOp,Op.stringOp];rw[aB my];rfl
       . show Value.string _= .string ⟨(s++u).toArray⟩;congr 1
     . cases e
   . obtain rfl:=eH e;refine eu g (v':=.bool (lO s u)) ?_ rfl;simp only[Sem.run_bind,hg,Result.andThen_ok,binOp,Op.stringOp,sP];rfl
   . obtain rfl:=eH e;refine eu g (v':=.bool (!lO s u)) ?_ rfl;simp only[Sem.run_bind,hg,Result.andThen_ok,binOp,Op.stringOp,sP];rfl
   . obtain rfl:=eH e;refine eu g (v':=.bool (N7 s u)) ?_ rfl;simp only[Sem.run_bind,hg,Result.andThen_ok,binOp,Op.stringOp,B3,vr];rfl
   . obtain rfl:=eH e;refine eu g (v':=.bool (N7 s u||lO s u)) ?_ rfl;simp only[Sem.run_bind,hg,Result.andThen_ok,binOp,Op.stringOp,sP,kA,B3,vr];rfl
   . obtain rfl:=eH e;refine eu g (v':=.bool (!(N7 s u||lO s u))) ?_ rfl;simp only[Sem.run_bind,hg,Result.andThen_ok,binOp,Op.stringOp,sP,kA,B3,vr];rfl
   . obtain rfl:=eH e;refine eu g (v':=.bool (!N7 s u)) ?_ rfl;simp only[Sem.run_bind,hg,Result.andThen_ok,binOp,Op.stringOp,B3,vr];rfl
 . rename_i hni I7;have hb:=Oq (t:=t) ra rb (fun k m k' m' q=>hni k m k' m' q.1 q.2) (fun s u q=>I7 s u q.1 q.2);have qv:∀r,DH P t x y a b=some r->∀op,(op= .eql\/op= .neq)->(eqGuard op t x y a' b').run P w= .ok () w/\(Op.equal t a' b').run P w= .ok r w:=by
    intro r er op pc;unfold DH at er;split at er
    . simp only[dV]at ra rb;subst ra;subst rb;split at er
      . rename_i ag7;refine⟨?_,Fi (E:=E) 10000 t _ _ _ _ r er rfl rfl⟩;clear hb e;rcases pc with rfl|rfl<;>cases x<;>cases y<;>first
         |rfl
         |(simp only[isLit,Bool.or_self,aM]at ag7)
      . cases er
    . split at er
      . cases er
      . rename_i hg;obtain⟨yQ,rx,rfl⟩:=ra;obtain⟨Ee,ry,rfl⟩:=rb;refine⟨run_eqGuard_agg w op t x y _ _ (by simpa using hg),Fi 10000 t _ _ _ _ r er ⟨yQ,rx,rfl⟩ ⟨Ee,ry,rfl⟩⟩
    . rename_i DN pD;refine⟨?_,Fi 10000 t _ _ _ _ r er ra rb⟩;have t1:=rL ra;have t2:=rL rb;rcases pc with rfl|rfl<;>cases a'<;>first
       |rfl
       |(cases b'<;>first
        |rfl
        |(exfalso;cases a<;>simp[V.tag,xO]at t1;cases b<;>simp[V.tag,xO]at t2;exact DN rfl rfl)
        |(exfalso;cases a<;>simp[V.tag,xO]at t1;cases b<;>simp[V.tag,xO]at t2;exact pD _ _ rfl rfl))
   split at e
   . cases hq:DH P t x y a b with
     |none=>simp[hq]at e
     |some r=>
      simp only[hq,bw,aq]at e;subst e;obtain⟨m1,m2⟩:=qv r hq .eql (.inl rfl);refine eu g (v':=.bool r) ?_ rfl;simp only[Sem.run_bind,m1,Result.andThen_ok,hb.1,m2,Sem.run_pure]
   . cases hq:DH P t x y a b with
     |none=>simp[hq]at e
     |some r=>
      simp only[hq,bw,aq]at e;subst e;obtain⟨m1,m2⟩:=qv r hq .neq (.inr rfl);refine eu g (v':=.bool (!r)) ?_ rfl;simp only[Sem.run_bind,m1,Result.andThen_ok,hb.2,m2,Sem.run_pure]
   . cases e
section
variable{t:TypeId}{f:Nat}{x i:V}
theorem Sw{op:UnOp}{x v:V}{x':Value}(g:Good E h w)(r:dV E x x')(e:unV op x=some v):jP P E h n w (do pure (.value (<- Op.unary op x'))) (.val v h n):=by
 unfold unV at e;split at e
 . simp only[dV]at r;subst r;obtain⟨v',q1,q2⟩:=wD e;exact eu g (v':=v') (by rw[q1];rfl) (q2 E)
 . simp only[dV]at r;subst r;obtain⟨v',q1,q2⟩:=wD e;exact eu g (v':=v') (by rw[q1];rfl) (q2 E)
 . cases e
theorem G7{e:TypeId}(q:uq P t=some e):P.underlying t=some (.slice e):=by
 unfold uq at q;split at q
 . rename_i hu;simp at q;subst q;exact hu
 . cases q
theorem Fj{v:V}{x':Value}(g:Good E h w)(r:dV E x x')(e:wv P t f x=some v):
  jP P E h n w (do pure (.value (<- Instr.fieldAt t x' f))) (.val v h n):=by
 unfold wv at e;split at e
 . rename_i m o;split at e
   . rename_i fs hu;split at e
     . rename_i fd hf;split at e
       . rename_i k W;obtain rfl:=eH e;obtain⟨b,s,hi,rfl⟩:=r;refine eu g (v':=.pointer (some ⟨b,s+(o+fd.offset),none⟩)) ?_ ⟨b,s,hi,rfl⟩;simp[Instr.fieldAt,dP hu,hf,Instr.sureAddr,fieldPlace,fB W,Addr.jb,Nat.add_assoc]
       . cases e
     . cases e
   . cases e
 . rename_i R;split at e
   . rename_i fs hu;split at e
     . rename_i fd hf;split at e
       . rename_i k W;obtain rfl:=eH e;obtain⟨b,o,c,vs,rfl,DJ,hd,B⟩:=r;refine eu g (v':=.pointer (some ⟨b,o+fd.offset,none⟩)) ?_ ⟨b,_,c,vs.drop fd.offset,rfl,DJ,nD hd,fun j w q=>?_⟩
         . simp[Instr.fieldAt,dP hu,hf,Instr.sureAddr,fieldPlace,fB W,Addr.jb]
         . rw[bU]at q;rw[<- B _ w q,Nat.add_assoc]
       . cases e
     . cases e
   . cases e
 . cases e
theorem Ou{v:V}{x':Value}(g:Good E h w)(r:dV E x x')(e:Jh P t f x=some v):
  jP P E h n w (do pure (.value (<- Instr.field t x' f))) (.val v h n):=by
 unfold Jh at e;split at e
 . split at e
   . rename_i fs hu;split at e
     . rename_i fd hf;obtain⟨cs',rc,rfl⟩:=r;obtain⟨v',Q,O⟩:=rK (P:=P) (w:=w) (cs':=cs'.toArray) (by simpa using rc) e;refine eu g (v':=v') ?_ O;simp[Instr.field,dP hu,hf,asAgg,Q]
     . cases e
   . cases e
 . cases e
theorem Fk{v:V}{x' i':Value}(g:Good E h w)(r:dV E x x')(ri:dV E i i')(e:nC P t x i=some v):
  jP P E h n w (do pure (.value (<- Instr.indexAt t x' i'))) (.val v h n):=by
 unfold nC at e;split at e
 . rename_i k i;simp only[dV]at ri;subst ri;split at e
   . rename_i len el m o hu;split at e
     . rename_i s hs;split at e
       . rename_i hb;obtain rfl:=eH e;obtain⟨b,sh,hi,rfl⟩:=r;refine eu g (v':=.pointer (some ⟨b,sh+(o+i.toNat*s),none⟩)) ?_ ⟨b,sh,hi,rfl⟩;simp[Instr.indexAt,asIntOf,dP hu,Instr.sureAddr,hb.1,hb.2,fB hs,Addr.jb,Nat.add_assoc]
       . cases e
     . cases e
   . rename_i el m o len jO jv hu;split at e
     . rename_i s hs;split at e
       . rename_i hb;obtain⟨Q,O,h3⟩:=hb;obtain rfl:=eH e;obtain⟨b,sh,o',gx,hi,q1,q2,q3,q4,rfl⟩:=r;have ho:o'=sh+o:=q1 H;subst ho;refine eu g (v':=.pointer (some ⟨b,sh+(o+i.toNat*s),none⟩)) ?_ ⟨b,sh,hi,rfl⟩;simp[Instr.indexAt,asIntOf,dP hu,Q,O,fB hs,Addr.jb,Nat.add_assoc]
       . cases e
     . cases e
   . rename_i el f len R hu;split at e
     . rename_i s hs;split at e
       . rename_i hb;obtain⟨⟨Q,O⟩,h3⟩:=hb;obtain rfl:=eH e;obtain⟨⟨a,jO,vs,rfl,oe,hd,h0,xS⟩,_⟩:=r;obtain⟨b,o,c,rfl,DJ,B⟩:=xS H;refine eu g (v':=.pointer (some ⟨b,o+i.toNat*s,none⟩)) ?_ ⟨b,_,c,(vs.drop (i.toNat*s)).take s,rfl,DJ,sJ (nD hd),fun j w q=>?_⟩
         . simp[Instr.indexAt,asIntOf,dP hu,Q,O,fB hs,Addr.jb]
         . rw[bS]at q;split at q
           . rw[bU]at q;rw[<- B _ w q,Nat.add_assoc]
           . cases q
       . cases e
     . cases e
   . rename_i len el R hu;split at e
     . rename_i s hs;split at e
       . rename_i hb;obtain rfl:=eH e;obtain⟨b,o,c,vs,rfl,DJ,hd,B⟩:=r;refine eu g (v':=.pointer (some ⟨b,o+i.toNat*s,none⟩)) ?_ ⟨b,_,c,vs.drop (i.toNat*s),rfl,DJ,nD hd,fun j w q=>?_⟩
         . simp[Instr.indexAt,asIntOf,dP hu,Instr.sureAddr,hb.1,hb.2,fB hs,Addr.jb]
         . rw[bU]at q;rw[<- B _ w q,Nat.add_assoc]
       . cases e
     . cases e
   . cases e
 . cases e
theorem Ov{v:V}{x' i':Value}(g:Good E h w)(r:dV E x x')(ri:dV E i i')(e:BP P t x i=some v):
  jP P E h n w (do pure (.value (<- Instr.index t x' i'))) (.val v h n):=by
 unfold BP at e;split at e
 . rename_i k i;simp only[dV]at ri;subst ri;split at e
   . rename_i len el R hu;split at e
     . rename_i s hs;split at e
       . rename_i hb;obtain⟨cs',rc,rfl⟩:=r;obtain⟨v',Q,O⟩:=rK (P:=P) (w:=w) (cs':=cs'.toArray) (by simpa using rc) e;refine eu g (v':=v') ?_ O;simp[Instr.index,asIntOf,dP hu,hb.1,hb.2,fB hs,Q]
       . cases e
     . cases e
   . rename_i s hu;split at e
     . rename_i hb;split at e
       . rename_i b hsb;obtain rfl:=eH e;simp only[dV]at r;subst r;refine eu g (v':=.int .u8 b.toNat) ?_ rfl;have hg:(⟨s.toArray⟩:ByteArray)[i.toNat]? =some b:=by
          obtain⟨eO,hv⟩:=aR.1 hsb;have my:i.toNat<(⟨s.toArray⟩:ByteArray).size:=by show i.toNat<s.toArray.size;simpa using eO
          rw[getElem?_pos (⟨s.toArray⟩:ByteArray) i.toNat my];congr 1
         simp[Instr.index,asIntOf,dP hu,hb,hg]
       . cases e
     . cases e
   . cases e
 . cases e
theorem Jv{vs:ag}{i:Nat}{v:V}{x':Value}(g:Good E h w)(r:dV E (.gw vs) x')(e:vs[i]? =some v):
  jP P E h n w (do pure (.value (<- Instr.extract x' i))) (.val v h n):=by
 obtain⟨U2,rs,rfl⟩:=r;obtain⟨v',Q,O⟩:=gK rs i v e;refine eu g (v':=v') ?_ O;simp[Instr.extract,Q]
theorem DO{v:V}{xt t:TypeId}{ok:Bool}{x':Value}(g:Good E h w)(r:dV E x x')(e:uw P x t ok=some v):
  jP P E h n w (do pure (.value (<- Instr.typeAssert x' xt t ok))) (.val v h n):=by
 unfold uw at e;split at e
 . cases e
 . rename_i d hu hd;simp only[dV]at r;subst r;split at e
   . rename_i mc;cases hz:zeroOf P t with
     |none=>simp[hz]at e
     |some z=>
      simp only[hz,aq]at e;subst e;obtain⟨z',hr,hv,_⟩:=kZ (w:=w) E hz;refine eu g (v':=.tuple #[z',.bool false]) ?_ ⟨[z',.bool false],⟨z',_,hv,⟨.bool false,[],rfl,rfl,rfl⟩,rfl⟩,rfl⟩;cases d<;>first|(exact absurd rfl (hu _))|simp[Instr.typeAssert,dP hd,mc,hr]
   . cases e
 . rename_i d t2 x2 hu hd;obtain⟨y,ry,rfl⟩:=r;split at e
   . rename_i ht;subst ht;obtain rfl:=eH e;cases ok with
     |true=>
      refine eu g (v':=.tuple #[y,.bool true]) ?_ ⟨[y,.bool true],⟨y,_,ry,⟨.bool true,[],rfl,rfl,rfl⟩,rfl⟩,rfl⟩;cases d<;>first|(exact absurd rfl (hu _))|simp[Instr.typeAssert,dP hd]
     |false=>
      refine eu g (v':=y) ?_ ry;cases d<;>first|(exact absurd rfl (hu _))|simp[Instr.typeAssert,dP hd]
   . rename_i ht;split at e
     . rename_i mc;cases hz:zeroOf P t with
       |none=>simp[hz]at e
       |some z=>
        simp only[hz,aq]at e;subst e;obtain⟨z',hr,hv,_⟩:=kZ (w:=w) E hz;refine eu g (v':=.tuple #[z',.bool false]) ?_ ⟨[z',.bool false],⟨z',_,hv,⟨.bool false,[],rfl,rfl,rfl⟩,rfl⟩,rfl⟩;cases d<;>first|(exact absurd rfl (hu _))|simp[Instr.typeAssert,dP hd,mc,hr,ht]
     . cases e
 . cases e
end
end
def nM(E:Env):Option V->Option Value->Prop
 |none,y=>y=none
 |some x,y=>∃y',dV E x y'/\y=some y'
section
variable{P:Program}{E:Env}{h:J h2}{n:Nat}{w:World}
theorem vt{d y r:Nat}{x:V}{x':Value}{c:BoundsCode}(e:eV d y (some x)=some r)(rx:dV E x x'):
  (Instr.sliceBound x' y c).run P w= .ok r w/\r<=y:=by
 unfold eV at e;split at e
 . rename_i q;cases q
 . rename_i k i q;cases q;simp only[dV]at rx;subst rx;split at e
   . rename_i hb;obtain rfl:=eH e;refine⟨?_,H⟩;simp[Instr.sliceBound,asIntOf,hb.1,hb.2]
   . cases e
 . cases e
theorem me{qt:Bool}{len jO l hh m:Nat}{lo hi mx:Option V}{Sx jB Sy:Option Value}(rl:nM E lo Sx)(rh:nM E hi jB)(rm:nM E mx Sy)
  (Z4:mx=none\/hi≠none) (e1:eV jO jO mx=some m) (e2:eV len m hi=some hh) (e3:eV 0 hh lo=some l) (jx:len<=jO):
  (Instr.sliceBounds qt len jO Sx jB Sy).run P w= .ok (l,hh,m) w/\l<=hh/\hh<=m/\m<=jO:=by
 have low:∀c,((match Sx with|some v=>Instr.sliceBound v hh c|none=>pure 0):Sem Nat).run P w= .ok l w/\l<=hh:=by
  intro c;cases lo with
  |none=>simp only[nM]at rl;subst rl;simp only[eV,aq]at e3;subst e3;exact⟨rfl,aU _⟩
  |some x=>obtain⟨x',rx,rfl⟩:=rl;exact vt e3 rx
 cases mx with
 |none=>
  simp only[nM]at rm;subst rm;simp only[eV,aq]at e1;subst e1;cases hi with
  |none=>
   simp only[nM]at rh;subst rh;simp only[eV,aq]at e2;subst e2;obtain⟨Q,O⟩:=low .sliceB;refine⟨?_,O,jx,aK _⟩;cases Sx<;>simp_all [Instr.sliceBounds]
  |some x=>
   obtain⟨x',rx,rfl⟩:=rh;obtain⟨p1,p2⟩:=vt (P:=P) (w:=w) (c:=if qt then .sliceAcap else .sliceAlen) e2 rx;obtain⟨Q,O⟩:=low .sliceB;refine⟨?_,O,p2,aK _⟩;cases Sx<;>simp_all [Instr.sliceBounds]
 |some y=>
  obtain⟨y',ry,rfl⟩:=rm;obtain⟨p1,p2⟩:=vt (P:=P) (w:=w) (c:=if qt then .slice3Acap else .slice3Alen) e1 ry;cases hi with
  |none=>rcases Z4 with q|q<;>simp at q
  |some x=>
   obtain⟨x',rx,rfl⟩:=rh;obtain⟨q1,q2⟩:=vt (P:=P) (w:=w) (c:=.slice3B) e2 rx;obtain⟨Q,O⟩:=low .slice3C;refine⟨?_,O,q2,p2⟩;cases Sx<;>simp_all [Instr.sliceBounds]
theorem Fl(s:aa)(l hh:Nat):(⟨s.toArray⟩:ByteArray).extract l hh=⟨((s.take hh).drop l).toArray⟩:=by
 apply ByteArray.ext;simp[List.extract_eq_take_drop,List.drop_take]
theorem Ow{t:TypeId}{x v:V}{x':Value}{lo hi mx:Option V}{Sx jB Sy:Option Value}(g:Good E h w)(r:dV E x x')(rl:nM E lo Sx)(rh:nM E hi jB)(rm:nM E mx Sy)
  (e:l8 P t h x lo hi mx=some v):jP P E h n w (do pure (.value (<- Instr.sliceAt t x' Sx jB Sy))) (.val v h n):=by
 unfold l8 at e;split at e
 . cases e
 . rename_i aaN;have Z4:mx=none\/hi≠none:=by
    cases mx with
    |none=>exact .inl rfl
    |some _=>cases hi with
     |none=>simp at aaN
     |some _=>exact .inr (by simp)
   clear aaN;split at e
   . rename_i s hu;cases mx with
     |some _=>simp at e
     |none=>
      simp only[nM]at rm;subst rm;simp only at e;simp only[dV]at r;subst r;cases O:eV s.length s.length hi with
      |none=>simp[O]at e
      |some hh=>
       simp only[O]at e;cases h3:eV 0 hh lo with
       |none=>simp[h3]at e
       |some l=>
        simp only[h3,aq]at e;subst e;have my:(⟨s.toArray⟩:ByteArray).size=s.length:=by show s.toArray.size=_;simp
        obtain⟨q,q1,q2,_⟩:=me (P:=P) (w:=w) (qt:=false) (len:=s.length) (jO:=s.length) (mx:=none) (Sy:=none) rl rh rfl (.inl rfl) rfl O h3 (aK _);refine eu g (v':=.string ⟨((s.take hh).drop l).toArray⟩) ?_ rfl;simp only[Sem.run_bind,Instr.sliceAt,dP hu,Result.andThen_ok,Instr.slice,Option.isSome_none,aM,cz,my,q,Sem.run_pure,Fl s l hh]
   . rename_i el a len jO jv hu;split at e
     . rename_i s hs;split at e
       . rename_i hse;cases Q:eV jO jO mx with
         |none=>simp[Q]at e
         |some m=>
          simp only[Q]at e;cases O:eV len m hi with
          |none=>simp[O]at e
          |some hh=>
           simp only[O]at e;cases h3:eV 0 hh lo with
           |none=>simp[h3]at e
           |some l=>
            simp only[h3,aq]at e;subst e;cases a with
            |none=>
             obtain⟨rfl,rfl,rfl⟩:=r;obtain⟨q,q1,q2,q3⟩:=me (P:=P) (w:=w) (qt:=true) rl rh rm Z4 Q O h3 (aK _);have K:m=0:=by omega
             have hh0:hh=0:=by omega
             have Dx:l=0:=by omega
             subst K;subst hh0;subst Dx;refine eu g (v':=.slice none 0 0) ?_ ⟨rfl,rfl,rfl⟩;simp only[Sem.run_bind,Instr.sliceAt,dP hu,Result.andThen_ok,Instr.slice,q,fB hs,Sem.run_pure];rfl
            |some a=>
             obtain⟨bm,o⟩:=a
             have hse:s=jv:=by rcases hse with q|q;. exact q
                               . cases q
             subst hse;obtain⟨b,sh,o',gx,jB,c1,c2,c3,c4,rfl⟩:=r;cases mx with
             |none=>
              simp only[nM]at rm;subst rm;simp only[eV,aq]at Q;subst Q;have Ak:eV len gx hi=some hh:=by
               cases hi with
               |none=>exact O
               |some y=>
                unfold eV at O ⊢;split at O
                . rename_i q;cases q
                . rename_i k i q;cases q;split at O
                  . rename_i hb;rw[aG ⟨hb.1,H⟩];exact O
                  . cases O
                . cases O
              obtain⟨q,q1,q2,q3⟩:=me (P:=P) (w:=w) (qt:=true) (mx:=none) (Sy:=none) (jO:=gx) rl rh rfl (.inl rfl) rfl Ak h3 H;have hhc:hh<=jO:=by
               cases hi with
               |none=>simp only[eV,aq]at O;omega
               |some y=>
                unfold eV at O;split at O
                . rename_i q;cases q
                . rename_i k i q;cases q;split at O
                  . rename_i hb;simp only[aq]at O;omega
                  . cases O
                . cases O
              refine eu g (v':=.slice (if gx=l then some ⟨b,o',none⟩else some ⟨b,o'+l*s,none⟩) (hh-l) (gx-l)) ?_ ?_
              . simp only[Sem.run_bind,Instr.sliceAt,dP hu,Result.andThen_ok,Instr.slice,q,fB hs,Sem.run_pure,bw,Addr.jb]
              . by_cases vY:gx=l
                . rw[aG vY];refine⟨b,sh,o',gx-l,jB,fun q=>by omega,H,H,?_,rfl⟩;rw[vY];simp;omega
                . rw[aB vY];refine⟨b,sh,o'+l*s,gx-l,jB,fun q=>?_,H,H,?_,rfl⟩
                  . rw[c1 H];omega
                  . have K:l*s+(gx-l)*s=gx*s:=by rw[<- dc];congr 1;omega
                    omega
             |some y=>
              obtain⟨y',ry,rfl⟩:=rm;have oG:eV gx gx (some y)=some m:=by
               unfold eV at Q ⊢;split at Q
               . rename_i q;cases q
               . rename_i k i q;cases q;split at Q
                 . rename_i hb;rw[aG ⟨hb.1,H⟩];exact Q
                 . cases Q
               . cases Q
              have hmc:m<=jO:=by
               unfold eV at Q;split at Q
               . rename_i q;cases q
               . rename_i k i q;cases q;split at Q
                 . rename_i hb;simp only[aq]at Q;omega
                 . cases Q
               . cases Q
              obtain⟨q,q1,q2,q3⟩:=me (P:=P) (w:=w) (qt:=true) (jO:=gx) rl rh (mx:=some y) (Sy:=some y') ⟨y',ry,rfl⟩ Z4 oG O h3 H;refine eu g (v':=.slice (if m=l then some ⟨b,o',none⟩else some ⟨b,o'+l*s,none⟩) (hh-l) (m-l)) ?_ ?_
              . simp only[Sem.run_bind,Instr.sliceAt,dP hu,Result.andThen_ok,Instr.slice,q,fB hs,Sem.run_pure,bw,Addr.jb]
              . by_cases vY:m=l
                . rw[aG vY];refine⟨b,sh,o',m-l,jB,fun q=>by omega,H,H,?_,rfl⟩;rw[vY];simp;omega
                . rw[aB vY];refine⟨b,sh,o'+l*s,m-l,jB,fun q=>?_,H,aK _,?_,rfl⟩
                  . rw[c1 H];omega
                  . have K:l*s+(m-l)*s=m*s:=by rw[<- dc];congr 1;omega
                    have U3:m*s<=gx*s:=cI _ H;omega
       . cases e
     . cases e
   . rename_i el f len R hu;have oL:∀{y jO r:Nat} {o:Option V},eV y y o=some r->y<=jO->o≠none->eV jO jO o=some r/\r<=y:=fun {y jO r o} q hq iV=>by
      cases o with
      |none=>exact absurd rfl iV
      |some v=>
       cases v with
       |int k i=>
        simp only[eV]at q ⊢;split at q
        . rename_i hb;obtain rfl:=eH q;exact⟨aG ⟨hb.1,H⟩,H⟩
        . cases q
       |_=>simp only[eV]at q;cases q
     split at e
     . rename_i s hs;split at e
       . rename_i vY;obtain⟨⟨a,jO,vs,rfl,oe,hd,h0,xS⟩,xT⟩:=r;have key:∀(l hh m:Nat),l<=hh->hh<=len->hh<=m->∀(f':Bool),(f'=true->m=hh)->
           dV E (.eB f' (hh-l) ((R.drop (l*s)).take ((hh-l)*s))) (.slice (if m=l then a else a.map (·.add (l*s))) (hh-l) (m-l)):=by
          intro l hh m k1 k2 k3 f' hf';refine⟨⟨_,_,(vs.drop (l*s)).take ((hh-l)*s),rfl,H,sJ (nD hd),fun q=>by rw[q];simp,fun q=>?_⟩,fun q=>⟨_,by rw[hf' q]⟩⟩;obtain⟨b,o,c,rfl,DJ,B⟩:=xS H;refine⟨b,o+l*s,c,?_,DJ,fun j w hw=>?_⟩
          . rw[aB H];simp[Addr.jb]
          . rw[bS]at hw;split at hw
            . rw[bU]at hw;rw[<- B _ w hw,Nat.add_assoc]
            . cases hw
         cases mx with
         |none=>
          simp only[nM]at rm;subst rm;simp only at e;cases O:eV len len hi with
          |none=>simp[O]at e
          |some hh=>
           simp only[O]at e;cases h3:eV 0 hh lo with
           |none=>simp[h3]at e
           |some l=>
            simp only[h3,aq]at e;subst e;have Ak:eV len jO hi=some hh/\hh<=len:=by
             cases hi with
             |none=>simp only[eV,aq]at O ⊢;exact⟨O,H⟩
             |some y=>
              obtain⟨q1,q2⟩:=oL O oe (by simp);exact⟨by cases y<;>exact q1,q2⟩
            obtain⟨q,q1,q2,q3⟩:=me (P:=P) (w:=w) (qt:=true) (mx:=none) (Sy:=none) (jO:=jO) rl rh rfl (.inl rfl) rfl Ak.1 h3 oe;refine eu g (v':=.slice (if jO=l then a else a.map (·.add (l*s))) (hh-l) (jO-l)) ?_ (key l hh jO q1 Ak.2 q2 _ fun hf=>?_)
            . simp only[Sem.run_bind,Instr.sliceAt,dP hu,Result.andThen_ok,Instr.slice,q,fB hs,Sem.run_pure]
            . simp only[ay,bV,Option.isSome_eq_false_iff,Option.isNone_iff_eq_none]at hf;obtain⟨hf1,rfl⟩:=hf;simp only[eV,aq]at O;obtain⟨a',ha'⟩:=xT hf1;simp only[Value.slice.injEq]at ha';omega
         |some y=>
          simp only at e;cases Q:eV len len (some y)with
          |none=>simp[Q]at e
          |some m=>
           simp only[Q]at e;cases O:eV len m hi with
           |none=>simp[O]at e
           |some hh=>
            simp only[O]at e;cases h3:eV 0 hh lo with
            |none=>simp[h3]at e
            |some l=>
             simp only[h3]at e;split at e
             . rename_i hhm;obtain rfl:=eH e;obtain⟨k1,k2⟩:=oL Q oe (by simp);obtain⟨q,q1,q2,q3⟩:=me (P:=P) (w:=w) (qt:=true) (jO:=jO) rl rh rm Z4 k1 O h3 oe;refine eu g (v':=.slice (if m=l then a else a.map (·.add (l*s))) (hh-l) (m-l)) ?_ (key l hh m q1 H q2 _ fun _=>hhm.symm);simp only[Sem.run_bind,Instr.sliceAt,dP hu,Result.andThen_ok,Instr.slice,q,fB hs,Sem.run_pure]
             . cases e
       . cases e
     . cases e
   . rename_i len el bm o hu;split at e
     . rename_i s hs;cases Q:eV len len mx with
       |none=>simp[Q]at e
       |some m=>
        simp only[Q]at e;cases O:eV len m hi with
        |none=>simp[O]at e
        |some hh=>
         simp only[O]at e;cases h3:eV 0 hh lo with
         |none=>simp[h3]at e
         |some l=>
          simp only[h3]at e;split at e
          . rename_i hb;obtain rfl:=eH e;obtain⟨Ju,Mv,iU⟩:=hb;unfold xC at iU;split at iU
            . rename_i R K;have hlc:o+len*s<=R.length:=by simpa using iU
              obtain⟨b,sh,jB,rfl⟩:=r;obtain⟨b',sh',AW,c,Z5,fz,rM,my,_,Eg⟩:=g.rel bm _ K;rw[jB]at AW;cases AW;obtain⟨q,q1,q2,q3⟩:=me (P:=P) (w:=w) (qt:=false) rl rh rm Z4 Q O h3 (aK _);refine eu g (v':=.slice (some (if m=l then⟨b,sh+o,none⟩else⟨b,sh+o+l*s,none⟩)) (hh-l) (m-l)) ?_ ?_
              . simp only[Sem.run_bind,Instr.sliceAt,dP hu,Result.andThen_ok,Instr.sureAddr,q,fB hs,Sem.run_pure,Addr.jb]
              . have ze:sh+o+m*s<=E.β b:=by
                 have xS:0<len*s:=Nat.mul_pos Mv Ju;have Sz:=nI Eg (k:=o+len*s) H hlc;have NP:m*s<=len*s:=cI _ q3;omega
                by_cases vY:m=l
                . rw[aG vY];refine⟨b,sh,sh+o,m-l,jB,fun q=>by omega,H,H,?_,rfl⟩;rw[vY];simp;omega
                . rw[aB vY];refine⟨b,sh,sh+o+l*s,m-l,jB,fun q=>by omega,H,aK _,?_,rfl⟩;have K:l*s+(m-l)*s=m*s:=by rw[<- dc];congr 1;omega
                  omega
            . cases iU
          . cases e
     . cases e
   . cases e
end
end Go.Eng
