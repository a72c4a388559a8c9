/- Lemmas of the engine. No conditions. -/
import GoSem.Core.Ast
import Derived.WalkKit
import Derived.Orders
import Derived.ChangeKeysEq
set_option linter.unusedVariables false
set_option linter.unusedSimpArgs false
set_option linter.unusedSectionVars false
namespace Go.Eng
def uc:List (Nat×Nat):=[]
open Go
abbrev aq:=@Option.some.injEq
abbrev au:=@List.getElem?_eq_getElem
abbrev ax:=@List.getD_eq_getElem?_getD
abbrev ay:=@Bool.and_eq_true
abbrev az:=@List.mem_cons
abbrev aA:=@if_neg
abbrev aB:=@Prod.mk.injEq
abbrev aD:=@if_pos
abbrev aE:=@Nat.le_of_ble_eq_true
abbrev aF:=@List.not_mem_nil
abbrev aG:=@List.mem_singleton
abbrev aH:=@List.length_append
abbrev aI:=@congrArg
abbrev aJ:=@Nat.eq_of_beq_eq_true
abbrev aK:=@Nat.le_refl
abbrev aL:=@forall_eq_or_imp
abbrev aM:=@Bool.false_eq_true
abbrev aN:=@Nat.zero_le
abbrev aO:=@List.getElem?_eq_some_iff
abbrev aP:=@Bool.true_and
abbrev aQ:=@Bool.false_and
abbrev aR:=@List.length_cons
abbrev aS:=@decide_eq_true_eq
abbrev aT:=@decide_eq_true
abbrev aU:=@Array.getElem?_eq_some_iff
abbrev aV:=@decide_eq_false
abbrev aW:=@List.length_take
abbrev aX:=@of_decide_eq_true
abbrev aY:=@Array.getElem?_eq_getElem
abbrev aZ:=@List.mem_cons_of_mem
abbrev bf:=@List.mem_append
abbrev bg:=@forall_eq
abbrev bh:=@or_false
abbrev bj:=@Nat.lt_or_ge
abbrev bn:=@List.take_length
abbrev bq:=@of_decide_eq_false
abbrev br:=@List.all_eq_true
abbrev bt:=@decide_eq_false_iff_not
abbrev bu:=@Option.map_some
abbrev bw:=@List.mem_cons_self
abbrev bx:=@List.drop_zero
abbrev bz:=@List.drop_eq_getElem_cons
abbrev bA:=@List.nil_append
abbrev bB:=@Nat.zero_add
abbrev bC:=@List.getElem?_map
abbrev bD:=@List.getElem?_append_left
abbrev bE:=@Option.ne_none_iff_exists'
abbrev bG:=@List.length_map
abbrev bH:=@Nat.le_trans
abbrev bI:=@Option.isSome_iff_exists
abbrev bJ:=@List.getElem_mem
abbrev bK:=@Array.getD_eq_getD_getElem?
abbrev bL:=@Nat.not_lt_zero
abbrev bM:=@List.map_append
abbrev bN:=@List.mem_range
abbrev bO:=@Int.natCast_nonneg
abbrev bP:=@Array.getElem?_toList
abbrev bQ:=@List.map_cons
abbrev bR:=@Bool.false_or
abbrev bS:=@List.mem_map
abbrev bU:=@Bool.true_or
abbrev bV:=@Bool.not_eq_true'
abbrev bW:=@List.getElem?_take
abbrev bX:=@List.getElem?_drop
abbrev bY:=@List.take_add_one
abbrev bZ:=@List.findIdx?_eq_some_iff_getElem
abbrev b9:=@List.length_nil
abbrev cg:=@Bool.or_eq_true
abbrev cj:=@List.take_of_length_le
abbrev ck:=@List.getElem_of_mem
abbrev cm:=@beq_iff_eq
abbrev cq:=@Option.getD_some
abbrev cr:=@beq_eq_false_iff_ne
abbrev ct:=@List.getElem?_eq_none
abbrev cz:=@Bool.and_true
abbrev cA:=@if_false
abbrev cB:=@Int.ofNat_lt
abbrev cC:=@Bool.or_false
abbrev cE:=@Bool.or_eq_false_iff
abbrev cF:=@List.eq_nil_iff_length_eq_zero
abbrev cG:=@Nat.lt_of_lt_of_le
abbrev cH:=@Nat.eq_zero_or_pos
abbrev cI:=@Bool.and_false
abbrev cJ:=@Array.getElem?_append_left
abbrev cK:=@List.getElem?_cons_zero
abbrev cL:=@Option.map_eq_some_iff
abbrev cM:=@Nat.mul_le_mul_right
abbrev cN:=@List.mem_of_mem_take
abbrev cO:=@List.append_assoc
abbrev cP:=@Nat.mul_one
abbrev cQ:=@List.length_singleton
abbrev cR:=@List.contains_iff_mem
abbrev cS:=@Int.toNat_of_nonneg
abbrev cT:=@List.getElem?_append_right
abbrev cU:=@List.flatten_cons
abbrev cV:=@List.findIdx?_eq_none_iff
abbrev cW:=@Bool.or_true
abbrev cZ:=@List.getElem?_range
abbrev c5:=@Nat.testBit_two_pow_sub_one
abbrev dc:=@List.any_eq_false
abbrev de:=@List.length_eq_zero_iff
abbrev dg:=@Nat.mod_two_eq_zero_or_one
abbrev dh:=@Nat.add_mul
abbrev di:=@Bool.not_eq_false'
abbrev dj:=@Nat.lt_irrefl
abbrev dm:=@List.map_take
abbrev dn:=@Option.some.inj
abbrev dr:=@Nat.sub_zero
abbrev dw:=@List.append_nil
abbrev aa:=List UInt8
abbrev ah:=List Prop
abbrev B:=IntKind.i64
theorem dD{α:Sort _}{a b:α}(h:a=b:=by kernel_rfl):a=b:=h
section
variable{p:Prop}{α:Type _}
theorem S(h:p:=by omega):p:=h
theorem eX(h:p:=by decide):p:=h
theorem aiD(n:Nat):Int.ofNat n=(n:Int):=rfl
theorem WT(h:p:=by simp only[aiD];omega):p:=h
theorem abV{α:Type}{a:α}{h2 Q:α->Prop}(h:Q a):∀g∈[a],h2 g->Q g:=fun _ hg _=>aG.1 hg▸h
theorem av2{l:ah}(h:p)(t:∀a∈l,a):∀a∈p::l,a:=List.forall_mem_cons.2 ⟨h,t⟩
theorem eU{a b:α}(h:some a=some b):a=b:=dn h
theorem gl{β:Type _}{a c:α}{b d:β}(h:some (a,b)=some (c,d)):a=c/\b=d:=Prod.mk.inj (dn h)
end
inductive D where
 |bool (b:Bool)
 |int (k:IntKind) (n:Int)
 |str (s:aa)
 |eE (n:Nat) (cs:List D)
 |agg (cs:List D)
 deriving Inhabited
abbrev ae:=List (D×D)
abbrev ai:=List D
inductive V where
 |bool (b:Bool)
 |int (k:IntKind) (n:Int)
 |str (s:aa)
 |ptr (a:Option (Nat×Nat))
 |eZ (a:Option (Nat×Nat)) (len jQ kY:Nat)
 |map (r:Option Nat)
 |fn (f:Fn) (first captured:List V)
 |kI
 |iface (t:TypeId) (v:V)
 |nilIface
 |agg (cs:List V)
 |gV (vs:List V)
 |eE (f:Bool) (n:Nat) (cs:ai)
 |dS (cs:ai)
 deriving Inhabited
abbrev ag:=List V
mutual
def D.kH:D->V
 | .bool b=>.bool b
 | .int k n=>.int k n
 | .str s=>.str s
 | .eE n cs=>.eE false n cs
 | .agg cs=>.agg (D.fU cs)
def D.fU:ai->ag
 | []=>[]
 |x::xs=>x.kH::D.fU xs
end
theorem D.gq:∀l:ai,D.fU l=l.map D.kH
 | []=>rfl
 |x::xs=>by rw[D.fU,D.gq xs];rfl
def D.scalar:D->Bool
 | .agg _=>false
 |_=>true
mutual
def V.Jz:V->Option D
 | .bool b=>some (.bool b)
 | .int k n=>some (.int k n)
 | .str s=>some (.str s)
 | .eE _ n cs=>some (.eE n cs)
 | .eZ none _ _ _=>some (.eE 0 [])
 | .eZ (some _) 0 _ _=>some (.eE 0 [])
 | .agg cs=>match V.Oz cs with
   |some l=>some (.agg l)
   |none=>none
 |_=>none
def V.Oz:ag->Option (ai)
 | []=>some []
 |x::xs=>match V.Jz x with
  |some d=>match V.Oz xs with
   |some l=>match d.scalar with
    |true=>some (d::l)
    |false=>none
   |none=>none
  |none=>none
end
inductive I(α:Type) where
 |nil
 |node (v:Option α) (l r:I α)
 deriving Inhabited
inductive es where
 |cells (cs:ag)
 |map (O:List (V×V×Nat)) (fg:Nat)
 |nB (s:aa) (pos:Nat)
 |ints (k:IntKind) (ks:List Int)
 |own (k:IntKind) (ks:List Int)
 |deep (cs:ai)
 |vM (el:TypeId) (An:Bool) (s:aa)
 |Hh (t:TypeId) (self:Bool) (x:V)
 |gM (kd:Option IntKind) (O:ae)
 |oI (kd:Option IntKind) (O:ae)
 |ud
 |loop (st:Bool) (pe:Option Code) (T:I V) (ps:List Nat) (assign body:Code)
 deriving Inhabited
abbrev af:=List (Nat×es)
def es.wr:es->Bool
 | .ints _ _=>false
 |_=>true
def I.get{α:Type}:I α->Nat->Option α
 | .nil,_=>none
 | .node v l r,k=>
   match k with
   |0=>v
   |k+1=>match k%2 with
    |0=>l.get (k/2)
    |_=>r.get (k/2)
def I.qS{α:Type}:Nat->I α->Nat->Option α->I α
 |0,t,_,_=>t
 |f+1,.nil,k,x=>
  match k with
  |0=>.node x .nil .nil
  |k+1=>match k%2 with
   |0=>.node none (I.qS f .nil (k/2) x) .nil
   |_=>.node none .nil (I.qS f .nil (k/2) x)
 |f+1,.node v l r,k,x=>
  match k with
  |0=>.node x l r
  |k+1=>match k%2 with
   |0=>.node v (I.qS f l (k/2) x) r
   |_=>.node v l (I.qS f r (k/2) x)
def gy:Nat:=4294967296
def I.set{α:Type}(t:I α)(k:Nat)(x:Option α):I α:=I.qS 33 t k x
def jb:Value->Option V
 | .bool b=>some (.bool b)
 | .int k n=>some (.int k n)
 | .string s=>some (.str s.data.toList)
 | .pointer none=>some (.ptr none)
 | .slice none 0 0=>some (.eZ none 0 0 0)
 | .map none=>some (.map none)
 | .nilFunc=>some .kI
 | .nilIface=>some .nilIface
 |_=>none
def nF:List Value->Option (ag)
 | []=>some []
 |v::vs=>match jb v with
  |some x=>match nF vs with
   |some xs=>some (x::xs)
   |none=>none
  |none=>none
def Lt:Value->Option V
 | .agg cs=>match nF cs.toList with
   |some xs=>some (.agg xs)
   |none=>none
 |v=>jb v
def V.cells:V->ag
 | .agg cs=>cs
 |v=>[v]
def V.scalar:V->Bool
 | .agg _ | .gV _=>false
 |_=>true
section
variable(P:Program)(t:TypeId)
def ko:Option Nat:=(P.info? t).map (·.size)
def zeroOf:Option V:=
 match P.info? t with
 |some i=>match i.zero with
  |some v=>Lt v
  |none=>none
 |none=>none
def Hi:Option Bool:=
 match P.underlying t with
 |some (.struct _)=>some true
 |some (.array _ _)=>some true
 |some _=>some false
 |none=>none
end
inductive s' where
 |val (v:V) (h:I es) (n:Nat)
 |call (f:FuncId) (args:ag)
 |ud (f:FuncId) (captured args:ag)
 |recover
 |panic (v:V)
section
variable(P:Program)(h:I es)(t:TypeId)(n:Nat)
def kB:Option V->Option s'
 |some v=>some (.val v h n)
 |none=>none
def newObj(o:es):Option (I es×Nat):=
 if n<gy then some (h.set n (some o),n+1)else none
def cut(cs:ag)(o size:Nat):Option (ag):=
 if o+size<=cs.length then some ((cs.drop o).take size)else none
def BT(cs:ag)(o:Nat)(new:ag):Option (ag):=
 if o+new.length<=cs.length then some (cs.take o++(new++cs.drop (o+new.length)))else none
def kV(cs:ag)(o:Nat):Option V:=
 match Hi P t with
 |some true=>match ko P t with
  |some s=>(cut cs o s).map .agg
  |none=>none
 |some false=>cs[o]?
 |none=>none
def ux(m:Nat)(self:Bool)(x:V):ag:=[if self then .ptr (some (m,0))else .ptr none,x]
def BU(z:V):es:=match z.cells with
 | [.ptr none,.eZ none 0 0 0]=>match P.underlying t with
   |some (.struct fs)=>match fs[0]? with
    |some f=>match P.underlying f.type with
     |some (.pointer t')=>if Nat.beq t' t then .Hh t false (.eZ none 0 0 0)else .cells z.cells
     |_=>.cells z.cells
    |none=>.cells z.cells
   |_=>.cells z.cells
 |_=>.cells z.cells
def loadAt(h:I es):V->Option V
 | .ptr (some (m,o))=>match h.get m with
   |some (.cells cs)=>kV P t cs o
   |some (.ints k ks)=>kV P t (ks.map (.int k)) o
   |some (.own k ks)=>kV P t (ks.map (.int k)) o
   |some (.deep cs)=>kV P t (D.fU cs) o
   |some (.Hh _ self x)=>kV P t (ux m self x) o
   |_=>none
 | .dS cs=>kV P t (D.fU cs) 0
 |_=>none
end
inductive Row where
 |vs (cs:ag)
 |is (k:IntKind) (ks:List Int)
 |ds (cs:ai)
def Row.kH:Row->ag
 | .vs cs=>cs
 | .is k ks=>ks.map (.int k)
 | .ds cs=>D.fU cs
def Row.Ei:Row->es
 | .vs cs=>.cells cs
 | .is k ks=>.own k ks
 | .ds cs=>.deep cs
def es.row:es->Option Row
 | .cells cs=>some (.vs cs)
 | .own k ks=>some (.is k ks)
 | .deep cs=>some (.ds cs)
 |_=>none
def es.MK:es->Option Row
 | .cells cs=>some (.vs cs)
 | .own k ks=>some (.is k ks)
 | .ints k ks=>some (.is k ks)
 | .deep cs=>some (.ds cs)
 |_=>none
def iJ:ag->Option (ai)
 | []=>some []
 |x::r=>match(match x with
  | .bool b=>some (.bool b)
  | .int k n=>some (.int k n)
  | .str s=>some (.str s)
  | .eE _ n cs=>some (.eE n cs)
  | .eZ none _ _ _=>some (.eE 0 [])
  |_=>none:Option D)with
  |some d=>match iJ r with
   |some l=>some (d::l)
   |none=>none
  |none=>none
def pJ(k:IntKind):ag->Option (List Int)
 | []=>some []
 | .int k' x::r=>match decide (k'=k),pJ k r with
   |true,some l=>some (x::l)
   |_,_=>none
 |_::_=>none
def Row.app:Row->Row->Row
 | .vs a,.vs b=>.vs (a++b)
 | .is k a,.is k' b=>match decide (k'=k)with
   |true=>.is k (a++b)
   |false=>.vs (a.map (.int k)++b.map (.int k'))
 | .is k a,.vs b=>match pJ k b with
   |some l=>.is k (a++l)
   |none=>.vs (a.map (.int k)++b)
 | .vs a,.is k b=>match pJ k a with
   |some l=>.is k (l++b)
   |none=>.vs (a++b.map (.int k))
 | .ds a,.ds b=>.ds (a++b)
 | .ds a,.vs b=>match iJ b with
   |some l=>.ds (a++l)
   |none=>.vs (D.fU a++b)
 | .vs a,.ds b=>match iJ a with
   |some l=>.ds (l++b)
   |none=>.vs (a++D.fU b)
 | .ds a,.is k b=>.ds (a++b.map (.int k))
 | .is k a,.ds b=>.ds (a.map (.int k)++b)
def Row.cut(o size:Nat):Row->Option Row
 | .vs cs=>match Eng.cut cs o size with
   |some r=>some (.vs r)
   |none=>none
 | .is k ks=>if o+size<=ks.length then some (.is k ((ks.drop o).take size))else none
 | .ds cs=>if o+size<=cs.length then some (.ds ((cs.drop o).take size))else none
def Row.soft:Row->Bool
 | .ds _=>true
 |_=>false
def Row.flat:Row->Bool
 | .vs cs=>cs.all V.scalar
 | .is _ _=>true
 | .ds _=>true
def nC(ks:ai)(o:Nat)(new:ai):ai:=ks.take o++(new++ks.drop (o+new.length))
def A6(ks:List Int)(o:Nat)(new:List Int):List Int:=ks.take o++(new++ks.drop (o+new.length))
def storeAt(P:Program)(t:TypeId)(h:I es)(v:V):V->Option (I es)
 | .ptr (some (m,o))=>match h.get m with
   |some (.cells cs)=>
    match ko P t with
    |some s=>
     if v.cells.length=s/\0<s/\m<gy/\v.cells.all V.scalar=true then
      match BT cs o v.cells with
      |some cs'=>some (h.set m (some (.cells cs')))
      |none=>none
     else none
    |none=>none
   |some (.own k ks)=>
    match ko P t with
    |some s=>
     if v.cells.length=s/\0<s/\m<gy then
      match pJ k v.cells with
      |some new=>if o+s<=ks.length then some (h.set m (some (.own k (A6 ks o new))))else none
      |none=>none
     else none
    |none=>none
   |some (.deep cs)=>
    match ko P t with
    |some s=>
     if v.cells.length=s/\0<s/\m<gy then
      match iJ v.cells with
      |some new=>if o+s<=cs.length then some (h.set m (some (.deep (nC cs o new))))else none
      |none=>none
     else none
    |none=>none
   |some (.Hh fr self _)=>match ko P t,v.cells with
    |some 1,[x]=>if o=1/\m<gy/\x.scalar=true then some (h.set m (some (.Hh fr self x)))else none
    |_,_=>none
   |_=>none
 |_=>none
def rH(xF:Nat->Option (Nat×Nat)):ag->List (Nat×V)->Option (ag)
 |cells,[]=>some cells
 |cells,(i,v)::rest=>
  match xF i with
  |none=>none
  |some (off,size)=>
   if v.cells.length=size then
    match BT cells off v.cells with
    |some pK=>rH xF pK rest
    |none=>none
   else none
def sN(P:Program):List Field->Option (List (Nat×Nat))
 | []=>some []
 |f::fs=>match ko P f.type with
  |some s=>match sN P fs with
   |some r=>some ((f.offset,s)::r)
   |none=>none
  |none=>none
def JA(P:Program)(t:TypeId)(parts:List (Nat×V)):Option V:=
 match zeroOf P t,P.underlying t with
 |some z,some (.struct lT)=>
  match sN P lT.toList with
  |some uy=>(rH (fun i=>uy[i]?) z.cells parts).map .agg
  |none=>none
 |some z,some (.array _ SO)=>
  match ko P SO with
  |some s=>(rH (fun i=>some (i*s,s)) z.cells parts).map .agg
  |none=>none
 |_,_=>none
def iA(z:ag):Nat->ag
 |0=>[]
 |n+1=>z++iA z n
section
variable(P:Program)(t:TypeId)
def uz:Option TypeId:=
 match P.underlying t with
 |some (.slice e)=>some e
 |_=>none
def og(len:Nat)(parts:List (Nat×V))(h:I es)(n:Nat):Option s':=
 match uz P t with
 |some e=>match ko P e,zeroOf P e with
  |some s,some z=>
   if 0<s/\len*s<=16777216/\z.cells.length=s then
    match rH (fun i=>some (i*s,s)) (iA z.cells len) parts with
    |some cs=>match newObj h n (.cells cs)with
     |some (h',n')=>some (.val (.eZ (some (n,0)) len len s) h' n')
     |none=>none
    |none=>none
   else none
  |_,_=>none
 |none=>none
end
def sO:Sem Value->Option V
 | .pure v=>jb v
 |_=>none
def mM:aa->aa->Bool
 | [],[]=>true
 |a::x,b::y=>match Nat.beq a.toNat b.toNat with
  |true=>mM x y
  |false=>false
 |_,_=>false
def wD:Nat:=9223372036854775807
def OA:aa->aa->Bool
 |_,[]=>false
 | [],_::_=>true
 |a::x,b::y=>match Nat.blt a.toNat b.toNat with
  |true=>true
  |false=>match Nat.beq a.toNat b.toNat with
   |true=>OA x y
   |false=>false
def OB(op:BinOp)(a b:aa):Option V:=
 match op with
 | .lss=>some (.bool (OA a b))
 | .geq=>some (.bool (!OA a b))
 | .leq=>some (.bool (OA a b||mM a b))
 | .gtr=>some (.bool (!(OA a b||mM a b)))
 | .add=>if a.length+b.length<=wD then some (.str (a++b))else none
 | .eql=>some (.bool (mM a b))
 | .neq=>some (.bool (!mM a b))
 |_=>none
def oh(P:Program)(t:TypeId)(cs:ag)(off:Nat):Option V:=kV P t cs off
def eqFields(P:Program)(eq:TypeId->V->V->Option Bool):List Field->ag->ag->Option Bool
 | [],_,_=>some true
 |f::fs,xs,ys=>
  if f.name ≠ "_" then
   match oh P f.type xs f.offset,oh P f.type ys f.offset with
   |some a,some b=>match eq f.type a b with
    |some true=>eqFields P eq fs xs ys
    |some false=>some false
    |none=>none
   |_,_=>none
  else eqFields P eq fs xs ys
def om(P:Program)(eq:V->V->Option Bool)(e:TypeId)(c:Nat)(xs ys:ag):List Nat->Option Bool
 | []=>some true
 |i::is=>match oh P e xs (i*c),oh P e ys (i*c)with
  |some a,some b=>match eq a b with
   |some true=>om P eq e c xs ys is
   |some false=>some false
   |none=>none
  |_,_=>none
def Ej(P:Program):Nat->TypeId->V->V->Option Bool
 |0,_,_,_=>none
 |d+1,t,x,y=>
  match P.underlying t with
  |some .bool=>match x,y with
   | .bool a,.bool b=>some (a==b)
   |_,_=>none
  |some (.int _)=>match x,y with
   | .int k a,.int k' b=>if k=k' then some (a==b)else none
   |_,_=>none
  |some .string=>match x,y with
   | .str a,.str b=>some (mM a b)
   |_,_=>none
  |some (.pointer el)=>match x,y with
   | .ptr none,.ptr b=>some b.isNone
   | .ptr (some _),.ptr none=>some false
   | .ptr (some (m,o)),.ptr (some (m',o'))=>if(m=m'/\o=o')/\(ko P el).isSome=true then some true else none
   | .ptr none,.dS _=>some false
   | .dS _,.ptr none=>some false
   |_,_=>none
  |some (.interface _)=>match x,y with
   | .nilIface,.nilIface=>some true
   | .nilIface,.iface _ _=>some false
   | .iface _ _,.nilIface=>some false
   |_,_=>none
  |some (.struct lT)=>match x,y with
   | .agg xs,.agg ys=>if P.stoodInHeld t then none else eqFields P (fun u a b=>Ej P d u a b) lT.toList xs ys
   |_,_=>none
  |some (.slice _)=>match x,y with
   | .eZ none _ _ _,.eZ b _ _ _=>some b.isNone
   | .eZ (some _) _ _ _,.eZ none _ _ _=>some false
   | .eE _ n _,.eZ none _ _ _=>match n with
     |_+1=>some false
     |0=>none
   |_,_=>none
  |some (.map _ _)=>match x,y with
   | .map none,.map b=>some b.isNone
   | .map (some _),.map none=>some false
   |_,_=>none
  |some (.array n e)=>match x,y with
   | .agg xs,.agg ys=>match(P.info? e).isSome with
     |true=>om P (Ej P d e) e (P.cellsOf e) xs ys (List.range n)
     |false=>none
   |_,_=>none
  |_=>none
def isLit:Operand->Bool
 | .const _=>true
 |_=>false
def DP(P:Program)(t:TypeId)(x y:Operand)(a b:V):Option Bool:=
 match a,b with
 | .nilIface,.nilIface=>if isLit x||isLit y then Ej P 10000 t a b else none
 | .agg _,.agg _=>if P.eqGuardType P.depth t then none else Ej P 10000 t a b
 |_,_=>Ej P 10000 t a b
def BV(P:Program)(op:BinOp)(t:TypeId)(x y:Operand)(a b:V):Option V:=
 match a,b with
 | .int k m,.int k' n=>sO (binOp op t (.int k m) (.int k' n))
 | .str s,.str u=>OB op s u
 |a,b=>match op with
  | .eql=>(DP P t x y a b).map .bool
  | .neq=>(DP P t x y a b).map fun r=>.bool (!r)
  |_=>none
def unV(op:UnOp):V->Option V
 | .int k n=>sO (Op.unary op (.int k n))
 | .bool b=>sO (Op.unary op (.bool b))
 |_=>none
def BW(s:aa):ag:=s.map fun b=>.int .u8 b.toNat
def pL(s:aa):List Int:=s.map fun b=>(b.toNat:Int)
def nG(ks:List Int):aa:=ks.map fun n=>UInt8.ofNat n.toNat
def uA:Option es->Option (aa)
 |some (.vM _ _ s)=>some s
 |_=>none
def Ao:Option es->Option (List Int)
 |some (.own .u8 ks)=>some ks
 |some (.ints .u8 ks)=>some ks
 |_=>none
def qz:ag->Option (aa)
 | []=>some []
 | .int .u8 n::vs=>match qz vs with
   |some bs=>some (UInt8.ofNat n.toNat::bs)
   |none=>none
 |_::_=>none
def iw(m:Int):aa:=(Utf8.encode m).data.toList
def oS(P:Program)(Lu dst:TypeId)(v:V)(h:I es)(n:Nat):Option s':=
 match P.underlying Lu,P.underlying dst,v with
 |some _,some (.int k),.int _ m=>some (.val (.int k (k.wrap m)) h n)
 |some _,some .string,.str s=>some (.val (.str s) h n)
 |some _,some .string,.int _ m=>some (.val (.str (iw m)) h n)
 |some .string,some (.slice e),.str s=>
  match P.underlying e with
  |some (.int .u8)=>match newObj h n (.own .u8 (pL s))with
   |some (h',n')=>some (.val (.eZ (some (n,0)) s.length s.length 1) h' n')
   |none=>none
  |_=>none
 |some (.slice e),some .string,.eE _ 0 _=>
  match P.underlying e with
  |some (.int .u8)=>some (.val (.str []) h n)
  |_=>none
 |some (.slice e),some .string,.eZ none _ _ _=>
  match P.underlying e with
  |some (.int .u8)=>some (.val (.str []) h n)
  |_=>none
 |some (.slice e),some .string,.eZ (some (m,o)) len _ kY=>
  match P.underlying e with
  |some (.int .u8)=>if kY=1 then(match uA (h.get m)with
   |some s0=>if len=0\/o+len<=s0.length then some (.val (.str ((s0.drop o).take len)) h n)else none
   |none=>match Ao (h.get m)with
   |some ks=>if len=0\/o+len<=ks.length then some (.val (.str (nG ((ks.drop o).take len))) h n)else none
   |none=>match len with
   |0=>some (.val (.str []) h n)
   |_=>match h.get m with
    |some (.cells cs)=>match cut cs o len with
     |some bs=>match qz bs with
      |some s=>some (.val (.str s) h n)
      |none=>none
     |none=>none
    |_=>none)else none
  |_=>none
 |_,_,_=>none
def SP(ks:List Int):Nat->List Int
 |0=>[]
 |n+1=>ks++SP ks n
def Ff(ks:ai):Nat->ai
 |0=>[]
 |n+1=>ks++Ff ks n
def vm(z:ag)(n:Nat):Row:=match z with
 | .int k x::r=>match pJ k (.int k x::r)with
   |some ks=>.is k (SP ks n)
   |none=>match iJ (.int k x::r)with
    |some ds=>.ds (Ff ds n)
    |none=>.vs (iA (.int k x::r) n)
 |z=>match iJ z with
  |some ds=>.ds (Ff ds n)
  |none=>.vs (iA z n)
section
variable(P:Program)(t:TypeId)
def nH(l c:V)(h:I es)(n:Nat):Option s':=
 match uz P t,l,c with
 |some e,.int _ l,.int _ c=>
  match P.info? e,zeroOf P e with
  |some i,some z=>
   let l':=IntKind.i64.wrap l
   let c':=IntKind.i64.wrap c
   if 0<i.size/\z.cells.length=i.size/\0<=l'/\l'<=c'/\i.bytes*c'<=281474976710656 then
    match newObj h n (vm z.cells c'.toNat).Ei with
    |some (h',n')=>some (.val (.eZ (some (n,0)) l'.toNat c'.toNat i.size) h' n')
    |none=>none
   else none
  |_,_=>none
 |_,_,_=>none
def fh(A8:Nat)(y:Nat):Option V->Option Nat
 |none=>some A8
 |some (.int _ i)=>if 0<=i/\i<=y then some i.toNat else none
 |some _=>none
def xG(h:I es)(m k:Nat):Bool:=
 match h.get m with
 |some (.cells cs)=>decide (k<=cs.length)
 |_=>false
def my(hp:I es)(x:V)(lo hi mx:Option V):Option V:=
 if mx.isSome=true/\hi.isSome=false then none else
 match P.underlying t,x with
 |some .string,.str s=>
  match mx with
  |some _=>none
  |none=>match fh s.length s.length hi with
   |some h=>match fh 0 h lo with
    |some l=>some (.str ((s.take h).drop l))
    |none=>none
   |none=>none
 |some (.slice e),.eZ a len jQ kY=>
  match ko P e with
  |some s=>if s=kY\/a=none then
    match fh jQ jQ mx with
    |some m=>match fh len m hi with
     |some h=>match fh 0 h lo with
      |some l=>some (.eZ (match a with|none=>none|some (b,o)=>some (b,o+l*kY)) (h-l) (m-l) kY)
      |none=>none
     |none=>none
    |none=>none
   else none
  |none=>none
 |some (.slice e),.eE f len cs=>
  match ko P e with
  |some s=>if cs.length=len*s then
    match mx with
    |none=>match fh len len hi with
     |some h=>match fh 0 h lo with
      |some l=>some (.eE (f&& !hi.isSome) (h-l) ((cs.drop (l*s)).take ((h-l)*s)))
      |none=>none
     |none=>none
    |some m=>match fh len len (some m)with
     |some m=>match fh len m hi with
      |some h=>match fh 0 h lo with
       |some l=>if h=m then some (.eE true (h-l) ((cs.drop (l*s)).take ((h-l)*s)))else none
       |none=>none
      |none=>none
     |none=>none
   else none
  |none=>none
 |some (.array n e),.ptr (some (b,o))=>
  match ko P e with
  |some s=>
   match fh n n mx with
   |some m=>match fh n m hi with
    |some h=>match fh 0 h lo with
     |some l=>if 0<s/\0<n/\xG hp b (o+n*s)=true then some (.eZ (some (b,o+l*s)) (h-l) (m-l) s)else none
     |none=>none
    |none=>none
   |none=>none
  |none=>none
 |_,_=>none
def wE(f:Nat):V->Option V
 | .ptr (some (m,o))=>match P.underlying t with
   |some (.struct fs)=>match fs[f]? with
    |some fd=>match ko P fd.type with
     |some (_+1)=>some (.ptr (some (m,o+fd.offset)))
     |_=>none
    |none=>none
   |_=>none
 | .dS cs=>match P.underlying t with
   |some (.struct fs)=>match fs[f]? with
    |some fd=>match ko P fd.type with
     |some (_+1)=>some (.dS (cs.drop fd.offset))
     |_=>none
    |none=>none
   |_=>none
 |_=>none
def JB(f:Nat):V->Option V
 | .agg cs=>match P.underlying t with
   |some (.struct fs)=>match fs[f]? with
    |some fd=>oh P fd.type cs fd.offset
    |none=>none
   |_=>none
 |_=>none
def mz(x ix:V):Option V:=
 match ix with
 | .int _ i=>
   match P.underlying t,x with
   |some (.array len e),.ptr (some (m,o))=>
    match ko P e with
    |some s=>if 0<=i/\i<len then some (.ptr (some (m,o+i.toNat*s)))else none
    |none=>none
   |some (.slice e),.eZ (some (m,o)) len _ kY=>
    match ko P e with
    |some s=>if 0<=i/\i<len/\s=kY then some (.ptr (some (m,o+i.toNat*s)))else none
    |none=>none
   |some (.slice e),.eE _ len cs=>
    match ko P e with
    |some s=>if(0<=i/\i<len)/\cs.length=len*s then some (.dS ((cs.drop (i.toNat*s)).take s))else none
    |none=>none
   |some (.array len e),.dS cs=>
    match ko P e with
    |some s=>if 0<=i/\i<len then some (.dS (cs.drop (i.toNat*s)))else none
    |none=>none
   |_,_=>none
 |_=>none
def BX(x ix:V):Option V:=
 match ix with
 | .int _ i=>
   match P.underlying t,x with
   |some (.array len e),.agg cs=>
    match ko P e with
    |some s=>if 0<=i/\i<len then oh P e cs (i.toNat*s)else none
    |none=>none
   |some .string,.str s=>
    if 0<=i then(match s[i.toNat]? with
     |some b=>some (.int .u8 b.toNat)
     |none=>none)else none
   |_,_=>none
 |_=>none
end
def xH:TypeDesc->V->V->Option Bool
 | .int _,.int k a,.int k' b=>if k=k' then some (a==b)else none
 | .string,.str a,.str b=>some (mM a b)
 |_,_,_=>none
def ik:D->D->Bool
 | .int k a,.int k' b=>decide (k=k')&&decide (a=b)
 | .str a,.str b=>mM a b
 |_,_=>false
def gF:Option IntKind->D->Bool
 |some k,.int k' _=>decide (k'=k)
 |none,.str _=>true
 |_,_=>false
def lz:TypeDesc->Option IntKind->Bool
 | .int k,some k'=>decide (k=k')
 | .string,none=>true
 |_,_=>false
def fG(k:D):ae->Option D
 | []=>none
 |e::O=>match ik k e.1 with
  |true=>some e.2
  |false=>fG k O
def nI(k v:D):ae->ae
 | []=>[(k,v)]
 |e::O=>match ik k e.1 with
  |true=>(k,v)::O
  |false=>e::nI k v O
def ue(k:D):ae->ae
 | []=>[]
 |e::O=>match ik k e.1 with
  |true=>O
  |false=>e::ue k O
def D.kJ(z:V):Option D->V
 |some d=>d.kH
 |none=>z
def keyOf:V->Option D
 | .int k n=>some (.int k n)
 | .str s=>some (.str s)
 |_=>none
def uB(kd:TypeDesc)(k:V):List (V×V×Nat)->Nat->Option (Option (Nat×V×V×Nat))
 | [],_=>some none
 |e::O,i=>
  match xH kd k e.1 with
  |some true=>some (some (i,e))
  |some false=>uB kd k O (i+1)
  |none=>none
def BY:TypeDesc->V->Bool
 | .int _,.int _ _=>true
 | .string,.str _=>true
 |_,_=>false
def V.Vz(h:I es):V->Option es
 | .map (some r)=>h.get r
 |_=>none
def vn(P:Program)(t:TypeId)(h:I es)(x k:V)(ok:Bool):Option V:=
 match P.underlying t with
 |some (.map kt et)=>match P.underlying kt,zeroOf P et with
  |some kd,some z=>
   match x,x.Vz h with
   | .map (some _),some (.gM kk O)=>match keyOf k with
     |some k=>if lz kd kk&&gF kk k then some (if ok then .gV [D.kJ z (fG k O),.bool (fG k O).isSome]else D.kJ z (fG k O))else none
     |none=>none
   |x,_=>
   if BY kd k then
    match(match x with
     | .map none=>some []
     | .map (some r)=>(match h.get r with
       |some (.map O _)=>some O
       |_=>none)
     |_=>none:Option (List (V×V×Nat)))with
    |some O=>match uB kd k O 0 with
     |some (some (_,_,v,_))=>some (if ok then .gV [v,.bool true]else v)
     |some none=>some (if ok then .gV [z,.bool false]else z)
     |none=>none
    |none=>none
   else none
  |_,_=>none
 |_=>none
def iO{α:Type}:List α->Nat->(α->α)->List α
 | [],_,_=>[]
 |x::xs,0,f=>f x::xs
 |x::xs,i+1,f=>x::iO xs i f
section
variable(P:Program)(t:TypeId)(h:I es)(n:Nat)(m k:V)
def sP(v:V):Option s':=
 match P.underlying t,m with
 |some (.map kt _),.map (some r)=>match P.underlying kt,h.get r with
  |some kd,some (.map O fg)=>
   if BY kd k/\r<gy then
    match uB kd k O 0 with
    |some (some (i,_))=>some (.val (.gV []) (h.set r (some (.map (iO O i fun e=>(k,v,e.2.2)) fg))) n)
    |some none=>some (.val (.gV []) (h.set r (some (.map (O++[(k,v,fg)]) (fg+1)))) n)
    |none=>none
   else none
  |some kd,some (.gM kk O)=>match keyOf k,V.Jz v with
   |some k,some v=>if lz kd kk&&(gF kk k&&decide (r<gy))then some (.val (.gV []) (h.set r (some (.gM kk (nI k v O)))) n)else none
   |_,_=>none
  |_,_=>none
 |_,_=>none
def Fg(P:Program)(eP:Array TypeId)(args:ag)(h:I es)(n:Nat):Option s':=
 match eP[0]?,args with
 |some t,[.map (some r),k]=>match P.underlying t with
  |some (.map kt _)=>match P.underlying kt,h.get r,keyOf k with
   |some kd,some (.gM kk O),some k=>if lz kd kk&&(gF kk k&&decide (r<gy))then some (.val (.gV []) (h.set r (some (.gM kk (ue k O)))) n)else none
   |_,_,_=>none
  |_=>none
 |_,_=>none
def vo:Option s':=
 match P.underlying t,m with
 |some (.map kt et),.map (some r)=>match P.underlying kt,h.get r,zeroOf P et with
  |some kd,some (.map O fg),some z=>
   if BY kd k/\r<gy then
    match uB kd k O 0 with
    |some (some (i,e))=>some (.val (.gV [e.2.1,.int .i64 e.2.2]) (h.set r (some (.map (iO O i fun e=>(k,e.2.1,e.2.2)) fg))) n)
    |some none=>some (.val (.gV [z,.int .i64 fg]) (h.set r (some (.map (O++[(k,z,fg)]) (fg+1)))) n)
    |none=>none
   else none
  |some kd,some (.oI kk O),some z=>match keyOf k,V.Jz z with
   |some k,some z0=>match fG k O with
    |none=>if lz kd kk&&(gF kk k&&decide (r<gy))then some (.val (.gV [z,.int .i64 O.length]) (h.set r (some (.oI kk (O++[(k,z0)])))) n)else none
    |some _=>none
   |_,_=>none
  |_,_,_=>none
 |_,_=>none
end
def zh(b:Int):List (V×V×Nat)->Nat->Option Nat
 | [],_=>none
 |e::O,i=>if(e.2.2:Int)==b then some i else zh b O (i+1)
def qA(h:I es)(n:Nat)(m abW v:V):Option s':=
 match m,abW with
 | .map (some r),.int _ b=>match h.get r with
   |some (.map O fg)=>
    if r<gy then
     match zh b O 0 with
     |some i=>some (.val (.gV []) (h.set r (some (.map (iO O i fun e=>(e.1,v,e.2.2)) fg))) n)
     |none=>none
    else none
   |some (.oI kk O)=>match V.Jz v with
    |some v=>if r<gy/\0<=b/\b<O.length then some (.val (.gV []) (h.set r (some (.oI kk (iO O b.toNat fun e=>(e.1,v))))) n)else none
    |none=>none
   |_=>none
 |_,_=>none
def uC(P:Program)(x:V)(xJ:TypeId)(ok:Bool):Option V:=
 match P.underlying xJ,x with
 |some (.interface _),_=>none
 |some _,.nilIface=>if ok then(match zeroOf P xJ with|some z=>some (.gV [z,.bool false])|none=>none)else none
 |some _,.iface t v=>if t=xJ then some (if ok then .gV [v,.bool true]else v)
  else if ok then(match zeroOf P xJ with|some z=>some (.gV [z,.bool false])|none=>none)else none
 |_,_=>none
def jE(h:I es)(size:Nat):V->Option (Nat×Row)
 | .eZ none len _ _=>if len=0 then some (0,.vs [])else none
 | .eZ (some (m,o)) len _ kY=>if kY=size then(match len with
   |0=>some (0,.vs [])
   |_=>match h.get m with
    |some ob=>match ob.MK with
     |some r=>match r.cut o (len*size)with
      |some r=>some (len,r)
      |none=>none
     |none=>none
    |none=>none)else none
 | .str s=>if size=1 then some (s.length,.is .u8 (pL s))else none
 | .eE _ len cs=>if cs.length=len*size then some (len,.ds cs)else none
 |_=>none
def uD:ag->Option (aa)
 | []=>some []
 | .int .u8 x::r=>match uD r with
   |some l=>some (UInt8.ofNat x.toNat::l)
   |none=>none
 |_::_=>none
def uE:Row->Option (aa)
 | .is .u8 ks=>some (nG ks)
 | .vs cs=>uD cs
 |_=>none
def BZ(e:TypeId)(x:V)(new:Row):es:=match x with
 | .str t=>.vM e false t
 |_=>new.Ei
def fJ(ML size bytes:Nat):Bool:=decide (ML*bytes<=281474976710/\ML*size<=281474976710)
def JC:TypeDesc->Bool
 | .slice _=>true
 | .string=>true
 |_=>false
section
variable(P:Program)(eP:Array TypeId)(args:ag)(h:I es)
def xK(n:Nat):Option s':=
 match eP[0]?,eP[1]?,args with
 |some st,some xt,[s,x]=>
  match uz P st,P.underlying xt with
  |some e,some xd=>
   match JC xd,P.info? e,zeroOf P e with
   |true,some i,some z=>
    if 0<i.size/\0<i.bytes/\z.cells.length=i.size then
     match jE h i.size x with
     |some (k,new)=>
      if new.flat=true then
      match s with
      | .eZ none 0 _ _=>
        match k with
        |0=>some (.val (.eZ none 0 0 0) h n)
        |_=>if fJ k i.size i.bytes then(match newObj h n (BZ e x new)with
         |some (h',n')=>some (.val (.eZ (some (n,0)) k k i.size) h' n')
         |none=>none)else none
      | .eE true len cs=>
        match k with
        |0=>some (.val (.eE true len cs) h n)
        |_=>if fJ (len+k) i.size i.bytes/\cs.length=len*i.size then(match newObj h n ((Row.ds cs).app new).Ei with
         |some (h',n')=>some (.val (.eZ (some (n,0)) (len+k) (len+k) i.size) h' n')
         |none=>none)else none
      | .eZ (some (m,o)) len jQ kY=>
        if kY=i.size/\fJ (len+k) i.size i.bytes/\m<gy then
         match h.get m with
         |some (.vM el An s0)=>match uE new with
          |some t=>if(o=0/\0<jQ)/\(len<=s0.length/\(An=true->len=s0.length))/\(i.size=1/\el=e)then(match newObj (h.set m none) n (.vM el An (s0.take len++t))with
           |some (h',n')=>some (.val (.eZ (some (n,0)) (len+k) (len+k) kY) h' n')
           |none=>none)else none
          |none=>none
         |some ob=>match ob.row with
          |some r=>
           match(if r.soft=false/\len=0 then some (.vs [])else r.cut o (len*i.size):Option Row)with
           |some old=>
            if new.soft=false/\k=0 then some (.val s h n)
            else match newObj (h.set m none) n (old.app new).Ei with
             |some (h',n')=>some (.val (.eZ (some (n,0)) (len+k) (len+k) kY) h' n')
             |none=>none
           |none=>none
          |none=>none
         |_=>none
        else none
      |_=>none
      else none
     |none=>none
    else none
   |_,_,_=>none
  |_,_=>none
 |_,_,_=>none
def MM:Option V:=
 match eP[0]?,args with
 |some t,[x]=>match P.underlying t,x with
  |some .string,.str s=>some (.int .i64 s.length)
  |some (.array n _),_=>some (.int .i64 n)
  |some (.slice _),.eZ _ len _ _=>some (.int .i64 len)
  |some (.slice _),.eE _ len _=>some (.int .i64 len)
  |some (.map _ _),.map none=>some (.int .i64 0)
  |some (.map _ _),.map (some r)=>match h.get r with
   |some (.map O _)=>some (.int .i64 O.length)
   |some (.gM _ O)=>some (.int .i64 O.length)
   |_=>none
  |_,_=>none
 |_,_=>none
def B0(t:TypeId)(x:V)(h:I es)(n:Nat):Option s':=
 match P.underlying t,x with
 |some .string,.str s=>match newObj h n (.nB s 0)with
  |some (h',n')=>some (.val (.ptr (some (n,0))) h' n')
  |none=>none
 |_,_=>none
end
def OC(x:V)(OD:Bool)(h:I es)(n:Nat):Option s':=
 match x,OD with
 | .ptr (some (m,0)),true=>match h.get m with
   |some (.nB s pos)=>
    if pos<s.length then
     let cw:=Utf8.decode ⟨s.toArray⟩ pos
     if m<gy then some (.val (.gV [.bool true,.int .i64 pos,.int .i32 cw.1]) (h.set m (some (.nB s (pos+cw.2)))) n)else none
    else some (.val (.gV [.bool false]) h n)
   |_=>none
 |_,_=>none
def Hj:V->ag->Option V
 |x,[]=>some x
 | .int k a,.int _ b::vs=>Hj (.int k (if b>a then b else a)) vs
 |_,_=>none
def Hl:V->ag->Option V
 |x,[]=>some x
 | .int k a,.int _ b::vs=>Hl (.int k (if b<a then b else a)) vs
 |_,_=>none
def OE:List (Nat×Nat)->Nat->Option V
 | [],_=>none
 |p::r,g=>match Nat.beq p.1 g with
  |true=>some (.ptr (some (p.2,0)))
  |false=>OE r g
def jc(T:I V):Operand->Option V
 | .tmp t=>T.get t
 | .const v=>Lt v
 | .func f=>some (.fn (.func f) [] [])
 | .global g=>OE uc g
def uF(T:I V):List Operand->Option (ag)
 | []=>some []
 |x::xs=>match jc T x with
  |some v=>match uF T xs with
   |some vs=>some (v::vs)
   |none=>none
  |none=>none
def mA(T:I V):Option Operand->Option (Option V)
 |none=>some none
 |some x=>match jc T x with
  |some v=>some (some v)
  |none=>none
def pM(T:I V):List (Nat×Operand)->Option (List (Nat×V))
 | []=>some []
 |(i,x)::xs=>match jc T x with
  |some v=>match pM T xs with
   |some vs=>some ((i,v)::vs)
   |none=>none
  |none=>none
section
variable(P:Program)(T:I V)(c:Call)(h:I es)(n:Nat)
def callee(f:FuncId):Bool:=
 match P.funcs[f]? with
 |some fn=>fn.body.isSome&&fn.name != "runtime.NumGoroutine"
 |none=>false
def lA(b:Builtin)(eP:Array TypeId)(args:ag)(h:I es)(n:Nat):Option s':=
 match b with
 | .append=>if eP.size=2 then xK P eP args h n else none
 | .len=>kB h n (MM P eP args h)
 | .max=>match args with
   |x::xs=>kB h n (Hj x xs)
   | []=>none
 | .min=>match args with
   |x::xs=>kB h n (Hl x xs)
   | []=>none
 | .panic=>match args with
   | [.iface t v]=>some (.panic (.iface t v))
   |_=>none
 | .recover=>some .recover
 | .unsafeSliceData=>match args with
   | [.eZ (some (m,o)) _ jQ _]=>if 0<jQ then some (.val (.ptr (some (m,o))) h n)else none
   | [.eZ none _ _ _]=>some (.val (.ptr none) h n)
   |_=>none
 | .unsafeString=>match eP[0]?,args with
   |some pt,[.ptr (some (m,0)),.int .i64 l]=>match P.underlying pt,h.get m with
    |some (.pointer e),some (.vM el _ s)=>if(l=s.length/\0<s.length)/\(el=e/\P.cellsOf e=1)/\(m<gy/\eP.size=2/\s.length<=wD)then some (.val (.str s) (h.set m (some (.vM el true s))) n)else none
    |_,_=>none
   |some _,[.ptr none,.int .i64 l]=>if l=0/\eP.size=2 then some (.val (.str []) h n)else none
   |_,_=>none
 | .delete=>if eP.size=2 then Fg P eP args h n else none
 |_=>none
def v8:Option s':=
 match uF T c.args.toList with
 |some args=>match c.callee with
  | .builtin b=>lA P b c.argTypes args h n
  | .invoke _ _=>none
  | .value f=>match jc T f with
    |some (.fn (.func g) first captured)=>if callee P g then some (.call g (first++args++captured))else none
    |some (.fn (.yield m) [] [])=>match h.get m with
     |some (.loop _ _ _ ps _ _)=>if ps.length=args.length then some (.call (P.funcs.size+m) args)else none
     |_=>none
    |_=>none
 |none=>none
def B3:Option s':=
 match uF T c.args.toList with
 |some args=>match c.callee with
  | .value f=>match jc T f with
    |some (.fn (.func g) first captured)=>some (.ud g captured (first++args))
    |_=>none
  |_=>none
 |none=>none
end
def vp:Fn->Bool
 | .yield _=>false
 |_=>true
def eA(P:Program)(o:Oper)(T:I V)(h:I es)(n:Nat):Option s':=
 match o.op with
 | .move x=>kB h n (jc T x)
 | .assign x=>kB h n (jc T x)
 | .pick c a b=>match jc T c with
   |some (.bool true)=>kB h n (jc T a)
   |some (.bool false)=>kB h n (jc T b)
   |_=>none
 | .alloc e=>match zeroOf P e with
   |some z=>match newObj h n (BU P e z)with
    |some (h',n')=>some (.val (.ptr (some (n,0))) h' n')
    |none=>none
   |none=>none
 | .box _ x=>match jc T x with
   |some v=>match newObj h n (.cells v.cells)with
    |some (h',n')=>some (.val (.ptr (some (n,0))) h' n')
    |none=>none
   |none=>none
 | .build t parts=>match pM T parts.toList with
   |some ps=>kB h n (JA P t ps)
   |none=>none
 | .buildSlice t len parts=>match pM T parts.toList with
   |some ps=>og P t len ps h n
   |none=>none
 | .load t a=>match jc T a with
   |some v=>kB h n (loadAt P t h v)
   |none=>none
 | .store t a x=>match jc T a,jc T x with
   |some av,some xv=>match storeAt P t h xv av with
    |some h'=>some (.val (.gV []) h' n)
    |none=>none
   |_,_=>none
 | .nilCheck x=>match jc T x with
   |some (.ptr (some p))=>some (.val (.ptr (some p)) h n)
   |some (.dS cs)=>some (.val (.dS cs) h n)
   |some (.fn (.func f) a c)=>some (.val (.fn (.func f) a c) h n)
   |some (.iface t v)=>some (.val (.iface t v) h n)
   |_=>none
 | .binOp op t x y _=>match jc T x,jc T y with
   |some a,some b=>kB h n (BV P op t x y a b)
   |_,_=>none
 | .unOp op _ x=>match jc T x with
   |some v=>kB h n (unV op v)
   |none=>none
 | .convert Lu dst x=>match jc T x with
   |some v=>oS P Lu dst v h n
   |none=>none
 | .makeInterface t x=>match jc T x,P.underlying t with
   |some v,some d=>match d with
    | .interface _=>none
    |_=>some (.val (.iface t v) h n)
   |_,_=>none
 | .makeFunc f first captured=>match uF T first.toList,uF T captured.toList with
   |some a,some c=>if vp f=true then some (.val (.fn f a c) h n)else none
   |_,_=>none
 | .makeMap _ none=>match newObj h n (.map [] 0)with
   |some (h',n')=>some (.val (.map (some n)) h' n')
   |none=>none
 | .makeSlice t l c=>match jc T l,jc T c with
   |some l,some c=>nH P t l c h n
   |_,_=>none
 | .slice t x lo hi mx=>match jc T x,mA T lo,mA T hi,mA T mx with
   |some v,some lo,some hi,some mx=>kB h n (my P t h v lo hi mx)
   |_,_,_,_=>none
 | .fieldAddr t x f=>match jc T x with
   |some v=>kB h n (wE P t f v)
   |none=>none
 | .field t x f=>match jc T x with
   |some v=>kB h n (JB P t f v)
   |none=>none
 | .indexAddr t x i=>match jc T x,jc T i with
   |some v,some i=>kB h n (mz P t v i)
   |_,_=>none
 | .index t x i=>match jc T x,jc T i with
   |some v,some i=>kB h n (BX P t v i)
   |_,_=>none
 | .lookup t x k ok=>match jc T x,jc T k with
   |some x,some k=>kB h n (vn P t h x k ok)
   |_,_=>none
 | .mapUpdate t m k v=>match jc T m,jc T k,jc T v with
   |some m,some k,some v=>sP P t h n m k v
   |_,_,_=>none
 | .insert t m k v=>match jc T m,jc T k,jc T v with
   |some m,some k,some v=>sP P t h n m k v
   |_,_,_=>none
 | .mapEntry t m k=>match jc T m,jc T k with
   |some m,some k=>vo P t h n m k
   |_,_=>none
 | .entryStore _ m s v=>match jc T m,jc T s,jc T v with
   |some m,some s,some v=>qA h n m s v
   |_,_,_=>none
 | .typeAssert x _ t ok=>match jc T x with
   |some v=>kB h n (uC P v t ok)
   |none=>none
 | .extract x i=>match jc T x with
   |some (.gV vs)=>kB h n (vs[i]?)
   |_=>none
 | .range t x=>match jc T x with
   |some v=>B0 P t v h n
   |none=>none
 | .next it b=>match jc T it with
   |some v=>OC v b h n
   |none=>none
 | .panic x=>match jc T x with
   |some (.iface t v)=>some (.panic (.iface t v))
   |_=>none
 | .call c=>v8 P T c h n
 | .defer c=>B3 T c
 |_=>none
structure St where
 T:I V
 h:I es
 n:Nat
 iE:List (FuncId×ag×ag)
 deriving Inhabited
inductive n0 where
 |normal
 |exit (id:Nat)
 |ret
 |panic (v:V)
inductive qw where
 |ret (v:V)
 |lU (v:V)
abbrev gm:=FuncId->ag->I es->Nat->Option (qw×I es×Nat)
def jB(T:I V)(dst:Option Nat)(v:V):Option (I V):=
 match dst with
 |none=>some T
 |some d=>if d<gy then some (T.set d (some v))else none
def gd(ops:Array Oper)(o:Oper)(T:I V):Option Bool:=
 match o.guard with
 |none=>some true
 |some (j,Fh)=>match ops[j]? with
  |some q=>match q.dst with
   |some d=>match T.get d with
    |some (.bool b)=>some (b==Fh)
    |some (.gV [])=>some false
    |_=>none
   |none=>none
  |none=>none
def mU{α:Type}(_:Nat):Option α:=none
def mV{α:Type}(_:Oper):Option α:=none
def Bp:Op->Bool
 | .defer _=>false
 |_=>true
def jr(P:Program)(cf:gm)(ops:Array Oper):List Oper->St->Option (n0×St)
 | [],s=>some (.normal,s)
 |o::rest,s=>
  match gd ops o s.T with
  |some false=>match jB s.T o.dst (.gV [])with
   |some T=>jr P cf ops rest { s with T:=T }
   |none=>none
  |some true=>match eA P o s.T s.h s.n with
   |some (.val v h n)=>match jB s.T o.dst v with
    |some T=>jr P cf ops rest { s with T:=T,h:=h,n:=n }
    |none=>none
   |some (.call f args)=>match cf f args s.h s.n with
    |some (.ret v,h,n)=>match jB s.T o.dst v with
     |some T=>jr P cf ops rest { s with T:=T,h:=h,n:=n }
     |none=>none
    |some (.lU v,h,n)=>some (.panic v,{ s with h:=h,n:=n })
    |none=>none
   |some (.ud f c args)=>if f<gy/\Bp o.op=false then(match jB s.T o.dst (.gV [])with
    |some T=>jr P cf ops rest { s with T:=T,iE:=(f,c,args)::s.iE }
    |none=>none)else mV o
   |some (.panic v)=>some (.panic v,s)
   |some .recover=>none
   |none=>mV o
  |none=>mV o
def qB:Option (Nat×Nat)->Option (Nat×Nat)->Bool
 |none,none=>true
 |some (a,b),some (c,d)=>Nat.beq a c&&Nat.beq b d
 |_,_=>false
def Fi :Option Nat->Option Nat->Bool
 |none,none=>true
 |some a,some b=>Nat.beq a b
 |_,_=>false
def OF:Fn->Fn->Bool
 | .func a,.func b=>Nat.beq a b
 | .yield a,.yield b=>Nat.beq a b
 |_,_=>false
mutual
def D.beq:D->D->Bool
 | .bool a,.bool b=>a==b
 | .int k a,.int j b=>decide (k=j)&&decide (a=b)
 | .str a,.str b=>mM a b
 | .eE n a,.eE m b=>Nat.beq n m&&D.o4 a b
 | .agg a,.agg b=>D.o4 a b
 |_,_=>false
def D.o4:ai->ai->Bool
 | [],[]=>true
 |a::x,b::y=>D.beq a b&&D.o4 x y
 |_,_=>false
end
mutual
def V.beq:V->V->Bool
 | .bool a,.bool b=>a==b
 | .int k a,.int j b=>decide (k=j)&&decide (a=b)
 | .str a,.str b=>mM a b
 | .ptr a,.ptr b=>qB a b
 | .eZ a l c e,.eZ a' l' c' e'=>qB a a'&&Nat.beq l l'&&Nat.beq c c'&&Nat.beq e e'
 | .map a,.map b=>Fi a b
 | .fn f a c,.fn g b d=>OF f g&&V.o4 a b&&V.o4 c d
 | .kI,.kI=>true
 | .iface t x,.iface u y=>Nat.beq t u&&V.beq x y
 | .nilIface,.nilIface=>true
 | .agg a,.agg b=>V.o4 a b
 | .gV a,.gV b=>V.o4 a b
 | .eE f n a,.eE g m b=>f==g&&(Nat.beq n m&&D.o4 a b)
 | .dS a,.dS b=>D.o4 a b
 |_,_=>false
def V.o4:ag->ag->Bool
 | [],[]=>true
 |a::x,b::y=>V.beq a b&&V.o4 x y
 |_,_=>false
end
def pN:Op->Bool
 | .store .. | .mapUpdate .. | .insert .. | .mapEntry .. | .entryStore .. | .next .. | .defer _ | .panic _=>true
 | .call { callee:=.builtin b,.. }=>match b with
   | .len | .max | .min=>false
   |_=>true
 | .call _=>true
 |_=>false
def oJ:Op->Bool
 | .move _ | .assign _ | .pick .. | .build .. | .nilCheck _ | .binOp .. | .unOp .. | .makeInterface .. | .makeFunc .. | .fieldAddr .. | .field ..
 | .indexAddr .. | .index .. | .typeAssert .. | .extract ..=>true
 |_=>false
structure Dr where
 T:I V
 eS:List Nat
 cur:Nat×I es
 oo:List (Nat×Nat×I es)
 last:Option Nat
 dH:af
 reads:List (Nat×Nat×Oper×I V×V)
 n:Nat
def eN(m i:Nat):Bool:=Nat.testBit m i
def gO(X:Nat):af->Nat->I es->Nat->I es
 | [],_,x,_=>x
 |(i,o)::r,m,x,iF=>if eN iF i&& !eN m i then(gO X r m x iF).set (X+i) (some o)else gO X r m x iF
def fA(eS:List Nat):List Edge->Nat
 | []=>0
 |e::O=>if Region.binds .any e then fA eS O|||(2^e.on|||eS.getD e.on 0)else fA eS O
def mD(P:Program)(X i:Nat)(o:Oper)(T:I V)(v:V)(x:I es):Bool:=
 match eA P o T x (X+i)with
 |some (.val u _ k)=>Nat.beq k (X+i)&&V.beq u v
 |_=>false
def pO(P:Program)(X i:Nat)(o:Oper)(T:I V)(v:V)(dH:af)(iF:Nat):List (Nat×Nat×I es)->Bool
 | []=>true
 |(e,m,x)::r=>if eN iF e then true else mD P X i o T v (gO X dH m x iF)&&pO P X i o T v dH iF r
def o5(P:Program)(X:Nat)(dH:af)(m:Nat)(x:I es):List (Nat×Nat×Oper×I V×V)->Bool
 | []=>true
 |(j,iF,o,T,v)::r=>(eN m j||mD P X j o T v (gO X dH m x iF))&&o5 P X dH m x r
def zi(iF:Nat):Option Nat->Bool
 |none=>true
 |some e=>eN iF e
def kK(P:Program)(X i iF:Nat)(o:Oper)(s:Dr)(v:V)(h:I es)(n:Nat):Option Dr:=
 match jB s.T o.dst v with
 |some T=>
  if o5 P X s.dH iF h s.reads then
   some { T:=T,eS:=s.eS++[iF],cur:=(iF,h),oo:=(i,s.cur.1,s.cur.2)::s.oo,last:=some i,dH:=s.dH,reads:=s.reads,n:=n }
  else none
 |none=>none
def lV(P:Program)(cf:gm)(ops:Array Oper)(X i:Nat)(o:Oper)(s:Dr):Option (Dr ⊕ (I V×V×I es×Nat)):=
 let iF:=fA s.eS o.after.toList
 match gd ops o s.T with
 |some false=>match jB s.T o.dst (.gV [])with
  |some T=>some (.inl { s with T:=T,eS:=s.eS++[iF] })
  |none=>mV o
 |some true=>
  if pN o.op then
   if zi iF s.last then
    match eA P o s.T (gO X s.dH s.cur.1 s.cur.2 iF) s.n with
    |some (.val v h n)=>match kK P X i iF o s v h n with
     |some R=>some (.inl R)
     |none=>mV o
    |some (.call f args)=>match cf f args (gO X s.dH s.cur.1 s.cur.2 iF) s.n with
     |some (.ret v,h,n)=>match kK P X i iF o s v h n with
      |some R=>some (.inl R)
      |none=>mV o
     |some (.lU v,h,n)=>if Nat.beq (iF+1) (2^i)&&Nat.beq (i+1) ops.size then some (.inr (s.T,v,h,n))else mV o
     |none=>none
    |_=>mV o
   else mV o
  else
   let x:=gO X s.dH s.cur.1 s.cur.2 iF
   match eA P o s.T x (X+i)with
   |some (.val v h k)=>match jB s.T o.dst v with
    |some T=>
     if Nat.beq k (X+i)then
      if oJ o.op then some (.inl { s with T:=T,eS:=s.eS++[iF] })
      else if pO P X i o s.T v s.dH iF s.oo then
       some (.inl { s with T:=T,eS:=s.eS++[iF],reads:=(i,iF,o,s.T,v)::s.reads })
      else mV o
     else match h.get (X+i)with
      |some b=>if b.wr=true then some (.inl { s with T:=T,eS:=s.eS++[iF],dH:=(i,b)::s.dH })else mV o
      |none=>mV o
    |none=>mV o
   |_=>mV o
 |none=>mV o
def iV(P:Program)(cf:gm)(ops:Array Oper)(X:Nat):List Oper->Nat->Dr->Option (Dr ⊕ (I V×V×I es×Nat))
 | [],_,s=>some (.inl s)
 |o::r,i,s=>match lV P cf ops X i o s with
  |some (.inl R)=>iV P cf ops X r (i+1) R
  |x=>x
def drawn(P:Program)(cf:gm)(ops:Array Oper)(s:St):Option (n0×St):=
 if s.n+ops.size<gy then
  match iV P cf ops s.n ops.toList 0 { T:=s.T,eS:=[],cur:=(0,s.h),oo:=[],last:=none,dH:=[],reads:=[],n:=s.n+ops.size }with
  |some (.inl d)=>some (.normal,{ T:=d.T,h:=gO s.n d.dH d.cur.1 d.cur.2 (2^ops.size-1),n:=d.n,iE:=s.iE })
  |some (.inr (T,v,h,n))=>some (.panic v,{ s with T:=T,h:=h,n:=n })
  |none=>none
 else none
def rounds(f:St->Option (n0×St)):Nat->St->Option (n0×St)
 |0,_=>mU 1
 |k+1,s=>match f s with
  |some (.normal,R)=>rounds f k R
  |r=>r
def gH(P:Program)(cf:gm)(iX:Nat):Code->St->Option (n0×St)
 | .skip,s=>some (.normal,s)
 | .region _ ops false,s=>jr P cf ops ops.toList s
 | .region _ ops true,s=>drawn P cf ops s
 | .seq a b,s=>match gH P cf iX a s with
   |some (.normal,R)=>gH P cf iX b R
   |r=>r
 | .cond c a b,s=>match jc s.T c with
   |some (.bool true)=>gH P cf iX a s
   |some (.bool false)=>gH P cf iX b s
   |_=>mU 2
 | .block id body,s=>match gH P cf iX body s with
   |some (.exit id',R)=>if id'=id then some (.normal,R)else some (.exit id',R)
   |r=>r
 | .loop body,s=>rounds (gH P cf iX body) iX s
 | .exit id,s=>some (.exit id,s)
 | .ret,s=>some (.ret,s)
 | .rangeFunc g ps assign body,s=>match jc s.T g with
   |some (.fn (.func gf) [] lb)=>
    if callee P gf=true/\s.n+1<gy then
     match cf gf (.fn (.yield (s.n+1)) [] []::lb) ((s.h.set s.n (some .ud)).set (s.n+1) (some (.loop true none s.T ps.toList assign body))) (s.n+2)with
     |some (.ret _,h,n)=>match h.get s.n,h.get (s.n+1)with
      |some .ud,some (.loop true none _ _ _ _)=>some (.normal,{ s with h:=h.set (s.n+1) none,n:=n,iE:=(gy,[],[.map (some s.n)])::s.iE })
      |some .ud,some (.loop false (some .ret) _ _ _ _)=>some (.ret,{ s with h:=h.set (s.n+1) none,n:=n,iE:=(gy,[],[.map (some s.n)])::s.iE })
      |some .ud,some (.loop false (some (.exit id)) _ _ _ _)=>some (.exit id,{ s with h:=h.set (s.n+1) none,n:=n,iE:=(gy,[],[.map (some s.n)])::s.iE })
      |_,_=>mU 31
     |_=>mU 32
    else mU 33
   |_=>mU 34
 |_,_=>mU 3
def kZ:ag->Nat->I V->I V
 | [],_,t=>t
 |v::vs,i,t=>kZ vs (i+1) (t.set i (some v))
def Fj(P:Program)(T:I V)(h:I es):ResultVar->Option V
 | .tmp t=>T.get t
 | .cell a t=>match T.get a with
   |some v=>loadAt P t h v
   |none=>none
def kL(P:Program)(T:I V)(h:I es):List ResultVar->Option (ag)
 | []=>some []
 |r::rs=>match Fj P T h r with
  |some v=>match kL P T h rs with
   |some vs=>some (v::vs)
   |none=>none
  |none=>none
def oneOf:ag->V
 | [v]=>v
 |vs=>.gV vs
inductive Mode where
 |ret
 |lU (v:V) (rec:Bool)
def qC(P:Program)(cf:gm)(ops:Array Oper):List Oper->St->Mode->Option (n0×St×Mode)
 | [],s,m=>some (.normal,s,m)
 |o::rest,s,m=>
  match gd ops o s.T with
  |some false=>match jB s.T o.dst (.gV [])with
   |some T=>qC P cf ops rest { s with T:=T } m
   |none=>none
  |some true=>match eA P o s.T s.h s.n with
   |some (.val v h n)=>match jB s.T o.dst v with
    |some T=>qC P cf ops rest { s with T:=T,h:=h,n:=n } m
    |none=>none
   |some .recover=>match m with
    | .lU v false=>match jB s.T o.dst v with
      |some T=>qC P cf ops rest { s with T:=T } (.lU v true)
      |none=>none
    |m=>match jB s.T o.dst .nilIface with
     |some T=>qC P cf ops rest { s with T:=T } m
     |none=>none
   |_=>mV o
  |none=>mV o
def ku(P:Program)(cf:gm)(iX:Nat):Code->St->Mode->Option (n0×St×Mode)
 | .region _ ops false,s,m=>qC P cf ops ops.toList s m
 | .seq a b,s,m=>match ku P cf iX a s m with
   |some (.normal,R,m')=>ku P cf iX b R m'
   |r=>r
 | .cond c a b,s,m=>match jc s.T c with
   |some (.bool true)=>ku P cf iX a s m
   |some (.bool false)=>ku P cf iX b s m
   |_=>mU 5
 |c,s,m=>match gH P cf iX c s with
  |some (x,R)=>some (x,R,m)
  |none=>none
def k8(P:Program)(cf:gm)(iX:Nat)(fn:Func)(T:I V):List (FuncId×ag×ag)->Mode->I es->Nat->Option (qw×I es×Nat)
 | [],.ret,h,n=>match kL P T h fn.results.toList with
   |some vs=>some (.ret (oneOf vs),h,n)
   |none=>mU 11
 | [],.lU v false,h,n=>some (.lU v,h,n)
 | [],.lU _ true,_,_=>mU 12
 |(g,c,args)::ds,m,h,n=>
  if gy<=g then(match args with
   | [.map (some b)]=>(match h.get b with
     |some .ud=>if b<gy then k8 P cf iX fn T ds m (h.set b none) n else mU 41
     |_=>mU 42)
   |_=>mU 43)else
  match P.funcs[g]? with
  |some gn=>match gn.body with
   |some code=>
    if callee P g=true/\(args++c).length<=gn.ntmps/\gn.ntmps<gy then
     match ku P cf iX code { T:=kZ (args++c) 0 .nil,h:=h,n:=n,iE:=[] } m with
     |some (.normal,R,m')=>
      (match R.iE with
      | []=>match kL P R.T R.h gn.results.toList with
        |some _=>k8 P cf iX fn T ds (match m' with | .lU _ true=>.ret|m=>m) R.h R.n
        |none=>mU 13
      |_=>mU 14)
     |some (.ret,R,m')=>
      (match R.iE with
      | []=>match kL P R.T R.h gn.results.toList with
        |some _=>k8 P cf iX fn T ds (match m' with | .lU _ true=>.ret|m=>m) R.h R.n
        |none=>mU 15
      |_=>mU 16)
     |_=>mU 17
    else none
   |none=>mU 18
  |none=>mU 19
def enter(P:Program)(cf:gm)(iX:Nat)(f:FuncId)(args:ag)(h:I es)(n:Nat):Option (qw×I es×Nat):=
 match P.funcs[f]? with
 |some fn=>match fn.body with
  |some code=>
   if args.length<=fn.ntmps/\fn.ntmps<gy then
    match gH P cf iX code { T:=kZ args 0 .nil,h:=h,n:=n,iE:=[] }with
    |some (.normal,s)=>k8 P cf iX fn s.T s.iE .ret s.h s.n
    |some (.ret,s)=>k8 P cf iX fn s.T s.iE .ret s.h s.n
    |some (.panic v,s)=>k8 P cf iX fn s.T s.iE (.lU v false) s.h s.n
    |_=>mU 20
   else none
  |none=>mU 21
 |none=>mU 22
def kf:Code->Bool
 | .region _ ops _=>ops.toList.all fun o=>Bp o.op
 | .seq a b=>kf a&&kf b
 | .cond _ a b=>kf a&&kf b
 | .block _ c=>kf c
 | .loop c=>kf c
 | .rangeFunc ..=>false
 |_=>true
def wF:List (Nat×V)->I V->Option (I V)
 | [],t=>some t
 |(i,v)::r,t=>if i<gy then wF r (t.set i (some v))else none
def JD:List Nat->ag->List (Nat×V)
 |i::is,v::vs=>(i,v)::JD is vs
 |_,_=>[]
def wG(P:Program)(cf:gm)(iX:Nat)(m:Nat)(args:ag)(h:I es)(n:Nat):Option (qw×I es×Nat):=
 match h.get m with
 |some (.loop true none T ps assign body)=>
  if m<gy/\ps.length=args.length/\kf assign=true/\kf body=true then
   match wF (JD ps args) T with
   |some Lv=>match gH P cf iX assign { T:=Lv,h:=h.set m none,n:=n,iE:=[] }with
    |some (.normal,s1)=>match gH P cf iX body s1 with
     |some (.normal,s2)=>some (.ret (.bool true),s2.h.set m (some (.loop true none T ps assign body)),s2.n)
     |some (.ret,s2)=>some (.ret (.bool false),s2.h.set m (some (.loop false (some .ret) T ps assign body)),s2.n)
     |some (.exit id,s2)=>some (.ret (.bool false),s2.h.set m (some (.loop false (some (.exit id)) T ps assign body)),s2.n)
     |_=>mU 51
    |_=>mU 52
   |none=>mU 53
  else mU 54
 |_=>mU 55
def call(P:Program)(iX:Nat):Nat->gm
 |0=>fun _ _ _ _=>mU 23
 |k+1=>fun f args h n=>if f<P.funcs.size then enter P (call P iX k) iX f args h n else wG P (call P iX k) iX (f-P.funcs.size) args h n
def oU(l:List Oper):List Nat:=l.foldl (fun Ek o=>Ek++[fA Ek o.after.toList]) []
section
variable(ops:Array Oper)
def uG(o:Oper):List Nat:=
 (o.op.operands.toList.filterMap fun x=>match x with | .tmp t=>some t|_=>none) ++
  (match o.guard with|some (j,_)=>(match ops[j]? with|some q=>q.dst.toList|none=>[])|none=>[])
def Fk(m:List Nat)(i j:Nat):Bool:=
 match ops[i]?,ops[j]? with
 |some o,some q=>match o.dst with
  |some t=>(match q.dst with|some u=>!Nat.beq t u|none=>true) &&
    (if(uG ops q).contains t then(if i<j then eN (m.getD j 0) i else eN (m.getD i 0) j)else true)
  |none=>true
 |_,_=>true
def OG(hc:Nat):Bool:=
 let m:=oU ops.toList
 (List.range ops.size).all fun j=>match ops[j]? with
  |some o=>o.after.toList.all (fun e=>!Region.binds .any e||decide (e.on<j))&&(match o.dst with|some d=>decide (d<hc)|none=>true) &&
    (List.range ops.size).all fun i=>Nat.beq i j||Fk ops m i j
  |none=>true
end
def eV(hc:Nat):Code->Bool
 | .region _ ops B4=>ops.toList.all (fun o=>match o.dst with|some d=>decide (d<hc)|none=>true)&&(if B4 then OG ops hc else true)
 | .seq a b=>eV hc a&&eV hc b
 | .cond _ a b=>eV hc a&&eV hc b
 | .block _ c=>eV hc c
 | .loop c=>eV hc c
 | .scope c=>eV hc c
 | .rangeFunc _ ps a b=>ps.toList.all (fun p=>decide (p<hc))&&(eV hc a&&eV hc b)
 |_=>true
structure Env where
 ι:Nat->Option (Nat×Nat)
 β:Nat->Nat
 φ:Nat->Option (Array Value)
mutual
def lg(φ:Nat->Option (Array Value)):D->Value->Prop
 | .bool b,v=>v= .bool b
 | .int k n,v=>v= .int k n
 | .str s,v=>v= .string ⟨s.toArray⟩
 | .eE n cs,v=>∃a jQ vs,v= .slice a n jQ/\n<=jQ/\jd φ cs vs/\(n=0->cs=[])/\
    (0<n->∃b o c,a=some ⟨b,o,none⟩/\φ b=some c/\∀(j:Nat) (w:Value),vs[j]? =some w->c[o+j]? =some w)
 | .agg cs,v=>∃vs,jd φ cs vs/\v= .agg vs.toArray
def jd(φ:Nat->Option (Array Value)):ai->List Value->Prop
 | [],l=>l=[]
 |x::xs,l=>∃y ys,x.scalar=true/\lg φ x y/\jd φ xs ys/\l=y::ys
end
def Ap(E:Env):Fn->Fn->Prop
 | .yield m,f'=>∃l s,E.ι m=some (l,s)/\f'= .yield l
 |f,f'=>f'=f
mutual
def eB(E:Env):V->Value->Prop
 | .bool b,v=>v= .bool b
 | .int k n,v=>v= .int k n
 | .str s,v=>v= .string ⟨s.toArray⟩
 | .ptr none,v=>v= .pointer none
 | .ptr (some (m,o)),v=>∃b s,E.ι m=some (b,s)/\v= .pointer (some ⟨b,s+o,none⟩)
 | .eZ none len jQ _,v=>len=0/\jQ=0/\v= .slice none 0 0
 | .eZ (some (m,o)) len jQ kY,v=>∃b s o' gP,E.ι m=some (b,s)/\(0<jQ->o'=s+o)/\len<=jQ/\jQ<=gP/\o'+gP*kY<=E.β b/\
    v= .slice (some ⟨b,o',none⟩) len gP
 | .map none,v=>v= .map none
 | .map (some m),v=>∃b,E.ι m=some (b,0)/\v= .map (some b)
 | .fn f a c,v=>∃f' a' c',Ap E f f'/\eC E a a'/\eC E c c'/\v= .func f' a'.toArray c'.toArray
 | .kI,v=>v= .nilFunc
 | .iface t x,v=>∃x',eB E x x'/\v= .iface t x'
 | .nilIface,v=>v= .nilIface
 | .agg cs,v=>∃cs',eC E cs cs'/\v= .agg cs'.toArray
 | .gV cs,v=>∃cs',eC E cs cs'/\v= .tuple cs'.toArray
 | .eE f n cs,v=>lg E.φ (.eE n cs) v/\(f=true->∃a,v= .slice a n n)
 | .dS cs,v=>∃b o c vs,v= .pointer (some ⟨b,o,none⟩)/\E.φ b=some c/\jd E.φ cs vs/\∀(j:Nat) (w:Value),vs[j]? =some w->c[o+j]? =some w
def eC(E:Env):ag->List Value->Prop
 | [],l=>l=[]
 |x::xs,l=>∃y ys,eB E x y/\eC E xs ys/\l=y::ys
end
structure Env.le(E E':Env):Prop where
 nm:∀m b s,E.ι m=some (b,s)->E'.ι m=some (b,s)/\E'.β b=E.β b
 fz:∀b c,E.φ b=some c->E'.φ b=some c
def GE(E:Env):Prop:=∀p∈uc,E.ι p.2=some (p.1,0)
theorem GE.mono{E E':Env}(h:GE E)(k:E.le E'):GE E':=fun p hp=>(k.nm _ _ _ (h p hp)).1
theorem Ho:∀{l:List (Nat×Nat)} {g:Nat} {v:V},OE l g=some v->∃m,(g,m)∈l/\v= .ptr (some (m,0))
 | [],_,_,h=>by cases h
 |p::r,g,v,h=>by
  unfold OE at h;split at h
  . rename_i Y;cases h;exact⟨p.2,az.2 (.inl (by rw[<- aJ Y])),rfl⟩
  . obtain⟨m,h1,C⟩:=Ho h;exact⟨m,aZ _ h1,C⟩
theorem Hp{E:Env}(h:GE E){g:Nat}{v:V}(e:OE uc g=some v):eB E v (.pointer (some ⟨g,0,none⟩)):=by
 obtain⟨m,h1,rfl⟩:=Ho e;exact⟨g,0,h _ h1,rfl⟩
theorem Env.le_refl(E:Env):E.le E:=⟨fun _ _ _ h=>⟨h,rfl⟩,fun _ _ h=>h⟩
theorem Env.le_trans{fm aj h2:Env}(h:fm.le aj)(k:aj.le h2):fm.le h2:=⟨fun m b s e=>
 ⟨(k.nm m b s (h.nm m b s e).1).1,(k.nm m b s (h.nm m b s e).1).2.trans (h.nm m b s e).2⟩,fun b c e=>k.fz b c (h.fz b c e)⟩
mutual
theorem mE{φ Hq:Nat->Option (Array Value)}(h:∀b c,φ b=some c->Hq b=some c):∀(d:D) (v:Value),lg φ d v->lg Hq d v
 | .bool _,_,r=>r
 | .int _ _,_,r=>r
 | .str _,_,r=>r
 | .eE _ cs,_,⟨a,jQ,vs,e,N,r,h0,h1⟩=>⟨a,jQ,vs,e,N,iP h cs vs r,h0,fun hn=>let⟨b,o,c,e1,e2,e3⟩:=h1 hn;⟨b,o,c,e1,h _ _ e2,e3⟩⟩
 | .agg cs,_,⟨vs,r,e⟩=>⟨vs,iP h cs vs r,e⟩
theorem iP{φ Hq:Nat->Option (Array Value)}(h:∀b c,φ b=some c->Hq b=some c):∀(d:ai) (v:List Value),jd φ d v->jd Hq d v
 | [],_,r=>r
 |x::xs,_,⟨y,ys,s,r,rs,e⟩=>⟨y,ys,s,mE h x y r,iP h xs ys rs,e⟩
end
mutual
theorem rI{E:Env}:∀(d:D) (v:Value),lg E.φ d v->eB E d.kH v
 | .bool _,_,r=>r
 | .int _ _,_,r=>r
 | .str _,_,r=>r
 | .eE _ _,_,r=>⟨r,fun h=>by cases h⟩
 | .agg cs,_,⟨vs,r,e⟩=>⟨vs,rJ cs vs r,e⟩
theorem rJ{E:Env}:∀(d:ai) (v:List Value),jd E.φ d v->eC E (D.fU d) v
 | [],_,r=>r
 |x::xs,_,⟨y,ys,_,r,rs,e⟩=>⟨y,ys,rI x y r,rJ xs ys rs,e⟩
end
mutual
theorem Hr{E:Env}:∀(d:D) (v:Value),eB E d.kH v->(∀cs,d= .agg cs->∀x∈cs,x.scalar=true)->lg E.φ d v
 | .bool _,_,r,_=>r
 | .int _ _,_,r,_=>r
 | .str _,_,r,_=>r
 | .eE _ _,_,r,_=>r.1
 | .agg cs,_,⟨vs,r,e⟩,h=>⟨vs,B5 cs vs r (h cs rfl),e⟩
theorem B5{E:Env}:∀(d:ai) (v:List Value),eC E (D.fU d) v->(∀x∈d,x.scalar=true)->jd E.φ d v
 | [],_,r,_=>r
 |x::xs,_,⟨y,ys,r,rs,e⟩,h=>⟨y,ys,h x (by simp),Hr x y r (fun cs q=>by have:=h x (by simp);rw[q]at this;cases this),B5 xs ys rs (fun z hz=>h z (by simp[hz])),e⟩
end
theorem o6{φ:Nat->Option (Array Value)}:∀{xs:ai} {ys:List Value},jd φ xs ys->ys.length=xs.length
 | [],_,r=>by simp only[jd]at r;subst r;rfl
 |_::_,_,r=>by obtain⟨y,ys,_,_,rs,rfl⟩:=r;simp[o6 rs]
theorem vr{φ:Nat->Option (Array Value)}:∀{xs:ai} {ys:List Value},jd φ xs ys->∀(i:Nat) (d:D),xs[i]? =some d->∃v',ys[i]? =some v'/\d.scalar=true/\lg φ d v'
 | [],_,r,i,v,h=>by simp at h
 |x::xs,_,r,i,v,h=>by
  obtain⟨y,ys,s0,r0,rs,rfl⟩:=r;cases i with
  |zero=>simp at h;subst h;exact⟨y,by simp,s0,r0⟩
  |succ i=>simp at h;obtain⟨v',h1,C⟩:=vr rs i v h;exact⟨v',by simpa using h1,C⟩
theorem o7{φ:Nat->Option (Array Value)}:∀{xs:ai} {ys:List Value},xs.length=ys.length->(∀(i:Nat) (d:D),xs[i]? =some d->∃v',ys[i]? =some v'/\d.scalar=true/\lg φ d v')->jd φ xs ys
 | [],[],_,_=>rfl
 | [],_::_,h,_=>by simp at h
 |_::_,[],h,_=>by simp at h
 |x::xs,y::ys,h,r=>by
  obtain⟨v',h1,C,h3⟩:=r 0 x (by simp);simp at h1;subst h1;exact⟨y,ys,C,h3,o7 (by simpa using h) (fun i v hi=>r (i+1) v (by simpa using hi)),rfl⟩
section
variable{φ:Nat->Option (Array Value)}{n:Nat}{xs:ai}{ys:List Value}
theorem wH(r:jd φ xs ys):jd φ (xs.take n) (ys.take n):=by
 refine o7 (by simp[o6 r]) fun i v h=>?_;rw[bW]at h ⊢;split at h
 . rename_i hi;rw[aD hi];exact vr r i v h
 . simp at h
theorem pP(r:jd φ xs ys):jd φ (xs.drop n) (ys.drop n):=by
 refine o7 (by simp[o6 r]) fun i v h=>?_;rw[bX]at h ⊢;exact vr r _ v h
end
theorem o8{φ:Nat->Option (Array Value)}:∀{xs yZ:ai} {ys El:List Value},jd φ xs ys->jd φ yZ El->jd φ (xs++yZ) (ys++El)
 | [],_,_,_,r,r'=>by simp only[jd]at r;subst r;simpa using r'
 |x::xs,_,_,_,r,r'=>by
  obtain⟨y,ys,s0,r0,rs,rfl⟩:=r;exact⟨y,_,s0,r0,o8 rs r',rfl⟩
theorem jk{φ:Nat->Option (Array Value)}:∀{xs:ai} {ys:List Value},jd φ xs ys->∀x∈xs,x.scalar=true
 | [],_,_,x,h=>by simp at h
 |a::xs,_,r,x,h=>by
  obtain⟨y,ys,s0,_,rs,_⟩:=r;rcases az.1 h with rfl|h
  . exact s0
  . exact jk rs x h
theorem JE{d:D}(h:d.scalar=true):d.kH.scalar=true:=by cases d<;>first|rfl|(simp[D.scalar]at h)
theorem Aq{ds:ai}(h:∀x∈ds,x.scalar=true):(D.fU ds).all V.scalar=true:=by
 rw[D.gq,br];intro x J;obtain⟨d,hd,rfl⟩:=bS.1 J;exact JE (h d hd)
theorem JF{E E':Env}(h:E.le E'):∀(f f':Fn),Ap E f f'->Ap E' f f'
 | .yield _,_,⟨l,s,e,q⟩=>⟨l,s,(h.nm _ _ _ e).1,q⟩
 | .func _,_,r=>r
 | .method _,_,r=>r
 | .methodOf _ _,_,r=>r
 | .via _ _ _ _,_,r=>r
mutual
theorem jF{E E':Env}(h:E.le E'):∀(v:V) (v':Value),eB E v v'->eB E' v v'
 | .bool _,_,r=>r
 | .int _ _,_,r=>r
 | .str _,_,r=>r
 | .ptr none,_,r=>r
 | .ptr (some (_,_)),_,⟨b,s,e,q⟩=>⟨b,s,(h.nm _ _ _ e).1,q⟩
 | .eZ none _ _ _,_,r=>r
 | .eZ (some (_,_)) _ _ _,_,⟨b,s,o',gP,e,q1,q2,q3,q4,q5⟩=>⟨b,s,o',gP,(h.nm _ _ _ e).1,q1,q2,q3,(h.nm _ _ _ e).2▸q4,q5⟩
 | .map none,_,r=>r
 | .map (some _),_,⟨b,e,q⟩=>⟨b,(h.nm _ _ _ e).1,q⟩
 | .fn _ a c,_,⟨f',a',c',rf,ra,rc,q⟩=>⟨f',a',c',JF h _ _ rf,lB h a a' ra,lB h c c' rc,q⟩
 | .kI,_,r=>r
 | .iface _ x,_,⟨x',r,q⟩=>⟨x',jF h x x' r,q⟩
 | .nilIface,_,r=>r
 | .agg cs,_,⟨cs',r,q⟩=>⟨cs',lB h cs cs' r,q⟩
 | .gV cs,_,⟨cs',r,q⟩=>⟨cs',lB h cs cs' r,q⟩
 | .eE _ _ _,_,⟨r,q⟩=>⟨mE h.fz _ _ r,q⟩
 | .dS cs,_,⟨b,o,c,vs,e,e1,r,q⟩=>⟨b,o,c,vs,e,h.fz _ _ e1,iP h.fz cs vs r,q⟩
theorem lB{E E':Env}(h:E.le E'):∀(v:ag) (v':List Value),eC E v v'->eC E' v v'
 | [],_,r=>r
 |x::xs,_,⟨y,ys,r,rs,q⟩=>⟨y,ys,jF h x y r,lB h xs ys rs,q⟩
end
theorem fo{E:Env}:∀{xs:ag} {ys:List Value},eC E xs ys->ys.length=xs.length
 | [],_,r=>by simp only[eC]at r;subst r;rfl
 |_::_,_,r=>by obtain⟨y,ys,_,rs,rfl⟩:=r;simp[fo rs]
theorem gW{E:Env}:∀{xs:ag} {ys:List Value},eC E xs ys->∀(i:Nat) (v:V),xs[i]? =some v->∃v',ys[i]? =some v'/\eB E v v'
 | [],_,_,i,v,h=>by simp at h
 |x::xs,_,r,i,v,h=>by
  obtain⟨y,ys,r0,rs,rfl⟩:=r;cases i with
  |zero=>simp at h;subst h;exact⟨y,by simp,r0⟩
  |succ i=>simp at h;obtain⟨v',h1,C⟩:=gW rs i v h;exact⟨v',by simpa using h1,C⟩
theorem jM{E:Env}:∀{xs:ag} {ys:List Value},xs.length=ys.length->(∀(i:Nat) (v:V),xs[i]? =some v->∃v',ys[i]? =some v'/\eB E v v')->eC E xs ys
 | [],[],_,_=>rfl
 | [],_::_,h,_=>by simp at h
 |_::_,[],h,_=>by simp at h
 |x::xs,y::ys,h,r=>by
  obtain⟨v',h1,C⟩:=r 0 x (by simp);simp at h1;subst h1;exact⟨y,ys,C,jM (by simpa using h) (fun i v hi=>r (i+1) v (by simpa using hi)),rfl⟩
theorem iY{E:Env}:∀{xs yZ:ag} {ys El:List Value},eC E xs ys->eC E yZ El->eC E (xs++yZ) (ys++El)
 | [],_,_,_,r,r'=>by simp only[eC]at r;subst r;simpa using r'
 |x::xs,_,_,_,r,r'=>by
  obtain⟨y,ys,r0,rs,rfl⟩:=r;exact⟨y,_,r0,iY rs r',rfl⟩
section
variable{E:Env}{n:Nat}
theorem B6:∀{xs:ag} {ys:List Value},eC E xs ys->eC E (xs.take n) (ys.take n):=by
 intro xs ys r;refine jM (by simp[fo r]) fun i v h=>?_;rw[bW]at h ⊢;split at h
 . rename_i hi;rw[aD hi];exact gW r i v h
 . simp at h
theorem B7:∀{xs:ag} {ys:List Value},eC E xs ys->eC E (xs.drop n) (ys.drop n):=by
 intro xs ys r;refine jM (by simp[fo r]) fun i v h=>?_;rw[bX]at h ⊢;exact gW r _ v h
theorem iQ:∀{v:V} {v':Value},eB E v v'->eC E v.cells v'.cells.toList:=by
 intro v v' r;have one:∀{x:V} {y:Value},eB E x y->y.cells=#[y]->x.cells=[x]->eC E x.cells y.cells.toList:=by
  intro x y r h1 C;rw[h1,C];exact⟨y,[],r,rfl,rfl⟩
 cases v with
 |agg cs=>obtain⟨cs',rs,rfl⟩:=r;simpa[V.cells,Value.cells]using rs
 |bool b=>simp only[eB]at r;subst r;exact one (by simp[eB]) rfl rfl
 |int k n=>simp only[eB]at r;subst r;exact one (by simp[eB]) rfl rfl
 |str s=>simp only[eB]at r;subst r;exact one (by simp[eB]) rfl rfl
 |ptr a=>refine one r ?_ rfl;cases a<;>simp only[eB]at r;. subst r;rfl
         . obtain⟨b,s,_,rfl⟩:=r;rfl
 |eZ a l c e=>refine one r ?_ rfl;cases a<;>simp only[eB]at r;. obtain⟨_,_,rfl⟩:=r;rfl
              . obtain⟨b,s,_,_,_,_,_,_,_,rfl⟩:=r;rfl
 |map a=>refine one r ?_ rfl;cases a<;>simp only[eB]at r;. subst r;rfl
         . obtain⟨b,_,rfl⟩:=r;rfl
 |fn f a c=>refine one r ?_ rfl;obtain⟨_,_,_,_,_,_,rfl⟩:=r;rfl
 |kI=>simp only[eB]at r;subst r;exact one (by simp[eB]) rfl rfl
 |iface t x=>refine one r ?_ rfl;obtain⟨_,_,rfl⟩:=r;rfl
 |nilIface=>simp only[eB]at r;subst r;exact one (by simp[eB]) rfl rfl
 |gV vs=>refine one r ?_ rfl;obtain⟨_,_,rfl⟩:=r;rfl
 |eE f n cs=>refine one r ?_ rfl;obtain⟨⟨_,_,_,rfl,_⟩,_⟩:=r;rfl
 |dS cs=>refine one r ?_ rfl;obtain⟨_,_,_,_,rfl,_⟩:=r;rfl
theorem uH:∀{v:V} {v':Value},eB E v v'->v.scalar=true->v'.oneCell'=true:=by
 intro v v' r h;cases v with
 |agg cs=>simp[V.scalar]at h
 |gV cs=>simp[V.scalar]at h
 |bool b=>simp only[eB]at r;subst r;rfl
 |int k n=>simp only[eB]at r;subst r;rfl
 |str s=>simp only[eB]at r;subst r;rfl
 |ptr a=>cases a<;>simp only[eB]at r;. subst r;rfl
         . obtain⟨b,s,_,rfl⟩:=r;rfl
 |eZ a l c e=>cases a<;>simp only[eB]at r;. obtain⟨_,_,rfl⟩:=r;rfl
              . obtain⟨b,s,_,_,_,_,_,_,_,rfl⟩:=r;rfl
 |map a=>cases a<;>simp only[eB]at r;. subst r;rfl
         . obtain⟨b,_,rfl⟩:=r;rfl
 |fn f a c=>obtain⟨_,_,_,_,_,_,rfl⟩:=r;rfl
 |kI=>simp only[eB]at r;subst r;rfl
 |iface t x=>obtain⟨_,_,rfl⟩:=r;rfl
 |nilIface=>simp only[eB]at r;subst r;rfl
 |eE f n cs=>obtain⟨⟨_,_,_,rfl,_⟩,_⟩:=r;rfl
 |dS cs=>obtain⟨_,_,_,_,rfl,_⟩:=r;rfl
end
theorem I.xL{α:Type}:∀(f:Nat) (t:I α) (k:Nat) (x:Option α) (j:Nat),k+1<2^f->(I.qS f t k x).get j=if j=k then x else t.get j
 |0,t,k,x,j,h=>by simp at h
 |f+1,t,k,x,j,h=>by
  have U:∀k',k=k'+1->k'/2+1<2^f:=by intro k' e;subst e;rw[Nat.pow_succ]at h;omega
  cases t with
  |nil=>
   cases k with
   |zero=>
    cases j with
    |zero=>simp[I.qS,I.get]
    |succ j=>simp only[I.qS,I.get];rw[aA S];split<;>rfl
   |succ k=>
    have ih:=fun j=>I.xL f (.nil:I α) (k/2) x j (U k rfl);rcases dg k with e|e
    . cases j with
      |zero=>simp[I.qS,I.get,e]
      |succ j=>
       rcases dg j with e'|e'
       . simp only[I.qS,e,I.get,e',ih];by_cases hj:j=k
         . subst hj;simp
         . rw[aA S,aA S]
       . simp only[I.qS,e,I.get,e'];rw[aA S]
    . cases j with
      |zero=>simp[I.qS,I.get,e]
      |succ j=>
       rcases dg j with e'|e'
       . simp only[I.qS,e,I.get,e'];rw[aA S]
       . simp only[I.qS,e,I.get,e',ih];by_cases hj:j=k
         . subst hj;simp
         . rw[aA S,aA S]
  |node v l r=>
   cases k with
   |zero=>cases j<;>simp[I.qS,I.get]
   |succ k=>
    have ihl:=fun j=>I.xL f l (k/2) x j (U k rfl);have ihr:=fun j=>I.xL f r (k/2) x j (U k rfl);rcases dg k with e|e
    . cases j with
      |zero=>simp[I.qS,I.get,e]
      |succ j=>
       rcases dg j with e'|e'
       . simp only[I.qS,e,I.get,e',ihl];by_cases hj:j=k
         . subst hj;simp
         . rw[aA S,aA S]
       . simp only[I.qS,e,I.get,e'];rw[aA S]
    . cases j with
      |zero=>simp[I.qS,I.get,e]
      |succ j=>
       rcases dg j with e'|e'
       . simp only[I.qS,e,I.get,e'];rw[aA S]
       . simp only[I.qS,e,I.get,e',ihr];by_cases hj:j=k
         . subst hj;simp
         . rw[aA S,aA S]
section
variable{α:Type}(t:I α){k:Nat}(x:Option α)
theorem I.gw(j:Nat)(h:k<gy):(t.set k x).get j=if j=k then x else t.get j:=
 I.xL 33 t k x j (by unfold gy at h;omega)
theorem I.o9(h:k<gy):(t.set k x).get k=x:=by rw[I.gw t x k h,aD rfl]
theorem I.wI{j:Nat}(x:Option α)(h:k<gy)(hj:j≠k):(t.set k x).get j=t.get j:=by rw[I.gw t x j h,aA hj]
end
def kM(E:Env):List (V×V×Nat)->List MapEntry->Prop
 | [],l=>l=[]
 |x::xs,l=>∃y ys,eB E x.1 y.key/\eB E x.2.1 y.val/\y.born=x.2.2/\kM E xs ys/\l=y::ys
theorem B8{E E':Env}(h:E.le E'):∀(xs:List (V×V×Nat)) (ys:List MapEntry),kM E xs ys->kM E' xs ys
 | [],_,r=>r
 |_::xs,_,⟨y,ys,a,b,c,r,q⟩=>⟨y,ys,jF h _ _ a,jF h _ _ b,c,B8 h xs ys r,q⟩
def kN(φ:Nat->Option (Array Value)):ae->List MapEntry->Prop
 | [],l=>l=[]
 |x::xs,l=>∃y ys,lg φ x.1 y.key/\lg φ x.2 y.val/\kN φ xs ys/\l=y::ys
theorem sQ{φ Hq:Nat->Option (Array Value)}(h:∀b c,φ b=some c->Hq b=some c):∀(xs:ae) (ys:List MapEntry),kN φ xs ys->kN Hq xs ys
 | [],_,r=>r
 |_::xs,_,⟨y,ys,a,b,r,q⟩=>⟨y,ys,mE h _ _ a,mE h _ _ b,sQ h xs ys r,q⟩
structure kg(φ:Nat->Option (Array Value))(kd:Option IntKind)(O:ae)(fS:List MapEntry)(fg:Nat):Prop where
 row:∃l,List.Perm l O/\kN φ l fS
 keys:(O.map (·.1)).Nodup
 kind:∀e∈O,gF kd e.1=true
 old:∀e∈fS,e.born<fg
 born:(fS.map (·.born)).Nodup
theorem kg.mono{φ Hq:Nat->Option (Array Value)}(h:∀b c,φ b=some c->Hq b=some c){kd:Option IntKind}{O:ae}{fS:List MapEntry}{fg:Nat}(r:kg φ kd O fS fg):kg Hq kd O fS fg:=
 ⟨let⟨l,h1,C⟩:=r.row;⟨l,h1,sQ h _ _ C⟩,r.keys,r.kind,r.old,r.born⟩
structure lW(φ:Nat->Option (Array Value))(kd:Option IntKind)(O:ae)(fS:List MapEntry):Prop where
 row:kN φ O fS
 keys:(O.map (·.1)).Nodup
 kind:∀e∈O,gF kd e.1=true
 born:fS.map (·.born)=List.range O.length
theorem lW.mono{φ Hq:Nat->Option (Array Value)}(h:∀b c,φ b=some c->Hq b=some c){kd:Option IntKind}{O:ae}{fS:List MapEntry}(r:lW φ kd O fS):lW Hq kd O fS:=
 ⟨sQ h _ _ r.row,r.keys,r.kind,r.born⟩
theorem lW.rel{φ:Nat->Option (Array Value)}{kd:Option IntKind}{O:ae}{fS:List MapEntry}(r:lW φ kd O fS):kg φ kd O fS O.length:=
 ⟨⟨O,.refl _,r.row⟩,r.keys,r.kind,fun e he=>by
  have:e.born∈fS.map (·.born):=bS.2 ⟨e,he,rfl⟩;rw[r.born]at this;exact bN.1 this,by rw[r.born];exact List.nodup_range⟩
def mW(fz:Nat×Nat)(n:Nat):Prop:=∀i,i<n->¬(fz.1<=i/\i<fz.2)
def l8(E:Env)(s:Nat)(cs:ag)(c:Array Value):Prop:=∀(i:Nat) (v:V),cs[i]? =some v->∃v',c[s+i]? =some v'/\eB E v v'
def OH(E:Env)(T:I V)(tmps:Array Value):Prop:=∀t v,T.get t=some v->∃v',tmps[t]? =some v'/\eB E v v'
section
variable{E E':Env}{s:Nat}
theorem zj(h:E.le E'){T:I V}{a:Array Value}(r:OH E T a):OH E' T a:=fun t v e=>let⟨v',h1,C⟩:=r t v e;⟨v',h1,jF h v v' C⟩
def nJ(E:Env)(w:World)(b s:Nat):es->Prop
 | .cells cs=>∃c el fz,w.heap[b]? =some (.cells c el fz)/\c.size=E.β b/\mW fz c.size/\l8 E s cs c
 | .map O fg=>s=0/\∃fS,w.heap[b]? =some (.map fS fg)/\kM E O fS.toList
 | .nB st pos=>s=0/\w.heap[b]? =some (.stringIter ⟨st.toArray⟩ pos)
 | .ints k ks=>∃c el fz,w.heap[b]? =some (.cells c el fz)/\c.size=E.β b/\∀(i:Nat) (x:Int),ks[i]? =some x->c[s+i]? =some (.int k x)
 | .own k ks=>∃c el fz,w.heap[b]? =some (.cells c el fz)/\c.size=E.β b/\mW fz c.size/\l8 E s (ks.map (.int k)) c
 | .deep cs=>∃c el fz vs,w.heap[b]? =some (.cells c el fz)/\c.size=E.β b/\mW fz c.size/\jd E.φ cs vs/\∀(j:Nat) (x:Value),vs[j]? =some x->c[s+j]? =some x
 | .vM el An t=>∃c fz xs,w.heap[b]? =some (.cells c el fz)/\s=0/\c.size=E.β b/\((fz.1=fz.2\/fz.2<=t.length)/\(An=false->fz.1=fz.2))/\nG xs=t/\∀(j:Nat) (x:Int),xs[j]? =some x->c[j]? =some (.int .u8 x)
 | .Hh t self x=>s=0/\∃x' fz,w.heap[b]? =some (.cells #[.pointer (if self then some ⟨b,0,none⟩else none),x'] t fz)/\2=E.β b/\mW fz 2/\eB E x x'
 | .gM kd O=>s=0/\∃fS fg,w.heap[b]? =some (.map fS fg)/\kg E.φ kd O fS.toList fg
 | .oI kd O=>s=0/\∃fS,w.heap[b]? =some (.map fS O.length)/\lW E.φ kd O fS.toList
 | .ud=>w.heap[b]? =some (.deferred (some []))
 | .loop st pe T ps assign body=>∃r:Loop,w.heap[b]? =some (.loop r)/\r.state=(if st then .ready else .done)/\r.pending=pe/\r.params.toList=ps/\r.assign=assign/\r.body=body/\OH E T r.tmps/\eV r.tmps.size assign=true/\eV r.tmps.size body=true/\∀p∈ps,p<r.tmps.size
theorem pC(h:E.le E'){s:Nat}{cs:ag}{c:Array Value}(r:l8 E s cs c):l8 E' s cs c:=
 fun i v e=>let⟨v',h1,C⟩:=r i v e;⟨v',h1,jF h v v' C⟩
theorem jG{w w':World}{b s:Nat}{o:es}(h:E.le E')(Y:E'.β b=E.β b)(hw:w'.heap[b]? =w.heap[b]?)(r:nJ E w b s o):nJ E' w' b s o:=by
 cases o with
 |cells cs=>obtain⟨c,el,fz,h1,C,h3,h4⟩:=r;exact⟨c,el,fz,hw.trans h1,C.trans Y.symm,h3,pC h h4⟩
 |map O fg=>obtain⟨hs,fS,h1,C⟩:=r;exact⟨hs,fS,hw.trans h1,B8 h _ _ C⟩
 |nB st pos=>exact⟨r.1,hw.trans r.2⟩
 |ints k ks=>obtain⟨c,el,fz,h1,C,h3⟩:=r;exact⟨c,el,fz,hw.trans h1,C.trans Y.symm,h3⟩
 |own k ks=>obtain⟨c,el,fz,h1,C,h3,h4⟩:=r;exact⟨c,el,fz,hw.trans h1,C.trans Y.symm,h3,pC h h4⟩
 |deep cs=>obtain⟨c,el,fz,vs,h1,C,h3,h4,h5⟩:=r;exact⟨c,el,fz,vs,hw.trans h1,C.trans Y.symm,h3,iP h.fz _ _ h4,h5⟩
 |vM el An t=>obtain⟨c,fz,xs,h1,h0,C,h3⟩:=r;exact⟨c,fz,xs,hw.trans h1,h0,C.trans Y.symm,h3⟩
 |Hh t self x=>obtain⟨h0,x',fz,h1,C,h3,h4⟩:=r;exact⟨h0,x',fz,hw.trans h1,C.trans Y.symm,h3,jF h _ _ h4⟩
 |gM kd O=>obtain⟨hs,fS,fg,h1,C⟩:=r;exact⟨hs,fS,fg,hw.trans h1,C.mono h.fz⟩
 |oI kd O=>obtain⟨hs,fS,h1,C⟩:=r;exact⟨hs,fS,hw.trans h1,C.mono h.fz⟩
 |ud=>exact hw.trans r
 |loop st pe T ps assign body=>obtain⟨r,h1,C,h3,h4,h5,h6,h7,h8⟩:=r;exact⟨r,hw.trans h1,C,h3,h4,h5,h6,zj h h7,h8⟩
theorem nK{k:IntKind}{ks:List Int}{c:Array Value}:l8 E s (ks.map (.int k)) c↔∀(i:Nat) (x:Int),ks[i]? =some x->c[s+i]? =some (.int k x):=by
 constructor
 . intro r i x e;obtain⟨v',h1,C⟩:=r i (.int k x) (by rw[bC,e];rfl);simp only[eB]at C;rw[h1,C]
 . intro r i v e;rw[bC]at e;cases J:ks[i]? with
   |none=>rw[J]at e;cases e
   |some x=>
    rw[J]at e;simp only[bu,aq]at e;subst e;exact⟨_,r i x J,rfl⟩
theorem wc{k:IntKind}{ks:List Int}{c:Array Value}(r:l8 E s (ks.map (.int k)) c):l8 E' s (ks.map (.int k)) c:=nK.2 (nK.1 r)
end
theorem rK{k:IntKind}:∀{l:ag} {ks:List Int},pJ k l=some ks->l=ks.map (.int k)
 | [],ks,h=>by simp only[pJ,aq]at h;subst h;rfl
 |v::r,ks,h=>by
  unfold pJ at h;split at h
  . rename_i q;cases q
  . rename_i k' x r' q;cases q;split at h
    . rename_i l h1 C;obtain rfl:=eU h;have:=aX h1;subst this;rw[rK C];rfl
    . cases h
  . cases h
theorem nL{E:Env}{s:Nat}{cs:ai}{c:Array Value}(hs:∀x∈cs,x.scalar=true):l8 E s (D.fU cs) c↔∃vs,jd E.φ cs vs/\∀(j:Nat) (x:Value),vs[j]? =some x->c[s+j]? =some x:=by
 constructor
 . intro r;have hg:∀i,i<cs.length->∃x,c[s+i]? =some x:=by
    intro i hi;obtain⟨v',h1,_⟩:=r i (cs[i]).kH (by rw[D.gq,bC,au hi];rfl);exact⟨v',h1⟩
   refine⟨(List.range cs.length).map fun i=>(c[s+i]?).getD undef,o7 (by simp) fun i d hd=>?_,fun j x J=>?_⟩
   . have hi:=(aO.1 hd).1;obtain⟨v',h1,C⟩:=r i d.kH (by rw[D.gq,bC,hd];rfl);refine⟨v',by simp[cZ hi,h1],hs d (List.mem_of_getElem? hd),Hr d v' C fun ds q=>?_⟩;have:=hs d (List.mem_of_getElem? hd);rw[q]at this;cases this
   . rw[bC]at J;by_cases hj:j<cs.length
     . rw[cZ hj]at J;simp only[bu,aq]at J;obtain⟨y,hy⟩:=hg j hj;rw[hy]at J ⊢;simpa using J
     . rw[ct (by simpa using Nat.le_of_not_lt hj)]at J;cases J
 . rintro⟨vs,r,hv⟩ i v hi;rw[D.gq,bC]at hi;cases hd:cs[i]? with
   |none=>rw[hd]at hi;cases hi
   |some d=>
    rw[hd]at hi;simp only[bu,aq]at hi;subst hi;obtain⟨v',h1,_,h3⟩:=vr r i d hd;exact⟨v',hv i v' h1,rI d v' h3⟩
theorem sR:∀{l:ag} {ds:ai},iJ l=some ds->∀{E:Env} {l':List Value},eC E l l'->jd E.φ ds l'
 | [],ds,h,E,l',r=>by simp only[iJ,aq]at h;subst h;exact r
 |x::xs,ds,h,E,l',r=>by
  simp only[iJ]at h;split at h
  case h_2=>cases h
  rename_i d hd;split at h
  case h_2=>cases h
  rename_i l hl;obtain rfl:=eU h;obtain⟨y,ys,r0,rs,rfl⟩:=r;refine⟨y,ys,?_,?_,sR hl rs,rfl⟩
  . split at hd<;>first|(cases hd;rfl)|cases hd
  . split at hd<;>first|(cases hd;first|exact r0|exact r0.1|exact⟨none,0,[],r0.2.2,aK _,rfl,fun _=>rfl,fun q=>absurd q (dj _)⟩)|cases hd
theorem uI:∀{l:ag} {ds:ai},iJ l=some ds->ds.length=l.length
 | [],ds,h=>by simp only[iJ,aq]at h;subst h;rfl
 |x::xs,ds,h=>by
  simp only[iJ]at h;split at h
  case h_2=>cases h
  split at h
  case h_2=>cases h
  rename_i l hl;obtain rfl:=eU h;simp[uI hl]
mutual
theorem xM{E:Env}:∀{x:V} {d:D},V.Jz x=some d->∀{v:Value},eB E x v->lg E.φ d v/\(x.scalar=true->d.scalar=true)
 | .bool _,d,h,v,r=>by simp only[V.Jz,aq]at h;subst h;exact⟨r,fun _=>rfl⟩
 | .int _ _,d,h,v,r=>by simp only[V.Jz,aq]at h;subst h;exact⟨r,fun _=>rfl⟩
 | .str _,d,h,v,r=>by simp only[V.Jz,aq]at h;subst h;exact⟨r,fun _=>rfl⟩
 | .eE _ _ _,d,h,v,r=>by simp only[V.Jz,aq]at h;subst h;exact⟨r.1,fun _=>rfl⟩
 | .agg cs,d,h,v,r=>by
   simp only[V.Jz]at h;split at h
   . rename_i l hl;obtain rfl:=eU h;obtain⟨vs,r,e⟩:=r;exact⟨⟨vs,Hs hl r,e⟩,fun h=>by cases h⟩
   . cases h
 | .ptr _,d,h,_,_=>by cases h
 | .eZ none _ _ _,d,h,v,r=>by
   simp only[V.Jz,aq]at h;subst h;exact⟨⟨none,0,[],r.2.2,aK _,rfl,fun _=>rfl,fun q=>absurd q (dj _)⟩,fun _=>rfl⟩
 | .eZ (some _) 0 _ _,d,h,v,r=>by
   simp only[V.Jz,aq]at h;subst h;obtain⟨b,s,o',gP,_,_,_,_,_,e⟩:=r;exact⟨⟨_,gP,[],e,aN _,rfl,fun _=>rfl,fun q=>absurd q (dj _)⟩,fun _=>rfl⟩
 | .eZ (some _) (_+1) _ _,d,h,_,_=>by cases h
 | .map _,d,h,_,_=>by cases h
 | .fn _ _ _,d,h,_,_=>by cases h
 | .kI,d,h,_,_=>by cases h
 | .iface _ _,d,h,_,_=>by cases h
 | .nilIface,d,h,_,_=>by cases h
 | .gV _,d,h,_,_=>by cases h
 | .dS _,d,h,_,_=>by cases h
theorem Hs{E:Env}:∀{xs:ag} {ds:ai},V.Oz xs=some ds->∀{vs:List Value},eC E xs vs->jd E.φ ds vs
 | [],ds,h,v,r=>by simp only[V.Oz,aq]at h;subst h;exact r
 |x::xs,ds,h,v,r=>by
  simp only[V.Oz]at h;split at h
  case h_2=>cases h
  rename_i d hd;split at h
  case h_2=>cases h
  rename_i l hl;split at h
  case h_2=>cases h
  rename_i JG;obtain rfl:=eU h;obtain⟨y,ys,r0,rs,rfl⟩:=r;exact⟨y,ys,JG,(xM hd r0).1,Hs hl rs,rfl⟩
end
theorem Ar{E:Env}:∀{xs ys:ag} {l:List Value},eC E (xs++ys) l->∃l1 l2,eC E xs l1/\eC E ys l2/\l=l1++l2
 | [],_,l,r=>⟨[],l,rfl,r,rfl⟩
 |x::xs,_,l,⟨y,zs,r0,rs,e⟩=>by
  obtain⟨l1,l2,h1,C,h3⟩:=Ar rs;exact⟨y::l1,l2,⟨y,l1,r0,h1,rfl⟩,C,by rw[e,h3];rfl⟩
def wk(xs ys:ag):Prop:=∀(E:Env) (l:List Value),eC E xs l->eC E ys l
theorem je(xs:ag):wk xs xs:=fun _ _ r=>r
theorem zk{a b a' b':ag}(h:wk a a')(k:wk b b'):wk (a++b) (a'++b'):=fun E l r=>by
 obtain⟨l1,l2,h1,C,rfl⟩:=Ar r;exact iY (h E l1 h1) (k E l2 C)
theorem xN{l:ag}{ds:ai}(h:iJ l=some ds):wk l (D.fU ds):=fun _ _ r=>rJ _ _ (sR h r)
theorem rL{E:Env}{s:Nat}{cs:ag}{c:Array Value}:l8 E s cs c↔∃vs,eC E cs vs/\∀(j:Nat) (x:Value),vs[j]? =some x->c[s+j]? =some x:=by
 constructor
 . intro r;have hg:∀i,i<cs.length->∃x,c[s+i]? =some x:=fun i hi=>by
    obtain⟨v',h1,_⟩:=r i cs[i] (au hi);exact⟨v',h1⟩
   refine⟨(List.range cs.length).map fun i=>(c[s+i]?).getD undef,jM (by simp) fun i d hd=>?_,fun j x J=>?_⟩
   . have hi:=(aO.1 hd).1;obtain⟨v',h1,C⟩:=r i d hd;exact⟨v',by simp[cZ hi,h1],C⟩
   . rw[bC]at J;by_cases hj:j<cs.length
     . rw[cZ hj]at J;simp only[bu,aq]at J;obtain⟨y,hy⟩:=hg j hj;rw[hy]at J ⊢;simpa using J
     . rw[ct (by simpa using Nat.le_of_not_lt hj)]at J;cases J
 . rintro⟨vs,r,hv⟩ i v hi;obtain⟨v',h1,C⟩:=gW r i v hi;exact⟨v',hv i v' h1,C⟩
theorem xO{E:Env}{s:Nat}{xs ys:ag}{c:Array Value}(h:wk xs ys)(r:l8 E s xs c):l8 E s ys c:=by
 obtain⟨vs,h1,C⟩:=rL.1 r;exact rL.2 ⟨vs,h E vs h1,C⟩
def Row.sc:Row->Prop
 | .ds cs=>∀x∈cs,x.scalar=true
 |_=>True
theorem nM:∀{l:ag} {ds:ai},iJ l=some ds->∀x∈ds,x.scalar=true
 | [],ds,h,x,J=>by simp only[iJ,aq]at h;subst h;simp at J
 |y::l,ds,h,x,J=>by
  simp only[iJ]at h;split at h
  case h_2=>cases h
  rename_i d hd;split at h
  case h_2=>cases h
  rename_i l' hl;obtain rfl:=eU h;rcases az.1 J with rfl|J
  . split at hd<;>first|(cases hd;rfl)|cases hd
  . exact nM hl x J
theorem Row.JH(a b:Row):wk (a.kH++b.kH) (a.app b).kH:=by
 have e:∀{k:IntKind} {l:ag} {ks:List Int},pJ k l=some ks->l=ks.map (.int k):=fun h=>rK h;have K:∀(k:IntKind) (ks:List Int),D.fU (ks.map (.int k))=ks.map (.int k):=fun k ks=>by rw[D.gq,List.map_map];rfl
 have ha:∀(x y:ai),D.fU (x++y)=D.fU x++D.fU y:=fun x y=>by rw[D.gq,D.gq,D.gq,bM]
 cases a<;>cases b<;>simp only[Row.app]
 . exact je _
 . rename_i cs k ks;split
   . rename_i l h;simp only[Row.kH,e h,bM];exact je _
   . exact je _
 . rename_i cs ds;split
   . rename_i l h;simp only[Row.kH,ha];exact zk (xN h) (je _)
   . exact je _
 . rename_i k ks cs;split
   . rename_i l h;simp only[Row.kH,e h,bM];exact je _
   . exact je _
 . rename_i k ks k' ks';split
   . rename_i h;have:=aX h;subst this;simp only[Row.kH,bM];exact je _
   . exact je _
 . simp only[Row.kH,ha,K];exact je _
 . rename_i cs ds;split
   . rename_i l h;simp only[Row.kH,ha];exact zk (je _) (xN h)
   . exact je _
 . simp only[Row.kH,ha,K];exact je _
 . simp only[Row.kH,ha];exact je _
theorem Row.JI{a b:Row}(h:a.sc)(k:b.sc):(a.app b).sc:=by
 have hi:∀(k:IntKind) (ks:List Int),∀x∈ks.map (D.int k),x.scalar=true:=fun k ks x J=>by
  obtain⟨n,_,rfl⟩:=bS.1 J;rfl
 have ap:∀{x y:ai},(∀z∈x,z.scalar=true)->(∀z∈y,z.scalar=true)->∀z∈x++y,z.scalar=true:=fun h k z hz=>(bf.1 hz).elim (h z) (k z);cases a<;>cases b<;>simp only[Row.app]<;>first|trivial|skip
 . split<;>trivial
 . split
   . rename_i l hl;exact ap (nM hl) k
   . trivial
 . split<;>trivial
 . split<;>trivial
 . exact ap (hi _ _) k
 . split
   . rename_i l hl;exact ap h (nM hl)
   . trivial
 . exact ap h (hi _ _)
 . exact ap h k
section
variable{o size:Nat}{r r':Row}
theorem Row.OI(h:r.cut o size=some r')(k:r.sc):r'.sc:=by
 cases r with
 |vs cs=>simp only[Row.cut]at h;split at h<;>first|(cases h;trivial)|cases h
 |is k ks=>simp only[Row.cut]at h;split at h<;>first|(cases h;trivial)|cases h
 |ds cs=>
  simp only[Row.cut]at h;split at h
  . cases h;exact fun x J=>k x (List.mem_of_mem_drop (cN J))
  . cases h
theorem Row.Fl(h:r.cut o size=some r'):Eng.cut r.kH o size=some r'.kH:=by
 cases r with
 |vs cs=>
  simp only[Row.cut]at h;split at h
  . rename_i q;obtain rfl:=eU h;exact q
  . cases h
 |is k ks=>
  simp only[Row.cut]at h;split at h
  . rename_i q;obtain rfl:=eU h;simp only[Eng.cut,Row.kH,bG,aD q,dm,List.map_drop]
  . cases h
 |ds cs=>
  simp only[Row.cut]at h;split at h
  . rename_i q;obtain rfl:=eU h;simp only[Eng.cut,Row.kH,D.gq,bG,aD q,dm,List.map_drop]
  . cases h
theorem Row.OJ(h:r.flat=true)(k:r.sc):r.kH.all V.scalar=true:=by
 cases r with
 |vs cs=>exact h
 |is k ks=>simp[Row.kH,V.scalar]
 |ds cs=>exact Aq k
end
section
variable{E:Env}{w:World}{b s:Nat}{o:es}{r:Row}
theorem Ht(h:o.row=some r)(q:nJ E w b s o):(∃c el fz,w.heap[b]? =some (.cells c el fz)/\c.size=E.β b/\mW fz c.size/\l8 E s r.kH c)/\r.sc:=by
 cases o<;>simp only[es.row,aq,reduceCtorEq]at h<;>subst h
 . exact⟨q,trivial⟩
 . exact⟨q,trivial⟩
 . obtain⟨c,el,fz,vs,h1,C,h3,h4,h5⟩:=q;exact⟨⟨c,el,fz,h1,C,h3,(nL (jk h4)).2 ⟨vs,h4,h5⟩⟩,jk h4⟩
theorem MN(h:o.MK=some r)(q:nJ E w b s o):(∃c el fz,w.heap[b]? =some (.cells c el fz)/\c.size=E.β b/\l8 E s r.kH c)/\r.sc:=by
 cases o<;>simp only[es.MK,aq,reduceCtorEq]at h<;>subst h
 . obtain⟨c,el,fz,h1,C,_,h4⟩:=q;exact⟨⟨c,el,fz,h1,C,h4⟩,trivial⟩
 . obtain⟨c,el,fz,h1,C,h3⟩:=q;exact⟨⟨c,el,fz,h1,C,nK.2 h3⟩,trivial⟩
 . obtain⟨c,el,fz,h1,C,_,h4⟩:=q;exact⟨⟨c,el,fz,h1,C,h4⟩,trivial⟩
 . obtain⟨c,el,fz,vs,h1,C,h3,h4,h5⟩:=q;exact⟨⟨c,el,fz,h1,C,(nL (jk h4)).2 ⟨vs,h4,h5⟩⟩,jk h4⟩
theorem xP(q:∃c el fz,w.heap[b]? =some (.cells c el fz)/\c.size=E.β b/\mW fz c.size/\l8 E s r.kH c)(k:r.sc):nJ E w b s r.Ei:=by
 cases r with
 |ds cs=>
  obtain⟨c,el,fz,h1,C,h3,h4⟩:=q;obtain⟨vs,h5,h6⟩:=(nL k).1 h4;exact⟨c,el,fz,vs,h1,C,h3,h5,h6⟩
 |_=>exact q
end
theorem OK{o:es}{r:Row}(h:o.row=some r):o.wr=true:=by cases o<;>simp[es.row]at h<;>rfl
def ff(h:I es)(m:Nat):Prop:=∃o,h.get m=some o/\o.wr=true
section
variable{h:I es}{n m:Nat}{x:Option es}
theorem OL{h':I es}{m n:Nat}(e:h.get m=h'.get n)(k:ff h m):ff h' n:=by obtain⟨o,a,b⟩:=k;exact⟨o,e.symm.trans a,b⟩
theorem rM(hn:n<gy):ff (h.set n x) m->(m=n/\∃o,x=some o/\o.wr=true)\/(m≠n/\ff h m):=by
 rintro⟨o,e,k⟩;rw[I.gw _ _ _ hn]at e;split at e
 . rename_i q;exact .inl ⟨q,o,e,k⟩
 . rename_i q;exact .inr ⟨q,o,e,k⟩
theorem pQ(hn:n<gy)(k:ff (h.set n x) m)(q:m≠n):ff h m:=
 (rM hn k).elim (fun c=>absurd c.1 q) (·.2)
theorem ff.live(k:ff h m):h.get m≠none:=by obtain⟨o,e,_⟩:=k;rw[e];simp
end
structure Good(E:Env)(h:I es)(w:World):Prop where
 rel:∀m o,h.get m=some o->∃b s,E.ι m=some (b,s)/\nJ E w b s o
 inj:∀m m' b s R,m≠m'->ff h m->h.get m'≠none->E.ι m=some (b,s)->E.ι m'=some (b,R)->False
 qt:∀m b s,E.ι m=some (b,s)->b<w.heap.size
 lj:GE E
 jo:∀b c,E.φ b=some c->(∃el fz,w.heap[b]? =some (.cells c el fz))/\∀m s,ff h m->E.ι m≠some (b,s)
structure jf(E:Env)(h:I es)(w:World)(E':Env)(h':I es)(w':World):Prop where
 le:E.le E'
 good:Good E' h' w'
 size:w.heap.size<=w'.heap.size
 tape:w'.tape=w.tape
 os:w'.os=w.os
 output:w'.output=w.output
 keep:∀b,b<w.heap.size->(∀m s,ff h m->E.ι m≠some (b,s))->w'.heap[b]? =w.heap[b]?
 vN:∀m b s,h'.get m≠none->E'.ι m=some (b,s)->b<w.heap.size->∃m0 s0,h.get m0≠none/\E.ι m0=some (b,s0)/\(ff h' m->ff h m0)
 Fm:∀b c,E'.φ b=some c->E.φ b=some c\/w.heap.size<=b\/∃m s,ff h m/\E.ι m=some (b,s)
theorem jf.refl{E:Env}{h:I es}{w:World}(g:Good E h w):jf E h w E h w:=
 ⟨E.le_refl,g,aK _,rfl,rfl,rfl,fun _ _ _=>rfl,fun m _ s K e _=>⟨m,s,K,e,id⟩,fun _ _ q=>.inl q⟩
theorem jf.trans{E E1 E2:Env}{h h1 C:I es}{w w1 w2:World}(a:jf E h w E1 h1 w1)(b:jf E1 h1 w1 E2 C w2):jf E h w E2 C w2 where
 le:=Env.le_trans a.le b.le
 good:=b.good
 size:=bH a.size b.size
 tape:=b.tape.trans a.tape
 os:=b.os.trans a.os
 output:=b.output.trans a.output
 keep:=fun x J hn=>by
  rw[b.keep x (cG J a.size) ?_,a.keep x J hn];intro m s K e;obtain⟨m0,s0,h0,e0,k0⟩:=a.vN m x s K.live e J;exact hn m0 s0 (k0 K) e0
 vN:=fun m x s K e J=>by
  obtain⟨m1,s1,oF,e1,k1⟩:=b.vN m x s K e (cG J a.size);obtain⟨m2,s2,C,e2,k2⟩:=a.vN m1 x s1 oF e1 J;exact⟨m2,s2,C,e2,fun q=>k2 (k1 q)⟩
 Fm:=fun x c N=>by
  rcases b.Fm x c N with q|q|⟨m,s,q1,q2⟩
  . exact a.Fm x c q
  . exact .inr (.inl (bH a.size q))
  . rcases bj x w.heap.size with J|J
    . obtain⟨m0,s0,_,e0,k0⟩:=a.vN m x s q1.live q2 J;exact .inr (.inr ⟨m0,s0,k0 q1,e0⟩)
    . exact .inr (.inl J)
theorem Good.same{E:Env}{h:I es}{w w':World}(g:Good E h w)(e:w'.heap=w.heap):Good E h w' where
 rel:=fun m o K=>let⟨b,s,h1,C⟩:=g.rel m o K;⟨b,s,h1,jG E.le_refl rfl (by rw[e]) C⟩
 inj:=g.inj
 qt:=fun m b s h=>by rw[e];exact g.qt m b s h
 lj:=g.lj
 jo:=fun b c q=>⟨by rw[e];exact(g.jo b c q).1,(g.jo b c q).2⟩
theorem jf.drew{E:Env}{h:I es}{w:World}(g:Good E h w):jf E h w E h w.drew:=
 ⟨E.le_refl,g.same rfl,aK _,rfl,rfl,rfl,fun _ _ _=>rfl,fun m _ s K e _=>⟨m,s,K,e,id⟩,fun _ _ q=>.inl q⟩
def Env.put(E:Env)(n b s z:Nat):Env:={ ι:=fun m=>if m=n then some (b,s)else E.ι m,β:=fun x=>if x=b then z else E.β x,φ:=E.φ }
section
variable{E:Env}{w:World}{n:Nat}{o:Obj}{b s z:Nat}
theorem Env.ga:(E.put n b s z).ι n=some (b,s):=by simp[Env.put]
theorem Env.iy{m:Nat}(h:m≠n):(E.put n b s z).ι m=E.ι m:=by simp[Env.put,h]
theorem Env.uJ(hn:E.ι n=none)(Y:∀m x t,E.ι m=some (x,t)->x=b->E.β b=z):E.le (E.put n b s z):=by
 refine⟨?_,fun _ _ h=>h⟩;intro m x t e;have:m≠n:=by intro h;rw[h,hn]at e;simp at e
 refine⟨by rw[Env.iy this];exact e,?_⟩;show(if x=b then z else E.β x)=E.β x;split
 . rename_i h;rw[<- Y m x t e h,h]
 . rfl
theorem qT(h:b<w.heap.size):(w.alloc o).heap[b]? =w.heap[b]?:=by
 simp only[World.alloc,Array.getElem?_push];rw[aA S]
theorem heap_alloc_new:(w.alloc o).heap[w.heap.size]? =some o:=by
 simp only[World.alloc,Array.getElem?_push,if_true]
end
def ki:Obj->Nat
 | .cells c _ _=>c.size
 |_=>0
theorem jf.alloc{E:Env}{h:I es}{w:World}{n:Nat}{o:es}{ob:Obj}(g:Good E h w)(hn:E.ι n=none)(ht:n<gy)
  (ho:nJ (E.put n w.heap.size 0 (ki ob)) (w.alloc ob) w.heap.size 0 o):
  jf E h w (E.put n w.heap.size 0 (ki ob)) (h.set n (some o)) (w.alloc ob):=by
 have zl:∀m b s,E.ι m=some (b,s)->b≠w.heap.size:=fun m b s e Y=>by have:=g.qt m b s e;omega
 have mg:E.le (E.put n w.heap.size 0 (ki ob)):=Env.uJ hn fun m x t e J=>absurd J (zl m x t e);have DQ:∀b c,E.φ b=some c->b<w.heap.size:=fun b c q=>by
  obtain⟨⟨el,fz,e⟩,_⟩:=g.jo b c q;exact(aU.1 e).1
 refine⟨mg,⟨?_,?_,?_,g.lj.mono mg,fun b c q=>⟨by rw[qT (DQ b c q)];exact(g.jo b c q).1,fun m s K e=>?_⟩⟩,by simp,rfl,rfl,rfl,fun b Y _=>qT Y,?_,fun _ _ q=>.inl q⟩
 case refine_4=>
  by_cases a:m=n
  . subst a;rw[Env.ga]at e;cases e;exact absurd (DQ _ c q) (dj _)
  . rw[Env.iy a]at e;exact(g.jo b c q).2 m s (pQ ht K a) e
 . intro m o' K;rw[I.gw _ _ _ ht]at K;by_cases e:m=n
   . subst e;rw[aD rfl]at K;cases K;exact⟨_,_,Env.ga,ho⟩
   . rw[aA e]at K;obtain⟨b,s,h1,C⟩:=g.rel m o' K;exact⟨b,s,by rw[Env.iy e];exact h1,jG mg (mg.nm m b s h1).2 (qT (g.qt m b s h1)) C⟩
 . intro m m' b s R jw K tP e e';rw[I.gw _ _ _ ht]at tP;by_cases a:m=n
   . subst a;rw[Env.ga]at e;have:m'≠m:=fun x=>jw x.symm;rw[Env.iy this]at e';cases e;exact zl _ _ _ e' rfl
   . rw[Env.iy a]at e;replace K:ff h m:=pQ ht K a;by_cases a':m'=n
     . subst a';rw[Env.ga]at e';cases e';exact zl _ _ _ e rfl
     . rw[Env.iy a']at e';rw[aA a']at tP;exact g.inj m m' b s R jw K tP e e'
 . intro m b s e;by_cases a:m=n
   . subst a;rw[Env.ga]at e;cases e;simp
   . rw[Env.iy a]at e;have:=g.qt m b s e;simp;omega
 . intro m b s K e Y;by_cases a:m=n
   . subst a;rw[Env.ga]at e;cases e;omega
   . rw[Env.iy a]at e;rw[I.gw _ _ _ ht,aA a]at K;exact⟨m,s,K,e,fun q=>pQ ht q a⟩
section
variable{E:Env}{h h':I es}{w w':World}{m b s:Nat}{o:es}
theorem jf.write(g:Good E h w)(ht:m<gy)(jm:ff h m)(K:E.ι m=some (b,s))
  (Em:w'.heap.size=w.heap.size) (Hu:w'.tape=w.tape) (hos:w'.os=w.os) (zm:w'.output=w.output)
  (pR:∀x,x≠b->w'.heap[x]? =w.heap[x]?) (ho:nJ E w' b s o):jf E h w E (h.set m (some o)) w':=by
 refine⟨E.le_refl,⟨?_,?_,?_,g.lj,fun b' c q=>⟨?_,fun k t U e=>?_⟩⟩,S,Hu,hos,zm,?_,?_,fun _ _ q=>.inl q⟩
 case refine_4=>rw[pR b' fun e=>(g.jo b' c q).2 m s jm (e▸K)];exact(g.jo b' c q).1
 case refine_5=>
  rcases rM ht U with⟨a,_⟩|a
  . exact(g.jo b' c q).2 m t jm (a▸e)
  . exact(g.jo b' c q).2 k t a.2 e
 . intro k o' U;rw[I.gw _ _ _ ht]at U;by_cases e:k=m
   . subst e;rw[aD rfl]at U;cases U;exact⟨b,s,K,ho⟩
   . rw[aA e]at U;obtain⟨b',R,h1,C⟩:=g.rel k o' U;have jw:b'≠b:=by
      intro Y;subst Y;exact g.inj m k b' s R (fun q=>e q.symm) jm (by rw[U];simp) K h1
     exact⟨b',R,h1,jG E.le_refl rfl (pR b' jw) C⟩
 . intro k k' x t t' jw U qU e e';refine g.inj k k' x t t' jw ?_ ?_ e e'
   . rcases rM ht U with⟨q,_⟩|q
     . rw[q];exact jm
     . exact q.2
   . rw[I.gw _ _ _ ht]at qU;split at qU
     . rename_i q;rw[q];exact jm.live
     . exact qU
 . intro k x t e;rw[Em];exact g.qt k x t e
 . intro x _ hn;refine pR x ?_;intro J;subst J;exact hn m s jm K
 . intro k x t U e _;by_cases q:k=m
   . subst q;exact⟨k,t,jm.live,e,fun _=>jm⟩
   . rw[I.gw _ _ _ ht,aA q]at U;exact⟨k,t,U,e,fun c=>pQ ht c q⟩
theorem jf.move{n b s R:Nat}{o:es}(g:Good E h w)(ht:m<gy)(hn:n<gy)(qV:E.ι n=none)(jm:ff h m)(K:E.ι m=some (b,s))
  (Em:w'.heap.size=w.heap.size) (Hu:w'.tape=w.tape) (hos:w'.os=w.os) (zm:w'.output=w.output)
  (pR:∀x,x≠b->w'.heap[x]? =w.heap[x]?) (ho:nJ (E.put n b R (E.β b)) w' b R o):
  jf E h w (E.put n b R (E.β b)) ((h.set m none).set n (some o)) w':=by
 have VA:m≠n:=by intro e;rw[e,qV]at K;simp at K
 have mg:E.le (E.put n b R (E.β b)):=Env.uJ qV fun _ _ _ _ _=>rfl;have pb:∀k,((h.set m none).set n (some o)).get k=if k=n then some o else if k=m then none else h.get k:=by
  intro k;rw[I.gw _ _ _ hn];split
  . rfl
  . rw[I.gw _ _ _ ht]
 have VB:∀k,ff ((h.set m none).set n (some o)) k->k=n\/(k≠n/\k≠m/\ff h k):=by
  intro k q;rcases rM hn q with q|q
  . exact .inl q.1
  . rcases rM ht q.2 with c|c
    . obtain⟨_,_,c,_⟩:=c;cases c
    . exact .inr ⟨q.1,c.1,c.2⟩
 refine⟨mg,⟨?_,?_,?_,g.lj.mono mg,fun b2 c q=>⟨?_,fun k t U e=>?_⟩⟩,S,Hu,hos,zm,?_,?_,fun _ _ q=>.inl q⟩
 case refine_4=>rw[pR b2 fun e=>(g.jo b2 c q).2 m s jm (e▸K)];exact(g.jo b2 c q).1
 case refine_5=>
  rcases VB k U with a|⟨a,_,a2⟩
  . subst a;rw[Env.ga]at e;cases e;exact(g.jo _ c q).2 m s jm K
  . rw[Env.iy a]at e;exact(g.jo b2 c q).2 k t a2 e
 . intro k o' U;rw[pb]at U;by_cases e:k=n
   . subst e;rw[aD rfl]at U;cases U;exact⟨_,_,Env.ga,ho⟩
   . rw[aA e]at U;by_cases e2:k=m
     . rw[aD e2]at U;cases U
     . rw[aA e2]at U;obtain⟨b',t,h1,C⟩:=g.rel k o' U;have jw:b'≠b:=by
        intro Y;subst Y;exact g.inj m k b' s t (fun q=>e2 q.symm) jm (by rw[U];simp) K h1
       exact⟨b',t,by rw[Env.iy e];exact h1,jG mg (mg.nm k b' t h1).2 (pR b' jw) C⟩
 . intro k k' x t t' jw U qU e e';rw[pb]at qU;rcases VB k U with a|⟨a,c,OM⟩
   . subst a;rw[Env.ga]at e;cases e;have a':k'≠k:=fun q=>jw q.symm;rw[Env.iy a']at e';rw[aA a']at qU;by_cases c:k'=m
     . rw[aD c]at qU;exact qU rfl
     . rw[aA c]at qU;exact g.inj m k' b s t' (fun q=>c q.symm) jm qU K e'
   . rw[Env.iy a]at e;by_cases a':k'=n
     . subst a';rw[Env.ga]at e';cases e';exact g.inj m k b s t (fun q=>c q.symm) jm OM.live K e
     . rw[Env.iy a']at e';rw[aA a']at qU;by_cases c':k'=m
       . rw[aD c']at qU;exact qU rfl
       . rw[aA c']at qU;exact g.inj k k' x t t' jw OM qU e e'
 . intro k x t e;by_cases a:k=n
   . subst a;rw[Env.ga]at e;cases e;rw[Em];exact g.qt m b s K
   . rw[Env.iy a]at e;rw[Em];exact g.qt k x t e
 . intro x _ J;refine pR x ?_;intro q;subst q;exact J m s jm K
 . intro k x t U e _;rw[pb]at U;by_cases a:k=n
   . subst a;rw[Env.ga]at e;cases e;exact⟨m,s,jm.live,K,fun _=>jm⟩
   . rw[Env.iy a]at e;rw[aA a]at U;by_cases c:k=m
     . rw[aD c]at U;exact absurd rfl U
     . rw[aA c]at U;exact⟨k,t,U,e,fun q=>(VB k q).elim (fun c=>absurd c a) (·.2.2)⟩
theorem pS(hs:∀m o,h'.get m=some o->h.get m=some o){m:Nat}(k:h'.get m≠none):h.get m≠none:=by
 cases q:h'.get m with
 |none=>exact absurd q k
 |some o=>rw[hs m o q];simp
theorem iC(hs:∀m o,h'.get m=some o->h.get m=some o){m:Nat}(k:ff h' m):ff h m:=by
 obtain⟨o,a,b⟩:=k;exact⟨o,hs m o a,b⟩
theorem Good.sub(g:Good E h w)(hs:∀m o,h'.get m=some o->h.get m=some o):Good E h' w where
 rel:=fun m o K=>g.rel m o (hs m o K)
 inj:=fun m m' b s R jw K tP e e'=>g.inj m m' b s R jw (iC hs K) (pS hs tP) e e'
 qt:=g.qt
 lj:=g.lj
 jo:=fun b c q=>⟨(g.jo b c q).1,fun m s K=>(g.jo b c q).2 m s (iC hs K)⟩
theorem jf.forget(g:Good E h w)(ht:m<gy):jf E h w E (h.set m none) w:=by
 have hs:∀k o,(h.set m none).get k=some o->h.get k=some o:=by
  intro k o U;rw[I.gw _ _ _ ht]at U;split at U
  . cases U
  . exact U
 exact⟨E.le_refl,g.sub hs,aK _,rfl,rfl,rfl,fun _ _ _=>rfl,fun k b s U e _=>⟨k,s,pS hs U,e,iC hs⟩,fun _ _ q=>.inl q⟩
theorem Addr.ji(b o n:Nat):(⟨b,o,none⟩:Addr).add n=⟨b,o+n,none⟩:=by
 unfold Addr.add;split
 . rename_i h;subst h;rfl
 . rfl
theorem mX{i:Nat}{c:Array Value}{el:TypeId}{fz:Nat×Nat}(h:w.heap[b]? =some (.cells c el fz)):w.cell? ⟨b,i,none⟩=c[i]?:=by
 simp[World.cell?,h]
end
theorem run_loadCellsFrom{P:Program}{w:World}{b o:Nat}{c:Array Value}{el:TypeId}{fz:Nat×Nat}(h:w.heap[b]? =some (.cells c el fz)):
  ∀(n i:Nat) (Ek:Array Value),o+i+n<=c.size->(loadCellsFrom ⟨b,o,none⟩ i n Ek).run P w= .ok (Ek++((c.toList.drop (o+i)).take n).toArray) w
 |0,i,Ek,_=>by simp[loadCellsFrom]
 |n+1,i,Ek,hn=>by
  have eY:o+i<c.size:=by omega
  simp only[loadCellsFrom,Sem.run_bind,run_load,Addr.ji,mX h];rw[aY eY];simp only[Result.andThen_ok];rw[run_loadCellsFrom h n (i+1) _ S];congr 1;have hd:c.toList.drop (o+i)=c[o+i]::c.toList.drop (o+(i+1)):=by
   rw[bz (by simpa using eY)];simp[Nat.add_assoc]
  rw[hd];simp
theorem run_loadCells{P:Program}{w:World}{b o n:Nat}{c:Array Value}{el:TypeId}{fz:Nat×Nat}(h:w.heap[b]? =some (.cells c el fz))(hn:o+n<=c.size):
  (loadCells ⟨b,o,none⟩ n).run P w= .ok ((c.toList.drop o).take n).toArray w:=by
 unfold loadCells;rw[run_loadCellsFrom h n 0 #[] S];simp
def putCells(c:Array Value)(o:Nat)(vs:List Value):Array Value:=(c.toList.take o++(vs++c.toList.drop (o+vs.length))).toArray
section
variable{c:Array Value}{o:Nat}{vs:List Value}
theorem jR(h:o+vs.length<=c.size):(putCells c o vs).size=c.size:=by
 simp[putCells];omega
theorem mY(h:o+vs.length<=c.size)(j:Nat):
  (putCells c o vs)[j]? =if o<=j/\j<o+vs.length then vs[j-o]? else c[j]?:=by
 simp only[putCells,List.getElem?_toArray];rw[List.getElem?_append];have hl:(List.take o c.toList).length=o:=by simp;omega
 rw[hl];by_cases h1:j<o
 . rw[aD h1,aA S,bW,aD h1];simp
 . rw[aA h1,List.getElem?_append];by_cases C:j<o+vs.length
   . rw[aD S,aD S]
   . rw[aA S,aA S,bX];simp;congr 1;omega
theorem qW{v:Value}{vs:List Value}(h:o+(vs.length+1)<=c.size):
  putCells (c.setIfInBounds o v) (o+1) vs=putCells c o (v::vs):=by
 have e1:o+1+vs.length<=(c.setIfInBounds o v).size:=by simp;omega
 have e2:o+(v::vs).length<=c.size:=by simpa using h
 apply Array.ext
 . rw[jR e1,jR e2];simp
 . intro j h1 C;have:(putCells (c.setIfInBounds o v) (o+1) vs)[j]? =(putCells c o (v::vs))[j]?:=by
    rw[mY e1,mY e2];by_cases a:j=o
    . subst a;rw[aA S,aD (by simp)];have hj:j<c.size:=by omega
      simp[hj]
    . by_cases b:o+1<=j/\j<o+1+vs.length
      . rw[aD b,aD (by simp;omega)];have:j-o=(j-(o+1))+1:=by omega
        rw[this];simp
      . rw[aA b,aA (by simp;omega)];rw[Array.getElem?_setIfInBounds];rw[aA (fun q=>a q.symm)]
   rw[aY h1,aY C]at this;exact dn this
end
theorem mZ{P:Program}{b o:Nat}{el:TypeId}{fz:Nat×Nat}:∀(vs:List Value) (i:Nat) (w:World) (c:Array Value),w.heap[b]? =some (.cells c el fz)->
  mW fz c.size->(∀v∈vs,v.oneCell'=true)->o+i+vs.length<=c.size->
  ∃w',(storeCells ⟨b,o,none⟩ vs i).run P w= .ok () w'/\w'.heap[b]? =some (.cells (putCells c (o+i) vs) el fz)/\w'.heap.size=w.heap.size/\w'.tape=w.tape/\w'.os=w.os/\w'.output=w.output/\
   ∀x,x≠b->w'.heap[x]? =w.heap[x]?
 | [],i,w,c,h,_,_,hn=>by
   refine⟨w,rfl,?_,rfl,rfl,rfl,rfl,fun _ _=>rfl⟩;rw[h];have:putCells c (o+i) []=c:=by simp[putCells]
   rw[this]
 |v::vs,i,w,c,h,hf,hv,hn=>by
  simp only[aR]at hn;have eY:o+i<c.size:=by omega
  have hnf:w.frozen? ⟨b,o+i,none⟩=false:=by
   have:=hf (o+i) eY;simp only[World.frozen?,h];simpa using this
  let w1:=w.setCell ⟨b,o+i,none⟩ v
  have JJ:w1.heap[b]? =some (.cells (c.setIfInBounds (o+i) v) el fz):=by
   simp[w1,World.setCell,Array.getElem?_modify,h]
  obtain⟨w',e1,e2,e3,e4,e5,e6,e7⟩:=mZ (P:=P) (o:=o) vs (i+1) w1 (c.setIfInBounds (o+i) v) JJ (by simpa using hf) (fun v WU=>hv v (by simp[WU])) (by simp only[Array.size_setIfInBounds];omega);refine⟨w',?_,?_,by rw[e3];simp[w1],by rw[e4];rfl,by rw[e5];rfl,by rw[e6];rfl,?_⟩
  . simp only[storeCells,Sem.run_bind];rw[run_store P w _ v .plain (hv v (by simp)),Addr.ji,mX h,aY eY];simp only[hnf,aM,cA,Result.andThen_ok];exact e1
  . rw[e2];have:o+(i+1)=o+i+1:=by omega
    rw[this,qW S]
  . intro x J;rw[e7 x J];simp[w1,World.setCell,Array.getElem?_modify,Ne.symm J]
theorem sS{E:Env}:∀{v:Value} {x:V},jb v=some x->eB E x v:=by
 intro v x h;cases v with
 |bool b=>simp only[jb,aq]at h;subst h;rfl
 |int k n=>simp only[jb,aq]at h;subst h;rfl
 |string s=>
  simp only[jb,aq]at h;subst h;show Value.string s= .string ⟨s.data.toList.toArray⟩;rw[Array.toArray_toList]
 |pointer a=>cases a<;>simp only[jb,aq]at h;. subst h;rfl
             . cases h
 |slice a l c=>
  cases a with
  |none=>match l,c,h with
   |0,0,h=>simp only[jb,aq]at h;subst h;exact⟨rfl,rfl,rfl⟩
  |some a=>simp[jb]at h
 |map a=>cases a<;>simp only[jb,aq]at h;. subst h;rfl
         . cases h
 |nilFunc=>simp only[jb,aq]at h;subst h;rfl
 |nilIface=>simp only[jb,aq]at h;subst h;rfl
 |_=>simp[jb]at h
theorem we{E:Env}:∀{vs:List Value} {xs:ag},nF vs=some xs->eC E xs vs
 | [],xs,h=>by simp only[nF,aq]at h;subst h;rfl
 |v::vs,xs,h=>by
  simp only[nF]at h;cases h1:jb v with
  |none=>simp[h1]at h
  |some x=>cases C:nF vs with
   |none=>simp[h1,C]at h
   |some r=>simp only[h1,C,aq]at h;subst h;exact⟨v,vs,sS h1,we C,rfl⟩
theorem zn{E:Env}{v:Value}{x:V}(h:Lt v=some x):eB E x v:=by
 unfold Lt at h;split at h
 . rename_i cs;cases h1:nF cs.toList with
   |none=>simp[h1]at h
   |some r=>simp only[h1,aq]at h;subst h;exact⟨cs.toList,we h1,by simp⟩
 . exact sS h
section runs
variable{P:Program}{w:World}
section
variable{t:TypeId}
theorem eo{d:TypeDesc}(h:P.underlying t=some d):(underlying t).run P w= .ok d w:=by simp[underlying,h]
theorem fK{s:Nat}(h:ko P t=some s):(sizeOf t).run P w= .ok s w:=by
 unfold ko at h;cases hi:P.info? t with
 |none=>simp[hi]at h
 |some i=>simp[hi]at h;simp[sizeOf,typeInfo,hi,h]
theorem lC{z:V}(E:Env)(h:zeroOf P t=some z):∃z',(zeroValue t).run P w= .ok z' w/\eB E z z'/\(∃i,P.info? t=some i/\i.zero=some z'):=by
 unfold zeroOf at h;cases hi:P.info? t with
 |none=>simp[hi]at h
 |some i=>
  simp only[hi]at h;cases hz:i.zero with
  |none=>simp[hz]at h
  |some v=>simp only[hz]at h;exact⟨v,by simp[zeroValue,typeInfo,hi,hz],zn h,i,rfl,hz⟩
theorem rN{b:Bool}(h:Hi P t=some b):(isAgg t).run P w= .ok b w:=by
 unfold Hi at h;split at h
 . rename_i hu;simp at h;subst h;simp[isAgg,eo hu]
 . rename_i hu;simp at h;subst h;simp[isAgg,eo hu]
 . rename_i d h1 C hu;simp at h;subst h;simp only[isAgg,Sem.run_bind,eo hu,Result.andThen_ok]
   first|rfl|(split<;>first|rfl|(exact absurd rfl (h1 _))|(exact absurd rfl (C _ _)))
 . cases h
end
end runs
def jX(P:Program)(E:Env)(h:I es)(n:Nat)(w:World)(s:Sem Next):s'->Prop
 | .val v h' n'=>∃E' w' v',(s.run P w= .ok (.value v') w'\/(s.run P w= .ok .skip w'/\v'=undef))/\eB E' v v'/\jf E h w E' h' w'/\
    (∀m,m≠n->E'.ι m=E.ι m)/\((n'=n/\E'=E)\/n'=n+1)
 | .call f args=>∃dQ,eC E args dQ/\((s.run P w= .ok (.enter f dQ.toArray) w/\callee P f=true)\/(∃m l b,f=P.funcs.size+m/\E.ι m=some (l,b)/\s.run P w=(Instr.yield l dQ.toArray).run P w))
 | .ud f c args=>∃c' dQ,s.run P w= .ok (.defer { target:=.fn (.func f) c'.toArray,args:=dQ.toArray }) w/\eC E c c'/\eC E args dQ
 | .recover=>s.run P w= .ok .recover w
 | .panic v=>∃v',s.run P w= .halt (.panic v') w/\eB E v v'
theorem eL{P:Program}{E:Env}{h:I es}{n:Nat}{w:World}{s:Sem Next}{v:V}{v':Value}(g:Good E h w)
  (hr:s.run P w= .ok (.value v') w) (hv:eB E v v'):jX P E h n w s (.val v h n):=
 ⟨E,w,v',.inl hr,hv,jf.refl g,fun _ _=>rfl,.inl ⟨rfl,rfl⟩⟩
theorem oc{E:Env}{cs:ag}{c:Array Value}(r:eC E cs c.toList):l8 E 0 cs c:=by
 intro i v h;obtain⟨v',h1,C⟩:=gW r i v h;exact⟨v',by simpa using h1,C⟩
theorem kS{h h':I es}{n n':Nat}{o:es}(e:newObj h n o=some (h',n')):n<gy/\h'=h.set n (some o)/\n'=n+1:=by
 unfold newObj at e;split at e
 . rename_i q;simp at e;exact⟨q,e.1.symm,e.2.symm⟩
 . cases e
theorem JK{P:Program}{E:Env}{h h':I es}{n n':Nat}{w w1:World}{s:Sem Next}{cs:ag}{c:Array Value}{el:TypeId}{fz:Nat×Nat}{v:V}{v':Value}
  (g:Good E h w) (hn:E.ι n=none) (e:newObj h n (.cells cs)=some (h',n')) (hw:w1.heap=w.heap) (ht:w1.tape=w.tape) (ho:w1.os=w.os) (zm:w1.output=w.output)
  (DQ:mW fz c.size) (hr:s.run P w= .ok (.value v') (w1.alloc (.cells c el fz))) (N:l8 E 0 cs c)
  (hv:eB (E.put n w.heap.size 0 c.size) v v'):jX P E h n w s (.val v h' n'):=by
 obtain⟨gX,rfl,rfl⟩:=kS e;have g1:Good E h w1:=g.same hw;have hs:w1.heap.size=w.heap.size:=by rw[hw]
 have mg:E.le (E.put n w1.heap.size 0 c.size):=Env.uJ hn fun m x t q J=>by have:=g1.qt m x t q;omega
 have u1:jf E h w E h w1:=⟨E.le_refl,g1,S,ht,ho,zm,fun b _ _=>by rw[hw],fun m _ s K q _=>⟨m,s,K,q,id⟩,fun _ _ q=>.inl q⟩;have u:=jf.alloc (ob:=.cells c el fz) (o:=.cells cs) g1 hn gX ⟨c,el,fz,heap_alloc_new,by simp[Env.put,ki],DQ,pC mg N⟩;refine⟨E.put n w1.heap.size 0 c.size,_,v',.inl hr,by rw[hs];exact hv,u1.trans u,fun m K=>Env.iy K,.inr rfl⟩
theorem zo{P:Program}{E:Env}{h h':I es}{n n':Nat}{w w1:World}{s:Sem Next}{cs:ag}{c:Array Value}{el:TypeId}{v:V}{v':Value}
  (g:Good E h w) (hn:E.ι n=none) (e:newObj h n (.cells cs)=some (h',n')) (hw:w1.heap=w.heap) (ht:w1.tape=w.tape) (ho:w1.os=w.os) (zm:w1.output=w.output)
  (hr:s.run P w= .ok (.value v') (w1.alloc (.cells c el))) (N:l8 E 0 cs c)
  (hv:eB (E.put n w.heap.size 0 c.size) v v'):jX P E h n w s (.val v h' n'):=
 JK g hn e hw ht ho zm (fun i _ q=>by simp at q) hr N hv
theorem Hv{P:Program}{E:Env}{h h':I es}{n n':Nat}{w w1:World}{s:Sem Next}{r:Row}{c:Array Value}{el:TypeId}{fz:Nat×Nat}{v:V}{v':Value}
  (g:Good E h w) (hn:E.ι n=none) (JG:r.sc) (e:newObj h n r.Ei=some (h',n')) (hw:w1.heap=w.heap) (ht:w1.tape=w.tape) (ho:w1.os=w.os) (zm:w1.output=w.output)
  (DQ:mW fz c.size) (hr:s.run P w= .ok (.value v') (w1.alloc (.cells c el fz))) (N:l8 E 0 r.kH c)
  (hv:eB (E.put n w.heap.size 0 c.size) v v'):jX P E h n w s (.val v h' n'):=by
 obtain⟨gX,rfl,rfl⟩:=kS e;have g1:Good E h w1:=g.same hw;have hs:w1.heap.size=w.heap.size:=by rw[hw]
 have mg:E.le (E.put n w1.heap.size 0 c.size):=Env.uJ hn fun m x t q J=>by have:=g1.qt m x t q;omega
 have u1:jf E h w E h w1:=⟨E.le_refl,g1,S,ht,ho,zm,fun b _ _=>by rw[hw],fun m _ s K q _=>⟨m,s,K,q,id⟩,fun _ _ q=>.inl q⟩;have u:=jf.alloc (ob:=.cells c el fz) (o:=r.Ei) g1 hn gX (xP ⟨c,el,_,heap_alloc_new,by simp[Env.put,ki],DQ,pC mg N⟩ JG);refine⟨E.put n w1.heap.size 0 c.size,_,v',.inl hr,by rw[hs];exact hv,u1.trans u,fun m K=>Env.iy K,.inr rfl⟩
theorem sU{P:Program}{E:Env}{h h':I es}{n n':Nat}{w w1:World}{s:Sem Next}{r:Row}{c:Array Value}{el:TypeId}{v:V}{v':Value}
  (g:Good E h w) (hn:E.ι n=none) (JG:r.sc) (e:newObj h n r.Ei=some (h',n')) (hw:w1.heap=w.heap) (ht:w1.tape=w.tape) (ho:w1.os=w.os) (zm:w1.output=w.output)
  (hr:s.run P w= .ok (.value v') (w1.alloc (.cells c el))) (N:l8 E 0 r.kH c)
  (hv:eB (E.put n w.heap.size 0 c.size) v v'):jX P E h n w s (.val v h' n'):=by
 obtain⟨gX,rfl,rfl⟩:=kS e;have g1:Good E h w1:=g.same hw;have hs:w1.heap.size=w.heap.size:=by rw[hw]
 have mg:E.le (E.put n w1.heap.size 0 c.size):=Env.uJ hn fun m x t q J=>by have:=g1.qt m x t q;omega
 have u1:jf E h w E h w1:=⟨E.le_refl,g1,S,ht,ho,zm,fun b _ _=>by rw[hw],fun m _ s K q _=>⟨m,s,K,q,id⟩,fun _ _ q=>.inl q⟩;have u:=jf.alloc (ob:=.cells c el) (o:=r.Ei) g1 hn gX (xP ⟨c,el,_,heap_alloc_new,by simp[Env.put,ki],(fun i _ q=>by simp at q),pC mg N⟩ JG);refine⟨E.put n w1.heap.size 0 c.size,_,v',.inl hr,by rw[hs];exact hv,u1.trans u,fun m K=>Env.iy K,.inr rfl⟩
theorem WV{E:Env}{h:I es}{w:World}{n z:Nat}(g:Good E h w)(hn:E.ι n=none):E.le (E.put n w.heap.size 0 z):=
 Env.uJ hn fun m x t q J=>by have:=g.qt m x t q;omega
section ops
variable{P:Program}{E:Env}{h:I es}{n:Nat}{w:World}
theorem Fo(P:Program)(t:TypeId)(z:V):BU P t z= .cells z.cells\/(z.cells=[.ptr none,.eZ none 0 0 0]/\BU P t z= .Hh t false (.eZ none 0 0 0)):=by
 unfold BU;split
 . rename_i hz;split
   . split
     . split
       . split
         . exact .inr ⟨hz,rfl⟩
         . exact .inl rfl
       . exact .inl rfl
     . exact .inl rfl
   . exact .inl rfl
 . exact .inl rfl
section
variable{t:TypeId}{m s o:Nat}
theorem ON{z:V}{h':I es}{n':Nat}(g:Good E h w)(hn:E.ι n=none)(hz:zeroOf P t=some z)(e:newObj h n (BU P t z)=some (h',n')):
  jX P E h n w (do pure (.value (<- Instr.alloc t true (.tuple #[])))) (.val (.ptr (some (n,0))) h' n'):=by
 obtain⟨z',hr,hv,_⟩:=lC (w:=w) E hz;rcases Fo P t z with q|⟨N,q⟩
 case inr=>
  rw[q]at e;obtain⟨gX,rfl,rfl⟩:=kS e;have qu:=iQ hv;rw[N]at qu;obtain⟨p',_,r1,⟨x',_,r2,lX,rfl⟩,hl⟩:=qu;simp only[eC]at lX;subst lX;simp only[eB]at r1;subst r1;have hzc:z'.cells=#[.pointer none,x']:=by apply Array.ext';rw[hl]
  have hu:=jf.alloc (ob:=.cells z'.cells t) (o:=.Hh t false (.eZ none 0 0 0)) g hn gX ⟨rfl,x',_,by rw[heap_alloc_new,hzc];rfl,by simp[Env.put,ki,hzc],(fun i _ q=>by simp at q),jF (WV g hn) _ _ r2⟩;exact⟨_,_,.pointer (some ⟨w.heap.size,0,none⟩),.inl (by simp[Instr.alloc,hr,newVar,newRow]),⟨_,_,Env.ga,by simp⟩,hu,fun m K=>Env.iy K,.inr rfl⟩
 rw[q]at e;refine zo (c:=z'.cells) (el:=t) (w1:=w) (v':=.pointer (some ⟨w.heap.size,0,none⟩)) g hn e rfl rfl rfl rfl ?_ (oc (iQ hv)) ⟨_,_,Env.ga,by simp⟩;simp[Instr.alloc,hr,newVar,newRow]
theorem WW{v:V}{v':Value}{h':I es}{n':Nat}(g:Good E h w)(hn:E.ι n=none)(hv:eB E v v')(e:newObj h n (.cells v.cells)=some (h',n')):
  jX P E h n w (do pure (.value (<- Instr.box t v'))) (.val (.ptr (some (n,0))) h' n'):=by
 refine zo (c:=v'.cells) (el:=t) (w1:=w) (v':=.pointer (some ⟨w.heap.size,0,none⟩)) g hn e rfl rfl rfl rfl ?_ (oc (iQ hv)) ⟨_,_,Env.ga,by simp⟩;simp[Instr.box,newVar,newRow]
theorem nO{cs:ag}{c:Array Value}(r:l8 E s cs c){k:Nat}(U:0<k)(N:k<=cs.length):s+k<=c.size:=by
 obtain⟨v',h1,_⟩:=r (k-1) (cs[k-1]'(by omega)) (au _);have:=(aU.1 h1).1;omega
theorem nP{cs:ag}{c:Array Value}(r:l8 E s cs c){o k:Nat}(U:o+k<=cs.length)(h0:s+o+k<=c.size):
  eC E ((cs.drop o).take k) ((c.toList.drop (s+o)).take k):=by
 refine jM (by simp;omega) fun i v q=>?_;rw[bW]at q ⊢;split at q
 . rename_i hi;rw[aD hi];rw[bX]at q ⊢;obtain⟨v',h1,C⟩:=r (o+i) v q;exact⟨v',by rw[<- h1];simp[Nat.add_assoc],C⟩
 . cases q
theorem zq{cs:ag}{o k:Nat}{r:ag}(e:cut cs o k=some r):o+k<=cs.length/\r=(cs.drop o).take k:=by
 unfold cut at e;split at e
 . rename_i q;simp at e;exact⟨q,e.symm⟩
 . cases e
theorem jH{b s o:Nat}{cs:ag}{v:V}{c:Array Value}{el:TypeId}{fz:Nat×Nat}(Y:w.heap[b]? =some (.cells c el fz))(r:l8 E s cs c)
  (e:kV P t cs o=some v):∃v',(loadVar t ⟨b,s+o,none⟩).run P w= .ok v' w/\eB E v v':=by
 unfold kV at e;split at e
 . rename_i ha;cases hs:ko P t with
   |none=>simp[hs]at e
   |some k=>
    simp only[hs]at e;cases N:cut cs o k with
    |none=>simp[N]at e
    |some x=>
     simp only[N,bu,aq]at e;subst e;obtain⟨h1,rfl⟩:=zq N;by_cases U:k=0
     . subst U;refine⟨.agg #[],?_,[],by simp[eC],rfl⟩;simp[loadVar,rN ha,fK hs,loadCells,loadCellsFrom]
     . have h0:s+o+k<=c.size:=by have:=nO r (k:=o+k) S h1;omega
       refine⟨_,?_,_,nP r h1 h0,rfl⟩;simp[loadVar,rN ha,fK hs,run_loadCells Y h0]
 . rename_i ha;obtain⟨v',h1,C⟩:=r o v e;refine⟨v',?_,C⟩;simp[loadVar,rN ha,mX Y,h1]
 . cases e
theorem OO{E:Env}{m b:Nat}{self:Bool}{x:V}{x':Value}(hi:E.ι m=some (b,0))(J:eB E x x'):l8 E 0 (ux m self x) #[.pointer (if self then some ⟨b,0,none⟩else none),x']:=by
 intro i v q
 match i with
 |0=>
  simp only[ux,cK,aq]at q;subst q;refine⟨_,rfl,?_⟩;cases self with
  |true=>exact⟨b,0,hi,rfl⟩
  |false=>rfl
 |1=>
  simp only[ux,List.getElem?_cons_succ,cK,aq]at q;subst q;exact⟨_,rfl,J⟩
 |i+2=>simp[ux]at q
theorem B9{t:TypeId}{a v:V}{a':Value}(g:Good E h w)(ha:eB E a a')(e:loadAt P t h a=some v):
  ∃b s,a'= .pointer (some ⟨b,s,none⟩)/\∃v',(loadVar t ⟨b,s,none⟩).run P w= .ok v' w/\eB E v v':=by
 unfold loadAt at e;split at e
 . rename_i m o;split at e
   . rename_i cs K;obtain⟨b,s,hi,c,el,fz,Y,_,_,N⟩:=g.rel m _ K;obtain⟨b',R,jI,rfl⟩:=ha;rw[hi]at jI;cases jI;obtain⟨v',h1,C⟩:=jH Y N e;exact⟨b,s+o,rfl,v',h1,C⟩
   . rename_i k ks K;obtain⟨b,s,hi,c,el,fz,Y,_,N⟩:=g.rel m _ K;obtain⟨b',R,jI,rfl⟩:=ha;rw[hi]at jI;cases jI;obtain⟨v',h1,C⟩:=jH Y (nK.2 N) e;exact⟨b,s+o,rfl,v',h1,C⟩
   . rename_i k ks K;obtain⟨b,s,hi,c,el,fz,Y,_,_,N⟩:=g.rel m _ K;obtain⟨b',R,jI,rfl⟩:=ha;rw[hi]at jI;cases jI;obtain⟨v',h1,C⟩:=jH Y N e;exact⟨b,s+o,rfl,v',h1,C⟩
   . rename_i cs K;obtain⟨b,s,hi,c,el,fz,vs,Y,_,_,hd,N⟩:=g.rel m _ K;obtain⟨b',R,jI,rfl⟩:=ha;rw[hi]at jI;cases jI;obtain⟨v',h1,C⟩:=jH Y ((nL (jk hd)).2 ⟨vs,hd,N⟩) e;exact⟨b,s+o,rfl,v',h1,C⟩
   . rename_i fr self x K;obtain⟨b,s,hi,hs,x',fz,Y,_,_,J⟩:=g.rel m _ K;obtain⟨b',R,jI,rfl⟩:=ha;rw[hi]at jI;cases jI;subst hs;obtain⟨v',h1,C⟩:=jH (E:=E) (s:=0) Y (OO hi J) e;exact⟨b,0+o,rfl,v',h1,C⟩
   . cases e
 . rename_i cs;obtain⟨b,o,c,vs,rfl,hf,hd,N⟩:=ha;obtain⟨⟨el,fz,Y⟩,_⟩:=g.jo b c hf;obtain⟨v',h1,C⟩:=jH Y ((nL (jk hd)).2 ⟨vs,hd,N⟩) e;exact⟨b,o,rfl,v',h1,C⟩
 . cases e
theorem SQ{a v:V}{a':Value}(g:Good E h w)(ha:eB E a a')(e:loadAt P t h a=some v):
  jX P E h n w (do pure (.value (<- Instr.loadAt t a'))) (.val v h n):=by
 obtain⟨b,s,rfl,v',h1,C⟩:=B9 g ha e;exact eL g (by simp[Instr.loadAt,Instr.sureAddr,h1]) C
theorem zu{cs new r:ag}{o:Nat}(e:BT cs o new=some r):o+new.length<=cs.length/\r=cs.take o++(new++cs.drop (o+new.length)):=by
 unfold BT at e;split at e
 . rename_i q;simp at e;exact⟨q,e.symm⟩
 . cases e
theorem JL{α:Type}{cs new:List α}{o:Nat}(h:o+new.length<=cs.length)(j:Nat):
  (cs.take o++(new++cs.drop (o+new.length)))[j]? =if o<=j/\j<o+new.length then new[j-o]? else cs[j]?:=by
 rw[List.getElem?_append];have hl:(List.take o cs).length=o:=by simp;omega
 rw[hl];by_cases h1:j<o
 . rw[aD h1,aA S,bW,aD h1]
 . rw[aA h1,List.getElem?_append];by_cases C:j<o+new.length
   . rw[aD S,aD S]
   . rw[aA S,aA S,bX];congr 1;omega
theorem Hw{cs new:ag}{kC:List Value}{c:Array Value}(r:l8 E s cs c)(hn:eC E new kC)(jw:0<new.length)(h:o+new.length<=cs.length):
  s+o+kC.length<=c.size/\l8 E s (cs.take o++(new++cs.drop (o+new.length))) (putCells c (s+o) kC):=by
 have hl:=fo hn;have Y:s+o+kC.length<=c.size:=by have:=nO r (k:=o+new.length) S h;omega
 refine⟨Y,fun i v q=>?_⟩;rw[JL h]at q;rw[mY Y];split at q
 . rename_i hi;rw[aD S];obtain⟨v',h1,C⟩:=gW hn _ v q;exact⟨v',by rw[<- h1];congr 1;omega,C⟩
 . rename_i hi;rw[aA S];exact r i v q
theorem wJ{b s:Nat}{ob:es}{r r':Row}{new:ag}{kC:List Value}(g:Good E h w)(gX:m<gy)(K:h.get m=some ob)(hr:ob.row=some r)(hi:E.ι m=some (b,s))
  (hn:eC E new kC) (jw:0<new.length) (JG:new.all V.scalar=true) (hl:o+new.length<=r.kH.length) (JM:wk (r.kH.take o++(new++r.kH.drop (o+new.length))) r'.kH) (WX:r.sc->r'.sc):
  ∃w',(storeCells ⟨b,s+o,none⟩ kC).run P w= .ok () w'/\jf E h w E (h.set m (some r'.Ei)) w':=by
 obtain⟨b',R,jI,q⟩:=g.rel m _ K;obtain⟨⟨c,el,fz,Y,hz,hf,N⟩,WY⟩:=Ht hr q;rw[hi]at jI;cases jI;obtain⟨zv,En⟩:=Hw N hn jw hl;have JN:∀v∈kC,v.oneCell'=true:=by
  intro v hv;obtain⟨i,jI⟩:=List.getElem?_of_mem hv;have eY:i<new.length:=by rw[<- fo hn];exact(aO.1 jI).1
  obtain⟨v',h1,C⟩:=gW hn i new[i] (au eY);rw[jI]at h1;cases h1;exact uH C (by rw[br]at JG;exact JG _ (bJ eY))
 obtain⟨w',e1,e2,e3,e4,e5,e6,e7⟩:=mZ (P:=P) (o:=s+o) kC 0 w c Y hf JN S;refine⟨w',e1,jf.write g gX ⟨_,K,OK hr⟩ hi e3 e4 e5 e6 e7 ?_⟩;exact xP ⟨_,el,fz,e2,by rw[jR S];exact hz,by rw[jR S];exact hf,xO JM En⟩ (WX WY)
theorem MO{b s:Nat}{cs new:ag}{kC:List Value}(g:Good E h w)(gX:m<gy)(K:h.get m=some (.cells cs))(hi:E.ι m=some (b,s))
  (hn:eC E new kC) (jw:0<new.length) (JG:new.all V.scalar=true) (hl:o+new.length<=cs.length):
  ∃w',(storeCells ⟨b,s+o,none⟩ kC).run P w= .ok () w'/\jf E h w E (h.set m (some (.cells (cs.take o++(new++cs.drop (o+new.length)))))) w':=
 wJ (r':=.vs (cs.take o++(new++cs.drop (o+new.length)))) g gX K rfl hi hn jw JG hl (je _) (fun _=>trivial)
theorem OP{a v:V}{a' v':Value}{h':I es}(g:Good E h w)(ha:eB E a a')(hv:eB E v v')(e:storeAt P t h v a=some h'):
  jX P E h n w (do Instr.storeAt t a' v';pure .skip) (.val (.gV []) h' n):=by
 unfold storeAt at e;split at e
 . rename_i m o;split at e
   . rename_i cs K;split at e
     . rename_i s hs;split at e
       . rename_i hq;obtain⟨h1,C,h3,h4⟩:=hq;split at e
         . rename_i cs' Ca;obtain rfl:=eU e;obtain⟨mg,rfl⟩:=zu Ca;obtain⟨b,R,hi,rfl⟩:=ha;have nQ:=iQ hv;obtain⟨w',hr,hu⟩:=MO (P:=P) g h3 K hi nQ S h4 mg;refine⟨E,w',undef,.inr ⟨?_,rfl⟩,⟨[],rfl,rfl⟩,hu,fun _ _=>rfl,.inl ⟨rfl,rfl⟩⟩;have mP:v'.cells.size=s:=by have:=fo nQ;simp at this;omega
           simp[Instr.storeAt,Instr.sureAddr,storeVar,fK hs,mP,hr]
         . cases e
       . cases e
     . cases e
   . rename_i k ks K;split at e
     . rename_i s hs;split at e
       . rename_i hq;obtain⟨h1,C,h3⟩:=hq;split at e
         . rename_i new qV;split at e
           . rename_i mg;obtain rfl:=eU e;have WZ:=rK qV;have VC:new.length=s:=by have:=aI List.length WZ;simp at this;omega
             obtain⟨b,R,hi,rfl⟩:=ha;have nQ:=iQ hv;obtain⟨w',hr,hu⟩:=wJ (P:=P) (o:=o) (r':=.is k (A6 ks o new)) g h3 K rfl hi nQ S (by rw[WZ];simp[V.scalar]) (by rw[WZ];simp[Row.kH];omega)
              (by rw[WZ];simp[Row.kH,A6,bM,dm,List.map_drop];exact je _) (fun _=>trivial)
             refine⟨E,w',undef,.inr ⟨?_,rfl⟩,⟨[],rfl,rfl⟩,hu,fun _ _=>rfl,.inl ⟨rfl,rfl⟩⟩;have mP:v'.cells.size=s:=by have:=fo nQ;simp at this;omega
             simp[Instr.storeAt,Instr.sureAddr,storeVar,fK hs,mP,hr]
           . cases e
         . cases e
       . cases e
     . cases e
   . rename_i cs K;split at e
     . rename_i s hs;split at e
       . rename_i hq;obtain⟨h1,C,h3⟩:=hq;split at e
         . rename_i new qV;split at e
           . rename_i mg;obtain rfl:=eU e;have VC:=uI qV;obtain⟨b,R,hi,rfl⟩:=ha;have nQ:=iQ hv;have hcn:eC E (D.fU new) v'.cells.toList:=xN qV E _ nQ;have SR:(D.fU new).length=s:=by rw[D.gq,bG];omega
             obtain⟨w',hr,hu⟩:=wJ (P:=P) (o:=o) (r:=.ds cs) (r':=.ds (nC cs o new)) g h3 K rfl hi hcn S (Aq (nM qV)) (by simp only[Row.kH,D.gq,bG];omega)
              (by simp[Row.kH,nC,D.gq,bM,dm,List.map_drop];exact je _)
              (fun hs x J=>by
               simp only[nC,bf]at J;rcases J with J|J|J
               . exact hs x (cN J)
               . exact nM qV x J
               . exact hs x (List.mem_of_mem_drop J))
             refine⟨E,w',undef,.inr ⟨?_,rfl⟩,⟨[],rfl,rfl⟩,hu,fun _ _=>rfl,.inl ⟨rfl,rfl⟩⟩;have mP:v'.cells.size=s:=by have:=fo nQ;simp at this;omega
             simp[Instr.storeAt,Instr.sureAddr,storeVar,fK hs,mP,hr]
           . cases e
         . cases e
       . cases e
     . cases e
   . rename_i fr self x0 K;split at e
     . rename_i x hs OQ;split at e
       . rename_i hq;obtain⟨rfl,h3,h4⟩:=hq;obtain rfl:=eU e;obtain⟨b,R,hi,rfl⟩:=ha;obtain⟨b',s,jI,h0,x0',fz,Y,oG,hf,hx0⟩:=g.rel m _ K;rw[hi]at jI;cases jI;subst h0;have nQ:=iQ hv;rw[OQ]at nQ;obtain⟨x',_,r1,lX,hl⟩:=nQ;simp only[eC]at lX;subst lX;have WZ:v'.cells=#[x']:=by apply Array.ext';rw[hl]
         obtain⟨w',e1,e2,e3,e4,e5,e6,e7⟩:=mZ (P:=P) (o:=0+1) [x'] 0 w _ Y hf (fun y hy=>by rw[aG]at hy;subst hy;exact uH r1 h4) (by simp);refine⟨E,w',undef,.inr ⟨?_,rfl⟩,⟨[],rfl,rfl⟩,jf.write g h3 ⟨_,K,rfl⟩ hi e3 e4 e5 e6 e7 ⟨rfl,x',fz,?_,oG,hf,r1⟩,fun _ _=>rfl,.inl ⟨rfl,rfl⟩⟩
         . have mP:v'.cells.size=1:=by rw[WZ];rfl
           have e1':(storeCells ⟨b,1,none⟩ v'.cells.toList).run P w= .ok () w':=by rw[WZ];simpa using e1
           simp[Instr.storeAt,Instr.sureAddr,storeVar,fK hs,mP,e1']
         . rw[e2];rfl
       . cases e
     . cases e
   . cases e
 . cases e
end
end ops
def As(E:Env):List (Nat×V)->List (Nat×Value)->Prop
 | [],l=>l=[]
 |x::xs,l=>∃y ys,y.1=x.1/\eB E x.2 y.2/\As E xs ys/\l=y::ys
theorem Eo(off:Nat):∀(vs:List Value) (k:Nat) (c:Array Value),off+k+vs.length<=c.size->
  (vs.zipIdx k).foldl (fun cs (x:Value×Nat)=>cs.setIfInBounds (off+x.2) x.1) c=putCells c (off+k) vs
 | [],k,c,_=>by simp[putCells]
 |v::vs,k,c,h=>by
  simp only[aR]at h;simp only[List.zipIdx_cons,List.foldl_cons];rw[Eo off vs (k+1) _ (by simp;omega)];have:off+(k+1)=off+k+1:=by omega
  rw[this,qW S]
theorem xQ{E:Env}{xF:Nat->Option (Nat×Nat)}:∀(parts:List (Nat×V)) (nR:List (Nat×Value)) (cells:ag) (pK:Array Value) (r:ag),
  rH xF cells parts=some r->eC E cells pK.toList->As E parts nR->∃r',Instr.fill xF pK nR=some r'/\eC E r r'.toList
 | [],_,cells,pK,r,e,N,hp=>by
   simp only[As]at hp;subst hp;simp only[rH,aq]at e;subst e;exact⟨pK,rfl,N⟩
 |(i,v)::rest,_,cells,pK,r,e,N,hp=>by
  obtain⟨⟨i',v'⟩,ys,q1,hv,hr,rfl⟩:=hp;simp only at q1 hv;subst q1;simp only[rH]at e;cases wh:xF i' with
  |none=>simp[wh]at e
  |some p=>
   obtain⟨off,size⟩:=p;simp only[wh]at e;split at e
   . rename_i mP;cases hs:BT cells off v.cells with
     |none=>simp[hs]at e
     |some W5=>
      simp only[hs]at e;obtain⟨mg,rfl⟩:=zu hs;have OQ:=iQ hv;have Fp:=fo OQ;have hlc:=fo N;simp only[Array.length_toList]at Fp hlc;have oK:v'.cells.zipIdx.foldl (fun cs (x:Value×Nat)=>cs.setIfInBounds (off+x.2) x.1) pK=putCells pK off v'.cells.toList:=by
       rw[<- Array.foldl_toList,Array.toList_zipIdx];exact Eo off v'.cells.toList 0 pK (by simp;omega)
      have aiI:eC E (cells.take off++(v.cells++cells.drop (off+v.cells.length))) (putCells pK off v'.cells.toList).toList:=by
       simp only[putCells];refine iY (B6 N) (iY OQ ?_);have:off+v'.cells.toList.length=off+v.cells.length:=by simp;omega
       rw[this];exact B7 N
      obtain⟨r',h1,C⟩:=xQ rest ys _ _ r e aiI hr;refine⟨r',?_,C⟩;simp only[Instr.fill,wh];rw[aA (by simp;omega)];rw[<- h1,<- oK]
   . cases e
theorem uK{P:Program}:∀(fs:List Field) (uy:List (Nat×Nat)),sN P fs=some uy->
  fs.mapM (fun f=>(P.info? f.type).map fun i=>(f.offset,i.size))=some uy
 | [],uy,h=>by simp[sN]at h;subst h;rfl
 |f::fs,uy,h=>by
  simp only[sN,ko]at h;cases hi:P.info? f.type with
  |none=>simp[hi]at h
  |some i=>
   simp only[hi,bu]at h;cases hr:sN P fs with
   |none=>simp[hr]at h
   |some r=>
    simp only[hr,aq]at h;subst h;simp[List.mapM_cons,hi,uK fs r hr]
theorem At{z:ag}(hz:0<z.length):∀(n i:Nat),(iA z n)[i]? =if i<n*z.length then z[i%z.length]? else none
 |0,i=>by simp[iA]
 |n+1,i=>by
  simp only[iA,List.getElem?_append];by_cases h:i<z.length
  . rw[aD h,aD (by rw[dh];omega),Nat.mod_eq_of_lt h]
  . rw[aA h,At hz n,dh,Nat.one_mul];have:(i-z.length)%z.length=i%z.length:=by rw[Nat.mod_eq_sub_mod (a:=i) S]
    rw[this];by_cases C:i-z.length<n*z.length
    . rw[aD C,aD S]
    . rw[aA C,aA S]
theorem pU{z:ag}:∀n,(iA z n).length=n*z.length
 |0=>by simp[iA]
 |n+1=>by simp[iA,pU n,dh];omega
theorem Cb{E:Env}{z:ag}{z':Array Value}(hz:eC E z z'.toList)(h0:0<z.length)(n:Nat):
  eC E (iA z n) ((Array.range (n*z.length)).map (z'[·%z'.size]!)).toList:=by
 have hl:z'.size=z.length:=by have:=fo hz;simpa using this
 refine jM (by simp[pU]) fun i v q=>?_;rw[At h0]at q;split at q
 . rename_i hi;obtain⟨v',h1,C⟩:=gW hz _ v q;refine⟨v',?_,C⟩;have eY:i%z'.size<z'.size:=Nat.mod_lt _ S;rw[bP]at h1;have oF:z'[i%z'.size]? =some v':=by rw[hl];exact h1
   rw[bP,Array.getElem?_map];rw[Array.getElem?_range];rw[aD hi];simp only[bu];rw[getElem!_pos z' _ eY];rw[aY eY]at oF;exact oF
 . cases q
theorem wK{s:Sem Value}{v:V}(e:sO s=some v):∃v',s= .pure v'/\∀E,eB E v v':=by
 cases s with
 |pure v'=>exact⟨v',rfl,fun E=>sS e⟩
 |_=>simp[sO]at e
theorem kD:∀(a b:aa),mM a b=(a==b)
 | [],[]=>rfl
 | [],_::_=>rfl
 |_::_,[]=>rfl
 |a::x,b::y=>by
  simp only[mM];by_cases h:a=b
  . subst h;have:Nat.beq a.toNat a.toNat=true:=Nat.beq_refl _;rw[this];simp[kD x y]
  . have:Nat.beq a.toNat b.toNat=false:=by
     cases hh:Nat.beq a.toNat b.toNat with
     |false=>rfl
     |true=>exact absurd (UInt8.toNat_inj.1 (aJ hh)) h
    rw[this];have hab:(a==b)=false:=by simpa using h
    simp[hab]
theorem rO(a b:aa):((⟨a.toArray⟩:ByteArray)==⟨b.toArray⟩)=mM a b:=by
 rw[kD,beq_toListBytes,ByteArray.toList_eq,ByteArray.toList_eq]
theorem sV(a b:aa):((⟨a.toArray⟩:ByteArray).toList==(⟨b.toArray⟩:ByteArray).toList)=mM a b:=by
 rw[<- rO,beq_toListBytes]
section ops
variable{P:Program}{E:Env}{h:I es}{n:Nat}{w:World}
theorem MP{t:TypeId}{parts:List (Nat×V)}{nR:Array (Nat×Value)}{v:V}(hp:As E parts nR.toList)(e:JA P t parts=some v):
  ∃v',(Instr.build t nR).run P w= .ok v' w/\eB E v v':=by
 unfold JA at e;split at e
 . rename_i z lT hz hu;obtain⟨z',_,hv,i,hi,hiz⟩:=lC (w:=w) E hz;cases hs:sN P lT.toList with
   |none=>simp[hs]at e
   |some uy=>
    simp only[hs]at e;cases hf:rH (fun i=>uy[i]?) z.cells parts with
    |none=>simp[hf]at e
    |some cs=>
     simp only[hf,bu,aq]at e;subst e;obtain⟨r',h1,C⟩:=xQ parts nR.toList z.cells z'.cells cs hf (iQ hv) hp;refine⟨.agg r',run_build w t nR r' ?_,r'.toList,C,by simp⟩;simp only[Program.built,hi,hu,hiz,uK _ _ hs];simpa using h1
 . rename_i z m SO hz hu;obtain⟨z',_,hv,i,hi,hiz⟩:=lC (w:=w) E hz;cases hs:ko P SO with
   |none=>simp[hs]at e
   |some s=>
    simp only[hs]at e;cases hf:rH (fun i=>some (i*s,s)) z.cells parts with
    |none=>simp[hf]at e
    |some cs=>
     simp only[hf,bu,aq]at e;subst e;obtain⟨r',h1,C⟩:=xQ parts nR.toList z.cells z'.cells cs hf (iQ hv) hp;refine⟨.agg r',run_build w t nR r' ?_,r'.toList,C,by simp⟩;unfold ko at hs;cases hie:P.info? SO with
     |none=>simp[hie]at hs
     |some ie=>
      simp only[hie,bu,aq]at hs;simp only[Program.built,hi,hu,hiz,hie,hs];exact h1
 . cases e
theorem DR{t:TypeId}{len:Nat}{parts:List (Nat×V)}{nR:Array (Nat×Value)}{r:s'}(g:Good E h w)(hn:E.ι n=none)(hp:As E parts nR.toList)
  (e:og P t len parts h n=some r):jX P E h n w (do pure (.value (<- Instr.buildSlice t len nR))) r:=by
 unfold og at e;cases he:uz P t with
 |none=>simp[he]at e
 |some el=>
  simp only[he]at e;cases hs:ko P el with
  |none=>simp[hs]at e
  |some s=>
   cases hz:zeroOf P el with
   |none=>simp[hs,hz]at e
   |some z=>
    simp only[hs,hz]at e;split at e
    . rename_i hq;obtain⟨JO,oq,hzl⟩:=hq;cases hf:rH (fun i=>some (i*s,s)) (iA z.cells len) parts with
      |none=>simp[hf]at e
      |some cs=>
       simp only[hf]at e;cases ho:newObj h n (.cells cs)with
       |none=>simp[ho]at e
       |some x=>
        obtain⟨h',n'⟩:=x;simp only[ho,aq]at e;subst e;obtain⟨z',hzr,hzv,_⟩:=lC (w:=w) E hz;have hzc:=iQ hzv;have OR:=Cb hzc S len;rw[hzl]at OR;obtain⟨r',h1,C⟩:=xQ parts nR.toList _ _ cs hf OR hp;have hu:P.underlying t=some (.slice el):=by
         unfold uz at he;split at he
         . rename_i q;simp at he;subst he;exact q
         . cases he
        have jl:r'.size=len*s:=by
         have a:=fo C;have b:cs.length=(iA z.cells len).length:=xS _ _ _ _ hf;rw[pU,hzl]at b;simpa[b]using a
        refine zo (c:=r') (el:=el) (w1:=w) (v':=.slice (some ⟨w.heap.size,0,none⟩) len len) g hn ho rfl rfl rfl rfl ?_ (oc C) ?_
        . simp only[Instr.buildSlice,Sem.run_bind,eo hu,Result.andThen_ok,fK hs];rw[aA (show ¬(len*s>2^24)by omega)];by_cases q0:len*s=0
          . have tQ:(Array.range (len*s)).map (fun x=>(#[]:Array Value)[x%(#[]:Array Value).size]!)=(Array.range (len*s)).map (z'.cells[·%z'.cells.size]!):=by rw[q0];simp
            rw[aD q0];simp only[Sem.run_bind,Sem.run_pure,Result.andThen_ok];rw[tQ,h1];simp[newRow]
          . rw[aA q0];simp only[Sem.run_bind,Sem.run_pure,Result.andThen_ok,hzr];rw[h1];simp[newRow]
        . refine⟨w.heap.size,0,0,len,Env.ga,fun _=>by simp,aK _,aK _,?_,rfl⟩;simp[Env.put,jl]
    . cases e
where
 xS (xF:Nat->Option (Nat×Nat)):∀(parts:List (Nat×V)) (cells r:ag),rH xF cells parts=some r->r.length=cells.length
  | [],cells,r,e=>by simp only[rH,aq]at e;rw[e]
  |(i,v)::rest,cells,r,e=>by
   simp only[rH]at e;split at e
   . cases e
   . split at e
     . split at e
       . rename_i W5 hs;obtain⟨mg,rfl⟩:=zu hs;rw[xS xF rest _ r e];simp;omega
       . cases e
     . cases e
end ops
section
variable{P:Program}{E:Env}{h:I es}{n:Nat}{w:World}
theorem rP{t:TypeId}{cs:ag}{cs':Array Value}{off:Nat}{v:V}(r:eC E cs cs'.toList)(e:oh P t cs off=some v):
  ∃v',(part t cs' off).run P w= .ok v' w/\eB E v v':=by
 unfold oh kV at e;have hl:=fo r;simp only[Array.length_toList]at hl;split at e
 . rename_i ha;cases hs:ko P t with
   |none=>simp[hs]at e
   |some k=>
    simp only[hs]at e;cases N:cut cs off k with
    |none=>simp[N]at e
    |some x=>
     simp only[N,bu,aq]at e;subst e;obtain⟨h1,rfl⟩:=zq N;refine⟨.agg (cs'.extract off (off+k)),by simp[part,rN ha,fK hs],(cs'.toList.drop off).take k,B6 (B7 r),?_⟩;congr 1;apply Array.ext';simp[List.extract_eq_take_drop]
 . rename_i ha;obtain⟨v',h1,C⟩:=gW r off v e;refine⟨v',?_,C⟩;rw[bP]at h1;simp[part,rN ha,h1]
 . cases e
end
def V.tag:V->Nat
 | .bool _=>0 | .int _ _=>1 | .str _=>2 | .ptr _=>3 | .eZ _ _ _ _=>4 | .map _=>5 | .fn _ _ _=>6 | .kI=>7 | .iface _ _=>8 | .nilIface=>9 | .agg _=>10 | .gV _=>11 | .eE _ _ _=>4 | .dS _=>3
def xT:Value->Nat
 | .bool _=>0 | .int _ _=>1 | .string _=>2 | .pointer _=>3 | .slice _ _ _=>4 | .map _=>5 | .func _ _ _=>6 | .nilFunc=>7 | .iface _ _=>8 | .nilIface=>9 | .agg _=>10 | .tuple _=>11
 | .float _ _=>12 | .complex _ _ _=>13 | .chan _=>14
theorem rQ{E:Env}:∀{x:V} {v:Value},eB E x v->x.tag=xT v:=by
 intro x v r;cases x with
 |agg cs=>obtain⟨cs',_,rfl⟩:=r;rfl
 |gV cs=>obtain⟨cs',_,rfl⟩:=r;rfl
 |bool b=>simp only[eB]at r;subst r;rfl
 |int k n=>simp only[eB]at r;subst r;rfl
 |str s=>simp only[eB]at r;subst r;rfl
 |ptr a=>cases a<;>simp only[eB]at r;. subst r;rfl
         . obtain⟨b,s,_,rfl⟩:=r;rfl
 |eZ a l c e=>cases a<;>simp only[eB]at r;. obtain⟨_,_,rfl⟩:=r;rfl
              . obtain⟨b,s,_,_,_,_,_,_,_,rfl⟩:=r;rfl
 |map a=>cases a<;>simp only[eB]at r;. subst r;rfl
         . obtain⟨b,_,rfl⟩:=r;rfl
 |fn f a c=>obtain⟨_,_,_,_,_,_,rfl⟩:=r;rfl
 |kI=>simp only[eB]at r;subst r;rfl
 |iface t x=>obtain⟨_,_,rfl⟩:=r;rfl
 |nilIface=>simp only[eB]at r;subst r;rfl
 |eE f n cs=>obtain⟨⟨_,_,_,rfl,_⟩,_⟩:=r;rfl
 |dS cs=>obtain⟨_,_,_,_,rfl,_⟩:=r;rfl
theorem xU{E:Env}{x:V}{k:IntKind}{m:Int}(r:eB E x (.int k m)):x= .int k m:=by
 have t:=rQ r;cases x<;>simp[V.tag,xT]at t;simp only[eB]at r;cases r;rfl
theorem xV{E:Env}{x:V}{s:ByteArray}(r:eB E x (.string s)):∃l,x= .str l:=by
 have t:=rQ r;cases x<;>simp[V.tag,xT]at t;exact⟨_,rfl⟩
theorem DS{E:Env}{x:V}{k:FloatKind}{m:Nat}(r:eB E x (.float k m)):False:=by
 have t:=rQ r;cases x<;>simp[V.tag,xT]at t
theorem A9{E:Env}{x:V}{k:FloatKind}{m m':Nat}(r:eB E x (.complex k m m')):False:=by
 have t:=rQ r;cases x<;>simp[V.tag,xT]at t
theorem OS{E:Env}{x y:V}{x' y':Value}{t:TypeId}(rx:eB E x x')(ry:eB E y y')(hi:∀k m k' m',¬(x= .int k m/\y= .int k' m'))(hs:∀s u,¬(x= .str s/\y= .str u)):
  binOp .eql t x' y'=(do pure (.bool (<- Op.equal t x' y')))/\binOp .neq t x' y'=(do pure (.bool (!(<- Op.equal t x' y')))):=by
 cases x'<;>cases y'<;>first
  |exact⟨rfl,rfl⟩
  |exact absurd ⟨xU rx,xU ry⟩ (hi _ _ _ _)
  |exact(DS rx).elim
  |exact(A9 rx).elim
  |(obtain⟨l,e1⟩:=xV rx;obtain⟨l',e2⟩:=xV ry;exact absurd ⟨e1,e2⟩ (hs _ _))
section
variable{P:Program}{E:Env}{h:I es}{n:Nat}{w:World}
theorem sW{d:Nat}{eq:TypeId->V->V->Option Bool}(ih:∀t x y x' y' r,eq t x y=some r->eB E x x'->eB E y y'->(Op.equalIn d t x' y').run P w= .ok r w)
  {xs ys:ag} {yZ El:Array Value} (rx:eC E xs yZ.toList) (ry:eC E ys El.toList):∀(fs:List Field) (r:Bool),eqFields P eq fs xs ys=some r->(Op.eqFields d yZ El fs).run P w= .ok r w
 | [],r,e=>by simp only[eqFields,aq]at e;subst e;rfl
 |f::fs,r,e=>by
  simp only[eqFields]at e;simp only[Op.eqFields];split at e
  . rename_i jw;rw[aD jw];cases h1:oh P f.type xs f.offset with
    |none=>simp[h1]at e
    |some a=>cases C:oh P f.type ys f.offset with
     |none=>simp[h1,C]at e
     |some b=>
      simp only[h1,C]at e;obtain⟨a',p1,p2⟩:=rP (P:=P) (w:=w) rx h1;obtain⟨b',q1,q2⟩:=rP (P:=P) (w:=w) ry C;cases h3:eq f.type a b with
      |none=>simp[h3]at e
      |some c=>
       have hr:=ih _ _ _ _ _ _ h3 p2 q2;simp only[Sem.run_bind,p1,q1,Result.andThen_ok,hr];cases c with
       |false=>simp only[h3,aq]at e;subst e;simp
       |true=>simp only[h3]at e;simp only[Bool.not_true,aM,cA];exact sW ih rx ry fs r e
  . rename_i jw;rw[aA jw];exact sW ih rx ry fs r e
theorem Au{d c:Nat}{el:TypeId}{eq:V->V->Option Bool}(ih:∀x y x' y' r,eq x y=some r->eB E x x'->eB E y y'->(Op.equalIn d el x' y').run P w= .ok r w)
  {xs ys:ag} {yZ El:Array Value} (rx:eC E xs yZ.toList) (ry:eC E ys El.toList):∀(is:List Nat) (r:Bool),om P eq el c xs ys is=some r->(Op.eqItems d el c yZ El is).run P w= .ok r w
 | [],r,e=>by simp only[om,aq]at e;subst e;rfl
 |i::is,r,e=>by
  simp only[om]at e;simp only[Op.eqItems];cases h1:oh P el xs (i*c)with
  |none=>simp[h1]at e
  |some a=>cases C:oh P el ys (i*c)with
   |none=>simp[h1,C]at e
   |some b=>
    simp only[h1,C]at e;obtain⟨a',p1,p2⟩:=rP (P:=P) (w:=w) rx h1;obtain⟨b',q1,q2⟩:=rP (P:=P) (w:=w) ry C;cases h3:eq a b with
    |none=>simp[h3]at e
    |some q=>
     have hr:=ih _ _ _ _ _ h3 p2 q2;simp only[Sem.run_bind,p1,q1,Result.andThen_ok,hr];cases q with
     |false=>simp only[h3,aq]at e;subst e;simp
     |true=>simp only[h3]at e;simp only[Bool.not_true,aM,cA];exact Au ih rx ry is r e
theorem Fq:∀(d:Nat) (t:TypeId) (x y:V) (x' y':Value) (r:Bool),Ej P d t x y=some r->eB E x x'->eB E y y'->(Op.equalIn d t x' y').run P w= .ok r w:=by
 intro d
 induction d with
 |zero=>intro t x y x' y' r e;simp[Ej]at e
 |succ d ih=>
  intro t x y x' y' r e rx ry;simp only[Ej]at e;split at e
  . rename_i hu;split at e
    . simp only[eB]at rx ry;subst rx;subst ry;obtain rfl:=eU e;simp[Op.equalIn,eo hu]
    . cases e
  . rename_i hu;split at e
    . simp only[eB]at rx ry;subst rx;subst ry;split at e
      . rename_i U;subst U;obtain rfl:=eU e;simp[Op.equalIn,eo hu]
      . cases e
    . cases e
  . rename_i hu;split at e
    . simp only[eB]at rx ry;subst rx;subst ry;obtain rfl:=eU e;simp only[Op.equalIn,Sem.run_bind,eo hu,Result.andThen_ok,Sem.run_pure];rw[rO]
    . cases e
  . rename_i hu;split at e
    . rename_i b;simp only[eB]at rx;subst rx;obtain rfl:=eU e;cases b with
      |none=>simp only[eB]at ry;subst ry;simp[Op.equalIn,eo hu]
      |some p=>obtain⟨_,_,_,rfl⟩:=ry;simp[Op.equalIn,eo hu]
    . rename_i p;obtain rfl:=eU e;obtain⟨_,_,_,rfl⟩:=rx;simp only[eB]at ry;subst ry;simp[Op.equalIn,eo hu]
    . split at e
      . rename_i hmm;obtain⟨⟨rfl,rfl⟩,mP⟩:=hmm;obtain rfl:=eU e;obtain⟨b,s,h1,rfl⟩:=rx;obtain⟨b',R,C,rfl⟩:=ry;rw[h1]at C;cases C;obtain⟨z,hz⟩:=bI.1 mP;simp only[Op.equalIn,Sem.run_bind,eo hu,Result.andThen_ok,fK hz];by_cases Lw:z=0
        . simp[Lw]
        . simp[Lw,sameAddr]
      . cases e
    . obtain rfl:=eU e;simp only[eB]at rx;subst rx;obtain⟨_,_,_,_,rfl,_⟩:=ry;simp[Op.equalIn,eo hu]
    . obtain rfl:=eU e;obtain⟨_,_,_,_,rfl,_⟩:=rx;simp only[eB]at ry;subst ry;simp[Op.equalIn,eo hu]
    . cases e
  . rename_i hu;split at e
    . simp only[eB]at rx ry;subst rx;subst ry;obtain rfl:=eU e;simp[Op.equalIn,eo hu]
    . simp only[eB]at rx;subst rx;obtain⟨_,_,rfl⟩:=ry;obtain rfl:=eU e;simp[Op.equalIn,eo hu]
    . simp only[eB]at ry;subst ry;obtain⟨_,_,rfl⟩:=rx;obtain rfl:=eU e;simp[Op.equalIn,eo hu]
    . cases e
  . rename_i lT hu;split at e
    . split at e
      . cases e
      . rename_i vt;obtain⟨yZ,W6,rfl⟩:=rx;obtain⟨El,W7,rfl⟩:=ry;have hf:P.fieldsOf t=lT:=by simp[Program.fieldsOf,hu]
        rw[run_equalIn_struct w d t _ _ (by rw[hf];exact hu) (by simpa using vt),hf];exact sW (fun u a b a' b' r e ra rb=>ih u a b a' b' r e ra rb) (by simpa using W6) (by simpa using W7) _ _ e
    . cases e
  . rename_i hu;split at e
    . rename_i b _ _ _;obtain⟨_,_,rfl⟩:=rx;obtain rfl:=eU e;cases b with
      |none=>obtain⟨_,_,rfl⟩:=ry;simp[Op.equalIn,eo hu]
      |some p=>obtain⟨_,_,_,_,_,_,_,_,_,rfl⟩:=ry;simp[Op.equalIn,eo hu]
    . obtain rfl:=eU e;obtain⟨_,_,_,_,_,_,_,_,_,rfl⟩:=rx;obtain⟨_,_,rfl⟩:=ry;simp[Op.equalIn,eo hu]
    . split at e
      . obtain rfl:=eU e;obtain⟨⟨a,jQ,vs,rfl,_,_,_,h1⟩,_⟩:=rx;obtain⟨_,_,_,rfl,_⟩:=h1 (Nat.succ_pos _);obtain⟨_,_,rfl⟩:=ry;simp[Op.equalIn,eo hu]
      . cases e
    . cases e
  . rename_i hu;split at e
    . rename_i b;simp only[eB]at rx;subst rx;obtain rfl:=eU e;cases b with
      |none=>simp only[eB]at ry;subst ry;simp[Op.equalIn,eo hu]
      |some p=>obtain⟨_,_,rfl⟩:=ry;simp[Op.equalIn,eo hu]
    . obtain rfl:=eU e;obtain⟨_,_,rfl⟩:=rx;simp only[eB]at ry;subst ry;simp[Op.equalIn,eo hu]
    . cases e
  . rename_i m el hu;split at e
    . split at e
      . rename_i hi;obtain⟨i,hi⟩:=bI.1 hi;obtain⟨yZ,W6,rfl⟩:=rx;obtain⟨El,W7,rfl⟩:=ry;rw[run_equalIn_array w d yZ.toArray El.toArray hu hi];exact Au (fun a b a' b' r e ra rb=>ih el a b a' b' r e ra rb) (by simpa using W6) (by simpa using W7) _ _ e
      . cases e
    . cases e
  . cases e
end
section
variable{P:Program}{E:Env}{h:I es}{n:Nat}{w:World}
theorem Cc:∀s u:aa,OA s u=Op.bytesLess s u
 |_,[]=>by cases ‹aa›<;>rfl
 | [],_::_=>rfl
 |a::x,b::y=>by
  simp only[OA,Op.bytesLess];have h1:(a<b)↔a.toNat<b.toNat:=UInt8.lt_iff_toNat_lt;have C:(a=b)↔a.toNat=b.toNat:=UInt8.toNat_inj.symm;rcases Nat.lt_trichotomy a.toNat b.toNat with h|h|h
  . have:Nat.blt a.toNat b.toNat=true:=Nat.ble_eq_true_of_le h;rw[this];simp[h1.2 h]
  . have e1:Nat.blt a.toNat b.toNat=false:=by cases q:Nat.blt a.toNat b.toNat with|false=>rfl|true=>exact absurd (aE q) S
    have e2:Nat.beq a.toNat b.toNat=true:=by rw[h];exact Nat.beq_refl _
    have e3:¬a<b:=fun q=>by have:=h1.1 q;omega
    have e4:a=b:=C.2 h;rw[e1,e2];simp only[Cc x y,e4];simp
  . have e1:Nat.blt a.toNat b.toNat=false:=by cases q:Nat.blt a.toNat b.toNat with|false=>rfl|true=>exact absurd (aE q) S
    have e2:Nat.beq a.toNat b.toNat=false:=by cases q:Nat.beq a.toNat b.toNat with|false=>rfl|true=>exact absurd (aJ q) S
    have e3:¬a<b:=fun q=>by have:=h1.1 q;omega
    have e4:¬a=b:=fun q=>by have:=C.1 q;omega
    rw[e1,e2];simp[e3,e4]
theorem vu(s:aa):(⟨s.toArray⟩:ByteArray).toList=s:=by rw[ByteArray.toList_eq]
theorem OT{op:BinOp}{t:TypeId}{x y:Operand}{a b v:V}{a' b':Value}(g:Good E h w)(ra:eB E a a')(rb:eB E b b')(e:BV P op t x y a b=some v):
  jX P E h n w (do pure (.value (<- (do eqGuard op t x y a' b';binOp op t a' b')))) (.val v h n):=by
 unfold BV at e;split at e
 . rename_i k m k' m';simp only[eB]at ra rb;subst ra;subst rb;obtain⟨v',q1,q2⟩:=wK e;refine eL g (v':=v') ?_ (q2 E);have hg:(eqGuard op t x y (.int k m) (.int k' m')).run P w= .ok () w:=by cases op<;>rfl
   simp only[Sem.run_bind,hg,Result.andThen_ok,q1];rfl
 . rename_i s u;simp only[eB]at ra rb;subst ra;subst rb;have hg:(eqGuard op t x y (.string ⟨s.toArray⟩) (.string ⟨u.toArray⟩)).run P w= .ok () w:=by cases op<;>rfl
   cases op<;>simp only[OB]at e<;>first
    |(cases e;done)
    |skip
   . split at e
     . rename_i hl;obtain rfl:=eU e;refine eL g (v':=.string (⟨s.toArray⟩++⟨u.toArray⟩)) ?_ ?_
       . have mP:¬(((ByteArray.size ⟨s.toArray⟩+ByteArray.size ⟨u.toArray⟩:Nat):Int)>IntKind.i64.max):=by
          have:(IntKind.i64.max:Int)=9223372036854775807:=by decide
          rw[this];show ¬(((s.toArray.size+u.toArray.size:Nat):Int)>9223372036854775807);unfold wD at hl;simp only[List.size_toArray];omega
         simp only[Sem.run_bind,hg,Result.andThen_ok,binOp,Op.stringOp];rw[aA mP];rfl
       . show Value.string _= .string ⟨(s++u).toArray⟩;congr 1
     . cases e
   . obtain rfl:=eU e;refine eL g (v':=.bool (mM s u)) ?_ rfl;simp only[Sem.run_bind,hg,Result.andThen_ok,binOp,Op.stringOp,sV];rfl
   . obtain rfl:=eU e;refine eL g (v':=.bool (!mM s u)) ?_ rfl;simp only[Sem.run_bind,hg,Result.andThen_ok,binOp,Op.stringOp,sV];rfl
   . obtain rfl:=eU e;refine eL g (v':=.bool (OA s u)) ?_ rfl;simp only[Sem.run_bind,hg,Result.andThen_ok,binOp,Op.stringOp,Cc,vu];rfl
   . obtain rfl:=eU e;refine eL g (v':=.bool (OA s u||mM s u)) ?_ rfl;simp only[Sem.run_bind,hg,Result.andThen_ok,binOp,Op.stringOp,sV,kD,Cc,vu];rfl
   . obtain rfl:=eU e;refine eL g (v':=.bool (!(OA s u||mM s u))) ?_ rfl;simp only[Sem.run_bind,hg,Result.andThen_ok,binOp,Op.stringOp,sV,kD,Cc,vu];rfl
   . obtain rfl:=eU e;refine eL g (v':=.bool (!OA s u)) ?_ rfl;simp only[Sem.run_bind,hg,Result.andThen_ok,binOp,Op.stringOp,Cc,vu];rfl
 . rename_i hni Jq;have Y:=OS (t:=t) ra rb (fun k m k' m' q=>hni k m k' m' q.1 q.2) (fun s u q=>Jq s u q.1 q.2);have vO:∀r,DP P t x y a b=some r->∀op,(op= .eql\/op= .neq)->(eqGuard op t x y a' b').run P w= .ok () w/\(Op.equal t a' b').run P w= .ok r w:=by
    intro r er op pV;unfold DP at er;split at er
    . simp only[eB]at ra rb;subst ra;subst rb;split at er
      . rename_i aiL;refine⟨?_,Fq (E:=E) 10000 t _ _ _ _ r er rfl rfl⟩;clear Y e;rcases pV with rfl|rfl<;>cases x<;>cases y<;>first
         |rfl
         |(simp only[isLit,Bool.or_self,aM]at aiL)
      . cases er
    . split at er
      . cases er
      . rename_i hg;obtain⟨yZ,rx,rfl⟩:=ra;obtain⟨El,ry,rfl⟩:=rb;refine⟨run_eqGuard_agg w op t x y _ _ (by simpa using hg),Fq 10000 t _ _ _ _ r er ⟨yZ,rx,rfl⟩ ⟨El,ry,rfl⟩⟩
    . rename_i Hx qX;refine⟨?_,Fq 10000 t _ _ _ _ r er ra rb⟩;have t1:=rQ ra;have t2:=rQ rb;rcases pV with rfl|rfl<;>cases a'<;>first
       |rfl
       |(cases b'<;>first
        |rfl
        |(exfalso;cases a<;>simp[V.tag,xT]at t1;cases b<;>simp[V.tag,xT]at t2;exact Hx rfl rfl)
        |(exfalso;cases a<;>simp[V.tag,xT]at t1;cases b<;>simp[V.tag,xT]at t2;exact qX _ _ rfl rfl))
   split at e
   . cases hq:DP P t x y a b with
     |none=>simp[hq]at e
     |some r=>
      simp only[hq,bu,aq]at e;subst e;obtain⟨m1,m2⟩:=vO r hq .eql (.inl rfl);refine eL g (v':=.bool r) ?_ rfl;simp only[Sem.run_bind,m1,Result.andThen_ok,Y.1,m2,Sem.run_pure]
   . cases hq:DP P t x y a b with
     |none=>simp[hq]at e
     |some r=>
      simp only[hq,bu,aq]at e;subst e;obtain⟨m1,m2⟩:=vO r hq .neq (.inr rfl);refine eL g (v':=.bool (!r)) ?_ rfl;simp only[Sem.run_bind,m1,Result.andThen_ok,Y.2,m2,Sem.run_pure]
   . cases e
section
variable{t:TypeId}{f:Nat}{x i:V}
theorem SS{op:UnOp}{x v:V}{x':Value}(g:Good E h w)(r:eB E x x')(e:unV op x=some v):jX P E h n w (do pure (.value (<- Op.unary op x'))) (.val v h n):=by
 unfold unV at e;split at e
 . simp only[eB]at r;subst r;obtain⟨v',q1,q2⟩:=wK e;exact eL g (v':=v') (by rw[q1];rfl) (q2 E)
 . simp only[eB]at r;subst r;obtain⟨v',q1,q2⟩:=wK e;exact eL g (v':=v') (by rw[q1];rfl) (q2 E)
 . cases e
theorem Hy{e:TypeId}(q:uz P t=some e):P.underlying t=some (.slice e):=by
 unfold uz at q;split at q
 . rename_i hu;simp at q;subst q;exact hu
 . cases q
theorem Fs{v:V}{x':Value}(g:Good E h w)(r:eB E x x')(e:wE P t f x=some v):
  jX P E h n w (do pure (.value (<- Instr.fieldAt t x' f))) (.val v h n):=by
 unfold wE at e;split at e
 . rename_i m o;split at e
   . rename_i fs hu;split at e
     . rename_i fd hf;split at e
       . rename_i k U;obtain rfl:=eU e;obtain⟨b,s,hi,rfl⟩:=r;refine eL g (v':=.pointer (some ⟨b,s+(o+fd.offset),none⟩)) ?_ ⟨b,s,hi,rfl⟩;simp[Instr.fieldAt,eo hu,hf,Instr.sureAddr,fieldPlace,fK U,Addr.ji,Nat.add_assoc]
       . cases e
     . cases e
   . cases e
 . rename_i cs;split at e
   . rename_i fs hu;split at e
     . rename_i fd hf;split at e
       . rename_i k U;obtain rfl:=eU e;obtain⟨b,o,c,vs,rfl,DQ,hd,N⟩:=r;refine eL g (v':=.pointer (some ⟨b,o+fd.offset,none⟩)) ?_ ⟨b,_,c,vs.drop fd.offset,rfl,DQ,pP hd,fun j w q=>?_⟩
         . simp[Instr.fieldAt,eo hu,hf,Instr.sureAddr,fieldPlace,fK U,Addr.ji]
         . rw[bX]at q;rw[<- N _ w q,Nat.add_assoc]
       . cases e
     . cases e
   . cases e
 . cases e
theorem OU{v:V}{x':Value}(g:Good E h w)(r:eB E x x')(e:JB P t f x=some v):
  jX P E h n w (do pure (.value (<- Instr.field t x' f))) (.val v h n):=by
 unfold JB at e;split at e
 . split at e
   . rename_i fs hu;split at e
     . rename_i fd hf;obtain⟨cs',rc,rfl⟩:=r;obtain⟨v',h1,C⟩:=rP (P:=P) (w:=w) (cs':=cs'.toArray) (by simpa using rc) e;refine eL g (v':=v') ?_ C;simp[Instr.field,eo hu,hf,asAgg,h1]
     . cases e
   . cases e
 . cases e
theorem Ft{v:V}{x' i':Value}(g:Good E h w)(r:eB E x x')(ri:eB E i i')(e:mz P t x i=some v):
  jX P E h n w (do pure (.value (<- Instr.indexAt t x' i'))) (.val v h n):=by
 unfold mz at e;split at e
 . rename_i k i;simp only[eB]at ri;subst ri;split at e
   . rename_i len el m o hu;split at e
     . rename_i s hs;split at e
       . rename_i Y;obtain rfl:=eU e;obtain⟨b,sh,hi,rfl⟩:=r;refine eL g (v':=.pointer (some ⟨b,sh+(o+i.toNat*s),none⟩)) ?_ ⟨b,sh,hi,rfl⟩;simp[Instr.indexAt,asIntOf,eo hu,Instr.sureAddr,Y.1,Y.2,fK hs,Addr.ji,Nat.add_assoc]
       . cases e
     . cases e
   . rename_i el m o len jQ kY hu;split at e
     . rename_i s hs;split at e
       . rename_i Y;obtain⟨h1,C,h3⟩:=Y;obtain rfl:=eU e;obtain⟨b,sh,o',gP,hi,q1,q2,q3,q4,rfl⟩:=r;have ho:o'=sh+o:=q1 S;subst ho;refine eL g (v':=.pointer (some ⟨b,sh+(o+i.toNat*s),none⟩)) ?_ ⟨b,sh,hi,rfl⟩;simp[Instr.indexAt,asIntOf,eo hu,h1,C,fK hs,Addr.ji,Nat.add_assoc]
       . cases e
     . cases e
   . rename_i el f len cs hu;split at e
     . rename_i s hs;split at e
       . rename_i Y;obtain⟨⟨h1,C⟩,h3⟩:=Y;obtain rfl:=eU e;obtain⟨⟨a,jQ,vs,rfl,oq,hd,h0,uL⟩,_⟩:=r;obtain⟨b,o,c,rfl,DQ,N⟩:=uL S;refine eL g (v':=.pointer (some ⟨b,o+i.toNat*s,none⟩)) ?_ ⟨b,_,c,(vs.drop (i.toNat*s)).take s,rfl,DQ,wH (pP hd),fun j w q=>?_⟩
         . simp[Instr.indexAt,asIntOf,eo hu,h1,C,fK hs,Addr.ji]
         . rw[bW]at q;split at q
           . rw[bX]at q;rw[<- N _ w q,Nat.add_assoc]
           . cases q
       . cases e
     . cases e
   . rename_i len el cs hu;split at e
     . rename_i s hs;split at e
       . rename_i Y;obtain rfl:=eU e;obtain⟨b,o,c,vs,rfl,DQ,hd,N⟩:=r;refine eL g (v':=.pointer (some ⟨b,o+i.toNat*s,none⟩)) ?_ ⟨b,_,c,vs.drop (i.toNat*s),rfl,DQ,pP hd,fun j w q=>?_⟩
         . simp[Instr.indexAt,asIntOf,eo hu,Instr.sureAddr,Y.1,Y.2,fK hs,Addr.ji]
         . rw[bX]at q;rw[<- N _ w q,Nat.add_assoc]
       . cases e
     . cases e
   . cases e
 . cases e
theorem OV{v:V}{x' i':Value}(g:Good E h w)(r:eB E x x')(ri:eB E i i')(e:BX P t x i=some v):
  jX P E h n w (do pure (.value (<- Instr.index t x' i'))) (.val v h n):=by
 unfold BX at e;split at e
 . rename_i k i;simp only[eB]at ri;subst ri;split at e
   . rename_i len el cs hu;split at e
     . rename_i s hs;split at e
       . rename_i Y;obtain⟨cs',rc,rfl⟩:=r;obtain⟨v',h1,C⟩:=rP (P:=P) (w:=w) (cs':=cs'.toArray) (by simpa using rc) e;refine eL g (v':=v') ?_ C;simp[Instr.index,asIntOf,eo hu,Y.1,Y.2,fK hs,h1]
       . cases e
     . cases e
   . rename_i s hu;split at e
     . rename_i Y;split at e
       . rename_i b hsb;obtain rfl:=eU e;simp only[eB]at r;subst r;refine eL g (v':=.int .u8 b.toNat) ?_ rfl;have hg:(⟨s.toArray⟩:ByteArray)[i.toNat]? =some b:=by
          obtain⟨eY,hv⟩:=aO.1 hsb;have mP:i.toNat<(⟨s.toArray⟩:ByteArray).size:=by show i.toNat<s.toArray.size;simpa using eY
          rw[getElem?_pos (⟨s.toArray⟩:ByteArray) i.toNat mP];congr 1
         simp[Instr.index,asIntOf,eo hu,Y,hg]
       . cases e
     . cases e
   . cases e
 . cases e
theorem JP{vs:ag}{i:Nat}{v:V}{x':Value}(g:Good E h w)(r:eB E (.gV vs) x')(e:vs[i]? =some v):
  jX P E h n w (do pure (.value (<- Instr.extract x' i))) (.val v h n):=by
 obtain⟨VD,rs,rfl⟩:=r;obtain⟨v',h1,C⟩:=gW rs i v e;refine eL g (v':=v') ?_ C;simp[Instr.extract,h1]
theorem DT{v:V}{xt t:TypeId}{ok:Bool}{x':Value}(g:Good E h w)(r:eB E x x')(e:uC P x t ok=some v):
  jX P E h n w (do pure (.value (<- Instr.typeAssert x' xt t ok))) (.val v h n):=by
 unfold uC at e;split at e
 . cases e
 . rename_i d hu hd;simp only[eB]at r;subst r;split at e
   . rename_i mN;cases hz:zeroOf P t with
     |none=>simp[hz]at e
     |some z=>
      simp only[hz,aq]at e;subst e;obtain⟨z',hr,hv,_⟩:=lC (w:=w) E hz;refine eL g (v':=.tuple #[z',.bool false]) ?_ ⟨[z',.bool false],⟨z',_,hv,⟨.bool false,[],rfl,rfl,rfl⟩,rfl⟩,rfl⟩;cases d<;>first|(exact absurd rfl (hu _))|simp[Instr.typeAssert,eo hd,mN,hr]
   . cases e
 . rename_i d t2 x2 hu hd;obtain⟨y,ry,rfl⟩:=r;split at e
   . rename_i ht;subst ht;obtain rfl:=eU e;cases ok with
     |true=>
      refine eL g (v':=.tuple #[y,.bool true]) ?_ ⟨[y,.bool true],⟨y,_,ry,⟨.bool true,[],rfl,rfl,rfl⟩,rfl⟩,rfl⟩;cases d<;>first|(exact absurd rfl (hu _))|simp[Instr.typeAssert,eo hd]
     |false=>
      refine eL g (v':=y) ?_ ry;cases d<;>first|(exact absurd rfl (hu _))|simp[Instr.typeAssert,eo hd]
   . rename_i ht;split at e
     . rename_i mN;cases hz:zeroOf P t with
       |none=>simp[hz]at e
       |some z=>
        simp only[hz,aq]at e;subst e;obtain⟨z',hr,hv,_⟩:=lC (w:=w) E hz;refine eL g (v':=.tuple #[z',.bool false]) ?_ ⟨[z',.bool false],⟨z',_,hv,⟨.bool false,[],rfl,rfl,rfl⟩,rfl⟩,rfl⟩;cases d<;>first|(exact absurd rfl (hu _))|simp[Instr.typeAssert,eo hd,mN,hr,ht]
     . cases e
 . cases e
end
end
def nS(E:Env):Option V->Option Value->Prop
 |none,y=>y=none
 |some x,y=>∃y',eB E x y'/\y=some y'
section
variable{P:Program}{E:Env}{h:I es}{n:Nat}{w:World}
theorem vw{d y r:Nat}{x:V}{x':Value}{c:BoundsCode}(e:fh d y (some x)=some r)(rx:eB E x x'):
  (Instr.sliceBound x' y c).run P w= .ok r w/\r<=y:=by
 unfold fh at e;split at e
 . rename_i q;cases q
 . rename_i k i q;cases q;simp only[eB]at rx;subst rx;split at e
   . rename_i Y;obtain rfl:=eU e;refine⟨?_,S⟩;simp[Instr.sliceBound,asIntOf,Y.1,Y.2]
   . cases e
 . cases e
theorem mB{qv:Bool}{len jQ l hh m:Nat}{lo hi mx:Option V}{SV jI SW:Option Value}(rl:nS E lo SV)(rh:nS E hi jI)(rm:nS E mx SW)
  (hmh:mx=none\/hi≠none) (e1:fh jQ jQ mx=some m) (e2:fh len m hi=some hh) (e3:fh 0 hh lo=some l) (jl:len<=jQ):
  (Instr.sliceBounds qv len jQ SV jI SW).run P w= .ok (l,hh,m) w/\l<=hh/\hh<=m/\m<=jQ:=by
 have low:∀c,((match SV with|some v=>Instr.sliceBound v hh c|none=>pure 0):Sem Nat).run P w= .ok l w/\l<=hh:=by
  intro c;cases lo with
  |none=>simp only[nS]at rl;subst rl;simp only[fh,aq]at e3;subst e3;exact⟨rfl,aN _⟩
  |some x=>obtain⟨x',rx,rfl⟩:=rl;exact vw e3 rx
 cases mx with
 |none=>
  simp only[nS]at rm;subst rm;simp only[fh,aq]at e1;subst e1;cases hi with
  |none=>
   simp only[nS]at rh;subst rh;simp only[fh,aq]at e2;subst e2;obtain⟨h1,C⟩:=low .sliceB;refine⟨?_,C,jl,aK _⟩;cases SV<;>simp_all [Instr.sliceBounds]
  |some x=>
   obtain⟨x',rx,rfl⟩:=rh;obtain⟨p1,p2⟩:=vw (P:=P) (w:=w) (c:=if qv then .sliceAcap else .sliceAlen) e2 rx;obtain⟨h1,C⟩:=low .sliceB;refine⟨?_,C,p2,aK _⟩;cases SV<;>simp_all [Instr.sliceBounds]
 |some y=>
  obtain⟨y',ry,rfl⟩:=rm;obtain⟨p1,p2⟩:=vw (P:=P) (w:=w) (c:=if qv then .slice3Acap else .slice3Alen) e1 ry;cases hi with
  |none=>rcases hmh with q|q<;>simp at q
  |some x=>
   obtain⟨x',rx,rfl⟩:=rh;obtain⟨q1,q2⟩:=vw (P:=P) (w:=w) (c:=.slice3B) e2 rx;obtain⟨h1,C⟩:=low .slice3C;refine⟨?_,C,q2,p2⟩;cases SV<;>simp_all [Instr.sliceBounds]
theorem Fu(s:aa)(l hh:Nat):(⟨s.toArray⟩:ByteArray).extract l hh=⟨((s.take hh).drop l).toArray⟩:=by
 apply ByteArray.ext;simp[List.extract_eq_take_drop,List.drop_take]
theorem OW{t:TypeId}{x v:V}{x':Value}{lo hi mx:Option V}{SV jI SW:Option Value}(g:Good E h w)(r:eB E x x')(rl:nS E lo SV)(rh:nS E hi jI)(rm:nS E mx SW)
  (e:my P t h x lo hi mx=some v):jX P E h n w (do pure (.value (<- Instr.sliceAt t x' SV jI SW))) (.val v h n):=by
 unfold my at e;split at e
 . cases e
 . rename_i abY;have hmh:mx=none\/hi≠none:=by
    cases mx with
    |none=>exact .inl rfl
    |some _=>cases hi with
     |none=>simp at abY
     |some _=>exact .inr (by simp)
   clear abY;split at e
   . rename_i s hu;cases mx with
     |some _=>simp at e
     |none=>
      simp only[nS]at rm;subst rm;simp only at e;simp only[eB]at r;subst r;cases C:fh s.length s.length hi with
      |none=>simp[C]at e
      |some hh=>
       simp only[C]at e;cases h3:fh 0 hh lo with
       |none=>simp[h3]at e
       |some l=>
        simp only[h3,aq]at e;subst e;have mP:(⟨s.toArray⟩:ByteArray).size=s.length:=by show s.toArray.size=_;simp
        obtain⟨q,q1,q2,_⟩:=mB (P:=P) (w:=w) (qv:=false) (len:=s.length) (jQ:=s.length) (mx:=none) (SW:=none) rl rh rfl (.inl rfl) rfl C h3 (aK _);refine eL g (v':=.string ⟨((s.take hh).drop l).toArray⟩) ?_ rfl;simp only[Sem.run_bind,Instr.sliceAt,eo hu,Result.andThen_ok,Instr.slice,Option.isSome_none,aM,cA,mP,q,Sem.run_pure,Fu s l hh]
   . rename_i el a len jQ kY hu;split at e
     . rename_i s hs;split at e
       . rename_i hse;cases h1:fh jQ jQ mx with
         |none=>simp[h1]at e
         |some m=>
          simp only[h1]at e;cases C:fh len m hi with
          |none=>simp[C]at e
          |some hh=>
           simp only[C]at e;cases h3:fh 0 hh lo with
           |none=>simp[h3]at e
           |some l=>
            simp only[h3,aq]at e;subst e;cases a with
            |none=>
             obtain⟨rfl,rfl,rfl⟩:=r;obtain⟨q,q1,q2,q3⟩:=mB (P:=P) (w:=w) (qv:=true) rl rh rm hmh h1 C h3 (aK _);have K:m=0:=by omega
             have hh0:hh=0:=by omega
             have DD:l=0:=by omega
             subst K;subst hh0;subst DD;refine eL g (v':=.slice none 0 0) ?_ ⟨rfl,rfl,rfl⟩;simp only[Sem.run_bind,Instr.sliceAt,eo hu,Result.andThen_ok,Instr.slice,q,fK hs,Sem.run_pure];rfl
            |some a=>
             obtain⟨bm,o⟩:=a
             have hse:s=kY:=by rcases hse with q|q;. exact q
                               . cases q
             subst hse;obtain⟨b,sh,o',gP,jI,c1,c2,c3,c4,rfl⟩:=r;cases mx with
             |none=>
              simp only[nS]at rm;subst rm;simp only[fh,aq]at h1;subst h1;have DE:fh len gP hi=some hh:=by
               cases hi with
               |none=>exact C
               |some y=>
                unfold fh at C ⊢;split at C
                . rename_i q;cases q
                . rename_i k i q;cases q;split at C
                  . rename_i Y;rw[aD ⟨Y.1,S⟩];exact C
                  . cases C
                . cases C
              obtain⟨q,q1,q2,q3⟩:=mB (P:=P) (w:=w) (qv:=true) (mx:=none) (SW:=none) (jQ:=gP) rl rh rfl (.inl rfl) rfl DE h3 S;have hhc:hh<=jQ:=by
               cases hi with
               |none=>simp only[fh,aq]at C;omega
               |some y=>
                unfold fh at C;split at C
                . rename_i q;cases q
                . rename_i k i q;cases q;split at C
                  . rename_i Y;simp only[aq]at C;omega
                  . cases C
                . cases C
              refine eL g (v':=.slice (if gP=l then some ⟨b,o',none⟩else some ⟨b,o'+l*s,none⟩) (hh-l) (gP-l)) ?_ ?_
              . simp only[Sem.run_bind,Instr.sliceAt,eo hu,Result.andThen_ok,Instr.slice,q,fK hs,Sem.run_pure,bu,Addr.ji]
              . by_cases xB:gP=l
                . rw[aD xB];refine⟨b,sh,o',gP-l,jI,fun q=>by omega,S,S,?_,rfl⟩;rw[xB];simp;omega
                . rw[aA xB];refine⟨b,sh,o'+l*s,gP-l,jI,fun q=>?_,S,S,?_,rfl⟩
                  . rw[c1 S];omega
                  . have K:l*s+(gP-l)*s=gP*s:=by rw[<- dh];congr 1;omega
                    omega
             |some y=>
              obtain⟨y',ry,rfl⟩:=rm;have oF:fh gP gP (some y)=some m:=by
               unfold fh at h1 ⊢;split at h1
               . rename_i q;cases q
               . rename_i k i q;cases q;split at h1
                 . rename_i Y;rw[aD ⟨Y.1,S⟩];exact h1
                 . cases h1
               . cases h1
              have hmc:m<=jQ:=by
               unfold fh at h1;split at h1
               . rename_i q;cases q
               . rename_i k i q;cases q;split at h1
                 . rename_i Y;simp only[aq]at h1;omega
                 . cases h1
               . cases h1
              obtain⟨q,q1,q2,q3⟩:=mB (P:=P) (w:=w) (qv:=true) (jQ:=gP) rl rh (mx:=some y) (SW:=some y') ⟨y',ry,rfl⟩ hmh oF C h3 S;refine eL g (v':=.slice (if m=l then some ⟨b,o',none⟩else some ⟨b,o'+l*s,none⟩) (hh-l) (m-l)) ?_ ?_
              . simp only[Sem.run_bind,Instr.sliceAt,eo hu,Result.andThen_ok,Instr.slice,q,fK hs,Sem.run_pure,bu,Addr.ji]
              . by_cases xB:m=l
                . rw[aD xB];refine⟨b,sh,o',m-l,jI,fun q=>by omega,S,S,?_,rfl⟩;rw[xB];simp;omega
                . rw[aA xB];refine⟨b,sh,o'+l*s,m-l,jI,fun q=>?_,S,aK _,?_,rfl⟩
                  . rw[c1 S];omega
                  . have K:l*s+(m-l)*s=m*s:=by rw[<- dh];congr 1;omega
                    have W8:m*s<=gP*s:=cM _ S;omega
       . cases e
     . cases e
   . rename_i el f len cs hu;have qt:∀{y jQ r:Nat} {o:Option V},fh y y o=some r->y<=jQ->o≠none->fh jQ jQ o=some r/\r<=y:=fun {y jQ r o} q hq jw=>by
      cases o with
      |none=>exact absurd rfl jw
      |some v=>
       cases v with
       |int k i=>
        simp only[fh]at q ⊢;split at q
        . rename_i Y;obtain rfl:=eU q;exact⟨aD ⟨Y.1,S⟩,S⟩
        . cases q
       |_=>simp only[fh]at q;cases q
     split at e
     . rename_i s hs;split at e
       . rename_i xB;obtain⟨⟨a,jQ,vs,rfl,oq,hd,h0,uL⟩,xW⟩:=r;have key:∀(l hh m:Nat),l<=hh->hh<=len->hh<=m->∀(f':Bool),(f'=true->m=hh)->
           eB E (.eE f' (hh-l) ((cs.drop (l*s)).take ((hh-l)*s))) (.slice (if m=l then a else a.map (·.add (l*s))) (hh-l) (m-l)):=by
          intro l hh m k1 k2 k3 f' hf';refine⟨⟨_,_,(vs.drop (l*s)).take ((hh-l)*s),rfl,S,wH (pP hd),fun q=>by rw[q];simp,fun q=>?_⟩,fun q=>⟨_,by rw[hf' q]⟩⟩;obtain⟨b,o,c,rfl,DQ,N⟩:=uL S;refine⟨b,o+l*s,c,?_,DQ,fun j w hw=>?_⟩
          . rw[aA S];simp[Addr.ji]
          . rw[bW]at hw;split at hw
            . rw[bX]at hw;rw[<- N _ w hw,Nat.add_assoc]
            . cases hw
         cases mx with
         |none=>
          simp only[nS]at rm;subst rm;simp only at e;cases C:fh len len hi with
          |none=>simp[C]at e
          |some hh=>
           simp only[C]at e;cases h3:fh 0 hh lo with
           |none=>simp[h3]at e
           |some l=>
            simp only[h3,aq]at e;subst e;have DE:fh len jQ hi=some hh/\hh<=len:=by
             cases hi with
             |none=>simp only[fh,aq]at C ⊢;exact⟨C,S⟩
             |some y=>
              obtain⟨q1,q2⟩:=qt C oq (by simp);exact⟨by cases y<;>exact q1,q2⟩
            obtain⟨q,q1,q2,q3⟩:=mB (P:=P) (w:=w) (qv:=true) (mx:=none) (SW:=none) (jQ:=jQ) rl rh rfl (.inl rfl) rfl DE.1 h3 oq;refine eL g (v':=.slice (if jQ=l then a else a.map (·.add (l*s))) (hh-l) (jQ-l)) ?_ (key l hh jQ q1 DE.2 q2 _ fun hf=>?_)
            . simp only[Sem.run_bind,Instr.sliceAt,eo hu,Result.andThen_ok,Instr.slice,q,fK hs,Sem.run_pure]
            . simp only[ay,bV,Option.isSome_eq_false_iff,Option.isNone_iff_eq_none]at hf;obtain⟨hf1,rfl⟩:=hf;simp only[fh,aq]at C;obtain⟨a',ha'⟩:=xW hf1;simp only[Value.slice.injEq]at ha';omega
         |some y=>
          simp only at e;cases h1:fh len len (some y)with
          |none=>simp[h1]at e
          |some m=>
           simp only[h1]at e;cases C:fh len m hi with
           |none=>simp[C]at e
           |some hh=>
            simp only[C]at e;cases h3:fh 0 hh lo with
            |none=>simp[h3]at e
            |some l=>
             simp only[h3]at e;split at e
             . rename_i hhm;obtain rfl:=eU e;obtain⟨k1,k2⟩:=qt h1 oq (by simp);obtain⟨q,q1,q2,q3⟩:=mB (P:=P) (w:=w) (qv:=true) (jQ:=jQ) rl rh rm hmh k1 C h3 oq;refine eL g (v':=.slice (if m=l then a else a.map (·.add (l*s))) (hh-l) (m-l)) ?_ (key l hh m q1 S q2 _ fun _=>hhm.symm);simp only[Sem.run_bind,Instr.sliceAt,eo hu,Result.andThen_ok,Instr.slice,q,fK hs,Sem.run_pure]
             . cases e
       . cases e
     . cases e
   . rename_i len el bm o hu;split at e
     . rename_i s hs;cases h1:fh len len mx with
       |none=>simp[h1]at e
       |some m=>
        simp only[h1]at e;cases C:fh len m hi with
        |none=>simp[C]at e
        |some hh=>
         simp only[C]at e;cases h3:fh 0 hh lo with
         |none=>simp[h3]at e
         |some l=>
          simp only[h3]at e;split at e
          . rename_i Y;obtain rfl:=eU e;obtain⟨JO,SX,jm⟩:=Y;unfold xG at jm;split at jm
            . rename_i cs K;have hlc:o+len*s<=cs.length:=by simpa using jm
              obtain⟨b,sh,jI,rfl⟩:=r;obtain⟨b',sh',Ba,c,el',fz,rR,mP,_,En⟩:=g.rel bm _ K;rw[jI]at Ba;cases Ba;obtain⟨q,q1,q2,q3⟩:=mB (P:=P) (w:=w) (qv:=false) rl rh rm hmh h1 C h3 (aK _);refine eL g (v':=.slice (some (if m=l then⟨b,sh+o,none⟩else⟨b,sh+o+l*s,none⟩)) (hh-l) (m-l)) ?_ ?_
              . simp only[Sem.run_bind,Instr.sliceAt,eo hu,Result.andThen_ok,Instr.sureAddr,q,fK hs,Sem.run_pure,Addr.ji]
              . have zv:sh+o+m*s<=E.β b:=by
                 have uL:0<len*s:=Nat.mul_pos SX JO;have Lx:=nO En (k:=o+len*s) S hlc;have Oh:m*s<=len*s:=cM _ q3;omega
                by_cases xB:m=l
                . rw[aD xB];refine⟨b,sh,sh+o,m-l,jI,fun q=>by omega,S,S,?_,rfl⟩;rw[xB];simp;omega
                . rw[aA xB];refine⟨b,sh,sh+o+l*s,m-l,jI,fun q=>by omega,S,aK _,?_,rfl⟩;have K:l*s+(m-l)*s=m*s:=by rw[<- dh];congr 1;omega
                  omega
            . cases jm
          . cases e
     . cases e
   . cases e
end
end Go.Eng
