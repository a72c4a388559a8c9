/- Lemmas of the engine. No conditions. -/
import GoSem.Core.Ast
import Derived.WalkKit
import Derived.Orders
import Derived.ChangeKeysEq
set_option linter.unusedVariables false
set_option linter.unusedSimpArgs false
set_option linter.unusedSectionVars false
namespace Go.Eng
def ux:List (Nat×Nat):=[]
open Go
abbrev aq:=@Option.some.injEq
abbrev au:=@List.getElem?_eq_getElem
abbrev ax:=@List.getD_eq_getElem?_getD
abbrev ay:=@Bool.and_eq_true
abbrev az:=@List.length_append
abbrev aA:=@List.mem_cons
abbrev aB:=@Prod.mk.injEq
abbrev aD:=@if_neg
abbrev aE:=@Nat.le_of_ble_eq_true
abbrev aF:=@if_pos
abbrev aG:=@congrArg
abbrev aH:=@List.not_mem_nil
abbrev aI:=@List.mem_singleton
abbrev aJ:=@Nat.eq_of_beq_eq_true
abbrev aK:=@Nat.le_refl
abbrev aL:=@forall_eq_or_imp
abbrev aM:=@Bool.false_eq_true
abbrev aN:=@List.length_cons
abbrev aP:=@Bool.true_and
abbrev aR:=@Nat.zero_le
abbrev aS:=@List.getElem?_eq_some_iff
abbrev aT:=@Bool.false_and
abbrev aU:=@decide_eq_true_eq
abbrev aW:=@decide_eq_true
abbrev aX:=@decide_eq_false
abbrev aY:=@Array.getElem?_eq_some_iff
abbrev aZ:=@of_decide_eq_true
abbrev bf:=@List.length_take
abbrev bg:=@Array.getElem?_eq_getElem
abbrev bh:=@List.mem_cons_of_mem
abbrev bj:=@List.mem_append
abbrev bn:=@forall_eq
abbrev bq:=@or_false
abbrev br:=@List.take_length
abbrev bt:=@of_decide_eq_false
abbrev bu:=@decide_eq_false_iff_not
abbrev bw:=@List.all_eq_true
abbrev bx:=@Nat.lt_or_ge
abbrev bz:=@Option.map_some
abbrev bA:=@List.drop_zero
abbrev bB:=@List.mem_cons_self
abbrev bC:=@List.drop_eq_getElem_cons
abbrev bD:=@List.getElem?_map
abbrev bE:=@Nat.not_lt_zero
abbrev bG:=@List.nil_append
abbrev bH:=@List.getElem?_append_left
abbrev bI:=@Nat.zero_add
abbrev bJ:=@Int.natCast_nonneg
abbrev bK:=@Option.ne_none_iff_exists'
abbrev bL:=@List.map_append
abbrev bM:=@List.length_map
abbrev bN:=@Nat.le_trans
abbrev bO:=@Array.getD_eq_getD_getElem?
abbrev bP:=@List.mem_map
abbrev bQ:=@List.mem_range
abbrev bR:=@Option.isSome_iff_exists
abbrev bS:=@List.length_singleton
abbrev bU:=@Array.getElem?_toList
abbrev bV:=@List.getElem_mem
abbrev bW:=@List.findIdx?_eq_some_iff_getElem
abbrev bX:=@Bool.false_or
abbrev bY:=@Bool.true_or
abbrev bZ:=@Bool.not_eq_true'
abbrev b9:=@List.map_cons
abbrev cg:=@List.getElem?_take
abbrev cj:=@List.getElem?_drop
abbrev ck:=@List.getElem_of_mem
abbrev cm:=@List.length_nil
abbrev cq:=@Bool.or_eq_true
abbrev cr:=@List.take_of_length_le
abbrev ct:=@beq_iff_eq
abbrev cz:=@List.take_add_one
abbrev cA:=@Option.getD_some
abbrev cB:=@beq_eq_false_iff_ne
abbrev cC:=@List.append_assoc
abbrev cE:=@Int.ofNat_lt
abbrev cF:=@List.getElem?_eq_none
abbrev cG:=@Bool.and_true
abbrev cH:=@List.findIdx?_eq_none_iff
abbrev cI:=@if_false
abbrev cJ:=@Bool.and_false
abbrev cK:=@List.mem_of_mem_take
abbrev cL:=@Bool.or_false
abbrev cM:=@Bool.or_eq_false_iff
abbrev cN:=@List.eq_nil_iff_length_eq_zero
abbrev cO:=@Nat.lt_of_lt_of_le
abbrev cP:=@Array.getElem?_append_left
abbrev cQ:=@List.contains_iff_mem
abbrev cR:=@Nat.mul_one
abbrev cS:=@List.length_eq_zero_iff
abbrev cT:=@List.getElem?_cons_zero
abbrev cU:=@Option.map_eq_some_iff
abbrev cV:=@Nat.mul_le_mul_right
abbrev cW:=@Nat.eq_zero_or_pos
abbrev cZ:=@Int.toNat_of_nonneg
abbrev c5:=@List.append_nil
abbrev dc:=@List.getElem?_append_right
abbrev de:=@List.flatten_cons
abbrev dg:=@Bool.or_true
abbrev dh:=@List.map_take
abbrev di:=@List.getElem?_range
abbrev dj:=@List.take_append_drop
abbrev dm:=@Nat.testBit_two_pow_sub_one
abbrev dn:=@List.any_eq_false
abbrev dr:=@Nat.mod_two_eq_zero_or_one
abbrev dw:=@Nat.add_mul
abbrev dx:=@Bool.not_eq_false'
abbrev dy:=@Nat.lt_irrefl
abbrev dz:=@Nat.sub_zero
abbrev dA:=@List.length_drop
abbrev dB:=@Option.some.inj
abbrev aa:=List UInt8
abbrev ah:=List Prop
abbrev B:=IntKind.i64
theorem dJ{α:Sort _}{a b:α}(h:a=b:=by kernel_rfl):a=b:=h
section
variable{p:Prop}{α:Type _}
theorem S(h:p:=by omega):p:=h
theorem fg(h:p:=by decide):p:=h
theorem ajr(n:Nat):Int.ofNat n=(n:Int):=rfl
theorem XG(h:p:=by simp only[ajr];omega):p:=h
theorem acL{α:Type}{a:α}{h2 Q:α->Prop}(h:Q a):∀g∈[a],h2 g->Q g:=fun _ hg _=>aI.1 hg▸h
theorem aw0{l:ah}(h:p)(t:∀a∈l,a):∀a∈p::l,a:=List.forall_mem_cons.2 ⟨h,t⟩
theorem eZ{a b:α}(h:some a=some b):a=b:=dB h
theorem gr{β:Type _}{a c:α}{b d:β}(h:some (a,b)=some (c,d)):a=c/\b=d:=Prod.mk.inj (dB h)
end
inductive D where
 |bool (b:Bool)
 |int (k:IntKind) (n:Int)
 |str (s:aa)
 |eM (n:Nat) (cs:List D)
 |agg (cs:List D)
 deriving Inhabited
abbrev ae:=List (D×D)
abbrev ai:=List D
inductive V where
 |bool (b:Bool)
 |int (k:IntKind) (n:Int)
 |str (s:aa)
 |ptr (a:Option (Nat×Nat))
 |fk (a:Option (Nat×Nat)) (len kg lz:Nat)
 |map (r:Option Nat)
 |fn (f:Fn) (first captured:List V)
 |kU
 |iface (t:TypeId) (v:V)
 |nilIface
 |agg (cs:List V)
 |gK (vs:List V)
 |eM (f:Bool) (n:Nat) (cs:ai)
 |eo (cs:ai)
 deriving Inhabited
abbrev ag:=List V
mutual
def D.kx:D->V
 | .bool b=>.bool b
 | .int k n=>.int k n
 | .str s=>.str s
 | .eM n cs=>.eM false n cs
 | .agg cs=>.agg (D.gk cs)
def D.gk:ai->ag
 | []=>[]
 |x::xs=>x.kx::D.gk xs
end
theorem D.gy:∀l:ai,D.gk l=l.map D.kx
 | []=>rfl
 |x::xs=>by rw[D.gk,D.gy xs];rfl
def D.scalar:D->Bool
 | .agg _=>false
 |_=>true
mutual
def V.J2:V->Option D
 | .bool b=>some (.bool b)
 | .int k n=>some (.int k n)
 | .str s=>some (.str s)
 | .eM _ n cs=>some (.eM n cs)
 | .fk none _ _ _=>some (.eM 0 [])
 | .fk (some _) 0 _ _=>some (.eM 0 [])
 | .agg cs=>match V.O6 cs with
   |some l=>some (.agg l)
   |none=>none
 |_=>none
def V.O6:ag->Option (ai)
 | []=>some []
 |x::xs=>match V.J2 x with
  |some d=>match V.O6 xs with
   |some l=>match d.scalar with
    |true=>some (d::l)
    |false=>none
   |none=>none
  |none=>none
end
inductive I(α:Type) where
 |nil
 |node (v:Option α) (l r:I α)
 deriving Inhabited
inductive es where
 |cells (cs:ag)
 |map (O:List (V×V×Nat)) (fA:Nat)
 |nM (s:aa) (pos:Nat)
 |ints (k:IntKind) (W:List Int)
 |own (k:IntKind) (W:List Int)
 |deep (cs:ai)
 |wh (el:TypeId) (AM:Bool) (s:aa)
 |HM (t:TypeId) (self:Bool) (x:V)
 |gL (kd:Option IntKind) (O:ae)
 |oW (kd:Option IntKind) (O:ae)
 |uy
 |loop (st:Bool) (pe:Option Code) (F:I V) (ps:List Nat) (assign body:Code)
 deriving Inhabited
abbrev af:=List (Nat×es)
def es.wr:es->Bool
 | .ints _ _=>false
 |_=>true
def I.get{α:Type}:I α->Nat->Option α
 | .nil,_=>none
 | .node v l r,k=>
   match k with
   |0=>v
   |k+1=>match k%2 with
    |0=>l.get (k/2)
    |_=>r.get (k/2)
def I.rz{α:Type}:Nat->I α->Nat->Option α->I α
 |0,t,_,_=>t
 |f+1,.nil,k,x=>
  match k with
  |0=>.node x .nil .nil
  |k+1=>match k%2 with
   |0=>.node none (I.rz f .nil (k/2) x) .nil
   |_=>.node none .nil (I.rz f .nil (k/2) x)
 |f+1,.node v l r,k,x=>
  match k with
  |0=>.node x l r
  |k+1=>match k%2 with
   |0=>.node v (I.rz f l (k/2) x) r
   |_=>.node v l (I.rz f r (k/2) x)
def gO:Nat:=4294967296
def I.set{α:Type}(t:I α)(k:Nat)(x:Option α):I α:=I.rz 33 t k x
def jk:Value->Option V
 | .bool b=>some (.bool b)
 | .int k n=>some (.int k n)
 | .string s=>some (.str s.data.toList)
 | .pointer none=>some (.ptr none)
 | .slice none 0 0=>some (.fk none 0 0 0)
 | .map none=>some (.map none)
 | .nilFunc=>some .kU
 | .nilIface=>some .nilIface
 |_=>none
def nP:List Value->Option (ag)
 | []=>some []
 |v::vs=>match jk v with
  |some x=>match nP vs with
   |some xs=>some (x::xs)
   |none=>none
  |none=>none
def L3:Value->Option V
 | .agg cs=>match nP cs.toList with
   |some xs=>some (.agg xs)
   |none=>none
 |v=>jk v
def V.cells:V->ag
 | .agg cs=>cs
 |v=>[v]
def V.scalar:V->Bool
 | .agg _ | .gK _=>false
 |_=>true
section
variable(P:Program)(t:TypeId)
def kE:Option Nat:=(P.info? t).map (·.size)
def zeroOf:Option V:=
 match P.info? t with
 |some i=>match i.zero with
  |some v=>L3 v
  |none=>none
 |none=>none
def HN:Option Bool:=
 match P.underlying t with
 |some (.struct _)=>some true
 |some (.array _ _)=>some true
 |some _=>some false
 |none=>none
end
inductive iX where
 |val (v:V) (h:I es) (n:Nat)
 |call (f:FuncId) (args:ag)
 |uy (f:FuncId) (captured args:ag)
 |recover
 |panic (v:V)
section
variable(P:Program)(h:I es)(t:TypeId)(n:Nat)
def kK:Option V->Option iX
 |some v=>some (.val v h n)
 |none=>none
def newObj(o:es):Option (I es×Nat):=
 if n<gO then some (h.set n (some o),n+1)else none
def cut(cs:ag)(o size:Nat):Option (ag):=
 if o+size<=cs.length then some ((cs.drop o).take size)else none
def Ci(cs:ag)(o:Nat)(new:ag):Option (ag):=
 if o+new.length<=cs.length then some (cs.take o++(new++cs.drop (o+new.length)))else none
def lp(cs:ag)(o:Nat):Option V:=
 match HN P t with
 |some true=>match kE P t with
  |some s=>(cut cs o s).map .agg
  |none=>none
 |some false=>cs[o]?
 |none=>none
def uK(m:Nat)(self:Bool)(x:V):ag:=[if self then .ptr (some (m,0))else .ptr none,x]
def Cj(z:V):es:=match z.cells with
 | [.ptr none,.fk none 0 0 0]=>match P.underlying t with
   |some (.struct fs)=>match fs[0]? with
    |some f=>match P.underlying f.type with
     |some (.pointer t')=>if Nat.beq t' t then .HM t false (.fk none 0 0 0)else .cells z.cells
     |_=>.cells z.cells
    |none=>.cells z.cells
   |_=>.cells z.cells
 |_=>.cells z.cells
def loadAt(h:I es):V->Option V
 | .ptr (some (m,o))=>match h.get m with
   |some (.cells cs)=>lp P t cs o
   |some (.ints k W)=>lp P t (W.map (.int k)) o
   |some (.own k W)=>lp P t (W.map (.int k)) o
   |some (.deep cs)=>lp P t (D.gk cs) o
   |some (.HM _ self x)=>lp P t (uK m self x) o
   |_=>none
 | .eo cs=>lp P t (D.gk cs) 0
 |_=>none
end
inductive Row where
 |vs (cs:ag)
 |is (k:IntKind) (W:List Int)
 |ds (cs:ai)
def Row.kx:Row->ag
 | .vs cs=>cs
 | .is k W=>W.map (.int k)
 | .ds cs=>D.gk cs
def Row.EE:Row->es
 | .vs cs=>.cells cs
 | .is k W=>.own k W
 | .ds cs=>.deep cs
def es.row:es->Option Row
 | .cells cs=>some (.vs cs)
 | .own k W=>some (.is k W)
 | .deep cs=>some (.ds cs)
 |_=>none
def es.Ni:es->Option Row
 | .cells cs=>some (.vs cs)
 | .own k W=>some (.is k W)
 | .ints k W=>some (.is k W)
 | .deep cs=>some (.ds cs)
 |_=>none
def iQ:ag->Option (ai)
 | []=>some []
 |x::r=>match(match x with
  | .bool b=>some (.bool b)
  | .int k n=>some (.int k n)
  | .str s=>some (.str s)
  | .eM _ n cs=>some (.eM n cs)
  | .fk none _ _ _=>some (.eM 0 [])
  |_=>none:Option D)with
  |some d=>match iQ r with
   |some l=>some (d::l)
   |none=>none
  |none=>none
def pY(k:IntKind):ag->Option (List Int)
 | []=>some []
 | .int k' x::r=>match decide (k'=k),pY k r with
   |true,some l=>some (x::l)
   |_,_=>none
 |_::_=>none
def Row.app:Row->Row->Row
 | .vs a,.vs b=>.vs (a++b)
 | .is k a,.is k' b=>match decide (k'=k)with
   |true=>.is k (a++b)
   |false=>.vs (a.map (.int k)++b.map (.int k'))
 | .is k a,.vs b=>match pY k b with
   |some l=>.is k (a++l)
   |none=>.vs (a.map (.int k)++b)
 | .vs a,.is k b=>match pY k a with
   |some l=>.is k (l++b)
   |none=>.vs (a++b.map (.int k))
 | .ds a,.ds b=>.ds (a++b)
 | .ds a,.vs b=>match iQ b with
   |some l=>.ds (a++l)
   |none=>.vs (D.gk a++b)
 | .vs a,.ds b=>match iQ a with
   |some l=>.ds (l++b)
   |none=>.vs (a++D.gk b)
 | .ds a,.is k b=>.ds (a++b.map (.int k))
 | .is k a,.ds b=>.ds (a.map (.int k)++b)
def Row.cut(o size:Nat):Row->Option Row
 | .vs cs=>match Eng.cut cs o size with
   |some r=>some (.vs r)
   |none=>none
 | .is k W=>if o+size<=W.length then some (.is k ((W.drop o).take size))else none
 | .ds cs=>if o+size<=cs.length then some (.ds ((cs.drop o).take size))else none
def Row.soft:Row->Bool
 | .ds _=>true
 |_=>false
def Row.flat:Row->Bool
 | .vs cs=>cs.all V.scalar
 | .is _ _=>true
 | .ds _=>true
def qL(W:ai)(o:Nat)(new:ai):ai:=W.take o++(new++W.drop (o+new.length))
def By(W:List Int)(o:Nat)(new:List Int):List Int:=W.take o++(new++W.drop (o+new.length))
def storeAt(P:Program)(t:TypeId)(h:I es)(v:V):V->Option (I es)
 | .ptr (some (m,o))=>match h.get m with
   |some (.cells cs)=>
    match kE P t with
    |some s=>
     if v.cells.length=s/\0<s/\m<gO/\v.cells.all V.scalar=true then
      match Ci cs o v.cells with
      |some cs'=>some (h.set m (some (.cells cs')))
      |none=>none
     else none
    |none=>none
   |some (.own k W)=>
    match kE P t with
    |some s=>
     if v.cells.length=s/\0<s/\m<gO then
      match pY k v.cells with
      |some new=>if o+s<=W.length then some (h.set m (some (.own k (By W o new))))else none
      |none=>none
     else none
    |none=>none
   |some (.deep cs)=>
    match kE P t with
    |some s=>
     if v.cells.length=s/\0<s/\m<gO then
      match iQ v.cells with
      |some new=>if o+s<=cs.length then some (h.set m (some (.deep (qL cs o new))))else none
      |none=>none
     else none
    |none=>none
   |some (.HM s' self _)=>match kE P t,v.cells with
    |some 1,[x]=>if o=1/\m<gO/\x.scalar=true then some (h.set m (some (.HM s' self x)))else none
    |_,_=>none
   |_=>none
 |_=>none
def rS(xY:Nat->Option (Nat×Nat)):ag->List (Nat×V)->Option (ag)
 |cells,[]=>some cells
 |cells,(i,v)::rest=>
  match xY i with
  |none=>none
  |some (off,size)=>
   if v.cells.length=size then
    match Ci cells off v.cells with
    |some pZ=>rS xY pZ rest
    |none=>none
   else none
def sY(P:Program):List Field->Option (List (Nat×Nat))
 | []=>some []
 |f::fs=>match kE P f.type with
  |some s=>match sY P fs with
   |some r=>some ((f.offset,s)::r)
   |none=>none
  |none=>none
def J3(P:Program)(t:TypeId)(parts:List (Nat×V)):Option V:=
 match zeroOf P t,P.underlying t with
 |some z,some (.struct mb)=>
  match sY P mb.toList with
  |some uL=>(rS (fun i=>uL[i]?) z.cells parts).map .agg
  |none=>none
 |some z,some (.array _ TH)=>
  match kE P TH with
  |some s=>(rS (fun i=>some (i*s,s)) z.cells parts).map .agg
  |none=>none
 |_,_=>none
def iJ(z:ag):Nat->ag
 |0=>[]
 |n+1=>z++iJ z n
section
variable(P:Program)(t:TypeId)
def uM:Option TypeId:=
 match P.underlying t with
 |some (.slice e)=>some e
 |_=>none
def oB(len:Nat)(parts:List (Nat×V))(h:I es)(n:Nat):Option iX:=
 match uM P t with
 |some e=>match kE P e,zeroOf P e with
  |some s,some z=>
   if 0<s/\len*s<=16777216/\z.cells.length=s then
    match rS (fun i=>some (i*s,s)) (iJ z.cells len) parts with
    |some cs=>match newObj h n (.cells cs)with
     |some (h',n')=>some (.val (.fk (some (n,0)) len len s) h' n')
     |none=>none
    |none=>none
   else none
  |_,_=>none
 |none=>none
end
def sZ:Sem Value->Option V
 | .pure v=>jk v
 |_=>none
def mX:aa->aa->Bool
 | [],[]=>true
 |a::x,b::y=>match Nat.beq a.toNat b.toNat with
  |true=>mX x y
  |false=>false
 |_,_=>false
def wV:Nat:=9223372036854775807
def O7:aa->aa->Bool
 |_,[]=>false
 | [],_::_=>true
 |a::x,b::y=>match Nat.blt a.toNat b.toNat with
  |true=>true
  |false=>match Nat.beq a.toNat b.toNat with
   |true=>O7 x y
   |false=>false
def O8(op:BinOp)(a b:aa):Option V:=
 match op with
 | .lss=>some (.bool (O7 a b))
 | .geq=>some (.bool (!O7 a b))
 | .leq=>some (.bool (O7 a b||mX a b))
 | .gtr=>some (.bool (!(O7 a b||mX a b)))
 | .add=>if a.length+b.length<=wV then some (.str (a++b))else none
 | .eql=>some (.bool (mX a b))
 | .neq=>some (.bool (!mX a b))
 |_=>none
def oC(P:Program)(t:TypeId)(cs:ag)(off:Nat):Option V:=lp P t cs off
def eqFields(P:Program)(eq:TypeId->V->V->Option Bool):List Field->ag->ag->Option Bool
 | [],_,_=>some true
 |f::fs,xs,ys=>
  if f.name ≠ "_" then
   match oC P f.type xs f.offset,oC P f.type ys f.offset with
   |some a,some b=>match eq f.type a b with
    |some true=>eqFields P eq fs xs ys
    |some false=>some false
    |none=>none
   |_,_=>none
  else eqFields P eq fs xs ys
def oD(P:Program)(eq:V->V->Option Bool)(e:TypeId)(c:Nat)(xs ys:ag):List Nat->Option Bool
 | []=>some true
 |i::is=>match oC P e xs (i*c),oC P e ys (i*c)with
  |some a,some b=>match eq a b with
   |some true=>oD P eq e c xs ys is
   |some false=>some false
   |none=>none
  |_,_=>none
def EF(P:Program):Nat->TypeId->V->V->Option Bool
 |0,_,_,_=>none
 |d+1,t,x,y=>
  match P.underlying t with
  |some .bool=>match x,y with
   | .bool a,.bool b=>some (a==b)
   |_,_=>none
  |some (.int _)=>match x,y with
   | .int k a,.int k' b=>if k=k' then some (a==b)else none
   |_,_=>none
  |some .string=>match x,y with
   | .str a,.str b=>some (mX a b)
   |_,_=>none
  |some (.pointer el)=>match x,y with
   | .ptr none,.ptr b=>some b.isNone
   | .ptr (some _),.ptr none=>some false
   | .ptr (some (m,o)),.ptr (some (m',o'))=>if(m=m'/\o=o')/\(kE P el).isSome=true then some true else none
   | .ptr none,.eo _=>some false
   | .eo _,.ptr none=>some false
   |_,_=>none
  |some (.interface _)=>match x,y with
   | .nilIface,.nilIface=>some true
   | .nilIface,.iface _ _=>some false
   | .iface _ _,.nilIface=>some false
   |_,_=>none
  |some (.struct mb)=>match x,y with
   | .agg xs,.agg ys=>if P.stoodInHeld t then none else eqFields P (fun u a b=>EF P d u a b) mb.toList xs ys
   |_,_=>none
  |some (.slice _)=>match x,y with
   | .fk none _ _ _,.fk b _ _ _=>some b.isNone
   | .fk (some _) _ _ _,.fk none _ _ _=>some false
   | .eM _ n _,.fk none _ _ _=>match n with
     |_+1=>some false
     |0=>none
   |_,_=>none
  |some (.map _ _)=>match x,y with
   | .map none,.map b=>some b.isNone
   | .map (some _),.map none=>some false
   |_,_=>none
  |some (.array n e)=>match x,y with
   | .agg xs,.agg ys=>match(P.info? e).isSome with
     |true=>oD P (EF P d e) e (P.cellsOf e) xs ys (List.range n)
     |false=>none
   |_,_=>none
  |_=>none
def isLit:Operand->Bool
 | .const _=>true
 |_=>false
def Ec(P:Program)(t:TypeId)(x y:Operand)(a b:V):Option Bool:=
 match a,b with
 | .nilIface,.nilIface=>if isLit x||isLit y then EF P 10000 t a b else none
 | .agg _,.agg _=>if P.eqGuardType P.depth t then none else EF P 10000 t a b
 |_,_=>EF P 10000 t a b
def Ck(P:Program)(op:BinOp)(t:TypeId)(x y:Operand)(a b:V):Option V:=
 match a,b with
 | .int k m,.int k' n=>sZ (binOp op t (.int k m) (.int k' n))
 | .str s,.str u=>O8 op s u
 |a,b=>match op with
  | .eql=>(Ec P t x y a b).map .bool
  | .neq=>(Ec P t x y a b).map fun r=>.bool (!r)
  |_=>none
def unV(op:UnOp):V->Option V
 | .int k n=>sZ (Op.unary op (.int k n))
 | .bool b=>sZ (Op.unary op (.bool b))
 |_=>none
def Cl(s:aa):ag:=s.map fun b=>.int .u8 b.toNat
def p8(s:aa):List Int:=s.map fun b=>(b.toNat:Int)
def nQ(W:List Int):aa:=W.map fun n=>UInt8.ofNat n.toNat
def uN:Option es->Option (aa)
 |some (.wh _ _ s)=>some s
 |_=>none
def AN:Option es->Option (List Int)
 |some (.own .u8 W)=>some W
 |some (.ints .u8 W)=>some W
 |_=>none
def qM:ag->Option (aa)
 | []=>some []
 | .int .u8 n::vs=>match qM vs with
   |some bs=>some (UInt8.ofNat n.toNat::bs)
   |none=>none
 |_::_=>none
def iE(m:Int):aa:=(Utf8.encode m).data.toList
def o9(P:Program)(L4 dst:TypeId)(v:V)(h:I es)(n:Nat):Option iX:=
 match P.underlying L4,P.underlying dst,v with
 |some _,some (.int k),.int _ m=>some (.val (.int k (k.wrap m)) h n)
 |some _,some .string,.str s=>some (.val (.str s) h n)
 |some _,some .string,.int _ m=>some (.val (.str (iE m)) h n)
 |some .string,some (.slice e),.str s=>
  match P.underlying e with
  |some (.int .u8)=>match newObj h n (.own .u8 (p8 s))with
   |some (h',n')=>some (.val (.fk (some (n,0)) s.length s.length 1) h' n')
   |none=>none
  |_=>none
 |some (.slice e),some .string,.eM _ 0 _=>
  match P.underlying e with
  |some (.int .u8)=>some (.val (.str []) h n)
  |_=>none
 |some (.slice e),some .string,.fk none _ _ _=>
  match P.underlying e with
  |some (.int .u8)=>some (.val (.str []) h n)
  |_=>none
 |some (.slice e),some .string,.fk (some (m,o)) len _ lz=>
  match P.underlying e with
  |some (.int .u8)=>if lz=1 then(match uN (h.get m)with
   |some s0=>if len=0\/o+len<=s0.length then some (.val (.str ((s0.drop o).take len)) h n)else none
   |none=>match AN (h.get m)with
   |some W=>if len=0\/o+len<=W.length then some (.val (.str (nQ ((W.drop o).take len))) h n)else none
   |none=>match len with
   |0=>some (.val (.str []) h n)
   |_=>match h.get m with
    |some (.cells cs)=>match cut cs o len with
     |some bs=>match qM bs with
      |some s=>some (.val (.str s) h n)
      |none=>none
     |none=>none
    |_=>none)else none
  |_=>none
 |_,_,_=>none
def TI(W:List Int):Nat->List Int
 |0=>[]
 |n+1=>W++TI W n
def FE(W:ai):Nat->ai
 |0=>[]
 |n+1=>W++FE W n
def vG(z:ag)(n:Nat):Row:=match z with
 | .int k x::r=>match pY k (.int k x::r)with
   |some W=>.is k (TI W n)
   |none=>match iQ (.int k x::r)with
    |some ds=>.ds (FE ds n)
    |none=>.vs (iJ (.int k x::r) n)
 |z=>match iQ z with
  |some ds=>.ds (FE ds n)
  |none=>.vs (iJ z n)
section
variable(P:Program)(t:TypeId)
def nR(l c:V)(h:I es)(n:Nat):Option iX:=
 match uM P t,l,c with
 |some e,.int _ l,.int _ c=>
  match P.info? e,zeroOf P e with
  |some i,some z=>
   let l':=IntKind.i64.wrap l
   let c':=IntKind.i64.wrap c
   if 0<i.size/\z.cells.length=i.size/\0<=l'/\l'<=c'/\i.bytes*c'<=281474976710656 then
    match newObj h n (vG z.cells c'.toNat).EE with
    |some (h',n')=>some (.val (.fk (some (n,0)) l'.toNat c'.toNat i.size) h' n')
    |none=>none
   else none
  |_,_=>none
 |_,_,_=>none
def fB(Bz:Nat)(y:Nat):Option V->Option Nat
 |none=>some Bz
 |some (.int _ i)=>if 0<=i/\i<=y then some i.toNat else none
 |some _=>none
def xZ(h:I es)(m k:Nat):Bool:=
 match h.get m with
 |some (.cells cs)=>decide (k<=cs.length)
 |_=>false
def mK(hp:I es)(x:V)(lo hi mx:Option V):Option V:=
 if mx.isSome=true/\hi.isSome=false then none else
 match P.underlying t,x with
 |some .string,.str s=>
  match mx with
  |some _=>none
  |none=>match fB s.length s.length hi with
   |some h=>match fB 0 h lo with
    |some l=>some (.str ((s.take h).drop l))
    |none=>none
   |none=>none
 |some (.slice e),.fk a len kg lz=>
  match kE P e with
  |some s=>if s=lz\/a=none then
    match fB kg kg mx with
    |some m=>match fB len m hi with
     |some h=>match fB 0 h lo with
      |some l=>some (.fk (match a with|none=>none|some (b,o)=>some (b,o+l*lz)) (h-l) (m-l) lz)
      |none=>none
     |none=>none
    |none=>none
   else none
  |none=>none
 |some (.slice e),.eM f len cs=>
  match kE P e with
  |some s=>if cs.length=len*s then
    match mx with
    |none=>match fB len len hi with
     |some h=>match fB 0 h lo with
      |some l=>some (.eM (f&& !hi.isSome) (h-l) ((cs.drop (l*s)).take ((h-l)*s)))
      |none=>none
     |none=>none
    |some m=>match fB len len (some m)with
     |some m=>match fB len m hi with
      |some h=>match fB 0 h lo with
       |some l=>if h=m then some (.eM true (h-l) ((cs.drop (l*s)).take ((h-l)*s)))else none
       |none=>none
      |none=>none
     |none=>none
   else none
  |none=>none
 |some (.array n e),.ptr (some (b,o))=>
  match kE P e with
  |some s=>
   match fB n n mx with
   |some m=>match fB n m hi with
    |some h=>match fB 0 h lo with
     |some l=>if 0<s/\0<n/\xZ hp b (o+n*s)=true then some (.fk (some (b,o+l*s)) (h-l) (m-l) s)else none
     |none=>none
    |none=>none
   |none=>none
  |none=>none
 |_,_=>none
def wW(f:Nat):V->Option V
 | .ptr (some (m,o))=>match P.underlying t with
   |some (.struct fs)=>match fs[f]? with
    |some fd=>match kE P fd.type with
     |some (_+1)=>some (.ptr (some (m,o+fd.offset)))
     |_=>none
    |none=>none
   |_=>none
 | .eo cs=>match P.underlying t with
   |some (.struct fs)=>match fs[f]? with
    |some fd=>match kE P fd.type with
     |some (_+1)=>some (.eo (cs.drop fd.offset))
     |_=>none
    |none=>none
   |_=>none
 |_=>none
def J4(f:Nat):V->Option V
 | .agg cs=>match P.underlying t with
   |some (.struct fs)=>match fs[f]? with
    |some fd=>oC P fd.type cs fd.offset
    |none=>none
   |_=>none
 |_=>none
def mL(x ix:V):Option V:=
 match ix with
 | .int _ i=>
   match P.underlying t,x with
   |some (.array len e),.ptr (some (m,o))=>
    match kE P e with
    |some s=>if 0<=i/\i<len then some (.ptr (some (m,o+i.toNat*s)))else none
    |none=>none
   |some (.slice e),.fk (some (m,o)) len _ lz=>
    match kE P e with
    |some s=>if 0<=i/\i<len/\s=lz then some (.ptr (some (m,o+i.toNat*s)))else none
    |none=>none
   |some (.slice e),.eM _ len cs=>
    match kE P e with
    |some s=>if(0<=i/\i<len)/\cs.length=len*s then some (.eo ((cs.drop (i.toNat*s)).take s))else none
    |none=>none
   |some (.array len e),.eo cs=>
    match kE P e with
    |some s=>if 0<=i/\i<len then some (.eo (cs.drop (i.toNat*s)))else none
    |none=>none
   |_,_=>none
 |_=>none
def Cm(x ix:V):Option V:=
 match ix with
 | .int _ i=>
   match P.underlying t,x with
   |some (.array len e),.agg cs=>
    match kE P e with
    |some s=>if 0<=i/\i<len then oC P e cs (i.toNat*s)else none
    |none=>none
   |some .string,.str s=>
    if 0<=i then(match s[i.toNat]? with
     |some b=>some (.int .u8 b.toNat)
     |none=>none)else none
   |_,_=>none
 |_=>none
end
def x3:TypeDesc->V->V->Option Bool
 | .int _,.int k a,.int k' b=>if k=k' then some (a==b)else none
 | .string,.str a,.str b=>some (mX a b)
 |_,_,_=>none
def iA:D->D->Bool
 | .int k a,.int k' b=>decide (k=k')&&decide (a=b)
 | .str a,.str b=>mX a b
 |_,_=>false
def gS:Option IntKind->D->Bool
 |some k,.int k' _=>decide (k'=k)
 |none,.str _=>true
 |_,_=>false
def lJ:TypeDesc->Option IntKind->Bool
 | .int k,some k'=>decide (k=k')
 | .string,none=>true
 |_,_=>false
def fL(k:D):ae->Option D
 | []=>none
 |e::O=>match iA k e.1 with
  |true=>some e.2
  |false=>fL k O
def nS(k v:D):ae->ae
 | []=>[(k,v)]
 |e::O=>match iA k e.1 with
  |true=>(k,v)::O
  |false=>e::nS k v O
def uz(k:D):ae->ae
 | []=>[]
 |e::O=>match iA k e.1 with
  |true=>O
  |false=>e::uz k O
def D.kV(z:V):Option D->V
 |some d=>d.kx
 |none=>z
def keyOf:V->Option D
 | .int k n=>some (.int k n)
 | .str s=>some (.str s)
 |_=>none
def uO(kd:TypeDesc)(k:V):List (V×V×Nat)->Nat->Option (Option (Nat×V×V×Nat))
 | [],_=>some none
 |e::O,i=>
  match x3 kd k e.1 with
  |some true=>some (some (i,e))
  |some false=>uO kd k O (i+1)
  |none=>none
def Cn:TypeDesc->V->Bool
 | .int _,.int _ _=>true
 | .string,.str _=>true
 |_,_=>false
def V.Wi(h:I es):V->Option es
 | .map (some r)=>h.get r
 |_=>none
def vH(P:Program)(t:TypeId)(h:I es)(x k:V)(ok:Bool):Option V:=
 match P.underlying t with
 |some (.map kt et)=>match P.underlying kt,zeroOf P et with
  |some kd,some z=>
   match x,x.Wi h with
   | .map (some _),some (.gL kk O)=>match keyOf k with
     |some k=>if lJ kd kk&&gS kk k then some (if ok then .gK [D.kV z (fL k O),.bool (fL k O).isSome]else D.kV z (fL k O))else none
     |none=>none
   |x,_=>
   if Cn kd k then
    match(match x with
     | .map none=>some []
     | .map (some r)=>(match h.get r with
       |some (.map O _)=>some O
       |_=>none)
     |_=>none:Option (List (V×V×Nat)))with
    |some O=>match uO kd k O 0 with
     |some (some (_,_,v,_))=>some (if ok then .gK [v,.bool true]else v)
     |some none=>some (if ok then .gK [z,.bool false]else z)
     |none=>none
    |none=>none
   else none
  |_,_=>none
 |_=>none
def iY{α:Type}:List α->Nat->(α->α)->List α
 | [],_,_=>[]
 |x::xs,0,f=>f x::xs
 |x::xs,i+1,f=>x::iY xs i f
section
variable(P:Program)(t:TypeId)(h:I es)(n:Nat)(m k:V)
def s8(v:V):Option iX:=
 match P.underlying t,m with
 |some (.map kt _),.map (some r)=>match P.underlying kt,h.get r with
  |some kd,some (.map O fA)=>
   if Cn kd k/\r<gO then
    match uO kd k O 0 with
    |some (some (i,_))=>some (.val (.gK []) (h.set r (some (.map (iY O i fun e=>(k,v,e.2.2)) fA))) n)
    |some none=>some (.val (.gK []) (h.set r (some (.map (O++[(k,v,fA)]) (fA+1)))) n)
    |none=>none
   else none
  |some kd,some (.gL kk O)=>match keyOf k,V.J2 v with
   |some k,some v=>if lJ kd kk&&(gS kk k&&decide (r<gO))then some (.val (.gK []) (h.set r (some (.gL kk (nS k v O)))) n)else none
   |_,_=>none
  |_,_=>none
 |_,_=>none
def FF(P:Program)(eW:Array TypeId)(args:ag)(h:I es)(n:Nat):Option iX:=
 match eW[0]?,args with
 |some t,[.map (some r),k]=>match P.underlying t with
  |some (.map kt _)=>match P.underlying kt,h.get r,keyOf k with
   |some kd,some (.gL kk O),some k=>if lJ kd kk&&(gS kk k&&decide (r<gO))then some (.val (.gK []) (h.set r (some (.gL kk (uz k O)))) n)else none
   |_,_,_=>none
  |_=>none
 |_,_=>none
def vI:Option iX:=
 match P.underlying t,m with
 |some (.map kt et),.map (some r)=>match P.underlying kt,h.get r,zeroOf P et with
  |some kd,some (.map O fA),some z=>
   if Cn kd k/\r<gO then
    match uO kd k O 0 with
    |some (some (i,e))=>some (.val (.gK [e.2.1,.int .i64 e.2.2]) (h.set r (some (.map (iY O i fun e=>(k,e.2.1,e.2.2)) fA))) n)
    |some none=>some (.val (.gK [z,.int .i64 fA]) (h.set r (some (.map (O++[(k,z,fA)]) (fA+1)))) n)
    |none=>none
   else none
  |some kd,some (.oW kk O),some z=>match keyOf k,V.J2 z with
   |some k,some z0=>match fL k O with
    |none=>if lJ kd kk&&(gS kk k&&decide (r<gO))then some (.val (.gK [z,.int .i64 O.length]) (h.set r (some (.oW kk (O++[(k,z0)])))) n)else none
    |some _=>none
   |_,_=>none
  |_,_,_=>none
 |_,_=>none
end
def zH(b:Int):List (V×V×Nat)->Nat->Option Nat
 | [],_=>none
 |e::O,i=>if(e.2.2:Int)==b then some i else zH b O (i+1)
def qN(h:I es)(n:Nat)(m acM v:V):Option iX:=
 match m,acM with
 | .map (some r),.int _ b=>match h.get r with
   |some (.map O fA)=>
    if r<gO then
     match zH b O 0 with
     |some i=>some (.val (.gK []) (h.set r (some (.map (iY O i fun e=>(e.1,v,e.2.2)) fA))) n)
     |none=>none
    else none
   |some (.oW kk O)=>match V.J2 v with
    |some v=>if r<gO/\0<=b/\b<O.length then some (.val (.gK []) (h.set r (some (.oW kk (iY O b.toNat fun e=>(e.1,v))))) n)else none
    |none=>none
   |_=>none
 |_,_=>none
def uP(P:Program)(x:V)(x4:TypeId)(ok:Bool):Option V:=
 match P.underlying x4,x with
 |some (.interface _),_=>none
 |some _,.nilIface=>if ok then(match zeroOf P x4 with|some z=>some (.gK [z,.bool false])|none=>none)else none
 |some _,.iface t v=>if t=x4 then some (if ok then .gK [v,.bool true]else v)
  else if ok then(match zeroOf P x4 with|some z=>some (.gK [z,.bool false])|none=>none)else none
 |_,_=>none
def jT(h:I es)(size:Nat):V->Option (Nat×Row)
 | .fk none len _ _=>if len=0 then some (0,.vs [])else none
 | .fk (some (m,o)) len _ lz=>if lz=size then(match len with
   |0=>some (0,.vs [])
   |_=>match h.get m with
    |some ob=>match ob.Ni with
     |some r=>match r.cut o (len*size)with
      |some r=>some (len,r)
      |none=>none
     |none=>none
    |none=>none)else none
 | .str s=>if size=1 then some (s.length,.is .u8 (p8 s))else none
 | .eM _ len cs=>if cs.length=len*size then some (len,.ds cs)else none
 |_=>none
def uQ:ag->Option (aa)
 | []=>some []
 | .int .u8 x::r=>match uQ r with
   |some l=>some (UInt8.ofNat x.toNat::l)
   |none=>none
 |_::_=>none
def uR:Row->Option (aa)
 | .is .u8 W=>some (nQ W)
 | .vs cs=>uQ cs
 |_=>none
def Co(e:TypeId)(x:V)(new:Row):es:=match x with
 | .str t=>.wh e false t
 |_=>new.EE
def fM(Nj size bytes:Nat):Bool:=decide (Nj*bytes<=281474976710/\Nj*size<=281474976710)
def J5:TypeDesc->Bool
 | .slice _=>true
 | .string=>true
 |_=>false
section
variable(P:Program)(eW:Array TypeId)(args:ag)(h:I es)
def x5(n:Nat):Option iX:=
 match eW[0]?,eW[1]?,args with
 |some st,some xt,[s,x]=>
  match uM P st,P.underlying xt with
  |some e,some xd=>
   match J5 xd,P.info? e,zeroOf P e with
   |true,some i,some z=>
    if 0<i.size/\0<i.bytes/\z.cells.length=i.size then
     match jT h i.size x with
     |some (k,new)=>
      if new.flat=true then
      match s with
      | .fk none 0 _ _=>
        match k with
        |0=>some (.val (.fk none 0 0 0) h n)
        |_=>if fM k i.size i.bytes then(match newObj h n (Co e x new)with
         |some (h',n')=>some (.val (.fk (some (n,0)) k k i.size) h' n')
         |none=>none)else none
      | .eM true len cs=>
        match k with
        |0=>some (.val (.eM true len cs) h n)
        |_=>if fM (len+k) i.size i.bytes/\cs.length=len*i.size then(match newObj h n ((Row.ds cs).app new).EE with
         |some (h',n')=>some (.val (.fk (some (n,0)) (len+k) (len+k) i.size) h' n')
         |none=>none)else none
      | .fk (some (m,o)) len kg lz=>
        if lz=i.size/\fM (len+k) i.size i.bytes/\m<gO then
         match h.get m with
         |some (.wh el AM s0)=>match uR new with
          |some t=>if(o=0/\0<kg)/\(len<=s0.length/\(AM=true->len=s0.length))/\(i.size=1/\el=e)then(match newObj (h.set m none) n (.wh el AM (s0.take len++t))with
           |some (h',n')=>some (.val (.fk (some (n,0)) (len+k) (len+k) lz) h' n')
           |none=>none)else none
          |none=>none
         |some ob=>match ob.row with
          |some r=>
           match(if r.soft=false/\len=0 then some (.vs [])else r.cut o (len*i.size):Option Row)with
           |some old=>
            if new.soft=false/\k=0 then some (.val s h n)
            else match newObj (h.set m none) n (old.app new).EE with
             |some (h',n')=>some (.val (.fk (some (n,0)) (len+k) (len+k) lz) h' n')
             |none=>none
           |none=>none
          |none=>none
         |_=>none
        else none
      |_=>none
      else none
     |none=>none
    else none
   |_,_,_=>none
  |_,_=>none
 |_,_,_=>none
def Nk:Option V:=
 match eW[0]?,args with
 |some t,[x]=>match P.underlying t,x with
  |some .string,.str s=>some (.int .i64 s.length)
  |some (.array n _),_=>some (.int .i64 n)
  |some (.slice _),.fk _ len _ _=>some (.int .i64 len)
  |some (.slice _),.eM _ len _=>some (.int .i64 len)
  |some (.map _ _),.map none=>some (.int .i64 0)
  |some (.map _ _),.map (some r)=>match h.get r with
   |some (.map O _)=>some (.int .i64 O.length)
   |some (.gL _ O)=>some (.int .i64 O.length)
   |_=>none
  |_,_=>none
 |_,_=>none
def Cp(t:TypeId)(x:V)(h:I es)(n:Nat):Option iX:=
 match P.underlying t,x with
 |some .string,.str s=>match newObj h n (.nM s 0)with
  |some (h',n')=>some (.val (.ptr (some (n,0))) h' n')
  |none=>none
 |_,_=>none
end
def O9(x:V)(Pa:Bool)(h:I es)(n:Nat):Option iX:=
 match x,Pa with
 | .ptr (some (m,0)),true=>match h.get m with
   |some (.nM s pos)=>
    if pos<s.length then
     let cw:=Utf8.decode ⟨s.toArray⟩ pos
     if m<gO then some (.val (.gK [.bool true,.int .i64 pos,.int .i32 cw.1]) (h.set m (some (.nM s (pos+cw.2)))) n)else none
    else some (.val (.gK [.bool false]) h n)
   |_=>none
 |_,_=>none
def HO:V->ag->Option V
 |x,[]=>some x
 | .int k a,.int _ b::vs=>HO (.int k (if b>a then b else a)) vs
 |_,_=>none
def HP:V->ag->Option V
 |x,[]=>some x
 | .int k a,.int _ b::vs=>HP (.int k (if b<a then b else a)) vs
 |_,_=>none
def Pb:List (Nat×Nat)->Nat->Option V
 | [],_=>none
 |p::r,g=>match Nat.beq p.1 g with
  |true=>some (.ptr (some (p.2,0)))
  |false=>Pb r g
def jn(F:I V):Operand->Option V
 | .tmp t=>F.get t
 | .const v=>L3 v
 | .func f=>some (.fn (.func f) [] [])
 | .global g=>Pb ux g
def uS(F:I V):List Operand->Option (ag)
 | []=>some []
 |x::xs=>match jn F x with
  |some v=>match uS F xs with
   |some vs=>some (v::vs)
   |none=>none
  |none=>none
def mM(F:I V):Option Operand->Option (Option V)
 |none=>some none
 |some x=>match jn F x with
  |some v=>some (some v)
  |none=>none
def p9(F:I V):List (Nat×Operand)->Option (List (Nat×V))
 | []=>some []
 |(i,x)::xs=>match jn F x with
  |some v=>match p9 F xs with
   |some vs=>some ((i,v)::vs)
   |none=>none
  |none=>none
section
variable(P:Program)(F:I V)(c:Call)(h:I es)(n:Nat)
def callee(f:FuncId):Bool:=
 match P.funcs[f]? with
 |some fn=>fn.body.isSome&&fn.name != "runtime.NumGoroutine"
 |none=>false
def lK(b:Builtin)(eW:Array TypeId)(args:ag)(h:I es)(n:Nat):Option iX:=
 match b with
 | .append=>if eW.size=2 then x5 P eW args h n else none
 | .len=>kK h n (Nk P eW args h)
 | .max=>match args with
   |x::xs=>kK h n (HO x xs)
   | []=>none
 | .min=>match args with
   |x::xs=>kK h n (HP x xs)
   | []=>none
 | .panic=>match args with
   | [.iface t v]=>some (.panic (.iface t v))
   |_=>none
 | .recover=>some .recover
 | .unsafeSliceData=>match args with
   | [.fk (some (m,o)) _ kg _]=>if 0<kg then some (.val (.ptr (some (m,o))) h n)else none
   | [.fk none _ _ _]=>some (.val (.ptr none) h n)
   |_=>none
 | .unsafeString=>match eW[0]?,args with
   |some pt,[.ptr (some (m,0)),.int .i64 l]=>match P.underlying pt,h.get m with
    |some (.pointer e),some (.wh el _ s)=>if(l=s.length/\0<s.length)/\(el=e/\P.cellsOf e=1)/\(m<gO/\eW.size=2/\s.length<=wV)then some (.val (.str s) (h.set m (some (.wh el true s))) n)else none
    |_,_=>none
   |some _,[.ptr none,.int .i64 l]=>if l=0/\eW.size=2 then some (.val (.str []) h n)else none
   |_,_=>none
 | .delete=>if eW.size=2 then FF P eW args h n else none
 |_=>none
def wG:Option iX:=
 match uS F c.args.toList with
 |some args=>match c.callee with
  | .builtin b=>lK P b c.argTypes args h n
  | .invoke _ _=>none
  | .value f=>match jn F f with
    |some (.fn (.func g) first captured)=>if callee P g then some (.call g (first++args++captured))else none
    |some (.fn (.yield m) [] [])=>match h.get m with
     |some (.loop _ _ _ ps _ _)=>if ps.length=args.length then some (.call (P.funcs.size+m) args)else none
     |_=>none
    |_=>none
 |none=>none
def Cq:Option iX:=
 match uS F c.args.toList with
 |some args=>match c.callee with
  | .value f=>match jn F f with
    |some (.fn (.func g) first captured)=>some (.uy g captured (first++args))
    |_=>none
  |_=>none
 |none=>none
end
def vJ:Fn->Bool
 | .yield _=>false
 |_=>true
def eG(P:Program)(o:Oper)(F:I V)(h:I es)(n:Nat):Option iX:=
 match o.op with
 | .move x=>kK h n (jn F x)
 | .assign x=>kK h n (jn F x)
 | .pick c a b=>match jn F c with
   |some (.bool true)=>kK h n (jn F a)
   |some (.bool false)=>kK h n (jn F b)
   |_=>none
 | .alloc e=>match zeroOf P e with
   |some z=>match newObj h n (Cj P e z)with
    |some (h',n')=>some (.val (.ptr (some (n,0))) h' n')
    |none=>none
   |none=>none
 | .box _ x=>match jn F x with
   |some v=>match newObj h n (.cells v.cells)with
    |some (h',n')=>some (.val (.ptr (some (n,0))) h' n')
    |none=>none
   |none=>none
 | .build t parts=>match p9 F parts.toList with
   |some ps=>kK h n (J3 P t ps)
   |none=>none
 | .buildSlice t len parts=>match p9 F parts.toList with
   |some ps=>oB P t len ps h n
   |none=>none
 | .load t a=>match jn F a with
   |some v=>kK h n (loadAt P t h v)
   |none=>none
 | .store t a x=>match jn F a,jn F x with
   |some av,some xv=>match storeAt P t h xv av with
    |some h'=>some (.val (.gK []) h' n)
    |none=>none
   |_,_=>none
 | .nilCheck x=>match jn F x with
   |some (.ptr (some p))=>some (.val (.ptr (some p)) h n)
   |some (.eo cs)=>some (.val (.eo cs) h n)
   |some (.fn (.func f) a c)=>some (.val (.fn (.func f) a c) h n)
   |some (.iface t v)=>some (.val (.iface t v) h n)
   |_=>none
 | .binOp op t x y _=>match jn F x,jn F y with
   |some a,some b=>kK h n (Ck P op t x y a b)
   |_,_=>none
 | .unOp op _ x=>match jn F x with
   |some v=>kK h n (unV op v)
   |none=>none
 | .convert L4 dst x=>match jn F x with
   |some v=>o9 P L4 dst v h n
   |none=>none
 | .makeInterface t x=>match jn F x,P.underlying t with
   |some v,some d=>match d with
    | .interface _=>none
    |_=>some (.val (.iface t v) h n)
   |_,_=>none
 | .makeFunc f first captured=>match uS F first.toList,uS F captured.toList with
   |some a,some c=>if vJ f=true then some (.val (.fn f a c) h n)else none
   |_,_=>none
 | .makeMap _ none=>match newObj h n (.map [] 0)with
   |some (h',n')=>some (.val (.map (some n)) h' n')
   |none=>none
 | .makeSlice t l c=>match jn F l,jn F c with
   |some l,some c=>nR P t l c h n
   |_,_=>none
 | .slice t x lo hi mx=>match jn F x,mM F lo,mM F hi,mM F mx with
   |some v,some lo,some hi,some mx=>kK h n (mK P t h v lo hi mx)
   |_,_,_,_=>none
 | .fieldAddr t x f=>match jn F x with
   |some v=>kK h n (wW P t f v)
   |none=>none
 | .field t x f=>match jn F x with
   |some v=>kK h n (J4 P t f v)
   |none=>none
 | .indexAddr t x i=>match jn F x,jn F i with
   |some v,some i=>kK h n (mL P t v i)
   |_,_=>none
 | .index t x i=>match jn F x,jn F i with
   |some v,some i=>kK h n (Cm P t v i)
   |_,_=>none
 | .lookup t x k ok=>match jn F x,jn F k with
   |some x,some k=>kK h n (vH P t h x k ok)
   |_,_=>none
 | .mapUpdate t m k v=>match jn F m,jn F k,jn F v with
   |some m,some k,some v=>s8 P t h n m k v
   |_,_,_=>none
 | .insert t m k v=>match jn F m,jn F k,jn F v with
   |some m,some k,some v=>s8 P t h n m k v
   |_,_,_=>none
 | .mapEntry t m k=>match jn F m,jn F k with
   |some m,some k=>vI P t h n m k
   |_,_=>none
 | .entryStore _ m s v=>match jn F m,jn F s,jn F v with
   |some m,some s,some v=>qN h n m s v
   |_,_,_=>none
 | .typeAssert x _ t ok=>match jn F x with
   |some v=>kK h n (uP P v t ok)
   |none=>none
 | .extract x i=>match jn F x with
   |some (.gK vs)=>kK h n (vs[i]?)
   |_=>none
 | .range t x=>match jn F x with
   |some v=>Cp P t v h n
   |none=>none
 | .next it b=>match jn F it with
   |some v=>O9 v b h n
   |none=>none
 | .panic x=>match jn F x with
   |some (.iface t v)=>some (.panic (.iface t v))
   |_=>none
 | .call c=>wG P F c h n
 | .defer c=>Cq F c
 |_=>none
structure St where
 F:I V
 h:I es
 n:Nat
 iZ:List (FuncId×ag×ag)
 deriving Inhabited
inductive fm where
 |normal
 |exit (id:Nat)
 |ret
 |panic (v:V)
inductive qb where
 |ret (v:V)
 |nI (v:V)
abbrev gu:=FuncId->ag->I es->Nat->Option (qb×I es×Nat)
def jR(F:I V)(dst:Option Nat)(v:V):Option (I V):=
 match dst with
 |none=>some F
 |some d=>if d<gO then some (F.set d (some v))else none
def gq(ops:Array Oper)(o:Oper)(F:I V):Option Bool:=
 match o.guard with
 |none=>some true
 |some (j,FG)=>match ops[j]? with
  |some q=>match q.dst with
   |some d=>match F.get d with
    |some (.bool b)=>some (b==FG)
    |some (.gK [])=>some false
    |_=>none
   |none=>none
  |none=>none
def nh{α:Type}(_:Nat):Option α:=none
def ni{α:Type}(_:Oper):Option α:=none
def BR:Op->Bool
 | .defer _=>false
 |_=>true
def jI(P:Program)(cf:gu)(ops:Array Oper):List Oper->St->Option (fm×St)
 | [],s=>some (.normal,s)
 |o::rest,s=>
  match gq ops o s.F with
  |some false=>match jR s.F o.dst (.gK [])with
   |some F=>jI P cf ops rest { s with F:=F }
   |none=>none
  |some true=>match eG P o s.F s.h s.n with
   |some (.val v h n)=>match jR s.F o.dst v with
    |some F=>jI P cf ops rest { s with F:=F,h:=h,n:=n }
    |none=>none
   |some (.call f args)=>match cf f args s.h s.n with
    |some (.ret v,h,n)=>match jR s.F o.dst v with
     |some F=>jI P cf ops rest { s with F:=F,h:=h,n:=n }
     |none=>none
    |some (.nI v,h,n)=>some (.panic v,{ s with h:=h,n:=n })
    |none=>none
   |some (.uy f c args)=>if f<gO/\BR o.op=false then(match jR s.F o.dst (.gK [])with
    |some F=>jI P cf ops rest { s with F:=F,iZ:=(f,c,args)::s.iZ }
    |none=>none)else ni o
   |some (.panic v)=>some (.panic v,s)
   |some .recover=>none
   |none=>ni o
  |none=>ni o
def qO:Option (Nat×Nat)->Option (Nat×Nat)->Bool
 |none,none=>true
 |some (a,b),some (c,d)=>Nat.beq a c&&Nat.beq b d
 |_,_=>false
def FH :Option Nat->Option Nat->Bool
 |none,none=>true
 |some a,some b=>Nat.beq a b
 |_,_=>false
def Pc:Fn->Fn->Bool
 | .func a,.func b=>Nat.beq a b
 | .yield a,.yield b=>Nat.beq a b
 |_,_=>false
mutual
def D.beq:D->D->Bool
 | .bool a,.bool b=>a==b
 | .int k a,.int j b=>decide (k=j)&&decide (a=b)
 | .str a,.str b=>mX a b
 | .eM n a,.eM m b=>Nat.beq n m&&D.pn a b
 | .agg a,.agg b=>D.pn a b
 |_,_=>false
def D.pn:ai->ai->Bool
 | [],[]=>true
 |a::x,b::y=>D.beq a b&&D.pn x y
 |_,_=>false
end
mutual
def V.beq:V->V->Bool
 | .bool a,.bool b=>a==b
 | .int k a,.int j b=>decide (k=j)&&decide (a=b)
 | .str a,.str b=>mX a b
 | .ptr a,.ptr b=>qO a b
 | .fk a l c e,.fk a' l' c' e'=>qO a a'&&Nat.beq l l'&&Nat.beq c c'&&Nat.beq e e'
 | .map a,.map b=>FH a b
 | .fn f a c,.fn g b d=>Pc f g&&V.pn a b&&V.pn c d
 | .kU,.kU=>true
 | .iface t x,.iface u y=>Nat.beq t u&&V.beq x y
 | .nilIface,.nilIface=>true
 | .agg a,.agg b=>V.pn a b
 | .gK a,.gK b=>V.pn a b
 | .eM f n a,.eM g m b=>f==g&&(Nat.beq n m&&D.pn a b)
 | .eo a,.eo b=>D.pn a b
 |_,_=>false
def V.pn:ag->ag->Bool
 | [],[]=>true
 |a::x,b::y=>V.beq a b&&V.pn x y
 |_,_=>false
end
def qd:Op->Bool
 | .store .. | .mapUpdate .. | .insert .. | .mapEntry .. | .entryStore .. | .next .. | .defer _ | .panic _=>true
 | .call { callee:=.builtin b,.. }=>match b with
   | .len | .max | .min=>false
   |_=>true
 | .call _=>true
 |_=>false
def oZ:Op->Bool
 | .move _ | .assign _ | .pick .. | .build .. | .nilCheck _ | .binOp .. | .unOp .. | .makeInterface .. | .makeFunc .. | .fieldAddr .. | .field ..
 | .indexAddr .. | .index .. | .typeAssert .. | .extract ..=>true
 |_=>false
structure Dr where
 F:I V
 eX:List Nat
 cur:Nat×I es
 oF:List (Nat×Nat×I es)
 last:Option Nat
 dM:af
 reads:List (Nat×Nat×Oper×I V×V)
 n:Nat
def eT(m i:Nat):Bool:=Nat.testBit m i
def gX(N:Nat):af->Nat->I es->Nat->I es
 | [],_,x,_=>x
 |(i,o)::r,m,x,iM=>if eT iM i&& !eT m i then(gX N r m x iM).set (N+i) (some o)else gX N r m x iM
def fH(eX:List Nat):List Edge->Nat
 | []=>0
 |e::O=>if Region.binds .any e then fH eX O|||(2^e.on|||eX.getD e.on 0)else fH eX O
def mQ(P:Program)(N i:Nat)(o:Oper)(F:I V)(v:V)(x:I es):Bool:=
 match eG P o F x (N+i)with
 |some (.val u _ k)=>Nat.beq k (N+i)&&V.beq u v
 |_=>false
def qe(P:Program)(N i:Nat)(o:Oper)(F:I V)(v:V)(dM:af)(iM:Nat):List (Nat×Nat×I es)->Bool
 | []=>true
 |(e,m,x)::r=>if eT iM e then true else mQ P N i o F v (gX N dM m x iM)&&qe P N i o F v dM iM r
def pz(P:Program)(N:Nat)(dM:af)(m:Nat)(x:I es):List (Nat×Nat×Oper×I V×V)->Bool
 | []=>true
 |(j,iM,o,F,v)::r=>(eT m j||mQ P N j o F v (gX N dM m x iM))&&pz P N dM m x r
def zI(iM:Nat):Option Nat->Bool
 |none=>true
 |some e=>eT iM e
def kW(P:Program)(N i iM:Nat)(o:Oper)(s:Dr)(v:V)(h:I es)(n:Nat):Option Dr:=
 match jR s.F o.dst v with
 |some F=>
  if pz P N s.dM iM h s.reads then
   some { F:=F,eX:=s.eX++[iM],cur:=(iM,h),oF:=(i,s.cur.1,s.cur.2)::s.oF,last:=some i,dM:=s.dM,reads:=s.reads,n:=n }
  else none
 |none=>none
def mc(P:Program)(cf:gu)(ops:Array Oper)(N i:Nat)(o:Oper)(s:Dr):Option (Dr ⊕ (I V×V×I es×Nat)):=
 let iM:=fH s.eX o.after.toList
 match gq ops o s.F with
 |some false=>match jR s.F o.dst (.gK [])with
  |some F=>some (.inl { s with F:=F,eX:=s.eX++[iM] })
  |none=>ni o
 |some true=>
  if qd o.op then
   if zI iM s.last then
    match eG P o s.F (gX N s.dM s.cur.1 s.cur.2 iM) s.n with
    |some (.val v h n)=>match kW P N i iM o s v h n with
     |some T=>some (.inl T)
     |none=>ni o
    |some (.call f args)=>match cf f args (gX N s.dM s.cur.1 s.cur.2 iM) s.n with
     |some (.ret v,h,n)=>match kW P N i iM o s v h n with
      |some T=>some (.inl T)
      |none=>ni o
     |some (.nI v,h,n)=>if Nat.beq (iM+1) (2^i)&&Nat.beq (i+1) ops.size then some (.inr (s.F,v,h,n))else ni o
     |none=>none
    |_=>ni o
   else ni o
  else
   let x:=gX N s.dM s.cur.1 s.cur.2 iM
   match eG P o s.F x (N+i)with
   |some (.val v h k)=>match jR s.F o.dst v with
    |some F=>
     if Nat.beq k (N+i)then
      if oZ o.op then some (.inl { s with F:=F,eX:=s.eX++[iM] })
      else if qe P N i o s.F v s.dM iM s.oF then
       some (.inl { s with F:=F,eX:=s.eX++[iM],reads:=(i,iM,o,s.F,v)::s.reads })
      else ni o
     else match h.get (N+i)with
      |some b=>if b.wr=true then some (.inl { s with F:=F,eX:=s.eX++[iM],dM:=(i,b)::s.dM })else ni o
      |none=>ni o
    |none=>ni o
   |_=>ni o
 |none=>ni o
def jf(P:Program)(cf:gu)(ops:Array Oper)(N:Nat):List Oper->Nat->Dr->Option (Dr ⊕ (I V×V×I es×Nat))
 | [],_,s=>some (.inl s)
 |o::r,i,s=>match mc P cf ops N i o s with
  |some (.inl T)=>jf P cf ops N r (i+1) T
  |x=>x
def drawn(P:Program)(cf:gu)(ops:Array Oper)(s:St):Option (fm×St):=
 if s.n+ops.size<gO then
  match jf P cf ops s.n ops.toList 0 { F:=s.F,eX:=[],cur:=(0,s.h),oF:=[],last:=none,dM:=[],reads:=[],n:=s.n+ops.size }with
  |some (.inl d)=>some (.normal,{ F:=d.F,h:=gX s.n d.dM d.cur.1 d.cur.2 (2^ops.size-1),n:=d.n,iZ:=s.iZ })
  |some (.inr (F,v,h,n))=>some (.panic v,{ s with F:=F,h:=h,n:=n })
  |none=>none
 else none
def rounds(f:St->Option (fm×St)):Nat->St->Option (fm×St)
 |0,_=>nh 1
 |k+1,s=>match f s with
  |some (.normal,T)=>rounds f k T
  |r=>r
def gY(P:Program)(cf:gu)(fr:Nat):Code->St->Option (fm×St)
 | .skip,s=>some (.normal,s)
 | .region _ ops false,s=>jI P cf ops ops.toList s
 | .region _ ops true,s=>drawn P cf ops s
 | .seq a b,s=>match gY P cf fr a s with
   |some (.normal,T)=>gY P cf fr b T
   |r=>r
 | .cond c a b,s=>match jn s.F c with
   |some (.bool true)=>gY P cf fr a s
   |some (.bool false)=>gY P cf fr b s
   |_=>nh 2
 | .block id body,s=>match gY P cf fr body s with
   |some (.exit id',T)=>if id'=id then some (.normal,T)else some (.exit id',T)
   |r=>r
 | .loop body,s=>rounds (gY P cf fr body) fr s
 | .exit id,s=>some (.exit id,s)
 | .ret,s=>some (.ret,s)
 | .rangeFunc g ps assign body,s=>match jn s.F g with
   |some (.fn (.func gf) [] lb)=>
    if callee P gf=true/\s.n+1<gO then
     match cf gf (.fn (.yield (s.n+1)) [] []::lb) ((s.h.set s.n (some .uy)).set (s.n+1) (some (.loop true none s.F ps.toList assign body))) (s.n+2)with
     |some (.ret _,h,n)=>match h.get s.n,h.get (s.n+1)with
      |some .uy,some (.loop true none _ _ _ _)=>some (.normal,{ s with h:=h.set (s.n+1) none,n:=n,iZ:=(gO,[],[.map (some s.n)])::s.iZ })
      |some .uy,some (.loop false (some .ret) _ _ _ _)=>some (.ret,{ s with h:=h.set (s.n+1) none,n:=n,iZ:=(gO,[],[.map (some s.n)])::s.iZ })
      |some .uy,some (.loop false (some (.exit id)) _ _ _ _)=>some (.exit id,{ s with h:=h.set (s.n+1) none,n:=n,iZ:=(gO,[],[.map (some s.n)])::s.iZ })
      |_,_=>nh 31
     |_=>nh 32
    else nh 33
   |_=>nh 34
 |_,_=>nh 3
def mE:ag->Nat->I V->I V
 | [],_,t=>t
 |v::vs,i,t=>mE vs (i+1) (t.set i (some v))
def FI(P:Program)(F:I V)(h:I es):ResultVar->Option V
 | .tmp t=>F.get t
 | .cell a t=>match F.get a with
   |some v=>loadAt P t h v
   |none=>none
def lM(P:Program)(F:I V)(h:I es):List ResultVar->Option (ag)
 | []=>some []
 |r::rs=>match FI P F h r with
  |some v=>match lM P F h rs with
   |some vs=>some (v::vs)
   |none=>none
  |none=>none
def oneOf:ag->V
 | [v]=>v
 |vs=>.gK vs
inductive Mode where
 |ret
 |nI (v:V) (rec:Bool)
def qP(P:Program)(cf:gu)(ops:Array Oper):List Oper->St->Mode->Option (fm×St×Mode)
 | [],s,m=>some (.normal,s,m)
 |o::rest,s,m=>
  match gq ops o s.F with
  |some false=>match jR s.F o.dst (.gK [])with
   |some F=>qP P cf ops rest { s with F:=F } m
   |none=>none
  |some true=>match eG P o s.F s.h s.n with
   |some (.val v h n)=>match jR s.F o.dst v with
    |some F=>qP P cf ops rest { s with F:=F,h:=h,n:=n } m
    |none=>none
   |some .recover=>match m with
    | .nI v false=>match jR s.F o.dst v with
      |some F=>qP P cf ops rest { s with F:=F } (.nI v true)
      |none=>none
    |m=>match jR s.F o.dst .nilIface with
     |some F=>qP P cf ops rest { s with F:=F } m
     |none=>none
   |_=>ni o
  |none=>ni o
def ud(P:Program)(cf:gu)(fr:Nat):Code->St->Mode->Option (fm×St×Mode)
 | .region _ ops false,s,m=>qP P cf ops ops.toList s m
 | .seq a b,s,m=>match ud P cf fr a s m with
   |some (.normal,T,m')=>ud P cf fr b T m'
   |r=>r
 | .cond c a b,s,m=>match jn s.F c with
   |some (.bool true)=>ud P cf fr a s m
   |some (.bool false)=>ud P cf fr b s m
   |_=>nh 5
 |c,s,m=>match gY P cf fr c s with
  |some (x,T)=>some (x,T,m)
  |none=>none
def nj(P:Program)(cf:gu)(fr:Nat)(fn:Func)(F:I V):List (FuncId×ag×ag)->Mode->I es->Nat->Option (qb×I es×Nat)
 | [],.ret,h,n=>match lM P F h fn.results.toList with
   |some vs=>some (.ret (oneOf vs),h,n)
   |none=>nh 11
 | [],.nI v false,h,n=>some (.nI v,h,n)
 | [],.nI _ true,_,_=>nh 12
 |(g,c,args)::ds,m,h,n=>
  if gO<=g then(match args with
   | [.map (some b)]=>(match h.get b with
     |some .uy=>if b<gO then nj P cf fr fn F ds m (h.set b none) n else nh 41
     |_=>nh 42)
   |_=>nh 43)else
  match P.funcs[g]? with
  |some gn=>match gn.body with
   |some code=>
    if callee P g=true/\(args++c).length<=gn.ntmps/\gn.ntmps<gO then
     match ud P cf fr code { F:=mE (args++c) 0 .nil,h:=h,n:=n,iZ:=[] } m with
     |some (.normal,T,m')=>
      (match T.iZ with
      | []=>match lM P T.F T.h gn.results.toList with
        |some _=>nj P cf fr fn F ds (match m' with | .nI _ true=>.ret|m=>m) T.h T.n
        |none=>nh 13
      |_=>nh 14)
     |some (.ret,T,m')=>
      (match T.iZ with
      | []=>match lM P T.F T.h gn.results.toList with
        |some _=>nj P cf fr fn F ds (match m' with | .nI _ true=>.ret|m=>m) T.h T.n
        |none=>nh 15
      |_=>nh 16)
     |_=>nh 17
    else none
   |none=>nh 18
  |none=>nh 19
def enter(P:Program)(cf:gu)(fr:Nat)(f:FuncId)(args:ag)(h:I es)(n:Nat):Option (qb×I es×Nat):=
 match P.funcs[f]? with
 |some fn=>match fn.body with
  |some code=>
   if args.length<=fn.ntmps/\fn.ntmps<gO then
    match gY P cf fr code { F:=mE args 0 .nil,h:=h,n:=n,iZ:=[] }with
    |some (.normal,s)=>nj P cf fr fn s.F s.iZ .ret s.h s.n
    |some (.ret,s)=>nj P cf fr fn s.F s.iZ .ret s.h s.n
    |some (.panic v,s)=>nj P cf fr fn s.F s.iZ (.nI v false) s.h s.n
    |_=>nh 20
   else none
  |none=>nh 21
 |none=>nh 22
def kB:Code->Bool
 | .region _ ops _=>ops.toList.all fun o=>BR o.op
 | .seq a b=>kB a&&kB b
 | .cond _ a b=>kB a&&kB b
 | .block _ c=>kB c
 | .loop c=>kB c
 | .rangeFunc ..=>false
 |_=>true
def wX:List (Nat×V)->I V->Option (I V)
 | [],t=>some t
 |(i,v)::r,t=>if i<gO then wX r (t.set i (some v))else none
def J6:List Nat->ag->List (Nat×V)
 |i::is,v::vs=>(i,v)::J6 is vs
 |_,_=>[]
def wY(P:Program)(cf:gu)(fr:Nat)(m:Nat)(args:ag)(h:I es)(n:Nat):Option (qb×I es×Nat):=
 match h.get m with
 |some (.loop true none F ps assign body)=>
  if m<gO/\ps.length=args.length/\kB assign=true/\kB body=true then
   match wX (J6 ps args) F with
   |some L5=>match gY P cf fr assign { F:=L5,h:=h.set m none,n:=n,iZ:=[] }with
    |some (.normal,s1)=>match gY P cf fr body s1 with
     |some (.normal,s2)=>some (.ret (.bool true),s2.h.set m (some (.loop true none F ps assign body)),s2.n)
     |some (.ret,s2)=>some (.ret (.bool false),s2.h.set m (some (.loop false (some .ret) F ps assign body)),s2.n)
     |some (.exit id,s2)=>some (.ret (.bool false),s2.h.set m (some (.loop false (some (.exit id)) F ps assign body)),s2.n)
     |_=>nh 51
    |_=>nh 52
   |none=>nh 53
  else nh 54
 |_=>nh 55
def call(P:Program)(fr:Nat):Nat->gu
 |0=>fun _ _ _ _=>nh 23
 |k+1=>fun f args h n=>if f<P.funcs.size then enter P (call P fr k) fr f args h n else wY P (call P fr k) fr (f-P.funcs.size) args h n
def pb(l:List Oper):List Nat:=l.foldl (fun EG o=>EG++[fH EG o.after.toList]) []
section
variable(ops:Array Oper)
def uT(o:Oper):List Nat:=
 (o.op.operands.toList.filterMap fun x=>match x with | .tmp t=>some t|_=>none) ++
  (match o.guard with|some (j,_)=>(match ops[j]? with|some q=>q.dst.toList|none=>[])|none=>[])
def FJ(m:List Nat)(i j:Nat):Bool:=
 match ops[i]?,ops[j]? with
 |some o,some q=>match o.dst with
  |some t=>(match q.dst with|some u=>!Nat.beq t u|none=>true) &&
    (if(uT ops q).contains t then(if i<j then eT (m.getD j 0) i else eT (m.getD i 0) j)else true)
  |none=>true
 |_,_=>true
def Pd(n0:Nat):Bool:=
 let m:=pb ops.toList
 (List.range ops.size).all fun j=>match ops[j]? with
  |some o=>o.after.toList.all (fun e=>!Region.binds .any e||decide (e.on<j))&&(match o.dst with|some d=>decide (d<n0)|none=>true) &&
    (List.range ops.size).all fun i=>Nat.beq i j||FJ ops m i j
  |none=>true
end
def fe(n0:Nat):Code->Bool
 | .region _ ops Cr=>ops.toList.all (fun o=>match o.dst with|some d=>decide (d<n0)|none=>true)&&(if Cr then Pd ops n0 else true)
 | .seq a b=>fe n0 a&&fe n0 b
 | .cond _ a b=>fe n0 a&&fe n0 b
 | .block _ c=>fe n0 c
 | .loop c=>fe n0 c
 | .scope c=>fe n0 c
 | .rangeFunc _ ps a b=>ps.toList.all (fun p=>decide (p<n0))&&(fe n0 a&&fe n0 b)
 |_=>true
structure Env where
 ι:Nat->Option (Nat×Nat)
 β:Nat->Nat
 φ:Nat->Option (Array Value)
mutual
def lF(φ:Nat->Option (Array Value)):D->Value->Prop
 | .bool b,v=>v= .bool b
 | .int k n,v=>v= .int k n
 | .str s,v=>v= .string ⟨s.toArray⟩
 | .eM n cs,v=>∃a kg vs,v= .slice a n kg/\n<=kg/\jl φ cs vs/\(n=0->cs=[])/\
    (0<n->∃b o c,a=some ⟨b,o,none⟩/\φ b=some c/\∀(j:Nat) (w:Value),vs[j]? =some w->c[o+j]? =some w)
 | .agg cs,v=>∃vs,jl φ cs vs/\v= .agg vs.toArray
def jl(φ:Nat->Option (Array Value)):ai->List Value->Prop
 | [],l=>l=[]
 |x::xs,l=>∃y ys,x.scalar=true/\lF φ x y/\jl φ xs ys/\l=y::ys
end
def AO(E:Env):Fn->Fn->Prop
 | .yield m,f'=>∃l s,E.ι m=some (l,s)/\f'= .yield l
 |f,f'=>f'=f
mutual
def eH(E:Env):V->Value->Prop
 | .bool b,v=>v= .bool b
 | .int k n,v=>v= .int k n
 | .str s,v=>v= .string ⟨s.toArray⟩
 | .ptr none,v=>v= .pointer none
 | .ptr (some (m,o)),v=>∃b s,E.ι m=some (b,s)/\v= .pointer (some ⟨b,s+o,none⟩)
 | .fk none len kg _,v=>len=0/\kg=0/\v= .slice none 0 0
 | .fk (some (m,o)) len kg lz,v=>∃b s o' gZ,E.ι m=some (b,s)/\(0<kg->o'=s+o)/\len<=kg/\kg<=gZ/\o'+gZ*lz<=E.β b/\
    v= .slice (some ⟨b,o',none⟩) len gZ
 | .map none,v=>v= .map none
 | .map (some m),v=>∃b,E.ι m=some (b,0)/\v= .map (some b)
 | .fn f a c,v=>∃f' a' c',AO E f f'/\eK E a a'/\eK E c c'/\v= .func f' a'.toArray c'.toArray
 | .kU,v=>v= .nilFunc
 | .iface t x,v=>∃x',eH E x x'/\v= .iface t x'
 | .nilIface,v=>v= .nilIface
 | .agg cs,v=>∃cs',eK E cs cs'/\v= .agg cs'.toArray
 | .gK cs,v=>∃cs',eK E cs cs'/\v= .tuple cs'.toArray
 | .eM f n cs,v=>lF E.φ (.eM n cs) v/\(f=true->∃a,v= .slice a n n)
 | .eo cs,v=>∃b o c vs,v= .pointer (some ⟨b,o,none⟩)/\E.φ b=some c/\jl E.φ cs vs/\∀(j:Nat) (w:Value),vs[j]? =some w->c[o+j]? =some w
def eK(E:Env):ag->List Value->Prop
 | [],l=>l=[]
 |x::xs,l=>∃y ys,eH E x y/\eK E xs ys/\l=y::ys
end
structure Env.le(E E':Env):Prop where
 nm:∀m b s,E.ι m=some (b,s)->E'.ι m=some (b,s)/\E'.β b=E.β b
 fz:∀b c,E.φ b=some c->E'.φ b=some c
def GE(E:Env):Prop:=∀p∈ux,E.ι p.2=some (p.1,0)
theorem GE.mono{E E':Env}(h:GE E)(k:E.le E'):GE E':=fun p hp=>(k.nm _ _ _ (h p hp)).1
theorem HQ:∀{l:List (Nat×Nat)} {g:Nat} {v:V},Pb l g=some v->∃m,(g,m)∈l/\v= .ptr (some (m,0))
 | [],_,_,h=>by cases h
 |p::r,g,v,h=>by
  unfold Pb at h;split at h
  . rename_i U;cases h;exact⟨p.2,aA.2 (.inl (by rw[<- aJ U])),rfl⟩
  . obtain⟨m,h1,C⟩:=HQ h;exact⟨m,bh _ h1,C⟩
theorem HR{E:Env}(h:GE E){g:Nat}{v:V}(e:Pb ux g=some v):eH E v (.pointer (some ⟨g,0,none⟩)):=by
 obtain⟨m,h1,rfl⟩:=HQ e;exact⟨g,0,h _ h1,rfl⟩
theorem Env.le_refl(E:Env):E.le E:=⟨fun _ _ _ h=>⟨h,rfl⟩,fun _ _ h=>h⟩
theorem Env.le_trans{hc aj h2:Env}(h:hc.le aj)(k:aj.le h2):hc.le h2:=⟨fun m b s e=>
 ⟨(k.nm m b s (h.nm m b s e).1).1,(k.nm m b s (h.nm m b s e).1).2.trans (h.nm m b s e).2⟩,fun b c e=>k.fz b c (h.fz b c e)⟩
mutual
theorem mR{φ HS:Nat->Option (Array Value)}(h:∀b c,φ b=some c->HS b=some c):∀(d:D) (v:Value),lF φ d v->lF HS d v
 | .bool _,_,r=>r
 | .int _ _,_,r=>r
 | .str _,_,r=>r
 | .eM _ cs,_,⟨a,kg,vs,e,A,r,h0,h1⟩=>⟨a,kg,vs,e,A,ja h cs vs r,h0,fun hn=>let⟨b,o,c,e1,e2,e3⟩:=h1 hn;⟨b,o,c,e1,h _ _ e2,e3⟩⟩
 | .agg cs,_,⟨vs,r,e⟩=>⟨vs,ja h cs vs r,e⟩
theorem ja{φ HS:Nat->Option (Array Value)}(h:∀b c,φ b=some c->HS b=some c):∀(d:ai) (v:List Value),jl φ d v->jl HS d v
 | [],_,r=>r
 |x::xs,_,⟨y,ys,s,r,rs,e⟩=>⟨y,ys,s,mR h x y r,ja h xs ys rs,e⟩
end
mutual
theorem rT{E:Env}:∀(d:D) (v:Value),lF E.φ d v->eH E d.kx v
 | .bool _,_,r=>r
 | .int _ _,_,r=>r
 | .str _,_,r=>r
 | .eM _ _,_,r=>⟨r,fun h=>by cases h⟩
 | .agg cs,_,⟨vs,r,e⟩=>⟨vs,rU cs vs r,e⟩
theorem rU{E:Env}:∀(d:ai) (v:List Value),jl E.φ d v->eK E (D.gk d) v
 | [],_,r=>r
 |x::xs,_,⟨y,ys,_,r,rs,e⟩=>⟨y,ys,rT x y r,rU xs ys rs,e⟩
end
mutual
theorem HT{E:Env}:∀(d:D) (v:Value),eH E d.kx v->(∀cs,d= .agg cs->∀x∈cs,x.scalar=true)->lF E.φ d v
 | .bool _,_,r,_=>r
 | .int _ _,_,r,_=>r
 | .str _,_,r,_=>r
 | .eM _ _,_,r,_=>r.1
 | .agg cs,_,⟨vs,r,e⟩,h=>⟨vs,Cs cs vs r (h cs rfl),e⟩
theorem Cs{E:Env}:∀(d:ai) (v:List Value),eK E (D.gk d) v->(∀x∈d,x.scalar=true)->jl E.φ d v
 | [],_,r,_=>r
 |x::xs,_,⟨y,ys,r,rs,e⟩,h=>⟨y,ys,h x (by simp),HT x y r (fun cs q=>by have:=h x (by simp);rw[q]at this;cases this),Cs xs ys rs (fun z hz=>h z (by simp[hz])),e⟩
end
theorem pA{φ:Nat->Option (Array Value)}:∀{xs:ai} {ys:List Value},jl φ xs ys->ys.length=xs.length
 | [],_,r=>by simp only[jl]at r;subst r;rfl
 |_::_,_,r=>by obtain⟨y,ys,_,_,rs,rfl⟩:=r;simp[pA rs]
theorem vK{φ:Nat->Option (Array Value)}:∀{xs:ai} {ys:List Value},jl φ xs ys->∀(i:Nat) (d:D),xs[i]? =some d->∃v',ys[i]? =some v'/\d.scalar=true/\lF φ d v'
 | [],_,r,i,v,h=>by simp at h
 |x::xs,_,r,i,v,h=>by
  obtain⟨y,ys,s0,r0,rs,rfl⟩:=r;cases i with
  |zero=>simp at h;subst h;exact⟨y,by simp,s0,r0⟩
  |succ i=>simp at h;obtain⟨v',h1,C⟩:=vK rs i v h;exact⟨v',by simpa using h1,C⟩
theorem pC{φ:Nat->Option (Array Value)}:∀{xs:ai} {ys:List Value},xs.length=ys.length->(∀(i:Nat) (d:D),xs[i]? =some d->∃v',ys[i]? =some v'/\d.scalar=true/\lF φ d v')->jl φ xs ys
 | [],[],_,_=>rfl
 | [],_::_,h,_=>by simp at h
 |_::_,[],h,_=>by simp at h
 |x::xs,y::ys,h,r=>by
  obtain⟨v',h1,C,h3⟩:=r 0 x (by simp);simp at h1;subst h1;exact⟨y,ys,C,h3,pC (by simpa using h) (fun i v hi=>r (i+1) v (by simpa using hi)),rfl⟩
section
variable{φ:Nat->Option (Array Value)}{n:Nat}{xs:ai}{ys:List Value}
theorem wZ(r:jl φ xs ys):jl φ (xs.take n) (ys.take n):=by
 refine pC (by simp[pA r]) fun i v h=>?_;rw[cg]at h ⊢;split at h
 . rename_i hi;rw[aF hi];exact vK r i v h
 . simp at h
theorem qf(r:jl φ xs ys):jl φ (xs.drop n) (ys.drop n):=by
 refine pC (by simp[pA r]) fun i v h=>?_;rw[cj]at h ⊢;exact vK r _ v h
end
theorem pD{φ:Nat->Option (Array Value)}:∀{xs zx:ai} {ys EH:List Value},jl φ xs ys->jl φ zx EH->jl φ (xs++zx) (ys++EH)
 | [],_,_,_,r,r'=>by simp only[jl]at r;subst r;simpa using r'
 |x::xs,_,_,_,r,r'=>by
  obtain⟨y,ys,s0,r0,rs,rfl⟩:=r;exact⟨y,_,s0,r0,pD rs r',rfl⟩
theorem jB{φ:Nat->Option (Array Value)}:∀{xs:ai} {ys:List Value},jl φ xs ys->∀x∈xs,x.scalar=true
 | [],_,_,x,h=>by simp at h
 |a::xs,_,r,x,h=>by
  obtain⟨y,ys,s0,_,rs,_⟩:=r;rcases aA.1 h with rfl|h
  . exact s0
  . exact jB rs x h
theorem J7{d:D}(h:d.scalar=true):d.kx.scalar=true:=by cases d<;>first|rfl|(simp[D.scalar]at h)
theorem AP{ds:ai}(h:∀x∈ds,x.scalar=true):(D.gk ds).all V.scalar=true:=by
 rw[D.gy,bw];intro x K;obtain⟨d,hd,rfl⟩:=bP.1 K;exact J7 (h d hd)
theorem J8{E E':Env}(h:E.le E'):∀(f f':Fn),AO E f f'->AO E' f f'
 | .yield _,_,⟨l,s,e,q⟩=>⟨l,s,(h.nm _ _ _ e).1,q⟩
 | .func _,_,r=>r
 | .method _,_,r=>r
 | .methodOf _ _,_,r=>r
 | .via _ _ _ _,_,r=>r
mutual
theorem jU{E E':Env}(h:E.le E'):∀(v:V) (v':Value),eH E v v'->eH E' v v'
 | .bool _,_,r=>r
 | .int _ _,_,r=>r
 | .str _,_,r=>r
 | .ptr none,_,r=>r
 | .ptr (some (_,_)),_,⟨b,s,e,q⟩=>⟨b,s,(h.nm _ _ _ e).1,q⟩
 | .fk none _ _ _,_,r=>r
 | .fk (some (_,_)) _ _ _,_,⟨b,s,o',gZ,e,q1,q2,q3,q4,q5⟩=>⟨b,s,o',gZ,(h.nm _ _ _ e).1,q1,q2,q3,(h.nm _ _ _ e).2▸q4,q5⟩
 | .map none,_,r=>r
 | .map (some _),_,⟨b,e,q⟩=>⟨b,(h.nm _ _ _ e).1,q⟩
 | .fn _ a c,_,⟨f',a',c',rf,ra,rc,q⟩=>⟨f',a',c',J8 h _ _ rf,lN h a a' ra,lN h c c' rc,q⟩
 | .kU,_,r=>r
 | .iface _ x,_,⟨x',r,q⟩=>⟨x',jU h x x' r,q⟩
 | .nilIface,_,r=>r
 | .agg cs,_,⟨cs',r,q⟩=>⟨cs',lN h cs cs' r,q⟩
 | .gK cs,_,⟨cs',r,q⟩=>⟨cs',lN h cs cs' r,q⟩
 | .eM _ _ _,_,⟨r,q⟩=>⟨mR h.fz _ _ r,q⟩
 | .eo cs,_,⟨b,o,c,vs,e,e1,r,q⟩=>⟨b,o,c,vs,e,h.fz _ _ e1,ja h.fz cs vs r,q⟩
theorem lN{E E':Env}(h:E.le E'):∀(v:ag) (v':List Value),eK E v v'->eK E' v v'
 | [],_,r=>r
 |x::xs,_,⟨y,ys,r,rs,q⟩=>⟨y,ys,jU h x y r,lN h xs ys rs,q⟩
end
theorem fE{E:Env}:∀{xs:ag} {ys:List Value},eK E xs ys->ys.length=xs.length
 | [],_,r=>by simp only[eK]at r;subst r;rfl
 |_::_,_,r=>by obtain⟨y,ys,_,rs,rfl⟩:=r;simp[fE rs]
theorem iq{E:Env}:∀{xs:ag} {ys:List Value},eK E xs ys->∀(i:Nat) (v:V),xs[i]? =some v->∃v',ys[i]? =some v'/\eH E v v'
 | [],_,_,i,v,h=>by simp at h
 |x::xs,_,r,i,v,h=>by
  obtain⟨y,ys,r0,rs,rfl⟩:=r;cases i with
  |zero=>simp at h;subst h;exact⟨y,by simp,r0⟩
  |succ i=>simp at h;obtain⟨v',h1,C⟩:=iq rs i v h;exact⟨v',by simpa using h1,C⟩
theorem jZ{E:Env}:∀{xs:ag} {ys:List Value},xs.length=ys.length->(∀(i:Nat) (v:V),xs[i]? =some v->∃v',ys[i]? =some v'/\eH E v v')->eK E xs ys
 | [],[],_,_=>rfl
 | [],_::_,h,_=>by simp at h
 |_::_,[],h,_=>by simp at h
 |x::xs,y::ys,h,r=>by
  obtain⟨v',h1,C⟩:=r 0 x (by simp);simp at h1;subst h1;exact⟨y,ys,C,jZ (by simpa using h) (fun i v hi=>r (i+1) v (by simpa using hi)),rfl⟩
theorem jg{E:Env}:∀{xs zx:ag} {ys EH:List Value},eK E xs ys->eK E zx EH->eK E (xs++zx) (ys++EH)
 | [],_,_,_,r,r'=>by simp only[eK]at r;subst r;simpa using r'
 |x::xs,_,_,_,r,r'=>by
  obtain⟨y,ys,r0,rs,rfl⟩:=r;exact⟨y,_,r0,jg rs r',rfl⟩
section
variable{E:Env}{n:Nat}
theorem Ct:∀{xs:ag} {ys:List Value},eK E xs ys->eK E (xs.take n) (ys.take n):=by
 intro xs ys r;refine jZ (by simp[fE r]) fun i v h=>?_;rw[cg]at h ⊢;split at h
 . rename_i hi;rw[aF hi];exact iq r i v h
 . simp at h
theorem Cu:∀{xs:ag} {ys:List Value},eK E xs ys->eK E (xs.drop n) (ys.drop n):=by
 intro xs ys r;refine jZ (by simp[fE r]) fun i v h=>?_;rw[cj]at h ⊢;exact iq r _ v h
theorem jb:∀{v:V} {v':Value},eH E v v'->eK E v.cells v'.cells.toList:=by
 intro v v' r;have one:∀{x:V} {y:Value},eH E x y->y.cells=#[y]->x.cells=[x]->eK E x.cells y.cells.toList:=by
  intro x y r h1 C;rw[h1,C];exact⟨y,[],r,rfl,rfl⟩
 cases v with
 |agg cs=>obtain⟨cs',rs,rfl⟩:=r;simpa[V.cells,Value.cells]using rs
 |bool b=>simp only[eH]at r;subst r;exact one (by simp[eH]) rfl rfl
 |int k n=>simp only[eH]at r;subst r;exact one (by simp[eH]) rfl rfl
 |str s=>simp only[eH]at r;subst r;exact one (by simp[eH]) rfl rfl
 |ptr a=>refine one r ?_ rfl;cases a<;>simp only[eH]at r;. subst r;rfl
         . obtain⟨b,s,_,rfl⟩:=r;rfl
 |fk a l c e=>refine one r ?_ rfl;cases a<;>simp only[eH]at r;. obtain⟨_,_,rfl⟩:=r;rfl
              . obtain⟨b,s,_,_,_,_,_,_,_,rfl⟩:=r;rfl
 |map a=>refine one r ?_ rfl;cases a<;>simp only[eH]at r;. subst r;rfl
         . obtain⟨b,_,rfl⟩:=r;rfl
 |fn f a c=>refine one r ?_ rfl;obtain⟨_,_,_,_,_,_,rfl⟩:=r;rfl
 |kU=>simp only[eH]at r;subst r;exact one (by simp[eH]) rfl rfl
 |iface t x=>refine one r ?_ rfl;obtain⟨_,_,rfl⟩:=r;rfl
 |nilIface=>simp only[eH]at r;subst r;exact one (by simp[eH]) rfl rfl
 |gK vs=>refine one r ?_ rfl;obtain⟨_,_,rfl⟩:=r;rfl
 |eM f n cs=>refine one r ?_ rfl;obtain⟨⟨_,_,_,rfl,_⟩,_⟩:=r;rfl
 |eo cs=>refine one r ?_ rfl;obtain⟨_,_,_,_,rfl,_⟩:=r;rfl
theorem uU:∀{v:V} {v':Value},eH E v v'->v.scalar=true->v'.oneCell'=true:=by
 intro v v' r h;cases v with
 |agg cs=>simp[V.scalar]at h
 |gK cs=>simp[V.scalar]at h
 |bool b=>simp only[eH]at r;subst r;rfl
 |int k n=>simp only[eH]at r;subst r;rfl
 |str s=>simp only[eH]at r;subst r;rfl
 |ptr a=>cases a<;>simp only[eH]at r;. subst r;rfl
         . obtain⟨b,s,_,rfl⟩:=r;rfl
 |fk a l c e=>cases a<;>simp only[eH]at r;. obtain⟨_,_,rfl⟩:=r;rfl
              . obtain⟨b,s,_,_,_,_,_,_,_,rfl⟩:=r;rfl
 |map a=>cases a<;>simp only[eH]at r;. subst r;rfl
         . obtain⟨b,_,rfl⟩:=r;rfl
 |fn f a c=>obtain⟨_,_,_,_,_,_,rfl⟩:=r;rfl
 |kU=>simp only[eH]at r;subst r;rfl
 |iface t x=>obtain⟨_,_,rfl⟩:=r;rfl
 |nilIface=>simp only[eH]at r;subst r;rfl
 |eM f n cs=>obtain⟨⟨_,_,_,rfl,_⟩,_⟩:=r;rfl
 |eo cs=>obtain⟨_,_,_,_,rfl,_⟩:=r;rfl
end
theorem I.x6{α:Type}:∀(f:Nat) (t:I α) (k:Nat) (x:Option α) (j:Nat),k+1<2^f->(I.rz f t k x).get j=if j=k then x else t.get j
 |0,t,k,x,j,h=>by simp at h
 |f+1,t,k,x,j,h=>by
  have hk:∀k',k=k'+1->k'/2+1<2^f:=by intro k' e;subst e;rw[Nat.pow_succ]at h;omega
  cases t with
  |nil=>
   cases k with
   |zero=>
    cases j with
    |zero=>simp[I.rz,I.get]
    |succ j=>simp only[I.rz,I.get];rw[aD S];split<;>rfl
   |succ k=>
    have ih:=fun j=>I.x6 f (.nil:I α) (k/2) x j (hk k rfl);rcases dr k with e|e
    . cases j with
      |zero=>simp[I.rz,I.get,e]
      |succ j=>
       rcases dr j with e'|e'
       . simp only[I.rz,e,I.get,e',ih];by_cases hj:j=k
         . subst hj;simp
         . rw[aD S,aD S]
       . simp only[I.rz,e,I.get,e'];rw[aD S]
    . cases j with
      |zero=>simp[I.rz,I.get,e]
      |succ j=>
       rcases dr j with e'|e'
       . simp only[I.rz,e,I.get,e'];rw[aD S]
       . simp only[I.rz,e,I.get,e',ih];by_cases hj:j=k
         . subst hj;simp
         . rw[aD S,aD S]
  |node v l r=>
   cases k with
   |zero=>cases j<;>simp[I.rz,I.get]
   |succ k=>
    have ihl:=fun j=>I.x6 f l (k/2) x j (hk k rfl);have ihr:=fun j=>I.x6 f r (k/2) x j (hk k rfl);rcases dr k with e|e
    . cases j with
      |zero=>simp[I.rz,I.get,e]
      |succ j=>
       rcases dr j with e'|e'
       . simp only[I.rz,e,I.get,e',ihl];by_cases hj:j=k
         . subst hj;simp
         . rw[aD S,aD S]
       . simp only[I.rz,e,I.get,e'];rw[aD S]
    . cases j with
      |zero=>simp[I.rz,I.get,e]
      |succ j=>
       rcases dr j with e'|e'
       . simp only[I.rz,e,I.get,e'];rw[aD S]
       . simp only[I.rz,e,I.get,e',ihr];by_cases hj:j=k
         . subst hj;simp
         . rw[aD S,aD S]
section
variable{α:Type}(t:I α){k:Nat}(x:Option α)
theorem I.gC(j:Nat)(h:k<gO):(t.set k x).get j=if j=k then x else t.get j:=
 I.x6 33 t k x j (by unfold gO at h;omega)
theorem I.pE(h:k<gO):(t.set k x).get k=x:=by rw[I.gC t x k h,aF rfl]
theorem I.w6{j:Nat}(x:Option α)(h:k<gO)(hj:j≠k):(t.set k x).get j=t.get j:=by rw[I.gC t x j h,aD hj]
end
def kX(E:Env):List (V×V×Nat)->List MapEntry->Prop
 | [],l=>l=[]
 |x::xs,l=>∃y ys,eH E x.1 y.key/\eH E x.2.1 y.val/\y.born=x.2.2/\kX E xs ys/\l=y::ys
theorem Cv{E E':Env}(h:E.le E'):∀(xs:List (V×V×Nat)) (ys:List MapEntry),kX E xs ys->kX E' xs ys
 | [],_,r=>r
 |_::xs,_,⟨y,ys,a,b,c,r,q⟩=>⟨y,ys,jU h _ _ a,jU h _ _ b,c,Cv h xs ys r,q⟩
def kY(φ:Nat->Option (Array Value)):ae->List MapEntry->Prop
 | [],l=>l=[]
 |x::xs,l=>∃y ys,lF φ x.1 y.key/\lF φ x.2 y.val/\kY φ xs ys/\l=y::ys
theorem s9{φ HS:Nat->Option (Array Value)}(h:∀b c,φ b=some c->HS b=some c):∀(xs:ae) (ys:List MapEntry),kY φ xs ys->kY HS xs ys
 | [],_,r=>r
 |_::xs,_,⟨y,ys,a,b,r,q⟩=>⟨y,ys,mR h _ _ a,mR h _ _ b,s9 h xs ys r,q⟩
structure kC(φ:Nat->Option (Array Value))(kd:Option IntKind)(O:ae)(ga:List MapEntry)(fA:Nat):Prop where
 row:∃l,List.Perm l O/\kY φ l ga
 keys:(O.map (·.1)).Nodup
 kind:∀e∈O,gS kd e.1=true
 old:∀e∈ga,e.born<fA
 born:(ga.map (·.born)).Nodup
theorem kC.mono{φ HS:Nat->Option (Array Value)}(h:∀b c,φ b=some c->HS b=some c){kd:Option IntKind}{O:ae}{ga:List MapEntry}{fA:Nat}(r:kC φ kd O ga fA):kC HS kd O ga fA:=
 ⟨let⟨l,h1,C⟩:=r.row;⟨l,h1,s9 h _ _ C⟩,r.keys,r.kind,r.old,r.born⟩
structure me(φ:Nat->Option (Array Value))(kd:Option IntKind)(O:ae)(ga:List MapEntry):Prop where
 row:kY φ O ga
 keys:(O.map (·.1)).Nodup
 kind:∀e∈O,gS kd e.1=true
 born:ga.map (·.born)=List.range O.length
theorem me.mono{φ HS:Nat->Option (Array Value)}(h:∀b c,φ b=some c->HS b=some c){kd:Option IntKind}{O:ae}{ga:List MapEntry}(r:me φ kd O ga):me HS kd O ga:=
 ⟨s9 h _ _ r.row,r.keys,r.kind,r.born⟩
theorem me.rel{φ:Nat->Option (Array Value)}{kd:Option IntKind}{O:ae}{ga:List MapEntry}(r:me φ kd O ga):kC φ kd O ga O.length:=
 ⟨⟨O,.refl _,r.row⟩,r.keys,r.kind,fun e he=>by
  have:e.born∈ga.map (·.born):=bP.2 ⟨e,he,rfl⟩;rw[r.born]at this;exact bQ.1 this,by rw[r.born];exact List.nodup_range⟩
def nk(fz:Nat×Nat)(n:Nat):Prop:=∀i,i<n->¬(fz.1<=i/\i<fz.2)
def mj(E:Env)(s:Nat)(cs:ag)(c:Array Value):Prop:=∀(i:Nat) (v:V),cs[i]? =some v->∃v',c[s+i]? =some v'/\eH E v v'
def Pe(E:Env)(F:I V)(tmps:Array Value):Prop:=∀t v,F.get t=some v->∃v',tmps[t]? =some v'/\eH E v v'
section
variable{E E':Env}{s:Nat}
theorem zJ(h:E.le E'){F:I V}{a:Array Value}(r:Pe E F a):Pe E' F a:=fun t v e=>let⟨v',h1,C⟩:=r t v e;⟨v',h1,jU h v v' C⟩
def nT(E:Env)(w:World)(b s:Nat):es->Prop
 | .cells cs=>∃c el fz,w.heap[b]? =some (.cells c el fz)/\c.size=E.β b/\nk fz c.size/\mj E s cs c
 | .map O fA=>s=0/\∃ga,w.heap[b]? =some (.map ga fA)/\kX E O ga.toList
 | .nM st pos=>s=0/\w.heap[b]? =some (.stringIter ⟨st.toArray⟩ pos)
 | .ints k W=>∃c el fz,w.heap[b]? =some (.cells c el fz)/\c.size=E.β b/\∀(i:Nat) (x:Int),W[i]? =some x->c[s+i]? =some (.int k x)
 | .own k W=>∃c el fz,w.heap[b]? =some (.cells c el fz)/\c.size=E.β b/\nk fz c.size/\mj E s (W.map (.int k)) c
 | .deep cs=>∃c el fz vs,w.heap[b]? =some (.cells c el fz)/\c.size=E.β b/\nk fz c.size/\jl E.φ cs vs/\∀(j:Nat) (x:Value),vs[j]? =some x->c[s+j]? =some x
 | .wh el AM t=>∃c fz xs,w.heap[b]? =some (.cells c el fz)/\s=0/\c.size=E.β b/\((fz.1=fz.2\/fz.2<=t.length)/\(AM=false->fz.1=fz.2))/\nQ xs=t/\∀(j:Nat) (x:Int),xs[j]? =some x->c[j]? =some (.int .u8 x)
 | .HM t self x=>s=0/\∃x' fz,w.heap[b]? =some (.cells #[.pointer (if self then some ⟨b,0,none⟩else none),x'] t fz)/\2=E.β b/\nk fz 2/\eH E x x'
 | .gL kd O=>s=0/\∃ga fA,w.heap[b]? =some (.map ga fA)/\kC E.φ kd O ga.toList fA
 | .oW kd O=>s=0/\∃ga,w.heap[b]? =some (.map ga O.length)/\me E.φ kd O ga.toList
 | .uy=>w.heap[b]? =some (.deferred (some []))
 | .loop st pe F ps assign body=>∃r:Loop,w.heap[b]? =some (.loop r)/\r.state=(if st then .ready else .done)/\r.pending=pe/\r.params.toList=ps/\r.assign=assign/\r.body=body/\Pe E F r.tmps/\fe r.tmps.size assign=true/\fe r.tmps.size body=true/\∀p∈ps,p<r.tmps.size
theorem pO(h:E.le E'){s:Nat}{cs:ag}{c:Array Value}(r:mj E s cs c):mj E' s cs c:=
 fun i v e=>let⟨v',h1,C⟩:=r i v e;⟨v',h1,jU h v v' C⟩
theorem jV{w w':World}{b s:Nat}{o:es}(h:E.le E')(U:E'.β b=E.β b)(hw:w'.heap[b]? =w.heap[b]?)(r:nT E w b s o):nT E' w' b s o:=by
 cases o with
 |cells cs=>obtain⟨c,el,fz,h1,C,h3,h4⟩:=r;exact⟨c,el,fz,hw.trans h1,C.trans U.symm,h3,pO h h4⟩
 |map O fA=>obtain⟨hs,ga,h1,C⟩:=r;exact⟨hs,ga,hw.trans h1,Cv h _ _ C⟩
 |nM st pos=>exact⟨r.1,hw.trans r.2⟩
 |ints k W=>obtain⟨c,el,fz,h1,C,h3⟩:=r;exact⟨c,el,fz,hw.trans h1,C.trans U.symm,h3⟩
 |own k W=>obtain⟨c,el,fz,h1,C,h3,h4⟩:=r;exact⟨c,el,fz,hw.trans h1,C.trans U.symm,h3,pO h h4⟩
 |deep cs=>obtain⟨c,el,fz,vs,h1,C,h3,h4,h5⟩:=r;exact⟨c,el,fz,vs,hw.trans h1,C.trans U.symm,h3,ja h.fz _ _ h4,h5⟩
 |wh el AM t=>obtain⟨c,fz,xs,h1,h0,C,h3⟩:=r;exact⟨c,fz,xs,hw.trans h1,h0,C.trans U.symm,h3⟩
 |HM t self x=>obtain⟨h0,x',fz,h1,C,h3,h4⟩:=r;exact⟨h0,x',fz,hw.trans h1,C.trans U.symm,h3,jU h _ _ h4⟩
 |gL kd O=>obtain⟨hs,ga,fA,h1,C⟩:=r;exact⟨hs,ga,fA,hw.trans h1,C.mono h.fz⟩
 |oW kd O=>obtain⟨hs,ga,h1,C⟩:=r;exact⟨hs,ga,hw.trans h1,C.mono h.fz⟩
 |uy=>exact hw.trans r
 |loop st pe F ps assign body=>obtain⟨r,h1,C,h3,h4,h5,h6,h7,h8⟩:=r;exact⟨r,hw.trans h1,C,h3,h4,h5,h6,zJ h h7,h8⟩
theorem nU{k:IntKind}{W:List Int}{c:Array Value}:mj E s (W.map (.int k)) c↔∀(i:Nat) (x:Int),W[i]? =some x->c[s+i]? =some (.int k x):=by
 constructor
 . intro r i x e;obtain⟨v',h1,C⟩:=r i (.int k x) (by rw[bD,e];rfl);simp only[eH]at C;rw[h1,C]
 . intro r i v e;rw[bD]at e;cases K:W[i]? with
   |none=>rw[K]at e;cases e
   |some x=>
    rw[K]at e;simp only[bz,aq]at e;subst e;exact⟨_,r i x K,rfl⟩
theorem wH{k:IntKind}{W:List Int}{c:Array Value}(r:mj E s (W.map (.int k)) c):mj E' s (W.map (.int k)) c:=nU.2 (nU.1 r)
end
theorem rV{k:IntKind}:∀{l:ag} {W:List Int},pY k l=some W->l=W.map (.int k)
 | [],W,h=>by simp only[pY,aq]at h;subst h;rfl
 |v::r,W,h=>by
  unfold pY at h;split at h
  . rename_i q;cases q
  . rename_i k' x r' q;cases q;split at h
    . rename_i l h1 C;obtain rfl:=eZ h;have:=aZ h1;subst this;rw[rV C];rfl
    . cases h
  . cases h
theorem nV{E:Env}{s:Nat}{cs:ai}{c:Array Value}(hs:∀x∈cs,x.scalar=true):mj E s (D.gk cs) c↔∃vs,jl E.φ cs vs/\∀(j:Nat) (x:Value),vs[j]? =some x->c[s+j]? =some x:=by
 constructor
 . intro r;have hg:∀i,i<cs.length->∃x,c[s+i]? =some x:=by
    intro i hi;obtain⟨v',h1,_⟩:=r i (cs[i]).kx (by rw[D.gy,bD,au hi];rfl);exact⟨v',h1⟩
   refine⟨(List.range cs.length).map fun i=>(c[s+i]?).getD undef,pC (by simp) fun i d hd=>?_,fun j x K=>?_⟩
   . have hi:=(aS.1 hd).1;obtain⟨v',h1,C⟩:=r i d.kx (by rw[D.gy,bD,hd];rfl);refine⟨v',by simp[di hi,h1],hs d (List.mem_of_getElem? hd),HT d v' C fun ds q=>?_⟩;have:=hs d (List.mem_of_getElem? hd);rw[q]at this;cases this
   . rw[bD]at K;by_cases hj:j<cs.length
     . rw[di hj]at K;simp only[bz,aq]at K;obtain⟨y,hy⟩:=hg j hj;rw[hy]at K ⊢;simpa using K
     . rw[cF (by simpa using Nat.le_of_not_lt hj)]at K;cases K
 . rintro⟨vs,r,hv⟩ i v hi;rw[D.gy,bD]at hi;cases hd:cs[i]? with
   |none=>rw[hd]at hi;cases hi
   |some d=>
    rw[hd]at hi;simp only[bz,aq]at hi;subst hi;obtain⟨v',h1,_,h3⟩:=vK r i d hd;exact⟨v',hv i v' h1,rT d v' h3⟩
theorem tc:∀{l:ag} {ds:ai},iQ l=some ds->∀{E:Env} {l':List Value},eK E l l'->jl E.φ ds l'
 | [],ds,h,E,l',r=>by simp only[iQ,aq]at h;subst h;exact r
 |x::xs,ds,h,E,l',r=>by
  simp only[iQ]at h;split at h
  case h_2=>cases h
  rename_i d hd;split at h
  case h_2=>cases h
  rename_i l hl;obtain rfl:=eZ h;obtain⟨y,ys,r0,rs,rfl⟩:=r;refine⟨y,ys,?_,?_,tc hl rs,rfl⟩
  . split at hd<;>first|(cases hd;rfl)|cases hd
  . split at hd<;>first|(cases hd;first|exact r0|exact r0.1|exact⟨none,0,[],r0.2.2,aK _,rfl,fun _=>rfl,fun q=>absurd q (dy _)⟩)|cases hd
theorem uV:∀{l:ag} {ds:ai},iQ l=some ds->ds.length=l.length
 | [],ds,h=>by simp only[iQ,aq]at h;subst h;rfl
 |x::xs,ds,h=>by
  simp only[iQ]at h;split at h
  case h_2=>cases h
  split at h
  case h_2=>cases h
  rename_i l hl;obtain rfl:=eZ h;simp[uV hl]
mutual
theorem x7{E:Env}:∀{x:V} {d:D},V.J2 x=some d->∀{v:Value},eH E x v->lF E.φ d v/\(x.scalar=true->d.scalar=true)
 | .bool _,d,h,v,r=>by simp only[V.J2,aq]at h;subst h;exact⟨r,fun _=>rfl⟩
 | .int _ _,d,h,v,r=>by simp only[V.J2,aq]at h;subst h;exact⟨r,fun _=>rfl⟩
 | .str _,d,h,v,r=>by simp only[V.J2,aq]at h;subst h;exact⟨r,fun _=>rfl⟩
 | .eM _ _ _,d,h,v,r=>by simp only[V.J2,aq]at h;subst h;exact⟨r.1,fun _=>rfl⟩
 | .agg cs,d,h,v,r=>by
   simp only[V.J2]at h;split at h
   . rename_i l hl;obtain rfl:=eZ h;obtain⟨vs,r,e⟩:=r;exact⟨⟨vs,HU hl r,e⟩,fun h=>by cases h⟩
   . cases h
 | .ptr _,d,h,_,_=>by cases h
 | .fk none _ _ _,d,h,v,r=>by
   simp only[V.J2,aq]at h;subst h;exact⟨⟨none,0,[],r.2.2,aK _,rfl,fun _=>rfl,fun q=>absurd q (dy _)⟩,fun _=>rfl⟩
 | .fk (some _) 0 _ _,d,h,v,r=>by
   simp only[V.J2,aq]at h;subst h;obtain⟨b,s,o',gZ,_,_,_,_,_,e⟩:=r;exact⟨⟨_,gZ,[],e,aR _,rfl,fun _=>rfl,fun q=>absurd q (dy _)⟩,fun _=>rfl⟩
 | .fk (some _) (_+1) _ _,d,h,_,_=>by cases h
 | .map _,d,h,_,_=>by cases h
 | .fn _ _ _,d,h,_,_=>by cases h
 | .kU,d,h,_,_=>by cases h
 | .iface _ _,d,h,_,_=>by cases h
 | .nilIface,d,h,_,_=>by cases h
 | .gK _,d,h,_,_=>by cases h
 | .eo _,d,h,_,_=>by cases h
theorem HU{E:Env}:∀{xs:ag} {ds:ai},V.O6 xs=some ds->∀{vs:List Value},eK E xs vs->jl E.φ ds vs
 | [],ds,h,v,r=>by simp only[V.O6,aq]at h;subst h;exact r
 |x::xs,ds,h,v,r=>by
  simp only[V.O6]at h;split at h
  case h_2=>cases h
  rename_i d hd;split at h
  case h_2=>cases h
  rename_i l hl;split at h
  case h_2=>cases h
  rename_i J9;obtain rfl:=eZ h;obtain⟨y,ys,r0,rs,rfl⟩:=r;exact⟨y,ys,J9,(x7 hd r0).1,HU hl rs,rfl⟩
end
theorem AQ{E:Env}:∀{xs ys:ag} {l:List Value},eK E (xs++ys) l->∃l1 l2,eK E xs l1/\eK E ys l2/\l=l1++l2
 | [],_,l,r=>⟨[],l,rfl,r,rfl⟩
 |x::xs,_,l,⟨y,zs,r0,rs,e⟩=>by
  obtain⟨l1,l2,h1,C,h3⟩:=AQ rs;exact⟨y::l1,l2,⟨y,l1,r0,h1,rfl⟩,C,by rw[e,h3];rfl⟩
def wk(xs ys:ag):Prop:=∀(E:Env) (l:List Value),eK E xs l->eK E ys l
theorem jr(xs:ag):wk xs xs:=fun _ _ r=>r
theorem zK{a b a' b':ag}(h:wk a a')(k:wk b b'):wk (a++b) (a'++b'):=fun E l r=>by
 obtain⟨l1,l2,h1,C,rfl⟩:=AQ r;exact jg (h E l1 h1) (k E l2 C)
theorem x8{l:ag}{ds:ai}(h:iQ l=some ds):wk l (D.gk ds):=fun _ _ r=>rU _ _ (tc h r)
theorem rW{E:Env}{s:Nat}{cs:ag}{c:Array Value}:mj E s cs c↔∃vs,eK E cs vs/\∀(j:Nat) (x:Value),vs[j]? =some x->c[s+j]? =some x:=by
 constructor
 . intro r;have hg:∀i,i<cs.length->∃x,c[s+i]? =some x:=fun i hi=>by
    obtain⟨v',h1,_⟩:=r i cs[i] (au hi);exact⟨v',h1⟩
   refine⟨(List.range cs.length).map fun i=>(c[s+i]?).getD undef,jZ (by simp) fun i d hd=>?_,fun j x K=>?_⟩
   . have hi:=(aS.1 hd).1;obtain⟨v',h1,C⟩:=r i d hd;exact⟨v',by simp[di hi,h1],C⟩
   . rw[bD]at K;by_cases hj:j<cs.length
     . rw[di hj]at K;simp only[bz,aq]at K;obtain⟨y,hy⟩:=hg j hj;rw[hy]at K ⊢;simpa using K
     . rw[cF (by simpa using Nat.le_of_not_lt hj)]at K;cases K
 . rintro⟨vs,r,hv⟩ i v hi;obtain⟨v',h1,C⟩:=iq r i v hi;exact⟨v',hv i v' h1,C⟩
theorem x9{E:Env}{s:Nat}{xs ys:ag}{c:Array Value}(h:wk xs ys)(r:mj E s xs c):mj E s ys c:=by
 obtain⟨vs,h1,C⟩:=rW.1 r;exact rW.2 ⟨vs,h E vs h1,C⟩
def Row.sc:Row->Prop
 | .ds cs=>∀x∈cs,x.scalar=true
 |_=>True
theorem nW:∀{l:ag} {ds:ai},iQ l=some ds->∀x∈ds,x.scalar=true
 | [],ds,h,x,K=>by simp only[iQ,aq]at h;subst h;simp at K
 |y::l,ds,h,x,K=>by
  simp only[iQ]at h;split at h
  case h_2=>cases h
  rename_i d hd;split at h
  case h_2=>cases h
  rename_i l' hl;obtain rfl:=eZ h;rcases aA.1 K with rfl|K
  . split at hd<;>first|(cases hd;rfl)|cases hd
  . exact nW hl x K
theorem Row.Ka(a b:Row):wk (a.kx++b.kx) (a.app b).kx:=by
 have e:∀{k:IntKind} {l:ag} {W:List Int},pY k l=some W->l=W.map (.int k):=fun h=>rV h;have L:∀(k:IntKind) (W:List Int),D.gk (W.map (.int k))=W.map (.int k):=fun k W=>by rw[D.gy,List.map_map];rfl
 have ha:∀(x y:ai),D.gk (x++y)=D.gk x++D.gk y:=fun x y=>by rw[D.gy,D.gy,D.gy,bL]
 cases a<;>cases b<;>simp only[Row.app]
 . exact jr _
 . rename_i cs k W;split
   . rename_i l h;simp only[Row.kx,e h,bL];exact jr _
   . exact jr _
 . rename_i cs ds;split
   . rename_i l h;simp only[Row.kx,ha];exact zK (x8 h) (jr _)
   . exact jr _
 . rename_i k W cs;split
   . rename_i l h;simp only[Row.kx,e h,bL];exact jr _
   . exact jr _
 . rename_i k W k' pP;split
   . rename_i h;have:=aZ h;subst this;simp only[Row.kx,bL];exact jr _
   . exact jr _
 . simp only[Row.kx,ha,L];exact jr _
 . rename_i cs ds;split
   . rename_i l h;simp only[Row.kx,ha];exact zK (jr _) (x8 h)
   . exact jr _
 . simp only[Row.kx,ha,L];exact jr _
 . simp only[Row.kx,ha];exact jr _
theorem Row.Kb{a b:Row}(h:a.sc)(k:b.sc):(a.app b).sc:=by
 have hi:∀(k:IntKind) (W:List Int),∀x∈W.map (D.int k),x.scalar=true:=fun k W x K=>by
  obtain⟨n,_,rfl⟩:=bP.1 K;rfl
 have ap:∀{x y:ai},(∀z∈x,z.scalar=true)->(∀z∈y,z.scalar=true)->∀z∈x++y,z.scalar=true:=fun h k z hz=>(bj.1 hz).elim (h z) (k z);cases a<;>cases b<;>simp only[Row.app]<;>first|trivial|skip
 . split<;>trivial
 . split
   . rename_i l hl;exact ap (nW hl) k
   . trivial
 . split<;>trivial
 . split<;>trivial
 . exact ap (hi _ _) k
 . split
   . rename_i l hl;exact ap h (nW hl)
   . trivial
 . exact ap h (hi _ _)
 . exact ap h k
section
variable{o size:Nat}{r r':Row}
theorem Row.Pf(h:r.cut o size=some r')(k:r.sc):r'.sc:=by
 cases r with
 |vs cs=>simp only[Row.cut]at h;split at h<;>first|(cases h;trivial)|cases h
 |is k W=>simp only[Row.cut]at h;split at h<;>first|(cases h;trivial)|cases h
 |ds cs=>
  simp only[Row.cut]at h;split at h
  . cases h;exact fun x K=>k x (List.mem_of_mem_drop (cK K))
  . cases h
theorem Row.FK(h:r.cut o size=some r'):Eng.cut r.kx o size=some r'.kx:=by
 cases r with
 |vs cs=>
  simp only[Row.cut]at h;split at h
  . rename_i q;obtain rfl:=eZ h;exact q
  . cases h
 |is k W=>
  simp only[Row.cut]at h;split at h
  . rename_i q;obtain rfl:=eZ h;simp only[Eng.cut,Row.kx,bM,aF q,dh,List.map_drop]
  . cases h
 |ds cs=>
  simp only[Row.cut]at h;split at h
  . rename_i q;obtain rfl:=eZ h;simp only[Eng.cut,Row.kx,D.gy,bM,aF q,dh,List.map_drop]
  . cases h
theorem Row.Pg(h:r.flat=true)(k:r.sc):r.kx.all V.scalar=true:=by
 cases r with
 |vs cs=>exact h
 |is k W=>simp[Row.kx,V.scalar]
 |ds cs=>exact AP k
end
section
variable{E:Env}{w:World}{b s:Nat}{o:es}{r:Row}
theorem HV(h:o.row=some r)(q:nT E w b s o):(∃c el fz,w.heap[b]? =some (.cells c el fz)/\c.size=E.β b/\nk fz c.size/\mj E s r.kx c)/\r.sc:=by
 cases o<;>simp only[es.row,aq,reduceCtorEq]at h<;>subst h
 . exact⟨q,trivial⟩
 . exact⟨q,trivial⟩
 . obtain⟨c,el,fz,vs,h1,C,h3,h4,h5⟩:=q;exact⟨⟨c,el,fz,h1,C,h3,(nV (jB h4)).2 ⟨vs,h4,h5⟩⟩,jB h4⟩
theorem Nl(h:o.Ni=some r)(q:nT E w b s o):(∃c el fz,w.heap[b]? =some (.cells c el fz)/\c.size=E.β b/\mj E s r.kx c)/\r.sc:=by
 cases o<;>simp only[es.Ni,aq,reduceCtorEq]at h<;>subst h
 . obtain⟨c,el,fz,h1,C,_,h4⟩:=q;exact⟨⟨c,el,fz,h1,C,h4⟩,trivial⟩
 . obtain⟨c,el,fz,h1,C,h3⟩:=q;exact⟨⟨c,el,fz,h1,C,nU.2 h3⟩,trivial⟩
 . obtain⟨c,el,fz,h1,C,_,h4⟩:=q;exact⟨⟨c,el,fz,h1,C,h4⟩,trivial⟩
 . obtain⟨c,el,fz,vs,h1,C,h3,h4,h5⟩:=q;exact⟨⟨c,el,fz,h1,C,(nV (jB h4)).2 ⟨vs,h4,h5⟩⟩,jB h4⟩
theorem ya(q:∃c el fz,w.heap[b]? =some (.cells c el fz)/\c.size=E.β b/\nk fz c.size/\mj E s r.kx c)(k:r.sc):nT E w b s r.EE:=by
 cases r with
 |ds cs=>
  obtain⟨c,el,fz,h1,C,h3,h4⟩:=q;obtain⟨vs,h5,h6⟩:=(nV k).1 h4;exact⟨c,el,fz,vs,h1,C,h3,h5,h6⟩
 |_=>exact q
end
theorem Ph{o:es}{r:Row}(h:o.row=some r):o.wr=true:=by cases o<;>simp[es.row]at h<;>rfl
def fu(h:I es)(m:Nat):Prop:=∃o,h.get m=some o/\o.wr=true
section
variable{h:I es}{n m:Nat}{x:Option es}
theorem Pj{h':I es}{m n:Nat}(e:h.get m=h'.get n)(k:fu h m):fu h' n:=by obtain⟨o,a,b⟩:=k;exact⟨o,e.symm.trans a,b⟩
theorem rX(hn:n<gO):fu (h.set n x) m->(m=n/\∃o,x=some o/\o.wr=true)\/(m≠n/\fu h m):=by
 rintro⟨o,e,k⟩;rw[I.gC _ _ _ hn]at e;split at e
 . rename_i q;exact .inl ⟨q,o,e,k⟩
 . rename_i q;exact .inr ⟨q,o,e,k⟩
theorem qg(hn:n<gO)(k:fu (h.set n x) m)(q:m≠n):fu h m:=
 (rX hn k).elim (fun c=>absurd c.1 q) (·.2)
theorem fu.live(k:fu h m):h.get m≠none:=by obtain⟨o,e,_⟩:=k;rw[e];simp
end
structure Good(E:Env)(h:I es)(w:World):Prop where
 rel:∀m o,h.get m=some o->∃b s,E.ι m=some (b,s)/\nT E w b s o
 inj:∀m m' b s T,m≠m'->fu h m->h.get m'≠none->E.ι m=some (b,s)->E.ι m'=some (b,T)->False
 qG:∀m b s,E.ι m=some (b,s)->b<w.heap.size
 lG:GE E
 jG:∀b c,E.φ b=some c->(∃el fz,w.heap[b]? =some (.cells c el fz))/\∀m s,fu h m->E.ι m≠some (b,s)
structure jt(E:Env)(h:I es)(w:World)(E':Env)(h':I es)(w':World):Prop where
 le:E.le E'
 good:Good E' h' w'
 size:w.heap.size<=w'.heap.size
 tape:w'.tape=w.tape
 os:w'.os=w.os
 output:w'.output=w.output
 keep:∀b,b<w.heap.size->(∀m s,fu h m->E.ι m≠some (b,s))->w'.heap[b]? =w.heap[b]?
 wj:∀m b s,h'.get m≠none->E'.ι m=some (b,s)->b<w.heap.size->∃m0 s0,h.get m0≠none/\E.ι m0=some (b,s0)/\(fu h' m->fu h m0)
 FM:∀b c,E'.φ b=some c->E.φ b=some c\/w.heap.size<=b\/∃m s,fu h m/\E.ι m=some (b,s)
theorem jt.refl{E:Env}{h:I es}{w:World}(g:Good E h w):jt E h w E h w:=
 ⟨E.le_refl,g,aK _,rfl,rfl,rfl,fun _ _ _=>rfl,fun m _ s L e _=>⟨m,s,L,e,id⟩,fun _ _ q=>.inl q⟩
theorem jt.trans{E E1 E2:Env}{h h1 C:I es}{w w1 w2:World}(a:jt E h w E1 h1 w1)(b:jt E1 h1 w1 E2 C w2):jt E h w E2 C w2 where
 le:=Env.le_trans a.le b.le
 good:=b.good
 size:=bN a.size b.size
 tape:=b.tape.trans a.tape
 os:=b.os.trans a.os
 output:=b.output.trans a.output
 keep:=fun x K hn=>by
  rw[b.keep x (cO K a.size) ?_,a.keep x K hn];intro m s L e;obtain⟨m0,s0,h0,e0,k0⟩:=a.wj m x s L.live e K;exact hn m0 s0 (k0 L) e0
 wj:=fun m x s L e K=>by
  obtain⟨m1,s1,oU,e1,k1⟩:=b.wj m x s L e (cO K a.size);obtain⟨m2,s2,C,e2,k2⟩:=a.wj m1 x s1 oU e1 K;exact⟨m2,s2,C,e2,fun q=>k2 (k1 q)⟩
 FM:=fun x c A=>by
  rcases b.FM x c A with q|q|⟨m,s,q1,q2⟩
  . exact a.FM x c q
  . exact .inr (.inl (bN a.size q))
  . rcases bx x w.heap.size with K|K
    . obtain⟨m0,s0,_,e0,k0⟩:=a.wj m x s q1.live q2 K;exact .inr (.inr ⟨m0,s0,k0 q1,e0⟩)
    . exact .inr (.inl K)
theorem Good.same{E:Env}{h:I es}{w w':World}(g:Good E h w)(e:w'.heap=w.heap):Good E h w' where
 rel:=fun m o L=>let⟨b,s,h1,C⟩:=g.rel m o L;⟨b,s,h1,jV E.le_refl rfl (by rw[e]) C⟩
 inj:=g.inj
 qG:=fun m b s h=>by rw[e];exact g.qG m b s h
 lG:=g.lG
 jG:=fun b c q=>⟨by rw[e];exact(g.jG b c q).1,(g.jG b c q).2⟩
theorem jt.drew{E:Env}{h:I es}{w:World}(g:Good E h w):jt E h w E h w.drew:=
 ⟨E.le_refl,g.same rfl,aK _,rfl,rfl,rfl,fun _ _ _=>rfl,fun m _ s L e _=>⟨m,s,L,e,id⟩,fun _ _ q=>.inl q⟩
def Env.put(E:Env)(n b s z:Nat):Env:={ ι:=fun m=>if m=n then some (b,s)else E.ι m,β:=fun x=>if x=b then z else E.β x,φ:=E.φ }
section
variable{E:Env}{w:World}{n:Nat}{o:Obj}{b s z:Nat}
theorem Env.gl:(E.put n b s z).ι n=some (b,s):=by simp[Env.put]
theorem Env.iF{m:Nat}(h:m≠n):(E.put n b s z).ι m=E.ι m:=by simp[Env.put,h]
theorem Env.uW(hn:E.ι n=none)(U:∀m x t,E.ι m=some (x,t)->x=b->E.β b=z):E.le (E.put n b s z):=by
 refine⟨?_,fun _ _ h=>h⟩;intro m x t e;have:m≠n:=by intro h;rw[h,hn]at e;simp at e
 refine⟨by rw[Env.iF this];exact e,?_⟩;show(if x=b then z else E.β x)=E.β x;split
 . rename_i h;rw[<- U m x t e h,h]
 . rfl
theorem rA(h:b<w.heap.size):(w.alloc o).heap[b]? =w.heap[b]?:=by
 simp only[World.alloc,Array.getElem?_push];rw[aD S]
theorem heap_alloc_new:(w.alloc o).heap[w.heap.size]? =some o:=by
 simp only[World.alloc,Array.getElem?_push,if_true]
end
def kD:Obj->Nat
 | .cells c _ _=>c.size
 |_=>0
theorem jt.alloc{E:Env}{h:I es}{w:World}{n:Nat}{o:es}{ob:Obj}(g:Good E h w)(hn:E.ι n=none)(ht:n<gO)
  (ho:nT (E.put n w.heap.size 0 (kD ob)) (w.alloc ob) w.heap.size 0 o):
  jt E h w (E.put n w.heap.size 0 (kD ob)) (h.set n (some o)) (w.alloc ob):=by
 have zL:∀m b s,E.ι m=some (b,s)->b≠w.heap.size:=fun m b s e U=>by have:=g.qG m b s e;omega
 have kZ:E.le (E.put n w.heap.size 0 (kD ob)):=Env.uW hn fun m x t e K=>absurd K (zL m x t e);have Ed:∀b c,E.φ b=some c->b<w.heap.size:=fun b c q=>by
  obtain⟨⟨el,fz,e⟩,_⟩:=g.jG b c q;exact(aY.1 e).1
 refine⟨kZ,⟨?_,?_,?_,g.lG.mono kZ,fun b c q=>⟨by rw[rA (Ed b c q)];exact(g.jG b c q).1,fun m s L e=>?_⟩⟩,by simp,rfl,rfl,rfl,fun b U _=>rA U,?_,fun _ _ q=>.inl q⟩
 case refine_4=>
  by_cases a:m=n
  . subst a;rw[Env.gl]at e;cases e;exact absurd (Ed _ c q) (dy _)
  . rw[Env.iF a]at e;exact(g.jG b c q).2 m s (qg ht L a) e
 . intro m o' L;rw[I.gC _ _ _ ht]at L;by_cases e:m=n
   . subst e;rw[aF rfl]at L;cases L;exact⟨_,_,Env.gl,ho⟩
   . rw[aD e]at L;obtain⟨b,s,h1,C⟩:=g.rel m o' L;exact⟨b,s,by rw[Env.iF e];exact h1,jV kZ (kZ.nm m b s h1).2 (rA (g.qG m b s h1)) C⟩
 . intro m m' b s T jD L ue e e';rw[I.gC _ _ _ ht]at ue;by_cases a:m=n
   . subst a;rw[Env.gl]at e;have:m'≠m:=fun x=>jD x.symm;rw[Env.iF this]at e';cases e;exact zL _ _ _ e' rfl
   . rw[Env.iF a]at e;replace L:fu h m:=qg ht L a;by_cases a':m'=n
     . subst a';rw[Env.gl]at e';cases e';exact zL _ _ _ e rfl
     . rw[Env.iF a']at e';rw[aD a']at ue;exact g.inj m m' b s T jD L ue e e'
 . intro m b s e;by_cases a:m=n
   . subst a;rw[Env.gl]at e;cases e;simp
   . rw[Env.iF a]at e;have:=g.qG m b s e;simp;omega
 . intro m b s L e U;by_cases a:m=n
   . subst a;rw[Env.gl]at e;cases e;omega
   . rw[Env.iF a]at e;rw[I.gC _ _ _ ht,aD a]at L;exact⟨m,s,L,e,fun q=>qg ht q a⟩
section
variable{E:Env}{h h':I es}{w w':World}{m b s:Nat}{o:es}
theorem jt.write(g:Good E h w)(ht:m<gO)(jE:fu h m)(L:E.ι m=some (b,s))
  (EI:w'.heap.size=w.heap.size) (HW:w'.tape=w.tape) (hos:w'.os=w.os) (zM:w'.output=w.output)
  (qh:∀x,x≠b->w'.heap[x]? =w.heap[x]?) (ho:nT E w' b s o):jt E h w E (h.set m (some o)) w':=by
 refine⟨E.le_refl,⟨?_,?_,?_,g.lG,fun b' c q=>⟨?_,fun k t hk e=>?_⟩⟩,S,HW,hos,zM,?_,?_,fun _ _ q=>.inl q⟩
 case refine_4=>rw[qh b' fun e=>(g.jG b' c q).2 m s jE (e▸L)];exact(g.jG b' c q).1
 case refine_5=>
  rcases rX ht hk with⟨a,_⟩|a
  . exact(g.jG b' c q).2 m t jE (a▸e)
  . exact(g.jG b' c q).2 k t a.2 e
 . intro k o' hk;rw[I.gC _ _ _ ht]at hk;by_cases e:k=m
   . subst e;rw[aF rfl]at hk;cases hk;exact⟨b,s,L,ho⟩
   . rw[aD e]at hk;obtain⟨b',T,h1,C⟩:=g.rel k o' hk;have jD:b'≠b:=by
      intro U;subst U;exact g.inj m k b' s T (fun q=>e q.symm) jE (by rw[hk];simp) L h1
     exact⟨b',T,h1,jV E.le_refl rfl (qh b' jD) C⟩
 . intro k k' x t t' jD hk rB e e';refine g.inj k k' x t t' jD ?_ ?_ e e'
   . rcases rX ht hk with⟨q,_⟩|q
     . rw[q];exact jE
     . exact q.2
   . rw[I.gC _ _ _ ht]at rB;split at rB
     . rename_i q;rw[q];exact jE.live
     . exact rB
 . intro k x t e;rw[EI];exact g.qG k x t e
 . intro x _ hn;refine qh x ?_;intro K;subst K;exact hn m s jE L
 . intro k x t hk e _;by_cases q:k=m
   . subst q;exact⟨k,t,jE.live,e,fun _=>jE⟩
   . rw[I.gC _ _ _ ht,aD q]at hk;exact⟨k,t,hk,e,fun c=>qg ht c q⟩
theorem jt.move{n b s T:Nat}{o:es}(g:Good E h w)(ht:m<gO)(hn:n<gO)(rC:E.ι n=none)(jE:fu h m)(L:E.ι m=some (b,s))
  (EI:w'.heap.size=w.heap.size) (HW:w'.tape=w.tape) (hos:w'.os=w.os) (zM:w'.output=w.output)
  (qh:∀x,x≠b->w'.heap[x]? =w.heap[x]?) (ho:nT (E.put n b T (E.β b)) w' b T o):
  jt E h w (E.put n b T (E.β b)) ((h.set m none).set n (some o)) w':=by
 have Wj:m≠n:=by intro e;rw[e,rC]at L;simp at L
 have kZ:E.le (E.put n b T (E.β b)):=Env.uW rC fun _ _ _ _ _=>rfl;have pF:∀k,((h.set m none).set n (some o)).get k=if k=n then some o else if k=m then none else h.get k:=by
  intro k;rw[I.gC _ _ _ hn];split
  . rfl
  . rw[I.gC _ _ _ ht]
 have Wk:∀k,fu ((h.set m none).set n (some o)) k->k=n\/(k≠n/\k≠m/\fu h k):=by
  intro k q;rcases rX hn q with q|q
  . exact .inl q.1
  . rcases rX ht q.2 with c|c
    . obtain⟨_,_,c,_⟩:=c;cases c
    . exact .inr ⟨q.1,c.1,c.2⟩
 refine⟨kZ,⟨?_,?_,?_,g.lG.mono kZ,fun b2 c q=>⟨?_,fun k t hk e=>?_⟩⟩,S,HW,hos,zM,?_,?_,fun _ _ q=>.inl q⟩
 case refine_4=>rw[qh b2 fun e=>(g.jG b2 c q).2 m s jE (e▸L)];exact(g.jG b2 c q).1
 case refine_5=>
  rcases Wk k hk with a|⟨a,_,a2⟩
  . subst a;rw[Env.gl]at e;cases e;exact(g.jG _ c q).2 m s jE L
  . rw[Env.iF a]at e;exact(g.jG b2 c q).2 k t a2 e
 . intro k o' hk;rw[pF]at hk;by_cases e:k=n
   . subst e;rw[aF rfl]at hk;cases hk;exact⟨_,_,Env.gl,ho⟩
   . rw[aD e]at hk;by_cases e2:k=m
     . rw[aF e2]at hk;cases hk
     . rw[aD e2]at hk;obtain⟨b',t,h1,C⟩:=g.rel k o' hk;have jD:b'≠b:=by
        intro U;subst U;exact g.inj m k b' s t (fun q=>e2 q.symm) jE (by rw[hk];simp) L h1
       exact⟨b',t,by rw[Env.iF e];exact h1,jV kZ (kZ.nm k b' t h1).2 (qh b' jD) C⟩
 . intro k k' x t t' jD hk rB e e';rw[pF]at rB;rcases Wk k hk with a|⟨a,c,Nn⟩
   . subst a;rw[Env.gl]at e;cases e;have a':k'≠k:=fun q=>jD q.symm;rw[Env.iF a']at e';rw[aD a']at rB;by_cases c:k'=m
     . rw[aF c]at rB;exact rB rfl
     . rw[aD c]at rB;exact g.inj m k' b s t' (fun q=>c q.symm) jE rB L e'
   . rw[Env.iF a]at e;by_cases a':k'=n
     . subst a';rw[Env.gl]at e';cases e';exact g.inj m k b s t (fun q=>c q.symm) jE Nn.live L e
     . rw[Env.iF a']at e';rw[aD a']at rB;by_cases c':k'=m
       . rw[aF c']at rB;exact rB rfl
       . rw[aD c']at rB;exact g.inj k k' x t t' jD Nn rB e e'
 . intro k x t e;by_cases a:k=n
   . subst a;rw[Env.gl]at e;cases e;rw[EI];exact g.qG m b s L
   . rw[Env.iF a]at e;rw[EI];exact g.qG k x t e
 . intro x _ K;refine qh x ?_;intro q;subst q;exact K m s jE L
 . intro k x t hk e _;rw[pF]at hk;by_cases a:k=n
   . subst a;rw[Env.gl]at e;cases e;exact⟨m,s,jE.live,L,fun _=>jE⟩
   . rw[Env.iF a]at e;rw[aD a]at hk;by_cases c:k=m
     . rw[aF c]at hk;exact absurd rfl hk
     . rw[aD c]at hk;exact⟨k,t,hk,e,fun q=>(Wk k q).elim (fun c=>absurd c a) (·.2.2)⟩
theorem qi(hs:∀m o,h'.get m=some o->h.get m=some o){m:Nat}(k:h'.get m≠none):h.get m≠none:=by
 cases q:h'.get m with
 |none=>exact absurd q k
 |some o=>rw[hs m o q];simp
theorem iK(hs:∀m o,h'.get m=some o->h.get m=some o){m:Nat}(k:fu h' m):fu h m:=by
 obtain⟨o,a,b⟩:=k;exact⟨o,hs m o a,b⟩
theorem Good.sub(g:Good E h w)(hs:∀m o,h'.get m=some o->h.get m=some o):Good E h' w where
 rel:=fun m o L=>g.rel m o (hs m o L)
 inj:=fun m m' b s T jD L ue e e'=>g.inj m m' b s T jD (iK hs L) (qi hs ue) e e'
 qG:=g.qG
 lG:=g.lG
 jG:=fun b c q=>⟨(g.jG b c q).1,fun m s L=>(g.jG b c q).2 m s (iK hs L)⟩
theorem jt.forget(g:Good E h w)(ht:m<gO):jt E h w E (h.set m none) w:=by
 have hs:∀k o,(h.set m none).get k=some o->h.get k=some o:=by
  intro k o hk;rw[I.gC _ _ _ ht]at hk;split at hk
  . cases hk
  . exact hk
 exact⟨E.le_refl,g.sub hs,aK _,rfl,rfl,rfl,fun _ _ _=>rfl,fun k b s hk e _=>⟨k,s,qi hs hk,e,iK hs⟩,fun _ _ q=>.inl q⟩
theorem Addr.jw(b o n:Nat):(⟨b,o,none⟩:Addr).add n=⟨b,o+n,none⟩:=by
 unfold Addr.add;split
 . rename_i h;subst h;rfl
 . rfl
theorem nq{i:Nat}{c:Array Value}{el:TypeId}{fz:Nat×Nat}(h:w.heap[b]? =some (.cells c el fz)):w.cell? ⟨b,i,none⟩=c[i]?:=by
 simp[World.cell?,h]
end
theorem run_loadCellsFrom{P:Program}{w:World}{b o:Nat}{c:Array Value}{el:TypeId}{fz:Nat×Nat}(h:w.heap[b]? =some (.cells c el fz)):
  ∀(n i:Nat) (EG:Array Value),o+i+n<=c.size->(loadCellsFrom ⟨b,o,none⟩ i n EG).run P w= .ok (EG++((c.toList.drop (o+i)).take n).toArray) w
 |0,i,EG,_=>by simp[loadCellsFrom]
 |n+1,i,EG,hn=>by
  have fj:o+i<c.size:=by omega
  simp only[loadCellsFrom,Sem.run_bind,run_load,Addr.jw,nq h];rw[bg fj];simp only[Result.andThen_ok];rw[run_loadCellsFrom h n (i+1) _ S];congr 1;have hd:c.toList.drop (o+i)=c[o+i]::c.toList.drop (o+(i+1)):=by
   rw[bC (by simpa using fj)];simp[Nat.add_assoc]
  rw[hd];simp
theorem run_loadCells{P:Program}{w:World}{b o n:Nat}{c:Array Value}{el:TypeId}{fz:Nat×Nat}(h:w.heap[b]? =some (.cells c el fz))(hn:o+n<=c.size):
  (loadCells ⟨b,o,none⟩ n).run P w= .ok ((c.toList.drop o).take n).toArray w:=by
 unfold loadCells;rw[run_loadCellsFrom h n 0 #[] S];simp
def putCells(c:Array Value)(o:Nat)(vs:List Value):Array Value:=(c.toList.take o++(vs++c.toList.drop (o+vs.length))).toArray
section
variable{c:Array Value}{o:Nat}{vs:List Value}
theorem ki(h:o+vs.length<=c.size):(putCells c o vs).size=c.size:=by
 simp[putCells];omega
theorem nr(h:o+vs.length<=c.size)(j:Nat):
  (putCells c o vs)[j]? =if o<=j/\j<o+vs.length then vs[j-o]? else c[j]?:=by
 simp only[putCells,List.getElem?_toArray];rw[List.getElem?_append];have hl:(List.take o c.toList).length=o:=by simp;omega
 rw[hl];by_cases h1:j<o
 . rw[aF h1,aD S,cg,aF h1];simp
 . rw[aD h1,List.getElem?_append];by_cases C:j<o+vs.length
   . rw[aF S,aF S]
   . rw[aD S,aD S,cj];simp;congr 1;omega
theorem rD{v:Value}{vs:List Value}(h:o+(vs.length+1)<=c.size):
  putCells (c.setIfInBounds o v) (o+1) vs=putCells c o (v::vs):=by
 have e1:o+1+vs.length<=(c.setIfInBounds o v).size:=by simp;omega
 have e2:o+(v::vs).length<=c.size:=by simpa using h
 apply Array.ext
 . rw[ki e1,ki e2];simp
 . intro j h1 C;have:(putCells (c.setIfInBounds o v) (o+1) vs)[j]? =(putCells c o (v::vs))[j]?:=by
    rw[nr e1,nr e2];by_cases a:j=o
    . subst a;rw[aD S,aF (by simp)];have hj:j<c.size:=by omega
      simp[hj]
    . by_cases b:o+1<=j/\j<o+1+vs.length
      . rw[aF b,aF (by simp;omega)];have:j-o=(j-(o+1))+1:=by omega
        rw[this];simp
      . rw[aD b,aD (by simp;omega)];rw[Array.getElem?_setIfInBounds];rw[aD (fun q=>a q.symm)]
   rw[bg h1,bg C]at this;exact dB this
end
theorem nt{P:Program}{b o:Nat}{el:TypeId}{fz:Nat×Nat}:∀(vs:List Value) (i:Nat) (w:World) (c:Array Value),w.heap[b]? =some (.cells c el fz)->
  nk fz c.size->(∀v∈vs,v.oneCell'=true)->o+i+vs.length<=c.size->
  ∃w',(storeCells ⟨b,o,none⟩ vs i).run P w= .ok () w'/\w'.heap[b]? =some (.cells (putCells c (o+i) vs) el fz)/\w'.heap.size=w.heap.size/\w'.tape=w.tape/\w'.os=w.os/\w'.output=w.output/\
   ∀x,x≠b->w'.heap[x]? =w.heap[x]?
 | [],i,w,c,h,_,_,hn=>by
   refine⟨w,rfl,?_,rfl,rfl,rfl,rfl,fun _ _=>rfl⟩;rw[h];have:putCells c (o+i) []=c:=by simp[putCells]
   rw[this]
 |v::vs,i,w,c,h,hf,hv,hn=>by
  simp only[aN]at hn;have fj:o+i<c.size:=by omega
  have hnf:w.frozen? ⟨b,o+i,none⟩=false:=by
   have:=hf (o+i) fj;simp only[World.frozen?,h];simpa using this
  let w1:=w.setCell ⟨b,o+i,none⟩ v
  have Kc:w1.heap[b]? =some (.cells (c.setIfInBounds (o+i) v) el fz):=by
   simp[w1,World.setCell,Array.getElem?_modify,h]
  obtain⟨w',e1,e2,e3,e4,e5,e6,e7⟩:=nt (P:=P) (o:=o) vs (i+1) w1 (c.setIfInBounds (o+i) v) Kc (by simpa using hf) (fun v XI=>hv v (by simp[XI])) (by simp only[Array.size_setIfInBounds];omega);refine⟨w',?_,?_,by rw[e3];simp[w1],by rw[e4];rfl,by rw[e5];rfl,by rw[e6];rfl,?_⟩
  . simp only[storeCells,Sem.run_bind];rw[run_store P w _ v .plain (hv v (by simp)),Addr.jw,nq h,bg fj];simp only[hnf,aM,cI,Result.andThen_ok];exact e1
  . rw[e2];have:o+(i+1)=o+i+1:=by omega
    rw[this,rD S]
  . intro x K;rw[e7 x K];simp[w1,World.setCell,Array.getElem?_modify,Ne.symm K]
theorem tf{E:Env}:∀{v:Value} {x:V},jk v=some x->eH E x v:=by
 intro v x h;cases v with
 |bool b=>simp only[jk,aq]at h;subst h;rfl
 |int k n=>simp only[jk,aq]at h;subst h;rfl
 |string s=>
  simp only[jk,aq]at h;subst h;show Value.string s= .string ⟨s.data.toList.toArray⟩;rw[Array.toArray_toList]
 |pointer a=>cases a<;>simp only[jk,aq]at h;. subst h;rfl
             . cases h
 |slice a l c=>
  cases a with
  |none=>match l,c,h with
   |0,0,h=>simp only[jk,aq]at h;subst h;exact⟨rfl,rfl,rfl⟩
  |some a=>simp[jk]at h
 |map a=>cases a<;>simp only[jk,aq]at h;. subst h;rfl
         . cases h
 |nilFunc=>simp only[jk,aq]at h;subst h;rfl
 |nilIface=>simp only[jk,aq]at h;subst h;rfl
 |_=>simp[jk]at h
theorem wI{E:Env}:∀{vs:List Value} {xs:ag},nP vs=some xs->eK E xs vs
 | [],xs,h=>by simp only[nP,aq]at h;subst h;rfl
 |v::vs,xs,h=>by
  simp only[nP]at h;cases h1:jk v with
  |none=>simp[h1]at h
  |some x=>cases C:nP vs with
   |none=>simp[h1,C]at h
   |some r=>simp only[h1,C,aq]at h;subst h;exact⟨v,vs,tf h1,wI C,rfl⟩
theorem zN{E:Env}{v:Value}{x:V}(h:L3 v=some x):eH E x v:=by
 unfold L3 at h;split at h
 . rename_i cs;cases h1:nP cs.toList with
   |none=>simp[h1]at h
   |some r=>simp only[h1,aq]at h;subst h;exact⟨cs.toList,wI h1,by simp⟩
 . exact tf h
section runs
variable{P:Program}{w:World}
section
variable{t:TypeId}
theorem eE{d:TypeDesc}(h:P.underlying t=some d):(underlying t).run P w= .ok d w:=by simp[underlying,h]
theorem fQ{s:Nat}(h:kE P t=some s):(sizeOf t).run P w= .ok s w:=by
 unfold kE at h;cases hi:P.info? t with
 |none=>simp[hi]at h
 |some i=>simp[hi]at h;simp[sizeOf,typeInfo,hi,h]
theorem lO{z:V}(E:Env)(h:zeroOf P t=some z):∃z',(zeroValue t).run P w= .ok z' w/\eH E z z'/\(∃i,P.info? t=some i/\i.zero=some z'):=by
 unfold zeroOf at h;cases hi:P.info? t with
 |none=>simp[hi]at h
 |some i=>
  simp only[hi]at h;cases hz:i.zero with
  |none=>simp[hz]at h
  |some v=>simp only[hz]at h;exact⟨v,by simp[zeroValue,typeInfo,hi,hz],zN h,i,rfl,hz⟩
theorem rY{b:Bool}(h:HN P t=some b):(isAgg t).run P w= .ok b w:=by
 unfold HN at h;split at h
 . rename_i hu;simp at h;subst h;simp[isAgg,eE hu]
 . rename_i hu;simp at h;subst h;simp[isAgg,eE hu]
 . rename_i d h1 C hu;simp at h;subst h;simp only[isAgg,Sem.run_bind,eE hu,Result.andThen_ok]
   first|rfl|(split<;>first|rfl|(exact absurd rfl (h1 _))|(exact absurd rfl (C _ _)))
 . cases h
end
end runs
def ku(P:Program)(E:Env)(h:I es)(n:Nat)(w:World)(s:Sem Next):iX->Prop
 | .val v h' n'=>∃E' w' v',(s.run P w= .ok (.value v') w'\/(s.run P w= .ok .skip w'/\v'=undef))/\eH E' v v'/\jt E h w E' h' w'/\
    (∀m,m≠n->E'.ι m=E.ι m)/\((n'=n/\E'=E)\/n'=n+1)
 | .call f args=>∃dZ,eK E args dZ/\((s.run P w= .ok (.enter f dZ.toArray) w/\callee P f=true)\/(∃m l b,f=P.funcs.size+m/\E.ι m=some (l,b)/\s.run P w=(Instr.yield l dZ.toArray).run P w))
 | .uy f c args=>∃c' dZ,s.run P w= .ok (.defer { target:=.fn (.func f) c'.toArray,args:=dZ.toArray }) w/\eK E c c'/\eK E args dZ
 | .recover=>s.run P w= .ok .recover w
 | .panic v=>∃v',s.run P w= .halt (.panic v') w/\eH E v v'
theorem eS{P:Program}{E:Env}{h:I es}{n:Nat}{w:World}{s:Sem Next}{v:V}{v':Value}(g:Good E h w)
  (hr:s.run P w= .ok (.value v') w) (hv:eH E v v'):ku P E h n w s (.val v h n):=
 ⟨E,w,v',.inl hr,hv,jt.refl g,fun _ _=>rfl,.inl ⟨rfl,rfl⟩⟩
theorem ox{E:Env}{cs:ag}{c:Array Value}(r:eK E cs c.toList):mj E 0 cs c:=by
 intro i v h;obtain⟨v',h1,C⟩:=iq r i v h;exact⟨v',by simpa using h1,C⟩
theorem k9{h h':I es}{n n':Nat}{o:es}(e:newObj h n o=some (h',n')):n<gO/\h'=h.set n (some o)/\n'=n+1:=by
 unfold newObj at e;split at e
 . rename_i q;simp at e;exact⟨q,e.1.symm,e.2.symm⟩
 . cases e
theorem Ke{P:Program}{E:Env}{h h':I es}{n n':Nat}{w w1:World}{s:Sem Next}{cs:ag}{c:Array Value}{el:TypeId}{fz:Nat×Nat}{v:V}{v':Value}
  (g:Good E h w) (hn:E.ι n=none) (e:newObj h n (.cells cs)=some (h',n')) (hw:w1.heap=w.heap) (ht:w1.tape=w.tape) (ho:w1.os=w.os) (zM:w1.output=w.output)
  (Ed:nk fz c.size) (hr:s.run P w= .ok (.value v') (w1.alloc (.cells c el fz))) (A:mj E 0 cs c)
  (hv:eH (E.put n w.heap.size 0 c.size) v v'):ku P E h n w s (.val v h' n'):=by
 obtain⟨ir,rfl,rfl⟩:=k9 e;have g1:Good E h w1:=g.same hw;have hs:w1.heap.size=w.heap.size:=by rw[hw]
 have kZ:E.le (E.put n w1.heap.size 0 c.size):=Env.uW hn fun m x t q K=>by have:=g1.qG m x t q;omega
 have u1:jt E h w E h w1:=⟨E.le_refl,g1,S,ht,ho,zM,fun b _ _=>by rw[hw],fun m _ s L q _=>⟨m,s,L,q,id⟩,fun _ _ q=>.inl q⟩;have u:=jt.alloc (ob:=.cells c el fz) (o:=.cells cs) g1 hn ir ⟨c,el,fz,heap_alloc_new,by simp[Env.put,kD],Ed,pO kZ A⟩;refine⟨E.put n w1.heap.size 0 c.size,_,v',.inl hr,by rw[hs];exact hv,u1.trans u,fun m L=>Env.iF L,.inr rfl⟩
theorem zO{P:Program}{E:Env}{h h':I es}{n n':Nat}{w w1:World}{s:Sem Next}{cs:ag}{c:Array Value}{el:TypeId}{v:V}{v':Value}
  (g:Good E h w) (hn:E.ι n=none) (e:newObj h n (.cells cs)=some (h',n')) (hw:w1.heap=w.heap) (ht:w1.tape=w.tape) (ho:w1.os=w.os) (zM:w1.output=w.output)
  (hr:s.run P w= .ok (.value v') (w1.alloc (.cells c el))) (A:mj E 0 cs c)
  (hv:eH (E.put n w.heap.size 0 c.size) v v'):ku P E h n w s (.val v h' n'):=
 Ke g hn e hw ht ho zM (fun i _ q=>by simp at q) hr A hv
theorem HX{P:Program}{E:Env}{h h':I es}{n n':Nat}{w w1:World}{s:Sem Next}{r:Row}{c:Array Value}{el:TypeId}{fz:Nat×Nat}{v:V}{v':Value}
  (g:Good E h w) (hn:E.ι n=none) (J9:r.sc) (e:newObj h n r.EE=some (h',n')) (hw:w1.heap=w.heap) (ht:w1.tape=w.tape) (ho:w1.os=w.os) (zM:w1.output=w.output)
  (Ed:nk fz c.size) (hr:s.run P w= .ok (.value v') (w1.alloc (.cells c el fz))) (A:mj E 0 r.kx c)
  (hv:eH (E.put n w.heap.size 0 c.size) v v'):ku P E h n w s (.val v h' n'):=by
 obtain⟨ir,rfl,rfl⟩:=k9 e;have g1:Good E h w1:=g.same hw;have hs:w1.heap.size=w.heap.size:=by rw[hw]
 have kZ:E.le (E.put n w1.heap.size 0 c.size):=Env.uW hn fun m x t q K=>by have:=g1.qG m x t q;omega
 have u1:jt E h w E h w1:=⟨E.le_refl,g1,S,ht,ho,zM,fun b _ _=>by rw[hw],fun m _ s L q _=>⟨m,s,L,q,id⟩,fun _ _ q=>.inl q⟩;have u:=jt.alloc (ob:=.cells c el fz) (o:=r.EE) g1 hn ir (ya ⟨c,el,_,heap_alloc_new,by simp[Env.put,kD],Ed,pO kZ A⟩ J9);refine⟨E.put n w1.heap.size 0 c.size,_,v',.inl hr,by rw[hs];exact hv,u1.trans u,fun m L=>Env.iF L,.inr rfl⟩
theorem tg{P:Program}{E:Env}{h h':I es}{n n':Nat}{w w1:World}{s:Sem Next}{r:Row}{c:Array Value}{el:TypeId}{v:V}{v':Value}
  (g:Good E h w) (hn:E.ι n=none) (J9:r.sc) (e:newObj h n r.EE=some (h',n')) (hw:w1.heap=w.heap) (ht:w1.tape=w.tape) (ho:w1.os=w.os) (zM:w1.output=w.output)
  (hr:s.run P w= .ok (.value v') (w1.alloc (.cells c el))) (A:mj E 0 r.kx c)
  (hv:eH (E.put n w.heap.size 0 c.size) v v'):ku P E h n w s (.val v h' n'):=by
 obtain⟨ir,rfl,rfl⟩:=k9 e;have g1:Good E h w1:=g.same hw;have hs:w1.heap.size=w.heap.size:=by rw[hw]
 have kZ:E.le (E.put n w1.heap.size 0 c.size):=Env.uW hn fun m x t q K=>by have:=g1.qG m x t q;omega
 have u1:jt E h w E h w1:=⟨E.le_refl,g1,S,ht,ho,zM,fun b _ _=>by rw[hw],fun m _ s L q _=>⟨m,s,L,q,id⟩,fun _ _ q=>.inl q⟩;have u:=jt.alloc (ob:=.cells c el) (o:=r.EE) g1 hn ir (ya ⟨c,el,_,heap_alloc_new,by simp[Env.put,kD],(fun i _ q=>by simp at q),pO kZ A⟩ J9);refine⟨E.put n w1.heap.size 0 c.size,_,v',.inl hr,by rw[hs];exact hv,u1.trans u,fun m L=>Env.iF L,.inr rfl⟩
theorem XJ{E:Env}{h:I es}{w:World}{n z:Nat}(g:Good E h w)(hn:E.ι n=none):E.le (E.put n w.heap.size 0 z):=
 Env.uW hn fun m x t q K=>by have:=g.qG m x t q;omega
section ops
variable{P:Program}{E:Env}{h:I es}{n:Nat}{w:World}
theorem FN(P:Program)(t:TypeId)(z:V):Cj P t z= .cells z.cells\/(z.cells=[.ptr none,.fk none 0 0 0]/\Cj P t z= .HM t false (.fk none 0 0 0)):=by
 unfold Cj;split
 . rename_i hz;split
   . split
     . split
       . split
         . exact .inr ⟨hz,rfl⟩
         . exact .inl rfl
       . exact .inl rfl
     . exact .inl rfl
   . exact .inl rfl
 . exact .inl rfl
section
variable{t:TypeId}{m s o:Nat}
theorem Pk{z:V}{h':I es}{n':Nat}(g:Good E h w)(hn:E.ι n=none)(hz:zeroOf P t=some z)(e:newObj h n (Cj P t z)=some (h',n')):
  ku P E h n w (do pure (.value (<- Instr.alloc t true (.tuple #[])))) (.val (.ptr (some (n,0))) h' n'):=by
 obtain⟨z',hr,hv,_⟩:=lO (w:=w) E hz;rcases FN P t z with q|⟨A,q⟩
 case inr=>
  rw[q]at e;obtain⟨ir,rfl,rfl⟩:=k9 e;have qH:=jb hv;rw[A]at qH;obtain⟨p',_,r1,⟨x',_,r2,mg,rfl⟩,hl⟩:=qH;simp only[eK]at mg;subst mg;simp only[eH]at r1;subst r1;have hzc:z'.cells=#[.pointer none,x']:=by apply Array.ext';rw[hl]
  have hu:=jt.alloc (ob:=.cells z'.cells t) (o:=.HM t false (.fk none 0 0 0)) g hn ir ⟨rfl,x',_,by rw[heap_alloc_new,hzc];rfl,by simp[Env.put,kD,hzc],(fun i _ q=>by simp at q),jU (XJ g hn) _ _ r2⟩;exact⟨_,_,.pointer (some ⟨w.heap.size,0,none⟩),.inl (by simp[Instr.alloc,hr,newVar,newRow]),⟨_,_,Env.gl,by simp⟩,hu,fun m L=>Env.iF L,.inr rfl⟩
 rw[q]at e;refine zO (c:=z'.cells) (el:=t) (w1:=w) (v':=.pointer (some ⟨w.heap.size,0,none⟩)) g hn e rfl rfl rfl rfl ?_ (ox (jb hv)) ⟨_,_,Env.gl,by simp⟩;simp[Instr.alloc,hr,newVar,newRow]
theorem XK{v:V}{v':Value}{h':I es}{n':Nat}(g:Good E h w)(hn:E.ι n=none)(hv:eH E v v')(e:newObj h n (.cells v.cells)=some (h',n')):
  ku P E h n w (do pure (.value (<- Instr.box t v'))) (.val (.ptr (some (n,0))) h' n'):=by
 refine zO (c:=v'.cells) (el:=t) (w1:=w) (v':=.pointer (some ⟨w.heap.size,0,none⟩)) g hn e rfl rfl rfl rfl ?_ (ox (jb hv)) ⟨_,_,Env.gl,by simp⟩;simp[Instr.box,newVar,newRow]
theorem nX{cs:ag}{c:Array Value}(r:mj E s cs c){k:Nat}(hk:0<k)(A:k<=cs.length):s+k<=c.size:=by
 obtain⟨v',h1,_⟩:=r (k-1) (cs[k-1]'(by omega)) (au _);have:=(aY.1 h1).1;omega
theorem nY{cs:ag}{c:Array Value}(r:mj E s cs c){o k:Nat}(hk:o+k<=cs.length)(h0:s+o+k<=c.size):
  eK E ((cs.drop o).take k) ((c.toList.drop (s+o)).take k):=by
 refine jZ (by simp;omega) fun i v q=>?_;rw[cg]at q ⊢;split at q
 . rename_i hi;rw[aF hi];rw[cj]at q ⊢;obtain⟨v',h1,C⟩:=r (o+i) v q;exact⟨v',by rw[<- h1];simp[Nat.add_assoc],C⟩
 . cases q
theorem zP{cs:ag}{o k:Nat}{r:ag}(e:cut cs o k=some r):o+k<=cs.length/\r=(cs.drop o).take k:=by
 unfold cut at e;split at e
 . rename_i q;simp at e;exact⟨q,e.symm⟩
 . cases e
theorem jW{b s o:Nat}{cs:ag}{v:V}{c:Array Value}{el:TypeId}{fz:Nat×Nat}(U:w.heap[b]? =some (.cells c el fz))(r:mj E s cs c)
  (e:lp P t cs o=some v):∃v',(loadVar t ⟨b,s+o,none⟩).run P w= .ok v' w/\eH E v v':=by
 unfold lp at e;split at e
 . rename_i ha;cases hs:kE P t with
   |none=>simp[hs]at e
   |some k=>
    simp only[hs]at e;cases A:cut cs o k with
    |none=>simp[A]at e
    |some x=>
     simp only[A,bz,aq]at e;subst e;obtain⟨h1,rfl⟩:=zP A;by_cases hk:k=0
     . subst hk;refine⟨.agg #[],?_,[],by simp[eK],rfl⟩;simp[loadVar,rY ha,fQ hs,loadCells,loadCellsFrom]
     . have h0:s+o+k<=c.size:=by have:=nX r (k:=o+k) S h1;omega
       refine⟨_,?_,_,nY r h1 h0,rfl⟩;simp[loadVar,rY ha,fQ hs,run_loadCells U h0]
 . rename_i ha;obtain⟨v',h1,C⟩:=r o v e;refine⟨v',?_,C⟩;simp[loadVar,rY ha,nq U,h1]
 . cases e
theorem Pm{E:Env}{m b:Nat}{self:Bool}{x:V}{x':Value}(hi:E.ι m=some (b,0))(K:eH E x x'):mj E 0 (uK m self x) #[.pointer (if self then some ⟨b,0,none⟩else none),x']:=by
 intro i v q
 match i with
 |0=>
  simp only[uK,cT,aq]at q;subst q;refine⟨_,rfl,?_⟩;cases self with
  |true=>exact⟨b,0,hi,rfl⟩
  |false=>rfl
 |1=>
  simp only[uK,List.getElem?_cons_succ,cT,aq]at q;subst q;exact⟨_,rfl,K⟩
 |i+2=>simp[uK]at q
theorem Cw{t:TypeId}{a v:V}{a':Value}(g:Good E h w)(ha:eH E a a')(e:loadAt P t h a=some v):
  ∃b s,a'= .pointer (some ⟨b,s,none⟩)/\∃v',(loadVar t ⟨b,s,none⟩).run P w= .ok v' w/\eH E v v':=by
 unfold loadAt at e;split at e
 . rename_i m o;split at e
   . rename_i cs L;obtain⟨b,s,hi,c,el,fz,U,_,_,A⟩:=g.rel m _ L;obtain⟨b',T,jX,rfl⟩:=ha;rw[hi]at jX;cases jX;obtain⟨v',h1,C⟩:=jW U A e;exact⟨b,s+o,rfl,v',h1,C⟩
   . rename_i k W L;obtain⟨b,s,hi,c,el,fz,U,_,A⟩:=g.rel m _ L;obtain⟨b',T,jX,rfl⟩:=ha;rw[hi]at jX;cases jX;obtain⟨v',h1,C⟩:=jW U (nU.2 A) e;exact⟨b,s+o,rfl,v',h1,C⟩
   . rename_i k W L;obtain⟨b,s,hi,c,el,fz,U,_,_,A⟩:=g.rel m _ L;obtain⟨b',T,jX,rfl⟩:=ha;rw[hi]at jX;cases jX;obtain⟨v',h1,C⟩:=jW U A e;exact⟨b,s+o,rfl,v',h1,C⟩
   . rename_i cs L;obtain⟨b,s,hi,c,el,fz,vs,U,_,_,hd,A⟩:=g.rel m _ L;obtain⟨b',T,jX,rfl⟩:=ha;rw[hi]at jX;cases jX;obtain⟨v',h1,C⟩:=jW U ((nV (jB hd)).2 ⟨vs,hd,A⟩) e;exact⟨b,s+o,rfl,v',h1,C⟩
   . rename_i s' self x L;obtain⟨b,s,hi,hs,x',fz,U,_,_,K⟩:=g.rel m _ L;obtain⟨b',T,jX,rfl⟩:=ha;rw[hi]at jX;cases jX;subst hs;obtain⟨v',h1,C⟩:=jW (E:=E) (s:=0) U (Pm hi K) e;exact⟨b,0+o,rfl,v',h1,C⟩
   . cases e
 . rename_i cs;obtain⟨b,o,c,vs,rfl,hf,hd,A⟩:=ha;obtain⟨⟨el,fz,U⟩,_⟩:=g.jG b c hf;obtain⟨v',h1,C⟩:=jW U ((nV (jB hd)).2 ⟨vs,hd,A⟩) e;exact⟨b,o,rfl,v',h1,C⟩
 . cases e
theorem TJ{a v:V}{a':Value}(g:Good E h w)(ha:eH E a a')(e:loadAt P t h a=some v):
  ku P E h n w (do pure (.value (<- Instr.loadAt t a'))) (.val v h n):=by
 obtain⟨b,s,rfl,v',h1,C⟩:=Cw g ha e;exact eS g (by simp[Instr.loadAt,Instr.sureAddr,h1]) C
theorem zQ{cs new r:ag}{o:Nat}(e:Ci cs o new=some r):o+new.length<=cs.length/\r=cs.take o++(new++cs.drop (o+new.length)):=by
 unfold Ci at e;split at e
 . rename_i q;simp at e;exact⟨q,e.symm⟩
 . cases e
theorem Kf{α:Type}{cs new:List α}{o:Nat}(h:o+new.length<=cs.length)(j:Nat):
  (cs.take o++(new++cs.drop (o+new.length)))[j]? =if o<=j/\j<o+new.length then new[j-o]? else cs[j]?:=by
 rw[List.getElem?_append];have hl:(List.take o cs).length=o:=by simp;omega
 rw[hl];by_cases h1:j<o
 . rw[aF h1,aD S,cg,aF h1]
 . rw[aD h1,List.getElem?_append];by_cases C:j<o+new.length
   . rw[aF S,aF S]
   . rw[aD S,aD S,cj];congr 1;omega
theorem HY{cs new:ag}{kL:List Value}{c:Array Value}(r:mj E s cs c)(hn:eK E new kL)(jD:0<new.length)(h:o+new.length<=cs.length):
  s+o+kL.length<=c.size/\mj E s (cs.take o++(new++cs.drop (o+new.length))) (putCells c (s+o) kL):=by
 have hl:=fE hn;have U:s+o+kL.length<=c.size:=by have:=nX r (k:=o+new.length) S h;omega
 refine⟨U,fun i v q=>?_⟩;rw[Kf h]at q;rw[nr U];split at q
 . rename_i hi;rw[aF S];obtain⟨v',h1,C⟩:=iq hn _ v q;exact⟨v',by rw[<- h1];congr 1;omega,C⟩
 . rename_i hi;rw[aD S];exact r i v q
theorem w7{b s:Nat}{ob:es}{r r':Row}{new:ag}{kL:List Value}(g:Good E h w)(ir:m<gO)(L:h.get m=some ob)(hr:ob.row=some r)(hi:E.ι m=some (b,s))
  (hn:eK E new kL) (jD:0<new.length) (J9:new.all V.scalar=true) (hl:o+new.length<=r.kx.length) (Kg:wk (r.kx.take o++(new++r.kx.drop (o+new.length))) r'.kx) (XL:r.sc->r'.sc):
  ∃w',(storeCells ⟨b,s+o,none⟩ kL).run P w= .ok () w'/\jt E h w E (h.set m (some r'.EE)) w':=by
 obtain⟨b',T,jX,q⟩:=g.rel m _ L;obtain⟨⟨c,el,fz,U,hz,hf,A⟩,XM⟩:=HV hr q;rw[hi]at jX;cases jX;obtain⟨zR,EJ⟩:=HY A hn jD hl;have Kh:∀v∈kL,v.oneCell'=true:=by
  intro v hv;obtain⟨i,jX⟩:=List.getElem?_of_mem hv;have fj:i<new.length:=by rw[<- fE hn];exact(aS.1 jX).1
  obtain⟨v',h1,C⟩:=iq hn i new[i] (au fj);rw[jX]at h1;cases h1;exact uU C (by rw[bw]at J9;exact J9 _ (bV fj))
 obtain⟨w',e1,e2,e3,e4,e5,e6,e7⟩:=nt (P:=P) (o:=s+o) kL 0 w c U hf Kh S;refine⟨w',e1,jt.write g ir ⟨_,L,Ph hr⟩ hi e3 e4 e5 e6 e7 ?_⟩;exact ya ⟨_,el,fz,e2,by rw[ki S];exact hz,by rw[ki S];exact hf,x9 Kg EJ⟩ (XL XM)
theorem No{b s:Nat}{cs new:ag}{kL:List Value}(g:Good E h w)(ir:m<gO)(L:h.get m=some (.cells cs))(hi:E.ι m=some (b,s))
  (hn:eK E new kL) (jD:0<new.length) (J9:new.all V.scalar=true) (hl:o+new.length<=cs.length):
  ∃w',(storeCells ⟨b,s+o,none⟩ kL).run P w= .ok () w'/\jt E h w E (h.set m (some (.cells (cs.take o++(new++cs.drop (o+new.length)))))) w':=
 w7 (r':=.vs (cs.take o++(new++cs.drop (o+new.length)))) g ir L rfl hi hn jD J9 hl (jr _) (fun _=>trivial)
theorem Pn{a v:V}{a' v':Value}{h':I es}(g:Good E h w)(ha:eH E a a')(hv:eH E v v')(e:storeAt P t h v a=some h'):
  ku P E h n w (do Instr.storeAt t a' v';pure .skip) (.val (.gK []) h' n):=by
 unfold storeAt at e;split at e
 . rename_i m o;split at e
   . rename_i cs L;split at e
     . rename_i s hs;split at e
       . rename_i hq;obtain⟨h1,C,h3,h4⟩:=hq;split at e
         . rename_i cs' D0;obtain rfl:=eZ e;obtain⟨kZ,rfl⟩:=zQ D0;obtain⟨b,T,hi,rfl⟩:=ha;have nZ:=jb hv;obtain⟨w',hr,hu⟩:=No (P:=P) g h3 L hi nZ S h4 kZ;refine⟨E,w',undef,.inr ⟨?_,rfl⟩,⟨[],rfl,rfl⟩,hu,fun _ _=>rfl,.inl ⟨rfl,rfl⟩⟩;have nc:v'.cells.size=s:=by have:=fE nZ;simp at this;omega
           simp[Instr.storeAt,Instr.sureAddr,storeVar,fQ hs,nc,hr]
         . cases e
       . cases e
     . cases e
   . rename_i k W L;split at e
     . rename_i s hs;split at e
       . rename_i hq;obtain⟨h1,C,h3⟩:=hq;split at e
         . rename_i new rC;split at e
           . rename_i kZ;obtain rfl:=eZ e;have XN:=rV rC;have Wl:new.length=s:=by have:=aG List.length XN;simp at this;omega
             obtain⟨b,T,hi,rfl⟩:=ha;have nZ:=jb hv;obtain⟨w',hr,hu⟩:=w7 (P:=P) (o:=o) (r':=.is k (By W o new)) g h3 L rfl hi nZ S (by rw[XN];simp[V.scalar]) (by rw[XN];simp[Row.kx];omega)
              (by rw[XN];simp[Row.kx,By,bL,dh,List.map_drop];exact jr _) (fun _=>trivial)
             refine⟨E,w',undef,.inr ⟨?_,rfl⟩,⟨[],rfl,rfl⟩,hu,fun _ _=>rfl,.inl ⟨rfl,rfl⟩⟩;have nc:v'.cells.size=s:=by have:=fE nZ;simp at this;omega
             simp[Instr.storeAt,Instr.sureAddr,storeVar,fQ hs,nc,hr]
           . cases e
         . cases e
       . cases e
     . cases e
   . rename_i cs L;split at e
     . rename_i s hs;split at e
       . rename_i hq;obtain⟨h1,C,h3⟩:=hq;split at e
         . rename_i new rC;split at e
           . rename_i kZ;obtain rfl:=eZ e;have Wl:=uV rC;obtain⟨b,T,hi,rfl⟩:=ha;have nZ:=jb hv;have hcn:eK E (D.gk new) v'.cells.toList:=x8 rC E _ nZ;have TK:(D.gk new).length=s:=by rw[D.gy,bM];omega
             obtain⟨w',hr,hu⟩:=w7 (P:=P) (o:=o) (r:=.ds cs) (r':=.ds (qL cs o new)) g h3 L rfl hi hcn S (AP (nW rC)) (by simp only[Row.kx,D.gy,bM];omega)
              (by simp[Row.kx,qL,D.gy,bL,dh,List.map_drop];exact jr _)
              (fun hs x K=>by
               simp only[qL,bj]at K;rcases K with K|K|K
               . exact hs x (cK K)
               . exact nW rC x K
               . exact hs x (List.mem_of_mem_drop K))
             refine⟨E,w',undef,.inr ⟨?_,rfl⟩,⟨[],rfl,rfl⟩,hu,fun _ _=>rfl,.inl ⟨rfl,rfl⟩⟩;have nc:v'.cells.size=s:=by have:=fE nZ;simp at this;omega
             simp[Instr.storeAt,Instr.sureAddr,storeVar,fQ hs,nc,hr]
           . cases e
         . cases e
       . cases e
     . cases e
   . rename_i s' self x0 L;split at e
     . rename_i x hs Po;split at e
       . rename_i hq;obtain⟨rfl,h3,h4⟩:=hq;obtain rfl:=eZ e;obtain⟨b,T,hi,rfl⟩:=ha;obtain⟨b',s,jX,h0,x0',fz,U,oV,hf,hx0⟩:=g.rel m _ L;rw[hi]at jX;cases jX;subst h0;have nZ:=jb hv;rw[Po]at nZ;obtain⟨x',_,r1,mg,hl⟩:=nZ;simp only[eK]at mg;subst mg;have XN:v'.cells=#[x']:=by apply Array.ext';rw[hl]
         obtain⟨w',e1,e2,e3,e4,e5,e6,e7⟩:=nt (P:=P) (o:=0+1) [x'] 0 w _ U hf (fun y hy=>by rw[aI]at hy;subst hy;exact uU r1 h4) (by simp);refine⟨E,w',undef,.inr ⟨?_,rfl⟩,⟨[],rfl,rfl⟩,jt.write g h3 ⟨_,L,rfl⟩ hi e3 e4 e5 e6 e7 ⟨rfl,x',fz,?_,oV,hf,r1⟩,fun _ _=>rfl,.inl ⟨rfl,rfl⟩⟩
         . have nc:v'.cells.size=1:=by rw[XN];rfl
           have e1':(storeCells ⟨b,1,none⟩ v'.cells.toList).run P w= .ok () w':=by rw[XN];simpa using e1
           simp[Instr.storeAt,Instr.sureAddr,storeVar,fQ hs,nc,e1']
         . rw[e2];rfl
       . cases e
     . cases e
   . cases e
 . cases e
end
end ops
def AR(E:Env):List (Nat×V)->List (Nat×Value)->Prop
 | [],l=>l=[]
 |x::xs,l=>∃y ys,y.1=x.1/\eH E x.2 y.2/\AR E xs ys/\l=y::ys
theorem EK(off:Nat):∀(vs:List Value) (k:Nat) (c:Array Value),off+k+vs.length<=c.size->
  (vs.zipIdx k).foldl (fun cs (x:Value×Nat)=>cs.setIfInBounds (off+x.2) x.1) c=putCells c (off+k) vs
 | [],k,c,_=>by simp[putCells]
 |v::vs,k,c,h=>by
  simp only[aN]at h;simp only[List.zipIdx_cons,List.foldl_cons];rw[EK off vs (k+1) _ (by simp;omega)];have:off+(k+1)=off+k+1:=by omega
  rw[this,rD S]
theorem yb{E:Env}{xY:Nat->Option (Nat×Nat)}:∀(parts:List (Nat×V)) (n5:List (Nat×Value)) (cells:ag) (pZ:Array Value) (r:ag),
  rS xY cells parts=some r->eK E cells pZ.toList->AR E parts n5->∃r',Instr.fill xY pZ n5=some r'/\eK E r r'.toList
 | [],_,cells,pZ,r,e,A,hp=>by
   simp only[AR]at hp;subst hp;simp only[rS,aq]at e;subst e;exact⟨pZ,rfl,A⟩
 |(i,v)::rest,_,cells,pZ,r,e,A,hp=>by
  obtain⟨⟨i',v'⟩,ys,q1,hv,hr,rfl⟩:=hp;simp only at q1 hv;subst q1;simp only[rS]at e;cases wJ:xY i' with
  |none=>simp[wJ]at e
  |some p=>
   obtain⟨off,size⟩:=p;simp only[wJ]at e;split at e
   . rename_i nc;cases hs:Ci cells off v.cells with
     |none=>simp[hs]at e
     |some XO=>
      simp only[hs]at e;obtain⟨kZ,rfl⟩:=zQ hs;have Po:=jb hv;have FO:=fE Po;have hlc:=fE A;simp only[Array.length_toList]at FO hlc;have rE:v'.cells.zipIdx.foldl (fun cs (x:Value×Nat)=>cs.setIfInBounds (off+x.2) x.1) pZ=putCells pZ off v'.cells.toList:=by
       rw[<- Array.foldl_toList,Array.toList_zipIdx];exact EK off v'.cells.toList 0 pZ (by simp;omega)
      have ajw:eK E (cells.take off++(v.cells++cells.drop (off+v.cells.length))) (putCells pZ off v'.cells.toList).toList:=by
       simp only[putCells];refine jg (Ct A) (jg Po ?_);have:off+v'.cells.toList.length=off+v.cells.length:=by simp;omega
       rw[this];exact Cu A
      obtain⟨r',h1,C⟩:=yb rest ys _ _ r e ajw hr;refine⟨r',?_,C⟩;simp only[Instr.fill,wJ];rw[aD (by simp;omega)];rw[<- h1,<- rE]
   . cases e
theorem uX{P:Program}:∀(fs:List Field) (uL:List (Nat×Nat)),sY P fs=some uL->
  fs.mapM (fun f=>(P.info? f.type).map fun i=>(f.offset,i.size))=some uL
 | [],uL,h=>by simp[sY]at h;subst h;rfl
 |f::fs,uL,h=>by
  simp only[sY,kE]at h;cases hi:P.info? f.type with
  |none=>simp[hi]at h
  |some i=>
   simp only[hi,bz]at h;cases hr:sY P fs with
   |none=>simp[hr]at h
   |some r=>
    simp only[hr,aq]at h;subst h;simp[List.mapM_cons,hi,uX fs r hr]
theorem AS{z:ag}(hz:0<z.length):∀(n i:Nat),(iJ z n)[i]? =if i<n*z.length then z[i%z.length]? else none
 |0,i=>by simp[iJ]
 |n+1,i=>by
  simp only[iJ,List.getElem?_append];by_cases h:i<z.length
  . rw[aF h,aF (by rw[dw];omega),Nat.mod_eq_of_lt h]
  . rw[aD h,AS hz n,dw,Nat.one_mul];have:(i-z.length)%z.length=i%z.length:=by rw[Nat.mod_eq_sub_mod (a:=i) S]
    rw[this];by_cases C:i-z.length<n*z.length
    . rw[aF C,aF S]
    . rw[aD C,aD S]
theorem ql{z:ag}:∀n,(iJ z n).length=n*z.length
 |0=>by simp[iJ]
 |n+1=>by simp[iJ,ql n,dw];omega
theorem Cx{E:Env}{z:ag}{z':Array Value}(hz:eK E z z'.toList)(h0:0<z.length)(n:Nat):
  eK E (iJ z n) ((Array.range (n*z.length)).map (z'[·%z'.size]!)).toList:=by
 have hl:z'.size=z.length:=by have:=fE hz;simpa using this
 refine jZ (by simp[ql]) fun i v q=>?_;rw[AS h0]at q;split at q
 . rename_i hi;obtain⟨v',h1,C⟩:=iq hz _ v q;refine⟨v',?_,C⟩;have fj:i%z'.size<z'.size:=Nat.mod_lt _ S;rw[bU]at h1;have oU:z'[i%z'.size]? =some v':=by rw[hl];exact h1
   rw[bU,Array.getElem?_map];rw[Array.getElem?_range];rw[aF hi];simp only[bz];rw[getElem!_pos z' _ fj];rw[bg fj]at oU;exact oU
 . cases q
theorem w8{s:Sem Value}{v:V}(e:sZ s=some v):∃v',s= .pure v'/\∀E,eH E v v':=by
 cases s with
 |pure v'=>exact⟨v',rfl,fun E=>tf e⟩
 |_=>simp[sZ]at e
theorem kM:∀(a b:aa),mX a b=(a==b)
 | [],[]=>rfl
 | [],_::_=>rfl
 |_::_,[]=>rfl
 |a::x,b::y=>by
  simp only[mX];by_cases h:a=b
  . subst h;have:Nat.beq a.toNat a.toNat=true:=Nat.beq_refl _;rw[this];simp[kM x y]
  . have:Nat.beq a.toNat b.toNat=false:=by
     cases hh:Nat.beq a.toNat b.toNat with
     |false=>rfl
     |true=>exact absurd (UInt8.toNat_inj.1 (aJ hh)) h
    rw[this];have hab:(a==b)=false:=by simpa using h
    simp[hab]
theorem rZ(a b:aa):((⟨a.toArray⟩:ByteArray)==⟨b.toArray⟩)=mX a b:=by
 rw[kM,beq_toListBytes,ByteArray.toList_eq,ByteArray.toList_eq]
theorem th(a b:aa):((⟨a.toArray⟩:ByteArray).toList==(⟨b.toArray⟩:ByteArray).toList)=mX a b:=by
 rw[<- rZ,beq_toListBytes]
section ops
variable{P:Program}{E:Env}{h:I es}{n:Nat}{w:World}
theorem Np{t:TypeId}{parts:List (Nat×V)}{n5:Array (Nat×Value)}{v:V}(hp:AR E parts n5.toList)(e:J3 P t parts=some v):
  ∃v',(Instr.build t n5).run P w= .ok v' w/\eH E v v':=by
 unfold J3 at e;split at e
 . rename_i z mb hz hu;obtain⟨z',_,hv,i,hi,hiz⟩:=lO (w:=w) E hz;cases hs:sY P mb.toList with
   |none=>simp[hs]at e
   |some uL=>
    simp only[hs]at e;cases hf:rS (fun i=>uL[i]?) z.cells parts with
    |none=>simp[hf]at e
    |some cs=>
     simp only[hf,bz,aq]at e;subst e;obtain⟨r',h1,C⟩:=yb parts n5.toList z.cells z'.cells cs hf (jb hv) hp;refine⟨.agg r',run_build w t n5 r' ?_,r'.toList,C,by simp⟩;simp only[Program.built,hi,hu,hiz,uX _ _ hs];simpa using h1
 . rename_i z m TH hz hu;obtain⟨z',_,hv,i,hi,hiz⟩:=lO (w:=w) E hz;cases hs:kE P TH with
   |none=>simp[hs]at e
   |some s=>
    simp only[hs]at e;cases hf:rS (fun i=>some (i*s,s)) z.cells parts with
    |none=>simp[hf]at e
    |some cs=>
     simp only[hf,bz,aq]at e;subst e;obtain⟨r',h1,C⟩:=yb parts n5.toList z.cells z'.cells cs hf (jb hv) hp;refine⟨.agg r',run_build w t n5 r' ?_,r'.toList,C,by simp⟩;unfold kE at hs;cases hie:P.info? TH with
     |none=>simp[hie]at hs
     |some ie=>
      simp only[hie,bz,aq]at hs;simp only[Program.built,hi,hu,hiz,hie,hs];exact h1
 . cases e
theorem Ee{t:TypeId}{len:Nat}{parts:List (Nat×V)}{n5:Array (Nat×Value)}{r:iX}(g:Good E h w)(hn:E.ι n=none)(hp:AR E parts n5.toList)
  (e:oB P t len parts h n=some r):ku P E h n w (do pure (.value (<- Instr.buildSlice t len n5))) r:=by
 unfold oB at e;cases he:uM P t with
 |none=>simp[he]at e
 |some el=>
  simp only[he]at e;cases hs:kE P el with
  |none=>simp[hs]at e
  |some s=>
   cases hz:zeroOf P el with
   |none=>simp[hs,hz]at e
   |some z=>
    simp only[hs,hz]at e;split at e
    . rename_i hq;obtain⟨Ki,oG,hzl⟩:=hq;cases hf:rS (fun i=>some (i*s,s)) (iJ z.cells len) parts with
      |none=>simp[hf]at e
      |some cs=>
       simp only[hf]at e;cases ho:newObj h n (.cells cs)with
       |none=>simp[ho]at e
       |some x=>
        obtain⟨h',n'⟩:=x;simp only[ho,aq]at e;subst e;obtain⟨z',hzr,hzv,_⟩:=lO (w:=w) E hz;have hzc:=jb hzv;have Pp:=Cx hzc S len;rw[hzl]at Pp;obtain⟨r',h1,C⟩:=yb parts n5.toList _ _ cs hf Pp hp;have hu:P.underlying t=some (.slice el):=by
         unfold uM at he;split at he
         . rename_i q;simp at he;subst he;exact q
         . cases he
        have jJ:r'.size=len*s:=by
         have a:=fE C;have b:cs.length=(iJ z.cells len).length:=yc _ _ _ _ hf;rw[ql,hzl]at b;simpa[b]using a
        refine zO (c:=r') (el:=el) (w1:=w) (v':=.slice (some ⟨w.heap.size,0,none⟩) len len) g hn ho rfl rfl rfl rfl ?_ (ox C) ?_
        . simp only[Instr.buildSlice,Sem.run_bind,eE hu,Result.andThen_ok,fQ hs];rw[aD (show ¬(len*s>2^24)by omega)];by_cases q0:len*s=0
          . have ug:(Array.range (len*s)).map (fun x=>(#[]:Array Value)[x%(#[]:Array Value).size]!)=(Array.range (len*s)).map (z'.cells[·%z'.cells.size]!):=by rw[q0];simp
            rw[aF q0];simp only[Sem.run_bind,Sem.run_pure,Result.andThen_ok];rw[ug,h1];simp[newRow]
          . rw[aD q0];simp only[Sem.run_bind,Sem.run_pure,Result.andThen_ok,hzr];rw[h1];simp[newRow]
        . refine⟨w.heap.size,0,0,len,Env.gl,fun _=>by simp,aK _,aK _,?_,rfl⟩;simp[Env.put,jJ]
    . cases e
where
 yc (xY:Nat->Option (Nat×Nat)):∀(parts:List (Nat×V)) (cells r:ag),rS xY cells parts=some r->r.length=cells.length
  | [],cells,r,e=>by simp only[rS,aq]at e;rw[e]
  |(i,v)::rest,cells,r,e=>by
   simp only[rS]at e;split at e
   . cases e
   . split at e
     . split at e
       . rename_i XO hs;obtain⟨kZ,rfl⟩:=zQ hs;rw[yc xY rest _ r e];simp;omega
       . cases e
     . cases e
end ops
section
variable{P:Program}{E:Env}{h:I es}{n:Nat}{w:World}
theorem r9{t:TypeId}{cs:ag}{cs':Array Value}{off:Nat}{v:V}(r:eK E cs cs'.toList)(e:oC P t cs off=some v):
  ∃v',(part t cs' off).run P w= .ok v' w/\eH E v v':=by
 unfold oC lp at e;have hl:=fE r;simp only[Array.length_toList]at hl;split at e
 . rename_i ha;cases hs:kE P t with
   |none=>simp[hs]at e
   |some k=>
    simp only[hs]at e;cases A:cut cs off k with
    |none=>simp[A]at e
    |some x=>
     simp only[A,bz,aq]at e;subst e;obtain⟨h1,rfl⟩:=zP A;refine⟨.agg (cs'.extract off (off+k)),by simp[part,rY ha,fQ hs],(cs'.toList.drop off).take k,Ct (Cu r),?_⟩;congr 1;apply Array.ext';simp[List.extract_eq_take_drop]
 . rename_i ha;obtain⟨v',h1,C⟩:=iq r off v e;refine⟨v',?_,C⟩;rw[bU]at h1;simp[part,rY ha,h1]
 . cases e
end
def V.tag:V->Nat
 | .bool _=>0 | .int _ _=>1 | .str _=>2 | .ptr _=>3 | .fk _ _ _ _=>4 | .map _=>5 | .fn _ _ _=>6 | .kU=>7 | .iface _ _=>8 | .nilIface=>9 | .agg _=>10 | .gK _=>11 | .eM _ _ _=>4 | .eo _=>3
def yd:Value->Nat
 | .bool _=>0 | .int _ _=>1 | .string _=>2 | .pointer _=>3 | .slice _ _ _=>4 | .map _=>5 | .func _ _ _=>6 | .nilFunc=>7 | .iface _ _=>8 | .nilIface=>9 | .agg _=>10 | .tuple _=>11
 | .float _ _=>12 | .complex _ _ _=>13 | .chan _=>14
theorem sg{E:Env}:∀{x:V} {v:Value},eH E x v->x.tag=yd v:=by
 intro x v r;cases x with
 |agg cs=>obtain⟨cs',_,rfl⟩:=r;rfl
 |gK cs=>obtain⟨cs',_,rfl⟩:=r;rfl
 |bool b=>simp only[eH]at r;subst r;rfl
 |int k n=>simp only[eH]at r;subst r;rfl
 |str s=>simp only[eH]at r;subst r;rfl
 |ptr a=>cases a<;>simp only[eH]at r;. subst r;rfl
         . obtain⟨b,s,_,rfl⟩:=r;rfl
 |fk a l c e=>cases a<;>simp only[eH]at r;. obtain⟨_,_,rfl⟩:=r;rfl
              . obtain⟨b,s,_,_,_,_,_,_,_,rfl⟩:=r;rfl
 |map a=>cases a<;>simp only[eH]at r;. subst r;rfl
         . obtain⟨b,_,rfl⟩:=r;rfl
 |fn f a c=>obtain⟨_,_,_,_,_,_,rfl⟩:=r;rfl
 |kU=>simp only[eH]at r;subst r;rfl
 |iface t x=>obtain⟨_,_,rfl⟩:=r;rfl
 |nilIface=>simp only[eH]at r;subst r;rfl
 |eM f n cs=>obtain⟨⟨_,_,_,rfl,_⟩,_⟩:=r;rfl
 |eo cs=>obtain⟨_,_,_,_,rfl,_⟩:=r;rfl
theorem ye{E:Env}{x:V}{k:IntKind}{m:Int}(r:eH E x (.int k m)):x= .int k m:=by
 have t:=sg r;cases x<;>simp[V.tag,yd]at t;simp only[eH]at r;cases r;rfl
theorem yf{E:Env}{x:V}{s:ByteArray}(r:eH E x (.string s)):∃l,x= .str l:=by
 have t:=sg r;cases x<;>simp[V.tag,yd]at t;exact⟨_,rfl⟩
theorem Ef{E:Env}{x:V}{k:FloatKind}{m:Nat}(r:eH E x (.float k m)):False:=by
 have t:=sg r;cases x<;>simp[V.tag,yd]at t
theorem BA{E:Env}{x:V}{k:FloatKind}{m m':Nat}(r:eH E x (.complex k m m')):False:=by
 have t:=sg r;cases x<;>simp[V.tag,yd]at t
theorem Pq{E:Env}{x y:V}{x' y':Value}{t:TypeId}(rx:eH E x x')(ry:eH E y y')(hi:∀k m k' m',¬(x= .int k m/\y= .int k' m'))(hs:∀s u,¬(x= .str s/\y= .str u)):
  binOp .eql t x' y'=(do pure (.bool (<- Op.equal t x' y')))/\binOp .neq t x' y'=(do pure (.bool (!(<- Op.equal t x' y')))):=by
 cases x'<;>cases y'<;>first
  |exact⟨rfl,rfl⟩
  |exact absurd ⟨ye rx,ye ry⟩ (hi _ _ _ _)
  |exact(Ef rx).elim
  |exact(BA rx).elim
  |(obtain⟨l,e1⟩:=yf rx;obtain⟨l',e2⟩:=yf ry;exact absurd ⟨e1,e2⟩ (hs _ _))
section
variable{P:Program}{E:Env}{h:I es}{n:Nat}{w:World}
theorem tj{d:Nat}{eq:TypeId->V->V->Option Bool}(ih:∀t x y x' y' r,eq t x y=some r->eH E x x'->eH E y y'->(Op.equalIn d t x' y').run P w= .ok r w)
  {xs ys:ag} {zx EH:Array Value} (rx:eK E xs zx.toList) (ry:eK E ys EH.toList):∀(fs:List Field) (r:Bool),eqFields P eq fs xs ys=some r->(Op.eqFields d zx EH fs).run P w= .ok r w
 | [],r,e=>by simp only[eqFields,aq]at e;subst e;rfl
 |f::fs,r,e=>by
  simp only[eqFields]at e;simp only[Op.eqFields];split at e
  . rename_i jD;rw[aF jD];cases h1:oC P f.type xs f.offset with
    |none=>simp[h1]at e
    |some a=>cases C:oC P f.type ys f.offset with
     |none=>simp[h1,C]at e
     |some b=>
      simp only[h1,C]at e;obtain⟨a',p1,p2⟩:=r9 (P:=P) (w:=w) rx h1;obtain⟨b',q1,q2⟩:=r9 (P:=P) (w:=w) ry C;cases h3:eq f.type a b with
      |none=>simp[h3]at e
      |some c=>
       have hr:=ih _ _ _ _ _ _ h3 p2 q2;simp only[Sem.run_bind,p1,q1,Result.andThen_ok,hr];cases c with
       |false=>simp only[h3,aq]at e;subst e;simp
       |true=>simp only[h3]at e;simp only[Bool.not_true,aM,cI];exact tj ih rx ry fs r e
  . rename_i jD;rw[aD jD];exact tj ih rx ry fs r e
theorem AT{d c:Nat}{el:TypeId}{eq:V->V->Option Bool}(ih:∀x y x' y' r,eq x y=some r->eH E x x'->eH E y y'->(Op.equalIn d el x' y').run P w= .ok r w)
  {xs ys:ag} {zx EH:Array Value} (rx:eK E xs zx.toList) (ry:eK E ys EH.toList):∀(is:List Nat) (r:Bool),oD P eq el c xs ys is=some r->(Op.eqItems d el c zx EH is).run P w= .ok r w
 | [],r,e=>by simp only[oD,aq]at e;subst e;rfl
 |i::is,r,e=>by
  simp only[oD]at e;simp only[Op.eqItems];cases h1:oC P el xs (i*c)with
  |none=>simp[h1]at e
  |some a=>cases C:oC P el ys (i*c)with
   |none=>simp[h1,C]at e
   |some b=>
    simp only[h1,C]at e;obtain⟨a',p1,p2⟩:=r9 (P:=P) (w:=w) rx h1;obtain⟨b',q1,q2⟩:=r9 (P:=P) (w:=w) ry C;cases h3:eq a b with
    |none=>simp[h3]at e
    |some q=>
     have hr:=ih _ _ _ _ _ h3 p2 q2;simp only[Sem.run_bind,p1,q1,Result.andThen_ok,hr];cases q with
     |false=>simp only[h3,aq]at e;subst e;simp
     |true=>simp only[h3]at e;simp only[Bool.not_true,aM,cI];exact AT ih rx ry is r e
theorem FP:∀(d:Nat) (t:TypeId) (x y:V) (x' y':Value) (r:Bool),EF P d t x y=some r->eH E x x'->eH E y y'->(Op.equalIn d t x' y').run P w= .ok r w:=by
 intro d
 induction d with
 |zero=>intro t x y x' y' r e;simp[EF]at e
 |succ d ih=>
  intro t x y x' y' r e rx ry;simp only[EF]at e;split at e
  . rename_i hu;split at e
    . simp only[eH]at rx ry;subst rx;subst ry;obtain rfl:=eZ e;simp[Op.equalIn,eE hu]
    . cases e
  . rename_i hu;split at e
    . simp only[eH]at rx ry;subst rx;subst ry;split at e
      . rename_i hk;subst hk;obtain rfl:=eZ e;simp[Op.equalIn,eE hu]
      . cases e
    . cases e
  . rename_i hu;split at e
    . simp only[eH]at rx ry;subst rx;subst ry;obtain rfl:=eZ e;simp only[Op.equalIn,Sem.run_bind,eE hu,Result.andThen_ok,Sem.run_pure];rw[rZ]
    . cases e
  . rename_i hu;split at e
    . rename_i b;simp only[eH]at rx;subst rx;obtain rfl:=eZ e;cases b with
      |none=>simp only[eH]at ry;subst ry;simp[Op.equalIn,eE hu]
      |some p=>obtain⟨_,_,_,rfl⟩:=ry;simp[Op.equalIn,eE hu]
    . rename_i p;obtain rfl:=eZ e;obtain⟨_,_,_,rfl⟩:=rx;simp only[eH]at ry;subst ry;simp[Op.equalIn,eE hu]
    . split at e
      . rename_i hmm;obtain⟨⟨rfl,rfl⟩,nc⟩:=hmm;obtain rfl:=eZ e;obtain⟨b,s,h1,rfl⟩:=rx;obtain⟨b',T,C,rfl⟩:=ry;rw[h1]at C;cases C;obtain⟨z,hz⟩:=bR.1 nc;simp only[Op.equalIn,Sem.run_bind,eE hu,Result.andThen_ok,fQ hz];by_cases L6:z=0
        . simp[L6]
        . simp[L6,sameAddr]
      . cases e
    . obtain rfl:=eZ e;simp only[eH]at rx;subst rx;obtain⟨_,_,_,_,rfl,_⟩:=ry;simp[Op.equalIn,eE hu]
    . obtain rfl:=eZ e;obtain⟨_,_,_,_,rfl,_⟩:=rx;simp only[eH]at ry;subst ry;simp[Op.equalIn,eE hu]
    . cases e
  . rename_i hu;split at e
    . simp only[eH]at rx ry;subst rx;subst ry;obtain rfl:=eZ e;simp[Op.equalIn,eE hu]
    . simp only[eH]at rx;subst rx;obtain⟨_,_,rfl⟩:=ry;obtain rfl:=eZ e;simp[Op.equalIn,eE hu]
    . simp only[eH]at ry;subst ry;obtain⟨_,_,rfl⟩:=rx;obtain rfl:=eZ e;simp[Op.equalIn,eE hu]
    . cases e
  . rename_i mb hu;split at e
    . split at e
      . cases e
      . rename_i wm;obtain⟨zx,XP,rfl⟩:=rx;obtain⟨EH,XQ,rfl⟩:=ry;have hf:P.fieldsOf t=mb:=by simp[Program.fieldsOf,hu]
        rw[run_equalIn_struct w d t _ _ (by rw[hf];exact hu) (by simpa using wm),hf];exact tj (fun u a b a' b' r e ra rb=>ih u a b a' b' r e ra rb) (by simpa using XP) (by simpa using XQ) _ _ e
    . cases e
  . rename_i hu;split at e
    . rename_i b _ _ _;obtain⟨_,_,rfl⟩:=rx;obtain rfl:=eZ e;cases b with
      |none=>obtain⟨_,_,rfl⟩:=ry;simp[Op.equalIn,eE hu]
      |some p=>obtain⟨_,_,_,_,_,_,_,_,_,rfl⟩:=ry;simp[Op.equalIn,eE hu]
    . obtain rfl:=eZ e;obtain⟨_,_,_,_,_,_,_,_,_,rfl⟩:=rx;obtain⟨_,_,rfl⟩:=ry;simp[Op.equalIn,eE hu]
    . split at e
      . obtain rfl:=eZ e;obtain⟨⟨a,kg,vs,rfl,_,_,_,h1⟩,_⟩:=rx;obtain⟨_,_,_,rfl,_⟩:=h1 (Nat.succ_pos _);obtain⟨_,_,rfl⟩:=ry;simp[Op.equalIn,eE hu]
      . cases e
    . cases e
  . rename_i hu;split at e
    . rename_i b;simp only[eH]at rx;subst rx;obtain rfl:=eZ e;cases b with
      |none=>simp only[eH]at ry;subst ry;simp[Op.equalIn,eE hu]
      |some p=>obtain⟨_,_,rfl⟩:=ry;simp[Op.equalIn,eE hu]
    . obtain rfl:=eZ e;obtain⟨_,_,rfl⟩:=rx;simp only[eH]at ry;subst ry;simp[Op.equalIn,eE hu]
    . cases e
  . rename_i m el hu;split at e
    . split at e
      . rename_i hi;obtain⟨i,hi⟩:=bR.1 hi;obtain⟨zx,XP,rfl⟩:=rx;obtain⟨EH,XQ,rfl⟩:=ry;rw[run_equalIn_array w d zx.toArray EH.toArray hu hi];exact AT (fun a b a' b' r e ra rb=>ih el a b a' b' r e ra rb) (by simpa using XP) (by simpa using XQ) _ _ e
      . cases e
    . cases e
  . cases e
end
section
variable{P:Program}{E:Env}{h:I es}{n:Nat}{w:World}
theorem Cy:∀s u:aa,O7 s u=Op.bytesLess s u
 |_,[]=>by cases ‹aa›<;>rfl
 | [],_::_=>rfl
 |a::x,b::y=>by
  simp only[O7,Op.bytesLess];have h1:(a<b)↔a.toNat<b.toNat:=UInt8.lt_iff_toNat_lt;have C:(a=b)↔a.toNat=b.toNat:=UInt8.toNat_inj.symm;rcases Nat.lt_trichotomy a.toNat b.toNat with h|h|h
  . have:Nat.blt a.toNat b.toNat=true:=Nat.ble_eq_true_of_le h;rw[this];simp[h1.2 h]
  . have e1:Nat.blt a.toNat b.toNat=false:=by cases q:Nat.blt a.toNat b.toNat with|false=>rfl|true=>exact absurd (aE q) S
    have e2:Nat.beq a.toNat b.toNat=true:=by rw[h];exact Nat.beq_refl _
    have e3:¬a<b:=fun q=>by have:=h1.1 q;omega
    have e4:a=b:=C.2 h;rw[e1,e2];simp only[Cy x y,e4];simp
  . have e1:Nat.blt a.toNat b.toNat=false:=by cases q:Nat.blt a.toNat b.toNat with|false=>rfl|true=>exact absurd (aE q) S
    have e2:Nat.beq a.toNat b.toNat=false:=by cases q:Nat.beq a.toNat b.toNat with|false=>rfl|true=>exact absurd (aJ q) S
    have e3:¬a<b:=fun q=>by have:=h1.1 q;omega
    have e4:¬a=b:=fun q=>by have:=C.1 q;omega
    rw[e1,e2];simp[e3,e4]
theorem vL(s:aa):(⟨s.toArray⟩:ByteArray).toList=s:=by rw[ByteArray.toList_eq]
theorem Pr{op:BinOp}{t:TypeId}{x y:Operand}{a b v:V}{a' b':Value}(g:Good E h w)(ra:eH E a a')(rb:eH E b b')(e:Ck P op t x y a b=some v):
  ku P E h n w (do pure (.value (<- (do eqGuard op t x y a' b';binOp op t a' b')))) (.val v h n):=by
 unfold Ck at e;split at e
 . rename_i k m k' m';simp only[eH]at ra rb;subst ra;subst rb;obtain⟨v',q1,q2⟩:=w8 e;refine eS g (v':=v') ?_ (q2 E);have hg:(eqGuard op t x y (.int k m) (.int k' m')).run P w= .ok () w:=by cases op<;>rfl
   simp only[Sem.run_bind,hg,Result.andThen_ok,q1];rfl
 . rename_i s u;simp only[eH]at ra rb;subst ra;subst rb;have hg:(eqGuard op t x y (.string ⟨s.toArray⟩) (.string ⟨u.toArray⟩)).run P w= .ok () w:=by cases op<;>rfl
   cases op<;>simp only[O8]at e<;>first
    |(cases e;done)
    |skip
   . split at e
     . rename_i hl;obtain rfl:=eZ e;refine eS g (v':=.string (⟨s.toArray⟩++⟨u.toArray⟩)) ?_ ?_
       . have nc:¬(((ByteArray.size ⟨s.toArray⟩+ByteArray.size ⟨u.toArray⟩:Nat):Int)>IntKind.i64.max):=by
          have:(IntKind.i64.max:Int)=9223372036854775807:=by decide
          rw[this];show ¬(((s.toArray.size+u.toArray.size:Nat):Int)>9223372036854775807);unfold wV at hl;simp only[List.size_toArray];omega
         simp only[Sem.run_bind,hg,Result.andThen_ok,binOp,Op.stringOp];rw[aD nc];rfl
       . show Value.string _= .string ⟨(s++u).toArray⟩;congr 1
     . cases e
   . obtain rfl:=eZ e;refine eS g (v':=.bool (mX s u)) ?_ rfl;simp only[Sem.run_bind,hg,Result.andThen_ok,binOp,Op.stringOp,th];rfl
   . obtain rfl:=eZ e;refine eS g (v':=.bool (!mX s u)) ?_ rfl;simp only[Sem.run_bind,hg,Result.andThen_ok,binOp,Op.stringOp,th];rfl
   . obtain rfl:=eZ e;refine eS g (v':=.bool (O7 s u)) ?_ rfl;simp only[Sem.run_bind,hg,Result.andThen_ok,binOp,Op.stringOp,Cy,vL];rfl
   . obtain rfl:=eZ e;refine eS g (v':=.bool (O7 s u||mX s u)) ?_ rfl;simp only[Sem.run_bind,hg,Result.andThen_ok,binOp,Op.stringOp,th,kM,Cy,vL];rfl
   . obtain rfl:=eZ e;refine eS g (v':=.bool (!(O7 s u||mX s u))) ?_ rfl;simp only[Sem.run_bind,hg,Result.andThen_ok,binOp,Op.stringOp,th,kM,Cy,vL];rfl
   . obtain rfl:=eZ e;refine eS g (v':=.bool (!O7 s u)) ?_ rfl;simp only[Sem.run_bind,hg,Result.andThen_ok,binOp,Op.stringOp,Cy,vL];rfl
 . rename_i hni JU;have U:=Pq (t:=t) ra rb (fun k m k' m' q=>hni k m k' m' q.1 q.2) (fun s u q=>JU s u q.1 q.2);have qI:∀r,Ec P t x y a b=some r->∀op,(op= .eql\/op= .neq)->(eqGuard op t x y a' b').run P w= .ok () w/\(Op.equal t a' b').run P w= .ok r w:=by
    intro r er op pG;unfold Ec at er;split at er
    . simp only[eH]at ra rb;subst ra;subst rb;split at er
      . rename_i ajz;refine⟨?_,FP (E:=E) 10000 t _ _ _ _ r er rfl rfl⟩;clear U e;rcases pG with rfl|rfl<;>cases x<;>cases y<;>first
         |rfl
         |(simp only[isLit,Bool.or_self,aM]at ajz)
      . cases er
    . split at er
      . cases er
      . rename_i hg;obtain⟨zx,rx,rfl⟩:=ra;obtain⟨EH,ry,rfl⟩:=rb;refine⟨run_eqGuard_agg w op t x y _ _ (by simpa using hg),FP 10000 t _ _ _ _ r er ⟨zx,rx,rfl⟩ ⟨EH,ry,rfl⟩⟩
    . rename_i FQ qQ;refine⟨?_,FP 10000 t _ _ _ _ r er ra rb⟩;have t1:=sg ra;have t2:=sg rb;rcases pG with rfl|rfl<;>cases a'<;>first
       |rfl
       |(cases b'<;>first
        |rfl
        |(exfalso;cases a<;>simp[V.tag,yd]at t1;cases b<;>simp[V.tag,yd]at t2;exact FQ rfl rfl)
        |(exfalso;cases a<;>simp[V.tag,yd]at t1;cases b<;>simp[V.tag,yd]at t2;exact qQ _ _ rfl rfl))
   split at e
   . cases hq:Ec P t x y a b with
     |none=>simp[hq]at e
     |some r=>
      simp only[hq,bz,aq]at e;subst e;obtain⟨m1,m2⟩:=qI r hq .eql (.inl rfl);refine eS g (v':=.bool r) ?_ rfl;simp only[Sem.run_bind,m1,Result.andThen_ok,U.1,m2,Sem.run_pure]
   . cases hq:Ec P t x y a b with
     |none=>simp[hq]at e
     |some r=>
      simp only[hq,bz,aq]at e;subst e;obtain⟨m1,m2⟩:=qI r hq .neq (.inr rfl);refine eS g (v':=.bool (!r)) ?_ rfl;simp only[Sem.run_bind,m1,Result.andThen_ok,U.2,m2,Sem.run_pure]
   . cases e
section
variable{t:TypeId}{f:Nat}{x i:V}
theorem TL{op:UnOp}{x v:V}{x':Value}(g:Good E h w)(r:eH E x x')(e:unV op x=some v):ku P E h n w (do pure (.value (<- Op.unary op x'))) (.val v h n):=by
 unfold unV at e;split at e
 . simp only[eH]at r;subst r;obtain⟨v',q1,q2⟩:=w8 e;exact eS g (v':=v') (by rw[q1];rfl) (q2 E)
 . simp only[eH]at r;subst r;obtain⟨v',q1,q2⟩:=w8 e;exact eS g (v':=v') (by rw[q1];rfl) (q2 E)
 . cases e
theorem HZ{e:TypeId}(q:uM P t=some e):P.underlying t=some (.slice e):=by
 unfold uM at q;split at q
 . rename_i hu;simp at q;subst q;exact hu
 . cases q
theorem FR{v:V}{x':Value}(g:Good E h w)(r:eH E x x')(e:wW P t f x=some v):
  ku P E h n w (do pure (.value (<- Instr.fieldAt t x' f))) (.val v h n):=by
 unfold wW at e;split at e
 . rename_i m o;split at e
   . rename_i fs hu;split at e
     . rename_i fd hf;split at e
       . rename_i k hk;obtain rfl:=eZ e;obtain⟨b,s,hi,rfl⟩:=r;refine eS g (v':=.pointer (some ⟨b,s+(o+fd.offset),none⟩)) ?_ ⟨b,s,hi,rfl⟩;simp[Instr.fieldAt,eE hu,hf,Instr.sureAddr,fieldPlace,fQ hk,Addr.jw,Nat.add_assoc]
       . cases e
     . cases e
   . cases e
 . rename_i cs;split at e
   . rename_i fs hu;split at e
     . rename_i fd hf;split at e
       . rename_i k hk;obtain rfl:=eZ e;obtain⟨b,o,c,vs,rfl,Ed,hd,A⟩:=r;refine eS g (v':=.pointer (some ⟨b,o+fd.offset,none⟩)) ?_ ⟨b,_,c,vs.drop fd.offset,rfl,Ed,qf hd,fun j w q=>?_⟩
         . simp[Instr.fieldAt,eE hu,hf,Instr.sureAddr,fieldPlace,fQ hk,Addr.jw]
         . rw[cj]at q;rw[<- A _ w q,Nat.add_assoc]
       . cases e
     . cases e
   . cases e
 . cases e
theorem Ps{v:V}{x':Value}(g:Good E h w)(r:eH E x x')(e:J4 P t f x=some v):
  ku P E h n w (do pure (.value (<- Instr.field t x' f))) (.val v h n):=by
 unfold J4 at e;split at e
 . split at e
   . rename_i fs hu;split at e
     . rename_i fd hf;obtain⟨cs',rc,rfl⟩:=r;obtain⟨v',h1,C⟩:=r9 (P:=P) (w:=w) (cs':=cs'.toArray) (by simpa using rc) e;refine eS g (v':=v') ?_ C;simp[Instr.field,eE hu,hf,asAgg,h1]
     . cases e
   . cases e
 . cases e
theorem FT{v:V}{x' i':Value}(g:Good E h w)(r:eH E x x')(ri:eH E i i')(e:mL P t x i=some v):
  ku P E h n w (do pure (.value (<- Instr.indexAt t x' i'))) (.val v h n):=by
 unfold mL at e;split at e
 . rename_i k i;simp only[eH]at ri;subst ri;split at e
   . rename_i len el m o hu;split at e
     . rename_i s hs;split at e
       . rename_i U;obtain rfl:=eZ e;obtain⟨b,sh,hi,rfl⟩:=r;refine eS g (v':=.pointer (some ⟨b,sh+(o+i.toNat*s),none⟩)) ?_ ⟨b,sh,hi,rfl⟩;simp[Instr.indexAt,asIntOf,eE hu,Instr.sureAddr,U.1,U.2,fQ hs,Addr.jw,Nat.add_assoc]
       . cases e
     . cases e
   . rename_i el m o len kg lz hu;split at e
     . rename_i s hs;split at e
       . rename_i U;obtain⟨h1,C,h3⟩:=U;obtain rfl:=eZ e;obtain⟨b,sh,o',gZ,hi,q1,q2,q3,q4,rfl⟩:=r;have ho:o'=sh+o:=q1 S;subst ho;refine eS g (v':=.pointer (some ⟨b,sh+(o+i.toNat*s),none⟩)) ?_ ⟨b,sh,hi,rfl⟩;simp[Instr.indexAt,asIntOf,eE hu,h1,C,fQ hs,Addr.jw,Nat.add_assoc]
       . cases e
     . cases e
   . rename_i el f len cs hu;split at e
     . rename_i s hs;split at e
       . rename_i U;obtain⟨⟨h1,C⟩,h3⟩:=U;obtain rfl:=eZ e;obtain⟨⟨a,kg,vs,rfl,oG,hd,h0,uY⟩,_⟩:=r;obtain⟨b,o,c,rfl,Ed,A⟩:=uY S;refine eS g (v':=.pointer (some ⟨b,o+i.toNat*s,none⟩)) ?_ ⟨b,_,c,(vs.drop (i.toNat*s)).take s,rfl,Ed,wZ (qf hd),fun j w q=>?_⟩
         . simp[Instr.indexAt,asIntOf,eE hu,h1,C,fQ hs,Addr.jw]
         . rw[cg]at q;split at q
           . rw[cj]at q;rw[<- A _ w q,Nat.add_assoc]
           . cases q
       . cases e
     . cases e
   . rename_i len el cs hu;split at e
     . rename_i s hs;split at e
       . rename_i U;obtain rfl:=eZ e;obtain⟨b,o,c,vs,rfl,Ed,hd,A⟩:=r;refine eS g (v':=.pointer (some ⟨b,o+i.toNat*s,none⟩)) ?_ ⟨b,_,c,vs.drop (i.toNat*s),rfl,Ed,qf hd,fun j w q=>?_⟩
         . simp[Instr.indexAt,asIntOf,eE hu,Instr.sureAddr,U.1,U.2,fQ hs,Addr.jw]
         . rw[cj]at q;rw[<- A _ w q,Nat.add_assoc]
       . cases e
     . cases e
   . cases e
 . cases e
theorem Pt{v:V}{x' i':Value}(g:Good E h w)(r:eH E x x')(ri:eH E i i')(e:Cm P t x i=some v):
  ku P E h n w (do pure (.value (<- Instr.index t x' i'))) (.val v h n):=by
 unfold Cm at e;split at e
 . rename_i k i;simp only[eH]at ri;subst ri;split at e
   . rename_i len el cs hu;split at e
     . rename_i s hs;split at e
       . rename_i U;obtain⟨cs',rc,rfl⟩:=r;obtain⟨v',h1,C⟩:=r9 (P:=P) (w:=w) (cs':=cs'.toArray) (by simpa using rc) e;refine eS g (v':=v') ?_ C;simp[Instr.index,asIntOf,eE hu,U.1,U.2,fQ hs,h1]
       . cases e
     . cases e
   . rename_i s hu;split at e
     . rename_i U;split at e
       . rename_i b hsb;obtain rfl:=eZ e;simp only[eH]at r;subst r;refine eS g (v':=.int .u8 b.toNat) ?_ rfl;have hg:(⟨s.toArray⟩:ByteArray)[i.toNat]? =some b:=by
          obtain⟨fj,hv⟩:=aS.1 hsb;have nc:i.toNat<(⟨s.toArray⟩:ByteArray).size:=by show i.toNat<s.toArray.size;simpa using fj
          rw[getElem?_pos (⟨s.toArray⟩:ByteArray) i.toNat nc];congr 1
         simp[Instr.index,asIntOf,eE hu,U,hg]
       . cases e
     . cases e
   . cases e
 . cases e
theorem Kj{vs:ag}{i:Nat}{v:V}{x':Value}(g:Good E h w)(r:eH E (.gK vs) x')(e:vs[i]? =some v):
  ku P E h n w (do pure (.value (<- Instr.extract x' i))) (.val v h n):=by
 obtain⟨Wm,rs,rfl⟩:=r;obtain⟨v',h1,C⟩:=iq rs i v e;refine eS g (v':=v') ?_ C;simp[Instr.extract,h1]
theorem Eg{v:V}{xt t:TypeId}{ok:Bool}{x':Value}(g:Good E h w)(r:eH E x x')(e:uP P x t ok=some v):
  ku P E h n w (do pure (.value (<- Instr.typeAssert x' xt t ok))) (.val v h n):=by
 unfold uP at e;split at e
 . cases e
 . rename_i d hu hd;simp only[eH]at r;subst r;split at e
   . rename_i mY;cases hz:zeroOf P t with
     |none=>simp[hz]at e
     |some z=>
      simp only[hz,aq]at e;subst e;obtain⟨z',hr,hv,_⟩:=lO (w:=w) E hz;refine eS g (v':=.tuple #[z',.bool false]) ?_ ⟨[z',.bool false],⟨z',_,hv,⟨.bool false,[],rfl,rfl,rfl⟩,rfl⟩,rfl⟩;cases d<;>first|(exact absurd rfl (hu _))|simp[Instr.typeAssert,eE hd,mY,hr]
   . cases e
 . rename_i d t2 x2 hu hd;obtain⟨y,ry,rfl⟩:=r;split at e
   . rename_i ht;subst ht;obtain rfl:=eZ e;cases ok with
     |true=>
      refine eS g (v':=.tuple #[y,.bool true]) ?_ ⟨[y,.bool true],⟨y,_,ry,⟨.bool true,[],rfl,rfl,rfl⟩,rfl⟩,rfl⟩;cases d<;>first|(exact absurd rfl (hu _))|simp[Instr.typeAssert,eE hd]
     |false=>
      refine eS g (v':=y) ?_ ry;cases d<;>first|(exact absurd rfl (hu _))|simp[Instr.typeAssert,eE hd]
   . rename_i ht;split at e
     . rename_i mY;cases hz:zeroOf P t with
       |none=>simp[hz]at e
       |some z=>
        simp only[hz,aq]at e;subst e;obtain⟨z',hr,hv,_⟩:=lO (w:=w) E hz;refine eS g (v':=.tuple #[z',.bool false]) ?_ ⟨[z',.bool false],⟨z',_,hv,⟨.bool false,[],rfl,rfl,rfl⟩,rfl⟩,rfl⟩;cases d<;>first|(exact absurd rfl (hu _))|simp[Instr.typeAssert,eE hd,mY,hr,ht]
     . cases e
 . cases e
end
end
def n7(E:Env):Option V->Option Value->Prop
 |none,y=>y=none
 |some x,y=>∃y',eH E x y'/\y=some y'
section
variable{P:Program}{E:Env}{h:I es}{n:Nat}{w:World}
theorem vM{d y r:Nat}{x:V}{x':Value}{c:BoundsCode}(e:fB d y (some x)=some r)(rx:eH E x x'):
  (Instr.sliceBound x' y c).run P w= .ok r w/\r<=y:=by
 unfold fB at e;split at e
 . rename_i q;cases q
 . rename_i k i q;cases q;simp only[eH]at rx;subst rx;split at e
   . rename_i U;obtain rfl:=eZ e;refine⟨?_,S⟩;simp[Instr.sliceBound,asIntOf,U.1,U.2]
   . cases e
 . cases e
theorem mN{qm:Bool}{len kg l hh m:Nat}{lo hi mx:Option V}{TM jX TN:Option Value}(rl:n7 E lo TM)(rh:n7 E hi jX)(rm:n7 E mx TN)
  (hmh:mx=none\/hi≠none) (e1:fB kg kg mx=some m) (e2:fB len m hi=some hh) (e3:fB 0 hh lo=some l) (jJ:len<=kg):
  (Instr.sliceBounds qm len kg TM jX TN).run P w= .ok (l,hh,m) w/\l<=hh/\hh<=m/\m<=kg:=by
 have low:∀c,((match TM with|some v=>Instr.sliceBound v hh c|none=>pure 0):Sem Nat).run P w= .ok l w/\l<=hh:=by
  intro c;cases lo with
  |none=>simp only[n7]at rl;subst rl;simp only[fB,aq]at e3;subst e3;exact⟨rfl,aR _⟩
  |some x=>obtain⟨x',rx,rfl⟩:=rl;exact vM e3 rx
 cases mx with
 |none=>
  simp only[n7]at rm;subst rm;simp only[fB,aq]at e1;subst e1;cases hi with
  |none=>
   simp only[n7]at rh;subst rh;simp only[fB,aq]at e2;subst e2;obtain⟨h1,C⟩:=low .sliceB;refine⟨?_,C,jJ,aK _⟩;cases TM<;>simp_all [Instr.sliceBounds]
  |some x=>
   obtain⟨x',rx,rfl⟩:=rh;obtain⟨p1,p2⟩:=vM (P:=P) (w:=w) (c:=if qm then .sliceAcap else .sliceAlen) e2 rx;obtain⟨h1,C⟩:=low .sliceB;refine⟨?_,C,p2,aK _⟩;cases TM<;>simp_all [Instr.sliceBounds]
 |some y=>
  obtain⟨y',ry,rfl⟩:=rm;obtain⟨p1,p2⟩:=vM (P:=P) (w:=w) (c:=if qm then .slice3Acap else .slice3Alen) e1 ry;cases hi with
  |none=>rcases hmh with q|q<;>simp at q
  |some x=>
   obtain⟨x',rx,rfl⟩:=rh;obtain⟨q1,q2⟩:=vM (P:=P) (w:=w) (c:=.slice3B) e2 rx;obtain⟨h1,C⟩:=low .slice3C;refine⟨?_,C,q2,p2⟩;cases TM<;>simp_all [Instr.sliceBounds]
theorem FU(s:aa)(l hh:Nat):(⟨s.toArray⟩:ByteArray).extract l hh=⟨((s.take hh).drop l).toArray⟩:=by
 apply ByteArray.ext;simp[List.extract_eq_take_drop,List.drop_take]
theorem Pu{t:TypeId}{x v:V}{x':Value}{lo hi mx:Option V}{TM jX TN:Option Value}(g:Good E h w)(r:eH E x x')(rl:n7 E lo TM)(rh:n7 E hi jX)(rm:n7 E mx TN)
  (e:mK P t h x lo hi mx=some v):ku P E h n w (do pure (.value (<- Instr.sliceAt t x' TM jX TN))) (.val v h n):=by
 unfold mK at e;split at e
 . cases e
 . rename_i acO;have hmh:mx=none\/hi≠none:=by
    cases mx with
    |none=>exact .inl rfl
    |some _=>cases hi with
     |none=>simp at acO
     |some _=>exact .inr (by simp)
   clear acO;split at e
   . rename_i s hu;cases mx with
     |some _=>simp at e
     |none=>
      simp only[n7]at rm;subst rm;simp only at e;simp only[eH]at r;subst r;cases C:fB s.length s.length hi with
      |none=>simp[C]at e
      |some hh=>
       simp only[C]at e;cases h3:fB 0 hh lo with
       |none=>simp[h3]at e
       |some l=>
        simp only[h3,aq]at e;subst e;have nc:(⟨s.toArray⟩:ByteArray).size=s.length:=by show s.toArray.size=_;simp
        obtain⟨q,q1,q2,_⟩:=mN (P:=P) (w:=w) (qm:=false) (len:=s.length) (kg:=s.length) (mx:=none) (TN:=none) rl rh rfl (.inl rfl) rfl C h3 (aK _);refine eS g (v':=.string ⟨((s.take hh).drop l).toArray⟩) ?_ rfl;simp only[Sem.run_bind,Instr.sliceAt,eE hu,Result.andThen_ok,Instr.slice,Option.isSome_none,aM,cI,nc,q,Sem.run_pure,FU s l hh]
   . rename_i el a len kg lz hu;split at e
     . rename_i s hs;split at e
       . rename_i hse;cases h1:fB kg kg mx with
         |none=>simp[h1]at e
         |some m=>
          simp only[h1]at e;cases C:fB len m hi with
          |none=>simp[C]at e
          |some hh=>
           simp only[C]at e;cases h3:fB 0 hh lo with
           |none=>simp[h3]at e
           |some l=>
            simp only[h3,aq]at e;subst e;cases a with
            |none=>
             obtain⟨rfl,rfl,rfl⟩:=r;obtain⟨q,q1,q2,q3⟩:=mN (P:=P) (w:=w) (qm:=true) rl rh rm hmh h1 C h3 (aK _);have L:m=0:=by omega
             have hh0:hh=0:=by omega
             have D1:l=0:=by omega
             subst L;subst hh0;subst D1;refine eS g (v':=.slice none 0 0) ?_ ⟨rfl,rfl,rfl⟩;simp only[Sem.run_bind,Instr.sliceAt,eE hu,Result.andThen_ok,Instr.slice,q,fQ hs,Sem.run_pure];rfl
            |some a=>
             obtain⟨bm,o⟩:=a
             have hse:s=lz:=by rcases hse with q|q;. exact q
                               . cases q
             subst hse;obtain⟨b,sh,o',gZ,jX,c1,c2,c3,c4,rfl⟩:=r;cases mx with
             |none=>
              simp only[n7]at rm;subst rm;simp only[fB,aq]at h1;subst h1;have AU:fB len gZ hi=some hh:=by
               cases hi with
               |none=>exact C
               |some y=>
                unfold fB at C ⊢;split at C
                . rename_i q;cases q
                . rename_i k i q;cases q;split at C
                  . rename_i U;rw[aF ⟨U.1,S⟩];exact C
                  . cases C
                . cases C
              obtain⟨q,q1,q2,q3⟩:=mN (P:=P) (w:=w) (qm:=true) (mx:=none) (TN:=none) (kg:=gZ) rl rh rfl (.inl rfl) rfl AU h3 S;have hhc:hh<=kg:=by
               cases hi with
               |none=>simp only[fB,aq]at C;omega
               |some y=>
                unfold fB at C;split at C
                . rename_i q;cases q
                . rename_i k i q;cases q;split at C
                  . rename_i U;simp only[aq]at C;omega
                  . cases C
                . cases C
              refine eS g (v':=.slice (if gZ=l then some ⟨b,o',none⟩else some ⟨b,o'+l*s,none⟩) (hh-l) (gZ-l)) ?_ ?_
              . simp only[Sem.run_bind,Instr.sliceAt,eE hu,Result.andThen_ok,Instr.slice,q,fQ hs,Sem.run_pure,bz,Addr.jw]
              . by_cases vN:gZ=l
                . rw[aF vN];refine⟨b,sh,o',gZ-l,jX,fun q=>by omega,S,S,?_,rfl⟩;rw[vN];simp;omega
                . rw[aD vN];refine⟨b,sh,o'+l*s,gZ-l,jX,fun q=>?_,S,S,?_,rfl⟩
                  . rw[c1 S];omega
                  . have L:l*s+(gZ-l)*s=gZ*s:=by rw[<- dw];congr 1;omega
                    omega
             |some y=>
              obtain⟨y',ry,rfl⟩:=rm;have oU:fB gZ gZ (some y)=some m:=by
               unfold fB at h1 ⊢;split at h1
               . rename_i q;cases q
               . rename_i k i q;cases q;split at h1
                 . rename_i U;rw[aF ⟨U.1,S⟩];exact h1
                 . cases h1
               . cases h1
              have hmc:m<=kg:=by
               unfold fB at h1;split at h1
               . rename_i q;cases q
               . rename_i k i q;cases q;split at h1
                 . rename_i U;simp only[aq]at h1;omega
                 . cases h1
               . cases h1
              obtain⟨q,q1,q2,q3⟩:=mN (P:=P) (w:=w) (qm:=true) (kg:=gZ) rl rh (mx:=some y) (TN:=some y') ⟨y',ry,rfl⟩ hmh oU C h3 S;refine eS g (v':=.slice (if m=l then some ⟨b,o',none⟩else some ⟨b,o'+l*s,none⟩) (hh-l) (m-l)) ?_ ?_
              . simp only[Sem.run_bind,Instr.sliceAt,eE hu,Result.andThen_ok,Instr.slice,q,fQ hs,Sem.run_pure,bz,Addr.jw]
              . by_cases vN:m=l
                . rw[aF vN];refine⟨b,sh,o',m-l,jX,fun q=>by omega,S,S,?_,rfl⟩;rw[vN];simp;omega
                . rw[aD vN];refine⟨b,sh,o'+l*s,m-l,jX,fun q=>?_,S,aK _,?_,rfl⟩
                  . rw[c1 S];omega
                  . have L:l*s+(m-l)*s=m*s:=by rw[<- dw];congr 1;omega
                    have Te:m*s<=gZ*s:=cV _ S;omega
       . cases e
     . cases e
   . rename_i el f len cs hu;have qG:∀{y kg r:Nat} {o:Option V},fB y y o=some r->y<=kg->o≠none->fB kg kg o=some r/\r<=y:=fun {y kg r o} q hq jD=>by
      cases o with
      |none=>exact absurd rfl jD
      |some v=>
       cases v with
       |int k i=>
        simp only[fB]at q ⊢;split at q
        . rename_i U;obtain rfl:=eZ q;exact⟨aF ⟨U.1,S⟩,S⟩
        . cases q
       |_=>simp only[fB]at q;cases q
     split at e
     . rename_i s hs;split at e
       . rename_i vN;obtain⟨⟨a,kg,vs,rfl,oG,hd,h0,uY⟩,yg⟩:=r;have key:∀(l hh m:Nat),l<=hh->hh<=len->hh<=m->∀(f':Bool),(f'=true->m=hh)->
           eH E (.eM f' (hh-l) ((cs.drop (l*s)).take ((hh-l)*s))) (.slice (if m=l then a else a.map (·.add (l*s))) (hh-l) (m-l)):=by
          intro l hh m k1 k2 k3 f' hf';refine⟨⟨_,_,(vs.drop (l*s)).take ((hh-l)*s),rfl,S,wZ (qf hd),fun q=>by rw[q];simp,fun q=>?_⟩,fun q=>⟨_,by rw[hf' q]⟩⟩;obtain⟨b,o,c,rfl,Ed,A⟩:=uY S;refine⟨b,o+l*s,c,?_,Ed,fun j w hw=>?_⟩
          . rw[aD S];simp[Addr.jw]
          . rw[cg]at hw;split at hw
            . rw[cj]at hw;rw[<- A _ w hw,Nat.add_assoc]
            . cases hw
         cases mx with
         |none=>
          simp only[n7]at rm;subst rm;simp only at e;cases C:fB len len hi with
          |none=>simp[C]at e
          |some hh=>
           simp only[C]at e;cases h3:fB 0 hh lo with
           |none=>simp[h3]at e
           |some l=>
            simp only[h3,aq]at e;subst e;have AU:fB len kg hi=some hh/\hh<=len:=by
             cases hi with
             |none=>simp only[fB,aq]at C ⊢;exact⟨C,S⟩
             |some y=>
              obtain⟨q1,q2⟩:=qG C oG (by simp);exact⟨by cases y<;>exact q1,q2⟩
            obtain⟨q,q1,q2,q3⟩:=mN (P:=P) (w:=w) (qm:=true) (mx:=none) (TN:=none) (kg:=kg) rl rh rfl (.inl rfl) rfl AU.1 h3 oG;refine eS g (v':=.slice (if kg=l then a else a.map (·.add (l*s))) (hh-l) (kg-l)) ?_ (key l hh kg q1 AU.2 q2 _ fun hf=>?_)
            . simp only[Sem.run_bind,Instr.sliceAt,eE hu,Result.andThen_ok,Instr.slice,q,fQ hs,Sem.run_pure]
            . simp only[ay,bZ,Option.isSome_eq_false_iff,Option.isNone_iff_eq_none]at hf;obtain⟨hf1,rfl⟩:=hf;simp only[fB,aq]at C;obtain⟨a',ha'⟩:=yg hf1;simp only[Value.slice.injEq]at ha';omega
         |some y=>
          simp only at e;cases h1:fB len len (some y)with
          |none=>simp[h1]at e
          |some m=>
           simp only[h1]at e;cases C:fB len m hi with
           |none=>simp[C]at e
           |some hh=>
            simp only[C]at e;cases h3:fB 0 hh lo with
            |none=>simp[h3]at e
            |some l=>
             simp only[h3]at e;split at e
             . rename_i hhm;obtain rfl:=eZ e;obtain⟨k1,k2⟩:=qG h1 oG (by simp);obtain⟨q,q1,q2,q3⟩:=mN (P:=P) (w:=w) (qm:=true) (kg:=kg) rl rh rm hmh k1 C h3 oG;refine eS g (v':=.slice (if m=l then a else a.map (·.add (l*s))) (hh-l) (m-l)) ?_ (key l hh m q1 S q2 _ fun _=>hhm.symm);simp only[Sem.run_bind,Instr.sliceAt,eE hu,Result.andThen_ok,Instr.slice,q,fQ hs,Sem.run_pure]
             . cases e
       . cases e
     . cases e
   . rename_i len el bm o hu;split at e
     . rename_i s hs;cases h1:fB len len mx with
       |none=>simp[h1]at e
       |some m=>
        simp only[h1]at e;cases C:fB len m hi with
        |none=>simp[C]at e
        |some hh=>
         simp only[C]at e;cases h3:fB 0 hh lo with
         |none=>simp[h3]at e
         |some l=>
          simp only[h3]at e;split at e
          . rename_i U;obtain rfl:=eZ e;obtain⟨Ki,Nq,jE⟩:=U;unfold xZ at jE;split at jE
            . rename_i cs L;have hlc:o+len*s<=cs.length:=by simpa using jE
              obtain⟨b,sh,jX,rfl⟩:=r;obtain⟨b',sh',BB,c,el',fz,si,nc,_,EJ⟩:=g.rel bm _ L;rw[jX]at BB;cases BB;obtain⟨q,q1,q2,q3⟩:=mN (P:=P) (w:=w) (qm:=false) rl rh rm hmh h1 C h3 (aK _);refine eS g (v':=.slice (some (if m=l then⟨b,sh+o,none⟩else⟨b,sh+o+l*s,none⟩)) (hh-l) (m-l)) ?_ ?_
              . simp only[Sem.run_bind,Instr.sliceAt,eE hu,Result.andThen_ok,Instr.sureAddr,q,fQ hs,Sem.run_pure,Addr.jw]
              . have zR:sh+o+m*s<=E.β b:=by
                 have uY:0<len*s:=Nat.mul_pos Nq Ki;have Tf:=nX EJ (k:=o+len*s) S hlc;have OS:m*s<=len*s:=cV _ q3;omega
                by_cases vN:m=l
                . rw[aF vN];refine⟨b,sh,sh+o,m-l,jX,fun q=>by omega,S,S,?_,rfl⟩;rw[vN];simp;omega
                . rw[aD vN];refine⟨b,sh,sh+o+l*s,m-l,jX,fun q=>by omega,S,aK _,?_,rfl⟩;have L:l*s+(m-l)*s=m*s:=by rw[<- dw];congr 1;omega
                  omega
            . cases jE
          . cases e
     . cases e
   . cases e
end
end Go.Eng
