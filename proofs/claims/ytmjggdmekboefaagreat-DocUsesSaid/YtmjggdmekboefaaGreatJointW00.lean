/- Lemmas of the engine. No conditions. -/
import GoSem.Core.Ast
import Derived.WalkKit
import Derived.Orders
import Derived.ChangeKeysEq
set_option linter.unusedVariables false
set_option linter.unusedSimpArgs false
set_option linter.unusedSectionVars false
namespace Go.Eng
def tK:List (Nat×Nat):=[]
open Go
abbrev aq:=@Option.some.injEq
abbrev au:=@List.getElem?_eq_getElem
abbrev ax:=@List.getD_eq_getElem?_getD
abbrev ay:=@Bool.and_eq_true
abbrev az:=@Nat.le_of_ble_eq_true
abbrev aA:=@Nat.eq_of_beq_eq_true
abbrev aB:=@if_neg
abbrev aD:=@List.mem_cons
abbrev aE:=@if_pos
abbrev aF:=@Prod.mk.injEq
abbrev aG:=@List.mem_singleton
abbrev aH:=@congrArg
abbrev aI:=@List.not_mem_nil
abbrev aJ:=@List.length_append
abbrev aK:=@Nat.le_refl
abbrev aL:=@forall_eq_or_imp
abbrev aM:=@Bool.false_eq_true
abbrev aN:=@Bool.true_and
abbrev aO:=@List.getElem?_eq_some_iff
abbrev aP:=@Bool.false_and
abbrev aR:=@List.length_cons
abbrev aS:=@Nat.zero_le
abbrev aT:=@Array.getElem?_eq_some_iff
abbrev aU:=@decide_eq_false
abbrev aW:=@of_decide_eq_true
abbrev aX:=@decide_eq_true_eq
abbrev aY:=@decide_eq_true
abbrev aZ:=@Array.getElem?_eq_getElem
abbrev bf:=@List.mem_append
abbrev bg:=@forall_eq
abbrev bh:=@or_false
abbrev bj:=@List.mem_cons_of_mem
abbrev bn:=@List.length_take
abbrev bq:=@List.all_eq_true
abbrev br:=@Nat.lt_or_ge
abbrev bt:=@decide_eq_false_iff_not
abbrev bu:=@Option.map_some
abbrev bw:=@Option.ne_none_iff_exists'
abbrev bx:=@of_decide_eq_false
abbrev bz:=@List.mem_cons_self
abbrev bA:=@Option.isSome_iff_exists
abbrev bB:=@List.getElem?_append_left
abbrev bC:=@Nat.le_trans
abbrev bD:=@List.take_length
abbrev bE:=@List.getElem?_map
abbrev bG:=@Array.getD_eq_getD_getElem?
abbrev bH:=@List.mem_range
abbrev bI:=@List.length_map
abbrev bJ:=@Array.getElem?_toList
abbrev bK:=@List.getElem_mem
abbrev bL:=@List.findIdx?_eq_some_iff_getElem
abbrev bM:=@Nat.lt_of_lt_of_le
abbrev bN:=@List.getElem?_take
abbrev bO:=@List.getElem?_drop
abbrev bP:=@Bool.not_eq_true'
abbrev bQ:=@List.mem_map
abbrev bR:=@List.map_append
abbrev bS:=@Int.natCast_nonneg
abbrev bU:=@List.length_nil
abbrev bV:=@Bool.or_eq_true
abbrev bW:=@List.getElem_of_mem
abbrev bX:=@Nat.not_lt_zero
abbrev bY:=@List.drop_eq_getElem_cons
abbrev bZ:=@beq_eq_false_iff_ne
abbrev b5:=@Nat.zero_add
abbrev b6:=@Array.getElem?_append_left
abbrev b7:=@Option.getD_some
abbrev b9:=@List.take_add_one
abbrev cg:=@Int.ofNat_lt
abbrev cj:=@Bool.true_or
abbrev ck:=@List.contains_iff_mem
abbrev cm:=@Bool.false_or
abbrev cq:=@Bool.and_true
abbrev cr:=@if_false
abbrev ct:=@List.drop_zero
abbrev cz:=@Bool.and_false
abbrev cA:=@Nat.mul_le_mul_right
abbrev cB:=@List.mem_of_mem_take
abbrev cC:=@List.map_cons
abbrev cE:=@Bool.or_false
abbrev cF:=@List.eq_nil_iff_length_eq_zero
abbrev cG:=@List.getElem?_cons_zero
abbrev cH:=@List.findIdx?_eq_none_iff
abbrev cI:=@Bool.or_eq_false_iff
abbrev cJ:=@beq_iff_eq
abbrev cK:=@List.getElem?_eq_none
abbrev cL:=@List.nil_append
abbrev cM:=@List.getElem?_append_right
abbrev cN:=@List.mem_append_left
abbrev cO:=@Bool.or_true
abbrev cP:=@Array.getElem?_modify
abbrev cQ:=@Nat.testBit_two_pow_sub_one
abbrev cR:=@List.any_eq_false
abbrev cS:=@Nat.mul_one
abbrev cT:=@Nat.mod_two_eq_zero_or_one
abbrev cU:=@List.take_of_length_le
abbrev cV:=@List.getElem?_range
abbrev cW:=@Nat.add_mul
abbrev cZ:=@Nat.lt_irrefl
abbrev dc:=@List.map_take
abbrev de:=@Option.some.inj
abbrev aa:=List UInt8
abbrev ah:=List Prop
abbrev B:=IntKind.i64
theorem C{α:Sort _}{a b:α}(h:a=b:=by kernel_rfl):a=b:=h
section
variable{p:Prop}{α:Type _}
theorem G(h:p:=by omega):p:=h
theorem fa(h:p:=by decide):p:=h
theorem afG(n:Nat):Int.ofNat n=(n:Int):=rfl
theorem Vd(h:p:=by simp only[afG];omega):p:=h
theorem ZN{α:Type}{a:α}{be h1:α->Prop}(h:h1 a):∀g∈[a],be g->h1 g:=fun _ hg _=>aG.1 hg▸h
theorem aso{l:ah}(h:p)(t:∀a∈l,a):∀a∈p::l,a:=List.forall_mem_cons.2 ⟨h,t⟩
theorem eB{a b:α}(h:some a=some b):a=b:=de h
theorem fW{β:Type _}{a c:α}{b d:β}(h:some (a,b)=some (c,d)):a=c/\b=d:=Prod.mk.inj (de h)
end
inductive D where
 |bool (b:Bool)
 |int (k:IntKind) (n:Int)
 |str (s:aa)
 |eo (n:Nat) (T:List D)
 |agg (T:List D)
 deriving Inhabited
abbrev ae:=List (D×D)
abbrev ai:=List D
inductive V where
 |bool (b:Bool)
 |int (k:IntKind) (n:Int)
 |str (s:aa)
 |ptr (a:Option (Nat×Nat))
 |eS (a:Option (Nat×Nat)) (len jH jm:Nat)
 |map (r:Option Nat)
 |fn (f:Fn) (first captured:List V)
 |kz
 |iface (t:TypeId) (v:V)
 |nilIface
 |agg (T:List V)
 |gC (vs:List V)
 |eo (f:Bool) (n:Nat) (T:ai)
 |dr (T:ai)
 deriving Inhabited
abbrev ag:=List V
mutual
def D.jJ:D->V
 | .bool b=>.bool b
 | .int k n=>.int k n
 | .str s=>.str s
 | .eo n T=>.eo false n T
 | .agg T=>.agg (D.fN T)
def D.fN:ai->ag
 | []=>[]
 |x::xs=>x.jJ::D.fN xs
end
theorem D.ga:∀l:ai,D.fN l=l.map D.jJ
 | []=>rfl
 |x::xs=>by rw[D.fN,D.ga xs];rfl
def D.scalar:D->Bool
 | .agg _=>false
 |_=>true
mutual
def V.Iy:V->Option D
 | .bool b=>some (.bool b)
 | .int k n=>some (.int k n)
 | .str s=>some (.str s)
 | .eo _ n T=>some (.eo n T)
 | .eS none _ _ _=>some (.eo 0 [])
 | .eS (some _) 0 _ _=>some (.eo 0 [])
 | .agg T=>match V.Nl T with
   |some l=>some (.agg l)
   |none=>none
 |_=>none
def V.Nl:ag->Option (ai)
 | []=>some []
 |x::xs=>match V.Iy x with
  |some d=>match V.Nl xs with
   |some l=>match d.scalar with
    |true=>some (d::l)
    |false=>none
   |none=>none
  |none=>none
end
inductive I(α:Type) where
 |nil
 |node (v:Option α) (l r:I α)
 deriving Inhabited
inductive O where
 |cells (T:ag)
 |map (X:List (V×V×Nat)) (eO:Nat)
 |nq (s:aa) (pos:Nat)
 |ints (k:IntKind) (ks:List Int)
 |own (k:IntKind) (ks:List Int)
 |deep (T:ai)
 |tr (el:TypeId) (zO:Bool) (s:aa)
 |Az (t:TypeId) (self:Bool) (x:V)
 |gh (kd:Option IntKind) (X:ae)
 |ow (kd:Option IntKind) (X:ae)
 |tL
 |loop (st:Bool) (pe:Option Code) (F:I V) (ps:List Nat) (assign body:Code)
 deriving Inhabited
abbrev af:=List (Nat×O)
def O.wr:O->Bool
 | .ints _ _=>false
 |_=>true
def I.get{α:Type}:I α->Nat->Option α
 | .nil,_=>none
 | .node v l r,k=>
   match k with
   |0=>v
   |k+1=>match k%2 with
    |0=>l.get (k/2)
    |_=>r.get (k/2)
def I.qH{α:Type}:Nat->I α->Nat->Option α->I α
 |0,t,_,_=>t
 |f+1,.nil,k,x=>
  match k with
  |0=>.node x .nil .nil
  |k+1=>match k%2 with
   |0=>.node none (I.qH f .nil (k/2) x) .nil
   |_=>.node none .nil (I.qH f .nil (k/2) x)
 |f+1,.node v l r,k,x=>
  match k with
  |0=>.node x l r
  |k+1=>match k%2 with
   |0=>.node v (I.qH f l (k/2) x) r
   |_=>.node v l (I.qH f r (k/2) x)
def fV:Nat:=4294967296
def I.set{α:Type}(t:I α)(k:Nat)(x:Option α):I α:=I.qH 33 t k x
def iI:Value->Option V
 | .bool b=>some (.bool b)
 | .int k n=>some (.int k n)
 | .string s=>some (.str s.data.toList)
 | .pointer none=>some (.ptr none)
 | .slice none 0 0=>some (.eS none 0 0 0)
 | .map none=>some (.map none)
 | .nilFunc=>some .kz
 | .nilIface=>some .nilIface
 |_=>none
def nt:List Value->Option (ag)
 | []=>some []
 |v::vs=>match iI v with
  |some x=>match nt vs with
   |some xs=>some (x::xs)
   |none=>none
  |none=>none
def KB:Value->Option V
 | .agg T=>match nt T.toList with
   |some xs=>some (.agg xs)
   |none=>none
 |v=>iI v
def V.cells:V->ag
 | .agg T=>T
 |v=>[v]
def V.scalar:V->Bool
 | .agg _ | .gC _=>false
 |_=>true
section
variable(P:Program)(t:TypeId)
def kf:Option Nat:=(P.info? t).map (·.size)
def zeroOf:Option V:=
 match P.info? t with
 |some i=>match i.zero with
  |some v=>KB v
  |none=>none
 |none=>none
def Gg:Option Bool:=
 match P.underlying t with
 |some (.struct _)=>some true
 |some (.array _ _)=>some true
 |some _=>some false
 |none=>none
end
inductive h2 where
 |val (v:V) (h:I O) (n:Nat)
 |call (f:FuncId) (args:ag)
 |tL (f:FuncId) (captured args:ag)
 |recover
 |panic (v:V)
section
variable(P:Program)(h:I O)(t:TypeId)(n:Nat)
def kx:Option V->Option h2
 |some v=>some (.val v h n)
 |none=>none
def newObj(o:O):Option (I O×Nat):=
 if n<fV then some (h.set n (some o),n+1)else none
def cut(T:ag)(o size:Nat):Option (ag):=
 if o+size<=T.length then some ((T.drop o).take size)else none
def Bn(T:ag)(o:Nat)(new:ag):Option (ag):=
 if o+new.length<=T.length then some (T.take o++(new++T.drop (o+new.length)))else none
def kJ(T:ag)(o:Nat):Option V:=
 match Gg P t with
 |some true=>match kf P t with
  |some s=>(cut T o s).map .agg
  |none=>none
 |some false=>T[o]?
 |none=>none
def tR(m:Nat)(self:Bool)(x:V):ag:=[if self then .ptr (some (m,0))else .ptr none,x]
def Bo(z:V):O:=match z.cells with
 | [.ptr none,.eS none 0 0 0]=>match P.underlying t with
   |some (.struct fs)=>match fs[0]? with
    |some f=>match P.underlying f.type with
     |some (.pointer t')=>if Nat.beq t' t then .Az t false (.eS none 0 0 0)else .cells z.cells
     |_=>.cells z.cells
    |none=>.cells z.cells
   |_=>.cells z.cells
 |_=>.cells z.cells
def loadAt(h:I O):V->Option V
 | .ptr (some (m,o))=>match h.get m with
   |some (.cells T)=>kJ P t T o
   |some (.ints k ks)=>kJ P t (ks.map (.int k)) o
   |some (.own k ks)=>kJ P t (ks.map (.int k)) o
   |some (.deep T)=>kJ P t (D.fN T) o
   |some (.Az _ self x)=>kJ P t (tR m self x) o
   |_=>none
 | .dr T=>kJ P t (D.fN T) 0
 |_=>none
end
inductive Row where
 |vs (T:ag)
 |is (k:IntKind) (ks:List Int)
 |ds (T:ai)
def Row.jJ:Row->ag
 | .vs T=>T
 | .is k ks=>ks.map (.int k)
 | .ds T=>D.fN T
def Row.DE:Row->O
 | .vs T=>.cells T
 | .is k ks=>.own k ks
 | .ds T=>.deep T
def O.row:O->Option Row
 | .cells T=>some (.vs T)
 | .own k ks=>some (.is k ks)
 | .deep T=>some (.ds T)
 |_=>none
def O.LG:O->Option Row
 | .cells T=>some (.vs T)
 | .own k ks=>some (.is k ks)
 | .ints k ks=>some (.is k ks)
 | .deep T=>some (.ds T)
 |_=>none
def ij:ag->Option (ai)
 | []=>some []
 |x::r=>match(match x with
  | .bool b=>some (.bool b)
  | .int k n=>some (.int k n)
  | .str s=>some (.str s)
  | .eo _ n T=>some (.eo n T)
  | .eS none _ _ _=>some (.eo 0 [])
  |_=>none:Option D)with
  |some d=>match ij r with
   |some l=>some (d::l)
   |none=>none
  |none=>none
def pb(k:IntKind):ag->Option (List Int)
 | []=>some []
 | .int k' x::r=>match decide (k'=k),pb k r with
   |true,some l=>some (x::l)
   |_,_=>none
 |_::_=>none
def Row.app:Row->Row->Row
 | .vs a,.vs b=>.vs (a++b)
 | .is k a,.is k' b=>match decide (k'=k)with
   |true=>.is k (a++b)
   |false=>.vs (a.map (.int k)++b.map (.int k'))
 | .is k a,.vs b=>match pb k b with
   |some l=>.is k (a++l)
   |none=>.vs (a.map (.int k)++b)
 | .vs a,.is k b=>match pb k a with
   |some l=>.is k (l++b)
   |none=>.vs (a++b.map (.int k))
 | .ds a,.ds b=>.ds (a++b)
 | .ds a,.vs b=>match ij b with
   |some l=>.ds (a++l)
   |none=>.vs (D.fN a++b)
 | .vs a,.ds b=>match ij a with
   |some l=>.ds (l++b)
   |none=>.vs (a++D.fN b)
 | .ds a,.is k b=>.ds (a++b.map (.int k))
 | .is k a,.ds b=>.ds (a.map (.int k)++b)
def Row.cut(o size:Nat):Row->Option Row
 | .vs T=>match Eng.cut T o size with
   |some r=>some (.vs r)
   |none=>none
 | .is k ks=>if o+size<=ks.length then some (.is k ((ks.drop o).take size))else none
 | .ds T=>if o+size<=T.length then some (.ds ((T.drop o).take size))else none
def Row.soft:Row->Bool
 | .ds _=>true
 |_=>false
def Row.flat:Row->Bool
 | .vs T=>T.all V.scalar
 | .is _ _=>true
 | .ds _=>true
def tS(ks:ai)(o:Nat)(new:ai):ai:=ks.take o++(new++ks.drop (o+new.length))
def AA(ks:List Int)(o:Nat)(new:List Int):List Int:=ks.take o++(new++ks.drop (o+new.length))
def storeAt(P:Program)(t:TypeId)(h:I O)(v:V):V->Option (I O)
 | .ptr (some (m,o))=>match h.get m with
   |some (.cells T)=>
    match kf P t with
    |some s=>
     if v.cells.length=s/\0<s/\m<fV/\v.cells.all V.scalar=true then
      match Bn T o v.cells with
      |some cs'=>some (h.set m (some (.cells cs')))
      |none=>none
     else none
    |none=>none
   |some (.own k ks)=>
    match kf P t with
    |some s=>
     if v.cells.length=s/\0<s/\m<fV then
      match pb k v.cells with
      |some new=>if o+s<=ks.length then some (h.set m (some (.own k (AA ks o new))))else none
      |none=>none
     else none
    |none=>none
   |some (.deep T)=>
    match kf P t with
    |some s=>
     if v.cells.length=s/\0<s/\m<fV then
      match ij v.cells with
      |some new=>if o+s<=T.length then some (h.set m (some (.deep (tS T o new))))else none
      |none=>none
     else none
    |none=>none
   |some (.Az cs self _)=>match kf P t,v.cells with
    |some 1,[x]=>if o=1/\m<fV/\x.scalar=true then some (h.set m (some (.Az cs self x)))else none
    |_,_=>none
   |_=>none
 |_=>none
def qZ(xg:Nat->Option (Nat×Nat)):ag->List (Nat×V)->Option (ag)
 |cells,[]=>some cells
 |cells,(i,v)::rest=>
  match xg i with
  |none=>none
  |some (off,size)=>
   if v.cells.length=size then
    match Bn cells off v.cells with
    |some pc=>qZ xg pc rest
    |none=>none
   else none
def sg(P:Program):List Field->Option (List (Nat×Nat))
 | []=>some []
 |f::fs=>match kf P f.type with
  |some s=>match sg P fs with
   |some r=>some ((f.offset,s)::r)
   |none=>none
  |none=>none
def Iz(P:Program)(t:TypeId)(parts:List (Nat×V)):Option V:=
 match zeroOf P t,P.underlying t with
 |some z,some (.struct lJ)=>
  match sg P lJ.toList with
  |some tT=>(qZ (fun i=>tT[i]?) z.cells parts).map .agg
  |none=>none
 |some z,some (.array _ Rs)=>
  match kf P Rs with
  |some s=>(qZ (fun i=>some (i*s,s)) z.cells parts).map .agg
  |none=>none
 |_,_=>none
def gV(z:ag):Nat->ag
 |0=>[]
 |n+1=>z++gV z n
section
variable(P:Program)(t:TypeId)
def tU:Option TypeId:=
 match P.underlying t with
 |some (.slice e)=>some e
 |_=>none
def nW(len:Nat)(parts:List (Nat×V))(h:I O)(n:Nat):Option h2:=
 match tU P t with
 |some e=>match kf P e,zeroOf P e with
  |some s,some z=>
   if 0<s/\len*s<=16777216/\z.cells.length=s then
    match qZ (fun i=>some (i*s,s)) (gV z.cells len) parts with
    |some T=>match newObj h n (.cells T)with
     |some (h',n')=>some (.val (.eS (some (n,0)) len len s) h' n')
     |none=>none
    |none=>none
   else none
  |_,_=>none
 |none=>none
end
def si:Sem Value->Option V
 | .pure v=>iI v
 |_=>none
def lK:aa->aa->Bool
 | [],[]=>true
 |a::x,b::y=>match Nat.beq a.toNat b.toNat with
  |true=>lK x y
  |false=>false
 |_,_=>false
def vR:Nat:=9223372036854775807
def Nn:aa->aa->Bool
 |_,[]=>false
 | [],_::_=>true
 |a::x,b::y=>match Nat.blt a.toNat b.toNat with
  |true=>true
  |false=>match Nat.beq a.toNat b.toNat with
   |true=>Nn x y
   |false=>false
def No(op:BinOp)(a b:aa):Option V:=
 match op with
 | .lss=>some (.bool (Nn a b))
 | .geq=>some (.bool (!Nn a b))
 | .leq=>some (.bool (Nn a b||lK a b))
 | .gtr=>some (.bool (!(Nn a b||lK a b)))
 | .add=>if a.length+b.length<=vR then some (.str (a++b))else none
 | .eql=>some (.bool (lK a b))
 | .neq=>some (.bool (!lK a b))
 |_=>none
def nX(P:Program)(t:TypeId)(T:ag)(off:Nat):Option V:=kJ P t T off
def eqFields(P:Program)(eq:TypeId->V->V->Option Bool):List Field->ag->ag->Option Bool
 | [],_,_=>some true
 |f::fs,xs,ys=>
  if f.name ≠ "_" then
   match nX P f.type xs f.offset,nX P f.type ys f.offset with
   |some a,some b=>match eq f.type a b with
    |some true=>eqFields P eq fs xs ys
    |some false=>some false
    |none=>none
   |_,_=>none
  else eqFields P eq fs xs ys
def nY(P:Program)(eq:V->V->Option Bool)(e:TypeId)(c:Nat)(xs ys:ag):List Nat->Option Bool
 | []=>some true
 |i::is=>match nX P e xs (i*c),nX P e ys (i*c)with
  |some a,some b=>match eq a b with
   |some true=>nY P eq e c xs ys is
   |some false=>some false
   |none=>none
  |_,_=>none
def DF(P:Program):Nat->TypeId->V->V->Option Bool
 |0,_,_,_=>none
 |d+1,t,x,y=>
  match P.underlying t with
  |some .bool=>match x,y with
   | .bool a,.bool b=>some (a==b)
   |_,_=>none
  |some (.int _)=>match x,y with
   | .int k a,.int k' b=>if k=k' then some (a==b)else none
   |_,_=>none
  |some .string=>match x,y with
   | .str a,.str b=>some (lK a b)
   |_,_=>none
  |some (.pointer el)=>match x,y with
   | .ptr none,.ptr b=>some b.isNone
   | .ptr (some _),.ptr none=>some false
   | .ptr (some (m,o)),.ptr (some (m',o'))=>if(m=m'/\o=o')/\(kf P el).isSome=true then some true else none
   | .ptr none,.dr _=>some false
   | .dr _,.ptr none=>some false
   |_,_=>none
  |some (.interface _)=>match x,y with
   | .nilIface,.nilIface=>some true
   | .nilIface,.iface _ _=>some false
   | .iface _ _,.nilIface=>some false
   |_,_=>none
  |some (.struct lJ)=>match x,y with
   | .agg xs,.agg ys=>if P.stoodInHeld t then none else eqFields P (fun u a b=>DF P d u a b) lJ.toList xs ys
   |_,_=>none
  |some (.slice _)=>match x,y with
   | .eS none _ _ _,.eS b _ _ _=>some b.isNone
   | .eS (some _) _ _ _,.eS none _ _ _=>some false
   | .eo _ n _,.eS none _ _ _=>match n with
     |_+1=>some false
     |0=>none
   |_,_=>none
  |some (.map _ _)=>match x,y with
   | .map none,.map b=>some b.isNone
   | .map (some _),.map none=>some false
   |_,_=>none
  |some (.array n e)=>match x,y with
   | .agg xs,.agg ys=>match(P.info? e).isSome with
     |true=>nY P (DF P d e) e (P.cellsOf e) xs ys (List.range n)
     |false=>none
   |_,_=>none
  |_=>none
def isLit:Operand->Bool
 | .const _=>true
 |_=>false
def C7(P:Program)(t:TypeId)(x y:Operand)(a b:V):Option Bool:=
 match a,b with
 | .nilIface,.nilIface=>if isLit x||isLit y then DF P 10000 t a b else none
 | .agg _,.agg _=>if P.eqGuardType P.depth t then none else DF P 10000 t a b
 |_,_=>DF P 10000 t a b
def Bp(P:Program)(op:BinOp)(t:TypeId)(x y:Operand)(a b:V):Option V:=
 match a,b with
 | .int k m,.int k' n=>si (binOp op t (.int k m) (.int k' n))
 | .str s,.str u=>No op s u
 |a,b=>match op with
  | .eql=>(C7 P t x y a b).map .bool
  | .neq=>(C7 P t x y a b).map fun r=>.bool (!r)
  |_=>none
def unV(op:UnOp):V->Option V
 | .int k n=>si (Op.unary op (.int k n))
 | .bool b=>si (Op.unary op (.bool b))
 |_=>none
def Bq(s:aa):ag:=s.map fun b=>.int .u8 b.toNat
def fS(s:aa):List Int:=s.map fun b=>(b.toNat:Int)
def ir(ks:List Int):aa:=ks.map fun n=>UInt8.ofNat n.toNat
def tV:Option O->Option (aa)
 |some (.tr _ _ s)=>some s
 |_=>none
def zP:Option O->Option (List Int)
 |some (.own .u8 ks)=>some ks
 |some (.ints .u8 ks)=>some ks
 |_=>none
def qi:ag->Option (aa)
 | []=>some []
 | .int .u8 n::vs=>match qi vs with
   |some bs=>some (UInt8.ofNat n.toNat::bs)
   |none=>none
 |_::_=>none
def gP(m:Int):aa:=(Utf8.encode m).data.toList
def oD(P:Program)(KC dst:TypeId)(v:V)(h:I O)(n:Nat):Option h2:=
 match P.underlying KC,P.underlying dst,v with
 |some _,some (.int k),.int _ m=>some (.val (.int k (k.wrap m)) h n)
 |some _,some .string,.str s=>some (.val (.str s) h n)
 |some _,some .string,.int _ m=>some (.val (.str (gP m)) h n)
 |some .string,some (.slice e),.str s=>
  match P.underlying e with
  |some (.int .u8)=>match newObj h n (.own .u8 (fS s))with
   |some (h',n')=>some (.val (.eS (some (n,0)) s.length s.length 1) h' n')
   |none=>none
  |_=>none
 |some (.slice e),some .string,.eo _ 0 _=>
  match P.underlying e with
  |some (.int .u8)=>some (.val (.str []) h n)
  |_=>none
 |some (.slice e),some .string,.eS none _ _ _=>
  match P.underlying e with
  |some (.int .u8)=>some (.val (.str []) h n)
  |_=>none
 |some (.slice e),some .string,.eS (some (m,o)) len _ jm=>
  match P.underlying e with
  |some (.int .u8)=>if jm=1 then(match tV (h.get m)with
   |some s0=>if len=0\/o+len<=s0.length then some (.val (.str ((s0.drop o).take len)) h n)else none
   |none=>match zP (h.get m)with
   |some ks=>if len=0\/o+len<=ks.length then some (.val (.str (ir ((ks.drop o).take len))) h n)else none
   |none=>match len with
   |0=>some (.val (.str []) h n)
   |_=>match h.get m with
    |some (.cells T)=>match cut T o len with
     |some bs=>match qi bs with
      |some s=>some (.val (.str s) h n)
      |none=>none
     |none=>none
    |_=>none)else none
  |_=>none
 |_,_,_=>none
def Rt(ks:List Int):Nat->List Int
 |0=>[]
 |n+1=>ks++Rt ks n
def Ev(ks:ai):Nat->ai
 |0=>[]
 |n+1=>ks++Ev ks n
def uT(z:ag)(n:Nat):Row:=match z with
 | .int k x::r=>match pb k (.int k x::r)with
   |some ks=>.is k (Rt ks n)
   |none=>match ij (.int k x::r)with
    |some ds=>.ds (Ev ds n)
    |none=>.vs (gV (.int k x::r) n)
 |z=>match ij z with
  |some ds=>.ds (Ev ds n)
  |none=>.vs (gV z n)
section
variable(P:Program)(t:TypeId)
def nu(l c:V)(h:I O)(n:Nat):Option h2:=
 match tU P t,l,c with
 |some e,.int _ l,.int _ c=>
  match P.info? e,zeroOf P e with
  |some i,some z=>
   let l':=IntKind.i64.wrap l
   let c':=IntKind.i64.wrap c
   if 0<i.size/\z.cells.length=i.size/\0<=l'/\l'<=c'/\i.bytes*c'<=281474976710656 then
    match newObj h n (uT z.cells c'.toNat).DE with
    |some (h',n')=>some (.val (.eS (some (n,0)) l'.toNat c'.toNat i.size) h' n')
    |none=>none
   else none
  |_,_=>none
 |_,_,_=>none
def eT(AB:Nat)(y:Nat):Option V->Option Nat
 |none=>some AB
 |some (.int _ i)=>if 0<=i/\i<=y then some i.toNat else none
 |some _=>none
def xh(h:I O)(m k:Nat):Bool:=
 match h.get m with
 |some (.cells T)=>decide (k<=T.length)
 |_=>false
def lY(hp:I O)(x:V)(lo hi mx:Option V):Option V:=
 if mx.isSome=true/\hi.isSome=false then none else
 match P.underlying t,x with
 |some .string,.str s=>
  match mx with
  |some _=>none
  |none=>match eT s.length s.length hi with
   |some h=>match eT 0 h lo with
    |some l=>some (.str ((s.take h).drop l))
    |none=>none
   |none=>none
 |some (.slice e),.eS a len jH jm=>
  match kf P e with
  |some s=>if s=jm\/a=none then
    match eT jH jH mx with
    |some m=>match eT len m hi with
     |some h=>match eT 0 h lo with
      |some l=>some (.eS (match a with|none=>none|some (b,o)=>some (b,o+l*jm)) (h-l) (m-l) jm)
      |none=>none
     |none=>none
    |none=>none
   else none
  |none=>none
 |some (.slice e),.eo f len T=>
  match kf P e with
  |some s=>if T.length=len*s then
    match mx with
    |none=>match eT len len hi with
     |some h=>match eT 0 h lo with
      |some l=>some (.eo (f&& !hi.isSome) (h-l) ((T.drop (l*s)).take ((h-l)*s)))
      |none=>none
     |none=>none
    |some m=>match eT len len (some m)with
     |some m=>match eT len m hi with
      |some h=>match eT 0 h lo with
       |some l=>if h=m then some (.eo true (h-l) ((T.drop (l*s)).take ((h-l)*s)))else none
       |none=>none
      |none=>none
     |none=>none
   else none
  |none=>none
 |some (.array n e),.ptr (some (b,o))=>
  match kf P e with
  |some s=>
   match eT n n mx with
   |some m=>match eT n m hi with
    |some h=>match eT 0 h lo with
     |some l=>if 0<s/\0<n/\xh hp b (o+n*s)=true then some (.eS (some (b,o+l*s)) (h-l) (m-l) s)else none
     |none=>none
    |none=>none
   |none=>none
  |none=>none
 |_,_=>none
def vS(f:Nat):V->Option V
 | .ptr (some (m,o))=>match P.underlying t with
   |some (.struct fs)=>match fs[f]? with
    |some fd=>match kf P fd.type with
     |some (_+1)=>some (.ptr (some (m,o+fd.offset)))
     |_=>none
    |none=>none
   |_=>none
 | .dr T=>match P.underlying t with
   |some (.struct fs)=>match fs[f]? with
    |some fd=>match kf P fd.type with
     |some (_+1)=>some (.dr (T.drop fd.offset))
     |_=>none
    |none=>none
   |_=>none
 |_=>none
def IA(f:Nat):V->Option V
 | .agg T=>match P.underlying t with
   |some (.struct fs)=>match fs[f]? with
    |some fd=>nX P fd.type T fd.offset
    |none=>none
   |_=>none
 |_=>none
def nv(x ix:V):Option V:=
 match ix with
 | .int _ i=>
   match P.underlying t,x with
   |some (.array len e),.ptr (some (m,o))=>
    match kf P e with
    |some s=>if 0<=i/\i<len then some (.ptr (some (m,o+i.toNat*s)))else none
    |none=>none
   |some (.slice e),.eS (some (m,o)) len _ jm=>
    match kf P e with
    |some s=>if 0<=i/\i<len/\s=jm then some (.ptr (some (m,o+i.toNat*s)))else none
    |none=>none
   |some (.slice e),.eo _ len T=>
    match kf P e with
    |some s=>if(0<=i/\i<len)/\T.length=len*s then some (.dr ((T.drop (i.toNat*s)).take s))else none
    |none=>none
   |some (.array len e),.dr T=>
    match kf P e with
    |some s=>if 0<=i/\i<len then some (.dr (T.drop (i.toNat*s)))else none
    |none=>none
   |_,_=>none
 |_=>none
def Br(x ix:V):Option V:=
 match ix with
 | .int _ i=>
   match P.underlying t,x with
   |some (.array len e),.agg T=>
    match kf P e with
    |some s=>if 0<=i/\i<len then nX P e T (i.toNat*s)else none
    |none=>none
   |some .string,.str s=>
    if 0<=i then(match s[i.toNat]? with
     |some b=>some (.int .u8 b.toNat)
     |none=>none)else none
   |_,_=>none
 |_=>none
end
def xj:TypeDesc->V->V->Option Bool
 | .int _,.int k a,.int k' b=>if k=k' then some (a==b)else none
 | .string,.str a,.str b=>some (lK a b)
 |_,_,_=>none
def gK:D->D->Bool
 | .int k a,.int k' b=>decide (k=k')&&decide (a=b)
 | .str a,.str b=>lK a b
 |_,_=>false
def gm:Option IntKind->D->Bool
 |some k,.int k' _=>decide (k'=k)
 |none,.str _=>true
 |_,_=>false
def kP:TypeDesc->Option IntKind->Bool
 | .int k,some k'=>decide (k=k')
 | .string,none=>true
 |_,_=>false
def fe(k:D):ae->Option D
 | []=>none
 |e::X=>match gK k e.1 with
  |true=>some e.2
  |false=>fe k X
def nw(k v:D):ae->ae
 | []=>[(k,v)]
 |e::X=>match gK k e.1 with
  |true=>(k,v)::X
  |false=>e::nw k v X
def tM(k:D):ae->ae
 | []=>[]
 |e::X=>match gK k e.1 with
  |true=>X
  |false=>e::tM k X
def D.kA(z:V):Option D->V
 |some d=>d.jJ
 |none=>z
def keyOf:V->Option D
 | .int k n=>some (.int k n)
 | .str s=>some (.str s)
 |_=>none
def tW(kd:TypeDesc)(k:V):List (V×V×Nat)->Nat->Option (Option (Nat×V×V×Nat))
 | [],_=>some none
 |e::X,i=>
  match xj kd k e.1 with
  |some true=>some (some (i,e))
  |some false=>tW kd k X (i+1)
  |none=>none
def Bs:TypeDesc->V->Bool
 | .int _,.int _ _=>true
 | .string,.str _=>true
 |_,_=>false
def V.Ua(h:I O):V->Option O
 | .map (some r)=>h.get r
 |_=>none
def uU(P:Program)(t:TypeId)(h:I O)(x k:V)(ok:Bool):Option V:=
 match P.underlying t with
 |some (.map kt et)=>match P.underlying kt,zeroOf P et with
  |some kd,some z=>
   match x,x.Ua h with
   | .map (some _),some (.gh kk X)=>match keyOf k with
     |some k=>if kP kd kk&&gm kk k then some (if ok then .gC [D.kA z (fe k X),.bool (fe k X).isSome]else D.kA z (fe k X))else none
     |none=>none
   |x,_=>
   if Bs kd k then
    match(match x with
     | .map none=>some []
     | .map (some r)=>(match h.get r with
       |some (.map X _)=>some X
       |_=>none)
     |_=>none:Option (List (V×V×Nat)))with
    |some X=>match tW kd k X 0 with
     |some (some (_,_,v,_))=>some (if ok then .gC [v,.bool true]else v)
     |some none=>some (if ok then .gC [z,.bool false]else z)
     |none=>none
    |none=>none
   else none
  |_,_=>none
 |_=>none
def iy{α:Type}:List α->Nat->(α->α)->List α
 | [],_,_=>[]
 |x::xs,0,f=>f x::xs
 |x::xs,i+1,f=>x::iy xs i f
section
variable(P:Program)(t:TypeId)(h:I O)(n:Nat)(m k:V)
def sj(v:V):Option h2:=
 match P.underlying t,m with
 |some (.map kt _),.map (some r)=>match P.underlying kt,h.get r with
  |some kd,some (.map X eO)=>
   if Bs kd k/\r<fV then
    match tW kd k X 0 with
    |some (some (i,_))=>some (.val (.gC []) (h.set r (some (.map (iy X i fun e=>(k,v,e.2.2)) eO))) n)
    |some none=>some (.val (.gC []) (h.set r (some (.map (X++[(k,v,eO)]) (eO+1)))) n)
    |none=>none
   else none
  |some kd,some (.gh kk X)=>match keyOf k,V.Iy v with
   |some k,some v=>if kP kd kk&&(gm kk k&&decide (r<fV))then some (.val (.gC []) (h.set r (some (.gh kk (nw k v X)))) n)else none
   |_,_=>none
  |_,_=>none
 |_,_=>none
def Ew(P:Program)(eu:Array TypeId)(args:ag)(h:I O)(n:Nat):Option h2:=
 match eu[0]?,args with
 |some t,[.map (some r),k]=>match P.underlying t with
  |some (.map kt _)=>match P.underlying kt,h.get r,keyOf k with
   |some kd,some (.gh kk X),some k=>if kP kd kk&&(gm kk k&&decide (r<fV))then some (.val (.gC []) (h.set r (some (.gh kk (tM k X)))) n)else none
   |_,_,_=>none
  |_=>none
 |_,_=>none
def uV:Option h2:=
 match P.underlying t,m with
 |some (.map kt et),.map (some r)=>match P.underlying kt,h.get r,zeroOf P et with
  |some kd,some (.map X eO),some z=>
   if Bs kd k/\r<fV then
    match tW kd k X 0 with
    |some (some (i,e))=>some (.val (.gC [e.2.1,.int .i64 e.2.2]) (h.set r (some (.map (iy X i fun e=>(k,e.2.1,e.2.2)) eO))) n)
    |some none=>some (.val (.gC [z,.int .i64 eO]) (h.set r (some (.map (X++[(k,z,eO)]) (eO+1)))) n)
    |none=>none
   else none
  |some kd,some (.ow kk X),some z=>match keyOf k,V.Iy z with
   |some k,some z0=>match fe k X with
    |none=>if kP kd kk&&(gm kk k&&decide (r<fV))then some (.val (.gC [z,.int .i64 X.length]) (h.set r (some (.ow kk (X++[(k,z0)])))) n)else none
    |some _=>none
   |_,_=>none
  |_,_,_=>none
 |_,_=>none
end
def yI(b:Int):List (V×V×Nat)->Nat->Option Nat
 | [],_=>none
 |e::X,i=>if(e.2.2:Int)==b then some i else yI b X (i+1)
def ql(h:I O)(n:Nat)(m ZO v:V):Option h2:=
 match m,ZO with
 | .map (some r),.int _ b=>match h.get r with
   |some (.map X eO)=>
    if r<fV then
     match yI b X 0 with
     |some i=>some (.val (.gC []) (h.set r (some (.map (iy X i fun e=>(e.1,v,e.2.2)) eO))) n)
     |none=>none
    else none
   |some (.ow kk X)=>match V.Iy v with
    |some v=>if r<fV/\0<=b/\b<X.length then some (.val (.gC []) (h.set r (some (.ow kk (iy X b.toNat fun e=>(e.1,v))))) n)else none
    |none=>none
   |_=>none
 |_,_=>none
def tX(P:Program)(x:V)(xk:TypeId)(ok:Bool):Option V:=
 match P.underlying xk,x with
 |some (.interface _),_=>none
 |some _,.nilIface=>if ok then(match zeroOf P xk with|some z=>some (.gC [z,.bool false])|none=>none)else none
 |some _,.iface t v=>if t=xk then some (if ok then .gC [v,.bool true]else v)
  else if ok then(match zeroOf P xk with|some z=>some (.gC [z,.bool false])|none=>none)else none
 |_,_=>none
def jo(h:I O)(size:Nat):V->Option (Nat×Row)
 | .eS none len _ _=>if len=0 then some (0,.vs [])else none
 | .eS (some (m,o)) len _ jm=>if jm=size then(match len with
   |0=>some (0,.vs [])
   |_=>match h.get m with
    |some ob=>match ob.LG with
     |some r=>match r.cut o (len*size)with
      |some r=>some (len,r)
      |none=>none
     |none=>none
    |none=>none)else none
 | .str s=>if size=1 then some (s.length,.is .u8 (fS s))else none
 | .eo _ len T=>if T.length=len*size then some (len,.ds T)else none
 |_=>none
def tY:ag->Option (aa)
 | []=>some []
 | .int .u8 x::r=>match tY r with
   |some l=>some (UInt8.ofNat x.toNat::l)
   |none=>none
 |_::_=>none
def tZ:Row->Option (aa)
 | .is .u8 ks=>some (ir ks)
 | .vs T=>tY T
 |_=>none
def Bt(e:TypeId)(x:V)(new:Row):O:=match x with
 | .str t=>.tr e false t
 |_=>new.DE
def fo(LH size bytes:Nat):Bool:=decide (LH*bytes<=281474976710/\LH*size<=281474976710)
def IB:TypeDesc->Bool
 | .slice _=>true
 | .string=>true
 |_=>false
section
variable(P:Program)(eu:Array TypeId)(args:ag)(h:I O)
def xl(n:Nat):Option h2:=
 match eu[0]?,eu[1]?,args with
 |some st,some xt,[s,x]=>
  match tU P st,P.underlying xt with
  |some e,some xd=>
   match IB xd,P.info? e,zeroOf P e with
   |true,some i,some z=>
    if 0<i.size/\0<i.bytes/\z.cells.length=i.size then
     match jo h i.size x with
     |some (k,new)=>
      if new.flat=true then
      match s with
      | .eS none 0 _ _=>
        match k with
        |0=>some (.val (.eS none 0 0 0) h n)
        |_=>if fo k i.size i.bytes then(match newObj h n (Bt e x new)with
         |some (h',n')=>some (.val (.eS (some (n,0)) k k i.size) h' n')
         |none=>none)else none
      | .eo true len T=>
        match k with
        |0=>some (.val (.eo true len T) h n)
        |_=>if fo (len+k) i.size i.bytes/\T.length=len*i.size then(match newObj h n ((Row.ds T).app new).DE with
         |some (h',n')=>some (.val (.eS (some (n,0)) (len+k) (len+k) i.size) h' n')
         |none=>none)else none
      | .eS (some (m,o)) len jH jm=>
        if jm=i.size/\fo (len+k) i.size i.bytes/\m<fV then
         match h.get m with
         |some (.tr el zO s0)=>match tZ new with
          |some t=>if(o=0/\0<jH)/\(len<=s0.length/\(zO=true->len=s0.length))/\(i.size=1/\el=e)then(match newObj (h.set m none) n (.tr el zO (s0.take len++t))with
           |some (h',n')=>some (.val (.eS (some (n,0)) (len+k) (len+k) jm) h' n')
           |none=>none)else none
          |none=>none
         |some ob=>match ob.row with
          |some r=>
           match(if r.soft=false/\len=0 then some (.vs [])else r.cut o (len*i.size):Option Row)with
           |some old=>
            if new.soft=false/\k=0 then some (.val s h n)
            else match newObj (h.set m none) n (old.app new).DE with
             |some (h',n')=>some (.val (.eS (some (n,0)) (len+k) (len+k) jm) h' n')
             |none=>none
           |none=>none
          |none=>none
         |_=>none
        else none
      |_=>none
      else none
     |none=>none
    else none
   |_,_,_=>none
  |_,_=>none
 |_,_,_=>none
def LI:Option V:=
 match eu[0]?,args with
 |some t,[x]=>match P.underlying t,x with
  |some .string,.str s=>some (.int .i64 s.length)
  |some (.array n _),_=>some (.int .i64 n)
  |some (.slice _),.eS _ len _ _=>some (.int .i64 len)
  |some (.slice _),.eo _ len _=>some (.int .i64 len)
  |some (.map _ _),.map none=>some (.int .i64 0)
  |some (.map _ _),.map (some r)=>match h.get r with
   |some (.map X _)=>some (.int .i64 X.length)
   |some (.gh _ X)=>some (.int .i64 X.length)
   |_=>none
  |_,_=>none
 |_,_=>none
def Bu(t:TypeId)(x:V)(h:I O)(n:Nat):Option h2:=
 match P.underlying t,x with
 |some .string,.str s=>match newObj h n (.nq s 0)with
  |some (h',n')=>some (.val (.ptr (some (n,0))) h' n')
  |none=>none
 |_,_=>none
end
def Np(x:V)(Nq:Bool)(h:I O)(n:Nat):Option h2:=
 match x,Nq with
 | .ptr (some (m,0)),true=>match h.get m with
   |some (.nq s pos)=>
    if pos<s.length then
     let cw:=Utf8.decode ⟨s.toArray⟩ pos
     if m<fV then some (.val (.gC [.bool true,.int .i64 pos,.int .i32 cw.1]) (h.set m (some (.nq s (pos+cw.2)))) n)else none
    else some (.val (.gC [.bool false]) h n)
   |_=>none
 |_,_=>none
def Gh:V->ag->Option V
 |x,[]=>some x
 | .int k a,.int _ b::vs=>Gh (.int k (if b>a then b else a)) vs
 |_,_=>none
def Gi:V->ag->Option V
 |x,[]=>some x
 | .int k a,.int _ b::vs=>Gi (.int k (if b<a then b else a)) vs
 |_,_=>none
def Nr:List (Nat×Nat)->Nat->Option V
 | [],_=>none
 |p::r,g=>match Nat.beq p.1 g with
  |true=>some (.ptr (some (p.2,0)))
  |false=>Nr r g
def iK(F:I V):Operand->Option V
 | .tmp t=>F.get t
 | .const v=>KB v
 | .func f=>some (.fn (.func f) [] [])
 | .global g=>Nr tK g
def uc(F:I V):List Operand->Option (ag)
 | []=>some []
 |x::xs=>match iK F x with
  |some v=>match uc F xs with
   |some vs=>some (v::vs)
   |none=>none
  |none=>none
def lZ(F:I V):Option Operand->Option (Option V)
 |none=>some none
 |some x=>match iK F x with
  |some v=>some (some v)
  |none=>none
def pg(F:I V):List (Nat×Operand)->Option (List (Nat×V))
 | []=>some []
 |(i,x)::xs=>match iK F x with
  |some v=>match pg F xs with
   |some vs=>some ((i,v)::vs)
   |none=>none
  |none=>none
section
variable(P:Program)(F:I V)(c:Call)(h:I O)(n:Nat)
def callee(f:FuncId):Bool:=
 match P.funcs[f]? with
 |some fn=>fn.body.isSome&&fn.name != "runtime.NumGoroutine"
 |none=>false
def kQ(b:Builtin)(eu:Array TypeId)(args:ag)(h:I O)(n:Nat):Option h2:=
 match b with
 | .append=>if eu.size=2 then xl P eu args h n else none
 | .len=>kx h n (LI P eu args h)
 | .max=>match args with
   |x::xs=>kx h n (Gh x xs)
   | []=>none
 | .min=>match args with
   |x::xs=>kx h n (Gi x xs)
   | []=>none
 | .panic=>match args with
   | [.iface t v]=>some (.panic (.iface t v))
   |_=>none
 | .recover=>some .recover
 | .unsafeSliceData=>match args with
   | [.eS (some (m,o)) _ jH _]=>if 0<jH then some (.val (.ptr (some (m,o))) h n)else none
   | [.eS none _ _ _]=>some (.val (.ptr none) h n)
   |_=>none
 | .unsafeString=>match eu[0]?,args with
   |some pt,[.ptr (some (m,0)),.int .i64 l]=>match P.underlying pt,h.get m with
    |some (.pointer e),some (.tr el _ s)=>if(l=s.length/\0<s.length)/\(el=e/\P.cellsOf e=1)/\(m<fV/\eu.size=2/\s.length<=vR)then some (.val (.str s) (h.set m (some (.tr el true s))) n)else none
    |_,_=>none
   |some _,[.ptr none,.int .i64 l]=>if l=0/\eu.size=2 then some (.val (.str []) h n)else none
   |_,_=>none
 | .delete=>if eu.size=2 then Ew P eu args h n else none
 |_=>none
def vC:Option h2:=
 match uc F c.args.toList with
 |some args=>match c.callee with
  | .builtin b=>kQ P b c.argTypes args h n
  | .invoke _ _=>none
  | .value f=>match iK F f with
    |some (.fn (.func g) first captured)=>if callee P g then some (.call g (first++args++captured))else none
    |some (.fn (.yield m) [] [])=>match h.get m with
     |some (.loop _ _ _ ps _ _)=>if ps.length=args.length then some (.call (P.funcs.size+m) args)else none
     |_=>none
    |_=>none
 |none=>none
def Bv:Option h2:=
 match uc F c.args.toList with
 |some args=>match c.callee with
  | .value f=>match iK F f with
    |some (.fn (.func g) first captured)=>some (.tL g captured (first++args))
    |_=>none
  |_=>none
 |none=>none
end
def uW:Fn->Bool
 | .yield _=>false
 |_=>true
def dO(P:Program)(o:Oper)(F:I V)(h:I O)(n:Nat):Option h2:=
 match o.op with
 | .move x=>kx h n (iK F x)
 | .assign x=>kx h n (iK F x)
 | .pick c a b=>match iK F c with
   |some (.bool true)=>kx h n (iK F a)
   |some (.bool false)=>kx h n (iK F b)
   |_=>none
 | .alloc e=>match zeroOf P e with
   |some z=>match newObj h n (Bo P e z)with
    |some (h',n')=>some (.val (.ptr (some (n,0))) h' n')
    |none=>none
   |none=>none
 | .box _ x=>match iK F x with
   |some v=>match newObj h n (.cells v.cells)with
    |some (h',n')=>some (.val (.ptr (some (n,0))) h' n')
    |none=>none
   |none=>none
 | .build t parts=>match pg F parts.toList with
   |some ps=>kx h n (Iz P t ps)
   |none=>none
 | .buildSlice t len parts=>match pg F parts.toList with
   |some ps=>nW P t len ps h n
   |none=>none
 | .load t a=>match iK F a with
   |some v=>kx h n (loadAt P t h v)
   |none=>none
 | .store t a x=>match iK F a,iK F x with
   |some av,some xv=>match storeAt P t h xv av with
    |some h'=>some (.val (.gC []) h' n)
    |none=>none
   |_,_=>none
 | .nilCheck x=>match iK F x with
   |some (.ptr (some p))=>some (.val (.ptr (some p)) h n)
   |some (.dr T)=>some (.val (.dr T) h n)
   |some (.fn (.func f) a c)=>some (.val (.fn (.func f) a c) h n)
   |some (.iface t v)=>some (.val (.iface t v) h n)
   |_=>none
 | .binOp op t x y _=>match iK F x,iK F y with
   |some a,some b=>kx h n (Bp P op t x y a b)
   |_,_=>none
 | .unOp op _ x=>match iK F x with
   |some v=>kx h n (unV op v)
   |none=>none
 | .convert KC dst x=>match iK F x with
   |some v=>oD P KC dst v h n
   |none=>none
 | .makeInterface t x=>match iK F x,P.underlying t with
   |some v,some d=>match d with
    | .interface _=>none
    |_=>some (.val (.iface t v) h n)
   |_,_=>none
 | .makeFunc f first captured=>match uc F first.toList,uc F captured.toList with
   |some a,some c=>if uW f=true then some (.val (.fn f a c) h n)else none
   |_,_=>none
 | .makeMap _ none=>match newObj h n (.map [] 0)with
   |some (h',n')=>some (.val (.map (some n)) h' n')
   |none=>none
 | .makeSlice t l c=>match iK F l,iK F c with
   |some l,some c=>nu P t l c h n
   |_,_=>none
 | .slice t x lo hi mx=>match iK F x,lZ F lo,lZ F hi,lZ F mx with
   |some v,some lo,some hi,some mx=>kx h n (lY P t h v lo hi mx)
   |_,_,_,_=>none
 | .fieldAddr t x f=>match iK F x with
   |some v=>kx h n (vS P t f v)
   |none=>none
 | .field t x f=>match iK F x with
   |some v=>kx h n (IA P t f v)
   |none=>none
 | .indexAddr t x i=>match iK F x,iK F i with
   |some v,some i=>kx h n (nv P t v i)
   |_,_=>none
 | .index t x i=>match iK F x,iK F i with
   |some v,some i=>kx h n (Br P t v i)
   |_,_=>none
 | .lookup t x k ok=>match iK F x,iK F k with
   |some x,some k=>kx h n (uU P t h x k ok)
   |_,_=>none
 | .mapUpdate t m k v=>match iK F m,iK F k,iK F v with
   |some m,some k,some v=>sj P t h n m k v
   |_,_,_=>none
 | .insert t m k v=>match iK F m,iK F k,iK F v with
   |some m,some k,some v=>sj P t h n m k v
   |_,_,_=>none
 | .mapEntry t m k=>match iK F m,iK F k with
   |some m,some k=>uV P t h n m k
   |_,_=>none
 | .entryStore _ m s v=>match iK F m,iK F s,iK F v with
   |some m,some s,some v=>ql h n m s v
   |_,_,_=>none
 | .typeAssert x _ t ok=>match iK F x with
   |some v=>kx h n (tX P v t ok)
   |none=>none
 | .extract x i=>match iK F x with
   |some (.gC vs)=>kx h n (vs[i]?)
   |_=>none
 | .range t x=>match iK F x with
   |some v=>Bu P t v h n
   |none=>none
 | .next it b=>match iK F it with
   |some v=>Np v b h n
   |none=>none
 | .panic x=>match iK F x with
   |some (.iface t v)=>some (.panic (.iface t v))
   |_=>none
 | .call c=>vC P F c h n
 | .defer c=>Bv F c
 |_=>none
structure St where
 F:I V
 h:I O
 n:Nat
 gZ:List (FuncId×ag×ag)
 deriving Inhabited
inductive es where
 |normal
 |exit (id:Nat)
 |ret
 |panic (v:V)
inductive pn where
 |ret (v:V)
 |ni (v:V)
abbrev fL:=FuncId->ag->I O->Nat->Option (pn×I O×Nat)
def jn(F:I V)(dst:Option Nat)(v:V):Option (I V):=
 match dst with
 |none=>some F
 |some d=>if d<fV then some (F.set d (some v))else none
def fP(ops:Array Oper)(o:Oper)(F:I V):Option Bool:=
 match o.guard with
 |none=>some true
 |some (j,Ex)=>match ops[j]? with
  |some q=>match q.dst with
   |some d=>match F.get d with
    |some (.bool b)=>some (b==Ex)
    |some (.gC [])=>some false
    |_=>none
   |none=>none
  |none=>none
def mH{α:Type}(_:Nat):Option α:=none
def mJ{α:Type}(_:Oper):Option α:=none
def AQ:Op->Bool
 | .defer _=>false
 |_=>true
def jg(P:Program)(cf:fL)(ops:Array Oper):List Oper->St->Option (es×St)
 | [],s=>some (.normal,s)
 |o::rest,s=>
  match fP ops o s.F with
  |some false=>match jn s.F o.dst (.gC [])with
   |some F=>jg P cf ops rest { s with F:=F }
   |none=>none
  |some true=>match dO P o s.F s.h s.n with
   |some (.val v h n)=>match jn s.F o.dst v with
    |some F=>jg P cf ops rest { s with F:=F,h:=h,n:=n }
    |none=>none
   |some (.call f args)=>match cf f args s.h s.n with
    |some (.ret v,h,n)=>match jn s.F o.dst v with
     |some F=>jg P cf ops rest { s with F:=F,h:=h,n:=n }
     |none=>none
    |some (.ni v,h,n)=>some (.panic v,{ s with h:=h,n:=n })
    |none=>none
   |some (.tL f c args)=>if f<fV/\AQ o.op=false then(match jn s.F o.dst (.gC [])with
    |some F=>jg P cf ops rest { s with F:=F,gZ:=(f,c,args)::s.gZ }
    |none=>none)else mJ o
   |some (.panic v)=>some (.panic v,s)
   |some .recover=>none
   |none=>mJ o
  |none=>mJ o
def qm:Option (Nat×Nat)->Option (Nat×Nat)->Bool
 |none,none=>true
 |some (a,b),some (c,d)=>Nat.beq a c&&Nat.beq b d
 |_,_=>false
def Ey :Option Nat->Option Nat->Bool
 |none,none=>true
 |some a,some b=>Nat.beq a b
 |_,_=>false
def Ns:Fn->Fn->Bool
 | .func a,.func b=>Nat.beq a b
 | .yield a,.yield b=>Nat.beq a b
 |_,_=>false
mutual
def D.beq:D->D->Bool
 | .bool a,.bool b=>a==b
 | .int k a,.int j b=>decide (k=j)&&decide (a=b)
 | .str a,.str b=>lK a b
 | .eo n a,.eo m b=>Nat.beq n m&&D.oJ a b
 | .agg a,.agg b=>D.oJ a b
 |_,_=>false
def D.oJ:ai->ai->Bool
 | [],[]=>true
 |a::x,b::y=>D.beq a b&&D.oJ x y
 |_,_=>false
end
mutual
def V.beq:V->V->Bool
 | .bool a,.bool b=>a==b
 | .int k a,.int j b=>decide (k=j)&&decide (a=b)
 | .str a,.str b=>lK a b
 | .ptr a,.ptr b=>qm a b
 | .eS a l c e,.eS a' l' c' e'=>qm a a'&&Nat.beq l l'&&Nat.beq c c'&&Nat.beq e e'
 | .map a,.map b=>Ey a b
 | .fn f a c,.fn g b d=>Ns f g&&V.oJ a b&&V.oJ c d
 | .kz,.kz=>true
 | .iface t x,.iface u y=>Nat.beq t u&&V.beq x y
 | .nilIface,.nilIface=>true
 | .agg a,.agg b=>V.oJ a b
 | .gC a,.gC b=>V.oJ a b
 | .eo f n a,.eo g m b=>f==g&&(Nat.beq n m&&D.oJ a b)
 | .dr a,.dr b=>D.oJ a b
 |_,_=>false
def V.oJ:ag->ag->Bool
 | [],[]=>true
 |a::x,b::y=>V.beq a b&&V.oJ x y
 |_,_=>false
end
def pq:Op->Bool
 | .store .. | .mapUpdate .. | .insert .. | .mapEntry .. | .entryStore .. | .next .. | .defer _ | .panic _=>true
 | .call { callee:=.builtin b,.. }=>match b with
   | .len | .max | .min=>false
   |_=>true
 | .call _=>true
 |_=>false
def ox:Op->Bool
 | .move _ | .assign _ | .pick .. | .build .. | .nilCheck _ | .binOp .. | .unOp .. | .makeInterface .. | .makeFunc .. | .fieldAddr .. | .field ..
 | .indexAddr .. | .index .. | .typeAssert .. | .extract ..=>true
 |_=>false
structure Dr where
 F:I V
 eA:List Nat
 cur:Nat×I O
 nZ:List (Nat×Nat×I O)
 last:Option Nat
 dx:af
 reads:List (Nat×Nat×Oper×I V×V)
 n:Nat
def ek(m i:Nat):Bool:=Nat.testBit m i
def gu(N:Nat):af->Nat->I O->Nat->I O
 | [],_,x,_=>x
 |(i,o)::r,m,x,ia=>if ek ia i&& !ek m i then(gu N r m x ia).set (N+i) (some o)else gu N r m x ia
def fb(eA:List Nat):List Edge->Nat
 | []=>0
 |e::X=>if Region.binds .any e then fb eA X|||(2^e.on|||eA.getD e.on 0)else fb eA X
def mc(P:Program)(N i:Nat)(o:Oper)(F:I V)(v:V)(x:I O):Bool:=
 match dO P o F x (N+i)with
 |some (.val u _ k)=>Nat.beq k (N+i)&&V.beq u v
 |_=>false
def pz(P:Program)(N i:Nat)(o:Oper)(F:I V)(v:V)(dx:af)(ia:Nat):List (Nat×Nat×I O)->Bool
 | []=>true
 |(e,m,x)::r=>if ek ia e then true else mc P N i o F v (gu N dx m x ia)&&pz P N i o F v dx ia r
def oK(P:Program)(N:Nat)(dx:af)(m:Nat)(x:I O):List (Nat×Nat×Oper×I V×V)->Bool
 | []=>true
 |(j,ia,o,F,v)::r=>(ek m j||mc P N j o F v (gu N dx m x ia))&&oK P N dx m x r
def yJ(ia:Nat):Option Nat->Bool
 |none=>true
 |some e=>ek ia e
def kB(P:Program)(N i ia:Nat)(o:Oper)(s:Dr)(v:V)(h:I O)(n:Nat):Option Dr:=
 match jn s.F o.dst v with
 |some F=>
  if oK P N s.dx ia h s.reads then
   some { F:=F,eA:=s.eA++[ia],cur:=(ia,h),nZ:=(i,s.cur.1,s.cur.2)::s.nZ,last:=some i,dx:=s.dx,reads:=s.reads,n:=n }
  else none
 |none=>none
def lM(P:Program)(cf:fL)(ops:Array Oper)(N i:Nat)(o:Oper)(s:Dr):Option (Dr ⊕ (I V×V×I O×Nat)):=
 let ia:=fb s.eA o.after.toList
 match fP ops o s.F with
 |some false=>match jn s.F o.dst (.gC [])with
  |some F=>some (.inl { s with F:=F,eA:=s.eA++[ia] })
  |none=>mJ o
 |some true=>
  if pq o.op then
   if yJ ia s.last then
    match dO P o s.F (gu N s.dx s.cur.1 s.cur.2 ia) s.n with
    |some (.val v h n)=>match kB P N i ia o s v h n with
     |some A=>some (.inl A)
     |none=>mJ o
    |some (.call f args)=>match cf f args (gu N s.dx s.cur.1 s.cur.2 ia) s.n with
     |some (.ret v,h,n)=>match kB P N i ia o s v h n with
      |some A=>some (.inl A)
      |none=>mJ o
     |some (.ni v,h,n)=>if Nat.beq (ia+1) (2^i)&&Nat.beq (i+1) ops.size then some (.inr (s.F,v,h,n))else mJ o
     |none=>none
    |_=>mJ o
   else mJ o
  else
   let x:=gu N s.dx s.cur.1 s.cur.2 ia
   match dO P o s.F x (N+i)with
   |some (.val v h k)=>match jn s.F o.dst v with
    |some F=>
     if Nat.beq k (N+i)then
      if ox o.op then some (.inl { s with F:=F,eA:=s.eA++[ia] })
      else if pz P N i o s.F v s.dx ia s.nZ then
       some (.inl { s with F:=F,eA:=s.eA++[ia],reads:=(i,ia,o,s.F,v)::s.reads })
      else mJ o
     else match h.get (N+i)with
      |some b=>if b.wr=true then some (.inl { s with F:=F,eA:=s.eA++[ia],dx:=(i,b)::s.dx })else mJ o
      |none=>mJ o
    |none=>mJ o
   |_=>mJ o
 |none=>mJ o
def iE(P:Program)(cf:fL)(ops:Array Oper)(N:Nat):List Oper->Nat->Dr->Option (Dr ⊕ (I V×V×I O×Nat))
 | [],_,s=>some (.inl s)
 |o::r,i,s=>match lM P cf ops N i o s with
  |some (.inl A)=>iE P cf ops N r (i+1) A
  |x=>x
def drawn(P:Program)(cf:fL)(ops:Array Oper)(s:St):Option (es×St):=
 if s.n+ops.size<fV then
  match iE P cf ops s.n ops.toList 0 { F:=s.F,eA:=[],cur:=(0,s.h),nZ:=[],last:=none,dx:=[],reads:=[],n:=s.n+ops.size }with
  |some (.inl d)=>some (.normal,{ F:=d.F,h:=gu s.n d.dx d.cur.1 d.cur.2 (2^ops.size-1),n:=d.n,gZ:=s.gZ })
  |some (.inr (F,v,h,n))=>some (.panic v,{ s with F:=F,h:=h,n:=n })
  |none=>none
 else none
def rounds(f:St->Option (es×St)):Nat->St->Option (es×St)
 |0,_=>mH 1
 |k+1,s=>match f s with
  |some (.normal,A)=>rounds f k A
  |r=>r
def gv(P:Program)(cf:fL)(fr:Nat):Code->St->Option (es×St)
 | .skip,s=>some (.normal,s)
 | .region _ ops false,s=>jg P cf ops ops.toList s
 | .region _ ops true,s=>drawn P cf ops s
 | .seq a b,s=>match gv P cf fr a s with
   |some (.normal,A)=>gv P cf fr b A
   |r=>r
 | .cond c a b,s=>match iK s.F c with
   |some (.bool true)=>gv P cf fr a s
   |some (.bool false)=>gv P cf fr b s
   |_=>mH 2
 | .block id body,s=>match gv P cf fr body s with
   |some (.exit Y3,A)=>if Y3=id then some (.normal,A)else some (.exit Y3,A)
   |r=>r
 | .loop body,s=>rounds (gv P cf fr body) fr s
 | .exit id,s=>some (.exit id,s)
 | .ret,s=>some (.ret,s)
 | .rangeFunc g ps assign body,s=>match iK s.F g with
   |some (.fn (.func gf) [] lb)=>
    if callee P gf=true/\s.n+1<fV then
     match cf gf (.fn (.yield (s.n+1)) [] []::lb) ((s.h.set s.n (some .tL)).set (s.n+1) (some (.loop true none s.F ps.toList assign body))) (s.n+2)with
     |some (.ret _,h,n)=>match h.get s.n,h.get (s.n+1)with
      |some .tL,some (.loop true none _ _ _ _)=>some (.normal,{ s with h:=h.set (s.n+1) none,n:=n,gZ:=(fV,[],[.map (some s.n)])::s.gZ })
      |some .tL,some (.loop false (some .ret) _ _ _ _)=>some (.ret,{ s with h:=h.set (s.n+1) none,n:=n,gZ:=(fV,[],[.map (some s.n)])::s.gZ })
      |some .tL,some (.loop false (some (.exit id)) _ _ _ _)=>some (.exit id,{ s with h:=h.set (s.n+1) none,n:=n,gZ:=(fV,[],[.map (some s.n)])::s.gZ })
      |_,_=>mH 31
     |_=>mH 32
    else mH 33
   |_=>mH 34
 |_,_=>mH 3
def lg:ag->Nat->I V->I V
 | [],_,t=>t
 |v::vs,i,t=>lg vs (i+1) (t.set i (some v))
def Ez(P:Program)(F:I V)(h:I O):ResultVar->Option V
 | .tmp t=>F.get t
 | .cell a t=>match F.get a with
   |some v=>loadAt P t h v
   |none=>none
def kR(P:Program)(F:I V)(h:I O):List ResultVar->Option (ag)
 | []=>some []
 |r::rs=>match Ez P F h r with
  |some v=>match kR P F h rs with
   |some vs=>some (v::vs)
   |none=>none
  |none=>none
def oneOf:ag->V
 | [v]=>v
 |vs=>.gC vs
inductive Mode where
 |ret
 |ni (v:V) (rec:Bool)
def qn(P:Program)(cf:fL)(ops:Array Oper):List Oper->St->Mode->Option (es×St×Mode)
 | [],s,m=>some (.normal,s,m)
 |o::rest,s,m=>
  match fP ops o s.F with
  |some false=>match jn s.F o.dst (.gC [])with
   |some F=>qn P cf ops rest { s with F:=F } m
   |none=>none
  |some true=>match dO P o s.F s.h s.n with
   |some (.val v h n)=>match jn s.F o.dst v with
    |some F=>qn P cf ops rest { s with F:=F,h:=h,n:=n } m
    |none=>none
   |some .recover=>match m with
    | .ni v false=>match jn s.F o.dst v with
      |some F=>qn P cf ops rest { s with F:=F } (.ni v true)
      |none=>none
    |m=>match jn s.F o.dst .nilIface with
     |some F=>qn P cf ops rest { s with F:=F } m
     |none=>none
   |_=>mJ o
  |none=>mJ o
def tu(P:Program)(cf:fL)(fr:Nat):Code->St->Mode->Option (es×St×Mode)
 | .region _ ops false,s,m=>qn P cf ops ops.toList s m
 | .seq a b,s,m=>match tu P cf fr a s m with
   |some (.normal,A,m')=>tu P cf fr b A m'
   |r=>r
 | .cond c a b,s,m=>match iK s.F c with
   |some (.bool true)=>tu P cf fr a s m
   |some (.bool false)=>tu P cf fr b s m
   |_=>mH 5
 |c,s,m=>match gv P cf fr c s with
  |some (x,A)=>some (x,A,m)
  |none=>none
def mK(P:Program)(cf:fL)(fr:Nat)(fn:Func)(F:I V):List (FuncId×ag×ag)->Mode->I O->Nat->Option (pn×I O×Nat)
 | [],.ret,h,n=>match kR P F h fn.results.toList with
   |some vs=>some (.ret (oneOf vs),h,n)
   |none=>mH 11
 | [],.ni v false,h,n=>some (.ni v,h,n)
 | [],.ni _ true,_,_=>mH 12
 |(g,c,args)::ds,m,h,n=>
  if fV<=g then(match args with
   | [.map (some b)]=>(match h.get b with
     |some .tL=>if b<fV then mK P cf fr fn F ds m (h.set b none) n else mH 41
     |_=>mH 42)
   |_=>mH 43)else
  match P.funcs[g]? with
  |some gn=>match gn.body with
   |some code=>
    if callee P g=true/\(args++c).length<=gn.ntmps/\gn.ntmps<fV then
     match tu P cf fr code { F:=lg (args++c) 0 .nil,h:=h,n:=n,gZ:=[] } m with
     |some (.normal,A,m')=>
      (match A.gZ with
      | []=>match kR P A.F A.h gn.results.toList with
        |some _=>mK P cf fr fn F ds (match m' with | .ni _ true=>.ret|m=>m) A.h A.n
        |none=>mH 13
      |_=>mH 14)
     |some (.ret,A,m')=>
      (match A.gZ with
      | []=>match kR P A.F A.h gn.results.toList with
        |some _=>mK P cf fr fn F ds (match m' with | .ni _ true=>.ret|m=>m) A.h A.n
        |none=>mH 15
      |_=>mH 16)
     |_=>mH 17
    else none
   |none=>mH 18
  |none=>mH 19
def enter(P:Program)(cf:fL)(fr:Nat)(f:FuncId)(args:ag)(h:I O)(n:Nat):Option (pn×I O×Nat):=
 match P.funcs[f]? with
 |some fn=>match fn.body with
  |some code=>
   if args.length<=fn.ntmps/\fn.ntmps<fV then
    match gv P cf fr code { F:=lg args 0 .nil,h:=h,n:=n,gZ:=[] }with
    |some (.normal,s)=>mK P cf fr fn s.F s.gZ .ret s.h s.n
    |some (.ret,s)=>mK P cf fr fn s.F s.gZ .ret s.h s.n
    |some (.panic v,s)=>mK P cf fr fn s.F s.gZ (.ni v false) s.h s.n
    |_=>mH 20
   else none
  |none=>mH 21
 |none=>mH 22
def jL:Code->Bool
 | .region _ ops _=>ops.toList.all fun o=>AQ o.op
 | .seq a b=>jL a&&jL b
 | .cond _ a b=>jL a&&jL b
 | .block _ c=>jL c
 | .loop c=>jL c
 | .rangeFunc ..=>false
 |_=>true
def vU:List (Nat×V)->I V->Option (I V)
 | [],t=>some t
 |(i,v)::r,t=>if i<fV then vU r (t.set i (some v))else none
def IC:List Nat->ag->List (Nat×V)
 |i::is,v::vs=>(i,v)::IC is vs
 |_,_=>[]
def vV(P:Program)(cf:fL)(fr:Nat)(m:Nat)(args:ag)(h:I O)(n:Nat):Option (pn×I O×Nat):=
 match h.get m with
 |some (.loop true none F ps assign body)=>
  if m<fV/\ps.length=args.length/\jL assign=true/\jL body=true then
   match vU (IC ps args) F with
   |some KD=>match gv P cf fr assign { F:=KD,h:=h.set m none,n:=n,gZ:=[] }with
    |some (.normal,s1)=>match gv P cf fr body s1 with
     |some (.normal,s2)=>some (.ret (.bool true),s2.h.set m (some (.loop true none F ps assign body)),s2.n)
     |some (.ret,s2)=>some (.ret (.bool false),s2.h.set m (some (.loop false (some .ret) F ps assign body)),s2.n)
     |some (.exit id,s2)=>some (.ret (.bool false),s2.h.set m (some (.loop false (some (.exit id)) F ps assign body)),s2.n)
     |_=>mH 51
    |_=>mH 52
   |none=>mH 53
  else mH 54
 |_=>mH 55
def call(P:Program)(fr:Nat):Nat->fL
 |0=>fun _ _ _ _=>mH 23
 |k+1=>fun f args h n=>if f<P.funcs.size then enter P (call P fr k) fr f args h n else vV P (call P fr k) fr (f-P.funcs.size) args h n
def oF(l:List Oper):List Nat:=l.foldl (fun DG o=>DG++[fb DG o.after.toList]) []
section
variable(ops:Array Oper)
def ud(o:Oper):List Nat:=
 (o.op.operands.toList.filterMap fun x=>match x with | .tmp t=>some t|_=>none) ++
  (match o.guard with|some (j,_)=>(match ops[j]? with|some q=>q.dst.toList|none=>[])|none=>[])
def EA(m:List Nat)(i j:Nat):Bool:=
 match ops[i]?,ops[j]? with
 |some o,some q=>match o.dst with
  |some t=>(match q.dst with|some u=>!Nat.beq t u|none=>true) &&
    (if(ud ops q).contains t then(if i<j then ek (m.getD j 0) i else ek (m.getD i 0) j)else true)
  |none=>true
 |_,_=>true
def Nt(n0:Nat):Bool:=
 let m:=oF ops.toList
 (List.range ops.size).all fun j=>match ops[j]? with
  |some o=>o.after.toList.all (fun e=>!Region.binds .any e||decide (e.on<j))&&(match o.dst with|some d=>decide (d<n0)|none=>true) &&
    (List.range ops.size).all fun i=>Nat.beq i j||EA ops m i j
  |none=>true
end
def eJ(n0:Nat):Code->Bool
 | .region _ ops Bw=>ops.toList.all (fun o=>match o.dst with|some d=>decide (d<n0)|none=>true)&&(if Bw then Nt ops n0 else true)
 | .seq a b=>eJ n0 a&&eJ n0 b
 | .cond _ a b=>eJ n0 a&&eJ n0 b
 | .block _ c=>eJ n0 c
 | .loop c=>eJ n0 c
 | .scope c=>eJ n0 c
 | .rangeFunc _ ps a b=>ps.toList.all (fun p=>decide (p<n0))&&(eJ n0 a&&eJ n0 b)
 |_=>true
structure Env where
 ι:Nat->Option (Nat×Nat)
 β:Nat->Nat
 φ:Nat->Option (Array Value)
mutual
def kN(φ:Nat->Option (Array Value)):D->Value->Prop
 | .bool b,v=>v= .bool b
 | .int k n,v=>v= .int k n
 | .str s,v=>v= .string ⟨s.toArray⟩
 | .eo n T,v=>∃a jH vs,v= .slice a n jH/\n<=jH/\iN φ T vs/\(n=0->T=[])/\
    (0<n->∃b o c,a=some ⟨b,o,none⟩/\φ b=some c/\∀(j:Nat) (w:Value),vs[j]? =some w->c[o+j]? =some w)
 | .agg T,v=>∃vs,iN φ T vs/\v= .agg vs.toArray
def iN(φ:Nat->Option (Array Value)):ai->List Value->Prop
 | [],l=>l=[]
 |x::xs,l=>∃y ys,x.scalar=true/\kN φ x y/\iN φ xs ys/\l=y::ys
end
def zQ(E:Env):Fn->Fn->Prop
 | .yield m,f'=>∃l s,E.ι m=some (l,s)/\f'= .yield l
 |f,f'=>f'=f
mutual
def dQ(E:Env):V->Value->Prop
 | .bool b,v=>v= .bool b
 | .int k n,v=>v= .int k n
 | .str s,v=>v= .string ⟨s.toArray⟩
 | .ptr none,v=>v= .pointer none
 | .ptr (some (m,o)),v=>∃b s,E.ι m=some (b,s)/\v= .pointer (some ⟨b,s+o,none⟩)
 | .eS none len jH _,v=>len=0/\jH=0/\v= .slice none 0 0
 | .eS (some (m,o)) len jH jm,v=>∃b s o' gp,E.ι m=some (b,s)/\(0<jH->o'=s+o)/\len<=jH/\jH<=gp/\o'+gp*jm<=E.β b/\
    v= .slice (some ⟨b,o',none⟩) len gp
 | .map none,v=>v= .map none
 | .map (some m),v=>∃b,E.ι m=some (b,0)/\v= .map (some b)
 | .fn f a c,v=>∃f' a' c',zQ E f f'/\dV E a a'/\dV E c c'/\v= .func f' a'.toArray c'.toArray
 | .kz,v=>v= .nilFunc
 | .iface t x,v=>∃x',dQ E x x'/\v= .iface t x'
 | .nilIface,v=>v= .nilIface
 | .agg T,v=>∃cs',dV E T cs'/\v= .agg cs'.toArray
 | .gC T,v=>∃cs',dV E T cs'/\v= .tuple cs'.toArray
 | .eo f n T,v=>kN E.φ (.eo n T) v/\(f=true->∃a,v= .slice a n n)
 | .dr T,v=>∃b o c vs,v= .pointer (some ⟨b,o,none⟩)/\E.φ b=some c/\iN E.φ T vs/\∀(j:Nat) (w:Value),vs[j]? =some w->c[o+j]? =some w
def dV(E:Env):ag->List Value->Prop
 | [],l=>l=[]
 |x::xs,l=>∃y ys,dQ E x y/\dV E xs ys/\l=y::ys
end
structure Env.le(E E':Env):Prop where
 nm:∀m b s,E.ι m=some (b,s)->E'.ι m=some (b,s)/\E'.β b=E.β b
 fz:∀b c,E.φ b=some c->E'.φ b=some c
def GE(E:Env):Prop:=∀p∈tK,E.ι p.2=some (p.1,0)
theorem GE.mono{E E':Env}(h:GE E)(k:E.le E'):GE E':=fun p hp=>(k.nm _ _ _ (h p hp)).1
theorem Gj:∀{l:List (Nat×Nat)} {g:Nat} {v:V},Nr l g=some v->∃m,(g,m)∈l/\v= .ptr (some (m,0))
 | [],_,_,h=>by cases h
 |p::r,g,v,h=>by
  unfold Nr at h;split at h
  . rename_i hb;cases h;exact⟨p.2,aD.2 (.inl (by rw[<- aA hb])),rfl⟩
  . obtain⟨m,Q,R⟩:=Gj h;exact⟨m,bj _ Q,R⟩
theorem Gk{E:Env}(h:GE E){g:Nat}{v:V}(e:Nr tK g=some v):dQ E v (.pointer (some ⟨g,0,none⟩)):=by
 obtain⟨m,Q,rfl⟩:=Gj e;exact⟨g,0,h _ Q,rfl⟩
theorem Env.le_refl(E:Env):E.le E:=⟨fun _ _ _ h=>⟨h,rfl⟩,fun _ _ h=>h⟩
theorem Env.le_trans{s' aj be:Env}(h:s'.le aj)(k:aj.le be):s'.le be:=⟨fun m b s e=>
 ⟨(k.nm m b s (h.nm m b s e).1).1,(k.nm m b s (h.nm m b s e).1).2.trans (h.nm m b s e).2⟩,fun b c e=>k.fz b c (h.fz b c e)⟩
mutual
theorem me{φ Gl:Nat->Option (Array Value)}(h:∀b c,φ b=some c->Gl b=some c):∀(d:D) (v:Value),kN φ d v->kN Gl d v
 | .bool _,_,r=>r
 | .int _ _,_,r=>r
 | .str _,_,r=>r
 | .eo _ T,_,⟨a,jH,vs,e,K,r,h0,Q⟩=>⟨a,jH,vs,e,K,iz h T vs r,h0,fun hn=>let⟨b,o,c,e1,e2,e3⟩:=Q hn;⟨b,o,c,e1,h _ _ e2,e3⟩⟩
 | .agg T,_,⟨vs,r,e⟩=>⟨vs,iz h T vs r,e⟩
theorem iz{φ Gl:Nat->Option (Array Value)}(h:∀b c,φ b=some c->Gl b=some c):∀(d:ai) (v:List Value),iN φ d v->iN Gl d v
 | [],_,r=>r
 |x::xs,_,⟨y,ys,s,r,rs,e⟩=>⟨y,ys,s,me h x y r,iz h xs ys rs,e⟩
end
mutual
theorem q8{E:Env}:∀(d:D) (v:Value),kN E.φ d v->dQ E d.jJ v
 | .bool _,_,r=>r
 | .int _ _,_,r=>r
 | .str _,_,r=>r
 | .eo _ _,_,r=>⟨r,fun h=>by cases h⟩
 | .agg T,_,⟨vs,r,e⟩=>⟨vs,uX T vs r,e⟩
theorem uX{E:Env}:∀(d:ai) (v:List Value),iN E.φ d v->dV E (D.fN d) v
 | [],_,r=>r
 |x::xs,_,⟨y,ys,_,r,rs,e⟩=>⟨y,ys,q8 x y r,uX xs ys rs,e⟩
end
mutual
theorem Gm{E:Env}:∀(d:D) (v:Value),dQ E d.jJ v->(∀T,d= .agg T->∀x∈T,x.scalar=true)->kN E.φ d v
 | .bool _,_,r,_=>r
 | .int _ _,_,r,_=>r
 | .str _,_,r,_=>r
 | .eo _ _,_,r,_=>r.1
 | .agg T,_,⟨vs,r,e⟩,h=>⟨vs,Bx T vs r (h T rfl),e⟩
theorem Bx{E:Env}:∀(d:ai) (v:List Value),dV E (D.fN d) v->(∀x∈d,x.scalar=true)->iN E.φ d v
 | [],_,r,_=>r
 |x::xs,_,⟨y,ys,r,rs,e⟩,h=>⟨y,ys,h x (by simp),Gm x y r (fun T q=>by have:=h x (by simp);rw[q]at this;cases this),Bx xs ys rs (fun z hz=>h z (by simp[hz])),e⟩
end
theorem oL{φ:Nat->Option (Array Value)}:∀{xs:ai} {ys:List Value},iN φ xs ys->ys.length=xs.length
 | [],_,r=>by simp only[iN]at r;subst r;rfl
 |_::_,_,r=>by obtain⟨y,ys,_,_,rs,rfl⟩:=r;simp[oL rs]
theorem uY{φ:Nat->Option (Array Value)}:∀{xs:ai} {ys:List Value},iN φ xs ys->∀(i:Nat) (d:D),xs[i]? =some d->∃v',ys[i]? =some v'/\d.scalar=true/\kN φ d v'
 | [],_,r,i,v,h=>by simp at h
 |x::xs,_,r,i,v,h=>by
  obtain⟨y,ys,s0,r0,rs,rfl⟩:=r;cases i with
  |zero=>simp at h;subst h;exact⟨y,by simp,s0,r0⟩
  |succ i=>simp at h;obtain⟨v',Q,R⟩:=uY rs i v h;exact⟨v',by simpa using Q,R⟩
theorem oM{φ:Nat->Option (Array Value)}:∀{xs:ai} {ys:List Value},xs.length=ys.length->(∀(i:Nat) (d:D),xs[i]? =some d->∃v',ys[i]? =some v'/\d.scalar=true/\kN φ d v')->iN φ xs ys
 | [],[],_,_=>rfl
 | [],_::_,h,_=>by simp at h
 |_::_,[],h,_=>by simp at h
 |x::xs,y::ys,h,r=>by
  obtain⟨v',Q,R,h3⟩:=r 0 x (by simp);simp at Q;subst Q;exact⟨y,ys,R,h3,oM (by simpa using h) (fun i v hi=>r (i+1) v (by simpa using hi)),rfl⟩
section
variable{φ:Nat->Option (Array Value)}{n:Nat}{xs:ai}{ys:List Value}
theorem sk(r:iN φ xs ys):iN φ (xs.take n) (ys.take n):=by
 refine oM (by simp[oL r]) fun i v h=>?_;rw[bN]at h ⊢;split at h
 . rename_i hi;rw[aE hi];exact uY r i v h
 . simp at h
theorem ny(r:iN φ xs ys):iN φ (xs.drop n) (ys.drop n):=by
 refine oM (by simp[oL r]) fun i v h=>?_;rw[bO]at h ⊢;exact uY r _ v h
end
theorem oO{φ:Nat->Option (Array Value)}:∀{xs yB:ai} {ys DH:List Value},iN φ xs ys->iN φ yB DH->iN φ (xs++yB) (ys++DH)
 | [],_,_,_,r,r'=>by simp only[iN]at r;subst r;simpa using r'
 |x::xs,_,_,_,r,r'=>by
  obtain⟨y,ys,s0,r0,rs,rfl⟩:=r;exact⟨y,_,s0,r0,oO rs r',rfl⟩
theorem iY{φ:Nat->Option (Array Value)}:∀{xs:ai} {ys:List Value},iN φ xs ys->∀x∈xs,x.scalar=true
 | [],_,_,x,h=>by simp at h
 |a::xs,_,r,x,h=>by
  obtain⟨y,ys,s0,_,rs,_⟩:=r;rcases aD.1 h with rfl|h
  . exact s0
  . exact iY rs x h
theorem ID{d:D}(h:d.scalar=true):d.jJ.scalar=true:=by cases d<;>first|rfl|(simp[D.scalar]at h)
theorem zR{ds:ai}(h:∀x∈ds,x.scalar=true):(D.fN ds).all V.scalar=true:=by
 rw[D.ga,bq];intro x H;obtain⟨d,hd,rfl⟩:=bQ.1 H;exact ID (h d hd)
theorem IE{E E':Env}(h:E.le E'):∀(f f':Fn),zQ E f f'->zQ E' f f'
 | .yield _,_,⟨l,s,e,q⟩=>⟨l,s,(h.nm _ _ _ e).1,q⟩
 | .func _,_,r=>r
 | .method _,_,r=>r
 | .methodOf _ _,_,r=>r
 | .via _ _ _ _,_,r=>r
mutual
theorem jc{E E':Env}(h:E.le E'):∀(v:V) (v':Value),dQ E v v'->dQ E' v v'
 | .bool _,_,r=>r
 | .int _ _,_,r=>r
 | .str _,_,r=>r
 | .ptr none,_,r=>r
 | .ptr (some (_,_)),_,⟨b,s,e,q⟩=>⟨b,s,(h.nm _ _ _ e).1,q⟩
 | .eS none _ _ _,_,r=>r
 | .eS (some (_,_)) _ _ _,_,⟨b,s,o',gp,e,q1,q2,q3,q4,q5⟩=>⟨b,s,o',gp,(h.nm _ _ _ e).1,q1,q2,q3,(h.nm _ _ _ e).2▸q4,q5⟩
 | .map none,_,r=>r
 | .map (some _),_,⟨b,e,q⟩=>⟨b,(h.nm _ _ _ e).1,q⟩
 | .fn _ a c,_,⟨f',a',c',rf,ra,rc,q⟩=>⟨f',a',c',IE h _ _ rf,kS h a a' ra,kS h c c' rc,q⟩
 | .kz,_,r=>r
 | .iface _ x,_,⟨x',r,q⟩=>⟨x',jc h x x' r,q⟩
 | .nilIface,_,r=>r
 | .agg T,_,⟨cs',r,q⟩=>⟨cs',kS h T cs' r,q⟩
 | .gC T,_,⟨cs',r,q⟩=>⟨cs',kS h T cs' r,q⟩
 | .eo _ _ _,_,⟨r,q⟩=>⟨me h.fz _ _ r,q⟩
 | .dr T,_,⟨b,o,c,vs,e,e1,r,q⟩=>⟨b,o,c,vs,e,h.fz _ _ e1,iz h.fz T vs r,q⟩
theorem kS{E E':Env}(h:E.le E'):∀(v:ag) (v':List Value),dV E v v'->dV E' v v'
 | [],_,r=>r
 |x::xs,_,⟨y,ys,r,rs,q⟩=>⟨y,ys,jc h x y r,kS h xs ys rs,q⟩
end
theorem eP{E:Env}:∀{xs:ag} {ys:List Value},dV E xs ys->ys.length=xs.length
 | [],_,r=>by simp only[dV]at r;subst r;rfl
 |_::_,_,r=>by obtain⟨y,ys,_,rs,rfl⟩:=r;simp[eP rs]
theorem gD{E:Env}:∀{xs:ag} {ys:List Value},dV E xs ys->∀(i:Nat) (v:V),xs[i]? =some v->∃v',ys[i]? =some v'/\dQ E v v'
 | [],_,_,i,v,h=>by simp at h
 |x::xs,_,r,i,v,h=>by
  obtain⟨y,ys,r0,rs,rfl⟩:=r;cases i with
  |zero=>simp at h;subst h;exact⟨y,by simp,r0⟩
  |succ i=>simp at h;obtain⟨v',Q,R⟩:=gD rs i v h;exact⟨v',by simpa using Q,R⟩
theorem iZ{E:Env}:∀{xs:ag} {ys:List Value},xs.length=ys.length->(∀(i:Nat) (v:V),xs[i]? =some v->∃v',ys[i]? =some v'/\dQ E v v')->dV E xs ys
 | [],[],_,_=>rfl
 | [],_::_,h,_=>by simp at h
 |_::_,[],h,_=>by simp at h
 |x::xs,y::ys,h,r=>by
  obtain⟨v',Q,R⟩:=r 0 x (by simp);simp at Q;subst Q;exact⟨y,ys,R,iZ (by simpa using h) (fun i v hi=>r (i+1) v (by simpa using hi)),rfl⟩
theorem iF{E:Env}:∀{xs yB:ag} {ys DH:List Value},dV E xs ys->dV E yB DH->dV E (xs++yB) (ys++DH)
 | [],_,_,_,r,r'=>by simp only[dV]at r;subst r;simpa using r'
 |x::xs,_,_,_,r,r'=>by
  obtain⟨y,ys,r0,rs,rfl⟩:=r;exact⟨y,_,r0,iF rs r',rfl⟩
section
variable{E:Env}{n:Nat}
theorem By:∀{xs:ag} {ys:List Value},dV E xs ys->dV E (xs.take n) (ys.take n):=by
 intro xs ys r;refine iZ (by simp[eP r]) fun i v h=>?_;rw[bN]at h ⊢;split at h
 . rename_i hi;rw[aE hi];exact gD r i v h
 . simp at h
theorem Bz:∀{xs:ag} {ys:List Value},dV E xs ys->dV E (xs.drop n) (ys.drop n):=by
 intro xs ys r;refine iZ (by simp[eP r]) fun i v h=>?_;rw[bO]at h ⊢;exact gD r _ v h
theorem iA:∀{v:V} {v':Value},dQ E v v'->dV E v.cells v'.cells.toList:=by
 intro v v' r;have one:∀{x:V} {y:Value},dQ E x y->y.cells=#[y]->x.cells=[x]->dV E x.cells y.cells.toList:=by
  intro x y r Q R;rw[Q,R];exact⟨y,[],r,rfl,rfl⟩
 cases v with
 |agg T=>obtain⟨cs',rs,rfl⟩:=r;simpa[V.cells,Value.cells]using rs
 |bool b=>simp only[dQ]at r;subst r;exact one (by simp[dQ]) rfl rfl
 |int k n=>simp only[dQ]at r;subst r;exact one (by simp[dQ]) rfl rfl
 |str s=>simp only[dQ]at r;subst r;exact one (by simp[dQ]) rfl rfl
 |ptr a=>refine one r ?_ rfl;cases a<;>simp only[dQ]at r;. subst r;rfl
         . obtain⟨b,s,_,rfl⟩:=r;rfl
 |eS a l c e=>refine one r ?_ rfl;cases a<;>simp only[dQ]at r;. obtain⟨_,_,rfl⟩:=r;rfl
              . obtain⟨b,s,_,_,_,_,_,_,_,rfl⟩:=r;rfl
 |map a=>refine one r ?_ rfl;cases a<;>simp only[dQ]at r;. subst r;rfl
         . obtain⟨b,_,rfl⟩:=r;rfl
 |fn f a c=>refine one r ?_ rfl;obtain⟨_,_,_,_,_,_,rfl⟩:=r;rfl
 |kz=>simp only[dQ]at r;subst r;exact one (by simp[dQ]) rfl rfl
 |iface t x=>refine one r ?_ rfl;obtain⟨_,_,rfl⟩:=r;rfl
 |nilIface=>simp only[dQ]at r;subst r;exact one (by simp[dQ]) rfl rfl
 |gC vs=>refine one r ?_ rfl;obtain⟨_,_,rfl⟩:=r;rfl
 |eo f n T=>refine one r ?_ rfl;obtain⟨⟨_,_,_,rfl,_⟩,_⟩:=r;rfl
 |dr T=>refine one r ?_ rfl;obtain⟨_,_,_,_,rfl,_⟩:=r;rfl
theorem ue:∀{v:V} {v':Value},dQ E v v'->v.scalar=true->v'.oneCell'=true:=by
 intro v v' r h;cases v with
 |agg T=>simp[V.scalar]at h
 |gC T=>simp[V.scalar]at h
 |bool b=>simp only[dQ]at r;subst r;rfl
 |int k n=>simp only[dQ]at r;subst r;rfl
 |str s=>simp only[dQ]at r;subst r;rfl
 |ptr a=>cases a<;>simp only[dQ]at r;. subst r;rfl
         . obtain⟨b,s,_,rfl⟩:=r;rfl
 |eS a l c e=>cases a<;>simp only[dQ]at r;. obtain⟨_,_,rfl⟩:=r;rfl
              . obtain⟨b,s,_,_,_,_,_,_,_,rfl⟩:=r;rfl
 |map a=>cases a<;>simp only[dQ]at r;. subst r;rfl
         . obtain⟨b,_,rfl⟩:=r;rfl
 |fn f a c=>obtain⟨_,_,_,_,_,_,rfl⟩:=r;rfl
 |kz=>simp only[dQ]at r;subst r;rfl
 |iface t x=>obtain⟨_,_,rfl⟩:=r;rfl
 |nilIface=>simp only[dQ]at r;subst r;rfl
 |eo f n T=>obtain⟨⟨_,_,_,rfl,_⟩,_⟩:=r;rfl
 |dr T=>obtain⟨_,_,_,_,rfl,_⟩:=r;rfl
end
theorem I.xm{α:Type}:∀(f:Nat) (t:I α) (k:Nat) (x:Option α) (j:Nat),k+1<2^f->(I.qH f t k x).get j=if j=k then x else t.get j
 |0,t,k,x,j,h=>by simp at h
 |f+1,t,k,x,j,h=>by
  have Y:∀k',k=k'+1->k'/2+1<2^f:=by intro k' e;subst e;rw[Nat.pow_succ]at h;omega
  cases t with
  |nil=>
   cases k with
   |zero=>
    cases j with
    |zero=>simp[I.qH,I.get]
    |succ j=>simp only[I.qH,I.get];rw[aB G];split<;>rfl
   |succ k=>
    have ih:=fun j=>I.xm f (.nil:I α) (k/2) x j (Y k rfl);rcases cT k with e|e
    . cases j with
      |zero=>simp[I.qH,I.get,e]
      |succ j=>
       rcases cT j with e'|e'
       . simp only[I.qH,e,I.get,e',ih];by_cases hj:j=k
         . subst hj;simp
         . rw[aB G,aB G]
       . simp only[I.qH,e,I.get,e'];rw[aB G]
    . cases j with
      |zero=>simp[I.qH,I.get,e]
      |succ j=>
       rcases cT j with e'|e'
       . simp only[I.qH,e,I.get,e'];rw[aB G]
       . simp only[I.qH,e,I.get,e',ih];by_cases hj:j=k
         . subst hj;simp
         . rw[aB G,aB G]
  |node v l r=>
   cases k with
   |zero=>cases j<;>simp[I.qH,I.get]
   |succ k=>
    have ihl:=fun j=>I.xm f l (k/2) x j (Y k rfl);have ihr:=fun j=>I.xm f r (k/2) x j (Y k rfl);rcases cT k with e|e
    . cases j with
      |zero=>simp[I.qH,I.get,e]
      |succ j=>
       rcases cT j with e'|e'
       . simp only[I.qH,e,I.get,e',ihl];by_cases hj:j=k
         . subst hj;simp
         . rw[aB G,aB G]
       . simp only[I.qH,e,I.get,e'];rw[aB G]
    . cases j with
      |zero=>simp[I.qH,I.get,e]
      |succ j=>
       rcases cT j with e'|e'
       . simp only[I.qH,e,I.get,e'];rw[aB G]
       . simp only[I.qH,e,I.get,e',ihr];by_cases hj:j=k
         . subst hj;simp
         . rw[aB G,aB G]
section
variable{α:Type}(t:I α){k:Nat}(x:Option α)
theorem I.fF(j:Nat)(h:k<fV):(t.set k x).get j=if j=k then x else t.get j:=
 I.xm 33 t k x j (by unfold fV at h;omega)
theorem I.oP(h:k<fV):(t.set k x).get k=x:=by rw[I.fF t x k h,aE rfl]
theorem I.vW{j:Nat}(x:Option α)(h:k<fV)(hj:j≠k):(t.set k x).get j=t.get j:=by rw[I.fF t x j h,aB hj]
end
def kC(E:Env):List (V×V×Nat)->List MapEntry->Prop
 | [],l=>l=[]
 |x::xs,l=>∃y ys,dQ E x.1 y.key/\dQ E x.2.1 y.val/\y.born=x.2.2/\kC E xs ys/\l=y::ys
theorem BA{E E':Env}(h:E.le E'):∀(xs:List (V×V×Nat)) (ys:List MapEntry),kC E xs ys->kC E' xs ys
 | [],_,r=>r
 |_::xs,_,⟨y,ys,a,b,c,r,q⟩=>⟨y,ys,jc h _ _ a,jc h _ _ b,c,BA h xs ys r,q⟩
def kD(φ:Nat->Option (Array Value)):ae->List MapEntry->Prop
 | [],l=>l=[]
 |x::xs,l=>∃y ys,kN φ x.1 y.key/\kN φ x.2 y.val/\kD φ xs ys/\l=y::ys
theorem su{φ Gl:Nat->Option (Array Value)}(h:∀b c,φ b=some c->Gl b=some c):∀(xs:ae) (ys:List MapEntry),kD φ xs ys->kD Gl xs ys
 | [],_,r=>r
 |_::xs,_,⟨y,ys,a,b,r,q⟩=>⟨y,ys,me h _ _ a,me h _ _ b,su h xs ys r,q⟩
structure jM(φ:Nat->Option (Array Value))(kd:Option IntKind)(X:ae)(fG:List MapEntry)(eO:Nat):Prop where
 row:∃l,List.Perm l X/\kD φ l fG
 keys:(X.map (·.1)).Nodup
 kind:∀e∈X,gm kd e.1=true
 old:∀e∈fG,e.born<eO
 born:(fG.map (·.born)).Nodup
theorem jM.mono{φ Gl:Nat->Option (Array Value)}(h:∀b c,φ b=some c->Gl b=some c){kd:Option IntKind}{X:ae}{fG:List MapEntry}{eO:Nat}(r:jM φ kd X fG eO):jM Gl kd X fG eO:=
 ⟨let⟨l,Q,R⟩:=r.row;⟨l,Q,su h _ _ R⟩,r.keys,r.kind,r.old,r.born⟩
structure lN(φ:Nat->Option (Array Value))(kd:Option IntKind)(X:ae)(fG:List MapEntry):Prop where
 row:kD φ X fG
 keys:(X.map (·.1)).Nodup
 kind:∀e∈X,gm kd e.1=true
 born:fG.map (·.born)=List.range X.length
theorem lN.mono{φ Gl:Nat->Option (Array Value)}(h:∀b c,φ b=some c->Gl b=some c){kd:Option IntKind}{X:ae}{fG:List MapEntry}(r:lN φ kd X fG):lN Gl kd X fG:=
 ⟨su h _ _ r.row,r.keys,r.kind,r.born⟩
theorem lN.rel{φ:Nat->Option (Array Value)}{kd:Option IntKind}{X:ae}{fG:List MapEntry}(r:lN φ kd X fG):jM φ kd X fG X.length:=
 ⟨⟨X,.refl _,r.row⟩,r.keys,r.kind,fun e he=>by
  have:e.born∈fG.map (·.born):=bQ.2 ⟨e,he,rfl⟩;rw[r.born]at this;exact bH.1 this,by rw[r.born];exact List.nodup_range⟩
def mL(fz:Nat×Nat)(n:Nat):Prop:=∀i,i<n->¬(fz.1<=i/\i<fz.2)
def lP(E:Env)(s:Nat)(T:ag)(c:Array Value):Prop:=∀(i:Nat) (v:V),T[i]? =some v->∃v',c[s+i]? =some v'/\dQ E v v'
def Nu(E:Env)(F:I V)(tmps:Array Value):Prop:=∀t v,F.get t=some v->∃v',tmps[t]? =some v'/\dQ E v v'
section
variable{E E':Env}{s:Nat}
theorem yK(h:E.le E'){F:I V}{a:Array Value}(r:Nu E F a):Nu E' F a:=fun t v e=>let⟨v',Q,R⟩:=r t v e;⟨v',Q,jc h v v' R⟩
def nA(E:Env)(w:World)(b s:Nat):O->Prop
 | .cells T=>∃c el fz,w.heap[b]? =some (.cells c el fz)/\c.size=E.β b/\mL fz c.size/\lP E s T c
 | .map X eO=>s=0/\∃fG,w.heap[b]? =some (.map fG eO)/\kC E X fG.toList
 | .nq st pos=>s=0/\w.heap[b]? =some (.stringIter ⟨st.toArray⟩ pos)
 | .ints k ks=>∃c el fz,w.heap[b]? =some (.cells c el fz)/\c.size=E.β b/\∀(i:Nat) (x:Int),ks[i]? =some x->c[s+i]? =some (.int k x)
 | .own k ks=>∃c el fz,w.heap[b]? =some (.cells c el fz)/\c.size=E.β b/\mL fz c.size/\lP E s (ks.map (.int k)) c
 | .deep T=>∃c el fz vs,w.heap[b]? =some (.cells c el fz)/\c.size=E.β b/\mL fz c.size/\iN E.φ T vs/\∀(j:Nat) (x:Value),vs[j]? =some x->c[s+j]? =some x
 | .tr el zO t=>∃c fz xs,w.heap[b]? =some (.cells c el fz)/\s=0/\c.size=E.β b/\((fz.1=fz.2\/fz.2<=t.length)/\(zO=false->fz.1=fz.2))/\ir xs=t/\∀(j:Nat) (x:Int),xs[j]? =some x->c[j]? =some (.int .u8 x)
 | .Az t self x=>s=0/\∃x' fz,w.heap[b]? =some (.cells #[.pointer (if self then some ⟨b,0,none⟩else none),x'] t fz)/\2=E.β b/\mL fz 2/\dQ E x x'
 | .gh kd X=>s=0/\∃fG eO,w.heap[b]? =some (.map fG eO)/\jM E.φ kd X fG.toList eO
 | .ow kd X=>s=0/\∃fG,w.heap[b]? =some (.map fG X.length)/\lN E.φ kd X fG.toList
 | .tL=>w.heap[b]? =some (.deferred (some []))
 | .loop st pe F ps assign body=>∃r:Loop,w.heap[b]? =some (.loop r)/\r.state=(if st then .ready else .done)/\r.pending=pe/\r.params.toList=ps/\r.assign=assign/\r.body=body/\Nu E F r.tmps/\eJ r.tmps.size assign=true/\eJ r.tmps.size body=true/\∀p∈ps,p<r.tmps.size
theorem oZ(h:E.le E'){s:Nat}{T:ag}{c:Array Value}(r:lP E s T c):lP E' s T c:=
 fun i v e=>let⟨v',Q,R⟩:=r i v e;⟨v',Q,jc h v v' R⟩
theorem jd{w w':World}{b s:Nat}{o:O}(h:E.le E')(hb:E'.β b=E.β b)(hw:w'.heap[b]? =w.heap[b]?)(r:nA E w b s o):nA E' w' b s o:=by
 cases o with
 |cells T=>obtain⟨c,el,fz,Q,R,h3,h4⟩:=r;exact⟨c,el,fz,hw.trans Q,R.trans hb.symm,h3,oZ h h4⟩
 |map X eO=>obtain⟨hs,fG,Q,R⟩:=r;exact⟨hs,fG,hw.trans Q,BA h _ _ R⟩
 |nq st pos=>exact⟨r.1,hw.trans r.2⟩
 |ints k ks=>obtain⟨c,el,fz,Q,R,h3⟩:=r;exact⟨c,el,fz,hw.trans Q,R.trans hb.symm,h3⟩
 |own k ks=>obtain⟨c,el,fz,Q,R,h3,h4⟩:=r;exact⟨c,el,fz,hw.trans Q,R.trans hb.symm,h3,oZ h h4⟩
 |deep T=>obtain⟨c,el,fz,vs,Q,R,h3,h4,h5⟩:=r;exact⟨c,el,fz,vs,hw.trans Q,R.trans hb.symm,h3,iz h.fz _ _ h4,h5⟩
 |tr el zO t=>obtain⟨c,fz,xs,Q,h0,R,h3⟩:=r;exact⟨c,fz,xs,hw.trans Q,h0,R.trans hb.symm,h3⟩
 |Az t self x=>obtain⟨h0,x',fz,Q,R,h3,h4⟩:=r;exact⟨h0,x',fz,hw.trans Q,R.trans hb.symm,h3,jc h _ _ h4⟩
 |gh kd X=>obtain⟨hs,fG,eO,Q,R⟩:=r;exact⟨hs,fG,eO,hw.trans Q,R.mono h.fz⟩
 |ow kd X=>obtain⟨hs,fG,Q,R⟩:=r;exact⟨hs,fG,hw.trans Q,R.mono h.fz⟩
 |tL=>exact hw.trans r
 |loop st pe F ps assign body=>obtain⟨r,Q,R,h3,h4,h5,h6,h7,h8⟩:=r;exact⟨r,hw.trans Q,R,h3,h4,h5,h6,yK h h7,h8⟩
theorem nB{k:IntKind}{ks:List Int}{c:Array Value}:lP E s (ks.map (.int k)) c↔∀(i:Nat) (x:Int),ks[i]? =some x->c[s+i]? =some (.int k x):=by
 constructor
 . intro r i x e;obtain⟨v',Q,R⟩:=r i (.int k x) (by rw[bE,e];rfl);simp only[dQ]at R;rw[Q,R]
 . intro r i v e;rw[bE]at e;cases H:ks[i]? with
   |none=>rw[H]at e;cases e
   |some x=>
    rw[H]at e;simp only[bu,aq]at e;subst e;exact⟨_,r i x H,rfl⟩
theorem vD{k:IntKind}{ks:List Int}{c:Array Value}(r:lP E s (ks.map (.int k)) c):lP E' s (ks.map (.int k)) c:=nB.2 (nB.1 r)
end
theorem rj{k:IntKind}:∀{l:ag} {ks:List Int},pb k l=some ks->l=ks.map (.int k)
 | [],ks,h=>by simp only[pb,aq]at h;subst h;rfl
 |v::r,ks,h=>by
  unfold pb at h;split at h
  . rename_i q;cases q
  . rename_i k' x r' q;cases q;split at h
    . rename_i l Q R;obtain rfl:=eB h;have:=aW Q;subst this;rw[rj R];rfl
    . cases h
  . cases h
theorem nC{E:Env}{s:Nat}{T:ai}{c:Array Value}(hs:∀x∈T,x.scalar=true):lP E s (D.fN T) c↔∃vs,iN E.φ T vs/\∀(j:Nat) (x:Value),vs[j]? =some x->c[s+j]? =some x:=by
 constructor
 . intro r;have hg:∀i,i<T.length->∃x,c[s+i]? =some x:=by
    intro i hi;obtain⟨v',Q,_⟩:=r i (T[i]).jJ (by rw[D.ga,bE,au hi];rfl);exact⟨v',Q⟩
   refine⟨(List.range T.length).map fun i=>(c[s+i]?).getD undef,oM (by simp) fun i d hd=>?_,fun j x H=>?_⟩
   . have hi:=(aO.1 hd).1;obtain⟨v',Q,R⟩:=r i d.jJ (by rw[D.ga,bE,hd];rfl);refine⟨v',by simp[cV hi,Q],hs d (List.mem_of_getElem? hd),Gm d v' R fun ds q=>?_⟩;have:=hs d (List.mem_of_getElem? hd);rw[q]at this;cases this
   . rw[bE]at H;by_cases hj:j<T.length
     . rw[cV hj]at H;simp only[bu,aq]at H;obtain⟨y,hy⟩:=hg j hj;rw[hy]at H ⊢;simpa using H
     . rw[cK (by simpa using Nat.le_of_not_lt hj)]at H;cases H
 . rintro⟨vs,r,hv⟩ i v hi;rw[D.ga,bE]at hi;cases hd:T[i]? with
   |none=>rw[hd]at hi;cases hi
   |some d=>
    rw[hd]at hi;simp only[bu,aq]at hi;subst hi;obtain⟨v',Q,_,h3⟩:=uY r i d hd;exact⟨v',hv i v' Q,q8 d v' h3⟩
theorem sw:∀{l:ag} {ds:ai},ij l=some ds->∀{E:Env} {l':List Value},dV E l l'->iN E.φ ds l'
 | [],ds,h,E,l',r=>by simp only[ij,aq]at h;subst h;exact r
 |x::xs,ds,h,E,l',r=>by
  simp only[ij]at h;split at h
  case h_2=>cases h
  rename_i d hd;split at h
  case h_2=>cases h
  rename_i l hl;obtain rfl:=eB h;obtain⟨y,ys,r0,rs,rfl⟩:=r;refine⟨y,ys,?_,?_,sw hl rs,rfl⟩
  . split at hd<;>first|(cases hd;rfl)|cases hd
  . split at hd<;>first|(cases hd;first|exact r0|exact r0.1|exact⟨none,0,[],r0.2.2,aK _,rfl,fun _=>rfl,fun q=>absurd q (cZ _)⟩)|cases hd
theorem ug:∀{l:ag} {ds:ai},ij l=some ds->ds.length=l.length
 | [],ds,h=>by simp only[ij,aq]at h;subst h;rfl
 |x::xs,ds,h=>by
  simp only[ij]at h;split at h
  case h_2=>cases h
  split at h
  case h_2=>cases h
  rename_i l hl;obtain rfl:=eB h;simp[ug hl]
mutual
theorem xn{E:Env}:∀{x:V} {d:D},V.Iy x=some d->∀{v:Value},dQ E x v->kN E.φ d v/\(x.scalar=true->d.scalar=true)
 | .bool _,d,h,v,r=>by simp only[V.Iy,aq]at h;subst h;exact⟨r,fun _=>rfl⟩
 | .int _ _,d,h,v,r=>by simp only[V.Iy,aq]at h;subst h;exact⟨r,fun _=>rfl⟩
 | .str _,d,h,v,r=>by simp only[V.Iy,aq]at h;subst h;exact⟨r,fun _=>rfl⟩
 | .eo _ _ _,d,h,v,r=>by simp only[V.Iy,aq]at h;subst h;exact⟨r.1,fun _=>rfl⟩
 | .agg T,d,h,v,r=>by
   simp only[V.Iy]at h;split at h
   . rename_i l hl;obtain rfl:=eB h;obtain⟨vs,r,e⟩:=r;exact⟨⟨vs,Gn hl r,e⟩,fun h=>by cases h⟩
   . cases h
 | .ptr _,d,h,_,_=>by cases h
 | .eS none _ _ _,d,h,v,r=>by
   simp only[V.Iy,aq]at h;subst h;exact⟨⟨none,0,[],r.2.2,aK _,rfl,fun _=>rfl,fun q=>absurd q (cZ _)⟩,fun _=>rfl⟩
 | .eS (some _) 0 _ _,d,h,v,r=>by
   simp only[V.Iy,aq]at h;subst h;obtain⟨b,s,o',gp,_,_,_,_,_,e⟩:=r;exact⟨⟨_,gp,[],e,aS _,rfl,fun _=>rfl,fun q=>absurd q (cZ _)⟩,fun _=>rfl⟩
 | .eS (some _) (_+1) _ _,d,h,_,_=>by cases h
 | .map _,d,h,_,_=>by cases h
 | .fn _ _ _,d,h,_,_=>by cases h
 | .kz,d,h,_,_=>by cases h
 | .iface _ _,d,h,_,_=>by cases h
 | .nilIface,d,h,_,_=>by cases h
 | .gC _,d,h,_,_=>by cases h
 | .dr _,d,h,_,_=>by cases h
theorem Gn{E:Env}:∀{xs:ag} {ds:ai},V.Nl xs=some ds->∀{vs:List Value},dV E xs vs->iN E.φ ds vs
 | [],ds,h,v,r=>by simp only[V.Nl,aq]at h;subst h;exact r
 |x::xs,ds,h,v,r=>by
  simp only[V.Nl]at h;split at h
  case h_2=>cases h
  rename_i d hd;split at h
  case h_2=>cases h
  rename_i l hl;split at h
  case h_2=>cases h
  rename_i IF;obtain rfl:=eB h;obtain⟨y,ys,r0,rs,rfl⟩:=r;exact⟨y,ys,IF,(xn hd r0).1,Gn hl rs,rfl⟩
end
theorem zS{E:Env}:∀{xs ys:ag} {l:List Value},dV E (xs++ys) l->∃l1 l2,dV E xs l1/\dV E ys l2/\l=l1++l2
 | [],_,l,r=>⟨[],l,rfl,r,rfl⟩
 |x::xs,_,l,⟨y,zs,r0,rs,e⟩=>by
  obtain⟨l1,l2,Q,R,h3⟩:=zS rs;exact⟨y::l1,l2,⟨y,l1,r0,Q,rfl⟩,R,by rw[e,h3];rfl⟩
def wk(xs ys:ag):Prop:=∀(E:Env) (l:List Value),dV E xs l->dV E ys l
theorem iO(xs:ag):wk xs xs:=fun _ _ r=>r
theorem yL{a b a' b':ag}(h:wk a a')(k:wk b b'):wk (a++b) (a'++b'):=fun E l r=>by
 obtain⟨l1,l2,Q,R,rfl⟩:=zS r;exact iF (h E l1 Q) (k E l2 R)
theorem xo{l:ag}{ds:ai}(h:ij l=some ds):wk l (D.fN ds):=fun _ _ r=>uX _ _ (sw h r)
theorem rq{E:Env}{s:Nat}{T:ag}{c:Array Value}:lP E s T c↔∃vs,dV E T vs/\∀(j:Nat) (x:Value),vs[j]? =some x->c[s+j]? =some x:=by
 constructor
 . intro r;have hg:∀i,i<T.length->∃x,c[s+i]? =some x:=fun i hi=>by
    obtain⟨v',Q,_⟩:=r i T[i] (au hi);exact⟨v',Q⟩
   refine⟨(List.range T.length).map fun i=>(c[s+i]?).getD undef,iZ (by simp) fun i d hd=>?_,fun j x H=>?_⟩
   . have hi:=(aO.1 hd).1;obtain⟨v',Q,R⟩:=r i d hd;exact⟨v',by simp[cV hi,Q],R⟩
   . rw[bE]at H;by_cases hj:j<T.length
     . rw[cV hj]at H;simp only[bu,aq]at H;obtain⟨y,hy⟩:=hg j hj;rw[hy]at H ⊢;simpa using H
     . rw[cK (by simpa using Nat.le_of_not_lt hj)]at H;cases H
 . rintro⟨vs,r,hv⟩ i v hi;obtain⟨v',Q,R⟩:=gD r i v hi;exact⟨v',hv i v' Q,R⟩
theorem xp{E:Env}{s:Nat}{xs ys:ag}{c:Array Value}(h:wk xs ys)(r:lP E s xs c):lP E s ys c:=by
 obtain⟨vs,Q,R⟩:=rq.1 r;exact rq.2 ⟨vs,h E vs Q,R⟩
def Row.sc:Row->Prop
 | .ds T=>∀x∈T,x.scalar=true
 |_=>True
theorem nD:∀{l:ag} {ds:ai},ij l=some ds->∀x∈ds,x.scalar=true
 | [],ds,h,x,H=>by simp only[ij,aq]at h;subst h;simp at H
 |y::l,ds,h,x,H=>by
  simp only[ij]at h;split at h
  case h_2=>cases h
  rename_i d hd;split at h
  case h_2=>cases h
  rename_i l' hl;obtain rfl:=eB h;rcases aD.1 H with rfl|H
  . split at hd<;>first|(cases hd;rfl)|cases hd
  . exact nD hl x H
theorem Row.IG(a b:Row):wk (a.jJ++b.jJ) (a.app b).jJ:=by
 have e:∀{k:IntKind} {l:ag} {ks:List Int},pb k l=some ks->l=ks.map (.int k):=fun h=>rj h;have S:∀(k:IntKind) (ks:List Int),D.fN (ks.map (.int k))=ks.map (.int k):=fun k ks=>by rw[D.ga,List.map_map];rfl
 have ha:∀(x y:ai),D.fN (x++y)=D.fN x++D.fN y:=fun x y=>by rw[D.ga,D.ga,D.ga,bR]
 cases a<;>cases b<;>simp only[Row.app]
 . exact iO _
 . rename_i T k ks;split
   . rename_i l h;simp only[Row.jJ,e h,bR];exact iO _
   . exact iO _
 . rename_i T ds;split
   . rename_i l h;simp only[Row.jJ,ha];exact yL (xo h) (iO _)
   . exact iO _
 . rename_i k ks T;split
   . rename_i l h;simp only[Row.jJ,e h,bR];exact iO _
   . exact iO _
 . rename_i k ks k' ks';split
   . rename_i h;have:=aW h;subst this;simp only[Row.jJ,bR];exact iO _
   . exact iO _
 . simp only[Row.jJ,ha,S];exact iO _
 . rename_i T ds;split
   . rename_i l h;simp only[Row.jJ,ha];exact yL (iO _) (xo h)
   . exact iO _
 . simp only[Row.jJ,ha,S];exact iO _
 . simp only[Row.jJ,ha];exact iO _
theorem Row.II{a b:Row}(h:a.sc)(k:b.sc):(a.app b).sc:=by
 have hi:∀(k:IntKind) (ks:List Int),∀x∈ks.map (D.int k),x.scalar=true:=fun k ks x H=>by
  obtain⟨n,_,rfl⟩:=bQ.1 H;rfl
 have ap:∀{x y:ai},(∀z∈x,z.scalar=true)->(∀z∈y,z.scalar=true)->∀z∈x++y,z.scalar=true:=fun h k z hz=>(bf.1 hz).elim (h z) (k z);cases a<;>cases b<;>simp only[Row.app]<;>first|trivial|skip
 . split<;>trivial
 . split
   . rename_i l hl;exact ap (nD hl) k
   . trivial
 . split<;>trivial
 . split<;>trivial
 . exact ap (hi _ _) k
 . split
   . rename_i l hl;exact ap h (nD hl)
   . trivial
 . exact ap h (hi _ _)
 . exact ap h k
section
variable{o size:Nat}{r r':Row}
theorem Row.Nv(h:r.cut o size=some r')(k:r.sc):r'.sc:=by
 cases r with
 |vs T=>simp only[Row.cut]at h;split at h<;>first|(cases h;trivial)|cases h
 |is k ks=>simp only[Row.cut]at h;split at h<;>first|(cases h;trivial)|cases h
 |ds T=>
  simp only[Row.cut]at h;split at h
  . cases h;exact fun x H=>k x (List.mem_of_mem_drop (cB H))
  . cases h
theorem Row.EB(h:r.cut o size=some r'):Eng.cut r.jJ o size=some r'.jJ:=by
 cases r with
 |vs T=>
  simp only[Row.cut]at h;split at h
  . rename_i q;obtain rfl:=eB h;exact q
  . cases h
 |is k ks=>
  simp only[Row.cut]at h;split at h
  . rename_i q;obtain rfl:=eB h;simp only[Eng.cut,Row.jJ,bI,aE q,dc,List.map_drop]
  . cases h
 |ds T=>
  simp only[Row.cut]at h;split at h
  . rename_i q;obtain rfl:=eB h;simp only[Eng.cut,Row.jJ,D.ga,bI,aE q,dc,List.map_drop]
  . cases h
theorem Row.Nw(h:r.flat=true)(k:r.sc):r.jJ.all V.scalar=true:=by
 cases r with
 |vs T=>exact h
 |is k ks=>simp[Row.jJ,V.scalar]
 |ds T=>exact zR k
end
section
variable{E:Env}{w:World}{b s:Nat}{o:O}{r:Row}
theorem Gp(h:o.row=some r)(q:nA E w b s o):(∃c el fz,w.heap[b]? =some (.cells c el fz)/\c.size=E.β b/\mL fz c.size/\lP E s r.jJ c)/\r.sc:=by
 cases o<;>simp only[O.row,aq,reduceCtorEq]at h<;>subst h
 . exact⟨q,trivial⟩
 . exact⟨q,trivial⟩
 . obtain⟨c,el,fz,vs,Q,R,h3,h4,h5⟩:=q;exact⟨⟨c,el,fz,Q,R,h3,(nC (iY h4)).2 ⟨vs,h4,h5⟩⟩,iY h4⟩
theorem LJ(h:o.LG=some r)(q:nA E w b s o):(∃c el fz,w.heap[b]? =some (.cells c el fz)/\c.size=E.β b/\lP E s r.jJ c)/\r.sc:=by
 cases o<;>simp only[O.LG,aq,reduceCtorEq]at h<;>subst h
 . obtain⟨c,el,fz,Q,R,_,h4⟩:=q;exact⟨⟨c,el,fz,Q,R,h4⟩,trivial⟩
 . obtain⟨c,el,fz,Q,R,h3⟩:=q;exact⟨⟨c,el,fz,Q,R,nB.2 h3⟩,trivial⟩
 . obtain⟨c,el,fz,Q,R,_,h4⟩:=q;exact⟨⟨c,el,fz,Q,R,h4⟩,trivial⟩
 . obtain⟨c,el,fz,vs,Q,R,h3,h4,h5⟩:=q;exact⟨⟨c,el,fz,Q,R,(nC (iY h4)).2 ⟨vs,h4,h5⟩⟩,iY h4⟩
theorem xq(q:∃c el fz,w.heap[b]? =some (.cells c el fz)/\c.size=E.β b/\mL fz c.size/\lP E s r.jJ c)(k:r.sc):nA E w b s r.DE:=by
 cases r with
 |ds T=>
  obtain⟨c,el,fz,Q,R,h3,h4⟩:=q;obtain⟨vs,h5,h6⟩:=(nC k).1 h4;exact⟨c,el,fz,vs,Q,R,h3,h5,h6⟩
 |_=>exact q
end
theorem Nx{o:O}{r:Row}(h:o.row=some r):o.wr=true:=by cases o<;>simp[O.row]at h<;>rfl
def eL(h:I O)(m:Nat):Prop:=∃o,h.get m=some o/\o.wr=true
section
variable{h:I O}{n m:Nat}{x:Option O}
theorem Ny{h':I O}{m n:Nat}(e:h.get m=h'.get n)(k:eL h m):eL h' n:=by obtain⟨o,a,b⟩:=k;exact⟨o,e.symm.trans a,b⟩
theorem ru(hn:n<fV):eL (h.set n x) m->(m=n/\∃o,x=some o/\o.wr=true)\/(m≠n/\eL h m):=by
 rintro⟨o,e,k⟩;rw[I.fF _ _ _ hn]at e;split at e
 . rename_i q;exact .inl ⟨q,o,e,k⟩
 . rename_i q;exact .inr ⟨q,o,e,k⟩
theorem pA(hn:n<fV)(k:eL (h.set n x) m)(q:m≠n):eL h m:=
 (ru hn k).elim (fun c=>absurd c.1 q) (·.2)
theorem eL.live(k:eL h m):h.get m≠none:=by obtain⟨o,e,_⟩:=k;rw[e];simp
end
structure Good(E:Env)(h:I O)(w:World):Prop where
 rel:∀m o,h.get m=some o->∃b s,E.ι m=some (b,s)/\nA E w b s o
 inj:∀m m' b s A,m≠m'->eL h m->h.get m'≠none->E.ι m=some (b,s)->E.ι m'=some (b,A)->False
 oy:∀m b s,E.ι m=some (b,s)->b<w.heap.size
 kg:GE E
 iu:∀b c,E.φ b=some c->(∃el fz,w.heap[b]? =some (.cells c el fz))/\∀m s,eL h m->E.ι m≠some (b,s)
structure iL(E:Env)(h:I O)(w:World)(E':Env)(h':I O)(w':World):Prop where
 le:E.le E'
 good:Good E' h' w'
 size:w.heap.size<=w'.heap.size
 tape:w'.tape=w.tape
 os:w'.os=w.os
 output:w'.output=w.output
 keep:∀b,b<w.heap.size->(∀m s,eL h m->E.ι m≠some (b,s))->w'.heap[b]? =w.heap[b]?
 tv:∀m b s,h'.get m≠none->E'.ι m=some (b,s)->b<w.heap.size->∃m0 s0,h.get m0≠none/\E.ι m0=some (b,s0)/\(eL h' m->eL h m0)
 C8:∀b c,E'.φ b=some c->E.φ b=some c\/w.heap.size<=b\/∃m s,eL h m/\E.ι m=some (b,s)
theorem iL.refl{E:Env}{h:I O}{w:World}(g:Good E h w):iL E h w E h w:=
 ⟨E.le_refl,g,aK _,rfl,rfl,rfl,fun _ _ _=>rfl,fun m _ s S e _=>⟨m,s,S,e,id⟩,fun _ _ q=>.inl q⟩
theorem iL.trans{E E1 E2:Env}{h Q R:I O}{w w1 w2:World}(a:iL E h w E1 Q w1)(b:iL E1 Q w1 E2 R w2):iL E h w E2 R w2 where
 le:=Env.le_trans a.le b.le
 good:=b.good
 size:=bC a.size b.size
 tape:=b.tape.trans a.tape
 os:=b.os.trans a.os
 output:=b.output.trans a.output
 keep:=fun x H hn=>by
  rw[b.keep x (bM H a.size) ?_,a.keep x H hn];intro m s S e;obtain⟨m0,s0,h0,e0,k0⟩:=a.tv m x s S.live e H;exact hn m0 s0 (k0 S) e0
 tv:=fun m x s S e H=>by
  obtain⟨m1,s1,ot,e1,k1⟩:=b.tv m x s S e (bM H a.size);obtain⟨m2,s2,R,e2,k2⟩:=a.tv m1 x s1 ot e1 H;exact⟨m2,s2,R,e2,fun q=>k2 (k1 q)⟩
 C8:=fun x c K=>by
  rcases b.C8 x c K with q|q|⟨m,s,q1,q2⟩
  . exact a.C8 x c q
  . exact .inr (.inl (bC a.size q))
  . rcases br x w.heap.size with H|H
    . obtain⟨m0,s0,_,e0,k0⟩:=a.tv m x s q1.live q2 H;exact .inr (.inr ⟨m0,s0,k0 q1,e0⟩)
    . exact .inr (.inl H)
theorem Good.same{E:Env}{h:I O}{w w':World}(g:Good E h w)(e:w'.heap=w.heap):Good E h w' where
 rel:=fun m o S=>let⟨b,s,Q,R⟩:=g.rel m o S;⟨b,s,Q,jd E.le_refl rfl (by rw[e]) R⟩
 inj:=g.inj
 oy:=fun m b s h=>by rw[e];exact g.oy m b s h
 kg:=g.kg
 iu:=fun b c q=>⟨by rw[e];exact(g.iu b c q).1,(g.iu b c q).2⟩
theorem iL.drew{E:Env}{h:I O}{w:World}(g:Good E h w):iL E h w E h w.drew:=
 ⟨E.le_refl,g.same rfl,aK _,rfl,rfl,rfl,fun _ _ _=>rfl,fun m _ s S e _=>⟨m,s,S,e,id⟩,fun _ _ q=>.inl q⟩
def Env.put(E:Env)(n b s z:Nat):Env:={ ι:=fun m=>if m=n then some (b,s)else E.ι m,β:=fun x=>if x=b then z else E.β x,φ:=E.φ }
section
variable{E:Env}{w:World}{n:Nat}{o:Obj}{b s z:Nat}
theorem Env.fM:(E.put n b s z).ι n=some (b,s):=by simp[Env.put]
theorem Env.gQ{m:Nat}(h:m≠n):(E.put n b s z).ι m=E.ι m:=by simp[Env.put,h]
theorem Env.uh(hn:E.ι n=none)(hb:∀m x t,E.ι m=some (x,t)->x=b->E.β b=z):E.le (E.put n b s z):=by
 refine⟨?_,fun _ _ h=>h⟩;intro m x t e;have:m≠n:=by intro h;rw[h,hn]at e;simp at e
 refine⟨by rw[Env.gQ this];exact e,?_⟩;show(if x=b then z else E.β x)=E.β x;split
 . rename_i h;rw[<- hb m x t e h,h]
 . rfl
theorem qI(h:b<w.heap.size):(w.alloc o).heap[b]? =w.heap[b]?:=by
 simp only[World.alloc,Array.getElem?_push];rw[aB G]
theorem heap_alloc_new:(w.alloc o).heap[w.heap.size]? =some o:=by
 simp only[World.alloc,Array.getElem?_push,if_true]
end
def jN:Obj->Nat
 | .cells c _ _=>c.size
 |_=>0
theorem iL.alloc{E:Env}{h:I O}{w:World}{n:Nat}{o:O}{ob:Obj}(g:Good E h w)(hn:E.ι n=none)(ht:n<fV)
  (ho:nA (E.put n w.heap.size 0 (jN ob)) (w.alloc ob) w.heap.size 0 o):
  iL E h w (E.put n w.heap.size 0 (jN ob)) (h.set n (some o)) (w.alloc ob):=by
 have yM:∀m b s,E.ι m=some (b,s)->b≠w.heap.size:=fun m b s e hb=>by have:=g.oy m b s e;omega
 have lj:E.le (E.put n w.heap.size 0 (jN ob)):=Env.uh hn fun m x t e H=>absurd H (yM m x t e);have C9:∀b c,E.φ b=some c->b<w.heap.size:=fun b c q=>by
  obtain⟨⟨el,fz,e⟩,_⟩:=g.iu b c q;exact(aT.1 e).1
 refine⟨lj,⟨?_,?_,?_,g.kg.mono lj,fun b c q=>⟨by rw[qI (C9 b c q)];exact(g.iu b c q).1,fun m s S e=>?_⟩⟩,by simp,rfl,rfl,rfl,fun b hb _=>qI hb,?_,fun _ _ q=>.inl q⟩
 case refine_4=>
  by_cases a:m=n
  . subst a;rw[Env.fM]at e;cases e;exact absurd (C9 _ c q) (cZ _)
  . rw[Env.gQ a]at e;exact(g.iu b c q).2 m s (pA ht S a) e
 . intro m o' S;rw[I.fF _ _ _ ht]at S;by_cases e:m=n
   . subst e;rw[aE rfl]at S;cases S;exact⟨_,_,Env.fM,ho⟩
   . rw[aB e]at S;obtain⟨b,s,Q,R⟩:=g.rel m o' S;exact⟨b,s,by rw[Env.gQ e];exact Q,jd lj (lj.nm m b s Q).2 (qI (g.oy m b s Q)) R⟩
 . intro m m' b s A ja S qe e e';rw[I.fF _ _ _ ht]at qe;by_cases a:m=n
   . subst a;rw[Env.fM]at e;have:m'≠m:=fun x=>ja x.symm;rw[Env.gQ this]at e';cases e;exact yM _ _ _ e' rfl
   . rw[Env.gQ a]at e;replace S:eL h m:=pA ht S a;by_cases a':m'=n
     . subst a';rw[Env.fM]at e';cases e';exact yM _ _ _ e rfl
     . rw[Env.gQ a']at e';rw[aB a']at qe;exact g.inj m m' b s A ja S qe e e'
 . intro m b s e;by_cases a:m=n
   . subst a;rw[Env.fM]at e;cases e;simp
   . rw[Env.gQ a]at e;have:=g.oy m b s e;simp;omega
 . intro m b s S e hb;by_cases a:m=n
   . subst a;rw[Env.fM]at e;cases e;omega
   . rw[Env.gQ a]at e;rw[I.fF _ _ _ ht,aB a]at S;exact⟨m,s,S,e,fun q=>pA ht q a⟩
section
variable{E:Env}{h h':I O}{w w':World}{m b s:Nat}{o:O}
theorem iL.write(g:Good E h w)(ht:m<fV)(iP:eL h m)(S:E.ι m=some (b,s))
  (DI:w'.heap.size=w.heap.size) (Gq:w'.tape=w.tape) (ZP:w'.os=w.os) (yN:w'.output=w.output)
  (pC:∀x,x≠b->w'.heap[x]? =w.heap[x]?) (ho:nA E w' b s o):iL E h w E (h.set m (some o)) w':=by
 refine⟨E.le_refl,⟨?_,?_,?_,g.kg,fun b' c q=>⟨?_,fun k t Y e=>?_⟩⟩,G,Gq,ZP,yN,?_,?_,fun _ _ q=>.inl q⟩
 case refine_4=>rw[pC b' fun e=>(g.iu b' c q).2 m s iP (e▸S)];exact(g.iu b' c q).1
 case refine_5=>
  rcases ru ht Y with⟨a,_⟩|a
  . exact(g.iu b' c q).2 m t iP (a▸e)
  . exact(g.iu b' c q).2 k t a.2 e
 . intro k o' Y;rw[I.fF _ _ _ ht]at Y;by_cases e:k=m
   . subst e;rw[aE rfl]at Y;cases Y;exact⟨b,s,S,ho⟩
   . rw[aB e]at Y;obtain⟨b',A,Q,R⟩:=g.rel k o' Y;have ja:b'≠b:=by
      intro hb;subst hb;exact g.inj m k b' s A (fun q=>e q.symm) iP (by rw[Y];simp) S Q
     exact⟨b',A,Q,jd E.le_refl rfl (pC b' ja) R⟩
 . intro k k' x t t' ja Y oG e e';refine g.inj k k' x t t' ja ?_ ?_ e e'
   . rcases ru ht Y with⟨q,_⟩|q
     . rw[q];exact iP
     . exact q.2
   . rw[I.fF _ _ _ ht]at oG;split at oG
     . rename_i q;rw[q];exact iP.live
     . exact oG
 . intro k x t e;rw[DI];exact g.oy k x t e
 . intro x _ hn;refine pC x ?_;intro H;subst H;exact hn m s iP S
 . intro k x t Y e _;by_cases q:k=m
   . subst q;exact⟨k,t,iP.live,e,fun _=>iP⟩
   . rw[I.fF _ _ _ ht,aB q]at Y;exact⟨k,t,Y,e,fun c=>pA ht c q⟩
theorem iL.move{n b s A:Nat}{o:O}(g:Good E h w)(ht:m<fV)(hn:n<fV)(qJ:E.ι n=none)(iP:eL h m)(S:E.ι m=some (b,s))
  (DI:w'.heap.size=w.heap.size) (Gq:w'.tape=w.tape) (ZP:w'.os=w.os) (yN:w'.output=w.output)
  (pC:∀x,x≠b->w'.heap[x]? =w.heap[x]?) (ho:nA (E.put n b A (E.β b)) w' b A o):
  iL E h w (E.put n b A (E.β b)) ((h.set m none).set n (some o)) w':=by
 have Ru:m≠n:=by intro e;rw[e,qJ]at S;simp at S
 have lj:E.le (E.put n b A (E.β b)):=Env.uh qJ fun _ _ _ _ _=>rfl;have lq:∀k,((h.set m none).set n (some o)).get k=if k=n then some o else if k=m then none else h.get k:=by
  intro k;rw[I.fF _ _ _ hn];split
  . rfl
  . rw[I.fF _ _ _ ht]
 have LK:∀k,eL ((h.set m none).set n (some o)) k->k=n\/(k≠n/\k≠m/\eL h k):=by
  intro k q;rcases ru hn q with q|q
  . exact .inl q.1
  . rcases ru ht q.2 with c|c
    . obtain⟨_,_,c,_⟩:=c;cases c
    . exact .inr ⟨q.1,c.1,c.2⟩
 refine⟨lj,⟨?_,?_,?_,g.kg.mono lj,fun b2 c q=>⟨?_,fun k t Y e=>?_⟩⟩,G,Gq,ZP,yN,?_,?_,fun _ _ q=>.inl q⟩
 case refine_4=>rw[pC b2 fun e=>(g.iu b2 c q).2 m s iP (e▸S)];exact(g.iu b2 c q).1
 case refine_5=>
  rcases LK k Y with a|⟨a,_,a2⟩
  . subst a;rw[Env.fM]at e;cases e;exact(g.iu _ c q).2 m s iP S
  . rw[Env.gQ a]at e;exact(g.iu b2 c q).2 k t a2 e
 . intro k o' Y;rw[lq]at Y;by_cases e:k=n
   . subst e;rw[aE rfl]at Y;cases Y;exact⟨_,_,Env.fM,ho⟩
   . rw[aB e]at Y;by_cases e2:k=m
     . rw[aE e2]at Y;cases Y
     . rw[aB e2]at Y;obtain⟨b',t,Q,R⟩:=g.rel k o' Y;have ja:b'≠b:=by
        intro hb;subst hb;exact g.inj m k b' s t (fun q=>e2 q.symm) iP (by rw[Y];simp) S Q
       exact⟨b',t,by rw[Env.gQ e];exact Q,jd lj (lj.nm k b' t Q).2 (pC b' ja) R⟩
 . intro k k' x t t' ja Y oG e e';rw[lq]at oG;rcases LK k Y with a|⟨a,c,IJ⟩
   . subst a;rw[Env.fM]at e;cases e;have a':k'≠k:=fun q=>ja q.symm;rw[Env.gQ a']at e';rw[aB a']at oG;by_cases c:k'=m
     . rw[aE c]at oG;exact oG rfl
     . rw[aB c]at oG;exact g.inj m k' b s t' (fun q=>c q.symm) iP oG S e'
   . rw[Env.gQ a]at e;by_cases a':k'=n
     . subst a';rw[Env.fM]at e';cases e';exact g.inj m k b s t (fun q=>c q.symm) iP IJ.live S e
     . rw[Env.gQ a']at e';rw[aB a']at oG;by_cases c':k'=m
       . rw[aE c']at oG;exact oG rfl
       . rw[aB c']at oG;exact g.inj k k' x t t' ja IJ oG e e'
 . intro k x t e;by_cases a:k=n
   . subst a;rw[Env.fM]at e;cases e;rw[DI];exact g.oy m b s S
   . rw[Env.gQ a]at e;rw[DI];exact g.oy k x t e
 . intro x _ H;refine pC x ?_;intro q;subst q;exact H m s iP S
 . intro k x t Y e _;rw[lq]at Y;by_cases a:k=n
   . subst a;rw[Env.fM]at e;cases e;exact⟨m,s,iP.live,S,fun _=>iP⟩
   . rw[Env.gQ a]at e;rw[aB a]at Y;by_cases c:k=m
     . rw[aE c]at Y;exact absurd rfl Y
     . rw[aB c]at Y;exact⟨k,t,Y,e,fun q=>(LK k q).elim (fun c=>absurd c a) (·.2.2)⟩
theorem pD(hs:∀m o,h'.get m=some o->h.get m=some o){m:Nat}(k:h'.get m≠none):h.get m≠none:=by
 cases q:h'.get m with
 |none=>exact absurd q k
 |some o=>rw[hs m o q];simp
theorem gY(hs:∀m o,h'.get m=some o->h.get m=some o){m:Nat}(k:eL h' m):eL h m:=by
 obtain⟨o,a,b⟩:=k;exact⟨o,hs m o a,b⟩
theorem Good.sub(g:Good E h w)(hs:∀m o,h'.get m=some o->h.get m=some o):Good E h' w where
 rel:=fun m o S=>g.rel m o (hs m o S)
 inj:=fun m m' b s A ja S qe e e'=>g.inj m m' b s A ja (gY hs S) (pD hs qe) e e'
 oy:=g.oy
 kg:=g.kg
 iu:=fun b c q=>⟨(g.iu b c q).1,fun m s S=>(g.iu b c q).2 m s (gY hs S)⟩
theorem iL.forget(g:Good E h w)(ht:m<fV):iL E h w E (h.set m none) w:=by
 have hs:∀k o,(h.set m none).get k=some o->h.get k=some o:=by
  intro k o Y;rw[I.fF _ _ _ ht]at Y;split at Y
  . cases Y
  . exact Y
 exact⟨E.le_refl,g.sub hs,aK _,rfl,rfl,rfl,fun _ _ _=>rfl,fun k b s Y e _=>⟨k,s,pD hs Y,e,gY hs⟩,fun _ _ q=>.inl q⟩
theorem Addr.iV(b o n:Nat):(⟨b,o,none⟩:Addr).add n=⟨b,o+n,none⟩:=by
 unfold Addr.add;split
 . rename_i h;subst h;rfl
 . rfl
theorem mM{i:Nat}{c:Array Value}{el:TypeId}{fz:Nat×Nat}(h:w.heap[b]? =some (.cells c el fz)):w.cell? ⟨b,i,none⟩=c[i]?:=by
 simp[World.cell?,h]
end
theorem run_loadCellsFrom{P:Program}{w:World}{b o:Nat}{c:Array Value}{el:TypeId}{fz:Nat×Nat}(h:w.heap[b]? =some (.cells c el fz)):
  ∀(n i:Nat) (DG:Array Value),o+i+n<=c.size->(loadCellsFrom ⟨b,o,none⟩ i n DG).run P w= .ok (DG++((c.toList.drop (o+i)).take n).toArray) w
 |0,i,DG,_=>by simp[loadCellsFrom]
 |n+1,i,DG,hn=>by
  have eM:o+i<c.size:=by omega
  simp only[loadCellsFrom,Sem.run_bind,run_load,Addr.iV,mM h];rw[aZ eM];simp only[Result.andThen_ok];rw[run_loadCellsFrom h n (i+1) _ G];congr 1;have hd:c.toList.drop (o+i)=c[o+i]::c.toList.drop (o+(i+1)):=by
   rw[bY (by simpa using eM)];simp[Nat.add_assoc]
  rw[hd];simp
theorem run_loadCells{P:Program}{w:World}{b o n:Nat}{c:Array Value}{el:TypeId}{fz:Nat×Nat}(h:w.heap[b]? =some (.cells c el fz))(hn:o+n<=c.size):
  (loadCells ⟨b,o,none⟩ n).run P w= .ok ((c.toList.drop o).take n).toArray w:=by
 unfold loadCells;rw[run_loadCellsFrom h n 0 #[] G];simp
def putCells(c:Array Value)(o:Nat)(vs:List Value):Array Value:=(c.toList.take o++(vs++c.toList.drop (o+vs.length))).toArray
section
variable{c:Array Value}{o:Nat}{vs:List Value}
theorem jz(h:o+vs.length<=c.size):(putCells c o vs).size=c.size:=by
 simp[putCells];omega
theorem mN(h:o+vs.length<=c.size)(j:Nat):
  (putCells c o vs)[j]? =if o<=j/\j<o+vs.length then vs[j-o]? else c[j]?:=by
 simp only[putCells,List.getElem?_toArray];rw[List.getElem?_append];have hl:(List.take o c.toList).length=o:=by simp;omega
 rw[hl];by_cases Q:j<o
 . rw[aE Q,aB G,bN,aE Q];simp
 . rw[aB Q,List.getElem?_append];by_cases R:j<o+vs.length
   . rw[aE G,aE G]
   . rw[aB G,aB G,bO];simp;congr 1;omega
theorem qK{v:Value}{vs:List Value}(h:o+(vs.length+1)<=c.size):
  putCells (c.setIfInBounds o v) (o+1) vs=putCells c o (v::vs):=by
 have e1:o+1+vs.length<=(c.setIfInBounds o v).size:=by simp;omega
 have e2:o+(v::vs).length<=c.size:=by simpa using h
 apply Array.ext
 . rw[jz e1,jz e2];simp
 . intro j Q R;have:(putCells (c.setIfInBounds o v) (o+1) vs)[j]? =(putCells c o (v::vs))[j]?:=by
    rw[mN e1,mN e2];by_cases a:j=o
    . subst a;rw[aB G,aE (by simp)];have hj:j<c.size:=by omega
      simp[hj]
    . by_cases b:o+1<=j/\j<o+1+vs.length
      . rw[aE b,aE (by simp;omega)];have:j-o=(j-(o+1))+1:=by omega
        rw[this];simp
      . rw[aB b,aB (by simp;omega)];rw[Array.getElem?_setIfInBounds];rw[aB (fun q=>a q.symm)]
   rw[aZ Q,aZ R]at this;exact de this
end
theorem mO{P:Program}{b o:Nat}{el:TypeId}{fz:Nat×Nat}:∀(vs:List Value) (i:Nat) (w:World) (c:Array Value),w.heap[b]? =some (.cells c el fz)->
  mL fz c.size->(∀v∈vs,v.oneCell'=true)->o+i+vs.length<=c.size->
  ∃w',(storeCells ⟨b,o,none⟩ vs i).run P w= .ok () w'/\w'.heap[b]? =some (.cells (putCells c (o+i) vs) el fz)/\w'.heap.size=w.heap.size/\w'.tape=w.tape/\w'.os=w.os/\w'.output=w.output/\
   ∀x,x≠b->w'.heap[x]? =w.heap[x]?
 | [],i,w,c,h,_,_,hn=>by
   refine⟨w,rfl,?_,rfl,rfl,rfl,rfl,fun _ _=>rfl⟩;rw[h];have:putCells c (o+i) []=c:=by simp[putCells]
   rw[this]
 |v::vs,i,w,c,h,hf,hv,hn=>by
  simp only[aR]at hn;have eM:o+i<c.size:=by omega
  have hnf:w.frozen? ⟨b,o+i,none⟩=false:=by
   have:=hf (o+i) eM;simp only[World.frozen?,h];simpa using this
  let w1:=w.setCell ⟨b,o+i,none⟩ v
  have IK:w1.heap[b]? =some (.cells (c.setIfInBounds (o+i) v) el fz):=by
   simp[w1,World.setCell,cP,h]
  obtain⟨w',e1,e2,e3,e4,e5,e6,e7⟩:=mO (P:=P) (o:=o) vs (i+1) w1 (c.setIfInBounds (o+i) v) IK (by simpa using hf) (fun v ZQ=>hv v (by simp[ZQ])) (by simp only[Array.size_setIfInBounds];omega);refine⟨w',?_,?_,by rw[e3];simp[w1],by rw[e4];rfl,by rw[e5];rfl,by rw[e6];rfl,?_⟩
  . simp only[storeCells,Sem.run_bind];rw[run_store P w _ v .plain (hv v (by simp)),Addr.iV,mM h,aZ eM];simp only[hnf,aM,cr,Result.andThen_ok];exact e1
  . rw[e2];have:o+(i+1)=o+i+1:=by omega
    rw[this,qK G]
  . intro x H;rw[e7 x H];simp[w1,World.setCell,cP,Ne.symm H]
theorem sA{E:Env}:∀{v:Value} {x:V},iI v=some x->dQ E x v:=by
 intro v x h;cases v with
 |bool b=>simp only[iI,aq]at h;subst h;rfl
 |int k n=>simp only[iI,aq]at h;subst h;rfl
 |string s=>
  simp only[iI,aq]at h;subst h;show Value.string s= .string ⟨s.data.toList.toArray⟩;rw[Array.toArray_toList]
 |pointer a=>cases a<;>simp only[iI,aq]at h;. subst h;rfl
             . cases h
 |slice a l c=>
  cases a with
  |none=>match l,c,h with
   |0,0,h=>simp only[iI,aq]at h;subst h;exact⟨rfl,rfl,rfl⟩
  |some a=>simp[iI]at h
 |map a=>cases a<;>simp only[iI,aq]at h;. subst h;rfl
         . cases h
 |nilFunc=>simp only[iI,aq]at h;subst h;rfl
 |nilIface=>simp only[iI,aq]at h;subst h;rfl
 |_=>simp[iI]at h
theorem vE{E:Env}:∀{vs:List Value} {xs:ag},nt vs=some xs->dV E xs vs
 | [],xs,h=>by simp only[nt,aq]at h;subst h;rfl
 |v::vs,xs,h=>by
  simp only[nt]at h;cases Q:iI v with
  |none=>simp[Q]at h
  |some x=>cases R:nt vs with
   |none=>simp[Q,R]at h
   |some r=>simp only[Q,R,aq]at h;subst h;exact⟨v,vs,sA Q,vE R,rfl⟩
theorem yO{E:Env}{v:Value}{x:V}(h:KB v=some x):dQ E x v:=by
 unfold KB at h;split at h
 . rename_i T;cases Q:nt T.toList with
   |none=>simp[Q]at h
   |some r=>simp only[Q,aq]at h;subst h;exact⟨T.toList,vE Q,by simp⟩
 . exact sA h
section runs
variable{P:Program}{w:World}
section
variable{t:TypeId}
theorem dL{d:TypeDesc}(h:P.underlying t=some d):(underlying t).run P w= .ok d w:=by simp[underlying,h]
theorem fk{s:Nat}(h:kf P t=some s):(sizeOf t).run P w= .ok s w:=by
 unfold kf at h;cases hi:P.info? t with
 |none=>simp[hi]at h
 |some i=>simp[hi]at h;simp[sizeOf,typeInfo,hi,h]
theorem kT{z:V}(E:Env)(h:zeroOf P t=some z):∃z',(zeroValue t).run P w= .ok z' w/\dQ E z z'/\(∃i,P.info? t=some i/\i.zero=some z'):=by
 unfold zeroOf at h;cases hi:P.info? t with
 |none=>simp[hi]at h
 |some i=>
  simp only[hi]at h;cases hz:i.zero with
  |none=>simp[hz]at h
  |some v=>simp only[hz]at h;exact⟨v,by simp[zeroValue,typeInfo,hi,hz],yO h,i,rfl,hz⟩
theorem rz{b:Bool}(h:Gg P t=some b):(isAgg t).run P w= .ok b w:=by
 unfold Gg at h;split at h
 . rename_i hu;simp at h;subst h;simp[isAgg,dL hu]
 . rename_i hu;simp at h;subst h;simp[isAgg,dL hu]
 . rename_i d Q R hu;simp at h;subst h;simp only[isAgg,Sem.run_bind,dL hu,Result.andThen_ok]
   first|rfl|(split<;>first|rfl|(exact absurd rfl (Q _))|(exact absurd rfl (R _ _)))
 . cases h
end
end runs
def jI(P:Program)(E:Env)(h:I O)(n:Nat)(w:World)(s:Sem Next):h2->Prop
 | .val v h' n'=>∃E' w' v',(s.run P w= .ok (.value v') w'\/(s.run P w= .ok .skip w'/\v'=undef))/\dQ E' v v'/\iL E h w E' h' w'/\
    (∀m,m≠n->E'.ι m=E.ι m)/\((n'=n/\E'=E)\/n'=n+1)
 | .call f args=>∃dF,dV E args dF/\((s.run P w= .ok (.enter f dF.toArray) w/\callee P f=true)\/(∃m l b,f=P.funcs.size+m/\E.ι m=some (l,b)/\s.run P w=(Instr.yield l dF.toArray).run P w))
 | .tL f c args=>∃c' dF,s.run P w= .ok (.defer { target:=.fn (.func f) c'.toArray,args:=dF.toArray }) w/\dV E c c'/\dV E args dF
 | .recover=>s.run P w= .ok .recover w
 | .panic v=>∃v',s.run P w= .halt (.panic v') w/\dQ E v v'
theorem ee{P:Program}{E:Env}{h:I O}{n:Nat}{w:World}{s:Sem Next}{v:V}{v':Value}(g:Good E h w)
  (hr:s.run P w= .ok (.value v') w) (hv:dQ E v v'):jI P E h n w s (.val v h n):=
 ⟨E,w,v',.inl hr,hv,iL.refl g,fun _ _=>rfl,.inl ⟨rfl,rfl⟩⟩
theorem nU{E:Env}{T:ag}{c:Array Value}(r:dV E T c.toList):lP E 0 T c:=by
 intro i v h;obtain⟨v',Q,R⟩:=gD r i v h;exact⟨v',by simpa using Q,R⟩
theorem kG{h h':I O}{n n':Nat}{o:O}(e:newObj h n o=some (h',n')):n<fV/\h'=h.set n (some o)/\n'=n+1:=by
 unfold newObj at e;split at e
 . rename_i q;simp at e;exact⟨q,e.1.symm,e.2.symm⟩
 . cases e
theorem IL{P:Program}{E:Env}{h h':I O}{n n':Nat}{w w1:World}{s:Sem Next}{T:ag}{c:Array Value}{el:TypeId}{fz:Nat×Nat}{v:V}{v':Value}
  (g:Good E h w) (hn:E.ι n=none) (e:newObj h n (.cells T)=some (h',n')) (hw:w1.heap=w.heap) (ht:w1.tape=w.tape) (ho:w1.os=w.os) (yN:w1.output=w.output)
  (C9:mL fz c.size) (hr:s.run P w= .ok (.value v') (w1.alloc (.cells c el fz))) (K:lP E 0 T c)
  (hv:dQ (E.put n w.heap.size 0 c.size) v v'):jI P E h n w s (.val v h' n'):=by
 obtain⟨gF,rfl,rfl⟩:=kG e;have g1:Good E h w1:=g.same hw;have hs:w1.heap.size=w.heap.size:=by rw[hw]
 have lj:E.le (E.put n w1.heap.size 0 c.size):=Env.uh hn fun m x t q H=>by have:=g1.oy m x t q;omega
 have u1:iL E h w E h w1:=⟨E.le_refl,g1,G,ht,ho,yN,fun b _ _=>by rw[hw],fun m _ s S q _=>⟨m,s,S,q,id⟩,fun _ _ q=>.inl q⟩;have u:=iL.alloc (ob:=.cells c el fz) (o:=.cells T) g1 hn gF ⟨c,el,fz,heap_alloc_new,by simp[Env.put,jN],C9,oZ lj K⟩;refine⟨E.put n w1.heap.size 0 c.size,_,v',.inl hr,by rw[hs];exact hv,u1.trans u,fun m S=>Env.gQ S,.inr rfl⟩
theorem yP{P:Program}{E:Env}{h h':I O}{n n':Nat}{w w1:World}{s:Sem Next}{T:ag}{c:Array Value}{el:TypeId}{v:V}{v':Value}
  (g:Good E h w) (hn:E.ι n=none) (e:newObj h n (.cells T)=some (h',n')) (hw:w1.heap=w.heap) (ht:w1.tape=w.tape) (ho:w1.os=w.os) (yN:w1.output=w.output)
  (hr:s.run P w= .ok (.value v') (w1.alloc (.cells c el))) (K:lP E 0 T c)
  (hv:dQ (E.put n w.heap.size 0 c.size) v v'):jI P E h n w s (.val v h' n'):=
 IL g hn e hw ht ho yN (fun i _ q=>by simp at q) hr K hv
theorem Gr{P:Program}{E:Env}{h h':I O}{n n':Nat}{w w1:World}{s:Sem Next}{r:Row}{c:Array Value}{el:TypeId}{fz:Nat×Nat}{v:V}{v':Value}
  (g:Good E h w) (hn:E.ι n=none) (IF:r.sc) (e:newObj h n r.DE=some (h',n')) (hw:w1.heap=w.heap) (ht:w1.tape=w.tape) (ho:w1.os=w.os) (yN:w1.output=w.output)
  (C9:mL fz c.size) (hr:s.run P w= .ok (.value v') (w1.alloc (.cells c el fz))) (K:lP E 0 r.jJ c)
  (hv:dQ (E.put n w.heap.size 0 c.size) v v'):jI P E h n w s (.val v h' n'):=by
 obtain⟨gF,rfl,rfl⟩:=kG e;have g1:Good E h w1:=g.same hw;have hs:w1.heap.size=w.heap.size:=by rw[hw]
 have lj:E.le (E.put n w1.heap.size 0 c.size):=Env.uh hn fun m x t q H=>by have:=g1.oy m x t q;omega
 have u1:iL E h w E h w1:=⟨E.le_refl,g1,G,ht,ho,yN,fun b _ _=>by rw[hw],fun m _ s S q _=>⟨m,s,S,q,id⟩,fun _ _ q=>.inl q⟩;have u:=iL.alloc (ob:=.cells c el fz) (o:=r.DE) g1 hn gF (xq ⟨c,el,_,heap_alloc_new,by simp[Env.put,jN],C9,oZ lj K⟩ IF);refine⟨E.put n w1.heap.size 0 c.size,_,v',.inl hr,by rw[hs];exact hv,u1.trans u,fun m S=>Env.gQ S,.inr rfl⟩
theorem sB{P:Program}{E:Env}{h h':I O}{n n':Nat}{w w1:World}{s:Sem Next}{r:Row}{c:Array Value}{el:TypeId}{v:V}{v':Value}
  (g:Good E h w) (hn:E.ι n=none) (IF:r.sc) (e:newObj h n r.DE=some (h',n')) (hw:w1.heap=w.heap) (ht:w1.tape=w.tape) (ho:w1.os=w.os) (yN:w1.output=w.output)
  (hr:s.run P w= .ok (.value v') (w1.alloc (.cells c el))) (K:lP E 0 r.jJ c)
  (hv:dQ (E.put n w.heap.size 0 c.size) v v'):jI P E h n w s (.val v h' n'):=by
 obtain⟨gF,rfl,rfl⟩:=kG e;have g1:Good E h w1:=g.same hw;have hs:w1.heap.size=w.heap.size:=by rw[hw]
 have lj:E.le (E.put n w1.heap.size 0 c.size):=Env.uh hn fun m x t q H=>by have:=g1.oy m x t q;omega
 have u1:iL E h w E h w1:=⟨E.le_refl,g1,G,ht,ho,yN,fun b _ _=>by rw[hw],fun m _ s S q _=>⟨m,s,S,q,id⟩,fun _ _ q=>.inl q⟩;have u:=iL.alloc (ob:=.cells c el) (o:=r.DE) g1 hn gF (xq ⟨c,el,_,heap_alloc_new,by simp[Env.put,jN],(fun i _ q=>by simp at q),oZ lj K⟩ IF);refine⟨E.put n w1.heap.size 0 c.size,_,v',.inl hr,by rw[hs];exact hv,u1.trans u,fun m S=>Env.gQ S,.inr rfl⟩
theorem Ve{E:Env}{h:I O}{w:World}{n z:Nat}(g:Good E h w)(hn:E.ι n=none):E.le (E.put n w.heap.size 0 z):=
 Env.uh hn fun m x t q H=>by have:=g.oy m x t q;omega
section ops
variable{P:Program}{E:Env}{h:I O}{n:Nat}{w:World}
theorem EC(P:Program)(t:TypeId)(z:V):Bo P t z= .cells z.cells\/(z.cells=[.ptr none,.eS none 0 0 0]/\Bo P t z= .Az t false (.eS none 0 0 0)):=by
 unfold Bo;split
 . rename_i hz;split
   . split
     . split
       . split
         . exact .inr ⟨hz,rfl⟩
         . exact .inl rfl
       . exact .inl rfl
     . exact .inl rfl
   . exact .inl rfl
 . exact .inl rfl
section
variable{t:TypeId}{m s o:Nat}
theorem Nz{z:V}{h':I O}{n':Nat}(g:Good E h w)(hn:E.ι n=none)(hz:zeroOf P t=some z)(e:newObj h n (Bo P t z)=some (h',n')):
  jI P E h n w (do pure (.value (<- Instr.alloc t true (.tuple #[])))) (.val (.ptr (some (n,0))) h' n'):=by
 obtain⟨z',hr,hv,_⟩:=kT (w:=w) E hz;rcases EC P t z with q|⟨K,q⟩
 case inr=>
  rw[q]at e;obtain⟨gF,rfl,rfl⟩:=kG e;have qb:=iA hv;rw[K]at qb;obtain⟨p',_,r1,⟨x',_,r2,mP,rfl⟩,hl⟩:=qb;simp only[dV]at mP;subst mP;simp only[dQ]at r1;subst r1;have Y4:z'.cells=#[.pointer none,x']:=by apply Array.ext';rw[hl]
  have hu:=iL.alloc (ob:=.cells z'.cells t) (o:=.Az t false (.eS none 0 0 0)) g hn gF ⟨rfl,x',_,by rw[heap_alloc_new,Y4];rfl,by simp[Env.put,jN,Y4],(fun i _ q=>by simp at q),jc (Ve g hn) _ _ r2⟩;exact⟨_,_,.pointer (some ⟨w.heap.size,0,none⟩),.inl (by simp[Instr.alloc,hr,newVar,newRow]),⟨_,_,Env.fM,by simp⟩,hu,fun m S=>Env.gQ S,.inr rfl⟩
 rw[q]at e;refine yP (c:=z'.cells) (el:=t) (w1:=w) (v':=.pointer (some ⟨w.heap.size,0,none⟩)) g hn e rfl rfl rfl rfl ?_ (nU (iA hv)) ⟨_,_,Env.fM,by simp⟩;simp[Instr.alloc,hr,newVar,newRow]
theorem Vf{v:V}{v':Value}{h':I O}{n':Nat}(g:Good E h w)(hn:E.ι n=none)(hv:dQ E v v')(e:newObj h n (.cells v.cells)=some (h',n')):
  jI P E h n w (do pure (.value (<- Instr.box t v'))) (.val (.ptr (some (n,0))) h' n'):=by
 refine yP (c:=v'.cells) (el:=t) (w1:=w) (v':=.pointer (some ⟨w.heap.size,0,none⟩)) g hn e rfl rfl rfl rfl ?_ (nU (iA hv)) ⟨_,_,Env.fM,by simp⟩;simp[Instr.box,newVar,newRow]
theorem nE{T:ag}{c:Array Value}(r:lP E s T c){k:Nat}(Y:0<k)(K:k<=T.length):s+k<=c.size:=by
 obtain⟨v',Q,_⟩:=r (k-1) (T[k-1]'(by omega)) (au _);have:=(aT.1 Q).1;omega
theorem nF{T:ag}{c:Array Value}(r:lP E s T c){o k:Nat}(Y:o+k<=T.length)(h0:s+o+k<=c.size):
  dV E ((T.drop o).take k) ((c.toList.drop (s+o)).take k):=by
 refine iZ (by simp;omega) fun i v q=>?_;rw[bN]at q ⊢;split at q
 . rename_i hi;rw[aE hi];rw[bO]at q ⊢;obtain⟨v',Q,R⟩:=r (o+i) v q;exact⟨v',by rw[<- Q];simp[Nat.add_assoc],R⟩
 . cases q
theorem yQ{T:ag}{o k:Nat}{r:ag}(e:cut T o k=some r):o+k<=T.length/\r=(T.drop o).take k:=by
 unfold cut at e;split at e
 . rename_i q;simp at e;exact⟨q,e.symm⟩
 . cases e
theorem jq{b s o:Nat}{T:ag}{v:V}{c:Array Value}{el:TypeId}{fz:Nat×Nat}(hb:w.heap[b]? =some (.cells c el fz))(r:lP E s T c)
  (e:kJ P t T o=some v):∃v',(loadVar t ⟨b,s+o,none⟩).run P w= .ok v' w/\dQ E v v':=by
 unfold kJ at e;split at e
 . rename_i ha;cases hs:kf P t with
   |none=>simp[hs]at e
   |some k=>
    simp only[hs]at e;cases K:cut T o k with
    |none=>simp[K]at e
    |some x=>
     simp only[K,bu,aq]at e;subst e;obtain⟨Q,rfl⟩:=yQ K;by_cases Y:k=0
     . subst Y;refine⟨.agg #[],?_,[],by simp[dV],rfl⟩;simp[loadVar,rz ha,fk hs,loadCells,loadCellsFrom]
     . have h0:s+o+k<=c.size:=by have:=nE r (k:=o+k) G Q;omega
       refine⟨_,?_,_,nF r Q h0,rfl⟩;simp[loadVar,rz ha,fk hs,run_loadCells hb h0]
 . rename_i ha;obtain⟨v',Q,R⟩:=r o v e;refine⟨v',?_,R⟩;simp[loadVar,rz ha,mM hb,Q]
 . cases e
theorem NA{E:Env}{m b:Nat}{self:Bool}{x:V}{x':Value}(hi:E.ι m=some (b,0))(H:dQ E x x'):lP E 0 (tR m self x) #[.pointer (if self then some ⟨b,0,none⟩else none),x']:=by
 intro i v q
 match i with
 |0=>
  simp only[tR,cG,aq]at q;subst q;refine⟨_,rfl,?_⟩;cases self with
  |true=>exact⟨b,0,hi,rfl⟩
  |false=>rfl
 |1=>
  simp only[tR,List.getElem?_cons_succ,cG,aq]at q;subst q;exact⟨_,rfl,H⟩
 |i+2=>simp[tR]at q
theorem BB{t:TypeId}{a v:V}{a':Value}(g:Good E h w)(ha:dQ E a a')(e:loadAt P t h a=some v):
  ∃b s,a'= .pointer (some ⟨b,s,none⟩)/\∃v',(loadVar t ⟨b,s,none⟩).run P w= .ok v' w/\dQ E v v':=by
 unfold loadAt at e;split at e
 . rename_i m o;split at e
   . rename_i T S;obtain⟨b,s,hi,c,el,fz,hb,_,_,K⟩:=g.rel m _ S;obtain⟨b',A,jr,rfl⟩:=ha;rw[hi]at jr;cases jr;obtain⟨v',Q,R⟩:=jq hb K e;exact⟨b,s+o,rfl,v',Q,R⟩
   . rename_i k ks S;obtain⟨b,s,hi,c,el,fz,hb,_,K⟩:=g.rel m _ S;obtain⟨b',A,jr,rfl⟩:=ha;rw[hi]at jr;cases jr;obtain⟨v',Q,R⟩:=jq hb (nB.2 K) e;exact⟨b,s+o,rfl,v',Q,R⟩
   . rename_i k ks S;obtain⟨b,s,hi,c,el,fz,hb,_,_,K⟩:=g.rel m _ S;obtain⟨b',A,jr,rfl⟩:=ha;rw[hi]at jr;cases jr;obtain⟨v',Q,R⟩:=jq hb K e;exact⟨b,s+o,rfl,v',Q,R⟩
   . rename_i T S;obtain⟨b,s,hi,c,el,fz,vs,hb,_,_,hd,K⟩:=g.rel m _ S;obtain⟨b',A,jr,rfl⟩:=ha;rw[hi]at jr;cases jr;obtain⟨v',Q,R⟩:=jq hb ((nC (iY hd)).2 ⟨vs,hd,K⟩) e;exact⟨b,s+o,rfl,v',Q,R⟩
   . rename_i cs self x S;obtain⟨b,s,hi,hs,x',fz,hb,_,_,H⟩:=g.rel m _ S;obtain⟨b',A,jr,rfl⟩:=ha;rw[hi]at jr;cases jr;subst hs;obtain⟨v',Q,R⟩:=jq (E:=E) (s:=0) hb (NA hi H) e;exact⟨b,0+o,rfl,v',Q,R⟩
   . cases e
 . rename_i T;obtain⟨b,o,c,vs,rfl,hf,hd,K⟩:=ha;obtain⟨⟨el,fz,hb⟩,_⟩:=g.iu b c hf;obtain⟨v',Q,R⟩:=jq hb ((nC (iY hd)).2 ⟨vs,hd,K⟩) e;exact⟨b,o,rfl,v',Q,R⟩
 . cases e
theorem Rv{a v:V}{a':Value}(g:Good E h w)(ha:dQ E a a')(e:loadAt P t h a=some v):
  jI P E h n w (do pure (.value (<- Instr.loadAt t a'))) (.val v h n):=by
 obtain⟨b,s,rfl,v',Q,R⟩:=BB g ha e;exact ee g (by simp[Instr.loadAt,Instr.sureAddr,Q]) R
theorem yR{T new r:ag}{o:Nat}(e:Bn T o new=some r):o+new.length<=T.length/\r=T.take o++(new++T.drop (o+new.length)):=by
 unfold Bn at e;split at e
 . rename_i q;simp at e;exact⟨q,e.symm⟩
 . cases e
theorem IM{α:Type}{T new:List α}{o:Nat}(h:o+new.length<=T.length)(j:Nat):
  (T.take o++(new++T.drop (o+new.length)))[j]? =if o<=j/\j<o+new.length then new[j-o]? else T[j]?:=by
 rw[List.getElem?_append];have hl:(List.take o T).length=o:=by simp;omega
 rw[hl];by_cases Q:j<o
 . rw[aE Q,aB G,bN,aE Q]
 . rw[aB Q,List.getElem?_append];by_cases R:j<o+new.length
   . rw[aE G,aE G]
   . rw[aB G,aB G,bO];congr 1;omega
theorem Gs{T new:ag}{ki:List Value}{c:Array Value}(r:lP E s T c)(hn:dV E new ki)(ja:0<new.length)(h:o+new.length<=T.length):
  s+o+ki.length<=c.size/\lP E s (T.take o++(new++T.drop (o+new.length))) (putCells c (s+o) ki):=by
 have hl:=eP hn;have hb:s+o+ki.length<=c.size:=by have:=nE r (k:=o+new.length) G h;omega
 refine⟨hb,fun i v q=>?_⟩;rw[IM h]at q;rw[mN hb];split at q
 . rename_i hi;rw[aE G];obtain⟨v',Q,R⟩:=gD hn _ v q;exact⟨v',by rw[<- Q];congr 1;omega,R⟩
 . rename_i hi;rw[aB G];exact r i v q
theorem vX{b s:Nat}{ob:O}{r r':Row}{new:ag}{ki:List Value}(g:Good E h w)(gF:m<fV)(S:h.get m=some ob)(hr:ob.row=some r)(hi:E.ι m=some (b,s))
  (hn:dV E new ki) (ja:0<new.length) (IF:new.all V.scalar=true) (hl:o+new.length<=r.jJ.length) (IN:wk (r.jJ.take o++(new++r.jJ.drop (o+new.length))) r'.jJ) (Vg:r.sc->r'.sc):
  ∃w',(storeCells ⟨b,s+o,none⟩ ki).run P w= .ok () w'/\iL E h w E (h.set m (some r'.DE)) w':=by
 obtain⟨b',A,jr,q⟩:=g.rel m _ S;obtain⟨⟨c,el,fz,hb,hz,hf,K⟩,Vh⟩:=Gp hr q;rw[hi]at jr;cases jr;obtain⟨yS,DJ⟩:=Gs K hn ja hl;have IP:∀v∈ki,v.oneCell'=true:=by
  intro v hv;obtain⟨i,jr⟩:=List.getElem?_of_mem hv;have eM:i<new.length:=by rw[<- eP hn];exact(aO.1 jr).1
  obtain⟨v',Q,R⟩:=gD hn i new[i] (au eM);rw[jr]at Q;cases Q;exact ue R (by rw[bq]at IF;exact IF _ (bK eM))
 obtain⟨w',e1,e2,e3,e4,e5,e6,e7⟩:=mO (P:=P) (o:=s+o) ki 0 w c hb hf IP G;refine⟨w',e1,iL.write g gF ⟨_,S,Nx hr⟩ hi e3 e4 e5 e6 e7 ?_⟩;exact xq ⟨_,el,fz,e2,by rw[jz G];exact hz,by rw[jz G];exact hf,xp IN DJ⟩ (Vg Vh)
theorem LL{b s:Nat}{T new:ag}{ki:List Value}(g:Good E h w)(gF:m<fV)(S:h.get m=some (.cells T))(hi:E.ι m=some (b,s))
  (hn:dV E new ki) (ja:0<new.length) (IF:new.all V.scalar=true) (hl:o+new.length<=T.length):
  ∃w',(storeCells ⟨b,s+o,none⟩ ki).run P w= .ok () w'/\iL E h w E (h.set m (some (.cells (T.take o++(new++T.drop (o+new.length)))))) w':=
 vX (r':=.vs (T.take o++(new++T.drop (o+new.length)))) g gF S rfl hi hn ja IF hl (iO _) (fun _=>trivial)
theorem NB{a v:V}{a' v':Value}{h':I O}(g:Good E h w)(ha:dQ E a a')(hv:dQ E v v')(e:storeAt P t h v a=some h'):
  jI P E h n w (do Instr.storeAt t a' v';pure .skip) (.val (.gC []) h' n):=by
 unfold storeAt at e;split at e
 . rename_i m o;split at e
   . rename_i T S;split at e
     . rename_i s hs;split at e
       . rename_i hq;obtain⟨Q,R,h3,h4⟩:=hq;split at e
         . rename_i cs' Da;obtain rfl:=eB e;obtain⟨lj,rfl⟩:=yR Da;obtain⟨b,A,hi,rfl⟩:=ha;have nG:=iA hv;obtain⟨w',hr,hu⟩:=LL (P:=P) g h3 S hi nG G h4 lj;refine⟨E,w',undef,.inr ⟨?_,rfl⟩,⟨[],rfl,rfl⟩,hu,fun _ _=>rfl,.inl ⟨rfl,rfl⟩⟩;have mg:v'.cells.size=s:=by have:=eP nG;simp at this;omega
           simp[Instr.storeAt,Instr.sureAddr,storeVar,fk hs,mg,hr]
         . cases e
       . cases e
     . cases e
   . rename_i k ks S;split at e
     . rename_i s hs;split at e
       . rename_i hq;obtain⟨Q,R,h3⟩:=hq;split at e
         . rename_i new qJ;split at e
           . rename_i lj;obtain rfl:=eB e;have Vi:=rj qJ;have Ra:new.length=s:=by have:=aH List.length Vi;simp at this;omega
             obtain⟨b,A,hi,rfl⟩:=ha;have nG:=iA hv;obtain⟨w',hr,hu⟩:=vX (P:=P) (o:=o) (r':=.is k (AA ks o new)) g h3 S rfl hi nG G (by rw[Vi];simp[V.scalar]) (by rw[Vi];simp[Row.jJ];omega)
              (by rw[Vi];simp[Row.jJ,AA,bR,dc,List.map_drop];exact iO _) (fun _=>trivial)
             refine⟨E,w',undef,.inr ⟨?_,rfl⟩,⟨[],rfl,rfl⟩,hu,fun _ _=>rfl,.inl ⟨rfl,rfl⟩⟩;have mg:v'.cells.size=s:=by have:=eP nG;simp at this;omega
             simp[Instr.storeAt,Instr.sureAddr,storeVar,fk hs,mg,hr]
           . cases e
         . cases e
       . cases e
     . cases e
   . rename_i T S;split at e
     . rename_i s hs;split at e
       . rename_i hq;obtain⟨Q,R,h3⟩:=hq;split at e
         . rename_i new qJ;split at e
           . rename_i lj;obtain rfl:=eB e;have Ra:=ug qJ;obtain⟨b,A,hi,rfl⟩:=ha;have nG:=iA hv;have hcn:dV E (D.fN new) v'.cells.toList:=xo qJ E _ nG;have Rw:(D.fN new).length=s:=by rw[D.ga,bI];omega
             obtain⟨w',hr,hu⟩:=vX (P:=P) (o:=o) (r:=.ds T) (r':=.ds (tS T o new)) g h3 S rfl hi hcn G (zR (nD qJ)) (by simp only[Row.jJ,D.ga,bI];omega)
              (by simp[Row.jJ,tS,D.ga,bR,dc,List.map_drop];exact iO _)
              (fun hs x H=>by
               simp only[tS,bf]at H;rcases H with H|H|H
               . exact hs x (cB H)
               . exact nD qJ x H
               . exact hs x (List.mem_of_mem_drop H))
             refine⟨E,w',undef,.inr ⟨?_,rfl⟩,⟨[],rfl,rfl⟩,hu,fun _ _=>rfl,.inl ⟨rfl,rfl⟩⟩;have mg:v'.cells.size=s:=by have:=eP nG;simp at this;omega
             simp[Instr.storeAt,Instr.sureAddr,storeVar,fk hs,mg,hr]
           . cases e
         . cases e
       . cases e
     . cases e
   . rename_i cs self x0 S;split at e
     . rename_i x hs ND;split at e
       . rename_i hq;obtain⟨rfl,h3,h4⟩:=hq;obtain rfl:=eB e;obtain⟨b,A,hi,rfl⟩:=ha;obtain⟨b',s,jr,h0,x0',fz,hb,ou,hf,hx0⟩:=g.rel m _ S;rw[hi]at jr;cases jr;subst h0;have nG:=iA hv;rw[ND]at nG;obtain⟨x',_,r1,mP,hl⟩:=nG;simp only[dV]at mP;subst mP;have Vi:v'.cells=#[x']:=by apply Array.ext';rw[hl]
         obtain⟨w',e1,e2,e3,e4,e5,e6,e7⟩:=mO (P:=P) (o:=0+1) [x'] 0 w _ hb hf (fun y hy=>by rw[aG]at hy;subst hy;exact ue r1 h4) (by simp);refine⟨E,w',undef,.inr ⟨?_,rfl⟩,⟨[],rfl,rfl⟩,iL.write g h3 ⟨_,S,rfl⟩ hi e3 e4 e5 e6 e7 ⟨rfl,x',fz,?_,ou,hf,r1⟩,fun _ _=>rfl,.inl ⟨rfl,rfl⟩⟩
         . have mg:v'.cells.size=1:=by rw[Vi];rfl
           have e1':(storeCells ⟨b,1,none⟩ v'.cells.toList).run P w= .ok () w':=by rw[Vi];simpa using e1
           simp[Instr.storeAt,Instr.sureAddr,storeVar,fk hs,mg,e1']
         . rw[e2];rfl
       . cases e
     . cases e
   . cases e
 . cases e
end
end ops
def zT(E:Env):List (Nat×V)->List (Nat×Value)->Prop
 | [],l=>l=[]
 |x::xs,l=>∃y ys,y.1=x.1/\dQ E x.2 y.2/\zT E xs ys/\l=y::ys
theorem DK(off:Nat):∀(vs:List Value) (k:Nat) (c:Array Value),off+k+vs.length<=c.size->
  (vs.zipIdx k).foldl (fun T (x:Value×Nat)=>T.setIfInBounds (off+x.2) x.1) c=putCells c (off+k) vs
 | [],k,c,_=>by simp[putCells]
 |v::vs,k,c,h=>by
  simp only[aR]at h;simp only[List.zipIdx_cons,List.foldl_cons];rw[DK off vs (k+1) _ (by simp;omega)];have:off+(k+1)=off+k+1:=by omega
  rw[this,qK G]
theorem xu{E:Env}{xg:Nat->Option (Nat×Nat)}:∀(parts:List (Nat×V)) (nH:List (Nat×Value)) (cells:ag) (pc:Array Value) (r:ag),
  qZ xg cells parts=some r->dV E cells pc.toList->zT E parts nH->∃r',Instr.fill xg pc nH=some r'/\dV E r r'.toList
 | [],_,cells,pc,r,e,K,hp=>by
   simp only[zT]at hp;subst hp;simp only[qZ,aq]at e;subst e;exact⟨pc,rfl,K⟩
 |(i,v)::rest,_,cells,pc,r,e,K,hp=>by
  obtain⟨⟨i',v'⟩,ys,q1,hv,hr,rfl⟩:=hp;simp only at q1 hv;subst q1;simp only[qZ]at e;cases vp:xg i' with
  |none=>simp[vp]at e
  |some p=>
   obtain⟨off,size⟩:=p;simp only[vp]at e;split at e
   . rename_i mg;cases hs:Bn cells off v.cells with
     |none=>simp[hs]at e
     |some Vj=>
      simp only[hs]at e;obtain⟨lj,rfl⟩:=yR hs;have ND:=iA hv;have ED:=eP ND;have hlc:=eP K;simp only[Array.length_toList]at ED hlc;have qL:v'.cells.zipIdx.foldl (fun T (x:Value×Nat)=>T.setIfInBounds (off+x.2) x.1) pc=putCells pc off v'.cells.toList:=by
       rw[<- Array.foldl_toList,Array.toList_zipIdx];exact DK off v'.cells.toList 0 pc (by simp;omega)
      have afM:dV E (cells.take off++(v.cells++cells.drop (off+v.cells.length))) (putCells pc off v'.cells.toList).toList:=by
       simp only[putCells];refine iF (By K) (iF ND ?_);have:off+v'.cells.toList.length=off+v.cells.length:=by simp;omega
       rw[this];exact Bz K
      obtain⟨r',Q,R⟩:=xu rest ys _ _ r e afM hr;refine⟨r',?_,R⟩;simp only[Instr.fill,vp];rw[aB (by simp;omega)];rw[<- Q,<- qL]
   . cases e
theorem uj{P:Program}:∀(fs:List Field) (tT:List (Nat×Nat)),sg P fs=some tT->
  fs.mapM (fun f=>(P.info? f.type).map fun i=>(f.offset,i.size))=some tT
 | [],tT,h=>by simp[sg]at h;subst h;rfl
 |f::fs,tT,h=>by
  simp only[sg,kf]at h;cases hi:P.info? f.type with
  |none=>simp[hi]at h
  |some i=>
   simp only[hi,bu]at h;cases hr:sg P fs with
   |none=>simp[hr]at h
   |some r=>
    simp only[hr,aq]at h;subst h;simp[List.mapM_cons,hi,uj fs r hr]
theorem zU{z:ag}(hz:0<z.length):∀(n i:Nat),(gV z n)[i]? =if i<n*z.length then z[i%z.length]? else none
 |0,i=>by simp[gV]
 |n+1,i=>by
  simp only[gV,List.getElem?_append];by_cases h:i<z.length
  . rw[aE h,aE (by rw[cW];omega),Nat.mod_eq_of_lt h]
  . rw[aB h,zU hz n,cW,Nat.one_mul];have:(i-z.length)%z.length=i%z.length:=by rw[Nat.mod_eq_sub_mod (a:=i) G]
    rw[this];by_cases R:i-z.length<n*z.length
    . rw[aE R,aE G]
    . rw[aB R,aB G]
theorem pE{z:ag}:∀n,(gV z n).length=n*z.length
 |0=>by simp[gV]
 |n+1=>by simp[gV,pE n,cW];omega
theorem BC{E:Env}{z:ag}{z':Array Value}(hz:dV E z z'.toList)(h0:0<z.length)(n:Nat):
  dV E (gV z n) ((Array.range (n*z.length)).map (z'[·%z'.size]!)).toList:=by
 have hl:z'.size=z.length:=by have:=eP hz;simpa using this
 refine iZ (by simp[pE]) fun i v q=>?_;rw[zU h0]at q;split at q
 . rename_i hi;obtain⟨v',Q,R⟩:=gD hz _ v q;refine⟨v',?_,R⟩;have eM:i%z'.size<z'.size:=Nat.mod_lt _ G;rw[bJ]at Q;have ot:z'[i%z'.size]? =some v':=by rw[hl];exact Q
   rw[bJ,Array.getElem?_map];rw[Array.getElem?_range];rw[aE hi];simp only[bu];rw[getElem!_pos z' _ eM];rw[aZ eM]at ot;exact ot
 . cases q
theorem vY{s:Sem Value}{v:V}(e:si s=some v):∃v',s= .pure v'/\∀E,dQ E v v':=by
 cases s with
 |pure v'=>exact⟨v',rfl,fun E=>sA e⟩
 |_=>simp[si]at e
theorem kj:∀(a b:aa),lK a b=(a==b)
 | [],[]=>rfl
 | [],_::_=>rfl
 |_::_,[]=>rfl
 |a::x,b::y=>by
  simp only[lK];by_cases h:a=b
  . subst h;have:Nat.beq a.toNat a.toNat=true:=Nat.beq_refl _;rw[this];simp[kj x y]
  . have:Nat.beq a.toNat b.toNat=false:=by
     cases hh:Nat.beq a.toNat b.toNat with
     |false=>rfl
     |true=>exact absurd (UInt8.toNat_inj.1 (aA hh)) h
    rw[this];have hab:(a==b)=false:=by simpa using h
    simp[hab]
theorem rA(a b:aa):((⟨a.toArray⟩:ByteArray)==⟨b.toArray⟩)=lK a b:=by
 rw[kj,beq_toListBytes,ByteArray.toList_eq,ByteArray.toList_eq]
theorem sD(a b:aa):((⟨a.toArray⟩:ByteArray).toList==(⟨b.toArray⟩:ByteArray).toList)=lK a b:=by
 rw[<- rA,beq_toListBytes]
section ops
variable{P:Program}{E:Env}{h:I O}{n:Nat}{w:World}
theorem LM{t:TypeId}{parts:List (Nat×V)}{nH:Array (Nat×Value)}{v:V}(hp:zT E parts nH.toList)(e:Iz P t parts=some v):
  ∃v',(Instr.build t nH).run P w= .ok v' w/\dQ E v v':=by
 unfold Iz at e;split at e
 . rename_i z lJ hz hu;obtain⟨z',_,hv,i,hi,hiz⟩:=kT (w:=w) E hz;cases hs:sg P lJ.toList with
   |none=>simp[hs]at e
   |some tT=>
    simp only[hs]at e;cases hf:qZ (fun i=>tT[i]?) z.cells parts with
    |none=>simp[hf]at e
    |some T=>
     simp only[hf,bu,aq]at e;subst e;obtain⟨r',Q,R⟩:=xu parts nH.toList z.cells z'.cells T hf (iA hv) hp;refine⟨.agg r',run_build w t nH r' ?_,r'.toList,R,by simp⟩;simp only[Program.built,hi,hu,hiz,uj _ _ hs];simpa using Q
 . rename_i z m Rs hz hu;obtain⟨z',_,hv,i,hi,hiz⟩:=kT (w:=w) E hz;cases hs:kf P Rs with
   |none=>simp[hs]at e
   |some s=>
    simp only[hs]at e;cases hf:qZ (fun i=>some (i*s,s)) z.cells parts with
    |none=>simp[hf]at e
    |some T=>
     simp only[hf,bu,aq]at e;subst e;obtain⟨r',Q,R⟩:=xu parts nH.toList z.cells z'.cells T hf (iA hv) hp;refine⟨.agg r',run_build w t nH r' ?_,r'.toList,R,by simp⟩;unfold kf at hs;cases hie:P.info? Rs with
     |none=>simp[hie]at hs
     |some ie=>
      simp only[hie,bu,aq]at hs;simp only[Program.built,hi,hu,hiz,hie,hs];exact Q
 . cases e
theorem Db{t:TypeId}{len:Nat}{parts:List (Nat×V)}{nH:Array (Nat×Value)}{r:h2}(g:Good E h w)(hn:E.ι n=none)(hp:zT E parts nH.toList)
  (e:nW P t len parts h n=some r):jI P E h n w (do pure (.value (<- Instr.buildSlice t len nH))) r:=by
 unfold nW at e;cases he:tU P t with
 |none=>simp[he]at e
 |some el=>
  simp only[he]at e;cases hs:kf P el with
  |none=>simp[hs]at e
  |some s=>
   cases hz:zeroOf P el with
   |none=>simp[hs,hz]at e
   |some z=>
    simp only[hs,hz]at e;split at e
    . rename_i hq;obtain⟨IQ,n5,hzl⟩:=hq;cases hf:qZ (fun i=>some (i*s,s)) (gV z.cells len) parts with
      |none=>simp[hf]at e
      |some T=>
       simp only[hf]at e;cases ho:newObj h n (.cells T)with
       |none=>simp[ho]at e
       |some x=>
        obtain⟨h',n'⟩:=x;simp only[ho,aq]at e;subst e;obtain⟨z',hzr,hzv,_⟩:=kT (w:=w) E hz;have Y4:=iA hzv;have NG:=BC Y4 G len;rw[hzl]at NG;obtain⟨r',Q,R⟩:=xu parts nH.toList _ _ T hf NG hp;have hu:P.underlying t=some (.slice el):=by
         unfold tU at he;split at he
         . rename_i q;simp at he;subst he;exact q
         . cases he
        have jO:r'.size=len*s:=by
         have a:=eP R;have b:T.length=(gV z.cells len).length:=xw _ _ _ _ hf;rw[pE,hzl]at b;simpa[b]using a
        refine yP (c:=r') (el:=el) (w1:=w) (v':=.slice (some ⟨w.heap.size,0,none⟩) len len) g hn ho rfl rfl rfl rfl ?_ (nU R) ?_
        . simp only[Instr.buildSlice,Sem.run_bind,dL hu,Result.andThen_ok,fk hs];rw[aB (show ¬(len*s>2^24)by omega)];by_cases q0:len*s=0
          . have tw:(Array.range (len*s)).map (fun x=>(#[]:Array Value)[x%(#[]:Array Value).size]!)=(Array.range (len*s)).map (z'.cells[·%z'.cells.size]!):=by rw[q0];simp
            rw[aE q0];simp only[Sem.run_bind,Sem.run_pure,Result.andThen_ok];rw[tw,Q];simp[newRow]
          . rw[aB q0];simp only[Sem.run_bind,Sem.run_pure,Result.andThen_ok,hzr];rw[Q];simp[newRow]
        . refine⟨w.heap.size,0,0,len,Env.fM,fun _=>by simp,aK _,aK _,?_,rfl⟩;simp[Env.put,jO]
    . cases e
where
 xw (xg:Nat->Option (Nat×Nat)):∀(parts:List (Nat×V)) (cells r:ag),qZ xg cells parts=some r->r.length=cells.length
  | [],cells,r,e=>by simp only[qZ,aq]at e;rw[e]
  |(i,v)::rest,cells,r,e=>by
   simp only[qZ]at e;split at e
   . cases e
   . split at e
     . split at e
       . rename_i Vj hs;obtain⟨lj,rfl⟩:=yR hs;rw[xw xg rest _ r e];simp;omega
       . cases e
     . cases e
end ops
section
variable{P:Program}{E:Env}{h:I O}{n:Nat}{w:World}
theorem rB{t:TypeId}{T:ag}{cs':Array Value}{off:Nat}{v:V}(r:dV E T cs'.toList)(e:nX P t T off=some v):
  ∃v',(part t cs' off).run P w= .ok v' w/\dQ E v v':=by
 unfold nX kJ at e;have hl:=eP r;simp only[Array.length_toList]at hl;split at e
 . rename_i ha;cases hs:kf P t with
   |none=>simp[hs]at e
   |some k=>
    simp only[hs]at e;cases K:cut T off k with
    |none=>simp[K]at e
    |some x=>
     simp only[K,bu,aq]at e;subst e;obtain⟨Q,rfl⟩:=yQ K;refine⟨.agg (cs'.extract off (off+k)),by simp[part,rz ha,fk hs],(cs'.toList.drop off).take k,By (Bz r),?_⟩;congr 1;apply Array.ext';simp[List.extract_eq_take_drop]
 . rename_i ha;obtain⟨v',Q,R⟩:=gD r off v e;refine⟨v',?_,R⟩;rw[bJ]at Q;simp[part,rz ha,Q]
 . cases e
end
def V.tag:V->Nat
 | .bool _=>0 | .int _ _=>1 | .str _=>2 | .ptr _=>3 | .eS _ _ _ _=>4 | .map _=>5 | .fn _ _ _=>6 | .kz=>7 | .iface _ _=>8 | .nilIface=>9 | .agg _=>10 | .gC _=>11 | .eo _ _ _=>4 | .dr _=>3
def xx:Value->Nat
 | .bool _=>0 | .int _ _=>1 | .string _=>2 | .pointer _=>3 | .slice _ _ _=>4 | .map _=>5 | .func _ _ _=>6 | .nilFunc=>7 | .iface _ _=>8 | .nilIface=>9 | .agg _=>10 | .tuple _=>11
 | .float _ _=>12 | .complex _ _ _=>13 | .chan _=>14
theorem rC{E:Env}:∀{x:V} {v:Value},dQ E x v->x.tag=xx v:=by
 intro x v r;cases x with
 |agg T=>obtain⟨cs',_,rfl⟩:=r;rfl
 |gC T=>obtain⟨cs',_,rfl⟩:=r;rfl
 |bool b=>simp only[dQ]at r;subst r;rfl
 |int k n=>simp only[dQ]at r;subst r;rfl
 |str s=>simp only[dQ]at r;subst r;rfl
 |ptr a=>cases a<;>simp only[dQ]at r;. subst r;rfl
         . obtain⟨b,s,_,rfl⟩:=r;rfl
 |eS a l c e=>cases a<;>simp only[dQ]at r;. obtain⟨_,_,rfl⟩:=r;rfl
              . obtain⟨b,s,_,_,_,_,_,_,_,rfl⟩:=r;rfl
 |map a=>cases a<;>simp only[dQ]at r;. subst r;rfl
         . obtain⟨b,_,rfl⟩:=r;rfl
 |fn f a c=>obtain⟨_,_,_,_,_,_,rfl⟩:=r;rfl
 |kz=>simp only[dQ]at r;subst r;rfl
 |iface t x=>obtain⟨_,_,rfl⟩:=r;rfl
 |nilIface=>simp only[dQ]at r;subst r;rfl
 |eo f n T=>obtain⟨⟨_,_,_,rfl,_⟩,_⟩:=r;rfl
 |dr T=>obtain⟨_,_,_,_,rfl,_⟩:=r;rfl
theorem xy{E:Env}{x:V}{k:IntKind}{m:Int}(r:dQ E x (.int k m)):x= .int k m:=by
 have t:=rC r;cases x<;>simp[V.tag,xx]at t;simp only[dQ]at r;cases r;rfl
theorem xz{E:Env}{x:V}{s:ByteArray}(r:dQ E x (.string s)):∃l,x= .str l:=by
 have t:=rC r;cases x<;>simp[V.tag,xx]at t;exact⟨_,rfl⟩
theorem Dd{E:Env}{x:V}{k:FloatKind}{m:Nat}(r:dQ E x (.float k m)):False:=by
 have t:=rC r;cases x<;>simp[V.tag,xx]at t
theorem AD{E:Env}{x:V}{k:FloatKind}{m m':Nat}(r:dQ E x (.complex k m m')):False:=by
 have t:=rC r;cases x<;>simp[V.tag,xx]at t
theorem NH{E:Env}{x y:V}{x' y':Value}{t:TypeId}(rx:dQ E x x')(ry:dQ E y y')(hi:∀k m k' m',¬(x= .int k m/\y= .int k' m'))(hs:∀s u,¬(x= .str s/\y= .str u)):
  binOp .eql t x' y'=(do pure (.bool (<- Op.equal t x' y')))/\binOp .neq t x' y'=(do pure (.bool (!(<- Op.equal t x' y')))):=by
 cases x'<;>cases y'<;>first
  |exact⟨rfl,rfl⟩
  |exact absurd ⟨xy rx,xy ry⟩ (hi _ _ _ _)
  |exact(Dd rx).elim
  |exact(AD rx).elim
  |(obtain⟨l,e1⟩:=xz rx;obtain⟨l',e2⟩:=xz ry;exact absurd ⟨e1,e2⟩ (hs _ _))
section
variable{P:Program}{E:Env}{h:I O}{n:Nat}{w:World}
theorem sE{d:Nat}{eq:TypeId->V->V->Option Bool}(ih:∀t x y x' y' r,eq t x y=some r->dQ E x x'->dQ E y y'->(Op.equalIn d t x' y').run P w= .ok r w)
  {xs ys:ag} {yB DH:Array Value} (rx:dV E xs yB.toList) (ry:dV E ys DH.toList):∀(fs:List Field) (r:Bool),eqFields P eq fs xs ys=some r->(Op.eqFields d yB DH fs).run P w= .ok r w
 | [],r,e=>by simp only[eqFields,aq]at e;subst e;rfl
 |f::fs,r,e=>by
  simp only[eqFields]at e;simp only[Op.eqFields];split at e
  . rename_i ja;rw[aE ja];cases Q:nX P f.type xs f.offset with
    |none=>simp[Q]at e
    |some a=>cases R:nX P f.type ys f.offset with
     |none=>simp[Q,R]at e
     |some b=>
      simp only[Q,R]at e;obtain⟨a',p1,p2⟩:=rB (P:=P) (w:=w) rx Q;obtain⟨b',q1,q2⟩:=rB (P:=P) (w:=w) ry R;cases h3:eq f.type a b with
      |none=>simp[h3]at e
      |some c=>
       have hr:=ih _ _ _ _ _ _ h3 p2 q2;simp only[Sem.run_bind,p1,q1,Result.andThen_ok,hr];cases c with
       |false=>simp only[h3,aq]at e;subst e;simp
       |true=>simp only[h3]at e;simp only[Bool.not_true,aM,cr];exact sE ih rx ry fs r e
  . rename_i ja;rw[aB ja];exact sE ih rx ry fs r e
theorem zV{d c:Nat}{el:TypeId}{eq:V->V->Option Bool}(ih:∀x y x' y' r,eq x y=some r->dQ E x x'->dQ E y y'->(Op.equalIn d el x' y').run P w= .ok r w)
  {xs ys:ag} {yB DH:Array Value} (rx:dV E xs yB.toList) (ry:dV E ys DH.toList):∀(is:List Nat) (r:Bool),nY P eq el c xs ys is=some r->(Op.eqItems d el c yB DH is).run P w= .ok r w
 | [],r,e=>by simp only[nY,aq]at e;subst e;rfl
 |i::is,r,e=>by
  simp only[nY]at e;simp only[Op.eqItems];cases Q:nX P el xs (i*c)with
  |none=>simp[Q]at e
  |some a=>cases R:nX P el ys (i*c)with
   |none=>simp[Q,R]at e
   |some b=>
    simp only[Q,R]at e;obtain⟨a',p1,p2⟩:=rB (P:=P) (w:=w) rx Q;obtain⟨b',q1,q2⟩:=rB (P:=P) (w:=w) ry R;cases h3:eq a b with
    |none=>simp[h3]at e
    |some q=>
     have hr:=ih _ _ _ _ _ h3 p2 q2;simp only[Sem.run_bind,p1,q1,Result.andThen_ok,hr];cases q with
     |false=>simp only[h3,aq]at e;subst e;simp
     |true=>simp only[h3]at e;simp only[Bool.not_true,aM,cr];exact zV ih rx ry is r e
theorem EE:∀(d:Nat) (t:TypeId) (x y:V) (x' y':Value) (r:Bool),DF P d t x y=some r->dQ E x x'->dQ E y y'->(Op.equalIn d t x' y').run P w= .ok r w:=by
 intro d
 induction d with
 |zero=>intro t x y x' y' r e;simp[DF]at e
 |succ d ih=>
  intro t x y x' y' r e rx ry;simp only[DF]at e;split at e
  . rename_i hu;split at e
    . simp only[dQ]at rx ry;subst rx;subst ry;obtain rfl:=eB e;simp[Op.equalIn,dL hu]
    . cases e
  . rename_i hu;split at e
    . simp only[dQ]at rx ry;subst rx;subst ry;split at e
      . rename_i Y;subst Y;obtain rfl:=eB e;simp[Op.equalIn,dL hu]
      . cases e
    . cases e
  . rename_i hu;split at e
    . simp only[dQ]at rx ry;subst rx;subst ry;obtain rfl:=eB e;simp only[Op.equalIn,Sem.run_bind,dL hu,Result.andThen_ok,Sem.run_pure];rw[rA]
    . cases e
  . rename_i hu;split at e
    . rename_i b;simp only[dQ]at rx;subst rx;obtain rfl:=eB e;cases b with
      |none=>simp only[dQ]at ry;subst ry;simp[Op.equalIn,dL hu]
      |some p=>obtain⟨_,_,_,rfl⟩:=ry;simp[Op.equalIn,dL hu]
    . rename_i p;obtain rfl:=eB e;obtain⟨_,_,_,rfl⟩:=rx;simp only[dQ]at ry;subst ry;simp[Op.equalIn,dL hu]
    . split at e
      . rename_i hmm;obtain⟨⟨rfl,rfl⟩,mg⟩:=hmm;obtain rfl:=eB e;obtain⟨b,s,Q,rfl⟩:=rx;obtain⟨b',A,R,rfl⟩:=ry;rw[Q]at R;cases R;obtain⟨z,hz⟩:=bA.1 mg;simp only[Op.equalIn,Sem.run_bind,dL hu,Result.andThen_ok,fk hz];by_cases Y5:z=0
        . simp[Y5]
        . simp[Y5,sameAddr]
      . cases e
    . obtain rfl:=eB e;simp only[dQ]at rx;subst rx;obtain⟨_,_,_,_,rfl,_⟩:=ry;simp[Op.equalIn,dL hu]
    . obtain rfl:=eB e;obtain⟨_,_,_,_,rfl,_⟩:=rx;simp only[dQ]at ry;subst ry;simp[Op.equalIn,dL hu]
    . cases e
  . rename_i hu;split at e
    . simp only[dQ]at rx ry;subst rx;subst ry;obtain rfl:=eB e;simp[Op.equalIn,dL hu]
    . simp only[dQ]at rx;subst rx;obtain⟨_,_,rfl⟩:=ry;obtain rfl:=eB e;simp[Op.equalIn,dL hu]
    . simp only[dQ]at ry;subst ry;obtain⟨_,_,rfl⟩:=rx;obtain rfl:=eB e;simp[Op.equalIn,dL hu]
    . cases e
  . rename_i lJ hu;split at e
    . split at e
      . cases e
      . rename_i vr;obtain⟨yB,Vk,rfl⟩:=rx;obtain⟨DH,Vl,rfl⟩:=ry;have hf:P.fieldsOf t=lJ:=by simp[Program.fieldsOf,hu]
        rw[run_equalIn_struct w d t _ _ (by rw[hf];exact hu) (by simpa using vr),hf];exact sE (fun u a b a' b' r e ra rb=>ih u a b a' b' r e ra rb) (by simpa using Vk) (by simpa using Vl) _ _ e
    . cases e
  . rename_i hu;split at e
    . rename_i b _ _ _;obtain⟨_,_,rfl⟩:=rx;obtain rfl:=eB e;cases b with
      |none=>obtain⟨_,_,rfl⟩:=ry;simp[Op.equalIn,dL hu]
      |some p=>obtain⟨_,_,_,_,_,_,_,_,_,rfl⟩:=ry;simp[Op.equalIn,dL hu]
    . obtain rfl:=eB e;obtain⟨_,_,_,_,_,_,_,_,_,rfl⟩:=rx;obtain⟨_,_,rfl⟩:=ry;simp[Op.equalIn,dL hu]
    . split at e
      . obtain rfl:=eB e;obtain⟨⟨a,jH,vs,rfl,_,_,_,Q⟩,_⟩:=rx;obtain⟨_,_,_,rfl,_⟩:=Q (Nat.succ_pos _);obtain⟨_,_,rfl⟩:=ry;simp[Op.equalIn,dL hu]
      . cases e
    . cases e
  . rename_i hu;split at e
    . rename_i b;simp only[dQ]at rx;subst rx;obtain rfl:=eB e;cases b with
      |none=>simp only[dQ]at ry;subst ry;simp[Op.equalIn,dL hu]
      |some p=>obtain⟨_,_,rfl⟩:=ry;simp[Op.equalIn,dL hu]
    . obtain rfl:=eB e;obtain⟨_,_,rfl⟩:=rx;simp only[dQ]at ry;subst ry;simp[Op.equalIn,dL hu]
    . cases e
  . rename_i m el hu;split at e
    . split at e
      . rename_i hi;obtain⟨i,hi⟩:=bA.1 hi;obtain⟨yB,Vk,rfl⟩:=rx;obtain⟨DH,Vl,rfl⟩:=ry;rw[run_equalIn_array w d yB.toArray DH.toArray hu hi];exact zV (fun a b a' b' r e ra rb=>ih el a b a' b' r e ra rb) (by simpa using Vk) (by simpa using Vl) _ _ e
      . cases e
    . cases e
  . cases e
end
section
variable{P:Program}{E:Env}{h:I O}{n:Nat}{w:World}
theorem BD:∀s u:aa,Nn s u=Op.bytesLess s u
 |_,[]=>by cases ‹aa›<;>rfl
 | [],_::_=>rfl
 |a::x,b::y=>by
  simp only[Nn,Op.bytesLess];have Q:(a<b)↔a.toNat<b.toNat:=UInt8.lt_iff_toNat_lt;have R:(a=b)↔a.toNat=b.toNat:=UInt8.toNat_inj.symm;rcases Nat.lt_trichotomy a.toNat b.toNat with h|h|h
  . have:Nat.blt a.toNat b.toNat=true:=Nat.ble_eq_true_of_le h;rw[this];simp[Q.2 h]
  . have e1:Nat.blt a.toNat b.toNat=false:=by cases q:Nat.blt a.toNat b.toNat with|false=>rfl|true=>exact absurd (az q) G
    have e2:Nat.beq a.toNat b.toNat=true:=by rw[h];exact Nat.beq_refl _
    have e3:¬a<b:=fun q=>by have:=Q.1 q;omega
    have e4:a=b:=R.2 h;rw[e1,e2];simp only[BD x y,e4];simp
  . have e1:Nat.blt a.toNat b.toNat=false:=by cases q:Nat.blt a.toNat b.toNat with|false=>rfl|true=>exact absurd (az q) G
    have e2:Nat.beq a.toNat b.toNat=false:=by cases q:Nat.beq a.toNat b.toNat with|false=>rfl|true=>exact absurd (aA q) G
    have e3:¬a<b:=fun q=>by have:=Q.1 q;omega
    have e4:¬a=b:=fun q=>by have:=R.1 q;omega
    rw[e1,e2];simp[e3,e4]
theorem uZ(s:aa):(⟨s.toArray⟩:ByteArray).toList=s:=by rw[ByteArray.toList_eq]
theorem NI{op:BinOp}{t:TypeId}{x y:Operand}{a b v:V}{a' b':Value}(g:Good E h w)(ra:dQ E a a')(rb:dQ E b b')(e:Bp P op t x y a b=some v):
  jI P E h n w (do pure (.value (<- (do eqGuard op t x y a' b';binOp op t a' b')))) (.val v h n):=by
 unfold Bp at e;split at e
 . rename_i k m k' m';simp only[dQ]at ra rb;subst ra;subst rb;obtain⟨v',q1,q2⟩:=vY e;refine ee g (v':=v') ?_ (q2 E);have hg:(eqGuard op t x y (.int k m) (.int k' m')).run P w= .ok () w:=by cases op<;>rfl
   simp only[Sem.run_bind,hg,Result.andThen_ok,q1];rfl
 . rename_i s u;simp only[dQ]at ra rb;subst ra;subst rb;have hg:(eqGuard op t x y (.string ⟨s.toArray⟩) (.string ⟨u.toArray⟩)).run P w= .ok () w:=by cases op<;>rfl
   cases op<;>simp only[No]at e<;>first
    |(cases e;done)
    |skip
   . split at e
     . rename_i hl;obtain rfl:=eB e;refine ee g (v':=.string (⟨s.toArray⟩++⟨u.toArray⟩)) ?_ ?_
       . have mg:¬(((ByteArray.size ⟨s.toArray⟩+ByteArray.size ⟨u.toArray⟩:Nat):Int)>IntKind.i64.max):=by
          have:(IntKind.i64.max:Int)=9223372036854775807:=by decide
          rw[this];show ¬(((s.toArray.size+u.toArray.size:Nat):Int)>9223372036854775807);unfold vR at hl;simp only[List.size_toArray];omega
         simp only[Sem.run_bind,hg,Result.andThen_ok,binOp,Op.stringOp];rw[aB mg];rfl
       . show Value.string _= .string ⟨(s++u).toArray⟩;congr 1
     . cases e
   . obtain rfl:=eB e;refine ee g (v':=.bool (lK s u)) ?_ rfl;simp only[Sem.run_bind,hg,Result.andThen_ok,binOp,Op.stringOp,sD];rfl
   . obtain rfl:=eB e;refine ee g (v':=.bool (!lK s u)) ?_ rfl;simp only[Sem.run_bind,hg,Result.andThen_ok,binOp,Op.stringOp,sD];rfl
   . obtain rfl:=eB e;refine ee g (v':=.bool (Nn s u)) ?_ rfl;simp only[Sem.run_bind,hg,Result.andThen_ok,binOp,Op.stringOp,BD,uZ];rfl
   . obtain rfl:=eB e;refine ee g (v':=.bool (Nn s u||lK s u)) ?_ rfl;simp only[Sem.run_bind,hg,Result.andThen_ok,binOp,Op.stringOp,sD,kj,BD,uZ];rfl
   . obtain rfl:=eB e;refine ee g (v':=.bool (!(Nn s u||lK s u))) ?_ rfl;simp only[Sem.run_bind,hg,Result.andThen_ok,binOp,Op.stringOp,sD,kj,BD,uZ];rfl
   . obtain rfl:=eB e;refine ee g (v':=.bool (!Nn s u)) ?_ rfl;simp only[Sem.run_bind,hg,Result.andThen_ok,binOp,Op.stringOp,BD,uZ];rfl
 . rename_i hni Iq;have hb:=NH (t:=t) ra rb (fun k m k' m' q=>hni k m k' m' q.1 q.2) (fun s u q=>Iq s u q.1 q.2);have vt:∀r,C7 P t x y a b=some r->∀op,(op= .eql\/op= .neq)->(eqGuard op t x y a' b').run P w= .ok () w/\(Op.equal t a' b').run P w= .ok r w:=by
    intro r er op oQ;unfold C7 at er;split at er
    . simp only[dQ]at ra rb;subst ra;subst rb;split at er
      . rename_i afP;refine⟨?_,EE (E:=E) 10000 t _ _ _ _ r er rfl rfl⟩;clear hb e;rcases oQ with rfl|rfl<;>cases x<;>cases y<;>first
         |rfl
         |(simp only[isLit,Bool.or_self,aM]at afP)
      . cases er
    . split at er
      . cases er
      . rename_i hg;obtain⟨yB,rx,rfl⟩:=ra;obtain⟨DH,ry,rfl⟩:=rb;refine⟨run_eqGuard_agg w op t x y _ _ (by simpa using hg),EE 10000 t _ _ _ _ r er ⟨yB,rx,rfl⟩ ⟨DH,ry,rfl⟩⟩
    . rename_i De o4;refine⟨?_,EE 10000 t _ _ _ _ r er ra rb⟩;have t1:=rC ra;have t2:=rC rb;rcases oQ with rfl|rfl<;>cases a'<;>first
       |rfl
       |(cases b'<;>first
        |rfl
        |(exfalso;cases a<;>simp[V.tag,xx]at t1;cases b<;>simp[V.tag,xx]at t2;exact De rfl rfl)
        |(exfalso;cases a<;>simp[V.tag,xx]at t1;cases b<;>simp[V.tag,xx]at t2;exact o4 _ _ rfl rfl))
   split at e
   . cases hq:C7 P t x y a b with
     |none=>simp[hq]at e
     |some r=>
      simp only[hq,bu,aq]at e;subst e;obtain⟨m1,m2⟩:=vt r hq .eql (.inl rfl);refine ee g (v':=.bool r) ?_ rfl;simp only[Sem.run_bind,m1,Result.andThen_ok,hb.1,m2,Sem.run_pure]
   . cases hq:C7 P t x y a b with
     |none=>simp[hq]at e
     |some r=>
      simp only[hq,bu,aq]at e;subst e;obtain⟨m1,m2⟩:=vt r hq .neq (.inr rfl);refine ee g (v':=.bool (!r)) ?_ rfl;simp only[Sem.run_bind,m1,Result.andThen_ok,hb.2,m2,Sem.run_pure]
   . cases e
section
variable{t:TypeId}{f:Nat}{x i:V}
theorem Rx{op:UnOp}{x v:V}{x':Value}(g:Good E h w)(r:dQ E x x')(e:unV op x=some v):jI P E h n w (do pure (.value (<- Op.unary op x'))) (.val v h n):=by
 unfold unV at e;split at e
 . simp only[dQ]at r;subst r;obtain⟨v',q1,q2⟩:=vY e;exact ee g (v':=v') (by rw[q1];rfl) (q2 E)
 . simp only[dQ]at r;subst r;obtain⟨v',q1,q2⟩:=vY e;exact ee g (v':=v') (by rw[q1];rfl) (q2 E)
 . cases e
theorem Gt{e:TypeId}(q:tU P t=some e):P.underlying t=some (.slice e):=by
 unfold tU at q;split at q
 . rename_i hu;simp at q;subst q;exact hu
 . cases q
theorem EF{v:V}{x':Value}(g:Good E h w)(r:dQ E x x')(e:vS P t f x=some v):
  jI P E h n w (do pure (.value (<- Instr.fieldAt t x' f))) (.val v h n):=by
 unfold vS at e;split at e
 . rename_i m o;split at e
   . rename_i fs hu;split at e
     . rename_i fd hf;split at e
       . rename_i k Y;obtain rfl:=eB e;obtain⟨b,s,hi,rfl⟩:=r;refine ee g (v':=.pointer (some ⟨b,s+(o+fd.offset),none⟩)) ?_ ⟨b,s,hi,rfl⟩;simp[Instr.fieldAt,dL hu,hf,Instr.sureAddr,fieldPlace,fk Y,Addr.iV,Nat.add_assoc]
       . cases e
     . cases e
   . cases e
 . rename_i T;split at e
   . rename_i fs hu;split at e
     . rename_i fd hf;split at e
       . rename_i k Y;obtain rfl:=eB e;obtain⟨b,o,c,vs,rfl,C9,hd,K⟩:=r;refine ee g (v':=.pointer (some ⟨b,o+fd.offset,none⟩)) ?_ ⟨b,_,c,vs.drop fd.offset,rfl,C9,ny hd,fun j w q=>?_⟩
         . simp[Instr.fieldAt,dL hu,hf,Instr.sureAddr,fieldPlace,fk Y,Addr.iV]
         . rw[bO]at q;rw[<- K _ w q,Nat.add_assoc]
       . cases e
     . cases e
   . cases e
 . cases e
theorem NJ{v:V}{x':Value}(g:Good E h w)(r:dQ E x x')(e:IA P t f x=some v):
  jI P E h n w (do pure (.value (<- Instr.field t x' f))) (.val v h n):=by
 unfold IA at e;split at e
 . split at e
   . rename_i fs hu;split at e
     . rename_i fd hf;obtain⟨cs',rc,rfl⟩:=r;obtain⟨v',Q,R⟩:=rB (P:=P) (w:=w) (cs':=cs'.toArray) (by simpa using rc) e;refine ee g (v':=v') ?_ R;simp[Instr.field,dL hu,hf,asAgg,Q]
     . cases e
   . cases e
 . cases e
theorem EG{v:V}{x' i':Value}(g:Good E h w)(r:dQ E x x')(ri:dQ E i i')(e:nv P t x i=some v):
  jI P E h n w (do pure (.value (<- Instr.indexAt t x' i'))) (.val v h n):=by
 unfold nv at e;split at e
 . rename_i k i;simp only[dQ]at ri;subst ri;split at e
   . rename_i len el m o hu;split at e
     . rename_i s hs;split at e
       . rename_i hb;obtain rfl:=eB e;obtain⟨b,sh,hi,rfl⟩:=r;refine ee g (v':=.pointer (some ⟨b,sh+(o+i.toNat*s),none⟩)) ?_ ⟨b,sh,hi,rfl⟩;simp[Instr.indexAt,asIntOf,dL hu,Instr.sureAddr,hb.1,hb.2,fk hs,Addr.iV,Nat.add_assoc]
       . cases e
     . cases e
   . rename_i el m o len jH jm hu;split at e
     . rename_i s hs;split at e
       . rename_i hb;obtain⟨Q,R,h3⟩:=hb;obtain rfl:=eB e;obtain⟨b,sh,o',gp,hi,q1,q2,q3,q4,rfl⟩:=r;have ho:o'=sh+o:=q1 G;subst ho;refine ee g (v':=.pointer (some ⟨b,sh+(o+i.toNat*s),none⟩)) ?_ ⟨b,sh,hi,rfl⟩;simp[Instr.indexAt,asIntOf,dL hu,Q,R,fk hs,Addr.iV,Nat.add_assoc]
       . cases e
     . cases e
   . rename_i el f len T hu;split at e
     . rename_i s hs;split at e
       . rename_i hb;obtain⟨⟨Q,R⟩,h3⟩:=hb;obtain rfl:=eB e;obtain⟨⟨a,jH,vs,rfl,n5,hd,h0,xA⟩,_⟩:=r;obtain⟨b,o,c,rfl,C9,K⟩:=xA G;refine ee g (v':=.pointer (some ⟨b,o+i.toNat*s,none⟩)) ?_ ⟨b,_,c,(vs.drop (i.toNat*s)).take s,rfl,C9,sk (ny hd),fun j w q=>?_⟩
         . simp[Instr.indexAt,asIntOf,dL hu,Q,R,fk hs,Addr.iV]
         . rw[bN]at q;split at q
           . rw[bO]at q;rw[<- K _ w q,Nat.add_assoc]
           . cases q
       . cases e
     . cases e
   . rename_i len el T hu;split at e
     . rename_i s hs;split at e
       . rename_i hb;obtain rfl:=eB e;obtain⟨b,o,c,vs,rfl,C9,hd,K⟩:=r;refine ee g (v':=.pointer (some ⟨b,o+i.toNat*s,none⟩)) ?_ ⟨b,_,c,vs.drop (i.toNat*s),rfl,C9,ny hd,fun j w q=>?_⟩
         . simp[Instr.indexAt,asIntOf,dL hu,Instr.sureAddr,hb.1,hb.2,fk hs,Addr.iV]
         . rw[bO]at q;rw[<- K _ w q,Nat.add_assoc]
       . cases e
     . cases e
   . cases e
 . cases e
theorem NK{v:V}{x' i':Value}(g:Good E h w)(r:dQ E x x')(ri:dQ E i i')(e:Br P t x i=some v):
  jI P E h n w (do pure (.value (<- Instr.index t x' i'))) (.val v h n):=by
 unfold Br at e;split at e
 . rename_i k i;simp only[dQ]at ri;subst ri;split at e
   . rename_i len el T hu;split at e
     . rename_i s hs;split at e
       . rename_i hb;obtain⟨cs',rc,rfl⟩:=r;obtain⟨v',Q,R⟩:=rB (P:=P) (w:=w) (cs':=cs'.toArray) (by simpa using rc) e;refine ee g (v':=v') ?_ R;simp[Instr.index,asIntOf,dL hu,hb.1,hb.2,fk hs,Q]
       . cases e
     . cases e
   . rename_i s hu;split at e
     . rename_i hb;split at e
       . rename_i b hsb;obtain rfl:=eB e;simp only[dQ]at r;subst r;refine ee g (v':=.int .u8 b.toNat) ?_ rfl;have hg:(⟨s.toArray⟩:ByteArray)[i.toNat]? =some b:=by
          obtain⟨eM,hv⟩:=aO.1 hsb;have mg:i.toNat<(⟨s.toArray⟩:ByteArray).size:=by show i.toNat<s.toArray.size;simpa using eM
          rw[getElem?_pos (⟨s.toArray⟩:ByteArray) i.toNat mg];congr 1
         simp[Instr.index,asIntOf,dL hu,hb,hg]
       . cases e
     . cases e
   . cases e
 . cases e
theorem IS{vs:ag}{i:Nat}{v:V}{x':Value}(g:Good E h w)(r:dQ E (.gC vs) x')(e:vs[i]? =some v):
  jI P E h n w (do pure (.value (<- Instr.extract x' i))) (.val v h n):=by
 obtain⟨Ub,rs,rfl⟩:=r;obtain⟨v',Q,R⟩:=gD rs i v e;refine ee g (v':=v') ?_ R;simp[Instr.extract,Q]
theorem Df{v:V}{xt t:TypeId}{ok:Bool}{x':Value}(g:Good E h w)(r:dQ E x x')(e:tX P x t ok=some v):
  jI P E h n w (do pure (.value (<- Instr.typeAssert x' xt t ok))) (.val v h n):=by
 unfold tX at e;split at e
 . cases e
 . rename_i d hu hd;simp only[dQ]at r;subst r;split at e
   . rename_i mC;cases hz:zeroOf P t with
     |none=>simp[hz]at e
     |some z=>
      simp only[hz,aq]at e;subst e;obtain⟨z',hr,hv,_⟩:=kT (w:=w) E hz;refine ee g (v':=.tuple #[z',.bool false]) ?_ ⟨[z',.bool false],⟨z',_,hv,⟨.bool false,[],rfl,rfl,rfl⟩,rfl⟩,rfl⟩;cases d<;>first|(exact absurd rfl (hu _))|simp[Instr.typeAssert,dL hd,mC,hr]
   . cases e
 . rename_i d t2 x2 hu hd;obtain⟨y,ry,rfl⟩:=r;split at e
   . rename_i ht;subst ht;obtain rfl:=eB e;cases ok with
     |true=>
      refine ee g (v':=.tuple #[y,.bool true]) ?_ ⟨[y,.bool true],⟨y,_,ry,⟨.bool true,[],rfl,rfl,rfl⟩,rfl⟩,rfl⟩;cases d<;>first|(exact absurd rfl (hu _))|simp[Instr.typeAssert,dL hd]
     |false=>
      refine ee g (v':=y) ?_ ry;cases d<;>first|(exact absurd rfl (hu _))|simp[Instr.typeAssert,dL hd]
   . rename_i ht;split at e
     . rename_i mC;cases hz:zeroOf P t with
       |none=>simp[hz]at e
       |some z=>
        simp only[hz,aq]at e;subst e;obtain⟨z',hr,hv,_⟩:=kT (w:=w) E hz;refine ee g (v':=.tuple #[z',.bool false]) ?_ ⟨[z',.bool false],⟨z',_,hv,⟨.bool false,[],rfl,rfl,rfl⟩,rfl⟩,rfl⟩;cases d<;>first|(exact absurd rfl (hu _))|simp[Instr.typeAssert,dL hd,mC,hr,ht]
     . cases e
 . cases e
end
end
def nI(E:Env):Option V->Option Value->Prop
 |none,y=>y=none
 |some x,y=>∃y',dQ E x y'/\y=some y'
section
variable{P:Program}{E:Env}{h:I O}{n:Nat}{w:World}
theorem u0{d y r:Nat}{x:V}{x':Value}{c:BoundsCode}(e:eT d y (some x)=some r)(rx:dQ E x x'):
  (Instr.sliceBound x' y c).run P w= .ok r w/\r<=y:=by
 unfold eT at e;split at e
 . rename_i q;cases q
 . rename_i k i q;cases q;simp only[dQ]at rx;subst rx;split at e
   . rename_i hb;obtain rfl:=eB e;refine⟨?_,G⟩;simp[Instr.sliceBound,asIntOf,hb.1,hb.2]
   . cases e
 . cases e
theorem l8{pF:Bool}{len jH l hh m:Nat}{lo hi mx:Option V}{Ry jr Rz:Option Value}(rl:nI E lo Ry)(rh:nI E hi jr)(rm:nI E mx Rz)
  (Y6:mx=none\/hi≠none) (e1:eT jH jH mx=some m) (e2:eT len m hi=some hh) (e3:eT 0 hh lo=some l) (jO:len<=jH):
  (Instr.sliceBounds pF len jH Ry jr Rz).run P w= .ok (l,hh,m) w/\l<=hh/\hh<=m/\m<=jH:=by
 have low:∀c,((match Ry with|some v=>Instr.sliceBound v hh c|none=>pure 0):Sem Nat).run P w= .ok l w/\l<=hh:=by
  intro c;cases lo with
  |none=>simp only[nI]at rl;subst rl;simp only[eT,aq]at e3;subst e3;exact⟨rfl,aS _⟩
  |some x=>obtain⟨x',rx,rfl⟩:=rl;exact u0 e3 rx
 cases mx with
 |none=>
  simp only[nI]at rm;subst rm;simp only[eT,aq]at e1;subst e1;cases hi with
  |none=>
   simp only[nI]at rh;subst rh;simp only[eT,aq]at e2;subst e2;obtain⟨Q,R⟩:=low .sliceB;refine⟨?_,R,jO,aK _⟩;cases Ry<;>simp_all [Instr.sliceBounds]
  |some x=>
   obtain⟨x',rx,rfl⟩:=rh;obtain⟨p1,p2⟩:=u0 (P:=P) (w:=w) (c:=if pF then .sliceAcap else .sliceAlen) e2 rx;obtain⟨Q,R⟩:=low .sliceB;refine⟨?_,R,p2,aK _⟩;cases Ry<;>simp_all [Instr.sliceBounds]
 |some y=>
  obtain⟨y',ry,rfl⟩:=rm;obtain⟨p1,p2⟩:=u0 (P:=P) (w:=w) (c:=if pF then .slice3Acap else .slice3Alen) e1 ry;cases hi with
  |none=>rcases Y6 with q|q<;>simp at q
  |some x=>
   obtain⟨x',rx,rfl⟩:=rh;obtain⟨q1,q2⟩:=u0 (P:=P) (w:=w) (c:=.slice3B) e2 rx;obtain⟨Q,R⟩:=low .slice3C;refine⟨?_,R,q2,p2⟩;cases Ry<;>simp_all [Instr.sliceBounds]
theorem EH(s:aa)(l hh:Nat):(⟨s.toArray⟩:ByteArray).extract l hh=⟨((s.take hh).drop l).toArray⟩:=by
 apply ByteArray.ext;simp[List.extract_eq_take_drop,List.drop_take]
theorem NM{t:TypeId}{x v:V}{x':Value}{lo hi mx:Option V}{Ry jr Rz:Option Value}(g:Good E h w)(r:dQ E x x')(rl:nI E lo Ry)(rh:nI E hi jr)(rm:nI E mx Rz)
  (e:lY P t h x lo hi mx=some v):jI P E h n w (do pure (.value (<- Instr.sliceAt t x' Ry jr Rz))) (.val v h n):=by
 unfold lY at e;split at e
 . cases e
 . rename_i ZR;have Y6:mx=none\/hi≠none:=by
    cases mx with
    |none=>exact .inl rfl
    |some _=>cases hi with
     |none=>simp at ZR
     |some _=>exact .inr (by simp)
   clear ZR;split at e
   . rename_i s hu;cases mx with
     |some _=>simp at e
     |none=>
      simp only[nI]at rm;subst rm;simp only at e;simp only[dQ]at r;subst r;cases R:eT s.length s.length hi with
      |none=>simp[R]at e
      |some hh=>
       simp only[R]at e;cases h3:eT 0 hh lo with
       |none=>simp[h3]at e
       |some l=>
        simp only[h3,aq]at e;subst e;have mg:(⟨s.toArray⟩:ByteArray).size=s.length:=by show s.toArray.size=_;simp
        obtain⟨q,q1,q2,_⟩:=l8 (P:=P) (w:=w) (pF:=false) (len:=s.length) (jH:=s.length) (mx:=none) (Rz:=none) rl rh rfl (.inl rfl) rfl R h3 (aK _);refine ee g (v':=.string ⟨((s.take hh).drop l).toArray⟩) ?_ rfl;simp only[Sem.run_bind,Instr.sliceAt,dL hu,Result.andThen_ok,Instr.slice,Option.isSome_none,aM,cr,mg,q,Sem.run_pure,EH s l hh]
   . rename_i el a len jH jm hu;split at e
     . rename_i s hs;split at e
       . rename_i hse;cases Q:eT jH jH mx with
         |none=>simp[Q]at e
         |some m=>
          simp only[Q]at e;cases R:eT len m hi with
          |none=>simp[R]at e
          |some hh=>
           simp only[R]at e;cases h3:eT 0 hh lo with
           |none=>simp[h3]at e
           |some l=>
            simp only[h3,aq]at e;subst e;cases a with
            |none=>
             obtain⟨rfl,rfl,rfl⟩:=r;obtain⟨q,q1,q2,q3⟩:=l8 (P:=P) (w:=w) (pF:=true) rl rh rm Y6 Q R h3 (aK _);have S:m=0:=by omega
             have hh0:hh=0:=by omega
             have CS:l=0:=by omega
             subst S;subst hh0;subst CS;refine ee g (v':=.slice none 0 0) ?_ ⟨rfl,rfl,rfl⟩;simp only[Sem.run_bind,Instr.sliceAt,dL hu,Result.andThen_ok,Instr.slice,q,fk hs,Sem.run_pure];rfl
            |some a=>
             obtain⟨bm,o⟩:=a
             have hse:s=jm:=by rcases hse with q|q;. exact q
                               . cases q
             subst hse;obtain⟨b,sh,o',gp,jr,c1,c2,c3,c4,rfl⟩:=r;cases mx with
             |none=>
              simp only[nI]at rm;subst rm;simp only[eT,aq]at Q;subst Q;have DL:eT len gp hi=some hh:=by
               cases hi with
               |none=>exact R
               |some y=>
                unfold eT at R ⊢;split at R
                . rename_i q;cases q
                . rename_i k i q;cases q;split at R
                  . rename_i hb;rw[aE ⟨hb.1,G⟩];exact R
                  . cases R
                . cases R
              obtain⟨q,q1,q2,q3⟩:=l8 (P:=P) (w:=w) (pF:=true) (mx:=none) (Rz:=none) (jH:=gp) rl rh rfl (.inl rfl) rfl DL h3 G;have hhc:hh<=jH:=by
               cases hi with
               |none=>simp only[eT,aq]at R;omega
               |some y=>
                unfold eT at R;split at R
                . rename_i q;cases q
                . rename_i k i q;cases q;split at R
                  . rename_i hb;simp only[aq]at R;omega
                  . cases R
                . cases R
              refine ee g (v':=.slice (if gp=l then some ⟨b,o',none⟩else some ⟨b,o'+l*s,none⟩) (hh-l) (gp-l)) ?_ ?_
              . simp only[Sem.run_bind,Instr.sliceAt,dL hu,Result.andThen_ok,Instr.slice,q,fk hs,Sem.run_pure,bu,Addr.iV]
              . by_cases vG:gp=l
                . rw[aE vG];refine⟨b,sh,o',gp-l,jr,fun q=>by omega,G,G,?_,rfl⟩;rw[vG];simp;omega
                . rw[aB vG];refine⟨b,sh,o'+l*s,gp-l,jr,fun q=>?_,G,G,?_,rfl⟩
                  . rw[c1 G];omega
                  . have S:l*s+(gp-l)*s=gp*s:=by rw[<- cW];congr 1;omega
                    omega
             |some y=>
              obtain⟨y',ry,rfl⟩:=rm;have ot:eT gp gp (some y)=some m:=by
               unfold eT at Q ⊢;split at Q
               . rename_i q;cases q
               . rename_i k i q;cases q;split at Q
                 . rename_i hb;rw[aE ⟨hb.1,G⟩];exact Q
                 . cases Q
               . cases Q
              have hmc:m<=jH:=by
               unfold eT at Q;split at Q
               . rename_i q;cases q
               . rename_i k i q;cases q;split at Q
                 . rename_i hb;simp only[aq]at Q;omega
                 . cases Q
               . cases Q
              obtain⟨q,q1,q2,q3⟩:=l8 (P:=P) (w:=w) (pF:=true) (jH:=gp) rl rh (mx:=some y) (Rz:=some y') ⟨y',ry,rfl⟩ Y6 ot R h3 G;refine ee g (v':=.slice (if m=l then some ⟨b,o',none⟩else some ⟨b,o'+l*s,none⟩) (hh-l) (m-l)) ?_ ?_
              . simp only[Sem.run_bind,Instr.sliceAt,dL hu,Result.andThen_ok,Instr.slice,q,fk hs,Sem.run_pure,bu,Addr.iV]
              . by_cases vG:m=l
                . rw[aE vG];refine⟨b,sh,o',m-l,jr,fun q=>by omega,G,G,?_,rfl⟩;rw[vG];simp;omega
                . rw[aB vG];refine⟨b,sh,o'+l*s,m-l,jr,fun q=>?_,G,aK _,?_,rfl⟩
                  . rw[c1 G];omega
                  . have S:l*s+(m-l)*s=m*s:=by rw[<- cW];congr 1;omega
                    have EI:m*s<=gp*s:=cA _ G;omega
       . cases e
     . cases e
   . rename_i el f len T hu;have oy:∀{y jH r:Nat} {o:Option V},eT y y o=some r->y<=jH->o≠none->eT jH jH o=some r/\r<=y:=fun {y jH r o} q hq ja=>by
      cases o with
      |none=>exact absurd rfl ja
      |some v=>
       cases v with
       |int k i=>
        simp only[eT]at q ⊢;split at q
        . rename_i hb;obtain rfl:=eB q;exact⟨aE ⟨hb.1,G⟩,G⟩
        . cases q
       |_=>simp only[eT]at q;cases q
     split at e
     . rename_i s hs;split at e
       . rename_i vG;obtain⟨⟨a,jH,vs,rfl,n5,hd,h0,xA⟩,xB⟩:=r;have key:∀(l hh m:Nat),l<=hh->hh<=len->hh<=m->∀(f':Bool),(f'=true->m=hh)->
           dQ E (.eo f' (hh-l) ((T.drop (l*s)).take ((hh-l)*s))) (.slice (if m=l then a else a.map (·.add (l*s))) (hh-l) (m-l)):=by
          intro l hh m k1 k2 k3 f' hf';refine⟨⟨_,_,(vs.drop (l*s)).take ((hh-l)*s),rfl,G,sk (ny hd),fun q=>by rw[q];simp,fun q=>?_⟩,fun q=>⟨_,by rw[hf' q]⟩⟩;obtain⟨b,o,c,rfl,C9,K⟩:=xA G;refine⟨b,o+l*s,c,?_,C9,fun j w hw=>?_⟩
          . rw[aB G];simp[Addr.iV]
          . rw[bN]at hw;split at hw
            . rw[bO]at hw;rw[<- K _ w hw,Nat.add_assoc]
            . cases hw
         cases mx with
         |none=>
          simp only[nI]at rm;subst rm;simp only at e;cases R:eT len len hi with
          |none=>simp[R]at e
          |some hh=>
           simp only[R]at e;cases h3:eT 0 hh lo with
           |none=>simp[h3]at e
           |some l=>
            simp only[h3,aq]at e;subst e;have DL:eT len jH hi=some hh/\hh<=len:=by
             cases hi with
             |none=>simp only[eT,aq]at R ⊢;exact⟨R,G⟩
             |some y=>
              obtain⟨q1,q2⟩:=oy R n5 (by simp);exact⟨by cases y<;>exact q1,q2⟩
            obtain⟨q,q1,q2,q3⟩:=l8 (P:=P) (w:=w) (pF:=true) (mx:=none) (Rz:=none) (jH:=jH) rl rh rfl (.inl rfl) rfl DL.1 h3 n5;refine ee g (v':=.slice (if jH=l then a else a.map (·.add (l*s))) (hh-l) (jH-l)) ?_ (key l hh jH q1 DL.2 q2 _ fun hf=>?_)
            . simp only[Sem.run_bind,Instr.sliceAt,dL hu,Result.andThen_ok,Instr.slice,q,fk hs,Sem.run_pure]
            . simp only[ay,bP,Option.isSome_eq_false_iff,Option.isNone_iff_eq_none]at hf;obtain⟨hf1,rfl⟩:=hf;simp only[eT,aq]at R;obtain⟨a',ha'⟩:=xB hf1;simp only[Value.slice.injEq]at ha';omega
         |some y=>
          simp only at e;cases Q:eT len len (some y)with
          |none=>simp[Q]at e
          |some m=>
           simp only[Q]at e;cases R:eT len m hi with
           |none=>simp[R]at e
           |some hh=>
            simp only[R]at e;cases h3:eT 0 hh lo with
            |none=>simp[h3]at e
            |some l=>
             simp only[h3]at e;split at e
             . rename_i hhm;obtain rfl:=eB e;obtain⟨k1,k2⟩:=oy Q n5 (by simp);obtain⟨q,q1,q2,q3⟩:=l8 (P:=P) (w:=w) (pF:=true) (jH:=jH) rl rh rm Y6 k1 R h3 n5;refine ee g (v':=.slice (if m=l then a else a.map (·.add (l*s))) (hh-l) (m-l)) ?_ (key l hh m q1 G q2 _ fun _=>hhm.symm);simp only[Sem.run_bind,Instr.sliceAt,dL hu,Result.andThen_ok,Instr.slice,q,fk hs,Sem.run_pure]
             . cases e
       . cases e
     . cases e
   . rename_i len el bm o hu;split at e
     . rename_i s hs;cases Q:eT len len mx with
       |none=>simp[Q]at e
       |some m=>
        simp only[Q]at e;cases R:eT len m hi with
        |none=>simp[R]at e
        |some hh=>
         simp only[R]at e;cases h3:eT 0 hh lo with
         |none=>simp[h3]at e
         |some l=>
          simp only[h3]at e;split at e
          . rename_i hb;obtain rfl:=eB e;obtain⟨IQ,RA,iP⟩:=hb;unfold xh at iP;split at iP
            . rename_i T S;have hlc:o+len*s<=T.length:=by simpa using iP
              obtain⟨b,sh,jr,rfl⟩:=r;obtain⟨b',sh',AE,c,Y7,fz,rD,mg,_,DJ⟩:=g.rel bm _ S;rw[jr]at AE;cases AE;obtain⟨q,q1,q2,q3⟩:=l8 (P:=P) (w:=w) (pF:=false) rl rh rm Y6 Q R h3 (aK _);refine ee g (v':=.slice (some (if m=l then⟨b,sh+o,none⟩else⟨b,sh+o+l*s,none⟩)) (hh-l) (m-l)) ?_ ?_
              . simp only[Sem.run_bind,Instr.sliceAt,dL hu,Result.andThen_ok,Instr.sureAddr,q,fk hs,Sem.run_pure,Addr.iV]
              . have yS:sh+o+m*s<=E.β b:=by
                 have xA:0<len*s:=Nat.mul_pos RA IQ;have RD:=nE DJ (k:=o+len*s) G hlc;have MZ:m*s<=len*s:=cA _ q3;omega
                by_cases vG:m=l
                . rw[aE vG];refine⟨b,sh,sh+o,m-l,jr,fun q=>by omega,G,G,?_,rfl⟩;rw[vG];simp;omega
                . rw[aB vG];refine⟨b,sh,sh+o+l*s,m-l,jr,fun q=>by omega,G,aK _,?_,rfl⟩;have S:l*s+(m-l)*s=m*s:=by rw[<- cW];congr 1;omega
                  omega
            . cases iP
          . cases e
     . cases e
   . cases e
end
end Go.Eng
