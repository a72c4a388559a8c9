/- Lemmas of the engine. No conditions. -/
import Derived.Test.YtfihojpgobmmdaaGreatDoorJointW02
set_option linter.unusedVariables false
set_option linter.unusedSimpArgs false
set_option linter.unusedSectionVars false
namespace Go.Eng
open Go Go.RowKit
structure pW where
 conds:List (Bool×Bool)
 same:List (V×V)
 U0:ah
def pW.nil:pW:=⟨[],[],[]⟩
def pW.app(a b:pW):pW:=⟨a.conds++b.conds,a.same++b.same,a.U0++b.U0⟩
def pW.ok(p:pW):Prop:=∀c∈p.conds,c.1=c.2
def pW.good(p:pW):Prop:=(∀c∈p.same,c.1=c.2)/\∀a∈p.U0,a
theorem pW.QM{a b:pW}:(a.app b).ok↔a.ok/\b.ok:=by
 simp only[pW.ok,pW.app,aW];exact⟨fun h=>⟨fun c I=>h c (.inl I),fun c I=>h c (.inr I)⟩,fun h c I=>I.elim (h.1 c) (h.2 c)⟩
theorem pW.QN{a b:pW}:(a.app b).good↔a.good/\b.good:=by
 simp only[pW.good,pW.app,aW];exact⟨fun h=>⟨⟨fun c I=>h.1 c (.inl I),fun c I=>h.2 c (.inl I)⟩,fun c I=>h.1 c (.inr I),fun c I=>h.2 c (.inr I)⟩,
  fun h=>⟨fun c I=>I.elim (h.1.1 c) (h.2.1 c),fun c I=>I.elim (h.1.2 c) (h.2.2 c)⟩⟩
abbrev n0(α:Type):=Option (List (pW×α))
def n0.ret{α:Type}(a:α):n0 α:=some [(.nil,a)]
def pre{α:Type}(p:pW):List (pW×α)->List (pW×α)
 | []=>[]
 |e::r=>(p.app e.1,e.2)::pre p r
def n0.bind{α β:Type}:List (pW×α)->(α->n0 β)->n0 β
 | [],_=>some []
 |(p,a)::r,f=>match f a with
  |some l1=>match n0.bind r f with
   |some l2=>some (pre p l1++l2)
   |none=>none
  |none=>none
def n0.then{α β:Type}(m:n0 α)(f:α->n0 β):n0 β:=match m with
 |some l=>n0.bind l f
 |none=>none
def fE{α:Type}(m:n0 α)(r:Option α):Prop:=∀l,m=some l->(∃e∈l,e.1.ok)/\∀e∈l,e.1.ok->e.1.good->r=some e.2
theorem Gz{α:Type}{p:pW}:∀{l:List (pW×α)} {e:pW×α},e∈pre p l↔∃e'∈l,e=(p.app e'.1,e'.2)
 | [],e=>by simp[pre]
 |x::r,e=>by
  simp only[pre,aF,Gz];exact⟨fun h=>h.elim (fun q=>⟨x,.inl rfl,q⟩) fun⟨e',N,B⟩=>⟨e',.inr N,B⟩,fun⟨e',N,B⟩=>N.elim (fun q=>.inl (by rw[B,q])) fun q=>.inr ⟨e',q,B⟩⟩
theorem IC{α β:Type}{f:α->n0 β}:∀{l:List (pW×α)} {l2:List (pW×β)},n0.bind l f=some l2->(∀e∈l2,∃d∈l,∃l1,f d.2=some l1/\∃e'∈l1,e=(d.1.app e'.1,e'.2))/\(∀d∈l,∃l1,f d.2=some l1/\∀e'∈l1,(d.1.app e'.1,e'.2)∈l2)
 | [],l2,h=>by
   simp only[n0.bind,an]at h;subst h;exact⟨fun e he=>by simp at he,fun d hd=>by simp at hd⟩
 |(p,a)::r,l2,h=>by
  simp only[n0.bind]at h;split at h
  . rename_i l1 N;split at h
    . rename_i l3 h3;obtain rfl:=ek h;obtain⟨k1,k2⟩:=IC h3;refine⟨fun e he=>?_,fun d hd=>?_⟩
      . rcases aW.1 he with q|q
        . obtain⟨e',q1,q2⟩:=Gz.1 q;exact⟨(p,a),by simp,l1,N,e',q1,q2⟩
        . obtain⟨d,d1,d2⟩:=k1 e q;exact⟨d,by simp[d1],d2⟩
      . rcases aF.1 hd with rfl|hd
        . exact⟨l1,N,fun e' BH=>aW.2 (.inl (Gz.2 ⟨e',BH,rfl⟩))⟩
        . obtain⟨l1',q1,q2⟩:=k2 d hd;exact⟨l1',q1,fun e' BH=>aW.2 (.inr (q2 e' BH))⟩
    . cases h
  . cases h
theorem fE.ret{α:Type}(a:α):fE (n0.ret a) (some a):=by
 intro l h;simp only[n0.ret,an]at h;subst h;exact⟨⟨_,aq.2 rfl,fun c I=>by simp[pW.nil]at I⟩,fun e he _ _=>by simp only[aq]at he;subst he;rfl⟩
theorem fE.none{α:Type}(r:Option α):fE (none:n0 α) r:=fun l h=>by cases h
theorem fE.then{α β:Type}{m:n0 α}{f:α->n0 β}{r:Option α}{g:α->Option β}(h:fE m r)(hf:∀a,fE (f a) (g a)):fE (m.then f) (r.bind g):=by
 intro l2 e;unfold n0.then at e;split at e
 . rename_i l;obtain⟨⟨d,hd,iy⟩,B⟩:=h l rfl;obtain⟨k1,k2⟩:=IC e;refine⟨?_,fun e he akJ ZU=>?_⟩
   . obtain⟨l1,q1,q2⟩:=k2 d hd;obtain⟨⟨e',BH,UW⟩,_⟩:=hf d.2 l1 q1;exact⟨_,q2 e' BH,pW.QM.2 ⟨iy,UW⟩⟩
   . obtain⟨d,hd,l1,q1,e',BH,rfl⟩:=k1 e he;obtain⟨o1,o2⟩:=pW.QM.1 akJ;obtain⟨g1,g2⟩:=pW.QN.1 ZU;rw[B d hd o1 g1];exact(hf d.2 l1 q1).2 e' BH o2 g2
 . cases e
theorem fE.of_eq{α:Type}{m:n0 α}{r r':Option α}(h:fE m r)(e:r=r'):fE m r':=e▸h
def vx(P:Program)(t:TypeId):Option Nat:=match uN P t with
 |some e=>kV P e
 |none=>none
def qp(P:Program):List Field->ag->ag->Option Bool
 | [],_,_=>some true
 |f::fs,xs,ys=>match decide (f.name= "_")with
  |true=>none
  |false=>match P.underlying f.type,xe P f.type xs f.offset,xe P f.type ys f.offset with
   |some (.int _),some (.int k a),some (.int k' b)=>match decide (k=k')with
    |true=>match qp P fs xs ys with
     |some r=>some ((a==b)&&r)
     |none=>none
    |false=>none
   |_,_,_=>none
theorem ze{P:Program}{d:Nat}:∀{fs:List Field} {xs ys:ag} {r:Bool},qp P fs xs ys=some r->eqFields P (fun u a b=>Mq P (d+1) u a b) fs xs ys=some r
 | [],_,_,r,e=>by simpa only[qp,eqFields]using e
 |f::fs,xs,ys,r,e=>by
  simp only[qp]at e;split at e
  . cases e
  . rename_i hn;have hn:=aJ hn;split at e
    . rename_i k0 k a k' b N B h3;split at e
      . rename_i hk;have hk:=aE hk;subst hk;split at e
        . rename_i r' hr;obtain rfl:=ek e;have ih:=ze (d:=d) hr;simp only[eqFields,aH hn,B,h3];have:Mq P (d+1) f.type (.int k a) (.int k b)=some (a==b):=by simp only[Mq,N,if_true]
          rw[this];cases hab:a==b with
          |true=>simp only[Bool.true_and];exact ih
          |false=>simp only[Bool.false_and]
        . cases e
      . cases e
    . cases e
def MD(P:Program)(t:TypeId)(xs ys:ag):Option Bool:=
 match P.eqGuardType P.depth t with
 |true=>none
 |false=>match P.underlying t with
  |some (.struct od)=>match P.stoodInHeld t with
   |true=>none
   |false=>qp P od.toList xs ys
  |_=>none
theorem U1{P:Program}{d:Nat}{t:TypeId}{od:Array Field}{xs ys:ag}{r:Bool}(hu:P.underlying t=some (.struct od))(hs:P.stoodInHeld t=false)(e:qp P od.toList xs ys=some r):Mq P (d+1+1) t (.agg xs) (.agg ys)=some r:=by
 simp only[Mq,hu,hs,aO,cI];exact ze (d:=d) e
theorem ID{P:Program}{t:TypeId}{x y:Operand}{xs ys:ag}{r:Bool}(e:MD P t xs ys=some r):F0 P t x y (.agg xs) (.agg ys)=some r:=by
 unfold MD at e;split at e
 . cases e
 . rename_i hg;split at e
   . rename_i od hu;split at e
     . cases e
     . rename_i hs;simp only[F0,hg,aO,cI];exact U1 (d:=9998) hu hs e
   . cases e
def kX(P:Program)(o:Oper)(S:H V)(h:H lf)(n:Nat):Option (ah×nx):=match dJ P o S h n with
 |some r=>some ([],r)
 |none=>none
def QO(h:H lf):V->Bool
 | .dj (some (m,_)) _ _ _=>match h.get m with
   |some (.ints _ _)=>true
   |some (.own _ _)=>true
   |some (.deep _)=>true
   |some (.jf _ _ _)=>true
   |_=>false
 | .dS _ _ _=>true
 | .str _=>true
 |_=>false
def GA(h:H lf)(size:Nat)(x:V):Option (ah×Nat×Row):=
 match x with
 | .dS _ T C=>some ([C.length=T*size],T,.ds C)
 |x=>match QO h x with
 |true=>match x with
  | .dj (some (m,o)) T _ jC=>match Nat.beq jC size,(h.get m).bind lf.NN with
    |true,some (.is k ks)=>some ([0<T,o+T*size<=ks.length],T,.is k ((ks.drop o).take (T*size)))
    |true,some (.ds C)=>some ([0<T,o+T*size<=C.length],T,.ds ((C.drop o).take (T*size)))
    |_,_=>none
  | .str s=>match Nat.beq size 1 with
    |true=>some ([],s.length,.is .u8 (ef s))
    |false=>none
  |_=>none
 |false=>match jE h size x with
  |some (k,r)=>some ([],k,r)
  |none=>none
theorem tM{h:H lf}{size k:Nat}{x:V}{cS:ah}{r:Row}(e:GA h size x=some (cS,k,r))(hA:∀a∈cS,a):jE h size x=some (k,r):=by
 unfold GA at e;split at e
 . simp only[an,aB]at e;obtain⟨rfl,rfl,rfl⟩:=e;have N:=hA _ (aq.2 rfl);simp only[jE,aH N]
 split at e
 . split at e
   . rename_i m o T cp jC _ _;split at e
     . rename_i k' ks hb hr;simp only[an,aB]at e;obtain⟨rfl,rfl,rfl⟩:=e;have N:0<T:=hA _ (by simp);have B:o+T*size<=ks.length:=hA _ (by simp);have hb:=aD hb;cases W:h.get m with
       |none=>rw[W]at hr;cases hr
       |some ob=>
        rw[W]at hr;have hr:ob.NN=some (.is k' ks):=hr;cases T with
        |zero=>omega
        |succ T=>simp only[jE,hb,if_true,W,hr,Row.cut,aH B]
     . rename_i C hb hr;simp only[an,aB]at e;obtain⟨rfl,rfl,rfl⟩:=e;have N:0<T:=hA _ (by simp);have B:o+T*size<=C.length:=hA _ (by simp);have hb:=aD hb;cases W:h.get m with
       |none=>rw[W]at hr;cases hr
       |some ob=>
        rw[W]at hr;have hr:ob.NN=some (.ds C):=hr;cases T with
        |zero=>omega
        |succ T=>simp only[jE,hb,if_true,W,hr,Row.cut,aH B]
     . cases e
   . split at e
     . rename_i hb;simp only[an,aB]at e;obtain⟨rfl,rfl,rfl⟩:=e;simp only[jE,aH (aD hb)]
     . cases e
   . cases e
 . split at e
   . rename_i k' r' N;simp only[an,aB]at e;obtain⟨rfl,rfl,rfl⟩:=e;exact N
   . cases e
def Aq(T size o:Nat):Row->Option (ah×Row)
 | .is k ks=>some ([0<T,o+T*size<=ks.length],.is k ((ks.drop o).take (T*size)))
 | .ds C=>some ([o+T*size<=C.length],.ds ((C.drop o).take (T*size)))
 | .vs C=>match T with
   |0=>some ([],.vs [])
   |_=>match(Row.vs C).cut o (T*size)with
    |some r=>some ([],r)
    |none=>none
theorem Oj{T size o:Nat}{r old:Row}{cS:ah}(e:Aq T size o r=some (cS,old))(hA:∀a∈cS,a):(if r.soft=false/\T=0 then some (.vs [])else r.cut o (T*size):Option Row)=some old:=by
 cases r with
 |is k ks=>
  simp only[Aq,an,aB]at e;obtain⟨rfl,rfl⟩:=e;have N:0<T:=hA _ (by simp);have B:o+T*size<=ks.length:=hA _ (by simp);rw[aI K];simp only[Row.cut,aH B]
 |ds C=>
  simp only[Aq,an,aB]at e;obtain⟨rfl,rfl⟩:=e;have B:o+T*size<=C.length:=hA _ (by simp);rw[aI (fun q=>by have:=q.1;cases this)];simp only[Row.cut,aH B]
 |vs C=>
  cases T with
  |zero=>
   simp only[Aq,an,aB]at e;obtain⟨rfl,rfl⟩:=e;rfl
  |succ T=>
   simp only[Aq]at e;split at e
   . rename_i r' N;obtain⟨rfl,rfl⟩:=fg e;rw[aI K];exact N
   . cases e
def GB(i:TypeInfo)(z:V):Bool:=decide (0<i.size)&&(decide (0<i.bytes)&&decide (z.cells.length=i.size))
def QS(h:H lf)(m:Nat):Option (TypeId×Bool×L):=match h.get m with
 |some (.jf e f s)=>some (e,f,s)
 |_=>none
def Ar(P:Program)(eH:Array TypeId)(args:ag)(h:H lf)(n:Nat):Option (ah×nx):=
 match eH[0]?,eH[1]?,args with
 |some st,some xt,[s,x]=>match uN P st,P.underlying xt with
  |some e,some xd=>match J8 xd,P.info? e,zeroOf P e with
   |true,some i,some z=>match GB i z,GA h i.size x with
    |true,some (cS,k,new)=>match new.flat with
     |true=>match s with
      | .dj none 0 _ _=>match newObj h n (Cl e x new)with
        |some (h',n')=>some (cS++[0<k,eU k i.size i.bytes=true],.val (.dj (some (n,0)) k k i.size) h' n')
        |none=>none
      | .dS true T C=>match newObj h n ((Row.ds C).app new).EM with
        |some (h',n')=>some (cS++[0<k,eU (T+k) i.size i.bytes=true,C.length=T*i.size],.val (.dj (some (n,0)) (T+k) (T+k) i.size) h' n')
        |none=>none
      | .dj (some (m,o)) T cp jC=>match QS h m with
        |some (el,AW,s0)=>match Nat.beq jC i.size&&(Nat.blt m fP&&(Nat.beq o 0&&(Nat.beq i.size 1&&decide (el=e)))),uV new with
         |true,some t=>match newObj (h.set m none) n (.jf el AW (s0++t))with
          |some (h',n')=>some (cS++[0<cp,T=s0.length,eU (T+k) i.size i.bytes=true],.val (.dj (some (n,0)) (T+k) (T+k) jC) h' n')
          |none=>none
         |_,_=>none
        |none=>match Nat.beq jC i.size&&Nat.blt m fP,(h.get m).bind lf.row with
        |true,some r=>match Aq T i.size o r with
         |some (h2,old)=>match newObj (h.set m none) n (old.app new).EM with
          |some (h',n')=>match new.soft with
           |true=>some (cS++(h2++[eU (T+k) i.size i.bytes=true]),.val (.dj (some (n,0)) (T+k) (T+k) jC) h' n')
           |false=>some (cS++(h2++[0<k,eU (T+k) i.size i.bytes=true]),.val (.dj (some (n,0)) (T+k) (T+k) jC) h' n')
          |none=>none
         |none=>none
        |_,_=>none
      |_=>none
     |false=>none
    |_,_=>none
   |_,_,_=>none
  |_,_=>none
 |_,_,_=>none
theorem GC{P:Program}{eH:Array TypeId}{args:ag}{h:H lf}{n:Nat}{cS:ah}{r:nx}(e:Ar P eH args h n=some (cS,r))(hA:∀a∈cS,a):yB P eH args h n=some r:=by
 unfold Ar at e;split at e
 . rename_i st xt s x N B;split at e
   . rename_i el xd h3 h4;split at e
     . rename_i i z h5 h6 h7;split at e
       . rename_i A1 k new h8 h9;simp only[GB,aC,bD]at h8;split at e
         . rename_i QT;unfold yB;simp only[N,B,h3,h4,h5,h6,h7];rw[aH h8];split at e
           . cases ho:newObj h n (Cl el x new)with
             |none=>rw[ho]at e;cases e
             |some p=>
              rw[ho]at e;obtain⟨rfl,rfl⟩:=fg e;have ht:=tM h9 fun a ha=>hA a (by simp[ha]);have hk:0<k:=hA _ (by simp);have hr:eU k i.size i.bytes=true:=hA _ (by simp);rw[ht];simp only[QT,if_true];cases k with
              |zero=>omega
              |succ k=>simp only[aH hr,ho]
           . rename_i T C;cases ho:newObj h n ((Row.ds C).app new).EM with
             |none=>rw[ho]at e;cases e
             |some p=>
              rw[ho]at e;obtain⟨rfl,rfl⟩:=fg e;have ht:=tM h9 fun a ha=>hA a (by simp[ha]);have hk:0<k:=hA _ (by simp);have hr:eU (T+k) i.size i.bytes=true:=hA _ (by simp);have I:C.length=T*i.size:=hA _ (by simp);rw[ht];simp only[QT,if_true];cases k with
              |zero=>omega
              |succ k=>simp only[aH (And.intro hr I),ho]
           . rename_i m o T cp jC;split at e
             . rename_i ZV AW s0 Ga;have W:h.get m=some (.jf ZV AW s0):=by
                unfold QS at Ga;split at Ga
                . rename_i hq;cases Ga;exact hq
                . cases Ga
               split at e
               case h_2=>cases e
               rename_i t hb ht;simp only[aC]at hb;cases ho:newObj (h.set m none) n (.jf ZV AW (s0++t))with
               |none=>rw[ho]at e;cases e
               |some p=>
                rw[ho]at e;obtain⟨rfl,rfl⟩:=fg e;have htl:=tM h9 fun a ha=>hA a (by simp[ha]);have q1:0<cp:=hA _ (by simp);have q2:T=s0.length:=hA _ (by simp);have q3:eU (T+k) i.size i.bytes=true:=hA _ (by simp);rw[htl];simp only[QT,if_true];rw[aH ⟨aD hb.1,q3,au hb.2.1⟩];simp only[W,ht];rw[aH ⟨⟨aD hb.2.2.1,q1⟩,⟨Nat.le_of_eq q2,fun _=>q2⟩,aD hb.2.2.2.1,aE hb.2.2.2.2⟩];simp only[q2,aU];rw[<- q2];simp only[ho]
             rename_i hnb;split at e
             . rename_i r0 hb vc;split at e
               . rename_i h2 old oT;cases ho:newObj (h.set m none) n (old.app new).EM with
                 |none=>rw[ho]at e;cases e
                 |some p=>
                  rw[ho]at e;simp only at e;have Yt:(∀a∈A1,a)->(∀a∈h2,a)->(new.soft=false->0<k)->eU (T+k) i.size i.bytes=true->nx.val (.dj (some (n,0)) (T+k) (T+k) jC) p.1 p.2=r->
                   (match jE h i.size x with
                    |some (k,new)=>
                     if new.flat=true then
                      if jC=i.size/\eU (T+k) i.size i.bytes=true/\m<fP then
                       match h.get m with
                       |some (.jf ZV AW s0)=>match uV new with
                        |some t=>if(o=0/\0<cp)/\(T<=s0.length/\(AW=true->T=s0.length))/\(i.size=1/\ZV=el)then(match newObj (h.set m none) n (.jf ZV AW (s0.take T++t))with
                         |some (h',n')=>some (.val (.dj (some (n,0)) (T+k) (T+k) jC) h' n')
                         |none=>none)else none
                        |none=>none
                       |some ob=>match ob.row with
                        |some r=>
                         match(if r.soft=false/\T=0 then some (.vs [])else r.cut o (T*i.size):Option Row)with
                         |some old=>
                          if new.soft=false/\k=0 then some (.val (.dj (some (m,o)) T cp jC) h n)
                          else match newObj (h.set m none) n (old.app new).EM with
                           |some (h',n')=>some (.val (.dj (some (n,0)) (T+k) (T+k) jC) h' n')
                           |none=>none
                         |none=>none
                        |none=>none
                       |_=>none
                      else none
                     else none
                    |none=>none:Option nx)=some r:=by
                   intro hA1 hB hk hr IE;subst IE;have ht:=tM h9 hA1;have aem:=Oj oT hB;simp only[aC]at hb;have yO:=aD hb.1;have H8:m<fP:=au hb.2;cases W:h.get m with
                   |none=>rw[W]at vc;cases vc
                   |some ob=>
                    rw[W]at vc;have vc:ob.row=some r0:=vc;rw[ht];simp only[QT,if_true];rw[aH ⟨yO,hr,H8⟩];have aen:∀e f s,ob≠ .jf e f s:=fun e f s q=>by subst q;unfold QS at hnb;rw[W]at hnb;cases hnb
                    cases ob<;>first|exact absurd rfl (aen _ _ _)|skip
                    all_goals
                    simp only[vc,aem];rw[aI (fun q=>by have:=hk q.1;omega)];simp only[ho]
                  split at e
                  . simp only[an,aB]at e;obtain⟨rfl,IE⟩:=e;rename_i Yu;exact Yt (fun a ha=>hA a (by simp[ha])) (fun a ha=>hA a (by simp[ha])) (fun q=>by rw[q]at Yu;cases Yu) (hA _ (by simp)) IE
                  . simp only[an,aB]at e;obtain⟨rfl,IE⟩:=e;exact Yt (fun a ha=>hA a (by simp[ha])) (fun a ha=>hA a (by simp[ha])) (fun _=>hA _ (by simp)) (hA _ (by simp)) IE
               . cases e
             . cases e
           . cases e
         . cases e
       . cases e
     . cases e
   . cases e
 . cases e
def C7(P:Program)(t:TypeId)(h:H lf)(v:V)(m o:Nat)(k:IntKind)(ks:List Int):Option (ah×H lf):=
 match kV P t,pI k v.cells with
 |some s,some new=>match Nat.beq v.cells.length s&&(Nat.blt 0 s&&Nat.blt m fP)with
  |true=>some ([o+s<=ks.length],h.set m (some (.own k (fZ ks o new))))
  |false=>none
 |_,_=>none
theorem IF{P:Program}{t:TypeId}{h h':H lf}{v:V}{m o:Nat}{k:IntKind}{ks:List Int}{cS:ah}(W:h.get m=some (.own k ks))(e:C7 P t h v m o k ks=some (cS,h'))(hA:∀a∈cS,a):storeAt P t h v (.ptr (some (m,o)))=some h':=by
 unfold C7 at e;split at e
 . rename_i s new N B;split at e
   . rename_i hb;obtain⟨rfl,rfl⟩:=fg e;simp only[aC]at hb;have h3:=aD hb.1;have h4:0<s:=au hb.2.1;have h5:m<fP:=au hb.2.2;have h6:o+s<=ks.length:=hA _ (by simp);simp only[storeAt,W,N,B];rw[aH ⟨h3,h4,h5⟩,aH h6]
   . cases e
 . cases e
def GD(k:IntKind)(ks:List Int)(off sz:Nat):V:=.agg ((List.range sz).map fun j=>V.int k (ks.getD (off+j) 0))
theorem KL{P:Program}{t:TypeId}{k:IntKind}{ks:List Int}{off sz:Nat}(ha:NM P t=some true)(hs:kV P t=some sz)(hl:off+sz<=ks.length):lz P t (ks.map (.int k)) off=some (GD k ks off sz):=by
 simp only[lz,ha,hs,cut,aT,aH hl,bj,GD,an,V.agg.injEq];apply List.ext_getElem
 . simp;omega
 . intro i N B;simp at N B;have:off+i<ks.length:=by omega
   simp[List.getD,this]
def BX(P:Program)(t:TypeId)(k:IntKind)(ks:List Int)(off:Nat):Option (Prop×V):=match NM P t with
 |some false=>some (off<ks.length,.int k (ks.getD off 0))
 |some true=>match kV P t with
  |some sz=>some (off+sz<=ks.length,GD k ks off sz)
  |none=>none
 |none=>none
theorem C8{P:Program}{t:TypeId}{k:IntKind}{ks:List Int}{off:Nat}{p:Prop}{v:V}(e:BX P t k ks off=some (p,v))(hp:p):lz P t (ks.map (.int k)) off=some v:=by
 unfold BX at e;split at e
 . rename_i ZW;obtain⟨rfl,rfl⟩:=fg e;simp only[lz,ZW,bu,ay hp,bj,aM,Option.getD_some]
 . rename_i ZW;split at e
   . rename_i sz hs;obtain⟨rfl,rfl⟩:=fg e;exact KL ZW hs hp
   . cases e
 . cases e
def As(P:Program)(t:TypeId):Bool:=match P.underlying t with
 |some .string=>true
 |_=>false
theorem wE{P:Program}{t:TypeId}(h:As P t=true):P.underlying t=some .string:=by
 unfold As at h;split at h
 . assumption
 . cases h
def Bj(P:Program)(o:Oper)(S:H V)(h:H lf)(n:Nat):Option (ah×nx):=
 match o.op with
 | .indexAddr t x i=>match iY S x,iY S i with
   |some (.dj (some (m,off)) T _ jC),some (.int _ ix)=>match vx P t with
    |some s=>match Nat.beq s jC with
     |true=>some ([0<=ix/\ix<T],.val (.ptr (some (m,off+ix.toNat*s))) h n)
     |false=>none
    |none=>none
   |_,_=>kX P o S h n
 | .load t a=>match iY S a with
   |some (.ptr (some (m,off)))=>match h.get m with
    |some (.ints k ks)=>match BX P t k ks off with
     |some (p,v)=>some ([p],.val v h n)
     |none=>none
    |some (.own k ks)=>match BX P t k ks off with
     |some (p,v)=>some ([p],.val v h n)
     |none=>none
    |_=>kX P o S h n
   |_=>kX P o S h n
 | .store t a x=>match iY S a,iY S x with
   |some (.ptr (some (m,off))),some v=>match h.get m with
    |some (.own k ks)=>match C7 P t h v m off k ks with
     |some (cS,h')=>some (cS,.val (.ew []) h' n)
     |none=>none
    |_=>kX P o S h n
   |_,_=>kX P o S h n
 | .call c=>match c.callee with
   | .builtin .append=>match uW S c.args.toList with
     |some [s,x]=>match QO h s||QO h x with
      |true=>match Nat.beq c.argTypes.size 2 with
       |true=>Ar P c.argTypes [s,x] h n
       |false=>none
      |false=>kX P o S h n
     |_=>kX P o S h n
   |_=>kX P o S h n
 | .slice t x (some lo) (some hi) none=>match iY S x,iY S lo,iY S hi with
   |some (.dj a T A jC),some (.int _ lx),some (.int _ G)=>match vx P t with
    |some s=>match Nat.beq s jC||a.isNone with
     |true=>some ([0<=G/\G<=A,0<=lx/\lx<=G.toNat],.val (.dj (match a with|none=>none|some (b,o)=>some (b,o+lx.toNat*jC)) (G.toNat-lx.toNat) (A-lx.toNat) jC) h n)
     |false=>none
    |none=>none
   |some (.str s),some (.int _ lx),some (.int _ G)=>match As P t with
    |true=>some ([0<=G/\G<=s.length,0<=lx/\lx<=G.toNat],.val (.str ((s.take G.toNat).drop lx.toNat)) h n)
    |false=>none
   |_,_,_=>kX P o S h n
 | .slice t x none (some hi) none=>match iY S x,iY S hi with
   |some (.dj a T A jC),some (.int _ G)=>match vx P t with
    |some s=>match Nat.beq s jC||a.isNone with
     |true=>some ([0<=G/\G<=A],.val (.dj (match a with|none=>none|some (b,o)=>some (b,o+0*jC)) (G.toNat-0) (A-0) jC) h n)
     |false=>none
    |none=>none
   |some (.str s),some (.int _ G)=>match As P t with
    |true=>some ([0<=G/\G<=s.length],.val (.str ((s.take G.toNat).drop 0)) h n)
    |false=>none
   |_,_=>kX P o S h n
 | .slice t x (some lo) none none=>match iY S x,iY S lo with
   |some (.dj a T A jC),some (.int _ lx)=>match vx P t with
    |some s=>match Nat.beq s jC||a.isNone with
     |true=>some ([0<=lx/\lx<=T],.val (.dj (match a with|none=>none|some (b,o)=>some (b,o+lx.toNat*jC)) (T-lx.toNat) (A-lx.toNat) jC) h n)
     |false=>none
    |none=>none
   |some (.str s),some (.int _ lx)=>match As P t with
    |true=>some ([0<=lx/\lx<=s.length],.val (.str ((s.take s.length).drop lx.toNat)) h n)
    |false=>none
   |_,_=>kX P o S h n
 | .binOp .eql t x y _=>match iY S x,iY S y with
   |some (.agg xs),some (.agg ys)=>match MD P t xs ys with
    |some r=>some ([],.val (.bool r) h n)
    |none=>none
   |_,_=>kX P o S h n
 | .binOp .neq t x y _=>match iY S x,iY S y with
   |some (.agg xs),some (.agg ys)=>match MD P t xs ys with
    |some r=>some ([],.val (.bool (!r)) h n)
    |none=>none
   |_,_=>kX P o S h n
 | .binOp .quo t x y _=>match iY S x,iY S y with
   |some (.int k a),some (.int k' b)=>match decide (k=k')with
    |true=>some ([b≠0],.val (.int k (k.wrap (a.tdiv b))) h n)
    |false=>none
   |_,_=>kX P o S h n
 | .index t x i=>match iY S x,iY S i with
   |some (.str s),some (.int _ ix)=>match As P t with
    |true=>some ([0<=ix/\ix.toNat<s.length],.val (.int .u8 (s.getD ix.toNat 0).toNat) h n)
    |false=>none
   |_,_=>kX P o S h n
 |_=>kX P o S h n
theorem ik{P:Program}{o:Oper}{S:H V}{h:H lf}{n:Nat}{l:ah}{r:nx}(e:kX P o S h n=some (l,r)):dJ P o S h n=some r:=by
 unfold kX at e;split at e
 . rename_i r' hr;simp only[an,aB]at e;obtain⟨_,rfl⟩:=e;exact hr
 . cases e
theorem qq{P:Program}{t:TypeId}{s:Nat}(e:vx P t=some s):∃el,P.underlying t=some (.slice el)/\kV P el=some s:=by
 unfold vx uN at e;cases hu:P.underlying t with
 |none=>simp[hu]at e
 |some d=>cases d<;>simp[hu]at e
          exact⟨_,rfl,e⟩
theorem sI{P:Program}{o:Oper}{S:H V}{h:H lf}{n:Nat}{l:ah}{r:nx}(e:Bj P o S h n=some (l,r))(hl:∀p∈l,p):dJ P o S h n=some r:=by
 unfold Bj at e;split at e
 . rename_i t x i ho;split at e
   . rename_i m off T cp jC k ix G hi;split at e
     . rename_i s hs;split at e
       . rename_i hb;obtain⟨rfl,rfl⟩:=fg e;have hb:=aD hb;subst hb;obtain⟨el,N,B⟩:=qq hs;have I:=hl _ (aq.2 rfl);simp only[dJ,ho,G,hi,og,N,B,ng];rw[aH (by exact⟨I.1,I.2,trivial⟩)]
       . cases e
     . cases e
   . exact ik e
 . rename_i t a ho;split at e
   . rename_i m off ha;split at e
     . rename_i k ks W;split at e
       . rename_i p v hs;obtain⟨rfl,rfl⟩:=fg e;have hp:p:=hl _ (aq.2 rfl);simp only[dJ,ho,ha,loadAt,W,C8 hs hp,ng]
       . cases e
     . rename_i k ks W;split at e
       . rename_i p v hs;obtain⟨rfl,rfl⟩:=fg e;have hp:p:=hl _ (aq.2 rfl);simp only[dJ,ho,ha,loadAt,W,C8 hs hp,ng]
       . cases e
     . exact ik e
   . exact ik e
 . rename_i t a x ho;split at e
   . rename_i m off v ha G;split at e
     . rename_i k ks W;split at e
       . rename_i cS h' hs;obtain⟨rfl,rfl⟩:=fg e;simp only[dJ,ho,ha,G,IF W hs hl]
       . cases e
     . exact ik e
   . exact ik e
 . rename_i c ho;split at e
   . rename_i I;split at e
     . rename_i s x nY;split at e
       . split at e
         . rename_i hb;have hb:=aD hb;simp only[dJ,ho,xg,nY,I,lA,hb,if_true];exact GC e hl
         . cases e
       . exact ik e
     . exact ik e
   . exact ik e
 . rename_i t x lo hi ho;split at e
   . rename_i a T cp jC k lx k2 G td yQ Mx;split at e
     . rename_i s hs;split at e
       . rename_i hb;obtain⟨rfl,rfl⟩:=fg e;obtain⟨el,N,B⟩:=qq hs;have I:=hl _ (aP ..);have IG:=hl _ (aK _ (aq.2 rfl));have Gq:s=jC\/a=none:=by
          simp only[bU,Option.isNone_iff_eq_none]at hb;exact hb.imp aD _root_.id
         simp only[dJ,ho,td,yQ,Mx,mJ,mH,N,B,ng,Option.isSome_none,aO,false_and,cI];rw[aH Gq];simp only[eO,aH I,aH IG];cases a<;>rfl
       . cases e
     . cases e
   . rename_i s k lx k2 G td yQ Mx;split at e
     . rename_i hs;obtain⟨rfl,rfl⟩:=fg e;have I:=hl _ (aP ..);have IG:=hl _ (aK _ (aq.2 rfl));simp only[dJ,ho,td,yQ,Mx,mJ,mH,wE hs,ng,Option.isSome_none,aO,false_and,cI,eO,aH I,aH IG]
     . cases e
   . exact ik e
 . rename_i t x hi ho;split at e
   . rename_i a T cp jC k G td Mx;split at e
     . rename_i s hs;split at e
       . rename_i hb;obtain⟨rfl,rfl⟩:=fg e;obtain⟨el,N,B⟩:=qq hs;have I:=hl _ (aq.2 rfl);have Gq:s=jC\/a=none:=by
          simp only[bU,Option.isNone_iff_eq_none]at hb;exact hb.imp aD _root_.id
         simp only[dJ,ho,td,Mx,mJ,mH,N,B,ng,Option.isSome_none,aO,false_and,cI];rw[aH Gq];simp only[eO,aH I];cases a<;>rfl
       . cases e
     . cases e
   . rename_i s k G td Mx;split at e
     . rename_i hs;obtain⟨rfl,rfl⟩:=fg e;have I:=hl _ (aq.2 rfl);simp only[dJ,ho,td,Mx,mJ,mH,wE hs,ng,Option.isSome_none,aO,false_and,cI,eO,aH I]
     . cases e
   . exact ik e
 . rename_i t x lo ho;split at e
   . rename_i a T cp jC k lx td Mx;split at e
     . rename_i s hs;split at e
       . rename_i hb;obtain⟨rfl,rfl⟩:=fg e;obtain⟨el,N,B⟩:=qq hs;have I:=hl _ (aq.2 rfl);have Gq:s=jC\/a=none:=by
          simp only[bU,Option.isNone_iff_eq_none]at hb;exact hb.imp aD _root_.id
         simp only[dJ,ho,td,Mx,mJ,mH,N,B,ng,Option.isSome_none,aO,false_and,cI];rw[aH Gq];simp only[eO,aH I];cases a<;>rfl
       . cases e
     . cases e
   . rename_i s k lx td Mx;split at e
     . rename_i hs;obtain⟨rfl,rfl⟩:=fg e;have I:=hl _ (aq.2 rfl);simp only[dJ,ho,td,Mx,mJ,mH,wE hs,ng,Option.isSome_none,aO,false_and,cI,eO,aH I]
     . cases e
   . exact ik e
 . rename_i t x y yt ho;split at e
   . rename_i xs ys G hy;split at e
     . rename_i r hr;obtain⟨rfl,rfl⟩:=fg e;simp only[dJ,ho,G,hy,Ci,ID hr,bj,ng]
     . cases e
   . exact ik e
 . rename_i t x y yt ho;split at e
   . rename_i xs ys G hy;split at e
     . rename_i r hr;obtain⟨rfl,rfl⟩:=fg e;simp only[dJ,ho,G,hy,Ci,ID hr,bj,ng]
     . cases e
   . exact ik e
 . rename_i t x y yt ho;split at e
   . rename_i k a k' b G hy;split at e
     . rename_i hk;have hk:=aE hk;subst hk;obtain⟨rfl,rfl⟩:=fg e;have hb:b≠0:=hl _ (aq.2 rfl);have:Ci P .quo t x y (.int k a) (.int k b)=some (.int k (k.wrap (a.tdiv b))):=by
        simp[Ci,binOp,Op.intDiv,hb,tg,iP];rfl
       simp only[dJ,ho,G,hy,this,ng]
     . cases e
   . exact ik e
 . rename_i t x i ho;split at e
   . rename_i s k ix G hi;split at e
     . rename_i hs;obtain⟨rfl,rfl⟩:=fg e;have I:0<=ix/\ix.toNat<s.length:=hl _ (aq.2 rfl);have hg:s[ix.toNat]? =some s[ix.toNat]:=ay I.2;have hd:s.getD ix.toNat 0=s[ix.toNat]:=by rw[aM,hg];rfl
       simp only[dJ,ho,G,hi,F1,wE hs,aH I.1,hg,hd,ng]
     . cases e
   . exact ik e
 . exact ik e
inductive oZ where
 |split
 |di (v:V)
def Yv:List (Nat×oZ)->Nat->Option oZ
 | [],_=>none
 |x::r,d=>match Nat.beq x.1 d with
  |true=>some x.2
  |false=>Yv r d
section
variable(Tr:List (Nat×oZ))(dst:Option Nat)
def KM(v:V):n0 V:=
 match dst with
 |none=>.ret v
 |some d=>match Yv Tr d with
  |none=>.ret v
  |some (.di u)=>some [(⟨[],[],[v=u]⟩,u)]
  |some .split=>match v with
   | .bool c=>some [(⟨[(c,true)],[],[]⟩,.bool true),(⟨[(c,false)],[],[]⟩,.bool false)]
   |v=>.ret v
theorem qQ(v:V):fE (KM Tr dst v) (some v):=by
 unfold KM;split
 . exact .ret v
 . split
   . exact .ret v
   . rename_i u hu;intro l h;obtain rfl:=ek h;refine⟨⟨_,aq.2 rfl,fun c I=>by simp at I⟩,fun e he _ hg=>?_⟩;simp only[aq]at he;subst he;have:v=u:=hg.2 _ (aq.2 rfl);rw[this]
   . split
     . rename_i c;intro l h;obtain rfl:=ek h;refine⟨?_,fun e he ho _=>?_⟩
       . cases I:c with
         |true=>exact⟨(⟨[(true,true)],[],[]⟩,.bool true),by simp,fun x G=>by simp only[aq]at G;subst G;rfl⟩
         |false=>exact⟨(⟨[(false,false)],[],[]⟩,.bool false),by simp,fun x G=>by simp only[aq]at G;subst G;rfl⟩
       . simp only[aF,aL,bw]at he;rcases he with rfl|rfl
         . have:c=true:=ho (c,true) (aq.2 rfl);rw[this]
         . have:c=false:=ho (c,false) (aq.2 rfl);rw[this]
     . exact .ret _
end
abbrev Ctr:=FuncId->ag->H lf->Option (ah×V)
def qi:Option (PV×H lf×Nat)->Option (V×H lf×Nat)
 |some (.ret v,h,n)=>some (v,h,n)
 |_=>none
theorem qR{α:Type}{m:n0 α}{r r':Option α}(h:fE m r)(e:∀a,r=some a->r'=some a):fE m r':=by
 intro l hl;obtain⟨N,B⟩:=h l hl;exact⟨N,fun x G ho hg=>e _ (B x G ho hg)⟩
section
variable(P:Program)(fr:Ctr)(cf:fT)(Tr:List (Nat×oZ))
theorem tN{α β:Type}(a:α)(g:α->Option β):(some a).bind g=g a:=rfl
def Ol{α β:Type}:Option (α ⊕ β)->Option α
 |some (.inl a)=>some a
 |_=>none
def BY(f:St->n0 (fl×St)):Nat->St->n0 (fl×St)
 |0,_=>none
 |k+1,s=>(f s).then fun p=>match p.1 with
  | .normal=>BY f k p.2
  |_=>.ret p
theorem xo{f:St->n0 (fl×St)}{g:St->Option (fl×St)}(h:∀s,fE (f s) (g s)):∀(k:Nat) (s:St),fE (BY f k s) (rounds g k s)
 |0,s=>.none _
 |k+1,s=>by
  simp only[BY,rounds];refine(fE.then (h s) (g:=fun p=>match p.1 with | .normal=>rounds g k p.2|_=>some p) (fun p=>?_)).of_eq ?_
  . obtain⟨x,s'⟩:=p;cases x with
    |normal=>exact xo h k s'
    |_=>exact .ret _
  . cases g s with
    |none=>rfl
    |some p=>obtain⟨x,s'⟩:=p;cases x<;>rfl
end
section
variable{P:Program}{fr:Ctr}{cf:fT}{Tr:List (Nat×oZ)}{rt h1:Nat}{w0:World}{c:Code}{s:St}{es:Exit->St->Prop}
def vy{α:Type}(f:fl×St->α):List (pW×fl×St)->List (List (Bool×Bool)×ah×α)
 | []=>[]
 |(p,x)::r=>(p.conds,p.U0,f x)::vy f r
def qT{α:Type}:List (pW×α)->ag
 | []=>[]
 |(p,_)::r=>p.same.map (·.1)++qT r
def vz{α:Type}:List (pW×α)->ag
 | []=>[]
 |(p,_)::r=>p.same.map (·.2)++vz r
def zf{α:Type}:n0 α->List (pW×α)
 |some l=>l
 |none=>[]
theorem II:∀{l:List (V×V)},l.map (·.1)=l.map (·.2)->∀c∈l,c.1=c.2
 | [],_,c,I=>by simp at I
 |x::r,h,c,I=>by
  simp only[bY,List.cons.injEq]at h;rcases aF.1 I with rfl|I
  . exact h.1
  . exact II h.2 c I
theorem zg{α:Type}:∀(l:List (pW×α)),qT l=vz l->∀p∈l,∀c∈p.1.same,c.1=c.2
 | [],_,p,hp=>by simp at hp
 |(q,x)::r,h,p,hp=>by
  simp only[qT,vz]at h;have hl:(q.same.map (·.1)).length=(q.same.map (·.2)).length:=by simp
  obtain⟨N,B⟩:=List.append_inj h hl;rcases aF.1 hp with rfl|hp
  . exact II N
  . exact zg r B p hp
theorem sJ{α:Type}{f:fl×St->α}:∀{l:List (pW×fl×St)} {p:pW×fl×St},p∈l->(p.1.conds,p.1.U0,f p.2)∈vy f l
 | [],p,hp=>by simp at hp
 |(q,x)::r,p,hp=>by
  rcases aF.1 hp with rfl|hp
  . simp[vy]
  . simp only[vy,aF];exact .inr (sJ hp)
end
theorem C9{E:Env}{h:H lf}{n:Nat}{w:World}{v:V}(g:Good E h w)(hd:qH E n)(hv:v.free=true){e:Ending}{w':World}(ho:∃E',tE E' (.ret v) e)(b:Below w.heap.size w w'):jI E h n w (.ret v) h n e w':=by
 refine⟨E,.below g b,fun _ _=>rfl,hd,aA _,?_⟩
 . obtain⟨E1,ho⟩:=ho;cases e with
   |returned v'=>exact CW _ _ hv ho
   |_=>exact ho.elim
def QU(P:Program)(f:FuncId)(spec:ag->H lf->Option (ah×V)):Prop:=f<P.funcs.size/\∀args h cS v,spec args h=some (cS,v)->v.free=true/\((∀a∈cS,a)->
 ∀E n w de,dL E args de->Good E h w->qH E n->callee P f=true->Calls P f de.toArray w fun e w'=>(∃E',tE E' (.ret v) e)/\Below w.heap.size w w')
def cU(args:ag)(h:H lf)(n:Nat):St:={ S:=lU args 0 .nil,h:=h,n:=n,gG:=[] }
section
variable{P:Program}{fr:Ctr}{cf:fT}{Tr:List (Nat×oZ)}{rt:Nat}{f:FuncId}{fn:Func}{code:Code}
end
def Env.two(E:Env)(a b:Option Nat):Env:=⟨fun j=>match j with|0=>a.bind E.ι|1=>b.bind E.ι|_=>none,E.β,E.φ⟩
section
variable{P:Program}{fr:Ctr}{cf:fT}{Tr:List (Nat×oZ)}{rt h1:Nat}{w0:World}{c:Code}{s:St}{es:Exit->St->Prop}
def akL(P:Program)(cf:fT)(rt:Nat)(fn:Func)(v:V)(y:Exit)(s':St):Prop:=(y= .normal\/y= .ret)/\∃h' n',nW P cf rt fn s'.S s'.gG .ret s'.h s'.n=some (.ret v,h',n')
inductive Res where
 |next (s:St)
 |exit (id:Nat) (s:St)
 |ret (v:V)
 |bad
def Res.post(P:Program)(cf:fT)(rt:Nat)(fn:Func)(live:List Nat)(hc:Nat->St->Prop)(k:Nat)(es:Exit->St->Prop):Res->Prop
 | .next s=>∃k',k'<k/\hc k' s
 | .exit id s=>∀s',norm live s'=some s->es (.exit id) s'
 | .ret v=>∀s',akL P cf rt fn v .ret s'->es .ret s'
 | .bad=>False
end
def xp:Code->Array Oper | .region _ ops _=>ops|_=>#[]
section
variable{P:Program}{fr:Ctr}{cf:fT}{rt h1:Nat}{w0:World}{c:Code}{s:St}{es:Exit->St->Prop}
theorem Om{rt:Fence}{n:Nat}{o:Oper}{a:Act}{w:World}{be K':Act->World->Prop}{es Q':Exit->Act->World->Prop}(hk:∀a w,be a w->K' a w)(hq:∀y a w,y≠ .normal->es y a w->Q' y a w)(h:o.wpIn rt n P a w be es):o.wpIn rt n P a w K' Q':=by
 have aeo:LetsOut es->LetsOut Q':=fun⟨a,w,q⟩=>⟨a,w,hq _ a w (by simp) q⟩;unfold Oper.wpIn at *;refine⟨h.1,?_⟩;have hh:=h.2;generalize (o.semAt rt.round a.eval).run P w=r at *;cases r with
 |ok x w'=>
  cases x<;>simp only[Oper.uponIn]at hh⊢ <;>
   first
    |exact hk _ _ hh
    |exact⟨hh.1,CallsIn.mono hh.2 (fun e w'' he=>by cases e<;>first|exact hk _ _ he|exact hq _ _ _ (by simp) he|exact aeo he)⟩
    |exact⟨hh.1,RowsIn.mono hh.2 (fun _ _ he=>hk _ _ he)⟩
    |exact⟨hh.1,RoundIn.mono hh.2 (fun e w'' he=>by cases e<;>first|exact hk _ _ he|exact hq _ _ _ (by simp) he|exact aeo he)⟩
    |exact hh
 |halt x w'=>cases x<;>simp only[Oper.uponIn]at hh⊢<;>first|exact hq _ _ _ (by simp) hh|exact hh
end
theorem Ev.fresh{w0 w:World}{E:Env}{h:H lf}{q:Nat}{o:lf}(u:Ev w0 E h w)(hq:h.get q=some o)(hw:o.wr=true):∀b s,E.ι q=some (b,s)->w0.heap.size<=b:=by
 intro b s e;by_cases q':b<w0.heap.size
 . exact(u.s9 q b s ⟨_,hq,hw⟩ e q').elim
 . omega
abbrev fb:=FuncId->ag->H lf->Nat->n0 (V×H lf×Nat)
def pP(C:fb)(cf:fT):Prop:=∀f args h n,fE (C f args h n) (qi (cf f args h n))
def oB(P:Program)(o:Oper)(S:H V)(h:H lf)(n:Nat):Option (ah×nx):=
 match o.op with
 | .binOp .add t x y _=>match iY S x,iY S y with
   |some (.str a),some (.str b)=>some ([a.length+b.length<=xD],.val (.str (a++b)) h n)
   |_,_=>Bj P o S h n
 | .binOp .rem t x (.tmp y) _=>match iY S x,S.get y with
   |some (.int k a),some (.int k' b)=>match decide (k=k')with
    |true=>some ([b≠0],.val (.int k (a.tmod b)) h n)
    |false=>none
   |_,_=>Bj P o S h n
 | .indexAddr t x (.tmp i)=>match iY S x,S.get i with
   |some (.ptr (some (m,off))),some (.int _ ix)=>match P.underlying t with
    |some (.array T e)=>match kV P e with
     |some s=>some ([0<=ix/\ix<T],.val (.ptr (some (m,off+ix.toNat*s))) h n)
     |none=>none
    |_=>Bj P o S h n
   |_,_=>Bj P o S h n
 | .makeSlice t (.tmp l) (.tmp c)=>match uN P t,S.get l,S.get c with
   |some e,some (.int _ lv),some (.int _ cv)=>match P.info? e,zeroOf P e with
    |some i,some z=>match GB i z,newObj h n (vX z.cells (IntKind.i64.wrap cv).toNat).EM with
     |true,some (h',n')=>some ([0<=IntKind.i64.wrap lv/\IntKind.i64.wrap lv<=IntKind.i64.wrap cv/\i.bytes*IntKind.i64.wrap cv<=281474976710656],.val (.dj (some (n,0)) (IntKind.i64.wrap lv).toNat (IntKind.i64.wrap cv).toNat i.size) h' n')
     |_,_=>none
    |_,_=>none
   |_,_,_=>Bj P o S h n
 |_=>Bj P o S h n
theorem kg{P:Program}{o:Oper}{S:H V}{h:H lf}{n:Nat}{l:ah}{r:nx}(e:oB P o S h n=some (l,r))(hl:∀p∈l,p):dJ P o S h n=some r:=by
 unfold oB at e;split at e
 . rename_i t x y u ho;split at e
   . rename_i a b ha hb;obtain⟨rfl,rfl⟩:=fg e;have iQ:=hl _ (aq.2 rfl);unfold dJ;rw[ho];simp only[ha,hb];unfold Ci PR;simp only[aH iQ,ng]
   . exact sI e hl
 . rename_i t x y yt ho;split at e
   . rename_i k a k' b G hy;split at e
     . rename_i hk;have hk:=aE hk;subst hk;obtain⟨rfl,rfl⟩:=fg e;have hb:b≠0:=hl _ (aq.2 rfl);have hy':iY S (.tmp y)=some (.int k b):=hy;have:Ci P .rem t x (.tmp y) (.int k a) (.int k b)=some (.int k (a.tmod b)):=by
        simp[Ci,binOp,Op.intDiv,hb,tg,iP];rfl
       simp only[dJ,ho,G,hy',this,ng]
     . cases e
   . exact sI e hl
 . rename_i t x i ho;split at e
   . rename_i m off k ix G hi;split at e
     . rename_i T el hu;split at e
       . rename_i sz hs;obtain⟨rfl,rfl⟩:=fg e;have Yw:=hl _ (aq.2 rfl);have kI:iY S (.tmp i)=some (.int k ix):=hi;unfold dJ;rw[ho];simp only[G,kI];unfold og;simp only[hu,hs,aH Yw,ng]
       . cases e
     . exact sI e hl
   . exact sI e hl
 . rename_i t l1 c1 ho;split at e
   . rename_i el k1 lv k2 cv he N B;split at e
     . rename_i i z hi hz;split at e
       . rename_i h' n' hb hn;obtain⟨rfl,rfl⟩:=fg e;simp only[GB,aC,bD]at hb;have Yw:=hl _ (aq.2 rfl);have mA:iY S (.tmp l1)=some (.int k1 lv):=N;have UG:iY S (.tmp c1)=some (.int k2 cv):=B;unfold dJ;rw[ho];simp only[mA,UG];unfold oe;simp only[he,hi,hz];rw[aH ⟨hb.1,hb.2.2,Yw.1,Yw.2.1,Yw.2.2⟩];simp only[hn]
       . cases e
     . cases e
   . exact sI e hl
 . exact sI e hl
def dF(C:ai)(o size:Nat):ai:=(C.drop o).take size
def rs.uP:rs:=.bool false
def Da(P:Program)(t:TypeId)(C:ai)(off:Nat):Option (Prop×V):=match NM P t with
 |some false=>some (off<C.length,(C.getD off rs.uP).iZ)
 |some true=>match kV P t with
  |some sz=>some (off+sz<=C.length,.agg (rs.l6 (dF C off sz)))
  |none=>none
 |none=>none
theorem IJ{P:Program}{t:TypeId}{C:ai}{off:Nat}{p:Prop}{v:V}(e:Da P t C off=some (p,v))(hp:p):lz P t (rs.l6 C) off=some v:=by
 unfold Da at e;split at e
 . rename_i ZW;obtain⟨rfl,rfl⟩:=fg e;simp only[lz,ZW,rs.gB,bu,ay hp,bj,aM,Option.getD_some]
 . rename_i ZW;split at e
   . rename_i sz hs;obtain⟨rfl,rfl⟩:=fg e;simp only[lz,ZW,hs,cut,rs.gB,aT,aH hp,bj,dF,cN,List.map_drop]
   . cases e
 . cases e
def Au(P:Program)(t:TypeId)(h:H lf)(v:V)(m o:Nat)(C:ai):Option (ah×H lf):=
 match kV P t,iC v.cells with
 |some s,some new=>match Nat.beq v.cells.length s&&(Nat.blt 0 s&&Nat.blt m fP)with
  |true=>some ([o+s<=C.length],h.set m (some (.deep (nV C o new))))
  |false=>none
 |_,_=>none
theorem GF{P:Program}{t:TypeId}{h h':H lf}{v:V}{m o:Nat}{C:ai}{cS:ah}(W:h.get m=some (.deep C))(e:Au P t h v m o C=some (cS,h'))(hA:∀a∈cS,a):storeAt P t h v (.ptr (some (m,o)))=some h':=by
 unfold Au at e;split at e
 . rename_i s new N B;split at e
   . rename_i hb;obtain⟨rfl,rfl⟩:=fg e;simp only[aC]at hb;have h3:=aD hb.1;have h4:0<s:=au hb.2.1;have h5:m<fP:=au hb.2.2;have h6:o+s<=C.length:=hA _ (by simp);simp only[storeAt,W,N,B];rw[aH ⟨h3,h4,h5⟩,aH h6]
   . cases e
 . cases e
def qU(uP:Nat)(y:Nat):Option V->Option (ah×Nat)
 |none=>some ([],uP)
 |some (.int _ i)=>some ([0<=i/\i<=y],i.toNat)
 |some _=>none
theorem o5{uP y r:Nat}{o:Option V}{cS:ah}(e:qU uP y o=some (cS,r))(hA:∀a∈cS,a):eO uP y o=some r:=by
 unfold qU at e;split at e
 . simp only[an,aB]at e;obtain⟨_,rfl⟩:=e;rfl
 . obtain⟨rfl,rfl⟩:=fg e;simp only[eO,aH (hA _ (aq.2 rfl))]
 . cases e
def Av(s:Nat)(f:Bool)(T:Nat)(C:ai)(lo hi mx:Option V):Option (ah×V):=
 match mx with
 |none=>match qU T T hi with
  |some (cS,h)=>match qU 0 h lo with
   |some (h2,l)=>some ((C.length=T*s)::(cS++h2),.dS (f&& !hi.isSome) (h-l) (dF C (l*s) ((h-l)*s)))
   |none=>none
  |none=>none
 |some mv=>match qU T T (some mv),hi with
  |some (cs,m),some hv=>match qU T m (some hv)with
   |some (cS,h)=>match qU 0 h lo with
    |some (h2,l)=>some ((C.length=T*s)::(h=m)::(cs++(cS++h2)),.dS true (h-l) (dF C (l*s) ((h-l)*s)))
    |none=>none
   |none=>none
  |_,_=>none
theorem GG{P:Program}{t el:TypeId}{s T:Nat}{f:Bool}{C:ai}{lo hi mx:Option V}{h:H lf}{cS:ah}{v:V}(hu:P.underlying t=some (.slice el))(hs:kV P el=some s)
  (e:Av s f T C lo hi mx=some (cS,v)) (hA:∀a∈cS,a):mH P t h (.dS f T C) lo hi mx=some v:=by
 unfold Av at e;split at e
 . split at e
   case h_2=>cases e
   rename_i A1 hh N;split at e
   case h_2=>cases e
   rename_i B1 l B;obtain⟨rfl,rfl⟩:=fg e;have k1:=o5 N fun a ha=>hA a (by simp[ha]);have k2:=o5 B fun a ha=>hA a (by simp[ha]);have k3:C.length=T*s:=hA _ (by simp);unfold mH;rw[aI (by simp)];simp only[hu,hs,aH k3,k1,k2,dF]
 . split at e
   case h_2=>cases e
   rename_i cs m hv h0;split at e
   case h_2=>cases e
   rename_i A1 hh N;split at e
   case h_2=>cases e
   rename_i B1 l B;obtain⟨rfl,rfl⟩:=fg e;have k0:=o5 h0 fun a ha=>hA a (by simp[ha]);have k1:=o5 N fun a ha=>hA a (by simp[ha]);have k2:=o5 B fun a ha=>hA a (by simp[ha]);have k3:C.length=T*s:=hA _ (by simp);have k4:hh=m:=hA _ (by simp);unfold mH;rw[aI (by simp)];simp only[hu,hs,aH k3,k0,k1,k2,aH k4,dF]
def QV(P:Program)(t:TypeId):Bool:=match P.underlying t with
 |some (.slice _)=>true
 |_=>false
def KN(P:Program)(o:Oper)(S:H V)(h:H lf)(n:Nat):Option (ah×nx):=
 match o.op with
 | .load t a=>match iY S a with
   |some (.ptr (some (m,off)))=>match h.get m with
    |some (.deep C)=>match Da P t C off with
     |some (p,v)=>some ([p],.val v h n)
     |none=>none
    |_=>oB P o S h n
   |_=>oB P o S h n
 | .store t a x=>match iY S a,iY S x with
   |some (.ptr (some (m,off))),some v=>match h.get m with
    |some (.deep C)=>match Au P t h v m off C with
     |some (cS,h')=>some (cS,.val (.ew []) h' n)
     |none=>none
    |_=>oB P o S h n
   |_,_=>oB P o S h n
 | .indexAddr t x i=>match iY S x,iY S i with
   |some (.dS _ T C),some (.int _ ix)=>match vx P t with
    |some s=>some ([0<=ix/\ix<T,C.length=T*s],.val (.dx (dF C (ix.toNat*s) s)) h n)
    |none=>none
   |_,_=>oB P o S h n
 | .slice t x lo hi mx=>match iY S x with
   |some (.dS f T C)=>match vx P t,mJ S lo,mJ S hi,mJ S mx with
    |some s,some lo,some hi,some mx=>match Av s f T C lo hi mx with
     |some (cS,v)=>some (cS,.val v h n)
     |none=>none
    |_,_,_,_=>none
   |_=>oB P o S h n
 | .convert Mr dst x=>match iY S x with
   |some (.dj (some (m,off)) T _ jC)=>match uO (h.get m)with
    |some s0=>match P.underlying Mr,P.underlying dst,Nat.beq jC 1 with
     |some (.slice e),some .string,true=>match P.underlying e with
      |some (.int .u8)=>some ([off+T<=s0.length],.val (.str ((s0.drop off).take T)) h n)
      |_=>none
     |_,_,_=>none
    |none=>match AY (h.get m)with
    |some ks=>match P.underlying Mr,P.underlying dst,Nat.beq jC 1 with
     |some (.slice e),some .string,true=>match P.underlying e with
      |some (.int .u8)=>some ([off+T<=ks.length],.val (.str (eT ((ks.drop off).take T))) h n)
      |_=>none
     |_,_,_=>none
    |none=>oB P o S h n
   |_=>oB P o S h n
 | .call c=>match c.callee,uW S c.args.toList with
   | .builtin .unsafeSliceData,some [.dj (some (m,off)) _ A _]=>some ([0<A],.val (.ptr (some (m,off))) h n)
   | .builtin .unsafeString,some [.ptr (some (m,0)),.int .i64 l]=>match c.argTypes[0]? with
     |some pt=>match P.underlying pt,h.get m with
      |some (.pointer e),some (.jf el _ s)=>match decide (el=e)&&(Nat.beq (P.cellsOf e) 1&&(Nat.blt m fP&&Nat.beq c.argTypes.size 2))with
       |true=>some ([l=s.length/\0<s.length,s.length<=xD],.val (.str s) (h.set m (some (.jf el true s))) n)
       |false=>none
      |_,_=>none
     |none=>none
   |_,_=>oB P o S h n
 | .binOp .eql t x y _=>match iY S x,iY S y with
   |some (.dS _ k _),some (.dj none _ _ _)=>match QV P t with
    |true=>some ([0<k],.val (.bool false) h n)
    |false=>none
   |_,_=>oB P o S h n
 |_=>oB P o S h n
theorem U2{P:Program}{d:Nat}{t el:TypeId}{f:Bool}{k l c e:Nat}{C:ai}(hu:P.underlying t=some (.slice el)):Mq P (d+1) t (.dS f (k+1) C) (.dj none l c e)=some false:=by
 simp only[Mq,hu]
theorem On{P:Program}{o:Oper}{S:H V}{h:H lf}{n:Nat}{l:ah}{r:nx}(e:KN P o S h n=some (l,r))(hl:∀p∈l,p):dJ P o S h n=some r:=by
 unfold KN at e;split at e
 . rename_i t a ho;split at e
   . rename_i m off ha;split at e
     . rename_i C W;split at e
       . rename_i p v hs;obtain⟨rfl,rfl⟩:=fg e;have hp:p:=hl _ (aq.2 rfl);simp only[dJ,ho,ha,loadAt,W,IJ hs hp,ng]
       . cases e
     . exact kg e hl
   . exact kg e hl
 . rename_i t a x ho;split at e
   . rename_i m off v ha G;split at e
     . rename_i C W;split at e
       . rename_i cS h' hs;obtain⟨rfl,rfl⟩:=fg e;simp only[dJ,ho,ha,G,GF W hs hl]
       . cases e
     . exact kg e hl
   . exact kg e hl
 . rename_i t x i ho;split at e
   . rename_i f T C k ix G hi;split at e
     . rename_i s hs;obtain⟨rfl,rfl⟩:=fg e;obtain⟨el,N,B⟩:=qq hs;have k1:=hl _ (aP ..);have k2:=hl _ (aK _ (aq.2 rfl));simp only[dJ,ho,G,hi,og,N,B,ng];rw[aH ⟨k1,k2⟩];rfl
     . cases e
   . exact kg e hl
 . rename_i t x lo hi mx ho;split at e
   . rename_i f T C G;split at e
     . rename_i s lov hiv mxv hs N B h3;split at e
       . rename_i cS v hv;obtain⟨rfl,rfl⟩:=fg e;obtain⟨el,k1,k2⟩:=qq hs;simp only[dJ,ho,G,N,B,h3,GG k1 k2 hv hl,ng]
       . cases e
     . cases e
   . exact kg e hl
 . rename_i Mr dst x ho;split at e
   . rename_i m off T cp jC G;split at e
     . rename_i s0 Ga;split at e
       . rename_i el N B h3;split at e
         . rename_i h4;obtain⟨rfl,rfl⟩:=fg e;have k1:=hl _ (aq.2 rfl);simp only[dJ,ho,G,qz,N,B,h4,aH (aD h3),Ga];rw[aH (Or.inr k1)]
         . cases e
       . cases e
     . rename_i Ga;split at e
       . rename_i ks tc;split at e
         . rename_i el N B h3;split at e
           . rename_i h4;obtain⟨rfl,rfl⟩:=fg e;have k1:=hl _ (aq.2 rfl);simp only[dJ,ho,G,qz,N,B,h4,aH (aD h3),Ga,tc];rw[aH (Or.inr k1)]
           . cases e
         . cases e
       . exact kg e hl
   . exact kg e hl
 . rename_i c ho;split at e
   . rename_i m off x1 A x2 I ha;obtain⟨rfl,rfl⟩:=fg e;have k1:=hl _ (aq.2 rfl);simp only[dJ,ho,xg,ha,I,lA,aH k1]
   . rename_i m l I ha;split at e
     . rename_i pt ZP;split at e
       . rename_i e0 el x1 s hp W;split at e
         . rename_i hb;obtain⟨rfl,rfl⟩:=fg e;simp only[aC,bD]at hb;have k1:=hl _ (aP ..);have k2:=hl _ (aK _ (aq.2 rfl));simp only[dJ,ho,xg,ha,I,lA,ZP,hp,W];rw[aH ⟨k1,⟨hb.1,aD hb.2.1⟩,au hb.2.2.1,aD hb.2.2.2,k2⟩]
         . cases e
       . cases e
     . cases e
   . exact kg e hl
 . rename_i t x y _ ho;split at e
   . rename_i f k C z1 z2 z3 G hy;split at e
     . rename_i hq;obtain⟨rfl,rfl⟩:=fg e;have k1:0<k:=hl _ (aq.2 rfl);obtain⟨k',rfl⟩:∃k',k=k'+1:=⟨k-1,K⟩;unfold QV at hq;split at hq
       . rename_i el hu;simp only[dJ,ho,G,hy,Ci,F0,U2 (d:=9999) hu,bj,ng]
       . cases hq
     . cases e
   . exact kg e hl
 . exact kg e hl
def Oo(P:Program)(o:Oper)(S:H V)(h:H lf)(n:Nat):n0 nx:=match KN P o S h n with
 |some (l,r)=>some [(⟨[],[],l⟩,r)]
 |none=>none
theorem tO(P:Program)(o:Oper)(S:H V)(h:H lf)(n:Nat):fE (Oo P o S h n) (dJ P o S h n):=by
 intro l e;unfold Oo at e;split at e
 . rename_i a r hs;obtain rfl:=ek e;refine⟨⟨_,aq.2 rfl,fun c I=>by simp at I⟩,fun e he _ hg=>?_⟩;simp only[aq]at he;subst he;exact On hs hg.2
 . cases e
section
variable(P:Program)(C:fb)(cf:fT)(Tr:List (Nat×oZ))
def Oq(ops:Array Oper):List Oper->St->n0 (fl×St)
 | [],s=>.ret (.normal,s)
 |o::rest,s=>
  match iJ ops o s.S with
  |some false=>match jg s.S o.dst (.ew [])with
   |some S=>Oq ops rest { s with S:=S }
   |none=>none
  |some true=>(Oo P o s.S s.h s.n).then fun r=>match r with
   | .val v h n=>(KM Tr o.dst v).then fun v=>match jg s.S o.dst v with
     |some S=>Oq ops rest { s with S:=S,h:=h,n:=n }
     |none=>none
   | .call f args=>(C f args s.h s.n).then fun q=>(KM Tr o.dst q.1).then fun v=>match jg s.S o.dst v with
     |some S=>Oq ops rest { s with S:=S,h:=q.2.1,n:=q.2.2 }
     |none=>none
   |_=>none
  |none=>none
theorem tP(nX:pP C cf)(ops:Array Oper):∀(l:List Oper) (s:St),fE (Oq P C Tr ops l s) (jl P cf ops l s)
 | [],s=>.ret _
 |o::rest,s=>by
  simp only[Oq,jl];rcases iJ ops o s.S with _|(_|_)
  . exact .none _
  . cases jg s.S o.dst (.ew [])with
    |none=>exact .none _
    |some S=>exact tP nX ops rest _
  . refine qR (fE.then (tO P o s.S s.h s.n) (g:=fun r=>match r with
     | .val v h n=>match jg s.S o.dst v with
       |some S=>jl P cf ops rest { s with S:=S,h:=h,n:=n }
       |none=>none
     | .call f args=>(qi (cf f args s.h s.n)).bind fun q=>match jg s.S o.dst q.1 with
       |some S=>jl P cf ops rest { s with S:=S,h:=q.2.1,n:=q.2.2 }
       |none=>none
     |_=>none) (fun r=>?_)) ?_
    . cases r with
      |val v h n=>
       refine(fE.then (qQ Tr o.dst v) (g:=fun v=>match jg s.S o.dst v with
        |some S=>jl P cf ops rest { s with S:=S,h:=h,n:=n }
        |none=>none) (fun v=>?_)).of_eq rfl
       cases jg s.S o.dst v with
       |none=>exact .none _
       |some S=>exact tP nX ops rest _
      |call f args=>
       refine fE.then (nX f args s.h s.n) (fun q=>?_);refine(fE.then (qQ Tr o.dst q.1) (g:=fun v=>match jg s.S o.dst v with
        |some S=>jl P cf ops rest { s with S:=S,h:=q.2.1,n:=q.2.2 }
        |none=>none) (fun v=>?_)).of_eq rfl
       cases jg s.S o.dst v with
       |none=>exact .none _
       |some S=>exact tP nX ops rest _
      |mF f c args=>exact .none _
      |recover=>exact .none _
      |panic v=>exact .none _
    . intro a ha;cases hs:dJ P o s.S s.h s.n with
      |none=>rw[hs]at ha;cases ha
      |some r=>
       rw[hs]at ha;cases r with
       |call f args=>
        simp only[tN]at ha ⊢;cases hj:cf f args s.h s.n with
        |none=>rw[hj]at ha;cases ha
        |some q=>
         rw[hj]at ha;obtain⟨uw,h,n⟩:=q;cases uw with
         |ret v=>exact ha
         |z7 v=>cases ha
       |val v h n=>exact ha
       |_=>cases ha
section
variable(M i:Nat)(o:Oper)(S:H V)
def ME(v:V)(x:H lf):n0 Unit:=
 (Oo P o S x (M+i)).then fun r=>match r with
  | .val u _ k=>match Nat.beq k (M+i)&&v.rL with
    |true=>some [(⟨[],[(u,v)],[]⟩,())]
    |false=>none
  |_=>none
theorem Bk(v:V)(x:H lf):fE (ME P M i o S v x) (if mR P M i o S v x=true then some ()else none):=by
 unfold ME;refine(fE.then (tO P o S x (M+i)) (g:=fun r=>if(match r with | .val u _ k=>Nat.beq k (M+i)&&V.beq u v|_=>false)=true then some ()else none) (fun r=>?_)).of_eq ?_
 . cases r with
   |val u h k=>
    simp only;split
    . rename_i hb;simp only[aC]at hb;intro l e;obtain rfl:=ek e;refine⟨⟨_,aq.2 rfl,fun c I=>by simp at I⟩,fun e he _ hg=>?_⟩;simp only[aq]at he;subst he;have:u=v:=hg.1 (u,v) (aq.2 rfl);subst this;rw[aH (by rw[hb.1,V.beq_refl u hb.2];rfl)]
    . exact .none _
   |_=>exact .none _
 . unfold mR;cases dJ P o S x (M+i)with
   |none=>rfl
   |some r=>cases r<;>rfl
end
def IK(M i:Nat)(o:Oper)(S:H V)(v:V)(c7:af)(iu:Nat):List (Nat×Nat×H lf)->n0 Unit
 | []=>.ret ()
 |(e,m,x)::r=>match eo iu e with
  |true=>.ret ()
  |false=>(ME P M i o S v (gY M c7 m x iu)).then fun _=>IK M i o S v c7 iu r
theorem Bl(M i:Nat)(o:Oper)(S:H V)(v:V)(c7:af)(iu:Nat):∀l:List (Nat×Nat×H lf),fE (IK P M i o S v c7 iu l) (if qC P M i o S v c7 iu l=true then some ()else none)
 | []=>(fE.ret ()).of_eq rfl
 |(e,m,x)::r=>by
  simp only[IK,qC];rcases Bool.eq_false_or_eq_true (eo iu e)with hb|hb
  . simp only[hb,if_true];exact .ret ()
  . simp only[hb,aO,cI];refine(fE.then (Bk P M i o S v _) (fun _=>Bl M i o S v c7 iu r)).of_eq ?_;cases mR P M i o S v (gY M c7 m x iu)<;>cases qC P M i o S v c7 iu r<;>rfl
def Db(M:Nat)(c7:af)(m:Nat)(x:H lf):List (Nat×Nat×Oper×H V×V)->n0 Unit
 | []=>.ret ()
 |(j,iu,o,S,v)::r=>match eo m j with
  |true=>Db M c7 m x r
  |false=>(ME P M j o S v (gY M c7 m x iu)).then fun _=>Db M c7 m x r
theorem tQ(M:Nat)(c7:af)(m:Nat)(x:H lf):∀l:List (Nat×Nat×Oper×H V×V),fE (Db P M c7 m x l) (if qb P M c7 m x l=true then some ()else none)
 | []=>(fE.ret ()).of_eq rfl
 |(j,iu,o,S,v)::r=>by
  simp only[Db,qb];rcases Bool.eq_false_or_eq_true (eo m j)with hb|hb
  . simp only[hb,Bool.true_or,Bool.true_and];exact tQ M c7 m x r
  . simp only[hb,Bool.false_or];refine(fE.then (Bk P M j o S v _) (fun _=>tQ M c7 m x r)).of_eq ?_;cases mR P M j o S v (gY M c7 m x iu)<;>cases qb P M c7 m x r<;>rfl
def GH(M i iu:Nat)(o:Oper)(s:Dr)(v:V)(h:H lf)(n:Nat):n0 Dr:=
 match jg s.S o.dst v with
 |some S=>(Db P M s.c7 iu h s.reads).then fun _=>
   .ret { S:=S,eC:=s.eC++[iu],cur:=(iu,h),qa:=(i,s.cur.1,s.cur.2)::s.qa,last:=some i,c7:=s.c7,reads:=s.reads,n:=n }
 |none=>none
theorem zh(M i iu:Nat)(o:Oper)(s:Dr)(v:V)(h:H lf)(n:Nat):fE (GH P M i iu o s v h n) (kJ P M i iu o s v h n):=by
 unfold GH kJ;cases jg s.S o.dst v with
 |none=>exact .none _
 |some S=>
  refine(fE.then (tQ P M s.c7 iu h s.reads) (g:=fun _=>some _) (fun _=>.ret _)).of_eq ?_;cases qb P M s.c7 iu h s.reads<;>rfl
def QW(ops:Array Oper)(M i:Nat)(o:Oper)(s:Dr):n0 Dr:=
 match iJ ops o s.S with
 |some false=>match jg s.S o.dst (.ew [])with
  |some S=>.ret { s with S:=S,eC:=s.eC++[eS s.eC o.after.toList] }
  |none=>none
 |some true=>
  match rC o.op with
  |true=>match z8 (eS s.eC o.after.toList) s.last with
   |true=>(Oo P o s.S (gY M s.c7 s.cur.1 s.cur.2 (eS s.eC o.after.toList)) s.n).then fun r=>match r with
    | .val v h n=>(KM Tr o.dst v).then fun v=>GH P M i (eS s.eC o.after.toList) o s v h n
    | .call f args=>(C f args (gY M s.c7 s.cur.1 s.cur.2 (eS s.eC o.after.toList)) s.n).then fun q=>(KM Tr o.dst q.1).then fun v=>GH P M i (eS s.eC o.after.toList) o s v q.2.1 q.2.2
    |_=>none
   |false=>none
  |false=>(Oo P o s.S (gY M s.c7 s.cur.1 s.cur.2 (eS s.eC o.after.toList)) (M+i)).then fun r=>match r with
   | .val v h k=>(KM Tr o.dst v).then fun v=>match jg s.S o.dst v with
     |some S=>match Nat.beq k (M+i)with
      |true=>match qB o.op with
       |true=>.ret { s with S:=S,eC:=s.eC++[eS s.eC o.after.toList] }
       |false=>(IK P M i o s.S v s.c7 (eS s.eC o.after.toList) s.qa).then fun _=>
         .ret { s with S:=S,eC:=s.eC++[eS s.eC o.after.toList],reads:=(i,eS s.eC o.after.toList,o,s.S,v)::s.reads }
      |false=>match h.get (M+i)with
       |some b=>match b.wr with
        |true=>.ret { s with S:=S,eC:=s.eC++[eS s.eC o.after.toList],c7:=(i,b)::s.c7 }
        |false=>none
       |none=>none
     |none=>none
   |_=>none
 |none=>none
theorem IL(nX:pP C cf)(ops:Array Oper)(M i:Nat)(o:Oper)(s:Dr):fE (QW P C Tr ops M i o s) (Ol (uX P cf ops M i o s)):=by
 unfold QW uX;rcases iJ ops o s.S with _|(_|_)
 . exact .none _
 . cases jg s.S o.dst (.ew [])with
   |none=>exact .none _
   |some S=>exact(fE.ret _).of_eq rfl
 . cases rC o.op with
   |true=>
    rcases Bool.eq_false_or_eq_true (z8 (eS s.eC o.after.toList) s.last)with hb|hb
    rotate_left
    . simp only[hb];exact .none _
    . simp only[hb,if_true];refine(fE.then (tO P o s.S _ s.n) (g:=fun r=>match r with
       | .val v h n=>kJ P M i (eS s.eC o.after.toList) o s v h n
       | .call f args=>(qi (cf f args (gY M s.c7 s.cur.1 s.cur.2 (eS s.eC o.after.toList)) s.n)).bind fun q=>kJ P M i (eS s.eC o.after.toList) o s q.1 q.2.1 q.2.2
       |_=>none) (fun r=>?_)).of_eq ?_
      . cases r with
        |val v h n=>exact(fE.then (qQ Tr o.dst v) (g:=fun v=>kJ P M i (eS s.eC o.after.toList) o s v h n) (fun v=>zh P M i _ o s v h n)).of_eq rfl
        |call f args=>
         refine fE.then (nX f args _ s.n) (fun q=>?_);exact(fE.then (qQ Tr o.dst q.1) (g:=fun v=>kJ P M i (eS s.eC o.after.toList) o s v q.2.1 q.2.2) (fun v=>zh P M i _ o s v q.2.1 q.2.2)).of_eq rfl
        |_=>exact .none _
      . cases dJ P o s.S (gY M s.c7 s.cur.1 s.cur.2 (eS s.eC o.after.toList)) s.n with
        |none=>rfl
        |some r=>
         cases r with
         |val v h n=>
          simp only[tN];cases kJ P M i (eS s.eC o.after.toList) o s v h n<;>rfl
         |call f args=>
          simp only[tN];cases cf f args (gY M s.c7 s.cur.1 s.cur.2 (eS s.eC o.after.toList)) s.n with
          |none=>rfl
          |some q=>
           obtain⟨uw,h,n⟩:=q;cases uw with
           |ret v=>
            simp only[qi,tN];cases kJ P M i (eS s.eC o.after.toList) o s v h n<;>rfl
           |z7 v=>simp only;split<;>rfl
         |_=>rfl
   |false=>
    simp only[aO,cI];have body:∀(v:V) (h:H lf) (k:Nat),fE (match jg s.S o.dst v with
      |some S=>match Nat.beq k (M+i)with
       |true=>match qB o.op with
        |true=>n0.ret { s with S:=S,eC:=s.eC++[eS s.eC o.after.toList] }
        |false=>(IK P M i o s.S v s.c7 (eS s.eC o.after.toList) s.qa).then fun _=>
          .ret { s with S:=S,eC:=s.eC++[eS s.eC o.after.toList],reads:=(i,eS s.eC o.after.toList,o,s.S,v)::s.reads }
       |false=>match h.get (M+i)with
        |some b=>match b.wr with
         |true=>n0.ret { s with S:=S,eC:=s.eC++[eS s.eC o.after.toList],c7:=(i,b)::s.c7 }
         |false=>none
        |none=>none
      |none=>none) (Ol (match jg s.S o.dst v with
       |some S=>
        if Nat.beq k (M+i)=true then
         if qB o.op=true then(some (.inl { s with S:=S,eC:=s.eC++[eS s.eC o.after.toList] }):Option (Dr ⊕ (H V×V×H lf×Nat)))
         else if qC P M i o s.S v s.c7 (eS s.eC o.after.toList) s.qa=true then
          some (.inl { s with S:=S,eC:=s.eC++[eS s.eC o.after.toList],reads:=(i,eS s.eC o.after.toList,o,s.S,v)::s.reads })
         else nl o
        else match h.get (M+i)with
         |some b=>if b.wr=true then some (.inl { s with S:=S,eC:=s.eC++[eS s.eC o.after.toList],c7:=(i,b)::s.c7 })else nl o
         |none=>nl o
       |none=>nl o)):=by
     intro v h k;cases jg s.S o.dst v with
     |none=>exact .none _
     |some S=>
      simp only;cases Nat.beq k (M+i)with
      |true=>
       simp only[if_true];cases qB o.op with
       |true=>exact(fE.ret _).of_eq rfl
       |false=>
        refine(fE.then (Bl P M i o s.S v s.c7 _ s.qa) (g:=fun _=>some _) (fun _=>.ret _)).of_eq ?_;simp only[aO,cI];cases qC P M i o s.S v s.c7 (eS s.eC o.after.toList) s.qa<;>rfl
      |false=>
       simp only[aO,cI];cases h.get (M+i)with
       |none=>exact .none _
       |some b=>
        simp only;cases b.wr with
        |true=>exact(fE.ret _).of_eq rfl
        |false=>exact .none _
    refine(fE.then (tO P o s.S _ (M+i)) (g:=fun r=>match r with
     | .val v h k=>Ol (match jg s.S o.dst v with
        |some S=>
         if Nat.beq k (M+i)=true then
          if qB o.op=true then(some (.inl { s with S:=S,eC:=s.eC++[eS s.eC o.after.toList] }):Option (Dr ⊕ (H V×V×H lf×Nat)))
          else if qC P M i o s.S v s.c7 (eS s.eC o.after.toList) s.qa=true then
           some (.inl { s with S:=S,eC:=s.eC++[eS s.eC o.after.toList],reads:=(i,eS s.eC o.after.toList,o,s.S,v)::s.reads })
          else nl o
         else match h.get (M+i)with
          |some b=>if b.wr=true then some (.inl { s with S:=S,eC:=s.eC++[eS s.eC o.after.toList],c7:=(i,b)::s.c7 })else nl o
          |none=>nl o
        |none=>nl o)
     |_=>none) (fun r=>?_)).of_eq ?_
    . cases r with
      |val v h k=>exact(fE.then (qQ Tr o.dst v) (g:=fun v=>Ol (match jg s.S o.dst v with
        |some S=>
         if Nat.beq k (M+i)=true then
          if qB o.op=true then(some (.inl { s with S:=S,eC:=s.eC++[eS s.eC o.after.toList] }):Option (Dr ⊕ (H V×V×H lf×Nat)))
          else if qC P M i o s.S v s.c7 (eS s.eC o.after.toList) s.qa=true then
           some (.inl { s with S:=S,eC:=s.eC++[eS s.eC o.after.toList],reads:=(i,eS s.eC o.after.toList,o,s.S,v)::s.reads })
          else nl o
         else match h.get (M+i)with
          |some b=>if b.wr=true then some (.inl { s with S:=S,eC:=s.eC++[eS s.eC o.after.toList],c7:=(i,b)::s.c7 })else nl o
          |none=>nl o
        |none=>nl o)) (fun v=>body v h k)).of_eq rfl
      |_=>exact .none _
    . cases dJ P o s.S (gY M s.c7 s.cur.1 s.cur.2 (eS s.eC o.after.toList)) (M+i)with
      |none=>rfl
      |some r=>cases r<;>rfl
def GI(ops:Array Oper)(M:Nat):List Oper->Nat->Dr->n0 Dr
 | [],_,s=>.ret s
 |o::r,i,s=>(QW P C Tr ops M i o s).then fun s'=>GI ops M r (i+1) s'
theorem zi(nX:pP C cf)(ops:Array Oper)(M:Nat):∀(l:List Oper) (i:Nat) (s:Dr),fE (GI P C Tr ops M l i s) (Ol (rD P cf ops M l i s))
 | [],i,s=>(fE.ret s).of_eq rfl
 |o::r,i,s=>by
  simp only[GI,rD];refine(fE.then (IL P C cf Tr nX ops M i o s) (fun s'=>zi nX ops M r (i+1) s')).of_eq ?_;cases uX P cf ops M i o s with
  |none=>rfl
  |some q=>cases q<;>rfl
def ki(rt:Nat):Code->St->n0 (fl×St)
 | .region _ ops false,s=>Oq P C Tr ops ops.toList s
 | .region _ ops true,s=>match decide (s.n+ops.size<fP)with
   |true=>(GI P C Tr ops s.n ops.toList 0 { S:=s.S,eC:=[],cur:=(0,s.h),qa:=[],last:=none,c7:=[],reads:=[],n:=s.n+ops.size }).then fun d=>
     .ret (.normal,{ S:=d.S,h:=gY s.n d.c7 d.cur.1 d.cur.2 (2^ops.size-1),n:=d.n,gG:=s.gG })
   |false=>none
 | .seq a b,s=>(ki rt a s).then fun p=>match p.1 with
   | .normal=>ki rt b p.2
   |_=>.ret p
 | .cond c a b,s=>match iY s.S c with
   |some (.bool true)=>ki rt a s
   |some (.bool false)=>ki rt b s
   |_=>none
 | .block id body,s=>(ki rt body s).then fun p=>match p.1 with
   | .exit id'=>if id'=id then .ret (.normal,p.2)else .ret p
   |_=>.ret p
 | .loop body,s=>BY (ki rt body) rt s
 | .skip,s=>.ret (.normal,s)
 | .exit id,s=>.ret (.exit id,s)
 | .ret,s=>.ret (.ret,s)
 | .rangeFunc g ps assign body,s=>match iY s.S g with
   |some (.fn (.func gf) [] lb)=>match callee P gf&&decide (s.n+1<fP)with
    |true=>(C gf (.fn (.yield (s.n+1)) [] []::lb) ((s.h.set s.n (some .mF)).set (s.n+1) (some (.loop true none s.S ps.toList assign body))) (s.n+2)).then fun q=>match q.2.1.get s.n,q.2.1.get (s.n+1)with
     |some .mF,some (.loop true none _ _ _ _)=>.ret (.normal,{ s with h:=q.2.1.set (s.n+1) none,n:=q.2.2,gG:=(fP,[],[.map (some s.n)])::s.gG })
     |some .mF,some (.loop false (some .ret) _ _ _ _)=>.ret (.ret,{ s with h:=q.2.1.set (s.n+1) none,n:=q.2.2,gG:=(fP,[],[.map (some s.n)])::s.gG })
     |some .mF,some (.loop false (some (.exit id)) _ _ _ _)=>.ret (.exit id,{ s with h:=q.2.1.set (s.n+1) none,n:=q.2.2,gG:=(fP,[],[.map (some s.n)])::s.gG })
     |_,_=>none
    |false=>none
   |_=>none
 |_,_=>none
theorem o6(nX:pP C cf)(rt:Nat):∀(c:Code) (s:St),fE (ki P C Tr rt c s) (jm P cf rt c s):=by
 intro c
 induction c with
 |region id ops Kb=>
  intro s;cases Kb with
  |false=>exact tP P C cf Tr nX ops ops.toList s
  |true=>
   simp only[ki,jm,drawn];by_cases fI:s.n+ops.size<fP
   . simp only[bQ fI,aH fI];refine qR (fE.then (zi P C cf Tr nX ops s.n ops.toList 0 _) (g:=fun d=>some (.normal,{ S:=d.S,h:=gY s.n d.c7 d.cur.1 d.cur.2 (2^ops.size-1),n:=d.n,gG:=s.gG })) (fun d=>.ret _)) ?_;intro d hd;cases hq:rD P cf ops s.n ops.toList 0 { S:=s.S,eC:=[],cur:=(0,s.h),qa:=[],last:=none,c7:=[],reads:=[],n:=s.n+ops.size }with
     |none=>rw[hq]at hd;cases hd
     |some q=>
      rw[hq]at hd;cases q with
      |inl d'=>simp only[Ol,Option.bind_some]at hd;simp only;exact hd
      |inr _=>cases hd
   . simp only[bC fI];exact .none _
 |seq a b iha ihb=>
  intro s;simp only[ki,jm];refine(fE.then (iha s) (g:=fun p=>match p.1 with | .normal=>jm P cf rt b p.2|_=>some p) (fun p=>?_)).of_eq ?_
  . obtain⟨x,s'⟩:=p;cases x with
    |normal=>exact ihb s'
    |_=>exact .ret _
  . cases jm P cf rt a s with
    |none=>rfl
    |some p=>obtain⟨x,s'⟩:=p;cases x<;>rfl
 |cond c a b iha ihb=>
  intro s;simp only[ki,jm];cases iY s.S c with
  |none=>exact .none _
  |some v=>
   cases v with
   |bool t=>
    cases t with
    |true=>exact iha s
    |false=>exact ihb s
   |_=>exact .none _
 |block id c ih=>
  intro s;simp only[ki,jm];refine(fE.then (ih s) (g:=fun p=>match p.1 with | .exit id'=>if id'=id then some (.normal,p.2)else some p|_=>some p) (fun p=>?_)).of_eq ?_
  . obtain⟨x,s'⟩:=p;cases x with
    |exit j=>
     simp only;by_cases hj:j=id
     . simp only[aH hj];exact .ret _
     . simp only[aI hj];exact .ret _
    |_=>exact .ret _
  . cases jm P cf rt c s with
    |none=>rfl
    |some p=>obtain⟨x,s'⟩:=p;cases x<;>rfl
 |loop c ih=>
  intro s;simp only[ki,jm];exact xo ih rt s
 |skip=>intro s;exact .ret _
 |exit id=>intro s;exact .ret _
 |ret=>intro s;exact .ret _
 |rangeFunc g ps assign body _ _=>
  intro s;simp only[ki,jm];split
  . rename_i gf lb hg;rw[hg];simp only;split
    . rename_i hq;simp only[aC,bD]at hq;rw[aH hq];refine qR (fE.then (nX gf _ _ (s.n+2)) (g:=fun q=>match q.2.1.get s.n,q.2.1.get (s.n+1)with
       |some .mF,some (.loop true none _ _ _ _)=>some (.normal,{ s with h:=q.2.1.set (s.n+1) none,n:=q.2.2,gG:=(fP,[],[.map (some s.n)])::s.gG })
       |some .mF,some (.loop false (some .ret) _ _ _ _)=>some (.ret,{ s with h:=q.2.1.set (s.n+1) none,n:=q.2.2,gG:=(fP,[],[.map (some s.n)])::s.gG })
       |some .mF,some (.loop false (some (.exit id)) _ _ _ _)=>some (.exit id,{ s with h:=q.2.1.set (s.n+1) none,n:=q.2.2,gG:=(fP,[],[.map (some s.n)])::s.gG })
       |_,_=>none) (fun q=>?_)) ?_
      . split<;>first|exact .ret _|exact .none _
      . intro a ha;cases I:cf gf (.fn (.yield (s.n+1)) [] []::lb) ((s.h.set s.n (some .mF)).set (s.n+1) (some (.loop true none s.S ps.toList assign body))) (s.n+2)with
        |none=>rw[I]at ha;cases ha
        |some q=>
         rw[I]at ha;obtain⟨uw,h,n⟩:=q;cases uw with
         |z7 v=>cases ha
         |ret v=>
          simp only[qi,Option.bind_some]at ha;simp only;split at ha<;>first|(rename_i N B;simp only[N,B];exact ha)|cases ha
    . exact .none _
  . exact .none _
 |_=>intro s;exact .none _
end
def vA(P:Program)(fn:Func)(S:H V):List (FuncId×ag×ag)->H lf->Nat->Option (V×H lf×Nat)
 | [],h,n=>match lB P S h fn.results.toList with
   |some vs=>some (oneOf vs,h,n)
   |none=>none
 |(g,_,args)::ds,h,n=>match Nat.ble fP g with
  |true=>match args with
   | [.map (some b)]=>match h.get b with
     |some .mF=>match Nat.blt b fP with
      |true=>vA P fn S ds (h.set b none) n
      |false=>none
     |_=>none
   |_=>none
  |false=>none
theorem wF{P:Program}{cf:fT}{rt:Nat}{fn:Func}{S:H V}:∀{ds:List (FuncId×ag×ag)} {h:H lf} {n:Nat} {r:V×H lf×Nat},vA P fn S ds h n=some r->nW P cf rt fn S ds .ret h n=some (.ret r.1,r.2.1,r.2.2)
 | [],h,n,r,e=>by
   unfold vA at e;unfold nW;split at e
   . rename_i vs hv;obtain rfl:=ek e;rw[hv]
   . cases e
 |(g,c,args)::ds,h,n,r,e=>by
  unfold vA at e;unfold nW;split at e
  case h_2=>cases e
  rename_i hg;rw[aH (au hg)];split at e
  case h_2=>cases e
  rename_i b;simp only;split at e
  case h_2=>cases e
  rename_i hb;rw[hb];simp only;split at e
  case h_2=>cases e
  rename_i fI;rw[aH (show b<fP from au fI)];exact wF e
abbrev jQ:=FuncId->ag->H lf->Nat->Option (ah×V×H lf×Nat)
def gl(P:Program)(fr:jQ):Prop:=∀f args h n cS v h' n',fr f args h n=some (cS,v,h',n')->f<P.funcs.size/\((∀a∈cS,a)->
 ∀E w de,dL E args de->Good E h w->qH E n->callee P f=true->Calls P f de.toArray w (jI E h n w (.ret v) h' n'))
def noW:jQ:=fun _ _ _ _=>none
theorem QX(P:Program):gl P noW:=fun _ _ _ _ _ _ _ _ e=>by cases e
def jD(f:FuncId)(spec:ag->H lf->Nat->Option (ah×V×H lf×Nat))(fr:jQ):jQ:=fun g args h n=>match Nat.beq g f with
 |true=>match spec args h n with
  |some r=>some r
  |none=>fr g args h n
 |false=>fr g args h n
def jv(P:Program)(f:FuncId)(spec:ag->H lf->Nat->Option (ah×V×H lf×Nat)):Prop:=f<P.funcs.size/\∀args h n cS v h' n',spec args h n=some (cS,v,h',n')->(∀a∈cS,a)->
 ∀E w de,dL E args de->Good E h w->qH E n->callee P f=true->Calls P f de.toArray w (jI E h n w (.ret v) h' n')
theorem e9{P:Program}{f:FuncId}{spec:ag->H lf->Nat->Option (ah×V×H lf×Nat)}{fr:jQ}(hp:jv P f spec)(hS:gl P fr):gl P (jD f spec fr):=by
 intro g args h n cS v h' n' e;unfold jD at e;split at e
 . rename_i hg;have hg:=aD hg;subst hg;split at e
   . rename_i r hr;cases e;exact⟨hp.1,hp.2 args h n cS v h' n' hr⟩
   . exact hS g args h n cS v h' n' e
 . exact hS g args h n cS v h' n' e
def aep(P:Program)(fn:Func)(p:fl×St):n0 (V×H lf×Nat):=match p.1 with
 | .normal=>match vA P fn p.2.S p.2.gG p.2.h p.2.n with
   |some r=>.ret r
   |none=>none
 | .ret=>match vA P fn p.2.S p.2.gG p.2.h p.2.n with
   |some r=>.ret r
   |none=>none
 |_=>none
def KO(P:Program)(C:fb)(Tr:List (Nat×oZ))(rt:Nat)(f:FuncId)(args:ag)(h:H lf)(n:Nat):n0 (V×H lf×Nat):=
 match P.funcs[f]? with
 |some fn=>match fn.body with
  |some code=>match Nat.ble args.length fn.ntmps&&Nat.blt fn.ntmps fP with
   |true=>(ki P C Tr rt code (cU args h n)).then (aep P fn)
   |false=>none
  |none=>none
 |none=>none
theorem GJ{P:Program}{C:fb}{cf:fT}(nX:pP C cf)(Tr:List (Nat×oZ))(rt:Nat)(f:FuncId)(args:ag)(h:H lf)(n:Nat):fE (KO P C Tr rt f args h n) (qi (enter P cf rt f args h n)):=by
 unfold KO enter;split
 . rename_i fn hf;rw[hf];simp only;split
   . rename_i code hb;rw[hb];simp only;split
     . rename_i hq;simp only[aC]at hq;have hq':args.length<=fn.ntmps/\fn.ntmps<fP:=⟨au hq.1,au hq.2⟩;rw[aH hq'];refine qR (fE.then (o6 P C cf Tr nX rt code (cU args h n)) (g:=fun p=>match p.1 with
        | .normal=>qi (nW P cf rt fn p.2.S p.2.gG .ret p.2.h p.2.n)
        | .ret=>qi (nW P cf rt fn p.2.S p.2.gG .ret p.2.h p.2.n)
        |_=>none) (fun p=>?_)) ?_
       . obtain⟨x,s⟩:=p;unfold aep;cases x with
         |normal=>
          simp only;split
          . rename_i r hr;refine(fE.ret r).of_eq ?_;rw[wF hr];rfl
          . exact .none _
         |ret=>
          simp only;split
          . rename_i r hr;refine(fE.ret r).of_eq ?_;rw[wF hr];rfl
          . exact .none _
         |_=>exact .none _
       . intro a ha;change ((jm P cf rt code { S:=lU args 0 .nil,h:=h,n:=n,gG:=[] }).bind _)=some a at ha;cases G:jm P cf rt code { S:=lU args 0 .nil,h:=h,n:=n,gG:=[] }with
         |none=>rw[G]at ha;cases ha
         |some p=>
          rw[G]at ha;obtain⟨x,s⟩:=p;cases x<;>first|exact ha|cases ha
     . exact .none _
   . exact .none _
 . exact .none _
def KP(P:Program)(C:fb)(Tr:List (Nat×oZ))(rt m:Nat)(args:ag)(h:H lf)(n:Nat):n0 (V×H lf×Nat):=
 match h.get m with
 |some (.loop true none S ps assign body)=>match(Nat.blt m fP&&Nat.beq ps.length args.length)&&(jV assign&&jV body)with
  |true=>match xF (Ka ps args) S with
   |some Aa=>(ki P C Tr rt assign { S:=Aa,h:=h.set m none,n:=n,gG:=[] }).then fun p=>match p.1 with
    | .normal=>(ki P C Tr rt body p.2).then fun q=>match q.1 with
      | .normal=>.ret (.bool true,q.2.h.set m (some (.loop true none S ps assign body)),q.2.n)
      | .ret=>.ret (.bool false,q.2.h.set m (some (.loop false (some .ret) S ps assign body)),q.2.n)
      | .exit id=>.ret (.bool false,q.2.h.set m (some (.loop false (some (.exit id)) S ps assign body)),q.2.n)
      |_=>none
    |_=>none
   |none=>none
  |false=>none
 |_=>none
theorem GK{P:Program}{C:fb}{cf:fT}(nX:pP C cf)(Tr:List (Nat×oZ))(rt m:Nat)(args:ag)(h:H lf)(n:Nat):fE (KP P C Tr rt m args h n) (qi (xG P cf rt m args h n)):=by
 unfold KP xG;split
 . rename_i S ps assign body hg;rw[hg];simp only;split
   . rename_i hq;simp only[aC]at hq;have hq':m<fP/\ps.length=args.length/\jV assign=true/\jV body=true:=⟨au hq.1.1,aD hq.1.2,hq.2.1,hq.2.2⟩;rw[aH hq'];split
     . rename_i Aa rV;rw[rV];simp only;refine qR (fE.then (o6 P C cf Tr nX rt assign _) (g:=fun p=>match p.1 with
        | .normal=>(jm P cf rt body p.2).bind fun q=>match q.1 with
          | .normal=>some (.bool true,q.2.h.set m (some (.loop true none S ps assign body)),q.2.n)
          | .ret=>some (.bool false,q.2.h.set m (some (.loop false (some .ret) S ps assign body)),q.2.n)
          | .exit id=>some (.bool false,q.2.h.set m (some (.loop false (some (.exit id)) S ps assign body)),q.2.n)
          |_=>none
        |_=>none) (fun p=>?_)) ?_
       . obtain⟨x,s⟩:=p;cases x with
         |normal=>
          refine fE.then (o6 P C cf Tr nX rt body s) (fun q=>?_);obtain⟨y,s2⟩:=q;cases y<;>first|exact .ret _|exact .none _
         |_=>exact .none _
       . intro a ha;cases G:jm P cf rt assign { S:=Aa,h:=h.set m none,n:=n,gG:=[] }with
         |none=>rw[G]at ha;cases ha
         |some p=>
          rw[G]at ha;obtain⟨x,s⟩:=p;simp only[Option.bind_some]at ha;cases x with
          |normal=>
           simp only at ha ⊢;cases hy:jm P cf rt body s with
           |none=>rw[hy]at ha;cases ha
           |some q=>
            rw[hy]at ha;obtain⟨y,s2⟩:=q;cases y<;>first|exact ha|cases ha
          |_=>cases ha
     . exact .none _
   . exact .none _
 . exact .none _
def gP(P:Program)(fr:jQ)(HH:FuncId->List (Nat×oZ))(rt:Nat):Nat->fb
 |0=>fun _ _ _ _=>none
 |k+1=>fun f args h n=>match fr f args h n with
  |some (cS,r)=>some [(⟨[],[],cS⟩,r)]
  |none=>match Nat.blt f P.funcs.size with
   |true=>KO P (gP P fr HH rt k) (HH f) rt f args h n
   |false=>KP P (gP P fr HH rt k) (HH f) rt (f-P.funcs.size) args h n
open Classical in
noncomputable def Dc(P:Program)(fr:jQ)(rt:Nat):Nat->fT
 |0=>fun _ _ _ _=>none
 |k+1=>fun f args h n=>match fr f args h n with
  |some (cS,r)=>if ∀a∈cS,a then some (.ret r.1,r.2.1,r.2.2)else none
  |none=>if f<P.funcs.size then enter P (Dc P fr rt k) rt f args h n else xG P (Dc P fr rt k) rt (f-P.funcs.size) args h n
theorem vB(P:Program)(fr:jQ)(HH:FuncId->List (Nat×oZ))(rt:Nat):∀k,pP (gP P fr HH rt k) (Dc P fr rt k)
 |0=>fun _ _ _ _=>.none _
 |k+1=>by
  intro f args h n;simp only[gP,Dc];cases hS:fr f args h n with
  |some q=>
   obtain⟨cS,v,h',n'⟩:=q;intro l e;obtain rfl:=ek e;refine⟨⟨_,aq.2 rfl,fun c I=>by simp at I⟩,fun e he _ hg=>?_⟩;simp only[aq]at he;subst he;simp only;rw[aH hg.2];rfl
  |none=>
   simp only;by_cases hf:f<P.funcs.size
   . have hb:Nat.blt f P.funcs.size=true:=cH hf;rw[hb,aH hf];exact GJ (vB P fr HH rt k) (HH f) rt f args h n
   . have hb:Nat.blt f P.funcs.size=false:=by
      cases hq:Nat.blt f P.funcs.size with
      |false=>rfl
      |true=>exact absurd (au hq) hf
     rw[hb,aI hf];exact GK (vB P fr HH rt k) (HH f) rt _ args h n
theorem IM{P:Program}{fr:jQ}{rt:Nat}(W:P.follows .mixedOrders=true)(wZ:kW P=true)(hS:gl P fr):∀k,jq P (Dc P fr rt k)
 |0=>fun _ _ _ _ _ _ _ e=>by cases e
 |k+1=>by
  intro f args h n uw h' n' e E w de ra g hd;simp only[Dc]at e;split at e
  . rename_i cS r hs;obtain⟨v,N,n1⟩:=r;split at e
    . rename_i hA;simp only[an,aB]at e;obtain⟨rfl,rfl,rfl⟩:=e;obtain⟨fI,CP⟩:=hS f args h n cS v N n1 hs;exact⟨fun vh=>CP hA E w de ra g hd vh,fun m l s hfm _=>absurd fI (by rw[hfm];exact Nat.not_lt.2 (Nat.le_add_right _ _))⟩
    . cases e
  . exact UX (rt:=rt) (IM W wZ hS k) W wZ f args h n uw h' n' e E w de ra g hd
structure CX(P:Program) where
 C:fb
 cf:fT
 snd:pP C cf
 ok:jq P cf
noncomputable def CX.of{P:Program}(W:P.follows .mixedOrders=true)(wZ:kW P=true){fr:jQ}(hS:gl P fr)(HH:FuncId->List (Nat×oZ))(rt k:Nat):CX P:=
 ⟨gP P fr HH rt k,Dc P fr rt k,vB P fr HH rt k,IM W wZ hS k⟩
def TG(P:Program)(M h1:Nat)(c:Code)(s:St)(es:Exit->St->Prop):Prop:=
 ∀(E:Env) (a:Act) (w:World) (be:Exit->Act->World->Prop),kf E h1 s a w->M<=s.n->
  (∀y s' E' a' w',es y s'->lM M E s.h w E' s'.h w'->M<=s'.n->kf E' h1 s' a' w'->be y a' w')->c.wp P be a w
section
variable{P:Program}{cf:fT}{rt M h1:Nat}{c:Code}{s s':St}{es Q1:Exit->St->Prop}
theorem fA(h:TG P M h1 c s Q1)(hq:∀y s',Q1 y s'->es y s'):TG P M h1 c s es:=fun E a w be r hn k=>h E a w be r hn fun y s' E' a' w' q=>k y s' E' a' w' (hq y s' q)
theorem MF(oU:jq P cf)(W:P.follows .mixedOrders=true){x:fl}{y:Exit}(I:fc h1 c=true)(e:jm P cf rt c s=some (x,s'))(G:x.plain=some y)(hq:es y s'):TG P M h1 c s es:=by
 intro E a w be r hn k;refine wpIn_wide (n:=0) |>.1 ?_;refine mP (vi:=none) oU W c s x s' (.inl rfl) I e E a w be r fun E' a' w' x' u fQ pV r' td=>?_;have:x'=y:=by
  cases x<;>cases x'<;>simp only[N8,fl.plain,an,reduceCtorEq]at td G<;>first|exact G|(subst td;exact G)
 subst this;exact k _ s' E' a' w' hq (.of u fQ hn) (bX hn pV) r'
theorem c6{live:List Nat}{s2:St}(e:fa M live s=some s2)(h:TG P M h1 c s2 es):TG P M h1 c s es:=by
 intro E a w be r hn k;obtain⟨_,xK,E2,r2,u2⟩:=rK e r;exact h E2 a w be r2 xK fun y s' E' a' w' q u pV r'=>k y s' E' a' w' q (u2.trans u) pV r'
theorem QY{c1 c2:Code}(h:TG P M h1 c1 s (andThen (fun s'=>TG P M h1 c2 s' es) es)):TG P M h1 (.seq c1 c2) s es:=by
 intro E a w be r hn k;refine wp_seq (h E a w _ r hn fun y s' E' a' w' q u pV r'=>?_);cases y<;>first|exact q E' a' w' be r' pV (fun y2 s2 E2 a2 w2 q2 u2 xK r2=>k y2 s2 E2 a2 w2 q2 (u.trans u2) xK r2)|exact k _ s' E' a' w' q u pV r'
theorem cZ(hs:MB c=true)(h:TG P M h1 (dP c) s (andThen (fun s'=>TG P M h1 (dY c) s' es) es)):TG P M h1 c s es:=by
 cases c<;>simp only[MB,aO]at hs;exact QY h
theorem BZ{t:Bool}(I:QL c (fun _=>true)=true)(ho:iY s.S (Yr c)=some (.bool t))(N:t=true->TG P M h1 (MC c) s es)(B:t=false->TG P M h1 (Ys c) s es):TG P M h1 c s es:=by
 cases c<;>simp only[QL,aO]at I;intro E a w be r hn k;cases t
 . exact wp_cond_false (oW r.good.jh r.S ho) (B rfl E a w be r hn k)
 . exact wp_cond_true (oW r.good.jh r.S ho) (N rfl E a w be r hn k)
theorem fB{i:Nat}(I:BW c i=true)(h:TG P M h1 (dz c) s (mY i es)):TG P M h1 c s es:=by
 cases c<;>simp only[BW,aO]at I;rename_i j b;have:=aD I;subst this;intro E a w be r hn k;refine wp_block (h E a w _ r hn fun y s' E' a' w' q u pV r'=>?_);cases y<;>first|exact k _ s' E' a' w' q u pV r'|skip
 simp only[Exit.inBlock,mY]at q ⊢;split
 . rename_i he;rw[aH he]at q;exact k _ s' E' a' w' q u pV r'
 . rename_i he;rw[aI he]at q;exact k _ s' E' a' w' q u pV r'
def TGR(P:Program)(M h1:Nat)(c:Code)(es:Exit->St->Prop):Nat->St->Prop
 |0,_=>False
 |n+1,s=>TG P M h1 c s (andThen (fun s'=>TGR P M h1 c es n s') es)
theorem U3(n:Nat)(I:C5 c=true)(h:TGR P M h1 (dz c) es n s):TG P M h1 c s es:=by
 cases c<;>simp only[C5,aO]at I;rename_i b;intro E0 a w be r hn k;refine wp_loop_rounds n ?_;have key:∀(n:Nat) (s1:St) (E:Env) (a:Act) (w1:World),TGR P M h1 b es n s1->kf E h1 s1 a w1->M<=s1.n->lM M E0 s.h w E s1.h w1->Code.rounds P b be n a w1:=by
  intro n
  induction n with
  |zero=>intro s1 E a w1 h;exact h.elim
  |succ n ih=>
   intro s1 E a w1 h r hn u;rw[rounds_succ];refine h E a w1 _ r hn fun y s' E' a' w' q u' pV r'=>?_;cases y<;>first|exact ih s' E' a' w' q r' pV (u.trans u')|exact k _ s' E' a' w' q (u.trans u') pV r'
 exact key n s E0 a w h r hn (.refl r.good)
theorem gw(hc:Nat->St->Prop)(hl:C5 c=true)(h:∀k s,hc k s->TG P M h1 (dz c) s (andThen (fun s'=>∃k',k'<k/\hc k' s') es))(k:Nat)(h0:hc k s):TG P M h1 c s es:=by
 refine U3 (k+1) hl ?_;have key:∀(k:Nat) (n:Nat) (s:St),k<n->hc k s->TGR P M h1 (dz c) es n s:=by
  intro k
  induction k using Nat.strongRecOn with
  |_ k ih=>
   intro n s hn hi;cases n with
   |zero=>omega
   |succ n=>
    simp only[TGR];refine fA (h k s hi) fun y s' hq=>?_;cases y with
    |normal=>
     obtain⟨k',hk,kI⟩:=hq;exact ih k' hk n s' K kI
    |_=>exact hq
 exact key k (k+1) s K h0
end
section
variable{P:Program}{X':CX P}{Tr:List (Nat×oZ)}{rt M h1:Nat}{c:Code}{s:St}{es:Exit->St->Prop}
inductive pQ where
 |to (y:Exit) (s:St)
 |ret (v:V) (h:H lf) (n:Nat)
 |bad
def KQ(P:Program)(M:Nat)(fn:Func)(s:St):Option (V×H lf×Nat):=match vA P fn s.S s.gG s.h s.n with
 |some (v,h,n)=>match fa M [0] { S:=H.nil.set 0 (some v),h:=h,n:=n,gG:=[] }with
  |some s2=>match s2.S.get 0 with
   |some v2=>some (v2,s2.h,s2.n)
   |none=>none
  |none=>none
 |none=>none
def vC(P:Program)(M:Nat)(fn:Func)(live:List Nat)(p:fl×St):pQ:=match p.1 with
 | .normal=>match fa M live p.2 with
   |some s=>.to .normal s
   |none=>.bad
 | .exit i=>match fa M live p.2 with
   |some s=>.to (.exit i) s
   |none=>.bad
 | .ret=>match KQ P M fn p.2 with
   |some (v,h,n)=>.ret v h n
   |none=>.bad
 | .panic _=>.bad
def fJ(P:Program)(M:Nat)(fn:Func)(nx:V->H lf->Nat->Prop)(y:Exit)(s':St):Prop:=(y= .normal\/y= .ret)/\∃v h n,KQ P M fn s'=some (v,h,n)/\nx v h n
def pQ.post(P:Program)(M:Nat)(fn:Func)(live:List Nat)(nx:V->H lf->Nat->Prop)(es:Exit->St->Prop):pQ->Prop
 | .to y s=>∀s',fa M live s'=some s->es y s'
 | .ret v h n=>nx v h n/\∀s',fJ P M fn nx .ret s'->es .ret s'
 | .bad=>False
theorem KR(W:P.follows .mixedOrders=true){l:List (pW×fl×St)}(I:fc h1 c=true)(e:ki P X'.C Tr rt c s=some l)(h:∀p∈l,p.1.ok->p.1.good/\∃y,p.2.1.plain=some y/\es y p.2.2):TG P M h1 c s es:=by
 obtain⟨⟨p,hp,ho⟩,B⟩:=o6 P X'.C X'.cf Tr X'.snd rt c s l e;obtain⟨hg,y,hy,hq⟩:=h p hp ho;exact MF (rt:=rt) X'.ok W I (B p hp ho hg) hy hq
def GL(P:Program)(C:fb)(Tr:List (Nat×oZ))(rt M:Nat)(fn:Func)(live:List Nat)(c:Code)(s:St):List (List (Bool×Bool)×ah×pQ):=vy (vC P M fn live) (zf (ki P C Tr rt c s))
def zj(P:Program)(C:fb)(Tr:List (Nat×oZ))(rt:Nat)(c:Code)(s:St):Bool:=(ki P C Tr rt c s).isSome
def x4(P:Program)(C:fb)(Tr:List (Nat×oZ))(rt:Nat)(c:Code)(s:St):ag:=qT (zf (ki P C Tr rt c s))
def Aw(P:Program)(C:fb)(Tr:List (Nat×oZ))(rt:Nat)(c:Code)(s:St):ag:=vz (zf (ki P C Tr rt c s))
theorem QZ(X':CX P)(W:P.follows .mixedOrders=true)(Tr:List (Nat×oZ))(rt:Nat)(fn:Func)(live:List Nat)(nx:V->H lf->Nat->Prop)(hx:List (List (Bool×Bool)×ah×pQ))(I:fc h1 c=true)
  (e1:zj P X'.C Tr rt c s=true) (e2:x4 P X'.C Tr rt c s=Aw P X'.C Tr rt c s) (e3:GL P X'.C Tr rt M fn live c s=hx)
  (h:∀g∈hx,(∀b∈g.1,b.1=b.2)->(∀a∈g.2.1,a)/\g.2.2.post P M fn live nx es):TG P M h1 c s es:=by
 obtain⟨l,hl⟩:=bW.1 e1;unfold x4 Aw at e2;unfold GL at e3;rw[hl]at e2 e3;simp only[zf]at e2 e3;refine KR (X':=X') W I hl fun p hp ho=>?_;have hg:=h (p.1.conds,p.1.U0,vC P M fn live p.2) (e3▸sJ hp) ho;refine⟨⟨zg l e2 p hp,hg.1⟩,?_⟩;obtain⟨pp,x,s'⟩:=p;have iT:=hg.2;simp only[vC]at iT;cases x with
 |normal=>
  simp only at iT;split at iT
  . rename_i s2 jr;exact⟨.normal,rfl,iT s' jr⟩
  . exact iT.elim
 |exit i=>
  simp only at iT;split at iT
  . rename_i s2 jr;exact⟨.exit i,rfl,iT s' jr⟩
  . exact iT.elim
 |ret=>
  simp only at iT;split at iT
  . rename_i v h n hr;exact⟨.ret,rfl,iT.2 s' ⟨.inr rfl,v,h,n,hr,iT.1⟩⟩
  . exact iT.elim
 |panic _=>exact iT.elim
theorem Ot(X':CX P)(W:P.follows .mixedOrders=true)(Tr:List (Nat×oZ))(rt:Nat)(fn:Func)(live:List Nat)(nx:V->H lf->Nat->Prop)(hx:List (List (Bool×Bool)×ah×pQ))(hs:MB c=true)(I:fc h1 (dP c)=true)
  (e1:zj P X'.C Tr rt (dP c) s=true) (e2:x4 P X'.C Tr rt (dP c) s=Aw P X'.C Tr rt (dP c) s) (e3:GL P X'.C Tr rt M fn live (dP c) s=hx)
  (h:∀g∈hx,(∀b∈g.1,b.1=b.2)->(∀a∈g.2.1,a)/\g.2.2.post P M fn live nx (andThen (fun s'=>TG P M h1 (dY c) s' es) es)):TG P M h1 c s es:=
 cZ hs (QZ X' W Tr rt fn live nx hx I e1 e2 e3 h)
theorem Q0{cf:fT}(oU:jq P cf)(W:P.follows .mixedOrders=true):∀(k:Nat) {c:Code} {s s1:St} {es:Exit->St->Prop},fc h1 c=true->jm P cf rt (eV k c) s=some (.normal,s1)->TG P M h1 (dh k c) s1 es->TG P M h1 c s es:=by
 intro k;have IN:∀{c:Code} {s s1:St} {es:Exit->St->Prop},jm P cf rt .skip s=some (.normal,s1)->TG P M h1 c s1 es->TG P M h1 c s es:=by
  intro c s s1 es e h;simp only[jm,an,aB,true_and]at e;subst e;exact h
 induction k with
 |zero=>intro c s s1 es _ e h;cases c<;>exact IN e h
 |succ k ih=>
  intro c s s1 es iy e h;cases c<;>first|exact IN e h|skip
  rename_i a b;simp only[fc,aC]at iy;simp only[eV,jm]at e;split at e
  . rename_i s' N;exact QY (MF (rt:=rt) oU W iy.1 N rfl (ih iy.2 e h))
  . rename_i hr
    first|exact(hr s1 rfl).elim|exact(hr s1 e).elim
theorem U4(k:Nat)(X':CX P)(W:P.follows .mixedOrders=true)(Tr:List (Nat×oZ))(rt:Nat)(fn:Func)(live:List Nat)(hx:List (List (Bool×Bool)×ah×pQ))(I:fc h1 c=true)
  (e1:zj P X'.C Tr rt (eV k c) s=true) (e2:x4 P X'.C Tr rt (eV k c) s=Aw P X'.C Tr rt (eV k c) s) (e3:GL P X'.C Tr rt M fn live (eV k c) s=hx)
  (h:∀g∈hx,(∀b∈g.1,b.1=b.2)->(∀a∈g.2.1,a)/\∃s1,g.2.2= .to .normal s1/\TG P M h1 (dh k c) s1 es):TG P M h1 c s es:=by
 obtain⟨l,hl⟩:=bW.1 e1;unfold x4 Aw at e2;unfold GL at e3;rw[hl]at e2 e3;simp only[zf]at e2 e3;obtain⟨⟨p,hp,ho⟩,B⟩:=o6 P X'.C X'.cf Tr X'.snd rt (eV k c) s l hl;obtain⟨hA,s1,gi,hT⟩:=h (p.1.conds,p.1.U0,vC P M fn live p.2) (e3▸sJ hp) ho;have fS:=B p hp ho ⟨zg l e2 p hp,hA⟩;obtain⟨pp,x,s'⟩:=p;simp only[vC]at gi;cases x with
 |normal=>
  simp only at gi;split at gi
  . rename_i s2 jr;cases gi;exact Q0 (rt:=rt) X'.ok W k I fS (c6 jr hT)
  . cases gi
 |exit i=>
  simp only at gi;split at gi<;>cases gi
 |ret=>
  simp only at gi;split at gi<;>cases gi
 |panic _=>cases gi
end
theorem Ou{P:Program}{M:Nat}{fn:Func}{s:St}{v:V}{h:H lf}{n:Nat}(e:KQ P M fn s=some (v,h,n)):∃v1 N n1 s2,vA P fn s.S s.gG s.h s.n=some (v1,N,n1)/\fa M [0] { S:=H.nil.set 0 (some v1),h:=N,n:=n1,gG:=[] }=some s2/\s2.S.get 0=some v/\s2.h=h/\s2.n=n:=by
 unfold KQ at e;split at e
 . rename_i v1 N n1 e1;split at e
   . rename_i s2 e2;split at e
     . rename_i v2 e3;simp only[an,aB]at e;obtain⟨rfl,rfl,rfl⟩:=e;exact⟨v1,N,n1,s2,e1,e2,e3,rfl,rfl⟩
     . cases e
   . cases e
 . cases e
theorem o7{P:Program}(W:P.follows .mixedOrders=true)(wZ:kW P=true){f:FuncId}{fn:Func}{code:Code}(hf:P.funcs[f]? =some fn)(hb:fn.body=some code){args:ag}{h:H lf}{M:Nat}
  (l:(Nat.ble args.length fn.ntmps&&Nat.blt fn.ntmps fP)=true) (nx:V->H lf->Nat->Prop) (hT:TG P M fn.ntmps code (cU args h M) (fJ P M fn nx))
  {E:Env} {w:World} {de:List Value} (ra:dL E args de) (g:Good E h w) (hd:qH E M):
  Calls P f de.toArray w fun e w'=>∃v h' n',nx v h' n'/\jI E h M w (.ret v) h' n' e w':=by
 simp only[aC]at l;obtain⟨yp,l8⟩:=tH (n:=fn.ntmps) ra (au l.1) (au l.2);refine callsIn_wide.1 (callsIn_of_wp_marks (n:=0) hf hb trivial (wpIn_wide.2 ?_));refine hT E _ w _ ⟨g,hd,yp,l8,rfl⟩ (aA _) fun y s' E' a' w' ⟨hy,v,h',n',hr,hR⟩ u pV r'=>?_;obtain⟨v1,N,n1,s2,k1,k2,k3,k4,k5⟩:=Ou hr;have key:LeavesInM Fence.wide 0 P fn a'.tmps (fun e w'=>∃v h' n',nx v h' n'/\jI E h M w (.ret v) h' n' e w') a'.defers .returning w':=by
  refine rI (cf:=fun _ _ _ _=>none) (rt:=0) (fun _ _ _ _ _ _ _ e=>by cases e) W wZ s'.gG .ret s'.h s'.n _ N n1 (wF k1) E' w' a'.defers .returning _ r'.good r'.oz r'.S r'.gG trivial fun E2 w2 en u2 qL Gt xK ho=>?_;have u3:=u.trans (lM.of u2 qL pV);cases en with
  |returned v'=>
   have ho:dK E2 v1 v':=ho;have sr:kf E2 1 { S:=H.nil.set 0 (some v1),h:=N,n:=n1,gG:=[] } { tmps:=#[v'],defers:=[] } w2:=by
    refine⟨u3.good,Gt,fun t v hv=>?_,rfl,rfl⟩;rw[H.eY _ _ _ dU]at hv;split at hv
    . rename_i q;subst q;cases hv;exact⟨v',rfl,ho⟩
    . simp[H.get]at hv
   obtain⟨_,KE,E3,r3,u4⟩:=rK k2 sr;have u5:=(u3.trans u4).qG hd;obtain⟨v'',q1,q2⟩:=r3.S 0 v k3;simp only[List.getElem?_toArray,bI,an]at q1;subst q1;refine⟨v,h',n',hR,E3,k4▸u5,(u3.trans u4).low,k5▸r3.oz,by rw[<- k5];exact KE,q2⟩
  |_=>exact ho.elim
 rcases hy with rfl|rfl<;>exact key
theorem tR{P:Program}(W:P.follows .mixedOrders=true)(wZ:kW P=true){f:FuncId}{fn:Func}{code:Code}(hf:P.funcs[f]? =some fn)(hb:fn.body=some code){args:ag}{h:H lf}{M:Nat}
  (l:(Nat.ble args.length fn.ntmps&&Nat.blt fn.ntmps fP)=true) (v:V) (h':H lf) (n':Nat) (hT:TG P M fn.ntmps code (cU args h M) (fJ P M fn fun a b c=>a=v/\b=h'/\c=n'))
  {E:Env} {w:World} {de:List Value} (ra:dL E args de) (g:Good E h w) (hd:qH E M):
  Calls P f de.toArray w (jI E h M w (.ret v) h' n'):=
 (o7 W wZ hf hb l _ hT ra g hd).mono fun e w' ⟨_,_,_,⟨e1,e2,e3⟩,k⟩=>by subst e1 e2 e3;exact k
def Bm:List (Nat×V)->H V:=go .nil
where go (t:H V):List (Nat×V)->H V
 | []=>t
 |(k,v)::r=>go (t.set k (some v)) r
def J:af->H lf:=go .nil
where go (t:H lf):af->H lf
 | []=>t
 |(k,v)::r=>go (t.set k (some v)) r
def eG(l:List (Nat×V))(h:H lf)(n:Nat):St:={ S:=Bm l,h:=h,n:=n,gG:=[] }
def Q2(P:Program)(C:fb)(Tr:List (Nat×oZ))(rt M:Nat)(fn:Func)(live:List Nat)(c:Code)(s:St):Option (ag×ag×List (List (Bool×Bool)×ah×pQ)):=
 match ki P C Tr rt c s with
 |some l=>some (qT l,vz l,vy (vC P M fn live) l)
 |none=>none
abbrev cR(P:Program)(C:fb)(Tr:List (Nat×oZ))(rt M:Nat)(fn:Func)(live:List Nat)(c:Code)(s:St)(aa:ag)(hx:List (List (Bool×Bool)×ah×pQ)):Prop:=Q2 P C Tr rt M fn live c s=some (aa,aa,hx)
theorem cR.parts{P:Program}{C:fb}{Tr:List (Nat×oZ)}{rt M:Nat}{fn:Func}{live:List Nat}{c:Code}{s:St}{aa:ag}{hx:List (List (Bool×Bool)×ah×pQ)}(h:cR P C Tr rt M fn live c s aa hx):
  zj P C Tr rt c s=true/\x4 P C Tr rt c s=Aw P C Tr rt c s/\GL P C Tr rt M fn live c s=hx:=by
 have h:Q2 P C Tr rt M fn live c s=some (aa,aa,hx):=h;unfold Q2 at h;unfold zj x4 Aw GL;split at h
 . rename_i l hl;simp only[an,aB]at h;rw[hl];exact⟨rfl,h.1.trans h.2.1.symm,h.2.2⟩
 . cases h
section
variable{P:Program}{M h1:Nat}{c:Code}{s:St}{es:Exit->St->Prop}{Tr:List (Nat×oZ)}{rt:Nat}{fn:Func}{live:List Nat}{aa:ag}{hx:List (List (Bool×Bool)×ah×pQ)}
section
variable(k:Nat)(X':CX P)
theorem gC(W:P.follows .mixedOrders=true)(nx:V->H lf->Nat->Prop)(I:fc h1 c=true)(hr:cR P X'.C Tr rt M fn live c s aa hx)
  (h:∀g∈hx,(∀b∈g.1,b.1=b.2)->(∀a∈g.2.1,a)/\g.2.2.post P M fn live nx es):TG P M h1 c s es:=
 QZ X' W Tr rt fn live nx hx I hr.parts.1 hr.parts.2.1 hr.parts.2.2 h
theorem zk(W:P.follows .mixedOrders=true)(nx:V->H lf->Nat->Prop)(hs:MB c=true)(I:fc h1 (dP c)=true)(hr:cR P X'.C Tr rt M fn live (dP c) s aa hx)
  (h:∀g∈hx,(∀b∈g.1,b.1=b.2)->(∀a∈g.2.1,a)/\g.2.2.post P M fn live nx (andThen (fun s'=>TG P M h1 (dY c) s' es) es)):TG P M h1 c s es:=
 Ot X' W Tr rt fn live nx hx hs I hr.parts.1 hr.parts.2.1 hr.parts.2.2 h
theorem ZX(W:P.follows .mixedOrders=true)(I:fc h1 c=true)(hr:cR P X'.C Tr rt M fn live (eV k c) s aa hx)
  (h:∀g∈hx,(∀b∈g.1,b.1=b.2)->(∀a∈g.2.1,a)/\∃s1,g.2.2= .to .normal s1/\TG P M h1 (dh k c) s1 es):TG P M h1 c s es:=
 U4 k X' W Tr rt fn live hx I hr.parts.1 hr.parts.2.1 hr.parts.2.2 h
theorem lX(W:P.follows .mixedOrders=true){cS:ah}{s1:St}(I:fc h1 c=true)(hr:cR P X'.C Tr rt M fn live (eV k c) s aa [([],cS,.to .normal s1)])
  (hA:∀a∈cS,a) (h:TG P M h1 (dh k c) s1 es):TG P M h1 c s es:=
 ZX k X' W I hr fun g hg _=>by
  rw[aq]at hg;subst hg;exact⟨hA,s1,rfl,h⟩
theorem gA(W:P.follows .mixedOrders=true)(nx:V->H lf->Nat->Prop)(I:fc h1 c=true)(hr:cR P X'.C Tr rt M fn live c s aa hx)
  (h:∀g∈hx,(∀b∈g.1,b.1=b.2)->(∀a∈g.2.1,a)/\∃v h n,g.2.2= .ret v h n/\nx v h n):TG P M h1 c s (fJ P M fn nx):=
 gC X' W nx I hr fun g hg I=>by
  obtain⟨N,v,h',n',e,hR⟩:=h g hg I;refine⟨N,?_⟩;rw[e];exact⟨hR,fun s' q=>q⟩
end
end
abbrev l9:V->H lf->Nat->Prop:=fun _ _ _=>True
section
variable{P:Program}{M h1:Nat}{c:Code}{s:St}{es:Exit->St->Prop}{rt:Nat}{fn:Func}
def pQ.loop(P:Program)(M:Nat)(fn:Func)(live:List Nat)(nx:V->H lf->Nat->Prop)(hc:Nat->St->Prop)(k:Nat)(es:Exit->St->Prop):pQ->Prop
 | .to .normal s=>∃k',k'<k/\hc k' s
 | .to y s=>∀s',fa M live s'=some s->es y s'
 | .ret v h n=>nx v h n/\∀s',fJ P M fn nx .ret s'->es .ret s'
 | .bad=>False
end
theorem Bn{E:Env}{h:H lf}{n:Nat}{w:World}{v:V}{h':H lf}{n':Nat}{e:Ending}{w':World}(xq:∀m,¬eE h m)(c:jI E h n w (.ret v) h' n' e w'):(∃E,tE E (.ret v) e)/\Below w.heap.size w w':=by
 obtain⟨E',u,_,_,_,ho⟩:=c;exact⟨⟨E',ho⟩,u.os,u.tape,u.output,u.size,fun k hk=>u.keep k hk fun m s W=>absurd W (xq m)⟩
theorem x5{P:Program}(W:P.follows .mixedOrders=true)(wZ:kW P=true){f:FuncId}{fn:Func}{code:Code}(hf:P.funcs[f]? =some fn)(hb:fn.body=some code){args:ag}{h:H lf}{M:Nat}
  (l:(Nat.ble args.length fn.ntmps&&Nat.blt fn.ntmps fP)=true) {v:V} (hT:TG P M fn.ntmps code (cU args h M) (fJ P M fn fun a _ _=>a=v))
  {E:Env} {w:World} {de:List Value} (ra:dL E args de) (g:Good E h w) (hd:qH E M) (xq:∀m,¬eE h m):
  Calls P f de.toArray w fun e w'=>(∃E,tE E (.ret v) e)/\Below w.heap.size w w':=
 (o7 W wZ hf hb l _ hT ra g hd).mono fun e w' ⟨v',h',n',e1,k⟩=>by subst e1;exact Bn xq k
theorem KS:∀m,¬eE (.nil:H lf) m:=fun m k=>absurd rfl k.live
def jS(f:ag->Option (ah×V)):ag->H lf->Nat->Option (ah×V×H lf×Nat):=fun args h n=>match f args with
 |some (cS,v)=>some (cS,v,h,n)
 |none=>none
theorem kj{P:Program}{f:FuncId}{spec:ag->Option (ah×V)}(fI:f<P.funcs.size)(h:∀args cS v,spec args=some (cS,v)->V.xn args=true/\v.free=true/\((∀a∈cS,a)->
  ∀E w de,WG w->dL E args de->Calls P f de.toArray w fun e w'=>(∃E,tE E (.ret v) e)/\Below w.heap.size w w')):jv P f (jS spec):=by
 refine⟨fI,fun args h' n cS v B n2 e hA E w de ra g hd I=>?_⟩;unfold jS at e;split at e
 . rename_i A' v' hs;simp only[an,aB]at e;obtain⟨rfl,rfl,rfl,rfl⟩:=e;obtain⟨N,B,h3⟩:=h args _ _ hs;exact(h3 hA E w de g.wg ra).mono fun en w' ⟨ho,b⟩=>C9 g hd B ho b
 . cases e
theorem ic{P:Program}(W:P.follows .mixedOrders=true)(wZ:kW P=true){f:FuncId}{fn:Func}{code:Code}(hf:P.funcs[f]? =some fn)(hb:fn.body=some code){args:ag}
  (l:(Nat.ble args.length fn.ntmps&&Nat.blt fn.ntmps fP)=true) {v:V} (yp:V.xn args=true) (hT:TG P gN fn.ntmps code (cU args .nil gN) (fJ P gN fn fun a _ _=>a=v)):
  ∀E w de,WG w->dL E args de->Calls P f de.toArray w fun e w'=>(∃E,tE E (.ret v) e)/\Below w.heap.size w w':=
 fun _ w _ hw ra=>x5 W wZ hf hb l hT (mX _ _ yp ra) (aeh hw) (akH (aA _)) KS
def Fg:lf->lf
 | .own k ks=>.ints k ks
 | .cells C=>match C with
   | .int k x::r=>match pI k (.int k x::r)with
     |some l=>.ints k l
     |none=>.cells (.int k x::r)
   |C=>.cells C
 |o=>o
def Fh:H lf->H lf
 | .nil=>.nil
 | .node v l r=>.node (match v with|some o=>some (Fg o)|none=>none) (Fh l) (Fh r)
theorem sK:∀(t:H lf) (m:Nat),(Fh t).get m=(t.get m).map Fg
 | .nil,m=>rfl
 | .node v l r,m=>by
   simp only[Fh,H.get];split
   . cases v<;>rfl
   . rename_i k;split
     . exact sK l _
     . exact sK r _
theorem Ov{E:Env}{w:World}{b s:Nat}{o:lf}(r:l7 E w b s o):l7 E w b s (Fg o):=by
 have key:∀k ks,l7 E w b s (.own k ks)->l7 E w b s (.ints k ks):=fun k ks ⟨c,el,fz,N,B,_,h4⟩=>⟨c,el,fz,N,B,mS.1 h4⟩;unfold Fg;split
 . exact key _ _ r
 . split
   . rename_i k x rest;split
     . rename_i l hl;have e:=qo hl;refine key _ _ ?_;rw[e]at r;exact r
     . exact r
   . exact r
 . exact r
theorem IP{o:lf}(h:(Fg o).wr=true):o.wr=true:=by
 unfold Fg at h;split at h
 . rfl
 . rfl
 . exact h
theorem Ow{E:Env}{h:H lf}{w:World}(g:Good E h w):Good E (Fh h) w:=by
 refine⟨?_,?_,g.mK,g.jh,fun b c q=>⟨g.fz b c q,fun m s W e=>?_⟩⟩
 case refine_3=>
  obtain⟨o,ho,hw⟩:=W;rw[sK]at ho;cases N:h.get m with
  |none=>rw[N]at ho;cases ho
  |some o1=>
   rw[N]at ho;simp only[bj,an]at ho;subst ho;exact(g.gQ b c q).2 m s ⟨o1,N,IP hw⟩ e
 . intro m o W;rw[sK]at W;cases ho:h.get m with
   |none=>rw[ho]at W;cases W
   |some o'=>
    rw[ho]at W;simp only[bj,an]at W;subst W;obtain⟨b,s,N,B⟩:=g.rel m o' ho;exact⟨b,s,N,Ov B⟩
 . rintro m m' b s s' fU ⟨o,ho,hw⟩ tr e e';rw[sK]at ho tr;cases N:h.get m with
   |none=>rw[N]at ho;cases ho
   |some o1=>
    rw[N]at ho;simp only[bj,an]at ho;subst ho;refine g.inj m m' b s s' fU ⟨o1,N,IP hw⟩ (fun q=>tr (by rw[q];rfl)) e e'
def MG(spec:ag->H lf->Option (ah×V)):ag->H lf->Nat->Option (ah×V×H lf×Nat):=fun args h n=>match spec args (Fh h)with
 |some (cS,v)=>some (cS,v,h,n)
 |none=>none
theorem IQ{P:Program}{f:FuncId}{spec:ag->H lf->Option (ah×V)}(hp:QU P f spec):jv P f (MG spec):=by
 refine⟨hp.1,fun args h n cS v h' n' e hA E w de ra g hd I=>?_⟩;unfold MG at e;split at e
 . rename_i A' v' hs;simp only[an,aB]at e;obtain⟨rfl,rfl,rfl,rfl⟩:=e;obtain⟨B,h3⟩:=hp.2 args _ _ _ hs;exact(h3 hA E n w de ra (Ow g) hd I).mono fun en w' ⟨ho,b⟩=>C9 g hd B ho b
 . cases e
theorem Dd{P:Program}(W:P.follows .mixedOrders=true)(wZ:kW P=true){f:FuncId}{fn:Func}{code:Code}(hf:P.funcs[f]? =some fn)(hb:fn.body=some code){args:ag}{h:H lf}{M:Nat}
  (l:(Nat.ble args.length fn.ntmps&&Nat.blt fn.ntmps fP)=true) {v:V} (hT:TG P M fn.ntmps code (cU args h M) (fJ P M fn fun a _ _=>a=v))
  {E:Env} {w:World} {de:List Value} (g:Good E h w) (hd:qH E M) (xq:∀m,¬eE h m) (ra:dL E args de):
  Calls P f de.toArray w fun e w'=>(∃E,tE E (.ret v) e)/\Below w.heap.size w w':=x5 W wZ hf hb l hT ra g hd xq
def Q3(h:H lf):List (Nat×IntKind)->Option (H lf)
 | []=>some h
 |(m,k)::r=>match h.get m with
  |some (.cells C)=>match pI k C with
   |some ks=>match Nat.blt m fP with
    |true=>Q3 (h.set m (some (.own k ks))) r
    |false=>none
   |none=>none
  |_=>none
theorem Fi{E:Env}{w:World}:∀(l:List (Nat×IntKind)) (h B:H lf),Q3 h l=some B->Good E h w->Good E B w/\∀m,(B.get m≠none↔h.get m≠none)/\(eE B m->eE h m)
 | [],h,B,e,g=>by simp only[Q3,an]at e;subst e;exact⟨g,fun m=>⟨Iff.rfl,id⟩⟩
 |(m,k)::r,h,B,e,g=>by
  unfold Q3 at e;split at e
  case h_2=>cases e
  rename_i C W;split at e
  case h_2=>cases e
  rename_i ks hk;split at e
  case h_2=>cases e
  rename_i ht;have ht:m<fP:=au ht;have nX:=qo hk;have kL:∀j,(h.set m (some (.own k ks))).get j=if j=m then some (.own k ks)else h.get j:=fun j=>H.eY _ _ _ ht
  have F9:∀j,((h.set m (some (.own k ks))).get j≠none↔h.get j≠none)/\(eE (h.set m (some (.own k ks))) j->eE h j):=by
   intro j;rw[kL];by_cases q:j=m
   . subst q;rw[aH rfl,W];exact⟨by simp,fun _=>⟨_,W,rfl⟩⟩
   . rw[aI q];exact⟨Iff.rfl,fun z=>oS ht z q⟩
  have g1:Good E (h.set m (some (.own k ks))) w:=by
   refine⟨fun j o hj=>?_,fun j j' b s s' fU hj Q4 e1 e2=>g.inj j j' b s s' fU ((F9 j).2 hj) ((F9 j').1.1 Q4) e1 e2,g.mK,g.jh,fun b c q=>⟨g.fz b c q,fun m' s tr=>(g.gQ b c q).2 m' s ((F9 m').2 tr)⟩⟩;rw[kL]at hj;split at hj
   . rename_i q;subst q;obtain rfl:=ek hj;obtain⟨b,s,N,B⟩:=g.rel j _ W;rw[nX]at B;exact⟨b,s,N,B⟩
   . exact g.rel j o hj
  obtain⟨g2,k2⟩:=Fi r _ B e g1;exact⟨g2,fun j=>⟨(k2 j).1.trans (F9 j).1,fun z=>(F9 j).2 ((k2 j).2 z)⟩⟩
def KT(l:List (Nat×IntKind))(s:St):Option St:=match Q3 s.h l with
 |some h=>some { s with h:=h }
 |none=>none
theorem tS{P:Program}{M h1:Nat}{c:Code}{s s2:St}{es:Exit->St->Prop}(l:List (Nat×IntKind))(e:KT l s=some s2)(h:TG P M h1 c s2 es):TG P M h1 c s es:=by
 unfold KT at e;split at e
 case h_2=>cases e
 rename_i B hh;obtain rfl:=ek e;intro E a w be r hn k;obtain⟨g2,k2⟩:=Fi (E:=E) (w:=w) l s.h B hh r.good;have u:lM M E s.h w E B w:=⟨fun _ _ _ _ e=>⟨e,rfl⟩,fun _ _=>rfl,fun _ _ q=>q,g2,aA _,rfl,rfl,rfl,fun _ _ _=>rfl,fun m b s1 W e1 _=>⟨m,s1,(k2 m).1.1 W,e1,(k2 m).2⟩,fun _ _ q=>.inl q⟩;exact h E a w be ⟨g2,r.oz,r.S,r.size,r.gG⟩ hn fun y s' E' a' w' q u' pV r'=>k y s' E' a' w' q (u.trans u') pV r'
def Env.rows(E:Env)(ns:List (Option (Nat×Nat))):Env:=⟨fun j=>match ns.getD j none with
 |some (m,o)=>match E.ι m with
  |some (b,s)=>some (b,s+o)
  |none=>none
 |none=>none,E.β,E.φ⟩
def rHi:List (Option (IntKind×List Int))->Nat->H lf->H lf
 | [],_,t=>t
 |some (k,ks)::r,i,t=>rHi r (i+1) (t.set i (some (.ints k ks)))
 |none::r,i,t=>rHi r (i+1) t
def rH(D:List (Option (IntKind×List Int))):H lf:=rHi D 0 .nil
theorem GM:∀(D:List (Option (IntKind×List Int))) (i:Nat) (t:H lf) (m:Nat) (o:lf),i+D.length<fP->(rHi D i t).get m=some o->t.get m=some o\/∃k ks,i<=m/\D[m-i]? =some (some (k,ks))/\o= .ints k ks
 | [],i,t,m,o,_,h=>.inl h
 |some (k,ks)::r,i,t,m,o,hl,h=>by
  simp only[aS]at hl;rcases GM r (i+1) _ m o K h with q|⟨k',Yc,N,B,h3⟩
  . rw[H.eY _ _ _ K]at q;split at q
    . rename_i z;subst z;obtain rfl:=ek q;exact .inr ⟨k,ks,aA _,by simp,rfl⟩
    . exact .inl q
  . refine .inr ⟨k',Yc,K,?_,h3⟩;rw[show m-i=(m-(i+1))+1 by omega,cB];exact B
 |none::r,i,t,m,o,hl,h=>by
  simp only[aS]at hl;rcases GM r (i+1) _ m o K h with q|⟨k',Yc,N,B,h3⟩
  . exact .inl q
  . refine .inr ⟨k',Yc,K,?_,h3⟩;rw[show m-i=(m-(i+1))+1 by omega,cB];exact B
theorem Q5{D:List (Option (IntKind×List Int))}{m:Nat}{o:lf}(hl:D.length<fP)(h:(rH D).get m=some o):∃k ks,D[m]? =some (some (k,ks))/\o= .ints k ks:=by
 rcases GM D 0 .nil m o K h with q|⟨k,ks,_,B,h3⟩
 . simp[H.get]at q
 . exact⟨k,ks,by simpa using B,h3⟩
theorem U5{E:Env}{ns:List (Option (Nat×Nat))}(g:GE E)(hg:∀p∈jU,ns[p.2]? =some (some (p.2,0))):GE (E.rows ns):=by
 intro p hp;show(match ns.getD p.2 none with
  |some (m,o)=>match E.ι m with
   |some (b,s)=>some (b,s+o)
   |none=>none
  |none=>none)=_
 rw[aM,hg p hp];simp only[Option.getD_some,g p hp]
theorem MH{E:Env}{h:H lf}{w:World}(g:Good E h w)(ns:List (Option (Nat×Nat)))(D:List (Option (IntKind×List Int)))(hl:D.length<fP)
  (hg:∀p∈jU,ns[p.2]? =some (some (p.2,0))) (hr:∀(j:Nat) (k:IntKind) (ks:List Int),D[j]? =some (some (k,ks))->∃m o Q6,ns[j]? =some (some (m,o))/\h.get m=some (.ints k Q6)/\Q6.drop o=ks):
  Good (E.rows ns) (rH D) w/\qH (E.rows ns) ns.length/\∀m,¬eE (rH D) m:=by
 have uz:∀m,¬eE (rH D) m:=by
  rintro m ⟨o,N,B⟩;obtain⟨k,ks,_,rfl⟩:=Q5 hl N;cases B
 refine⟨⟨fun m o W=>?_,fun m _ _ _ _ _ W=>absurd W (uz m),fun m b' s e=>?_,U5 g.jh hg,fun b c q=>⟨g.fz b c q,fun m s W=>absurd W (uz m)⟩⟩,fun m W=>?_,uz⟩
 . obtain⟨k,ks,N,rfl⟩:=Q5 hl W;obtain⟨m0,o,Q6,B,h3,h4⟩:=hr m k ks N;obtain⟨b,s,e1,c,el,fz,k1,k2,k3⟩:=g.rel m0 _ h3;refine⟨b,s+o,?_,c,el,fz,k1,k2,fun i x G=>?_⟩
   . show(match ns.getD m none with|some (m,o)=>_|none=>none)=_;rw[aM,B];simp only[Option.getD_some,e1]
   . rw[<- h4,bJ]at G;rw[<- k3 (o+i) x G];congr 1;omega
 . have e:(match ns.getD m none with|some (m,o)=>(match E.ι m with|some (b,s)=>some (b,s+o)|none=>none)|none=>none)=some (b',s):=e;split at e
   . rename_i m0 o W;split at e
     . rename_i b s0 e0;simp only[an,aB]at e;obtain⟨rfl,_⟩:=e;exact g.mK m0 b s0 e0
     . cases e
   . cases e
 . have W:ns.length<=m:=W;show(match ns.getD m none with|some (m,o)=>(match E.ι m with|some (b,s)=>some (b,s+o)|none=>none)|none=>none)=none;rw[aM,bN W];rfl
def MI:Code->Bool | .rangeFunc ..=>true|_=>false
def rG:Code->Operand | .rangeFunc g _ _ _=>g|_=>.const (.bool true)
def rPs:Code->List Nat | .rangeFunc _ ps _ _=>ps.toList|_=>[]
def rA:Code->Code | .rangeFunc _ _ a _=>a|c=>c
def rB:Code->Code | .rangeFunc _ _ _ b=>b|c=>c
def aer(c:Code)(s:St):H lf:=(s.h.set s.n (some .mF)).set (s.n+1) (some (.loop true none s.S (rPs c) (rA c) (rB c)))
def tT(s:St)(h:H lf)(n:Nat):St:={ s with h:=h.set (s.n+1) none,n:=n,gG:=(fP,[],[.map (some s.n)])::s.gG }
def Yx(s:St)(h:H lf):Bool:=match h.get s.n,h.get (s.n+1)with
 |some .mF,some (.loop true none _ _ _ _)=>true
 |_,_=>false
theorem cR.of{P:Program}{C:fb}{Tr:List (Nat×oZ)}{rt M:Nat}{fn:Func}{live:List Nat}{c:Code}{s:St}{hx:List (List (Bool×Bool)×ah×pQ)}(N:zj P C Tr rt c s=true)(B:x4 P C Tr rt c s=Aw P C Tr rt c s)(h3:GL P C Tr rt M fn live c s=hx):
  ∃aa,cR P C Tr rt M fn live c s aa hx:=by
 refine⟨x4 P C Tr rt c s,?_⟩;unfold cR Q2;unfold zj at N;unfold x4 Aw at B;unfold GL at h3;unfold x4;cases hl:ki P C Tr rt c s with
 |none=>rw[hl]at N;cases N
 |some l=>
  rw[hl]at B h3;have B:qT l=vz l:=B;have h3:vy (vC P M fn live) l=hx:=h3;show some (qT l,vz l,vy (vC P M fn live) l)=some (qT l,qT l,hx);rw[h3,<- B]
end Go.Eng
