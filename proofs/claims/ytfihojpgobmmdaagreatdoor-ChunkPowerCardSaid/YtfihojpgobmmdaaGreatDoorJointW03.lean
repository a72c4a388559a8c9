/- Lemmas of the engine. No conditions. -/
import Derived.Test.YtfihojpgobmmdaaGreatDoorJointW02
set_option linter.unusedVariables false
set_option linter.unusedSimpArgs false
set_option linter.unusedSectionVars false
namespace Go.Eng
open Go Go.RowKit
structure qc where
 conds:List (Bool×Bool)
 same:List (V×V)
 VL:ah
def qc.nil:qc:=⟨[],[],[]⟩
def qc.app(a b:qc):qc:=⟨a.conds++b.conds,a.same++b.same,a.VL++b.VL⟩
def qc.ok(p:qc):Prop:=∀c∈p.conds,c.1=c.2
def qc.good(p:qc):Prop:=(∀c∈p.same,c.1=c.2)/\∀a∈p.VL,a
theorem qc.Rw{a b:qc}:(a.app b).ok↔a.ok/\b.ok:=by
 simp only[qc.ok,qc.app,aW];exact⟨fun h=>⟨fun c J=>h c (.inl J),fun c J=>h c (.inr J)⟩,fun h c J=>J.elim (h.1 c) (h.2 c)⟩
theorem qc.Rx{a b:qc}:(a.app b).good↔a.good/\b.good:=by
 simp only[qc.good,qc.app,aW];exact⟨fun h=>⟨⟨fun c J=>h.1 c (.inl J),fun c J=>h.2 c (.inl J)⟩,fun c J=>h.1 c (.inr J),fun c J=>h.2 c (.inr J)⟩,
  fun h=>⟨fun c J=>J.elim (h.1.1 c) (h.2.1 c),fun c J=>J.elim (h.1.2 c) (h.2.2 c)⟩⟩
abbrev hx(α:Type):=Option (List (qc×α))
def hx.ret{α:Type}(a:α):hx α:=some [(.nil,a)]
def pre{α:Type}(p:qc):List (qc×α)->List (qc×α)
 | []=>[]
 |e::r=>(p.app e.1,e.2)::pre p r
def hx.bind{α β:Type}:List (qc×α)->(α->hx β)->hx β
 | [],_=>some []
 |(p,a)::r,f=>match f a with
  |some l1=>match hx.bind r f with
   |some l2=>some (pre p l1++l2)
   |none=>none
  |none=>none
def hx.then{α β:Type}(m:hx α)(f:α->hx β):hx β:=match m with
 |some l=>hx.bind l f
 |none=>none
def fE{α:Type}(m:hx α)(r:Option α):Prop:=∀l,m=some l->(∃e∈l,e.1.ok)/\∀e∈l,e.1.ok->e.1.good->r=some e.2
theorem G3{α:Type}{p:qc}:∀{l:List (qc×α)} {e:qc×α},e∈pre p l↔∃e'∈l,e=(p.app e'.1,e'.2)
 | [],e=>by simp[pre]
 |x::r,e=>by
  simp only[pre,aD,G3];exact⟨fun h=>h.elim (fun q=>⟨x,.inl rfl,q⟩) fun⟨e',X,h2⟩=>⟨e',.inr X,h2⟩,fun⟨e',X,h2⟩=>X.elim (fun q=>.inl (by rw[h2,q])) fun q=>.inr ⟨e',q,h2⟩⟩
theorem I1{α β:Type}{f:α->hx β}:∀{l:List (qc×α)} {l2:List (qc×β)},hx.bind l f=some l2->(∀e∈l2,∃d∈l,∃l1,f d.2=some l1/\∃e'∈l1,e=(d.1.app e'.1,e'.2))/\(∀d∈l,∃l1,f d.2=some l1/\∀e'∈l1,(d.1.app e'.1,e'.2)∈l2)
 | [],l2,h=>by
   simp only[hx.bind,an]at h;subst h;exact⟨fun e he=>by simp at he,fun d hd=>by simp at hd⟩
 |(p,a)::r,l2,h=>by
  simp only[hx.bind]at h;split at h
  . rename_i l1 X;split at h
    . rename_i l3 h3;obtain rfl:=eE h;obtain⟨k1,k2⟩:=I1 h3;refine⟨fun e he=>?_,fun d hd=>?_⟩
      . rcases aW.1 he with q|q
        . obtain⟨e',q1,q2⟩:=G3.1 q;exact⟨(p,a),by simp,l1,X,e',q1,q2⟩
        . obtain⟨d,d1,d2⟩:=k1 e q;exact⟨d,by simp[d1],d2⟩
      . rcases aD.1 hd with rfl|hd
        . exact⟨l1,X,fun e' BU=>aW.2 (.inl (G3.2 ⟨e',BU,rfl⟩))⟩
        . obtain⟨l1',q1,q2⟩:=k2 d hd;exact⟨l1',q1,fun e' BU=>aW.2 (.inr (q2 e' BU))⟩
    . cases h
  . cases h
theorem fE.ret{α:Type}(a:α):fE (hx.ret a) (some a):=by
 intro l h;simp only[hx.ret,an]at h;subst h;exact⟨⟨_,au.2 rfl,fun c J=>by simp[qc.nil]at J⟩,fun e he _ _=>by simp only[au]at he;subst he;rfl⟩
theorem fE.none{α:Type}(r:Option α):fE (none:hx α) r:=fun l h=>by cases h
theorem fE.then{α β:Type}{m:hx α}{f:α->hx β}{r:Option α}{g:α->Option β}(h:fE m r)(hf:∀a,fE (f a) (g a)):fE (m.then f) (r.bind g):=by
 intro l2 e;unfold hx.then at e;split at e
 . rename_i l;obtain⟨⟨d,hd,iC⟩,h2⟩:=h l rfl;obtain⟨k1,k2⟩:=I1 e;refine⟨?_,fun e he alp aaB=>?_⟩
   . obtain⟨l1,q1,q2⟩:=k2 d hd;obtain⟨⟨e',BU,VH⟩,_⟩:=hf d.2 l1 q1;exact⟨_,q2 e' BU,qc.Rw.2 ⟨iC,VH⟩⟩
   . obtain⟨d,hd,l1,q1,e',BU,rfl⟩:=k1 e he;obtain⟨o1,o2⟩:=qc.Rw.1 alp;obtain⟨g1,g2⟩:=qc.Rx.1 aaB;rw[h2 d hd o1 g1];exact(hf d.2 l1 q1).2 e' BU o2 g2
 . cases e
theorem fE.of_eq{α:Type}{m:hx α}{r r':Option α}(h:fE m r)(e:r=r'):fE m r':=e▸h
def vL(P:Program)(t:TypeId):Option Nat:=match u7 P t with
 |some e=>lu P e
 |none=>none
def qA(P:Program):List Field->ag->ag->Option Bool
 | [],_,_=>some true
 |f::fs,xs,ys=>match decide (f.name= "_")with
  |true=>none
  |false=>match P.underlying f.type,xo P f.type xs f.offset,xo P f.type ys f.offset with
   |some (.int _),some (.int k a),some (.int k' b)=>match decide (k=k')with
    |true=>match qA P fs xs ys with
     |some r=>some ((a==b)&&r)
     |none=>none
    |false=>none
   |_,_,_=>none
theorem zz{P:Program}{d:Nat}:∀{fs:List Field} {xs ys:ag} {r:Bool},qA P fs xs ys=some r->eqFields P (fun u a b=>MV P (d+1) u a b) fs xs ys=some r
 | [],_,_,r,e=>by simpa only[qA,eqFields]using e
 |f::fs,xs,ys,r,e=>by
  simp only[qA]at e;split at e
  . cases e
  . rename_i hn;have hn:=aK hn;split at e
    . rename_i k0 k a k' b X h2 h3;split at e
      . rename_i hk;have hk:=aI hk;subst hk;split at e
        . rename_i r' hr;obtain rfl:=eE e;have ih:=zz (d:=d) hr;simp only[eqFields,aF hn,h2,h3];have:MV P (d+1) f.type (.int k a) (.int k b)=some (a==b):=by simp only[MV,X,if_true]
          rw[this];cases hab:a==b with
          |true=>simp only[Bool.true_and];exact ih
          |false=>simp only[Bool.false_and]
        . cases e
      . cases e
    . cases e
def Nc(P:Program)(t:TypeId)(xs ys:ag):Option Bool:=
 match P.eqGuardType P.depth t with
 |true=>none
 |false=>match P.underlying t with
  |some (.struct ow)=>match P.stoodInHeld t with
   |true=>none
   |false=>qA P ow.toList xs ys
  |_=>none
theorem VM{P:Program}{d:Nat}{t:TypeId}{ow:Array Field}{xs ys:ag}{r:Bool}(hu:P.underlying t=some (.struct ow))(hs:P.stoodInHeld t=false)(e:qA P ow.toList xs ys=some r):MV P (d+1+1) t (.agg xs) (.agg ys)=some r:=by
 simp only[MV,hu,hs,aP,cJ];exact zz (d:=d) e
theorem I2{P:Program}{t:TypeId}{x y:Operand}{xs ys:ag}{r:Bool}(e:Nc P t xs ys=some r):Gs P t x y (.agg xs) (.agg ys)=some r:=by
 unfold Nc at e;split at e
 . cases e
 . rename_i hg;split at e
   . rename_i ow hu;split at e
     . cases e
     . rename_i hs;simp only[Gs,hg,aP,cJ];exact VM (d:=9998) hu hs e
   . cases e
def lz(P:Program)(o:Oper)(S:H V)(h:H rs)(n:Nat):Option (ah×nx):=match dH P o S h n with
 |some r=>some ([],r)
 |none=>none
def Ry(h:H rs):V->Bool
 | .dx (some (m,_)) _ _ _=>match h.get m with
   |some (.ints _ _)=>true
   |some (.own _ _)=>true
   |some (.deep _)=>true
   |some (.ia _ _ _)=>true
   |_=>false
 | .dV _ _ _=>true
 | .str _=>true
 |_=>false
def G4(h:H rs)(size:Nat)(x:V):Option (ah×Nat×Row):=
 match x with
 | .dV _ T Q=>some ([Q.length=T*size],T,.ds Q)
 |x=>match Ry h x with
 |true=>match x with
  | .dx (some (m,o)) T _ jJ=>match Nat.beq jJ size,(h.get m).bind rs.Ox with
    |true,some (.is k ks)=>some ([0<T,o+T*size<=ks.length],T,.is k ((ks.drop o).take (T*size)))
    |true,some (.ds Q)=>some ([0<T,o+T*size<=Q.length],T,.ds ((Q.drop o).take (T*size)))
    |_,_=>none
  | .str s=>match Nat.beq size 1 with
    |true=>some ([],s.length,.is .u8 (eo s))
    |false=>none
  |_=>none
 |false=>match jL h size x with
  |some (k,r)=>some ([],k,r)
  |none=>none
theorem ue{h:H rs}{size k:Nat}{x:V}{cU:ah}{r:Row}(e:G4 h size x=some (cU,k,r))(hA:∀a∈cU,a):jL h size x=some (k,r):=by
 unfold G4 at e;split at e
 . simp only[an,aB]at e;obtain⟨rfl,rfl,rfl⟩:=e;have X:=hA _ (au.2 rfl);simp only[jL,aF X]
 split at e
 . split at e
   . rename_i m o T cp jJ _ _;split at e
     . rename_i k' ks hb hr;simp only[an,aB]at e;obtain⟨rfl,rfl,rfl⟩:=e;have X:0<T:=hA _ (by simp);have h2:o+T*size<=ks.length:=hA _ (by simp);have hb:=aG hb;cases W:h.get m with
       |none=>rw[W]at hr;cases hr
       |some ob=>
        rw[W]at hr;have hr:ob.Ox=some (.is k' ks):=hr;cases T with
        |zero=>omega
        |succ T=>simp only[jL,hb,if_true,W,hr,Row.cut,aF h2]
     . rename_i Q hb hr;simp only[an,aB]at e;obtain⟨rfl,rfl,rfl⟩:=e;have X:0<T:=hA _ (by simp);have h2:o+T*size<=Q.length:=hA _ (by simp);have hb:=aG hb;cases W:h.get m with
       |none=>rw[W]at hr;cases hr
       |some ob=>
        rw[W]at hr;have hr:ob.Ox=some (.ds Q):=hr;cases T with
        |zero=>omega
        |succ T=>simp only[jL,hb,if_true,W,hr,Row.cut,aF h2]
     . cases e
   . split at e
     . rename_i hb;simp only[an,aB]at e;obtain⟨rfl,rfl,rfl⟩:=e;simp only[jL,aF (aG hb)]
     . cases e
   . cases e
 . split at e
   . rename_i k' r' X;simp only[an,aB]at e;obtain⟨rfl,rfl,rfl⟩:=e;exact X
   . cases e
def AI(T size o:Nat):Row->Option (ah×Row)
 | .is k ks=>some ([0<T,o+T*size<=ks.length],.is k ((ks.drop o).take (T*size)))
 | .ds Q=>some ([o+T*size<=Q.length],.ds ((Q.drop o).take (T*size)))
 | .vs Q=>match T with
   |0=>some ([],.vs [])
   |_=>match(Row.vs Q).cut o (T*size)with
    |some r=>some ([],r)
    |none=>none
theorem O2{T size o:Nat}{r old:Row}{cU:ah}(e:AI T size o r=some (cU,old))(hA:∀a∈cU,a):(if r.soft=false/\T=0 then some (.vs [])else r.cut o (T*size):Option Row)=some old:=by
 cases r with
 |is k ks=>
  simp only[AI,an,aB]at e;obtain⟨rfl,rfl⟩:=e;have X:0<T:=hA _ (by simp);have h2:o+T*size<=ks.length:=hA _ (by simp);rw[aJ L];simp only[Row.cut,aF h2]
 |ds Q=>
  simp only[AI,an,aB]at e;obtain⟨rfl,rfl⟩:=e;have h2:o+T*size<=Q.length:=hA _ (by simp);rw[aJ (fun q=>by have:=q.1;cases this)];simp only[Row.cut,aF h2]
 |vs Q=>
  cases T with
  |zero=>
   simp only[AI,an,aB]at e;obtain⟨rfl,rfl⟩:=e;rfl
  |succ T=>
   simp only[AI]at e;split at e
   . rename_i r' X;obtain⟨rfl,rfl⟩:=fg e;rw[aJ L];exact X
   . cases e
def G5(i:TypeInfo)(z:V):Bool:=decide (0<i.size)&&(decide (0<i.bytes)&&decide (z.cells.length=i.size))
def Rz(h:H rs)(m:Nat):Option (TypeId×Bool×B):=match h.get m with
 |some (.ia e f s)=>some (e,f,s)
 |_=>none
def AJ(P:Program)(eH:Array TypeId)(args:ag)(h:H rs)(n:Nat):Option (ah×nx):=
 match eH[0]?,eH[1]?,args with
 |some st,some xt,[s,x]=>match u7 P st,P.underlying xt with
  |some e,some xd=>match Kv xd,P.info? e,zeroOf P e with
   |true,some i,some z=>match G5 i z,G4 h i.size x with
    |true,some (cU,k,new)=>match new.flat with
     |true=>match s with
      | .dx none 0 _ _=>match newObj h n (CC e x new)with
        |some (h',n')=>some (cU++[0<k,fa k i.size i.bytes=true],.val (.dx (some (n,0)) k k i.size) h' n')
        |none=>none
      | .dV true T Q=>match newObj h n ((Row.ds Q).app new).Fo with
        |some (h',n')=>some (cU++[0<k,fa (T+k) i.size i.bytes=true,Q.length=T*i.size],.val (.dx (some (n,0)) (T+k) (T+k) i.size) h' n')
        |none=>none
      | .dx (some (m,o)) T cp jJ=>match Rz h m with
        |some (el,Bg,s0)=>match Nat.beq jJ i.size&&(Nat.blt m fW&&(Nat.beq o 0&&(Nat.beq i.size 1&&decide (el=e)))),vi new with
         |true,some t=>match newObj (h.set m none) n (.ia el Bg (s0++t))with
          |some (h',n')=>some (cU++[0<cp,T=s0.length,fa (T+k) i.size i.bytes=true],.val (.dx (some (n,0)) (T+k) (T+k) jJ) h' n')
          |none=>none
         |_,_=>none
        |none=>match Nat.beq jJ i.size&&Nat.blt m fW,(h.get m).bind rs.row with
        |true,some r=>match AI T i.size o r with
         |some (aa,old)=>match newObj (h.set m none) n (old.app new).Fo with
          |some (h',n')=>match new.soft with
           |true=>some (cU++(aa++[fa (T+k) i.size i.bytes=true]),.val (.dx (some (n,0)) (T+k) (T+k) jJ) h' n')
           |false=>some (cU++(aa++[0<k,fa (T+k) i.size i.bytes=true]),.val (.dx (some (n,0)) (T+k) (T+k) jJ) h' n')
          |none=>none
         |none=>none
        |_,_=>none
      |_=>none
     |false=>none
    |_,_=>none
   |_,_,_=>none
  |_,_=>none
 |_,_,_=>none
theorem G6{P:Program}{eH:Array TypeId}{args:ag}{h:H rs}{n:Nat}{cU:ah}{r:nx}(e:AJ P eH args h n=some (cU,r))(hA:∀a∈cU,a):yU P eH args h n=some r:=by
 unfold AJ at e;split at e
 . rename_i st xt s x X h2;split at e
   . rename_i el xd h3 h4;split at e
     . rename_i i z h5 h6 h7;split at e
       . rename_i A1 k new h8 h9;simp only[G5,aE,bD]at h8;split at e
         . rename_i RA;unfold yU;simp only[X,h2,h3,h4,h5,h6,h7];rw[aF h8];split at e
           . cases ho:newObj h n (CC el x new)with
             |none=>rw[ho]at e;cases e
             |some p=>
              rw[ho]at e;obtain⟨rfl,rfl⟩:=fg e;have ht:=ue h9 fun a ha=>hA a (by simp[ha]);have hk:0<k:=hA _ (by simp);have hr:fa k i.size i.bytes=true:=hA _ (by simp);rw[ht];simp only[RA,if_true];cases k with
              |zero=>omega
              |succ k=>simp only[aF hr,ho]
           . rename_i T Q;cases ho:newObj h n ((Row.ds Q).app new).Fo with
             |none=>rw[ho]at e;cases e
             |some p=>
              rw[ho]at e;obtain⟨rfl,rfl⟩:=fg e;have ht:=ue h9 fun a ha=>hA a (by simp[ha]);have hk:0<k:=hA _ (by simp);have hr:fa (T+k) i.size i.bytes=true:=hA _ (by simp);have J:Q.length=T*i.size:=hA _ (by simp);rw[ht];simp only[RA,if_true];cases k with
              |zero=>omega
              |succ k=>simp only[aF (And.intro hr J),ho]
           . rename_i m o T cp jJ;split at e
             . rename_i el0 Bg s0 GD;have W:h.get m=some (.ia el0 Bg s0):=by
                unfold Rz at GD;split at GD
                . rename_i hq;cases GD;exact hq
                . cases GD
               split at e
               case h_2=>cases e
               rename_i t hb ht;simp only[aE]at hb;cases ho:newObj (h.set m none) n (.ia el0 Bg (s0++t))with
               |none=>rw[ho]at e;cases e
               |some p=>
                rw[ho]at e;obtain⟨rfl,rfl⟩:=fg e;have htl:=ue h9 fun a ha=>hA a (by simp[ha]);have q1:0<cp:=hA _ (by simp);have q2:T=s0.length:=hA _ (by simp);have q3:fa (T+k) i.size i.bytes=true:=hA _ (by simp);rw[htl];simp only[RA,if_true];rw[aF ⟨aG hb.1,q3,ax hb.2.1⟩];simp only[W,ht];rw[aF ⟨⟨aG hb.2.2.1,q1⟩,⟨Nat.le_of_eq q2,fun _=>q2⟩,aG hb.2.2.2.1,aI hb.2.2.2.2⟩];simp only[q2,aU];rw[<- q2];simp only[ho]
             rename_i hnb;split at e
             . rename_i r0 hb xX;split at e
               . rename_i aa old pb;cases ho:newObj (h.set m none) n (old.app new).Fo with
                 |none=>rw[ho]at e;cases e
                 |some p=>
                  rw[ho]at e;simp only at e;have Y2:(∀a∈A1,a)->(∀a∈aa,a)->(new.soft=false->0<k)->fa (T+k) i.size i.bytes=true->nx.val (.dx (some (n,0)) (T+k) (T+k) jJ) p.1 p.2=r->
                   (match jL h i.size x with
                    |some (k,new)=>
                     if new.flat=true then
                      if jJ=i.size/\fa (T+k) i.size i.bytes=true/\m<fW then
                       match h.get m with
                       |some (.ia el0 Bg s0)=>match vi new with
                        |some t=>if(o=0/\0<cp)/\(T<=s0.length/\(Bg=true->T=s0.length))/\(i.size=1/\el0=el)then(match newObj (h.set m none) n (.ia el0 Bg (s0.take T++t))with
                         |some (h',n')=>some (.val (.dx (some (n,0)) (T+k) (T+k) jJ) h' n')
                         |none=>none)else none
                        |none=>none
                       |some ob=>match ob.row with
                        |some r=>
                         match(if r.soft=false/\T=0 then some (.vs [])else r.cut o (T*i.size):Option Row)with
                         |some old=>
                          if new.soft=false/\k=0 then some (.val (.dx (some (m,o)) T cp jJ) h n)
                          else match newObj (h.set m none) n (old.app new).Fo with
                           |some (h',n')=>some (.val (.dx (some (n,0)) (T+k) (T+k) jJ) h' n')
                           |none=>none
                         |none=>none
                        |none=>none
                       |_=>none
                      else none
                     else none
                    |none=>none:Option nx)=some r:=by
                   intro hA1 hB hk hr I3;subst I3;have ht:=ue h9 hA1;have afk:=O2 pb hB;simp only[aE]at hb;have zb:=aG hb.1;have Iu:m<fW:=ax hb.2;cases W:h.get m with
                   |none=>rw[W]at xX;cases xX
                   |some ob=>
                    rw[W]at xX;have xX:ob.row=some r0:=xX;rw[ht];simp only[RA,if_true];rw[aF ⟨zb,hr,Iu⟩];have afl:∀e f s,ob≠ .ia e f s:=fun e f s q=>by subst q;unfold Rz at hnb;rw[W]at hnb;cases hnb
                    cases ob<;>first|exact absurd rfl (afl _ _ _)|skip
                    all_goals
                    simp only[xX,afk];rw[aJ (fun q=>by have:=hk q.1;omega)];simp only[ho]
                  split at e
                  . simp only[an,aB]at e;obtain⟨rfl,I3⟩:=e;rename_i Y3;exact Y2 (fun a ha=>hA a (by simp[ha])) (fun a ha=>hA a (by simp[ha])) (fun q=>by rw[q]at Y3;cases Y3) (hA _ (by simp)) I3
                  . simp only[an,aB]at e;obtain⟨rfl,I3⟩:=e;exact Y2 (fun a ha=>hA a (by simp[ha])) (fun a ha=>hA a (by simp[ha])) (fun _=>hA _ (by simp)) (hA _ (by simp)) I3
               . cases e
             . cases e
           . cases e
         . cases e
       . cases e
     . cases e
   . cases e
 . cases e
def Dn(P:Program)(t:TypeId)(h:H rs)(v:V)(m o:Nat)(k:IntKind)(ks:List Int):Option (ah×H rs):=
 match lu P t,pQ k v.cells with
 |some s,some new=>match Nat.beq v.cells.length s&&(Nat.blt 0 s&&Nat.blt m fW)with
  |true=>some ([o+s<=ks.length],h.set m (some (.own k (fZ ks o new))))
  |false=>none
 |_,_=>none
theorem I4{P:Program}{t:TypeId}{h h':H rs}{v:V}{m o:Nat}{k:IntKind}{ks:List Int}{cU:ah}(W:h.get m=some (.own k ks))(e:Dn P t h v m o k ks=some (cU,h'))(hA:∀a∈cU,a):storeAt P t h v (.ptr (some (m,o)))=some h':=by
 unfold Dn at e;split at e
 . rename_i s new X h2;split at e
   . rename_i hb;obtain⟨rfl,rfl⟩:=fg e;simp only[aE]at hb;have h3:=aG hb.1;have h4:0<s:=ax hb.2.1;have h5:m<fW:=ax hb.2.2;have h6:o+s<=ks.length:=hA _ (by simp);simp only[storeAt,W,X,h2];rw[aF ⟨h3,h4,h5⟩,aF h6]
   . cases e
 . cases e
def G7(k:IntKind)(ks:List Int)(off sz:Nat):V:=.agg ((List.range sz).map fun j=>V.int k (ks.getD (off+j) 0))
theorem K7{P:Program}{t:TypeId}{k:IntKind}{ks:List Int}{off sz:Nat}(ha:Ow P t=some true)(hs:lu P t=some sz)(hl:off+sz<=ks.length):lT P t (ks.map (.int k)) off=some (G7 k ks off sz):=by
 simp only[lT,ha,hs,cut,bf,aF hl,bj,G7,an,V.agg.injEq];apply List.ext_getElem
 . simp;omega
 . intro i X h2;simp at X h2;have:off+i<ks.length:=by omega
   simp[List.getD,this]
def Ci(P:Program)(t:TypeId)(k:IntKind)(ks:List Int)(off:Nat):Option (Prop×V):=match Ow P t with
 |some false=>some (off<ks.length,.int k (ks.getD off 0))
 |some true=>match lu P t with
  |some sz=>some (off+sz<=ks.length,G7 k ks off sz)
  |none=>none
 |none=>none
theorem Dp{P:Program}{t:TypeId}{k:IntKind}{ks:List Int}{off:Nat}{p:Prop}{v:V}(e:Ci P t k ks off=some (p,v))(hp:p):lT P t (ks.map (.int k)) off=some v:=by
 unfold Ci at e;split at e
 . rename_i hag;obtain⟨rfl,rfl⟩:=fg e;simp only[lT,hag,bu,az hp,bj,aO,Option.getD_some]
 . rename_i hag;split at e
   . rename_i sz hs;obtain⟨rfl,rfl⟩:=fg e;exact K7 hag hs hp
   . cases e
 . cases e
def AK(P:Program)(t:TypeId):Bool:=match P.underlying t with
 |some .string=>true
 |_=>false
theorem wR{P:Program}{t:TypeId}(h:AK P t=true):P.underlying t=some .string:=by
 unfold AK at h;split at h
 . assumption
 . cases h
def By(P:Program)(o:Oper)(S:H V)(h:H rs)(n:Nat):Option (ah×nx):=
 match o.op with
 | .indexAddr t x i=>match iX S x,iX S i with
   |some (.dx (some (m,off)) T _ jJ),some (.int _ ix)=>match vL P t with
    |some s=>match Nat.beq s jJ with
     |true=>some ([0<=ix/\ix<T],.val (.ptr (some (m,off+ix.toNat*s))) h n)
     |false=>none
    |none=>none
   |_,_=>lz P o S h n
 | .load t a=>match iX S a with
   |some (.ptr (some (m,off)))=>match h.get m with
    |some (.ints k ks)=>match Ci P t k ks off with
     |some (p,v)=>some ([p],.val v h n)
     |none=>none
    |some (.own k ks)=>match Ci P t k ks off with
     |some (p,v)=>some ([p],.val v h n)
     |none=>none
    |_=>lz P o S h n
   |_=>lz P o S h n
 | .store t a x=>match iX S a,iX S x with
   |some (.ptr (some (m,off))),some v=>match h.get m with
    |some (.own k ks)=>match Dn P t h v m off k ks with
     |some (cU,h')=>some (cU,.val (.ew []) h' n)
     |none=>none
    |_=>lz P o S h n
   |_,_=>lz P o S h n
 | .call c=>match c.callee with
   | .builtin .append=>match vj S c.args.toList with
     |some [s,x]=>match Ry h s||Ry h x with
      |true=>match Nat.beq c.argTypes.size 2 with
       |true=>AJ P c.argTypes [s,x] h n
       |false=>none
      |false=>lz P o S h n
     |_=>lz P o S h n
   |_=>lz P o S h n
 | .slice t x (some lo) (some hi) none=>match iX S x,iX S lo,iX S hi with
   |some (.dx a T A jJ),some (.int _ lx),some (.int _ M)=>match vL P t with
    |some s=>match Nat.beq s jJ||a.isNone with
     |true=>some ([0<=M/\M<=A,0<=lx/\lx<=M.toNat],.val (.dx (match a with|none=>none|some (b,o)=>some (b,o+lx.toNat*jJ)) (M.toNat-lx.toNat) (A-lx.toNat) jJ) h n)
     |false=>none
    |none=>none
   |some (.str s),some (.int _ lx),some (.int _ M)=>match AK P t with
    |true=>some ([0<=M/\M<=s.length,0<=lx/\lx<=M.toNat],.val (.str ((s.take M.toNat).drop lx.toNat)) h n)
    |false=>none
   |_,_,_=>lz P o S h n
 | .slice t x none (some hi) none=>match iX S x,iX S hi with
   |some (.dx a T A jJ),some (.int _ M)=>match vL P t with
    |some s=>match Nat.beq s jJ||a.isNone with
     |true=>some ([0<=M/\M<=A],.val (.dx (match a with|none=>none|some (b,o)=>some (b,o+0*jJ)) (M.toNat-0) (A-0) jJ) h n)
     |false=>none
    |none=>none
   |some (.str s),some (.int _ M)=>match AK P t with
    |true=>some ([0<=M/\M<=s.length],.val (.str ((s.take M.toNat).drop 0)) h n)
    |false=>none
   |_,_=>lz P o S h n
 | .slice t x (some lo) none none=>match iX S x,iX S lo with
   |some (.dx a T A jJ),some (.int _ lx)=>match vL P t with
    |some s=>match Nat.beq s jJ||a.isNone with
     |true=>some ([0<=lx/\lx<=T],.val (.dx (match a with|none=>none|some (b,o)=>some (b,o+lx.toNat*jJ)) (T-lx.toNat) (A-lx.toNat) jJ) h n)
     |false=>none
    |none=>none
   |some (.str s),some (.int _ lx)=>match AK P t with
    |true=>some ([0<=lx/\lx<=s.length],.val (.str ((s.take s.length).drop lx.toNat)) h n)
    |false=>none
   |_,_=>lz P o S h n
 | .binOp .eql t x y _=>match iX S x,iX S y with
   |some (.agg xs),some (.agg ys)=>match Nc P t xs ys with
    |some r=>some ([],.val (.bool r) h n)
    |none=>none
   |_,_=>lz P o S h n
 | .binOp .neq t x y _=>match iX S x,iX S y with
   |some (.agg xs),some (.agg ys)=>match Nc P t xs ys with
    |some r=>some ([],.val (.bool (!r)) h n)
    |none=>none
   |_,_=>lz P o S h n
 | .binOp .quo t x y _=>match iX S x,iX S y with
   |some (.int k a),some (.int k' b)=>match decide (k=k')with
    |true=>some ([b≠0],.val (.int k (k.wrap (a.tdiv b))) h n)
    |false=>none
   |_,_=>lz P o S h n
 | .index t x i=>match iX S x,iX S i with
   |some (.str s),some (.int _ ix)=>match AK P t with
    |true=>some ([0<=ix/\ix.toNat<s.length],.val (.int .u8 (s.getD ix.toNat 0).toNat) h n)
    |false=>none
   |_,_=>lz P o S h n
 |_=>lz P o S h n
theorem ir{P:Program}{o:Oper}{S:H V}{h:H rs}{n:Nat}{l:ah}{r:nx}(e:lz P o S h n=some (l,r)):dH P o S h n=some r:=by
 unfold lz at e;split at e
 . rename_i r' hr;simp only[an,aB]at e;obtain⟨_,rfl⟩:=e;exact hr
 . cases e
theorem qB{P:Program}{t:TypeId}{s:Nat}(e:vL P t=some s):∃el,P.underlying t=some (.slice el)/\lu P el=some s:=by
 unfold vL u7 at e;cases hu:P.underlying t with
 |none=>simp[hu]at e
 |some d=>cases d<;>simp[hu]at e
          exact⟨_,rfl,e⟩
theorem sV{P:Program}{o:Oper}{S:H V}{h:H rs}{n:Nat}{l:ah}{r:nx}(e:By P o S h n=some (l,r))(hl:∀p∈l,p):dH P o S h n=some r:=by
 unfold By at e;split at e
 . rename_i t x i ho;split at e
   . rename_i m off T cp jJ k ix M hi;split at e
     . rename_i s hs;split at e
       . rename_i hb;obtain⟨rfl,rfl⟩:=fg e;have hb:=aG hb;subst hb;obtain⟨el,X,h2⟩:=qB hs;have J:=hl _ (au.2 rfl);simp only[dH,ho,M,hi,oy,X,h2,nu];rw[aF (by exact⟨J.1,J.2,trivial⟩)]
       . cases e
     . cases e
   . exact ir e
 . rename_i t a ho;split at e
   . rename_i m off ha;split at e
     . rename_i k ks W;split at e
       . rename_i p v hs;obtain⟨rfl,rfl⟩:=fg e;have hp:p:=hl _ (au.2 rfl);simp only[dH,ho,ha,loadAt,W,Dp hs hp,nu]
       . cases e
     . rename_i k ks W;split at e
       . rename_i p v hs;obtain⟨rfl,rfl⟩:=fg e;have hp:p:=hl _ (au.2 rfl);simp only[dH,ho,ha,loadAt,W,Dp hs hp,nu]
       . cases e
     . exact ir e
   . exact ir e
 . rename_i t a x ho;split at e
   . rename_i m off v ha M;split at e
     . rename_i k ks W;split at e
       . rename_i cU h' hs;obtain⟨rfl,rfl⟩:=fg e;simp only[dH,ho,ha,M,I4 W hs hl]
       . cases e
     . exact ir e
   . exact ir e
 . rename_i c ho;split at e
   . rename_i J;split at e
     . rename_i s x oq;split at e
       . split at e
         . rename_i hb;have hb:=aG hb;simp only[dH,ho,xp,oq,J,lU,hb,if_true];exact G6 e hl
         . cases e
       . exact ir e
     . exact ir e
   . exact ir e
 . rename_i t x lo hi ho;split at e
   . rename_i a T cp jJ k lx k2 M tF Bm M3;split at e
     . rename_i s hs;split at e
       . rename_i hb;obtain⟨rfl,rfl⟩:=fg e;obtain⟨el,X,h2⟩:=qB hs;have J:=hl _ (aQ ..);have I5:=hl _ (aM _ (au.2 rfl));have GS:s=jJ\/a=none:=by
          simp only[bV,Option.isNone_iff_eq_none]at hb;exact hb.imp aG _root_.id
         simp only[dH,ho,tF,Bm,M3,mS,mQ,X,h2,nu,Option.isSome_none,aP,false_and,cJ];rw[aF GS];simp only[eO,aF J,aF I5];cases a<;>rfl
       . cases e
     . cases e
   . rename_i s k lx k2 M tF Bm M3;split at e
     . rename_i hs;obtain⟨rfl,rfl⟩:=fg e;have J:=hl _ (aQ ..);have I5:=hl _ (aM _ (au.2 rfl));simp only[dH,ho,tF,Bm,M3,mS,mQ,wR hs,nu,Option.isSome_none,aP,false_and,cJ,eO,aF J,aF I5]
     . cases e
   . exact ir e
 . rename_i t x hi ho;split at e
   . rename_i a T cp jJ k M tF M3;split at e
     . rename_i s hs;split at e
       . rename_i hb;obtain⟨rfl,rfl⟩:=fg e;obtain⟨el,X,h2⟩:=qB hs;have J:=hl _ (au.2 rfl);have GS:s=jJ\/a=none:=by
          simp only[bV,Option.isNone_iff_eq_none]at hb;exact hb.imp aG _root_.id
         simp only[dH,ho,tF,M3,mS,mQ,X,h2,nu,Option.isSome_none,aP,false_and,cJ];rw[aF GS];simp only[eO,aF J];cases a<;>rfl
       . cases e
     . cases e
   . rename_i s k M tF M3;split at e
     . rename_i hs;obtain⟨rfl,rfl⟩:=fg e;have J:=hl _ (au.2 rfl);simp only[dH,ho,tF,M3,mS,mQ,wR hs,nu,Option.isSome_none,aP,false_and,cJ,eO,aF J]
     . cases e
   . exact ir e
 . rename_i t x lo ho;split at e
   . rename_i a T cp jJ k lx tF M3;split at e
     . rename_i s hs;split at e
       . rename_i hb;obtain⟨rfl,rfl⟩:=fg e;obtain⟨el,X,h2⟩:=qB hs;have J:=hl _ (au.2 rfl);have GS:s=jJ\/a=none:=by
          simp only[bV,Option.isNone_iff_eq_none]at hb;exact hb.imp aG _root_.id
         simp only[dH,ho,tF,M3,mS,mQ,X,h2,nu,Option.isSome_none,aP,false_and,cJ];rw[aF GS];simp only[eO,aF J];cases a<;>rfl
       . cases e
     . cases e
   . rename_i s k lx tF M3;split at e
     . rename_i hs;obtain⟨rfl,rfl⟩:=fg e;have J:=hl _ (au.2 rfl);simp only[dH,ho,tF,M3,mS,mQ,wR hs,nu,Option.isSome_none,aP,false_and,cJ,eO,aF J]
     . cases e
   . exact ir e
 . rename_i t x y yt ho;split at e
   . rename_i xs ys M hy;split at e
     . rename_i r hr;obtain⟨rfl,rfl⟩:=fg e;simp only[dH,ho,M,hy,Cz,I2 hr,bj,nu]
     . cases e
   . exact ir e
 . rename_i t x y yt ho;split at e
   . rename_i xs ys M hy;split at e
     . rename_i r hr;obtain⟨rfl,rfl⟩:=fg e;simp only[dH,ho,M,hy,Cz,I2 hr,bj,nu]
     . cases e
   . exact ir e
 . rename_i t x y yt ho;split at e
   . rename_i k a k' b M hy;split at e
     . rename_i hk;have hk:=aI hk;subst hk;obtain⟨rfl,rfl⟩:=fg e;have hb:b≠0:=hl _ (au.2 rfl);have:Cz P .quo t x y (.int k a) (.int k b)=some (.int k (k.wrap (a.tdiv b))):=by
        simp[Cz,binOp,Op.intDiv,hb,tH,iQ];rfl
       simp only[dH,ho,M,hy,this,nu]
     . cases e
   . exact ir e
 . rename_i t x i ho;split at e
   . rename_i s k ix M hi;split at e
     . rename_i hs;obtain⟨rfl,rfl⟩:=fg e;have J:0<=ix/\ix.toNat<s.length:=hl _ (au.2 rfl);have hg:s[ix.toNat]? =some s[ix.toNat]:=az J.2;have hd:s.getD ix.toNat 0=s[ix.toNat]:=by rw[aO,hg];rfl
       simp only[dH,ho,M,hi,Gt,wR hs,aF J.1,hg,hd,nu]
     . cases e
   . exact ir e
 . exact ir e
inductive pC where
 |split
 |di (v:V)
def Y4:List (Nat×pC)->Nat->Option pC
 | [],_=>none
 |x::r,d=>match Nat.beq x.1 d with
  |true=>some x.2
  |false=>Y4 r d
section
variable(Tr:List (Nat×pC))(dst:Option Nat)
def K8(v:V):hx V:=
 match dst with
 |none=>.ret v
 |some d=>match Y4 Tr d with
  |none=>.ret v
  |some (.di u)=>some [(⟨[],[],[v=u]⟩,u)]
  |some .split=>match v with
   | .bool c=>some [(⟨[(c,true)],[],[]⟩,.bool true),(⟨[(c,false)],[],[]⟩,.bool false)]
   |v=>.ret v
theorem rj(v:V):fE (K8 Tr dst v) (some v):=by
 unfold K8;split
 . exact .ret v
 . split
   . exact .ret v
   . rename_i u hu;intro l h;obtain rfl:=eE h;refine⟨⟨_,au.2 rfl,fun c J=>by simp at J⟩,fun e he _ hg=>?_⟩;simp only[au]at he;subst he;have:v=u:=hg.2 _ (au.2 rfl);rw[this]
   . split
     . rename_i c;intro l h;obtain rfl:=eE h;refine⟨?_,fun e he ho _=>?_⟩
       . cases J:c with
         |true=>exact⟨(⟨[(true,true)],[],[]⟩,.bool true),by simp,fun x M=>by simp only[au]at M;subst M;rfl⟩
         |false=>exact⟨(⟨[(false,false)],[],[]⟩,.bool false),by simp,fun x M=>by simp only[au]at M;subst M;rfl⟩
       . simp only[aD,aN,br]at he;rcases he with rfl|rfl
         . have:c=true:=ho (c,true) (au.2 rfl);rw[this]
         . have:c=false:=ho (c,false) (au.2 rfl);rw[this]
     . exact .ret _
end
abbrev Ctr:=FuncId->ag->H rs->Option (ah×V)
def qt:Option (QG×H rs×Nat)->Option (V×H rs×Nat)
 |some (.ret v,h,n)=>some (v,h,n)
 |_=>none
theorem rq{α:Type}{m:hx α}{r r':Option α}(h:fE m r)(e:∀a,r=some a->r'=some a):fE m r':=by
 intro l hl;obtain⟨X,h2⟩:=h l hl;exact⟨X,fun x M ho hg=>e _ (h2 x M ho hg)⟩
section
variable(P:Program)(fr:Ctr)(cf:ga)(Tr:List (Nat×pC))
theorem ug{α β:Type}(a:α)(g:α->Option β):(some a).bind g=g a:=rfl
def O3{α β:Type}:Option (α ⊕ β)->Option α
 |some (.inl a)=>some a
 |_=>none
def Cj(f:St->hx (h1×St)):Nat->St->hx (h1×St)
 |0,_=>none
 |k+1,s=>(f s).then fun p=>match p.1 with
  | .normal=>Cj f k p.2
  |_=>.ret p
theorem xB{f:St->hx (h1×St)}{g:St->Option (h1×St)}(h:∀s,fE (f s) (g s)):∀(k:Nat) (s:St),fE (Cj f k s) (rounds g k s)
 |0,s=>.none _
 |k+1,s=>by
  simp only[Cj,rounds];refine(fE.then (h s) (g:=fun p=>match p.1 with | .normal=>rounds g k p.2|_=>some p) (fun p=>?_)).of_eq ?_
  . obtain⟨x,s'⟩:=p;cases x with
    |normal=>exact xB h k s'
    |_=>exact .ret _
  . cases g s with
    |none=>rfl
    |some p=>obtain⟨x,s'⟩:=p;cases x<;>rfl
end
section
variable{P:Program}{fr:Ctr}{cf:ga}{Tr:List (Nat×pC)}{fl rt:Nat}{w0:World}{c:Code}{s:St}{cs:Exit->St->Prop}
def vM{α:Type}(f:h1×St->α):List (qc×h1×St)->List (List (Bool×Bool)×ah×α)
 | []=>[]
 |(p,x)::r=>(p.conds,p.VL,f x)::vM f r
def ru{α:Type}:List (qc×α)->ag
 | []=>[]
 |(p,_)::r=>p.same.map (·.1)++ru r
def vN{α:Type}:List (qc×α)->ag
 | []=>[]
 |(p,_)::r=>p.same.map (·.2)++vN r
def zA{α:Type}:hx α->List (qc×α)
 |some l=>l
 |none=>[]
theorem I6:∀{l:List (V×V)},l.map (·.1)=l.map (·.2)->∀c∈l,c.1=c.2
 | [],_,c,J=>by simp at J
 |x::r,h,c,J=>by
  simp only[bX,List.cons.injEq]at h;rcases aD.1 J with rfl|J
  . exact h.1
  . exact I6 h.2 c J
theorem zB{α:Type}:∀(l:List (qc×α)),ru l=vN l->∀p∈l,∀c∈p.1.same,c.1=c.2
 | [],_,p,hp=>by simp at hp
 |(q,x)::r,h,p,hp=>by
  simp only[ru,vN]at h;have hl:(q.same.map (·.1)).length=(q.same.map (·.2)).length:=by simp
  obtain⟨X,h2⟩:=List.append_inj h hl;rcases aD.1 hp with rfl|hp
  . exact I6 X
  . exact zB r h2 p hp
theorem sY{α:Type}{f:h1×St->α}:∀{l:List (qc×h1×St)} {p:qc×h1×St},p∈l->(p.1.conds,p.1.VL,f p.2)∈vM f l
 | [],p,hp=>by simp at hp
 |(q,x)::r,p,hp=>by
  rcases aD.1 hp with rfl|hp
  . simp[vM]
  . simp only[vM,aD];exact .inr (sY hp)
end
theorem I7{E:Env}{h:H rs}{n:Nat}{w:World}{v:V}(g:Good E h w)(hd:rL E n)(hv:v.free=true){e:Ending}{w':World}(ho:∃E',tV E' (.ret v) e)(b:Below w.heap.size w w'):kz E h n w (.ret v) h n e w':=by
 refine⟨E,.below g b,fun _ _=>rfl,hd,aC _,?_⟩
 . obtain⟨E1,ho⟩:=ho;cases e with
   |returned v'=>exact Dg _ _ hv ho
   |_=>exact ho.elim
def RB(P:Program)(f:FuncId)(spec:ag->H rs->Option (ah×V)):Prop:=f<P.funcs.size/\∀args h cU v,spec args h=some (cU,v)->v.free=true/\((∀a∈cU,a)->
 ∀E n w dm,dK E args dm->Good E h w->rL E n->callee P f=true->Calls P f dm.toArray w fun e w'=>(∃E',tV E' (.ret v) e)/\Below w.heap.size w w')
def cZ(args:ag)(h:H rs)(n:Nat):St:={ S:=mj args 0 .nil,h:=h,n:=n,gD:=[] }
section
variable{P:Program}{fr:Ctr}{cf:ga}{Tr:List (Nat×pC)}{fl:Nat}{f:FuncId}{fn:Func}{code:Code}
end
section
variable{P:Program}{fr:Ctr}{cf:ga}{Tr:List (Nat×pC)}{fl rt:Nat}{w0:World}{c:Code}{s:St}{cs:Exit->St->Prop}
def alr(P:Program)(cf:ga)(fl:Nat)(fn:Func)(v:V)(y:Exit)(s':St):Prop:=(y= .normal\/y= .ret)/\∃h' n',oo P cf fl fn s'.S s'.gD .ret s'.h s'.n=some (.ret v,h',n')
inductive Res where
 |next (s:St)
 |exit (id:Nat) (s:St)
 |ret (v:V)
 |bad
def Res.post(P:Program)(cf:ga)(fl:Nat)(fn:Func)(live:List Nat)(n0:Nat->St->Prop)(k:Nat)(cs:Exit->St->Prop):Res->Prop
 | .next s=>∃k',k'<k/\n0 k' s
 | .exit id s=>∀s',norm live s'=some s->cs (.exit id) s'
 | .ret v=>∀s',alr P cf fl fn v .ret s'->cs .ret s'
 | .bad=>False
end
def xC:Code->Array Oper | .region _ ops _=>ops|_=>#[]
section
variable{P:Program}{fr:Ctr}{cf:ga}{fl rt:Nat}{w0:World}{c:Code}{s:St}{cs:Exit->St->Prop}
theorem O4{fl:Fence}{n:Nat}{o:Oper}{a:Act}{w:World}{hL K':Act->World->Prop}{cs Q':Exit->Act->World->Prop}(hk:∀a w,hL a w->K' a w)(hq:∀y a w,y≠ .normal->cs y a w->Q' y a w)(h:o.wpIn fl n P a w hL cs):o.wpIn fl n P a w K' Q':=by
 have afm:LetsOut cs->LetsOut Q':=fun⟨a,w,q⟩=>⟨a,w,hq _ a w (by simp) q⟩;unfold Oper.wpIn at *;refine⟨h.1,?_⟩;have hh:=h.2;generalize (o.semAt fl.round a.eval).run P w=r at *;cases r with
 |ok x w'=>
  cases x<;>simp only[Oper.uponIn]at hh⊢ <;>
   first
    |exact hk _ _ hh
    |exact⟨hh.1,CallsIn.mono hh.2 (fun e w'' he=>by cases e<;>first|exact hk _ _ he|exact hq _ _ _ (by simp) he|exact afm he)⟩
    |exact⟨hh.1,RowsIn.mono hh.2 (fun _ _ he=>hk _ _ he)⟩
    |exact⟨hh.1,RoundIn.mono hh.2 (fun e w'' he=>by cases e<;>first|exact hk _ _ he|exact hq _ _ _ (by simp) he|exact afm he)⟩
    |exact hh
 |halt x w'=>cases x<;>simp only[Oper.uponIn]at hh⊢<;>first|exact hq _ _ _ (by simp) hh|exact hh
end
abbrev e9:=FuncId->ag->H rs->Nat->hx (V×H rs×Nat)
def pV(Q:e9)(cf:ga):Prop:=∀f args h n,fE (Q f args h n) (qt (cf f args h n))
def oK(P:Program)(o:Oper)(S:H V)(h:H rs)(n:Nat):Option (ah×nx):=
 match o.op with
 | .binOp .add t x y _=>match iX S x,iX S y with
   |some (.str a),some (.str b)=>some ([a.length+b.length<=xN],.val (.str (a++b)) h n)
   |_,_=>By P o S h n
 | .binOp .rem t x (.tmp y) _=>match iX S x,S.get y with
   |some (.int k a),some (.int k' b)=>match decide (k=k')with
    |true=>some ([b≠0],.val (.int k (a.tmod b)) h n)
    |false=>none
   |_,_=>By P o S h n
 | .indexAddr t x (.tmp i)=>match iX S x,S.get i with
   |some (.ptr (some (m,off))),some (.int _ ix)=>match P.underlying t with
    |some (.array T e)=>match lu P e with
     |some s=>some ([0<=ix/\ix<T],.val (.ptr (some (m,off+ix.toNat*s))) h n)
     |none=>none
    |_=>By P o S h n
   |_,_=>By P o S h n
 | .makeSlice t (.tmp l) (.tmp c)=>match u7 P t,S.get l,S.get c with
   |some e,some (.int _ lv),some (.int _ cv)=>match P.info? e,zeroOf P e with
    |some i,some z=>match G5 i z,newObj h n (wv z.cells (IntKind.i64.wrap cv).toNat).Fo with
     |true,some (h',n')=>some ([0<=IntKind.i64.wrap lv/\IntKind.i64.wrap lv<=IntKind.i64.wrap cv/\i.bytes*IntKind.i64.wrap cv<=281474976710656],.val (.dx (some (n,0)) (IntKind.i64.wrap lv).toNat (IntKind.i64.wrap cv).toNat i.size) h' n')
     |_,_=>none
    |_,_=>none
   |_,_,_=>By P o S h n
 |_=>By P o S h n
theorem kA{P:Program}{o:Oper}{S:H V}{h:H rs}{n:Nat}{l:ah}{r:nx}(e:oK P o S h n=some (l,r))(hl:∀p∈l,p):dH P o S h n=some r:=by
 unfold oK at e;split at e
 . rename_i t x y u ho;split at e
   . rename_i a b ha hb;obtain⟨rfl,rfl⟩:=fg e;have ja:=hl _ (au.2 rfl);unfold dH;rw[ho];simp only[ha,hb];unfold Cz QC;simp only[aF ja,nu]
   . exact sV e hl
 . rename_i t x y yt ho;split at e
   . rename_i k a k' b M hy;split at e
     . rename_i hk;have hk:=aI hk;subst hk;obtain⟨rfl,rfl⟩:=fg e;have hb:b≠0:=hl _ (au.2 rfl);have hy':iX S (.tmp y)=some (.int k b):=hy;have:Cz P .rem t x (.tmp y) (.int k a) (.int k b)=some (.int k (a.tmod b)):=by
        simp[Cz,binOp,Op.intDiv,hb,tH,iQ];rfl
       simp only[dH,ho,M,hy',this,nu]
     . cases e
   . exact sV e hl
 . rename_i t x i ho;split at e
   . rename_i m off k ix M hi;split at e
     . rename_i T el hu;split at e
       . rename_i sz hs;obtain⟨rfl,rfl⟩:=fg e;have Y5:=hl _ (au.2 rfl);have kS:iX S (.tmp i)=some (.int k ix):=hi;unfold dH;rw[ho];simp only[M,kS];unfold oy;simp only[hu,hs,aF Y5,nu]
       . cases e
     . exact sV e hl
   . exact sV e hl
 . rename_i t l1 c1 ho;split at e
   . rename_i el k1 lv k2 cv he X h2;split at e
     . rename_i i z hi hz;split at e
       . rename_i h' n' hb hn;obtain⟨rfl,rfl⟩:=fg e;simp only[G5,aE,bD]at hb;have Y5:=hl _ (au.2 rfl);have mO:iX S (.tmp l1)=some (.int k1 lv):=X;have Vt:iX S (.tmp c1)=some (.int k2 cv):=h2;unfold dH;rw[ho];simp only[mO,Vt];unfold ox;simp only[he,hi,hz];rw[aF ⟨hb.1,hb.2.2,Y5.1,Y5.2.1,Y5.2.2⟩];simp only[hn]
       . cases e
     . cases e
   . exact sV e hl
 . exact sV e hl
def eX(Q:ai)(o size:Nat):ai:=(Q.drop o).take size
def lf.vc:lf:=.bool false
def Dq(P:Program)(t:TypeId)(Q:ai)(off:Nat):Option (Prop×V):=match Ow P t with
 |some false=>some (off<Q.length,(Q.getD off lf.vc).iZ)
 |some true=>match lu P t with
  |some sz=>some (off+sz<=Q.length,.agg (lf.lQ (eX Q off sz)))
  |none=>none
 |none=>none
theorem I8{P:Program}{t:TypeId}{Q:ai}{off:Nat}{p:Prop}{v:V}(e:Dq P t Q off=some (p,v))(hp:p):lT P t (lf.lQ Q) off=some v:=by
 unfold Dq at e;split at e
 . rename_i hag;obtain⟨rfl,rfl⟩:=fg e;simp only[lT,hag,lf.gB,bu,az hp,bj,aO,Option.getD_some]
 . rename_i hag;split at e
   . rename_i sz hs;obtain⟨rfl,rfl⟩:=fg e;simp only[lT,hag,hs,cut,lf.gB,bf,aF hp,bj,eX,cN,List.map_drop]
   . cases e
 . cases e
def AL(P:Program)(t:TypeId)(h:H rs)(v:V)(m o:Nat)(Q:ai):Option (ah×H rs):=
 match lu P t,iB v.cells with
 |some s,some new=>match Nat.beq v.cells.length s&&(Nat.blt 0 s&&Nat.blt m fW)with
  |true=>some ([o+s<=Q.length],h.set m (some (.deep (xn Q o new))))
  |false=>none
 |_,_=>none
theorem G8{P:Program}{t:TypeId}{h h':H rs}{v:V}{m o:Nat}{Q:ai}{cU:ah}(W:h.get m=some (.deep Q))(e:AL P t h v m o Q=some (cU,h'))(hA:∀a∈cU,a):storeAt P t h v (.ptr (some (m,o)))=some h':=by
 unfold AL at e;split at e
 . rename_i s new X h2;split at e
   . rename_i hb;obtain⟨rfl,rfl⟩:=fg e;simp only[aE]at hb;have h3:=aG hb.1;have h4:0<s:=ax hb.2.1;have h5:m<fW:=ax hb.2.2;have h6:o+s<=Q.length:=hA _ (by simp);simp only[storeAt,W,X,h2];rw[aF ⟨h3,h4,h5⟩,aF h6]
   . cases e
 . cases e
def rz(vc:Nat)(y:Nat):Option V->Option (ah×Nat)
 |none=>some ([],vc)
 |some (.int _ i)=>some ([0<=i/\i<=y],i.toNat)
 |some _=>none
theorem pD{vc y r:Nat}{o:Option V}{cU:ah}(e:rz vc y o=some (cU,r))(hA:∀a∈cU,a):eO vc y o=some r:=by
 unfold rz at e;split at e
 . simp only[an,aB]at e;obtain⟨_,rfl⟩:=e;rfl
 . obtain⟨rfl,rfl⟩:=fg e;simp only[eO,aF (hA _ (au.2 rfl))]
 . cases e
def AM(s:Nat)(f:Bool)(T:Nat)(Q:ai)(lo hi mx:Option V):Option (ah×V):=
 match mx with
 |none=>match rz T T hi with
  |some (cU,h)=>match rz 0 h lo with
   |some (aa,l)=>some ((Q.length=T*s)::(cU++aa),.dV (f&& !hi.isSome) (h-l) (eX Q (l*s) ((h-l)*s)))
   |none=>none
  |none=>none
 |some mv=>match rz T T (some mv),hi with
  |some (es,m),some hv=>match rz T m (some hv)with
   |some (cU,h)=>match rz 0 h lo with
    |some (aa,l)=>some ((Q.length=T*s)::(h=m)::(es++(cU++aa)),.dV true (h-l) (eX Q (l*s) ((h-l)*s)))
    |none=>none
   |none=>none
  |_,_=>none
theorem G9{P:Program}{t el:TypeId}{s T:Nat}{f:Bool}{Q:ai}{lo hi mx:Option V}{h:H rs}{cU:ah}{v:V}(hu:P.underlying t=some (.slice el))(hs:lu P el=some s)
  (e:AM s f T Q lo hi mx=some (cU,v)) (hA:∀a∈cU,a):mQ P t h (.dV f T Q) lo hi mx=some v:=by
 unfold AM at e;split at e
 . split at e
   case h_2=>cases e
   rename_i A1 hh X;split at e
   case h_2=>cases e
   rename_i B1 l h2;obtain⟨rfl,rfl⟩:=fg e;have k1:=pD X fun a ha=>hA a (by simp[ha]);have k2:=pD h2 fun a ha=>hA a (by simp[ha]);have k3:Q.length=T*s:=hA _ (by simp);unfold mQ;rw[aJ (by simp)];simp only[hu,hs,aF k3,k1,k2,eX]
 . split at e
   case h_2=>cases e
   rename_i es m hv h0;split at e
   case h_2=>cases e
   rename_i A1 hh X;split at e
   case h_2=>cases e
   rename_i B1 l h2;obtain⟨rfl,rfl⟩:=fg e;have k0:=pD h0 fun a ha=>hA a (by simp[ha]);have k1:=pD X fun a ha=>hA a (by simp[ha]);have k2:=pD h2 fun a ha=>hA a (by simp[ha]);have k3:Q.length=T*s:=hA _ (by simp);have k4:hh=m:=hA _ (by simp);unfold mQ;rw[aJ (by simp)];simp only[hu,hs,aF k3,k0,k1,k2,aF k4,eX]
def RC(P:Program)(t:TypeId):Bool:=match P.underlying t with
 |some (.slice _)=>true
 |_=>false
def K9(P:Program)(o:Oper)(S:H V)(h:H rs)(n:Nat):Option (ah×nx):=
 match o.op with
 | .load t a=>match iX S a with
   |some (.ptr (some (m,off)))=>match h.get m with
    |some (.deep Q)=>match Dq P t Q off with
     |some (p,v)=>some ([p],.val v h n)
     |none=>none
    |_=>oK P o S h n
   |_=>oK P o S h n
 | .store t a x=>match iX S a,iX S x with
   |some (.ptr (some (m,off))),some v=>match h.get m with
    |some (.deep Q)=>match AL P t h v m off Q with
     |some (cU,h')=>some (cU,.val (.ew []) h' n)
     |none=>none
    |_=>oK P o S h n
   |_,_=>oK P o S h n
 | .indexAddr t x i=>match iX S x,iX S i with
   |some (.dV _ T Q),some (.int _ ix)=>match vL P t with
    |some s=>some ([0<=ix/\ix<T,Q.length=T*s],.val (.eK (eX Q (ix.toNat*s) s)) h n)
    |none=>none
   |_,_=>oK P o S h n
 | .slice t x lo hi mx=>match iX S x with
   |some (.dV f T Q)=>match vL P t,mS S lo,mS S hi,mS S mx with
    |some s,some lo,some hi,some mx=>match AM s f T Q lo hi mx with
     |some (cU,v)=>some (cU,.val v h n)
     |none=>none
    |_,_,_,_=>none
   |_=>oK P o S h n
 | .convert MW dst x=>match iX S x with
   |some (.dx (some (m,off)) T _ jJ)=>match u9 (h.get m)with
    |some s0=>match P.underlying MW,P.underlying dst,Nat.beq jJ 1 with
     |some (.slice e),some .string,true=>match P.underlying e with
      |some (.int .u8)=>some ([off+T<=s0.length],.val (.str ((s0.drop off).take T)) h n)
      |_=>none
     |_,_,_=>none
    |none=>match Bh (h.get m)with
    |some ks=>match P.underlying MW,P.underlying dst,Nat.beq jJ 1 with
     |some (.slice e),some .string,true=>match P.underlying e with
      |some (.int .u8)=>some ([off+T<=ks.length],.val (.str (eW ((ks.drop off).take T))) h n)
      |_=>none
     |_,_,_=>none
    |none=>oK P o S h n
   |_=>oK P o S h n
 | .call c=>match c.callee,vj S c.args.toList with
   | .builtin .unsafeSliceData,some [.dx (some (m,off)) _ A _]=>some ([0<A],.val (.ptr (some (m,off))) h n)
   | .builtin .unsafeString,some [.ptr (some (m,0)),.int .i64 l]=>match c.argTypes[0]? with
     |some pt=>match P.underlying pt,h.get m with
      |some (.pointer e),some (.ia el _ s)=>match decide (el=e)&&(Nat.beq (P.cellsOf e) 1&&(Nat.blt m fW&&Nat.beq c.argTypes.size 2))with
       |true=>some ([l=s.length/\0<s.length,s.length<=xN],.val (.str s) (h.set m (some (.ia el true s))) n)
       |false=>none
      |_,_=>none
     |none=>none
   |_,_=>oK P o S h n
 | .binOp .eql t x y _=>match iX S x,iX S y with
   |some (.dV _ k _),some (.dx none _ _ _)=>match RC P t with
    |true=>some ([0<k],.val (.bool false) h n)
    |false=>none
   |_,_=>oK P o S h n
 |_=>oK P o S h n
theorem VN{P:Program}{d:Nat}{t el:TypeId}{f:Bool}{k l c e:Nat}{Q:ai}(hu:P.underlying t=some (.slice el)):MV P (d+1) t (.dV f (k+1) Q) (.dx none l c e)=some false:=by
 simp only[MV,hu]
theorem O5{P:Program}{o:Oper}{S:H V}{h:H rs}{n:Nat}{l:ah}{r:nx}(e:K9 P o S h n=some (l,r))(hl:∀p∈l,p):dH P o S h n=some r:=by
 unfold K9 at e;split at e
 . rename_i t a ho;split at e
   . rename_i m off ha;split at e
     . rename_i Q W;split at e
       . rename_i p v hs;obtain⟨rfl,rfl⟩:=fg e;have hp:p:=hl _ (au.2 rfl);simp only[dH,ho,ha,loadAt,W,I8 hs hp,nu]
       . cases e
     . exact kA e hl
   . exact kA e hl
 . rename_i t a x ho;split at e
   . rename_i m off v ha M;split at e
     . rename_i Q W;split at e
       . rename_i cU h' hs;obtain⟨rfl,rfl⟩:=fg e;simp only[dH,ho,ha,M,G8 W hs hl]
       . cases e
     . exact kA e hl
   . exact kA e hl
 . rename_i t x i ho;split at e
   . rename_i f T Q k ix M hi;split at e
     . rename_i s hs;obtain⟨rfl,rfl⟩:=fg e;obtain⟨el,X,h2⟩:=qB hs;have k1:=hl _ (aQ ..);have k2:=hl _ (aM _ (au.2 rfl));simp only[dH,ho,M,hi,oy,X,h2,nu];rw[aF ⟨k1,k2⟩];rfl
     . cases e
   . exact kA e hl
 . rename_i t x lo hi mx ho;split at e
   . rename_i f T Q M;split at e
     . rename_i s lov hiv mxv hs X h2 h3;split at e
       . rename_i cU v hv;obtain⟨rfl,rfl⟩:=fg e;obtain⟨el,k1,k2⟩:=qB hs;simp only[dH,ho,M,X,h2,h3,G9 k1 k2 hv hl,nu]
       . cases e
     . cases e
   . exact kA e hl
 . rename_i MW dst x ho;split at e
   . rename_i m off T cp jJ M;split at e
     . rename_i s0 GD;split at e
       . rename_i el X h2 h3;split at e
         . rename_i h4;obtain⟨rfl,rfl⟩:=fg e;have k1:=hl _ (au.2 rfl);simp only[dH,ho,M,qJ,X,h2,h4,aF (aG h3),GD];rw[aF (Or.inr k1)]
         . cases e
       . cases e
     . rename_i GD;split at e
       . rename_i ks Cb;split at e
         . rename_i el X h2 h3;split at e
           . rename_i h4;obtain⟨rfl,rfl⟩:=fg e;have k1:=hl _ (au.2 rfl);simp only[dH,ho,M,qJ,X,h2,h4,aF (aG h3),GD,Cb];rw[aF (Or.inr k1)]
           . cases e
         . cases e
       . exact kA e hl
   . exact kA e hl
 . rename_i c ho;split at e
   . rename_i m off x1 A x2 J ha;obtain⟨rfl,rfl⟩:=fg e;have k1:=hl _ (au.2 rfl);simp only[dH,ho,xp,ha,J,lU,aF k1]
   . rename_i m l J ha;split at e
     . rename_i pt hpt;split at e
       . rename_i e0 el x1 s hp W;split at e
         . rename_i hb;obtain⟨rfl,rfl⟩:=fg e;simp only[aE,bD]at hb;have k1:=hl _ (aQ ..);have k2:=hl _ (aM _ (au.2 rfl));simp only[dH,ho,xp,ha,J,lU,hpt,hp,W];rw[aF ⟨k1,⟨hb.1,aG hb.2.1⟩,ax hb.2.2.1,aG hb.2.2.2,k2⟩]
         . cases e
       . cases e
     . cases e
   . exact kA e hl
 . rename_i t x y _ ho;split at e
   . rename_i f k Q z1 z2 z3 M hy;split at e
     . rename_i hq;obtain⟨rfl,rfl⟩:=fg e;have k1:0<k:=hl _ (au.2 rfl);obtain⟨k',rfl⟩:∃k',k=k'+1:=⟨k-1,L⟩;unfold RC at hq;split at hq
       . rename_i el hu;simp only[dH,ho,M,hy,Cz,Gs,VN (d:=9999) hu,bj,nu]
       . cases hq
     . cases e
   . exact kA e hl
 . exact kA e hl
def O6(P:Program)(o:Oper)(S:H V)(h:H rs)(n:Nat):hx nx:=match K9 P o S h n with
 |some (l,r)=>some [(⟨[],[],l⟩,r)]
 |none=>none
theorem uh(P:Program)(o:Oper)(S:H V)(h:H rs)(n:Nat):fE (O6 P o S h n) (dH P o S h n):=by
 intro l e;unfold O6 at e;split at e
 . rename_i a r hs;obtain rfl:=eE e;refine⟨⟨_,au.2 rfl,fun c J=>by simp at J⟩,fun e he _ hg=>?_⟩;simp only[au]at he;subst he;exact O5 hs hg.2
 . cases e
section
variable(P:Program)(Q:e9)(cf:ga)(Tr:List (Nat×pC))
def O7(ops:Array Oper):List Oper->St->hx (h1×St)
 | [],s=>.ret (.normal,s)
 |o::rest,s=>
  match iL ops o s.S with
  |some false=>match jj s.S o.dst (.ew [])with
   |some S=>O7 ops rest { s with S:=S }
   |none=>none
  |some true=>(O6 P o s.S s.h s.n).then fun r=>match r with
   | .val v h n=>(K8 Tr o.dst v).then fun v=>match jj s.S o.dst v with
     |some S=>O7 ops rest { s with S:=S,h:=h,n:=n }
     |none=>none
   | .call f args=>(Q f args s.h s.n).then fun q=>(K8 Tr o.dst q.1).then fun v=>match jj s.S o.dst v with
     |some S=>O7 ops rest { s with S:=S,h:=q.2.1,n:=q.2.2 }
     |none=>none
   |_=>none
  |none=>none
theorem uj(pT:pV Q cf)(ops:Array Oper):∀(l:List Oper) (s:St),fE (O7 P Q Tr ops l s) (jo P cf ops l s)
 | [],s=>.ret _
 |o::rest,s=>by
  simp only[O7,jo];rcases iL ops o s.S with _|(_|_)
  . exact .none _
  . cases jj s.S o.dst (.ew [])with
    |none=>exact .none _
    |some S=>exact uj pT ops rest _
  . refine rq (fE.then (uh P o s.S s.h s.n) (g:=fun r=>match r with
     | .val v h n=>match jj s.S o.dst v with
       |some S=>jo P cf ops rest { s with S:=S,h:=h,n:=n }
       |none=>none
     | .call f args=>(qt (cf f args s.h s.n)).bind fun q=>match jj s.S o.dst q.1 with
       |some S=>jo P cf ops rest { s with S:=S,h:=q.2.1,n:=q.2.2 }
       |none=>none
     |_=>none) (fun r=>?_)) ?_
    . cases r with
      |val v h n=>
       refine(fE.then (rj Tr o.dst v) (g:=fun v=>match jj s.S o.dst v with
        |some S=>jo P cf ops rest { s with S:=S,h:=h,n:=n }
        |none=>none) (fun v=>?_)).of_eq rfl
       cases jj s.S o.dst v with
       |none=>exact .none _
       |some S=>exact uj pT ops rest _
      |call f args=>
       refine fE.then (pT f args s.h s.n) (fun q=>?_);refine(fE.then (rj Tr o.dst q.1) (g:=fun v=>match jj s.S o.dst v with
        |some S=>jo P cf ops rest { s with S:=S,h:=q.2.1,n:=q.2.2 }
        |none=>none) (fun v=>?_)).of_eq rfl
       cases jj s.S o.dst v with
       |none=>exact .none _
       |some S=>exact uj pT ops rest _
      |nf f c args=>exact .none _
      |recover=>exact .none _
      |panic v=>exact .none _
    . intro a ha;cases hs:dH P o s.S s.h s.n with
      |none=>rw[hs]at ha;cases ha
      |some r=>
       rw[hs]at ha;cases r with
       |call f args=>
        simp only[ug]at ha ⊢;cases hj:cf f args s.h s.n with
        |none=>rw[hj]at ha;cases ha
        |some q=>
         rw[hj]at ha;obtain⟨uH,h,n⟩:=q;cases uH with
         |ret v=>exact ha
         |An v=>cases ha
       |val v h n=>exact ha
       |_=>cases ha
section
variable(I i:Nat)(o:Oper)(S:H V)
def Nd(v:V)(x:H rs):hx Unit:=
 (O6 P o S x (I+i)).then fun r=>match r with
  | .val u _ k=>match Nat.beq k (I+i)&&v.rZ with
    |true=>some [(⟨[],[(u,v)],[]⟩,())]
    |false=>none
  |_=>none
theorem Bz(v:V)(x:H rs):fE (Nd P I i o S v x) (if ng P I i o S v x=true then some ()else none):=by
 unfold Nd;refine(fE.then (uh P o S x (I+i)) (g:=fun r=>if(match r with | .val u _ k=>Nat.beq k (I+i)&&V.beq u v|_=>false)=true then some ()else none) (fun r=>?_)).of_eq ?_
 . cases r with
   |val u h k=>
    simp only;split
    . rename_i hb;simp only[aE]at hb;intro l e;obtain rfl:=eE e;refine⟨⟨_,au.2 rfl,fun c J=>by simp at J⟩,fun e he _ hg=>?_⟩;simp only[au]at he;subst he;have:u=v:=hg.1 (u,v) (au.2 rfl);subst this;rw[aF (by rw[hb.1,V.beq_refl u hb.2];rfl)]
    . exact .none _
   |_=>exact .none _
 . unfold ng;cases dH P o S x (I+i)with
   |none=>rfl
   |some r=>cases r<;>rfl
end
def I9(I i:Nat)(o:Oper)(S:H V)(v:V)(c9:af)(iy:Nat):List (Nat×Nat×H rs)->hx Unit
 | []=>.ret ()
 |(e,m,x)::r=>match eu iy e with
  |true=>.ret ()
  |false=>(Nd P I i o S v (gV I c9 m x iy)).then fun _=>I9 I i o S v c9 iy r
theorem BA(I i:Nat)(o:Oper)(S:H V)(v:V)(c9:af)(iy:Nat):∀l:List (Nat×Nat×H rs),fE (I9 P I i o S v c9 iy l) (if qM P I i o S v c9 iy l=true then some ()else none)
 | []=>(fE.ret ()).of_eq rfl
 |(e,m,x)::r=>by
  simp only[I9,qM];rcases Bool.eq_false_or_eq_true (eu iy e)with hb|hb
  . simp only[hb,if_true];exact .ret ()
  . simp only[hb,aP,cJ];refine(fE.then (Bz P I i o S v _) (fun _=>BA I i o S v c9 iy r)).of_eq ?_;cases ng P I i o S v (gV I c9 m x iy)<;>cases qM P I i o S v c9 iy r<;>rfl
def Ds(I:Nat)(c9:af)(m:Nat)(x:H rs):List (Nat×Nat×Oper×H V×V)->hx Unit
 | []=>.ret ()
 |(j,iy,o,S,v)::r=>match eu m j with
  |true=>Ds I c9 m x r
  |false=>(Nd P I j o S v (gV I c9 m x iy)).then fun _=>Ds I c9 m x r
theorem um(I:Nat)(c9:af)(m:Nat)(x:H rs):∀l:List (Nat×Nat×Oper×H V×V),fE (Ds P I c9 m x l) (if qi P I c9 m x l=true then some ()else none)
 | []=>(fE.ret ()).of_eq rfl
 |(j,iy,o,S,v)::r=>by
  simp only[Ds,qi];rcases Bool.eq_false_or_eq_true (eu m j)with hb|hb
  . simp only[hb,Bool.true_or,Bool.true_and];exact um I c9 m x r
  . simp only[hb,Bool.false_or];refine(fE.then (Bz P I j o S v _) (fun _=>um I c9 m x r)).of_eq ?_;cases ng P I j o S v (gV I c9 m x iy)<;>cases qi P I c9 m x r<;>rfl
def He(I i iy:Nat)(o:Oper)(s:Dr)(v:V)(h:H rs)(n:Nat):hx Dr:=
 match jj s.S o.dst v with
 |some S=>(Ds P I s.c9 iy h s.reads).then fun _=>
   .ret { S:=S,eC:=s.eC++[iy],cur:=(iy,h),qh:=(i,s.cur.1,s.cur.2)::s.qh,last:=some i,c9:=s.c9,reads:=s.reads,n:=n }
 |none=>none
theorem zC(I i iy:Nat)(o:Oper)(s:Dr)(v:V)(h:H rs)(n:Nat):fE (He P I i iy o s v h n) (kU P I i iy o s v h n):=by
 unfold He kU;cases jj s.S o.dst v with
 |none=>exact .none _
 |some S=>
  refine(fE.then (um P I s.c9 iy h s.reads) (g:=fun _=>some _) (fun _=>.ret _)).of_eq ?_;cases qi P I s.c9 iy h s.reads<;>rfl
def RD(ops:Array Oper)(I i:Nat)(o:Oper)(s:Dr):hx Dr:=
 match iL ops o s.S with
 |some false=>match jj s.S o.dst (.ew [])with
  |some S=>.ret { s with S:=S,eC:=s.eC++[eT s.eC o.after.toList] }
  |none=>none
 |some true=>
  match rR o.op with
  |true=>match Ao (eT s.eC o.after.toList) s.last with
   |true=>(O6 P o s.S (gV I s.c9 s.cur.1 s.cur.2 (eT s.eC o.after.toList)) s.n).then fun r=>match r with
    | .val v h n=>(K8 Tr o.dst v).then fun v=>He P I i (eT s.eC o.after.toList) o s v h n
    | .call f args=>(Q f args (gV I s.c9 s.cur.1 s.cur.2 (eT s.eC o.after.toList)) s.n).then fun q=>(K8 Tr o.dst q.1).then fun v=>He P I i (eT s.eC o.after.toList) o s v q.2.1 q.2.2
    |_=>none
   |false=>none
  |false=>(O6 P o s.S (gV I s.c9 s.cur.1 s.cur.2 (eT s.eC o.after.toList)) (I+i)).then fun r=>match r with
   | .val v h k=>(K8 Tr o.dst v).then fun v=>match jj s.S o.dst v with
     |some S=>match Nat.beq k (I+i)with
      |true=>match qL o.op with
       |true=>.ret { s with S:=S,eC:=s.eC++[eT s.eC o.after.toList] }
       |false=>(I9 P I i o s.S v s.c9 (eT s.eC o.after.toList) s.qh).then fun _=>
         .ret { s with S:=S,eC:=s.eC++[eT s.eC o.after.toList],reads:=(i,eT s.eC o.after.toList,o,s.S,v)::s.reads }
      |false=>match h.get (I+i)with
       |some b=>match b.wr with
        |true=>.ret { s with S:=S,eC:=s.eC++[eT s.eC o.after.toList],c9:=(i,b)::s.c9 }
        |false=>none
       |none=>none
     |none=>none
   |_=>none
 |none=>none
theorem Ja(pT:pV Q cf)(ops:Array Oper)(I i:Nat)(o:Oper)(s:Dr):fE (RD P Q Tr ops I i o s) (O3 (vk P cf ops I i o s)):=by
 unfold RD vk;rcases iL ops o s.S with _|(_|_)
 . exact .none _
 . cases jj s.S o.dst (.ew [])with
   |none=>exact .none _
   |some S=>exact(fE.ret _).of_eq rfl
 . cases rR o.op with
   |true=>
    rcases Bool.eq_false_or_eq_true (Ao (eT s.eC o.after.toList) s.last)with hb|hb
    rotate_left
    . simp only[hb];exact .none _
    . simp only[hb,if_true];refine(fE.then (uh P o s.S _ s.n) (g:=fun r=>match r with
       | .val v h n=>kU P I i (eT s.eC o.after.toList) o s v h n
       | .call f args=>(qt (cf f args (gV I s.c9 s.cur.1 s.cur.2 (eT s.eC o.after.toList)) s.n)).bind fun q=>kU P I i (eT s.eC o.after.toList) o s q.1 q.2.1 q.2.2
       |_=>none) (fun r=>?_)).of_eq ?_
      . cases r with
        |val v h n=>exact(fE.then (rj Tr o.dst v) (g:=fun v=>kU P I i (eT s.eC o.after.toList) o s v h n) (fun v=>zC P I i _ o s v h n)).of_eq rfl
        |call f args=>
         refine fE.then (pT f args _ s.n) (fun q=>?_);exact(fE.then (rj Tr o.dst q.1) (g:=fun v=>kU P I i (eT s.eC o.after.toList) o s v q.2.1 q.2.2) (fun v=>zC P I i _ o s v q.2.1 q.2.2)).of_eq rfl
        |_=>exact .none _
      . cases dH P o s.S (gV I s.c9 s.cur.1 s.cur.2 (eT s.eC o.after.toList)) s.n with
        |none=>rfl
        |some r=>
         cases r with
         |val v h n=>
          simp only[ug];cases kU P I i (eT s.eC o.after.toList) o s v h n<;>rfl
         |call f args=>
          simp only[ug];cases cf f args (gV I s.c9 s.cur.1 s.cur.2 (eT s.eC o.after.toList)) s.n with
          |none=>rfl
          |some q=>
           obtain⟨uH,h,n⟩:=q;cases uH with
           |ret v=>
            simp only[qt,ug];cases kU P I i (eT s.eC o.after.toList) o s v h n<;>rfl
           |An v=>simp only;split<;>rfl
         |_=>rfl
   |false=>
    simp only[aP,cJ];have body:∀(v:V) (h:H rs) (k:Nat),fE (match jj s.S o.dst v with
      |some S=>match Nat.beq k (I+i)with
       |true=>match qL o.op with
        |true=>hx.ret { s with S:=S,eC:=s.eC++[eT s.eC o.after.toList] }
        |false=>(I9 P I i o s.S v s.c9 (eT s.eC o.after.toList) s.qh).then fun _=>
          .ret { s with S:=S,eC:=s.eC++[eT s.eC o.after.toList],reads:=(i,eT s.eC o.after.toList,o,s.S,v)::s.reads }
       |false=>match h.get (I+i)with
        |some b=>match b.wr with
         |true=>hx.ret { s with S:=S,eC:=s.eC++[eT s.eC o.after.toList],c9:=(i,b)::s.c9 }
         |false=>none
        |none=>none
      |none=>none) (O3 (match jj s.S o.dst v with
       |some S=>
        if Nat.beq k (I+i)=true then
         if qL o.op=true then(some (.inl { s with S:=S,eC:=s.eC++[eT s.eC o.after.toList] }):Option (Dr ⊕ (H V×V×H rs×Nat)))
         else if qM P I i o s.S v s.c9 (eT s.eC o.after.toList) s.qh=true then
          some (.inl { s with S:=S,eC:=s.eC++[eT s.eC o.after.toList],reads:=(i,eT s.eC o.after.toList,o,s.S,v)::s.reads })
         else nD o
        else match h.get (I+i)with
         |some b=>if b.wr=true then some (.inl { s with S:=S,eC:=s.eC++[eT s.eC o.after.toList],c9:=(i,b)::s.c9 })else nD o
         |none=>nD o
       |none=>nD o)):=by
     intro v h k;cases jj s.S o.dst v with
     |none=>exact .none _
     |some S=>
      simp only;cases Nat.beq k (I+i)with
      |true=>
       simp only[if_true];cases qL o.op with
       |true=>exact(fE.ret _).of_eq rfl
       |false=>
        refine(fE.then (BA P I i o s.S v s.c9 _ s.qh) (g:=fun _=>some _) (fun _=>.ret _)).of_eq ?_;simp only[aP,cJ];cases qM P I i o s.S v s.c9 (eT s.eC o.after.toList) s.qh<;>rfl
      |false=>
       simp only[aP,cJ];cases h.get (I+i)with
       |none=>exact .none _
       |some b=>
        simp only;cases b.wr with
        |true=>exact(fE.ret _).of_eq rfl
        |false=>exact .none _
    refine(fE.then (uh P o s.S _ (I+i)) (g:=fun r=>match r with
     | .val v h k=>O3 (match jj s.S o.dst v with
        |some S=>
         if Nat.beq k (I+i)=true then
          if qL o.op=true then(some (.inl { s with S:=S,eC:=s.eC++[eT s.eC o.after.toList] }):Option (Dr ⊕ (H V×V×H rs×Nat)))
          else if qM P I i o s.S v s.c9 (eT s.eC o.after.toList) s.qh=true then
           some (.inl { s with S:=S,eC:=s.eC++[eT s.eC o.after.toList],reads:=(i,eT s.eC o.after.toList,o,s.S,v)::s.reads })
          else nD o
         else match h.get (I+i)with
          |some b=>if b.wr=true then some (.inl { s with S:=S,eC:=s.eC++[eT s.eC o.after.toList],c9:=(i,b)::s.c9 })else nD o
          |none=>nD o
        |none=>nD o)
     |_=>none) (fun r=>?_)).of_eq ?_
    . cases r with
      |val v h k=>exact(fE.then (rj Tr o.dst v) (g:=fun v=>O3 (match jj s.S o.dst v with
        |some S=>
         if Nat.beq k (I+i)=true then
          if qL o.op=true then(some (.inl { s with S:=S,eC:=s.eC++[eT s.eC o.after.toList] }):Option (Dr ⊕ (H V×V×H rs×Nat)))
          else if qM P I i o s.S v s.c9 (eT s.eC o.after.toList) s.qh=true then
           some (.inl { s with S:=S,eC:=s.eC++[eT s.eC o.after.toList],reads:=(i,eT s.eC o.after.toList,o,s.S,v)::s.reads })
          else nD o
         else match h.get (I+i)with
          |some b=>if b.wr=true then some (.inl { s with S:=S,eC:=s.eC++[eT s.eC o.after.toList],c9:=(i,b)::s.c9 })else nD o
          |none=>nD o
        |none=>nD o)) (fun v=>body v h k)).of_eq rfl
      |_=>exact .none _
    . cases dH P o s.S (gV I s.c9 s.cur.1 s.cur.2 (eT s.eC o.after.toList)) (I+i)with
      |none=>rfl
      |some r=>cases r<;>rfl
def Hf(ops:Array Oper)(I:Nat):List Oper->Nat->Dr->hx Dr
 | [],_,s=>.ret s
 |o::r,i,s=>(RD P Q Tr ops I i o s).then fun s'=>Hf ops I r (i+1) s'
theorem zD(pT:pV Q cf)(ops:Array Oper)(I:Nat):∀(l:List Oper) (i:Nat) (s:Dr),fE (Hf P Q Tr ops I l i s) (O3 (rS P cf ops I l i s))
 | [],i,s=>(fE.ret s).of_eq rfl
 |o::r,i,s=>by
  simp only[Hf,rS];refine(fE.then (Ja P Q cf Tr pT ops I i o s) (fun s'=>zD pT ops I r (i+1) s')).of_eq ?_;cases vk P cf ops I i o s with
  |none=>rfl
  |some q=>cases q<;>rfl
def kB(fl:Nat):Code->St->hx (h1×St)
 | .region _ ops false,s=>O7 P Q Tr ops ops.toList s
 | .region _ ops true,s=>match decide (s.n+ops.size<fW)with
   |true=>(Hf P Q Tr ops s.n ops.toList 0 { S:=s.S,eC:=[],cur:=(0,s.h),qh:=[],last:=none,c9:=[],reads:=[],n:=s.n+ops.size }).then fun d=>
     .ret (.normal,{ S:=d.S,h:=gV s.n d.c9 d.cur.1 d.cur.2 (2^ops.size-1),n:=d.n,gD:=s.gD })
   |false=>none
 | .seq a b,s=>(kB fl a s).then fun p=>match p.1 with
   | .normal=>kB fl b p.2
   |_=>.ret p
 | .cond c a b,s=>match iX s.S c with
   |some (.bool true)=>kB fl a s
   |some (.bool false)=>kB fl b s
   |_=>none
 | .block id body,s=>(kB fl body s).then fun p=>match p.1 with
   | .exit id'=>if id'=id then .ret (.normal,p.2)else .ret p
   |_=>.ret p
 | .loop body,s=>Cj (kB fl body) fl s
 | .skip,s=>.ret (.normal,s)
 | .exit id,s=>.ret (.exit id,s)
 | .ret,s=>.ret (.ret,s)
 | .rangeFunc g ps assign body,s=>match iX s.S g with
   |some (.fn (.func gf) [] lb)=>match callee P gf&&decide (s.n+1<fW)with
    |true=>(Q gf (.fn (.yield (s.n+1)) [] []::lb) ((s.h.set s.n (some .nf)).set (s.n+1) (some (.loop true none s.S ps.toList assign body))) (s.n+2)).then fun q=>match q.2.1.get s.n,q.2.1.get (s.n+1)with
     |some .nf,some (.loop true none _ _ _ _)=>.ret (.normal,{ s with h:=q.2.1.set (s.n+1) none,n:=q.2.2,gD:=(fW,[],[.map (some s.n)])::s.gD })
     |some .nf,some (.loop false (some .ret) _ _ _ _)=>.ret (.ret,{ s with h:=q.2.1.set (s.n+1) none,n:=q.2.2,gD:=(fW,[],[.map (some s.n)])::s.gD })
     |some .nf,some (.loop false (some (.exit id)) _ _ _ _)=>.ret (.exit id,{ s with h:=q.2.1.set (s.n+1) none,n:=q.2.2,gD:=(fW,[],[.map (some s.n)])::s.gD })
     |_,_=>none
    |false=>none
   |_=>none
 |_,_=>none
theorem pE(pT:pV Q cf)(fl:Nat):∀(c:Code) (s:St),fE (kB P Q Tr fl c s) (jq P cf fl c s):=by
 intro c
 induction c with
 |region id ops Ky=>
  intro s;cases Ky with
  |false=>exact uj P Q cf Tr pT ops ops.toList s
  |true=>
   simp only[kB,jq,drawn];by_cases fH:s.n+ops.size<fW
   . simp only[bE fH,aF fH];refine rq (fE.then (zD P Q cf Tr pT ops s.n ops.toList 0 _) (g:=fun d=>some (.normal,{ S:=d.S,h:=gV s.n d.c9 d.cur.1 d.cur.2 (2^ops.size-1),n:=d.n,gD:=s.gD })) (fun d=>.ret _)) ?_;intro d hd;cases hq:rS P cf ops s.n ops.toList 0 { S:=s.S,eC:=[],cur:=(0,s.h),qh:=[],last:=none,c9:=[],reads:=[],n:=s.n+ops.size }with
     |none=>rw[hq]at hd;cases hd
     |some q=>
      rw[hq]at hd;cases q with
      |inl d'=>simp only[O3,Option.bind_some]at hd;simp only;exact hd
      |inr _=>cases hd
   . simp only[bz fH];exact .none _
 |seq a b iha ihb=>
  intro s;simp only[kB,jq];refine(fE.then (iha s) (g:=fun p=>match p.1 with | .normal=>jq P cf fl b p.2|_=>some p) (fun p=>?_)).of_eq ?_
  . obtain⟨x,s'⟩:=p;cases x with
    |normal=>exact ihb s'
    |_=>exact .ret _
  . cases jq P cf fl a s with
    |none=>rfl
    |some p=>obtain⟨x,s'⟩:=p;cases x<;>rfl
 |cond c a b iha ihb=>
  intro s;simp only[kB,jq];cases iX s.S c with
  |none=>exact .none _
  |some v=>
   cases v with
   |bool t=>
    cases t with
    |true=>exact iha s
    |false=>exact ihb s
   |_=>exact .none _
 |block id c ih=>
  intro s;simp only[kB,jq];refine(fE.then (ih s) (g:=fun p=>match p.1 with | .exit id'=>if id'=id then some (.normal,p.2)else some p|_=>some p) (fun p=>?_)).of_eq ?_
  . obtain⟨x,s'⟩:=p;cases x with
    |exit j=>
     simp only;by_cases hj:j=id
     . simp only[aF hj];exact .ret _
     . simp only[aJ hj];exact .ret _
    |_=>exact .ret _
  . cases jq P cf fl c s with
    |none=>rfl
    |some p=>obtain⟨x,s'⟩:=p;cases x<;>rfl
 |loop c ih=>
  intro s;simp only[kB,jq];exact xB ih fl s
 |skip=>intro s;exact .ret _
 |exit id=>intro s;exact .ret _
 |ret=>intro s;exact .ret _
 |rangeFunc g ps assign body _ _=>
  intro s;simp only[kB,jq];split
  . rename_i gf lb hg;rw[hg];simp only;split
    . rename_i hq;simp only[aE,bD]at hq;rw[aF hq];refine rq (fE.then (pT gf _ _ (s.n+2)) (g:=fun q=>match q.2.1.get s.n,q.2.1.get (s.n+1)with
       |some .nf,some (.loop true none _ _ _ _)=>some (.normal,{ s with h:=q.2.1.set (s.n+1) none,n:=q.2.2,gD:=(fW,[],[.map (some s.n)])::s.gD })
       |some .nf,some (.loop false (some .ret) _ _ _ _)=>some (.ret,{ s with h:=q.2.1.set (s.n+1) none,n:=q.2.2,gD:=(fW,[],[.map (some s.n)])::s.gD })
       |some .nf,some (.loop false (some (.exit id)) _ _ _ _)=>some (.exit id,{ s with h:=q.2.1.set (s.n+1) none,n:=q.2.2,gD:=(fW,[],[.map (some s.n)])::s.gD })
       |_,_=>none) (fun q=>?_)) ?_
      . split<;>first|exact .ret _|exact .none _
      . intro a ha;cases J:cf gf (.fn (.yield (s.n+1)) [] []::lb) ((s.h.set s.n (some .nf)).set (s.n+1) (some (.loop true none s.S ps.toList assign body))) (s.n+2)with
        |none=>rw[J]at ha;cases ha
        |some q=>
         rw[J]at ha;obtain⟨uH,h,n⟩:=q;cases uH with
         |An v=>cases ha
         |ret v=>
          simp only[qt,Option.bind_some]at ha;simp only;split at ha<;>first|(rename_i X h2;simp only[X,h2];exact ha)|cases ha
    . exact .none _
  . exact .none _
 |_=>intro s;exact .none _
end
def vO(P:Program)(fn:Func)(S:H V):List (FuncId×ag×ag)->H rs->Nat->Option (V×H rs×Nat)
 | [],h,n=>match lY P S h fn.results.toList with
   |some vs=>some (oneOf vs,h,n)
   |none=>none
 |(g,_,args)::ds,h,n=>match Nat.ble fW g with
  |true=>match args with
   | [.map (some b)]=>match h.get b with
     |some .nf=>match Nat.blt b fW with
      |true=>vO P fn S ds (h.set b none) n
      |false=>none
     |_=>none
   |_=>none
  |false=>none
theorem wS{P:Program}{cf:ga}{fl:Nat}{fn:Func}{S:H V}:∀{ds:List (FuncId×ag×ag)} {h:H rs} {n:Nat} {r:V×H rs×Nat},vO P fn S ds h n=some r->oo P cf fl fn S ds .ret h n=some (.ret r.1,r.2.1,r.2.2)
 | [],h,n,r,e=>by
   unfold vO at e;unfold oo;split at e
   . rename_i vs hv;obtain rfl:=eE e;rw[hv]
   . cases e
 |(g,c,args)::ds,h,n,r,e=>by
  unfold vO at e;unfold oo;split at e
  case h_2=>cases e
  rename_i hg;rw[aF (ax hg)];split at e
  case h_2=>cases e
  rename_i b;simp only;split at e
  case h_2=>cases e
  rename_i hb;rw[hb];simp only;split at e
  case h_2=>cases e
  rename_i fH;rw[aF (show b<fW from ax fH)];exact wS e
abbrev jY:=FuncId->ag->H rs->Nat->Option (ah×V×H rs×Nat)
def gm(P:Program)(fr:jY):Prop:=∀f args h n cU v h' n',fr f args h n=some (cU,v,h',n')->f<P.funcs.size/\((∀a∈cU,a)->
 ∀E w dm,dK E args dm->Good E h w->rL E n->callee P f=true->Calls P f dm.toArray w (kz E h n w (.ret v) h' n'))
def noW:jY:=fun _ _ _ _=>none
theorem RE(P:Program):gm P noW:=fun _ _ _ _ _ _ _ _ e=>by cases e
def kC(f:FuncId)(spec:ag->H rs->Nat->Option (ah×V×H rs×Nat))(fr:jY):jY:=fun g args h n=>match Nat.beq g f with
 |true=>match spec args h n with
  |some r=>some r
  |none=>fr g args h n
 |false=>fr g args h n
def jK(P:Program)(f:FuncId)(spec:ag->H rs->Nat->Option (ah×V×H rs×Nat)):Prop:=f<P.funcs.size/\∀args h n cU v h' n',spec args h n=some (cU,v,h',n')->(∀a∈cU,a)->
 ∀E w dm,dK E args dm->Good E h w->rL E n->callee P f=true->Calls P f dm.toArray w (kz E h n w (.ret v) h' n')
theorem fh{P:Program}{f:FuncId}{spec:ag->H rs->Nat->Option (ah×V×H rs×Nat)}{fr:jY}(hp:jK P f spec)(hS:gm P fr):gm P (kC f spec fr):=by
 intro g args h n cU v h' n' e;unfold kC at e;split at e
 . rename_i hg;have hg:=aG hg;subst hg;split at e
   . rename_i r hr;cases e;exact⟨hp.1,hp.2 args h n cU v h' n' hr⟩
   . exact hS g args h n cU v h' n' e
 . exact hS g args h n cU v h' n' e
def afn(P:Program)(fn:Func)(p:h1×St):hx (V×H rs×Nat):=match p.1 with
 | .normal=>match vO P fn p.2.S p.2.gD p.2.h p.2.n with
   |some r=>.ret r
   |none=>none
 | .ret=>match vO P fn p.2.S p.2.gD p.2.h p.2.n with
   |some r=>.ret r
   |none=>none
 |_=>none
def La(P:Program)(Q:e9)(Tr:List (Nat×pC))(fl:Nat)(f:FuncId)(args:ag)(h:H rs)(n:Nat):hx (V×H rs×Nat):=
 match P.funcs[f]? with
 |some fn=>match fn.body with
  |some code=>match Nat.ble args.length fn.ntmps&&Nat.blt fn.ntmps fW with
   |true=>(kB P Q Tr fl code (cZ args h n)).then (afn P fn)
   |false=>none
  |none=>none
 |none=>none
theorem Hg{P:Program}{Q:e9}{cf:ga}(pT:pV Q cf)(Tr:List (Nat×pC))(fl:Nat)(f:FuncId)(args:ag)(h:H rs)(n:Nat):fE (La P Q Tr fl f args h n) (qt (enter P cf fl f args h n)):=by
 unfold La enter;split
 . rename_i fn hf;rw[hf];simp only;split
   . rename_i code hb;rw[hb];simp only;split
     . rename_i hq;simp only[aE]at hq;have hq':args.length<=fn.ntmps/\fn.ntmps<fW:=⟨ax hq.1,ax hq.2⟩;rw[aF hq'];refine rq (fE.then (pE P Q cf Tr pT fl code (cZ args h n)) (g:=fun p=>match p.1 with
        | .normal=>qt (oo P cf fl fn p.2.S p.2.gD .ret p.2.h p.2.n)
        | .ret=>qt (oo P cf fl fn p.2.S p.2.gD .ret p.2.h p.2.n)
        |_=>none) (fun p=>?_)) ?_
       . obtain⟨x,s⟩:=p;unfold afn;cases x with
         |normal=>
          simp only;split
          . rename_i r hr;refine(fE.ret r).of_eq ?_;rw[wS hr];rfl
          . exact .none _
         |ret=>
          simp only;split
          . rename_i r hr;refine(fE.ret r).of_eq ?_;rw[wS hr];rfl
          . exact .none _
         |_=>exact .none _
       . intro a ha;change ((jq P cf fl code { S:=mj args 0 .nil,h:=h,n:=n,gD:=[] }).bind _)=some a at ha;cases M:jq P cf fl code { S:=mj args 0 .nil,h:=h,n:=n,gD:=[] }with
         |none=>rw[M]at ha;cases ha
         |some p=>
          rw[M]at ha;obtain⟨x,s⟩:=p;cases x<;>first|exact ha|cases ha
     . exact .none _
   . exact .none _
 . exact .none _
def Lb(P:Program)(Q:e9)(Tr:List (Nat×pC))(fl m:Nat)(args:ag)(h:H rs)(n:Nat):hx (V×H rs×Nat):=
 match h.get m with
 |some (.loop true none S ps assign body)=>match(Nat.blt m fW&&Nat.beq ps.length args.length)&&(ki assign&&ki body)with
  |true=>match xP (Kx ps args) S with
   |some Ap=>(kB P Q Tr fl assign { S:=Ap,h:=h.set m none,n:=n,gD:=[] }).then fun p=>match p.1 with
    | .normal=>(kB P Q Tr fl body p.2).then fun q=>match q.1 with
      | .normal=>.ret (.bool true,q.2.h.set m (some (.loop true none S ps assign body)),q.2.n)
      | .ret=>.ret (.bool false,q.2.h.set m (some (.loop false (some .ret) S ps assign body)),q.2.n)
      | .exit id=>.ret (.bool false,q.2.h.set m (some (.loop false (some (.exit id)) S ps assign body)),q.2.n)
      |_=>none
    |_=>none
   |none=>none
  |false=>none
 |_=>none
theorem Hh{P:Program}{Q:e9}{cf:ga}(pT:pV Q cf)(Tr:List (Nat×pC))(fl m:Nat)(args:ag)(h:H rs)(n:Nat):fE (Lb P Q Tr fl m args h n) (qt (xQ P cf fl m args h n)):=by
 unfold Lb xQ;split
 . rename_i S ps assign body hg;rw[hg];simp only;split
   . rename_i hq;simp only[aE]at hq;have hq':m<fW/\ps.length=args.length/\ki assign=true/\ki body=true:=⟨ax hq.1.1,aG hq.1.2,hq.2.1,hq.2.2⟩;rw[aF hq'];split
     . rename_i Ap sw;rw[sw];simp only;refine rq (fE.then (pE P Q cf Tr pT fl assign _) (g:=fun p=>match p.1 with
        | .normal=>(jq P cf fl body p.2).bind fun q=>match q.1 with
          | .normal=>some (.bool true,q.2.h.set m (some (.loop true none S ps assign body)),q.2.n)
          | .ret=>some (.bool false,q.2.h.set m (some (.loop false (some .ret) S ps assign body)),q.2.n)
          | .exit id=>some (.bool false,q.2.h.set m (some (.loop false (some (.exit id)) S ps assign body)),q.2.n)
          |_=>none
        |_=>none) (fun p=>?_)) ?_
       . obtain⟨x,s⟩:=p;cases x with
         |normal=>
          refine fE.then (pE P Q cf Tr pT fl body s) (fun q=>?_);obtain⟨y,s2⟩:=q;cases y<;>first|exact .ret _|exact .none _
         |_=>exact .none _
       . intro a ha;cases M:jq P cf fl assign { S:=Ap,h:=h.set m none,n:=n,gD:=[] }with
         |none=>rw[M]at ha;cases ha
         |some p=>
          rw[M]at ha;obtain⟨x,s⟩:=p;simp only[Option.bind_some]at ha;cases x with
          |normal=>
           simp only at ha ⊢;cases hy:jq P cf fl body s with
           |none=>rw[hy]at ha;cases ha
           |some q=>
            rw[hy]at ha;obtain⟨y,s2⟩:=q;cases y<;>first|exact ha|cases ha
          |_=>cases ha
     . exact .none _
   . exact .none _
 . exact .none _
def gL(P:Program)(fr:jY)(HH:FuncId->List (Nat×pC))(fl:Nat):Nat->e9
 |0=>fun _ _ _ _=>none
 |k+1=>fun f args h n=>match fr f args h n with
  |some (cU,r)=>some [(⟨[],[],cU⟩,r)]
  |none=>match Nat.blt f P.funcs.size with
   |true=>La P (gL P fr HH fl k) (HH f) fl f args h n
   |false=>Lb P (gL P fr HH fl k) (HH f) fl (f-P.funcs.size) args h n
open Classical in
noncomputable def Dt(P:Program)(fr:jY)(fl:Nat):Nat->ga
 |0=>fun _ _ _ _=>none
 |k+1=>fun f args h n=>match fr f args h n with
  |some (cU,r)=>if ∀a∈cU,a then some (.ret r.1,r.2.1,r.2.2)else none
  |none=>if f<P.funcs.size then enter P (Dt P fr fl k) fl f args h n else xQ P (Dt P fr fl k) fl (f-P.funcs.size) args h n
theorem vP(P:Program)(fr:jY)(HH:FuncId->List (Nat×pC))(fl:Nat):∀k,pV (gL P fr HH fl k) (Dt P fr fl k)
 |0=>fun _ _ _ _=>.none _
 |k+1=>by
  intro f args h n;simp only[gL,Dt];cases hS:fr f args h n with
  |some q=>
   obtain⟨cU,v,h',n'⟩:=q;intro l e;obtain rfl:=eE e;refine⟨⟨_,au.2 rfl,fun c J=>by simp at J⟩,fun e he _ hg=>?_⟩;simp only[au]at he;subst he;simp only;rw[aF hg.2];rfl
  |none=>
   simp only;by_cases hf:f<P.funcs.size
   . have hb:Nat.blt f P.funcs.size=true:=Nat.ble_eq_true_of_le hf;rw[hb,aF hf];exact Hg (vP P fr HH fl k) (HH f) fl f args h n
   . have hb:Nat.blt f P.funcs.size=false:=by
      cases hq:Nat.blt f P.funcs.size with
      |false=>rfl
      |true=>exact absurd (ax hq) hf
     rw[hb,aJ hf];exact Hh (vP P fr HH fl k) (HH f) fl _ args h n
theorem Jb{P:Program}{fr:jY}{fl:Nat}(W:P.follows .mixedOrders=true)(yd:l6 P=true)(hS:gm P fr):∀k,jt P (Dt P fr fl k)
 |0=>fun _ _ _ _ _ _ _ e=>by cases e
 |k+1=>by
  intro f args h n uH h' n' e E w dm ra g hd;simp only[Dt]at e;split at e
  . rename_i cU r hs;obtain⟨v,X,n1⟩:=r;split at e
    . rename_i hA;simp only[an,aB]at e;obtain⟨rfl,rfl,rfl⟩:=e;obtain⟨fH,C9⟩:=hS f args h n cU v X n1 hs;exact⟨fun vz=>C9 hA E w dm ra g hd vz,fun m l s hfm _=>absurd fH (by rw[hfm];exact Nat.not_lt.2 (Nat.le_add_right _ _))⟩
    . cases e
  . exact VI (fl:=fl) (Jb W yd hS k) W yd f args h n uH h' n' e E w dm ra g hd
structure CX(P:Program) where
 Q:e9
 cf:ga
 snd:pV Q cf
 ok:jt P cf
noncomputable def CX.of{P:Program}(W:P.follows .mixedOrders=true)(yd:l6 P=true){fr:jY}(hS:gm P fr)(HH:FuncId->List (Nat×pC))(fl k:Nat):CX P:=
 ⟨gL P fr HH fl k,Dt P fr fl k,vP P fr HH fl k,Jb W yd hS k⟩
def TG(P:Program)(I rt:Nat)(c:Code)(s:St)(cs:Exit->St->Prop):Prop:=
 ∀(E:Env) (a:Act) (w:World) (hL:Exit->Act->World->Prop),kI E rt s a w->I<=s.n->
  (∀y s' E' a' w',cs y s'->l7 I E s.h w E' s'.h w'->I<=s'.n->kI E' rt s' a' w'->hL y a' w')->c.wp P hL a w
section
variable{P:Program}{cf:ga}{fl I rt:Nat}{c:Code}{s s':St}{cs Q1:Exit->St->Prop}
theorem fB(h:TG P I rt c s Q1)(hq:∀y s',Q1 y s'->cs y s'):TG P I rt c s cs:=fun E a w hL r hn k=>h E a w hL r hn fun y s' E' a' w' q=>k y s' E' a' w' (hq y s' q)
theorem Nf(pg:jt P cf)(W:P.follows .mixedOrders=true){x:h1}{y:Exit}(J:fb rt c=true)(e:jq P cf fl c s=some (x,s'))(M:x.plain=some y)(hq:cs y s'):TG P I rt c s cs:=by
 intro E a w hL r hn k;refine wpIn_wide (n:=0) |>.1 ?_;refine mZ (vA:=none) pg W c s x s' (.inl rfl) J e E a w hL r fun E' a' w' x' u fT qb r' tF=>?_;have:x'=y:=by
  cases x<;>cases x'<;>simp only[OT,h1.plain,an,reduceCtorEq]at tF M<;>first|exact M|(subst tF;exact M)
 subst this;exact k _ s' E' a' w' hq (.of u fT hn) (bR hn qb) r'
theorem dh{live:List Nat}{s2:St}(e:fe I live s=some s2)(h:TG P I rt c s2 cs):TG P I rt c s cs:=by
 intro E a w hL r hn k;obtain⟨_,xV,E2,r2,u2⟩:=rY e r;exact h E2 a w hL r2 xV fun y s' E' a' w' q u qb r'=>k y s' E' a' w' q (u2.trans u) qb r'
theorem RF{c1 c2:Code}(h:TG P I rt c1 s (andThen (fun s'=>TG P I rt c2 s' cs) cs)):TG P I rt (.seq c1 c2) s cs:=by
 intro E a w hL r hn k;refine wp_seq (h E a w _ r hn fun y s' E' a' w' q u qb r'=>?_);cases y<;>first|exact q E' a' w' hL r' qb (fun y2 s2 E2 a2 w2 q2 u2 xV r2=>k y2 s2 E2 a2 w2 q2 (u.trans u2) xV r2)|exact k _ s' E' a' w' q u qb r'
theorem c6(hs:M9 c=true)(h:TG P I rt (dS c) s (andThen (fun s'=>TG P I rt (dU c) s' cs) cs)):TG P I rt c s cs:=by
 cases c<;>simp only[M9,aP]at hs;exact RF h
theorem Hi{t:Bool}(J:Rv c (fun _=>true)=true)(ho:iX s.S (Y0 c)=some (.bool t))(X:t=true->TG P I rt (Na c) s cs)(h2:t=false->TG P I rt (Y1 c) s cs):TG P I rt c s cs:=by
 cases c<;>simp only[Rv,aP]at J;intro E a w hL r hn k;cases t
 . exact wp_cond_false (pA r.good.jy r.S ho) (h2 rfl E a w hL r hn k)
 . exact wp_cond_true (pA r.good.jy r.S ho) (X rfl E a w hL r hn k)
theorem fk{i:Nat}(J:Ch c i=true)(h:TG P I rt (dD c) s (mK i cs)):TG P I rt c s cs:=by
 cases c<;>simp only[Ch,aP]at J;rename_i j b;have:=aG J;subst this;intro E a w hL r hn k;refine wp_block (h E a w _ r hn fun y s' E' a' w' q u qb r'=>?_);cases y<;>first|exact k _ s' E' a' w' q u qb r'|skip
 simp only[Exit.inBlock,mK]at q ⊢;split
 . rename_i he;rw[aF he]at q;exact k _ s' E' a' w' q u qb r'
 . rename_i he;rw[aJ he]at q;exact k _ s' E' a' w' q u qb r'
def TGR(P:Program)(I rt:Nat)(c:Code)(cs:Exit->St->Prop):Nat->St->Prop
 |0,_=>False
 |n+1,s=>TG P I rt c s (andThen (fun s'=>TGR P I rt c cs n s') cs)
theorem VO(n:Nat)(J:Dm c=true)(h:TGR P I rt (dD c) cs n s):TG P I rt c s cs:=by
 cases c<;>simp only[Dm,aP]at J;rename_i b;intro E0 a w hL r hn k;refine wp_loop_rounds n ?_;have key:∀(n:Nat) (s1:St) (E:Env) (a:Act) (w1:World),TGR P I rt b cs n s1->kI E rt s1 a w1->I<=s1.n->l7 I E0 s.h w E s1.h w1->Code.rounds P b hL n a w1:=by
  intro n
  induction n with
  |zero=>intro s1 E a w1 h;exact h.elim
  |succ n ih=>
   intro s1 E a w1 h r hn u;rw[rounds_succ];refine h E a w1 _ r hn fun y s' E' a' w' q u' qb r'=>?_;cases y<;>first|exact ih s' E' a' w' q r' qb (u.trans u')|exact k _ s' E' a' w' q (u.trans u') qb r'
 exact key n s E0 a w h r hn (.refl r.good)
theorem gw(n0:Nat->St->Prop)(hl:Dm c=true)(h:∀k s,n0 k s->TG P I rt (dD c) s (andThen (fun s'=>∃k',k'<k/\n0 k' s') cs))(k:Nat)(h0:n0 k s):TG P I rt c s cs:=by
 refine VO (k+1) hl ?_;have key:∀(k:Nat) (n:Nat) (s:St),k<n->n0 k s->TGR P I rt (dD c) cs n s:=by
  intro k
  induction k using Nat.strongRecOn with
  |_ k ih=>
   intro n s hn hi;cases n with
   |zero=>omega
   |succ n=>
    simp only[TGR];refine fB (h k s hi) fun y s' hq=>?_;cases y with
    |normal=>
     obtain⟨k',hk,kS⟩:=hq;exact ih k' hk n s' L kS
    |_=>exact hq
 exact key k (k+1) s L h0
end
section
variable{P:Program}{X':CX P}{Tr:List (Nat×pC)}{fl I rt:Nat}{c:Code}{s:St}{cs:Exit->St->Prop}
inductive od where
 |to (y:Exit) (s:St)
 |ret (v:V) (h:H rs) (n:Nat)
 |bad
def Lc(P:Program)(I:Nat)(fn:Func)(s:St):Option (V×H rs×Nat):=match vO P fn s.S s.gD s.h s.n with
 |some (v,h,n)=>match fe I [0] { S:=H.nil.set 0 (some v),h:=h,n:=n,gD:=[] }with
  |some s2=>match s2.S.get 0 with
   |some v2=>some (v2,s2.h,s2.n)
   |none=>none
  |none=>none
 |none=>none
def vQ(P:Program)(I:Nat)(fn:Func)(live:List Nat)(p:h1×St):od:=match p.1 with
 | .normal=>match fe I live p.2 with
   |some s=>.to .normal s
   |none=>.bad
 | .exit i=>match fe I live p.2 with
   |some s=>.to (.exit i) s
   |none=>.bad
 | .ret=>match Lc P I fn p.2 with
   |some (v,h,n)=>.ret v h n
   |none=>.bad
 | .panic _=>.bad
def fL(P:Program)(I:Nat)(fn:Func)(nx:V->H rs->Nat->Prop)(y:Exit)(s':St):Prop:=(y= .normal\/y= .ret)/\∃v h n,Lc P I fn s'=some (v,h,n)/\nx v h n
def od.post(P:Program)(I:Nat)(fn:Func)(live:List Nat)(nx:V->H rs->Nat->Prop)(cs:Exit->St->Prop):od->Prop
 | .to y s=>∀s',fe I live s'=some s->cs y s'
 | .ret v h n=>nx v h n/\∀s',fL P I fn nx .ret s'->cs .ret s'
 | .bad=>False
theorem Ld(W:P.follows .mixedOrders=true){l:List (qc×h1×St)}(J:fb rt c=true)(e:kB P X'.Q Tr fl c s=some l)(h:∀p∈l,p.1.ok->p.1.good/\∃y,p.2.1.plain=some y/\cs y p.2.2):TG P I rt c s cs:=by
 obtain⟨⟨p,hp,ho⟩,h2⟩:=pE P X'.Q X'.cf Tr X'.snd fl c s l e;obtain⟨hg,y,hy,hq⟩:=h p hp ho;exact Nf (fl:=fl) X'.ok W J (h2 p hp ho hg) hy hq
def ET(P:Program)(Q:e9)(Tr:List (Nat×pC))(fl I:Nat)(fn:Func)(live:List Nat)(c:Code)(s:St):List (List (Bool×Bool)×ah×od):=vM (vQ P I fn live) (zA (kB P Q Tr fl c s))
def xD(P:Program)(Q:e9)(Tr:List (Nat×pC))(fl:Nat)(c:Code)(s:St):Bool:=(kB P Q Tr fl c s).isSome
def xj(P:Program)(Q:e9)(Tr:List (Nat×pC))(fl:Nat)(c:Code)(s:St):ag:=ru (zA (kB P Q Tr fl c s))
def zE(P:Program)(Q:e9)(Tr:List (Nat×pC))(fl:Nat)(c:Code)(s:St):ag:=vN (zA (kB P Q Tr fl c s))
theorem RG(X':CX P)(W:P.follows .mixedOrders=true)(Tr:List (Nat×pC))(fl:Nat)(fn:Func)(live:List Nat)(nx:V->H rs->Nat->Prop)(fm:List (List (Bool×Bool)×ah×od))(J:fb rt c=true)
  (e1:xD P X'.Q Tr fl c s=true) (e2:xj P X'.Q Tr fl c s=zE P X'.Q Tr fl c s) (e3:ET P X'.Q Tr fl I fn live c s=fm)
  (h:∀g∈fm,(∀b∈g.1,b.1=b.2)->(∀a∈g.2.1,a)/\g.2.2.post P I fn live nx cs):TG P I rt c s cs:=by
 obtain⟨l,hl⟩:=cm.1 e1;unfold xj zE at e2;unfold ET at e3;rw[hl]at e2 e3;simp only[zA]at e2 e3;refine Ld (X':=X') W J hl fun p hp ho=>?_;have hg:=h (p.1.conds,p.1.VL,vQ P I fn live p.2) (e3▸sY hp) ho;refine⟨⟨zB l e2 p hp,hg.1⟩,?_⟩;obtain⟨pp,x,s'⟩:=p;have iT:=hg.2;simp only[vQ]at iT;cases x with
 |normal=>
  simp only at iT;split at iT
  . rename_i s2 gY;exact⟨.normal,rfl,iT s' gY⟩
  . exact iT.elim
 |exit i=>
  simp only at iT;split at iT
  . rename_i s2 gY;exact⟨.exit i,rfl,iT s' gY⟩
  . exact iT.elim
 |ret=>
  simp only at iT;split at iT
  . rename_i v h n hr;exact⟨.ret,rfl,iT.2 s' ⟨.inr rfl,v,h,n,hr,iT.1⟩⟩
  . exact iT.elim
 |panic _=>exact iT.elim
theorem O8(X':CX P)(W:P.follows .mixedOrders=true)(Tr:List (Nat×pC))(fl:Nat)(fn:Func)(live:List Nat)(nx:V->H rs->Nat->Prop)(fm:List (List (Bool×Bool)×ah×od))(hs:M9 c=true)(J:fb rt (dS c)=true)
  (e1:xD P X'.Q Tr fl (dS c) s=true) (e2:xj P X'.Q Tr fl (dS c) s=zE P X'.Q Tr fl (dS c) s) (e3:ET P X'.Q Tr fl I fn live (dS c) s=fm)
  (h:∀g∈fm,(∀b∈g.1,b.1=b.2)->(∀a∈g.2.1,a)/\g.2.2.post P I fn live nx (andThen (fun s'=>TG P I rt (dU c) s' cs) cs)):TG P I rt c s cs:=
 c6 hs (RG X' W Tr fl fn live nx fm J e1 e2 e3 h)
theorem RH{cf:ga}(pg:jt P cf)(W:P.follows .mixedOrders=true):∀(k:Nat) {c:Code} {s s1:St} {cs:Exit->St->Prop},fb rt c=true->jq P cf fl (eU k c) s=some (.normal,s1)->TG P I rt (dw k c) s1 cs->TG P I rt c s cs:=by
 intro k;have Jc:∀{c:Code} {s s1:St} {cs:Exit->St->Prop},jq P cf fl .skip s=some (.normal,s1)->TG P I rt c s1 cs->TG P I rt c s cs:=by
  intro c s s1 cs e h;simp only[jq,an,aB,true_and]at e;subst e;exact h
 induction k with
 |zero=>intro c s s1 cs _ e h;cases c<;>exact Jc e h
 |succ k ih=>
  intro c s s1 cs iC e h;cases c<;>first|exact Jc e h|skip
  rename_i a b;simp only[fb,aE]at iC;simp only[eU,jq]at e;split at e
  . rename_i s' X;exact RF (Nf (fl:=fl) pg W iC.1 X rfl (ih iC.2 e h))
  . rename_i hr
    first|exact(hr s1 rfl).elim|exact(hr s1 e).elim
theorem VP(k:Nat)(X':CX P)(W:P.follows .mixedOrders=true)(Tr:List (Nat×pC))(fl:Nat)(fn:Func)(live:List Nat)(fm:List (List (Bool×Bool)×ah×od))(J:fb rt c=true)
  (e1:xD P X'.Q Tr fl (eU k c) s=true) (e2:xj P X'.Q Tr fl (eU k c) s=zE P X'.Q Tr fl (eU k c) s) (e3:ET P X'.Q Tr fl I fn live (eU k c) s=fm)
  (h:∀g∈fm,(∀b∈g.1,b.1=b.2)->(∀a∈g.2.1,a)/\∃s1,g.2.2= .to .normal s1/\TG P I rt (dw k c) s1 cs):TG P I rt c s cs:=by
 obtain⟨l,hl⟩:=cm.1 e1;unfold xj zE at e2;unfold ET at e3;rw[hl]at e2 e3;simp only[zA]at e2 e3;obtain⟨⟨p,hp,ho⟩,h2⟩:=pE P X'.Q X'.cf Tr X'.snd fl (eU k c) s l hl;obtain⟨hA,s1,fQ,hT⟩:=h (p.1.conds,p.1.VL,vQ P I fn live p.2) (e3▸sY hp) ho;have fU:=h2 p hp ho ⟨zB l e2 p hp,hA⟩;obtain⟨pp,x,s'⟩:=p;simp only[vQ]at fQ;cases x with
 |normal=>
  simp only at fQ;split at fQ
  . rename_i s2 gY;cases fQ;exact RH (fl:=fl) X'.ok W k J fU (dh gY hT)
  . cases fQ
 |exit i=>
  simp only at fQ;split at fQ<;>cases fQ
 |ret=>
  simp only at fQ;split at fQ<;>cases fQ
 |panic _=>cases fQ
end
theorem O9{P:Program}{I:Nat}{fn:Func}{s:St}{v:V}{h:H rs}{n:Nat}(e:Lc P I fn s=some (v,h,n)):∃v1 X n1 s2,vO P fn s.S s.gD s.h s.n=some (v1,X,n1)/\fe I [0] { S:=H.nil.set 0 (some v1),h:=X,n:=n1,gD:=[] }=some s2/\s2.S.get 0=some v/\s2.h=h/\s2.n=n:=by
 unfold Lc at e;split at e
 . rename_i v1 X n1 e1;split at e
   . rename_i s2 e2;split at e
     . rename_i v2 e3;simp only[an,aB]at e;obtain⟨rfl,rfl,rfl⟩:=e;exact⟨v1,X,n1,s2,e1,e2,e3,rfl,rfl⟩
     . cases e
   . cases e
 . cases e
theorem pF{P:Program}(W:P.follows .mixedOrders=true)(yd:l6 P=true){f:FuncId}{fn:Func}{code:Code}(hf:P.funcs[f]? =some fn)(hb:fn.body=some code){args:ag}{h:H rs}{I:Nat}
  (l:(Nat.ble args.length fn.ntmps&&Nat.blt fn.ntmps fW)=true) (nx:V->H rs->Nat->Prop) (hT:TG P I fn.ntmps code (cZ args h I) (fL P I fn nx))
  {E:Env} {w:World} {dm:List Value} (ra:dK E args dm) (g:Good E h w) (hd:rL E I):
  Calls P f dm.toArray w fun e w'=>∃v h' n',nx v h' n'/\kz E h I w (.ret v) h' n' e w':=by
 simp only[aE]at l;obtain⟨yN,mA⟩:=tY (n:=fn.ntmps) ra (ax l.1) (ax l.2);refine callsIn_wide.1 (callsIn_of_wp_marks (n:=0) hf hb trivial (wpIn_wide.2 ?_));refine hT E _ w _ ⟨g,hd,yN,mA,rfl⟩ (aC _) fun y s' E' a' w' ⟨hy,v,h',n',hr,hR⟩ u qb r'=>?_;obtain⟨v1,X,n1,s2,k1,k2,k3,k4,k5⟩:=O9 hr;have key:LeavesInM Fence.wide 0 P fn a'.tmps (fun e w'=>∃v h' n',nx v h' n'/\kz E h I w (.ret v) h' n' e w') a'.defers .returning w':=by
  refine rW (cf:=fun _ _ _ _=>none) (fl:=0) (fun _ _ _ _ _ _ _ e=>by cases e) W yd s'.gD .ret s'.h s'.n _ X n1 (wS k1) E' w' a'.defers .returning _ r'.good r'.oI r'.S r'.gD trivial fun E2 w2 en u2 qX GX xV ho=>?_;have u3:=u.trans (l7.of u2 qX qb);cases en with
  |returned v'=>
   have ho:dJ E2 v1 v':=ho;have sr:kI E2 1 { S:=H.nil.set 0 (some v1),h:=X,n:=n1,gD:=[] } { tmps:=#[v'],defers:=[] } w2:=by
    refine⟨u3.good,GX,fun t v hv=>?_,rfl,rfl⟩;rw[H.eY _ _ _ dP]at hv;split at hv
    . rename_i q;subst q;cases hv;exact⟨v',rfl,ho⟩
    . simp[H.get]at hv
   obtain⟨_,K1,E3,r3,u4⟩:=rY k2 sr;have u5:=(u3.trans u4).qT hd;obtain⟨v'',q1,q2⟩:=r3.S 0 v k3;simp only[List.getElem?_toArray,bK,an]at q1;subst q1;refine⟨v,h',n',hR,E3,k4▸u5,(u3.trans u4).low,k5▸r3.oI,by rw[<- k5];exact K1,q2⟩
  |_=>exact ho.elim
 rcases hy with rfl|rfl<;>exact key
theorem zF{P:Program}(W:P.follows .mixedOrders=true)(yd:l6 P=true){f:FuncId}{fn:Func}{code:Code}(hf:P.funcs[f]? =some fn)(hb:fn.body=some code){args:ag}{h:H rs}{I:Nat}
  (l:(Nat.ble args.length fn.ntmps&&Nat.blt fn.ntmps fW)=true) (v:V) (h':H rs) (n':Nat) (hT:TG P I fn.ntmps code (cZ args h I) (fL P I fn fun a b c=>a=v/\b=h'/\c=n'))
  {E:Env} {w:World} {dm:List Value} (ra:dK E args dm) (g:Good E h w) (hd:rL E I):
  Calls P f dm.toArray w (kz E h I w (.ret v) h' n'):=
 (pF W yd hf hb l _ hT ra g hd).mono fun e w' ⟨_,_,_,⟨e1,e2,e3⟩,k⟩=>by subst e1 e2 e3;exact k
def BB:List (Nat×V)->H V:=go .nil
where go (t:H V):List (Nat×V)->H V
 | []=>t
 |(k,v)::r=>go (t.set k (some v)) r
def K:af->H rs:=go .nil
where go (t:H rs):af->H rs
 | []=>t
 |(k,v)::r=>go (t.set k (some v)) r
def eL(l:List (Nat×V))(h:H rs)(n:Nat):St:={ S:=BB l,h:=h,n:=n,gD:=[] }
def RJ(P:Program)(Q:e9)(Tr:List (Nat×pC))(fl I:Nat)(fn:Func)(live:List Nat)(c:Code)(s:St):Option (ag×ag×List (List (Bool×Bool)×ah×od)):=
 match kB P Q Tr fl c s with
 |some l=>some (ru l,vN l,vM (vQ P I fn live) l)
 |none=>none
abbrev cT(P:Program)(Q:e9)(Tr:List (Nat×pC))(fl I:Nat)(fn:Func)(live:List Nat)(c:Code)(s:St)(be:ag)(fm:List (List (Bool×Bool)×ah×od)):Prop:=RJ P Q Tr fl I fn live c s=some (be,be,fm)
theorem cT.parts{P:Program}{Q:e9}{Tr:List (Nat×pC)}{fl I:Nat}{fn:Func}{live:List Nat}{c:Code}{s:St}{be:ag}{fm:List (List (Bool×Bool)×ah×od)}(h:cT P Q Tr fl I fn live c s be fm):
  xD P Q Tr fl c s=true/\xj P Q Tr fl c s=zE P Q Tr fl c s/\ET P Q Tr fl I fn live c s=fm:=by
 have h:RJ P Q Tr fl I fn live c s=some (be,be,fm):=h;unfold RJ at h;unfold xD xj zE ET;split at h
 . rename_i l hl;simp only[an,aB]at h;rw[hl];exact⟨rfl,h.1.trans h.2.1.symm,h.2.2⟩
 . cases h
section
variable{P:Program}{I rt:Nat}{c:Code}{s:St}{cs:Exit->St->Prop}{Tr:List (Nat×pC)}{fl:Nat}{fn:Func}{live:List Nat}{be:ag}{fm:List (List (Bool×Bool)×ah×od)}
section
variable(k:Nat)(X':CX P)
theorem gP(W:P.follows .mixedOrders=true)(nx:V->H rs->Nat->Prop)(J:fb rt c=true)(hr:cT P X'.Q Tr fl I fn live c s be fm)
  (h:∀g∈fm,(∀b∈g.1,b.1=b.2)->(∀a∈g.2.1,a)/\g.2.2.post P I fn live nx cs):TG P I rt c s cs:=
 RG X' W Tr fl fn live nx fm J hr.parts.1 hr.parts.2.1 hr.parts.2.2 h
theorem zG(W:P.follows .mixedOrders=true)(nx:V->H rs->Nat->Prop)(hs:M9 c=true)(J:fb rt (dS c)=true)(hr:cT P X'.Q Tr fl I fn live (dS c) s be fm)
  (h:∀g∈fm,(∀b∈g.1,b.1=b.2)->(∀a∈g.2.1,a)/\g.2.2.post P I fn live nx (andThen (fun s'=>TG P I rt (dU c) s' cs) cs)):TG P I rt c s cs:=
 O8 X' W Tr fl fn live nx fm hs J hr.parts.1 hr.parts.2.1 hr.parts.2.2 h
theorem aaE(W:P.follows .mixedOrders=true)(J:fb rt c=true)(hr:cT P X'.Q Tr fl I fn live (eU k c) s be fm)
  (h:∀g∈fm,(∀b∈g.1,b.1=b.2)->(∀a∈g.2.1,a)/\∃s1,g.2.2= .to .normal s1/\TG P I rt (dw k c) s1 cs):TG P I rt c s cs:=
 VP k X' W Tr fl fn live fm J hr.parts.1 hr.parts.2.1 hr.parts.2.2 h
theorem nP(W:P.follows .mixedOrders=true){cU:ah}{s1:St}(J:fb rt c=true)(hr:cT P X'.Q Tr fl I fn live (eU k c) s be [([],cU,.to .normal s1)])
  (hA:∀a∈cU,a) (h:TG P I rt (dw k c) s1 cs):TG P I rt c s cs:=
 aaE k X' W J hr fun g hg _=>by
  rw[au]at hg;subst hg;exact⟨hA,s1,rfl,h⟩
theorem ij(W:P.follows .mixedOrders=true)(nx:V->H rs->Nat->Prop)(J:fb rt c=true)(hr:cT P X'.Q Tr fl I fn live c s be fm)
  (h:∀g∈fm,(∀b∈g.1,b.1=b.2)->(∀a∈g.2.1,a)/\∃v h n,g.2.2= .ret v h n/\nx v h n):TG P I rt c s (fL P I fn nx):=
 gP X' W nx J hr fun g hg J=>by
  obtain⟨X,v,h',n',e,hR⟩:=h g hg J;refine⟨X,?_⟩;rw[e];exact⟨hR,fun s' q=>q⟩
end
end
abbrev oL:V->H rs->Nat->Prop:=fun _ _ _=>True
section
variable{P:Program}{I rt:Nat}{c:Code}{s:St}{cs:Exit->St->Prop}{fl:Nat}{fn:Func}
def od.loop(P:Program)(I:Nat)(fn:Func)(live:List Nat)(nx:V->H rs->Nat->Prop)(n0:Nat->St->Prop)(k:Nat)(cs:Exit->St->Prop):od->Prop
 | .to .normal s=>∃k',k'<k/\n0 k' s
 | .to y s=>∀s',fe I live s'=some s->cs y s'
 | .ret v h n=>nx v h n/\∀s',fL P I fn nx .ret s'->cs .ret s'
 | .bad=>False
end
theorem Jd{E:Env}{h:H rs}{n:Nat}{w:World}{v:V}{h':H rs}{n':Nat}{e:Ending}{w':World}(xk:∀m,¬eG h m)(c:kz E h n w (.ret v) h' n' e w'):(∃E,tV E (.ret v) e)/\Below w.heap.size w w':=by
 obtain⟨E',u,_,_,_,ho⟩:=c;exact⟨⟨E',ho⟩,u.os,u.tape,u.output,u.size,fun k hk=>u.keep k hk fun m s W=>absurd W (xk m)⟩
theorem yh{P:Program}(W:P.follows .mixedOrders=true)(yd:l6 P=true){f:FuncId}{fn:Func}{code:Code}(hf:P.funcs[f]? =some fn)(hb:fn.body=some code){args:ag}{h:H rs}{I:Nat}
  (l:(Nat.ble args.length fn.ntmps&&Nat.blt fn.ntmps fW)=true) {v:V} (hT:TG P I fn.ntmps code (cZ args h I) (fL P I fn fun a _ _=>a=v))
  {E:Env} {w:World} {dm:List Value} (ra:dK E args dm) (g:Good E h w) (hd:rL E I) (xk:∀m,¬eG h m):
  Calls P f dm.toArray w fun e w'=>(∃E,tV E (.ret v) e)/\Below w.heap.size w w':=
 (pF W yd hf hb l _ hT ra g hd).mono fun e w' ⟨v',h',n',e1,k⟩=>by subst e1;exact Jd xk k
theorem RK:∀m,¬eG (.nil:H rs) m:=fun m k=>absurd rfl k.live
def jW(f:ag->Option (ah×V)):ag->H rs->Nat->Option (ah×V×H rs×Nat):=fun args h n=>match f args with
 |some (cU,v)=>some (cU,v,h,n)
 |none=>none
theorem kD{P:Program}{f:FuncId}{spec:ag->Option (ah×V)}(fH:f<P.funcs.size)(h:∀args cU v,spec args=some (cU,v)->V.xA args=true/\v.free=true/\((∀a∈cU,a)->
  ∀E w dm,WG w->dK E args dm->Calls P f dm.toArray w fun e w'=>(∃E,tV E (.ret v) e)/\Below w.heap.size w w')):jK P f (jW spec):=by
 refine⟨fH,fun args h' n cU v h2 n2 e hA E w dm ra g hd J=>?_⟩;unfold jW at e;split at e
 . rename_i A' v' hs;simp only[an,aB]at e;obtain⟨rfl,rfl,rfl,rfl⟩:=e;obtain⟨X,h2,h3⟩:=h args _ _ hs;exact(h3 hA E w dm g.wg ra).mono fun en w' ⟨ho,b⟩=>I7 g hd h2 ho b
 . cases e
theorem ik{P:Program}(W:P.follows .mixedOrders=true)(yd:l6 P=true){f:FuncId}{fn:Func}{code:Code}(hf:P.funcs[f]? =some fn)(hb:fn.body=some code){args:ag}
  (l:(Nat.ble args.length fn.ntmps&&Nat.blt fn.ntmps fW)=true) {v:V} (yN:V.xA args=true) (hT:TG P gN fn.ntmps code (cZ args .nil gN) (fL P gN fn fun a _ _=>a=v)):
  ∀E w dm,WG w->dK E args dm->Calls P f dm.toArray w fun e w'=>(∃E,tV E (.ret v) e)/\Below w.heap.size w w':=
 fun _ w _ hw ra=>yh W yd hf hb l hT (nl _ _ yN ra) (afg hw) (aln (aC _)) RK
def FJ:rs->rs
 | .own k ks=>.ints k ks
 | .cells Q=>match Q with
   | .int k x::r=>match pQ k (.int k x::r)with
     |some l=>.ints k l
     |none=>.cells (.int k x::r)
   |Q=>.cells Q
 |o=>o
def FK:H rs->H rs
 | .nil=>.nil
 | .node v l r=>.node (match v with|some o=>some (FJ o)|none=>none) (FK l) (FK r)
theorem s7:∀(t:H rs) (m:Nat),(FK t).get m=(t.get m).map FJ
 | .nil,m=>rfl
 | .node v l r,m=>by
   simp only[FK,H.get];split
   . cases v<;>rfl
   . rename_i k;split
     . exact s7 l _
     . exact s7 r _
theorem Pa{E:Env}{w:World}{b s:Nat}{o:rs}(r:mC E w b s o):mC E w b s (FJ o):=by
 have key:∀k ks,mC E w b s (.own k ks)->mC E w b s (.ints k ks):=fun k ks ⟨c,el,fz,X,h2,_,h4⟩=>⟨c,el,fz,X,h2,nh.1 h4⟩;unfold FJ;split
 . exact key _ _ r
 . split
   . rename_i k x rest;split
     . rename_i l hl;have e:=qy hl;refine key _ _ ?_;rw[e]at r;exact r
     . exact r
   . exact r
 . exact r
theorem Je{o:rs}(h:(FJ o).wr=true):o.wr=true:=by
 unfold FJ at h;split at h
 . rfl
 . rfl
 . exact h
theorem Pb{E:Env}{h:H rs}{w:World}(g:Good E h w):Good E (FK h) w:=by
 refine⟨?_,?_,g.ny,g.jy,fun b c q=>⟨g.fz b c q,fun m s W e=>?_⟩⟩
 case refine_3=>
  obtain⟨o,ho,hw⟩:=W;rw[s7]at ho;cases X:h.get m with
  |none=>rw[X]at ho;cases ho
  |some o1=>
   rw[X]at ho;simp only[bj,an]at ho;subst ho;exact(g.gX b c q).2 m s ⟨o1,X,Je hw⟩ e
 . intro m o W;rw[s7]at W;cases ho:h.get m with
   |none=>rw[ho]at W;cases W
   |some o'=>
    rw[ho]at W;simp only[bj,an]at W;subst W;obtain⟨b,s,X,h2⟩:=g.rel m o' ho;exact⟨b,s,X,Pa h2⟩
 . rintro m m' b s s' fS ⟨o,ho,hw⟩ tN e e';rw[s7]at ho tN;cases X:h.get m with
   |none=>rw[X]at ho;cases ho
   |some o1=>
    rw[X]at ho;simp only[bj,an]at ho;subst ho;refine g.inj m m' b s s' fS ⟨o1,X,Je hw⟩ (fun q=>tN (by rw[q];rfl)) e e'
def Ng(spec:ag->H rs->Option (ah×V)):ag->H rs->Nat->Option (ah×V×H rs×Nat):=fun args h n=>match spec args (FK h)with
 |some (cU,v)=>some (cU,v,h,n)
 |none=>none
theorem Jf{P:Program}{f:FuncId}{spec:ag->H rs->Option (ah×V)}(hp:RB P f spec):jK P f (Ng spec):=by
 refine⟨hp.1,fun args h n cU v h' n' e hA E w dm ra g hd J=>?_⟩;unfold Ng at e;split at e
 . rename_i A' v' hs;simp only[an,aB]at e;obtain⟨rfl,rfl,rfl,rfl⟩:=e;obtain⟨h2,h3⟩:=hp.2 args _ _ _ hs;exact(h3 hA E n w dm ra (Pb g) hd J).mono fun en w' ⟨ho,b⟩=>I7 g hd h2 ho b
 . cases e
theorem Du{P:Program}(W:P.follows .mixedOrders=true)(yd:l6 P=true){f:FuncId}{fn:Func}{code:Code}(hf:P.funcs[f]? =some fn)(hb:fn.body=some code){args:ag}{h:H rs}{I:Nat}
  (l:(Nat.ble args.length fn.ntmps&&Nat.blt fn.ntmps fW)=true) {v:V} (hT:TG P I fn.ntmps code (cZ args h I) (fL P I fn fun a _ _=>a=v))
  {E:Env} {w:World} {dm:List Value} (g:Good E h w) (hd:rL E I) (xk:∀m,¬eG h m) (ra:dK E args dm):
  Calls P f dm.toArray w fun e w'=>(∃E,tV E (.ret v) e)/\Below w.heap.size w w':=yh W yd hf hb l hT ra g hd xk
def RL(h:H rs):List (Nat×IntKind)->Option (H rs)
 | []=>some h
 |(m,k)::r=>match h.get m with
  |some (.cells Q)=>match pQ k Q with
   |some ks=>match Nat.blt m fW with
    |true=>RL (h.set m (some (.own k ks))) r
    |false=>none
   |none=>none
  |_=>none
theorem FL{E:Env}{w:World}:∀(l:List (Nat×IntKind)) (h h2:H rs),RL h l=some h2->Good E h w->Good E h2 w/\∀m,(h2.get m≠none↔h.get m≠none)/\(eG h2 m->eG h m)
 | [],h,h2,e,g=>by simp only[RL,an]at e;subst e;exact⟨g,fun m=>⟨Iff.rfl,id⟩⟩
 |(m,k)::r,h,h2,e,g=>by
  unfold RL at e;split at e
  case h_2=>cases e
  rename_i Q W;split at e
  case h_2=>cases e
  rename_i ks hk;split at e
  case h_2=>cases e
  rename_i ht;have ht:m<fW:=ax ht;have pT:=qy hk;have kY:∀j,(h.set m (some (.own k ks))).get j=if j=m then some (.own k ks)else h.get j:=fun j=>H.eY _ _ _ ht
  have GC:∀j,((h.set m (some (.own k ks))).get j≠none↔h.get j≠none)/\(eG (h.set m (some (.own k ks))) j->eG h j):=by
   intro j;rw[kY];by_cases q:j=m
   . subst q;rw[aF rfl,W];exact⟨by simp,fun _=>⟨_,W,rfl⟩⟩
   . rw[aJ q];exact⟨Iff.rfl,fun z=>o9 ht z q⟩
  have g1:Good E (h.set m (some (.own k ks))) w:=by
   refine⟨fun j o hj=>?_,fun j j' b s s' fS hj RM e1 e2=>g.inj j j' b s s' fS ((GC j).2 hj) ((GC j').1.1 RM) e1 e2,g.ny,g.jy,fun b c q=>⟨g.fz b c q,fun m' s tN=>(g.gX b c q).2 m' s ((GC m').2 tN)⟩⟩;rw[kY]at hj;split at hj
   . rename_i q;subst q;obtain rfl:=eE hj;obtain⟨b,s,X,h2⟩:=g.rel j _ W;rw[pT]at h2;exact⟨b,s,X,h2⟩
   . exact g.rel j o hj
  obtain⟨g2,k2⟩:=FL r _ h2 e g1;exact⟨g2,fun j=>⟨(k2 j).1.trans (GC j).1,fun z=>(GC j).2 ((k2 j).2 z)⟩⟩
def Le(l:List (Nat×IntKind))(s:St):Option St:=match RL s.h l with
 |some h=>some { s with h:=h }
 |none=>none
theorem uo{P:Program}{I rt:Nat}{c:Code}{s s2:St}{cs:Exit->St->Prop}(l:List (Nat×IntKind))(e:Le l s=some s2)(h:TG P I rt c s2 cs):TG P I rt c s cs:=by
 unfold Le at e;split at e
 case h_2=>cases e
 rename_i h2 hh;obtain rfl:=eE e;intro E a w hL r hn k;obtain⟨g2,k2⟩:=FL (E:=E) (w:=w) l s.h h2 hh r.good;have u:l7 I E s.h w E h2 w:=⟨fun _ _ _ _ e=>⟨e,rfl⟩,fun _ _=>rfl,fun _ _ q=>q,g2,aC _,rfl,rfl,rfl,fun _ _ _=>rfl,fun m b s1 W e1 _=>⟨m,s1,(k2 m).1.1 W,e1,(k2 m).2⟩,fun _ _ q=>.inl q⟩;exact h E a w hL ⟨g2,r.oI,r.S,r.size,r.gD⟩ hn fun y s' E' a' w' q u' qb r'=>k y s' E' a' w' q (u.trans u') qb r'
def Env.rows(E:Env)(ns:List (Option (Nat×Nat))):Env:=⟨fun j=>match ns.getD j none with
 |some (m,o)=>match E.ι m with
  |some (b,s)=>some (b,s+o)
  |none=>none
 |none=>none,E.β,E.φ⟩
def rHi:List (Option (IntKind×List Int))->Nat->H rs->H rs
 | [],_,t=>t
 |some (k,ks)::r,i,t=>rHi r (i+1) (t.set i (some (.ints k ks)))
 |none::r,i,t=>rHi r (i+1) t
def rH(O:List (Option (IntKind×List Int))):H rs:=rHi O 0 .nil
theorem Hj:∀(O:List (Option (IntKind×List Int))) (i:Nat) (t:H rs) (m:Nat) (o:rs),i+O.length<fW->(rHi O i t).get m=some o->t.get m=some o\/∃k ks,i<=m/\O[m-i]? =some (some (k,ks))/\o= .ints k ks
 | [],i,t,m,o,_,h=>.inl h
 |some (k,ks)::r,i,t,m,o,hl,h=>by
  simp only[aT]at hl;rcases Hj r (i+1) _ m o L h with q|⟨k',YJ,X,h2,h3⟩
  . rw[H.eY _ _ _ L]at q;split at q
    . rename_i z;subst z;obtain rfl:=eE q;exact .inr ⟨k,ks,aC _,by simp,rfl⟩
    . exact .inl q
  . refine .inr ⟨k',YJ,L,?_,h3⟩;rw[show m-i=(m-(i+1))+1 by omega,cD];exact h2
 |none::r,i,t,m,o,hl,h=>by
  simp only[aT]at hl;rcases Hj r (i+1) _ m o L h with q|⟨k',YJ,X,h2,h3⟩
  . exact .inl q
  . refine .inr ⟨k',YJ,L,?_,h3⟩;rw[show m-i=(m-(i+1))+1 by omega,cD];exact h2
theorem RN{O:List (Option (IntKind×List Int))}{m:Nat}{o:rs}(hl:O.length<fW)(h:(rH O).get m=some o):∃k ks,O[m]? =some (some (k,ks))/\o= .ints k ks:=by
 rcases Hj O 0 .nil m o L h with q|⟨k,ks,_,h2,h3⟩
 . simp[H.get]at q
 . exact⟨k,ks,by simpa using h2,h3⟩
theorem VQ{E:Env}{ns:List (Option (Nat×Nat))}(g:GE E)(hg:∀p∈kf,ns[p.2]? =some (some (p.2,0))):GE (E.rows ns):=by
 intro p hp;show(match ns.getD p.2 none with
  |some (m,o)=>match E.ι m with
   |some (b,s)=>some (b,s+o)
   |none=>none
  |none=>none)=_
 rw[aO,hg p hp];simp only[Option.getD_some,g p hp]
theorem Nh{E:Env}{h:H rs}{w:World}(g:Good E h w)(ns:List (Option (Nat×Nat)))(O:List (Option (IntKind×List Int)))(hl:O.length<fW)
  (hg:∀p∈kf,ns[p.2]? =some (some (p.2,0))) (hr:∀(j:Nat) (k:IntKind) (ks:List Int),O[j]? =some (some (k,ks))->∃m o RO,ns[j]? =some (some (m,o))/\h.get m=some (.ints k RO)/\RO.drop o=ks):
  Good (E.rows ns) (rH O) w/\rL (E.rows ns) ns.length/\∀m,¬eG (rH O) m:=by
 have uL:∀m,¬eG (rH O) m:=by
  rintro m ⟨o,X,h2⟩;obtain⟨k,ks,_,rfl⟩:=RN hl X;cases h2
 refine⟨⟨fun m o W=>?_,fun m _ _ _ _ _ W=>absurd W (uL m),fun m b' s e=>?_,VQ g.jy hg,fun b c q=>⟨g.fz b c q,fun m s W=>absurd W (uL m)⟩⟩,fun m W=>?_,uL⟩
 . obtain⟨k,ks,X,rfl⟩:=RN hl W;obtain⟨m0,o,RO,h2,h3,h4⟩:=hr m k ks X;obtain⟨b,s,e1,c,el,fz,k1,k2,k3⟩:=g.rel m0 _ h3;refine⟨b,s+o,?_,c,el,fz,k1,k2,fun i x M=>?_⟩
   . show(match ns.getD m none with|some (m,o)=>_|none=>none)=_;rw[aO,h2];simp only[Option.getD_some,e1]
   . rw[<- h4,bL]at M;rw[<- k3 (o+i) x M];congr 1;omega
 . have e:(match ns.getD m none with|some (m,o)=>(match E.ι m with|some (b,s)=>some (b,s+o)|none=>none)|none=>none)=some (b',s):=e;split at e
   . rename_i m0 o W;split at e
     . rename_i b s0 e0;simp only[an,aB]at e;obtain⟨rfl,_⟩:=e;exact g.ny m0 b s0 e0
     . cases e
   . cases e
 . have W:ns.length<=m:=W;show(match ns.getD m none with|some (m,o)=>(match E.ι m with|some (b,s)=>some (b,s+o)|none=>none)|none=>none)=none;rw[aO,bS W];rfl
def Ni:Code->Bool | .rangeFunc ..=>true|_=>false
def rG:Code->Operand | .rangeFunc g _ _ _=>g|_=>.const (.bool true)
def rPs:Code->List Nat | .rangeFunc _ ps _ _=>ps.toList|_=>[]
def rA:Code->Code | .rangeFunc _ _ a _=>a|c=>c
def rB:Code->Code | .rangeFunc _ _ _ b=>b|c=>c
def afp(c:Code)(s:St):H rs:=(s.h.set s.n (some .nf)).set (s.n+1) (some (.loop true none s.S (rPs c) (rA c) (rB c)))
def uq(s:St)(h:H rs)(n:Nat):St:={ s with h:=h.set (s.n+1) none,n:=n,gD:=(fW,[],[.map (some s.n)])::s.gD }
def Y6(s:St)(h:H rs):Bool:=match h.get s.n,h.get (s.n+1)with
 |some .nf,some (.loop true none _ _ _ _)=>true
 |_,_=>false
theorem cT.of{P:Program}{Q:e9}{Tr:List (Nat×pC)}{fl I:Nat}{fn:Func}{live:List Nat}{c:Code}{s:St}{fm:List (List (Bool×Bool)×ah×od)}(X:xD P Q Tr fl c s=true)(h2:xj P Q Tr fl c s=zE P Q Tr fl c s)(h3:ET P Q Tr fl I fn live c s=fm):
  ∃be,cT P Q Tr fl I fn live c s be fm:=by
 refine⟨xj P Q Tr fl c s,?_⟩;unfold cT RJ;unfold xD at X;unfold xj zE at h2;unfold ET at h3;unfold xj;cases hl:kB P Q Tr fl c s with
 |none=>rw[hl]at X;cases X
 |some l=>
  rw[hl]at h2 h3;have h2:ru l=vN l:=h2;have h3:vM (vQ P I fn live) l=fm:=h3;show some (ru l,vN l,vM (vQ P I fn live) l)=some (ru l,ru l,fm);rw[h3,<- h2]
end Go.Eng
