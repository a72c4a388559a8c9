/- Lemmas of the engine. No conditions. -/
import Derived.Test.YtmjggdmekboefaaGreatJointW02
set_option linter.unusedVariables false
set_option linter.unusedSimpArgs false
set_option linter.unusedSectionVars false
namespace Go.Eng
open Go Go.RowKit
structure tB where
 conds:List (Bool×Bool)
 same:List (V×V)
 P2:ah
def tB.nil:tB:=⟨[],[],[]⟩
def tB.app(a b:tB):tB:=⟨a.conds++b.conds,a.same++b.same,a.P2++b.P2⟩
def tB.ok(p:tB):Prop:=∀c∈p.conds,c.1=c.2
def tB.good(p:tB):Prop:=(∀c∈p.same,c.1=c.2)/\∀a∈p.P2,a
theorem tB.P3{a b:tB}:(a.app b).ok↔a.ok/\b.ok:=by
 simp only[tB.ok,tB.app,bj];exact⟨fun h=>⟨fun c A=>h c (.inl A),fun c A=>h c (.inr A)⟩,fun h c A=>A.elim (h.1 c) (h.2 c)⟩
theorem tB.P4{a b:tB}:(a.app b).good↔a.good/\b.good:=by
 simp only[tB.good,tB.app,bj];exact⟨fun h=>⟨⟨fun c A=>h.1 c (.inl A),fun c A=>h.2 c (.inl A)⟩,fun c A=>h.1 c (.inr A),fun c A=>h.2 c (.inr A)⟩,
  fun h=>⟨fun c A=>A.elim (h.1.1 c) (h.2.1 c),fun c A=>A.elim (h.1.2 c) (h.2.2 c)⟩⟩
abbrev dS(α:Type):=Option (List (tB×α))
def dS.ret{α:Type}(a:α):dS α:=some [(.nil,a)]
def pre{α:Type}(p:tB):List (tB×α)->List (tB×α)
 | []=>[]
 |e::r=>(p.app e.1,e.2)::pre p r
def dS.bind{α β:Type}:List (tB×α)->(α->dS β)->dS β
 | [],_=>some []
 |(p,a)::r,f=>match f a with
  |some l1=>match dS.bind r f with
   |some l2=>some (pre p l1++l2)
   |none=>none
  |none=>none
def dS.then{α β:Type}(m:dS α)(f:α->dS β):dS β:=match m with
 |some l=>dS.bind l f
 |none=>none
def fZ{α:Type}(m:dS α)(r:Option α):Prop:=∀l,m=some l->(∃e∈l,e.1.ok)/\∀e∈l,e.1.ok->e.1.good->r=some e.2
theorem Gc{α:Type}{p:tB}:∀{l:List (tB×α)} {e:tB×α},e∈pre p l↔∃e'∈l,e=(p.app e'.1,e'.2)
 | [],e=>by simp[pre]
 |x::r,e=>by
  simp only[pre,aA,Gc];exact⟨fun h=>h.elim (fun q=>⟨x,.inl rfl,q⟩) fun⟨e',h1,C⟩=>⟨e',.inr h1,C⟩,fun⟨e',h1,C⟩=>h1.elim (fun q=>.inl (by rw[C,q])) fun q=>.inr ⟨e',q,C⟩⟩
theorem IQ{α β:Type}{f:α->dS β}:∀{l:List (tB×α)} {l2:List (tB×β)},dS.bind l f=some l2->(∀e∈l2,∃d∈l,∃l1,f d.2=some l1/\∃e'∈l1,e=(d.1.app e'.1,e'.2))/\(∀d∈l,∃l1,f d.2=some l1/\∀e'∈l1,(d.1.app e'.1,e'.2)∈l2)
 | [],l2,h=>by
   simp only[dS.bind,aq]at h;subst h;exact⟨fun e he=>by simp at he,fun d hd=>by simp at hd⟩
 |(p,a)::r,l2,h=>by
  simp only[dS.bind]at h;split at h
  . rename_i l1 h1;split at h
    . rename_i l3 h3;obtain rfl:=eZ h;obtain⟨k1,k2⟩:=IQ h3;refine⟨fun e he=>?_,fun d hd=>?_⟩
      . rcases bj.1 he with q|q
        . obtain⟨e',q1,q2⟩:=Gc.1 q;exact⟨(p,a),by simp,l1,h1,e',q1,q2⟩
        . obtain⟨d,d1,d2⟩:=k1 e q;exact⟨d,by simp[d1],d2⟩
      . rcases aA.1 hd with rfl|hd
        . exact⟨l1,h1,fun e' BE=>bj.2 (.inl (Gc.2 ⟨e',BE,rfl⟩))⟩
        . obtain⟨l1',q1,q2⟩:=k2 d hd;exact⟨l1',q1,fun e' BE=>bj.2 (.inr (q2 e' BE))⟩
    . cases h
  . cases h
theorem fZ.ret{α:Type}(a:α):fZ (dS.ret a) (some a):=by
 intro l h;simp only[dS.ret,aq]at h;subst h;exact⟨⟨_,aI.2 rfl,fun c A=>by simp[tB.nil]at A⟩,fun e he _ _=>by simp only[aI]at he;subst he;rfl⟩
theorem fZ.none{α:Type}(r:Option α):fZ (none:dS α) r:=fun l h=>by cases h
theorem fZ.then{α β:Type}{m:dS α}{f:α->dS β}{r:Option α}{g:α->Option β}(h:fZ m r)(hf:∀a,fZ (f a) (g a)):fZ (m.then f) (r.bind g):=by
 intro l2 e;unfold dS.then at e;split at e
 . rename_i l;obtain⟨⟨d,hd,mY⟩,C⟩:=h l rfl;obtain⟨k1,k2⟩:=IQ e;refine⟨?_,fun e he akd Yf=>?_⟩
   . obtain⟨l1,q1,q2⟩:=k2 d hd;obtain⟨⟨e',BE,T1⟩,_⟩:=hf d.2 l1 q1;exact⟨_,q2 e' BE,tB.P3.2 ⟨mY,T1⟩⟩
   . obtain⟨d,hd,l1,q1,e',BE,rfl⟩:=k1 e he;obtain⟨o1,o2⟩:=tB.P3.1 akd;obtain⟨g1,g2⟩:=tB.P4.1 Yf;rw[C d hd o1 g1];exact(hf d.2 l1 q1).2 e' BE o2 g2
 . cases e
theorem fZ.of_eq{α:Type}{m:dS α}{r r':Option α}(h:fZ m r)(e:r=r'):fZ m r':=e▸h
def vh(P:Program)(t:TypeId):Option Nat:=match uM P t with
 |some e=>kE P e
 |none=>none
def om(P:Program):List Field->ag->ag->Option Bool
 | [],_,_=>some true
 |f::fs,xs,ys=>match decide (f.name= "_")with
  |true=>none
  |false=>match P.underlying f.type,oC P f.type xs f.offset,oC P f.type ys f.offset with
   |some (.int _),some (.int k a),some (.int k' b)=>match decide (k=k')with
    |true=>match om P fs xs ys with
     |some r=>some ((a==b)&&r)
     |none=>none
    |false=>none
   |_,_,_=>none
theorem tC{P:Program}{d:Nat}:∀{fs:List Field} {xs ys:ag} {r:Bool},om P fs xs ys=some r->eqFields P (fun u a b=>EF P (d+1) u a b) fs xs ys=some r
 | [],_,_,r,e=>by simpa only[om,eqFields]using e
 |f::fs,xs,ys,r,e=>by
  simp only[om]at e;split at e
  . cases e
  . rename_i hn;have hn:=bt hn;split at e
    . rename_i k0 k a k' b h1 C h3;split at e
      . rename_i hk;have hk:=aZ hk;subst hk;split at e
        . rename_i r' hr;obtain rfl:=eZ e;have ih:=tC (d:=d) hr;simp only[eqFields,aF hn,C,h3];have:EF P (d+1) f.type (.int k a) (.int k b)=some (a==b):=by simp only[EF,h1,if_true]
          rw[this];cases hab:a==b with
          |true=>simp only[aP];exact ih
          |false=>simp only[aT]
        . cases e
      . cases e
    . cases e
def P5(P:Program)(e:TypeId):V->V->Option Bool
 | .agg xs,.agg ys=>match P.underlying e with
   |some (.struct mb)=>match P.stoodInHeld e with
    |true=>none
    |false=>om P mb.toList xs ys
   |_=>none
 |_,_=>none
def sE(P:Program)(e:TypeId)(c:Nat)(xs ys:ag):List Nat->Option Bool
 | []=>some true
 |i::is=>match oC P e xs (i*c),oC P e ys (i*c)with
  |some a,some b=>match P5 P e a b,sE P e c xs ys is with
   |some q,some r=>some (q&&r)
   |_,_=>none
  |_,_=>none
theorem P6{P:Program}{d:Nat}{e:TypeId}{x y:V}{r:Bool}(h:P5 P e x y=some r):EF P (d+1+1) e x y=some r:=by
 unfold P5 at h;split at h
 . split at h
   . rename_i mb hu;split at h
     . cases h
     . rename_i hs;simp only[EF,hu,hs,aM,cI];exact tC (d:=d) h
   . cases h
 . cases h
theorem Bf{P:Program}{d c:Nat}{e:TypeId}{xs ys:ag}:∀{is:List Nat} {r:Bool},sE P e c xs ys is=some r->oD P (EF P (d+1+1) e) e c xs ys is=some r
 | [],r,h=>by simpa only[sE,oD]using h
 |i::is,r,h=>by
  simp only[sE]at h;split at h
  . rename_i a b h1 C;split at h
    . rename_i q r' h3 h4;obtain rfl:=eZ h;simp only[oD,h1,C,P6 (d:=d) h3];cases q with
      |true=>simp only[aP];exact Bf h4
      |false=>simp only[aT]
    . cases h
  . cases h
def Mh(P:Program)(t:TypeId)(xs ys:ag):Option Bool:=
 match P.eqGuardType P.depth t with
 |true=>none
 |false=>match P.underlying t with
  |some (.struct mb)=>match P.stoodInHeld t with
   |true=>none
   |false=>om P mb.toList xs ys
  |some (.array n e)=>match(P.info? e).isSome with
   |true=>sE P e (P.cellsOf e) xs ys (List.range n)
   |false=>none
  |_=>none
section
variable{P:Program}(h:I es){t:TypeId}
theorem T6{d:Nat}{t:TypeId}{mb:Array Field}{xs ys:ag}{r:Bool}(hu:P.underlying t=some (.struct mb))(hs:P.stoodInHeld t=false)(e:om P mb.toList xs ys=some r):EF P (d+1+1) t (.agg xs) (.agg ys)=some r:=by
 simp only[EF,hu,hs,aM,cI];exact tC (d:=d) e
theorem T7{d m:Nat}{t el:TypeId}{xs ys:ag}{r:Bool}(hu:P.underlying t=some (.array m el))(hi:(P.info? el).isSome=true)(e:sE P el (P.cellsOf el) xs ys (List.range m)=some r):EF P (d+1+1+1) t (.agg xs) (.agg ys)=some r:=by
 simp only[EF,hu,hi];exact Bf (d:=d) e
theorem IS{x y:Operand}{xs ys:ag}{r:Bool}(e:Mh P t xs ys=some r):Ec P t x y (.agg xs) (.agg ys)=some r:=by
 unfold Mh at e;split at e
 . cases e
 . rename_i hg;split at e
   . rename_i mb hu;split at e
     . cases e
     . rename_i hs;simp only[Ec,hg,aM,cI];exact T6 (d:=9998) hu hs e
   . rename_i n el hu;split at e
     . rename_i hi;simp only[Ec,hg,aM,cI];exact T7 (d:=9997) hu hi e
     . cases e
   . cases e
def pxT(P:Program)(t:TypeId):Option (Nat×TypeId×Nat):=match P.underlying t with
 |some (.array len e)=>match HN P e,kE P e with
  |some true,some s=>some (len,e,s)
  |_,_=>none
 |_=>none
theorem Yg{e:TypeId}{len s:Nat}(h:pxT P t=some (len,e,s)):P.underlying t=some (.array len e)/\HN P e=some true/\kE P e=some s:=by
 unfold pxT at h;split at h
 . rename_i hu;split at h
   . rename_i h1 C;simp only[aq,aB]at h;obtain⟨rfl,rfl,rfl⟩:=h;exact⟨hu,h1,C⟩
   . cases h
 . cases h
def kO(P:Program)(o:Oper)(F:I V)(h:I es)(n:Nat):Option (ah×iX):=match eG P o F h n with
 |some r=>some ([],r)
 |none=>none
def P8:V->Bool
 | .fk (some (m,_)) _ _ _=>match h.get m with
   |some (.ints _ _)=>true
   |some (.own _ _)=>true
   |some (.deep _)=>true
   |some (.wh _ _ _)=>true
   |_=>false
 | .eM _ _ _=>true
 | .str _=>true
 |_=>false
def Gd(size:Nat)(x:V):Option (ah×Nat×Row):=
 match x with
 | .eM _ len cs=>some ([cs.length=len*size],len,.ds cs)
 |x=>match P8 h x with
 |true=>match x with
  | .fk (some (m,o)) len _ lz=>match Nat.beq lz size,(h.get m).bind es.Ni with
    |true,some (.is k W)=>some ([0<len,o+len*size<=W.length],len,.is k ((W.drop o).take (len*size)))
    |true,some (.ds cs)=>some ([0<len,o+len*size<=cs.length],len,.ds ((cs.drop o).take (len*size)))
    |_,_=>none
  | .str s=>match Nat.beq size 1 with
    |true=>some ([],s.length,.is .u8 (p8 s))
    |false=>none
  |_=>none
 |false=>match jT h size x with
  |some (k,r)=>some ([],k,r)
  |none=>none
theorem tD{h:I es}{size k:Nat}{x:V}{hc:ah}{r:Row}(e:Gd h size x=some (hc,k,r))(hA:∀a∈hc,a):jT h size x=some (k,r):=by
 unfold Gd at e;split at e
 . simp only[aq,aB]at e;obtain⟨rfl,rfl,rfl⟩:=e;have h1:=hA _ (aI.2 rfl);simp only[jT,aF h1]
 split at e
 . split at e
   . rename_i m o len cp lz _ _;split at e
     . rename_i k' W U hr;simp only[aq,aB]at e;obtain⟨rfl,rfl,rfl⟩:=e;have h1:0<len:=hA _ (by simp);have C:o+len*size<=W.length:=hA _ (by simp);have U:=aJ U;cases L:h.get m with
       |none=>rw[L]at hr;cases hr
       |some ob=>
        rw[L]at hr;have hr:ob.Ni=some (.is k' W):=hr;cases len with
        |zero=>omega
        |succ len=>simp only[jT,U,if_true,L,hr,Row.cut,aF C]
     . rename_i cs U hr;simp only[aq,aB]at e;obtain⟨rfl,rfl,rfl⟩:=e;have h1:0<len:=hA _ (by simp);have C:o+len*size<=cs.length:=hA _ (by simp);have U:=aJ U;cases L:h.get m with
       |none=>rw[L]at hr;cases hr
       |some ob=>
        rw[L]at hr;have hr:ob.Ni=some (.ds cs):=hr;cases len with
        |zero=>omega
        |succ len=>simp only[jT,U,if_true,L,hr,Row.cut,aF C]
     . cases e
   . split at e
     . rename_i U;simp only[aq,aB]at e;obtain⟨rfl,rfl,rfl⟩:=e;simp only[jT,aF (aJ U)]
     . cases e
   . cases e
 . split at e
   . rename_i k' r' h1;simp only[aq,aB]at e;obtain⟨rfl,rfl,rfl⟩:=e;exact h1
   . cases e
def Aa(len size o:Nat):Row->Option (ah×Row)
 | .is k W=>some ([0<len,o+len*size<=W.length],.is k ((W.drop o).take (len*size)))
 | .ds cs=>some ([o+len*size<=cs.length],.ds ((cs.drop o).take (len*size)))
 | .vs cs=>match len with
   |0=>some ([],.vs [])
   |_=>match(Row.vs cs).cut o (len*size)with
    |some r=>some ([],r)
    |none=>none
theorem NR{len size o:Nat}{r old:Row}{hc:ah}(e:Aa len size o r=some (hc,old))(hA:∀a∈hc,a):(if r.soft=false/\len=0 then some (.vs [])else r.cut o (len*size):Option Row)=some old:=by
 cases r with
 |is k W=>
  simp only[Aa,aq,aB]at e;obtain⟨rfl,rfl⟩:=e;have h1:0<len:=hA _ (by simp);have C:o+len*size<=W.length:=hA _ (by simp);rw[aD S];simp only[Row.cut,aF C]
 |ds cs=>
  simp only[Aa,aq,aB]at e;obtain⟨rfl,rfl⟩:=e;have C:o+len*size<=cs.length:=hA _ (by simp);rw[aD (fun q=>by have:=q.1;cases this)];simp only[Row.cut,aF C]
 |vs cs=>
  cases len with
  |zero=>
   simp only[Aa,aq,aB]at e;obtain⟨rfl,rfl⟩:=e;rfl
  |succ len=>
   simp only[Aa]at e;split at e
   . rename_i r' h1;obtain⟨rfl,rfl⟩:=gr e;rw[aD S];exact h1
   . cases e
def Ge(i:TypeInfo)(z:V):Bool:=decide (0<i.size)&&(decide (0<i.bytes)&&decide (z.cells.length=i.size))
def P9(m:Nat):Option (TypeId×Bool×aa):=match h.get m with
 |some (.wh e f s)=>some (e,f,s)
 |_=>none
def Ab(P:Program)(eW:Array TypeId)(args:ag)(h:I es)(n:Nat):Option (ah×iX):=
 match eW[0]?,eW[1]?,args with
 |some st,some xt,[s,x]=>match uM P st,P.underlying xt with
  |some e,some xd=>match J5 xd,P.info? e,zeroOf P e with
   |true,some i,some z=>match Ge i z,Gd h i.size x with
    |true,some (hc,k,new)=>match new.flat with
     |true=>match s with
      | .fk none 0 _ _=>match newObj h n (Co e x new)with
        |some (h',n')=>some (hc++[0<k,fM k i.size i.bytes=true],.val (.fk (some (n,0)) k k i.size) h' n')
        |none=>none
      | .eM true len cs=>match newObj h n ((Row.ds cs).app new).EE with
        |some (h',n')=>some (hc++[0<k,fM (len+k) i.size i.bytes=true,cs.length=len*i.size],.val (.fk (some (n,0)) (len+k) (len+k) i.size) h' n')
        |none=>none
      | .fk (some (m,o)) len cp lz=>match P9 h m with
        |some (el,AM,s0)=>match Nat.beq lz i.size&&(Nat.blt m gO&&(Nat.beq o 0&&(Nat.beq i.size 1&&decide (el=e)))),uR new with
         |true,some t=>match newObj (h.set m none) n (.wh el AM (s0++t))with
          |some (h',n')=>some (hc++[0<cp,len=s0.length,fM (len+k) i.size i.bytes=true],.val (.fk (some (n,0)) (len+k) (len+k) lz) h' n')
          |none=>none
         |_,_=>none
        |none=>match Nat.beq lz i.size&&Nat.blt m gO,(h.get m).bind es.row with
        |true,some r=>match Aa len i.size o r with
         |some (aj,old)=>match newObj (h.set m none) n (old.app new).EE with
          |some (h',n')=>match new.soft with
           |true=>some (hc++(aj++[fM (len+k) i.size i.bytes=true]),.val (.fk (some (n,0)) (len+k) (len+k) lz) h' n')
           |false=>some (hc++(aj++[0<k,fM (len+k) i.size i.bytes=true]),.val (.fk (some (n,0)) (len+k) (len+k) lz) h' n')
          |none=>none
         |none=>none
        |_,_=>none
      |_=>none
     |false=>none
    |_,_=>none
   |_,_,_=>none
  |_,_=>none
 |_,_,_=>none
theorem Gf{eW:Array TypeId}{args:ag}{h:I es}{n:Nat}{hc:ah}{r:iX}(e:Ab P eW args h n=some (hc,r))(hA:∀a∈hc,a):x5 P eW args h n=some r:=by
 unfold Ab at e;split at e
 . rename_i st xt s x h1 C;split at e
   . rename_i el xd h3 h4;split at e
     . rename_i i z h5 h6 h7;split at e
       . rename_i A1 k new h8 h9;simp only[Ge,ay,aU]at h8;split at e
         . rename_i Yh;unfold x5;simp only[h1,C,h3,h4,h5,h6,h7];rw[aF h8];split at e
           . cases ho:newObj h n (Co el x new)with
             |none=>rw[ho]at e;cases e
             |some p=>
              rw[ho]at e;obtain⟨rfl,rfl⟩:=gr e;have ht:=tD h9 fun a ha=>hA a (by simp[ha]);have hk:0<k:=hA _ (by simp);have hr:fM k i.size i.bytes=true:=hA _ (by simp);rw[ht];simp only[Yh,if_true];cases k with
              |zero=>omega
              |succ k=>simp only[aF hr,ho]
           . rename_i len cs;cases ho:newObj h n ((Row.ds cs).app new).EE with
             |none=>rw[ho]at e;cases e
             |some p=>
              rw[ho]at e;obtain⟨rfl,rfl⟩:=gr e;have ht:=tD h9 fun a ha=>hA a (by simp[ha]);have hk:0<k:=hA _ (by simp);have hr:fM (len+k) i.size i.bytes=true:=hA _ (by simp);have A:cs.length=len*i.size:=hA _ (by simp);rw[ht];simp only[Yh,if_true];cases k with
              |zero=>omega
              |succ k=>simp only[aF (And.intro hr A),ho]
           . rename_i m o len cp lz;split at e
             . rename_i el0 AM s0 Ki;have L:h.get m=some (.wh el0 AM s0):=by
                unfold P9 at Ki;split at Ki
                . rename_i hq;cases Ki;exact hq
                . cases Ki
               split at e
               case h_2=>cases e
               rename_i t U ht;simp only[ay]at U;cases ho:newObj (h.set m none) n (.wh el0 AM (s0++t))with
               |none=>rw[ho]at e;cases e
               |some p=>
                rw[ho]at e;obtain⟨rfl,rfl⟩:=gr e;have htl:=tD h9 fun a ha=>hA a (by simp[ha]);have q1:0<cp:=hA _ (by simp);have q2:len=s0.length:=hA _ (by simp);have q3:fM (len+k) i.size i.bytes=true:=hA _ (by simp);rw[htl];simp only[Yh,if_true];rw[aF ⟨aJ U.1,q3,aE U.2.1⟩];simp only[L,ht];rw[aF ⟨⟨aJ U.2.2.1,q1⟩,⟨Nat.le_of_eq q2,fun _=>q2⟩,aJ U.2.2.2.1,aZ U.2.2.2.2⟩];simp only[q2,br];rw[<- q2];simp only[ho]
             rename_i hnb;split at e
             . rename_i r0 U CF;split at e
               . rename_i aj old qn;cases ho:newObj (h.set m none) n (old.app new).EE with
                 |none=>rw[ho]at e;cases e
                 |some p=>
                  rw[ho]at e;simp only at e;have WH:(∀a∈A1,a)->(∀a∈aj,a)->(new.soft=false->0<k)->fM (len+k) i.size i.bytes=true->iX.val (.fk (some (n,0)) (len+k) (len+k) lz) p.1 p.2=r->
                   (match jT h i.size x with
                    |some (k,new)=>
                     if new.flat=true then
                      if lz=i.size/\fM (len+k) i.size i.bytes=true/\m<gO then
                       match h.get m with
                       |some (.wh el0 AM s0)=>match uR new with
                        |some t=>if(o=0/\0<cp)/\(len<=s0.length/\(AM=true->len=s0.length))/\(i.size=1/\el0=el)then(match newObj (h.set m none) n (.wh el0 AM (s0.take len++t))with
                         |some (h',n')=>some (.val (.fk (some (n,0)) (len+k) (len+k) lz) h' n')
                         |none=>none)else none
                        |none=>none
                       |some ob=>match ob.row with
                        |some r=>
                         match(if r.soft=false/\len=0 then some (.vs [])else r.cut o (len*i.size):Option Row)with
                         |some old=>
                          if new.soft=false/\k=0 then some (.val (.fk (some (m,o)) len cp lz) h n)
                          else match newObj (h.set m none) n (old.app new).EE with
                           |some (h',n')=>some (.val (.fk (some (n,0)) (len+k) (len+k) lz) h' n')
                           |none=>none
                         |none=>none
                        |none=>none
                       |_=>none
                      else none
                     else none
                    |none=>none:Option iX)=some r:=by
                   intro hA1 hB hk hr IT;subst IT;have ht:=tD h9 hA1;have adA:=NR qn hB;simp only[ay]at U;have Tf:=aJ U.1;have OS:m<gO:=aE U.2;cases L:h.get m with
                   |none=>rw[L]at CF;cases CF
                   |some ob=>
                    rw[L]at CF;have CF:ob.row=some r0:=CF;rw[ht];simp only[Yh,if_true];rw[aF ⟨Tf,hr,OS⟩];have adB:∀e f s,ob≠ .wh e f s:=fun e f s q=>by subst q;unfold P9 at hnb;rw[L]at hnb;cases hnb
                    cases ob<;>first|exact absurd rfl (adB _ _ _)|skip
                    all_goals
                    simp only[CF,adA];rw[aD (fun q=>by have:=hk q.1;omega)];simp only[ho]
                  split at e
                  . simp only[aq,aB]at e;obtain⟨rfl,IT⟩:=e;rename_i WI;exact WH (fun a ha=>hA a (by simp[ha])) (fun a ha=>hA a (by simp[ha])) (fun q=>by rw[q]at WI;cases WI) (hA _ (by simp)) IT
                  . simp only[aq,aB]at e;obtain⟨rfl,IT⟩:=e;exact WH (fun a ha=>hA a (by simp[ha])) (fun a ha=>hA a (by simp[ha])) (fun _=>hA _ (by simp)) (hA _ (by simp)) IT
               . cases e
             . cases e
           . cases e
         . cases e
       . cases e
     . cases e
   . cases e
 . cases e
end
section
variable{P:Program}{t:TypeId}{o:Oper}{F:I V}{h:I es}(k:IntKind)(W:List Int){n:Nat}
def C9(P:Program)(t:TypeId)(h:I es)(v:V)(m o:Nat)(k:IntKind)(W:List Int):Option (ah×I es):=
 match kE P t,pY k v.cells with
 |some s,some new=>match Nat.beq v.cells.length s&&(Nat.blt 0 s&&Nat.blt m gO)with
  |true=>some ([o+s<=W.length],h.set m (some (.own k (By W o new))))
  |false=>none
 |_,_=>none
theorem IU{h':I es}{v:V}{m o:Nat}{k:IntKind}{W:List Int}{hc:ah}(L:h.get m=some (.own k W))(e:C9 P t h v m o k W=some (hc,h'))(hA:∀a∈hc,a):storeAt P t h v (.ptr (some (m,o)))=some h':=by
 unfold C9 at e;split at e
 . rename_i s new h1 C;split at e
   . rename_i U;obtain⟨rfl,rfl⟩:=gr e;simp only[ay]at U;have h3:=aJ U.1;have h4:0<s:=aE U.2.1;have h5:m<gO:=aE U.2.2;have h6:o+s<=W.length:=hA _ (by simp);simp only[storeAt,L,h1,C];rw[aF ⟨h3,h4,h5⟩,aF h6]
   . cases e
 . cases e
def mG(off sz:Nat):V:=.agg ((List.range sz).map fun j=>V.int k (W.getD (off+j) 0))
theorem KD{k:IntKind}{W:List Int}{off sz:Nat}(ha:HN P t=some true)(hs:kE P t=some sz)(hl:off+sz<=W.length):lp P t (W.map (.int k)) off=some (mG k W off sz):=by
 simp only[lp,ha,hs,cut,bM,aF hl,bz,mG,aq,V.agg.injEq];apply List.ext_getElem
 . simp;omega
 . intro i h1 C;simp at h1 C;have:off+i<W.length:=by omega
   simp[List.getD,this]
def BX(P:Program)(t:TypeId)(k:IntKind)(W:List Int)(off:Nat):Option (Prop×V):=match HN P t with
 |some false=>some (off<W.length,.int k (W.getD off 0))
 |some true=>match kE P t with
  |some sz=>some (off+sz<=W.length,mG k W off sz)
  |none=>none
 |none=>none
theorem Da{k:IntKind}{W:List Int}{off:Nat}{p:Prop}{v:V}(e:BX P t k W off=some (p,v))(hp:p):lp P t (W.map (.int k)) off=some v:=by
 unfold BX at e;split at e
 . rename_i Yi;obtain⟨rfl,rfl⟩:=gr e;simp only[lp,Yi,bD,au hp,bz,ax,cA]
 . rename_i Yi;split at e
   . rename_i sz hs;obtain⟨rfl,rfl⟩:=gr e;exact KD Yi hs hp
   . cases e
 . cases e
def Ac(P:Program)(t:TypeId):Bool:=match P.underlying t with
 |some .string=>true
 |_=>false
theorem vU(h:Ac P t=true):P.underlying t=some .string:=by
 unfold Ac at h;split at h
 . assumption
 . cases h
def Bg(P:Program)(o:Oper)(F:I V)(h:I es)(n:Nat):Option (ah×iX):=
 match o.op with
 | .indexAddr t x i=>match jn F x,jn F i with
   |some (.fk (some (m,off)) len _ lz),some (.int _ ix)=>match vh P t with
    |some s=>match Nat.beq s lz with
     |true=>some ([0<=ix/\ix<len],.val (.ptr (some (m,off+ix.toNat*s))) h n)
     |false=>none
    |none=>none
   |_,_=>kO P o F h n
 | .load t a=>match jn F a with
   |some (.ptr (some (m,off)))=>match h.get m with
    |some (.ints k W)=>match BX P t k W off with
     |some (p,v)=>some ([p],.val v h n)
     |none=>none
    |some (.own k W)=>match BX P t k W off with
     |some (p,v)=>some ([p],.val v h n)
     |none=>none
    |_=>kO P o F h n
   |_=>kO P o F h n
 | .store t a x=>match jn F a,jn F x with
   |some (.ptr (some (m,off))),some v=>match h.get m with
    |some (.own k W)=>match C9 P t h v m off k W with
     |some (hc,h')=>some (hc,.val (.gK []) h' n)
     |none=>none
    |_=>kO P o F h n
   |_,_=>kO P o F h n
 | .call c=>match c.callee with
   | .builtin .append=>match uS F c.args.toList with
     |some [s,x]=>match P8 h s||P8 h x with
      |true=>match Nat.beq c.argTypes.size 2 with
       |true=>Ab P c.argTypes [s,x] h n
       |false=>none
      |false=>kO P o F h n
     |_=>kO P o F h n
   |_=>kO P o F h n
 | .slice t x (some lo) (some hi) none=>match jn F x,jn F lo,jn F hi with
   |some (.fk a len kg lz),some (.int _ lx),some (.int _ K)=>match vh P t with
    |some s=>match Nat.beq s lz||a.isNone with
     |true=>some ([0<=K/\K<=kg,0<=lx/\lx<=K.toNat],.val (.fk (match a with|none=>none|some (b,o)=>some (b,o+lx.toNat*lz)) (K.toNat-lx.toNat) (kg-lx.toNat) lz) h n)
     |false=>none
    |none=>none
   |some (.str s),some (.int _ lx),some (.int _ K)=>match Ac P t with
    |true=>some ([0<=K/\K<=s.length,0<=lx/\lx<=K.toNat],.val (.str ((s.take K.toNat).drop lx.toNat)) h n)
    |false=>none
   |_,_,_=>kO P o F h n
 | .slice t x none (some hi) none=>match jn F x,jn F hi with
   |some (.fk a len kg lz),some (.int _ K)=>match vh P t with
    |some s=>match Nat.beq s lz||a.isNone with
     |true=>some ([0<=K/\K<=kg],.val (.fk (match a with|none=>none|some (b,o)=>some (b,o+0*lz)) (K.toNat-0) (kg-0) lz) h n)
     |false=>none
    |none=>none
   |some (.str s),some (.int _ K)=>match Ac P t with
    |true=>some ([0<=K/\K<=s.length],.val (.str ((s.take K.toNat).drop 0)) h n)
    |false=>none
   |_,_=>kO P o F h n
 | .slice t x (some lo) none none=>match jn F x,jn F lo with
   |some (.fk a len kg lz),some (.int _ lx)=>match vh P t with
    |some s=>match Nat.beq s lz||a.isNone with
     |true=>some ([0<=lx/\lx<=len],.val (.fk (match a with|none=>none|some (b,o)=>some (b,o+lx.toNat*lz)) (len-lx.toNat) (kg-lx.toNat) lz) h n)
     |false=>none
    |none=>none
   |some (.str s),some (.int _ lx)=>match Ac P t with
    |true=>some ([0<=lx/\lx<=s.length],.val (.str ((s.take s.length).drop lx.toNat)) h n)
    |false=>none
   |_,_=>kO P o F h n
 | .binOp .eql t x y _=>match jn F x,jn F y with
   |some (.agg xs),some (.agg ys)=>match Mh P t xs ys with
    |some r=>some ([],.val (.bool r) h n)
    |none=>none
   |_,_=>kO P o F h n
 | .binOp .neq t x y _=>match jn F x,jn F y with
   |some (.agg xs),some (.agg ys)=>match Mh P t xs ys with
    |some r=>some ([],.val (.bool (!r)) h n)
    |none=>none
   |_,_=>kO P o F h n
 | .binOp .quo t x y _=>match jn F x,jn F y with
   |some (.int k a),some (.int k' b)=>match decide (k=k')with
    |true=>some ([b≠0],.val (.int k (k.wrap (a.tdiv b))) h n)
    |false=>none
   |_,_=>kO P o F h n
 | .index t x i=>match jn F x,jn F i with
   |some (.str s),some (.int _ ix)=>match Ac P t with
    |true=>some ([0<=ix/\ix.toNat<s.length],.val (.int .u8 (s.getD ix.toNat 0).toNat) h n)
    |false=>none
   |some (.agg (.int k0 N::cs)),some (.int _ ix)=>match pxT P t with
    |some (len,_,sz)=>some ([0<=ix/\ix<len,ix.toNat*sz+sz<=(V.int k0 N::cs).length],.val (.agg (List.take sz (List.drop (ix.toNat*sz) (V.int k0 N::cs)))) h n)
    |none=>kO P o F h n
   |_,_=>kO P o F h n
 |_=>kO P o F h n
theorem iD{l:ah}{r:iX}(e:kO P o F h n=some (l,r)):eG P o F h n=some r:=by
 unfold kO at e;split at e
 . rename_i r' hr;simp only[aq,aB]at e;obtain⟨_,rfl⟩:=e;exact hr
 . cases e
theorem pU{s:Nat}(e:vh P t=some s):∃el,P.underlying t=some (.slice el)/\kE P el=some s:=by
 unfold vh uM at e;cases hu:P.underlying t with
 |none=>simp[hu]at e
 |some d=>cases d<;>simp[hu]at e
          exact⟨_,rfl,e⟩
theorem sF{l:ah}{r:iX}(e:Bg P o F h n=some (l,r))(hl:∀p∈l,p):eG P o F h n=some r:=by
 unfold Bg at e;split at e
 . rename_i t x i ho;split at e
   . rename_i m off len cp lz k ix K hi;split at e
     . rename_i s hs;split at e
       . rename_i U;obtain⟨rfl,rfl⟩:=gr e;have U:=aJ U;subst U;obtain⟨el,h1,C⟩:=pU hs;have A:=hl _ (aI.2 rfl);simp only[eG,ho,K,hi,mL,h1,C,kK];rw[aF (by exact⟨A.1,A.2,trivial⟩)]
       . cases e
     . cases e
   . exact iD e
 . rename_i t a ho;split at e
   . rename_i m off ha;split at e
     . rename_i k W L;split at e
       . rename_i p v hs;obtain⟨rfl,rfl⟩:=gr e;have hp:p:=hl _ (aI.2 rfl);simp only[eG,ho,ha,loadAt,L,Da hs hp,kK]
       . cases e
     . rename_i k W L;split at e
       . rename_i p v hs;obtain⟨rfl,rfl⟩:=gr e;have hp:p:=hl _ (aI.2 rfl);simp only[eG,ho,ha,loadAt,L,Da hs hp,kK]
       . cases e
     . exact iD e
   . exact iD e
 . rename_i t a x ho;split at e
   . rename_i m off v ha K;split at e
     . rename_i k W L;split at e
       . rename_i hc h' hs;obtain⟨rfl,rfl⟩:=gr e;simp only[eG,ho,ha,K,IU L hs hl]
       . cases e
     . exact iD e
   . exact iD e
 . rename_i c ho;split at e
   . rename_i A;split at e
     . rename_i s x mS;split at e
       . split at e
         . rename_i U;have U:=aJ U;simp only[eG,ho,wG,mS,A,lK,U,if_true];exact Gf e hl
         . cases e
       . exact iD e
     . exact iD e
   . exact iD e
 . rename_i t x lo hi ho;split at e
   . rename_i a len cp lz k lx k2 K pS HB NB;split at e
     . rename_i s hs;split at e
       . rename_i U;obtain⟨rfl,rfl⟩:=gr e;obtain⟨el,h1,C⟩:=pU hs;have A:=hl _ (bB ..);have Yj:=hl _ (bh _ (aI.2 rfl));have D3:s=lz\/a=none:=by
          simp only[cq,Option.isNone_iff_eq_none]at U;exact U.imp aJ _root_.id
         simp only[eG,ho,pS,HB,NB,mM,mK,h1,C,kK,Option.isSome_none,aM,false_and,cI];rw[aF D3];simp only[fB,aF A,aF Yj];cases a<;>rfl
       . cases e
     . cases e
   . rename_i s k lx k2 K pS HB NB;split at e
     . rename_i hs;obtain⟨rfl,rfl⟩:=gr e;have A:=hl _ (bB ..);have Yj:=hl _ (bh _ (aI.2 rfl));simp only[eG,ho,pS,HB,NB,mM,mK,vU hs,kK,Option.isSome_none,aM,false_and,cI,fB,aF A,aF Yj]
     . cases e
   . exact iD e
 . rename_i t x hi ho;split at e
   . rename_i a len cp lz k K pS NB;split at e
     . rename_i s hs;split at e
       . rename_i U;obtain⟨rfl,rfl⟩:=gr e;obtain⟨el,h1,C⟩:=pU hs;have A:=hl _ (aI.2 rfl);have D3:s=lz\/a=none:=by
          simp only[cq,Option.isNone_iff_eq_none]at U;exact U.imp aJ _root_.id
         simp only[eG,ho,pS,NB,mM,mK,h1,C,kK,Option.isSome_none,aM,false_and,cI];rw[aF D3];simp only[fB,aF A];cases a<;>rfl
       . cases e
     . cases e
   . rename_i s k K pS NB;split at e
     . rename_i hs;obtain⟨rfl,rfl⟩:=gr e;have A:=hl _ (aI.2 rfl);simp only[eG,ho,pS,NB,mM,mK,vU hs,kK,Option.isSome_none,aM,false_and,cI,fB,aF A]
     . cases e
   . exact iD e
 . rename_i t x lo ho;split at e
   . rename_i a len cp lz k lx pS NB;split at e
     . rename_i s hs;split at e
       . rename_i U;obtain⟨rfl,rfl⟩:=gr e;obtain⟨el,h1,C⟩:=pU hs;have A:=hl _ (aI.2 rfl);have D3:s=lz\/a=none:=by
          simp only[cq,Option.isNone_iff_eq_none]at U;exact U.imp aJ _root_.id
         simp only[eG,ho,pS,NB,mM,mK,h1,C,kK,Option.isSome_none,aM,false_and,cI];rw[aF D3];simp only[fB,aF A];cases a<;>rfl
       . cases e
     . cases e
   . rename_i s k lx pS NB;split at e
     . rename_i hs;obtain⟨rfl,rfl⟩:=gr e;have A:=hl _ (aI.2 rfl);simp only[eG,ho,pS,NB,mM,mK,vU hs,kK,Option.isSome_none,aM,false_and,cI,fB,aF A]
     . cases e
   . exact iD e
 . rename_i t x y yt ho;split at e
   . rename_i xs ys K hy;split at e
     . rename_i r hr;obtain⟨rfl,rfl⟩:=gr e;simp only[eG,ho,K,hy,Ck,IS hr,bz,kK]
     . cases e
   . exact iD e
 . rename_i t x y yt ho;split at e
   . rename_i xs ys K hy;split at e
     . rename_i r hr;obtain⟨rfl,rfl⟩:=gr e;simp only[eG,ho,K,hy,Ck,IS hr,bz,kK]
     . cases e
   . exact iD e
 . rename_i t x y yt ho;split at e
   . rename_i k a k' b K hy;split at e
     . rename_i hk;have hk:=aZ hk;subst hk;obtain⟨rfl,rfl⟩:=gr e;have U:b≠0:=hl _ (aI.2 rfl);have:Ck P .quo t x y (.int k a) (.int k b)=some (.int k (k.wrap (a.tdiv b))):=by
        simp[Ck,binOp,Op.intDiv,U,sZ,jk];rfl
       simp only[eG,ho,K,hy,this,kK]
     . cases e
   . exact iD e
 . rename_i t x i ho;split at e
   . rename_i s k ix K hi;split at e
     . rename_i hs;obtain⟨rfl,rfl⟩:=gr e;have A:0<=ix/\ix.toNat<s.length:=hl _ (aI.2 rfl);have hg:s[ix.toNat]? =some s[ix.toNat]:=au A.2;have hd:s.getD ix.toNat 0=s[ix.toNat]:=by rw[ax,hg];rfl
       simp only[eG,ho,K,hi,Cm,vU hs,aF A.1,hg,hd,kK]
     . cases e
   . rename_i k0 m0 cs k ix K hi;split at e
     . rename_i len el sz hs;obtain⟨rfl,rfl⟩:=gr e;have A:0<=ix/\ix<len:=hl _ (by simp);have hd:ix.toNat*sz+sz<=(V.int k0 m0::cs).length:=hl (ix.toNat*sz+sz<=(V.int k0 m0::cs).length) (by simp);obtain⟨q1,q2,q3⟩:=Yg hs;simp only[eG,ho,K,hi,Cm,q1,q3,aF A,oC,lp,q2,cut,aF hd,bz,kK]
     . exact iD e
   . exact iD e
 . exact iD e
end
inductive mH where
 |split
 |dL (v:V)
def WJ:List (Nat×mH)->Nat->Option mH
 | [],_=>none
 |x::r,d=>match Nat.beq x.1 d with
  |true=>some x.2
  |false=>WJ r d
section
variable(dG:List (Nat×mH))(dst:Option Nat)
def KE(v:V):dS V:=
 match dst with
 |none=>.ret v
 |some d=>match WJ dG d with
  |none=>.ret v
  |some (.dL u)=>some [(⟨[],[],[v=u]⟩,u)]
  |some .split=>match v with
   | .bool c=>some [(⟨[(c,true)],[],[]⟩,.bool true),(⟨[(c,false)],[],[]⟩,.bool false)]
   |v=>.ret v
theorem qy(v:V):fZ (KE dG dst v) (some v):=by
 unfold KE;split
 . exact .ret v
 . split
   . exact .ret v
   . rename_i u hu;intro l h;obtain rfl:=eZ h;refine⟨⟨_,aI.2 rfl,fun c A=>by simp at A⟩,fun e he _ hg=>?_⟩;simp only[aI]at he;subst he;have:v=u:=hg.2 _ (aI.2 rfl);rw[this]
   . split
     . rename_i c;intro l h;obtain rfl:=eZ h;refine⟨?_,fun e he ho _=>?_⟩
       . cases A:c with
         |true=>exact⟨(⟨[(true,true)],[],[]⟩,.bool true),by simp,fun x K=>by simp only[aI]at K;subst K;rfl⟩
         |false=>exact⟨(⟨[(false,false)],[],[]⟩,.bool false),by simp,fun x K=>by simp only[aI]at K;subst K;rfl⟩
       . simp only[aA,aH,bq]at he;rcases he with rfl|rfl
         . have:c=true:=ho (c,true) (aI.2 rfl);rw[this]
         . have:c=false:=ho (c,false) (aI.2 rfl);rw[this]
     . exact .ret _
end
abbrev Ctr:=FuncId->ag->I es->Option (ah×V)
def pJ:Option (qb×I es×Nat)->Option (V×I es×Nat)
 |some (.ret v,h,n)=>some (v,h,n)
 |_=>none
theorem qz{α:Type}{m:dS α}{r r':Option α}(h:fZ m r)(e:∀a,r=some a->r'=some a):fZ m r':=by
 intro l hl;obtain⟨h1,C⟩:=h l hl;exact⟨h1,fun x K ho hg=>e _ (C x K ho hg)⟩
section
variable(P:Program)(dF:Ctr)(cf:gu)(dG:List (Nat×mH))
theorem tE{α β:Type}(a:α)(g:α->Option β):(some a).bind g=g a:=rfl
def NS{α β:Type}:Option (α ⊕ β)->Option α
 |some (.inl a)=>some a
 |_=>none
def BY(f:St->dS (fm×St)):Nat->St->dS (fm×St)
 |0,_=>none
 |k+1,s=>(f s).then fun p=>match p.1 with
  | .normal=>BY f k p.2
  |_=>.ret p
theorem wN{f:St->dS (fm×St)}{g:St->Option (fm×St)}(h:∀s,fZ (f s) (g s)):∀(k:Nat) (s:St),fZ (BY f k s) (rounds g k s)
 |0,s=>.none _
 |k+1,s=>by
  simp only[BY,rounds];refine(fZ.then (h s) (g:=fun p=>match p.1 with | .normal=>rounds g k p.2|_=>some p) (fun p=>?_)).of_eq ?_
  . obtain⟨x,T⟩:=p;cases x with
    |normal=>exact wN h k T
    |_=>exact .ret _
  . cases g s with
    |none=>rfl
    |some p=>obtain⟨x,T⟩:=p;cases x<;>rfl
end
section
variable{P:Program}{dF:Ctr}{cf:gu}{dG:List (Nat×mH)}{fr n0:Nat}{w0:World}{c:Code}{s:St}{Q:Exit->St->Prop}
def yF{α:Type}(f:fm×St->α):List (tB×fm×St)->List (List (Bool×Bool)×ah×α)
 | []=>[]
 |(p,x)::r=>(p.conds,p.P2,f x)::yF f r
def tF{α:Type}:List (tB×α)->ag
 | []=>[]
 |(p,_)::r=>p.same.map (·.1)++tF r
def xA{α:Type}:List (tB×α)->ag
 | []=>[]
 |(p,_)::r=>p.same.map (·.2)++xA r
def wO{α:Type}:dS α->List (tB×α)
 |some l=>l
 |none=>[]
theorem IV:∀{l:List (V×V)},l.map (·.1)=l.map (·.2)->∀c∈l,c.1=c.2
 | [],_,c,A=>by simp at A
 |x::r,h,c,A=>by
  simp only[b9,List.cons.injEq]at h;rcases aA.1 A with rfl|A
  . exact h.1
  . exact IV h.2 c A
theorem tG{α:Type}:∀(l:List (tB×α)),tF l=xA l->∀p∈l,∀c∈p.1.same,c.1=c.2
 | [],_,p,hp=>by simp at hp
 |(q,x)::r,h,p,hp=>by
  simp only[tF,xA]at h;have hl:(q.same.map (·.1)).length=(q.same.map (·.2)).length:=by simp
  obtain⟨h1,C⟩:=List.append_inj h hl;rcases aA.1 hp with rfl|hp
  . exact IV h1
  . exact tG r C p hp
theorem oo{α:Type}{f:fm×St->α}:∀{l:List (tB×fm×St)} {p:tB×fm×St},p∈l->(p.1.conds,p.1.P2,f p.2)∈yF f l
 | [],p,hp=>by simp at hp
 |(q,x)::r,p,hp=>by
  rcases aA.1 hp with rfl|hp
  . simp[yF]
  . simp only[yF,aA];exact .inr (oo hp)
end
theorem vi{E:Env}{h:I es}{n:Nat}{w:World}{v:V}(g:Good E h w)(hd:qK E n)(hv:v.free=true){e:Ending}{w':World}(ho:∃E',xm E' (.ret v) e)(b:Below w.heap.size w w'):jx E h n w (.ret v) h n e w':=by
 refine⟨E,.below g b,fun _ _=>rfl,hd,aK _,?_⟩
 . obtain⟨E1,ho⟩:=ho;cases e with
   |returned v'=>exact vc _ _ hv ho
   |_=>exact ho.elim
def dI(args:ag)(h:I es)(n:Nat):St:={ F:=mE args 0 .nil,h:=h,n:=n,iZ:=[] }
section
variable{P:Program}{dF:Ctr}{cf:gu}{dG:List (Nat×mH)}{fr:Nat}{f:FuncId}{fn:Func}{code:Code}
end
section
variable{P:Program}{dF:Ctr}{cf:gu}{dG:List (Nat×mH)}{fr n0:Nat}{w0:World}{c:Code}{s:St}{Q:Exit->St->Prop}
def akg(P:Program)(cf:gu)(fr:Nat)(fn:Func)(v:V)(y:Exit)(T:St):Prop:=(y= .normal\/y= .ret)/\∃h' n',nj P cf fr fn T.F T.iZ .ret T.h T.n=some (.ret v,h',n')
inductive Res where
 |next (s:St)
 |exit (id:Nat) (s:St)
 |ret (v:V)
 |bad
def Res.post(P:Program)(cf:gu)(fr:Nat)(fn:Func)(live:List Nat)(Tr:Nat->St->Prop)(k:Nat)(Q:Exit->St->Prop):Res->Prop
 | .next s=>∃k',k'<k/\Tr k' s
 | .exit id s=>∀T,norm live T=some s->Q (.exit id) T
 | .ret v=>∀T,akg P cf fr fn v .ret T->Q .ret T
 | .bad=>False
end
section
variable{P:Program}{dF:Ctr}{cf:gu}{fr n0:Nat}{w0:World}{c:Code}{s:St}{Q:Exit->St->Prop}
theorem NT{fr:Fence}{n:Nat}{o:Oper}{a:Act}{w:World}{hx K':Act->World->Prop}{Q Q':Exit->Act->World->Prop}(hk:∀a w,hx a w->K' a w)(hq:∀y a w,y≠ .normal->Q y a w->Q' y a w)(h:o.wpIn fr n P a w hx Q):o.wpIn fr n P a w K' Q':=by
 have adC:LetsOut Q->LetsOut Q':=fun⟨a,w,q⟩=>⟨a,w,hq _ a w (by simp) q⟩;unfold Oper.wpIn at *;refine⟨h.1,?_⟩;have hh:=h.2;generalize (o.semAt fr.round a.eval).run P w=r at *;cases r with
 |ok x w'=>
  cases x<;>simp only[Oper.uponIn]at hh⊢ <;>
   first
    |exact hk _ _ hh
    |exact⟨hh.1,CallsIn.mono hh.2 (fun e w'' he=>by cases e<;>first|exact hk _ _ he|exact hq _ _ _ (by simp) he|exact adC he)⟩
    |exact⟨hh.1,RowsIn.mono hh.2 (fun _ _ he=>hk _ _ he)⟩
    |exact⟨hh.1,RoundIn.mono hh.2 (fun e w'' he=>by cases e<;>first|exact hk _ _ he|exact hq _ _ _ (by simp) he|exact adC he)⟩
    |exact hh
 |halt x w'=>cases x<;>simp only[Oper.uponIn]at hh⊢<;>first|exact hq _ _ _ (by simp) hh|exact hh
end
abbrev mw:=FuncId->ag->I es->Nat->dS (V×I es×Nat)
def vj(cs:mw)(cf:gu):Prop:=∀f args h n,fZ (cs f args h n) (pJ (cf f args h n))
section
variable(P:Program)(o:Oper)(F:I V)(h:I es)(n:Nat)
def lq:Option (ah×iX):=
 match o.op with
 | .binOp .add t x y _=>match jn F x,jn F y with
   |some (.str a),some (.str b)=>some ([a.length+b.length<=wV],.val (.str (a++b)) h n)
   |_,_=>Bg P o F h n
 | .binOp .rem t x (.tmp y) _=>match jn F x,F.get y with
   |some (.int k a),some (.int k' b)=>match decide (k=k')with
    |true=>some ([b≠0],.val (.int k (a.tmod b)) h n)
    |false=>none
   |_,_=>Bg P o F h n
 | .indexAddr t x (.tmp i)=>match jn F x,F.get i with
   |some (.ptr (some (m,off))),some (.int _ ix)=>match P.underlying t with
    |some (.array len e)=>match kE P e with
     |some s=>some ([0<=ix/\ix<len],.val (.ptr (some (m,off+ix.toNat*s))) h n)
     |none=>none
    |_=>Bg P o F h n
   |_,_=>Bg P o F h n
 | .makeSlice t (.tmp l) (.tmp c)=>match uM P t,F.get l,F.get c with
   |some e,some (.int _ lv),some (.int _ cv)=>match P.info? e,zeroOf P e with
    |some i,some z=>match Ge i z,newObj h n (vG z.cells (IntKind.i64.wrap cv).toNat).EE with
     |true,some (h',n')=>some ([0<=IntKind.i64.wrap lv/\IntKind.i64.wrap lv<=IntKind.i64.wrap cv/\i.bytes*IntKind.i64.wrap cv<=281474976710656],.val (.fk (some (n,0)) (IntKind.i64.wrap lv).toNat (IntKind.i64.wrap cv).toNat i.size) h' n')
     |_,_=>none
    |_,_=>none
   |_,_,_=>Bg P o F h n
 |_=>Bg P o F h n
theorem iL{P:Program}{o:Oper}{F:I V}{h:I es}{n:Nat}{l:ah}{r:iX}(e:lq P o F h n=some (l,r))(hl:∀p∈l,p):eG P o F h n=some r:=by
 unfold lq at e;split at e
 . rename_i t x y u ho;split at e
   . rename_i a b ha U;obtain⟨rfl,rfl⟩:=gr e;have jJ:=hl _ (aI.2 rfl);unfold eG;rw[ho];simp only[ha,U];unfold Ck O8;simp only[aF jJ,kK]
   . exact sF e hl
 . rename_i t x y yt ho;split at e
   . rename_i k a k' b K hy;split at e
     . rename_i hk;have hk:=aZ hk;subst hk;obtain⟨rfl,rfl⟩:=gr e;have U:b≠0:=hl _ (aI.2 rfl);have hy':jn F (.tmp y)=some (.int k b):=hy;have:Ck P .rem t x (.tmp y) (.int k a) (.int k b)=some (.int k (a.tmod b)):=by
        simp[Ck,binOp,Op.intDiv,U,sZ,jk];rfl
       simp only[eG,ho,K,hy',this,kK]
     . cases e
   . exact sF e hl
 . rename_i t x i ho;split at e
   . rename_i m off k ix K hi;split at e
     . rename_i len el hu;split at e
       . rename_i sz hs;obtain⟨rfl,rfl⟩:=gr e;have Gg:=hl _ (aI.2 rfl);have jX:jn F (.tmp i)=some (.int k ix):=hi;unfold eG;rw[ho];simp only[K,jX];unfold mL;simp only[hu,hs,aF Gg,kK]
       . cases e
     . exact sF e hl
   . exact sF e hl
 . rename_i t l1 c1 ho;split at e
   . rename_i el k1 lv k2 cv he h1 C;split at e
     . rename_i i z hi hz;split at e
       . rename_i h' n' U hn;obtain⟨rfl,rfl⟩:=gr e;simp only[Ge,ay,aU]at U;have Gg:=hl _ (aI.2 rfl);have oU:jn F (.tmp l1)=some (.int k1 lv):=h1;have AU:jn F (.tmp c1)=some (.int k2 cv):=C;unfold eG;rw[ho];simp only[oU,AU];unfold nR;simp only[he,hi,hz];rw[aF ⟨U.1,U.2.2,Gg.1,Gg.2.1,Gg.2.2⟩];simp only[hn]
       . cases e
     . cases e
   . exact sF e hl
 . exact sF e hl
def dU(cs:ai)(o size:Nat):ai:=(cs.drop o).take size
def D.Bz:D:=.bool false
def Db(t:TypeId)(cs:ai)(off:Nat):Option (Prop×V):=match HN P t with
 |some false=>some (off<cs.length,(cs.getD off D.Bz).kx)
 |some true=>match kE P t with
  |some sz=>some (off+sz<=cs.length,.agg (D.gk (dU cs off sz)))
  |none=>none
 |none=>none
theorem IW{P:Program}{t:TypeId}{cs:ai}{off:Nat}{p:Prop}{v:V}(e:Db P t cs off=some (p,v))(hp:p):lp P t (D.gk cs) off=some v:=by
 unfold Db at e;split at e
 . rename_i Yi;obtain⟨rfl,rfl⟩:=gr e;simp only[lp,Yi,D.gy,bD,au hp,bz,ax,cA]
 . rename_i Yi;split at e
   . rename_i sz hs;obtain⟨rfl,rfl⟩:=gr e;simp only[lp,Yi,hs,cut,D.gy,bM,aF hp,bz,dU,dh,List.map_drop]
   . cases e
 . cases e
def Ad(t:TypeId)(h:I es)(v:V)(m o:Nat)(cs:ai):Option (ah×I es):=
 match kE P t,iQ v.cells with
 |some s,some new=>match Nat.beq v.cells.length s&&(Nat.blt 0 s&&Nat.blt m gO)with
  |true=>some ([o+s<=cs.length],h.set m (some (.deep (qL cs o new))))
  |false=>none
 |_,_=>none
theorem Gh{P:Program}{t:TypeId}{h h':I es}{v:V}{m o:Nat}{cs:ai}{hc:ah}(L:h.get m=some (.deep cs))(e:Ad P t h v m o cs=some (hc,h'))(hA:∀a∈hc,a):storeAt P t h v (.ptr (some (m,o)))=some h':=by
 unfold Ad at e;split at e
 . rename_i s new h1 C;split at e
   . rename_i U;obtain⟨rfl,rfl⟩:=gr e;simp only[ay]at U;have h3:=aJ U.1;have h4:0<s:=aE U.2.1;have h5:m<gO:=aE U.2.2;have h6:o+s<=cs.length:=hA _ (by simp);simp only[storeAt,L,h1,C];rw[aF ⟨h3,h4,h5⟩,aF h6]
   . cases e
 . cases e
def qA(Bz:Nat)(y:Nat):Option V->Option (ah×Nat)
 |none=>some ([],Bz)
 |some (.int _ i)=>some ([0<=i/\i<=y],i.toNat)
 |some _=>none
theorem oO{Bz y r:Nat}{o:Option V}{hc:ah}(e:qA Bz y o=some (hc,r))(hA:∀a∈hc,a):fB Bz y o=some r:=by
 unfold qA at e;split at e
 . simp only[aq,aB]at e;obtain⟨_,rfl⟩:=e;rfl
 . obtain⟨rfl,rfl⟩:=gr e;simp only[fB,aF (hA _ (aI.2 rfl))]
 . cases e
def Ae(s:Nat)(f:Bool)(len:Nat)(cs:ai)(lo hi mx:Option V):Option (ah×V):=
 match mx with
 |none=>match qA len len hi with
  |some (hc,h)=>match qA 0 h lo with
   |some (aj,l)=>some ((cs.length=len*s)::(hc++aj),.eM (f&& !hi.isSome) (h-l) (dU cs (l*s) ((h-l)*s)))
   |none=>none
  |none=>none
 |some mv=>match qA len len (some mv),hi with
  |some (h2,m),some hv=>match qA len m (some hv)with
   |some (hc,h)=>match qA 0 h lo with
    |some (aj,l)=>some ((cs.length=len*s)::(h=m)::(h2++(hc++aj)),.eM true (h-l) (dU cs (l*s) ((h-l)*s)))
    |none=>none
   |none=>none
  |_,_=>none
theorem Gi{P:Program}{t el:TypeId}{s len:Nat}{f:Bool}{cs:ai}{lo hi mx:Option V}{h:I es}{hc:ah}{v:V}(hu:P.underlying t=some (.slice el))(hs:kE P el=some s)
  (e:Ae s f len cs lo hi mx=some (hc,v)) (hA:∀a∈hc,a):mK P t h (.eM f len cs) lo hi mx=some v:=by
 unfold Ae at e;split at e
 . split at e
   case h_2=>cases e
   rename_i A1 hh h1;split at e
   case h_2=>cases e
   rename_i B1 l C;obtain⟨rfl,rfl⟩:=gr e;have k1:=oO h1 fun a ha=>hA a (by simp[ha]);have k2:=oO C fun a ha=>hA a (by simp[ha]);have k3:cs.length=len*s:=hA _ (by simp);unfold mK;rw[aD (by simp)];simp only[hu,hs,aF k3,k1,k2,dU]
 . split at e
   case h_2=>cases e
   rename_i h2 m hv h0;split at e
   case h_2=>cases e
   rename_i A1 hh h1;split at e
   case h_2=>cases e
   rename_i B1 l C;obtain⟨rfl,rfl⟩:=gr e;have k0:=oO h0 fun a ha=>hA a (by simp[ha]);have k1:=oO h1 fun a ha=>hA a (by simp[ha]);have k2:=oO C fun a ha=>hA a (by simp[ha]);have k3:cs.length=len*s:=hA _ (by simp);have k4:hh=m:=hA _ (by simp);unfold mK;rw[aD (by simp)];simp only[hu,hs,aF k3,k0,k1,k2,aF k4,dU]
def Qa(t:TypeId):Bool:=match P.underlying t with
 |some (.slice _)=>true
 |_=>false
def KF:Option (ah×iX):=
 match o.op with
 | .load t a=>match jn F a with
   |some (.ptr (some (m,off)))=>match h.get m with
    |some (.deep cs)=>match Db P t cs off with
     |some (p,v)=>some ([p],.val v h n)
     |none=>none
    |_=>lq P o F h n
   |_=>lq P o F h n
 | .store t a x=>match jn F a,jn F x with
   |some (.ptr (some (m,off))),some v=>match h.get m with
    |some (.deep cs)=>match Ad P t h v m off cs with
     |some (hc,h')=>some (hc,.val (.gK []) h' n)
     |none=>none
    |_=>lq P o F h n
   |_,_=>lq P o F h n
 | .indexAddr t x i=>match jn F x,jn F i with
   |some (.eM _ len cs),some (.int _ ix)=>match vh P t with
    |some s=>some ([0<=ix/\ix<len,cs.length=len*s],.val (.eo (dU cs (ix.toNat*s) s)) h n)
    |none=>none
   |some (.eo cs),some (.int _ ix)=>match P.underlying t with
    |some (.array len e)=>match kE P e with
     |some s=>some ([0<=ix/\ix<len],.val (.eo (cs.drop (ix.toNat*s))) h n)
     |none=>none
    |_=>lq P o F h n
   |_,_=>lq P o F h n
 | .slice t x lo hi mx=>match jn F x with
   |some (.eM f len cs)=>match vh P t,mM F lo,mM F hi,mM F mx with
    |some s,some lo,some hi,some mx=>match Ae s f len cs lo hi mx with
     |some (hc,v)=>some (hc,.val v h n)
     |none=>none
    |_,_,_,_=>none
   |_=>lq P o F h n
 | .convert L4 dst x=>match jn F x with
   |some (.fk (some (m,off)) len _ lz)=>match uN (h.get m)with
    |some s0=>match P.underlying L4,P.underlying dst,Nat.beq lz 1 with
     |some (.slice e),some .string,true=>match P.underlying e with
      |some (.int .u8)=>some ([off+len<=s0.length],.val (.str ((s0.drop off).take len)) h n)
      |_=>none
     |_,_,_=>none
    |none=>match AN (h.get m)with
    |some W=>match P.underlying L4,P.underlying dst,Nat.beq lz 1 with
     |some (.slice e),some .string,true=>match P.underlying e with
      |some (.int .u8)=>some ([off+len<=W.length],.val (.str (nQ ((W.drop off).take len))) h n)
      |_=>none
     |_,_,_=>none
    |none=>lq P o F h n
   |_=>lq P o F h n
 | .call c=>match c.callee,uS F c.args.toList with
   | .builtin .unsafeSliceData,some [.fk (some (m,off)) _ kg _]=>some ([0<kg],.val (.ptr (some (m,off))) h n)
   | .builtin .unsafeString,some [.ptr (some (m,0)),.int .i64 l]=>match c.argTypes[0]? with
     |some pt=>match P.underlying pt,h.get m with
      |some (.pointer e),some (.wh el _ s)=>match decide (el=e)&&(Nat.beq (P.cellsOf e) 1&&(Nat.blt m gO&&Nat.beq c.argTypes.size 2))with
       |true=>some ([l=s.length/\0<s.length,s.length<=wV],.val (.str s) (h.set m (some (.wh el true s))) n)
       |false=>none
      |_,_=>none
     |none=>none
   |_,_=>lq P o F h n
 | .binOp .eql t x y _=>match jn F x,jn F y with
   |some (.eM _ k _),some (.fk none _ _ _)=>match Qa P t with
    |true=>some ([0<k],.val (.bool false) h n)
    |false=>none
   |_,_=>lq P o F h n
 | .mapEntry t m k=>match jn F m,jn F k with
   |some (.map (some r)),some kv=>match P.underlying t,h.get r with
    |some (.map kt et),some (.oW kk O)=>match P.underlying kt,zeroOf P et,keyOf kv with
     |some kd,some z,some k0=>match V.J2 z,lJ kd kk&&(gS kk k0&&Nat.blt r gO)with
      |some z0,true=>some ([fL k0 O=none],.val (.gK [z,.int .i64 O.length]) (h.set r (some (.oW kk (O++[(k0,z0)])))) n)
      |_,_=>none
     |_,_,_=>none
    |_,_=>lq P o F h n
   |_,_=>lq P o F h n
 | .entryStore _ m st v=>match jn F m,jn F st,jn F v with
   |some (.map (some r)),some (.int _ b),some vv=>match h.get r with
    |some (.oW kk O)=>match V.J2 vv,Nat.blt r gO with
     |some v0,true=>some ([0<=b/\b<O.length],.val (.gK []) (h.set r (some (.oW kk (iY O b.toNat fun e=>(e.1,v0))))) n)
     |_,_=>none
    |_=>lq P o F h n
   |_,_,_=>lq P o F h n
 |_=>lq P o F h n
theorem T8{P:Program}{d:Nat}{t el:TypeId}{f:Bool}{k l c e:Nat}{cs:ai}(hu:P.underlying t=some (.slice el)):EF P (d+1) t (.eM f (k+1) cs) (.fk none l c e)=some false:=by
 simp only[EF,hu]
theorem NU{P:Program}{o:Oper}{F:I V}{h:I es}{n:Nat}{l:ah}{r:iX}(e:KF P o F h n=some (l,r))(hl:∀p∈l,p):eG P o F h n=some r:=by
 unfold KF at e;split at e
 . rename_i t a ho;split at e
   . rename_i m off ha;split at e
     . rename_i cs L;split at e
       . rename_i p v hs;obtain⟨rfl,rfl⟩:=gr e;have hp:p:=hl _ (aI.2 rfl);simp only[eG,ho,ha,loadAt,L,IW hs hp,kK]
       . cases e
     . exact iL e hl
   . exact iL e hl
 . rename_i t a x ho;split at e
   . rename_i m off v ha K;split at e
     . rename_i cs L;split at e
       . rename_i hc h' hs;obtain⟨rfl,rfl⟩:=gr e;simp only[eG,ho,ha,K,Gh L hs hl]
       . cases e
     . exact iL e hl
   . exact iL e hl
 . rename_i t x i ho;split at e
   . rename_i f len cs k ix K hi;split at e
     . rename_i s hs;obtain⟨rfl,rfl⟩:=gr e;obtain⟨el,h1,C⟩:=pU hs;have k1:=hl _ (bB ..);have k2:=hl _ (bh _ (aI.2 rfl));simp only[eG,ho,K,hi,mL,h1,C,kK];rw[aF ⟨k1,k2⟩];rfl
     . cases e
   . rename_i cs k ix K hi;split at e
     . rename_i len el h1;split at e
       . rename_i s C;obtain⟨rfl,rfl⟩:=gr e;have k1:=hl _ (aI.2 rfl);simp only[eG,ho,K,hi,mL,h1,C,kK];rw[aF k1]
       . cases e
     . exact iL e hl
   . exact iL e hl
 . rename_i t x lo hi mx ho;split at e
   . rename_i f len cs K;split at e
     . rename_i s lov hiv mxv hs h1 C h3;split at e
       . rename_i hc v hv;obtain⟨rfl,rfl⟩:=gr e;obtain⟨el,k1,k2⟩:=pU hs;simp only[eG,ho,K,h1,C,h3,Gi k1 k2 hv hl,kK]
       . cases e
     . cases e
   . exact iL e hl
 . rename_i L4 dst x ho;split at e
   . rename_i m off len cp lz K;split at e
     . rename_i s0 Ki;split at e
       . rename_i el h1 C h3;split at e
         . rename_i h4;obtain⟨rfl,rfl⟩:=gr e;have k1:=hl _ (aI.2 rfl);simp only[eG,ho,K,o9,h1,C,h4,aF (aJ h3),Ki];rw[aF (Or.inr k1)]
         . cases e
       . cases e
     . rename_i Ki;split at e
       . rename_i W CM;split at e
         . rename_i el h1 C h3;split at e
           . rename_i h4;obtain⟨rfl,rfl⟩:=gr e;have k1:=hl _ (aI.2 rfl);simp only[eG,ho,K,o9,h1,C,h4,aF (aJ h3),Ki,CM];rw[aF (Or.inr k1)]
           . cases e
         . cases e
       . exact iL e hl
   . exact iL e hl
 . rename_i c ho;split at e
   . rename_i m off x1 kg x2 A ha;obtain⟨rfl,rfl⟩:=gr e;have k1:=hl _ (aI.2 rfl);simp only[eG,ho,wG,ha,A,lK,aF k1]
   . rename_i m l A ha;split at e
     . rename_i pt hpt;split at e
       . rename_i e0 el x1 s hp L;split at e
         . rename_i U;obtain⟨rfl,rfl⟩:=gr e;simp only[ay,aU]at U;have k1:=hl _ (bB ..);have k2:=hl _ (bh _ (aI.2 rfl));simp only[eG,ho,wG,ha,A,lK,hpt,hp,L];rw[aF ⟨k1,⟨U.1,aJ U.2.1⟩,aE U.2.2.1,aJ U.2.2.2,k2⟩]
         . cases e
       . cases e
     . cases e
   . exact iL e hl
 . rename_i t x y _ ho;split at e
   . rename_i f k cs z1 z2 z3 K hy;split at e
     . rename_i hq;obtain⟨rfl,rfl⟩:=gr e;have k1:0<k:=hl _ (aI.2 rfl);obtain⟨k',rfl⟩:∃k',k=k'+1:=⟨k-1,S⟩;unfold Qa at hq;split at hq
       . rename_i el hu;simp only[eG,ho,K,hy,Ck,Ec,T8 (d:=9999) hu,bz,kK]
       . cases hq
     . cases e
   . exact iL e hl
 . rename_i t m k ho;split at e
   . rename_i r kv L hk;split at e
     . rename_i kt et kk O hu hr;split at e
       . rename_i kd z k0 hkd hz Nn;split at e
         . rename_i z0 L6 U;simp only[ay]at U;obtain⟨rfl,rfl⟩:=gr e;have k1:=hl _ (aI.2 rfl);have fj:r<gO:=aE U.2.2;simp only[eG,ho,L,hk,vI,hu,hr,hkd,hz,Nn,L6,k1];rw[aF (by simp only[ay,aU];exact⟨U.1,U.2.1,fj⟩)]
         . cases e
       . cases e
     . exact iL e hl
   . exact iL e hl
 . rename_i x1 m st v ho;split at e
   . rename_i r x2 b vv L hs hv;split at e
     . rename_i kk O hr;split at e
       . rename_i v0 PB U;obtain⟨rfl,rfl⟩:=gr e;have k1:=hl _ (aI.2 rfl);have fj:r<gO:=aE U;simp only[eG,ho,L,hs,hv,qN,hr,PB];rw[aF ⟨fj,k1⟩]
       . cases e
     . exact iL e hl
   . exact iL e hl
 . exact iL e hl
def NV:dS iX:=match KF P o F h n with
 |some (l,r)=>some [(⟨[],[],l⟩,r)]
 |none=>none
theorem tH:fZ (NV P o F h n) (eG P o F h n):=by
 intro l e;unfold NV at e;split at e
 . rename_i a r hs;obtain rfl:=eZ e;refine⟨⟨_,aI.2 rfl,fun c A=>by simp at A⟩,fun e he _ hg=>?_⟩;simp only[aI]at he;subst he;exact NU hs hg.2
 . cases e
end
section
variable(P:Program)(cs:mw)(cf:gu)(dG:List (Nat×mH))
def NW(ops:Array Oper):List Oper->St->dS (fm×St)
 | [],s=>.ret (.normal,s)
 |o::rest,s=>
  match gq ops o s.F with
  |some false=>match jR s.F o.dst (.gK [])with
   |some F=>NW ops rest { s with F:=F }
   |none=>none
  |some true=>(NV P o s.F s.h s.n).then fun r=>match r with
   | .val v h n=>(KE dG o.dst v).then fun v=>match jR s.F o.dst v with
     |some F=>NW ops rest { s with F:=F,h:=h,n:=n }
     |none=>none
   | .call f args=>(cs f args s.h s.n).then fun q=>(KE dG o.dst q.1).then fun v=>match jR s.F o.dst v with
     |some F=>NW ops rest { s with F:=F,h:=q.2.1,n:=q.2.2 }
     |none=>none
   |_=>none
  |none=>none
theorem tJ(qH:vj cs cf)(ops:Array Oper):∀(l:List Oper) (s:St),fZ (NW P cs dG ops l s) (jI P cf ops l s)
 | [],s=>.ret _
 |o::rest,s=>by
  simp only[NW,jI];rcases gq ops o s.F with _|(_|_)
  . exact .none _
  . cases jR s.F o.dst (.gK [])with
    |none=>exact .none _
    |some F=>exact tJ qH ops rest _
  . refine qz (fZ.then (tH P o s.F s.h s.n) (g:=fun r=>match r with
     | .val v h n=>match jR s.F o.dst v with
       |some F=>jI P cf ops rest { s with F:=F,h:=h,n:=n }
       |none=>none
     | .call f args=>(pJ (cf f args s.h s.n)).bind fun q=>match jR s.F o.dst q.1 with
       |some F=>jI P cf ops rest { s with F:=F,h:=q.2.1,n:=q.2.2 }
       |none=>none
     |_=>none) (fun r=>?_)) ?_
    . cases r with
      |val v h n=>
       refine(fZ.then (qy dG o.dst v) (g:=fun v=>match jR s.F o.dst v with
        |some F=>jI P cf ops rest { s with F:=F,h:=h,n:=n }
        |none=>none) (fun v=>?_)).of_eq rfl
       cases jR s.F o.dst v with
       |none=>exact .none _
       |some F=>exact tJ qH ops rest _
      |call f args=>
       refine fZ.then (qH f args s.h s.n) (fun q=>?_);refine(fZ.then (qy dG o.dst q.1) (g:=fun v=>match jR s.F o.dst v with
        |some F=>jI P cf ops rest { s with F:=F,h:=q.2.1,n:=q.2.2 }
        |none=>none) (fun v=>?_)).of_eq rfl
       cases jR s.F o.dst v with
       |none=>exact .none _
       |some F=>exact tJ qH ops rest _
      |uy f c args=>exact .none _
      |recover=>exact .none _
      |panic v=>exact .none _
    . intro a ha;cases hs:eG P o s.F s.h s.n with
      |none=>rw[hs]at ha;cases ha
      |some r=>
       rw[hs]at ha;cases r with
       |call f args=>
        simp only[tE]at ha ⊢;cases hj:cf f args s.h s.n with
        |none=>rw[hj]at ha;cases ha
        |some q=>
         rw[hj]at ha;obtain⟨sV,h,n⟩:=q;cases sV with
         |ret v=>exact ha
         |nI v=>cases ha
       |val v h n=>exact ha
       |_=>cases ha
section
variable(N i:Nat)(o:Oper)(F:I V)
def Mi(v:V)(x:I es):dS Unit:=
 (NV P o F x (N+i)).then fun r=>match r with
  | .val u _ k=>match Nat.beq k (N+i)&&v.qS with
    |true=>some [(⟨[],[(u,v)],[]⟩,())]
    |false=>none
  |_=>none
theorem Bh(v:V)(x:I es):fZ (Mi P N i o F v x) (if mQ P N i o F v x=true then some ()else none):=by
 unfold Mi;refine(fZ.then (tH P o F x (N+i)) (g:=fun r=>if(match r with | .val u _ k=>Nat.beq k (N+i)&&V.beq u v|_=>false)=true then some ()else none) (fun r=>?_)).of_eq ?_
 . cases r with
   |val u h k=>
    simp only;split
    . rename_i U;simp only[ay]at U;intro l e;obtain rfl:=eZ e;refine⟨⟨_,aI.2 rfl,fun c A=>by simp at A⟩,fun e he _ hg=>?_⟩;simp only[aI]at he;subst he;have:u=v:=hg.1 (u,v) (aI.2 rfl);subst this;rw[aF (by rw[U.1,V.beq_refl u U.2];rfl)]
    . exact .none _
   |_=>exact .none _
 . unfold mQ;cases eG P o F x (N+i)with
   |none=>rfl
   |some r=>cases r<;>rfl
end
def IX(N i:Nat)(o:Oper)(F:I V)(v:V)(dM:af)(iM:Nat):List (Nat×Nat×I es)->dS Unit
 | []=>.ret ()
 |(e,m,x)::r=>match eT iM e with
  |true=>.ret ()
  |false=>(Mi P N i o F v (gX N dM m x iM)).then fun _=>IX N i o F v dM iM r
theorem Bi(N i:Nat)(o:Oper)(F:I V)(v:V)(dM:af)(iM:Nat):∀l:List (Nat×Nat×I es),fZ (IX P N i o F v dM iM l) (if qe P N i o F v dM iM l=true then some ()else none)
 | []=>(fZ.ret ()).of_eq rfl
 |(e,m,x)::r=>by
  simp only[IX,qe];rcases Bool.eq_false_or_eq_true (eT iM e)with U|U
  . simp only[U,if_true];exact .ret ()
  . simp only[U,aM,cI];refine(fZ.then (Bh P N i o F v _) (fun _=>Bi N i o F v dM iM r)).of_eq ?_;cases mQ P N i o F v (gX N dM m x iM)<;>cases qe P N i o F v dM iM r<;>rfl
def Dd(N:Nat)(dM:af)(m:Nat)(x:I es):List (Nat×Nat×Oper×I V×V)->dS Unit
 | []=>.ret ()
 |(j,iM,o,F,v)::r=>match eT m j with
  |true=>Dd N dM m x r
  |false=>(Mi P N j o F v (gX N dM m x iM)).then fun _=>Dd N dM m x r
theorem tK(N:Nat)(dM:af)(m:Nat)(x:I es):∀l:List (Nat×Nat×Oper×I V×V),fZ (Dd P N dM m x l) (if pz P N dM m x l=true then some ()else none)
 | []=>(fZ.ret ()).of_eq rfl
 |(j,iM,o,F,v)::r=>by
  simp only[Dd,pz];rcases Bool.eq_false_or_eq_true (eT m j)with U|U
  . simp only[U,bY,aP];exact tK N dM m x r
  . simp only[U,bX];refine(fZ.then (Bh P N j o F v _) (fun _=>tK N dM m x r)).of_eq ?_;cases mQ P N j o F v (gX N dM m x iM)<;>cases pz P N dM m x r<;>rfl
def Gj(N i iM:Nat)(o:Oper)(s:Dr)(v:V)(h:I es)(n:Nat):dS Dr:=
 match jR s.F o.dst v with
 |some F=>(Dd P N s.dM iM h s.reads).then fun _=>
   .ret { F:=F,eX:=s.eX++[iM],cur:=(iM,h),oF:=(i,s.cur.1,s.cur.2)::s.oF,last:=some i,dM:=s.dM,reads:=s.reads,n:=n }
 |none=>none
theorem yG(N i iM:Nat)(o:Oper)(s:Dr)(v:V)(h:I es)(n:Nat):fZ (Gj P N i iM o s v h n) (kW P N i iM o s v h n):=by
 unfold Gj kW;cases jR s.F o.dst v with
 |none=>exact .none _
 |some F=>
  refine(fZ.then (tK P N s.dM iM h s.reads) (g:=fun _=>some _) (fun _=>.ret _)).of_eq ?_;cases pz P N s.dM iM h s.reads<;>rfl
def Qb(ops:Array Oper)(N i:Nat)(o:Oper)(s:Dr):dS Dr:=
 match gq ops o s.F with
 |some false=>match jR s.F o.dst (.gK [])with
  |some F=>.ret { s with F:=F,eX:=s.eX++[fH s.eX o.after.toList] }
  |none=>none
 |some true=>
  match qd o.op with
  |true=>match zI (fH s.eX o.after.toList) s.last with
   |true=>(NV P o s.F (gX N s.dM s.cur.1 s.cur.2 (fH s.eX o.after.toList)) s.n).then fun r=>match r with
    | .val v h n=>(KE dG o.dst v).then fun v=>Gj P N i (fH s.eX o.after.toList) o s v h n
    | .call f args=>(cs f args (gX N s.dM s.cur.1 s.cur.2 (fH s.eX o.after.toList)) s.n).then fun q=>(KE dG o.dst q.1).then fun v=>Gj P N i (fH s.eX o.after.toList) o s v q.2.1 q.2.2
    |_=>none
   |false=>none
  |false=>(NV P o s.F (gX N s.dM s.cur.1 s.cur.2 (fH s.eX o.after.toList)) (N+i)).then fun r=>match r with
   | .val v h k=>(KE dG o.dst v).then fun v=>match jR s.F o.dst v with
     |some F=>match Nat.beq k (N+i)with
      |true=>match oZ o.op with
       |true=>.ret { s with F:=F,eX:=s.eX++[fH s.eX o.after.toList] }
       |false=>(IX P N i o s.F v s.dM (fH s.eX o.after.toList) s.oF).then fun _=>
         .ret { s with F:=F,eX:=s.eX++[fH s.eX o.after.toList],reads:=(i,fH s.eX o.after.toList,o,s.F,v)::s.reads }
      |false=>match h.get (N+i)with
       |some b=>match b.wr with
        |true=>.ret { s with F:=F,eX:=s.eX++[fH s.eX o.after.toList],dM:=(i,b)::s.dM }
        |false=>none
       |none=>none
     |none=>none
   |_=>none
 |none=>none
theorem IY(qH:vj cs cf)(ops:Array Oper)(N i:Nat)(o:Oper)(s:Dr):fZ (Qb P cs dG ops N i o s) (NS (mc P cf ops N i o s)):=by
 unfold Qb mc;rcases gq ops o s.F with _|(_|_)
 . exact .none _
 . cases jR s.F o.dst (.gK [])with
   |none=>exact .none _
   |some F=>exact(fZ.ret _).of_eq rfl
 . cases qd o.op with
   |true=>
    rcases Bool.eq_false_or_eq_true (zI (fH s.eX o.after.toList) s.last)with U|U
    rotate_left
    . simp only[U];exact .none _
    . simp only[U,if_true];refine(fZ.then (tH P o s.F _ s.n) (g:=fun r=>match r with
       | .val v h n=>kW P N i (fH s.eX o.after.toList) o s v h n
       | .call f args=>(pJ (cf f args (gX N s.dM s.cur.1 s.cur.2 (fH s.eX o.after.toList)) s.n)).bind fun q=>kW P N i (fH s.eX o.after.toList) o s q.1 q.2.1 q.2.2
       |_=>none) (fun r=>?_)).of_eq ?_
      . cases r with
        |val v h n=>exact(fZ.then (qy dG o.dst v) (g:=fun v=>kW P N i (fH s.eX o.after.toList) o s v h n) (fun v=>yG P N i _ o s v h n)).of_eq rfl
        |call f args=>
         refine fZ.then (qH f args _ s.n) (fun q=>?_);exact(fZ.then (qy dG o.dst q.1) (g:=fun v=>kW P N i (fH s.eX o.after.toList) o s v q.2.1 q.2.2) (fun v=>yG P N i _ o s v q.2.1 q.2.2)).of_eq rfl
        |_=>exact .none _
      . cases eG P o s.F (gX N s.dM s.cur.1 s.cur.2 (fH s.eX o.after.toList)) s.n with
        |none=>rfl
        |some r=>
         cases r with
         |val v h n=>
          simp only[tE];cases kW P N i (fH s.eX o.after.toList) o s v h n<;>rfl
         |call f args=>
          simp only[tE];cases cf f args (gX N s.dM s.cur.1 s.cur.2 (fH s.eX o.after.toList)) s.n with
          |none=>rfl
          |some q=>
           obtain⟨sV,h,n⟩:=q;cases sV with
           |ret v=>
            simp only[pJ,tE];cases kW P N i (fH s.eX o.after.toList) o s v h n<;>rfl
           |nI v=>simp only;split<;>rfl
         |_=>rfl
   |false=>
    simp only[aM,cI];have body:∀(v:V) (h:I es) (k:Nat),fZ (match jR s.F o.dst v with
      |some F=>match Nat.beq k (N+i)with
       |true=>match oZ o.op with
        |true=>dS.ret { s with F:=F,eX:=s.eX++[fH s.eX o.after.toList] }
        |false=>(IX P N i o s.F v s.dM (fH s.eX o.after.toList) s.oF).then fun _=>
          .ret { s with F:=F,eX:=s.eX++[fH s.eX o.after.toList],reads:=(i,fH s.eX o.after.toList,o,s.F,v)::s.reads }
       |false=>match h.get (N+i)with
        |some b=>match b.wr with
         |true=>dS.ret { s with F:=F,eX:=s.eX++[fH s.eX o.after.toList],dM:=(i,b)::s.dM }
         |false=>none
        |none=>none
      |none=>none) (NS (match jR s.F o.dst v with
       |some F=>
        if Nat.beq k (N+i)=true then
         if oZ o.op=true then(some (.inl { s with F:=F,eX:=s.eX++[fH s.eX o.after.toList] }):Option (Dr ⊕ (I V×V×I es×Nat)))
         else if qe P N i o s.F v s.dM (fH s.eX o.after.toList) s.oF=true then
          some (.inl { s with F:=F,eX:=s.eX++[fH s.eX o.after.toList],reads:=(i,fH s.eX o.after.toList,o,s.F,v)::s.reads })
         else ni o
        else match h.get (N+i)with
         |some b=>if b.wr=true then some (.inl { s with F:=F,eX:=s.eX++[fH s.eX o.after.toList],dM:=(i,b)::s.dM })else ni o
         |none=>ni o
       |none=>ni o)):=by
     intro v h k;cases jR s.F o.dst v with
     |none=>exact .none _
     |some F=>
      simp only;cases Nat.beq k (N+i)with
      |true=>
       simp only[if_true];cases oZ o.op with
       |true=>exact(fZ.ret _).of_eq rfl
       |false=>
        refine(fZ.then (Bi P N i o s.F v s.dM _ s.oF) (g:=fun _=>some _) (fun _=>.ret _)).of_eq ?_;simp only[aM,cI];cases qe P N i o s.F v s.dM (fH s.eX o.after.toList) s.oF<;>rfl
      |false=>
       simp only[aM,cI];cases h.get (N+i)with
       |none=>exact .none _
       |some b=>
        simp only;cases b.wr with
        |true=>exact(fZ.ret _).of_eq rfl
        |false=>exact .none _
    refine(fZ.then (tH P o s.F _ (N+i)) (g:=fun r=>match r with
     | .val v h k=>NS (match jR s.F o.dst v with
        |some F=>
         if Nat.beq k (N+i)=true then
          if oZ o.op=true then(some (.inl { s with F:=F,eX:=s.eX++[fH s.eX o.after.toList] }):Option (Dr ⊕ (I V×V×I es×Nat)))
          else if qe P N i o s.F v s.dM (fH s.eX o.after.toList) s.oF=true then
           some (.inl { s with F:=F,eX:=s.eX++[fH s.eX o.after.toList],reads:=(i,fH s.eX o.after.toList,o,s.F,v)::s.reads })
          else ni o
         else match h.get (N+i)with
          |some b=>if b.wr=true then some (.inl { s with F:=F,eX:=s.eX++[fH s.eX o.after.toList],dM:=(i,b)::s.dM })else ni o
          |none=>ni o
        |none=>ni o)
     |_=>none) (fun r=>?_)).of_eq ?_
    . cases r with
      |val v h k=>exact(fZ.then (qy dG o.dst v) (g:=fun v=>NS (match jR s.F o.dst v with
        |some F=>
         if Nat.beq k (N+i)=true then
          if oZ o.op=true then(some (.inl { s with F:=F,eX:=s.eX++[fH s.eX o.after.toList] }):Option (Dr ⊕ (I V×V×I es×Nat)))
          else if qe P N i o s.F v s.dM (fH s.eX o.after.toList) s.oF=true then
           some (.inl { s with F:=F,eX:=s.eX++[fH s.eX o.after.toList],reads:=(i,fH s.eX o.after.toList,o,s.F,v)::s.reads })
          else ni o
         else match h.get (N+i)with
          |some b=>if b.wr=true then some (.inl { s with F:=F,eX:=s.eX++[fH s.eX o.after.toList],dM:=(i,b)::s.dM })else ni o
          |none=>ni o
        |none=>ni o)) (fun v=>body v h k)).of_eq rfl
      |_=>exact .none _
    . cases eG P o s.F (gX N s.dM s.cur.1 s.cur.2 (fH s.eX o.after.toList)) (N+i)with
      |none=>rfl
      |some r=>cases r<;>rfl
def Gk(ops:Array Oper)(N:Nat):List Oper->Nat->Dr->dS Dr
 | [],_,s=>.ret s
 |o::r,i,s=>(Qb P cs dG ops N i o s).then fun T=>Gk ops N r (i+1) T
theorem yH(qH:vj cs cf)(ops:Array Oper)(N:Nat):∀(l:List Oper) (i:Nat) (s:Dr),fZ (Gk P cs dG ops N l i s) (NS (jf P cf ops N l i s))
 | [],i,s=>(fZ.ret s).of_eq rfl
 |o::r,i,s=>by
  simp only[Gk,jf];refine(fZ.then (IY P cs cf dG qH ops N i o s) (fun T=>yH qH ops N r (i+1) T)).of_eq ?_;cases mc P cf ops N i o s with
  |none=>rfl
  |some q=>cases q<;>rfl
def lC(fr:Nat):Code->St->dS (fm×St)
 | .region _ ops false,s=>NW P cs dG ops ops.toList s
 | .region _ ops true,s=>match decide (s.n+ops.size<gO)with
   |true=>(Gk P cs dG ops s.n ops.toList 0 { F:=s.F,eX:=[],cur:=(0,s.h),oF:=[],last:=none,dM:=[],reads:=[],n:=s.n+ops.size }).then fun d=>
     .ret (.normal,{ F:=d.F,h:=gX s.n d.dM d.cur.1 d.cur.2 (2^ops.size-1),n:=d.n,iZ:=s.iZ })
   |false=>none
 | .seq a b,s=>(lC fr a s).then fun p=>match p.1 with
   | .normal=>lC fr b p.2
   |_=>.ret p
 | .cond c a b,s=>match jn s.F c with
   |some (.bool true)=>lC fr a s
   |some (.bool false)=>lC fr b s
   |_=>none
 | .block id body,s=>(lC fr body s).then fun p=>match p.1 with
   | .exit id'=>if id'=id then .ret (.normal,p.2)else .ret p
   |_=>.ret p
 | .loop body,s=>BY (lC fr body) fr s
 | .skip,s=>.ret (.normal,s)
 | .exit id,s=>.ret (.exit id,s)
 | .ret,s=>.ret (.ret,s)
 | .rangeFunc g ps assign body,s=>match jn s.F g with
   |some (.fn (.func gf) [] lb)=>match callee P gf&&decide (s.n+1<gO)with
    |true=>(cs gf (.fn (.yield (s.n+1)) [] []::lb) ((s.h.set s.n (some .uy)).set (s.n+1) (some (.loop true none s.F ps.toList assign body))) (s.n+2)).then fun q=>match q.2.1.get s.n,q.2.1.get (s.n+1)with
     |some .uy,some (.loop true none _ _ _ _)=>.ret (.normal,{ s with h:=q.2.1.set (s.n+1) none,n:=q.2.2,iZ:=(gO,[],[.map (some s.n)])::s.iZ })
     |some .uy,some (.loop false (some .ret) _ _ _ _)=>.ret (.ret,{ s with h:=q.2.1.set (s.n+1) none,n:=q.2.2,iZ:=(gO,[],[.map (some s.n)])::s.iZ })
     |some .uy,some (.loop false (some (.exit id)) _ _ _ _)=>.ret (.exit id,{ s with h:=q.2.1.set (s.n+1) none,n:=q.2.2,iZ:=(gO,[],[.map (some s.n)])::s.iZ })
     |_,_=>none
    |false=>none
   |_=>none
 |_,_=>none
theorem kI(qH:vj cs cf)(fr:Nat):∀(c:Code) (s:St),fZ (lC P cs dG fr c s) (gY P cf fr c s):=by
 intro c
 induction c with
 |region id ops Cr=>
  intro s;cases Cr with
  |false=>exact tJ P cs cf dG qH ops ops.toList s
  |true=>
   simp only[lC,gY,drawn];by_cases fj:s.n+ops.size<gO
   . simp only[aW fj,aF fj];refine qz (fZ.then (yH P cs cf dG qH ops s.n ops.toList 0 _) (g:=fun d=>some (.normal,{ F:=d.F,h:=gX s.n d.dM d.cur.1 d.cur.2 (2^ops.size-1),n:=d.n,iZ:=s.iZ })) (fun d=>.ret _)) ?_;intro d hd;cases hq:jf P cf ops s.n ops.toList 0 { F:=s.F,eX:=[],cur:=(0,s.h),oF:=[],last:=none,dM:=[],reads:=[],n:=s.n+ops.size }with
     |none=>rw[hq]at hd;cases hd
     |some q=>
      rw[hq]at hd;cases q with
      |inl d'=>simp only[NS,Option.bind_some]at hd;simp only;exact hd
      |inr _=>cases hd
   . simp only[aX fj];exact .none _
 |seq a b iha ihb=>
  intro s;simp only[lC,gY];refine(fZ.then (iha s) (g:=fun p=>match p.1 with | .normal=>gY P cf fr b p.2|_=>some p) (fun p=>?_)).of_eq ?_
  . obtain⟨x,T⟩:=p;cases x with
    |normal=>exact ihb T
    |_=>exact .ret _
  . cases gY P cf fr a s with
    |none=>rfl
    |some p=>obtain⟨x,T⟩:=p;cases x<;>rfl
 |cond c a b iha ihb=>
  intro s;simp only[lC,gY];cases jn s.F c with
  |none=>exact .none _
  |some v=>
   cases v with
   |bool t=>
    cases t with
    |true=>exact iha s
    |false=>exact ihb s
   |_=>exact .none _
 |block id c ih=>
  intro s;simp only[lC,gY];refine(fZ.then (ih s) (g:=fun p=>match p.1 with | .exit id'=>if id'=id then some (.normal,p.2)else some p|_=>some p) (fun p=>?_)).of_eq ?_
  . obtain⟨x,T⟩:=p;cases x with
    |exit j=>
     simp only;by_cases hj:j=id
     . simp only[aF hj];exact .ret _
     . simp only[aD hj];exact .ret _
    |_=>exact .ret _
  . cases gY P cf fr c s with
    |none=>rfl
    |some p=>obtain⟨x,T⟩:=p;cases x<;>rfl
 |loop c ih=>
  intro s;simp only[lC,gY];exact wN ih fr s
 |skip=>intro s;exact .ret _
 |exit id=>intro s;exact .ret _
 |ret=>intro s;exact .ret _
 |rangeFunc g ps assign body _ _=>
  intro s;simp only[lC,gY];split
  . rename_i gf lb hg;rw[hg];simp only;split
    . rename_i hq;simp only[ay,aU]at hq;rw[aF hq];refine qz (fZ.then (qH gf _ _ (s.n+2)) (g:=fun q=>match q.2.1.get s.n,q.2.1.get (s.n+1)with
       |some .uy,some (.loop true none _ _ _ _)=>some (.normal,{ s with h:=q.2.1.set (s.n+1) none,n:=q.2.2,iZ:=(gO,[],[.map (some s.n)])::s.iZ })
       |some .uy,some (.loop false (some .ret) _ _ _ _)=>some (.ret,{ s with h:=q.2.1.set (s.n+1) none,n:=q.2.2,iZ:=(gO,[],[.map (some s.n)])::s.iZ })
       |some .uy,some (.loop false (some (.exit id)) _ _ _ _)=>some (.exit id,{ s with h:=q.2.1.set (s.n+1) none,n:=q.2.2,iZ:=(gO,[],[.map (some s.n)])::s.iZ })
       |_,_=>none) (fun q=>?_)) ?_
      . split<;>first|exact .ret _|exact .none _
      . intro a ha;cases A:cf gf (.fn (.yield (s.n+1)) [] []::lb) ((s.h.set s.n (some .uy)).set (s.n+1) (some (.loop true none s.F ps.toList assign body))) (s.n+2)with
        |none=>rw[A]at ha;cases ha
        |some q=>
         rw[A]at ha;obtain⟨sV,h,n⟩:=q;cases sV with
         |nI v=>cases ha
         |ret v=>
          simp only[pJ,Option.bind_some]at ha;simp only;split at ha<;>first|(rename_i h1 C;simp only[h1,C];exact ha)|cases ha
    . exact .none _
  . exact .none _
 |_=>intro s;exact .none _
end
def vk(P:Program)(fn:Func)(F:I V):List (FuncId×ag×ag)->I es->Nat->Option (V×I es×Nat)
 | [],h,n=>match lM P F h fn.results.toList with
   |some vs=>some (oneOf vs,h,n)
   |none=>none
 |(g,_,args)::ds,h,n=>match Nat.ble gO g with
  |true=>match args with
   | [.map (some b)]=>match h.get b with
     |some .uy=>match Nat.blt b gO with
      |true=>vk P fn F ds (h.set b none) n
      |false=>none
     |_=>none
   |_=>none
  |false=>none
theorem sG{P:Program}{cf:gu}{fr:Nat}{fn:Func}{F:I V}:∀{ds:List (FuncId×ag×ag)} {h:I es} {n:Nat} {r:V×I es×Nat},vk P fn F ds h n=some r->nj P cf fr fn F ds .ret h n=some (.ret r.1,r.2.1,r.2.2)
 | [],h,n,r,e=>by
   unfold vk at e;unfold nj;split at e
   . rename_i vs hv;obtain rfl:=eZ e;rw[hv]
   . cases e
 |(g,c,args)::ds,h,n,r,e=>by
  unfold vk at e;unfold nj;split at e
  case h_2=>cases e
  rename_i hg;rw[aF (aE hg)];split at e
  case h_2=>cases e
  rename_i b;simp only;split at e
  case h_2=>cases e
  rename_i U;rw[U];simp only;split at e
  case h_2=>cases e
  rename_i fj;rw[aF (show b<gO from aE fj)];exact sG e
abbrev gG:=FuncId->ag->I es->Nat->Option (ah×V×I es×Nat)
def fo(P:Program)(dF:gG):Prop:=∀f args h n hc v h' n',dF f args h n=some (hc,v,h',n')->f<P.funcs.size/\((∀a∈hc,a)->
 ∀E w dZ,eK E args dZ->Good E h w->qK E n->callee P f=true->Calls P f dZ.toArray w (jx E h n w (.ret v) h' n'))
def ew:gG:=fun _ _ _ _=>none
section
variable(P:Program)(f:FuncId)(spec:ag->I es->Nat->Option (ah×V×I es×Nat))
theorem be:fo P ew:=fun _ _ _ _ _ _ _ _ e=>by cases e
def jC(dF:gG):gG:=fun g args h n=>match Nat.beq g f with
 |true=>match spec args h n with
  |some r=>some r
  |none=>dF g args h n
 |false=>dF g args h n
def jM:Prop:=f<P.funcs.size/\∀args h n hc v h' n',spec args h n=some (hc,v,h',n')->(∀a∈hc,a)->
 ∀E w dZ,eK E args dZ->Good E h w->qK E n->callee P f=true->Calls P f dZ.toArray w (jx E h n w (.ret v) h' n')
theorem fq{P:Program}{f:FuncId}{spec:ag->I es->Nat->Option (ah×V×I es×Nat)}{dF:gG}(hp:jM P f spec)(hS:fo P dF):fo P (jC f spec dF):=by
 intro g args h n hc v h' n' e;unfold jC at e;split at e
 . rename_i hg;have hg:=aJ hg;subst hg;split at e
   . rename_i r hr;cases e;exact⟨hp.1,hp.2 args h n hc v h' n' hr⟩
   . exact hS g args h n hc v h' n' e
 . exact hS g args h n hc v h' n' e
def T9(fn:Func)(p:fm×St):dS (V×I es×Nat):=match p.1 with
 | .normal=>match vk P fn p.2.F p.2.iZ p.2.h p.2.n with
   |some r=>.ret r
   |none=>none
 | .ret=>match vk P fn p.2.F p.2.iZ p.2.h p.2.n with
   |some r=>.ret r
   |none=>none
 |_=>none
end
def KG(P:Program)(cs:mw)(dG:List (Nat×mH))(fr:Nat)(f:FuncId)(args:ag)(h:I es)(n:Nat):dS (V×I es×Nat):=
 match P.funcs[f]? with
 |some fn=>match fn.body with
  |some code=>match Nat.ble args.length fn.ntmps&&Nat.blt fn.ntmps gO with
   |true=>(lC P cs dG fr code (dI args h n)).then (T9 P fn)
   |false=>none
  |none=>none
 |none=>none
theorem Gl{P:Program}{cs:mw}{cf:gu}(qH:vj cs cf)(dG:List (Nat×mH))(fr:Nat)(f:FuncId)(args:ag)(h:I es)(n:Nat):fZ (KG P cs dG fr f args h n) (pJ (enter P cf fr f args h n)):=by
 unfold KG enter;split
 . rename_i fn hf;rw[hf];simp only;split
   . rename_i code U;rw[U];simp only;split
     . rename_i hq;simp only[ay]at hq;have hq':args.length<=fn.ntmps/\fn.ntmps<gO:=⟨aE hq.1,aE hq.2⟩;rw[aF hq'];refine qz (fZ.then (kI P cs cf dG qH fr code (dI args h n)) (g:=fun p=>match p.1 with
        | .normal=>pJ (nj P cf fr fn p.2.F p.2.iZ .ret p.2.h p.2.n)
        | .ret=>pJ (nj P cf fr fn p.2.F p.2.iZ .ret p.2.h p.2.n)
        |_=>none) (fun p=>?_)) ?_
       . obtain⟨x,s⟩:=p;unfold T9;cases x with
         |normal=>
          simp only;split
          . rename_i r hr;refine(fZ.ret r).of_eq ?_;rw[sG hr];rfl
          . exact .none _
         |ret=>
          simp only;split
          . rename_i r hr;refine(fZ.ret r).of_eq ?_;rw[sG hr];rfl
          . exact .none _
         |_=>exact .none _
       . intro a ha;change ((gY P cf fr code { F:=mE args 0 .nil,h:=h,n:=n,iZ:=[] }).bind _)=some a at ha;cases K:gY P cf fr code { F:=mE args 0 .nil,h:=h,n:=n,iZ:=[] }with
         |none=>rw[K]at ha;cases ha
         |some p=>
          rw[K]at ha;obtain⟨x,s⟩:=p;cases x<;>first|exact ha|cases ha
     . exact .none _
   . exact .none _
 . exact .none _
def KH(P:Program)(cs:mw)(dG:List (Nat×mH))(fr m:Nat)(args:ag)(h:I es)(n:Nat):dS (V×I es×Nat):=
 match h.get m with
 |some (.loop true none F ps assign body)=>match(Nat.blt m gO&&Nat.beq ps.length args.length)&&(kB assign&&kB body)with
  |true=>match wX (J6 ps args) F with
   |some L5=>(lC P cs dG fr assign { F:=L5,h:=h.set m none,n:=n,iZ:=[] }).then fun p=>match p.1 with
    | .normal=>(lC P cs dG fr body p.2).then fun q=>match q.1 with
      | .normal=>.ret (.bool true,q.2.h.set m (some (.loop true none F ps assign body)),q.2.n)
      | .ret=>.ret (.bool false,q.2.h.set m (some (.loop false (some .ret) F ps assign body)),q.2.n)
      | .exit id=>.ret (.bool false,q.2.h.set m (some (.loop false (some (.exit id)) F ps assign body)),q.2.n)
      |_=>none
    |_=>none
   |none=>none
  |false=>none
 |_=>none
theorem Gm{P:Program}{cs:mw}{cf:gu}(qH:vj cs cf)(dG:List (Nat×mH))(fr m:Nat)(args:ag)(h:I es)(n:Nat):fZ (KH P cs dG fr m args h n) (pJ (wY P cf fr m args h n)):=by
 unfold KH wY;split
 . rename_i F ps assign body hg;rw[hg];simp only;split
   . rename_i hq;simp only[ay]at hq;have hq':m<gO/\ps.length=args.length/\kB assign=true/\kB body=true:=⟨aE hq.1.1,aJ hq.1.2,hq.2.1,hq.2.2⟩;rw[aF hq'];split
     . rename_i L5 rE;rw[rE];simp only;refine qz (fZ.then (kI P cs cf dG qH fr assign _) (g:=fun p=>match p.1 with
        | .normal=>(gY P cf fr body p.2).bind fun q=>match q.1 with
          | .normal=>some (.bool true,q.2.h.set m (some (.loop true none F ps assign body)),q.2.n)
          | .ret=>some (.bool false,q.2.h.set m (some (.loop false (some .ret) F ps assign body)),q.2.n)
          | .exit id=>some (.bool false,q.2.h.set m (some (.loop false (some (.exit id)) F ps assign body)),q.2.n)
          |_=>none
        |_=>none) (fun p=>?_)) ?_
       . obtain⟨x,s⟩:=p;cases x with
         |normal=>
          refine fZ.then (kI P cs cf dG qH fr body s) (fun q=>?_);obtain⟨y,s2⟩:=q;cases y<;>first|exact .ret _|exact .none _
         |_=>exact .none _
       . intro a ha;cases K:gY P cf fr assign { F:=L5,h:=h.set m none,n:=n,iZ:=[] }with
         |none=>rw[K]at ha;cases ha
         |some p=>
          rw[K]at ha;obtain⟨x,s⟩:=p;simp only[Option.bind_some]at ha;cases x with
          |normal=>
           simp only at ha ⊢;cases hy:gY P cf fr body s with
           |none=>rw[hy]at ha;cases ha
           |some q=>
            rw[hy]at ha;obtain⟨y,s2⟩:=q;cases y<;>first|exact ha|cases ha
          |_=>cases ha
     . exact .none _
   . exact .none _
 . exact .none _
def E7(P:Program)(dF:gG)(HH:FuncId->List (Nat×mH))(fr:Nat):Nat->mw
 |0=>fun _ _ _ _=>none
 |k+1=>fun f args h n=>match dF f args h n with
  |some (hc,r)=>some [(⟨[],[],hc⟩,r)]
  |none=>match Nat.blt f P.funcs.size with
   |true=>KG P (E7 P dF HH fr k) (HH f) fr f args h n
   |false=>KH P (E7 P dF HH fr k) (HH f) fr (f-P.funcs.size) args h n
open Classical in
noncomputable def De(P:Program)(dF:gG)(fr:Nat):Nat->gu
 |0=>fun _ _ _ _=>none
 |k+1=>fun f args h n=>match dF f args h n with
  |some (hc,r)=>if ∀a∈hc,a then some (.ret r.1,r.2.1,r.2.2)else none
  |none=>if f<P.funcs.size then enter P (De P dF fr k) fr f args h n else wY P (De P dF fr k) fr (f-P.funcs.size) args h n
theorem vm(P:Program)(dF:gG)(HH:FuncId->List (Nat×mH))(fr:Nat):∀k,vj (E7 P dF HH fr k) (De P dF fr k)
 |0=>fun _ _ _ _=>.none _
 |k+1=>by
  intro f args h n;simp only[E7,De];cases hS:dF f args h n with
  |some q=>
   obtain⟨hc,v,h',n'⟩:=q;intro l e;obtain rfl:=eZ e;refine⟨⟨_,aI.2 rfl,fun c A=>by simp at A⟩,fun e he _ hg=>?_⟩;simp only[aI]at he;subst he;simp only;rw[aF hg.2];rfl
  |none=>
   simp only;by_cases hf:f<P.funcs.size
   . have U:Nat.blt f P.funcs.size=true:=Nat.ble_eq_true_of_le hf;rw[U,aF hf];exact Gl (vm P dF HH fr k) (HH f) fr f args h n
   . have U:Nat.blt f P.funcs.size=false:=by
      cases hq:Nat.blt f P.funcs.size with
      |false=>rfl
      |true=>exact absurd (aE hq) hf
     rw[U,aD hf];exact Gm (vm P dF HH fr k) (HH f) fr _ args h n
theorem IZ{P:Program}{dF:gG}{fr:Nat}(L:P.follows .mixedOrders=true)(sW:kn P=true)(hS:fo P dF):∀k,iu P (De P dF fr k)
 |0=>fun _ _ _ _ _ _ _ e=>by cases e
 |k+1=>by
  intro f args h n sV h' n' e E w dZ ra g hd;simp only[De]at e;split at e
  . rename_i hc r hs;obtain⟨v,h1,n1⟩:=r;split at e
    . rename_i hA;simp only[aq,aB]at e;obtain⟨rfl,rfl,rfl⟩:=e;obtain⟨fj,Kw⟩:=hS f args h n hc v h1 n1 hs;exact⟨fun CL=>Kw hA E w dZ ra g hd CL,fun m l s hfm _=>absurd fj (by rw[hfm];exact Nat.not_lt.2 (Nat.le_add_right _ _))⟩
    . cases e
  . exact Md (fr:=fr) (IZ L sW hS k) L sW f args h n sV h' n' e E w dZ ra g hd
structure CX(P:Program) where
 cs:mw
 cf:gu
 snd:vj cs cf
 ok:iu P cf
noncomputable def CX.of{P:Program}(L:P.follows .mixedOrders=true)(sW:kn P=true){dF:gG}(hS:fo P dF)(HH:FuncId->List (Nat×mH))(fr k:Nat):CX P:=
 ⟨E7 P dF HH fr k,De P dF fr k,vm P dF HH fr k,IZ L sW hS k⟩
def TG(P:Program)(N n0:Nat)(c:Code)(s:St)(Q:Exit->St->Prop):Prop:=
 ∀(E:Env) (a:Act) (w:World) (hx:Exit->Act->World->Prop),lI E n0 s a w->N<=s.n->
  (∀y T E' a' w',Q y T->mO N E s.h w E' T.h w'->N<=T.n->lI E' n0 T a' w'->hx y a' w')->c.wp P hx a w
section
variable{P:Program}{cf:gu}{fr N n0:Nat}{c:Code}{s T:St}{Q Q1:Exit->St->Prop}
theorem qT(h:TG P N n0 c s Q1)(hq:∀y T,Q1 y T->Q y T):TG P N n0 c s Q:=fun E a w hx r hn k=>h E a w hx r hn fun y T E' a' w' q=>k y T E' a' w' (hq y T q)
theorem qU(lX:iu P cf)(L:P.follows .mixedOrders=true){x:fm}{y:Exit}(A:fe n0 c=true)(e:gY P cf fr c s=some (x,T))(K:x.plain=some y)(hq:Q y T):TG P N n0 c s Q:=by
 intro E a w hx r hn k;refine wpIn_wide (n:=0) |>.1 ?_;refine lQ (rN:=none) lX L c s x T (.inl rfl) A e E a w hx r fun E' a' w' x' u gd oy r' pS=>?_;have:x'=y:=by
  cases x<;>cases x'<;>simp only[Iw,fm.plain,aq,reduceCtorEq]at pS K<;>first|exact K|(subst pS;exact K)
 subst this;exact k _ T E' a' w' hq (.of u gd hn) (bN hn oy) r'
theorem gj{live:List Nat}{s2:St}(e:lB N live s=some s2)(h:TG P N n0 c s2 Q):TG P N n0 c s Q:=by
 intro E a w hx r hn k;obtain⟨_,qQ,E2,r2,u2⟩:=oM e r;exact h E2 a w hx r2 qQ fun y T E' a' w' q u oy r'=>k y T E' a' w' q (u2.trans u) oy r'
theorem KI{c1 c2:Code}(h:TG P N n0 c1 s (andThen (fun T=>TG P N n0 c2 T Q) Q)):TG P N n0 (.seq c1 c2) s Q:=by
 intro E a w hx r hn k;refine wp_seq (h E a w _ r hn fun y T E' a' w' q u oy r'=>?_);cases y<;>first|exact q E' a' w' hx r' oy (fun y2 s2 E2 a2 w2 q2 u2 qQ r2=>k y2 s2 E2 a2 w2 q2 (u.trans u2) qQ r2)|exact k _ T E' a' w' q u oy r'
theorem dY(hs:sB c=true)(h:TG P N n0 (dO c) s (andThen (fun T=>TG P N n0 (eB c) T Q) Q)):TG P N n0 c s Q:=by
 cases c<;>simp only[sB,aM]at hs;exact KI h
theorem kz{t:Bool}(A:KC c (fun _=>true)=true)(ho:jn s.F (WD c)=some (.bool t))(h1:t=true->TG P N n0 (l9 c) s Q)(C:t=false->TG P N n0 (pc c) s Q):TG P N n0 c s Q:=by
 cases c<;>simp only[KC,aM]at A;intro E a w hx r hn k;cases t
 . exact wp_cond_false (sw r.good.lG r.F ho) (C rfl E a w hx r hn k)
 . exact wp_cond_true (sw r.good.lG r.F ho) (h1 rfl E a w hx r hn k)
theorem fJ{i:Nat}(A:nC c i=true)(h:TG P N n0 (dP c) s (gT i Q)):TG P N n0 c s Q:=by
 cases c<;>simp only[nC,aM]at A;rename_i j b;have:=aJ A;subst this;intro E a w hx r hn k;refine wp_block (h E a w _ r hn fun y T E' a' w' q u oy r'=>?_);cases y<;>first|exact k _ T E' a' w' q u oy r'|skip
 simp only[Exit.inBlock,gT]at q ⊢;split
 . rename_i he;rw[aF he]at q;exact k _ T E' a' w' q u oy r'
 . rename_i he;rw[aD he]at q;exact k _ T E' a' w' q u oy r'
def TGR(P:Program)(N n0:Nat)(c:Code)(Q:Exit->St->Prop):Nat->St->Prop
 |0,_=>False
 |n+1,s=>TG P N n0 c s (andThen (fun T=>TGR P N n0 c Q n T) Q)
theorem Ua(n:Nat)(A:o4 c=true)(h:TGR P N n0 (dP c) Q n s):TG P N n0 c s Q:=by
 cases c<;>simp only[o4,aM]at A;rename_i b;intro E0 a w hx r hn k;refine wp_loop_rounds n ?_;have key:∀(n:Nat) (s1:St) (E:Env) (a:Act) (w1:World),TGR P N n0 b Q n s1->lI E n0 s1 a w1->N<=s1.n->mO N E0 s.h w E s1.h w1->Code.rounds P b hx n a w1:=by
  intro n
  induction n with
  |zero=>intro s1 E a w1 h;exact h.elim
  |succ n ih=>
   intro s1 E a w1 h r hn u;rw[rounds_succ];refine h E a w1 _ r hn fun y T E' a' w' q u' oy r'=>?_;cases y<;>first|exact ih T E' a' w' q r' oy (u.trans u')|exact k _ T E' a' w' q (u.trans u') oy r'
 exact key n s E0 a w h r hn (.refl r.good)
theorem j9(Tr:Nat->St->Prop)(hl:o4 c=true)(h:∀k s,Tr k s->TG P N n0 (dP c) s (andThen (fun T=>∃k',k'<k/\Tr k' T) Q))(k:Nat)(h0:Tr k s):TG P N n0 c s Q:=by
 refine Ua (k+1) hl ?_;have key:∀(k:Nat) (n:Nat) (s:St),k<n->Tr k s->TGR P N n0 (dP c) Q n s:=by
  intro k
  induction k using Nat.strongRecOn with
  |_ k ih=>
   intro n s hn hi;cases n with
   |zero=>omega
   |succ n=>
    simp only[TGR];refine qT (h k s hi) fun y T hq=>?_;cases y with
    |normal=>
     obtain⟨k',hk,jX⟩:=hq;exact ih k' hk n T S jX
    |_=>exact hq
 exact key k (k+1) s S h0
end
section
variable{P:Program}{X':CX P}{dG:List (Nat×mH)}{fr N n0:Nat}{c:Code}{s:St}{Q:Exit->St->Prop}
inductive ko where
 |to (y:Exit) (s:St)
 |ret (v:V) (h:I es) (n:Nat)
 |bad
def NX(P:Program)(N:Nat)(fn:Func)(s:St):Option (V×I es×Nat):=match vk P fn s.F s.iZ s.h s.n with
 |some (v,h,n)=>match lB N [0] { F:=I.nil.set 0 (some v),h:=h,n:=n,iZ:=[] }with
  |some s2=>match s2.F.get 0 with
   |some v2=>some (v2,s2.h,s2.n)
   |none=>none
  |none=>none
 |none=>none
def qB(P:Program)(N:Nat)(fn:Func)(live:List Nat)(p:fm×St):ko:=match p.1 with
 | .normal=>match lB N live p.2 with
   |some s=>.to .normal s
   |none=>.bad
 | .exit i=>match lB N live p.2 with
   |some s=>.to (.exit i) s
   |none=>.bad
 | .ret=>match NX P N fn p.2 with
   |some (v,h,n)=>.ret v h n
   |none=>.bad
 | .panic _=>.bad
def gi(P:Program)(N:Nat)(fn:Func)(iX:V->I es->Nat->Prop)(y:Exit)(T:St):Prop:=(y= .normal\/y= .ret)/\∃v h n,NX P N fn T=some (v,h,n)/\iX v h n
def ko.post(P:Program)(N:Nat)(fn:Func)(live:List Nat)(iX:V->I es->Nat->Prop)(Q:Exit->St->Prop):ko->Prop
 | .to y s=>∀T,lB N live T=some s->Q y T
 | .ret v h n=>iX v h n/\∀T,gi P N fn iX .ret T->Q .ret T
 | .bad=>False
theorem Qc(L:P.follows .mixedOrders=true){l:List (tB×fm×St)}(A:fe n0 c=true)(e:lC P X'.cs dG fr c s=some l)(h:∀p∈l,p.1.ok->p.1.good/\∃y,p.2.1.plain=some y/\Q y p.2.2):TG P N n0 c s Q:=by
 obtain⟨⟨p,hp,ho⟩,C⟩:=kI P X'.cs X'.cf dG X'.snd fr c s l e;obtain⟨hg,y,hy,hq⟩:=h p hp ho;exact qU (fr:=fr) X'.ok L A (C p hp ho hg) hy hq
def BI(P:Program)(cs:mw)(dG:List (Nat×mH))(fr N:Nat)(fn:Func)(live:List Nat)(c:Code)(s:St):List (List (Bool×Bool)×ah×ko):=yF (qB P N fn live) (wO (lC P cs dG fr c s))
def Bj(P:Program)(cs:mw)(dG:List (Nat×mH))(fr:Nat)(c:Code)(s:St):Bool:=(lC P cs dG fr c s).isSome
def wq(P:Program)(cs:mw)(dG:List (Nat×mH))(fr:Nat)(c:Code)(s:St):ag:=tF (wO (lC P cs dG fr c s))
def yI(P:Program)(cs:mw)(dG:List (Nat×mH))(fr:Nat)(c:Code)(s:St):ag:=xA (wO (lC P cs dG fr c s))
theorem Yk(X':CX P)(L:P.follows .mixedOrders=true)(dG:List (Nat×mH))(fr:Nat)(fn:Func)(live:List Nat)(iX:V->I es->Nat->Prop)(dD:List (List (Bool×Bool)×ah×ko))(A:fe n0 c=true)
  (e1:Bj P X'.cs dG fr c s=true) (e2:wq P X'.cs dG fr c s=yI P X'.cs dG fr c s) (e3:BI P X'.cs dG fr N fn live c s=dD)
  (h:∀g∈dD,(∀b∈g.1,b.1=b.2)->(∀a∈g.2.1,a)/\g.2.2.post P N fn live iX Q):TG P N n0 c s Q:=by
 obtain⟨l,hl⟩:=bR.1 e1;unfold wq yI at e2;unfold BI at e3;rw[hl]at e2 e3;simp only[wO]at e2 e3;refine Qc (X':=X') L A hl fun p hp ho=>?_;have hg:=h (p.1.conds,p.1.P2,qB P N fn live p.2) (e3▸oo hp) ho;refine⟨⟨tG l e2 p hp,hg.1⟩,?_⟩;obtain⟨pp,x,T⟩:=p;have oK:=hg.2;simp only[qB]at oK;cases x with
 |normal=>
  simp only at oK;split at oK
  . rename_i s2 rP;exact⟨.normal,rfl,oK T rP⟩
  . exact oK.elim
 |exit i=>
  simp only at oK;split at oK
  . rename_i s2 rP;exact⟨.exit i,rfl,oK T rP⟩
  . exact oK.elim
 |ret=>
  simp only at oK;split at oK
  . rename_i v h n hr;exact⟨.ret,rfl,oK.2 T ⟨.inr rfl,v,h,n,hr,oK.1⟩⟩
  . exact oK.elim
 |panic _=>exact oK.elim
theorem yJ{cf:gu}(lX:iu P cf)(L:P.follows .mixedOrders=true):∀(k:Nat) {c:Code} {s s1:St} {Q:Exit->St->Prop},fe n0 c=true->gY P cf fr (ek k c) s=some (.normal,s1)->TG P N n0 (dH k c) s1 Q->TG P N n0 c s Q:=by
 intro k;have I0:∀{c:Code} {s s1:St} {Q:Exit->St->Prop},gY P cf fr .skip s=some (.normal,s1)->TG P N n0 c s1 Q->TG P N n0 c s Q:=by
  intro c s s1 Q e h;simp only[gY,aq,aB,true_and]at e;subst e;exact h
 induction k with
 |zero=>intro c s s1 Q _ e h;cases c<;>exact I0 e h
 |succ k ih=>
  intro c s s1 Q mY e h;cases c<;>first|exact I0 e h|skip
  rename_i a b;simp only[fe,ay]at mY;simp only[ek,gY]at e;split at e
  . rename_i T h1;exact KI (qU (fr:=fr) lX L mY.1 h1 rfl (ih mY.2 e h))
  . rename_i hr
    first|exact(hr s1 rfl).elim|exact(hr s1 e).elim
theorem Ub(k:Nat)(X':CX P)(L:P.follows .mixedOrders=true)(dG:List (Nat×mH))(fr:Nat)(fn:Func)(live:List Nat)(dD:List (List (Bool×Bool)×ah×ko))(A:fe n0 c=true)
  (e1:Bj P X'.cs dG fr (ek k c) s=true) (e2:wq P X'.cs dG fr (ek k c) s=yI P X'.cs dG fr (ek k c) s) (e3:BI P X'.cs dG fr N fn live (ek k c) s=dD)
  (h:∀g∈dD,(∀b∈g.1,b.1=b.2)->(∀a∈g.2.1,a)/\∃s1,g.2.2= .to .normal s1/\TG P N n0 (dH k c) s1 Q):TG P N n0 c s Q:=by
 obtain⟨l,hl⟩:=bR.1 e1;unfold wq yI at e2;unfold BI at e3;rw[hl]at e2 e3;simp only[wO]at e2 e3;obtain⟨⟨p,hp,ho⟩,C⟩:=kI P X'.cs X'.cf dG X'.snd fr (ek k c) s l hl;obtain⟨hA,s1,pQ,hT⟩:=h (p.1.conds,p.1.P2,qB P N fn live p.2) (e3▸oo hp) ho;have gF:=C p hp ho ⟨tG l e2 p hp,hA⟩;obtain⟨pp,x,T⟩:=p;simp only[qB]at pQ;cases x with
 |normal=>
  simp only at pQ;split at pQ
  . rename_i s2 rP;cases pQ;exact yJ (fr:=fr) X'.ok L k A gF (gj rP hT)
  . cases pQ
 |exit i=>
  simp only at pQ;split at pQ<;>cases pQ
 |ret=>
  simp only at pQ;split at pQ<;>cases pQ
 |panic _=>cases pQ
end
section
variable{P:Program}{N:Nat}
theorem E8{fn:Func}{s:St}{v:V}{h:I es}{n:Nat}(e:NX P N fn s=some (v,h,n)):∃v1 h1 n1 s2,vk P fn s.F s.iZ s.h s.n=some (v1,h1,n1)/\lB N [0] { F:=I.nil.set 0 (some v1),h:=h1,n:=n1,iZ:=[] }=some s2/\s2.F.get 0=some v/\s2.h=h/\s2.n=n:=by
 unfold NX at e;split at e
 . rename_i v1 h1 n1 e1;split at e
   . rename_i s2 e2;split at e
     . rename_i v2 e3;simp only[aq,aB]at e;obtain⟨rfl,rfl,rfl⟩:=e;exact⟨v1,h1,n1,s2,e1,e2,e3,rfl,rfl⟩
     . cases e
   . cases e
 . cases e
theorem qV(L:P.follows .mixedOrders=true)(sW:kn P=true){f:FuncId}{fn:Func}{code:Code}(hf:P.funcs[f]? =some fn)(U:fn.body=some code){args:ag}{h:I es}{N:Nat}
  (l:(Nat.ble args.length fn.ntmps&&Nat.blt fn.ntmps gO)=true) (iX:V->I es->Nat->Prop) (hT:TG P N fn.ntmps code (dI args h N) (gi P N fn iX))
  {E:Env} {w:World} {dZ:List Value} (ra:eK E args dZ) (g:Good E h w) (hd:qK E N):
  Calls P f dZ.toArray w fun e w'=>∃v h' n',iX v h' n'/\jx E h N w (.ret v) h' n' e w':=by
 simp only[ay]at l;obtain⟨zz,nc⟩:=qv (n:=fn.ntmps) ra (aE l.1) (aE l.2);refine callsIn_wide.1 (callsIn_of_wp_marks (n:=0) hf U trivial (wpIn_wide.2 ?_));refine hT E _ w _ ⟨g,hd,zz,nc,rfl⟩ (aK _) fun y T E' a' w' ⟨hy,v,h',n',hr,hR⟩ u oy r'=>?_;obtain⟨v1,h1,n1,s2,k1,k2,k3,k4,k5⟩:=E8 hr;have key:LeavesInM Fence.wide 0 P fn a'.tmps (fun e w'=>∃v h' n',iX v h' n'/\jx E h N w (.ret v) h' n' e w') a'.defers .returning w':=by
  refine oL (cf:=fun _ _ _ _=>none) (fr:=0) (fun _ _ _ _ _ _ _ e=>by cases e) L sW T.iZ .ret T.h T.n _ h1 n1 (sG k1) E' w' a'.defers .returning _ r'.good r'.rO r'.F r'.iZ trivial fun E2 w2 en u2 sA Em qQ ho=>?_;have u3:=u.trans (mO.of u2 sA oy);cases en with
  |returned v'=>
   have ho:eH E2 v1 v':=ho;have sr:lI E2 1 { F:=I.nil.set 0 (some v1),h:=h1,n:=n1,iZ:=[] } { tmps:=#[v'],defers:=[] } w2:=by
    refine⟨u3.good,Em,fun t v hv=>?_,rfl,rfl⟩;rw[I.gC _ _ _ fg]at hv;split at hv
    . rename_i q;subst q;cases hv;exact⟨v',rfl,ho⟩
    . simp[I.get]at hv
   obtain⟨_,Mb,E3,r3,u4⟩:=oM k2 sr;have u5:=(u3.trans u4).CH hd;obtain⟨v'',q1,q2⟩:=r3.F 0 v k3;simp only[List.getElem?_toArray,cT,aq]at q1;subst q1;refine⟨v,h',n',hR,E3,k4▸u5,(u3.trans u4).low,k5▸r3.rO,by rw[<- k5];exact Mb,q2⟩
  |_=>exact ho.elim
 rcases hy with rfl|rfl<;>exact key
theorem Gn(L:P.follows .mixedOrders=true)(sW:kn P=true){f:FuncId}{fn:Func}{code:Code}(hf:P.funcs[f]? =some fn)(U:fn.body=some code){args:ag}{h:I es}{N:Nat}
  (l:(Nat.ble args.length fn.ntmps&&Nat.blt fn.ntmps gO)=true) (v:V) (h':I es) (n':Nat) (hT:TG P N fn.ntmps code (dI args h N) (gi P N fn fun a b c=>a=v/\b=h'/\c=n'))
  {E:Env} {w:World} {dZ:List Value} (ra:eK E args dZ) (g:Good E h w) (hd:qK E N):
  Calls P f dZ.toArray w (jx E h N w (.ret v) h' n'):=
 (qV L sW hf U l _ hT ra g hd).mono fun e w' ⟨_,_,_,⟨e1,e2,e3⟩,k⟩=>by subst e1 e2 e3;exact k
end
def frL:List (Nat×V)->I V:=go .nil
where go (t:I V):List (Nat×V)->I V
 | []=>t
 |(k,v)::r=>go (t.set k (some v)) r
def hL:af->I es:=go .nil
where go (t:I es):af->I es
 | []=>t
 |(k,v)::r=>go (t.set k (some v)) r
def fI(l:List (Nat×V))(h:I es)(n:Nat):St:={ F:=frL l,h:=h,n:=n,iZ:=[] }
def NY(l:List (Nat×V))(h:I es)(n:Nat)(d:List (FuncId×ag×ag)):St:={ F:=frL l,h:=h,n:=n,iZ:=d }
def Mj(s':List (FuncId×ag×V)):gG:=fun f args h n=>match look f args s' with
 |some v=>some ([],v,h,n)
 |none=>none
theorem Qd{P:Program}{s':List (FuncId×ag×V)}(hT:∀x∈s',F9 P x):fo P (Mj s'):=by
 intro f args h n hc v h' n' e;unfold Mj at e;split at e
 . rename_i v' hl;simp only[aq,aB]at e;obtain⟨rfl,rfl,rfl,rfl⟩:=e;have hs:=hT _ (IG hl);exact⟨hs.1,fun _ E w dZ ra g hd CL=>Ky hs ra g hd CL⟩
 . cases e
def Uc(P:Program)(cs:mw)(dG:List (Nat×mH))(fr N:Nat)(fn:Func)(live:List Nat)(c:Code)(s:St):Option (ag×ag×List (List (Bool×Bool)×ah×ko)):=
 match lC P cs dG fr c s with
 |some l=>some (tF l,xA l,yF (qB P N fn live) l)
 |none=>none
abbrev G(P:Program)(cs:mw)(dG:List (Nat×mH))(fr N:Nat)(fn:Func)(live:List Nat)(c:Code)(s:St)(hm:ag)(dD:List (List (Bool×Bool)×ah×ko)):Prop:=Uc P cs dG fr N fn live c s=some (hm,hm,dD)
theorem G.parts{P:Program}{cs:mw}{dG:List (Nat×mH)}{fr N:Nat}{fn:Func}{live:List Nat}{c:Code}{s:St}{hm:ag}{dD:List (List (Bool×Bool)×ah×ko)}(h:G P cs dG fr N fn live c s hm dD):
  Bj P cs dG fr c s=true/\wq P cs dG fr c s=yI P cs dG fr c s/\BI P cs dG fr N fn live c s=dD:=by
 have h:Uc P cs dG fr N fn live c s=some (hm,hm,dD):=h;unfold Uc at h;unfold Bj wq yI BI;split at h
 . rename_i l hl;simp only[aq,aB]at h;rw[hl];exact⟨rfl,h.1.trans h.2.1.symm,h.2.2⟩
 . cases h
section
variable{P:Program}{N n0:Nat}{c:Code}{s:St}{Q:Exit->St->Prop}{dG:List (Nat×mH)}{fr:Nat}{fn:Func}{live:List Nat}{hm:ag}{dD:List (List (Bool×Bool)×ah×ko)}
section
variable(k:Nat)(X':CX P)
theorem WK(L:P.follows .mixedOrders=true)(iX:V->I es->Nat->Prop)(A:fe n0 c=true)(hr:G P X'.cs dG fr N fn live c s hm dD)
  (h:∀g∈dD,(∀b∈g.1,b.1=b.2)->(∀a∈g.2.1,a)/\g.2.2.post P N fn live iX Q):TG P N n0 c s Q:=
 Yk X' L dG fr fn live iX dD A hr.parts.1 hr.parts.2.1 hr.parts.2.2 h
theorem Qe(L:P.follows .mixedOrders=true)(A:fe n0 c=true)(hr:G P X'.cs dG fr N fn live (ek k c) s hm dD)
  (h:∀g∈dD,(∀b∈g.1,b.1=b.2)->(∀a∈g.2.1,a)/\∃s1,g.2.2= .to .normal s1/\TG P N n0 (dH k c) s1 Q):TG P N n0 c s Q:=
 Ub k X' L dG fr fn live dD A hr.parts.1 hr.parts.2.1 hr.parts.2.2 h
theorem Ud(L:P.follows .mixedOrders=true){hc:ah}{s1:St}(A:fe n0 c=true)(hr:G P X'.cs dG fr N fn live (ek k c) s hm [([],hc,.to .normal s1)])
  (hA:∀a∈hc,a) (h:TG P N n0 (dH k c) s1 Q):TG P N n0 c s Q:=
 Qe k X' L A hr fun g hg _=>by
  rw[aI]at hg;subst hg;exact⟨hA,s1,rfl,h⟩
theorem Yl(L:P.follows .mixedOrders=true)(iX:V->I es->Nat->Prop)(A:fe n0 c=true)(hr:G P X'.cs dG fr N fn live c s hm dD)
  (h:∀g∈dD,(∀b∈g.1,b.1=b.2)->(∀a∈g.2.1,a)/\∃v h n,g.2.2= .ret v h n/\iX v h n):TG P N n0 c s (gi P N fn iX):=
 WK X' L iX A hr fun g hg A=>by
  obtain⟨h1,v,h',n',e,hR⟩:=h g hg A;refine⟨h1,?_⟩;rw[e];exact⟨hR,fun T q=>q⟩
end
end
abbrev eP:V->I es->Nat->Prop:=fun _ _ _=>True
section
variable{P:Program}{N n0:Nat}{c:Code}{s:St}{Q:Exit->St->Prop}{fr:Nat}{fn:Func}
def ko.loop(P:Program)(N:Nat)(fn:Func)(live:List Nat)(iX:V->I es->Nat->Prop)(Tr:Nat->St->Prop)(k:Nat)(Q:Exit->St->Prop):ko->Prop
 | .to .normal s=>∃k',k'<k/\Tr k' s
 | .to y s=>∀T,lB N live T=some s->Q y T
 | .ret v h n=>iX v h n/\∀T,gi P N fn iX .ret T->Q .ret T
 | .bad=>False
end
theorem qW{E:Env}{h:I es}{n:Nat}{w:World}{v:V}{h':I es}{n':Nat}{e:Ending}{w':World}(Ym:∀m,¬fu h m)(c:jx E h n w (.ret v) h' n' e w'):(∃E,xm E (.ret v) e)/\Below w.heap.size w w':=by
 obtain⟨E',u,_,_,_,ho⟩:=c;exact⟨⟨E',ho⟩,u.os,u.tape,u.output,u.size,fun k hk=>u.keep k hk fun m s L=>absurd L (Ym m)⟩
section
variable{P:Program}{f:FuncId}
theorem Df(L:P.follows .mixedOrders=true)(sW:kn P=true){f:FuncId}{fn:Func}{code:Code}(hf:P.funcs[f]? =some fn)(U:fn.body=some code){args:ag}{h:I es}{N:Nat}
  (l:(Nat.ble args.length fn.ntmps&&Nat.blt fn.ntmps gO)=true) {v:V} (hT:TG P N fn.ntmps code (dI args h N) (gi P N fn fun a _ _=>a=v))
  {E:Env} {w:World} {dZ:List Value} (ra:eK E args dZ) (g:Good E h w) (hd:qK E N) (Ym:∀m,¬fu h m):
  Calls P f dZ.toArray w fun e w'=>(∃E,xm E (.ret v) e)/\Below w.heap.size w w':=
 (qV L sW hf U l _ hT ra g hd).mono fun e w' ⟨v',h',n',e1,k⟩=>by subst e1;exact qW Ym k
theorem xB:∀m,¬fu (.nil:I es) m:=fun m k=>absurd rfl k.live
def ic(f:ag->Option (ah×V)):ag->I es->Nat->Option (ah×V×I es×Nat):=fun args h n=>match f args with
 |some (hc,v)=>some (hc,v,h,n)
 |none=>none
theorem I1{spec:ag->Option (ah×V)}(fj:f<P.funcs.size)(h:∀args hc v,spec args=some (hc,v)->V.uo args=true/\v.free=true/\((∀a∈hc,a)->
  ∀E w dZ,WG w->eK E args dZ->Calls P f dZ.toArray w fun e w'=>(∃E,xm E (.ret v) e)/\Below w.heap.size w w')):jM P f (ic spec):=by
 refine⟨fj,fun args h' n hc v C n2 e hA E w dZ ra g hd A=>?_⟩;unfold ic at e;split at e
 . rename_i A' v' hs;simp only[aq,aB]at e;obtain⟨rfl,rfl,rfl,rfl⟩:=e;obtain⟨h1,C,h3⟩:=h args _ _ hs;exact(h3 hA E w dZ g.wg ra).mono fun en w' ⟨ho,b⟩=>vi g hd C ho b
 . cases e
theorem KJ(L:P.follows .mixedOrders=true)(sW:kn P=true){f:FuncId}{fn:Func}{code:Code}(hf:P.funcs[f]? =some fn)(U:fn.body=some code){args:ag}
  (l:(Nat.ble args.length fn.ntmps&&Nat.blt fn.ntmps gO)=true) {v:V} (zz:V.uo args=true) (hT:TG P gN fn.ntmps code (dI args .nil gN) (gi P gN fn fun a _ _=>a=v)):
  ∀E w dZ,WG w->eK E args dZ->Calls P f dZ.toArray w fun e w'=>(∃E,xm E (.ret v) e)/\Below w.heap.size w w':=
 fun _ w _ hw ra=>Df L sW hf U l hT (og _ _ zz ra) (Wz hw) (adu (aK _)) xB
end
def Qf(h:I es):List (Nat×IntKind)->Option (I es)
 | []=>some h
 |(m,k)::r=>match h.get m with
  |some (.cells cs)=>match pY k cs with
   |some W=>match Nat.blt m gO with
    |true=>Qf (h.set m (some (.own k W))) r
    |false=>none
   |none=>none
  |_=>none
theorem E9{E:Env}{w:World}:∀(l:List (Nat×IntKind)) (h C:I es),Qf h l=some C->Good E h w->Good E C w/\∀m,(C.get m≠none↔h.get m≠none)/\(fu C m->fu h m)
 | [],h,C,e,g=>by simp only[Qf,aq]at e;subst e;exact⟨g,fun m=>⟨Iff.rfl,id⟩⟩
 |(m,k)::r,h,C,e,g=>by
  unfold Qf at e;split at e
  case h_2=>cases e
  rename_i cs L;split at e
  case h_2=>cases e
  rename_i W hk;split at e
  case h_2=>cases e
  rename_i ht;have ht:m<gO:=aE ht;have qH:=rV hk;have pF:∀j,(h.set m (some (.own k W))).get j=if j=m then some (.own k W)else h.get j:=fun j=>I.gC _ _ _ ht
  have FO:∀j,((h.set m (some (.own k W))).get j≠none↔h.get j≠none)/\(fu (h.set m (some (.own k W))) j->fu h j):=by
   intro j;rw[pF];by_cases q:j=m
   . subst q;rw[aF rfl,L];exact⟨by simp,fun _=>⟨_,L,rfl⟩⟩
   . rw[aD q];exact⟨Iff.rfl,fun z=>qg ht z q⟩
  have g1:Good E (h.set m (some (.own k W))) w:=by
   refine⟨fun j o hj=>?_,fun j j' b s T jD hj zB e1 e2=>g.inj j j' b s T jD ((FO j).2 hj) ((FO j').1.1 zB) e1 e2,g.qG,g.lG,fun b c q=>⟨g.fz b c q,fun m' s ue=>(g.jG b c q).2 m' s ((FO m').2 ue)⟩⟩;rw[pF]at hj;split at hj
   . rename_i q;subst q;obtain rfl:=eZ hj;obtain⟨b,s,h1,C⟩:=g.rel j _ L;rw[qH]at C;exact⟨b,s,h1,C⟩
   . exact g.rel j o hj
  obtain⟨g2,k2⟩:=E9 r _ C e g1;exact⟨g2,fun j=>⟨(k2 j).1.trans (FO j).1,fun z=>(FO j).2 ((k2 j).2 z)⟩⟩
def Yn(l:List (Nat×IntKind))(s:St):Option St:=match Qf s.h l with
 |some h=>some { s with h:=h }
 |none=>none
theorem Af{P:Program}{N n0:Nat}{c:Code}{s s2:St}{Q:Exit->St->Prop}(l:List (Nat×IntKind))(e:Yn l s=some s2)(h:TG P N n0 c s2 Q):TG P N n0 c s Q:=by
 unfold Yn at e;split at e
 case h_2=>cases e
 rename_i C hh;obtain rfl:=eZ e;intro E a w hx r hn k;obtain⟨g2,k2⟩:=E9 (E:=E) (w:=w) l s.h C hh r.good;have u:mO N E s.h w E C w:=⟨fun _ _ _ _ e=>⟨e,rfl⟩,fun _ _=>rfl,fun _ _ q=>q,g2,aK _,rfl,rfl,rfl,fun _ _ _=>rfl,fun m b s1 L e1 _=>⟨m,s1,(k2 m).1.1 L,e1,(k2 m).2⟩,fun _ _ q=>.inl q⟩;exact h E a w hx ⟨g2,r.rO,r.F,r.size,r.iZ⟩ hn fun y T E' a' w' q u' oy r'=>k y T E' a' w' q (u.trans u') oy r'
theorem G.of{P:Program}{cs:mw}{dG:List (Nat×mH)}{fr N:Nat}{fn:Func}{live:List Nat}{c:Code}{s:St}{dD:List (List (Bool×Bool)×ah×ko)}(h1:Bj P cs dG fr c s=true)(C:wq P cs dG fr c s=yI P cs dG fr c s)(h3:BI P cs dG fr N fn live c s=dD):
  ∃hm,G P cs dG fr N fn live c s hm dD:=by
 refine⟨wq P cs dG fr c s,?_⟩;unfold G Uc;unfold Bj at h1;unfold wq yI at C;unfold BI at h3;unfold wq;cases hl:lC P cs dG fr c s with
 |none=>rw[hl]at h1;cases h1
 |some l=>
  rw[hl]at C h3;have C:tF l=xA l:=C;have h3:yF (qB P N fn live) l=dD:=h3;show some (tF l,xA l,yF (qB P N fn live) l)=some (tF l,tF l,dD);rw[h3,<- C]
end Go.Eng
