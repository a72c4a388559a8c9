/- Lemmas of the engine. No conditions. -/
import Derived.Test.YtmjggdmekboefaaGreatJointW02
set_option linter.unusedVariables false
set_option linter.unusedSimpArgs false
set_option linter.unusedSectionVars false
namespace Go.Eng
open Go Go.RowKit
structure sQ where
 conds:List (Bool×Bool)
 same:List (V×V)
 M4:ah
def sQ.nil:sQ:=⟨[],[],[]⟩
def sQ.app(a b:sQ):sQ:=⟨a.conds++b.conds,a.same++b.same,a.M4++b.M4⟩
def sQ.ok(p:sQ):Prop:=∀c∈p.conds,c.1=c.2
def sQ.good(p:sQ):Prop:=(∀c∈p.same,c.1=c.2)/\∀a∈p.M4,a
theorem sQ.Od{a b:sQ}:(a.app b).ok↔a.ok/\b.ok:=by
 simp only[sQ.ok,sQ.app,bf];exact⟨fun h=>⟨fun c K=>h c (.inl K),fun c K=>h c (.inr K)⟩,fun h c K=>K.elim (h.1 c) (h.2 c)⟩
theorem sQ.Oe{a b:sQ}:(a.app b).good↔a.good/\b.good:=by
 simp only[sQ.good,sQ.app,bf];exact⟨fun h=>⟨⟨fun c K=>h.1 c (.inl K),fun c K=>h.2 c (.inl K)⟩,fun c K=>h.1 c (.inr K),fun c K=>h.2 c (.inr K)⟩,
  fun h=>⟨fun c K=>K.elim (h.1.1 c) (h.2.1 c),fun c K=>K.elim (h.1.2 c) (h.2.2 c)⟩⟩
abbrev iW(α:Type):=Option (List (sQ×α))
def iW.ret{α:Type}(a:α):iW α:=some [(.nil,a)]
def pre{α:Type}(p:sQ):List (sQ×α)->List (sQ×α)
 | []=>[]
 |e::r=>(p.app e.1,e.2)::pre p r
def iW.bind{α β:Type}:List (sQ×α)->(α->iW β)->iW β
 | [],_=>some []
 |(p,a)::r,f=>match f a with
  |some l1=>match iW.bind r f with
   |some l2=>some (pre p l1++l2)
   |none=>none
  |none=>none
def iW.then{α β:Type}(m:iW α)(f:α->iW β):iW β:=match m with
 |some l=>iW.bind l f
 |none=>none
def fE{α:Type}(m:iW α)(r:Option α):Prop:=∀l,m=some l->(∃e∈l,e.1.ok)/\∀e∈l,e.1.ok->e.1.good->r=some e.2
theorem E5{α:Type}{p:sQ}:∀{l:List (sQ×α)} {e:sQ×α},e∈pre p l↔∃e'∈l,e=(p.app e'.1,e'.2)
 | [],e=>by simp[pre]
 |x::r,e=>by
  simp only[pre,aD,E5];exact⟨fun h=>h.elim (fun q=>⟨x,.inl rfl,q⟩) fun⟨e',Q,R⟩=>⟨e',.inr Q,R⟩,fun⟨e',Q,R⟩=>Q.elim (fun q=>.inl (by rw[R,q])) fun q=>.inr ⟨e',q,R⟩⟩
theorem G7{α β:Type}{f:α->iW β}:∀{l:List (sQ×α)} {l2:List (sQ×β)},iW.bind l f=some l2->(∀e∈l2,∃d∈l,∃l1,f d.2=some l1/\∃e'∈l1,e=(d.1.app e'.1,e'.2))/\(∀d∈l,∃l1,f d.2=some l1/\∀e'∈l1,(d.1.app e'.1,e'.2)∈l2)
 | [],l2,h=>by
   simp only[iW.bind,aq]at h;subst h;exact⟨fun e he=>by simp at he,fun d hd=>by simp at hd⟩
 |(p,a)::r,l2,h=>by
  simp only[iW.bind]at h;split at h
  . rename_i l1 Q;split at h
    . rename_i l3 h3;obtain rfl:=eB h;obtain⟨k1,k2⟩:=G7 h3;refine⟨fun e he=>?_,fun d hd=>?_⟩
      . rcases bf.1 he with q|q
        . obtain⟨e',q1,q2⟩:=E5.1 q;exact⟨(p,a),by simp,l1,Q,e',q1,q2⟩
        . obtain⟨d,d1,d2⟩:=k1 e q;exact⟨d,by simp[d1],d2⟩
      . rcases aD.1 hd with rfl|hd
        . exact⟨l1,Q,fun e' AH=>bf.2 (.inl (E5.2 ⟨e',AH,rfl⟩))⟩
        . obtain⟨l1',q1,q2⟩:=k2 d hd;exact⟨l1',q1,fun e' AH=>bf.2 (.inr (q2 e' AH))⟩
    . cases h
  . cases h
theorem fE.ret{α:Type}(a:α):fE (iW.ret a) (some a):=by
 intro l h;simp only[iW.ret,aq]at h;subst h;exact⟨⟨_,aG.2 rfl,fun c K=>by simp[sQ.nil]at K⟩,fun e he _ _=>by simp only[aG]at he;subst he;rfl⟩
theorem fE.none{α:Type}(r:Option α):fE (none:iW α) r:=fun l h=>by cases h
theorem fE.then{α β:Type}{m:iW α}{f:α->iW β}{r:Option α}{g:α->Option β}(h:fE m r)(hf:∀a,fE (f a) (g a)):fE (m.then f) (r.bind g):=by
 intro l2 e;unfold iW.then at e;split at e
 . rename_i l;obtain⟨⟨d,hd,mC⟩,R⟩:=h l rfl;obtain⟨k1,k2⟩:=G7 e;refine⟨?_,fun e he ags VI=>?_⟩
   . obtain⟨l1,q1,q2⟩:=k2 d hd;obtain⟨⟨e',AH,RS⟩,_⟩:=hf d.2 l1 q1;exact⟨_,q2 e' AH,sQ.Od.2 ⟨mC,RS⟩⟩
   . obtain⟨d,hd,l1,q1,e',AH,rfl⟩:=k1 e he;obtain⟨o1,o2⟩:=sQ.Od.1 ags;obtain⟨g1,g2⟩:=sQ.Oe.1 VI;rw[R d hd o1 g1];exact(hf d.2 l1 q1).2 e' AH o2 g2
 . cases e
theorem fE.of_eq{α:Type}{m:iW α}{r r':Option α}(h:fE m r)(e:r=r'):fE m r':=e▸h
def uA(P:Program)(t:TypeId):Option Nat:=match tU P t with
 |some e=>kf P e
 |none=>none
def nQ(P:Program):List Field->ag->ag->Option Bool
 | [],_,_=>some true
 |f::fs,xs,ys=>match decide (f.name= "_")with
  |true=>none
  |false=>match P.underlying f.type,nX P f.type xs f.offset,nX P f.type ys f.offset with
   |some (.int _),some (.int k a),some (.int k' b)=>match decide (k=k')with
    |true=>match nQ P fs xs ys with
     |some r=>some ((a==b)&&r)
     |none=>none
    |false=>none
   |_,_,_=>none
theorem sR{P:Program}{d:Nat}:∀{fs:List Field} {xs ys:ag} {r:Bool},nQ P fs xs ys=some r->eqFields P (fun u a b=>DF P (d+1) u a b) fs xs ys=some r
 | [],_,_,r,e=>by simpa only[nQ,eqFields]using e
 |f::fs,xs,ys,r,e=>by
  simp only[nQ]at e;split at e
  . cases e
  . rename_i hn;have hn:=bx hn;split at e
    . rename_i k0 k a k' b Q R h3;split at e
      . rename_i Y;have Y:=aW Y;subst Y;split at e
        . rename_i r' hr;obtain rfl:=eB e;have ih:=sR (d:=d) hr;simp only[eqFields,aE hn,R,h3];have:DF P (d+1) f.type (.int k a) (.int k b)=some (a==b):=by simp only[DF,Q,if_true]
          rw[this];cases hab:a==b with
          |true=>simp only[aN];exact ih
          |false=>simp only[aP]
        . cases e
      . cases e
    . cases e
def Of(P:Program)(e:TypeId):V->V->Option Bool
 | .agg xs,.agg ys=>match P.underlying e with
   |some (.struct lJ)=>match P.stoodInHeld e with
    |true=>none
    |false=>nQ P lJ.toList xs ys
   |_=>none
 |_,_=>none
def rM(P:Program)(e:TypeId)(c:Nat)(xs ys:ag):List Nat->Option Bool
 | []=>some true
 |i::is=>match nX P e xs (i*c),nX P e ys (i*c)with
  |some a,some b=>match Of P e a b,rM P e c xs ys is with
   |some q,some r=>some (q&&r)
   |_,_=>none
  |_,_=>none
theorem Og{P:Program}{d:Nat}{e:TypeId}{x y:V}{r:Bool}(h:Of P e x y=some r):DF P (d+1+1) e x y=some r:=by
 unfold Of at h;split at h
 . split at h
   . rename_i lJ hu;split at h
     . cases h
     . rename_i hs;simp only[DF,hu,hs,aM,cr];exact sR (d:=d) h
   . cases h
 . cases h
theorem Ai{P:Program}{d c:Nat}{e:TypeId}{xs ys:ag}:∀{is:List Nat} {r:Bool},rM P e c xs ys is=some r->nY P (DF P (d+1+1) e) e c xs ys is=some r
 | [],r,h=>by simpa only[rM,nY]using h
 |i::is,r,h=>by
  simp only[rM]at h;split at h
  . rename_i a b Q R;split at h
    . rename_i q r' h3 h4;obtain rfl:=eB h;simp only[nY,Q,R,Og (d:=d) h3];cases q with
      |true=>simp only[aN];exact Ai h4
      |false=>simp only[aP]
    . cases h
  . cases h
def KK(P:Program)(t:TypeId)(xs ys:ag):Option Bool:=
 match P.eqGuardType P.depth t with
 |true=>none
 |false=>match P.underlying t with
  |some (.struct lJ)=>match P.stoodInHeld t with
   |true=>none
   |false=>nQ P lJ.toList xs ys
  |some (.array n e)=>match(P.info? e).isSome with
   |true=>rM P e (P.cellsOf e) xs ys (List.range n)
   |false=>none
  |_=>none
section
variable{P:Program}(h:I O){t:TypeId}
theorem RZ{d:Nat}{t:TypeId}{lJ:Array Field}{xs ys:ag}{r:Bool}(hu:P.underlying t=some (.struct lJ))(hs:P.stoodInHeld t=false)(e:nQ P lJ.toList xs ys=some r):DF P (d+1+1) t (.agg xs) (.agg ys)=some r:=by
 simp only[DF,hu,hs,aM,cr];exact sR (d:=d) e
theorem R1{d m:Nat}{t el:TypeId}{xs ys:ag}{r:Bool}(hu:P.underlying t=some (.array m el))(hi:(P.info? el).isSome=true)(e:rM P el (P.cellsOf el) xs ys (List.range m)=some r):DF P (d+1+1+1) t (.agg xs) (.agg ys)=some r:=by
 simp only[DF,hu,hi];exact Ai (d:=d) e
theorem G8{x y:Operand}{xs ys:ag}{r:Bool}(e:KK P t xs ys=some r):C7 P t x y (.agg xs) (.agg ys)=some r:=by
 unfold KK at e;split at e
 . cases e
 . rename_i hg;split at e
   . rename_i lJ hu;split at e
     . cases e
     . rename_i hs;simp only[C7,hg,aM,cr];exact RZ (d:=9998) hu hs e
   . rename_i n el hu;split at e
     . rename_i hi;simp only[C7,hg,aM,cr];exact R1 (d:=9997) hu hi e
     . cases e
   . cases e
def pxT(P:Program)(t:TypeId):Option (Nat×TypeId×Nat):=match P.underlying t with
 |some (.array len e)=>match Gg P e,kf P e with
  |some true,some s=>some (len,e,s)
  |_,_=>none
 |_=>none
theorem VJ{e:TypeId}{len s:Nat}(h:pxT P t=some (len,e,s)):P.underlying t=some (.array len e)/\Gg P e=some true/\kf P e=some s:=by
 unfold pxT at h;split at h
 . rename_i hu;split at h
   . rename_i Q R;simp only[aq,aF]at h;obtain⟨rfl,rfl,rfl⟩:=h;exact⟨hu,Q,R⟩
   . cases h
 . cases h
def kn(P:Program)(o:Oper)(F:I V)(h:I O)(n:Nat):Option (ah×h2):=match dO P o F h n with
 |some r=>some ([],r)
 |none=>none
def Oh:V->Bool
 | .eS (some (m,_)) _ _ _=>match h.get m with
   |some (.ints _ _)=>true
   |some (.own _ _)=>true
   |some (.deep _)=>true
   |some (.tr _ _ _)=>true
   |_=>false
 | .eo _ _ _=>true
 | .str _=>true
 |_=>false
def E6(size:Nat)(x:V):Option (ah×Nat×Row):=
 match x with
 | .eo _ len T=>some ([T.length=len*size],len,.ds T)
 |x=>match Oh h x with
 |true=>match x with
  | .eS (some (m,o)) len _ jm=>match Nat.beq jm size,(h.get m).bind O.LG with
    |true,some (.is k ks)=>some ([0<len,o+len*size<=ks.length],len,.is k ((ks.drop o).take (len*size)))
    |true,some (.ds T)=>some ([0<len,o+len*size<=T.length],len,.ds ((T.drop o).take (len*size)))
    |_,_=>none
  | .str s=>match Nat.beq size 1 with
    |true=>some ([],s.length,.is .u8 (fS s))
    |false=>none
  |_=>none
 |false=>match jo h size x with
  |some (k,r)=>some ([],k,r)
  |none=>none
theorem sS{h:I O}{size k:Nat}{x:V}{s':ah}{r:Row}(e:E6 h size x=some (s',k,r))(hA:∀a∈s',a):jo h size x=some (k,r):=by
 unfold E6 at e;split at e
 . simp only[aq,aF]at e;obtain⟨rfl,rfl,rfl⟩:=e;have Q:=hA _ (aG.2 rfl);simp only[jo,aE Q]
 split at e
 . split at e
   . rename_i m o len cp jm _ _;split at e
     . rename_i k' ks hb hr;simp only[aq,aF]at e;obtain⟨rfl,rfl,rfl⟩:=e;have Q:0<len:=hA _ (by simp);have R:o+len*size<=ks.length:=hA _ (by simp);have hb:=aA hb;cases S:h.get m with
       |none=>rw[S]at hr;cases hr
       |some ob=>
        rw[S]at hr;have hr:ob.LG=some (.is k' ks):=hr;cases len with
        |zero=>omega
        |succ len=>simp only[jo,hb,if_true,S,hr,Row.cut,aE R]
     . rename_i T hb hr;simp only[aq,aF]at e;obtain⟨rfl,rfl,rfl⟩:=e;have Q:0<len:=hA _ (by simp);have R:o+len*size<=T.length:=hA _ (by simp);have hb:=aA hb;cases S:h.get m with
       |none=>rw[S]at hr;cases hr
       |some ob=>
        rw[S]at hr;have hr:ob.LG=some (.ds T):=hr;cases len with
        |zero=>omega
        |succ len=>simp only[jo,hb,if_true,S,hr,Row.cut,aE R]
     . cases e
   . split at e
     . rename_i hb;simp only[aq,aF]at e;obtain⟨rfl,rfl,rfl⟩:=e;simp only[jo,aE (aA hb)]
     . cases e
   . cases e
 . split at e
   . rename_i k' r' Q;simp only[aq,aF]at e;obtain⟨rfl,rfl,rfl⟩:=e;exact Q
   . cases e
def y7(len size o:Nat):Row->Option (ah×Row)
 | .is k ks=>some ([0<len,o+len*size<=ks.length],.is k ((ks.drop o).take (len*size)))
 | .ds T=>some ([o+len*size<=T.length],.ds ((T.drop o).take (len*size)))
 | .vs T=>match len with
   |0=>some ([],.vs [])
   |_=>match(Row.vs T).cut o (len*size)with
    |some r=>some ([],r)
    |none=>none
theorem Me{len size o:Nat}{r old:Row}{s':ah}(e:y7 len size o r=some (s',old))(hA:∀a∈s',a):(if r.soft=false/\len=0 then some (.vs [])else r.cut o (len*size):Option Row)=some old:=by
 cases r with
 |is k ks=>
  simp only[y7,aq,aF]at e;obtain⟨rfl,rfl⟩:=e;have Q:0<len:=hA _ (by simp);have R:o+len*size<=ks.length:=hA _ (by simp);rw[aB G];simp only[Row.cut,aE R]
 |ds T=>
  simp only[y7,aq,aF]at e;obtain⟨rfl,rfl⟩:=e;have R:o+len*size<=T.length:=hA _ (by simp);rw[aB (fun q=>by have:=q.1;cases this)];simp only[Row.cut,aE R]
 |vs T=>
  cases len with
  |zero=>
   simp only[y7,aq,aF]at e;obtain⟨rfl,rfl⟩:=e;rfl
  |succ len=>
   simp only[y7]at e;split at e
   . rename_i r' Q;obtain⟨rfl,rfl⟩:=fW e;rw[aB G];exact Q
   . cases e
def E7(i:TypeInfo)(z:V):Bool:=decide (0<i.size)&&(decide (0<i.bytes)&&decide (z.cells.length=i.size))
def Oi(m:Nat):Option (TypeId×Bool×aa):=match h.get m with
 |some (.tr e f s)=>some (e,f,s)
 |_=>none
def y8(P:Program)(eu:Array TypeId)(args:ag)(h:I O)(n:Nat):Option (ah×h2):=
 match eu[0]?,eu[1]?,args with
 |some st,some xt,[s,x]=>match tU P st,P.underlying xt with
  |some e,some xd=>match IB xd,P.info? e,zeroOf P e with
   |true,some i,some z=>match E7 i z,E6 h i.size x with
    |true,some (s',k,new)=>match new.flat with
     |true=>match s with
      | .eS none 0 _ _=>match newObj h n (Bt e x new)with
        |some (h',n')=>some (s'++[0<k,fo k i.size i.bytes=true],.val (.eS (some (n,0)) k k i.size) h' n')
        |none=>none
      | .eo true len T=>match newObj h n ((Row.ds T).app new).DE with
        |some (h',n')=>some (s'++[0<k,fo (len+k) i.size i.bytes=true,T.length=len*i.size],.val (.eS (some (n,0)) (len+k) (len+k) i.size) h' n')
        |none=>none
      | .eS (some (m,o)) len cp jm=>match Oi h m with
        |some (el,zO,s0)=>match Nat.beq jm i.size&&(Nat.blt m fV&&(Nat.beq o 0&&(Nat.beq i.size 1&&decide (el=e)))),tZ new with
         |true,some t=>match newObj (h.set m none) n (.tr el zO (s0++t))with
          |some (h',n')=>some (s'++[0<cp,len=s0.length,fo (len+k) i.size i.bytes=true],.val (.eS (some (n,0)) (len+k) (len+k) jm) h' n')
          |none=>none
         |_,_=>none
        |none=>match Nat.beq jm i.size&&Nat.blt m fV,(h.get m).bind O.row with
        |true,some r=>match y7 len i.size o r with
         |some (aj,old)=>match newObj (h.set m none) n (old.app new).DE with
          |some (h',n')=>match new.soft with
           |true=>some (s'++(aj++[fo (len+k) i.size i.bytes=true]),.val (.eS (some (n,0)) (len+k) (len+k) jm) h' n')
           |false=>some (s'++(aj++[0<k,fo (len+k) i.size i.bytes=true]),.val (.eS (some (n,0)) (len+k) (len+k) jm) h' n')
          |none=>none
         |none=>none
        |_,_=>none
      |_=>none
     |false=>none
    |_,_=>none
   |_,_,_=>none
  |_,_=>none
 |_,_,_=>none
theorem E8{eu:Array TypeId}{args:ag}{h:I O}{n:Nat}{s':ah}{r:h2}(e:y8 P eu args h n=some (s',r))(hA:∀a∈s',a):xl P eu args h n=some r:=by
 unfold y8 at e;split at e
 . rename_i st xt s x Q R;split at e
   . rename_i el xd h3 h4;split at e
     . rename_i i z h5 h6 h7;split at e
       . rename_i A1 k new h8 h9;simp only[E7,ay,aX]at h8;split at e
         . rename_i VK;unfold xl;simp only[Q,R,h3,h4,h5,h6,h7];rw[aE h8];split at e
           . cases ho:newObj h n (Bt el x new)with
             |none=>rw[ho]at e;cases e
             |some p=>
              rw[ho]at e;obtain⟨rfl,rfl⟩:=fW e;have ht:=sS h9 fun a ha=>hA a (by simp[ha]);have Y:0<k:=hA _ (by simp);have hr:fo k i.size i.bytes=true:=hA _ (by simp);rw[ht];simp only[VK,if_true];cases k with
              |zero=>omega
              |succ k=>simp only[aE hr,ho]
           . rename_i len T;cases ho:newObj h n ((Row.ds T).app new).DE with
             |none=>rw[ho]at e;cases e
             |some p=>
              rw[ho]at e;obtain⟨rfl,rfl⟩:=fW e;have ht:=sS h9 fun a ha=>hA a (by simp[ha]);have Y:0<k:=hA _ (by simp);have hr:fo (len+k) i.size i.bytes=true:=hA _ (by simp);have K:T.length=len*i.size:=hA _ (by simp);rw[ht];simp only[VK,if_true];cases k with
              |zero=>omega
              |succ k=>simp only[aE (And.intro hr K),ho]
           . rename_i m o len cp jm;split at e
             . rename_i el0 zO s0 IQ;have S:h.get m=some (.tr el0 zO s0):=by
                unfold Oi at IQ;split at IQ
                . rename_i hq;cases IQ;exact hq
                . cases IQ
               split at e
               case h_2=>cases e
               rename_i t hb ht;simp only[ay]at hb;cases ho:newObj (h.set m none) n (.tr el0 zO (s0++t))with
               |none=>rw[ho]at e;cases e
               |some p=>
                rw[ho]at e;obtain⟨rfl,rfl⟩:=fW e;have ZZ:=sS h9 fun a ha=>hA a (by simp[ha]);have q1:0<cp:=hA _ (by simp);have q2:len=s0.length:=hA _ (by simp);have q3:fo (len+k) i.size i.bytes=true:=hA _ (by simp);rw[ZZ];simp only[VK,if_true];rw[aE ⟨aA hb.1,q3,az hb.2.1⟩];simp only[S,ht];rw[aE ⟨⟨aA hb.2.2.1,q1⟩,⟨Nat.le_of_eq q2,fun _=>q2⟩,aA hb.2.2.2.1,aW hb.2.2.2.2⟩];simp only[q2,bD];rw[<- q2];simp only[ho]
             rename_i hnb;split at e
             . rename_i r0 hb BK;split at e
               . rename_i aj old n7;cases ho:newObj (h.set m none) n (old.app new).DE with
                 |none=>rw[ho]at e;cases e
                 |some p=>
                  rw[ho]at e;simp only at e;have Us:(∀a∈A1,a)->(∀a∈aj,a)->(new.soft=false->0<k)->fo (len+k) i.size i.bytes=true->h2.val (.eS (some (n,0)) (len+k) (len+k) jm) p.1 p.2=r->
                   (match jo h i.size x with
                    |some (k,new)=>
                     if new.flat=true then
                      if jm=i.size/\fo (len+k) i.size i.bytes=true/\m<fV then
                       match h.get m with
                       |some (.tr el0 zO s0)=>match tZ new with
                        |some t=>if(o=0/\0<cp)/\(len<=s0.length/\(zO=true->len=s0.length))/\(i.size=1/\el0=el)then(match newObj (h.set m none) n (.tr el0 zO (s0.take len++t))with
                         |some (h',n')=>some (.val (.eS (some (n,0)) (len+k) (len+k) jm) h' n')
                         |none=>none)else none
                        |none=>none
                       |some ob=>match ob.row with
                        |some r=>
                         match(if r.soft=false/\len=0 then some (.vs [])else r.cut o (len*i.size):Option Row)with
                         |some old=>
                          if new.soft=false/\k=0 then some (.val (.eS (some (m,o)) len cp jm) h n)
                          else match newObj (h.set m none) n (old.app new).DE with
                           |some (h',n')=>some (.val (.eS (some (n,0)) (len+k) (len+k) jm) h' n')
                           |none=>none
                         |none=>none
                        |none=>none
                       |_=>none
                      else none
                     else none
                    |none=>none:Option h2)=some r:=by
                   intro hA1 hB Y hr G9;subst G9;have ht:=sS h9 hA1;have aaD:=Me n7 hB;simp only[ay]at hb;have RD:=aA hb.1;have MZ:m<fV:=az hb.2;cases S:h.get m with
                   |none=>rw[S]at BK;cases BK
                   |some ob=>
                    rw[S]at BK;have BK:ob.row=some r0:=BK;rw[ht];simp only[VK,if_true];rw[aE ⟨RD,hr,MZ⟩];have aaE:∀e f s,ob≠ .tr e f s:=fun e f s q=>by subst q;unfold Oi at hnb;rw[S]at hnb;cases hnb
                    cases ob<;>first|exact absurd rfl (aaE _ _ _)|skip
                    all_goals
                    simp only[BK,aaD];rw[aB (fun q=>by have:=Y q.1;omega)];simp only[ho]
                  split at e
                  . simp only[aq,aF]at e;obtain⟨rfl,G9⟩:=e;rename_i Ut;exact Us (fun a ha=>hA a (by simp[ha])) (fun a ha=>hA a (by simp[ha])) (fun q=>by rw[q]at Ut;cases Ut) (hA _ (by simp)) G9
                  . simp only[aq,aF]at e;obtain⟨rfl,G9⟩:=e;exact Us (fun a ha=>hA a (by simp[ha])) (fun a ha=>hA a (by simp[ha])) (fun _=>hA _ (by simp)) (hA _ (by simp)) G9
               . cases e
             . cases e
           . cases e
         . cases e
       . cases e
     . cases e
   . cases e
 . cases e
end
section
variable{P:Program}{t:TypeId}{o:Oper}{F:I V}{h:I O}(k:IntKind)(ks:List Int){n:Nat}
def Cd(P:Program)(t:TypeId)(h:I O)(v:V)(m o:Nat)(k:IntKind)(ks:List Int):Option (ah×I O):=
 match kf P t,pb k v.cells with
 |some s,some new=>match Nat.beq v.cells.length s&&(Nat.blt 0 s&&Nat.blt m fV)with
  |true=>some ([o+s<=ks.length],h.set m (some (.own k (AA ks o new))))
  |false=>none
 |_,_=>none
theorem He{h':I O}{v:V}{m o:Nat}{k:IntKind}{ks:List Int}{s':ah}(S:h.get m=some (.own k ks))(e:Cd P t h v m o k ks=some (s',h'))(hA:∀a∈s',a):storeAt P t h v (.ptr (some (m,o)))=some h':=by
 unfold Cd at e;split at e
 . rename_i s new Q R;split at e
   . rename_i hb;obtain⟨rfl,rfl⟩:=fW e;simp only[ay]at hb;have h3:=aA hb.1;have h4:0<s:=az hb.2.1;have h5:m<fV:=az hb.2.2;have h6:o+s<=ks.length:=hA _ (by simp);simp only[storeAt,S,Q,R];rw[aE ⟨h3,h4,h5⟩,aE h6]
   . cases e
 . cases e
def lW(off sz:Nat):V:=.agg ((List.range sz).map fun j=>V.int k (ks.getD (off+j) 0))
theorem Jd{k:IntKind}{ks:List Int}{off sz:Nat}(ha:Gg P t=some true)(hs:kf P t=some sz)(hl:off+sz<=ks.length):kJ P t (ks.map (.int k)) off=some (lW k ks off sz):=by
 simp only[kJ,ha,hs,cut,bI,aE hl,bu,lW,aq,V.agg.injEq];apply List.ext_getElem
 . simp;omega
 . intro i Q R;simp at Q R;have:off+i<ks.length:=by omega
   simp[List.getD,this]
def AZ(P:Program)(t:TypeId)(k:IntKind)(ks:List Int)(off:Nat):Option (Prop×V):=match Gg P t with
 |some false=>some (off<ks.length,.int k (ks.getD off 0))
 |some true=>match kf P t with
  |some sz=>some (off+sz<=ks.length,lW k ks off sz)
  |none=>none
 |none=>none
theorem Ce{k:IntKind}{ks:List Int}{off:Nat}{p:Prop}{v:V}(e:AZ P t k ks off=some (p,v))(hp:p):kJ P t (ks.map (.int k)) off=some v:=by
 unfold AZ at e;split at e
 . rename_i VL;obtain⟨rfl,rfl⟩:=fW e;simp only[kJ,VL,bE,au hp,bu,ax,b7]
 . rename_i VL;split at e
   . rename_i sz hs;obtain⟨rfl,rfl⟩:=fW e;exact Jd VL hs hp
   . cases e
 . cases e
def y9(P:Program)(t:TypeId):Bool:=match P.underlying t with
 |some .string=>true
 |_=>false
theorem ve(h:y9 P t=true):P.underlying t=some .string:=by
 unfold y9 at h;split at h
 . assumption
 . cases h
def Aj(P:Program)(o:Oper)(F:I V)(h:I O)(n:Nat):Option (ah×h2):=
 match o.op with
 | .indexAddr t x i=>match iK F x,iK F i with
   |some (.eS (some (m,off)) len _ jm),some (.int _ ix)=>match uA P t with
    |some s=>match Nat.beq s jm with
     |true=>some ([0<=ix/\ix<len],.val (.ptr (some (m,off+ix.toNat*s))) h n)
     |false=>none
    |none=>none
   |_,_=>kn P o F h n
 | .load t a=>match iK F a with
   |some (.ptr (some (m,off)))=>match h.get m with
    |some (.ints k ks)=>match AZ P t k ks off with
     |some (p,v)=>some ([p],.val v h n)
     |none=>none
    |some (.own k ks)=>match AZ P t k ks off with
     |some (p,v)=>some ([p],.val v h n)
     |none=>none
    |_=>kn P o F h n
   |_=>kn P o F h n
 | .store t a x=>match iK F a,iK F x with
   |some (.ptr (some (m,off))),some v=>match h.get m with
    |some (.own k ks)=>match Cd P t h v m off k ks with
     |some (s',h')=>some (s',.val (.gC []) h' n)
     |none=>none
    |_=>kn P o F h n
   |_,_=>kn P o F h n
 | .call c=>match c.callee with
   | .builtin .append=>match uc F c.args.toList with
     |some [s,x]=>match Oh h s||Oh h x with
      |true=>match Nat.beq c.argTypes.size 2 with
       |true=>y8 P c.argTypes [s,x] h n
       |false=>none
      |false=>kn P o F h n
     |_=>kn P o F h n
   |_=>kn P o F h n
 | .slice t x (some lo) (some hi) none=>match iK F x,iK F lo,iK F hi with
   |some (.eS a len jH jm),some (.int _ lx),some (.int _ H)=>match uA P t with
    |some s=>match Nat.beq s jm||a.isNone with
     |true=>some ([0<=H/\H<=jH,0<=lx/\lx<=H.toNat],.val (.eS (match a with|none=>none|some (b,o)=>some (b,o+lx.toNat*jm)) (H.toNat-lx.toNat) (jH-lx.toNat) jm) h n)
     |false=>none
    |none=>none
   |some (.str s),some (.int _ lx),some (.int _ H)=>match y9 P t with
    |true=>some ([0<=H/\H<=s.length,0<=lx/\lx<=H.toNat],.val (.str ((s.take H.toNat).drop lx.toNat)) h n)
    |false=>none
   |_,_,_=>kn P o F h n
 | .slice t x none (some hi) none=>match iK F x,iK F hi with
   |some (.eS a len jH jm),some (.int _ H)=>match uA P t with
    |some s=>match Nat.beq s jm||a.isNone with
     |true=>some ([0<=H/\H<=jH],.val (.eS (match a with|none=>none|some (b,o)=>some (b,o+0*jm)) (H.toNat-0) (jH-0) jm) h n)
     |false=>none
    |none=>none
   |some (.str s),some (.int _ H)=>match y9 P t with
    |true=>some ([0<=H/\H<=s.length],.val (.str ((s.take H.toNat).drop 0)) h n)
    |false=>none
   |_,_=>kn P o F h n
 | .slice t x (some lo) none none=>match iK F x,iK F lo with
   |some (.eS a len jH jm),some (.int _ lx)=>match uA P t with
    |some s=>match Nat.beq s jm||a.isNone with
     |true=>some ([0<=lx/\lx<=len],.val (.eS (match a with|none=>none|some (b,o)=>some (b,o+lx.toNat*jm)) (len-lx.toNat) (jH-lx.toNat) jm) h n)
     |false=>none
    |none=>none
   |some (.str s),some (.int _ lx)=>match y9 P t with
    |true=>some ([0<=lx/\lx<=s.length],.val (.str ((s.take s.length).drop lx.toNat)) h n)
    |false=>none
   |_,_=>kn P o F h n
 | .binOp .eql t x y _=>match iK F x,iK F y with
   |some (.agg xs),some (.agg ys)=>match KK P t xs ys with
    |some r=>some ([],.val (.bool r) h n)
    |none=>none
   |_,_=>kn P o F h n
 | .binOp .neq t x y _=>match iK F x,iK F y with
   |some (.agg xs),some (.agg ys)=>match KK P t xs ys with
    |some r=>some ([],.val (.bool (!r)) h n)
    |none=>none
   |_,_=>kn P o F h n
 | .binOp .quo t x y _=>match iK F x,iK F y with
   |some (.int k a),some (.int k' b)=>match decide (k=k')with
    |true=>some ([b≠0],.val (.int k (k.wrap (a.tdiv b))) h n)
    |false=>none
   |_,_=>kn P o F h n
 | .index t x i=>match iK F x,iK F i with
   |some (.str s),some (.int _ ix)=>match y9 P t with
    |true=>some ([0<=ix/\ix.toNat<s.length],.val (.int .u8 (s.getD ix.toNat 0).toNat) h n)
    |false=>none
   |some (.agg (.int k0 N::T)),some (.int _ ix)=>match pxT P t with
    |some (len,_,sz)=>some ([0<=ix/\ix<len,ix.toNat*sz+sz<=(V.int k0 N::T).length],.val (.agg (List.take sz (List.drop (ix.toNat*sz) (V.int k0 N::T)))) h n)
    |none=>kn P o F h n
   |_,_=>kn P o F h n
 |_=>kn P o F h n
theorem gM{l:ah}{r:h2}(e:kn P o F h n=some (l,r)):dO P o F h n=some r:=by
 unfold kn at e;split at e
 . rename_i r' hr;simp only[aq,aF]at e;obtain⟨_,rfl⟩:=e;exact hr
 . cases e
theorem o7{s:Nat}(e:uA P t=some s):∃el,P.underlying t=some (.slice el)/\kf P el=some s:=by
 unfold uA tU at e;cases hu:P.underlying t with
 |none=>simp[hu]at e
 |some d=>cases d<;>simp[hu]at e
          exact⟨_,rfl,e⟩
theorem rN{l:ah}{r:h2}(e:Aj P o F h n=some (l,r))(hl:∀p∈l,p):dO P o F h n=some r:=by
 unfold Aj at e;split at e
 . rename_i t x i ho;split at e
   . rename_i m off len cp jm k ix H hi;split at e
     . rename_i s hs;split at e
       . rename_i hb;obtain⟨rfl,rfl⟩:=fW e;have hb:=aA hb;subst hb;obtain⟨el,Q,R⟩:=o7 hs;have K:=hl _ (aG.2 rfl);simp only[dO,ho,H,hi,nv,Q,R,kx];rw[aE (by exact⟨K.1,K.2,trivial⟩)]
       . cases e
     . cases e
   . exact gM e
 . rename_i t a ho;split at e
   . rename_i m off ha;split at e
     . rename_i k ks S;split at e
       . rename_i p v hs;obtain⟨rfl,rfl⟩:=fW e;have hp:p:=hl _ (aG.2 rfl);simp only[dO,ho,ha,loadAt,S,Ce hs hp,kx]
       . cases e
     . rename_i k ks S;split at e
       . rename_i p v hs;obtain⟨rfl,rfl⟩:=fW e;have hp:p:=hl _ (aG.2 rfl);simp only[dO,ho,ha,loadAt,S,Ce hs hp,kx]
       . cases e
     . exact gM e
   . exact gM e
 . rename_i t a x ho;split at e
   . rename_i m off v ha H;split at e
     . rename_i k ks S;split at e
       . rename_i s' h' hs;obtain⟨rfl,rfl⟩:=fW e;simp only[dO,ho,ha,H,He S hs hl]
       . cases e
     . exact gM e
   . exact gM e
 . rename_i c ho;split at e
   . rename_i K;split at e
     . rename_i s x mj;split at e
       . split at e
         . rename_i hb;have hb:=aA hb;simp only[dO,ho,vC,mj,K,kQ,hb,if_true];exact E8 e hl
         . cases e
       . exact gM e
     . exact gM e
   . exact gM e
 . rename_i t x lo hi ho;split at e
   . rename_i a len cp jm k lx k2 H o6 CT LZ;split at e
     . rename_i s hs;split at e
       . rename_i hb;obtain⟨rfl,rfl⟩:=fW e;obtain⟨el,Q,R⟩:=o7 hs;have K:=hl _ (bz ..);have VM:=hl _ (bj _ (aG.2 rfl));have AV:s=jm\/a=none:=by
          simp only[bV,Option.isNone_iff_eq_none]at hb;exact hb.imp aA _root_.id
         simp only[dO,ho,o6,CT,LZ,lZ,lY,Q,R,kx,Option.isSome_none,aM,false_and,cr];rw[aE AV];simp only[eT,aE K,aE VM];cases a<;>rfl
       . cases e
     . cases e
   . rename_i s k lx k2 H o6 CT LZ;split at e
     . rename_i hs;obtain⟨rfl,rfl⟩:=fW e;have K:=hl _ (bz ..);have VM:=hl _ (bj _ (aG.2 rfl));simp only[dO,ho,o6,CT,LZ,lZ,lY,ve hs,kx,Option.isSome_none,aM,false_and,cr,eT,aE K,aE VM]
     . cases e
   . exact gM e
 . rename_i t x hi ho;split at e
   . rename_i a len cp jm k H o6 LZ;split at e
     . rename_i s hs;split at e
       . rename_i hb;obtain⟨rfl,rfl⟩:=fW e;obtain⟨el,Q,R⟩:=o7 hs;have K:=hl _ (aG.2 rfl);have AV:s=jm\/a=none:=by
          simp only[bV,Option.isNone_iff_eq_none]at hb;exact hb.imp aA _root_.id
         simp only[dO,ho,o6,LZ,lZ,lY,Q,R,kx,Option.isSome_none,aM,false_and,cr];rw[aE AV];simp only[eT,aE K];cases a<;>rfl
       . cases e
     . cases e
   . rename_i s k H o6 LZ;split at e
     . rename_i hs;obtain⟨rfl,rfl⟩:=fW e;have K:=hl _ (aG.2 rfl);simp only[dO,ho,o6,LZ,lZ,lY,ve hs,kx,Option.isSome_none,aM,false_and,cr,eT,aE K]
     . cases e
   . exact gM e
 . rename_i t x lo ho;split at e
   . rename_i a len cp jm k lx o6 LZ;split at e
     . rename_i s hs;split at e
       . rename_i hb;obtain⟨rfl,rfl⟩:=fW e;obtain⟨el,Q,R⟩:=o7 hs;have K:=hl _ (aG.2 rfl);have AV:s=jm\/a=none:=by
          simp only[bV,Option.isNone_iff_eq_none]at hb;exact hb.imp aA _root_.id
         simp only[dO,ho,o6,LZ,lZ,lY,Q,R,kx,Option.isSome_none,aM,false_and,cr];rw[aE AV];simp only[eT,aE K];cases a<;>rfl
       . cases e
     . cases e
   . rename_i s k lx o6 LZ;split at e
     . rename_i hs;obtain⟨rfl,rfl⟩:=fW e;have K:=hl _ (aG.2 rfl);simp only[dO,ho,o6,LZ,lZ,lY,ve hs,kx,Option.isSome_none,aM,false_and,cr,eT,aE K]
     . cases e
   . exact gM e
 . rename_i t x y yt ho;split at e
   . rename_i xs ys H hy;split at e
     . rename_i r hr;obtain⟨rfl,rfl⟩:=fW e;simp only[dO,ho,H,hy,Bp,G8 hr,bu,kx]
     . cases e
   . exact gM e
 . rename_i t x y yt ho;split at e
   . rename_i xs ys H hy;split at e
     . rename_i r hr;obtain⟨rfl,rfl⟩:=fW e;simp only[dO,ho,H,hy,Bp,G8 hr,bu,kx]
     . cases e
   . exact gM e
 . rename_i t x y yt ho;split at e
   . rename_i k a k' b H hy;split at e
     . rename_i Y;have Y:=aW Y;subst Y;obtain⟨rfl,rfl⟩:=fW e;have hb:b≠0:=hl _ (aG.2 rfl);have:Bp P .quo t x y (.int k a) (.int k b)=some (.int k (k.wrap (a.tdiv b))):=by
        simp[Bp,binOp,Op.intDiv,hb,si,iI];rfl
       simp only[dO,ho,H,hy,this,kx]
     . cases e
   . exact gM e
 . rename_i t x i ho;split at e
   . rename_i s k ix H hi;split at e
     . rename_i hs;obtain⟨rfl,rfl⟩:=fW e;have K:0<=ix/\ix.toNat<s.length:=hl _ (aG.2 rfl);have hg:s[ix.toNat]? =some s[ix.toNat]:=au K.2;have hd:s.getD ix.toNat 0=s[ix.toNat]:=by rw[ax,hg];rfl
       simp only[dO,ho,H,hi,Br,ve hs,aE K.1,hg,hd,kx]
     . cases e
   . rename_i k0 m0 T k ix H hi;split at e
     . rename_i len el sz hs;obtain⟨rfl,rfl⟩:=fW e;have K:0<=ix/\ix<len:=hl _ (by simp);have hd:ix.toNat*sz+sz<=(V.int k0 m0::T).length:=hl (ix.toNat*sz+sz<=(V.int k0 m0::T).length) (by simp);obtain⟨q1,q2,q3⟩:=VJ hs;simp only[dO,ho,H,hi,Br,q1,q3,aE K,nX,kJ,q2,cut,aE hd,bu,kx]
     . exact gM e
   . exact gM e
 . exact gM e
end
inductive lI where
 |split
 |dy (v:V)
def Uu:List (Nat×lI)->Nat->Option lI
 | [],_=>none
 |x::r,d=>match Nat.beq x.1 d with
  |true=>some x.2
  |false=>Uu r d
section
variable(hx:List (Nat×lI))(dst:Option Nat)
def Je(v:V):iW V:=
 match dst with
 |none=>.ret v
 |some d=>match Uu hx d with
  |none=>.ret v
  |some (.dy u)=>some [(⟨[],[],[v=u]⟩,u)]
  |some .split=>match v with
   | .bool c=>some [(⟨[(c,true)],[],[]⟩,.bool true),(⟨[(c,false)],[],[]⟩,.bool false)]
   |v=>.ret v
theorem pS(v:V):fE (Je hx dst v) (some v):=by
 unfold Je;split
 . exact .ret v
 . split
   . exact .ret v
   . rename_i u hu;intro l h;obtain rfl:=eB h;refine⟨⟨_,aG.2 rfl,fun c K=>by simp at K⟩,fun e he _ hg=>?_⟩;simp only[aG]at he;subst he;have:v=u:=hg.2 _ (aG.2 rfl);rw[this]
   . split
     . rename_i c;intro l h;obtain rfl:=eB h;refine⟨?_,fun e he ho _=>?_⟩
       . cases K:c with
         |true=>exact⟨(⟨[(true,true)],[],[]⟩,.bool true),by simp,fun x H=>by simp only[aG]at H;subst H;rfl⟩
         |false=>exact⟨(⟨[(false,false)],[],[]⟩,.bool false),by simp,fun x H=>by simp only[aG]at H;subst H;rfl⟩
       . simp only[aD,aI,bh]at he;rcases he with rfl|rfl
         . have:c=true:=ho (c,true) (aG.2 rfl);rw[this]
         . have:c=false:=ho (c,false) (aG.2 rfl);rw[this]
     . exact .ret _
end
abbrev Zi:=FuncId->ag->I O->Option (ah×V)
def oU:Option (pn×I O×Nat)->Option (V×I O×Nat)
 |some (.ret v,h,n)=>some (v,h,n)
 |_=>none
theorem pU{α:Type}{m:iW α}{r r':Option α}(h:fE m r)(e:∀a,r=some a->r'=some a):fE m r':=by
 intro l hl;obtain⟨Q,R⟩:=h l hl;exact⟨Q,fun x H ho hg=>e _ (R x H ho hg)⟩
section
variable(P:Program)(hm:Zi)(cf:fL)(hx:List (Nat×lI))
theorem sU{α β:Type}(a:α)(g:α->Option β):(some a).bind g=g a:=rfl
def Mf{α β:Type}:Option (α ⊕ β)->Option α
 |some (.inl a)=>some a
 |_=>none
def A6(f:St->iW (es×St)):Nat->St->iW (es×St)
 |0,_=>none
 |k+1,s=>(f s).then fun p=>match p.1 with
  | .normal=>A6 f k p.2
  |_=>.ret p
theorem vK{f:St->iW (es×St)}{g:St->Option (es×St)}(h:∀s,fE (f s) (g s)):∀(k:Nat) (s:St),fE (A6 f k s) (rounds g k s)
 |0,s=>.none _
 |k+1,s=>by
  simp only[A6,rounds];refine(fE.then (h s) (g:=fun p=>match p.1 with | .normal=>rounds g k p.2|_=>some p) (fun p=>?_)).of_eq ?_
  . obtain⟨x,A⟩:=p;cases x with
    |normal=>exact vK h k A
    |_=>exact .ret _
  . cases g s with
    |none=>rfl
    |some p=>obtain⟨x,A⟩:=p;cases x<;>rfl
end
section
variable{P:Program}{hm:Zi}{cf:fL}{hx:List (Nat×lI)}{fr n0:Nat}{w0:World}{c:Code}{s:St}{h1:Exit->St->Prop}
def uB{α:Type}(f:es×St->α):List (sQ×es×St)->List (List (Bool×Bool)×ah×α)
 | []=>[]
 |(p,x)::r=>(p.conds,p.M4,f x)::uB f r
def pV{α:Type}:List (sQ×α)->ag
 | []=>[]
 |(p,_)::r=>p.same.map (·.1)++pV r
def uC{α:Type}:List (sQ×α)->ag
 | []=>[]
 |(p,_)::r=>p.same.map (·.2)++uC r
def tE{α:Type}:iW α->List (sQ×α)
 |some l=>l
 |none=>[]
theorem Hf:∀{l:List (V×V)},l.map (·.1)=l.map (·.2)->∀c∈l,c.1=c.2
 | [],_,c,K=>by simp at K
 |x::r,h,c,K=>by
  simp only[cC,List.cons.injEq]at h;rcases aD.1 K with rfl|K
  . exact h.1
  . exact Hf h.2 c K
theorem qt{α:Type}:∀(l:List (sQ×α)),pV l=uC l->∀p∈l,∀c∈p.1.same,c.1=c.2
 | [],_,p,hp=>by simp at hp
 |(q,x)::r,h,p,hp=>by
  simp only[pV,uC]at h;have hl:(q.same.map (·.1)).length=(q.same.map (·.2)).length:=by simp
  obtain⟨Q,R⟩:=List.append_inj h hl;rcases aD.1 hp with rfl|hp
  . exact Hf Q
  . exact qt r R p hp
theorem my{α:Type}{f:es×St->α}:∀{l:List (sQ×es×St)} {p:sQ×es×St},p∈l->(p.1.conds,p.1.M4,f p.2)∈uB f l
 | [],p,hp=>by simp at hp
 |(q,x)::r,p,hp=>by
  rcases aD.1 hp with rfl|hp
  . simp[uB]
  . simp only[uB,aD];exact .inr (my hp)
end
theorem uD{E:Env}{h:I O}{n:Nat}{w:World}{v:V}(g:Good E h w)(hd:pH E n)(hv:v.free=true){e:Ending}{w':World}(ho:∃E',wm E' (.ret v) e)(b:Below w.heap.size w w'):iC E h n w (.ret v) h n e w':=by
 refine⟨E,.below g b,fun _ _=>rfl,hd,aK _,?_⟩
 . obtain⟨E1,ho⟩:=ho;cases e with
   |returned v'=>exact uy _ _ hv ho
   |_=>exact ho.elim
def dw(args:ag)(h:I O)(n:Nat):St:={ F:=lg args 0 .nil,h:=h,n:=n,gZ:=[] }
section
variable{P:Program}{hm:Zi}{cf:fL}{hx:List (Nat×lI)}{fr:Nat}{f:FuncId}{fn:Func}{code:Code}
end
def Env.two(E:Env)(a b:Option Nat):Env:=⟨fun j=>match j with|0=>a.bind E.ι|1=>b.bind E.ι|_=>none,E.β,E.φ⟩
section
variable{P:Program}{hm:Zi}{cf:fL}{hx:List (Nat×lI)}{fr n0:Nat}{w0:World}{c:Code}{s:St}{h1:Exit->St->Prop}
def agv(P:Program)(cf:fL)(fr:Nat)(fn:Func)(v:V)(y:Exit)(A:St):Prop:=(y= .normal\/y= .ret)/\∃h' n',mK P cf fr fn A.F A.gZ .ret A.h A.n=some (.ret v,h',n')
inductive Res where
 |next (s:St)
 |exit (id:Nat) (s:St)
 |ret (v:V)
 |bad
def Res.post(P:Program)(cf:fL)(fr:Nat)(fn:Func)(live:List Nat)(Tr:Nat->St->Prop)(k:Nat)(h1:Exit->St->Prop):Res->Prop
 | .next s=>∃k',k'<k/\Tr k' s
 | .exit id s=>∀A,norm live A=some s->h1 (.exit id) A
 | .ret v=>∀A,agv P cf fr fn v .ret A->h1 .ret A
 | .bad=>False
end
section
variable{P:Program}{hm:Zi}{cf:fL}{fr n0:Nat}{w0:World}{c:Code}{s:St}{h1:Exit->St->Prop}
theorem Mg{fr:Fence}{n:Nat}{o:Oper}{a:Act}{w:World}{hc K':Act->World->Prop}{h1 Q':Exit->Act->World->Prop}(Y:∀a w,hc a w->K' a w)(hq:∀y a w,y≠ .normal->h1 y a w->Q' y a w)(h:o.wpIn fr n P a w hc h1):o.wpIn fr n P a w K' Q':=by
 have aaF:LetsOut h1->LetsOut Q':=fun⟨a,w,q⟩=>⟨a,w,hq _ a w (by simp) q⟩;unfold Oper.wpIn at *;refine⟨h.1,?_⟩;have hh:=h.2;generalize (o.semAt fr.round a.eval).run P w=r at *;cases r with
 |ok x w'=>
  cases x<;>simp only[Oper.uponIn]at hh⊢ <;>
   first
    |exact Y _ _ hh
    |exact⟨hh.1,CallsIn.mono hh.2 (fun e Z8 he=>by cases e<;>first|exact Y _ _ he|exact hq _ _ _ (by simp) he|exact aaF he)⟩
    |exact⟨hh.1,RowsIn.mono hh.2 (fun _ _ he=>Y _ _ he)⟩
    |exact⟨hh.1,RoundIn.mono hh.2 (fun e Z8 he=>by cases e<;>first|exact Y _ _ he|exact hq _ _ _ (by simp) he|exact aaF he)⟩
    |exact hh
 |halt x w'=>cases x<;>simp only[Oper.uponIn]at hh⊢<;>first|exact hq _ _ _ (by simp) hh|exact hh
end
theorem Dp.fresh{w0 w:World}{E:Env}{h:I O}{q:Nat}{o:O}(u:Dp w0 E h w)(hq:h.get q=some o)(hw:o.wr=true):∀b s,E.ι q=some (b,s)->w0.heap.size<=b:=by
 intro b s e;by_cases q':b<w0.heap.size
 . exact(u.tv q b s ⟨_,hq,hw⟩ e q').elim
 . omega
abbrev jY:=FuncId->ag->I O->Nat->iW (V×I O×Nat)
def qM(T:jY)(cf:fL):Prop:=∀f args h n,fE (T f args h n) (oU (cf f args h n))
section
variable(P:Program)(o:Oper)(F:I V)(h:I O)(n:Nat)
def kX:Option (ah×h2):=
 match o.op with
 | .binOp .add t x y _=>match iK F x,iK F y with
   |some (.str a),some (.str b)=>some ([a.length+b.length<=vR],.val (.str (a++b)) h n)
   |_,_=>Aj P o F h n
 | .binOp .rem t x (.tmp y) _=>match iK F x,F.get y with
   |some (.int k a),some (.int k' b)=>match decide (k=k')with
    |true=>some ([b≠0],.val (.int k (a.tmod b)) h n)
    |false=>none
   |_,_=>Aj P o F h n
 | .indexAddr t x (.tmp i)=>match iK F x,F.get i with
   |some (.ptr (some (m,off))),some (.int _ ix)=>match P.underlying t with
    |some (.array len e)=>match kf P e with
     |some s=>some ([0<=ix/\ix<len],.val (.ptr (some (m,off+ix.toNat*s))) h n)
     |none=>none
    |_=>Aj P o F h n
   |_,_=>Aj P o F h n
 | .makeSlice t (.tmp l) (.tmp c)=>match tU P t,F.get l,F.get c with
   |some e,some (.int _ lv),some (.int _ cv)=>match P.info? e,zeroOf P e with
    |some i,some z=>match E7 i z,newObj h n (uT z.cells (IntKind.i64.wrap cv).toNat).DE with
     |true,some (h',n')=>some ([0<=IntKind.i64.wrap lv/\IntKind.i64.wrap lv<=IntKind.i64.wrap cv/\i.bytes*IntKind.i64.wrap cv<=281474976710656],.val (.eS (some (n,0)) (IntKind.i64.wrap lv).toNat (IntKind.i64.wrap cv).toNat i.size) h' n')
     |_,_=>none
    |_,_=>none
   |_,_,_=>Aj P o F h n
 |_=>Aj P o F h n
theorem iB{P:Program}{o:Oper}{F:I V}{h:I O}{n:Nat}{l:ah}{r:h2}(e:kX P o F h n=some (l,r))(hl:∀p∈l,p):dO P o F h n=some r:=by
 unfold kX at e;split at e
 . rename_i t x y u ho;split at e
   . rename_i a b ha hb;obtain⟨rfl,rfl⟩:=fW e;have jO:=hl _ (aG.2 rfl);unfold dO;rw[ho];simp only[ha,hb];unfold Bp No;simp only[aE jO,kx]
   . exact rN e hl
 . rename_i t x y yt ho;split at e
   . rename_i k a k' b H hy;split at e
     . rename_i Y;have Y:=aW Y;subst Y;obtain⟨rfl,rfl⟩:=fW e;have hb:b≠0:=hl _ (aG.2 rfl);have hy':iK F (.tmp y)=some (.int k b):=hy;have:Bp P .rem t x (.tmp y) (.int k a) (.int k b)=some (.int k (a.tmod b)):=by
        simp[Bp,binOp,Op.intDiv,hb,si,iI];rfl
       simp only[dO,ho,H,hy',this,kx]
     . cases e
   . exact rN e hl
 . rename_i t x i ho;split at e
   . rename_i m off k ix H hi;split at e
     . rename_i len el hu;split at e
       . rename_i sz hs;obtain⟨rfl,rfl⟩:=fW e;have D2:=hl _ (aG.2 rfl);have jr:iK F (.tmp i)=some (.int k ix):=hi;unfold dO;rw[ho];simp only[H,jr];unfold nv;simp only[hu,hs,aE D2,kx]
       . cases e
     . exact rN e hl
   . exact rN e hl
 . rename_i t l1 c1 ho;split at e
   . rename_i el k1 lv k2 cv he Q R;split at e
     . rename_i i z hi hz;split at e
       . rename_i h' n' hb hn;obtain⟨rfl,rfl⟩:=fW e;simp only[E7,ay,aX]at hb;have D2:=hl _ (aG.2 rfl);have ot:iK F (.tmp l1)=some (.int k1 lv):=Q;have DL:iK F (.tmp c1)=some (.int k2 cv):=R;unfold dO;rw[ho];simp only[ot,DL];unfold nu;simp only[he,hi,hz];rw[aE ⟨hb.1,hb.2.2,D2.1,D2.2.1,D2.2.2⟩];simp only[hn]
       . cases e
     . cases e
   . exact rN e hl
 . exact rN e hl
def dj(T:ai)(o size:Nat):ai:=(T.drop o).take size
def D.AB:D:=.bool false
def Cf(t:TypeId)(T:ai)(off:Nat):Option (Prop×V):=match Gg P t with
 |some false=>some (off<T.length,(T.getD off D.AB).jJ)
 |some true=>match kf P t with
  |some sz=>some (off+sz<=T.length,.agg (D.fN (dj T off sz)))
  |none=>none
 |none=>none
theorem Hg{P:Program}{t:TypeId}{T:ai}{off:Nat}{p:Prop}{v:V}(e:Cf P t T off=some (p,v))(hp:p):kJ P t (D.fN T) off=some v:=by
 unfold Cf at e;split at e
 . rename_i VL;obtain⟨rfl,rfl⟩:=fW e;simp only[kJ,VL,D.ga,bE,au hp,bu,ax,b7]
 . rename_i VL;split at e
   . rename_i sz hs;obtain⟨rfl,rfl⟩:=fW e;simp only[kJ,VL,hs,cut,D.ga,bI,aE hp,bu,dj,dc,List.map_drop]
   . cases e
 . cases e
def za(t:TypeId)(h:I O)(v:V)(m o:Nat)(T:ai):Option (ah×I O):=
 match kf P t,ij v.cells with
 |some s,some new=>match Nat.beq v.cells.length s&&(Nat.blt 0 s&&Nat.blt m fV)with
  |true=>some ([o+s<=T.length],h.set m (some (.deep (tS T o new))))
  |false=>none
 |_,_=>none
theorem E9{P:Program}{t:TypeId}{h h':I O}{v:V}{m o:Nat}{T:ai}{s':ah}(S:h.get m=some (.deep T))(e:za P t h v m o T=some (s',h'))(hA:∀a∈s',a):storeAt P t h v (.ptr (some (m,o)))=some h':=by
 unfold za at e;split at e
 . rename_i s new Q R;split at e
   . rename_i hb;obtain⟨rfl,rfl⟩:=fW e;simp only[ay]at hb;have h3:=aA hb.1;have h4:0<s:=az hb.2.1;have h5:m<fV:=az hb.2.2;have h6:o+s<=T.length:=hA _ (by simp);simp only[storeAt,S,Q,R];rw[aE ⟨h3,h4,h5⟩,aE h6]
   . cases e
 . cases e
def pW(AB:Nat)(y:Nat):Option V->Option (ah×Nat)
 |none=>some ([],AB)
 |some (.int _ i)=>some ([0<=i/\i<=y],i.toNat)
 |some _=>none
theorem oe{AB y r:Nat}{o:Option V}{s':ah}(e:pW AB y o=some (s',r))(hA:∀a∈s',a):eT AB y o=some r:=by
 unfold pW at e;split at e
 . simp only[aq,aF]at e;obtain⟨_,rfl⟩:=e;rfl
 . obtain⟨rfl,rfl⟩:=fW e;simp only[eT,aE (hA _ (aG.2 rfl))]
 . cases e
def zb(s:Nat)(f:Bool)(len:Nat)(T:ai)(lo hi mx:Option V):Option (ah×V):=
 match mx with
 |none=>match pW len len hi with
  |some (s',h)=>match pW 0 h lo with
   |some (aj,l)=>some ((T.length=len*s)::(s'++aj),.eo (f&& !hi.isSome) (h-l) (dj T (l*s) ((h-l)*s)))
   |none=>none
  |none=>none
 |some mv=>match pW len len (some mv),hi with
  |some (be,m),some hv=>match pW len m (some hv)with
   |some (s',h)=>match pW 0 h lo with
    |some (aj,l)=>some ((T.length=len*s)::(h=m)::(be++(s'++aj)),.eo true (h-l) (dj T (l*s) ((h-l)*s)))
    |none=>none
   |none=>none
  |_,_=>none
theorem Fa{P:Program}{t el:TypeId}{s len:Nat}{f:Bool}{T:ai}{lo hi mx:Option V}{h:I O}{s':ah}{v:V}(hu:P.underlying t=some (.slice el))(hs:kf P el=some s)
  (e:zb s f len T lo hi mx=some (s',v)) (hA:∀a∈s',a):lY P t h (.eo f len T) lo hi mx=some v:=by
 unfold zb at e;split at e
 . split at e
   case h_2=>cases e
   rename_i A1 hh Q;split at e
   case h_2=>cases e
   rename_i B1 l R;obtain⟨rfl,rfl⟩:=fW e;have k1:=oe Q fun a ha=>hA a (by simp[ha]);have k2:=oe R fun a ha=>hA a (by simp[ha]);have k3:T.length=len*s:=hA _ (by simp);unfold lY;rw[aB (by simp)];simp only[hu,hs,aE k3,k1,k2,dj]
 . split at e
   case h_2=>cases e
   rename_i be m hv h0;split at e
   case h_2=>cases e
   rename_i A1 hh Q;split at e
   case h_2=>cases e
   rename_i B1 l R;obtain⟨rfl,rfl⟩:=fW e;have k0:=oe h0 fun a ha=>hA a (by simp[ha]);have k1:=oe Q fun a ha=>hA a (by simp[ha]);have k2:=oe R fun a ha=>hA a (by simp[ha]);have k3:T.length=len*s:=hA _ (by simp);have k4:hh=m:=hA _ (by simp);unfold lY;rw[aB (by simp)];simp only[hu,hs,aE k3,k0,k1,k2,aE k4,dj]
def Oj(t:TypeId):Bool:=match P.underlying t with
 |some (.slice _)=>true
 |_=>false
def Jf:Option (ah×h2):=
 match o.op with
 | .load t a=>match iK F a with
   |some (.ptr (some (m,off)))=>match h.get m with
    |some (.deep T)=>match Cf P t T off with
     |some (p,v)=>some ([p],.val v h n)
     |none=>none
    |_=>kX P o F h n
   |_=>kX P o F h n
 | .store t a x=>match iK F a,iK F x with
   |some (.ptr (some (m,off))),some v=>match h.get m with
    |some (.deep T)=>match za P t h v m off T with
     |some (s',h')=>some (s',.val (.gC []) h' n)
     |none=>none
    |_=>kX P o F h n
   |_,_=>kX P o F h n
 | .indexAddr t x i=>match iK F x,iK F i with
   |some (.eo _ len T),some (.int _ ix)=>match uA P t with
    |some s=>some ([0<=ix/\ix<len,T.length=len*s],.val (.dr (dj T (ix.toNat*s) s)) h n)
    |none=>none
   |_,_=>kX P o F h n
 | .slice t x lo hi mx=>match iK F x with
   |some (.eo f len T)=>match uA P t,lZ F lo,lZ F hi,lZ F mx with
    |some s,some lo,some hi,some mx=>match zb s f len T lo hi mx with
     |some (s',v)=>some (s',.val v h n)
     |none=>none
    |_,_,_,_=>none
   |_=>kX P o F h n
 | .convert KC dst x=>match iK F x with
   |some (.eS (some (m,off)) len _ jm)=>match tV (h.get m)with
    |some s0=>match P.underlying KC,P.underlying dst,Nat.beq jm 1 with
     |some (.slice e),some .string,true=>match P.underlying e with
      |some (.int .u8)=>some ([off+len<=s0.length],.val (.str ((s0.drop off).take len)) h n)
      |_=>none
     |_,_,_=>none
    |none=>match zP (h.get m)with
    |some ks=>match P.underlying KC,P.underlying dst,Nat.beq jm 1 with
     |some (.slice e),some .string,true=>match P.underlying e with
      |some (.int .u8)=>some ([off+len<=ks.length],.val (.str (ir ((ks.drop off).take len))) h n)
      |_=>none
     |_,_,_=>none
    |none=>kX P o F h n
   |_=>kX P o F h n
 | .call c=>match c.callee,uc F c.args.toList with
   | .builtin .unsafeSliceData,some [.eS (some (m,off)) _ jH _]=>some ([0<jH],.val (.ptr (some (m,off))) h n)
   | .builtin .unsafeString,some [.ptr (some (m,0)),.int .i64 l]=>match c.argTypes[0]? with
     |some pt=>match P.underlying pt,h.get m with
      |some (.pointer e),some (.tr el _ s)=>match decide (el=e)&&(Nat.beq (P.cellsOf e) 1&&(Nat.blt m fV&&Nat.beq c.argTypes.size 2))with
       |true=>some ([l=s.length/\0<s.length,s.length<=vR],.val (.str s) (h.set m (some (.tr el true s))) n)
       |false=>none
      |_,_=>none
     |none=>none
   |_,_=>kX P o F h n
 | .binOp .eql t x y _=>match iK F x,iK F y with
   |some (.eo _ k _),some (.eS none _ _ _)=>match Oj P t with
    |true=>some ([0<k],.val (.bool false) h n)
    |false=>none
   |_,_=>kX P o F h n
 | .mapEntry t m k=>match iK F m,iK F k with
   |some (.map (some r)),some kv=>match P.underlying t,h.get r with
    |some (.map kt et),some (.ow kk X)=>match P.underlying kt,zeroOf P et,keyOf kv with
     |some kd,some z,some k0=>match V.Iy z,kP kd kk&&(gm kk k0&&Nat.blt r fV)with
      |some z0,true=>some ([fe k0 X=none],.val (.gC [z,.int .i64 X.length]) (h.set r (some (.ow kk (X++[(k0,z0)])))) n)
      |_,_=>none
     |_,_,_=>none
    |_,_=>kX P o F h n
   |_,_=>kX P o F h n
 | .entryStore _ m st v=>match iK F m,iK F st,iK F v with
   |some (.map (some r)),some (.int _ b),some vv=>match h.get r with
    |some (.ow kk X)=>match V.Iy vv,Nat.blt r fV with
     |some v0,true=>some ([0<=b/\b<X.length],.val (.gC []) (h.set r (some (.ow kk (iy X b.toNat fun e=>(e.1,v0))))) n)
     |_,_=>none
    |_=>kX P o F h n
   |_,_,_=>kX P o F h n
 |_=>kX P o F h n
theorem R2{P:Program}{d:Nat}{t el:TypeId}{f:Bool}{k l c e:Nat}{T:ai}(hu:P.underlying t=some (.slice el)):DF P (d+1) t (.eo f (k+1) T) (.eS none l c e)=some false:=by
 simp only[DF,hu]
theorem Mh{P:Program}{o:Oper}{F:I V}{h:I O}{n:Nat}{l:ah}{r:h2}(e:Jf P o F h n=some (l,r))(hl:∀p∈l,p):dO P o F h n=some r:=by
 unfold Jf at e;split at e
 . rename_i t a ho;split at e
   . rename_i m off ha;split at e
     . rename_i T S;split at e
       . rename_i p v hs;obtain⟨rfl,rfl⟩:=fW e;have hp:p:=hl _ (aG.2 rfl);simp only[dO,ho,ha,loadAt,S,Hg hs hp,kx]
       . cases e
     . exact iB e hl
   . exact iB e hl
 . rename_i t a x ho;split at e
   . rename_i m off v ha H;split at e
     . rename_i T S;split at e
       . rename_i s' h' hs;obtain⟨rfl,rfl⟩:=fW e;simp only[dO,ho,ha,H,E9 S hs hl]
       . cases e
     . exact iB e hl
   . exact iB e hl
 . rename_i t x i ho;split at e
   . rename_i f len T k ix H hi;split at e
     . rename_i s hs;obtain⟨rfl,rfl⟩:=fW e;obtain⟨el,Q,R⟩:=o7 hs;have k1:=hl _ (bz ..);have k2:=hl _ (bj _ (aG.2 rfl));simp only[dO,ho,H,hi,nv,Q,R,kx];rw[aE ⟨k1,k2⟩];rfl
     . cases e
   . exact iB e hl
 . rename_i t x lo hi mx ho;split at e
   . rename_i f len T H;split at e
     . rename_i s lov hiv mxv hs Q R h3;split at e
       . rename_i s' v hv;obtain⟨rfl,rfl⟩:=fW e;obtain⟨el,k1,k2⟩:=o7 hs;simp only[dO,ho,H,Q,R,h3,Fa k1 k2 hv hl,kx]
       . cases e
     . cases e
   . exact iB e hl
 . rename_i KC dst x ho;split at e
   . rename_i m off len cp jm H;split at e
     . rename_i s0 IQ;split at e
       . rename_i el Q R h3;split at e
         . rename_i h4;obtain⟨rfl,rfl⟩:=fW e;have k1:=hl _ (aG.2 rfl);simp only[dO,ho,H,oD,Q,R,h4,aE (aA h3),IQ];rw[aE (Or.inr k1)]
         . cases e
       . cases e
     . rename_i IQ;split at e
       . rename_i ks ES;split at e
         . rename_i el Q R h3;split at e
           . rename_i h4;obtain⟨rfl,rfl⟩:=fW e;have k1:=hl _ (aG.2 rfl);simp only[dO,ho,H,oD,Q,R,h4,aE (aA h3),IQ,ES];rw[aE (Or.inr k1)]
           . cases e
         . cases e
       . exact iB e hl
   . exact iB e hl
 . rename_i c ho;split at e
   . rename_i m off x1 jH x2 K ha;obtain⟨rfl,rfl⟩:=fW e;have k1:=hl _ (aG.2 rfl);simp only[dO,ho,vC,ha,K,kQ,aE k1]
   . rename_i m l K ha;split at e
     . rename_i pt VA;split at e
       . rename_i e0 el x1 s hp S;split at e
         . rename_i hb;obtain⟨rfl,rfl⟩:=fW e;simp only[ay,aX]at hb;have k1:=hl _ (bz ..);have k2:=hl _ (bj _ (aG.2 rfl));simp only[dO,ho,vC,ha,K,kQ,VA,hp,S];rw[aE ⟨k1,⟨hb.1,aA hb.2.1⟩,az hb.2.2.1,aA hb.2.2.2,k2⟩]
         . cases e
       . cases e
     . cases e
   . exact iB e hl
 . rename_i t x y _ ho;split at e
   . rename_i f k T z1 z2 z3 H hy;split at e
     . rename_i hq;obtain⟨rfl,rfl⟩:=fW e;have k1:0<k:=hl _ (aG.2 rfl);obtain⟨k',rfl⟩:∃k',k=k'+1:=⟨k-1,G⟩;unfold Oj at hq;split at hq
       . rename_i el hu;simp only[dO,ho,H,hy,Bp,C7,R2 (d:=9999) hu,bu,kx]
       . cases hq
     . cases e
   . exact iB e hl
 . rename_i t m k ho;split at e
   . rename_i r kv S Y;split at e
     . rename_i kt et kk X hu hr;split at e
       . rename_i kd z k0 hkd hz IJ;split at e
         . rename_i z0 Y5 hb;simp only[ay]at hb;obtain⟨rfl,rfl⟩:=fW e;have k1:=hl _ (aG.2 rfl);have eM:r<fV:=az hb.2.2;simp only[dO,ho,S,Y,uV,hu,hr,hkd,hz,IJ,Y5,k1];rw[aE (by simp only[ay,aX];exact⟨hb.1,hb.2.1,eM⟩)]
         . cases e
       . cases e
     . exact iB e hl
   . exact iB e hl
 . rename_i x1 m st v ho;split at e
   . rename_i r x2 b vv S hs hv;split at e
     . rename_i kk X hr;split at e
       . rename_i v0 NT hb;obtain⟨rfl,rfl⟩:=fW e;have k1:=hl _ (aG.2 rfl);have eM:r<fV:=az hb;simp only[dO,ho,S,hs,hv,ql,hr,NT];rw[aE ⟨eM,k1⟩]
       . cases e
     . exact iB e hl
   . exact iB e hl
 . exact iB e hl
def Mi:iW h2:=match Jf P o F h n with
 |some (l,r)=>some [(⟨[],[],l⟩,r)]
 |none=>none
theorem sV:fE (Mi P o F h n) (dO P o F h n):=by
 intro l e;unfold Mi at e;split at e
 . rename_i a r hs;obtain rfl:=eB e;refine⟨⟨_,aG.2 rfl,fun c K=>by simp at K⟩,fun e he _ hg=>?_⟩;simp only[aG]at he;subst he;exact Mh hs hg.2
 . cases e
end
section
variable(P:Program)(T:jY)(cf:fL)(hx:List (Nat×lI))
def Mj(ops:Array Oper):List Oper->St->iW (es×St)
 | [],s=>.ret (.normal,s)
 |o::rest,s=>
  match fP ops o s.F with
  |some false=>match jn s.F o.dst (.gC [])with
   |some F=>Mj ops rest { s with F:=F }
   |none=>none
  |some true=>(Mi P o s.F s.h s.n).then fun r=>match r with
   | .val v h n=>(Je hx o.dst v).then fun v=>match jn s.F o.dst v with
     |some F=>Mj ops rest { s with F:=F,h:=h,n:=n }
     |none=>none
   | .call f args=>(T f args s.h s.n).then fun q=>(Je hx o.dst q.1).then fun v=>match jn s.F o.dst v with
     |some F=>Mj ops rest { s with F:=F,h:=q.2.1,n:=q.2.2 }
     |none=>none
   |_=>none
  |none=>none
theorem sW(qb:qM T cf)(ops:Array Oper):∀(l:List Oper) (s:St),fE (Mj P T hx ops l s) (jg P cf ops l s)
 | [],s=>.ret _
 |o::rest,s=>by
  simp only[Mj,jg];rcases fP ops o s.F with _|(_|_)
  . exact .none _
  . cases jn s.F o.dst (.gC [])with
    |none=>exact .none _
    |some F=>exact sW qb ops rest _
  . refine pU (fE.then (sV P o s.F s.h s.n) (g:=fun r=>match r with
     | .val v h n=>match jn s.F o.dst v with
       |some F=>jg P cf ops rest { s with F:=F,h:=h,n:=n }
       |none=>none
     | .call f args=>(oU (cf f args s.h s.n)).bind fun q=>match jn s.F o.dst q.1 with
       |some F=>jg P cf ops rest { s with F:=F,h:=q.2.1,n:=q.2.2 }
       |none=>none
     |_=>none) (fun r=>?_)) ?_
    . cases r with
      |val v h n=>
       refine(fE.then (pS hx o.dst v) (g:=fun v=>match jn s.F o.dst v with
        |some F=>jg P cf ops rest { s with F:=F,h:=h,n:=n }
        |none=>none) (fun v=>?_)).of_eq rfl
       cases jn s.F o.dst v with
       |none=>exact .none _
       |some F=>exact sW qb ops rest _
      |call f args=>
       refine fE.then (qb f args s.h s.n) (fun q=>?_);refine(fE.then (pS hx o.dst q.1) (g:=fun v=>match jn s.F o.dst v with
        |some F=>jg P cf ops rest { s with F:=F,h:=q.2.1,n:=q.2.2 }
        |none=>none) (fun v=>?_)).of_eq rfl
       cases jn s.F o.dst v with
       |none=>exact .none _
       |some F=>exact sW qb ops rest _
      |tL f c args=>exact .none _
      |recover=>exact .none _
      |panic v=>exact .none _
    . intro a ha;cases hs:dO P o s.F s.h s.n with
      |none=>rw[hs]at ha;cases ha
      |some r=>
       rw[hs]at ha;cases r with
       |call f args=>
        simp only[sU]at ha ⊢;cases hj:cf f args s.h s.n with
        |none=>rw[hj]at ha;cases ha
        |some q=>
         rw[hj]at ha;obtain⟨rZ,h,n⟩:=q;cases rZ with
         |ret v=>exact ha
         |ni v=>cases ha
       |val v h n=>exact ha
       |_=>cases ha
section
variable(N i:Nat)(o:Oper)(F:I V)
def KL(v:V)(x:I O):iW Unit:=
 (Mi P o F x (N+i)).then fun r=>match r with
  | .val u _ k=>match Nat.beq k (N+i)&&v.qq with
    |true=>some [(⟨[],[(u,v)],[]⟩,())]
    |false=>none
  |_=>none
theorem Ak(v:V)(x:I O):fE (KL P N i o F v x) (if mc P N i o F v x=true then some ()else none):=by
 unfold KL;refine(fE.then (sV P o F x (N+i)) (g:=fun r=>if(match r with | .val u _ k=>Nat.beq k (N+i)&&V.beq u v|_=>false)=true then some ()else none) (fun r=>?_)).of_eq ?_
 . cases r with
   |val u h k=>
    simp only;split
    . rename_i hb;simp only[ay]at hb;intro l e;obtain rfl:=eB e;refine⟨⟨_,aG.2 rfl,fun c K=>by simp at K⟩,fun e he _ hg=>?_⟩;simp only[aG]at he;subst he;have:u=v:=hg.1 (u,v) (aG.2 rfl);subst this;rw[aE (by rw[hb.1,V.beq_refl u hb.2];rfl)]
    . exact .none _
   |_=>exact .none _
 . unfold mc;cases dO P o F x (N+i)with
   |none=>rfl
   |some r=>cases r<;>rfl
end
def Hh(N i:Nat)(o:Oper)(F:I V)(v:V)(dx:af)(ia:Nat):List (Nat×Nat×I O)->iW Unit
 | []=>.ret ()
 |(e,m,x)::r=>match ek ia e with
  |true=>.ret ()
  |false=>(KL P N i o F v (gu N dx m x ia)).then fun _=>Hh N i o F v dx ia r
theorem Al(N i:Nat)(o:Oper)(F:I V)(v:V)(dx:af)(ia:Nat):∀l:List (Nat×Nat×I O),fE (Hh P N i o F v dx ia l) (if pz P N i o F v dx ia l=true then some ()else none)
 | []=>(fE.ret ()).of_eq rfl
 |(e,m,x)::r=>by
  simp only[Hh,pz];rcases Bool.eq_false_or_eq_true (ek ia e)with hb|hb
  . simp only[hb,if_true];exact .ret ()
  . simp only[hb,aM,cr];refine(fE.then (Ak P N i o F v _) (fun _=>Al N i o F v dx ia r)).of_eq ?_;cases mc P N i o F v (gu N dx m x ia)<;>cases pz P N i o F v dx ia r<;>rfl
def Cg(N:Nat)(dx:af)(m:Nat)(x:I O):List (Nat×Nat×Oper×I V×V)->iW Unit
 | []=>.ret ()
 |(j,ia,o,F,v)::r=>match ek m j with
  |true=>Cg N dx m x r
  |false=>(KL P N j o F v (gu N dx m x ia)).then fun _=>Cg N dx m x r
theorem sX(N:Nat)(dx:af)(m:Nat)(x:I O):∀l:List (Nat×Nat×Oper×I V×V),fE (Cg P N dx m x l) (if oK P N dx m x l=true then some ()else none)
 | []=>(fE.ret ()).of_eq rfl
 |(j,ia,o,F,v)::r=>by
  simp only[Cg,oK];rcases Bool.eq_false_or_eq_true (ek m j)with hb|hb
  . simp only[hb,cj,aN];exact sX N dx m x r
  . simp only[hb,cm];refine(fE.then (Ak P N j o F v _) (fun _=>sX N dx m x r)).of_eq ?_;cases mc P N j o F v (gu N dx m x ia)<;>cases oK P N dx m x r<;>rfl
def Fb(N i ia:Nat)(o:Oper)(s:Dr)(v:V)(h:I O)(n:Nat):iW Dr:=
 match jn s.F o.dst v with
 |some F=>(Cg P N s.dx ia h s.reads).then fun _=>
   .ret { F:=F,eA:=s.eA++[ia],cur:=(ia,h),nZ:=(i,s.cur.1,s.cur.2)::s.nZ,last:=some i,dx:=s.dx,reads:=s.reads,n:=n }
 |none=>none
theorem xU(N i ia:Nat)(o:Oper)(s:Dr)(v:V)(h:I O)(n:Nat):fE (Fb P N i ia o s v h n) (kB P N i ia o s v h n):=by
 unfold Fb kB;cases jn s.F o.dst v with
 |none=>exact .none _
 |some F=>
  refine(fE.then (sX P N s.dx ia h s.reads) (g:=fun _=>some _) (fun _=>.ret _)).of_eq ?_;cases oK P N s.dx ia h s.reads<;>rfl
def Ok(ops:Array Oper)(N i:Nat)(o:Oper)(s:Dr):iW Dr:=
 match fP ops o s.F with
 |some false=>match jn s.F o.dst (.gC [])with
  |some F=>.ret { s with F:=F,eA:=s.eA++[fb s.eA o.after.toList] }
  |none=>none
 |some true=>
  match pq o.op with
  |true=>match yJ (fb s.eA o.after.toList) s.last with
   |true=>(Mi P o s.F (gu N s.dx s.cur.1 s.cur.2 (fb s.eA o.after.toList)) s.n).then fun r=>match r with
    | .val v h n=>(Je hx o.dst v).then fun v=>Fb P N i (fb s.eA o.after.toList) o s v h n
    | .call f args=>(T f args (gu N s.dx s.cur.1 s.cur.2 (fb s.eA o.after.toList)) s.n).then fun q=>(Je hx o.dst q.1).then fun v=>Fb P N i (fb s.eA o.after.toList) o s v q.2.1 q.2.2
    |_=>none
   |false=>none
  |false=>(Mi P o s.F (gu N s.dx s.cur.1 s.cur.2 (fb s.eA o.after.toList)) (N+i)).then fun r=>match r with
   | .val v h k=>(Je hx o.dst v).then fun v=>match jn s.F o.dst v with
     |some F=>match Nat.beq k (N+i)with
      |true=>match ox o.op with
       |true=>.ret { s with F:=F,eA:=s.eA++[fb s.eA o.after.toList] }
       |false=>(Hh P N i o s.F v s.dx (fb s.eA o.after.toList) s.nZ).then fun _=>
         .ret { s with F:=F,eA:=s.eA++[fb s.eA o.after.toList],reads:=(i,fb s.eA o.after.toList,o,s.F,v)::s.reads }
      |false=>match h.get (N+i)with
       |some b=>match b.wr with
        |true=>.ret { s with F:=F,eA:=s.eA++[fb s.eA o.after.toList],dx:=(i,b)::s.dx }
        |false=>none
       |none=>none
     |none=>none
   |_=>none
 |none=>none
theorem Hi(qb:qM T cf)(ops:Array Oper)(N i:Nat)(o:Oper)(s:Dr):fE (Ok P T hx ops N i o s) (Mf (lM P cf ops N i o s)):=by
 unfold Ok lM;rcases fP ops o s.F with _|(_|_)
 . exact .none _
 . cases jn s.F o.dst (.gC [])with
   |none=>exact .none _
   |some F=>exact(fE.ret _).of_eq rfl
 . cases pq o.op with
   |true=>
    rcases Bool.eq_false_or_eq_true (yJ (fb s.eA o.after.toList) s.last)with hb|hb
    rotate_left
    . simp only[hb];exact .none _
    . simp only[hb,if_true];refine(fE.then (sV P o s.F _ s.n) (g:=fun r=>match r with
       | .val v h n=>kB P N i (fb s.eA o.after.toList) o s v h n
       | .call f args=>(oU (cf f args (gu N s.dx s.cur.1 s.cur.2 (fb s.eA o.after.toList)) s.n)).bind fun q=>kB P N i (fb s.eA o.after.toList) o s q.1 q.2.1 q.2.2
       |_=>none) (fun r=>?_)).of_eq ?_
      . cases r with
        |val v h n=>exact(fE.then (pS hx o.dst v) (g:=fun v=>kB P N i (fb s.eA o.after.toList) o s v h n) (fun v=>xU P N i _ o s v h n)).of_eq rfl
        |call f args=>
         refine fE.then (qb f args _ s.n) (fun q=>?_);exact(fE.then (pS hx o.dst q.1) (g:=fun v=>kB P N i (fb s.eA o.after.toList) o s v q.2.1 q.2.2) (fun v=>xU P N i _ o s v q.2.1 q.2.2)).of_eq rfl
        |_=>exact .none _
      . cases dO P o s.F (gu N s.dx s.cur.1 s.cur.2 (fb s.eA o.after.toList)) s.n with
        |none=>rfl
        |some r=>
         cases r with
         |val v h n=>
          simp only[sU];cases kB P N i (fb s.eA o.after.toList) o s v h n<;>rfl
         |call f args=>
          simp only[sU];cases cf f args (gu N s.dx s.cur.1 s.cur.2 (fb s.eA o.after.toList)) s.n with
          |none=>rfl
          |some q=>
           obtain⟨rZ,h,n⟩:=q;cases rZ with
           |ret v=>
            simp only[oU,sU];cases kB P N i (fb s.eA o.after.toList) o s v h n<;>rfl
           |ni v=>simp only;split<;>rfl
         |_=>rfl
   |false=>
    simp only[aM,cr];have body:∀(v:V) (h:I O) (k:Nat),fE (match jn s.F o.dst v with
      |some F=>match Nat.beq k (N+i)with
       |true=>match ox o.op with
        |true=>iW.ret { s with F:=F,eA:=s.eA++[fb s.eA o.after.toList] }
        |false=>(Hh P N i o s.F v s.dx (fb s.eA o.after.toList) s.nZ).then fun _=>
          .ret { s with F:=F,eA:=s.eA++[fb s.eA o.after.toList],reads:=(i,fb s.eA o.after.toList,o,s.F,v)::s.reads }
       |false=>match h.get (N+i)with
        |some b=>match b.wr with
         |true=>iW.ret { s with F:=F,eA:=s.eA++[fb s.eA o.after.toList],dx:=(i,b)::s.dx }
         |false=>none
        |none=>none
      |none=>none) (Mf (match jn s.F o.dst v with
       |some F=>
        if Nat.beq k (N+i)=true then
         if ox o.op=true then(some (.inl { s with F:=F,eA:=s.eA++[fb s.eA o.after.toList] }):Option (Dr ⊕ (I V×V×I O×Nat)))
         else if pz P N i o s.F v s.dx (fb s.eA o.after.toList) s.nZ=true then
          some (.inl { s with F:=F,eA:=s.eA++[fb s.eA o.after.toList],reads:=(i,fb s.eA o.after.toList,o,s.F,v)::s.reads })
         else mJ o
        else match h.get (N+i)with
         |some b=>if b.wr=true then some (.inl { s with F:=F,eA:=s.eA++[fb s.eA o.after.toList],dx:=(i,b)::s.dx })else mJ o
         |none=>mJ o
       |none=>mJ o)):=by
     intro v h k;cases jn s.F o.dst v with
     |none=>exact .none _
     |some F=>
      simp only;cases Nat.beq k (N+i)with
      |true=>
       simp only[if_true];cases ox o.op with
       |true=>exact(fE.ret _).of_eq rfl
       |false=>
        refine(fE.then (Al P N i o s.F v s.dx _ s.nZ) (g:=fun _=>some _) (fun _=>.ret _)).of_eq ?_;simp only[aM,cr];cases pz P N i o s.F v s.dx (fb s.eA o.after.toList) s.nZ<;>rfl
      |false=>
       simp only[aM,cr];cases h.get (N+i)with
       |none=>exact .none _
       |some b=>
        simp only;cases b.wr with
        |true=>exact(fE.ret _).of_eq rfl
        |false=>exact .none _
    refine(fE.then (sV P o s.F _ (N+i)) (g:=fun r=>match r with
     | .val v h k=>Mf (match jn s.F o.dst v with
        |some F=>
         if Nat.beq k (N+i)=true then
          if ox o.op=true then(some (.inl { s with F:=F,eA:=s.eA++[fb s.eA o.after.toList] }):Option (Dr ⊕ (I V×V×I O×Nat)))
          else if pz P N i o s.F v s.dx (fb s.eA o.after.toList) s.nZ=true then
           some (.inl { s with F:=F,eA:=s.eA++[fb s.eA o.after.toList],reads:=(i,fb s.eA o.after.toList,o,s.F,v)::s.reads })
          else mJ o
         else match h.get (N+i)with
          |some b=>if b.wr=true then some (.inl { s with F:=F,eA:=s.eA++[fb s.eA o.after.toList],dx:=(i,b)::s.dx })else mJ o
          |none=>mJ o
        |none=>mJ o)
     |_=>none) (fun r=>?_)).of_eq ?_
    . cases r with
      |val v h k=>exact(fE.then (pS hx o.dst v) (g:=fun v=>Mf (match jn s.F o.dst v with
        |some F=>
         if Nat.beq k (N+i)=true then
          if ox o.op=true then(some (.inl { s with F:=F,eA:=s.eA++[fb s.eA o.after.toList] }):Option (Dr ⊕ (I V×V×I O×Nat)))
          else if pz P N i o s.F v s.dx (fb s.eA o.after.toList) s.nZ=true then
           some (.inl { s with F:=F,eA:=s.eA++[fb s.eA o.after.toList],reads:=(i,fb s.eA o.after.toList,o,s.F,v)::s.reads })
          else mJ o
         else match h.get (N+i)with
          |some b=>if b.wr=true then some (.inl { s with F:=F,eA:=s.eA++[fb s.eA o.after.toList],dx:=(i,b)::s.dx })else mJ o
          |none=>mJ o
        |none=>mJ o)) (fun v=>body v h k)).of_eq rfl
      |_=>exact .none _
    . cases dO P o s.F (gu N s.dx s.cur.1 s.cur.2 (fb s.eA o.after.toList)) (N+i)with
      |none=>rfl
      |some r=>cases r<;>rfl
def Fc(ops:Array Oper)(N:Nat):List Oper->Nat->Dr->iW Dr
 | [],_,s=>.ret s
 |o::r,i,s=>(Ok P T hx ops N i o s).then fun A=>Fc ops N r (i+1) A
theorem xV(qb:qM T cf)(ops:Array Oper)(N:Nat):∀(l:List Oper) (i:Nat) (s:Dr),fE (Fc P T hx ops N l i s) (Mf (iE P cf ops N l i s))
 | [],i,s=>(fE.ret s).of_eq rfl
 |o::r,i,s=>by
  simp only[Fc,iE];refine(fE.then (Hi P T cf hx qb ops N i o s) (fun A=>xV qb ops N r (i+1) A)).of_eq ?_;cases lM P cf ops N i o s with
  |none=>rfl
  |some q=>cases q<;>rfl
def jP(fr:Nat):Code->St->iW (es×St)
 | .region _ ops false,s=>Mj P T hx ops ops.toList s
 | .region _ ops true,s=>match decide (s.n+ops.size<fV)with
   |true=>(Fc P T hx ops s.n ops.toList 0 { F:=s.F,eA:=[],cur:=(0,s.h),nZ:=[],last:=none,dx:=[],reads:=[],n:=s.n+ops.size }).then fun d=>
     .ret (.normal,{ F:=d.F,h:=gu s.n d.dx d.cur.1 d.cur.2 (2^ops.size-1),n:=d.n,gZ:=s.gZ })
   |false=>none
 | .seq a b,s=>(jP fr a s).then fun p=>match p.1 with
   | .normal=>jP fr b p.2
   |_=>.ret p
 | .cond c a b,s=>match iK s.F c with
   |some (.bool true)=>jP fr a s
   |some (.bool false)=>jP fr b s
   |_=>none
 | .block id body,s=>(jP fr body s).then fun p=>match p.1 with
   | .exit Y3=>if Y3=id then .ret (.normal,p.2)else .ret p
   |_=>.ret p
 | .loop body,s=>A6 (jP fr body) fr s
 | .skip,s=>.ret (.normal,s)
 | .exit id,s=>.ret (.exit id,s)
 | .ret,s=>.ret (.ret,s)
 | .rangeFunc g ps assign body,s=>match iK s.F g with
   |some (.fn (.func gf) [] lb)=>match callee P gf&&decide (s.n+1<fV)with
    |true=>(T gf (.fn (.yield (s.n+1)) [] []::lb) ((s.h.set s.n (some .tL)).set (s.n+1) (some (.loop true none s.F ps.toList assign body))) (s.n+2)).then fun q=>match q.2.1.get s.n,q.2.1.get (s.n+1)with
     |some .tL,some (.loop true none _ _ _ _)=>.ret (.normal,{ s with h:=q.2.1.set (s.n+1) none,n:=q.2.2,gZ:=(fV,[],[.map (some s.n)])::s.gZ })
     |some .tL,some (.loop false (some .ret) _ _ _ _)=>.ret (.ret,{ s with h:=q.2.1.set (s.n+1) none,n:=q.2.2,gZ:=(fV,[],[.map (some s.n)])::s.gZ })
     |some .tL,some (.loop false (some (.exit id)) _ _ _ _)=>.ret (.exit id,{ s with h:=q.2.1.set (s.n+1) none,n:=q.2.2,gZ:=(fV,[],[.map (some s.n)])::s.gZ })
     |_,_=>none
    |false=>none
   |_=>none
 |_,_=>none
theorem jZ(qb:qM T cf)(fr:Nat):∀(c:Code) (s:St),fE (jP P T hx fr c s) (gv P cf fr c s):=by
 intro c
 induction c with
 |region id ops Bw=>
  intro s;cases Bw with
  |false=>exact sW P T cf hx qb ops ops.toList s
  |true=>
   simp only[jP,gv,drawn];by_cases eM:s.n+ops.size<fV
   . simp only[aY eM,aE eM];refine pU (fE.then (xV P T cf hx qb ops s.n ops.toList 0 _) (g:=fun d=>some (.normal,{ F:=d.F,h:=gu s.n d.dx d.cur.1 d.cur.2 (2^ops.size-1),n:=d.n,gZ:=s.gZ })) (fun d=>.ret _)) ?_;intro d hd;cases hq:iE P cf ops s.n ops.toList 0 { F:=s.F,eA:=[],cur:=(0,s.h),nZ:=[],last:=none,dx:=[],reads:=[],n:=s.n+ops.size }with
     |none=>rw[hq]at hd;cases hd
     |some q=>
      rw[hq]at hd;cases q with
      |inl d'=>simp only[Mf,Option.bind_some]at hd;simp only;exact hd
      |inr _=>cases hd
   . simp only[aU eM];exact .none _
 |seq a b iha ihb=>
  intro s;simp only[jP,gv];refine(fE.then (iha s) (g:=fun p=>match p.1 with | .normal=>gv P cf fr b p.2|_=>some p) (fun p=>?_)).of_eq ?_
  . obtain⟨x,A⟩:=p;cases x with
    |normal=>exact ihb A
    |_=>exact .ret _
  . cases gv P cf fr a s with
    |none=>rfl
    |some p=>obtain⟨x,A⟩:=p;cases x<;>rfl
 |cond c a b iha ihb=>
  intro s;simp only[jP,gv];cases iK s.F c with
  |none=>exact .none _
  |some v=>
   cases v with
   |bool t=>
    cases t with
    |true=>exact iha s
    |false=>exact ihb s
   |_=>exact .none _
 |block id c ih=>
  intro s;simp only[jP,gv];refine(fE.then (ih s) (g:=fun p=>match p.1 with | .exit Y3=>if Y3=id then some (.normal,p.2)else some p|_=>some p) (fun p=>?_)).of_eq ?_
  . obtain⟨x,A⟩:=p;cases x with
    |exit j=>
     simp only;by_cases hj:j=id
     . simp only[aE hj];exact .ret _
     . simp only[aB hj];exact .ret _
    |_=>exact .ret _
  . cases gv P cf fr c s with
    |none=>rfl
    |some p=>obtain⟨x,A⟩:=p;cases x<;>rfl
 |loop c ih=>
  intro s;simp only[jP,gv];exact vK ih fr s
 |skip=>intro s;exact .ret _
 |exit id=>intro s;exact .ret _
 |ret=>intro s;exact .ret _
 |rangeFunc g ps assign body _ _=>
  intro s;simp only[jP,gv];split
  . rename_i gf lb hg;rw[hg];simp only;split
    . rename_i hq;simp only[ay,aX]at hq;rw[aE hq];refine pU (fE.then (qb gf _ _ (s.n+2)) (g:=fun q=>match q.2.1.get s.n,q.2.1.get (s.n+1)with
       |some .tL,some (.loop true none _ _ _ _)=>some (.normal,{ s with h:=q.2.1.set (s.n+1) none,n:=q.2.2,gZ:=(fV,[],[.map (some s.n)])::s.gZ })
       |some .tL,some (.loop false (some .ret) _ _ _ _)=>some (.ret,{ s with h:=q.2.1.set (s.n+1) none,n:=q.2.2,gZ:=(fV,[],[.map (some s.n)])::s.gZ })
       |some .tL,some (.loop false (some (.exit id)) _ _ _ _)=>some (.exit id,{ s with h:=q.2.1.set (s.n+1) none,n:=q.2.2,gZ:=(fV,[],[.map (some s.n)])::s.gZ })
       |_,_=>none) (fun q=>?_)) ?_
      . split<;>first|exact .ret _|exact .none _
      . intro a ha;cases K:cf gf (.fn (.yield (s.n+1)) [] []::lb) ((s.h.set s.n (some .tL)).set (s.n+1) (some (.loop true none s.F ps.toList assign body))) (s.n+2)with
        |none=>rw[K]at ha;cases ha
        |some q=>
         rw[K]at ha;obtain⟨rZ,h,n⟩:=q;cases rZ with
         |ni v=>cases ha
         |ret v=>
          simp only[oU,Option.bind_some]at ha;simp only;split at ha<;>first|(rename_i Q R;simp only[Q,R];exact ha)|cases ha
    . exact .none _
  . exact .none _
 |_=>intro s;exact .none _
end
def uE(P:Program)(fn:Func)(F:I V):List (FuncId×ag×ag)->I O->Nat->Option (V×I O×Nat)
 | [],h,n=>match kR P F h fn.results.toList with
   |some vs=>some (oneOf vs,h,n)
   |none=>none
 |(g,_,args)::ds,h,n=>match Nat.ble fV g with
  |true=>match args with
   | [.map (some b)]=>match h.get b with
     |some .tL=>match Nat.blt b fV with
      |true=>uE P fn F ds (h.set b none) n
      |false=>none
     |_=>none
   |_=>none
  |false=>none
theorem rO{P:Program}{cf:fL}{fr:Nat}{fn:Func}{F:I V}:∀{ds:List (FuncId×ag×ag)} {h:I O} {n:Nat} {r:V×I O×Nat},uE P fn F ds h n=some r->mK P cf fr fn F ds .ret h n=some (.ret r.1,r.2.1,r.2.2)
 | [],h,n,r,e=>by
   unfold uE at e;unfold mK;split at e
   . rename_i vs hv;obtain rfl:=eB e;rw[hv]
   . cases e
 |(g,c,args)::ds,h,n,r,e=>by
  unfold uE at e;unfold mK;split at e
  case h_2=>cases e
  rename_i hg;rw[aE (az hg)];split at e
  case h_2=>cases e
  rename_i b;simp only;split at e
  case h_2=>cases e
  rename_i hb;rw[hb];simp only;split at e
  case h_2=>cases e
  rename_i eM;rw[aE (show b<fV from az eM)];exact rO e
abbrev gy:=FuncId->ag->I O->Nat->Option (ah×V×I O×Nat)
def eR(P:Program)(hm:gy):Prop:=∀f args h n s' v h' n',hm f args h n=some (s',v,h',n')->f<P.funcs.size/\((∀a∈s',a)->
 ∀E w dF,dV E args dF->Good E h w->pH E n->callee P f=true->Calls P f dF.toArray w (iC E h n w (.ret v) h' n'))
def dY:gy:=fun _ _ _ _=>none
section
variable(P:Program)(f:FuncId)(spec:ag->I O->Nat->Option (ah×V×I O×Nat))
theorem dg:eR P dY:=fun _ _ _ _ _ _ _ _ e=>by cases e
def lC(hm:gy):gy:=fun g args h n=>match Nat.beq g f with
 |true=>match spec args h n with
  |some r=>some r
  |none=>hm g args h n
 |false=>hm g args h n
def kE:Prop:=f<P.funcs.size/\∀args h n s' v h' n',spec args h n=some (s',v,h',n')->(∀a∈s',a)->
 ∀E w dF,dV E args dF->Good E h w->pH E n->callee P f=true->Calls P f dF.toArray w (iC E h n w (.ret v) h' n')
theorem fQ{P:Program}{f:FuncId}{spec:ag->I O->Nat->Option (ah×V×I O×Nat)}{hm:gy}(hp:kE P f spec)(hS:eR P hm):eR P (lC f spec hm):=by
 intro g args h n s' v h' n' e;unfold lC at e;split at e
 . rename_i hg;have hg:=aA hg;subst hg;split at e
   . rename_i r hr;cases e;exact⟨hp.1,hp.2 args h n s' v h' n' hr⟩
   . exact hS g args h n s' v h' n' e
 . exact hS g args h n s' v h' n' e
def R3(fn:Func)(p:es×St):iW (V×I O×Nat):=match p.1 with
 | .normal=>match uE P fn p.2.F p.2.gZ p.2.h p.2.n with
   |some r=>.ret r
   |none=>none
 | .ret=>match uE P fn p.2.F p.2.gZ p.2.h p.2.n with
   |some r=>.ret r
   |none=>none
 |_=>none
end
def Jg(P:Program)(T:jY)(hx:List (Nat×lI))(fr:Nat)(f:FuncId)(args:ag)(h:I O)(n:Nat):iW (V×I O×Nat):=
 match P.funcs[f]? with
 |some fn=>match fn.body with
  |some code=>match Nat.ble args.length fn.ntmps&&Nat.blt fn.ntmps fV with
   |true=>(jP P T hx fr code (dw args h n)).then (R3 P fn)
   |false=>none
  |none=>none
 |none=>none
theorem Fe{P:Program}{T:jY}{cf:fL}(qb:qM T cf)(hx:List (Nat×lI))(fr:Nat)(f:FuncId)(args:ag)(h:I O)(n:Nat):fE (Jg P T hx fr f args h n) (oU (enter P cf fr f args h n)):=by
 unfold Jg enter;split
 . rename_i fn hf;rw[hf];simp only;split
   . rename_i code hb;rw[hb];simp only;split
     . rename_i hq;simp only[ay]at hq;have hq':args.length<=fn.ntmps/\fn.ntmps<fV:=⟨az hq.1,az hq.2⟩;rw[aE hq'];refine pU (fE.then (jZ P T cf hx qb fr code (dw args h n)) (g:=fun p=>match p.1 with
        | .normal=>oU (mK P cf fr fn p.2.F p.2.gZ .ret p.2.h p.2.n)
        | .ret=>oU (mK P cf fr fn p.2.F p.2.gZ .ret p.2.h p.2.n)
        |_=>none) (fun p=>?_)) ?_
       . obtain⟨x,s⟩:=p;unfold R3;cases x with
         |normal=>
          simp only;split
          . rename_i r hr;refine(fE.ret r).of_eq ?_;rw[rO hr];rfl
          . exact .none _
         |ret=>
          simp only;split
          . rename_i r hr;refine(fE.ret r).of_eq ?_;rw[rO hr];rfl
          . exact .none _
         |_=>exact .none _
       . intro a ha;change ((gv P cf fr code { F:=lg args 0 .nil,h:=h,n:=n,gZ:=[] }).bind _)=some a at ha;cases H:gv P cf fr code { F:=lg args 0 .nil,h:=h,n:=n,gZ:=[] }with
         |none=>rw[H]at ha;cases ha
         |some p=>
          rw[H]at ha;obtain⟨x,s⟩:=p;cases x<;>first|exact ha|cases ha
     . exact .none _
   . exact .none _
 . exact .none _
def Jh(P:Program)(T:jY)(hx:List (Nat×lI))(fr m:Nat)(args:ag)(h:I O)(n:Nat):iW (V×I O×Nat):=
 match h.get m with
 |some (.loop true none F ps assign body)=>match(Nat.blt m fV&&Nat.beq ps.length args.length)&&(jL assign&&jL body)with
  |true=>match vU (IC ps args) F with
   |some KD=>(jP P T hx fr assign { F:=KD,h:=h.set m none,n:=n,gZ:=[] }).then fun p=>match p.1 with
    | .normal=>(jP P T hx fr body p.2).then fun q=>match q.1 with
      | .normal=>.ret (.bool true,q.2.h.set m (some (.loop true none F ps assign body)),q.2.n)
      | .ret=>.ret (.bool false,q.2.h.set m (some (.loop false (some .ret) F ps assign body)),q.2.n)
      | .exit id=>.ret (.bool false,q.2.h.set m (some (.loop false (some (.exit id)) F ps assign body)),q.2.n)
      |_=>none
    |_=>none
   |none=>none
  |false=>none
 |_=>none
theorem Ff{P:Program}{T:jY}{cf:fL}(qb:qM T cf)(hx:List (Nat×lI))(fr m:Nat)(args:ag)(h:I O)(n:Nat):fE (Jh P T hx fr m args h n) (oU (vV P cf fr m args h n)):=by
 unfold Jh vV;split
 . rename_i F ps assign body hg;rw[hg];simp only;split
   . rename_i hq;simp only[ay]at hq;have hq':m<fV/\ps.length=args.length/\jL assign=true/\jL body=true:=⟨az hq.1.1,aA hq.1.2,hq.2.1,hq.2.2⟩;rw[aE hq'];split
     . rename_i KD qL;rw[qL];simp only;refine pU (fE.then (jZ P T cf hx qb fr assign _) (g:=fun p=>match p.1 with
        | .normal=>(gv P cf fr body p.2).bind fun q=>match q.1 with
          | .normal=>some (.bool true,q.2.h.set m (some (.loop true none F ps assign body)),q.2.n)
          | .ret=>some (.bool false,q.2.h.set m (some (.loop false (some .ret) F ps assign body)),q.2.n)
          | .exit id=>some (.bool false,q.2.h.set m (some (.loop false (some (.exit id)) F ps assign body)),q.2.n)
          |_=>none
        |_=>none) (fun p=>?_)) ?_
       . obtain⟨x,s⟩:=p;cases x with
         |normal=>
          refine fE.then (jZ P T cf hx qb fr body s) (fun q=>?_);obtain⟨y,s2⟩:=q;cases y<;>first|exact .ret _|exact .none _
         |_=>exact .none _
       . intro a ha;cases H:gv P cf fr assign { F:=KD,h:=h.set m none,n:=n,gZ:=[] }with
         |none=>rw[H]at ha;cases ha
         |some p=>
          rw[H]at ha;obtain⟨x,s⟩:=p;simp only[Option.bind_some]at ha;cases x with
          |normal=>
           simp only at ha ⊢;cases hy:gv P cf fr body s with
           |none=>rw[hy]at ha;cases ha
           |some q=>
            rw[hy]at ha;obtain⟨y,s2⟩:=q;cases y<;>first|exact ha|cases ha
          |_=>cases ha
     . exact .none _
   . exact .none _
 . exact .none _
def D3(P:Program)(hm:gy)(HH:FuncId->List (Nat×lI))(fr:Nat):Nat->jY
 |0=>fun _ _ _ _=>none
 |k+1=>fun f args h n=>match hm f args h n with
  |some (s',r)=>some [(⟨[],[],s'⟩,r)]
  |none=>match Nat.blt f P.funcs.size with
   |true=>Jg P (D3 P hm HH fr k) (HH f) fr f args h n
   |false=>Jh P (D3 P hm HH fr k) (HH f) fr (f-P.funcs.size) args h n
open Classical in
noncomputable def Ch(P:Program)(hm:gy)(fr:Nat):Nat->fL
 |0=>fun _ _ _ _=>none
 |k+1=>fun f args h n=>match hm f args h n with
  |some (s',r)=>if ∀a∈s',a then some (.ret r.1,r.2.1,r.2.2)else none
  |none=>if f<P.funcs.size then enter P (Ch P hm fr k) fr f args h n else vV P (Ch P hm fr k) fr (f-P.funcs.size) args h n
theorem uF(P:Program)(hm:gy)(HH:FuncId->List (Nat×lI))(fr:Nat):∀k,qM (D3 P hm HH fr k) (Ch P hm fr k)
 |0=>fun _ _ _ _=>.none _
 |k+1=>by
  intro f args h n;simp only[D3,Ch];cases hS:hm f args h n with
  |some q=>
   obtain⟨s',v,h',n'⟩:=q;intro l e;obtain rfl:=eB e;refine⟨⟨_,aG.2 rfl,fun c K=>by simp at K⟩,fun e he _ hg=>?_⟩;simp only[aG]at he;subst he;simp only;rw[aE hg.2];rfl
  |none=>
   simp only;by_cases hf:f<P.funcs.size
   . have hb:Nat.blt f P.funcs.size=true:=Nat.ble_eq_true_of_le hf;rw[hb,aE hf];exact Fe (uF P hm HH fr k) (HH f) fr f args h n
   . have hb:Nat.blt f P.funcs.size=false:=by
      cases hq:Nat.blt f P.funcs.size with
      |false=>rfl
      |true=>exact absurd (az hq) hf
     rw[hb,aB hf];exact Ff (uF P hm HH fr k) (HH f) fr _ args h n
theorem Hj{P:Program}{hm:gy}{fr:Nat}(S:P.follows .mixedOrders=true)(r9:jC P=true)(hS:eR P hm):∀k,gq P (Ch P hm fr k)
 |0=>fun _ _ _ _ _ _ _ e=>by cases e
 |k+1=>by
  intro f args h n rZ h' n' e E w dF ra g hd;simp only[Ch]at e;split at e
  . rename_i s' r hs;obtain⟨v,Q,n1⟩:=r;split at e
    . rename_i hA;simp only[aq,aF]at e;obtain⟨rfl,rfl,rfl⟩:=e;obtain⟨eM,I7⟩:=hS f args h n s' v Q n1 hs;exact⟨fun BP=>I7 hA E w dF ra g hd BP,fun m l s hfm _=>absurd eM (by rw[hfm];exact Nat.not_lt.2 (Nat.le_add_right _ _))⟩
    . cases e
  . exact KJ (fr:=fr) (Hj S r9 hS k) S r9 f args h n rZ h' n' e E w dF ra g hd
structure CX(P:Program) where
 T:jY
 cf:fL
 snd:qM T cf
 ok:gq P cf
noncomputable def CX.of{P:Program}(S:P.follows .mixedOrders=true)(r9:jC P=true){hm:gy}(hS:eR P hm)(HH:FuncId->List (Nat×lI))(fr k:Nat):CX P:=
 ⟨D3 P hm HH fr k,Ch P hm fr k,uF P hm HH fr k,Hj S r9 hS k⟩
def TG(P:Program)(N n0:Nat)(c:Code)(s:St)(h1:Exit->St->Prop):Prop:=
 ∀(E:Env) (a:Act) (w:World) (hc:Exit->Act->World->Prop),jT E n0 s a w->N<=s.n->
  (∀y A E' a' w',h1 y A->kK N E s.h w E' A.h w'->N<=A.n->jT E' n0 A a' w'->hc y a' w')->c.wp P hc a w
section
variable{P:Program}{cf:fL}{fr N n0:Nat}{c:Code}{s A:St}{h1 Q1:Exit->St->Prop}
theorem qu(h:TG P N n0 c s Q1)(hq:∀y A,Q1 y A->h1 y A):TG P N n0 c s h1:=fun E a w hc r hn k=>h E a w hc r hn fun y A E' a' w' q=>k y A E' a' w' (hq y A q)
theorem qv(lA:gq P cf)(S:P.follows .mixedOrders=true){x:es}{y:Exit}(K:eJ n0 c=true)(e:gv P cf fr c s=some (x,A))(H:x.plain=some y)(hq:h1 y A):TG P N n0 c s h1:=by
 intro E a w hc r hn k;refine wpIn_wide (n:=0) |>.1 ?_;refine kV (qU:=none) lA S c s x A (.inl rfl) K e E a w hc r fun E' a' w' x' u fq nV r' o6=>?_;have:x'=y:=by
  cases x<;>cases x'<;>simp only[GS,es.plain,aq,reduceCtorEq]at o6 H<;>first|exact H|(subst o6;exact H)
 subst this;exact k _ A E' a' w' hq (.of u fq hn) (bC hn nV) r'
theorem fU{live:List Nat}{s2:St}(e:kW N live s=some s2)(h:TG P N n0 c s2 h1):TG P N n0 c s h1:=by
 intro E a w hc r hn k;obtain⟨_,o4,E2,r2,u2⟩:=od e r;exact h E2 a w hc r2 o4 fun y A E' a' w' q u nV r'=>k y A E' a' w' q (u2.trans u) nV r'
theorem Ji{c1 c2:Code}(h:TG P N n0 c1 s (andThen (fun A=>TG P N n0 c2 A h1) h1)):TG P N n0 (.seq c1 c2) s h1:=by
 intro E a w hc r hn k;refine wp_seq (h E a w _ r hn fun y A E' a' w' q u nV r'=>?_);cases y<;>first|exact q E' a' w' hc r' nV (fun y2 s2 E2 a2 w2 q2 u2 o4 r2=>k y2 s2 E2 a2 w2 q2 (u.trans u2) o4 r2)|exact k _ A E' a' w' q u nV r'
theorem dI(hs:rK c=true)(h:TG P N n0 (dB c) s (andThen (fun A=>TG P N n0 (dP c) A h1) h1)):TG P N n0 c s h1:=by
 cases c<;>simp only[rK,aM]at hs;exact Ji h
theorem jK{t:Bool}(K:Jc c (fun _=>true)=true)(ho:iK s.F (Uq c)=some (.bool t))(Q:t=true->TG P N n0 (lH c) s h1)(R:t=false->TG P N n0 (oH c) s h1):TG P N n0 c s h1:=by
 cases c<;>simp only[Jc,aM]at K;intro E a w hc r hn k;cases t
 . exact wp_cond_false (rH r.good.kg r.F ho) (R rfl E a w hc r hn k)
 . exact wp_cond_true (rH r.good.kg r.F ho) (Q rfl E a w hc r hn k)
theorem fB{i:Nat}(K:mY c i=true)(h:TG P N n0 (dD c) s (gw i h1)):TG P N n0 c s h1:=by
 cases c<;>simp only[mY,aM]at K;rename_i j b;have:=aA K;subst this;intro E a w hc r hn k;refine wp_block (h E a w _ r hn fun y A E' a' w' q u nV r'=>?_);cases y<;>first|exact k _ A E' a' w' q u nV r'|skip
 simp only[Exit.inBlock,gw]at q ⊢;split
 . rename_i he;rw[aE he]at q;exact k _ A E' a' w' q u nV r'
 . rename_i he;rw[aB he]at q;exact k _ A E' a' w' q u nV r'
def TGR(P:Program)(N n0:Nat)(c:Code)(h1:Exit->St->Prop):Nat->St->Prop
 |0,_=>False
 |n+1,s=>TG P N n0 c s (andThen (fun A=>TGR P N n0 c h1 n A) h1)
theorem R4(n:Nat)(K:oz c=true)(h:TGR P N n0 (dD c) h1 n s):TG P N n0 c s h1:=by
 cases c<;>simp only[oz,aM]at K;rename_i b;intro E0 a w hc r hn k;refine wp_loop_rounds n ?_;have key:∀(n:Nat) (s1:St) (E:Env) (a:Act) (w1:World),TGR P N n0 b h1 n s1->jT E n0 s1 a w1->N<=s1.n->kK N E0 s.h w E s1.h w1->Code.rounds P b hc n a w1:=by
  intro n
  induction n with
  |zero=>intro s1 E a w1 h;exact h.elim
  |succ n ih=>
   intro s1 E a w1 h r hn u;rw[rounds_succ];refine h E a w1 _ r hn fun y A E' a' w' q u' nV r'=>?_;cases y<;>first|exact ih A E' a' w' q r' nV (u.trans u')|exact k _ A E' a' w' q (u.trans u') nV r'
 exact key n s E0 a w h r hn (.refl r.good)
theorem ju(Tr:Nat->St->Prop)(hl:oz c=true)(h:∀k s,Tr k s->TG P N n0 (dD c) s (andThen (fun A=>∃k',k'<k/\Tr k' A) h1))(k:Nat)(h0:Tr k s):TG P N n0 c s h1:=by
 refine R4 (k+1) hl ?_;have key:∀(k:Nat) (n:Nat) (s:St),k<n->Tr k s->TGR P N n0 (dD c) h1 n s:=by
  intro k
  induction k using Nat.strongRecOn with
  |_ k ih=>
   intro n s hn hi;cases n with
   |zero=>omega
   |succ n=>
    simp only[TGR];refine qu (h k s hi) fun y A hq=>?_;cases y with
    |normal=>
     obtain⟨k',Y,jr⟩:=hq;exact ih k' Y n A G jr
    |_=>exact hq
 exact key k (k+1) s G h0
end
section
variable{P:Program}{X':CX P}{hx:List (Nat×lI)}{fr N n0:Nat}{c:Code}{s:St}{h1:Exit->St->Prop}
inductive jD where
 |to (y:Exit) (s:St)
 |ret (v:V) (h:I O) (n:Nat)
 |bad
def Jj(P:Program)(N:Nat)(fn:Func)(s:St):Option (V×I O×Nat):=match uE P fn s.F s.gZ s.h s.n with
 |some (v,h,n)=>match kW N [0] { F:=I.nil.set 0 (some v),h:=h,n:=n,gZ:=[] }with
  |some s2=>match s2.F.get 0 with
   |some v2=>some (v2,s2.h,s2.n)
   |none=>none
  |none=>none
 |none=>none
def nr(P:Program)(N:Nat)(fn:Func)(live:List Nat)(p:es×St):jD:=match p.1 with
 | .normal=>match kW N live p.2 with
   |some s=>.to .normal s
   |none=>.bad
 | .exit i=>match kW N live p.2 with
   |some s=>.to (.exit i) s
   |none=>.bad
 | .ret=>match Jj P N fn p.2 with
   |some (v,h,n)=>.ret v h n
   |none=>.bad
 | .panic _=>.bad
def fD(P:Program)(N:Nat)(fn:Func)(h2:V->I O->Nat->Prop)(y:Exit)(A:St):Prop:=(y= .normal\/y= .ret)/\∃v h n,Jj P N fn A=some (v,h,n)/\h2 v h n
def jD.post(P:Program)(N:Nat)(fn:Func)(live:List Nat)(h2:V->I O->Nat->Prop)(h1:Exit->St->Prop):jD->Prop
 | .to y s=>∀A,kW N live A=some s->h1 y A
 | .ret v h n=>h2 v h n/\∀A,fD P N fn h2 .ret A->h1 .ret A
 | .bad=>False
theorem Jk(S:P.follows .mixedOrders=true){l:List (sQ×es×St)}(K:eJ n0 c=true)(e:jP P X'.T hx fr c s=some l)(h:∀p∈l,p.1.ok->p.1.good/\∃y,p.2.1.plain=some y/\h1 y p.2.2):TG P N n0 c s h1:=by
 obtain⟨⟨p,hp,ho⟩,R⟩:=jZ P X'.T X'.cf hx X'.snd fr c s l e;obtain⟨hg,y,hy,hq⟩:=h p hp ho;exact qv (fr:=fr) X'.ok S K (R p hp ho hg) hy hq
def Ci(P:Program)(T:jY)(hx:List (Nat×lI))(fr N:Nat)(fn:Func)(live:List Nat)(c:Code)(s:St):List (List (Bool×Bool)×ah×jD):=uB (nr P N fn live) (tE (jP P T hx fr c s))
def Am(P:Program)(T:jY)(hx:List (Nat×lI))(fr:Nat)(c:Code)(s:St):Bool:=(jP P T hx fr c s).isSome
def uG(P:Program)(T:jY)(hx:List (Nat×lI))(fr:Nat)(c:Code)(s:St):ag:=pV (tE (jP P T hx fr c s))
def wF(P:Program)(T:jY)(hx:List (Nat×lI))(fr:Nat)(c:Code)(s:St):ag:=uC (tE (jP P T hx fr c s))
theorem VN(X':CX P)(S:P.follows .mixedOrders=true)(hx:List (Nat×lI))(fr:Nat)(fn:Func)(live:List Nat)(h2:V->I O->Nat->Prop)(di:List (List (Bool×Bool)×ah×jD))(K:eJ n0 c=true)
  (e1:Am P X'.T hx fr c s=true) (e2:uG P X'.T hx fr c s=wF P X'.T hx fr c s) (e3:Ci P X'.T hx fr N fn live c s=di)
  (h:∀g∈di,(∀b∈g.1,b.1=b.2)->(∀a∈g.2.1,a)/\g.2.2.post P N fn live h2 h1):TG P N n0 c s h1:=by
 obtain⟨l,hl⟩:=bA.1 e1;unfold uG wF at e2;unfold Ci at e3;rw[hl]at e2 e3;simp only[tE]at e2 e3;refine Jk (X':=X') S K hl fun p hp ho=>?_;have hg:=h (p.1.conds,p.1.M4,nr P N fn live p.2) (e3▸my hp) ho;refine⟨⟨qt l e2 p hp,hg.1⟩,?_⟩;obtain⟨pp,x,A⟩:=p;have iJ:=hg.2;simp only[nr]at iJ;cases x with
 |normal=>
  simp only at iJ;split at iJ
  . rename_i s2 qV;exact⟨.normal,rfl,iJ A qV⟩
  . exact iJ.elim
 |exit i=>
  simp only at iJ;split at iJ
  . rename_i s2 qV;exact⟨.exit i,rfl,iJ A qV⟩
  . exact iJ.elim
 |ret=>
  simp only at iJ;split at iJ
  . rename_i v h n hr;exact⟨.ret,rfl,iJ.2 A ⟨.inr rfl,v,h,n,hr,iJ.1⟩⟩
  . exact iJ.elim
 |panic _=>exact iJ.elim
theorem xW{cf:fL}(lA:gq P cf)(S:P.follows .mixedOrders=true):∀(k:Nat) {c:Code} {s s1:St} {h1:Exit->St->Prop},eJ n0 c=true->gv P cf fr (dN k c) s=some (.normal,s1)->TG P N n0 (dm k c) s1 h1->TG P N n0 c s h1:=by
 intro k;have Hl:∀{c:Code} {s s1:St} {h1:Exit->St->Prop},gv P cf fr .skip s=some (.normal,s1)->TG P N n0 c s1 h1->TG P N n0 c s h1:=by
  intro c s s1 h1 e h;simp only[gv,aq,aF,true_and]at e;subst e;exact h
 induction k with
 |zero=>intro c s s1 h1 _ e h;cases c<;>exact Hl e h
 |succ k ih=>
  intro c s s1 h1 mC e h;cases c<;>first|exact Hl e h|skip
  rename_i a b;simp only[eJ,ay]at mC;simp only[dN,gv]at e;split at e
  . rename_i A Q;exact Ji (qv (fr:=fr) lA S mC.1 Q rfl (ih mC.2 e h))
  . rename_i hr
    first|exact(hr s1 rfl).elim|exact(hr s1 e).elim
theorem R5(k:Nat)(X':CX P)(S:P.follows .mixedOrders=true)(hx:List (Nat×lI))(fr:Nat)(fn:Func)(live:List Nat)(di:List (List (Bool×Bool)×ah×jD))(K:eJ n0 c=true)
  (e1:Am P X'.T hx fr (dN k c) s=true) (e2:uG P X'.T hx fr (dN k c) s=wF P X'.T hx fr (dN k c) s) (e3:Ci P X'.T hx fr N fn live (dN k c) s=di)
  (h:∀g∈di,(∀b∈g.1,b.1=b.2)->(∀a∈g.2.1,a)/\∃s1,g.2.2= .to .normal s1/\TG P N n0 (dm k c) s1 h1):TG P N n0 c s h1:=by
 obtain⟨l,hl⟩:=bA.1 e1;unfold uG wF at e2;unfold Ci at e3;rw[hl]at e2 e3;simp only[tE]at e2 e3;obtain⟨⟨p,hp,ho⟩,R⟩:=jZ P X'.T X'.cf hx X'.snd fr (dN k c) s l hl;obtain⟨hA,s1,pG,hT⟩:=h (p.1.conds,p.1.M4,nr P N fn live p.2) (e3▸my hp) ho;have gi:=R p hp ho ⟨qt l e2 p hp,hA⟩;obtain⟨pp,x,A⟩:=p;simp only[nr]at pG;cases x with
 |normal=>
  simp only at pG;split at pG
  . rename_i s2 qV;cases pG;exact xW (fr:=fr) X'.ok S k K gi (fU qV hT)
  . cases pG
 |exit i=>
  simp only at pG;split at pG<;>cases pG
 |ret=>
  simp only at pG;split at pG<;>cases pG
 |panic _=>cases pG
end
section
variable{P:Program}{N:Nat}
theorem D4{fn:Func}{s:St}{v:V}{h:I O}{n:Nat}(e:Jj P N fn s=some (v,h,n)):∃v1 Q n1 s2,uE P fn s.F s.gZ s.h s.n=some (v1,Q,n1)/\kW N [0] { F:=I.nil.set 0 (some v1),h:=Q,n:=n1,gZ:=[] }=some s2/\s2.F.get 0=some v/\s2.h=h/\s2.n=n:=by
 unfold Jj at e;split at e
 . rename_i v1 Q n1 e1;split at e
   . rename_i s2 e2;split at e
     . rename_i v2 e3;simp only[aq,aF]at e;obtain⟨rfl,rfl,rfl⟩:=e;exact⟨v1,Q,n1,s2,e1,e2,e3,rfl,rfl⟩
     . cases e
   . cases e
 . cases e
theorem qw(S:P.follows .mixedOrders=true)(r9:jC P=true){f:FuncId}{fn:Func}{code:Code}(hf:P.funcs[f]? =some fn)(hb:fn.body=some code){args:ag}{h:I O}{N:Nat}
  (l:(Nat.ble args.length fn.ntmps&&Nat.blt fn.ntmps fV)=true) (h2:V->I O->Nat->Prop) (hT:TG P N fn.ntmps code (dw args h N) (fD P N fn h2))
  {E:Env} {w:World} {dF:List Value} (ra:dV E args dF) (g:Good E h w) (hd:pH E N):
  Calls P f dF.toArray w fun e w'=>∃v h' n',h2 v h' n'/\iC E h N w (.ret v) h' n' e w':=by
 simp only[ay]at l;obtain⟨vb,mg⟩:=nM (n:=fn.ntmps) ra (az l.1) (az l.2);refine callsIn_wide.1 (callsIn_of_wp_marks (n:=0) hf hb trivial (wpIn_wide.2 ?_));refine hT E _ w _ ⟨g,hd,vb,mg,rfl⟩ (aK _) fun y A E' a' w' ⟨hy,v,h',n',hr,hR⟩ u nV r'=>?_;obtain⟨v1,Q,n1,s2,k1,k2,k3,k4,k5⟩:=D4 hr;have key:LeavesInM Fence.wide 0 P fn a'.tmps (fun e w'=>∃v h' n',h2 v h' n'/\iC E h N w (.ret v) h' n' e w') a'.defers .returning w':=by
  refine oa (cf:=fun _ _ _ _=>none) (fr:=0) (fun _ _ _ _ _ _ _ e=>by cases e) S r9 A.gZ .ret A.h A.n _ Q n1 (rO k1) E' w' a'.defers .returning _ r'.good r'.qd r'.F r'.gZ trivial fun E2 w2 en u2 rI BZ o4 ho=>?_;have u3:=u.trans (kK.of u2 rI nV);cases en with
  |returned v'=>
   have ho:dQ E2 v1 v':=ho;have sr:jT E2 1 { F:=I.nil.set 0 (some v1),h:=Q,n:=n1,gZ:=[] } { tmps:=#[v'],defers:=[] } w2:=by
    refine⟨u3.good,BZ,fun t v hv=>?_,rfl,rfl⟩;rw[I.fF _ _ _ fa]at hv;split at hv
    . rename_i q;subst q;cases hv;exact⟨v',rfl,ho⟩
    . simp[I.get]at hv
   obtain⟨_,Iu,E3,r3,u4⟩:=od k2 sr;have u5:=(u3.trans u4).tA hd;obtain⟨v'',q1,q2⟩:=r3.F 0 v k3;simp only[List.getElem?_toArray,cG,aq]at q1;subst q1;refine⟨v,h',n',hR,E3,k4▸u5,(u3.trans u4).low,k5▸r3.qd,by rw[<- k5];exact Iu,q2⟩
  |_=>exact ho.elim
 rcases hy with rfl|rfl<;>exact key
theorem sY(S:P.follows .mixedOrders=true)(r9:jC P=true){f:FuncId}{fn:Func}{code:Code}(hf:P.funcs[f]? =some fn)(hb:fn.body=some code){args:ag}{h:I O}{N:Nat}
  (l:(Nat.ble args.length fn.ntmps&&Nat.blt fn.ntmps fV)=true) (v:V) (h':I O) (n':Nat) (hT:TG P N fn.ntmps code (dw args h N) (fD P N fn fun a b c=>a=v/\b=h'/\c=n'))
  {E:Env} {w:World} {dF:List Value} (ra:dV E args dF) (g:Good E h w) (hd:pH E N):
  Calls P f dF.toArray w (iC E h N w (.ret v) h' n'):=
 (qw S r9 hf hb l _ hT ra g hd).mono fun e w' ⟨_,_,_,⟨e1,e2,e3⟩,k⟩=>by subst e1 e2 e3;exact k
end
def frL:List (Nat×V)->I V:=go .nil
where go (t:I V):List (Nat×V)->I V
 | []=>t
 |(k,v)::r=>go (t.set k (some v)) r
def W:af->I O:=go .nil
where go (t:I O):af->I O
 | []=>t
 |(k,v)::r=>go (t.set k (some v)) r
def ff(l:List (Nat×V))(h:I O)(n:Nat):St:={ F:=frL l,h:=h,n:=n,gZ:=[] }
def Mk(l:List (Nat×V))(h:I O)(n:Nat)(d:List (FuncId×ag×ag)):St:={ F:=frL l,h:=h,n:=n,gZ:=d }
def KM(cs:List (FuncId×ag×V)):gy:=fun f args h n=>match look f args cs with
 |some v=>some ([],v,h,n)
 |none=>none
theorem Ol{P:Program}{cs:List (FuncId×ag×V)}(hT:∀x∈cs,EY P x):eR P (KM cs):=by
 intro f args h n s' v h' n' e;unfold KM at e;split at e
 . rename_i v' hl;simp only[aq,aF]at e;obtain⟨rfl,rfl,rfl,rfl⟩:=e;have hs:=hT _ (G3 hl);exact⟨hs.1,fun _ E w dF ra g hd BP=>I9 hs ra g hd BP⟩
 . cases e
def R6(P:Program)(T:jY)(hx:List (Nat×lI))(fr N:Nat)(fn:Func)(live:List Nat)(c:Code)(s:St):Option (ag×ag×List (List (Bool×Bool)×ah×jD)):=
 match jP P T hx fr c s with
 |some l=>some (pV l,uC l,uB (nr P N fn live) l)
 |none=>none
abbrev dh(P:Program)(T:jY)(hx:List (Nat×lI))(fr N:Nat)(fn:Func)(live:List Nat)(c:Code)(s:St)(iX:ag)(di:List (List (Bool×Bool)×ah×jD)):Prop:=R6 P T hx fr N fn live c s=some (iX,iX,di)
theorem dh.parts{P:Program}{T:jY}{hx:List (Nat×lI)}{fr N:Nat}{fn:Func}{live:List Nat}{c:Code}{s:St}{iX:ag}{di:List (List (Bool×Bool)×ah×jD)}(h:dh P T hx fr N fn live c s iX di):
  Am P T hx fr c s=true/\uG P T hx fr c s=wF P T hx fr c s/\Ci P T hx fr N fn live c s=di:=by
 have h:R6 P T hx fr N fn live c s=some (iX,iX,di):=h;unfold R6 at h;unfold Am uG wF Ci;split at h
 . rename_i l hl;simp only[aq,aF]at h;rw[hl];exact⟨rfl,h.1.trans h.2.1.symm,h.2.2⟩
 . cases h
section
variable{P:Program}{N n0:Nat}{c:Code}{s:St}{h1:Exit->St->Prop}{hx:List (Nat×lI)}{fr:Nat}{fn:Func}{live:List Nat}{iX:ag}{di:List (List (Bool×Bool)×ah×jD)}
section
variable(k:Nat)(X':CX P)
theorem Uv(S:P.follows .mixedOrders=true)(h2:V->I O->Nat->Prop)(K:eJ n0 c=true)(hr:dh P X'.T hx fr N fn live c s iX di)
  (h:∀g∈di,(∀b∈g.1,b.1=b.2)->(∀a∈g.2.1,a)/\g.2.2.post P N fn live h2 h1):TG P N n0 c s h1:=
 VN X' S hx fr fn live h2 di K hr.parts.1 hr.parts.2.1 hr.parts.2.2 h
theorem Om(S:P.follows .mixedOrders=true)(K:eJ n0 c=true)(hr:dh P X'.T hx fr N fn live (dN k c) s iX di)
  (h:∀g∈di,(∀b∈g.1,b.1=b.2)->(∀a∈g.2.1,a)/\∃s1,g.2.2= .to .normal s1/\TG P N n0 (dm k c) s1 h1):TG P N n0 c s h1:=
 R5 k X' S hx fr fn live di K hr.parts.1 hr.parts.2.1 hr.parts.2.2 h
theorem R7(S:P.follows .mixedOrders=true){s':ah}{s1:St}(K:eJ n0 c=true)(hr:dh P X'.T hx fr N fn live (dN k c) s iX [([],s',.to .normal s1)])
  (hA:∀a∈s',a) (h:TG P N n0 (dm k c) s1 h1):TG P N n0 c s h1:=
 Om k X' S K hr fun g hg _=>by
  rw[aG]at hg;subst hg;exact⟨hA,s1,rfl,h⟩
theorem VO(S:P.follows .mixedOrders=true)(h2:V->I O->Nat->Prop)(K:eJ n0 c=true)(hr:dh P X'.T hx fr N fn live c s iX di)
  (h:∀g∈di,(∀b∈g.1,b.1=b.2)->(∀a∈g.2.1,a)/\∃v h n,g.2.2= .ret v h n/\h2 v h n):TG P N n0 c s (fD P N fn h2):=
 Uv X' S h2 K hr fun g hg K=>by
  obtain⟨Q,v,h',n',e,hR⟩:=h g hg K;refine⟨Q,?_⟩;rw[e];exact⟨hR,fun A q=>q⟩
end
end
abbrev eH:V->I O->Nat->Prop:=fun _ _ _=>True
section
variable{P:Program}{N n0:Nat}{c:Code}{s:St}{h1:Exit->St->Prop}{fr:Nat}{fn:Func}
def jD.loop(P:Program)(N:Nat)(fn:Func)(live:List Nat)(h2:V->I O->Nat->Prop)(Tr:Nat->St->Prop)(k:Nat)(h1:Exit->St->Prop):jD->Prop
 | .to .normal s=>∃k',k'<k/\Tr k' s
 | .to y s=>∀A,kW N live A=some s->h1 y A
 | .ret v h n=>h2 v h n/\∀A,fD P N fn h2 .ret A->h1 .ret A
 | .bad=>False
end
theorem qx{E:Env}{h:I O}{n:Nat}{w:World}{v:V}{h':I O}{n':Nat}{e:Ending}{w':World}(VP:∀m,¬eL h m)(c:iC E h n w (.ret v) h' n' e w'):(∃E,wm E (.ret v) e)/\Below w.heap.size w w':=by
 obtain⟨E',u,_,_,_,ho⟩:=c;exact⟨⟨E',ho⟩,u.os,u.tape,u.output,u.size,fun k Y=>u.keep k Y fun m s S=>absurd S (VP m)⟩
section
variable{P:Program}{f:FuncId}
theorem Cj(S:P.follows .mixedOrders=true)(r9:jC P=true){f:FuncId}{fn:Func}{code:Code}(hf:P.funcs[f]? =some fn)(hb:fn.body=some code){args:ag}{h:I O}{N:Nat}
  (l:(Nat.ble args.length fn.ntmps&&Nat.blt fn.ntmps fV)=true) {v:V} (hT:TG P N fn.ntmps code (dw args h N) (fD P N fn fun a _ _=>a=v))
  {E:Env} {w:World} {dF:List Value} (ra:dV E args dF) (g:Good E h w) (hd:pH E N) (VP:∀m,¬eL h m):
  Calls P f dF.toArray w fun e w'=>(∃E,wm E (.ret v) e)/\Below w.heap.size w w':=
 (qw S r9 hf hb l _ hT ra g hd).mono fun e w' ⟨v',h',n',e1,k⟩=>by subst e1;exact qx VP k
theorem wG:∀m,¬eL (.nil:I O) m:=fun m k=>absurd rfl k.live
def gS(f:ag->Option (ah×V)):ag->I O->Nat->Option (ah×V×I O×Nat):=fun args h n=>match f args with
 |some (s',v)=>some (s',v,h,n)
 |none=>none
theorem On{spec:ag->Option (ah×V)}(eM:f<P.funcs.size)(h:∀args s' v,spec args=some (s',v)->V.tD args=true/\v.free=true/\((∀a∈s',a)->
  ∀E w dF,WG w->dV E args dF->Calls P f dF.toArray w fun e w'=>(∃E,wm E (.ret v) e)/\Below w.heap.size w w')):kE P f (gS spec):=by
 refine⟨eM,fun args h' n s' v R n2 e hA E w dF ra g hd K=>?_⟩;unfold gS at e;split at e
 . rename_i A' v' hs;simp only[aq,aF]at e;obtain⟨rfl,rfl,rfl,rfl⟩:=e;obtain⟨Q,R,h3⟩:=h args _ _ hs;exact(h3 hA E w dF g.wg ra).mono fun en w' ⟨ho,b⟩=>uD g hd R ho b
 . cases e
theorem Jl(S:P.follows .mixedOrders=true)(r9:jC P=true){f:FuncId}{fn:Func}{code:Code}(hf:P.funcs[f]? =some fn)(hb:fn.body=some code){args:ag}
  (l:(Nat.ble args.length fn.ntmps&&Nat.blt fn.ntmps fV)=true) {v:V} (vb:V.tD args=true) (hT:TG P gN fn.ntmps code (dw args .nil gN) (fD P gN fn fun a _ _=>a=v)):
  ∀E w dF,WG w->dV E args dF->Calls P f dF.toArray w fun e w'=>(∃E,wm E (.ret v) e)/\Below w.heap.size w w':=
 fun _ w _ hw ra=>Cj S r9 hf hb l hT (nO _ _ vb ra) (Um hw) (aax (aK _)) wG
end
def Oo(h:I O):List (Nat×IntKind)->Option (I O)
 | []=>some h
 |(m,k)::r=>match h.get m with
  |some (.cells T)=>match pb k T with
   |some ks=>match Nat.blt m fV with
    |true=>Oo (h.set m (some (.own k ks))) r
    |false=>none
   |none=>none
  |_=>none
theorem D5{E:Env}{w:World}:∀(l:List (Nat×IntKind)) (h R:I O),Oo h l=some R->Good E h w->Good E R w/\∀m,(R.get m≠none↔h.get m≠none)/\(eL R m->eL h m)
 | [],h,R,e,g=>by simp only[Oo,aq]at e;subst e;exact⟨g,fun m=>⟨Iff.rfl,id⟩⟩
 |(m,k)::r,h,R,e,g=>by
  unfold Oo at e;split at e
  case h_2=>cases e
  rename_i T S;split at e
  case h_2=>cases e
  rename_i ks Y;split at e
  case h_2=>cases e
  rename_i ht;have ht:m<fV:=az ht;have qb:=rj Y;have lq:∀j,(h.set m (some (.own k ks))).get j=if j=m then some (.own k ks)else h.get j:=fun j=>I.fF _ _ _ ht
  have ED:∀j,((h.set m (some (.own k ks))).get j≠none↔h.get j≠none)/\(eL (h.set m (some (.own k ks))) j->eL h j):=by
   intro j;rw[lq];by_cases q:j=m
   . subst q;rw[aE rfl,S];exact⟨by simp,fun _=>⟨_,S,rfl⟩⟩
   . rw[aB q];exact⟨Iff.rfl,fun z=>pA ht z q⟩
  have g1:Good E (h.set m (some (.own k ks))) w:=by
   refine⟨fun j o hj=>?_,fun j j' b s A ja hj w7 e1 e2=>g.inj j j' b s A ja ((ED j).2 hj) ((ED j').1.1 w7) e1 e2,g.oy,g.kg,fun b c q=>⟨g.fz b c q,fun m' s qe=>(g.iu b c q).2 m' s ((ED m').2 qe)⟩⟩;rw[lq]at hj;split at hj
   . rename_i q;subst q;obtain rfl:=eB hj;obtain⟨b,s,Q,R⟩:=g.rel j _ S;rw[qb]at R;exact⟨b,s,Q,R⟩
   . exact g.rel j o hj
  obtain⟨g2,k2⟩:=D5 r _ R e g1;exact⟨g2,fun j=>⟨(k2 j).1.trans (ED j).1,fun z=>(ED j).2 ((k2 j).2 z)⟩⟩
def VQ(l:List (Nat×IntKind))(s:St):Option St:=match Oo s.h l with
 |some h=>some { s with h:=h }
 |none=>none
theorem ze{P:Program}{N n0:Nat}{c:Code}{s s2:St}{h1:Exit->St->Prop}(l:List (Nat×IntKind))(e:VQ l s=some s2)(h:TG P N n0 c s2 h1):TG P N n0 c s h1:=by
 unfold VQ at e;split at e
 case h_2=>cases e
 rename_i R hh;obtain rfl:=eB e;intro E a w hc r hn k;obtain⟨g2,k2⟩:=D5 (E:=E) (w:=w) l s.h R hh r.good;have u:kK N E s.h w E R w:=⟨fun _ _ _ _ e=>⟨e,rfl⟩,fun _ _=>rfl,fun _ _ q=>q,g2,aK _,rfl,rfl,rfl,fun _ _ _=>rfl,fun m b s1 S e1 _=>⟨m,s1,(k2 m).1.1 S,e1,(k2 m).2⟩,fun _ _ q=>.inl q⟩;exact h E a w hc ⟨g2,r.qd,r.F,r.size,r.gZ⟩ hn fun y A E' a' w' q u' nV r'=>k y A E' a' w' q (u.trans u') nV r'
def Env.rows(E:Env)(ns:List (Option (Nat×Nat))):Env:=⟨fun j=>match ns.getD j none with
 |some (m,o)=>match E.ι m with
  |some (b,s)=>some (b,s+o)
  |none=>none
 |none=>none,E.β,E.φ⟩
theorem dh.of{P:Program}{T:jY}{hx:List (Nat×lI)}{fr N:Nat}{fn:Func}{live:List Nat}{c:Code}{s:St}{di:List (List (Bool×Bool)×ah×jD)}(Q:Am P T hx fr c s=true)(R:uG P T hx fr c s=wF P T hx fr c s)(h3:Ci P T hx fr N fn live c s=di):
  ∃iX,dh P T hx fr N fn live c s iX di:=by
 refine⟨uG P T hx fr c s,?_⟩;unfold dh R6;unfold Am at Q;unfold uG wF at R;unfold Ci at h3;unfold uG;cases hl:jP P T hx fr c s with
 |none=>rw[hl]at Q;cases Q
 |some l=>
  rw[hl]at R h3;have R:pV l=uC l:=R;have h3:uB (nr P N fn live) l=di:=h3;show some (pV l,uC l,uB (nr P N fn live) l)=some (pV l,pV l,di);rw[h3,<- R]
end Go.Eng
