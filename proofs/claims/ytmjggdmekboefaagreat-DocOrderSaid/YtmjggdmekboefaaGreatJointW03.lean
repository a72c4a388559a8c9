/- Lemmas of the engine. No conditions. -/
import Derived.Test.YtmjggdmekboefaaGreatJointW02
set_option linter.unusedVariables false
set_option linter.unusedSimpArgs false
set_option linter.unusedSectionVars false
namespace Go.Eng
open Go Go.RowKit
structure tf where
 conds:List (Bool×Bool)
 same:List (V×V)
 NU:ah
def tf.nil:tf:=⟨[],[],[]⟩
def tf.app(a b:tf):tf:=⟨a.conds++b.conds,a.same++b.same,a.NU++b.NU⟩
def tf.ok(p:tf):Prop:=∀c∈p.conds,c.1=c.2
def tf.good(p:tf):Prop:=(∀c∈p.same,c.1=c.2)/\∀a∈p.NU,a
theorem tf.OW{a b:tf}:(a.app b).ok↔a.ok/\b.ok:=by
 simp only[tf.ok,tf.app,bg];exact⟨fun h=>⟨fun c B=>h c (.inl B),fun c B=>h c (.inr B)⟩,fun h c B=>B.elim (h.1 c) (h.2 c)⟩
theorem tf.OX{a b:tf}:(a.app b).good↔a.good/\b.good:=by
 simp only[tf.good,tf.app,bg];exact⟨fun h=>⟨⟨fun c B=>h.1 c (.inl B),fun c B=>h.2 c (.inl B)⟩,fun c B=>h.1 c (.inr B),fun c B=>h.2 c (.inr B)⟩,
  fun h=>⟨fun c B=>B.elim (h.1.1 c) (h.2.1 c),fun c B=>B.elim (h.1.2 c) (h.2.2 c)⟩⟩
abbrev iW(α:Type):=Option (List (tf×α))
def iW.ret{α:Type}(a:α):iW α:=some [(.nil,a)]
def pre{α:Type}(p:tf):List (tf×α)->List (tf×α)
 | []=>[]
 |e::r=>(p.app e.1,e.2)::pre p r
def iW.bind{α β:Type}:List (tf×α)->(α->iW β)->iW β
 | [],_=>some []
 |(p,a)::r,f=>match f a with
  |some l1=>match iW.bind r f with
   |some l2=>some (pre p l1++l2)
   |none=>none
  |none=>none
def iW.then{α β:Type}(m:iW α)(f:α->iW β):iW β:=match m with
 |some l=>iW.bind l f
 |none=>none
def fI{α:Type}(m:iW α)(r:Option α):Prop:=∀l,m=some l->(∃e∈l,e.1.ok)/\∀e∈l,e.1.ok->e.1.good->r=some e.2
theorem FE{α:Type}{p:tf}:∀{l:List (tf×α)} {e:tf×α},e∈pre p l↔∃e'∈l,e=(p.app e'.1,e'.2)
 | [],e=>by simp[pre]
 |x::r,e=>by
  simp only[pre,aD,FE];exact⟨fun h=>h.elim (fun q=>⟨x,.inl rfl,q⟩) fun⟨e',Q,O⟩=>⟨e',.inr Q,O⟩,fun⟨e',Q,O⟩=>Q.elim (fun q=>.inl (by rw[O,q])) fun q=>.inr ⟨e',q,O⟩⟩
theorem HQ{α β:Type}{f:α->iW β}:∀{l:List (tf×α)} {l2:List (tf×β)},iW.bind l f=some l2->(∀e∈l2,∃d∈l,∃l1,f d.2=some l1/\∃e'∈l1,e=(d.1.app e'.1,e'.2))/\(∀d∈l,∃l1,f d.2=some l1/\∀e'∈l1,(d.1.app e'.1,e'.2)∈l2)
 | [],l2,h=>by
   simp only[iW.bind,aq]at h;subst h;exact⟨fun e he=>by simp at he,fun d hd=>by simp at hd⟩
 |(p,a)::r,l2,h=>by
  simp only[iW.bind]at h;split at h
  . rename_i l1 Q;split at h
    . rename_i l3 h3;obtain rfl:=eH h;obtain⟨k1,k2⟩:=HQ h3;refine⟨fun e he=>?_,fun d hd=>?_⟩
      . rcases bg.1 he with q|q
        . obtain⟨e',q1,q2⟩:=FE.1 q;exact⟨(p,a),by simp,l1,Q,e',q1,q2⟩
        . obtain⟨d,d1,d2⟩:=k1 e q;exact⟨d,by simp[d1],d2⟩
      . rcases aD.1 hd with rfl|hd
        . exact⟨l1,Q,fun e' AZ=>bg.2 (.inl (FE.2 ⟨e',AZ,rfl⟩))⟩
        . obtain⟨l1',q1,q2⟩:=k2 d hd;exact⟨l1',q1,fun e' AZ=>bg.2 (.inr (q2 e' AZ))⟩
    . cases h
  . cases h
theorem fI.ret{α:Type}(a:α):fI (iW.ret a) (some a):=by
 intro l h;simp only[iW.ret,aq]at h;subst h;exact⟨⟨_,aH.2 rfl,fun c B=>by simp[tf.nil]at B⟩,fun e he _ _=>by simp only[aH]at he;subst he;rfl⟩
theorem fI.none{α:Type}(r:Option α):fI (none:iW α) r:=fun l h=>by cases h
theorem fI.then{α β:Type}{m:iW α}{f:α->iW β}{r:Option α}{g:α->Option β}(h:fI m r)(hf:∀a,fI (f a) (g a)):fI (m.then f) (r.bind g):=by
 intro l2 e;unfold iW.then at e;split at e
 . rename_i l;obtain⟨⟨d,hd,mc⟩,O⟩:=h l rfl;obtain⟨k1,k2⟩:=HQ e;refine⟨?_,fun e he ahI Wy=>?_⟩
   . obtain⟨l1,q1,q2⟩:=k2 d hd;obtain⟨⟨e',AZ,SM⟩,_⟩:=hf d.2 l1 q1;exact⟨_,q2 e' AZ,tf.OW.2 ⟨mc,SM⟩⟩
   . obtain⟨d,hd,l1,q1,e',AZ,rfl⟩:=k1 e he;obtain⟨o1,o2⟩:=tf.OW.1 ahI;obtain⟨g1,g2⟩:=tf.OX.1 Wy;rw[O d hd o1 g1];exact(hf d.2 l1 q1).2 e' AZ o2 g2
 . cases e
theorem fI.of_eq{α:Type}{m:iW α}{r r':Option α}(h:fI m r)(e:r=r'):fI m r':=e▸h
def uO(P:Program)(t:TypeId):Option Nat:=match uq P t with
 |some e=>ku P e
 |none=>none
def nU(P:Program):List Field->ag->ag->Option Bool
 | [],_,_=>some true
 |f::fs,xs,ys=>match decide (f.name= "_")with
  |true=>none
  |false=>match P.underlying f.type,oa P f.type xs f.offset,oa P f.type ys f.offset with
   |some (.int _),some (.int k a),some (.int k' b)=>match decide (k=k')with
    |true=>match nU P fs xs ys with
     |some r=>some ((a==b)&&r)
     |none=>none
    |false=>none
   |_,_,_=>none
theorem tg{P:Program}{d:Nat}:∀{fs:List Field} {xs ys:ag} {r:Bool},nU P fs xs ys=some r->eqFields P (fun u a b=>Ec P (d+1) u a b) fs xs ys=some r
 | [],_,_,r,e=>by simpa only[nU,eqFields]using e
 |f::fs,xs,ys,r,e=>by
  simp only[nU]at e;split at e
  . cases e
  . rename_i hn;have hn:=bB hn;split at e
    . rename_i k0 k a k' b Q O h3;split at e
      . rename_i W;have W:=aX W;subst W;split at e
        . rename_i r' hr;obtain rfl:=eH e;have ih:=tg (d:=d) hr;simp only[eqFields,aG hn,O,h3];have:Ec P (d+1) f.type (.int k a) (.int k b)=some (a==b):=by simp only[Ec,Q,if_true]
          rw[this];cases hab:a==b with
          |true=>simp only[aN];exact ih
          |false=>simp only[aS]
        . cases e
      . cases e
    . cases e
def OY(P:Program)(e:TypeId):V->V->Option Bool
 | .agg xs,.agg ys=>match P.underlying e with
   |some (.struct lN)=>match P.stoodInHeld e with
    |true=>none
    |false=>nU P lN.toList xs ys
   |_=>none
 |_,_=>none
def rV(P:Program)(e:TypeId)(c:Nat)(xs ys:ag):List Nat->Option Bool
 | []=>some true
 |i::is=>match oa P e xs (i*c),oa P e ys (i*c)with
  |some a,some b=>match OY P e a b,rV P e c xs ys is with
   |some q,some r=>some (q&&r)
   |_,_=>none
  |_,_=>none
theorem OZ{P:Program}{d:Nat}{e:TypeId}{x y:V}{r:Bool}(h:OY P e x y=some r):Ec P (d+1+1) e x y=some r:=by
 unfold OY at h;split at h
 . split at h
   . rename_i lN hu;split at h
     . cases h
     . rename_i hs;simp only[Ec,hu,hs,aM,cz];exact tg (d:=d) h
   . cases h
 . cases h
theorem Az{P:Program}{d c:Nat}{e:TypeId}{xs ys:ag}:∀{is:List Nat} {r:Bool},rV P e c xs ys is=some r->oc P (Ec P (d+1+1) e) e c xs ys is=some r
 | [],r,h=>by simpa only[rV,oc]using h
 |i::is,r,h=>by
  simp only[rV]at h;split at h
  . rename_i a b Q O;split at h
    . rename_i q r' h3 h4;obtain rfl:=eH h;simp only[oc,Q,O,OZ (d:=d) h3];cases q with
      |true=>simp only[aN];exact Az h4
      |false=>simp only[aS]
    . cases h
  . cases h
def Lm(P:Program)(t:TypeId)(xs ys:ag):Option Bool:=
 match P.eqGuardType P.depth t with
 |true=>none
 |false=>match P.underlying t with
  |some (.struct lN)=>match P.stoodInHeld t with
   |true=>none
   |false=>nU P lN.toList xs ys
  |some (.array n e)=>match(P.info? e).isSome with
   |true=>rV P e (P.cellsOf e) xs ys (List.range n)
   |false=>none
  |_=>none
section
variable{P:Program}(h:J h2){t:TypeId}
theorem SS{d:Nat}{t:TypeId}{lN:Array Field}{xs ys:ag}{r:Bool}(hu:P.underlying t=some (.struct lN))(hs:P.stoodInHeld t=false)(e:nU P lN.toList xs ys=some r):Ec P (d+1+1) t (.agg xs) (.agg ys)=some r:=by
 simp only[Ec,hu,hs,aM,cz];exact tg (d:=d) e
theorem SU{d m:Nat}{t el:TypeId}{xs ys:ag}{r:Bool}(hu:P.underlying t=some (.array m el))(hi:(P.info? el).isSome=true)(e:rV P el (P.cellsOf el) xs ys (List.range m)=some r):Ec P (d+1+1+1) t (.agg xs) (.agg ys)=some r:=by
 simp only[Ec,hu,hi];exact Az (d:=d) e
theorem HR{x y:Operand}{xs ys:ag}{r:Bool}(e:Lm P t xs ys=some r):DH P t x y (.agg xs) (.agg ys)=some r:=by
 unfold Lm at e;split at e
 . cases e
 . rename_i hg;split at e
   . rename_i lN hu;split at e
     . cases e
     . rename_i hs;simp only[DH,hg,aM,cz];exact SS (d:=9998) hu hs e
   . rename_i n el hu;split at e
     . rename_i hi;simp only[DH,hg,aM,cz];exact SU (d:=9997) hu hi e
     . cases e
   . cases e
def pxT(P:Program)(t:TypeId):Option (Nat×TypeId×Nat):=match P.underlying t with
 |some (.array len e)=>match GV P e,ku P e with
  |some true,some s=>some (len,e,s)
  |_,_=>none
 |_=>none
theorem Wz{e:TypeId}{len s:Nat}(h:pxT P t=some (len,e,s)):P.underlying t=some (.array len e)/\GV P e=some true/\ku P e=some s:=by
 unfold pxT at h;split at h
 . rename_i hu;split at h
   . rename_i Q O;simp only[aq,aF]at h;obtain⟨rfl,rfl,rfl⟩:=h;exact⟨hu,Q,O⟩
   . cases h
 . cases h
def kC(P:Program)(o:Oper)(N:J V)(h:J h2)(n:Nat):Option (ah×cs):=match dS P o N h n with
 |some r=>some ([],r)
 |none=>none
def O0:V->Bool
 | .eR (some (m,_)) _ _ _=>match h.get m with
   |some (.ints _ _)=>true
   |some (.own _ _)=>true
   |some (.deep _)=>true
   |some (.tJ _ _ _)=>true
   |_=>false
 | .eB _ _ _=>true
 | .str _=>true
 |_=>false
def FF(size:Nat)(x:V):Option (ah×Nat×Row):=
 match x with
 | .eB _ len R=>some ([R.length=len*size],len,.ds R)
 |x=>match O0 h x with
 |true=>match x with
  | .eR (some (m,o)) len _ jv=>match Nat.beq jv size,(h.get m).bind h2.Mn with
    |true,some (.is k Y)=>some ([0<len,o+len*size<=Y.length],len,.is k ((Y.drop o).take (len*size)))
    |true,some (.ds R)=>some ([0<len,o+len*size<=R.length],len,.ds ((R.drop o).take (len*size)))
    |_,_=>none
  | .str s=>match Nat.beq size 1 with
    |true=>some ([],s.length,.is .u8 (fV s))
    |false=>none
  |_=>none
 |false=>match jz h size x with
  |some (k,r)=>some ([],k,r)
  |none=>none
theorem th{h:J h2}{size k:Nat}{x:V}{aj:ah}{r:Row}(e:FF h size x=some (aj,k,r))(hA:∀a∈aj,a):jz h size x=some (k,r):=by
 unfold FF at e;split at e
 . simp only[aq,aF]at e;obtain⟨rfl,rfl,rfl⟩:=e;have Q:=hA _ (aH.2 rfl);simp only[jz,aG Q]
 split at e
 . split at e
   . rename_i m o len cp jv _ _;split at e
     . rename_i k' Y hb hr;simp only[aq,aF]at e;obtain⟨rfl,rfl,rfl⟩:=e;have Q:0<len:=hA _ (by simp);have O:o+len*size<=Y.length:=hA _ (by simp);have hb:=aA hb;cases K:h.get m with
       |none=>rw[K]at hr;cases hr
       |some ob=>
        rw[K]at hr;have hr:ob.Mn=some (.is k' Y):=hr;cases len with
        |zero=>omega
        |succ len=>simp only[jz,hb,if_true,K,hr,Row.cut,aG O]
     . rename_i R hb hr;simp only[aq,aF]at e;obtain⟨rfl,rfl,rfl⟩:=e;have Q:0<len:=hA _ (by simp);have O:o+len*size<=R.length:=hA _ (by simp);have hb:=aA hb;cases K:h.get m with
       |none=>rw[K]at hr;cases hr
       |some ob=>
        rw[K]at hr;have hr:ob.Mn=some (.ds R):=hr;cases len with
        |zero=>omega
        |succ len=>simp only[jz,hb,if_true,K,hr,Row.cut,aG O]
     . cases e
   . split at e
     . rename_i hb;simp only[aq,aF]at e;obtain⟨rfl,rfl,rfl⟩:=e;simp only[jz,aG (aA hb)]
     . cases e
   . cases e
 . split at e
   . rename_i k' r' Q;simp only[aq,aF]at e;obtain⟨rfl,rfl,rfl⟩:=e;exact Q
   . cases e
def zo(len size o:Nat):Row->Option (ah×Row)
 | .is k Y=>some ([0<len,o+len*size<=Y.length],.is k ((Y.drop o).take (len*size)))
 | .ds R=>some ([o+len*size<=R.length],.ds ((R.drop o).take (len*size)))
 | .vs R=>match len with
   |0=>some ([],.vs [])
   |_=>match(Row.vs R).cut o (len*size)with
    |some r=>some ([],r)
    |none=>none
theorem MT{len size o:Nat}{r old:Row}{aj:ah}(e:zo len size o r=some (aj,old))(hA:∀a∈aj,a):(if r.soft=false/\len=0 then some (.vs [])else r.cut o (len*size):Option Row)=some old:=by
 cases r with
 |is k Y=>
  simp only[zo,aq,aF]at e;obtain⟨rfl,rfl⟩:=e;have Q:0<len:=hA _ (by simp);have O:o+len*size<=Y.length:=hA _ (by simp);rw[aB H];simp only[Row.cut,aG O]
 |ds R=>
  simp only[zo,aq,aF]at e;obtain⟨rfl,rfl⟩:=e;have O:o+len*size<=R.length:=hA _ (by simp);rw[aB (fun q=>by have:=q.1;cases this)];simp only[Row.cut,aG O]
 |vs R=>
  cases len with
  |zero=>
   simp only[zo,aq,aF]at e;obtain⟨rfl,rfl⟩:=e;rfl
  |succ len=>
   simp only[zo]at e;split at e
   . rename_i r' Q;obtain⟨rfl,rfl⟩:=ga e;rw[aB H];exact Q
   . cases e
def FG(i:TypeInfo)(z:V):Bool:=decide (0<i.size)&&(decide (0<i.bytes)&&decide (z.cells.length=i.size))
def O1(m:Nat):Option (TypeId×Bool×aa):=match h.get m with
 |some (.tJ e f s)=>some (e,f,s)
 |_=>none
def zq(P:Program)(eA:Array TypeId)(args:ag)(h:J h2)(n:Nat):Option (ah×cs):=
 match eA[0]?,eA[1]?,args with
 |some st,some xt,[s,x]=>match uq P st,P.underlying xt with
  |some e,some xd=>match Ji xd,P.info? e,zeroOf P e with
   |true,some i,some z=>match FG i z,FF h i.size x with
    |true,some (aj,k,new)=>match new.flat with
     |true=>match s with
      | .eR none 0 _ _=>match newObj h n (BR e x new)with
        |some (h',n')=>some (aj++[0<k,fo k i.size i.bytes=true],.val (.eR (some (n,0)) k k i.size) h' n')
        |none=>none
      | .eB true len R=>match newObj h n ((Row.ds R).app new).Eb with
        |some (h',n')=>some (aj++[0<k,fo (len+k) i.size i.bytes=true,R.length=len*i.size],.val (.eR (some (n,0)) (len+k) (len+k) i.size) h' n')
        |none=>none
      | .eR (some (m,o)) len cp jv=>match O1 h m with
        |some (el,Ac,s0)=>match Nat.beq jv i.size&&(Nat.blt m fZ&&(Nat.beq o 0&&(Nat.beq i.size 1&&decide (el=e)))),uy new with
         |true,some t=>match newObj (h.set m none) n (.tJ el Ac (s0++t))with
          |some (h',n')=>some (aj++[0<cp,len=s0.length,fo (len+k) i.size i.bytes=true],.val (.eR (some (n,0)) (len+k) (len+k) jv) h' n')
          |none=>none
         |_,_=>none
        |none=>match Nat.beq jv i.size&&Nat.blt m fZ,(h.get m).bind h2.row with
        |true,some r=>match zo len i.size o r with
         |some (hc,old)=>match newObj (h.set m none) n (old.app new).Eb with
          |some (h',n')=>match new.soft with
           |true=>some (aj++(hc++[fo (len+k) i.size i.bytes=true]),.val (.eR (some (n,0)) (len+k) (len+k) jv) h' n')
           |false=>some (aj++(hc++[0<k,fo (len+k) i.size i.bytes=true]),.val (.eR (some (n,0)) (len+k) (len+k) jv) h' n')
          |none=>none
         |none=>none
        |_,_=>none
      |_=>none
     |false=>none
    |_,_=>none
   |_,_,_=>none
  |_,_=>none
 |_,_,_=>none
theorem FH{eA:Array TypeId}{args:ag}{h:J h2}{n:Nat}{aj:ah}{r:cs}(e:zq P eA args h n=some (aj,r))(hA:∀a∈aj,a):xF P eA args h n=some r:=by
 unfold zq at e;split at e
 . rename_i st xt s x Q O;split at e
   . rename_i el xd h3 h4;split at e
     . rename_i i z h5 h6 h7;split at e
       . rename_i A1 k new h8 h9;simp only[FG,ay,aY]at h8;split at e
         . rename_i WA;unfold xF;simp only[Q,O,h3,h4,h5,h6,h7];rw[aG h8];split at e
           . cases ho:newObj h n (BR el x new)with
             |none=>rw[ho]at e;cases e
             |some p=>
              rw[ho]at e;obtain⟨rfl,rfl⟩:=ga e;have ht:=th h9 fun a ha=>hA a (by simp[ha]);have W:0<k:=hA _ (by simp);have hr:fo k i.size i.bytes=true:=hA _ (by simp);rw[ht];simp only[WA,if_true];cases k with
              |zero=>omega
              |succ k=>simp only[aG hr,ho]
           . rename_i len R;cases ho:newObj h n ((Row.ds R).app new).Eb with
             |none=>rw[ho]at e;cases e
             |some p=>
              rw[ho]at e;obtain⟨rfl,rfl⟩:=ga e;have ht:=th h9 fun a ha=>hA a (by simp[ha]);have W:0<k:=hA _ (by simp);have hr:fo (len+k) i.size i.bytes=true:=hA _ (by simp);have B:R.length=len*i.size:=hA _ (by simp);rw[ht];simp only[WA,if_true];cases k with
              |zero=>omega
              |succ k=>simp only[aG (And.intro hr B),ho]
           . rename_i m o len cp jv;split at e
             . rename_i el0 Ac s0 Ju;have K:h.get m=some (.tJ el0 Ac s0):=by
                unfold O1 at Ju;split at Ju
                . rename_i hq;cases Ju;exact hq
                . cases Ju
               split at e
               case h_2=>cases e
               rename_i t hb ht;simp only[ay]at hb;cases ho:newObj (h.set m none) n (.tJ el0 Ac (s0++t))with
               |none=>rw[ho]at e;cases e
               |some p=>
                rw[ho]at e;obtain⟨rfl,rfl⟩:=ga e;have htl:=th h9 fun a ha=>hA a (by simp[ha]);have q1:0<cp:=hA _ (by simp);have q2:len=s0.length:=hA _ (by simp);have q3:fo (len+k) i.size i.bytes=true:=hA _ (by simp);rw[htl];simp only[WA,if_true];rw[aG ⟨aA hb.1,q3,az hb.2.1⟩];simp only[K,ht];rw[aG ⟨⟨aA hb.2.2.1,q1⟩,⟨Nat.le_of_eq q2,fun _=>q2⟩,aA hb.2.2.2.1,aX hb.2.2.2.2⟩];simp only[q2,bz];rw[<- q2];simp only[ho]
             rename_i hnb;split at e
             . rename_i r0 hb Ca;split at e
               . rename_i hc old og;cases ho:newObj (h.set m none) n (old.app new).Eb with
                 |none=>rw[ho]at e;cases e
                 |some p=>
                  rw[ho]at e;simp only at e;have Vk:(∀a∈A1,a)->(∀a∈hc,a)->(new.soft=false->0<k)->fo (len+k) i.size i.bytes=true->cs.val (.eR (some (n,0)) (len+k) (len+k) jv) p.1 p.2=r->
                   (match jz h i.size x with
                    |some (k,new)=>
                     if new.flat=true then
                      if jv=i.size/\fo (len+k) i.size i.bytes=true/\m<fZ then
                       match h.get m with
                       |some (.tJ el0 Ac s0)=>match uy new with
                        |some t=>if(o=0/\0<cp)/\(len<=s0.length/\(Ac=true->len=s0.length))/\(i.size=1/\el0=el)then(match newObj (h.set m none) n (.tJ el0 Ac (s0.take len++t))with
                         |some (h',n')=>some (.val (.eR (some (n,0)) (len+k) (len+k) jv) h' n')
                         |none=>none)else none
                        |none=>none
                       |some ob=>match ob.row with
                        |some r=>
                         match(if r.soft=false/\len=0 then some (.vs [])else r.cut o (len*i.size):Option Row)with
                         |some old=>
                          if new.soft=false/\k=0 then some (.val (.eR (some (m,o)) len cp jv) h n)
                          else match newObj (h.set m none) n (old.app new).Eb with
                           |some (h',n')=>some (.val (.eR (some (n,0)) (len+k) (len+k) jv) h' n')
                           |none=>none
                         |none=>none
                        |none=>none
                       |_=>none
                      else none
                     else none
                    |none=>none:Option cs)=some r:=by
                   intro hA1 hB W hr HS;subst HS;have ht:=th h9 hA1;have abA:=MT og hB;simp only[ay]at hb;have Sz:=aA hb.1;have NP:m<fZ:=az hb.2;cases K:h.get m with
                   |none=>rw[K]at Ca;cases Ca
                   |some ob=>
                    rw[K]at Ca;have Ca:ob.row=some r0:=Ca;rw[ht];simp only[WA,if_true];rw[aG ⟨Sz,hr,NP⟩];have abB:∀e f s,ob≠ .tJ e f s:=fun e f s q=>by subst q;unfold O1 at hnb;rw[K]at hnb;cases hnb
                    cases ob<;>first|exact absurd rfl (abB _ _ _)|skip
                    all_goals
                    simp only[Ca,abA];rw[aB (fun q=>by have:=W q.1;omega)];simp only[ho]
                  split at e
                  . simp only[aq,aF]at e;obtain⟨rfl,HS⟩:=e;rename_i Vl;exact Vk (fun a ha=>hA a (by simp[ha])) (fun a ha=>hA a (by simp[ha])) (fun q=>by rw[q]at Vl;cases Vl) (hA _ (by simp)) HS
                  . simp only[aq,aF]at e;obtain⟨rfl,HS⟩:=e;exact Vk (fun a ha=>hA a (by simp[ha])) (fun a ha=>hA a (by simp[ha])) (fun _=>hA _ (by simp)) (hA _ (by simp)) HS
               . cases e
             . cases e
           . cases e
         . cases e
       . cases e
     . cases e
   . cases e
 . cases e
end
section
variable{P:Program}{t:TypeId}{o:Oper}{N:J V}{h:J h2}(k:IntKind)(Y:List Int){n:Nat}
def CD(P:Program)(t:TypeId)(h:J h2)(v:V)(m o:Nat)(k:IntKind)(Y:List Int):Option (ah×J h2):=
 match ku P t,pL k v.cells with
 |some s,some new=>match Nat.beq v.cells.length s&&(Nat.blt 0 s&&Nat.blt m fZ)with
  |true=>some ([o+s<=Y.length],h.set m (some (.own k (AT Y o new))))
  |false=>none
 |_,_=>none
theorem HT{h':J h2}{v:V}{m o:Nat}{k:IntKind}{Y:List Int}{aj:ah}(K:h.get m=some (.own k Y))(e:CD P t h v m o k Y=some (aj,h'))(hA:∀a∈aj,a):storeAt P t h v (.ptr (some (m,o)))=some h':=by
 unfold CD at e;split at e
 . rename_i s new Q O;split at e
   . rename_i hb;obtain⟨rfl,rfl⟩:=ga e;simp only[ay]at hb;have h3:=aA hb.1;have h4:0<s:=az hb.2.1;have h5:m<fZ:=az hb.2.2;have h6:o+s<=Y.length:=hA _ (by simp);simp only[storeAt,K,Q,O];rw[aG ⟨h3,h4,h5⟩,aG h6]
   . cases e
 . cases e
def lY(off sz:Nat):V:=.agg ((List.range sz).map fun j=>V.int k (Y.getD (off+j) 0))
theorem JQ{k:IntKind}{Y:List Int}{off sz:Nat}(ha:GV P t=some true)(hs:ku P t=some sz)(hl:off+sz<=Y.length):kP P t (Y.map (.int k)) off=some (lY k Y off sz):=by
 simp only[kP,ha,hs,cut,bG,aG hl,bw,lY,aq,V.agg.injEq];apply List.ext_getElem
 . simp;omega
 . intro i Q O;simp at Q O;have:off+i<Y.length:=by omega
   simp[List.getD,this]
def Br(P:Program)(t:TypeId)(k:IntKind)(Y:List Int)(off:Nat):Option (Prop×V):=match GV P t with
 |some false=>some (off<Y.length,.int k (Y.getD off 0))
 |some true=>match ku P t with
  |some sz=>some (off+sz<=Y.length,lY k Y off sz)
  |none=>none
 |none=>none
theorem CE{k:IntKind}{Y:List Int}{off:Nat}{p:Prop}{v:V}(e:Br P t k Y off=some (p,v))(hp:p):kP P t (Y.map (.int k)) off=some v:=by
 unfold Br at e;split at e
 . rename_i WB;obtain⟨rfl,rfl⟩:=ga e;simp only[kP,WB,bI,au hp,bw,ax,ck]
 . rename_i WB;split at e
   . rename_i sz hs;obtain⟨rfl,rfl⟩:=ga e;exact JQ WB hs hp
   . cases e
 . cases e
def zu(P:Program)(t:TypeId):Bool:=match P.underlying t with
 |some .string=>true
 |_=>false
theorem vA(h:zu P t=true):P.underlying t=some .string:=by
 unfold zu at h;split at h
 . assumption
 . cases h
def AA(P:Program)(o:Oper)(N:J V)(h:J h2)(n:Nat):Option (ah×cs):=
 match o.op with
 | .indexAddr t x i=>match iP N x,iP N i with
   |some (.eR (some (m,off)) len _ jv),some (.int _ ix)=>match uO P t with
    |some s=>match Nat.beq s jv with
     |true=>some ([0<=ix/\ix<len],.val (.ptr (some (m,off+ix.toNat*s))) h n)
     |false=>none
    |none=>none
   |_,_=>kC P o N h n
 | .load t a=>match iP N a with
   |some (.ptr (some (m,off)))=>match h.get m with
    |some (.ints k Y)=>match Br P t k Y off with
     |some (p,v)=>some ([p],.val v h n)
     |none=>none
    |some (.own k Y)=>match Br P t k Y off with
     |some (p,v)=>some ([p],.val v h n)
     |none=>none
    |_=>kC P o N h n
   |_=>kC P o N h n
 | .store t a x=>match iP N a,iP N x with
   |some (.ptr (some (m,off))),some v=>match h.get m with
    |some (.own k Y)=>match CD P t h v m off k Y with
     |some (aj,h')=>some (aj,.val (.gw []) h' n)
     |none=>none
    |_=>kC P o N h n
   |_,_=>kC P o N h n
 | .call c=>match c.callee with
   | .builtin .append=>match uz N c.args.toList with
     |some [s,x]=>match O0 h s||O0 h x with
      |true=>match Nat.beq c.argTypes.size 2 with
       |true=>zq P c.argTypes [s,x] h n
       |false=>none
      |false=>kC P o N h n
     |_=>kC P o N h n
   |_=>kC P o N h n
 | .slice t x (some lo) (some hi) none=>match iP N x,iP N lo,iP N hi with
   |some (.eR a len jO jv),some (.int _ lx),some (.int _ I)=>match uO P t with
    |some s=>match Nat.beq s jv||a.isNone with
     |true=>some ([0<=I/\I<=jO,0<=lx/\lx<=I.toNat],.val (.eR (match a with|none=>none|some (b,o)=>some (b,o+lx.toNat*jv)) (I.toNat-lx.toNat) (jO-lx.toNat) jv) h n)
     |false=>none
    |none=>none
   |some (.str s),some (.int _ lx),some (.int _ I)=>match zu P t with
    |true=>some ([0<=I/\I<=s.length,0<=lx/\lx<=I.toNat],.val (.str ((s.take I.toNat).drop lx.toNat)) h n)
    |false=>none
   |_,_,_=>kC P o N h n
 | .slice t x none (some hi) none=>match iP N x,iP N hi with
   |some (.eR a len jO jv),some (.int _ I)=>match uO P t with
    |some s=>match Nat.beq s jv||a.isNone with
     |true=>some ([0<=I/\I<=jO],.val (.eR (match a with|none=>none|some (b,o)=>some (b,o+0*jv)) (I.toNat-0) (jO-0) jv) h n)
     |false=>none
    |none=>none
   |some (.str s),some (.int _ I)=>match zu P t with
    |true=>some ([0<=I/\I<=s.length],.val (.str ((s.take I.toNat).drop 0)) h n)
    |false=>none
   |_,_=>kC P o N h n
 | .slice t x (some lo) none none=>match iP N x,iP N lo with
   |some (.eR a len jO jv),some (.int _ lx)=>match uO P t with
    |some s=>match Nat.beq s jv||a.isNone with
     |true=>some ([0<=lx/\lx<=len],.val (.eR (match a with|none=>none|some (b,o)=>some (b,o+lx.toNat*jv)) (len-lx.toNat) (jO-lx.toNat) jv) h n)
     |false=>none
    |none=>none
   |some (.str s),some (.int _ lx)=>match zu P t with
    |true=>some ([0<=lx/\lx<=s.length],.val (.str ((s.take s.length).drop lx.toNat)) h n)
    |false=>none
   |_,_=>kC P o N h n
 | .binOp .eql t x y _=>match iP N x,iP N y with
   |some (.agg xs),some (.agg ys)=>match Lm P t xs ys with
    |some r=>some ([],.val (.bool r) h n)
    |none=>none
   |_,_=>kC P o N h n
 | .binOp .neq t x y _=>match iP N x,iP N y with
   |some (.agg xs),some (.agg ys)=>match Lm P t xs ys with
    |some r=>some ([],.val (.bool (!r)) h n)
    |none=>none
   |_,_=>kC P o N h n
 | .binOp .quo t x y _=>match iP N x,iP N y with
   |some (.int k a),some (.int k' b)=>match decide (k=k')with
    |true=>some ([b≠0],.val (.int k (k.wrap (a.tdiv b))) h n)
    |false=>none
   |_,_=>kC P o N h n
 | .index t x i=>match iP N x,iP N i with
   |some (.str s),some (.int _ ix)=>match zu P t with
    |true=>some ([0<=ix/\ix.toNat<s.length],.val (.int .u8 (s.getD ix.toNat 0).toNat) h n)
    |false=>none
   |some (.agg (.int k0 F::R)),some (.int _ ix)=>match pxT P t with
    |some (len,_,sz)=>some ([0<=ix/\ix<len,ix.toNat*sz+sz<=(V.int k0 F::R).length],.val (.agg (List.take sz (List.drop (ix.toNat*sz) (V.int k0 F::R)))) h n)
    |none=>kC P o N h n
   |_,_=>kC P o N h n
 |_=>kC P o N h n
theorem gP{l:ah}{r:cs}(e:kC P o N h n=some (l,r)):dS P o N h n=some r:=by
 unfold kC at e;split at e
 . rename_i r' hr;simp only[aq,aF]at e;obtain⟨_,rfl⟩:=e;exact hr
 . cases e
theorem pG{s:Nat}(e:uO P t=some s):∃el,P.underlying t=some (.slice el)/\ku P el=some s:=by
 unfold uO uq at e;cases hu:P.underlying t with
 |none=>simp[hu]at e
 |some d=>cases d<;>simp[hu]at e
          exact⟨_,rfl,e⟩
theorem rW{l:ah}{r:cs}(e:AA P o N h n=some (l,r))(hl:∀p∈l,p):dS P o N h n=some r:=by
 unfold AA at e;split at e
 . rename_i t x i ho;split at e
   . rename_i m off len cp jv k ix I hi;split at e
     . rename_i s hs;split at e
       . rename_i hb;obtain⟨rfl,rfl⟩:=ga e;have hb:=aA hb;subst hb;obtain⟨el,Q,O⟩:=pG hs;have B:=hl _ (aH.2 rfl);simp only[dS,ho,I,hi,nC,Q,O,kF];rw[aG (by exact⟨B.1,B.2,trivial⟩)]
       . cases e
     . cases e
   . exact gP e
 . rename_i t a ho;split at e
   . rename_i m off ha;split at e
     . rename_i k Y K;split at e
       . rename_i p v hs;obtain⟨rfl,rfl⟩:=ga e;have hp:p:=hl _ (aH.2 rfl);simp only[dS,ho,ha,loadAt,K,CE hs hp,kF]
       . cases e
     . rename_i k Y K;split at e
       . rename_i p v hs;obtain⟨rfl,rfl⟩:=ga e;have hp:p:=hl _ (aH.2 rfl);simp only[dS,ho,ha,loadAt,K,CE hs hp,kF]
       . cases e
     . exact gP e
   . exact gP e
 . rename_i t a x ho;split at e
   . rename_i m off v ha I;split at e
     . rename_i k Y K;split at e
       . rename_i aj h' hs;obtain⟨rfl,rfl⟩:=ga e;simp only[dS,ho,ha,I,HT K hs hl]
       . cases e
     . exact gP e
   . exact gP e
 . rename_i c ho;split at e
   . rename_i B;split at e
     . rename_i s x mA;split at e
       . split at e
         . rename_i hb;have hb:=aA hb;simp only[dS,ho,vV,mA,B,kW,hb,if_true];exact FH e hl
         . cases e
       . exact gP e
     . exact gP e
   . exact gP e
 . rename_i t x lo hi ho;split at e
   . rename_i a len cp jv k lx k2 I pF Dy MG;split at e
     . rename_i s hs;split at e
       . rename_i hb;obtain⟨rfl,rfl⟩:=ga e;obtain⟨el,Q,O⟩:=pG hs;have B:=hl _ (bx ..);have WC:=hl _ (bj _ (aH.2 rfl));have Bn:s=jv\/a=none:=by
          simp only[bX,Option.isNone_iff_eq_none]at hb;exact hb.imp aA _root_.id
         simp only[dS,ho,pF,Dy,MG,mb,l8,Q,O,kF,Option.isSome_none,aM,false_and,cz];rw[aG Bn];simp only[eV,aG B,aG WC];cases a<;>rfl
       . cases e
     . cases e
   . rename_i s k lx k2 I pF Dy MG;split at e
     . rename_i hs;obtain⟨rfl,rfl⟩:=ga e;have B:=hl _ (bx ..);have WC:=hl _ (bj _ (aH.2 rfl));simp only[dS,ho,pF,Dy,MG,mb,l8,vA hs,kF,Option.isSome_none,aM,false_and,cz,eV,aG B,aG WC]
     . cases e
   . exact gP e
 . rename_i t x hi ho;split at e
   . rename_i a len cp jv k I pF MG;split at e
     . rename_i s hs;split at e
       . rename_i hb;obtain⟨rfl,rfl⟩:=ga e;obtain⟨el,Q,O⟩:=pG hs;have B:=hl _ (aH.2 rfl);have Bn:s=jv\/a=none:=by
          simp only[bX,Option.isNone_iff_eq_none]at hb;exact hb.imp aA _root_.id
         simp only[dS,ho,pF,MG,mb,l8,Q,O,kF,Option.isSome_none,aM,false_and,cz];rw[aG Bn];simp only[eV,aG B];cases a<;>rfl
       . cases e
     . cases e
   . rename_i s k I pF MG;split at e
     . rename_i hs;obtain⟨rfl,rfl⟩:=ga e;have B:=hl _ (aH.2 rfl);simp only[dS,ho,pF,MG,mb,l8,vA hs,kF,Option.isSome_none,aM,false_and,cz,eV,aG B]
     . cases e
   . exact gP e
 . rename_i t x lo ho;split at e
   . rename_i a len cp jv k lx pF MG;split at e
     . rename_i s hs;split at e
       . rename_i hb;obtain⟨rfl,rfl⟩:=ga e;obtain⟨el,Q,O⟩:=pG hs;have B:=hl _ (aH.2 rfl);have Bn:s=jv\/a=none:=by
          simp only[bX,Option.isNone_iff_eq_none]at hb;exact hb.imp aA _root_.id
         simp only[dS,ho,pF,MG,mb,l8,Q,O,kF,Option.isSome_none,aM,false_and,cz];rw[aG Bn];simp only[eV,aG B];cases a<;>rfl
       . cases e
     . cases e
   . rename_i s k lx pF MG;split at e
     . rename_i hs;obtain⟨rfl,rfl⟩:=ga e;have B:=hl _ (aH.2 rfl);simp only[dS,ho,pF,MG,mb,l8,vA hs,kF,Option.isSome_none,aM,false_and,cz,eV,aG B]
     . cases e
   . exact gP e
 . rename_i t x y yt ho;split at e
   . rename_i xs ys I hy;split at e
     . rename_i r hr;obtain⟨rfl,rfl⟩:=ga e;simp only[dS,ho,I,hy,BN,HR hr,bw,kF]
     . cases e
   . exact gP e
 . rename_i t x y yt ho;split at e
   . rename_i xs ys I hy;split at e
     . rename_i r hr;obtain⟨rfl,rfl⟩:=ga e;simp only[dS,ho,I,hy,BN,HR hr,bw,kF]
     . cases e
   . exact gP e
 . rename_i t x y yt ho;split at e
   . rename_i k a k' b I hy;split at e
     . rename_i W;have W:=aX W;subst W;obtain⟨rfl,rfl⟩:=ga e;have hb:b≠0:=hl _ (aH.2 rfl);have:BN P .quo t x y (.int k a) (.int k b)=some (.int k (k.wrap (a.tdiv b))):=by
        simp[BN,binOp,Op.intDiv,hb,sH,iN];rfl
       simp only[dS,ho,I,hy,this,kF]
     . cases e
   . exact gP e
 . rename_i t x i ho;split at e
   . rename_i s k ix I hi;split at e
     . rename_i hs;obtain⟨rfl,rfl⟩:=ga e;have B:0<=ix/\ix.toNat<s.length:=hl _ (aH.2 rfl);have hg:s[ix.toNat]? =some s[ix.toNat]:=au B.2;have hd:s.getD ix.toNat 0=s[ix.toNat]:=by rw[ax,hg];rfl
       simp only[dS,ho,I,hi,BP,vA hs,aG B.1,hg,hd,kF]
     . cases e
   . rename_i k0 m0 R k ix I hi;split at e
     . rename_i len el sz hs;obtain⟨rfl,rfl⟩:=ga e;have B:0<=ix/\ix<len:=hl _ (by simp);have hd:ix.toNat*sz+sz<=(V.int k0 m0::R).length:=hl (ix.toNat*sz+sz<=(V.int k0 m0::R).length) (by simp);obtain⟨q1,q2,q3⟩:=Wz hs;simp only[dS,ho,I,hi,BP,q1,q3,aG B,oa,kP,q2,cut,aG hd,bw,kF]
     . exact gP e
   . exact gP e
 . exact gP e
end
inductive lM where
 |split
 |dz (v:V)
def Vm:List (Nat×lM)->Nat->Option lM
 | [],_=>none
 |x::r,d=>match Nat.beq x.1 d with
  |true=>some x.2
  |false=>Vm r d
section
variable(dm:List (Nat×lM))(dst:Option Nat)
def JR(v:V):iW V:=
 match dst with
 |none=>.ret v
 |some d=>match Vm dm d with
  |none=>.ret v
  |some (.dz u)=>some [(⟨[],[],[v=u]⟩,u)]
  |some .split=>match v with
   | .bool c=>some [(⟨[(c,true)],[],[]⟩,.bool true),(⟨[(c,false)],[],[]⟩,.bool false)]
   |v=>.ret v
theorem qe(v:V):fI (JR dm dst v) (some v):=by
 unfold JR;split
 . exact .ret v
 . split
   . exact .ret v
   . rename_i u hu;intro l h;obtain rfl:=eH h;refine⟨⟨_,aH.2 rfl,fun c B=>by simp at B⟩,fun e he _ hg=>?_⟩;simp only[aH]at he;subst he;have:v=u:=hg.2 _ (aH.2 rfl);rw[this]
   . split
     . rename_i c;intro l h;obtain rfl:=eH h;refine⟨?_,fun e he ho _=>?_⟩
       . cases B:c with
         |true=>exact⟨(⟨[(true,true)],[],[]⟩,.bool true),by simp,fun x I=>by simp only[aH]at I;subst I;rfl⟩
         |false=>exact⟨(⟨[(false,false)],[],[]⟩,.bool false),by simp,fun x I=>by simp only[aH]at I;subst I;rfl⟩
       . simp only[aD,aJ,bn]at he;rcases he with rfl|rfl
         . have:c=true:=ho (c,true) (aH.2 rfl);rw[this]
         . have:c=false:=ho (c,false) (aH.2 rfl);rw[this]
     . exact .ret _
end
abbrev Ctr:=FuncId->ag->J h2->Option (ah×V)
def pn:Option (pO×J h2×Nat)->Option (V×J h2×Nat)
 |some (.ret v,h,n)=>some (v,h,n)
 |_=>none
theorem qf{α:Type}{m:iW α}{r r':Option α}(h:fI m r)(e:∀a,r=some a->r'=some a):fI m r':=by
 intro l hl;obtain⟨Q,O⟩:=h l hl;exact⟨Q,fun x I ho hg=>e _ (O x I ho hg)⟩
section
variable(P:Program)(fm:Ctr)(cf:fO)(dm:List (Nat×lM))
theorem tj{α β:Type}(a:α)(g:α->Option β):(some a).bind g=g a:=rfl
def MU{α β:Type}:Option (α ⊕ β)->Option α
 |some (.inl a)=>some a
 |_=>none
def Bs(f:St->iW (s'×St)):Nat->St->iW (s'×St)
 |0,_=>none
 |k+1,s=>(f s).then fun p=>match p.1 with
  | .normal=>Bs f k p.2
  |_=>.ret p
theorem wc{f:St->iW (s'×St)}{g:St->Option (s'×St)}(h:∀s,fI (f s) (g s)):∀(k:Nat) (s:St),fI (Bs f k s) (rounds g k s)
 |0,s=>.none _
 |k+1,s=>by
  simp only[Bs,rounds];refine(fI.then (h s) (g:=fun p=>match p.1 with | .normal=>rounds g k p.2|_=>some p) (fun p=>?_)).of_eq ?_
  . obtain⟨x,X⟩:=p;cases x with
    |normal=>exact wc h k X
    |_=>exact .ret _
  . cases g s with
    |none=>rfl
    |some p=>obtain⟨x,X⟩:=p;cases x<;>rfl
end
section
variable{P:Program}{fm:Ctr}{cf:fO}{dm:List (Nat×lM)}{n0 fr:Nat}{w0:World}{c:Code}{s:St}{h1:Exit->St->Prop}
def uP{α:Type}(f:s'×St->α):List (tf×s'×St)->List (List (Bool×Bool)×ah×α)
 | []=>[]
 |(p,x)::r=>(p.conds,p.NU,f x)::uP f r
def qg{α:Type}:List (tf×α)->ag
 | []=>[]
 |(p,_)::r=>p.same.map (·.1)++qg r
def uQ{α:Type}:List (tf×α)->ag
 | []=>[]
 |(p,_)::r=>p.same.map (·.2)++uQ r
def tS{α:Type}:iW α->List (tf×α)
 |some l=>l
 |none=>[]
theorem HU:∀{l:List (V×V)},l.map (·.1)=l.map (·.2)->∀c∈l,c.1=c.2
 | [],_,c,B=>by simp at B
 |x::r,h,c,B=>by
  simp only[bP,List.cons.injEq]at h;rcases aD.1 B with rfl|B
  . exact h.1
  . exact HU h.2 c B
theorem qF{α:Type}:∀(l:List (tf×α)),qg l=uQ l->∀p∈l,∀c∈p.1.same,c.1=c.2
 | [],_,p,hp=>by simp at hp
 |(q,x)::r,h,p,hp=>by
  simp only[qg,uQ]at h;have hl:(q.same.map (·.1)).length=(q.same.map (·.2)).length:=by simp
  obtain⟨Q,O⟩:=List.append_inj h hl;rcases aD.1 hp with rfl|hp
  . exact HU Q
  . exact qF r O p hp
theorem mD{α:Type}{f:s'×St->α}:∀{l:List (tf×s'×St)} {p:tf×s'×St},p∈l->(p.1.conds,p.1.NU,f p.2)∈uP f l
 | [],p,hp=>by simp at hp
 |(q,x)::r,p,hp=>by
  rcases aD.1 hp with rfl|hp
  . simp[uP]
  . simp only[uP,aD];exact .inr (mD hp)
end
theorem uR{E:Env}{h:J h2}{n:Nat}{w:World}{v:V}(g:Good E h w)(hd:pX E n)(hv:v.free=true){e:Ending}{w':World}(ho:∃E',wL E' (.ret v) e)(b:Below w.heap.size w w'):iG E h n w (.ret v) h n e w':=by
 refine⟨E,.below g b,fun _ _=>rfl,hd,aK _,?_⟩
 . obtain⟨E1,ho⟩:=ho;cases e with
   |returned v'=>exact uM _ _ hv ho
   |_=>exact ho.elim
def dy(args:ag)(h:J h2)(n:Nat):St:={ N:=lB args 0 .nil,h:=h,n:=n,ij:=[] }
section
variable{P:Program}{fm:Ctr}{cf:fO}{dm:List (Nat×lM)}{n0:Nat}{f:FuncId}{fn:Func}{code:Code}
end
def Env.two(E:Env)(a b:Option Nat):Env:=⟨fun j=>match j with|0=>a.bind E.ι|1=>b.bind E.ι|_=>none,E.β,E.φ⟩
section
variable{P:Program}{fm:Ctr}{cf:fO}{dm:List (Nat×lM)}{n0 fr:Nat}{w0:World}{c:Code}{s:St}{h1:Exit->St->Prop}
def ahL(P:Program)(cf:fO)(n0:Nat)(fn:Func)(v:V)(y:Exit)(X:St):Prop:=(y= .normal\/y= .ret)/\∃h' n',mN P cf n0 fn X.N X.ij .ret X.h X.n=some (.ret v,h',n')
inductive Res where
 |next (s:St)
 |exit (id:Nat) (s:St)
 |ret (v:V)
 |bad
def Res.post(P:Program)(cf:fO)(n0:Nat)(fn:Func)(live:List Nat)(hx:Nat->St->Prop)(k:Nat)(h1:Exit->St->Prop):Res->Prop
 | .next s=>∃k',k'<k/\hx k' s
 | .exit id s=>∀X,norm live X=some s->h1 (.exit id) X
 | .ret v=>∀X,ahL P cf n0 fn v .ret X->h1 .ret X
 | .bad=>False
end
section
variable{P:Program}{fm:Ctr}{cf:fO}{n0 fr:Nat}{w0:World}{c:Code}{s:St}{h1:Exit->St->Prop}
theorem MV{n0:Fence}{n:Nat}{o:Oper}{a:Act}{w:World}{hm K':Act->World->Prop}{h1 Q':Exit->Act->World->Prop}(W:∀a w,hm a w->K' a w)(hq:∀y a w,y≠ .normal->h1 y a w->Q' y a w)(h:o.wpIn n0 n P a w hm h1):o.wpIn n0 n P a w K' Q':=by
 have abC:LetsOut h1->LetsOut Q':=fun⟨a,w,q⟩=>⟨a,w,hq _ a w (by simp) q⟩;unfold Oper.wpIn at *;refine⟨h.1,?_⟩;have hh:=h.2;generalize (o.semAt n0.round a.eval).run P w=r at *;cases r with
 |ok x w'=>
  cases x<;>simp only[Oper.uponIn]at hh⊢ <;>
   first
    |exact W _ _ hh
    |exact⟨hh.1,CallsIn.mono hh.2 (fun e w'' he=>by cases e<;>first|exact W _ _ he|exact hq _ _ _ (by simp) he|exact abC he)⟩
    |exact⟨hh.1,RowsIn.mono hh.2 (fun _ _ he=>W _ _ he)⟩
    |exact⟨hh.1,RoundIn.mono hh.2 (fun e w'' he=>by cases e<;>first|exact W _ _ he|exact hq _ _ _ (by simp) he|exact abC he)⟩
    |exact hh
 |halt x w'=>cases x<;>simp only[Oper.uponIn]at hh⊢<;>first|exact hq _ _ _ (by simp) hh|exact hh
end
theorem DX.fresh{w0 w:World}{E:Env}{h:J h2}{q:Nat}{o:h2}(u:DX w0 E h w)(hq:h.get q=some o)(hw:o.wr=true):∀b s,E.ι q=some (b,s)->w0.heap.size<=b:=by
 intro b s e;by_cases q':b<w0.heap.size
 . exact(u.tL q b s ⟨_,hq,hw⟩ e q').elim
 . omega
abbrev kn:=FuncId->ag->J h2->Nat->iW (V×J h2×Nat)
def qX(R:kn)(cf:fO):Prop:=∀f args h n,fI (R f args h n) (pn (cf f args h n))
section
variable(P:Program)(o:Oper)(N:J V)(h:J h2)(n:Nat)
def lg:Option (ah×cs):=
 match o.op with
 | .binOp .add t x y _=>match iP N x,iP N y with
   |some (.str a),some (.str b)=>some ([a.length+b.length<=wu],.val (.str (a++b)) h n)
   |_,_=>AA P o N h n
 | .binOp .rem t x (.tmp y) _=>match iP N x,N.get y with
   |some (.int k a),some (.int k' b)=>match decide (k=k')with
    |true=>some ([b≠0],.val (.int k (a.tmod b)) h n)
    |false=>none
   |_,_=>AA P o N h n
 | .indexAddr t x (.tmp i)=>match iP N x,N.get i with
   |some (.ptr (some (m,off))),some (.int _ ix)=>match P.underlying t with
    |some (.array len e)=>match ku P e with
     |some s=>some ([0<=ix/\ix<len],.val (.ptr (some (m,off+ix.toNat*s))) h n)
     |none=>none
    |_=>AA P o N h n
   |_,_=>AA P o N h n
 | .makeSlice t (.tmp l) (.tmp c)=>match uq P t,N.get l,N.get c with
   |some e,some (.int _ lv),some (.int _ cv)=>match P.info? e,zeroOf P e with
    |some i,some z=>match FG i z,newObj h n (vj z.cells (IntKind.i64.wrap cv).toNat).Eb with
     |true,some (h',n')=>some ([0<=IntKind.i64.wrap lv/\IntKind.i64.wrap lv<=IntKind.i64.wrap cv/\i.bytes*IntKind.i64.wrap cv<=281474976710656],.val (.eR (some (n,0)) (IntKind.i64.wrap lv).toNat (IntKind.i64.wrap cv).toNat i.size) h' n')
     |_,_=>none
    |_,_=>none
   |_,_,_=>AA P o N h n
 |_=>AA P o N h n
theorem iE{P:Program}{o:Oper}{N:J V}{h:J h2}{n:Nat}{l:ah}{r:cs}(e:lg P o N h n=some (l,r))(hl:∀p∈l,p):dS P o N h n=some r:=by
 unfold lg at e;split at e
 . rename_i t x y u ho;split at e
   . rename_i a b ha hb;obtain⟨rfl,rfl⟩:=ga e;have jx:=hl _ (aH.2 rfl);unfold dS;rw[ho];simp only[ha,hb];unfold BN N8;simp only[aG jx,kF]
   . exact rW e hl
 . rename_i t x y yt ho;split at e
   . rename_i k a k' b I hy;split at e
     . rename_i W;have W:=aX W;subst W;obtain⟨rfl,rfl⟩:=ga e;have hb:b≠0:=hl _ (aH.2 rfl);have hy':iP N (.tmp y)=some (.int k b):=hy;have:BN P .rem t x (.tmp y) (.int k a) (.int k b)=some (.int k (a.tmod b)):=by
        simp[BN,binOp,Op.intDiv,hb,sH,iN];rfl
       simp only[dS,ho,I,hy',this,kF]
     . cases e
   . exact rW e hl
 . rename_i t x i ho;split at e
   . rename_i m off k ix I hi;split at e
     . rename_i len el hu;split at e
       . rename_i sz hs;obtain⟨rfl,rfl⟩:=ga e;have DA:=hl _ (aH.2 rfl);have jB:iP N (.tmp i)=some (.int k ix):=hi;unfold dS;rw[ho];simp only[I,jB];unfold nC;simp only[hu,hs,aG DA,kF]
       . cases e
     . exact rW e hl
   . exact rW e hl
 . rename_i t l1 c1 ho;split at e
   . rename_i el k1 lv k2 cv he Q O;split at e
     . rename_i i z hi hz;split at e
       . rename_i h' n' hb hn;obtain⟨rfl,rfl⟩:=ga e;simp only[FG,ay,aY]at hb;have DA:=hl _ (aH.2 rfl);have oG:iP N (.tmp l1)=some (.int k1 lv):=Q;have Ak:iP N (.tmp c1)=some (.int k2 cv):=O;unfold dS;rw[ho];simp only[oG,Ak];unfold nB;simp only[he,hi,hz];rw[aG ⟨hb.1,hb.2.2,DA.1,DA.2.1,DA.2.2⟩];simp only[hn]
       . cases e
     . cases e
   . exact rW e hl
 . exact rW e hl
def dn(R:ai)(o size:Nat):ai:=(R.drop o).take size
def D.AU:D:=.bool false
def CF(t:TypeId)(R:ai)(off:Nat):Option (Prop×V):=match GV P t with
 |some false=>some (off<R.length,(R.getD off D.AU).jQ)
 |some true=>match ku P t with
  |some sz=>some (off+sz<=R.length,.agg (D.fQ (dn R off sz)))
  |none=>none
 |none=>none
theorem HV{P:Program}{t:TypeId}{R:ai}{off:Nat}{p:Prop}{v:V}(e:CF P t R off=some (p,v))(hp:p):kP P t (D.fQ R) off=some v:=by
 unfold CF at e;split at e
 . rename_i WB;obtain⟨rfl,rfl⟩:=ga e;simp only[kP,WB,D.gh,bI,au hp,bw,ax,ck]
 . rename_i WB;split at e
   . rename_i sz hs;obtain⟨rfl,rfl⟩:=ga e;simp only[kP,WB,hs,cut,D.gh,bG,aG hp,bw,dn,List.map_take,List.map_drop]
   . cases e
 . cases e
def zv(t:TypeId)(h:J h2)(v:V)(m o:Nat)(R:ai):Option (ah×J h2):=
 match ku P t,iu v.cells with
 |some s,some new=>match Nat.beq v.cells.length s&&(Nat.blt 0 s&&Nat.blt m fZ)with
  |true=>some ([o+s<=R.length],h.set m (some (.deep (um R o new))))
  |false=>none
 |_,_=>none
theorem FI{P:Program}{t:TypeId}{h h':J h2}{v:V}{m o:Nat}{R:ai}{aj:ah}(K:h.get m=some (.deep R))(e:zv P t h v m o R=some (aj,h'))(hA:∀a∈aj,a):storeAt P t h v (.ptr (some (m,o)))=some h':=by
 unfold zv at e;split at e
 . rename_i s new Q O;split at e
   . rename_i hb;obtain⟨rfl,rfl⟩:=ga e;simp only[ay]at hb;have h3:=aA hb.1;have h4:0<s:=az hb.2.1;have h5:m<fZ:=az hb.2.2;have h6:o+s<=R.length:=hA _ (by simp);simp only[storeAt,K,Q,O];rw[aG ⟨h3,h4,h5⟩,aG h6]
   . cases e
 . cases e
def qh(AU:Nat)(y:Nat):Option V->Option (ah×Nat)
 |none=>some ([],AU)
 |some (.int _ i)=>some ([0<=i/\i<=y],i.toNat)
 |some _=>none
theorem ou{AU y r:Nat}{o:Option V}{aj:ah}(e:qh AU y o=some (aj,r))(hA:∀a∈aj,a):eV AU y o=some r:=by
 unfold qh at e;split at e
 . simp only[aq,aF]at e;obtain⟨_,rfl⟩:=e;rfl
 . obtain⟨rfl,rfl⟩:=ga e;simp only[eV,aG (hA _ (aH.2 rfl))]
 . cases e
def zw(s:Nat)(f:Bool)(len:Nat)(R:ai)(lo hi mx:Option V):Option (ah×V):=
 match mx with
 |none=>match qh len len hi with
  |some (aj,h)=>match qh 0 h lo with
   |some (hc,l)=>some ((R.length=len*s)::(aj++hc),.eB (f&& !hi.isSome) (h-l) (dn R (l*s) ((h-l)*s)))
   |none=>none
  |none=>none
 |some mv=>match qh len len (some mv),hi with
  |some (be,m),some hv=>match qh len m (some hv)with
   |some (aj,h)=>match qh 0 h lo with
    |some (hc,l)=>some ((R.length=len*s)::(h=m)::(be++(aj++hc)),.eB true (h-l) (dn R (l*s) ((h-l)*s)))
    |none=>none
   |none=>none
  |_,_=>none
theorem FJ{P:Program}{t el:TypeId}{s len:Nat}{f:Bool}{R:ai}{lo hi mx:Option V}{h:J h2}{aj:ah}{v:V}(hu:P.underlying t=some (.slice el))(hs:ku P el=some s)
  (e:zw s f len R lo hi mx=some (aj,v)) (hA:∀a∈aj,a):l8 P t h (.eB f len R) lo hi mx=some v:=by
 unfold zw at e;split at e
 . split at e
   case h_2=>cases e
   rename_i A1 hh Q;split at e
   case h_2=>cases e
   rename_i B1 l O;obtain⟨rfl,rfl⟩:=ga e;have k1:=ou Q fun a ha=>hA a (by simp[ha]);have k2:=ou O fun a ha=>hA a (by simp[ha]);have k3:R.length=len*s:=hA _ (by simp);unfold l8;rw[aB (by simp)];simp only[hu,hs,aG k3,k1,k2,dn]
 . split at e
   case h_2=>cases e
   rename_i be m hv h0;split at e
   case h_2=>cases e
   rename_i A1 hh Q;split at e
   case h_2=>cases e
   rename_i B1 l O;obtain⟨rfl,rfl⟩:=ga e;have k0:=ou h0 fun a ha=>hA a (by simp[ha]);have k1:=ou Q fun a ha=>hA a (by simp[ha]);have k2:=ou O fun a ha=>hA a (by simp[ha]);have k3:R.length=len*s:=hA _ (by simp);have k4:hh=m:=hA _ (by simp);unfold l8;rw[aB (by simp)];simp only[hu,hs,aG k3,k0,k1,k2,aG k4,dn]
def O2(t:TypeId):Bool:=match P.underlying t with
 |some (.slice _)=>true
 |_=>false
def JS:Option (ah×cs):=
 match o.op with
 | .load t a=>match iP N a with
   |some (.ptr (some (m,off)))=>match h.get m with
    |some (.deep R)=>match CF P t R off with
     |some (p,v)=>some ([p],.val v h n)
     |none=>none
    |_=>lg P o N h n
   |_=>lg P o N h n
 | .store t a x=>match iP N a,iP N x with
   |some (.ptr (some (m,off))),some v=>match h.get m with
    |some (.deep R)=>match zv P t h v m off R with
     |some (aj,h')=>some (aj,.val (.gw []) h' n)
     |none=>none
    |_=>lg P o N h n
   |_,_=>lg P o N h n
 | .indexAddr t x i=>match iP N x,iP N i with
   |some (.eB _ len R),some (.int _ ix)=>match uO P t with
    |some s=>some ([0<=ix/\ix<len,R.length=len*s],.val (.dx (dn R (ix.toNat*s) s)) h n)
    |none=>none
   |_,_=>lg P o N h n
 | .slice t x lo hi mx=>match iP N x with
   |some (.eB f len R)=>match uO P t,mb N lo,mb N hi,mb N mx with
    |some s,some lo,some hi,some mx=>match zw s f len R lo hi mx with
     |some (aj,v)=>some (aj,.val v h n)
     |none=>none
    |_,_,_,_=>none
   |_=>lg P o N h n
 | .convert Le dst x=>match iP N x with
   |some (.eR (some (m,off)) len _ jv)=>match ur (h.get m)with
    |some s0=>match P.underlying Le,P.underlying dst,Nat.beq jv 1 with
     |some (.slice e),some .string,true=>match P.underlying e with
      |some (.int .u8)=>some ([off+len<=s0.length],.val (.str ((s0.drop off).take len)) h n)
      |_=>none
     |_,_,_=>none
    |none=>match Ad (h.get m)with
    |some Y=>match P.underlying Le,P.underlying dst,Nat.beq jv 1 with
     |some (.slice e),some .string,true=>match P.underlying e with
      |some (.int .u8)=>some ([off+len<=Y.length],.val (.str (iy ((Y.drop off).take len))) h n)
      |_=>none
     |_,_,_=>none
    |none=>lg P o N h n
   |_=>lg P o N h n
 | .call c=>match c.callee,uz N c.args.toList with
   | .builtin .unsafeSliceData,some [.eR (some (m,off)) _ jO _]=>some ([0<jO],.val (.ptr (some (m,off))) h n)
   | .builtin .unsafeString,some [.ptr (some (m,0)),.int .i64 l]=>match c.argTypes[0]? with
     |some pt=>match P.underlying pt,h.get m with
      |some (.pointer e),some (.tJ el _ s)=>match decide (el=e)&&(Nat.beq (P.cellsOf e) 1&&(Nat.blt m fZ&&Nat.beq c.argTypes.size 2))with
       |true=>some ([l=s.length/\0<s.length,s.length<=wu],.val (.str s) (h.set m (some (.tJ el true s))) n)
       |false=>none
      |_,_=>none
     |none=>none
   |_,_=>lg P o N h n
 | .binOp .eql t x y _=>match iP N x,iP N y with
   |some (.eB _ k _),some (.eR none _ _ _)=>match O2 P t with
    |true=>some ([0<k],.val (.bool false) h n)
    |false=>none
   |_,_=>lg P o N h n
 | .mapEntry t m k=>match iP N m,iP N k with
   |some (.map (some r)),some kv=>match P.underlying t,h.get r with
    |some (.map kt et),some (.oJ kk T)=>match P.underlying kt,zeroOf P et,keyOf kv with
     |some kd,some z,some k0=>match V.Jf z,kV kd kk&&(gu kk k0&&Nat.blt r fZ)with
      |some z0,true=>some ([eZ k0 T=none],.val (.gw [z,.int .i64 T.length]) (h.set r (some (.oJ kk (T++[(k0,z0)])))) n)
      |_,_=>none
     |_,_,_=>none
    |_,_=>lg P o N h n
   |_,_=>lg P o N h n
 | .entryStore _ m st v=>match iP N m,iP N st,iP N v with
   |some (.map (some r)),some (.int _ b),some vv=>match h.get r with
    |some (.oJ kk T)=>match V.Jf vv,Nat.blt r fZ with
     |some v0,true=>some ([0<=b/\b<T.length],.val (.gw []) (h.set r (some (.oJ kk (iB T b.toNat fun e=>(e.1,v0))))) n)
     |_,_=>none
    |_=>lg P o N h n
   |_,_,_=>lg P o N h n
 |_=>lg P o N h n
theorem SV{P:Program}{d:Nat}{t el:TypeId}{f:Bool}{k l c e:Nat}{R:ai}(hu:P.underlying t=some (.slice el)):Ec P (d+1) t (.eB f (k+1) R) (.eR none l c e)=some false:=by
 simp only[Ec,hu]
theorem MW{P:Program}{o:Oper}{N:J V}{h:J h2}{n:Nat}{l:ah}{r:cs}(e:JS P o N h n=some (l,r))(hl:∀p∈l,p):dS P o N h n=some r:=by
 unfold JS at e;split at e
 . rename_i t a ho;split at e
   . rename_i m off ha;split at e
     . rename_i R K;split at e
       . rename_i p v hs;obtain⟨rfl,rfl⟩:=ga e;have hp:p:=hl _ (aH.2 rfl);simp only[dS,ho,ha,loadAt,K,HV hs hp,kF]
       . cases e
     . exact iE e hl
   . exact iE e hl
 . rename_i t a x ho;split at e
   . rename_i m off v ha I;split at e
     . rename_i R K;split at e
       . rename_i aj h' hs;obtain⟨rfl,rfl⟩:=ga e;simp only[dS,ho,ha,I,FI K hs hl]
       . cases e
     . exact iE e hl
   . exact iE e hl
 . rename_i t x i ho;split at e
   . rename_i f len R k ix I hi;split at e
     . rename_i s hs;obtain⟨rfl,rfl⟩:=ga e;obtain⟨el,Q,O⟩:=pG hs;have k1:=hl _ (bx ..);have k2:=hl _ (bj _ (aH.2 rfl));simp only[dS,ho,I,hi,nC,Q,O,kF];rw[aG ⟨k1,k2⟩];rfl
     . cases e
   . exact iE e hl
 . rename_i t x lo hi mx ho;split at e
   . rename_i f len R I;split at e
     . rename_i s lov hiv mxv hs Q O h3;split at e
       . rename_i aj v hv;obtain⟨rfl,rfl⟩:=ga e;obtain⟨el,k1,k2⟩:=pG hs;simp only[dS,ho,I,Q,O,h3,FJ k1 k2 hv hl,kF]
       . cases e
     . cases e
   . exact iE e hl
 . rename_i Le dst x ho;split at e
   . rename_i m off len cp jv I;split at e
     . rename_i s0 Ju;split at e
       . rename_i el Q O h3;split at e
         . rename_i h4;obtain⟨rfl,rfl⟩:=ga e;have k1:=hl _ (aH.2 rfl);simp only[dS,ho,I,oS,Q,O,h4,aG (aA h3),Ju];rw[aG (Or.inr k1)]
         . cases e
       . cases e
     . rename_i Ju;split at e
       . rename_i Y Cg;split at e
         . rename_i el Q O h3;split at e
           . rename_i h4;obtain⟨rfl,rfl⟩:=ga e;have k1:=hl _ (aH.2 rfl);simp only[dS,ho,I,oS,Q,O,h4,aG (aA h3),Ju,Cg];rw[aG (Or.inr k1)]
           . cases e
         . cases e
       . exact iE e hl
   . exact iE e hl
 . rename_i c ho;split at e
   . rename_i m off x1 jO x2 B ha;obtain⟨rfl,rfl⟩:=ga e;have k1:=hl _ (aH.2 rfl);simp only[dS,ho,vV,ha,B,kW,aG k1]
   . rename_i m l B ha;split at e
     . rename_i pt Wq;split at e
       . rename_i e0 el x1 s hp K;split at e
         . rename_i hb;obtain⟨rfl,rfl⟩:=ga e;simp only[ay,aY]at hb;have k1:=hl _ (bx ..);have k2:=hl _ (bj _ (aH.2 rfl));simp only[dS,ho,vV,ha,B,kW,Wq,hp,K];rw[aG ⟨k1,⟨hb.1,aA hb.2.1⟩,az hb.2.2.1,aA hb.2.2.2,k2⟩]
         . cases e
       . cases e
     . cases e
   . exact iE e hl
 . rename_i t x y _ ho;split at e
   . rename_i f k R z1 z2 z3 I hy;split at e
     . rename_i hq;obtain⟨rfl,rfl⟩:=ga e;have k1:0<k:=hl _ (aH.2 rfl);obtain⟨k',rfl⟩:∃k',k=k'+1:=⟨k-1,H⟩;unfold O2 at hq;split at hq
       . rename_i el hu;simp only[dS,ho,I,hy,BN,DH,SV (d:=9999) hu,bw,kF]
       . cases hq
     . cases e
   . exact iE e hl
 . rename_i t m k ho;split at e
   . rename_i r kv K W;split at e
     . rename_i kt et kk T hu hr;split at e
       . rename_i kd z k0 hkd hz Ms;split at e
         . rename_i z0 Z3 hb;simp only[ay]at hb;obtain⟨rfl,rfl⟩:=ga e;have k1:=hl _ (aH.2 rfl);have eO:r<fZ:=az hb.2.2;simp only[dS,ho,K,W,vm,hu,hr,hkd,hz,Ms,Z3,k1];rw[aG (by simp only[ay,aY];exact⟨hb.1,hb.2.1,eO⟩)]
         . cases e
       . cases e
     . exact iE e hl
   . exact iE e hl
 . rename_i x1 m st v ho;split at e
   . rename_i r x2 b vv K hs hv;split at e
     . rename_i kk T hr;split at e
       . rename_i v0 OD hb;obtain⟨rfl,rfl⟩:=ga e;have k1:=hl _ (aH.2 rfl);have eO:r<fZ:=az hb;simp only[dS,ho,K,hs,hv,qz,hr,OD];rw[aG ⟨eO,k1⟩]
       . cases e
     . exact iE e hl
   . exact iE e hl
 . exact iE e hl
def MX:iW cs:=match JS P o N h n with
 |some (l,r)=>some [(⟨[],[],l⟩,r)]
 |none=>none
theorem tn:fI (MX P o N h n) (dS P o N h n):=by
 intro l e;unfold MX at e;split at e
 . rename_i a r hs;obtain rfl:=eH e;refine⟨⟨_,aH.2 rfl,fun c B=>by simp at B⟩,fun e he _ hg=>?_⟩;simp only[aH]at he;subst he;exact MW hs hg.2
 . cases e
end
section
variable(P:Program)(R:kn)(cf:fO)(dm:List (Nat×lM))
def MY(ops:Array Oper):List Oper->St->iW (s'×St)
 | [],s=>.ret (.normal,s)
 |o::rest,s=>
  match fT ops o s.N with
  |some false=>match jw s.N o.dst (.gw [])with
   |some N=>MY ops rest { s with N:=N }
   |none=>none
  |some true=>(MX P o s.N s.h s.n).then fun r=>match r with
   | .val v h n=>(JR dm o.dst v).then fun v=>match jw s.N o.dst v with
     |some N=>MY ops rest { s with N:=N,h:=h,n:=n }
     |none=>none
   | .call f args=>(R f args s.h s.n).then fun q=>(JR dm o.dst q.1).then fun v=>match jw s.N o.dst v with
     |some N=>MY ops rest { s with N:=N,h:=q.2.1,n:=q.2.2 }
     |none=>none
   |_=>none
  |none=>none
theorem tq(qq:qX R cf)(ops:Array Oper):∀(l:List Oper) (s:St),fI (MY P R dm ops l s) (jk P cf ops l s)
 | [],s=>.ret _
 |o::rest,s=>by
  simp only[MY,jk];rcases fT ops o s.N with _|(_|_)
  . exact .none _
  . cases jw s.N o.dst (.gw [])with
    |none=>exact .none _
    |some N=>exact tq qq ops rest _
  . refine qf (fI.then (tn P o s.N s.h s.n) (g:=fun r=>match r with
     | .val v h n=>match jw s.N o.dst v with
       |some N=>jk P cf ops rest { s with N:=N,h:=h,n:=n }
       |none=>none
     | .call f args=>(pn (cf f args s.h s.n)).bind fun q=>match jw s.N o.dst q.1 with
       |some N=>jk P cf ops rest { s with N:=N,h:=q.2.1,n:=q.2.2 }
       |none=>none
     |_=>none) (fun r=>?_)) ?_
    . cases r with
      |val v h n=>
       refine(fI.then (qe dm o.dst v) (g:=fun v=>match jw s.N o.dst v with
        |some N=>jk P cf ops rest { s with N:=N,h:=h,n:=n }
        |none=>none) (fun v=>?_)).of_eq rfl
       cases jw s.N o.dst v with
       |none=>exact .none _
       |some N=>exact tq qq ops rest _
      |call f args=>
       refine fI.then (qq f args s.h s.n) (fun q=>?_);refine(fI.then (qe dm o.dst q.1) (g:=fun v=>match jw s.N o.dst v with
        |some N=>jk P cf ops rest { s with N:=N,h:=q.2.1,n:=q.2.2 }
        |none=>none) (fun v=>?_)).of_eq rfl
       cases jw s.N o.dst v with
       |none=>exact .none _
       |some N=>exact tq qq ops rest _
      |tY f c args=>exact .none _
      |recover=>exact .none _
      |panic v=>exact .none _
    . intro a ha;cases hs:dS P o s.N s.h s.n with
      |none=>rw[hs]at ha;cases ha
      |some r=>
       rw[hs]at ha;cases r with
       |call f args=>
        simp only[tj]at ha ⊢;cases hj:cf f args s.h s.n with
        |none=>rw[hj]at ha;cases ha
        |some q=>
         rw[hj]at ha;obtain⟨sE,h,n⟩:=q;cases sE with
         |ret v=>exact ha
         |nr v=>cases ha
       |val v h n=>exact ha
       |_=>cases ha
section
variable(F i:Nat)(o:Oper)(N:J V)
def Ln(v:V)(x:J h2):iW Unit:=
 (MX P o N x (F+i)).then fun r=>match r with
  | .val u _ k=>match Nat.beq k (F+i)&&v.qE with
    |true=>some [(⟨[],[(u,v)],[]⟩,())]
    |false=>none
  |_=>none
theorem AB(v:V)(x:J h2):fI (Ln P F i o N v x) (if mq P F i o N v x=true then some ()else none):=by
 unfold Ln;refine(fI.then (tn P o N x (F+i)) (g:=fun r=>if(match r with | .val u _ k=>Nat.beq k (F+i)&&V.beq u v|_=>false)=true then some ()else none) (fun r=>?_)).of_eq ?_
 . cases r with
   |val u h k=>
    simp only;split
    . rename_i hb;simp only[ay]at hb;intro l e;obtain rfl:=eH e;refine⟨⟨_,aH.2 rfl,fun c B=>by simp at B⟩,fun e he _ hg=>?_⟩;simp only[aH]at he;subst he;have:u=v:=hg.1 (u,v) (aH.2 rfl);subst this;rw[aG (by rw[hb.1,V.beq_refl u hb.2];rfl)]
    . exact .none _
   |_=>exact .none _
 . unfold mq;cases dS P o N x (F+i)with
   |none=>rfl
   |some r=>cases r<;>rfl
end
def HW(F i:Nat)(o:Oper)(N:J V)(v:V)(dA:af)(ik:Nat):List (Nat×Nat×J h2)->iW Unit
 | []=>.ret ()
 |(e,m,x)::r=>match ew ik e with
  |true=>.ret ()
  |false=>(Ln P F i o N v (gC F dA m x ik)).then fun _=>HW F i o N v dA ik r
theorem AD(F i:Nat)(o:Oper)(N:J V)(v:V)(dA:af)(ik:Nat):∀l:List (Nat×Nat×J h2),fI (HW P F i o N v dA ik l) (if pQ P F i o N v dA ik l=true then some ()else none)
 | []=>(fI.ret ()).of_eq rfl
 |(e,m,x)::r=>by
  simp only[HW,pQ];rcases Bool.eq_false_or_eq_true (ew ik e)with hb|hb
  . simp only[hb,if_true];exact .ret ()
  . simp only[hb,aM,cz];refine(fI.then (AB P F i o N v _) (fun _=>AD F i o N v dA ik r)).of_eq ?_;cases mq P F i o N v (gC F dA m x ik)<;>cases pQ P F i o N v dA ik r<;>rfl
def CG(F:Nat)(dA:af)(m:Nat)(x:J h2):List (Nat×Nat×Oper×J V×V)->iW Unit
 | []=>.ret ()
 |(j,ik,o,N,v)::r=>match ew m j with
  |true=>CG F dA m x r
  |false=>(Ln P F j o N v (gC F dA m x ik)).then fun _=>CG F dA m x r
theorem tr(F:Nat)(dA:af)(m:Nat)(x:J h2):∀l:List (Nat×Nat×Oper×J V×V),fI (CG P F dA m x l) (if o6 P F dA m x l=true then some ()else none)
 | []=>(fI.ret ()).of_eq rfl
 |(j,ik,o,N,v)::r=>by
  simp only[CG,o6];rcases Bool.eq_false_or_eq_true (ew m j)with hb|hb
  . simp only[hb,cq,aN];exact tr F dA m x r
  . simp only[hb,cr];refine(fI.then (AB P F j o N v _) (fun _=>tr F dA m x r)).of_eq ?_;cases mq P F j o N v (gC F dA m x ik)<;>cases o6 P F dA m x r<;>rfl
def FK(F i ik:Nat)(o:Oper)(s:Dr)(v:V)(h:J h2)(n:Nat):iW Dr:=
 match jw s.N o.dst v with
 |some N=>(CG P F s.dA ik h s.reads).then fun _=>
   .ret { N:=N,eC:=s.eC++[ik],cur:=(ik,h),od:=(i,s.cur.1,s.cur.2)::s.od,last:=some i,dA:=s.dA,reads:=s.reads,n:=n }
 |none=>none
theorem yd(F i ik:Nat)(o:Oper)(s:Dr)(v:V)(h:J h2)(n:Nat):fI (FK P F i ik o s v h n) (kH P F i ik o s v h n):=by
 unfold FK kH;cases jw s.N o.dst v with
 |none=>exact .none _
 |some N=>
  refine(fI.then (tr P F s.dA ik h s.reads) (g:=fun _=>some _) (fun _=>.ret _)).of_eq ?_;cases o6 P F s.dA ik h s.reads<;>rfl
def O3(ops:Array Oper)(F i:Nat)(o:Oper)(s:Dr):iW Dr:=
 match fT ops o s.N with
 |some false=>match jw s.N o.dst (.gw [])with
  |some N=>.ret { s with N:=N,eC:=s.eC++[ff s.eC o.after.toList] }
  |none=>none
 |some true=>
  match pP o.op with
  |true=>match yY (ff s.eC o.after.toList) s.last with
   |true=>(MX P o s.N (gC F s.dA s.cur.1 s.cur.2 (ff s.eC o.after.toList)) s.n).then fun r=>match r with
    | .val v h n=>(JR dm o.dst v).then fun v=>FK P F i (ff s.eC o.after.toList) o s v h n
    | .call f args=>(R f args (gC F s.dA s.cur.1 s.cur.2 (ff s.eC o.after.toList)) s.n).then fun q=>(JR dm o.dst q.1).then fun v=>FK P F i (ff s.eC o.after.toList) o s v q.2.1 q.2.2
    |_=>none
   |false=>none
  |false=>(MX P o s.N (gC F s.dA s.cur.1 s.cur.2 (ff s.eC o.after.toList)) (F+i)).then fun r=>match r with
   | .val v h k=>(JR dm o.dst v).then fun v=>match jw s.N o.dst v with
     |some N=>match Nat.beq k (F+i)with
      |true=>match oK o.op with
       |true=>.ret { s with N:=N,eC:=s.eC++[ff s.eC o.after.toList] }
       |false=>(HW P F i o s.N v s.dA (ff s.eC o.after.toList) s.od).then fun _=>
         .ret { s with N:=N,eC:=s.eC++[ff s.eC o.after.toList],reads:=(i,ff s.eC o.after.toList,o,s.N,v)::s.reads }
      |false=>match h.get (F+i)with
       |some b=>match b.wr with
        |true=>.ret { s with N:=N,eC:=s.eC++[ff s.eC o.after.toList],dA:=(i,b)::s.dA }
        |false=>none
       |none=>none
     |none=>none
   |_=>none
 |none=>none
theorem HX(qq:qX R cf)(ops:Array Oper)(F i:Nat)(o:Oper)(s:Dr):fI (O3 P R dm ops F i o s) (MU (lP P cf ops F i o s)):=by
 unfold O3 lP;rcases fT ops o s.N with _|(_|_)
 . exact .none _
 . cases jw s.N o.dst (.gw [])with
   |none=>exact .none _
   |some N=>exact(fI.ret _).of_eq rfl
 . cases pP o.op with
   |true=>
    rcases Bool.eq_false_or_eq_true (yY (ff s.eC o.after.toList) s.last)with hb|hb
    rotate_left
    . simp only[hb];exact .none _
    . simp only[hb,if_true];refine(fI.then (tn P o s.N _ s.n) (g:=fun r=>match r with
       | .val v h n=>kH P F i (ff s.eC o.after.toList) o s v h n
       | .call f args=>(pn (cf f args (gC F s.dA s.cur.1 s.cur.2 (ff s.eC o.after.toList)) s.n)).bind fun q=>kH P F i (ff s.eC o.after.toList) o s q.1 q.2.1 q.2.2
       |_=>none) (fun r=>?_)).of_eq ?_
      . cases r with
        |val v h n=>exact(fI.then (qe dm o.dst v) (g:=fun v=>kH P F i (ff s.eC o.after.toList) o s v h n) (fun v=>yd P F i _ o s v h n)).of_eq rfl
        |call f args=>
         refine fI.then (qq f args _ s.n) (fun q=>?_);exact(fI.then (qe dm o.dst q.1) (g:=fun v=>kH P F i (ff s.eC o.after.toList) o s v q.2.1 q.2.2) (fun v=>yd P F i _ o s v q.2.1 q.2.2)).of_eq rfl
        |_=>exact .none _
      . cases dS P o s.N (gC F s.dA s.cur.1 s.cur.2 (ff s.eC o.after.toList)) s.n with
        |none=>rfl
        |some r=>
         cases r with
         |val v h n=>
          simp only[tj];cases kH P F i (ff s.eC o.after.toList) o s v h n<;>rfl
         |call f args=>
          simp only[tj];cases cf f args (gC F s.dA s.cur.1 s.cur.2 (ff s.eC o.after.toList)) s.n with
          |none=>rfl
          |some q=>
           obtain⟨sE,h,n⟩:=q;cases sE with
           |ret v=>
            simp only[pn,tj];cases kH P F i (ff s.eC o.after.toList) o s v h n<;>rfl
           |nr v=>simp only;split<;>rfl
         |_=>rfl
   |false=>
    simp only[aM,cz];have body:∀(v:V) (h:J h2) (k:Nat),fI (match jw s.N o.dst v with
      |some N=>match Nat.beq k (F+i)with
       |true=>match oK o.op with
        |true=>iW.ret { s with N:=N,eC:=s.eC++[ff s.eC o.after.toList] }
        |false=>(HW P F i o s.N v s.dA (ff s.eC o.after.toList) s.od).then fun _=>
          .ret { s with N:=N,eC:=s.eC++[ff s.eC o.after.toList],reads:=(i,ff s.eC o.after.toList,o,s.N,v)::s.reads }
       |false=>match h.get (F+i)with
        |some b=>match b.wr with
         |true=>iW.ret { s with N:=N,eC:=s.eC++[ff s.eC o.after.toList],dA:=(i,b)::s.dA }
         |false=>none
        |none=>none
      |none=>none) (MU (match jw s.N o.dst v with
       |some N=>
        if Nat.beq k (F+i)=true then
         if oK o.op=true then(some (.inl { s with N:=N,eC:=s.eC++[ff s.eC o.after.toList] }):Option (Dr ⊕ (J V×V×J h2×Nat)))
         else if pQ P F i o s.N v s.dA (ff s.eC o.after.toList) s.od=true then
          some (.inl { s with N:=N,eC:=s.eC++[ff s.eC o.after.toList],reads:=(i,ff s.eC o.after.toList,o,s.N,v)::s.reads })
         else mM o
        else match h.get (F+i)with
         |some b=>if b.wr=true then some (.inl { s with N:=N,eC:=s.eC++[ff s.eC o.after.toList],dA:=(i,b)::s.dA })else mM o
         |none=>mM o
       |none=>mM o)):=by
     intro v h k;cases jw s.N o.dst v with
     |none=>exact .none _
     |some N=>
      simp only;cases Nat.beq k (F+i)with
      |true=>
       simp only[if_true];cases oK o.op with
       |true=>exact(fI.ret _).of_eq rfl
       |false=>
        refine(fI.then (AD P F i o s.N v s.dA _ s.od) (g:=fun _=>some _) (fun _=>.ret _)).of_eq ?_;simp only[aM,cz];cases pQ P F i o s.N v s.dA (ff s.eC o.after.toList) s.od<;>rfl
      |false=>
       simp only[aM,cz];cases h.get (F+i)with
       |none=>exact .none _
       |some b=>
        simp only;cases b.wr with
        |true=>exact(fI.ret _).of_eq rfl
        |false=>exact .none _
    refine(fI.then (tn P o s.N _ (F+i)) (g:=fun r=>match r with
     | .val v h k=>MU (match jw s.N o.dst v with
        |some N=>
         if Nat.beq k (F+i)=true then
          if oK o.op=true then(some (.inl { s with N:=N,eC:=s.eC++[ff s.eC o.after.toList] }):Option (Dr ⊕ (J V×V×J h2×Nat)))
          else if pQ P F i o s.N v s.dA (ff s.eC o.after.toList) s.od=true then
           some (.inl { s with N:=N,eC:=s.eC++[ff s.eC o.after.toList],reads:=(i,ff s.eC o.after.toList,o,s.N,v)::s.reads })
          else mM o
         else match h.get (F+i)with
          |some b=>if b.wr=true then some (.inl { s with N:=N,eC:=s.eC++[ff s.eC o.after.toList],dA:=(i,b)::s.dA })else mM o
          |none=>mM o
        |none=>mM o)
     |_=>none) (fun r=>?_)).of_eq ?_
    . cases r with
      |val v h k=>exact(fI.then (qe dm o.dst v) (g:=fun v=>MU (match jw s.N o.dst v with
        |some N=>
         if Nat.beq k (F+i)=true then
          if oK o.op=true then(some (.inl { s with N:=N,eC:=s.eC++[ff s.eC o.after.toList] }):Option (Dr ⊕ (J V×V×J h2×Nat)))
          else if pQ P F i o s.N v s.dA (ff s.eC o.after.toList) s.od=true then
           some (.inl { s with N:=N,eC:=s.eC++[ff s.eC o.after.toList],reads:=(i,ff s.eC o.after.toList,o,s.N,v)::s.reads })
          else mM o
         else match h.get (F+i)with
          |some b=>if b.wr=true then some (.inl { s with N:=N,eC:=s.eC++[ff s.eC o.after.toList],dA:=(i,b)::s.dA })else mM o
          |none=>mM o
        |none=>mM o)) (fun v=>body v h k)).of_eq rfl
      |_=>exact .none _
    . cases dS P o s.N (gC F s.dA s.cur.1 s.cur.2 (ff s.eC o.after.toList)) (F+i)with
      |none=>rfl
      |some r=>cases r<;>rfl
def FM(ops:Array Oper)(F:Nat):List Oper->Nat->Dr->iW Dr
 | [],_,s=>.ret s
 |o::r,i,s=>(O3 P R dm ops F i o s).then fun X=>FM ops F r (i+1) X
theorem ye(qq:qX R cf)(ops:Array Oper)(F:Nat):∀(l:List Oper) (i:Nat) (s:Dr),fI (FM P R dm ops F l i s) (MU (iJ P cf ops F l i s))
 | [],i,s=>(fI.ret s).of_eq rfl
 |o::r,i,s=>by
  simp only[FM,iJ];refine(fI.then (HX P R cf dm qq ops F i o s) (fun X=>ye qq ops F r (i+1) X)).of_eq ?_;cases lP P cf ops F i o s with
  |none=>rfl
  |some q=>cases q<;>rfl
def jV(n0:Nat):Code->St->iW (s'×St)
 | .region _ ops false,s=>MY P R dm ops ops.toList s
 | .region _ ops true,s=>match decide (s.n+ops.size<fZ)with
   |true=>(FM P R dm ops s.n ops.toList 0 { N:=s.N,eC:=[],cur:=(0,s.h),od:=[],last:=none,dA:=[],reads:=[],n:=s.n+ops.size }).then fun d=>
     .ret (.normal,{ N:=d.N,h:=gC s.n d.dA d.cur.1 d.cur.2 (2^ops.size-1),n:=d.n,ij:=s.ij })
   |false=>none
 | .seq a b,s=>(jV n0 a s).then fun p=>match p.1 with
   | .normal=>jV n0 b p.2
   |_=>.ret p
 | .cond c a b,s=>match iP s.N c with
   |some (.bool true)=>jV n0 a s
   |some (.bool false)=>jV n0 b s
   |_=>none
 | .block id body,s=>(jV n0 body s).then fun p=>match p.1 with
   | .exit Z1=>if Z1=id then .ret (.normal,p.2)else .ret p
   |_=>.ret p
 | .loop body,s=>Bs (jV n0 body) n0 s
 | .skip,s=>.ret (.normal,s)
 | .exit id,s=>.ret (.exit id,s)
 | .ret,s=>.ret (.ret,s)
 | .rangeFunc g ps assign body,s=>match iP s.N g with
   |some (.fn (.func gf) [] lb)=>match callee P gf&&decide (s.n+1<fZ)with
    |true=>(R gf (.fn (.yield (s.n+1)) [] []::lb) ((s.h.set s.n (some .tY)).set (s.n+1) (some (.loop true none s.N ps.toList assign body))) (s.n+2)).then fun q=>match q.2.1.get s.n,q.2.1.get (s.n+1)with
     |some .tY,some (.loop true none _ _ _ _)=>.ret (.normal,{ s with h:=q.2.1.set (s.n+1) none,n:=q.2.2,ij:=(fZ,[],[.map (some s.n)])::s.ij })
     |some .tY,some (.loop false (some .ret) _ _ _ _)=>.ret (.ret,{ s with h:=q.2.1.set (s.n+1) none,n:=q.2.2,ij:=(fZ,[],[.map (some s.n)])::s.ij })
     |some .tY,some (.loop false (some (.exit id)) _ _ _ _)=>.ret (.exit id,{ s with h:=q.2.1.set (s.n+1) none,n:=q.2.2,ij:=(fZ,[],[.map (some s.n)])::s.ij })
     |_,_=>none
    |false=>none
   |_=>none
 |_,_=>none
theorem ko(qq:qX R cf)(n0:Nat):∀(c:Code) (s:St),fI (jV P R dm n0 c s) (gD P cf n0 c s):=by
 intro c
 induction c with
 |region id ops BU=>
  intro s;cases BU with
  |false=>exact tq P R cf dm qq ops ops.toList s
  |true=>
   simp only[jV,gD,drawn];by_cases eO:s.n+ops.size<fZ
   . simp only[aZ eO,aG eO];refine qf (fI.then (ye P R cf dm qq ops s.n ops.toList 0 _) (g:=fun d=>some (.normal,{ N:=d.N,h:=gC s.n d.dA d.cur.1 d.cur.2 (2^ops.size-1),n:=d.n,ij:=s.ij })) (fun d=>.ret _)) ?_;intro d hd;cases hq:iJ P cf ops s.n ops.toList 0 { N:=s.N,eC:=[],cur:=(0,s.h),od:=[],last:=none,dA:=[],reads:=[],n:=s.n+ops.size }with
     |none=>rw[hq]at hd;cases hd
     |some q=>
      rw[hq]at hd;cases q with
      |inl d'=>simp only[MU,Option.bind_some]at hd;simp only;exact hd
      |inr _=>cases hd
   . simp only[aT eO];exact .none _
 |seq a b iha ihb=>
  intro s;simp only[jV,gD];refine(fI.then (iha s) (g:=fun p=>match p.1 with | .normal=>gD P cf n0 b p.2|_=>some p) (fun p=>?_)).of_eq ?_
  . obtain⟨x,X⟩:=p;cases x with
    |normal=>exact ihb X
    |_=>exact .ret _
  . cases gD P cf n0 a s with
    |none=>rfl
    |some p=>obtain⟨x,X⟩:=p;cases x<;>rfl
 |cond c a b iha ihb=>
  intro s;simp only[jV,gD];cases iP s.N c with
  |none=>exact .none _
  |some v=>
   cases v with
   |bool t=>
    cases t with
    |true=>exact iha s
    |false=>exact ihb s
   |_=>exact .none _
 |block id c ih=>
  intro s;simp only[jV,gD];refine(fI.then (ih s) (g:=fun p=>match p.1 with | .exit Z1=>if Z1=id then some (.normal,p.2)else some p|_=>some p) (fun p=>?_)).of_eq ?_
  . obtain⟨x,X⟩:=p;cases x with
    |exit j=>
     simp only;by_cases hj:j=id
     . simp only[aG hj];exact .ret _
     . simp only[aB hj];exact .ret _
    |_=>exact .ret _
  . cases gD P cf n0 c s with
    |none=>rfl
    |some p=>obtain⟨x,X⟩:=p;cases x<;>rfl
 |loop c ih=>
  intro s;simp only[jV,gD];exact wc ih n0 s
 |skip=>intro s;exact .ret _
 |exit id=>intro s;exact .ret _
 |ret=>intro s;exact .ret _
 |rangeFunc g ps assign body _ _=>
  intro s;simp only[jV,gD];split
  . rename_i gf lb hg;rw[hg];simp only;split
    . rename_i hq;simp only[ay,aY]at hq;rw[aG hq];refine qf (fI.then (qq gf _ _ (s.n+2)) (g:=fun q=>match q.2.1.get s.n,q.2.1.get (s.n+1)with
       |some .tY,some (.loop true none _ _ _ _)=>some (.normal,{ s with h:=q.2.1.set (s.n+1) none,n:=q.2.2,ij:=(fZ,[],[.map (some s.n)])::s.ij })
       |some .tY,some (.loop false (some .ret) _ _ _ _)=>some (.ret,{ s with h:=q.2.1.set (s.n+1) none,n:=q.2.2,ij:=(fZ,[],[.map (some s.n)])::s.ij })
       |some .tY,some (.loop false (some (.exit id)) _ _ _ _)=>some (.exit id,{ s with h:=q.2.1.set (s.n+1) none,n:=q.2.2,ij:=(fZ,[],[.map (some s.n)])::s.ij })
       |_,_=>none) (fun q=>?_)) ?_
      . split<;>first|exact .ret _|exact .none _
      . intro a ha;cases B:cf gf (.fn (.yield (s.n+1)) [] []::lb) ((s.h.set s.n (some .tY)).set (s.n+1) (some (.loop true none s.N ps.toList assign body))) (s.n+2)with
        |none=>rw[B]at ha;cases ha
        |some q=>
         rw[B]at ha;obtain⟨sE,h,n⟩:=q;cases sE with
         |nr v=>cases ha
         |ret v=>
          simp only[pn,Option.bind_some]at ha;simp only;split at ha<;>first|(rename_i Q O;simp only[Q,O];exact ha)|cases ha
    . exact .none _
  . exact .none _
 |_=>intro s;exact .none _
end
def uS(P:Program)(fn:Func)(N:J V):List (FuncId×ag×ag)->J h2->Nat->Option (V×J h2×Nat)
 | [],h,n=>match kX P N h fn.results.toList with
   |some vs=>some (oneOf vs,h,n)
   |none=>none
 |(g,_,args)::ds,h,n=>match Nat.ble fZ g with
  |true=>match args with
   | [.map (some b)]=>match h.get b with
     |some .tY=>match Nat.blt b fZ with
      |true=>uS P fn N ds (h.set b none) n
      |false=>none
     |_=>none
   |_=>none
  |false=>none
theorem rX{P:Program}{cf:fO}{n0:Nat}{fn:Func}{N:J V}:∀{ds:List (FuncId×ag×ag)} {h:J h2} {n:Nat} {r:V×J h2×Nat},uS P fn N ds h n=some r->mN P cf n0 fn N ds .ret h n=some (.ret r.1,r.2.1,r.2.2)
 | [],h,n,r,e=>by
   unfold uS at e;unfold mN;split at e
   . rename_i vs hv;obtain rfl:=eH e;rw[hv]
   . cases e
 |(g,c,args)::ds,h,n,r,e=>by
  unfold uS at e;unfold mN;split at e
  case h_2=>cases e
  rename_i hg;rw[aG (az hg)];split at e
  case h_2=>cases e
  rename_i b;simp only;split at e
  case h_2=>cases e
  rename_i hb;rw[hb];simp only;split at e
  case h_2=>cases e
  rename_i eO;rw[aG (show b<fZ from az eO)];exact rX e
abbrev gF:=FuncId->ag->J h2->Nat->Option (ah×V×J h2×Nat)
def eU(P:Program)(fm:gF):Prop:=∀f args h n aj v h' n',fm f args h n=some (aj,v,h',n')->f<P.funcs.size/\((∀a∈aj,a)->
 ∀E w dH,dZ E args dH->Good E h w->pX E n->callee P f=true->Calls P f dH.toArray w (iG E h n w (.ret v) h' n'))
def dY:gF:=fun _ _ _ _=>none
section
variable(P:Program)(f:FuncId)(spec:ag->J h2->Nat->Option (ah×V×J h2×Nat))
theorem di:eU P dY:=fun _ _ _ _ _ _ _ _ e=>by cases e
def jZ(fm:gF):gF:=fun g args h n=>match Nat.beq g f with
 |true=>match spec args h n with
  |some r=>some r
  |none=>fm g args h n
 |false=>fm g args h n
def jK:Prop:=f<P.funcs.size/\∀args h n aj v h' n',spec args h n=some (aj,v,h',n')->(∀a∈aj,a)->
 ∀E w dH,dZ E args dH->Good E h w->pX E n->callee P f=true->Calls P f dH.toArray w (iG E h n w (.ret v) h' n')
theorem fC{P:Program}{f:FuncId}{spec:ag->J h2->Nat->Option (ah×V×J h2×Nat)}{fm:gF}(hp:jK P f spec)(hS:eU P fm):eU P (jZ f spec fm):=by
 intro g args h n aj v h' n' e;unfold jZ at e;split at e
 . rename_i hg;have hg:=aA hg;subst hg;split at e
   . rename_i r hr;cases e;exact⟨hp.1,hp.2 args h n aj v h' n' hr⟩
   . exact hS g args h n aj v h' n' e
 . exact hS g args h n aj v h' n' e
def SW(fn:Func)(p:s'×St):iW (V×J h2×Nat):=match p.1 with
 | .normal=>match uS P fn p.2.N p.2.ij p.2.h p.2.n with
   |some r=>.ret r
   |none=>none
 | .ret=>match uS P fn p.2.N p.2.ij p.2.h p.2.n with
   |some r=>.ret r
   |none=>none
 |_=>none
end
def JT(P:Program)(R:kn)(dm:List (Nat×lM))(n0:Nat)(f:FuncId)(args:ag)(h:J h2)(n:Nat):iW (V×J h2×Nat):=
 match P.funcs[f]? with
 |some fn=>match fn.body with
  |some code=>match Nat.ble args.length fn.ntmps&&Nat.blt fn.ntmps fZ with
   |true=>(jV P R dm n0 code (dy args h n)).then (SW P fn)
   |false=>none
  |none=>none
 |none=>none
theorem FN{P:Program}{R:kn}{cf:fO}(qq:qX R cf)(dm:List (Nat×lM))(n0:Nat)(f:FuncId)(args:ag)(h:J h2)(n:Nat):fI (JT P R dm n0 f args h n) (pn (enter P cf n0 f args h n)):=by
 unfold JT enter;split
 . rename_i fn hf;rw[hf];simp only;split
   . rename_i code hb;rw[hb];simp only;split
     . rename_i hq;simp only[ay]at hq;have hq':args.length<=fn.ntmps/\fn.ntmps<fZ:=⟨az hq.1,az hq.2⟩;rw[aG hq'];refine qf (fI.then (ko P R cf dm qq n0 code (dy args h n)) (g:=fun p=>match p.1 with
        | .normal=>pn (mN P cf n0 fn p.2.N p.2.ij .ret p.2.h p.2.n)
        | .ret=>pn (mN P cf n0 fn p.2.N p.2.ij .ret p.2.h p.2.n)
        |_=>none) (fun p=>?_)) ?_
       . obtain⟨x,s⟩:=p;unfold SW;cases x with
         |normal=>
          simp only;split
          . rename_i r hr;refine(fI.ret r).of_eq ?_;rw[rX hr];rfl
          . exact .none _
         |ret=>
          simp only;split
          . rename_i r hr;refine(fI.ret r).of_eq ?_;rw[rX hr];rfl
          . exact .none _
         |_=>exact .none _
       . intro a ha;change ((gD P cf n0 code { N:=lB args 0 .nil,h:=h,n:=n,ij:=[] }).bind _)=some a at ha;cases I:gD P cf n0 code { N:=lB args 0 .nil,h:=h,n:=n,ij:=[] }with
         |none=>rw[I]at ha;cases ha
         |some p=>
          rw[I]at ha;obtain⟨x,s⟩:=p;cases x<;>first|exact ha|cases ha
     . exact .none _
   . exact .none _
 . exact .none _
def JU(P:Program)(R:kn)(dm:List (Nat×lM))(n0 m:Nat)(args:ag)(h:J h2)(n:Nat):iW (V×J h2×Nat):=
 match h.get m with
 |some (.loop true none N ps assign body)=>match(Nat.blt m fZ&&Nat.beq ps.length args.length)&&(jS assign&&jS body)with
  |true=>match wz (Jj ps args) N with
   |some Lf=>(jV P R dm n0 assign { N:=Lf,h:=h.set m none,n:=n,ij:=[] }).then fun p=>match p.1 with
    | .normal=>(jV P R dm n0 body p.2).then fun q=>match q.1 with
      | .normal=>.ret (.bool true,q.2.h.set m (some (.loop true none N ps assign body)),q.2.n)
      | .ret=>.ret (.bool false,q.2.h.set m (some (.loop false (some .ret) N ps assign body)),q.2.n)
      | .exit id=>.ret (.bool false,q.2.h.set m (some (.loop false (some (.exit id)) N ps assign body)),q.2.n)
      |_=>none
    |_=>none
   |none=>none
  |false=>none
 |_=>none
theorem FO{P:Program}{R:kn}{cf:fO}(qq:qX R cf)(dm:List (Nat×lM))(n0 m:Nat)(args:ag)(h:J h2)(n:Nat):fI (JU P R dm n0 m args h n) (pn (wA P cf n0 m args h n)):=by
 unfold JU wA;split
 . rename_i N ps assign body hg;rw[hg];simp only;split
   . rename_i hq;simp only[ay]at hq;have hq':m<fZ/\ps.length=args.length/\jS assign=true/\jS body=true:=⟨az hq.1.1,aA hq.1.2,hq.2.1,hq.2.2⟩;rw[aG hq'];split
     . rename_i Lf qW;rw[qW];simp only;refine qf (fI.then (ko P R cf dm qq n0 assign _) (g:=fun p=>match p.1 with
        | .normal=>(gD P cf n0 body p.2).bind fun q=>match q.1 with
          | .normal=>some (.bool true,q.2.h.set m (some (.loop true none N ps assign body)),q.2.n)
          | .ret=>some (.bool false,q.2.h.set m (some (.loop false (some .ret) N ps assign body)),q.2.n)
          | .exit id=>some (.bool false,q.2.h.set m (some (.loop false (some (.exit id)) N ps assign body)),q.2.n)
          |_=>none
        |_=>none) (fun p=>?_)) ?_
       . obtain⟨x,s⟩:=p;cases x with
         |normal=>
          refine fI.then (ko P R cf dm qq n0 body s) (fun q=>?_);obtain⟨y,s2⟩:=q;cases y<;>first|exact .ret _|exact .none _
         |_=>exact .none _
       . intro a ha;cases I:gD P cf n0 assign { N:=Lf,h:=h.set m none,n:=n,ij:=[] }with
         |none=>rw[I]at ha;cases ha
         |some p=>
          rw[I]at ha;obtain⟨x,s⟩:=p;simp only[Option.bind_some]at ha;cases x with
          |normal=>
           simp only at ha ⊢;cases hy:gD P cf n0 body s with
           |none=>rw[hy]at ha;cases ha
           |some q=>
            rw[hy]at ha;obtain⟨y,s2⟩:=q;cases y<;>first|exact ha|cases ha
          |_=>cases ha
     . exact .none _
   . exact .none _
 . exact .none _
def Ez(P:Program)(fm:gF)(HH:FuncId->List (Nat×lM))(n0:Nat):Nat->kn
 |0=>fun _ _ _ _=>none
 |k+1=>fun f args h n=>match fm f args h n with
  |some (aj,r)=>some [(⟨[],[],aj⟩,r)]
  |none=>match Nat.blt f P.funcs.size with
   |true=>JT P (Ez P fm HH n0 k) (HH f) n0 f args h n
   |false=>JU P (Ez P fm HH n0 k) (HH f) n0 (f-P.funcs.size) args h n
open Classical in
noncomputable def CH(P:Program)(fm:gF)(n0:Nat):Nat->fO
 |0=>fun _ _ _ _=>none
 |k+1=>fun f args h n=>match fm f args h n with
  |some (aj,r)=>if ∀a∈aj,a then some (.ret r.1,r.2.1,r.2.2)else none
  |none=>if f<P.funcs.size then enter P (CH P fm n0 k) n0 f args h n else wA P (CH P fm n0 k) n0 (f-P.funcs.size) args h n
theorem uT(P:Program)(fm:gF)(HH:FuncId->List (Nat×lM))(n0:Nat):∀k,qX (Ez P fm HH n0 k) (CH P fm n0 k)
 |0=>fun _ _ _ _=>.none _
 |k+1=>by
  intro f args h n;simp only[Ez,CH];cases hS:fm f args h n with
  |some q=>
   obtain⟨aj,v,h',n'⟩:=q;intro l e;obtain rfl:=eH e;refine⟨⟨_,aH.2 rfl,fun c B=>by simp at B⟩,fun e he _ hg=>?_⟩;simp only[aH]at he;subst he;simp only;rw[aG hg.2];rfl
  |none=>
   simp only;by_cases hf:f<P.funcs.size
   . have hb:Nat.blt f P.funcs.size=true:=Nat.ble_eq_true_of_le hf;rw[hb,aG hf];exact FN (uT P fm HH n0 k) (HH f) n0 f args h n
   . have hb:Nat.blt f P.funcs.size=false:=by
      cases hq:Nat.blt f P.funcs.size with
      |false=>rfl
      |true=>exact absurd (az hq) hf
     rw[hb,aB hf];exact FO (uT P fm HH n0 k) (HH f) n0 _ args h n
theorem HY{P:Program}{fm:gF}{n0:Nat}(K:P.follows .mixedOrders=true)(sF:jJ P=true)(hS:eU P fm):∀k,gA P (CH P fm n0 k)
 |0=>fun _ _ _ _ _ _ _ e=>by cases e
 |k+1=>by
  intro f args h n sE h' n' e E w dH ra g hd;simp only[CH]at e;split at e
  . rename_i aj r hs;obtain⟨v,Q,n1⟩:=r;split at e
    . rename_i hA;simp only[aq,aF]at e;obtain⟨rfl,rfl,rfl⟩:=e;obtain⟨eO,JK⟩:=hS f args h n aj v Q n1 hs;exact⟨fun Cf=>JK hA E w dH ra g hd Cf,fun m l s hfm _=>absurd eO (by rw[hfm];exact Nat.not_lt.2 (cQ _ _))⟩
    . cases e
  . exact Ll (n0:=n0) (HY K sF hS k) K sF f args h n sE h' n' e E w dH ra g hd
structure CX(P:Program) where
 R:kn
 cf:fO
 snd:qX R cf
 ok:gA P cf
noncomputable def CX.of{P:Program}(K:P.follows .mixedOrders=true)(sF:jJ P=true){fm:gF}(hS:eU P fm)(HH:FuncId->List (Nat×lM))(n0 k:Nat):CX P:=
 ⟨Ez P fm HH n0 k,CH P fm n0 k,uT P fm HH n0 k,HY K sF hS k⟩
def TG(P:Program)(F fr:Nat)(c:Code)(s:St)(h1:Exit->St->Prop):Prop:=
 ∀(E:Env) (a:Act) (w:World) (hm:Exit->Act->World->Prop),jY E fr s a w->F<=s.n->
  (∀y X E' a' w',h1 y X->kB F E s.h w E' X.h w'->F<=X.n->jY E' fr X a' w'->hm y a' w')->c.wp P hm a w
section
variable{P:Program}{cf:fO}{n0 F fr:Nat}{c:Code}{s X:St}{h1 Q1:Exit->St->Prop}
theorem qG(h:TG P F fr c s Q1)(hq:∀y X,Q1 y X->h1 y X):TG P F fr c s h1:=fun E a w hm r hn k=>h E a w hm r hn fun y X E' a' w' q=>k y X E' a' w' (hq y X q)
theorem qH(lE:gA P cf)(K:P.follows .mixedOrders=true){x:s'}{y:Exit}(B:eL fr c=true)(e:gD P cf n0 c s=some (x,X))(I:x.plain=some y)(hq:h1 y X):TG P F fr c s h1:=by
 intro E a w hm r hn k;refine wpIn_wide (n:=0) |>.1 ?_;refine k9 (rz:=none) lE K c s x X (.inl rfl) B e E a w hm r fun E' a' w' x' u fE n7 r' pF=>?_;have:x'=y:=by
  cases x<;>cases x'<;>simp only[HB,s'.plain,aq,reduceCtorEq]at pF I<;>first|exact I|(subst pF;exact I)
 subst this;exact k _ X E' a' w' hq (.of u fE hn) (bE hn n7) r'
theorem fU{live:List Nat}{s2:St}(e:ld F live s=some s2)(h:TG P F fr c s2 h1):TG P F fr c s h1:=by
 intro E a w hm r hn k;obtain⟨_,pD,E2,r2,u2⟩:=ot e r;exact h E2 a w hm r2 pD fun y X E' a' w' q u n7 r'=>k y X E' a' w' q (u2.trans u) n7 r'
theorem JV{c1 c2:Code}(h:TG P F fr c1 s (andThen (fun X=>TG P F fr c2 X h1) h1)):TG P F fr (.seq c1 c2) s h1:=by
 intro E a w hm r hn k;refine wp_seq (h E a w _ r hn fun y X E' a' w' q u n7 r'=>?_);cases y<;>first|exact q E' a' w' hm r' n7 (fun y2 s2 E2 a2 w2 q2 u2 pD r2=>k y2 s2 E2 a2 w2 q2 (u.trans u2) pD r2)|exact k _ X E' a' w' q u n7 r'
theorem dK(hs:rT c=true)(h:TG P F fr (dF c) s (andThen (fun X=>TG P F fr (dX c) X h1) h1)):TG P F fr c s h1:=by
 cases c<;>simp only[rT,aM]at hs;exact JV h
theorem jR{t:Bool}(B:JP c (fun _=>true)=true)(ho:iP s.N (Vi c)=some (.bool t))(Q:t=true->TG P F fr (lK c) s h1)(O:t=false->TG P F fr (oW c) s h1):TG P F fr c s h1:=by
 cases c<;>simp only[JP,aM]at B;intro E a w hm r hn k;cases t
 . exact wp_cond_false (rQ r.good.kx r.N ho) (O rfl E a w hm r hn k)
 . exact wp_cond_true (rQ r.good.kx r.N ho) (Q rfl E a w hm r hn k)
theorem fh{i:Nat}(B:nf c i=true)(h:TG P F fr (dG c) s (gk i h1)):TG P F fr c s h1:=by
 cases c<;>simp only[nf,aM]at B;rename_i j b;have:=aA B;subst this;intro E a w hm r hn k;refine wp_block (h E a w _ r hn fun y X E' a' w' q u n7 r'=>?_);cases y<;>first|exact k _ X E' a' w' q u n7 r'|skip
 simp only[Exit.inBlock,gk]at q ⊢;split
 . rename_i he;rw[aG he]at q;exact k _ X E' a' w' q u n7 r'
 . rename_i he;rw[aB he]at q;exact k _ X E' a' w' q u n7 r'
def TGR(P:Program)(F fr:Nat)(c:Code)(h1:Exit->St->Prop):Nat->St->Prop
 |0,_=>False
 |n+1,s=>TG P F fr c s (andThen (fun X=>TGR P F fr c h1 n X) h1)
theorem SX(n:Nat)(B:oM c=true)(h:TGR P F fr (dG c) h1 n s):TG P F fr c s h1:=by
 cases c<;>simp only[oM,aM]at B;rename_i b;intro E0 a w hm r hn k;refine wp_loop_rounds n ?_;have key:∀(n:Nat) (s1:St) (E:Env) (a:Act) (w1:World),TGR P F fr b h1 n s1->jY E fr s1 a w1->F<=s1.n->kB F E0 s.h w E s1.h w1->Code.rounds P b hm n a w1:=by
  intro n
  induction n with
  |zero=>intro s1 E a w1 h;exact h.elim
  |succ n ih=>
   intro s1 E a w1 h r hn u;rw[rounds_succ];refine h E a w1 _ r hn fun y X E' a' w' q u' n7 r'=>?_;cases y<;>first|exact ih X E' a' w' q r' n7 (u.trans u')|exact k _ X E' a' w' q (u.trans u') n7 r'
 exact key n s E0 a w h r hn (.refl r.good)
theorem jD(hx:Nat->St->Prop)(hl:oM c=true)(h:∀k s,hx k s->TG P F fr (dG c) s (andThen (fun X=>∃k',k'<k/\hx k' X) h1))(k:Nat)(h0:hx k s):TG P F fr c s h1:=by
 refine SX (k+1) hl ?_;have key:∀(k:Nat) (n:Nat) (s:St),k<n->hx k s->TGR P F fr (dG c) h1 n s:=by
  intro k
  induction k using Nat.strongRecOn with
  |_ k ih=>
   intro n s hn hi;cases n with
   |zero=>omega
   |succ n=>
    simp only[TGR];refine qG (h k s hi) fun y X hq=>?_;cases y with
    |normal=>
     obtain⟨k',W,jB⟩:=hq;exact ih k' W n X H jB
    |_=>exact hq
 exact key k (k+1) s H h0
end
section
variable{P:Program}{X':CX P}{dm:List (Nat×lM)}{n0 F fr:Nat}{c:Code}{s:St}{h1:Exit->St->Prop}
inductive jL where
 |to (y:Exit) (s:St)
 |ret (v:V) (h:J h2) (n:Nat)
 |bad
def JW(P:Program)(F:Nat)(fn:Func)(s:St):Option (V×J h2×Nat):=match uS P fn s.N s.ij s.h s.n with
 |some (v,h,n)=>match ld F [0] { N:=J.nil.set 0 (some v),h:=h,n:=n,ij:=[] }with
  |some s2=>match s2.N.get 0 with
   |some v2=>some (v2,s2.h,s2.n)
   |none=>none
  |none=>none
 |none=>none
def nw(P:Program)(F:Nat)(fn:Func)(live:List Nat)(p:s'×St):jL:=match p.1 with
 | .normal=>match ld F live p.2 with
   |some s=>.to .normal s
   |none=>.bad
 | .exit i=>match ld F live p.2 with
   |some s=>.to (.exit i) s
   |none=>.bad
 | .ret=>match JW P F fn p.2 with
   |some (v,h,n)=>.ret v h n
   |none=>.bad
 | .panic _=>.bad
def fH(P:Program)(F:Nat)(fn:Func)(cs:V->J h2->Nat->Prop)(y:Exit)(X:St):Prop:=(y= .normal\/y= .ret)/\∃v h n,JW P F fn X=some (v,h,n)/\cs v h n
def jL.post(P:Program)(F:Nat)(fn:Func)(live:List Nat)(cs:V->J h2->Nat->Prop)(h1:Exit->St->Prop):jL->Prop
 | .to y s=>∀X,ld F live X=some s->h1 y X
 | .ret v h n=>cs v h n/\∀X,fH P F fn cs .ret X->h1 .ret X
 | .bad=>False
theorem JX(K:P.follows .mixedOrders=true){l:List (tf×s'×St)}(B:eL fr c=true)(e:jV P X'.R dm n0 c s=some l)(h:∀p∈l,p.1.ok->p.1.good/\∃y,p.2.1.plain=some y/\h1 y p.2.2):TG P F fr c s h1:=by
 obtain⟨⟨p,hp,ho⟩,O⟩:=ko P X'.R X'.cf dm X'.snd n0 c s l e;obtain⟨hg,y,hy,hq⟩:=h p hp ho;exact qH (n0:=n0) X'.ok K B (O p hp ho hg) hy hq
def CI(P:Program)(R:kn)(dm:List (Nat×lM))(n0 F:Nat)(fn:Func)(live:List Nat)(c:Code)(s:St):List (List (Bool×Bool)×ah×jL):=uP (nw P F fn live) (tS (jV P R dm n0 c s))
def AE(P:Program)(R:kn)(dm:List (Nat×lM))(n0:Nat)(c:Code)(s:St):Bool:=(jV P R dm n0 c s).isSome
def uU(P:Program)(R:kn)(dm:List (Nat×lM))(n0:Nat)(c:Code)(s:St):ag:=qg (tS (jV P R dm n0 c s))
def wW(P:Program)(R:kn)(dm:List (Nat×lM))(n0:Nat)(c:Code)(s:St):ag:=uQ (tS (jV P R dm n0 c s))
theorem WD(X':CX P)(K:P.follows .mixedOrders=true)(dm:List (Nat×lM))(n0:Nat)(fn:Func)(live:List Nat)(cs:V->J h2->Nat->Prop)(hL:List (List (Bool×Bool)×ah×jL))(B:eL fr c=true)
  (e1:AE P X'.R dm n0 c s=true) (e2:uU P X'.R dm n0 c s=wW P X'.R dm n0 c s) (e3:CI P X'.R dm n0 F fn live c s=hL)
  (h:∀g∈hL,(∀b∈g.1,b.1=b.2)->(∀a∈g.2.1,a)/\g.2.2.post P F fn live cs h1):TG P F fr c s h1:=by
 obtain⟨l,hl⟩:=bH.1 e1;unfold uU wW at e2;unfold CI at e3;rw[hl]at e2 e3;simp only[tS]at e2 e3;refine JX (X':=X') K B hl fun p hp ho=>?_;have hg:=h (p.1.conds,p.1.NU,nw P F fn live p.2) (e3▸mD hp) ho;refine⟨⟨qF l e2 p hp,hg.1⟩,?_⟩;obtain⟨pp,x,X⟩:=p;have iO:=hg.2;simp only[nw]at iO;cases x with
 |normal=>
  simp only at iO;split at iO
  . rename_i s2 pH;exact⟨.normal,rfl,iO X pH⟩
  . exact iO.elim
 |exit i=>
  simp only at iO;split at iO
  . rename_i s2 pH;exact⟨.exit i,rfl,iO X pH⟩
  . exact iO.elim
 |ret=>
  simp only at iO;split at iO
  . rename_i v h n hr;exact⟨.ret,rfl,iO.2 X ⟨.inr rfl,v,h,n,hr,iO.1⟩⟩
  . exact iO.elim
 |panic _=>exact iO.elim
theorem yf{cf:fO}(lE:gA P cf)(K:P.follows .mixedOrders=true):∀(k:Nat) {c:Code} {s s1:St} {h1:Exit->St->Prop},eL fr c=true->gD P cf n0 (dM k c) s=some (.normal,s1)->TG P F fr (dr k c) s1 h1->TG P F fr c s h1:=by
 intro k;have HZ:∀{c:Code} {s s1:St} {h1:Exit->St->Prop},gD P cf n0 .skip s=some (.normal,s1)->TG P F fr c s1 h1->TG P F fr c s h1:=by
  intro c s s1 h1 e h;simp only[gD,aq,aF,true_and]at e;subst e;exact h
 induction k with
 |zero=>intro c s s1 h1 _ e h;cases c<;>exact HZ e h
 |succ k ih=>
  intro c s s1 h1 mc e h;cases c<;>first|exact HZ e h|skip
  rename_i a b;simp only[eL,ay]at mc;simp only[dM,gD]at e;split at e
  . rename_i X Q;exact JV (qH (n0:=n0) lE K mc.1 Q rfl (ih mc.2 e h))
  . rename_i hr
    first|exact(hr s1 rfl).elim|exact(hr s1 e).elim
theorem SY(k:Nat)(X':CX P)(K:P.follows .mixedOrders=true)(dm:List (Nat×lM))(n0:Nat)(fn:Func)(live:List Nat)(hL:List (List (Bool×Bool)×ah×jL))(B:eL fr c=true)
  (e1:AE P X'.R dm n0 (dM k c) s=true) (e2:uU P X'.R dm n0 (dM k c) s=wW P X'.R dm n0 (dM k c) s) (e3:CI P X'.R dm n0 F fn live (dM k c) s=hL)
  (h:∀g∈hL,(∀b∈g.1,b.1=b.2)->(∀a∈g.2.1,a)/\∃s1,g.2.2= .to .normal s1/\TG P F fr (dr k c) s1 h1):TG P F fr c s h1:=by
 obtain⟨l,hl⟩:=bH.1 e1;unfold uU wW at e2;unfold CI at e3;rw[hl]at e2 e3;simp only[tS]at e2 e3;obtain⟨⟨p,hp,ho⟩,O⟩:=ko P X'.R X'.cf dm X'.snd n0 (dM k c) s l hl;obtain⟨hA,s1,pW,hT⟩:=h (p.1.conds,p.1.NU,nw P F fn live p.2) (e3▸mD hp) ho;have gm:=O p hp ho ⟨qF l e2 p hp,hA⟩;obtain⟨pp,x,X⟩:=p;simp only[nw]at pW;cases x with
 |normal=>
  simp only at pW;split at pW
  . rename_i s2 pH;cases pW;exact yf (n0:=n0) X'.ok K k B gm (fU pH hT)
  . cases pW
 |exit i=>
  simp only at pW;split at pW<;>cases pW
 |ret=>
  simp only at pW;split at pW<;>cases pW
 |panic _=>cases pW
end
section
variable{P:Program}{F:Nat}
theorem EA{fn:Func}{s:St}{v:V}{h:J h2}{n:Nat}(e:JW P F fn s=some (v,h,n)):∃v1 Q n1 s2,uS P fn s.N s.ij s.h s.n=some (v1,Q,n1)/\ld F [0] { N:=J.nil.set 0 (some v1),h:=Q,n:=n1,ij:=[] }=some s2/\s2.N.get 0=some v/\s2.h=h/\s2.n=n:=by
 unfold JW at e;split at e
 . rename_i v1 Q n1 e1;split at e
   . rename_i s2 e2;split at e
     . rename_i v2 e3;simp only[aq,aF]at e;obtain⟨rfl,rfl,rfl⟩:=e;exact⟨v1,Q,n1,s2,e1,e2,e3,rfl,rfl⟩
     . cases e
   . cases e
 . cases e
theorem qI(K:P.follows .mixedOrders=true)(sF:jJ P=true){f:FuncId}{fn:Func}{code:Code}(hf:P.funcs[f]? =some fn)(hb:fn.body=some code){args:ag}{h:J h2}{F:Nat}
  (l:(Nat.ble args.length fn.ntmps&&Nat.blt fn.ntmps fZ)=true) (cs:V->J h2->Nat->Prop) (hT:TG P F fn.ntmps code (dy args h F) (fH P F fn cs))
  {E:Env} {w:World} {dH:List Value} (ra:dZ E args dH) (g:Good E h w) (hd:pX E F):
  Calls P f dH.toArray w fun e w'=>∃v h' n',cs v h' n'/\iG E h F w (.ret v) h' n' e w':=by
 simp only[ay]at l;obtain⟨vy,my⟩:=nR (n:=fn.ntmps) ra (az l.1) (az l.2);refine callsIn_wide.1 (callsIn_of_wp_marks (n:=0) hf hb trivial (wpIn_wide.2 ?_));refine hT E _ w _ ⟨g,hd,vy,my,rfl⟩ (aK _) fun y X E' a' w' ⟨hy,v,h',n',hr,hR⟩ u n7 r'=>?_;obtain⟨v1,Q,n1,s2,k1,k2,k3,k4,k5⟩:=EA hr;have key:LeavesInM Fence.wide 0 P fn a'.tmps (fun e w'=>∃v h' n',cs v h' n'/\iG E h F w (.ret v) h' n' e w') a'.defers .returning w':=by
  refine oo (cf:=fun _ _ _ _=>none) (n0:=0) (fun _ _ _ _ _ _ _ e=>by cases e) K sF X.ij .ret X.h X.n _ Q n1 (rX k1) E' w' a'.defers .returning _ r'.good r'.qu r'.N r'.ij trivial fun E2 w2 en u2 rR Cr pD ho=>?_;have u3:=u.trans (kB.of u2 rR n7);cases en with
  |returned v'=>
   have ho:dV E2 v1 v':=ho;have sr:jY E2 1 { N:=J.nil.set 0 (some v1),h:=Q,n:=n1,ij:=[] } { tmps:=#[v'],defers:=[] } w2:=by
    refine⟨u3.good,Cr,fun t v hv=>?_,rfl,rfl⟩;rw[J.fJ _ _ _ eY]at hv;split at hv
    . rename_i q;subst q;cases hv;exact⟨v',rfl,ho⟩
    . simp[J.get]at hv
   obtain⟨_,Jb,E3,r3,u4⟩:=ot k2 sr;have u5:=(u3.trans u4).tO hd;obtain⟨v'',q1,q2⟩:=r3.N 0 v k3;simp only[List.getElem?_toArray,cF,aq]at q1;subst q1;refine⟨v,h',n',hR,E3,k4▸u5,(u3.trans u4).low,k5▸r3.qu,by rw[<- k5];exact Jb,q2⟩
  |_=>exact ho.elim
 rcases hy with rfl|rfl<;>exact key
theorem tu(K:P.follows .mixedOrders=true)(sF:jJ P=true){f:FuncId}{fn:Func}{code:Code}(hf:P.funcs[f]? =some fn)(hb:fn.body=some code){args:ag}{h:J h2}{F:Nat}
  (l:(Nat.ble args.length fn.ntmps&&Nat.blt fn.ntmps fZ)=true) (v:V) (h':J h2) (n':Nat) (hT:TG P F fn.ntmps code (dy args h F) (fH P F fn fun a b c=>a=v/\b=h'/\c=n'))
  {E:Env} {w:World} {dH:List Value} (ra:dZ E args dH) (g:Good E h w) (hd:pX E F):
  Calls P f dH.toArray w (iG E h F w (.ret v) h' n'):=
 (qI K sF hf hb l _ hT ra g hd).mono fun e w' ⟨_,_,_,⟨e1,e2,e3⟩,k⟩=>by subst e1 e2 e3;exact k
end
def frL:List (Nat×V)->J V:=go .nil
where go (t:J V):List (Nat×V)->J V
 | []=>t
 |(k,v)::r=>go (t.set k (some v)) r
def G:af->J h2:=go .nil
where go (t:J h2):af->J h2
 | []=>t
 |(k,v)::r=>go (t.set k (some v)) r
def fq(l:List (Nat×V))(h:J h2)(n:Nat):St:={ N:=frL l,h:=h,n:=n,ij:=[] }
def MZ(l:List (Nat×V))(h:J h2)(n:Nat)(d:List (FuncId×ag×ag)):St:={ N:=frL l,h:=h,n:=n,ij:=d }
def Lo(es:List (FuncId×ag×V)):gF:=fun f args h n=>match look f args es with
 |some v=>some ([],v,h,n)
 |none=>none
theorem O4{P:Program}{es:List (FuncId×ag×V)}(hT:∀x∈es,FA P x):eU P (Lo es):=by
 intro f args h n aj v h' n' e;unfold Lo at e;split at e
 . rename_i v' hl;simp only[aq,aF]at e;obtain⟨rfl,rfl,rfl,rfl⟩:=e;have hs:=hT _ (HM hl);exact⟨hs.1,fun _ E w dH ra g hd Cf=>JM hs ra g hd Cf⟩
 . cases e
def SZ(P:Program)(R:kn)(dm:List (Nat×lM))(n0 F:Nat)(fn:Func)(live:List Nat)(c:Code)(s:St):Option (ag×ag×List (List (Bool×Bool)×ah×jL)):=
 match jV P R dm n0 c s with
 |some l=>some (qg l,uQ l,uP (nw P F fn live) l)
 |none=>none
abbrev dj(P:Program)(R:kn)(dm:List (Nat×lM))(n0 F:Nat)(fn:Func)(live:List Nat)(c:Code)(s:St)(iX:ag)(hL:List (List (Bool×Bool)×ah×jL)):Prop:=SZ P R dm n0 F fn live c s=some (iX,iX,hL)
theorem dj.parts{P:Program}{R:kn}{dm:List (Nat×lM)}{n0 F:Nat}{fn:Func}{live:List Nat}{c:Code}{s:St}{iX:ag}{hL:List (List (Bool×Bool)×ah×jL)}(h:dj P R dm n0 F fn live c s iX hL):
  AE P R dm n0 c s=true/\uU P R dm n0 c s=wW P R dm n0 c s/\CI P R dm n0 F fn live c s=hL:=by
 have h:SZ P R dm n0 F fn live c s=some (iX,iX,hL):=h;unfold SZ at h;unfold AE uU wW CI;split at h
 . rename_i l hl;simp only[aq,aF]at h;rw[hl];exact⟨rfl,h.1.trans h.2.1.symm,h.2.2⟩
 . cases h
section
variable{P:Program}{F fr:Nat}{c:Code}{s:St}{h1:Exit->St->Prop}{dm:List (Nat×lM)}{n0:Nat}{fn:Func}{live:List Nat}{iX:ag}{hL:List (List (Bool×Bool)×ah×jL)}
section
variable(k:Nat)(X':CX P)
theorem Vn(K:P.follows .mixedOrders=true)(cs:V->J h2->Nat->Prop)(B:eL fr c=true)(hr:dj P X'.R dm n0 F fn live c s iX hL)
  (h:∀g∈hL,(∀b∈g.1,b.1=b.2)->(∀a∈g.2.1,a)/\g.2.2.post P F fn live cs h1):TG P F fr c s h1:=
 WD X' K dm n0 fn live cs hL B hr.parts.1 hr.parts.2.1 hr.parts.2.2 h
theorem O5(K:P.follows .mixedOrders=true)(B:eL fr c=true)(hr:dj P X'.R dm n0 F fn live (dM k c) s iX hL)
  (h:∀g∈hL,(∀b∈g.1,b.1=b.2)->(∀a∈g.2.1,a)/\∃s1,g.2.2= .to .normal s1/\TG P F fr (dr k c) s1 h1):TG P F fr c s h1:=
 SY k X' K dm n0 fn live hL B hr.parts.1 hr.parts.2.1 hr.parts.2.2 h
theorem S2(K:P.follows .mixedOrders=true){aj:ah}{s1:St}(B:eL fr c=true)(hr:dj P X'.R dm n0 F fn live (dM k c) s iX [([],aj,.to .normal s1)])
  (hA:∀a∈aj,a) (h:TG P F fr (dr k c) s1 h1):TG P F fr c s h1:=
 O5 k X' K B hr fun g hg _=>by
  rw[aH]at hg;subst hg;exact⟨hA,s1,rfl,h⟩
theorem WE(K:P.follows .mixedOrders=true)(cs:V->J h2->Nat->Prop)(B:eL fr c=true)(hr:dj P X'.R dm n0 F fn live c s iX hL)
  (h:∀g∈hL,(∀b∈g.1,b.1=b.2)->(∀a∈g.2.1,a)/\∃v h n,g.2.2= .ret v h n/\cs v h n):TG P F fr c s (fH P F fn cs):=
 Vn X' K cs B hr fun g hg B=>by
  obtain⟨Q,v,h',n',e,hR⟩:=h g hg B;refine⟨Q,?_⟩;rw[e];exact⟨hR,fun X q=>q⟩
end
end
abbrev eE:V->J h2->Nat->Prop:=fun _ _ _=>True
section
variable{P:Program}{F fr:Nat}{c:Code}{s:St}{h1:Exit->St->Prop}{n0:Nat}{fn:Func}
def jL.loop(P:Program)(F:Nat)(fn:Func)(live:List Nat)(cs:V->J h2->Nat->Prop)(hx:Nat->St->Prop)(k:Nat)(h1:Exit->St->Prop):jL->Prop
 | .to .normal s=>∃k',k'<k/\hx k' s
 | .to y s=>∀X,ld F live X=some s->h1 y X
 | .ret v h n=>cs v h n/\∀X,fH P F fn cs .ret X->h1 .ret X
 | .bad=>False
end
theorem qJ{E:Env}{h:J h2}{n:Nat}{w:World}{v:V}{h':J h2}{n':Nat}{e:Ending}{w':World}(WH:∀m,¬eN h m)(c:iG E h n w (.ret v) h' n' e w'):(∃E,wL E (.ret v) e)/\Below w.heap.size w w':=by
 obtain⟨E',u,_,_,_,ho⟩:=c;exact⟨⟨E',ho⟩,u.os,u.tape,u.output,u.size,fun k W=>u.keep k W fun m s K=>absurd K (WH m)⟩
section
variable{P:Program}{f:FuncId}
theorem CJ(K:P.follows .mixedOrders=true)(sF:jJ P=true){f:FuncId}{fn:Func}{code:Code}(hf:P.funcs[f]? =some fn)(hb:fn.body=some code){args:ag}{h:J h2}{F:Nat}
  (l:(Nat.ble args.length fn.ntmps&&Nat.blt fn.ntmps fZ)=true) {v:V} (hT:TG P F fn.ntmps code (dy args h F) (fH P F fn fun a _ _=>a=v))
  {E:Env} {w:World} {dH:List Value} (ra:dZ E args dH) (g:Good E h w) (hd:pX E F) (WH:∀m,¬eN h m):
  Calls P f dH.toArray w fun e w'=>(∃E,wL E (.ret v) e)/\Below w.heap.size w w':=
 (qI K sF hf hb l _ hT ra g hd).mono fun e w' ⟨v',h',n',e1,k⟩=>by subst e1;exact qJ WH k
theorem wX:∀m,¬eN (.nil:J h2) m:=fun m k=>absurd rfl k.live
def gV(f:ag->Option (ah×V)):ag->J h2->Nat->Option (ah×V×J h2×Nat):=fun args h n=>match f args with
 |some (aj,v)=>some (aj,v,h,n)
 |none=>none
theorem O6{spec:ag->Option (ah×V)}(eO:f<P.funcs.size)(h:∀args aj v,spec args=some (aj,v)->V.tR args=true/\v.free=true/\((∀a∈aj,a)->
  ∀E w dH,WG w->dZ E args dH->Calls P f dH.toArray w fun e w'=>(∃E,wL E (.ret v) e)/\Below w.heap.size w w')):jK P f (gV spec):=by
 refine⟨eO,fun args h' n aj v O n2 e hA E w dH ra g hd B=>?_⟩;unfold gV at e;split at e
 . rename_i A' v' hs;simp only[aq,aF]at e;obtain⟨rfl,rfl,rfl,rfl⟩:=e;obtain⟨Q,O,h3⟩:=h args _ _ hs;exact(h3 hA E w dH g.wg ra).mono fun en w' ⟨ho,b⟩=>uR g hd O ho b
 . cases e
theorem JY(K:P.follows .mixedOrders=true)(sF:jJ P=true){f:FuncId}{fn:Func}{code:Code}(hf:P.funcs[f]? =some fn)(hb:fn.body=some code){args:ag}
  (l:(Nat.ble args.length fn.ntmps&&Nat.blt fn.ntmps fZ)=true) {v:V} (vy:V.tR args=true) (hT:TG P gN fn.ntmps code (dy args .nil gN) (fH P gN fn fun a _ _=>a=v)):
  ∀E w dH,WG w->dZ E args dH->Calls P f dH.toArray w fun e w'=>(∃E,wL E (.ret v) e)/\Below w.heap.size w w':=
 fun _ w _ hw ra=>CJ K sF hf hb l hT (nS _ _ vy ra) (Ve hw) (abu (aK _)) wX
end
def O7(h:J h2):List (Nat×IntKind)->Option (J h2)
 | []=>some h
 |(m,k)::r=>match h.get m with
  |some (.cells R)=>match pL k R with
   |some Y=>match Nat.blt m fZ with
    |true=>O7 (h.set m (some (.own k Y))) r
    |false=>none
   |none=>none
  |_=>none
theorem EB{E:Env}{w:World}:∀(l:List (Nat×IntKind)) (h O:J h2),O7 h l=some O->Good E h w->Good E O w/\∀m,(O.get m≠none↔h.get m≠none)/\(eN O m->eN h m)
 | [],h,O,e,g=>by simp only[O7,aq]at e;subst e;exact⟨g,fun m=>⟨Iff.rfl,id⟩⟩
 |(m,k)::r,h,O,e,g=>by
  unfold O7 at e;split at e
  case h_2=>cases e
  rename_i R K;split at e
  case h_2=>cases e
  rename_i Y W;split at e
  case h_2=>cases e
  rename_i ht;have ht:m<fZ:=az ht;have qq:=rF W;have lC:∀j,(h.set m (some (.own k Y))).get j=if j=m then some (.own k Y)else h.get j:=fun j=>J.fJ _ _ _ ht
  have Fh:∀j,((h.set m (some (.own k Y))).get j≠none↔h.get j≠none)/\(eN (h.set m (some (.own k Y))) j->eN h j):=by
   intro j;rw[lC];by_cases q:j=m
   . subst q;rw[aG rfl,K];exact⟨by simp,fun _=>⟨_,K,rfl⟩⟩
   . rw[aB q];exact⟨Iff.rfl,fun z=>pR ht z q⟩
  have g1:Good E (h.set m (some (.own k Y))) w:=by
   refine⟨fun j o hj=>?_,fun j j' b s X iV hj xy e1 e2=>g.inj j j' b s X iV ((Fh j).2 hj) ((Fh j').1.1 xy) e1 e2,g.oL,g.kx,fun b c q=>⟨g.fz b c q,fun m' s sD=>(g.iz b c q).2 m' s ((Fh m').2 sD)⟩⟩;rw[lC]at hj;split at hj
   . rename_i q;subst q;obtain rfl:=eH hj;obtain⟨b,s,Q,O⟩:=g.rel j _ K;rw[qq]at O;exact⟨b,s,Q,O⟩
   . exact g.rel j o hj
  obtain⟨g2,k2⟩:=EB r _ O e g1;exact⟨g2,fun j=>⟨(k2 j).1.trans (Fh j).1,fun z=>(Fh j).2 ((k2 j).2 z)⟩⟩
def WI(l:List (Nat×IntKind))(s:St):Option St:=match O7 s.h l with
 |some h=>some { s with h:=h }
 |none=>none
theorem zx{P:Program}{F fr:Nat}{c:Code}{s s2:St}{h1:Exit->St->Prop}(l:List (Nat×IntKind))(e:WI l s=some s2)(h:TG P F fr c s2 h1):TG P F fr c s h1:=by
 unfold WI at e;split at e
 case h_2=>cases e
 rename_i O hh;obtain rfl:=eH e;intro E a w hm r hn k;obtain⟨g2,k2⟩:=EB (E:=E) (w:=w) l s.h O hh r.good;have u:kB F E s.h w E O w:=⟨fun _ _ _ _ e=>⟨e,rfl⟩,fun _ _=>rfl,fun _ _ q=>q,g2,aK _,rfl,rfl,rfl,fun _ _ _=>rfl,fun m b s1 K e1 _=>⟨m,s1,(k2 m).1.1 K,e1,(k2 m).2⟩,fun _ _ q=>.inl q⟩;exact h E a w hm ⟨g2,r.qu,r.N,r.size,r.ij⟩ hn fun y X E' a' w' q u' n7 r'=>k y X E' a' w' q (u.trans u') n7 r'
def Env.rows(E:Env)(ns:List (Option (Nat×Nat))):Env:=⟨fun j=>match ns.getD j none with
 |some (m,o)=>match E.ι m with
  |some (b,s)=>some (b,s+o)
  |none=>none
 |none=>none,E.β,E.φ⟩
theorem dj.of{P:Program}{R:kn}{dm:List (Nat×lM)}{n0 F:Nat}{fn:Func}{live:List Nat}{c:Code}{s:St}{hL:List (List (Bool×Bool)×ah×jL)}(Q:AE P R dm n0 c s=true)(O:uU P R dm n0 c s=wW P R dm n0 c s)(h3:CI P R dm n0 F fn live c s=hL):
  ∃iX,dj P R dm n0 F fn live c s iX hL:=by
 refine⟨uU P R dm n0 c s,?_⟩;unfold dj SZ;unfold AE at Q;unfold uU wW at O;unfold CI at h3;unfold uU;cases hl:jV P R dm n0 c s with
 |none=>rw[hl]at Q;cases Q
 |some l=>
  rw[hl]at O h3;have O:qg l=uQ l:=O;have h3:uP (nw P F fn live) l=hL:=h3;show some (qg l,uQ l,uP (nw P F fn live) l)=some (qg l,qg l,hL);rw[h3,<- O]
end Go.Eng
