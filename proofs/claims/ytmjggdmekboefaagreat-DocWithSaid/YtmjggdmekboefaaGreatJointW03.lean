/- Lemmas of the engine. No conditions. -/
import Derived.Test.YtmjggdmekboefaaGreatJointW02
set_option linter.unusedVariables false
set_option linter.unusedSimpArgs false
set_option linter.unusedSectionVars false
namespace Go.Eng
open Go Go.RowKit
structure sK where
 conds:List (Bool×Bool)
 same:List (V×V)
 Om:ah
def sK.nil:sK:=⟨[],[],[]⟩
def sK.app(a b:sK):sK:=⟨a.conds++b.conds,a.same++b.same,a.Om++b.Om⟩
def sK.ok(p:sK):Prop:=∀c∈p.conds,c.1=c.2
def sK.good(p:sK):Prop:=(∀c∈p.same,c.1=c.2)/\∀a∈p.Om,a
theorem sK.Pt{a b:sK}:(a.app b).ok↔a.ok/\b.ok:=by
 simp only[sK.ok,sK.app,bf];exact⟨fun h=>⟨fun c N=>h c (.inl N),fun c N=>h c (.inr N)⟩,fun h c N=>N.elim (h.1 c) (h.2 c)⟩
theorem sK.Pu{a b:sK}:(a.app b).good↔a.good/\b.good:=by
 simp only[sK.good,sK.app,bf];exact⟨fun h=>⟨⟨fun c N=>h.1 c (.inl N),fun c N=>h.2 c (.inl N)⟩,fun c N=>h.1 c (.inr N),fun c N=>h.2 c (.inr N)⟩,
  fun h=>⟨fun c N=>N.elim (h.1.1 c) (h.2.1 c),fun c N=>N.elim (h.1.2 c) (h.2.2 c)⟩⟩
abbrev dN(α:Type):=Option (List (sK×α))
def dN.ret{α:Type}(a:α):dN α:=some [(.nil,a)]
def pre{α:Type}(p:sK):List (sK×α)->List (sK×α)
 | []=>[]
 |e::r=>(p.app e.1,e.2)::pre p r
def dN.bind{α β:Type}:List (sK×α)->(α->dN β)->dN β
 | [],_=>some []
 |(p,a)::r,f=>match f a with
  |some l1=>match dN.bind r f with
   |some l2=>some (pre p l1++l2)
   |none=>none
  |none=>none
def dN.then{α β:Type}(m:dN α)(f:α->dN β):dN β:=match m with
 |some l=>dN.bind l f
 |none=>none
def fO{α:Type}(m:dN α)(r:Option α):Prop:=∀l,m=some l->(∃e∈l,e.1.ok)/\∀e∈l,e.1.ok->e.1.good->r=some e.2
theorem FN{α:Type}{p:sK}:∀{l:List (sK×α)} {e:sK×α},e∈pre p l↔∃e'∈l,e=(p.app e'.1,e'.2)
 | [],e=>by simp[pre]
 |x::r,e=>by
  simp only[pre,az,FN];exact⟨fun h=>h.elim (fun q=>⟨x,.inl rfl,q⟩) fun⟨e',h1,C⟩=>⟨e',.inr h1,C⟩,fun⟨e',h1,C⟩=>h1.elim (fun q=>.inl (by rw[C,q])) fun q=>.inr ⟨e',q,C⟩⟩
theorem Io{α β:Type}{f:α->dN β}:∀{l:List (sK×α)} {l2:List (sK×β)},dN.bind l f=some l2->(∀e∈l2,∃d∈l,∃l1,f d.2=some l1/\∃e'∈l1,e=(d.1.app e'.1,e'.2))/\(∀d∈l,∃l1,f d.2=some l1/\∀e'∈l1,(d.1.app e'.1,e'.2)∈l2)
 | [],l2,h=>by
   simp only[dN.bind,aq]at h;subst h;exact⟨fun e he=>by simp at he,fun d hd=>by simp at hd⟩
 |(p,a)::r,l2,h=>by
  simp only[dN.bind]at h;split at h
  . rename_i l1 h1;split at h
    . rename_i l3 h3;obtain rfl:=eU h;obtain⟨k1,k2⟩:=Io h3;refine⟨fun e he=>?_,fun d hd=>?_⟩
      . rcases bf.1 he with q|q
        . obtain⟨e',q1,q2⟩:=FN.1 q;exact⟨(p,a),by simp,l1,h1,e',q1,q2⟩
        . obtain⟨d,d1,d2⟩:=k1 e q;exact⟨d,by simp[d1],d2⟩
      . rcases az.1 hd with rfl|hd
        . exact⟨l1,h1,fun e' Bc=>bf.2 (.inl (FN.2 ⟨e',Bc,rfl⟩))⟩
        . obtain⟨l1',q1,q2⟩:=k2 d hd;exact⟨l1',q1,fun e' Bc=>bf.2 (.inr (q2 e' Bc))⟩
    . cases h
  . cases h
theorem fO.ret{α:Type}(a:α):fO (dN.ret a) (some a):=by
 intro l h;simp only[dN.ret,aq]at h;subst h;exact⟨⟨_,aG.2 rfl,fun c N=>by simp[sK.nil]at N⟩,fun e he _ _=>by simp only[aG]at he;subst he;rfl⟩
theorem fO.none{α:Type}(r:Option α):fO (none:dN α) r:=fun l h=>by cases h
theorem fO.then{α β:Type}{m:dN α}{f:α->dN β}{r:Option α}{g:α->Option β}(h:fO m r)(hf:∀a,fO (f a) (g a)):fO (m.then f) (r.bind g):=by
 intro l2 e;unfold dN.then at e;split at e
 . rename_i l;obtain⟨⟨d,hd,mN⟩,C⟩:=h l rfl;obtain⟨k1,k2⟩:=Io e;refine⟨?_,fun e he ajp Xu=>?_⟩
   . obtain⟨l1,q1,q2⟩:=k2 d hd;obtain⟨⟨e',Bc,Td⟩,_⟩:=hf d.2 l1 q1;exact⟨_,q2 e' Bc,sK.Pt.2 ⟨mN,Td⟩⟩
   . obtain⟨d,hd,l1,q1,e',Bc,rfl⟩:=k1 e he;obtain⟨o1,o2⟩:=sK.Pt.1 ajp;obtain⟨g1,g2⟩:=sK.Pu.1 Xu;rw[C d hd o1 g1];exact(hf d.2 l1 q1).2 e' Bc o2 g2
 . cases e
theorem fO.of_eq{α:Type}{m:dN α}{r r':Option α}(h:fO m r)(e:r=r'):fO m r':=e▸h
def uW(P:Program)(t:TypeId):Option Nat:=match uz P t with
 |some e=>ko P e
 |none=>none
def nZ(P:Program):List Field->ag->ag->Option Bool
 | [],_,_=>some true
 |f::fs,xs,ys=>match decide (f.name= "_")with
  |true=>none
  |false=>match P.underlying f.type,oh P f.type xs f.offset,oh P f.type ys f.offset with
   |some (.int _),some (.int k a),some (.int k' b)=>match decide (k=k')with
    |true=>match nZ P fs xs ys with
     |some r=>some ((a==b)&&r)
     |none=>none
    |false=>none
   |_,_,_=>none
theorem tj{P:Program}{d:Nat}:∀{fs:List Field} {xs ys:ag} {r:Bool},nZ P fs xs ys=some r->eqFields P (fun u a b=>Ej P (d+1) u a b) fs xs ys=some r
 | [],_,_,r,e=>by simpa only[nZ,eqFields]using e
 |f::fs,xs,ys,r,e=>by
  simp only[nZ]at e;split at e
  . cases e
  . rename_i hn;have hn:=bq hn;split at e
    . rename_i k0 k a k' b h1 C h3;split at e
      . rename_i U;have U:=aX U;subst U;split at e
        . rename_i r' hr;obtain rfl:=eU e;have ih:=tj (d:=d) hr;simp only[eqFields,aD hn,C,h3];have:Ej P (d+1) f.type (.int k a) (.int k b)=some (a==b):=by simp only[Ej,h1,if_true]
          rw[this];cases hab:a==b with
          |true=>simp only[aP];exact ih
          |false=>simp only[aQ]
        . cases e
      . cases e
    . cases e
def Pv(P:Program)(e:TypeId):V->V->Option Bool
 | .agg xs,.agg ys=>match P.underlying e with
   |some (.struct lT)=>match P.stoodInHeld e with
    |true=>none
    |false=>nZ P lT.toList xs ys
   |_=>none
 |_,_=>none
def rY(P:Program)(e:TypeId)(c:Nat)(xs ys:ag):List Nat->Option Bool
 | []=>some true
 |i::is=>match oh P e xs (i*c),oh P e ys (i*c)with
  |some a,some b=>match Pv P e a b,rY P e c xs ys is with
   |some q,some r=>some (q&&r)
   |_,_=>none
  |_,_=>none
theorem Pw{P:Program}{d:Nat}{e:TypeId}{x y:V}{r:Bool}(h:Pv P e x y=some r):Ej P (d+1+1) e x y=some r:=by
 unfold Pv at h;split at h
 . split at h
   . rename_i lT hu;split at h
     . cases h
     . rename_i hs;simp only[Ej,hu,hs,aM,cA];exact tj (d:=d) h
   . cases h
 . cases h
theorem AJ{P:Program}{d c:Nat}{e:TypeId}{xs ys:ag}:∀{is:List Nat} {r:Bool},rY P e c xs ys is=some r->om P (Ej P (d+1+1) e) e c xs ys is=some r
 | [],r,h=>by simpa only[rY,om]using h
 |i::is,r,h=>by
  simp only[rY]at h;split at h
  . rename_i a b h1 C;split at h
    . rename_i q r' h3 h4;obtain rfl:=eU h;simp only[om,h1,C,Pw (d:=d) h3];cases q with
      |true=>simp only[aP];exact AJ h4
      |false=>simp only[aQ]
    . cases h
  . cases h
def LI(P:Program)(t:TypeId)(xs ys:ag):Option Bool:=
 match P.eqGuardType P.depth t with
 |true=>none
 |false=>match P.underlying t with
  |some (.struct lT)=>match P.stoodInHeld t with
   |true=>none
   |false=>nZ P lT.toList xs ys
  |some (.array n e)=>match(P.info? e).isSome with
   |true=>rY P e (P.cellsOf e) xs ys (List.range n)
   |false=>none
  |_=>none
section
variable{P:Program}(h:I es){t:TypeId}
theorem Ti{d:Nat}{t:TypeId}{lT:Array Field}{xs ys:ag}{r:Bool}(hu:P.underlying t=some (.struct lT))(hs:P.stoodInHeld t=false)(e:nZ P lT.toList xs ys=some r):Ej P (d+1+1) t (.agg xs) (.agg ys)=some r:=by
 simp only[Ej,hu,hs,aM,cA];exact tj (d:=d) e
theorem Tj{d m:Nat}{t el:TypeId}{xs ys:ag}{r:Bool}(hu:P.underlying t=some (.array m el))(hi:(P.info? el).isSome=true)(e:rY P el (P.cellsOf el) xs ys (List.range m)=some r):Ej P (d+1+1+1) t (.agg xs) (.agg ys)=some r:=by
 simp only[Ej,hu,hi];exact AJ (d:=d) e
theorem Ip{x y:Operand}{xs ys:ag}{r:Bool}(e:LI P t xs ys=some r):DP P t x y (.agg xs) (.agg ys)=some r:=by
 unfold LI at e;split at e
 . cases e
 . rename_i hg;split at e
   . rename_i lT hu;split at e
     . cases e
     . rename_i hs;simp only[DP,hg,aM,cA];exact Ti (d:=9998) hu hs e
   . rename_i n el hu;split at e
     . rename_i hi;simp only[DP,hg,aM,cA];exact Tj (d:=9997) hu hi e
     . cases e
   . cases e
def pxT(P:Program)(t:TypeId):Option (Nat×TypeId×Nat):=match P.underlying t with
 |some (.array len e)=>match Hi P e,ko P e with
  |some true,some s=>some (len,e,s)
  |_,_=>none
 |_=>none
theorem Xv{e:TypeId}{len s:Nat}(h:pxT P t=some (len,e,s)):P.underlying t=some (.array len e)/\Hi P e=some true/\ko P e=some s:=by
 unfold pxT at h;split at h
 . rename_i hu;split at h
   . rename_i h1 C;simp only[aq,aB]at h;obtain⟨rfl,rfl,rfl⟩:=h;exact⟨hu,h1,C⟩
   . cases h
 . cases h
def kF(P:Program)(o:Oper)(T:I V)(h:I es)(n:Nat):Option (ah×s'):=match eA P o T h n with
 |some r=>some ([],r)
 |none=>none
def Px:V->Bool
 | .eZ (some (m,_)) _ _ _=>match h.get m with
   |some (.ints _ _)=>true
   |some (.own _ _)=>true
   |some (.deep _)=>true
   |some (.vM _ _ _)=>true
   |_=>false
 | .eE _ _ _=>true
 | .str _=>true
 |_=>false
def FO(size:Nat)(x:V):Option (ah×Nat×Row):=
 match x with
 | .eE _ len cs=>some ([cs.length=len*size],len,.ds cs)
 |x=>match Px h x with
 |true=>match x with
  | .eZ (some (m,o)) len _ kY=>match Nat.beq kY size,(h.get m).bind es.MK with
    |true,some (.is k ks)=>some ([0<len,o+len*size<=ks.length],len,.is k ((ks.drop o).take (len*size)))
    |true,some (.ds cs)=>some ([0<len,o+len*size<=cs.length],len,.ds ((cs.drop o).take (len*size)))
    |_,_=>none
  | .str s=>match Nat.beq size 1 with
    |true=>some ([],s.length,.is .u8 (pL s))
    |false=>none
  |_=>none
 |false=>match jE h size x with
  |some (k,r)=>some ([],k,r)
  |none=>none
theorem tn{h:I es}{size k:Nat}{x:V}{fm:ah}{r:Row}(e:FO h size x=some (fm,k,r))(hA:∀a∈fm,a):jE h size x=some (k,r):=by
 unfold FO at e;split at e
 . simp only[aq,aB]at e;obtain⟨rfl,rfl,rfl⟩:=e;have h1:=hA _ (aG.2 rfl);simp only[jE,aD h1]
 split at e
 . split at e
   . rename_i m o len cp kY _ _;split at e
     . rename_i k' ks Y hr;simp only[aq,aB]at e;obtain⟨rfl,rfl,rfl⟩:=e;have h1:0<len:=hA _ (by simp);have C:o+len*size<=ks.length:=hA _ (by simp);have Y:=aJ Y;cases K:h.get m with
       |none=>rw[K]at hr;cases hr
       |some ob=>
        rw[K]at hr;have hr:ob.MK=some (.is k' ks):=hr;cases len with
        |zero=>omega
        |succ len=>simp only[jE,Y,if_true,K,hr,Row.cut,aD C]
     . rename_i cs Y hr;simp only[aq,aB]at e;obtain⟨rfl,rfl,rfl⟩:=e;have h1:0<len:=hA _ (by simp);have C:o+len*size<=cs.length:=hA _ (by simp);have Y:=aJ Y;cases K:h.get m with
       |none=>rw[K]at hr;cases hr
       |some ob=>
        rw[K]at hr;have hr:ob.MK=some (.ds cs):=hr;cases len with
        |zero=>omega
        |succ len=>simp only[jE,Y,if_true,K,hr,Row.cut,aD C]
     . cases e
   . split at e
     . rename_i Y;simp only[aq,aB]at e;obtain⟨rfl,rfl,rfl⟩:=e;simp only[jE,aD (aJ Y)]
     . cases e
   . cases e
 . split at e
   . rename_i k' r' h1;simp only[aq,aB]at e;obtain⟨rfl,rfl,rfl⟩:=e;exact h1
   . cases e
def zG(len size o:Nat):Row->Option (ah×Row)
 | .is k ks=>some ([0<len,o+len*size<=ks.length],.is k ((ks.drop o).take (len*size)))
 | .ds cs=>some ([o+len*size<=cs.length],.ds ((cs.drop o).take (len*size)))
 | .vs cs=>match len with
   |0=>some ([],.vs [])
   |_=>match(Row.vs cs).cut o (len*size)with
    |some r=>some ([],r)
    |none=>none
theorem Nc{len size o:Nat}{r old:Row}{fm:ah}(e:zG len size o r=some (fm,old))(hA:∀a∈fm,a):(if r.soft=false/\len=0 then some (.vs [])else r.cut o (len*size):Option Row)=some old:=by
 cases r with
 |is k ks=>
  simp only[zG,aq,aB]at e;obtain⟨rfl,rfl⟩:=e;have h1:0<len:=hA _ (by simp);have C:o+len*size<=ks.length:=hA _ (by simp);rw[aA S];simp only[Row.cut,aD C]
 |ds cs=>
  simp only[zG,aq,aB]at e;obtain⟨rfl,rfl⟩:=e;have C:o+len*size<=cs.length:=hA _ (by simp);rw[aA (fun q=>by have:=q.1;cases this)];simp only[Row.cut,aD C]
 |vs cs=>
  cases len with
  |zero=>
   simp only[zG,aq,aB]at e;obtain⟨rfl,rfl⟩:=e;rfl
  |succ len=>
   simp only[zG]at e;split at e
   . rename_i r' h1;obtain⟨rfl,rfl⟩:=gl e;rw[aA S];exact h1
   . cases e
def FP(i:TypeInfo)(z:V):Bool:=decide (0<i.size)&&(decide (0<i.bytes)&&decide (z.cells.length=i.size))
def Py(m:Nat):Option (TypeId×Bool×aa):=match h.get m with
 |some (.vM e f s)=>some (e,f,s)
 |_=>none
def zH(P:Program)(eP:Array TypeId)(args:ag)(h:I es)(n:Nat):Option (ah×s'):=
 match eP[0]?,eP[1]?,args with
 |some st,some xt,[s,x]=>match uz P st,P.underlying xt with
  |some e,some xd=>match JC xd,P.info? e,zeroOf P e with
   |true,some i,some z=>match FP i z,FO h i.size x with
    |true,some (fm,k,new)=>match new.flat with
     |true=>match s with
      | .eZ none 0 _ _=>match newObj h n (BZ e x new)with
        |some (h',n')=>some (fm++[0<k,fJ k i.size i.bytes=true],.val (.eZ (some (n,0)) k k i.size) h' n')
        |none=>none
      | .eE true len cs=>match newObj h n ((Row.ds cs).app new).Ei with
        |some (h',n')=>some (fm++[0<k,fJ (len+k) i.size i.bytes=true,cs.length=len*i.size],.val (.eZ (some (n,0)) (len+k) (len+k) i.size) h' n')
        |none=>none
      | .eZ (some (m,o)) len cp kY=>match Py h m with
        |some (el,An,s0)=>match Nat.beq kY i.size&&(Nat.blt m gy&&(Nat.beq o 0&&(Nat.beq i.size 1&&decide (el=e)))),uE new with
         |true,some t=>match newObj (h.set m none) n (.vM el An (s0++t))with
          |some (h',n')=>some (fm++[0<cp,len=s0.length,fJ (len+k) i.size i.bytes=true],.val (.eZ (some (n,0)) (len+k) (len+k) kY) h' n')
          |none=>none
         |_,_=>none
        |none=>match Nat.beq kY i.size&&Nat.blt m gy,(h.get m).bind es.row with
        |true,some r=>match zG len i.size o r with
         |some (aj,old)=>match newObj (h.set m none) n (old.app new).Ei with
          |some (h',n')=>match new.soft with
           |true=>some (fm++(aj++[fJ (len+k) i.size i.bytes=true]),.val (.eZ (some (n,0)) (len+k) (len+k) kY) h' n')
           |false=>some (fm++(aj++[0<k,fJ (len+k) i.size i.bytes=true]),.val (.eZ (some (n,0)) (len+k) (len+k) kY) h' n')
          |none=>none
         |none=>none
        |_,_=>none
      |_=>none
     |false=>none
    |_,_=>none
   |_,_,_=>none
  |_,_=>none
 |_,_,_=>none
theorem FQ{eP:Array TypeId}{args:ag}{h:I es}{n:Nat}{fm:ah}{r:s'}(e:zH P eP args h n=some (fm,r))(hA:∀a∈fm,a):xK P eP args h n=some r:=by
 unfold zH at e;split at e
 . rename_i st xt s x h1 C;split at e
   . rename_i el xd h3 h4;split at e
     . rename_i i z h5 h6 h7;split at e
       . rename_i A1 k new h8 h9;simp only[FP,ay,aS]at h8;split at e
         . rename_i hfl;unfold xK;simp only[h1,C,h3,h4,h5,h6,h7];rw[aD h8];split at e
           . cases ho:newObj h n (BZ el x new)with
             |none=>rw[ho]at e;cases e
             |some p=>
              rw[ho]at e;obtain⟨rfl,rfl⟩:=gl e;have ht:=tn h9 fun a ha=>hA a (by simp[ha]);have U:0<k:=hA _ (by simp);have hr:fJ k i.size i.bytes=true:=hA _ (by simp);rw[ht];simp only[hfl,if_true];cases k with
              |zero=>omega
              |succ k=>simp only[aD hr,ho]
           . rename_i len cs;cases ho:newObj h n ((Row.ds cs).app new).Ei with
             |none=>rw[ho]at e;cases e
             |some p=>
              rw[ho]at e;obtain⟨rfl,rfl⟩:=gl e;have ht:=tn h9 fun a ha=>hA a (by simp[ha]);have U:0<k:=hA _ (by simp);have hr:fJ (len+k) i.size i.bytes=true:=hA _ (by simp);have N:cs.length=len*i.size:=hA _ (by simp);rw[ht];simp only[hfl,if_true];cases k with
              |zero=>omega
              |succ k=>simp only[aD (And.intro hr N),ho]
           . rename_i m o len cp kY;split at e
             . rename_i el0 An s0 JO;have K:h.get m=some (.vM el0 An s0):=by
                unfold Py at JO;split at JO
                . rename_i hq;cases JO;exact hq
                . cases JO
               split at e
               case h_2=>cases e
               rename_i t Y ht;simp only[ay]at Y;cases ho:newObj (h.set m none) n (.vM el0 An (s0++t))with
               |none=>rw[ho]at e;cases e
               |some p=>
                rw[ho]at e;obtain⟨rfl,rfl⟩:=gl e;have htl:=tn h9 fun a ha=>hA a (by simp[ha]);have q1:0<cp:=hA _ (by simp);have q2:len=s0.length:=hA _ (by simp);have q3:fJ (len+k) i.size i.bytes=true:=hA _ (by simp);rw[htl];simp only[hfl,if_true];rw[aD ⟨aJ Y.1,q3,aE Y.2.1⟩];simp only[K,ht];rw[aD ⟨⟨aJ Y.2.2.1,q1⟩,⟨Nat.le_of_eq q2,fun _=>q2⟩,aJ Y.2.2.2.1,aX Y.2.2.2.2⟩];simp only[q2,bn];rw[<- q2];simp only[ho]
             rename_i hnb;split at e
             . rename_i r0 Y Cj;split at e
               . rename_i aj old pW;cases ho:newObj (h.set m none) n (old.app new).Ei with
                 |none=>rw[ho]at e;cases e
                 |some p=>
                  rw[ho]at e;simp only at e;have VV:(∀a∈A1,a)->(∀a∈aj,a)->(new.soft=false->0<k)->fJ (len+k) i.size i.bytes=true->s'.val (.eZ (some (n,0)) (len+k) (len+k) kY) p.1 p.2=r->
                   (match jE h i.size x with
                    |some (k,new)=>
                     if new.flat=true then
                      if kY=i.size/\fJ (len+k) i.size i.bytes=true/\m<gy then
                       match h.get m with
                       |some (.vM el0 An s0)=>match uE new with
                        |some t=>if(o=0/\0<cp)/\(len<=s0.length/\(An=true->len=s0.length))/\(i.size=1/\el0=el)then(match newObj (h.set m none) n (.vM el0 An (s0.take len++t))with
                         |some (h',n')=>some (.val (.eZ (some (n,0)) (len+k) (len+k) kY) h' n')
                         |none=>none)else none
                        |none=>none
                       |some ob=>match ob.row with
                        |some r=>
                         match(if r.soft=false/\len=0 then some (.vs [])else r.cut o (len*i.size):Option Row)with
                         |some old=>
                          if new.soft=false/\k=0 then some (.val (.eZ (some (m,o)) len cp kY) h n)
                          else match newObj (h.set m none) n (old.app new).Ei with
                           |some (h',n')=>some (.val (.eZ (some (n,0)) (len+k) (len+k) kY) h' n')
                           |none=>none
                         |none=>none
                        |none=>none
                       |_=>none
                      else none
                     else none
                    |none=>none:Option s')=some r:=by
                   intro hA1 hB U hr Iq;subst Iq;have ht:=tn h9 hA1;have acP:=Nc pW hB;simp only[ay]at Y;have Lx:=aJ Y.1;have Oh:m<gy:=aE Y.2;cases K:h.get m with
                   |none=>rw[K]at Cj;cases Cj
                   |some ob=>
                    rw[K]at Cj;have Cj:ob.row=some r0:=Cj;rw[ht];simp only[hfl,if_true];rw[aD ⟨Lx,hr,Oh⟩];have acQ:∀e f s,ob≠ .vM e f s:=fun e f s q=>by subst q;unfold Py at hnb;rw[K]at hnb;cases hnb
                    cases ob<;>first|exact absurd rfl (acQ _ _ _)|skip
                    all_goals
                    simp only[Cj,acP];rw[aA (fun q=>by have:=U q.1;omega)];simp only[ho]
                  split at e
                  . simp only[aq,aB]at e;obtain⟨rfl,Iq⟩:=e;rename_i VW;exact VV (fun a ha=>hA a (by simp[ha])) (fun a ha=>hA a (by simp[ha])) (fun q=>by rw[q]at VW;cases VW) (hA _ (by simp)) Iq
                  . simp only[aq,aB]at e;obtain⟨rfl,Iq⟩:=e;exact VV (fun a ha=>hA a (by simp[ha])) (fun a ha=>hA a (by simp[ha])) (fun _=>hA _ (by simp)) (hA _ (by simp)) Iq
               . cases e
             . cases e
           . cases e
         . cases e
       . cases e
     . cases e
   . cases e
 . cases e
end
section
variable{P:Program}{t:TypeId}{o:Oper}{T:I V}{h:I es}(k:IntKind)(ks:List Int){n:Nat}
def CI(P:Program)(t:TypeId)(h:I es)(v:V)(m o:Nat)(k:IntKind)(ks:List Int):Option (ah×I es):=
 match ko P t,pJ k v.cells with
 |some s,some new=>match Nat.beq v.cells.length s&&(Nat.blt 0 s&&Nat.blt m gy)with
  |true=>some ([o+s<=ks.length],h.set m (some (.own k (A6 ks o new))))
  |false=>none
 |_,_=>none
theorem Ir{h':I es}{v:V}{m o:Nat}{k:IntKind}{ks:List Int}{fm:ah}(K:h.get m=some (.own k ks))(e:CI P t h v m o k ks=some (fm,h'))(hA:∀a∈fm,a):storeAt P t h v (.ptr (some (m,o)))=some h':=by
 unfold CI at e;split at e
 . rename_i s new h1 C;split at e
   . rename_i Y;obtain⟨rfl,rfl⟩:=gl e;simp only[ay]at Y;have h3:=aJ Y.1;have h4:0<s:=aE Y.2.1;have h5:m<gy:=aE Y.2.2;have h6:o+s<=ks.length:=hA _ (by simp);simp only[storeAt,K,h1,C];rw[aD ⟨h3,h4,h5⟩,aD h6]
   . cases e
 . cases e
def mh(off sz:Nat):V:=.agg ((List.range sz).map fun j=>V.int k (ks.getD (off+j) 0))
theorem J9{k:IntKind}{ks:List Int}{off sz:Nat}(ha:Hi P t=some true)(hs:ko P t=some sz)(hl:off+sz<=ks.length):kV P t (ks.map (.int k)) off=some (mh k ks off sz):=by
 simp only[kV,ha,hs,cut,bG,aD hl,bu,mh,aq,V.agg.injEq];apply List.ext_getElem
 . simp;omega
 . intro i h1 C;simp at h1 C;have:off+i<ks.length:=by omega
   simp[List.getD,this]
def Bv(P:Program)(t:TypeId)(k:IntKind)(ks:List Int)(off:Nat):Option (Prop×V):=match Hi P t with
 |some false=>some (off<ks.length,.int k (ks.getD off 0))
 |some true=>match ko P t with
  |some sz=>some (off+sz<=ks.length,mh k ks off sz)
  |none=>none
 |none=>none
theorem CJ{k:IntKind}{ks:List Int}{off:Nat}{p:Prop}{v:V}(e:Bv P t k ks off=some (p,v))(hp:p):kV P t (ks.map (.int k)) off=some v:=by
 unfold Bv at e;split at e
 . rename_i Xw;obtain⟨rfl,rfl⟩:=gl e;simp only[kV,Xw,bC,au hp,bu,ax,cq]
 . rename_i Xw;split at e
   . rename_i sz hs;obtain⟨rfl,rfl⟩:=gl e;exact J9 Xw hs hp
   . cases e
 . cases e
def zI(P:Program)(t:TypeId):Bool:=match P.underlying t with
 |some .string=>true
 |_=>false
theorem vC(h:zI P t=true):P.underlying t=some .string:=by
 unfold zI at h;split at h
 . assumption
 . cases h
def AK(P:Program)(o:Oper)(T:I V)(h:I es)(n:Nat):Option (ah×s'):=
 match o.op with
 | .indexAddr t x i=>match jc T x,jc T i with
   |some (.eZ (some (m,off)) len _ kY),some (.int _ ix)=>match uW P t with
    |some s=>match Nat.beq s kY with
     |true=>some ([0<=ix/\ix<len],.val (.ptr (some (m,off+ix.toNat*s))) h n)
     |false=>none
    |none=>none
   |_,_=>kF P o T h n
 | .load t a=>match jc T a with
   |some (.ptr (some (m,off)))=>match h.get m with
    |some (.ints k ks)=>match Bv P t k ks off with
     |some (p,v)=>some ([p],.val v h n)
     |none=>none
    |some (.own k ks)=>match Bv P t k ks off with
     |some (p,v)=>some ([p],.val v h n)
     |none=>none
    |_=>kF P o T h n
   |_=>kF P o T h n
 | .store t a x=>match jc T a,jc T x with
   |some (.ptr (some (m,off))),some v=>match h.get m with
    |some (.own k ks)=>match CI P t h v m off k ks with
     |some (fm,h')=>some (fm,.val (.gV []) h' n)
     |none=>none
    |_=>kF P o T h n
   |_,_=>kF P o T h n
 | .call c=>match c.callee with
   | .builtin .append=>match uF T c.args.toList with
     |some [s,x]=>match Px h s||Px h x with
      |true=>match Nat.beq c.argTypes.size 2 with
       |true=>zH P c.argTypes [s,x] h n
       |false=>none
      |false=>kF P o T h n
     |_=>kF P o T h n
   |_=>kF P o T h n
 | .slice t x (some lo) (some hi) none=>match jc T x,jc T lo,jc T hi with
   |some (.eZ a len jQ kY),some (.int _ lx),some (.int _ J)=>match uW P t with
    |some s=>match Nat.beq s kY||a.isNone with
     |true=>some ([0<=J/\J<=jQ,0<=lx/\lx<=J.toNat],.val (.eZ (match a with|none=>none|some (b,o)=>some (b,o+lx.toNat*kY)) (J.toNat-lx.toNat) (jQ-lx.toNat) kY) h n)
     |false=>none
    |none=>none
   |some (.str s),some (.int _ lx),some (.int _ J)=>match zI P t with
    |true=>some ([0<=J/\J<=s.length,0<=lx/\lx<=J.toNat],.val (.str ((s.take J.toNat).drop lx.toNat)) h n)
    |false=>none
   |_,_,_=>kF P o T h n
 | .slice t x none (some hi) none=>match jc T x,jc T hi with
   |some (.eZ a len jQ kY),some (.int _ J)=>match uW P t with
    |some s=>match Nat.beq s kY||a.isNone with
     |true=>some ([0<=J/\J<=jQ],.val (.eZ (match a with|none=>none|some (b,o)=>some (b,o+0*kY)) (J.toNat-0) (jQ-0) kY) h n)
     |false=>none
    |none=>none
   |some (.str s),some (.int _ J)=>match zI P t with
    |true=>some ([0<=J/\J<=s.length],.val (.str ((s.take J.toNat).drop 0)) h n)
    |false=>none
   |_,_=>kF P o T h n
 | .slice t x (some lo) none none=>match jc T x,jc T lo with
   |some (.eZ a len jQ kY),some (.int _ lx)=>match uW P t with
    |some s=>match Nat.beq s kY||a.isNone with
     |true=>some ([0<=lx/\lx<=len],.val (.eZ (match a with|none=>none|some (b,o)=>some (b,o+lx.toNat*kY)) (len-lx.toNat) (jQ-lx.toNat) kY) h n)
     |false=>none
    |none=>none
   |some (.str s),some (.int _ lx)=>match zI P t with
    |true=>some ([0<=lx/\lx<=s.length],.val (.str ((s.take s.length).drop lx.toNat)) h n)
    |false=>none
   |_,_=>kF P o T h n
 | .binOp .eql t x y _=>match jc T x,jc T y with
   |some (.agg xs),some (.agg ys)=>match LI P t xs ys with
    |some r=>some ([],.val (.bool r) h n)
    |none=>none
   |_,_=>kF P o T h n
 | .binOp .neq t x y _=>match jc T x,jc T y with
   |some (.agg xs),some (.agg ys)=>match LI P t xs ys with
    |some r=>some ([],.val (.bool (!r)) h n)
    |none=>none
   |_,_=>kF P o T h n
 | .binOp .quo t x y _=>match jc T x,jc T y with
   |some (.int k a),some (.int k' b)=>match decide (k=k')with
    |true=>some ([b≠0],.val (.int k (k.wrap (a.tdiv b))) h n)
    |false=>none
   |_,_=>kF P o T h n
 | .index t x i=>match jc T x,jc T i with
   |some (.str s),some (.int _ ix)=>match zI P t with
    |true=>some ([0<=ix/\ix.toNat<s.length],.val (.int .u8 (s.getD ix.toNat 0).toNat) h n)
    |false=>none
   |some (.agg (.int k0 X::cs)),some (.int _ ix)=>match pxT P t with
    |some (len,_,sz)=>some ([0<=ix/\ix<len,ix.toNat*sz+sz<=(V.int k0 X::cs).length],.val (.agg (List.take sz (List.drop (ix.toNat*sz) (V.int k0 X::cs)))) h n)
    |none=>kF P o T h n
   |_,_=>kF P o T h n
 |_=>kF P o T h n
theorem ir{l:ah}{r:s'}(e:kF P o T h n=some (l,r)):eA P o T h n=some r:=by
 unfold kF at e;split at e
 . rename_i r' hr;simp only[aq,aB]at e;obtain⟨_,rfl⟩:=e;exact hr
 . cases e
theorem pF{s:Nat}(e:uW P t=some s):∃el,P.underlying t=some (.slice el)/\ko P el=some s:=by
 unfold uW uz at e;cases hu:P.underlying t with
 |none=>simp[hu]at e
 |some d=>cases d<;>simp[hu]at e
          exact⟨_,rfl,e⟩
theorem rZ{l:ah}{r:s'}(e:AK P o T h n=some (l,r))(hl:∀p∈l,p):eA P o T h n=some r:=by
 unfold AK at e;split at e
 . rename_i t x i ho;split at e
   . rename_i m off len cp kY k ix J hi;split at e
     . rename_i s hs;split at e
       . rename_i Y;obtain⟨rfl,rfl⟩:=gl e;have Y:=aJ Y;subst Y;obtain⟨el,h1,C⟩:=pF hs;have N:=hl _ (aG.2 rfl);simp only[eA,ho,J,hi,mz,h1,C,kB];rw[aD (by exact⟨N.1,N.2,trivial⟩)]
       . cases e
     . cases e
   . exact ir e
 . rename_i t a ho;split at e
   . rename_i m off ha;split at e
     . rename_i k ks K;split at e
       . rename_i p v hs;obtain⟨rfl,rfl⟩:=gl e;have hp:p:=hl _ (aG.2 rfl);simp only[eA,ho,ha,loadAt,K,CJ hs hp,kB]
       . cases e
     . rename_i k ks K;split at e
       . rename_i p v hs;obtain⟨rfl,rfl⟩:=gl e;have hp:p:=hl _ (aG.2 rfl);simp only[eA,ho,ha,loadAt,K,CJ hs hp,kB]
       . cases e
     . exact ir e
   . exact ir e
 . rename_i t a x ho;split at e
   . rename_i m off v ha J;split at e
     . rename_i k ks K;split at e
       . rename_i fm h' hs;obtain⟨rfl,rfl⟩:=gl e;simp only[eA,ho,ha,J,Ir K hs hl]
       . cases e
     . exact ir e
   . exact ir e
 . rename_i c ho;split at e
   . rename_i N;split at e
     . rename_i s x mG;split at e
       . split at e
         . rename_i Y;have Y:=aJ Y;simp only[eA,ho,v8,mG,N,lA,Y,if_true];exact FQ e hl
         . cases e
       . exact ir e
     . exact ir e
   . exact ir e
 . rename_i t x lo hi ho;split at e
   . rename_i a len cp kY k lx k2 J pE G1 M0;split at e
     . rename_i s hs;split at e
       . rename_i Y;obtain⟨rfl,rfl⟩:=gl e;obtain⟨el,h1,C⟩:=pF hs;have N:=hl _ (bw ..);have Xx:=hl _ (aZ _ (aG.2 rfl));have DH:s=kY\/a=none:=by
          simp only[cg,Option.isNone_iff_eq_none]at Y;exact Y.imp aJ _root_.id
         simp only[eA,ho,pE,G1,M0,mA,my,h1,C,kB,Option.isSome_none,aM,false_and,cA];rw[aD DH];simp only[fh,aD N,aD Xx];cases a<;>rfl
       . cases e
     . cases e
   . rename_i s k lx k2 J pE G1 M0;split at e
     . rename_i hs;obtain⟨rfl,rfl⟩:=gl e;have N:=hl _ (bw ..);have Xx:=hl _ (aZ _ (aG.2 rfl));simp only[eA,ho,pE,G1,M0,mA,my,vC hs,kB,Option.isSome_none,aM,false_and,cA,fh,aD N,aD Xx]
     . cases e
   . exact ir e
 . rename_i t x hi ho;split at e
   . rename_i a len cp kY k J pE M0;split at e
     . rename_i s hs;split at e
       . rename_i Y;obtain⟨rfl,rfl⟩:=gl e;obtain⟨el,h1,C⟩:=pF hs;have N:=hl _ (aG.2 rfl);have DH:s=kY\/a=none:=by
          simp only[cg,Option.isNone_iff_eq_none]at Y;exact Y.imp aJ _root_.id
         simp only[eA,ho,pE,M0,mA,my,h1,C,kB,Option.isSome_none,aM,false_and,cA];rw[aD DH];simp only[fh,aD N];cases a<;>rfl
       . cases e
     . cases e
   . rename_i s k J pE M0;split at e
     . rename_i hs;obtain⟨rfl,rfl⟩:=gl e;have N:=hl _ (aG.2 rfl);simp only[eA,ho,pE,M0,mA,my,vC hs,kB,Option.isSome_none,aM,false_and,cA,fh,aD N]
     . cases e
   . exact ir e
 . rename_i t x lo ho;split at e
   . rename_i a len cp kY k lx pE M0;split at e
     . rename_i s hs;split at e
       . rename_i Y;obtain⟨rfl,rfl⟩:=gl e;obtain⟨el,h1,C⟩:=pF hs;have N:=hl _ (aG.2 rfl);have DH:s=kY\/a=none:=by
          simp only[cg,Option.isNone_iff_eq_none]at Y;exact Y.imp aJ _root_.id
         simp only[eA,ho,pE,M0,mA,my,h1,C,kB,Option.isSome_none,aM,false_and,cA];rw[aD DH];simp only[fh,aD N];cases a<;>rfl
       . cases e
     . cases e
   . rename_i s k lx pE M0;split at e
     . rename_i hs;obtain⟨rfl,rfl⟩:=gl e;have N:=hl _ (aG.2 rfl);simp only[eA,ho,pE,M0,mA,my,vC hs,kB,Option.isSome_none,aM,false_and,cA,fh,aD N]
     . cases e
   . exact ir e
 . rename_i t x y yt ho;split at e
   . rename_i xs ys J hy;split at e
     . rename_i r hr;obtain⟨rfl,rfl⟩:=gl e;simp only[eA,ho,J,hy,BV,Ip hr,bu,kB]
     . cases e
   . exact ir e
 . rename_i t x y yt ho;split at e
   . rename_i xs ys J hy;split at e
     . rename_i r hr;obtain⟨rfl,rfl⟩:=gl e;simp only[eA,ho,J,hy,BV,Ip hr,bu,kB]
     . cases e
   . exact ir e
 . rename_i t x y yt ho;split at e
   . rename_i k a k' b J hy;split at e
     . rename_i U;have U:=aX U;subst U;obtain⟨rfl,rfl⟩:=gl e;have Y:b≠0:=hl _ (aG.2 rfl);have:BV P .quo t x y (.int k a) (.int k b)=some (.int k (k.wrap (a.tdiv b))):=by
        simp[BV,binOp,Op.intDiv,Y,sO,jb];rfl
       simp only[eA,ho,J,hy,this,kB]
     . cases e
   . exact ir e
 . rename_i t x i ho;split at e
   . rename_i s k ix J hi;split at e
     . rename_i hs;obtain⟨rfl,rfl⟩:=gl e;have N:0<=ix/\ix.toNat<s.length:=hl _ (aG.2 rfl);have hg:s[ix.toNat]? =some s[ix.toNat]:=au N.2;have hd:s.getD ix.toNat 0=s[ix.toNat]:=by rw[ax,hg];rfl
       simp only[eA,ho,J,hi,BX,vC hs,aD N.1,hg,hd,kB]
     . cases e
   . rename_i k0 m0 cs k ix J hi;split at e
     . rename_i len el sz hs;obtain⟨rfl,rfl⟩:=gl e;have N:0<=ix/\ix<len:=hl _ (by simp);have hd:ix.toNat*sz+sz<=(V.int k0 m0::cs).length:=hl (ix.toNat*sz+sz<=(V.int k0 m0::cs).length) (by simp);obtain⟨q1,q2,q3⟩:=Xv hs;simp only[eA,ho,J,hi,BX,q1,q3,aD N,oh,kV,q2,cut,aD hd,bu,kB]
     . exact ir e
   . exact ir e
 . exact ir e
end
inductive mj where
 |split
 |dG (v:V)
def VX:List (Nat×mj)->Nat->Option mj
 | [],_=>none
 |x::r,d=>match Nat.beq x.1 d with
  |true=>some x.2
  |false=>VX r d
section
variable(dz:List (Nat×mj))(dst:Option Nat)
def Ka(v:V):dN V:=
 match dst with
 |none=>.ret v
 |some d=>match VX dz d with
  |none=>.ret v
  |some (.dG u)=>some [(⟨[],[],[v=u]⟩,u)]
  |some .split=>match v with
   | .bool c=>some [(⟨[(c,true)],[],[]⟩,.bool true),(⟨[(c,false)],[],[]⟩,.bool false)]
   |v=>.ret v
theorem qh(v:V):fO (Ka dz dst v) (some v):=by
 unfold Ka;split
 . exact .ret v
 . split
   . exact .ret v
   . rename_i u hu;intro l h;obtain rfl:=eU h;refine⟨⟨_,aG.2 rfl,fun c N=>by simp at N⟩,fun e he _ hg=>?_⟩;simp only[aG]at he;subst he;have:v=u:=hg.2 _ (aG.2 rfl);rw[this]
   . split
     . rename_i c;intro l h;obtain rfl:=eU h;refine⟨?_,fun e he ho _=>?_⟩
       . cases N:c with
         |true=>exact⟨(⟨[(true,true)],[],[]⟩,.bool true),by simp,fun x J=>by simp only[aG]at J;subst J;rfl⟩
         |false=>exact⟨(⟨[(false,false)],[],[]⟩,.bool false),by simp,fun x J=>by simp only[aG]at J;subst J;rfl⟩
       . simp only[az,aF,bh]at he;rcases he with rfl|rfl
         . have:c=true:=ho (c,true) (aG.2 rfl);rw[this]
         . have:c=false:=ho (c,false) (aG.2 rfl);rw[this]
     . exact .ret _
end
abbrev Ctr:=FuncId->ag->I es->Option (ah×V)
def pg:Option (qw×I es×Nat)->Option (V×I es×Nat)
 |some (.ret v,h,n)=>some (v,h,n)
 |_=>none
theorem qi{α:Type}{m:dN α}{r r':Option α}(h:fO m r)(e:∀a,r=some a->r'=some a):fO m r':=by
 intro l hl;obtain⟨h1,C⟩:=h l hl;exact⟨h1,fun x J ho hg=>e _ (C x J ho hg)⟩
section
variable(P:Program)(dy:Ctr)(cf:gm)(dz:List (Nat×mj))
theorem tq{α β:Type}(a:α)(g:α->Option β):(some a).bind g=g a:=rfl
def Nd{α β:Type}:Option (α ⊕ β)->Option α
 |some (.inl a)=>some a
 |_=>none
def Bw(f:St->dN (n0×St)):Nat->St->dN (n0×St)
 |0,_=>none
 |k+1,s=>(f s).then fun p=>match p.1 with
  | .normal=>Bw f k p.2
  |_=>.ret p
theorem wq{f:St->dN (n0×St)}{g:St->Option (n0×St)}(h:∀s,fO (f s) (g s)):∀(k:Nat) (s:St),fO (Bw f k s) (rounds g k s)
 |0,s=>.none _
 |k+1,s=>by
  simp only[Bw,rounds];refine(fO.then (h s) (g:=fun p=>match p.1 with | .normal=>rounds g k p.2|_=>some p) (fun p=>?_)).of_eq ?_
  . obtain⟨x,R⟩:=p;cases x with
    |normal=>exact wq h k R
    |_=>exact .ret _
  . cases g s with
    |none=>rfl
    |some p=>obtain⟨x,R⟩:=p;cases x<;>rfl
end
section
variable{P:Program}{dy:Ctr}{cf:gm}{dz:List (Nat×mj)}{iX hc:Nat}{w0:World}{c:Code}{s:St}{Q:Exit->St->Prop}
def yh{α:Type}(f:n0×St->α):List (sK×n0×St)->List (List (Bool×Bool)×ah×α)
 | []=>[]
 |(p,x)::r=>(p.conds,p.Om,f x)::yh f r
def tr{α:Type}:List (sK×α)->ag
 | []=>[]
 |(p,_)::r=>p.same.map (·.1)++tr r
def w8{α:Type}:List (sK×α)->ag
 | []=>[]
 |(p,_)::r=>p.same.map (·.2)++w8 r
def wu{α:Type}:dN α->List (sK×α)
 |some l=>l
 |none=>[]
theorem Is:∀{l:List (V×V)},l.map (·.1)=l.map (·.2)->∀c∈l,c.1=c.2
 | [],_,c,N=>by simp at N
 |x::r,h,c,N=>by
  simp only[bQ,List.cons.injEq]at h;rcases az.1 N with rfl|N
  . exact h.1
  . exact Is h.2 c N
theorem tu{α:Type}:∀(l:List (sK×α)),tr l=w8 l->∀p∈l,∀c∈p.1.same,c.1=c.2
 | [],_,p,hp=>by simp at hp
 |(q,x)::r,h,p,hp=>by
  simp only[tr,w8]at h;have hl:(q.same.map (·.1)).length=(q.same.map (·.2)).length:=by simp
  obtain⟨h1,C⟩:=List.append_inj h hl;rcases az.1 hp with rfl|hp
  . exact Is h1
  . exact tu r C p hp
theorem n5{α:Type}{f:n0×St->α}:∀{l:List (sK×n0×St)} {p:sK×n0×St},p∈l->(p.1.conds,p.1.Om,f p.2)∈yh f l
 | [],p,hp=>by simp at hp
 |(q,x)::r,p,hp=>by
  rcases az.1 hp with rfl|hp
  . simp[yh]
  . simp only[yh,az];exact .inr (n5 hp)
end
theorem uX{E:Env}{h:I es}{n:Nat}{w:World}{v:V}(g:Good E h w)(hd:qy E n)(hv:v.free=true){e:Ending}{w':World}(ho:∃E',wS E' (.ret v) e)(b:Below w.heap.size w w'):jj E h n w (.ret v) h n e w':=by
 refine⟨E,.below g b,fun _ _=>rfl,hd,aK _,?_⟩
 . obtain⟨E1,ho⟩:=ho;cases e with
   |returned v'=>exact uS _ _ hv ho
   |_=>exact ho.elim
def dB(args:ag)(h:I es)(n:Nat):St:={ T:=kZ args 0 .nil,h:=h,n:=n,iE:=[] }
section
variable{P:Program}{dy:Ctr}{cf:gm}{dz:List (Nat×mj)}{iX:Nat}{f:FuncId}{fn:Func}{code:Code}
end
section
variable{P:Program}{dy:Ctr}{cf:gm}{dz:List (Nat×mj)}{iX hc:Nat}{w0:World}{c:Code}{s:St}{Q:Exit->St->Prop}
def ajs(P:Program)(cf:gm)(iX:Nat)(fn:Func)(v:V)(y:Exit)(R:St):Prop:=(y= .normal\/y= .ret)/\∃h' n',k8 P cf iX fn R.T R.iE .ret R.h R.n=some (.ret v,h',n')
inductive Res where
 |next (s:St)
 |exit (id:Nat) (s:St)
 |ret (v:V)
 |bad
def Res.post(P:Program)(cf:gm)(iX:Nat)(fn:Func)(live:List Nat)(Tr:Nat->St->Prop)(k:Nat)(Q:Exit->St->Prop):Res->Prop
 | .next s=>∃k',k'<k/\Tr k' s
 | .exit id s=>∀R,norm live R=some s->Q (.exit id) R
 | .ret v=>∀R,ajs P cf iX fn v .ret R->Q .ret R
 | .bad=>False
end
section
variable{P:Program}{dy:Ctr}{cf:gm}{iX hc:Nat}{w0:World}{c:Code}{s:St}{Q:Exit->St->Prop}
theorem Nf{iX:Fence}{n:Nat}{o:Oper}{a:Act}{w:World}{hm K':Act->World->Prop}{Q Q':Exit->Act->World->Prop}(U:∀a w,hm a w->K' a w)(hq:∀y a w,y≠ .normal->Q y a w->Q' y a w)(h:o.wpIn iX n P a w hm Q):o.wpIn iX n P a w K' Q':=by
 have acR:LetsOut Q->LetsOut Q':=fun⟨a,w,q⟩=>⟨a,w,hq _ a w (by simp) q⟩;unfold Oper.wpIn at *;refine⟨h.1,?_⟩;have hh:=h.2;generalize (o.semAt iX.round a.eval).run P w=r at *;cases r with
 |ok x w'=>
  cases x<;>simp only[Oper.uponIn]at hh⊢ <;>
   first
    |exact U _ _ hh
    |exact⟨hh.1,CallsIn.mono hh.2 (fun e w'' he=>by cases e<;>first|exact U _ _ he|exact hq _ _ _ (by simp) he|exact acR he)⟩
    |exact⟨hh.1,RowsIn.mono hh.2 (fun _ _ he=>U _ _ he)⟩
    |exact⟨hh.1,RoundIn.mono hh.2 (fun e w'' he=>by cases e<;>first|exact U _ _ he|exact hq _ _ _ (by simp) he|exact acR he)⟩
    |exact hh
 |halt x w'=>cases x<;>simp only[Oper.uponIn]at hh⊢<;>first|exact hq _ _ _ (by simp) hh|exact hh
end
abbrev lS:=FuncId->ag->I es->Nat->dN (V×I es×Nat)
def tv(cs:lS)(cf:gm):Prop:=∀f args h n,fO (cs f args h n) (pg (cf f args h n))
section
variable(P:Program)(o:Oper)(T:I V)(h:I es)(n:Nat)
def kW:Option (ah×s'):=
 match o.op with
 | .binOp .add t x y _=>match jc T x,jc T y with
   |some (.str a),some (.str b)=>some ([a.length+b.length<=wD],.val (.str (a++b)) h n)
   |_,_=>AK P o T h n
 | .binOp .rem t x (.tmp y) _=>match jc T x,T.get y with
   |some (.int k a),some (.int k' b)=>match decide (k=k')with
    |true=>some ([b≠0],.val (.int k (a.tmod b)) h n)
    |false=>none
   |_,_=>AK P o T h n
 | .indexAddr t x (.tmp i)=>match jc T x,T.get i with
   |some (.ptr (some (m,off))),some (.int _ ix)=>match P.underlying t with
    |some (.array len e)=>match ko P e with
     |some s=>some ([0<=ix/\ix<len],.val (.ptr (some (m,off+ix.toNat*s))) h n)
     |none=>none
    |_=>AK P o T h n
   |_,_=>AK P o T h n
 | .makeSlice t (.tmp l) (.tmp c)=>match uz P t,T.get l,T.get c with
   |some e,some (.int _ lv),some (.int _ cv)=>match P.info? e,zeroOf P e with
    |some i,some z=>match FP i z,newObj h n (vm z.cells (IntKind.i64.wrap cv).toNat).Ei with
     |true,some (h',n')=>some ([0<=IntKind.i64.wrap lv/\IntKind.i64.wrap lv<=IntKind.i64.wrap cv/\i.bytes*IntKind.i64.wrap cv<=281474976710656],.val (.eZ (some (n,0)) (IntKind.i64.wrap lv).toNat (IntKind.i64.wrap cv).toNat i.size) h' n')
     |_,_=>none
    |_,_=>none
   |_,_,_=>AK P o T h n
 |_=>AK P o T h n
theorem iD{P:Program}{o:Oper}{T:I V}{h:I es}{n:Nat}{l:ah}{r:s'}(e:kW P o T h n=some (l,r))(hl:∀p∈l,p):eA P o T h n=some r:=by
 unfold kW at e;split at e
 . rename_i t x y u ho;split at e
   . rename_i a b ha Y;obtain⟨rfl,rfl⟩:=gl e;have jl:=hl _ (aG.2 rfl);unfold eA;rw[ho];simp only[ha,Y];unfold BV OB;simp only[aD jl,kB]
   . exact rZ e hl
 . rename_i t x y yt ho;split at e
   . rename_i k a k' b J hy;split at e
     . rename_i U;have U:=aX U;subst U;obtain⟨rfl,rfl⟩:=gl e;have Y:b≠0:=hl _ (aG.2 rfl);have hy':jc T (.tmp y)=some (.int k b):=hy;have:BV P .rem t x (.tmp y) (.int k a) (.int k b)=some (.int k (a.tmod b)):=by
        simp[BV,binOp,Op.intDiv,Y,sO,jb];rfl
       simp only[eA,ho,J,hy',this,kB]
     . cases e
   . exact rZ e hl
 . rename_i t x i ho;split at e
   . rename_i m off k ix J hi;split at e
     . rename_i len el hu;split at e
       . rename_i sz hs;obtain⟨rfl,rfl⟩:=gl e;have FR:=hl _ (aG.2 rfl);have jI:jc T (.tmp i)=some (.int k ix):=hi;unfold eA;rw[ho];simp only[J,jI];unfold mz;simp only[hu,hs,aD FR,kB]
       . cases e
     . exact rZ e hl
   . exact rZ e hl
 . rename_i t l1 c1 ho;split at e
   . rename_i el k1 lv k2 cv he h1 C;split at e
     . rename_i i z hi hz;split at e
       . rename_i h' n' Y hn;obtain⟨rfl,rfl⟩:=gl e;simp only[FP,ay,aS]at Y;have FR:=hl _ (aG.2 rfl);have oF:jc T (.tmp l1)=some (.int k1 lv):=h1;have DE:jc T (.tmp c1)=some (.int k2 cv):=C;unfold eA;rw[ho];simp only[oF,DE];unfold nH;simp only[he,hi,hz];rw[aD ⟨Y.1,Y.2.2,FR.1,FR.2.1,FR.2.2⟩];simp only[hn]
       . cases e
     . cases e
   . exact rZ e hl
 . exact rZ e hl
def dO(cs:ai)(o size:Nat):ai:=(cs.drop o).take size
def D.A8:D:=.bool false
def CK(t:TypeId)(cs:ai)(off:Nat):Option (Prop×V):=match Hi P t with
 |some false=>some (off<cs.length,(cs.getD off D.A8).kH)
 |some true=>match ko P t with
  |some sz=>some (off+sz<=cs.length,.agg (D.fU (dO cs off sz)))
  |none=>none
 |none=>none
theorem It{P:Program}{t:TypeId}{cs:ai}{off:Nat}{p:Prop}{v:V}(e:CK P t cs off=some (p,v))(hp:p):kV P t (D.fU cs) off=some v:=by
 unfold CK at e;split at e
 . rename_i Xw;obtain⟨rfl,rfl⟩:=gl e;simp only[kV,Xw,D.gq,bC,au hp,bu,ax,cq]
 . rename_i Xw;split at e
   . rename_i sz hs;obtain⟨rfl,rfl⟩:=gl e;simp only[kV,Xw,hs,cut,D.gq,bG,aD hp,bu,dO,dm,List.map_drop]
   . cases e
 . cases e
def zJ(t:TypeId)(h:I es)(v:V)(m o:Nat)(cs:ai):Option (ah×I es):=
 match ko P t,iJ v.cells with
 |some s,some new=>match Nat.beq v.cells.length s&&(Nat.blt 0 s&&Nat.blt m gy)with
  |true=>some ([o+s<=cs.length],h.set m (some (.deep (nC cs o new))))
  |false=>none
 |_,_=>none
theorem FT{P:Program}{t:TypeId}{h h':I es}{v:V}{m o:Nat}{cs:ai}{fm:ah}(K:h.get m=some (.deep cs))(e:zJ P t h v m o cs=some (fm,h'))(hA:∀a∈fm,a):storeAt P t h v (.ptr (some (m,o)))=some h':=by
 unfold zJ at e;split at e
 . rename_i s new h1 C;split at e
   . rename_i Y;obtain⟨rfl,rfl⟩:=gl e;simp only[ay]at Y;have h3:=aJ Y.1;have h4:0<s:=aE Y.2.1;have h5:m<gy:=aE Y.2.2;have h6:o+s<=cs.length:=hA _ (by simp);simp only[storeAt,K,h1,C];rw[aD ⟨h3,h4,h5⟩,aD h6]
   . cases e
 . cases e
def ql(A8:Nat)(y:Nat):Option V->Option (ah×Nat)
 |none=>some ([],A8)
 |some (.int _ i)=>some ([0<=i/\i<=y],i.toNat)
 |some _=>none
theorem oz{A8 y r:Nat}{o:Option V}{fm:ah}(e:ql A8 y o=some (fm,r))(hA:∀a∈fm,a):fh A8 y o=some r:=by
 unfold ql at e;split at e
 . simp only[aq,aB]at e;obtain⟨_,rfl⟩:=e;rfl
 . obtain⟨rfl,rfl⟩:=gl e;simp only[fh,aD (hA _ (aG.2 rfl))]
 . cases e
def zK(s:Nat)(f:Bool)(len:Nat)(cs:ai)(lo hi mx:Option V):Option (ah×V):=
 match mx with
 |none=>match ql len len hi with
  |some (fm,h)=>match ql 0 h lo with
   |some (aj,l)=>some ((cs.length=len*s)::(fm++aj),.eE (f&& !hi.isSome) (h-l) (dO cs (l*s) ((h-l)*s)))
   |none=>none
  |none=>none
 |some mv=>match ql len len (some mv),hi with
  |some (h2,m),some hv=>match ql len m (some hv)with
   |some (fm,h)=>match ql 0 h lo with
    |some (aj,l)=>some ((cs.length=len*s)::(h=m)::(h2++(fm++aj)),.eE true (h-l) (dO cs (l*s) ((h-l)*s)))
    |none=>none
   |none=>none
  |_,_=>none
theorem FU{P:Program}{t el:TypeId}{s len:Nat}{f:Bool}{cs:ai}{lo hi mx:Option V}{h:I es}{fm:ah}{v:V}(hu:P.underlying t=some (.slice el))(hs:ko P el=some s)
  (e:zK s f len cs lo hi mx=some (fm,v)) (hA:∀a∈fm,a):my P t h (.eE f len cs) lo hi mx=some v:=by
 unfold zK at e;split at e
 . split at e
   case h_2=>cases e
   rename_i A1 hh h1;split at e
   case h_2=>cases e
   rename_i B1 l C;obtain⟨rfl,rfl⟩:=gl e;have k1:=oz h1 fun a ha=>hA a (by simp[ha]);have k2:=oz C fun a ha=>hA a (by simp[ha]);have k3:cs.length=len*s:=hA _ (by simp);unfold my;rw[aA (by simp)];simp only[hu,hs,aD k3,k1,k2,dO]
 . split at e
   case h_2=>cases e
   rename_i h2 m hv h0;split at e
   case h_2=>cases e
   rename_i A1 hh h1;split at e
   case h_2=>cases e
   rename_i B1 l C;obtain⟨rfl,rfl⟩:=gl e;have k0:=oz h0 fun a ha=>hA a (by simp[ha]);have k1:=oz h1 fun a ha=>hA a (by simp[ha]);have k2:=oz C fun a ha=>hA a (by simp[ha]);have k3:cs.length=len*s:=hA _ (by simp);have k4:hh=m:=hA _ (by simp);unfold my;rw[aA (by simp)];simp only[hu,hs,aD k3,k0,k1,k2,aD k4,dO]
def Pz(t:TypeId):Bool:=match P.underlying t with
 |some (.slice _)=>true
 |_=>false
def Kb:Option (ah×s'):=
 match o.op with
 | .load t a=>match jc T a with
   |some (.ptr (some (m,off)))=>match h.get m with
    |some (.deep cs)=>match CK P t cs off with
     |some (p,v)=>some ([p],.val v h n)
     |none=>none
    |_=>kW P o T h n
   |_=>kW P o T h n
 | .store t a x=>match jc T a,jc T x with
   |some (.ptr (some (m,off))),some v=>match h.get m with
    |some (.deep cs)=>match zJ P t h v m off cs with
     |some (fm,h')=>some (fm,.val (.gV []) h' n)
     |none=>none
    |_=>kW P o T h n
   |_,_=>kW P o T h n
 | .indexAddr t x i=>match jc T x,jc T i with
   |some (.eE _ len cs),some (.int _ ix)=>match uW P t with
    |some s=>some ([0<=ix/\ix<len,cs.length=len*s],.val (.dS (dO cs (ix.toNat*s) s)) h n)
    |none=>none
   |some (.dS cs),some (.int _ ix)=>match P.underlying t with
    |some (.array len e)=>match ko P e with
     |some s=>some ([0<=ix/\ix<len],.val (.dS (cs.drop (ix.toNat*s))) h n)
     |none=>none
    |_=>kW P o T h n
   |_,_=>kW P o T h n
 | .slice t x lo hi mx=>match jc T x with
   |some (.eE f len cs)=>match uW P t,mA T lo,mA T hi,mA T mx with
    |some s,some lo,some hi,some mx=>match zK s f len cs lo hi mx with
     |some (fm,v)=>some (fm,.val v h n)
     |none=>none
    |_,_,_,_=>none
   |_=>kW P o T h n
 | .convert Lu dst x=>match jc T x with
   |some (.eZ (some (m,off)) len _ kY)=>match uA (h.get m)with
    |some s0=>match P.underlying Lu,P.underlying dst,Nat.beq kY 1 with
     |some (.slice e),some .string,true=>match P.underlying e with
      |some (.int .u8)=>some ([off+len<=s0.length],.val (.str ((s0.drop off).take len)) h n)
      |_=>none
     |_,_,_=>none
    |none=>match Ao (h.get m)with
    |some ks=>match P.underlying Lu,P.underlying dst,Nat.beq kY 1 with
     |some (.slice e),some .string,true=>match P.underlying e with
      |some (.int .u8)=>some ([off+len<=ks.length],.val (.str (nG ((ks.drop off).take len))) h n)
      |_=>none
     |_,_,_=>none
    |none=>kW P o T h n
   |_=>kW P o T h n
 | .call c=>match c.callee,uF T c.args.toList with
   | .builtin .unsafeSliceData,some [.eZ (some (m,off)) _ jQ _]=>some ([0<jQ],.val (.ptr (some (m,off))) h n)
   | .builtin .unsafeString,some [.ptr (some (m,0)),.int .i64 l]=>match c.argTypes[0]? with
     |some pt=>match P.underlying pt,h.get m with
      |some (.pointer e),some (.vM el _ s)=>match decide (el=e)&&(Nat.beq (P.cellsOf e) 1&&(Nat.blt m gy&&Nat.beq c.argTypes.size 2))with
       |true=>some ([l=s.length/\0<s.length,s.length<=wD],.val (.str s) (h.set m (some (.vM el true s))) n)
       |false=>none
      |_,_=>none
     |none=>none
   |_,_=>kW P o T h n
 | .binOp .eql t x y _=>match jc T x,jc T y with
   |some (.eE _ k _),some (.eZ none _ _ _)=>match Pz P t with
    |true=>some ([0<k],.val (.bool false) h n)
    |false=>none
   |_,_=>kW P o T h n
 | .mapEntry t m k=>match jc T m,jc T k with
   |some (.map (some r)),some kv=>match P.underlying t,h.get r with
    |some (.map kt et),some (.oI kk O)=>match P.underlying kt,zeroOf P et,keyOf kv with
     |some kd,some z,some k0=>match V.Jz z,lz kd kk&&(gF kk k0&&Nat.blt r gy)with
      |some z0,true=>some ([fG k0 O=none],.val (.gV [z,.int .i64 O.length]) (h.set r (some (.oI kk (O++[(k0,z0)])))) n)
      |_,_=>none
     |_,_,_=>none
    |_,_=>kW P o T h n
   |_,_=>kW P o T h n
 | .entryStore _ m st v=>match jc T m,jc T st,jc T v with
   |some (.map (some r)),some (.int _ b),some vv=>match h.get r with
    |some (.oI kk O)=>match V.Jz vv,Nat.blt r gy with
     |some v0,true=>some ([0<=b/\b<O.length],.val (.gV []) (h.set r (some (.oI kk (iO O b.toNat fun e=>(e.1,v0))))) n)
     |_,_=>none
    |_=>kW P o T h n
   |_,_,_=>kW P o T h n
 |_=>kW P o T h n
theorem Tk{P:Program}{d:Nat}{t el:TypeId}{f:Bool}{k l c e:Nat}{cs:ai}(hu:P.underlying t=some (.slice el)):Ej P (d+1) t (.eE f (k+1) cs) (.eZ none l c e)=some false:=by
 simp only[Ej,hu]
theorem Ng{P:Program}{o:Oper}{T:I V}{h:I es}{n:Nat}{l:ah}{r:s'}(e:Kb P o T h n=some (l,r))(hl:∀p∈l,p):eA P o T h n=some r:=by
 unfold Kb at e;split at e
 . rename_i t a ho;split at e
   . rename_i m off ha;split at e
     . rename_i cs K;split at e
       . rename_i p v hs;obtain⟨rfl,rfl⟩:=gl e;have hp:p:=hl _ (aG.2 rfl);simp only[eA,ho,ha,loadAt,K,It hs hp,kB]
       . cases e
     . exact iD e hl
   . exact iD e hl
 . rename_i t a x ho;split at e
   . rename_i m off v ha J;split at e
     . rename_i cs K;split at e
       . rename_i fm h' hs;obtain⟨rfl,rfl⟩:=gl e;simp only[eA,ho,ha,J,FT K hs hl]
       . cases e
     . exact iD e hl
   . exact iD e hl
 . rename_i t x i ho;split at e
   . rename_i f len cs k ix J hi;split at e
     . rename_i s hs;obtain⟨rfl,rfl⟩:=gl e;obtain⟨el,h1,C⟩:=pF hs;have k1:=hl _ (bw ..);have k2:=hl _ (aZ _ (aG.2 rfl));simp only[eA,ho,J,hi,mz,h1,C,kB];rw[aD ⟨k1,k2⟩];rfl
     . cases e
   . rename_i cs k ix J hi;split at e
     . rename_i len el h1;split at e
       . rename_i s C;obtain⟨rfl,rfl⟩:=gl e;have k1:=hl _ (aG.2 rfl);simp only[eA,ho,J,hi,mz,h1,C,kB];rw[aD k1]
       . cases e
     . exact iD e hl
   . exact iD e hl
 . rename_i t x lo hi mx ho;split at e
   . rename_i f len cs J;split at e
     . rename_i s lov hiv mxv hs h1 C h3;split at e
       . rename_i fm v hv;obtain⟨rfl,rfl⟩:=gl e;obtain⟨el,k1,k2⟩:=pF hs;simp only[eA,ho,J,h1,C,h3,FU k1 k2 hv hl,kB]
       . cases e
     . cases e
   . exact iD e hl
 . rename_i Lu dst x ho;split at e
   . rename_i m off len cp kY J;split at e
     . rename_i s0 JO;split at e
       . rename_i el h1 C h3;split at e
         . rename_i h4;obtain⟨rfl,rfl⟩:=gl e;have k1:=hl _ (aG.2 rfl);simp only[eA,ho,J,oS,h1,C,h4,aD (aJ h3),JO];rw[aD (Or.inr k1)]
         . cases e
       . cases e
     . rename_i JO;split at e
       . rename_i ks HV;split at e
         . rename_i el h1 C h3;split at e
           . rename_i h4;obtain⟨rfl,rfl⟩:=gl e;have k1:=hl _ (aG.2 rfl);simp only[eA,ho,J,oS,h1,C,h4,aD (aJ h3),JO,HV];rw[aD (Or.inr k1)]
           . cases e
         . cases e
       . exact iD e hl
   . exact iD e hl
 . rename_i c ho;split at e
   . rename_i m off x1 jQ x2 N ha;obtain⟨rfl,rfl⟩:=gl e;have k1:=hl _ (aG.2 rfl);simp only[eA,ho,v8,ha,N,lA,aD k1]
   . rename_i m l N ha;split at e
     . rename_i pt hpt;split at e
       . rename_i e0 el x1 s hp K;split at e
         . rename_i Y;obtain⟨rfl,rfl⟩:=gl e;simp only[ay,aS]at Y;have k1:=hl _ (bw ..);have k2:=hl _ (aZ _ (aG.2 rfl));simp only[eA,ho,v8,ha,N,lA,hpt,hp,K];rw[aD ⟨k1,⟨Y.1,aJ Y.2.1⟩,aE Y.2.2.1,aJ Y.2.2.2,k2⟩]
         . cases e
       . cases e
     . cases e
   . exact iD e hl
 . rename_i t x y _ ho;split at e
   . rename_i f k cs z1 z2 z3 J hy;split at e
     . rename_i hq;obtain⟨rfl,rfl⟩:=gl e;have k1:0<k:=hl _ (aG.2 rfl);obtain⟨k',rfl⟩:∃k',k=k'+1:=⟨k-1,S⟩;unfold Pz at hq;split at hq
       . rename_i el hu;simp only[eA,ho,J,hy,BV,DP,Tk (d:=9999) hu,bu,kB]
       . cases hq
     . cases e
   . exact iD e hl
 . rename_i t m k ho;split at e
   . rename_i r kv K U;split at e
     . rename_i kt et kk O hu hr;split at e
       . rename_i kd z k0 hkd hz OM;split at e
         . rename_i z0 Lw Y;simp only[ay]at Y;obtain⟨rfl,rfl⟩:=gl e;have k1:=hl _ (aG.2 rfl);have eY:r<gy:=aE Y.2.2;simp only[eA,ho,K,U,vo,hu,hr,hkd,hz,OM,Lw,k1];rw[aD (by simp only[ay,aS];exact⟨Y.1,Y.2.1,eY⟩)]
         . cases e
       . cases e
     . exact iD e hl
   . exact iD e hl
 . rename_i x1 m st v ho;split at e
   . rename_i r x2 b vv K hs hv;split at e
     . rename_i kk O hr;split at e
       . rename_i v0 O3 Y;obtain⟨rfl,rfl⟩:=gl e;have k1:=hl _ (aG.2 rfl);have eY:r<gy:=aE Y;simp only[eA,ho,K,hs,hv,qA,hr,O3];rw[aD ⟨eY,k1⟩]
       . cases e
     . exact iD e hl
   . exact iD e hl
 . exact iD e hl
def Nh:dN s':=match Kb P o T h n with
 |some (l,r)=>some [(⟨[],[],l⟩,r)]
 |none=>none
theorem tw:fO (Nh P o T h n) (eA P o T h n):=by
 intro l e;unfold Nh at e;split at e
 . rename_i a r hs;obtain rfl:=eU e;refine⟨⟨_,aG.2 rfl,fun c N=>by simp at N⟩,fun e he _ hg=>?_⟩;simp only[aG]at he;subst he;exact Ng hs hg.2
 . cases e
end
section
variable(P:Program)(cs:lS)(cf:gm)(dz:List (Nat×mj))
def Ni(ops:Array Oper):List Oper->St->dN (n0×St)
 | [],s=>.ret (.normal,s)
 |o::rest,s=>
  match gd ops o s.T with
  |some false=>match jB s.T o.dst (.gV [])with
   |some T=>Ni ops rest { s with T:=T }
   |none=>none
  |some true=>(Nh P o s.T s.h s.n).then fun r=>match r with
   | .val v h n=>(Ka dz o.dst v).then fun v=>match jB s.T o.dst v with
     |some T=>Ni ops rest { s with T:=T,h:=h,n:=n }
     |none=>none
   | .call f args=>(cs f args s.h s.n).then fun q=>(Ka dz o.dst q.1).then fun v=>match jB s.T o.dst v with
     |some T=>Ni ops rest { s with T:=T,h:=q.2.1,n:=q.2.2 }
     |none=>none
   |_=>none
  |none=>none
theorem tx(qu:tv cs cf)(ops:Array Oper):∀(l:List Oper) (s:St),fO (Ni P cs dz ops l s) (jr P cf ops l s)
 | [],s=>.ret _
 |o::rest,s=>by
  simp only[Ni,jr];rcases gd ops o s.T with _|(_|_)
  . exact .none _
  . cases jB s.T o.dst (.gV [])with
    |none=>exact .none _
    |some T=>exact tx qu ops rest _
  . refine qi (fO.then (tw P o s.T s.h s.n) (g:=fun r=>match r with
     | .val v h n=>match jB s.T o.dst v with
       |some T=>jr P cf ops rest { s with T:=T,h:=h,n:=n }
       |none=>none
     | .call f args=>(pg (cf f args s.h s.n)).bind fun q=>match jB s.T o.dst q.1 with
       |some T=>jr P cf ops rest { s with T:=T,h:=q.2.1,n:=q.2.2 }
       |none=>none
     |_=>none) (fun r=>?_)) ?_
    . cases r with
      |val v h n=>
       refine(fO.then (qh dz o.dst v) (g:=fun v=>match jB s.T o.dst v with
        |some T=>jr P cf ops rest { s with T:=T,h:=h,n:=n }
        |none=>none) (fun v=>?_)).of_eq rfl
       cases jB s.T o.dst v with
       |none=>exact .none _
       |some T=>exact tx qu ops rest _
      |call f args=>
       refine fO.then (qu f args s.h s.n) (fun q=>?_);refine(fO.then (qh dz o.dst q.1) (g:=fun v=>match jB s.T o.dst v with
        |some T=>jr P cf ops rest { s with T:=T,h:=q.2.1,n:=q.2.2 }
        |none=>none) (fun v=>?_)).of_eq rfl
       cases jB s.T o.dst v with
       |none=>exact .none _
       |some T=>exact tx qu ops rest _
      |ud f c args=>exact .none _
      |recover=>exact .none _
      |panic v=>exact .none _
    . intro a ha;cases hs:eA P o s.T s.h s.n with
      |none=>rw[hs]at ha;cases ha
      |some r=>
       rw[hs]at ha;cases r with
       |call f args=>
        simp only[tq]at ha ⊢;cases hj:cf f args s.h s.n with
        |none=>rw[hj]at ha;cases ha
        |some q=>
         rw[hj]at ha;obtain⟨sI,h,n⟩:=q;cases sI with
         |ret v=>exact ha
         |lU v=>cases ha
       |val v h n=>exact ha
       |_=>cases ha
section
variable(X i:Nat)(o:Oper)(T:I V)
def LJ(v:V)(x:I es):dN Unit:=
 (Nh P o T x (X+i)).then fun r=>match r with
  | .val u _ k=>match Nat.beq k (X+i)&&v.qE with
    |true=>some [(⟨[],[(u,v)],[]⟩,())]
    |false=>none
  |_=>none
theorem AL(v:V)(x:I es):fO (LJ P X i o T v x) (if mD P X i o T v x=true then some ()else none):=by
 unfold LJ;refine(fO.then (tw P o T x (X+i)) (g:=fun r=>if(match r with | .val u _ k=>Nat.beq k (X+i)&&V.beq u v|_=>false)=true then some ()else none) (fun r=>?_)).of_eq ?_
 . cases r with
   |val u h k=>
    simp only;split
    . rename_i Y;simp only[ay]at Y;intro l e;obtain rfl:=eU e;refine⟨⟨_,aG.2 rfl,fun c N=>by simp at N⟩,fun e he _ hg=>?_⟩;simp only[aG]at he;subst he;have:u=v:=hg.1 (u,v) (aG.2 rfl);subst this;rw[aD (by rw[Y.1,V.beq_refl u Y.2];rfl)]
    . exact .none _
   |_=>exact .none _
 . unfold mD;cases eA P o T x (X+i)with
   |none=>rfl
   |some r=>cases r<;>rfl
end
def Iu(X i:Nat)(o:Oper)(T:I V)(v:V)(dH:af)(iF:Nat):List (Nat×Nat×I es)->dN Unit
 | []=>.ret ()
 |(e,m,x)::r=>match eN iF e with
  |true=>.ret ()
  |false=>(LJ P X i o T v (gO X dH m x iF)).then fun _=>Iu X i o T v dH iF r
theorem AM(X i:Nat)(o:Oper)(T:I V)(v:V)(dH:af)(iF:Nat):∀l:List (Nat×Nat×I es),fO (Iu P X i o T v dH iF l) (if pO P X i o T v dH iF l=true then some ()else none)
 | []=>(fO.ret ()).of_eq rfl
 |(e,m,x)::r=>by
  simp only[Iu,pO];rcases Bool.eq_false_or_eq_true (eN iF e)with Y|Y
  . simp only[Y,if_true];exact .ret ()
  . simp only[Y,aM,cA];refine(fO.then (AL P X i o T v _) (fun _=>AM X i o T v dH iF r)).of_eq ?_;cases mD P X i o T v (gO X dH m x iF)<;>cases pO P X i o T v dH iF r<;>rfl
def CL(X:Nat)(dH:af)(m:Nat)(x:I es):List (Nat×Nat×Oper×I V×V)->dN Unit
 | []=>.ret ()
 |(j,iF,o,T,v)::r=>match eN m j with
  |true=>CL X dH m x r
  |false=>(LJ P X j o T v (gO X dH m x iF)).then fun _=>CL X dH m x r
theorem tA(X:Nat)(dH:af)(m:Nat)(x:I es):∀l:List (Nat×Nat×Oper×I V×V),fO (CL P X dH m x l) (if o5 P X dH m x l=true then some ()else none)
 | []=>(fO.ret ()).of_eq rfl
 |(j,iF,o,T,v)::r=>by
  simp only[CL,o5];rcases Bool.eq_false_or_eq_true (eN m j)with Y|Y
  . simp only[Y,bU,aP];exact tA X dH m x r
  . simp only[Y,bR];refine(fO.then (AL P X j o T v _) (fun _=>tA X dH m x r)).of_eq ?_;cases mD P X j o T v (gO X dH m x iF)<;>cases o5 P X dH m x r<;>rfl
def FV(X i iF:Nat)(o:Oper)(s:Dr)(v:V)(h:I es)(n:Nat):dN Dr:=
 match jB s.T o.dst v with
 |some T=>(CL P X s.dH iF h s.reads).then fun _=>
   .ret { T:=T,eS:=s.eS++[iF],cur:=(iF,h),oo:=(i,s.cur.1,s.cur.2)::s.oo,last:=some i,dH:=s.dH,reads:=s.reads,n:=n }
 |none=>none
theorem yj(X i iF:Nat)(o:Oper)(s:Dr)(v:V)(h:I es)(n:Nat):fO (FV P X i iF o s v h n) (kK P X i iF o s v h n):=by
 unfold FV kK;cases jB s.T o.dst v with
 |none=>exact .none _
 |some T=>
  refine(fO.then (tA P X s.dH iF h s.reads) (g:=fun _=>some _) (fun _=>.ret _)).of_eq ?_;cases o5 P X s.dH iF h s.reads<;>rfl
def PA(ops:Array Oper)(X i:Nat)(o:Oper)(s:Dr):dN Dr:=
 match gd ops o s.T with
 |some false=>match jB s.T o.dst (.gV [])with
  |some T=>.ret { s with T:=T,eS:=s.eS++[fA s.eS o.after.toList] }
  |none=>none
 |some true=>
  match pN o.op with
  |true=>match zi (fA s.eS o.after.toList) s.last with
   |true=>(Nh P o s.T (gO X s.dH s.cur.1 s.cur.2 (fA s.eS o.after.toList)) s.n).then fun r=>match r with
    | .val v h n=>(Ka dz o.dst v).then fun v=>FV P X i (fA s.eS o.after.toList) o s v h n
    | .call f args=>(cs f args (gO X s.dH s.cur.1 s.cur.2 (fA s.eS o.after.toList)) s.n).then fun q=>(Ka dz o.dst q.1).then fun v=>FV P X i (fA s.eS o.after.toList) o s v q.2.1 q.2.2
    |_=>none
   |false=>none
  |false=>(Nh P o s.T (gO X s.dH s.cur.1 s.cur.2 (fA s.eS o.after.toList)) (X+i)).then fun r=>match r with
   | .val v h k=>(Ka dz o.dst v).then fun v=>match jB s.T o.dst v with
     |some T=>match Nat.beq k (X+i)with
      |true=>match oJ o.op with
       |true=>.ret { s with T:=T,eS:=s.eS++[fA s.eS o.after.toList] }
       |false=>(Iu P X i o s.T v s.dH (fA s.eS o.after.toList) s.oo).then fun _=>
         .ret { s with T:=T,eS:=s.eS++[fA s.eS o.after.toList],reads:=(i,fA s.eS o.after.toList,o,s.T,v)::s.reads }
      |false=>match h.get (X+i)with
       |some b=>match b.wr with
        |true=>.ret { s with T:=T,eS:=s.eS++[fA s.eS o.after.toList],dH:=(i,b)::s.dH }
        |false=>none
       |none=>none
     |none=>none
   |_=>none
 |none=>none
theorem Iv(qu:tv cs cf)(ops:Array Oper)(X i:Nat)(o:Oper)(s:Dr):fO (PA P cs dz ops X i o s) (Nd (lV P cf ops X i o s)):=by
 unfold PA lV;rcases gd ops o s.T with _|(_|_)
 . exact .none _
 . cases jB s.T o.dst (.gV [])with
   |none=>exact .none _
   |some T=>exact(fO.ret _).of_eq rfl
 . cases pN o.op with
   |true=>
    rcases Bool.eq_false_or_eq_true (zi (fA s.eS o.after.toList) s.last)with Y|Y
    rotate_left
    . simp only[Y];exact .none _
    . simp only[Y,if_true];refine(fO.then (tw P o s.T _ s.n) (g:=fun r=>match r with
       | .val v h n=>kK P X i (fA s.eS o.after.toList) o s v h n
       | .call f args=>(pg (cf f args (gO X s.dH s.cur.1 s.cur.2 (fA s.eS o.after.toList)) s.n)).bind fun q=>kK P X i (fA s.eS o.after.toList) o s q.1 q.2.1 q.2.2
       |_=>none) (fun r=>?_)).of_eq ?_
      . cases r with
        |val v h n=>exact(fO.then (qh dz o.dst v) (g:=fun v=>kK P X i (fA s.eS o.after.toList) o s v h n) (fun v=>yj P X i _ o s v h n)).of_eq rfl
        |call f args=>
         refine fO.then (qu f args _ s.n) (fun q=>?_);exact(fO.then (qh dz o.dst q.1) (g:=fun v=>kK P X i (fA s.eS o.after.toList) o s v q.2.1 q.2.2) (fun v=>yj P X i _ o s v q.2.1 q.2.2)).of_eq rfl
        |_=>exact .none _
      . cases eA P o s.T (gO X s.dH s.cur.1 s.cur.2 (fA s.eS o.after.toList)) s.n with
        |none=>rfl
        |some r=>
         cases r with
         |val v h n=>
          simp only[tq];cases kK P X i (fA s.eS o.after.toList) o s v h n<;>rfl
         |call f args=>
          simp only[tq];cases cf f args (gO X s.dH s.cur.1 s.cur.2 (fA s.eS o.after.toList)) s.n with
          |none=>rfl
          |some q=>
           obtain⟨sI,h,n⟩:=q;cases sI with
           |ret v=>
            simp only[pg,tq];cases kK P X i (fA s.eS o.after.toList) o s v h n<;>rfl
           |lU v=>simp only;split<;>rfl
         |_=>rfl
   |false=>
    simp only[aM,cA];have body:∀(v:V) (h:I es) (k:Nat),fO (match jB s.T o.dst v with
      |some T=>match Nat.beq k (X+i)with
       |true=>match oJ o.op with
        |true=>dN.ret { s with T:=T,eS:=s.eS++[fA s.eS o.after.toList] }
        |false=>(Iu P X i o s.T v s.dH (fA s.eS o.after.toList) s.oo).then fun _=>
          .ret { s with T:=T,eS:=s.eS++[fA s.eS o.after.toList],reads:=(i,fA s.eS o.after.toList,o,s.T,v)::s.reads }
       |false=>match h.get (X+i)with
        |some b=>match b.wr with
         |true=>dN.ret { s with T:=T,eS:=s.eS++[fA s.eS o.after.toList],dH:=(i,b)::s.dH }
         |false=>none
        |none=>none
      |none=>none) (Nd (match jB s.T o.dst v with
       |some T=>
        if Nat.beq k (X+i)=true then
         if oJ o.op=true then(some (.inl { s with T:=T,eS:=s.eS++[fA s.eS o.after.toList] }):Option (Dr ⊕ (I V×V×I es×Nat)))
         else if pO P X i o s.T v s.dH (fA s.eS o.after.toList) s.oo=true then
          some (.inl { s with T:=T,eS:=s.eS++[fA s.eS o.after.toList],reads:=(i,fA s.eS o.after.toList,o,s.T,v)::s.reads })
         else mV o
        else match h.get (X+i)with
         |some b=>if b.wr=true then some (.inl { s with T:=T,eS:=s.eS++[fA s.eS o.after.toList],dH:=(i,b)::s.dH })else mV o
         |none=>mV o
       |none=>mV o)):=by
     intro v h k;cases jB s.T o.dst v with
     |none=>exact .none _
     |some T=>
      simp only;cases Nat.beq k (X+i)with
      |true=>
       simp only[if_true];cases oJ o.op with
       |true=>exact(fO.ret _).of_eq rfl
       |false=>
        refine(fO.then (AM P X i o s.T v s.dH _ s.oo) (g:=fun _=>some _) (fun _=>.ret _)).of_eq ?_;simp only[aM,cA];cases pO P X i o s.T v s.dH (fA s.eS o.after.toList) s.oo<;>rfl
      |false=>
       simp only[aM,cA];cases h.get (X+i)with
       |none=>exact .none _
       |some b=>
        simp only;cases b.wr with
        |true=>exact(fO.ret _).of_eq rfl
        |false=>exact .none _
    refine(fO.then (tw P o s.T _ (X+i)) (g:=fun r=>match r with
     | .val v h k=>Nd (match jB s.T o.dst v with
        |some T=>
         if Nat.beq k (X+i)=true then
          if oJ o.op=true then(some (.inl { s with T:=T,eS:=s.eS++[fA s.eS o.after.toList] }):Option (Dr ⊕ (I V×V×I es×Nat)))
          else if pO P X i o s.T v s.dH (fA s.eS o.after.toList) s.oo=true then
           some (.inl { s with T:=T,eS:=s.eS++[fA s.eS o.after.toList],reads:=(i,fA s.eS o.after.toList,o,s.T,v)::s.reads })
          else mV o
         else match h.get (X+i)with
          |some b=>if b.wr=true then some (.inl { s with T:=T,eS:=s.eS++[fA s.eS o.after.toList],dH:=(i,b)::s.dH })else mV o
          |none=>mV o
        |none=>mV o)
     |_=>none) (fun r=>?_)).of_eq ?_
    . cases r with
      |val v h k=>exact(fO.then (qh dz o.dst v) (g:=fun v=>Nd (match jB s.T o.dst v with
        |some T=>
         if Nat.beq k (X+i)=true then
          if oJ o.op=true then(some (.inl { s with T:=T,eS:=s.eS++[fA s.eS o.after.toList] }):Option (Dr ⊕ (I V×V×I es×Nat)))
          else if pO P X i o s.T v s.dH (fA s.eS o.after.toList) s.oo=true then
           some (.inl { s with T:=T,eS:=s.eS++[fA s.eS o.after.toList],reads:=(i,fA s.eS o.after.toList,o,s.T,v)::s.reads })
          else mV o
         else match h.get (X+i)with
          |some b=>if b.wr=true then some (.inl { s with T:=T,eS:=s.eS++[fA s.eS o.after.toList],dH:=(i,b)::s.dH })else mV o
          |none=>mV o
        |none=>mV o)) (fun v=>body v h k)).of_eq rfl
      |_=>exact .none _
    . cases eA P o s.T (gO X s.dH s.cur.1 s.cur.2 (fA s.eS o.after.toList)) (X+i)with
      |none=>rfl
      |some r=>cases r<;>rfl
def FW(ops:Array Oper)(X:Nat):List Oper->Nat->Dr->dN Dr
 | [],_,s=>.ret s
 |o::r,i,s=>(PA P cs dz ops X i o s).then fun R=>FW ops X r (i+1) R
theorem yl(qu:tv cs cf)(ops:Array Oper)(X:Nat):∀(l:List Oper) (i:Nat) (s:Dr),fO (FW P cs dz ops X l i s) (Nd (iV P cf ops X l i s))
 | [],i,s=>(fO.ret s).of_eq rfl
 |o::r,i,s=>by
  simp only[FW,iV];refine(fO.then (Iv P cs cf dz qu ops X i o s) (fun R=>yl qu ops X r (i+1) R)).of_eq ?_;cases lV P cf ops X i o s with
  |none=>rfl
  |some q=>cases q<;>rfl
def kz(iX:Nat):Code->St->dN (n0×St)
 | .region _ ops false,s=>Ni P cs dz ops ops.toList s
 | .region _ ops true,s=>match decide (s.n+ops.size<gy)with
   |true=>(FW P cs dz ops s.n ops.toList 0 { T:=s.T,eS:=[],cur:=(0,s.h),oo:=[],last:=none,dH:=[],reads:=[],n:=s.n+ops.size }).then fun d=>
     .ret (.normal,{ T:=d.T,h:=gO s.n d.dH d.cur.1 d.cur.2 (2^ops.size-1),n:=d.n,iE:=s.iE })
   |false=>none
 | .seq a b,s=>(kz iX a s).then fun p=>match p.1 with
   | .normal=>kz iX b p.2
   |_=>.ret p
 | .cond c a b,s=>match jc s.T c with
   |some (.bool true)=>kz iX a s
   |some (.bool false)=>kz iX b s
   |_=>none
 | .block id body,s=>(kz iX body s).then fun p=>match p.1 with
   | .exit id'=>if id'=id then .ret (.normal,p.2)else .ret p
   |_=>.ret p
 | .loop body,s=>Bw (kz iX body) iX s
 | .skip,s=>.ret (.normal,s)
 | .exit id,s=>.ret (.exit id,s)
 | .ret,s=>.ret (.ret,s)
 | .rangeFunc g ps assign body,s=>match jc s.T g with
   |some (.fn (.func gf) [] lb)=>match callee P gf&&decide (s.n+1<gy)with
    |true=>(cs gf (.fn (.yield (s.n+1)) [] []::lb) ((s.h.set s.n (some .ud)).set (s.n+1) (some (.loop true none s.T ps.toList assign body))) (s.n+2)).then fun q=>match q.2.1.get s.n,q.2.1.get (s.n+1)with
     |some .ud,some (.loop true none _ _ _ _)=>.ret (.normal,{ s with h:=q.2.1.set (s.n+1) none,n:=q.2.2,iE:=(gy,[],[.map (some s.n)])::s.iE })
     |some .ud,some (.loop false (some .ret) _ _ _ _)=>.ret (.ret,{ s with h:=q.2.1.set (s.n+1) none,n:=q.2.2,iE:=(gy,[],[.map (some s.n)])::s.iE })
     |some .ud,some (.loop false (some (.exit id)) _ _ _ _)=>.ret (.exit id,{ s with h:=q.2.1.set (s.n+1) none,n:=q.2.2,iE:=(gy,[],[.map (some s.n)])::s.iE })
     |_,_=>none
    |false=>none
   |_=>none
 |_,_=>none
theorem jN(qu:tv cs cf)(iX:Nat):∀(c:Code) (s:St),fO (kz P cs dz iX c s) (gH P cf iX c s):=by
 intro c
 induction c with
 |region id ops B4=>
  intro s;cases B4 with
  |false=>exact tx P cs cf dz qu ops ops.toList s
  |true=>
   simp only[kz,gH,drawn];by_cases eY:s.n+ops.size<gy
   . simp only[aT eY,aD eY];refine qi (fO.then (yl P cs cf dz qu ops s.n ops.toList 0 _) (g:=fun d=>some (.normal,{ T:=d.T,h:=gO s.n d.dH d.cur.1 d.cur.2 (2^ops.size-1),n:=d.n,iE:=s.iE })) (fun d=>.ret _)) ?_;intro d hd;cases hq:iV P cf ops s.n ops.toList 0 { T:=s.T,eS:=[],cur:=(0,s.h),oo:=[],last:=none,dH:=[],reads:=[],n:=s.n+ops.size }with
     |none=>rw[hq]at hd;cases hd
     |some q=>
      rw[hq]at hd;cases q with
      |inl d'=>simp only[Nd,Option.bind_some]at hd;simp only;exact hd
      |inr _=>cases hd
   . simp only[aV eY];exact .none _
 |seq a b iha ihb=>
  intro s;simp only[kz,gH];refine(fO.then (iha s) (g:=fun p=>match p.1 with | .normal=>gH P cf iX b p.2|_=>some p) (fun p=>?_)).of_eq ?_
  . obtain⟨x,R⟩:=p;cases x with
    |normal=>exact ihb R
    |_=>exact .ret _
  . cases gH P cf iX a s with
    |none=>rfl
    |some p=>obtain⟨x,R⟩:=p;cases x<;>rfl
 |cond c a b iha ihb=>
  intro s;simp only[kz,gH];cases jc s.T c with
  |none=>exact .none _
  |some v=>
   cases v with
   |bool t=>
    cases t with
    |true=>exact iha s
    |false=>exact ihb s
   |_=>exact .none _
 |block id c ih=>
  intro s;simp only[kz,gH];refine(fO.then (ih s) (g:=fun p=>match p.1 with | .exit id'=>if id'=id then some (.normal,p.2)else some p|_=>some p) (fun p=>?_)).of_eq ?_
  . obtain⟨x,R⟩:=p;cases x with
    |exit j=>
     simp only;by_cases hj:j=id
     . simp only[aD hj];exact .ret _
     . simp only[aA hj];exact .ret _
    |_=>exact .ret _
  . cases gH P cf iX c s with
    |none=>rfl
    |some p=>obtain⟨x,R⟩:=p;cases x<;>rfl
 |loop c ih=>
  intro s;simp only[kz,gH];exact wq ih iX s
 |skip=>intro s;exact .ret _
 |exit id=>intro s;exact .ret _
 |ret=>intro s;exact .ret _
 |rangeFunc g ps assign body _ _=>
  intro s;simp only[kz,gH];split
  . rename_i gf lb hg;rw[hg];simp only;split
    . rename_i hq;simp only[ay,aS]at hq;rw[aD hq];refine qi (fO.then (qu gf _ _ (s.n+2)) (g:=fun q=>match q.2.1.get s.n,q.2.1.get (s.n+1)with
       |some .ud,some (.loop true none _ _ _ _)=>some (.normal,{ s with h:=q.2.1.set (s.n+1) none,n:=q.2.2,iE:=(gy,[],[.map (some s.n)])::s.iE })
       |some .ud,some (.loop false (some .ret) _ _ _ _)=>some (.ret,{ s with h:=q.2.1.set (s.n+1) none,n:=q.2.2,iE:=(gy,[],[.map (some s.n)])::s.iE })
       |some .ud,some (.loop false (some (.exit id)) _ _ _ _)=>some (.exit id,{ s with h:=q.2.1.set (s.n+1) none,n:=q.2.2,iE:=(gy,[],[.map (some s.n)])::s.iE })
       |_,_=>none) (fun q=>?_)) ?_
      . split<;>first|exact .ret _|exact .none _
      . intro a ha;cases N:cf gf (.fn (.yield (s.n+1)) [] []::lb) ((s.h.set s.n (some .ud)).set (s.n+1) (some (.loop true none s.T ps.toList assign body))) (s.n+2)with
        |none=>rw[N]at ha;cases ha
        |some q=>
         rw[N]at ha;obtain⟨sI,h,n⟩:=q;cases sI with
         |lU v=>cases ha
         |ret v=>
          simp only[pg,Option.bind_some]at ha;simp only;split at ha<;>first|(rename_i h1 C;simp only[h1,C];exact ha)|cases ha
    . exact .none _
  . exact .none _
 |_=>intro s;exact .none _
end
def uY(P:Program)(fn:Func)(T:I V):List (FuncId×ag×ag)->I es->Nat->Option (V×I es×Nat)
 | [],h,n=>match kL P T h fn.results.toList with
   |some vs=>some (oneOf vs,h,n)
   |none=>none
 |(g,_,args)::ds,h,n=>match Nat.ble gy g with
  |true=>match args with
   | [.map (some b)]=>match h.get b with
     |some .ud=>match Nat.blt b gy with
      |true=>uY P fn T ds (h.set b none) n
      |false=>none
     |_=>none
   |_=>none
  |false=>none
theorem r9{P:Program}{cf:gm}{iX:Nat}{fn:Func}{T:I V}:∀{ds:List (FuncId×ag×ag)} {h:I es} {n:Nat} {r:V×I es×Nat},uY P fn T ds h n=some r->k8 P cf iX fn T ds .ret h n=some (.ret r.1,r.2.1,r.2.2)
 | [],h,n,r,e=>by
   unfold uY at e;unfold k8;split at e
   . rename_i vs hv;obtain rfl:=eU e;rw[hv]
   . cases e
 |(g,c,args)::ds,h,n,r,e=>by
  unfold uY at e;unfold k8;split at e
  case h_2=>cases e
  rename_i hg;rw[aD (aE hg)];split at e
  case h_2=>cases e
  rename_i b;simp only;split at e
  case h_2=>cases e
  rename_i Y;rw[Y];simp only;split at e
  case h_2=>cases e
  rename_i eY;rw[aD (show b<gy from aE eY)];exact r9 e
abbrev gJ:=FuncId->ag->I es->Nat->Option (ah×V×I es×Nat)
def fe(P:Program)(dy:gJ):Prop:=∀f args h n fm v h' n',dy f args h n=some (fm,v,h',n')->f<P.funcs.size/\((∀a∈fm,a)->
 ∀E w dQ,eC E args dQ->Good E h w->qy E n->callee P f=true->Calls P f dQ.toArray w (jj E h n w (.ret v) h' n'))
def ek:gJ:=fun _ _ _ _=>none
section
variable(P:Program)(f:FuncId)(spec:ag->I es->Nat->Option (ah×V×I es×Nat))
theorem be:fe P ek:=fun _ _ _ _ _ _ _ _ e=>by cases e
def kp(dy:gJ):gJ:=fun g args h n=>match Nat.beq g f with
 |true=>match spec args h n with
  |some r=>some r
  |none=>dy g args h n
 |false=>dy g args h n
def kj:Prop:=f<P.funcs.size/\∀args h n fm v h' n',spec args h n=some (fm,v,h',n')->(∀a∈fm,a)->
 ∀E w dQ,eC E args dQ->Good E h w->qy E n->callee P f=true->Calls P f dQ.toArray w (jj E h n w (.ret v) h' n')
theorem fN{P:Program}{f:FuncId}{spec:ag->I es->Nat->Option (ah×V×I es×Nat)}{dy:gJ}(hp:kj P f spec)(hS:fe P dy):fe P (kp f spec dy):=by
 intro g args h n fm v h' n' e;unfold kp at e;split at e
 . rename_i hg;have hg:=aJ hg;subst hg;split at e
   . rename_i r hr;cases e;exact⟨hp.1,hp.2 args h n fm v h' n' hr⟩
   . exact hS g args h n fm v h' n' e
 . exact hS g args h n fm v h' n' e
def Tm(fn:Func)(p:n0×St):dN (V×I es×Nat):=match p.1 with
 | .normal=>match uY P fn p.2.T p.2.iE p.2.h p.2.n with
   |some r=>.ret r
   |none=>none
 | .ret=>match uY P fn p.2.T p.2.iE p.2.h p.2.n with
   |some r=>.ret r
   |none=>none
 |_=>none
end
def Kc(P:Program)(cs:lS)(dz:List (Nat×mj))(iX:Nat)(f:FuncId)(args:ag)(h:I es)(n:Nat):dN (V×I es×Nat):=
 match P.funcs[f]? with
 |some fn=>match fn.body with
  |some code=>match Nat.ble args.length fn.ntmps&&Nat.blt fn.ntmps gy with
   |true=>(kz P cs dz iX code (dB args h n)).then (Tm P fn)
   |false=>none
  |none=>none
 |none=>none
theorem FX{P:Program}{cs:lS}{cf:gm}(qu:tv cs cf)(dz:List (Nat×mj))(iX:Nat)(f:FuncId)(args:ag)(h:I es)(n:Nat):fO (Kc P cs dz iX f args h n) (pg (enter P cf iX f args h n)):=by
 unfold Kc enter;split
 . rename_i fn hf;rw[hf];simp only;split
   . rename_i code Y;rw[Y];simp only;split
     . rename_i hq;simp only[ay]at hq;have hq':args.length<=fn.ntmps/\fn.ntmps<gy:=⟨aE hq.1,aE hq.2⟩;rw[aD hq'];refine qi (fO.then (jN P cs cf dz qu iX code (dB args h n)) (g:=fun p=>match p.1 with
        | .normal=>pg (k8 P cf iX fn p.2.T p.2.iE .ret p.2.h p.2.n)
        | .ret=>pg (k8 P cf iX fn p.2.T p.2.iE .ret p.2.h p.2.n)
        |_=>none) (fun p=>?_)) ?_
       . obtain⟨x,s⟩:=p;unfold Tm;cases x with
         |normal=>
          simp only;split
          . rename_i r hr;refine(fO.ret r).of_eq ?_;rw[r9 hr];rfl
          . exact .none _
         |ret=>
          simp only;split
          . rename_i r hr;refine(fO.ret r).of_eq ?_;rw[r9 hr];rfl
          . exact .none _
         |_=>exact .none _
       . intro a ha;change ((gH P cf iX code { T:=kZ args 0 .nil,h:=h,n:=n,iE:=[] }).bind _)=some a at ha;cases J:gH P cf iX code { T:=kZ args 0 .nil,h:=h,n:=n,iE:=[] }with
         |none=>rw[J]at ha;cases ha
         |some p=>
          rw[J]at ha;obtain⟨x,s⟩:=p;cases x<;>first|exact ha|cases ha
     . exact .none _
   . exact .none _
 . exact .none _
def Ke(P:Program)(cs:lS)(dz:List (Nat×mj))(iX m:Nat)(args:ag)(h:I es)(n:Nat):dN (V×I es×Nat):=
 match h.get m with
 |some (.loop true none T ps assign body)=>match(Nat.blt m gy&&Nat.beq ps.length args.length)&&(kf assign&&kf body)with
  |true=>match wF (JD ps args) T with
   |some Lv=>(kz P cs dz iX assign { T:=Lv,h:=h.set m none,n:=n,iE:=[] }).then fun p=>match p.1 with
    | .normal=>(kz P cs dz iX body p.2).then fun q=>match q.1 with
      | .normal=>.ret (.bool true,q.2.h.set m (some (.loop true none T ps assign body)),q.2.n)
      | .ret=>.ret (.bool false,q.2.h.set m (some (.loop false (some .ret) T ps assign body)),q.2.n)
      | .exit id=>.ret (.bool false,q.2.h.set m (some (.loop false (some (.exit id)) T ps assign body)),q.2.n)
      |_=>none
    |_=>none
   |none=>none
  |false=>none
 |_=>none
theorem FY{P:Program}{cs:lS}{cf:gm}(qu:tv cs cf)(dz:List (Nat×mj))(iX m:Nat)(args:ag)(h:I es)(n:Nat):fO (Ke P cs dz iX m args h n) (pg (wG P cf iX m args h n)):=by
 unfold Ke wG;split
 . rename_i T ps assign body hg;rw[hg];simp only;split
   . rename_i hq;simp only[ay]at hq;have hq':m<gy/\ps.length=args.length/\kf assign=true/\kf body=true:=⟨aE hq.1.1,aJ hq.1.2,hq.2.1,hq.2.2⟩;rw[aD hq'];split
     . rename_i Lv oK;rw[oK];simp only;refine qi (fO.then (jN P cs cf dz qu iX assign _) (g:=fun p=>match p.1 with
        | .normal=>(gH P cf iX body p.2).bind fun q=>match q.1 with
          | .normal=>some (.bool true,q.2.h.set m (some (.loop true none T ps assign body)),q.2.n)
          | .ret=>some (.bool false,q.2.h.set m (some (.loop false (some .ret) T ps assign body)),q.2.n)
          | .exit id=>some (.bool false,q.2.h.set m (some (.loop false (some (.exit id)) T ps assign body)),q.2.n)
          |_=>none
        |_=>none) (fun p=>?_)) ?_
       . obtain⟨x,s⟩:=p;cases x with
         |normal=>
          refine fO.then (jN P cs cf dz qu iX body s) (fun q=>?_);obtain⟨y,s2⟩:=q;cases y<;>first|exact .ret _|exact .none _
         |_=>exact .none _
       . intro a ha;cases J:gH P cf iX assign { T:=Lv,h:=h.set m none,n:=n,iE:=[] }with
         |none=>rw[J]at ha;cases ha
         |some p=>
          rw[J]at ha;obtain⟨x,s⟩:=p;simp only[Option.bind_some]at ha;cases x with
          |normal=>
           simp only at ha ⊢;cases hy:gH P cf iX body s with
           |none=>rw[hy]at ha;cases ha
           |some q=>
            rw[hy]at ha;obtain⟨y,s2⟩:=q;cases y<;>first|exact ha|cases ha
          |_=>cases ha
     . exact .none _
   . exact .none _
 . exact .none _
def EH(P:Program)(dy:gJ)(HH:FuncId->List (Nat×mj))(iX:Nat):Nat->lS
 |0=>fun _ _ _ _=>none
 |k+1=>fun f args h n=>match dy f args h n with
  |some (fm,r)=>some [(⟨[],[],fm⟩,r)]
  |none=>match Nat.blt f P.funcs.size with
   |true=>Kc P (EH P dy HH iX k) (HH f) iX f args h n
   |false=>Ke P (EH P dy HH iX k) (HH f) iX (f-P.funcs.size) args h n
open Classical in
noncomputable def CM(P:Program)(dy:gJ)(iX:Nat):Nat->gm
 |0=>fun _ _ _ _=>none
 |k+1=>fun f args h n=>match dy f args h n with
  |some (fm,r)=>if ∀a∈fm,a then some (.ret r.1,r.2.1,r.2.2)else none
  |none=>if f<P.funcs.size then enter P (CM P dy iX k) iX f args h n else wG P (CM P dy iX k) iX (f-P.funcs.size) args h n
theorem uZ(P:Program)(dy:gJ)(HH:FuncId->List (Nat×mj))(iX:Nat):∀k,tv (EH P dy HH iX k) (CM P dy iX k)
 |0=>fun _ _ _ _=>.none _
 |k+1=>by
  intro f args h n;simp only[EH,CM];cases hS:dy f args h n with
  |some q=>
   obtain⟨fm,v,h',n'⟩:=q;intro l e;obtain rfl:=eU e;refine⟨⟨_,aG.2 rfl,fun c N=>by simp at N⟩,fun e he _ hg=>?_⟩;simp only[aG]at he;subst he;simp only;rw[aD hg.2];rfl
  |none=>
   simp only;by_cases hf:f<P.funcs.size
   . have Y:Nat.blt f P.funcs.size=true:=Nat.ble_eq_true_of_le hf;rw[Y,aD hf];exact FX (uZ P dy HH iX k) (HH f) iX f args h n
   . have Y:Nat.blt f P.funcs.size=false:=by
      cases hq:Nat.blt f P.funcs.size with
      |false=>rfl
      |true=>exact absurd (aE hq) hf
     rw[Y,aA hf];exact FY (uZ P dy HH iX k) (HH f) iX _ args h n
theorem Iw{P:Program}{dy:gJ}{iX:Nat}(K:P.follows .mixedOrders=true)(sJ:jT P=true)(hS:fe P dy):∀k,gY P (CM P dy iX k)
 |0=>fun _ _ _ _ _ _ _ e=>by cases e
 |k+1=>by
  intro f args h n sI h' n' e E w dQ ra g hd;simp only[CM]at e;split at e
  . rename_i fm r hs;obtain⟨v,h1,n1⟩:=r;split at e
    . rename_i hA;simp only[aq,aB]at e;obtain⟨rfl,rfl,rfl⟩:=e;obtain⟨eY,J2⟩:=hS f args h n fm v h1 n1 hs;exact⟨fun Cp=>J2 hA E w dQ ra g hd Cp,fun m l s hfm _=>absurd eY (by rw[hfm];exact Nat.not_lt.2 (Nat.le_add_right _ _))⟩
    . cases e
  . exact LD (iX:=iX) (Iw K sJ hS k) K sJ f args h n sI h' n' e E w dQ ra g hd
structure CX(P:Program) where
 cs:lS
 cf:gm
 snd:tv cs cf
 ok:gY P cf
noncomputable def CX.of{P:Program}(K:P.follows .mixedOrders=true)(sJ:jT P=true){dy:gJ}(hS:fe P dy)(HH:FuncId->List (Nat×mj))(iX k:Nat):CX P:=
 ⟨EH P dy HH iX k,CM P dy iX k,uZ P dy HH iX k,Iw K sJ hS k⟩
def TG(P:Program)(X hc:Nat)(c:Code)(s:St)(Q:Exit->St->Prop):Prop:=
 ∀(E:Env) (a:Act) (w:World) (hm:Exit->Act->World->Prop),lq E hc s a w->X<=s.n->
  (∀y R E' a' w',Q y R->nk X E s.h w E' R.h w'->X<=R.n->lq E' hc R a' w'->hm y a' w')->c.wp P hm a w
section
variable{P:Program}{cf:gm}{iX X hc:Nat}{c:Code}{s R:St}{Q Q1:Exit->St->Prop}
theorem qF(h:TG P X hc c s Q1)(hq:∀y R,Q1 y R->Q y R):TG P X hc c s Q:=fun E a w hm r hn k=>h E a w hm r hn fun y R E' a' w' q=>k y R E' a' w' (hq y R q)
theorem qG(lK:gY P cf)(K:P.follows .mixedOrders=true){x:n0}{y:Exit}(N:eV hc c=true)(e:gH P cf iX c s=some (x,R))(J:x.plain=some y)(hq:Q y R):TG P X hc c s Q:=by
 intro E a w hm r hn k;refine wpIn_wide (n:=0) |>.1 ?_;refine lE (rC:=none) lK K c s x R (.inl rfl) N e E a w hm r fun E' a' w' x' u fT od r' pE=>?_;have:x'=y:=by
  cases x<;>cases x'<;>simp only[HY,n0.plain,aq,reduceCtorEq]at pE J<;>first|exact J|(subst pE;exact J)
 subst this;exact k _ R E' a' w' hq (.of u fT hn) (bH hn od) r'
theorem fQ{live:List Nat}{s2:St}(e:ld X live s=some s2)(h:TG P X hc c s2 Q):TG P X hc c s Q:=by
 intro E a w hm r hn k;obtain⟨_,qX,E2,r2,u2⟩:=ox e r;exact h E2 a w hm r2 qX fun y R E' a' w' q u od r'=>k y R E' a' w' q (u2.trans u) od r'
theorem Kf{c1 c2:Code}(h:TG P X hc c1 s (andThen (fun R=>TG P X hc c2 R Q) Q)):TG P X hc (.seq c1 c2) s Q:=by
 intro E a w hm r hn k;refine wp_seq (h E a w _ r hn fun y R E' a' w' q u od r'=>?_);cases y<;>first|exact q E' a' w' hm r' od (fun y2 s2 E2 a2 w2 q2 u2 qX r2=>k y2 s2 E2 a2 w2 q2 (u.trans u2) qX r2)|exact k _ R E' a' w' q u od r'
theorem dM(hs:qf c=true)(h:TG P X hc (dI c) s (andThen (fun R=>TG P X hc (dY c) R Q) Q)):TG P X hc c s Q:=by
 cases c<;>simp only[qf,aM]at hs;exact Kf h
theorem jZ{t:Bool}(N:J8 c (fun _=>true)=true)(ho:jc s.T (VT c)=some (.bool t))(h1:t=true->TG P X hc (lF c) s Q)(C:t=false->TG P X hc (oy c) s Q):TG P X hc c s Q:=by
 cases c<;>simp only[J8,aM]at N;intro E a w hm r hn k;cases t
 . exact wp_cond_false (rV r.good.lj r.T ho) (C rfl E a w hm r hn k)
 . exact wp_cond_true (rV r.good.lj r.T ho) (h1 rfl E a w hm r hn k)
theorem fL{i:Nat}(N:nq c i=true)(h:TG P X hc (dK c) s (gZ i Q)):TG P X hc c s Q:=by
 cases c<;>simp only[nq,aM]at N;rename_i j b;have:=aJ N;subst this;intro E a w hm r hn k;refine wp_block (h E a w _ r hn fun y R E' a' w' q u od r'=>?_);cases y<;>first|exact k _ R E' a' w' q u od r'|skip
 simp only[Exit.inBlock,gZ]at q ⊢;split
 . rename_i he;rw[aD he]at q;exact k _ R E' a' w' q u od r'
 . rename_i he;rw[aA he]at q;exact k _ R E' a' w' q u od r'
def TGR(P:Program)(X hc:Nat)(c:Code)(Q:Exit->St->Prop):Nat->St->Prop
 |0,_=>False
 |n+1,s=>TG P X hc c s (andThen (fun R=>TGR P X hc c Q n R) Q)
theorem Tn(n:Nat)(N:oL c=true)(h:TGR P X hc (dK c) Q n s):TG P X hc c s Q:=by
 cases c<;>simp only[oL,aM]at N;rename_i b;intro E0 a w hm r hn k;refine wp_loop_rounds n ?_;have key:∀(n:Nat) (s1:St) (E:Env) (a:Act) (w1:World),TGR P X hc b Q n s1->lq E hc s1 a w1->X<=s1.n->nk X E0 s.h w E s1.h w1->Code.rounds P b hm n a w1:=by
  intro n
  induction n with
  |zero=>intro s1 E a w1 h;exact h.elim
  |succ n ih=>
   intro s1 E a w1 h r hn u;rw[rounds_succ];refine h E a w1 _ r hn fun y R E' a' w' q u' od r'=>?_;cases y<;>first|exact ih R E' a' w' q r' od (u.trans u')|exact k _ R E' a' w' q (u.trans u') od r'
 exact key n s E0 a w h r hn (.refl r.good)
theorem jO(Tr:Nat->St->Prop)(hl:oL c=true)(h:∀k s,Tr k s->TG P X hc (dK c) s (andThen (fun R=>∃k',k'<k/\Tr k' R) Q))(k:Nat)(h0:Tr k s):TG P X hc c s Q:=by
 refine Tn (k+1) hl ?_;have key:∀(k:Nat) (n:Nat) (s:St),k<n->Tr k s->TGR P X hc (dK c) Q n s:=by
  intro k
  induction k using Nat.strongRecOn with
  |_ k ih=>
   intro n s hn hi;cases n with
   |zero=>omega
   |succ n=>
    simp only[TGR];refine qF (h k s hi) fun y R hq=>?_;cases y with
    |normal=>
     obtain⟨k',U,jI⟩:=hq;exact ih k' U n R S jI
    |_=>exact hq
 exact key k (k+1) s S h0
end
section
variable{P:Program}{X':CX P}{dz:List (Nat×mj)}{iX X hc:Nat}{c:Code}{s:St}{Q:Exit->St->Prop}
inductive jU where
 |to (y:Exit) (s:St)
 |ret (v:V) (h:I es) (n:Nat)
 |bad
def Nj(P:Program)(X:Nat)(fn:Func)(s:St):Option (V×I es×Nat):=match uY P fn s.T s.iE s.h s.n with
 |some (v,h,n)=>match ld X [0] { T:=I.nil.set 0 (some v),h:=h,n:=n,iE:=[] }with
  |some s2=>match s2.T.get 0 with
   |some v2=>some (v2,s2.h,s2.n)
   |none=>none
  |none=>none
 |none=>none
def qm(P:Program)(X:Nat)(fn:Func)(live:List Nat)(p:n0×St):jU:=match p.1 with
 | .normal=>match ld X live p.2 with
   |some s=>.to .normal s
   |none=>.bad
 | .exit i=>match ld X live p.2 with
   |some s=>.to (.exit i) s
   |none=>.bad
 | .ret=>match Nj P X fn p.2 with
   |some (v,h,n)=>.ret v h n
   |none=>.bad
 | .panic _=>.bad
def fV(P:Program)(X:Nat)(fn:Func)(s':V->I es->Nat->Prop)(y:Exit)(R:St):Prop:=(y= .normal\/y= .ret)/\∃v h n,Nj P X fn R=some (v,h,n)/\s' v h n
def jU.post(P:Program)(X:Nat)(fn:Func)(live:List Nat)(s':V->I es->Nat->Prop)(Q:Exit->St->Prop):jU->Prop
 | .to y s=>∀R,ld X live R=some s->Q y R
 | .ret v h n=>s' v h n/\∀R,fV P X fn s' .ret R->Q .ret R
 | .bad=>False
theorem PB(K:P.follows .mixedOrders=true){l:List (sK×n0×St)}(N:eV hc c=true)(e:kz P X'.cs dz iX c s=some l)(h:∀p∈l,p.1.ok->p.1.good/\∃y,p.2.1.plain=some y/\Q y p.2.2):TG P X hc c s Q:=by
 obtain⟨⟨p,hp,ho⟩,C⟩:=jN P X'.cs X'.cf dz X'.snd iX c s l e;obtain⟨hg,y,hy,hq⟩:=h p hp ho;exact qG (iX:=iX) X'.ok K N (C p hp ho hg) hy hq
def Bg(P:Program)(cs:lS)(dz:List (Nat×mj))(iX X:Nat)(fn:Func)(live:List Nat)(c:Code)(s:St):List (List (Bool×Bool)×ah×jU):=yh (qm P X fn live) (wu (kz P cs dz iX c s))
def AN(P:Program)(cs:lS)(dz:List (Nat×mj))(iX:Nat)(c:Code)(s:St):Bool:=(kz P cs dz iX c s).isSome
def vP(P:Program)(cs:lS)(dz:List (Nat×mj))(iX:Nat)(c:Code)(s:St):ag:=tr (wu (kz P cs dz iX c s))
def yn(P:Program)(cs:lS)(dz:List (Nat×mj))(iX:Nat)(c:Code)(s:St):ag:=w8 (wu (kz P cs dz iX c s))
theorem Xy(X':CX P)(K:P.follows .mixedOrders=true)(dz:List (Nat×mj))(iX:Nat)(fn:Func)(live:List Nat)(s':V->I es->Nat->Prop)(dx:List (List (Bool×Bool)×ah×jU))(N:eV hc c=true)
  (e1:AN P X'.cs dz iX c s=true) (e2:vP P X'.cs dz iX c s=yn P X'.cs dz iX c s) (e3:Bg P X'.cs dz iX X fn live c s=dx)
  (h:∀g∈dx,(∀b∈g.1,b.1=b.2)->(∀a∈g.2.1,a)/\g.2.2.post P X fn live s' Q):TG P X hc c s Q:=by
 obtain⟨l,hl⟩:=bI.1 e1;unfold vP yn at e2;unfold Bg at e3;rw[hl]at e2 e3;simp only[wu]at e2 e3;refine PB (X':=X') K N hl fun p hp ho=>?_;have hg:=h (p.1.conds,p.1.Om,qm P X fn live p.2) (e3▸n5 hp) ho;refine⟨⟨tu l e2 p hp,hg.1⟩,?_⟩;obtain⟨pp,x,R⟩:=p;have ov:=hg.2;simp only[qm]at ov;cases x with
 |normal=>
  simp only at ov;split at ov
  . rename_i s2 vQ;exact⟨.normal,rfl,ov R vQ⟩
  . exact ov.elim
 |exit i=>
  simp only at ov;split at ov
  . rename_i s2 vQ;exact⟨.exit i,rfl,ov R vQ⟩
  . exact ov.elim
 |ret=>
  simp only at ov;split at ov
  . rename_i v h n hr;exact⟨.ret,rfl,ov.2 R ⟨.inr rfl,v,h,n,hr,ov.1⟩⟩
  . exact ov.elim
 |panic _=>exact ov.elim
theorem yo{cf:gm}(lK:gY P cf)(K:P.follows .mixedOrders=true):∀(k:Nat) {c:Code} {s s1:St} {Q:Exit->St->Prop},eV hc c=true->gH P cf iX (dU k c) s=some (.normal,s1)->TG P X hc (dA k c) s1 Q->TG P X hc c s Q:=by
 intro k;have Ix:∀{c:Code} {s s1:St} {Q:Exit->St->Prop},gH P cf iX .skip s=some (.normal,s1)->TG P X hc c s1 Q->TG P X hc c s Q:=by
  intro c s s1 Q e h;simp only[gH,aq,aB,true_and]at e;subst e;exact h
 induction k with
 |zero=>intro c s s1 Q _ e h;cases c<;>exact Ix e h
 |succ k ih=>
  intro c s s1 Q mN e h;cases c<;>first|exact Ix e h|skip
  rename_i a b;simp only[eV,ay]at mN;simp only[dU,gH]at e;split at e
  . rename_i R h1;exact Kf (qG (iX:=iX) lK K mN.1 h1 rfl (ih mN.2 e h))
  . rename_i hr
    first|exact(hr s1 rfl).elim|exact(hr s1 e).elim
theorem To(k:Nat)(X':CX P)(K:P.follows .mixedOrders=true)(dz:List (Nat×mj))(iX:Nat)(fn:Func)(live:List Nat)(dx:List (List (Bool×Bool)×ah×jU))(N:eV hc c=true)
  (e1:AN P X'.cs dz iX (dU k c) s=true) (e2:vP P X'.cs dz iX (dU k c) s=yn P X'.cs dz iX (dU k c) s) (e3:Bg P X'.cs dz iX X fn live (dU k c) s=dx)
  (h:∀g∈dx,(∀b∈g.1,b.1=b.2)->(∀a∈g.2.1,a)/\∃s1,g.2.2= .to .normal s1/\TG P X hc (dA k c) s1 Q):TG P X hc c s Q:=by
 obtain⟨l,hl⟩:=bI.1 e1;unfold vP yn at e2;unfold Bg at e3;rw[hl]at e2 e3;simp only[wu]at e2 e3;obtain⟨⟨p,hp,ho⟩,C⟩:=jN P X'.cs X'.cf dz X'.snd iX (dU k c) s l hl;obtain⟨hA,s1,oV,hT⟩:=h (p.1.conds,p.1.Om,qm P X fn live p.2) (e3▸n5 hp) ho;have gx:=C p hp ho ⟨tu l e2 p hp,hA⟩;obtain⟨pp,x,R⟩:=p;simp only[qm]at oV;cases x with
 |normal=>
  simp only at oV;split at oV
  . rename_i s2 vQ;cases oV;exact yo (iX:=iX) X'.ok K k N gx (fQ vQ hT)
  . cases oV
 |exit i=>
  simp only at oV;split at oV<;>cases oV
 |ret=>
  simp only at oV;split at oV<;>cases oV
 |panic _=>cases oV
end
section
variable{P:Program}{X:Nat}
theorem EI{fn:Func}{s:St}{v:V}{h:I es}{n:Nat}(e:Nj P X fn s=some (v,h,n)):∃v1 h1 n1 s2,uY P fn s.T s.iE s.h s.n=some (v1,h1,n1)/\ld X [0] { T:=I.nil.set 0 (some v1),h:=h1,n:=n1,iE:=[] }=some s2/\s2.T.get 0=some v/\s2.h=h/\s2.n=n:=by
 unfold Nj at e;split at e
 . rename_i v1 h1 n1 e1;split at e
   . rename_i s2 e2;split at e
     . rename_i v2 e3;simp only[aq,aB]at e;obtain⟨rfl,rfl,rfl⟩:=e;exact⟨v1,h1,n1,s2,e1,e2,e3,rfl,rfl⟩
     . cases e
   . cases e
 . cases e
theorem qH(K:P.follows .mixedOrders=true)(sJ:jT P=true){f:FuncId}{fn:Func}{code:Code}(hf:P.funcs[f]? =some fn)(Y:fn.body=some code){args:ag}{h:I es}{X:Nat}
  (l:(Nat.ble args.length fn.ntmps&&Nat.blt fn.ntmps gy)=true) (s':V->I es->Nat->Prop) (hT:TG P X fn.ntmps code (dB args h X) (fV P X fn s'))
  {E:Env} {w:World} {dQ:List Value} (ra:eC E args dQ) (g:Good E h w) (hd:qy E X):
  Calls P f dQ.toArray w fun e w'=>∃v h' n',s' v h' n'/\jj E h X w (.ret v) h' n' e w':=by
 simp only[ay]at l;obtain⟨y9,mP⟩:=qd (n:=fn.ntmps) ra (aE l.1) (aE l.2);refine callsIn_wide.1 (callsIn_of_wp_marks (n:=0) hf Y trivial (wpIn_wide.2 ?_));refine hT E _ w _ ⟨g,hd,y9,mP,rfl⟩ (aK _) fun y R E' a' w' ⟨hy,v,h',n',hr,hR⟩ u od r'=>?_;obtain⟨v1,h1,n1,s2,k1,k2,k3,k4,k5⟩:=EI hr;have key:LeavesInM Fence.wide 0 P fn a'.tmps (fun e w'=>∃v h' n',s' v h' n'/\jj E h X w (.ret v) h' n' e w') a'.defers .returning w':=by
  refine ow (cf:=fun _ _ _ _=>none) (iX:=0) (fun _ _ _ _ _ _ _ e=>by cases e) K sJ R.iE .ret R.h R.n _ h1 n1 (r9 k1) E' w' a'.defers .returning _ r'.good r'.rD r'.T r'.iE trivial fun E2 w2 en u2 rW DZ qX ho=>?_;have u3:=u.trans (nk.of u2 rW od);cases en with
  |returned v'=>
   have ho:eB E2 v1 v':=ho;have sr:lq E2 1 { T:=I.nil.set 0 (some v1),h:=h1,n:=n1,iE:=[] } { tmps:=#[v'],defers:=[] } w2:=by
    refine⟨u3.good,DZ,fun t v hv=>?_,rfl,rfl⟩;rw[I.gw _ _ _ eX]at hv;split at hv
    . rename_i q;subst q;cases hv;exact⟨v',rfl,ho⟩
    . simp[I.get]at hv
   obtain⟨_,Oj,E3,r3,u4⟩:=ox k2 sr;have u5:=(u3.trans u4).Cl hd;obtain⟨v'',q1,q2⟩:=r3.T 0 v k3;simp only[List.getElem?_toArray,cK,aq]at q1;subst q1;refine⟨v,h',n',hR,E3,k4▸u5,(u3.trans u4).low,k5▸r3.rD,by rw[<- k5];exact Oj,q2⟩
  |_=>exact ho.elim
 rcases hy with rfl|rfl<;>exact key
theorem FZ(K:P.follows .mixedOrders=true)(sJ:jT P=true){f:FuncId}{fn:Func}{code:Code}(hf:P.funcs[f]? =some fn)(Y:fn.body=some code){args:ag}{h:I es}{X:Nat}
  (l:(Nat.ble args.length fn.ntmps&&Nat.blt fn.ntmps gy)=true) (v:V) (h':I es) (n':Nat) (hT:TG P X fn.ntmps code (dB args h X) (fV P X fn fun a b c=>a=v/\b=h'/\c=n'))
  {E:Env} {w:World} {dQ:List Value} (ra:eC E args dQ) (g:Good E h w) (hd:qy E X):
  Calls P f dQ.toArray w (jj E h X w (.ret v) h' n'):=
 (qH K sJ hf Y l _ hT ra g hd).mono fun e w' ⟨_,_,_,⟨e1,e2,e3⟩,k⟩=>by subst e1 e2 e3;exact k
end
def frL:List (Nat×V)->I V:=go .nil
where go (t:I V):List (Nat×V)->I V
 | []=>t
 |(k,v)::r=>go (t.set k (some v)) r
def hL:af->I es:=go .nil
where go (t:I es):af->I es
 | []=>t
 |(k,v)::r=>go (t.set k (some v)) r
def fB(l:List (Nat×V))(h:I es)(n:Nat):St:={ T:=frL l,h:=h,n:=n,iE:=[] }
def Nk(l:List (Nat×V))(h:I es)(n:Nat)(d:List (FuncId×ag×ag)):St:={ T:=frL l,h:=h,n:=n,iE:=d }
def LK(fr:List (FuncId×ag×V)):gJ:=fun f args h n=>match look f args fr with
 |some v=>some ([],v,h,n)
 |none=>none
theorem PC{P:Program}{fr:List (FuncId×ag×V)}(hT:∀x∈fr,FJ P x):fe P (LK fr):=by
 intro f args h n fm v h' n' e;unfold LK at e;split at e
 . rename_i v' hl;simp only[aq,aB]at e;obtain⟨rfl,rfl,rfl,rfl⟩:=e;have hs:=hT _ (If hl);exact⟨hs.1,fun _ E w dQ ra g hd Cp=>J4 hs ra g hd Cp⟩
 . cases e
def Tp(P:Program)(cs:lS)(dz:List (Nat×mj))(iX X:Nat)(fn:Func)(live:List Nat)(c:Code)(s:St):Option (ag×ag×List (List (Bool×Bool)×ah×jU)):=
 match kz P cs dz iX c s with
 |some l=>some (tr l,w8 l,yh (qm P X fn live) l)
 |none=>none
abbrev G(P:Program)(cs:lS)(dz:List (Nat×mj))(iX X:Nat)(fn:Func)(live:List Nat)(c:Code)(s:St)(iW:ag)(dx:List (List (Bool×Bool)×ah×jU)):Prop:=Tp P cs dz iX X fn live c s=some (iW,iW,dx)
theorem G.parts{P:Program}{cs:lS}{dz:List (Nat×mj)}{iX X:Nat}{fn:Func}{live:List Nat}{c:Code}{s:St}{iW:ag}{dx:List (List (Bool×Bool)×ah×jU)}(h:G P cs dz iX X fn live c s iW dx):
  AN P cs dz iX c s=true/\vP P cs dz iX c s=yn P cs dz iX c s/\Bg P cs dz iX X fn live c s=dx:=by
 have h:Tp P cs dz iX X fn live c s=some (iW,iW,dx):=h;unfold Tp at h;unfold AN vP yn Bg;split at h
 . rename_i l hl;simp only[aq,aB]at h;rw[hl];exact⟨rfl,h.1.trans h.2.1.symm,h.2.2⟩
 . cases h
section
variable{P:Program}{X hc:Nat}{c:Code}{s:St}{Q:Exit->St->Prop}{dz:List (Nat×mj)}{iX:Nat}{fn:Func}{live:List Nat}{iW:ag}{dx:List (List (Bool×Bool)×ah×jU)}
section
variable(k:Nat)(X':CX P)
theorem VY(K:P.follows .mixedOrders=true)(s':V->I es->Nat->Prop)(N:eV hc c=true)(hr:G P X'.cs dz iX X fn live c s iW dx)
  (h:∀g∈dx,(∀b∈g.1,b.1=b.2)->(∀a∈g.2.1,a)/\g.2.2.post P X fn live s' Q):TG P X hc c s Q:=
 Xy X' K dz iX fn live s' dx N hr.parts.1 hr.parts.2.1 hr.parts.2.2 h
theorem PD(K:P.follows .mixedOrders=true)(N:eV hc c=true)(hr:G P X'.cs dz iX X fn live (dU k c) s iW dx)
  (h:∀g∈dx,(∀b∈g.1,b.1=b.2)->(∀a∈g.2.1,a)/\∃s1,g.2.2= .to .normal s1/\TG P X hc (dA k c) s1 Q):TG P X hc c s Q:=
 To k X' K dz iX fn live dx N hr.parts.1 hr.parts.2.1 hr.parts.2.2 h
theorem Tq(K:P.follows .mixedOrders=true){fm:ah}{s1:St}(N:eV hc c=true)(hr:G P X'.cs dz iX X fn live (dU k c) s iW [([],fm,.to .normal s1)])
  (hA:∀a∈fm,a) (h:TG P X hc (dA k c) s1 Q):TG P X hc c s Q:=
 PD k X' K N hr fun g hg _=>by
  rw[aG]at hg;subst hg;exact⟨hA,s1,rfl,h⟩
theorem Xz(K:P.follows .mixedOrders=true)(s':V->I es->Nat->Prop)(N:eV hc c=true)(hr:G P X'.cs dz iX X fn live c s iW dx)
  (h:∀g∈dx,(∀b∈g.1,b.1=b.2)->(∀a∈g.2.1,a)/\∃v h n,g.2.2= .ret v h n/\s' v h n):TG P X hc c s (fV P X fn s'):=
 VY X' K s' N hr fun g hg N=>by
  obtain⟨h1,v,h',n',e,hR⟩:=h g hg N;refine⟨h1,?_⟩;rw[e];exact⟨hR,fun R q=>q⟩
end
end
abbrev eI:V->I es->Nat->Prop:=fun _ _ _=>True
section
variable{P:Program}{X hc:Nat}{c:Code}{s:St}{Q:Exit->St->Prop}{iX:Nat}{fn:Func}
def jU.loop(P:Program)(X:Nat)(fn:Func)(live:List Nat)(s':V->I es->Nat->Prop)(Tr:Nat->St->Prop)(k:Nat)(Q:Exit->St->Prop):jU->Prop
 | .to .normal s=>∃k',k'<k/\Tr k' s
 | .to y s=>∀R,ld X live R=some s->Q y R
 | .ret v h n=>s' v h n/\∀R,fV P X fn s' .ret R->Q .ret R
 | .bad=>False
end
theorem qI{E:Env}{h:I es}{n:Nat}{w:World}{v:V}{h':I es}{n':Nat}{e:Ending}{w':World}(XA:∀m,¬ff h m)(c:jj E h n w (.ret v) h' n' e w'):(∃E,wS E (.ret v) e)/\Below w.heap.size w w':=by
 obtain⟨E',u,_,_,_,ho⟩:=c;exact⟨⟨E',ho⟩,u.os,u.tape,u.output,u.size,fun k U=>u.keep k U fun m s K=>absurd K (XA m)⟩
section
variable{P:Program}{f:FuncId}
theorem CN(K:P.follows .mixedOrders=true)(sJ:jT P=true){f:FuncId}{fn:Func}{code:Code}(hf:P.funcs[f]? =some fn)(Y:fn.body=some code){args:ag}{h:I es}{X:Nat}
  (l:(Nat.ble args.length fn.ntmps&&Nat.blt fn.ntmps gy)=true) {v:V} (hT:TG P X fn.ntmps code (dB args h X) (fV P X fn fun a _ _=>a=v))
  {E:Env} {w:World} {dQ:List Value} (ra:eC E args dQ) (g:Good E h w) (hd:qy E X) (XA:∀m,¬ff h m):
  Calls P f dQ.toArray w fun e w'=>(∃E,wS E (.ret v) e)/\Below w.heap.size w w':=
 (qH K sJ hf Y l _ hT ra g hd).mono fun e w' ⟨v',h',n',e1,k⟩=>by subst e1;exact qI XA k
theorem xb:∀m,¬ff (.nil:I es) m:=fun m k=>absurd rfl k.live
def gQ(f:ag->Option (ah×V)):ag->I es->Nat->Option (ah×V×I es×Nat):=fun args h n=>match f args with
 |some (fm,v)=>some (fm,v,h,n)
 |none=>none
theorem Iy{spec:ag->Option (ah×V)}(eY:f<P.funcs.size)(h:∀args fm v,spec args=some (fm,v)->V.tW args=true/\v.free=true/\((∀a∈fm,a)->
  ∀E w dQ,WG w->eC E args dQ->Calls P f dQ.toArray w fun e w'=>(∃E,wS E (.ret v) e)/\Below w.heap.size w w')):kj P f (gQ spec):=by
 refine⟨eY,fun args h' n fm v C n2 e hA E w dQ ra g hd N=>?_⟩;unfold gQ at e;split at e
 . rename_i A' v' hs;simp only[aq,aB]at e;obtain⟨rfl,rfl,rfl,rfl⟩:=e;obtain⟨h1,C,h3⟩:=h args _ _ hs;exact(h3 hA E w dQ g.wg ra).mono fun en w' ⟨ho,b⟩=>uX g hd C ho b
 . cases e
theorem Kg(K:P.follows .mixedOrders=true)(sJ:jT P=true){f:FuncId}{fn:Func}{code:Code}(hf:P.funcs[f]? =some fn)(Y:fn.body=some code){args:ag}
  (l:(Nat.ble args.length fn.ntmps&&Nat.blt fn.ntmps gy)=true) {v:V} (y9:V.tW args=true) (hT:TG P gN fn.ntmps code (dB args .nil gN) (fV P gN fn fun a _ _=>a=v)):
  ∀E w dQ,WG w->eC E args dQ->Calls P f dQ.toArray w fun e w'=>(∃E,wS E (.ret v) e)/\Below w.heap.size w w':=
 fun _ w _ hw ra=>CN K sJ hf Y l hT (nX _ _ y9 ra) (VP hw) (acJ (aK _)) xb
end
def PE(h:I es):List (Nat×IntKind)->Option (I es)
 | []=>some h
 |(m,k)::r=>match h.get m with
  |some (.cells cs)=>match pJ k cs with
   |some ks=>match Nat.blt m gy with
    |true=>PE (h.set m (some (.own k ks))) r
    |false=>none
   |none=>none
  |_=>none
theorem EJ{E:Env}{w:World}:∀(l:List (Nat×IntKind)) (h C:I es),PE h l=some C->Good E h w->Good E C w/\∀m,(C.get m≠none↔h.get m≠none)/\(ff C m->ff h m)
 | [],h,C,e,g=>by simp only[PE,aq]at e;subst e;exact⟨g,fun m=>⟨Iff.rfl,id⟩⟩
 |(m,k)::r,h,C,e,g=>by
  unfold PE at e;split at e
  case h_2=>cases e
  rename_i cs K;split at e
  case h_2=>cases e
  rename_i ks U;split at e
  case h_2=>cases e
  rename_i ht;have ht:m<gy:=aE ht;have qu:=rK U;have pb:∀j,(h.set m (some (.own k ks))).get j=if j=m then some (.own k ks)else h.get j:=fun j=>I.gw _ _ _ ht
  have Fp:∀j,((h.set m (some (.own k ks))).get j≠none↔h.get j≠none)/\(ff (h.set m (some (.own k ks))) j->ff h j):=by
   intro j;rw[pb];by_cases q:j=m
   . subst q;rw[aD rfl,K];exact⟨by simp,fun _=>⟨_,K,rfl⟩⟩
   . rw[aA q];exact⟨Iff.rfl,fun z=>pQ ht z q⟩
  have g1:Good E (h.set m (some (.own k ks))) w:=by
   refine⟨fun j o hj=>?_,fun j j' b s R jw hj Bh e1 e2=>g.inj j j' b s R jw ((Fp j).2 hj) ((Fp j').1.1 Bh) e1 e2,g.qt,g.lj,fun b c q=>⟨g.fz b c q,fun m' s tP=>(g.jo b c q).2 m' s ((Fp m').2 tP)⟩⟩;rw[pb]at hj;split at hj
   . rename_i q;subst q;obtain rfl:=eU hj;obtain⟨b,s,h1,C⟩:=g.rel j _ K;rw[qu]at C;exact⟨b,s,h1,C⟩
   . exact g.rel j o hj
  obtain⟨g2,k2⟩:=EJ r _ C e g1;exact⟨g2,fun j=>⟨(k2 j).1.trans (Fp j).1,fun z=>(Fp j).2 ((k2 j).2 z)⟩⟩
def XB(l:List (Nat×IntKind))(s:St):Option St:=match PE s.h l with
 |some h=>some { s with h:=h }
 |none=>none
theorem zL{P:Program}{X hc:Nat}{c:Code}{s s2:St}{Q:Exit->St->Prop}(l:List (Nat×IntKind))(e:XB l s=some s2)(h:TG P X hc c s2 Q):TG P X hc c s Q:=by
 unfold XB at e;split at e
 case h_2=>cases e
 rename_i C hh;obtain rfl:=eU e;intro E a w hm r hn k;obtain⟨g2,k2⟩:=EJ (E:=E) (w:=w) l s.h C hh r.good;have u:nk X E s.h w E C w:=⟨fun _ _ _ _ e=>⟨e,rfl⟩,fun _ _=>rfl,fun _ _ q=>q,g2,aK _,rfl,rfl,rfl,fun _ _ _=>rfl,fun m b s1 K e1 _=>⟨m,s1,(k2 m).1.1 K,e1,(k2 m).2⟩,fun _ _ q=>.inl q⟩;exact h E a w hm ⟨g2,r.rD,r.T,r.size,r.iE⟩ hn fun y R E' a' w' q u' od r'=>k y R E' a' w' q (u.trans u') od r'
theorem G.of{P:Program}{cs:lS}{dz:List (Nat×mj)}{iX X:Nat}{fn:Func}{live:List Nat}{c:Code}{s:St}{dx:List (List (Bool×Bool)×ah×jU)}(h1:AN P cs dz iX c s=true)(C:vP P cs dz iX c s=yn P cs dz iX c s)(h3:Bg P cs dz iX X fn live c s=dx):
  ∃iW,G P cs dz iX X fn live c s iW dx:=by
 refine⟨vP P cs dz iX c s,?_⟩;unfold G Tp;unfold AN at h1;unfold vP yn at C;unfold Bg at h3;unfold vP;cases hl:kz P cs dz iX c s with
 |none=>rw[hl]at h1;cases h1
 |some l=>
  rw[hl]at C h3;have C:tr l=w8 l:=C;have h3:yh (qm P X fn live) l=dx:=h3;show some (tr l,w8 l,yh (qm P X fn live) l)=some (tr l,tr l,dx);rw[h3,<- C]
end Go.Eng
