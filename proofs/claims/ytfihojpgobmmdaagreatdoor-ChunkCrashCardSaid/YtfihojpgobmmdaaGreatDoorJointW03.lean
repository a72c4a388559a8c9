/- The engine, part Z: runs in which some values stand open: tests are split, bounds are left to be shown. No conditions: lemmas alone. -/
import Derived.Test.YtfihojpgobmmdaaGreatDoorJointW02
set_option linter.unusedVariables false
set_option linter.unusedSimpArgs false
set_option linter.unusedSectionVars false
namespace Go.Eng
open Go Go.RowKit
structure pD where
 conds:List (Bool×Bool)
 same:List (V×V)
 UD:ah
def pD.nil:pD:=⟨[],[],[]⟩
def pD.app(a b:pD):pD:=⟨a.conds++b.conds,a.same++b.same,a.UD++b.UD⟩
def pD.ok(p:pD):Prop:=∀c∈p.conds,c.1=c.2
def pD.good(p:pD):Prop:=(∀c∈p.same,c.1=c.2)/\∀a∈p.UD,a
theorem pD.QA{a b:pD}:(a.app b).ok↔a.ok/\b.ok:=by
 simp only[pD.ok,pD.app,aU];exact⟨fun h=>⟨fun c hc=>h c (.inl hc),fun c hc=>h c (.inr hc)⟩,fun h c hc=>hc.elim (h.1 c) (h.2 c)⟩
theorem pD.QB{a b:pD}:(a.app b).good↔a.good/\b.good:=by
 simp only[pD.good,pD.app,aU];exact⟨fun h=>⟨⟨fun c hc=>h.1 c (.inl hc),fun c hc=>h.2 c (.inl hc)⟩,fun c hc=>h.1 c (.inr hc),fun c hc=>h.2 c (.inr hc)⟩,
  fun h=>⟨fun c hc=>hc.elim (h.1.1 c) (h.2.1 c),fun c hc=>hc.elim (h.1.2 c) (h.2.2 c)⟩⟩
abbrev M(α:Type):=Option (List (pD×α))
def M.ret{α:Type}(a:α):M α:=some [(.nil,a)]
def pre{α:Type}(p:pD):List (pD×α)->List (pD×α)
 | []=>[]
 |e::r=>(p.app e.1,e.2)::pre p r
def M.bind{α β:Type}:List (pD×α)->(α->M β)->M β
 | [],_=>some []
 |(p,a)::r,f=>match f a with
  |some l1=>match M.bind r f with
   |some l2=>some (pre p l1++l2)
   |none=>none
  |none=>none
def M.then{α β:Type}(m:M α)(f:α->M β):M β:=match m with
 |some l=>M.bind l f
 |none=>none
def fq{α:Type}(m:M α)(r:Option α):Prop:=∀l,m=some l->(∃e∈l,e.1.ok)/\∀e∈l,e.1.ok->e.1.good->r=some e.2
theorem Gs{α:Type}{p:pD}:∀{l:List (pD×α)} {e:pD×α},e∈pre p l↔∃e'∈l,e=(p.app e'.1,e'.2)
 | [],e=>by simp[pre]
 |x::r,e=>by
  simp only[pre,aE,Gs];exact⟨fun h=>h.elim (fun q=>⟨x,.inl rfl,q⟩) fun⟨e',h1,h2⟩=>⟨e',.inr h1,h2⟩,fun⟨e',h1,h2⟩=>h1.elim (fun q=>.inl (by rw[h2,q])) fun q=>.inr ⟨e',q,h2⟩⟩
theorem Iu{α β:Type}{f:α->M β}:∀{l:List (pD×α)} {l2:List (pD×β)},M.bind l f=some l2->(∀e∈l2,∃d∈l,∃l1,f d.2=some l1/\∃e'∈l1,e=(d.1.app e'.1,e'.2))/\(∀d∈l,∃l1,f d.2=some l1/\∀e'∈l1,(d.1.app e'.1,e'.2)∈l2)
 | [],l2,h=>by
   simp only[M.bind,an]at h;subst h;exact⟨fun e he=>by simp at he,fun d hd=>by simp at hd⟩
 |(p,a)::r,l2,h=>by
  simp only[M.bind]at h;split at h
  . rename_i l1 h1;split at h
    . rename_i l3 h3;obtain rfl:=ew h;obtain⟨k1,k2⟩:=Iu h3;refine⟨fun e he=>?_,fun d hd=>?_⟩
      . rcases aU.1 he with q|q
        . obtain⟨e',q1,q2⟩:=Gs.1 q;exact⟨(p,a),by simp,l1,h1,e',q1,q2⟩
        . obtain⟨d,d1,d2⟩:=k1 e q;exact⟨d,by simp[d1],d2⟩
      . rcases aE.1 hd with rfl|hd
        . exact⟨l1,h1,fun e' Bv=>aU.2 (.inl (Gs.2 ⟨e',Bv,rfl⟩))⟩
        . obtain⟨l1',q1,q2⟩:=k2 d hd;exact⟨l1',q1,fun e' Bv=>aU.2 (.inr (q2 e' Bv))⟩
    . cases h
  . cases h
theorem fq.ret{α:Type}(a:α):fq (M.ret a) (some a):=by
 intro l h;simp only[M.ret,an]at h;subst h;exact⟨⟨_,aq.2 rfl,fun c hc=>by simp[pD.nil]at hc⟩,fun e he _ _=>by simp only[aq]at he;subst he;rfl⟩
theorem fq.none{α:Type}(r:Option α):fq (none:M α) r:=fun l h=>by cases h
theorem fq.then{α β:Type}{m:M α}{f:α->M β}{r:Option α}{g:α->Option β}(h:fq m r)(hf:∀a,fq (f a) (g a)):fq (m.then f) (r.bind g):=by
 intro l2 e;unfold M.then at e;split at e
 . rename_i l;obtain⟨⟨d,hd,ic⟩,h2⟩:=h l rfl;obtain⟨k1,k2⟩:=Iu e;refine⟨?_,fun e he ajU Zu=>?_⟩
   . obtain⟨l1,q1,q2⟩:=k2 d hd;obtain⟨⟨e',Bv,Uy⟩,_⟩:=hf d.2 l1 q1;exact⟨_,q2 e' Bv,pD.QA.2 ⟨ic,Uy⟩⟩
   . obtain⟨d,hd,l1,q1,e',Bv,rfl⟩:=k1 e he;obtain⟨o1,o2⟩:=pD.QA.1 ajU;obtain⟨g1,g2⟩:=pD.QB.1 Zu;rw[h2 d hd o1 g1];exact(hf d.2 l1 q1).2 e' Bv o2 g2
 . cases e
theorem fq.of_eq{α:Type}{m:M α}{r r':Option α}(h:fq m r)(e:r=r'):fq m r':=e▸h
def vf(P:Program)(t:TypeId):Option Nat:=match ux P t with
 |some e=>kN P e
 |none=>none
def pY(P:Program):List Field->ag->ag->Option Bool
 | [],_,_=>some true
 |f::fs,xs,ys=>match decide (f.name= "_")with
  |true=>none
  |false=>match P.underlying f.type,wM P f.type xs f.offset,wM P f.type ys f.offset with
   |some (.int _),some (.int k a),some (.int k' b)=>match decide (k=k')with
    |true=>match pY P fs xs ys with
     |some r=>some ((a==b)&&r)
     |none=>none
    |false=>none
   |_,_,_=>none
theorem yV{P:Program}{d:Nat}:∀{fs:List Field} {xs ys:ag} {r:Bool},pY P fs xs ys=some r->eqFields P (fun u a b=>Mm P (d+1) u a b) fs xs ys=some r
 | [],_,_,r,e=>by simpa only[pY,eqFields]using e
 |f::fs,xs,ys,r,e=>by
  simp only[pY]at e;split at e
  . cases e
  . rename_i hn;have hn:=aJ hn;split at e
    . rename_i k0 k a k' b h1 h2 h3;split at e
      . rename_i hk;have hk:=aH hk;subst hk;split at e
        . rename_i r' hr;obtain rfl:=ew e;have ih:=yV (d:=d) hr;simp only[eqFields,aG hn,h2,h3];have:Mm P (d+1) f.type (.int k a) (.int k b)=some (a==b):=by simp only[Mm,h1,if_true]
          rw[this];cases hab:a==b with
          |true=>simp only[Bool.true_and];exact ih
          |false=>simp only[Bool.false_and]
        . cases e
      . cases e
    . cases e
def Mz(P:Program)(t:TypeId)(xs ys:ag):Option Bool:=
 match P.eqGuardType P.depth t with
 |true=>none
 |false=>match P.underlying t with
  |some (.struct nM)=>match P.stoodInHeld t with
   |true=>none
   |false=>pY P nM.toList xs ys
  |_=>none
theorem UE{P:Program}{d:Nat}{t:TypeId}{nM:Array Field}{xs ys:ag}{r:Bool}(hu:P.underlying t=some (.struct nM))(hs:P.stoodInHeld t=false)(e:pY P nM.toList xs ys=some r):Mm P (d+1+1) t (.agg xs) (.agg ys)=some r:=by
 simp only[Mm,hu,hs,aO,cG];exact yV (d:=d) e
theorem Iv{P:Program}{t:TypeId}{x y:Operand}{xs ys:ag}{r:Bool}(e:Mz P t xs ys=some r):FV P t x y (.agg xs) (.agg ys)=some r:=by
 unfold Mz at e;split at e
 . cases e
 . rename_i hg;split at e
   . rename_i nM hu;split at e
     . cases e
     . rename_i hs;simp only[FV,hg,aO,cG];exact UE (d:=9998) hu hs e
   . cases e
def kP(P:Program)(o:Oper)(fr:Tr V)(h:Tr O)(n:Nat):Option (ah×R):=match dD P o fr h n with
 |some r=>some ([],r)
 |none=>none
def QC(h:Tr O):V->Bool
 | .di (some (m,_)) _ _ _=>match h.get m with
   |some (.ints _ _)=>true
   |some (.own _ _)=>true
   |some (.deep _)=>true
   |some (.iX _ _ _)=>true
   |_=>false
 | .dM _ _ _=>true
 | .str _=>true
 |_=>false
def Gt(h:Tr O)(size:Nat)(x:V):Option (ah×Nat×Row):=
 match x with
 | .dM _ cO cs=>some ([cs.length=cO*size],cO,.ds cs)
 |x=>match QC h x with
 |true=>match x with
  | .di (some (m,o)) cO _ jv=>match Nat.beq jv size,(h.get m).bind O.NI with
    |true,some (.is k ks)=>some ([0<cO,o+cO*size<=ks.length],cO,.is k ((ks.drop o).take (cO*size)))
    |true,some (.ds cs)=>some ([0<cO,o+cO*size<=cs.length],cO,.ds ((cs.drop o).take (cO*size)))
    |_,_=>none
  | .str s=>match Nat.beq size 1 with
    |true=>some ([],s.length,.is .u8 (dX s))
    |false=>none
  |_=>none
 |false=>match jx h size x with
  |some (k,r)=>some ([],k,r)
  |none=>none
theorem tu{h:Tr O}{size k:Nat}{x:V}{A:ah}{r:Row}(e:Gt h size x=some (A,k,r))(hA:∀a∈A,a):jx h size x=some (k,r):=by
 unfold Gt at e;split at e
 . simp only[an,aB]at e;obtain⟨rfl,rfl,rfl⟩:=e;have h1:=hA _ (aq.2 rfl);simp only[jx,aG h1]
 split at e
 . split at e
   . rename_i m o cO cp jv _ _;split at e
     . rename_i k' ks hb hr;simp only[an,aB]at e;obtain⟨rfl,rfl,rfl⟩:=e;have h1:0<cO:=hA _ (by simp);have h2:o+cO*size<=ks.length:=hA _ (by simp);have hb:=aD hb;cases hm:h.get m with
       |none=>rw[hm]at hr;cases hr
       |some ob=>
        rw[hm]at hr;have hr:ob.NI=some (.is k' ks):=hr;cases cO with
        |zero=>omega
        |succ cO=>simp only[jx,hb,if_true,hm,hr,Row.cut,aG h2]
     . rename_i cs hb hr;simp only[an,aB]at e;obtain⟨rfl,rfl,rfl⟩:=e;have h1:0<cO:=hA _ (by simp);have h2:o+cO*size<=cs.length:=hA _ (by simp);have hb:=aD hb;cases hm:h.get m with
       |none=>rw[hm]at hr;cases hr
       |some ob=>
        rw[hm]at hr;have hr:ob.NI=some (.ds cs):=hr;cases cO with
        |zero=>omega
        |succ cO=>simp only[jx,hb,if_true,hm,hr,Row.cut,aG h2]
     . cases e
   . split at e
     . rename_i hb;simp only[an,aB]at e;obtain⟨rfl,rfl,rfl⟩:=e;simp only[jx,aG (aD hb)]
     . cases e
   . cases e
 . split at e
   . rename_i k' r' h1;simp only[an,aB]at e;obtain⟨rfl,rfl,rfl⟩:=e;exact h1
   . cases e
def Ai(cO size o:Nat):Row->Option (ah×Row)
 | .is k ks=>some ([0<cO,o+cO*size<=ks.length],.is k ((ks.drop o).take (cO*size)))
 | .ds cs=>some ([o+cO*size<=cs.length],.ds ((cs.drop o).take (cO*size)))
 | .vs cs=>match cO with
   |0=>some ([],.vs [])
   |_=>match(Row.vs cs).cut o (cO*size)with
    |some r=>some ([],r)
    |none=>none
theorem Oi{cO size o:Nat}{r old:Row}{A:ah}(e:Ai cO size o r=some (A,old))(hA:∀a∈A,a):(if r.soft=false/\cO=0 then some (.vs [])else r.cut o (cO*size):Option Row)=some old:=by
 cases r with
 |is k ks=>
  simp only[Ai,an,aB]at e;obtain⟨rfl,rfl⟩:=e;have h1:0<cO:=hA _ (by simp);have h2:o+cO*size<=ks.length:=hA _ (by simp);rw[aI be];simp only[Row.cut,aG h2]
 |ds cs=>
  simp only[Ai,an,aB]at e;obtain⟨rfl,rfl⟩:=e;have h2:o+cO*size<=cs.length:=hA _ (by simp);rw[aI (fun q=>by have:=q.1;cases this)];simp only[Row.cut,aG h2]
 |vs cs=>
  cases cO with
  |zero=>
   simp only[Ai,an,aB]at e;obtain⟨rfl,rfl⟩:=e;rfl
  |succ cO=>
   simp only[Ai]at e;split at e
   . rename_i r' h1;obtain⟨rfl,rfl⟩:=fa e;rw[aI be];exact h1
   . cases e
def Gu(i:TypeInfo)(z:V):Bool:=decide (0<i.size)&&(decide (0<i.bytes)&&decide (z.cells.length=i.size))
def QD(h:Tr O)(m:Nat):Option (TypeId×Bool×aa):=match h.get m with
 |some (.iX e f s)=>some (e,f,s)
 |_=>none
def Aj(P:Program)(eE:Array TypeId)(args:ag)(h:Tr O)(n:Nat):Option (ah×R):=
 match eE[0]?,eE[1]?,args with
 |some st,some xt,[s,x]=>match ux P st,P.underlying xt with
  |some e,some xd=>match J0 xd,P.info? e,zeroOf P e with
   |true,some i,some z=>match Gu i z,Gt h i.size x with
    |true,some (A,k,new)=>match new.flat with
     |true=>match s with
      | .di none 0 _ _=>match newObj h n (B7 e x new)with
        |some (h',n')=>some (A++[0<k,eT k i.size i.bytes=true],.val (.di (some (n,0)) k k i.size) h' n')
        |none=>none
      | .dM true cO cs=>match newObj h n ((Row.ds cs).app new).EC with
        |some (h',n')=>some (A++[0<k,eT (cO+k) i.size i.bytes=true,cs.length=cO*i.size],.val (.di (some (n,0)) (cO+k) (cO+k) i.size) h' n')
        |none=>none
      | .di (some (m,o)) cO cp jv=>match QD h m with
        |some (el,AL,s0)=>match Nat.beq jv i.size&&(Nat.blt m fN&&(Nat.beq o 0&&(Nat.beq i.size 1&&decide (el=e)))),uE new with
         |true,some t=>match newObj (h.set m none) n (.iX el AL (s0++t))with
          |some (h',n')=>some (A++[0<cp,cO=s0.length,eT (cO+k) i.size i.bytes=true],.val (.di (some (n,0)) (cO+k) (cO+k) jv) h' n')
          |none=>none
         |_,_=>none
        |none=>match Nat.beq jv i.size&&Nat.blt m fN,(h.get m).bind O.row with
        |true,some r=>match Ai cO i.size o r with
         |some (B,old)=>match newObj (h.set m none) n (old.app new).EC with
          |some (h',n')=>match new.soft with
           |true=>some (A++(B++[eT (cO+k) i.size i.bytes=true]),.val (.di (some (n,0)) (cO+k) (cO+k) jv) h' n')
           |false=>some (A++(B++[0<k,eT (cO+k) i.size i.bytes=true]),.val (.di (some (n,0)) (cO+k) (cO+k) jv) h' n')
          |none=>none
         |none=>none
        |_,_=>none
      |_=>none
     |false=>none
    |_,_=>none
   |_,_,_=>none
  |_,_=>none
 |_,_,_=>none
theorem Gv{P:Program}{eE:Array TypeId}{args:ag}{h:Tr O}{n:Nat}{A:ah}{r:R}(e:Aj P eE args h n=some (A,r))(hA:∀a∈A,a):yj P eE args h n=some r:=by
 unfold Aj at e;split at e
 . rename_i st xt s x h1 h2;split at e
   . rename_i el xd h3 h4;split at e
     . rename_i i z h5 h6 h7;split at e
       . rename_i A1 k new h8 h9;simp only[Gu,aC,bC]at h8;split at e
         . rename_i TZ;unfold yj;simp only[h1,h2,h3,h4,h5,h6,h7];rw[aG h8];split at e
           . cases ho:newObj h n (B7 el x new)with
             |none=>rw[ho]at e;cases e
             |some p=>
              rw[ho]at e;obtain⟨rfl,rfl⟩:=fa e;have ht:=tu h9 fun a ha=>hA a (by simp[ha]);have hk:0<k:=hA _ (by simp);have hr:eT k i.size i.bytes=true:=hA _ (by simp);rw[ht];simp only[TZ,if_true];cases k with
              |zero=>omega
              |succ k=>simp only[aG hr,ho]
           . rename_i cO cs;cases ho:newObj h n ((Row.ds cs).app new).EC with
             |none=>rw[ho]at e;cases e
             |some p=>
              rw[ho]at e;obtain⟨rfl,rfl⟩:=fa e;have ht:=tu h9 fun a ha=>hA a (by simp[ha]);have hk:0<k:=hA _ (by simp);have hr:eT (cO+k) i.size i.bytes=true:=hA _ (by simp);have hc:cs.length=cO*i.size:=hA _ (by simp);rw[ht];simp only[TZ,if_true];cases k with
              |zero=>omega
              |succ k=>simp only[aG (And.intro hr hc),ho]
           . rename_i m o cO cp jv;split at e
             . rename_i Zv AL s0 F5;have hm:h.get m=some (.iX Zv AL s0):=by
                unfold QD at F5;split at F5
                . rename_i hq;cases F5;exact hq
                . cases F5
               split at e
               case h_2=>cases e
               rename_i t hb ht;simp only[aC]at hb;cases ho:newObj (h.set m none) n (.iX Zv AL (s0++t))with
               |none=>rw[ho]at e;cases e
               |some p=>
                rw[ho]at e;obtain⟨rfl,rfl⟩:=fa e;have htl:=tu h9 fun a ha=>hA a (by simp[ha]);have q1:0<cp:=hA _ (by simp);have q2:cO=s0.length:=hA _ (by simp);have q3:eT (cO+k) i.size i.bytes=true:=hA _ (by simp);rw[htl];simp only[TZ,if_true];rw[aG ⟨aD hb.1,q3,au hb.2.1⟩];simp only[hm,ht];rw[aG ⟨⟨aD hb.2.2.1,q1⟩,⟨Nat.le_of_eq q2,fun _=>q2⟩,aD hb.2.2.2.1,aH hb.2.2.2.2⟩];simp only[q2,aS];rw[<- q2];simp only[ho]
             rename_i hnb;split at e
             . rename_i r0 hb xo;split at e
               . rename_i B old oA;cases ho:newObj (h.set m none) n (old.app new).EC with
                 |none=>rw[ho]at e;cases e
                 |some p=>
                  rw[ho]at e;simp only at e;have XJ:(∀a∈A1,a)->(∀a∈B,a)->(new.soft=false->0<k)->eT (cO+k) i.size i.bytes=true->R.val (.di (some (n,0)) (cO+k) (cO+k) jv) p.1 p.2=r->
                   (match jx h i.size x with
                    |some (k,new)=>
                     if new.flat=true then
                      if jv=i.size/\eT (cO+k) i.size i.bytes=true/\m<fN then
                       match h.get m with
                       |some (.iX Zv AL s0)=>match uE new with
                        |some t=>if(o=0/\0<cp)/\(cO<=s0.length/\(AL=true->cO=s0.length))/\(i.size=1/\Zv=el)then(match newObj (h.set m none) n (.iX Zv AL (s0.take cO++t))with
                         |some (h',n')=>some (.val (.di (some (n,0)) (cO+k) (cO+k) jv) h' n')
                         |none=>none)else none
                        |none=>none
                       |some ob=>match ob.row with
                        |some r=>
                         match(if r.soft=false/\cO=0 then some (.vs [])else r.cut o (cO*i.size):Option Row)with
                         |some old=>
                          if new.soft=false/\k=0 then some (.val (.di (some (m,o)) cO cp jv) h n)
                          else match newObj (h.set m none) n (old.app new).EC with
                           |some (h',n')=>some (.val (.di (some (n,0)) (cO+k) (cO+k) jv) h' n')
                           |none=>none
                         |none=>none
                        |none=>none
                       |_=>none
                      else none
                     else none
                    |none=>none:Option R)=some r:=by
                   intro hA1 hB hk hr Iw;subst Iw;have ht:=tu h9 hA1;have ad3:=Oi oA hB;simp only[aC]at hb;have yD:=aD hb.1;have HT:m<fN:=au hb.2;cases hm:h.get m with
                   |none=>rw[hm]at xo;cases xo
                   |some ob=>
                    rw[hm]at xo;have xo:ob.row=some r0:=xo;rw[ht];simp only[TZ,if_true];rw[aG ⟨yD,hr,HT⟩];have ad4:∀e f s,ob≠ .iX e f s:=fun e f s q=>by subst q;unfold QD at hnb;rw[hm]at hnb;cases hnb
                    cases ob<;>first|exact absurd rfl (ad4 _ _ _)|skip
                    all_goals
                    simp only[xo,ad3];rw[aI (fun q=>by have:=hk q.1;omega)];simp only[ho]
                  split at e
                  . simp only[an,aB]at e;obtain⟨rfl,Iw⟩:=e;rename_i XK;exact XJ (fun a ha=>hA a (by simp[ha])) (fun a ha=>hA a (by simp[ha])) (fun q=>by rw[q]at XK;cases XK) (hA _ (by simp)) Iw
                  . simp only[an,aB]at e;obtain⟨rfl,Iw⟩:=e;exact XJ (fun a ha=>hA a (by simp[ha])) (fun a ha=>hA a (by simp[ha])) (fun _=>hA _ (by simp)) (hA _ (by simp)) Iw
               . cases e
             . cases e
           . cases e
         . cases e
       . cases e
     . cases e
   . cases e
 . cases e
def CT(P:Program)(t:TypeId)(h:Tr O)(v:V)(m o:Nat)(k:IntKind)(ks:List Int):Option (ah×Tr O):=
 match kN P t,oT k v.cells with
 |some s,some new=>match Nat.beq v.cells.length s&&(Nat.blt 0 s&&Nat.blt m fN)with
  |true=>some ([o+s<=ks.length],h.set m (some (.own k (fS ks o new))))
  |false=>none
 |_,_=>none
theorem Ix{P:Program}{t:TypeId}{h h':Tr O}{v:V}{m o:Nat}{k:IntKind}{ks:List Int}{A:ah}(hm:h.get m=some (.own k ks))(e:CT P t h v m o k ks=some (A,h'))(hA:∀a∈A,a):storeAt P t h v (.ptr (some (m,o)))=some h':=by
 unfold CT at e;split at e
 . rename_i s new h1 h2;split at e
   . rename_i hb;obtain⟨rfl,rfl⟩:=fa e;simp only[aC]at hb;have h3:=aD hb.1;have h4:0<s:=au hb.2.1;have h5:m<fN:=au hb.2.2;have h6:o+s<=ks.length:=hA _ (by simp);simp only[storeAt,hm,h1,h2];rw[aG ⟨h3,h4,h5⟩,aG h6]
   . cases e
 . cases e
def Gw(k:IntKind)(ks:List Int)(off sz:Nat):V:=.agg ((List.range sz).map fun j=>V.int k (ks.getD (off+j) 0))
theorem KD{P:Program}{t:TypeId}{k:IntKind}{ks:List Int}{off sz:Nat}(ha:NH P t=some true)(hs:kN P t=some sz)(hl:off+sz<=ks.length):lj P t (ks.map (.int k)) off=some (Gw k ks off sz):=by
 simp only[lj,ha,hs,cut,aW,aG hl,bh,Gw,an,V.agg.injEq];apply List.ext_getElem
 . simp;omega
 . intro i h1 h2;simp at h1 h2;have:off+i<ks.length:=by omega
   simp[List.getD,this]
def BK(P:Program)(t:TypeId)(k:IntKind)(ks:List Int)(off:Nat):Option (Prop×V):=match NH P t with
 |some false=>some (off<ks.length,.int k (ks.getD off 0))
 |some true=>match kN P t with
  |some sz=>some (off+sz<=ks.length,Gw k ks off sz)
  |none=>none
 |none=>none
theorem CU{P:Program}{t:TypeId}{k:IntKind}{ks:List Int}{off:Nat}{p:Prop}{v:V}(e:BK P t k ks off=some (p,v))(hp:p):lj P t (ks.map (.int k)) off=some v:=by
 unfold BK at e;split at e
 . rename_i Zw;obtain⟨rfl,rfl⟩:=fa e;simp only[lj,Zw,br,ay hp,bh,aL,Option.getD_some]
 . rename_i Zw;split at e
   . rename_i sz hs;obtain⟨rfl,rfl⟩:=fa e;exact KD Zw hs hp
   . cases e
 . cases e
def Ak(P:Program)(t:TypeId):Bool:=match P.underlying t with
 |some .string=>true
 |_=>false
theorem v8{P:Program}{t:TypeId}(h:Ak P t=true):P.underlying t=some .string:=by
 unfold Ak at h;split at h
 . assumption
 . cases h
def A8(P:Program)(o:Oper)(fr:Tr V)(h:Tr O)(n:Nat):Option (ah×R):=
 match o.op with
 | .indexAddr t x i=>match iK fr x,iK fr i with
   |some (.di (some (m,off)) cO _ jv),some (.int _ ix)=>match vf P t with
    |some s=>match Nat.beq s jv with
     |true=>some ([0<=ix/\ix<cO],.val (.ptr (some (m,off+ix.toNat*s))) h n)
     |false=>none
    |none=>none
   |_,_=>kP P o fr h n
 | .load t a=>match iK fr a with
   |some (.ptr (some (m,off)))=>match h.get m with
    |some (.ints k ks)=>match BK P t k ks off with
     |some (p,v)=>some ([p],.val v h n)
     |none=>none
    |some (.own k ks)=>match BK P t k ks off with
     |some (p,v)=>some ([p],.val v h n)
     |none=>none
    |_=>kP P o fr h n
   |_=>kP P o fr h n
 | .store t a x=>match iK fr a,iK fr x with
   |some (.ptr (some (m,off))),some v=>match h.get m with
    |some (.own k ks)=>match CT P t h v m off k ks with
     |some (A,h')=>some (A,.val (.ef []) h' n)
     |none=>none
    |_=>kP P o fr h n
   |_,_=>kP P o fr h n
 | .call c=>match c.callee with
   | .builtin .append=>match uF fr c.args.toList with
     |some [s,x]=>match QC h s||QC h x with
      |true=>match Nat.beq c.argTypes.size 2 with
       |true=>Aj P c.argTypes [s,x] h n
       |false=>none
      |false=>kP P o fr h n
     |_=>kP P o fr h n
   |_=>kP P o fr h n
 | .slice t x (some lo) (some hi) none=>match iK fr x,iK fr lo,iK fr hi with
   |some (.di a cO cP jv),some (.int _ lx),some (.int _ hx)=>match vf P t with
    |some s=>match Nat.beq s jv||a.isNone with
     |true=>some ([0<=hx/\hx<=cP,0<=lx/\lx<=hx.toNat],.val (.di (match a with|none=>none|some (b,o)=>some (b,o+lx.toNat*jv)) (hx.toNat-lx.toNat) (cP-lx.toNat) jv) h n)
     |false=>none
    |none=>none
   |some (.str s),some (.int _ lx),some (.int _ hx)=>match Ak P t with
    |true=>some ([0<=hx/\hx<=s.length,0<=lx/\lx<=hx.toNat],.val (.str ((s.take hx.toNat).drop lx.toNat)) h n)
    |false=>none
   |_,_,_=>kP P o fr h n
 | .slice t x none (some hi) none=>match iK fr x,iK fr hi with
   |some (.di a cO cP jv),some (.int _ hx)=>match vf P t with
    |some s=>match Nat.beq s jv||a.isNone with
     |true=>some ([0<=hx/\hx<=cP],.val (.di (match a with|none=>none|some (b,o)=>some (b,o+0*jv)) (hx.toNat-0) (cP-0) jv) h n)
     |false=>none
    |none=>none
   |some (.str s),some (.int _ hx)=>match Ak P t with
    |true=>some ([0<=hx/\hx<=s.length],.val (.str ((s.take hx.toNat).drop 0)) h n)
    |false=>none
   |_,_=>kP P o fr h n
 | .slice t x (some lo) none none=>match iK fr x,iK fr lo with
   |some (.di a cO cP jv),some (.int _ lx)=>match vf P t with
    |some s=>match Nat.beq s jv||a.isNone with
     |true=>some ([0<=lx/\lx<=cO],.val (.di (match a with|none=>none|some (b,o)=>some (b,o+lx.toNat*jv)) (cO-lx.toNat) (cP-lx.toNat) jv) h n)
     |false=>none
    |none=>none
   |some (.str s),some (.int _ lx)=>match Ak P t with
    |true=>some ([0<=lx/\lx<=s.length],.val (.str ((s.take s.length).drop lx.toNat)) h n)
    |false=>none
   |_,_=>kP P o fr h n
 | .binOp .eql t x y _=>match iK fr x,iK fr y with
   |some (.agg xs),some (.agg ys)=>match Mz P t xs ys with
    |some r=>some ([],.val (.bool r) h n)
    |none=>none
   |_,_=>kP P o fr h n
 | .binOp .neq t x y _=>match iK fr x,iK fr y with
   |some (.agg xs),some (.agg ys)=>match Mz P t xs ys with
    |some r=>some ([],.val (.bool (!r)) h n)
    |none=>none
   |_,_=>kP P o fr h n
 | .binOp .quo t x y _=>match iK fr x,iK fr y with
   |some (.int k a),some (.int k' b)=>match decide (k=k')with
    |true=>some ([b≠0],.val (.int k (k.wrap (a.tdiv b))) h n)
    |false=>none
   |_,_=>kP P o fr h n
 | .index t x i=>match iK fr x,iK fr i with
   |some (.str s),some (.int _ ix)=>match Ak P t with
    |true=>some ([0<=ix/\ix.toNat<s.length],.val (.int .u8 (s.getD ix.toNat 0).toNat) h n)
    |false=>none
   |_,_=>kP P o fr h n
 |_=>kP P o fr h n
theorem gV{P:Program}{o:Oper}{fr:Tr V}{h:Tr O}{n:Nat}{l:ah}{r:R}(e:kP P o fr h n=some (l,r)):dD P o fr h n=some r:=by
 unfold kP at e;split at e
 . rename_i r' hr;simp only[an,aB]at e;obtain⟨_,rfl⟩:=e;exact hr
 . cases e
theorem pZ{P:Program}{t:TypeId}{s:Nat}(e:vf P t=some s):∃el,P.underlying t=some (.slice el)/\kN P el=some s:=by
 unfold vf ux at e;cases hu:P.underlying t with
 |none=>simp[hu]at e
 |some d=>cases d<;>simp[hu]at e
          exact⟨_,rfl,e⟩
theorem sg{P:Program}{o:Oper}{fr:Tr V}{h:Tr O}{n:Nat}{l:ah}{r:R}(e:A8 P o fr h n=some (l,r))(hl:∀p∈l,p):dD P o fr h n=some r:=by
 unfold A8 at e;split at e
 . rename_i t x i ho;split at e
   . rename_i m off cO cp jv k ix hx hi;split at e
     . rename_i s hs;split at e
       . rename_i hb;obtain⟨rfl,rfl⟩:=fa e;have hb:=aD hb;subst hb;obtain⟨el,h1,h2⟩:=pZ hs;have hc:=hl _ (aq.2 rfl);simp only[dD,ho,hx,hi,nO,h1,h2,mS];rw[aG (by exact⟨hc.1,hc.2,trivial⟩)]
       . cases e
     . cases e
   . exact gV e
 . rename_i t a ho;split at e
   . rename_i m off ha;split at e
     . rename_i k ks hm;split at e
       . rename_i p v hs;obtain⟨rfl,rfl⟩:=fa e;have hp:p:=hl _ (aq.2 rfl);simp only[dD,ho,ha,loadAt,hm,CU hs hp,mS]
       . cases e
     . rename_i k ks hm;split at e
       . rename_i p v hs;obtain⟨rfl,rfl⟩:=fa e;have hp:p:=hl _ (aq.2 rfl);simp only[dD,ho,ha,loadAt,hm,CU hs hp,mS]
       . cases e
     . exact gV e
   . exact gV e
 . rename_i t a x ho;split at e
   . rename_i m off v ha hx;split at e
     . rename_i k ks hm;split at e
       . rename_i A h' hs;obtain⟨rfl,rfl⟩:=fa e;simp only[dD,ho,ha,hx,Ix hm hs hl]
       . cases e
     . exact gV e
   . exact gV e
 . rename_i c ho;split at e
   . rename_i hc;split at e
     . rename_i s x nG;split at e
       . split at e
         . rename_i hb;have hb:=aD hb;simp only[dD,ho,wN,nG,hc,lp,hb,if_true];exact Gv e hl
         . cases e
       . exact gV e
     . exact gV e
   . exact gV e
 . rename_i t x lo hi ho;split at e
   . rename_i a cO cp jv k lx k2 hx sM yF Mt;split at e
     . rename_i s hs;split at e
       . rename_i hb;obtain⟨rfl,rfl⟩:=fa e;obtain⟨el,h1,h2⟩:=pZ hs;have hc:=hl _ (aP ..);have Iy:=hl _ (aK _ (aq.2 rfl));have Gi:s=jv\/a=none:=by
          simp only[bT,Option.isNone_iff_eq_none]at hb;exact hb.imp aD _root_.id
         simp only[dD,ho,sM,yF,Mt,mF,mD,h1,h2,mS,Option.isSome_none,aO,false_and,cG];rw[aG Gi];simp only[eK,aG hc,aG Iy];cases a<;>rfl
       . cases e
     . cases e
   . rename_i s k lx k2 hx sM yF Mt;split at e
     . rename_i hs;obtain⟨rfl,rfl⟩:=fa e;have hc:=hl _ (aP ..);have Iy:=hl _ (aK _ (aq.2 rfl));simp only[dD,ho,sM,yF,Mt,mF,mD,v8 hs,mS,Option.isSome_none,aO,false_and,cG,eK,aG hc,aG Iy]
     . cases e
   . exact gV e
 . rename_i t x hi ho;split at e
   . rename_i a cO cp jv k hx sM Mt;split at e
     . rename_i s hs;split at e
       . rename_i hb;obtain⟨rfl,rfl⟩:=fa e;obtain⟨el,h1,h2⟩:=pZ hs;have hc:=hl _ (aq.2 rfl);have Gi:s=jv\/a=none:=by
          simp only[bT,Option.isNone_iff_eq_none]at hb;exact hb.imp aD _root_.id
         simp only[dD,ho,sM,Mt,mF,mD,h1,h2,mS,Option.isSome_none,aO,false_and,cG];rw[aG Gi];simp only[eK,aG hc];cases a<;>rfl
       . cases e
     . cases e
   . rename_i s k hx sM Mt;split at e
     . rename_i hs;obtain⟨rfl,rfl⟩:=fa e;have hc:=hl _ (aq.2 rfl);simp only[dD,ho,sM,Mt,mF,mD,v8 hs,mS,Option.isSome_none,aO,false_and,cG,eK,aG hc]
     . cases e
   . exact gV e
 . rename_i t x lo ho;split at e
   . rename_i a cO cp jv k lx sM Mt;split at e
     . rename_i s hs;split at e
       . rename_i hb;obtain⟨rfl,rfl⟩:=fa e;obtain⟨el,h1,h2⟩:=pZ hs;have hc:=hl _ (aq.2 rfl);have Gi:s=jv\/a=none:=by
          simp only[bT,Option.isNone_iff_eq_none]at hb;exact hb.imp aD _root_.id
         simp only[dD,ho,sM,Mt,mF,mD,h1,h2,mS,Option.isSome_none,aO,false_and,cG];rw[aG Gi];simp only[eK,aG hc];cases a<;>rfl
       . cases e
     . cases e
   . rename_i s k lx sM Mt;split at e
     . rename_i hs;obtain⟨rfl,rfl⟩:=fa e;have hc:=hl _ (aq.2 rfl);simp only[dD,ho,sM,Mt,mF,mD,v8 hs,mS,Option.isSome_none,aO,false_and,cG,eK,aG hc]
     . cases e
   . exact gV e
 . rename_i t x y yt ho;split at e
   . rename_i xs ys hx hy;split at e
     . rename_i r hr;obtain⟨rfl,rfl⟩:=fa e;simp only[dD,ho,hx,hy,B4,Iv hr,bh,mS]
     . cases e
   . exact gV e
 . rename_i t x y yt ho;split at e
   . rename_i xs ys hx hy;split at e
     . rename_i r hr;obtain⟨rfl,rfl⟩:=fa e;simp only[dD,ho,hx,hy,B4,Iv hr,bh,mS]
     . cases e
   . exact gV e
 . rename_i t x y yt ho;split at e
   . rename_i k a k' b hx hy;split at e
     . rename_i hk;have hk:=aH hk;subst hk;obtain⟨rfl,rfl⟩:=fa e;have hb:b≠0:=hl _ (aq.2 rfl);have:B4 P .quo t x y (.int k a) (.int k b)=some (.int k (k.wrap (a.tdiv b))):=by
        simp[B4,binOp,Op.intDiv,hb,sO,iE];rfl
       simp only[dD,ho,hx,hy,this,mS]
     . cases e
   . exact gV e
 . rename_i t x i ho;split at e
   . rename_i s k ix hx hi;split at e
     . rename_i hs;obtain⟨rfl,rfl⟩:=fa e;have hc:0<=ix/\ix.toNat<s.length:=hl _ (aq.2 rfl);have hg:s[ix.toNat]? =some s[ix.toNat]:=ay hc.2;have hd:s.getD ix.toNat 0=s[ix.toNat]:=by rw[aL,hg];rfl
       simp only[dD,ho,hx,hi,FW,v8 hs,aG hc.1,hg,hd,mS]
     . cases e
   . exact gV e
 . exact gV e
inductive oZ where
 |split
 |dc (v:V)
def XM:List (Nat×oZ)->Nat->Option oZ
 | [],_=>none
 |x::r,d=>match Nat.beq x.1 d with
  |true=>some x.2
  |false=>XM r d
section
variable(H:List (Nat×oZ))(dst:Option Nat)
def KE(v:V):M V:=
 match dst with
 |none=>.ret v
 |some d=>match XM H d with
  |none=>.ret v
  |some (.dc u)=>some [(⟨[],[],[v=u]⟩,u)]
  |some .split=>match v with
   | .bool c=>some [(⟨[(c,true)],[],[]⟩,.bool true),(⟨[(c,false)],[],[]⟩,.bool false)]
   |v=>.ret v
theorem qA(v:V):fq (KE H dst v) (some v):=by
 unfold KE;split
 . exact .ret v
 . split
   . exact .ret v
   . rename_i u hu;intro l h;obtain rfl:=ew h;refine⟨⟨_,aq.2 rfl,fun c hc=>by simp at hc⟩,fun e he _ hg=>?_⟩;simp only[aq]at he;subst he;have:v=u:=hg.2 _ (aq.2 rfl);rw[this]
   . split
     . rename_i c;intro l h;obtain rfl:=ew h;refine⟨?_,fun e he ho _=>?_⟩
       . cases hc:c with
         |true=>exact⟨(⟨[(true,true)],[],[]⟩,.bool true),by simp,fun x hx=>by simp only[aq]at hx;subst hx;rfl⟩
         |false=>exact⟨(⟨[(false,false)],[],[]⟩,.bool false),by simp,fun x hx=>by simp only[aq]at hx;subst hx;rfl⟩
       . simp only[aE,aM,bt]at he;rcases he with rfl|rfl
         . have:c=true:=ho (c,true) (aq.2 rfl);rw[this]
         . have:c=false:=ho (c,false) (aq.2 rfl);rw[this]
     . exact .ret _
end
abbrev Ctr:=FuncId->ag->Tr O->Option (ah×V)
def pR:Option (PJ×Tr O×Nat)->Option (V×Tr O×Nat)
 |some (.ret v,h,n)=>some (v,h,n)
 |_=>none
theorem qB{α:Type}{m:M α}{r r':Option α}(h:fq m r)(e:∀a,r=some a->r'=some a):fq m r':=by
 intro l hl;obtain⟨h1,h2⟩:=h l hl;exact⟨h1,fun x hx ho hg=>e _ (h2 x hx ho hg)⟩
section
variable(P:Program)(S:Ctr)(cf:fO)(H:List (Nat×oZ))
theorem tw{α β:Type}(a:α)(g:α->Option β):(some a).bind g=g a:=rfl
def Oj{α β:Type}:Option (α ⊕ β)->Option α
 |some (.inl a)=>some a
 |_=>none
def BL(f:St->M (X×St)):Nat->St->M (X×St)
 |0,_=>none
 |k+1,s=>(f s).then fun p=>match p.1 with
  | .normal=>BL f k p.2
  |_=>.ret p
theorem wU{f:St->M (X×St)}{g:St->Option (X×St)}(h:∀s,fq (f s) (g s)):∀(k:Nat) (s:St),fq (BL f k s) (rounds g k s)
 |0,s=>.none _
 |k+1,s=>by
  simp only[BL,rounds];refine(fq.then (h s) (g:=fun p=>match p.1 with | .normal=>rounds g k p.2|_=>some p) (fun p=>?_)).of_eq ?_
  . obtain⟨x,s'⟩:=p;cases x with
    |normal=>exact wU h k s'
    |_=>exact .ret _
  . cases g s with
    |none=>rfl
    |some p=>obtain⟨x,s'⟩:=p;cases x<;>rfl
end
section
variable{P:Program}{S:Ctr}{cf:fO}{H:List (Nat×oZ)}{F N:Nat}{w0:World}{c:Code}{s:St}{Q:Exit->St->Prop}
def vg{α:Type}(f:X×St->α):List (pD×X×St)->List (List (Bool×Bool)×ah×α)
 | []=>[]
 |(p,x)::r=>(p.conds,p.UD,f x)::vg f r
def qC{α:Type}:List (pD×α)->ag
 | []=>[]
 |(p,_)::r=>p.same.map (·.1)++qC r
def vh{α:Type}:List (pD×α)->ag
 | []=>[]
 |(p,_)::r=>p.same.map (·.2)++vh r
def yW{α:Type}:M α->List (pD×α)
 |some l=>l
 |none=>[]
theorem Iz:∀{l:List (V×V)},l.map (·.1)=l.map (·.2)->∀c∈l,c.1=c.2
 | [],_,c,hc=>by simp at hc
 |x::r,h,c,hc=>by
  simp only[bW,List.cons.injEq]at h;rcases aE.1 hc with rfl|hc
  . exact h.1
  . exact Iz h.2 c hc
theorem yX{α:Type}:∀(l:List (pD×α)),qC l=vh l->∀p∈l,∀c∈p.1.same,c.1=c.2
 | [],_,p,hp=>by simp at hp
 |(q,x)::r,h,p,hp=>by
  simp only[qC,vh]at h;have hl:(q.same.map (·.1)).length=(q.same.map (·.2)).length:=by simp
  obtain⟨h1,h2⟩:=List.append_inj h hl;rcases aE.1 hp with rfl|hp
  . exact Iz h1
  . exact yX r h2 p hp
theorem si{α:Type}{f:X×St->α}:∀{l:List (pD×X×St)} {p:pD×X×St},p∈l->(p.1.conds,p.1.UD,f p.2)∈vg f l
 | [],p,hp=>by simp at hp
 |(q,x)::r,p,hp=>by
  rcases aE.1 hp with rfl|hp
  . simp[vg]
  . simp only[vg,aE];exact .inr (si hp)
end
theorem IA{E:Env}{h:Tr O}{n:Nat}{w:World}{v:V}(g:Good E h w)(hd:qL E n)(hv:v.free=true){e:Ending}{w':World}(ho:∃E',tf E' (.ret v) e)(b:Below w.heap.size w w'):jU E h n w (.ret v) h n e w':=by
 refine⟨E,.below g b,fun _ _=>rfl,hd,aA _,?_⟩
 . obtain⟨E1,ho⟩:=ho;cases e with
   |returned v'=>exact CK _ _ hv ho
   |_=>exact ho.elim
def QE(P:Program)(f:FuncId)(spec:ag->Tr O->Option (ah×V)):Prop:=f<P.funcs.size/\∀args h A v,spec args h=some (A,v)->v.free=true/\((∀a∈A,a)->
 ∀E n w c9,dI E args c9->Good E h w->qL E n->callee P f=true->Calls P f c9.toArray w fun e w'=>(∃E',tf E' (.ret v) e)/\Below w.heap.size w w')
def cT(args:ag)(h:Tr O)(n:Nat):St:={ fr:=lP args 0 .nil,h:=h,n:=n,gz:=[] }
section
variable{P:Program}{S:Ctr}{cf:fO}{H:List (Nat×oZ)}{F:Nat}{f:FuncId}{fn:Func}{code:Code}
end
def Env.two(E:Env)(a b:Option Nat):Env:=⟨fun j=>match j with|0=>a.bind E.ι|1=>b.bind E.ι|_=>none,E.β,E.φ⟩
section
variable{P:Program}{S:Ctr}{cf:fO}{H:List (Nat×oZ)}{F N:Nat}{w0:World}{c:Code}{s:St}{Q:Exit->St->Prop}
def ajW(P:Program)(cf:fO)(F:Nat)(fn:Func)(v:V)(y:Exit)(s':St):Prop:=(y= .normal\/y= .ret)/\∃h' n',nF P cf F fn s'.fr s'.gz .ret s'.h s'.n=some (.ret v,h',n')
inductive Res where
 |next (s:St)
 |exit (id:Nat) (s:St)
 |ret (v:V)
 |bad
def Res.post(P:Program)(cf:fO)(F:Nat)(fn:Func)(live:List Nat)(I:Nat->St->Prop)(k:Nat)(Q:Exit->St->Prop):Res->Prop
 | .next s=>∃k',k'<k/\I k' s
 | .exit id s=>∀s',norm live s'=some s->Q (.exit id) s'
 | .ret v=>∀s',ajW P cf F fn v .ret s'->Q .ret s'
 | .bad=>False
end
def wV:Code->Array Oper | .region _ ops _=>ops|_=>#[]
section
variable{P:Program}{S:Ctr}{cf:fO}{F N:Nat}{w0:World}{c:Code}{s:St}{Q:Exit->St->Prop}
theorem Ol{F:Fence}{n:Nat}{o:Oper}{a:Act}{w:World}{K K':Act->World->Prop}{Q Q':Exit->Act->World->Prop}(hk:∀a w,K a w->K' a w)(hq:∀y a w,y≠ .normal->Q y a w->Q' y a w)(h:o.wpIn F n P a w K Q):o.wpIn F n P a w K' Q':=by
 have ad5:LetsOut Q->LetsOut Q':=fun⟨a,w,q⟩=>⟨a,w,hq _ a w (by simp) q⟩;unfold Oper.wpIn at *;refine⟨h.1,?_⟩;have hh:=h.2;generalize (o.semAt F.round a.eval).run P w=r at *;cases r with
 |ok x w'=>
  cases x<;>simp only[Oper.uponIn]at hh⊢ <;>
   first
    |exact hk _ _ hh
    |exact⟨hh.1,CallsIn.mono hh.2 (fun e w'' he=>by cases e<;>first|exact hk _ _ he|exact hq _ _ _ (by simp) he|exact ad5 he)⟩
    |exact⟨hh.1,RowsIn.mono hh.2 (fun _ _ he=>hk _ _ he)⟩
    |exact⟨hh.1,RoundIn.mono hh.2 (fun e w'' he=>by cases e<;>first|exact hk _ _ he|exact hq _ _ _ (by simp) he|exact ad5 he)⟩
    |exact hh
 |halt x w'=>cases x<;>simp only[Oper.uponIn]at hh⊢<;>first|exact hq _ _ _ (by simp) hh|exact hh
end
theorem Eg.fresh{w0 w:World}{E:Env}{h:Tr O}{q:Nat}{o:O}(u:Eg w0 E h w)(hq:h.get q=some o)(hw:o.wr=true):∀b s,E.ι q=some (b,s)->w0.heap.size<=b:=by
 intro b s e;by_cases q':b<w0.heap.size
 . exact(u.sV q b s ⟨_,hq,hw⟩ e q').elim
 . omega
abbrev e9:=FuncId->ag->Tr O->Nat->M (V×Tr O×Nat)
def o5(cs:e9)(cf:fO):Prop:=∀f args h n,fq (cs f args h n) (pR (cf f args h n))
def oc(P:Program)(o:Oper)(fr:Tr V)(h:Tr O)(n:Nat):Option (ah×R):=
 match o.op with
 | .binOp .add t x y _=>match iK fr x,iK fr y with
   |some (.str a),some (.str b)=>some ([a.length+b.length<=xe],.val (.str (a++b)) h n)
   |_,_=>A8 P o fr h n
 | .binOp .rem t x (.tmp y) _=>match iK fr x,fr.get y with
   |some (.int k a),some (.int k' b)=>match decide (k=k')with
    |true=>some ([b≠0],.val (.int k (a.tmod b)) h n)
    |false=>none
   |_,_=>A8 P o fr h n
 | .indexAddr t x (.tmp i)=>match iK fr x,fr.get i with
   |some (.ptr (some (m,off))),some (.int _ ix)=>match P.underlying t with
    |some (.array cO e)=>match kN P e with
     |some s=>some ([0<=ix/\ix<cO],.val (.ptr (some (m,off+ix.toNat*s))) h n)
     |none=>none
    |_=>A8 P o fr h n
   |_,_=>A8 P o fr h n
 | .makeSlice t (.tmp l) (.tmp c)=>match ux P t,fr.get l,fr.get c with
   |some e,some (.int _ lv),some (.int _ cv)=>match P.info? e,zeroOf P e with
    |some i,some z=>match Gu i z,newObj h n (vJ z.cells (IntKind.i64.wrap cv).toNat).EC with
     |true,some (h',n')=>some ([0<=IntKind.i64.wrap lv/\IntKind.i64.wrap lv<=IntKind.i64.wrap cv/\i.bytes*IntKind.i64.wrap cv<=281474976710656],.val (.di (some (n,0)) (IntKind.i64.wrap lv).toNat (IntKind.i64.wrap cv).toNat i.size) h' n')
     |_,_=>none
    |_,_=>none
   |_,_,_=>A8 P o fr h n
 |_=>A8 P o fr h n
theorem jW{P:Program}{o:Oper}{fr:Tr V}{h:Tr O}{n:Nat}{l:ah}{r:R}(e:oc P o fr h n=some (l,r))(hl:∀p∈l,p):dD P o fr h n=some r:=by
 unfold oc at e;split at e
 . rename_i t x y u ho;split at e
   . rename_i a b ha hb;obtain⟨rfl,rfl⟩:=fa e;have iT:=hl _ (aq.2 rfl);unfold dD;rw[ho];simp only[ha,hb];unfold B4 PE;simp only[aG iT,mS]
   . exact sg e hl
 . rename_i t x y yt ho;split at e
   . rename_i k a k' b hx hy;split at e
     . rename_i hk;have hk:=aH hk;subst hk;obtain⟨rfl,rfl⟩:=fa e;have hb:b≠0:=hl _ (aq.2 rfl);have hy':iK fr (.tmp y)=some (.int k b):=hy;have:B4 P .rem t x (.tmp y) (.int k a) (.int k b)=some (.int k (a.tmod b)):=by
        simp[B4,binOp,Op.intDiv,hb,sO,iE];rfl
       simp only[dD,ho,hx,hy',this,mS]
     . cases e
   . exact sg e hl
 . rename_i t x i ho;split at e
   . rename_i m off k ix hx hi;split at e
     . rename_i cO el hu;split at e
       . rename_i sz hs;obtain⟨rfl,rfl⟩:=fa e;have XN:=hl _ (aq.2 rfl);have kD:iK fr (.tmp i)=some (.int k ix):=hi;unfold dD;rw[ho];simp only[hx,kD];unfold nO;simp only[hu,hs,aG XN,mS]
       . cases e
     . exact sg e hl
   . exact sg e hl
 . rename_i t l1 c1 ho;split at e
   . rename_i el k1 lv k2 cv he h1 h2;split at e
     . rename_i i z hi hz;split at e
       . rename_i h' n' hb hn;obtain⟨rfl,rfl⟩:=fa e;simp only[Gu,aC,bC]at hb;have XN:=hl _ (aq.2 rfl);have mB:iK fr (.tmp l1)=some (.int k1 lv):=h1;have Uj:iK fr (.tmp c1)=some (.int k2 cv):=h2;unfold dD;rw[ho];simp only[mB,Uj];unfold nN;simp only[he,hi,hz];rw[aG ⟨hb.1,hb.2.2,XN.1,XN.2.1,XN.2.2⟩];simp only[hn]
       . cases e
     . cases e
   . exact sg e hl
 . exact sg e hl
def dm(cs:ai)(o size:Nat):ai:=(cs.drop o).take size
def D.uz:D:=.bool false
def CV(P:Program)(t:TypeId)(cs:ai)(off:Nat):Option (Prop×V):=match NH P t with
 |some false=>some (off<cs.length,(cs.getD off D.uz).iL)
 |some true=>match kN P t with
  |some sz=>some (off+sz<=cs.length,.agg (D.jO (dm cs off sz)))
  |none=>none
 |none=>none
theorem IB{P:Program}{t:TypeId}{cs:ai}{off:Nat}{p:Prop}{v:V}(e:CV P t cs off=some (p,v))(hp:p):lj P t (D.jO cs) off=some v:=by
 unfold CV at e;split at e
 . rename_i Zw;obtain⟨rfl,rfl⟩:=fa e;simp only[lj,Zw,D.gx,br,ay hp,bh,aL,Option.getD_some]
 . rename_i Zw;split at e
   . rename_i sz hs;obtain⟨rfl,rfl⟩:=fa e;simp only[lj,Zw,hs,cut,D.gx,aW,aG hp,bh,dm,cL,List.map_drop]
   . cases e
 . cases e
def Al(P:Program)(t:TypeId)(h:Tr O)(v:V)(m o:Nat)(cs:ai):Option (ah×Tr O):=
 match kN P t,ia v.cells with
 |some s,some new=>match Nat.beq v.cells.length s&&(Nat.blt 0 s&&Nat.blt m fN)with
  |true=>some ([o+s<=cs.length],h.set m (some (.deep (wL cs o new))))
  |false=>none
 |_,_=>none
theorem Gx{P:Program}{t:TypeId}{h h':Tr O}{v:V}{m o:Nat}{cs:ai}{A:ah}(hm:h.get m=some (.deep cs))(e:Al P t h v m o cs=some (A,h'))(hA:∀a∈A,a):storeAt P t h v (.ptr (some (m,o)))=some h':=by
 unfold Al at e;split at e
 . rename_i s new h1 h2;split at e
   . rename_i hb;obtain⟨rfl,rfl⟩:=fa e;simp only[aC]at hb;have h3:=aD hb.1;have h4:0<s:=au hb.2.1;have h5:m<fN:=au hb.2.2;have h6:o+s<=cs.length:=hA _ (by simp);simp only[storeAt,hm,h1,h2];rw[aG ⟨h3,h4,h5⟩,aG h6]
   . cases e
 . cases e
def qD(uz:Nat)(y:Nat):Option V->Option (ah×Nat)
 |none=>some ([],uz)
 |some (.int _ i)=>some ([0<=i/\i<=y],i.toNat)
 |some _=>none
theorem oF{uz y r:Nat}{o:Option V}{A:ah}(e:qD uz y o=some (A,r))(hA:∀a∈A,a):eK uz y o=some r:=by
 unfold qD at e;split at e
 . simp only[an,aB]at e;obtain⟨_,rfl⟩:=e;rfl
 . obtain⟨rfl,rfl⟩:=fa e;simp only[eK,aG (hA _ (aq.2 rfl))]
 . cases e
def Am(s:Nat)(f:Bool)(cO:Nat)(cs:ai)(lo hi mx:Option V):Option (ah×V):=
 match mx with
 |none=>match qD cO cO hi with
  |some (A,h)=>match qD 0 h lo with
   |some (B,l)=>some ((cs.length=cO*s)::(A++B),.dM (f&& !hi.isSome) (h-l) (dm cs (l*s) ((h-l)*s)))
   |none=>none
  |none=>none
 |some mv=>match qD cO cO (some mv),hi with
  |some (C,m),some hv=>match qD cO m (some hv)with
   |some (A,h)=>match qD 0 h lo with
    |some (B,l)=>some ((cs.length=cO*s)::(h=m)::(C++(A++B)),.dM true (h-l) (dm cs (l*s) ((h-l)*s)))
    |none=>none
   |none=>none
  |_,_=>none
theorem Gy{P:Program}{t el:TypeId}{s cO:Nat}{f:Bool}{cs:ai}{lo hi mx:Option V}{h:Tr O}{A:ah}{v:V}(hu:P.underlying t=some (.slice el))(hs:kN P el=some s)
  (e:Am s f cO cs lo hi mx=some (A,v)) (hA:∀a∈A,a):mD P t h (.dM f cO cs) lo hi mx=some v:=by
 unfold Am at e;split at e
 . split at e
   case h_2=>cases e
   rename_i A1 hh h1;split at e
   case h_2=>cases e
   rename_i B1 l h2;obtain⟨rfl,rfl⟩:=fa e;have k1:=oF h1 fun a ha=>hA a (by simp[ha]);have k2:=oF h2 fun a ha=>hA a (by simp[ha]);have k3:cs.length=cO*s:=hA _ (by simp);unfold mD;rw[aI (by simp)];simp only[hu,hs,aG k3,k1,k2,dm]
 . split at e
   case h_2=>cases e
   rename_i C m hv h0;split at e
   case h_2=>cases e
   rename_i A1 hh h1;split at e
   case h_2=>cases e
   rename_i B1 l h2;obtain⟨rfl,rfl⟩:=fa e;have k0:=oF h0 fun a ha=>hA a (by simp[ha]);have k1:=oF h1 fun a ha=>hA a (by simp[ha]);have k2:=oF h2 fun a ha=>hA a (by simp[ha]);have k3:cs.length=cO*s:=hA _ (by simp);have k4:hh=m:=hA _ (by simp);unfold mD;rw[aI (by simp)];simp only[hu,hs,aG k3,k0,k1,k2,aG k4,dm]
def QF(P:Program)(t:TypeId):Bool:=match P.underlying t with
 |some (.slice _)=>true
 |_=>false
def KF(P:Program)(o:Oper)(fr:Tr V)(h:Tr O)(n:Nat):Option (ah×R):=
 match o.op with
 | .load t a=>match iK fr a with
   |some (.ptr (some (m,off)))=>match h.get m with
    |some (.deep cs)=>match CV P t cs off with
     |some (p,v)=>some ([p],.val v h n)
     |none=>none
    |_=>oc P o fr h n
   |_=>oc P o fr h n
 | .store t a x=>match iK fr a,iK fr x with
   |some (.ptr (some (m,off))),some v=>match h.get m with
    |some (.deep cs)=>match Al P t h v m off cs with
     |some (A,h')=>some (A,.val (.ef []) h' n)
     |none=>none
    |_=>oc P o fr h n
   |_,_=>oc P o fr h n
 | .indexAddr t x i=>match iK fr x,iK fr i with
   |some (.dM _ cO cs),some (.int _ ix)=>match vf P t with
    |some s=>some ([0<=ix/\ix<cO,cs.length=cO*s],.val (.dw (dm cs (ix.toNat*s) s)) h n)
    |none=>none
   |_,_=>oc P o fr h n
 | .slice t x lo hi mx=>match iK fr x with
   |some (.dM f cO cs)=>match vf P t,mF fr lo,mF fr hi,mF fr mx with
    |some s,some lo,some hi,some mx=>match Am s f cO cs lo hi mx with
     |some (A,v)=>some (A,.val v h n)
     |none=>none
    |_,_,_,_=>none
   |_=>oc P o fr h n
 | .convert Mn dst x=>match iK fr x with
   |some (.di (some (m,off)) cO _ jv)=>match uy (h.get m)with
    |some s0=>match P.underlying Mn,P.underlying dst,Nat.beq jv 1 with
     |some (.slice e),some .string,true=>match P.underlying e with
      |some (.int .u8)=>some ([off+cO<=s0.length],.val (.str ((s0.drop off).take cO)) h n)
      |_=>none
     |_,_,_=>none
    |none=>match AM (h.get m)with
    |some ks=>match P.underlying Mn,P.underlying dst,Nat.beq jv 1 with
     |some (.slice e),some .string,true=>match P.underlying e with
      |some (.int .u8)=>some ([off+cO<=ks.length],.val (.str (eN ((ks.drop off).take cO))) h n)
      |_=>none
     |_,_,_=>none
    |none=>oc P o fr h n
   |_=>oc P o fr h n
 | .call c=>match c.callee,uF fr c.args.toList with
   | .builtin .unsafeSliceData,some [.di (some (m,off)) _ cP _]=>some ([0<cP],.val (.ptr (some (m,off))) h n)
   | .builtin .unsafeString,some [.ptr (some (m,0)),.int .i64 l]=>match c.argTypes[0]? with
     |some pt=>match P.underlying pt,h.get m with
      |some (.pointer e),some (.iX el _ s)=>match decide (el=e)&&(Nat.beq (P.cellsOf e) 1&&(Nat.blt m fN&&Nat.beq c.argTypes.size 2))with
       |true=>some ([l=s.length/\0<s.length,s.length<=xe],.val (.str s) (h.set m (some (.iX el true s))) n)
       |false=>none
      |_,_=>none
     |none=>none
   |_,_=>oc P o fr h n
 | .binOp .eql t x y _=>match iK fr x,iK fr y with
   |some (.dM _ k _),some (.di none _ _ _)=>match QF P t with
    |true=>some ([0<k],.val (.bool false) h n)
    |false=>none
   |_,_=>oc P o fr h n
 |_=>oc P o fr h n
theorem UF{P:Program}{d:Nat}{t el:TypeId}{f:Bool}{k l c e:Nat}{cs:ai}(hu:P.underlying t=some (.slice el)):Mm P (d+1) t (.dM f (k+1) cs) (.di none l c e)=some false:=by
 simp only[Mm,hu]
theorem Om{P:Program}{o:Oper}{fr:Tr V}{h:Tr O}{n:Nat}{l:ah}{r:R}(e:KF P o fr h n=some (l,r))(hl:∀p∈l,p):dD P o fr h n=some r:=by
 unfold KF at e;split at e
 . rename_i t a ho;split at e
   . rename_i m off ha;split at e
     . rename_i cs hm;split at e
       . rename_i p v hs;obtain⟨rfl,rfl⟩:=fa e;have hp:p:=hl _ (aq.2 rfl);simp only[dD,ho,ha,loadAt,hm,IB hs hp,mS]
       . cases e
     . exact jW e hl
   . exact jW e hl
 . rename_i t a x ho;split at e
   . rename_i m off v ha hx;split at e
     . rename_i cs hm;split at e
       . rename_i A h' hs;obtain⟨rfl,rfl⟩:=fa e;simp only[dD,ho,ha,hx,Gx hm hs hl]
       . cases e
     . exact jW e hl
   . exact jW e hl
 . rename_i t x i ho;split at e
   . rename_i f cO cs k ix hx hi;split at e
     . rename_i s hs;obtain⟨rfl,rfl⟩:=fa e;obtain⟨el,h1,h2⟩:=pZ hs;have k1:=hl _ (aP ..);have k2:=hl _ (aK _ (aq.2 rfl));simp only[dD,ho,hx,hi,nO,h1,h2,mS];rw[aG ⟨k1,k2⟩];rfl
     . cases e
   . exact jW e hl
 . rename_i t x lo hi mx ho;split at e
   . rename_i f cO cs hx;split at e
     . rename_i s lov hiv mxv hs h1 h2 h3;split at e
       . rename_i A v hv;obtain⟨rfl,rfl⟩:=fa e;obtain⟨el,k1,k2⟩:=pZ hs;simp only[dD,ho,hx,h1,h2,h3,Gy k1 k2 hv hl,mS]
       . cases e
     . cases e
   . exact jW e hl
 . rename_i Mn dst x ho;split at e
   . rename_i m off cO cp jv hx;split at e
     . rename_i s0 F5;split at e
       . rename_i el h1 h2 h3;split at e
         . rename_i h4;obtain⟨rfl,rfl⟩:=fa e;have k1:=hl _ (aq.2 rfl);simp only[dD,ho,hx,qf,h1,h2,h4,aG (aD h3),F5];rw[aG (Or.inr k1)]
         . cases e
       . cases e
     . rename_i F5;split at e
       . rename_i ks DY;split at e
         . rename_i el h1 h2 h3;split at e
           . rename_i h4;obtain⟨rfl,rfl⟩:=fa e;have k1:=hl _ (aq.2 rfl);simp only[dD,ho,hx,qf,h1,h2,h4,aG (aD h3),F5,DY];rw[aG (Or.inr k1)]
           . cases e
         . cases e
       . exact jW e hl
   . exact jW e hl
 . rename_i c ho;split at e
   . rename_i m off x1 cP x2 hc ha;obtain⟨rfl,rfl⟩:=fa e;have k1:=hl _ (aq.2 rfl);simp only[dD,ho,wN,ha,hc,lp,aG k1]
   . rename_i m l hc ha;split at e
     . rename_i pt Zo;split at e
       . rename_i e0 el x1 s hp hm;split at e
         . rename_i hb;obtain⟨rfl,rfl⟩:=fa e;simp only[aC,bC]at hb;have k1:=hl _ (aP ..);have k2:=hl _ (aK _ (aq.2 rfl));simp only[dD,ho,wN,ha,hc,lp,Zo,hp,hm];rw[aG ⟨k1,⟨hb.1,aD hb.2.1⟩,au hb.2.2.1,aD hb.2.2.2,k2⟩]
         . cases e
       . cases e
     . cases e
   . exact jW e hl
 . rename_i t x y _ ho;split at e
   . rename_i f k cs z1 z2 z3 hx hy;split at e
     . rename_i hq;obtain⟨rfl,rfl⟩:=fa e;have k1:0<k:=hl _ (aq.2 rfl);obtain⟨k',rfl⟩:∃k',k=k'+1:=⟨k-1,be⟩;unfold QF at hq;split at hq
       . rename_i el hu;simp only[dD,ho,hx,hy,B4,FV,UF (d:=9999) hu,bh,mS]
       . cases hq
     . cases e
   . exact jW e hl
 . exact jW e hl
def On(P:Program)(o:Oper)(fr:Tr V)(h:Tr O)(n:Nat):M R:=match KF P o fr h n with
 |some (l,r)=>some [(⟨[],[],l⟩,r)]
 |none=>none
theorem tx(P:Program)(o:Oper)(fr:Tr V)(h:Tr O)(n:Nat):fq (On P o fr h n) (dD P o fr h n):=by
 intro l e;unfold On at e;split at e
 . rename_i a r hs;obtain rfl:=ew e;refine⟨⟨_,aq.2 rfl,fun c hc=>by simp at hc⟩,fun e he _ hg=>?_⟩;simp only[aq]at he;subst he;exact Om hs hg.2
 . cases e
section
variable(P:Program)(cs:e9)(cf:fO)(H:List (Nat×oZ))
def Oo(ops:Array Oper):List Oper->St->M (X×St)
 | [],s=>.ret (.normal,s)
 |o::rest,s=>
  match iA ops o s.fr with
  |some false=>match iZ s.fr o.dst (.ef [])with
   |some fr=>Oo ops rest { s with fr:=fr }
   |none=>none
  |some true=>(On P o s.fr s.h s.n).then fun r=>match r with
   | .val v h n=>(KE H o.dst v).then fun v=>match iZ s.fr o.dst v with
     |some fr=>Oo ops rest { s with fr:=fr,h:=h,n:=n }
     |none=>none
   | .call f args=>(cs f args s.h s.n).then fun q=>(KE H o.dst q.1).then fun v=>match iZ s.fr o.dst v with
     |some fr=>Oo ops rest { s with fr:=fr,h:=q.2.1,n:=q.2.2 }
     |none=>none
   |_=>none
  |none=>none
theorem tA(oV:o5 cs cf)(ops:Array Oper):∀(l:List Oper) (s:St),fq (Oo P cs H ops l s) (je P cf ops l s)
 | [],s=>.ret _
 |o::rest,s=>by
  simp only[Oo,je];rcases iA ops o s.fr with _|(_|_)
  . exact .none _
  . cases iZ s.fr o.dst (.ef [])with
    |none=>exact .none _
    |some fr=>exact tA oV ops rest _
  . refine qB (fq.then (tx P o s.fr s.h s.n) (g:=fun r=>match r with
     | .val v h n=>match iZ s.fr o.dst v with
       |some fr=>je P cf ops rest { s with fr:=fr,h:=h,n:=n }
       |none=>none
     | .call f args=>(pR (cf f args s.h s.n)).bind fun q=>match iZ s.fr o.dst q.1 with
       |some fr=>je P cf ops rest { s with fr:=fr,h:=q.2.1,n:=q.2.2 }
       |none=>none
     |_=>none) (fun r=>?_)) ?_
    . cases r with
      |val v h n=>
       refine(fq.then (qA H o.dst v) (g:=fun v=>match iZ s.fr o.dst v with
        |some fr=>je P cf ops rest { s with fr:=fr,h:=h,n:=n }
        |none=>none) (fun v=>?_)).of_eq rfl
       cases iZ s.fr o.dst v with
       |none=>exact .none _
       |some fr=>exact tA oV ops rest _
      |call f args=>
       refine fq.then (oV f args s.h s.n) (fun q=>?_);refine(fq.then (qA H o.dst q.1) (g:=fun v=>match iZ s.fr o.dst v with
        |some fr=>je P cf ops rest { s with fr:=fr,h:=q.2.1,n:=q.2.2 }
        |none=>none) (fun v=>?_)).of_eq rfl
       cases iZ s.fr o.dst v with
       |none=>exact .none _
       |some fr=>exact tA oV ops rest _
      |mA f c args=>exact .none _
      |recover=>exact .none _
      |panic v=>exact .none _
    . intro a ha;cases hs:dD P o s.fr s.h s.n with
      |none=>rw[hs]at ha;cases ha
      |some r=>
       rw[hs]at ha;cases r with
       |call f args=>
        simp only[tw]at ha ⊢;cases hj:cf f args s.h s.n with
        |none=>rw[hj]at ha;cases ha
        |some q=>
         rw[hj]at ha;obtain⟨tV,h,n⟩:=q;cases tV with
         |ret v=>exact ha
         |zQ v=>cases ha
       |val v h n=>exact ha
       |_=>cases ha
section
variable(n0 i:Nat)(o:Oper)(fr:Tr V)
def MA(v:V)(x:Tr O):M Unit:=
 (On P o fr x (n0+i)).then fun r=>match r with
  | .val u _ k=>match Nat.beq k (n0+i)&&v.qY with
    |true=>some [(⟨[],[(u,v)],[]⟩,())]
    |false=>none
  |_=>none
theorem A9(v:V)(x:Tr O):fq (MA P n0 i o fr v x) (if mM P n0 i o fr v x=true then some ()else none):=by
 unfold MA;refine(fq.then (tx P o fr x (n0+i)) (g:=fun r=>if(match r with | .val u _ k=>Nat.beq k (n0+i)&&V.beq u v|_=>false)=true then some ()else none) (fun r=>?_)).of_eq ?_
 . cases r with
   |val u h k=>
    simp only;split
    . rename_i hb;simp only[aC]at hb;intro l e;obtain rfl:=ew e;refine⟨⟨_,aq.2 rfl,fun c hc=>by simp at hc⟩,fun e he _ hg=>?_⟩;simp only[aq]at he;subst he;have:u=v:=hg.1 (u,v) (aq.2 rfl);subst this;rw[aG (by rw[hb.1,V.beq_refl u hb.2];rfl)]
    . exact .none _
   |_=>exact .none _
 . unfold mM;cases dD P o fr x (n0+i)with
   |none=>rfl
   |some r=>cases r<;>rfl
end
def IC(n0 i:Nat)(o:Oper)(fr:Tr V)(v:V)(cZ:af)(gY:Nat):List (Nat×Nat×Tr O)->M Unit
 | []=>.ret ()
 |(e,m,x)::r=>match ee gY e with
  |true=>.ret ()
  |false=>(MA P n0 i o fr v (gL n0 cZ m x gY)).then fun _=>IC n0 i o fr v cZ gY r
theorem Ba(n0 i:Nat)(o:Oper)(fr:Tr V)(v:V)(cZ:af)(gY:Nat):∀l:List (Nat×Nat×Tr O),fq (IC P n0 i o fr v cZ gY l) (if qi P n0 i o fr v cZ gY l=true then some ()else none)
 | []=>(fq.ret ()).of_eq rfl
 |(e,m,x)::r=>by
  simp only[IC,qi];rcases Bool.eq_false_or_eq_true (ee gY e)with hb|hb
  . simp only[hb,if_true];exact .ret ()
  . simp only[hb,aO,cG];refine(fq.then (A9 P n0 i o fr v _) (fun _=>Ba n0 i o fr v cZ gY r)).of_eq ?_;cases mM P n0 i o fr v (gL n0 cZ m x gY)<;>cases qi P n0 i o fr v cZ gY r<;>rfl
def CW(n0:Nat)(cZ:af)(m:Nat)(x:Tr O):List (Nat×Nat×Oper×Tr V×V)->M Unit
 | []=>.ret ()
 |(j,gY,o,fr,v)::r=>match ee m j with
  |true=>CW n0 cZ m x r
  |false=>(MA P n0 j o fr v (gL n0 cZ m x gY)).then fun _=>CW n0 cZ m x r
theorem tB(n0:Nat)(cZ:af)(m:Nat)(x:Tr O):∀l:List (Nat×Nat×Oper×Tr V×V),fq (CW P n0 cZ m x l) (if pI P n0 cZ m x l=true then some ()else none)
 | []=>(fq.ret ()).of_eq rfl
 |(j,gY,o,fr,v)::r=>by
  simp only[CW,pI];rcases Bool.eq_false_or_eq_true (ee m j)with hb|hb
  . simp only[hb,Bool.true_or,Bool.true_and];exact tB n0 cZ m x r
  . simp only[hb,Bool.false_or];refine(fq.then (A9 P n0 j o fr v _) (fun _=>tB n0 cZ m x r)).of_eq ?_;cases mM P n0 j o fr v (gL n0 cZ m x gY)<;>cases pI P n0 cZ m x r<;>rfl
def Gz(n0 i gY:Nat)(o:Oper)(s:Dr)(v:V)(h:Tr O)(n:Nat):M Dr:=
 match iZ s.fr o.dst v with
 |some fr=>(CW P n0 s.cZ gY h s.reads).then fun _=>
   .ret { fr:=fr,ek:=s.ek++[gY],cur:=(gY,h),pH:=(i,s.cur.1,s.cur.2)::s.pH,last:=some i,cZ:=s.cZ,reads:=s.reads,n:=n }
 |none=>none
theorem yY(n0 i gY:Nat)(o:Oper)(s:Dr)(v:V)(h:Tr O)(n:Nat):fq (Gz P n0 i gY o s v h n) (kF P n0 i gY o s v h n):=by
 unfold Gz kF;cases iZ s.fr o.dst v with
 |none=>exact .none _
 |some fr=>
  refine(fq.then (tB P n0 s.cZ gY h s.reads) (g:=fun _=>some _) (fun _=>.ret _)).of_eq ?_;cases pI P n0 s.cZ gY h s.reads<;>rfl
def QG(ops:Array Oper)(n0 i:Nat)(o:Oper)(s:Dr):M Dr:=
 match iA ops o s.fr with
 |some false=>match iZ s.fr o.dst (.ef [])with
  |some fr=>.ret { s with fr:=fr,ek:=s.ek++[eM s.ek o.after.toList] }
  |none=>none
 |some true=>
  match qQ o.op with
  |true=>match zR (eM s.ek o.after.toList) s.last with
   |true=>(On P o s.fr (gL n0 s.cZ s.cur.1 s.cur.2 (eM s.ek o.after.toList)) s.n).then fun r=>match r with
    | .val v h n=>(KE H o.dst v).then fun v=>Gz P n0 i (eM s.ek o.after.toList) o s v h n
    | .call f args=>(cs f args (gL n0 s.cZ s.cur.1 s.cur.2 (eM s.ek o.after.toList)) s.n).then fun q=>(KE H o.dst q.1).then fun v=>Gz P n0 i (eM s.ek o.after.toList) o s v q.2.1 q.2.2
    |_=>none
   |false=>none
  |false=>(On P o s.fr (gL n0 s.cZ s.cur.1 s.cur.2 (eM s.ek o.after.toList)) (n0+i)).then fun r=>match r with
   | .val v h k=>(KE H o.dst v).then fun v=>match iZ s.fr o.dst v with
     |some fr=>match Nat.beq k (n0+i)with
      |true=>match qh o.op with
       |true=>.ret { s with fr:=fr,ek:=s.ek++[eM s.ek o.after.toList] }
       |false=>(IC P n0 i o s.fr v s.cZ (eM s.ek o.after.toList) s.pH).then fun _=>
         .ret { s with fr:=fr,ek:=s.ek++[eM s.ek o.after.toList],reads:=(i,eM s.ek o.after.toList,o,s.fr,v)::s.reads }
      |false=>match h.get (n0+i)with
       |some b=>match b.wr with
        |true=>.ret { s with fr:=fr,ek:=s.ek++[eM s.ek o.after.toList],cZ:=(i,b)::s.cZ }
        |false=>none
       |none=>none
     |none=>none
   |_=>none
 |none=>none
theorem ID(oV:o5 cs cf)(ops:Array Oper)(n0 i:Nat)(o:Oper)(s:Dr):fq (QG P cs H ops n0 i o s) (Oj (uG P cf ops n0 i o s)):=by
 unfold QG uG;rcases iA ops o s.fr with _|(_|_)
 . exact .none _
 . cases iZ s.fr o.dst (.ef [])with
   |none=>exact .none _
   |some fr=>exact(fq.ret _).of_eq rfl
 . cases qQ o.op with
   |true=>
    rcases Bool.eq_false_or_eq_true (zR (eM s.ek o.after.toList) s.last)with hb|hb
    rotate_left
    . simp only[hb];exact .none _
    . simp only[hb,if_true];refine(fq.then (tx P o s.fr _ s.n) (g:=fun r=>match r with
       | .val v h n=>kF P n0 i (eM s.ek o.after.toList) o s v h n
       | .call f args=>(pR (cf f args (gL n0 s.cZ s.cur.1 s.cur.2 (eM s.ek o.after.toList)) s.n)).bind fun q=>kF P n0 i (eM s.ek o.after.toList) o s q.1 q.2.1 q.2.2
       |_=>none) (fun r=>?_)).of_eq ?_
      . cases r with
        |val v h n=>exact(fq.then (qA H o.dst v) (g:=fun v=>kF P n0 i (eM s.ek o.after.toList) o s v h n) (fun v=>yY P n0 i _ o s v h n)).of_eq rfl
        |call f args=>
         refine fq.then (oV f args _ s.n) (fun q=>?_);exact(fq.then (qA H o.dst q.1) (g:=fun v=>kF P n0 i (eM s.ek o.after.toList) o s v q.2.1 q.2.2) (fun v=>yY P n0 i _ o s v q.2.1 q.2.2)).of_eq rfl
        |_=>exact .none _
      . cases dD P o s.fr (gL n0 s.cZ s.cur.1 s.cur.2 (eM s.ek o.after.toList)) s.n with
        |none=>rfl
        |some r=>
         cases r with
         |val v h n=>
          simp only[tw];cases kF P n0 i (eM s.ek o.after.toList) o s v h n<;>rfl
         |call f args=>
          simp only[tw];cases cf f args (gL n0 s.cZ s.cur.1 s.cur.2 (eM s.ek o.after.toList)) s.n with
          |none=>rfl
          |some q=>
           obtain⟨tV,h,n⟩:=q;cases tV with
           |ret v=>
            simp only[pR,tw];cases kF P n0 i (eM s.ek o.after.toList) o s v h n<;>rfl
           |zQ v=>simp only;split<;>rfl
         |_=>rfl
   |false=>
    simp only[aO,cG];have body:∀(v:V) (h:Tr O) (k:Nat),fq (match iZ s.fr o.dst v with
      |some fr=>match Nat.beq k (n0+i)with
       |true=>match qh o.op with
        |true=>M.ret { s with fr:=fr,ek:=s.ek++[eM s.ek o.after.toList] }
        |false=>(IC P n0 i o s.fr v s.cZ (eM s.ek o.after.toList) s.pH).then fun _=>
          .ret { s with fr:=fr,ek:=s.ek++[eM s.ek o.after.toList],reads:=(i,eM s.ek o.after.toList,o,s.fr,v)::s.reads }
       |false=>match h.get (n0+i)with
        |some b=>match b.wr with
         |true=>M.ret { s with fr:=fr,ek:=s.ek++[eM s.ek o.after.toList],cZ:=(i,b)::s.cZ }
         |false=>none
        |none=>none
      |none=>none) (Oj (match iZ s.fr o.dst v with
       |some fr=>
        if Nat.beq k (n0+i)=true then
         if qh o.op=true then(some (.inl { s with fr:=fr,ek:=s.ek++[eM s.ek o.after.toList] }):Option (Dr ⊕ (Tr V×V×Tr O×Nat)))
         else if qi P n0 i o s.fr v s.cZ (eM s.ek o.after.toList) s.pH=true then
          some (.inl { s with fr:=fr,ek:=s.ek++[eM s.ek o.after.toList],reads:=(i,eM s.ek o.after.toList,o,s.fr,v)::s.reads })
         else mX o
        else match h.get (n0+i)with
         |some b=>if b.wr=true then some (.inl { s with fr:=fr,ek:=s.ek++[eM s.ek o.after.toList],cZ:=(i,b)::s.cZ })else mX o
         |none=>mX o
       |none=>mX o)):=by
     intro v h k;cases iZ s.fr o.dst v with
     |none=>exact .none _
     |some fr=>
      simp only;cases Nat.beq k (n0+i)with
      |true=>
       simp only[if_true];cases qh o.op with
       |true=>exact(fq.ret _).of_eq rfl
       |false=>
        refine(fq.then (Ba P n0 i o s.fr v s.cZ _ s.pH) (g:=fun _=>some _) (fun _=>.ret _)).of_eq ?_;simp only[aO,cG];cases qi P n0 i o s.fr v s.cZ (eM s.ek o.after.toList) s.pH<;>rfl
      |false=>
       simp only[aO,cG];cases h.get (n0+i)with
       |none=>exact .none _
       |some b=>
        simp only;cases b.wr with
        |true=>exact(fq.ret _).of_eq rfl
        |false=>exact .none _
    refine(fq.then (tx P o s.fr _ (n0+i)) (g:=fun r=>match r with
     | .val v h k=>Oj (match iZ s.fr o.dst v with
        |some fr=>
         if Nat.beq k (n0+i)=true then
          if qh o.op=true then(some (.inl { s with fr:=fr,ek:=s.ek++[eM s.ek o.after.toList] }):Option (Dr ⊕ (Tr V×V×Tr O×Nat)))
          else if qi P n0 i o s.fr v s.cZ (eM s.ek o.after.toList) s.pH=true then
           some (.inl { s with fr:=fr,ek:=s.ek++[eM s.ek o.after.toList],reads:=(i,eM s.ek o.after.toList,o,s.fr,v)::s.reads })
          else mX o
         else match h.get (n0+i)with
          |some b=>if b.wr=true then some (.inl { s with fr:=fr,ek:=s.ek++[eM s.ek o.after.toList],cZ:=(i,b)::s.cZ })else mX o
          |none=>mX o
        |none=>mX o)
     |_=>none) (fun r=>?_)).of_eq ?_
    . cases r with
      |val v h k=>exact(fq.then (qA H o.dst v) (g:=fun v=>Oj (match iZ s.fr o.dst v with
        |some fr=>
         if Nat.beq k (n0+i)=true then
          if qh o.op=true then(some (.inl { s with fr:=fr,ek:=s.ek++[eM s.ek o.after.toList] }):Option (Dr ⊕ (Tr V×V×Tr O×Nat)))
          else if qi P n0 i o s.fr v s.cZ (eM s.ek o.after.toList) s.pH=true then
           some (.inl { s with fr:=fr,ek:=s.ek++[eM s.ek o.after.toList],reads:=(i,eM s.ek o.after.toList,o,s.fr,v)::s.reads })
          else mX o
         else match h.get (n0+i)with
          |some b=>if b.wr=true then some (.inl { s with fr:=fr,ek:=s.ek++[eM s.ek o.after.toList],cZ:=(i,b)::s.cZ })else mX o
          |none=>mX o
        |none=>mX o)) (fun v=>body v h k)).of_eq rfl
      |_=>exact .none _
    . cases dD P o s.fr (gL n0 s.cZ s.cur.1 s.cur.2 (eM s.ek o.after.toList)) (n0+i)with
      |none=>rfl
      |some r=>cases r<;>rfl
def GA(ops:Array Oper)(n0:Nat):List Oper->Nat->Dr->M Dr
 | [],_,s=>.ret s
 |o::r,i,s=>(QG P cs H ops n0 i o s).then fun s'=>GA ops n0 r (i+1) s'
theorem yZ(oV:o5 cs cf)(ops:Array Oper)(n0:Nat):∀(l:List Oper) (i:Nat) (s:Dr),fq (GA P cs H ops n0 l i s) (Oj (qR P cf ops n0 l i s))
 | [],i,s=>(fq.ret s).of_eq rfl
 |o::r,i,s=>by
  simp only[GA,qR];refine(fq.then (ID P cs cf H oV ops n0 i o s) (fun s'=>yZ oV ops n0 r (i+1) s')).of_eq ?_;cases uG P cf ops n0 i o s with
  |none=>rfl
  |some q=>cases q<;>rfl
def jX(F:Nat):Code->St->M (X×St)
 | .region _ ops false,s=>Oo P cs H ops ops.toList s
 | .region _ ops true,s=>match decide (s.n+ops.size<fN)with
   |true=>(GA P cs H ops s.n ops.toList 0 { fr:=s.fr,ek:=[],cur:=(0,s.h),pH:=[],last:=none,cZ:=[],reads:=[],n:=s.n+ops.size }).then fun d=>
     .ret (.normal,{ fr:=d.fr,h:=gL s.n d.cZ d.cur.1 d.cur.2 (2^ops.size-1),n:=d.n,gz:=s.gz })
   |false=>none
 | .seq a b,s=>(jX F a s).then fun p=>match p.1 with
   | .normal=>jX F b p.2
   |_=>.ret p
 | .cond c a b,s=>match iK s.fr c with
   |some (.bool true)=>jX F a s
   |some (.bool false)=>jX F b s
   |_=>none
 | .block id body,s=>(jX F body s).then fun p=>match p.1 with
   | .exit id'=>if id'=id then .ret (.normal,p.2)else .ret p
   |_=>.ret p
 | .loop body,s=>BL (jX F body) F s
 | .skip,s=>.ret (.normal,s)
 | .exit id,s=>.ret (.exit id,s)
 | .ret,s=>.ret (.ret,s)
 | .rangeFunc g ps assign body,s=>match iK s.fr g with
   |some (.fn (.func gf) [] lb)=>match callee P gf&&decide (s.n+1<fN)with
    |true=>(cs gf (.fn (.yield (s.n+1)) [] []::lb) ((s.h.set s.n (some .mA)).set (s.n+1) (some (.loop true none s.fr ps.toList assign body))) (s.n+2)).then fun q=>match q.2.1.get s.n,q.2.1.get (s.n+1)with
     |some .mA,some (.loop true none _ _ _ _)=>.ret (.normal,{ s with h:=q.2.1.set (s.n+1) none,n:=q.2.2,gz:=(fN,[],[.map (some s.n)])::s.gz })
     |some .mA,some (.loop false (some .ret) _ _ _ _)=>.ret (.ret,{ s with h:=q.2.1.set (s.n+1) none,n:=q.2.2,gz:=(fN,[],[.map (some s.n)])::s.gz })
     |some .mA,some (.loop false (some (.exit id)) _ _ _ _)=>.ret (.exit id,{ s with h:=q.2.1.set (s.n+1) none,n:=q.2.2,gz:=(fN,[],[.map (some s.n)])::s.gz })
     |_,_=>none
    |false=>none
   |_=>none
 |_,_=>none
theorem oG(oV:o5 cs cf)(F:Nat):∀(c:Code) (s:St),fq (jX P cs H F c s) (jf P cf F c s):=by
 intro c
 induction c with
 |region id ops J3=>
  intro s;cases J3 with
  |false=>exact tA P cs cf H oV ops ops.toList s
  |true=>
   simp only[jX,jf,drawn];by_cases fJ:s.n+ops.size<fN
   . simp only[bM fJ,aG fJ];refine qB (fq.then (yZ P cs cf H oV ops s.n ops.toList 0 _) (g:=fun d=>some (.normal,{ fr:=d.fr,h:=gL s.n d.cZ d.cur.1 d.cur.2 (2^ops.size-1),n:=d.n,gz:=s.gz })) (fun d=>.ret _)) ?_;intro d hd;cases hq:qR P cf ops s.n ops.toList 0 { fr:=s.fr,ek:=[],cur:=(0,s.h),pH:=[],last:=none,cZ:=[],reads:=[],n:=s.n+ops.size }with
     |none=>rw[hq]at hd;cases hd
     |some q=>
      rw[hq]at hd;cases q with
      |inl d'=>simp only[Oj,Option.bind_some]at hd;simp only;exact hd
      |inr _=>cases hd
   . simp only[bw fJ];exact .none _
 |seq a b iha ihb=>
  intro s;simp only[jX,jf];refine(fq.then (iha s) (g:=fun p=>match p.1 with | .normal=>jf P cf F b p.2|_=>some p) (fun p=>?_)).of_eq ?_
  . obtain⟨x,s'⟩:=p;cases x with
    |normal=>exact ihb s'
    |_=>exact .ret _
  . cases jf P cf F a s with
    |none=>rfl
    |some p=>obtain⟨x,s'⟩:=p;cases x<;>rfl
 |cond c a b iha ihb=>
  intro s;simp only[jX,jf];cases iK s.fr c with
  |none=>exact .none _
  |some v=>
   cases v with
   |bool t=>
    cases t with
    |true=>exact iha s
    |false=>exact ihb s
   |_=>exact .none _
 |block id c ih=>
  intro s;simp only[jX,jf];refine(fq.then (ih s) (g:=fun p=>match p.1 with | .exit id'=>if id'=id then some (.normal,p.2)else some p|_=>some p) (fun p=>?_)).of_eq ?_
  . obtain⟨x,s'⟩:=p;cases x with
    |exit j=>
     simp only;by_cases hj:j=id
     . simp only[aG hj];exact .ret _
     . simp only[aI hj];exact .ret _
    |_=>exact .ret _
  . cases jf P cf F c s with
    |none=>rfl
    |some p=>obtain⟨x,s'⟩:=p;cases x<;>rfl
 |loop c ih=>
  intro s;simp only[jX,jf];exact wU ih F s
 |skip=>intro s;exact .ret _
 |exit id=>intro s;exact .ret _
 |ret=>intro s;exact .ret _
 |rangeFunc g ps assign body _ _=>
  intro s;simp only[jX,jf];split
  . rename_i gf lb hg;rw[hg];simp only;split
    . rename_i hq;simp only[aC,bC]at hq;rw[aG hq];refine qB (fq.then (oV gf _ _ (s.n+2)) (g:=fun q=>match q.2.1.get s.n,q.2.1.get (s.n+1)with
       |some .mA,some (.loop true none _ _ _ _)=>some (.normal,{ s with h:=q.2.1.set (s.n+1) none,n:=q.2.2,gz:=(fN,[],[.map (some s.n)])::s.gz })
       |some .mA,some (.loop false (some .ret) _ _ _ _)=>some (.ret,{ s with h:=q.2.1.set (s.n+1) none,n:=q.2.2,gz:=(fN,[],[.map (some s.n)])::s.gz })
       |some .mA,some (.loop false (some (.exit id)) _ _ _ _)=>some (.exit id,{ s with h:=q.2.1.set (s.n+1) none,n:=q.2.2,gz:=(fN,[],[.map (some s.n)])::s.gz })
       |_,_=>none) (fun q=>?_)) ?_
      . split<;>first|exact .ret _|exact .none _
      . intro a ha;cases hc:cf gf (.fn (.yield (s.n+1)) [] []::lb) ((s.h.set s.n (some .mA)).set (s.n+1) (some (.loop true none s.fr ps.toList assign body))) (s.n+2)with
        |none=>rw[hc]at ha;cases ha
        |some q=>
         rw[hc]at ha;obtain⟨tV,h,n⟩:=q;cases tV with
         |zQ v=>cases ha
         |ret v=>
          simp only[pR,Option.bind_some]at ha;simp only;split at ha<;>first|(rename_i h1 h2;simp only[h1,h2];exact ha)|cases ha
    . exact .none _
  . exact .none _
 |_=>intro s;exact .none _
end
def vi(P:Program)(fn:Func)(fr:Tr V):List (FuncId×ag×ag)->Tr O->Nat->Option (V×Tr O×Nat)
 | [],h,n=>match lq P fr h fn.results.toList with
   |some vs=>some (oneOf vs,h,n)
   |none=>none
 |(g,_,args)::ds,h,n=>match Nat.ble fN g with
  |true=>match args with
   | [.map (some b)]=>match h.get b with
     |some .mA=>match Nat.blt b fN with
      |true=>vi P fn fr ds (h.set b none) n
      |false=>none
     |_=>none
   |_=>none
  |false=>none
theorem wc{P:Program}{cf:fO}{F:Nat}{fn:Func}{fr:Tr V}:∀{ds:List (FuncId×ag×ag)} {h:Tr O} {n:Nat} {r:V×Tr O×Nat},vi P fn fr ds h n=some r->nF P cf F fn fr ds .ret h n=some (.ret r.1,r.2.1,r.2.2)
 | [],h,n,r,e=>by
   unfold vi at e;unfold nF;split at e
   . rename_i vs hv;obtain rfl:=ew e;rw[hv]
   . cases e
 |(g,c,args)::ds,h,n,r,e=>by
  unfold vi at e;unfold nF;split at e
  case h_2=>cases e
  rename_i hg;rw[aG (au hg)];split at e
  case h_2=>cases e
  rename_i b;simp only;split at e
  case h_2=>cases e
  rename_i hb;rw[hb];simp only;split at e
  case h_2=>cases e
  rename_i fJ;rw[aG (show b<fN from au fJ)];exact wc e
abbrev jL:=FuncId->ag->Tr O->Nat->Option (ah×V×Tr O×Nat)
def gd(P:Program)(S:jL):Prop:=∀f args h n A v h' n',S f args h n=some (A,v,h',n')->f<P.funcs.size/\((∀a∈A,a)->
 ∀E w c9,dI E args c9->Good E h w->qL E n->callee P f=true->Calls P f c9.toArray w (jU E h n w (.ret v) h' n'))
def noW:jL:=fun _ _ _ _=>none
theorem QH(P:Program):gd P noW:=fun _ _ _ _ _ _ _ _ e=>by cases e
def kA(f:FuncId)(spec:ag->Tr O->Nat->Option (ah×V×Tr O×Nat))(S:jL):jL:=fun g args h n=>match Nat.beq g f with
 |true=>match spec args h n with
  |some r=>some r
  |none=>S g args h n
 |false=>S g args h n
def jG(P:Program)(f:FuncId)(spec:ag->Tr O->Nat->Option (ah×V×Tr O×Nat)):Prop:=f<P.funcs.size/\∀args h n A v h' n',spec args h n=some (A,v,h',n')->(∀a∈A,a)->
 ∀E w c9,dI E args c9->Good E h w->qL E n->callee P f=true->Calls P f c9.toArray w (jU E h n w (.ret v) h' n')
theorem fk{P:Program}{f:FuncId}{spec:ag->Tr O->Nat->Option (ah×V×Tr O×Nat)}{S:jL}(hp:jG P f spec)(hS:gd P S):gd P (kA f spec S):=by
 intro g args h n A v h' n' e;unfold kA at e;split at e
 . rename_i hg;have hg:=aD hg;subst hg;split at e
   . rename_i r hr;cases e;exact⟨hp.1,hp.2 args h n A v h' n' hr⟩
   . exact hS g args h n A v h' n' e
 . exact hS g args h n A v h' n' e
def ad6(P:Program)(fn:Func)(p:X×St):M (V×Tr O×Nat):=match p.1 with
 | .normal=>match vi P fn p.2.fr p.2.gz p.2.h p.2.n with
   |some r=>.ret r
   |none=>none
 | .ret=>match vi P fn p.2.fr p.2.gz p.2.h p.2.n with
   |some r=>.ret r
   |none=>none
 |_=>none
def KG(P:Program)(cs:e9)(H:List (Nat×oZ))(F:Nat)(f:FuncId)(args:ag)(h:Tr O)(n:Nat):M (V×Tr O×Nat):=
 match P.funcs[f]? with
 |some fn=>match fn.body with
  |some code=>match Nat.ble args.length fn.ntmps&&Nat.blt fn.ntmps fN with
   |true=>(jX P cs H F code (cT args h n)).then (ad6 P fn)
   |false=>none
  |none=>none
 |none=>none
theorem GB{P:Program}{cs:e9}{cf:fO}(oV:o5 cs cf)(H:List (Nat×oZ))(F:Nat)(f:FuncId)(args:ag)(h:Tr O)(n:Nat):fq (KG P cs H F f args h n) (pR (enter P cf F f args h n)):=by
 unfold KG enter;split
 . rename_i fn hf;rw[hf];simp only;split
   . rename_i code hb;rw[hb];simp only;split
     . rename_i hq;simp only[aC]at hq;have hq':args.length<=fn.ntmps/\fn.ntmps<fN:=⟨au hq.1,au hq.2⟩;rw[aG hq'];refine qB (fq.then (oG P cs cf H oV F code (cT args h n)) (g:=fun p=>match p.1 with
        | .normal=>pR (nF P cf F fn p.2.fr p.2.gz .ret p.2.h p.2.n)
        | .ret=>pR (nF P cf F fn p.2.fr p.2.gz .ret p.2.h p.2.n)
        |_=>none) (fun p=>?_)) ?_
       . obtain⟨x,s⟩:=p;unfold ad6;cases x with
         |normal=>
          simp only;split
          . rename_i r hr;refine(fq.ret r).of_eq ?_;rw[wc hr];rfl
          . exact .none _
         |ret=>
          simp only;split
          . rename_i r hr;refine(fq.ret r).of_eq ?_;rw[wc hr];rfl
          . exact .none _
         |_=>exact .none _
       . intro a ha;change ((jf P cf F code { fr:=lP args 0 .nil,h:=h,n:=n,gz:=[] }).bind _)=some a at ha;cases hx:jf P cf F code { fr:=lP args 0 .nil,h:=h,n:=n,gz:=[] }with
         |none=>rw[hx]at ha;cases ha
         |some p=>
          rw[hx]at ha;obtain⟨x,s⟩:=p;cases x<;>first|exact ha|cases ha
     . exact .none _
   . exact .none _
 . exact .none _
def KH(P:Program)(cs:e9)(H:List (Nat×oZ))(F m:Nat)(args:ag)(h:Tr O)(n:Nat):M (V×Tr O×Nat):=
 match h.get m with
 |some (.loop true none fr ps assign body)=>match(Nat.blt m fN&&Nat.beq ps.length args.length)&&(jP assign&&jP body)with
  |true=>match xh (J2 ps args) fr with
   |some zS=>(jX P cs H F assign { fr:=zS,h:=h.set m none,n:=n,gz:=[] }).then fun p=>match p.1 with
    | .normal=>(jX P cs H F body p.2).then fun q=>match q.1 with
      | .normal=>.ret (.bool true,q.2.h.set m (some (.loop true none fr ps assign body)),q.2.n)
      | .ret=>.ret (.bool false,q.2.h.set m (some (.loop false (some .ret) fr ps assign body)),q.2.n)
      | .exit id=>.ret (.bool false,q.2.h.set m (some (.loop false (some (.exit id)) fr ps assign body)),q.2.n)
      |_=>none
    |_=>none
   |none=>none
  |false=>none
 |_=>none
theorem GC{P:Program}{cs:e9}{cf:fO}(oV:o5 cs cf)(H:List (Nat×oZ))(F m:Nat)(args:ag)(h:Tr O)(n:Nat):fq (KH P cs H F m args h n) (pR (xj P cf F m args h n)):=by
 unfold KH xj;split
 . rename_i fr ps assign body hg;rw[hg];simp only;split
   . rename_i hq;simp only[aC]at hq;have hq':m<fN/\ps.length=args.length/\jP assign=true/\jP body=true:=⟨au hq.1.1,aD hq.1.2,hq.2.1,hq.2.2⟩;rw[aG hq'];split
     . rename_i zS rD;rw[rD];simp only;refine qB (fq.then (oG P cs cf H oV F assign _) (g:=fun p=>match p.1 with
        | .normal=>(jf P cf F body p.2).bind fun q=>match q.1 with
          | .normal=>some (.bool true,q.2.h.set m (some (.loop true none fr ps assign body)),q.2.n)
          | .ret=>some (.bool false,q.2.h.set m (some (.loop false (some .ret) fr ps assign body)),q.2.n)
          | .exit id=>some (.bool false,q.2.h.set m (some (.loop false (some (.exit id)) fr ps assign body)),q.2.n)
          |_=>none
        |_=>none) (fun p=>?_)) ?_
       . obtain⟨x,s⟩:=p;cases x with
         |normal=>
          refine fq.then (oG P cs cf H oV F body s) (fun q=>?_);obtain⟨y,s2⟩:=q;cases y<;>first|exact .ret _|exact .none _
         |_=>exact .none _
       . intro a ha;cases hx:jf P cf F assign { fr:=zS,h:=h.set m none,n:=n,gz:=[] }with
         |none=>rw[hx]at ha;cases ha
         |some p=>
          rw[hx]at ha;obtain⟨x,s⟩:=p;simp only[Option.bind_some]at ha;cases x with
          |normal=>
           simp only at ha ⊢;cases hy:jf P cf F body s with
           |none=>rw[hy]at ha;cases ha
           |some q=>
            rw[hy]at ha;obtain⟨y,s2⟩:=q;cases y<;>first|exact ha|cases ha
          |_=>cases ha
     . exact .none _
   . exact .none _
 . exact .none _
def gG(P:Program)(S:jL)(HH:FuncId->List (Nat×oZ))(F:Nat):Nat->e9
 |0=>fun _ _ _ _=>none
 |k+1=>fun f args h n=>match S f args h n with
  |some (A,r)=>some [(⟨[],[],A⟩,r)]
  |none=>match Nat.blt f P.funcs.size with
   |true=>KG P (gG P S HH F k) (HH f) F f args h n
   |false=>KH P (gG P S HH F k) (HH f) F (f-P.funcs.size) args h n
open Classical in
noncomputable def CY(P:Program)(S:jL)(F:Nat):Nat->fO
 |0=>fun _ _ _ _=>none
 |k+1=>fun f args h n=>match S f args h n with
  |some (A,r)=>if ∀a∈A,a then some (.ret r.1,r.2.1,r.2.2)else none
  |none=>if f<P.funcs.size then enter P (CY P S F k) F f args h n else xj P (CY P S F k) F (f-P.funcs.size) args h n
theorem vj(P:Program)(S:jL)(HH:FuncId->List (Nat×oZ))(F:Nat):∀k,o5 (gG P S HH F k) (CY P S F k)
 |0=>fun _ _ _ _=>.none _
 |k+1=>by
  intro f args h n;simp only[gG,CY];cases hS:S f args h n with
  |some q=>
   obtain⟨A,v,h',n'⟩:=q;intro l e;obtain rfl:=ew e;refine⟨⟨_,aq.2 rfl,fun c hc=>by simp at hc⟩,fun e he _ hg=>?_⟩;simp only[aq]at he;subst he;simp only;rw[aG hg.2];rfl
  |none=>
   simp only;by_cases hf:f<P.funcs.size
   . have hb:Nat.blt f P.funcs.size=true:=Nat.ble_eq_true_of_le hf;rw[hb,aG hf];exact GB (vj P S HH F k) (HH f) F f args h n
   . have hb:Nat.blt f P.funcs.size=false:=by
      cases hq:Nat.blt f P.funcs.size with
      |false=>rfl
      |true=>exact absurd (au hq) hf
     rw[hb,aI hf];exact GC (vj P S HH F k) (HH f) F _ args h n
theorem IE{P:Program}{S:jL}{F:Nat}(hm:P.follows .mixedOrders=true)(xD:lB P=true)(hS:gd P S):∀k,ji P (CY P S F k)
 |0=>fun _ _ _ _ _ _ _ e=>by cases e
 |k+1=>by
  intro f args h n tV h' n' e E w c9 ra g hd;simp only[CY]at e;split at e
  . rename_i A r hs;obtain⟨v,h1,n1⟩:=r;split at e
    . rename_i hA;simp only[an,aB]at e;obtain⟨rfl,rfl,rfl⟩:=e;obtain⟨fJ,CD⟩:=hS f args h n A v h1 n1 hs;exact⟨fun uR=>CD hA E w c9 ra g hd uR,fun m l s hfm _=>absurd fJ (by rw[hfm];exact Nat.not_lt.2 (Nat.le_add_right _ _))⟩
    . cases e
  . exact Uz (F:=F) (IE hm xD hS k) hm xD f args h n tV h' n' e E w c9 ra g hd
structure CX(P:Program) where
 cs:e9
 cf:fO
 snd:o5 cs cf
 ok:ji P cf
noncomputable def CX.of{P:Program}(hm:P.follows .mixedOrders=true)(xD:lB P=true){S:jL}(hS:gd P S)(HH:FuncId->List (Nat×oZ))(F k:Nat):CX P:=
 ⟨gG P S HH F k,CY P S F k,vj P S HH F k,IE hm xD hS k⟩
def TG(P:Program)(n0 N:Nat)(c:Code)(s:St)(Q:Exit->St->Prop):Prop:=
 ∀(E:Env) (a:Act) (w:World) (K:Exit->Act->World->Prop),jV E N s a w->n0<=s.n->
  (∀y s' E' a' w',Q y s'->lH n0 E s.h w E' s'.h w'->n0<=s'.n->jV E' N s' a' w'->K y a' w')->c.wp P K a w
section
variable{P:Program}{cf:fO}{F n0 N:Nat}{c:Code}{s s':St}{Q Q1:Exit->St->Prop}
theorem fe(h:TG P n0 N c s Q1)(hq:∀y s',Q1 y s'->Q y s'):TG P n0 N c s Q:=fun E a w K r hn k=>h E a w K r hn fun y s' E' a' w' q=>k y s' E' a' w' (hq y s' q)
theorem MB(oB:ji P cf)(hm:P.follows .mixedOrders=true){x:X}{y:Exit}(hc:eU N c=true)(e:jf P cf F c s=some (x,s'))(hx:x.plain=some y)(hq:Q y s'):TG P n0 N c s Q:=by
 intro E a w K r hn k;refine wpIn_wide (n:=0) |>.1 ?_;refine mK (uT:=none) oB hm c s x s' (.inl rfl) hc e E a w K r fun E' a' w' x' u fK pC r' sM=>?_;have:x'=y:=by
  cases x<;>cases x'<;>simp only[N6,X.plain,an,reduceCtorEq]at sM hx<;>first|exact hx|(subst sM;exact hx)
 subst this;exact k _ s' E' a' w' hq (.of u fK hn) (bU hn pC) r'
theorem c6{live:List Nat}{s2:St}(e:eX n0 live s=some s2)(h:TG P n0 N c s2 Q):TG P n0 N c s Q:=by
 intro E a w K r hn k;obtain⟨_,xn,E2,r2,u2⟩:=qX e r;exact h E2 a w K r2 xn fun y s' E' a' w' q u pC r'=>k y s' E' a' w' q (u2.trans u) pC r'
theorem QI{c1 c2:Code}(h:TG P n0 N c1 s (andThen (fun s'=>TG P n0 N c2 s' Q) Q)):TG P n0 N (.seq c1 c2) s Q:=by
 intro E a w K r hn k;refine wp_seq (h E a w _ r hn fun y s' E' a' w' q u pC r'=>?_);cases y<;>first|exact q E' a' w' K r' pC (fun y2 s2 E2 a2 w2 q2 u2 xn r2=>k y2 s2 E2 a2 w2 q2 (u.trans u2) xn r2)|exact k _ s' E' a' w' q u pC r'
theorem cV(hs:Mx c=true)(h:TG P n0 N (dK c) s (andThen (fun s'=>TG P n0 N (dV c) s' Q) Q)):TG P n0 N c s Q:=by
 cases c<;>simp only[Mx,aO]at hs;exact QI h
theorem BM{t:Bool}(hc:Qz c (fun _=>true)=true)(ho:iK s.fr (XH c)=some (.bool t))(h1:t=true->TG P n0 N (My c) s Q)(h2:t=false->TG P n0 N (XI c) s Q):TG P n0 N c s Q:=by
 cases c<;>simp only[Qz,aO]at hc;intro E a w K r hn k;cases t
 . exact wp_cond_false (oD r.good.jm r.fr ho) (h2 rfl E a w K r hn k)
 . exact wp_cond_true (oD r.good.jm r.fr ho) (h1 rfl E a w K r hn k)
theorem fg{i:Nat}(hc:BJ c i=true)(h:TG P n0 N (dx c) s (mj i Q)):TG P n0 N c s Q:=by
 cases c<;>simp only[BJ,aO]at hc;rename_i j b;have:=aD hc;subst this;intro E a w K r hn k;refine wp_block (h E a w _ r hn fun y s' E' a' w' q u pC r'=>?_);cases y<;>first|exact k _ s' E' a' w' q u pC r'|skip
 simp only[Exit.inBlock,mj]at q ⊢;split
 . rename_i he;rw[aG he]at q;exact k _ s' E' a' w' q u pC r'
 . rename_i he;rw[aI he]at q;exact k _ s' E' a' w' q u pC r'
def TGR(P:Program)(n0 N:Nat)(c:Code)(Q:Exit->St->Prop):Nat->St->Prop
 |0,_=>False
 |n+1,s=>TG P n0 N c s (andThen (fun s'=>TGR P n0 N c Q n s') Q)
theorem UG(n:Nat)(hc:CR c=true)(h:TGR P n0 N (dx c) Q n s):TG P n0 N c s Q:=by
 cases c<;>simp only[CR,aO]at hc;rename_i b;intro E0 a w K r hn k;refine wp_loop_rounds n ?_;have key:∀(n:Nat) (s1:St) (E:Env) (a:Act) (w1:World),TGR P n0 N b Q n s1->jV E N s1 a w1->n0<=s1.n->lH n0 E0 s.h w E s1.h w1->Code.rounds P b K n a w1:=by
  intro n
  induction n with
  |zero=>intro s1 E a w1 h;exact h.elim
  |succ n ih=>
   intro s1 E a w1 h r hn u;rw[rounds_succ];refine h E a w1 _ r hn fun y s' E' a' w' q u' pC r'=>?_;cases y<;>first|exact ih s' E' a' w' q r' pC (u.trans u')|exact k _ s' E' a' w' q (u.trans u') pC r'
 exact key n s E0 a w h r hn (.refl r.good)
theorem gl(I:Nat->St->Prop)(hl:CR c=true)(h:∀k s,I k s->TG P n0 N (dx c) s (andThen (fun s'=>∃k',k'<k/\I k' s') Q))(k:Nat)(h0:I k s):TG P n0 N c s Q:=by
 refine UG (k+1) hl ?_;have key:∀(k:Nat) (n:Nat) (s:St),k<n->I k s->TGR P n0 N (dx c) Q n s:=by
  intro k
  induction k using Nat.strongRecOn with
  |_ k ih=>
   intro n s hn hi;cases n with
   |zero=>omega
   |succ n=>
    simp only[TGR];refine fe (h k s hi) fun y s' hq=>?_;cases y with
    |normal=>
     obtain⟨k',hk,kD⟩:=hq;exact ih k' hk n s' be kD
    |_=>exact hq
 exact key k (k+1) s be h0
end
section
variable{P:Program}{X':CX P}{H:List (Nat×oZ)}{F n0 N:Nat}{c:Code}{s:St}{Q:Exit->St->Prop}
inductive o6 where
 |to (y:Exit) (s:St)
 |ret (v:V) (h:Tr O) (n:Nat)
 |bad
def KI(P:Program)(n0:Nat)(fn:Func)(s:St):Option (V×Tr O×Nat):=match vi P fn s.fr s.gz s.h s.n with
 |some (v,h,n)=>match eX n0 [0] { fr:=Tr.nil.set 0 (some v),h:=h,n:=n,gz:=[] }with
  |some s2=>match s2.fr.get 0 with
   |some v2=>some (v2,s2.h,s2.n)
   |none=>none
  |none=>none
 |none=>none
def vk(P:Program)(n0:Nat)(fn:Func)(live:List Nat)(p:X×St):o6:=match p.1 with
 | .normal=>match eX n0 live p.2 with
   |some s=>.to .normal s
   |none=>.bad
 | .exit i=>match eX n0 live p.2 with
   |some s=>.to (.exit i) s
   |none=>.bad
 | .ret=>match KI P n0 fn p.2 with
   |some (v,h,n)=>.ret v h n
   |none=>.bad
 | .panic _=>.bad
def fH(P:Program)(n0:Nat)(fn:Func)(R:V->Tr O->Nat->Prop)(y:Exit)(s':St):Prop:=(y= .normal\/y= .ret)/\∃v h n,KI P n0 fn s'=some (v,h,n)/\R v h n
def o6.post(P:Program)(n0:Nat)(fn:Func)(live:List Nat)(R:V->Tr O->Nat->Prop)(Q:Exit->St->Prop):o6->Prop
 | .to y s=>∀s',eX n0 live s'=some s->Q y s'
 | .ret v h n=>R v h n/\∀s',fH P n0 fn R .ret s'->Q .ret s'
 | .bad=>False
theorem KJ(hm:P.follows .mixedOrders=true){l:List (pD×X×St)}(hc:eU N c=true)(e:jX P X'.cs H F c s=some l)(h:∀p∈l,p.1.ok->p.1.good/\∃y,p.2.1.plain=some y/\Q y p.2.2):TG P n0 N c s Q:=by
 obtain⟨⟨p,hp,ho⟩,h2⟩:=oG P X'.cs X'.cf H X'.snd F c s l e;obtain⟨hg,y,hy,hq⟩:=h p hp ho;exact MB (F:=F) X'.ok hm hc (h2 p hp ho hg) hy hq
def GD(P:Program)(cs:e9)(H:List (Nat×oZ))(F n0:Nat)(fn:Func)(live:List Nat)(c:Code)(s:St):List (List (Bool×Bool)×ah×o6):=vg (vk P n0 fn live) (yW (jX P cs H F c s))
def y4(P:Program)(cs:e9)(H:List (Nat×oZ))(F:Nat)(c:Code)(s:St):Bool:=(jX P cs H F c s).isSome
def xH(P:Program)(cs:e9)(H:List (Nat×oZ))(F:Nat)(c:Code)(s:St):ag:=qC (yW (jX P cs H F c s))
def An(P:Program)(cs:e9)(H:List (Nat×oZ))(F:Nat)(c:Code)(s:St):ag:=vh (yW (jX P cs H F c s))
theorem QJ(X':CX P)(hm:P.follows .mixedOrders=true)(H:List (Nat×oZ))(F:Nat)(fn:Func)(live:List Nat)(R:V->Tr O->Nat->Prop)(G:List (List (Bool×Bool)×ah×o6))(hc:eU N c=true)
  (e1:y4 P X'.cs H F c s=true) (e2:xH P X'.cs H F c s=An P X'.cs H F c s) (e3:GD P X'.cs H F n0 fn live c s=G)
  (h:∀g∈G,(∀b∈g.1,b.1=b.2)->(∀a∈g.2.1,a)/\g.2.2.post P n0 fn live R Q):TG P n0 N c s Q:=by
 obtain⟨l,hl⟩:=b9.1 e1;unfold xH An at e2;unfold GD at e3;rw[hl]at e2 e3;simp only[yW]at e2 e3;refine KJ (X':=X') hm hc hl fun p hp ho=>?_;have hg:=h (p.1.conds,p.1.UD,vk P n0 fn live p.2) (e3▸si hp) ho;refine⟨⟨yX l e2 p hp,hg.1⟩,?_⟩;obtain⟨pp,x,s'⟩:=p;have iH:=hg.2;simp only[vk]at iH;cases x with
 |normal=>
  simp only at iH;split at iH
  . rename_i s2 jd;exact⟨.normal,rfl,iH s' jd⟩
  . exact iH.elim
 |exit i=>
  simp only at iH;split at iH
  . rename_i s2 jd;exact⟨.exit i,rfl,iH s' jd⟩
  . exact iH.elim
 |ret=>
  simp only at iH;split at iH
  . rename_i v h n hr;exact⟨.ret,rfl,iH.2 s' ⟨.inr rfl,v,h,n,hr,iH.1⟩⟩
  . exact iH.elim
 |panic _=>exact iH.elim
theorem Oq(X':CX P)(hm:P.follows .mixedOrders=true)(H:List (Nat×oZ))(F:Nat)(fn:Func)(live:List Nat)(R:V->Tr O->Nat->Prop)(G:List (List (Bool×Bool)×ah×o6))(hs:Mx c=true)(hc:eU N (dK c)=true)
  (e1:y4 P X'.cs H F (dK c) s=true) (e2:xH P X'.cs H F (dK c) s=An P X'.cs H F (dK c) s) (e3:GD P X'.cs H F n0 fn live (dK c) s=G)
  (h:∀g∈G,(∀b∈g.1,b.1=b.2)->(∀a∈g.2.1,a)/\g.2.2.post P n0 fn live R (andThen (fun s'=>TG P n0 N (dV c) s' Q) Q)):TG P n0 N c s Q:=
 cV hs (QJ X' hm H F fn live R G hc e1 e2 e3 h)
theorem QK{cf:fO}(oB:ji P cf)(hm:P.follows .mixedOrders=true):∀(k:Nat) {c:Code} {s s1:St} {Q:Exit->St->Prop},eU N c=true->jf P cf F (eO k c) s=some (.normal,s1)->TG P n0 N (de k c) s1 Q->TG P n0 N c s Q:=by
 intro k;have IF:∀{c:Code} {s s1:St} {Q:Exit->St->Prop},jf P cf F .skip s=some (.normal,s1)->TG P n0 N c s1 Q->TG P n0 N c s Q:=by
  intro c s s1 Q e h;simp only[jf,an,aB,true_and]at e;subst e;exact h
 induction k with
 |zero=>intro c s s1 Q _ e h;cases c<;>exact IF e h
 |succ k ih=>
  intro c s s1 Q ic e h;cases c<;>first|exact IF e h|skip
  rename_i a b;simp only[eU,aC]at ic;simp only[eO,jf]at e;split at e
  . rename_i s' h1;exact QI (MB (F:=F) oB hm ic.1 h1 rfl (ih ic.2 e h))
  . rename_i hr
    first|exact(hr s1 rfl).elim|exact(hr s1 e).elim
theorem UH(k:Nat)(X':CX P)(hm:P.follows .mixedOrders=true)(H:List (Nat×oZ))(F:Nat)(fn:Func)(live:List Nat)(G:List (List (Bool×Bool)×ah×o6))(hc:eU N c=true)
  (e1:y4 P X'.cs H F (eO k c) s=true) (e2:xH P X'.cs H F (eO k c) s=An P X'.cs H F (eO k c) s) (e3:GD P X'.cs H F n0 fn live (eO k c) s=G)
  (h:∀g∈G,(∀b∈g.1,b.1=b.2)->(∀a∈g.2.1,a)/\∃s1,g.2.2= .to .normal s1/\TG P n0 N (de k c) s1 Q):TG P n0 N c s Q:=by
 obtain⟨l,hl⟩:=b9.1 e1;unfold xH An at e2;unfold GD at e3;rw[hl]at e2 e3;simp only[yW]at e2 e3;obtain⟨⟨p,hp,ho⟩,h2⟩:=oG P X'.cs X'.cf H X'.snd F (eO k c) s l hl;obtain⟨hA,s1,fQ,hT⟩:=h (p.1.conds,p.1.UD,vk P n0 fn live p.2) (e3▸si hp) ho;have fM:=h2 p hp ho ⟨yX l e2 p hp,hA⟩;obtain⟨pp,x,s'⟩:=p;simp only[vk]at fQ;cases x with
 |normal=>
  simp only at fQ;split at fQ
  . rename_i s2 jd;cases fQ;exact QK (F:=F) X'.ok hm k hc fM (c6 jd hT)
  . cases fQ
 |exit i=>
  simp only at fQ;split at fQ<;>cases fQ
 |ret=>
  simp only at fQ;split at fQ<;>cases fQ
 |panic _=>cases fQ
end
theorem Ot{P:Program}{n0:Nat}{fn:Func}{s:St}{v:V}{h:Tr O}{n:Nat}(e:KI P n0 fn s=some (v,h,n)):∃v1 h1 n1 s2,vi P fn s.fr s.gz s.h s.n=some (v1,h1,n1)/\eX n0 [0] { fr:=Tr.nil.set 0 (some v1),h:=h1,n:=n1,gz:=[] }=some s2/\s2.fr.get 0=some v/\s2.h=h/\s2.n=n:=by
 unfold KI at e;split at e
 . rename_i v1 h1 n1 e1;split at e
   . rename_i s2 e2;split at e
     . rename_i v2 e3;simp only[an,aB]at e;obtain⟨rfl,rfl,rfl⟩:=e;exact⟨v1,h1,n1,s2,e1,e2,e3,rfl,rfl⟩
     . cases e
   . cases e
 . cases e
theorem oH{P:Program}(hm:P.follows .mixedOrders=true)(xD:lB P=true){f:FuncId}{fn:Func}{code:Code}(hf:P.funcs[f]? =some fn)(hb:fn.body=some code){args:ag}{h:Tr O}{n0:Nat}
  (l:(Nat.ble args.length fn.ntmps&&Nat.blt fn.ntmps fN)=true) (R:V->Tr O->Nat->Prop) (hT:TG P n0 fn.ntmps code (cT args h n0) (fH P n0 fn R))
  {E:Env} {w:World} {c9:List Value} (ra:dI E args c9) (g:Good E h w) (hd:qL E n0):
  Calls P f c9.toArray w fun e w'=>∃v h' n',R v h' n'/\jU E h n0 w (.ret v) h' n' e w':=by
 simp only[aC]at l;obtain⟨ya,lQ⟩:=tj (n:=fn.ntmps) ra (au l.1) (au l.2);refine callsIn_wide.1 (callsIn_of_wp_marks (n:=0) hf hb trivial (wpIn_wide.2 ?_));refine hT E _ w _ ⟨g,hd,ya,lQ,rfl⟩ (aA _) fun y s' E' a' w' ⟨hy,v,h',n',hr,hR⟩ u pC r'=>?_;obtain⟨v1,h1,n1,s2,k1,k2,k3,k4,k5⟩:=Ot hr;have key:LeavesInM Fence.wide 0 P fn a'.tmps (fun e w'=>∃v h' n',R v h' n'/\jU E h n0 w (.ret v) h' n' e w') a'.defers .returning w':=by
  refine qV (cf:=fun _ _ _ _=>none) (F:=0) (fun _ _ _ _ _ _ _ e=>by cases e) hm xD s'.gz .ret s'.h s'.n _ h1 n1 (wc k1) E' w' a'.defers .returning _ r'.good r'.nZ r'.fr r'.gz trivial fun E2 w2 en u2 qu Gl xn ho=>?_;have u3:=u.trans (lH.of u2 qu pC);cases en with
  |returned v'=>
   have ho:dF E2 v1 v':=ho;have sr:jV E2 1 { fr:=Tr.nil.set 0 (some v1),h:=h1,n:=n1,gz:=[] } { tmps:=#[v'],defers:=[] } w2:=by
    refine⟨u3.good,Gl,fun t v hv=>?_,rfl,rfl⟩;rw[Tr.eS _ _ _ dP]at hv;split at hv
    . rename_i q;subst q;cases hv;exact⟨v',rfl,ho⟩
    . simp[Tr.get]at hv
   obtain⟨_,Ky,E3,r3,u4⟩:=qX k2 sr;have u5:=(u3.trans u4).qo hd;obtain⟨v'',q1,q2⟩:=r3.fr 0 v k3;simp only[List.getElem?_toArray,bG,an]at q1;subst q1;refine⟨v,h',n',hR,E3,k4▸u5,(u3.trans u4).low,k5▸r3.nZ,by rw[<- k5];exact Ky,q2⟩
  |_=>exact ho.elim
 rcases hy with rfl|rfl<;>exact key
theorem y5{P:Program}(hm:P.follows .mixedOrders=true)(xD:lB P=true){f:FuncId}{fn:Func}{code:Code}(hf:P.funcs[f]? =some fn)(hb:fn.body=some code){args:ag}{h:Tr O}{n0:Nat}
  (l:(Nat.ble args.length fn.ntmps&&Nat.blt fn.ntmps fN)=true) (v:V) (h':Tr O) (n':Nat) (hT:TG P n0 fn.ntmps code (cT args h n0) (fH P n0 fn fun a b c=>a=v/\b=h'/\c=n'))
  {E:Env} {w:World} {c9:List Value} (ra:dI E args c9) (g:Good E h w) (hd:qL E n0):
  Calls P f c9.toArray w (jU E h n0 w (.ret v) h' n'):=
 (oH hm xD hf hb l _ hT ra g hd).mono fun e w' ⟨_,_,_,⟨e1,e2,e3⟩,k⟩=>by subst e1 e2 e3;exact k
def Bb:List (Nat×V)->Tr V:=go .nil
where go (t:Tr V):List (Nat×V)->Tr V
 | []=>t
 |(k,v)::r=>go (t.set k (some v)) r
def hL:af->Tr O:=go .nil
where go (t:Tr O):af->Tr O
 | []=>t
 |(k,v)::r=>go (t.set k (some v)) r
def eF(l:List (Nat×V))(h:Tr O)(n:Nat):St:={ fr:=Bb l,h:=h,n:=n,gz:=[] }
def QL(P:Program)(cs:e9)(H:List (Nat×oZ))(F n0:Nat)(fn:Func)(live:List Nat)(c:Code)(s:St):Option (ag×ag×List (List (Bool×Bool)×ah×o6)):=
 match jX P cs H F c s with
 |some l=>some (qC l,vh l,vg (vk P n0 fn live) l)
 |none=>none
abbrev cQ(P:Program)(cs:e9)(H:List (Nat×oZ))(F n0:Nat)(fn:Func)(live:List Nat)(c:Code)(s:St)(L:ag)(G:List (List (Bool×Bool)×ah×o6)):Prop:=QL P cs H F n0 fn live c s=some (L,L,G)
theorem cQ.parts{P:Program}{cs:e9}{H:List (Nat×oZ)}{F n0:Nat}{fn:Func}{live:List Nat}{c:Code}{s:St}{L:ag}{G:List (List (Bool×Bool)×ah×o6)}(h:cQ P cs H F n0 fn live c s L G):
  y4 P cs H F c s=true/\xH P cs H F c s=An P cs H F c s/\GD P cs H F n0 fn live c s=G:=by
 have h:QL P cs H F n0 fn live c s=some (L,L,G):=h;unfold QL at h;unfold y4 xH An GD;split at h
 . rename_i l hl;simp only[an,aB]at h;rw[hl];exact⟨rfl,h.1.trans h.2.1.symm,h.2.2⟩
 . cases h
section
variable{P:Program}{n0 N:Nat}{c:Code}{s:St}{Q:Exit->St->Prop}{H:List (Nat×oZ)}{F:Nat}{fn:Func}{live:List Nat}{L:ag}{G:List (List (Bool×Bool)×ah×o6)}
section
variable(k:Nat)(X':CX P)
theorem gy(hm:P.follows .mixedOrders=true)(R:V->Tr O->Nat->Prop)(hc:eU N c=true)(hr:cQ P X'.cs H F n0 fn live c s L G)
  (h:∀g∈G,(∀b∈g.1,b.1=b.2)->(∀a∈g.2.1,a)/\g.2.2.post P n0 fn live R Q):TG P n0 N c s Q:=
 QJ X' hm H F fn live R G hc hr.parts.1 hr.parts.2.1 hr.parts.2.2 h
theorem y6(hm:P.follows .mixedOrders=true)(R:V->Tr O->Nat->Prop)(hs:Mx c=true)(hc:eU N (dK c)=true)(hr:cQ P X'.cs H F n0 fn live (dK c) s L G)
  (h:∀g∈G,(∀b∈g.1,b.1=b.2)->(∀a∈g.2.1,a)/\g.2.2.post P n0 fn live R (andThen (fun s'=>TG P n0 N (dV c) s' Q) Q)):TG P n0 N c s Q:=
 Oq X' hm H F fn live R G hs hc hr.parts.1 hr.parts.2.1 hr.parts.2.2 h
theorem Zx(hm:P.follows .mixedOrders=true)(hc:eU N c=true)(hr:cQ P X'.cs H F n0 fn live (eO k c) s L G)
  (h:∀g∈G,(∀b∈g.1,b.1=b.2)->(∀a∈g.2.1,a)/\∃s1,g.2.2= .to .normal s1/\TG P n0 N (de k c) s1 Q):TG P n0 N c s Q:=
 UH k X' hm H F fn live G hc hr.parts.1 hr.parts.2.1 hr.parts.2.2 h
theorem kV(hm:P.follows .mixedOrders=true){A:ah}{s1:St}(hc:eU N c=true)(hr:cQ P X'.cs H F n0 fn live (eO k c) s L [([],A,.to .normal s1)])
  (hA:∀a∈A,a) (h:TG P n0 N (de k c) s1 Q):TG P n0 N c s Q:=
 Zx k X' hm hc hr fun g hg _=>by
  rw[aq]at hg;subst hg;exact⟨hA,s1,rfl,h⟩
theorem iq(hm:P.follows .mixedOrders=true)(R:V->Tr O->Nat->Prop)(hc:eU N c=true)(hr:cQ P X'.cs H F n0 fn live c s L G)
  (h:∀g∈G,(∀b∈g.1,b.1=b.2)->(∀a∈g.2.1,a)/\∃v h n,g.2.2= .ret v h n/\R v h n):TG P n0 N c s (fH P n0 fn R):=
 gy X' hm R hc hr fun g hg hc=>by
  obtain⟨h1,v,h',n',e,hR⟩:=h g hg hc;refine⟨h1,?_⟩;rw[e];exact⟨hR,fun s' q=>q⟩
end
end
abbrev lT:V->Tr O->Nat->Prop:=fun _ _ _=>True
section
variable{P:Program}{n0 N:Nat}{c:Code}{s:St}{Q:Exit->St->Prop}{F:Nat}{fn:Func}
def o6.loop(P:Program)(n0:Nat)(fn:Func)(live:List Nat)(R:V->Tr O->Nat->Prop)(I:Nat->St->Prop)(k:Nat)(Q:Exit->St->Prop):o6->Prop
 | .to .normal s=>∃k',k'<k/\I k' s
 | .to y s=>∀s',eX n0 live s'=some s->Q y s'
 | .ret v h n=>R v h n/\∀s',fH P n0 fn R .ret s'->Q .ret s'
 | .bad=>False
end
theorem IG{E:Env}{h:Tr O}{n:Nat}{w:World}{v:V}{h':Tr O}{n':Nat}{e:Ending}{w':World}(Bc:∀m,¬eC h m)(c:jU E h n w (.ret v) h' n' e w'):(∃E,tf E (.ret v) e)/\Below w.heap.size w w':=by
 obtain⟨E',u,_,_,_,ho⟩:=c;exact⟨⟨E',ho⟩,u.os,u.tape,u.output,u.size,fun k hk=>u.keep k hk fun m s hm=>absurd hm (Bc m)⟩
theorem xI{P:Program}(hm:P.follows .mixedOrders=true)(xD:lB P=true){f:FuncId}{fn:Func}{code:Code}(hf:P.funcs[f]? =some fn)(hb:fn.body=some code){args:ag}{h:Tr O}{n0:Nat}
  (l:(Nat.ble args.length fn.ntmps&&Nat.blt fn.ntmps fN)=true) {v:V} (hT:TG P n0 fn.ntmps code (cT args h n0) (fH P n0 fn fun a _ _=>a=v))
  {E:Env} {w:World} {c9:List Value} (ra:dI E args c9) (g:Good E h w) (hd:qL E n0) (Bc:∀m,¬eC h m):
  Calls P f c9.toArray w fun e w'=>(∃E,tf E (.ret v) e)/\Below w.heap.size w w':=
 (oH hm xD hf hb l _ hT ra g hd).mono fun e w' ⟨v',h',n',e1,k⟩=>by subst e1;exact IG Bc k
theorem QM:∀m,¬eC (.nil:Tr O) m:=fun m k=>absurd rfl k.live
def jJ(f:ag->Option (ah×V)):ag->Tr O->Nat->Option (ah×V×Tr O×Nat):=fun args h n=>match f args with
 |some (A,v)=>some (A,v,h,n)
 |none=>none
theorem jY{P:Program}{f:FuncId}{spec:ag->Option (ah×V)}(fJ:f<P.funcs.size)(h:∀args A v,spec args=some (A,v)->V.wT args=true/\v.free=true/\((∀a∈A,a)->
  ∀E w c9,WG w->dI E args c9->Calls P f c9.toArray w fun e w'=>(∃E,tf E (.ret v) e)/\Below w.heap.size w w')):jG P f (jJ spec):=by
 refine⟨fJ,fun args h' n A v h2 n2 e hA E w c9 ra g hd hc=>?_⟩;unfold jJ at e;split at e
 . rename_i A' v' hs;simp only[an,aB]at e;obtain⟨rfl,rfl,rfl,rfl⟩:=e;obtain⟨h1,h2,h3⟩:=h args _ _ hs;exact(h3 hA E w c9 g.wg ra).mono fun en w' ⟨ho,b⟩=>IA g hd h2 ho b
 . cases e
theorem gT{P:Program}(hm:P.follows .mixedOrders=true)(xD:lB P=true){f:FuncId}{fn:Func}{code:Code}(hf:P.funcs[f]? =some fn)(hb:fn.body=some code){args:ag}
  (l:(Nat.ble args.length fn.ntmps&&Nat.blt fn.ntmps fN)=true) {v:V} (ya:V.wT args=true) (hT:TG P gN fn.ntmps code (cT args .nil gN) (fH P gN fn fun a _ _=>a=v)):
  ∀E w c9,WG w->dI E args c9->Calls P f c9.toArray w fun e w'=>(∃E,tf E (.ret v) e)/\Below w.heap.size w w':=
 fun _ w _ hw ra=>xI hm xD hf hb l hT (mQ _ _ ya ra) (adZ hw) (ajS (aA _)) QM
def EV:O->O
 | .own k ks=>.ints k ks
 | .cells cs=>match cs with
   | .int k x::r=>match oT k (.int k x::r)with
     |some l=>.ints k l
     |none=>.cells (.int k x::r)
   |cs=>.cells cs
 |o=>o
def EX:Tr O->Tr O
 | .nil=>.nil
 | .node v l r=>.node (match v with|some o=>some (EV o)|none=>none) (EX l) (EX r)
theorem sj:∀(t:Tr O) (m:Nat),(EX t).get m=(t.get m).map EV
 | .nil,m=>rfl
 | .node v l r,m=>by
   simp only[EX,Tr.get];split
   . cases v<;>rfl
   . rename_i k;split
     . exact sj l _
     . exact sj r _
theorem Ou{E:Env}{w:World}{b s:Nat}{o:O}(r:lY E w b s o):lY E w b s (EV o):=by
 have key:∀k ks,lY E w b s (.own k ks)->lY E w b s (.ints k ks):=fun k ks ⟨c,el,fz,h1,h2,_,h4⟩=>⟨c,el,fz,h1,h2,mN.1 h4⟩;unfold EV;split
 . exact key _ _ r
 . split
   . rename_i k x rest;split
     . rename_i l hl;have e:=pX hl;refine key _ _ ?_;rw[e]at r;exact r
     . exact r
   . exact r
 . exact r
theorem II{o:O}(h:(EV o).wr=true):o.wr=true:=by
 unfold EV at h;split at h
 . rfl
 . rfl
 . exact h
theorem Ov{E:Env}{h:Tr O}{w:World}(g:Good E h w):Good E (EX h) w:=by
 refine⟨?_,?_,g.mU,g.jm,fun b c q=>⟨g.fz b c q,fun m s hm e=>?_⟩⟩
 case refine_3=>
  obtain⟨o,ho,hw⟩:=hm;rw[sj]at ho;cases h1:h.get m with
  |none=>rw[h1]at ho;cases ho
  |some o1=>
   rw[h1]at ho;simp only[bh,an]at ho;subst ho;exact(g.gM b c q).2 m s ⟨o1,h1,II hw⟩ e
 . intro m o hm;rw[sj]at hm;cases ho:h.get m with
   |none=>rw[ho]at hm;cases hm
   |some o'=>
    rw[ho]at hm;simp only[bh,an]at hm;subst hm;obtain⟨b,s,h1,h2⟩:=g.rel m o' ho;exact⟨b,s,h1,Ou h2⟩
 . rintro m m' b s s' fP ⟨o,ho,hw⟩ sW e e';rw[sj]at ho sW;cases h1:h.get m with
   |none=>rw[h1]at ho;cases ho
   |some o1=>
    rw[h1]at ho;simp only[bh,an]at ho;subst ho;refine g.inj m m' b s s' fP ⟨o1,h1,II hw⟩ (fun q=>sW (by rw[q];rfl)) e e'
def MC(spec:ag->Tr O->Option (ah×V)):ag->Tr O->Nat->Option (ah×V×Tr O×Nat):=fun args h n=>match spec args (EX h)with
 |some (A,v)=>some (A,v,h,n)
 |none=>none
theorem IJ{P:Program}{f:FuncId}{spec:ag->Tr O->Option (ah×V)}(hp:QE P f spec):jG P f (MC spec):=by
 refine⟨hp.1,fun args h n A v h' n' e hA E w c9 ra g hd hc=>?_⟩;unfold MC at e;split at e
 . rename_i A' v' hs;simp only[an,aB]at e;obtain⟨rfl,rfl,rfl,rfl⟩:=e;obtain⟨h2,h3⟩:=hp.2 args _ _ _ hs;exact(h3 hA E n w c9 ra (Ov g) hd hc).mono fun en w' ⟨ho,b⟩=>IA g hd h2 ho b
 . cases e
theorem CZ{P:Program}(hm:P.follows .mixedOrders=true)(xD:lB P=true){f:FuncId}{fn:Func}{code:Code}(hf:P.funcs[f]? =some fn)(hb:fn.body=some code){args:ag}{h:Tr O}{n0:Nat}
  (l:(Nat.ble args.length fn.ntmps&&Nat.blt fn.ntmps fN)=true) {v:V} (hT:TG P n0 fn.ntmps code (cT args h n0) (fH P n0 fn fun a _ _=>a=v))
  {E:Env} {w:World} {c9:List Value} (g:Good E h w) (hd:qL E n0) (Bc:∀m,¬eC h m) (ra:dI E args c9):
  Calls P f c9.toArray w fun e w'=>(∃E,tf E (.ret v) e)/\Below w.heap.size w w':=xI hm xD hf hb l hT ra g hd Bc
def QN(h:Tr O):List (Nat×IntKind)->Option (Tr O)
 | []=>some h
 |(m,k)::r=>match h.get m with
  |some (.cells cs)=>match oT k cs with
   |some ks=>match Nat.blt m fN with
    |true=>QN (h.set m (some (.own k ks))) r
    |false=>none
   |none=>none
  |_=>none
theorem EY{E:Env}{w:World}:∀(l:List (Nat×IntKind)) (h h2:Tr O),QN h l=some h2->Good E h w->Good E h2 w/\∀m,(h2.get m≠none↔h.get m≠none)/\(eC h2 m->eC h m)
 | [],h,h2,e,g=>by simp only[QN,an]at e;subst e;exact⟨g,fun m=>⟨Iff.rfl,id⟩⟩
 |(m,k)::r,h,h2,e,g=>by
  unfold QN at e;split at e
  case h_2=>cases e
  rename_i cs hm;split at e
  case h_2=>cases e
  rename_i ks hk;split at e
  case h_2=>cases e
  rename_i ht;have ht:m<fN:=au ht;have oV:=pX hk;have kH:∀j,(h.set m (some (.own k ks))).get j=if j=m then some (.own k ks)else h.get j:=fun j=>Tr.eS _ _ _ ht
  have F4:∀j,((h.set m (some (.own k ks))).get j≠none↔h.get j≠none)/\(eC (h.set m (some (.own k ks))) j->eC h j):=by
   intro j;rw[kH];by_cases q:j=m
   . subst q;rw[aG rfl,hm];exact⟨by simp,fun _=>⟨_,hm,rfl⟩⟩
   . rw[aI q];exact⟨Iff.rfl,fun z=>oz ht z q⟩
  have g1:Good E (h.set m (some (.own k ks))) w:=by
   refine⟨fun j o hj=>?_,fun j j' b s s' fP hj QO e1 e2=>g.inj j j' b s s' fP ((F4 j).2 hj) ((F4 j').1.1 QO) e1 e2,g.mU,g.jm,fun b c q=>⟨g.fz b c q,fun m' s sW=>(g.gM b c q).2 m' s ((F4 m').2 sW)⟩⟩;rw[kH]at hj;split at hj
   . rename_i q;subst q;obtain rfl:=ew hj;obtain⟨b,s,h1,h2⟩:=g.rel j _ hm;rw[oV]at h2;exact⟨b,s,h1,h2⟩
   . exact g.rel j o hj
  obtain⟨g2,k2⟩:=EY r _ h2 e g1;exact⟨g2,fun j=>⟨(k2 j).1.trans (F4 j).1,fun z=>(F4 j).2 ((k2 j).2 z)⟩⟩
def KK(l:List (Nat×IntKind))(s:St):Option St:=match QN s.h l with
 |some h=>some { s with h:=h }
 |none=>none
theorem tC{P:Program}{n0 N:Nat}{c:Code}{s s2:St}{Q:Exit->St->Prop}(l:List (Nat×IntKind))(e:KK l s=some s2)(h:TG P n0 N c s2 Q):TG P n0 N c s Q:=by
 unfold KK at e;split at e
 case h_2=>cases e
 rename_i h2 hh;obtain rfl:=ew e;intro E a w K r hn k;obtain⟨g2,k2⟩:=EY (E:=E) (w:=w) l s.h h2 hh r.good;have u:lH n0 E s.h w E h2 w:=⟨fun _ _ _ _ e=>⟨e,rfl⟩,fun _ _=>rfl,fun _ _ q=>q,g2,aA _,rfl,rfl,rfl,fun _ _ _=>rfl,fun m b s1 hm e1 _=>⟨m,s1,(k2 m).1.1 hm,e1,(k2 m).2⟩,fun _ _ q=>.inl q⟩;exact h E a w K ⟨g2,r.nZ,r.fr,r.size,r.gz⟩ hn fun y s' E' a' w' q u' pC r'=>k y s' E' a' w' q (u.trans u') pC r'
def Env.rows(E:Env)(ns:List (Option (Nat×Nat))):Env:=⟨fun j=>match ns.getD j none with
 |some (m,o)=>match E.ι m with
  |some (b,s)=>some (b,s+o)
  |none=>none
 |none=>none,E.β,E.φ⟩
def rHi:List (Option (IntKind×List Int))->Nat->Tr O->Tr O
 | [],_,t=>t
 |some (k,ks)::r,i,t=>rHi r (i+1) (t.set i (some (.ints k ks)))
 |none::r,i,t=>rHi r (i+1) t
def rH(rs:List (Option (IntKind×List Int))):Tr O:=rHi rs 0 .nil
theorem GF:∀(rs:List (Option (IntKind×List Int))) (i:Nat) (t:Tr O) (m:Nat) (o:O),i+rs.length<fN->(rHi rs i t).get m=some o->t.get m=some o\/∃k ks,i<=m/\rs[m-i]? =some (some (k,ks))/\o= .ints k ks
 | [],i,t,m,o,_,h=>.inl h
 |some (k,ks)::r,i,t,m,o,hl,h=>by
  simp only[aT]at hl;rcases GF r (i+1) _ m o be h with q|⟨k',Xq,h1,h2,h3⟩
  . rw[Tr.eS _ _ _ be]at q;split at q
    . rename_i z;subst z;obtain rfl:=ew q;exact .inr ⟨k,ks,aA _,by simp,rfl⟩
    . exact .inl q
  . refine .inr ⟨k',Xq,be,?_,h3⟩;rw[show m-i=(m-(i+1))+1 by omega,cu];exact h2
 |none::r,i,t,m,o,hl,h=>by
  simp only[aT]at hl;rcases GF r (i+1) _ m o be h with q|⟨k',Xq,h1,h2,h3⟩
  . exact .inl q
  . refine .inr ⟨k',Xq,be,?_,h3⟩;rw[show m-i=(m-(i+1))+1 by omega,cu];exact h2
theorem QS{rs:List (Option (IntKind×List Int))}{m:Nat}{o:O}(hl:rs.length<fN)(h:(rH rs).get m=some o):∃k ks,rs[m]? =some (some (k,ks))/\o= .ints k ks:=by
 rcases GF rs 0 .nil m o be h with q|⟨k,ks,_,h2,h3⟩
 . simp[Tr.get]at q
 . exact⟨k,ks,by simpa using h2,h3⟩
theorem UI{E:Env}{ns:List (Option (Nat×Nat))}(g:GE E)(hg:∀p∈jN,ns[p.2]? =some (some (p.2,0))):GE (E.rows ns):=by
 intro p hp;show(match ns.getD p.2 none with
  |some (m,o)=>match E.ι m with
   |some (b,s)=>some (b,s+o)
   |none=>none
  |none=>none)=_
 rw[aL,hg p hp];simp only[Option.getD_some,g p hp]
theorem MD{E:Env}{h:Tr O}{w:World}(g:Good E h w)(ns:List (Option (Nat×Nat)))(rs:List (Option (IntKind×List Int)))(hl:rs.length<fN)
  (hg:∀p∈jN,ns[p.2]? =some (some (p.2,0))) (hr:∀(j:Nat) (k:IntKind) (ks:List Int),rs[j]? =some (some (k,ks))->∃m o QT,ns[j]? =some (some (m,o))/\h.get m=some (.ints k QT)/\QT.drop o=ks):
  Good (E.rows ns) (rH rs) w/\qL (E.rows ns) ns.length/\∀m,¬eC (rH rs) m:=by
 have tZ:∀m,¬eC (rH rs) m:=by
  rintro m ⟨o,h1,h2⟩;obtain⟨k,ks,_,rfl⟩:=QS hl h1;cases h2
 refine⟨⟨fun m o hm=>?_,fun m _ _ _ _ _ hm=>absurd hm (tZ m),fun m b' s e=>?_,UI g.jm hg,fun b c q=>⟨g.fz b c q,fun m s hm=>absurd hm (tZ m)⟩⟩,fun m hm=>?_,tZ⟩
 . obtain⟨k,ks,h1,rfl⟩:=QS hl hm;obtain⟨m0,o,QT,h2,h3,h4⟩:=hr m k ks h1;obtain⟨b,s,e1,c,el,fz,k1,k2,k3⟩:=g.rel m0 _ h3;refine⟨b,s+o,?_,c,el,fz,k1,k2,fun i x hx=>?_⟩
   . show(match ns.getD m none with|some (m,o)=>_|none=>none)=_;rw[aL,h2];simp only[Option.getD_some,e1]
   . rw[<- h4,bH]at hx;rw[<- k3 (o+i) x hx];congr 1;omega
 . have e:(match ns.getD m none with|some (m,o)=>(match E.ι m with|some (b,s)=>some (b,s+o)|none=>none)|none=>none)=some (b',s):=e;split at e
   . rename_i m0 o hm;split at e
     . rename_i b s0 e0;simp only[an,aB]at e;obtain⟨rfl,_⟩:=e;exact g.mU m0 b s0 e0
     . cases e
   . cases e
 . have hm:ns.length<=m:=hm;show(match ns.getD m none with|some (m,o)=>(match E.ι m with|some (b,s)=>some (b,s+o)|none=>none)|none=>none)=none;rw[aL,bP hm];rfl
def ME:Code->Bool | .rangeFunc ..=>true|_=>false
def rG:Code->Operand | .rangeFunc g _ _ _=>g|_=>.const (.bool true)
def rPs:Code->List Nat | .rangeFunc _ ps _ _=>ps.toList|_=>[]
def rA:Code->Code | .rangeFunc _ _ a _=>a|c=>c
def rB:Code->Code | .rangeFunc _ _ _ b=>b|c=>c
def ad8(c:Code)(s:St):Tr O:=(s.h.set s.n (some .mA)).set (s.n+1) (some (.loop true none s.fr (rPs c) (rA c) (rB c)))
def tD(s:St)(h:Tr O)(n:Nat):St:={ s with h:=h.set (s.n+1) none,n:=n,gz:=(fN,[],[.map (some s.n)])::s.gz }
def XO(s:St)(h:Tr O):Bool:=match h.get s.n,h.get (s.n+1)with
 |some .mA,some (.loop true none _ _ _ _)=>true
 |_,_=>false
theorem cQ.of{P:Program}{cs:e9}{H:List (Nat×oZ)}{F n0:Nat}{fn:Func}{live:List Nat}{c:Code}{s:St}{G:List (List (Bool×Bool)×ah×o6)}(h1:y4 P cs H F c s=true)(h2:xH P cs H F c s=An P cs H F c s)(h3:GD P cs H F n0 fn live c s=G):
  ∃L,cQ P cs H F n0 fn live c s L G:=by
 refine⟨xH P cs H F c s,?_⟩;unfold cQ QL;unfold y4 at h1;unfold xH An at h2;unfold GD at h3;unfold xH;cases hl:jX P cs H F c s with
 |none=>rw[hl]at h1;cases h1
 |some l=>
  rw[hl]at h2 h3;have h2:qC l=vh l:=h2;have h3:vg (vk P n0 fn live) l=G:=h3;show some (qC l,vh l,vg (vk P n0 fn live) l)=some (qC l,qC l,G);rw[h3,<- h2]
end Go.Eng
