/- The engine, part Z: runs in which some values stand open: tests are split, bounds are left to be shown. No conditions: lemmas alone. -/
import Derived.Test.YtfihojpgobmmdaaGreatDoorJointW02
set_option linter.unusedVariables false
set_option linter.unusedSimpArgs false
set_option linter.unusedSectionVars false
namespace Go.Eng
open Go Go.RowKit
structure o9 where
 conds:List (Bool×Bool)
 same:List (V×V)
 TR:ah
def o9.nil:o9:=⟨[],[],[]⟩
def o9.app(a b:o9):o9:=⟨a.conds++b.conds,a.same++b.same,a.TR++b.TR⟩
def o9.ok(p:o9):Prop:=∀c∈p.conds,c.1=c.2
def o9.good(p:o9):Prop:=(∀c∈p.same,c.1=c.2)/\∀a∈p.TR,a
theorem o9.PR{a b:o9}:(a.app b).ok↔a.ok/\b.ok:=by
 simp only[o9.ok,o9.app,aU];exact⟨fun h=>⟨fun c hc=>h c (.inl hc),fun c hc=>h c (.inr hc)⟩,fun h c hc=>hc.elim (h.1 c) (h.2 c)⟩
theorem o9.PS{a b:o9}:(a.app b).good↔a.good/\b.good:=by
 simp only[o9.good,o9.app,aU];exact⟨fun h=>⟨⟨fun c hc=>h.1 c (.inl hc),fun c hc=>h.2 c (.inl hc)⟩,fun c hc=>h.1 c (.inr hc),fun c hc=>h.2 c (.inr hc)⟩,
  fun h=>⟨fun c hc=>hc.elim (h.1.1 c) (h.2.1 c),fun c hc=>hc.elim (h.1.2 c) (h.2.2 c)⟩⟩
abbrev M(α:Type):=Option (List (o9×α))
def M.ret{α:Type}(a:α):M α:=some [(.nil,a)]
def pre{α:Type}(p:o9):List (o9×α)->List (o9×α)
 | []=>[]
 |e::r=>(p.app e.1,e.2)::pre p r
def M.bind{α β:Type}:List (o9×α)->(α->M β)->M β
 | [],_=>some []
 |(p,a)::r,f=>match f a with
  |some l1=>match M.bind r f with
   |some l2=>some (pre p l1++l2)
   |none=>none
  |none=>none
def M.then{α β:Type}(m:M α)(f:α->M β):M β:=match m with
 |some l=>M.bind l f
 |none=>none
def fg{α:Type}(m:M α)(r:Option α):Prop:=∀l,m=some l->(∃e∈l,e.1.ok)/\∀e∈l,e.1.ok->e.1.good->r=some e.2
theorem F4{α:Type}{p:o9}:∀{l:List (o9×α)} {e:o9×α},e∈pre p l↔∃e'∈l,e=(p.app e'.1,e'.2)
 | [],e=>by simp[pre]
 |x::r,e=>by
  simp only[pre,aE,F4];exact⟨fun h=>h.elim (fun q=>⟨x,.inl rfl,q⟩) fun⟨e',h1,h2⟩=>⟨e',.inr h1,h2⟩,fun⟨e',h1,h2⟩=>h1.elim (fun q=>.inl (by rw[h2,q])) fun q=>.inr ⟨e',q,h2⟩⟩
theorem HU{α β:Type}{f:α->M β}:∀{l:List (o9×α)} {l2:List (o9×β)},M.bind l f=some l2->(∀e∈l2,∃d∈l,∃l1,f d.2=some l1/\∃e'∈l1,e=(d.1.app e'.1,e'.2))/\(∀d∈l,∃l1,f d.2=some l1/\∀e'∈l1,(d.1.app e'.1,e'.2)∈l2)
 | [],l2,h=>by
   simp only[M.bind,an]at h;subst h;exact⟨fun e he=>by simp at he,fun d hd=>by simp at hd⟩
 |(p,a)::r,l2,h=>by
  simp only[M.bind]at h;split at h
  . rename_i l1 h1;split at h
    . rename_i l3 h3;obtain rfl:=ek h;obtain⟨k1,k2⟩:=HU h3;refine⟨fun e he=>?_,fun d hd=>?_⟩
      . rcases aU.1 he with q|q
        . obtain⟨e',q1,q2⟩:=F4.1 q;exact⟨(p,a),by simp,l1,h1,e',q1,q2⟩
        . obtain⟨d,d1,d2⟩:=k1 e q;exact⟨d,by simp[d1],d2⟩
      . rcases aE.1 hd with rfl|hd
        . exact⟨l1,h1,fun e' Bc=>aU.2 (.inl (F4.2 ⟨e',Bc,rfl⟩))⟩
        . obtain⟨l1',q1,q2⟩:=k2 d hd;exact⟨l1',q1,fun e' Bc=>aU.2 (.inr (q2 e' Bc))⟩
    . cases h
  . cases h
theorem fg.ret{α:Type}(a:α):fg (M.ret a) (some a):=by
 intro l h;simp only[M.ret,an]at h;subst h;exact⟨⟨_,aq.2 rfl,fun c hc=>by simp[o9.nil]at hc⟩,fun e he _ _=>by simp only[aq]at he;subst he;rfl⟩
theorem fg.none{α:Type}(r:Option α):fg (none:M α) r:=fun l h=>by cases h
theorem fg.then{α β:Type}{m:M α}{f:α->M β}{r:Option α}{g:α->Option β}(h:fg m r)(hf:∀a,fg (f a) (g a)):fg (m.then f) (r.bind g):=by
 intro l2 e;unfold M.then at e;split at e
 . rename_i l;obtain⟨⟨d,hd,iA⟩,h2⟩:=h l rfl;obtain⟨k1,k2⟩:=HU e;refine⟨?_,fun e he aiF YH=>?_⟩
   . obtain⟨l1,q1,q2⟩:=k2 d hd;obtain⟨⟨e',Bc,TM⟩,_⟩:=hf d.2 l1 q1;exact⟨_,q2 e' Bc,o9.PR.2 ⟨iA,TM⟩⟩
   . obtain⟨d,hd,l1,q1,e',Bc,rfl⟩:=k1 e he;obtain⟨o1,o2⟩:=o9.PR.1 aiF;obtain⟨g1,g2⟩:=o9.PS.1 YH;rw[h2 d hd o1 g1];exact(hf d.2 l1 q1).2 e' Bc o2 g2
 . cases e
theorem fg.of_eq{α:Type}{m:M α}{r r':Option α}(h:fg m r)(e:r=r'):fg m r':=e▸h
def uX(P:Program)(t:TypeId):Option Nat:=match uh P t with
 |some e=>kK P e
 |none=>none
def pU(P:Program):List Field->ag->ag->Option Bool
 | [],_,_=>some true
 |f::fs,xs,ys=>match decide (f.name= "_")with
  |true=>none
  |false=>match P.underlying f.type,wC P f.type xs f.offset,wC P f.type ys f.offset with
   |some (.int _),some (.int k a),some (.int k' b)=>match decide (k=k')with
    |true=>match pU P fs xs ys with
     |some r=>some ((a==b)&&r)
     |none=>none
    |false=>none
   |_,_,_=>none
theorem yJ{P:Program}{d:Nat}:∀{fs:List Field} {xs ys:ag} {r:Bool},pU P fs xs ys=some r->eqFields P (fun u a b=>Lw P (d+1) u a b) fs xs ys=some r
 | [],_,_,r,e=>by simpa only[pU,eqFields]using e
 |f::fs,xs,ys,r,e=>by
  simp only[pU]at e;split at e
  . cases e
  . rename_i hn;have hn:=aK hn;split at e
    . rename_i k0 k a k' b h1 h2 h3;split at e
      . rename_i hk;have hk:=aH hk;subst hk;split at e
        . rename_i r' hr;obtain rfl:=ek e;have ih:=yJ (d:=d) hr;simp only[eqFields,aG hn,h2,h3];have:Lw P (d+1) f.type (.int k a) (.int k b)=some (a==b):=by simp only[Lw,h1,if_true]
          rw[this];cases hab:a==b with
          |true=>simp only[Bool.true_and];exact ih
          |false=>simp only[Bool.false_and]
        . cases e
      . cases e
    . cases e
def LN(P:Program)(t:TypeId)(xs ys:ag):Option Bool:=
 match P.eqGuardType P.depth t with
 |true=>none
 |false=>match P.underlying t with
  |some (.struct nI)=>match P.stoodInHeld t with
   |true=>none
   |false=>pU P nI.toList xs ys
  |_=>none
theorem TS{P:Program}{d:Nat}{t:TypeId}{nI:Array Field}{xs ys:ag}{r:Bool}(hu:P.underlying t=some (.struct nI))(hs:P.stoodInHeld t=false)(e:pU P nI.toList xs ys=some r):Lw P (d+1+1) t (.agg xs) (.agg ys)=some r:=by
 simp only[Lw,hu,hs,aO,cF];exact yJ (d:=d) e
theorem HV{P:Program}{t:TypeId}{x y:Operand}{xs ys:ag}{r:Bool}(e:LN P t xs ys=some r):Fx P t x y (.agg xs) (.agg ys)=some r:=by
 unfold LN at e;split at e
 . cases e
 . rename_i hg;split at e
   . rename_i nI hu;split at e
     . cases e
     . rename_i hs;simp only[Fx,hg,aO,cF];exact TS (d:=9998) hu hs e
   . cases e
def kL(P:Program)(o:Oper)(fr:Tr V)(h:Tr O)(n:Nat):Option (ah×R):=match dy P o fr h n with
 |some r=>some ([],r)
 |none=>none
def PT(h:Tr O):V->Bool
 | .di (some (m,_)) _ _ _=>match h.get m with
   |some (.ints _ _)=>true
   |some (.own _ _)=>true
   |some (.deep _)=>true
   |some (.iS _ _ _)=>true
   |_=>false
 | .dL _ _ _=>true
 | .str _=>true
 |_=>false
def F5(h:Tr O)(size:Nat)(x:V):Option (ah×Nat×Row):=
 match x with
 | .dL _ cN cs=>some ([cs.length=cN*size],cN,.ds cs)
 |x=>match PT h x with
 |true=>match x with
  | .di (some (m,o)) cN _ jo=>match Nat.beq jo size,(h.get m).bind O.MY with
    |true,some (.is k ks)=>some ([0<cN,o+cN*size<=ks.length],cN,.is k ((ks.drop o).take (cN*size)))
    |true,some (.ds cs)=>some ([0<cN,o+cN*size<=cs.length],cN,.ds ((cs.drop o).take (cN*size)))
    |_,_=>none
  | .str s=>match Nat.beq size 1 with
    |true=>some ([],s.length,.is .u8 (dP s))
    |false=>none
  |_=>none
 |false=>match jq h size x with
  |some (k,r)=>some ([],k,r)
  |none=>none
theorem tj{h:Tr O}{size k:Nat}{x:V}{A:ah}{r:Row}(e:F5 h size x=some (A,k,r))(hA:∀a∈A,a):jq h size x=some (k,r):=by
 unfold F5 at e;split at e
 . simp only[an,aB]at e;obtain⟨rfl,rfl,rfl⟩:=e;have h1:=hA _ (aq.2 rfl);simp only[jq,aG h1]
 split at e
 . split at e
   . rename_i m o cN cp jo _ _;split at e
     . rename_i k' ks hb hr;simp only[an,aB]at e;obtain⟨rfl,rfl,rfl⟩:=e;have h1:0<cN:=hA _ (by simp);have h2:o+cN*size<=ks.length:=hA _ (by simp);have hb:=aD hb;cases hm:h.get m with
       |none=>rw[hm]at hr;cases hr
       |some ob=>
        rw[hm]at hr;have hr:ob.MY=some (.is k' ks):=hr;cases cN with
        |zero=>omega
        |succ cN=>simp only[jq,hb,if_true,hm,hr,Row.cut,aG h2]
     . rename_i cs hb hr;simp only[an,aB]at e;obtain⟨rfl,rfl,rfl⟩:=e;have h1:0<cN:=hA _ (by simp);have h2:o+cN*size<=cs.length:=hA _ (by simp);have hb:=aD hb;cases hm:h.get m with
       |none=>rw[hm]at hr;cases hr
       |some ob=>
        rw[hm]at hr;have hr:ob.MY=some (.ds cs):=hr;cases cN with
        |zero=>omega
        |succ cN=>simp only[jq,hb,if_true,hm,hr,Row.cut,aG h2]
     . cases e
   . split at e
     . rename_i hb;simp only[an,aB]at e;obtain⟨rfl,rfl,rfl⟩:=e;simp only[jq,aG (aD hb)]
     . cases e
   . cases e
 . split at e
   . rename_i k' r' h1;simp only[an,aB]at e;obtain⟨rfl,rfl,rfl⟩:=e;exact h1
   . cases e
def zS(cN size o:Nat):Row->Option (ah×Row)
 | .is k ks=>some ([0<cN,o+cN*size<=ks.length],.is k ((ks.drop o).take (cN*size)))
 | .ds cs=>some ([o+cN*size<=cs.length],.ds ((cs.drop o).take (cN*size)))
 | .vs cs=>match cN with
   |0=>some ([],.vs [])
   |_=>match(Row.vs cs).cut o (cN*size)with
    |some r=>some ([],r)
    |none=>none
theorem Ny{cN size o:Nat}{r old:Row}{A:ah}(e:zS cN size o r=some (A,old))(hA:∀a∈A,a):(if r.soft=false/\cN=0 then some (.vs [])else r.cut o (cN*size):Option Row)=some old:=by
 cases r with
 |is k ks=>
  simp only[zS,an,aB]at e;obtain⟨rfl,rfl⟩:=e;have h1:0<cN:=hA _ (by simp);have h2:o+cN*size<=ks.length:=hA _ (by simp);rw[aI be];simp only[Row.cut,aG h2]
 |ds cs=>
  simp only[zS,an,aB]at e;obtain⟨rfl,rfl⟩:=e;have h2:o+cN*size<=cs.length:=hA _ (by simp);rw[aI (fun q=>by have:=q.1;cases this)];simp only[Row.cut,aG h2]
 |vs cs=>
  cases cN with
  |zero=>
   simp only[zS,an,aB]at e;obtain⟨rfl,rfl⟩:=e;rfl
  |succ cN=>
   simp only[zS]at e;split at e
   . rename_i r' h1;obtain⟨rfl,rfl⟩:=eY e;rw[aI be];exact h1
   . cases e
def F6(i:TypeInfo)(z:V):Bool:=decide (0<i.size)&&(decide (0<i.bytes)&&decide (z.cells.length=i.size))
def PU(h:Tr O)(m:Nat):Option (TypeId×Bool×aa):=match h.get m with
 |some (.iS e f s)=>some (e,f,s)
 |_=>none
def zT(P:Program)(eD:Array TypeId)(args:ag)(h:Tr O)(n:Nat):Option (ah×R):=
 match eD[0]?,eD[1]?,args with
 |some st,some xt,[s,x]=>match uh P st,P.underlying xt with
  |some e,some xd=>match Jv xd,P.info? e,zeroOf P e with
   |true,some i,some z=>match F6 i z,F5 h i.size x with
    |true,some (A,k,new)=>match new.flat with
     |true=>match s with
      | .di none 0 _ _=>match newObj h n (BM e x new)with
        |some (h',n')=>some (A++[0<k,eP k i.size i.bytes=true],.val (.di (some (n,0)) k k i.size) h' n')
        |none=>none
      | .dL true cN cs=>match newObj h n ((Row.ds cs).app new).Eh with
        |some (h',n')=>some (A++[0<k,eP (cN+k) i.size i.bytes=true,cs.length=cN*i.size],.val (.di (some (n,0)) (cN+k) (cN+k) i.size) h' n')
        |none=>none
      | .di (some (m,o)) cN cp jo=>match PU h m with
        |some (el,As,s0)=>match Nat.beq jo i.size&&(Nat.blt m fI&&(Nat.beq o 0&&(Nat.beq i.size 1&&decide (el=e)))),uw new with
         |true,some t=>match newObj (h.set m none) n (.iS el As (s0++t))with
          |some (h',n')=>some (A++[0<cp,cN=s0.length,eP (cN+k) i.size i.bytes=true],.val (.di (some (n,0)) (cN+k) (cN+k) jo) h' n')
          |none=>none
         |_,_=>none
        |none=>match Nat.beq jo i.size&&Nat.blt m fI,(h.get m).bind O.row with
        |true,some r=>match zS cN i.size o r with
         |some (B,old)=>match newObj (h.set m none) n (old.app new).Eh with
          |some (h',n')=>match new.soft with
           |true=>some (A++(B++[eP (cN+k) i.size i.bytes=true]),.val (.di (some (n,0)) (cN+k) (cN+k) jo) h' n')
           |false=>some (A++(B++[0<k,eP (cN+k) i.size i.bytes=true]),.val (.di (some (n,0)) (cN+k) (cN+k) jo) h' n')
          |none=>none
         |none=>none
        |_,_=>none
      |_=>none
     |false=>none
    |_,_=>none
   |_,_,_=>none
  |_,_=>none
 |_,_,_=>none
theorem F7{P:Program}{eD:Array TypeId}{args:ag}{h:Tr O}{n:Nat}{A:ah}{r:R}(e:zT P eD args h n=some (A,r))(hA:∀a∈A,a):x7 P eD args h n=some r:=by
 unfold zT at e;split at e
 . rename_i st xt s x h1 h2;split at e
   . rename_i el xd h3 h4;split at e
     . rename_i i z h5 h6 h7;split at e
       . rename_i A1 k new h8 h9;simp only[F6,aC,bB]at h8;split at e
         . rename_i S9;unfold x7;simp only[h1,h2,h3,h4,h5,h6,h7];rw[aG h8];split at e
           . cases ho:newObj h n (BM el x new)with
             |none=>rw[ho]at e;cases e
             |some p=>
              rw[ho]at e;obtain⟨rfl,rfl⟩:=eY e;have ht:=tj h9 fun a ha=>hA a (by simp[ha]);have hk:0<k:=hA _ (by simp);have hr:eP k i.size i.bytes=true:=hA _ (by simp);rw[ht];simp only[S9,if_true];cases k with
              |zero=>omega
              |succ k=>simp only[aG hr,ho]
           . rename_i cN cs;cases ho:newObj h n ((Row.ds cs).app new).Eh with
             |none=>rw[ho]at e;cases e
             |some p=>
              rw[ho]at e;obtain⟨rfl,rfl⟩:=eY e;have ht:=tj h9 fun a ha=>hA a (by simp[ha]);have hk:0<k:=hA _ (by simp);have hr:eP (cN+k) i.size i.bytes=true:=hA _ (by simp);have hc:cs.length=cN*i.size:=hA _ (by simp);rw[ht];simp only[S9,if_true];cases k with
              |zero=>omega
              |succ k=>simp only[aG (And.intro hr hc),ho]
           . rename_i m o cN cp jo;split at e
             . rename_i YI As s0 FH;have hm:h.get m=some (.iS YI As s0):=by
                unfold PU at FH;split at FH
                . rename_i hq;cases FH;exact hq
                . cases FH
               split at e
               case h_2=>cases e
               rename_i t hb ht;simp only[aC]at hb;cases ho:newObj (h.set m none) n (.iS YI As (s0++t))with
               |none=>rw[ho]at e;cases e
               |some p=>
                rw[ho]at e;obtain⟨rfl,rfl⟩:=eY e;have htl:=tj h9 fun a ha=>hA a (by simp[ha]);have q1:0<cp:=hA _ (by simp);have q2:cN=s0.length:=hA _ (by simp);have q3:eP (cN+k) i.size i.bytes=true:=hA _ (by simp);rw[htl];simp only[S9,if_true];rw[aG ⟨aD hb.1,q3,au hb.2.1⟩];simp only[hm,ht];rw[aG ⟨⟨aD hb.2.2.1,q1⟩,⟨Nat.le_of_eq q2,fun _=>q2⟩,aD hb.2.2.2.1,aH hb.2.2.2.2⟩];simp only[q2,aT];rw[<- q2];simp only[ho]
             rename_i hnb;split at e
             . rename_i r0 hb w9;split at e
               . rename_i B old oy;cases ho:newObj (h.set m none) n (old.app new).Eh with
                 |none=>rw[ho]at e;cases e
                 |some p=>
                  rw[ho]at e;simp only at e;have WU:(∀a∈A1,a)->(∀a∈B,a)->(new.soft=false->0<k)->eP (cN+k) i.size i.bytes=true->R.val (.di (some (n,0)) (cN+k) (cN+k) jo) p.1 p.2=r->
                   (match jq h i.size x with
                    |some (k,new)=>
                     if new.flat=true then
                      if jo=i.size/\eP (cN+k) i.size i.bytes=true/\m<fI then
                       match h.get m with
                       |some (.iS YI As s0)=>match uw new with
                        |some t=>if(o=0/\0<cp)/\(cN<=s0.length/\(As=true->cN=s0.length))/\(i.size=1/\YI=el)then(match newObj (h.set m none) n (.iS YI As (s0.take cN++t))with
                         |some (h',n')=>some (.val (.di (some (n,0)) (cN+k) (cN+k) jo) h' n')
                         |none=>none)else none
                        |none=>none
                       |some ob=>match ob.row with
                        |some r=>
                         match(if r.soft=false/\cN=0 then some (.vs [])else r.cut o (cN*i.size):Option Row)with
                         |some old=>
                          if new.soft=false/\k=0 then some (.val (.di (some (m,o)) cN cp jo) h n)
                          else match newObj (h.set m none) n (old.app new).Eh with
                           |some (h',n')=>some (.val (.di (some (n,0)) (cN+k) (cN+k) jo) h' n')
                           |none=>none
                         |none=>none
                        |none=>none
                       |_=>none
                      else none
                     else none
                    |none=>none:Option R)=some r:=by
                   intro hA1 hB hk hr HW;subst HW;have ht:=tj h9 hA1;have ac0:=Ny oy hB;simp only[aC]at hb;have yn:=aD hb.1;have Hq:m<fI:=au hb.2;cases hm:h.get m with
                   |none=>rw[hm]at w9;cases w9
                   |some ob=>
                    rw[hm]at w9;have w9:ob.row=some r0:=w9;rw[ht];simp only[S9,if_true];rw[aG ⟨yn,hr,Hq⟩];have ac1:∀e f s,ob≠ .iS e f s:=fun e f s q=>by subst q;unfold PU at hnb;rw[hm]at hnb;cases hnb
                    cases ob<;>first|exact absurd rfl (ac1 _ _ _)|skip
                    all_goals
                    simp only[w9,ac0];rw[aI (fun q=>by have:=hk q.1;omega)];simp only[ho]
                  split at e
                  . simp only[an,aB]at e;obtain⟨rfl,HW⟩:=e;rename_i WV;exact WU (fun a ha=>hA a (by simp[ha])) (fun a ha=>hA a (by simp[ha])) (fun q=>by rw[q]at WV;cases WV) (hA _ (by simp)) HW
                  . simp only[an,aB]at e;obtain⟨rfl,HW⟩:=e;exact WU (fun a ha=>hA a (by simp[ha])) (fun a ha=>hA a (by simp[ha])) (fun _=>hA _ (by simp)) (hA _ (by simp)) HW
               . cases e
             . cases e
           . cases e
         . cases e
       . cases e
     . cases e
   . cases e
 . cases e
def Cz(P:Program)(t:TypeId)(h:Tr O)(v:V)(m o:Nat)(k:IntKind)(ks:List Int):Option (ah×Tr O):=
 match kK P t,oO k v.cells with
 |some s,some new=>match Nat.beq v.cells.length s&&(Nat.blt 0 s&&Nat.blt m fI)with
  |true=>some ([o+s<=ks.length],h.set m (some (.own k (fM ks o new))))
  |false=>none
 |_,_=>none
theorem HX{P:Program}{t:TypeId}{h h':Tr O}{v:V}{m o:Nat}{k:IntKind}{ks:List Int}{A:ah}(hm:h.get m=some (.own k ks))(e:Cz P t h v m o k ks=some (A,h'))(hA:∀a∈A,a):storeAt P t h v (.ptr (some (m,o)))=some h':=by
 unfold Cz at e;split at e
 . rename_i s new h1 h2;split at e
   . rename_i hb;obtain⟨rfl,rfl⟩:=eY e;simp only[aC]at hb;have h3:=aD hb.1;have h4:0<s:=au hb.2.1;have h5:m<fI:=au hb.2.2;have h6:o+s<=ks.length:=hA _ (by simp);simp only[storeAt,hm,h1,h2];rw[aG ⟨h3,h4,h5⟩,aG h6]
   . cases e
 . cases e
def F8(k:IntKind)(ks:List Int)(off sz:Nat):V:=.agg ((List.range sz).map fun j=>V.int k (ks.getD (off+j) 0))
theorem J5{P:Program}{t:TypeId}{k:IntKind}{ks:List Int}{off sz:Nat}(ha:MX P t=some true)(hs:kK P t=some sz)(hl:off+sz<=ks.length):kX P t (ks.map (.int k)) off=some (F8 k ks off sz):=by
 simp only[kX,ha,hs,cut,aY,aG hl,bh,F8,an,V.agg.injEq];apply List.ext_getElem
 . simp;omega
 . intro i h1 h2;simp at h1 h2;have:off+i<ks.length:=by omega
   simp[List.getD,this]
def Br(P:Program)(t:TypeId)(k:IntKind)(ks:List Int)(off:Nat):Option (Prop×V):=match MX P t with
 |some false=>some (off<ks.length,.int k (ks.getD off 0))
 |some true=>match kK P t with
  |some sz=>some (off+sz<=ks.length,F8 k ks off sz)
  |none=>none
 |none=>none
theorem CA{P:Program}{t:TypeId}{k:IntKind}{ks:List Int}{off:Nat}{p:Prop}{v:V}(e:Br P t k ks off=some (p,v))(hp:p):kX P t (ks.map (.int k)) off=some v:=by
 unfold Br at e;split at e
 . rename_i YJ;obtain⟨rfl,rfl⟩:=eY e;simp only[kX,YJ,br,ay hp,bh,aM,Option.getD_some]
 . rename_i YJ;split at e
   . rename_i sz hs;obtain⟨rfl,rfl⟩:=eY e;exact J5 YJ hs hp
   . cases e
 . cases e
def zU(P:Program)(t:TypeId):Bool:=match P.underlying t with
 |some .string=>true
 |_=>false
theorem vT{P:Program}{t:TypeId}(h:zU P t=true):P.underlying t=some .string:=by
 unfold zU at h;split at h
 . assumption
 . cases h
def AL(P:Program)(o:Oper)(fr:Tr V)(h:Tr O)(n:Nat):Option (ah×R):=
 match o.op with
 | .indexAddr t x i=>match iG fr x,iG fr i with
   |some (.di (some (m,off)) cN _ jo),some (.int _ ix)=>match uX P t with
    |some s=>match Nat.beq s jo with
     |true=>some ([0<=ix/\ix<cN],.val (.ptr (some (m,off+ix.toNat*s))) h n)
     |false=>none
    |none=>none
   |_,_=>kL P o fr h n
 | .load t a=>match iG fr a with
   |some (.ptr (some (m,off)))=>match h.get m with
    |some (.ints k ks)=>match Br P t k ks off with
     |some (p,v)=>some ([p],.val v h n)
     |none=>none
    |some (.own k ks)=>match Br P t k ks off with
     |some (p,v)=>some ([p],.val v h n)
     |none=>none
    |_=>kL P o fr h n
   |_=>kL P o fr h n
 | .store t a x=>match iG fr a,iG fr x with
   |some (.ptr (some (m,off))),some v=>match h.get m with
    |some (.own k ks)=>match Cz P t h v m off k ks with
     |some (A,h')=>some (A,.val (.eo []) h' n)
     |none=>none
    |_=>kL P o fr h n
   |_,_=>kL P o fr h n
 | .call c=>match c.callee with
   | .builtin .append=>match ux fr c.args.toList with
     |some [s,x]=>match PT h s||PT h x with
      |true=>match Nat.beq c.argTypes.size 2 with
       |true=>zT P c.argTypes [s,x] h n
       |false=>none
      |false=>kL P o fr h n
     |_=>kL P o fr h n
   |_=>kL P o fr h n
 | .slice t x (some lo) (some hi) none=>match iG fr x,iG fr lo,iG fr hi with
   |some (.di a cN cO jo),some (.int _ lx),some (.int _ hx)=>match uX P t with
    |some s=>match Nat.beq s jo||a.isNone with
     |true=>some ([0<=hx/\hx<=cO,0<=lx/\lx<=hx.toNat],.val (.di (match a with|none=>none|some (b,o)=>some (b,o+lx.toNat*jo)) (hx.toNat-lx.toNat) (cO-lx.toNat) jo) h n)
     |false=>none
    |none=>none
   |some (.str s),some (.int _ lx),some (.int _ hx)=>match zU P t with
    |true=>some ([0<=hx/\hx<=s.length,0<=lx/\lx<=hx.toNat],.val (.str ((s.take hx.toNat).drop lx.toNat)) h n)
    |false=>none
   |_,_,_=>kL P o fr h n
 | .slice t x none (some hi) none=>match iG fr x,iG fr hi with
   |some (.di a cN cO jo),some (.int _ hx)=>match uX P t with
    |some s=>match Nat.beq s jo||a.isNone with
     |true=>some ([0<=hx/\hx<=cO],.val (.di (match a with|none=>none|some (b,o)=>some (b,o+0*jo)) (hx.toNat-0) (cO-0) jo) h n)
     |false=>none
    |none=>none
   |some (.str s),some (.int _ hx)=>match zU P t with
    |true=>some ([0<=hx/\hx<=s.length],.val (.str ((s.take hx.toNat).drop 0)) h n)
    |false=>none
   |_,_=>kL P o fr h n
 | .slice t x (some lo) none none=>match iG fr x,iG fr lo with
   |some (.di a cN cO jo),some (.int _ lx)=>match uX P t with
    |some s=>match Nat.beq s jo||a.isNone with
     |true=>some ([0<=lx/\lx<=cN],.val (.di (match a with|none=>none|some (b,o)=>some (b,o+lx.toNat*jo)) (cN-lx.toNat) (cO-lx.toNat) jo) h n)
     |false=>none
    |none=>none
   |some (.str s),some (.int _ lx)=>match zU P t with
    |true=>some ([0<=lx/\lx<=s.length],.val (.str ((s.take s.length).drop lx.toNat)) h n)
    |false=>none
   |_,_=>kL P o fr h n
 | .binOp .eql t x y _=>match iG fr x,iG fr y with
   |some (.agg xs),some (.agg ys)=>match LN P t xs ys with
    |some r=>some ([],.val (.bool r) h n)
    |none=>none
   |_,_=>kL P o fr h n
 | .binOp .neq t x y _=>match iG fr x,iG fr y with
   |some (.agg xs),some (.agg ys)=>match LN P t xs ys with
    |some r=>some ([],.val (.bool (!r)) h n)
    |none=>none
   |_,_=>kL P o fr h n
 | .binOp .quo t x y _=>match iG fr x,iG fr y with
   |some (.int k a),some (.int k' b)=>match decide (k=k')with
    |true=>some ([b≠0],.val (.int k (k.wrap (a.tdiv b))) h n)
    |false=>none
   |_,_=>kL P o fr h n
 | .index t x i=>match iG fr x,iG fr i with
   |some (.str s),some (.int _ ix)=>match zU P t with
    |true=>some ([0<=ix/\ix.toNat<s.length],.val (.int .u8 (s.getD ix.toNat 0).toNat) h n)
    |false=>none
   |_,_=>kL P o fr h n
 |_=>kL P o fr h n
theorem gP{P:Program}{o:Oper}{fr:Tr V}{h:Tr O}{n:Nat}{l:ah}{r:R}(e:kL P o fr h n=some (l,r)):dy P o fr h n=some r:=by
 unfold kL at e;split at e
 . rename_i r' hr;simp only[an,aB]at e;obtain⟨_,rfl⟩:=e;exact hr
 . cases e
theorem pV{P:Program}{t:TypeId}{s:Nat}(e:uX P t=some s):∃el,P.underlying t=some (.slice el)/\kK P el=some s:=by
 unfold uX uh at e;cases hu:P.underlying t with
 |none=>simp[hu]at e
 |some d=>cases d<;>simp[hu]at e
          exact⟨_,rfl,e⟩
theorem rU{P:Program}{o:Oper}{fr:Tr V}{h:Tr O}{n:Nat}{l:ah}{r:R}(e:AL P o fr h n=some (l,r))(hl:∀p∈l,p):dy P o fr h n=some r:=by
 unfold AL at e;split at e
 . rename_i t x i ho;split at e
   . rename_i m off cN cp jo k ix hx hi;split at e
     . rename_i s hs;split at e
       . rename_i hb;obtain⟨rfl,rfl⟩:=eY e;have hb:=aD hb;subst hb;obtain⟨el,h1,h2⟩:=pV hs;have hc:=hl _ (aq.2 rfl);simp only[dy,ho,hx,hi,nL,h1,h2,mM];rw[aG (by exact⟨hc.1,hc.2,trivial⟩)]
       . cases e
     . cases e
   . exact gP e
 . rename_i t a ho;split at e
   . rename_i m off ha;split at e
     . rename_i k ks hm;split at e
       . rename_i p v hs;obtain⟨rfl,rfl⟩:=eY e;have hp:p:=hl _ (aq.2 rfl);simp only[dy,ho,ha,loadAt,hm,CA hs hp,mM]
       . cases e
     . rename_i k ks hm;split at e
       . rename_i p v hs;obtain⟨rfl,rfl⟩:=eY e;have hp:p:=hl _ (aq.2 rfl);simp only[dy,ho,ha,loadAt,hm,CA hs hp,mM]
       . cases e
     . exact gP e
   . exact gP e
 . rename_i t a x ho;split at e
   . rename_i m off v ha hx;split at e
     . rename_i k ks hm;split at e
       . rename_i A h' hs;obtain⟨rfl,rfl⟩:=eY e;simp only[dy,ho,ha,hx,HX hm hs hl]
       . cases e
     . exact gP e
   . exact gP e
 . rename_i c ho;split at e
   . rename_i hc;split at e
     . rename_i s x nD;split at e
       . split at e
         . rename_i hb;have hb:=aD hb;simp only[dy,ho,wD,nD,hc,kY,hb,if_true];exact F7 e hl
         . cases e
       . exact gP e
     . exact gP e
   . exact gP e
 . rename_i t x lo hi ho;split at e
   . rename_i a cN cp jo k lx k2 hx sG yp LH;split at e
     . rename_i s hs;split at e
       . rename_i hb;obtain⟨rfl,rfl⟩:=eY e;obtain⟨el,h1,h2⟩:=pV hs;have hc:=hl _ (aP ..);have HY:=hl _ (aJ _ (aq.2 rfl));have FV:s=jo\/a=none:=by
          simp only[bS,Option.isNone_iff_eq_none]at hb;exact hb.imp aD _root_.id
         simp only[dy,ho,sG,yp,LH,my,mq,h1,h2,mM,Option.isSome_none,aO,false_and,cF];rw[aG FV];simp only[eJ,aG hc,aG HY];cases a<;>rfl
       . cases e
     . cases e
   . rename_i s k lx k2 hx sG yp LH;split at e
     . rename_i hs;obtain⟨rfl,rfl⟩:=eY e;have hc:=hl _ (aP ..);have HY:=hl _ (aJ _ (aq.2 rfl));simp only[dy,ho,sG,yp,LH,my,mq,vT hs,mM,Option.isSome_none,aO,false_and,cF,eJ,aG hc,aG HY]
     . cases e
   . exact gP e
 . rename_i t x hi ho;split at e
   . rename_i a cN cp jo k hx sG LH;split at e
     . rename_i s hs;split at e
       . rename_i hb;obtain⟨rfl,rfl⟩:=eY e;obtain⟨el,h1,h2⟩:=pV hs;have hc:=hl _ (aq.2 rfl);have FV:s=jo\/a=none:=by
          simp only[bS,Option.isNone_iff_eq_none]at hb;exact hb.imp aD _root_.id
         simp only[dy,ho,sG,LH,my,mq,h1,h2,mM,Option.isSome_none,aO,false_and,cF];rw[aG FV];simp only[eJ,aG hc];cases a<;>rfl
       . cases e
     . cases e
   . rename_i s k hx sG LH;split at e
     . rename_i hs;obtain⟨rfl,rfl⟩:=eY e;have hc:=hl _ (aq.2 rfl);simp only[dy,ho,sG,LH,my,mq,vT hs,mM,Option.isSome_none,aO,false_and,cF,eJ,aG hc]
     . cases e
   . exact gP e
 . rename_i t x lo ho;split at e
   . rename_i a cN cp jo k lx sG LH;split at e
     . rename_i s hs;split at e
       . rename_i hb;obtain⟨rfl,rfl⟩:=eY e;obtain⟨el,h1,h2⟩:=pV hs;have hc:=hl _ (aq.2 rfl);have FV:s=jo\/a=none:=by
          simp only[bS,Option.isNone_iff_eq_none]at hb;exact hb.imp aD _root_.id
         simp only[dy,ho,sG,LH,my,mq,h1,h2,mM,Option.isSome_none,aO,false_and,cF];rw[aG FV];simp only[eJ,aG hc];cases a<;>rfl
       . cases e
     . cases e
   . rename_i s k lx sG LH;split at e
     . rename_i hs;obtain⟨rfl,rfl⟩:=eY e;have hc:=hl _ (aq.2 rfl);simp only[dy,ho,sG,LH,my,mq,vT hs,mM,Option.isSome_none,aO,false_and,cF,eJ,aG hc]
     . cases e
   . exact gP e
 . rename_i t x y yt ho;split at e
   . rename_i xs ys hx hy;split at e
     . rename_i r hr;obtain⟨rfl,rfl⟩:=eY e;simp only[dy,ho,hx,hy,BJ,HV hr,bh,mM]
     . cases e
   . exact gP e
 . rename_i t x y yt ho;split at e
   . rename_i xs ys hx hy;split at e
     . rename_i r hr;obtain⟨rfl,rfl⟩:=eY e;simp only[dy,ho,hx,hy,BJ,HV hr,bh,mM]
     . cases e
   . exact gP e
 . rename_i t x y yt ho;split at e
   . rename_i k a k' b hx hy;split at e
     . rename_i hk;have hk:=aH hk;subst hk;obtain⟨rfl,rfl⟩:=eY e;have hb:b≠0:=hl _ (aq.2 rfl);have:BJ P .quo t x y (.int k a) (.int k b)=some (.int k (k.wrap (a.tdiv b))):=by
        simp[BJ,binOp,Op.intDiv,hb,sI,iz];rfl
       simp only[dy,ho,hx,hy,this,mM]
     . cases e
   . exact gP e
 . rename_i t x i ho;split at e
   . rename_i s k ix hx hi;split at e
     . rename_i hs;obtain⟨rfl,rfl⟩:=eY e;have hc:0<=ix/\ix.toNat<s.length:=hl _ (aq.2 rfl);have hg:s[ix.toNat]? =some s[ix.toNat]:=ay hc.2;have hd:s.getD ix.toNat 0=s[ix.toNat]:=by rw[aM,hg];rfl
       simp only[dy,ho,hx,hi,Fy,vT hs,aG hc.1,hg,hd,mM]
     . cases e
   . exact gP e
 . exact gP e
inductive oT where
 |split
 |c9 (v:V)
def WW:List (Nat×oT)->Nat->Option oT
 | [],_=>none
 |x::r,d=>match Nat.beq x.1 d with
  |true=>some x.2
  |false=>WW r d
section
variable(H:List (Nat×oT))(dst:Option Nat)
def J6(v:V):M V:=
 match dst with
 |none=>.ret v
 |some d=>match WW H d with
  |none=>.ret v
  |some (.c9 u)=>some [(⟨[],[],[v=u]⟩,u)]
  |some .split=>match v with
   | .bool c=>some [(⟨[(c,true)],[],[]⟩,.bool true),(⟨[(c,false)],[],[]⟩,.bool false)]
   |v=>.ret v
theorem qv(v:V):fg (J6 H dst v) (some v):=by
 unfold J6;split
 . exact .ret v
 . split
   . exact .ret v
   . rename_i u hu;intro l h;obtain rfl:=ek h;refine⟨⟨_,aq.2 rfl,fun c hc=>by simp at hc⟩,fun e he _ hg=>?_⟩;simp only[aq]at he;subst he;have:v=u:=hg.2 _ (aq.2 rfl);rw[this]
   . split
     . rename_i c;intro l h;obtain rfl:=ek h;refine⟨?_,fun e he ho _=>?_⟩
       . cases hc:c with
         |true=>exact⟨(⟨[(true,true)],[],[]⟩,.bool true),by simp,fun x hx=>by simp only[aq]at hx;subst hx;rfl⟩
         |false=>exact⟨(⟨[(false,false)],[],[]⟩,.bool false),by simp,fun x hx=>by simp only[aq]at hx;subst hx;rfl⟩
       . simp only[aE,aL,bt]at he;rcases he with rfl|rfl
         . have:c=true:=ho (c,true) (aq.2 rfl);rw[this]
         . have:c=false:=ho (c,false) (aq.2 rfl);rw[this]
     . exact .ret _
end
abbrev Ctr:=FuncId->ag->Tr O->Option (ah×V)
def pK:Option (O1×Tr O×Nat)->Option (V×Tr O×Nat)
 |some (.ret v,h,n)=>some (v,h,n)
 |_=>none
theorem qw{α:Type}{m:M α}{r r':Option α}(h:fg m r)(e:∀a,r=some a->r'=some a):fg m r':=by
 intro l hl;obtain⟨h1,h2⟩:=h l hl;exact⟨h1,fun x hx ho hg=>e _ (h2 x hx ho hg)⟩
section
variable(P:Program)(S:Ctr)(cf:fJ)(H:List (Nat×oT))
theorem tn{α β:Type}(a:α)(g:α->Option β):(some a).bind g=g a:=rfl
def Nz{α β:Type}:Option (α ⊕ β)->Option α
 |some (.inl a)=>some a
 |_=>none
def Bs(f:St->M (X×St)):Nat->St->M (X×St)
 |0,_=>none
 |k+1,s=>(f s).then fun p=>match p.1 with
  | .normal=>Bs f k p.2
  |_=>.ret p
theorem wK{f:St->M (X×St)}{g:St->Option (X×St)}(h:∀s,fg (f s) (g s)):∀(k:Nat) (s:St),fg (Bs f k s) (rounds g k s)
 |0,s=>.none _
 |k+1,s=>by
  simp only[Bs,rounds];refine(fg.then (h s) (g:=fun p=>match p.1 with | .normal=>rounds g k p.2|_=>some p) (fun p=>?_)).of_eq ?_
  . obtain⟨x,s'⟩:=p;cases x with
    |normal=>exact wK h k s'
    |_=>exact .ret _
  . cases g s with
    |none=>rfl
    |some p=>obtain⟨x,s'⟩:=p;cases x<;>rfl
end
section
variable{P:Program}{S:Ctr}{cf:fJ}{H:List (Nat×oT)}{F N:Nat}{w0:World}{c:Code}{s:St}{Q:Exit->St->Prop}
def uY{α:Type}(f:X×St->α):List (o9×X×St)->List (List (Bool×Bool)×ah×α)
 | []=>[]
 |(p,x)::r=>(p.conds,p.TR,f x)::uY f r
def qx{α:Type}:List (o9×α)->ag
 | []=>[]
 |(p,_)::r=>p.same.map (·.1)++qx r
def uZ{α:Type}:List (o9×α)->ag
 | []=>[]
 |(p,_)::r=>p.same.map (·.2)++uZ r
def yK{α:Type}:M α->List (o9×α)
 |some l=>l
 |none=>[]
theorem HZ:∀{l:List (V×V)},l.map (·.1)=l.map (·.2)->∀c∈l,c.1=c.2
 | [],_,c,hc=>by simp at hc
 |x::r,h,c,hc=>by
  simp only[bV,List.cons.injEq]at h;rcases aE.1 hc with rfl|hc
  . exact h.1
  . exact HZ h.2 c hc
theorem yL{α:Type}:∀(l:List (o9×α)),qx l=uZ l->∀p∈l,∀c∈p.1.same,c.1=c.2
 | [],_,p,hp=>by simp at hp
 |(q,x)::r,h,p,hp=>by
  simp only[qx,uZ]at h;have hl:(q.same.map (·.1)).length=(q.same.map (·.2)).length:=by simp
  obtain⟨h1,h2⟩:=List.append_inj h hl;rcases aE.1 hp with rfl|hp
  . exact HZ h1
  . exact yL r h2 p hp
theorem rV{α:Type}{f:X×St->α}:∀{l:List (o9×X×St)} {p:o9×X×St},p∈l->(p.1.conds,p.1.TR,f p.2)∈uY f l
 | [],p,hp=>by simp at hp
 |(q,x)::r,p,hp=>by
  rcases aE.1 hp with rfl|hp
  . simp[uY]
  . simp only[uY,aE];exact .inr (rV hp)
end
theorem H6{E:Env}{h:Tr O}{n:Nat}{w:World}{v:V}(g:Good E h w)(hd:qH E n)(hv:v.free=true){e:Ending}{w':World}(ho:∃E',s8 E' (.ret v) e)(b:Below w.heap.size w w'):jR E h n w (.ret v) h n e w':=by
 refine⟨E,.below g b,fun _ _=>rfl,hd,aA _,?_⟩
 . obtain⟨E1,ho⟩:=ho;cases e with
   |returned v'=>exact Cq _ _ hv ho
   |_=>exact ho.elim
def PV(P:Program)(f:FuncId)(spec:ag->Tr O->Option (ah×V)):Prop:=f<P.funcs.size/\∀args h A v,spec args h=some (A,v)->v.free=true/\((∀a∈A,a)->
 ∀E n w c7,dG E args c7->Good E h w->qH E n->callee P f=true->Calls P f c7.toArray w fun e w'=>(∃E',s8 E' (.ret v) e)/\Below w.heap.size w w')
def cR(args:ag)(h:Tr O)(n:Nat):St:={ fr:=lH args 0 .nil,h:=h,n:=n,gu:=[] }
section
variable{P:Program}{S:Ctr}{cf:fJ}{H:List (Nat×oT)}{F:Nat}{f:FuncId}{fn:Func}{code:Code}
end
def Env.two(E:Env)(a b:Option Nat):Env:=⟨fun j=>match j with|0=>a.bind E.ι|1=>b.bind E.ι|_=>none,E.β,E.φ⟩
section
variable{P:Program}{S:Ctr}{cf:fJ}{H:List (Nat×oT)}{F N:Nat}{w0:World}{c:Code}{s:St}{Q:Exit->St->Prop}
def aiH(P:Program)(cf:fJ)(F:Nat)(fn:Func)(v:V)(y:Exit)(s':St):Prop:=(y= .normal\/y= .ret)/\∃h' n',nB P cf F fn s'.fr s'.gu .ret s'.h s'.n=some (.ret v,h',n')
inductive Res where
 |next (s:St)
 |exit (id:Nat) (s:St)
 |ret (v:V)
 |bad
def Res.post(P:Program)(cf:fJ)(F:Nat)(fn:Func)(live:List Nat)(I:Nat->St->Prop)(k:Nat)(Q:Exit->St->Prop):Res->Prop
 | .next s=>∃k',k'<k/\I k' s
 | .exit id s=>∀s',norm live s'=some s->Q (.exit id) s'
 | .ret v=>∀s',aiH P cf F fn v .ret s'->Q .ret s'
 | .bad=>False
end
def wL:Code->Array Oper | .region _ ops _=>ops|_=>#[]
section
variable{P:Program}{S:Ctr}{cf:fJ}{F N:Nat}{w0:World}{c:Code}{s:St}{Q:Exit->St->Prop}
theorem NA{F:Fence}{n:Nat}{o:Oper}{a:Act}{w:World}{K K':Act->World->Prop}{Q Q':Exit->Act->World->Prop}(hk:∀a w,K a w->K' a w)(hq:∀y a w,y≠ .normal->Q y a w->Q' y a w)(h:o.wpIn F n P a w K Q):o.wpIn F n P a w K' Q':=by
 have ac2:LetsOut Q->LetsOut Q':=fun⟨a,w,q⟩=>⟨a,w,hq _ a w (by simp) q⟩;unfold Oper.wpIn at *;refine⟨h.1,?_⟩;have hh:=h.2;generalize (o.semAt F.round a.eval).run P w=r at *;cases r with
 |ok x w'=>
  cases x<;>simp only[Oper.uponIn]at hh⊢ <;>
   first
    |exact hk _ _ hh
    |exact⟨hh.1,CallsIn.mono hh.2 (fun e w'' he=>by cases e<;>first|exact hk _ _ he|exact hq _ _ _ (by simp) he|exact ac2 he)⟩
    |exact⟨hh.1,RowsIn.mono hh.2 (fun _ _ he=>hk _ _ he)⟩
    |exact⟨hh.1,RoundIn.mono hh.2 (fun e w'' he=>by cases e<;>first|exact hk _ _ he|exact hq _ _ _ (by simp) he|exact ac2 he)⟩
    |exact hh
 |halt x w'=>cases x<;>simp only[Oper.uponIn]at hh⊢<;>first|exact hq _ _ _ (by simp) hh|exact hh
end
theorem DZ.fresh{w0 w:World}{E:Env}{h:Tr O}{q:Nat}{o:O}(u:DZ w0 E h w)(hq:h.get q=some o)(hw:o.wr=true):∀b s,E.ι q=some (b,s)->w0.heap.size<=b:=by
 intro b s e;by_cases q':b<w0.heap.size
 . exact(u.sO q b s ⟨_,hq,hw⟩ e q').elim
 . omega
abbrev eX:=FuncId->ag->Tr O->Nat->M (V×Tr O×Nat)
def oU(cs:eX)(cf:fJ):Prop:=∀f args h n,fg (cs f args h n) (pK (cf f args h n))
def nY(P:Program)(o:Oper)(fr:Tr V)(h:Tr O)(n:Nat):Option (ah×R):=
 match o.op with
 | .binOp .add t x y _=>match iG fr x,iG fr y with
   |some (.str a),some (.str b)=>some ([a.length+b.length<=wV],.val (.str (a++b)) h n)
   |_,_=>AL P o fr h n
 | .binOp .rem t x (.tmp y) _=>match iG fr x,fr.get y with
   |some (.int k a),some (.int k' b)=>match decide (k=k')with
    |true=>some ([b≠0],.val (.int k (a.tmod b)) h n)
    |false=>none
   |_,_=>AL P o fr h n
 | .indexAddr t x (.tmp i)=>match iG fr x,fr.get i with
   |some (.ptr (some (m,off))),some (.int _ ix)=>match P.underlying t with
    |some (.array cN e)=>match kK P e with
     |some s=>some ([0<=ix/\ix<cN],.val (.ptr (some (m,off+ix.toNat*s))) h n)
     |none=>none
    |_=>AL P o fr h n
   |_,_=>AL P o fr h n
 | .makeSlice t (.tmp l) (.tmp c)=>match uh P t,fr.get l,fr.get c with
   |some e,some (.int _ lv),some (.int _ cv)=>match P.info? e,zeroOf P e with
    |some i,some z=>match F6 i z,newObj h n (vB z.cells (IntKind.i64.wrap cv).toNat).Eh with
     |true,some (h',n')=>some ([0<=IntKind.i64.wrap lv/\IntKind.i64.wrap lv<=IntKind.i64.wrap cv/\i.bytes*IntKind.i64.wrap cv<=281474976710656],.val (.di (some (n,0)) (IntKind.i64.wrap lv).toNat (IntKind.i64.wrap cv).toNat i.size) h' n')
     |_,_=>none
    |_,_=>none
   |_,_,_=>AL P o fr h n
 |_=>AL P o fr h n
theorem jT{P:Program}{o:Oper}{fr:Tr V}{h:Tr O}{n:Nat}{l:ah}{r:R}(e:nY P o fr h n=some (l,r))(hl:∀p∈l,p):dy P o fr h n=some r:=by
 unfold nY at e;split at e
 . rename_i t x y u ho;split at e
   . rename_i a b ha hb;obtain⟨rfl,rfl⟩:=eY e;have iQ:=hl _ (aq.2 rfl);unfold dy;rw[ho];simp only[ha,hb];unfold BJ OX;simp only[aG iQ,mM]
   . exact rU e hl
 . rename_i t x y yt ho;split at e
   . rename_i k a k' b hx hy;split at e
     . rename_i hk;have hk:=aH hk;subst hk;obtain⟨rfl,rfl⟩:=eY e;have hb:b≠0:=hl _ (aq.2 rfl);have hy':iG fr (.tmp y)=some (.int k b):=hy;have:BJ P .rem t x (.tmp y) (.int k a) (.int k b)=some (.int k (a.tmod b)):=by
        simp[BJ,binOp,Op.intDiv,hb,sI,iz];rfl
       simp only[dy,ho,hx,hy',this,mM]
     . cases e
   . exact rU e hl
 . rename_i t x i ho;split at e
   . rename_i m off k ix hx hi;split at e
     . rename_i cN el hu;split at e
       . rename_i sz hs;obtain⟨rfl,rfl⟩:=eY e;have WX:=hl _ (aq.2 rfl);have kz:iG fr (.tmp i)=some (.int k ix):=hi;unfold dy;rw[ho];simp only[hx,kz];unfold nL;simp only[hu,hs,aG WX,mM]
       . cases e
     . exact rU e hl
   . exact rU e hl
 . rename_i t l1 c1 ho;split at e
   . rename_i el k1 lv k2 cv he h1 h2;split at e
     . rename_i i z hi hz;split at e
       . rename_i h' n' hb hn;obtain⟨rfl,rfl⟩:=eY e;simp only[F6,aC,bB]at hb;have WX:=hl _ (aq.2 rfl);have mh:iG fr (.tmp l1)=some (.int k1 lv):=h1;have Tv:iG fr (.tmp c1)=some (.int k2 cv):=h2;unfold dy;rw[ho];simp only[mh,Tv];unfold nJ;simp only[he,hi,hz];rw[aG ⟨hb.1,hb.2.2,WX.1,WX.2.1,WX.2.2⟩];simp only[hn]
       . cases e
     . cases e
   . exact rU e hl
 . exact rU e hl
def dw(cs:ai)(o size:Nat):ai:=(cs.drop o).take size
def D.um:D:=.bool false
def CB(P:Program)(t:TypeId)(cs:ai)(off:Nat):Option (Prop×V):=match MX P t with
 |some false=>some (off<cs.length,(cs.getD off D.um).iH)
 |some true=>match kK P t with
  |some sz=>some (off+sz<=cs.length,.agg (D.lN (dw cs off sz)))
  |none=>none
 |none=>none
theorem H7{P:Program}{t:TypeId}{cs:ai}{off:Nat}{p:Prop}{v:V}(e:CB P t cs off=some (p,v))(hp:p):kX P t (D.lN cs) off=some v:=by
 unfold CB at e;split at e
 . rename_i YJ;obtain⟨rfl,rfl⟩:=eY e;simp only[kX,YJ,D.gr,br,ay hp,bh,aM,Option.getD_some]
 . rename_i YJ;split at e
   . rename_i sz hs;obtain⟨rfl,rfl⟩:=eY e;simp only[kX,YJ,hs,cut,D.gr,aY,aG hp,bh,dw,cK,List.map_drop]
   . cases e
 . cases e
def zV(P:Program)(t:TypeId)(h:Tr O)(v:V)(m o:Nat)(cs:ai):Option (ah×Tr O):=
 match kK P t,gX v.cells with
 |some s,some new=>match Nat.beq v.cells.length s&&(Nat.blt 0 s&&Nat.blt m fI)with
  |true=>some ([o+s<=cs.length],h.set m (some (.deep (wA cs o new))))
  |false=>none
 |_,_=>none
theorem F9{P:Program}{t:TypeId}{h h':Tr O}{v:V}{m o:Nat}{cs:ai}{A:ah}(hm:h.get m=some (.deep cs))(e:zV P t h v m o cs=some (A,h'))(hA:∀a∈A,a):storeAt P t h v (.ptr (some (m,o)))=some h':=by
 unfold zV at e;split at e
 . rename_i s new h1 h2;split at e
   . rename_i hb;obtain⟨rfl,rfl⟩:=eY e;simp only[aC]at hb;have h3:=aD hb.1;have h4:0<s:=au hb.2.1;have h5:m<fI:=au hb.2.2;have h6:o+s<=cs.length:=hA _ (by simp);simp only[storeAt,hm,h1,h2];rw[aG ⟨h3,h4,h5⟩,aG h6]
   . cases e
 . cases e
def qy(um:Nat)(y:Nat):Option V->Option (ah×Nat)
 |none=>some ([],um)
 |some (.int _ i)=>some ([0<=i/\i<=y],i.toNat)
 |some _=>none
theorem oC{um y r:Nat}{o:Option V}{A:ah}(e:qy um y o=some (A,r))(hA:∀a∈A,a):eJ um y o=some r:=by
 unfold qy at e;split at e
 . simp only[an,aB]at e;obtain⟨_,rfl⟩:=e;rfl
 . obtain⟨rfl,rfl⟩:=eY e;simp only[eJ,aG (hA _ (aq.2 rfl))]
 . cases e
def zX(s:Nat)(f:Bool)(cN:Nat)(cs:ai)(lo hi mx:Option V):Option (ah×V):=
 match mx with
 |none=>match qy cN cN hi with
  |some (A,h)=>match qy 0 h lo with
   |some (B,l)=>some ((cs.length=cN*s)::(A++B),.dL (f&& !hi.isSome) (h-l) (dw cs (l*s) ((h-l)*s)))
   |none=>none
  |none=>none
 |some mv=>match qy cN cN (some mv),hi with
  |some (C,m),some hv=>match qy cN m (some hv)with
   |some (A,h)=>match qy 0 h lo with
    |some (B,l)=>some ((cs.length=cN*s)::(h=m)::(C++(A++B)),.dL true (h-l) (dw cs (l*s) ((h-l)*s)))
    |none=>none
   |none=>none
  |_,_=>none
theorem Ga{P:Program}{t el:TypeId}{s cN:Nat}{f:Bool}{cs:ai}{lo hi mx:Option V}{h:Tr O}{A:ah}{v:V}(hu:P.underlying t=some (.slice el))(hs:kK P el=some s)
  (e:zX s f cN cs lo hi mx=some (A,v)) (hA:∀a∈A,a):mq P t h (.dL f cN cs) lo hi mx=some v:=by
 unfold zX at e;split at e
 . split at e
   case h_2=>cases e
   rename_i A1 hh h1;split at e
   case h_2=>cases e
   rename_i B1 l h2;obtain⟨rfl,rfl⟩:=eY e;have k1:=oC h1 fun a ha=>hA a (by simp[ha]);have k2:=oC h2 fun a ha=>hA a (by simp[ha]);have k3:cs.length=cN*s:=hA _ (by simp);unfold mq;rw[aI (by simp)];simp only[hu,hs,aG k3,k1,k2,dw]
 . split at e
   case h_2=>cases e
   rename_i C m hv h0;split at e
   case h_2=>cases e
   rename_i A1 hh h1;split at e
   case h_2=>cases e
   rename_i B1 l h2;obtain⟨rfl,rfl⟩:=eY e;have k0:=oC h0 fun a ha=>hA a (by simp[ha]);have k1:=oC h1 fun a ha=>hA a (by simp[ha]);have k2:=oC h2 fun a ha=>hA a (by simp[ha]);have k3:cs.length=cN*s:=hA _ (by simp);have k4:hh=m:=hA _ (by simp);unfold mq;rw[aI (by simp)];simp only[hu,hs,aG k3,k0,k1,k2,aG k4,dw]
def PW(P:Program)(t:TypeId):Bool:=match P.underlying t with
 |some (.slice _)=>true
 |_=>false
def J7(P:Program)(o:Oper)(fr:Tr V)(h:Tr O)(n:Nat):Option (ah×R):=
 match o.op with
 | .load t a=>match iG fr a with
   |some (.ptr (some (m,off)))=>match h.get m with
    |some (.deep cs)=>match CB P t cs off with
     |some (p,v)=>some ([p],.val v h n)
     |none=>none
    |_=>nY P o fr h n
   |_=>nY P o fr h n
 | .store t a x=>match iG fr a,iG fr x with
   |some (.ptr (some (m,off))),some v=>match h.get m with
    |some (.deep cs)=>match zV P t h v m off cs with
     |some (A,h')=>some (A,.val (.eo []) h' n)
     |none=>none
    |_=>nY P o fr h n
   |_,_=>nY P o fr h n
 | .indexAddr t x i=>match iG fr x,iG fr i with
   |some (.dL _ cN cs),some (.int _ ix)=>match uX P t with
    |some s=>some ([0<=ix/\ix<cN,cs.length=cN*s],.val (.dm (dw cs (ix.toNat*s) s)) h n)
    |none=>none
   |_,_=>nY P o fr h n
 | .slice t x lo hi mx=>match iG fr x with
   |some (.dL f cN cs)=>match uX P t,my fr lo,my fr hi,my fr mx with
    |some s,some lo,some hi,some mx=>match zX s f cN cs lo hi mx with
     |some (A,v)=>some (A,.val v h n)
     |none=>none
    |_,_,_,_=>none
   |_=>nY P o fr h n
 | .convert Lx dst x=>match iG fr x with
   |some (.di (some (m,off)) cN _ jo)=>match uj (h.get m)with
    |some s0=>match P.underlying Lx,P.underlying dst,Nat.beq jo 1 with
     |some (.slice e),some .string,true=>match P.underlying e with
      |some (.int .u8)=>some ([off+cN<=s0.length],.val (.str ((s0.drop off).take cN)) h n)
      |_=>none
     |_,_,_=>none
    |none=>match Au (h.get m)with
    |some ks=>match P.underlying Lx,P.underlying dst,Nat.beq jo 1 with
     |some (.slice e),some .string,true=>match P.underlying e with
      |some (.int .u8)=>some ([off+cN<=ks.length],.val (.str (eM ((ks.drop off).take cN))) h n)
      |_=>none
     |_,_,_=>none
    |none=>nY P o fr h n
   |_=>nY P o fr h n
 | .call c=>match c.callee,ux fr c.args.toList with
   | .builtin .unsafeSliceData,some [.di (some (m,off)) _ cO _]=>some ([0<cO],.val (.ptr (some (m,off))) h n)
   | .builtin .unsafeString,some [.ptr (some (m,0)),.int .i64 l]=>match c.argTypes[0]? with
     |some pt=>match P.underlying pt,h.get m with
      |some (.pointer e),some (.iS el _ s)=>match decide (el=e)&&(Nat.beq (P.cellsOf e) 1&&(Nat.blt m fI&&Nat.beq c.argTypes.size 2))with
       |true=>some ([l=s.length/\0<s.length,s.length<=wV],.val (.str s) (h.set m (some (.iS el true s))) n)
       |false=>none
      |_,_=>none
     |none=>none
   |_,_=>nY P o fr h n
 | .binOp .eql t x y _=>match iG fr x,iG fr y with
   |some (.dL _ k _),some (.di none _ _ _)=>match PW P t with
    |true=>some ([0<k],.val (.bool false) h n)
    |false=>none
   |_,_=>nY P o fr h n
 |_=>nY P o fr h n
theorem TT{P:Program}{d:Nat}{t el:TypeId}{f:Bool}{k l c e:Nat}{cs:ai}(hu:P.underlying t=some (.slice el)):Lw P (d+1) t (.dL f (k+1) cs) (.di none l c e)=some false:=by
 simp only[Lw,hu]
theorem NB{P:Program}{o:Oper}{fr:Tr V}{h:Tr O}{n:Nat}{l:ah}{r:R}(e:J7 P o fr h n=some (l,r))(hl:∀p∈l,p):dy P o fr h n=some r:=by
 unfold J7 at e;split at e
 . rename_i t a ho;split at e
   . rename_i m off ha;split at e
     . rename_i cs hm;split at e
       . rename_i p v hs;obtain⟨rfl,rfl⟩:=eY e;have hp:p:=hl _ (aq.2 rfl);simp only[dy,ho,ha,loadAt,hm,H7 hs hp,mM]
       . cases e
     . exact jT e hl
   . exact jT e hl
 . rename_i t a x ho;split at e
   . rename_i m off v ha hx;split at e
     . rename_i cs hm;split at e
       . rename_i A h' hs;obtain⟨rfl,rfl⟩:=eY e;simp only[dy,ho,ha,hx,F9 hm hs hl]
       . cases e
     . exact jT e hl
   . exact jT e hl
 . rename_i t x i ho;split at e
   . rename_i f cN cs k ix hx hi;split at e
     . rename_i s hs;obtain⟨rfl,rfl⟩:=eY e;obtain⟨el,h1,h2⟩:=pV hs;have k1:=hl _ (aP ..);have k2:=hl _ (aJ _ (aq.2 rfl));simp only[dy,ho,hx,hi,nL,h1,h2,mM];rw[aG ⟨k1,k2⟩];rfl
     . cases e
   . exact jT e hl
 . rename_i t x lo hi mx ho;split at e
   . rename_i f cN cs hx;split at e
     . rename_i s lov hiv mxv hs h1 h2 h3;split at e
       . rename_i A v hv;obtain⟨rfl,rfl⟩:=eY e;obtain⟨el,k1,k2⟩:=pV hs;simp only[dy,ho,hx,h1,h2,h3,Ga k1 k2 hv hl,mM]
       . cases e
     . cases e
   . exact jT e hl
 . rename_i Lx dst x ho;split at e
   . rename_i m off cN cp jo hx;split at e
     . rename_i s0 FH;split at e
       . rename_i el h1 h2 h3;split at e
         . rename_i h4;obtain⟨rfl,rfl⟩:=eY e;have k1:=hl _ (aq.2 rfl);simp only[dy,ho,hx,qa,h1,h2,h4,aG (aD h3),FH];rw[aG (Or.inr k1)]
         . cases e
       . cases e
     . rename_i FH;split at e
       . rename_i ks DI;split at e
         . rename_i el h1 h2 h3;split at e
           . rename_i h4;obtain⟨rfl,rfl⟩:=eY e;have k1:=hl _ (aq.2 rfl);simp only[dy,ho,hx,qa,h1,h2,h4,aG (aD h3),FH,DI];rw[aG (Or.inr k1)]
           . cases e
         . cases e
       . exact jT e hl
   . exact jT e hl
 . rename_i c ho;split at e
   . rename_i m off x1 cO x2 hc ha;obtain⟨rfl,rfl⟩:=eY e;have k1:=hl _ (aq.2 rfl);simp only[dy,ho,wD,ha,hc,kY,aG k1]
   . rename_i m l hc ha;split at e
     . rename_i pt YB;split at e
       . rename_i e0 el x1 s hp hm;split at e
         . rename_i hb;obtain⟨rfl,rfl⟩:=eY e;simp only[aC,bB]at hb;have k1:=hl _ (aP ..);have k2:=hl _ (aJ _ (aq.2 rfl));simp only[dy,ho,wD,ha,hc,kY,YB,hp,hm];rw[aG ⟨k1,⟨hb.1,aD hb.2.1⟩,au hb.2.2.1,aD hb.2.2.2,k2⟩]
         . cases e
       . cases e
     . cases e
   . exact jT e hl
 . rename_i t x y _ ho;split at e
   . rename_i f k cs z1 z2 z3 hx hy;split at e
     . rename_i hq;obtain⟨rfl,rfl⟩:=eY e;have k1:0<k:=hl _ (aq.2 rfl);obtain⟨k',rfl⟩:∃k',k=k'+1:=⟨k-1,be⟩;unfold PW at hq;split at hq
       . rename_i el hu;simp only[dy,ho,hx,hy,BJ,Fx,TT (d:=9999) hu,bh,mM]
       . cases hq
     . cases e
   . exact jT e hl
 . exact jT e hl
def NC(P:Program)(o:Oper)(fr:Tr V)(h:Tr O)(n:Nat):M R:=match J7 P o fr h n with
 |some (l,r)=>some [(⟨[],[],l⟩,r)]
 |none=>none
theorem tq(P:Program)(o:Oper)(fr:Tr V)(h:Tr O)(n:Nat):fg (NC P o fr h n) (dy P o fr h n):=by
 intro l e;unfold NC at e;split at e
 . rename_i a r hs;obtain rfl:=ek e;refine⟨⟨_,aq.2 rfl,fun c hc=>by simp at hc⟩,fun e he _ hg=>?_⟩;simp only[aq]at he;subst he;exact NB hs hg.2
 . cases e
section
variable(P:Program)(cs:eX)(cf:fJ)(H:List (Nat×oT))
def ND(ops:Array Oper):List Oper->St->M (X×St)
 | [],s=>.ret (.normal,s)
 |o::rest,s=>
  match iq ops o s.fr with
  |some false=>match iT s.fr o.dst (.eo [])with
   |some fr=>ND ops rest { s with fr:=fr }
   |none=>none
  |some true=>(NC P o s.fr s.h s.n).then fun r=>match r with
   | .val v h n=>(J6 H o.dst v).then fun v=>match iT s.fr o.dst v with
     |some fr=>ND ops rest { s with fr:=fr,h:=h,n:=n }
     |none=>none
   | .call f args=>(cs f args s.h s.n).then fun q=>(J6 H o.dst q.1).then fun v=>match iT s.fr o.dst v with
     |some fr=>ND ops rest { s with fr:=fr,h:=q.2.1,n:=q.2.2 }
     |none=>none
   |_=>none
  |none=>none
theorem tr(oQ:oU cs cf)(ops:Array Oper):∀(l:List Oper) (s:St),fg (ND P cs H ops l s) (iY P cf ops l s)
 | [],s=>.ret _
 |o::rest,s=>by
  simp only[ND,iY];rcases iq ops o s.fr with _|(_|_)
  . exact .none _
  . cases iT s.fr o.dst (.eo [])with
    |none=>exact .none _
    |some fr=>exact tr oQ ops rest _
  . refine qw (fg.then (tq P o s.fr s.h s.n) (g:=fun r=>match r with
     | .val v h n=>match iT s.fr o.dst v with
       |some fr=>iY P cf ops rest { s with fr:=fr,h:=h,n:=n }
       |none=>none
     | .call f args=>(pK (cf f args s.h s.n)).bind fun q=>match iT s.fr o.dst q.1 with
       |some fr=>iY P cf ops rest { s with fr:=fr,h:=q.2.1,n:=q.2.2 }
       |none=>none
     |_=>none) (fun r=>?_)) ?_
    . cases r with
      |val v h n=>
       refine(fg.then (qv H o.dst v) (g:=fun v=>match iT s.fr o.dst v with
        |some fr=>iY P cf ops rest { s with fr:=fr,h:=h,n:=n }
        |none=>none) (fun v=>?_)).of_eq rfl
       cases iT s.fr o.dst v with
       |none=>exact .none _
       |some fr=>exact tr oQ ops rest _
      |call f args=>
       refine fg.then (oQ f args s.h s.n) (fun q=>?_);refine(fg.then (qv H o.dst q.1) (g:=fun v=>match iT s.fr o.dst v with
        |some fr=>iY P cf ops rest { s with fr:=fr,h:=q.2.1,n:=q.2.2 }
        |none=>none) (fun v=>?_)).of_eq rfl
       cases iT s.fr o.dst v with
       |none=>exact .none _
       |some fr=>exact tr oQ ops rest _
      |me f c args=>exact .none _
      |recover=>exact .none _
      |panic v=>exact .none _
    . intro a ha;cases hs:dy P o s.fr s.h s.n with
      |none=>rw[hs]at ha;cases ha
      |some r=>
       rw[hs]at ha;cases r with
       |call f args=>
        simp only[tn]at ha ⊢;cases hj:cf f args s.h s.n with
        |none=>rw[hj]at ha;cases ha
        |some q=>
         rw[hj]at ha;obtain⟨tQ,h,n⟩:=q;cases tQ with
         |ret v=>exact ha
         |zz v=>cases ha
       |val v h n=>exact ha
       |_=>cases ha
section
variable(n0 i:Nat)(o:Oper)(fr:Tr V)
def LO(v:V)(x:Tr O):M Unit:=
 (NC P o fr x (n0+i)).then fun r=>match r with
  | .val u _ k=>match Nat.beq k (n0+i)&&v.qU with
    |true=>some [(⟨[],[(u,v)],[]⟩,())]
    |false=>none
  |_=>none
theorem AM(v:V)(x:Tr O):fg (LO P n0 i o fr v x) (if mF P n0 i o fr v x=true then some ()else none):=by
 unfold LO;refine(fg.then (tq P o fr x (n0+i)) (g:=fun r=>if(match r with | .val u _ k=>Nat.beq k (n0+i)&&V.beq u v|_=>false)=true then some ()else none) (fun r=>?_)).of_eq ?_
 . cases r with
   |val u h k=>
    simp only;split
    . rename_i hb;simp only[aC]at hb;intro l e;obtain rfl:=ek e;refine⟨⟨_,aq.2 rfl,fun c hc=>by simp at hc⟩,fun e he _ hg=>?_⟩;simp only[aq]at he;subst he;have:u=v:=hg.1 (u,v) (aq.2 rfl);subst this;rw[aG (by rw[hb.1,V.beq_refl u hb.2];rfl)]
    . exact .none _
   |_=>exact .none _
 . unfold mF;cases dy P o fr x (n0+i)with
   |none=>rfl
   |some r=>cases r<;>rfl
end
def H8(n0 i:Nat)(o:Oper)(fr:Tr V)(v:V)(cU:af)(gQ:Nat):List (Nat×Nat×Tr O)->M Unit
 | []=>.ret ()
 |(e,m,x)::r=>match dS gQ e with
  |true=>.ret ()
  |false=>(LO P n0 i o fr v (gH n0 cU m x gQ)).then fun _=>H8 n0 i o fr v cU gQ r
theorem AN(n0 i:Nat)(o:Oper)(fr:Tr V)(v:V)(cU:af)(gQ:Nat):∀l:List (Nat×Nat×Tr O),fg (H8 P n0 i o fr v cU gQ l) (if qd P n0 i o fr v cU gQ l=true then some ()else none)
 | []=>(fg.ret ()).of_eq rfl
 |(e,m,x)::r=>by
  simp only[H8,qd];rcases Bool.eq_false_or_eq_true (dS gQ e)with hb|hb
  . simp only[hb,if_true];exact .ret ()
  . simp only[hb,aO,cF];refine(fg.then (AM P n0 i o fr v _) (fun _=>AN n0 i o fr v cU gQ r)).of_eq ?_;cases mF P n0 i o fr v (gH n0 cU m x gQ)<;>cases qd P n0 i o fr v cU gQ r<;>rfl
def CC(n0:Nat)(cU:af)(m:Nat)(x:Tr O):List (Nat×Nat×Oper×Tr V×V)->M Unit
 | []=>.ret ()
 |(j,gQ,o,fr,v)::r=>match dS m j with
  |true=>CC n0 cU m x r
  |false=>(LO P n0 j o fr v (gH n0 cU m x gQ)).then fun _=>CC n0 cU m x r
theorem tu(n0:Nat)(cU:af)(m:Nat)(x:Tr O):∀l:List (Nat×Nat×Oper×Tr V×V),fg (CC P n0 cU m x l) (if pD P n0 cU m x l=true then some ()else none)
 | []=>(fg.ret ()).of_eq rfl
 |(j,gQ,o,fr,v)::r=>by
  simp only[CC,pD];rcases Bool.eq_false_or_eq_true (dS m j)with hb|hb
  . simp only[hb,Bool.true_or,Bool.true_and];exact tu n0 cU m x r
  . simp only[hb,Bool.false_or];refine(fg.then (AM P n0 j o fr v _) (fun _=>tu n0 cU m x r)).of_eq ?_;cases mF P n0 j o fr v (gH n0 cU m x gQ)<;>cases pD P n0 cU m x r<;>rfl
def Gb(n0 i gQ:Nat)(o:Oper)(s:Dr)(v:V)(h:Tr O)(n:Nat):M Dr:=
 match iT s.fr o.dst v with
 |some fr=>(CC P n0 s.cU gQ h s.reads).then fun _=>
   .ret { fr:=fr,ee:=s.ee++[gQ],cur:=(gQ,h),pC:=(i,s.cur.1,s.cur.2)::s.pC,last:=some i,cU:=s.cU,reads:=s.reads,n:=n }
 |none=>none
theorem yM(n0 i gQ:Nat)(o:Oper)(s:Dr)(v:V)(h:Tr O)(n:Nat):fg (Gb P n0 i gQ o s v h n) (kB P n0 i gQ o s v h n):=by
 unfold Gb kB;cases iT s.fr o.dst v with
 |none=>exact .none _
 |some fr=>
  refine(fg.then (tu P n0 s.cU gQ h s.reads) (g:=fun _=>some _) (fun _=>.ret _)).of_eq ?_;cases pD P n0 s.cU gQ h s.reads<;>rfl
def PX(ops:Array Oper)(n0 i:Nat)(o:Oper)(s:Dr):M Dr:=
 match iq ops o s.fr with
 |some false=>match iT s.fr o.dst (.eo [])with
  |some fr=>.ret { s with fr:=fr,ee:=s.ee++[eL s.ee o.after.toList] }
  |none=>none
 |some true=>
  match qM o.op with
  |true=>match zA (eL s.ee o.after.toList) s.last with
   |true=>(NC P o s.fr (gH n0 s.cU s.cur.1 s.cur.2 (eL s.ee o.after.toList)) s.n).then fun r=>match r with
    | .val v h n=>(J6 H o.dst v).then fun v=>Gb P n0 i (eL s.ee o.after.toList) o s v h n
    | .call f args=>(cs f args (gH n0 s.cU s.cur.1 s.cur.2 (eL s.ee o.after.toList)) s.n).then fun q=>(J6 H o.dst q.1).then fun v=>Gb P n0 i (eL s.ee o.after.toList) o s v q.2.1 q.2.2
    |_=>none
   |false=>none
  |false=>(NC P o s.fr (gH n0 s.cU s.cur.1 s.cur.2 (eL s.ee o.after.toList)) (n0+i)).then fun r=>match r with
   | .val v h k=>(J6 H o.dst v).then fun v=>match iT s.fr o.dst v with
     |some fr=>match Nat.beq k (n0+i)with
      |true=>match qc o.op with
       |true=>.ret { s with fr:=fr,ee:=s.ee++[eL s.ee o.after.toList] }
       |false=>(H8 P n0 i o s.fr v s.cU (eL s.ee o.after.toList) s.pC).then fun _=>
         .ret { s with fr:=fr,ee:=s.ee++[eL s.ee o.after.toList],reads:=(i,eL s.ee o.after.toList,o,s.fr,v)::s.reads }
      |false=>match h.get (n0+i)with
       |some b=>match b.wr with
        |true=>.ret { s with fr:=fr,ee:=s.ee++[eL s.ee o.after.toList],cU:=(i,b)::s.cU }
        |false=>none
       |none=>none
     |none=>none
   |_=>none
 |none=>none
theorem H9(oQ:oU cs cf)(ops:Array Oper)(n0 i:Nat)(o:Oper)(s:Dr):fg (PX P cs H ops n0 i o s) (Nz (uy P cf ops n0 i o s)):=by
 unfold PX uy;rcases iq ops o s.fr with _|(_|_)
 . exact .none _
 . cases iT s.fr o.dst (.eo [])with
   |none=>exact .none _
   |some fr=>exact(fg.ret _).of_eq rfl
 . cases qM o.op with
   |true=>
    rcases Bool.eq_false_or_eq_true (zA (eL s.ee o.after.toList) s.last)with hb|hb
    rotate_left
    . simp only[hb];exact .none _
    . simp only[hb,if_true];refine(fg.then (tq P o s.fr _ s.n) (g:=fun r=>match r with
       | .val v h n=>kB P n0 i (eL s.ee o.after.toList) o s v h n
       | .call f args=>(pK (cf f args (gH n0 s.cU s.cur.1 s.cur.2 (eL s.ee o.after.toList)) s.n)).bind fun q=>kB P n0 i (eL s.ee o.after.toList) o s q.1 q.2.1 q.2.2
       |_=>none) (fun r=>?_)).of_eq ?_
      . cases r with
        |val v h n=>exact(fg.then (qv H o.dst v) (g:=fun v=>kB P n0 i (eL s.ee o.after.toList) o s v h n) (fun v=>yM P n0 i _ o s v h n)).of_eq rfl
        |call f args=>
         refine fg.then (oQ f args _ s.n) (fun q=>?_);exact(fg.then (qv H o.dst q.1) (g:=fun v=>kB P n0 i (eL s.ee o.after.toList) o s v q.2.1 q.2.2) (fun v=>yM P n0 i _ o s v q.2.1 q.2.2)).of_eq rfl
        |_=>exact .none _
      . cases dy P o s.fr (gH n0 s.cU s.cur.1 s.cur.2 (eL s.ee o.after.toList)) s.n with
        |none=>rfl
        |some r=>
         cases r with
         |val v h n=>
          simp only[tn];cases kB P n0 i (eL s.ee o.after.toList) o s v h n<;>rfl
         |call f args=>
          simp only[tn];cases cf f args (gH n0 s.cU s.cur.1 s.cur.2 (eL s.ee o.after.toList)) s.n with
          |none=>rfl
          |some q=>
           obtain⟨tQ,h,n⟩:=q;cases tQ with
           |ret v=>
            simp only[pK,tn];cases kB P n0 i (eL s.ee o.after.toList) o s v h n<;>rfl
           |zz v=>simp only;split<;>rfl
         |_=>rfl
   |false=>
    simp only[aO,cF];have body:∀(v:V) (h:Tr O) (k:Nat),fg (match iT s.fr o.dst v with
      |some fr=>match Nat.beq k (n0+i)with
       |true=>match qc o.op with
        |true=>M.ret { s with fr:=fr,ee:=s.ee++[eL s.ee o.after.toList] }
        |false=>(H8 P n0 i o s.fr v s.cU (eL s.ee o.after.toList) s.pC).then fun _=>
          .ret { s with fr:=fr,ee:=s.ee++[eL s.ee o.after.toList],reads:=(i,eL s.ee o.after.toList,o,s.fr,v)::s.reads }
       |false=>match h.get (n0+i)with
        |some b=>match b.wr with
         |true=>M.ret { s with fr:=fr,ee:=s.ee++[eL s.ee o.after.toList],cU:=(i,b)::s.cU }
         |false=>none
        |none=>none
      |none=>none) (Nz (match iT s.fr o.dst v with
       |some fr=>
        if Nat.beq k (n0+i)=true then
         if qc o.op=true then(some (.inl { s with fr:=fr,ee:=s.ee++[eL s.ee o.after.toList] }):Option (Dr ⊕ (Tr V×V×Tr O×Nat)))
         else if qd P n0 i o s.fr v s.cU (eL s.ee o.after.toList) s.pC=true then
          some (.inl { s with fr:=fr,ee:=s.ee++[eL s.ee o.after.toList],reads:=(i,eL s.ee o.after.toList,o,s.fr,v)::s.reads })
         else mR o
        else match h.get (n0+i)with
         |some b=>if b.wr=true then some (.inl { s with fr:=fr,ee:=s.ee++[eL s.ee o.after.toList],cU:=(i,b)::s.cU })else mR o
         |none=>mR o
       |none=>mR o)):=by
     intro v h k;cases iT s.fr o.dst v with
     |none=>exact .none _
     |some fr=>
      simp only;cases Nat.beq k (n0+i)with
      |true=>
       simp only[if_true];cases qc o.op with
       |true=>exact(fg.ret _).of_eq rfl
       |false=>
        refine(fg.then (AN P n0 i o s.fr v s.cU _ s.pC) (g:=fun _=>some _) (fun _=>.ret _)).of_eq ?_;simp only[aO,cF];cases qd P n0 i o s.fr v s.cU (eL s.ee o.after.toList) s.pC<;>rfl
      |false=>
       simp only[aO,cF];cases h.get (n0+i)with
       |none=>exact .none _
       |some b=>
        simp only;cases b.wr with
        |true=>exact(fg.ret _).of_eq rfl
        |false=>exact .none _
    refine(fg.then (tq P o s.fr _ (n0+i)) (g:=fun r=>match r with
     | .val v h k=>Nz (match iT s.fr o.dst v with
        |some fr=>
         if Nat.beq k (n0+i)=true then
          if qc o.op=true then(some (.inl { s with fr:=fr,ee:=s.ee++[eL s.ee o.after.toList] }):Option (Dr ⊕ (Tr V×V×Tr O×Nat)))
          else if qd P n0 i o s.fr v s.cU (eL s.ee o.after.toList) s.pC=true then
           some (.inl { s with fr:=fr,ee:=s.ee++[eL s.ee o.after.toList],reads:=(i,eL s.ee o.after.toList,o,s.fr,v)::s.reads })
          else mR o
         else match h.get (n0+i)with
          |some b=>if b.wr=true then some (.inl { s with fr:=fr,ee:=s.ee++[eL s.ee o.after.toList],cU:=(i,b)::s.cU })else mR o
          |none=>mR o
        |none=>mR o)
     |_=>none) (fun r=>?_)).of_eq ?_
    . cases r with
      |val v h k=>exact(fg.then (qv H o.dst v) (g:=fun v=>Nz (match iT s.fr o.dst v with
        |some fr=>
         if Nat.beq k (n0+i)=true then
          if qc o.op=true then(some (.inl { s with fr:=fr,ee:=s.ee++[eL s.ee o.after.toList] }):Option (Dr ⊕ (Tr V×V×Tr O×Nat)))
          else if qd P n0 i o s.fr v s.cU (eL s.ee o.after.toList) s.pC=true then
           some (.inl { s with fr:=fr,ee:=s.ee++[eL s.ee o.after.toList],reads:=(i,eL s.ee o.after.toList,o,s.fr,v)::s.reads })
          else mR o
         else match h.get (n0+i)with
          |some b=>if b.wr=true then some (.inl { s with fr:=fr,ee:=s.ee++[eL s.ee o.after.toList],cU:=(i,b)::s.cU })else mR o
          |none=>mR o
        |none=>mR o)) (fun v=>body v h k)).of_eq rfl
      |_=>exact .none _
    . cases dy P o s.fr (gH n0 s.cU s.cur.1 s.cur.2 (eL s.ee o.after.toList)) (n0+i)with
      |none=>rfl
      |some r=>cases r<;>rfl
def Gc(ops:Array Oper)(n0:Nat):List Oper->Nat->Dr->M Dr
 | [],_,s=>.ret s
 |o::r,i,s=>(PX P cs H ops n0 i o s).then fun s'=>Gc ops n0 r (i+1) s'
theorem yN(oQ:oU cs cf)(ops:Array Oper)(n0:Nat):∀(l:List Oper) (i:Nat) (s:Dr),fg (Gc P cs H ops n0 l i s) (Nz (qN P cf ops n0 l i s))
 | [],i,s=>(fg.ret s).of_eq rfl
 |o::r,i,s=>by
  simp only[Gc,qN];refine(fg.then (H9 P cs cf H oQ ops n0 i o s) (fun s'=>yN oQ ops n0 r (i+1) s')).of_eq ?_;cases uy P cf ops n0 i o s with
  |none=>rfl
  |some q=>cases q<;>rfl
def jU(F:Nat):Code->St->M (X×St)
 | .region _ ops false,s=>ND P cs H ops ops.toList s
 | .region _ ops true,s=>match decide (s.n+ops.size<fI)with
   |true=>(Gc P cs H ops s.n ops.toList 0 { fr:=s.fr,ee:=[],cur:=(0,s.h),pC:=[],last:=none,cU:=[],reads:=[],n:=s.n+ops.size }).then fun d=>
     .ret (.normal,{ fr:=d.fr,h:=gH s.n d.cU d.cur.1 d.cur.2 (2^ops.size-1),n:=d.n,gu:=s.gu })
   |false=>none
 | .seq a b,s=>(jU F a s).then fun p=>match p.1 with
   | .normal=>jU F b p.2
   |_=>.ret p
 | .cond c a b,s=>match iG s.fr c with
   |some (.bool true)=>jU F a s
   |some (.bool false)=>jU F b s
   |_=>none
 | .block id body,s=>(jU F body s).then fun p=>match p.1 with
   | .exit id'=>if id'=id then .ret (.normal,p.2)else .ret p
   |_=>.ret p
 | .loop body,s=>Bs (jU F body) F s
 | .skip,s=>.ret (.normal,s)
 | .exit id,s=>.ret (.exit id,s)
 | .ret,s=>.ret (.ret,s)
 | .rangeFunc g ps assign body,s=>match iG s.fr g with
   |some (.fn (.func gf) [] lb)=>match callee P gf&&decide (s.n+1<fI)with
    |true=>(cs gf (.fn (.yield (s.n+1)) [] []::lb) ((s.h.set s.n (some .me)).set (s.n+1) (some (.loop true none s.fr ps.toList assign body))) (s.n+2)).then fun q=>match q.2.1.get s.n,q.2.1.get (s.n+1)with
     |some .me,some (.loop true none _ _ _ _)=>.ret (.normal,{ s with h:=q.2.1.set (s.n+1) none,n:=q.2.2,gu:=(fI,[],[.map (some s.n)])::s.gu })
     |some .me,some (.loop false (some .ret) _ _ _ _)=>.ret (.ret,{ s with h:=q.2.1.set (s.n+1) none,n:=q.2.2,gu:=(fI,[],[.map (some s.n)])::s.gu })
     |some .me,some (.loop false (some (.exit id)) _ _ _ _)=>.ret (.exit id,{ s with h:=q.2.1.set (s.n+1) none,n:=q.2.2,gu:=(fI,[],[.map (some s.n)])::s.gu })
     |_,_=>none
    |false=>none
   |_=>none
 |_,_=>none
theorem oD(oQ:oU cs cf)(F:Nat):∀(c:Code) (s:St),fg (jU P cs H F c s) (iZ P cf F c s):=by
 intro c
 induction c with
 |region id ops Jy=>
  intro s;cases Jy with
  |false=>exact tr P cs cf H oQ ops ops.toList s
  |true=>
   simp only[jU,iZ,drawn];by_cases fE:s.n+ops.size<fI
   . simp only[bL fE,aG fE];refine qw (fg.then (yN P cs cf H oQ ops s.n ops.toList 0 _) (g:=fun d=>some (.normal,{ fr:=d.fr,h:=gH s.n d.cU d.cur.1 d.cur.2 (2^ops.size-1),n:=d.n,gu:=s.gu })) (fun d=>.ret _)) ?_;intro d hd;cases hq:qN P cf ops s.n ops.toList 0 { fr:=s.fr,ee:=[],cur:=(0,s.h),pC:=[],last:=none,cU:=[],reads:=[],n:=s.n+ops.size }with
     |none=>rw[hq]at hd;cases hd
     |some q=>
      rw[hq]at hd;cases q with
      |inl d'=>simp only[Nz,Option.bind_some]at hd;simp only;exact hd
      |inr _=>cases hd
   . simp only[bC fE];exact .none _
 |seq a b iha ihb=>
  intro s;simp only[jU,iZ];refine(fg.then (iha s) (g:=fun p=>match p.1 with | .normal=>iZ P cf F b p.2|_=>some p) (fun p=>?_)).of_eq ?_
  . obtain⟨x,s'⟩:=p;cases x with
    |normal=>exact ihb s'
    |_=>exact .ret _
  . cases iZ P cf F a s with
    |none=>rfl
    |some p=>obtain⟨x,s'⟩:=p;cases x<;>rfl
 |cond c a b iha ihb=>
  intro s;simp only[jU,iZ];cases iG s.fr c with
  |none=>exact .none _
  |some v=>
   cases v with
   |bool t=>
    cases t with
    |true=>exact iha s
    |false=>exact ihb s
   |_=>exact .none _
 |block id c ih=>
  intro s;simp only[jU,iZ];refine(fg.then (ih s) (g:=fun p=>match p.1 with | .exit id'=>if id'=id then some (.normal,p.2)else some p|_=>some p) (fun p=>?_)).of_eq ?_
  . obtain⟨x,s'⟩:=p;cases x with
    |exit j=>
     simp only;by_cases hj:j=id
     . simp only[aG hj];exact .ret _
     . simp only[aI hj];exact .ret _
    |_=>exact .ret _
  . cases iZ P cf F c s with
    |none=>rfl
    |some p=>obtain⟨x,s'⟩:=p;cases x<;>rfl
 |loop c ih=>
  intro s;simp only[jU,iZ];exact wK ih F s
 |skip=>intro s;exact .ret _
 |exit id=>intro s;exact .ret _
 |ret=>intro s;exact .ret _
 |rangeFunc g ps assign body _ _=>
  intro s;simp only[jU,iZ];split
  . rename_i gf lb hg;rw[hg];simp only;split
    . rename_i hq;simp only[aC,bB]at hq;rw[aG hq];refine qw (fg.then (oQ gf _ _ (s.n+2)) (g:=fun q=>match q.2.1.get s.n,q.2.1.get (s.n+1)with
       |some .me,some (.loop true none _ _ _ _)=>some (.normal,{ s with h:=q.2.1.set (s.n+1) none,n:=q.2.2,gu:=(fI,[],[.map (some s.n)])::s.gu })
       |some .me,some (.loop false (some .ret) _ _ _ _)=>some (.ret,{ s with h:=q.2.1.set (s.n+1) none,n:=q.2.2,gu:=(fI,[],[.map (some s.n)])::s.gu })
       |some .me,some (.loop false (some (.exit id)) _ _ _ _)=>some (.exit id,{ s with h:=q.2.1.set (s.n+1) none,n:=q.2.2,gu:=(fI,[],[.map (some s.n)])::s.gu })
       |_,_=>none) (fun q=>?_)) ?_
      . split<;>first|exact .ret _|exact .none _
      . intro a ha;cases hc:cf gf (.fn (.yield (s.n+1)) [] []::lb) ((s.h.set s.n (some .me)).set (s.n+1) (some (.loop true none s.fr ps.toList assign body))) (s.n+2)with
        |none=>rw[hc]at ha;cases ha
        |some q=>
         rw[hc]at ha;obtain⟨tQ,h,n⟩:=q;cases tQ with
         |zz v=>cases ha
         |ret v=>
          simp only[pK,Option.bind_some]at ha;simp only;split at ha<;>first|(rename_i h1 h2;simp only[h1,h2];exact ha)|cases ha
    . exact .none _
  . exact .none _
 |_=>intro s;exact .none _
end
def u6(P:Program)(fn:Func)(fr:Tr V):List (FuncId×ag×ag)->Tr O->Nat->Option (V×Tr O×Nat)
 | [],h,n=>match kZ P fr h fn.results.toList with
   |some vs=>some (oneOf vs,h,n)
   |none=>none
 |(g,_,args)::ds,h,n=>match Nat.ble fI g with
  |true=>match args with
   | [.map (some b)]=>match h.get b with
     |some .me=>match Nat.blt b fI with
      |true=>u6 P fn fr ds (h.set b none) n
      |false=>none
     |_=>none
   |_=>none
  |false=>none
theorem vU{P:Program}{cf:fJ}{F:Nat}{fn:Func}{fr:Tr V}:∀{ds:List (FuncId×ag×ag)} {h:Tr O} {n:Nat} {r:V×Tr O×Nat},u6 P fn fr ds h n=some r->nB P cf F fn fr ds .ret h n=some (.ret r.1,r.2.1,r.2.2)
 | [],h,n,r,e=>by
   unfold u6 at e;unfold nB;split at e
   . rename_i vs hv;obtain rfl:=ek e;rw[hv]
   . cases e
 |(g,c,args)::ds,h,n,r,e=>by
  unfold u6 at e;unfold nB;split at e
  case h_2=>cases e
  rename_i hg;rw[aG (au hg)];split at e
  case h_2=>cases e
  rename_i b;simp only;split at e
  case h_2=>cases e
  rename_i hb;rw[hb];simp only;split at e
  case h_2=>cases e
  rename_i fE;rw[aG (show b<fI from au fE)];exact vU e
abbrev jJ:=FuncId->ag->Tr O->Nat->Option (ah×V×Tr O×Nat)
def fU(P:Program)(S:jJ):Prop:=∀f args h n A v h' n',S f args h n=some (A,v,h',n')->f<P.funcs.size/\((∀a∈A,a)->
 ∀E w c7,dG E args c7->Good E h w->qH E n->callee P f=true->Calls P f c7.toArray w (jR E h n w (.ret v) h' n'))
def noW:jJ:=fun _ _ _ _=>none
theorem PY(P:Program):fU P noW:=fun _ _ _ _ _ _ _ _ e=>by cases e
def kj(f:FuncId)(spec:ag->Tr O->Nat->Option (ah×V×Tr O×Nat))(S:jJ):jJ:=fun g args h n=>match Nat.beq g f with
 |true=>match spec args h n with
  |some r=>some r
  |none=>S g args h n
 |false=>S g args h n
def jC(P:Program)(f:FuncId)(spec:ag->Tr O->Nat->Option (ah×V×Tr O×Nat)):Prop:=f<P.funcs.size/\∀args h n A v h' n',spec args h n=some (A,v,h',n')->(∀a∈A,a)->
 ∀E w c7,dG E args c7->Good E h w->qH E n->callee P f=true->Calls P f c7.toArray w (jR E h n w (.ret v) h' n')
theorem fe{P:Program}{f:FuncId}{spec:ag->Tr O->Nat->Option (ah×V×Tr O×Nat)}{S:jJ}(hp:jC P f spec)(hS:fU P S):fU P (kj f spec S):=by
 intro g args h n A v h' n' e;unfold kj at e;split at e
 . rename_i hg;have hg:=aD hg;subst hg;split at e
   . rename_i r hr;cases e;exact⟨hp.1,hp.2 args h n A v h' n' hr⟩
   . exact hS g args h n A v h' n' e
 . exact hS g args h n A v h' n' e
def ac3(P:Program)(fn:Func)(p:X×St):M (V×Tr O×Nat):=match p.1 with
 | .normal=>match u6 P fn p.2.fr p.2.gu p.2.h p.2.n with
   |some r=>.ret r
   |none=>none
 | .ret=>match u6 P fn p.2.fr p.2.gu p.2.h p.2.n with
   |some r=>.ret r
   |none=>none
 |_=>none
def J8(P:Program)(cs:eX)(H:List (Nat×oT))(F:Nat)(f:FuncId)(args:ag)(h:Tr O)(n:Nat):M (V×Tr O×Nat):=
 match P.funcs[f]? with
 |some fn=>match fn.body with
  |some code=>match Nat.ble args.length fn.ntmps&&Nat.blt fn.ntmps fI with
   |true=>(jU P cs H F code (cR args h n)).then (ac3 P fn)
   |false=>none
  |none=>none
 |none=>none
theorem Gd{P:Program}{cs:eX}{cf:fJ}(oQ:oU cs cf)(H:List (Nat×oT))(F:Nat)(f:FuncId)(args:ag)(h:Tr O)(n:Nat):fg (J8 P cs H F f args h n) (pK (enter P cf F f args h n)):=by
 unfold J8 enter;split
 . rename_i fn hf;rw[hf];simp only;split
   . rename_i code hb;rw[hb];simp only;split
     . rename_i hq;simp only[aC]at hq;have hq':args.length<=fn.ntmps/\fn.ntmps<fI:=⟨au hq.1,au hq.2⟩;rw[aG hq'];refine qw (fg.then (oD P cs cf H oQ F code (cR args h n)) (g:=fun p=>match p.1 with
        | .normal=>pK (nB P cf F fn p.2.fr p.2.gu .ret p.2.h p.2.n)
        | .ret=>pK (nB P cf F fn p.2.fr p.2.gu .ret p.2.h p.2.n)
        |_=>none) (fun p=>?_)) ?_
       . obtain⟨x,s⟩:=p;unfold ac3;cases x with
         |normal=>
          simp only;split
          . rename_i r hr;refine(fg.ret r).of_eq ?_;rw[vU hr];rfl
          . exact .none _
         |ret=>
          simp only;split
          . rename_i r hr;refine(fg.ret r).of_eq ?_;rw[vU hr];rfl
          . exact .none _
         |_=>exact .none _
       . intro a ha;change ((iZ P cf F code { fr:=lH args 0 .nil,h:=h,n:=n,gu:=[] }).bind _)=some a at ha;cases hx:iZ P cf F code { fr:=lH args 0 .nil,h:=h,n:=n,gu:=[] }with
         |none=>rw[hx]at ha;cases ha
         |some p=>
          rw[hx]at ha;obtain⟨x,s⟩:=p;cases x<;>first|exact ha|cases ha
     . exact .none _
   . exact .none _
 . exact .none _
def J9(P:Program)(cs:eX)(H:List (Nat×oT))(F m:Nat)(args:ag)(h:Tr O)(n:Nat):M (V×Tr O×Nat):=
 match h.get m with
 |some (.loop true none fr ps assign body)=>match(Nat.blt m fI&&Nat.beq ps.length args.length)&&(jM assign&&jM body)with
  |true=>match wX (Jx ps args) fr with
   |some zB=>(jU P cs H F assign { fr:=zB,h:=h.set m none,n:=n,gu:=[] }).then fun p=>match p.1 with
    | .normal=>(jU P cs H F body p.2).then fun q=>match q.1 with
      | .normal=>.ret (.bool true,q.2.h.set m (some (.loop true none fr ps assign body)),q.2.n)
      | .ret=>.ret (.bool false,q.2.h.set m (some (.loop false (some .ret) fr ps assign body)),q.2.n)
      | .exit id=>.ret (.bool false,q.2.h.set m (some (.loop false (some (.exit id)) fr ps assign body)),q.2.n)
      |_=>none
    |_=>none
   |none=>none
  |false=>none
 |_=>none
theorem Ge{P:Program}{cs:eX}{cf:fJ}(oQ:oU cs cf)(H:List (Nat×oT))(F m:Nat)(args:ag)(h:Tr O)(n:Nat):fg (J9 P cs H F m args h n) (pK (wY P cf F m args h n)):=by
 unfold J9 wY;split
 . rename_i fr ps assign body hg;rw[hg];simp only;split
   . rename_i hq;simp only[aC]at hq;have hq':m<fI/\ps.length=args.length/\jM assign=true/\jM body=true:=⟨au hq.1.1,aD hq.1.2,hq.2.1,hq.2.2⟩;rw[aG hq'];split
     . rename_i zB rj;rw[rj];simp only;refine qw (fg.then (oD P cs cf H oQ F assign _) (g:=fun p=>match p.1 with
        | .normal=>(iZ P cf F body p.2).bind fun q=>match q.1 with
          | .normal=>some (.bool true,q.2.h.set m (some (.loop true none fr ps assign body)),q.2.n)
          | .ret=>some (.bool false,q.2.h.set m (some (.loop false (some .ret) fr ps assign body)),q.2.n)
          | .exit id=>some (.bool false,q.2.h.set m (some (.loop false (some (.exit id)) fr ps assign body)),q.2.n)
          |_=>none
        |_=>none) (fun p=>?_)) ?_
       . obtain⟨x,s⟩:=p;cases x with
         |normal=>
          refine fg.then (oD P cs cf H oQ F body s) (fun q=>?_);obtain⟨y,s2⟩:=q;cases y<;>first|exact .ret _|exact .none _
         |_=>exact .none _
       . intro a ha;cases hx:iZ P cf F assign { fr:=zB,h:=h.set m none,n:=n,gu:=[] }with
         |none=>rw[hx]at ha;cases ha
         |some p=>
          rw[hx]at ha;obtain⟨x,s⟩:=p;simp only[Option.bind_some]at ha;cases x with
          |normal=>
           simp only at ha ⊢;cases hy:iZ P cf F body s with
           |none=>rw[hy]at ha;cases ha
           |some q=>
            rw[hy]at ha;obtain⟨y,s2⟩:=q;cases y<;>first|exact ha|cases ha
          |_=>cases ha
     . exact .none _
   . exact .none _
 . exact .none _
def gC(P:Program)(S:jJ)(HH:FuncId->List (Nat×oT))(F:Nat):Nat->eX
 |0=>fun _ _ _ _=>none
 |k+1=>fun f args h n=>match S f args h n with
  |some (A,r)=>some [(⟨[],[],A⟩,r)]
  |none=>match Nat.blt f P.funcs.size with
   |true=>J8 P (gC P S HH F k) (HH f) F f args h n
   |false=>J9 P (gC P S HH F k) (HH f) F (f-P.funcs.size) args h n
open Classical in
noncomputable def CD(P:Program)(S:jJ)(F:Nat):Nat->fJ
 |0=>fun _ _ _ _=>none
 |k+1=>fun f args h n=>match S f args h n with
  |some (A,r)=>if ∀a∈A,a then some (.ret r.1,r.2.1,r.2.2)else none
  |none=>if f<P.funcs.size then enter P (CD P S F k) F f args h n else wY P (CD P S F k) F (f-P.funcs.size) args h n
theorem u7(P:Program)(S:jJ)(HH:FuncId->List (Nat×oT))(F:Nat):∀k,oU (gC P S HH F k) (CD P S F k)
 |0=>fun _ _ _ _=>.none _
 |k+1=>by
  intro f args h n;simp only[gC,CD];cases hS:S f args h n with
  |some q=>
   obtain⟨A,v,h',n'⟩:=q;intro l e;obtain rfl:=ek e;refine⟨⟨_,aq.2 rfl,fun c hc=>by simp at hc⟩,fun e he _ hg=>?_⟩;simp only[aq]at he;subst he;simp only;rw[aG hg.2];rfl
  |none=>
   simp only;by_cases hf:f<P.funcs.size
   . have hb:Nat.blt f P.funcs.size=true:=Nat.ble_eq_true_of_le hf;rw[hb,aG hf];exact Gd (u7 P S HH F k) (HH f) F f args h n
   . have hb:Nat.blt f P.funcs.size=false:=by
      cases hq:Nat.blt f P.funcs.size with
      |false=>rfl
      |true=>exact absurd (au hq) hf
     rw[hb,aI hf];exact Ge (u7 P S HH F k) (HH f) F _ args h n
theorem Ia{P:Program}{S:jJ}{F:Nat}(hm:P.follows .mixedOrders=true)(xp:lj P=true)(hS:fU P S):∀k,jc P (CD P S F k)
 |0=>fun _ _ _ _ _ _ _ e=>by cases e
 |k+1=>by
  intro f args h n tQ h' n' e E w c7 ra g hd;simp only[CD]at e;split at e
  . rename_i A r hs;obtain⟨v,h1,n1⟩:=r;split at e
    . rename_i hA;simp only[an,aB]at e;obtain⟨rfl,rfl,rfl⟩:=e;obtain⟨fE,Cj⟩:=hS f args h n A v h1 n1 hs;exact⟨fun uJ=>Cj hA E w c7 ra g hd uJ,fun m l s hfm _=>absurd fE (by rw[hfm];exact Nat.not_lt.2 (Nat.le_add_right _ _))⟩
    . cases e
  . exact TN (F:=F) (Ia hm xp hS k) hm xp f args h n tQ h' n' e E w c7 ra g hd
structure CX(P:Program) where
 cs:eX
 cf:fJ
 snd:oU cs cf
 ok:jc P cf
noncomputable def CX.of{P:Program}(hm:P.follows .mixedOrders=true)(xp:lj P=true){S:jJ}(hS:fU P S)(HH:FuncId->List (Nat×oT))(F k:Nat):CX P:=
 ⟨gC P S HH F k,CD P S F k,u7 P S HH F k,Ia hm xp hS k⟩
def TG(P:Program)(n0 N:Nat)(c:Code)(s:St)(Q:Exit->St->Prop):Prop:=
 ∀(E:Env) (a:Act) (w:World) (K:Exit->Act->World->Prop),jS E N s a w->n0<=s.n->
  (∀y s' E' a' w',Q y s'->lp n0 E s.h w E' s'.h w'->n0<=s'.n->jS E' N s' a' w'->K y a' w')->c.wp P K a w
section
variable{P:Program}{cf:fJ}{F n0 N:Nat}{c:Code}{s s':St}{Q Q1:Exit->St->Prop}
theorem fb(h:TG P n0 N c s Q1)(hq:∀y s',Q1 y s'->Q y s'):TG P n0 N c s Q:=fun E a w K r hn k=>h E a w K r hn fun y s' E' a' w' q=>k y s' E' a' w' (hq y s' q)
theorem LP(oz:jc P cf)(hm:P.follows .mixedOrders=true){x:X}{y:Exit}(hc:eS N c=true)(e:iZ P cf F c s=some (x,s'))(hx:x.plain=some y)(hq:Q y s'):TG P n0 N c s Q:=by
 intro E a w K r hn k;refine wpIn_wide (n:=0) |>.1 ?_;refine mD (uK:=none) oz hm c s x s' (.inl rfl) hc e E a w K r fun E' a' w' x' u fF o8 r' sG=>?_;have:x'=y:=by
  cases x<;>cases x'<;>simp only[Nn,X.plain,an,reduceCtorEq]at sG hx<;>first|exact hx|(subst sG;exact hx)
 subst this;exact k _ s' E' a' w' hq (.of u fF hn) (bU hn o8) r'
theorem c6{live:List Nat}{s2:St}(e:eU n0 live s=some s2)(h:TG P n0 N c s2 Q):TG P n0 N c s Q:=by
 intro E a w K r hn k;obtain⟨_,w8,E2,r2,u2⟩:=qT e r;exact h E2 a w K r2 w8 fun y s' E' a' w' q u o8 r'=>k y s' E' a' w' q (u2.trans u) o8 r'
theorem PZ{c1 c2:Code}(h:TG P n0 N c1 s (andThen (fun s'=>TG P n0 N c2 s' Q) Q)):TG P n0 N (.seq c1 c2) s Q:=by
 intro E a w K r hn k;refine wp_seq (h E a w _ r hn fun y s' E' a' w' q u o8 r'=>?_);cases y<;>first|exact q E' a' w' K r' o8 (fun y2 s2 E2 a2 w2 q2 u2 w8 r2=>k y2 s2 E2 a2 w2 q2 (u.trans u2) w8 r2)|exact k _ s' E' a' w' q u o8 r'
theorem cV(hs:LL c=true)(h:TG P n0 N (dO c) s (andThen (fun s'=>TG P n0 N (dY c) s' Q) Q)):TG P n0 N c s Q:=by
 cases c<;>simp only[LL,aO]at hs;exact PZ h
theorem Bt{t:Bool}(hc:PO c (fun _=>true)=true)(ho:iG s.fr (WS c)=some (.bool t))(h1:t=true->TG P n0 N (LM c) s Q)(h2:t=false->TG P n0 N (WT c) s Q):TG P n0 N c s Q:=by
 cases c<;>simp only[PO,aO]at hc;intro E a w K r hn k;cases t
 . exact wp_cond_false (oB r.good.jf r.fr ho) (h2 rfl E a w K r hn k)
 . exact wp_cond_true (oB r.good.jf r.fr ho) (h1 rfl E a w K r hn k)
theorem fh{i:Nat}(hc:Bq c i=true)(h:TG P n0 N (dr c) s (mK i Q)):TG P n0 N c s Q:=by
 cases c<;>simp only[Bq,aO]at hc;rename_i j b;have:=aD hc;subst this;intro E a w K r hn k;refine wp_block (h E a w _ r hn fun y s' E' a' w' q u o8 r'=>?_);cases y<;>first|exact k _ s' E' a' w' q u o8 r'|skip
 simp only[Exit.inBlock,mK]at q ⊢;split
 . rename_i he;rw[aG he]at q;exact k _ s' E' a' w' q u o8 r'
 . rename_i he;rw[aI he]at q;exact k _ s' E' a' w' q u o8 r'
def TGR(P:Program)(n0 N:Nat)(c:Code)(Q:Exit->St->Prop):Nat->St->Prop
 |0,_=>False
 |n+1,s=>TG P n0 N c s (andThen (fun s'=>TGR P n0 N c Q n s') Q)
theorem TU(n:Nat)(hc:Cx c=true)(h:TGR P n0 N (dr c) Q n s):TG P n0 N c s Q:=by
 cases c<;>simp only[Cx,aO]at hc;rename_i b;intro E0 a w K r hn k;refine wp_loop_rounds n ?_;have key:∀(n:Nat) (s1:St) (E:Env) (a:Act) (w1:World),TGR P n0 N b Q n s1->jS E N s1 a w1->n0<=s1.n->lp n0 E0 s.h w E s1.h w1->Code.rounds P b K n a w1:=by
  intro n
  induction n with
  |zero=>intro s1 E a w1 h;exact h.elim
  |succ n ih=>
   intro s1 E a w1 h r hn u;rw[rounds_succ];refine h E a w1 _ r hn fun y s' E' a' w' q u' o8 r'=>?_;cases y<;>first|exact ih s' E' a' w' q r' o8 (u.trans u')|exact k _ s' E' a' w' q (u.trans u') o8 r'
 exact key n s E0 a w h r hn (.refl r.good)
theorem gh(I:Nat->St->Prop)(hl:Cx c=true)(h:∀k s,I k s->TG P n0 N (dr c) s (andThen (fun s'=>∃k',k'<k/\I k' s') Q))(k:Nat)(h0:I k s):TG P n0 N c s Q:=by
 refine TU (k+1) hl ?_;have key:∀(k:Nat) (n:Nat) (s:St),k<n->I k s->TGR P n0 N (dr c) Q n s:=by
  intro k
  induction k using Nat.strongRecOn with
  |_ k ih=>
   intro n s hn hi;cases n with
   |zero=>omega
   |succ n=>
    simp only[TGR];refine fb (h k s hi) fun y s' hq=>?_;cases y with
    |normal=>
     obtain⟨k',hk,kz⟩:=hq;exact ih k' hk n s' be kz
    |_=>exact hq
 exact key k (k+1) s be h0
end
section
variable{P:Program}{X':CX P}{H:List (Nat×oT)}{F n0 N:Nat}{c:Code}{s:St}{Q:Exit->St->Prop}
inductive oV where
 |to (y:Exit) (s:St)
 |ret (v:V) (h:Tr O) (n:Nat)
 |bad
def Ka(P:Program)(n0:Nat)(fn:Func)(s:St):Option (V×Tr O×Nat):=match u6 P fn s.fr s.gu s.h s.n with
 |some (v,h,n)=>match eU n0 [0] { fr:=Tr.nil.set 0 (some v),h:=h,n:=n,gu:=[] }with
  |some s2=>match s2.fr.get 0 with
   |some v2=>some (v2,s2.h,s2.n)
   |none=>none
  |none=>none
 |none=>none
def u9(P:Program)(n0:Nat)(fn:Func)(live:List Nat)(p:X×St):oV:=match p.1 with
 | .normal=>match eU n0 live p.2 with
   |some s=>.to .normal s
   |none=>.bad
 | .exit i=>match eU n0 live p.2 with
   |some s=>.to (.exit i) s
   |none=>.bad
 | .ret=>match Ka P n0 fn p.2 with
   |some (v,h,n)=>.ret v h n
   |none=>.bad
 | .panic _=>.bad
def fB(P:Program)(n0:Nat)(fn:Func)(R:V->Tr O->Nat->Prop)(y:Exit)(s':St):Prop:=(y= .normal\/y= .ret)/\∃v h n,Ka P n0 fn s'=some (v,h,n)/\R v h n
def oV.post(P:Program)(n0:Nat)(fn:Func)(live:List Nat)(R:V->Tr O->Nat->Prop)(Q:Exit->St->Prop):oV->Prop
 | .to y s=>∀s',eU n0 live s'=some s->Q y s'
 | .ret v h n=>R v h n/\∀s',fB P n0 fn R .ret s'->Q .ret s'
 | .bad=>False
theorem Kb(hm:P.follows .mixedOrders=true){l:List (o9×X×St)}(hc:eS N c=true)(e:jU P X'.cs H F c s=some l)(h:∀p∈l,p.1.ok->p.1.good/\∃y,p.2.1.plain=some y/\Q y p.2.2):TG P n0 N c s Q:=by
 obtain⟨⟨p,hp,ho⟩,h2⟩:=oD P X'.cs X'.cf H X'.snd F c s l e;obtain⟨hg,y,hy,hq⟩:=h p hp ho;exact LP (F:=F) X'.ok hm hc (h2 p hp ho hg) hy hq
def Gf(P:Program)(cs:eX)(H:List (Nat×oT))(F n0:Nat)(fn:Func)(live:List Nat)(c:Code)(s:St):List (List (Bool×Bool)×ah×oV):=uY (u9 P n0 fn live) (yK (jU P cs H F c s))
def yO(P:Program)(cs:eX)(H:List (Nat×oT))(F:Nat)(c:Code)(s:St):Bool:=(jU P cs H F c s).isSome
def xx(P:Program)(cs:eX)(H:List (Nat×oT))(F:Nat)(c:Code)(s:St):ag:=qx (yK (jU P cs H F c s))
def zY(P:Program)(cs:eX)(H:List (Nat×oT))(F:Nat)(c:Code)(s:St):ag:=uZ (yK (jU P cs H F c s))
theorem P0(X':CX P)(hm:P.follows .mixedOrders=true)(H:List (Nat×oT))(F:Nat)(fn:Func)(live:List Nat)(R:V->Tr O->Nat->Prop)(G:List (List (Bool×Bool)×ah×oV))(hc:eS N c=true)
  (e1:yO P X'.cs H F c s=true) (e2:xx P X'.cs H F c s=zY P X'.cs H F c s) (e3:Gf P X'.cs H F n0 fn live c s=G)
  (h:∀g∈G,(∀b∈g.1,b.1=b.2)->(∀a∈g.2.1,a)/\g.2.2.post P n0 fn live R Q):TG P n0 N c s Q:=by
 obtain⟨l,hl⟩:=b9.1 e1;unfold xx zY at e2;unfold Gf at e3;rw[hl]at e2 e3;simp only[yK]at e2 e3;refine Kb (X':=X') hm hc hl fun p hp ho=>?_;have hg:=h (p.1.conds,p.1.TR,u9 P n0 fn live p.2) (e3▸rV hp) ho;refine⟨⟨yL l e2 p hp,hg.1⟩,?_⟩;obtain⟨pp,x,s'⟩:=p;have iD:=hg.2;simp only[u9]at iD;cases x with
 |normal=>
  simp only at iD;split at iD
  . rename_i s2 jd;exact⟨.normal,rfl,iD s' jd⟩
  . exact iD.elim
 |exit i=>
  simp only at iD;split at iD
  . rename_i s2 jd;exact⟨.exit i,rfl,iD s' jd⟩
  . exact iD.elim
 |ret=>
  simp only at iD;split at iD
  . rename_i v h n hr;exact⟨.ret,rfl,iD.2 s' ⟨.inr rfl,v,h,n,hr,iD.1⟩⟩
  . exact iD.elim
 |panic _=>exact iD.elim
theorem NF(X':CX P)(hm:P.follows .mixedOrders=true)(H:List (Nat×oT))(F:Nat)(fn:Func)(live:List Nat)(R:V->Tr O->Nat->Prop)(G:List (List (Bool×Bool)×ah×oV))(hs:LL c=true)(hc:eS N (dO c)=true)
  (e1:yO P X'.cs H F (dO c) s=true) (e2:xx P X'.cs H F (dO c) s=zY P X'.cs H F (dO c) s) (e3:Gf P X'.cs H F n0 fn live (dO c) s=G)
  (h:∀g∈G,(∀b∈g.1,b.1=b.2)->(∀a∈g.2.1,a)/\g.2.2.post P n0 fn live R (andThen (fun s'=>TG P n0 N (dY c) s' Q) Q)):TG P n0 N c s Q:=
 cV hs (P0 X' hm H F fn live R G hc e1 e2 e3 h)
theorem P4{cf:fJ}(oz:jc P cf)(hm:P.follows .mixedOrders=true):∀(k:Nat) {c:Code} {s s1:St} {Q:Exit->St->Prop},eS N c=true->iZ P cf F (eR k c) s=some (.normal,s1)->TG P n0 N (dh k c) s1 Q->TG P n0 N c s Q:=by
 intro k;have Ib:∀{c:Code} {s s1:St} {Q:Exit->St->Prop},iZ P cf F .skip s=some (.normal,s1)->TG P n0 N c s1 Q->TG P n0 N c s Q:=by
  intro c s s1 Q e h;simp only[iZ,an,aB,true_and]at e;subst e;exact h
 induction k with
 |zero=>intro c s s1 Q _ e h;cases c<;>exact Ib e h
 |succ k ih=>
  intro c s s1 Q iA e h;cases c<;>first|exact Ib e h|skip
  rename_i a b;simp only[eS,aC]at iA;simp only[eR,iZ]at e;split at e
  . rename_i s' h1;exact PZ (LP (F:=F) oz hm iA.1 h1 rfl (ih iA.2 e h))
  . rename_i hr
    first|exact(hr s1 rfl).elim|exact(hr s1 e).elim
theorem TV(k:Nat)(X':CX P)(hm:P.follows .mixedOrders=true)(H:List (Nat×oT))(F:Nat)(fn:Func)(live:List Nat)(G:List (List (Bool×Bool)×ah×oV))(hc:eS N c=true)
  (e1:yO P X'.cs H F (eR k c) s=true) (e2:xx P X'.cs H F (eR k c) s=zY P X'.cs H F (eR k c) s) (e3:Gf P X'.cs H F n0 fn live (eR k c) s=G)
  (h:∀g∈G,(∀b∈g.1,b.1=b.2)->(∀a∈g.2.1,a)/\∃s1,g.2.2= .to .normal s1/\TG P n0 N (dh k c) s1 Q):TG P n0 N c s Q:=by
 obtain⟨l,hl⟩:=b9.1 e1;unfold xx zY at e2;unfold Gf at e3;rw[hl]at e2 e3;simp only[yK]at e2 e3;obtain⟨⟨p,hp,ho⟩,h2⟩:=oD P X'.cs X'.cf H X'.snd F (eR k c) s l hl;obtain⟨hA,s1,fP,hT⟩:=h (p.1.conds,p.1.TR,u9 P n0 fn live p.2) (e3▸rV hp) ho;have fH:=h2 p hp ho ⟨yL l e2 p hp,hA⟩;obtain⟨pp,x,s'⟩:=p;simp only[u9]at fP;cases x with
 |normal=>
  simp only at fP;split at fP
  . rename_i s2 jd;cases fP;exact P4 (F:=F) X'.ok hm k hc fH (c6 jd hT)
  . cases fP
 |exit i=>
  simp only at fP;split at fP<;>cases fP
 |ret=>
  simp only at fP;split at fP<;>cases fP
 |panic _=>cases fP
end
theorem NG{P:Program}{n0:Nat}{fn:Func}{s:St}{v:V}{h:Tr O}{n:Nat}(e:Ka P n0 fn s=some (v,h,n)):∃v1 h1 n1 s2,u6 P fn s.fr s.gu s.h s.n=some (v1,h1,n1)/\eU n0 [0] { fr:=Tr.nil.set 0 (some v1),h:=h1,n:=n1,gu:=[] }=some s2/\s2.fr.get 0=some v/\s2.h=h/\s2.n=n:=by
 unfold Ka at e;split at e
 . rename_i v1 h1 n1 e1;split at e
   . rename_i s2 e2;split at e
     . rename_i v2 e3;simp only[an,aB]at e;obtain⟨rfl,rfl,rfl⟩:=e;exact⟨v1,h1,n1,s2,e1,e2,e3,rfl,rfl⟩
     . cases e
   . cases e
 . cases e
theorem oF{P:Program}(hm:P.follows .mixedOrders=true)(xp:lj P=true){f:FuncId}{fn:Func}{code:Code}(hf:P.funcs[f]? =some fn)(hb:fn.body=some code){args:ag}{h:Tr O}{n0:Nat}
  (l:(Nat.ble args.length fn.ntmps&&Nat.blt fn.ntmps fI)=true) (R:V->Tr O->Nat->Prop) (hT:TG P n0 fn.ntmps code (cR args h n0) (fB P n0 fn R))
  {E:Env} {w:World} {c7:List Value} (ra:dG E args c7) (g:Good E h w) (hd:qH E n0):
  Calls P f c7.toArray w fun e w'=>∃v h' n',R v h' n'/\jR E h n0 w (.ret v) h' n' e w':=by
 simp only[aC]at l;obtain⟨xV,lP⟩:=td (n:=fn.ntmps) ra (au l.1) (au l.2);refine callsIn_wide.1 (callsIn_of_wp_marks (n:=0) hf hb trivial (wpIn_wide.2 ?_));refine hT E _ w _ ⟨g,hd,xV,lP,rfl⟩ (aA _) fun y s' E' a' w' ⟨hy,v,h',n',hr,hR⟩ u o8 r'=>?_;obtain⟨v1,h1,n1,s2,k1,k2,k3,k4,k5⟩:=NG hr;have key:LeavesInM Fence.wide 0 P fn a'.tmps (fun e w'=>∃v h' n',R v h' n'/\jR E h n0 w (.ret v) h' n' e w') a'.defers .returning w':=by
  refine qQ (cf:=fun _ _ _ _=>none) (F:=0) (fun _ _ _ _ _ _ _ e=>by cases e) hm xp s'.gu .ret s'.h s'.n _ h1 n1 (vU k1) E' w' a'.defers .returning _ r'.good r'.nW r'.fr r'.gu trivial fun E2 w2 en u2 qn FY w8 ho=>?_;have u3:=u.trans (lp.of u2 qn o8);cases en with
  |returned v'=>
   have ho:dz E2 v1 v':=ho;have sr:jS E2 1 { fr:=Tr.nil.set 0 (some v1),h:=h1,n:=n1,gu:=[] } { tmps:=#[v'],defers:=[] } w2:=by
    refine⟨u3.good,FY,fun t v hv=>?_,rfl,rfl⟩;rw[Tr.eO _ _ _ dN]at hv;split at hv
    . rename_i q;subst q;cases hv;exact⟨v',rfl,ho⟩
    . simp[Tr.get]at hv
   obtain⟨_,J0,E3,r3,u4⟩:=qT k2 sr;have u5:=(u3.trans u4).qi hd;obtain⟨v'',q1,q2⟩:=r3.fr 0 v k3;simp only[List.getElem?_toArray,bF,an]at q1;subst q1;refine⟨v,h',n',hR,E3,k4▸u5,(u3.trans u4).low,k5▸r3.nW,by rw[<- k5];exact J0,q2⟩
  |_=>exact ho.elim
 rcases hy with rfl|rfl<;>exact key
theorem yP{P:Program}(hm:P.follows .mixedOrders=true)(xp:lj P=true){f:FuncId}{fn:Func}{code:Code}(hf:P.funcs[f]? =some fn)(hb:fn.body=some code){args:ag}{h:Tr O}{n0:Nat}
  (l:(Nat.ble args.length fn.ntmps&&Nat.blt fn.ntmps fI)=true) (v:V) (h':Tr O) (n':Nat) (hT:TG P n0 fn.ntmps code (cR args h n0) (fB P n0 fn fun a b c=>a=v/\b=h'/\c=n'))
  {E:Env} {w:World} {c7:List Value} (ra:dG E args c7) (g:Good E h w) (hd:qH E n0):
  Calls P f c7.toArray w (jR E h n0 w (.ret v) h' n'):=
 (oF hm xp hf hb l _ hT ra g hd).mono fun e w' ⟨_,_,_,⟨e1,e2,e3⟩,k⟩=>by subst e1 e2 e3;exact k
def AO:List (Nat×V)->Tr V:=go .nil
where go (t:Tr V):List (Nat×V)->Tr V
 | []=>t
 |(k,v)::r=>go (t.set k (some v)) r
def hL:af->Tr O:=go .nil
where go (t:Tr O):af->Tr O
 | []=>t
 |(k,v)::r=>go (t.set k (some v)) r
def eG(l:List (Nat×V))(h:Tr O)(n:Nat):St:={ fr:=AO l,h:=h,n:=n,gu:=[] }
def P5(P:Program)(cs:eX)(H:List (Nat×oT))(F n0:Nat)(fn:Func)(live:List Nat)(c:Code)(s:St):Option (ag×ag×List (List (Bool×Bool)×ah×oV)):=
 match jU P cs H F c s with
 |some l=>some (qx l,uZ l,uY (u9 P n0 fn live) l)
 |none=>none
abbrev cP(P:Program)(cs:eX)(H:List (Nat×oT))(F n0:Nat)(fn:Func)(live:List Nat)(c:Code)(s:St)(L:ag)(G:List (List (Bool×Bool)×ah×oV)):Prop:=P5 P cs H F n0 fn live c s=some (L,L,G)
theorem cP.parts{P:Program}{cs:eX}{H:List (Nat×oT)}{F n0:Nat}{fn:Func}{live:List Nat}{c:Code}{s:St}{L:ag}{G:List (List (Bool×Bool)×ah×oV)}(h:cP P cs H F n0 fn live c s L G):
  yO P cs H F c s=true/\xx P cs H F c s=zY P cs H F c s/\Gf P cs H F n0 fn live c s=G:=by
 have h:P5 P cs H F n0 fn live c s=some (L,L,G):=h;unfold P5 at h;unfold yO xx zY Gf;split at h
 . rename_i l hl;simp only[an,aB]at h;rw[hl];exact⟨rfl,h.1.trans h.2.1.symm,h.2.2⟩
 . cases h
section
variable{P:Program}{n0 N:Nat}{c:Code}{s:St}{Q:Exit->St->Prop}{H:List (Nat×oT)}{F:Nat}{fn:Func}{live:List Nat}{L:ag}{G:List (List (Bool×Bool)×ah×oV)}
section
variable(k:Nat)(X':CX P)
theorem gT(hm:P.follows .mixedOrders=true)(R:V->Tr O->Nat->Prop)(hc:eS N c=true)(hr:cP P X'.cs H F n0 fn live c s L G)
  (h:∀g∈G,(∀b∈g.1,b.1=b.2)->(∀a∈g.2.1,a)/\g.2.2.post P n0 fn live R Q):TG P n0 N c s Q:=
 P0 X' hm H F fn live R G hc hr.parts.1 hr.parts.2.1 hr.parts.2.2 h
theorem yQ(hm:P.follows .mixedOrders=true)(R:V->Tr O->Nat->Prop)(hs:LL c=true)(hc:eS N (dO c)=true)(hr:cP P X'.cs H F n0 fn live (dO c) s L G)
  (h:∀g∈G,(∀b∈g.1,b.1=b.2)->(∀a∈g.2.1,a)/\g.2.2.post P n0 fn live R (andThen (fun s'=>TG P n0 N (dY c) s' Q) Q)):TG P n0 N c s Q:=
 NF X' hm H F fn live R G hs hc hr.parts.1 hr.parts.2.1 hr.parts.2.2 h
theorem YK(hm:P.follows .mixedOrders=true)(hc:eS N c=true)(hr:cP P X'.cs H F n0 fn live (eR k c) s L G)
  (h:∀g∈G,(∀b∈g.1,b.1=b.2)->(∀a∈g.2.1,a)/\∃s1,g.2.2= .to .normal s1/\TG P n0 N (dh k c) s1 Q):TG P n0 N c s Q:=
 TV k X' hm H F fn live G hc hr.parts.1 hr.parts.2.1 hr.parts.2.2 h
theorem nh(hm:P.follows .mixedOrders=true){A:ah}{s1:St}(hc:eS N c=true)(hr:cP P X'.cs H F n0 fn live (eR k c) s L [([],A,.to .normal s1)])
  (hA:∀a∈A,a) (h:TG P n0 N (dh k c) s1 Q):TG P n0 N c s Q:=
 YK k X' hm hc hr fun g hg _=>by
  rw[aq]at hg;subst hg;exact⟨hA,s1,rfl,h⟩
theorem ia(hm:P.follows .mixedOrders=true)(R:V->Tr O->Nat->Prop)(hc:eS N c=true)(hr:cP P X'.cs H F n0 fn live c s L G)
  (h:∀g∈G,(∀b∈g.1,b.1=b.2)->(∀a∈g.2.1,a)/\∃v h n,g.2.2= .ret v h n/\R v h n):TG P n0 N c s (fB P n0 fn R):=
 gT X' hm R hc hr fun g hg hc=>by
  obtain⟨h1,v,h',n',e,hR⟩:=h g hg hc;refine⟨h1,?_⟩;rw[e];exact⟨hR,fun s' q=>q⟩
end
end
abbrev nZ:V->Tr O->Nat->Prop:=fun _ _ _=>True
section
variable{P:Program}{n0 N:Nat}{c:Code}{s:St}{Q:Exit->St->Prop}{F:Nat}{fn:Func}
def oV.loop(P:Program)(n0:Nat)(fn:Func)(live:List Nat)(R:V->Tr O->Nat->Prop)(I:Nat->St->Prop)(k:Nat)(Q:Exit->St->Prop):oV->Prop
 | .to .normal s=>∃k',k'<k/\I k' s
 | .to y s=>∀s',eU n0 live s'=some s->Q y s'
 | .ret v h n=>R v h n/\∀s',fB P n0 fn R .ret s'->Q .ret s'
 | .bad=>False
end
theorem Ic{E:Env}{h:Tr O}{n:Nat}{w:World}{v:V}{h':Tr O}{n':Nat}{e:Ending}{w':World}(AP:∀m,¬ew h m)(c:jR E h n w (.ret v) h' n' e w'):(∃E,s8 E (.ret v) e)/\Below w.heap.size w w':=by
 obtain⟨E',u,_,_,_,ho⟩:=c;exact⟨⟨E',ho⟩,u.os,u.tape,u.output,u.size,fun k hk=>u.keep k hk fun m s hm=>absurd hm (AP m)⟩
theorem xy{P:Program}(hm:P.follows .mixedOrders=true)(xp:lj P=true){f:FuncId}{fn:Func}{code:Code}(hf:P.funcs[f]? =some fn)(hb:fn.body=some code){args:ag}{h:Tr O}{n0:Nat}
  (l:(Nat.ble args.length fn.ntmps&&Nat.blt fn.ntmps fI)=true) {v:V} (hT:TG P n0 fn.ntmps code (cR args h n0) (fB P n0 fn fun a _ _=>a=v))
  {E:Env} {w:World} {c7:List Value} (ra:dG E args c7) (g:Good E h w) (hd:qH E n0) (AP:∀m,¬ew h m):
  Calls P f c7.toArray w fun e w'=>(∃E,s8 E (.ret v) e)/\Below w.heap.size w w':=
 (oF hm xp hf hb l _ hT ra g hd).mono fun e w' ⟨v',h',n',e1,k⟩=>by subst e1;exact Ic AP k
theorem P6:∀m,¬ew (.nil:Tr O) m:=fun m k=>absurd rfl k.live
def jG(f:ag->Option (ah×V)):ag->Tr O->Nat->Option (ah×V×Tr O×Nat):=fun args h n=>match f args with
 |some (A,v)=>some (A,v,h,n)
 |none=>none
theorem jV{P:Program}{f:FuncId}{spec:ag->Option (ah×V)}(fE:f<P.funcs.size)(h:∀args A v,spec args=some (A,v)->V.wJ args=true/\v.free=true/\((∀a∈A,a)->
  ∀E w c7,WG w->dG E args c7->Calls P f c7.toArray w fun e w'=>(∃E,s8 E (.ret v) e)/\Below w.heap.size w w')):jC P f (jG spec):=by
 refine⟨fE,fun args h' n A v h2 n2 e hA E w c7 ra g hd hc=>?_⟩;unfold jG at e;split at e
 . rename_i A' v' hs;simp only[an,aB]at e;obtain⟨rfl,rfl,rfl,rfl⟩:=e;obtain⟨h1,h2,h3⟩:=h args _ _ hs;exact(h3 hA E w c7 g.wg ra).mono fun en w' ⟨ho,b⟩=>H6 g hd h2 ho b
 . cases e
theorem gM{P:Program}(hm:P.follows .mixedOrders=true)(xp:lj P=true){f:FuncId}{fn:Func}{code:Code}(hf:P.funcs[f]? =some fn)(hb:fn.body=some code){args:ag}
  (l:(Nat.ble args.length fn.ntmps&&Nat.blt fn.ntmps fI)=true) {v:V} (xV:V.wJ args=true) (hT:TG P gN fn.ntmps code (cR args .nil gN) (fB P gN fn fun a _ _=>a=v)):
  ∀E w c7,WG w->dG E args c7->Calls P f c7.toArray w fun e w'=>(∃E,s8 E (.ret v) e)/\Below w.heap.size w w':=
 fun _ w _ hw ra=>xy hm xp hf hb l hT (mJ _ _ xV ra) (acW hw) (aiD (aA _)) P6
def ED:O->O
 | .own k ks=>.ints k ks
 | .cells cs=>match cs with
   | .int k x::r=>match oO k (.int k x::r)with
     |some l=>.ints k l
     |none=>.cells (.int k x::r)
   |cs=>.cells cs
 |o=>o
def EE:Tr O->Tr O
 | .nil=>.nil
 | .node v l r=>.node (match v with|some o=>some (ED o)|none=>none) (EE l) (EE r)
theorem rX:∀(t:Tr O) (m:Nat),(EE t).get m=(t.get m).map ED
 | .nil,m=>rfl
 | .node v l r,m=>by
   simp only[EE,Tr.get];split
   . cases v<;>rfl
   . rename_i k;split
     . exact rX l _
     . exact rX r _
theorem NH{E:Env}{w:World}{b s:Nat}{o:O}(r:lO E w b s o):lO E w b s (ED o):=by
 have key:∀k ks,lO E w b s (.own k ks)->lO E w b s (.ints k ks):=fun k ks ⟨c,el,fz,h1,h2,_,h4⟩=>⟨c,el,fz,h1,h2,mG.1 h4⟩;unfold ED;split
 . exact key _ _ r
 . split
   . rename_i k x rest;split
     . rename_i l hl;have e:=pT hl;refine key _ _ ?_;rw[e]at r;exact r
     . exact r
   . exact r
 . exact r
theorem Ie{o:O}(h:(ED o).wr=true):o.wr=true:=by
 unfold ED at h;split at h
 . rfl
 . rfl
 . exact h
theorem NI{E:Env}{h:Tr O}{w:World}(g:Good E h w):Good E (EE h) w:=by
 refine⟨?_,?_,g.mO,g.jf,fun b c q=>⟨g.fz b c q,fun m s hm e=>?_⟩⟩
 case refine_3=>
  obtain⟨o,ho,hw⟩:=hm;rw[rX]at ho;cases h1:h.get m with
  |none=>rw[h1]at ho;cases ho
  |some o1=>
   rw[h1]at ho;simp only[bh,an]at ho;subst ho;exact(g.gI b c q).2 m s ⟨o1,h1,Ie hw⟩ e
 . intro m o hm;rw[rX]at hm;cases ho:h.get m with
   |none=>rw[ho]at hm;cases hm
   |some o'=>
    rw[ho]at hm;simp only[bh,an]at hm;subst hm;obtain⟨b,s,h1,h2⟩:=g.rel m o' ho;exact⟨b,s,h1,NH h2⟩
 . rintro m m' b s s' fL ⟨o,ho,hw⟩ sP e e';rw[rX]at ho sP;cases h1:h.get m with
   |none=>rw[h1]at ho;cases ho
   |some o1=>
    rw[h1]at ho;simp only[bh,an]at ho;subst ho;refine g.inj m m' b s s' fL ⟨o1,h1,Ie hw⟩ (fun q=>sP (by rw[q];rfl)) e e'
def LQ(spec:ag->Tr O->Option (ah×V)):ag->Tr O->Nat->Option (ah×V×Tr O×Nat):=fun args h n=>match spec args (EE h)with
 |some (A,v)=>some (A,v,h,n)
 |none=>none
theorem If{P:Program}{f:FuncId}{spec:ag->Tr O->Option (ah×V)}(hp:PV P f spec):jC P f (LQ spec):=by
 refine⟨hp.1,fun args h n A v h' n' e hA E w c7 ra g hd hc=>?_⟩;unfold LQ at e;split at e
 . rename_i A' v' hs;simp only[an,aB]at e;obtain⟨rfl,rfl,rfl,rfl⟩:=e;obtain⟨h2,h3⟩:=hp.2 args _ _ _ hs;exact(h3 hA E n w c7 ra (NI g) hd hc).mono fun en w' ⟨ho,b⟩=>H6 g hd h2 ho b
 . cases e
theorem CE{P:Program}(hm:P.follows .mixedOrders=true)(xp:lj P=true){f:FuncId}{fn:Func}{code:Code}(hf:P.funcs[f]? =some fn)(hb:fn.body=some code){args:ag}{h:Tr O}{n0:Nat}
  (l:(Nat.ble args.length fn.ntmps&&Nat.blt fn.ntmps fI)=true) {v:V} (hT:TG P n0 fn.ntmps code (cR args h n0) (fB P n0 fn fun a _ _=>a=v))
  {E:Env} {w:World} {c7:List Value} (g:Good E h w) (hd:qH E n0) (AP:∀m,¬ew h m) (ra:dG E args c7):
  Calls P f c7.toArray w fun e w'=>(∃E,s8 E (.ret v) e)/\Below w.heap.size w w':=xy hm xp hf hb l hT ra g hd AP
def P7(h:Tr O):List (Nat×IntKind)->Option (Tr O)
 | []=>some h
 |(m,k)::r=>match h.get m with
  |some (.cells cs)=>match oO k cs with
   |some ks=>match Nat.blt m fI with
    |true=>P7 (h.set m (some (.own k ks))) r
    |false=>none
   |none=>none
  |_=>none
theorem EF{E:Env}{w:World}:∀(l:List (Nat×IntKind)) (h h2:Tr O),P7 h l=some h2->Good E h w->Good E h2 w/\∀m,(h2.get m≠none↔h.get m≠none)/\(ew h2 m->ew h m)
 | [],h,h2,e,g=>by simp only[P7,an]at e;subst e;exact⟨g,fun m=>⟨Iff.rfl,id⟩⟩
 |(m,k)::r,h,h2,e,g=>by
  unfold P7 at e;split at e
  case h_2=>cases e
  rename_i cs hm;split at e
  case h_2=>cases e
  rename_i ks hk;split at e
  case h_2=>cases e
  rename_i ht;have ht:m<fI:=au ht;have oQ:=pT hk;have kD:∀j,(h.set m (some (.own k ks))).get j=if j=m then some (.own k ks)else h.get j:=fun j=>Tr.eO _ _ _ ht
  have FG:∀j,((h.set m (some (.own k ks))).get j≠none↔h.get j≠none)/\(ew (h.set m (some (.own k ks))) j->ew h j):=by
   intro j;rw[kD];by_cases q:j=m
   . subst q;rw[aG rfl,hm];exact⟨by simp,fun _=>⟨_,hm,rfl⟩⟩
   . rw[aI q];exact⟨Iff.rfl,fun z=>ox ht z q⟩
  have g1:Good E (h.set m (some (.own k ks))) w:=by
   refine⟨fun j o hj=>?_,fun j j' b s s' fL hj P9 e1 e2=>g.inj j j' b s s' fL ((FG j).2 hj) ((FG j').1.1 P9) e1 e2,g.mO,g.jf,fun b c q=>⟨g.fz b c q,fun m' s sP=>(g.gI b c q).2 m' s ((FG m').2 sP)⟩⟩;rw[kD]at hj;split at hj
   . rename_i q;subst q;obtain rfl:=ek hj;obtain⟨b,s,h1,h2⟩:=g.rel j _ hm;rw[oQ]at h2;exact⟨b,s,h1,h2⟩
   . exact g.rel j o hj
  obtain⟨g2,k2⟩:=EF r _ h2 e g1;exact⟨g2,fun j=>⟨(k2 j).1.trans (FG j).1,fun z=>(FG j).2 ((k2 j).2 z)⟩⟩
def Kc(l:List (Nat×IntKind))(s:St):Option St:=match P7 s.h l with
 |some h=>some { s with h:=h }
 |none=>none
theorem tw{P:Program}{n0 N:Nat}{c:Code}{s s2:St}{Q:Exit->St->Prop}(l:List (Nat×IntKind))(e:Kc l s=some s2)(h:TG P n0 N c s2 Q):TG P n0 N c s Q:=by
 unfold Kc at e;split at e
 case h_2=>cases e
 rename_i h2 hh;obtain rfl:=ek e;intro E a w K r hn k;obtain⟨g2,k2⟩:=EF (E:=E) (w:=w) l s.h h2 hh r.good;have u:lp n0 E s.h w E h2 w:=⟨fun _ _ _ _ e=>⟨e,rfl⟩,fun _ _=>rfl,fun _ _ q=>q,g2,aA _,rfl,rfl,rfl,fun _ _ _=>rfl,fun m b s1 hm e1 _=>⟨m,s1,(k2 m).1.1 hm,e1,(k2 m).2⟩,fun _ _ q=>.inl q⟩;exact h E a w K ⟨g2,r.nW,r.fr,r.size,r.gu⟩ hn fun y s' E' a' w' q u' o8 r'=>k y s' E' a' w' q (u.trans u') o8 r'
def Env.rows(E:Env)(ns:List (Option (Nat×Nat))):Env:=⟨fun j=>match ns.getD j none with
 |some (m,o)=>match E.ι m with
  |some (b,s)=>some (b,s+o)
  |none=>none
 |none=>none,E.β,E.φ⟩
def rHi:List (Option (IntKind×List Int))->Nat->Tr O->Tr O
 | [],_,t=>t
 |some (k,ks)::r,i,t=>rHi r (i+1) (t.set i (some (.ints k ks)))
 |none::r,i,t=>rHi r (i+1) t
def rH(rs:List (Option (IntKind×List Int))):Tr O:=rHi rs 0 .nil
theorem Gg:∀(rs:List (Option (IntKind×List Int))) (i:Nat) (t:Tr O) (m:Nat) (o:O),i+rs.length<fI->(rHi rs i t).get m=some o->t.get m=some o\/∃k ks,i<=m/\rs[m-i]? =some (some (k,ks))/\o= .ints k ks
 | [],i,t,m,o,_,h=>.inl h
 |some (k,ks)::r,i,t,m,o,hl,h=>by
  simp only[aS]at hl;rcases Gg r (i+1) _ m o be h with q|⟨k',Wy,h1,h2,h3⟩
  . rw[Tr.eO _ _ _ be]at q;split at q
    . rename_i z;subst z;obtain rfl:=ek q;exact .inr ⟨k,ks,aA _,by simp,rfl⟩
    . exact .inl q
  . refine .inr ⟨k',Wy,be,?_,h3⟩;rw[show m-i=(m-(i+1))+1 by omega,cu];exact h2
 |none::r,i,t,m,o,hl,h=>by
  simp only[aS]at hl;rcases Gg r (i+1) _ m o be h with q|⟨k',Wy,h1,h2,h3⟩
  . exact .inl q
  . refine .inr ⟨k',Wy,be,?_,h3⟩;rw[show m-i=(m-(i+1))+1 by omega,cu];exact h2
theorem Qa{rs:List (Option (IntKind×List Int))}{m:Nat}{o:O}(hl:rs.length<fI)(h:(rH rs).get m=some o):∃k ks,rs[m]? =some (some (k,ks))/\o= .ints k ks:=by
 rcases Gg rs 0 .nil m o be h with q|⟨k,ks,_,h2,h3⟩
 . simp[Tr.get]at q
 . exact⟨k,ks,by simpa using h2,h3⟩
theorem TW{E:Env}{ns:List (Option (Nat×Nat))}(g:GE E)(hg:∀p∈jL,ns[p.2]? =some (some (p.2,0))):GE (E.rows ns):=by
 intro p hp;show(match ns.getD p.2 none with
  |some (m,o)=>match E.ι m with
   |some (b,s)=>some (b,s+o)
   |none=>none
  |none=>none)=_
 rw[aM,hg p hp];simp only[Option.getD_some,g p hp]
theorem LR{E:Env}{h:Tr O}{w:World}(g:Good E h w)(ns:List (Option (Nat×Nat)))(rs:List (Option (IntKind×List Int)))(hl:rs.length<fI)
  (hg:∀p∈jL,ns[p.2]? =some (some (p.2,0))) (hr:∀(j:Nat) (k:IntKind) (ks:List Int),rs[j]? =some (some (k,ks))->∃m o Qb,ns[j]? =some (some (m,o))/\h.get m=some (.ints k Qb)/\Qb.drop o=ks):
  Good (E.rows ns) (rH rs) w/\qH (E.rows ns) ns.length/\∀m,¬ew (rH rs) m:=by
 have tT:∀m,¬ew (rH rs) m:=by
  rintro m ⟨o,h1,h2⟩;obtain⟨k,ks,_,rfl⟩:=Qa hl h1;cases h2
 refine⟨⟨fun m o hm=>?_,fun m _ _ _ _ _ hm=>absurd hm (tT m),fun m b' s e=>?_,TW g.jf hg,fun b c q=>⟨g.fz b c q,fun m s hm=>absurd hm (tT m)⟩⟩,fun m hm=>?_,tT⟩
 . obtain⟨k,ks,h1,rfl⟩:=Qa hl hm;obtain⟨m0,o,Qb,h2,h3,h4⟩:=hr m k ks h1;obtain⟨b,s,e1,c,el,fz,k1,k2,k3⟩:=g.rel m0 _ h3;refine⟨b,s+o,?_,c,el,fz,k1,k2,fun i x hx=>?_⟩
   . show(match ns.getD m none with|some (m,o)=>_|none=>none)=_;rw[aM,h2];simp only[Option.getD_some,e1]
   . rw[<- h4,bG]at hx;rw[<- k3 (o+i) x hx];congr 1;omega
 . have e:(match ns.getD m none with|some (m,o)=>(match E.ι m with|some (b,s)=>some (b,s+o)|none=>none)|none=>none)=some (b',s):=e;split at e
   . rename_i m0 o hm;split at e
     . rename_i b s0 e0;simp only[an,aB]at e;obtain⟨rfl,_⟩:=e;exact g.mO m0 b s0 e0
     . cases e
   . cases e
 . have hm:ns.length<=m:=hm;show(match ns.getD m none with|some (m,o)=>(match E.ι m with|some (b,s)=>some (b,s+o)|none=>none)|none=>none)=none;rw[aM,bP hm];rfl
def LU:Code->Bool | .rangeFunc ..=>true|_=>false
def rG:Code->Operand | .rangeFunc g _ _ _=>g|_=>.const (.bool true)
def rPs:Code->List Nat | .rangeFunc _ ps _ _=>ps.toList|_=>[]
def rA:Code->Code | .rangeFunc _ _ a _=>a|c=>c
def rB:Code->Code | .rangeFunc _ _ _ b=>b|c=>c
def ac5(c:Code)(s:St):Tr O:=(s.h.set s.n (some .me)).set (s.n+1) (some (.loop true none s.fr (rPs c) (rA c) (rB c)))
def tx(s:St)(h:Tr O)(n:Nat):St:={ s with h:=h.set (s.n+1) none,n:=n,gu:=(fI,[],[.map (some s.n)])::s.gu }
def WY(s:St)(h:Tr O):Bool:=match h.get s.n,h.get (s.n+1)with
 |some .me,some (.loop true none _ _ _ _)=>true
 |_,_=>false
theorem cP.of{P:Program}{cs:eX}{H:List (Nat×oT)}{F n0:Nat}{fn:Func}{live:List Nat}{c:Code}{s:St}{G:List (List (Bool×Bool)×ah×oV)}(h1:yO P cs H F c s=true)(h2:xx P cs H F c s=zY P cs H F c s)(h3:Gf P cs H F n0 fn live c s=G):
  ∃L,cP P cs H F n0 fn live c s L G:=by
 refine⟨xx P cs H F c s,?_⟩;unfold cP P5;unfold yO at h1;unfold xx zY at h2;unfold Gf at h3;unfold xx;cases hl:jU P cs H F c s with
 |none=>rw[hl]at h1;cases h1
 |some l=>
  rw[hl]at h2 h3;have h2:qx l=uZ l:=h2;have h3:uY (u9 P n0 fn live) l=G:=h3;show some (qx l,uZ l,uY (u9 P n0 fn live) l)=some (qx l,qx l,G);rw[h3,<- h2]
end Go.Eng
