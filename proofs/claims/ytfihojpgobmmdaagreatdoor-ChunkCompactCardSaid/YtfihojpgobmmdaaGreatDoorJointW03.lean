/- The engine, part Z: runs in which some values stand open: tests are split, bounds are left to be shown. No conditions: lemmas alone. -/
import Derived.Test.YtfihojpgobmmdaaGreatDoorJointW02
set_option linter.unusedVariables false
set_option linter.unusedSimpArgs false
set_option linter.unusedSectionVars false
namespace Go.Eng
open Go Go.RowKit
structure oV where
 conds:List (Bool×Bool)
 same:List (V×V)
 Uo:ah
def oV.nil:oV:=⟨[],[],[]⟩
def oV.app(a b:oV):oV:=⟨a.conds++b.conds,a.same++b.same,a.Uo++b.Uo⟩
def oV.ok(p:oV):Prop:=∀c∈p.conds,c.1=c.2
def oV.good(p:oV):Prop:=(∀c∈p.same,c.1=c.2)/\∀a∈p.Uo,a
theorem oV.Qk{a b:oV}:(a.app b).ok↔a.ok/\b.ok:=by
 simp only[oV.ok,oV.app,aT];exact⟨fun h=>⟨fun c hc=>h c (.inl hc),fun c hc=>h c (.inr hc)⟩,fun h c hc=>hc.elim (h.1 c) (h.2 c)⟩
theorem oV.Ql{a b:oV}:(a.app b).good↔a.good/\b.good:=by
 simp only[oV.good,oV.app,aT];exact⟨fun h=>⟨⟨fun c hc=>h.1 c (.inl hc),fun c hc=>h.2 c (.inl hc)⟩,fun c hc=>h.1 c (.inr hc),fun c hc=>h.2 c (.inr hc)⟩,
  fun h=>⟨fun c hc=>hc.elim (h.1.1 c) (h.2.1 c),fun c hc=>hc.elim (h.1.2 c) (h.2.2 c)⟩⟩
abbrev M(α:Type):=Option (List (oV×α))
def M.ret{α:Type}(a:α):M α:=some [(.nil,a)]
def pre{α:Type}(p:oV):List (oV×α)->List (oV×α)
 | []=>[]
 |e::r=>(p.app e.1,e.2)::pre p r
def M.bind{α β:Type}:List (oV×α)->(α->M β)->M β
 | [],_=>some []
 |(p,a)::r,f=>match f a with
  |some l1=>match M.bind r f with
   |some l2=>some (pre p l1++l2)
   |none=>none
  |none=>none
def M.then{α β:Type}(m:M α)(f:α->M β):M β:=match m with
 |some l=>M.bind l f
 |none=>none
def fu{α:Type}(m:M α)(r:Option α):Prop:=∀l,m=some l->(∃e∈l,e.1.ok)/\∀e∈l,e.1.ok->e.1.good->r=some e.2
theorem Gk{α:Type}{p:oV}:∀{l:List (oV×α)} {e:oV×α},e∈pre p l↔∃e'∈l,e=(p.app e'.1,e'.2)
 | [],e=>by simp[pre]
 |x::r,e=>by
  simp only[pre,aE,Gk];exact⟨fun h=>h.elim (fun q=>⟨x,.inl rfl,q⟩) fun⟨e',h1,h2⟩=>⟨e',.inr h1,h2⟩,fun⟨e',h1,h2⟩=>h1.elim (fun q=>.inl (by rw[h2,q])) fun q=>.inr ⟨e',q,h2⟩⟩
theorem Ih{α β:Type}{f:α->M β}:∀{l:List (oV×α)} {l2:List (oV×β)},M.bind l f=some l2->(∀e∈l2,∃d∈l,∃l1,f d.2=some l1/\∃e'∈l1,e=(d.1.app e'.1,e'.2))/\(∀d∈l,∃l1,f d.2=some l1/\∀e'∈l1,(d.1.app e'.1,e'.2)∈l2)
 | [],l2,h=>by
   simp only[M.bind,an]at h;subst h;exact⟨fun e he=>by simp at he,fun d hd=>by simp at hd⟩
 |(p,a)::r,l2,h=>by
  simp only[M.bind]at h;split at h
  . rename_i l1 h1;split at h
    . rename_i l3 h3;obtain rfl:=eo h;obtain⟨k1,k2⟩:=Ih h3;refine⟨fun e he=>?_,fun d hd=>?_⟩
      . rcases aT.1 he with q|q
        . obtain⟨e',q1,q2⟩:=Gk.1 q;exact⟨(p,a),by simp,l1,h1,e',q1,q2⟩
        . obtain⟨d,d1,d2⟩:=k1 e q;exact⟨d,by simp[d1],d2⟩
      . rcases aE.1 hd with rfl|hd
        . exact⟨l1,h1,fun e' Bq=>aT.2 (.inl (Gk.2 ⟨e',Bq,rfl⟩))⟩
        . obtain⟨l1',q1,q2⟩:=k2 d hd;exact⟨l1',q1,fun e' Bq=>aT.2 (.inr (q2 e' Bq))⟩
    . cases h
  . cases h
theorem fu.ret{α:Type}(a:α):fu (M.ret a) (some a):=by
 intro l h;simp only[M.ret,an]at h;subst h;exact⟨⟨_,aq.2 rfl,fun c hc=>by simp[oV.nil]at hc⟩,fun e he _ _=>by simp only[aq]at he;subst he;rfl⟩
theorem fu.none{α:Type}(r:Option α):fu (none:M α) r:=fun l h=>by cases h
theorem fu.then{α β:Type}{m:M α}{f:α->M β}{r:Option α}{g:α->Option β}(h:fu m r)(hf:∀a,fu (f a) (g a)):fu (m.then f) (r.bind g):=by
 intro l2 e;unfold M.then at e;split at e
 . rename_i l;obtain⟨⟨d,hd,iD⟩,h2⟩:=h l rfl;obtain⟨k1,k2⟩:=Ih e;refine⟨?_,fun e he ajE Zg=>?_⟩
   . obtain⟨l1,q1,q2⟩:=k2 d hd;obtain⟨⟨e',Bq,Uj⟩,_⟩:=hf d.2 l1 q1;exact⟨_,q2 e' Bq,oV.Qk.2 ⟨iD,Uj⟩⟩
   . obtain⟨d,hd,l1,q1,e',Bq,rfl⟩:=k1 e he;obtain⟨o1,o2⟩:=oV.Qk.1 ajE;obtain⟨g1,g2⟩:=oV.Ql.1 Zg;rw[h2 d hd o1 g1];exact(hf d.2 l1 q1).2 e' Bq o2 g2
 . cases e
theorem fu.of_eq{α:Type}{m:M α}{r r':Option α}(h:fu m r)(e:r=r'):fu m r':=e▸h
def ve(P:Program)(t:TypeId):Option Nat:=match ux P t with
 |some e=>kQ P e
 |none=>none
def p9(P:Program):List Field->ag->ag->Option Bool
 | [],_,_=>some true
 |f::fs,xs,ys=>match decide (f.name= "_")with
  |true=>none
  |false=>match P.underlying f.type,wK P f.type xs f.offset,wK P f.type ys f.offset with
   |some (.int _),some (.int k a),some (.int k' b)=>match decide (k=k')with
    |true=>match p9 P fs xs ys with
     |some r=>some ((a==b)&&r)
     |none=>none
    |false=>none
   |_,_,_=>none
theorem yS{P:Program}{d:Nat}:∀{fs:List Field} {xs ys:ag} {r:Bool},p9 P fs xs ys=some r->eqFields P (fun u a b=>LX P (d+1) u a b) fs xs ys=some r
 | [],_,_,r,e=>by simpa only[p9,eqFields]using e
 |f::fs,xs,ys,r,e=>by
  simp only[p9]at e;split at e
  . cases e
  . rename_i hn;have hn:=aK hn;split at e
    . rename_i k0 k a k' b h1 h2 h3;split at e
      . rename_i hk;have hk:=aH hk;subst hk;split at e
        . rename_i r' hr;obtain rfl:=eo e;have ih:=yS (d:=d) hr;simp only[eqFields,aG hn,h2,h3];have:LX P (d+1) f.type (.int k a) (.int k b)=some (a==b):=by simp only[LX,h1,if_true]
          rw[this];cases hab:a==b with
          |true=>simp only[Bool.true_and];exact ih
          |false=>simp only[Bool.false_and]
        . cases e
      . cases e
    . cases e
def Mi(P:Program)(t:TypeId)(xs ys:ag):Option Bool:=
 match P.eqGuardType P.depth t with
 |true=>none
 |false=>match P.underlying t with
  |some (.struct nQ)=>match P.stoodInHeld t with
   |true=>none
   |false=>p9 P nQ.toList xs ys
  |_=>none
theorem Up{P:Program}{d:Nat}{t:TypeId}{nQ:Array Field}{xs ys:ag}{r:Bool}(hu:P.underlying t=some (.struct nQ))(hs:P.stoodInHeld t=false)(e:p9 P nQ.toList xs ys=some r):LX P (d+1+1) t (.agg xs) (.agg ys)=some r:=by
 simp only[LX,hu,hs,aO,cG];exact yS (d:=d) e
theorem Ii{P:Program}{t:TypeId}{x y:Operand}{xs ys:ag}{r:Bool}(e:Mi P t xs ys=some r):FN P t x y (.agg xs) (.agg ys)=some r:=by
 unfold Mi at e;split at e
 . cases e
 . rename_i hg;split at e
   . rename_i nQ hu;split at e
     . cases e
     . rename_i hs;simp only[FN,hg,aO,cG];exact Up (d:=9998) hu hs e
   . cases e
def kR(P:Program)(o:Oper)(fr:Tr V)(h:Tr O)(n:Nat):Option (ah×R):=match dz P o fr h n with
 |some r=>some ([],r)
 |none=>none
def Qm(h:Tr O):V->Bool
 | .dj (some (m,_)) _ _ _=>match h.get m with
   |some (.ints _ _)=>true
   |some (.own _ _)=>true
   |some (.deep _)=>true
   |some (.iU _ _ _)=>true
   |_=>false
 | .dO _ _ _=>true
 | .str _=>true
 |_=>false
def Gl(h:Tr O)(size:Nat)(x:V):Option (ah×Nat×Row):=
 match x with
 | .dO _ cO cs=>some ([cs.length=cO*size],cO,.ds cs)
 |x=>match Qm h x with
 |true=>match x with
  | .dj (some (m,o)) cO _ jx=>match Nat.beq jx size,(h.get m).bind O.Nl with
    |true,some (.is k ks)=>some ([0<cO,o+cO*size<=ks.length],cO,.is k ((ks.drop o).take (cO*size)))
    |true,some (.ds cs)=>some ([0<cO,o+cO*size<=cs.length],cO,.ds ((cs.drop o).take (cO*size)))
    |_,_=>none
  | .str s=>match Nat.beq size 1 with
    |true=>some ([],s.length,.is .u8 (dV s))
    |false=>none
  |_=>none
 |false=>match jz h size x with
  |some (k,r)=>some ([],k,r)
  |none=>none
theorem tu{h:Tr O}{size k:Nat}{x:V}{A:ah}{r:Row}(e:Gl h size x=some (A,k,r))(hA:∀a∈A,a):jz h size x=some (k,r):=by
 unfold Gl at e;split at e
 . simp only[an,aB]at e;obtain⟨rfl,rfl,rfl⟩:=e;have h1:=hA _ (aq.2 rfl);simp only[jz,aG h1]
 split at e
 . split at e
   . rename_i m o cO cp jx _ _;split at e
     . rename_i k' ks hb hr;simp only[an,aB]at e;obtain⟨rfl,rfl,rfl⟩:=e;have h1:0<cO:=hA _ (by simp);have h2:o+cO*size<=ks.length:=hA _ (by simp);have hb:=aD hb;cases hm:h.get m with
       |none=>rw[hm]at hr;cases hr
       |some ob=>
        rw[hm]at hr;have hr:ob.Nl=some (.is k' ks):=hr;cases cO with
        |zero=>omega
        |succ cO=>simp only[jz,hb,if_true,hm,hr,Row.cut,aG h2]
     . rename_i cs hb hr;simp only[an,aB]at e;obtain⟨rfl,rfl,rfl⟩:=e;have h1:0<cO:=hA _ (by simp);have h2:o+cO*size<=cs.length:=hA _ (by simp);have hb:=aD hb;cases hm:h.get m with
       |none=>rw[hm]at hr;cases hr
       |some ob=>
        rw[hm]at hr;have hr:ob.Nl=some (.ds cs):=hr;cases cO with
        |zero=>omega
        |succ cO=>simp only[jz,hb,if_true,hm,hr,Row.cut,aG h2]
     . cases e
   . split at e
     . rename_i hb;simp only[an,aB]at e;obtain⟨rfl,rfl,rfl⟩:=e;simp only[jz,aG (aD hb)]
     . cases e
   . cases e
 . split at e
   . rename_i k' r' h1;simp only[an,aB]at e;obtain⟨rfl,rfl,rfl⟩:=e;exact h1
   . cases e
def Ac(cO size o:Nat):Row->Option (ah×Row)
 | .is k ks=>some ([0<cO,o+cO*size<=ks.length],.is k ((ks.drop o).take (cO*size)))
 | .ds cs=>some ([o+cO*size<=cs.length],.ds ((cs.drop o).take (cO*size)))
 | .vs cs=>match cO with
   |0=>some ([],.vs [])
   |_=>match(Row.vs cs).cut o (cO*size)with
    |some r=>some ([],r)
    |none=>none
theorem NV{cO size o:Nat}{r old:Row}{A:ah}(e:Ac cO size o r=some (A,old))(hA:∀a∈A,a):(if r.soft=false/\cO=0 then some (.vs [])else r.cut o (cO*size):Option Row)=some old:=by
 cases r with
 |is k ks=>
  simp only[Ac,an,aB]at e;obtain⟨rfl,rfl⟩:=e;have h1:0<cO:=hA _ (by simp);have h2:o+cO*size<=ks.length:=hA _ (by simp);rw[aI be];simp only[Row.cut,aG h2]
 |ds cs=>
  simp only[Ac,an,aB]at e;obtain⟨rfl,rfl⟩:=e;have h2:o+cO*size<=cs.length:=hA _ (by simp);rw[aI (fun q=>by have:=q.1;cases this)];simp only[Row.cut,aG h2]
 |vs cs=>
  cases cO with
  |zero=>
   simp only[Ac,an,aB]at e;obtain⟨rfl,rfl⟩:=e;rfl
  |succ cO=>
   simp only[Ac]at e;split at e
   . rename_i r' h1;obtain⟨rfl,rfl⟩:=fc e;rw[aI be];exact h1
   . cases e
def Gm(i:TypeInfo)(z:V):Bool:=decide (0<i.size)&&(decide (0<i.bytes)&&decide (z.cells.length=i.size))
def Qn(h:Tr O)(m:Nat):Option (TypeId×Bool×aa):=match h.get m with
 |some (.iU e f s)=>some (e,f,s)
 |_=>none
def Ad(P:Program)(eE:Array TypeId)(args:ag)(h:Tr O)(n:Nat):Option (ah×R):=
 match eE[0]?,eE[1]?,args with
 |some st,some xt,[s,x]=>match ux P st,P.underlying xt with
  |some e,some xd=>match JO xd,P.info? e,zeroOf P e with
   |true,some i,some z=>match Gm i z,Gl h i.size x with
    |true,some (A,k,new)=>match new.flat with
     |true=>match s with
      | .dj none 0 _ _=>match newObj h n (B5 e x new)with
        |some (h',n')=>some (A++[0<k,eT k i.size i.bytes=true],.val (.dj (some (n,0)) k k i.size) h' n')
        |none=>none
      | .dO true cO cs=>match newObj h n ((Row.ds cs).app new).EA with
        |some (h',n')=>some (A++[0<k,eT (cO+k) i.size i.bytes=true,cs.length=cO*i.size],.val (.dj (some (n,0)) (cO+k) (cO+k) i.size) h' n')
        |none=>none
      | .dj (some (m,o)) cO cp jx=>match Qn h m with
        |some (el,AH,s0)=>match Nat.beq jx i.size&&(Nat.blt m fL&&(Nat.beq o 0&&(Nat.beq i.size 1&&decide (el=e)))),uE new with
         |true,some t=>match newObj (h.set m none) n (.iU el AH (s0++t))with
          |some (h',n')=>some (A++[0<cp,cO=s0.length,eT (cO+k) i.size i.bytes=true],.val (.dj (some (n,0)) (cO+k) (cO+k) jx) h' n')
          |none=>none
         |_,_=>none
        |none=>match Nat.beq jx i.size&&Nat.blt m fL,(h.get m).bind O.row with
        |true,some r=>match Ac cO i.size o r with
         |some (B,old)=>match newObj (h.set m none) n (old.app new).EA with
          |some (h',n')=>match new.soft with
           |true=>some (A++(B++[eT (cO+k) i.size i.bytes=true]),.val (.dj (some (n,0)) (cO+k) (cO+k) jx) h' n')
           |false=>some (A++(B++[0<k,eT (cO+k) i.size i.bytes=true]),.val (.dj (some (n,0)) (cO+k) (cO+k) jx) h' n')
          |none=>none
         |none=>none
        |_,_=>none
      |_=>none
     |false=>none
    |_,_=>none
   |_,_,_=>none
  |_,_=>none
 |_,_,_=>none
theorem Gn{P:Program}{eE:Array TypeId}{args:ag}{h:Tr O}{n:Nat}{A:ah}{r:R}(e:Ad P eE args h n=some (A,r))(hA:∀a∈A,a):yg P eE args h n=some r:=by
 unfold Ad at e;split at e
 . rename_i st xt s x h1 h2;split at e
   . rename_i el xd h3 h4;split at e
     . rename_i i z h5 h6 h7;split at e
       . rename_i A1 k new h8 h9;simp only[Gm,aC,bC]at h8;split at e
         . rename_i TI;unfold yg;simp only[h1,h2,h3,h4,h5,h6,h7];rw[aG h8];split at e
           . cases ho:newObj h n (B5 el x new)with
             |none=>rw[ho]at e;cases e
             |some p=>
              rw[ho]at e;obtain⟨rfl,rfl⟩:=fc e;have ht:=tu h9 fun a ha=>hA a (by simp[ha]);have hk:0<k:=hA _ (by simp);have hr:eT k i.size i.bytes=true:=hA _ (by simp);rw[ht];simp only[TI,if_true];cases k with
              |zero=>omega
              |succ k=>simp only[aG hr,ho]
           . rename_i cO cs;cases ho:newObj h n ((Row.ds cs).app new).EA with
             |none=>rw[ho]at e;cases e
             |some p=>
              rw[ho]at e;obtain⟨rfl,rfl⟩:=fc e;have ht:=tu h9 fun a ha=>hA a (by simp[ha]);have hk:0<k:=hA _ (by simp);have hr:eT (cO+k) i.size i.bytes=true:=hA _ (by simp);have hc:cs.length=cO*i.size:=hA _ (by simp);rw[ht];simp only[TI,if_true];cases k with
              |zero=>omega
              |succ k=>simp only[aG (And.intro hr hc),ho]
           . rename_i m o cO cp jx;split at e
             . rename_i Zh AH s0 FY;have hm:h.get m=some (.iU Zh AH s0):=by
                unfold Qn at FY;split at FY
                . rename_i hq;cases FY;exact hq
                . cases FY
               split at e
               case h_2=>cases e
               rename_i t hb ht;simp only[aC]at hb;cases ho:newObj (h.set m none) n (.iU Zh AH (s0++t))with
               |none=>rw[ho]at e;cases e
               |some p=>
                rw[ho]at e;obtain⟨rfl,rfl⟩:=fc e;have htl:=tu h9 fun a ha=>hA a (by simp[ha]);have q1:0<cp:=hA _ (by simp);have q2:cO=s0.length:=hA _ (by simp);have q3:eT (cO+k) i.size i.bytes=true:=hA _ (by simp);rw[htl];simp only[TI,if_true];rw[aG ⟨aD hb.1,q3,au hb.2.1⟩];simp only[hm,ht];rw[aG ⟨⟨aD hb.2.2.1,q1⟩,⟨Nat.le_of_eq q2,fun _=>q2⟩,aD hb.2.2.2.1,aH hb.2.2.2.2⟩];simp only[q2,aW];rw[<- q2];simp only[ho]
             rename_i hnb;split at e
             . rename_i r0 hb xm;split at e
               . rename_i B old oD;cases ho:newObj (h.set m none) n (old.app new).EA with
                 |none=>rw[ho]at e;cases e
                 |some p=>
                  rw[ho]at e;simp only at e;have XA:(∀a∈A1,a)->(∀a∈B,a)->(new.soft=false->0<k)->eT (cO+k) i.size i.bytes=true->R.val (.dj (some (n,0)) (cO+k) (cO+k) jx) p.1 p.2=r->
                   (match jz h i.size x with
                    |some (k,new)=>
                     if new.flat=true then
                      if jx=i.size/\eT (cO+k) i.size i.bytes=true/\m<fL then
                       match h.get m with
                       |some (.iU Zh AH s0)=>match uE new with
                        |some t=>if(o=0/\0<cp)/\(cO<=s0.length/\(AH=true->cO=s0.length))/\(i.size=1/\Zh=el)then(match newObj (h.set m none) n (.iU Zh AH (s0.take cO++t))with
                         |some (h',n')=>some (.val (.dj (some (n,0)) (cO+k) (cO+k) jx) h' n')
                         |none=>none)else none
                        |none=>none
                       |some ob=>match ob.row with
                        |some r=>
                         match(if r.soft=false/\cO=0 then some (.vs [])else r.cut o (cO*i.size):Option Row)with
                         |some old=>
                          if new.soft=false/\k=0 then some (.val (.dj (some (m,o)) cO cp jx) h n)
                          else match newObj (h.set m none) n (old.app new).EA with
                           |some (h',n')=>some (.val (.dj (some (n,0)) (cO+k) (cO+k) jx) h' n')
                           |none=>none
                         |none=>none
                        |none=>none
                       |_=>none
                      else none
                     else none
                    |none=>none:Option R)=some r:=by
                   intro hA1 hB hk hr Ij;subst Ij;have ht:=tu h9 hA1;have adK:=NV oD hB;simp only[aC]at hb;have yA:=aD hb.1;have HG:m<fL:=au hb.2;cases hm:h.get m with
                   |none=>rw[hm]at xm;cases xm
                   |some ob=>
                    rw[hm]at xm;have xm:ob.row=some r0:=xm;rw[ht];simp only[TI,if_true];rw[aG ⟨yA,hr,HG⟩];have adL:∀e f s,ob≠ .iU e f s:=fun e f s q=>by subst q;unfold Qn at hnb;rw[hm]at hnb;cases hnb
                    cases ob<;>first|exact absurd rfl (adL _ _ _)|skip
                    all_goals
                    simp only[xm,adK];rw[aI (fun q=>by have:=hk q.1;omega)];simp only[ho]
                  split at e
                  . simp only[an,aB]at e;obtain⟨rfl,Ij⟩:=e;rename_i XB;exact XA (fun a ha=>hA a (by simp[ha])) (fun a ha=>hA a (by simp[ha])) (fun q=>by rw[q]at XB;cases XB) (hA _ (by simp)) Ij
                  . simp only[an,aB]at e;obtain⟨rfl,Ij⟩:=e;exact XA (fun a ha=>hA a (by simp[ha])) (fun a ha=>hA a (by simp[ha])) (fun _=>hA _ (by simp)) (hA _ (by simp)) Ij
               . cases e
             . cases e
           . cases e
         . cases e
       . cases e
     . cases e
   . cases e
 . cases e
def CQ(P:Program)(t:TypeId)(h:Tr O)(v:V)(m o:Nat)(k:IntKind)(ks:List Int):Option (ah×Tr O):=
 match kQ P t,oW k v.cells with
 |some s,some new=>match Nat.beq v.cells.length s&&(Nat.blt 0 s&&Nat.blt m fL)with
  |true=>some ([o+s<=ks.length],h.set m (some (.own k (fO ks o new))))
  |false=>none
 |_,_=>none
theorem Ik{P:Program}{t:TypeId}{h h':Tr O}{v:V}{m o:Nat}{k:IntKind}{ks:List Int}{A:ah}(hm:h.get m=some (.own k ks))(e:CQ P t h v m o k ks=some (A,h'))(hA:∀a∈A,a):storeAt P t h v (.ptr (some (m,o)))=some h':=by
 unfold CQ at e;split at e
 . rename_i s new h1 h2;split at e
   . rename_i hb;obtain⟨rfl,rfl⟩:=fc e;simp only[aC]at hb;have h3:=aD hb.1;have h4:0<s:=au hb.2.1;have h5:m<fL:=au hb.2.2;have h6:o+s<=ks.length:=hA _ (by simp);simp only[storeAt,hm,h1,h2];rw[aG ⟨h3,h4,h5⟩,aG h6]
   . cases e
 . cases e
def Gp(k:IntKind)(ks:List Int)(off sz:Nat):V:=.agg ((List.range sz).map fun j=>V.int k (ks.getD (off+j) 0))
theorem Kp{P:Program}{t:TypeId}{k:IntKind}{ks:List Int}{off sz:Nat}(ha:Nk P t=some true)(hs:kQ P t=some sz)(hl:off+sz<=ks.length):ld P t (ks.map (.int k)) off=some (Gp k ks off sz):=by
 simp only[ld,ha,hs,cut,aY,aG hl,bh,Gp,an,V.agg.injEq];apply List.ext_getElem
 . simp;omega
 . intro i h1 h2;simp at h1 h2;have:off+i<ks.length:=by omega
   simp[List.getD,this]
def BH(P:Program)(t:TypeId)(k:IntKind)(ks:List Int)(off:Nat):Option (Prop×V):=match Nk P t with
 |some false=>some (off<ks.length,.int k (ks.getD off 0))
 |some true=>match kQ P t with
  |some sz=>some (off+sz<=ks.length,Gp k ks off sz)
  |none=>none
 |none=>none
theorem CR{P:Program}{t:TypeId}{k:IntKind}{ks:List Int}{off:Nat}{p:Prop}{v:V}(e:BH P t k ks off=some (p,v))(hp:p):ld P t (ks.map (.int k)) off=some v:=by
 unfold BH at e;split at e
 . rename_i Zi;obtain⟨rfl,rfl⟩:=fc e;simp only[ld,Zi,bt,ay hp,bh,aN,Option.getD_some]
 . rename_i Zi;split at e
   . rename_i sz hs;obtain⟨rfl,rfl⟩:=fc e;exact Kp Zi hs hp
   . cases e
 . cases e
def Ae(P:Program)(t:TypeId):Bool:=match P.underlying t with
 |some .string=>true
 |_=>false
theorem v8{P:Program}{t:TypeId}(h:Ae P t=true):P.underlying t=some .string:=by
 unfold Ae at h;split at h
 . assumption
 . cases h
def AY(P:Program)(o:Oper)(fr:Tr V)(h:Tr O)(n:Nat):Option (ah×R):=
 match o.op with
 | .indexAddr t x i=>match iI fr x,iI fr i with
   |some (.dj (some (m,off)) cO _ jx),some (.int _ ix)=>match ve P t with
    |some s=>match Nat.beq s jx with
     |true=>some ([0<=ix/\ix<cO],.val (.ptr (some (m,off+ix.toNat*s))) h n)
     |false=>none
    |none=>none
   |_,_=>kR P o fr h n
 | .load t a=>match iI fr a with
   |some (.ptr (some (m,off)))=>match h.get m with
    |some (.ints k ks)=>match BH P t k ks off with
     |some (p,v)=>some ([p],.val v h n)
     |none=>none
    |some (.own k ks)=>match BH P t k ks off with
     |some (p,v)=>some ([p],.val v h n)
     |none=>none
    |_=>kR P o fr h n
   |_=>kR P o fr h n
 | .store t a x=>match iI fr a,iI fr x with
   |some (.ptr (some (m,off))),some v=>match h.get m with
    |some (.own k ks)=>match CQ P t h v m off k ks with
     |some (A,h')=>some (A,.val (.ew []) h' n)
     |none=>none
    |_=>kR P o fr h n
   |_,_=>kR P o fr h n
 | .call c=>match c.callee with
   | .builtin .append=>match uF fr c.args.toList with
     |some [s,x]=>match Qm h s||Qm h x with
      |true=>match Nat.beq c.argTypes.size 2 with
       |true=>Ad P c.argTypes [s,x] h n
       |false=>none
      |false=>kR P o fr h n
     |_=>kR P o fr h n
   |_=>kR P o fr h n
 | .slice t x (some lo) (some hi) none=>match iI fr x,iI fr lo,iI fr hi with
   |some (.dj a cO cP jx),some (.int _ lx),some (.int _ hx)=>match ve P t with
    |some s=>match Nat.beq s jx||a.isNone with
     |true=>some ([0<=hx/\hx<=cP,0<=lx/\lx<=hx.toNat],.val (.dj (match a with|none=>none|some (b,o)=>some (b,o+lx.toNat*jx)) (hx.toNat-lx.toNat) (cP-lx.toNat) jx) h n)
     |false=>none
    |none=>none
   |some (.str s),some (.int _ lx),some (.int _ hx)=>match Ae P t with
    |true=>some ([0<=hx/\hx<=s.length,0<=lx/\lx<=hx.toNat],.val (.str ((s.take hx.toNat).drop lx.toNat)) h n)
    |false=>none
   |_,_,_=>kR P o fr h n
 | .slice t x none (some hi) none=>match iI fr x,iI fr hi with
   |some (.dj a cO cP jx),some (.int _ hx)=>match ve P t with
    |some s=>match Nat.beq s jx||a.isNone with
     |true=>some ([0<=hx/\hx<=cP],.val (.dj (match a with|none=>none|some (b,o)=>some (b,o+0*jx)) (hx.toNat-0) (cP-0) jx) h n)
     |false=>none
    |none=>none
   |some (.str s),some (.int _ hx)=>match Ae P t with
    |true=>some ([0<=hx/\hx<=s.length],.val (.str ((s.take hx.toNat).drop 0)) h n)
    |false=>none
   |_,_=>kR P o fr h n
 | .slice t x (some lo) none none=>match iI fr x,iI fr lo with
   |some (.dj a cO cP jx),some (.int _ lx)=>match ve P t with
    |some s=>match Nat.beq s jx||a.isNone with
     |true=>some ([0<=lx/\lx<=cO],.val (.dj (match a with|none=>none|some (b,o)=>some (b,o+lx.toNat*jx)) (cO-lx.toNat) (cP-lx.toNat) jx) h n)
     |false=>none
    |none=>none
   |some (.str s),some (.int _ lx)=>match Ae P t with
    |true=>some ([0<=lx/\lx<=s.length],.val (.str ((s.take s.length).drop lx.toNat)) h n)
    |false=>none
   |_,_=>kR P o fr h n
 | .binOp .eql t x y _=>match iI fr x,iI fr y with
   |some (.agg xs),some (.agg ys)=>match Mi P t xs ys with
    |some r=>some ([],.val (.bool r) h n)
    |none=>none
   |_,_=>kR P o fr h n
 | .binOp .neq t x y _=>match iI fr x,iI fr y with
   |some (.agg xs),some (.agg ys)=>match Mi P t xs ys with
    |some r=>some ([],.val (.bool (!r)) h n)
    |none=>none
   |_,_=>kR P o fr h n
 | .binOp .quo t x y _=>match iI fr x,iI fr y with
   |some (.int k a),some (.int k' b)=>match decide (k=k')with
    |true=>some ([b≠0],.val (.int k (k.wrap (a.tdiv b))) h n)
    |false=>none
   |_,_=>kR P o fr h n
 | .index t x i=>match iI fr x,iI fr i with
   |some (.str s),some (.int _ ix)=>match Ae P t with
    |true=>some ([0<=ix/\ix.toNat<s.length],.val (.int .u8 (s.getD ix.toNat 0).toNat) h n)
    |false=>none
   |_,_=>kR P o fr h n
 |_=>kR P o fr h n
theorem gV{P:Program}{o:Oper}{fr:Tr V}{h:Tr O}{n:Nat}{l:ah}{r:R}(e:kR P o fr h n=some (l,r)):dz P o fr h n=some r:=by
 unfold kR at e;split at e
 . rename_i r' hr;simp only[an,aB]at e;obtain⟨_,rfl⟩:=e;exact hr
 . cases e
theorem qa{P:Program}{t:TypeId}{s:Nat}(e:ve P t=some s):∃el,P.underlying t=some (.slice el)/\kQ P el=some s:=by
 unfold ve ux at e;cases hu:P.underlying t with
 |none=>simp[hu]at e
 |some d=>cases d<;>simp[hu]at e
          exact⟨_,rfl,e⟩
theorem rY{P:Program}{o:Oper}{fr:Tr V}{h:Tr O}{n:Nat}{l:ah}{r:R}(e:AY P o fr h n=some (l,r))(hl:∀p∈l,p):dz P o fr h n=some r:=by
 unfold AY at e;split at e
 . rename_i t x i ho;split at e
   . rename_i m off cO cp jx k ix hx hi;split at e
     . rename_i s hs;split at e
       . rename_i hb;obtain⟨rfl,rfl⟩:=fc e;have hb:=aD hb;subst hb;obtain⟨el,h1,h2⟩:=qa hs;have hc:=hl _ (aq.2 rfl);simp only[dz,ho,hx,hi,nU,h1,h2,mT];rw[aG (by exact⟨hc.1,hc.2,trivial⟩)]
       . cases e
     . cases e
   . exact gV e
 . rename_i t a ho;split at e
   . rename_i m off ha;split at e
     . rename_i k ks hm;split at e
       . rename_i p v hs;obtain⟨rfl,rfl⟩:=fc e;have hp:p:=hl _ (aq.2 rfl);simp only[dz,ho,ha,loadAt,hm,CR hs hp,mT]
       . cases e
     . rename_i k ks hm;split at e
       . rename_i p v hs;obtain⟨rfl,rfl⟩:=fc e;have hp:p:=hl _ (aq.2 rfl);simp only[dz,ho,ha,loadAt,hm,CR hs hp,mT]
       . cases e
     . exact gV e
   . exact gV e
 . rename_i t a x ho;split at e
   . rename_i m off v ha hx;split at e
     . rename_i k ks hm;split at e
       . rename_i A h' hs;obtain⟨rfl,rfl⟩:=fc e;simp only[dz,ho,ha,hx,Ik hm hs hl]
       . cases e
     . exact gV e
   . exact gV e
 . rename_i c ho;split at e
   . rename_i hc;split at e
     . rename_i s x nJ;split at e
       . split at e
         . rename_i hb;have hb:=aD hb;simp only[dz,ho,wL,nJ,hc,lj,hb,if_true];exact Gn e hl
         . cases e
       . exact gV e
     . exact gV e
   . exact gV e
 . rename_i t x lo hi ho;split at e
   . rename_i a cO cp jx k lx k2 hx sJ yC Mc;split at e
     . rename_i s hs;split at e
       . rename_i hb;obtain⟨rfl,rfl⟩:=fc e;obtain⟨el,h1,h2⟩:=qa hs;have hc:=hl _ (aP ..);have Il:=hl _ (aJ _ (aq.2 rfl));have Gb:s=jx\/a=none:=by
          simp only[bU,Option.isNone_iff_eq_none]at hb;exact hb.imp aD _root_.id
         simp only[dz,ho,sJ,yC,Mc,mE,mC,h1,h2,mT,Option.isSome_none,aO,false_and,cG];rw[aG Gb];simp only[eK,aG hc,aG Il];cases a<;>rfl
       . cases e
     . cases e
   . rename_i s k lx k2 hx sJ yC Mc;split at e
     . rename_i hs;obtain⟨rfl,rfl⟩:=fc e;have hc:=hl _ (aP ..);have Il:=hl _ (aJ _ (aq.2 rfl));simp only[dz,ho,sJ,yC,Mc,mE,mC,v8 hs,mT,Option.isSome_none,aO,false_and,cG,eK,aG hc,aG Il]
     . cases e
   . exact gV e
 . rename_i t x hi ho;split at e
   . rename_i a cO cp jx k hx sJ Mc;split at e
     . rename_i s hs;split at e
       . rename_i hb;obtain⟨rfl,rfl⟩:=fc e;obtain⟨el,h1,h2⟩:=qa hs;have hc:=hl _ (aq.2 rfl);have Gb:s=jx\/a=none:=by
          simp only[bU,Option.isNone_iff_eq_none]at hb;exact hb.imp aD _root_.id
         simp only[dz,ho,sJ,Mc,mE,mC,h1,h2,mT,Option.isSome_none,aO,false_and,cG];rw[aG Gb];simp only[eK,aG hc];cases a<;>rfl
       . cases e
     . cases e
   . rename_i s k hx sJ Mc;split at e
     . rename_i hs;obtain⟨rfl,rfl⟩:=fc e;have hc:=hl _ (aq.2 rfl);simp only[dz,ho,sJ,Mc,mE,mC,v8 hs,mT,Option.isSome_none,aO,false_and,cG,eK,aG hc]
     . cases e
   . exact gV e
 . rename_i t x lo ho;split at e
   . rename_i a cO cp jx k lx sJ Mc;split at e
     . rename_i s hs;split at e
       . rename_i hb;obtain⟨rfl,rfl⟩:=fc e;obtain⟨el,h1,h2⟩:=qa hs;have hc:=hl _ (aq.2 rfl);have Gb:s=jx\/a=none:=by
          simp only[bU,Option.isNone_iff_eq_none]at hb;exact hb.imp aD _root_.id
         simp only[dz,ho,sJ,Mc,mE,mC,h1,h2,mT,Option.isSome_none,aO,false_and,cG];rw[aG Gb];simp only[eK,aG hc];cases a<;>rfl
       . cases e
     . cases e
   . rename_i s k lx sJ Mc;split at e
     . rename_i hs;obtain⟨rfl,rfl⟩:=fc e;have hc:=hl _ (aq.2 rfl);simp only[dz,ho,sJ,Mc,mE,mC,v8 hs,mT,Option.isSome_none,aO,false_and,cG,eK,aG hc]
     . cases e
   . exact gV e
 . rename_i t x y yt ho;split at e
   . rename_i xs ys hx hy;split at e
     . rename_i r hr;obtain⟨rfl,rfl⟩:=fc e;simp only[dz,ho,hx,hy,B2,Ii hr,bh,mT]
     . cases e
   . exact gV e
 . rename_i t x y yt ho;split at e
   . rename_i xs ys hx hy;split at e
     . rename_i r hr;obtain⟨rfl,rfl⟩:=fc e;simp only[dz,ho,hx,hy,B2,Ii hr,bh,mT]
     . cases e
   . exact gV e
 . rename_i t x y yt ho;split at e
   . rename_i k a k' b hx hy;split at e
     . rename_i hk;have hk:=aH hk;subst hk;obtain⟨rfl,rfl⟩:=fc e;have hb:b≠0:=hl _ (aq.2 rfl);have:B2 P .quo t x y (.int k a) (.int k b)=some (.int k (k.wrap (a.tdiv b))):=by
        simp[B2,binOp,Op.intDiv,hb,sM,iC];rfl
       simp only[dz,ho,hx,hy,this,mT]
     . cases e
   . exact gV e
 . rename_i t x i ho;split at e
   . rename_i s k ix hx hi;split at e
     . rename_i hs;obtain⟨rfl,rfl⟩:=fc e;have hc:0<=ix/\ix.toNat<s.length:=hl _ (aq.2 rfl);have hg:s[ix.toNat]? =some s[ix.toNat]:=ay hc.2;have hd:s.getD ix.toNat 0=s[ix.toNat]:=by rw[aN,hg];rfl
       simp only[dz,ho,hx,hi,FO,v8 hs,aG hc.1,hg,hd,mT]
     . cases e
   . exact gV e
 . exact gV e
inductive o8 where
 |split
 |dc (v:V)
def XC:List (Nat×o8)->Nat->Option o8
 | [],_=>none
 |x::r,d=>match Nat.beq x.1 d with
  |true=>some x.2
  |false=>XC r d
section
variable(H:List (Nat×o8))(dst:Option Nat)
def Kq(v:V):M V:=
 match dst with
 |none=>.ret v
 |some d=>match XC H d with
  |none=>.ret v
  |some (.dc u)=>some [(⟨[],[],[v=u]⟩,u)]
  |some .split=>match v with
   | .bool c=>some [(⟨[(c,true)],[],[]⟩,.bool true),(⟨[(c,false)],[],[]⟩,.bool false)]
   |v=>.ret v
theorem qB(v:V):fu (Kq H dst v) (some v):=by
 unfold Kq;split
 . exact .ret v
 . split
   . exact .ret v
   . rename_i u hu;intro l h;obtain rfl:=eo h;refine⟨⟨_,aq.2 rfl,fun c hc=>by simp at hc⟩,fun e he _ hg=>?_⟩;simp only[aq]at he;subst he;have:v=u:=hg.2 _ (aq.2 rfl);rw[this]
   . split
     . rename_i c;intro l h;obtain rfl:=eo h;refine⟨?_,fun e he ho _=>?_⟩
       . cases hc:c with
         |true=>exact⟨(⟨[(true,true)],[],[]⟩,.bool true),by simp,fun x hx=>by simp only[aq]at hx;subst hx;rfl⟩
         |false=>exact⟨(⟨[(false,false)],[],[]⟩,.bool false),by simp,fun x hx=>by simp only[aq]at hx;subst hx;rfl⟩
       . simp only[aE,aL,bu]at he;rcases he with rfl|rfl
         . have:c=true:=ho (c,true) (aq.2 rfl);rw[this]
         . have:c=false:=ho (c,false) (aq.2 rfl);rw[this]
     . exact .ret _
end
abbrev Ctr:=FuncId->ag->Tr O->Option (ah×V)
def pU:Option (Ps×Tr O×Nat)->Option (V×Tr O×Nat)
 |some (.ret v,h,n)=>some (v,h,n)
 |_=>none
theorem qC{α:Type}{m:M α}{r r':Option α}(h:fu m r)(e:∀a,r=some a->r'=some a):fu m r':=by
 intro l hl;obtain⟨h1,h2⟩:=h l hl;exact⟨h1,fun x hx ho hg=>e _ (h2 x hx ho hg)⟩
section
variable(P:Program)(S:Ctr)(cf:fM)(H:List (Nat×o8))
theorem tw{α β:Type}(a:α)(g:α->Option β):(some a).bind g=g a:=rfl
def NW{α β:Type}:Option (α ⊕ β)->Option α
 |some (.inl a)=>some a
 |_=>none
def BI(f:St->M (X×St)):Nat->St->M (X×St)
 |0,_=>none
 |k+1,s=>(f s).then fun p=>match p.1 with
  | .normal=>BI f k p.2
  |_=>.ret p
theorem wS{f:St->M (X×St)}{g:St->Option (X×St)}(h:∀s,fu (f s) (g s)):∀(k:Nat) (s:St),fu (BI f k s) (rounds g k s)
 |0,s=>.none _
 |k+1,s=>by
  simp only[BI,rounds];refine(fu.then (h s) (g:=fun p=>match p.1 with | .normal=>rounds g k p.2|_=>some p) (fun p=>?_)).of_eq ?_
  . obtain⟨x,s'⟩:=p;cases x with
    |normal=>exact wS h k s'
    |_=>exact .ret _
  . cases g s with
    |none=>rfl
    |some p=>obtain⟨x,s'⟩:=p;cases x<;>rfl
end
section
variable{P:Program}{S:Ctr}{cf:fM}{H:List (Nat×o8)}{F N:Nat}{w0:World}{c:Code}{s:St}{Q:Exit->St->Prop}
def vf{α:Type}(f:X×St->α):List (oV×X×St)->List (List (Bool×Bool)×ah×α)
 | []=>[]
 |(p,x)::r=>(p.conds,p.Uo,f x)::vf f r
def qD{α:Type}:List (oV×α)->ag
 | []=>[]
 |(p,_)::r=>p.same.map (·.1)++qD r
def vg{α:Type}:List (oV×α)->ag
 | []=>[]
 |(p,_)::r=>p.same.map (·.2)++vg r
def yT{α:Type}:M α->List (oV×α)
 |some l=>l
 |none=>[]
theorem Im:∀{l:List (V×V)},l.map (·.1)=l.map (·.2)->∀c∈l,c.1=c.2
 | [],_,c,hc=>by simp at hc
 |x::r,h,c,hc=>by
  simp only[bN,List.cons.injEq]at h;rcases aE.1 hc with rfl|hc
  . exact h.1
  . exact Im h.2 c hc
theorem yU{α:Type}:∀(l:List (oV×α)),qD l=vg l->∀p∈l,∀c∈p.1.same,c.1=c.2
 | [],_,p,hp=>by simp at hp
 |(q,x)::r,h,p,hp=>by
  simp only[qD,vg]at h;have hl:(q.same.map (·.1)).length=(q.same.map (·.2)).length:=by simp
  obtain⟨h1,h2⟩:=List.append_inj h hl;rcases aE.1 hp with rfl|hp
  . exact Im h1
  . exact yU r h2 p hp
theorem r7{α:Type}{f:X×St->α}:∀{l:List (oV×X×St)} {p:oV×X×St},p∈l->(p.1.conds,p.1.Uo,f p.2)∈vf f l
 | [],p,hp=>by simp at hp
 |(q,x)::r,p,hp=>by
  rcases aE.1 hp with rfl|hp
  . simp[vf]
  . simp only[vf,aE];exact .inr (r7 hp)
end
theorem Io{E:Env}{h:Tr O}{n:Nat}{w:World}{v:V}(g:Good E h w)(hd:qN E n)(hv:v.free=true){e:Ending}{w':World}(ho:∃E',tf E' (.ret v) e)(b:Below w.heap.size w w'):jX E h n w (.ret v) h n e w':=by
 refine⟨E,.below g b,fun _ _=>rfl,hd,aA _,?_⟩
 . obtain⟨E1,ho⟩:=ho;cases e with
   |returned v'=>exact CH _ _ hv ho
   |_=>exact ho.elim
def Qo(P:Program)(f:FuncId)(spec:ag->Tr O->Option (ah×V)):Prop:=f<P.funcs.size/\∀args h A v,spec args h=some (A,v)->v.free=true/\((∀a∈A,a)->
 ∀E n w c9,dI E args c9->Good E h w->qN E n->callee P f=true->Calls P f c9.toArray w fun e w'=>(∃E',tf E' (.ret v) e)/\Below w.heap.size w w')
def cS(args:ag)(h:Tr O)(n:Nat):St:={ fr:=lN args 0 .nil,h:=h,n:=n,gz:=[] }
section
variable{P:Program}{S:Ctr}{cf:fM}{H:List (Nat×o8)}{F:Nat}{f:FuncId}{fn:Func}{code:Code}
end
def Env.two(E:Env)(a b:Option Nat):Env:=⟨fun j=>match j with|0=>a.bind E.ι|1=>b.bind E.ι|_=>none,E.β,E.φ⟩
section
variable{P:Program}{S:Ctr}{cf:fM}{H:List (Nat×o8)}{F N:Nat}{w0:World}{c:Code}{s:St}{Q:Exit->St->Prop}
def ajG(P:Program)(cf:fM)(F:Nat)(fn:Func)(v:V)(y:Exit)(s':St):Prop:=(y= .normal\/y= .ret)/\∃h' n',nI P cf F fn s'.fr s'.gz .ret s'.h s'.n=some (.ret v,h',n')
inductive Res where
 |next (s:St)
 |exit (id:Nat) (s:St)
 |ret (v:V)
 |bad
def Res.post(P:Program)(cf:fM)(F:Nat)(fn:Func)(live:List Nat)(I:Nat->St->Prop)(k:Nat)(Q:Exit->St->Prop):Res->Prop
 | .next s=>∃k',k'<k/\I k' s
 | .exit id s=>∀s',norm live s'=some s->Q (.exit id) s'
 | .ret v=>∀s',ajG P cf F fn v .ret s'->Q .ret s'
 | .bad=>False
end
def wT:Code->Array Oper | .region _ ops _=>ops|_=>#[]
section
variable{P:Program}{S:Ctr}{cf:fM}{F N:Nat}{w0:World}{c:Code}{s:St}{Q:Exit->St->Prop}
theorem NX{F:Fence}{n:Nat}{o:Oper}{a:Act}{w:World}{K K':Act->World->Prop}{Q Q':Exit->Act->World->Prop}(hk:∀a w,K a w->K' a w)(hq:∀y a w,y≠ .normal->Q y a w->Q' y a w)(h:o.wpIn F n P a w K Q):o.wpIn F n P a w K' Q':=by
 have adM:LetsOut Q->LetsOut Q':=fun⟨a,w,q⟩=>⟨a,w,hq _ a w (by simp) q⟩;unfold Oper.wpIn at *;refine⟨h.1,?_⟩;have hh:=h.2;generalize (o.semAt F.round a.eval).run P w=r at *;cases r with
 |ok x w'=>
  cases x<;>simp only[Oper.uponIn]at hh⊢ <;>
   first
    |exact hk _ _ hh
    |exact⟨hh.1,CallsIn.mono hh.2 (fun e w'' he=>by cases e<;>first|exact hk _ _ he|exact hq _ _ _ (by simp) he|exact adM he)⟩
    |exact⟨hh.1,RowsIn.mono hh.2 (fun _ _ he=>hk _ _ he)⟩
    |exact⟨hh.1,RoundIn.mono hh.2 (fun e w'' he=>by cases e<;>first|exact hk _ _ he|exact hq _ _ _ (by simp) he|exact adM he)⟩
    |exact hh
 |halt x w'=>cases x<;>simp only[Oper.uponIn]at hh⊢<;>first|exact hq _ _ _ (by simp) hh|exact hh
end
theorem Eg.fresh{w0 w:World}{E:Env}{h:Tr O}{q:Nat}{o:O}(u:Eg w0 E h w)(hq:h.get q=some o)(hw:o.wr=true):∀b s,E.ι q=some (b,s)->w0.heap.size<=b:=by
 intro b s e;by_cases q':b<w0.heap.size
 . exact(u.sR q b s ⟨_,hq,hw⟩ e q').elim
 . omega
abbrev fb:=FuncId->ag->Tr O->Nat->M (V×Tr O×Nat)
def o9(cs:fb)(cf:fM):Prop:=∀f args h n,fu (cs f args h n) (pU (cf f args h n))
def oh(P:Program)(o:Oper)(fr:Tr V)(h:Tr O)(n:Nat):Option (ah×R):=
 match o.op with
 | .binOp .add t x y _=>match iI fr x,iI fr y with
   |some (.str a),some (.str b)=>some ([a.length+b.length<=w9],.val (.str (a++b)) h n)
   |_,_=>AY P o fr h n
 | .binOp .rem t x (.tmp y) _=>match iI fr x,fr.get y with
   |some (.int k a),some (.int k' b)=>match decide (k=k')with
    |true=>some ([b≠0],.val (.int k (a.tmod b)) h n)
    |false=>none
   |_,_=>AY P o fr h n
 | .indexAddr t x (.tmp i)=>match iI fr x,fr.get i with
   |some (.ptr (some (m,off))),some (.int _ ix)=>match P.underlying t with
    |some (.array cO e)=>match kQ P e with
     |some s=>some ([0<=ix/\ix<cO],.val (.ptr (some (m,off+ix.toNat*s))) h n)
     |none=>none
    |_=>AY P o fr h n
   |_,_=>AY P o fr h n
 | .makeSlice t (.tmp l) (.tmp c)=>match ux P t,fr.get l,fr.get c with
   |some e,some (.int _ lv),some (.int _ cv)=>match P.info? e,zeroOf P e with
    |some i,some z=>match Gm i z,newObj h n (vK z.cells (IntKind.i64.wrap cv).toNat).EA with
     |true,some (h',n')=>some ([0<=IntKind.i64.wrap lv/\IntKind.i64.wrap lv<=IntKind.i64.wrap cv/\i.bytes*IntKind.i64.wrap cv<=281474976710656],.val (.dj (some (n,0)) (IntKind.i64.wrap lv).toNat (IntKind.i64.wrap cv).toNat i.size) h' n')
     |_,_=>none
    |_,_=>none
   |_,_,_=>AY P o fr h n
 |_=>AY P o fr h n
theorem jZ{P:Program}{o:Oper}{fr:Tr V}{h:Tr O}{n:Nat}{l:ah}{r:R}(e:oh P o fr h n=some (l,r))(hl:∀p∈l,p):dz P o fr h n=some r:=by
 unfold oh at e;split at e
 . rename_i t x y u ho;split at e
   . rename_i a b ha hb;obtain⟨rfl,rfl⟩:=fc e;have iS:=hl _ (aq.2 rfl);unfold dz;rw[ho];simp only[ha,hb];unfold B2 Po;simp only[aG iS,mT]
   . exact rY e hl
 . rename_i t x y yt ho;split at e
   . rename_i k a k' b hx hy;split at e
     . rename_i hk;have hk:=aH hk;subst hk;obtain⟨rfl,rfl⟩:=fc e;have hb:b≠0:=hl _ (aq.2 rfl);have hy':iI fr (.tmp y)=some (.int k b):=hy;have:B2 P .rem t x (.tmp y) (.int k a) (.int k b)=some (.int k (a.tmod b)):=by
        simp[B2,binOp,Op.intDiv,hb,sM,iC];rfl
       simp only[dz,ho,hx,hy',this,mT]
     . cases e
   . exact rY e hl
 . rename_i t x i ho;split at e
   . rename_i m off k ix hx hi;split at e
     . rename_i cO el hu;split at e
       . rename_i sz hs;obtain⟨rfl,rfl⟩:=fc e;have XD:=hl _ (aq.2 rfl);have kF:iI fr (.tmp i)=some (.int k ix):=hi;unfold dz;rw[ho];simp only[hx,kF];unfold nU;simp only[hu,hs,aG XD,mT]
       . cases e
     . exact rY e hl
   . exact rY e hl
 . rename_i t l1 c1 ho;split at e
   . rename_i el k1 lv k2 cv he h1 h2;split at e
     . rename_i i z hi hz;split at e
       . rename_i h' n' hb hn;obtain⟨rfl,rfl⟩:=fc e;simp only[Gm,aC,bC]at hb;have XD:=hl _ (aq.2 rfl);have mz:iI fr (.tmp l1)=some (.int k1 lv):=h1;have T3:iI fr (.tmp c1)=some (.int k2 cv):=h2;unfold dz;rw[ho];simp only[mz,T3];unfold nT;simp only[he,hi,hz];rw[aG ⟨hb.1,hb.2.2,XD.1,XD.2.1,XD.2.2⟩];simp only[hn]
       . cases e
     . cases e
   . exact rY e hl
 . exact rY e hl
def dx(cs:ai)(o size:Nat):ai:=(cs.drop o).take size
def D.uz:D:=.bool false
def CS(P:Program)(t:TypeId)(cs:ai)(off:Nat):Option (Prop×V):=match Nk P t with
 |some false=>some (off<cs.length,(cs.getD off D.uz).iJ)
 |some true=>match kQ P t with
  |some sz=>some (off+sz<=cs.length,.agg (D.lT (dx cs off sz)))
  |none=>none
 |none=>none
theorem Ip{P:Program}{t:TypeId}{cs:ai}{off:Nat}{p:Prop}{v:V}(e:CS P t cs off=some (p,v))(hp:p):ld P t (D.lT cs) off=some v:=by
 unfold CS at e;split at e
 . rename_i Zi;obtain⟨rfl,rfl⟩:=fc e;simp only[ld,Zi,D.gx,bt,ay hp,bh,aN,Option.getD_some]
 . rename_i Zi;split at e
   . rename_i sz hs;obtain⟨rfl,rfl⟩:=fc e;simp only[ld,Zi,hs,cut,D.gx,aY,aG hp,bh,dx,cL,List.map_drop]
   . cases e
 . cases e
def Af(P:Program)(t:TypeId)(h:Tr O)(v:V)(m o:Nat)(cs:ai):Option (ah×Tr O):=
 match kQ P t,ia v.cells with
 |some s,some new=>match Nat.beq v.cells.length s&&(Nat.blt 0 s&&Nat.blt m fL)with
  |true=>some ([o+s<=cs.length],h.set m (some (.deep (wJ cs o new))))
  |false=>none
 |_,_=>none
theorem Gq{P:Program}{t:TypeId}{h h':Tr O}{v:V}{m o:Nat}{cs:ai}{A:ah}(hm:h.get m=some (.deep cs))(e:Af P t h v m o cs=some (A,h'))(hA:∀a∈A,a):storeAt P t h v (.ptr (some (m,o)))=some h':=by
 unfold Af at e;split at e
 . rename_i s new h1 h2;split at e
   . rename_i hb;obtain⟨rfl,rfl⟩:=fc e;simp only[aC]at hb;have h3:=aD hb.1;have h4:0<s:=au hb.2.1;have h5:m<fL:=au hb.2.2;have h6:o+s<=cs.length:=hA _ (by simp);simp only[storeAt,hm,h1,h2];rw[aG ⟨h3,h4,h5⟩,aG h6]
   . cases e
 . cases e
def qE(uz:Nat)(y:Nat):Option V->Option (ah×Nat)
 |none=>some ([],uz)
 |some (.int _ i)=>some ([0<=i/\i<=y],i.toNat)
 |some _=>none
theorem oI{uz y r:Nat}{o:Option V}{A:ah}(e:qE uz y o=some (A,r))(hA:∀a∈A,a):eK uz y o=some r:=by
 unfold qE at e;split at e
 . simp only[an,aB]at e;obtain⟨_,rfl⟩:=e;rfl
 . obtain⟨rfl,rfl⟩:=fc e;simp only[eK,aG (hA _ (aq.2 rfl))]
 . cases e
def Ag(s:Nat)(f:Bool)(cO:Nat)(cs:ai)(lo hi mx:Option V):Option (ah×V):=
 match mx with
 |none=>match qE cO cO hi with
  |some (A,h)=>match qE 0 h lo with
   |some (B,l)=>some ((cs.length=cO*s)::(A++B),.dO (f&& !hi.isSome) (h-l) (dx cs (l*s) ((h-l)*s)))
   |none=>none
  |none=>none
 |some mv=>match qE cO cO (some mv),hi with
  |some (C,m),some hv=>match qE cO m (some hv)with
   |some (A,h)=>match qE 0 h lo with
    |some (B,l)=>some ((cs.length=cO*s)::(h=m)::(C++(A++B)),.dO true (h-l) (dx cs (l*s) ((h-l)*s)))
    |none=>none
   |none=>none
  |_,_=>none
theorem Gr{P:Program}{t el:TypeId}{s cO:Nat}{f:Bool}{cs:ai}{lo hi mx:Option V}{h:Tr O}{A:ah}{v:V}(hu:P.underlying t=some (.slice el))(hs:kQ P el=some s)
  (e:Ag s f cO cs lo hi mx=some (A,v)) (hA:∀a∈A,a):mC P t h (.dO f cO cs) lo hi mx=some v:=by
 unfold Ag at e;split at e
 . split at e
   case h_2=>cases e
   rename_i A1 hh h1;split at e
   case h_2=>cases e
   rename_i B1 l h2;obtain⟨rfl,rfl⟩:=fc e;have k1:=oI h1 fun a ha=>hA a (by simp[ha]);have k2:=oI h2 fun a ha=>hA a (by simp[ha]);have k3:cs.length=cO*s:=hA _ (by simp);unfold mC;rw[aI (by simp)];simp only[hu,hs,aG k3,k1,k2,dx]
 . split at e
   case h_2=>cases e
   rename_i C m hv h0;split at e
   case h_2=>cases e
   rename_i A1 hh h1;split at e
   case h_2=>cases e
   rename_i B1 l h2;obtain⟨rfl,rfl⟩:=fc e;have k0:=oI h0 fun a ha=>hA a (by simp[ha]);have k1:=oI h1 fun a ha=>hA a (by simp[ha]);have k2:=oI h2 fun a ha=>hA a (by simp[ha]);have k3:cs.length=cO*s:=hA _ (by simp);have k4:hh=m:=hA _ (by simp);unfold mC;rw[aI (by simp)];simp only[hu,hs,aG k3,k0,k1,k2,aG k4,dx]
def Qp(P:Program)(t:TypeId):Bool:=match P.underlying t with
 |some (.slice _)=>true
 |_=>false
def Kr(P:Program)(o:Oper)(fr:Tr V)(h:Tr O)(n:Nat):Option (ah×R):=
 match o.op with
 | .load t a=>match iI fr a with
   |some (.ptr (some (m,off)))=>match h.get m with
    |some (.deep cs)=>match CS P t cs off with
     |some (p,v)=>some ([p],.val v h n)
     |none=>none
    |_=>oh P o fr h n
   |_=>oh P o fr h n
 | .store t a x=>match iI fr a,iI fr x with
   |some (.ptr (some (m,off))),some v=>match h.get m with
    |some (.deep cs)=>match Af P t h v m off cs with
     |some (A,h')=>some (A,.val (.ew []) h' n)
     |none=>none
    |_=>oh P o fr h n
   |_,_=>oh P o fr h n
 | .indexAddr t x i=>match iI fr x,iI fr i with
   |some (.dO _ cO cs),some (.int _ ix)=>match ve P t with
    |some s=>some ([0<=ix/\ix<cO,cs.length=cO*s],.val (.dm (dx cs (ix.toNat*s) s)) h n)
    |none=>none
   |_,_=>oh P o fr h n
 | .slice t x lo hi mx=>match iI fr x with
   |some (.dO f cO cs)=>match ve P t,mE fr lo,mE fr hi,mE fr mx with
    |some s,some lo,some hi,some mx=>match Ag s f cO cs lo hi mx with
     |some (A,v)=>some (A,.val v h n)
     |none=>none
    |_,_,_,_=>none
   |_=>oh P o fr h n
 | .convert LY dst x=>match iI fr x with
   |some (.dj (some (m,off)) cO _ jx)=>match uy (h.get m)with
    |some s0=>match P.underlying LY,P.underlying dst,Nat.beq jx 1 with
     |some (.slice e),some .string,true=>match P.underlying e with
      |some (.int .u8)=>some ([off+cO<=s0.length],.val (.str ((s0.drop off).take cO)) h n)
      |_=>none
     |_,_,_=>none
    |none=>match AI (h.get m)with
    |some ks=>match P.underlying LY,P.underlying dst,Nat.beq jx 1 with
     |some (.slice e),some .string,true=>match P.underlying e with
      |some (.int .u8)=>some ([off+cO<=ks.length],.val (.str (eN ((ks.drop off).take cO))) h n)
      |_=>none
     |_,_,_=>none
    |none=>oh P o fr h n
   |_=>oh P o fr h n
 | .call c=>match c.callee,uF fr c.args.toList with
   | .builtin .unsafeSliceData,some [.dj (some (m,off)) _ cP _]=>some ([0<cP],.val (.ptr (some (m,off))) h n)
   | .builtin .unsafeString,some [.ptr (some (m,0)),.int .i64 l]=>match c.argTypes[0]? with
     |some pt=>match P.underlying pt,h.get m with
      |some (.pointer e),some (.iU el _ s)=>match decide (el=e)&&(Nat.beq (P.cellsOf e) 1&&(Nat.blt m fL&&Nat.beq c.argTypes.size 2))with
       |true=>some ([l=s.length/\0<s.length,s.length<=w9],.val (.str s) (h.set m (some (.iU el true s))) n)
       |false=>none
      |_,_=>none
     |none=>none
   |_,_=>oh P o fr h n
 | .binOp .eql t x y _=>match iI fr x,iI fr y with
   |some (.dO _ k _),some (.dj none _ _ _)=>match Qp P t with
    |true=>some ([0<k],.val (.bool false) h n)
    |false=>none
   |_,_=>oh P o fr h n
 |_=>oh P o fr h n
theorem Uq{P:Program}{d:Nat}{t el:TypeId}{f:Bool}{k l c e:Nat}{cs:ai}(hu:P.underlying t=some (.slice el)):LX P (d+1) t (.dO f (k+1) cs) (.dj none l c e)=some false:=by
 simp only[LX,hu]
theorem NY{P:Program}{o:Oper}{fr:Tr V}{h:Tr O}{n:Nat}{l:ah}{r:R}(e:Kr P o fr h n=some (l,r))(hl:∀p∈l,p):dz P o fr h n=some r:=by
 unfold Kr at e;split at e
 . rename_i t a ho;split at e
   . rename_i m off ha;split at e
     . rename_i cs hm;split at e
       . rename_i p v hs;obtain⟨rfl,rfl⟩:=fc e;have hp:p:=hl _ (aq.2 rfl);simp only[dz,ho,ha,loadAt,hm,Ip hs hp,mT]
       . cases e
     . exact jZ e hl
   . exact jZ e hl
 . rename_i t a x ho;split at e
   . rename_i m off v ha hx;split at e
     . rename_i cs hm;split at e
       . rename_i A h' hs;obtain⟨rfl,rfl⟩:=fc e;simp only[dz,ho,ha,hx,Gq hm hs hl]
       . cases e
     . exact jZ e hl
   . exact jZ e hl
 . rename_i t x i ho;split at e
   . rename_i f cO cs k ix hx hi;split at e
     . rename_i s hs;obtain⟨rfl,rfl⟩:=fc e;obtain⟨el,h1,h2⟩:=qa hs;have k1:=hl _ (aP ..);have k2:=hl _ (aJ _ (aq.2 rfl));simp only[dz,ho,hx,hi,nU,h1,h2,mT];rw[aG ⟨k1,k2⟩];rfl
     . cases e
   . exact jZ e hl
 . rename_i t x lo hi mx ho;split at e
   . rename_i f cO cs hx;split at e
     . rename_i s lov hiv mxv hs h1 h2 h3;split at e
       . rename_i A v hv;obtain⟨rfl,rfl⟩:=fc e;obtain⟨el,k1,k2⟩:=qa hs;simp only[dz,ho,hx,h1,h2,h3,Gr k1 k2 hv hl,mT]
       . cases e
     . cases e
   . exact jZ e hl
 . rename_i LY dst x ho;split at e
   . rename_i m off cO cp jx hx;split at e
     . rename_i s0 FY;split at e
       . rename_i el h1 h2 h3;split at e
         . rename_i h4;obtain⟨rfl,rfl⟩:=fc e;have k1:=hl _ (aq.2 rfl);simp only[dz,ho,hx,qg,h1,h2,h4,aG (aD h3),FY];rw[aG (Or.inr k1)]
         . cases e
       . cases e
     . rename_i FY;split at e
       . rename_i ks DY;split at e
         . rename_i el h1 h2 h3;split at e
           . rename_i h4;obtain⟨rfl,rfl⟩:=fc e;have k1:=hl _ (aq.2 rfl);simp only[dz,ho,hx,qg,h1,h2,h4,aG (aD h3),FY,DY];rw[aG (Or.inr k1)]
           . cases e
         . cases e
       . exact jZ e hl
   . exact jZ e hl
 . rename_i c ho;split at e
   . rename_i m off x1 cP x2 hc ha;obtain⟨rfl,rfl⟩:=fc e;have k1:=hl _ (aq.2 rfl);simp only[dz,ho,wL,ha,hc,lj,aG k1]
   . rename_i m l hc ha;split at e
     . rename_i pt Za;split at e
       . rename_i e0 el x1 s hp hm;split at e
         . rename_i hb;obtain⟨rfl,rfl⟩:=fc e;simp only[aC,bC]at hb;have k1:=hl _ (aP ..);have k2:=hl _ (aJ _ (aq.2 rfl));simp only[dz,ho,wL,ha,hc,lj,Za,hp,hm];rw[aG ⟨k1,⟨hb.1,aD hb.2.1⟩,au hb.2.2.1,aD hb.2.2.2,k2⟩]
         . cases e
       . cases e
     . cases e
   . exact jZ e hl
 . rename_i t x y _ ho;split at e
   . rename_i f k cs z1 z2 z3 hx hy;split at e
     . rename_i hq;obtain⟨rfl,rfl⟩:=fc e;have k1:0<k:=hl _ (aq.2 rfl);obtain⟨k',rfl⟩:∃k',k=k'+1:=⟨k-1,be⟩;unfold Qp at hq;split at hq
       . rename_i el hu;simp only[dz,ho,hx,hy,B2,FN,Uq (d:=9999) hu,bh,mT]
       . cases hq
     . cases e
   . exact jZ e hl
 . exact jZ e hl
def NZ(P:Program)(o:Oper)(fr:Tr V)(h:Tr O)(n:Nat):M R:=match Kr P o fr h n with
 |some (l,r)=>some [(⟨[],[],l⟩,r)]
 |none=>none
theorem tx(P:Program)(o:Oper)(fr:Tr V)(h:Tr O)(n:Nat):fu (NZ P o fr h n) (dz P o fr h n):=by
 intro l e;unfold NZ at e;split at e
 . rename_i a r hs;obtain rfl:=eo e;refine⟨⟨_,aq.2 rfl,fun c hc=>by simp at hc⟩,fun e he _ hg=>?_⟩;simp only[aq]at he;subst he;exact NY hs hg.2
 . cases e
section
variable(P:Program)(cs:fb)(cf:fM)(H:List (Nat×o8))
def N0(ops:Array Oper):List Oper->St->M (X×St)
 | [],s=>.ret (.normal,s)
 |o::rest,s=>
  match iy ops o s.fr with
  |some false=>match iV s.fr o.dst (.ew [])with
   |some fr=>N0 ops rest { s with fr:=fr }
   |none=>none
  |some true=>(NZ P o s.fr s.h s.n).then fun r=>match r with
   | .val v h n=>(Kq H o.dst v).then fun v=>match iV s.fr o.dst v with
     |some fr=>N0 ops rest { s with fr:=fr,h:=h,n:=n }
     |none=>none
   | .call f args=>(cs f args s.h s.n).then fun q=>(Kq H o.dst q.1).then fun v=>match iV s.fr o.dst v with
     |some fr=>N0 ops rest { s with fr:=fr,h:=q.2.1,n:=q.2.2 }
     |none=>none
   |_=>none
  |none=>none
theorem tA(o5:o9 cs cf)(ops:Array Oper):∀(l:List Oper) (s:St),fu (N0 P cs H ops l s) (ja P cf ops l s)
 | [],s=>.ret _
 |o::rest,s=>by
  simp only[N0,ja];rcases iy ops o s.fr with _|(_|_)
  . exact .none _
  . cases iV s.fr o.dst (.ew [])with
    |none=>exact .none _
    |some fr=>exact tA o5 ops rest _
  . refine qC (fu.then (tx P o s.fr s.h s.n) (g:=fun r=>match r with
     | .val v h n=>match iV s.fr o.dst v with
       |some fr=>ja P cf ops rest { s with fr:=fr,h:=h,n:=n }
       |none=>none
     | .call f args=>(pU (cf f args s.h s.n)).bind fun q=>match iV s.fr o.dst q.1 with
       |some fr=>ja P cf ops rest { s with fr:=fr,h:=q.2.1,n:=q.2.2 }
       |none=>none
     |_=>none) (fun r=>?_)) ?_
    . cases r with
      |val v h n=>
       refine(fu.then (qB H o.dst v) (g:=fun v=>match iV s.fr o.dst v with
        |some fr=>ja P cf ops rest { s with fr:=fr,h:=h,n:=n }
        |none=>none) (fun v=>?_)).of_eq rfl
       cases iV s.fr o.dst v with
       |none=>exact .none _
       |some fr=>exact tA o5 ops rest _
      |call f args=>
       refine fu.then (o5 f args s.h s.n) (fun q=>?_);refine(fu.then (qB H o.dst q.1) (g:=fun v=>match iV s.fr o.dst v with
        |some fr=>ja P cf ops rest { s with fr:=fr,h:=q.2.1,n:=q.2.2 }
        |none=>none) (fun v=>?_)).of_eq rfl
       cases iV s.fr o.dst v with
       |none=>exact .none _
       |some fr=>exact tA o5 ops rest _
      |my f c args=>exact .none _
      |recover=>exact .none _
      |panic v=>exact .none _
    . intro a ha;cases hs:dz P o s.fr s.h s.n with
      |none=>rw[hs]at ha;cases ha
      |some r=>
       rw[hs]at ha;cases r with
       |call f args=>
        simp only[tw]at ha ⊢;cases hj:cf f args s.h s.n with
        |none=>rw[hj]at ha;cases ha
        |some q=>
         rw[hj]at ha;obtain⟨tY,h,n⟩:=q;cases tY with
         |ret v=>exact ha
         |zM v=>cases ha
       |val v h n=>exact ha
       |_=>cases ha
section
variable(n0 i:Nat)(o:Oper)(fr:Tr V)
def Mj(v:V)(x:Tr O):M Unit:=
 (NZ P o fr x (n0+i)).then fun r=>match r with
  | .val u _ k=>match Nat.beq k (n0+i)&&v.qZ with
    |true=>some [(⟨[],[(u,v)],[]⟩,())]
    |false=>none
  |_=>none
theorem AZ(v:V)(x:Tr O):fu (Mj P n0 i o fr v x) (if mL P n0 i o fr v x=true then some ()else none):=by
 unfold Mj;refine(fu.then (tx P o fr x (n0+i)) (g:=fun r=>if(match r with | .val u _ k=>Nat.beq k (n0+i)&&V.beq u v|_=>false)=true then some ()else none) (fun r=>?_)).of_eq ?_
 . cases r with
   |val u h k=>
    simp only;split
    . rename_i hb;simp only[aC]at hb;intro l e;obtain rfl:=eo e;refine⟨⟨_,aq.2 rfl,fun c hc=>by simp at hc⟩,fun e he _ hg=>?_⟩;simp only[aq]at he;subst he;have:u=v:=hg.1 (u,v) (aq.2 rfl);subst this;rw[aG (by rw[hb.1,V.beq_refl u hb.2];rfl)]
    . exact .none _
   |_=>exact .none _
 . unfold mL;cases dz P o fr x (n0+i)with
   |none=>rfl
   |some r=>cases r<;>rfl
end
def Iq(n0 i:Nat)(o:Oper)(fr:Tr V)(v:V)(cW:af)(gX:Nat):List (Nat×Nat×Tr O)->M Unit
 | []=>.ret ()
 |(e,m,x)::r=>match dY gX e with
  |true=>.ret ()
  |false=>(Mj P n0 i o fr v (gO n0 cW m x gX)).then fun _=>Iq n0 i o fr v cW gX r
theorem A2(n0 i:Nat)(o:Oper)(fr:Tr V)(v:V)(cW:af)(gX:Nat):∀l:List (Nat×Nat×Tr O),fu (Iq P n0 i o fr v cW gX l) (if qj P n0 i o fr v cW gX l=true then some ()else none)
 | []=>(fu.ret ()).of_eq rfl
 |(e,m,x)::r=>by
  simp only[Iq,qj];rcases Bool.eq_false_or_eq_true (dY gX e)with hb|hb
  . simp only[hb,if_true];exact .ret ()
  . simp only[hb,aO,cG];refine(fu.then (AZ P n0 i o fr v _) (fun _=>A2 n0 i o fr v cW gX r)).of_eq ?_;cases mL P n0 i o fr v (gO n0 cW m x gX)<;>cases qj P n0 i o fr v cW gX r<;>rfl
def CT(n0:Nat)(cW:af)(m:Nat)(x:Tr O):List (Nat×Nat×Oper×Tr V×V)->M Unit
 | []=>.ret ()
 |(j,gX,o,fr,v)::r=>match dY m j with
  |true=>CT n0 cW m x r
  |false=>(Mj P n0 j o fr v (gO n0 cW m x gX)).then fun _=>CT n0 cW m x r
theorem tB(n0:Nat)(cW:af)(m:Nat)(x:Tr O):∀l:List (Nat×Nat×Oper×Tr V×V),fu (CT P n0 cW m x l) (if pK P n0 cW m x l=true then some ()else none)
 | []=>(fu.ret ()).of_eq rfl
 |(j,gX,o,fr,v)::r=>by
  simp only[CT,pK];rcases Bool.eq_false_or_eq_true (dY m j)with hb|hb
  . simp only[hb,Bool.true_or,Bool.true_and];exact tB n0 cW m x r
  . simp only[hb,Bool.false_or];refine(fu.then (AZ P n0 j o fr v _) (fun _=>tB n0 cW m x r)).of_eq ?_;cases mL P n0 j o fr v (gO n0 cW m x gX)<;>cases pK P n0 cW m x r<;>rfl
def Gs(n0 i gX:Nat)(o:Oper)(s:Dr)(v:V)(h:Tr O)(n:Nat):M Dr:=
 match iV s.fr o.dst v with
 |some fr=>(CT P n0 s.cW gX h s.reads).then fun _=>
   .ret { fr:=fr,ef:=s.ef++[gX],cur:=(gX,h),pJ:=(i,s.cur.1,s.cur.2)::s.pJ,last:=some i,cW:=s.cW,reads:=s.reads,n:=n }
 |none=>none
theorem yV(n0 i gX:Nat)(o:Oper)(s:Dr)(v:V)(h:Tr O)(n:Nat):fu (Gs P n0 i gX o s v h n) (kH P n0 i gX o s v h n):=by
 unfold Gs kH;cases iV s.fr o.dst v with
 |none=>exact .none _
 |some fr=>
  refine(fu.then (tB P n0 s.cW gX h s.reads) (g:=fun _=>some _) (fun _=>.ret _)).of_eq ?_;cases pK P n0 s.cW gX h s.reads<;>rfl
def Qq(ops:Array Oper)(n0 i:Nat)(o:Oper)(s:Dr):M Dr:=
 match iy ops o s.fr with
 |some false=>match iV s.fr o.dst (.ew [])with
  |some fr=>.ret { s with fr:=fr,ef:=s.ef++[eM s.ef o.after.toList] }
  |none=>none
 |some true=>
  match qR o.op with
  |true=>match zN (eM s.ef o.after.toList) s.last with
   |true=>(NZ P o s.fr (gO n0 s.cW s.cur.1 s.cur.2 (eM s.ef o.after.toList)) s.n).then fun r=>match r with
    | .val v h n=>(Kq H o.dst v).then fun v=>Gs P n0 i (eM s.ef o.after.toList) o s v h n
    | .call f args=>(cs f args (gO n0 s.cW s.cur.1 s.cur.2 (eM s.ef o.after.toList)) s.n).then fun q=>(Kq H o.dst q.1).then fun v=>Gs P n0 i (eM s.ef o.after.toList) o s v q.2.1 q.2.2
    |_=>none
   |false=>none
  |false=>(NZ P o s.fr (gO n0 s.cW s.cur.1 s.cur.2 (eM s.ef o.after.toList)) (n0+i)).then fun r=>match r with
   | .val v h k=>(Kq H o.dst v).then fun v=>match iV s.fr o.dst v with
     |some fr=>match Nat.beq k (n0+i)with
      |true=>match qi o.op with
       |true=>.ret { s with fr:=fr,ef:=s.ef++[eM s.ef o.after.toList] }
       |false=>(Iq P n0 i o s.fr v s.cW (eM s.ef o.after.toList) s.pJ).then fun _=>
         .ret { s with fr:=fr,ef:=s.ef++[eM s.ef o.after.toList],reads:=(i,eM s.ef o.after.toList,o,s.fr,v)::s.reads }
      |false=>match h.get (n0+i)with
       |some b=>match b.wr with
        |true=>.ret { s with fr:=fr,ef:=s.ef++[eM s.ef o.after.toList],cW:=(i,b)::s.cW }
        |false=>none
       |none=>none
     |none=>none
   |_=>none
 |none=>none
theorem Ir(o5:o9 cs cf)(ops:Array Oper)(n0 i:Nat)(o:Oper)(s:Dr):fu (Qq P cs H ops n0 i o s) (NW (uG P cf ops n0 i o s)):=by
 unfold Qq uG;rcases iy ops o s.fr with _|(_|_)
 . exact .none _
 . cases iV s.fr o.dst (.ew [])with
   |none=>exact .none _
   |some fr=>exact(fu.ret _).of_eq rfl
 . cases qR o.op with
   |true=>
    rcases Bool.eq_false_or_eq_true (zN (eM s.ef o.after.toList) s.last)with hb|hb
    rotate_left
    . simp only[hb];exact .none _
    . simp only[hb,if_true];refine(fu.then (tx P o s.fr _ s.n) (g:=fun r=>match r with
       | .val v h n=>kH P n0 i (eM s.ef o.after.toList) o s v h n
       | .call f args=>(pU (cf f args (gO n0 s.cW s.cur.1 s.cur.2 (eM s.ef o.after.toList)) s.n)).bind fun q=>kH P n0 i (eM s.ef o.after.toList) o s q.1 q.2.1 q.2.2
       |_=>none) (fun r=>?_)).of_eq ?_
      . cases r with
        |val v h n=>exact(fu.then (qB H o.dst v) (g:=fun v=>kH P n0 i (eM s.ef o.after.toList) o s v h n) (fun v=>yV P n0 i _ o s v h n)).of_eq rfl
        |call f args=>
         refine fu.then (o5 f args _ s.n) (fun q=>?_);exact(fu.then (qB H o.dst q.1) (g:=fun v=>kH P n0 i (eM s.ef o.after.toList) o s v q.2.1 q.2.2) (fun v=>yV P n0 i _ o s v q.2.1 q.2.2)).of_eq rfl
        |_=>exact .none _
      . cases dz P o s.fr (gO n0 s.cW s.cur.1 s.cur.2 (eM s.ef o.after.toList)) s.n with
        |none=>rfl
        |some r=>
         cases r with
         |val v h n=>
          simp only[tw];cases kH P n0 i (eM s.ef o.after.toList) o s v h n<;>rfl
         |call f args=>
          simp only[tw];cases cf f args (gO n0 s.cW s.cur.1 s.cur.2 (eM s.ef o.after.toList)) s.n with
          |none=>rfl
          |some q=>
           obtain⟨tY,h,n⟩:=q;cases tY with
           |ret v=>
            simp only[pU,tw];cases kH P n0 i (eM s.ef o.after.toList) o s v h n<;>rfl
           |zM v=>simp only;split<;>rfl
         |_=>rfl
   |false=>
    simp only[aO,cG];have body:∀(v:V) (h:Tr O) (k:Nat),fu (match iV s.fr o.dst v with
      |some fr=>match Nat.beq k (n0+i)with
       |true=>match qi o.op with
        |true=>M.ret { s with fr:=fr,ef:=s.ef++[eM s.ef o.after.toList] }
        |false=>(Iq P n0 i o s.fr v s.cW (eM s.ef o.after.toList) s.pJ).then fun _=>
          .ret { s with fr:=fr,ef:=s.ef++[eM s.ef o.after.toList],reads:=(i,eM s.ef o.after.toList,o,s.fr,v)::s.reads }
       |false=>match h.get (n0+i)with
        |some b=>match b.wr with
         |true=>M.ret { s with fr:=fr,ef:=s.ef++[eM s.ef o.after.toList],cW:=(i,b)::s.cW }
         |false=>none
        |none=>none
      |none=>none) (NW (match iV s.fr o.dst v with
       |some fr=>
        if Nat.beq k (n0+i)=true then
         if qi o.op=true then(some (.inl { s with fr:=fr,ef:=s.ef++[eM s.ef o.after.toList] }):Option (Dr ⊕ (Tr V×V×Tr O×Nat)))
         else if qj P n0 i o s.fr v s.cW (eM s.ef o.after.toList) s.pJ=true then
          some (.inl { s with fr:=fr,ef:=s.ef++[eM s.ef o.after.toList],reads:=(i,eM s.ef o.after.toList,o,s.fr,v)::s.reads })
         else mZ o
        else match h.get (n0+i)with
         |some b=>if b.wr=true then some (.inl { s with fr:=fr,ef:=s.ef++[eM s.ef o.after.toList],cW:=(i,b)::s.cW })else mZ o
         |none=>mZ o
       |none=>mZ o)):=by
     intro v h k;cases iV s.fr o.dst v with
     |none=>exact .none _
     |some fr=>
      simp only;cases Nat.beq k (n0+i)with
      |true=>
       simp only[if_true];cases qi o.op with
       |true=>exact(fu.ret _).of_eq rfl
       |false=>
        refine(fu.then (A2 P n0 i o s.fr v s.cW _ s.pJ) (g:=fun _=>some _) (fun _=>.ret _)).of_eq ?_;simp only[aO,cG];cases qj P n0 i o s.fr v s.cW (eM s.ef o.after.toList) s.pJ<;>rfl
      |false=>
       simp only[aO,cG];cases h.get (n0+i)with
       |none=>exact .none _
       |some b=>
        simp only;cases b.wr with
        |true=>exact(fu.ret _).of_eq rfl
        |false=>exact .none _
    refine(fu.then (tx P o s.fr _ (n0+i)) (g:=fun r=>match r with
     | .val v h k=>NW (match iV s.fr o.dst v with
        |some fr=>
         if Nat.beq k (n0+i)=true then
          if qi o.op=true then(some (.inl { s with fr:=fr,ef:=s.ef++[eM s.ef o.after.toList] }):Option (Dr ⊕ (Tr V×V×Tr O×Nat)))
          else if qj P n0 i o s.fr v s.cW (eM s.ef o.after.toList) s.pJ=true then
           some (.inl { s with fr:=fr,ef:=s.ef++[eM s.ef o.after.toList],reads:=(i,eM s.ef o.after.toList,o,s.fr,v)::s.reads })
          else mZ o
         else match h.get (n0+i)with
          |some b=>if b.wr=true then some (.inl { s with fr:=fr,ef:=s.ef++[eM s.ef o.after.toList],cW:=(i,b)::s.cW })else mZ o
          |none=>mZ o
        |none=>mZ o)
     |_=>none) (fun r=>?_)).of_eq ?_
    . cases r with
      |val v h k=>exact(fu.then (qB H o.dst v) (g:=fun v=>NW (match iV s.fr o.dst v with
        |some fr=>
         if Nat.beq k (n0+i)=true then
          if qi o.op=true then(some (.inl { s with fr:=fr,ef:=s.ef++[eM s.ef o.after.toList] }):Option (Dr ⊕ (Tr V×V×Tr O×Nat)))
          else if qj P n0 i o s.fr v s.cW (eM s.ef o.after.toList) s.pJ=true then
           some (.inl { s with fr:=fr,ef:=s.ef++[eM s.ef o.after.toList],reads:=(i,eM s.ef o.after.toList,o,s.fr,v)::s.reads })
          else mZ o
         else match h.get (n0+i)with
          |some b=>if b.wr=true then some (.inl { s with fr:=fr,ef:=s.ef++[eM s.ef o.after.toList],cW:=(i,b)::s.cW })else mZ o
          |none=>mZ o
        |none=>mZ o)) (fun v=>body v h k)).of_eq rfl
      |_=>exact .none _
    . cases dz P o s.fr (gO n0 s.cW s.cur.1 s.cur.2 (eM s.ef o.after.toList)) (n0+i)with
      |none=>rfl
      |some r=>cases r<;>rfl
def Gt(ops:Array Oper)(n0:Nat):List Oper->Nat->Dr->M Dr
 | [],_,s=>.ret s
 |o::r,i,s=>(Qq P cs H ops n0 i o s).then fun s'=>Gt ops n0 r (i+1) s'
theorem yW(o5:o9 cs cf)(ops:Array Oper)(n0:Nat):∀(l:List Oper) (i:Nat) (s:Dr),fu (Gt P cs H ops n0 l i s) (NW (qT P cf ops n0 l i s))
 | [],i,s=>(fu.ret s).of_eq rfl
 |o::r,i,s=>by
  simp only[Gt,qT];refine(fu.then (Ir P cs cf H o5 ops n0 i o s) (fun s'=>yW o5 ops n0 r (i+1) s')).of_eq ?_;cases uG P cf ops n0 i o s with
  |none=>rfl
  |some q=>cases q<;>rfl
def j9(F:Nat):Code->St->M (X×St)
 | .region _ ops false,s=>N0 P cs H ops ops.toList s
 | .region _ ops true,s=>match decide (s.n+ops.size<fL)with
   |true=>(Gt P cs H ops s.n ops.toList 0 { fr:=s.fr,ef:=[],cur:=(0,s.h),pJ:=[],last:=none,cW:=[],reads:=[],n:=s.n+ops.size }).then fun d=>
     .ret (.normal,{ fr:=d.fr,h:=gO s.n d.cW d.cur.1 d.cur.2 (2^ops.size-1),n:=d.n,gz:=s.gz })
   |false=>none
 | .seq a b,s=>(j9 F a s).then fun p=>match p.1 with
   | .normal=>j9 F b p.2
   |_=>.ret p
 | .cond c a b,s=>match iI s.fr c with
   |some (.bool true)=>j9 F a s
   |some (.bool false)=>j9 F b s
   |_=>none
 | .block id body,s=>(j9 F body s).then fun p=>match p.1 with
   | .exit id'=>if id'=id then .ret (.normal,p.2)else .ret p
   |_=>.ret p
 | .loop body,s=>BI (j9 F body) F s
 | .skip,s=>.ret (.normal,s)
 | .exit id,s=>.ret (.exit id,s)
 | .ret,s=>.ret (.ret,s)
 | .rangeFunc g ps assign body,s=>match iI s.fr g with
   |some (.fn (.func gf) [] lb)=>match callee P gf&&decide (s.n+1<fL)with
    |true=>(cs gf (.fn (.yield (s.n+1)) [] []::lb) ((s.h.set s.n (some .my)).set (s.n+1) (some (.loop true none s.fr ps.toList assign body))) (s.n+2)).then fun q=>match q.2.1.get s.n,q.2.1.get (s.n+1)with
     |some .my,some (.loop true none _ _ _ _)=>.ret (.normal,{ s with h:=q.2.1.set (s.n+1) none,n:=q.2.2,gz:=(fL,[],[.map (some s.n)])::s.gz })
     |some .my,some (.loop false (some .ret) _ _ _ _)=>.ret (.ret,{ s with h:=q.2.1.set (s.n+1) none,n:=q.2.2,gz:=(fL,[],[.map (some s.n)])::s.gz })
     |some .my,some (.loop false (some (.exit id)) _ _ _ _)=>.ret (.exit id,{ s with h:=q.2.1.set (s.n+1) none,n:=q.2.2,gz:=(fL,[],[.map (some s.n)])::s.gz })
     |_,_=>none
    |false=>none
   |_=>none
 |_,_=>none
theorem oJ(o5:o9 cs cf)(F:Nat):∀(c:Code) (s:St),fu (j9 P cs H F c s) (jb P cf F c s):=by
 intro c
 induction c with
 |region id ops JR=>
  intro s;cases JR with
  |false=>exact tA P cs cf H o5 ops ops.toList s
  |true=>
   simp only[j9,jb,drawn];by_cases fF:s.n+ops.size<fL
   . simp only[bM fF,aG fF];refine qC (fu.then (yW P cs cf H o5 ops s.n ops.toList 0 _) (g:=fun d=>some (.normal,{ fr:=d.fr,h:=gO s.n d.cW d.cur.1 d.cur.2 (2^ops.size-1),n:=d.n,gz:=s.gz })) (fun d=>.ret _)) ?_;intro d hd;cases hq:qT P cf ops s.n ops.toList 0 { fr:=s.fr,ef:=[],cur:=(0,s.h),pJ:=[],last:=none,cW:=[],reads:=[],n:=s.n+ops.size }with
     |none=>rw[hq]at hd;cases hd
     |some q=>
      rw[hq]at hd;cases q with
      |inl d'=>simp only[NW,Option.bind_some]at hd;simp only;exact hd
      |inr _=>cases hd
   . simp only[bD fF];exact .none _
 |seq a b iha ihb=>
  intro s;simp only[j9,jb];refine(fu.then (iha s) (g:=fun p=>match p.1 with | .normal=>jb P cf F b p.2|_=>some p) (fun p=>?_)).of_eq ?_
  . obtain⟨x,s'⟩:=p;cases x with
    |normal=>exact ihb s'
    |_=>exact .ret _
  . cases jb P cf F a s with
    |none=>rfl
    |some p=>obtain⟨x,s'⟩:=p;cases x<;>rfl
 |cond c a b iha ihb=>
  intro s;simp only[j9,jb];cases iI s.fr c with
  |none=>exact .none _
  |some v=>
   cases v with
   |bool t=>
    cases t with
    |true=>exact iha s
    |false=>exact ihb s
   |_=>exact .none _
 |block id c ih=>
  intro s;simp only[j9,jb];refine(fu.then (ih s) (g:=fun p=>match p.1 with | .exit id'=>if id'=id then some (.normal,p.2)else some p|_=>some p) (fun p=>?_)).of_eq ?_
  . obtain⟨x,s'⟩:=p;cases x with
    |exit j=>
     simp only;by_cases hj:j=id
     . simp only[aG hj];exact .ret _
     . simp only[aI hj];exact .ret _
    |_=>exact .ret _
  . cases jb P cf F c s with
    |none=>rfl
    |some p=>obtain⟨x,s'⟩:=p;cases x<;>rfl
 |loop c ih=>
  intro s;simp only[j9,jb];exact wS ih F s
 |skip=>intro s;exact .ret _
 |exit id=>intro s;exact .ret _
 |ret=>intro s;exact .ret _
 |rangeFunc g ps assign body _ _=>
  intro s;simp only[j9,jb];split
  . rename_i gf lb hg;rw[hg];simp only;split
    . rename_i hq;simp only[aC,bC]at hq;rw[aG hq];refine qC (fu.then (o5 gf _ _ (s.n+2)) (g:=fun q=>match q.2.1.get s.n,q.2.1.get (s.n+1)with
       |some .my,some (.loop true none _ _ _ _)=>some (.normal,{ s with h:=q.2.1.set (s.n+1) none,n:=q.2.2,gz:=(fL,[],[.map (some s.n)])::s.gz })
       |some .my,some (.loop false (some .ret) _ _ _ _)=>some (.ret,{ s with h:=q.2.1.set (s.n+1) none,n:=q.2.2,gz:=(fL,[],[.map (some s.n)])::s.gz })
       |some .my,some (.loop false (some (.exit id)) _ _ _ _)=>some (.exit id,{ s with h:=q.2.1.set (s.n+1) none,n:=q.2.2,gz:=(fL,[],[.map (some s.n)])::s.gz })
       |_,_=>none) (fun q=>?_)) ?_
      . split<;>first|exact .ret _|exact .none _
      . intro a ha;cases hc:cf gf (.fn (.yield (s.n+1)) [] []::lb) ((s.h.set s.n (some .my)).set (s.n+1) (some (.loop true none s.fr ps.toList assign body))) (s.n+2)with
        |none=>rw[hc]at ha;cases ha
        |some q=>
         rw[hc]at ha;obtain⟨tY,h,n⟩:=q;cases tY with
         |zM v=>cases ha
         |ret v=>
          simp only[pU,Option.bind_some]at ha;simp only;split at ha<;>first|(rename_i h1 h2;simp only[h1,h2];exact ha)|cases ha
    . exact .none _
  . exact .none _
 |_=>intro s;exact .none _
end
def vh(P:Program)(fn:Func)(fr:Tr V):List (FuncId×ag×ag)->Tr O->Nat->Option (V×Tr O×Nat)
 | [],h,n=>match lp P fr h fn.results.toList with
   |some vs=>some (oneOf vs,h,n)
   |none=>none
 |(g,_,args)::ds,h,n=>match Nat.ble fL g with
  |true=>match args with
   | [.map (some b)]=>match h.get b with
     |some .my=>match Nat.blt b fL with
      |true=>vh P fn fr ds (h.set b none) n
      |false=>none
     |_=>none
   |_=>none
  |false=>none
theorem wc{P:Program}{cf:fM}{F:Nat}{fn:Func}{fr:Tr V}:∀{ds:List (FuncId×ag×ag)} {h:Tr O} {n:Nat} {r:V×Tr O×Nat},vh P fn fr ds h n=some r->nI P cf F fn fr ds .ret h n=some (.ret r.1,r.2.1,r.2.2)
 | [],h,n,r,e=>by
   unfold vh at e;unfold nI;split at e
   . rename_i vs hv;obtain rfl:=eo e;rw[hv]
   . cases e
 |(g,c,args)::ds,h,n,r,e=>by
  unfold vh at e;unfold nI;split at e
  case h_2=>cases e
  rename_i hg;rw[aG (au hg)];split at e
  case h_2=>cases e
  rename_i b;simp only;split at e
  case h_2=>cases e
  rename_i hb;rw[hb];simp only;split at e
  case h_2=>cases e
  rename_i fF;rw[aG (show b<fL from au fF)];exact wc e
abbrev jQ:=FuncId->ag->Tr O->Nat->Option (ah×V×Tr O×Nat)
def gd(P:Program)(S:jQ):Prop:=∀f args h n A v h' n',S f args h n=some (A,v,h',n')->f<P.funcs.size/\((∀a∈A,a)->
 ∀E w c9,dI E args c9->Good E h w->qN E n->callee P f=true->Calls P f c9.toArray w (jX E h n w (.ret v) h' n'))
def noW:jQ:=fun _ _ _ _=>none
theorem Qr(P:Program):gd P noW:=fun _ _ _ _ _ _ _ _ e=>by cases e
def kB(f:FuncId)(spec:ag->Tr O->Nat->Option (ah×V×Tr O×Nat))(S:jQ):jQ:=fun g args h n=>match Nat.beq g f with
 |true=>match spec args h n with
  |some r=>some r
  |none=>S g args h n
 |false=>S g args h n
def jL(P:Program)(f:FuncId)(spec:ag->Tr O->Nat->Option (ah×V×Tr O×Nat)):Prop:=f<P.funcs.size/\∀args h n A v h' n',spec args h n=some (A,v,h',n')->(∀a∈A,a)->
 ∀E w c9,dI E args c9->Good E h w->qN E n->callee P f=true->Calls P f c9.toArray w (jX E h n w (.ret v) h' n')
theorem fk{P:Program}{f:FuncId}{spec:ag->Tr O->Nat->Option (ah×V×Tr O×Nat)}{S:jQ}(hp:jL P f spec)(hS:gd P S):gd P (kB f spec S):=by
 intro g args h n A v h' n' e;unfold kB at e;split at e
 . rename_i hg;have hg:=aD hg;subst hg;split at e
   . rename_i r hr;cases e;exact⟨hp.1,hp.2 args h n A v h' n' hr⟩
   . exact hS g args h n A v h' n' e
 . exact hS g args h n A v h' n' e
def adN(P:Program)(fn:Func)(p:X×St):M (V×Tr O×Nat):=match p.1 with
 | .normal=>match vh P fn p.2.fr p.2.gz p.2.h p.2.n with
   |some r=>.ret r
   |none=>none
 | .ret=>match vh P fn p.2.fr p.2.gz p.2.h p.2.n with
   |some r=>.ret r
   |none=>none
 |_=>none
def Ks(P:Program)(cs:fb)(H:List (Nat×o8))(F:Nat)(f:FuncId)(args:ag)(h:Tr O)(n:Nat):M (V×Tr O×Nat):=
 match P.funcs[f]? with
 |some fn=>match fn.body with
  |some code=>match Nat.ble args.length fn.ntmps&&Nat.blt fn.ntmps fL with
   |true=>(j9 P cs H F code (cS args h n)).then (adN P fn)
   |false=>none
  |none=>none
 |none=>none
theorem Gu{P:Program}{cs:fb}{cf:fM}(o5:o9 cs cf)(H:List (Nat×o8))(F:Nat)(f:FuncId)(args:ag)(h:Tr O)(n:Nat):fu (Ks P cs H F f args h n) (pU (enter P cf F f args h n)):=by
 unfold Ks enter;split
 . rename_i fn hf;rw[hf];simp only;split
   . rename_i code hb;rw[hb];simp only;split
     . rename_i hq;simp only[aC]at hq;have hq':args.length<=fn.ntmps/\fn.ntmps<fL:=⟨au hq.1,au hq.2⟩;rw[aG hq'];refine qC (fu.then (oJ P cs cf H o5 F code (cS args h n)) (g:=fun p=>match p.1 with
        | .normal=>pU (nI P cf F fn p.2.fr p.2.gz .ret p.2.h p.2.n)
        | .ret=>pU (nI P cf F fn p.2.fr p.2.gz .ret p.2.h p.2.n)
        |_=>none) (fun p=>?_)) ?_
       . obtain⟨x,s⟩:=p;unfold adN;cases x with
         |normal=>
          simp only;split
          . rename_i r hr;refine(fu.ret r).of_eq ?_;rw[wc hr];rfl
          . exact .none _
         |ret=>
          simp only;split
          . rename_i r hr;refine(fu.ret r).of_eq ?_;rw[wc hr];rfl
          . exact .none _
         |_=>exact .none _
       . intro a ha;change ((jb P cf F code { fr:=lN args 0 .nil,h:=h,n:=n,gz:=[] }).bind _)=some a at ha;cases hx:jb P cf F code { fr:=lN args 0 .nil,h:=h,n:=n,gz:=[] }with
         |none=>rw[hx]at ha;cases ha
         |some p=>
          rw[hx]at ha;obtain⟨x,s⟩:=p;cases x<;>first|exact ha|cases ha
     . exact .none _
   . exact .none _
 . exact .none _
def Kt(P:Program)(cs:fb)(H:List (Nat×o8))(F m:Nat)(args:ag)(h:Tr O)(n:Nat):M (V×Tr O×Nat):=
 match h.get m with
 |some (.loop true none fr ps assign body)=>match(Nat.blt m fL&&Nat.beq ps.length args.length)&&(jS assign&&jS body)with
  |true=>match xe (JQ ps args) fr with
   |some zO=>(j9 P cs H F assign { fr:=zO,h:=h.set m none,n:=n,gz:=[] }).then fun p=>match p.1 with
    | .normal=>(j9 P cs H F body p.2).then fun q=>match q.1 with
      | .normal=>.ret (.bool true,q.2.h.set m (some (.loop true none fr ps assign body)),q.2.n)
      | .ret=>.ret (.bool false,q.2.h.set m (some (.loop false (some .ret) fr ps assign body)),q.2.n)
      | .exit id=>.ret (.bool false,q.2.h.set m (some (.loop false (some (.exit id)) fr ps assign body)),q.2.n)
      |_=>none
    |_=>none
   |none=>none
  |false=>none
 |_=>none
theorem Gv{P:Program}{cs:fb}{cf:fM}(o5:o9 cs cf)(H:List (Nat×o8))(F m:Nat)(args:ag)(h:Tr O)(n:Nat):fu (Kt P cs H F m args h n) (pU (xg P cf F m args h n)):=by
 unfold Kt xg;split
 . rename_i fr ps assign body hg;rw[hg];simp only;split
   . rename_i hq;simp only[aC]at hq;have hq':m<fL/\ps.length=args.length/\jS assign=true/\jS body=true:=⟨au hq.1.1,aD hq.1.2,hq.2.1,hq.2.2⟩;rw[aG hq'];split
     . rename_i zO rD;rw[rD];simp only;refine qC (fu.then (oJ P cs cf H o5 F assign _) (g:=fun p=>match p.1 with
        | .normal=>(jb P cf F body p.2).bind fun q=>match q.1 with
          | .normal=>some (.bool true,q.2.h.set m (some (.loop true none fr ps assign body)),q.2.n)
          | .ret=>some (.bool false,q.2.h.set m (some (.loop false (some .ret) fr ps assign body)),q.2.n)
          | .exit id=>some (.bool false,q.2.h.set m (some (.loop false (some (.exit id)) fr ps assign body)),q.2.n)
          |_=>none
        |_=>none) (fun p=>?_)) ?_
       . obtain⟨x,s⟩:=p;cases x with
         |normal=>
          refine fu.then (oJ P cs cf H o5 F body s) (fun q=>?_);obtain⟨y,s2⟩:=q;cases y<;>first|exact .ret _|exact .none _
         |_=>exact .none _
       . intro a ha;cases hx:jb P cf F assign { fr:=zO,h:=h.set m none,n:=n,gz:=[] }with
         |none=>rw[hx]at ha;cases ha
         |some p=>
          rw[hx]at ha;obtain⟨x,s⟩:=p;simp only[Option.bind_some]at ha;cases x with
          |normal=>
           simp only at ha ⊢;cases hy:jb P cf F body s with
           |none=>rw[hy]at ha;cases ha
           |some q=>
            rw[hy]at ha;obtain⟨y,s2⟩:=q;cases y<;>first|exact ha|cases ha
          |_=>cases ha
     . exact .none _
   . exact .none _
 . exact .none _
def gI(P:Program)(S:jQ)(HH:FuncId->List (Nat×o8))(F:Nat):Nat->fb
 |0=>fun _ _ _ _=>none
 |k+1=>fun f args h n=>match S f args h n with
  |some (A,r)=>some [(⟨[],[],A⟩,r)]
  |none=>match Nat.blt f P.funcs.size with
   |true=>Ks P (gI P S HH F k) (HH f) F f args h n
   |false=>Kt P (gI P S HH F k) (HH f) F (f-P.funcs.size) args h n
open Classical in
noncomputable def CU(P:Program)(S:jQ)(F:Nat):Nat->fM
 |0=>fun _ _ _ _=>none
 |k+1=>fun f args h n=>match S f args h n with
  |some (A,r)=>if ∀a∈A,a then some (.ret r.1,r.2.1,r.2.2)else none
  |none=>if f<P.funcs.size then enter P (CU P S F k) F f args h n else xg P (CU P S F k) F (f-P.funcs.size) args h n
theorem vi(P:Program)(S:jQ)(HH:FuncId->List (Nat×o8))(F:Nat):∀k,o9 (gI P S HH F k) (CU P S F k)
 |0=>fun _ _ _ _=>.none _
 |k+1=>by
  intro f args h n;simp only[gI,CU];cases hS:S f args h n with
  |some q=>
   obtain⟨A,v,h',n'⟩:=q;intro l e;obtain rfl:=eo e;refine⟨⟨_,aq.2 rfl,fun c hc=>by simp at hc⟩,fun e he _ hg=>?_⟩;simp only[aq]at he;subst he;simp only;rw[aG hg.2];rfl
  |none=>
   simp only;by_cases hf:f<P.funcs.size
   . have hb:Nat.blt f P.funcs.size=true:=Nat.ble_eq_true_of_le hf;rw[hb,aG hf];exact Gu (vi P S HH F k) (HH f) F f args h n
   . have hb:Nat.blt f P.funcs.size=false:=by
      cases hq:Nat.blt f P.funcs.size with
      |false=>rfl
      |true=>exact absurd (au hq) hf
     rw[hb,aI hf];exact Gv (vi P S HH F k) (HH f) F _ args h n
theorem Is{P:Program}{S:jQ}{F:Nat}(hm:P.follows .mixedOrders=true)(xB:lA P=true)(hS:gd P S):∀k,je P (CU P S F k)
 |0=>fun _ _ _ _ _ _ _ e=>by cases e
 |k+1=>by
  intro f args h n tY h' n' e E w c9 ra g hd;simp only[CU]at e;split at e
  . rename_i A r hs;obtain⟨v,h1,n1⟩:=r;split at e
    . rename_i hA;simp only[an,aB]at e;obtain⟨rfl,rfl,rfl⟩:=e;obtain⟨fF,CA⟩:=hS f args h n A v h1 n1 hs;exact⟨fun uQ=>CA hA E w c9 ra g hd uQ,fun m l s hfm _=>absurd fF (by rw[hfm];exact Nat.not_lt.2 (Nat.le_add_right _ _))⟩
    . cases e
  . exact Uk (F:=F) (Is hm xB hS k) hm xB f args h n tY h' n' e E w c9 ra g hd
structure CX(P:Program) where
 cs:fb
 cf:fM
 snd:o9 cs cf
 ok:je P cf
noncomputable def CX.of{P:Program}(hm:P.follows .mixedOrders=true)(xB:lA P=true){S:jQ}(hS:gd P S)(HH:FuncId->List (Nat×o8))(F k:Nat):CX P:=
 ⟨gI P S HH F k,CU P S F k,vi P S HH F k,Is hm xB hS k⟩
def TG(P:Program)(n0 N:Nat)(c:Code)(s:St)(Q:Exit->St->Prop):Prop:=
 ∀(E:Env) (a:Act) (w:World) (K:Exit->Act->World->Prop),jY E N s a w->n0<=s.n->
  (∀y s' E' a' w',Q y s'->lB n0 E s.h w E' s'.h w'->n0<=s'.n->jY E' N s' a' w'->K y a' w')->c.wp P K a w
section
variable{P:Program}{cf:fM}{F n0 N:Nat}{c:Code}{s s':St}{Q Q1:Exit->St->Prop}
theorem ff(h:TG P n0 N c s Q1)(hq:∀y s',Q1 y s'->Q y s'):TG P n0 N c s Q:=fun E a w K r hn k=>h E a w K r hn fun y s' E' a' w' q=>k y s' E' a' w' (hq y s' q)
theorem Mk(oF:je P cf)(hm:P.follows .mixedOrders=true){x:X}{y:Exit}(hc:eX N c=true)(e:jb P cf F c s=some (x,s'))(hx:x.plain=some y)(hq:Q y s'):TG P n0 N c s Q:=by
 intro E a w K r hn k;refine wpIn_wide (n:=0) |>.1 ?_;refine mJ (uR:=none) oF hm c s x s' (.inl rfl) hc e E a w K r fun E' a' w' x' u fJ pE r' sJ=>?_;have:x'=y:=by
  cases x<;>cases x'<;>simp only[NK,X.plain,an,reduceCtorEq]at sJ hx<;>first|exact hx|(subst sJ;exact hx)
 subst this;exact k _ s' E' a' w' hq (.of u fJ hn) (bV hn pE) r'
theorem c5{live:List Nat}{s2:St}(e:e9 n0 live s=some s2)(h:TG P n0 N c s2 Q):TG P n0 N c s Q:=by
 intro E a w K r hn k;obtain⟨_,xl,E2,r2,u2⟩:=qY e r;exact h E2 a w K r2 xl fun y s' E' a' w' q u pE r'=>k y s' E' a' w' q (u2.trans u) pE r'
theorem Qs{c1 c2:Code}(h:TG P n0 N c1 s (andThen (fun s'=>TG P n0 N c2 s' Q) Q)):TG P n0 N (.seq c1 c2) s Q:=by
 intro E a w K r hn k;refine wp_seq (h E a w _ r hn fun y s' E' a' w' q u pE r'=>?_);cases y<;>first|exact q E' a' w' K r' pE (fun y2 s2 E2 a2 w2 q2 u2 xl r2=>k y2 s2 E2 a2 w2 q2 (u.trans u2) xl r2)|exact k _ s' E' a' w' q u pE r'
theorem cV(hs:Mg c=true)(h:TG P n0 N (dK c) s (andThen (fun s'=>TG P n0 N (ee c) s' Q) Q)):TG P n0 N c s Q:=by
 cases c<;>simp only[Mg,aO]at hs;exact Qs h
theorem BJ{t:Bool}(hc:Qj c (fun _=>true)=true)(ho:iI s.fr (Xy c)=some (.bool t))(h1:t=true->TG P n0 N (Mh c) s Q)(h2:t=false->TG P n0 N (Xz c) s Q):TG P n0 N c s Q:=by
 cases c<;>simp only[Qj,aO]at hc;intro E a w K r hn k;cases t
 . exact wp_cond_false (oH r.good.jj r.fr ho) (h2 rfl E a w K r hn k)
 . exact wp_cond_true (oH r.good.jj r.fr ho) (h1 rfl E a w K r hn k)
theorem fg{i:Nat}(hc:BG c i=true)(h:TG P n0 N (dw c) s (mQ i Q)):TG P n0 N c s Q:=by
 cases c<;>simp only[BG,aO]at hc;rename_i j b;have:=aD hc;subst this;intro E a w K r hn k;refine wp_block (h E a w _ r hn fun y s' E' a' w' q u pE r'=>?_);cases y<;>first|exact k _ s' E' a' w' q u pE r'|skip
 simp only[Exit.inBlock,mQ]at q ⊢;split
 . rename_i he;rw[aG he]at q;exact k _ s' E' a' w' q u pE r'
 . rename_i he;rw[aI he]at q;exact k _ s' E' a' w' q u pE r'
def TGR(P:Program)(n0 N:Nat)(c:Code)(Q:Exit->St->Prop):Nat->St->Prop
 |0,_=>False
 |n+1,s=>TG P n0 N c s (andThen (fun s'=>TGR P n0 N c Q n s') Q)
theorem Ur(n:Nat)(hc:CO c=true)(h:TGR P n0 N (dw c) Q n s):TG P n0 N c s Q:=by
 cases c<;>simp only[CO,aO]at hc;rename_i b;intro E0 a w K r hn k;refine wp_loop_rounds n ?_;have key:∀(n:Nat) (s1:St) (E:Env) (a:Act) (w1:World),TGR P n0 N b Q n s1->jY E N s1 a w1->n0<=s1.n->lB n0 E0 s.h w E s1.h w1->Code.rounds P b K n a w1:=by
  intro n
  induction n with
  |zero=>intro s1 E a w1 h;exact h.elim
  |succ n ih=>
   intro s1 E a w1 h r hn u;rw[rounds_succ];refine h E a w1 _ r hn fun y s' E' a' w' q u' pE r'=>?_;cases y<;>first|exact ih s' E' a' w' q r' pE (u.trans u')|exact k _ s' E' a' w' q (u.trans u') pE r'
 exact key n s E0 a w h r hn (.refl r.good)
theorem gl(I:Nat->St->Prop)(hl:CO c=true)(h:∀k s,I k s->TG P n0 N (dw c) s (andThen (fun s'=>∃k',k'<k/\I k' s') Q))(k:Nat)(h0:I k s):TG P n0 N c s Q:=by
 refine Ur (k+1) hl ?_;have key:∀(k:Nat) (n:Nat) (s:St),k<n->I k s->TGR P n0 N (dw c) Q n s:=by
  intro k
  induction k using Nat.strongRecOn with
  |_ k ih=>
   intro n s hn hi;cases n with
   |zero=>omega
   |succ n=>
    simp only[TGR];refine ff (h k s hi) fun y s' hq=>?_;cases y with
    |normal=>
     obtain⟨k',hk,kF⟩:=hq;exact ih k' hk n s' be kF
    |_=>exact hq
 exact key k (k+1) s be h0
end
section
variable{P:Program}{X':CX P}{H:List (Nat×o8)}{F n0 N:Nat}{c:Code}{s:St}{Q:Exit->St->Prop}
inductive pb where
 |to (y:Exit) (s:St)
 |ret (v:V) (h:Tr O) (n:Nat)
 |bad
def Ku(P:Program)(n0:Nat)(fn:Func)(s:St):Option (V×Tr O×Nat):=match vh P fn s.fr s.gz s.h s.n with
 |some (v,h,n)=>match e9 n0 [0] { fr:=Tr.nil.set 0 (some v),h:=h,n:=n,gz:=[] }with
  |some s2=>match s2.fr.get 0 with
   |some v2=>some (v2,s2.h,s2.n)
   |none=>none
  |none=>none
 |none=>none
def vj(P:Program)(n0:Nat)(fn:Func)(live:List Nat)(p:X×St):pb:=match p.1 with
 | .normal=>match e9 n0 live p.2 with
   |some s=>.to .normal s
   |none=>.bad
 | .exit i=>match e9 n0 live p.2 with
   |some s=>.to (.exit i) s
   |none=>.bad
 | .ret=>match Ku P n0 fn p.2 with
   |some (v,h,n)=>.ret v h n
   |none=>.bad
 | .panic _=>.bad
def fG(P:Program)(n0:Nat)(fn:Func)(R:V->Tr O->Nat->Prop)(y:Exit)(s':St):Prop:=(y= .normal\/y= .ret)/\∃v h n,Ku P n0 fn s'=some (v,h,n)/\R v h n
def pb.post(P:Program)(n0:Nat)(fn:Func)(live:List Nat)(R:V->Tr O->Nat->Prop)(Q:Exit->St->Prop):pb->Prop
 | .to y s=>∀s',e9 n0 live s'=some s->Q y s'
 | .ret v h n=>R v h n/\∀s',fG P n0 fn R .ret s'->Q .ret s'
 | .bad=>False
theorem Kv(hm:P.follows .mixedOrders=true){l:List (oV×X×St)}(hc:eX N c=true)(e:j9 P X'.cs H F c s=some l)(h:∀p∈l,p.1.ok->p.1.good/\∃y,p.2.1.plain=some y/\Q y p.2.2):TG P n0 N c s Q:=by
 obtain⟨⟨p,hp,ho⟩,h2⟩:=oJ P X'.cs X'.cf H X'.snd F c s l e;obtain⟨hg,y,hy,hq⟩:=h p hp ho;exact Mk (F:=F) X'.ok hm hc (h2 p hp ho hg) hy hq
def Gw(P:Program)(cs:fb)(H:List (Nat×o8))(F n0:Nat)(fn:Func)(live:List Nat)(c:Code)(s:St):List (List (Bool×Bool)×ah×pb):=vf (vj P n0 fn live) (yT (j9 P cs H F c s))
def yX(P:Program)(cs:fb)(H:List (Nat×o8))(F:Nat)(c:Code)(s:St):Bool:=(j9 P cs H F c s).isSome
def xF(P:Program)(cs:fb)(H:List (Nat×o8))(F:Nat)(c:Code)(s:St):ag:=qD (yT (j9 P cs H F c s))
def Ah(P:Program)(cs:fb)(H:List (Nat×o8))(F:Nat)(c:Code)(s:St):ag:=vg (yT (j9 P cs H F c s))
theorem Qt(X':CX P)(hm:P.follows .mixedOrders=true)(H:List (Nat×o8))(F:Nat)(fn:Func)(live:List Nat)(R:V->Tr O->Nat->Prop)(G:List (List (Bool×Bool)×ah×pb))(hc:eX N c=true)
  (e1:yX P X'.cs H F c s=true) (e2:xF P X'.cs H F c s=Ah P X'.cs H F c s) (e3:Gw P X'.cs H F n0 fn live c s=G)
  (h:∀g∈G,(∀b∈g.1,b.1=b.2)->(∀a∈g.2.1,a)/\g.2.2.post P n0 fn live R Q):TG P n0 N c s Q:=by
 obtain⟨l,hl⟩:=b9.1 e1;unfold xF Ah at e2;unfold Gw at e3;rw[hl]at e2 e3;simp only[yT]at e2 e3;refine Kv (X':=X') hm hc hl fun p hp ho=>?_;have hg:=h (p.1.conds,p.1.Uo,vj P n0 fn live p.2) (e3▸r7 hp) ho;refine⟨⟨yU l e2 p hp,hg.1⟩,?_⟩;obtain⟨pp,x,s'⟩:=p;have iG:=hg.2;simp only[vj]at iG;cases x with
 |normal=>
  simp only at iG;split at iG
  . rename_i s2 jg;exact⟨.normal,rfl,iG s' jg⟩
  . exact iG.elim
 |exit i=>
  simp only at iG;split at iG
  . rename_i s2 jg;exact⟨.exit i,rfl,iG s' jg⟩
  . exact iG.elim
 |ret=>
  simp only at iG;split at iG
  . rename_i v h n hr;exact⟨.ret,rfl,iG.2 s' ⟨.inr rfl,v,h,n,hr,iG.1⟩⟩
  . exact iG.elim
 |panic _=>exact iG.elim
theorem N1(X':CX P)(hm:P.follows .mixedOrders=true)(H:List (Nat×o8))(F:Nat)(fn:Func)(live:List Nat)(R:V->Tr O->Nat->Prop)(G:List (List (Bool×Bool)×ah×pb))(hs:Mg c=true)(hc:eX N (dK c)=true)
  (e1:yX P X'.cs H F (dK c) s=true) (e2:xF P X'.cs H F (dK c) s=Ah P X'.cs H F (dK c) s) (e3:Gw P X'.cs H F n0 fn live (dK c) s=G)
  (h:∀g∈G,(∀b∈g.1,b.1=b.2)->(∀a∈g.2.1,a)/\g.2.2.post P n0 fn live R (andThen (fun s'=>TG P n0 N (ee c) s' Q) Q)):TG P n0 N c s Q:=
 cV hs (Qt X' hm H F fn live R G hc e1 e2 e3 h)
theorem Qu{cf:fM}(oF:je P cf)(hm:P.follows .mixedOrders=true):∀(k:Nat) {c:Code} {s s1:St} {Q:Exit->St->Prop},eX N c=true->jb P cf F (eR k c) s=some (.normal,s1)->TG P n0 N (de k c) s1 Q->TG P n0 N c s Q:=by
 intro k;have It:∀{c:Code} {s s1:St} {Q:Exit->St->Prop},jb P cf F .skip s=some (.normal,s1)->TG P n0 N c s1 Q->TG P n0 N c s Q:=by
  intro c s s1 Q e h;simp only[jb,an,aB,true_and]at e;subst e;exact h
 induction k with
 |zero=>intro c s s1 Q _ e h;cases c<;>exact It e h
 |succ k ih=>
  intro c s s1 Q iD e h;cases c<;>first|exact It e h|skip
  rename_i a b;simp only[eX,aC]at iD;simp only[eR,jb]at e;split at e
  . rename_i s' h1;exact Qs (Mk (F:=F) oF hm iD.1 h1 rfl (ih iD.2 e h))
  . rename_i hr
    first|exact(hr s1 rfl).elim|exact(hr s1 e).elim
theorem Us(k:Nat)(X':CX P)(hm:P.follows .mixedOrders=true)(H:List (Nat×o8))(F:Nat)(fn:Func)(live:List Nat)(G:List (List (Bool×Bool)×ah×pb))(hc:eX N c=true)
  (e1:yX P X'.cs H F (eR k c) s=true) (e2:xF P X'.cs H F (eR k c) s=Ah P X'.cs H F (eR k c) s) (e3:Gw P X'.cs H F n0 fn live (eR k c) s=G)
  (h:∀g∈G,(∀b∈g.1,b.1=b.2)->(∀a∈g.2.1,a)/\∃s1,g.2.2= .to .normal s1/\TG P n0 N (de k c) s1 Q):TG P n0 N c s Q:=by
 obtain⟨l,hl⟩:=b9.1 e1;unfold xF Ah at e2;unfold Gw at e3;rw[hl]at e2 e3;simp only[yT]at e2 e3;obtain⟨⟨p,hp,ho⟩,h2⟩:=oJ P X'.cs X'.cf H X'.snd F (eR k c) s l hl;obtain⟨hA,s1,fS,hT⟩:=h (p.1.conds,p.1.Uo,vj P n0 fn live p.2) (e3▸r7 hp) ho;have fK:=h2 p hp ho ⟨yU l e2 p hp,hA⟩;obtain⟨pp,x,s'⟩:=p;simp only[vj]at fS;cases x with
 |normal=>
  simp only at fS;split at fS
  . rename_i s2 jg;cases fS;exact Qu (F:=F) X'.ok hm k hc fK (c5 jg hT)
  . cases fS
 |exit i=>
  simp only at fS;split at fS<;>cases fS
 |ret=>
  simp only at fS;split at fS<;>cases fS
 |panic _=>cases fS
end
theorem N2{P:Program}{n0:Nat}{fn:Func}{s:St}{v:V}{h:Tr O}{n:Nat}(e:Ku P n0 fn s=some (v,h,n)):∃v1 h1 n1 s2,vh P fn s.fr s.gz s.h s.n=some (v1,h1,n1)/\e9 n0 [0] { fr:=Tr.nil.set 0 (some v1),h:=h1,n:=n1,gz:=[] }=some s2/\s2.fr.get 0=some v/\s2.h=h/\s2.n=n:=by
 unfold Ku at e;split at e
 . rename_i v1 h1 n1 e1;split at e
   . rename_i s2 e2;split at e
     . rename_i v2 e3;simp only[an,aB]at e;obtain⟨rfl,rfl,rfl⟩:=e;exact⟨v1,h1,n1,s2,e1,e2,e3,rfl,rfl⟩
     . cases e
   . cases e
 . cases e
theorem oK{P:Program}(hm:P.follows .mixedOrders=true)(xB:lA P=true){f:FuncId}{fn:Func}{code:Code}(hf:P.funcs[f]? =some fn)(hb:fn.body=some code){args:ag}{h:Tr O}{n0:Nat}
  (l:(Nat.ble args.length fn.ntmps&&Nat.blt fn.ntmps fL)=true) (R:V->Tr O->Nat->Prop) (hT:TG P n0 fn.ntmps code (cS args h n0) (fG P n0 fn R))
  {E:Env} {w:World} {c9:List Value} (ra:dI E args c9) (g:Good E h w) (hd:qN E n0):
  Calls P f c9.toArray w fun e w'=>∃v h' n',R v h' n'/\jX E h n0 w (.ret v) h' n' e w':=by
 simp only[aC]at l;obtain⟨x8,lW⟩:=tj (n:=fn.ntmps) ra (au l.1) (au l.2);refine callsIn_wide.1 (callsIn_of_wp_marks (n:=0) hf hb trivial (wpIn_wide.2 ?_));refine hT E _ w _ ⟨g,hd,x8,lW,rfl⟩ (aA _) fun y s' E' a' w' ⟨hy,v,h',n',hr,hR⟩ u pE r'=>?_;obtain⟨v1,h1,n1,s2,k1,k2,k3,k4,k5⟩:=N2 hr;have key:LeavesInM Fence.wide 0 P fn a'.tmps (fun e w'=>∃v h' n',R v h' n'/\jX E h n0 w (.ret v) h' n' e w') a'.defers .returning w':=by
  refine qW (cf:=fun _ _ _ _=>none) (F:=0) (fun _ _ _ _ _ _ _ e=>by cases e) hm xB s'.gz .ret s'.h s'.n _ h1 n1 (wc k1) E' w' a'.defers .returning _ r'.good r'.oe r'.fr r'.gz trivial fun E2 w2 en u2 qv Ge xl ho=>?_;have u3:=u.trans (lB.of u2 qv pE);cases en with
  |returned v'=>
   have ho:dD E2 v1 v':=ho;have sr:jY E2 1 { fr:=Tr.nil.set 0 (some v1),h:=h1,n:=n1,gz:=[] } { tmps:=#[v'],defers:=[] } w2:=by
    refine⟨u3.good,Ge,fun t v hv=>?_,rfl,rfl⟩;rw[Tr.eP _ _ _ dU]at hv;split at hv
    . rename_i q;subst q;cases hv;exact⟨v',rfl,ho⟩
    . simp[Tr.get]at hv
   obtain⟨_,Kk,E3,r3,u4⟩:=qY k2 sr;have u5:=(u3.trans u4).qp hd;obtain⟨v'',q1,q2⟩:=r3.fr 0 v k3;simp only[List.getElem?_toArray,bG,an]at q1;subst q1;refine⟨v,h',n',hR,E3,k4▸u5,(u3.trans u4).low,k5▸r3.oe,by rw[<- k5];exact Kk,q2⟩
  |_=>exact ho.elim
 rcases hy with rfl|rfl<;>exact key
theorem yY{P:Program}(hm:P.follows .mixedOrders=true)(xB:lA P=true){f:FuncId}{fn:Func}{code:Code}(hf:P.funcs[f]? =some fn)(hb:fn.body=some code){args:ag}{h:Tr O}{n0:Nat}
  (l:(Nat.ble args.length fn.ntmps&&Nat.blt fn.ntmps fL)=true) (v:V) (h':Tr O) (n':Nat) (hT:TG P n0 fn.ntmps code (cS args h n0) (fG P n0 fn fun a b c=>a=v/\b=h'/\c=n'))
  {E:Env} {w:World} {c9:List Value} (ra:dI E args c9) (g:Good E h w) (hd:qN E n0):
  Calls P f c9.toArray w (jX E h n0 w (.ret v) h' n'):=
 (oK hm xB hf hb l _ hT ra g hd).mono fun e w' ⟨_,_,_,⟨e1,e2,e3⟩,k⟩=>by subst e1 e2 e3;exact k
def A3:List (Nat×V)->Tr V:=go .nil
where go (t:Tr V):List (Nat×V)->Tr V
 | []=>t
 |(k,v)::r=>go (t.set k (some v)) r
def hL:af->Tr O:=go .nil
where go (t:Tr O):af->Tr O
 | []=>t
 |(k,v)::r=>go (t.set k (some v)) r
def eF(l:List (Nat×V))(h:Tr O)(n:Nat):St:={ fr:=A3 l,h:=h,n:=n,gz:=[] }
def Qv(P:Program)(cs:fb)(H:List (Nat×o8))(F n0:Nat)(fn:Func)(live:List Nat)(c:Code)(s:St):Option (ag×ag×List (List (Bool×Bool)×ah×pb)):=
 match j9 P cs H F c s with
 |some l=>some (qD l,vg l,vf (vj P n0 fn live) l)
 |none=>none
abbrev cQ(P:Program)(cs:fb)(H:List (Nat×o8))(F n0:Nat)(fn:Func)(live:List Nat)(c:Code)(s:St)(L:ag)(G:List (List (Bool×Bool)×ah×pb)):Prop:=Qv P cs H F n0 fn live c s=some (L,L,G)
theorem cQ.parts{P:Program}{cs:fb}{H:List (Nat×o8)}{F n0:Nat}{fn:Func}{live:List Nat}{c:Code}{s:St}{L:ag}{G:List (List (Bool×Bool)×ah×pb)}(h:cQ P cs H F n0 fn live c s L G):
  yX P cs H F c s=true/\xF P cs H F c s=Ah P cs H F c s/\Gw P cs H F n0 fn live c s=G:=by
 have h:Qv P cs H F n0 fn live c s=some (L,L,G):=h;unfold Qv at h;unfold yX xF Ah Gw;split at h
 . rename_i l hl;simp only[an,aB]at h;rw[hl];exact⟨rfl,h.1.trans h.2.1.symm,h.2.2⟩
 . cases h
section
variable{P:Program}{n0 N:Nat}{c:Code}{s:St}{Q:Exit->St->Prop}{H:List (Nat×o8)}{F:Nat}{fn:Func}{live:List Nat}{L:ag}{G:List (List (Bool×Bool)×ah×pb)}
section
variable(k:Nat)(X':CX P)
theorem gh(hm:P.follows .mixedOrders=true)(R:V->Tr O->Nat->Prop)(hc:eX N c=true)(hr:cQ P X'.cs H F n0 fn live c s L G)
  (h:∀g∈G,(∀b∈g.1,b.1=b.2)->(∀a∈g.2.1,a)/\g.2.2.post P n0 fn live R Q):TG P n0 N c s Q:=
 Qt X' hm H F fn live R G hc hr.parts.1 hr.parts.2.1 hr.parts.2.2 h
theorem yZ(hm:P.follows .mixedOrders=true)(R:V->Tr O->Nat->Prop)(hs:Mg c=true)(hc:eX N (dK c)=true)(hr:cQ P X'.cs H F n0 fn live (dK c) s L G)
  (h:∀g∈G,(∀b∈g.1,b.1=b.2)->(∀a∈g.2.1,a)/\g.2.2.post P n0 fn live R (andThen (fun s'=>TG P n0 N (ee c) s' Q) Q)):TG P n0 N c s Q:=
 N1 X' hm H F fn live R G hs hc hr.parts.1 hr.parts.2.1 hr.parts.2.2 h
theorem Zj(hm:P.follows .mixedOrders=true)(hc:eX N c=true)(hr:cQ P X'.cs H F n0 fn live (eR k c) s L G)
  (h:∀g∈G,(∀b∈g.1,b.1=b.2)->(∀a∈g.2.1,a)/\∃s1,g.2.2= .to .normal s1/\TG P n0 N (de k c) s1 Q):TG P n0 N c s Q:=
 Us k X' hm H F fn live G hc hr.parts.1 hr.parts.2.1 hr.parts.2.2 h
theorem mA(hm:P.follows .mixedOrders=true){A:ah}{s1:St}(hc:eX N c=true)(hr:cQ P X'.cs H F n0 fn live (eR k c) s L [([],A,.to .normal s1)])
  (hA:∀a∈A,a) (h:TG P n0 N (de k c) s1 Q):TG P n0 N c s Q:=
 Zj k X' hm hc hr fun g hg _=>by
  rw[aq]at hg;subst hg;exact⟨hA,s1,rfl,h⟩
theorem gY(hm:P.follows .mixedOrders=true)(R:V->Tr O->Nat->Prop)(hc:eX N c=true)(hr:cQ P X'.cs H F n0 fn live c s L G)
  (h:∀g∈G,(∀b∈g.1,b.1=b.2)->(∀a∈g.2.1,a)/\∃v h n,g.2.2= .ret v h n/\R v h n):TG P n0 N c s (fG P n0 fn R):=
 gh X' hm R hc hr fun g hg hc=>by
  obtain⟨h1,v,h',n',e,hR⟩:=h g hg hc;refine⟨h1,?_⟩;rw[e];exact⟨hR,fun s' q=>q⟩
end
end
abbrev kS:V->Tr O->Nat->Prop:=fun _ _ _=>True
section
variable{P:Program}{n0 N:Nat}{c:Code}{s:St}{Q:Exit->St->Prop}{F:Nat}{fn:Func}
def pb.loop(P:Program)(n0:Nat)(fn:Func)(live:List Nat)(R:V->Tr O->Nat->Prop)(I:Nat->St->Prop)(k:Nat)(Q:Exit->St->Prop):pb->Prop
 | .to .normal s=>∃k',k'<k/\I k' s
 | .to y s=>∀s',e9 n0 live s'=some s->Q y s'
 | .ret v h n=>R v h n/\∀s',fG P n0 fn R .ret s'->Q .ret s'
 | .bad=>False
end
theorem Iu{E:Env}{h:Tr O}{n:Nat}{w:World}{v:V}{h':Tr O}{n':Nat}{e:Ending}{w':World}(A4:∀m,¬eC h m)(c:jX E h n w (.ret v) h' n' e w'):(∃E,tf E (.ret v) e)/\Below w.heap.size w w':=by
 obtain⟨E',u,_,_,_,ho⟩:=c;exact⟨⟨E',ho⟩,u.os,u.tape,u.output,u.size,fun k hk=>u.keep k hk fun m s hm=>absurd hm (A4 m)⟩
theorem xG{P:Program}(hm:P.follows .mixedOrders=true)(xB:lA P=true){f:FuncId}{fn:Func}{code:Code}(hf:P.funcs[f]? =some fn)(hb:fn.body=some code){args:ag}{h:Tr O}{n0:Nat}
  (l:(Nat.ble args.length fn.ntmps&&Nat.blt fn.ntmps fL)=true) {v:V} (hT:TG P n0 fn.ntmps code (cS args h n0) (fG P n0 fn fun a _ _=>a=v))
  {E:Env} {w:World} {c9:List Value} (ra:dI E args c9) (g:Good E h w) (hd:qN E n0) (A4:∀m,¬eC h m):
  Calls P f c9.toArray w fun e w'=>(∃E,tf E (.ret v) e)/\Below w.heap.size w w':=
 (oK hm xB hf hb l _ hT ra g hd).mono fun e w' ⟨v',h',n',e1,k⟩=>by subst e1;exact Iu A4 k
theorem Qw:∀m,¬eC (.nil:Tr O) m:=fun m k=>absurd rfl k.live
def jO(f:ag->Option (ah×V)):ag->Tr O->Nat->Option (ah×V×Tr O×Nat):=fun args h n=>match f args with
 |some (A,v)=>some (A,v,h,n)
 |none=>none
theorem kf{P:Program}{f:FuncId}{spec:ag->Option (ah×V)}(fF:f<P.funcs.size)(h:∀args A v,spec args=some (A,v)->V.wR args=true/\v.free=true/\((∀a∈A,a)->
  ∀E w c9,WG w->dI E args c9->Calls P f c9.toArray w fun e w'=>(∃E,tf E (.ret v) e)/\Below w.heap.size w w')):jL P f (jO spec):=by
 refine⟨fF,fun args h' n A v h2 n2 e hA E w c9 ra g hd hc=>?_⟩;unfold jO at e;split at e
 . rename_i A' v' hs;simp only[an,aB]at e;obtain⟨rfl,rfl,rfl,rfl⟩:=e;obtain⟨h1,h2,h3⟩:=h args _ _ hs;exact(h3 hA E w c9 g.wg ra).mono fun en w' ⟨ho,b⟩=>Io g hd h2 ho b
 . cases e
theorem gT{P:Program}(hm:P.follows .mixedOrders=true)(xB:lA P=true){f:FuncId}{fn:Func}{code:Code}(hf:P.funcs[f]? =some fn)(hb:fn.body=some code){args:ag}
  (l:(Nat.ble args.length fn.ntmps&&Nat.blt fn.ntmps fL)=true) {v:V} (x8:V.wR args=true) (hT:TG P gN fn.ntmps code (cS args .nil gN) (fG P gN fn fun a _ _=>a=v)):
  ∀E w c9,WG w->dI E args c9->Calls P f c9.toArray w fun e w'=>(∃E,tf E (.ret v) e)/\Below w.heap.size w w':=
 fun _ w _ hw ra=>xG hm xB hf hb l hT (mP _ _ x8 ra) (adG hw) (ajC (aA _)) Qw
def EV:O->O
 | .own k ks=>.ints k ks
 | .cells cs=>match cs with
   | .int k x::r=>match oW k (.int k x::r)with
     |some l=>.ints k l
     |none=>.cells (.int k x::r)
   |cs=>.cells cs
 |o=>o
def EX:Tr O->Tr O
 | .nil=>.nil
 | .node v l r=>.node (match v with|some o=>some (EV o)|none=>none) (EX l) (EX r)
theorem r9:∀(t:Tr O) (m:Nat),(EX t).get m=(t.get m).map EV
 | .nil,m=>rfl
 | .node v l r,m=>by
   simp only[EX,Tr.get];split
   . cases v<;>rfl
   . rename_i k;split
     . exact r9 l _
     . exact r9 r _
theorem N3{E:Env}{w:World}{b s:Nat}{o:O}(r:lU E w b s o):lU E w b s (EV o):=by
 have key:∀k ks,lU E w b s (.own k ks)->lU E w b s (.ints k ks):=fun k ks ⟨c,el,fz,h1,h2,_,h4⟩=>⟨c,el,fz,h1,h2,mM.1 h4⟩;unfold EV;split
 . exact key _ _ r
 . split
   . rename_i k x rest;split
     . rename_i l hl;have e:=pZ hl;refine key _ _ ?_;rw[e]at r;exact r
     . exact r
   . exact r
 . exact r
theorem Iv{o:O}(h:(EV o).wr=true):o.wr=true:=by
 unfold EV at h;split at h
 . rfl
 . rfl
 . exact h
theorem N4{E:Env}{h:Tr O}{w:World}(g:Good E h w):Good E (EX h) w:=by
 refine⟨?_,?_,g.mW,g.jj,fun b c q=>⟨g.fz b c q,fun m s hm e=>?_⟩⟩
 case refine_3=>
  obtain⟨o,ho,hw⟩:=hm;rw[r9]at ho;cases h1:h.get m with
  |none=>rw[h1]at ho;cases ho
  |some o1=>
   rw[h1]at ho;simp only[bh,an]at ho;subst ho;exact(g.gP b c q).2 m s ⟨o1,h1,Iv hw⟩ e
 . intro m o hm;rw[r9]at hm;cases ho:h.get m with
   |none=>rw[ho]at hm;cases hm
   |some o'=>
    rw[ho]at hm;simp only[bh,an]at hm;subst hm;obtain⟨b,s,h1,h2⟩:=g.rel m o' ho;exact⟨b,s,h1,N3 h2⟩
 . rintro m m' b s s' fN ⟨o,ho,hw⟩ sU e e';rw[r9]at ho sU;cases h1:h.get m with
   |none=>rw[h1]at ho;cases ho
   |some o1=>
    rw[h1]at ho;simp only[bh,an]at ho;subst ho;refine g.inj m m' b s s' fN ⟨o1,h1,Iv hw⟩ (fun q=>sU (by rw[q];rfl)) e e'
def Ml(spec:ag->Tr O->Option (ah×V)):ag->Tr O->Nat->Option (ah×V×Tr O×Nat):=fun args h n=>match spec args (EX h)with
 |some (A,v)=>some (A,v,h,n)
 |none=>none
theorem Iw{P:Program}{f:FuncId}{spec:ag->Tr O->Option (ah×V)}(hp:Qo P f spec):jL P f (Ml spec):=by
 refine⟨hp.1,fun args h n A v h' n' e hA E w c9 ra g hd hc=>?_⟩;unfold Ml at e;split at e
 . rename_i A' v' hs;simp only[an,aB]at e;obtain⟨rfl,rfl,rfl,rfl⟩:=e;obtain⟨h2,h3⟩:=hp.2 args _ _ _ hs;exact(h3 hA E n w c9 ra (N4 g) hd hc).mono fun en w' ⟨ho,b⟩=>Io g hd h2 ho b
 . cases e
theorem CV{P:Program}(hm:P.follows .mixedOrders=true)(xB:lA P=true){f:FuncId}{fn:Func}{code:Code}(hf:P.funcs[f]? =some fn)(hb:fn.body=some code){args:ag}{h:Tr O}{n0:Nat}
  (l:(Nat.ble args.length fn.ntmps&&Nat.blt fn.ntmps fL)=true) {v:V} (hT:TG P n0 fn.ntmps code (cS args h n0) (fG P n0 fn fun a _ _=>a=v))
  {E:Env} {w:World} {c9:List Value} (g:Good E h w) (hd:qN E n0) (A4:∀m,¬eC h m) (ra:dI E args c9):
  Calls P f c9.toArray w fun e w'=>(∃E,tf E (.ret v) e)/\Below w.heap.size w w':=xG hm xB hf hb l hT ra g hd A4
def Qx(h:Tr O):List (Nat×IntKind)->Option (Tr O)
 | []=>some h
 |(m,k)::r=>match h.get m with
  |some (.cells cs)=>match oW k cs with
   |some ks=>match Nat.blt m fL with
    |true=>Qx (h.set m (some (.own k ks))) r
    |false=>none
   |none=>none
  |_=>none
theorem EY{E:Env}{w:World}:∀(l:List (Nat×IntKind)) (h h2:Tr O),Qx h l=some h2->Good E h w->Good E h2 w/\∀m,(h2.get m≠none↔h.get m≠none)/\(eC h2 m->eC h m)
 | [],h,h2,e,g=>by simp only[Qx,an]at e;subst e;exact⟨g,fun m=>⟨Iff.rfl,id⟩⟩
 |(m,k)::r,h,h2,e,g=>by
  unfold Qx at e;split at e
  case h_2=>cases e
  rename_i cs hm;split at e
  case h_2=>cases e
  rename_i ks hk;split at e
  case h_2=>cases e
  rename_i ht;have ht:m<fL:=au ht;have o5:=pZ hk;have kJ:∀j,(h.set m (some (.own k ks))).get j=if j=m then some (.own k ks)else h.get j:=fun j=>Tr.eP _ _ _ ht
  have FX:∀j,((h.set m (some (.own k ks))).get j≠none↔h.get j≠none)/\(eC (h.set m (some (.own k ks))) j->eC h j):=by
   intro j;rw[kJ];by_cases q:j=m
   . subst q;rw[aG rfl,hm];exact⟨by simp,fun _=>⟨_,hm,rfl⟩⟩
   . rw[aI q];exact⟨Iff.rfl,fun z=>oC ht z q⟩
  have g1:Good E (h.set m (some (.own k ks))) w:=by
   refine⟨fun j o hj=>?_,fun j j' b s s' fN hj Qy e1 e2=>g.inj j j' b s s' fN ((FX j).2 hj) ((FX j').1.1 Qy) e1 e2,g.mW,g.jj,fun b c q=>⟨g.fz b c q,fun m' s sU=>(g.gP b c q).2 m' s ((FX m').2 sU)⟩⟩;rw[kJ]at hj;split at hj
   . rename_i q;subst q;obtain rfl:=eo hj;obtain⟨b,s,h1,h2⟩:=g.rel j _ hm;rw[o5]at h2;exact⟨b,s,h1,h2⟩
   . exact g.rel j o hj
  obtain⟨g2,k2⟩:=EY r _ h2 e g1;exact⟨g2,fun j=>⟨(k2 j).1.trans (FX j).1,fun z=>(FX j).2 ((k2 j).2 z)⟩⟩
def Kw(l:List (Nat×IntKind))(s:St):Option St:=match Qx s.h l with
 |some h=>some { s with h:=h }
 |none=>none
theorem tC{P:Program}{n0 N:Nat}{c:Code}{s s2:St}{Q:Exit->St->Prop}(l:List (Nat×IntKind))(e:Kw l s=some s2)(h:TG P n0 N c s2 Q):TG P n0 N c s Q:=by
 unfold Kw at e;split at e
 case h_2=>cases e
 rename_i h2 hh;obtain rfl:=eo e;intro E a w K r hn k;obtain⟨g2,k2⟩:=EY (E:=E) (w:=w) l s.h h2 hh r.good;have u:lB n0 E s.h w E h2 w:=⟨fun _ _ _ _ e=>⟨e,rfl⟩,fun _ _=>rfl,fun _ _ q=>q,g2,aA _,rfl,rfl,rfl,fun _ _ _=>rfl,fun m b s1 hm e1 _=>⟨m,s1,(k2 m).1.1 hm,e1,(k2 m).2⟩,fun _ _ q=>.inl q⟩;exact h E a w K ⟨g2,r.oe,r.fr,r.size,r.gz⟩ hn fun y s' E' a' w' q u' pE r'=>k y s' E' a' w' q (u.trans u') pE r'
def Env.rows(E:Env)(ns:List (Option (Nat×Nat))):Env:=⟨fun j=>match ns.getD j none with
 |some (m,o)=>match E.ι m with
  |some (b,s)=>some (b,s+o)
  |none=>none
 |none=>none,E.β,E.φ⟩
def rHi:List (Option (IntKind×List Int))->Nat->Tr O->Tr O
 | [],_,t=>t
 |some (k,ks)::r,i,t=>rHi r (i+1) (t.set i (some (.ints k ks)))
 |none::r,i,t=>rHi r (i+1) t
def rH(rs:List (Option (IntKind×List Int))):Tr O:=rHi rs 0 .nil
theorem Gx:∀(rs:List (Option (IntKind×List Int))) (i:Nat) (t:Tr O) (m:Nat) (o:O),i+rs.length<fL->(rHi rs i t).get m=some o->t.get m=some o\/∃k ks,i<=m/\rs[m-i]? =some (some (k,ks))/\o= .ints k ks
 | [],i,t,m,o,_,h=>.inl h
 |some (k,ks)::r,i,t,m,o,hl,h=>by
  simp only[aS]at hl;rcases Gx r (i+1) _ m o be h with q|⟨k',Xi,h1,h2,h3⟩
  . rw[Tr.eP _ _ _ be]at q;split at q
    . rename_i z;subst z;obtain rfl:=eo q;exact .inr ⟨k,ks,aA _,by simp,rfl⟩
    . exact .inl q
  . refine .inr ⟨k',Xi,be,?_,h3⟩;rw[show m-i=(m-(i+1))+1 by omega,cA];exact h2
 |none::r,i,t,m,o,hl,h=>by
  simp only[aS]at hl;rcases Gx r (i+1) _ m o be h with q|⟨k',Xi,h1,h2,h3⟩
  . exact .inl q
  . refine .inr ⟨k',Xi,be,?_,h3⟩;rw[show m-i=(m-(i+1))+1 by omega,cA];exact h2
theorem Qz{rs:List (Option (IntKind×List Int))}{m:Nat}{o:O}(hl:rs.length<fL)(h:(rH rs).get m=some o):∃k ks,rs[m]? =some (some (k,ks))/\o= .ints k ks:=by
 rcases Gx rs 0 .nil m o be h with q|⟨k,ks,_,h2,h3⟩
 . simp[Tr.get]at q
 . exact⟨k,ks,by simpa using h2,h3⟩
theorem Ut{E:Env}{ns:List (Option (Nat×Nat))}(g:GE E)(hg:∀p∈jR,ns[p.2]? =some (some (p.2,0))):GE (E.rows ns):=by
 intro p hp;show(match ns.getD p.2 none with
  |some (m,o)=>match E.ι m with
   |some (b,s)=>some (b,s+o)
   |none=>none
  |none=>none)=_
 rw[aN,hg p hp];simp only[Option.getD_some,g p hp]
theorem Mm{E:Env}{h:Tr O}{w:World}(g:Good E h w)(ns:List (Option (Nat×Nat)))(rs:List (Option (IntKind×List Int)))(hl:rs.length<fL)
  (hg:∀p∈jR,ns[p.2]? =some (some (p.2,0))) (hr:∀(j:Nat) (k:IntKind) (ks:List Int),rs[j]? =some (some (k,ks))->∃m o QA,ns[j]? =some (some (m,o))/\h.get m=some (.ints k QA)/\QA.drop o=ks):
  Good (E.rows ns) (rH rs) w/\qN (E.rows ns) ns.length/\∀m,¬eC (rH rs) m:=by
 have ue:∀m,¬eC (rH rs) m:=by
  rintro m ⟨o,h1,h2⟩;obtain⟨k,ks,_,rfl⟩:=Qz hl h1;cases h2
 refine⟨⟨fun m o hm=>?_,fun m _ _ _ _ _ hm=>absurd hm (ue m),fun m b' s e=>?_,Ut g.jj hg,fun b c q=>⟨g.fz b c q,fun m s hm=>absurd hm (ue m)⟩⟩,fun m hm=>?_,ue⟩
 . obtain⟨k,ks,h1,rfl⟩:=Qz hl hm;obtain⟨m0,o,QA,h2,h3,h4⟩:=hr m k ks h1;obtain⟨b,s,e1,c,el,fz,k1,k2,k3⟩:=g.rel m0 _ h3;refine⟨b,s+o,?_,c,el,fz,k1,k2,fun i x hx=>?_⟩
   . show(match ns.getD m none with|some (m,o)=>_|none=>none)=_;rw[aN,h2];simp only[Option.getD_some,e1]
   . rw[<- h4,bH]at hx;rw[<- k3 (o+i) x hx];congr 1;omega
 . have e:(match ns.getD m none with|some (m,o)=>(match E.ι m with|some (b,s)=>some (b,s+o)|none=>none)|none=>none)=some (b',s):=e;split at e
   . rename_i m0 o hm;split at e
     . rename_i b s0 e0;simp only[an,aB]at e;obtain⟨rfl,_⟩:=e;exact g.mW m0 b s0 e0
     . cases e
   . cases e
 . have hm:ns.length<=m:=hm;show(match ns.getD m none with|some (m,o)=>(match E.ι m with|some (b,s)=>some (b,s+o)|none=>none)|none=>none)=none;rw[aN,bR hm];rfl
def Mn:Code->Bool | .rangeFunc ..=>true|_=>false
def rG:Code->Operand | .rangeFunc g _ _ _=>g|_=>.const (.bool true)
def rPs:Code->List Nat | .rangeFunc _ ps _ _=>ps.toList|_=>[]
def rA:Code->Code | .rangeFunc _ _ a _=>a|c=>c
def rB:Code->Code | .rangeFunc _ _ _ b=>b|c=>c
def adP(c:Code)(s:St):Tr O:=(s.h.set s.n (some .my)).set (s.n+1) (some (.loop true none s.fr (rPs c) (rA c) (rB c)))
def tD(s:St)(h:Tr O)(n:Nat):St:={ s with h:=h.set (s.n+1) none,n:=n,gz:=(fL,[],[.map (some s.n)])::s.gz }
def XF(s:St)(h:Tr O):Bool:=match h.get s.n,h.get (s.n+1)with
 |some .my,some (.loop true none _ _ _ _)=>true
 |_,_=>false
theorem cQ.of{P:Program}{cs:fb}{H:List (Nat×o8)}{F n0:Nat}{fn:Func}{live:List Nat}{c:Code}{s:St}{G:List (List (Bool×Bool)×ah×pb)}(h1:yX P cs H F c s=true)(h2:xF P cs H F c s=Ah P cs H F c s)(h3:Gw P cs H F n0 fn live c s=G):
  ∃L,cQ P cs H F n0 fn live c s L G:=by
 refine⟨xF P cs H F c s,?_⟩;unfold cQ Qv;unfold yX at h1;unfold xF Ah at h2;unfold Gw at h3;unfold xF;cases hl:j9 P cs H F c s with
 |none=>rw[hl]at h1;cases h1
 |some l=>
  rw[hl]at h2 h3;have h2:qD l=vg l:=h2;have h3:vf (vj P n0 fn live) l=G:=h3;show some (qD l,vg l,vf (vj P n0 fn live) l)=some (qD l,qD l,G);rw[h3,<- h2]
end Go.Eng
