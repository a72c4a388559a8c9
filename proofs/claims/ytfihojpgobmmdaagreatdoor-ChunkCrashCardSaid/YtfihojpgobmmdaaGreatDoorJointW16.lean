/- The engine, part PT: methods on a pointer to cells, at names of our own; counted loops. No conditions: lemmas alone. -/
import Derived.Test.YtfihojpgobmmdaaGreatDoorJointW14
set_option linter.unusedVariables false
set_option linter.unusedSimpArgs false
set_option linter.unusedSectionVars false
namespace Go.Eng
open Go Go.RowKit
mutual
theorem GY{ν:Nat->Option Nat}:∀(v:V),v.deep=true->v.rn ν=some v
 | .bool _,_=>rfl
 | .int _ _,_=>rfl
 | .str _,_=>rfl
 | .ptr none,_=>rfl
 | .ptr (some _),h=>by cases h
 | .di none _ _ _,_=>rfl
 | .di (some _) _ _ _,h=>by cases h
 | .map none,_=>rfl
 | .map (some _),h=>by cases h
 | .kE,_=>rfl
 | .nilIface,_=>rfl
 | .dM _ _ _,_=>rfl
 | .dw _,_=>rfl
 | .fn f a c,h=>by
   simp only[V.deep,aC]at h;obtain⟨h1,h2,h3⟩:=h;simp only[V.rn,oM a h2,oM c h3];cases f<;>first|rfl|cases h1
 | .iface t x,h=>by simp only[V.deep]at h;simp only[V.rn,GY x h]
 | .agg cs,h=>by simp only[V.deep]at h;simp only[V.rn,oM cs h]
 | .ef cs,h=>by simp only[V.deep]at h;simp only[V.rn,oM cs h]
theorem oM{ν:Nat->Option Nat}:∀(v:ag),V.qE v=true->V.D0 ν v=some v
 | [],_=>rfl
 |x::xs,h=>by
  simp only[V.qE,aC]at h;simp only[V.D0,GY x h.1,oM xs h.2]
end
def Er(sp:ag->ag->Option (ah×V×ag)):ag->Tr O->Nat->Option (ah×V×Tr O×Nat):=fun args h n=>match args with
 | .ptr (some (m,0))::rest=>match h.get m with
   |some (.cells cs)=>match(Nat.ble gN m&&Nat.blt m fN)&&(V.qE cs&&V.qE rest)with
    |true=>match sp cs rest with
     |some (A,v,ve)=>match V.deep v&&V.qE ve with
      |true=>some (A,v,h.set m (some (.cells ve)),n)
      |false=>none
     |none=>none
    |false=>none
   |_=>none
 |_=>none
def RK(m:Nat):List (Option Nat):=(List.range gN).map some++[some m]
theorem wu(m j:Nat):(RK m).getD j none=if j<gN then some j else if j=gN then some m else none:=by
 unfold RK;rw[aL,bS];simp only[aW,List.length_range,br];split
 . rename_i h;simp[List.getElem?_range h]
 . rename_i h;split
   . rename_i e;subst e;simp
   . rename_i e;have:([some m]:List (Option Nat))[j-gN]? =none:=bP (by simp;omega);rw[this];rfl
theorem MQ(m:Nat):(RK m).length=gN+1:=by simp[RK]
theorem xP:∀(l:List (Option Nat)),(∀i j k,l.getD i none=some k->l.getD j none=some k->i=j)->nr l=true
 | [],_=>rfl
 |none::r,h=>by
  simp only[nr];exact xP r fun i j k hi hj=>by have:=h (i+1) (j+1) k (by simpa using hi) (by simpa using hj);omega
 |some x::r,h=>by
  simp only[nr,aC];refine⟨?_,xP r fun i j k hi hj=>by have:=h (i+1) (j+1) k (by simpa using hi) (by simpa using hj);omega⟩;rw[Bool.not_eq_true'];rw[List.any_eq_false];intro y hy;cases y with
  |none=>simp
  |some z=>
   simp only;intro q;have hz:=aD q;subst hz;obtain⟨i,hi,he⟩:=List.getElem_of_mem hy;have:=h 0 (i+1) x (by simp) (by simp[ay hi,he]);omega
def aaM:Prop:=(∀p∈jN,p.2<gN)/\(∀j,j<gN->∃p∈jN,p.2=j)/\gN<fN
def hP(cs:ag):Tr O:=Tr.nil.set gN (some (.cells cs))
theorem Lq(ht:gN<fN)(cs:ag)(j:Nat):(hP cs).get j=if j=gN then some (.cells cs)else none:=by
 unfold hP;rw[Tr.eS _ _ _ ht];split<;>rfl
theorem RL(hg:aaM){h:Tr O}{m:Nat}{cs:ag}(hm:gN<=m)(hc:h.get m=some (.cells cs))(hd:V.qE cs=true):vn (RK m) h (hP cs):=by
 obtain⟨g1,g2,g3⟩:=hg;refine⟨fun p hp=>?_,?_,fun j k hj=>?_,fun j o hj=>?_⟩
 . rw[wu,aG (g1 p hp)]
 . refine xP _ fun i j k hi hj=>?_;rw[wu]at hi hj;split at hi<;>split at hj
   . simp only[an]at hi hj;omega
   . split at hj
     . simp only[an]at hi hj;omega
     . cases hj
   . split at hi
     . simp only[an]at hi hj;omega
     . cases hi
   . split at hi
     . split at hj
       . omega
       . cases hj
     . cases hi
 . rw[wu]at hj;split at hj
   . rename_i fJ;obtain rfl:=ew hj;exact .inl (g2 j fJ)
   . split at hj
     . obtain rfl:=ew hj;exact .inr (by rw[hc];simp)
     . cases hj
 . rw[Lq g3]at hj;split at hj
   . rename_i e;obtain rfl:=ew hj;refine⟨m,.cells cs,?_,hc,?_⟩
     . rw[wu,aI be,aG e]
     . simp only[O.rn,oM cs hd]
   . cases hj
theorem Fo{ν:Nat->Option Nat}{ns:List (Option Nat)}{h1 mB:Tr O}:∀(i q:Nat) (h:Tr O),(∀j,q<=j->j<q+i->h1.get j=none)->o7 ν ns h1 mB i q h=some h
 |0,_,_,_=>rfl
 |i+1,q,h,hn=>by
  unfold o7;rw[hn q (aA _) be];exact Fo i (q+1) h fun j h1 h2=>hn j be be
theorem I9{ν:Nat->Option Nat}{ns:List (Option Nat)}{h1 mB:Tr O}:∀(i k q:Nat) (h h2:Tr O),o7 ν ns h1 mB i q h=some h2->o7 ν ns h1 mB (i+k) q h=o7 ν ns h1 mB k (q+i) h2
 |0,k,q,h,h2,e=>by simp only[o7,an]at e;subst e;simp
 |i+1,k,q,h,h2,e=>by
  have nxt:∀h',o7 ν ns h1 mB i (q+1) h'=some h2->o7 ν ns h1 mB (i+k) (q+1) h'=o7 ν ns h1 mB k (q+(i+1)) h2:=fun h' e'=>by
   have:=I9 i k (q+1) h' h2 e';rw[this];congr 1;omega
  generalize o7 ν ns h1 mB k (q+(i+1)) h2=R at nxt ⊢;rw[show i+1+k=(i+k)+1 by omega];unfold o7 at e ⊢;split at e
  . split at e
    . split at e
      . split at e
        . split at e
          . split at e
            . split at e
              . exact nxt _ e
              . cases e
            . cases e
          . exact nxt _ e
        . cases e
      . cases e
    . exact nxt _ e
  . exact nxt _ e
theorem BQ{P:Program}(hm:P.follows .mixedOrders=true)(xD:lB P=true)(hg:aaM){f:FuncId}{fn:Func}{code:Code}{sp:ag->ag->Option (ah×V×ag)}(fJ:f<P.funcs.size)(hf:P.funcs[f]? =some fn)(hb:fn.body=some code)
  (hT:∀cs args A v ve,sp cs args=some (A,v,ve)->(∀a∈A,a)->(Nat.ble (args.length+1) fn.ntmps&&Nat.blt fn.ntmps fN)=true/\TG P (gN+1) fn.ntmps code (cT (.ptr (some (gN,0))::args) (hP cs) (gN+1)) (fH P (gN+1) fn fun a b c=>a=v/\b=hP ve/\c=gN+1)):jG P f (Er sp):=by
 refine⟨fJ,fun args h n A v h2 n2 e hA E w c9 ra g hd hc=>?_⟩;unfold Er at e;split at e
 case h_2=>cases e
 rename_i m rest;split at e
 case h_2=>cases e
 rename_i cs oV;split at e
 case h_2=>cases e
 rename_i hbs;split at e
 case h_2=>cases e
 rename_i A1 v1 ve hsp;split at e
 case h_2=>cases e
 rename_i hv;simp only[an,aB]at e;obtain⟨rfl,rfl,rfl,rfl⟩:=e;simp only[aC]at hbs hv;obtain⟨⟨b1,b2⟩,b3,b4⟩:=hbs;have b1:gN<=m:=au b1;have b2:m<fN:=au b2;obtain⟨l,hTG⟩:=hT cs rest A1 v1 ve hsp hA;have hg3:=hg.2.2;have hk:=RL hg b1 oV b3;have hmu:mu (RK m) m=some gN:=by
  have hn:=oJ hk.one;have:∀(l:List (Option Nat)) (j0 i k:Nat),l.getD i none=some k->(∀i',i'<i->l.getD i' none≠some k)->As l j0 k=some (j0+i):=by
   intro l
   induction l with
   |nil=>intro j0 i k h;simp at h
   |cons x l ih=>
    intro j0 i k h fP;cases i with
    |zero=>
     have h:x=some k:=by simpa using h
     subst h;simp only[As,cM];rfl
    |succ i=>
     have ih:=ih (j0+1) i k (by simpa using h) (fun i' hi=>by have:=fP (i'+1) be;simpa using this);have h0:=fP 0 be;have e:j0+1+i=j0+(i+1):=by omega
     cases x with
     |none=>simp only[As,ih,e]
     |some q=>
      have:Nat.beq q k=false:=by
       cases z:Nat.beq q k with
       |false=>rfl
       |true=>exact absurd (by simp[aD z]) h0
      simp only[As,this,ih,e]
  have h0:(RK m).getD gN none=some m:=by rw[wu,aI be,aG rfl]
  have:=this (RK m) 0 gN m h0 fun i hi q=>by have:=hn i gN m q h0;omega
  simpa using this
 have hgN:=Lq hg3 cs;have alM:=Lq hg3 ve;have he:Eh (RK m) (hP cs) (v1,hP ve,gN+1) h n=some (v1,h.set m (some (.cells ve)),n):=by
  unfold Eh;simp only[GY v1 hv.1,MQ,Nat.sub_self,KO,Nat.add_zero];have e1:o7 (UN (RK m) (hP ve) (gN+1) n) (RK m) (hP cs) (hP ve) gN 0 h=some h:=Fo _ _ _ fun j _ hj=>by rw[hgN,aI be]
  rw[I9 gN 1 0 h h e1];unfold o7;rw[bE,hgN gN,aG rfl];simp only[O.wr,wu,aI (cF gN),if_true,alM gN,Nat.blt];rw[Nat.ble_eq_true_of_le b2];simp only[O.rn,oM ve hv.2,o7]
 refine Fa hm xD hf hb l hk (nH:=.ptr (some (gN,0))::rest) ?_ he (by rw[MQ];exact hTG) ra g hd;simp only[V.D0,V.rn,hmu,oM rest b4]
def gu(P:Program)(n0 N:Nat)(s S:St):Prop:=∀c Q,TG P n0 N c S Q->TG P n0 N c s Q
section
variable{P:Program}{n0 N:Nat}{s s1 S:St}
theorem gu.refl:gu P n0 N s s:=fun _ _ h=>h
theorem gu.trans(h1:gu P n0 N s s1)(h2:gu P n0 N s1 S):gu P n0 N s S:=fun c Q h=>h1 c Q (h2 c Q h)
theorem gu.norm{live:List Nat}(e:eX n0 live s=some S):gu P n0 N s S:=fun _ _ h=>c6 e h
theorem gu.deep(l:List Nat)(e:C4 l s=some S):gu P n0 N s S:=fun _ _ h=>tF l e h
theorem gu.own(l:List (Nat×IntKind))(e:KK l s=some S):gu P n0 N s S:=fun _ _ h=>tC l e h
theorem gu.map(l:List (Nat×Option IntKind))(e:Q0 l s=some S):gu P n0 N s S:=fun _ _ h=>Aq l e h
theorem gu.frz(ms:List Nat){A:ah}(e:XR ms s=some (A,S))(hA:∀x∈A,x):gu P n0 N s S:=fun _ _ h=>xJ ms e hA h
end
theorem jj{P:Program}{n0 N:Nat}{c:Code}{s:St}{Q:Exit->St->Prop}(b m:Nat)(S:Nat->St)(hc:BJ c b=true)(hl:CR (dx c)=true)(h0:gu P n0 N s (S 0))
  (hb:∀i,i<m->TG P n0 N (dx (dx c)) (S i) (andThen (fun s'=>gu P n0 N s' (S (i+1))) (mj b Q)))
  (he:TG P n0 N (dx (dx c)) (S m) (fun y s'=>y≠ .normal/\mj b Q y s')):TG P n0 N c s Q:=by
 refine fg hc (gl (fun k s=>∃i,k=m-i/\i<=m/\gu P n0 N s (S i)) hl ?_ m ⟨0,rfl,aY _,h0⟩);rintro k s1 ⟨i,hk,hi,fQ⟩;refine fQ _ _ ?_;rcases bN i m with fJ|Ae
 . refine fe (hb i fJ) fun y s' h=>?_;cases y with
   |normal=>exact⟨m-(i+1),be,i+1,rfl,be,h⟩
   |_=>exact h
 . obtain rfl:i=m:=by omega
   refine fe he fun y s' h=>?_;cases y with
   |normal=>exact absurd rfl h.1
   |_=>exact h.2
section
variable{α:Type}{g a b:α}
theorem j9{P:Program}{n0 N:Nat}{c:Code}{s:St}{Q:Exit->St->Prop}(b:Nat)(μ:α->Nat)(I:α->Prop)(S:α->St)(hc:BJ c b=true)(hl:CR (dx c)=true)(x0:α)(i0:I x0)(h0:gu P n0 N s (S x0))
  (hb:∀x,I x->TG P n0 N (dx (dx c)) (S x) (andThen (fun s'=>∃x',μ x'<μ x/\I x'/\gu P n0 N s' (S x')) (mj b Q))):TG P n0 N c s Q:=by
 refine fg hc (gl (fun k s=>∃x,k=μ x/\I x/\gu P n0 N s (S x)) hl ?_ (μ x0) ⟨x0,rfl,i0,h0⟩);rintro k s1 ⟨x,hk,hi,fQ⟩;refine fQ _ _ ?_;refine fe (hb x hi) fun y s' h=>?_;cases y with
 |normal=>
  obtain⟨x',h1,h2,h3⟩:=h;exact⟨μ x',be,x',rfl,h2,h3⟩
 |_=>exact h
theorem afi(h:g∈[a]):g=a:=aq.1 h
theorem iV(h:g∈[a,b]):g=a\/g=b:=(aE.1 h).imp id afi
theorem xQ{c:α}(h:g∈[a,b,c]):g=a\/g=b\/g=c:=(aE.1 h).imp id iV
theorem afj{c d:α}(h:g∈[a,b,c,d]):g=a\/g=b\/g=c\/g=d:=(aE.1 h).imp id xQ
end
theorem fm{p:Prop}{l:ah}(h:p)(t:∀a∈l,a):∀a∈p::l,a:=cq.2 ⟨h,t⟩
theorem eR{p:Prop}(h:p):∀a∈[p],a:=fm h fun _ h=>absurd h aM
def Vh(f0:FuncId)(MR:ag)(h0:Tr O)(n0:Nat)(v:V)(h1:Tr O)(n1:Nat)(S:jL):jL:=fun f args h n=>match Nat.beq f f0 with
 |true=>some ([args=MR/\h=h0/\n=n0],v,h1,n1)
 |false=>S f args h n
theorem MS{P:Program}{f0:FuncId}{MR:ag}{h0:Tr O}{n0:Nat}{v:V}{h1:Tr O}{n1:Nat}{S:jL}(fJ:f0<P.funcs.size)(hc:cU P f0 MR h0 n0 v h1 n1)(hS:gd P S):gd P (Vh f0 MR h0 n0 v h1 n1 S):=by
 intro f args h n A v' h' n' e;unfold Vh at e;split at e
 . rename_i hb;have hb:=aD hb;subst hb;simp only[an,aB]at e;obtain⟨rfl,rfl,rfl,rfl⟩:=e;refine⟨fJ,fun hA E w c9 ra g hd _=>?_⟩;obtain⟨rfl,rfl,rfl⟩:=hA _ (aq.2 rfl);exact hc E w c9 ra g hd
 . exact hS f args h n A v' h' n' e
def MT(P:Program)(n0:Nat)(fn:Func)(live:List Nat)(b:Nat)(p:X×St):o6:=match p.1 with
 | .exit i=>match Nat.beq i b with
   |true=>match KI P n0 fn p.2 with
    |some (v,h,n)=>.ret v h n
    |none=>.bad
   |false=>.bad
 |_=>vk P n0 fn live p
def aaN(P:Program)(cs:e9)(H:List (Nat×oZ))(F n0:Nat)(fn:Func)(live:List Nat)(b:Nat)(c:Code)(s:St):Option (ag×ag×List (List (Bool×Bool)×ah×o6)):=
 match jX P cs H F c s with
 |some l=>some (qC l,vh l,vg (MT P n0 fn live b) l)
 |none=>none
abbrev zh(P:Program)(cs:e9)(H:List (Nat×oZ))(F n0:Nat)(fn:Func)(live:List Nat)(b:Nat)(c:Code)(s:St)(L:ag)(G:List (List (Bool×Bool)×ah×o6)):Prop:=aaN P cs H F n0 fn live b c s=some (L,L,G)
theorem zh.of{P:Program}{cs:e9}{H:List (Nat×oZ)}{F n0:Nat}{fn:Func}{live:List Nat}{b:Nat}{c:Code}{s:St}{G:List (List (Bool×Bool)×ah×o6)}(h1:y4 P cs H F c s=true)(h2:xH P cs H F c s=An P cs H F c s)
  (h3:vg (MT P n0 fn live b) (yW (jX P cs H F c s))=G):∃L,zh P cs H F n0 fn live b c s L G:=by
 obtain⟨l,hl⟩:=b9.1 h1;unfold xH An at h2;rw[hl]at h2 h3;simp only[yW]at h2 h3;exact⟨qC l,by simp only[zh,aaN,hl,h3,<- h2]⟩
theorem RM{P:Program}{n0 N:Nat}{c:Code}{s:St}{Q:Exit->St->Prop}{H:List (Nat×oZ)}{F:Nat}{fn:Func}{live:List Nat}{L:ag}{G:List (List (Bool×Bool)×ah×o6)}(b:Nat)(X':CX P)(hm:P.follows .mixedOrders=true)(R:V->Tr O->Nat->Prop)(hc:eU N c=true)(hr:zh P X'.cs H F n0 fn live b c s L G)
  (hQ:∀s',fH P n0 fn R .normal s'->Q (.exit b) s') (h:∀g∈G,(∀b∈g.1,b.1=b.2)->(∀a∈g.2.1,a)/\g.2.2.post P n0 fn live R Q):TG P n0 N c s Q:=by
 unfold zh aaN at hr;cases hl:jX P X'.cs H F c s with
 |none=>rw[hl]at hr;cases hr
 |some l=>
  rw[hl]at hr;simp only[an,aB]at hr;obtain⟨e1,e2,e3⟩:=hr;refine KJ (X':=X') hm hc hl fun p hp ho=>?_;have hg:=h (p.1.conds,p.1.UD,MT P n0 fn live b p.2) (e3▸si hp) ho;refine⟨⟨yX l (e1.trans e2.symm) p hp,hg.1⟩,?_⟩;obtain⟨pp,x,s'⟩:=p;have iH:=hg.2;simp only[MT]at iH;cases x with
  |normal=>
   simp only[vk]at iH;split at iH
   . rename_i s2 jd;exact⟨.normal,rfl,iH s' jd⟩
   . exact iH.elim
  |exit i=>
   simp only at iH;split at iH
   . rename_i hb;have hb:=aD hb;subst hb;split at iH
     . rename_i v h n hr;exact⟨.exit i,rfl,hQ s' ⟨.inl rfl,v,h,n,hr,iH.1⟩⟩
     . exact iH.elim
   . exact iH.elim
  |ret=>
   simp only[vk]at iH;split at iH
   . rename_i v h n hr;exact⟨.ret,rfl,iH.2 s' ⟨.inr rfl,v,h,n,hr,iH.1⟩⟩
   . exact iH.elim
  |panic _=>exact iH.elim
theorem OP{h h0:Tr O}(hh:∀k,h.get k=h0.get k)(m:Nat):eC h m↔eC h0 m:=by unfold eC;rw[hh m]
theorem cU.ext{P:Program}{f:FuncId}{args:ag}{h h0 h1 h2:Tr O}{n n1:Nat}{v:V}(hh:∀k,h.get k=h0.get k)(hk:∀k,h1.get k=h2.get k)(c:cU P f args h0 n v h2 n1):cU P f args h n v h1 n1:=by
 intro E w c9 ra g hd;refine(c E w c9 ra (g.ext fun k=>(hh k).symm) hd).mono fun e w' ⟨E',u,q1,q2,q3,q4⟩=>⟨E',?_,q1,q2,q3,q4⟩;have u:=u.ext hk;have hw:=OP hh;exact⟨u.le,u.good,u.size,u.tape,u.os,u.output,fun b hb hm=>u.keep b hb fun m s h=>hm m s ((hw m).2 h),fun m b s h1 h2 h3=>by
  obtain⟨m0,s0,a1,a2,a3⟩:=u.sV m b s h1 h2 h3;exact⟨m0,s0,by rw[hh];exact a1,a2,fun h=>(hw m0).2 (a3 h)⟩,fun b c h=>by
  rcases u.DU b c h with h|h|⟨m,s,h1,h2⟩
  . exact .inl h
  . exact .inr (.inl h)
  . exact .inr (.inr ⟨m,s,(hw m).2 h1,h2⟩)⟩
theorem MU{l:af}{N k:Nat}(hl:∀p∈l,p.1<N)(hN:N<=fN)(hk:N<=k):(hL l).get k=none:=by
 cases e:(hL l).get k with
 |none=>rfl
 |some o=>
  rcases BP l .nil k o (fun p hp=>bD (hl p hp) hN) e with h|h
  . cases h
  . have:=hl _ h;simp only at this;omega
theorem Vi{l l0:af}{a b N:Nat}(hl:(l.all fun p=>Nat.blt p.1 N)=true)(vR:(l0.all fun p=>Nat.blt p.1 N)=true)(hN:N<=fN)(ha:a<N)(hb:b<N)(hk:∀k,k<N->(((hL l).set a none).set b none).get k=(hL l0).get k):∀k,(((hL l).set a none).set b none).get k=(hL l0).get k:=by
 have e:∀{l:af},(l.all fun p=>Nat.blt p.1 N)=true->∀p∈l,p.1<N:=fun h p hp=>au (bn.1 h p hp);intro k;rcases bN k N with h|h
 . exact hk k h
 . rw[MU (e vR) hN h,Tr.eS _ _ _ be,aI be,Tr.eS _ _ _ be,aI be,MU (e hl) hN h]
end Go.Eng
