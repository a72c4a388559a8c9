/- The engine, part PT: methods on a pointer to cells, at names of our own; counted loops. No conditions: lemmas alone. -/
import Derived.Test.YtfihojpgobmmdaaGreatDoorJointW14
set_option linter.unusedVariables false
set_option linter.unusedSimpArgs false
set_option linter.unusedSectionVars false
namespace Go.Eng
open Go Go.RowKit
mutual
theorem GQ{ν:Nat->Option Nat}:∀(v:V),v.deep=true->v.rn ν=some v
 | .bool _,_=>rfl
 | .int _ _,_=>rfl
 | .str _,_=>rfl
 | .ptr none,_=>rfl
 | .ptr (some _),h=>by cases h
 | .dj none _ _ _,_=>rfl
 | .dj (some _) _ _ _,h=>by cases h
 | .map none,_=>rfl
 | .map (some _),h=>by cases h
 | .kG,_=>rfl
 | .nilIface,_=>rfl
 | .dO _ _ _,_=>rfl
 | .dm _,_=>rfl
 | .fn f a c,h=>by
   simp only[V.deep,aC]at h;obtain⟨h1,h2,h3⟩:=h;simp only[V.rn,oP a h2,oP c h3];cases f<;>first|rfl|cases h1
 | .iface t x,h=>by simp only[V.deep]at h;simp only[V.rn,GQ x h]
 | .agg cs,h=>by simp only[V.deep]at h;simp only[V.rn,oP cs h]
 | .ew cs,h=>by simp only[V.deep]at h;simp only[V.rn,oP cs h]
theorem oP{ν:Nat->Option Nat}:∀(v:ag),V.qF v=true->V.DZ ν v=some v
 | [],_=>rfl
 |x::xs,h=>by
  simp only[V.qF,aC]at h;simp only[V.DZ,GQ x h.1,oP xs h.2]
end
def Ep(sp:ag->ag->Option (ah×V×ag)):ag->Tr O->Nat->Option (ah×V×Tr O×Nat):=fun args h n=>match args with
 | .ptr (some (m,0))::rest=>match h.get m with
   |some (.cells cs)=>match(Nat.ble gN m&&Nat.blt m fL)&&(V.qF cs&&V.qF rest)with
    |true=>match sp cs rest with
     |some (A,v,vc)=>match V.deep v&&V.qF vc with
      |true=>some (A,v,h.set m (some (.cells vc)),n)
      |false=>none
     |none=>none
    |false=>none
   |_=>none
 |_=>none
def Rt(m:Nat):List (Option Nat):=(List.range gN).map some++[some m]
theorem wu(m j:Nat):(Rt m).getD j none=if j<gN then some j else if j=gN then some m else none:=by
 unfold Rt;rw[aN,bT];simp only[aY,List.length_range,bt];split
 . rename_i h;simp[List.getElem?_range h]
 . rename_i h;split
   . rename_i e;subst e;simp
   . rename_i e;have:([some m]:List (Option Nat))[j-gN]? =none:=bR (by simp;omega);rw[this];rfl
theorem Mz(m:Nat):(Rt m).length=gN+1:=by simp[Rt]
theorem xO:∀(l:List (Option Nat)),(∀i j k,l.getD i none=some k->l.getD j none=some k->i=j)->nu l=true
 | [],_=>rfl
 |none::r,h=>by
  simp only[nu];exact xO r fun i j k hi hj=>by have:=h (i+1) (j+1) k (by simpa using hi) (by simpa using hj);omega
 |some x::r,h=>by
  simp only[nu,aC];refine⟨?_,xO r fun i j k hi hj=>by have:=h (i+1) (j+1) k (by simpa using hi) (by simpa using hj);omega⟩;rw[Bool.not_eq_true'];rw[List.any_eq_false];intro y hy;cases y with
  |none=>simp
  |some z=>
   simp only;intro q;have hz:=aD q;subst hz;obtain⟨i,hi,he⟩:=List.getElem_of_mem hy;have:=h 0 (i+1) x (by simp) (by simp[ay hi,he]);omega
def aax:Prop:=(∀p∈jR,p.2<gN)/\(∀j,j<gN->∃p∈jR,p.2=j)/\gN<fL
def hP(cs:ag):Tr O:=Tr.nil.set gN (some (.cells cs))
theorem La(ht:gN<fL)(cs:ag)(j:Nat):(hP cs).get j=if j=gN then some (.cells cs)else none:=by
 unfold hP;rw[Tr.eP _ _ _ ht];split<;>rfl
theorem Ru(hg:aax){h:Tr O}{m:Nat}{cs:ag}(hm:gN<=m)(hc:h.get m=some (.cells cs))(hd:V.qF cs=true):vl (Rt m) h (hP cs):=by
 obtain⟨g1,g2,g3⟩:=hg;refine⟨fun p hp=>?_,?_,fun j k hj=>?_,fun j o hj=>?_⟩
 . rw[wu,aG (g1 p hp)]
 . refine xO _ fun i j k hi hj=>?_;rw[wu]at hi hj;split at hi<;>split at hj
   . simp only[an]at hi hj;omega
   . split at hj
     . simp only[an]at hi hj;omega
     . cases hj
   . split at hi
     . simp only[an]at hi hj;omega
     . cases hi
   . split at hi
     . split at hj
       . omega
       . cases hj
     . cases hi
 . rw[wu]at hj;split at hj
   . rename_i fF;obtain rfl:=eo hj;exact .inl (g2 j fF)
   . split at hj
     . obtain rfl:=eo hj;exact .inr (by rw[hc];simp)
     . cases hj
 . rw[La g3]at hj;split at hj
   . rename_i e;obtain rfl:=eo hj;refine⟨m,.cells cs,?_,hc,?_⟩
     . rw[wu,aI be,aG e]
     . simp only[O.rn,oP cs hd]
   . cases hj
theorem Fm{ν:Nat->Option Nat}{ns:List (Option Nat)}{h1 mz:Tr O}:∀(i q:Nat) (h:Tr O),(∀j,q<=j->j<q+i->h1.get j=none)->pg ν ns h1 mz i q h=some h
 |0,_,_,_=>rfl
 |i+1,q,h,hn=>by
  unfold pg;rw[hn q (aA _) be];exact Fm i (q+1) h fun j h1 h2=>hn j be be
theorem IY{ν:Nat->Option Nat}{ns:List (Option Nat)}{h1 mz:Tr O}:∀(i k q:Nat) (h h2:Tr O),pg ν ns h1 mz i q h=some h2->pg ν ns h1 mz (i+k) q h=pg ν ns h1 mz k (q+i) h2
 |0,k,q,h,h2,e=>by simp only[pg,an]at e;subst e;simp
 |i+1,k,q,h,h2,e=>by
  have nxt:∀h',pg ν ns h1 mz i (q+1) h'=some h2->pg ν ns h1 mz (i+k) (q+1) h'=pg ν ns h1 mz k (q+(i+1)) h2:=fun h' e'=>by
   have:=IY i k (q+1) h' h2 e';rw[this];congr 1;omega
  generalize pg ν ns h1 mz k (q+(i+1)) h2=R at nxt ⊢;rw[show i+1+k=(i+k)+1 by omega];unfold pg at e ⊢;split at e
  . split at e
    . split at e
      . split at e
        . split at e
          . split at e
            . split at e
              . exact nxt _ e
              . cases e
            . cases e
          . exact nxt _ e
        . cases e
      . cases e
    . exact nxt _ e
  . exact nxt _ e
theorem BN{P:Program}(hm:P.follows .mixedOrders=true)(xB:lA P=true)(hg:aax){f:FuncId}{fn:Func}{code:Code}{sp:ag->ag->Option (ah×V×ag)}(fF:f<P.funcs.size)(hf:P.funcs[f]? =some fn)(hb:fn.body=some code)
  (hT:∀cs args A v vc,sp cs args=some (A,v,vc)->(∀a∈A,a)->(Nat.ble (args.length+1) fn.ntmps&&Nat.blt fn.ntmps fL)=true/\TG P (gN+1) fn.ntmps code (cS (.ptr (some (gN,0))::args) (hP cs) (gN+1)) (fG P (gN+1) fn fun a b c=>a=v/\b=hP vc/\c=gN+1)):jL P f (Ep sp):=by
 refine⟨fF,fun args h n A v h2 n2 e hA E w c9 ra g hd hc=>?_⟩;unfold Ep at e;split at e
 case h_2=>cases e
 rename_i m rest;split at e
 case h_2=>cases e
 rename_i cs o5;split at e
 case h_2=>cases e
 rename_i hbs;split at e
 case h_2=>cases e
 rename_i A1 v1 vc hsp;split at e
 case h_2=>cases e
 rename_i hv;simp only[an,aB]at e;obtain⟨rfl,rfl,rfl,rfl⟩:=e;simp only[aC]at hbs hv;obtain⟨⟨b1,b2⟩,b3,b4⟩:=hbs;have b1:gN<=m:=au b1;have b2:m<fL:=au b2;obtain⟨l,hTG⟩:=hT cs rest A1 v1 vc hsp hA;have hg3:=hg.2.2;have hk:=Ru hg b1 o5 b3;have hmu:mu (Rt m) m=some gN:=by
  have hn:=oL hk.one;have:∀(l:List (Option Nat)) (j0 i k:Nat),l.getD i none=some k->(∀i',i'<i->l.getD i' none≠some k)->Am l j0 k=some (j0+i):=by
   intro l
   induction l with
   |nil=>intro j0 i k h;simp at h
   |cons x l ih=>
    intro j0 i k h fN;cases i with
    |zero=>
     have h:x=some k:=by simpa using h
     subst h;simp only[Am,cM];rfl
    |succ i=>
     have ih:=ih (j0+1) i k (by simpa using h) (fun i' hi=>by have:=fN (i'+1) be;simpa using this);have h0:=fN 0 be;have e:j0+1+i=j0+(i+1):=by omega
     cases x with
     |none=>simp only[Am,ih,e]
     |some q=>
      have:Nat.beq q k=false:=by
       cases z:Nat.beq q k with
       |false=>rfl
       |true=>exact absurd (by simp[aD z]) h0
      simp only[Am,this,ih,e]
  have h0:(Rt m).getD gN none=some m:=by rw[wu,aI be,aG rfl]
  have:=this (Rt m) 0 gN m h0 fun i hi q=>by have:=hn i gN m q h0;omega
  simpa using this
 have hgN:=La hg3 cs;have alv:=La hg3 vc;have he:Eh (Rt m) (hP cs) (v1,hP vc,gN+1) h n=some (v1,h.set m (some (.cells vc)),n):=by
  unfold Eh;simp only[GQ v1 hv.1,Mz,Nat.sub_self,KA,Nat.add_zero];have e1:pg (Uy (Rt m) (hP vc) (gN+1) n) (Rt m) (hP cs) (hP vc) gN 0 h=some h:=Fm _ _ _ fun j _ hj=>by rw[hgN,aI be]
  rw[IY gN 1 0 h h e1];unfold pg;rw[bI,hgN gN,aG rfl];simp only[O.wr,wu,aI (cF gN),if_true,alv gN,Nat.blt];rw[Nat.ble_eq_true_of_le b2];simp only[O.rn,oP vc hv.2,pg]
 refine Fa hm xB hf hb l hk (nL:=.ptr (some (gN,0))::rest) ?_ he (by rw[Mz];exact hTG) ra g hd;simp only[V.DZ,V.rn,hmu,oP rest b4]
def gC(P:Program)(n0 N:Nat)(s S:St):Prop:=∀c Q,TG P n0 N c S Q->TG P n0 N c s Q
section
variable{P:Program}{n0 N:Nat}{s s1 S:St}
theorem gC.refl:gC P n0 N s s:=fun _ _ h=>h
theorem gC.trans(h1:gC P n0 N s s1)(h2:gC P n0 N s1 S):gC P n0 N s S:=fun c Q h=>h1 c Q (h2 c Q h)
theorem gC.norm{live:List Nat}(e:e9 n0 live s=some S):gC P n0 N s S:=fun _ _ h=>c5 e h
theorem gC.deep(l:List Nat)(e:C0 l s=some S):gC P n0 N s S:=fun _ _ h=>tF l e h
theorem gC.own(l:List (Nat×IntKind))(e:Kw l s=some S):gC P n0 N s S:=fun _ _ h=>tC l e h
theorem gC.map(l:List (Nat×Option IntKind))(e:QH l s=some S):gC P n0 N s S:=fun _ _ h=>Ak l e h
theorem gC.frz(ms:List Nat){A:ah}(e:XG ms s=some (A,S))(hA:∀x∈A,x):gC P n0 N s S:=fun _ _ h=>xH ms e hA h
end
theorem jq{P:Program}{n0 N:Nat}{c:Code}{s:St}{Q:Exit->St->Prop}(b m:Nat)(S:Nat->St)(hc:BG c b=true)(hl:CO (dw c)=true)(h0:gC P n0 N s (S 0))
  (hb:∀i,i<m->TG P n0 N (dw (dw c)) (S i) (andThen (fun s'=>gC P n0 N s' (S (i+1))) (mQ b Q)))
  (he:TG P n0 N (dw (dw c)) (S m) (fun y s'=>y≠ .normal/\mQ b Q y s')):TG P n0 N c s Q:=by
 refine fg hc (gl (fun k s=>∃i,k=m-i/\i<=m/\gC P n0 N s (S i)) hl ?_ m ⟨0,rfl,aZ _,h0⟩);rintro k s1 ⟨i,hk,hi,fS⟩;refine fS _ _ ?_;rcases bP i m with fF|zJ
 . refine ff (hb i fF) fun y s' h=>?_;cases y with
   |normal=>exact⟨m-(i+1),be,i+1,rfl,be,h⟩
   |_=>exact h
 . obtain rfl:i=m:=by omega
   refine ff he fun y s' h=>?_;cases y with
   |normal=>exact absurd rfl h.1
   |_=>exact h.2
section
variable{α:Type}{g a b:α}
theorem jC{P:Program}{n0 N:Nat}{c:Code}{s:St}{Q:Exit->St->Prop}(b:Nat)(μ:α->Nat)(I:α->Prop)(S:α->St)(hc:BG c b=true)(hl:CO (dw c)=true)(x0:α)(i0:I x0)(h0:gC P n0 N s (S x0))
  (hb:∀x,I x->TG P n0 N (dw (dw c)) (S x) (andThen (fun s'=>∃x',μ x'<μ x/\I x'/\gC P n0 N s' (S x')) (mQ b Q))):TG P n0 N c s Q:=by
 refine fg hc (gl (fun k s=>∃x,k=μ x/\I x/\gC P n0 N s (S x)) hl ?_ (μ x0) ⟨x0,rfl,i0,h0⟩);rintro k s1 ⟨x,hk,hi,fS⟩;refine fS _ _ ?_;refine ff (hb x hi) fun y s' h=>?_;cases y with
 |normal=>
  obtain⟨x',h1,h2,h3⟩:=h;exact⟨μ x',be,x',rfl,h2,h3⟩
 |_=>exact h
theorem ae0(h:g∈[a]):g=a:=aq.1 h
theorem jk(h:g∈[a,b]):g=a\/g=b:=(aE.1 h).imp id ae0
theorem xP{c:α}(h:g∈[a,b,c]):g=a\/g=b\/g=c:=(aE.1 h).imp id jk
theorem ae1{c d:α}(h:g∈[a,b,c,d]):g=a\/g=b\/g=c\/g=d:=(aE.1 h).imp id xP
end
theorem fm{p:Prop}{l:ah}(h:p)(t:∀a∈l,a):∀a∈p::l,a:=cr.2 ⟨h,t⟩
theorem eU{p:Prop}(h:p):∀a∈[p],a:=fm h fun _ h=>absurd h aL
def U2(f0:FuncId)(MA:ag)(h0:Tr O)(n0:Nat)(v:V)(h1:Tr O)(n1:Nat)(S:jQ):jQ:=fun f args h n=>match Nat.beq f f0 with
 |true=>some ([args=MA/\h=h0/\n=n0],v,h1,n1)
 |false=>S f args h n
theorem MB{P:Program}{f0:FuncId}{MA:ag}{h0:Tr O}{n0:Nat}{v:V}{h1:Tr O}{n1:Nat}{S:jQ}(fF:f0<P.funcs.size)(hc:cU P f0 MA h0 n0 v h1 n1)(hS:gd P S):gd P (U2 f0 MA h0 n0 v h1 n1 S):=by
 intro f args h n A v' h' n' e;unfold U2 at e;split at e
 . rename_i hb;have hb:=aD hb;subst hb;simp only[an,aB]at e;obtain⟨rfl,rfl,rfl,rfl⟩:=e;refine⟨fF,fun hA E w c9 ra g hd _=>?_⟩;obtain⟨rfl,rfl,rfl⟩:=hA _ (aq.2 rfl);exact hc E w c9 ra g hd
 . exact hS f args h n A v' h' n' e
def MC(P:Program)(n0:Nat)(fn:Func)(live:List Nat)(b:Nat)(p:X×St):pb:=match p.1 with
 | .exit i=>match Nat.beq i b with
   |true=>match Ku P n0 fn p.2 with
    |some (v,h,n)=>.ret v h n
    |none=>.bad
   |false=>.bad
 |_=>vj P n0 fn live p
def aay(P:Program)(cs:fb)(H:List (Nat×o8))(F n0:Nat)(fn:Func)(live:List Nat)(b:Nat)(c:Code)(s:St):Option (ag×ag×List (List (Bool×Bool)×ah×pb)):=
 match j9 P cs H F c s with
 |some l=>some (qD l,vg l,vf (MC P n0 fn live b) l)
 |none=>none
abbrev zb(P:Program)(cs:fb)(H:List (Nat×o8))(F n0:Nat)(fn:Func)(live:List Nat)(b:Nat)(c:Code)(s:St)(L:ag)(G:List (List (Bool×Bool)×ah×pb)):Prop:=aay P cs H F n0 fn live b c s=some (L,L,G)
theorem zb.of{P:Program}{cs:fb}{H:List (Nat×o8)}{F n0:Nat}{fn:Func}{live:List Nat}{b:Nat}{c:Code}{s:St}{G:List (List (Bool×Bool)×ah×pb)}(h1:yX P cs H F c s=true)(h2:xF P cs H F c s=Ah P cs H F c s)
  (h3:vf (MC P n0 fn live b) (yT (j9 P cs H F c s))=G):∃L,zb P cs H F n0 fn live b c s L G:=by
 obtain⟨l,hl⟩:=b9.1 h1;unfold xF Ah at h2;rw[hl]at h2 h3;simp only[yT]at h2 h3;exact⟨qD l,by simp only[zb,aay,hl,h3,<- h2]⟩
theorem Rv{P:Program}{n0 N:Nat}{c:Code}{s:St}{Q:Exit->St->Prop}{H:List (Nat×o8)}{F:Nat}{fn:Func}{live:List Nat}{L:ag}{G:List (List (Bool×Bool)×ah×pb)}(b:Nat)(X':CX P)(hm:P.follows .mixedOrders=true)(R:V->Tr O->Nat->Prop)(hc:eX N c=true)(hr:zb P X'.cs H F n0 fn live b c s L G)
  (hQ:∀s',fG P n0 fn R .normal s'->Q (.exit b) s') (h:∀g∈G,(∀b∈g.1,b.1=b.2)->(∀a∈g.2.1,a)/\g.2.2.post P n0 fn live R Q):TG P n0 N c s Q:=by
 unfold zb aay at hr;cases hl:j9 P X'.cs H F c s with
 |none=>rw[hl]at hr;cases hr
 |some l=>
  rw[hl]at hr;simp only[an,aB]at hr;obtain⟨e1,e2,e3⟩:=hr;refine Kv (X':=X') hm hc hl fun p hp ho=>?_;have hg:=h (p.1.conds,p.1.Uo,MC P n0 fn live b p.2) (e3▸r7 hp) ho;refine⟨⟨yU l (e1.trans e2.symm) p hp,hg.1⟩,?_⟩;obtain⟨pp,x,s'⟩:=p;have iG:=hg.2;simp only[MC]at iG;cases x with
  |normal=>
   simp only[vj]at iG;split at iG
   . rename_i s2 jg;exact⟨.normal,rfl,iG s' jg⟩
   . exact iG.elim
  |exit i=>
   simp only at iG;split at iG
   . rename_i hb;have hb:=aD hb;subst hb;split at iG
     . rename_i v h n hr;exact⟨.exit i,rfl,hQ s' ⟨.inl rfl,v,h,n,hr,iG.1⟩⟩
     . exact iG.elim
   . exact iG.elim
  |ret=>
   simp only[vj]at iG;split at iG
   . rename_i v h n hr;exact⟨.ret,rfl,iG.2 s' ⟨.inr rfl,v,h,n,hr,iG.1⟩⟩
   . exact iG.elim
  |panic _=>exact iG.elim
theorem Ot{h h0:Tr O}(hh:∀k,h.get k=h0.get k)(m:Nat):eC h m↔eC h0 m:=by unfold eC;rw[hh m]
theorem cU.ext{P:Program}{f:FuncId}{args:ag}{h h0 h1 h2:Tr O}{n n1:Nat}{v:V}(hh:∀k,h.get k=h0.get k)(hk:∀k,h1.get k=h2.get k)(c:cU P f args h0 n v h2 n1):cU P f args h n v h1 n1:=by
 intro E w c9 ra g hd;refine(c E w c9 ra (g.ext fun k=>(hh k).symm) hd).mono fun e w' ⟨E',u,q1,q2,q3,q4⟩=>⟨E',?_,q1,q2,q3,q4⟩;have u:=u.ext hk;have hw:=Ot hh;exact⟨u.le,u.good,u.size,u.tape,u.os,u.output,fun b hb hm=>u.keep b hb fun m s h=>hm m s ((hw m).2 h),fun m b s h1 h2 h3=>by
  obtain⟨m0,s0,a1,a2,a3⟩:=u.sR m b s h1 h2 h3;exact⟨m0,s0,by rw[hh];exact a1,a2,fun h=>(hw m0).2 (a3 h)⟩,fun b c h=>by
  rcases u.DV b c h with h|h|⟨m,s,h1,h2⟩
  . exact .inl h
  . exact .inr (.inl h)
  . exact .inr (.inr ⟨m,s,(hw m).2 h1,h2⟩)⟩
theorem MD{l:af}{N k:Nat}(hl:∀p∈l,p.1<N)(hN:N<=fL)(hk:N<=k):(hL l).get k=none:=by
 cases e:(hL l).get k with
 |none=>rfl
 |some o=>
  rcases BM l .nil k o (fun p hp=>bE (hl p hp) hN) e with h|h
  . cases h
  . have:=hl _ h;simp only at this;omega
theorem U3{l l0:af}{a b N:Nat}(hl:(l.all fun p=>Nat.blt p.1 N)=true)(vS:(l0.all fun p=>Nat.blt p.1 N)=true)(hN:N<=fL)(ha:a<N)(hb:b<N)(hk:∀k,k<N->(((hL l).set a none).set b none).get k=(hL l0).get k):∀k,(((hL l).set a none).set b none).get k=(hL l0).get k:=by
 have e:∀{l:af},(l.all fun p=>Nat.blt p.1 N)=true->∀p∈l,p.1<N:=fun h p hp=>au (bq.1 h p hp);intro k;rcases bP k N with h|h
 . exact hk k h
 . rw[MD (e vS) hN h,Tr.eP _ _ _ be,aI be,Tr.eP _ _ _ be,aI be,MD (e hl) hN h]
end Go.Eng
