/- The engine, part PT: methods on a pointer to cells, at names of our own; counted loops. No conditions: lemmas alone. -/
import Derived.Test.YtfihojpgobmmdaaGreatDoorJointW14
set_option linter.unusedVariables false
set_option linter.unusedSimpArgs false
set_option linter.unusedSectionVars false
namespace Go.Eng
open Go Go.RowKit
mutual
theorem Gz{ν:Nat->Option Nat}:∀(v:V),v.deep=true->v.rn ν=some v
 | .bool _,_=>rfl
 | .int _ _,_=>rfl
 | .str _,_=>rfl
 | .ptr none,_=>rfl
 | .ptr (some _),h=>by cases h
 | .di none _ _ _,_=>rfl
 | .di (some _) _ _ _,h=>by cases h
 | .map none,_=>rfl
 | .map (some _),h=>by cases h
 | .kA,_=>rfl
 | .nilIface,_=>rfl
 | .dL _ _ _,_=>rfl
 | .dm _,_=>rfl
 | .fn f a c,h=>by
   simp only[V.deep,aC]at h;obtain⟨h1,h2,h3⟩:=h;simp only[V.rn,oJ a h2,oJ c h3];cases f<;>first|rfl|cases h1
 | .iface t x,h=>by simp only[V.deep]at h;simp only[V.rn,Gz x h]
 | .agg cs,h=>by simp only[V.deep]at h;simp only[V.rn,oJ cs h]
 | .eo cs,h=>by simp only[V.deep]at h;simp only[V.rn,oJ cs h]
theorem oJ{ν:Nat->Option Nat}:∀(v:ag),V.qz v=true->V.DJ ν v=some v
 | [],_=>rfl
 |x::xs,h=>by
  simp only[V.qz,aC]at h;simp only[V.DJ,Gz x h.1,oJ xs h.2]
end
def D8(sp:ag->ag->Option (ah×V×ag)):ag->Tr O->Nat->Option (ah×V×Tr O×Nat):=fun args h n=>match args with
 | .ptr (some (m,0))::rest=>match h.get m with
   |some (.cells cs)=>match(Nat.ble gN m&&Nat.blt m fI)&&(V.qz cs&&V.qz rest)with
    |true=>match sp cs rest with
     |some (A,v,uW)=>match V.deep v&&V.qz uW with
      |true=>some (A,v,h.set m (some (.cells uW)),n)
      |false=>none
     |none=>none
    |false=>none
   |_=>none
 |_=>none
def Q4(m:Nat):List (Option Nat):=(List.range gN).map some++[some m]
theorem wc(m j:Nat):(Q4 m).getD j none=if j<gN then some j else if j=gN then some m else none:=by
 unfold Q4;rw[aM,bR];simp only[aY,List.length_range,br];split
 . rename_i h;simp[List.getElem?_range h]
 . rename_i h;split
   . rename_i e;subst e;simp
   . rename_i e;have:([some m]:List (Option Nat))[j-gN]? =none:=bP (by simp;omega);rw[this];rfl
theorem Me(m:Nat):(Q4 m).length=gN+1:=by simp[Q4]
theorem xG:∀(l:List (Option Nat)),(∀i j k,l.getD i none=some k->l.getD j none=some k->i=j)->ni l=true
 | [],_=>rfl
 |none::r,h=>by
  simp only[ni];exact xG r fun i j k hi hj=>by have:=h (i+1) (j+1) k (by simpa using hi) (by simpa using hj);omega
 |some x::r,h=>by
  simp only[ni,aC];refine⟨?_,xG r fun i j k hi hj=>by have:=h (i+1) (j+1) k (by simpa using hi) (by simpa using hj);omega⟩;rw[Bool.not_eq_true'];rw[List.any_eq_false];intro y hy;cases y with
  |none=>simp
  |some z=>
   simp only;intro q;have hz:=aD q;subst hz;obtain⟨i,hi,he⟩:=List.getElem_of_mem hy;have:=h 0 (i+1) x (by simp) (by simp[ay hi,he]);omega
def ZY:Prop:=(∀p∈jL,p.2<gN)/\(∀j,j<gN->∃p∈jL,p.2=j)/\gN<fI
def hP(cs:ag):Tr O:=Tr.nil.set gN (some (.cells cs))
theorem KR(ht:gN<fI)(cs:ag)(j:Nat):(hP cs).get j=if j=gN then some (.cells cs)else none:=by
 unfold hP;rw[Tr.eO _ _ _ ht];split<;>rfl
theorem Q5(hg:ZY){h:Tr O}{m:Nat}{cs:ag}(hm:gN<=m)(hc:h.get m=some (.cells cs))(hd:V.qz cs=true):ve (Q4 m) h (hP cs):=by
 obtain⟨g1,g2,g3⟩:=hg;refine⟨fun p hp=>?_,?_,fun j k hj=>?_,fun j o hj=>?_⟩
 . rw[wc,aG (g1 p hp)]
 . refine xG _ fun i j k hi hj=>?_;rw[wc]at hi hj;split at hi<;>split at hj
   . simp only[an]at hi hj;omega
   . split at hj
     . simp only[an]at hi hj;omega
     . cases hj
   . split at hi
     . simp only[an]at hi hj;omega
     . cases hi
   . split at hi
     . split at hj
       . omega
       . cases hj
     . cases hi
 . rw[wc]at hj;split at hj
   . rename_i fE;obtain rfl:=ek hj;exact .inl (g2 j fE)
   . split at hj
     . obtain rfl:=ek hj;exact .inr (by rw[hc];simp)
     . cases hj
 . rw[KR g3]at hj;split at hj
   . rename_i e;obtain rfl:=ek hj;refine⟨m,.cells cs,?_,hc,?_⟩
     . rw[wc,aI be,aG e]
     . simp only[O.rn,oJ cs hd]
   . cases hj
theorem EY{ν:Nat->Option Nat}{ns:List (Option Nat)}{h1 mh:Tr O}:∀(i q:Nat) (h:Tr O),(∀j,q<=j->j<q+i->h1.get j=none)->oW ν ns h1 mh i q h=some h
 |0,_,_,_=>rfl
 |i+1,q,h,hn=>by
  unfold oW;rw[hn q (aA _) be];exact EY i (q+1) h fun j h1 h2=>hn j be be
theorem IF{ν:Nat->Option Nat}{ns:List (Option Nat)}{h1 mh:Tr O}:∀(i k q:Nat) (h h2:Tr O),oW ν ns h1 mh i q h=some h2->oW ν ns h1 mh (i+k) q h=oW ν ns h1 mh k (q+i) h2
 |0,k,q,h,h2,e=>by simp only[oW,an]at e;subst e;simp
 |i+1,k,q,h,h2,e=>by
  have nxt:∀h',oW ν ns h1 mh i (q+1) h'=some h2->oW ν ns h1 mh (i+k) (q+1) h'=oW ν ns h1 mh k (q+(i+1)) h2:=fun h' e'=>by
   have:=IF i k (q+1) h' h2 e';rw[this];congr 1;omega
  generalize oW ν ns h1 mh k (q+(i+1)) h2=R at nxt ⊢;rw[show i+1+k=(i+k)+1 by omega];unfold oW at e ⊢;split at e
  . split at e
    . split at e
      . split at e
        . split at e
          . split at e
            . split at e
              . exact nxt _ e
              . cases e
            . cases e
          . exact nxt _ e
        . cases e
      . cases e
    . exact nxt _ e
  . exact nxt _ e
theorem Bx{P:Program}(hm:P.follows .mixedOrders=true)(xp:lj P=true)(hg:ZY){f:FuncId}{fn:Func}{code:Code}{sp:ag->ag->Option (ah×V×ag)}(fE:f<P.funcs.size)(hf:P.funcs[f]? =some fn)(hb:fn.body=some code)
  (hT:∀cs args A v uW,sp cs args=some (A,v,uW)->(∀a∈A,a)->(Nat.ble (args.length+1) fn.ntmps&&Nat.blt fn.ntmps fI)=true/\TG P (gN+1) fn.ntmps code (cR (.ptr (some (gN,0))::args) (hP cs) (gN+1)) (fB P (gN+1) fn fun a b c=>a=v/\b=hP uW/\c=gN+1)):jC P f (D8 sp):=by
 refine⟨fE,fun args h n A v h2 n2 e hA E w c7 ra g hd hc=>?_⟩;unfold D8 at e;split at e
 case h_2=>cases e
 rename_i m rest;split at e
 case h_2=>cases e
 rename_i cs oQ;split at e
 case h_2=>cases e
 rename_i hbs;split at e
 case h_2=>cases e
 rename_i A1 v1 uW hsp;split at e
 case h_2=>cases e
 rename_i hv;simp only[an,aB]at e;obtain⟨rfl,rfl,rfl,rfl⟩:=e;simp only[aC]at hbs hv;obtain⟨⟨b1,b2⟩,b3,b4⟩:=hbs;have b1:gN<=m:=au b1;have b2:m<fI:=au b2;obtain⟨l,hTG⟩:=hT cs rest A1 v1 uW hsp hA;have hg3:=hg.2.2;have hk:=Q5 hg b1 oQ b3;have hmu:mu (Q4 m) m=some gN:=by
  have hn:=oG hk.one;have:∀(l:List (Option Nat)) (j0 i k:Nat),l.getD i none=some k->(∀i',i'<i->l.getD i' none≠some k)->Aa l j0 k=some (j0+i):=by
   intro l
   induction l with
   |nil=>intro j0 i k h;simp at h
   |cons x l ih=>
    intro j0 i k h fL;cases i with
    |zero=>
     have h:x=some k:=by simpa using h
     subst h;simp only[Aa,cL];rfl
    |succ i=>
     have ih:=ih (j0+1) i k (by simpa using h) (fun i' hi=>by have:=fL (i'+1) be;simpa using this);have h0:=fL 0 be;have e:j0+1+i=j0+(i+1):=by omega
     cases x with
     |none=>simp only[Aa,ih,e]
     |some q=>
      have:Nat.beq q k=false:=by
       cases z:Nat.beq q k with
       |false=>rfl
       |true=>exact absurd (by simp[aD z]) h0
      simp only[Aa,this,ih,e]
  have h0:(Q4 m).getD gN none=some m:=by rw[wc,aI be,aG rfl]
  have:=this (Q4 m) 0 gN m h0 fun i hi q=>by have:=hn i gN m q h0;omega
  simpa using this
 have hgN:=KR hg3 cs;have akv:=KR hg3 uW;have he:D0 (Q4 m) (hP cs) (v1,hP uW,gN+1) h n=some (v1,h.set m (some (.cells uW)),n):=by
  unfold D0;simp only[Gz v1 hv.1,Me,Nat.sub_self,Kh,Nat.add_zero];have e1:oW (T0 (Q4 m) (hP uW) (gN+1) n) (Q4 m) (hP cs) (hP uW) gN 0 h=some h:=EY _ _ _ fun j _ hj=>by rw[hgN,aI be]
  rw[IF gN 1 0 h h e1];unfold oW;rw[bH,hgN gN,aG rfl];simp only[O.wr,wc,aI (cE gN),if_true,akv gN,Nat.blt];rw[Nat.ble_eq_true_of_le b2];simp only[O.rn,oJ uW hv.2,oW]
 refine EL hm xp hf hb l hk (nE:=.ptr (some (gN,0))::rest) ?_ he (by rw[Me];exact hTG) ra g hd;simp only[V.DJ,V.rn,hmu,oJ rest b4]
def gy(P:Program)(n0 N:Nat)(s S:St):Prop:=∀c Q,TG P n0 N c S Q->TG P n0 N c s Q
section
variable{P:Program}{n0 N:Nat}{s s1 S:St}
theorem gy.refl:gy P n0 N s s:=fun _ _ h=>h
theorem gy.trans(h1:gy P n0 N s s1)(h2:gy P n0 N s1 S):gy P n0 N s S:=fun c Q h=>h1 c Q (h2 c Q h)
theorem gy.norm{live:List Nat}(e:eU n0 live s=some S):gy P n0 N s S:=fun _ _ h=>c6 e h
theorem gy.deep(l:List Nat)(e:CI l s=some S):gy P n0 N s S:=fun _ _ h=>tB l e h
theorem gy.own(l:List (Nat×IntKind))(e:Kc l s=some S):gy P n0 N s S:=fun _ _ h=>tw l e h
theorem gy.map(l:List (Nat×Option IntKind))(e:Qi l s=some S):gy P n0 N s S:=fun _ _ h=>z7 l e h
theorem gy.ZV(ms:List Nat){A:ah}(e:WZ ms s=some (A,S))(hA:∀x∈A,x):gy P n0 N s S:=fun _ _ h=>xz ms e hA h
end
theorem jv{P:Program}{n0 N:Nat}{c:Code}{s:St}{Q:Exit->St->Prop}(b m:Nat)(S:Nat->St)(hc:Bq c b=true)(hl:Cx (dr c)=true)(h0:gy P n0 N s (S 0))
  (hb:∀i,i<m->TG P n0 N (dr (dr c)) (S i) (andThen (fun s'=>gy P n0 N s' (S (i+1))) (mK b Q)))
  (he:TG P n0 N (dr (dr c)) (S m) (fun y s'=>y≠ .normal/\mK b Q y s')):TG P n0 N c s Q:=by
 refine fh hc (gh (fun k s=>∃i,k=m-i/\i<=m/\gy P n0 N s (S i)) hl ?_ m ⟨0,rfl,aW _,h0⟩);rintro k s1 ⟨i,hk,hi,fP⟩;refine fP _ _ ?_;rcases bN i m with fE|zO
 . refine fb (hb i fE) fun y s' h=>?_;cases y with
   |normal=>exact⟨m-(i+1),be,i+1,rfl,be,h⟩
   |_=>exact h
 . obtain rfl:i=m:=by omega
   refine fb he fun y s' h=>?_;cases y with
   |normal=>exact absurd rfl h.1
   |_=>exact h.2
section
variable{α:Type}{g a b:α}
theorem js{P:Program}{n0 N:Nat}{c:Code}{s:St}{Q:Exit->St->Prop}(b:Nat)(μ:α->Nat)(I:α->Prop)(S:α->St)(hc:Bq c b=true)(hl:Cx (dr c)=true)(x0:α)(i0:I x0)(h0:gy P n0 N s (S x0))
  (hb:∀x,I x->TG P n0 N (dr (dr c)) (S x) (andThen (fun s'=>∃x',μ x'<μ x/\I x'/\gy P n0 N s' (S x')) (mK b Q))):TG P n0 N c s Q:=by
 refine fh hc (gh (fun k s=>∃x,k=μ x/\I x/\gy P n0 N s (S x)) hl ?_ (μ x0) ⟨x0,rfl,i0,h0⟩);rintro k s1 ⟨x,hk,hi,fP⟩;refine fP _ _ ?_;refine fb (hb x hi) fun y s' h=>?_;cases y with
 |normal=>
  obtain⟨x',h1,h2,h3⟩:=h;exact⟨μ x',be,x',rfl,h2,h3⟩
 |_=>exact h
theorem aeh(h:g∈[a]):g=a:=aq.1 h
theorem jk(h:g∈[a,b]):g=a\/g=b:=(aE.1 h).imp id aeh
theorem xH{c:α}(h:g∈[a,b,c]):g=a\/g=b\/g=c:=(aE.1 h).imp id jk
theorem aei{c d:α}(h:g∈[a,b,c,d]):g=a\/g=b\/g=c\/g=d:=(aE.1 h).imp id xH
end
theorem fm{p:Prop}{l:ah}(h:p)(t:∀a∈l,a):∀a∈p::l,a:=cq.2 ⟨h,t⟩
theorem e9{p:Prop}(h:p):∀a∈[p],a:=fm h fun _ h=>absurd h aL
def Ut(f0:FuncId)(Mf:ag)(h0:Tr O)(n0:Nat)(v:V)(h1:Tr O)(n1:Nat)(S:jJ):jJ:=fun f args h n=>match Nat.beq f f0 with
 |true=>some ([args=Mf/\h=h0/\n=n0],v,h1,n1)
 |false=>S f args h n
theorem Mg{P:Program}{f0:FuncId}{Mf:ag}{h0:Tr O}{n0:Nat}{v:V}{h1:Tr O}{n1:Nat}{S:jJ}(fE:f0<P.funcs.size)(hc:cT P f0 Mf h0 n0 v h1 n1)(hS:fU P S):fU P (Ut f0 Mf h0 n0 v h1 n1 S):=by
 intro f args h n A v' h' n' e;unfold Ut at e;split at e
 . rename_i hb;have hb:=aD hb;subst hb;simp only[an,aB]at e;obtain⟨rfl,rfl,rfl,rfl⟩:=e;refine⟨fE,fun hA E w c7 ra g hd _=>?_⟩;obtain⟨rfl,rfl,rfl⟩:=hA _ (aq.2 rfl);exact hc E w c7 ra g hd
 . exact hS f args h n A v' h' n' e
def Mh(P:Program)(n0:Nat)(fn:Func)(live:List Nat)(b:Nat)(p:X×St):oV:=match p.1 with
 | .exit i=>match Nat.beq i b with
   |true=>match Ka P n0 fn p.2 with
    |some (v,h,n)=>.ret v h n
    |none=>.bad
   |false=>.bad
 |_=>u9 P n0 fn live p
def ZZ(P:Program)(cs:eX)(H:List (Nat×oT))(F n0:Nat)(fn:Func)(live:List Nat)(b:Nat)(c:Code)(s:St):Option (ag×ag×List (List (Bool×Bool)×ah×oV)):=
 match jU P cs H F c s with
 |some l=>some (qx l,uZ l,uY (Mh P n0 fn live b) l)
 |none=>none
abbrev yY(P:Program)(cs:eX)(H:List (Nat×oT))(F n0:Nat)(fn:Func)(live:List Nat)(b:Nat)(c:Code)(s:St)(L:ag)(G:List (List (Bool×Bool)×ah×oV)):Prop:=ZZ P cs H F n0 fn live b c s=some (L,L,G)
theorem yY.of{P:Program}{cs:eX}{H:List (Nat×oT)}{F n0:Nat}{fn:Func}{live:List Nat}{b:Nat}{c:Code}{s:St}{G:List (List (Bool×Bool)×ah×oV)}(h1:yO P cs H F c s=true)(h2:xx P cs H F c s=zY P cs H F c s)
  (h3:uY (Mh P n0 fn live b) (yK (jU P cs H F c s))=G):∃L,yY P cs H F n0 fn live b c s L G:=by
 obtain⟨l,hl⟩:=b9.1 h1;unfold xx zY at h2;rw[hl]at h2 h3;simp only[yK]at h2 h3;exact⟨qx l,by simp only[yY,ZZ,hl,h3,<- h2]⟩
theorem Q6{P:Program}{n0 N:Nat}{c:Code}{s:St}{Q:Exit->St->Prop}{H:List (Nat×oT)}{F:Nat}{fn:Func}{live:List Nat}{L:ag}{G:List (List (Bool×Bool)×ah×oV)}(b:Nat)(X':CX P)(hm:P.follows .mixedOrders=true)(R:V->Tr O->Nat->Prop)(hc:eS N c=true)(hr:yY P X'.cs H F n0 fn live b c s L G)
  (hQ:∀s',fB P n0 fn R .normal s'->Q (.exit b) s') (h:∀g∈G,(∀b∈g.1,b.1=b.2)->(∀a∈g.2.1,a)/\g.2.2.post P n0 fn live R Q):TG P n0 N c s Q:=by
 unfold yY ZZ at hr;cases hl:jU P X'.cs H F c s with
 |none=>rw[hl]at hr;cases hr
 |some l=>
  rw[hl]at hr;simp only[an,aB]at hr;obtain⟨e1,e2,e3⟩:=hr;refine Kb (X':=X') hm hc hl fun p hp ho=>?_;have hg:=h (p.1.conds,p.1.TR,Mh P n0 fn live b p.2) (e3▸rV hp) ho;refine⟨⟨yL l (e1.trans e2.symm) p hp,hg.1⟩,?_⟩;obtain⟨pp,x,s'⟩:=p;have iD:=hg.2;simp only[Mh]at iD;cases x with
  |normal=>
   simp only[u9]at iD;split at iD
   . rename_i s2 jd;exact⟨.normal,rfl,iD s' jd⟩
   . exact iD.elim
  |exit i=>
   simp only at iD;split at iD
   . rename_i hb;have hb:=aD hb;subst hb;split at iD
     . rename_i v h n hr;exact⟨.exit i,rfl,hQ s' ⟨.inl rfl,v,h,n,hr,iD.1⟩⟩
     . exact iD.elim
   . exact iD.elim
  |ret=>
   simp only[u9]at iD;split at iD
   . rename_i v h n hr;exact⟨.ret,rfl,iD.2 s' ⟨.inr rfl,v,h,n,hr,iD.1⟩⟩
   . exact iD.elim
  |panic _=>exact iD.elim
theorem N2{h h0:Tr O}(hh:∀k,h.get k=h0.get k)(m:Nat):ew h m↔ew h0 m:=by unfold ew;rw[hh m]
theorem cT.ext{P:Program}{f:FuncId}{args:ag}{h h0 h1 h2:Tr O}{n n1:Nat}{v:V}(hh:∀k,h.get k=h0.get k)(hk:∀k,h1.get k=h2.get k)(c:cT P f args h0 n v h2 n1):cT P f args h n v h1 n1:=by
 intro E w c7 ra g hd;refine(c E w c7 ra (g.ext fun k=>(hh k).symm) hd).mono fun e w' ⟨E',u,q1,q2,q3,q4⟩=>⟨E',?_,q1,q2,q3,q4⟩;have u:=u.ext hk;have hw:=N2 hh;exact⟨u.le,u.good,u.size,u.tape,u.os,u.output,fun b hb hm=>u.keep b hb fun m s h=>hm m s ((hw m).2 h),fun m b s h1 h2 h3=>by
  obtain⟨m0,s0,a1,a2,a3⟩:=u.sO m b s h1 h2 h3;exact⟨m0,s0,by rw[hh];exact a1,a2,fun h=>(hw m0).2 (a3 h)⟩,fun b c h=>by
  rcases u.DF b c h with h|h|⟨m,s,h1,h2⟩
  . exact .inl h
  . exact .inr (.inl h)
  . exact .inr (.inr ⟨m,s,(hw m).2 h1,h2⟩)⟩
theorem Mi{l:af}{N k:Nat}(hl:∀p∈l,p.1<N)(hN:N<=fI)(hk:N<=k):(hL l).get k=none:=by
 cases e:(hL l).get k with
 |none=>rfl
 |some o=>
  rcases Bw l .nil k o (fun p hp=>bD (hl p hp) hN) e with h|h
  . cases h
  . have:=hl _ h;simp only at this;omega
theorem Uu{l l0:af}{a b N:Nat}(hl:(l.all fun p=>Nat.blt p.1 N)=true)(vJ:(l0.all fun p=>Nat.blt p.1 N)=true)(hN:N<=fI)(ha:a<N)(hb:b<N)(hk:∀k,k<N->(((hL l).set a none).set b none).get k=(hL l0).get k):∀k,(((hL l).set a none).set b none).get k=(hL l0).get k:=by
 have e:∀{l:af},(l.all fun p=>Nat.blt p.1 N)=true->∀p∈l,p.1<N:=fun h p hp=>au (bn.1 h p hp);intro k;rcases bN k N with h|h
 . exact hk k h
 . rw[Mi (e vJ) hN h,Tr.eO _ _ _ be,aI be,Tr.eO _ _ _ be,aI be,Mi (e hl) hN h]
end Go.Eng
