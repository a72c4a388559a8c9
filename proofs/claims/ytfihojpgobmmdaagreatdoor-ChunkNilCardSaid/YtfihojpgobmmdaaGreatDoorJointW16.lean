/- Lemmas of the engine. No conditions. -/
import Derived.Test.YtfihojpgobmmdaaGreatDoorJointW14
set_option linter.unusedVariables false
set_option linter.unusedSimpArgs false
set_option linter.unusedSectionVars false
namespace Go.Eng
open Go Go.RowKit
mutual
theorem G6{ν:Nat->Option Nat}:∀(v:V),v.deep=true->v.rn ν=some v
 | .bool _,_=>rfl
 | .int _ _,_=>rfl
 | .str _,_=>rfl
 | .ptr none,_=>rfl
 | .ptr (some _),h=>by cases h
 | .dj none _ _ _,_=>rfl
 | .dj (some _) _ _ _,h=>by cases h
 | .map none,_=>rfl
 | .map (some _),h=>by cases h
 | .kB,_=>rfl
 | .nilIface,_=>rfl
 | .dS _ _ _,_=>rfl
 | .dx _,_=>rfl
 | .fn f a c,h=>by
   simp only[V.deep,aC]at h;obtain⟨N,B,h3⟩:=h;simp only[V.rn,pg a B,pg c h3];cases f<;>first|rfl|cases N
 | .iface t x,h=>by simp only[V.deep]at h;simp only[V.rn,G6 x h]
 | .agg C,h=>by simp only[V.deep]at h;simp only[V.rn,pg C h]
 | .ew C,h=>by simp only[V.deep]at h;simp only[V.rn,pg C h]
theorem pg{ν:Nat->Option Nat}:∀(v:ag),V.pX v=true->V.y9 ν v=some v
 | [],_=>rfl
 |x::xs,h=>by
  simp only[V.pX,aC]at h;simp only[V.y9,G6 x h.1,pg xs h.2]
end
def EC(sp:ag->ag->Option (ah×V×ag)):ag->H lf->Nat->Option (ah×V×H lf×Nat):=fun args h n=>match args with
 | .ptr (some (m,0))::rest=>match h.get m with
   |some (.cells C)=>match(Nat.ble gN m&&Nat.blt m fP)&&(V.pX C&&V.pX rest)with
    |true=>match sp C rest with
     |some (cS,v,vw)=>match V.deep v&&V.pX vw with
      |true=>some (cS,v,h.set m (some (.cells vw)),n)
      |false=>none
     |none=>none
    |false=>none
   |_=>none
 |_=>none
def R2(m:Nat):List (Option Nat):=(List.range gN).map some++[some m]
theorem wQ(m j:Nat):(R2 m).getD j none=if j<gN then some j else if j=gN then some m else none:=by
 unfold R2;rw[aM,bT];simp only[aT,List.length_range,bu];split
 . rename_i h;simp[List.getElem?_range h]
 . rename_i h;split
   . rename_i e;subst e;simp
   . rename_i e;have:([some m]:List (Option Nat))[j-gN]? =none:=bN (by simp;omega);rw[this];rfl
theorem MV(m:Nat):(R2 m).length=gN+1:=by simp[R2]
theorem yb:∀(l:List (Option Nat)),(∀i j k,l.getD i none=some k->l.getD j none=some k->i=j)->nG l=true
 | [],_=>rfl
 |none::r,h=>by
  simp only[nG];exact yb r fun i j k hi hj=>by have:=h (i+1) (j+1) k (by simpa using hi) (by simpa using hj);omega
 |some x::r,h=>by
  simp only[nG,aC];refine⟨?_,yb r fun i j k hi hj=>by have:=h (i+1) (j+1) k (by simpa using hi) (by simpa using hj);omega⟩;rw[Bool.not_eq_true'];rw[List.any_eq_false];intro y hy;cases y with
  |none=>simp
  |some z=>
   simp only;intro q;have hz:=aD q;subst hz;obtain⟨i,hi,he⟩:=List.getElem_of_mem hy;have:=h 0 (i+1) x (by simp) (by simp[ay hi,he]);omega
def aa9:Prop:=(∀p∈jU,p.2<gN)/\(∀j,j<gN->∃p∈jU,p.2=j)/\gN<fP
def hP(C:ag):H lf:=H.nil.set gN (some (.cells C))
theorem Lw(ht:gN<fP)(C:ag)(j:Nat):(hP C).get j=if j=gN then some (.cells C)else none:=by
 unfold hP;rw[H.eY _ _ _ ht];split<;>rfl
theorem R3(hg:aa9){h:H lf}{m:Nat}{C:ag}(W:gN<=m)(I:h.get m=some (.cells C))(hd:V.pX C=true):rY (R2 m) h (hP C):=by
 obtain⟨g1,g2,g3⟩:=hg;refine⟨fun p hp=>?_,?_,fun j k hj=>?_,fun j o hj=>?_⟩
 . rw[wQ,aH (g1 p hp)]
 . refine yb _ fun i j k hi hj=>?_;rw[wQ]at hi hj;split at hi<;>split at hj
   . simp only[an]at hi hj;omega
   . split at hj
     . simp only[an]at hi hj;omega
     . cases hj
   . split at hi
     . simp only[an]at hi hj;omega
     . cases hi
   . split at hi
     . split at hj
       . omega
       . cases hj
     . cases hi
 . rw[wQ]at hj;split at hj
   . rename_i fI;obtain rfl:=ek hj;exact .inl (g2 j fI)
   . split at hj
     . obtain rfl:=ek hj;exact .inr (by rw[I];simp)
     . cases hj
 . rw[Lw g3]at hj;split at hj
   . rename_i e;obtain rfl:=ek hj;refine⟨m,.cells C,?_,I,?_⟩
     . rw[wQ,aI K,aH e]
     . simp only[lf.rn,pg C hd]
   . cases hj
theorem Fz{ν:Nat->Option Nat}{ns:List (Option Nat)}{N mA:H lf}:∀(i q:Nat) (h:H lf),(∀j,q<=j->j<q+i->N.get j=none)->oC ν ns N mA i q h=some h
 |0,_,_,_=>rfl
 |i+1,q,h,hn=>by
  unfold oC;rw[hn q (aA _) K];exact Fz i (q+1) h fun j N B=>hn j K K
theorem Jg{ν:Nat->Option Nat}{ns:List (Option Nat)}{N mA:H lf}:∀(i k q:Nat) (h B:H lf),oC ν ns N mA i q h=some B->oC ν ns N mA (i+k) q h=oC ν ns N mA k (q+i) B
 |0,k,q,h,B,e=>by simp only[oC,an]at e;subst e;simp
 |i+1,k,q,h,B,e=>by
  have nxt:∀h',oC ν ns N mA i (q+1) h'=some B->oC ν ns N mA (i+k) (q+1) h'=oC ν ns N mA k (q+(i+1)) B:=fun h' e'=>by
   have:=Jg i k (q+1) h' B e';rw[this];congr 1;omega
  generalize oC ν ns N mA k (q+(i+1)) B=nx at nxt ⊢;rw[show i+1+k=(i+k)+1 by omega];unfold oC at e ⊢;split at e
  . split at e
    . split at e
      . split at e
        . split at e
          . split at e
            . split at e
              . exact nxt _ e
              . cases e
            . cases e
          . exact nxt _ e
        . cases e
      . cases e
    . exact nxt _ e
  . exact nxt _ e
theorem B4{P:Program}(W:P.follows .mixedOrders=true)(wZ:kW P=true)(hg:aa9){f:FuncId}{fn:Func}{code:Code}{sp:ag->ag->Option (ah×V×ag)}(fI:f<P.funcs.size)(hf:P.funcs[f]? =some fn)(hb:fn.body=some code)
  (hT:∀C args cS v vw,sp C args=some (cS,v,vw)->(∀a∈cS,a)->(Nat.ble (args.length+1) fn.ntmps&&Nat.blt fn.ntmps fP)=true/\TG P (gN+1) fn.ntmps code (cU (.ptr (some (gN,0))::args) (hP C) (gN+1)) (fJ P (gN+1) fn fun a b c=>a=v/\b=hP vw/\c=gN+1)):jv P f (EC sp):=by
 refine⟨fI,fun args h n cS v B n2 e hA E w de ra g hd I=>?_⟩;unfold EC at e;split at e
 case h_2=>cases e
 rename_i m rest;split at e
 case h_2=>cases e
 rename_i C nX;split at e
 case h_2=>cases e
 rename_i hbs;split at e
 case h_2=>cases e
 rename_i A1 v1 vw hsp;split at e
 case h_2=>cases e
 rename_i hv;simp only[an,aB]at e;obtain⟨rfl,rfl,rfl,rfl⟩:=e;simp only[aC]at hbs hv;obtain⟨⟨b1,b2⟩,b3,b4⟩:=hbs;have b1:gN<=m:=au b1;have b2:m<fP:=au b2;obtain⟨l,hTG⟩:=hT C rest A1 v1 vw hsp hA;have hg3:=hg.2.2;have hk:=R3 hg b1 nX b3;have hmu:mu (R2 m) m=some gN:=by
  have hn:=o8 hk.one;have:∀(l:List (Option Nat)) (j0 i k:Nat),l.getD i none=some k->(∀i',i'<i->l.getD i' none≠some k)->AB l j0 k=some (j0+i):=by
   intro l
   induction l with
   |nil=>intro j0 i k h;simp at h
   |cons x l ih=>
    intro j0 i k h fU;cases i with
    |zero=>
     have h:x=some k:=by simpa using h
     subst h;simp only[AB,cO];rfl
    |succ i=>
     have ih:=ih (j0+1) i k (by simpa using h) (fun i' hi=>by have:=fU (i'+1) K;simpa using this);have h0:=fU 0 K;have e:j0+1+i=j0+(i+1):=by omega
     cases x with
     |none=>simp only[AB,ih,e]
     |some q=>
      have:Nat.beq q k=false:=by
       cases z:Nat.beq q k with
       |false=>rfl
       |true=>exact absurd (by simp[aD z]) h0
      simp only[AB,this,ih,e]
  have h0:(R2 m).getD gN none=some m:=by rw[wQ,aI K,aH rfl]
  have:=this (R2 m) 0 gN m h0 fun i hi q=>by have:=hn i gN m q h0;omega
  simpa using this
 have hgN:=Lw hg3 C;have amA:=Lw hg3 vw;have he:BK (R2 m) (hP C) (v1,hP vw,gN+1) h n=some (v1,h.set m (some (.cells vw)),n):=by
  unfold BK;simp only[G6 v1 hv.1,MV,Nat.sub_self,IY,Nat.add_zero];have e1:oC (Rg (R2 m) (hP vw) (gN+1) n) (R2 m) (hP C) (hP vw) gN 0 h=some h:=Fz _ _ _ fun j _ hj=>by rw[hgN,aI K]
  rw[Jg gN 1 0 h h e1];unfold oC;rw[bE,hgN gN,aH rfl];simp only[lf.wr,wQ,aI (cG gN),if_true,amA gN,Nat.blt];rw[cH b2];simp only[lf.rn,pg vw hv.2,oC]
 refine AF W wZ hf hb l hk (ld:=.ptr (some (gN,0))::rest) ?_ he (by rw[MV];exact hTG) ra g hd;simp only[V.y9,V.rn,hmu,pg rest b4]
def gF(P:Program)(M h1:Nat)(s fr:St):Prop:=∀c es,TG P M h1 c fr es->TG P M h1 c s es
section
variable{P:Program}{M h1:Nat}{s s1 fr:St}
theorem gF.refl:gF P M h1 s s:=fun _ _ h=>h
theorem gF.trans(N:gF P M h1 s s1)(B:gF P M h1 s1 fr):gF P M h1 s fr:=fun c es h=>N c es (B c es h)
theorem gF.norm{live:List Nat}(e:fa M live s=some fr):gF P M h1 s fr:=fun _ _ h=>c6 e h
theorem gF.deep(l:List Nat)(e:Dh l s=some fr):gF P M h1 s fr:=fun _ _ h=>tX l e h
theorem gF.own(l:List (Nat×IntKind))(e:KT l s=some fr):gF P M h1 s fr:=fun _ _ h=>tS l e h
theorem gF.map(l:List (Nat×Option IntKind))(e:Rc l s=some fr):gF P M h1 s fr:=fun _ _ h=>Az l e h
theorem gF.YT(ms:List Nat){cS:ah}(e:Yy ms s=some (cS,fr))(hA:∀x∈cS,x):gF P M h1 s fr:=fun _ _ h=>tV ms e hA h
end
theorem jx{P:Program}{M h1:Nat}{c:Code}{s:St}{es:Exit->St->Prop}(b m:Nat)(fr:Nat->St)(I:BW c b=true)(hl:C5 (dz c)=true)(h0:gF P M h1 s (fr 0))
  (hb:∀i,i<m->TG P M h1 (dz (dz c)) (fr i) (andThen (fun s'=>gF P M h1 s' (fr (i+1))) (mY b es)))
  (he:TG P M h1 (dz (dz c)) (fr m) (fun y s'=>y≠ .normal/\mY b es y s')):TG P M h1 c s es:=by
 refine fB I (gw (fun k s=>∃i,k=m-i/\i<=m/\gF P M h1 s (fr i)) hl ?_ m ⟨0,rfl,aX _,h0⟩);rintro k s1 ⟨i,hk,hi,gi⟩;refine gi _ _ ?_;rcases bK i m with fI|y6
 . refine fA (hb i fI) fun y s' h=>?_;cases y with
   |normal=>exact⟨m-(i+1),K,i+1,rfl,K,h⟩
   |_=>exact h
 . obtain rfl:i=m:=by omega
   refine fA he fun y s' h=>?_;cases y with
   |normal=>exact absurd rfl h.1
   |_=>exact h.2
section
variable{α:Type}{g a b:α}
theorem iq{P:Program}{M h1:Nat}{c:Code}{s:St}{es:Exit->St->Prop}(b:Nat)(μ:α->Nat)(hc:α->Prop)(fr:α->St)(I:BW c b=true)(hl:C5 (dz c)=true)(x0:α)(i0:hc x0)(h0:gF P M h1 s (fr x0))
  (hb:∀x,hc x->TG P M h1 (dz (dz c)) (fr x) (andThen (fun s'=>∃x',μ x'<μ x/\hc x'/\gF P M h1 s' (fr x')) (mY b es))):TG P M h1 c s es:=by
 refine fB I (gw (fun k s=>∃x,k=μ x/\hc x/\gF P M h1 s (fr x)) hl ?_ (μ x0) ⟨x0,rfl,i0,h0⟩);rintro k s1 ⟨x,hk,hi,gi⟩;refine gi _ _ ?_;refine fA (hb x hi) fun y s' h=>?_;cases y with
 |normal=>
  obtain⟨x',N,B,h3⟩:=h;exact⟨μ x',K,x',rfl,B,h3⟩
 |_=>exact h
theorem aba(h:g∈[a]):g=a:=aq.1 h
theorem iU(h:g∈[a,b]):g=a\/g=b:=(aF.1 h).imp id aba
theorem w8{c:α}(h:g∈[a,b,c]):g=a\/g=b\/g=c:=(aF.1 h).imp id iU
theorem afE{c d:α}(h:g∈[a,b,c,d]):g=a\/g=b\/g=c\/g=d:=(aF.1 h).imp id w8
end
theorem fm{p:Prop}{l:ah}(h:p)(t:∀a∈l,a):∀a∈p::l,a:=cu.2 ⟨h,t⟩
theorem eX{p:Prop}(h:p):∀a∈[p],a:=fm h fun _ h=>absurd h aL
def VC(f0:FuncId)(MW:ag)(h0:H lf)(M:Nat)(v:V)(N:H lf)(n1:Nat)(fr:jQ):jQ:=fun f args h n=>match Nat.beq f f0 with
 |true=>some ([args=MW/\h=h0/\n=M],v,N,n1)
 |false=>fr f args h n
theorem MX{P:Program}{f0:FuncId}{MW:ag}{h0:H lf}{M:Nat}{v:V}{N:H lf}{n1:Nat}{fr:jQ}(fI:f0<P.funcs.size)(I:cW P f0 MW h0 M v N n1)(hS:gl P fr):gl P (VC f0 MW h0 M v N n1 fr):=by
 intro f args h n cS v' h' n' e;unfold VC at e;split at e
 . rename_i hb;have hb:=aD hb;subst hb;simp only[an,aB]at e;obtain⟨rfl,rfl,rfl,rfl⟩:=e;refine⟨fI,fun hA E w de ra g hd _=>?_⟩;obtain⟨rfl,rfl,rfl⟩:=hA _ (aq.2 rfl);exact I E w de ra g hd
 . exact hS f args h n cS v' h' n' e
def MY(P:Program)(M:Nat)(fn:Func)(live:List Nat)(b:Nat)(p:fl×St):pQ:=match p.1 with
 | .exit i=>match Nat.beq i b with
   |true=>match KQ P M fn p.2 with
    |some (v,h,n)=>.ret v h n
    |none=>.bad
   |false=>.bad
 |_=>vC P M fn live p
def abb(P:Program)(C:fb)(Tr:List (Nat×oZ))(rt M:Nat)(fn:Func)(live:List Nat)(b:Nat)(c:Code)(s:St):Option (ag×ag×List (List (Bool×Bool)×ah×pQ)):=
 match ki P C Tr rt c s with
 |some l=>some (qT l,vz l,vy (MY P M fn live b) l)
 |none=>none
abbrev zx(P:Program)(C:fb)(Tr:List (Nat×oZ))(rt M:Nat)(fn:Func)(live:List Nat)(b:Nat)(c:Code)(s:St)(aa:ag)(hx:List (List (Bool×Bool)×ah×pQ)):Prop:=abb P C Tr rt M fn live b c s=some (aa,aa,hx)
theorem zx.of{P:Program}{C:fb}{Tr:List (Nat×oZ)}{rt M:Nat}{fn:Func}{live:List Nat}{b:Nat}{c:Code}{s:St}{hx:List (List (Bool×Bool)×ah×pQ)}(N:zj P C Tr rt c s=true)(B:x4 P C Tr rt c s=Aw P C Tr rt c s)
  (h3:vy (MY P M fn live b) (zf (ki P C Tr rt c s))=hx):∃aa,zx P C Tr rt M fn live b c s aa hx:=by
 obtain⟨l,hl⟩:=bW.1 N;unfold x4 Aw at B;rw[hl]at B h3;simp only[zf]at B h3;exact⟨qT l,by simp only[zx,abb,hl,h3,<- B]⟩
theorem R4{P:Program}{M h1:Nat}{c:Code}{s:St}{es:Exit->St->Prop}{Tr:List (Nat×oZ)}{rt:Nat}{fn:Func}{live:List Nat}{aa:ag}{hx:List (List (Bool×Bool)×ah×pQ)}(b:Nat)(X':CX P)(W:P.follows .mixedOrders=true)(nx:V->H lf->Nat->Prop)(I:fc h1 c=true)(hr:zx P X'.C Tr rt M fn live b c s aa hx)
  (hQ:∀s',fJ P M fn nx .normal s'->es (.exit b) s') (h:∀g∈hx,(∀b∈g.1,b.1=b.2)->(∀a∈g.2.1,a)/\g.2.2.post P M fn live nx es):TG P M h1 c s es:=by
 unfold zx abb at hr;cases hl:ki P X'.C Tr rt c s with
 |none=>rw[hl]at hr;cases hr
 |some l=>
  rw[hl]at hr;simp only[an,aB]at hr;obtain⟨e1,e2,e3⟩:=hr;refine KR (X':=X') W I hl fun p hp ho=>?_;have hg:=h (p.1.conds,p.1.U0,MY P M fn live b p.2) (e3▸sJ hp) ho;refine⟨⟨zg l (e1.trans e2.symm) p hp,hg.1⟩,?_⟩;obtain⟨pp,x,s'⟩:=p;have iT:=hg.2;simp only[MY]at iT;cases x with
  |normal=>
   simp only[vC]at iT;split at iT
   . rename_i s2 jr;exact⟨.normal,rfl,iT s' jr⟩
   . exact iT.elim
  |exit i=>
   simp only at iT;split at iT
   . rename_i hb;have hb:=aD hb;subst hb;split at iT
     . rename_i v h n hr;exact⟨.exit i,rfl,hQ s' ⟨.inl rfl,v,h,n,hr,iT.1⟩⟩
     . exact iT.elim
   . exact iT.elim
  |ret=>
   simp only[vC]at iT;split at iT
   . rename_i v h n hr;exact⟨.ret,rfl,iT.2 s' ⟨.inr rfl,v,h,n,hr,iT.1⟩⟩
   . exact iT.elim
  |panic _=>exact iT.elim
theorem OQ{h h0:H lf}(hh:∀k,h.get k=h0.get k)(m:Nat):eE h m↔eE h0 m:=by unfold eE;rw[hh m]
theorem cW.ext{P:Program}{f:FuncId}{args:ag}{h h0 N B:H lf}{n n1:Nat}{v:V}(hh:∀k,h.get k=h0.get k)(hk:∀k,N.get k=B.get k)(c:cW P f args h0 n v B n1):cW P f args h n v N n1:=by
 intro E w de ra g hd;refine(c E w de ra (g.ext fun k=>(hh k).symm) hd).mono fun e w' ⟨E',u,q1,q2,q3,q4⟩=>⟨E',?_,q1,q2,q3,q4⟩;have u:=u.ext hk;have hw:=OQ hh;exact⟨u.le,u.good,u.size,u.tape,u.os,u.output,fun b hb W=>u.keep b hb fun m s h=>W m s ((hw m).2 h),fun m b s N B h3=>by
  obtain⟨m0,s0,a1,a2,a3⟩:=u.s9 m b s N B h3;exact⟨m0,s0,by rw[hh];exact a1,a2,fun h=>(hw m0).2 (a3 h)⟩,fun b c h=>by
  rcases u.Ea b c h with h|h|⟨m,s,N,B⟩
  . exact .inl h
  . exact .inr (.inl h)
  . exact .inr (.inr ⟨m,s,(hw m).2 N,B⟩)⟩
theorem MZ{l:af}{h1 k:Nat}(hl:∀p∈l,p.1<h1)(hN:h1<=fP)(hk:h1<=k):(J l).get k=none:=by
 cases e:(J l).get k with
 |none=>rfl
 |some o=>
  rcases zq l .nil k o (fun p hp=>bF (hl p hp) hN) e with h|h
  . cases h
  . have:=hl _ h;simp only at this;omega
theorem VD{l l0:af}{a b h1:Nat}(hl:(l.all fun p=>Nat.blt p.1 h1)=true)(wj:(l0.all fun p=>Nat.blt p.1 h1)=true)(hN:h1<=fP)(ha:a<h1)(hb:b<h1)(hk:∀k,k<h1->(((J l).set a none).set b none).get k=(J l0).get k):∀k,(((J l).set a none).set b none).get k=(J l0).get k:=by
 have e:∀{l:af},(l.all fun p=>Nat.blt p.1 h1)=true->∀p∈l,p.1<h1:=fun h p hp=>au (bt.1 h p hp);intro k;rcases bK k h1 with h|h
 . exact hk k h
 . rw[MZ (e wj) hN h,H.eY _ _ _ K,aI K,H.eY _ _ _ K,aI K,MZ (e hl) hN h]
end Go.Eng
