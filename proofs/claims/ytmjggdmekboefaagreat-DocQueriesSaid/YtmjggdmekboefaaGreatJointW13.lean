/- Lemmas of the engine. No conditions. -/
import Derived.Test.YtmjggdmekboefaaGreatJointW09
import Derived.Test.YtmjggdmekboefaaGreatJointW11
set_option linter.unusedVariables false
set_option linter.unusedSimpArgs false
set_option linter.unusedSectionVars false
namespace Go.Eng
open Go Go.RowKit
def BP(v:V)(ch:List PanicEntry):Prop:=v.free=true/\∃E v',eH E v v'/\ch=[{ v:=v',recovered:=false }]
def O2(P:Program)(N n0:Nat)(ops:Array Oper)(l:List Oper)(s:St)(Q:Exit->St->Prop):Prop:=
 ∀(E:Env) (a:Act) (w:World) (hx:Exit->Act->World->Prop),lI E n0 s a w->N<=s.n->
  (∀y T E' a' w',Q y T->mO N E s.h w E' T.h w'->N<=T.n->lI E' n0 T a' w'->hx y a' w')->wpListIn (fz none) 0 P ops hx l a w
section
variable{P:Program}{cf:gu}{fr N n0:Nat}{c:Code}{s T:St}{Q Q1:Exit->St->Prop}
theorem MH{ops:Array Oper}{l:List Oper}{s2:St}(h:kF N n0 s s2)(ht:O2 P N n0 ops l s2 Q):O2 P N n0 ops l s Q:=fun E a w hx r hn k=>by
 obtain⟨qQ,E2,r2,u2⟩:=h E a w r hn;exact ht E2 a w hx r2 qQ fun y T E' a' w' q u oy r'=>k y T E' a' w' q (u2.trans u) oy r'
theorem DO(lX:iu P cf){x:fm}{y:Exit}{ops:Array Oper}{l:List Oper}(hd:∀o∈l,nw n0 o.dst)(e:jI P cf ops l s=some (x,T))(K:x.plain=some y)(hq:Q y T):O2 P N n0 ops l s Q:=by
 intro E a w hx r hn k;refine lY (rN:=none) lX l s x T (.inl rfl) hd e E a w hx r fun E' a' w' x' u gd oy r' pS=>?_;have:x'=y:=by
  cases x<;>cases x'<;>simp only[Iw,fm.plain,aq,reduceCtorEq]at pS K<;>first|exact K|(subst pS;exact K)
 subst this;exact k _ T E' a' w' hq (.of u gd hn) (bN hn oy) r'
theorem Ov(lX:iu P cf){v:V}{ops:Array Oper}{l:List Oper}(hd:∀o∈l,nw n0 o.dst)(e:jI P cf ops l s=some (.panic v,T))(hv:v.free=true)(hq:∀ch,BP v ch->Q (.panic ch) T):O2 P N n0 ops l s Q:=by
 intro E a w hx r hn k;refine lY (rN:=none) lX l s _ T (.inl rfl) hd e E a w hx r fun E' a' w' x' u gd oy r' pS=>?_;cases x'<;>first|exact pS.elim|skip
 rename_i ch;obtain⟨v',h1,C⟩:=pS;exact k _ T E' a' w' (hq ch ⟨hv,E',v',h1,C⟩) (.of u gd hn) (bN hn oy) r'
theorem R9(lX:iu P cf)(L:P.follows .mixedOrders=true){v:V}(A:fe n0 c=true)(e:gY P cf fr c s=some (.panic v,T))(hv:v.free=true)(hq:∀ch,BP v ch->Q (.panic ch) T):TG P N n0 c s Q:=by
 intro E a w hx r hn k;refine wpIn_wide (n:=0) |>.1 ?_;refine lQ (rN:=none) lX L c s _ T (.inl rfl) A e E a w hx r fun E' a' w' x' u gd oy r' pS=>?_;cases x'<;>first|exact pS.elim|skip
 rename_i ch;obtain⟨v',h1,C⟩:=pS;exact k _ T E' a' w' (hq ch ⟨hv,E',v',h1,C⟩) (.of u gd hn) (bN hn oy) r'
def Sa(P:Program)(f:FuncId)(spec:ag->I es->Nat->Option (ah×V×I es×Nat)):Prop:=f<P.funcs.size/\∀args h n hc v h' n',spec args h n=some (hc,v,h',n')->(∀a∈hc,a)->
 ∀E w dZ,eK E args dZ->Good E h w->qK E n->callee P f=true->Calls P f dZ.toArray w (jx E h n w (.nI v) h' n')
theorem Cc{o:Oper}{rest:List Oper}{ops:Array Oper}{f:FuncId}{args:ag}{spec:ag->I es->Nat->Option (ah×V×I es×Nat)}{hc:ah}{v:V}{C:I es}{n2:Nat}(hd:∀x∈o::rest,nw n0 x.dst)(hg:o.guard=none)
  (pG:eG P o s.F s.h s.n=some (.call f args)) (hO:Sa P f spec) (D0:spec args s.h s.n=some (hc,v,C,n2)) (hA:∀a∈hc,a) (hv:v.free=true) (hq:∀ch,BP v ch->Q (.panic ch) { s with h:=C,n:=n2 }):O2 P N n0 ops (o::rest) s Q:=by
 let cf0:gu:=fun f' a' h' n'=>@ite _ (f'=f/\a'=args/\h'=s.h/\n'=s.n) (Classical.propDecidable _) (some (.nI v,C,n2)) none
 have hk:iu P cf0:=by
  intro f' a' h' n' sV h1 n1 e E w dZ ra g Ow;simp only[cf0]at e;split at e
  case isFalse=>cases e
  rename_i q;obtain⟨rfl,rfl,rfl,rfl⟩:=q;simp only[aq,aB]at e;obtain⟨rfl,rfl,rfl⟩:=e;exact⟨fun A=>hO.2 _ _ _ _ _ _ _ D0 hA E w dZ ra g Ow A,fun m l _ L _=>absurd hO.1 (by rw[L];exact Nat.not_lt.2 (Nat.le_add_right _ _))⟩
 refine Ov (T:={ s with h:=C,n:=n2 }) hk hd ?_ hv hq;have hw:gq ops o s.F=some true:=by unfold gq;rw[hg]
 have A:cf0 f args s.h s.n=some (.nI v,C,n2):=aF ⟨rfl,rfl,rfl,rfl⟩;simp only[jI,hw,pG,A]
theorem G2{o:Oper}{ops:Array Oper}{f:FuncId}{args:ag}{spec:ag->I es->Nat->Option (ah×V×I es×Nat)}{hc:ah}{v:V}{C:I es}{n2:Nat}{F:I V}(hd:nw n0 o.dst)(hg:o.guard=none)
  (pG:eG P o s.F s.h s.n=some (.call f args)) (hO:jM P f spec) (D0:spec args s.h s.n=some (hc,v,C,n2)) (hA:∀a∈hc,a) (hp:jR s.F o.dst v=some F) (hq:Q .normal { s with F:=F,h:=C,n:=n2 }):O2 P N n0 ops [o] s Q:=by
 let cf0:gu:=fun f' a' h' n'=>@ite _ (f'=f/\a'=args/\h'=s.h/\n'=s.n) (Classical.propDecidable _) (some (.ret v,C,n2)) none
 have hk:iu P cf0:=by
  intro f' a' h' n' sV h1 n1 e E w dZ ra g Ow;simp only[cf0]at e;split at e
  case isFalse=>cases e
  rename_i q;obtain⟨rfl,rfl,rfl,rfl⟩:=q;simp only[aq,aB]at e;obtain⟨rfl,rfl,rfl⟩:=e;exact⟨fun A=>hO.2 _ _ _ _ _ _ _ D0 hA E w dZ ra g Ow A,fun m l _ L _=>absurd hO.1 (by rw[L];exact Nat.not_lt.2 (Nat.le_add_right _ _))⟩
 refine DO (x:=.normal) (T:={ s with F:=F,h:=C,n:=n2 }) hk (fun x K=>by rw[aI]at K;subst K;exact hd) ?_ rfl hq;have hw:gq ops o s.F=some true:=by unfold gq;rw[hg]
 have A:cf0 f args s.h s.n=some (.ret v,C,n2):=aF ⟨rfl,rfl,rfl,rfl⟩;simp only[jI,hw,pG,A,hp]
def Ez(k:Nat):Code->Code
 | .region id ops true=>.region id (ops.pop.push Ew) true
 | .region id ops false=>.region id (ops.toList.take k).toArray false
 |c=>c
def lV(k:Nat):Code->List Oper
 | .region _ ops true=>ops.toList.drop (ops.size-1)
 | .region _ ops false=>ops.toList.drop k
 |_=>[]
def Ox:Code->Array Oper
 | .region _ ops true=>(ops.toList.drop (ops.size-1)).toArray
 | .region _ ops false=>ops
 |_=>#[]
def EA(k:Nat):Code->Bool
 | .region id ops true=>Fq (.region id ops true)
 | .region _ ops false=>(ops.toList.take k).all fun o=>match o.guard with
   |some (j,_)=>Nat.blt j k
   |none=>true
 |_=>false
theorem xP{ops ops':Array Oper}:∀(l:List Oper) (s:St),(∀o∈l,∀F,gq ops o F=gq ops' o F)->jI P cf ops l s=jI P cf ops' l s
 | [],_,_=>rfl
 |o::l,s,h=>by
  have ih:=fun s=>xP l s fun o ho=>h o (bh _ ho);simp only[jI,h o (bB ..),ih]
theorem MI(k:Nat)(lX:iu P cf)(L:P.follows .mixedOrders=true)(A:fe n0 c=true)(hl:EA k c=true)(e:gY P cf fr (Ez k c) s=some (.normal,T))(h:O2 P N n0 (Ox c) (lV k c) T Q):TG P N n0 c s Q:=by
 cases c<;>try (simp only[EA,aM]at hl;done)
 rename_i id ops Cr;cases Cr with
 |true=>
  refine My (c:=.region id ops true) lX L A hl e ?_;intro E a w hx r hn kk;have:=h E a w hx r hn kk;simpa only[y8,Ox,lV]using this
 |false=>
  intro E a w hx r hn kk;simp only[fe,ay,aM,cI,and_true]at A;simp only[EA]at hl;have F6:∀o∈ops.toList,nw n0 o.dst:=by
   intro o ho d hd;have:=bw.1 A o ho;rw[hd]at this;exact aZ this
  refine(wpIn_wide (n:=0)).1 (wpIn_region_list (F:=fz none) ?_);show wpListIn (fz none) 0 P _ _ ops.toList a w;rw[<- dj k ops.toList];refine tM _ ?_;simp only[Ez,gY]at e;rw[xP (ops':=ops)]at e
  . refine lY (rN:=none) lX _ s .normal T (.inl rfl) (fun o ho=>F6 o (cK ho)) e E a w _ r ?_;intro E' a' w' x' u gd oy r' pS;cases x'<;>first|exact pS.elim|skip
    have hb:=mO.of u gd hn;exact h E' a' w' _ r' (bN hn oy) fun y s2 E2 a2 w2 q u2 qQ r2=>kk y s2 E2 a2 w2 q (hb.trans u2) qQ r2
  . intro o ho F;have hg:=bw.1 hl o ho;unfold gq;cases hq:o.guard with
    |none=>rfl
    |some q=>
     obtain⟨j,FG⟩:=q;rw[hq]at hg;have hj:j<k:=aE hg;have:(ops.toList.take k).toArray[j]? =ops[j]?:=by
      rw[List.getElem?_toArray,cg,aF hj,bU]
     simp only[this]
theorem Cd(k:Nat)(X1:CX P)(L:P.follows .mixedOrders=true)(A:fe n0 c=true)(hl:EA k c=true){dG:List (Nat×mH)}{fn:Func}{live:List Nat}{hm:ag}{dD:List (List (Bool×Bool)×ah×ko)}
  (hr:G P X1.cs dG fr N fn live (Ez k c) s hm dD) (h:∀g∈dD,(∀b∈g.1,b.1=b.2)->(∀a∈g.2.1,a)/\∃s1,g.2.2= .to .normal s1/\O2 P N n0 (Ox c) (lV k c) s1 Q):TG P N n0 c s Q:=by
 obtain⟨g,hg,ho,s1,T,pQ,FQ,he⟩:=Ca hr fun g hg ho=>by
  obtain⟨h1,s1,C,_⟩:=h g hg ho;exact⟨h1,s1,C⟩
 obtain⟨_,s1',e1,ht⟩:=h g hg ho;rw[pQ]at e1;cases e1;exact MI k X1.ok L A hl he (MH (kF.norm FQ) ht)
end
def qb.val:qb->V
 | .ret v=>v
 | .nI v=>v
def qb.put:qb->V->qb
 | .ret _,v=>.ret v
 | .nI _,v=>.nI v
section
variable(P:Program)(N:Nat)(fn:Func)(s:St)
def Oy(m:Mode):Option (qb×I es×Nat):=match nj P (fun _ _ _ _=>none) 20 fn s.F s.iZ m s.h s.n with
 |some (o,h,n)=>match lB N [0] { F:=I.nil.set 0 (some o.val),h:=h,n:=n,iZ:=[] }with
  |some s2=>match s2.F.get 0 with
   |some v2=>some (o.put v2,s2.h,s2.n)
   |none=>none
  |none=>none
 |none=>none
def aqa:Exit->Mode->Prop
 | .normal,.ret=>True
 | .ret,.ret=>True
 | .panic ch,.nI v false=>BP v ch
 |_,_=>False
def DP(iX:qb->I es->Nat->Prop)(y:Exit)(s:St):Prop:=∃m,aqa y m/\∃o h n,Oy P N fn s m=some (o,h,n)/\iX o h n
end
section
variable{P:Program}{f:FuncId}{N:Nat}
theorem DP.aap{fn:Func}{iX:qb->I es->Nat->Prop}{y:Exit}{s:St}(h:gi P N fn (fun v h n=>iX (.ret v) h n) y s):DP P N fn iX y s:=by
 obtain⟨hy,v,h',n',hr,hR⟩:=h;obtain⟨v1,h1,n1,s2,k1,k2,k3,k4,k5⟩:=E8 hr;refine⟨.ret,?_,.ret v,h',n',?_,hR⟩
 . rcases hy with rfl|rfl<;>trivial
 . unfold Oy;rw[sG k1];simp only[qb.val];rw[k2];simp only;rw[k3,k4,k5];rfl
theorem DP.DQ{fn:Func}{iX:qb->I es->Nat->Prop}{ch:List PanicEntry}{s:St}{v:V}{o:qb}{h:I es}{n:Nat}(hp:BP v ch)(e:Oy P N fn s (.nI v false)=some (o,h,n))(hR:iX o h n):DP P N fn iX (.panic ch) s:=⟨.nI v false,hp,o,h,n,e,hR⟩
theorem Fv{E:Env}{h:I es}{n:Nat}{w:World}{o:qb}{h':I es}{n':Nat}{en:Ending}{w':World}(c:jx E h n w o h' n' en w'):∃v',jx E h n w (.ret o.val) h' n' (.returned v') w'/\∀(E2:Env) (C AU:I es) (m m':Nat) (v2:V),jx E2 C m w (.ret v2) AU m' (.returned v') w'->jx E2 C m w (o.put v2) AU m' en w':=by
 obtain⟨E1,u,h1,C,h3,ho⟩:=c;cases o with
 |ret v=>
  cases en with
  |returned v'=>exact⟨v',⟨E1,u,h1,C,h3,ho⟩,fun _ _ _ _ _ _ c=>c⟩
  |_=>exact ho.elim
 |nI v=>
  cases en with
  |panicked ch=>
   obtain⟨v',q1,rfl⟩:=ho;exact⟨v',⟨E1,u,h1,C,h3,q1⟩,fun _ _ _ _ _ _ ⟨E2,u2,k1,k2,k3,k4⟩=>⟨E2,u2,k1,k2,k3,v',k4,rfl⟩⟩
  |_=>exact ho.elim
theorem ze(L:P.follows .mixedOrders=true)(sW:kn P=true){f:FuncId}{fn:Func}{code:Code}(hf:P.funcs[f]? =some fn)(U:fn.body=some code){args:ag}{h:I es}{N:Nat}
  (l:(Nat.ble args.length fn.ntmps&&Nat.blt fn.ntmps gO)=true) (iX:qb->I es->Nat->Prop) (hT:TG P N fn.ntmps code (dI args h N) (DP P N fn iX))
  {E:Env} {w:World} {dZ:List Value} (ra:eK E args dZ) (g:Good E h w) (hd:qK E N):
  Calls P f dZ.toArray w fun e w'=>∃o h' n',iX o h' n'/\jx E h N w o h' n' e w':=by
 simp only[ay]at l;obtain⟨zz,nc⟩:=qv (n:=fn.ntmps) ra (aE l.1) (aE l.2);refine callsIn_wide.1 (callsIn_of_wp_marks (n:=0) hf U trivial (wpIn_wide.2 ?_));refine hT E _ w _ ⟨g,hd,zz,nc,rfl⟩ (aK _) fun y T E' a' w' ⟨m,hy,o,h',n',hr,hR⟩ u oy r'=>?_;unfold Oy at hr;split at hr
 case h_2=>cases hr
 rename_i o1 h1 n1 k1;split at hr
 case h_2=>cases hr
 rename_i s2 k2;split at hr
 case h_2=>cases hr
 rename_i v2 k3;simp only[aq,aB]at hr;obtain⟨rfl,rfl,rfl⟩:=hr;have key:∀md,En E' m md->LeavesInM Fence.wide 0 P fn a'.tmps (fun e w'=>∃o h' n',iX o h' n'/\jx E h N w o h' n' e w') a'.defers md w':=by
  intro md rm;refine oL (cf:=fun _ _ _ _=>none) (fr:=20) (fun _ _ _ _ _ _ _ e=>by cases e) L sW T.iZ m T.h T.n _ h1 n1 k1 E' w' a'.defers md _ r'.good r'.rO r'.F r'.iZ rm fun E2 w2 en u2 sA Em qQ ho=>?_;have u3:=u.trans (mO.of u2 sA oy);have oc:∀v',eH E2 o1.val v'->∃E3,jt E h w E3 s2.h w2/\(∀m,m<N->E3.ι m=E.ι m)/\qK E3 s2.n/\N<=s2.n/\eH E3 v2 v':=by
   intro v' XI;have sr:lI E2 1 { F:=I.nil.set 0 (some o1.val),h:=h1,n:=n1,iZ:=[] } { tmps:=#[v'],defers:=[] } w2:=by
    refine⟨u3.good,Em,fun t v hv=>?_,rfl,rfl⟩;rw[I.gC _ _ _ fg]at hv;split at hv
    . rename_i q;subst q;cases hv;exact⟨v',rfl,XI⟩
    . simp[I.get]at hv
   obtain⟨_,Mb,E3,r3,u4⟩:=oM k2 sr;have u5:=(u3.trans u4).CH hd;obtain⟨v'',q1,q2⟩:=r3.F 0 v2 k3;simp only[List.getElem?_toArray,cT,aq]at q1;subst q1;exact⟨E3,u5,(u3.trans u4).low,r3.rO,Mb,q2⟩
  cases o1 with
  |ret v=>
   cases en with
   |returned v'=>
    obtain⟨E3,q1,q2,q3,q4,q5⟩:=oc v' ho;exact⟨_,_,_,hR,E3,q1,q2,q3,q4,q5⟩
   |_=>exact ho.elim
  |nI v=>
   cases en with
   |panicked ch=>
    obtain⟨v',ho,rfl⟩:=ho;obtain⟨E3,q1,q2,q3,q4,q5⟩:=oc v' ho;exact⟨_,_,_,hR,E3,q1,q2,q3,q4,v',q5,rfl⟩
   |_=>exact ho.elim
 cases y<;>cases m<;>first|exact hy.elim|skip
 . exact key .returning trivial
 . exact key .returning trivial
 . rename_i ch _ v b;cases b with
   |true=>exact hy.elim
   |false=>
    obtain⟨hv,E0,v',q1,q2⟩:=hy;exact key (.panicking ch) ⟨v',vc _ _ hv q1,q2⟩
def Sb(P:Program)(f:FuncId)(args:ag)(v:V):Prop:=∀E h n w dZ,eK E args dZ->Good E h w->qK E n->Calls P f dZ.toArray w (jx E h n w (.nI v) h n)
theorem Sc(L:P.follows .mixedOrders=true)(sW:kn P=true){f:FuncId}{fn:Func}{code:Code}(hf:P.funcs[f]? =some fn)(U:fn.body=some code){args:ag}
  (l:(Nat.ble args.length fn.ntmps&&Nat.blt fn.ntmps gO)=true) {o:qb} (Uj:V.qC args=true) (hv:o.val.free=true) (hT:TG P gN fn.ntmps code (dI args .nil gN) (DP P gN fn fun a _ _=>a=o)):
  ∀E h n w dZ,eK E args dZ->Good E h w->qK E n->Calls P f dZ.toArray w (jx E h n w o h n):=by
 intro E h n w dZ ra g hd;have g0:Good (BH E.φ) .nil w:=xx g.wg g.fz;have ra0:eK (BH E.φ) args dZ:=lZ (E:=E) (E':=BH E.φ) (fun _ _ q=>q) _ _ Uj ra;refine(ze L sW hf U l _ hT ra0 g0 (C3 (aK _))).mono fun e w' ⟨o',h',n',hz,k⟩=>?_;subst hz;obtain⟨v',q1,q2⟩:=Fv k;obtain⟨ho,b⟩:=qW xB q1;have:=q2 E h h n n o'.val (vi g hd hv ho b);cases o'<;>exact this
theorem Ls(L:P.follows .mixedOrders=true)(sW:kn P=true){f:FuncId}{fn:Func}{code:Code}(hf:P.funcs[f]? =some fn)(U:fn.body=some code){args sH:ag}{ns:List (Option Nat)}{h h1 C oU:I es}{n n2 KN:Nat}{v:V}{o:qb}
  (l:(Nat.ble sH.length fn.ntmps&&Nat.blt fn.ntmps gO)=true) (k:Gp ns h h1) (ka:V.KA (mu ns) args=some sH) (he:Qs ns h1 (o.val,oU,KN) h n=some (v,C,n2))
  (hT:TG P ns.length fn.ntmps code (dI sH h1 ns.length) (DP P ns.length fn fun a b c=>a=o/\b=oU/\c=KN))
  {E:Env} {w:World} {dZ:List Value} (ra:eK E args dZ) (g:Good E h w) (hd:qK E n):Calls P f dZ.toArray w (jx E h n w (o.put v) C n2):=by
 obtain⟨g1,d1⟩:=Ml g k;have ra1:eK (E.pick ns) sH dZ:=tA (E':=E.pick ns) Qr (fun _ _ _ _ _ _=>rfl) (fun _ _ q=>q) _ _ _ ka ra;refine(ze L sW hf U l _ hT ra1 g1 d1).mono fun en w' ⟨o',h',n',⟨q1,q2,q3⟩,c⟩=>?_;subst q1;subst q2;subst q3;obtain⟨v',k1,k2⟩:=Fv c;exact k2 _ _ _ _ _ _ (Mm g hd k he k1)
theorem Sd(L:P.follows .mixedOrders=true)(sW:kn P=true){f:FuncId}{fn:Func}{code:Code}{sp:ag->I es->Nat->Option (ah×V×I es×Nat)}(wr:V->qb)(hwr:∀v,(wr v).val=v/\∀u,(wr v).put u=wr u)(fj:f<P.funcs.size)(hf:P.funcs[f]? =some fn)(U:fn.body=some code)
  (hT:∀args h k hc v h' k',sp args h k=some (hc,v,h',k')->(∀a∈hc,a)->(Nat.ble args.length fn.ntmps&&Nat.blt fn.ntmps gO)=true/\TG P k fn.ntmps code (dI args h k) (DP P k fn fun a b c=>a=wr v/\b=h'/\c=k')):f<P.funcs.size/\∀args h n hc v h' n',nG sp args h n=some (hc,v,h',n')->(∀a∈hc,a)->
 ∀E w dZ,eK E args dZ->Good E h w->qK E n->callee P f=true->Calls P f dZ.toArray w (jx E h n w (wr v) h' n'):=by
 refine⟨fj,fun args h n hc v C n2 e hA E w dZ ra g hd A=>?_⟩;unfold nG at e;split at e
 case h_2=>cases e
 rename_i ns JU;split at e
 case h_2=>cases e
 rename_i hbs;split at e
 case h_2=>cases e
 rename_i sH h1 ha1 hh1;split at e
 case h_2=>cases e
 rename_i A1 v1 oU KN D0;split at e
 case h_2=>cases e
 rename_i v3 h3 n3 he;simp only[aq,aB]at e;obtain⟨rfl,rfl,rfl,rfl⟩:=e;simp only[ay]at hbs;obtain⟨b1,b2,b3⟩:=hbs;obtain⟨l,hTG⟩:=hT _ _ _ _ _ _ _ D0 hA;rw[<- (hwr v1).2 v3];refine Ls L sW hf U l ⟨fun p hp=>?_,b2,za b3,fun j o1 hj=>?_⟩ ha1 (by rw[(hwr v1).1];exact he) hTG ra g hd
 . have:=bw.1 b1 p hp;split at this
   . rename_i k hk;rw[hk,aJ this]
   . cases this
 . rcases vA ns 0 .nil h1 hh1 j o1 hj with q|⟨i,m,o,q1,q2,q3,q4⟩
   . simp[I.get]at q
   . obtain rfl:j=i:=by omega
     exact⟨m,o,q2,q3,q4⟩
theorem G3(v:V):(qb.ret v).val=v/\∀u,(qb.ret v).put u= .ret u:=⟨rfl,fun _=>rfl⟩
theorem aaq(v:V):(qb.nI v).val=v/\∀u,(qb.nI v).put u= .nI u:=⟨rfl,fun _=>rfl⟩
def afS(my:ag)(v:V):ag->I es->Nat->Option (ah×V×I es×Nat):=fun args h n=>some ([V.jj args=my],v,h,n)
theorem G4{my:ag}{v:V}(fj:Nat.blt f P.funcs.size=true)(h:Sb P f my v):Sa P f (afS my v):=by
 refine⟨aE fj,fun args h' n hc v' C n2 e hA E w dZ ra g hd _=>?_⟩;simp only[afS,aq,aB]at e;obtain⟨rfl,rfl,rfl,rfl⟩:=e;have e1:V.jj args=my:=hA _ (by simp);exact h E _ _ w dZ (e1▸tN _ _ ra) g hd
end
end Go.Eng
