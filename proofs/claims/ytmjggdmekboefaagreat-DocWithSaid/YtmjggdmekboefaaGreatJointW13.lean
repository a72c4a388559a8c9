/- Lemmas of the engine. No conditions. -/
import Derived.Test.YtmjggdmekboefaaGreatJointW09
import Derived.Test.YtmjggdmekboefaaGreatJointW11
set_option linter.unusedVariables false
set_option linter.unusedSimpArgs false
set_option linter.unusedSectionVars false
namespace Go.Eng
open Go Go.RowKit
def Bo(v:V)(ch:List PanicEntry):Prop:=v.free=true/\∃E v',eB E v v'/\ch=[{ v:=v',recovered:=false }]
def Ow(P:Program)(X hc:Nat)(ops:Array Oper)(l:List Oper)(s:St)(Q:Exit->St->Prop):Prop:=
 ∀(E:Env) (a:Act) (w:World) (hm:Exit->Act->World->Prop),lq E hc s a w->X<=s.n->
  (∀y R E' a' w',Q y R->nk X E s.h w E' R.h w'->X<=R.n->lq E' hc R a' w'->hm y a' w')->wpListIn (fz none) 0 P ops hm l a w
section
variable{P:Program}{cf:gm}{iX X hc:Nat}{c:Code}{s R:St}{Q Q1:Exit->St->Prop}
theorem Ma{ops:Array Oper}{l:List Oper}{s2:St}(h:lY X hc s s2)(ht:Ow P X hc ops l s2 Q):Ow P X hc ops l s Q:=fun E a w hm r hn k=>by
 obtain⟨qX,E2,r2,u2⟩:=h E a w r hn;exact ht E2 a w hm r2 qX fun y R E' a' w' q u od r'=>k y R E' a' w' q (u2.trans u) od r'
theorem Dt(lK:gY P cf){x:n0}{y:Exit}{ops:Array Oper}{l:List Oper}(hd:∀o∈l,ng hc o.dst)(e:jr P cf ops l s=some (x,R))(J:x.plain=some y)(hq:Q y R):Ow P X hc ops l s Q:=by
 intro E a w hm r hn k;refine lM (rC:=none) lK l s x R (.inl rfl) hd e E a w hm r fun E' a' w' x' u fT od r' pE=>?_;have:x'=y:=by
  cases x<;>cases x'<;>simp only[HY,n0.plain,aq,reduceCtorEq]at pE J<;>first|exact J|(subst pE;exact J)
 subst this;exact k _ R E' a' w' hq (.of u fT hn) (bH hn od) r'
theorem NR(lK:gY P cf){v:V}{ops:Array Oper}{l:List Oper}(hd:∀o∈l,ng hc o.dst)(e:jr P cf ops l s=some (.panic v,R))(hv:v.free=true)(hq:∀ch,Bo v ch->Q (.panic ch) R):Ow P X hc ops l s Q:=by
 intro E a w hm r hn k;refine lM (rC:=none) lK l s _ R (.inl rfl) hd e E a w hm r fun E' a' w' x' u fT od r' pE=>?_;cases x'<;>first|exact pE.elim|skip
 rename_i ch;obtain⟨v',h1,C⟩:=pE;exact k _ R E' a' w' (hq ch ⟨hv,E',v',h1,C⟩) (.of u fT hn) (bH hn od) r'
theorem Rx(lK:gY P cf)(K:P.follows .mixedOrders=true){v:V}(N:eV hc c=true)(e:gH P cf iX c s=some (.panic v,R))(hv:v.free=true)(hq:∀ch,Bo v ch->Q (.panic ch) R):TG P X hc c s Q:=by
 intro E a w hm r hn k;refine wpIn_wide (n:=0) |>.1 ?_;refine lE (rC:=none) lK K c s _ R (.inl rfl) N e E a w hm r fun E' a' w' x' u fT od r' pE=>?_;cases x'<;>first|exact pE.elim|skip
 rename_i ch;obtain⟨v',h1,C⟩:=pE;exact k _ R E' a' w' (hq ch ⟨hv,E',v',h1,C⟩) (.of u fT hn) (bH hn od) r'
def Uy(P:Program)(f:FuncId)(spec:ag->I es->Nat->Option (ah×V×I es×Nat)):Prop:=f<P.funcs.size/\∀args h n fm v h' n',spec args h n=some (fm,v,h',n')->(∀a∈fm,a)->
 ∀E w dQ,eC E args dQ->Good E h w->qy E n->callee P f=true->Calls P f dQ.toArray w (jj E h n w (.lU v) h' n')
theorem BJ{o:Oper}{rest:List Oper}{ops:Array Oper}{f:FuncId}{args:ag}{spec:ag->I es->Nat->Option (ah×V×I es×Nat)}{fm:ah}{v:V}{C:I es}{n2:Nat}(hd:∀x∈o::rest,ng hc x.dst)(hg:o.guard=none)
  (pV:eA P o s.T s.h s.n=some (.call f args)) (hO:Uy P f spec) (Ca:spec args s.h s.n=some (fm,v,C,n2)) (hA:∀a∈fm,a) (hv:v.free=true) (hq:∀ch,Bo v ch->Q (.panic ch) { s with h:=C,n:=n2 }):Ow P X hc ops (o::rest) s Q:=by
 let ZJ:gm:=fun f' a' h' n'=>@ite _ (f'=f/\a'=args/\h'=s.h/\n'=s.n) (Classical.propDecidable _) (some (.lU v,C,n2)) none
 have U:gY P ZJ:=by
  intro f' a' h' n' sI h1 n1 e E w dQ ra g Uz;simp only[ZJ]at e;split at e
  case isFalse=>cases e
  rename_i q;obtain⟨rfl,rfl,rfl,rfl⟩:=q;simp only[aq,aB]at e;obtain⟨rfl,rfl,rfl⟩:=e;exact⟨fun N=>hO.2 _ _ _ _ _ _ _ Ca hA E w dQ ra g Uz N,fun m l _ K _=>absurd hO.1 (by rw[K];exact Nat.not_lt.2 (Nat.le_add_right _ _))⟩
 refine NR (R:={ s with h:=C,n:=n2 }) U hd ?_ hv hq;have hw:gd ops o s.T=some true:=by unfold gd;rw[hg]
 have N:ZJ f args s.h s.n=some (.lU v,C,n2):=aD ⟨rfl,rfl,rfl,rfl⟩;simp only[jr,hw,pV,N]
theorem Gx{o:Oper}{ops:Array Oper}{f:FuncId}{args:ag}{spec:ag->I es->Nat->Option (ah×V×I es×Nat)}{fm:ah}{v:V}{C:I es}{n2:Nat}{T:I V}(hd:ng hc o.dst)(hg:o.guard=none)
  (pV:eA P o s.T s.h s.n=some (.call f args)) (hO:kj P f spec) (Ca:spec args s.h s.n=some (fm,v,C,n2)) (hA:∀a∈fm,a) (hp:jB s.T o.dst v=some T) (hq:Q .normal { s with T:=T,h:=C,n:=n2 }):Ow P X hc ops [o] s Q:=by
 let ZJ:gm:=fun f' a' h' n'=>@ite _ (f'=f/\a'=args/\h'=s.h/\n'=s.n) (Classical.propDecidable _) (some (.ret v,C,n2)) none
 have U:gY P ZJ:=by
  intro f' a' h' n' sI h1 n1 e E w dQ ra g Uz;simp only[ZJ]at e;split at e
  case isFalse=>cases e
  rename_i q;obtain⟨rfl,rfl,rfl,rfl⟩:=q;simp only[aq,aB]at e;obtain⟨rfl,rfl,rfl⟩:=e;exact⟨fun N=>hO.2 _ _ _ _ _ _ _ Ca hA E w dQ ra g Uz N,fun m l _ K _=>absurd hO.1 (by rw[K];exact Nat.not_lt.2 (Nat.le_add_right _ _))⟩
 refine Dt (x:=.normal) (R:={ s with T:=T,h:=C,n:=n2 }) U (fun x J=>by rw[aG]at J;subst J;exact hd) ?_ rfl hq;have hw:gd ops o s.T=some true:=by unfold gd;rw[hg]
 have N:ZJ f args s.h s.n=some (.ret v,C,n2):=aD ⟨rfl,rfl,rfl,rfl⟩;simp only[jr,hw,pV,N,hp]
def Ec(k:Nat):Code->Code
 | .region id ops true=>.region id (ops.pop.push D9) true
 | .region id ops false=>.region id (ops.toList.take k).toArray false
 |c=>c
def lI(k:Nat):Code->List Oper
 | .region _ ops true=>ops.toList.drop (ops.size-1)
 | .region _ ops false=>ops.toList.drop k
 |_=>[]
def NS:Code->Array Oper
 | .region _ ops true=>(ops.toList.drop (ops.size-1)).toArray
 | .region _ ops false=>ops
 |_=>#[]
def Ed(k:Nat):Code->Bool
 | .region id ops true=>EY (.region id ops true)
 | .region _ ops false=>(ops.toList.take k).all fun o=>match o.guard with
   |some (j,_)=>Nat.blt j k
   |none=>true
 |_=>false
theorem xw{ops ops':Array Oper}:∀(l:List Oper) (s:St),(∀o∈l,∀T,gd ops o T=gd ops' o T)->jr P cf ops l s=jr P cf ops' l s
 | [],_,_=>rfl
 |o::l,s,h=>by
  have ih:=fun s=>xw l s fun o ho=>h o (aZ _ ho);simp only[jr,h o (bw ..),ih]
theorem Mb(k:Nat)(lK:gY P cf)(K:P.follows .mixedOrders=true)(N:eV hc c=true)(hl:Ed k c=true)(e:gH P cf iX (Ec k c) s=some (.normal,R))(h:Ow P X hc (NS c) (lI k c) R Q):TG P X hc c s Q:=by
 cases c<;>try (simp only[Ed,aM]at hl;done)
 rename_i id ops B4;cases B4 with
 |true=>
  refine L5 (c:=.region id ops true) lK K N hl e ?_;intro E a w hm r hn kk;have:=h E a w hm r hn kk;simpa only[yG,NS,lI]using this
 |false=>
  intro E a w hm r hn kk;simp only[eV,ay,aM,cA,and_true]at N;simp only[Ed]at hl;have FG:∀o∈ops.toList,ng hc o.dst:=by
   intro o ho d hd;have:=br.1 N o ho;rw[hd]at this;exact aX this
  refine(wpIn_wide (n:=0)).1 (wpIn_region_list (F:=fz none) ?_);show wpListIn (fz none) 0 P _ _ ops.toList a w;rw[<- List.take_append_drop k ops.toList];refine tC _ ?_;simp only[Ec,gH]at e;rw[xw (ops':=ops)]at e
  . refine lM (rC:=none) lK _ s .normal R (.inl rfl) (fun o ho=>FG o (cN ho)) e E a w _ r ?_;intro E' a' w' x' u fT od r' pE;cases x'<;>first|exact pE.elim|skip
    have hk:=nk.of u fT hn;exact h E' a' w' _ r' (bH hn od) fun y s2 E2 a2 w2 q u2 qX r2=>kk y s2 E2 a2 w2 q (hk.trans u2) qX r2
  . intro o ho T;have hg:=br.1 hl o ho;unfold gd;cases hq:o.guard with
    |none=>rfl
    |some q=>
     obtain⟨j,Fh⟩:=q;rw[hq]at hg;have hj:j<k:=aE hg;have:(ops.toList.take k).toArray[j]? =ops[j]?:=by
      rw[List.getElem?_toArray,bW,aD hj,bP]
     simp only[this]
theorem BK(k:Nat)(X1:CX P)(K:P.follows .mixedOrders=true)(N:eV hc c=true)(hl:Ed k c=true){dz:List (Nat×mj)}{fn:Func}{live:List Nat}{iW:ag}{dx:List (List (Bool×Bool)×ah×jU)}
  (hr:G P X1.cs dz iX X fn live (Ec k c) s iW dx) (h:∀g∈dx,(∀b∈g.1,b.1=b.2)->(∀a∈g.2.1,a)/\∃s1,g.2.2= .to .normal s1/\Ow P X hc (NS c) (lI k c) s1 Q):TG P X hc c s Q:=by
 obtain⟨g,hg,ho,s1,R,oV,Hx,he⟩:=BG hr fun g hg ho=>by
  obtain⟨h1,s1,C,_⟩:=h g hg ho;exact⟨h1,s1,C⟩
 obtain⟨_,s1',e1,ht⟩:=h g hg ho;rw[oV]at e1;cases e1;exact Mb k X1.ok K N hl he (Ma (lY.norm Hx) ht)
end
def qw.val:qw->V
 | .ret v=>v
 | .lU v=>v
def qw.put:qw->V->qw
 | .ret _,v=>.ret v
 | .lU _,v=>.lU v
section
variable(P:Program)(X:Nat)(fn:Func)(s:St)
def NT(m:Mode):Option (qw×I es×Nat):=match k8 P (fun _ _ _ _=>none) 20 fn s.T s.iE m s.h s.n with
 |some (o,h,n)=>match ld X [0] { T:=I.nil.set 0 (some o.val),h:=h,n:=n,iE:=[] }with
  |some s2=>match s2.T.get 0 with
   |some v2=>some (o.put v2,s2.h,s2.n)
   |none=>none
  |none=>none
 |none=>none
def ao5:Exit->Mode->Prop
 | .normal,.ret=>True
 | .ret,.ret=>True
 | .panic ch,.lU v false=>Bo v ch
 |_,_=>False
def G6(s':qw->I es->Nat->Prop)(y:Exit)(s:St):Prop:=∃m,ao5 y m/\∃o h n,NT P X fn s m=some (o,h,n)/\s' o h n
end
section
variable{P:Program}{f:FuncId}{X:Nat}
theorem G6.ZK{fn:Func}{s':qw->I es->Nat->Prop}{y:Exit}{s:St}(h:fV P X fn (fun v h n=>s' (.ret v) h n) y s):G6 P X fn s' y s:=by
 obtain⟨hy,v,h',n',hr,hR⟩:=h;obtain⟨v1,h1,n1,s2,k1,k2,k3,k4,k5⟩:=EI hr;refine⟨.ret,?_,.ret v,h',n',?_,hR⟩
 . rcases hy with rfl|rfl<;>trivial
 . unfold NT;rw[r9 k1];simp only[qw.val];rw[k2];simp only;rw[k3,k4,k5];rfl
theorem G6.Du{fn:Func}{s':qw->I es->Nat->Prop}{ch:List PanicEntry}{s:St}{v:V}{o:qw}{h:I es}{n:Nat}(hp:Bo v ch)(e:NT P X fn s (.lU v false)=some (o,h,n))(hR:s' o h n):G6 P X fn s' (.panic ch) s:=⟨.lU v false,hp,o,h,n,e,hR⟩
theorem E5{E:Env}{h:I es}{n:Nat}{w:World}{o:qw}{h':I es}{n':Nat}{en:Ending}{w':World}(c:jj E h n w o h' n' en w'):∃v',jj E h n w (.ret o.val) h' n' (.returned v') w'/\∀(E2:Env) (C DE:I es) (m m':Nat) (v2:V),jj E2 C m w (.ret v2) DE m' (.returned v') w'->jj E2 C m w (o.put v2) DE m' en w':=by
 obtain⟨E1,u,h1,C,h3,ho⟩:=c;cases o with
 |ret v=>
  cases en with
  |returned v'=>exact⟨v',⟨E1,u,h1,C,h3,ho⟩,fun _ _ _ _ _ _ c=>c⟩
  |_=>exact ho.elim
 |lU v=>
  cases en with
  |panicked ch=>
   obtain⟨v',q1,rfl⟩:=ho;exact⟨v',⟨E1,u,h1,C,h3,q1⟩,fun _ _ _ _ _ _ ⟨E2,u2,k1,k2,k3,k4⟩=>⟨E2,u2,k1,k2,k3,v',k4,rfl⟩⟩
  |_=>exact ho.elim
theorem yJ(K:P.follows .mixedOrders=true)(sJ:jT P=true){f:FuncId}{fn:Func}{code:Code}(hf:P.funcs[f]? =some fn)(Y:fn.body=some code){args:ag}{h:I es}{X:Nat}
  (l:(Nat.ble args.length fn.ntmps&&Nat.blt fn.ntmps gy)=true) (s':qw->I es->Nat->Prop) (hT:TG P X fn.ntmps code (dB args h X) (G6 P X fn s'))
  {E:Env} {w:World} {dQ:List Value} (ra:eC E args dQ) (g:Good E h w) (hd:qy E X):
  Calls P f dQ.toArray w fun e w'=>∃o h' n',s' o h' n'/\jj E h X w o h' n' e w':=by
 simp only[ay]at l;obtain⟨y9,mP⟩:=qd (n:=fn.ntmps) ra (aE l.1) (aE l.2);refine callsIn_wide.1 (callsIn_of_wp_marks (n:=0) hf Y trivial (wpIn_wide.2 ?_));refine hT E _ w _ ⟨g,hd,y9,mP,rfl⟩ (aK _) fun y R E' a' w' ⟨m,hy,o,h',n',hr,hR⟩ u od r'=>?_;unfold NT at hr;split at hr
 case h_2=>cases hr
 rename_i o1 h1 n1 k1;split at hr
 case h_2=>cases hr
 rename_i s2 k2;split at hr
 case h_2=>cases hr
 rename_i v2 k3;simp only[aq,aB]at hr;obtain⟨rfl,rfl,rfl⟩:=hr;have key:∀md,D0 E' m md->LeavesInM Fence.wide 0 P fn a'.tmps (fun e w'=>∃o h' n',s' o h' n'/\jj E h X w o h' n' e w') a'.defers md w':=by
  intro md rm;refine ow (cf:=fun _ _ _ _=>none) (iX:=20) (fun _ _ _ _ _ _ _ e=>by cases e) K sJ R.iE m R.h R.n _ h1 n1 k1 E' w' a'.defers md _ r'.good r'.rD r'.T r'.iE rm fun E2 w2 en u2 rW DZ qX ho=>?_;have u3:=u.trans (nk.of u2 rW od);have pX:∀v',eB E2 o1.val v'->∃E3,jf E h w E3 s2.h w2/\(∀m,m<X->E3.ι m=E.ι m)/\qy E3 s2.n/\X<=s2.n/\eB E3 v2 v':=by
   intro v' WU;have sr:lq E2 1 { T:=I.nil.set 0 (some o1.val),h:=h1,n:=n1,iE:=[] } { tmps:=#[v'],defers:=[] } w2:=by
    refine⟨u3.good,DZ,fun t v hv=>?_,rfl,rfl⟩;rw[I.gw _ _ _ eX]at hv;split at hv
    . rename_i q;subst q;cases hv;exact⟨v',rfl,WU⟩
    . simp[I.get]at hv
   obtain⟨_,Oj,E3,r3,u4⟩:=ox k2 sr;have u5:=(u3.trans u4).Cl hd;obtain⟨v'',q1,q2⟩:=r3.T 0 v2 k3;simp only[List.getElem?_toArray,cK,aq]at q1;subst q1;exact⟨E3,u5,(u3.trans u4).low,r3.rD,Oj,q2⟩
  cases o1 with
  |ret v=>
   cases en with
   |returned v'=>
    obtain⟨E3,q1,q2,q3,q4,q5⟩:=pX v' ho;exact⟨_,_,_,hR,E3,q1,q2,q3,q4,q5⟩
   |_=>exact ho.elim
  |lU v=>
   cases en with
   |panicked ch=>
    obtain⟨v',ho,rfl⟩:=ho;obtain⟨E3,q1,q2,q3,q4,q5⟩:=pX v' ho;exact⟨_,_,_,hR,E3,q1,q2,q3,q4,v',q5,rfl⟩
   |_=>exact ho.elim
 cases y<;>cases m<;>first|exact hy.elim|skip
 . exact key .returning trivial
 . exact key .returning trivial
 . rename_i ch _ v b;cases b with
   |true=>exact hy.elim
   |false=>
    obtain⟨hv,E0,v',q1,q2⟩:=hy;exact key (.panicking ch) ⟨v',uS _ _ hv q1,q2⟩
def Ry(P:Program)(f:FuncId)(args:ag)(v:V):Prop:=∀E h n w dQ,eC E args dQ->Good E h w->qy E n->Calls P f dQ.toArray w (jj E h n w (.lU v) h n)
theorem Mc(K:P.follows .mixedOrders=true)(sJ:jT P=true){f:FuncId}{fn:Func}{code:Code}(hf:P.funcs[f]? =some fn)(Y:fn.body=some code){args:ag}
  (l:(Nat.ble args.length fn.ntmps&&Nat.blt fn.ntmps gy)=true) {o:qw} (Tw:V.qn args=true) (hv:o.val.free=true) (hT:TG P gN fn.ntmps code (dB args .nil gN) (G6 P gN fn fun a _ _=>a=o)):
  ∀E h n w dQ,eC E args dQ->Good E h w->qy E n->Calls P f dQ.toArray w (jj E h n w o h n):=by
 intro E h n w dQ ra g hd;have g0:Good (Bf E.φ) .nil w:=wZ g.wg g.fz;have ra0:eC (Bf E.φ) args dQ:=lN (E:=E) (E':=Bf E.φ) (fun _ _ q=>q) _ _ Tw ra;refine(yJ K sJ hf Y l _ hT ra0 g0 (CD (aK _))).mono fun e w' ⟨o',h',n',hz,k⟩=>?_;subst hz;obtain⟨v',q1,q2⟩:=E5 k;obtain⟨ho,b⟩:=qI xb q1;have:=q2 E h h n n o'.val (uX g hd hv ho b);cases o'<;>exact this
theorem KX(K:P.follows .mixedOrders=true)(sJ:jT P=true){f:FuncId}{fn:Func}{code:Code}(hf:P.funcs[f]? =some fn)(Y:fn.body=some code){args sg:ag}{ns:List (Option Nat)}{h h1 C oF:I es}{n n2 Kk:Nat}{v:V}{o:qw}
  (l:(Nat.ble sg.length fn.ntmps&&Nat.blt fn.ntmps gy)=true) (k:F0 ns h h1) (ka:V.J6 (mu ns) args=some sg) (he:PU ns h1 (o.val,oF,Kk) h n=some (v,C,n2))
  (hT:TG P ns.length fn.ntmps code (dB sg h1 ns.length) (G6 P ns.length fn fun a b c=>a=o/\b=oF/\c=Kk))
  {E:Env} {w:World} {dQ:List Value} (ra:eC E args dQ) (g:Good E h w) (hd:qy E n):Calls P f dQ.toArray w (jj E h n w (o.put v) C n2):=by
 obtain⟨g1,d1⟩:=LM g k;have ra1:eC (E.pick ns) sg dQ:=th (E':=E.pick ns) PT (fun _ _ _ _ _ _=>rfl) (fun _ _ q=>q) _ _ _ ka ra;refine(yJ K sJ hf Y l _ hT ra1 g1 d1).mono fun en w' ⟨o',h',n',⟨q1,q2,q3⟩,c⟩=>?_;subst q1;subst q2;subst q3;obtain⟨v',k1,k2⟩:=E5 c;exact k2 _ _ _ _ _ _ (LN g hd k he k1)
theorem ZL(K:P.follows .mixedOrders=true)(sJ:jT P=true){f:FuncId}{fn:Func}{code:Code}{sp:ag->I es->Nat->Option (ah×V×I es×Nat)}(wr:V->qw)(hwr:∀v,(wr v).val=v/\∀u,(wr v).put u=wr u)(eY:f<P.funcs.size)(hf:P.funcs[f]? =some fn)(Y:fn.body=some code)
  (hT:∀args h k fm v h' k',sp args h k=some (fm,v,h',k')->(∀a∈fm,a)->(Nat.ble args.length fn.ntmps&&Nat.blt fn.ntmps gy)=true/\TG P k fn.ntmps code (dB args h k) (G6 P k fn fun a b c=>a=wr v/\b=h'/\c=k')):f<P.funcs.size/\∀args h n fm v h' n',vX sp args h n=some (fm,v,h',n')->(∀a∈fm,a)->
 ∀E w dQ,eC E args dQ->Good E h w->qy E n->callee P f=true->Calls P f dQ.toArray w (jj E h n w (wr v) h' n'):=by
 refine⟨eY,fun args h n fm v C n2 e hA E w dQ ra g hd N=>?_⟩;unfold vX at e;split at e
 case h_2=>cases e
 rename_i ns Jq;split at e
 case h_2=>cases e
 rename_i hbs;split at e
 case h_2=>cases e
 rename_i sg h1 ha1 hh1;split at e
 case h_2=>cases e
 rename_i A1 v1 oF Kk Ca;split at e
 case h_2=>cases e
 rename_i v3 h3 n3 he;simp only[aq,aB]at e;obtain⟨rfl,rfl,rfl,rfl⟩:=e;simp only[ay]at hbs;obtain⟨b1,b2,b3⟩:=hbs;obtain⟨l,hTG⟩:=hT _ _ _ _ _ _ _ Ca hA;rw[<- (hwr v1).2 v3];refine KX K sJ hf Y l ⟨fun p hp=>?_,b2,yI b3,fun j o1 hj=>?_⟩ ha1 (by rw[(hwr v1).1];exact he) hTG ra g hd
 . have:=br.1 b1 p hp;split at this
   . rename_i k U;rw[U,aJ this]
   . cases this
 . rcases vi ns 0 .nil h1 hh1 j o1 hj with q|⟨i,m,o,q1,q2,q3,q4⟩
   . simp[I.get]at q
   . obtain rfl:j=i:=by omega
     exact⟨m,o,q2,q3,q4⟩
theorem Rz(v:V):(qw.ret v).val=v/\∀u,(qw.ret v).put u= .ret u:=⟨rfl,fun _=>rfl⟩
theorem ZM(v:V):(qw.lU v).val=v/\∀u,(qw.lU v).put u= .lU u:=⟨rfl,fun _=>rfl⟩
def ae6(nr:ag)(v:V):ag->I es->Nat->Option (ah×V×I es×Nat):=fun args h n=>some ([V.jJ args=nr],v,h,n)
theorem Gy{nr:ag}{v:V}(eY:Nat.blt f P.funcs.size=true)(h:Ry P f nr v):Uy P f (ae6 nr v):=by
 refine⟨aE eY,fun args h' n fm v' C n2 e hA E w dQ ra g hd _=>?_⟩;simp only[ae6,aq,aB]at e;obtain⟨rfl,rfl,rfl,rfl⟩:=e;have e1:V.jJ args=nr:=hA _ (by simp);exact h E _ _ w dQ (e1▸tD _ _ ra) g hd
end
end Go.Eng
