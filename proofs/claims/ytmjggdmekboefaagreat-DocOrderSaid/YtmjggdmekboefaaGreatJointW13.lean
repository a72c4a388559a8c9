/- Lemmas of the engine. No conditions. -/
import Derived.Test.YtmjggdmekboefaaGreatJointW09
import Derived.Test.YtmjggdmekboefaaGreatJointW11
set_option linter.unusedVariables false
set_option linter.unusedSimpArgs false
set_option linter.unusedSectionVars false
namespace Go.Eng
open Go Go.RowKit
def Bg(v:V)(ch:List PanicEntry):Prop:=v.free=true/\∃E v',dV E v v'/\ch=[{ v:=v',recovered:=false }]
def N3(P:Program)(F fr:Nat)(ops:Array Oper)(l:List Oper)(s:St)(h1:Exit->St->Prop):Prop:=
 ∀(E:Env) (a:Act) (w:World) (hm:Exit->Act->World->Prop),jY E fr s a w->F<=s.n->
  (∀y X E' a' w',h1 y X->kB F E s.h w E' X.h w'->F<=X.n->jY E' fr X a' w'->hm y a' w')->wpListIn (fz none) 0 P ops hm l a w
section
variable{P:Program}{cf:fO}{n0 F fr:Nat}{c:Code}{s X:St}{h1 Q1:Exit->St->Prop}
theorem LU{ops:Array Oper}{l:List Oper}{s2:St}(h:j9 F fr s s2)(ht:N3 P F fr ops l s2 h1):N3 P F fr ops l s h1:=fun E a w hm r hn k=>by
 obtain⟨pD,E2,r2,u2⟩:=h E a w r hn;exact ht E2 a w hm r2 pD fun y X E' a' w' q u n7 r'=>k y X E' a' w' q (u2.trans u) n7 r'
theorem Dl(lE:gA P cf){x:s'}{y:Exit}{ops:Array Oper}{l:List Oper}(hd:∀o∈l,mX fr o.dst)(e:jk P cf ops l s=some (x,X))(I:x.plain=some y)(hq:h1 y X):N3 P F fr ops l s h1:=by
 intro E a w hm r hn k;refine lF (rz:=none) lE l s x X (.inl rfl) hd e E a w hm r fun E' a' w' x' u fE n7 r' pF=>?_;have:x'=y:=by
  cases x<;>cases x'<;>simp only[HB,s'.plain,aq,reduceCtorEq]at pF I<;>first|exact I|(subst pF;exact I)
 subst this;exact k _ X E' a' w' hq (.of u fE hn) (bE hn n7) r'
theorem Ns(lE:gA P cf){v:V}{ops:Array Oper}{l:List Oper}(hd:∀o∈l,mX fr o.dst)(e:jk P cf ops l s=some (.panic v,X))(hv:v.free=true)(hq:∀ch,Bg v ch->h1 (.panic ch) X):N3 P F fr ops l s h1:=by
 intro E a w hm r hn k;refine lF (rz:=none) lE l s _ X (.inl rfl) hd e E a w hm r fun E' a' w' x' u fE n7 r' pF=>?_;cases x'<;>first|exact pF.elim|skip
 rename_i ch;obtain⟨v',Q,O⟩:=pF;exact k _ X E' a' w' (hq ch ⟨hv,E',v',Q,O⟩) (.of u fE hn) (bE hn n7) r'
theorem Q9(lE:gA P cf)(K:P.follows .mixedOrders=true){v:V}(B:eL fr c=true)(e:gD P cf n0 c s=some (.panic v,X))(hv:v.free=true)(hq:∀ch,Bg v ch->h1 (.panic ch) X):TG P F fr c s h1:=by
 intro E a w hm r hn k;refine wpIn_wide (n:=0) |>.1 ?_;refine k9 (rz:=none) lE K c s _ X (.inl rfl) B e E a w hm r fun E' a' w' x' u fE n7 r' pF=>?_;cases x'<;>first|exact pF.elim|skip
 rename_i ch;obtain⟨v',Q,O⟩:=pF;exact k _ X E' a' w' (hq ch ⟨hv,E',v',Q,O⟩) (.of u fE hn) (bE hn n7) r'
def Ra(P:Program)(f:FuncId)(spec:ag->J h2->Nat->Option (ah×V×J h2×Nat)):Prop:=f<P.funcs.size/\∀args h n aj v h' n',spec args h n=some (aj,v,h',n')->(∀a∈aj,a)->
 ∀E w dH,dZ E args dH->Good E h w->pX E n->callee P f=true->Calls P f dH.toArray w (iG E h n w (.nr v) h' n')
theorem BD{o:Oper}{rest:List Oper}{ops:Array Oper}{f:FuncId}{args:ag}{spec:ag->J h2->Nat->Option (ah×V×J h2×Nat)}{aj:ah}{v:V}{O:J h2}{n2:Nat}(hd:∀x∈o::rest,mX fr x.dst)(hg:o.guard=none)
  (pc:dS P o s.N s.h s.n=some (.call f args)) (hO:Ra P f spec) (DK:spec args s.h s.n=some (aj,v,O,n2)) (hA:∀a∈aj,a) (hv:v.free=true) (hq:∀ch,Bg v ch->h1 (.panic ch) { s with h:=O,n:=n2 }):N3 P F fr ops (o::rest) s h1:=by
 let YH:fO:=fun f' a' h' n'=>@ite _ (f'=f/\a'=args/\h'=s.h/\n'=s.n) (Classical.propDecidable _) (some (.nr v,O,n2)) none
 have W:gA P YH:=by
  intro f' a' h' n' sE Q n1 e E w dH ra g hdm;simp only[YH]at e;split at e
  case isFalse=>cases e
  rename_i q;obtain⟨rfl,rfl,rfl,rfl⟩:=q;simp only[aq,aF]at e;obtain⟨rfl,rfl,rfl⟩:=e;exact⟨fun B=>hO.2 _ _ _ _ _ _ _ DK hA E w dH ra g hdm B,fun m l _ K _=>absurd hO.1 (by rw[K];exact Nat.not_lt.2 (cQ _ _))⟩
 refine Ns (X:={ s with h:=O,n:=n2 }) W hd ?_ hv hq;have hw:fT ops o s.N=some true:=by unfold fT;rw[hg]
 have B:YH f args s.h s.n=some (.nr v,O,n2):=aG ⟨rfl,rfl,rfl,rfl⟩;simp only[jk,hw,pc,B]
theorem Gp{o:Oper}{ops:Array Oper}{f:FuncId}{args:ag}{spec:ag->J h2->Nat->Option (ah×V×J h2×Nat)}{aj:ah}{v:V}{O:J h2}{n2:Nat}{N:J V}(hd:mX fr o.dst)(hg:o.guard=none)
  (pc:dS P o s.N s.h s.n=some (.call f args)) (hO:jK P f spec) (DK:spec args s.h s.n=some (aj,v,O,n2)) (hA:∀a∈aj,a) (hp:jw s.N o.dst v=some N) (hq:h1 .normal { s with N:=N,h:=O,n:=n2 }):N3 P F fr ops [o] s h1:=by
 let YH:fO:=fun f' a' h' n'=>@ite _ (f'=f/\a'=args/\h'=s.h/\n'=s.n) (Classical.propDecidable _) (some (.ret v,O,n2)) none
 have W:gA P YH:=by
  intro f' a' h' n' sE Q n1 e E w dH ra g hdm;simp only[YH]at e;split at e
  case isFalse=>cases e
  rename_i q;obtain⟨rfl,rfl,rfl,rfl⟩:=q;simp only[aq,aF]at e;obtain⟨rfl,rfl,rfl⟩:=e;exact⟨fun B=>hO.2 _ _ _ _ _ _ _ DK hA E w dH ra g hdm B,fun m l _ K _=>absurd hO.1 (by rw[K];exact Nat.not_lt.2 (cQ _ _))⟩
 refine Dl (x:=.normal) (X:={ s with N:=N,h:=O,n:=n2 }) W (fun x I=>by rw[aH]at I;subst I;exact hd) ?_ rfl hq;have hw:fT ops o s.N=some true:=by unfold fT;rw[hg]
 have B:YH f args s.h s.n=some (.ret v,O,n2):=aG ⟨rfl,rfl,rfl,rfl⟩;simp only[jk,hw,pc,B,hp]
def D5(k:Nat):Code->Code
 | .region id ops true=>.region id (ops.pop.push D3) true
 | .region id ops false=>.region id (ops.toList.take k).toArray false
 |c=>c
def lz(k:Nat):Code->List Oper
 | .region _ ops true=>ops.toList.drop (ops.size-1)
 | .region _ ops false=>ops.toList.drop k
 |_=>[]
def Nt:Code->Array Oper
 | .region _ ops true=>(ops.toList.drop (ops.size-1)).toArray
 | .region _ ops false=>ops
 |_=>#[]
def D6(k:Nat):Code->Bool
 | .region id ops true=>EN (.region id ops true)
 | .region _ ops false=>(ops.toList.take k).all fun o=>match o.guard with
   |some (j,_)=>Nat.blt j k
   |none=>true
 |_=>false
theorem xo{ops ops':Array Oper}:∀(l:List Oper) (s:St),(∀o∈l,∀N,fT ops o N=fT ops' o N)->jk P cf ops l s=jk P cf ops' l s
 | [],_,_=>rfl
 |o::l,s,h=>by
  have ih:=fun s=>xo l s fun o ho=>h o (bj _ ho);simp only[jk,h o (bx ..),ih]
theorem LV(k:Nat)(lE:gA P cf)(K:P.follows .mixedOrders=true)(B:eL fr c=true)(hl:D6 k c=true)(e:gD P cf n0 (D5 k c) s=some (.normal,X))(h:N3 P F fr (Nt c) (lz k c) X h1):TG P F fr c s h1:=by
 cases c<;>try (simp only[D6,aM]at hl;done)
 rename_i id ops BU;cases BU with
 |true=>
  refine LI (c:=.region id ops true) lE K B hl e ?_;intro E a w hm r hn kk;have:=h E a w hm r hn kk;simpa only[yB,Nt,lz]using this
 |false=>
  intro E a w hm r hn kk;simp only[eL,ay,aM,cz,and_true]at B;simp only[D6]at hl;have Fw:∀o∈ops.toList,mX fr o.dst:=by
   intro o ho d hd;have:=br.1 B o ho;rw[hd]at this;exact aX this
  refine(wpIn_wide (n:=0)).1 (wpIn_region_list (F:=fz none) ?_);show wpListIn (fz none) 0 P _ _ ops.toList a w;rw[<- List.take_append_drop k ops.toList];refine tw _ ?_;simp only[D5,gD]at e;rw[xo (ops':=ops)]at e
  . refine lF (rz:=none) lE _ s .normal X (.inl rfl) (fun o ho=>Fw o (cJ ho)) e E a w _ r ?_;intro E' a' w' x' u fE n7 r' pF;cases x'<;>first|exact pF.elim|skip
    have dJ:=kB.of u fE hn;exact h E' a' w' _ r' (bE hn n7) fun y s2 E2 a2 w2 q u2 pD r2=>kk y s2 E2 a2 w2 q (dJ.trans u2) pD r2
  . intro o ho N;have hg:=br.1 hl o ho;unfold fT;cases hq:o.guard with
    |none=>rfl
    |some q=>
     obtain⟨j,Fa⟩:=q;rw[hq]at hg;have hj:j<k:=az hg;have:(ops.toList.take k).toArray[j]? =ops[j]?:=by
      rw[List.getElem?_toArray,bS,aG hj,bM]
     simp only[this]
theorem BE(k:Nat)(X1:CX P)(K:P.follows .mixedOrders=true)(B:eL fr c=true)(hl:D6 k c=true){dm:List (Nat×lM)}{fn:Func}{live:List Nat}{iX:ag}{hL:List (List (Bool×Bool)×ah×jL)}
  (hr:dj P X1.R dm n0 F fn live (D5 k c) s iX hL) (h:∀g∈hL,(∀b∈g.1,b.1=b.2)->(∀a∈g.2.1,a)/\∃s1,g.2.2= .to .normal s1/\N3 P F fr (Nt c) (lz k c) s1 h1):TG P F fr c s h1:=by
 obtain⟨g,hg,ho,s1,X,pW,DN,he⟩:=BC hr fun g hg ho=>by
  obtain⟨Q,s1,O,_⟩:=h g hg ho;exact⟨Q,s1,O⟩
 obtain⟨_,s1',e1,ht⟩:=h g hg ho;rw[pW]at e1;cases e1;exact LV k X1.ok K B hl he (LU (j9.norm DN) ht)
end
def pO.val:pO->V
 | .ret v=>v
 | .nr v=>v
def pO.put:pO->V->pO
 | .ret _,v=>.ret v
 | .nr _,v=>.nr v
section
variable(P:Program)(F:Nat)(fn:Func)(s:St)
def Nu(m:Mode):Option (pO×J h2×Nat):=match mN P (fun _ _ _ _=>none) 20 fn s.N s.ij m s.h s.n with
 |some (o,h,n)=>match ld F [0] { N:=J.nil.set 0 (some o.val),h:=h,n:=n,ij:=[] }with
  |some s2=>match s2.N.get 0 with
   |some v2=>some (o.put v2,s2.h,s2.n)
   |none=>none
  |none=>none
 |none=>none
def an8:Exit->Mode->Prop
 | .normal,.ret=>True
 | .ret,.ret=>True
 | .panic ch,.nr v false=>Bg v ch
 |_,_=>False
def Dm(cs:pO->J h2->Nat->Prop)(y:Exit)(s:St):Prop:=∃m,an8 y m/\∃o h n,Nu P F fn s m=some (o,h,n)/\cs o h n
end
section
variable{P:Program}{f:FuncId}{F:Nat}
theorem Dm.YI{fn:Func}{cs:pO->J h2->Nat->Prop}{y:Exit}{s:St}(h:fH P F fn (fun v h n=>cs (.ret v) h n) y s):Dm P F fn cs y s:=by
 obtain⟨hy,v,h',n',hr,hR⟩:=h;obtain⟨v1,Q,n1,s2,k1,k2,k3,k4,k5⟩:=EA hr;refine⟨.ret,?_,.ret v,h',n',?_,hR⟩
 . rcases hy with rfl|rfl<;>trivial
 . unfold Nu;rw[rX k1];simp only[pO.val];rw[k2];simp only;rw[k3,k4,k5];rfl
theorem Dm.Dn{fn:Func}{cs:pO->J h2->Nat->Prop}{ch:List PanicEntry}{s:St}{v:V}{o:pO}{h:J h2}{n:Nat}(hp:Bg v ch)(e:Nu P F fn s (.nr v false)=some (o,h,n))(hR:cs o h n):Dm P F fn cs (.panic ch) s:=⟨.nr v false,hp,o,h,n,e,hR⟩
theorem ET{E:Env}{h:J h2}{n:Nat}{w:World}{o:pO}{h':J h2}{n':Nat}{en:Ending}{w':World}(c:iG E h n w o h' n' en w'):∃v',iG E h n w (.ret o.val) h' n' (.returned v') w'/\∀(E2:Env) (O Ak:J h2) (m m':Nat) (v2:V),iG E2 O m w (.ret v2) Ak m' (.returned v') w'->iG E2 O m w (o.put v2) Ak m' en w':=by
 obtain⟨E1,u,Q,O,h3,ho⟩:=c;cases o with
 |ret v=>
  cases en with
  |returned v'=>exact⟨v',⟨E1,u,Q,O,h3,ho⟩,fun _ _ _ _ _ _ c=>c⟩
  |_=>exact ho.elim
 |nr v=>
  cases en with
  |panicked ch=>
   obtain⟨v',q1,rfl⟩:=ho;exact⟨v',⟨E1,u,Q,O,h3,q1⟩,fun _ _ _ _ _ _ ⟨E2,u2,k1,k2,k3,k4⟩=>⟨E2,u2,k1,k2,k3,v',k4,rfl⟩⟩
  |_=>exact ho.elim
theorem yE(K:P.follows .mixedOrders=true)(sF:jJ P=true){f:FuncId}{fn:Func}{code:Code}(hf:P.funcs[f]? =some fn)(hb:fn.body=some code){args:ag}{h:J h2}{F:Nat}
  (l:(Nat.ble args.length fn.ntmps&&Nat.blt fn.ntmps fZ)=true) (cs:pO->J h2->Nat->Prop) (hT:TG P F fn.ntmps code (dy args h F) (Dm P F fn cs))
  {E:Env} {w:World} {dH:List Value} (ra:dZ E args dH) (g:Good E h w) (hd:pX E F):
  Calls P f dH.toArray w fun e w'=>∃o h' n',cs o h' n'/\iG E h F w o h' n' e w':=by
 simp only[ay]at l;obtain⟨vy,my⟩:=nR (n:=fn.ntmps) ra (az l.1) (az l.2);refine callsIn_wide.1 (callsIn_of_wp_marks (n:=0) hf hb trivial (wpIn_wide.2 ?_));refine hT E _ w _ ⟨g,hd,vy,my,rfl⟩ (aK _) fun y X E' a' w' ⟨m,hy,o,h',n',hr,hR⟩ u n7 r'=>?_;unfold Nu at hr;split at hr
 case h_2=>cases hr
 rename_i o1 Q n1 k1;split at hr
 case h_2=>cases hr
 rename_i s2 k2;split at hr
 case h_2=>cases hr
 rename_i v2 k3;simp only[aq,aF]at hr;obtain⟨rfl,rfl,rfl⟩:=hr;have key:∀md,DV E' m md->LeavesInM Fence.wide 0 P fn a'.tmps (fun e w'=>∃o h' n',cs o h' n'/\iG E h F w o h' n' e w') a'.defers md w':=by
  intro md rm;refine oo (cf:=fun _ _ _ _=>none) (n0:=20) (fun _ _ _ _ _ _ _ e=>by cases e) K sF X.ij m X.h X.n _ Q n1 k1 E' w' a'.defers md _ r'.good r'.qu r'.N r'.ij rm fun E2 w2 en u2 rR Cr pD ho=>?_;have u3:=u.trans (kB.of u2 rR n7);have oI:∀v',dV E2 o1.val v'->∃E3,iQ E h w E3 s2.h w2/\(∀m,m<F->E3.ι m=E.ι m)/\pX E3 s2.n/\F<=s2.n/\dV E3 v2 v':=by
   intro v' hv';have sr:jY E2 1 { N:=J.nil.set 0 (some o1.val),h:=Q,n:=n1,ij:=[] } { tmps:=#[v'],defers:=[] } w2:=by
    refine⟨u3.good,Cr,fun t v hv=>?_,rfl,rfl⟩;rw[J.fJ _ _ _ eY]at hv;split at hv
    . rename_i q;subst q;cases hv;exact⟨v',rfl,hv'⟩
    . simp[J.get]at hv
   obtain⟨_,Jb,E3,r3,u4⟩:=ot k2 sr;have u5:=(u3.trans u4).tO hd;obtain⟨v'',q1,q2⟩:=r3.N 0 v2 k3;simp only[List.getElem?_toArray,cF,aq]at q1;subst q1;exact⟨E3,u5,(u3.trans u4).low,r3.qu,Jb,q2⟩
  cases o1 with
  |ret v=>
   cases en with
   |returned v'=>
    obtain⟨E3,q1,q2,q3,q4,q5⟩:=oI v' ho;exact⟨_,_,_,hR,E3,q1,q2,q3,q4,q5⟩
   |_=>exact ho.elim
  |nr v=>
   cases en with
   |panicked ch=>
    obtain⟨v',ho,rfl⟩:=ho;obtain⟨E3,q1,q2,q3,q4,q5⟩:=oI v' ho;exact⟨_,_,_,hR,E3,q1,q2,q3,q4,v',q5,rfl⟩
   |_=>exact ho.elim
 cases y<;>cases m<;>first|exact hy.elim|skip
 . exact key .returning trivial
 . exact key .returning trivial
 . rename_i ch _ v b;cases b with
   |true=>exact hy.elim
   |false=>
    obtain⟨hv,E0,v',q1,q2⟩:=hy;exact key (.panicking ch) ⟨v',uM _ _ hv q1,q2⟩
def Rb(P:Program)(f:FuncId)(args:ag)(v:V):Prop:=∀E h n w dH,dZ E args dH->Good E h w->pX E n->Calls P f dH.toArray w (iG E h n w (.nr v) h n)
theorem Rc(K:P.follows .mixedOrders=true)(sF:jJ P=true){f:FuncId}{fn:Func}{code:Code}(hf:P.funcs[f]? =some fn)(hb:fn.body=some code){args:ag}
  (l:(Nat.ble args.length fn.ntmps&&Nat.blt fn.ntmps fZ)=true) {o:pO} (J1:V.qi args=true) (hv:o.val.free=true) (hT:TG P gN fn.ntmps code (dy args .nil gN) (Dm P gN fn fun a _ _=>a=o)):
  ∀E h n w dH,dZ E args dH->Good E h w->pX E n->Calls P f dH.toArray w (iG E h n w o h n):=by
 intro E h n w dH ra g hd;have g0:Good (Bo E.φ) .nil w:=wR g.wg g.fz;have ra0:dZ (Bo E.φ) args dH:=lG (E:=E) (E':=Bo E.φ) (fun _ _ q=>q) _ _ J1 ra;refine(yE K sF hf hb l _ hT ra0 g0 (Cw (aK _))).mono fun e w' ⟨o',h',n',hz,k⟩=>?_;subst hz;obtain⟨v',q1,q2⟩:=ET k;obtain⟨ho,b⟩:=qJ wX q1;have:=q2 E h h n n o'.val (uR g hd hv ho b);cases o'<;>exact this
theorem KK(K:P.follows .mixedOrders=true)(sF:jJ P=true){f:FuncId}{fn:Func}{code:Code}(hf:P.funcs[f]? =some fn)(hb:fn.body=some code){args rY:ag}{ns:List (Option Nat)}{h Q O oG:J h2}{n n2 J2:Nat}{v:V}{o:pO}
  (l:(Nat.ble rY.length fn.ntmps&&Nat.blt fn.ntmps fZ)=true) (k:FQ ns h Q) (ka:V.JO (mu ns) args=some rY) (he:Pm ns Q (o.val,oG,J2) h n=some (v,O,n2))
  (hT:TG P ns.length fn.ntmps code (dy rY Q ns.length) (Dm P ns.length fn fun a b c=>a=o/\b=oG/\c=J2))
  {E:Env} {w:World} {dH:List Value} (ra:dZ E args dH) (g:Good E h w) (hd:pX E n):Calls P f dH.toArray w (iG E h n w (o.put v) O n2):=by
 obtain⟨g1,d1⟩:=Lq g k;have ra1:dZ (E.pick ns) rY dH:=s9 (E':=E.pick ns) Pk (fun _ _ _ _ _ _=>rfl) (fun _ _ q=>q) _ _ _ ka ra;refine(yE K sF hf hb l _ hT ra1 g1 d1).mono fun en w' ⟨o',h',n',⟨q1,q2,q3⟩,c⟩=>?_;subst q1;subst q2;subst q3;obtain⟨v',k1,k2⟩:=ET c;exact k2 _ _ _ _ _ _ (Lr g hd k he k1)
theorem Rd(K:P.follows .mixedOrders=true)(sF:jJ P=true){f:FuncId}{fn:Func}{code:Code}{sp:ag->J h2->Nat->Option (ah×V×J h2×Nat)}(wr:V->pO)(hwr:∀v,(wr v).val=v/\∀u,(wr v).put u=wr u)(eO:f<P.funcs.size)(hf:P.funcs[f]? =some fn)(hb:fn.body=some code)
  (hT:∀args h k aj v h' k',sp args h k=some (aj,v,h',k')->(∀a∈aj,a)->(Nat.ble args.length fn.ntmps&&Nat.blt fn.ntmps fZ)=true/\TG P k fn.ntmps code (dy args h k) (Dm P k fn fun a b c=>a=wr v/\b=h'/\c=k')):f<P.funcs.size/\∀args h n aj v h' n',oB sp args h n=some (aj,v,h',n')->(∀a∈aj,a)->
 ∀E w dH,dZ E args dH->Good E h w->pX E n->callee P f=true->Calls P f dH.toArray w (iG E h n w (wr v) h' n'):=by
 refine⟨eO,fun args h n aj v O n2 e hA E w dH ra g hd B=>?_⟩;unfold oB at e;split at e
 case h_2=>cases e
 rename_i ns I7;split at e
 case h_2=>cases e
 rename_i hbs;split at e
 case h_2=>cases e
 rename_i rY Q ha1 hh1;split at e
 case h_2=>cases e
 rename_i A1 v1 oG J2 DK;split at e
 case h_2=>cases e
 rename_i v3 h3 n3 he;simp only[aq,aF]at e;obtain⟨rfl,rfl,rfl,rfl⟩:=e;simp only[ay]at hbs;obtain⟨b1,b2,b3⟩:=hbs;obtain⟨l,hTG⟩:=hT _ _ _ _ _ _ _ DK hA;rw[<- (hwr v1).2 v3];refine KK K sF hf hb l ⟨fun p hp=>?_,b2,yD b3,fun j o1 hj=>?_⟩ ha1 (by rw[(hwr v1).1];exact he) hTG ra g hd
 . have:=br.1 b1 p hp;split at this
   . rename_i k W;rw[W,aA this]
   . cases this
 . rcases vb ns 0 .nil Q hh1 j o1 hj with q|⟨i,m,o,q1,q2,q3,q4⟩
   . simp[J.get]at q
   . obtain rfl:j=i:=by omega
     exact⟨m,o,q2,q3,q4⟩
theorem Gq(v:V):(pO.ret v).val=v/\∀u,(pO.ret v).put u= .ret u:=⟨rfl,fun _=>rfl⟩
theorem YJ(v:V):(pO.nr v).val=v/\∀u,(pO.nr v).put u= .nr u:=⟨rfl,fun _=>rfl⟩
def ad7(kp:ag)(v:V):ag->J h2->Nat->Option (ah×V×J h2×Nat):=fun args h n=>some ([V.lA args=kp],v,h,n)
theorem Gr{kp:ag}{v:V}(eO:Nat.blt f P.funcs.size=true)(h:Rb P f kp v):Ra P f (ad7 kp v):=by
 refine⟨az eO,fun args h' n aj v' O n2 e hA E w dH ra g hd _=>?_⟩;simp only[ad7,aq,aF]at e;obtain⟨rfl,rfl,rfl,rfl⟩:=e;have e1:V.lA args=kp:=hA _ (by simp);exact h E _ _ w dH (e1▸tx _ _ ra) g hd
end
end Go.Eng
