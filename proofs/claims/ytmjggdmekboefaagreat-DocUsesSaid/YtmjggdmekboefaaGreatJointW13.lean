/- Lemmas of the engine. No conditions. -/
import Derived.Test.YtmjggdmekboefaaGreatJointW09
import Derived.Test.YtmjggdmekboefaaGreatJointW11
set_option linter.unusedVariables false
set_option linter.unusedSimpArgs false
set_option linter.unusedSectionVars false
namespace Go.Eng
open Go Go.RowKit
def AP(v:V)(ch:List PanicEntry):Prop:=v.free=true/\∃E v',dQ E v v'/\ch=[{ v:=v',recovered:=false }]
def Ng(P:Program)(N n0:Nat)(ops:Array Oper)(l:List Oper)(s:St)(h1:Exit->St->Prop):Prop:=
 ∀(E:Env) (a:Act) (w:World) (hc:Exit->Act->World->Prop),jT E n0 s a w->N<=s.n->
  (∀y A E' a' w',h1 y A->kK N E s.h w E' A.h w'->N<=A.n->jT E' n0 A a' w'->hc y a' w')->wpListIn (fz none) 0 P ops hc l a w
section
variable{P:Program}{cf:fL}{fr N n0:Nat}{c:Code}{s A:St}{h1 Q1:Exit->St->Prop}
theorem Lk{ops:Array Oper}{l:List Oper}{s2:St}(h:lO N n0 s s2)(ht:Ng P N n0 ops l s2 h1):Ng P N n0 ops l s h1:=fun E a w hc r hn k=>by
 obtain⟨o4,E2,r2,u2⟩:=h E a w r hn;exact ht E2 a w hc r2 o4 fun y A E' a' w' q u nV r'=>k y A E' a' w' q (u2.trans u) nV r'
theorem CM(lA:gq P cf){x:es}{y:Exit}{ops:Array Oper}{l:List Oper}(hd:∀o∈l,mU n0 o.dst)(e:jg P cf ops l s=some (x,A))(H:x.plain=some y)(hq:h1 y A):Ng P N n0 ops l s h1:=by
 intro E a w hc r hn k;refine lB (qU:=none) lA l s x A (.inl rfl) hd e E a w hc r fun E' a' w' x' u fq nV r' o6=>?_;have:x'=y:=by
  cases x<;>cases x'<;>simp only[GS,es.plain,aq,reduceCtorEq]at o6 H<;>first|exact H|(subst o6;exact H)
 subst this;exact k _ A E' a' w' hq (.of u fq hn) (bC hn nV) r'
theorem MJ(lA:gq P cf){v:V}{ops:Array Oper}{l:List Oper}(hd:∀o∈l,mU n0 o.dst)(e:jg P cf ops l s=some (.panic v,A))(hv:v.free=true)(hq:∀ch,AP v ch->h1 (.panic ch) A):Ng P N n0 ops l s h1:=by
 intro E a w hc r hn k;refine lB (qU:=none) lA l s _ A (.inl rfl) hd e E a w hc r fun E' a' w' x' u fq nV r' o6=>?_;cases x'<;>first|exact o6.elim|skip
 rename_i ch;obtain⟨v',Q,R⟩:=o6;exact k _ A E' a' w' (hq ch ⟨hv,E',v',Q,R⟩) (.of u fq hn) (bC hn nV) r'
theorem Qo(lA:gq P cf)(S:P.follows .mixedOrders=true){v:V}(K:eJ n0 c=true)(e:gv P cf fr c s=some (.panic v,A))(hv:v.free=true)(hq:∀ch,AP v ch->h1 (.panic ch) A):TG P N n0 c s h1:=by
 intro E a w hc r hn k;refine wpIn_wide (n:=0) |>.1 ?_;refine kV (qU:=none) lA S c s _ A (.inl rfl) K e E a w hc r fun E' a' w' x' u fq nV r' o6=>?_;cases x'<;>first|exact o6.elim|skip
 rename_i ch;obtain⟨v',Q,R⟩:=o6;exact k _ A E' a' w' (hq ch ⟨hv,E',v',Q,R⟩) (.of u fq hn) (bC hn nV) r'
def Qp(P:Program)(f:FuncId)(spec:ag->I O->Nat->Option (ah×V×I O×Nat)):Prop:=f<P.funcs.size/\∀args h n s' v h' n',spec args h n=some (s',v,h',n')->(∀a∈s',a)->
 ∀E w dF,dV E args dF->Good E h w->pH E n->callee P f=true->Calls P f dF.toArray w (iC E h n w (.ni v) h' n')
theorem Bg{o:Oper}{rest:List Oper}{ops:Array Oper}{f:FuncId}{args:ag}{spec:ag->I O->Nat->Option (ah×V×I O×Nat)}{s':ah}{v:V}{R:I O}{n2:Nat}(hd:∀x∈o::rest,mU n0 x.dst)(hg:o.guard=none)
  (oQ:dO P o s.F s.h s.n=some (.call f args)) (hO:Qp P f spec) (Da:spec args s.h s.n=some (s',v,R,n2)) (hA:∀a∈s',a) (hv:v.free=true) (hq:∀ch,AP v ch->h1 (.panic ch) { s with h:=R,n:=n2 }):Ng P N n0 ops (o::rest) s h1:=by
 let XO:fL:=fun f' a' h' n'=>@ite _ (f'=f/\a'=args/\h'=s.h/\n'=s.n) (Classical.propDecidable _) (some (.ni v,R,n2)) none
 have Y:gq P XO:=by
  intro f' a' h' n' rZ Q n1 e E w dF ra g hdm;simp only[XO]at e;split at e
  case isFalse=>cases e
  rename_i q;obtain⟨rfl,rfl,rfl,rfl⟩:=q;simp only[aq,aF]at e;obtain⟨rfl,rfl,rfl⟩:=e;exact⟨fun K=>hO.2 _ _ _ _ _ _ _ Da hA E w dF ra g hdm K,fun m l _ S _=>absurd hO.1 (by rw[S];exact Nat.not_lt.2 (Nat.le_add_right _ _))⟩
 refine MJ (A:={ s with h:=R,n:=n2 }) Y hd ?_ hv hq;have hw:fP ops o s.F=some true:=by unfold fP;rw[hg]
 have K:XO f args s.h s.n=some (.ni v,R,n2):=aE ⟨rfl,rfl,rfl,rfl⟩;simp only[jg,hw,oQ,K]
theorem FQ{o:Oper}{ops:Array Oper}{f:FuncId}{args:ag}{spec:ag->I O->Nat->Option (ah×V×I O×Nat)}{s':ah}{v:V}{R:I O}{n2:Nat}{F:I V}(hd:mU n0 o.dst)(hg:o.guard=none)
  (oQ:dO P o s.F s.h s.n=some (.call f args)) (hO:kE P f spec) (Da:spec args s.h s.n=some (s',v,R,n2)) (hA:∀a∈s',a) (hp:jn s.F o.dst v=some F) (hq:h1 .normal { s with F:=F,h:=R,n:=n2 }):Ng P N n0 ops [o] s h1:=by
 let XO:fL:=fun f' a' h' n'=>@ite _ (f'=f/\a'=args/\h'=s.h/\n'=s.n) (Classical.propDecidable _) (some (.ret v,R,n2)) none
 have Y:gq P XO:=by
  intro f' a' h' n' rZ Q n1 e E w dF ra g hdm;simp only[XO]at e;split at e
  case isFalse=>cases e
  rename_i q;obtain⟨rfl,rfl,rfl,rfl⟩:=q;simp only[aq,aF]at e;obtain⟨rfl,rfl,rfl⟩:=e;exact⟨fun K=>hO.2 _ _ _ _ _ _ _ Da hA E w dF ra g hdm K,fun m l _ S _=>absurd hO.1 (by rw[S];exact Nat.not_lt.2 (Nat.le_add_right _ _))⟩
 refine CM (x:=.normal) (A:={ s with F:=F,h:=R,n:=n2 }) Y (fun x H=>by rw[aG]at H;subst H;exact hd) ?_ rfl hq;have hw:fP ops o s.F=some true:=by unfold fP;rw[hg]
 have K:XO f args s.h s.n=some (.ret v,R,n2):=aE ⟨rfl,rfl,rfl,rfl⟩;simp only[jg,hw,oQ,K,hp]
def Dz(k:Nat):Code->Code
 | .region id ops true=>.region id (ops.pop.push Dx) true
 | .region id ops false=>.region id (ops.toList.take k).toArray false
 |c=>c
def ld(k:Nat):Code->List Oper
 | .region _ ops true=>ops.toList.drop (ops.size-1)
 | .region _ ops false=>ops.toList.drop k
 |_=>[]
def MK:Code->Array Oper
 | .region _ ops true=>(ops.toList.drop (ops.size-1)).toArray
 | .region _ ops false=>ops
 |_=>#[]
def DA(k:Nat):Code->Bool
 | .region id ops true=>Eh (.region id ops true)
 | .region _ ops false=>(ops.toList.take k).all fun o=>match o.guard with
   |some (j,_)=>Nat.blt j k
   |none=>true
 |_=>false
theorem wX{ops ops':Array Oper}:∀(l:List Oper) (s:St),(∀o∈l,∀F,fP ops o F=fP ops' o F)->jg P cf ops l s=jg P cf ops' l s
 | [],_,_=>rfl
 |o::l,s,h=>by
  have ih:=fun s=>wX l s fun o ho=>h o (bj _ ho);simp only[jg,h o (bz ..),ih]
theorem Ll(k:Nat)(lA:gq P cf)(S:P.follows .mixedOrders=true)(K:eJ n0 c=true)(hl:DA k c=true)(e:gv P cf fr (Dz k c) s=some (.normal,A))(h:Ng P N n0 (MK c) (ld k c) A h1):TG P N n0 c s h1:=by
 cases c<;>try (simp only[DA,aM]at hl;done)
 rename_i id ops Bw;cases Bw with
 |true=>
  refine K8 (c:=.region id ops true) lA S K hl e ?_;intro E a w hc r hn kk;have:=h E a w hc r hn kk;simpa only[yg,MK,ld]using this
 |false=>
  intro E a w hc r hn kk;simp only[eJ,ay,aM,cr,and_true]at K;simp only[DA]at hl;have EU:∀o∈ops.toList,mU n0 o.dst:=by
   intro o ho d hd;have:=bq.1 K o ho;rw[hd]at this;exact aW this
  refine(wpIn_wide (n:=0)).1 (wpIn_region_list (F:=fz none) ?_);show wpListIn (fz none) 0 P _ _ ops.toList a w;rw[<- List.take_append_drop k ops.toList];refine s8 _ ?_;simp only[Dz,gv]at e;rw[wX (ops':=ops)]at e
  . refine lB (qU:=none) lA _ s .normal A (.inl rfl) (fun o ho=>EU o (cB ho)) e E a w _ r ?_;intro E' a' w' x' u fq nV r' o6;cases x'<;>first|exact o6.elim|skip
    have dH:=kK.of u fq hn;exact h E' a' w' _ r' (bC hn nV) fun y s2 E2 a2 w2 q u2 o4 r2=>kk y s2 E2 a2 w2 q (dH.trans u2) o4 r2
  . intro o ho F;have hg:=bq.1 hl o ho;unfold fP;cases hq:o.guard with
    |none=>rfl
    |some q=>
     obtain⟨j,Ex⟩:=q;rw[hq]at hg;have hj:j<k:=az hg;have:(ops.toList.take k).toArray[j]? =ops[j]?:=by
      rw[List.getElem?_toArray,bN,aE hj,bJ]
     simp only[this]
theorem Bh(k:Nat)(X1:CX P)(S:P.follows .mixedOrders=true)(K:eJ n0 c=true)(hl:DA k c=true){hx:List (Nat×lI)}{fn:Func}{live:List Nat}{iX:ag}{di:List (List (Bool×Bool)×ah×jD)}
  (hr:dh P X1.T hx fr N fn live (Dz k c) s iX di) (h:∀g∈di,(∀b∈g.1,b.1=b.2)->(∀a∈g.2.1,a)/\∃s1,g.2.2= .to .normal s1/\Ng P N n0 (MK c) (ld k c) s1 h1):TG P N n0 c s h1:=by
 obtain⟨g,hg,ho,s1,A,pG,De,he⟩:=Bf hr fun g hg ho=>by
  obtain⟨Q,s1,R,_⟩:=h g hg ho;exact⟨Q,s1,R⟩
 obtain⟨_,s1',e1,ht⟩:=h g hg ho;rw[pG]at e1;cases e1;exact Ll k X1.ok S K hl he (Lk (lO.norm De) ht)
end
def pn.val:pn->V
 | .ret v=>v
 | .ni v=>v
def pn.put:pn->V->pn
 | .ret _,v=>.ret v
 | .ni _,v=>.ni v
section
variable(P:Program)(N:Nat)(fn:Func)(s:St)
def Nh(m:Mode):Option (pn×I O×Nat):=match mK P (fun _ _ _ _=>none) 20 fn s.F s.gZ m s.h s.n with
 |some (o,h,n)=>match kW N [0] { F:=I.nil.set 0 (some o.val),h:=h,n:=n,gZ:=[] }with
  |some s2=>match s2.F.get 0 with
   |some v2=>some (o.put v2,s2.h,s2.n)
   |none=>none
  |none=>none
 |none=>none
def amP:Exit->Mode->Prop
 | .normal,.ret=>True
 | .ret,.ret=>True
 | .panic ch,.ni v false=>AP v ch
 |_,_=>False
def FR(h2:pn->I O->Nat->Prop)(y:Exit)(s:St):Prop:=∃m,amP y m/\∃o h n,Nh P N fn s m=some (o,h,n)/\h2 o h n
end
section
variable{P:Program}{f:FuncId}{N:Nat}
theorem FR.XP{fn:Func}{h2:pn->I O->Nat->Prop}{y:Exit}{s:St}(h:fD P N fn (fun v h n=>h2 (.ret v) h n) y s):FR P N fn h2 y s:=by
 obtain⟨hy,v,h',n',hr,hR⟩:=h;obtain⟨v1,Q,n1,s2,k1,k2,k3,k4,k5⟩:=D4 hr;refine⟨.ret,?_,.ret v,h',n',?_,hR⟩
 . rcases hy with rfl|rfl<;>trivial
 . unfold Nh;rw[rO k1];simp only[pn.val];rw[k2];simp only;rw[k3,k4,k5];rfl
theorem FR.CN{fn:Func}{h2:pn->I O->Nat->Prop}{ch:List PanicEntry}{s:St}{v:V}{o:pn}{h:I O}{n:Nat}(hp:AP v ch)(e:Nh P N fn s (.ni v false)=some (o,h,n))(hR:h2 o h n):FR P N fn h2 (.panic ch) s:=⟨.ni v false,hp,o,h,n,e,hR⟩
theorem Em{E:Env}{h:I O}{n:Nat}{w:World}{o:pn}{h':I O}{n':Nat}{en:Ending}{w':World}(c:iC E h n w o h' n' en w'):∃v',iC E h n w (.ret o.val) h' n' (.returned v') w'/\∀(E2:Env) (R DL:I O) (m m':Nat) (v2:V),iC E2 R m w (.ret v2) DL m' (.returned v') w'->iC E2 R m w (o.put v2) DL m' en w':=by
 obtain⟨E1,u,Q,R,h3,ho⟩:=c;cases o with
 |ret v=>
  cases en with
  |returned v'=>exact⟨v',⟨E1,u,Q,R,h3,ho⟩,fun _ _ _ _ _ _ c=>c⟩
  |_=>exact ho.elim
 |ni v=>
  cases en with
  |panicked ch=>
   obtain⟨v',q1,rfl⟩:=ho;exact⟨v',⟨E1,u,Q,R,h3,q1⟩,fun _ _ _ _ _ _ ⟨E2,u2,k1,k2,k3,k4⟩=>⟨E2,u2,k1,k2,k3,v',k4,rfl⟩⟩
  |_=>exact ho.elim
theorem yo(S:P.follows .mixedOrders=true)(r9:jC P=true){f:FuncId}{fn:Func}{code:Code}(hf:P.funcs[f]? =some fn)(hb:fn.body=some code){args:ag}{h:I O}{N:Nat}
  (l:(Nat.ble args.length fn.ntmps&&Nat.blt fn.ntmps fV)=true) (h2:pn->I O->Nat->Prop) (hT:TG P N fn.ntmps code (dw args h N) (FR P N fn h2))
  {E:Env} {w:World} {dF:List Value} (ra:dV E args dF) (g:Good E h w) (hd:pH E N):
  Calls P f dF.toArray w fun e w'=>∃o h' n',h2 o h' n'/\iC E h N w o h' n' e w':=by
 simp only[ay]at l;obtain⟨vb,mg⟩:=nM (n:=fn.ntmps) ra (az l.1) (az l.2);refine callsIn_wide.1 (callsIn_of_wp_marks (n:=0) hf hb trivial (wpIn_wide.2 ?_));refine hT E _ w _ ⟨g,hd,vb,mg,rfl⟩ (aK _) fun y A E' a' w' ⟨m,hy,o,h',n',hr,hR⟩ u nV r'=>?_;unfold Nh at hr;split at hr
 case h_2=>cases hr
 rename_i o1 Q n1 k1;split at hr
 case h_2=>cases hr
 rename_i s2 k2;split at hr
 case h_2=>cases hr
 rename_i v2 k3;simp only[aq,aF]at hr;obtain⟨rfl,rfl,rfl⟩:=hr;have key:∀md,Dm E' m md->LeavesInM Fence.wide 0 P fn a'.tmps (fun e w'=>∃o h' n',h2 o h' n'/\iC E h N w o h' n' e w') a'.defers md w':=by
  intro md rm;refine oa (cf:=fun _ _ _ _=>none) (fr:=20) (fun _ _ _ _ _ _ _ e=>by cases e) S r9 A.gZ m A.h A.n _ Q n1 k1 E' w' a'.defers md _ r'.good r'.qd r'.F r'.gZ rm fun E2 w2 en u2 rI BZ o4 ho=>?_;have u3:=u.trans (kK.of u2 rI nV);have pJ:∀v',dQ E2 o1.val v'->∃E3,iL E h w E3 s2.h w2/\(∀m,m<N->E3.ι m=E.ι m)/\pH E3 s2.n/\N<=s2.n/\dQ E3 v2 v':=by
   intro v' ZQ;have sr:jT E2 1 { F:=I.nil.set 0 (some o1.val),h:=Q,n:=n1,gZ:=[] } { tmps:=#[v'],defers:=[] } w2:=by
    refine⟨u3.good,BZ,fun t v hv=>?_,rfl,rfl⟩;rw[I.fF _ _ _ fa]at hv;split at hv
    . rename_i q;subst q;cases hv;exact⟨v',rfl,ZQ⟩
    . simp[I.get]at hv
   obtain⟨_,Iu,E3,r3,u4⟩:=od k2 sr;have u5:=(u3.trans u4).tA hd;obtain⟨v'',q1,q2⟩:=r3.F 0 v2 k3;simp only[List.getElem?_toArray,cG,aq]at q1;subst q1;exact⟨E3,u5,(u3.trans u4).low,r3.qd,Iu,q2⟩
  cases o1 with
  |ret v=>
   cases en with
   |returned v'=>
    obtain⟨E3,q1,q2,q3,q4,q5⟩:=pJ v' ho;exact⟨_,_,_,hR,E3,q1,q2,q3,q4,q5⟩
   |_=>exact ho.elim
  |ni v=>
   cases en with
   |panicked ch=>
    obtain⟨v',ho,rfl⟩:=ho;obtain⟨E3,q1,q2,q3,q4,q5⟩:=pJ v' ho;exact⟨_,_,_,hR,E3,q1,q2,q3,q4,v',q5,rfl⟩
   |_=>exact ho.elim
 cases y<;>cases m<;>first|exact hy.elim|skip
 . exact key .returning trivial
 . exact key .returning trivial
 . rename_i ch _ v b;cases b with
   |true=>exact hy.elim
   |false=>
    obtain⟨hv,E0,v',q1,q2⟩:=hy;exact key (.panicking ch) ⟨v',uy _ _ hv q1,q2⟩
def Qq(P:Program)(f:FuncId)(args:ag)(v:V):Prop:=∀E h n w dF,dV E args dF->Good E h w->pH E n->Calls P f dF.toArray w (iC E h n w (.ni v) h n)
theorem Qr(S:P.follows .mixedOrders=true)(r9:jC P=true){f:FuncId}{fn:Func}{code:Code}(hf:P.funcs[f]? =some fn)(hb:fn.body=some code){args:ag}
  (l:(Nat.ble args.length fn.ntmps&&Nat.blt fn.ntmps fV)=true) {o:pn} (Sc:V.pX args=true) (hv:o.val.free=true) (hT:TG P gN fn.ntmps code (dw args .nil gN) (FR P gN fn fun a _ _=>a=o)):
  ∀E h n w dF,dV E args dF->Good E h w->pH E n->Calls P f dF.toArray w (iC E h n w o h n):=by
 intro E h n w dF ra g hd;have g0:Good (AW E.φ) .nil w:=wA g.wg g.fz;have ra0:dV (AW E.φ) args dF:=lD (E:=E) (E':=AW E.φ) (fun _ _ q=>q) _ _ Sc ra;refine(yo S r9 hf hb l _ hT ra0 g0 (B6 (aK _))).mono fun e w' ⟨o',h',n',hz,k⟩=>?_;subst hz;obtain⟨v',q1,q2⟩:=Em k;obtain⟨ho,b⟩:=qx wG q1;have:=q2 E h h n n o'.val (uD g hd hv ho b);cases o'<;>exact this
theorem J7(S:P.follows .mixedOrders=true)(r9:jC P=true){f:FuncId}{fn:Func}{code:Code}(hf:P.funcs[f]? =some fn)(hb:fn.body=some code){args rP:ag}{ns:List (Option Nat)}{h Q R ot:I O}{n n2 Jo:Nat}{v:V}{o:pn}
  (l:(Nat.ble rP.length fn.ntmps&&Nat.blt fn.ntmps fV)=true) (k:Fg ns h Q) (ka:V.Jb (mu ns) args=some rP) (he:OE ns Q (o.val,ot,Jo) h n=some (v,R,n2))
  (hT:TG P ns.length fn.ntmps code (dw rP Q ns.length) (FR P ns.length fn fun a b c=>a=o/\b=ot/\c=Jo))
  {E:Env} {w:World} {dF:List Value} (ra:dV E args dF) (g:Good E h w) (hd:pH E n):Calls P f dF.toArray w (iC E h n w (o.put v) R n2):=by
 obtain⟨g1,d1⟩:=KP g k;have ra1:dV (E.pick ns) rP dF:=sO (E':=E.pick ns) OD (fun _ _ _ _ _ _=>rfl) (fun _ _ q=>q) _ _ _ ka ra;refine(yo S r9 hf hb l _ hT ra1 g1 d1).mono fun en w' ⟨o',h',n',⟨q1,q2,q3⟩,c⟩=>?_;subst q1;subst q2;subst q3;obtain⟨v',k1,k2⟩:=Em c;exact k2 _ _ _ _ _ _ (KQ g hd k he k1)
theorem Tn(S:P.follows .mixedOrders=true)(r9:jC P=true){f:FuncId}{fn:Func}{code:Code}{sp:ag->I O->Nat->Option (ah×V×I O×Nat)}(wr:V->pn)(Zf:∀v,(wr v).val=v/\∀u,(wr v).put u=wr u)(eM:f<P.funcs.size)(hf:P.funcs[f]? =some fn)(hb:fn.body=some code)
  (hT:∀args h k s' v h' k',sp args h k=some (s',v,h',k')->(∀a∈s',a)->(Nat.ble args.length fn.ntmps&&Nat.blt fn.ntmps fV)=true/\TG P k fn.ntmps code (dw args h k) (FR P k fn fun a b c=>a=wr v/\b=h'/\c=k')):f<P.funcs.size/\∀args h n s' v h' n',wT sp args h n=some (s',v,h',n')->(∀a∈s',a)->
 ∀E w dF,dV E args dF->Good E h w->pH E n->callee P f=true->Calls P f dF.toArray w (iC E h n w (wr v) h' n'):=by
 refine⟨eM,fun args h n s' v R n2 e hA E w dF ra g hd K=>?_⟩;unfold wT at e;split at e
 case h_2=>cases e
 rename_i ns Iq;split at e
 case h_2=>cases e
 rename_i Zd;split at e
 case h_2=>cases e
 rename_i rP Q ha1 hh1;split at e
 case h_2=>cases e
 rename_i A1 v1 ot Jo Da;split at e
 case h_2=>cases e
 rename_i v3 h3 n3 he;simp only[aq,aF]at e;obtain⟨rfl,rfl,rfl,rfl⟩:=e;simp only[ay]at Zd;obtain⟨b1,b2,b3⟩:=Zd;obtain⟨l,hTG⟩:=hT _ _ _ _ _ _ _ Da hA;rw[<- (Zf v1).2 v3];refine J7 S r9 hf hb l ⟨fun p hp=>?_,b2,yj b3,fun j o1 hj=>?_⟩ ha1 (by rw[(Zf v1).1];exact he) hTG ra g hd
 . have:=bq.1 b1 p hp;split at this
   . rename_i k Y;rw[Y,aA this]
   . cases this
 . rcases uQ ns 0 .nil Q hh1 j o1 hj with q|⟨i,m,o,q1,q2,q3,q4⟩
   . simp[I.get]at q
   . obtain rfl:j=i:=by omega
     exact⟨m,o,q2,q3,q4⟩
theorem J8(v:V):(pn.ret v).val=v/\∀u,(pn.ret v).put u= .ret u:=⟨rfl,fun _=>rfl⟩
theorem XQ(v:V):(pn.ni v).val=v/\∀u,(pn.ni v).put u= .ni u:=⟨rfl,fun _=>rfl⟩
def ac7(kM:ag)(v:V):ag->I O->Nat->Option (ah×V×I O×Nat):=fun args h n=>some ([V.lE args=kM],v,h,n)
theorem FT{kM:ag}{v:V}(eM:Nat.blt f P.funcs.size=true)(h:Qq P f kM v):Qp P f (ac7 kM v):=by
 refine⟨az eM,fun args h' n s' v' R n2 e hA E w dF ra g hd _=>?_⟩;simp only[ac7,aq,aF]at e;obtain⟨rfl,rfl,rfl,rfl⟩:=e;have e1:V.lE args=kM:=hA _ (by simp);exact h E _ _ w dF (e1▸s9 _ _ ra) g hd
end
end Go.Eng
