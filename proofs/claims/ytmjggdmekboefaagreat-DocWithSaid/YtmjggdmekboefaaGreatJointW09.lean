/- Lemmas of the engine. No conditions. -/
import Derived.Test.YtmjggdmekboefaaGreatJointW04
set_option linter.unusedVariables false
set_option linter.unusedSimpArgs false
set_option linter.unusedSectionVars false
namespace Go.Eng
open Go Go.RowKit
section
variable{P:Program}{cf:gm}{ops:Array Oper}{X hc ig:Nat}{h0:I es}{lp:I V}{val:Nat->V}{ee:List uw}{d:Dr}{E0:Env}{w0:World}{yc:List Deferred}
variable{Q:Exit->Act->World->Prop}{rC:Option Nat}
theorem KM{fj:Array Bool}(h:∀i,i<ops.size->fj.getD i true=true):Region.ready .any ops fj=[]:=by
 rw[List.eq_nil_iff_forall_not_mem];intro j hj;obtain⟨h1,o,ho,_⟩:=mem_ready.1 hj;rw[h j (aU.1 ho).1]at h1;cases h1
theorem KN(lK:gY P cf)(hr:lD ops hc)(hl:ig+1=ops.size)(f:mH P cf ops X h0 lp val ee ig d)(ht:∀y∈d.dH,X+y.1<gy)
  (hP:∀dy ms hx E a w o,Inv ops X hc ig h0 lp val ee d.dH E0 w0 yc dy ms hx E a w->ops[ig]? =some o->
   (∀e∈o.after,Region.binds .any e=true->dy e.on=true)->dy ig=false->(∀i,i<ig->dy i=true)/\∀hm:Act->World->Prop,(∀a w,Q .normal a w->hm a w)->wpOpIn (fz rC) 0 P ops Q ig hm a w):
  ∀(fuel:Nat) (fj:Array Bool) (ms hx:Nat) (E:Env) (a:Act) (w:World),fj.size=ops.size->LB ops.size fj<=fuel->
   Inv ops X hc ig h0 lp val ee d.dH E0 w0 yc (fun i=>fj.getD i false) ms hx E a w->wpAnyIn (fz rC) 0 P .any ops Q fuel fj a w:=by
 have done:∀(fj:Array Bool) (ms hx:Nat) (E:Env) (a:Act) (w:World),fj.size=ops.size->Inv ops X hc ig h0 lp val ee d.dH E0 w0 yc (fun i=>fj.getD i false) ms hx E a w->
   Region.ready .any ops fj=[]->Q .normal a w:=by
  intro fj ms hx E a w hs Tr tf;have all:∀i,i<ops.size->fj.getD i false=true:=by
   intro i
   induction i using Nat.strongRecOn with
   |_ i ih=>
    intro hi;cases q:fj.getD i false with
    |true=>rfl
    |false=>
     exfalso;have ho:ops[i]? =some ops[i]:=aY hi;have:i∈Region.ready .any ops fj:=mem_ready.2 ⟨by
      rw[bK,aY S]at q ⊢;exact q,ops[i],ho,fun e he Y=>by
      have:=hr.wm i _ ho e he Y;exact ih e.on this S⟩
     rw[tf]at this;simp at this
  have:=Tr.O8 ig (all ig S);omega
 intro fuel
 induction fuel with
 |zero=>
  intro fj ms hx E a w hs hu Tr;have tf:Region.ready .any ops fj=[]:=by
   rw[List.eq_nil_iff_forall_not_mem];intro j hj;obtain⟨h1,o,ho,_⟩:=mem_ready.1 hj;have VL:=(aU.1 ho).1;have hz:LB ops.size fj=0:=by omega
   unfold LB at hz;have:=cF.2 hz;have K:j∈(List.range ops.size).filter fun i=>!fj.getD i false:=List.mem_filter.2 ⟨bN.2 VL,by
    rw[bK,aY S]at h1 ⊢;simp at h1;simp[h1]⟩
   rw[this]at K;simp at K
  exact⟨tf,done fj ms hx E a w hs Tr tf⟩
 |succ fuel ih=>
  intro fj ms hx E a w hs hu Tr;refine⟨done fj ms hx E a w hs Tr,fun j hj=>?_⟩;obtain⟨h1,o,ho,hd⟩:=mem_ready.1 hj;have VL:=(aU.1 ho).1;have xC:fj.getD j false=false:=by
   rw[bK,aY S]at h1 ⊢;exact h1
  by_cases Oi:j<ig
  . refine Tr.step lK hr S f ht ho Oi xC hd fun J' E' a' w' I'=>?_;refine ih _ (ms|||2^j) J' E' a' w' (by simp;exact hs) ?_ ?_
    . have:LB ops.size (fj.setIfInBounds j true)<LB ops.size fj:=by
       refine filter_lt (x:=j) (bN.2 VL) (by rw[xC];rfl) (by rw[nW S];simp) fun y hy=>?_;rw[nW S]at hy;simp at hy ⊢;exact hy.1
      omega
    . have:(fun i=>(fj.setIfInBounds j true).getD i false)=fun i=>(fj.getD i false||decide (i=j)):=funext fun i=>nW S i;rw[this];exact I'
  . have:j=ig:=by omega
    subst this;obtain⟨p1,p2⟩:=hP _ ms hx E a w o Tr ho hd xC;refine p2 _ fun a' w' hq=>?_;have hn:Region.ready .any ops (fj.setIfInBounds j true)=[]:=KM fun i hi=>by
     have:(fj.setIfInBounds j true).getD i false=true:=by
      rw[nW S];by_cases e:i=j
      . simp[e]
      . rw[p1 i S];rfl
     rw[bK,aY (by simp;omega)]at this ⊢;exact this
    cases fuel with
    |zero=>exact⟨hn,hq⟩
    |succ fuel=>exact⟨fun _=>hq,fun j hj=>by rw[hn]at hj;cases hj⟩
theorem Ag(hr:lD ops hc):∀(l:List Oper) (i:Nat) (d d':Dr) (val:Nat->V) (ee:List uw) (r:List Oper),l++r=ops.toList.drop i->mH P cf ops X h0 lp val ee i d->iV P cf ops X l i d=some (.inl d')->
  ∃iG p8,mH P cf ops X h0 lp iG p8 (i+l.length) d'
 | [],i,d,d',val,ee,_,_,f,e=>by
   simp only[iV,aq,Sum.inl.injEq]at e;subst e;exact⟨val,ee,f⟩
 |o::l,i,d,d',val,ee,r,hl,f,e=>by
  have ho:ops[i]? =some o:=by
   have:=aI (fun x=>x[0]?) hl;simp at this;exact this.symm
  have hl':l++r=ops.toList.drop (i+1):=by
   have:=aI List.tail hl;simpa using this
  simp only[iV]at e;split at e
  . rename_i R hs;obtain⟨iG,p8,f'⟩:=Cx hr ho f hs;obtain⟨v2,e2,f2⟩:=Ag hr l (i+1) R d' iG p8 r hl' f' e;exact⟨v2,e2,by rw[aR,show i+(l.length+1)=i+1+l.length by omega];exact f2⟩
  . rename_i x J;exact absurd e (J d')
end
theorem Q8{rC:Option Nat}{P:Program}{cf:gm}{ops:Array Oper}{hc id ig:Nat}{s:St}{d:Dr}{o:Oper}{E0:Env}{a0:Act}{w0:World}{Q:Exit->Act->World->Prop}(lK:gY P cf)(hr:lD ops hc)(K:P.follows .mixedOrders=true)
  (mP:ig+1=ops.size) (ho:ops[ig]? =some o) (SH:o.guard=none) (gX:s.n+ops.size<gy) (Y:gT ops ig+1=2^ig)
  (e:iV P cf ops s.n (ops.toList.take ig) 0 { T:=s.T,eS:=[],cur:=(0,s.h),oo:=[],last:=none,dH:=[],reads:=[],n:=s.n+ops.size }=some (.inl d)) (g:Good E0 s.h w0) (hd:qy E0 s.n) (hf:wQ E0 s.T a0) (hN:a0.tmps.size=hc)
  (hq:∀E' a' w' (hm:Act->World->Prop),jf E0 s.h w0 E' (gO s.n d.dH d.cur.1 d.cur.2 (2^ig-1)) w'->(∀k,k<s.n->E'.ι k=E0.ι k)->qy E' d.n->s.n<=d.n->wQ E' d.T a'->a'.tmps.size=hc->a'.defers=a0.defers->(∀a w,Q .normal a w->hm a w)->o.wpIn (fz rC) 0 P a' w' hm Q):
  (Code.region id ops true).wpIn (fz rC) 0 P Q a0 w0:=by
 refine wpIn_region_any K ?_;have Pa:=wW (P:=P) (cf:=cf) (ops:=ops) (X:=s.n) s.T s.h;have start:∀(ig:Nat) (val:Nat->V) (ee:List uw) (dH:af),Inv ops s.n hc ig s.h s.T val ee dH E0 w0 a0.defers (fun i=>(Array.replicate ops.size false).getD i false) 0 0 E0 a0 { w0 with drawn:=w0.drawn+1 }:=by
  intro ig val ee dH;have hS:∀i,(Array.replicate ops.size false).getD i false=false:=by
   intro i;rw[bK];by_cases q:i<ops.size
   . rw[aY (by simpa using q)];simp
   . rw[Array.getElem?_eq_none (by simpa using q)];rfl
  have O3:∀k,(gO s.n dH (eT s.h (s.n+ops.size) ee 0).1 (eT s.h (s.n+ops.size) ee 0).2.1 0).get k=s.h.get k:=by
   intro k;have:∀l:af,gO s.n l (eT s.h (s.n+ops.size) ee 0).1 (eT s.h (s.n+ops.size) ee 0).2.1 0=s.h:=by
    intro l
    induction l with
    |nil=>rfl
    |cons y l ih=>obtain⟨i,b⟩:=y;simp only[gO,jn,aQ,aM,cA];exact ih
   rw[this]
  refine⟨fun i=>by rw[jn,hS],fun i hi=>?_,fun j o hj=>?_,fun c e' _=>?_,aN _,fun j o t hj=>?_,fun t v hv _=>hf t v hv,(jf.drew g).ext O3,fun _ _=>rfl,fun k p hp=>?_,fun i _ _=>?_,aK _,hN,rfl⟩
  . rw[hS]at hi;cases hi
  . rw[hS]at hj;cases hj
  . rw[hS];constructor
    . intro q;cases q
    . intro q;omega
  . rw[hS]at hj;cases hj
  . by_cases q:k<s.n
    . exact .inl q
    . rw[hd k S]at hp;cases hp
  . show s.h.get (s.n+i)=none;cases q:s.h.get (s.n+i)with
    |none=>rfl
    |some o=>
     obtain⟨b,t,h1,_⟩:=g.rel _ _ q;rw[hd _ S]at h1;cases h1
 have hu0:LB ops.size (Array.replicate ops.size false)<=ops.size:=by
  unfold LB;exact bH (List.length_filter_le _ _) (by simp)
 obtain⟨val,ee,f⟩:=Ag (hc:=hc) hr _ 0 _ _ _ _ (ops.toList.drop ig) (by simp) Pa e;rw[show 0+(ops.toList.take ig).length=ig by simp;omega]at f;have ht:∀y∈d.dH,s.n+y.1<gy:=fun y hy=>by have:=f.dH y hy;omega
 refine KN lK hr mP f ht (fun dy ms hx E a w o' Tr Fv H6 hSl=>?_) ops.size _ 0 0 E0 a0 _ (by simp) hu0 (start ig val ee d.dH);rw[ho]at Fv;cases Fv;have HZ:∀i,i<ig->eN (gT ops ig) i=true:=fun i hi=>by
  have:gT ops ig=2^ig-1:=by omega
  rw[this];unfold eN;rw[c5];simpa using hi
 have wX:∀i,i<ig->dy i=true:=fun i hi=>rU hr Tr.closed ho H6 (HZ i hi);refine⟨wX,fun hm hK=>?_⟩;have hJ:hx=ee.length:=by
  have h1:=Tr.Jle;by_cases q:hx<ee.length
  . have he:ee[hx]? =some ee[hx]:=au q;have:=(Tr.DY hx _ he).1 (wX _ (f.tS hx _ he).1);omega
  . omega
 have ec1:d.cur.1=(eT s.h (s.n+ops.size) ee hx).1:=by rw[hJ,f.cur]
 have ec2:d.cur.2=(eT s.h (s.n+ops.size) ee hx).2.1:=by rw[hJ,f.cur]
 have en:d.n=(eT s.h (s.n+ops.size) ee hx).2.2:=by rw[hJ,f.n]
 unfold wpOpIn;simp only[ho];rw[aD (by unfold Region.wanted;rw[SH])];refine hq E a w hm ?_ Tr.old ?_ ?_ ?_ Tr.size Tr.iE hK
 . refine Tr.Cl.ext fun k=>?_;simp only[ec1,ec2];have Pb:∀i,i<ig->eN (2^ig-1) i=true:=fun i hi=>by
    unfold eN;rw[c5];simpa using hi
   rcases jg (X:=s.n) (x:=(eT s.h (s.n+ops.size) ee hx).2.1) (m:=(eT s.h (s.n+ops.size) ee hx).1) (iF:=2^ig-1) ht f.one k with⟨i,b,k1,k2,k3,k4,k5⟩|⟨k1,k2⟩
   . subst k4;rw[k5,ju ht f.one k1 (by rw[Tr.bits];exact wX i (f.dH _ k1)) k3]
   . rw[k2,nV ht fun i b q1 q2 q3=>k1 i b q1 (Pb i (f.dH _ q1)) q3]
 . rw[en];exact Tr.S5 S
 . rw[en];have:=Tr.DI;omega
 . intro t v hv;by_cases q:∃j o,j<ig/\ops[j]? =some o/\o.dst=some t
   . obtain⟨j,o2,q1,q2,q3⟩:=q;have:=f.T.new j o2 t q1 q2 q3;rw[this]at hv;cases hv;exact Tr.f1 j o2 t (wX j q1) q2 q3
   . have:=f.T.old t fun i o hi ho LA=>q ⟨i,o,hi,ho,LA⟩;rw[this]at hv;exact Tr.f2 t v hv fun j o hj ho LA=>q ⟨j,o,Tr.O8 j hj,ho,LA⟩
def D9:Oper:={ dst:=none,op:=.move (.func 0),type:=0,pos:= "",after:=#[],guard:=none }
def Ui:Code->Code
 | .region id ops true=>.region id (ops.pop.push D9) true
 |c=>c
def yG:Code->List Oper
 | .region _ ops true=>ops.toList.drop (ops.size-1)
 |_=>[]
def IZ(c:Code):Code:=.region 0 (yG c).toArray false
def EY:Code->Bool
 | .region _ ops true=>Nat.blt 0 ops.size&&(Nat.beq (gT ops (ops.size-1)+1) (2^(ops.size-1))&&((ops.toList.all fun o=>match o.guard with|some (j,_)=>!Nat.beq j (ops.size-1)|none=>true)&&(ops.toList.drop (ops.size-1)).all fun o=>o.guard.isNone))
 |_=>false
def TGl(P:Program)(X hc:Nat)(ops:Array Oper)(s:St)(Q:Exit->St->Prop):Prop:=
 ∀(E:Env) (a:Act) (w:World) (hm:Exit->Act->World->Prop),lq E hc s a w->X<=s.n->
  (∀y R E' a' w',Q y R->nk X E s.h w E' R.h w'->X<=R.n->lq E' hc R a' w'->hm y a' w')->wpListIn (fz none) 0 P ops hm ops.toList a w
section
variable{P:Program}{cf:gm}{iX X hc:Nat}{c:Code}{s R:St}{Q Q1:Exit->St->Prop}
theorem Q9(lK:gY P cf){x:n0}{y:Exit}{ops:Array Oper}(hd:∀o∈ops.toList,ng hc o.dst)(e:jr P cf ops ops.toList s=some (x,R))(J:x.plain=some y)(hq:Q y R):TGl P X hc ops s Q:=by
 intro E a w hm r hn k;refine lM (rC:=none) lK ops.toList s x R (.inl rfl) hd e E a w hm r fun E' a' w' x' u fT od r' pE=>?_;have:x'=y:=by
  cases x<;>cases x'<;>simp only[HY,n0.plain,aq,reduceCtorEq]at pE J<;>first|exact J|(subst pE;exact J)
 subst this;exact k _ R E' a' w' hq (.of u fT hn) (bH hn od) r'
theorem Uj{ops:Array Oper}{s2:St}(h:lY X hc s s2)(ht:TGl P X hc ops s2 Q):TGl P X hc ops s Q:=fun E a w hm r hn k=>by
 obtain⟨qX,E2,r2,u2⟩:=h E a w r hn;exact ht E2 a w hm r2 qX fun y R E' a' w' q u od r'=>k y R E' a' w' q (u2.trans u) od r'
theorem AU{ops:Array Oper}{m:Nat}:∀(l r:List Oper) (i:Nat) (d d':Dr),iV P cf ops m (l++r) i d=some (.inl d')->∃d1,iV P cf ops m l i d=some (.inl d1)/\iV P cf ops m r (i+l.length) d1=some (.inl d')
 | [],r,i,d,d',e=>⟨d,rfl,e⟩
 |o::l,r,i,d,d',e=>by
  simp only[List.cons_append,iV]at e ⊢;cases h:lV P cf ops m i o d with
  |none=>rw[h]at e;cases e
  |some q=>
   rw[h]at e;cases q with
   |inl d1=>
    simp only at e ⊢;obtain⟨d2,h1,C⟩:=AU l r (i+1) d1 d' e;exact⟨d2,h1,by rw[aR,show i+(l.length+1)=i+1+l.length by omega];exact C⟩
   |inr x=>simp only at e;cases e
theorem AV{ops ops':Array Oper}(hs:ops.size=ops'.size){m:Nat}:∀(l:List Oper) (i:Nat) (d:Dr),(∀o∈l,∀T,gd ops o T=gd ops' o T)->iV P cf ops m l i d=iV P cf ops' m l i d
 | [],_,_,_=>rfl
 |o::l,i,d,h=>by
  have e:lV P cf ops m i o d=lV P cf ops' m i o d:=by
   unfold lV;rw[h o (bw ..),hs]
  simp only[iV];rw[e];cases lV P cf ops' m i o d with
  |none=>rfl
  |some q=>
   cases q with
   |inl d1=>exact AV hs l (i+1) d1 fun o ho=>h o (aZ _ ho)
   |inr x=>rfl
theorem Dm{m:Nat}{x:I es}{k a b:Nat}:∀(l:af),(∀y∈l,eN a y.1=eN b y.1)->gO m l k x a=gO m l k x b
 | [],_=>rfl
 |(i,o)::l,h=>by
  simp only[gO];rw[h _ (bw ..),Dm l fun y hy=>h y (aZ _ hy)]
theorem KO{ops:Array Oper}{m i:Nat}{d d':Dr}(e:lV P cf ops m i D9 d=some (.inl d')):d'.T=d.T/\d'.cur=d.cur/\d'.dH=d.dH/\d'.n=d.n:=by
 unfold lV at e;simp only[gd,D9,pN,aM,cA,eA,jc,kB,jB,Nat.beq_refl,if_true,oJ,aq,Sum.inl.injEq]at e;subst e;exact⟨rfl,rfl,rfl,rfl⟩
theorem L5(lK:gY P cf)(K:P.follows .mixedOrders=true)(N:eV hc c=true)(hl:EY c=true)(e:gH P cf iX (Ui c) s=some (.normal,R))(h:TGl P X hc (yG c).toArray R Q):TG P X hc c s Q:=by
 cases c<;>try (simp only[EY,aM]at hl;done)
 rename_i id ops B4;cases B4 with
 |false=>simp only[EY,aM]at hl
 |true=>
 simp only[EY,ay]at hl;obtain⟨h1,C,h3,h4⟩:=hl;have h1:0<ops.size:=cG Nat.zero_lt_one (aE h1);have C:=aJ C;obtain⟨ig,mP⟩:∃ig,ig+1=ops.size:=⟨ops.size-1,S⟩;have FH:ops.size-1=ig:=by omega
 rw[FH]at C h3 h4;have eY:ig<ops.size:=by omega
 have ho:ops[ig]? =some ops[ig]:=aY eY;have HE:ops.toList.drop ig=[ops[ig]]:=by
  rw[bz (by simpa using eY),List.drop_eq_nil_of_le (by simp;omega)];rfl
 have hLO:yG (.region id ops true)=[ops[ig]]:=by simp only[yG];rw[FH,HE]
 rw[hLO]at h;have SH:(ops[ig]).guard=none:=by
  rw[HE]at h4;simpa using h4
 simp only[eV,ay,if_true]at N;have Tc:=Ct N.2;simp only[Ui,gH,drawn]at e;have Jt:(ops.pop.push D9).size=ops.size:=by simp;omega
 rw[Jt]at e;have wh:(ops.pop.push D9).toList=ops.toList.take ig++[D9]:=by
  simp only[Array.toList_push,Array.toList_pop];rw[List.dropLast_eq_take,Array.length_toList,FH]
 rw[wh]at e;split at e
 case isFalse=>cases e
 rename_i gX;split at e
 case h_2=>cases e
 case h_3=>cases e
 rename_i d' Sz;simp only[aq,aB,true_and]at e;obtain⟨d,SB,DZ⟩:=AU _ _ _ _ _ Sz;have anL:lV P cf (ops.pop.push D9) s.n (0+(ops.toList.take ig).length) D9 d=some (.inl d'):=by
  simp only[iV]at DZ;split at DZ
  . rename_i q hq;simp only[aq,Sum.inl.injEq]at DZ;rw[hq,DZ]
  . rename_i J;exact absurd DZ (J d')
 obtain⟨q1,q2,q3,q4⟩:=KO anL;have aeE:iV P cf ops s.n (ops.toList.take ig) 0 { T:=s.T,eS:=[],cur:=(0,s.h),oo:=[],last:=none,dH:=[],reads:=[],n:=s.n+ops.size }=some (.inl d):=by
  rw[<- SB];refine AV Jt.symm _ _ _ fun o hom T=>?_;unfold gd;cases hg:o.guard with
  |none=>rfl
  |some q=>
   obtain⟨j,Fh⟩:=q;have:=br.1 h3 o (cN hom);rw[hg]at this;have hj:j≠ig:=fun e=>by subst e;simp at this
   have:ops[j]? =(ops.pop.push D9)[j]?:=by
    rw[Array.getElem?_push];by_cases SZ:j=ig
    . exact absurd SZ hj
    . rw[aA (by simp;omega),Array.getElem?_pop];by_cases q:j<ig
      . first|rw[aD S]|rw[aA S]
      . rw[Array.getElem?_eq_none S];split
        . exfalso;omega
        . rfl
   simp only[this]
 have Pa:=wW (P:=P) (cf:=cf) (ops:=ops) (X:=s.n) s.T s.h;obtain⟨val,ee,f⟩:=Ag (hc:=hc) Tc _ 0 _ _ _ _ (ops.toList.drop ig) (by simp) Pa aeE;rw[show 0+(ops.toList.take ig).length=ig by simp;omega]at f;have Ew:gO s.n d.dH d.cur.1 d.cur.2 (2^ig-1)=R.h:=by
  rw[<- e];simp only[q2,q3];refine Dm _ fun y hy=>?_;have:=f.dH y hy;unfold eN;rw[c5,c5];simp;omega
 have od:d.n=R.n:=by rw[<- e];exact q4.symm
 have anM:d.T=R.T:=by rw[<- e];exact q1.symm
 have Xl:R.iE=s.iE:=by rw[<- e]
 intro E a w hm r hn k;refine wpIn_wide (n:=0) |>.1 ?_;refine Q8 (rC:=none) lK Tc K mP ho SH gX C aeE r.good r.rD r.T r.size fun E' a' w' K' u fT p9 mg y9 ac1 Ok hK=>?_;rw[Ew]at u;rw[od]at p9 mg;rw[anM]at y9;have JM:lq E' hc R a' w':=⟨u.good,p9,y9,ac1,by rw[Xl,Ok];exact kE u.le _ _ r.iE⟩;have hu:nk X E s.h w E' R.h w':=.of u fT hn;have:=h E' a' w' hm JM (bH hn mg) fun y s2 E2 a2 w2 q u2 qX r2=>k y s2 E2 a2 w2 q (hu.trans u2) qX r2;unfold wpListIn at this;rw[aD (by unfold Region.wanted;rw[SH])]at this;exact Oper.wpIn_mono (fun a w hh=>hK a w hh) this
theorem lY.fz{s2:St}(ms:List Nat){fm:ah}(e:Ts ms s=some (fm,s2))(hA:∀x∈fm,x):lY X hc s s2:=fun E a w r hn=>by
 obtain⟨E2,r2,u2,qX,_⟩:=vE e hA r hn;exact⟨qX,E2,r2,u2⟩
theorem BG{X':CX P}{dz:List (Nat×mj)}{fn:Func}{live:List Nat}{iW:ag}{dx:List (List (Bool×Bool)×ah×jU)}(hr:G P X'.cs dz iX X fn live c s iW dx)
  (h:∀g∈dx,(∀b∈g.1,b.1=b.2)->(∀a∈g.2.1,a)/\∃s1,g.2.2= .to .normal s1):∃g∈dx,(∀b∈g.1,b.1=b.2)/\∃s1 R,g.2.2= .to .normal s1/\ld X live R=some s1/\gH P X'.cf iX c s=some (.normal,R):=by
 obtain⟨e1,e2,e3⟩:=hr.parts;obtain⟨l,hl⟩:=bI.1 e1;unfold vP yn at e2;unfold Bg at e3;rw[hl]at e2 e3;simp only[wu]at e2 e3;obtain⟨⟨p,hp,ho⟩,C⟩:=jN P X'.cs X'.cf dz X'.snd iX c s l hl;have hg:=e3▸n5 (f:=qm P X fn live) hp;obtain⟨hA,s1,oV⟩:=h (p.1.conds,p.1.Om,qm P X fn live p.2) hg ho;have gx:=C p hp ho ⟨tu l e2 p hp,hA⟩;refine⟨_,hg,ho,s1,?_⟩;obtain⟨pp,x,R⟩:=p;simp only[qm]at oV ⊢;cases x with
 |normal=>
  simp only at oV ⊢;split at oV
  . rename_i s2 vQ;cases oV;exact⟨R,rfl,vQ,gx⟩
  . cases oV
 |exit i=>
  simp only at oV;split at oV<;>cases oV
 |ret=>
  simp only at oV;split at oV<;>cases oV
 |panic _=>cases oV
theorem Zi(X1 X2:CX P)(K:P.follows .mixedOrders=true)(N:(eV hc c&&(EY c&&eV hc (IZ c)))=true){dz H2:List (Nat×mj)}{fn:Func}{live yH:List Nat}{iW L2:ag}{fm:ah}{s1 s2:St}{dx:List (List (Bool×Bool)×ah×jU)}
  (hr:G P X1.cs dz iX X fn live (Ui c) s iW [([],fm,.to .normal s1)]) (hA:∀a∈fm,a) (hf:lY X hc s1 s2) (hr2:G P X2.cs H2 iX X fn yH (IZ c) s2 L2 dx)
  (h:∀g∈dx,(∀b∈g.1,b.1=b.2)->(∀a∈g.2.1,a)/\∃s3,g.2.2= .to .normal s3/\∀R,ld X yH R=some s3->Q .normal R):TG P X hc c s Q:=by
 simp only[ay]at N;obtain⟨g,hg,_,s1',R,oV,Hx,he⟩:=BG hr fun g hg _=>by rw[aG]at hg;subst hg;exact⟨hA,s1,rfl⟩
 rw[aG]at hg;subst hg;cases oV;refine L5 X1.ok K N.1 N.2.1 he ?_;refine Uj ((lY.norm Hx).trans hf) ?_;obtain⟨g,hg,ho,s3,R,Qq,Oj,he2⟩:=BG hr2 fun g hg ho=>by
  obtain⟨h1,s3,C,_⟩:=h g hg ho;exact⟨h1,s3,C⟩
 obtain⟨_,s3',e3,hq⟩:=h g hg ho;rw[Qq]at e3;cases e3;have hd:=N.2.2;simp only[IZ,eV,ay]at hd;simp only[IZ,gH]at he2;exact Q9 X2.ok (fun o ho d hod=>by have:=br.1 hd.1 o ho;rw[hod]at this;simpa using this) he2 rfl (hq R Oj)
end
end Go.Eng
