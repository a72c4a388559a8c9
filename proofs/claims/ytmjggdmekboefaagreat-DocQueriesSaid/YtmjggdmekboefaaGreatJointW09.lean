/- Lemmas of the engine. No conditions. -/
import Derived.Test.YtmjggdmekboefaaGreatJointW04
set_option linter.unusedVariables false
set_option linter.unusedSimpArgs false
set_option linter.unusedSectionVars false
namespace Go.Eng
open Go Go.RowKit
section
variable{P:Program}{cf:gu}{ops:Array Oper}{N n0 iy:Nat}{h0:I es}{lH:I V}{val:Nat->V}{eA:List uH}{d:Dr}{E0:Env}{w0:World}{yA:List Deferred}
variable{Q:Exit->Act->World->Prop}{rN:Option Nat}
theorem Lf{fC:Array Bool}(h:∀i,i<ops.size->fC.getD i true=true):Region.ready .any ops fC=[]:=by
 rw[List.eq_nil_iff_forall_not_mem];intro j hj;obtain⟨h1,o,ho,_⟩:=mem_ready.1 hj;rw[h j (aY.1 ho).1]at h1;cases h1
theorem Lg(lX:iu P cf)(hr:lP ops n0)(hl:iy+1=ops.size)(f:mU P cf ops N h0 lH val eA iy d)(ht:∀y∈d.dM,N+y.1<gO)
  (hP:∀dF ms iW E a w o,Inv ops N n0 iy h0 lH val eA d.dM E0 w0 yA dF ms iW E a w->ops[iy]? =some o->
   (∀e∈o.after,Region.binds .any e=true->dF e.on=true)->dF iy=false->(∀i,i<iy->dF i=true)/\∀hx:Act->World->Prop,(∀a w,Q .normal a w->hx a w)->wpOpIn (fz rN) 0 P ops Q iy hx a w):
  ∀(fuel:Nat) (fC:Array Bool) (ms iW:Nat) (E:Env) (a:Act) (w:World),fC.size=ops.size->Ma ops.size fC<=fuel->
   Inv ops N n0 iy h0 lH val eA d.dM E0 w0 yA (fun i=>fC.getD i false) ms iW E a w->wpAnyIn (fz rN) 0 P .any ops Q fuel fC a w:=by
 have done:∀(fC:Array Bool) (ms iW:Nat) (E:Env) (a:Act) (w:World),fC.size=ops.size->Inv ops N n0 iy h0 lH val eA d.dM E0 w0 yA (fun i=>fC.getD i false) ms iW E a w->
   Region.ready .any ops fC=[]->Q .normal a w:=by
  intro fC ms iW E a w hs Tr tw;have all:∀i,i<ops.size->fC.getD i false=true:=by
   intro i
   induction i using Nat.strongRecOn with
   |_ i ih=>
    intro hi;cases q:fC.getD i false with
    |true=>rfl
    |false=>
     exfalso;have ho:ops[i]? =some ops[i]:=bg hi;have:i∈Region.ready .any ops fC:=mem_ready.2 ⟨by
      rw[bO,bg S]at q ⊢;exact q,ops[i],ho,fun e he U=>by
      have:=hr.wL i _ ho e he U;exact ih e.on this S⟩
     rw[tw]at this;simp at this
  have:=Tr.PG iy (all iy S);omega
 intro fuel
 induction fuel with
 |zero=>
  intro fC ms iW E a w hs hu Tr;have tw:Region.ready .any ops fC=[]:=by
   rw[List.eq_nil_iff_forall_not_mem];intro j hj;obtain⟨h1,o,ho,_⟩:=mem_ready.1 hj;have Wv:=(aY.1 ho).1;have hz:Ma ops.size fC=0:=by omega
   unfold Ma at hz;have:=cN.2 hz;have L:j∈(List.range ops.size).filter fun i=>!fC.getD i false:=List.mem_filter.2 ⟨bQ.2 Wv,by
    rw[bO,bg S]at h1 ⊢;simp at h1;simp[h1]⟩
   rw[this]at L;simp at L
  exact⟨tw,done fC ms iW E a w hs Tr tw⟩
 |succ fuel ih=>
  intro fC ms iW E a w hs hu Tr;refine⟨done fC ms iW E a w hs Tr,fun j hj=>?_⟩;obtain⟨h1,o,ho,hd⟩:=mem_ready.1 hj;have Wv:=(aY.1 ho).1;have xV:fC.getD j false=false:=by
   rw[bO,bg S]at h1 ⊢;exact h1
  by_cases OT:j<iy
  . refine Tr.step lX hr S f ht ho OT xV hd fun J' E' a' w' I'=>?_;refine ih _ (ms|||2^j) J' E' a' w' (by simp;exact hs) ?_ ?_
    . have:Ma ops.size (fC.setIfInBounds j true)<Ma ops.size fC:=by
       refine filter_lt (x:=j) (bQ.2 Wv) (by rw[xV];rfl) (by rw[oe S];simp) fun y hy=>?_;rw[oe S]at hy;simp at hy ⊢;exact hy.1
      omega
    . have:(fun i=>(fC.setIfInBounds j true).getD i false)=fun i=>(fC.getD i false||decide (i=j)):=funext fun i=>oe S i;rw[this];exact I'
  . have:j=iy:=by omega
    subst this;obtain⟨p1,p2⟩:=hP _ ms iW E a w o Tr ho hd xV;refine p2 _ fun a' w' hq=>?_;have hn:Region.ready .any ops (fC.setIfInBounds j true)=[]:=Lf fun i hi=>by
     have:(fC.setIfInBounds j true).getD i false=true:=by
      rw[oe S];by_cases e:i=j
      . simp[e]
      . rw[p1 i S];rfl
     rw[bO,bg (by simp;omega)]at this ⊢;exact this
    cases fuel with
    |zero=>exact⟨hn,hq⟩
    |succ fuel=>exact⟨fun _=>hq,fun j hj=>by rw[hn]at hj;cases hj⟩
theorem AG(hr:lP ops n0):∀(l:List Oper) (i:Nat) (d d':Dr) (val:Nat->V) (eA:List uH) (r:List Oper),l++r=ops.toList.drop i->mU P cf ops N h0 lH val eA i d->jf P cf ops N l i d=some (.inl d')->
  ∃iN qq,mU P cf ops N h0 lH iN qq (i+l.length) d'
 | [],i,d,d',val,eA,_,_,f,e=>by
   simp only[jf,aq,Sum.inl.injEq]at e;subst e;exact⟨val,eA,f⟩
 |o::l,i,d,d',val,eA,r,hl,f,e=>by
  have ho:ops[i]? =some o:=by
   have:=aG (fun x=>x[0]?) hl;simp at this;exact this.symm
  have hl':l++r=ops.toList.drop (i+1):=by
   have:=aG List.tail hl;simpa using this
  simp only[jf]at e;split at e
  . rename_i T hs;obtain⟨iN,qq,f'⟩:=CU hr ho f hs;obtain⟨v2,e2,f2⟩:=AG hr l (i+1) T d' iN qq r hl' f' e;exact⟨v2,e2,by rw[aN,show i+(l.length+1)=i+1+l.length by omega];exact f2⟩
  . rename_i x K;exact absurd e (K d')
end
theorem RF{rN:Option Nat}{P:Program}{cf:gu}{ops:Array Oper}{n0 id iy:Nat}{s:St}{d:Dr}{o:Oper}{E0:Env}{a0:Act}{w0:World}{Q:Exit->Act->World->Prop}(lX:iu P cf)(hr:lP ops n0)(L:P.follows .mixedOrders=true)
  (nc:iy+1=ops.size) (ho:ops[iy]? =some o) (Tv:o.guard=none) (ir:s.n+ops.size<gO) (U:ig ops iy+1=2^iy)
  (e:jf P cf ops s.n (ops.toList.take iy) 0 { F:=s.F,eX:=[],cur:=(0,s.h),oF:=[],last:=none,dM:=[],reads:=[],n:=s.n+ops.size }=some (.inl d)) (g:Good E0 s.h w0) (hd:qK E0 s.n) (hf:xk E0 s.F a0) (hN:a0.tmps.size=n0)
  (hq:∀E' a' w' (hx:Act->World->Prop),jt E0 s.h w0 E' (gX s.n d.dM d.cur.1 d.cur.2 (2^iy-1)) w'->(∀k,k<s.n->E'.ι k=E0.ι k)->qK E' d.n->s.n<=d.n->xk E' d.F a'->a'.tmps.size=n0->a'.defers=a0.defers->(∀a w,Q .normal a w->hx a w)->o.wpIn (fz rN) 0 P a' w' hx Q):
  (Code.region id ops true).wpIn (fz rN) 0 P Q a0 w0:=by
 refine wpIn_region_any L ?_;have PJ:=xq (P:=P) (cf:=cf) (ops:=ops) (N:=s.n) s.F s.h;have start:∀(iy:Nat) (val:Nat->V) (eA:List uH) (dM:af),Inv ops s.n n0 iy s.h s.F val eA dM E0 w0 a0.defers (fun i=>(Array.replicate ops.size false).getD i false) 0 0 E0 a0 { w0 with drawn:=w0.drawn+1 }:=by
  intro iy val eA dM;have hS:∀i,(Array.replicate ops.size false).getD i false=false:=by
   intro i;rw[bO];by_cases q:i<ops.size
   . rw[bg (by simpa using q)];simp
   . rw[Array.getElem?_eq_none (by simpa using q)];rfl
  have PB:∀k,(gX s.n dM (eY s.h (s.n+ops.size) eA 0).1 (eY s.h (s.n+ops.size) eA 0).2.1 0).get k=s.h.get k:=by
   intro k;have:∀l:af,gX s.n l (eY s.h (s.n+ops.size) eA 0).1 (eY s.h (s.n+ops.size) eA 0).2.1 0=s.h:=by
    intro l
    induction l with
    |nil=>rfl
    |cons y l ih=>obtain⟨i,b⟩:=y;simp only[gX,jF,aT,aM,cI];exact ih
   rw[this]
  refine⟨fun i=>by rw[jF,hS],fun i hi=>?_,fun j o hj=>?_,fun c e' _=>?_,aR _,fun j o t hj=>?_,fun t v hv _=>hf t v hv,(jt.drew g).ext PB,fun _ _=>rfl,fun k p hp=>?_,fun i _ _=>?_,aK _,hN,rfl⟩
  . rw[hS]at hi;cases hi
  . rw[hS]at hj;cases hj
  . rw[hS];constructor
    . intro q;cases q
    . intro q;omega
  . rw[hS]at hj;cases hj
  . by_cases q:k<s.n
    . exact .inl q
    . rw[hd k S]at hp;cases hp
  . show s.h.get (s.n+i)=none;cases q:s.h.get (s.n+i)with
    |none=>rfl
    |some o=>
     obtain⟨b,t,h1,_⟩:=g.rel _ _ q;rw[hd _ S]at h1;cases h1
 have hu0:Ma ops.size (Array.replicate ops.size false)<=ops.size:=by
  unfold Ma;exact bN (List.length_filter_le _ _) (by simp)
 obtain⟨val,eA,f⟩:=AG (n0:=n0) hr _ 0 _ _ _ _ (ops.toList.drop iy) (by simp) PJ e;rw[show 0+(ops.toList.take iy).length=iy by simp;omega]at f;have ht:∀y∈d.dM,s.n+y.1<gO:=fun y hy=>by have:=f.dM y hy;omega
 refine Lg lX hr nc f ht (fun dF ms iW E a w o' Tr FV Iy hSl=>?_) ops.size _ 0 0 E0 a0 _ (by simp) hu0 (start iy val eA d.dM);rw[ho]at FV;cases FV;have Ix:∀i,i<iy->eT (ig ops iy) i=true:=fun i hi=>by
  have:ig ops iy=2^iy-1:=by omega
  rw[this];unfold eT;rw[dm];simpa using hi
 have xu:∀i,i<iy->dF i=true:=fun i hi=>su hr Tr.closed ho Iy (Ix i hi);refine⟨xu,fun hx hK=>?_⟩;have hJ:iW=eA.length:=by
  have h1:=Tr.Jle;by_cases q:iW<eA.length
  . have he:eA[iW]? =some eA[iW]:=au q;have:=(Tr.El iW _ he).1 (xu _ (f.uj iW _ he).1);omega
  . omega
 have ec1:d.cur.1=(eY s.h (s.n+ops.size) eA iW).1:=by rw[hJ,f.cur]
 have ec2:d.cur.2=(eY s.h (s.n+ops.size) eA iW).2.1:=by rw[hJ,f.cur]
 have en:d.n=(eY s.h (s.n+ops.size) eA iW).2.2:=by rw[hJ,f.n]
 unfold wpOpIn;simp only[ho];rw[aF (by unfold Region.wanted;rw[Tv])];refine hq E a w hx ?_ Tr.old ?_ ?_ ?_ Tr.size Tr.iZ hK
 . refine Tr.CH.ext fun k=>?_;simp only[ec1,ec2];have PK:∀i,i<iy->eT (2^iy-1) i=true:=fun i hi=>by
    unfold eT;rw[dm];simpa using hi
   rcases ju (N:=s.n) (x:=(eY s.h (s.n+ops.size) eA iW).2.1) (m:=(eY s.h (s.n+ops.size) eA iW).1) (iM:=2^iy-1) ht f.one k with⟨i,b,k1,k2,k3,k4,k5⟩|⟨k1,k2⟩
   . subst k4;rw[k5,jL ht f.one k1 (by rw[Tr.bits];exact xu i (f.dM _ k1)) k3]
   . rw[k2,od ht fun i b q1 q2 q3=>k1 i b q1 (PK i (f.dM _ q1)) q3]
 . rw[en];exact Tr.TU S
 . rw[en];have:=Tr.D4;omega
 . intro t v hv;by_cases q:∃j o,j<iy/\ops[j]? =some o/\o.dst=some t
   . obtain⟨j,o2,q1,q2,q3⟩:=q;have:=f.F.new j o2 t q1 q2 q3;rw[this]at hv;cases hv;exact Tr.f1 j o2 t (xu j q1) q2 q3
   . have:=f.F.old t fun i o hi ho L9=>q ⟨i,o,hi,ho,L9⟩;rw[this]at hv;exact Tr.f2 t v hv fun j o hj ho L9=>q ⟨j,o,Tr.PG j hj,ho,L9⟩
def Ew:Oper:={ dst:=none,op:=.move (.func 0),type:=0,pos:= "",after:=#[],guard:=none }
def U2:Code->Code
 | .region id ops true=>.region id (ops.pop.push Ew) true
 |c=>c
def y8:Code->List Oper
 | .region _ ops true=>ops.toList.drop (ops.size-1)
 |_=>[]
def Jo(c:Code):Code:=.region 0 (y8 c).toArray false
def Fq:Code->Bool
 | .region _ ops true=>Nat.blt 0 ops.size&&(Nat.beq (ig ops (ops.size-1)+1) (2^(ops.size-1))&&((ops.toList.all fun o=>match o.guard with|some (j,_)=>!Nat.beq j (ops.size-1)|none=>true)&&(ops.toList.drop (ops.size-1)).all fun o=>o.guard.isNone))
 |_=>false
def TGl(P:Program)(N n0:Nat)(ops:Array Oper)(s:St)(Q:Exit->St->Prop):Prop:=
 ∀(E:Env) (a:Act) (w:World) (hx:Exit->Act->World->Prop),lI E n0 s a w->N<=s.n->
  (∀y T E' a' w',Q y T->mO N E s.h w E' T.h w'->N<=T.n->lI E' n0 T a' w'->hx y a' w')->wpListIn (fz none) 0 P ops hx ops.toList a w
section
variable{P:Program}{cf:gu}{fr N n0:Nat}{c:Code}{s T:St}{Q Q1:Exit->St->Prop}
theorem RG(lX:iu P cf){x:fm}{y:Exit}{ops:Array Oper}(hd:∀o∈ops.toList,nw n0 o.dst)(e:jI P cf ops ops.toList s=some (x,T))(K:x.plain=some y)(hq:Q y T):TGl P N n0 ops s Q:=by
 intro E a w hx r hn k;refine lY (rN:=none) lX ops.toList s x T (.inl rfl) hd e E a w hx r fun E' a' w' x' u gd oy r' pS=>?_;have:x'=y:=by
  cases x<;>cases x'<;>simp only[Iw,fm.plain,aq,reduceCtorEq]at pS K<;>first|exact K|(subst pS;exact K)
 subst this;exact k _ T E' a' w' hq (.of u gd hn) (bN hn oy) r'
theorem U3{ops:Array Oper}{s2:St}(h:kF N n0 s s2)(ht:TGl P N n0 ops s2 Q):TGl P N n0 ops s Q:=fun E a w hx r hn k=>by
 obtain⟨qQ,E2,r2,u2⟩:=h E a w r hn;exact ht E2 a w hx r2 qQ fun y T E' a' w' q u oy r'=>k y T E' a' w' q (u2.trans u) oy r'
theorem Bq{ops:Array Oper}{m:Nat}:∀(l r:List Oper) (i:Nat) (d d':Dr),jf P cf ops m (l++r) i d=some (.inl d')->∃d1,jf P cf ops m l i d=some (.inl d1)/\jf P cf ops m r (i+l.length) d1=some (.inl d')
 | [],r,i,d,d',e=>⟨d,rfl,e⟩
 |o::l,r,i,d,d',e=>by
  simp only[List.cons_append,jf]at e ⊢;cases h:mc P cf ops m i o d with
  |none=>rw[h]at e;cases e
  |some q=>
   rw[h]at e;cases q with
   |inl d1=>
    simp only at e ⊢;obtain⟨d2,h1,C⟩:=Bq l r (i+1) d1 d' e;exact⟨d2,h1,by rw[aN,show i+(l.length+1)=i+1+l.length by omega];exact C⟩
   |inr x=>simp only at e;cases e
theorem Br{ops ops':Array Oper}(hs:ops.size=ops'.size){m:Nat}:∀(l:List Oper) (i:Nat) (d:Dr),(∀o∈l,∀F,gq ops o F=gq ops' o F)->jf P cf ops m l i d=jf P cf ops' m l i d
 | [],_,_,_=>rfl
 |o::l,i,d,h=>by
  have e:mc P cf ops m i o d=mc P cf ops' m i o d:=by
   unfold mc;rw[h o (bB ..),hs]
  simp only[jf];rw[e];cases mc P cf ops' m i o d with
  |none=>rfl
  |some q=>
   cases q with
   |inl d1=>exact Br hs l (i+1) d1 fun o ho=>h o (bh _ ho)
   |inr x=>rfl
theorem DJ{m:Nat}{x:I es}{k a b:Nat}:∀(l:af),(∀y∈l,eT a y.1=eT b y.1)->gX m l k x a=gX m l k x b
 | [],_=>rfl
 |(i,o)::l,h=>by
  simp only[gX];rw[h _ (bB ..),DJ l fun y hy=>h y (bh _ hy)]
theorem Lh{ops:Array Oper}{m i:Nat}{d d':Dr}(e:mc P cf ops m i Ew d=some (.inl d')):d'.F=d.F/\d'.cur=d.cur/\d'.dM=d.dM/\d'.n=d.n:=by
 unfold mc at e;simp only[gq,Ew,qd,aM,cI,eG,jn,kK,jR,Nat.beq_refl,if_true,oZ,aq,Sum.inl.injEq]at e;subst e;exact⟨rfl,rfl,rfl,rfl⟩
theorem My(lX:iu P cf)(L:P.follows .mixedOrders=true)(A:fe n0 c=true)(hl:Fq c=true)(e:gY P cf fr (U2 c) s=some (.normal,T))(h:TGl P N n0 (y8 c).toArray T Q):TG P N n0 c s Q:=by
 cases c<;>try (simp only[Fq,aM]at hl;done)
 rename_i id ops Cr;cases Cr with
 |false=>simp only[Fq,aM]at hl
 |true=>
 simp only[Fq,ay]at hl;obtain⟨h1,C,h3,h4⟩:=hl;have h1:0<ops.size:=cO Nat.zero_lt_one (aE h1);have C:=aJ C;obtain⟨iy,nc⟩:∃iy,iy+1=ops.size:=⟨ops.size-1,S⟩;have F7:ops.size-1=iy:=by omega
 rw[F7]at C h3 h4;have fj:iy<ops.size:=by omega
 have ho:ops[iy]? =some ops[iy]:=bg fj;have Ib:ops.toList.drop iy=[ops[iy]]:=by
  rw[bC (by simpa using fj),List.drop_eq_nil_of_le (by simp;omega)];rfl
 have hLO:y8 (.region id ops true)=[ops[iy]]:=by simp only[y8];rw[F7,Ib]
 rw[hLO]at h;have Tv:(ops[iy]).guard=none:=by
  rw[Ib]at h4;simpa using h4
 simp only[fe,ay,if_true]at A;have T0:=CQ A.2;simp only[U2,gY,drawn]at e;have wo:(ops.pop.push Ew).size=ops.size:=by simp;omega
 rw[wo]at e;have wJ:(ops.pop.push Ew).toList=ops.toList.take iy++[Ew]:=by
  simp only[Array.toList_push,Array.toList_pop];rw[List.dropLast_eq_take,Array.length_toList,F7]
 rw[wJ]at e;split at e
 case isFalse=>cases e
 rename_i ir;split at e
 case h_2=>cases e
 case h_3=>cases e
 rename_i d' Tj;simp only[aq,aB,true_and]at e;obtain⟨d,Tm,Em⟩:=Bq _ _ _ _ _ Tj;have aoD:mc P cf (ops.pop.push Ew) s.n (0+(ops.toList.take iy).length) Ew d=some (.inl d'):=by
  simp only[jf]at Em;split at Em
  . rename_i q hq;simp only[aq,Sum.inl.injEq]at Em;rw[hq,Em]
  . rename_i K;exact absurd Em (K d')
 obtain⟨q1,q2,q3,q4⟩:=Lh aoD;have afl:jf P cf ops s.n (ops.toList.take iy) 0 { F:=s.F,eX:=[],cur:=(0,s.h),oF:=[],last:=none,dM:=[],reads:=[],n:=s.n+ops.size }=some (.inl d):=by
  rw[<- Tm];refine Br wo.symm _ _ _ fun o hom F=>?_;unfold gq;cases hg:o.guard with
  |none=>rfl
  |some q=>
   obtain⟨j,FG⟩:=q;have:=bw.1 h3 o (cK hom);rw[hg]at this;have hj:j≠iy:=fun e=>by subst e;simp at this
   have:ops[j]? =(ops.pop.push Ew)[j]?:=by
    rw[Array.getElem?_push];by_cases TP:j=iy
    . exact absurd TP hj
    . rw[aD (by simp;omega),Array.getElem?_pop];by_cases q:j<iy
      . first|rw[aF S]|rw[aD S]
      . rw[Array.getElem?_eq_none S];split
        . exfalso;omega
        . rfl
   simp only[this]
 have PJ:=xq (P:=P) (cf:=cf) (ops:=ops) (N:=s.n) s.F s.h;obtain⟨val,eA,f⟩:=AG (n0:=n0) T0 _ 0 _ _ _ _ (ops.toList.drop iy) (by simp) PJ afl;rw[show 0+(ops.toList.take iy).length=iy by simp;omega]at f;have ES:gX s.n d.dM d.cur.1 d.cur.2 (2^iy-1)=T.h:=by
  rw[<- e];simp only[q2,q3];refine DJ _ fun y hy=>?_;have:=f.dM y hy;unfold eT;rw[dm,dm];simp;omega
 have oy:d.n=T.n:=by rw[<- e];exact q4.symm
 have aoE:d.F=T.F:=by rw[<- e];exact q1.symm
 have X6:T.iZ=s.iZ:=by rw[<- e]
 intro E a w hx r hn k;refine wpIn_wide (n:=0) |>.1 ?_;refine RF (rN:=none) lX T0 L nc ho Tv ir C afl r.good r.rO r.F r.size fun E' a' w' K' u gd qt kZ zz adN OU hK=>?_;rw[ES]at u;rw[oy]at qt kZ;rw[aoE]at zz;have Kg:lI E' n0 T a' w':=⟨u.good,qt,zz,adN,by rw[X6,OU];exact kN u.le _ _ r.iZ⟩;have hu:mO N E s.h w E' T.h w':=.of u gd hn;have:=h E' a' w' hx Kg (bN hn kZ) fun y s2 E2 a2 w2 q u2 qQ r2=>k y s2 E2 a2 w2 q (hu.trans u2) qQ r2;unfold wpListIn at this;rw[aF (by unfold Region.wanted;rw[Tv])]at this;exact Oper.wpIn_mono (fun a w hh=>hK a w hh) this
theorem kF.fz{s2:St}(ms:List Nat){hc:ah}(e:Ue ms s=some (hc,s2))(hA:∀x∈hc,x):kF N n0 s s2:=fun E a w r hn=>by
 obtain⟨E2,r2,u2,qQ,_⟩:=vW e hA r hn;exact⟨qQ,E2,r2,u2⟩
theorem Ca{X':CX P}{dG:List (Nat×mH)}{fn:Func}{live:List Nat}{hm:ag}{dD:List (List (Bool×Bool)×ah×ko)}(hr:G P X'.cs dG fr N fn live c s hm dD)
  (h:∀g∈dD,(∀b∈g.1,b.1=b.2)->(∀a∈g.2.1,a)/\∃s1,g.2.2= .to .normal s1):∃g∈dD,(∀b∈g.1,b.1=b.2)/\∃s1 T,g.2.2= .to .normal s1/\lB N live T=some s1/\gY P X'.cf fr c s=some (.normal,T):=by
 obtain⟨e1,e2,e3⟩:=hr.parts;obtain⟨l,hl⟩:=bR.1 e1;unfold wq yI at e2;unfold BI at e3;rw[hl]at e2 e3;simp only[wO]at e2 e3;obtain⟨⟨p,hp,ho⟩,C⟩:=kI P X'.cs X'.cf dG X'.snd fr c s l hl;have hg:=e3▸oo (f:=qB P N fn live) hp;obtain⟨hA,s1,pQ⟩:=h (p.1.conds,p.1.P2,qB P N fn live p.2) hg ho;have gF:=C p hp ho ⟨tG l e2 p hp,hA⟩;refine⟨_,hg,ho,s1,?_⟩;obtain⟨pp,x,T⟩:=p;simp only[qB]at pQ ⊢;cases x with
 |normal=>
  simp only at pQ ⊢;split at pQ
  . rename_i s2 rP;cases pQ;exact⟨T,rfl,rP,gF⟩
  . cases pQ
 |exit i=>
  simp only at pQ;split at pQ<;>cases pQ
 |ret=>
  simp only at pQ;split at pQ<;>cases pQ
 |panic _=>cases pQ
theorem ZV(X1 X2:CX P)(L:P.follows .mixedOrders=true)(A:(fe n0 c&&(Fq c&&fe n0 (Jo c)))=true){dG H2:List (Nat×mH)}{fn:Func}{live y9:List Nat}{hm L2:ag}{hc:ah}{s1 s2:St}{dD:List (List (Bool×Bool)×ah×ko)}
  (hr:G P X1.cs dG fr N fn live (U2 c) s hm [([],hc,.to .normal s1)]) (hA:∀a∈hc,a) (hf:kF N n0 s1 s2) (hr2:G P X2.cs H2 fr N fn y9 (Jo c) s2 L2 dD)
  (h:∀g∈dD,(∀b∈g.1,b.1=b.2)->(∀a∈g.2.1,a)/\∃s3,g.2.2= .to .normal s3/\∀T,lB N y9 T=some s3->Q .normal T):TG P N n0 c s Q:=by
 simp only[ay]at A;obtain⟨g,hg,_,s1',T,pQ,FQ,he⟩:=Ca hr fun g hg _=>by rw[aI]at hg;subst hg;exact⟨hA,s1,rfl⟩
 rw[aI]at hg;subst hg;cases pQ;refine My X1.ok L A.1 A.2.1 he ?_;refine U3 ((kF.norm FQ).trans hf) ?_;obtain⟨g,hg,ho,s3,T,N9,Mb,he2⟩:=Ca hr2 fun g hg ho=>by
  obtain⟨h1,s3,C,_⟩:=h g hg ho;exact⟨h1,s3,C⟩
 obtain⟨_,s3',e3,hq⟩:=h g hg ho;rw[N9]at e3;cases e3;have hd:=A.2.2;simp only[Jo,fe,ay]at hd;simp only[Jo,gY]at he2;exact RG X2.ok (fun o ho d hod=>by have:=bw.1 hd.1 o ho;rw[hod]at this;simpa using this) he2 rfl (hq T Mb)
end
end Go.Eng
