/- Lemmas of the engine. No conditions. -/
import Derived.Test.YtmjggdmekboefaaGreatJointW04
set_option linter.unusedVariables false
set_option linter.unusedSimpArgs false
set_option linter.unusedSectionVars false
namespace Go.Eng
open Go Go.RowKit
section
variable{P:Program}{cf:fO}{ops:Array Oper}{F fr gM:Nat}{h0:J h2}{kT:J V}{val:Nat->V}{dL:List uh}{d:Dr}{E0:Env}{w0:World}{x9:List Deferred}
variable{h1:Exit->Act->World->Prop}{rz:Option Nat}
theorem Kw{eW:Array Bool}(h:∀i,i<ops.size->eW.getD i true=true):Region.ready .any ops eW=[]:=by
 rw[List.eq_nil_iff_forall_not_mem];intro j hj;obtain⟨Q,o,ho,_⟩:=mem_ready.1 hj;rw[h j (aW.1 ho).1]at Q;cases Q
theorem Kx(lE:gA P cf)(hr:k8 ops fr)(hl:gM+1=ops.size)(f:mC P cf ops F h0 kT val dL gM d)(ht:∀y∈d.dA,F+y.1<fZ)
  (hP:∀fm ms Tr E a w o,Inv ops F fr gM h0 kT val dL d.dA E0 w0 x9 fm ms Tr E a w->ops[gM]? =some o->
   (∀e∈o.after,Region.binds .any e=true->fm e.on=true)->fm gM=false->(∀i,i<gM->fm i=true)/\∀hm:Act->World->Prop,(∀a w,h1 .normal a w->hm a w)->wpOpIn (fz rz) 0 P ops h1 gM hm a w):
  ∀(fuel:Nat) (eW:Array Bool) (ms Tr:Nat) (E:Env) (a:Act) (w:World),eW.size=ops.size->Lk ops.size eW<=fuel->
   Inv ops F fr gM h0 kT val dL d.dA E0 w0 x9 (fun i=>eW.getD i false) ms Tr E a w->wpAnyIn (fz rz) 0 P .any ops h1 fuel eW a w:=by
 have done:∀(eW:Array Bool) (ms Tr:Nat) (E:Env) (a:Act) (w:World),eW.size=ops.size->Inv ops F fr gM h0 kT val dL d.dA E0 w0 x9 (fun i=>eW.getD i false) ms Tr E a w->
   Region.ready .any ops eW=[]->h1 .normal a w:=by
  intro eW ms Tr E a w hs hx sY;have all:∀i,i<ops.size->eW.getD i false=true:=by
   intro i
   induction i using Nat.strongRecOn with
   |_ i ih=>
    intro hi;cases q:eW.getD i false with
    |true=>rfl
    |false=>
     exfalso;have ho:ops[i]? =some ops[i]:=bf hi;have:i∈Region.ready .any ops eW:=mem_ready.2 ⟨by
      rw[bJ,bf H]at q ⊢;exact q,ops[i],ho,fun e he hb=>by
      have:=hr.v7 i _ ho e he hb;exact ih e.on this H⟩
     rw[sY]at this;simp at this
  have:=hx.OH gM (all gM H);omega
 intro fuel
 induction fuel with
 |zero=>
  intro eW ms Tr E a w hs hu hx;have sY:Region.ready .any ops eW=[]:=by
   rw[List.eq_nil_iff_forall_not_mem];intro j hj;obtain⟨Q,o,ho,_⟩:=mem_ready.1 hj;have U9:=(aW.1 ho).1;have hz:Lk ops.size eW=0:=by omega
   unfold Lk at hz;have:=cE.2 hz;have K:j∈(List.range ops.size).filter fun i=>!eW.getD i false:=List.mem_filter.2 ⟨bL.2 U9,by
    rw[bJ,bf H]at Q ⊢;simp at Q;simp[Q]⟩
   rw[this]at K;simp at K
  exact⟨sY,done eW ms Tr E a w hs hx sY⟩
 |succ fuel ih=>
  intro eW ms Tr E a w hs hu hx;refine⟨done eW ms Tr E a w hs hx,fun j hj=>?_⟩;obtain⟨Q,o,ho,hd⟩:=mem_ready.1 hj;have U9:=(aW.1 ho).1;have xx:eW.getD j false=false:=by
   rw[bJ,bf H]at Q ⊢;exact Q
  by_cases NQ:j<gM
  . refine hx.step lE hr H f ht ho NQ xx hd fun J' E' a' w' I'=>?_;refine ih _ (ms|||2^j) J' E' a' w' (by simp;exact hs) ?_ ?_
    . have:Lk ops.size (eW.setIfInBounds j true)<Lk ops.size eW:=by
       refine filter_lt (x:=j) (bL.2 U9) (by rw[xx];rfl) (by rw[nQ H];simp) fun y hy=>?_;rw[nQ H]at hy;simp at hy ⊢;exact hy.1
      omega
    . have:(fun i=>(eW.setIfInBounds j true).getD i false)=fun i=>(eW.getD i false||decide (i=j)):=funext fun i=>nQ H i;rw[this];exact I'
  . have:j=gM:=by omega
    subst this;obtain⟨p1,p2⟩:=hP _ ms Tr E a w o hx ho hd xx;refine p2 _ fun a' w' hq=>?_;have hn:Region.ready .any ops (eW.setIfInBounds j true)=[]:=Kw fun i hi=>by
     have:(eW.setIfInBounds j true).getD i false=true:=by
      rw[nQ H];by_cases e:i=j
      . simp[e]
      . rw[p1 i H];rfl
     rw[bJ,bf (by simp;omega)]at this ⊢;exact this
    cases fuel with
    |zero=>exact⟨hn,hq⟩
    |succ fuel=>exact⟨fun _=>hq,fun j hj=>by rw[hn]at hj;cases hj⟩
theorem zY(hr:k8 ops fr):∀(l:List Oper) (i:Nat) (d d':Dr) (val:Nat->V) (dL:List uh) (r:List Oper),l++r=ops.toList.drop i->mC P cf ops F h0 kT val dL i d->iJ P cf ops F l i d=some (.inl d')->
  ∃iq p6,mC P cf ops F h0 kT iq p6 (i+l.length) d'
 | [],i,d,d',val,dL,_,_,f,e=>by
   simp only[iJ,aq,Sum.inl.injEq]at e;subst e;exact⟨val,dL,f⟩
 |o::l,i,d,d',val,dL,r,hl,f,e=>by
  have ho:ops[i]? =some o:=by
   have:=aI (fun x=>x[0]?) hl;simp at this;exact this.symm
  have hl':l++r=ops.toList.drop (i+1):=by
   have:=aI List.tail hl;simpa using this
  simp only[iJ]at e;split at e
  . rename_i X hs;obtain⟨iq,p6,f'⟩:=Co hr ho f hs;obtain⟨v2,e2,f2⟩:=zY hr l (i+1) X d' iq p6 r hl' f' e;exact⟨v2,e2,by rw[aP,show i+(l.length+1)=i+1+l.length by omega];exact f2⟩
  . rename_i x I;exact absurd e (I d')
end
theorem QD{rz:Option Nat}{P:Program}{cf:fO}{ops:Array Oper}{fr id gM:Nat}{s:St}{d:Dr}{o:Oper}{E0:Env}{a0:Act}{w0:World}{h1:Exit->Act->World->Prop}(lE:gA P cf)(hr:k8 ops fr)(K:P.follows .mixedOrders=true)
  (my:gM+1=ops.size) (ho:ops[gM]? =some o) (Sg:o.guard=none) (gL:s.n+ops.size<fZ) (hb:iH ops gM+1=2^gM)
  (e:iJ P cf ops s.n (ops.toList.take gM) 0 { N:=s.N,eC:=[],cur:=(0,s.h),od:=[],last:=none,dA:=[],reads:=[],n:=s.n+ops.size }=some (.inl d)) (g:Good E0 s.h w0) (hd:pX E0 s.n) (hf:wJ E0 s.N a0) (hN:a0.tmps.size=fr)
  (hq:∀E' a' w' (hm:Act->World->Prop),iQ E0 s.h w0 E' (gC s.n d.dA d.cur.1 d.cur.2 (2^gM-1)) w'->(∀k,k<s.n->E'.ι k=E0.ι k)->pX E' d.n->s.n<=d.n->wJ E' d.N a'->a'.tmps.size=fr->a'.defers=a0.defers->(∀a w,h1 .normal a w->hm a w)->o.wpIn (fz rz) 0 P a' w' hm h1):
  (Code.region id ops true).wpIn (fz rz) 0 P h1 a0 w0:=by
 refine wpIn_region_any K ?_;have init:=wP (P:=P) (cf:=cf) (ops:=ops) (F:=s.n) s.N s.h;have start:∀(gM:Nat) (val:Nat->V) (dL:List uh) (dA:af),Inv ops s.n fr gM s.h s.N val dL dA E0 w0 a0.defers (fun i=>(Array.replicate ops.size false).getD i false) 0 0 E0 a0 { w0 with drawn:=w0.drawn+1 }:=by
  intro gM val dL dA;have hS:∀i,(Array.replicate ops.size false).getD i false=false:=by
   intro i;rw[bJ];by_cases q:i<ops.size
   . rw[bf (by simpa using q)];simp
   . rw[Array.getElem?_eq_none (by simpa using q)];rfl
  have OD:∀k,(gC s.n dA (eI s.h (s.n+ops.size) dL 0).1 (eI s.h (s.n+ops.size) dL 0).2.1 0).get k=s.h.get k:=by
   intro k;have:∀l:af,gC s.n l (eI s.h (s.n+ops.size) dL 0).1 (eI s.h (s.n+ops.size) dL 0).2.1 0=s.h:=by
    intro l
    induction l with
    |nil=>rfl
    |cons y l ih=>obtain⟨i,b⟩:=y;simp only[gC,je,aS,aM,cz];exact ih
   rw[this]
  refine⟨fun i=>by rw[je,hS],fun i hi=>?_,fun j o hj=>?_,fun c e' _=>?_,aU _,fun j o t hj=>?_,fun t v hv _=>hf t v hv,(iQ.drew g).ext OD,fun _ _=>rfl,fun k p hp=>?_,fun i _ _=>?_,aK _,hN,rfl⟩
  . rw[hS]at hi;cases hi
  . rw[hS]at hj;cases hj
  . rw[hS];constructor
    . intro q;cases q
    . intro q;omega
  . rw[hS]at hj;cases hj
  . by_cases q:k<s.n
    . exact .inl q
    . rw[hd k H]at hp;cases hp
  . show s.h.get (s.n+i)=none;cases q:s.h.get (s.n+i)with
    |none=>rfl
    |some o=>
     obtain⟨b,t,Q,_⟩:=g.rel _ _ q;rw[hd _ H]at Q;cases Q
 have hu0:Lk ops.size (Array.replicate ops.size false)<=ops.size:=by
  unfold Lk;exact bE (List.length_filter_le _ _) (by simp)
 obtain⟨val,dL,f⟩:=zY (fr:=fr) hr _ 0 _ _ _ _ (ops.toList.drop gM) (by simp) init e;rw[show 0+(ops.toList.take gM).length=gM by simp;omega]at f;have ht:∀y∈d.dA,s.n+y.1<fZ:=fun y hy=>by have:=f.dA y hy;omega
 refine Kx lE hr my f ht (fun fm ms Tr E a w o' hx DP HD hSl=>?_) ops.size _ 0 0 E0 a0 _ (by simp) hu0 (start gM val dL d.dA);rw[ho]at DP;cases DP;have HC:∀i,i<gM->ew (iH ops gM) i=true:=fun i hi=>by
  have:iH ops gM=2^gM-1:=by omega
  rw[this];unfold ew;rw[cS];simpa using hi
 have wQ:∀i,i<gM->fm i=true:=fun i hi=>rP hr hx.closed ho HD (HC i hi);refine⟨wQ,fun hm hK=>?_⟩;have hJ:Tr=dL.length:=by
  have Q:=hx.Jle;by_cases q:Tr<dL.length
  . have he:dL[Tr]? =some dL[Tr]:=au q;have:=(hx.DU Tr _ he).1 (wQ _ (f.tP Tr _ he).1);omega
  . omega
 have ec1:d.cur.1=(eI s.h (s.n+ops.size) dL Tr).1:=by rw[hJ,f.cur]
 have ec2:d.cur.2=(eI s.h (s.n+ops.size) dL Tr).2.1:=by rw[hJ,f.cur]
 have en:d.n=(eI s.h (s.n+ops.size) dL Tr).2.2:=by rw[hJ,f.n]
 unfold wpOpIn;simp only[ho];rw[aG (by unfold Region.wanted;rw[Sg])];refine hq E a w hm ?_ hx.old ?_ ?_ ?_ hx.size hx.ij hK
 . refine hx.tO.ext fun k=>?_;simp only[ec1,ec2];have OJ:∀i,i<gM->ew (2^gM-1) i=true:=fun i hi=>by
    unfold ew;rw[cS];simpa using hi
   rcases iZ (F:=s.n) (x:=(eI s.h (s.n+ops.size) dL Tr).2.1) (m:=(eI s.h (s.n+ops.size) dL Tr).1) (ik:=2^gM-1) ht f.one k with⟨i,b,k1,k2,k3,k4,k5⟩|⟨k1,k2⟩
   . subst k4;rw[k5,jm ht f.one k1 (by rw[hx.bits];exact wQ i (f.dA _ k1)) k3]
   . rw[k2,nP ht fun i b q1 q2 q3=>k1 i b q1 (OJ i (f.dA _ q1)) q3]
 . rw[en];exact hx.SF H
 . rw[en];have:=hx.Cq;omega
 . intro t v hv;by_cases q:∃j o,j<gM/\ops[j]? =some o/\o.dst=some t
   . obtain⟨j,o2,q1,q2,q3⟩:=q;have:=f.N.new j o2 t q1 q2 q3;rw[this]at hv;cases hv;exact hx.f1 j o2 t (wQ j q1) q2 q3
   . have:=f.N.old t fun i o hi ho Lj=>q ⟨i,o,hi,ho,Lj⟩;rw[this]at hv;exact hx.f2 t v hv fun j o hj ho Lj=>q ⟨j,o,hx.OH j hj,ho,Lj⟩
def D3:Oper:={ dst:=none,op:=.move (.func 0),type:=0,pos:= "",after:=#[],guard:=none }
def TW:Code->Code
 | .region id ops true=>.region id (ops.pop.push D3) true
 |c=>c
def yB:Code->List Oper
 | .region _ ops true=>ops.toList.drop (ops.size-1)
 |_=>[]
def IB(c:Code):Code:=.region 0 (yB c).toArray false
def EN:Code->Bool
 | .region _ ops true=>Nat.blt 0 ops.size&&(Nat.beq (iH ops (ops.size-1)+1) (2^(ops.size-1))&&((ops.toList.all fun o=>match o.guard with|some (j,_)=>!Nat.beq j (ops.size-1)|none=>true)&&(ops.toList.drop (ops.size-1)).all fun o=>o.guard.isNone))
 |_=>false
def TGl(P:Program)(F fr:Nat)(ops:Array Oper)(s:St)(h1:Exit->St->Prop):Prop:=
 ∀(E:Env) (a:Act) (w:World) (hm:Exit->Act->World->Prop),jY E fr s a w->F<=s.n->
  (∀y X E' a' w',h1 y X->kB F E s.h w E' X.h w'->F<=X.n->jY E' fr X a' w'->hm y a' w')->wpListIn (fz none) 0 P ops hm ops.toList a w
section
variable{P:Program}{cf:fO}{n0 F fr:Nat}{c:Code}{s X:St}{h1 Q1:Exit->St->Prop}
theorem QE(lE:gA P cf){x:s'}{y:Exit}{ops:Array Oper}(hd:∀o∈ops.toList,mX fr o.dst)(e:jk P cf ops ops.toList s=some (x,X))(I:x.plain=some y)(hq:h1 y X):TGl P F fr ops s h1:=by
 intro E a w hm r hn k;refine lF (rz:=none) lE ops.toList s x X (.inl rfl) hd e E a w hm r fun E' a' w' x' u fE n7 r' pF=>?_;have:x'=y:=by
  cases x<;>cases x'<;>simp only[HB,s'.plain,aq,reduceCtorEq]at pF I<;>first|exact I|(subst pF;exact I)
 subst this;exact k _ X E' a' w' hq (.of u fE hn) (bE hn n7) r'
theorem TX{ops:Array Oper}{s2:St}(h:j9 F fr s s2)(ht:TGl P F fr ops s2 h1):TGl P F fr ops s h1:=fun E a w hm r hn k=>by
 obtain⟨pD,E2,r2,u2⟩:=h E a w r hn;exact ht E2 a w hm r2 pD fun y X E' a' w' q u n7 r'=>k y X E' a' w' q (u2.trans u) n7 r'
theorem AK{ops:Array Oper}{m:Nat}:∀(l r:List Oper) (i:Nat) (d d':Dr),iJ P cf ops m (l++r) i d=some (.inl d')->∃d1,iJ P cf ops m l i d=some (.inl d1)/\iJ P cf ops m r (i+l.length) d1=some (.inl d')
 | [],r,i,d,d',e=>⟨d,rfl,e⟩
 |o::l,r,i,d,d',e=>by
  simp only[List.cons_append,iJ]at e ⊢;cases h:lP P cf ops m i o d with
  |none=>rw[h]at e;cases e
  |some q=>
   rw[h]at e;cases q with
   |inl d1=>
    simp only at e ⊢;obtain⟨d2,Q,O⟩:=AK l r (i+1) d1 d' e;exact⟨d2,Q,by rw[aP,show i+(l.length+1)=i+1+l.length by omega];exact O⟩
   |inr x=>simp only at e;cases e
theorem AL{ops ops':Array Oper}(hs:ops.size=ops'.size){m:Nat}:∀(l:List Oper) (i:Nat) (d:Dr),(∀o∈l,∀N,fT ops o N=fT ops' o N)->iJ P cf ops m l i d=iJ P cf ops' m l i d
 | [],_,_,_=>rfl
 |o::l,i,d,h=>by
  have e:lP P cf ops m i o d=lP P cf ops' m i o d:=by
   unfold lP;rw[h o (bx ..),hs]
  simp only[iJ];rw[e];cases lP P cf ops' m i o d with
  |none=>rfl
  |some q=>
   cases q with
   |inl d1=>exact AL hs l (i+1) d1 fun o ho=>h o (bj _ ho)
   |inr x=>rfl
theorem Dg{m:Nat}{x:J h2}{k a b:Nat}:∀(l:af),(∀y∈l,ew a y.1=ew b y.1)->gC m l k x a=gC m l k x b
 | [],_=>rfl
 |(i,o)::l,h=>by
  simp only[gC];rw[h _ (bx ..),Dg l fun y hy=>h y (bj _ hy)]
theorem Ky{ops:Array Oper}{m i:Nat}{d d':Dr}(e:lP P cf ops m i D3 d=some (.inl d')):d'.N=d.N/\d'.cur=d.cur/\d'.dA=d.dA/\d'.n=d.n:=by
 unfold lP at e;simp only[fT,D3,pP,aM,cz,dS,iP,kF,jw,Nat.beq_refl,if_true,oK,aq,Sum.inl.injEq]at e;subst e;exact⟨rfl,rfl,rfl,rfl⟩
theorem LI(lE:gA P cf)(K:P.follows .mixedOrders=true)(B:eL fr c=true)(hl:EN c=true)(e:gD P cf n0 (TW c) s=some (.normal,X))(h:TGl P F fr (yB c).toArray X h1):TG P F fr c s h1:=by
 cases c<;>try (simp only[EN,aM]at hl;done)
 rename_i id ops BU;cases BU with
 |false=>simp only[EN,aM]at hl
 |true=>
 simp only[EN,ay]at hl;obtain⟨Q,O,h3,h4⟩:=hl;have Q:0<ops.size:=bR Nat.zero_lt_one (az Q);have O:=aA O;obtain⟨gM,my⟩:∃gM,gM+1=ops.size:=⟨ops.size-1,H⟩;have Fx:ops.size-1=gM:=by omega
 rw[Fx]at O h3 h4;have eO:gM<ops.size:=by omega
 have ho:ops[gM]? =some ops[gM]:=bf eO;have Hh:ops.toList.drop gM=[ops[gM]]:=by
  rw[b9 (by simpa using eO),List.drop_eq_nil_of_le (by simp;omega)];rfl
 have hLO:yB (.region id ops true)=[ops[gM]]:=by simp only[yB];rw[Fx,Hh]
 rw[hLO]at h;have Sg:(ops[gM]).guard=none:=by
  rw[Hh]at h4;simpa using h4
 simp only[eL,ay,if_true]at B;have SL:=Ck B.2;simp only[TW,gD,drawn]at e;have vL:(ops.pop.push D3).size=ops.size:=by simp;omega
 rw[vL]at e;have ug:(ops.pop.push D3).toList=ops.toList.take gM++[D3]:=by
  simp only[Array.toList_push,Array.toList_pop];rw[List.dropLast_eq_take,Array.length_toList,Fx]
 rw[ug]at e;split at e
 case isFalse=>cases e
 rename_i gL;split at e
 case h_2=>cases e
 case h_3=>cases e
 rename_i d' R8;simp only[aq,aF,true_and]at e;obtain⟨d,NS,Cr⟩:=AK _ _ _ _ _ R8;have ams:lP P cf (ops.pop.push D3) s.n (0+(ops.toList.take gM).length) D3 d=some (.inl d'):=by
  simp only[iJ]at Cr;split at Cr
  . rename_i q hq;simp only[aq,Sum.inl.injEq]at Cr;rw[hq,Cr]
  . rename_i I;exact absurd Cr (I d')
 obtain⟨q1,q2,q3,q4⟩:=Ky ams;have adE:iJ P cf ops s.n (ops.toList.take gM) 0 { N:=s.N,eC:=[],cur:=(0,s.h),od:=[],last:=none,dA:=[],reads:=[],n:=s.n+ops.size }=some (.inl d):=by
  rw[<- NS];refine AL vL.symm _ _ _ fun o hom N=>?_;unfold fT;cases hg:o.guard with
  |none=>rfl
  |some q=>
   obtain⟨j,Fa⟩:=q;have:=br.1 h3 o (cJ hom);rw[hg]at this;have hj:j≠gM:=fun e=>by subst e;simp at this
   have:ops[j]? =(ops.pop.push D3)[j]?:=by
    rw[Array.getElem?_push];by_cases SB:j=gM
    . exact absurd SB hj
    . rw[aB (by simp;omega),Array.getElem?_pop];by_cases q:j<gM
      . first|rw[aG H]|rw[aB H]
      . rw[Array.getElem?_eq_none H];split
        . exfalso;omega
        . rfl
   simp only[this]
 have init:=wP (P:=P) (cf:=cf) (ops:=ops) (F:=s.n) s.N s.h;obtain⟨val,dL,f⟩:=zY (fr:=fr) SL _ 0 _ _ _ _ (ops.toList.drop gM) (by simp) init adE;rw[show 0+(ops.toList.take gM).length=gM by simp;omega]at f;have Eo:gC s.n d.dA d.cur.1 d.cur.2 (2^gM-1)=X.h:=by
  rw[<- e];simp only[q2,q3];refine Dg _ fun y hy=>?_;have:=f.dA y hy;unfold ew;rw[cS,cS];simp;omega
 have n7:d.n=X.n:=by rw[<- e];exact q4.symm
 have amt:d.N=X.N:=by rw[<- e];exact q1.symm
 have Wo:X.ij=s.ij:=by rw[<- e]
 intro E a w hm r hn k;refine wpIn_wide (n:=0) |>.1 ?_;refine QD (rz:=none) lE SL K my ho Sg gL O adE r.good r.qu r.N r.size fun E' a' w' K' u fE p7 kK vy WV NR hK=>?_;rw[Eo]at u;rw[n7]at p7 kK;rw[amt]at vy;have Js:jY E' fr X a' w':=⟨u.good,p7,vy,WV,by rw[Wo,NR];exact jI u.le _ _ r.ij⟩;have hu:kB F E s.h w E' X.h w':=.of u fE hn;have:=h E' a' w' hm Js (bE hn kK) fun y s2 E2 a2 w2 q u2 pD r2=>k y s2 E2 a2 w2 q (hu.trans u2) pD r2;unfold wpListIn at this;rw[aG (by unfold Region.wanted;rw[Sg])]at this;exact Oper.wpIn_mono (fun a w hh=>hK a w hh) this
theorem j9.fz{s2:St}(ms:List Nat){aj:ah}(e:NV ms s=some (aj,s2))(hA:∀x∈aj,x):j9 F fr s s2:=fun E a w r hn=>by
 obtain⟨E2,r2,u2,pD,_⟩:=pJ e hA r hn;exact⟨pD,E2,r2,u2⟩
theorem BC{X':CX P}{dm:List (Nat×lM)}{fn:Func}{live:List Nat}{iX:ag}{hL:List (List (Bool×Bool)×ah×jL)}(hr:dj P X'.R dm n0 F fn live c s iX hL)
  (h:∀g∈hL,(∀b∈g.1,b.1=b.2)->(∀a∈g.2.1,a)/\∃s1,g.2.2= .to .normal s1):∃g∈hL,(∀b∈g.1,b.1=b.2)/\∃s1 X,g.2.2= .to .normal s1/\ld F live X=some s1/\gD P X'.cf n0 c s=some (.normal,X):=by
 obtain⟨e1,e2,e3⟩:=hr.parts;obtain⟨l,hl⟩:=bH.1 e1;unfold uU wW at e2;unfold CI at e3;rw[hl]at e2 e3;simp only[tS]at e2 e3;obtain⟨⟨p,hp,ho⟩,O⟩:=ko P X'.R X'.cf dm X'.snd n0 c s l hl;have hg:=e3▸mD (f:=nw P F fn live) hp;obtain⟨hA,s1,pW⟩:=h (p.1.conds,p.1.NU,nw P F fn live p.2) hg ho;have gm:=O p hp ho ⟨qF l e2 p hp,hA⟩;refine⟨_,hg,ho,s1,?_⟩;obtain⟨pp,x,X⟩:=p;simp only[nw]at pW ⊢;cases x with
 |normal=>
  simp only at pW ⊢;split at pW
  . rename_i s2 pH;cases pW;exact⟨X,rfl,pH,gm⟩
  . cases pW
 |exit i=>
  simp only at pW;split at pW<;>cases pW
 |ret=>
  simp only at pW;split at pW<;>cases pW
 |panic _=>cases pW
theorem Yn(X1 X2:CX P)(K:P.follows .mixedOrders=true)(B:(eL fr c&&(EN c&&eL fr (IB c)))=true){dm H2:List (Nat×lM)}{fn:Func}{live yC:List Nat}{iX L2:ag}{aj:ah}{s1 s2:St}{hL:List (List (Bool×Bool)×ah×jL)}
  (hr:dj P X1.R dm n0 F fn live (TW c) s iX [([],aj,.to .normal s1)]) (hA:∀a∈aj,a) (hf:j9 F fr s1 s2) (hr2:dj P X2.R H2 n0 F fn yC (IB c) s2 L2 hL)
  (h:∀g∈hL,(∀b∈g.1,b.1=b.2)->(∀a∈g.2.1,a)/\∃s3,g.2.2= .to .normal s3/\∀X,ld F yC X=some s3->h1 .normal X):TG P F fr c s h1:=by
 simp only[ay]at B;obtain⟨g,hg,_,s1',X,pW,DN,he⟩:=BC hr fun g hg _=>by rw[aH]at hg;subst hg;exact⟨hA,s1,rfl⟩
 rw[aH]at hg;subst hg;cases pW;refine LI X1.ok K B.1 B.2.1 he ?_;refine TX ((j9.norm DN).trans hf) ?_;obtain⟨g,hg,ho,s3,X,Lz,Jb,he2⟩:=BC hr2 fun g hg ho=>by
  obtain⟨Q,s3,O,_⟩:=h g hg ho;exact⟨Q,s3,O⟩
 obtain⟨_,s3',e3,hq⟩:=h g hg ho;rw[Lz]at e3;cases e3;have hd:=B.2.2;simp only[IB,eL,ay]at hd;simp only[IB,gD]at he2;exact QE X2.ok (fun o ho d hod=>by have:=br.1 hd.1 o ho;rw[hod]at this;simpa using this) he2 rfl (hq X Jb)
end
end Go.Eng
