/- Lemmas of the engine. No conditions. -/
import Derived.Test.YtmjggdmekboefaaGreatJointW04
set_option linter.unusedVariables false
set_option linter.unusedSimpArgs false
set_option linter.unusedSectionVars false
namespace Go.Eng
open Go Go.RowKit
section
variable{P:Program}{cf:fL}{ops:Array Oper}{N n0 gH:Nat}{h0:I O}{kO:I V}{val:Nat->V}{dJ:List tQ}{d:Dr}{E0:Env}{w0:World}{xP:List Deferred}
variable{h1:Exit->Act->World->Prop}{qU:Option Nat}
theorem JS{eU:Array Bool}(h:∀i,i<ops.size->eU.getD i true=true):Region.ready .any ops eU=[]:=by
 rw[List.eq_nil_iff_forall_not_mem];intro j hj;obtain⟨Q,o,ho,_⟩:=mem_ready.1 hj;rw[h j (aT.1 ho).1]at Q;cases Q
theorem JT(lA:gq P cf)(hr:kU ops n0)(hl:gH+1=ops.size)(f:mw P cf ops N h0 kO val dJ gH d)(ht:∀y∈d.dx,N+y.1<fV)
  (hP:∀hm ms fm E a w o,Inv ops N n0 gH h0 kO val dJ d.dx E0 w0 xP hm ms fm E a w->ops[gH]? =some o->
   (∀e∈o.after,Region.binds .any e=true->hm e.on=true)->hm gH=false->(∀i,i<gH->hm i=true)/\∀hc:Act->World->Prop,(∀a w,h1 .normal a w->hc a w)->wpOpIn (fz qU) 0 P ops h1 gH hc a w):
  ∀(fuel:Nat) (eU:Array Bool) (ms fm:Nat) (E:Env) (a:Act) (w:World),eU.size=ops.size->KI ops.size eU<=fuel->
   Inv ops N n0 gH h0 kO val dJ d.dx E0 w0 xP (fun i=>eU.getD i false) ms fm E a w->wpAnyIn (fz qU) 0 P .any ops h1 fuel eU a w:=by
 have done:∀(eU:Array Bool) (ms fm:Nat) (E:Env) (a:Act) (w:World),eU.size=ops.size->Inv ops N n0 gH h0 kO val dJ d.dx E0 w0 xP (fun i=>eU.getD i false) ms fm E a w->
   Region.ready .any ops eU=[]->h1 .normal a w:=by
  intro eU ms fm E a w hs Tr sL;have all:∀i,i<ops.size->eU.getD i false=true:=by
   intro i
   induction i using Nat.strongRecOn with
   |_ i ih=>
    intro hi;cases q:eU.getD i false with
    |true=>rfl
    |false=>
     exfalso;have ho:ops[i]? =some ops[i]:=aZ hi;have:i∈Region.ready .any ops eU:=mem_ready.2 ⟨by
      rw[bG,aZ G]at q ⊢;exact q,ops[i],ho,fun e he hb=>by
      have:=hr.vI i _ ho e he hb;exact ih e.on this G⟩
     rw[sL]at this;simp at this
  have:=Tr.NX gH (all gH G);omega
 intro fuel
 induction fuel with
 |zero=>
  intro eU ms fm E a w hs hu Tr;have sL:Region.ready .any ops eU=[]:=by
   rw[List.eq_nil_iff_forall_not_mem];intro j hj;obtain⟨Q,o,ho,_⟩:=mem_ready.1 hj;have Uh:=(aT.1 ho).1;have hz:KI ops.size eU=0:=by omega
   unfold KI at hz;have:=cF.2 hz;have S:j∈(List.range ops.size).filter fun i=>!eU.getD i false:=List.mem_filter.2 ⟨bH.2 Uh,by
    rw[bG,aZ G]at Q ⊢;simp at Q;simp[Q]⟩
   rw[this]at S;simp at S
  exact⟨sL,done eU ms fm E a w hs Tr sL⟩
 |succ fuel ih=>
  intro eU ms fm E a w hs hu Tr;refine⟨done eU ms fm E a w hs Tr,fun j hj=>?_⟩;obtain⟨Q,o,ho,hd⟩:=mem_ready.1 hj;have Uh:=(aT.1 ho).1;have w6:eU.getD j false=false:=by
   rw[bG,aZ G]at Q ⊢;exact Q
  by_cases M0:j<gH
  . refine Tr.step lA hr G f ht ho M0 w6 hd fun J' E' a' w' I'=>?_;refine ih _ (ms|||2^j) J' E' a' w' (by simp;exact hs) ?_ ?_
    . have:KI ops.size (eU.setIfInBounds j true)<KI ops.size eU:=by
       refine filter_lt (x:=j) (bH.2 Uh) (by rw[w6];rfl) (by rw[nL G];simp) fun y hy=>?_;rw[nL G]at hy;simp at hy ⊢;exact hy.1
      omega
    . have:(fun i=>(eU.setIfInBounds j true).getD i false)=fun i=>(eU.getD i false||decide (i=j)):=funext fun i=>nL G i;rw[this];exact I'
  . have:j=gH:=by omega
    subst this;obtain⟨p1,p2⟩:=hP _ ms fm E a w o Tr ho hd w6;refine p2 _ fun a' w' hq=>?_;have hn:Region.ready .any ops (eU.setIfInBounds j true)=[]:=JS fun i hi=>by
     have:(eU.setIfInBounds j true).getD i false=true:=by
      rw[nL G];by_cases e:i=j
      . simp[e]
      . rw[p1 i G];rfl
     rw[bG,aZ (by simp;omega)]at this ⊢;exact this
    cases fuel with
    |zero=>exact⟨hn,hq⟩
    |succ fuel=>exact⟨fun _=>hq,fun j hj=>by rw[hn]at hj;cases hj⟩
theorem zI(hr:kU ops n0):∀(l:List Oper) (i:Nat) (d d':Dr) (val:Nat->V) (dJ:List tQ) (r:List Oper),l++r=ops.toList.drop i->mw P cf ops N h0 kO val dJ i d->iE P cf ops N l i d=some (.inl d')->
  ∃ic pM,mw P cf ops N h0 kO ic pM (i+l.length) d'
 | [],i,d,d',val,dJ,_,_,f,e=>by
   simp only[iE,aq,Sum.inl.injEq]at e;subst e;exact⟨val,dJ,f⟩
 |o::l,i,d,d',val,dJ,r,hl,f,e=>by
  have ho:ops[i]? =some o:=by
   have:=aH (fun x=>x[0]?) hl;simp at this;exact this.symm
  have Z2:l++r=ops.toList.drop (i+1):=by
   have:=aH List.tail hl;simpa using this
  simp only[iE]at e;split at e
  . rename_i A hs;obtain⟨ic,pM,f'⟩:=BX hr ho f hs;obtain⟨v2,e2,f2⟩:=zI hr l (i+1) A d' ic pM r Z2 f' e;exact⟨v2,e2,by rw[aR,show i+(l.length+1)=i+1+l.length by omega];exact f2⟩
  . rename_i x H;exact absurd e (H d')
end
theorem PV{qU:Option Nat}{P:Program}{cf:fL}{ops:Array Oper}{n0 id gH:Nat}{s:St}{d:Dr}{o:Oper}{E0:Env}{a0:Act}{w0:World}{h1:Exit->Act->World->Prop}(lA:gq P cf)(hr:kU ops n0)(S:P.follows .mixedOrders=true)
  (mg:gH+1=ops.size) (ho:ops[gH]? =some o) (Rm:o.guard=none) (gF:s.n+ops.size<fV) (hb:iD ops gH+1=2^gH)
  (e:iE P cf ops s.n (ops.toList.take gH) 0 { F:=s.F,eA:=[],cur:=(0,s.h),nZ:=[],last:=none,dx:=[],reads:=[],n:=s.n+ops.size }=some (.inl d)) (g:Good E0 s.h w0) (hd:pH E0 s.n) (hf:wh E0 s.F a0) (hN:a0.tmps.size=n0)
  (hq:∀E' a' w' (hc:Act->World->Prop),iL E0 s.h w0 E' (gu s.n d.dx d.cur.1 d.cur.2 (2^gH-1)) w'->(∀k,k<s.n->E'.ι k=E0.ι k)->pH E' d.n->s.n<=d.n->wh E' d.F a'->a'.tmps.size=n0->a'.defers=a0.defers->(∀a w,h1 .normal a w->hc a w)->o.wpIn (fz qU) 0 P a' w' hc h1):
  (Code.region id ops true).wpIn (fz qU) 0 P h1 a0 w0:=by
 refine wpIn_region_any S ?_;have init:=wv (P:=P) (cf:=cf) (ops:=ops) (N:=s.n) s.F s.h;have start:∀(gH:Nat) (val:Nat->V) (dJ:List tQ) (dx:af),Inv ops s.n n0 gH s.h s.F val dJ dx E0 w0 a0.defers (fun i=>(Array.replicate ops.size false).getD i false) 0 0 E0 a0 { w0 with drawn:=w0.drawn+1 }:=by
  intro gH val dJ dx;have hS:∀i,(Array.replicate ops.size false).getD i false=false:=by
   intro i;rw[bG];by_cases q:i<ops.size
   . rw[aZ (by simpa using q)];simp
   . rw[Array.getElem?_eq_none (by simpa using q)];rfl
  have NT:∀k,(gu s.n dx (eE s.h (s.n+ops.size) dJ 0).1 (eE s.h (s.n+ops.size) dJ 0).2.1 0).get k=s.h.get k:=by
   intro k;have:∀l:af,gu s.n l (eE s.h (s.n+ops.size) dJ 0).1 (eE s.h (s.n+ops.size) dJ 0).2.1 0=s.h:=by
    intro l
    induction l with
    |nil=>rfl
    |cons y l ih=>obtain⟨i,b⟩:=y;simp only[gu,jb,aP,aM,cr];exact ih
   rw[this]
  refine⟨fun i=>by rw[jb,hS],fun i hi=>?_,fun j o hj=>?_,fun c e' _=>?_,aS _,fun j o t hj=>?_,fun t v hv _=>hf t v hv,(iL.drew g).ext NT,fun _ _=>rfl,fun k p hp=>?_,fun i _ _=>?_,aK _,hN,rfl⟩
  . rw[hS]at hi;cases hi
  . rw[hS]at hj;cases hj
  . rw[hS];constructor
    . intro q;cases q
    . intro q;omega
  . rw[hS]at hj;cases hj
  . by_cases q:k<s.n
    . exact .inl q
    . rw[hd k G]at hp;cases hp
  . show s.h.get (s.n+i)=none;cases q:s.h.get (s.n+i)with
    |none=>rfl
    |some o=>
     obtain⟨b,t,Q,_⟩:=g.rel _ _ q;rw[hd _ G]at Q;cases Q
 have hu0:KI ops.size (Array.replicate ops.size false)<=ops.size:=by
  unfold KI;exact bC (List.length_filter_le _ _) (by simp)
 obtain⟨val,dJ,f⟩:=zI (n0:=n0) hr _ 0 _ _ _ _ (ops.toList.drop gH) (by simp) init e;rw[show 0+(ops.toList.take gH).length=gH by simp;omega]at f;have ht:∀y∈d.dx,s.n+y.1<fV:=fun y hy=>by have:=f.dx y hy;omega
 refine JT lA hr mg f ht (fun hm ms fm E a w o' Tr Dg GV hSl=>?_) ops.size _ 0 0 E0 a0 _ (by simp) hu0 (start gH val dJ d.dx);rw[ho]at Dg;cases Dg;have GU:∀i,i<gH->ek (iD ops gH) i=true:=fun i hi=>by
  have:iD ops gH=2^gH-1:=by omega
  rw[this];unfold ek;rw[cQ];simpa using hi
 have wz:∀i,i<gH->hm i=true:=fun i hi=>rG hr Tr.closed ho GV (GU i hi);refine⟨wz,fun hc hK=>?_⟩;have hJ:fm=dJ.length:=by
  have Q:=Tr.Zg;by_cases q:fm<dJ.length
  . have he:dJ[fm]? =some dJ[fm]:=au q;have:=(Tr.Dl fm _ he).1 (wz _ (f.tB fm _ he).1);omega
  . omega
 have ec1:d.cur.1=(eE s.h (s.n+ops.size) dJ fm).1:=by rw[hJ,f.cur]
 have ec2:d.cur.2=(eE s.h (s.n+ops.size) dJ fm).2.1:=by rw[hJ,f.cur]
 have en:d.n=(eE s.h (s.n+ops.size) dJ fm).2.2:=by rw[hJ,f.n]
 unfold wpOpIn;simp only[ho];rw[aE (by unfold Region.wanted;rw[Rm])];refine hq E a w hc ?_ Tr.old ?_ ?_ ?_ Tr.size Tr.gZ hK
 . refine Tr.tA.ext fun k=>?_;simp only[ec1,ec2];have NZ:∀i,i<gH->ek (2^gH-1) i=true:=fun i hi=>by
    unfold ek;rw[cQ];simpa using hi
   rcases iT (N:=s.n) (x:=(eE s.h (s.n+ops.size) dJ fm).2.1) (m:=(eE s.h (s.n+ops.size) dJ fm).1) (ia:=2^gH-1) ht f.one k with⟨i,b,k1,k2,k3,k4,k5⟩|⟨k1,k2⟩
   . subst k4;rw[k5,ji ht f.one k1 (by rw[Tr.bits];exact wz i (f.dx _ k1)) k3]
   . rw[k2,nK ht fun i b q1 q2 q3=>k1 i b q1 (NZ i (f.dx _ q1)) q3]
 . rw[en];exact Tr.RJ G
 . rw[en];have:=Tr.CV;omega
 . intro t v hv;by_cases q:∃j o,j<gH/\ops[j]? =some o/\o.dst=some t
   . obtain⟨j,o2,q1,q2,q3⟩:=q;have:=f.F.new j o2 t q1 q2 q3;rw[this]at hv;cases hv;exact Tr.f1 j o2 t (wz j q1) q2 q3
   . have:=f.F.old t fun i o hi ho KH=>q ⟨i,o,hi,ho,KH⟩;rw[this]at hv;exact Tr.f2 t v hv fun j o hj ho KH=>q ⟨j,o,Tr.NX j hj,ho,KH⟩
def Dx:Oper:={ dst:=none,op:=.move (.func 0),type:=0,pos:= "",after:=#[],guard:=none }
def S2:Code->Code
 | .region id ops true=>.region id (ops.pop.push Dx) true
 |c=>c
def yg:Code->List Oper
 | .region _ ops true=>ops.toList.drop (ops.size-1)
 |_=>[]
def HS(c:Code):Code:=.region 0 (yg c).toArray false
def Eh:Code->Bool
 | .region _ ops true=>Nat.blt 0 ops.size&&(Nat.beq (iD ops (ops.size-1)+1) (2^(ops.size-1))&&((ops.toList.all fun o=>match o.guard with|some (j,_)=>!Nat.beq j (ops.size-1)|none=>true)&&(ops.toList.drop (ops.size-1)).all fun o=>o.guard.isNone))
 |_=>false
def TGl(P:Program)(N n0:Nat)(ops:Array Oper)(s:St)(h1:Exit->St->Prop):Prop:=
 ∀(E:Env) (a:Act) (w:World) (hc:Exit->Act->World->Prop),jT E n0 s a w->N<=s.n->
  (∀y A E' a' w',h1 y A->kK N E s.h w E' A.h w'->N<=A.n->jT E' n0 A a' w'->hc y a' w')->wpListIn (fz none) 0 P ops hc ops.toList a w
section
variable{P:Program}{cf:fL}{fr N n0:Nat}{c:Code}{s A:St}{h1 Q1:Exit->St->Prop}
theorem PW(lA:gq P cf){x:es}{y:Exit}{ops:Array Oper}(hd:∀o∈ops.toList,mU n0 o.dst)(e:jg P cf ops ops.toList s=some (x,A))(H:x.plain=some y)(hq:h1 y A):TGl P N n0 ops s h1:=by
 intro E a w hc r hn k;refine lB (qU:=none) lA ops.toList s x A (.inl rfl) hd e E a w hc r fun E' a' w' x' u fq nV r' o6=>?_;have:x'=y:=by
  cases x<;>cases x'<;>simp only[GS,es.plain,aq,reduceCtorEq]at o6 H<;>first|exact H|(subst o6;exact H)
 subst this;exact k _ A E' a' w' hq (.of u fq hn) (bC hn nV) r'
theorem S3{ops:Array Oper}{s2:St}(h:lO N n0 s s2)(ht:TGl P N n0 ops s2 h1):TGl P N n0 ops s h1:=fun E a w hc r hn k=>by
 obtain⟨o4,E2,r2,u2⟩:=h E a w r hn;exact ht E2 a w hc r2 o4 fun y A E' a' w' q u nV r'=>k y A E' a' w' q (u2.trans u) nV r'
theorem As{ops:Array Oper}{m:Nat}:∀(l r:List Oper) (i:Nat) (d d':Dr),iE P cf ops m (l++r) i d=some (.inl d')->∃d1,iE P cf ops m l i d=some (.inl d1)/\iE P cf ops m r (i+l.length) d1=some (.inl d')
 | [],r,i,d,d',e=>⟨d,rfl,e⟩
 |o::l,r,i,d,d',e=>by
  simp only[List.cons_append,iE]at e ⊢;cases h:lM P cf ops m i o d with
  |none=>rw[h]at e;cases e
  |some q=>
   rw[h]at e;cases q with
   |inl d1=>
    simp only at e ⊢;obtain⟨d2,Q,R⟩:=As l r (i+1) d1 d' e;exact⟨d2,Q,by rw[aR,show i+(l.length+1)=i+1+l.length by omega];exact R⟩
   |inr x=>simp only at e;cases e
theorem At{ops ops':Array Oper}(hs:ops.size=ops'.size){m:Nat}:∀(l:List Oper) (i:Nat) (d:Dr),(∀o∈l,∀F,fP ops o F=fP ops' o F)->iE P cf ops m l i d=iE P cf ops' m l i d
 | [],_,_,_=>rfl
 |o::l,i,d,h=>by
  have e:lM P cf ops m i o d=lM P cf ops' m i o d:=by
   unfold lM;rw[h o (bz ..),hs]
  simp only[iE];rw[e];cases lM P cf ops' m i o d with
  |none=>rfl
  |some q=>
   cases q with
   |inl d1=>exact At hs l (i+1) d1 fun o ho=>h o (bj _ ho)
   |inr x=>rfl
theorem CJ{m:Nat}{x:I O}{k a b:Nat}:∀(l:af),(∀y∈l,ek a y.1=ek b y.1)->gu m l k x a=gu m l k x b
 | [],_=>rfl
 |(i,o)::l,h=>by
  simp only[gu];rw[h _ (bz ..),CJ l fun y hy=>h y (bj _ hy)]
theorem JU{ops:Array Oper}{m i:Nat}{d d':Dr}(e:lM P cf ops m i Dx d=some (.inl d')):d'.F=d.F/\d'.cur=d.cur/\d'.dx=d.dx/\d'.n=d.n:=by
 unfold lM at e;simp only[fP,Dx,pq,aM,cr,dO,iK,kx,jn,Nat.beq_refl,if_true,ox,aq,Sum.inl.injEq]at e;subst e;exact⟨rfl,rfl,rfl,rfl⟩
theorem K8(lA:gq P cf)(S:P.follows .mixedOrders=true)(K:eJ n0 c=true)(hl:Eh c=true)(e:gv P cf fr (S2 c) s=some (.normal,A))(h:TGl P N n0 (yg c).toArray A h1):TG P N n0 c s h1:=by
 cases c<;>try (simp only[Eh,aM]at hl;done)
 rename_i id ops Bw;cases Bw with
 |false=>simp only[Eh,aM]at hl
 |true=>
 simp only[Eh,ay]at hl;obtain⟨Q,R,h3,h4⟩:=hl;have Q:0<ops.size:=bM Nat.zero_lt_one (az Q);have R:=aA R;obtain⟨gH,mg⟩:∃gH,gH+1=ops.size:=⟨ops.size-1,G⟩;have EV:ops.size-1=gH:=by omega
 rw[EV]at R h3 h4;have eM:gH<ops.size:=by omega
 have ho:ops[gH]? =some ops[gH]:=aZ eM;have Gz:ops.toList.drop gH=[ops[gH]]:=by
  rw[bY (by simpa using eM),List.drop_eq_nil_of_le (by simp;omega)];rfl
 have hLO:yg (.region id ops true)=[ops[gH]]:=by simp only[yg];rw[EV,Gz]
 rw[hLO]at h;have Rm:(ops[gH]).guard=none:=by
  rw[Gz]at h4;simpa using h4
 simp only[eJ,ay,if_true]at K;have RR:=BT K.2;simp only[S2,gv,drawn]at e;have EN:(ops.pop.push Dx).size=ops.size:=by simp;omega
 rw[EN]at e;have vp:(ops.pop.push Dx).toList=ops.toList.take gH++[Dx]:=by
  simp only[Array.toList_push,Array.toList_pop];rw[List.dropLast_eq_take,Array.length_toList,EV]
 rw[vp]at e;split at e
 case isFalse=>cases e
 rename_i gF;split at e
 case h_2=>cases e
 case h_3=>cases e
 rename_i d' Re;simp only[aq,aF,true_and]at e;obtain⟨d,M2,BZ⟩:=As _ _ _ _ _ Re;have ala:lM P cf (ops.pop.push Dx) s.n (0+(ops.toList.take gH).length) Dx d=some (.inl d'):=by
  simp only[iE]at BZ;split at BZ
  . rename_i q hq;simp only[aq,Sum.inl.injEq]at BZ;rw[hq,BZ]
  . rename_i H;exact absurd BZ (H d')
 obtain⟨q1,q2,q3,q4⟩:=JU ala;have acz:iE P cf ops s.n (ops.toList.take gH) 0 { F:=s.F,eA:=[],cur:=(0,s.h),nZ:=[],last:=none,dx:=[],reads:=[],n:=s.n+ops.size }=some (.inl d):=by
  rw[<- M2];refine At EN.symm _ _ _ fun o hom F=>?_;unfold fP;cases hg:o.guard with
  |none=>rfl
  |some q=>
   obtain⟨j,Ex⟩:=q;have:=bq.1 h3 o (cB hom);rw[hg]at this;have hj:j≠gH:=fun e=>by subst e;simp at this
   have:ops[j]? =(ops.pop.push Dx)[j]?:=by
    rw[Array.getElem?_push];by_cases RF:j=gH
    . exact absurd RF hj
    . rw[aB (by simp;omega),Array.getElem?_pop];by_cases q:j<gH
      . first|rw[aE G]|rw[aB G]
      . rw[Array.getElem?_eq_none G];split
        . exfalso;omega
        . rfl
   simp only[this]
 have init:=wv (P:=P) (cf:=cf) (ops:=ops) (N:=s.n) s.F s.h;obtain⟨val,dJ,f⟩:=zI (n0:=n0) RR _ 0 _ _ _ _ (ops.toList.drop gH) (by simp) init acz;rw[show 0+(ops.toList.take gH).length=gH by simp;omega]at f;have DS:gu s.n d.dx d.cur.1 d.cur.2 (2^gH-1)=A.h:=by
  rw[<- e];simp only[q2,q3];refine CJ _ fun y hy=>?_;have:=f.dx y hy;unfold ek;rw[cQ,cQ];simp;omega
 have nV:d.n=A.n:=by rw[<- e];exact q4.symm
 have alb:d.F=A.F:=by rw[<- e];exact q1.symm
 have Vy:A.gZ=s.gZ:=by rw[<- e]
 intro E a w hc r hn k;refine wpIn_wide (n:=0) |>.1 ?_;refine PV (qU:=none) lA RR S mg ho Rm gF R acz r.good r.qd r.F r.size fun E' a' w' K' u fq pN lj vb V2 M1 hK=>?_;rw[DS]at u;rw[nV]at pN lj;rw[alb]at vb;have IN:jT E' n0 A a' w':=⟨u.good,pN,vb,V2,by rw[Vy,M1];exact jB u.le _ _ r.gZ⟩;have hu:kK N E s.h w E' A.h w':=.of u fq hn;have:=h E' a' w' hc IN (bC hn lj) fun y s2 E2 a2 w2 q u2 o4 r2=>k y s2 E2 a2 w2 q (hu.trans u2) o4 r2;unfold wpListIn at this;rw[aE (by unfold Region.wanted;rw[Rm])]at this;exact Oper.wpIn_mono (fun a w hh=>hK a w hh) this
theorem lO.fz{s2:St}(ms:List Nat){s':ah}(e:M5 ms s=some (s',s2))(hA:∀x∈s',x):lO N n0 s s2:=fun E a w r hn=>by
 obtain⟨E2,r2,u2,o4,_⟩:=o8 e hA r hn;exact⟨o4,E2,r2,u2⟩
theorem Bf{X':CX P}{hx:List (Nat×lI)}{fn:Func}{live:List Nat}{iX:ag}{di:List (List (Bool×Bool)×ah×jD)}(hr:dh P X'.T hx fr N fn live c s iX di)
  (h:∀g∈di,(∀b∈g.1,b.1=b.2)->(∀a∈g.2.1,a)/\∃s1,g.2.2= .to .normal s1):∃g∈di,(∀b∈g.1,b.1=b.2)/\∃s1 A,g.2.2= .to .normal s1/\kW N live A=some s1/\gv P X'.cf fr c s=some (.normal,A):=by
 obtain⟨e1,e2,e3⟩:=hr.parts;obtain⟨l,hl⟩:=bA.1 e1;unfold uG wF at e2;unfold Ci at e3;rw[hl]at e2 e3;simp only[tE]at e2 e3;obtain⟨⟨p,hp,ho⟩,R⟩:=jZ P X'.T X'.cf hx X'.snd fr c s l hl;have hg:=e3▸my (f:=nr P N fn live) hp;obtain⟨hA,s1,pG⟩:=h (p.1.conds,p.1.M4,nr P N fn live p.2) hg ho;have gi:=R p hp ho ⟨qt l e2 p hp,hA⟩;refine⟨_,hg,ho,s1,?_⟩;obtain⟨pp,x,A⟩:=p;simp only[nr]at pG ⊢;cases x with
 |normal=>
  simp only at pG ⊢;split at pG
  . rename_i s2 qV;cases pG;exact⟨A,rfl,qV,gi⟩
  . cases pG
 |exit i=>
  simp only at pG;split at pG<;>cases pG
 |ret=>
  simp only at pG;split at pG<;>cases pG
 |panic _=>cases pG
theorem Xt(X1 X2:CX P)(S:P.follows .mixedOrders=true)(K:(eJ n0 c&&(Eh c&&eJ n0 (HS c)))=true){hx H2:List (Nat×lI)}{fn:Func}{live yh:List Nat}{iX L2:ag}{s':ah}{s1 s2:St}{di:List (List (Bool×Bool)×ah×jD)}
  (hr:dh P X1.T hx fr N fn live (S2 c) s iX [([],s',.to .normal s1)]) (hA:∀a∈s',a) (hf:lO N n0 s1 s2) (hr2:dh P X2.T H2 fr N fn yh (HS c) s2 L2 di)
  (h:∀g∈di,(∀b∈g.1,b.1=b.2)->(∀a∈g.2.1,a)/\∃s3,g.2.2= .to .normal s3/\∀A,kW N yh A=some s3->h1 .normal A):TG P N n0 c s h1:=by
 simp only[ay]at K;obtain⟨g,hg,_,s1',A,pG,De,he⟩:=Bf hr fun g hg _=>by rw[aG]at hg;subst hg;exact⟨hA,s1,rfl⟩
 rw[aG]at hg;subst hg;cases pG;refine K8 X1.ok S K.1 K.2.1 he ?_;refine S3 ((lO.norm De).trans hf) ?_;obtain⟨g,hg,ho,s3,A,KY,Iu,ZC⟩:=Bf hr2 fun g hg ho=>by
  obtain⟨Q,s3,R,_⟩:=h g hg ho;exact⟨Q,s3,R⟩
 obtain⟨_,s3',e3,hq⟩:=h g hg ho;rw[KY]at e3;cases e3;have hd:=K.2.2;simp only[HS,eJ,ay]at hd;simp only[HS,gv]at ZC;exact PW X2.ok (fun o ho d hod=>by have:=bq.1 hd.1 o ho;rw[hod]at this;simpa using this) ZC rfl (hq A Iu)
end
end Go.Eng
