/- Lemmas of the engine. No conditions. -/
import Derived.Test.YtmjggdmekboefaaGreatJointW01
import Derived.OrdersIn
import Derived.Recover
import Derived.LoopN
import Derived.LoopNIn
import Derived.RangeFuncRecord
import Derived.RangeFuncIn
import Derived.RangeFuncLeaves
import Derived.Below
set_option linter.unusedVariables false
set_option linter.unusedSimpArgs false
set_option linter.unusedSectionVars false
namespace Go.Eng
open Go
section
variable{P:Program}{cf:fO}{ops:Array Oper}{F fr gM:Nat}{h0:J h2}{kT:J V}{val:Nat->V}{dL:List uh}{d:Dr}{E0:Env}{w0:World}{x9:List Deferred}
variable{fm:Nat->Bool}{ms Tr:Nat}{E:Env}{a:Act}{w:World}{h1:Exit->Act->World->Prop}{hm:Act->World->Prop}
theorem Inv.SF{dA:af}(hx:Inv ops F fr gM h0 kT val dL dA E0 w0 x9 fm ms Tr E a w)(hl:gM<=ops.size):pX E (eI h0 (F+ops.size) dL Tr).2.2:=by
 intro k W;cases q:E.ι k with
 |none=>rfl
 |some p=>
  have B:=hx.Cq;rcases hx.qu k p q with h|⟨i,b,_,O,h3⟩|h
  . omega
  . have:=hx.OH i O;omega
  . omega
theorem Inv.sub(_hr:k8 ops fr)(hl:gM<=ops.size)(f:mC P cf ops F h0 kT val dL gM d)(ht:∀y∈d.dA,F+y.1<fZ)(hx:Inv ops F fr gM h0 kT val dL d.dA E0 w0 x9 fm ms Tr E a w)
  {ik:Nat} (ha:∀k,ew ik k=true->fm k=true):
  Sub (gC F d.dA (eI h0 (F+ops.size) dL Tr).1 (eI h0 (F+ops.size) dL Tr).2.1 ik) (gC F d.dA (eI h0 (F+ops.size) dL Tr).1 (eI h0 (F+ops.size) dL Tr).2.1 ms):=by
 intro k o W;rcases iZ (x:=(eI h0 (F+ops.size) dL Tr).2.1) (m:=(eI h0 (F+ops.size) dL Tr).1) (ik:=ik) ht f.one k with⟨i,b,Q,O,h3,h4,h5⟩|⟨Q,O⟩
 . rw[h5]at W;cases W;subst h4;exact jm ht f.one Q (by rw[hx.bits];exact ha i O) h3
 . rw[O]at W;rcases iZ (x:=(eI h0 (F+ops.size) dL Tr).2.1) (m:=(eI h0 (F+ops.size) dL Tr).1) (ik:=ms) ht f.one k with⟨i,b,g1,g2,g3,g4,g5⟩|⟨g1,g2⟩
   . subst g4;have hi:=hx.OH i (by rw[<- hx.bits];exact g2);rw[hx.free i H g3]at W;cases W
   . rw[g2];exact W
theorem nc(hb:∀i,ew ms i=fm i)(j:Nat):∀i,ew (ms|||2^j) i=(fm i||decide (i=j)):=by
 intro i;rw[zi,Ci,hb];by_cases q:i=j
 . subst q;simp
 . have:¬j=i:=fun e=>q e.symm;simp[q,this]
theorem Inv.quiet(hr:k8 ops fr)(_hl:gM<=ops.size)(_f:mC P cf ops F h0 kT val dL gM d)(hx:Inv ops F fr gM h0 kT val dL d.dA E0 w0 x9 fm ms Tr E a w)
  {j:Nat} {o:Oper} (ho:ops[j]? =some o) (hj:j<gM) (xx:fm j=false) (hd:∀e∈o.after,Region.binds .any e=true->fm e.on=true) (Cn:∀(c:Nat) (e:uh),dL[c]? =some e->e.1≠j)
  {E':Env} {w':World} {v':Value} (hv:dV E' (val j) v') (hu:iQ E0 h0 w0 E' (gC F d.dA (eI h0 (F+ops.size) dL Tr).1 (eI h0 (F+ops.size) dL Tr).2.1 (ms|||2^j)) w') (kK:E.le E')
  (og:∀k,k<F->E'.ι k=E.ι k) (p7:∀k p,E'.ι k=some p->E.ι k=some p\/(∃b,(j,b)∈d.dA/\k=F+j)):
  Inv ops F fr gM h0 kT val dL d.dA E0 w0 x9 (fun i=>fm i||decide (i=j)) (ms|||2^j) Tr E' (a.put o.dst v') w':=by
 obtain⟨g1,g2⟩:=hx.frame hr ho kK hv;refine⟨nc hx.bits j,fun i hi=>?_,fun i q hi hq e he hb=>?_,fun c e he=>?_,hx.Jle,g1,g2,hu,fun k W=>by rw[og k W];exact hx.old k W,fun k p hp=>?_,hx.free,hx.Cq,by rw[lT];exact hx.size,by rw[jH];exact hx.ij⟩
 . rcases bX _ _ |>.mp hi with h|h
   . exact hx.OH i h
   . simp at h;omega
 . rcases bX _ _ |>.mp hi with h|h
   . rw[hx.closed i q h hq e he hb];rfl
   . simp at h;subst h;rw[ho]at hq;cases hq;rw[hd e he hb];rfl
 . rw[<- hx.DU c e he];simp[Cn c e he]
 . rcases p7 k p hp with h|⟨b,Q,O⟩
   . rcases hx.qu k p h with h|⟨i,b,Q,O,h3⟩|h
     . exact .inl h
     . exact .inr (.inl ⟨i,b,Q,by rw[O];rfl,h3⟩)
     . exact .inr (.inr h)
   . exact .inr (.inl ⟨j,b,Q,by simp,O⟩)
theorem Inv.abb(hr:k8 ops fr)(hl:gM<=ops.size)(f:mC P cf ops F h0 kT val dL gM d)(ht:∀y∈d.dA,F+y.1<fZ)(hx:Inv ops F fr gM h0 kT val dL d.dA E0 w0 x9 fm ms Tr E a w)
  {ik:Nat} (ha:∀k,ew ik k=true->fm k=true) (K:∀k,ew (eI h0 (F+ops.size) dL Tr).1 k=true->ew ik k=true) {E':Env} {h:J h2} {w':World}
  (hu:iQ E (gC F d.dA (eI h0 (F+ops.size) dL Tr).1 (eI h0 (F+ops.size) dL Tr).2.1 ik) w E' h w') (fE:∀k,k<(eI h0 (F+ops.size) dL Tr).2.2->E'.ι k=E.ι k):
  ∀i,i<ops.size->ew ik i=false->h.get (F+i)=none:=by
 intro i hi HC;cases q:h.get (F+i)with
 |none=>rfl
 |some o=>
  exfalso;obtain⟨b,s,Q,_⟩:=hu.good.rel _ o q;have eO:F+i<(eI h0 (F+ops.size) dL Tr).2.2:=by have:=hx.Cq;omega
  have hE:=Q;rw[fE _ eO]at hE;have hmi:ew (eI h0 (F+ops.size) dL Tr).1 i=false:=by
   cases c:ew (eI h0 (F+ops.size) dL Tr).1 i with
   |false=>rfl
   |true=>rw[K i c]at HC;cases HC
  rcases hx.qu _ _ hE with c|⟨i',b',k1,k2,k3⟩|c
  . omega
  . have:i'=i:=by omega
    subst this;have iU:(gC F d.dA (eI h0 (F+ops.size) dL Tr).1 (eI h0 (F+ops.size) dL Tr).2.1 ms).get (F+i')=some b':=jm ht f.one k1 (by rw[hx.bits];exact k2) hmi;obtain⟨m0,s0,a1,a2,_⟩:=hu.tL (F+i') b s (by rw[q];simp) Q (hx.tO.good.oL _ _ _ hE);have I:(gC F d.dA (eI h0 (F+ops.size) dL Tr).1 (eI h0 (F+ops.size) dL Tr).2.1 ik).get (F+i')=none:=by
     rcases iZ (x:=(eI h0 (F+ops.size) dL Tr).2.1) (m:=(eI h0 (F+ops.size) dL Tr).1) (ik:=ik) ht f.one (F+i')with⟨i2,b2,g1,g2,g3,g4,g5⟩|⟨g1,g2⟩
     . have:i2=i':=by omega
       subst this;rw[HC]at g2;cases g2
     . rw[g2];exact hx.free i' hi hmi
    have iV:m0≠F+i':=by intro e;subst e;exact a1 I
    have hwr:b'.wr=true:=by
     obtain⟨N,_,_,_,_,q,_⟩:=f.Bm i' _ b' k1 (bf hi);exact q
    refine hx.tO.good.inj (F+i') m0 b s s0 (fun q=>iV q.symm) ⟨b',iU,hwr⟩ ?_ hE a2;cases c:(gC F d.dA (eI h0 (F+ops.size) dL Tr).1 (eI h0 (F+ops.size) dL Tr).2.1 ik).get m0 with
    |none=>exact absurd c a1
    |some o'=>rw[hx.sub hr hl f ht ha m0 o' c];simp
  . omega
theorem Inv.effect(hr:k8 ops fr)(hl:gM<=ops.size)(f:mC P cf ops F h0 kT val dL gM d)(ht:∀y∈d.dA,F+y.1<fZ)(hx:Inv ops F fr gM h0 kT val dL d.dA E0 w0 x9 fm ms Tr E a w)
  {j:Nat} {o:Oper} (ho:ops[j]? =some o) (hj:j<gM) (xx:fm j=false) (hd:∀e∈o.after,Region.binds .any e=true->fm e.on=true) (Al:∀b,(j,b)∉d.dA)
  {h:J h2} {n:Nat} (he:dL[Tr]? =some (j,iH ops j,h,n)) {E':Env} {w':World} {v':Value} (hv:dV E' (val j) v')
  (hu:iQ E (gC F d.dA (eI h0 (F+ops.size) dL Tr).1 (eI h0 (F+ops.size) dL Tr).2.1 (iH ops j)) w E' h w')
  (fE:∀k,k<(eI h0 (F+ops.size) dL Tr).2.2->E'.ι k=E.ι k) (p7:pX E' n) (hn:(eI h0 (F+ops.size) dL Tr).2.2<=n):
  Inv ops F fr gM h0 kT val dL d.dA E0 w0 x9 (fun i=>fm i||decide (i=j)) (ms|||2^j) (Tr+1) E' (a.put o.dst v') w':=by
 have hJ:Tr<dL.length:=(aR.1 he).1;have mV:eI h0 (F+ops.size) dL (Tr+1)=(iH ops j,h,n):=by simp only[eI,he]
 have A6:∀k,ew (iH ops j) k=true->fm k=true:=fun k W=>rP hr hx.closed ho hd W;have K:∀k,ew (eI h0 (F+ops.size) dL Tr).1 k=true->ew (iH ops j) k=true:=by
  intro k W;cases Tr with
  |zero=>simp[eI,je]at W
  |succ c=>
   have B:dL[c]? =some (dL[c]'(by omega)):=au H;simp only[eI,B]at W;obtain⟨_,o',_,_,h3⟩:=f.tP c _ B;rw[h3]at W;exact Em hr.v7 j _ k (f.chain (c+1) c _ _ H he B) W
 have U8:=hx.abb hr hl f ht A6 K hu fE;obtain⟨g1,g2⟩:=hx.frame hr ho hu.le hv;have B:=hx.Cq;refine⟨nc hx.bits j,fun i hi=>?_,fun i q hi hq e AZ hb=>?_,fun c e AZ=>?_,hJ,g1,g2,?_,fun k W=>?_,fun k p hp=>?_,?_,?_,by rw[lT];exact hx.size,by rw[jH];exact hx.ij⟩
 . rcases bX _ _ |>.mp hi with h|h
   . exact hx.OH i h
   . simp at h;omega
 . rcases bX _ _ |>.mp hi with h|h
   . rw[hx.closed i q h hq e AZ hb];rfl
   . simp at h;subst h;rw[ho]at hq;cases hq;rw[hd e AZ hb];rfl
 . have Q:=hx.DU c e AZ;constructor
   . intro hs;rcases bX _ _ |>.mp hs with q|q
     . have:=Q.1 q;omega
     . simp at q;by_cases hcJ:c<Tr+1
       . exact hcJ
       . have:=f.chain c Tr e _ H AZ he;simp only at this;rw[q]at this;have:=JG hr.v7 j j this;omega
   . intro JH;by_cases q:c<Tr
     . rw[Q.2 q];rfl
     . have:c=Tr:=by omega
       subst this;rw[he]at AZ;cases AZ;simp
 . rw[mV];refine hx.tO.trans (iQ.frame hx.tO.good (hx.sub hr hl f ht A6) hu fun k=>?_);rcases iZ (x:=h) (m:=iH ops j) (ik:=ms|||2^j) ht f.one k with⟨i,b,k1,k2,k3,k4,k5⟩|⟨k1,k2⟩
   . simp only[k5];subst k4;have hi:fm i=true:=by
      rw[nc hx.bits]at k2;rcases bX _ _ |>.mp k2 with q|q
      . exact q
      . simp at q;subst q;exact absurd k1 (Al b)
     have hmi:ew (eI h0 (F+ops.size) dL Tr).1 i=false:=by
      cases c:ew (eI h0 (F+ops.size) dL Tr).1 i with
      |false=>rfl
      |true=>rw[K i c]at k3;cases k3
     have jB:i<ops.size:=by have:=hx.OH i hi;omega
     rw[U8 i jB k3];have I:(gC F d.dA (eI h0 (F+ops.size) dL Tr).1 (eI h0 (F+ops.size) dL Tr).2.1 (iH ops j)).get (F+i)=none:=by
      rcases iZ (x:=(eI h0 (F+ops.size) dL Tr).2.1) (m:=(eI h0 (F+ops.size) dL Tr).1) (ik:=iH ops j) ht f.one (F+i)with⟨i2,b2,q1,q2,q3,q4,q5⟩|⟨q1,q2⟩
      . have:i2=i:=by omega
        subst this;rw[k3]at q2;cases q2
      . rw[q2];exact hx.free i jB hmi
     simp only[I,if_true];rw[jm ht f.one k1 (by rw[hx.bits];exact hi) hmi]
   . rw[k2];cases W:h.get k with
     |some o'=>rfl
     |none=>
      simp only;split
      . rename_i I;rcases iZ (x:=(eI h0 (F+ops.size) dL Tr).2.1) (m:=(eI h0 (F+ops.size) dL Tr).1) (ik:=ms) ht f.one k with⟨i,b,q1,q2,q3,q4,q5⟩|⟨q1,q2⟩
        . exfalso;subst q4;cases c:ew (iH ops j) i with
          |false=>exact k1 i b q1 (by rw[nc hx.bits];rw[hx.bits]at q2;rw[q2];rfl) c rfl
          |true=>
           rw[jm ht f.one q1 c q3]at I;cases I
        . rw[q2];rcases iZ (x:=(eI h0 (F+ops.size) dL Tr).2.1) (m:=(eI h0 (F+ops.size) dL Tr).1) (ik:=iH ops j) ht f.one k with⟨i,b,r1,r2,r3,r4,r5⟩|⟨r1,r2⟩
          . rw[r5]at I;cases I
          . rw[r2]at I;exact I.symm
      . rfl
 . rw[fE k H];exact hx.old k W
 . by_cases q:k<(eI h0 (F+ops.size) dL Tr).2.2
   . rw[fE k q]at hp;rcases hx.qu k p hp with h|⟨i,b,Q,O,h3⟩|h
     . exact .inl h
     . exact .inr (.inl ⟨i,b,Q,by rw[O];rfl,h3⟩)
     . rw[mV];exact .inr (.inr ⟨h.1,by show k<n;omega⟩)
   . rw[mV];refine .inr (.inr ⟨H,?_⟩);by_cases q2:k<n
     . exact q2
     . rw[p7 k H]at hp;cases hp
 . rw[mV];exact fun i hi hb=>U8 i hi hb
 . rw[mV];simp only;omega
end
section
variable{P:Program}{cf:fO}{ops:Array Oper}{F fr gM:Nat}{h0:J h2}{kT:J V}{val:Nat->V}{dL:List uh}{d:Dr}{E0:Env}{w0:World}{x9:List Deferred}
variable{fm:Nat->Bool}{ms Tr:Nat}{E:Env}{a:Act}{w:World}{h1:Exit->Act->World->Prop}{hm:Act->World->Prop}{rz:Option Nat}
theorem Inv.step(lE:gA P cf)(hr:k8 ops fr)(hl:gM<=ops.size)(f:mC P cf ops F h0 kT val dL gM d)(ht:∀y∈d.dA,F+y.1<fZ)(hx:Inv ops F fr gM h0 kT val dL d.dA E0 w0 x9 fm ms Tr E a w)
  {j:Nat} {o:Oper} (ho:ops[j]? =some o) (hj:j<gM) (xx:fm j=false) (hd:∀e∈o.after,Region.binds .any e=true->fm e.on=true)
  (W:∀J' E' a' w',Inv ops F fr gM h0 kT val dL d.dA E0 w0 x9 (fun i=>fm i||decide (i=j)) (ms|||2^j) J' E' a' w'->hm a' w'):wpOpIn (fz rz) 0 P ops h1 j hm a w:=by
 have U9:j<ops.size:=by omega
 have A6:∀k,ew (iH ops j) k=true->fm k=true:=fun k W=>rP hr hx.closed ho hd W;have hmj:ew (eI h0 (F+ops.size) dL Tr).1 j=false:=by
  cases c:ew (eI h0 (F+ops.size) dL Tr).1 j with
  |false=>rfl
  |true=>rw[hx.aba hr f c]at xx;cases xx
 have y6:E.ι (F+j)=none:=by
  cases q:E.ι (F+j)with
  |none=>rfl
  |some p=>
   rcases hx.qu _ p q with h|⟨i,b,_,O,h3⟩|h
   . omega
   . have:i=j:=by omega
     subst this;rw[xx]at O;cases O
   . omega
 have Va:(∀b,(j,b)∉d.dA)->∀k,(gC F d.dA (eI h0 (F+ops.size) dL Tr).1 (eI h0 (F+ops.size) dL Tr).2.1 (ms|||2^j)).get k=
   (gC F d.dA (eI h0 (F+ops.size) dL Tr).1 (eI h0 (F+ops.size) dL Tr).2.1 ms).get k:=by
  intro Al k;rcases iZ (x:=(eI h0 (F+ops.size) dL Tr).2.1) (m:=(eI h0 (F+ops.size) dL Tr).1) (ik:=ms|||2^j) ht f.one k with⟨i,b,k1,k2,k3,k4,k5⟩|⟨k1,k2⟩
  . subst k4;rw[k5,jm ht f.one k1 ?_ k3];rw[nc hx.bits]at k2;rcases bX _ _ |>.mp k2 with q|q
    . rw[hx.bits];exact q
    . simp at q;subst q;exact absurd k1 (Al b)
  . rw[k2,nP ht fun i b q1 q2 q3=>k1 i b q1 (by rw[nc hx.bits];rw[hx.bits]at q2;rw[q2];rfl) q3]
 unfold wpOpIn;simp only[ho];by_cases hal:∃b,(j,b)∈d.dA
 ·
  obtain⟨b,hb⟩:=hal;obtain⟨N,f1,f2,f3,f4,f6,f5⟩:=f.Bm j o b hb ho;rw[aG (hx.wanted hr ho xx hd f1 f2)];refine(Fs hx.tO.good y6 (hx.uz hr ho xx hd f1) (f5 _) fun E' w' v' q1 q2 q3 _=>W Tr E' _ w' ?_);refine hx.quiet hr hl f ho hj xx hd (fun c e he iV=>?_) q1 ?_ q2.le (fun k W=>q3 k H) (fun k p hp=>?_)
  . obtain⟨_,o',Q,O,_⟩:=f.tP c e he;rw[iV,ho]at Q;cases Q;rw[f3]at O;cases O
  . refine hx.tO.trans (q2.ext fun k=>?_);by_cases hkj:k=F+j
    . subst hkj;rw[J.pb _ _ f4,jm ht f.one hb (by rw[nc hx.bits];simp) hmj]
    . rw[J.wB _ _ f4 hkj];rcases iZ (x:=(eI h0 (F+ops.size) dL Tr).2.1) (m:=(eI h0 (F+ops.size) dL Tr).1) (ik:=ms|||2^j) ht f.one k with⟨i,b',k1,k2,k3,k4,k5⟩|⟨k1,k2⟩
      . subst k4;rw[k5,jm ht f.one k1 ?_ k3];rw[nc hx.bits]at k2;rcases bX _ _ |>.mp k2 with q|q
        . rw[hx.bits];exact q
        . simp at q;subst q;exact absurd rfl hkj
      . rw[k2,nP ht fun i b q1 q2 q3=>k1 i b q1 (by rw[nc hx.bits];rw[hx.bits]at q2;rw[q2];rfl) q3]
  . by_cases hkj:k=F+j
    . exact .inr ⟨b,hb,hkj⟩
    . rw[q3 k hkj]at hp;exact .inl hp
 . have Al:∀b,(j,b)∉d.dA:=fun b q=>hal ⟨b,q⟩;obtain⟨N,f1,f2⟩:=f.Wk j o hj ho;have look:fT ops o N=some true->pP o.op=false->dS P o N (gC F d.dA (eI h0 (F+ops.size) dL Tr).1 (eI h0 (F+ops.size) dL Tr).2.1 ms) (F+j)=
     some (.val (val j) (gC F d.dA (eI h0 (F+ops.size) dL Tr).1 (eI h0 (F+ops.size) dL Tr).2.1 ms) (F+j))->
     (if Region.wanted o (yielded ops a.tmps)=true then o.wpIn (fz rz) 0 P a w hm h1 else(∀f,o.about P w a.eval=some f->(fz rz).fn f)/\hm (a.put o.dst undef) w):=by
    intro hw iV hs;rw[aG (hx.wanted hr ho xx hd f1 hw)];refine(Fs hx.tO.good y6 (hx.uz hr ho xx hd f1) hs fun E' w' v' q1 q2 q3 q4=>W Tr E' _ w' ?_);rcases q4 with⟨_,rfl⟩|q4
    . refine hx.quiet hr hl f ho hj xx hd (fun c e he ML=>?_) q1 (hx.tO.trans (q2.ext (Va Al))) q2.le (fun _ _=>rfl) (fun _ _ hp=>.inl hp);obtain⟨_,o',Q,O,_⟩:=f.tP c e he;rw[ML,ho]at Q;cases Q;rw[iV]at O;cases O
    . omega
   rcases f2 with⟨hw,hv⟩|⟨_,_,b,q3,_⟩|⟨hw,iV,wQ⟩|⟨hw,iV,qx,abd⟩|⟨hw,Cn,c,h,n,B,gm⟩
   ·
    rw[aB (by rw[hx.wanted hr ho xx hd f1 hw];simp)];refine⟨fun _ _=>trivial,?_⟩;refine W Tr E _ w (hx.quiet (v':=undef) hr hl f ho hj xx hd (fun c e he ML=>?_) (by rw[hv];exact⟨[],rfl,rfl⟩) (hx.tO.ext (Va Al)) E.le_refl (fun _ _=>rfl) (fun _ _ hp=>.inl hp));have Jp:=hx.wanted hr ho xx hd f1 hw;have OG:=f.zk c e o he (by rw[ML];exact ho);obtain⟨fr3,g3,g4⟩:=OG;rw[ML]at g3;have SG:=hx.wanted hr ho xx hd g3 g4;rw[Jp]at SG;cases SG
   . exact absurd q3 (Al b)
   . exact look hw iV (wQ _)
   . have c1:∀(c':Nat) (e:uh),Tr<=c'->dL[c']? =some e->ew (iH ops j) e.1=false:=by
      intro c' e JH he;cases q:ew (iH ops j) e.1 with
      |false=>rfl
      |true=>have:=(hx.DU c' e he).1 (A6 _ q);omega
     have c2:∀(c':Nat) (e:uh),c'<Tr->dL[c']? =some e->ew e.2.1 j=false:=by
      intro c' e JH he;obtain⟨_,o',_,_,h3⟩:=f.tP c' e he;cases q:ew e.2.1 j with
      |false=>rfl
      |true=>
       rw[h3]at q;rw[hx.ik hr ((hx.DU c' e he).2 JH) q]at xx;cases xx
     obtain⟨y,hy⟩:=abd Tr hx.Jle c1 c2;rcases _root_.Go.Eng.quiet iV hy with⟨u,Q,O⟩|⟨u,b,Q,O,h3⟩
     . cases Q;exact look hw iV (O _ (hx.sub hr hl f ht A6))
     . simp only[cs.val.injEq]at O;omega
   ·
    have hcJ:c=Tr:=by
     have Q:¬c<Tr:=by
      intro q;have:=(hx.DU c _ B).2 q;simp only at this;rw[xx]at this;cases this
     by_cases q:Tr<c
     . have hJl:Tr<dL.length:=by have:=(aR.1 B).1;omega
       have he:dL[Tr]? =some dL[Tr]:=au hJl;have:=f.chain c Tr _ _ q B he;have:=(hx.DU Tr _ he).1 (A6 _ this);omega
     . omega
    subst hcJ;rw[aG (hx.wanted hr ho xx hd f1 hw)];have Vb:=hx.tO.good.sub (hx.sub hr hl f ht A6);have Es:=hx.SF hl;simp only at gm;rcases gm with hs|⟨g,args,hs,abe⟩
    . refine Fs Vb (Es _ (aK _)) (hx.uz hr ho xx hd f1) hs fun E' w' v' q1 q2 q3 q4=>W (c+1) E' _ w' ?_;refine hx.effect hr hl f ht ho hj xx hd Al B q1 q2 (fun k W=>q3 k H) ?_ ?_
      . rcases q4 with⟨rfl,rfl⟩|rfl
        . exact Es
        . intro k W;rw[q3 k H];exact Es k H
      . rcases q4 with⟨rfl,_⟩|rfl<;>omega
    . refine Bl lE Vb Es (hx.uz hr ho xx hd f1) hs abe fun E' w' q2 q3 q4 q5=>?_;intro v' q1;exact W (c+1) E' _ w' (hx.effect hr hl f ht ho hj xx hd Al B q1 q2 q3 q4 q5)
end
theorem filter_lt{α:Type}{p q:α->Bool}{x:α}:∀{l:List α},x∈l->p x=true->q x=false->(∀y,q y=true->p y=true)->(l.filter q).length<(l.filter p).length
 | [],h,_,_,_=>by simp at h
 |y::l,h,hp,hq,K=>by
  have kK:(l.filter q).length<=(l.filter p).length:=by
   clear h
   induction l with
   |nil=>simp
   |cons z l ih=>
    simp only[List.filter_cons];by_cases c:q z=true
    . rw[aG c,aG (K z c)];simp;exact ih
    . rw[aB c];by_cases c2:p z=true
      . rw[aG c2];simp;omega
      . rw[aB c2];exact ih
  simp only[List.filter_cons];rcases aD.1 h with rfl|h
  . rw[aG hp,aB (by rw[hq];simp)];simp;omega
  . have ih:=filter_lt h hp hq K;by_cases c:q y=true
    . rw[aG c,aG (K y c)];simp;exact ih
    . rw[aB c];by_cases c2:p y=true
      . rw[aG c2];simp;omega
      . rw[aB c2];exact ih
def Lk(n:Nat)(eW:Array Bool):Nat:=((List.range n).filter fun i=>!eW.getD i false).length
theorem nQ{eW:Array Bool}{j:Nat}(hj:j<eW.size)(i:Nat):(eW.setIfInBounds j true).getD i false=(eW.getD i false||decide (i=j)):=by
 simp only[bJ,Array.getElem?_setIfInBounds];by_cases q:i=j
 . subst q;simp[hj]
 . have:¬j=i:=fun e=>q e.symm;simp[q,this]
section
variable{P:Program}{cf:fO}{ops:Array Oper}{F fr gM:Nat}{h0:J h2}{kT:J V}{val:Nat->V}{dL:List uh}{d:Dr}{E0:Env}{w0:World}{x9:List Deferred}
variable{h1:Exit->Act->World->Prop}{rz:Option Nat}
theorem Et(lE:gA P cf)(hr:k8 ops fr)(hl:gM<=ops.size)(f:mC P cf ops F h0 kT val dL gM d)(ht:∀y∈d.dA,F+y.1<fZ)
  (hQ:gM=ops.size->∀fm ms Tr E a w,Inv ops F fr gM h0 kT val dL d.dA E0 w0 x9 fm ms Tr E a w->(∀i,i<ops.size->fm i=true)->h1 .normal a w)
  (hP:gM<ops.size->gM+1=ops.size/\∀fm ms Tr E a w o,Inv ops F fr gM h0 kT val dL d.dA E0 w0 x9 fm ms Tr E a w->ops[gM]? =some o->
   (∀e∈o.after,Region.binds .any e=true->fm e.on=true)->∀hm,wpOpIn (fz rz) 0 P ops h1 gM hm a w):
  ∀(fuel:Nat) (eW:Array Bool) (ms Tr:Nat) (E:Env) (a:Act) (w:World),eW.size=ops.size->Lk ops.size eW<=fuel->
   Inv ops F fr gM h0 kT val dL d.dA E0 w0 x9 (fun i=>eW.getD i false) ms Tr E a w->wpAnyIn (fz rz) 0 P .any ops h1 fuel eW a w:=by
 have done:∀(eW:Array Bool) (ms Tr:Nat) (E:Env) (a:Act) (w:World),eW.size=ops.size->Inv ops F fr gM h0 kT val dL d.dA E0 w0 x9 (fun i=>eW.getD i false) ms Tr E a w->
   Region.ready .any ops eW=[]->h1 .normal a w:=by
  intro eW ms Tr E a w hs hx sY;have all:∀i,i<ops.size->eW.getD i false=true:=by
   intro i
   induction i using Nat.strongRecOn with
   |_ i ih=>
    intro hi;cases q:eW.getD i false with
    |true=>rfl
    |false=>
     exfalso;have ho:ops[i]? =some ops[i]:=bf hi;have:i∈Region.ready .any ops eW:=mem_ready.2 ⟨by
      rw[bJ,bf H]at q ⊢;exact q,ops[i],ho,fun e he hb=>by
      have:=hr.v7 i _ ho e he hb;exact ih e.on this H⟩
     rw[sY]at this;simp at this
  have Fx:gM=ops.size:=by
   by_cases q:gM<ops.size
   . have:=hx.OH gM (all gM q);omega
   . omega
  exact hQ Fx _ ms Tr E a w hx all
 intro fuel
 induction fuel with
 |zero=>
  intro eW ms Tr E a w hs hu hx;have sY:Region.ready .any ops eW=[]:=by
   rw[List.eq_nil_iff_forall_not_mem];intro j hj;obtain⟨Q,o,ho,_⟩:=mem_ready.1 hj;have U9:=(aW.1 ho).1;have hz:Lk ops.size eW=0:=by omega
   unfold Lk at hz;have:=cE.2 hz;have K:j∈(List.range ops.size).filter fun i=>!eW.getD i false:=List.mem_filter.2 ⟨bL.2 U9,by
    rw[bJ,bf H]at Q ⊢;simp at Q;simp[Q]⟩
   rw[this]at K;simp at K
  exact⟨sY,done eW ms Tr E a w hs hx sY⟩
 |succ fuel ih=>
  intro eW ms Tr E a w hs hu hx;refine⟨done eW ms Tr E a w hs hx,fun j hj=>?_⟩;obtain⟨Q,o,ho,hd⟩:=mem_ready.1 hj;have U9:=(aW.1 ho).1;have xx:eW.getD j false=false:=by
   rw[bJ,bf H]at Q ⊢;exact Q
  by_cases NQ:j<gM
  . refine hx.step lE hr hl f ht ho NQ xx hd fun J' E' a' w' I'=>?_;refine ih _ (ms|||2^j) J' E' a' w' (by simp;exact hs) ?_ ?_
    . have:Lk ops.size (eW.setIfInBounds j true)<Lk ops.size eW:=by
       refine filter_lt (x:=j) (bL.2 U9) (by rw[xx];rfl) (by rw[nQ H];simp) fun y hy=>?_;rw[nQ H]at hy;simp at hy ⊢;exact hy.1
      omega
    . have:(fun i=>(eW.setIfInBounds j true).getD i false)=fun i=>(eW.getD i false||decide (i=j)):=funext fun i=>nQ H i;rw[this];exact I'
  . have eO:gM<ops.size:=by omega
    obtain⟨p1,p2⟩:=hP eO;have:j=gM:=by omega
    subst this;exact p2 _ ms Tr E a w o hx ho hd _
end
theorem OI{rz:Option Nat}{P:Program}{cf:fO}{ops:Array Oper}{fr id:Nat}{s X:St}{x:s'}{E0:Env}{a0:Act}{w0:World}{h1:Exit->Act->World->Prop}(lE:gA P cf)(hr:k8 ops fr)(K:P.follows .mixedOrders=true)
  (e:drawn P cf ops s=some (x,X)) (g:Good E0 s.h w0) (hd:pX E0 s.n) (hf:wJ E0 s.N a0) (hN:a0.tmps.size=fr)
  (hq:∀E' a' w' x',iQ E0 s.h w0 E' X.h w'->(∀k,k<s.n->E'.ι k=E0.ι k)->pX E' X.n->s.n<=X.n->wJ E' X.N a'->a'.tmps.size=fr->a'.defers=a0.defers->X.ij=s.ij->HB E' x x'->h1 x' a' w'):
  (Code.region id ops true).wpIn (fz rz) 0 P h1 a0 w0:=by
 refine wpIn_region_any K ?_;unfold drawn at e;split at e
 . rename_i gL;have init:=wP (P:=P) (cf:=cf) (ops:=ops) (F:=s.n) s.N s.h;have start:∀(gM:Nat) (val:Nat->V) (dL:List uh) (dA:af),Inv ops s.n fr gM s.h s.N val dL dA E0 w0 a0.defers (fun i=>(Array.replicate ops.size false).getD i false) 0 0 E0 a0 { w0 with drawn:=w0.drawn+1 }:=by
    intro gM val dL dA;have hS:∀i,(Array.replicate ops.size false).getD i false=false:=by
     intro i;rw[bJ];by_cases q:i<ops.size
     . rw[bf (by simpa using q)];simp
     . rw[Array.getElem?_eq_none (by simpa using q)];rfl
    have OD:∀k,(gC s.n dA (eI s.h (s.n+ops.size) dL 0).1 (eI s.h (s.n+ops.size) dL 0).2.1 0).get k=s.h.get k:=by
     intro k;have:∀l:af,gC s.n l (eI s.h (s.n+ops.size) dL 0).1 (eI s.h (s.n+ops.size) dL 0).2.1 0=s.h:=by
      intro l
      induction l with
      |nil=>rfl
      |cons y l ih=>obtain⟨i,b⟩:=y;simp only[gC,je,aS,aM,cz];exact ih
     rw[this]
    refine⟨fun i=>by rw[je,hS],fun i hi=>?_,fun j o hj=>?_,fun c e' _=>?_,aU _,fun j o t hj=>?_,fun t v hv _=>hf t v hv,(iQ.drew g).ext OD,fun _ _=>rfl,fun k p hp=>?_,fun i _ _=>?_,aK _,hN,rfl⟩
    . rw[hS]at hi;cases hi
    . rw[hS]at hj;cases hj
    . rw[hS];constructor
      . intro q;cases q
      . intro q;omega
    . rw[hS]at hj;cases hj
    . by_cases q:k<s.n
      . exact .inl q
      . rw[hd k H]at hp;cases hp
    . show s.h.get (s.n+i)=none;cases q:s.h.get (s.n+i)with
      |none=>rfl
      |some o=>
       obtain⟨b,t,Q,_⟩:=g.rel _ _ q;rw[hd _ H]at Q;cases Q
   have hu0:Lk ops.size (Array.replicate ops.size false)<=ops.size:=by
    unfold Lk;exact bE (List.length_filter_le _ _) (by simp)
   have gm:=fun(r:Dr ⊕ (J V×V×J h2×Nat)) q=>Er (fr:=fr) hr ops.toList 0 _ _ _ r (by simp) init q;split at e
   . rename_i d R8;obtain⟨rfl,rfl⟩:=ga e;obtain⟨val,dL,f⟩:=gm _ R8;rw[show max 0 ops.size=ops.size by omega]at f;have ht:∀y∈d.dA,s.n+y.1<fZ:=fun y hy=>by have:=f.dA y hy;omega
     refine Et lE hr (aK _) f ht (fun _ fm ms Tr E a w hx wQ=>?_) (fun q=>by omega) ops.size _ 0 0 E0 a0 _ (by simp) hu0 (start ops.size val dL d.dA);have hJ:Tr=dL.length:=by
      have Q:=hx.Jle;by_cases q:Tr<dL.length
      . have he:dL[Tr]? =some dL[Tr]:=au q;have:=(hx.DU Tr _ he).1 (wQ _ (f.tP Tr _ he).1);omega
      . omega
     have ec1:d.cur.1=(eI s.h (s.n+ops.size) dL Tr).1:=by rw[hJ,f.cur]
     have ec2:d.cur.2=(eI s.h (s.n+ops.size) dL Tr).2.1:=by rw[hJ,f.cur]
     have en:d.n=(eI s.h (s.n+ops.size) dL Tr).2.2:=by rw[hJ,f.n]
     refine hq E a w .normal ?_ hx.old ?_ ?_ ?_ hx.size hx.ij rfl trivial
     . refine hx.tO.ext fun k=>?_;simp only[ec1,ec2];have OJ:∀i,i<ops.size->ew (2^ops.size-1) i=true:=fun i hi=>by
        unfold ew;rw[cS];simpa using hi
       rcases iZ (F:=s.n) (x:=(eI s.h (s.n+ops.size) dL Tr).2.1) (m:=(eI s.h (s.n+ops.size) dL Tr).1) (ik:=2^ops.size-1) ht f.one k with⟨i,b,k1,k2,k3,k4,k5⟩|⟨k1,k2⟩
       . subst k4;rw[k5,jm ht f.one k1 (by rw[hx.bits];exact wQ i (f.dA _ k1)) k3]
       . rw[k2,nP ht fun i b q1 q2 q3=>k1 i b q1 (OJ i (f.dA _ q1)) q3]
     . show pX E d.n;rw[en];exact hx.SF (aK _)
     . show s.n<=d.n;rw[en];have:=hx.Cq;omega
     . intro t v hv;by_cases q:∃j o,j<ops.size/\ops[j]? =some o/\o.dst=some t
       . obtain⟨j,o,q1,q2,q3⟩:=q;have:=f.N.new j o t q1 q2 q3;simp only at hv;rw[this]at hv;cases hv;exact hx.f1 j o t (wQ j q1) q2 q3
       . have:=f.N.old t fun i o hi ho Lj=>q ⟨i,o,hi,ho,Lj⟩;simp only at hv;rw[this]at hv;exact hx.f2 t v hv fun j o hj ho Lj=>q ⟨j,o,hx.OH j hj,ho,Lj⟩
   . rename_i N v h n R8;obtain⟨rfl,rfl⟩:=ga e;obtain⟨gM,o,d,val,dL,ho,f,pc⟩:=gm _ R8;have Fx:gM<ops.size:=(aW.1 ho).1;have ht:∀y∈d.dA,s.n+y.1<fZ:=fun y hy=>by have:=f.dA y hy;omega
     have A6:ff d.eC o.after.toList=iH ops gM:=by rw[f.eC];unfold iH;rw[ho]
     unfold lP at pc;simp only[A6]at pc;split at pc
     . split at pc<;>cases pc
     . rename_i hw;split at pc
       . rename_i Cn;split at pc
         . split at pc
           . split at pc<;>cases pc
           . rename_i gg args hs;split at pc
             . split at pc<;>cases pc
             . rename_i v' h' n' B;split at pc
               . rename_i hb;simp only[aq,Sum.inr.injEq,aF]at pc;obtain⟨rfl,rfl,rfl,rfl⟩:=pc;simp only[ay]at hb;have Sz:=aA hb.1;have NP:=aA hb.2;have HC:∀i,i<gM->ew (iH ops gM) i=true:=fun i hi=>by
                  have:iH ops gM=2^gM-1:=by omega
                  rw[this];unfold ew;rw[cS];simpa using hi
                 refine Et lE hr (Nat.le_of_lt Fx) f ht (fun q=>by omega) (fun _=>⟨NP,fun fm ms Tr E a w o' hx DP HD hm=>?_⟩) ops.size _ 0 0 E0 a0 _ (by simp) hu0 (start gM val dL d.dA);rw[ho]at DP;cases DP;have hSl:fm gM=false:=by
                  cases q:fm gM with
                  |false=>rfl
                  |true=>have:=hx.OH gM q;omega
                 have wQ:∀i,i<gM->fm i=true:=fun i hi=>rP hr hx.closed ho HD (HC i hi);have hJ:Tr=dL.length:=by
                  have Q:=hx.Jle;by_cases q:Tr<dL.length
                  . have he:dL[Tr]? =some dL[Tr]:=au q;have:=(hx.DU Tr _ he).1 (wQ _ (f.tP Tr _ he).1);omega
                  . omega
                 have ec1:d.cur.1=(eI s.h (s.n+ops.size) dL Tr).1:=by rw[hJ,f.cur]
                 have ec2:d.cur.2=(eI s.h (s.n+ops.size) dL Tr).2.1:=by rw[hJ,f.cur]
                 have en:d.n=(eI s.h (s.n+ops.size) dL Tr).2.2:=by rw[hJ,f.n]
                 rw[ec1,ec2,en]at hs B;have qw:=hx.sub hr (Nat.le_of_lt Fx) f ht (ik:=iH ops gM) fun k W=>wQ k (JG hr.v7 gM k W);have Es:=hx.SF (Nat.le_of_lt Fx);unfold wpOpIn;simp only[ho];rw[aG (hx.wanted hr ho hSl HD f.N hw)];refine(Bl lE (hx.tO.good.sub qw) Es (hx.uz hr ho hSl HD f.N) hs B fun E' w' q2 q3 q4 q5=>?_);intro v2 hv2;have hcn:=hx.Cq;refine hq E' a w' _ ?_ (fun k W=>?_) q4 ?_ ?_ hx.size hx.ij rfl ⟨v2,hv2,rfl⟩
                 . refine hx.tO.trans (iQ.frame hx.tO.good qw q2 fun k=>?_);simp only;cases W:h'.get k with
                   |some o'=>rfl
                   |none=>
                    simp only;split
                    . rename_i I;rcases iZ (F:=s.n) (x:=(eI s.h (s.n+ops.size) dL Tr).2.1) (m:=(eI s.h (s.n+ops.size) dL Tr).1) (ik:=ms) ht f.one k with⟨i,b,k1,k2,k3,k4,k5⟩|⟨k1,k2⟩
                      . subst k4;rw[jm ht f.one k1 (HC i (f.dA _ k1)) k3]at I;cases I
                      . rw[k2];rw[nP ht fun i b q1 q2' q3'=>k1 i b q1 (by rw[hx.bits];exact wQ i (f.dA _ q1)) q3']at I;exact I.symm
                    . rfl
                 . rw[q3 k H];exact hx.old k W
                 . show s.n<=n';omega
                 . refine mB q2.le ?_;intro t v hv;by_cases q:∃j o,j<gM/\ops[j]? =some o/\o.dst=some t
                   . obtain⟨j,o2,q1,q2,q3⟩:=q;have:=f.N.new j o2 t q1 q2 q3;simp only at hv;rw[this]at hv;cases hv;exact hx.f1 j o2 t (wQ j q1) q2 q3
                   . have:=f.N.old t fun i o2 hi OK Lj=>q ⟨i,o2,hi,OK,Lj⟩;simp only at hv;rw[this]at hv;exact hx.f2 t v hv fun j o2 hj OK Lj=>q ⟨j,o2,hx.OH j hj,OK,Lj⟩
               . cases pc
             . cases pc
           . cases pc
         . cases pc
       . split at pc
         . split at pc
           . split at pc
             . split at pc
               . cases pc
               . split at pc<;>cases pc
             . split at pc
               . split at pc<;>cases pc
               . cases pc
           . cases pc
         . cases pc
     . cases pc
   . cases e
 . cases e
def OL(E:Env)(x:FuncId×ag×ag)(d:Deferred):Prop:=
 (x.1<fZ/\∃c' dH,dZ E x.2.1 c'/\dZ E x.2.2 dH/\d={ target:=.fn (.func x.1) c'.toArray,args:=dH.toArray }) \/
 (x.1=fZ/\∃m b s,x.2.2=[.map (some m)]/\E.ι m=some (b,s)/\d={ target:=.collected b,args:=#[] })
def v8(E:Env):List (FuncId×ag×ag)->List Deferred->Prop
 | [],l=>l=[]
 |x::xs,l=>∃d ys,OL E x d/\v8 E xs ys/\l=d::ys
theorem JJ{E E':Env}(h:E.le E'){x:FuncId×ag×ag}{d:Deferred}:OL E x d->OL E' x d:=by
 rintro(⟨I,c',a',r1,r2,q⟩|⟨I,m,b,s,q1,q2,q3⟩)
 . exact .inl ⟨I,c',a',kY h _ _ r1,kY h _ _ r2,q⟩
 . exact .inr ⟨I,m,b,s,q1,(h.nm _ _ _ q2).1,q3⟩
theorem jI{E E':Env}(h:E.le E'):∀(xs:List (FuncId×ag×ag)) (ys:List Deferred),v8 E xs ys->v8 E' xs ys
 | [],_,r=>r
 |_::xs,_,⟨d,ys,r1,r3,q⟩=>⟨d,ys,JJ h r1,jI h xs ys r3,q⟩
theorem iQ.kill{E:Env}{h:J h2}{w w':World}{m b s:Nat}(g:Good E h w)(ht:m<fZ)(iU:eN h m)(K:E.ι m=some (b,s))
  (Ef:w'.heap.size=w.heap.size) (G4:w'.tape=w.tape) (hos:w'.os=w.os) (y7:w'.output=w.output)
  (pS:∀x,x≠b->w'.heap[x]? =w.heap[x]?):iQ E h w E (h.set m none) w':=by
 have hs:∀k o,(h.set m none).get k=some o->k≠m/\h.get k=some o:=by
  intro k o W;rw[J.fJ _ _ _ ht]at W;split at W
  . cases W
  . rename_i q;exact⟨q,W⟩
 have dQ:∀k o,(h.set m none).get k=some o->h.get k=some o:=fun k o q=>(hs k o q).2;refine⟨E.le_refl,⟨?_,?_,?_,g.kx,fun b' c q=>⟨by rw[pS b' fun e=>(g.iz b' c q).2 m s iU (e▸K)];exact(g.iz b' c q).1,fun k t W=>(g.iz b' c q).2 k t (ig dQ W)⟩⟩,H,G4,hos,y7,?_,fun k x t W e _=>⟨k,t,pU dQ W,e,ig dQ⟩,fun _ _ q=>.inl q⟩
 . intro k o W;obtain⟨iV,W⟩:=hs k o W;obtain⟨b',X,Q,O⟩:=g.rel k o W;have hb:b'≠b:=by
    intro hb;subst hb;exact g.inj m k b' s X (fun q=>iV q.symm) iU (by rw[W];simp) K Q
   exact⟨b',X,Q,ji E.le_refl rfl (pS b' hb) O⟩
 . intro k k' x t t' iV W oV e e';exact g.inj k k' x t t' iV (ig dQ W) (pU dQ oV) e e'
 . intro k x t e;rw[Ef];exact g.oL k x t e
 . intro x _ hn;refine pS x ?_;intro I;subst I;exact hn m s iU K
structure jY(E:Env)(fr:Nat)(s:St)(a:Act)(w:World):Prop where
 good:Good E s.h w
 qu:pX E s.n
 N:wJ E s.N a
 size:a.tmps.size=fr
 ij:v8 E s.ij a.defers
def HE(E:Env)(fr:Nat)(s:St)(w:World)(x:s')(X:St)(h1:Exit->Act->World->Prop):Prop:=
 ∀E' a' w' x',iQ E s.h w E' X.h w'->(∀k,k<s.n->E'.ι k=E.ι k)->s.n<=X.n->jY E' fr X a' w'->HB E' x x'->h1 x' a' w'
theorem HE.after{E E1:Env}{fr:Nat}{s s1 X:St}{w w1:World}{x:s'}{h1:Exit->Act->World->Prop}(p:HE E fr s w x X h1)(u:iQ E s.h w E1 s1.h w1)(fE:∀k,k<s.n->E1.ι k=E.ι k)(hn:s.n<=s1.n):HE E1 fr s1 w1 x X h1:=
 fun E' a' w' x' u' OM n7 r rx=>p E' a' w' x' (u.trans u') (fun k W=>by rw[OM k H];exact fE k W) H r rx
section
variable{P:Program}{cf:fO}{n0 fr:Nat}{rz:Option Nat}
theorem lF(lE:gA P cf){ops:Array Oper}:∀(l:List Oper) (s:St) (x:s') (X:St),(rz=none\/∀o∈l,Bi o.op=true)->(∀o∈l,mX fr o.dst)->jk P cf ops l s=some (x,X)->
  ∀(E:Env) (a:Act) (w:World) (h1:Exit->Act->World->Prop),jY E fr s a w->HE E fr s w x X h1->wpListIn (fz rz) 0 P ops h1 l a w
 | [],s,x,X,_,_,e,E,a,w,h1,r,hp=>by
   simp only[jk,aq,aF]at e;obtain⟨rfl,rfl⟩:=e;exact hp E a w .normal (iQ.refl r.good) (fun _ _=>rfl) (aK _) r trivial
 |o::rest,s,x,X,ug,Fw,e,E,a,w,h1,r,hp=>by
  have SH:rz=none\/∀o∈rest,Bi o.op=true:=ug.imp _root_.id fun h o ho=>h o (by simp[ho]);have ho:=Fw o (by simp);have ya:∀o∈rest,mX fr o.dst:=fun o h=>Fw o (by simp[h]);have SI:mX a.tmps.size o.dst:=by rw[r.size];exact ho
  simp only[jk]at e;unfold wpListIn;have HF:∀b,fT ops o s.N=some b->Region.wanted o (yielded ops a.tmps)=b:=fun b hb=>wK (E:=E) (fun _ _ _ d _ _ _ v hv=>r.N d v hv) hb;have HG:∀y∈o.op.operands,mW E s.N a.eval y:=fun y _=>mY r.good.kx r.N y;split at e
  . rename_i hw;rw[aB (by rw[HF _ hw];simp)];split at e
    . rename_i N qW;refine⟨fun _ _=>trivial,?_⟩;refine lF lE rest _ x X SH ya e E _ w h1 ⟨r.good,r.qu,oh r.N qW ⟨[],rfl,rfl⟩ SI,by rw[lT];exact r.size,by rw[jH];exact r.ij⟩ ?_;exact hp.after (iQ.refl r.good) (fun _ _=>rfl) (aK _)
    . cases e
  . rename_i hw;rw[aG (HF _ hw)];split at e
    . rename_i v h n hs;split at e
      . rename_i N qW;refine Fs r.good (r.qu _ (aK _)) HG hs fun E' w' v' q1 q2 q3 q4=>?_;have hn:s.n<=n:=by rcases q4 with⟨rfl,_⟩|rfl<;>omega
        have p7:pX E' n:=by
         rcases q4 with⟨rfl,rfl⟩|rfl
         . exact r.qu
         . intro k W;rw[q3 k H];exact r.qu k H
        refine lF lE rest _ x X SH ya e E' _ w' h1 ⟨q2.good,p7,oh (mB q2.le r.N) qW q1 SI,by rw[lT];exact r.size,by rw[jH];exact jI q2.le _ _ r.ij⟩ ?_;exact hp.after q2 (fun k W=>q3 k H) hn
      . cases e
    . rename_i g args hs;split at e
      . rename_i v h n B;split at e
        . rename_i N qW;refine Bl lE r.good r.qu HG hs B fun E' w' q2 q3 q4 q5=>?_;intro v' q1;refine lF lE rest _ x X SH ya e E' _ w' h1 ⟨q2.good,q4,oh (mB q2.le r.N) qW q1 SI,by rw[lT];exact r.size,by rw[jH];exact jI q2.le _ _ r.ij⟩ ?_;exact hp.after q2 q3 q5
        . cases e
      . rename_i v h n B;obtain⟨rfl,rfl⟩:=ga e;refine Bl lE r.good r.qu HG hs B fun E' w' q2 q3 q4 q5=>?_;intro v' q1;exact hp E' a w' _ q2 q3 q5 ⟨q2.good,q4,mB q2.le r.N,r.size,jI q2.le _ _ r.ij⟩ ⟨v',q1,rfl⟩
      . cases e
    . rename_i g c args hs;split at e
      case isFalse=>cases e
      rename_i hgt;split at e
      . rename_i N qW;have hrn:rz=none:=by
         rcases ug with q|q
         . exact q
         . exfalso;have:=q o (by simp);rw[hgt.2]at this;cases this
        refine Wj hrn r.good (r.qu _ (aK _)) HG hs fun c' dH q1 q2=>?_;refine lF lE rest _ x X SH ya e E _ w h1 ⟨r.good,r.qu,oh (a:={ a with defers:={ target:=.fn (.func g) c'.toArray,args:=dH.toArray }::a.defers }) r.N qW ⟨[],rfl,rfl⟩ SI,by rw[lT];exact r.size,by rw[jH];exact⟨_,a.defers,.inl ⟨hgt.1,c',dH,q1,q2,rfl⟩,r.ij,rfl⟩⟩ ?_;exact hp.after (iQ.refl r.good) (fun _ _=>rfl) (aK _)
      . cases e
    . rename_i v hs;obtain⟨rfl,rfl⟩:=ga e;refine OF r.good (r.qu _ (aK _)) HG hs fun v' q1=>?_;exact hp E a w _ (iQ.refl r.good) (fun _ _=>rfl) (aK _) r ⟨v',q1,rfl⟩
    . cases e
    . cases e
  . cases e
theorem rQ{E:Env}{N:J V}{a:Act}{c:Operand}{b:Bool}(ge:GE E)(r:wJ E N a)(e:iP N c=some (.bool b)):a.eval c= .bool b:=by
 have:=mY ge r c _ e;simpa only[dV]using this
theorem HI(lE:gA P cf){g:Operand}{ps:Array Tmp}{assign body:Code}{s X:St}{x:s'}(mc:eL fr (.rangeFunc g ps assign body)=true)(e:gD P cf n0 (.rangeFunc g ps assign body) s=some (x,X))
  {E:Env} {a:Act} {w:World} {h1:Exit->Act->World->Prop} (r:jY E fr s a w) (hp:HE E fr s w x X h1):(Code.rangeFunc g ps assign body).wpIn (fz none) 0 P h1 a w:=by
 simp only[eL,ay]at mc;simp only[gD]at e;split at e
 . rename_i gf lb hg;split at e
   case isFalse=>cases e
   rename_i hq;obtain⟨Cf,gL⟩:=hq;obtain⟨f',fi,Vc,R6,hfi,hlb,ON⟩:=mY r.good.kx r.N g _ hg;simp only[Ae]at R6;subst R6;simp only[dZ]at hfi;subst hfi;refine wpIn_rangeFunc fun fn _=>?_
   let OO:Loop:={ state:=.ready,pending:=none,fn,tmps:=a.tmps,params:=ps,assign,body,defers:=w.heap.size }
   have u1:iQ E s.h w (E.put s.n w.heap.size 0 0) (s.h.set s.n (some .tY)) (w.alloc (.deferred (some []))):=iQ.alloc (ob:=.deferred (some [])) (o:=.tY) r.good (r.qu _ (aK _)) H heap_alloc_new;have DN:(E.put s.n w.heap.size 0 0).ι (s.n+1)=none:=by rw[Env.gU H];exact r.qu _ H
   have u2:iQ (E.put s.n w.heap.size 0 0) (s.h.set s.n (some .tY)) (w.alloc (.deferred (some []))) ((E.put s.n w.heap.size 0 0).put (s.n+1) (w.alloc (.deferred (some []))).heap.size 0 0) ((s.h.set s.n (some .tY)).set (s.n+1) (some (.loop true none s.N ps.toList assign body))) ((w.alloc (.deferred (some []))).alloc (.loop OO)):=
    iQ.alloc (ob:=.loop OO) (o:=.loop true none s.N ps.toList assign body) u1.good DN gL
     ⟨OO,heap_alloc_new,rfl,rfl,rfl,rfl,rfl,yZ (Env.le_trans u1.le (Env.uD DN fun m x t e I=>by have:=u1.good.oL m x t e;omega)) r.N,by rw[show OO.tmps.size=fr from r.size];exact⟨mc.2.1,mc.2.2,fun p hp=>by simpa using br.1 mc.1 p hp⟩⟩
   rw[World.size_alloc]at u2;revert e;generalize hE2:(E.put s.n w.heap.size 0 0).put (s.n+1) (w.heap.size+1) 0 0=E2 at u2;generalize Ja:(s.h.set s.n (some .tY)).set (s.n+1) (some (.loop true none s.N ps.toList assign body))=O at u2;generalize hW1:(w.alloc (.deferred (some []))).alloc (.loop OO)=W1 at u2;intro e;have R9:E2.ι (s.n+1)=some (w.heap.size+1,0):=by rw[<- hE2];exact Env.fP
   have Cr:E2.ι s.n=some (w.heap.size,0):=by rw[<- hE2,Env.gU H];exact Env.fP
   have rR:∀k,k<s.n->E2.ι k=E.ι k:=fun k W=>by rw[<- hE2,Env.gU H,Env.gU H]
   have abj:pX E2 (s.n+2):=fun k W=>by
    have W:s.n+2<=k:=W;rw[<- hE2,Env.gU H,Env.gU H];exact r.qu k (by show s.n<=k;omega)
   have u12:=u1.trans u2;have ahv:dZ E2 lb Vc:=kY u12.le _ _ hlb;have Wn:(invoke (.fn (.func gf) Vc.toArray) #[.func (.yield (w.heap.size+1)) #[] #[]]).run P W1= .ok (.enter gf (Value.func (.yield (w.heap.size+1)) #[] #[]::Vc).toArray) W1:=by
    have ahw:=sV (w:=W1) (args:=(Value.func (.yield (w.heap.size+1)) #[] #[]::Vc).toArray) Cf;rw[<- ahw];simp[invoke]
   refine⟨w.heap.size+1,[{ target:=.collected w.heap.size,args:=#[] }],W1,{ target:=.fn (.func gf) Vc.toArray,args:=#[.func (.yield (w.heap.size+1)) #[] #[]] },W1,gf,
    (Value.func (.yield (w.heap.size+1)) #[] #[]::Vc).toArray,W1,?_,?_,fun _ _=>trivial,Wn,fun hd=>by simp[fz,Fence.wide]at hd,?_⟩
   . rw[<- hW1];exact run_enterLoop_outer _ _ _ _ _
   . simp only[resolve,ON];simp[go_sem]
   . split at e
     case h_2=>cases e
     rename_i v h n B;have JK:=(lE gf _ O (s.n+2) _ h n B E2 W1 (Value.func (.yield (w.heap.size+1)) #[] #[]::Vc) ⟨_,_,⟨_,[],[],⟨_,_,R9,rfl⟩,rfl,rfl,rfl⟩,ahv,rfl⟩ u2.good abj).1 Cf;have SJ:CallsIn Fence.wide (0-1) P gf (Value.func (.yield (w.heap.size+1)) #[] #[]::Vc).toArray W1 (rangePost (fz none) 0 P (w.heap.size+1) h1 { a with defers:=[{ target:=.collected w.heap.size,args:=#[] }]++a.defers }):=by
      refine callsIn_wide.2 (JK.mono ?_);rintro en w3 ⟨E3,u3,OP,abk,Jb,ho⟩;cases en with
      |panicked _=>exact ho.elim
      |outgrown=>exact ho.elim
      |returned v'=>
       have hl3:E3.ι (s.n+1)=some (w.heap.size+1,0):=by rw[OP _ H];exact R9
       have hd3:E3.ι s.n=some (w.heap.size,0):=by rw[OP _ H];exact Cr
       have oI:∀(st:Bool) (pe:Option Code) (N:J V) (pl:List Nat) (c1 c2:Code),h.get (s.n+1)=some (.loop st pe N pl c1 c2)->
         ∃w4,(Instr.endLoop (w.heap.size+1)).run P w3= .ok pe w4/\
          ∀(y:s') (s1:St),s1={ s with h:=h.set (s.n+1) none,n:=n,ij:=(fZ,[],[.map (some s.n)])::s.ij }->HE E fr s w y s1 h1->∀y',HB E3 y y'->h1 y' { a with defers:=[{ target:=.collected w.heap.size,args:=#[] }]++a.defers } w4:=by
        intro st pe N pl c1 c2 lC;obtain⟨b,s0,q1,rc,q2,q3,q4,_⟩:=u3.good.rel _ _ lC;rw[hl3]at q1;cases q1;have A8:=run_endLoop (P:=P) q2 (by rw[q3];cases st<;>simp);refine⟨_,A8.trans (aI (fun p=>Result.ok p _) q4),fun y s1 pW iO y' hy=>?_⟩;have uk:iQ E3 h w3 E3 (h.set (s.n+1) none) (w3.putObj (w.heap.size+1) (.loop { rc with state:=.exhausted })):=
         iQ.kill u3.good gL ⟨_,lC,rfl⟩ hl3 (by simp) rfl rfl rfl fun x I=>World.putObj_heap_other I
        have SK:=(u12.trans u3).trans uk;subst pW;have hsn:s.n<=n:=by omega
        exact iO E3 _ _ y' SK (fun k W=>by rw[OP k H];exact rR k W) hsn
         ⟨SK.good,abk,mB SK.le r.N,r.size,⟨_,a.defers,.inr ⟨rfl,s.n,w.heap.size,0,rfl,hd3,rfl⟩,jI SK.le _ _ r.ij,rfl⟩⟩ hy
       split at e
       . rename_i hdg hlg;obtain⟨rfl,rfl⟩:=ga e;obtain⟨w4,k1,k2⟩:=oI _ _ _ _ _ _ hlg;exact⟨_,w4,k1,k2 .normal _ rfl hp .normal trivial⟩
       . rename_i hdg hlg;obtain⟨rfl,rfl⟩:=ga e;obtain⟨w4,k1,k2⟩:=oI _ _ _ _ _ _ hlg;exact⟨_,w4,k1,wpIn_ret (k2 .ret _ rfl hp .ret trivial)⟩
       . rename_i id _ _ _ _ hdg hlg;obtain⟨rfl,rfl⟩:=ga e;obtain⟨w4,k1,k2⟩:=oI _ _ _ _ _ _ hlg;exact⟨_,w4,k1,wpIn_exit (k2 (.exit id) _ rfl hp (.exit id) rfl)⟩
       . cases e
     exact SJ
 . cases e
theorem k9(lE:gA P cf)(K:P.follows .mixedOrders=true):∀(c:Code) (s:St) (x:s') (X:St),(rz=none\/jS c=true)->eL fr c=true->gD P cf n0 c s=some (x,X)->
  ∀(E:Env) (a:Act) (w:World) (h1:Exit->Act->World->Prop),jY E fr s a w->HE E fr s w x X h1->c.wpIn (fz rz) 0 P h1 a w:=by
 intro c
 induction c with
 |skip=>
  intro s x X _ _ e E a w h1 r hp;simp only[gD,aq,aF]at e;obtain⟨rfl,rfl⟩:=e;exact wpIn_skip (hp E a w .normal (iQ.refl r.good) (fun _ _=>rfl) (aK _) r trivial)
 |region id ops BU=>
  intro s x X ug mc e E a w h1 r hp;simp only[eL,ay]at mc;cases BU with
  |false=>
   simp only[gD]at e;refine wpIn_region_list (lF lE ops.toList s x X (ug.imp _root_.id fun q=>by simp only[jS,br]at q;exact q) (fun o ho d hd=>?_) e E a w h1 r hp);have:=br.1 mc.1 o ho;rw[hd]at this;simpa using this
  |true=>
   simp only[gD]at e;have SL:=Ck (by simpa using mc.2);refine OI lE SL K e r.good r.qu r.N r.size fun E' a' w' x' u fE p7 hn vy my NR Wo I=>?_;exact hp E' a' w' x' u fE hn ⟨u.good,p7,vy,my,by rw[Wo,NR];exact jI u.le _ _ r.ij⟩ I
 |seq c1 c2 Oz OA=>
  intro s x X ug mc e E a w h1 r hp;simp only[eL,ay]at mc;simp only[gD]at e;refine wpIn_seq ?_;cases Q:gD P cf n0 c1 s with
  |none=>simp[Q]at e
  |some p=>
   obtain⟨x1,s1⟩:=p;refine Oz s x1 s1 (ug.imp _root_.id fun q=>by simp only[jS,ay]at q;exact q.1) mc.1 Q E a w _ r fun E' a' w' x' u fE hn r' I=>?_;cases x1 with
   |normal=>
    simp only[Q]at e;cases x'<;>first|(exact I.elim)|skip
    exact OA s1 x X (ug.imp _root_.id fun q=>by simp only[jS,ay]at q;exact q.2) mc.2 e E' a' w' h1 r' (hp.after u fE hn)
   |exit i=>
    simp only[Q,aq,aF]at e;obtain⟨rfl,rfl⟩:=e;cases x'<;>first|(exact I.elim)|skip
    exact hp E' a' w' _ u fE hn r' I
   |ret=>
    simp only[Q,aq,aF]at e;obtain⟨rfl,rfl⟩:=e;cases x'<;>first|(exact I.elim)|skip
    exact hp E' a' w' _ u fE hn r' I
   |panic v=>
    simp only[Q,aq,aF]at e;obtain⟨rfl,rfl⟩:=e;cases x'<;>first|(exact I.elim)|skip
    exact hp E' a' w' _ u fE hn r' I
 |cond c c1 c2 Oz OA=>
  intro s x X ug mc e E a w h1 r hp;simp only[eL,ay]at mc;simp only[gD]at e;split at e
  . rename_i B;exact wpIn_cond_true (rQ r.good.kx r.N B) (Oz s x X (ug.imp _root_.id fun q=>by simp only[jS,ay]at q;exact q.1) mc.1 e E a w h1 r hp)
  . rename_i B;exact wpIn_cond_false (rQ r.good.kx r.N B) (OA s x X (ug.imp _root_.id fun q=>by simp only[jS,ay]at q;exact q.2) mc.2 e E a w h1 r hp)
  . cases e
 |block id c ih=>
  intro s x X ug mc e E a w h1 r hp;simp only[eL]at mc;simp only[gD]at e;refine wpIn_block ?_;cases Q:gD P cf n0 c s with
  |none=>simp[Q]at e
  |some p=>
   obtain⟨x1,s1⟩:=p;refine ih s x1 s1 (ug.imp _root_.id fun q=>by simpa only[jS]using q) mc Q E a w _ r fun E' a' w' x' u fE hn r' I=>?_;cases x1 with
   |normal=>
    simp only[Q,aq,aF]at e;obtain⟨rfl,rfl⟩:=e;cases x'<;>first|(exact I.elim)|skip
    exact hp E' a' w' .normal u fE hn r' trivial
   |exit i=>
    simp only[Q]at e;cases x'<;>first|(exact I.elim)|skip
    rename_i j;have OB:i=j:=I;subst OB;simp only[Exit.inBlock];split at e
    . rename_i q;obtain⟨rfl,rfl⟩:=ga e;rw[aG q];exact hp E' a' w' .normal u fE hn r' trivial
    . rename_i q;obtain⟨rfl,rfl⟩:=ga e;rw[aB q];exact hp E' a' w' (.exit i) u fE hn r' rfl
   |ret=>
    simp only[Q,aq,aF]at e;obtain⟨rfl,rfl⟩:=e;cases x'<;>first|(exact I.elim)|skip
    exact hp E' a' w' .ret u fE hn r' trivial
   |panic v=>
    simp only[Q,aq,aF]at e;obtain⟨rfl,rfl⟩:=e;cases x'<;>first|(exact I.elim)|skip
    exact hp E' a' w' (.panic _) u fE hn r' I
 |loop c ih=>
  intro s x X ug mc e E a w h1 r hp;simp only[eL]at mc;simp only[gD]at e;refine wpIn_loop_rounds n0 ?_;have key:∀(k:Nat) (s:St),rounds (gD P cf n0 c) k s=some (x,X)->∀(E:Env) (a:Act) (w:World),jY E fr s a w->HE E fr s w x X h1->Code.roundsIn (fz rz) 0 P c h1 k a w:=by
   intro k
   induction k with
   |zero=>intro s e;cases e
   |succ k ihk=>
    intro s e E a w r hp;simp only[rounds]at e;rw[roundsIn_succ];cases Q:gD P cf n0 c s with
    |none=>simp[Q]at e
    |some p=>
     obtain⟨x1,s1⟩:=p;refine ih s x1 s1 (ug.imp _root_.id fun q=>by simpa only[jS]using q) mc Q E a w _ r fun E' a' w' x' u fE hn r' I=>?_;cases x1 with
     |normal=>
      simp only[Q]at e;cases x'<;>first|(exact I.elim)|skip
      exact ihk s1 e E' a' w' r' (hp.after u fE hn)
     |exit i=>
      simp only[Q,aq,aF]at e;obtain⟨rfl,rfl⟩:=e;cases x'<;>first|(exact I.elim)|skip
      exact hp E' a' w' _ u fE hn r' I
     |ret=>
      simp only[Q,aq,aF]at e;obtain⟨rfl,rfl⟩:=e;cases x'<;>first|(exact I.elim)|skip
      exact hp E' a' w' _ u fE hn r' I
     |panic v=>
      simp only[Q,aq,aF]at e;obtain⟨rfl,rfl⟩:=e;cases x'<;>first|(exact I.elim)|skip
      exact hp E' a' w' _ u fE hn r' I
  exact key n0 s e E a w r hp
 |exit id=>
  intro s x X _ _ e E a w h1 r hp;simp only[gD,aq,aF]at e;obtain⟨rfl,rfl⟩:=e;exact wpIn_exit (hp E a w (.exit id) (iQ.refl r.good) (fun _ _=>rfl) (aK _) r rfl)
 |ret=>
  intro s x X _ _ e E a w h1 r hp;simp only[gD,aq,aF]at e;obtain⟨rfl,rfl⟩:=e;exact wpIn_ret (hp E a w .ret (iQ.refl r.good) (fun _ _=>rfl) (aK _) r trivial)
 |rangeFunc g ps assign body _ _=>
  intro s x X ug mc e E a w h1 r hp;have hrn:rz=none:=by
   rcases ug with q|q
   . exact q
   . cases q
  subst hrn;exact HI lE mc e r hp
 |scope c _=>intro s x X _ _ e;cases e
 |label l=>intro s x X _ _ e;cases e
 |goto l=>intro s x X _ _ e;cases e
 |refuse w=>intro s x X _ _ e;cases e
def Cs(tmps:Array Value):ResultVar->Sem Value
 | .tmp t=>pure (tmps.getD t undef)
 | .cell c t=>do loadVar t (<- asAddr (tmps.getD c undef))
theorem JL(fn:Func)(tmps:Array Value):results fn tmps=(do
  let vs <- fn.results.mapM (Cs tmps)
  pure (if h:vs.size=1 then vs[0]else .tuple vs)):=by
 unfold results;congr 1
theorem Ap{E:Env}{h:J h2}{w:World}{N:J V}{a:Act}(g:Good E h w)(r:wJ E N a):∀(rs:List ResultVar) (vs:ag),kX P N h rs=some vs->
  ∃U2,(rs.mapM (Cs a.tmps)).run P w= .ok U2 w/\dZ E vs U2
 | [],vs,e=>by simp only[kX,aq]at e;subst e;exact⟨[],rfl,rfl⟩
 |x::rs,vs,e=>by
  simp only[kX]at e;cases Q:Fc P N h x with
  |none=>simp[Q]at e
  |some v=>cases O:kX P N h rs with
   |none=>simp[Q,O]at e
   |some us=>
    simp only[Q,O,aq]at e;subst e;obtain⟨us',q1,q2⟩:=Ap g r rs us O;have hv:∃v',(Cs a.tmps x).run P w= .ok v' w/\dV E v v':=by
     cases x with
     |tmp t=>
      obtain⟨v',p1,p2⟩:=r t v Q;exact⟨v',by simp[Cs,p1],p2⟩
     |cell c t=>
      simp only[Fc]at Q;split at Q
      . rename_i u hu;obtain⟨u',p1,p2⟩:=r c u hu;obtain⟨b,sh,rfl,v',p3,p4⟩:=BZ (P:=P) g p2 Q;refine⟨v',?_,p4⟩;simp[Cs,p1,asAddr,p3]
      . cases Q
    obtain⟨v',p1,p2⟩:=hv;refine⟨v'::us',?_,v',us',p2,q2,rfl⟩;rw[List.mapM_cons];simp only[Sem.run_bind,p1,q1,Result.andThen_ok,Sem.run_pure]
theorem Aq{E:Env}{h:J h2}{w:World}{N:J V}{a:Act}{fn:Func}{vs:ag}(g:Good E h w)(r:wJ E N a)(e:kX P N h fn.results.toList=some vs):
  ∃v',(results fn a.tmps).run P w= .ok v' w/\dV E (oneOf vs) v':=by
 obtain⟨U2,q1,q2⟩:=Ap (P:=P) g r fn.results.toList vs e;have gm:(results fn a.tmps).run P w= .ok (if h:U2.toArray.size=1 then U2.toArray[0]else .tuple U2.toArray) w:=by
  rw[JL,Array.mapM_eq_mapM_toList];simp only[Sem.run_bind,Sem.run_map,q1,Result.andThen_ok,Sem.run_pure]
 refine⟨_,gm,?_⟩
 match vs,q2 with
 | [],q2=>simp only[dZ]at q2;subst q2;exact⟨[],rfl,rfl⟩
 | [v],q2=>
   obtain⟨y,ys,p1,p2,rfl⟩:=q2;simp only[dZ]at p2;subst p2;exact p1
 |u::v::us,q2=>
  have R9:=eT q2;rw[dif_neg (by simp only[List.size_toArray,R9,aP];omega)];exact⟨U2,q2,rfl⟩
end
def DV(E:Env):Mode->FrameMode->Prop
 | .ret,.returning=>True
 | .nr v b,.panicking chain=>∃v',dV E v v'/\chain=[{ v:=v',recovered:=b }]
 |_,_=>False
theorem Eu{E E':Env}(h:E.le E'):∀{m:Mode} {u:FrameMode},DV E m u->DV E' m u
 | .ret,.returning,_=>trivial
 | .nr _ _,.panicking _,⟨v',r,q⟩=>⟨v',jh h _ _ r,q⟩
 | .ret,.run,r=>r.elim
 | .ret,.panicking _,r=>r.elim
 | .nr _ _,.run,r=>r.elim
 | .nr _ _,.returning,r=>r.elim
def Ev(E:Env)(fr:Nat)(s:St)(w:World)(x:s')(X:St)(m':Mode)(mJ:Frame)(R:List Frame)(h1:Exit->Act->List Frame->World->Prop):Prop:=
 ∀E' a' w' x' u',iQ E s.h w E' X.h w'->(∀k,k<s.n->E'.ι k=E.ι k)->s.n<=X.n->jY E' fr X a' w'->HB E' x x'->DV E' m' u'->h1 x' a' ({ mJ with mode:=u' }::R) w'
theorem Ev.after{E E1:Env}{fr:Nat}{s s1 X:St}{w w1:World}{x:s'}{m':Mode}{mJ:Frame}{R:List Frame}{h1:Exit->Act->List Frame->World->Prop}(p:Ev E fr s w x X m' mJ R h1)(u:iQ E s.h w E1 s1.h w1)
  (fE:∀k,k<s.n->E1.ι k=E.ι k) (hn:s.n<=s1.n):Ev E1 fr s1 w1 x X m' mJ R h1:=
 fun E' a' w' x' u2 u' OM n7 r rx rm=>p E' a' w' x' u2 (u.trans u') (fun k W=>by rw[OM k H];exact fE k W) H r rx rm
section
variable{P:Program}{cf:fO}{n0 fr:Nat}
theorem Fy(k n:Nat):List.range' k (n+1)=k::List.range' (k+1) n:=by simp[List.range'_succ]
theorem p8{ops:Array Oper}(mJ:Frame)(R:List Frame):∀(l:List Oper) (k:Nat) (s:St) (m:Mode) (x:s') (X:St) (m':Mode),(∀j,l[j]? =ops[k+j]?)->(∀o∈l,mX fr o.dst)->qB P cf ops l s m=some (x,X,m')->
  ∀(E:Env) (a:Act) (w:World) (u:FrameMode) (h1:Exit->Act->List Frame->World->Prop),jY E fr s a w->DV E m u->Ev E fr s w x X m' mJ R h1->
   wpOpsS P ops h1 (List.range' k l.length) a ({ mJ with mode:=u }::R) w
 | [],k,s,m,x,X,m',_,_,e,E,a,w,u,h1,r,rm,hp=>by
   simp only[qB,aq,aF]at e;obtain⟨rfl,rfl,rfl⟩:=e;exact hp E a w .normal u (iQ.refl r.good) (fun _ _=>rfl) (aK _) r trivial rm
 |o::rest,k,s,m,x,X,m',lC,Fw,e,E,a,w,u,h1,r,rm,hp=>by
  have ho:=Fw o (by simp);have ya:∀o∈rest,mX fr o.dst:=fun o h=>Fw o (by simp[h]);have SI:mX a.tmps.size o.dst:=by rw[r.size];exact ho
  have hgr:∀j,rest[j]? =ops[k+1+j]?:=fun j=>by have:=lC (j+1);simpa[Nat.add_assoc,Nat.add_comm 1 j]using this
  have mc:ops[k]? =some o:=by have:=lC 0;simpa using this.symm
  simp only[qB]at e;simp only[aP,Fy,wpOpsS,mc];have HF:∀b,fT ops o s.N=some b->Region.wanted o (yielded ops a.tmps)=b:=fun b hb=>wK (E:=E) (fun _ _ _ d _ _ _ v hv=>r.N d v hv) hb;have HG:∀y∈o.op.operands,mW E s.N a.eval y:=fun y _=>mY r.good.kx r.N y;split at e
  . rename_i hw;rw[aB (by rw[HF _ hw];simp)];split at e
    . rename_i N qW;exact p8 mJ R rest (k+1) _ m x X m' hgr ya e E _ w u h1 ⟨r.good,r.qu,oh r.N qW ⟨[],rfl,rfl⟩ SI,by rw[lT];exact r.size,by rw[jH];exact r.ij⟩ rm (hp.after (iQ.refl r.good) (fun _ _=>rfl) (aK _))
    . cases e
  . rename_i hw;rw[aG (HF _ hw)];split at e
    . rename_i v h n hs;split at e
      . rename_i N qW;obtain⟨E',w',v',gm,q1,q2,q3,q4⟩:=nO r.good (r.qu _ (aK _)) HG hs;have hn:s.n<=n:=by rcases q4 with⟨rfl,_⟩|rfl<;>omega
        have p7:pX E' n:=by
         rcases q4 with⟨rfl,rfl⟩|rfl
         . exact r.qu
         . intro k W;rw[q3 k H];exact r.qu k H
        have x3:=p8 mJ R rest (k+1) _ m x X m' hgr ya e E' (a.put o.dst v') w' u h1 ⟨q2.good,p7,oh (mB q2.le r.N) qW q1 SI,by rw[lT];exact r.size,by rw[jH];exact jI q2.le _ _ r.ij⟩ (Eu q2.le rm)
         (hp.after q2 (fun k W=>q3 k H) hn)
        rcases gm with gm|⟨gm,rfl⟩
        . rw[gm];simp only[Oper.upon_value];exact x3
        . rw[gm];simp only[Oper.upon_skip];exact x3
      . cases e
    . rename_i hs;have gm:=nO r.good (r.qu _ (aK _)) HG hs;simp only[jP]at gm;rw[gm];simp only;split at e
      . rename_i v;split at e
        . rename_i N qW;cases u with
          |panicking chain=>
           obtain⟨v',q1,rfl⟩:=rm;simp only[recoverD];exact p8 mJ R rest (k+1) _ (.nr v true) x X m' hgr ya e E (a.put o.dst v') w (.panicking [{ v:=v',recovered:=true }]) h1 ⟨r.good,r.qu,oh r.N qW q1 SI,by rw[lT];exact r.size,by rw[jH];exact r.ij⟩ ⟨v',q1,rfl⟩
            (hp.after (iQ.refl r.good) (fun _ _=>rfl) (aK _))
          |run=>exact rm.elim
          |returning=>exact rm.elim
        . cases e
      . rename_i hnp;split at e
        . rename_i N qW;have Ar:recoverD ({ mJ with mode:=u }::R)=none:=by
           cases m with
           |ret=>cases u<;>first|(exact rm.elim)|rfl
           |nr v b=>
            cases b with
            |false=>exact absurd rfl (hnp v)
            |true=>
             cases u with
             |panicking chain=>obtain⟨v',q1,rfl⟩:=rm;rfl
             |run=>exact rm.elim
             |returning=>exact rm.elim
          rw[Ar];exact p8 mJ R rest (k+1) _ m x X m' hgr ya e E (a.put o.dst .nilIface) w u h1 ⟨r.good,r.qu,oh r.N qW rfl SI,by rw[lT];exact r.size,by rw[jH];exact r.ij⟩ rm (hp.after (iQ.refl r.good) (fun _ _=>rfl) (aK _))
        . cases e
    . cases e
  . cases e
section
variable{c:Operand}{x y:Code}{a:Act}
theorem DW{R:List Frame}{w:World}{h1:Exit->Act->List Frame->World->Prop}(B:a.eval c= .bool true)(h:x.wpS P h1 a R w):(Code.cond c x y).wpS P h1 a R w:=wpS_cond B h
theorem Ct{R:List Frame}{w:World}{h1:Exit->Act->List Frame->World->Prop}(B:a.eval c= .bool false)(h:y.wpS P h1 a R w):(Code.cond c x y).wpS P h1 a R w:=wpS_cond B h
end
theorem As(lE:gA P cf)(K:P.follows .mixedOrders=true){c:Code}{s X:St}{x:s'}{m m':Mode}(mc:eL fr c=true)(e:(match gD P cf n0 c s with|some (x,X)=>some (x,X,m)|none=>none)=some (x,X,m'))
  {mJ:Frame} {R:List Frame} {E:Env} {a:Act} {w:World} {u:FrameMode} {h1:Exit->Act->List Frame->World->Prop} (r:jY E fr s a w) (rm:DV E m u) (hp:Ev E fr s w x X m' mJ R h1):c.wpS P h1 a ({ mJ with mode:=u }::R) w:=by
 cases Q:gD P cf n0 c s with
 |none=>simp[Q]at e
 |some p=>
  obtain⟨x1,s1⟩:=p;simp only[Q,aq,aF]at e;obtain⟨rfl,rfl,rfl⟩:=e;exact wpS_of_wp (wpIn_wide.1 (k9 (rz:=none) lE K c s x1 s1 (.inl rfl) mc Q E a w _ r fun E' a' w' x' u' fE hn r' I=>hp E' a' w' x' u u' fE hn r' I (Eu u'.le rm)))
theorem At(lE:gA P cf)(K:P.follows .mixedOrders=true)(mJ:Frame)(R:List Frame):∀(c:Code) (s:St) (m:Mode) (x:s') (X:St) (m':Mode),eL fr c=true->tK P cf n0 c s m=some (x,X,m')->
  ∀(E:Env) (a:Act) (w:World) (u:FrameMode) (h1:Exit->Act->List Frame->World->Prop),jY E fr s a w->DV E m u->Ev E fr s w x X m' mJ R h1->c.wpS P h1 a ({ mJ with mode:=u }::R) w:=by
 intro c
 induction c with
 |region id ops BU=>
  intro s m x X m' mc e E a w u h1 r rm hp;cases BU with
  |false=>
   simp only[tK]at e;have SM:=mc;simp only[eL,ay]at SM;have:=p8 (P:=P) (cf:=cf) (ops:=ops) mJ R ops.toList 0 s m x X m' (fun j=>by simp) (fun o ho d hd=>by
    have:=br.1 SM.1 o ho;rw[hd]at this;simpa using this) e E a w u h1 r rm hp
   exact wpS_region (by rw[List.range_eq_range',<- Array.length_toList];exact this)
  |true=>
   simp only[tK]at e;exact As (n0:=n0) lE K mc e r rm hp
 |seq c1 c2 Oz OA=>
  intro s m x X m' mc e E a w u h1 r rm hp;simp only[eL,ay]at mc;simp only[tK]at e;refine wpS_seq ?_;cases Q:tK P cf n0 c1 s m with
  |none=>simp[Q]at e
  |some p=>
   obtain⟨x1,s1,m1⟩:=p;refine Oz s m x1 s1 m1 mc.1 Q E a w u _ r rm fun E' a' w' x' u1 uu fE hn r' I MM=>?_;cases x1 with
   |normal=>
    simp only[Q]at e;cases x'<;>first|(exact I.elim)|skip
    exact OA s1 m1 x X m' mc.2 e E' a' w' u1 h1 r' MM (hp.after uu fE hn)
   |exit i=>
    simp only[Q,aq,aF]at e;obtain⟨rfl,rfl,rfl⟩:=e;cases x'<;>first|(exact I.elim)|skip
    exact hp E' a' w' _ u1 uu fE hn r' I MM
   |ret=>
    simp only[Q,aq,aF]at e;obtain⟨rfl,rfl,rfl⟩:=e;cases x'<;>first|(exact I.elim)|skip
    exact hp E' a' w' _ u1 uu fE hn r' I MM
   |panic v=>
    simp only[Q,aq,aF]at e;obtain⟨rfl,rfl,rfl⟩:=e;cases x'<;>first|(exact I.elim)|skip
    exact hp E' a' w' _ u1 uu fE hn r' I MM
 |cond c c1 c2 Oz OA=>
  intro s m x X m' mc e E a w u h1 r rm hp;simp only[eL,ay]at mc;simp only[tK]at e;split at e
  . rename_i B;exact DW (rQ r.good.kx r.N B) (Oz s m x X m' mc.1 e E a w u h1 r rm hp)
  . rename_i B;exact Ct (rQ r.good.kx r.N B) (OA s m x X m' mc.2 e E a w u h1 r rm hp)
  . cases e
 |_=>
  intro s m x X m' mc e E a w u h1 r rm hp;simp only[tK]at e;exact As (n0:=n0) lE K mc e r rm hp
theorem uL:∀(vs:ag) (i:Nat) (t:J V) (k:Nat),i+vs.length<fZ->(lB vs i t).get k=if i<=k/\k<i+vs.length then vs[k-i]? else t.get k
 | [],i,t,k,_=>by simp only[lB,bW];rw[aB H]
 |v::vs,i,t,k,h=>by
  simp only[aP]at h;simp only[lB,aP];rw[uL vs (i+1) _ k H,J.fJ _ _ _ H];by_cases q:k=i
  . subst q;rw[aB H,aG rfl,aG H];simp
  . rw[aB q];by_cases q2:i+1<=k/\k<i+1+vs.length
    . rw[aG q2,aG H];have:k-i=(k-(i+1))+1:=by omega
      rw[this];simp
    . rw[aB q2,aB H]
theorem nR{E:Env}{args:ag}{dH:List Value}{n:Nat}(r:dZ E args dH)(hn:args.length<=n)(ht:n<fZ):
  wJ E (lB args 0 .nil) { tmps:=dH.toArray++Array.replicate (n-dH.toArray.size) undef,defers:=[] }/\(dH.toArray++Array.replicate (n-dH.toArray.size) undef).size=n:=by
 have hl:=eT r;refine⟨fun t v hv=>?_,by simp;omega⟩;rw[uL args 0 .nil t H]at hv;split at hv
 . rename_i hi;obtain⟨v',Q,O⟩:=gK r _ v hv;refine⟨v',?_,O⟩;simp only[Nat.sub_zero]at Q;rw[cj (by simp;omega)];simpa using Q
 . cases hv
def jJ(P:Program):Bool:=P.funcs.toList.all fun fn=>match fn.body with|some c=>eL fn.ntmps c|none=>true
theorem Au(h:jJ P=true){f:FuncId}{fn:Func}{c:Code}(hf:P.funcs[f]? =some fn)(hb:fn.body=some c):eL fn.ntmps c=true:=by
 unfold jJ at h;have:=br.1 h fn (by rw[<- bM]at hf;exact List.mem_of_getElem? hf);rw[hb]at this;exact this
theorem A9{f:FuncId}{fn:Func}{c:Code}{args:Array Value}{u:FrameMode}{w:World}{cs:Ending->FrameMode->World->Prop}
  (hf:P.funcs[f]? =some fn) (hb:fn.body=some c)
  (h:∀(mJ:Frame) (R:List Frame),mJ.mode=u->
   c.wpS P (bodyPostS P fn mJ R cs) { tmps:=args++Array.replicate (fn.ntmps-args.size) undef,defers:=[] } (mJ::R) w):
  CallsDIn Fence.wide (0-1) P f args u w cs:=by
 refine⟨trivial,fun mJ R hu _=>?_⟩
 let b:Frame:={ (default:Frame)with fn:=f,kind:=.deferred }
 have Wp:Frame.enter P f args .deferred=
   b.at { tmps:=args++Array.replicate (fn.ntmps-args.size) undef,defers:=[] } [.code c]:=by
  simp[Frame.enter,Frame.at,hf,hb,b]
 obtain⟨e,a',cs',w',hq,OQ⟩:=h mJ R hu b [] rfl rfl;rw[<- Wp]at OQ;cases e with
 |normal=>
  obtain⟨hd,u',rfl,v,hr,hR⟩:=hq;exact⟨.returned v,u',w',_,hR,comesIn_wide.2 (Steps.trans OQ (.one step_end)),rfl,rfl,rfl,hd,fn,hf,hr⟩
 |ret=>
  obtain⟨hd,u',rfl,v,hr,hR⟩:=hq;obtain⟨ahx,hs⟩:=OQ;exact⟨.returned v,u',w',_,hR,comesIn_wide.2 hs,rfl,rfl,rfl,hd,fn,hf,hr⟩
 |panic chain=>
  obtain⟨hd,u',rfl,hR⟩:=hq;obtain⟨ahx,hs⟩:=OQ;exact⟨.panicked chain,u',w',_,hR,comesIn_wide.2 hs,rfl,rfl,rfl,hd,fn,hf⟩
 |exit id=>exact hq.elim
 |goto l=>exact hq.elim
 |outgrown=>
  obtain⟨u',hR⟩:=hq;exact⟨.outgrown,u',w',b,hR,comesIn_wide.2 (OQ.resolve_left (by simp[b])),rfl,rfl,trivial⟩
theorem oo(lE:gA P cf)(K:P.follows .mixedOrders=true)(sF:jJ P=true){fn:Func}{N:J V}{a:Act}:∀(ds:List (FuncId×ag×ag)) (m:Mode) (h:J h2) (n:Nat) (sE:pO) (h':J h2) (n':Nat),
  mN P cf n0 fn N ds m h n=some (sE,h',n')->∀(E:Env) (w:World) (ds':List Deferred) (u:FrameMode) (cs:Ending->World->Prop),Good E h w->pX E n->wJ E N a->v8 E ds ds'->DV E m u->
   (∀E' w' en,iQ E h w E' h' w'->(∀k,k<n->E'.ι k=E.ι k)->pX E' n'->n<=n'->wL E' sE en->cs en w')->LeavesInM Fence.wide 0 P fn a.tmps cs ds' u w
 | [],m,h,n,sE,h',n',e,E,w,ds',u,cs,g,hd,hf,R8,rm,hR=>by
   simp only[v8]at R8;subst R8;cases m with
   |ret=>
    cases u<;>first|(exact rm.elim)|skip
    simp only[mN]at e;split at e
    . rename_i vs hr;simp only[aq,aF]at e;obtain⟨rfl,rfl,rfl⟩:=e;obtain⟨v',Q,O⟩:=Aq (P:=P) g hf hr;exact⟨v',Q,hR E w _ (iQ.refl g) (fun _ _=>rfl) hd (aK _) O⟩
    . cases e
   |nr v b=>
    cases u with
    |panicking chain=>
     obtain⟨v',q1,rfl⟩:=rm;cases b with
     |false=>
      simp only[mN,aq,aF]at e;obtain⟨rfl,rfl,rfl⟩:=e;exact hR E w _ (iQ.refl g) (fun _ _=>rfl) hd (aK _) ⟨v',q1,rfl⟩
     |true=>cases e
    |run=>exact rm.elim
    |returning=>exact rm.elim
 |(gf,c,args)::ds,m,h,n,sE,h',n',e,E,w,ds',u,cs,g,hd,hf,R8,rm,hR=>by
  obtain⟨d,ys,NS,r3,rfl⟩:=R8;simp only[mN]at e;have abn:u≠ .run:=by intro q;subst q;cases m<;>exact rm.elim
  split at e
  ·
   rename_i gL;rcases NS with⟨q,_⟩|⟨_,m0,b,s0,ha,iY,rfl⟩
   . exact absurd q (Nat.not_lt.2 gL)
   simp only at ha;subst ha;simp only at e;split at e
   . rename_i NR;split at e
     . rename_i eO;obtain⟨b',X,q1,q2⟩:=g.rel _ _ NR;rw[iY]at q1;cases q1;have uk:iQ E h w E (h.set m0 none) (w.putObj b (.deferred none)):=iQ.kill g eO ⟨_,NR,rfl⟩ iY (by simp) rfl rfl rfl fun x I=>World.putObj_heap_other I;exact⟨abn,.inl ⟨b,_,rfl,run_takeDeferred q2,oo lE K sF ds m _ n sE h' n' e E _ ys u cs uk.good hd hf r3 rm fun E2 w2 en u2 rR Cr pD ho=>hR E2 w2 en (uk.trans u2) rR Cr pD ho⟩⟩
     . cases e
   . cases e
  rename_i gL;obtain⟨c',dH,r1,r2,rfl⟩:∃c' dH,dZ E c c'/\dZ E args dH/\d={ target:=.fn (.func gf) c'.toArray,args:=dH.toArray }:=by
   rcases NS with⟨_,q⟩|⟨q,_⟩
   . exact q
   . exact absurd (Nat.le_of_eq q.symm) gL
  split at e
  . rename_i gn hgn;split at e
    . rename_i code hb;split at e
      . rename_i hq;obtain⟨Cf,jx,gL⟩:=hq;have hvr:=iK r2 r1;obtain⟨vy,my⟩:=nR (n:=gn.ntmps) hvr jx gL;have Ew:=Au sF hgn hb;have next:∀(X:St) (m':Mode) (vs:ag),X.ij=[]->kX P X.N X.h gn.results.toList=some vs->mN P cf n0 fn N ds (match m' with | .nr _ true=>.ret|m=>m) X.h X.n=some (sE,h',n')->
          ∀E' (a':Act) w' u',iQ E h w E' X.h w'->(∀k,k<n->E'.ι k=E.ι k)->n<=X.n->jY E' gn.ntmps X a' w'->DV E' m' u'->
          a'.defers=[]/\∃v,(results gn a'.tmps).run P w'= .ok v w'/\LeavesInM Fence.wide 0 P fn a.tmps cs ys (settle u') w':=by
         intro X m' vs NR V6 Fh E' a' w' u' uu fE hn r' MM;have ahy:a'.defers=[]:=by have:=r'.ij;rw[NR]at this;exact this
         obtain⟨v',p1,p2⟩:=Aq (P:=P) r'.good r'.N V6;refine⟨ahy,v',p1,?_⟩;refine oo lE K sF ds _ X.h X.n sE h' n' Fh E' w' ys (settle u') cs r'.good r'.qu (mB uu.le hf) (jI uu.le _ _ r3) ?_ fun E2 w2 en u2 rR Cr pD ho=>hR E2 w2 en (uu.trans u2) (fun k W=>by rw[rR k H];exact fE k W) Cr H ho;cases m' with
         |ret=>cases u'<;>first|(exact MM.elim)|trivial
         |nr v b=>
          cases u' with
          |panicking chain=>
           obtain⟨v2,q1,rfl⟩:=MM;cases b with
           |false=>exact⟨v2,q1,rfl⟩
           |true=>trivial
          |run=>exact MM.elim
          |returning=>exact MM.elim
        have Wn:(invoke (.fn (.func gf) c'.toArray) dH.toArray).run P w= .ok (.enter gf (dH++c').toArray) w:=by
         simp only[invoke];have:dH.toArray++c'.toArray=(dH++c').toArray:=by simp
         rw[this];exact sV Cf
        refine⟨abn,.inr ⟨fun hd=>by simp[Fence.wide]at hd,_,_,gf,_,rfl,Wn,fun _ _=>trivial,A9 hgn hb fun mJ R abo=>?_⟩⟩;have tM:mJ={ mJ with mode:=u }:=by subst abo;rfl
        rw[tM];have MN:jY E gn.ntmps { N:=lB (args++c) 0 .nil,h:=h,n:=n,ij:=[] } { tmps:=(dH++c').toArray++Array.replicate (gn.ntmps-(dH++c').toArray.size) undef,defers:=[] } w:=⟨g,hd,vy,my,rfl⟩;split at e
        . rename_i X m' I;split at e
          . rename_i NR;split at e
            . rename_i vs V6;refine At lE K mJ R code _ m .normal X m' Ew I E _ w u _ MN rm fun E' a' w' x' u' uu fE hn r' pF MM=>?_;cases x'<;>first|(exact pF.elim)|skip
              obtain⟨k1,v,k2,k3⟩:=next X m' vs NR V6 e E' a' w' u' uu fE hn r' MM
              exact⟨k1,u',rfl,v,k2,k3⟩
            . cases e
          . cases e
        . rename_i X m' I;split at e
          . rename_i NR;split at e
            . rename_i vs V6;refine At lE K mJ R code _ m .ret X m' Ew I E _ w u _ MN rm fun E' a' w' x' u' uu fE hn r' pF MM=>?_;cases x'<;>first|(exact pF.elim)|skip
              obtain⟨k1,v,k2,k3⟩:=next X m' vs NR V6 e E' a' w' u' uu fE hn r' MM
              exact⟨k1,u',rfl,v,k2,k3⟩
            . cases e
          . cases e
        . cases e
      . cases e
    . cases e
  . cases e
theorem HJ(lE:gA P cf)(K:P.follows .mixedOrders=true)(sF:jJ P=true){f:FuncId}{args:ag}{h:J h2}{n:Nat}{sE:pO}{h':J h2}{n':Nat}(e:enter P cf n0 f args h n=some (sE,h',n'))
  {E:Env} {w:World} {dH:List Value} (ra:dZ E args dH) (g:Good E h w) (hd:pX E n):Calls P f dH.toArray w (iG E h n w sE h' n'):=by
 unfold enter at e;split at e
 . rename_i fn hf;split at e
   . rename_i code hb;split at e
     . rename_i hq;obtain⟨vy,my⟩:=nR (n:=fn.ntmps) ra hq.1 hq.2;have Ew:=Au sF hf hb;have MN:jY E fn.ntmps { N:=lB args 0 .nil,h:=h,n:=n,ij:=[] } { tmps:=dH.toArray++Array.replicate (fn.ntmps-dH.toArray.size) undef,defers:=[] } w:=⟨g,hd,vy,my,rfl⟩;refine callsIn_wide.1 (callsIn_of_wp_marks (n:=0) hf hb trivial ?_);have oI:∀(s:St) (m:Mode) (u:FrameMode) (E':Env) (a':Act) (w':World),mN P cf n0 fn s.N s.ij m s.h s.n=some (sE,h',n')->iQ E h w E' s.h w'->(∀k,k<n->E'.ι k=E.ι k)->n<=s.n->jY E' fn.ntmps s a' w'->DV E' m u->
         LeavesInM Fence.wide 0 P fn a'.tmps (iG E h n w sE h' n') a'.defers u w':=by
        intro s m u E' a' w' hl uu fE hn r' rm;exact oo lE K sF s.ij m s.h s.n sE h' n' hl E' w' a'.defers u _ r'.good r'.qu r'.N r'.ij rm fun E2 w2 en u2 rR Cr pD ho=>⟨E2,uu.trans u2,fun k W=>by rw[rR k H];exact fE k W,Cr,H,ho⟩
       split at e
       . rename_i s I;refine k9 (rz:=none) lE K code _ _ s (.inl rfl) Ew I E _ w _ MN fun E' a' w' x' uu fE hn r' pF=>?_;cases x'<;>first|(exact pF.elim)|skip
         exact oI s .ret .returning E' a' w' e uu fE hn r' trivial
       . rename_i s I;refine k9 (rz:=none) lE K code _ _ s (.inl rfl) Ew I E _ w _ MN fun E' a' w' x' uu fE hn r' pF=>?_;cases x'<;>first|(exact pF.elim)|skip
         exact oI s .ret .returning E' a' w' e uu fE hn r' trivial
       . rename_i v s I;refine k9 (rz:=none) lE K code _ _ s (.inl rfl) Ew I E _ w _ MN fun E' a' w' x' uu fE hn r' pF=>?_;cases x'<;>first|(exact pF.elim)|skip
         exact oI s (.nr v false) _ E' a' w' e uu fE hn r' pF
       . cases e
     . cases e
   . cases e
 . cases e
theorem Cu{E:Env}:∀(ps:List Nat) (args:ag) (dH:List Value) (N Lf:J V) (t:Array Value),wz (Jj ps args) N=some Lf->dZ E args dH->(∀p∈ps,p<t.size)->Of E N t->
  Of E Lf ((ps.zip dH).foldl (fun t (p,v)=>t.setIfInBounds p v) t)/\((ps.zip dH).foldl (fun t (p,v)=>t.setIfInBounds p v) t).size=t.size
 | [],args,dH,N,Lf,t,e,_,_,r=>by simp only[Jj,wz,aq]at e;subst e;exact⟨by simpa using r,by simp⟩
 |p::ps,[],dH,N,Lf,t,e,ra,_,r=>by
  simp only[Jj,wz,aq]at e;subst e;simp only[dZ]at ra;subst ra;exact⟨by simpa using r,by simp⟩
 |p::ps,v::vs,dH,N,Lf,t,e,ra,hp,r=>by
  obtain⟨y,ys,r0,rs,rfl⟩:=ra;simp only[Jj,wz]at e;split at e
  . rename_i eO;have Wq:=hp p (by simp);have O:=Cu ps vs ys _ Lf (t.setIfInBounds p y) e rs (fun q hq=>by simpa using hp q (by simp[hq])) (fun k x I=>by
     rw[J.fJ _ _ _ eO]at I;by_cases q:k=p
     . subst q;rw[aG rfl]at I;cases I;exact⟨y,by simp[Wq],r0⟩
     . rw[aB q]at I;obtain⟨x',k1,k2⟩:=r k x I;exact⟨x',by rw[Array.getElem?_setIfInBounds_ne (Ne.symm q)];exact k1,k2⟩)
    simp only[List.zip_cons_cons,dh];exact⟨O.1,by rw[O.2];simp⟩
  . cases e
theorem MO(ps:Array Nat)(args:List Value)(t:Array Value):(ps.zip args.toArray).foldl (fun t (p,v)=>t.setIfInBounds p v) t=(ps.toList.zip args).foldl (fun t (p,v)=>t.setIfInBounds p v) t:=by
 rw[<- Array.foldl_toList];congr 1;simp
theorem HK(lE:gA P cf)(K:P.follows .mixedOrders=true){m:Nat}{args:ag}{h:J h2}{n:Nat}{sE:pO}{h':J h2}{n':Nat}(e:wA P cf n0 m args h n=some (sE,h',n'))
  {E:Env} {w:World} {dH:List Value} (ra:dZ E args dH) (g:Good E h w) (hd:pX E n) {l s0:Nat} (iY:E.ι m=some (l,s0)):YieldAt Fence.wide 0 P l dH.toArray w (iG E h n w sE h' n'):=by
 unfold wA at e;split at e
 case h_2=>cases e
 rename_i N ps assign body lC;split at e
 case isFalse=>cases e
 rename_i hq;obtain⟨MP,ug,hpa,hpb⟩:=hq;split at e
 case h_2=>cases e
 rename_i Lf qW;obtain⟨b,X,q1,r,hb,vK,hpe,vL,ahz,ahA,htr,Wr,abp,abq⟩:=g.rel _ _ lC;rw[iY]at q1;cases q1;simp only[if_true]at vK;subst vL;subst ahz;subst ahA;have hlw:l<w.heap.size:=(aW.1 hb).1;have Vd:eN h m:=⟨_,lC,rfl⟩;have gm:=run_yield (P:=P) (args:=dH.toArray) hb (by simp[eT ra,<- ug]);refine⟨_,_,_,_,gm,roundIn_of_wpIn trivial ?_⟩;rw[MO];obtain⟨ahB,DQ⟩:=Cu r.params.toList args dH N Lf r.tmps qW ra abq htr;have qw:∀k o,(h.set m none).get k=some o->k≠m/\h.get k=some o:=by
  intro k o W;rw[J.fJ _ _ _ MP]at W;split at W
  . cases W
  . rename_i q;exact⟨q,W⟩
 have Cv:∀k o,(h.set m none).get k=some o->h.get k=some o:=fun k o q=>(qw k o q).2;split at e
 case h_2=>cases e
 rename_i s1 Z9;refine k9 (rz:=some l) lE K r.assign _ _ s1 (.inr hpa) (by rw[<- DQ]at Wr;exact Wr) Z9 E _ w _ ⟨g.sub Cv,hd,ahB,rfl,rfl⟩ fun E1 a1 w1 x1 u1 abr DN r1 ahC=>?_;cases x1<;>first|(exact ahC.elim)|skip
 have nl0:∀k t,(h.set m none).get k≠none->E.ι k≠some (l,t):=by
  intro k t W q;obtain⟨o,ho⟩:=bA.1 W;obtain⟨c1,c2⟩:=qw k o ho;exact g.inj m k l s0 t (fun q=>c1 q.symm) Vd (by rw[c2];simp) iY q
 have nl1:∀k t,s1.h.get k≠none->E1.ι k≠some (l,t):=by
  intro k t W q;obtain⟨m0,t0,c1,c2,_⟩:=u1.tL k l t W q hlw;exact nl0 m0 t0 c1 c2
 have Sz:w1.heap[l]? =some (.loop r):=(u1.keep l hlw fun k t W=>nl0 k t W.live).trans hb;have Sa:l<w1.heap.size:=(aW.1 Sz).1;refine⟨_,run_beginRound Sz vK,?_⟩;generalize SG:w1.putObj l (.loop { r with state:=.busy })=w2;have NP:w2.heap[l]? =some (.loop { r with state:=.busy }):=by rw[<- SG];exact World.putObj_heap_same Sa
 have MA:w2.heap.size=w1.heap.size:=by rw[<- SG];simp
 have OR:∀k,k≠l->w2.heap[k]? =w1.heap[k]?:=fun k W=>by rw[<- SG];exact World.putObj_heap_other W
 have p9:Good E1 s1.h w2:=by
  refine⟨fun k o W=>?_,u1.good.inj,fun k b s W=>by rw[MA];exact u1.good.oL k b s W,u1.good.kx,fun b c B=>⟨?_,(u1.good.iz b c B).2⟩⟩
  case refine_2=>
   obtain⟨⟨el,fz,mz⟩,_⟩:=u1.good.iz b c B;rw[OR b fun q=>by rw[q,Sz]at mz;cases mz];exact⟨el,fz,mz⟩
  obtain⟨b,s,k1,k2⟩:=u1.good.rel k o W;have iV:b≠l:=by intro q;subst q;exact nl1 k s (by rw[W];simp) k1
  exact⟨b,s,k1,ji E1.le_refl rfl (OR b iV) k2⟩
 have hN1:a1.tmps.size=r.tmps.size:=by
  exact r1.size.trans DQ
 have rest:∀(x:s') (s2:St),gD P cf n0 r.body s1=some (x,s2)->∀(st:Bool) (pe:Option Code) (h1:Exit->Act->World->Prop),
   (∀x' E2 a2 w3,HB E2 x x'->((Instr.endRound l pe).run P w3= .ok (.bool pe.isNone) (w3.putObj l (.loop { r with state:=if pe.isNone then .ready else .done,pending:=pe }))->
    (pe.isNone=st->iQ E h w E2 (s2.h.set m (some (.loop st pe N r.params.toList r.assign r.body))) (w3.putObj l (.loop { r with state:=if pe.isNone then .ready else .done,pending:=pe })))->pX E2 s2.n->n<=s2.n->(∀k,k<n->E2.ι k=E.ι k)->h1 x' a2 w3))->
   r.body.wpIn (fz (some l)) 0 P h1 a1 w2:=by
  intro x s2 Ws st pe h1 hQ;refine k9 (rz:=some l) lE K r.body s1 x s2 (.inr hpb) abp Ws E1 a1 w2 h1 ⟨p9,r1.qu,r1.N,hN1,r1.ij⟩ fun E2 a2 w3 x' u2 rR pD r2 pF=>?_;refine hQ x' E2 a2 w3 pF ?_ ?_ r2.qu (bE DN pD) (fun k W=>by rw[rR k (bR W DN)];exact abr k W)
  . have hb3:w3.heap[l]? =some (.loop { r with state:=.busy }):=(u2.keep l (by rw[MA];exact Sa) fun k t W=>nl1 k t W.live).trans NP;exact run_endRound (P:=P) (r:={ r with state:=.busy }) pe hb3
  . intro ahD;have nl2:∀k t,s2.h.get k≠none->E2.ι k≠some (l,t):=by
     intro k t W q;obtain⟨m0,t0,c1,c2,_⟩:=u2.tL k l t W q (by rw[MA];exact Sa);exact nl1 m0 t0 c1 c2
    have hb3:w3.heap[l]? =some (.loop { r with state:=.busy }):=(u2.keep l (by rw[MA];exact Sa) fun k t W=>nl1 k t W.live).trans NP;have hl3:l<w3.heap.size:=(aW.1 hb3).1;have kK:E.le E2:=Env.le_trans u1.le u2.le;have OS:E2.ι m=some (l,s0):=(kK.nm m l s0 iY).1;generalize Wt:({ r with state:=if pe.isNone then .ready else .done,pending:=pe }:Loop)=r4;have abt:(w3.putObj l (.loop r4)).heap.size=w3.heap.size:=by simp
    have OT:∀k,k≠l->(w3.putObj l (.loop r4)).heap[k]? =w3.heap[k]?:=fun k W=>World.putObj_heap_other W;have qU:nE E2 (w3.putObj l (.loop r4)) l s0 (.loop st pe N r.params.toList r.assign r.body):=by
     refine⟨r4,World.putObj_heap_same hl3,?_,?_,?_,?_,?_,?_,?_⟩
     . rw[<- Wt,<- ahD]
     . rw[<- Wt]
     . rw[<- Wt]
     . rw[<- Wt]
     . rw[<- Wt]
     . rw[<- Wt];exact yZ kK htr
     . rw[<- Wt];exact⟨Wr,abp,abq⟩
    have tQ:∀k o,(s2.h.set m (some (.loop st pe N r.params.toList r.assign r.body))).get k=some o->(k=m/\o= .loop st pe N r.params.toList r.assign r.body)\/(k≠m/\s2.h.get k=some o):=by
     intro k o q;rw[J.fJ _ _ _ MP]at q;split at q
     . rename_i c;cases q;exact .inl ⟨c,rfl⟩
     . rename_i c;exact .inr ⟨c,q⟩
    have OU:∀b c,E2.φ b=some c->b≠l:=fun b c B q=>by
     obtain⟨⟨el,fz,mz⟩,_⟩:=u2.good.iz b c B;rw[q,hb3]at mz;cases mz
    refine⟨kK,⟨?_,?_,?_,u2.good.kx,fun b c B=>⟨by rw[OT b (OU b c B)];exact(u2.good.iz b c B).1,fun k t W q0=>?_⟩⟩,?_,?_,?_,?_,?_,?_,?_⟩
    case refine_4=>
     obtain⟨o,W,ho⟩:=W;rcases tQ k o W with⟨rfl,rfl⟩|⟨c',q⟩
     . rw[OS]at q0;cases q0;exact OU _ c B rfl
     . exact(u2.good.iz b c B).2 k t ⟨o,q,ho⟩ q0
    case refine_11=>
     intro b c B;rcases u2.DI b c B with q|q|⟨m1,t1,q1,q2⟩
     . rcases u1.DI b c q with q|q|⟨m0,t0,q1,q2⟩
       . exact .inl q
       . exact .inr (.inl q)
       . exact .inr (.inr ⟨m0,t0,ig Cv q1,q2⟩)
     . have c1:=u1.size;exact .inr (.inl H)
     . rcases bt b w.heap.size with Bn|Bn
       . obtain⟨m0,t0,_,f2,f3⟩:=u1.tL m1 b t1 q1.live q2 Bn;exact .inr (.inr ⟨m0,t0,ig Cv (f3 q1),f2⟩)
       . exact .inr (.inl Bn)
    . intro k o q;rcases tQ k o q with⟨rfl,rfl⟩|⟨c,q⟩
      . exact⟨l,s0,OS,qU⟩
      . obtain⟨b,t,k1,k2⟩:=u2.good.rel k o q;have iV:b≠l:=by intro c;subst c;exact nl2 k t (by rw[q];simp) k1
        exact⟨b,t,k1,ji E2.le_refl rfl (OT b iV) k2⟩
    . intro k k' b t t' iV W oV e1 e2;obtain⟨o,W,ho⟩:=W;obtain⟨o',oV⟩:=bA.1 oV;rcases tQ k o W with⟨rfl,rfl⟩|⟨c,q⟩
      . rcases tQ k' o' oV with⟨rfl,rfl⟩|⟨c',q'⟩
        . exact iV rfl
        . rw[OS]at e1;cases e1;exact nl2 k' t' (by rw[q'];simp) e2
      . rcases tQ k' o' oV with⟨rfl,rfl⟩|⟨c',q'⟩
        . rw[OS]at e2;cases e2;exact nl2 k t (by rw[q];simp) e1
        . exact u2.good.inj k k' b t t' iV ⟨o,q,ho⟩ (by rw[q'];simp) e1 e2
    . intro k b t q;rw[abt];exact u2.good.oL k b t q
    . rw[abt];have c1:=u1.size;have c2:=u2.size;omega
    . exact u2.tape.trans (by rw[<- SG];exact u1.tape)
    . exact u2.os.trans (by rw[<- SG];exact u1.os)
    . exact u2.output.trans (by rw[<- SG];exact u1.output)
    . intro b Bn Al;have iV:b≠l:=by intro c;subst c;exact Al m s0 Vd iY
      have c1:=u1.size;rw[OT b iV,u2.keep b H ?_,OR b iV,u1.keep b Bn ?_]
      . intro k t W q;exact Al k t (ig Cv W) q
      . intro k t W q;obtain⟨m0,t0,d1,d2,d3⟩:=u1.tL k b t W.live q Bn;exact Al m0 t0 (ig Cv (d3 W)) d2
    . intro k b t W q Bn;obtain⟨o,W⟩:=bA.1 W;have c1:=u1.size;rcases tQ k o W with⟨rfl,rfl⟩|⟨c,qk⟩
      . rw[OS]at q;cases q;exact⟨k,s0,Vd.live,iY,fun _=>Vd⟩
      . obtain⟨m1,t1,d1,d2,d3⟩:=u2.tL k b t (by rw[qk];simp) q H;obtain⟨m0,t0,f1,f2,f3⟩:=u1.tL m1 b t1 d1 d2 Bn;exact⟨m0,t0,pU Cv f1,f2,fun z=>ig Cv (f3 (d3 (pR MP z c)))⟩
 split at e
 . rename_i s2 Ws;simp only[aq,aF]at e;obtain⟨rfl,rfl,rfl⟩:=e;refine rest _ s2 Ws true none _ fun x' E2 a2 w3 pF gm hu p7 hn fE=>?_;cases x'<;>first|(exact pF.elim)|skip
   exact⟨_,_,gm,E2,hu rfl,fE,p7,hn,rfl⟩
 . rename_i s2 Ws;simp only[aq,aF]at e;obtain⟨rfl,rfl,rfl⟩:=e;refine rest _ s2 Ws false (some .ret) _ fun x' E2 a2 w3 pF gm hu p7 hn fE=>?_;cases x'<;>first|(exact pF.elim)|skip
   exact⟨_,_,gm,E2,hu rfl,fE,p7,hn,rfl⟩
 . rename_i j s2 Ws;simp only[aq,aF]at e;obtain⟨rfl,rfl,rfl⟩:=e;refine rest _ s2 Ws false (some (.exit j)) _ fun x' E2 a2 w3 pF gm hu p7 hn fE=>?_;cases x'<;>first|(exact pF.elim)|skip
   have:_=j:=pF.symm;subst this;exact⟨_,_,gm,E2,hu rfl,fE,p7,hn,rfl⟩
 . cases e
theorem Ll(lE:gA P cf)(K:P.follows .mixedOrders=true)(sF:jJ P=true):gA P (fun f args h n=>if f<P.funcs.size then enter P cf n0 f args h n else wA P cf n0 (f-P.funcs.size) args h n):=by
 intro f args h n sE h' n' e E w dH ra g hd;simp only at e;split at e
 . rename_i eO;exact⟨fun _=>HJ lE K sF e ra g hd,fun m l s hf _=>absurd eO (by rw[hf];exact Nat.not_lt.2 (cQ _ _))⟩
 . rename_i ON;refine⟨fun B=>?_,fun m l s hf iY=>?_⟩
   . exfalso;unfold callee at B;rw[Array.getElem?_eq_none (Nat.not_lt.1 ON)]at B;cases B
   . subst hf;rw[Nat.add_sub_cancel_left]at e;exact HK lE K e ra g hd iY
theorem Av(K:P.follows .mixedOrders=true)(sF:jJ P=true):∀k,gA P (call P n0 k)
 |0=>fun _ _ _ _ _ _ _ e=>by cases e
 |k+1=>Ll (Av K sF k) K sF
end
open Go.RowKit
def Ex:List (Nat×Nat)->Nat->Option (Nat×Nat)
 | [],_=>none
 |p::r,m=>if p.2=m then some (p.1,0)else Ex r m
def gN:Nat:=tX.length
theorem zl:∀{l:List (Nat×Nat)} {m:Nat} {q:Nat×Nat},Ex l m=some q->∃p∈l,p.2=m/\q=(p.1,0)
 | [],_,_,h=>by cases h
 |p::r,m,q,h=>by
  unfold Ex at h;split at h
  . rename_i hb;cases h;exact⟨p,by simp,hb,rfl⟩
  . obtain⟨p',Q,O⟩:=zl h;exact⟨p',bj _ Q,O⟩
theorem HL:∀{l:List (Nat×Nat)} {p:Nat×Nat},p∈l->(l.map (·.2)).Nodup->Ex l p.2=some (p.1,0)
 |q::r,p,h,hn=>by
  unfold Ex;rcases aD.1 h with rfl|h
  . rw[aG rfl]
  . simp only[bP,List.nodup_cons]at hn;rw[aB (fun e=>hn.1 (by rw[e];exact List.mem_map_of_mem h))];exact HL h hn.2
theorem SN:(tX.map (·.2)).Nodup:=by
 have h:tX.map (·.2)=List.range tX.length:=by decide
 rw[h];exact List.nodup_range
section
variable(φ:Nat->Option (Array Value)){E:Env}(w:World){h:J h2}
theorem Fz{p:Nat×Nat}(h:p∈tX):p.2<gN:=by
 have e:tX.map (·.2)=List.range tX.length:=by decide
 have:=List.mem_map_of_mem (f:=(·.2)) h;rw[e]at this;exact bL.1 this
def Bo:Env:=⟨fun m=>Ex tX m,fun _=>0,φ⟩
def E0:Env:=Bo fun _=>none
def SO:Prop:=∀b c,φ b=some c->∃el fz,w.heap[b]? =some (.cells c el fz)
theorem Good.fz{w:World}(g:Good E h w):SO E.φ w:=fun b c q=>(g.iz b c q).1
theorem ahF:GE (Bo φ):=fun p hp=>HL hp SN
def WG:Prop:=∀p∈tX,p.1<w.heap.size
theorem Good.wg{w:World}(g:Good E h w):WG w:=fun p hp=>g.oL _ _ _ (g.kx p hp)
end
section
variable{φ:Nat->Option (Array Value)}{w:World}{n:Nat}
theorem wR(hw:WG w)(kO:SO φ w):Good (Bo φ) .nil w:=⟨fun m o h=>by simp[J.get]at h,fun m _ _ _ _ _ h=>absurd rfl h.live,fun m b s h=>by obtain⟨p,Q,_,O⟩:=zl h;cases O;exact hw p Q,ahF φ,fun b c q=>⟨kO b c q,fun m s h=>absurd rfl h.live⟩⟩
theorem Ve(hw:WG w):Good E0 .nil w:=wR hw fun _ _ q=>by cases q
theorem Cw(hn:gN<=n):pX (Bo φ) n:=fun m K=>by
 cases q:(Bo φ).ι m with
 |none=>rfl
 |some _=>obtain⟨p',Q,O,_⟩:=zl q;have:=Fz Q;omega
theorem abu(hn:gN<=n):pX E0 n:=Cw hn
end
mutual
def V.free:V->Bool
 | .ptr (some _)=>false
 | .eR (some _) _ _ _=>false
 | .map (some _)=>false
 | .fn f a c=>vn f&&(V.tR a&&V.tR c)
 | .iface _ x=>V.free x
 | .agg R=>V.tR R
 | .gw R=>V.tR R
 | .eB _ 0 []=>true
 | .eB _ _ _=>false
 | .dx _=>false
 |_=>true
def V.tR:ag->Bool
 | []=>true
 |x::xs=>V.free x&&V.tR xs
end
mutual
theorem uM{E E':Env}:∀(v:V) (v':Value),v.free=true->dV E v v'->dV E' v v'
 | .bool _,_,_,r=>r
 | .int _ _,_,_,r=>r
 | .str _,_,_,r=>r
 | .ptr none,_,_,r=>r
 | .ptr (some _),_,h,_=>by simp[V.free]at h
 | .eR none _ _ _,_,_,r=>r
 | .eR (some _) _ _ _,_,h,_=>by simp[V.free]at h
 | .map none,_,_,r=>r
 | .map (some _),_,h,_=>by simp[V.free]at h
 | .fn f a c,_,h,⟨f',a',c',rf,ra,rc,q⟩=>by
   simp only[V.free,ay]at h;refine⟨f',a',c',?_,nS a a' h.2.1 ra,nS c c' h.2.2 rc,q⟩;cases f<;>first|exact rf|(simp[vn]at h;done)
 | .kG,_,_,r=>r
 | .iface _ x,_,h,⟨x',r,q⟩=>⟨x',uM x x' (by simpa only[V.free]using h) r,q⟩
 | .nilIface,_,_,r=>r
 | .agg R,_,h,⟨cs',r,q⟩=>⟨cs',nS R cs' (by simpa only[V.free]using h) r,q⟩
 | .gw R,_,h,⟨cs',r,q⟩=>⟨cs',nS R cs' (by simpa only[V.free]using h) r,q⟩
 | .eB f 0 [],_,_,r=>by
   obtain⟨⟨a,jO,vs,Q,O,h3,h4,h5⟩,h6⟩:=r;exact⟨⟨a,jO,vs,Q,O,h3,h4,fun q=>absurd q (Nat.lt_irrefl _)⟩,h6⟩
 | .eB f 0 (_::_),_,h,_=>by simp[V.free]at h
 | .eB f (_+1) _,_,h,_=>by simp[V.free]at h
 | .dx _,_,h,_=>by simp[V.free]at h
theorem nS{E E':Env}:∀(v:ag) (v':List Value),V.tR v=true->dZ E v v'->dZ E' v v'
 | [],_,_,r=>r
 |x::xs,_,h,⟨y,ys,r,rs,q⟩=>by
  simp only[V.tR,ay]at h;exact⟨y,ys,uM x y h.1 r,nS xs ys h.2 rs,q⟩
end
theorem Good.below{E:Env}{h:J h2}{w w':World}(g:Good E h w)(b:Below w.heap.size w w'):Good E h w' where
 rel:=fun m o K=>let⟨b',s,Q,O⟩:=g.rel m o K;⟨b',s,Q,ji E.le_refl rfl (b.block b' (g.oL m b' s Q)) O⟩
 inj:=g.inj
 oL:=fun m b' s K=>bR (g.oL m b' s K) b.size
 kx:=g.kx
 iz:=fun k c q=>⟨by rw[b.block k (by obtain⟨el,fz,e⟩:=g.fz k c q;exact(aW.1 e).1)];exact g.fz k c q,(g.iz k c q).2⟩
theorem iQ.below{E:Env}{h:J h2}{w w':World}(g:Good E h w)(b:Below w.heap.size w w'):iQ E h w E h w':=
 ⟨E.le_refl,g.below b,b.size,b.tape,b.os,b.output,fun k W _=>b.block k W,fun m _ s K he _=>⟨m,s,K,he,id⟩,fun _ _ q=>.inl q⟩
def look(f:FuncId)(args:ag):List (FuncId×ag×V)->Option V
 | []=>none
 |x::r=>match Nat.beq f x.1&&V.o5 args x.2.1 with
  |true=>some x.2.2
  |false=>look f args r
def FA(P:Program)(x:FuncId×ag×V):Prop:=x.1<P.funcs.size/\V.tR x.2.1=true/\x.2.2.free=true/\∃cf h' n',gA P cf/\cf x.1 x.2.1 .nil gN=some (.ret x.2.2,h',n')
theorem HM{f:FuncId}{args:ag}{v:V}:∀{es:List (FuncId×ag×V)},look f args es=some v->(f,args,v)∈es
 | [],h=>by simp[look]at h
 |x::r,h=>by
  simp only[look]at h;split at h
  . rename_i hb;simp only[ay]at hb;simp only[aq]at h;rw[aA hb.1,sX _ _ hb.2,<- h];simp
  . exact bj _ (HM h)
theorem JM{P:Program}{f:FuncId}{args:ag}{v:V}(hs:FA P (f,args,v)){E:Env}{h:J h2}{n:Nat}{w:World}{dH:List Value}(ra:dZ E args dH)(g:Good E h w)(hd:pX E n)(B:callee P f=true):
  Calls P f dH.toArray w (iG E h n w (.ret v) h n):=by
 obtain⟨_,ha,hv,cf,h',n',lE,e⟩:=hs;refine(lE f args .nil gN _ h' n' e E0 w dH (nS _ _ ha ra) (Ve g.wg) (abu (aK _))).1 B |>.mono fun en w' ⟨E1,u,_,_,_,ho⟩=>?_;have W:∀b,b<w.heap.size->w'.heap[b]? =w.heap[b]?:=fun b hb=>u.keep b hb fun m s K=>absurd rfl K.live;have hfb:∀b c,E.φ b=some c->b<w.heap.size:=fun b c q=>by obtain⟨el,fz,e⟩:=g.fz b c q;exact(aW.1 e).1
 refine⟨E,⟨E.le_refl,⟨?_,g.inj,fun m b s K=>bR (g.oL m b s K) u.size,g.kx,fun b c q=>⟨by rw[W b (hfb b c q)];exact g.fz b c q,(g.iz b c q).2⟩⟩,u.size,u.tape,u.os,u.output,fun b hb _=>W b hb,fun m b s K he _=>⟨m,s,K,he,id⟩,fun _ _ q=>.inl q⟩,fun _ _=>rfl,hd,aK _,?_⟩
 . intro m o K;obtain⟨b,s,Q,O⟩:=g.rel m o K;exact⟨b,s,Q,ji E.le_refl rfl (W b (g.oL m b s Q)) O⟩
 . cases en with
   |returned v'=>exact uM _ _ hv ho
   |_=>exact ho.elim
structure DX(w0:World)(E:Env)(h:J h2)(w:World):Prop where
 good:Good E h w
 size:w0.heap.size<=w.heap.size
 tape:w.tape=w0.tape
 os:w.os=w0.os
 output:w.output=w0.output
 keep:∀b,b<w0.heap.size->w.heap[b]? =w0.heap[b]?
 tL:∀m b s,eN h m->E.ι m=some (b,s)->b<w0.heap.size->False
theorem DX.trans{w0:World}{E E':Env}{h h':J h2}{w w':World}(a:DX w0 E h w)(b:iQ E h w E' h' w'):DX w0 E' h' w' where
 good:=b.good
 size:=bE a.size b.size
 tape:=b.tape.trans a.tape
 os:=b.os.trans a.os
 output:=b.output.trans a.output
 keep:=fun x I=>by
  rw[b.keep x (bR I a.size) fun m s K e=>a.tL m x s K e I,a.keep x I]
 tL:=fun m x s K e I=>by
  obtain⟨m1,s1,_,e1,k1⟩:=b.tL m x s K.live e (bR I a.size);exact a.tL m1 x s1 (k1 K) e1 I
theorem DX.init{E:Env}{h:J h2}{w:World}(g:Good E h w)(hr:∀m,¬eN h m):DX w E h w:=
 ⟨g,aK _,rfl,rfl,rfl,fun _ _=>rfl,fun m _ _ K _ _=>hr m K⟩
theorem DX.below{w0:World}{E:Env}{h:J h2}{w:World}(u:DX w0 E h w):Below w0.heap.size w0 w:=
 ⟨u.os,u.tape,u.output,u.size,fun k W=>u.keep k W⟩
def SP(fr:Nat)(w0:World)(s:St)(a:Act)(w:World):Prop:=∃E,jY E fr s a w/\DX w0 E s.h w
theorem SP.below{fr:Nat}{w0:World}{s:St}{a:Act}{w:World}(i:SP fr w0 s a w):Below w0.heap.size w0 w:=by
 obtain⟨E,_,u⟩:=i;exact u.below
def s'.plain:s'->Option Exit
 | .normal=>some .normal
 | .exit i=>some (.exit i)
 | .ret=>some .ret
 | .panic _=>none
mutual
def V.names:V->List Nat->List Nat
 | .ptr (some (m,_)),l=>m::l
 | .eR (some (m,_)) _ _ _,l=>m::l
 | .map (some m),l=>m::l
 | .fn f a c,l=>match f with
   | .yield m=>m::V.sZ a (V.sZ c l)
   |_=>V.sZ a (V.sZ c l)
 | .iface _ x,l=>V.names x l
 | .agg R,l=>V.sZ R l
 | .gw R,l=>V.sZ R l
 |_,l=>l
def V.sZ:ag->List Nat->List Nat
 | [],l=>l
 |x::xs,l=>V.names x (V.sZ xs l)
end
def HN:List (V×V×Nat)->List Nat
 | []=>[]
 |x::xs=>V.names x.1 (V.names x.2.1 (HN xs))
def h2.names:h2->List Nat
 | .cells R=>V.sZ R []
 | .map T _=>HN T
 | .nv _ _=>[]
 | .ints _ _=>[]
 | .own _ _=>[]
 | .deep _=>[]
 | .tJ _ _ _=>[]
 | .AS _ _ x=>V.names x []
 | .gl _ _=>[]
 | .oJ _ _=>[]
 | .tY=>[]
 | .loop ..=>[]
def Wu(h:J h2):Nat->List Nat->J Nat->List Nat->Nat->Option (J Nat×List Nat×Nat)
 |0,_,_,_,_=>none
 |_+1,[],ρ,oq,k=>some (ρ,oq,k)
 |f+1,m::q,ρ,oq,k=>match ρ.get m with
  |some _=>Wu h f q ρ oq k
  |none=>Wu h f ((match h.get m with|some o=>o.names|none=>[])++q) (ρ.set m (some k)) (m::oq) (k+1)
def wS:List Nat->Nat->J Nat->J Nat
 | [],_,t=>t
 |m::r,k,t=>wS r (k-1) (t.set (k-1) (some m))
def wT(ρ back:J Nat)(n2 m:Nat):Option Nat:=
 match ρ.get m with
 |some k=>match back.get k with
  |some m'=>match Nat.beq m m'&&Nat.blt k n2 with
   |true=>some k
   |false=>none
  |none=>none
 |none=>none
theorem Aw{ρ back:J Nat}{n2 m k:Nat}(h:wT ρ back n2 m=some k):ρ.get m=some k/\back.get k=some m/\k<n2:=by
 unfold wT at h;split at h
 . rename_i k' Q;split at h
   . rename_i m' O;split at h
     . rename_i hb;simp only[ay]at hb;simp only[aq]at h;subst h;have e:=aA hb.1;subst e;exact⟨Q,O,by have:=hb.2;simp[Nat.blt]at this;omega⟩
     . cases h
   . cases h
 . cases h
section
variable(ν:Nat->Option Nat)
mutual
def V.Vf:V->Option V
 | .ptr (some (m,o))=>match ν m with
   |some k=>some (.ptr (some (k,o)))
   |none=>none
 | .eR (some (m,o)) l c e=>match ν m with
   |some k=>some (.eR (some (k,o)) l c e)
   |none=>none
 | .map (some m)=>match ν m with
   |some k=>some (.map (some k))
   |none=>none
 | .fn f a c=>match vn f with
   |true=>match V.MQ a with
    |some a=>match V.MQ c with
     |some c=>some (.fn f a c)
     |none=>none
    |none=>none
   |false=>none
 | .iface t x=>match V.Vf x with
   |some x=>some (.iface t x)
   |none=>none
 | .agg R=>match V.MQ R with
   |some R=>some (.agg R)
   |none=>none
 | .gw R=>match V.MQ R with
   |some R=>some (.gw R)
   |none=>none
 | .bool b=>some (.bool b)
 | .int k n=>some (.int k n)
 | .str s=>some (.str s)
 | .ptr none=>some (.ptr none)
 | .eR none l c e=>some (.eR none l c e)
 | .map none=>some (.map none)
 | .kG=>some .kG
 | .nilIface=>some .nilIface
 | .eB f n R=>some (.eB f n R)
 | .dx R=>some (.dx R)
def V.MQ:ag->Option (ag)
 | []=>some []
 |x::xs=>match V.Vf x with
  |some x=>match V.MQ xs with
   |some xs=>some (x::xs)
   |none=>none
  |none=>none
end
def Vg:List (V×V×Nat)->Option (List (V×V×Nat))
 | []=>some []
 |x::xs=>match V.Vf ν x.1,V.Vf ν x.2.1,Vg xs with
  |some k,some v,some xs=>some ((k,v,x.2.2)::xs)
  |_,_,_=>none
def h2.Vf:h2->Option h2
 | .cells R=>match V.MQ ν R with
   |some R=>some (.cells R)
   |none=>none
 | .map T c=>match Vg ν T with
   |some T=>some (.map T c)
   |none=>none
 | .nv s p=>some (.nv s p)
 | .ints k Y=>some (.ints k Y)
 | .own k Y=>some (.own k Y)
 | .deep R=>some (.deep R)
 | .tJ e f s=>some (.tJ e f s)
 | .AS t s x=>match V.Vf ν x with
   |some x=>some (.AS t s x)
   |none=>none
 | .gl k T=>some (.gl k T)
 | .oJ k T=>some (.oJ k T)
 | .tY=>none
 | .loop ..=>none
end
section
variable{ν:Nat->Option Nat}{E E':Env}(iY:∀m k,ν m=some k->E'.ι k=E.ι m)(oH:E'.β=E.β)(kO:∀b c,E.φ b=some c->E'.φ b=some c)
include iY oH kO
end
def JN(ν:Nat->Option Nat)(h:J h2):List Nat->J h2->Option (J h2)
 | [],t=>some t
 |m::r,t=>match h.get m with
  |none=>JN ν h r t
  |some o=>match ν m with
   |some k=>match o.Vf ν with
    |some o2=>match Nat.blt k fZ with
     |true=>JN ν h r (t.set k (some o2))
     |false=>none
    |none=>none
   |none=>none
def zm(ν:Nat->Option Nat)(N:J V):List Nat->J V->Option (J V)
 | [],t=>some t
 |m::r,t=>match N.get m with
  |none=>zm ν N r t
  |some v=>match v.Vf ν with
   |some v2=>match Nat.blt m fZ with
    |true=>zm ν N r (t.set m (some v2))
    |false=>none
   |none=>none
def rS(N:J V):List Nat->List Nat
 | []=>[]
 |t::r=>match N.get t with
  |some v=>v.names (rS N r)
  |none=>rS N r
def abv(back:J Nat)(k:Nat):Bool:=tX.all fun p=>Nat.blt p.2 k&&match back.get p.2 with
 |some o=>Nat.beq o p.2
 |none=>false
def norm(live:List Nat)(s:St):Option St:=
 match s.ij with
 | []=>match Wu s.h 100000 (rS s.N live) .nil [] 0 with
   |some (ρ,oq,k)=>
    let ν:=wT ρ (wS oq k .nil) k
    match abv (wS oq k .nil) k with
    |false=>none
    |true=>match JN ν s.h oq .nil with
    |some O=>match zm ν s.N live .nil with
     |some JI=>some { N:=JI,h:=O,n:=k,ij:=[] }
     |none=>none
    |none=>none
   |none=>none
 |_=>none
section
variable(ν:Nat->Option Nat)
mutual
def V.rn:V->Option V
 | .ptr (some (m,o))=>match ν m with
   |some k=>some (.ptr (some (k,o)))
   |none=>none
 | .eR (some (m,o)) l c e=>match ν m with
   |some k=>some (.eR (some (k,o)) l c e)
   |none=>none
 | .map (some m)=>match ν m with
   |some k=>some (.map (some k))
   |none=>none
 | .fn f a c=>match V.JO a with
   |some a=>match V.JO c with
    |some c=>match f with
     | .yield m=>match ν m with
       |some k=>some (.fn (.yield k) a c)
       |none=>none
     |f=>some (.fn f a c)
    |none=>none
   |none=>none
 | .iface t x=>match V.rn x with
   |some x=>some (.iface t x)
   |none=>none
 | .agg R=>match V.JO R with
   |some R=>some (.agg R)
   |none=>none
 | .gw R=>match V.JO R with
   |some R=>some (.gw R)
   |none=>none
 | .bool b=>some (.bool b)
 | .int k n=>some (.int k n)
 | .str s=>some (.str s)
 | .ptr none=>some (.ptr none)
 | .eR none l c e=>some (.eR none l c e)
 | .map none=>some (.map none)
 | .kG=>some .kG
 | .nilIface=>some .nilIface
 | .eB f n R=>some (.eB f n R)
 | .dx R=>some (.dx R)
def V.JO:ag->Option (ag)
 | []=>some []
 |x::xs=>match V.rn x with
  |some x=>match V.JO xs with
   |some xs=>some (x::xs)
   |none=>none
  |none=>none
end
def OV:List (V×V×Nat)->Option (List (V×V×Nat))
 | []=>some []
 |x::xs=>match V.rn ν x.1 with
  |some k=>match V.rn ν x.2.1 with
   |some v=>match OV xs with
    |some xs=>some ((k,v,x.2.2)::xs)
    |none=>none
   |none=>none
  |none=>none
def Cx(m:Nat):Bool:=match ν m with
 |some k=>Nat.beq m k
 |none=>false
mutual
def V.still:V->Bool
 | .ptr (some (m,_))=>Cx ν m
 | .eR (some (m,_)) _ _ _=>Cx ν m
 | .map (some m)=>Cx ν m
 | .fn f a c=>(match f with | .yield m=>Cx ν m|_=>true)&&(V.wU a&&V.wU c)
 | .iface _ x=>V.still x
 | .agg R=>V.wU R
 | .gw R=>V.wU R
 |_=>true
def V.wU:ag->Bool
 | []=>true
 |x::xs=>V.still x&&V.wU xs
end
def yb:J V->Bool
 | .nil=>true
 | .node v l r=>(match v with|some v=>V.still ν v|none=>true)&&(yb l&&yb r)
def h2.rn:h2->Option h2
 | .cells R=>match V.JO ν R with
   |some R=>some (.cells R)
   |none=>none
 | .map T c=>match OV ν T with
   |some T=>some (.map T c)
   |none=>none
 | .nv s p=>some (.nv s p)
 | .ints k Y=>some (.ints k Y)
 | .own k Y=>some (.own k Y)
 | .deep R=>some (.deep R)
 | .tJ e f s=>some (.tJ e f s)
 | .AS t s x=>match V.rn ν x with
   |some x=>some (.AS t s x)
   |none=>none
 | .gl k T=>some (.gl k T)
 | .oJ k T=>some (.oJ k T)
 | .tY=>some .tY
 | .loop st pe N ps a b=>match yb ν N with
   |true=>some (.loop st pe N ps a b)
   |false=>none
end
mutual
theorem s8{ν:Nat->Option Nat}{E E':Env}(iY:∀m k,ν m=some k->E'.ι k=E.ι m)(oH:∀m k b s,ν m=some k->E.ι m=some (b,s)->E'.β b=E.β b)(kO:∀b c,E.φ b=some c->E'.φ b=some c):∀(v v2:V) (v':Value),v.rn ν=some v2->dV E v v'->dV E' v2 v'
 | .bool _,v2,_,h,r=>by simp only[V.rn,aq]at h;subst h;exact r
 | .int _ _,v2,_,h,r=>by simp only[V.rn,aq]at h;subst h;exact r
 | .str _,v2,_,h,r=>by simp only[V.rn,aq]at h;subst h;exact r
 | .ptr none,v2,_,h,r=>by simp only[V.rn,aq]at h;subst h;exact r
 | .ptr (some (m,o)),v2,_,h,⟨b,s,e,q⟩=>by
   simp only[V.rn]at h;split at h
   . rename_i k W;obtain rfl:=eH h;exact⟨b,s,(iY m k W).trans e,q⟩
   . cases h
 | .eR none _ _ _,v2,_,h,r=>by simp only[V.rn,aq]at h;subst h;exact r
 | .eR (some (m,o)) _ _ _,v2,_,h,⟨b,s,o',gx,e,q1,q2,q3,q4,q5⟩=>by
   simp only[V.rn]at h;split at h
   . rename_i k W;obtain rfl:=eH h;exact⟨b,s,o',gx,(iY m k W).trans e,q1,q2,q3,by rw[oH m k b s W e];exact q4,q5⟩
   . cases h
 | .map none,v2,_,h,r=>by simp only[V.rn,aq]at h;subst h;exact r
 | .map (some m),v2,_,h,⟨b,e,q⟩=>by
   simp only[V.rn]at h;split at h
   . rename_i k W;obtain rfl:=eH h;exact⟨b,(iY m k W).trans e,q⟩
   . cases h
 | .fn f a c,v2,_,h,⟨f',a',c',rf,ra,rc,q⟩=>by
   simp only[V.rn]at h;split at h
   . rename_i a2 ha;split at h
     . rename_i c2 B;have Vh:=s9 iY oH kO a a2 a' ha ra;have rc2:=s9 iY oH kO c c2 c' B rc;split at h
       . rename_i m;split at h
         . rename_i k W;obtain rfl:=eH h;obtain⟨l,s,e,q2⟩:=rf;exact⟨f',a',c',⟨l,s,(iY m k W).trans e,q2⟩,Vh,rc2,q⟩
         . cases h
       . obtain rfl:=eH h;refine⟨f',a',c',?_,Vh,rc2,q⟩;cases f<;>first|exact rf|(rename_i iV;exact(iV _ rfl).elim)
     . cases h
   . cases h
 | .kG,v2,_,h,r=>by simp only[V.rn,aq]at h;subst h;exact r
 | .iface t x,v2,_,h,⟨x',r,q⟩=>by
   simp only[V.rn]at h;split at h
   . rename_i x2 I;obtain rfl:=eH h;exact⟨x',s8 iY oH kO x x2 x' I r,q⟩
   . cases h
 | .nilIface,v2,_,h,r=>by simp only[V.rn,aq]at h;subst h;exact r
 | .agg R,v2,_,h,⟨cs',r,q⟩=>by
   simp only[V.rn]at h;split at h
   . rename_i x2 I;obtain rfl:=eH h;exact⟨cs',s9 iY oH kO R x2 cs' I r,q⟩
   . cases h
 | .gw R,v2,_,h,⟨cs',r,q⟩=>by
   simp only[V.rn]at h;split at h
   . rename_i x2 I;obtain rfl:=eH h;exact⟨cs',s9 iY oH kO R x2 cs' I r,q⟩
   . cases h
 | .eB f n R,v2,_,h,r=>by
   simp only[V.rn,aq]at h;subst h;exact⟨mw kO _ _ r.1,r.2⟩
 | .dx R,v2,_,h,⟨b,o,c,vs,e,e1,r,q⟩=>by
   simp only[V.rn,aq]at h;subst h;exact⟨b,o,c,vs,e,kO _ _ e1,iC kO _ _ r,q⟩
theorem s9{ν:Nat->Option Nat}{E E':Env}(iY:∀m k,ν m=some k->E'.ι k=E.ι m)(oH:∀m k b s,ν m=some k->E.ι m=some (b,s)->E'.β b=E.β b)(kO:∀b c,E.φ b=some c->E'.φ b=some c):∀(v v2:ag) (v':List Value),V.JO ν v=some v2->dZ E v v'->dZ E' v2 v'
 | [],v2,_,h,r=>by simp only[V.JO,aq]at h;subst h;exact r
 |x::xs,v2,_,h,⟨y,ys,r,rs,q⟩=>by
  simp only[V.JO]at h;split at h
  . rename_i x2 I;split at h
    . rename_i MR B8;obtain rfl:=eH h;exact⟨y,ys,s8 iY oH kO x x2 y I r,s9 iY oH kO xs MR ys B8 rs,q⟩
    . cases h
  . cases h
end
section
variable{ν:Nat->Option Nat}{E E':Env}(iY:∀m k,ν m=some k->E'.ι k=E.ι m)(oH:∀m k b s,ν m=some k->E.ι m=some (b,s)->E'.β b=E.β b)(kO:∀b c,E.φ b=some c->E'.φ b=some c)
include iY oH kO
theorem HO:∀(T yR:List (V×V×Nat)) (l:List MapEntry),OV ν T=some yR->kI E T l->kI E' yR l
 | [],yR,_,h,r=>by simp only[OV,aq]at h;subst h;exact r
 |x::xs,yR,_,h,⟨y,ys,r1,r2,r3,rs,q⟩=>by
  simp only[OV]at h;split at h
  . rename_i k W;split at h
    . rename_i v hv;split at h
      . rename_i MR B8;obtain rfl:=eH h;exact⟨y,ys,s8 iY oH kO _ _ _ W r1,s8 iY oH kO _ _ _ hv r2,r3,HO _ _ _ B8 rs,q⟩
      . cases h
    . cases h
  . cases h
end
theorem nT{ν:Nat->Option Nat}{m:Nat}(h:Cx ν m=true):ν m=some m:=by
 unfold Cx at h;split at h
 . rename_i k W;rw[W,aA h]
 . cases h
theorem uN{ν:Nat->Option Nat}:∀(t:J V),yb ν t=true->∀k v,t.get k=some v->v.still ν=true
 | .nil,_,k,v,h=>by simp[J.get]at h
 | .node x l r,hs,k,v,h=>by
   simp only[yb,ay]at hs;simp only[J.get]at h;split at h
   . subst h;exact hs.1
   . rename_i k;split at h
     . exact uN l hs.2.1 _ v h
     . exact uN r hs.2.2 _ v h
mutual
theorem zn{ν:Nat->Option Nat}{E E':Env}(iY:∀m k,ν m=some k->E'.ι k=E.ι m)(oH:∀m k b s,ν m=some k->E.ι m=some (b,s)->E'.β b=E.β b)(kO:∀b c,E.φ b=some c->E'.φ b=some c):∀(v:V) (v':Value),v.still ν=true->dV E v v'->dV E' v v'
 | .bool _,_,_,r=>r
 | .int _ _,_,_,r=>r
 | .str _,_,_,r=>r
 | .ptr none,_,_,r=>r
 | .ptr (some (m,o)),_,h,⟨b,s,e,q⟩=>⟨b,s,(iY m m (nT h)).trans e,q⟩
 | .eR none _ _ _,_,_,r=>r
 | .eR (some (m,o)) _ _ _,_,h,⟨b,s,o',gx,e,q1,q2,q3,q4,q5⟩=>⟨b,s,o',gx,(iY m m (nT h)).trans e,q1,q2,q3,by rw[oH m m b s (nT h) e];exact q4,q5⟩
 | .map none,_,_,r=>r
 | .map (some m),_,h,⟨b,e,q⟩=>⟨b,(iY m m (nT h)).trans e,q⟩
 | .fn f a c,_,h,⟨f',a',c',rf,ra,rc,q⟩=>by
   simp only[V.still,ay]at h;refine⟨f',a',c',?_,qb iY oH kO a a' h.2.1 ra,qb iY oH kO c c' h.2.2 rc,q⟩;cases f with
   |yield m=>obtain⟨l,s,e,q2⟩:=rf;exact⟨l,s,(iY m m (nT h.1)).trans e,q2⟩
   |_=>exact rf
 | .kG,_,_,r=>r
 | .iface _ x,_,h,⟨x',r,q⟩=>⟨x',zn iY oH kO x x' (by simpa only[V.still]using h) r,q⟩
 | .nilIface,_,_,r=>r
 | .agg R,_,h,⟨cs',r,q⟩=>⟨cs',qb iY oH kO R cs' (by simpa only[V.still]using h) r,q⟩
 | .gw R,_,h,⟨cs',r,q⟩=>⟨cs',qb iY oH kO R cs' (by simpa only[V.still]using h) r,q⟩
 | .eB _ _ _,_,_,r=>⟨mw kO _ _ r.1,r.2⟩
 | .dx R,_,_,⟨b,o,c,vs,e,e1,r,q⟩=>⟨b,o,c,vs,e,kO _ _ e1,iC kO _ _ r,q⟩
theorem qb{ν:Nat->Option Nat}{E E':Env}(iY:∀m k,ν m=some k->E'.ι k=E.ι m)(oH:∀m k b s,ν m=some k->E.ι m=some (b,s)->E'.β b=E.β b)(kO:∀b c,E.φ b=some c->E'.φ b=some c):∀(v:ag) (v':List Value),V.wU ν v=true->dZ E v v'->dZ E' v v'
 | [],_,_,r=>r
 |x::xs,_,h,⟨y,ys,r,rs,q⟩=>by
  simp only[V.wU,ay]at h;exact⟨y,ys,zn iY oH kO x y h.1 r,qb iY oH kO xs ys h.2 rs,q⟩
end
section
variable{ν:Nat->Option Nat}{E E':Env}(iY:∀m k,ν m=some k->E'.ι k=E.ι m)(oH:∀m k b s,ν m=some k->E.ι m=some (b,s)->E'.β b=E.β b)(kO:∀b c,E.φ b=some c->E'.φ b=some c)
include iY oH kO
theorem Bp{w:World}{b s:Nat}(hb:E'.β b=E.β b):∀(o o2:h2),o.rn ν=some o2->nE E w b s o->nE E' w b s o2
 | .cells R,o2,h,⟨c,el,fz,Q,O,h3,h4⟩=>by
   simp only[h2.rn]at h;split at h
   . rename_i Wv qq;obtain rfl:=eH h;refine⟨c,el,fz,Q,by rw[hb];exact O,h3,?_⟩;have:∀(R Wv:ag),V.JO ν R=some Wv->∀(s:Nat),lS E s R c->lS E' s Wv c:=by
      intro R
      induction R with
      |nil=>intro Wv h s r;simp only[V.JO,aq]at h;subst h;intro i v e;simp at e
      |cons x xs ih=>
       intro Wv h s r;simp only[V.JO]at h;split at h
       . rename_i x2 I;split at h
         . rename_i MR B8;obtain rfl:=eH h;intro i v e;cases i with
           |zero=>
            simp only[cF,aq]at e;subst e;obtain⟨v',k1,k2⟩:=r 0 x (by simp);exact⟨v',k1,s8 iY oH kO _ _ _ I k2⟩
           |succ i=>
            simp only[List.getElem?_cons_succ]at e;obtain⟨v',k1,k2⟩:=ih MR B8 (s+1) (fun j v e=>by
             obtain⟨v',k1,k2⟩:=r (j+1) v (by simpa using e);exact⟨v',by rw[<- k1];congr 1;omega,k2⟩) i v e
            exact⟨v',by rw[<- k1];congr 1;omega,k2⟩
         . cases h
       . cases h
     exact this R Wv qq s h4
   . cases h
 | .map T cl,o2,h,⟨hs,fK,Q,O⟩=>by
   simp only[h2.rn]at h;split at h
   . rename_i yR Wc;obtain rfl:=eH h;exact⟨hs,fK,Q,HO iY oH kO _ _ _ Wc O⟩
   . cases h
 | .nv st p,o2,h,r=>by simp only[h2.rn,aq]at h;subst h;exact r
 | .ints k Y,o2,h,⟨c,el,fz,Q,O,h3⟩=>by simp only[h2.rn,aq]at h;subst h;exact⟨c,el,fz,Q,by rw[hb];exact O,h3⟩
 | .own k Y,o2,h,⟨c,el,fz,Q,O,h3,h4⟩=>by simp only[h2.rn,aq]at h;subst h;exact⟨c,el,fz,Q,by rw[hb];exact O,h3,vW h4⟩
 | .deep R,o2,h,⟨c,el,fz,vs,Q,O,h3,h4,h5⟩=>by simp only[h2.rn,aq]at h;subst h;exact⟨c,el,fz,vs,Q,by rw[hb];exact O,h3,iC kO _ _ h4,h5⟩
 | .tJ el Ac t,o2,h,⟨c,fz,xs,Q,h0,O,h3⟩=>by simp only[h2.rn,aq]at h;subst h;exact⟨c,fz,xs,Q,h0,by rw[hb];exact O,h3⟩
 | .AS t self x,o2,h,⟨hs,x',fz,Q,O,h3,h4⟩=>by
   simp only[h2.rn]at h;split at h
   . rename_i x2 I;obtain rfl:=eH h;exact⟨hs,x',fz,Q,by rw[hb];exact O,h3,s8 iY oH kO _ _ _ I h4⟩
   . cases h
 | .gl kk T,o2,h,⟨hs,fK,cl,Q,O⟩=>by simp only[h2.rn,aq]at h;subst h;exact⟨hs,fK,cl,Q,O.mono kO⟩
 | .oJ kk T,o2,h,⟨hs,fK,Q,O⟩=>by simp only[h2.rn,aq]at h;subst h;exact⟨hs,fK,Q,O.mono kO⟩
 | .tY,o2,h,r=>by simp only[h2.rn,aq]at h;subst h;exact r
 | .loop st pe N ps a b',o2,h,⟨r,Q,O,h3,h4,h5,h6,h7,h8⟩=>by
   simp only[h2.rn]at h;split at h
   . rename_i hs;obtain rfl:=eH h;exact⟨r,Q,O,h3,h4,h5,h6,fun t v e=>let⟨v',k1,k2⟩:=h7 t v e;⟨v',k1,zn iY oH kO v v' (uN N hs t v e) k2⟩,h8⟩
   . cases h
end
theorem Ax{ν:Nat->Option Nat}{o o2:h2}(h:o.rn ν=some o2):o2.wr=o.wr:=by
 cases o<;>simp only[h2.rn]at h<;>(try split at h)<;>first|(obtain rfl:=eH h;rfl)|cases h
def FB:J V->List Nat->List Nat
 | .nil,l=>l
 | .node v a b,l=>(match v with|some v=>V.names v|none=>id) (FB a (FB b l))
def h2.nms:h2->List Nat
 | .loop _ _ N _ _ _=>FB N []
 |o=>o.names
def HP(h:J h2):Nat->List Nat->J Nat->List Nat->Nat->Option (J Nat×List Nat×Nat)
 |0,_,_,_,_=>none
 |_+1,[],ρ,oq,k=>some (ρ,oq,k)
 |f+1,m::q,ρ,oq,k=>match ρ.get m with
  |some _=>HP h f q ρ oq k
  |none=>HP h f ((match h.get m with|some o=>o.nms|none=>[])++q) (ρ.set m (some k)) (m::oq) (k+1)
def SQ:Nat->J Nat
 |0=>.nil
 |k+1=>(SQ k).set k (some k)
def FC:Nat->List Nat
 |0=>[]
 |k+1=>k::FC k
def Cy(h:J h2):Nat->List Nat->List Nat
 |0,l=>l
 |k+1,l=>(match h.get k with|some o=>o.nms|none=>[])++Cy h k l
def Bq(ν:Nat->Option Nat):Nat->Bool
 |0=>true
 |k+1=>Cx ν k&&Bq ν k
theorem yc{ν:Nat->Option Nat}:∀{k:Nat},Bq ν k=true->∀m,m<k->ν m=some m
 |0,_,m,K=>by omega
 |k+1,h,m,K=>by
  simp only[Bq,ay]at h;by_cases e:m=k
  . subst e;exact nT h.1
  . exact yc h.2 m H
def Cz(ν:Nat->Option Nat)(h:J h2):List Nat->J h2->Option (J h2)
 | [],t=>some t
 |m::r,t=>match h.get m with
  |none=>Cz ν h r t
  |some o=>match ν m with
   |some k=>match o.rn ν with
    |some o2=>match Nat.blt k fZ with
     |true=>Cz ν h r (t.set k (some o2))
     |false=>none
    |none=>none
   |none=>none
theorem tc{ν:Nat->Option Nat}{h:J h2}:∀(l:List Nat) (t t2:J h2),Cz ν h l t=some t2->(∀k o2,t.get k=some o2->∃m o,ν m=some k/\h.get m=some o/\o.rn ν=some o2)->
  ∀k o2,t2.get k=some o2->∃m o,ν m=some k/\h.get m=some o/\o.rn ν=some o2
 | [],t,t2,e,ht=>by simp only[Cz,aq]at e;subst e;exact ht
 |m::r,t,t2,e,ht=>by
  simp only[Cz]at e;split at e
  . exact tc r t t2 e ht
  . rename_i o ho;split at e
    . rename_i k W;split at e
      . rename_i o2 OK;split at e
        . rename_i eO;refine tc r _ t2 e fun j o3 h3=>?_;rw[J.fJ _ _ _ (by simp[Nat.blt]at eO;omega)]at h3;split at h3
          . rename_i hj;obtain rfl:=eH h3;subst hj;exact⟨m,o,W,ho,OK⟩
          . exact ht j o3 h3
        . cases e
      . cases e
    . cases e
def wV(ν:Nat->Option Nat)(N:J V):List Nat->J V->Option (J V)
 | [],t=>some t
 |m::r,t=>match N.get m with
  |none=>wV ν N r t
  |some v=>match v.rn ν with
   |some v2=>match Nat.blt m fZ with
    |true=>wV ν N r (t.set m (some v2))
    |false=>none
   |none=>none
theorem qD{ν:Nat->Option Nat}{N:J V}:∀(l:List Nat) (t t2:J V),wV ν N l t=some t2->(∀k v2,t.get k=some v2->∃v,N.get k=some v/\v.rn ν=some v2)->
  ∀k v2,t2.get k=some v2->∃v,N.get k=some v/\v.rn ν=some v2
 | [],t,t2,e,ht=>by simp only[wV,aq]at e;subst e;exact ht
 |m::r,t,t2,e,ht=>by
  simp only[wV]at e;split at e
  . exact qD r t t2 e ht
  . rename_i v hv;split at e
    . rename_i v2 hv2;split at e
      . rename_i eO;refine qD r _ t2 e fun j o3 h3=>?_;rw[J.fJ _ _ _ (by simp[Nat.blt]at eO;omega)]at h3;split at h3
        . rename_i hj;obtain rfl:=eH h3;subst hj;exact⟨v,hv,hv2⟩
        . exact ht j o3 h3
      . cases e
    . cases e
def MS(ν:Nat->Option Nat):List (FuncId×ag×ag)->Option (List (FuncId×ag×ag))
 | []=>some []
 |(f,[],[.map (some m)])::r=>match Nat.beq f fZ with
  |true=>match ν m with
   |some k=>match MS ν r with
    |some r=>some ((fZ,[],[.map (some k)])::r)
    |none=>none
   |none=>none
  |false=>none
 |_::_=>none
def CA:List (FuncId×ag×ag)->List Nat->List Nat
 |(_,_,[.map (some m)])::r,l=>m::CA r l
 |_,l=>l
theorem CB{ν:Nat->Option Nat}{E E':Env}(iY:∀m k,ν m=some k->E'.ι k=E.ι m):∀(l l2:List (FuncId×ag×ag)) (ds:List Deferred),MS ν l=some l2->v8 E l ds->v8 E' l2 ds
 | [],l2,ds,e,r=>by simp only[MS,aq]at e;subst e;exact r
 |(f,c,args)::r,l2,ds,e,h=>by
  unfold MS at e;split at e
  . rename_i heq;cases heq
  . rename_i f' m r' heq;cases heq;split at e
    . rename_i hf;have hf:=aA hf;subst hf;split at e
      . rename_i k W;split at e
        . rename_i r2 hr;obtain rfl:=eH e;obtain⟨d,ys,r1,r2',q⟩:=h;refine⟨d,ys,?_,CB iY _ _ _ hr r2',q⟩;rcases r1 with⟨eO,_⟩|⟨_,m',b,s,q1,q2,q3⟩
          . exact absurd eO (Nat.lt_irrefl _)
          . simp only[List.cons.injEq,V.map.injEq,aq,and_true]at q1;subst q1;exact .inr ⟨rfl,k,b,s,rfl,(iY _ k W).trans q2,q3⟩
        . cases e
      . cases e
    . cases e
  . cases e
def ld(F:Nat)(live:List Nat)(s:St):Option St:=
 match Nat.ble F s.n with
 |false=>none
 |true=>match HP s.h 100000 (Cy s.h F (rS s.N live++CA s.ij [])) (SQ F) (FC F) F with
  |some (ρ,oq,k)=>
   let ν:=wT ρ (wS oq k .nil) k
   match(Bq ν F&&Nat.ble F k)&&Nat.ble gN F with
   |true=>match Cz ν s.h oq .nil with
    |some O=>match wV ν s.N live .nil with
     |some JI=>match MS ν s.ij with
      |some d2=>some { N:=JI,h:=O,n:=k,ij:=d2 }
      |none=>none
     |none=>none
    |none=>none
   |false=>none
  |none=>none
structure kB(F:Nat)(E:Env)(h:J h2)(w:World)(E':Env)(h':J h2)(w':World):Prop where
 le:∀m b s,m<F->E.ι m=some (b,s)->E'.ι m=some (b,s)/\E'.β b=E.β b
 low:∀m,m<F->E'.ι m=E.ι m
 fz:∀b c,E.φ b=some c->E'.φ b=some c
 good:Good E' h' w'
 size:w.heap.size<=w'.heap.size
 tape:w'.tape=w.tape
 os:w'.os=w.os
 output:w'.output=w.output
 keep:∀b,b<w.heap.size->(∀m s,eN h m->E.ι m≠some (b,s))->w'.heap[b]? =w.heap[b]?
 tL:∀m b s,h'.get m≠none->E'.ι m=some (b,s)->b<w.heap.size->∃m0 s0,h.get m0≠none/\E.ι m0=some (b,s0)/\(eN h' m->eN h m0)
 DI:∀b c,E'.φ b=some c->E.φ b=some c\/w.heap.size<=b\/∃m s,eN h m/\E.ι m=some (b,s)
theorem kB.of{F n:Nat}{E E':Env}{h h':J h2}{w w':World}(u:iQ E h w E' h' w')(fE:∀m,m<n->E'.ι m=E.ι m)(hn:F<=n):kB F E h w E' h' w':=
 ⟨fun m b s _ e=>u.le.nm m b s e,fun m K=>fE m H,u.le.fz,u.good,u.size,u.tape,u.os,u.output,u.keep,u.tL,u.DI⟩
theorem kB.trans{F:Nat}{E E1 E2:Env}{h Q O:J h2}{w w1 w2:World}(a:kB F E h w E1 Q w1)(b:kB F E1 Q w1 E2 O w2):kB F E h w E2 O w2 where
 le:=fun m x s K e=>by
  obtain⟨e1,b1⟩:=a.le m x s K e;obtain⟨e2,b2⟩:=b.le m x s K e1;exact⟨e2,b2.trans b1⟩
 low:=fun m K=>(b.low m K).trans (a.low m K)
 fz:=fun x c e=>b.fz x c (a.fz x c e)
 good:=b.good
 size:=bE a.size b.size
 tape:=b.tape.trans a.tape
 os:=b.os.trans a.os
 output:=b.output.trans a.output
 keep:=fun x I hn=>by
  rw[b.keep x (bR I a.size) ?_,a.keep x I hn];intro m s K e;obtain⟨m0,s0,_,e0,k0⟩:=a.tL m x s K.live e I;exact hn m0 s0 (k0 K) e0
 tL:=fun m x s K e I=>by
  obtain⟨m1,s1,k1,e1,l1⟩:=b.tL m x s K e (bR I a.size);obtain⟨m0,s0,k0,e0,l0⟩:=a.tL m1 x s1 k1 e1 I;exact⟨m0,s0,k0,e0,fun q=>l0 (l1 q)⟩
 DI:=fun x c B=>by
  rcases b.DI x c B with q|q|⟨m,s,q1,q2⟩
  . exact a.DI x c q
  . exact .inr (.inl (bE a.size q))
  . rcases bt x w.heap.size with I|I
    . obtain⟨m0,s0,_,e0,k0⟩:=a.tL m x s q1.live q2 I;exact .inr (.inr ⟨m0,s0,k0 q1,e0⟩)
    . exact .inr (.inl I)
theorem kB.refl{F:Nat}{E:Env}{h:J h2}{w:World}(g:Good E h w):kB F E h w E h w:=
 .of (n:=F) (iQ.refl g) (fun _ _=>rfl) (aK _)
theorem kB.tO{F:Nat}{E E':Env}{h h':J h2}{w w':World}(u:kB F E h w E' h' w')(hd:pX E F):iQ E h w E' h' w':=
 ⟨⟨fun m b s e=>u.le m b s (by
  by_cases q:m<F
  . exact q
  . rw[hd m (Nat.le_of_not_lt q)]at e;cases e) e,u.fz⟩,u.good,u.size,u.tape,u.os,u.output,u.keep,u.tL,u.DI⟩
theorem ot{F fr:Nat}{live:List Nat}{s s2:St}{E:Env}{a:Act}{w:World}(e:ld F live s=some s2)(r:jY E fr s a w):F<=s.n/\F<=s2.n/\∃E2,jY E2 fr s2 a w/\kB F E s.h w E2 s2.h w:=by
 unfold ld at e;split at e
 . cases e
 rename_i hn;split at e
 case h_2=>cases e
 rename_i ρ oq k ht;revert e;generalize abw:wS oq k .nil=back;intro e;simp only at e;split at e
 case h_2=>cases e
 rename_i fE;simp only[ay]at fE;split at e
 case h_2=>cases e
 rename_i O hh;split at e
 case h_2=>cases e
 rename_i JI vy;split at e
 case h_2=>cases e
 rename_i d2 Cr;simp only[aq]at e;subst e
 let E2:Env:=⟨fun m=>if m<k then(match back.get m with|some old=>E.ι old|none=>none)else none,E.β,E.φ⟩
 have iY:∀m j,wT ρ back k m=some j->E2.ι j=E.ι m:=by
  intro m j hj;obtain⟨_,O,h3⟩:=Aw hj;show(if j<k then(match back.get j with|some old=>E.ι old|none=>none)else none)=_;rw[aG h3,O]
 have Dy:∀m,m<F->E2.ι m=E.ι m:=fun m K=>iY m m (yc fE.1.1 m K);have Ja:=tc oq .nil O hh (fun j o hj=>by simp[J.get]at hj);have p9:Good E2 O w:=by
  refine⟨?_,?_,?_,fun p hp=>(Dy _ (bR (Fz hp) (az fE.2))).trans (r.good.kx p hp),fun b c q=>⟨(r.good.iz b c q).1,fun m s1 K e1=>?_⟩⟩
  case refine_4=>
   obtain⟨o,ho,Ww⟩:=K;obtain⟨old,p,k1,k2,k3⟩:=Ja m o ho;rw[iY old m k1]at e1;exact(r.good.iz b c q).2 old s1 ⟨p,k2,(Ax k3).symm.trans Ww⟩ e1
  . intro m o2 K;obtain⟨old,o,k1,k2,k3⟩:=Ja m o2 K;obtain⟨b,X,e1,e2⟩:=r.good.rel old o k2;exact⟨b,X,(iY old m k1).trans e1,Bp iY (fun _ _ _ _ _ _=>rfl) (fun _ _ q=>q) rfl o o2 k3 e2⟩
  . intro m m' b s1 s2 iV K sD e1 e2;obtain⟨o,ho,Ww⟩:=K;obtain⟨o',DP⟩:=bA.1 sD;obtain⟨old,p,k1,k2,k3⟩:=Ja m o ho;obtain⟨AX,p',FD,k2',_⟩:=Ja m' o' DP;rw[iY old m k1]at e1;rw[iY AX m' FD]at e2;by_cases og:old=AX
    . subst og;rw[k1]at FD;simp only[aq]at FD;exact iV FD
    . exact r.good.inj old AX b s1 s2 og ⟨p,k2,(Ax k3).symm.trans Ww⟩ (by rw[k2'];simp) e1 e2
  . intro m b s1 e1;have e1:(if m<k then(match back.get m with|some old=>E.ι old|none=>none)else none)=some (b,s1):=e1;split at e1
    . split at e1
      . exact r.good.oL _ b s1 e1
      . cases e1
    . cases e1
 refine⟨az hn,az fE.1.2,E2,⟨p9,?_,?_,r.size,?_⟩,?_⟩
 . intro m K;show(if m<k then _ else none)=none;rw[aB (by show ¬m<k;have:k<=m:=K;omega)]
 . intro t v2 hv;obtain⟨v,k1,k2⟩:=qD live .nil JI vy (fun j o hj=>by simp[J.get]at hj) t v2 hv;obtain⟨v',Q,O⟩:=r.N t v k1;exact⟨v',Q,s8 iY (fun _ _ _ _ _ _=>rfl) (fun _ _ q=>q) v v2 v' k2 O⟩
 . exact CB iY _ _ _ Cr r.ij
 . refine⟨fun m b s1 K e1=>⟨(Dy m K).trans e1,rfl⟩,Dy,fun _ _ q=>q,p9,aK _,rfl,rfl,rfl,fun _ _ _=>rfl,?_,fun _ _ q=>.inl q⟩;intro m b s1 K e1 hb;obtain⟨o,ho⟩:=bA.1 K;obtain⟨old,p,k1,k2,k3⟩:=Ja m o ho;rw[iY old m k1]at e1;refine⟨old,s1,by rw[k2];simp,e1,fun⟨o',q1,q2⟩=>⟨p,k2,?_⟩⟩;rw[ho]at q1;cases q1;exact(Ax k3).symm.trans q2
def rT:Code->Bool | .seq _ _=>true|_=>false
def dF:Code->Code | .seq a _=>a|c=>c
def dX:Code->Code | .seq _ b=>b|c=>c
def JP(c:Code)(o:Operand->Bool):Bool:=match c with | .cond x _ _=>o x|_=>false
def Vi:Code->Operand | .cond c _ _=>c|_=>.const (.bool true)
def lK:Code->Code | .cond _ a _=>a|c=>c
def oW:Code->Code | .cond _ _ b=>b|c=>c
def nf:Code->Nat->Bool | .block i _,j=>Nat.beq i j|_,_=>false
def oM:Code->Bool | .loop _=>true|_=>false
def dG:Code->Code | .block _ c=>c | .loop c=>c|c=>c
def dM:Nat->Code->Code
 |k+1,.seq a b=>.seq a (dM k b)
 |_,_=>.skip
def dr:Nat->Code->Code
 |k+1,.seq _ b=>dr k b
 |_,c=>c
def es(P:Program)(fr:Nat)(w0:World)(c:Code)(s:St)(h1:Exit->St->Prop):Prop:=
 ∀(hm:Exit->Act->World->Prop) (a:Act) (w:World),SP fr w0 s a w->(∀y X a' w',h1 y X->SP fr w0 X a' w'->hm y a' w')->c.wp P hm a w
section
variable{P:Program}{cf:fO}{n0 fr:Nat}{w0:World}{c:Code}{s X:St}{h1 Q1:Exit->St->Prop}
def andThen(cs:St->Prop)(h1:Exit->St->Prop):Exit->St->Prop
 | .normal,s=>cs s
 |y,s=>h1 y s
def gk(i:Nat)(h1:Exit->St->Prop):Exit->St->Prop
 | .exit j,s=>if j=i then h1 .normal s else h1 (.exit j) s
 |y,s=>h1 y s
def TR(P:Program)(fr:Nat)(w0:World)(c:Code)(h1:Exit->St->Prop):Nat->St->Prop
 |0,_=>False
 |n+1,s=>es P fr w0 c s (andThen (fun X=>TR P fr w0 c h1 n X) h1)
def Vj(f:St->Option (List (s'×St))):List (s'×St)->Option (List (s'×St))
 | []=>some []
 |(x,s)::r=>match Vj f r with
  |some tl=>match x with
   | .normal=>match f s with
     |some l=>some (l++tl)
     |none=>none
   |x=>some ((x,s)::tl)
  |none=>none
def SR(i:Nat):List (s'×St)->List (s'×St)
 | []=>[]
 |(x,s)::r=>match x with
  | .exit j=>match Nat.beq j i with
    |true=>(.normal,s)::SR i r
    |false=>(.exit j,s)::SR i r
  |x=>(x,s)::SR i r
def abx(NT:Nat->Bool):Operand->Bool
 | .tmp t=>NT t
 |_=>false
def Ay(P:Program)(cf:fO)(n0:Nat)(NT:Nat->Bool):Code->St->Option (List (s'×St))
 | .seq a b,s=>match Ay P cf n0 NT a s with
   |some l=>Vj (Ay P cf n0 NT b) l
   |none=>none
 | .cond c a b,s=>match iP s.N c with
   |some (.bool t)=>match abx NT c with
    |true=>match Ay P cf n0 NT a s with
     |some l1=>match Ay P cf n0 NT b s with
      |some l2=>some (l1++l2)
      |none=>none
     |none=>none
    |false=>match t with
     |true=>Ay P cf n0 NT a s
     |false=>Ay P cf n0 NT b s
   |_=>none
 | .block i c,s=>match Ay P cf n0 NT c s with
   |some l=>some (SR i l)
   |none=>none
 |c,s=>match gD P cf n0 c s with
  |some r=>some [r]
  |none=>none
def ov:List (Nat×V)->J V->J V
 | [],t=>t
 |x::r,t=>(ov r t).set x.1 (some x.2)
def St.over(s:St)(l:List (Nat×V)):St:={ s with N:=ov l s.N }
def J.beq{α:Type}(eq:α->α->Bool):J α->J α->Bool
 | .nil,.nil=>true
 | .node a l r,.node b l' r'=>(match a,b with|none,none=>true|some a,some b=>eq a b|_,_=>false)&&(J.beq eq l l'&&J.beq eq r r')
 |_,_=>false
theorem J.beq_eq{α:Type}{eq:α->α->Bool}(h:∀a b,eq a b=true->a=b):∀(t u:J α),J.beq eq t u=true->t=u
 | .nil,.nil,_=>rfl
 | .nil,.node _ _ _,e=>by simp[J.beq]at e
 | .node _ _ _,.nil,e=>by simp[J.beq]at e
 | .node a l r,.node b l' r',e=>by
   simp only[J.beq,ay]at e;rw[J.beq_eq h l l' e.2.1,J.beq_eq h r r' e.2.2];cases a<;>cases b<;>first|rfl|(simp at e;done)|skip
   rw[h _ _ e.1]
def vz:List (V×V×Nat)->List (V×V×Nat)->Bool
 | [],[]=>true
 |x::xs,y::ys=>(V.beq x.1 y.1&&V.beq x.2.1 y.2.1)&&(Nat.beq x.2.2 y.2.2&&vz xs ys)
 |_,_=>false
theorem CC:∀(a b:List (V×V×Nat)),vz a b=true->a=b
 | [],[],_=>rfl
 | [],_::_,h=>by simp[vz]at h
 |_::_,[],h=>by simp[vz]at h
 |(k,v,n)::xs,(k',v',n')::ys,h=>by
  simp only[vz,ay]at h;rw[beq_eq _ _ h.1.1,beq_eq _ _ h.1.2,aA h.2.1,CC xs ys h.2.2]
def h2.beq:h2->h2->Bool
 | .cells a,.cells b=>V.o5 a b
 | .map a c,.map b d=>vz a b&&Nat.beq c d
 | .nv a p,.nv b q=>lO a b&&Nat.beq p q
 | .ints k a,.ints j b=>decide (k=j)&&decide (a=b)
 |_,_=>false
theorem h2.beq_eq(a b:h2)(h:h2.beq a b=true):a=b:=by
 cases a<;>cases b<;>simp only[h2.beq,aM,ay]at h
 . rw[sX _ _ h]
 . rw[CC _ _ h.1,aA h.2]
 . rw[kA]at h;rw[eq_of_beq h.1,aA h.2]
 . rw[aX h.1,aX h.2]
def St.beq(a b:St):Bool:=J.beq V.beq a.N b.N&&(J.beq h2.beq a.h b.h&&(Nat.beq a.n b.n&&(a.ij.isEmpty&&b.ij.isEmpty)))
theorem St.beq_eq{a b:St}(h:St.beq a b=true):a=b:=by
 simp only[St.beq,ay,List.isEmpty_iff]at h;obtain⟨Q,O,h3,h4,h5⟩:=h;have e1:=J.beq_eq Go.Eng.beq_eq _ _ Q;have e2:=J.beq_eq h2.beq_eq _ _ O;have e3:=aA h3;cases a;cases b;simp_all
def St.cell(s:St)(m i:Nat)(v:V):St:=match s.h.get m with
 |some (.cells R)=>match Nat.blt m fZ with
  |true=>{ s with h:=s.h.set m (some (.cells (R.set i v))) }
  |false=>s
 |_=>s
def St.cellAt(s:St)(m i:Nat):Option V:=match s.h.get m with
 |some (.cells R)=>match Nat.blt m fZ with
  |true=>R[i]?
  |false=>none
 |_=>none
def Ey(live:List Nat)(m i:Nat)(z:V)(t:St):List (s'×St)->Option (List (Option V))
 | []=>some []
 |(.normal,s)::r=>match norm live s with
  |some s2=>match St.beq (s2.cell m i z) t with
   |true=>match Ey live m i z t r with
    |some l=>some (s2.cellAt m i::l)
    |none=>none
   |false=>none
  |none=>none
 |_=>none
def Wx(P:Program)(cf:fO)(n0:Nat)(NT:Nat->Bool)(live Y:List Nat)(m i:Nat)(z:V)(c:Code)(s t:St):Option (List (List (Option V))×List (Option V)):=
 match Ay P cf n0 NT c s with
 |some l=>match Ey live m i z t l with
  |some cells=>some (l.map fun p=>Y.map p.2.N.get,cells)
  |none=>none
 |none=>none
end
mutual
def V.qE:V->Bool
 | .fn (.func _) a c=>V.qd a&&V.qd c
 | .fn _ _ _=>false
 | .iface _ x=>V.qE x
 | .agg R=>V.qd R
 | .gw R=>V.qd R
 |_=>true
def V.qd:ag->Bool
 | []=>true
 |x::xs=>V.qE x&&V.qd xs
end
mutual
theorem V.beq_refl:∀v:V,v.qE=true->V.beq v v=true
 | .bool b,_=>by cases b<;>rfl
 | .int k n,_=>by simp[V.beq]
 | .str s,_=>by simp[V.beq,kA]
 | .ptr none,_=>rfl
 | .ptr (some (m,o)),_=>by simp[V.beq,qA]
 | .eR none l c e,_=>by simp[V.beq,qA]
 | .eR (some (m,o)) l c e,_=>by simp[V.beq,qA]
 | .map none,_=>rfl
 | .map (some m),_=>by simp[V.beq,Fb]
 | .fn f a c,h=>by
   cases f<;>simp only[V.qE,aM,ay]at h;simp[V.beq,Od,V.rU a h.1,V.rU c h.2]
 | .kG,_=>rfl
 | .iface t x,h=>by simp only[V.qE]at h;simp[V.beq,V.beq_refl x h]
 | .nilIface,_=>rfl
 | .agg R,h=>by simp only[V.qE]at h;simp[V.beq,V.rU R h]
 | .gw R,h=>by simp only[V.qE]at h;simp[V.beq,V.rU R h]
 | .eB f n R,_=>by simp[V.beq,pZ R]
 | .dx R,_=>by simp[V.beq,pZ R]
theorem V.rU:∀vs:ag,V.qd vs=true->V.o5 vs vs=true
 | [],_=>rfl
 |x::xs,h=>by simp only[V.qd,ay]at h;simp[V.o5,V.beq_refl x h.1,V.rU xs h.2]
end
inductive Ob where
 |same (a b:V)
 |call (f:FuncId) (args:ag) (v:V)
def Ob.ok(cf:fO):Ob->Prop
 | .same a b=>a=b
 | .call f args v=>∀h n,cf f args h n=some (.ret v,h,n)
end Go.Eng
