/- Lemmas of the engine. No conditions. -/
import Derived.Test.YtmjggdmekboefaaGreatJointW01
import Derived.OrdersIn
import Derived.Recover
import Derived.LoopN
import Derived.LoopNIn
import Derived.RangeFuncRecord
import Derived.RangeFuncIn
import Derived.RangeFuncLeaves
import Derived.Below
set_option linter.unusedVariables false
set_option linter.unusedSimpArgs false
set_option linter.unusedSectionVars false
namespace Go.Eng
open Go
section
variable{P:Program}{cf:gu}{ops:Array Oper}{N n0 iy:Nat}{h0:I es}{lH:I V}{val:Nat->V}{eA:List uH}{d:Dr}{E0:Env}{w0:World}{yA:List Deferred}
variable{dF:Nat->Bool}{ms iW:Nat}{E:Env}{a:Act}{w:World}{Q:Exit->Act->World->Prop}{hx:Act->World->Prop}
theorem Inv.TU{dM:af}(Tr:Inv ops N n0 iy h0 lH val eA dM E0 w0 yA dF ms iW E a w)(hl:iy<=ops.size):qK E (eY h0 (N+ops.size) eA iW).2.2:=by
 intro k hk;cases q:E.ι k with
 |none=>rfl
 |some p=>
  have A:=Tr.D4;rcases Tr.rO k p q with h|⟨i,b,_,C,h3⟩|h
  . omega
  . have:=Tr.PG i C;omega
  . omega
theorem Inv.sub(_hr:lP ops n0)(hl:iy<=ops.size)(f:mU P cf ops N h0 lH val eA iy d)(ht:∀y∈d.dM,N+y.1<gO)(Tr:Inv ops N n0 iy h0 lH val eA d.dM E0 w0 yA dF ms iW E a w)
  {iM:Nat} (ha:∀k,eT iM k=true->dF k=true):
  Sub (gX N d.dM (eY h0 (N+ops.size) eA iW).1 (eY h0 (N+ops.size) eA iW).2.1 iM) (gX N d.dM (eY h0 (N+ops.size) eA iW).1 (eY h0 (N+ops.size) eA iW).2.1 ms):=by
 intro k o hk;rcases ju (x:=(eY h0 (N+ops.size) eA iW).2.1) (m:=(eY h0 (N+ops.size) eA iW).1) (iM:=iM) ht f.one k with⟨i,b,h1,C,h3,h4,h5⟩|⟨h1,C⟩
 . rw[h5]at hk;cases hk;subst h4;exact jL ht f.one h1 (by rw[Tr.bits];exact ha i C) h3
 . rw[C]at hk;rcases ju (x:=(eY h0 (N+ops.size) eA iW).2.1) (m:=(eY h0 (N+ops.size) eA iW).1) (iM:=ms) ht f.one k with⟨i,b,g1,g2,g3,g4,g5⟩|⟨g1,g2⟩
   . subst g4;have hi:=Tr.PG i (by rw[<- Tr.bits];exact g2);rw[Tr.free i S g3]at hk;cases hk
   . rw[g2];exact hk
theorem nB(U:∀i,eT ms i=dF i)(j:Nat):∀i,eT (ms|||2^j) i=(dF i||decide (i=j)):=by
 intro i;rw[zV,CO,U];by_cases q:i=j
 . subst q;simp
 . have:¬j=i:=fun e=>q e.symm;simp[q,this]
theorem Inv.quiet(hr:lP ops n0)(_hl:iy<=ops.size)(_f:mU P cf ops N h0 lH val eA iy d)(Tr:Inv ops N n0 iy h0 lH val eA d.dM E0 w0 yA dF ms iW E a w)
  {j:Nat} {o:Oper} (ho:ops[j]? =some o) (hj:j<iy) (xV:dF j=false) (hd:∀e∈o.after,Region.binds .any e=true->dF e.on=true) (CT:∀(c:Nat) (e:uH),eA[c]? =some e->e.1≠j)
  {E':Env} {w':World} {v':Value} (hv:eH E' (val j) v') (hu:jt E0 h0 w0 E' (gX N d.dM (eY h0 (N+ops.size) eA iW).1 (eY h0 (N+ops.size) eA iW).2.1 (ms|||2^j)) w') (kZ:E.le E')
  (qn:∀k,k<N->E'.ι k=E.ι k) (qt:∀k p,E'.ι k=some p->E.ι k=some p\/(∃b,(j,b)∈d.dM/\k=N+j)):
  Inv ops N n0 iy h0 lH val eA d.dM E0 w0 yA (fun i=>dF i||decide (i=j)) (ms|||2^j) iW E' (a.put o.dst v') w':=by
 obtain⟨g1,g2⟩:=Tr.frame hr ho kZ hv;refine⟨nB Tr.bits j,fun i hi=>?_,fun i q hi hq e he U=>?_,fun c e he=>?_,Tr.Jle,g1,g2,hu,fun k hk=>by rw[qn k hk];exact Tr.old k hk,fun k p hp=>?_,Tr.free,Tr.D4,by rw[mq];exact Tr.size,by rw[kj];exact Tr.iZ⟩
 . rcases cq _ _ |>.mp hi with h|h
   . exact Tr.PG i h
   . simp at h;omega
 . rcases cq _ _ |>.mp hi with h|h
   . rw[Tr.closed i q h hq e he U];rfl
   . simp at h;subst h;rw[ho]at hq;cases hq;rw[hd e he U];rfl
 . rw[<- Tr.El c e he];simp[CT c e he]
 . rcases qt k p hp with h|⟨b,h1,C⟩
   . rcases Tr.rO k p h with h|⟨i,b,h1,C,h3⟩|h
     . exact .inl h
     . exact .inr (.inl ⟨i,b,h1,by rw[C];rfl,h3⟩)
     . exact .inr (.inr h)
   . exact .inr (.inl ⟨j,b,h1,by simp,C⟩)
theorem Inv.adb(hr:lP ops n0)(hl:iy<=ops.size)(f:mU P cf ops N h0 lH val eA iy d)(ht:∀y∈d.dM,N+y.1<gO)(Tr:Inv ops N n0 iy h0 lH val eA d.dM E0 w0 yA dF ms iW E a w)
  {iM:Nat} (ha:∀k,eT iM k=true->dF k=true) (L:∀k,eT (eY h0 (N+ops.size) eA iW).1 k=true->eT iM k=true) {E':Env} {h:I es} {w':World}
  (hu:jt E (gX N d.dM (eY h0 (N+ops.size) eA iW).1 (eY h0 (N+ops.size) eA iW).2.1 iM) w E' h w') (gd:∀k,k<(eY h0 (N+ops.size) eA iW).2.2->E'.ι k=E.ι k):
  ∀i,i<ops.size->eT iM i=false->h.get (N+i)=none:=by
 intro i hi Ix;cases q:h.get (N+i)with
 |none=>rfl
 |some o=>
  exfalso;obtain⟨b,s,h1,_⟩:=hu.good.rel _ o q;have fj:N+i<(eY h0 (N+ops.size) eA iW).2.2:=by have:=Tr.D4;omega
  have hE:=h1;rw[gd _ fj]at hE;have hmi:eT (eY h0 (N+ops.size) eA iW).1 i=false:=by
   cases c:eT (eY h0 (N+ops.size) eA iW).1 i with
   |false=>rfl
   |true=>rw[L i c]at Ix;cases Ix
  rcases Tr.rO _ _ hE with c|⟨i',b',k1,k2,k3⟩|c
  . omega
  . have:i'=i:=by omega
    subst this;have jE:(gX N d.dM (eY h0 (N+ops.size) eA iW).1 (eY h0 (N+ops.size) eA iW).2.1 ms).get (N+i')=some b':=jL ht f.one k1 (by rw[Tr.bits];exact k2) hmi;obtain⟨m0,s0,a1,a2,_⟩:=hu.wj (N+i') b s (by rw[q];simp) h1 (Tr.CH.good.qG _ _ _ hE);have K:(gX N d.dM (eY h0 (N+ops.size) eA iW).1 (eY h0 (N+ops.size) eA iW).2.1 iM).get (N+i')=none:=by
     rcases ju (x:=(eY h0 (N+ops.size) eA iW).2.1) (m:=(eY h0 (N+ops.size) eA iW).1) (iM:=iM) ht f.one (N+i')with⟨i2,b2,g1,g2,g3,g4,g5⟩|⟨g1,g2⟩
     . have:i2=i':=by omega
       subst this;rw[Ix]at g2;cases g2
     . rw[g2];exact Tr.free i' hi hmi
    have jD:m0≠N+i':=by intro e;subst e;exact a1 K
    have hwr:b'.wr=true:=by
     obtain⟨F,_,_,_,_,q,_⟩:=f.BV i' _ b' k1 (bg hi);exact q
    refine Tr.CH.good.inj (N+i') m0 b s s0 (fun q=>jD q.symm) ⟨b',jE,hwr⟩ ?_ hE a2;cases c:(gX N d.dM (eY h0 (N+ops.size) eA iW).1 (eY h0 (N+ops.size) eA iW).2.1 iM).get m0 with
    |none=>exact absurd c a1
    |some o'=>rw[Tr.sub hr hl f ht ha m0 o' c];simp
  . omega
theorem Inv.effect(hr:lP ops n0)(hl:iy<=ops.size)(f:mU P cf ops N h0 lH val eA iy d)(ht:∀y∈d.dM,N+y.1<gO)(Tr:Inv ops N n0 iy h0 lH val eA d.dM E0 w0 yA dF ms iW E a w)
  {j:Nat} {o:Oper} (ho:ops[j]? =some o) (hj:j<iy) (xV:dF j=false) (hd:∀e∈o.after,Region.binds .any e=true->dF e.on=true) (AW:∀b,(j,b)∉d.dM)
  {h:I es} {n:Nat} (he:eA[iW]? =some (j,ig ops j,h,n)) {E':Env} {w':World} {v':Value} (hv:eH E' (val j) v')
  (hu:jt E (gX N d.dM (eY h0 (N+ops.size) eA iW).1 (eY h0 (N+ops.size) eA iW).2.1 (ig ops j)) w E' h w')
  (gd:∀k,k<(eY h0 (N+ops.size) eA iW).2.2->E'.ι k=E.ι k) (qt:qK E' n) (hn:(eY h0 (N+ops.size) eA iW).2.2<=n):
  Inv ops N n0 iy h0 lH val eA d.dM E0 w0 yA (fun i=>dF i||decide (i=j)) (ms|||2^j) (iW+1) E' (a.put o.dst v') w':=by
 have hJ:iW<eA.length:=(aS.1 he).1;have nJ:eY h0 (N+ops.size) eA (iW+1)=(ig ops j,h,n):=by simp only[eY,he]
 have BF:∀k,eT (ig ops j) k=true->dF k=true:=fun k hk=>su hr Tr.closed ho hd hk;have L:∀k,eT (eY h0 (N+ops.size) eA iW).1 k=true->eT (ig ops j) k=true:=by
  intro k hk;cases iW with
  |zero=>simp[eY,jF]at hk
  |succ c=>
   have A:eA[c]? =some (eA[c]'(by omega)):=au S;simp only[eY,A]at hk;obtain⟨_,o',_,_,h3⟩:=f.uj c _ A;rw[h3]at hk;exact EP hr.wL j _ k (f.chain (c+1) c _ _ S he A) hk
 have Wu:=Tr.adb hr hl f ht BF L hu gd;obtain⟨g1,g2⟩:=Tr.frame hr ho hu.le hv;have A:=Tr.D4;refine⟨nB Tr.bits j,fun i hi=>?_,fun i q hi hq e BE U=>?_,fun c e BE=>?_,hJ,g1,g2,?_,fun k hk=>?_,fun k p hp=>?_,?_,?_,by rw[mq];exact Tr.size,by rw[kj];exact Tr.iZ⟩
 . rcases cq _ _ |>.mp hi with h|h
   . exact Tr.PG i h
   . simp at h;omega
 . rcases cq _ _ |>.mp hi with h|h
   . rw[Tr.closed i q h hq e BE U];rfl
   . simp at h;subst h;rw[ho]at hq;cases hq;rw[hd e BE U];rfl
 . have h1:=Tr.El c e BE;constructor
   . intro hs;rcases cq _ _ |>.mp hs with q|q
     . have:=h1.1 q;omega
     . simp at q;by_cases hcJ:c<iW+1
       . exact hcJ
       . have:=f.chain c iW e _ S BE he;simp only at this;rw[q]at this;have:=Kt hr.wL j j this;omega
   . intro Ku;by_cases q:c<iW
     . rw[h1.2 q];rfl
     . have:c=iW:=by omega
       subst this;rw[he]at BE;cases BE;simp
 . rw[nJ];refine Tr.CH.trans (jt.frame Tr.CH.good (Tr.sub hr hl f ht BF) hu fun k=>?_);rcases ju (x:=h) (m:=ig ops j) (iM:=ms|||2^j) ht f.one k with⟨i,b,k1,k2,k3,k4,k5⟩|⟨k1,k2⟩
   . simp only[k5];subst k4;have hi:dF i=true:=by
      rw[nB Tr.bits]at k2;rcases cq _ _ |>.mp k2 with q|q
      . exact q
      . simp at q;subst q;exact absurd k1 (AW b)
     have hmi:eT (eY h0 (N+ops.size) eA iW).1 i=false:=by
      cases c:eT (eY h0 (N+ops.size) eA iW).1 i with
      |false=>rfl
      |true=>rw[L i c]at k3;cases k3
     have jX:i<ops.size:=by have:=Tr.PG i hi;omega
     rw[Wu i jX k3];have K:(gX N d.dM (eY h0 (N+ops.size) eA iW).1 (eY h0 (N+ops.size) eA iW).2.1 (ig ops j)).get (N+i)=none:=by
      rcases ju (x:=(eY h0 (N+ops.size) eA iW).2.1) (m:=(eY h0 (N+ops.size) eA iW).1) (iM:=ig ops j) ht f.one (N+i)with⟨i2,b2,q1,q2,q3,q4,q5⟩|⟨q1,q2⟩
      . have:i2=i:=by omega
        subst this;rw[k3]at q2;cases q2
      . rw[q2];exact Tr.free i jX hmi
     simp only[K,if_true];rw[jL ht f.one k1 (by rw[Tr.bits];exact hi) hmi]
   . rw[k2];cases hk:h.get k with
     |some o'=>rfl
     |none=>
      simp only;split
      . rename_i K;rcases ju (x:=(eY h0 (N+ops.size) eA iW).2.1) (m:=(eY h0 (N+ops.size) eA iW).1) (iM:=ms) ht f.one k with⟨i,b,q1,q2,q3,q4,q5⟩|⟨q1,q2⟩
        . exfalso;subst q4;cases c:eT (ig ops j) i with
          |false=>exact k1 i b q1 (by rw[nB Tr.bits];rw[Tr.bits]at q2;rw[q2];rfl) c rfl
          |true=>
           rw[jL ht f.one q1 c q3]at K;cases K
        . rw[q2];rcases ju (x:=(eY h0 (N+ops.size) eA iW).2.1) (m:=(eY h0 (N+ops.size) eA iW).1) (iM:=ig ops j) ht f.one k with⟨i,b,r1,r2,r3,r4,r5⟩|⟨r1,r2⟩
          . rw[r5]at K;cases K
          . rw[r2]at K;exact K.symm
      . rfl
 . rw[gd k S];exact Tr.old k hk
 . by_cases q:k<(eY h0 (N+ops.size) eA iW).2.2
   . rw[gd k q]at hp;rcases Tr.rO k p hp with h|⟨i,b,h1,C,h3⟩|h
     . exact .inl h
     . exact .inr (.inl ⟨i,b,h1,by rw[C];rfl,h3⟩)
     . rw[nJ];exact .inr (.inr ⟨h.1,by show k<n;omega⟩)
   . rw[nJ];refine .inr (.inr ⟨S,?_⟩);by_cases q2:k<n
     . exact q2
     . rw[qt k S]at hp;cases hp
 . rw[nJ];exact fun i hi U=>Wu i hi U
 . rw[nJ];simp only;omega
end
section
variable{P:Program}{cf:gu}{ops:Array Oper}{N n0 iy:Nat}{h0:I es}{lH:I V}{val:Nat->V}{eA:List uH}{d:Dr}{E0:Env}{w0:World}{yA:List Deferred}
variable{dF:Nat->Bool}{ms iW:Nat}{E:Env}{a:Act}{w:World}{Q:Exit->Act->World->Prop}{hx:Act->World->Prop}{rN:Option Nat}
theorem Inv.step(lX:iu P cf)(hr:lP ops n0)(hl:iy<=ops.size)(f:mU P cf ops N h0 lH val eA iy d)(ht:∀y∈d.dM,N+y.1<gO)(Tr:Inv ops N n0 iy h0 lH val eA d.dM E0 w0 yA dF ms iW E a w)
  {j:Nat} {o:Oper} (ho:ops[j]? =some o) (hj:j<iy) (xV:dF j=false) (hd:∀e∈o.after,Region.binds .any e=true->dF e.on=true)
  (hk:∀J' E' a' w',Inv ops N n0 iy h0 lH val eA d.dM E0 w0 yA (fun i=>dF i||decide (i=j)) (ms|||2^j) J' E' a' w'->hx a' w'):wpOpIn (fz rN) 0 P ops Q j hx a w:=by
 have Wv:j<ops.size:=by omega
 have BF:∀k,eT (ig ops j) k=true->dF k=true:=fun k hk=>su hr Tr.closed ho hd hk;have hmj:eT (eY h0 (N+ops.size) eA iW).1 j=false:=by
  cases c:eT (eY h0 (N+ops.size) eA iW).1 j with
  |false=>rfl
  |true=>rw[Tr.ada hr f c]at xV;cases xV
 have zL:E.ι (N+j)=none:=by
  cases q:E.ι (N+j)with
  |none=>rfl
  |some p=>
   rcases Tr.rO _ p q with h|⟨i,b,_,C,h3⟩|h
   . omega
   . have:i=j:=by omega
     subst this;rw[xV]at C;cases C
   . omega
 have Ww:(∀b,(j,b)∉d.dM)->∀k,(gX N d.dM (eY h0 (N+ops.size) eA iW).1 (eY h0 (N+ops.size) eA iW).2.1 (ms|||2^j)).get k=
   (gX N d.dM (eY h0 (N+ops.size) eA iW).1 (eY h0 (N+ops.size) eA iW).2.1 ms).get k:=by
  intro AW k;rcases ju (x:=(eY h0 (N+ops.size) eA iW).2.1) (m:=(eY h0 (N+ops.size) eA iW).1) (iM:=ms|||2^j) ht f.one k with⟨i,b,k1,k2,k3,k4,k5⟩|⟨k1,k2⟩
  . subst k4;rw[k5,jL ht f.one k1 ?_ k3];rw[nB Tr.bits]at k2;rcases cq _ _ |>.mp k2 with q|q
    . rw[Tr.bits];exact q
    . simp at q;subst q;exact absurd k1 (AW b)
  . rw[k2,od ht fun i b q1 q2 q3=>k1 i b q1 (by rw[nB Tr.bits];rw[Tr.bits]at q2;rw[q2];rfl) q3]
 unfold wpOpIn;simp only[ho];by_cases hal:∃b,(j,b)∈d.dM
 ·
  obtain⟨b,U⟩:=hal;obtain⟨F,f1,f2,f3,f4,f6,f5⟩:=f.BV j o b U ho;rw[aF (Tr.wanted hr ho xV hd f1 f2)];refine(F1 Tr.CH.good zL (Tr.uS hr ho xV hd f1) (f5 _) fun E' w' v' q1 q2 q3 _=>hk iW E' _ w' ?_);refine Tr.quiet hr hl f ho hj xV hd (fun c e he jD=>?_) q1 ?_ q2.le (fun k hk=>q3 k S) (fun k p hp=>?_)
  . obtain⟨_,o',h1,C,_⟩:=f.uj c e he;rw[jD,ho]at h1;cases h1;rw[f3]at C;cases C
  . refine Tr.CH.trans (q2.ext fun k=>?_);by_cases hkj:k=N+j
    . subst hkj;rw[I.pE _ _ f4,jL ht f.one U (by rw[nB Tr.bits];simp) hmj]
    . rw[I.w6 _ _ f4 hkj];rcases ju (x:=(eY h0 (N+ops.size) eA iW).2.1) (m:=(eY h0 (N+ops.size) eA iW).1) (iM:=ms|||2^j) ht f.one k with⟨i,b',k1,k2,k3,k4,k5⟩|⟨k1,k2⟩
      . subst k4;rw[k5,jL ht f.one k1 ?_ k3];rw[nB Tr.bits]at k2;rcases cq _ _ |>.mp k2 with q|q
        . rw[Tr.bits];exact q
        . simp at q;subst q;exact absurd rfl hkj
      . rw[k2,od ht fun i b q1 q2 q3=>k1 i b q1 (by rw[nB Tr.bits];rw[Tr.bits]at q2;rw[q2];rfl) q3]
  . by_cases hkj:k=N+j
    . exact .inr ⟨b,U,hkj⟩
    . rw[q3 k hkj]at hp;exact .inl hp
 . have AW:∀b,(j,b)∉d.dM:=fun b q=>hal ⟨b,q⟩;obtain⟨F,f1,f2⟩:=f.XZ j o hj ho;have look:gq ops o F=some true->qd o.op=false->eG P o F (gX N d.dM (eY h0 (N+ops.size) eA iW).1 (eY h0 (N+ops.size) eA iW).2.1 ms) (N+j)=
     some (.val (val j) (gX N d.dM (eY h0 (N+ops.size) eA iW).1 (eY h0 (N+ops.size) eA iW).2.1 ms) (N+j))->
     (if Region.wanted o (yielded ops a.tmps)=true then o.wpIn (fz rN) 0 P a w hx Q else(∀f,o.about P w a.eval=some f->(fz rN).fn f)/\hx (a.put o.dst undef) w):=by
    intro hw jD hs;rw[aF (Tr.wanted hr ho xV hd f1 hw)];refine(F1 Tr.CH.good zL (Tr.uS hr ho xV hd f1) hs fun E' w' v' q1 q2 q3 q4=>hk iW E' _ w' ?_);rcases q4 with⟨_,rfl⟩|q4
    . refine Tr.quiet hr hl f ho hj xV hd (fun c e he NJ=>?_) q1 (Tr.CH.trans (q2.ext (Ww AW))) q2.le (fun _ _=>rfl) (fun _ _ hp=>.inl hp);obtain⟨_,o',h1,C,_⟩:=f.uj c e he;rw[NJ,ho]at h1;cases h1;rw[jD]at C;cases C
    . omega
   rcases f2 with⟨hw,hv⟩|⟨_,_,b,q3,_⟩|⟨hw,jD,xu⟩|⟨hw,jD,oJ,adf⟩|⟨hw,CT,c,h,n,A,gF⟩
   ·
    rw[aD (by rw[Tr.wanted hr ho xV hd f1 hw];simp)];refine⟨fun _ _=>trivial,?_⟩;refine hk iW E _ w (Tr.quiet (v':=undef) hr hl f ho hj xV hd (fun c e he NJ=>?_) (by rw[hv];exact⟨[],rfl,rfl⟩) (Tr.CH.ext (Ww AW)) E.le_refl (fun _ _=>rfl) (fun _ _ hp=>.inl hp));have Kc:=Tr.wanted hr ho xV hd f1 hw;have PF:=f.zX c e o he (by rw[NJ];exact ho);obtain⟨fr3,g3,g4⟩:=PF;rw[NJ]at g3;have TV:=Tr.wanted hr ho xV hd g3 g4;rw[Kc]at TV;cases TV
   . exact absurd q3 (AW b)
   . exact look hw jD (xu _)
   . have c1:∀(c':Nat) (e:uH),iW<=c'->eA[c']? =some e->eT (ig ops j) e.1=false:=by
      intro c' e Ku he;cases q:eT (ig ops j) e.1 with
      |false=>rfl
      |true=>have:=(Tr.El c' e he).1 (BF _ q);omega
     have c2:∀(c':Nat) (e:uH),c'<iW->eA[c']? =some e->eT e.2.1 j=false:=by
      intro c' e Ku he;obtain⟨_,o',_,_,h3⟩:=f.uj c' e he;cases q:eT e.2.1 j with
      |false=>rfl
      |true=>
       rw[h3]at q;rw[Tr.iM hr ((Tr.El c' e he).2 Ku) q]at xV;cases xV
     obtain⟨y,hy⟩:=adf iW Tr.Jle c1 c2;rcases _root_.Go.Eng.quiet jD hy with⟨u,h1,C⟩|⟨u,b,h1,C,h3⟩
     . cases h1;exact look hw jD (C _ (Tr.sub hr hl f ht BF))
     . simp only[iX.val.injEq]at C;omega
   ·
    have hcJ:c=iW:=by
     have h1:¬c<iW:=by
      intro q;have:=(Tr.El c _ A).2 q;simp only at this;rw[xV]at this;cases this
     by_cases q:iW<c
     . have hJl:iW<eA.length:=by have:=(aS.1 A).1;omega
       have he:eA[iW]? =some eA[iW]:=au hJl;have:=f.chain c iW _ _ q A he;have:=(Tr.El iW _ he).1 (BF _ this);omega
     . omega
    subst hcJ;rw[aF (Tr.wanted hr ho xV hd f1 hw)];have Wx:=Tr.CH.good.sub (Tr.sub hr hl f ht BF);have EV:=Tr.TU hl;simp only at gF;rcases gF with hs|⟨g,args,hs,adg⟩
    . refine F1 Wx (EV _ (aK _)) (Tr.uS hr ho xV hd f1) hs fun E' w' v' q1 q2 q3 q4=>hk (c+1) E' _ w' ?_;refine Tr.effect hr hl f ht ho hj xV hd AW A q1 q2 (fun k hk=>q3 k S) ?_ ?_
      . rcases q4 with⟨rfl,rfl⟩|rfl
        . exact EV
        . intro k hk;rw[q3 k S];exact EV k S
      . rcases q4 with⟨rfl,_⟩|rfl<;>omega
    . refine BU lX Wx EV (Tr.uS hr ho xV hd f1) hs adg fun E' w' q2 q3 q4 q5=>?_;intro v' q1;exact hk (c+1) E' _ w' (Tr.effect hr hl f ht ho hj xV hd AW A q1 q2 q3 q4 q5)
end
theorem filter_lt{α:Type}{p q:α->Bool}{x:α}:∀{l:List α},x∈l->p x=true->q x=false->(∀y,q y=true->p y=true)->(l.filter q).length<(l.filter p).length
 | [],h,_,_,_=>by simp at h
 |y::l,h,hp,hq,L=>by
  have kZ:(l.filter q).length<=(l.filter p).length:=by
   clear h
   induction l with
   |nil=>simp
   |cons z l ih=>
    simp only[List.filter_cons];by_cases c:q z=true
    . rw[aF c,aF (L z c)];simp;exact ih
    . rw[aD c];by_cases c2:p z=true
      . rw[aF c2];simp;omega
      . rw[aD c2];exact ih
  simp only[List.filter_cons];rcases aA.1 h with rfl|h
  . rw[aF hp,aD (by rw[hq];simp)];simp;omega
  . have ih:=filter_lt h hp hq L;by_cases c:q y=true
    . rw[aF c,aF (L y c)];simp;exact ih
    . rw[aD c];by_cases c2:p y=true
      . rw[aF c2];simp;omega
      . rw[aD c2];exact ih
def Ma(n:Nat)(fC:Array Bool):Nat:=((List.range n).filter fun i=>!fC.getD i false).length
theorem oe{fC:Array Bool}{j:Nat}(hj:j<fC.size)(i:Nat):(fC.setIfInBounds j true).getD i false=(fC.getD i false||decide (i=j)):=by
 simp only[bO,Array.getElem?_setIfInBounds];by_cases q:i=j
 . subst q;simp[hj]
 . have:¬j=i:=fun e=>q e.symm;simp[q,this]
section
variable{P:Program}{cf:gu}{ops:Array Oper}{N n0 iy:Nat}{h0:I es}{lH:I V}{val:Nat->V}{eA:List uH}{d:Dr}{E0:Env}{w0:World}{yA:List Deferred}
variable{Q:Exit->Act->World->Prop}{rN:Option Nat}
theorem EW(lX:iu P cf)(hr:lP ops n0)(hl:iy<=ops.size)(f:mU P cf ops N h0 lH val eA iy d)(ht:∀y∈d.dM,N+y.1<gO)
  (hQ:iy=ops.size->∀dF ms iW E a w,Inv ops N n0 iy h0 lH val eA d.dM E0 w0 yA dF ms iW E a w->(∀i,i<ops.size->dF i=true)->Q .normal a w)
  (hP:iy<ops.size->iy+1=ops.size/\∀dF ms iW E a w o,Inv ops N n0 iy h0 lH val eA d.dM E0 w0 yA dF ms iW E a w->ops[iy]? =some o->
   (∀e∈o.after,Region.binds .any e=true->dF e.on=true)->∀hx,wpOpIn (fz rN) 0 P ops Q iy hx a w):
  ∀(fuel:Nat) (fC:Array Bool) (ms iW:Nat) (E:Env) (a:Act) (w:World),fC.size=ops.size->Ma ops.size fC<=fuel->
   Inv ops N n0 iy h0 lH val eA d.dM E0 w0 yA (fun i=>fC.getD i false) ms iW E a w->wpAnyIn (fz rN) 0 P .any ops Q fuel fC a w:=by
 have done:∀(fC:Array Bool) (ms iW:Nat) (E:Env) (a:Act) (w:World),fC.size=ops.size->Inv ops N n0 iy h0 lH val eA d.dM E0 w0 yA (fun i=>fC.getD i false) ms iW E a w->
   Region.ready .any ops fC=[]->Q .normal a w:=by
  intro fC ms iW E a w hs Tr tw;have all:∀i,i<ops.size->fC.getD i false=true:=by
   intro i
   induction i using Nat.strongRecOn with
   |_ i ih=>
    intro hi;cases q:fC.getD i false with
    |true=>rfl
    |false=>
     exfalso;have ho:ops[i]? =some ops[i]:=bg hi;have:i∈Region.ready .any ops fC:=mem_ready.2 ⟨by
      rw[bO,bg S]at q ⊢;exact q,ops[i],ho,fun e he U=>by
      have:=hr.wL i _ ho e he U;exact ih e.on this S⟩
     rw[tw]at this;simp at this
  have F7:iy=ops.size:=by
   by_cases q:iy<ops.size
   . have:=Tr.PG iy (all iy q);omega
   . omega
  exact hQ F7 _ ms iW E a w Tr all
 intro fuel
 induction fuel with
 |zero=>
  intro fC ms iW E a w hs hu Tr;have tw:Region.ready .any ops fC=[]:=by
   rw[List.eq_nil_iff_forall_not_mem];intro j hj;obtain⟨h1,o,ho,_⟩:=mem_ready.1 hj;have Wv:=(aY.1 ho).1;have hz:Ma ops.size fC=0:=by omega
   unfold Ma at hz;have:=cN.2 hz;have L:j∈(List.range ops.size).filter fun i=>!fC.getD i false:=List.mem_filter.2 ⟨bQ.2 Wv,by
    rw[bO,bg S]at h1 ⊢;simp at h1;simp[h1]⟩
   rw[this]at L;simp at L
  exact⟨tw,done fC ms iW E a w hs Tr tw⟩
 |succ fuel ih=>
  intro fC ms iW E a w hs hu Tr;refine⟨done fC ms iW E a w hs Tr,fun j hj=>?_⟩;obtain⟨h1,o,ho,hd⟩:=mem_ready.1 hj;have Wv:=(aY.1 ho).1;have xV:fC.getD j false=false:=by
   rw[bO,bg S]at h1 ⊢;exact h1
  by_cases OT:j<iy
  . refine Tr.step lX hr hl f ht ho OT xV hd fun J' E' a' w' I'=>?_;refine ih _ (ms|||2^j) J' E' a' w' (by simp;exact hs) ?_ ?_
    . have:Ma ops.size (fC.setIfInBounds j true)<Ma ops.size fC:=by
       refine filter_lt (x:=j) (bQ.2 Wv) (by rw[xV];rfl) (by rw[oe S];simp) fun y hy=>?_;rw[oe S]at hy;simp at hy ⊢;exact hy.1
      omega
    . have:(fun i=>(fC.setIfInBounds j true).getD i false)=fun i=>(fC.getD i false||decide (i=j)):=funext fun i=>oe S i;rw[this];exact I'
  . have fj:iy<ops.size:=by omega
    obtain⟨p1,p2⟩:=hP fj;have:j=iy:=by omega
    subst this;exact p2 _ ms iW E a w o Tr ho hd _
end
theorem PI{rN:Option Nat}{P:Program}{cf:gu}{ops:Array Oper}{n0 id:Nat}{s T:St}{x:fm}{E0:Env}{a0:Act}{w0:World}{Q:Exit->Act->World->Prop}(lX:iu P cf)(hr:lP ops n0)(L:P.follows .mixedOrders=true)
  (e:drawn P cf ops s=some (x,T)) (g:Good E0 s.h w0) (hd:qK E0 s.n) (hf:xk E0 s.F a0) (hN:a0.tmps.size=n0)
  (hq:∀E' a' w' x',jt E0 s.h w0 E' T.h w'->(∀k,k<s.n->E'.ι k=E0.ι k)->qK E' T.n->s.n<=T.n->xk E' T.F a'->a'.tmps.size=n0->a'.defers=a0.defers->T.iZ=s.iZ->Iw E' x x'->Q x' a' w'):
  (Code.region id ops true).wpIn (fz rN) 0 P Q a0 w0:=by
 refine wpIn_region_any L ?_;unfold drawn at e;split at e
 . rename_i ir;have PJ:=xq (P:=P) (cf:=cf) (ops:=ops) (N:=s.n) s.F s.h;have start:∀(iy:Nat) (val:Nat->V) (eA:List uH) (dM:af),Inv ops s.n n0 iy s.h s.F val eA dM E0 w0 a0.defers (fun i=>(Array.replicate ops.size false).getD i false) 0 0 E0 a0 { w0 with drawn:=w0.drawn+1 }:=by
    intro iy val eA dM;have hS:∀i,(Array.replicate ops.size false).getD i false=false:=by
     intro i;rw[bO];by_cases q:i<ops.size
     . rw[bg (by simpa using q)];simp
     . rw[Array.getElem?_eq_none (by simpa using q)];rfl
    have PB:∀k,(gX s.n dM (eY s.h (s.n+ops.size) eA 0).1 (eY s.h (s.n+ops.size) eA 0).2.1 0).get k=s.h.get k:=by
     intro k;have:∀l:af,gX s.n l (eY s.h (s.n+ops.size) eA 0).1 (eY s.h (s.n+ops.size) eA 0).2.1 0=s.h:=by
      intro l
      induction l with
      |nil=>rfl
      |cons y l ih=>obtain⟨i,b⟩:=y;simp only[gX,jF,aT,aM,cI];exact ih
     rw[this]
    refine⟨fun i=>by rw[jF,hS],fun i hi=>?_,fun j o hj=>?_,fun c e' _=>?_,aR _,fun j o t hj=>?_,fun t v hv _=>hf t v hv,(jt.drew g).ext PB,fun _ _=>rfl,fun k p hp=>?_,fun i _ _=>?_,aK _,hN,rfl⟩
    . rw[hS]at hi;cases hi
    . rw[hS]at hj;cases hj
    . rw[hS];constructor
      . intro q;cases q
      . intro q;omega
    . rw[hS]at hj;cases hj
    . by_cases q:k<s.n
      . exact .inl q
      . rw[hd k S]at hp;cases hp
    . show s.h.get (s.n+i)=none;cases q:s.h.get (s.n+i)with
      |none=>rfl
      |some o=>
       obtain⟨b,t,h1,_⟩:=g.rel _ _ q;rw[hd _ S]at h1;cases h1
   have hu0:Ma ops.size (Array.replicate ops.size false)<=ops.size:=by
    unfold Ma;exact bN (List.length_filter_le _ _) (by simp)
   have gF:=fun(r:Dr ⊕ (I V×V×I es×Nat)) q=>EU (n0:=n0) hr ops.toList 0 _ _ _ r (by simp) PJ q;split at e
   . rename_i d Tj;obtain⟨rfl,rfl⟩:=gr e;obtain⟨val,eA,f⟩:=gF _ Tj;rw[show max 0 ops.size=ops.size by omega]at f;have ht:∀y∈d.dM,s.n+y.1<gO:=fun y hy=>by have:=f.dM y hy;omega
     refine EW lX hr (aK _) f ht (fun _ dF ms iW E a w Tr xu=>?_) (fun q=>by omega) ops.size _ 0 0 E0 a0 _ (by simp) hu0 (start ops.size val eA d.dM);have hJ:iW=eA.length:=by
      have h1:=Tr.Jle;by_cases q:iW<eA.length
      . have he:eA[iW]? =some eA[iW]:=au q;have:=(Tr.El iW _ he).1 (xu _ (f.uj iW _ he).1);omega
      . omega
     have ec1:d.cur.1=(eY s.h (s.n+ops.size) eA iW).1:=by rw[hJ,f.cur]
     have ec2:d.cur.2=(eY s.h (s.n+ops.size) eA iW).2.1:=by rw[hJ,f.cur]
     have en:d.n=(eY s.h (s.n+ops.size) eA iW).2.2:=by rw[hJ,f.n]
     refine hq E a w .normal ?_ Tr.old ?_ ?_ ?_ Tr.size Tr.iZ rfl trivial
     . refine Tr.CH.ext fun k=>?_;simp only[ec1,ec2];have PK:∀i,i<ops.size->eT (2^ops.size-1) i=true:=fun i hi=>by
        unfold eT;rw[dm];simpa using hi
       rcases ju (N:=s.n) (x:=(eY s.h (s.n+ops.size) eA iW).2.1) (m:=(eY s.h (s.n+ops.size) eA iW).1) (iM:=2^ops.size-1) ht f.one k with⟨i,b,k1,k2,k3,k4,k5⟩|⟨k1,k2⟩
       . subst k4;rw[k5,jL ht f.one k1 (by rw[Tr.bits];exact xu i (f.dM _ k1)) k3]
       . rw[k2,od ht fun i b q1 q2 q3=>k1 i b q1 (PK i (f.dM _ q1)) q3]
     . show qK E d.n;rw[en];exact Tr.TU (aK _)
     . show s.n<=d.n;rw[en];have:=Tr.D4;omega
     . intro t v hv;by_cases q:∃j o,j<ops.size/\ops[j]? =some o/\o.dst=some t
       . obtain⟨j,o,q1,q2,q3⟩:=q;have:=f.F.new j o t q1 q2 q3;simp only at hv;rw[this]at hv;cases hv;exact Tr.f1 j o t (xu j q1) q2 q3
       . have:=f.F.old t fun i o hi ho L9=>q ⟨i,o,hi,ho,L9⟩;simp only at hv;rw[this]at hv;exact Tr.f2 t v hv fun j o hj ho L9=>q ⟨j,o,Tr.PG j hj,ho,L9⟩
   . rename_i F v h n Tj;obtain⟨rfl,rfl⟩:=gr e;obtain⟨iy,o,d,val,eA,ho,f,pG⟩:=gF _ Tj;have F7:iy<ops.size:=(aY.1 ho).1;have ht:∀y∈d.dM,s.n+y.1<gO:=fun y hy=>by have:=f.dM y hy;omega
     have BF:fH d.eX o.after.toList=ig ops iy:=by rw[f.eX];unfold ig;rw[ho]
     unfold mc at pG;simp only[BF]at pG;split at pG
     . split at pG<;>cases pG
     . rename_i hw;split at pG
       . rename_i CT;split at pG
         . split at pG
           . split at pG<;>cases pG
           . rename_i gg args hs;split at pG
             . split at pG<;>cases pG
             . rename_i v' h' n' A;split at pG
               . rename_i U;simp only[aq,Sum.inr.injEq,aB]at pG;obtain⟨rfl,rfl,rfl,rfl⟩:=pG;simp only[ay]at U;have Tf:=aJ U.1;have OS:=aJ U.2;have Ix:∀i,i<iy->eT (ig ops iy) i=true:=fun i hi=>by
                  have:ig ops iy=2^iy-1:=by omega
                  rw[this];unfold eT;rw[dm];simpa using hi
                 refine EW lX hr (Nat.le_of_lt F7) f ht (fun q=>by omega) (fun _=>⟨OS,fun dF ms iW E a w o' Tr FV Iy hx=>?_⟩) ops.size _ 0 0 E0 a0 _ (by simp) hu0 (start iy val eA d.dM);rw[ho]at FV;cases FV;have hSl:dF iy=false:=by
                  cases q:dF iy with
                  |false=>rfl
                  |true=>have:=Tr.PG iy q;omega
                 have xu:∀i,i<iy->dF i=true:=fun i hi=>su hr Tr.closed ho Iy (Ix i hi);have hJ:iW=eA.length:=by
                  have h1:=Tr.Jle;by_cases q:iW<eA.length
                  . have he:eA[iW]? =some eA[iW]:=au q;have:=(Tr.El iW _ he).1 (xu _ (f.uj iW _ he).1);omega
                  . omega
                 have ec1:d.cur.1=(eY s.h (s.n+ops.size) eA iW).1:=by rw[hJ,f.cur]
                 have ec2:d.cur.2=(eY s.h (s.n+ops.size) eA iW).2.1:=by rw[hJ,f.cur]
                 have en:d.n=(eY s.h (s.n+ops.size) eA iW).2.2:=by rw[hJ,f.n]
                 rw[ec1,ec2,en]at hs A;have qJ:=Tr.sub hr (Nat.le_of_lt F7) f ht (iM:=ig ops iy) fun k hk=>xu k (Kt hr.wL iy k hk);have EV:=Tr.TU (Nat.le_of_lt F7);unfold wpOpIn;simp only[ho];rw[aF (Tr.wanted hr ho hSl Iy f.F hw)];refine(BU lX (Tr.CH.good.sub qJ) EV (Tr.uS hr ho hSl Iy f.F) hs A fun E' w' q2 q3 q4 q5=>?_);intro v2 hv2;have hcn:=Tr.D4;refine hq E' a w' _ ?_ (fun k hk=>?_) q4 ?_ ?_ Tr.size Tr.iZ rfl ⟨v2,hv2,rfl⟩
                 . refine Tr.CH.trans (jt.frame Tr.CH.good qJ q2 fun k=>?_);simp only;cases hk:h'.get k with
                   |some o'=>rfl
                   |none=>
                    simp only;split
                    . rename_i K;rcases ju (N:=s.n) (x:=(eY s.h (s.n+ops.size) eA iW).2.1) (m:=(eY s.h (s.n+ops.size) eA iW).1) (iM:=ms) ht f.one k with⟨i,b,k1,k2,k3,k4,k5⟩|⟨k1,k2⟩
                      . subst k4;rw[jL ht f.one k1 (Ix i (f.dM _ k1)) k3]at K;cases K
                      . rw[k2];rw[od ht fun i b q1 q2' q3'=>k1 i b q1 (by rw[Tr.bits];exact xu i (f.dM _ q1)) q3']at K;exact K.symm
                    . rfl
                 . rw[q3 k S];exact Tr.old k hk
                 . show s.n<=n';omega
                 . refine oa q2.le ?_;intro t v hv;by_cases q:∃j o,j<iy/\ops[j]? =some o/\o.dst=some t
                   . obtain⟨j,o2,q1,q2,q3⟩:=q;have:=f.F.new j o2 t q1 q2 q3;simp only at hv;rw[this]at hv;cases hv;exact Tr.f1 j o2 t (xu j q1) q2 q3
                   . have:=f.F.old t fun i o2 hi PL L9=>q ⟨i,o2,hi,PL,L9⟩;simp only at hv;rw[this]at hv;exact Tr.f2 t v hv fun j o2 hj PL L9=>q ⟨j,o2,Tr.PG j hj,PL,L9⟩
               . cases pG
             . cases pG
           . cases pG
         . cases pG
       . split at pG
         . split at pG
           . split at pG
             . split at pG
               . cases pG
               . split at pG<;>cases pG
             . split at pG
               . split at pG<;>cases pG
               . cases pG
           . cases pG
         . cases pG
     . cases pG
   . cases e
 . cases e
def PM(E:Env)(x:FuncId×ag×ag)(d:Deferred):Prop:=
 (x.1<gO/\∃c' dZ,eK E x.2.1 c'/\eK E x.2.2 dZ/\d={ target:=.fn (.func x.1) c'.toArray,args:=dZ.toArray }) \/
 (x.1=gO/\∃m b s,x.2.2=[.map (some m)]/\E.ι m=some (b,s)/\d={ target:=.collected b,args:=#[] })
def wM(E:Env):List (FuncId×ag×ag)->List Deferred->Prop
 | [],l=>l=[]
 |x::xs,l=>∃d ys,PM E x d/\wM E xs ys/\l=d::ys
theorem Kv{E E':Env}(h:E.le E'){x:FuncId×ag×ag}{d:Deferred}:PM E x d->PM E' x d:=by
 rintro(⟨K,c',a',r1,r2,q⟩|⟨K,m,b,s,q1,q2,q3⟩)
 . exact .inl ⟨K,c',a',lN h _ _ r1,lN h _ _ r2,q⟩
 . exact .inr ⟨K,m,b,s,q1,(h.nm _ _ _ q2).1,q3⟩
theorem kN{E E':Env}(h:E.le E'):∀(xs:List (FuncId×ag×ag)) (ys:List Deferred),wM E xs ys->wM E' xs ys
 | [],_,r=>r
 |_::xs,_,⟨d,ys,r1,r3,q⟩=>⟨d,ys,Kv h r1,kN h xs ys r3,q⟩
theorem jt.kill{E:Env}{h:I es}{w w':World}{m b s:Nat}(g:Good E h w)(ht:m<gO)(jE:fu h m)(L:E.ι m=some (b,s))
  (EI:w'.heap.size=w.heap.size) (HW:w'.tape=w.tape) (hos:w'.os=w.os) (zM:w'.output=w.output)
  (qh:∀x,x≠b->w'.heap[x]? =w.heap[x]?):jt E h w E (h.set m none) w':=by
 have hs:∀k o,(h.set m none).get k=some o->k≠m/\h.get k=some o:=by
  intro k o hk;rw[I.gC _ _ _ ht]at hk;split at hk
  . cases hk
  . rename_i q;exact⟨q,hk⟩
 have eu:∀k o,(h.set m none).get k=some o->h.get k=some o:=fun k o q=>(hs k o q).2;refine⟨E.le_refl,⟨?_,?_,?_,g.lG,fun b' c q=>⟨by rw[qh b' fun e=>(g.jG b' c q).2 m s jE (e▸L)];exact(g.jG b' c q).1,fun k t hk=>(g.jG b' c q).2 k t (iK eu hk)⟩⟩,S,HW,hos,zM,?_,fun k x t hk e _=>⟨k,t,qi eu hk,e,iK eu⟩,fun _ _ q=>.inl q⟩
 . intro k o hk;obtain⟨jD,hk⟩:=hs k o hk;obtain⟨b',T,h1,C⟩:=g.rel k o hk;have U:b'≠b:=by
    intro U;subst U;exact g.inj m k b' s T (fun q=>jD q.symm) jE (by rw[hk];simp) L h1
   exact⟨b',T,h1,jV E.le_refl rfl (qh b' U) C⟩
 . intro k k' x t t' jD hk rB e e';exact g.inj k k' x t t' jD (iK eu hk) (qi eu rB) e e'
 . intro k x t e;rw[EI];exact g.qG k x t e
 . intro x _ hn;refine qh x ?_;intro K;subst K;exact hn m s jE L
structure lI(E:Env)(n0:Nat)(s:St)(a:Act)(w:World):Prop where
 good:Good E s.h w
 rO:qK E s.n
 F:xk E s.F a
 size:a.tmps.size=n0
 iZ:wM E s.iZ a.defers
def Iz(E:Env)(n0:Nat)(s:St)(w:World)(x:fm)(T:St)(Q:Exit->Act->World->Prop):Prop:=
 ∀E' a' w' x',jt E s.h w E' T.h w'->(∀k,k<s.n->E'.ι k=E.ι k)->s.n<=T.n->lI E' n0 T a' w'->Iw E' x x'->Q x' a' w'
theorem Iz.after{E E1:Env}{n0:Nat}{s s1 T:St}{w w1:World}{x:fm}{Q:Exit->Act->World->Prop}(p:Iz E n0 s w x T Q)(u:jt E s.h w E1 s1.h w1)(gd:∀k,k<s.n->E1.ι k=E.ι k)(hn:s.n<=s1.n):Iz E1 n0 s1 w1 x T Q:=
 fun E' a' w' x' u' PN oy r rx=>p E' a' w' x' (u.trans u') (fun k hk=>by rw[PN k S];exact gd k hk) S r rx
section
variable{P:Program}{cf:gu}{fr n0:Nat}{rN:Option Nat}
theorem lY(lX:iu P cf){ops:Array Oper}:∀(l:List Oper) (s:St) (x:fm) (T:St),(rN=none\/∀o∈l,BR o.op=true)->(∀o∈l,nw n0 o.dst)->jI P cf ops l s=some (x,T)->
  ∀(E:Env) (a:Act) (w:World) (Q:Exit->Act->World->Prop),lI E n0 s a w->Iz E n0 s w x T Q->wpListIn (fz rN) 0 P ops Q l a w
 | [],s,x,T,_,_,e,E,a,w,Q,r,hp=>by
   simp only[jI,aq,aB]at e;obtain⟨rfl,rfl⟩:=e;exact hp E a w .normal (jt.refl r.good) (fun _ _=>rfl) (aK _) r trivial
 |o::rest,s,x,T,wJ,F6,e,E,a,w,Q,r,hp=>by
  have TW:rN=none\/∀o∈rest,BR o.op=true:=wJ.imp _root_.id fun h o ho=>h o (by simp[ho]);have ho:=F6 o (by simp);have yB:∀o∈rest,nw n0 o.dst:=fun o h=>F6 o (by simp[h]);have TX:nw a.tmps.size o.dst:=by rw[r.size];exact ho
  simp only[jI]at e;unfold wpListIn;have IA:∀b,gq ops o s.F=some b->Region.wanted o (yielded ops a.tmps)=b:=fun b U=>xl (E:=E) (fun _ _ _ d _ _ _ v hv=>r.F d v hv) U;have IB:∀y∈o.op.operands,nv E s.F a.eval y:=fun y _=>ny r.good.lG r.F y;split at e
  . rename_i hw;rw[aD (by rw[IA _ hw];simp)];split at e
    . rename_i F rE;refine⟨fun _ _=>trivial,?_⟩;refine lY lX rest _ x T TW yB e E _ w Q ⟨r.good,r.rO,oI r.F rE ⟨[],rfl,rfl⟩ TX,by rw[mq];exact r.size,by rw[kj];exact r.iZ⟩ ?_;exact hp.after (jt.refl r.good) (fun _ _=>rfl) (aK _)
    . cases e
  . rename_i hw;rw[aF (IA _ hw)];split at e
    . rename_i v h n hs;split at e
      . rename_i F rE;refine F1 r.good (r.rO _ (aK _)) IB hs fun E' w' v' q1 q2 q3 q4=>?_;have hn:s.n<=n:=by rcases q4 with⟨rfl,_⟩|rfl<;>omega
        have qt:qK E' n:=by
         rcases q4 with⟨rfl,rfl⟩|rfl
         . exact r.rO
         . intro k hk;rw[q3 k S];exact r.rO k S
        refine lY lX rest _ x T TW yB e E' _ w' Q ⟨q2.good,qt,oI (oa q2.le r.F) rE q1 TX,by rw[mq];exact r.size,by rw[kj];exact kN q2.le _ _ r.iZ⟩ ?_;exact hp.after q2 (fun k hk=>q3 k S) hn
      . cases e
    . rename_i g args hs;split at e
      . rename_i v h n A;split at e
        . rename_i F rE;refine BU lX r.good r.rO IB hs A fun E' w' q2 q3 q4 q5=>?_;intro v' q1;refine lY lX rest _ x T TW yB e E' _ w' Q ⟨q2.good,q4,oI (oa q2.le r.F) rE q1 TX,by rw[mq];exact r.size,by rw[kj];exact kN q2.le _ _ r.iZ⟩ ?_;exact hp.after q2 q3 q5
        . cases e
      . rename_i v h n A;obtain⟨rfl,rfl⟩:=gr e;refine BU lX r.good r.rO IB hs A fun E' w' q2 q3 q4 q5=>?_;intro v' q1;exact hp E' a w' _ q2 q3 q5 ⟨q2.good,q4,oa q2.le r.F,r.size,kN q2.le _ _ r.iZ⟩ ⟨v',q1,rfl⟩
      . cases e
    . rename_i g c args hs;split at e
      case isFalse=>cases e
      rename_i hgt;split at e
      . rename_i F rE;have hrn:rN=none:=by
         rcases wJ with q|q
         . exact q
         . exfalso;have:=q o (by simp);rw[hgt.2]at this;cases this
        refine XY hrn r.good (r.rO _ (aK _)) IB hs fun c' dZ q1 q2=>?_;refine lY lX rest _ x T TW yB e E _ w Q ⟨r.good,r.rO,oI (a:={ a with defers:={ target:=.fn (.func g) c'.toArray,args:=dZ.toArray }::a.defers }) r.F rE ⟨[],rfl,rfl⟩ TX,by rw[mq];exact r.size,by rw[kj];exact⟨_,a.defers,.inl ⟨hgt.1,c',dZ,q1,q2,rfl⟩,r.iZ,rfl⟩⟩ ?_;exact hp.after (jt.refl r.good) (fun _ _=>rfl) (aK _)
      . cases e
    . rename_i v hs;obtain⟨rfl,rfl⟩:=gr e;refine PD r.good (r.rO _ (aK _)) IB hs fun v' q1=>?_;exact hp E a w _ (jt.refl r.good) (fun _ _=>rfl) (aK _) r ⟨v',q1,rfl⟩
    . cases e
    . cases e
  . cases e
theorem sw{E:Env}{F:I V}{a:Act}{c:Operand}{b:Bool}(ge:GE E)(r:xk E F a)(e:jn F c=some (.bool b)):a.eval c= .bool b:=by
 have:=ny ge r c _ e;simpa only[eH]using this
theorem IC(lX:iu P cf){g:Operand}{ps:Array Tmp}{assign body:Code}{s T:St}{x:fm}(mY:fe n0 (.rangeFunc g ps assign body)=true)(e:gY P cf fr (.rangeFunc g ps assign body) s=some (x,T))
  {E:Env} {a:Act} {w:World} {Q:Exit->Act->World->Prop} (r:lI E n0 s a w) (hp:Iz E n0 s w x T Q):(Code.rangeFunc g ps assign body).wpIn (fz none) 0 P Q a w:=by
 simp only[fe,ay]at mY;simp only[gY]at e;split at e
 . rename_i gf lb hg;split at e
   case isFalse=>cases e
   rename_i hq;obtain⟨CL,ir⟩:=hq;obtain⟨f',fi,Wy,Th,hfi,hlb,PO⟩:=ny r.good.lG r.F g _ hg;simp only[AO]at Th;subst Th;simp only[eK]at hfi;subst hfi;refine wpIn_rangeFunc fun fn _=>?_
   let PR:Loop:={ state:=.ready,pending:=none,fn,tmps:=a.tmps,params:=ps,assign,body,defers:=w.heap.size }
   have u1:jt E s.h w (E.put s.n w.heap.size 0 0) (s.h.set s.n (some .uy)) (w.alloc (.deferred (some []))):=jt.alloc (ob:=.deferred (some [])) (o:=.uy) r.good (r.rO _ (aK _)) S heap_alloc_new;have FQ:(E.put s.n w.heap.size 0 0).ι (s.n+1)=none:=by rw[Env.iF S];exact r.rO _ S
   have u2:jt (E.put s.n w.heap.size 0 0) (s.h.set s.n (some .uy)) (w.alloc (.deferred (some []))) ((E.put s.n w.heap.size 0 0).put (s.n+1) (w.alloc (.deferred (some []))).heap.size 0 0) ((s.h.set s.n (some .uy)).set (s.n+1) (some (.loop true none s.F ps.toList assign body))) ((w.alloc (.deferred (some []))).alloc (.loop PR)):=
    jt.alloc (ob:=.loop PR) (o:=.loop true none s.F ps.toList assign body) u1.good FQ ir
     ⟨PR,heap_alloc_new,rfl,rfl,rfl,rfl,rfl,zJ (Env.le_trans u1.le (Env.uW FQ fun m x t e K=>by have:=u1.good.qG m x t e;omega)) r.F,by rw[show PR.tmps.size=n0 from r.size];exact⟨mY.2.1,mY.2.2,fun p hp=>by simpa using bw.1 mY.1 p hp⟩⟩
   rw[World.size_alloc]at u2;revert e;generalize hE2:(E.put s.n w.heap.size 0 0).put (s.n+1) (w.heap.size+1) 0 0=E2 at u2;generalize Tk:(s.h.set s.n (some .uy)).set (s.n+1) (some (.loop true none s.F ps.toList assign body))=C at u2;generalize hW1:(w.alloc (.deferred (some []))).alloc (.loop PR)=W1 at u2;intro e;have PS:E2.ι (s.n+1)=some (w.heap.size+1,0):=by rw[<- hE2];exact Env.gl
   have Em:E2.ι s.n=some (w.heap.size,0):=by rw[<- hE2,Env.iF S];exact Env.gl
   have sA:∀k,k<s.n->E2.ι k=E.ι k:=fun k hk=>by rw[<- hE2,Env.iF S,Env.iF S]
   have adl:qK E2 (s.n+2):=fun k hk=>by
    have hk:s.n+2<=k:=hk;rw[<- hE2,Env.iF S,Env.iF S];exact r.rO k (by show s.n<=k;omega)
   have u12:=u1.trans u2;have ajX:eK E2 lb Wy:=lN u12.le _ _ hlb;have X5:(invoke (.fn (.func gf) Wy.toArray) #[.func (.yield (w.heap.size+1)) #[] #[]]).run P W1= .ok (.enter gf (Value.func (.yield (w.heap.size+1)) #[] #[]::Wy).toArray) W1:=by
    have ajY:=tu (w:=W1) (args:=(Value.func (.yield (w.heap.size+1)) #[] #[]::Wy).toArray) CL;rw[<- ajY];simp[invoke]
   refine⟨w.heap.size+1,[{ target:=.collected w.heap.size,args:=#[] }],W1,{ target:=.fn (.func gf) Wy.toArray,args:=#[.func (.yield (w.heap.size+1)) #[] #[]] },W1,gf,
    (Value.func (.yield (w.heap.size+1)) #[] #[]::Wy).toArray,W1,?_,?_,fun _ _=>trivial,X5,fun hd=>by simp[fz,Fence.wide]at hd,?_⟩
   . rw[<- hW1];exact run_enterLoop_outer _ _ _ _ _
   . simp only[resolve,PO];simp[go_sem]
   . split at e
     case h_2=>cases e
     rename_i v h n A;have Kw:=(lX gf _ C (s.n+2) _ h n A E2 W1 (Value.func (.yield (w.heap.size+1)) #[] #[]::Wy) ⟨_,_,⟨_,[],[],⟨_,_,PS,rfl⟩,rfl,rfl,rfl⟩,ajX,rfl⟩ u2.good adl).1 CL;have TY:CallsIn Fence.wide (0-1) P gf (Value.func (.yield (w.heap.size+1)) #[] #[]::Wy).toArray W1 (rangePost (fz none) 0 P (w.heap.size+1) Q { a with defers:=[{ target:=.collected w.heap.size,args:=#[] }]++a.defers }):=by
      refine callsIn_wide.2 (Kw.mono ?_);rintro en w3 ⟨E3,u3,PT,adm,Mb,ho⟩;cases en with
      |panicked _=>exact ho.elim
      |outgrown=>exact ho.elim
      |returned v'=>
       have hl3:E3.ι (s.n+1)=some (w.heap.size+1,0):=by rw[PT _ S];exact PS
       have hd3:E3.ι s.n=some (w.heap.size,0):=by rw[PT _ S];exact Em
       have oc:∀(st:Bool) (pe:Option Code) (F:I V) (pl:List Nat) (c1 c2:Code),h.get (s.n+1)=some (.loop st pe F pl c1 c2)->
         ∃w4,(Instr.endLoop (w.heap.size+1)).run P w3= .ok pe w4/\
          ∀(y:fm) (s1:St),s1={ s with h:=h.set (s.n+1) none,n:=n,iZ:=(gO,[],[.map (some s.n)])::s.iZ }->Iz E n0 s w y s1 Q->∀y',Iw E3 y y'->Q y' { a with defers:=[{ target:=.collected w.heap.size,args:=#[] }]++a.defers } w4:=by
        intro st pe F pl c1 c2 pF;obtain⟨b,s0,q1,rc,q2,q3,q4,_⟩:=u3.good.rel _ _ pF;rw[hl3]at q1;cases q1;have xw:=run_endLoop (P:=P) q2 (by rw[q3];cases st<;>simp);refine⟨_,xw.trans (aG (fun p=>Result.ok p _) q4),fun y s1 pQ oK y' hy=>?_⟩;have uk:jt E3 h w3 E3 (h.set (s.n+1) none) (w3.putObj (w.heap.size+1) (.loop { rc with state:=.exhausted })):=
         jt.kill u3.good ir ⟨_,pF,rfl⟩ hl3 (by simp) rfl rfl rfl fun x K=>World.putObj_heap_other K
        have TZ:=(u12.trans u3).trans uk;subst pQ;have hsn:s.n<=n:=by omega
        exact oK E3 _ _ y' TZ (fun k hk=>by rw[PT k S];exact sA k hk) hsn
         ⟨TZ.good,adm,oa TZ.le r.F,r.size,⟨_,a.defers,.inr ⟨rfl,s.n,w.heap.size,0,rfl,hd3,rfl⟩,kN TZ.le _ _ r.iZ,rfl⟩⟩ hy
       split at e
       . rename_i hdg hlg;obtain⟨rfl,rfl⟩:=gr e;obtain⟨w4,k1,k2⟩:=oc _ _ _ _ _ _ hlg;exact⟨_,w4,k1,k2 .normal _ rfl hp .normal trivial⟩
       . rename_i hdg hlg;obtain⟨rfl,rfl⟩:=gr e;obtain⟨w4,k1,k2⟩:=oc _ _ _ _ _ _ hlg;exact⟨_,w4,k1,wpIn_ret (k2 .ret _ rfl hp .ret trivial)⟩
       . rename_i id _ _ _ _ hdg hlg;obtain⟨rfl,rfl⟩:=gr e;obtain⟨w4,k1,k2⟩:=oc _ _ _ _ _ _ hlg;exact⟨_,w4,k1,wpIn_exit (k2 (.exit id) _ rfl hp (.exit id) rfl)⟩
       . cases e
     exact TY
 . cases e
theorem lQ(lX:iu P cf)(L:P.follows .mixedOrders=true):∀(c:Code) (s:St) (x:fm) (T:St),(rN=none\/kB c=true)->fe n0 c=true->gY P cf fr c s=some (x,T)->
  ∀(E:Env) (a:Act) (w:World) (Q:Exit->Act->World->Prop),lI E n0 s a w->Iz E n0 s w x T Q->c.wpIn (fz rN) 0 P Q a w:=by
 intro c
 induction c with
 |skip=>
  intro s x T _ _ e E a w Q r hp;simp only[gY,aq,aB]at e;obtain⟨rfl,rfl⟩:=e;exact wpIn_skip (hp E a w .normal (jt.refl r.good) (fun _ _=>rfl) (aK _) r trivial)
 |region id ops Cr=>
  intro s x T wJ mY e E a w Q r hp;simp only[fe,ay]at mY;cases Cr with
  |false=>
   simp only[gY]at e;refine wpIn_region_list (lY lX ops.toList s x T (wJ.imp _root_.id fun q=>by simp only[kB,bw]at q;exact q) (fun o ho d hd=>?_) e E a w Q r hp);have:=bw.1 mY.1 o ho;rw[hd]at this;simpa using this
  |true=>
   simp only[gY]at e;have T0:=CQ (by simpa using mY.2);refine PI lX T0 L e r.good r.rO r.F r.size fun E' a' w' x' u gd qt hn zz nc OU X6 K=>?_;exact hp E' a' w' x' u gd hn ⟨u.good,qt,zz,nc,by rw[X6,OU];exact kN u.le _ _ r.iZ⟩ K
 |seq c1 c2 Px Py=>
  intro s x T wJ mY e E a w Q r hp;simp only[fe,ay]at mY;simp only[gY]at e;refine wpIn_seq ?_;cases h1:gY P cf fr c1 s with
  |none=>simp[h1]at e
  |some p=>
   obtain⟨x1,s1⟩:=p;refine Px s x1 s1 (wJ.imp _root_.id fun q=>by simp only[kB,ay]at q;exact q.1) mY.1 h1 E a w _ r fun E' a' w' x' u gd hn r' K=>?_;cases x1 with
   |normal=>
    simp only[h1]at e;cases x'<;>first|(exact K.elim)|skip
    exact Py s1 x T (wJ.imp _root_.id fun q=>by simp only[kB,ay]at q;exact q.2) mY.2 e E' a' w' Q r' (hp.after u gd hn)
   |exit i=>
    simp only[h1,aq,aB]at e;obtain⟨rfl,rfl⟩:=e;cases x'<;>first|(exact K.elim)|skip
    exact hp E' a' w' _ u gd hn r' K
   |ret=>
    simp only[h1,aq,aB]at e;obtain⟨rfl,rfl⟩:=e;cases x'<;>first|(exact K.elim)|skip
    exact hp E' a' w' _ u gd hn r' K
   |panic v=>
    simp only[h1,aq,aB]at e;obtain⟨rfl,rfl⟩:=e;cases x'<;>first|(exact K.elim)|skip
    exact hp E' a' w' _ u gd hn r' K
 |cond c c1 c2 Px Py=>
  intro s x T wJ mY e E a w Q r hp;simp only[fe,ay]at mY;simp only[gY]at e;split at e
  . rename_i A;exact wpIn_cond_true (sw r.good.lG r.F A) (Px s x T (wJ.imp _root_.id fun q=>by simp only[kB,ay]at q;exact q.1) mY.1 e E a w Q r hp)
  . rename_i A;exact wpIn_cond_false (sw r.good.lG r.F A) (Py s x T (wJ.imp _root_.id fun q=>by simp only[kB,ay]at q;exact q.2) mY.2 e E a w Q r hp)
  . cases e
 |block id c ih=>
  intro s x T wJ mY e E a w Q r hp;simp only[fe]at mY;simp only[gY]at e;refine wpIn_block ?_;cases h1:gY P cf fr c s with
  |none=>simp[h1]at e
  |some p=>
   obtain⟨x1,s1⟩:=p;refine ih s x1 s1 (wJ.imp _root_.id fun q=>by simpa only[kB]using q) mY h1 E a w _ r fun E' a' w' x' u gd hn r' K=>?_;cases x1 with
   |normal=>
    simp only[h1,aq,aB]at e;obtain⟨rfl,rfl⟩:=e;cases x'<;>first|(exact K.elim)|skip
    exact hp E' a' w' .normal u gd hn r' trivial
   |exit i=>
    simp only[h1]at e;cases x'<;>first|(exact K.elim)|skip
    rename_i j;have Pz:i=j:=K;subst Pz;simp only[Exit.inBlock];split at e
    . rename_i q;obtain⟨rfl,rfl⟩:=gr e;rw[aF q];exact hp E' a' w' .normal u gd hn r' trivial
    . rename_i q;obtain⟨rfl,rfl⟩:=gr e;rw[aD q];exact hp E' a' w' (.exit i) u gd hn r' rfl
   |ret=>
    simp only[h1,aq,aB]at e;obtain⟨rfl,rfl⟩:=e;cases x'<;>first|(exact K.elim)|skip
    exact hp E' a' w' .ret u gd hn r' trivial
   |panic v=>
    simp only[h1,aq,aB]at e;obtain⟨rfl,rfl⟩:=e;cases x'<;>first|(exact K.elim)|skip
    exact hp E' a' w' (.panic _) u gd hn r' K
 |loop c ih=>
  intro s x T wJ mY e E a w Q r hp;simp only[fe]at mY;simp only[gY]at e;refine wpIn_loop_rounds fr ?_;have key:∀(k:Nat) (s:St),rounds (gY P cf fr c) k s=some (x,T)->∀(E:Env) (a:Act) (w:World),lI E n0 s a w->Iz E n0 s w x T Q->Code.roundsIn (fz rN) 0 P c Q k a w:=by
   intro k
   induction k with
   |zero=>intro s e;cases e
   |succ k ihk=>
    intro s e E a w r hp;simp only[rounds]at e;rw[roundsIn_succ];cases h1:gY P cf fr c s with
    |none=>simp[h1]at e
    |some p=>
     obtain⟨x1,s1⟩:=p;refine ih s x1 s1 (wJ.imp _root_.id fun q=>by simpa only[kB]using q) mY h1 E a w _ r fun E' a' w' x' u gd hn r' K=>?_;cases x1 with
     |normal=>
      simp only[h1]at e;cases x'<;>first|(exact K.elim)|skip
      exact ihk s1 e E' a' w' r' (hp.after u gd hn)
     |exit i=>
      simp only[h1,aq,aB]at e;obtain⟨rfl,rfl⟩:=e;cases x'<;>first|(exact K.elim)|skip
      exact hp E' a' w' _ u gd hn r' K
     |ret=>
      simp only[h1,aq,aB]at e;obtain⟨rfl,rfl⟩:=e;cases x'<;>first|(exact K.elim)|skip
      exact hp E' a' w' _ u gd hn r' K
     |panic v=>
      simp only[h1,aq,aB]at e;obtain⟨rfl,rfl⟩:=e;cases x'<;>first|(exact K.elim)|skip
      exact hp E' a' w' _ u gd hn r' K
  exact key fr s e E a w r hp
 |exit id=>
  intro s x T _ _ e E a w Q r hp;simp only[gY,aq,aB]at e;obtain⟨rfl,rfl⟩:=e;exact wpIn_exit (hp E a w (.exit id) (jt.refl r.good) (fun _ _=>rfl) (aK _) r rfl)
 |ret=>
  intro s x T _ _ e E a w Q r hp;simp only[gY,aq,aB]at e;obtain⟨rfl,rfl⟩:=e;exact wpIn_ret (hp E a w .ret (jt.refl r.good) (fun _ _=>rfl) (aK _) r trivial)
 |rangeFunc g ps assign body _ _=>
  intro s x T wJ mY e E a w Q r hp;have hrn:rN=none:=by
   rcases wJ with q|q
   . exact q
   . cases q
  subst hrn;exact IC lX mY e r hp
 |scope c _=>intro s x T _ _ e;cases e
 |label l=>intro s x T _ _ e;cases e
 |goto l=>intro s x T _ _ e;cases e
 |refuse w=>intro s x T _ _ e;cases e
def CW(tmps:Array Value):ResultVar->Sem Value
 | .tmp t=>pure (tmps.getD t undef)
 | .cell c t=>do loadVar t (<- asAddr (tmps.getD c undef))
theorem Kx(fn:Func)(tmps:Array Value):results fn tmps=(do
  let vs <- fn.results.mapM (CW tmps)
  pure (if h:vs.size=1 then vs[0]else .tuple vs)):=by
 unfold results;congr 1
theorem A6{E:Env}{h:I es}{w:World}{F:I V}{a:Act}(g:Good E h w)(r:xk E F a):∀(rs:List ResultVar) (vs:ag),lM P F h rs=some vs->
  ∃Wm,(rs.mapM (CW a.tmps)).run P w= .ok Wm w/\eK E vs Wm
 | [],vs,e=>by simp only[lM,aq]at e;subst e;exact⟨[],rfl,rfl⟩
 |x::rs,vs,e=>by
  simp only[lM]at e;cases h1:FI P F h x with
  |none=>simp[h1]at e
  |some v=>cases C:lM P F h rs with
   |none=>simp[h1,C]at e
   |some us=>
    simp only[h1,C,aq]at e;subst e;obtain⟨us',q1,q2⟩:=A6 g r rs us C;have hv:∃v',(CW a.tmps x).run P w= .ok v' w/\eH E v v':=by
     cases x with
     |tmp t=>
      obtain⟨v',p1,p2⟩:=r t v h1;exact⟨v',by simp[CW,p1],p2⟩
     |cell c t=>
      simp only[FI]at h1;split at h1
      . rename_i u hu;obtain⟨u',p1,p2⟩:=r c u hu;obtain⟨b,sh,rfl,v',p3,p4⟩:=Cw (P:=P) g p2 h1;refine⟨v',?_,p4⟩;simp[CW,p1,asAddr,p3]
      . cases h1
    obtain⟨v',p1,p2⟩:=hv;refine⟨v'::us',?_,v',us',p2,q2,rfl⟩;rw[List.mapM_cons];simp only[Sem.run_bind,p1,q1,Result.andThen_ok,Sem.run_pure]
theorem A8{E:Env}{h:I es}{w:World}{F:I V}{a:Act}{fn:Func}{vs:ag}(g:Good E h w)(r:xk E F a)(e:lM P F h fn.results.toList=some vs):
  ∃v',(results fn a.tmps).run P w= .ok v' w/\eH E (oneOf vs) v':=by
 obtain⟨Wm,q1,q2⟩:=A6 (P:=P) g r fn.results.toList vs e;have gF:(results fn a.tmps).run P w= .ok (if h:Wm.toArray.size=1 then Wm.toArray[0]else .tuple Wm.toArray) w:=by
  rw[Kx,Array.mapM_eq_mapM_toList];simp only[Sem.run_bind,Sem.run_map,q1,Result.andThen_ok,Sem.run_pure]
 refine⟨_,gF,?_⟩
 match vs,q2 with
 | [],q2=>simp only[eK]at q2;subst q2;exact⟨[],rfl,rfl⟩
 | [v],q2=>
   obtain⟨y,ys,p1,p2,rfl⟩:=q2;simp only[eK]at p2;subst p2;exact p1
 |u::v::us,q2=>
  have PS:=fE q2;rw[dif_neg (by simp only[List.size_toArray,PS,aN];omega)];exact⟨Wm,q2,rfl⟩
end
def En(E:Env):Mode->FrameMode->Prop
 | .ret,.returning=>True
 | .nI v b,.panicking chain=>∃v',eH E v v'/\chain=[{ v:=v',recovered:=b }]
 |_,_=>False
theorem EX{E E':Env}(h:E.le E'):∀{m:Mode} {u:FrameMode},En E m u->En E' m u
 | .ret,.returning,_=>trivial
 | .nI _ _,.panicking _,⟨v',r,q⟩=>⟨v',jU h _ _ r,q⟩
 | .ret,.run,r=>r.elim
 | .ret,.panicking _,r=>r.elim
 | .nI _ _,.run,r=>r.elim
 | .nI _ _,.returning,r=>r.elim
def EY(E:Env)(n0:Nat)(s:St)(w:World)(x:fm)(T:St)(m':Mode)(mZ:Frame)(cs:List Frame)(Q:Exit->Act->List Frame->World->Prop):Prop:=
 ∀E' a' w' x' u',jt E s.h w E' T.h w'->(∀k,k<s.n->E'.ι k=E.ι k)->s.n<=T.n->lI E' n0 T a' w'->Iw E' x x'->En E' m' u'->Q x' a' ({ mZ with mode:=u' }::cs) w'
theorem EY.after{E E1:Env}{n0:Nat}{s s1 T:St}{w w1:World}{x:fm}{m':Mode}{mZ:Frame}{cs:List Frame}{Q:Exit->Act->List Frame->World->Prop}(p:EY E n0 s w x T m' mZ cs Q)(u:jt E s.h w E1 s1.h w1)
  (gd:∀k,k<s.n->E1.ι k=E.ι k) (hn:s.n<=s1.n):EY E1 n0 s1 w1 x T m' mZ cs Q:=
 fun E' a' w' x' u2 u' PN oy r rx rm=>p E' a' w' x' u2 (u.trans u') (fun k hk=>by rw[PN k S];exact gd k hk) S r rx rm
section
variable{P:Program}{cf:gu}{fr n0:Nat}
theorem F8(k n:Nat):List.range' k (n+1)=k::List.range' (k+1) n:=by simp[List.range'_succ]
theorem qu{ops:Array Oper}(mZ:Frame)(cs:List Frame):∀(l:List Oper) (k:Nat) (s:St) (m:Mode) (x:fm) (T:St) (m':Mode),(∀j,l[j]? =ops[k+j]?)->(∀o∈l,nw n0 o.dst)->qP P cf ops l s m=some (x,T,m')->
  ∀(E:Env) (a:Act) (w:World) (u:FrameMode) (Q:Exit->Act->List Frame->World->Prop),lI E n0 s a w->En E m u->EY E n0 s w x T m' mZ cs Q->
   wpOpsS P ops Q (List.range' k l.length) a ({ mZ with mode:=u }::cs) w
 | [],k,s,m,x,T,m',_,_,e,E,a,w,u,Q,r,rm,hp=>by
   simp only[qP,aq,aB]at e;obtain⟨rfl,rfl,rfl⟩:=e;exact hp E a w .normal u (jt.refl r.good) (fun _ _=>rfl) (aK _) r trivial rm
 |o::rest,k,s,m,x,T,m',pF,F6,e,E,a,w,u,Q,r,rm,hp=>by
  have ho:=F6 o (by simp);have yB:∀o∈rest,nw n0 o.dst:=fun o h=>F6 o (by simp[h]);have TX:nw a.tmps.size o.dst:=by rw[r.size];exact ho
  have hgr:∀j,rest[j]? =ops[k+1+j]?:=fun j=>by have:=pF (j+1);simpa[Nat.add_assoc,Nat.add_comm 1 j]using this
  have mY:ops[k]? =some o:=by have:=pF 0;simpa using this.symm
  simp only[qP]at e;simp only[aN,F8,wpOpsS,mY];have IA:∀b,gq ops o s.F=some b->Region.wanted o (yielded ops a.tmps)=b:=fun b U=>xl (E:=E) (fun _ _ _ d _ _ _ v hv=>r.F d v hv) U;have IB:∀y∈o.op.operands,nv E s.F a.eval y:=fun y _=>ny r.good.lG r.F y;split at e
  . rename_i hw;rw[aD (by rw[IA _ hw];simp)];split at e
    . rename_i F rE;exact qu mZ cs rest (k+1) _ m x T m' hgr yB e E _ w u Q ⟨r.good,r.rO,oI r.F rE ⟨[],rfl,rfl⟩ TX,by rw[mq];exact r.size,by rw[kj];exact r.iZ⟩ rm (hp.after (jt.refl r.good) (fun _ _=>rfl) (aK _))
    . cases e
  . rename_i hw;rw[aF (IA _ hw)];split at e
    . rename_i v h n hs;split at e
      . rename_i F rE;obtain⟨E',w',v',gF,q1,q2,q3,q4⟩:=n8 r.good (r.rO _ (aK _)) IB hs;have hn:s.n<=n:=by rcases q4 with⟨rfl,_⟩|rfl<;>omega
        have qt:qK E' n:=by
         rcases q4 with⟨rfl,rfl⟩|rfl
         . exact r.rO
         . intro k hk;rw[q3 k S];exact r.rO k S
        have yq:=qu mZ cs rest (k+1) _ m x T m' hgr yB e E' (a.put o.dst v') w' u Q ⟨q2.good,qt,oI (oa q2.le r.F) rE q1 TX,by rw[mq];exact r.size,by rw[kj];exact kN q2.le _ _ r.iZ⟩ (EX q2.le rm)
         (hp.after q2 (fun k hk=>q3 k S) hn)
        rcases gF with gF|⟨gF,rfl⟩
        . rw[gF];simp only[Oper.upon_value];exact yq
        . rw[gF];simp only[Oper.upon_skip];exact yq
      . cases e
    . rename_i hs;have gF:=n8 r.good (r.rO _ (aK _)) IB hs;simp only[ku]at gF;rw[gF];simp only;split at e
      . rename_i v;split at e
        . rename_i F rE;cases u with
          |panicking chain=>
           obtain⟨v',q1,rfl⟩:=rm;simp only[recoverD];exact qu mZ cs rest (k+1) _ (.nI v true) x T m' hgr yB e E (a.put o.dst v') w (.panicking [{ v:=v',recovered:=true }]) Q ⟨r.good,r.rO,oI r.F rE q1 TX,by rw[mq];exact r.size,by rw[kj];exact r.iZ⟩ ⟨v',q1,rfl⟩
            (hp.after (jt.refl r.good) (fun _ _=>rfl) (aK _))
          |run=>exact rm.elim
          |returning=>exact rm.elim
        . cases e
      . rename_i hnp;split at e
        . rename_i F rE;have Mc:recoverD ({ mZ with mode:=u }::cs)=none:=by
           cases m with
           |ret=>cases u<;>first|(exact rm.elim)|rfl
           |nI v b=>
            cases b with
            |false=>exact absurd rfl (hnp v)
            |true=>
             cases u with
             |panicking chain=>obtain⟨v',q1,rfl⟩:=rm;rfl
             |run=>exact rm.elim
             |returning=>exact rm.elim
          rw[Mc];exact qu mZ cs rest (k+1) _ m x T m' hgr yB e E (a.put o.dst .nilIface) w u Q ⟨r.good,r.rO,oI r.F rE rfl TX,by rw[mq];exact r.size,by rw[kj];exact r.iZ⟩ rm (hp.after (jt.refl r.good) (fun _ _=>rfl) (aK _))
        . cases e
    . cases e
  . cases e
section
variable{c:Operand}{x y:Code}{a:Act}
theorem Eo{cs:List Frame}{w:World}{Q:Exit->Act->List Frame->World->Prop}(A:a.eval c= .bool true)(h:x.wpS P Q a cs w):(Code.cond c x y).wpS P Q a cs w:=wpS_cond A h
theorem CY{cs:List Frame}{w:World}{Q:Exit->Act->List Frame->World->Prop}(A:a.eval c= .bool false)(h:y.wpS P Q a cs w):(Code.cond c x y).wpS P Q a cs w:=wpS_cond A h
end
theorem A9(lX:iu P cf)(L:P.follows .mixedOrders=true){c:Code}{s T:St}{x:fm}{m m':Mode}(mY:fe n0 c=true)(e:(match gY P cf fr c s with|some (x,T)=>some (x,T,m)|none=>none)=some (x,T,m'))
  {mZ:Frame} {cs:List Frame} {E:Env} {a:Act} {w:World} {u:FrameMode} {Q:Exit->Act->List Frame->World->Prop} (r:lI E n0 s a w) (rm:En E m u) (hp:EY E n0 s w x T m' mZ cs Q):c.wpS P Q a ({ mZ with mode:=u }::cs) w:=by
 cases h1:gY P cf fr c s with
 |none=>simp[h1]at e
 |some p=>
  obtain⟨x1,s1⟩:=p;simp only[h1,aq,aB]at e;obtain⟨rfl,rfl,rfl⟩:=e;exact wpS_of_wp (wpIn_wide.1 (lQ (rN:=none) lX L c s x1 s1 (.inl rfl) mY h1 E a w _ r fun E' a' w' x' u' gd hn r' K=>hp E' a' w' x' u u' gd hn r' K (EX u'.le rm)))
theorem Ba(lX:iu P cf)(L:P.follows .mixedOrders=true)(mZ:Frame)(cs:List Frame):∀(c:Code) (s:St) (m:Mode) (x:fm) (T:St) (m':Mode),fe n0 c=true->ud P cf fr c s m=some (x,T,m')->
  ∀(E:Env) (a:Act) (w:World) (u:FrameMode) (Q:Exit->Act->List Frame->World->Prop),lI E n0 s a w->En E m u->EY E n0 s w x T m' mZ cs Q->c.wpS P Q a ({ mZ with mode:=u }::cs) w:=by
 intro c
 induction c with
 |region id ops Cr=>
  intro s m x T m' mY e E a w u Q r rm hp;cases Cr with
  |false=>
   simp only[ud]at e;have T1:=mY;simp only[fe,ay]at T1;have:=qu (P:=P) (cf:=cf) (ops:=ops) mZ cs ops.toList 0 s m x T m' (fun j=>by simp) (fun o ho d hd=>by
    have:=bw.1 T1.1 o ho;rw[hd]at this;simpa using this) e E a w u Q r rm hp
   exact wpS_region (by rw[List.range_eq_range',<- Array.length_toList];exact this)
  |true=>
   simp only[ud]at e;exact A9 (fr:=fr) lX L mY e r rm hp
 |seq c1 c2 Px Py=>
  intro s m x T m' mY e E a w u Q r rm hp;simp only[fe,ay]at mY;simp only[ud]at e;refine wpS_seq ?_;cases h1:ud P cf fr c1 s m with
  |none=>simp[h1]at e
  |some p=>
   obtain⟨x1,s1,m1⟩:=p;refine Px s m x1 s1 m1 mY.1 h1 E a w u _ r rm fun E' a' w' x' u1 uu gd hn r' K NK=>?_;cases x1 with
   |normal=>
    simp only[h1]at e;cases x'<;>first|(exact K.elim)|skip
    exact Py s1 m1 x T m' mY.2 e E' a' w' u1 Q r' NK (hp.after uu gd hn)
   |exit i=>
    simp only[h1,aq,aB]at e;obtain⟨rfl,rfl,rfl⟩:=e;cases x'<;>first|(exact K.elim)|skip
    exact hp E' a' w' _ u1 uu gd hn r' K NK
   |ret=>
    simp only[h1,aq,aB]at e;obtain⟨rfl,rfl,rfl⟩:=e;cases x'<;>first|(exact K.elim)|skip
    exact hp E' a' w' _ u1 uu gd hn r' K NK
   |panic v=>
    simp only[h1,aq,aB]at e;obtain⟨rfl,rfl,rfl⟩:=e;cases x'<;>first|(exact K.elim)|skip
    exact hp E' a' w' _ u1 uu gd hn r' K NK
 |cond c c1 c2 Px Py=>
  intro s m x T m' mY e E a w u Q r rm hp;simp only[fe,ay]at mY;simp only[ud]at e;split at e
  . rename_i A;exact Eo (sw r.good.lG r.F A) (Px s m x T m' mY.1 e E a w u Q r rm hp)
  . rename_i A;exact CY (sw r.good.lG r.F A) (Py s m x T m' mY.2 e E a w u Q r rm hp)
  . cases e
 |_=>
  intro s m x T m' mY e E a w u Q r rm hp;simp only[ud]at e;exact A9 (fr:=fr) lX L mY e r rm hp
theorem Bb:∀(vs:ag) (i:Nat) (t:I V) (k:Nat),i+vs.length<gO->(mE vs i t).get k=if i<=k/\k<i+vs.length then vs[k-i]? else t.get k
 | [],i,t,k,_=>by simp only[mE,cm];rw[aD S]
 |v::vs,i,t,k,h=>by
  simp only[aN]at h;simp only[mE,aN];rw[Bb vs (i+1) _ k S,I.gC _ _ _ S];by_cases q:k=i
  . subst q;rw[aD S,aF rfl,aF S];simp
  . rw[aD q];by_cases q2:i+1<=k/\k<i+1+vs.length
    . rw[aF q2,aF S];have:k-i=(k-(i+1))+1:=by omega
      rw[this];simp
    . rw[aD q2,aD S]
theorem qv{E:Env}{args:ag}{dZ:List Value}{n:Nat}(r:eK E args dZ)(hn:args.length<=n)(ht:n<gO):
  xk E (mE args 0 .nil) { tmps:=dZ.toArray++Array.replicate (n-dZ.toArray.size) undef,defers:=[] }/\(dZ.toArray++Array.replicate (n-dZ.toArray.size) undef).size=n:=by
 have hl:=fE r;refine⟨fun t v hv=>?_,by simp;omega⟩;rw[Bb args 0 .nil t S]at hv;split at hv
 . rename_i hi;obtain⟨v',h1,C⟩:=iq r _ v hv;refine⟨v',?_,C⟩;simp only[dz]at h1;rw[cP (by simp;omega)];simpa using h1
 . cases hv
def kn(P:Program):Bool:=P.funcs.toList.all fun fn=>match fn.body with|some c=>fe fn.ntmps c|none=>true
theorem Bc(h:kn P=true){f:FuncId}{fn:Func}{c:Code}(hf:P.funcs[f]? =some fn)(U:fn.body=some c):fe fn.ntmps c=true:=by
 unfold kn at h;have:=bw.1 h fn (by rw[<- bU]at hf;exact List.mem_of_getElem? hf);rw[U]at this;exact this
theorem BG{f:FuncId}{fn:Func}{c:Code}{args:Array Value}{u:FrameMode}{w:World}{iX:Ending->FrameMode->World->Prop}
  (hf:P.funcs[f]? =some fn) (U:fn.body=some c)
  (h:∀(mZ:Frame) (cs:List Frame),mZ.mode=u->
   c.wpS P (bodyPostS P fn mZ cs iX) { tmps:=args++Array.replicate (fn.ntmps-args.size) undef,defers:=[] } (mZ::cs) w):
  CallsDIn Fence.wide (0-1) P f args u w iX:=by
 refine⟨trivial,fun mZ cs hu _=>?_⟩
 let b:Frame:={ (default:Frame)with fn:=f,kind:=.deferred }
 have X7:Frame.enter P f args .deferred=
   b.at { tmps:=args++Array.replicate (fn.ntmps-args.size) undef,defers:=[] } [.code c]:=by
  simp[Frame.enter,Frame.at,hf,U,b]
 obtain⟨e,a',cs',w',hq,PU⟩:=h mZ cs hu b [] rfl rfl;rw[<- X7]at PU;cases e with
 |normal=>
  obtain⟨hd,u',rfl,v,hr,hR⟩:=hq;exact⟨.returned v,u',w',_,hR,comesIn_wide.2 (Steps.trans PU (.one step_end)),rfl,rfl,rfl,hd,fn,hf,hr⟩
 |ret=>
  obtain⟨hd,u',rfl,v,hr,hR⟩:=hq;obtain⟨aj0,hs⟩:=PU;exact⟨.returned v,u',w',_,hR,comesIn_wide.2 hs,rfl,rfl,rfl,hd,fn,hf,hr⟩
 |panic chain=>
  obtain⟨hd,u',rfl,hR⟩:=hq;obtain⟨aj0,hs⟩:=PU;exact⟨.panicked chain,u',w',_,hR,comesIn_wide.2 hs,rfl,rfl,rfl,hd,fn,hf⟩
 |exit id=>exact hq.elim
 |goto l=>exact hq.elim
 |outgrown=>
  obtain⟨u',hR⟩:=hq;exact⟨.outgrown,u',w',b,hR,comesIn_wide.2 (PU.resolve_left (by simp[b])),rfl,rfl,trivial⟩
theorem oL(lX:iu P cf)(L:P.follows .mixedOrders=true)(sW:kn P=true){fn:Func}{F:I V}{a:Act}:∀(ds:List (FuncId×ag×ag)) (m:Mode) (h:I es) (n:Nat) (sV:qb) (h':I es) (n':Nat),
  nj P cf fr fn F ds m h n=some (sV,h',n')->∀(E:Env) (w:World) (ds':List Deferred) (u:FrameMode) (iX:Ending->World->Prop),Good E h w->qK E n->xk E F a->wM E ds ds'->En E m u->
   (∀E' w' en,jt E h w E' h' w'->(∀k,k<n->E'.ι k=E.ι k)->qK E' n'->n<=n'->xm E' sV en->iX en w')->LeavesInM Fence.wide 0 P fn a.tmps iX ds' u w
 | [],m,h,n,sV,h',n',e,E,w,ds',u,iX,g,hd,hf,Tj,rm,hR=>by
   simp only[wM]at Tj;subst Tj;cases m with
   |ret=>
    cases u<;>first|(exact rm.elim)|skip
    simp only[nj]at e;split at e
    . rename_i vs hr;simp only[aq,aB]at e;obtain⟨rfl,rfl,rfl⟩:=e;obtain⟨v',h1,C⟩:=A8 (P:=P) g hf hr;exact⟨v',h1,hR E w _ (jt.refl g) (fun _ _=>rfl) hd (aK _) C⟩
    . cases e
   |nI v b=>
    cases u with
    |panicking chain=>
     obtain⟨v',q1,rfl⟩:=rm;cases b with
     |false=>
      simp only[nj,aq,aB]at e;obtain⟨rfl,rfl,rfl⟩:=e;exact hR E w _ (jt.refl g) (fun _ _=>rfl) hd (aK _) ⟨v',q1,rfl⟩
     |true=>cases e
    |run=>exact rm.elim
    |returning=>exact rm.elim
 |(gf,c,args)::ds,m,h,n,sV,h',n',e,E,w,ds',u,iX,g,hd,hf,Tj,rm,hR=>by
  obtain⟨d,ys,Tm,r3,rfl⟩:=Tj;simp only[nj]at e;have ado:u≠ .run:=by intro q;subst q;cases m<;>exact rm.elim
  split at e
  ·
   rename_i ir;rcases Tm with⟨q,_⟩|⟨_,m0,b,s0,ha,jP,rfl⟩
   . exact absurd q (Nat.not_lt.2 ir)
   simp only at ha;subst ha;simp only at e;split at e
   . rename_i OU;split at e
     . rename_i fj;obtain⟨b',T,q1,q2⟩:=g.rel _ _ OU;rw[jP]at q1;cases q1;have uk:jt E h w E (h.set m0 none) (w.putObj b (.deferred none)):=jt.kill g fj ⟨_,OU,rfl⟩ jP (by simp) rfl rfl rfl fun x K=>World.putObj_heap_other K;exact⟨ado,.inl ⟨b,_,rfl,run_takeDeferred q2,oL lX L sW ds m _ n sV h' n' e E _ ys u iX uk.good hd hf r3 rm fun E2 w2 en u2 sA Em qQ ho=>hR E2 w2 en (uk.trans u2) sA Em qQ ho⟩⟩
     . cases e
   . cases e
  rename_i ir;obtain⟨c',dZ,r1,r2,rfl⟩:∃c' dZ,eK E c c'/\eK E args dZ/\d={ target:=.fn (.func gf) c'.toArray,args:=dZ.toArray }:=by
   rcases Tm with⟨_,q⟩|⟨q,_⟩
   . exact q
   . exact absurd (Nat.le_of_eq q.symm) ir
  split at e
  . rename_i gn hgn;split at e
    . rename_i code U;split at e
      . rename_i hq;obtain⟨CL,jJ,ir⟩:=hq;have hvr:=jg r2 r1;obtain⟨zz,nc⟩:=qv (n:=gn.ntmps) hvr jJ ir;have EZ:=Bc sW hgn U;have next:∀(T:St) (m':Mode) (vs:ag),T.iZ=[]->lM P T.F T.h gn.results.toList=some vs->nj P cf fr fn F ds (match m' with | .nI _ true=>.ret|m=>m) T.h T.n=some (sV,h',n')->
          ∀E' (a':Act) w' u',jt E h w E' T.h w'->(∀k,k<n->E'.ι k=E.ι k)->n<=T.n->lI E' gn.ntmps T a' w'->En E' m' u'->
          a'.defers=[]/\∃v,(results gn a'.tmps).run P w'= .ok v w'/\LeavesInM Fence.wide 0 P fn a.tmps iX ys (settle u') w':=by
         intro T m' vs OU XL FO E' a' w' u' uu gd hn r' NK;have aj1:a'.defers=[]:=by have:=r'.iZ;rw[OU]at this;exact this
         obtain⟨v',p1,p2⟩:=A8 (P:=P) r'.good r'.F XL;refine⟨aj1,v',p1,?_⟩;refine oL lX L sW ds _ T.h T.n sV h' n' FO E' w' ys (settle u') iX r'.good r'.rO (oa uu.le hf) (kN uu.le _ _ r3) ?_ fun E2 w2 en u2 sA Em qQ ho=>hR E2 w2 en (uu.trans u2) (fun k hk=>by rw[sA k S];exact gd k hk) Em S ho;cases m' with
         |ret=>cases u'<;>first|(exact NK.elim)|trivial
         |nI v b=>
          cases u' with
          |panicking chain=>
           obtain⟨v2,q1,rfl⟩:=NK;cases b with
           |false=>exact⟨v2,q1,rfl⟩
           |true=>trivial
          |run=>exact NK.elim
          |returning=>exact NK.elim
        have X5:(invoke (.fn (.func gf) c'.toArray) dZ.toArray).run P w= .ok (.enter gf (dZ++c').toArray) w:=by
         simp only[invoke];have:dZ.toArray++c'.toArray=(dZ++c').toArray:=by simp
         rw[this];exact tu CL
        refine⟨ado,.inr ⟨fun hd=>by simp[Fence.wide]at hd,_,_,gf,_,rfl,X5,fun _ _=>trivial,BG hgn U fun mZ cs adp=>?_⟩⟩;have ug:mZ={ mZ with mode:=u }:=by subst adp;rfl
        rw[ug];have NM:lI E gn.ntmps { F:=mE (args++c) 0 .nil,h:=h,n:=n,iZ:=[] } { tmps:=(dZ++c').toArray++Array.replicate (gn.ntmps-(dZ++c').toArray.size) undef,defers:=[] } w:=⟨g,hd,zz,nc,rfl⟩;split at e
        . rename_i T m' K;split at e
          . rename_i OU;split at e
            . rename_i vs XL;refine Ba lX L mZ cs code _ m .normal T m' EZ K E _ w u _ NM rm fun E' a' w' x' u' uu gd hn r' pS NK=>?_;cases x'<;>first|(exact pS.elim)|skip
              obtain⟨k1,v,k2,k3⟩:=next T m' vs OU XL e E' a' w' u' uu gd hn r' NK
              exact⟨k1,u',rfl,v,k2,k3⟩
            . cases e
          . cases e
        . rename_i T m' K;split at e
          . rename_i OU;split at e
            . rename_i vs XL;refine Ba lX L mZ cs code _ m .ret T m' EZ K E _ w u _ NM rm fun E' a' w' x' u' uu gd hn r' pS NK=>?_;cases x'<;>first|(exact pS.elim)|skip
              obtain⟨k1,v,k2,k3⟩:=next T m' vs OU XL e E' a' w' u' uu gd hn r' NK
              exact⟨k1,u',rfl,v,k2,k3⟩
            . cases e
          . cases e
        . cases e
      . cases e
    . cases e
  . cases e
theorem ID(lX:iu P cf)(L:P.follows .mixedOrders=true)(sW:kn P=true){f:FuncId}{args:ag}{h:I es}{n:Nat}{sV:qb}{h':I es}{n':Nat}(e:enter P cf fr f args h n=some (sV,h',n'))
  {E:Env} {w:World} {dZ:List Value} (ra:eK E args dZ) (g:Good E h w) (hd:qK E n):Calls P f dZ.toArray w (jx E h n w sV h' n'):=by
 unfold enter at e;split at e
 . rename_i fn hf;split at e
   . rename_i code U;split at e
     . rename_i hq;obtain⟨zz,nc⟩:=qv (n:=fn.ntmps) ra hq.1 hq.2;have EZ:=Bc sW hf U;have NM:lI E fn.ntmps { F:=mE args 0 .nil,h:=h,n:=n,iZ:=[] } { tmps:=dZ.toArray++Array.replicate (fn.ntmps-dZ.toArray.size) undef,defers:=[] } w:=⟨g,hd,zz,nc,rfl⟩;refine callsIn_wide.1 (callsIn_of_wp_marks (n:=0) hf U trivial ?_);have oc:∀(s:St) (m:Mode) (u:FrameMode) (E':Env) (a':Act) (w':World),nj P cf fr fn s.F s.iZ m s.h s.n=some (sV,h',n')->jt E h w E' s.h w'->(∀k,k<n->E'.ι k=E.ι k)->n<=s.n->lI E' fn.ntmps s a' w'->En E' m u->
         LeavesInM Fence.wide 0 P fn a'.tmps (jx E h n w sV h' n') a'.defers u w':=by
        intro s m u E' a' w' hl uu gd hn r' rm;exact oL lX L sW s.iZ m s.h s.n sV h' n' hl E' w' a'.defers u _ r'.good r'.rO r'.F r'.iZ rm fun E2 w2 en u2 sA Em qQ ho=>⟨E2,uu.trans u2,fun k hk=>by rw[sA k S];exact gd k hk,Em,S,ho⟩
       split at e
       . rename_i s K;refine lQ (rN:=none) lX L code _ _ s (.inl rfl) EZ K E _ w _ NM fun E' a' w' x' uu gd hn r' pS=>?_;cases x'<;>first|(exact pS.elim)|skip
         exact oc s .ret .returning E' a' w' e uu gd hn r' trivial
       . rename_i s K;refine lQ (rN:=none) lX L code _ _ s (.inl rfl) EZ K E _ w _ NM fun E' a' w' x' uu gd hn r' pS=>?_;cases x'<;>first|(exact pS.elim)|skip
         exact oc s .ret .returning E' a' w' e uu gd hn r' trivial
       . rename_i v s K;refine lQ (rN:=none) lX L code _ _ s (.inl rfl) EZ K E _ w _ NM fun E' a' w' x' uu gd hn r' pS=>?_;cases x'<;>first|(exact pS.elim)|skip
         exact oc s (.nI v false) _ E' a' w' e uu gd hn r' pS
       . cases e
     . cases e
   . cases e
 . cases e
theorem CZ{E:Env}:∀(ps:List Nat) (args:ag) (dZ:List Value) (F L5:I V) (t:Array Value),wX (J6 ps args) F=some L5->eK E args dZ->(∀p∈ps,p<t.size)->Pe E F t->
  Pe E L5 ((ps.zip dZ).foldl (fun t (p,v)=>t.setIfInBounds p v) t)/\((ps.zip dZ).foldl (fun t (p,v)=>t.setIfInBounds p v) t).size=t.size
 | [],args,dZ,F,L5,t,e,_,_,r=>by simp only[J6,wX,aq]at e;subst e;exact⟨by simpa using r,by simp⟩
 |p::ps,[],dZ,F,L5,t,e,ra,_,r=>by
  simp only[J6,wX,aq]at e;subst e;simp only[eK]at ra;subst ra;exact⟨by simpa using r,by simp⟩
 |p::ps,v::vs,dZ,F,L5,t,e,ra,hp,r=>by
  obtain⟨y,ys,r0,rs,rfl⟩:=ra;simp only[J6,wX]at e;split at e
  . rename_i fj;have hpt:=hp p (by simp);have C:=CZ ps vs ys _ L5 (t.setIfInBounds p y) e rs (fun q hq=>by simpa using hp q (by simp[hq])) (fun k x K=>by
     rw[I.gC _ _ _ fj]at K;by_cases q:k=p
     . subst q;rw[aF rfl]at K;cases K;exact⟨y,by simp[hpt],r0⟩
     . rw[aD q]at K;obtain⟨x',k1,k2⟩:=r k x K;exact⟨x',by rw[Array.getElem?_setIfInBounds_ne (Ne.symm q)];exact k1,k2⟩)
    simp only[List.zip_cons_cons,List.foldl_cons];exact⟨C.1,by rw[C.2];simp⟩
  . cases e
theorem NN(ps:Array Nat)(args:List Value)(t:Array Value):(ps.zip args.toArray).foldl (fun t (p,v)=>t.setIfInBounds p v) t=(ps.toList.zip args).foldl (fun t (p,v)=>t.setIfInBounds p v) t:=by
 rw[<- Array.foldl_toList];congr 1;simp
theorem IE(lX:iu P cf)(L:P.follows .mixedOrders=true){m:Nat}{args:ag}{h:I es}{n:Nat}{sV:qb}{h':I es}{n':Nat}(e:wY P cf fr m args h n=some (sV,h',n'))
  {E:Env} {w:World} {dZ:List Value} (ra:eK E args dZ) (g:Good E h w) (hd:qK E n) {l s0:Nat} (jP:E.ι m=some (l,s0)):YieldAt Fence.wide 0 P l dZ.toArray w (jx E h n w sV h' n'):=by
 unfold wY at e;split at e
 case h_2=>cases e
 rename_i F ps assign body pF;split at e
 case isFalse=>cases e
 rename_i hq;obtain⟨hmt,wJ,hpa,hpb⟩:=hq;split at e
 case h_2=>cases e
 rename_i L5 rE;obtain⟨b,T,q1,r,U,wm,hpe,wo,aj4,aj5,htr,X8,adq,adr⟩:=g.rel _ _ pF;rw[jP]at q1;cases q1;simp only[if_true]at wm;subst wo;subst aj4;subst aj5;have hlw:l<w.heap.size:=(aY.1 U).1;have hwm:fu h m:=⟨_,pF,rfl⟩;have gF:=run_yield (P:=P) (args:=dZ.toArray) U (by simp[fE ra,<- wJ]);refine⟨_,_,_,_,gF,roundIn_of_wpIn trivial ?_⟩;rw[NN];obtain⟨aj6,Eh⟩:=CZ r.params.toList args dZ F L5 r.tmps rE ra adr htr;have qJ:∀k o,(h.set m none).get k=some o->k≠m/\h.get k=some o:=by
  intro k o hk;rw[I.gC _ _ _ hmt]at hk;split at hk
  . cases hk
  . rename_i q;exact⟨q,hk⟩
 have C0:∀k o,(h.set m none).get k=some o->h.get k=some o:=fun k o q=>(qJ k o q).2;split at e
 case h_2=>cases e
 rename_i s1 Wr;refine lQ (rN:=some l) lX L r.assign _ _ s1 (.inr hpa) (by rw[<- Eh]at X8;exact X8) Wr E _ w _ ⟨g.sub C0,hd,aj6,rfl,rfl⟩ fun E1 a1 w1 x1 u1 ads FQ r1 aj7=>?_;cases x1<;>first|(exact aj7.elim)|skip
 have nl0:∀k t,(h.set m none).get k≠none->E.ι k≠some (l,t):=by
  intro k t hk q;obtain⟨o,ho⟩:=bK.1 hk;obtain⟨c1,c2⟩:=qJ k o ho;exact g.inj m k l s0 t (fun q=>c1 q.symm) hwm (by rw[c2];simp) jP q
 have nl1:∀k t,s1.h.get k≠none->E1.ι k≠some (l,t):=by
  intro k t hk q;obtain⟨m0,t0,c1,c2,_⟩:=u1.wj k l t hk q hlw;exact nl0 m0 t0 c1 c2
 have Tf:w1.heap[l]? =some (.loop r):=(u1.keep l hlw fun k t hk=>nl0 k t hk.live).trans U;have Tn:l<w1.heap.size:=(aY.1 Tf).1;refine⟨_,run_beginRound Tf wm,?_⟩;generalize TV:w1.putObj l (.loop { r with state:=.busy })=w2;have OS:w2.heap[l]? =some (.loop { r with state:=.busy }):=by rw[<- TV];exact World.putObj_heap_same Tn
 have Nv:w2.heap.size=w1.heap.size:=by rw[<- TV];simp
 have PV:∀k,k≠l->w2.heap[k]? =w1.heap[k]?:=fun k hk=>by rw[<- TV];exact World.putObj_heap_other hk
 have yC:Good E1 s1.h w2:=by
  refine⟨fun k o hk=>?_,u1.good.inj,fun k b s hk=>by rw[Nv];exact u1.good.qG k b s hk,u1.good.lG,fun b c A=>⟨?_,(u1.good.jG b c A).2⟩⟩
  case refine_2=>
   obtain⟨⟨el,fz,oH⟩,_⟩:=u1.good.jG b c A;rw[PV b fun q=>by rw[q,Tf]at oH;cases oH];exact⟨el,fz,oH⟩
  obtain⟨b,s,k1,k2⟩:=u1.good.rel k o hk;have jD:b≠l:=by intro q;subst q;exact nl1 k s (by rw[hk];simp) k1
  exact⟨b,s,k1,jV E1.le_refl rfl (PV b jD) k2⟩
 have hN1:a1.tmps.size=r.tmps.size:=by
  exact r1.size.trans Eh
 have rest:∀(x:fm) (s2:St),gY P cf fr r.body s1=some (x,s2)->∀(st:Bool) (pe:Option Code) (Q:Exit->Act->World->Prop),
   (∀x' E2 a2 w3,Iw E2 x x'->((Instr.endRound l pe).run P w3= .ok (.bool pe.isNone) (w3.putObj l (.loop { r with state:=if pe.isNone then .ready else .done,pending:=pe }))->
    (pe.isNone=st->jt E h w E2 (s2.h.set m (some (.loop st pe F r.params.toList r.assign r.body))) (w3.putObj l (.loop { r with state:=if pe.isNone then .ready else .done,pending:=pe })))->qK E2 s2.n->n<=s2.n->(∀k,k<n->E2.ι k=E.ι k)->Q x' a2 w3))->
   r.body.wpIn (fz (some l)) 0 P Q a1 w2:=by
  intro x s2 X9 st pe Q hQ;refine lQ (rN:=some l) lX L r.body s1 x s2 (.inr hpb) adq X9 E1 a1 w2 Q ⟨yC,r1.rO,r1.F,hN1,r1.iZ⟩ fun E2 a2 w3 x' u2 sA qQ r2 pS=>?_;refine hQ x' E2 a2 w3 pS ?_ ?_ r2.rO (bN FQ qQ) (fun k hk=>by rw[sA k (cO hk FQ)];exact ads k hk)
  . have hb3:w3.heap[l]? =some (.loop { r with state:=.busy }):=(u2.keep l (by rw[Nv];exact Tn) fun k t hk=>nl1 k t hk.live).trans OS;exact run_endRound (P:=P) (r:={ r with state:=.busy }) pe hb3
  . intro aj8;have nl2:∀k t,s2.h.get k≠none->E2.ι k≠some (l,t):=by
     intro k t hk q;obtain⟨m0,t0,c1,c2,_⟩:=u2.wj k l t hk q (by rw[Nv];exact Tn);exact nl1 m0 t0 c1 c2
    have hb3:w3.heap[l]? =some (.loop { r with state:=.busy }):=(u2.keep l (by rw[Nv];exact Tn) fun k t hk=>nl1 k t hk.live).trans OS;have hl3:l<w3.heap.size:=(aY.1 hb3).1;have kZ:E.le E2:=Env.le_trans u1.le u2.le;have PW:E2.ι m=some (l,s0):=(kZ.nm m l s0 jP).1;generalize Ya:({ r with state:=if pe.isNone then .ready else .done,pending:=pe }:Loop)=r4;have adt:(w3.putObj l (.loop r4)).heap.size=w3.heap.size:=by simp
    have PX:∀k,k≠l->(w3.putObj l (.loop r4)).heap[k]? =w3.heap[k]?:=fun k hk=>World.putObj_heap_other hk;have rC:nT E2 (w3.putObj l (.loop r4)) l s0 (.loop st pe F r.params.toList r.assign r.body):=by
     refine⟨r4,World.putObj_heap_same hl3,?_,?_,?_,?_,?_,?_,?_⟩
     . rw[<- Ya,<- aj8]
     . rw[<- Ya]
     . rw[<- Ya]
     . rw[<- Ya]
     . rw[<- Ya]
     . rw[<- Ya];exact zJ kZ htr
     . rw[<- Ya];exact⟨X8,adq,adr⟩
    have um:∀k o,(s2.h.set m (some (.loop st pe F r.params.toList r.assign r.body))).get k=some o->(k=m/\o= .loop st pe F r.params.toList r.assign r.body)\/(k≠m/\s2.h.get k=some o):=by
     intro k o q;rw[I.gC _ _ _ hmt]at q;split at q
     . rename_i c;cases q;exact .inl ⟨c,rfl⟩
     . rename_i c;exact .inr ⟨c,q⟩
    have PY:∀b c,E2.φ b=some c->b≠l:=fun b c A q=>by
     obtain⟨⟨el,fz,oH⟩,_⟩:=u2.good.jG b c A;rw[q,hb3]at oH;cases oH
    refine⟨kZ,⟨?_,?_,?_,u2.good.lG,fun b c A=>⟨by rw[PX b (PY b c A)];exact(u2.good.jG b c A).1,fun k t hk q0=>?_⟩⟩,?_,?_,?_,?_,?_,?_,?_⟩
    case refine_4=>
     obtain⟨o,hk,ho⟩:=hk;rcases um k o hk with⟨rfl,rfl⟩|⟨c',q⟩
     . rw[PW]at q0;cases q0;exact PY _ c A rfl
     . exact(u2.good.jG b c A).2 k t ⟨o,q,ho⟩ q0
    case refine_11=>
     intro b c A;rcases u2.FM b c A with q|q|⟨m1,t1,q1,q2⟩
     . rcases u1.FM b c q with q|q|⟨m0,t0,q1,q2⟩
       . exact .inl q
       . exact .inr (.inl q)
       . exact .inr (.inr ⟨m0,t0,iK C0 q1,q2⟩)
     . have c1:=u1.size;exact .inr (.inl S)
     . rcases bx b w.heap.size with D3|D3
       . obtain⟨m0,t0,_,f2,f3⟩:=u1.wj m1 b t1 q1.live q2 D3;exact .inr (.inr ⟨m0,t0,iK C0 (f3 q1),f2⟩)
       . exact .inr (.inl D3)
    . intro k o q;rcases um k o q with⟨rfl,rfl⟩|⟨c,q⟩
      . exact⟨l,s0,PW,rC⟩
      . obtain⟨b,t,k1,k2⟩:=u2.good.rel k o q;have jD:b≠l:=by intro c;subst c;exact nl2 k t (by rw[q];simp) k1
        exact⟨b,t,k1,jV E2.le_refl rfl (PX b jD) k2⟩
    . intro k k' b t t' jD hk rB e1 e2;obtain⟨o,hk,ho⟩:=hk;obtain⟨o',rB⟩:=bK.1 rB;rcases um k o hk with⟨rfl,rfl⟩|⟨c,q⟩
      . rcases um k' o' rB with⟨rfl,rfl⟩|⟨c',q'⟩
        . exact jD rfl
        . rw[PW]at e1;cases e1;exact nl2 k' t' (by rw[q'];simp) e2
      . rcases um k' o' rB with⟨rfl,rfl⟩|⟨c',q'⟩
        . rw[PW]at e2;cases e2;exact nl2 k t (by rw[q];simp) e1
        . exact u2.good.inj k k' b t t' jD ⟨o,q,ho⟩ (by rw[q'];simp) e1 e2
    . intro k b t q;rw[adt];exact u2.good.qG k b t q
    . rw[adt];have c1:=u1.size;have c2:=u2.size;omega
    . exact u2.tape.trans (by rw[<- TV];exact u1.tape)
    . exact u2.os.trans (by rw[<- TV];exact u1.os)
    . exact u2.output.trans (by rw[<- TV];exact u1.output)
    . intro b D3 AW;have jD:b≠l:=by intro c;subst c;exact AW m s0 hwm jP
      have c1:=u1.size;rw[PX b jD,u2.keep b S ?_,PV b jD,u1.keep b D3 ?_]
      . intro k t hk q;exact AW k t (iK C0 hk) q
      . intro k t hk q;obtain⟨m0,t0,d1,d2,d3⟩:=u1.wj k b t hk.live q D3;exact AW m0 t0 (iK C0 (d3 hk)) d2
    . intro k b t hk q D3;obtain⟨o,hk⟩:=bK.1 hk;have c1:=u1.size;rcases um k o hk with⟨rfl,rfl⟩|⟨c,qk⟩
      . rw[PW]at q;cases q;exact⟨k,s0,hwm.live,jP,fun _=>hwm⟩
      . obtain⟨m1,t1,d1,d2,d3⟩:=u2.wj k b t (by rw[qk];simp) q S;obtain⟨m0,t0,f1,f2,f3⟩:=u1.wj m1 b t1 d1 d2 D3;exact⟨m0,t0,qi C0 f1,f2,fun z=>iK C0 (f3 (d3 (qg hmt z c)))⟩
 split at e
 . rename_i s2 X9;simp only[aq,aB]at e;obtain⟨rfl,rfl,rfl⟩:=e;refine rest _ s2 X9 true none _ fun x' E2 a2 w3 pS gF hu qt hn gd=>?_;cases x'<;>first|(exact pS.elim)|skip
   exact⟨_,_,gF,E2,hu rfl,gd,qt,hn,rfl⟩
 . rename_i s2 X9;simp only[aq,aB]at e;obtain⟨rfl,rfl,rfl⟩:=e;refine rest _ s2 X9 false (some .ret) _ fun x' E2 a2 w3 pS gF hu qt hn gd=>?_;cases x'<;>first|(exact pS.elim)|skip
   exact⟨_,_,gF,E2,hu rfl,gd,qt,hn,rfl⟩
 . rename_i j s2 X9;simp only[aq,aB]at e;obtain⟨rfl,rfl,rfl⟩:=e;refine rest _ s2 X9 false (some (.exit j)) _ fun x' E2 a2 w3 pS gF hu qt hn gd=>?_;cases x'<;>first|(exact pS.elim)|skip
   have:_=j:=pS.symm;subst this;exact⟨_,_,gF,E2,hu rfl,gd,qt,hn,rfl⟩
 . cases e
theorem Md(lX:iu P cf)(L:P.follows .mixedOrders=true)(sW:kn P=true):iu P (fun f args h n=>if f<P.funcs.size then enter P cf fr f args h n else wY P cf fr (f-P.funcs.size) args h n):=by
 intro f args h n sV h' n' e E w dZ ra g hd;simp only at e;split at e
 . rename_i fj;exact⟨fun _=>ID lX L sW e ra g hd,fun m l s hf _=>absurd fj (by rw[hf];exact Nat.not_lt.2 (Nat.le_add_right _ _))⟩
 . rename_i PO;refine⟨fun A=>?_,fun m l s hf jP=>?_⟩
   . exfalso;unfold callee at A;rw[Array.getElem?_eq_none (Nat.not_lt.1 PO)]at A;cases A
   . subst hf;rw[Nat.add_sub_cancel_left]at e;exact IE lX L e ra g hd jP
theorem Bd(L:P.follows .mixedOrders=true)(sW:kn P=true):∀k,iu P (call P fr k)
 |0=>fun _ _ _ _ _ _ _ e=>by cases e
 |k+1=>Md (Bd L sW k) L sW
end
open Go.RowKit
def E4:List (Nat×Nat)->Nat->Option (Nat×Nat)
 | [],_=>none
 |p::r,m=>if p.2=m then some (p.1,0)else E4 r m
def gN:Nat:=ux.length
theorem zY:∀{l:List (Nat×Nat)} {m:Nat} {q:Nat×Nat},E4 l m=some q->∃p∈l,p.2=m/\q=(p.1,0)
 | [],_,_,h=>by cases h
 |p::r,m,q,h=>by
  unfold E4 at h;split at h
  . rename_i U;cases h;exact⟨p,by simp,U,rfl⟩
  . obtain⟨p',h1,C⟩:=zY h;exact⟨p',bh _ h1,C⟩
theorem IF:∀{l:List (Nat×Nat)} {p:Nat×Nat},p∈l->(l.map (·.2)).Nodup->E4 l p.2=some (p.1,0)
 |q::r,p,h,hn=>by
  unfold E4;rcases aA.1 h with rfl|h
  . rw[aF rfl]
  . simp only[b9,List.nodup_cons]at hn;rw[aD (fun e=>hn.1 (by rw[e];exact List.mem_map_of_mem h))];exact IF h hn.2
theorem T2:(ux.map (·.2)).Nodup:=by
 have h:ux.map (·.2)=List.range ux.length:=by decide
 rw[h];exact List.nodup_range
section
variable(φ:Nat->Option (Array Value)){E:Env}(w:World){h:I es}
theorem Me{p:Nat×Nat}(h:p∈ux):p.2<gN:=by
 have e:ux.map (·.2)=List.range ux.length:=by decide
 have:=List.mem_map_of_mem (f:=(·.2)) h;rw[e]at this;exact bQ.1 this
def BH:Env:=⟨fun m=>E4 ux m,fun _=>0,φ⟩
def E0:Env:=BH fun _=>none
def T3:Prop:=∀b c,φ b=some c->∃el fz,w.heap[b]? =some (.cells c el fz)
theorem Good.fz{w:World}(g:Good E h w):T3 E.φ w:=fun b c q=>(g.jG b c q).1
theorem aka:GE (BH φ):=fun p hp=>IF hp T2
def WG:Prop:=∀p∈ux,p.1<w.heap.size
theorem Good.wg{w:World}(g:Good E h w):WG w:=fun p hp=>g.qG _ _ _ (g.lG p hp)
end
section
variable{φ:Nat->Option (Array Value)}{w:World}{n:Nat}
theorem xx(hw:WG w)(ld:T3 φ w):Good (BH φ) .nil w:=⟨fun m o h=>by simp[I.get]at h,fun m _ _ _ _ _ h=>absurd rfl h.live,fun m b s h=>by obtain⟨p,h1,_,C⟩:=zY h;cases C;exact hw p h1,aka φ,fun b c q=>⟨ld b c q,fun m s h=>absurd rfl h.live⟩⟩
theorem Wz(hw:WG w):Good E0 .nil w:=xx hw fun _ _ q=>by cases q
theorem C3(hn:gN<=n):qK (BH φ) n:=fun m L=>by
 cases q:(BH φ).ι m with
 |none=>rfl
 |some _=>obtain⟨p',h1,C,_⟩:=zY q;have:=Me h1;omega
theorem adu(hn:gN<=n):qK E0 n:=C3 hn
end
mutual
def V.free:V->Bool
 | .ptr (some _)=>false
 | .fk (some _) _ _ _=>false
 | .map (some _)=>false
 | .fn f a c=>vJ f&&(V.uo a&&V.uo c)
 | .iface _ x=>V.free x
 | .agg cs=>V.uo cs
 | .gK cs=>V.uo cs
 | .eM _ 0 []=>true
 | .eM _ _ _=>false
 | .eo _=>false
 |_=>true
def V.uo:ag->Bool
 | []=>true
 |x::xs=>V.free x&&V.uo xs
end
mutual
theorem vc{E E':Env}:∀(v:V) (v':Value),v.free=true->eH E v v'->eH E' v v'
 | .bool _,_,_,r=>r
 | .int _ _,_,_,r=>r
 | .str _,_,_,r=>r
 | .ptr none,_,_,r=>r
 | .ptr (some _),_,h,_=>by simp[V.free]at h
 | .fk none _ _ _,_,_,r=>r
 | .fk (some _) _ _ _,_,h,_=>by simp[V.free]at h
 | .map none,_,_,r=>r
 | .map (some _),_,h,_=>by simp[V.free]at h
 | .fn f a c,_,h,⟨f',a',c',rf,ra,rc,q⟩=>by
   simp only[V.free,ay]at h;refine⟨f',a',c',?_,og a a' h.2.1 ra,og c c' h.2.2 rc,q⟩;cases f<;>first|exact rf|(simp[vJ]at h;done)
 | .kU,_,_,r=>r
 | .iface _ x,_,h,⟨x',r,q⟩=>⟨x',vc x x' (by simpa only[V.free]using h) r,q⟩
 | .nilIface,_,_,r=>r
 | .agg cs,_,h,⟨cs',r,q⟩=>⟨cs',og cs cs' (by simpa only[V.free]using h) r,q⟩
 | .gK cs,_,h,⟨cs',r,q⟩=>⟨cs',og cs cs' (by simpa only[V.free]using h) r,q⟩
 | .eM f 0 [],_,_,r=>by
   obtain⟨⟨a,kg,vs,h1,C,h3,h4,h5⟩,h6⟩:=r;exact⟨⟨a,kg,vs,h1,C,h3,h4,fun q=>absurd q (dy _)⟩,h6⟩
 | .eM f 0 (_::_),_,h,_=>by simp[V.free]at h
 | .eM f (_+1) _,_,h,_=>by simp[V.free]at h
 | .eo _,_,h,_=>by simp[V.free]at h
theorem og{E E':Env}:∀(v:ag) (v':List Value),V.uo v=true->eK E v v'->eK E' v v'
 | [],_,_,r=>r
 |x::xs,_,h,⟨y,ys,r,rs,q⟩=>by
  simp only[V.uo,ay]at h;exact⟨y,ys,vc x y h.1 r,og xs ys h.2 rs,q⟩
end
theorem Good.below{E:Env}{h:I es}{w w':World}(g:Good E h w)(b:Below w.heap.size w w'):Good E h w' where
 rel:=fun m o L=>let⟨b',s,h1,C⟩:=g.rel m o L;⟨b',s,h1,jV E.le_refl rfl (b.block b' (g.qG m b' s h1)) C⟩
 inj:=g.inj
 qG:=fun m b' s L=>cO (g.qG m b' s L) b.size
 lG:=g.lG
 jG:=fun k c q=>⟨by rw[b.block k (by obtain⟨el,fz,e⟩:=g.fz k c q;exact(aY.1 e).1)];exact g.fz k c q,(g.jG k c q).2⟩
theorem jt.below{E:Env}{h:I es}{w w':World}(g:Good E h w)(b:Below w.heap.size w w'):jt E h w E h w':=
 ⟨E.le_refl,g.below b,b.size,b.tape,b.os,b.output,fun k hk _=>b.block k hk,fun m _ s L he _=>⟨m,s,L,he,id⟩,fun _ _ q=>.inl q⟩
def look(f:FuncId)(args:ag):List (FuncId×ag×V)->Option V
 | []=>none
 |x::r=>match Nat.beq f x.1&&V.pn args x.2.1 with
  |true=>some x.2.2
  |false=>look f args r
def F9(P:Program)(x:FuncId×ag×V):Prop:=x.1<P.funcs.size/\V.uo x.2.1=true/\x.2.2.free=true/\∃cf h' n',iu P cf/\cf x.1 x.2.1 .nil gN=some (.ret x.2.2,h',n')
theorem IG{f:FuncId}{args:ag}{v:V}:∀{s':List (FuncId×ag×V)},look f args s'=some v->(f,args,v)∈s'
 | [],h=>by simp[look]at h
 |x::r,h=>by
  simp only[look]at h;split at h
  . rename_i U;simp only[ay]at U;simp only[aq]at h;rw[aJ U.1,vQ _ _ U.2,<- h];simp
  . exact bh _ (IG h)
theorem Ky{P:Program}{f:FuncId}{args:ag}{v:V}(hs:F9 P (f,args,v)){E:Env}{h:I es}{n:Nat}{w:World}{dZ:List Value}(ra:eK E args dZ)(g:Good E h w)(hd:qK E n)(A:callee P f=true):
  Calls P f dZ.toArray w (jx E h n w (.ret v) h n):=by
 obtain⟨_,ha,hv,cf,h',n',lX,e⟩:=hs;refine(lX f args .nil gN _ h' n' e E0 w dZ (og _ _ ha ra) (Wz g.wg) (adu (aK _))).1 A |>.mono fun en w' ⟨E1,u,_,_,_,ho⟩=>?_;have hk:∀b,b<w.heap.size->w'.heap[b]? =w.heap[b]?:=fun b U=>u.keep b U fun m s L=>absurd rfl L.live;have hfb:∀b c,E.φ b=some c->b<w.heap.size:=fun b c q=>by obtain⟨el,fz,e⟩:=g.fz b c q;exact(aY.1 e).1
 refine⟨E,⟨E.le_refl,⟨?_,g.inj,fun m b s L=>cO (g.qG m b s L) u.size,g.lG,fun b c q=>⟨by rw[hk b (hfb b c q)];exact g.fz b c q,(g.jG b c q).2⟩⟩,u.size,u.tape,u.os,u.output,fun b U _=>hk b U,fun m b s L he _=>⟨m,s,L,he,id⟩,fun _ _ q=>.inl q⟩,fun _ _=>rfl,hd,aK _,?_⟩
 . intro m o L;obtain⟨b,s,h1,C⟩:=g.rel m o L;exact⟨b,s,h1,jV E.le_refl rfl (hk b (g.qG m b s h1)) C⟩
 . cases en with
   |returned v'=>exact vc _ _ hv ho
   |_=>exact ho.elim
structure T4(w0:World)(E:Env)(h:I es)(w:World):Prop where
 good:Good E h w
 size:w0.heap.size<=w.heap.size
 tape:w.tape=w0.tape
 os:w.os=w0.os
 output:w.output=w0.output
 keep:∀b,b<w0.heap.size->w.heap[b]? =w0.heap[b]?
 wj:∀m b s,fu h m->E.ι m=some (b,s)->b<w0.heap.size->False
theorem T4.trans{w0:World}{E E':Env}{h h':I es}{w w':World}(a:T4 w0 E h w)(b:jt E h w E' h' w'):T4 w0 E' h' w' where
 good:=b.good
 size:=bN a.size b.size
 tape:=b.tape.trans a.tape
 os:=b.os.trans a.os
 output:=b.output.trans a.output
 keep:=fun x K=>by
  rw[b.keep x (cO K a.size) fun m s L e=>a.wj m x s L e K,a.keep x K]
 wj:=fun m x s L e K=>by
  obtain⟨m1,s1,_,e1,k1⟩:=b.wj m x s L.live e (cO K a.size);exact a.wj m1 x s1 (k1 L) e1 K
def adv(n0:Nat)(w0:World)(s:St)(a:Act)(w:World):Prop:=∃E,lI E n0 s a w/\T4 w0 E s.h w
def fm.plain:fm->Option Exit
 | .normal=>some .normal
 | .exit i=>some (.exit i)
 | .ret=>some .ret
 | .panic _=>none
mutual
def V.names:V->List Nat->List Nat
 | .ptr (some (m,_)),l=>m::l
 | .fk (some (m,_)) _ _ _,l=>m::l
 | .map (some m),l=>m::l
 | .fn f a c,l=>match f with
   | .yield m=>m::V.tx a (V.tx c l)
   |_=>V.tx a (V.tx c l)
 | .iface _ x,l=>V.names x l
 | .agg cs,l=>V.tx cs l
 | .gK cs,l=>V.tx cs l
 |_,l=>l
def V.tx:ag->List Nat->List Nat
 | [],l=>l
 |x::xs,l=>V.names x (V.tx xs l)
end
def II:List (V×V×Nat)->List Nat
 | []=>[]
 |x::xs=>V.names x.1 (V.names x.2.1 (II xs))
def es.names:es->List Nat
 | .cells cs=>V.tx cs []
 | .map O _=>II O
 | .nM _ _=>[]
 | .ints _ _=>[]
 | .own _ _=>[]
 | .deep _=>[]
 | .wh _ _ _=>[]
 | .HM _ _ x=>V.names x []
 | .gL _ _=>[]
 | .oW _ _=>[]
 | .uy=>[]
 | .loop ..=>[]
def Yb(h:I es):Nat->List Nat->I Nat->List Nat->Nat->Option (I Nat×List Nat×Nat)
 |0,_,_,_,_=>none
 |_+1,[],ρ,rF,k=>some (ρ,rF,k)
 |f+1,m::q,ρ,rF,k=>match ρ.get m with
  |some _=>Yb h f q ρ rF k
  |none=>Yb h f ((match h.get m with|some o=>o.names|none=>[])++q) (ρ.set m (some k)) (m::rF) (k+1)
def C5:List Nat->Nat->I Nat->I Nat
 | [],_,t=>t
 |m::r,k,t=>C5 r (k-1) (t.set (k-1) (some m))
def C6(ρ C7:I Nat)(n2 m:Nat):Option Nat:=
 match ρ.get m with
 |some k=>match C7.get k with
  |some m'=>match Nat.beq m m'&&Nat.blt k n2 with
   |true=>some k
   |false=>none
  |none=>none
 |none=>none
theorem IJ{ρ C7:I Nat}{n2 m k:Nat}(h:C6 ρ C7 n2 m=some k):ρ.get m=some k/\C7.get k=some m/\k<n2:=by
 unfold C6 at h;split at h
 . rename_i k' h1;split at h
   . rename_i m' C;split at h
     . rename_i U;simp only[ay]at U;simp only[aq]at h;subst h;have e:=aJ U.1;subst e;exact⟨h1,C,by have:=U.2;simp[Nat.blt]at this;omega⟩
     . cases h
   . cases h
 . cases h
section
variable(ν:Nat->Option Nat)
mutual
def V.WA:V->Option V
 | .ptr (some (m,o))=>match ν m with
   |some k=>some (.ptr (some (k,o)))
   |none=>none
 | .fk (some (m,o)) l c e=>match ν m with
   |some k=>some (.fk (some (k,o)) l c e)
   |none=>none
 | .map (some m)=>match ν m with
   |some k=>some (.map (some k))
   |none=>none
 | .fn f a c=>match vJ f with
   |true=>match V.NP a with
    |some a=>match V.NP c with
     |some c=>some (.fn f a c)
     |none=>none
    |none=>none
   |false=>none
 | .iface t x=>match V.WA x with
   |some x=>some (.iface t x)
   |none=>none
 | .agg cs=>match V.NP cs with
   |some cs=>some (.agg cs)
   |none=>none
 | .gK cs=>match V.NP cs with
   |some cs=>some (.gK cs)
   |none=>none
 | .bool b=>some (.bool b)
 | .int k n=>some (.int k n)
 | .str s=>some (.str s)
 | .ptr none=>some (.ptr none)
 | .fk none l c e=>some (.fk none l c e)
 | .map none=>some (.map none)
 | .kU=>some .kU
 | .nilIface=>some .nilIface
 | .eM f n cs=>some (.eM f n cs)
 | .eo cs=>some (.eo cs)
def V.NP:ag->Option (ag)
 | []=>some []
 |x::xs=>match V.WA x with
  |some x=>match V.NP xs with
   |some xs=>some (x::xs)
   |none=>none
  |none=>none
end
def WB:List (V×V×Nat)->Option (List (V×V×Nat))
 | []=>some []
 |x::xs=>match V.WA ν x.1,V.WA ν x.2.1,WB xs with
  |some k,some v,some xs=>some ((k,v,x.2.2)::xs)
  |_,_,_=>none
def es.WA:es->Option es
 | .cells cs=>match V.NP ν cs with
   |some cs=>some (.cells cs)
   |none=>none
 | .map O c=>match WB ν O with
   |some O=>some (.map O c)
   |none=>none
 | .nM s p=>some (.nM s p)
 | .ints k W=>some (.ints k W)
 | .own k W=>some (.own k W)
 | .deep cs=>some (.deep cs)
 | .wh e f s=>some (.wh e f s)
 | .HM t s x=>match V.WA ν x with
   |some x=>some (.HM t s x)
   |none=>none
 | .gL k O=>some (.gL k O)
 | .oW k O=>some (.oW k O)
 | .uy=>none
 | .loop ..=>none
end
section
variable{ν:Nat->Option Nat}{E E':Env}(jP:∀m k,ν m=some k->E'.ι k=E.ι m)(oV:E'.β=E.β)(ld:∀b c,E.φ b=some c->E'.φ b=some c)
include jP oV ld
end
def Kz(ν:Nat->Option Nat)(h:I es):List Nat->I es->Option (I es)
 | [],t=>some t
 |m::r,t=>match h.get m with
  |none=>Kz ν h r t
  |some o=>match ν m with
   |some k=>match o.WA ν with
    |some o2=>match Nat.blt k gO with
     |true=>Kz ν h r (t.set k (some o2))
     |false=>none
    |none=>none
   |none=>none
def zZ(ν:Nat->Option Nat)(F:I V):List Nat->I V->Option (I V)
 | [],t=>some t
 |m::r,t=>match F.get m with
  |none=>zZ ν F r t
  |some v=>match v.WA ν with
   |some v2=>match Nat.blt m gO with
    |true=>zZ ν F r (t.set m (some v2))
    |false=>none
   |none=>none
def vS(F:I V):List Nat->List Nat
 | []=>[]
 |t::r=>match F.get t with
  |some v=>v.names (vS F r)
  |none=>vS F r
def adw(C7:I Nat)(k:Nat):Bool:=ux.all fun p=>Nat.blt p.2 k&&match C7.get p.2 with
 |some o=>Nat.beq o p.2
 |none=>false
def norm(live:List Nat)(s:St):Option St:=
 match s.iZ with
 | []=>match Yb s.h 100000 (vS s.F live) .nil [] 0 with
   |some (ρ,rF,k)=>
    let ν:=C6 ρ (C5 rF k .nil) k
    match adw (C5 rF k .nil) k with
    |false=>none
    |true=>match Kz ν s.h rF .nil with
    |some C=>match zZ ν s.F live .nil with
     |some PE=>some { F:=PE,h:=C,n:=k,iZ:=[] }
     |none=>none
    |none=>none
   |none=>none
 |_=>none
section
variable(ν:Nat->Option Nat)
mutual
def V.rn:V->Option V
 | .ptr (some (m,o))=>match ν m with
   |some k=>some (.ptr (some (k,o)))
   |none=>none
 | .fk (some (m,o)) l c e=>match ν m with
   |some k=>some (.fk (some (k,o)) l c e)
   |none=>none
 | .map (some m)=>match ν m with
   |some k=>some (.map (some k))
   |none=>none
 | .fn f a c=>match V.KA a with
   |some a=>match V.KA c with
    |some c=>match f with
     | .yield m=>match ν m with
       |some k=>some (.fn (.yield k) a c)
       |none=>none
     |f=>some (.fn f a c)
    |none=>none
   |none=>none
 | .iface t x=>match V.rn x with
   |some x=>some (.iface t x)
   |none=>none
 | .agg cs=>match V.KA cs with
   |some cs=>some (.agg cs)
   |none=>none
 | .gK cs=>match V.KA cs with
   |some cs=>some (.gK cs)
   |none=>none
 | .bool b=>some (.bool b)
 | .int k n=>some (.int k n)
 | .str s=>some (.str s)
 | .ptr none=>some (.ptr none)
 | .fk none l c e=>some (.fk none l c e)
 | .map none=>some (.map none)
 | .kU=>some .kU
 | .nilIface=>some .nilIface
 | .eM f n cs=>some (.eM f n cs)
 | .eo cs=>some (.eo cs)
def V.KA:ag->Option (ag)
 | []=>some []
 |x::xs=>match V.rn x with
  |some x=>match V.KA xs with
   |some xs=>some (x::xs)
   |none=>none
  |none=>none
end
def PZ:List (V×V×Nat)->Option (List (V×V×Nat))
 | []=>some []
 |x::xs=>match V.rn ν x.1 with
  |some k=>match V.rn ν x.2.1 with
   |some v=>match PZ xs with
    |some xs=>some ((k,v,x.2.2)::xs)
    |none=>none
   |none=>none
  |none=>none
def C8(m:Nat):Bool:=match ν m with
 |some k=>Nat.beq m k
 |none=>false
mutual
def V.still:V->Bool
 | .ptr (some (m,_))=>C8 ν m
 | .fk (some (m,_)) _ _ _=>C8 ν m
 | .map (some m)=>C8 ν m
 | .fn f a c=>(match f with | .yield m=>C8 ν m|_=>true)&&(V.xy a&&V.xy c)
 | .iface _ x=>V.still x
 | .agg cs=>V.xy cs
 | .gK cs=>V.xy cs
 |_=>true
def V.xy:ag->Bool
 | []=>true
 |x::xs=>V.still x&&V.xy xs
end
def yD:I V->Bool
 | .nil=>true
 | .node v l r=>(match v with|some v=>V.still ν v|none=>true)&&(yD l&&yD r)
def es.rn:es->Option es
 | .cells cs=>match V.KA ν cs with
   |some cs=>some (.cells cs)
   |none=>none
 | .map O c=>match PZ ν O with
   |some O=>some (.map O c)
   |none=>none
 | .nM s p=>some (.nM s p)
 | .ints k W=>some (.ints k W)
 | .own k W=>some (.own k W)
 | .deep cs=>some (.deep cs)
 | .wh e f s=>some (.wh e f s)
 | .HM t s x=>match V.rn ν x with
   |some x=>some (.HM t s x)
   |none=>none
 | .gL k O=>some (.gL k O)
 | .oW k O=>some (.oW k O)
 | .uy=>some .uy
 | .loop st pe F ps a b=>match yD ν F with
   |true=>some (.loop st pe F ps a b)
   |false=>none
end
mutual
theorem ve{ν:Nat->Option Nat}{E E':Env}(jP:∀m k,ν m=some k->E'.ι k=E.ι m)(oV:∀m k b s,ν m=some k->E.ι m=some (b,s)->E'.β b=E.β b)(ld:∀b c,E.φ b=some c->E'.φ b=some c):∀(v v2:V) (v':Value),v.rn ν=some v2->eH E v v'->eH E' v2 v'
 | .bool _,v2,_,h,r=>by simp only[V.rn,aq]at h;subst h;exact r
 | .int _ _,v2,_,h,r=>by simp only[V.rn,aq]at h;subst h;exact r
 | .str _,v2,_,h,r=>by simp only[V.rn,aq]at h;subst h;exact r
 | .ptr none,v2,_,h,r=>by simp only[V.rn,aq]at h;subst h;exact r
 | .ptr (some (m,o)),v2,_,h,⟨b,s,e,q⟩=>by
   simp only[V.rn]at h;split at h
   . rename_i k hk;obtain rfl:=eZ h;exact⟨b,s,(jP m k hk).trans e,q⟩
   . cases h
 | .fk none _ _ _,v2,_,h,r=>by simp only[V.rn,aq]at h;subst h;exact r
 | .fk (some (m,o)) _ _ _,v2,_,h,⟨b,s,o',gZ,e,q1,q2,q3,q4,q5⟩=>by
   simp only[V.rn]at h;split at h
   . rename_i k hk;obtain rfl:=eZ h;exact⟨b,s,o',gZ,(jP m k hk).trans e,q1,q2,q3,by rw[oV m k b s hk e];exact q4,q5⟩
   . cases h
 | .map none,v2,_,h,r=>by simp only[V.rn,aq]at h;subst h;exact r
 | .map (some m),v2,_,h,⟨b,e,q⟩=>by
   simp only[V.rn]at h;split at h
   . rename_i k hk;obtain rfl:=eZ h;exact⟨b,(jP m k hk).trans e,q⟩
   . cases h
 | .fn f a c,v2,_,h,⟨f',a',c',rf,ra,rc,q⟩=>by
   simp only[V.rn]at h;split at h
   . rename_i a2 ha;split at h
     . rename_i c2 A;have WC:=tA jP oV ld a a2 a' ha ra;have rc2:=tA jP oV ld c c2 c' A rc;split at h
       . rename_i m;split at h
         . rename_i k hk;obtain rfl:=eZ h;obtain⟨l,s,e,q2⟩:=rf;exact⟨f',a',c',⟨l,s,(jP m k hk).trans e,q2⟩,WC,rc2,q⟩
         . cases h
       . obtain rfl:=eZ h;refine⟨f',a',c',?_,WC,rc2,q⟩;cases f<;>first|exact rf|(rename_i jD;exact(jD _ rfl).elim)
     . cases h
   . cases h
 | .kU,v2,_,h,r=>by simp only[V.rn,aq]at h;subst h;exact r
 | .iface t x,v2,_,h,⟨x',r,q⟩=>by
   simp only[V.rn]at h;split at h
   . rename_i x2 K;obtain rfl:=eZ h;exact⟨x',ve jP oV ld x x2 x' K r,q⟩
   . cases h
 | .nilIface,v2,_,h,r=>by simp only[V.rn,aq]at h;subst h;exact r
 | .agg cs,v2,_,h,⟨cs',r,q⟩=>by
   simp only[V.rn]at h;split at h
   . rename_i x2 K;obtain rfl:=eZ h;exact⟨cs',tA jP oV ld cs x2 cs' K r,q⟩
   . cases h
 | .gK cs,v2,_,h,⟨cs',r,q⟩=>by
   simp only[V.rn]at h;split at h
   . rename_i x2 K;obtain rfl:=eZ h;exact⟨cs',tA jP oV ld cs x2 cs' K r,q⟩
   . cases h
 | .eM f n cs,v2,_,h,r=>by
   simp only[V.rn,aq]at h;subst h;exact⟨mR ld _ _ r.1,r.2⟩
 | .eo cs,v2,_,h,⟨b,o,c,vs,e,e1,r,q⟩=>by
   simp only[V.rn,aq]at h;subst h;exact⟨b,o,c,vs,e,ld _ _ e1,ja ld _ _ r,q⟩
theorem tA{ν:Nat->Option Nat}{E E':Env}(jP:∀m k,ν m=some k->E'.ι k=E.ι m)(oV:∀m k b s,ν m=some k->E.ι m=some (b,s)->E'.β b=E.β b)(ld:∀b c,E.φ b=some c->E'.φ b=some c):∀(v v2:ag) (v':List Value),V.KA ν v=some v2->eK E v v'->eK E' v2 v'
 | [],v2,_,h,r=>by simp only[V.KA,aq]at h;subst h;exact r
 |x::xs,v2,_,h,⟨y,ys,r,rs,q⟩=>by
  simp only[V.KA]at h;split at h
  . rename_i x2 K;split at h
    . rename_i NQ CD;obtain rfl:=eZ h;exact⟨y,ys,ve jP oV ld x x2 y K r,tA jP oV ld xs NQ ys CD rs,q⟩
    . cases h
  . cases h
end
section
variable{ν:Nat->Option Nat}{E E':Env}(jP:∀m k,ν m=some k->E'.ι k=E.ι m)(oV:∀m k b s,ν m=some k->E.ι m=some (b,s)->E'.β b=E.β b)(ld:∀b c,E.φ b=some c->E'.φ b=some c)
include jP oV ld
theorem IK:∀(O zy:List (V×V×Nat)) (l:List MapEntry),PZ ν O=some zy->kX E O l->kX E' zy l
 | [],zy,_,h,r=>by simp only[PZ,aq]at h;subst h;exact r
 |x::xs,zy,_,h,⟨y,ys,r1,r2,r3,rs,q⟩=>by
  simp only[PZ]at h;split at h
  . rename_i k hk;split at h
    . rename_i v hv;split at h
      . rename_i NQ CD;obtain rfl:=eZ h;exact⟨y,ys,ve jP oV ld _ _ _ hk r1,ve jP oV ld _ _ _ hv r2,r3,IK _ _ _ CD rs,q⟩
      . cases h
    . cases h
  . cases h
end
theorem oh{ν:Nat->Option Nat}{m:Nat}(h:C8 ν m=true):ν m=some m:=by
 unfold C8 at h;split at h
 . rename_i k hk;rw[hk,aJ h]
 . cases h
theorem vf{ν:Nat->Option Nat}:∀(t:I V),yD ν t=true->∀k v,t.get k=some v->v.still ν=true
 | .nil,_,k,v,h=>by simp[I.get]at h
 | .node x l r,hs,k,v,h=>by
   simp only[yD,ay]at hs;simp only[I.get]at h;split at h
   . subst h;exact hs.1
   . rename_i k;split at h
     . exact vf l hs.2.1 _ v h
     . exact vf r hs.2.2 _ v h
mutual
theorem z6{ν:Nat->Option Nat}{E E':Env}(jP:∀m k,ν m=some k->E'.ι k=E.ι m)(oV:∀m k b s,ν m=some k->E.ι m=some (b,s)->E'.β b=E.β b)(ld:∀b c,E.φ b=some c->E'.φ b=some c):∀(v:V) (v':Value),v.still ν=true->eH E v v'->eH E' v v'
 | .bool _,_,_,r=>r
 | .int _ _,_,_,r=>r
 | .str _,_,_,r=>r
 | .ptr none,_,_,r=>r
 | .ptr (some (m,o)),_,h,⟨b,s,e,q⟩=>⟨b,s,(jP m m (oh h)).trans e,q⟩
 | .fk none _ _ _,_,_,r=>r
 | .fk (some (m,o)) _ _ _,_,h,⟨b,s,o',gZ,e,q1,q2,q3,q4,q5⟩=>⟨b,s,o',gZ,(jP m m (oh h)).trans e,q1,q2,q3,by rw[oV m m b s (oh h) e];exact q4,q5⟩
 | .map none,_,_,r=>r
 | .map (some m),_,h,⟨b,e,q⟩=>⟨b,(jP m m (oh h)).trans e,q⟩
 | .fn f a c,_,h,⟨f',a',c',rf,ra,rc,q⟩=>by
   simp only[V.still,ay]at h;refine⟨f',a',c',?_,qw jP oV ld a a' h.2.1 ra,qw jP oV ld c c' h.2.2 rc,q⟩;cases f with
   |yield m=>obtain⟨l,s,e,q2⟩:=rf;exact⟨l,s,(jP m m (oh h.1)).trans e,q2⟩
   |_=>exact rf
 | .kU,_,_,r=>r
 | .iface _ x,_,h,⟨x',r,q⟩=>⟨x',z6 jP oV ld x x' (by simpa only[V.still]using h) r,q⟩
 | .nilIface,_,_,r=>r
 | .agg cs,_,h,⟨cs',r,q⟩=>⟨cs',qw jP oV ld cs cs' (by simpa only[V.still]using h) r,q⟩
 | .gK cs,_,h,⟨cs',r,q⟩=>⟨cs',qw jP oV ld cs cs' (by simpa only[V.still]using h) r,q⟩
 | .eM _ _ _,_,_,r=>⟨mR ld _ _ r.1,r.2⟩
 | .eo cs,_,_,⟨b,o,c,vs,e,e1,r,q⟩=>⟨b,o,c,vs,e,ld _ _ e1,ja ld _ _ r,q⟩
theorem qw{ν:Nat->Option Nat}{E E':Env}(jP:∀m k,ν m=some k->E'.ι k=E.ι m)(oV:∀m k b s,ν m=some k->E.ι m=some (b,s)->E'.β b=E.β b)(ld:∀b c,E.φ b=some c->E'.φ b=some c):∀(v:ag) (v':List Value),V.xy ν v=true->eK E v v'->eK E' v v'
 | [],_,_,r=>r
 |x::xs,_,h,⟨y,ys,r,rs,q⟩=>by
  simp only[V.xy,ay]at h;exact⟨y,ys,z6 jP oV ld x y h.1 r,qw jP oV ld xs ys h.2 rs,q⟩
end
section
variable{ν:Nat->Option Nat}{E E':Env}(jP:∀m k,ν m=some k->E'.ι k=E.ι m)(oV:∀m k b s,ν m=some k->E.ι m=some (b,s)->E'.β b=E.β b)(ld:∀b c,E.φ b=some c->E'.φ b=some c)
include jP oV ld
theorem Ga{w:World}{b s:Nat}(U:E'.β b=E.β b):∀(o o2:es),o.rn ν=some o2->nT E w b s o->nT E' w b s o2
 | .cells cs,o2,h,⟨c,el,fz,h1,C,h3,h4⟩=>by
   simp only[es.rn]at h;split at h
   . rename_i Yc qH;obtain rfl:=eZ h;refine⟨c,el,fz,h1,by rw[U];exact C,h3,?_⟩;have:∀(cs Yc:ag),V.KA ν cs=some Yc->∀(s:Nat),mj E s cs c->mj E' s Yc c:=by
      intro cs
      induction cs with
      |nil=>intro Yc h s r;simp only[V.KA,aq]at h;subst h;intro i v e;simp at e
      |cons x xs ih=>
       intro Yc h s r;simp only[V.KA]at h;split at h
       . rename_i x2 K;split at h
         . rename_i NQ CD;obtain rfl:=eZ h;intro i v e;cases i with
           |zero=>
            simp only[cT,aq]at e;subst e;obtain⟨v',k1,k2⟩:=r 0 x (by simp);exact⟨v',k1,ve jP oV ld _ _ _ K k2⟩
           |succ i=>
            simp only[List.getElem?_cons_succ]at e;obtain⟨v',k1,k2⟩:=ih NQ CD (s+1) (fun j v e=>by
             obtain⟨v',k1,k2⟩:=r (j+1) v (by simpa using e);exact⟨v',by rw[<- k1];congr 1;omega,k2⟩) i v e
            exact⟨v',by rw[<- k1];congr 1;omega,k2⟩
         . cases h
       . cases h
     exact this cs Yc qH s h4
   . cases h
 | .map O cl,o2,h,⟨hs,ga,h1,C⟩=>by
   simp only[es.rn]at h;split at h
   . rename_i zy XR;obtain rfl:=eZ h;exact⟨hs,ga,h1,IK jP oV ld _ _ _ XR C⟩
   . cases h
 | .nM st p,o2,h,r=>by simp only[es.rn,aq]at h;subst h;exact r
 | .ints k W,o2,h,⟨c,el,fz,h1,C,h3⟩=>by simp only[es.rn,aq]at h;subst h;exact⟨c,el,fz,h1,by rw[U];exact C,h3⟩
 | .own k W,o2,h,⟨c,el,fz,h1,C,h3,h4⟩=>by simp only[es.rn,aq]at h;subst h;exact⟨c,el,fz,h1,by rw[U];exact C,h3,wH h4⟩
 | .deep cs,o2,h,⟨c,el,fz,vs,h1,C,h3,h4,h5⟩=>by simp only[es.rn,aq]at h;subst h;exact⟨c,el,fz,vs,h1,by rw[U];exact C,h3,ja ld _ _ h4,h5⟩
 | .wh el AM t,o2,h,⟨c,fz,xs,h1,h0,C,h3⟩=>by simp only[es.rn,aq]at h;subst h;exact⟨c,fz,xs,h1,h0,by rw[U];exact C,h3⟩
 | .HM t self x,o2,h,⟨hs,x',fz,h1,C,h3,h4⟩=>by
   simp only[es.rn]at h;split at h
   . rename_i x2 K;obtain rfl:=eZ h;exact⟨hs,x',fz,h1,by rw[U];exact C,h3,ve jP oV ld _ _ _ K h4⟩
   . cases h
 | .gL kk O,o2,h,⟨hs,ga,cl,h1,C⟩=>by simp only[es.rn,aq]at h;subst h;exact⟨hs,ga,cl,h1,C.mono ld⟩
 | .oW kk O,o2,h,⟨hs,ga,h1,C⟩=>by simp only[es.rn,aq]at h;subst h;exact⟨hs,ga,h1,C.mono ld⟩
 | .uy,o2,h,r=>by simp only[es.rn,aq]at h;subst h;exact r
 | .loop st pe F ps a b',o2,h,⟨r,h1,C,h3,h4,h5,h6,h7,h8⟩=>by
   simp only[es.rn]at h;split at h
   . rename_i hs;obtain rfl:=eZ h;exact⟨r,h1,C,h3,h4,h5,h6,fun t v e=>let⟨v',k1,k2⟩:=h7 t v e;⟨v',k1,z6 jP oV ld v v' (vf F hs t v e) k2⟩,h8⟩
   . cases h
end
theorem IL{ν:Nat->Option Nat}{o o2:es}(h:o.rn ν=some o2):o2.wr=o.wr:=by
 cases o<;>simp only[es.rn]at h<;>(try split at h)<;>first|(obtain rfl:=eZ h;rfl)|cases h
def Gb:I V->List Nat->List Nat
 | .nil,l=>l
 | .node v a b,l=>(match v with|some v=>V.names v|none=>id) (Gb a (Gb b l))
def es.nms:es->List Nat
 | .loop _ _ F _ _ _=>Gb F []
 |o=>o.names
def Mf(h:I es):Nat->List Nat->I Nat->List Nat->Nat->Option (I Nat×List Nat×Nat)
 |0,_,_,_,_=>none
 |_+1,[],ρ,rF,k=>some (ρ,rF,k)
 |f+1,m::q,ρ,rF,k=>match ρ.get m with
  |some _=>Mf h f q ρ rF k
  |none=>Mf h f ((match h.get m with|some o=>o.nms|none=>[])++q) (ρ.set m (some k)) (m::rF) (k+1)
def Yd:Nat->I Nat
 |0=>.nil
 |k+1=>(Yd k).set k (some k)
def KB:Nat->List Nat
 |0=>[]
 |k+1=>k::KB k
def IM(h:I es):Nat->List Nat->List Nat
 |0,l=>l
 |k+1,l=>(match h.get k with|some o=>o.nms|none=>[])++IM h k l
def BW(ν:Nat->Option Nat):Nat->Bool
 |0=>true
 |k+1=>C8 ν k&&BW ν k
theorem yE{ν:Nat->Option Nat}:∀{k:Nat},BW ν k=true->∀m,m<k->ν m=some m
 |0,_,m,L=>by omega
 |k+1,h,m,L=>by
  simp only[BW,ay]at h;by_cases e:m=k
  . subst e;exact oh h.1
  . exact yE h.2 m S
def E5(ν:Nat->Option Nat)(h:I es):List Nat->I es->Option (I es)
 | [],t=>some t
 |m::r,t=>match h.get m with
  |none=>E5 ν h r t
  |some o=>match ν m with
   |some k=>match o.rn ν with
    |some o2=>match Nat.blt k gO with
     |true=>E5 ν h r (t.set k (some o2))
     |false=>none
    |none=>none
   |none=>none
theorem xz{ν:Nat->Option Nat}{h:I es}:∀(l:List Nat) (t t2:I es),E5 ν h l t=some t2->(∀k o2,t.get k=some o2->∃m o,ν m=some k/\h.get m=some o/\o.rn ν=some o2)->
  ∀k o2,t2.get k=some o2->∃m o,ν m=some k/\h.get m=some o/\o.rn ν=some o2
 | [],t,t2,e,ht=>by simp only[E5,aq]at e;subst e;exact ht
 |m::r,t,t2,e,ht=>by
  simp only[E5]at e;split at e
  . exact xz r t t2 e ht
  . rename_i o ho;split at e
    . rename_i k hk;split at e
      . rename_i o2 PL;split at e
        . rename_i fj;refine xz r _ t2 e fun j o3 h3=>?_;rw[I.gC _ _ _ (by simp[Nat.blt]at fj;omega)]at h3;split at h3
          . rename_i hj;obtain rfl:=eZ h3;subst hj;exact⟨m,o,hk,ho,PL⟩
          . exact ht j o3 h3
        . cases e
      . cases e
    . cases e
def z8(ν:Nat->Option Nat)(F:I V):List Nat->I V->Option (I V)
 | [],t=>some t
 |m::r,t=>match F.get m with
  |none=>z8 ν F r t
  |some v=>match v.rn ν with
   |some v2=>match Nat.blt m gO with
    |true=>z8 ν F r (t.set m (some v2))
    |false=>none
   |none=>none
theorem vg{ν:Nat->Option Nat}{F:I V}:∀(l:List Nat) (t t2:I V),z8 ν F l t=some t2->(∀k v2,t.get k=some v2->∃v,F.get k=some v/\v.rn ν=some v2)->
  ∀k v2,t2.get k=some v2->∃v,F.get k=some v/\v.rn ν=some v2
 | [],t,t2,e,ht=>by simp only[z8,aq]at e;subst e;exact ht
 |m::r,t,t2,e,ht=>by
  simp only[z8]at e;split at e
  . exact vg r t t2 e ht
  . rename_i v hv;split at e
    . rename_i v2 hv2;split at e
      . rename_i fj;refine vg r _ t2 e fun j o3 h3=>?_;rw[I.gC _ _ _ (by simp[Nat.blt]at fj;omega)]at h3;split at h3
        . rename_i hj;obtain rfl:=eZ h3;subst hj;exact⟨v,hv,hv2⟩
        . exact ht j o3 h3
      . cases e
    . cases e
def P0(ν:Nat->Option Nat):List (FuncId×ag×ag)->Option (List (FuncId×ag×ag))
 | []=>some []
 |(f,[],[.map (some m)])::r=>match Nat.beq f gO with
  |true=>match ν m with
   |some k=>match P0 ν r with
    |some r=>some ((gO,[],[.map (some k)])::r)
    |none=>none
   |none=>none
  |false=>none
 |_::_=>none
def IN:List (FuncId×ag×ag)->List Nat->List Nat
 |(_,_,[.map (some m)])::r,l=>m::IN r l
 |_,l=>l
theorem IP{ν:Nat->Option Nat}{E E':Env}(jP:∀m k,ν m=some k->E'.ι k=E.ι m):∀(l l2:List (FuncId×ag×ag)) (ds:List Deferred),P0 ν l=some l2->wM E l ds->wM E' l2 ds
 | [],l2,ds,e,r=>by simp only[P0,aq]at e;subst e;exact r
 |(f,c,args)::r,l2,ds,e,h=>by
  unfold P0 at e;split at e
  . rename_i heq;cases heq
  . rename_i f' m r' heq;cases heq;split at e
    . rename_i hf;have hf:=aJ hf;subst hf;split at e
      . rename_i k hk;split at e
        . rename_i r2 hr;obtain rfl:=eZ e;obtain⟨d,ys,r1,r2',q⟩:=h;refine⟨d,ys,?_,IP jP _ _ _ hr r2',q⟩;rcases r1 with⟨fj,_⟩|⟨_,m',b,s,q1,q2,q3⟩
          . exact absurd fj (dy _)
          . simp only[List.cons.injEq,V.map.injEq,aq,and_true]at q1;subst q1;exact .inr ⟨rfl,k,b,s,rfl,(jP _ k hk).trans q2,q3⟩
        . cases e
      . cases e
    . cases e
  . cases e
def lB(N:Nat)(live:List Nat)(s:St):Option St:=
 match Nat.ble N s.n with
 |false=>none
 |true=>match Mf s.h 100000 (IM s.h N (vS s.F live++IN s.iZ [])) (Yd N) (KB N) N with
  |some (ρ,rF,k)=>
   let ν:=C6 ρ (C5 rF k .nil) k
   match(BW ν N&&Nat.ble N k)&&Nat.ble gN N with
   |true=>match E5 ν s.h rF .nil with
    |some C=>match z8 ν s.F live .nil with
     |some PE=>match P0 ν s.iZ with
      |some d2=>some { F:=PE,h:=C,n:=k,iZ:=d2 }
      |none=>none
     |none=>none
    |none=>none
   |false=>none
  |none=>none
structure mO(N:Nat)(E:Env)(h:I es)(w:World)(E':Env)(h':I es)(w':World):Prop where
 le:∀m b s,m<N->E.ι m=some (b,s)->E'.ι m=some (b,s)/\E'.β b=E.β b
 low:∀m,m<N->E'.ι m=E.ι m
 fz:∀b c,E.φ b=some c->E'.φ b=some c
 good:Good E' h' w'
 size:w.heap.size<=w'.heap.size
 tape:w'.tape=w.tape
 os:w'.os=w.os
 output:w'.output=w.output
 keep:∀b,b<w.heap.size->(∀m s,fu h m->E.ι m≠some (b,s))->w'.heap[b]? =w.heap[b]?
 wj:∀m b s,h'.get m≠none->E'.ι m=some (b,s)->b<w.heap.size->∃m0 s0,h.get m0≠none/\E.ι m0=some (b,s0)/\(fu h' m->fu h m0)
 FM:∀b c,E'.φ b=some c->E.φ b=some c\/w.heap.size<=b\/∃m s,fu h m/\E.ι m=some (b,s)
theorem mO.of{N n:Nat}{E E':Env}{h h':I es}{w w':World}(u:jt E h w E' h' w')(gd:∀m,m<n->E'.ι m=E.ι m)(hn:N<=n):mO N E h w E' h' w':=
 ⟨fun m b s _ e=>u.le.nm m b s e,fun m L=>gd m S,u.le.fz,u.good,u.size,u.tape,u.os,u.output,u.keep,u.wj,u.FM⟩
theorem mO.trans{N:Nat}{E E1 E2:Env}{h h1 C:I es}{w w1 w2:World}(a:mO N E h w E1 h1 w1)(b:mO N E1 h1 w1 E2 C w2):mO N E h w E2 C w2 where
 le:=fun m x s L e=>by
  obtain⟨e1,b1⟩:=a.le m x s L e;obtain⟨e2,b2⟩:=b.le m x s L e1;exact⟨e2,b2.trans b1⟩
 low:=fun m L=>(b.low m L).trans (a.low m L)
 fz:=fun x c e=>b.fz x c (a.fz x c e)
 good:=b.good
 size:=bN a.size b.size
 tape:=b.tape.trans a.tape
 os:=b.os.trans a.os
 output:=b.output.trans a.output
 keep:=fun x K hn=>by
  rw[b.keep x (cO K a.size) ?_,a.keep x K hn];intro m s L e;obtain⟨m0,s0,_,e0,k0⟩:=a.wj m x s L.live e K;exact hn m0 s0 (k0 L) e0
 wj:=fun m x s L e K=>by
  obtain⟨m1,s1,k1,e1,l1⟩:=b.wj m x s L e (cO K a.size);obtain⟨m0,s0,k0,e0,l0⟩:=a.wj m1 x s1 k1 e1 K;exact⟨m0,s0,k0,e0,fun q=>l0 (l1 q)⟩
 FM:=fun x c A=>by
  rcases b.FM x c A with q|q|⟨m,s,q1,q2⟩
  . exact a.FM x c q
  . exact .inr (.inl (bN a.size q))
  . rcases bx x w.heap.size with K|K
    . obtain⟨m0,s0,_,e0,k0⟩:=a.wj m x s q1.live q2 K;exact .inr (.inr ⟨m0,s0,k0 q1,e0⟩)
    . exact .inr (.inl K)
theorem mO.refl{N:Nat}{E:Env}{h:I es}{w:World}(g:Good E h w):mO N E h w E h w:=
 .of (n:=N) (jt.refl g) (fun _ _=>rfl) (aK _)
theorem mO.CH{N:Nat}{E E':Env}{h h':I es}{w w':World}(u:mO N E h w E' h' w')(hd:qK E N):jt E h w E' h' w':=
 ⟨⟨fun m b s e=>u.le m b s (by
  by_cases q:m<N
  . exact q
  . rw[hd m (Nat.le_of_not_lt q)]at e;cases e) e,u.fz⟩,u.good,u.size,u.tape,u.os,u.output,u.keep,u.wj,u.FM⟩
theorem oM{N n0:Nat}{live:List Nat}{s s2:St}{E:Env}{a:Act}{w:World}(e:lB N live s=some s2)(r:lI E n0 s a w):N<=s.n/\N<=s2.n/\∃E2,lI E2 n0 s2 a w/\mO N E s.h w E2 s2.h w:=by
 unfold lB at e;split at e
 . cases e
 rename_i hn;split at e
 case h_2=>cases e
 rename_i ρ rF k ht;revert e;generalize avF:C5 rF k .nil=C7;intro e;simp only at e;split at e
 case h_2=>cases e
 rename_i gd;simp only[ay]at gd;split at e
 case h_2=>cases e
 rename_i C hh;split at e
 case h_2=>cases e
 rename_i PE zz;split at e
 case h_2=>cases e
 rename_i d2 Em;simp only[aq]at e;subst e
 let E2:Env:=⟨fun m=>if m<k then(match C7.get m with|some old=>E.ι old|none=>none)else none,E.β,E.φ⟩
 have jP:∀m j,C6 ρ C7 k m=some j->E2.ι j=E.ι m:=by
  intro m j hj;obtain⟨_,C,h3⟩:=IJ hj;show(if j<k then(match C7.get j with|some old=>E.ι old|none=>none)else none)=_;rw[aF h3,C]
 have HB:∀m,m<N->E2.ι m=E.ι m:=fun m L=>jP m m (yE gd.1.1 m L);have Tk:=xz rF .nil C hh (fun j o hj=>by simp[I.get]at hj);have yC:Good E2 C w:=by
  refine⟨?_,?_,?_,fun p hp=>(HB _ (cO (Me hp) (aE gd.2))).trans (r.good.lG p hp),fun b c q=>⟨(r.good.jG b c q).1,fun m s1 L e1=>?_⟩⟩
  case refine_4=>
   obtain⟨o,ho,hwo⟩:=L;obtain⟨old,p,k1,k2,k3⟩:=Tk m o ho;rw[jP old m k1]at e1;exact(r.good.jG b c q).2 old s1 ⟨p,k2,(IL k3).symm.trans hwo⟩ e1
  . intro m o2 L;obtain⟨old,o,k1,k2,k3⟩:=Tk m o2 L;obtain⟨b,T,e1,e2⟩:=r.good.rel old o k2;exact⟨b,T,(jP old m k1).trans e1,Ga jP (fun _ _ _ _ _ _=>rfl) (fun _ _ q=>q) rfl o o2 k3 e2⟩
  . intro m m' b s1 s2 jD L ue e1 e2;obtain⟨o,ho,hwo⟩:=L;obtain⟨o',FV⟩:=bK.1 ue;obtain⟨old,p,k1,k2,k3⟩:=Tk m o ho;obtain⟨Ia,p',P1,k2',_⟩:=Tk m' o' FV;rw[jP old m k1]at e1;rw[jP Ia m' P1]at e2;by_cases qn:old=Ia
    . subst qn;rw[k1]at P1;simp only[aq]at P1;exact jD P1
    . exact r.good.inj old Ia b s1 s2 qn ⟨p,k2,(IL k3).symm.trans hwo⟩ (by rw[k2'];simp) e1 e2
  . intro m b s1 e1;have e1:(if m<k then(match C7.get m with|some old=>E.ι old|none=>none)else none)=some (b,s1):=e1;split at e1
    . split at e1
      . exact r.good.qG _ b s1 e1
      . cases e1
    . cases e1
 refine⟨aE hn,aE gd.1.2,E2,⟨yC,?_,?_,r.size,?_⟩,?_⟩
 . intro m L;show(if m<k then _ else none)=none;rw[aD (by show ¬m<k;have:k<=m:=L;omega)]
 . intro t v2 hv;obtain⟨v,k1,k2⟩:=vg live .nil PE zz (fun j o hj=>by simp[I.get]at hj) t v2 hv;obtain⟨v',h1,C⟩:=r.F t v k1;exact⟨v',h1,ve jP (fun _ _ _ _ _ _=>rfl) (fun _ _ q=>q) v v2 v' k2 C⟩
 . exact IP jP _ _ _ Em r.iZ
 . refine⟨fun m b s1 L e1=>⟨(HB m L).trans e1,rfl⟩,HB,fun _ _ q=>q,yC,aK _,rfl,rfl,rfl,fun _ _ _=>rfl,?_,fun _ _ q=>.inl q⟩;intro m b s1 L e1 U;obtain⟨o,ho⟩:=bK.1 L;obtain⟨old,p,k1,k2,k3⟩:=Tk m o ho;rw[jP old m k1]at e1;refine⟨old,s1,by rw[k2];simp,e1,fun⟨o',q1,q2⟩=>⟨p,k2,?_⟩⟩;rw[ho]at q1;cases q1;exact(IL k3).symm.trans q2
def sB:Code->Bool | .seq _ _=>true|_=>false
def dO:Code->Code | .seq a _=>a|c=>c
def eB:Code->Code | .seq _ b=>b|c=>c
def KC(c:Code)(o:Operand->Bool):Bool:=match c with | .cond x _ _=>o x|_=>false
def WD:Code->Operand | .cond c _ _=>c|_=>.const (.bool true)
def l9:Code->Code | .cond _ a _=>a|c=>c
def pc:Code->Code | .cond _ _ b=>b|c=>c
def nC:Code->Nat->Bool | .block i _,j=>Nat.beq i j|_,_=>false
def o4:Code->Bool | .loop _=>true|_=>false
def dP:Code->Code | .block _ c=>c | .loop c=>c|c=>c
def ek:Nat->Code->Code
 |k+1,.seq a b=>.seq a (ek k b)
 |_,_=>.skip
def dH:Nat->Code->Code
 |k+1,.seq _ b=>dH k b
 |_,c=>c
def s'(P:Program)(n0:Nat)(w0:World)(c:Code)(s:St)(Q:Exit->St->Prop):Prop:=
 ∀(hx:Exit->Act->World->Prop) (a:Act) (w:World),adv n0 w0 s a w->(∀y T a' w',Q y T->adv n0 w0 T a' w'->hx y a' w')->c.wp P hx a w
section
variable{P:Program}{cf:gu}{fr n0:Nat}{w0:World}{c:Code}{s T:St}{Q Q1:Exit->St->Prop}
def andThen(iX:St->Prop)(Q:Exit->St->Prop):Exit->St->Prop
 | .normal,s=>iX s
 |y,s=>Q y s
def gT(i:Nat)(Q:Exit->St->Prop):Exit->St->Prop
 | .exit j,s=>if j=i then Q .normal s else Q (.exit j) s
 |y,s=>Q y s
def TR(P:Program)(n0:Nat)(w0:World)(c:Code)(Q:Exit->St->Prop):Nat->St->Prop
 |0,_=>False
 |n+1,s=>s' P n0 w0 c s (andThen (fun T=>TR P n0 w0 c Q n T) Q)
def WE(f:St->Option (List (fm×St))):List (fm×St)->Option (List (fm×St))
 | []=>some []
 |(x,s)::r=>match WE f r with
  |some tl=>match x with
   | .normal=>match f s with
     |some l=>some (l++tl)
     |none=>none
   |x=>some ((x,s)::tl)
  |none=>none
def T5(i:Nat):List (fm×St)->List (fm×St)
 | []=>[]
 |(x,s)::r=>match x with
  | .exit j=>match Nat.beq j i with
    |true=>(.normal,s)::T5 i r
    |false=>(.exit j,s)::T5 i r
  |x=>(x,s)::T5 i r
def adx(OV:Nat->Bool):Operand->Bool
 | .tmp t=>OV t
 |_=>false
def Be(P:Program)(cf:gu)(fr:Nat)(OV:Nat->Bool):Code->St->Option (List (fm×St))
 | .seq a b,s=>match Be P cf fr OV a s with
   |some l=>WE (Be P cf fr OV b) l
   |none=>none
 | .cond c a b,s=>match jn s.F c with
   |some (.bool t)=>match adx OV c with
    |true=>match Be P cf fr OV a s with
     |some l1=>match Be P cf fr OV b s with
      |some l2=>some (l1++l2)
      |none=>none
     |none=>none
    |false=>match t with
     |true=>Be P cf fr OV a s
     |false=>Be P cf fr OV b s
   |_=>none
 | .block i c,s=>match Be P cf fr OV c s with
   |some l=>some (T5 i l)
   |none=>none
 |c,s=>match gY P cf fr c s with
  |some r=>some [r]
  |none=>none
def I.beq{α:Type}(eq:α->α->Bool):I α->I α->Bool
 | .nil,.nil=>true
 | .node a l r,.node b l' r'=>(match a,b with|none,none=>true|some a,some b=>eq a b|_,_=>false)&&(I.beq eq l l'&&I.beq eq r r')
 |_,_=>false
def Mg:List (V×V×Nat)->List (V×V×Nat)->Bool
 | [],[]=>true
 |x::xs,y::ys=>(V.beq x.1 y.1&&V.beq x.2.1 y.2.1)&&(Nat.beq x.2.2 y.2.2&&Mg xs ys)
 |_,_=>false
def es.beq:es->es->Bool
 | .cells a,.cells b=>V.pn a b
 | .map a c,.map b d=>Mg a b&&Nat.beq c d
 | .nM a p,.nM b q=>mX a b&&Nat.beq p q
 | .ints k a,.ints j b=>decide (k=j)&&decide (a=b)
 |_,_=>false
def St.beq(a b:St):Bool:=I.beq V.beq a.F b.F&&(I.beq es.beq a.h b.h&&(Nat.beq a.n b.n&&(a.iZ.isEmpty&&b.iZ.isEmpty)))
def St.cell(s:St)(m i:Nat)(v:V):St:=match s.h.get m with
 |some (.cells cs)=>match Nat.blt m gO with
  |true=>{ s with h:=s.h.set m (some (.cells (cs.set i v))) }
  |false=>s
 |_=>s
def St.cellAt(s:St)(m i:Nat):Option V:=match s.h.get m with
 |some (.cells cs)=>match Nat.blt m gO with
  |true=>cs[i]?
  |false=>none
 |_=>none
def E6(live:List Nat)(m i:Nat)(z:V)(t:St):List (fm×St)->Option (List (Option V))
 | []=>some []
 |(.normal,s)::r=>match norm live s with
  |some s2=>match St.beq (s2.cell m i z) t with
   |true=>match E6 live m i z t r with
    |some l=>some (s2.cellAt m i::l)
    |none=>none
   |false=>none
  |none=>none
 |_=>none
def Ye(P:Program)(cf:gu)(fr:Nat)(OV:Nat->Bool)(live W:List Nat)(m i:Nat)(z:V)(c:Code)(s t:St):Option (List (List (Option V))×List (Option V)):=
 match Be P cf fr OV c s with
 |some l=>match E6 live m i z t l with
  |some cells=>some (l.map fun p=>W.map p.2.F.get,cells)
  |none=>none
 |none=>none
end
mutual
def V.qS:V->Bool
 | .fn (.func _) a c=>V.qx a&&V.qx c
 | .fn _ _ _=>false
 | .iface _ x=>V.qS x
 | .agg cs=>V.qx cs
 | .gK cs=>V.qx cs
 |_=>true
def V.qx:ag->Bool
 | []=>true
 |x::xs=>V.qS x&&V.qx xs
end
mutual
theorem V.beq_refl:∀v:V,v.qS=true->V.beq v v=true
 | .bool b,_=>by cases b<;>rfl
 | .int k n,_=>by simp[V.beq]
 | .str s,_=>by simp[V.beq,kM]
 | .ptr none,_=>rfl
 | .ptr (some (m,o)),_=>by simp[V.beq,qO]
 | .fk none l c e,_=>by simp[V.beq,qO]
 | .fk (some (m,o)) l c e,_=>by simp[V.beq,qO]
 | .map none,_=>rfl
 | .map (some m),_=>by simp[V.beq,FH]
 | .fn f a c,h=>by
   cases f<;>simp only[V.qS,aM,ay]at h;simp[V.beq,Pc,V.sD a h.1,V.sD c h.2]
 | .kU,_=>rfl
 | .iface t x,h=>by simp only[V.qS]at h;simp[V.beq,V.beq_refl x h]
 | .nilIface,_=>rfl
 | .agg cs,h=>by simp only[V.qS]at h;simp[V.beq,V.sD cs h]
 | .gK cs,h=>by simp only[V.qS]at h;simp[V.beq,V.sD cs h]
 | .eM f n cs,_=>by simp[V.beq,qp cs]
 | .eo cs,_=>by simp[V.beq,qp cs]
theorem V.sD:∀vs:ag,V.qx vs=true->V.pn vs vs=true
 | [],_=>rfl
 |x::xs,h=>by simp only[V.qx,ay]at h;simp[V.pn,V.beq_refl x h.1,V.sD xs h.2]
end
inductive Ob where
 |same (a b:V)
 |call (f:FuncId) (args:ag) (v:V)
def Ob.ok(cf:gu):Ob->Prop
 | .same a b=>a=b
 | .call f args v=>∀h n,cf f args h n=some (.ret v,h,n)
end Go.Eng
