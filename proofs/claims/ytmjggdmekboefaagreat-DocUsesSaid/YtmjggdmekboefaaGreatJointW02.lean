/- Lemmas of the engine. No conditions. -/
import Derived.Test.YtmjggdmekboefaaGreatJointW01
import Derived.OrdersIn
import Derived.Recover
import Derived.LoopN
import Derived.LoopNIn
import Derived.RangeFuncRecord
import Derived.RangeFuncIn
import Derived.RangeFuncLeaves
import Derived.Below
set_option linter.unusedVariables false
set_option linter.unusedSimpArgs false
set_option linter.unusedSectionVars false
namespace Go.Eng
open Go
section
variable{P:Program}{cf:fL}{ops:Array Oper}{N n0 gH:Nat}{h0:I O}{kO:I V}{val:Nat->V}{dJ:List tQ}{d:Dr}{E0:Env}{w0:World}{xP:List Deferred}
variable{hm:Nat->Bool}{ms fm:Nat}{E:Env}{a:Act}{w:World}{h1:Exit->Act->World->Prop}{hc:Act->World->Prop}
theorem Inv.RJ{dx:af}(Tr:Inv ops N n0 gH h0 kO val dJ dx E0 w0 xP hm ms fm E a w)(hl:gH<=ops.size):pH E (eE h0 (N+ops.size) dJ fm).2.2:=by
 intro k Y;cases q:E.ι k with
 |none=>rfl
 |some p=>
  have K:=Tr.CV;rcases Tr.qd k p q with h|⟨i,b,_,R,h3⟩|h
  . omega
  . have:=Tr.NX i R;omega
  . omega
theorem Inv.sub(_hr:kU ops n0)(hl:gH<=ops.size)(f:mw P cf ops N h0 kO val dJ gH d)(ht:∀y∈d.dx,N+y.1<fV)(Tr:Inv ops N n0 gH h0 kO val dJ d.dx E0 w0 xP hm ms fm E a w)
  {ia:Nat} (ha:∀k,ek ia k=true->hm k=true):
  Sub (gu N d.dx (eE h0 (N+ops.size) dJ fm).1 (eE h0 (N+ops.size) dJ fm).2.1 ia) (gu N d.dx (eE h0 (N+ops.size) dJ fm).1 (eE h0 (N+ops.size) dJ fm).2.1 ms):=by
 intro k o Y;rcases iT (x:=(eE h0 (N+ops.size) dJ fm).2.1) (m:=(eE h0 (N+ops.size) dJ fm).1) (ia:=ia) ht f.one k with⟨i,b,Q,R,h3,h4,h5⟩|⟨Q,R⟩
 . rw[h5]at Y;cases Y;subst h4;exact ji ht f.one Q (by rw[Tr.bits];exact ha i R) h3
 . rw[R]at Y;rcases iT (x:=(eE h0 (N+ops.size) dJ fm).2.1) (m:=(eE h0 (N+ops.size) dJ fm).1) (ia:=ms) ht f.one k with⟨i,b,g1,g2,g3,g4,g5⟩|⟨g1,g2⟩
   . subst g4;have hi:=Tr.NX i (by rw[<- Tr.bits];exact g2);rw[Tr.free i G g3]at Y;cases Y
   . rw[g2];exact Y
theorem mX(hb:∀i,ek ms i=hm i)(j:Nat):∀i,ek (ms|||2^j) i=(hm i||decide (i=j)):=by
 intro i;rw[yW,BR,hb];by_cases q:i=j
 . subst q;simp
 . have:¬j=i:=fun e=>q e.symm;simp[q,this]
theorem Inv.quiet(hr:kU ops n0)(_hl:gH<=ops.size)(_f:mw P cf ops N h0 kO val dJ gH d)(Tr:Inv ops N n0 gH h0 kO val dJ d.dx E0 w0 xP hm ms fm E a w)
  {j:Nat} {o:Oper} (ho:ops[j]? =some o) (hj:j<gH) (w6:hm j=false) (hd:∀e∈o.after,Region.binds .any e=true->hm e.on=true) (BW:∀(c:Nat) (e:tQ),dJ[c]? =some e->e.1≠j)
  {E':Env} {w':World} {v':Value} (hv:dQ E' (val j) v') (hu:iL E0 h0 w0 E' (gu N d.dx (eE h0 (N+ops.size) dJ fm).1 (eE h0 (N+ops.size) dJ fm).2.1 (ms|||2^j)) w') (lj:E.le E')
  (n7:∀k,k<N->E'.ι k=E.ι k) (pN:∀k p,E'.ι k=some p->E.ι k=some p\/(∃b,(j,b)∈d.dx/\k=N+j)):
  Inv ops N n0 gH h0 kO val dJ d.dx E0 w0 xP (fun i=>hm i||decide (i=j)) (ms|||2^j) fm E' (a.put o.dst v') w':=by
 obtain⟨g1,g2⟩:=Tr.frame hr ho lj hv;refine⟨mX Tr.bits j,fun i hi=>?_,fun i q hi hq e he hb=>?_,fun c e he=>?_,Tr.Zg,g1,g2,hu,fun k Y=>by rw[n7 k Y];exact Tr.old k Y,fun k p hp=>?_,Tr.free,Tr.CV,by rw[lQ];exact Tr.size,by rw[jA];exact Tr.gZ⟩
 . rcases bV _ _ |>.mp hi with h|h
   . exact Tr.NX i h
   . simp at h;omega
 . rcases bV _ _ |>.mp hi with h|h
   . rw[Tr.closed i q h hq e he hb];rfl
   . simp at h;subst h;rw[ho]at hq;cases hq;rw[hd e he hb];rfl
 . rw[<- Tr.Dl c e he];simp[BW c e he]
 . rcases pN k p hp with h|⟨b,Q,R⟩
   . rcases Tr.qd k p h with h|⟨i,b,Q,R,h3⟩|h
     . exact .inl h
     . exact .inr (.inl ⟨i,b,Q,by rw[R];rfl,h3⟩)
     . exact .inr (.inr h)
   . exact .inr (.inl ⟨j,b,Q,by simp,R⟩)
theorem Inv.aaf(hr:kU ops n0)(hl:gH<=ops.size)(f:mw P cf ops N h0 kO val dJ gH d)(ht:∀y∈d.dx,N+y.1<fV)(Tr:Inv ops N n0 gH h0 kO val dJ d.dx E0 w0 xP hm ms fm E a w)
  {ia:Nat} (ha:∀k,ek ia k=true->hm k=true) (S:∀k,ek (eE h0 (N+ops.size) dJ fm).1 k=true->ek ia k=true) {E':Env} {h:I O} {w':World}
  (hu:iL E (gu N d.dx (eE h0 (N+ops.size) dJ fm).1 (eE h0 (N+ops.size) dJ fm).2.1 ia) w E' h w') (fq:∀k,k<(eE h0 (N+ops.size) dJ fm).2.2->E'.ι k=E.ι k):
  ∀i,i<ops.size->ek ia i=false->h.get (N+i)=none:=by
 intro i hi GU;cases q:h.get (N+i)with
 |none=>rfl
 |some o=>
  exfalso;obtain⟨b,s,Q,_⟩:=hu.good.rel _ o q;have eM:N+i<(eE h0 (N+ops.size) dJ fm).2.2:=by have:=Tr.CV;omega
  have hE:=Q;rw[fq _ eM]at hE;have hmi:ek (eE h0 (N+ops.size) dJ fm).1 i=false:=by
   cases c:ek (eE h0 (N+ops.size) dJ fm).1 i with
   |false=>rfl
   |true=>rw[S i c]at GU;cases GU
  rcases Tr.qd _ _ hE with c|⟨i',b',k1,k2,k3⟩|c
  . omega
  . have:i'=i:=by omega
    subst this;have iP:(gu N d.dx (eE h0 (N+ops.size) dJ fm).1 (eE h0 (N+ops.size) dJ fm).2.1 ms).get (N+i')=some b':=ji ht f.one k1 (by rw[Tr.bits];exact k2) hmi;obtain⟨m0,s0,a1,a2,_⟩:=hu.tv (N+i') b s (by rw[q];simp) Q (Tr.tA.good.oy _ _ _ hE);have H:(gu N d.dx (eE h0 (N+ops.size) dJ fm).1 (eE h0 (N+ops.size) dJ fm).2.1 ia).get (N+i')=none:=by
     rcases iT (x:=(eE h0 (N+ops.size) dJ fm).2.1) (m:=(eE h0 (N+ops.size) dJ fm).1) (ia:=ia) ht f.one (N+i')with⟨i2,b2,g1,g2,g3,g4,g5⟩|⟨g1,g2⟩
     . have:i2=i':=by omega
       subst this;rw[GU]at g2;cases g2
     . rw[g2];exact Tr.free i' hi hmi
    have ja:m0≠N+i':=by intro e;subst e;exact a1 H
    have Zf:b'.wr=true:=by
     obtain⟨F,_,_,_,_,q,_⟩:=f.AU i' _ b' k1 (aZ hi);exact q
    refine Tr.tA.good.inj (N+i') m0 b s s0 (fun q=>ja q.symm) ⟨b',iP,Zf⟩ ?_ hE a2;cases c:(gu N d.dx (eE h0 (N+ops.size) dJ fm).1 (eE h0 (N+ops.size) dJ fm).2.1 ia).get m0 with
    |none=>exact absurd c a1
    |some o'=>rw[Tr.sub hr hl f ht ha m0 o' c];simp
  . omega
theorem Inv.effect(hr:kU ops n0)(hl:gH<=ops.size)(f:mw P cf ops N h0 kO val dJ gH d)(ht:∀y∈d.dx,N+y.1<fV)(Tr:Inv ops N n0 gH h0 kO val dJ d.dx E0 w0 xP hm ms fm E a w)
  {j:Nat} {o:Oper} (ho:ops[j]? =some o) (hj:j<gH) (w6:hm j=false) (hd:∀e∈o.after,Region.binds .any e=true->hm e.on=true) (zW:∀b,(j,b)∉d.dx)
  {h:I O} {n:Nat} (he:dJ[fm]? =some (j,iD ops j,h,n)) {E':Env} {w':World} {v':Value} (hv:dQ E' (val j) v')
  (hu:iL E (gu N d.dx (eE h0 (N+ops.size) dJ fm).1 (eE h0 (N+ops.size) dJ fm).2.1 (iD ops j)) w E' h w')
  (fq:∀k,k<(eE h0 (N+ops.size) dJ fm).2.2->E'.ι k=E.ι k) (pN:pH E' n) (hn:(eE h0 (N+ops.size) dJ fm).2.2<=n):
  Inv ops N n0 gH h0 kO val dJ d.dx E0 w0 xP (fun i=>hm i||decide (i=j)) (ms|||2^j) (fm+1) E' (a.put o.dst v') w':=by
 have hJ:fm<dJ.length:=(aO.1 he).1;have mR:eE h0 (N+ops.size) dJ (fm+1)=(iD ops j,h,n):=by simp only[eE,he]
 have AI:∀k,ek (iD ops j) k=true->hm k=true:=fun k Y=>rG hr Tr.closed ho hd Y;have S:∀k,ek (eE h0 (N+ops.size) dJ fm).1 k=true->ek (iD ops j) k=true:=by
  intro k Y;cases fm with
  |zero=>simp[eE,jb]at Y
  |succ c=>
   have K:dJ[c]? =some (dJ[c]'(by omega)):=au G;simp only[eE,K]at Y;obtain⟨_,o',_,_,h3⟩:=f.tB c _ K;rw[h3]at Y;exact DQ hr.vI j _ k (f.chain (c+1) c _ _ G he K) Y
 have Ug:=Tr.aaf hr hl f ht AI S hu fq;obtain⟨g1,g2⟩:=Tr.frame hr ho hu.le hv;have K:=Tr.CV;refine⟨mX Tr.bits j,fun i hi=>?_,fun i q hi hq e AH hb=>?_,fun c e AH=>?_,hJ,g1,g2,?_,fun k Y=>?_,fun k p hp=>?_,?_,?_,by rw[lQ];exact Tr.size,by rw[jA];exact Tr.gZ⟩
 . rcases bV _ _ |>.mp hi with h|h
   . exact Tr.NX i h
   . simp at h;omega
 . rcases bV _ _ |>.mp hi with h|h
   . rw[Tr.closed i q h hq e AH hb];rfl
   . simp at h;subst h;rw[ho]at hq;cases hq;rw[hd e AH hb];rfl
 . have Q:=Tr.Dl c e AH;constructor
   . intro hs;rcases bV _ _ |>.mp hs with q|q
     . have:=Q.1 q;omega
     . simp at q;by_cases hcJ:c<fm+1
       . exact hcJ
       . have:=f.chain c fm e _ G AH he;simp only at this;rw[q]at this;have:=I2 hr.vI j j this;omega
   . intro I3;by_cases q:c<fm
     . rw[Q.2 q];rfl
     . have:c=fm:=by omega
       subst this;rw[he]at AH;cases AH;simp
 . rw[mR];refine Tr.tA.trans (iL.frame Tr.tA.good (Tr.sub hr hl f ht AI) hu fun k=>?_);rcases iT (x:=h) (m:=iD ops j) (ia:=ms|||2^j) ht f.one k with⟨i,b,k1,k2,k3,k4,k5⟩|⟨k1,k2⟩
   . simp only[k5];subst k4;have hi:hm i=true:=by
      rw[mX Tr.bits]at k2;rcases bV _ _ |>.mp k2 with q|q
      . exact q
      . simp at q;subst q;exact absurd k1 (zW b)
     have hmi:ek (eE h0 (N+ops.size) dJ fm).1 i=false:=by
      cases c:ek (eE h0 (N+ops.size) dJ fm).1 i with
      |false=>rfl
      |true=>rw[S i c]at k3;cases k3
     have jr:i<ops.size:=by have:=Tr.NX i hi;omega
     rw[Ug i jr k3];have H:(gu N d.dx (eE h0 (N+ops.size) dJ fm).1 (eE h0 (N+ops.size) dJ fm).2.1 (iD ops j)).get (N+i)=none:=by
      rcases iT (x:=(eE h0 (N+ops.size) dJ fm).2.1) (m:=(eE h0 (N+ops.size) dJ fm).1) (ia:=iD ops j) ht f.one (N+i)with⟨i2,b2,q1,q2,q3,q4,q5⟩|⟨q1,q2⟩
      . have:i2=i:=by omega
        subst this;rw[k3]at q2;cases q2
      . rw[q2];exact Tr.free i jr hmi
     simp only[H,if_true];rw[ji ht f.one k1 (by rw[Tr.bits];exact hi) hmi]
   . rw[k2];cases Y:h.get k with
     |some o'=>rfl
     |none=>
      simp only;split
      . rename_i H;rcases iT (x:=(eE h0 (N+ops.size) dJ fm).2.1) (m:=(eE h0 (N+ops.size) dJ fm).1) (ia:=ms) ht f.one k with⟨i,b,q1,q2,q3,q4,q5⟩|⟨q1,q2⟩
        . exfalso;subst q4;cases c:ek (iD ops j) i with
          |false=>exact k1 i b q1 (by rw[mX Tr.bits];rw[Tr.bits]at q2;rw[q2];rfl) c rfl
          |true=>
           rw[ji ht f.one q1 c q3]at H;cases H
        . rw[q2];rcases iT (x:=(eE h0 (N+ops.size) dJ fm).2.1) (m:=(eE h0 (N+ops.size) dJ fm).1) (ia:=iD ops j) ht f.one k with⟨i,b,r1,r2,r3,r4,r5⟩|⟨r1,r2⟩
          . rw[r5]at H;cases H
          . rw[r2]at H;exact H.symm
      . rfl
 . rw[fq k G];exact Tr.old k Y
 . by_cases q:k<(eE h0 (N+ops.size) dJ fm).2.2
   . rw[fq k q]at hp;rcases Tr.qd k p hp with h|⟨i,b,Q,R,h3⟩|h
     . exact .inl h
     . exact .inr (.inl ⟨i,b,Q,by rw[R];rfl,h3⟩)
     . rw[mR];exact .inr (.inr ⟨h.1,by show k<n;omega⟩)
   . rw[mR];refine .inr (.inr ⟨G,?_⟩);by_cases q2:k<n
     . exact q2
     . rw[pN k G]at hp;cases hp
 . rw[mR];exact fun i hi hb=>Ug i hi hb
 . rw[mR];simp only;omega
end
section
variable{P:Program}{cf:fL}{ops:Array Oper}{N n0 gH:Nat}{h0:I O}{kO:I V}{val:Nat->V}{dJ:List tQ}{d:Dr}{E0:Env}{w0:World}{xP:List Deferred}
variable{hm:Nat->Bool}{ms fm:Nat}{E:Env}{a:Act}{w:World}{h1:Exit->Act->World->Prop}{hc:Act->World->Prop}{qU:Option Nat}
theorem Inv.step(lA:gq P cf)(hr:kU ops n0)(hl:gH<=ops.size)(f:mw P cf ops N h0 kO val dJ gH d)(ht:∀y∈d.dx,N+y.1<fV)(Tr:Inv ops N n0 gH h0 kO val dJ d.dx E0 w0 xP hm ms fm E a w)
  {j:Nat} {o:Oper} (ho:ops[j]? =some o) (hj:j<gH) (w6:hm j=false) (hd:∀e∈o.after,Region.binds .any e=true->hm e.on=true)
  (Y:∀J' E' a' w',Inv ops N n0 gH h0 kO val dJ d.dx E0 w0 xP (fun i=>hm i||decide (i=j)) (ms|||2^j) J' E' a' w'->hc a' w'):wpOpIn (fz qU) 0 P ops h1 j hc a w:=by
 have Uh:j<ops.size:=by omega
 have AI:∀k,ek (iD ops j) k=true->hm k=true:=fun k Y=>rG hr Tr.closed ho hd Y;have hmj:ek (eE h0 (N+ops.size) dJ fm).1 j=false:=by
  cases c:ek (eE h0 (N+ops.size) dJ fm).1 j with
  |false=>rfl
  |true=>rw[Tr.aae hr f c]at w6;cases w6
 have yM:E.ι (N+j)=none:=by
  cases q:E.ι (N+j)with
  |none=>rfl
  |some p=>
   rcases Tr.qd _ p q with h|⟨i,b,_,R,h3⟩|h
   . omega
   . have:i=j:=by omega
     subst this;rw[w6]at R;cases R
   . omega
 have Ui:(∀b,(j,b)∉d.dx)->∀k,(gu N d.dx (eE h0 (N+ops.size) dJ fm).1 (eE h0 (N+ops.size) dJ fm).2.1 (ms|||2^j)).get k=
   (gu N d.dx (eE h0 (N+ops.size) dJ fm).1 (eE h0 (N+ops.size) dJ fm).2.1 ms).get k:=by
  intro zW k;rcases iT (x:=(eE h0 (N+ops.size) dJ fm).2.1) (m:=(eE h0 (N+ops.size) dJ fm).1) (ia:=ms|||2^j) ht f.one k with⟨i,b,k1,k2,k3,k4,k5⟩|⟨k1,k2⟩
  . subst k4;rw[k5,ji ht f.one k1 ?_ k3];rw[mX Tr.bits]at k2;rcases bV _ _ |>.mp k2 with q|q
    . rw[Tr.bits];exact q
    . simp at q;subst q;exact absurd k1 (zW b)
  . rw[k2,nK ht fun i b q1 q2 q3=>k1 i b q1 (by rw[mX Tr.bits];rw[Tr.bits]at q2;rw[q2];rfl) q3]
 unfold wpOpIn;simp only[ho];by_cases hal:∃b,(j,b)∈d.dx
 ·
  obtain⟨b,hb⟩:=hal;obtain⟨F,f1,f2,f3,f4,f6,f5⟩:=f.AU j o b hb ho;rw[aE (Tr.wanted hr ho w6 hd f1 f2)];refine(EO Tr.tA.good yM (Tr.uc hr ho w6 hd f1) (f5 _) fun E' w' v' q1 q2 q3 _=>Y fm E' _ w' ?_);refine Tr.quiet hr hl f ho hj w6 hd (fun c e he ja=>?_) q1 ?_ q2.le (fun k Y=>q3 k G) (fun k p hp=>?_)
  . obtain⟨_,o',Q,R,_⟩:=f.tB c e he;rw[ja,ho]at Q;cases Q;rw[f3]at R;cases R
  . refine Tr.tA.trans (q2.ext fun k=>?_);by_cases Zh:k=N+j
    . subst Zh;rw[I.oP _ _ f4,ji ht f.one hb (by rw[mX Tr.bits];simp) hmj]
    . rw[I.vW _ _ f4 Zh];rcases iT (x:=(eE h0 (N+ops.size) dJ fm).2.1) (m:=(eE h0 (N+ops.size) dJ fm).1) (ia:=ms|||2^j) ht f.one k with⟨i,b',k1,k2,k3,k4,k5⟩|⟨k1,k2⟩
      . subst k4;rw[k5,ji ht f.one k1 ?_ k3];rw[mX Tr.bits]at k2;rcases bV _ _ |>.mp k2 with q|q
        . rw[Tr.bits];exact q
        . simp at q;subst q;exact absurd rfl Zh
      . rw[k2,nK ht fun i b q1 q2 q3=>k1 i b q1 (by rw[mX Tr.bits];rw[Tr.bits]at q2;rw[q2];rfl) q3]
  . by_cases Zh:k=N+j
    . exact .inr ⟨b,hb,Zh⟩
    . rw[q3 k Zh]at hp;exact .inl hp
 . have zW:∀b,(j,b)∉d.dx:=fun b q=>hal ⟨b,q⟩;obtain⟨F,f1,f2⟩:=f.Vu j o hj ho;have look:fP ops o F=some true->pq o.op=false->dO P o F (gu N d.dx (eE h0 (N+ops.size) dJ fm).1 (eE h0 (N+ops.size) dJ fm).2.1 ms) (N+j)=
     some (.val (val j) (gu N d.dx (eE h0 (N+ops.size) dJ fm).1 (eE h0 (N+ops.size) dJ fm).2.1 ms) (N+j))->
     (if Region.wanted o (yielded ops a.tmps)=true then o.wpIn (fz qU) 0 P a w hc h1 else(∀f,o.about P w a.eval=some f->(fz qU).fn f)/\hc (a.put o.dst undef) w):=by
    intro hw ja hs;rw[aE (Tr.wanted hr ho w6 hd f1 hw)];refine(EO Tr.tA.good yM (Tr.uc hr ho w6 hd f1) hs fun E' w' v' q1 q2 q3 q4=>Y fm E' _ w' ?_);rcases q4 with⟨_,rfl⟩|q4
    . refine Tr.quiet hr hl f ho hj w6 hd (fun c e he L6=>?_) q1 (Tr.tA.trans (q2.ext (Ui zW))) q2.le (fun _ _=>rfl) (fun _ _ hp=>.inl hp);obtain⟨_,o',Q,R,_⟩:=f.tB c e he;rw[L6,ho]at Q;cases Q;rw[ja]at R;cases R
    . omega
   rcases f2 with⟨hw,hv⟩|⟨_,_,b,q3,_⟩|⟨hw,ja,wz⟩|⟨hw,ja,I5,aah⟩|⟨hw,BW,c,h,n,K,gi⟩
   ·
    rw[aB (by rw[Tr.wanted hr ho w6 hd f1 hw];simp)];refine⟨fun _ _=>trivial,?_⟩;refine Y fm E _ w (Tr.quiet (v':=undef) hr hl f ho hj w6 hd (fun c e he L6=>?_) (by rw[hv];exact⟨[],rfl,rfl⟩) (Tr.tA.ext (Ui zW)) E.le_refl (fun _ _=>rfl) (fun _ _ hp=>.inl hp));have IK:=Tr.wanted hr ho w6 hd f1 hw;have NW:=f.yY c e o he (by rw[L6];exact ho);obtain⟨fr3,g3,g4⟩:=NW;rw[L6]at g3;have RL:=Tr.wanted hr ho w6 hd g3 g4;rw[IK]at RL;cases RL
   . exact absurd q3 (zW b)
   . exact look hw ja (wz _)
   . have c1:∀(c':Nat) (e:tQ),fm<=c'->dJ[c']? =some e->ek (iD ops j) e.1=false:=by
      intro c' e I3 he;cases q:ek (iD ops j) e.1 with
      |false=>rfl
      |true=>have:=(Tr.Dl c' e he).1 (AI _ q);omega
     have c2:∀(c':Nat) (e:tQ),c'<fm->dJ[c']? =some e->ek e.2.1 j=false:=by
      intro c' e I3 he;obtain⟨_,o',_,_,h3⟩:=f.tB c' e he;cases q:ek e.2.1 j with
      |false=>rfl
      |true=>
       rw[h3]at q;rw[Tr.ia hr ((Tr.Dl c' e he).2 I3) q]at w6;cases w6
     obtain⟨y,hy⟩:=aah fm Tr.Zg c1 c2;rcases _root_.Go.Eng.quiet ja hy with⟨u,Q,R⟩|⟨u,b,Q,R,h3⟩
     . cases Q;exact look hw ja (R _ (Tr.sub hr hl f ht AI))
     . simp only[h2.val.injEq]at R;omega
   ·
    have hcJ:c=fm:=by
     have Q:¬c<fm:=by
      intro q;have:=(Tr.Dl c _ K).2 q;simp only at this;rw[w6]at this;cases this
     by_cases q:fm<c
     . have hJl:fm<dJ.length:=by have:=(aO.1 K).1;omega
       have he:dJ[fm]? =some dJ[fm]:=au hJl;have:=f.chain c fm _ _ q K he;have:=(Tr.Dl fm _ he).1 (AI _ this);omega
     . omega
    subst hcJ;rw[aE (Tr.wanted hr ho w6 hd f1 hw)];have Uj:=Tr.tA.good.sub (Tr.sub hr hl f ht AI);have DV:=Tr.RJ hl;simp only at gi;rcases gi with hs|⟨g,args,hs,aai⟩
    . refine EO Uj (DV _ (aK _)) (Tr.uc hr ho w6 hd f1) hs fun E' w' v' q1 q2 q3 q4=>Y (c+1) E' _ w' ?_;refine Tr.effect hr hl f ht ho hj w6 hd zW K q1 q2 (fun k Y=>q3 k G) ?_ ?_
      . rcases q4 with⟨rfl,rfl⟩|rfl
        . exact DV
        . intro k Y;rw[q3 k G];exact DV k G
      . rcases q4 with⟨rfl,_⟩|rfl<;>omega
    . refine AT lA Uj DV (Tr.uc hr ho w6 hd f1) hs aai fun E' w' q2 q3 q4 q5=>?_;intro v' q1;exact Y (c+1) E' _ w' (Tr.effect hr hl f ht ho hj w6 hd zW K q1 q2 q3 q4 q5)
end
theorem filter_lt{α:Type}{p q:α->Bool}{x:α}:∀{l:List α},x∈l->p x=true->q x=false->(∀y,q y=true->p y=true)->(l.filter q).length<(l.filter p).length
 | [],h,_,_,_=>by simp at h
 |y::l,h,hp,hq,S=>by
  have lj:(l.filter q).length<=(l.filter p).length:=by
   clear h
   induction l with
   |nil=>simp
   |cons z l ih=>
    simp only[List.filter_cons];by_cases c:q z=true
    . rw[aE c,aE (S z c)];simp;exact ih
    . rw[aB c];by_cases c2:p z=true
      . rw[aE c2];simp;omega
      . rw[aB c2];exact ih
  simp only[List.filter_cons];rcases aD.1 h with rfl|h
  . rw[aE hp,aB (by rw[hq];simp)];simp;omega
  . have ih:=filter_lt h hp hq S;by_cases c:q y=true
    . rw[aE c,aE (S y c)];simp;exact ih
    . rw[aB c];by_cases c2:p y=true
      . rw[aE c2];simp;omega
      . rw[aB c2];exact ih
def KI(n:Nat)(eU:Array Bool):Nat:=((List.range n).filter fun i=>!eU.getD i false).length
theorem nL{eU:Array Bool}{j:Nat}(hj:j<eU.size)(i:Nat):(eU.setIfInBounds j true).getD i false=(eU.getD i false||decide (i=j)):=by
 simp only[bG,Array.getElem?_setIfInBounds];by_cases q:i=j
 . subst q;simp[hj]
 . have:¬j=i:=fun e=>q e.symm;simp[q,this]
section
variable{P:Program}{cf:fL}{ops:Array Oper}{N n0 gH:Nat}{h0:I O}{kO:I V}{val:Nat->V}{dJ:List tQ}{d:Dr}{E0:Env}{w0:World}{xP:List Deferred}
variable{h1:Exit->Act->World->Prop}{qU:Option Nat}
theorem DW(lA:gq P cf)(hr:kU ops n0)(hl:gH<=ops.size)(f:mw P cf ops N h0 kO val dJ gH d)(ht:∀y∈d.dx,N+y.1<fV)
  (hQ:gH=ops.size->∀hm ms fm E a w,Inv ops N n0 gH h0 kO val dJ d.dx E0 w0 xP hm ms fm E a w->(∀i,i<ops.size->hm i=true)->h1 .normal a w)
  (hP:gH<ops.size->gH+1=ops.size/\∀hm ms fm E a w o,Inv ops N n0 gH h0 kO val dJ d.dx E0 w0 xP hm ms fm E a w->ops[gH]? =some o->
   (∀e∈o.after,Region.binds .any e=true->hm e.on=true)->∀hc,wpOpIn (fz qU) 0 P ops h1 gH hc a w):
  ∀(fuel:Nat) (eU:Array Bool) (ms fm:Nat) (E:Env) (a:Act) (w:World),eU.size=ops.size->KI ops.size eU<=fuel->
   Inv ops N n0 gH h0 kO val dJ d.dx E0 w0 xP (fun i=>eU.getD i false) ms fm E a w->wpAnyIn (fz qU) 0 P .any ops h1 fuel eU a w:=by
 have done:∀(eU:Array Bool) (ms fm:Nat) (E:Env) (a:Act) (w:World),eU.size=ops.size->Inv ops N n0 gH h0 kO val dJ d.dx E0 w0 xP (fun i=>eU.getD i false) ms fm E a w->
   Region.ready .any ops eU=[]->h1 .normal a w:=by
  intro eU ms fm E a w hs Tr sL;have all:∀i,i<ops.size->eU.getD i false=true:=by
   intro i
   induction i using Nat.strongRecOn with
   |_ i ih=>
    intro hi;cases q:eU.getD i false with
    |true=>rfl
    |false=>
     exfalso;have ho:ops[i]? =some ops[i]:=aZ hi;have:i∈Region.ready .any ops eU:=mem_ready.2 ⟨by
      rw[bG,aZ G]at q ⊢;exact q,ops[i],ho,fun e he hb=>by
      have:=hr.vI i _ ho e he hb;exact ih e.on this G⟩
     rw[sL]at this;simp at this
  have EV:gH=ops.size:=by
   by_cases q:gH<ops.size
   . have:=Tr.NX gH (all gH q);omega
   . omega
  exact hQ EV _ ms fm E a w Tr all
 intro fuel
 induction fuel with
 |zero=>
  intro eU ms fm E a w hs hu Tr;have sL:Region.ready .any ops eU=[]:=by
   rw[List.eq_nil_iff_forall_not_mem];intro j hj;obtain⟨Q,o,ho,_⟩:=mem_ready.1 hj;have Uh:=(aT.1 ho).1;have hz:KI ops.size eU=0:=by omega
   unfold KI at hz;have:=cF.2 hz;have S:j∈(List.range ops.size).filter fun i=>!eU.getD i false:=List.mem_filter.2 ⟨bH.2 Uh,by
    rw[bG,aZ G]at Q ⊢;simp at Q;simp[Q]⟩
   rw[this]at S;simp at S
  exact⟨sL,done eU ms fm E a w hs Tr sL⟩
 |succ fuel ih=>
  intro eU ms fm E a w hs hu Tr;refine⟨done eU ms fm E a w hs Tr,fun j hj=>?_⟩;obtain⟨Q,o,ho,hd⟩:=mem_ready.1 hj;have Uh:=(aT.1 ho).1;have w6:eU.getD j false=false:=by
   rw[bG,aZ G]at Q ⊢;exact Q
  by_cases M0:j<gH
  . refine Tr.step lA hr hl f ht ho M0 w6 hd fun J' E' a' w' I'=>?_;refine ih _ (ms|||2^j) J' E' a' w' (by simp;exact hs) ?_ ?_
    . have:KI ops.size (eU.setIfInBounds j true)<KI ops.size eU:=by
       refine filter_lt (x:=j) (bH.2 Uh) (by rw[w6];rfl) (by rw[nL G];simp) fun y hy=>?_;rw[nL G]at hy;simp at hy ⊢;exact hy.1
      omega
    . have:(fun i=>(eU.setIfInBounds j true).getD i false)=fun i=>(eU.getD i false||decide (i=j)):=funext fun i=>nL G i;rw[this];exact I'
  . have eM:gH<ops.size:=by omega
    obtain⟨p1,p2⟩:=hP eM;have:j=gH:=by omega
    subst this;exact p2 _ ms fm E a w o Tr ho hd _
end
theorem NY{qU:Option Nat}{P:Program}{cf:fL}{ops:Array Oper}{n0 id:Nat}{s A:St}{x:es}{E0:Env}{a0:Act}{w0:World}{h1:Exit->Act->World->Prop}(lA:gq P cf)(hr:kU ops n0)(S:P.follows .mixedOrders=true)
  (e:drawn P cf ops s=some (x,A)) (g:Good E0 s.h w0) (hd:pH E0 s.n) (hf:wh E0 s.F a0) (hN:a0.tmps.size=n0)
  (hq:∀E' a' w' x',iL E0 s.h w0 E' A.h w'->(∀k,k<s.n->E'.ι k=E0.ι k)->pH E' A.n->s.n<=A.n->wh E' A.F a'->a'.tmps.size=n0->a'.defers=a0.defers->A.gZ=s.gZ->GS E' x x'->h1 x' a' w'):
  (Code.region id ops true).wpIn (fz qU) 0 P h1 a0 w0:=by
 refine wpIn_region_any S ?_;unfold drawn at e;split at e
 . rename_i gF;have init:=wv (P:=P) (cf:=cf) (ops:=ops) (N:=s.n) s.F s.h;have start:∀(gH:Nat) (val:Nat->V) (dJ:List tQ) (dx:af),Inv ops s.n n0 gH s.h s.F val dJ dx E0 w0 a0.defers (fun i=>(Array.replicate ops.size false).getD i false) 0 0 E0 a0 { w0 with drawn:=w0.drawn+1 }:=by
    intro gH val dJ dx;have hS:∀i,(Array.replicate ops.size false).getD i false=false:=by
     intro i;rw[bG];by_cases q:i<ops.size
     . rw[aZ (by simpa using q)];simp
     . rw[Array.getElem?_eq_none (by simpa using q)];rfl
    have NT:∀k,(gu s.n dx (eE s.h (s.n+ops.size) dJ 0).1 (eE s.h (s.n+ops.size) dJ 0).2.1 0).get k=s.h.get k:=by
     intro k;have:∀l:af,gu s.n l (eE s.h (s.n+ops.size) dJ 0).1 (eE s.h (s.n+ops.size) dJ 0).2.1 0=s.h:=by
      intro l
      induction l with
      |nil=>rfl
      |cons y l ih=>obtain⟨i,b⟩:=y;simp only[gu,jb,aP,aM,cr];exact ih
     rw[this]
    refine⟨fun i=>by rw[jb,hS],fun i hi=>?_,fun j o hj=>?_,fun c e' _=>?_,aS _,fun j o t hj=>?_,fun t v hv _=>hf t v hv,(iL.drew g).ext NT,fun _ _=>rfl,fun k p hp=>?_,fun i _ _=>?_,aK _,hN,rfl⟩
    . rw[hS]at hi;cases hi
    . rw[hS]at hj;cases hj
    . rw[hS];constructor
      . intro q;cases q
      . intro q;omega
    . rw[hS]at hj;cases hj
    . by_cases q:k<s.n
      . exact .inl q
      . rw[hd k G]at hp;cases hp
    . show s.h.get (s.n+i)=none;cases q:s.h.get (s.n+i)with
      |none=>rfl
      |some o=>
       obtain⟨b,t,Q,_⟩:=g.rel _ _ q;rw[hd _ G]at Q;cases Q
   have hu0:KI ops.size (Array.replicate ops.size false)<=ops.size:=by
    unfold KI;exact bC (List.length_filter_le _ _) (by simp)
   have gi:=fun(r:Dr ⊕ (I V×V×I O×Nat)) q=>DU (n0:=n0) hr ops.toList 0 _ _ _ r (by simp) init q;split at e
   . rename_i d Re;obtain⟨rfl,rfl⟩:=fW e;obtain⟨val,dJ,f⟩:=gi _ Re;rw[show max 0 ops.size=ops.size by omega]at f;have ht:∀y∈d.dx,s.n+y.1<fV:=fun y hy=>by have:=f.dx y hy;omega
     refine DW lA hr (aK _) f ht (fun _ hm ms fm E a w Tr wz=>?_) (fun q=>by omega) ops.size _ 0 0 E0 a0 _ (by simp) hu0 (start ops.size val dJ d.dx);have hJ:fm=dJ.length:=by
      have Q:=Tr.Zg;by_cases q:fm<dJ.length
      . have he:dJ[fm]? =some dJ[fm]:=au q;have:=(Tr.Dl fm _ he).1 (wz _ (f.tB fm _ he).1);omega
      . omega
     have ec1:d.cur.1=(eE s.h (s.n+ops.size) dJ fm).1:=by rw[hJ,f.cur]
     have ec2:d.cur.2=(eE s.h (s.n+ops.size) dJ fm).2.1:=by rw[hJ,f.cur]
     have en:d.n=(eE s.h (s.n+ops.size) dJ fm).2.2:=by rw[hJ,f.n]
     refine hq E a w .normal ?_ Tr.old ?_ ?_ ?_ Tr.size Tr.gZ rfl trivial
     . refine Tr.tA.ext fun k=>?_;simp only[ec1,ec2];have NZ:∀i,i<ops.size->ek (2^ops.size-1) i=true:=fun i hi=>by
        unfold ek;rw[cQ];simpa using hi
       rcases iT (N:=s.n) (x:=(eE s.h (s.n+ops.size) dJ fm).2.1) (m:=(eE s.h (s.n+ops.size) dJ fm).1) (ia:=2^ops.size-1) ht f.one k with⟨i,b,k1,k2,k3,k4,k5⟩|⟨k1,k2⟩
       . subst k4;rw[k5,ji ht f.one k1 (by rw[Tr.bits];exact wz i (f.dx _ k1)) k3]
       . rw[k2,nK ht fun i b q1 q2 q3=>k1 i b q1 (NZ i (f.dx _ q1)) q3]
     . show pH E d.n;rw[en];exact Tr.RJ (aK _)
     . show s.n<=d.n;rw[en];have:=Tr.CV;omega
     . intro t v hv;by_cases q:∃j o,j<ops.size/\ops[j]? =some o/\o.dst=some t
       . obtain⟨j,o,q1,q2,q3⟩:=q;have:=f.F.new j o t q1 q2 q3;simp only at hv;rw[this]at hv;cases hv;exact Tr.f1 j o t (wz j q1) q2 q3
       . have:=f.F.old t fun i o hi ho KH=>q ⟨i,o,hi,ho,KH⟩;simp only at hv;rw[this]at hv;exact Tr.f2 t v hv fun j o hj ho KH=>q ⟨j,o,Tr.NX j hj,ho,KH⟩
   . rename_i F v h n Re;obtain⟨rfl,rfl⟩:=fW e;obtain⟨gH,o,d,val,dJ,ho,f,oQ⟩:=gi _ Re;have EV:gH<ops.size:=(aT.1 ho).1;have ht:∀y∈d.dx,s.n+y.1<fV:=fun y hy=>by have:=f.dx y hy;omega
     have AI:fb d.eA o.after.toList=iD ops gH:=by rw[f.eA];unfold iD;rw[ho]
     unfold lM at oQ;simp only[AI]at oQ;split at oQ
     . split at oQ<;>cases oQ
     . rename_i hw;split at oQ
       . rename_i BW;split at oQ
         . split at oQ
           . split at oQ<;>cases oQ
           . rename_i gg args hs;split at oQ
             . split at oQ<;>cases oQ
             . rename_i v' h' n' K;split at oQ
               . rename_i hb;simp only[aq,Sum.inr.injEq,aF]at oQ;obtain⟨rfl,rfl,rfl,rfl⟩:=oQ;simp only[ay]at hb;have RD:=aA hb.1;have MZ:=aA hb.2;have GU:∀i,i<gH->ek (iD ops gH) i=true:=fun i hi=>by
                  have:iD ops gH=2^gH-1:=by omega
                  rw[this];unfold ek;rw[cQ];simpa using hi
                 refine DW lA hr (Nat.le_of_lt EV) f ht (fun q=>by omega) (fun _=>⟨MZ,fun hm ms fm E a w o' Tr Dg GV hc=>?_⟩) ops.size _ 0 0 E0 a0 _ (by simp) hu0 (start gH val dJ d.dx);rw[ho]at Dg;cases Dg;have hSl:hm gH=false:=by
                  cases q:hm gH with
                  |false=>rfl
                  |true=>have:=Tr.NX gH q;omega
                 have wz:∀i,i<gH->hm i=true:=fun i hi=>rG hr Tr.closed ho GV (GU i hi);have hJ:fm=dJ.length:=by
                  have Q:=Tr.Zg;by_cases q:fm<dJ.length
                  . have he:dJ[fm]? =some dJ[fm]:=au q;have:=(Tr.Dl fm _ he).1 (wz _ (f.tB fm _ he).1);omega
                  . omega
                 have ec1:d.cur.1=(eE s.h (s.n+ops.size) dJ fm).1:=by rw[hJ,f.cur]
                 have ec2:d.cur.2=(eE s.h (s.n+ops.size) dJ fm).2.1:=by rw[hJ,f.cur]
                 have en:d.n=(eE s.h (s.n+ops.size) dJ fm).2.2:=by rw[hJ,f.n]
                 rw[ec1,ec2,en]at hs K;have qf:=Tr.sub hr (Nat.le_of_lt EV) f ht (ia:=iD ops gH) fun k Y=>wz k (I2 hr.vI gH k Y);have DV:=Tr.RJ (Nat.le_of_lt EV);unfold wpOpIn;simp only[ho];rw[aE (Tr.wanted hr ho hSl GV f.F hw)];refine(AT lA (Tr.tA.good.sub qf) DV (Tr.uc hr ho hSl GV f.F) hs K fun E' w' q2 q3 q4 q5=>?_);intro v2 hv2;have hcn:=Tr.CV;refine hq E' a w' _ ?_ (fun k Y=>?_) q4 ?_ ?_ Tr.size Tr.gZ rfl ⟨v2,hv2,rfl⟩
                 . refine Tr.tA.trans (iL.frame Tr.tA.good qf q2 fun k=>?_);simp only;cases Y:h'.get k with
                   |some o'=>rfl
                   |none=>
                    simp only;split
                    . rename_i H;rcases iT (N:=s.n) (x:=(eE s.h (s.n+ops.size) dJ fm).2.1) (m:=(eE s.h (s.n+ops.size) dJ fm).1) (ia:=ms) ht f.one k with⟨i,b,k1,k2,k3,k4,k5⟩|⟨k1,k2⟩
                      . subst k4;rw[ji ht f.one k1 (GU i (f.dx _ k1)) k3]at H;cases H
                      . rw[k2];rw[nK ht fun i b q1 q2' q3'=>k1 i b q1 (by rw[Tr.bits];exact wz i (f.dx _ q1)) q3']at H;exact H.symm
                    . rfl
                 . rw[q3 k G];exact Tr.old k Y
                 . show s.n<=n';omega
                 . refine mq q2.le ?_;intro t v hv;by_cases q:∃j o,j<gH/\ops[j]? =some o/\o.dst=some t
                   . obtain⟨j,o2,q1,q2,q3⟩:=q;have:=f.F.new j o2 t q1 q2 q3;simp only at hv;rw[this]at hv;cases hv;exact Tr.f1 j o2 t (wz j q1) q2 q3
                   . have:=f.F.old t fun i o2 hi N0 KH=>q ⟨i,o2,hi,N0,KH⟩;simp only at hv;rw[this]at hv;exact Tr.f2 t v hv fun j o2 hj N0 KH=>q ⟨j,o2,Tr.NX j hj,N0,KH⟩
               . cases oQ
             . cases oQ
           . cases oQ
         . cases oQ
       . split at oQ
         . split at oQ
           . split at oQ
             . split at oQ
               . cases oQ
               . split at oQ<;>cases oQ
             . split at oQ
               . split at oQ<;>cases oQ
               . cases oQ
           . cases oQ
         . cases oQ
     . cases oQ
   . cases e
 . cases e
def N1(E:Env)(x:FuncId×ag×ag)(d:Deferred):Prop:=
 (x.1<fV/\∃c' dF,dV E x.2.1 c'/\dV E x.2.2 dF/\d={ target:=.fn (.func x.1) c'.toArray,args:=dF.toArray }) \/
 (x.1=fV/\∃m b s,x.2.2=[.map (some m)]/\E.ι m=some (b,s)/\d={ target:=.collected b,args:=#[] })
def vJ(E:Env):List (FuncId×ag×ag)->List Deferred->Prop
 | [],l=>l=[]
 |x::xs,l=>∃d ys,N1 E x d/\vJ E xs ys/\l=d::ys
theorem I6{E E':Env}(h:E.le E'){x:FuncId×ag×ag}{d:Deferred}:N1 E x d->N1 E' x d:=by
 rintro(⟨H,c',a',r1,r2,q⟩|⟨H,m,b,s,q1,q2,q3⟩)
 . exact .inl ⟨H,c',a',kS h _ _ r1,kS h _ _ r2,q⟩
 . exact .inr ⟨H,m,b,s,q1,(h.nm _ _ _ q2).1,q3⟩
theorem jB{E E':Env}(h:E.le E'):∀(xs:List (FuncId×ag×ag)) (ys:List Deferred),vJ E xs ys->vJ E' xs ys
 | [],_,r=>r
 |_::xs,_,⟨d,ys,r1,r3,q⟩=>⟨d,ys,I6 h r1,jB h xs ys r3,q⟩
theorem iL.kill{E:Env}{h:I O}{w w':World}{m b s:Nat}(g:Good E h w)(ht:m<fV)(iP:eL h m)(S:E.ι m=some (b,s))
  (DI:w'.heap.size=w.heap.size) (Gq:w'.tape=w.tape) (ZP:w'.os=w.os) (yN:w'.output=w.output)
  (pC:∀x,x≠b->w'.heap[x]? =w.heap[x]?):iL E h w E (h.set m none) w':=by
 have hs:∀k o,(h.set m none).get k=some o->k≠m/\h.get k=some o:=by
  intro k o Y;rw[I.fF _ _ _ ht]at Y;split at Y
  . cases Y
  . rename_i q;exact⟨q,Y⟩
 have dU:∀k o,(h.set m none).get k=some o->h.get k=some o:=fun k o q=>(hs k o q).2;refine⟨E.le_refl,⟨?_,?_,?_,g.kg,fun b' c q=>⟨by rw[pC b' fun e=>(g.iu b' c q).2 m s iP (e▸S)];exact(g.iu b' c q).1,fun k t Y=>(g.iu b' c q).2 k t (gY dU Y)⟩⟩,G,Gq,ZP,yN,?_,fun k x t Y e _=>⟨k,t,pD dU Y,e,gY dU⟩,fun _ _ q=>.inl q⟩
 . intro k o Y;obtain⟨ja,Y⟩:=hs k o Y;obtain⟨b',A,Q,R⟩:=g.rel k o Y;have hb:b'≠b:=by
    intro hb;subst hb;exact g.inj m k b' s A (fun q=>ja q.symm) iP (by rw[Y];simp) S Q
   exact⟨b',A,Q,jd E.le_refl rfl (pC b' hb) R⟩
 . intro k k' x t t' ja Y oG e e';exact g.inj k k' x t t' ja (gY dU Y) (pD dU oG) e e'
 . intro k x t e;rw[DI];exact g.oy k x t e
 . intro x _ hn;refine pC x ?_;intro H;subst H;exact hn m s iP S
structure jT(E:Env)(n0:Nat)(s:St)(a:Act)(w:World):Prop where
 good:Good E s.h w
 qd:pH E s.n
 F:wh E s.F a
 size:a.tmps.size=n0
 gZ:vJ E s.gZ a.defers
def GW(E:Env)(n0:Nat)(s:St)(w:World)(x:es)(A:St)(h1:Exit->Act->World->Prop):Prop:=
 ∀E' a' w' x',iL E s.h w E' A.h w'->(∀k,k<s.n->E'.ι k=E.ι k)->s.n<=A.n->jT E' n0 A a' w'->GS E' x x'->h1 x' a' w'
theorem GW.after{E E1:Env}{n0:Nat}{s s1 A:St}{w w1:World}{x:es}{h1:Exit->Act->World->Prop}(p:GW E n0 s w x A h1)(u:iL E s.h w E1 s1.h w1)(fq:∀k,k<s.n->E1.ι k=E.ι k)(hn:s.n<=s1.n):GW E1 n0 s1 w1 x A h1:=
 fun E' a' w' x' u' N2 nV r rx=>p E' a' w' x' (u.trans u') (fun k Y=>by rw[N2 k G];exact fq k Y) G r rx
section
variable{P:Program}{cf:fL}{fr n0:Nat}{qU:Option Nat}
theorem lB(lA:gq P cf){ops:Array Oper}:∀(l:List Oper) (s:St) (x:es) (A:St),(qU=none\/∀o∈l,AQ o.op=true)->(∀o∈l,mU n0 o.dst)->jg P cf ops l s=some (x,A)->
  ∀(E:Env) (a:Act) (w:World) (h1:Exit->Act->World->Prop),jT E n0 s a w->GW E n0 s w x A h1->wpListIn (fz qU) 0 P ops h1 l a w
 | [],s,x,A,_,_,e,E,a,w,h1,r,hp=>by
   simp only[jg,aq,aF]at e;obtain⟨rfl,rfl⟩:=e;exact hp E a w .normal (iL.refl r.good) (fun _ _=>rfl) (aK _) r trivial
 |o::rest,s,x,A,vp,EU,e,E,a,w,h1,r,hp=>by
  have RM:qU=none\/∀o∈rest,AQ o.op=true:=vp.imp _root_.id fun h o ho=>h o (by simp[ho]);have ho:=EU o (by simp);have xQ:∀o∈rest,mU n0 o.dst:=fun o h=>EU o (by simp[h]);have RN:mU a.tmps.size o.dst:=by rw[r.size];exact ho
  simp only[jg]at e;unfold wpListIn;have GX:∀b,fP ops o s.F=some b->Region.wanted o (yielded ops a.tmps)=b:=fun b hb=>wj (E:=E) (fun _ _ _ d _ _ _ v hv=>r.F d v hv) hb;have GY:∀y∈o.op.operands,mS E s.F a.eval y:=fun y _=>mV r.good.kg r.F y;split at e
  . rename_i hw;rw[aB (by rw[GX _ hw];simp)];split at e
    . rename_i F qL;refine⟨fun _ _=>trivial,?_⟩;refine lB lA rest _ x A RM xQ e E _ w h1 ⟨r.good,r.qd,n8 r.F qL ⟨[],rfl,rfl⟩ RN,by rw[lQ];exact r.size,by rw[jA];exact r.gZ⟩ ?_;exact hp.after (iL.refl r.good) (fun _ _=>rfl) (aK _)
    . cases e
  . rename_i hw;rw[aE (GX _ hw)];split at e
    . rename_i v h n hs;split at e
      . rename_i F qL;refine EO r.good (r.qd _ (aK _)) GY hs fun E' w' v' q1 q2 q3 q4=>?_;have hn:s.n<=n:=by rcases q4 with⟨rfl,_⟩|rfl<;>omega
        have pN:pH E' n:=by
         rcases q4 with⟨rfl,rfl⟩|rfl
         . exact r.qd
         . intro k Y;rw[q3 k G];exact r.qd k G
        refine lB lA rest _ x A RM xQ e E' _ w' h1 ⟨q2.good,pN,n8 (mq q2.le r.F) qL q1 RN,by rw[lQ];exact r.size,by rw[jA];exact jB q2.le _ _ r.gZ⟩ ?_;exact hp.after q2 (fun k Y=>q3 k G) hn
      . cases e
    . rename_i g args hs;split at e
      . rename_i v h n K;split at e
        . rename_i F qL;refine AT lA r.good r.qd GY hs K fun E' w' q2 q3 q4 q5=>?_;intro v' q1;refine lB lA rest _ x A RM xQ e E' _ w' h1 ⟨q2.good,q4,n8 (mq q2.le r.F) qL q1 RN,by rw[lQ];exact r.size,by rw[jA];exact jB q2.le _ _ r.gZ⟩ ?_;exact hp.after q2 q3 q5
        . cases e
      . rename_i v h n K;obtain⟨rfl,rfl⟩:=fW e;refine AT lA r.good r.qd GY hs K fun E' w' q2 q3 q4 q5=>?_;intro v' q1;exact hp E' a w' _ q2 q3 q5 ⟨q2.good,q4,mq q2.le r.F,r.size,jB q2.le _ _ r.gZ⟩ ⟨v',q1,rfl⟩
      . cases e
    . rename_i g c args hs;split at e
      case isFalse=>cases e
      rename_i hgt;split at e
      . rename_i F qL;have Z9:qU=none:=by
         rcases vp with q|q
         . exact q
         . exfalso;have:=q o (by simp);rw[hgt.2]at this;cases this
        refine Vt Z9 r.good (r.qd _ (aK _)) GY hs fun c' dF q1 q2=>?_;refine lB lA rest _ x A RM xQ e E _ w h1 ⟨r.good,r.qd,n8 (a:={ a with defers:={ target:=.fn (.func g) c'.toArray,args:=dF.toArray }::a.defers }) r.F qL ⟨[],rfl,rfl⟩ RN,by rw[lQ];exact r.size,by rw[jA];exact⟨_,a.defers,.inl ⟨hgt.1,c',dF,q1,q2,rfl⟩,r.gZ,rfl⟩⟩ ?_;exact hp.after (iL.refl r.good) (fun _ _=>rfl) (aK _)
      . cases e
    . rename_i v hs;obtain⟨rfl,rfl⟩:=fW e;refine NV r.good (r.qd _ (aK _)) GY hs fun v' q1=>?_;exact hp E a w _ (iL.refl r.good) (fun _ _=>rfl) (aK _) r ⟨v',q1,rfl⟩
    . cases e
    . cases e
  . cases e
theorem rH{E:Env}{F:I V}{a:Act}{c:Operand}{b:Bool}(ge:GE E)(r:wh E F a)(e:iK F c=some (.bool b)):a.eval c= .bool b:=by
 have:=mV ge r c _ e;simpa only[dQ]using this
theorem GZ(lA:gq P cf){g:Operand}{ps:Array Tmp}{assign body:Code}{s A:St}{x:es}(mC:eJ n0 (.rangeFunc g ps assign body)=true)(e:gv P cf fr (.rangeFunc g ps assign body) s=some (x,A))
  {E:Env} {a:Act} {w:World} {h1:Exit->Act->World->Prop} (r:jT E n0 s a w) (hp:GW E n0 s w x A h1):(Code.rangeFunc g ps assign body).wpIn (fz none) 0 P h1 a w:=by
 simp only[eJ,ay]at mC;simp only[gv]at e;split at e
 . rename_i gf lb hg;split at e
   case isFalse=>cases e
   rename_i hq;obtain⟨BP,gF⟩:=hq;obtain⟨f',fi,Uk,Rc,hfi,hlb,N3⟩:=mV r.good.kg r.F g _ hg;simp only[zQ]at Rc;subst Rc;simp only[dV]at hfi;subst hfi;refine wpIn_rangeFunc fun fn _=>?_
   let N4:Loop:={ state:=.ready,pending:=none,fn,tmps:=a.tmps,params:=ps,assign,body,defers:=w.heap.size }
   have u1:iL E s.h w (E.put s.n w.heap.size 0 0) (s.h.set s.n (some .tL)) (w.alloc (.deferred (some []))):=iL.alloc (ob:=.deferred (some [])) (o:=.tL) r.good (r.qd _ (aK _)) G heap_alloc_new;have De:(E.put s.n w.heap.size 0 0).ι (s.n+1)=none:=by rw[Env.gQ G];exact r.qd _ G
   have u2:iL (E.put s.n w.heap.size 0 0) (s.h.set s.n (some .tL)) (w.alloc (.deferred (some []))) ((E.put s.n w.heap.size 0 0).put (s.n+1) (w.alloc (.deferred (some []))).heap.size 0 0) ((s.h.set s.n (some .tL)).set (s.n+1) (some (.loop true none s.F ps.toList assign body))) ((w.alloc (.deferred (some []))).alloc (.loop N4)):=
    iL.alloc (ob:=.loop N4) (o:=.loop true none s.F ps.toList assign body) u1.good De gF
     ⟨N4,heap_alloc_new,rfl,rfl,rfl,rfl,rfl,yK (Env.le_trans u1.le (Env.uh De fun m x t e H=>by have:=u1.good.oy m x t e;omega)) r.F,by rw[show N4.tmps.size=n0 from r.size];exact⟨mC.2.1,mC.2.2,fun p hp=>by simpa using bq.1 mC.1 p hp⟩⟩
   rw[World.size_alloc]at u2;revert e;generalize hE2:(E.put s.n w.heap.size 0 0).put (s.n+1) (w.heap.size+1) 0 0=E2 at u2;generalize It:(s.h.set s.n (some .tL)).set (s.n+1) (some (.loop true none s.F ps.toList assign body))=R at u2;generalize hW1:(w.alloc (.deferred (some []))).alloc (.loop N4)=W1 at u2;intro e;have Rf:E2.ι (s.n+1)=some (w.heap.size+1,0):=by rw[<- hE2];exact Env.fM
   have BZ:E2.ι s.n=some (w.heap.size,0):=by rw[<- hE2,Env.gQ G];exact Env.fM
   have rI:∀k,k<s.n->E2.ι k=E.ι k:=fun k Y=>by rw[<- hE2,Env.gQ G,Env.gQ G]
   have aan:pH E2 (s.n+2):=fun k Y=>by
    have Y:s.n+2<=k:=Y;rw[<- hE2,Env.gQ G,Env.gQ G];exact r.qd k (by show s.n<=k;omega)
   have u12:=u1.trans u2;have age:dV E2 lb Uk:=kS u12.le _ _ hlb;have Vx:(invoke (.fn (.func gf) Uk.toArray) #[.func (.yield (w.heap.size+1)) #[] #[]]).run P W1= .ok (.enter gf (Value.func (.yield (w.heap.size+1)) #[] #[]::Uk).toArray) W1:=by
    have agf:=sI (w:=W1) (args:=(Value.func (.yield (w.heap.size+1)) #[] #[]::Uk).toArray) BP;rw[<- agf];simp[invoke]
   refine⟨w.heap.size+1,[{ target:=.collected w.heap.size,args:=#[] }],W1,{ target:=.fn (.func gf) Uk.toArray,args:=#[.func (.yield (w.heap.size+1)) #[] #[]] },W1,gf,
    (Value.func (.yield (w.heap.size+1)) #[] #[]::Uk).toArray,W1,?_,?_,fun _ _=>trivial,Vx,fun hd=>by simp[fz,Fence.wide]at hd,?_⟩
   . rw[<- hW1];exact run_enterLoop_outer _ _ _ _ _
   . simp only[resolve,N3];simp[go_sem]
   . split at e
     case h_2=>cases e
     rename_i v h n K;have I7:=(lA gf _ R (s.n+2) _ h n K E2 W1 (Value.func (.yield (w.heap.size+1)) #[] #[]::Uk) ⟨_,_,⟨_,[],[],⟨_,_,Rf,rfl⟩,rfl,rfl,rfl⟩,age,rfl⟩ u2.good aan).1 BP;have RO:CallsIn Fence.wide (0-1) P gf (Value.func (.yield (w.heap.size+1)) #[] #[]::Uk).toArray W1 (rangePost (fz none) 0 P (w.heap.size+1) h1 { a with defers:=[{ target:=.collected w.heap.size,args:=#[] }]++a.defers }):=by
      refine callsIn_wide.2 (I7.mono ?_);rintro en w3 ⟨E3,u3,N5,aao,Iu,ho⟩;cases en with
      |panicked _=>exact ho.elim
      |outgrown=>exact ho.elim
      |returned v'=>
       have hl3:E3.ι (s.n+1)=some (w.heap.size+1,0):=by rw[N5 _ G];exact Rf
       have hd3:E3.ι s.n=some (w.heap.size,0):=by rw[N5 _ G];exact BZ
       have pJ:∀(st:Bool) (pe:Option Code) (F:I V) (pl:List Nat) (c1 c2:Code),h.get (s.n+1)=some (.loop st pe F pl c1 c2)->
         ∃w4,(Instr.endLoop (w.heap.size+1)).run P w3= .ok pe w4/\
          ∀(y:es) (s1:St),s1={ s with h:=h.set (s.n+1) none,n:=n,gZ:=(fV,[],[.map (some s.n)])::s.gZ }->GW E n0 s w y s1 h1->∀y',GS E3 y y'->h1 y' { a with defers:=[{ target:=.collected w.heap.size,args:=#[] }]++a.defers } w4:=by
        intro st pe F pl c1 c2 lq;obtain⟨b,s0,q1,rc,q2,q3,q4,_⟩:=u3.good.rel _ _ lq;rw[hl3]at q1;cases q1;have AJ:=run_endLoop (P:=P) q2 (by rw[q3];cases st<;>simp);refine⟨_,AJ.trans (aH (fun p=>Result.ok p _) q4),fun y s1 pG iJ y' hy=>?_⟩;have uk:iL E3 h w3 E3 (h.set (s.n+1) none) (w3.putObj (w.heap.size+1) (.loop { rc with state:=.exhausted })):=
         iL.kill u3.good gF ⟨_,lq,rfl⟩ hl3 (by simp) rfl rfl rfl fun x H=>World.putObj_heap_other H
        have RP:=(u12.trans u3).trans uk;subst pG;have hsn:s.n<=n:=by omega
        exact iJ E3 _ _ y' RP (fun k Y=>by rw[N5 k G];exact rI k Y) hsn
         ⟨RP.good,aao,mq RP.le r.F,r.size,⟨_,a.defers,.inr ⟨rfl,s.n,w.heap.size,0,rfl,hd3,rfl⟩,jB RP.le _ _ r.gZ,rfl⟩⟩ hy
       split at e
       . rename_i hdg hlg;obtain⟨rfl,rfl⟩:=fW e;obtain⟨w4,k1,k2⟩:=pJ _ _ _ _ _ _ hlg;exact⟨_,w4,k1,k2 .normal _ rfl hp .normal trivial⟩
       . rename_i hdg hlg;obtain⟨rfl,rfl⟩:=fW e;obtain⟨w4,k1,k2⟩:=pJ _ _ _ _ _ _ hlg;exact⟨_,w4,k1,wpIn_ret (k2 .ret _ rfl hp .ret trivial)⟩
       . rename_i id _ _ _ _ hdg hlg;obtain⟨rfl,rfl⟩:=fW e;obtain⟨w4,k1,k2⟩:=pJ _ _ _ _ _ _ hlg;exact⟨_,w4,k1,wpIn_exit (k2 (.exit id) _ rfl hp (.exit id) rfl)⟩
       . cases e
     exact RO
 . cases e
theorem kV(lA:gq P cf)(S:P.follows .mixedOrders=true):∀(c:Code) (s:St) (x:es) (A:St),(qU=none\/jL c=true)->eJ n0 c=true->gv P cf fr c s=some (x,A)->
  ∀(E:Env) (a:Act) (w:World) (h1:Exit->Act->World->Prop),jT E n0 s a w->GW E n0 s w x A h1->c.wpIn (fz qU) 0 P h1 a w:=by
 intro c
 induction c with
 |skip=>
  intro s x A _ _ e E a w h1 r hp;simp only[gv,aq,aF]at e;obtain⟨rfl,rfl⟩:=e;exact wpIn_skip (hp E a w .normal (iL.refl r.good) (fun _ _=>rfl) (aK _) r trivial)
 |region id ops Bw=>
  intro s x A vp mC e E a w h1 r hp;simp only[eJ,ay]at mC;cases Bw with
  |false=>
   simp only[gv]at e;refine wpIn_region_list (lB lA ops.toList s x A (vp.imp _root_.id fun q=>by simp only[jL,bq]at q;exact q) (fun o ho d hd=>?_) e E a w h1 r hp);have:=bq.1 mC.1 o ho;rw[hd]at this;simpa using this
  |true=>
   simp only[gv]at e;have RR:=BT (by simpa using mC.2);refine NY lA RR S e r.good r.qd r.F r.size fun E' a' w' x' u fq pN hn vb mg M1 Vy H=>?_;exact hp E' a' w' x' u fq hn ⟨u.good,pN,vb,mg,by rw[Vy,M1];exact jB u.le _ _ r.gZ⟩ H
 |seq c1 c2 NP NQ=>
  intro s x A vp mC e E a w h1 r hp;simp only[eJ,ay]at mC;simp only[gv]at e;refine wpIn_seq ?_;cases Q:gv P cf fr c1 s with
  |none=>simp[Q]at e
  |some p=>
   obtain⟨x1,s1⟩:=p;refine NP s x1 s1 (vp.imp _root_.id fun q=>by simp only[jL,ay]at q;exact q.1) mC.1 Q E a w _ r fun E' a' w' x' u fq hn r' H=>?_;cases x1 with
   |normal=>
    simp only[Q]at e;cases x'<;>first|(exact H.elim)|skip
    exact NQ s1 x A (vp.imp _root_.id fun q=>by simp only[jL,ay]at q;exact q.2) mC.2 e E' a' w' h1 r' (hp.after u fq hn)
   |exit i=>
    simp only[Q,aq,aF]at e;obtain⟨rfl,rfl⟩:=e;cases x'<;>first|(exact H.elim)|skip
    exact hp E' a' w' _ u fq hn r' H
   |ret=>
    simp only[Q,aq,aF]at e;obtain⟨rfl,rfl⟩:=e;cases x'<;>first|(exact H.elim)|skip
    exact hp E' a' w' _ u fq hn r' H
   |panic v=>
    simp only[Q,aq,aF]at e;obtain⟨rfl,rfl⟩:=e;cases x'<;>first|(exact H.elim)|skip
    exact hp E' a' w' _ u fq hn r' H
 |cond c c1 c2 NP NQ=>
  intro s x A vp mC e E a w h1 r hp;simp only[eJ,ay]at mC;simp only[gv]at e;split at e
  . rename_i K;exact wpIn_cond_true (rH r.good.kg r.F K) (NP s x A (vp.imp _root_.id fun q=>by simp only[jL,ay]at q;exact q.1) mC.1 e E a w h1 r hp)
  . rename_i K;exact wpIn_cond_false (rH r.good.kg r.F K) (NQ s x A (vp.imp _root_.id fun q=>by simp only[jL,ay]at q;exact q.2) mC.2 e E a w h1 r hp)
  . cases e
 |block id c ih=>
  intro s x A vp mC e E a w h1 r hp;simp only[eJ]at mC;simp only[gv]at e;refine wpIn_block ?_;cases Q:gv P cf fr c s with
  |none=>simp[Q]at e
  |some p=>
   obtain⟨x1,s1⟩:=p;refine ih s x1 s1 (vp.imp _root_.id fun q=>by simpa only[jL]using q) mC Q E a w _ r fun E' a' w' x' u fq hn r' H=>?_;cases x1 with
   |normal=>
    simp only[Q,aq,aF]at e;obtain⟨rfl,rfl⟩:=e;cases x'<;>first|(exact H.elim)|skip
    exact hp E' a' w' .normal u fq hn r' trivial
   |exit i=>
    simp only[Q]at e;cases x'<;>first|(exact H.elim)|skip
    rename_i j;have NR:i=j:=H;subst NR;simp only[Exit.inBlock];split at e
    . rename_i q;obtain⟨rfl,rfl⟩:=fW e;rw[aE q];exact hp E' a' w' .normal u fq hn r' trivial
    . rename_i q;obtain⟨rfl,rfl⟩:=fW e;rw[aB q];exact hp E' a' w' (.exit i) u fq hn r' rfl
   |ret=>
    simp only[Q,aq,aF]at e;obtain⟨rfl,rfl⟩:=e;cases x'<;>first|(exact H.elim)|skip
    exact hp E' a' w' .ret u fq hn r' trivial
   |panic v=>
    simp only[Q,aq,aF]at e;obtain⟨rfl,rfl⟩:=e;cases x'<;>first|(exact H.elim)|skip
    exact hp E' a' w' (.panic _) u fq hn r' H
 |loop c ih=>
  intro s x A vp mC e E a w h1 r hp;simp only[eJ]at mC;simp only[gv]at e;refine wpIn_loop_rounds fr ?_;have key:∀(k:Nat) (s:St),rounds (gv P cf fr c) k s=some (x,A)->∀(E:Env) (a:Act) (w:World),jT E n0 s a w->GW E n0 s w x A h1->Code.roundsIn (fz qU) 0 P c h1 k a w:=by
   intro k
   induction k with
   |zero=>intro s e;cases e
   |succ k ihk=>
    intro s e E a w r hp;simp only[rounds]at e;rw[roundsIn_succ];cases Q:gv P cf fr c s with
    |none=>simp[Q]at e
    |some p=>
     obtain⟨x1,s1⟩:=p;refine ih s x1 s1 (vp.imp _root_.id fun q=>by simpa only[jL]using q) mC Q E a w _ r fun E' a' w' x' u fq hn r' H=>?_;cases x1 with
     |normal=>
      simp only[Q]at e;cases x'<;>first|(exact H.elim)|skip
      exact ihk s1 e E' a' w' r' (hp.after u fq hn)
     |exit i=>
      simp only[Q,aq,aF]at e;obtain⟨rfl,rfl⟩:=e;cases x'<;>first|(exact H.elim)|skip
      exact hp E' a' w' _ u fq hn r' H
     |ret=>
      simp only[Q,aq,aF]at e;obtain⟨rfl,rfl⟩:=e;cases x'<;>first|(exact H.elim)|skip
      exact hp E' a' w' _ u fq hn r' H
     |panic v=>
      simp only[Q,aq,aF]at e;obtain⟨rfl,rfl⟩:=e;cases x'<;>first|(exact H.elim)|skip
      exact hp E' a' w' _ u fq hn r' H
  exact key fr s e E a w r hp
 |exit id=>
  intro s x A _ _ e E a w h1 r hp;simp only[gv,aq,aF]at e;obtain⟨rfl,rfl⟩:=e;exact wpIn_exit (hp E a w (.exit id) (iL.refl r.good) (fun _ _=>rfl) (aK _) r rfl)
 |ret=>
  intro s x A _ _ e E a w h1 r hp;simp only[gv,aq,aF]at e;obtain⟨rfl,rfl⟩:=e;exact wpIn_ret (hp E a w .ret (iL.refl r.good) (fun _ _=>rfl) (aK _) r trivial)
 |rangeFunc g ps assign body _ _=>
  intro s x A vp mC e E a w h1 r hp;have Z9:qU=none:=by
   rcases vp with q|q
   . exact q
   . cases q
  subst Z9;exact GZ lA mC e r hp
 |scope c _=>intro s x A _ _ e;cases e
 |label l=>intro s x A _ _ e;cases e
 |goto l=>intro s x A _ _ e;cases e
 |refuse w=>intro s x A _ _ e;cases e
def B0(tmps:Array Value):ResultVar->Sem Value
 | .tmp t=>pure (tmps.getD t undef)
 | .cell c t=>do loadVar t (<- asAddr (tmps.getD c undef))
theorem I8(fn:Func)(tmps:Array Value):results fn tmps=(do
  let vs <- fn.results.mapM (B0 tmps)
  pure (if h:vs.size=1 then vs[0]else .tuple vs)):=by
 unfold results;congr 1
theorem z6{E:Env}{h:I O}{w:World}{F:I V}{a:Act}(g:Good E h w)(r:wh E F a):∀(rs:List ResultVar) (vs:ag),kR P F h rs=some vs->
  ∃Ub,(rs.mapM (B0 a.tmps)).run P w= .ok Ub w/\dV E vs Ub
 | [],vs,e=>by simp only[kR,aq]at e;subst e;exact⟨[],rfl,rfl⟩
 |x::rs,vs,e=>by
  simp only[kR]at e;cases Q:Ez P F h x with
  |none=>simp[Q]at e
  |some v=>cases R:kR P F h rs with
   |none=>simp[Q,R]at e
   |some us=>
    simp only[Q,R,aq]at e;subst e;obtain⟨us',q1,q2⟩:=z6 g r rs us R;have hv:∃v',(B0 a.tmps x).run P w= .ok v' w/\dQ E v v':=by
     cases x with
     |tmp t=>
      obtain⟨v',p1,p2⟩:=r t v Q;exact⟨v',by simp[B0,p1],p2⟩
     |cell c t=>
      simp only[Ez]at Q;split at Q
      . rename_i u hu;obtain⟨u',p1,p2⟩:=r c u hu;obtain⟨b,sh,rfl,v',p3,p4⟩:=BB (P:=P) g p2 Q;refine⟨v',?_,p4⟩;simp[B0,p1,asAddr,p3]
      . cases Q
    obtain⟨v',p1,p2⟩:=hv;refine⟨v'::us',?_,v',us',p2,q2,rfl⟩;rw[List.mapM_cons];simp only[Sem.run_bind,p1,q1,Result.andThen_ok,Sem.run_pure]
theorem z8{E:Env}{h:I O}{w:World}{F:I V}{a:Act}{fn:Func}{vs:ag}(g:Good E h w)(r:wh E F a)(e:kR P F h fn.results.toList=some vs):
  ∃v',(results fn a.tmps).run P w= .ok v' w/\dQ E (oneOf vs) v':=by
 obtain⟨Ub,q1,q2⟩:=z6 (P:=P) g r fn.results.toList vs e;have gi:(results fn a.tmps).run P w= .ok (if h:Ub.toArray.size=1 then Ub.toArray[0]else .tuple Ub.toArray) w:=by
  rw[I8,Array.mapM_eq_mapM_toList];simp only[Sem.run_bind,Sem.run_map,q1,Result.andThen_ok,Sem.run_pure]
 refine⟨_,gi,?_⟩
 match vs,q2 with
 | [],q2=>simp only[dV]at q2;subst q2;exact⟨[],rfl,rfl⟩
 | [v],q2=>
   obtain⟨y,ys,p1,p2,rfl⟩:=q2;simp only[dV]at p2;subst p2;exact p1
 |u::v::us,q2=>
  have Rf:=eP q2;rw[dif_neg (by simp only[List.size_toArray,Rf,aR];omega)];exact⟨Ub,q2,rfl⟩
end
def Dm(E:Env):Mode->FrameMode->Prop
 | .ret,.returning=>True
 | .ni v b,.panicking chain=>∃v',dQ E v v'/\chain=[{ v:=v',recovered:=b }]
 |_,_=>False
theorem DX{E E':Env}(h:E.le E'):∀{m:Mode} {u:FrameMode},Dm E m u->Dm E' m u
 | .ret,.returning,_=>trivial
 | .ni _ _,.panicking _,⟨v',r,q⟩=>⟨v',jc h _ _ r,q⟩
 | .ret,.run,r=>r.elim
 | .ret,.panicking _,r=>r.elim
 | .ni _ _,.run,r=>r.elim
 | .ni _ _,.returning,r=>r.elim
def DY(E:Env)(n0:Nat)(s:St)(w:World)(x:es)(A:St)(m':Mode)(mD:Frame)(T:List Frame)(h1:Exit->Act->List Frame->World->Prop):Prop:=
 ∀E' a' w' x' u',iL E s.h w E' A.h w'->(∀k,k<s.n->E'.ι k=E.ι k)->s.n<=A.n->jT E' n0 A a' w'->GS E' x x'->Dm E' m' u'->h1 x' a' ({ mD with mode:=u' }::T) w'
theorem DY.after{E E1:Env}{n0:Nat}{s s1 A:St}{w w1:World}{x:es}{m':Mode}{mD:Frame}{T:List Frame}{h1:Exit->Act->List Frame->World->Prop}(p:DY E n0 s w x A m' mD T h1)(u:iL E s.h w E1 s1.h w1)
  (fq:∀k,k<s.n->E1.ι k=E.ι k) (hn:s.n<=s1.n):DY E1 n0 s1 w1 x A m' mD T h1:=
 fun E' a' w' x' u2 u' N2 nV r rx rm=>p E' a' w' x' u2 (u.trans u') (fun k Y=>by rw[N2 k G];exact fq k Y) G r rx rm
section
variable{P:Program}{cf:fL}{fr n0:Nat}
theorem EW(k n:Nat):List.range' k (n+1)=k::List.range' (k+1) n:=by simp[List.range'_succ]
theorem pO{ops:Array Oper}(mD:Frame)(T:List Frame):∀(l:List Oper) (k:Nat) (s:St) (m:Mode) (x:es) (A:St) (m':Mode),(∀j,l[j]? =ops[k+j]?)->(∀o∈l,mU n0 o.dst)->qn P cf ops l s m=some (x,A,m')->
  ∀(E:Env) (a:Act) (w:World) (u:FrameMode) (h1:Exit->Act->List Frame->World->Prop),jT E n0 s a w->Dm E m u->DY E n0 s w x A m' mD T h1->
   wpOpsS P ops h1 (List.range' k l.length) a ({ mD with mode:=u }::T) w
 | [],k,s,m,x,A,m',_,_,e,E,a,w,u,h1,r,rm,hp=>by
   simp only[qn,aq,aF]at e;obtain⟨rfl,rfl,rfl⟩:=e;exact hp E a w .normal u (iL.refl r.good) (fun _ _=>rfl) (aK _) r trivial rm
 |o::rest,k,s,m,x,A,m',lq,EU,e,E,a,w,u,h1,r,rm,hp=>by
  have ho:=EU o (by simp);have xQ:∀o∈rest,mU n0 o.dst:=fun o h=>EU o (by simp[h]);have RN:mU a.tmps.size o.dst:=by rw[r.size];exact ho
  have hgr:∀j,rest[j]? =ops[k+1+j]?:=fun j=>by have:=lq (j+1);simpa[Nat.add_assoc,Nat.add_comm 1 j]using this
  have mC:ops[k]? =some o:=by have:=lq 0;simpa using this.symm
  simp only[qn]at e;simp only[aR,EW,wpOpsS,mC];have GX:∀b,fP ops o s.F=some b->Region.wanted o (yielded ops a.tmps)=b:=fun b hb=>wj (E:=E) (fun _ _ _ d _ _ _ v hv=>r.F d v hv) hb;have GY:∀y∈o.op.operands,mS E s.F a.eval y:=fun y _=>mV r.good.kg r.F y;split at e
  . rename_i hw;rw[aB (by rw[GX _ hw];simp)];split at e
    . rename_i F qL;exact pO mD T rest (k+1) _ m x A m' hgr xQ e E _ w u h1 ⟨r.good,r.qd,n8 r.F qL ⟨[],rfl,rfl⟩ RN,by rw[lQ];exact r.size,by rw[jA];exact r.gZ⟩ rm (hp.after (iL.refl r.good) (fun _ _=>rfl) (aK _))
    . cases e
  . rename_i hw;rw[aE (GX _ hw)];split at e
    . rename_i v h n hs;split at e
      . rename_i F qL;obtain⟨E',w',v',gi,q1,q2,q3,q4⟩:=nJ r.good (r.qd _ (aK _)) GY hs;have hn:s.n<=n:=by rcases q4 with⟨rfl,_⟩|rfl<;>omega
        have pN:pH E' n:=by
         rcases q4 with⟨rfl,rfl⟩|rfl
         . exact r.qd
         . intro k Y;rw[q3 k G];exact r.qd k G
        have xJ:=pO mD T rest (k+1) _ m x A m' hgr xQ e E' (a.put o.dst v') w' u h1 ⟨q2.good,pN,n8 (mq q2.le r.F) qL q1 RN,by rw[lQ];exact r.size,by rw[jA];exact jB q2.le _ _ r.gZ⟩ (DX q2.le rm)
         (hp.after q2 (fun k Y=>q3 k G) hn)
        rcases gi with gi|⟨gi,rfl⟩
        . rw[gi];simp only[Oper.upon_value];exact xJ
        . rw[gi];simp only[Oper.upon_skip];exact xJ
      . cases e
    . rename_i hs;have gi:=nJ r.good (r.qd _ (aK _)) GY hs;simp only[jI]at gi;rw[gi];simp only;split at e
      . rename_i v;split at e
        . rename_i F qL;cases u with
          |panicking chain=>
           obtain⟨v',q1,rfl⟩:=rm;simp only[recoverD];exact pO mD T rest (k+1) _ (.ni v true) x A m' hgr xQ e E (a.put o.dst v') w (.panicking [{ v:=v',recovered:=true }]) h1 ⟨r.good,r.qd,n8 r.F qL q1 RN,by rw[lQ];exact r.size,by rw[jA];exact r.gZ⟩ ⟨v',q1,rfl⟩
            (hp.after (iL.refl r.good) (fun _ _=>rfl) (aK _))
          |run=>exact rm.elim
          |returning=>exact rm.elim
        . cases e
      . rename_i hnp;split at e
        . rename_i F qL;have Aa:recoverD ({ mD with mode:=u }::T)=none:=by
           cases m with
           |ret=>cases u<;>first|(exact rm.elim)|rfl
           |ni v b=>
            cases b with
            |false=>exact absurd rfl (hnp v)
            |true=>
             cases u with
             |panicking chain=>obtain⟨v',q1,rfl⟩:=rm;rfl
             |run=>exact rm.elim
             |returning=>exact rm.elim
          rw[Aa];exact pO mD T rest (k+1) _ m x A m' hgr xQ e E (a.put o.dst .nilIface) w u h1 ⟨r.good,r.qd,n8 r.F qL rfl RN,by rw[lQ];exact r.size,by rw[jA];exact r.gZ⟩ rm (hp.after (iL.refl r.good) (fun _ _=>rfl) (aK _))
        . cases e
    . cases e
  . cases e
section
variable{c:Operand}{x y:Code}{a:Act}
theorem Dn{T:List Frame}{w:World}{h1:Exit->Act->List Frame->World->Prop}(K:a.eval c= .bool true)(h:x.wpS P h1 a T w):(Code.cond c x y).wpS P h1 a T w:=wpS_cond K h
theorem B3{T:List Frame}{w:World}{h1:Exit->Act->List Frame->World->Prop}(K:a.eval c= .bool false)(h:y.wpS P h1 a T w):(Code.cond c x y).wpS P h1 a T w:=wpS_cond K h
end
theorem Ab(lA:gq P cf)(S:P.follows .mixedOrders=true){c:Code}{s A:St}{x:es}{m m':Mode}(mC:eJ n0 c=true)(e:(match gv P cf fr c s with|some (x,A)=>some (x,A,m)|none=>none)=some (x,A,m'))
  {mD:Frame} {T:List Frame} {E:Env} {a:Act} {w:World} {u:FrameMode} {h1:Exit->Act->List Frame->World->Prop} (r:jT E n0 s a w) (rm:Dm E m u) (hp:DY E n0 s w x A m' mD T h1):c.wpS P h1 a ({ mD with mode:=u }::T) w:=by
 cases Q:gv P cf fr c s with
 |none=>simp[Q]at e
 |some p=>
  obtain⟨x1,s1⟩:=p;simp only[Q,aq,aF]at e;obtain⟨rfl,rfl,rfl⟩:=e;exact wpS_of_wp (wpIn_wide.1 (kV (qU:=none) lA S c s x1 s1 (.inl rfl) mC Q E a w _ r fun E' a' w' x' u' fq hn r' H=>hp E' a' w' x' u u' fq hn r' H (DX u'.le rm)))
theorem Ac(lA:gq P cf)(S:P.follows .mixedOrders=true)(mD:Frame)(T:List Frame):∀(c:Code) (s:St) (m:Mode) (x:es) (A:St) (m':Mode),eJ n0 c=true->tu P cf fr c s m=some (x,A,m')->
  ∀(E:Env) (a:Act) (w:World) (u:FrameMode) (h1:Exit->Act->List Frame->World->Prop),jT E n0 s a w->Dm E m u->DY E n0 s w x A m' mD T h1->c.wpS P h1 a ({ mD with mode:=u }::T) w:=by
 intro c
 induction c with
 |region id ops Bw=>
  intro s m x A m' mC e E a w u h1 r rm hp;cases Bw with
  |false=>
   simp only[tu]at e;have RS:=mC;simp only[eJ,ay]at RS;have:=pO (P:=P) (cf:=cf) (ops:=ops) mD T ops.toList 0 s m x A m' (fun j=>by simp) (fun o ho d hd=>by
    have:=bq.1 RS.1 o ho;rw[hd]at this;simpa using this) e E a w u h1 r rm hp
   exact wpS_region (by rw[List.range_eq_range',<- Array.length_toList];exact this)
  |true=>
   simp only[tu]at e;exact Ab (fr:=fr) lA S mC e r rm hp
 |seq c1 c2 NP NQ=>
  intro s m x A m' mC e E a w u h1 r rm hp;simp only[eJ,ay]at mC;simp only[tu]at e;refine wpS_seq ?_;cases Q:tu P cf fr c1 s m with
  |none=>simp[Q]at e
  |some p=>
   obtain⟨x1,s1,m1⟩:=p;refine NP s m x1 s1 m1 mC.1 Q E a w u _ r rm fun E' a' w' x' u1 uu fq hn r' H L7=>?_;cases x1 with
   |normal=>
    simp only[Q]at e;cases x'<;>first|(exact H.elim)|skip
    exact NQ s1 m1 x A m' mC.2 e E' a' w' u1 h1 r' L7 (hp.after uu fq hn)
   |exit i=>
    simp only[Q,aq,aF]at e;obtain⟨rfl,rfl,rfl⟩:=e;cases x'<;>first|(exact H.elim)|skip
    exact hp E' a' w' _ u1 uu fq hn r' H L7
   |ret=>
    simp only[Q,aq,aF]at e;obtain⟨rfl,rfl,rfl⟩:=e;cases x'<;>first|(exact H.elim)|skip
    exact hp E' a' w' _ u1 uu fq hn r' H L7
   |panic v=>
    simp only[Q,aq,aF]at e;obtain⟨rfl,rfl,rfl⟩:=e;cases x'<;>first|(exact H.elim)|skip
    exact hp E' a' w' _ u1 uu fq hn r' H L7
 |cond c c1 c2 NP NQ=>
  intro s m x A m' mC e E a w u h1 r rm hp;simp only[eJ,ay]at mC;simp only[tu]at e;split at e
  . rename_i K;exact Dn (rH r.good.kg r.F K) (NP s m x A m' mC.1 e E a w u h1 r rm hp)
  . rename_i K;exact B3 (rH r.good.kg r.F K) (NQ s m x A m' mC.2 e E a w u h1 r rm hp)
  . cases e
 |_=>
  intro s m x A m' mC e E a w u h1 r rm hp;simp only[tu]at e;exact Ab (fr:=fr) lA S mC e r rm hp
theorem ux:∀(vs:ag) (i:Nat) (t:I V) (k:Nat),i+vs.length<fV->(lg vs i t).get k=if i<=k/\k<i+vs.length then vs[k-i]? else t.get k
 | [],i,t,k,_=>by simp only[lg,bU];rw[aB G]
 |v::vs,i,t,k,h=>by
  simp only[aR]at h;simp only[lg,aR];rw[ux vs (i+1) _ k G,I.fF _ _ _ G];by_cases q:k=i
  . subst q;rw[aB G,aE rfl,aE G];simp
  . rw[aB q];by_cases q2:i+1<=k/\k<i+1+vs.length
    . rw[aE q2,aE G];have:k-i=(k-(i+1))+1:=by omega
      rw[this];simp
    . rw[aB q2,aB G]
theorem nM{E:Env}{args:ag}{dF:List Value}{n:Nat}(r:dV E args dF)(hn:args.length<=n)(ht:n<fV):
  wh E (lg args 0 .nil) { tmps:=dF.toArray++Array.replicate (n-dF.toArray.size) undef,defers:=[] }/\(dF.toArray++Array.replicate (n-dF.toArray.size) undef).size=n:=by
 have hl:=eP r;refine⟨fun t v hv=>?_,by simp;omega⟩;rw[ux args 0 .nil t G]at hv;split at hv
 . rename_i hi;obtain⟨v',Q,R⟩:=gD r _ v hv;refine⟨v',?_,R⟩;simp only[Nat.sub_zero]at Q;rw[b6 (by simp;omega)];simpa using Q
 . cases hv
def jC(P:Program):Bool:=P.funcs.toList.all fun fn=>match fn.body with|some c=>eJ fn.ntmps c|none=>true
theorem Ad(h:jC P=true){f:FuncId}{fn:Func}{c:Code}(hf:P.funcs[f]? =some fn)(hb:fn.body=some c):eJ fn.ntmps c=true:=by
 unfold jC at h;have:=bq.1 h fn (by rw[<- bJ]at hf;exact List.mem_of_getElem? hf);rw[hb]at this;exact this
theorem AK{f:FuncId}{fn:Func}{c:Code}{args:Array Value}{u:FrameMode}{w:World}{h2:Ending->FrameMode->World->Prop}
  (hf:P.funcs[f]? =some fn) (hb:fn.body=some c)
  (h:∀(mD:Frame) (T:List Frame),mD.mode=u->
   c.wpS P (bodyPostS P fn mD T h2) { tmps:=args++Array.replicate (fn.ntmps-args.size) undef,defers:=[] } (mD::T) w):
  CallsDIn Fence.wide (0-1) P f args u w h2:=by
 refine⟨trivial,fun mD T hu _=>?_⟩
 let b:Frame:={ (default:Frame)with fn:=f,kind:=.deferred }
 have Vz:Frame.enter P f args .deferred=
   b.at { tmps:=args++Array.replicate (fn.ntmps-args.size) undef,defers:=[] } [.code c]:=by
  simp[Frame.enter,Frame.at,hf,hb,b]
 obtain⟨e,a',cs',w',hq,N6⟩:=h mD T hu b [] rfl rfl;rw[<- Vz]at N6;cases e with
 |normal=>
  obtain⟨hd,u',rfl,v,hr,hR⟩:=hq;exact⟨.returned v,u',w',_,hR,comesIn_wide.2 (Steps.trans N6 (.one step_end)),rfl,rfl,rfl,hd,fn,hf,hr⟩
 |ret=>
  obtain⟨hd,u',rfl,v,hr,hR⟩:=hq;obtain⟨agh,hs⟩:=N6;exact⟨.returned v,u',w',_,hR,comesIn_wide.2 hs,rfl,rfl,rfl,hd,fn,hf,hr⟩
 |panic chain=>
  obtain⟨hd,u',rfl,hR⟩:=hq;obtain⟨agh,hs⟩:=N6;exact⟨.panicked chain,u',w',_,hR,comesIn_wide.2 hs,rfl,rfl,rfl,hd,fn,hf⟩
 |exit id=>exact hq.elim
 |goto l=>exact hq.elim
 |outgrown=>
  obtain⟨u',hR⟩:=hq;exact⟨.outgrown,u',w',b,hR,comesIn_wide.2 (N6.resolve_left (by simp[b])),rfl,rfl,trivial⟩
theorem oa(lA:gq P cf)(S:P.follows .mixedOrders=true)(r9:jC P=true){fn:Func}{F:I V}{a:Act}:∀(ds:List (FuncId×ag×ag)) (m:Mode) (h:I O) (n:Nat) (rZ:pn) (h':I O) (n':Nat),
  mK P cf fr fn F ds m h n=some (rZ,h',n')->∀(E:Env) (w:World) (ds':List Deferred) (u:FrameMode) (h2:Ending->World->Prop),Good E h w->pH E n->wh E F a->vJ E ds ds'->Dm E m u->
   (∀E' w' en,iL E h w E' h' w'->(∀k,k<n->E'.ι k=E.ι k)->pH E' n'->n<=n'->wm E' rZ en->h2 en w')->LeavesInM Fence.wide 0 P fn a.tmps h2 ds' u w
 | [],m,h,n,rZ,h',n',e,E,w,ds',u,h2,g,hd,hf,Re,rm,hR=>by
   simp only[vJ]at Re;subst Re;cases m with
   |ret=>
    cases u<;>first|(exact rm.elim)|skip
    simp only[mK]at e;split at e
    . rename_i vs hr;simp only[aq,aF]at e;obtain⟨rfl,rfl,rfl⟩:=e;obtain⟨v',Q,R⟩:=z8 (P:=P) g hf hr;exact⟨v',Q,hR E w _ (iL.refl g) (fun _ _=>rfl) hd (aK _) R⟩
    . cases e
   |ni v b=>
    cases u with
    |panicking chain=>
     obtain⟨v',q1,rfl⟩:=rm;cases b with
     |false=>
      simp only[mK,aq,aF]at e;obtain⟨rfl,rfl,rfl⟩:=e;exact hR E w _ (iL.refl g) (fun _ _=>rfl) hd (aK _) ⟨v',q1,rfl⟩
     |true=>cases e
    |run=>exact rm.elim
    |returning=>exact rm.elim
 |(gf,c,args)::ds,m,h,n,rZ,h',n',e,E,w,ds',u,h2,g,hd,hf,Re,rm,hR=>by
  obtain⟨d,ys,M2,r3,rfl⟩:=Re;simp only[mK]at e;have aar:u≠ .run:=by intro q;subst q;cases m<;>exact rm.elim
  split at e
  ·
   rename_i gF;rcases M2 with⟨q,_⟩|⟨_,m0,b,s0,ha,iS,rfl⟩
   . exact absurd q (Nat.not_lt.2 gF)
   simp only at ha;subst ha;simp only at e;split at e
   . rename_i M1;split at e
     . rename_i eM;obtain⟨b',A,q1,q2⟩:=g.rel _ _ M1;rw[iS]at q1;cases q1;have uk:iL E h w E (h.set m0 none) (w.putObj b (.deferred none)):=iL.kill g eM ⟨_,M1,rfl⟩ iS (by simp) rfl rfl rfl fun x H=>World.putObj_heap_other H;exact⟨aar,.inl ⟨b,_,rfl,run_takeDeferred q2,oa lA S r9 ds m _ n rZ h' n' e E _ ys u h2 uk.good hd hf r3 rm fun E2 w2 en u2 rI BZ o4 ho=>hR E2 w2 en (uk.trans u2) rI BZ o4 ho⟩⟩
     . cases e
   . cases e
  rename_i gF;obtain⟨c',dF,r1,r2,rfl⟩:∃c' dF,dV E c c'/\dV E args dF/\d={ target:=.fn (.func gf) c'.toArray,args:=dF.toArray }:=by
   rcases M2 with⟨_,q⟩|⟨q,_⟩
   . exact q
   . exact absurd (Nat.le_of_eq q.symm) gF
  split at e
  . rename_i gn hgn;split at e
    . rename_i code hb;split at e
      . rename_i hq;obtain⟨BP,jO,gF⟩:=hq;have hvr:=iF r2 r1;obtain⟨vb,mg⟩:=nM (n:=gn.ntmps) hvr jO gF;have DZ:=Ad r9 hgn hb;have next:∀(A:St) (m':Mode) (vs:ag),A.gZ=[]->kR P A.F A.h gn.results.toList=some vs->mK P cf fr fn F ds (match m' with | .ni _ true=>.ret|m=>m) A.h A.n=some (rZ,h',n')->
          ∀E' (a':Act) w' u',iL E h w E' A.h w'->(∀k,k<n->E'.ι k=E.ι k)->n<=A.n->jT E' gn.ntmps A a' w'->Dm E' m' u'->
          a'.defers=[]/\∃v,(results gn a'.tmps).run P w'= .ok v w'/\LeavesInM Fence.wide 0 P fn a.tmps h2 ys (settle u') w':=by
         intro A m' vs M1 Vg ED E' a' w' u' uu fq hn r' L7;have agi:a'.defers=[]:=by have:=r'.gZ;rw[M1]at this;exact this
         obtain⟨v',p1,p2⟩:=z8 (P:=P) r'.good r'.F Vg;refine⟨agi,v',p1,?_⟩;refine oa lA S r9 ds _ A.h A.n rZ h' n' ED E' w' ys (settle u') h2 r'.good r'.qd (mq uu.le hf) (jB uu.le _ _ r3) ?_ fun E2 w2 en u2 rI BZ o4 ho=>hR E2 w2 en (uu.trans u2) (fun k Y=>by rw[rI k G];exact fq k Y) BZ G ho;cases m' with
         |ret=>cases u'<;>first|(exact L7.elim)|trivial
         |ni v b=>
          cases u' with
          |panicking chain=>
           obtain⟨v2,q1,rfl⟩:=L7;cases b with
           |false=>exact⟨v2,q1,rfl⟩
           |true=>trivial
          |run=>exact L7.elim
          |returning=>exact L7.elim
        have Vx:(invoke (.fn (.func gf) c'.toArray) dF.toArray).run P w= .ok (.enter gf (dF++c').toArray) w:=by
         simp only[invoke];have:dF.toArray++c'.toArray=(dF++c').toArray:=by simp
         rw[this];exact sI BP
        refine⟨aar,.inr ⟨fun hd=>by simp[Fence.wide]at hd,_,_,gf,_,rfl,Vx,fun _ _=>trivial,AK hgn hb fun mD T aas=>?_⟩⟩;have tw:mD={ mD with mode:=u }:=by subst aas;rfl
        rw[tw];have L8:jT E gn.ntmps { F:=lg (args++c) 0 .nil,h:=h,n:=n,gZ:=[] } { tmps:=(dF++c').toArray++Array.replicate (gn.ntmps-(dF++c').toArray.size) undef,defers:=[] } w:=⟨g,hd,vb,mg,rfl⟩;split at e
        . rename_i A m' H;split at e
          . rename_i M1;split at e
            . rename_i vs Vg;refine Ac lA S mD T code _ m .normal A m' DZ H E _ w u _ L8 rm fun E' a' w' x' u' uu fq hn r' o6 L7=>?_;cases x'<;>first|(exact o6.elim)|skip
              obtain⟨k1,v,k2,k3⟩:=next A m' vs M1 Vg e E' a' w' u' uu fq hn r' L7
              exact⟨k1,u',rfl,v,k2,k3⟩
            . cases e
          . cases e
        . rename_i A m' H;split at e
          . rename_i M1;split at e
            . rename_i vs Vg;refine Ac lA S mD T code _ m .ret A m' DZ H E _ w u _ L8 rm fun E' a' w' x' u' uu fq hn r' o6 L7=>?_;cases x'<;>first|(exact o6.elim)|skip
              obtain⟨k1,v,k2,k3⟩:=next A m' vs M1 Vg e E' a' w' u' uu fq hn r' L7
              exact⟨k1,u',rfl,v,k2,k3⟩
            . cases e
          . cases e
        . cases e
      . cases e
    . cases e
  . cases e
theorem G0(lA:gq P cf)(S:P.follows .mixedOrders=true)(r9:jC P=true){f:FuncId}{args:ag}{h:I O}{n:Nat}{rZ:pn}{h':I O}{n':Nat}(e:enter P cf fr f args h n=some (rZ,h',n'))
  {E:Env} {w:World} {dF:List Value} (ra:dV E args dF) (g:Good E h w) (hd:pH E n):Calls P f dF.toArray w (iC E h n w rZ h' n'):=by
 unfold enter at e;split at e
 . rename_i fn hf;split at e
   . rename_i code hb;split at e
     . rename_i hq;obtain⟨vb,mg⟩:=nM (n:=fn.ntmps) ra hq.1 hq.2;have DZ:=Ad r9 hf hb;have L8:jT E fn.ntmps { F:=lg args 0 .nil,h:=h,n:=n,gZ:=[] } { tmps:=dF.toArray++Array.replicate (fn.ntmps-dF.toArray.size) undef,defers:=[] } w:=⟨g,hd,vb,mg,rfl⟩;refine callsIn_wide.1 (callsIn_of_wp_marks (n:=0) hf hb trivial ?_);have pJ:∀(s:St) (m:Mode) (u:FrameMode) (E':Env) (a':Act) (w':World),mK P cf fr fn s.F s.gZ m s.h s.n=some (rZ,h',n')->iL E h w E' s.h w'->(∀k,k<n->E'.ι k=E.ι k)->n<=s.n->jT E' fn.ntmps s a' w'->Dm E' m u->
         LeavesInM Fence.wide 0 P fn a'.tmps (iC E h n w rZ h' n') a'.defers u w':=by
        intro s m u E' a' w' hl uu fq hn r' rm;exact oa lA S r9 s.gZ m s.h s.n rZ h' n' hl E' w' a'.defers u _ r'.good r'.qd r'.F r'.gZ rm fun E2 w2 en u2 rI BZ o4 ho=>⟨E2,uu.trans u2,fun k Y=>by rw[rI k G];exact fq k Y,BZ,G,ho⟩
       split at e
       . rename_i s H;refine kV (qU:=none) lA S code _ _ s (.inl rfl) DZ H E _ w _ L8 fun E' a' w' x' uu fq hn r' o6=>?_;cases x'<;>first|(exact o6.elim)|skip
         exact pJ s .ret .returning E' a' w' e uu fq hn r' trivial
       . rename_i s H;refine kV (qU:=none) lA S code _ _ s (.inl rfl) DZ H E _ w _ L8 fun E' a' w' x' uu fq hn r' o6=>?_;cases x'<;>first|(exact o6.elim)|skip
         exact pJ s .ret .returning E' a' w' e uu fq hn r' trivial
       . rename_i v s H;refine kV (qU:=none) lA S code _ _ s (.inl rfl) DZ H E _ w _ L8 fun E' a' w' x' uu fq hn r' o6=>?_;cases x'<;>first|(exact o6.elim)|skip
         exact pJ s (.ni v false) _ E' a' w' e uu fq hn r' o6
       . cases e
     . cases e
   . cases e
 . cases e
theorem B4{E:Env}:∀(ps:List Nat) (args:ag) (dF:List Value) (F KD:I V) (t:Array Value),vU (IC ps args) F=some KD->dV E args dF->(∀p∈ps,p<t.size)->Nu E F t->
  Nu E KD ((ps.zip dF).foldl (fun t (p,v)=>t.setIfInBounds p v) t)/\((ps.zip dF).foldl (fun t (p,v)=>t.setIfInBounds p v) t).size=t.size
 | [],args,dF,F,KD,t,e,_,_,r=>by simp only[IC,vU,aq]at e;subst e;exact⟨by simpa using r,by simp⟩
 |p::ps,[],dF,F,KD,t,e,ra,_,r=>by
  simp only[IC,vU,aq]at e;subst e;simp only[dV]at ra;subst ra;exact⟨by simpa using r,by simp⟩
 |p::ps,v::vs,dF,F,KD,t,e,ra,hp,r=>by
  obtain⟨y,ys,r0,rs,rfl⟩:=ra;simp only[IC,vU]at e;split at e
  . rename_i eM;have VA:=hp p (by simp);have R:=B4 ps vs ys _ KD (t.setIfInBounds p y) e rs (fun q hq=>by simpa using hp q (by simp[hq])) (fun k x H=>by
     rw[I.fF _ _ _ eM]at H;by_cases q:k=p
     . subst q;rw[aE rfl]at H;cases H;exact⟨y,by simp[VA],r0⟩
     . rw[aB q]at H;obtain⟨x',k1,k2⟩:=r k x H;exact⟨x',by rw[Array.getElem?_setIfInBounds_ne (Ne.symm q)];exact k1,k2⟩)
    simp only[List.zip_cons_cons,List.foldl_cons];exact⟨R.1,by rw[R.2];simp⟩
  . cases e
theorem L9(ps:Array Nat)(args:List Value)(t:Array Value):(ps.zip args.toArray).foldl (fun t (p,v)=>t.setIfInBounds p v) t=(ps.toList.zip args).foldl (fun t (p,v)=>t.setIfInBounds p v) t:=by
 rw[<- Array.foldl_toList];congr 1;simp
theorem G1(lA:gq P cf)(S:P.follows .mixedOrders=true){m:Nat}{args:ag}{h:I O}{n:Nat}{rZ:pn}{h':I O}{n':Nat}(e:vV P cf fr m args h n=some (rZ,h',n'))
  {E:Env} {w:World} {dF:List Value} (ra:dV E args dF) (g:Good E h w) (hd:pH E n) {l s0:Nat} (iS:E.ι m=some (l,s0)):YieldAt Fence.wide 0 P l dF.toArray w (iC E h n w rZ h' n'):=by
 unfold vV at e;split at e
 case h_2=>cases e
 rename_i F ps assign body lq;split at e
 case isFalse=>cases e
 rename_i hq;obtain⟨Ma,vp,hpa,hpb⟩:=hq;split at e
 case h_2=>cases e
 rename_i KD qL;obtain⟨b,A,q1,r,hb,vr,hpe,EN,agj,agk,htr,VB,aat,aau⟩:=g.rel _ _ lq;rw[iS]at q1;cases q1;simp only[if_true]at vr;subst EN;subst agj;subst agk;have hlw:l<w.heap.size:=(aT.1 hb).1;have Ul:eL h m:=⟨_,lq,rfl⟩;have gi:=run_yield (P:=P) (args:=dF.toArray) hb (by simp[eP ra,<- vp]);refine⟨_,_,_,_,gi,roundIn_of_wpIn trivial ?_⟩;rw[L9];obtain⟨agl,Dh⟩:=B4 r.params.toList args dF F KD r.tmps qL ra aau htr;have qf:∀k o,(h.set m none).get k=some o->k≠m/\h.get k=some o:=by
  intro k o Y;rw[I.fF _ _ _ Ma]at Y;split at Y
  . cases Y
  . rename_i q;exact⟨q,Y⟩
 have B5:∀k o,(h.set m none).get k=some o->h.get k=some o:=fun k o q=>(qf k o q).2;split at e
 case h_2=>cases e
 rename_i s1 Zb;refine kV (qU:=some l) lA S r.assign _ _ s1 (.inr hpa) (by rw[<- Dh]at VB;exact VB) Zb E _ w _ ⟨g.sub B5,hd,agl,rfl,rfl⟩ fun E1 a1 w1 x1 u1 aav De r1 agm=>?_;cases x1<;>first|(exact agm.elim)|skip
 have nl0:∀k t,(h.set m none).get k≠none->E.ι k≠some (l,t):=by
  intro k t Y q;obtain⟨o,ho⟩:=bw.1 Y;obtain⟨c1,c2⟩:=qf k o ho;exact g.inj m k l s0 t (fun q=>c1 q.symm) Ul (by rw[c2];simp) iS q
 have nl1:∀k t,s1.h.get k≠none->E1.ι k≠some (l,t):=by
  intro k t Y q;obtain⟨m0,t0,c1,c2,_⟩:=u1.tv k l t Y q hlw;exact nl0 m0 t0 c1 c2
 have RD:w1.heap[l]? =some (.loop r):=(u1.keep l hlw fun k t Y=>nl0 k t Y.live).trans hb;have Rg:l<w1.heap.size:=(aT.1 RD).1;refine⟨_,run_beginRound RD vr,?_⟩;generalize RL:w1.putObj l (.loop { r with state:=.busy })=w2;have MZ:w2.heap[l]? =some (.loop { r with state:=.busy }):=by rw[<- RL];exact World.putObj_heap_same Rg
 have LR:w2.heap.size=w1.heap.size:=by rw[<- RL];simp
 have N7:∀k,k≠l->w2.heap[k]? =w1.heap[k]?:=fun k Y=>by rw[<- RL];exact World.putObj_heap_other Y
 have pP:Good E1 s1.h w2:=by
  refine⟨fun k o Y=>?_,u1.good.inj,fun k b s Y=>by rw[LR];exact u1.good.oy k b s Y,u1.good.kg,fun b c K=>⟨?_,(u1.good.iu b c K).2⟩⟩
  case refine_2=>
   obtain⟨⟨el,fz,mh⟩,_⟩:=u1.good.iu b c K;rw[N7 b fun q=>by rw[q,RD]at mh;cases mh];exact⟨el,fz,mh⟩
  obtain⟨b,s,k1,k2⟩:=u1.good.rel k o Y;have ja:b≠l:=by intro q;subst q;exact nl1 k s (by rw[Y];simp) k1
  exact⟨b,s,k1,jd E1.le_refl rfl (N7 b ja) k2⟩
 have hN1:a1.tmps.size=r.tmps.size:=by
  exact r1.size.trans Dh
 have rest:∀(x:es) (s2:St),gv P cf fr r.body s1=some (x,s2)->∀(st:Bool) (pe:Option Code) (h1:Exit->Act->World->Prop),
   (∀x' E2 a2 w3,GS E2 x x'->((Instr.endRound l pe).run P w3= .ok (.bool pe.isNone) (w3.putObj l (.loop { r with state:=if pe.isNone then .ready else .done,pending:=pe }))->
    (pe.isNone=st->iL E h w E2 (s2.h.set m (some (.loop st pe F r.params.toList r.assign r.body))) (w3.putObj l (.loop { r with state:=if pe.isNone then .ready else .done,pending:=pe })))->pH E2 s2.n->n<=s2.n->(∀k,k<n->E2.ι k=E.ι k)->h1 x' a2 w3))->
   r.body.wpIn (fz (some l)) 0 P h1 a1 w2:=by
  intro x s2 VC st pe h1 hQ;refine kV (qU:=some l) lA S r.body s1 x s2 (.inr hpb) aat VC E1 a1 w2 h1 ⟨pP,r1.qd,r1.F,hN1,r1.gZ⟩ fun E2 a2 w3 x' u2 rI o4 r2 o6=>?_;refine hQ x' E2 a2 w3 o6 ?_ ?_ r2.qd (bC De o4) (fun k Y=>by rw[rI k (bM Y De)];exact aav k Y)
  . have hb3:w3.heap[l]? =some (.loop { r with state:=.busy }):=(u2.keep l (by rw[LR];exact Rg) fun k t Y=>nl1 k t Y.live).trans MZ;exact run_endRound (P:=P) (r:={ r with state:=.busy }) pe hb3
  . intro agn;have nl2:∀k t,s2.h.get k≠none->E2.ι k≠some (l,t):=by
     intro k t Y q;obtain⟨m0,t0,c1,c2,_⟩:=u2.tv k l t Y q (by rw[LR];exact Rg);exact nl1 m0 t0 c1 c2
    have hb3:w3.heap[l]? =some (.loop { r with state:=.busy }):=(u2.keep l (by rw[LR];exact Rg) fun k t Y=>nl1 k t Y.live).trans MZ;have hl3:l<w3.heap.size:=(aT.1 hb3).1;have lj:E.le E2:=Env.le_trans u1.le u2.le;have N8:E2.ι m=some (l,s0):=(lj.nm m l s0 iS).1;generalize VD:({ r with state:=if pe.isNone then .ready else .done,pending:=pe }:Loop)=r4;have aaw:(w3.putObj l (.loop r4)).heap.size=w3.heap.size:=by simp
    have N9:∀k,k≠l->(w3.putObj l (.loop r4)).heap[k]? =w3.heap[k]?:=fun k Y=>World.putObj_heap_other Y;have qJ:nA E2 (w3.putObj l (.loop r4)) l s0 (.loop st pe F r.params.toList r.assign r.body):=by
     refine⟨r4,World.putObj_heap_same hl3,?_,?_,?_,?_,?_,?_,?_⟩
     . rw[<- VD,<- agn]
     . rw[<- VD]
     . rw[<- VD]
     . rw[<- VD]
     . rw[<- VD]
     . rw[<- VD];exact yK lj htr
     . rw[<- VD];exact⟨VB,aat,aau⟩
    have tC:∀k o,(s2.h.set m (some (.loop st pe F r.params.toList r.assign r.body))).get k=some o->(k=m/\o= .loop st pe F r.params.toList r.assign r.body)\/(k≠m/\s2.h.get k=some o):=by
     intro k o q;rw[I.fF _ _ _ Ma]at q;split at q
     . rename_i c;cases q;exact .inl ⟨c,rfl⟩
     . rename_i c;exact .inr ⟨c,q⟩
    have Oa:∀b c,E2.φ b=some c->b≠l:=fun b c K q=>by
     obtain⟨⟨el,fz,mh⟩,_⟩:=u2.good.iu b c K;rw[q,hb3]at mh;cases mh
    refine⟨lj,⟨?_,?_,?_,u2.good.kg,fun b c K=>⟨by rw[N9 b (Oa b c K)];exact(u2.good.iu b c K).1,fun k t Y q0=>?_⟩⟩,?_,?_,?_,?_,?_,?_,?_⟩
    case refine_4=>
     obtain⟨o,Y,ho⟩:=Y;rcases tC k o Y with⟨rfl,rfl⟩|⟨c',q⟩
     . rw[N8]at q0;cases q0;exact Oa _ c K rfl
     . exact(u2.good.iu b c K).2 k t ⟨o,q,ho⟩ q0
    case refine_11=>
     intro b c K;rcases u2.C8 b c K with q|q|⟨m1,t1,q1,q2⟩
     . rcases u1.C8 b c q with q|q|⟨m0,t0,q1,q2⟩
       . exact .inl q
       . exact .inr (.inl q)
       . exact .inr (.inr ⟨m0,t0,gY B5 q1,q2⟩)
     . have c1:=u1.size;exact .inr (.inl G)
     . rcases br b w.heap.size with AV|AV
       . obtain⟨m0,t0,_,f2,f3⟩:=u1.tv m1 b t1 q1.live q2 AV;exact .inr (.inr ⟨m0,t0,gY B5 (f3 q1),f2⟩)
       . exact .inr (.inl AV)
    . intro k o q;rcases tC k o q with⟨rfl,rfl⟩|⟨c,q⟩
      . exact⟨l,s0,N8,qJ⟩
      . obtain⟨b,t,k1,k2⟩:=u2.good.rel k o q;have ja:b≠l:=by intro c;subst c;exact nl2 k t (by rw[q];simp) k1
        exact⟨b,t,k1,jd E2.le_refl rfl (N9 b ja) k2⟩
    . intro k k' b t t' ja Y oG e1 e2;obtain⟨o,Y,ho⟩:=Y;obtain⟨o',oG⟩:=bw.1 oG;rcases tC k o Y with⟨rfl,rfl⟩|⟨c,q⟩
      . rcases tC k' o' oG with⟨rfl,rfl⟩|⟨c',q'⟩
        . exact ja rfl
        . rw[N8]at e1;cases e1;exact nl2 k' t' (by rw[q'];simp) e2
      . rcases tC k' o' oG with⟨rfl,rfl⟩|⟨c',q'⟩
        . rw[N8]at e2;cases e2;exact nl2 k t (by rw[q];simp) e1
        . exact u2.good.inj k k' b t t' ja ⟨o,q,ho⟩ (by rw[q'];simp) e1 e2
    . intro k b t q;rw[aaw];exact u2.good.oy k b t q
    . rw[aaw];have c1:=u1.size;have c2:=u2.size;omega
    . exact u2.tape.trans (by rw[<- RL];exact u1.tape)
    . exact u2.os.trans (by rw[<- RL];exact u1.os)
    . exact u2.output.trans (by rw[<- RL];exact u1.output)
    . intro b AV zW;have ja:b≠l:=by intro c;subst c;exact zW m s0 Ul iS
      have c1:=u1.size;rw[N9 b ja,u2.keep b G ?_,N7 b ja,u1.keep b AV ?_]
      . intro k t Y q;exact zW k t (gY B5 Y) q
      . intro k t Y q;obtain⟨m0,t0,d1,d2,d3⟩:=u1.tv k b t Y.live q AV;exact zW m0 t0 (gY B5 (d3 Y)) d2
    . intro k b t Y q AV;obtain⟨o,Y⟩:=bw.1 Y;have c1:=u1.size;rcases tC k o Y with⟨rfl,rfl⟩|⟨c,qk⟩
      . rw[N8]at q;cases q;exact⟨k,s0,Ul.live,iS,fun _=>Ul⟩
      . obtain⟨m1,t1,d1,d2,d3⟩:=u2.tv k b t (by rw[qk];simp) q G;obtain⟨m0,t0,f1,f2,f3⟩:=u1.tv m1 b t1 d1 d2 AV;exact⟨m0,t0,pD B5 f1,f2,fun z=>gY B5 (f3 (d3 (pA Ma z c)))⟩
 split at e
 . rename_i s2 VC;simp only[aq,aF]at e;obtain⟨rfl,rfl,rfl⟩:=e;refine rest _ s2 VC true none _ fun x' E2 a2 w3 o6 gi hu pN hn fq=>?_;cases x'<;>first|(exact o6.elim)|skip
   exact⟨_,_,gi,E2,hu rfl,fq,pN,hn,rfl⟩
 . rename_i s2 VC;simp only[aq,aF]at e;obtain⟨rfl,rfl,rfl⟩:=e;refine rest _ s2 VC false (some .ret) _ fun x' E2 a2 w3 o6 gi hu pN hn fq=>?_;cases x'<;>first|(exact o6.elim)|skip
   exact⟨_,_,gi,E2,hu rfl,fq,pN,hn,rfl⟩
 . rename_i j s2 VC;simp only[aq,aF]at e;obtain⟨rfl,rfl,rfl⟩:=e;refine rest _ s2 VC false (some (.exit j)) _ fun x' E2 a2 w3 o6 gi hu pN hn fq=>?_;cases x'<;>first|(exact o6.elim)|skip
   have:_=j:=o6.symm;subst this;exact⟨_,_,gi,E2,hu rfl,fq,pN,hn,rfl⟩
 . cases e
theorem KJ(lA:gq P cf)(S:P.follows .mixedOrders=true)(r9:jC P=true):gq P (fun f args h n=>if f<P.funcs.size then enter P cf fr f args h n else vV P cf fr (f-P.funcs.size) args h n):=by
 intro f args h n rZ h' n' e E w dF ra g hd;simp only at e;split at e
 . rename_i eM;exact⟨fun _=>G0 lA S r9 e ra g hd,fun m l s hf _=>absurd eM (by rw[hf];exact Nat.not_lt.2 (Nat.le_add_right _ _))⟩
 . rename_i N3;refine⟨fun K=>?_,fun m l s hf iS=>?_⟩
   . exfalso;unfold callee at K;rw[Array.getElem?_eq_none (Nat.not_lt.1 N3)]at K;cases K
   . subst hf;rw[Nat.add_sub_cancel_left]at e;exact G1 lA S e ra g hd iS
theorem Ae(S:P.follows .mixedOrders=true)(r9:jC P=true):∀k,gq P (call P fr k)
 |0=>fun _ _ _ _ _ _ _ e=>by cases e
 |k+1=>KJ (Ae S r9 k) S r9
end
open Go.RowKit
def D0:List (Nat×Nat)->Nat->Option (Nat×Nat)
 | [],_=>none
 |p::r,m=>if p.2=m then some (p.1,0)else D0 r m
def gN:Nat:=tK.length
theorem yZ:∀{l:List (Nat×Nat)} {m:Nat} {q:Nat×Nat},D0 l m=some q->∃p∈l,p.2=m/\q=(p.1,0)
 | [],_,_,h=>by cases h
 |p::r,m,q,h=>by
  unfold D0 at h;split at h
  . rename_i hb;cases h;exact⟨p,by simp,hb,rfl⟩
  . obtain⟨p',Q,R⟩:=yZ h;exact⟨p',bj _ Q,R⟩
theorem G2:∀{l:List (Nat×Nat)} {p:Nat×Nat},p∈l->(l.map (·.2)).Nodup->D0 l p.2=some (p.1,0)
 |q::r,p,h,hn=>by
  unfold D0;rcases aD.1 h with rfl|h
  . rw[aE rfl]
  . simp only[cC,List.nodup_cons]at hn;rw[aB (fun e=>hn.1 (by rw[e];exact List.mem_map_of_mem h))];exact G2 h hn.2
theorem RT:(tK.map (·.2)).Nodup:=by
 have h:tK.map (·.2)=List.range tK.length:=by decide
 rw[h];exact List.nodup_range
section
variable(φ:Nat->Option (Array Value)){E:Env}(w:World){h:I O}
theorem EX{p:Nat×Nat}(h:p∈tK):p.2<gN:=by
 have e:tK.map (·.2)=List.range tK.length:=by decide
 have:=List.mem_map_of_mem (f:=(·.2)) h;rw[e]at this;exact bH.1 this
def AW:Env:=⟨fun m=>D0 tK m,fun _=>0,φ⟩
def E0:Env:=AW fun _=>none
def RU:Prop:=∀b c,φ b=some c->∃el fz,w.heap[b]? =some (.cells c el fz)
theorem Good.fz{w:World}(g:Good E h w):RU E.φ w:=fun b c q=>(g.iu b c q).1
theorem agp:GE (AW φ):=fun p hp=>G2 hp RT
def WG:Prop:=∀p∈tK,p.1<w.heap.size
theorem Good.wg{w:World}(g:Good E h w):WG w:=fun p hp=>g.oy _ _ _ (g.kg p hp)
end
section
variable{φ:Nat->Option (Array Value)}{w:World}{n:Nat}
theorem wA(hw:WG w)(kH:RU φ w):Good (AW φ) .nil w:=⟨fun m o h=>by simp[I.get]at h,fun m _ _ _ _ _ h=>absurd rfl h.live,fun m b s h=>by obtain⟨p,Q,_,R⟩:=yZ h;cases R;exact hw p Q,agp φ,fun b c q=>⟨kH b c q,fun m s h=>absurd rfl h.live⟩⟩
theorem Um(hw:WG w):Good E0 .nil w:=wA hw fun _ _ q=>by cases q
theorem B6(hn:gN<=n):pH (AW φ) n:=fun m S=>by
 cases q:(AW φ).ι m with
 |none=>rfl
 |some _=>obtain⟨p',Q,R,_⟩:=yZ q;have:=EX Q;omega
theorem aax(hn:gN<=n):pH E0 n:=B6 hn
end
mutual
def V.free:V->Bool
 | .ptr (some _)=>false
 | .eS (some _) _ _ _=>false
 | .map (some _)=>false
 | .fn f a c=>uW f&&(V.tD a&&V.tD c)
 | .iface _ x=>V.free x
 | .agg T=>V.tD T
 | .gC T=>V.tD T
 | .eo _ 0 []=>true
 | .eo _ _ _=>false
 | .dr _=>false
 |_=>true
def V.tD:ag->Bool
 | []=>true
 |x::xs=>V.free x&&V.tD xs
end
mutual
theorem uy{E E':Env}:∀(v:V) (v':Value),v.free=true->dQ E v v'->dQ E' v v'
 | .bool _,_,_,r=>r
 | .int _ _,_,_,r=>r
 | .str _,_,_,r=>r
 | .ptr none,_,_,r=>r
 | .ptr (some _),_,h,_=>by simp[V.free]at h
 | .eS none _ _ _,_,_,r=>r
 | .eS (some _) _ _ _,_,h,_=>by simp[V.free]at h
 | .map none,_,_,r=>r
 | .map (some _),_,h,_=>by simp[V.free]at h
 | .fn f a c,_,h,⟨f',a',c',rf,ra,rc,q⟩=>by
   simp only[V.free,ay]at h;refine⟨f',a',c',?_,nO a a' h.2.1 ra,nO c c' h.2.2 rc,q⟩;cases f<;>first|exact rf|(simp[uW]at h;done)
 | .kz,_,_,r=>r
 | .iface _ x,_,h,⟨x',r,q⟩=>⟨x',uy x x' (by simpa only[V.free]using h) r,q⟩
 | .nilIface,_,_,r=>r
 | .agg T,_,h,⟨cs',r,q⟩=>⟨cs',nO T cs' (by simpa only[V.free]using h) r,q⟩
 | .gC T,_,h,⟨cs',r,q⟩=>⟨cs',nO T cs' (by simpa only[V.free]using h) r,q⟩
 | .eo f 0 [],_,_,r=>by
   obtain⟨⟨a,jH,vs,Q,R,h3,h4,h5⟩,h6⟩:=r;exact⟨⟨a,jH,vs,Q,R,h3,h4,fun q=>absurd q (cZ _)⟩,h6⟩
 | .eo f 0 (_::_),_,h,_=>by simp[V.free]at h
 | .eo f (_+1) _,_,h,_=>by simp[V.free]at h
 | .dr _,_,h,_=>by simp[V.free]at h
theorem nO{E E':Env}:∀(v:ag) (v':List Value),V.tD v=true->dV E v v'->dV E' v v'
 | [],_,_,r=>r
 |x::xs,_,h,⟨y,ys,r,rs,q⟩=>by
  simp only[V.tD,ay]at h;exact⟨y,ys,uy x y h.1 r,nO xs ys h.2 rs,q⟩
end
theorem Good.below{E:Env}{h:I O}{w w':World}(g:Good E h w)(b:Below w.heap.size w w'):Good E h w' where
 rel:=fun m o S=>let⟨b',s,Q,R⟩:=g.rel m o S;⟨b',s,Q,jd E.le_refl rfl (b.block b' (g.oy m b' s Q)) R⟩
 inj:=g.inj
 oy:=fun m b' s S=>bM (g.oy m b' s S) b.size
 kg:=g.kg
 iu:=fun k c q=>⟨by rw[b.block k (by obtain⟨el,fz,e⟩:=g.fz k c q;exact(aT.1 e).1)];exact g.fz k c q,(g.iu k c q).2⟩
theorem iL.below{E:Env}{h:I O}{w w':World}(g:Good E h w)(b:Below w.heap.size w w'):iL E h w E h w':=
 ⟨E.le_refl,g.below b,b.size,b.tape,b.os,b.output,fun k Y _=>b.block k Y,fun m _ s S he _=>⟨m,s,S,he,id⟩,fun _ _ q=>.inl q⟩
def look(f:FuncId)(args:ag):List (FuncId×ag×V)->Option V
 | []=>none
 |x::r=>match Nat.beq f x.1&&V.oJ args x.2.1 with
  |true=>some x.2.2
  |false=>look f args r
def EY(P:Program)(x:FuncId×ag×V):Prop:=x.1<P.funcs.size/\V.tD x.2.1=true/\x.2.2.free=true/\∃cf h' n',gq P cf/\cf x.1 x.2.1 .nil gN=some (.ret x.2.2,h',n')
theorem G3{f:FuncId}{args:ag}{v:V}:∀{cs:List (FuncId×ag×V)},look f args cs=some v->(f,args,v)∈cs
 | [],h=>by simp[look]at h
 |x::r,h=>by
  simp only[look]at h;split at h
  . rename_i hb;simp only[ay]at hb;simp only[aq]at h;rw[aA hb.1,sK _ _ hb.2,<- h];simp
  . exact bj _ (G3 h)
theorem I9{P:Program}{f:FuncId}{args:ag}{v:V}(hs:EY P (f,args,v)){E:Env}{h:I O}{n:Nat}{w:World}{dF:List Value}(ra:dV E args dF)(g:Good E h w)(hd:pH E n)(K:callee P f=true):
  Calls P f dF.toArray w (iC E h n w (.ret v) h n):=by
 obtain⟨_,ha,hv,cf,h',n',lA,e⟩:=hs;refine(lA f args .nil gN _ h' n' e E0 w dF (nO _ _ ha ra) (Um g.wg) (aax (aK _))).1 K |>.mono fun en w' ⟨E1,u,_,_,_,ho⟩=>?_;have Y:∀b,b<w.heap.size->w'.heap[b]? =w.heap[b]?:=fun b hb=>u.keep b hb fun m s S=>absurd rfl S.live;have hfb:∀b c,E.φ b=some c->b<w.heap.size:=fun b c q=>by obtain⟨el,fz,e⟩:=g.fz b c q;exact(aT.1 e).1
 refine⟨E,⟨E.le_refl,⟨?_,g.inj,fun m b s S=>bM (g.oy m b s S) u.size,g.kg,fun b c q=>⟨by rw[Y b (hfb b c q)];exact g.fz b c q,(g.iu b c q).2⟩⟩,u.size,u.tape,u.os,u.output,fun b hb _=>Y b hb,fun m b s S he _=>⟨m,s,S,he,id⟩,fun _ _ q=>.inl q⟩,fun _ _=>rfl,hd,aK _,?_⟩
 . intro m o S;obtain⟨b,s,Q,R⟩:=g.rel m o S;exact⟨b,s,Q,jd E.le_refl rfl (Y b (g.oy m b s Q)) R⟩
 . cases en with
   |returned v'=>exact uy _ _ hv ho
   |_=>exact ho.elim
structure Dp(w0:World)(E:Env)(h:I O)(w:World):Prop where
 good:Good E h w
 size:w0.heap.size<=w.heap.size
 tape:w.tape=w0.tape
 os:w.os=w0.os
 output:w.output=w0.output
 keep:∀b,b<w0.heap.size->w.heap[b]? =w0.heap[b]?
 tv:∀m b s,eL h m->E.ι m=some (b,s)->b<w0.heap.size->False
theorem Dp.trans{w0:World}{E E':Env}{h h':I O}{w w':World}(a:Dp w0 E h w)(b:iL E h w E' h' w'):Dp w0 E' h' w' where
 good:=b.good
 size:=bC a.size b.size
 tape:=b.tape.trans a.tape
 os:=b.os.trans a.os
 output:=b.output.trans a.output
 keep:=fun x H=>by
  rw[b.keep x (bM H a.size) fun m s S e=>a.tv m x s S e H,a.keep x H]
 tv:=fun m x s S e H=>by
  obtain⟨m1,s1,_,e1,k1⟩:=b.tv m x s S.live e (bM H a.size);exact a.tv m1 x s1 (k1 S) e1 H
theorem Dp.init{E:Env}{h:I O}{w:World}(g:Good E h w)(hr:∀m,¬eL h m):Dp w E h w:=
 ⟨g,aK _,rfl,rfl,rfl,fun _ _=>rfl,fun m _ _ S _ _=>hr m S⟩
theorem Dp.below{w0:World}{E:Env}{h:I O}{w:World}(u:Dp w0 E h w):Below w0.heap.size w0 w:=
 ⟨u.os,u.tape,u.output,u.size,fun k Y=>u.keep k Y⟩
def RV(n0:Nat)(w0:World)(s:St)(a:Act)(w:World):Prop:=∃E,jT E n0 s a w/\Dp w0 E s.h w
theorem RV.below{n0:Nat}{w0:World}{s:St}{a:Act}{w:World}(i:RV n0 w0 s a w):Below w0.heap.size w0 w:=by
 obtain⟨E,_,u⟩:=i;exact u.below
def es.plain:es->Option Exit
 | .normal=>some .normal
 | .exit i=>some (.exit i)
 | .ret=>some .ret
 | .panic _=>none
mutual
def V.names:V->List Nat->List Nat
 | .ptr (some (m,_)),l=>m::l
 | .eS (some (m,_)) _ _ _,l=>m::l
 | .map (some m),l=>m::l
 | .fn f a c,l=>match f with
   | .yield m=>m::V.sM a (V.sM c l)
   |_=>V.sM a (V.sM c l)
 | .iface _ x,l=>V.names x l
 | .agg T,l=>V.sM T l
 | .gC T,l=>V.sM T l
 |_,l=>l
def V.sM:ag->List Nat->List Nat
 | [],l=>l
 |x::xs,l=>V.names x (V.sM xs l)
end
def G4:List (V×V×Nat)->List Nat
 | []=>[]
 |x::xs=>V.names x.1 (V.names x.2.1 (G4 xs))
def O.names:O->List Nat
 | .cells T=>V.sM T []
 | .map X _=>G4 X
 | .nq _ _=>[]
 | .ints _ _=>[]
 | .own _ _=>[]
 | .deep _=>[]
 | .tr _ _ _=>[]
 | .Az _ _ x=>V.names x []
 | .gh _ _=>[]
 | .ow _ _=>[]
 | .tL=>[]
 | .loop ..=>[]
def VE(h:I O):Nat->List Nat->I Nat->List Nat->Nat->Option (I Nat×List Nat×Nat)
 |0,_,_,_,_=>none
 |_+1,[],ρ,oc,k=>some (ρ,oc,k)
 |f+1,m::q,ρ,oc,k=>match ρ.get m with
  |some _=>VE h f q ρ oc k
  |none=>VE h f ((match h.get m with|some o=>o.names|none=>[])++q) (ρ.set m (some k)) (m::oc) (k+1)
def wB:List Nat->Nat->I Nat->I Nat
 | [],_,t=>t
 |m::r,k,t=>wB r (k-1) (t.set (k-1) (some m))
def wC(ρ back:I Nat)(n2 m:Nat):Option Nat:=
 match ρ.get m with
 |some k=>match back.get k with
  |some m'=>match Nat.beq m m'&&Nat.blt k n2 with
   |true=>some k
   |false=>none
  |none=>none
 |none=>none
theorem Af{ρ back:I Nat}{n2 m k:Nat}(h:wC ρ back n2 m=some k):ρ.get m=some k/\back.get k=some m/\k<n2:=by
 unfold wC at h;split at h
 . rename_i k' Q;split at h
   . rename_i m' R;split at h
     . rename_i hb;simp only[ay]at hb;simp only[aq]at h;subst h;have e:=aA hb.1;subst e;exact⟨Q,R,by have:=hb.2;simp[Nat.blt]at this;omega⟩
     . cases h
   . cases h
 . cases h
section
variable(ν:Nat->Option Nat)
mutual
def V.Un:V->Option V
 | .ptr (some (m,o))=>match ν m with
   |some k=>some (.ptr (some (k,o)))
   |none=>none
 | .eS (some (m,o)) l c e=>match ν m with
   |some k=>some (.eS (some (k,o)) l c e)
   |none=>none
 | .map (some m)=>match ν m with
   |some k=>some (.map (some k))
   |none=>none
 | .fn f a c=>match uW f with
   |true=>match V.Mb a with
    |some a=>match V.Mb c with
     |some c=>some (.fn f a c)
     |none=>none
    |none=>none
   |false=>none
 | .iface t x=>match V.Un x with
   |some x=>some (.iface t x)
   |none=>none
 | .agg T=>match V.Mb T with
   |some T=>some (.agg T)
   |none=>none
 | .gC T=>match V.Mb T with
   |some T=>some (.gC T)
   |none=>none
 | .bool b=>some (.bool b)
 | .int k n=>some (.int k n)
 | .str s=>some (.str s)
 | .ptr none=>some (.ptr none)
 | .eS none l c e=>some (.eS none l c e)
 | .map none=>some (.map none)
 | .kz=>some .kz
 | .nilIface=>some .nilIface
 | .eo f n T=>some (.eo f n T)
 | .dr T=>some (.dr T)
def V.Mb:ag->Option (ag)
 | []=>some []
 |x::xs=>match V.Un x with
  |some x=>match V.Mb xs with
   |some xs=>some (x::xs)
   |none=>none
  |none=>none
end
def Uo:List (V×V×Nat)->Option (List (V×V×Nat))
 | []=>some []
 |x::xs=>match V.Un ν x.1,V.Un ν x.2.1,Uo xs with
  |some k,some v,some xs=>some ((k,v,x.2.2)::xs)
  |_,_,_=>none
def O.Un:O->Option O
 | .cells T=>match V.Mb ν T with
   |some T=>some (.cells T)
   |none=>none
 | .map X c=>match Uo ν X with
   |some X=>some (.map X c)
   |none=>none
 | .nq s p=>some (.nq s p)
 | .ints k ks=>some (.ints k ks)
 | .own k ks=>some (.own k ks)
 | .deep T=>some (.deep T)
 | .tr e f s=>some (.tr e f s)
 | .Az t s x=>match V.Un ν x with
   |some x=>some (.Az t s x)
   |none=>none
 | .gh k X=>some (.gh k X)
 | .ow k X=>some (.ow k X)
 | .tL=>none
 | .loop ..=>none
end
section
variable{ν:Nat->Option Nat}{E E':Env}(iS:∀m k,ν m=some k->E'.ι k=E.ι m)(ou:E'.β=E.β)(kH:∀b c,E.φ b=some c->E'.φ b=some c)
include iS ou kH
end
def Ja(ν:Nat->Option Nat)(h:I O):List Nat->I O->Option (I O)
 | [],t=>some t
 |m::r,t=>match h.get m with
  |none=>Ja ν h r t
  |some o=>match ν m with
   |some k=>match o.Un ν with
    |some o2=>match Nat.blt k fV with
     |true=>Ja ν h r (t.set k (some o2))
     |false=>none
    |none=>none
   |none=>none
def y5(ν:Nat->Option Nat)(F:I V):List Nat->I V->Option (I V)
 | [],t=>some t
 |m::r,t=>match F.get m with
  |none=>y5 ν F r t
  |some v=>match v.Un ν with
   |some v2=>match Nat.blt m fV with
    |true=>y5 ν F r (t.set m (some v2))
    |false=>none
   |none=>none
def rJ(F:I V):List Nat->List Nat
 | []=>[]
 |t::r=>match F.get t with
  |some v=>v.names (rJ F r)
  |none=>rJ F r
def aay(back:I Nat)(k:Nat):Bool:=tK.all fun p=>Nat.blt p.2 k&&match back.get p.2 with
 |some o=>Nat.beq o p.2
 |none=>false
def norm(live:List Nat)(s:St):Option St:=
 match s.gZ with
 | []=>match VE s.h 100000 (rJ s.F live) .nil [] 0 with
   |some (ρ,oc,k)=>
    let ν:=wC ρ (wB oc k .nil) k
    match aay (wB oc k .nil) k with
    |false=>none
    |true=>match Ja ν s.h oc .nil with
    |some R=>match y5 ν s.F live .nil with
     |some I4=>some { F:=I4,h:=R,n:=k,gZ:=[] }
     |none=>none
    |none=>none
   |none=>none
 |_=>none
section
variable(ν:Nat->Option Nat)
mutual
def V.rn:V->Option V
 | .ptr (some (m,o))=>match ν m with
   |some k=>some (.ptr (some (k,o)))
   |none=>none
 | .eS (some (m,o)) l c e=>match ν m with
   |some k=>some (.eS (some (k,o)) l c e)
   |none=>none
 | .map (some m)=>match ν m with
   |some k=>some (.map (some k))
   |none=>none
 | .fn f a c=>match V.Jb a with
   |some a=>match V.Jb c with
    |some c=>match f with
     | .yield m=>match ν m with
       |some k=>some (.fn (.yield k) a c)
       |none=>none
     |f=>some (.fn f a c)
    |none=>none
   |none=>none
 | .iface t x=>match V.rn x with
   |some x=>some (.iface t x)
   |none=>none
 | .agg T=>match V.Jb T with
   |some T=>some (.agg T)
   |none=>none
 | .gC T=>match V.Jb T with
   |some T=>some (.gC T)
   |none=>none
 | .bool b=>some (.bool b)
 | .int k n=>some (.int k n)
 | .str s=>some (.str s)
 | .ptr none=>some (.ptr none)
 | .eS none l c e=>some (.eS none l c e)
 | .map none=>some (.map none)
 | .kz=>some .kz
 | .nilIface=>some .nilIface
 | .eo f n T=>some (.eo f n T)
 | .dr T=>some (.dr T)
def V.Jb:ag->Option (ag)
 | []=>some []
 |x::xs=>match V.rn x with
  |some x=>match V.Jb xs with
   |some xs=>some (x::xs)
   |none=>none
  |none=>none
end
def Oc:List (V×V×Nat)->Option (List (V×V×Nat))
 | []=>some []
 |x::xs=>match V.rn ν x.1 with
  |some k=>match V.rn ν x.2.1 with
   |some v=>match Oc xs with
    |some xs=>some ((k,v,x.2.2)::xs)
    |none=>none
   |none=>none
  |none=>none
def B7(m:Nat):Bool:=match ν m with
 |some k=>Nat.beq m k
 |none=>false
mutual
def V.still:V->Bool
 | .ptr (some (m,_))=>B7 ν m
 | .eS (some (m,_)) _ _ _=>B7 ν m
 | .map (some m)=>B7 ν m
 | .fn f a c=>(match f with | .yield m=>B7 ν m|_=>true)&&(V.wD a&&V.wD c)
 | .iface _ x=>V.still x
 | .agg T=>V.wD T
 | .gC T=>V.wD T
 |_=>true
def V.wD:ag->Bool
 | []=>true
 |x::xs=>V.still x&&V.wD xs
end
def xS:I V->Bool
 | .nil=>true
 | .node v l r=>(match v with|some v=>V.still ν v|none=>true)&&(xS l&&xS r)
def O.rn:O->Option O
 | .cells T=>match V.Jb ν T with
   |some T=>some (.cells T)
   |none=>none
 | .map X c=>match Oc ν X with
   |some X=>some (.map X c)
   |none=>none
 | .nq s p=>some (.nq s p)
 | .ints k ks=>some (.ints k ks)
 | .own k ks=>some (.own k ks)
 | .deep T=>some (.deep T)
 | .tr e f s=>some (.tr e f s)
 | .Az t s x=>match V.rn ν x with
   |some x=>some (.Az t s x)
   |none=>none
 | .gh k X=>some (.gh k X)
 | .ow k X=>some (.ow k X)
 | .tL=>some .tL
 | .loop st pe F ps a b=>match xS ν F with
   |true=>some (.loop st pe F ps a b)
   |false=>none
end
mutual
theorem sN{ν:Nat->Option Nat}{E E':Env}(iS:∀m k,ν m=some k->E'.ι k=E.ι m)(ou:∀m k b s,ν m=some k->E.ι m=some (b,s)->E'.β b=E.β b)(kH:∀b c,E.φ b=some c->E'.φ b=some c):∀(v v2:V) (v':Value),v.rn ν=some v2->dQ E v v'->dQ E' v2 v'
 | .bool _,v2,_,h,r=>by simp only[V.rn,aq]at h;subst h;exact r
 | .int _ _,v2,_,h,r=>by simp only[V.rn,aq]at h;subst h;exact r
 | .str _,v2,_,h,r=>by simp only[V.rn,aq]at h;subst h;exact r
 | .ptr none,v2,_,h,r=>by simp only[V.rn,aq]at h;subst h;exact r
 | .ptr (some (m,o)),v2,_,h,⟨b,s,e,q⟩=>by
   simp only[V.rn]at h;split at h
   . rename_i k Y;obtain rfl:=eB h;exact⟨b,s,(iS m k Y).trans e,q⟩
   . cases h
 | .eS none _ _ _,v2,_,h,r=>by simp only[V.rn,aq]at h;subst h;exact r
 | .eS (some (m,o)) _ _ _,v2,_,h,⟨b,s,o',gp,e,q1,q2,q3,q4,q5⟩=>by
   simp only[V.rn]at h;split at h
   . rename_i k Y;obtain rfl:=eB h;exact⟨b,s,o',gp,(iS m k Y).trans e,q1,q2,q3,by rw[ou m k b s Y e];exact q4,q5⟩
   . cases h
 | .map none,v2,_,h,r=>by simp only[V.rn,aq]at h;subst h;exact r
 | .map (some m),v2,_,h,⟨b,e,q⟩=>by
   simp only[V.rn]at h;split at h
   . rename_i k Y;obtain rfl:=eB h;exact⟨b,(iS m k Y).trans e,q⟩
   . cases h
 | .fn f a c,v2,_,h,⟨f',a',c',rf,ra,rc,q⟩=>by
   simp only[V.rn]at h;split at h
   . rename_i a2 ha;split at h
     . rename_i c2 K;have Up:=sO iS ou kH a a2 a' ha ra;have rc2:=sO iS ou kH c c2 c' K rc;split at h
       . rename_i m;split at h
         . rename_i k Y;obtain rfl:=eB h;obtain⟨l,s,e,q2⟩:=rf;exact⟨f',a',c',⟨l,s,(iS m k Y).trans e,q2⟩,Up,rc2,q⟩
         . cases h
       . obtain rfl:=eB h;refine⟨f',a',c',?_,Up,rc2,q⟩;cases f<;>first|exact rf|(rename_i ja;exact(ja _ rfl).elim)
     . cases h
   . cases h
 | .kz,v2,_,h,r=>by simp only[V.rn,aq]at h;subst h;exact r
 | .iface t x,v2,_,h,⟨x',r,q⟩=>by
   simp only[V.rn]at h;split at h
   . rename_i x2 H;obtain rfl:=eB h;exact⟨x',sN iS ou kH x x2 x' H r,q⟩
   . cases h
 | .nilIface,v2,_,h,r=>by simp only[V.rn,aq]at h;subst h;exact r
 | .agg T,v2,_,h,⟨cs',r,q⟩=>by
   simp only[V.rn]at h;split at h
   . rename_i x2 H;obtain rfl:=eB h;exact⟨cs',sO iS ou kH T x2 cs' H r,q⟩
   . cases h
 | .gC T,v2,_,h,⟨cs',r,q⟩=>by
   simp only[V.rn]at h;split at h
   . rename_i x2 H;obtain rfl:=eB h;exact⟨cs',sO iS ou kH T x2 cs' H r,q⟩
   . cases h
 | .eo f n T,v2,_,h,r=>by
   simp only[V.rn,aq]at h;subst h;exact⟨me kH _ _ r.1,r.2⟩
 | .dr T,v2,_,h,⟨b,o,c,vs,e,e1,r,q⟩=>by
   simp only[V.rn,aq]at h;subst h;exact⟨b,o,c,vs,e,kH _ _ e1,iz kH _ _ r,q⟩
theorem sO{ν:Nat->Option Nat}{E E':Env}(iS:∀m k,ν m=some k->E'.ι k=E.ι m)(ou:∀m k b s,ν m=some k->E.ι m=some (b,s)->E'.β b=E.β b)(kH:∀b c,E.φ b=some c->E'.φ b=some c):∀(v v2:ag) (v':List Value),V.Jb ν v=some v2->dV E v v'->dV E' v2 v'
 | [],v2,_,h,r=>by simp only[V.Jb,aq]at h;subst h;exact r
 |x::xs,v2,_,h,⟨y,ys,r,rs,q⟩=>by
  simp only[V.Jb]at h;split at h
  . rename_i x2 H;split at h
    . rename_i Mc BI;obtain rfl:=eB h;exact⟨y,ys,sN iS ou kH x x2 y H r,sO iS ou kH xs Mc ys BI rs,q⟩
    . cases h
  . cases h
end
section
variable{ν:Nat->Option Nat}{E E':Env}(iS:∀m k,ν m=some k->E'.ι k=E.ι m)(ou:∀m k b s,ν m=some k->E.ι m=some (b,s)->E'.β b=E.β b)(kH:∀b c,E.φ b=some c->E'.φ b=some c)
include iS ou kH
theorem G5:∀(X yC:List (V×V×Nat)) (l:List MapEntry),Oc ν X=some yC->kC E X l->kC E' yC l
 | [],yC,_,h,r=>by simp only[Oc,aq]at h;subst h;exact r
 |x::xs,yC,_,h,⟨y,ys,r1,r2,r3,rs,q⟩=>by
  simp only[Oc]at h;split at h
  . rename_i k Y;split at h
    . rename_i v hv;split at h
      . rename_i Mc BI;obtain rfl:=eB h;exact⟨y,ys,sN iS ou kH _ _ _ Y r1,sN iS ou kH _ _ _ hv r2,r3,G5 _ _ _ BI rs,q⟩
      . cases h
    . cases h
  . cases h
end
theorem nP{ν:Nat->Option Nat}{m:Nat}(h:B7 ν m=true):ν m=some m:=by
 unfold B7 at h;split at h
 . rename_i k Y;rw[Y,aA h]
 . cases h
theorem uz{ν:Nat->Option Nat}:∀(t:I V),xS ν t=true->∀k v,t.get k=some v->v.still ν=true
 | .nil,_,k,v,h=>by simp[I.get]at h
 | .node x l r,hs,k,v,h=>by
   simp only[xS,ay]at hs;simp only[I.get]at h;split at h
   . subst h;exact hs.1
   . rename_i k;split at h
     . exact uz l hs.2.1 _ v h
     . exact uz r hs.2.2 _ v h
mutual
theorem y6{ν:Nat->Option Nat}{E E':Env}(iS:∀m k,ν m=some k->E'.ι k=E.ι m)(ou:∀m k b s,ν m=some k->E.ι m=some (b,s)->E'.β b=E.β b)(kH:∀b c,E.φ b=some c->E'.φ b=some c):∀(v:V) (v':Value),v.still ν=true->dQ E v v'->dQ E' v v'
 | .bool _,_,_,r=>r
 | .int _ _,_,_,r=>r
 | .str _,_,_,r=>r
 | .ptr none,_,_,r=>r
 | .ptr (some (m,o)),_,h,⟨b,s,e,q⟩=>⟨b,s,(iS m m (nP h)).trans e,q⟩
 | .eS none _ _ _,_,_,r=>r
 | .eS (some (m,o)) _ _ _,_,h,⟨b,s,o',gp,e,q1,q2,q3,q4,q5⟩=>⟨b,s,o',gp,(iS m m (nP h)).trans e,q1,q2,q3,by rw[ou m m b s (nP h) e];exact q4,q5⟩
 | .map none,_,_,r=>r
 | .map (some m),_,h,⟨b,e,q⟩=>⟨b,(iS m m (nP h)).trans e,q⟩
 | .fn f a c,_,h,⟨f',a',c',rf,ra,rc,q⟩=>by
   simp only[V.still,ay]at h;refine⟨f',a',c',?_,pQ iS ou kH a a' h.2.1 ra,pQ iS ou kH c c' h.2.2 rc,q⟩;cases f with
   |yield m=>obtain⟨l,s,e,q2⟩:=rf;exact⟨l,s,(iS m m (nP h.1)).trans e,q2⟩
   |_=>exact rf
 | .kz,_,_,r=>r
 | .iface _ x,_,h,⟨x',r,q⟩=>⟨x',y6 iS ou kH x x' (by simpa only[V.still]using h) r,q⟩
 | .nilIface,_,_,r=>r
 | .agg T,_,h,⟨cs',r,q⟩=>⟨cs',pQ iS ou kH T cs' (by simpa only[V.still]using h) r,q⟩
 | .gC T,_,h,⟨cs',r,q⟩=>⟨cs',pQ iS ou kH T cs' (by simpa only[V.still]using h) r,q⟩
 | .eo _ _ _,_,_,r=>⟨me kH _ _ r.1,r.2⟩
 | .dr T,_,_,⟨b,o,c,vs,e,e1,r,q⟩=>⟨b,o,c,vs,e,kH _ _ e1,iz kH _ _ r,q⟩
theorem pQ{ν:Nat->Option Nat}{E E':Env}(iS:∀m k,ν m=some k->E'.ι k=E.ι m)(ou:∀m k b s,ν m=some k->E.ι m=some (b,s)->E'.β b=E.β b)(kH:∀b c,E.φ b=some c->E'.φ b=some c):∀(v:ag) (v':List Value),V.wD ν v=true->dV E v v'->dV E' v v'
 | [],_,_,r=>r
 |x::xs,_,h,⟨y,ys,r,rs,q⟩=>by
  simp only[V.wD,ay]at h;exact⟨y,ys,y6 iS ou kH x y h.1 r,pQ iS ou kH xs ys h.2 rs,q⟩
end
section
variable{ν:Nat->Option Nat}{E E':Env}(iS:∀m k,ν m=some k->E'.ι k=E.ι m)(ou:∀m k b s,ν m=some k->E.ι m=some (b,s)->E'.β b=E.β b)(kH:∀b c,E.φ b=some c->E'.φ b=some c)
include iS ou kH
theorem AX{w:World}{b s:Nat}(hb:E'.β b=E.β b):∀(o o2:O),o.rn ν=some o2->nA E w b s o->nA E' w b s o2
 | .cells T,o2,h,⟨c,el,fz,Q,R,h3,h4⟩=>by
   simp only[O.rn]at h;split at h
   . rename_i VF qb;obtain rfl:=eB h;refine⟨c,el,fz,Q,by rw[hb];exact R,h3,?_⟩;have:∀(T VF:ag),V.Jb ν T=some VF->∀(s:Nat),lP E s T c->lP E' s VF c:=by
      intro T
      induction T with
      |nil=>intro VF h s r;simp only[V.Jb,aq]at h;subst h;intro i v e;simp at e
      |cons x xs ih=>
       intro VF h s r;simp only[V.Jb]at h;split at h
       . rename_i x2 H;split at h
         . rename_i Mc BI;obtain rfl:=eB h;intro i v e;cases i with
           |zero=>
            simp only[cG,aq]at e;subst e;obtain⟨v',k1,k2⟩:=r 0 x (by simp);exact⟨v',k1,sN iS ou kH _ _ _ H k2⟩
           |succ i=>
            simp only[List.getElem?_cons_succ]at e;obtain⟨v',k1,k2⟩:=ih Mc BI (s+1) (fun j v e=>by
             obtain⟨v',k1,k2⟩:=r (j+1) v (by simpa using e);exact⟨v',by rw[<- k1];congr 1;omega,k2⟩) i v e
            exact⟨v',by rw[<- k1];congr 1;omega,k2⟩
         . cases h
       . cases h
     exact this T VF qb s h4
   . cases h
 | .map X cl,o2,h,⟨hs,fG,Q,R⟩=>by
   simp only[O.rn]at h;split at h
   . rename_i yC Vm;obtain rfl:=eB h;exact⟨hs,fG,Q,G5 iS ou kH _ _ _ Vm R⟩
   . cases h
 | .nq st p,o2,h,r=>by simp only[O.rn,aq]at h;subst h;exact r
 | .ints k ks,o2,h,⟨c,el,fz,Q,R,h3⟩=>by simp only[O.rn,aq]at h;subst h;exact⟨c,el,fz,Q,by rw[hb];exact R,h3⟩
 | .own k ks,o2,h,⟨c,el,fz,Q,R,h3,h4⟩=>by simp only[O.rn,aq]at h;subst h;exact⟨c,el,fz,Q,by rw[hb];exact R,h3,vD h4⟩
 | .deep T,o2,h,⟨c,el,fz,vs,Q,R,h3,h4,h5⟩=>by simp only[O.rn,aq]at h;subst h;exact⟨c,el,fz,vs,Q,by rw[hb];exact R,h3,iz kH _ _ h4,h5⟩
 | .tr el zO t,o2,h,⟨c,fz,xs,Q,h0,R,h3⟩=>by simp only[O.rn,aq]at h;subst h;exact⟨c,fz,xs,Q,h0,by rw[hb];exact R,h3⟩
 | .Az t self x,o2,h,⟨hs,x',fz,Q,R,h3,h4⟩=>by
   simp only[O.rn]at h;split at h
   . rename_i x2 H;obtain rfl:=eB h;exact⟨hs,x',fz,Q,by rw[hb];exact R,h3,sN iS ou kH _ _ _ H h4⟩
   . cases h
 | .gh kk X,o2,h,⟨hs,fG,cl,Q,R⟩=>by simp only[O.rn,aq]at h;subst h;exact⟨hs,fG,cl,Q,R.mono kH⟩
 | .ow kk X,o2,h,⟨hs,fG,Q,R⟩=>by simp only[O.rn,aq]at h;subst h;exact⟨hs,fG,Q,R.mono kH⟩
 | .tL,o2,h,r=>by simp only[O.rn,aq]at h;subst h;exact r
 | .loop st pe F ps a b',o2,h,⟨r,Q,R,h3,h4,h5,h6,h7,h8⟩=>by
   simp only[O.rn]at h;split at h
   . rename_i hs;obtain rfl:=eB h;exact⟨r,Q,R,h3,h4,h5,h6,fun t v e=>let⟨v',k1,k2⟩:=h7 t v e;⟨v',k1,y6 iS ou kH v v' (uz F hs t v e) k2⟩,h8⟩
   . cases h
end
theorem Ag{ν:Nat->Option Nat}{o o2:O}(h:o.rn ν=some o2):o2.wr=o.wr:=by
 cases o<;>simp only[O.rn]at h<;>(try split at h)<;>first|(obtain rfl:=eB h;rfl)|cases h
def EZ:I V->List Nat->List Nat
 | .nil,l=>l
 | .node v a b,l=>(match v with|some v=>V.names v|none=>id) (EZ a (EZ b l))
def O.nms:O->List Nat
 | .loop _ _ F _ _ _=>EZ F []
 |o=>o.names
def G6(h:I O):Nat->List Nat->I Nat->List Nat->Nat->Option (I Nat×List Nat×Nat)
 |0,_,_,_,_=>none
 |_+1,[],ρ,oc,k=>some (ρ,oc,k)
 |f+1,m::q,ρ,oc,k=>match ρ.get m with
  |some _=>G6 h f q ρ oc k
  |none=>G6 h f ((match h.get m with|some o=>o.nms|none=>[])++q) (ρ.set m (some k)) (m::oc) (k+1)
def RW:Nat->I Nat
 |0=>.nil
 |k+1=>(RW k).set k (some k)
def E4:Nat->List Nat
 |0=>[]
 |k+1=>k::E4 k
def B8(h:I O):Nat->List Nat->List Nat
 |0,l=>l
 |k+1,l=>(match h.get k with|some o=>o.nms|none=>[])++B8 h k l
def AY(ν:Nat->Option Nat):Nat->Bool
 |0=>true
 |k+1=>B7 ν k&&AY ν k
theorem xT{ν:Nat->Option Nat}:∀{k:Nat},AY ν k=true->∀m,m<k->ν m=some m
 |0,_,m,S=>by omega
 |k+1,h,m,S=>by
  simp only[AY,ay]at h;by_cases e:m=k
  . subst e;exact nP h.1
  . exact xT h.2 m G
def B9(ν:Nat->Option Nat)(h:I O):List Nat->I O->Option (I O)
 | [],t=>some t
 |m::r,t=>match h.get m with
  |none=>B9 ν h r t
  |some o=>match ν m with
   |some k=>match o.rn ν with
    |some o2=>match Nat.blt k fV with
     |true=>B9 ν h r (t.set k (some o2))
     |false=>none
    |none=>none
   |none=>none
theorem sP{ν:Nat->Option Nat}{h:I O}:∀(l:List Nat) (t t2:I O),B9 ν h l t=some t2->(∀k o2,t.get k=some o2->∃m o,ν m=some k/\h.get m=some o/\o.rn ν=some o2)->
  ∀k o2,t2.get k=some o2->∃m o,ν m=some k/\h.get m=some o/\o.rn ν=some o2
 | [],t,t2,e,ht=>by simp only[B9,aq]at e;subst e;exact ht
 |m::r,t,t2,e,ht=>by
  simp only[B9]at e;split at e
  . exact sP r t t2 e ht
  . rename_i o ho;split at e
    . rename_i k Y;split at e
      . rename_i o2 N0;split at e
        . rename_i eM;refine sP r _ t2 e fun j o3 h3=>?_;rw[I.fF _ _ _ (by simp[Nat.blt]at eM;omega)]at h3;split at h3
          . rename_i hj;obtain rfl:=eB h3;subst hj;exact⟨m,o,Y,ho,N0⟩
          . exact ht j o3 h3
        . cases e
      . cases e
    . cases e
def wE(ν:Nat->Option Nat)(F:I V):List Nat->I V->Option (I V)
 | [],t=>some t
 |m::r,t=>match F.get m with
  |none=>wE ν F r t
  |some v=>match v.rn ν with
   |some v2=>match Nat.blt m fV with
    |true=>wE ν F r (t.set m (some v2))
    |false=>none
   |none=>none
theorem qp{ν:Nat->Option Nat}{F:I V}:∀(l:List Nat) (t t2:I V),wE ν F l t=some t2->(∀k v2,t.get k=some v2->∃v,F.get k=some v/\v.rn ν=some v2)->
  ∀k v2,t2.get k=some v2->∃v,F.get k=some v/\v.rn ν=some v2
 | [],t,t2,e,ht=>by simp only[wE,aq]at e;subst e;exact ht
 |m::r,t,t2,e,ht=>by
  simp only[wE]at e;split at e
  . exact qp r t t2 e ht
  . rename_i v hv;split at e
    . rename_i v2 hv2;split at e
      . rename_i eM;refine qp r _ t2 e fun j o3 h3=>?_;rw[I.fF _ _ _ (by simp[Nat.blt]at eM;omega)]at h3;split at h3
        . rename_i hj;obtain rfl:=eB h3;subst hj;exact⟨v,hv,hv2⟩
        . exact ht j o3 h3
      . cases e
    . cases e
def Md(ν:Nat->Option Nat):List (FuncId×ag×ag)->Option (List (FuncId×ag×ag))
 | []=>some []
 |(f,[],[.map (some m)])::r=>match Nat.beq f fV with
  |true=>match ν m with
   |some k=>match Md ν r with
    |some r=>some ((fV,[],[.map (some k)])::r)
    |none=>none
   |none=>none
  |false=>none
 |_::_=>none
def Ca:List (FuncId×ag×ag)->List Nat->List Nat
 |(_,_,[.map (some m)])::r,l=>m::Ca r l
 |_,l=>l
theorem Cb{ν:Nat->Option Nat}{E E':Env}(iS:∀m k,ν m=some k->E'.ι k=E.ι m):∀(l l2:List (FuncId×ag×ag)) (ds:List Deferred),Md ν l=some l2->vJ E l ds->vJ E' l2 ds
 | [],l2,ds,e,r=>by simp only[Md,aq]at e;subst e;exact r
 |(f,c,args)::r,l2,ds,e,h=>by
  unfold Md at e;split at e
  . rename_i heq;cases heq
  . rename_i f' m r' heq;cases heq;split at e
    . rename_i hf;have hf:=aA hf;subst hf;split at e
      . rename_i k Y;split at e
        . rename_i r2 hr;obtain rfl:=eB e;obtain⟨d,ys,r1,r2',q⟩:=h;refine⟨d,ys,?_,Cb iS _ _ _ hr r2',q⟩;rcases r1 with⟨eM,_⟩|⟨_,m',b,s,q1,q2,q3⟩
          . exact absurd eM (cZ _)
          . simp only[List.cons.injEq,V.map.injEq,aq,and_true]at q1;subst q1;exact .inr ⟨rfl,k,b,s,rfl,(iS _ k Y).trans q2,q3⟩
        . cases e
      . cases e
    . cases e
  . cases e
def kW(N:Nat)(live:List Nat)(s:St):Option St:=
 match Nat.ble N s.n with
 |false=>none
 |true=>match G6 s.h 100000 (B8 s.h N (rJ s.F live++Ca s.gZ [])) (RW N) (E4 N) N with
  |some (ρ,oc,k)=>
   let ν:=wC ρ (wB oc k .nil) k
   match(AY ν N&&Nat.ble N k)&&Nat.ble gN N with
   |true=>match B9 ν s.h oc .nil with
    |some R=>match wE ν s.F live .nil with
     |some I4=>match Md ν s.gZ with
      |some d2=>some { F:=I4,h:=R,n:=k,gZ:=d2 }
      |none=>none
     |none=>none
    |none=>none
   |false=>none
  |none=>none
structure kK(N:Nat)(E:Env)(h:I O)(w:World)(E':Env)(h':I O)(w':World):Prop where
 le:∀m b s,m<N->E.ι m=some (b,s)->E'.ι m=some (b,s)/\E'.β b=E.β b
 low:∀m,m<N->E'.ι m=E.ι m
 fz:∀b c,E.φ b=some c->E'.φ b=some c
 good:Good E' h' w'
 size:w.heap.size<=w'.heap.size
 tape:w'.tape=w.tape
 os:w'.os=w.os
 output:w'.output=w.output
 keep:∀b,b<w.heap.size->(∀m s,eL h m->E.ι m≠some (b,s))->w'.heap[b]? =w.heap[b]?
 tv:∀m b s,h'.get m≠none->E'.ι m=some (b,s)->b<w.heap.size->∃m0 s0,h.get m0≠none/\E.ι m0=some (b,s0)/\(eL h' m->eL h m0)
 C8:∀b c,E'.φ b=some c->E.φ b=some c\/w.heap.size<=b\/∃m s,eL h m/\E.ι m=some (b,s)
theorem kK.of{N n:Nat}{E E':Env}{h h':I O}{w w':World}(u:iL E h w E' h' w')(fq:∀m,m<n->E'.ι m=E.ι m)(hn:N<=n):kK N E h w E' h' w':=
 ⟨fun m b s _ e=>u.le.nm m b s e,fun m S=>fq m G,u.le.fz,u.good,u.size,u.tape,u.os,u.output,u.keep,u.tv,u.C8⟩
theorem kK.trans{N:Nat}{E E1 E2:Env}{h Q R:I O}{w w1 w2:World}(a:kK N E h w E1 Q w1)(b:kK N E1 Q w1 E2 R w2):kK N E h w E2 R w2 where
 le:=fun m x s S e=>by
  obtain⟨e1,b1⟩:=a.le m x s S e;obtain⟨e2,b2⟩:=b.le m x s S e1;exact⟨e2,b2.trans b1⟩
 low:=fun m S=>(b.low m S).trans (a.low m S)
 fz:=fun x c e=>b.fz x c (a.fz x c e)
 good:=b.good
 size:=bC a.size b.size
 tape:=b.tape.trans a.tape
 os:=b.os.trans a.os
 output:=b.output.trans a.output
 keep:=fun x H hn=>by
  rw[b.keep x (bM H a.size) ?_,a.keep x H hn];intro m s S e;obtain⟨m0,s0,_,e0,k0⟩:=a.tv m x s S.live e H;exact hn m0 s0 (k0 S) e0
 tv:=fun m x s S e H=>by
  obtain⟨m1,s1,k1,e1,l1⟩:=b.tv m x s S e (bM H a.size);obtain⟨m0,s0,k0,e0,l0⟩:=a.tv m1 x s1 k1 e1 H;exact⟨m0,s0,k0,e0,fun q=>l0 (l1 q)⟩
 C8:=fun x c K=>by
  rcases b.C8 x c K with q|q|⟨m,s,q1,q2⟩
  . exact a.C8 x c q
  . exact .inr (.inl (bC a.size q))
  . rcases br x w.heap.size with H|H
    . obtain⟨m0,s0,_,e0,k0⟩:=a.tv m x s q1.live q2 H;exact .inr (.inr ⟨m0,s0,k0 q1,e0⟩)
    . exact .inr (.inl H)
theorem kK.refl{N:Nat}{E:Env}{h:I O}{w:World}(g:Good E h w):kK N E h w E h w:=
 .of (n:=N) (iL.refl g) (fun _ _=>rfl) (aK _)
theorem kK.tA{N:Nat}{E E':Env}{h h':I O}{w w':World}(u:kK N E h w E' h' w')(hd:pH E N):iL E h w E' h' w':=
 ⟨⟨fun m b s e=>u.le m b s (by
  by_cases q:m<N
  . exact q
  . rw[hd m (Nat.le_of_not_lt q)]at e;cases e) e,u.fz⟩,u.good,u.size,u.tape,u.os,u.output,u.keep,u.tv,u.C8⟩
theorem od{N n0:Nat}{live:List Nat}{s s2:St}{E:Env}{a:Act}{w:World}(e:kW N live s=some s2)(r:jT E n0 s a w):N<=s.n/\N<=s2.n/\∃E2,jT E2 n0 s2 a w/\kK N E s.h w E2 s2.h w:=by
 unfold kW at e;split at e
 . cases e
 rename_i hn;split at e
 case h_2=>cases e
 rename_i ρ oc k ht;revert e;generalize aaz:wB oc k .nil=back;intro e;simp only at e;split at e
 case h_2=>cases e
 rename_i fq;simp only[ay]at fq;split at e
 case h_2=>cases e
 rename_i R hh;split at e
 case h_2=>cases e
 rename_i I4 vb;split at e
 case h_2=>cases e
 rename_i d2 BZ;simp only[aq]at e;subst e
 let E2:Env:=⟨fun m=>if m<k then(match back.get m with|some old=>E.ι old|none=>none)else none,E.β,E.φ⟩
 have iS:∀m j,wC ρ back k m=some j->E2.ι j=E.ι m:=by
  intro m j hj;obtain⟨_,R,h3⟩:=Af hj;show(if j<k then(match back.get j with|some old=>E.ι old|none=>none)else none)=_;rw[aE h3,R]
 have CT:∀m,m<N->E2.ι m=E.ι m:=fun m S=>iS m m (xT fq.1.1 m S);have It:=sP oc .nil R hh (fun j o hj=>by simp[I.get]at hj);have pP:Good E2 R w:=by
  refine⟨?_,?_,?_,fun p hp=>(CT _ (bM (EX hp) (az fq.2))).trans (r.good.kg p hp),fun b c q=>⟨(r.good.iu b c q).1,fun m s1 S e1=>?_⟩⟩
  case refine_4=>
   obtain⟨o,ho,VG⟩:=S;obtain⟨old,p,k1,k2,k3⟩:=It m o ho;rw[iS old m k1]at e1;exact(r.good.iu b c q).2 old s1 ⟨p,k2,(Ag k3).symm.trans VG⟩ e1
  . intro m o2 S;obtain⟨old,o,k1,k2,k3⟩:=It m o2 S;obtain⟨b,A,e1,e2⟩:=r.good.rel old o k2;exact⟨b,A,(iS old m k1).trans e1,AX iS (fun _ _ _ _ _ _=>rfl) (fun _ _ q=>q) rfl o o2 k3 e2⟩
  . intro m m' b s1 s2 ja S qe e1 e2;obtain⟨o,ho,VG⟩:=S;obtain⟨o',Dg⟩:=bw.1 qe;obtain⟨old,p,k1,k2,k3⟩:=It m o ho;obtain⟨AF,p',Iv,k2',_⟩:=It m' o' Dg;rw[iS old m k1]at e1;rw[iS AF m' Iv]at e2;by_cases n7:old=AF
    . subst n7;rw[k1]at Iv;simp only[aq]at Iv;exact ja Iv
    . exact r.good.inj old AF b s1 s2 n7 ⟨p,k2,(Ag k3).symm.trans VG⟩ (by rw[k2'];simp) e1 e2
  . intro m b s1 e1;have e1:(if m<k then(match back.get m with|some old=>E.ι old|none=>none)else none)=some (b,s1):=e1;split at e1
    . split at e1
      . exact r.good.oy _ b s1 e1
      . cases e1
    . cases e1
 refine⟨az hn,az fq.1.2,E2,⟨pP,?_,?_,r.size,?_⟩,?_⟩
 . intro m S;show(if m<k then _ else none)=none;rw[aB (by show ¬m<k;have:k<=m:=S;omega)]
 . intro t v2 hv;obtain⟨v,k1,k2⟩:=qp live .nil I4 vb (fun j o hj=>by simp[I.get]at hj) t v2 hv;obtain⟨v',Q,R⟩:=r.F t v k1;exact⟨v',Q,sN iS (fun _ _ _ _ _ _=>rfl) (fun _ _ q=>q) v v2 v' k2 R⟩
 . exact Cb iS _ _ _ BZ r.gZ
 . refine⟨fun m b s1 S e1=>⟨(CT m S).trans e1,rfl⟩,CT,fun _ _ q=>q,pP,aK _,rfl,rfl,rfl,fun _ _ _=>rfl,?_,fun _ _ q=>.inl q⟩;intro m b s1 S e1 hb;obtain⟨o,ho⟩:=bw.1 S;obtain⟨old,p,k1,k2,k3⟩:=It m o ho;rw[iS old m k1]at e1;refine⟨old,s1,by rw[k2];simp,e1,fun⟨o',q1,q2⟩=>⟨p,k2,?_⟩⟩;rw[ho]at q1;cases q1;exact(Ag k3).symm.trans q2
def rK:Code->Bool | .seq _ _=>true|_=>false
def dB:Code->Code | .seq a _=>a|c=>c
def dP:Code->Code | .seq _ b=>b|c=>c
def Jc(c:Code)(o:Operand->Bool):Bool:=match c with | .cond x _ _=>o x|_=>false
def Uq:Code->Operand | .cond c _ _=>c|_=>.const (.bool true)
def lH:Code->Code | .cond _ a _=>a|c=>c
def oH:Code->Code | .cond _ _ b=>b|c=>c
def mY:Code->Nat->Bool | .block i _,j=>Nat.beq i j|_,_=>false
def oz:Code->Bool | .loop _=>true|_=>false
def dD:Code->Code | .block _ c=>c | .loop c=>c|c=>c
def dN:Nat->Code->Code
 |k+1,.seq a b=>.seq a (dN k b)
 |_,_=>.skip
def dm:Nat->Code->Code
 |k+1,.seq _ b=>dm k b
 |_,c=>c
def cs(P:Program)(n0:Nat)(w0:World)(c:Code)(s:St)(h1:Exit->St->Prop):Prop:=
 ∀(hc:Exit->Act->World->Prop) (a:Act) (w:World),RV n0 w0 s a w->(∀y A a' w',h1 y A->RV n0 w0 A a' w'->hc y a' w')->c.wp P hc a w
section
variable{P:Program}{cf:fL}{fr n0:Nat}{w0:World}{c:Code}{s A:St}{h1 Q1:Exit->St->Prop}
def andThen(h2:St->Prop)(h1:Exit->St->Prop):Exit->St->Prop
 | .normal,s=>h2 s
 |y,s=>h1 y s
def gw(i:Nat)(h1:Exit->St->Prop):Exit->St->Prop
 | .exit j,s=>if j=i then h1 .normal s else h1 (.exit j) s
 |y,s=>h1 y s
def TR(P:Program)(n0:Nat)(w0:World)(c:Code)(h1:Exit->St->Prop):Nat->St->Prop
 |0,_=>False
 |n+1,s=>cs P n0 w0 c s (andThen (fun A=>TR P n0 w0 c h1 n A) h1)
def Ur(f:St->Option (List (es×St))):List (es×St)->Option (List (es×St))
 | []=>some []
 |(x,s)::r=>match Ur f r with
  |some tl=>match x with
   | .normal=>match f s with
     |some l=>some (l++tl)
     |none=>none
   |x=>some ((x,s)::tl)
  |none=>none
def RY(i:Nat):List (es×St)->List (es×St)
 | []=>[]
 |(x,s)::r=>match x with
  | .exit j=>match Nat.beq j i with
    |true=>(.normal,s)::RY i r
    |false=>(.exit j,s)::RY i r
  |x=>(x,s)::RY i r
def aaA(M3:Nat->Bool):Operand->Bool
 | .tmp t=>M3 t
 |_=>false
def Ah(P:Program)(cf:fL)(fr:Nat)(M3:Nat->Bool):Code->St->Option (List (es×St))
 | .seq a b,s=>match Ah P cf fr M3 a s with
   |some l=>Ur (Ah P cf fr M3 b) l
   |none=>none
 | .cond c a b,s=>match iK s.F c with
   |some (.bool t)=>match aaA M3 c with
    |true=>match Ah P cf fr M3 a s with
     |some l1=>match Ah P cf fr M3 b s with
      |some l2=>some (l1++l2)
      |none=>none
     |none=>none
    |false=>match t with
     |true=>Ah P cf fr M3 a s
     |false=>Ah P cf fr M3 b s
   |_=>none
 | .block i c,s=>match Ah P cf fr M3 c s with
   |some l=>some (RY i l)
   |none=>none
 |c,s=>match gv P cf fr c s with
  |some r=>some [r]
  |none=>none
def ov:List (Nat×V)->I V->I V
 | [],t=>t
 |x::r,t=>(ov r t).set x.1 (some x.2)
def St.over(s:St)(l:List (Nat×V)):St:={ s with F:=ov l s.F }
def I.beq{α:Type}(eq:α->α->Bool):I α->I α->Bool
 | .nil,.nil=>true
 | .node a l r,.node b l' r'=>(match a,b with|none,none=>true|some a,some b=>eq a b|_,_=>false)&&(I.beq eq l l'&&I.beq eq r r')
 |_,_=>false
theorem I.beq_eq{α:Type}{eq:α->α->Bool}(h:∀a b,eq a b=true->a=b):∀(t u:I α),I.beq eq t u=true->t=u
 | .nil,.nil,_=>rfl
 | .nil,.node _ _ _,e=>by simp[I.beq]at e
 | .node _ _ _,.nil,e=>by simp[I.beq]at e
 | .node a l r,.node b l' r',e=>by
   simp only[I.beq,ay]at e;rw[I.beq_eq h l l' e.2.1,I.beq_eq h r r' e.2.2];cases a<;>cases b<;>first|rfl|(simp at e;done)|skip
   rw[h _ _ e.1]
def vc:List (V×V×Nat)->List (V×V×Nat)->Bool
 | [],[]=>true
 |x::xs,y::ys=>(V.beq x.1 y.1&&V.beq x.2.1 y.2.1)&&(Nat.beq x.2.2 y.2.2&&vc xs ys)
 |_,_=>false
theorem Cc:∀(a b:List (V×V×Nat)),vc a b=true->a=b
 | [],[],_=>rfl
 | [],_::_,h=>by simp[vc]at h
 |_::_,[],h=>by simp[vc]at h
 |(k,v,n)::xs,(k',v',n')::ys,h=>by
  simp only[vc,ay]at h;rw[beq_eq _ _ h.1.1,beq_eq _ _ h.1.2,aA h.2.1,Cc xs ys h.2.2]
def O.beq:O->O->Bool
 | .cells a,.cells b=>V.oJ a b
 | .map a c,.map b d=>vc a b&&Nat.beq c d
 | .nq a p,.nq b q=>lK a b&&Nat.beq p q
 | .ints k a,.ints j b=>decide (k=j)&&decide (a=b)
 |_,_=>false
theorem O.beq_eq(a b:O)(h:O.beq a b=true):a=b:=by
 cases a<;>cases b<;>simp only[O.beq,aM,ay]at h
 . rw[sK _ _ h]
 . rw[Cc _ _ h.1,aA h.2]
 . rw[kj]at h;rw[eq_of_beq h.1,aA h.2]
 . rw[aW h.1,aW h.2]
def St.beq(a b:St):Bool:=I.beq V.beq a.F b.F&&(I.beq O.beq a.h b.h&&(Nat.beq a.n b.n&&(a.gZ.isEmpty&&b.gZ.isEmpty)))
theorem St.beq_eq{a b:St}(h:St.beq a b=true):a=b:=by
 simp only[St.beq,ay,List.isEmpty_iff]at h;obtain⟨Q,R,h3,h4,h5⟩:=h;have e1:=I.beq_eq Go.Eng.beq_eq _ _ Q;have e2:=I.beq_eq O.beq_eq _ _ R;have e3:=aA h3;cases a;cases b;simp_all
def St.cell(s:St)(m i:Nat)(v:V):St:=match s.h.get m with
 |some (.cells T)=>match Nat.blt m fV with
  |true=>{ s with h:=s.h.set m (some (.cells (T.set i v))) }
  |false=>s
 |_=>s
def St.cellAt(s:St)(m i:Nat):Option V:=match s.h.get m with
 |some (.cells T)=>match Nat.blt m fV with
  |true=>T[i]?
  |false=>none
 |_=>none
def D1(live:List Nat)(m i:Nat)(z:V)(t:St):List (es×St)->Option (List (Option V))
 | []=>some []
 |(.normal,s)::r=>match norm live s with
  |some s2=>match St.beq (s2.cell m i z) t with
   |true=>match D1 live m i z t r with
    |some l=>some (s2.cellAt m i::l)
    |none=>none
   |false=>none
  |none=>none
 |_=>none
def VH(P:Program)(cf:fL)(fr:Nat)(M3:Nat->Bool)(live ks:List Nat)(m i:Nat)(z:V)(c:Code)(s t:St):Option (List (List (Option V))×List (Option V)):=
 match Ah P cf fr M3 c s with
 |some l=>match D1 live m i z t l with
  |some cells=>some (l.map fun p=>ks.map p.2.F.get,cells)
  |none=>none
 |none=>none
end
mutual
def V.qq:V->Bool
 | .fn (.func _) a c=>V.pR a&&V.pR c
 | .fn _ _ _=>false
 | .iface _ x=>V.qq x
 | .agg T=>V.pR T
 | .gC T=>V.pR T
 |_=>true
def V.pR:ag->Bool
 | []=>true
 |x::xs=>V.qq x&&V.pR xs
end
mutual
theorem V.beq_refl:∀v:V,v.qq=true->V.beq v v=true
 | .bool b,_=>by cases b<;>rfl
 | .int k n,_=>by simp[V.beq]
 | .str s,_=>by simp[V.beq,kj]
 | .ptr none,_=>rfl
 | .ptr (some (m,o)),_=>by simp[V.beq,qm]
 | .eS none l c e,_=>by simp[V.beq,qm]
 | .eS (some (m,o)) l c e,_=>by simp[V.beq,qm]
 | .map none,_=>rfl
 | .map (some m),_=>by simp[V.beq,Ey]
 | .fn f a c,h=>by
   cases f<;>simp only[V.qq,aM,ay]at h;simp[V.beq,Ns,V.rL a h.1,V.rL c h.2]
 | .kz,_=>rfl
 | .iface t x,h=>by simp only[V.qq]at h;simp[V.beq,V.beq_refl x h]
 | .nilIface,_=>rfl
 | .agg T,h=>by simp only[V.qq]at h;simp[V.beq,V.rL T h]
 | .gC T,h=>by simp only[V.qq]at h;simp[V.beq,V.rL T h]
 | .eo f n T,_=>by simp[V.beq,pL T]
 | .dr T,_=>by simp[V.beq,pL T]
theorem V.rL:∀vs:ag,V.pR vs=true->V.oJ vs vs=true
 | [],_=>rfl
 |x::xs,h=>by simp only[V.pR,ay]at h;simp[V.oJ,V.beq_refl x h.1,V.rL xs h.2]
end
inductive Ob where
 |same (a b:V)
 |call (f:FuncId) (args:ag) (v:V)
def Ob.ok(cf:fL):Ob->Prop
 | .same a b=>a=b
 | .call f args v=>∀h n,cf f args h n=some (.ret v,h,n)
end Go.Eng
