/- The engine, part R: one operation of a statement that draws, in whatever order; the statement whole. No conditions: lemmas alone. -/
import Derived.Test.YtfihojpgobmmdaaGreatDoorJointW01
import Derived.OrdersIn
import Derived.Recover
import Derived.LoopN
import Derived.LoopNIn
import Derived.RangeFuncRecord
import Derived.RangeFuncIn
import Derived.RangeFuncLeaves
import Derived.Below
set_option linter.unusedVariables false
set_option linter.unusedSimpArgs false
set_option linter.unusedSectionVars false
namespace Go.Eng
open Go
section
variable{P:Program}{cf:fJ}{ops:Array Oper}{n0 N ld:Nat}{h0:Tr O}{jY:Tr V}{val:Nat->V}{dx:List xk}{d:Dr}{E0:Env}{w0:World}{Be:List Deferred}
variable{S:Nat->Bool}{ms J:Nat}{E:Env}{a:Act}{w:World}{Q:Exit->Act->World->Prop}{K:Act->World->Prop}
theorem Inv.Yv{cU:af}(I:Inv ops n0 N ld h0 jY val dx cU E0 w0 Be S ms J E a w)(hl:ld<=ops.size):qH E (eC h0 (n0+ops.size) dx J).2.2:=by
 intro k hk;cases q:E.ι k with
 |none=>rfl
 |some p=>
  have hc:=I.yE;rcases I.nW k p q with h|⟨i,b,_,h2,h3⟩|h
  . omega
  . have:=I.TE i h2;omega
  . omega
theorem Inv.sub(_hr:mI ops N)(hl:ld<=ops.size)(f:oA P cf ops n0 h0 jY val dx ld d)(ht:∀y∈d.cU,n0+y.1<fI)(I:Inv ops n0 N ld h0 jY val dx d.cU E0 w0 Be S ms J E a w)
  {gQ:Nat} (ha:∀k,dS gQ k=true->S k=true):
  Sub (gH n0 d.cU (eC h0 (n0+ops.size) dx J).1 (eC h0 (n0+ops.size) dx J).2.1 gQ) (gH n0 d.cU (eC h0 (n0+ops.size) dx J).1 (eC h0 (n0+ops.size) dx J).2.1 ms):=by
 intro k o hk;rcases jh (x:=(eC h0 (n0+ops.size) dx J).2.1) (m:=(eC h0 (n0+ops.size) dx J).1) (gQ:=gQ) ht f.one k with⟨i,b,h1,h2,h3,h4,h5⟩|⟨h1,h2⟩
 . rw[h5]at hk;cases hk;subst h4;exact jB ht f.one h1 (by rw[I.bits];exact ha i h2) h3
 . rw[h2]at hk;rcases jh (x:=(eC h0 (n0+ops.size) dx J).2.1) (m:=(eC h0 (n0+ops.size) dx J).1) (gQ:=ms) ht f.one k with⟨i,b,g1,g2,g3,g4,g5⟩|⟨g1,g2⟩
   . subst g4;have hi:=I.TE i (by rw[<- I.bits];exact g2);rw[I.free i be g3]at hk;cases hk
   . rw[g2];exact hk
theorem ng(hb:∀i,dS ms i=S i)(j:Nat):∀i,dS (ms|||2^j) i=(S i||decide (i=j)):=by
 intro i;rw[zK,Cc,hb];by_cases q:i=j
 . subst q;simp
 . have:¬j=i:=fun e=>q e.symm;simp[q,this]
theorem Inv.quiet(hr:mI ops N)(_hl:ld<=ops.size)(_f:oA P cf ops n0 h0 jY val dx ld d)(I:Inv ops n0 N ld h0 jY val dx d.cU E0 w0 Be S ms J E a w)
  {j:Nat} {o:Oper} (ho:ops[j]? =some o) (hj:j<ld) (AD:S j=false) (hd:∀e∈o.after,Region.binds .any e=true->S e.on=true) (Cg:∀(c:Nat) (e:xk),dx[c]? =some e->e.1≠j)
  {E':Env} {w':World} {v':Value} (hv:dz E' (val j) v') (hu:ij E0 h0 w0 E' (gH n0 d.cU (eC h0 (n0+ops.size) dx J).1 (eC h0 (n0+ops.size) dx J).2.1 (ms|||2^j)) w') (ku:E.le E')
  (oy:∀k,k<n0->E'.ι k=E.ι k) (rQ:∀k p,E'.ι k=some p->E.ι k=some p\/(∃b,(j,b)∈d.cU/\k=n0+j)):
  Inv ops n0 N ld h0 jY val dx d.cU E0 w0 Be (fun i=>S i||decide (i=j)) (ms|||2^j) J E' (a.put o.dst v') w':=by
 obtain⟨g1,g2⟩:=I.frame hr ho ku hv;refine⟨ng I.bits j,fun i hi=>?_,fun i q hi hq e he hb=>?_,fun c e he=>?_,I.Jle,g1,g2,hu,fun k hk=>by rw[oy k hk];exact I.old k hk,fun k p hp=>?_,I.free,I.yE,by rw[iB];exact I.size,by rw[gw];exact I.gu⟩
 . rcases bS _ _ |>.mp hi with h|h
   . exact I.TE i h
   . simp at h;omega
 . rcases bS _ _ |>.mp hi with h|h
   . rw[I.closed i q h hq e he hb];rfl
   . simp at h;subst h;rw[ho]at hq;cases hq;rw[hd e he hb];rfl
 . rw[<- I.FW c e he];simp[Cg c e he]
 . rcases rQ k p hp with h|⟨b,h1,h2⟩
   . rcases I.nW k p h with h|⟨i,b,h1,h2,h3⟩|h
     . exact .inl h
     . exact .inr (.inl ⟨i,b,h1,by rw[h2];rfl,h3⟩)
     . exact .inr (.inr h)
   . exact .inr (.inl ⟨j,b,h1,by simp,h2⟩)
theorem Inv.acL(hr:mI ops N)(hl:ld<=ops.size)(f:oA P cf ops n0 h0 jY val dx ld d)(ht:∀y∈d.cU,n0+y.1<fI)(I:Inv ops n0 N ld h0 jY val dx d.cU E0 w0 Be S ms J E a w)
  {gQ:Nat} (ha:∀k,dS gQ k=true->S k=true) (hm:∀k,dS (eC h0 (n0+ops.size) dx J).1 k=true->dS gQ k=true) {E':Env} {h:Tr O} {w':World}
  (hu:ij E (gH n0 d.cU (eC h0 (n0+ops.size) dx J).1 (eC h0 (n0+ops.size) dx J).2.1 gQ) w E' h w') (fF:∀k,k<(eC h0 (n0+ops.size) dx J).2.2->E'.ι k=E.ι k):
  ∀i,i<ops.size->dS gQ i=false->h.get (n0+i)=none:=by
 intro i hi No;cases q:h.get (n0+i)with
 |none=>rfl
 |some o=>
  exfalso;obtain⟨b,s,h1,_⟩:=hu.good.rel _ o q;have fE:n0+i<(eC h0 (n0+ops.size) dx J).2.2:=by have:=I.yE;omega
  have hE:=h1;rw[fF _ fE]at hE;have hmi:dS (eC h0 (n0+ops.size) dx J).1 i=false:=by
   cases c:dS (eC h0 (n0+ops.size) dx J).1 i with
   |false=>rfl
   |true=>rw[hm i c]at No;cases No
  rcases I.nW _ _ hE with c|⟨i',b',k1,k2,k3⟩|c
  . omega
  . have:i'=i:=by omega
    subst this;have ik:(gH n0 d.cU (eC h0 (n0+ops.size) dx J).1 (eC h0 (n0+ops.size) dx J).2.1 ms).get (n0+i')=some b':=jB ht f.one k1 (by rw[I.bits];exact k2) hmi;obtain⟨m0,s0,a1,a2,_⟩:=hu.sO (n0+i') b s (by rw[q];simp) h1 (I.qi.good.mO _ _ _ hE);have hx:(gH n0 d.cU (eC h0 (n0+ops.size) dx J).1 (eC h0 (n0+ops.size) dx J).2.1 gQ).get (n0+i')=none:=by
     rcases jh (x:=(eC h0 (n0+ops.size) dx J).2.1) (m:=(eC h0 (n0+ops.size) dx J).1) (gQ:=gQ) ht f.one (n0+i')with⟨i2,b2,g1,g2,g3,g4,g5⟩|⟨g1,g2⟩
     . have:i2=i':=by omega
       subst this;rw[No]at g2;cases g2
     . rw[g2];exact I.free i' hi hmi
    have fL:m0≠n0+i':=by intro e;subst e;exact a1 hx
    have hwr:b'.wr=true:=by
     obtain⟨fr,_,_,_,_,q,_⟩:=f.Bm i' _ b' k1 (bk hi);exact q
    refine I.qi.good.inj (n0+i') m0 b s s0 (fun q=>fL q.symm) ⟨b',ik,hwr⟩ ?_ hE a2;cases c:(gH n0 d.cU (eC h0 (n0+ops.size) dx J).1 (eC h0 (n0+ops.size) dx J).2.1 gQ).get m0 with
    |none=>exact absurd c a1
    |some o'=>rw[I.sub hr hl f ht ha m0 o' c];simp
  . omega
theorem Inv.effect(hr:mI ops N)(hl:ld<=ops.size)(f:oA P cf ops n0 h0 jY val dx ld d)(ht:∀y∈d.cU,n0+y.1<fI)(I:Inv ops n0 N ld h0 jY val dx d.cU E0 w0 Be S ms J E a w)
  {j:Nat} {o:Oper} (ho:ops[j]? =some o) (hj:j<ld) (AD:S j=false) (hd:∀e∈o.after,Region.binds .any e=true->S e.on=true) (tO:∀b,(j,b)∉d.cU)
  {h:Tr O} {n:Nat} (he:dx[J]? =some (j,lU ops j,h,n)) {E':Env} {w':World} {v':Value} (hv:dz E' (val j) v')
  (hu:ij E (gH n0 d.cU (eC h0 (n0+ops.size) dx J).1 (eC h0 (n0+ops.size) dx J).2.1 (lU ops j)) w E' h w')
  (fF:∀k,k<(eC h0 (n0+ops.size) dx J).2.2->E'.ι k=E.ι k) (rQ:qH E' n) (hn:(eC h0 (n0+ops.size) dx J).2.2<=n):
  Inv ops n0 N ld h0 jY val dx d.cU E0 w0 Be (fun i=>S i||decide (i=j)) (ms|||2^j) (J+1) E' (a.put o.dst v') w':=by
 have hJ:J<dx.length:=(aF.1 he).1;have kH:eC h0 (n0+ops.size) dx (J+1)=(lU ops j,h,n):=by simp only[eC,he]
 have Bd:∀k,dS (lU ops j) k=true->S k=true:=fun k hk=>vR hr I.closed ho hd hk;have hm:∀k,dS (eC h0 (n0+ops.size) dx J).1 k=true->dS (lU ops j) k=true:=by
  intro k hk;cases J with
  |zero=>simp[eC,jZ]at hk
  |succ c=>
   have hc:dx[c]? =some (dx[c]'(by omega)):=ay be;simp only[eC,hc]at hk;obtain⟨_,o',_,_,h3⟩:=f.uN c _ hc;rw[h3]at hk;exact Es hr.yC j _ k (f.chain (c+1) c _ _ be he hc) hk
 have WI:=I.acL hr hl f ht Bd hm hu fF;obtain⟨g1,g2⟩:=I.frame hr ho hu.le hv;have hc:=I.yE;refine⟨ng I.bits j,fun i hi=>?_,fun i q hi hq e Bc hb=>?_,fun c e Bc=>?_,hJ,g1,g2,?_,fun k hk=>?_,fun k p hp=>?_,?_,?_,by rw[iB];exact I.size,by rw[gw];exact I.gu⟩
 . rcases bS _ _ |>.mp hi with h|h
   . exact I.TE i h
   . simp at h;omega
 . rcases bS _ _ |>.mp hi with h|h
   . rw[I.closed i q h hq e Bc hb];rfl
   . simp at h;subst h;rw[ho]at hq;cases hq;rw[hd e Bc hb];rfl
 . have h1:=I.FW c e Bc;constructor
   . intro hs;rcases bS _ _ |>.mp hs with q|q
     . have:=h1.1 q;omega
     . simp at q;by_cases hcJ:c<J+1
       . exact hcJ
       . have:=f.chain c J e _ be Bc he;simp only at this;rw[q]at this;have:=JV hr.yC j j this;omega
   . intro vP;by_cases q:c<J
     . rw[h1.2 q];rfl
     . have:c=J:=by omega
       subst this;rw[he]at Bc;cases Bc;simp
 . rw[kH];refine I.qi.trans (ij.frame I.qi.good (I.sub hr hl f ht Bd) hu fun k=>?_);rcases jh (x:=h) (m:=lU ops j) (gQ:=ms|||2^j) ht f.one k with⟨i,b,k1,k2,k3,k4,k5⟩|⟨k1,k2⟩
   . simp only[k5];subst k4;have hi:S i=true:=by
      rw[ng I.bits]at k2;rcases bS _ _ |>.mp k2 with q|q
      . exact q
      . simp at q;subst q;exact absurd k1 (tO b)
     have hmi:dS (eC h0 (n0+ops.size) dx J).1 i=false:=by
      cases c:dS (eC h0 (n0+ops.size) dx J).1 i with
      |false=>rfl
      |true=>rw[hm i c]at k3;cases k3
     have kz:i<ops.size:=by have:=I.TE i hi;omega
     rw[WI i kz k3];have hx:(gH n0 d.cU (eC h0 (n0+ops.size) dx J).1 (eC h0 (n0+ops.size) dx J).2.1 (lU ops j)).get (n0+i)=none:=by
      rcases jh (x:=(eC h0 (n0+ops.size) dx J).2.1) (m:=(eC h0 (n0+ops.size) dx J).1) (gQ:=lU ops j) ht f.one (n0+i)with⟨i2,b2,q1,q2,q3,q4,q5⟩|⟨q1,q2⟩
      . have:i2=i:=by omega
        subst this;rw[k3]at q2;cases q2
      . rw[q2];exact I.free i kz hmi
     simp only[hx,if_true];rw[jB ht f.one k1 (by rw[I.bits];exact hi) hmi]
   . rw[k2];cases hk:h.get k with
     |some o'=>rfl
     |none=>
      simp only;split
      . rename_i hx;rcases jh (x:=(eC h0 (n0+ops.size) dx J).2.1) (m:=(eC h0 (n0+ops.size) dx J).1) (gQ:=ms) ht f.one k with⟨i,b,q1,q2,q3,q4,q5⟩|⟨q1,q2⟩
        . exfalso;subst q4;cases c:dS (lU ops j) i with
          |false=>exact k1 i b q1 (by rw[ng I.bits];rw[I.bits]at q2;rw[q2];rfl) c rfl
          |true=>
           rw[jB ht f.one q1 c q3]at hx;cases hx
        . rw[q2];rcases jh (x:=(eC h0 (n0+ops.size) dx J).2.1) (m:=(eC h0 (n0+ops.size) dx J).1) (gQ:=lU ops j) ht f.one k with⟨i,b,r1,r2,r3,r4,r5⟩|⟨r1,r2⟩
          . rw[r5]at hx;cases hx
          . rw[r2]at hx;exact hx.symm
      . rfl
 . rw[fF k be];exact I.old k hk
 . by_cases q:k<(eC h0 (n0+ops.size) dx J).2.2
   . rw[fF k q]at hp;rcases I.nW k p hp with h|⟨i,b,h1,h2,h3⟩|h
     . exact .inl h
     . exact .inr (.inl ⟨i,b,h1,by rw[h2];rfl,h3⟩)
     . rw[kH];exact .inr (.inr ⟨h.1,by show k<n;omega⟩)
   . rw[kH];refine .inr (.inr ⟨be,?_⟩);by_cases q2:k<n
     . exact q2
     . rw[rQ k be]at hp;cases hp
 . rw[kH];exact fun i hi hb=>WI i hi hb
 . rw[kH];simp only;omega
end
section
variable{P:Program}{cf:fJ}{ops:Array Oper}{n0 N ld:Nat}{h0:Tr O}{jY:Tr V}{val:Nat->V}{dx:List xk}{d:Dr}{E0:Env}{w0:World}{Be:List Deferred}
variable{S:Nat->Bool}{ms J:Nat}{E:Env}{a:Act}{w:World}{Q:Exit->Act->World->Prop}{K:Act->World->Prop}{uK:Option Nat}
theorem Inv.step(oz:jc P cf)(hr:mI ops N)(hl:ld<=ops.size)(f:oA P cf ops n0 h0 jY val dx ld d)(ht:∀y∈d.cU,n0+y.1<fI)(I:Inv ops n0 N ld h0 jY val dx d.cU E0 w0 Be S ms J E a w)
  {j:Nat} {o:Oper} (ho:ops[j]? =some o) (hj:j<ld) (AD:S j=false) (hd:∀e∈o.after,Region.binds .any e=true->S e.on=true)
  (hk:∀J' E' a' w',Inv ops n0 N ld h0 jY val dx d.cU E0 w0 Be (fun i=>S i||decide (i=j)) (ms|||2^j) J' E' a' w'->K a' w'):wpOpIn (fz uK) 0 P ops Q j K a w:=by
 have hjs:j<ops.size:=by omega
 have Bd:∀k,dS (lU ops j) k=true->S k=true:=fun k hk=>vR hr I.closed ho hd hk;have hmj:dS (eC h0 (n0+ops.size) dx J).1 j=false:=by
  cases c:dS (eC h0 (n0+ops.size) dx J).1 j with
  |false=>rfl
  |true=>rw[I.acK hr f c]at AD;cases AD
 have uC:E.ι (n0+j)=none:=by
  cases q:E.ι (n0+j)with
  |none=>rfl
  |some p=>
   rcases I.nW _ p q with h|⟨i,b,_,h2,h3⟩|h
   . omega
   . have:i=j:=by omega
     subst this;rw[AD]at h2;cases h2
   . omega
 have WJ:(∀b,(j,b)∉d.cU)->∀k,(gH n0 d.cU (eC h0 (n0+ops.size) dx J).1 (eC h0 (n0+ops.size) dx J).2.1 (ms|||2^j)).get k=
   (gH n0 d.cU (eC h0 (n0+ops.size) dx J).1 (eC h0 (n0+ops.size) dx J).2.1 ms).get k:=by
  intro tO k;rcases jh (x:=(eC h0 (n0+ops.size) dx J).2.1) (m:=(eC h0 (n0+ops.size) dx J).1) (gQ:=ms|||2^j) ht f.one k with⟨i,b,k1,k2,k3,k4,k5⟩|⟨k1,k2⟩
  . subst k4;rw[k5,jB ht f.one k1 ?_ k3];rw[ng I.bits]at k2;rcases bS _ _ |>.mp k2 with q|q
    . rw[I.bits];exact q
    . simp at q;subst q;exact absurd k1 (tO b)
  . rw[k2,qm ht fun i b q1 q2 q3=>k1 i b q1 (by rw[ng I.bits];rw[I.bits]at q2;rw[q2];rfl) q3]
 unfold wpOpIn;simp only[ho];by_cases hal:∃b,(j,b)∈d.cU
 ·
  obtain⟨b,hb⟩:=hal;obtain⟨fr,f1,f2,f3,f4,f6,f5⟩:=f.Bm j o b hb ho;rw[aG (I.wanted hr ho AD hd f1 f2)];refine(Ca I.qi.good uC (I.ux hr ho AD hd f1) (f5 _) fun E' w' v' q1 q2 q3 _=>hk J E' _ w' ?_);refine I.quiet hr hl f ho hj AD hd (fun c e he fL=>?_) q1 ?_ q2.le (fun k hk=>q3 k be) (fun k p hp=>?_)
  . obtain⟨_,o',h1,h2,_⟩:=f.uN c e he;rw[fL,ho]at h1;cases h1;rw[f3]at h2;cases h2
  . refine I.qi.trans (q2.ext fun k=>?_);by_cases WK:k=n0+j
    . subst WK;rw[Tr.mS _ _ f4,jB ht f.one hb (by rw[ng I.bits];simp) hmj]
    . rw[Tr.qe _ _ f4 WK];rcases jh (x:=(eC h0 (n0+ops.size) dx J).2.1) (m:=(eC h0 (n0+ops.size) dx J).1) (gQ:=ms|||2^j) ht f.one k with⟨i,b',k1,k2,k3,k4,k5⟩|⟨k1,k2⟩
      . subst k4;rw[k5,jB ht f.one k1 ?_ k3];rw[ng I.bits]at k2;rcases bS _ _ |>.mp k2 with q|q
        . rw[I.bits];exact q
        . simp at q;subst q;exact absurd rfl WK
      . rw[k2,qm ht fun i b q1 q2 q3=>k1 i b q1 (by rw[ng I.bits];rw[I.bits]at q2;rw[q2];rfl) q3]
  . by_cases WK:k=n0+j
    . exact .inr ⟨b,hb,WK⟩
    . rw[q3 k WK]at hp;exact .inl hp
 . have tO:∀b,(j,b)∉d.cU:=fun b q=>hal ⟨b,q⟩;obtain⟨fr,f1,f2⟩:=f.Yq j o hj ho;have look:iq ops o fr=some true->qM o.op=false->dy P o fr (gH n0 d.cU (eC h0 (n0+ops.size) dx J).1 (eC h0 (n0+ops.size) dx J).2.1 ms) (n0+j)=
     some (.val (val j) (gH n0 d.cU (eC h0 (n0+ops.size) dx J).1 (eC h0 (n0+ops.size) dx J).2.1 ms) (n0+j))->
     (if Region.wanted o (yielded ops a.tmps)=true then o.wpIn (fz uK) 0 P a w K Q else(∀f,o.about P w a.eval=some f->(fz uK).fn f)/\K (a.put o.dst undef) w):=by
    intro hw fL hs;rw[aG (I.wanted hr ho AD hd f1 hw)];refine(Ca I.qi.good uC (I.ux hr ho AD hd f1) hs fun E' w' v' q1 q2 q3 q4=>hk J E' _ w' ?_);rcases q4 with⟨_,rfl⟩|q4
    . refine I.quiet hr hl f ho hj AD hd (fun c e he TF=>?_) q1 (I.qi.trans (q2.ext (WJ tO))) q2.le (fun _ _=>rfl) (fun _ _ hp=>.inl hp);obtain⟨_,o',h1,h2,_⟩:=f.uN c e he;rw[TF,ho]at h1;cases h1;rw[fL]at h2;cases h2
    . omega
   rcases f2 with⟨hw,hv⟩|⟨_,_,b,q3,_⟩|⟨hw,fL,uQ⟩|⟨hw,fL,xo,acN⟩|⟨hw,Cg,c,h,n,hc,fH⟩
   ·
    rw[aI (by rw[I.wanted hr ho AD hd f1 hw];simp)];refine⟨fun _ _=>trivial,?_⟩;refine hk J E _ w (I.quiet (v':=undef) hr hl f ho hj AD hd (fun c e he TF=>?_) (by rw[hv];exact⟨[],rfl,rfl⟩) (I.qi.ext (WJ tO)) E.le_refl (fun _ _=>rfl) (fun _ _ hp=>.inl hp));have Ej:=I.wanted hr ho AD hd f1 hw;have WH:=f.zM c e o he (by rw[TF];exact ho);obtain⟨WL,g3,g4⟩:=WH;rw[TF]at g3;have OO:=I.wanted hr ho AD hd g3 g4;rw[Ej]at OO;cases OO
   . exact absurd q3 (tO b)
   . exact look hw fL (uQ _)
   . have c1:∀(c':Nat) (e:xk),J<=c'->dx[c']? =some e->dS (lU ops j) e.1=false:=by
      intro c' e vP he;cases q:dS (lU ops j) e.1 with
      |false=>rfl
      |true=>have:=(I.FW c' e he).1 (Bd _ q);omega
     have c2:∀(c':Nat) (e:xk),c'<J->dx[c']? =some e->dS e.2.1 j=false:=by
      intro c' e vP he;obtain⟨_,o',_,_,h3⟩:=f.uN c' e he;cases q:dS e.2.1 j with
      |false=>rfl
      |true=>
       rw[h3]at q;rw[I.gQ hr ((I.FW c' e he).2 vP) q]at AD;cases AD
     obtain⟨y,hy⟩:=acN J I.Jle c1 c2;rcases _root_.Go.Eng.quiet fL hy with⟨u,h1,h2⟩|⟨u,b,h1,h2,h3⟩
     . cases h1;exact look hw fL (h2 _ (I.sub hr hl f ht Bd))
     . simp only[R.val.injEq]at h2;omega
   ·
    have hcJ:c=J:=by
     have h1:¬c<J:=by
      intro q;have:=(I.FW c _ hc).2 q;simp only at this;rw[AD]at this;cases this
     by_cases q:J<c
     . have hJl:J<dx.length:=by have:=(aF.1 hc).1;omega
       have he:dx[J]? =some dx[J]:=ay hJl;have:=f.chain c J _ _ q hc he;have:=(I.FW J _ he).1 (Bd _ this);omega
     . omega
    subst hcJ;rw[aG (I.wanted hr ho AD hd f1 hw)];have Ew:=I.qi.good.sub (I.sub hr hl f ht Bd);have Ex:=I.Yv hl;simp only at fH;rcases fH with hs|⟨g,args,hs,Pw⟩
    . refine Ca Ew (Ex _ (aA _)) (I.ux hr ho AD hd f1) hs fun E' w' v' q1 q2 q3 q4=>hk (c+1) E' _ w' ?_;refine I.effect hr hl f ht ho hj AD hd tO hc q1 q2 (fun k hk=>q3 k be) ?_ ?_
      . rcases q4 with⟨rfl,rfl⟩|rfl
        . exact Ex
        . intro k hk;rw[q3 k be];exact Ex k be
      . rcases q4 with⟨rfl,_⟩|rfl<;>omega
    . refine Bl oz Ew Ex (I.ux hr ho AD hd f1) hs Pw fun E' w' q2 q3 q4 q5=>?_;intro v' q1;exact hk (c+1) E' _ w' (I.effect hr hl f ht ho hj AD hd tO hc q1 q2 q3 q4 q5)
end
theorem filter_lt{α:Type}{p q:α->Bool}{x:α}:∀{l:List α},x∈l->p x=true->q x=false->(∀y,q y=true->p y=true)->(l.filter q).length<(l.filter p).length
 | [],h,_,_,_=>by simp at h
 |y::l,h,hp,hq,hm=>by
  have ku:(l.filter q).length<=(l.filter p).length:=by
   clear h
   induction l with
   |nil=>simp
   |cons z l ih=>
    simp only[List.filter_cons];by_cases c:q z=true
    . rw[aG c,aG (hm z c)];simp;exact ih
    . rw[aI c];by_cases c2:p z=true
      . rw[aG c2];simp;omega
      . rw[aI c2];exact ih
  simp only[List.filter_cons];rcases aE.1 h with rfl|h
  . rw[aG hp,aI (by rw[hq];simp)];simp;omega
  . have ih:=filter_lt h hp hq hm;by_cases c:q y=true
    . rw[aG c,aG (hm y c)];simp;exact ih
    . rw[aI c];by_cases c2:p y=true
      . rw[aG c2];simp;omega
      . rw[aI c2];exact ih
def Yw(n:Nat)(gF:Array Bool):Nat:=((List.range n).filter fun i=>!gF.getD i false).length
theorem zN{gF:Array Bool}{j:Nat}(hj:j<gF.size)(i:Nat):(gF.setIfInBounds j true).getD i false=(gF.getD i false||decide (i=j)):=by
 simp only[b7,Array.getElem?_setIfInBounds];by_cases q:i=j
 . subst q;simp[hj]
 . have:¬j=i:=fun e=>q e.symm;simp[q,this]
section
variable{P:Program}{cf:fJ}{ops:Array Oper}{n0 N ld:Nat}{h0:Tr O}{jY:Tr V}{val:Nat->V}{dx:List xk}{d:Dr}{E0:Env}{w0:World}{Be:List Deferred}
variable{Q:Exit->Act->World->Prop}{uK:Option Nat}
theorem Ey(oz:jc P cf)(hr:mI ops N)(hl:ld<=ops.size)(f:oA P cf ops n0 h0 jY val dx ld d)(ht:∀y∈d.cU,n0+y.1<fI)
  (hQ:ld=ops.size->∀S ms J E a w,Inv ops n0 N ld h0 jY val dx d.cU E0 w0 Be S ms J E a w->(∀i,i<ops.size->S i=true)->Q .normal a w)
  (hP:ld<ops.size->ld+1=ops.size/\∀S ms J E a w o,Inv ops n0 N ld h0 jY val dx d.cU E0 w0 Be S ms J E a w->ops[ld]? =some o->
   (∀e∈o.after,Region.binds .any e=true->S e.on=true)->∀K,wpOpIn (fz uK) 0 P ops Q ld K a w):
  ∀(fuel:Nat) (gF:Array Bool) (ms J:Nat) (E:Env) (a:Act) (w:World),gF.size=ops.size->Yw ops.size gF<=fuel->
   Inv ops n0 N ld h0 jY val dx d.cU E0 w0 Be (fun i=>gF.getD i false) ms J E a w->wpAnyIn (fz uK) 0 P .any ops Q fuel gF a w:=by
 have done:∀(gF:Array Bool) (ms J:Nat) (E:Env) (a:Act) (w:World),gF.size=ops.size->Inv ops n0 N ld h0 jY val dx d.cU E0 w0 Be (fun i=>gF.getD i false) ms J E a w->
   Region.ready .any ops gF=[]->Q .normal a w:=by
  intro gF ms J E a w hs I FX;have all:∀i,i<ops.size->gF.getD i false=true:=by
   intro i
   induction i using Nat.strongRecOn with
   |_ i ih=>
    intro hi;cases q:gF.getD i false with
    |true=>rfl
    |false=>
     exfalso;have ho:ops[i]? =some ops[i]:=bk hi;have:i∈Region.ready .any ops gF:=mem_ready.2 ⟨by
      rw[b7,bk be]at q ⊢;exact q,ops[i],ho,fun e he hb=>by
      have:=hr.yC i _ ho e he hb;exact ih e.on this be⟩
     rw[FX]at this;simp at this
  have Px:ld=ops.size:=by
   by_cases q:ld<ops.size
   . have:=I.TE ld (all ld q);omega
   . omega
  exact hQ Px _ ms J E a w I all
 intro fuel
 induction fuel with
 |zero=>
  intro gF ms J E a w hs hu I;have FX:Region.ready .any ops gF=[]:=by
   rw[List.eq_nil_iff_forall_not_mem];intro j hj;obtain⟨h1,o,ho,_⟩:=mem_ready.1 hj;have hjs:=(aQ.1 ho).1;have hz:Yw ops.size gF=0:=by omega
   unfold Yw at hz;have:=List.eq_nil_iff_length_eq_zero.2 hz;have hm:j∈(List.range ops.size).filter fun i=>!gF.getD i false:=List.mem_filter.2 ⟨List.mem_range.2 hjs,by
    rw[b7,bk be]at h1 ⊢;simp at h1;simp[h1]⟩
   rw[this]at hm;simp at hm
  exact⟨FX,done gF ms J E a w hs I FX⟩
 |succ fuel ih=>
  intro gF ms J E a w hs hu I;refine⟨done gF ms J E a w hs I,fun j hj=>?_⟩;obtain⟨h1,o,ho,hd⟩:=mem_ready.1 hj;have hjs:=(aQ.1 ho).1;have AD:gF.getD j false=false:=by
   rw[b7,bk be]at h1 ⊢;exact h1
  by_cases OL:j<ld
  . refine I.step oz hr hl f ht ho OL AD hd fun J' E' a' w' I'=>?_;refine ih _ (ms|||2^j) J' E' a' w' (by simp;exact hs) ?_ ?_
    . have:Yw ops.size (gF.setIfInBounds j true)<Yw ops.size gF:=by
       refine filter_lt (x:=j) (List.mem_range.2 hjs) (by rw[AD];rfl) (by rw[zN be];simp) fun y hy=>?_;rw[zN be]at hy;simp at hy ⊢;exact hy.1
      omega
    . have:(fun i=>(gF.setIfInBounds j true).getD i false)=fun i=>(gF.getD i false||decide (i=j)):=funext fun i=>zN be i;rw[this];exact I'
  . have fE:ld<ops.size:=by omega
    obtain⟨p1,p2⟩:=hP fE;have:j=ld:=by omega
    subst this;exact p2 _ ms J E a w o I ho hd _
end
theorem Py{uK:Option Nat}{P:Program}{cf:fJ}{ops:Array Oper}{N id:Nat}{s s':St}{x:X}{E0:Env}{a0:Act}{w0:World}{Q:Exit->Act->World->Prop}(oz:jc P cf)(hr:mI ops N)(hm:P.follows .mixedOrders=true)
  (e:drawn P cf ops s=some (x,s')) (g:Good E0 s.h w0) (hd:qH E0 s.n) (hf:yA E0 s.fr a0) (hN:a0.tmps.size=N)
  (hq:∀E' a' w' x',ij E0 s.h w0 E' s'.h w'->(∀k,k<s.n->E'.ι k=E0.ι k)->qH E' s'.n->s.n<=s'.n->yA E' s'.fr a'->a'.tmps.size=N->a'.defers=a0.defers->s'.gu=s.gu->Nn E' x x'->Q x' a' w'):
  (Code.region id ops true).wpIn (fz uK) 0 P Q a0 w0:=by
 refine wpIn_region_any hm ?_;unfold drawn at e;split at e
 . rename_i gD;have init:=JY (P:=P) (cf:=cf) (ops:=ops) (n0:=s.n) s.fr s.h;have start:∀(ld:Nat) (val:Nat->V) (dx:List xk) (cU:af),Inv ops s.n N ld s.h s.fr val dx cU E0 w0 a0.defers (fun i=>(Array.replicate ops.size false).getD i false) 0 0 E0 a0 { w0 with drawn:=w0.drawn+1 }:=by
    intro ld val dx cU;have hS:∀i,(Array.replicate ops.size false).getD i false=false:=by
     intro i;rw[b7];by_cases q:i<ops.size
     . rw[bk (by simpa using q)];simp
     . rw[Array.getElem?_eq_none (by simpa using q)];rfl
    have Yu:∀k,(gH s.n cU (eC s.h (s.n+ops.size) dx 0).1 (eC s.h (s.n+ops.size) dx 0).2.1 0).get k=s.h.get k:=by
     intro k;have:∀l:af,gH s.n l (eC s.h (s.n+ops.size) dx 0).1 (eC s.h (s.n+ops.size) dx 0).2.1 0=s.h:=by
      intro l
      induction l with
      |nil=>rfl
      |cons y l ih=>obtain⟨i,b⟩:=y;simp only[gH,jZ,Bool.false_and,aO,cF];exact ih
     rw[this]
    refine⟨fun i=>by rw[jZ,hS],fun i hi=>?_,fun j o hj=>?_,fun c e' _=>?_,aW _,fun j o t hj=>?_,fun t v hv _=>hf t v hv,(ij.drew g).ext Yu,fun _ _=>rfl,fun k p hp=>?_,fun i _ _=>?_,aA _,hN,rfl⟩
    . rw[hS]at hi;cases hi
    . rw[hS]at hj;cases hj
    . rw[hS];constructor
      . intro q;cases q
      . intro q;omega
    . rw[hS]at hj;cases hj
    . by_cases q:k<s.n
      . exact .inl q
      . rw[hd k be]at hp;cases hp
    . show s.h.get (s.n+i)=none;cases q:s.h.get (s.n+i)with
      |none=>rfl
      |some o=>
       obtain⟨b,t,h1,_⟩:=g.rel _ _ q;rw[hd _ be]at h1;cases h1
   have hu0:Yw ops.size (Array.replicate ops.size false)<=ops.size:=by
    unfold Yw;exact bU (List.length_filter_le _ _) (by simp)
   have fH:=fun(r:Dr ⊕ (Tr V×V×Tr O×Nat)) q=>Ev (N:=N) hr ops.toList 0 _ _ _ r (by simp) init q;split at e
   . rename_i d WM;obtain⟨rfl,rfl⟩:=eY e;obtain⟨val,dx,f⟩:=fH _ WM;rw[show max 0 ops.size=ops.size by omega]at f;have ht:∀y∈d.cU,s.n+y.1<fI:=fun y hy=>by have:=f.cU y hy;omega
     refine Ey oz hr (aA _) f ht (fun _ S ms J E a w I uQ=>?_) (fun q=>by omega) ops.size _ 0 0 E0 a0 _ (by simp) hu0 (start ops.size val dx d.cU);have hJ:J=dx.length:=by
      have h1:=I.Jle;by_cases q:J<dx.length
      . have he:dx[J]? =some dx[J]:=ay q;have:=(I.FW J _ he).1 (uQ _ (f.uN J _ he).1);omega
      . omega
     have ec1:d.cur.1=(eC s.h (s.n+ops.size) dx J).1:=by rw[hJ,f.cur]
     have ec2:d.cur.2=(eC s.h (s.n+ops.size) dx J).2.1:=by rw[hJ,f.cur]
     have en:d.n=(eC s.h (s.n+ops.size) dx J).2.2:=by rw[hJ,f.n]
     refine hq E a w .normal ?_ I.old ?_ ?_ ?_ I.size I.gu rfl trivial
     . refine I.qi.ext fun k=>?_;simp only[ec1,ec2];have acO:∀i,i<ops.size->dS (2^ops.size-1) i=true:=fun i hi=>by
        unfold dS;rw[Nat.testBit_two_pow_sub_one];simpa using hi
       rcases jh (n0:=s.n) (x:=(eC s.h (s.n+ops.size) dx J).2.1) (m:=(eC s.h (s.n+ops.size) dx J).1) (gQ:=2^ops.size-1) ht f.one k with⟨i,b,k1,k2,k3,k4,k5⟩|⟨k1,k2⟩
       . subst k4;rw[k5,jB ht f.one k1 (by rw[I.bits];exact uQ i (f.cU _ k1)) k3]
       . rw[k2,qm ht fun i b q1 q2 q3=>k1 i b q1 (acO i (f.cU _ q1)) q3]
     . show qH E d.n;rw[en];exact I.Yv (aA _)
     . show s.n<=d.n;rw[en];have:=I.yE;omega
     . intro t v hv;by_cases q:∃j o,j<ops.size/\ops[j]? =some o/\o.dst=some t
       . obtain⟨j,o,q1,q2,q3⟩:=q;have:=f.fr.new j o t q1 q2 q3;simp only at hv;rw[this]at hv;cases hv;exact I.f1 j o t (uQ j q1) q2 q3
       . have:=f.fr.old t fun i o hi ho S7=>q ⟨i,o,hi,ho,S7⟩;simp only at hv;rw[this]at hv;exact I.f2 t v hv fun j o hj ho S7=>q ⟨j,o,I.TE j hj,ho,S7⟩
   . rename_i fr v h n WM;obtain⟨rfl,rfl⟩:=eY e;obtain⟨ld,o,d,val,dx,ho,f,oS⟩:=fH _ WM;have Px:ld<ops.size:=(aQ.1 ho).1;have ht:∀y∈d.cU,s.n+y.1<fI:=fun y hy=>by have:=f.cU y hy;omega
     have Bd:eL d.ee o.after.toList=lU ops ld:=by rw[f.ee];unfold lU;rw[ho]
     unfold uy at oS;simp only[Bd]at oS;split at oS
     . split at oS<;>cases oS
     . rename_i hw;split at oS
       . rename_i Cg;split at oS
         . split at oS
           . split at oS<;>cases oS
           . rename_i gg args hs;split at oS
             . split at oS<;>cases oS
             . rename_i v' h' n' hc;split at oS
               . rename_i hb;simp only[an,Sum.inr.injEq,aB]at oS;obtain⟨rfl,rfl,rfl,rfl⟩:=oS;simp only[aC]at hb;have yn:=aD hb.1;have Hq:=aD hb.2;have No:∀i,i<ld->dS (lU ops ld) i=true:=fun i hi=>by
                  have:lU ops ld=2^ld-1:=by omega
                  rw[this];unfold dS;rw[Nat.testBit_two_pow_sub_one];simpa using hi
                 refine Ey oz hr (Nat.le_of_lt Px) f ht (fun q=>by omega) (fun _=>⟨Hq,fun S ms J E a w o' I DS Pz K=>?_⟩) ops.size _ 0 0 E0 a0 _ (by simp) hu0 (start ld val dx d.cU);rw[ho]at DS;cases DS;have hSl:S ld=false:=by
                  cases q:S ld with
                  |false=>rfl
                  |true=>have:=I.TE ld q;omega
                 have uQ:∀i,i<ld->S i=true:=fun i hi=>vR hr I.closed ho Pz (No i hi);have hJ:J=dx.length:=by
                  have h1:=I.Jle;by_cases q:J<dx.length
                  . have he:dx[J]? =some dx[J]:=ay q;have:=(I.FW J _ he).1 (uQ _ (f.uN J _ he).1);omega
                  . omega
                 have ec1:d.cur.1=(eC s.h (s.n+ops.size) dx J).1:=by rw[hJ,f.cur]
                 have ec2:d.cur.2=(eC s.h (s.n+ops.size) dx J).2.1:=by rw[hJ,f.cur]
                 have en:d.n=(eC s.h (s.n+ops.size) dx J).2.2:=by rw[hJ,f.n]
                 rw[ec1,ec2,en]at hs hc;have uF:=I.sub hr (Nat.le_of_lt Px) f ht (gQ:=lU ops ld) fun k hk=>uQ k (JV hr.yC ld k hk);have Ex:=I.Yv (Nat.le_of_lt Px);unfold wpOpIn;simp only[ho];rw[aG (I.wanted hr ho hSl Pz f.fr hw)];refine(Bl oz (I.qi.good.sub uF) Ex (I.ux hr ho hSl Pz f.fr) hs hc fun E' w' q2 q3 q4 q5=>?_);intro v2 hv2;have hcn:=I.yE;refine hq E' a w' _ ?_ (fun k hk=>?_) q4 ?_ ?_ I.size I.gu rfl ⟨v2,hv2,rfl⟩
                 . refine I.qi.trans (ij.frame I.qi.good uF q2 fun k=>?_);simp only;cases hk:h'.get k with
                   |some o'=>rfl
                   |none=>
                    simp only;split
                    . rename_i hx;rcases jh (n0:=s.n) (x:=(eC s.h (s.n+ops.size) dx J).2.1) (m:=(eC s.h (s.n+ops.size) dx J).1) (gQ:=ms) ht f.one k with⟨i,b,k1,k2,k3,k4,k5⟩|⟨k1,k2⟩
                      . subst k4;rw[jB ht f.one k1 (No i (f.cU _ k1)) k3]at hx;cases hx
                      . rw[k2];rw[qm ht fun i b q1 q2' q3'=>k1 i b q1 (by rw[I.bits];exact uQ i (f.cU _ q1)) q3']at hx;exact hx.symm
                    . rfl
                 . rw[q3 k be];exact I.old k hk
                 . show s.n<=n';omega
                 . refine jQ q2.le ?_;intro t v hv;by_cases q:∃j o,j<ld/\ops[j]? =some o/\o.dst=some t
                   . obtain⟨j,o2,q1,q2,q3⟩:=q;have:=f.fr.new j o2 t q1 q2 q3;simp only at hv;rw[this]at hv;cases hv;exact I.f1 j o2 t (uQ j q1) q2 q3
                   . have:=f.fr.old t fun i o2 hi TH S7=>q ⟨i,o2,hi,TH,S7⟩;simp only at hv;rw[this]at hv;exact I.f2 t v hv fun j o2 hj TH S7=>q ⟨j,o2,I.TE j hj,TH,S7⟩
               . cases oS
             . cases oS
           . cases oS
         . cases oS
       . split at oS
         . split at oS
           . split at oS
             . split at oS
               . cases oS
               . split at oS<;>cases oS
             . split at oS
               . split at oS<;>cases oS
               . cases oS
           . cases oS
         . cases oS
     . cases oS
   . cases e
 . cases e
def PA(E:Env)(x:FuncId×ag×ag)(d:Deferred):Prop:=
 (x.1<fI/\∃c' c7,dG E x.2.1 c'/\dG E x.2.2 c7/\d={ target:=.fn (.func x.1) c'.toArray,args:=c7.toArray }) \/
 (x.1=fI/\∃m b s,x.2.2=[.map (some m)]/\E.ι m=some (b,s)/\d={ target:=.collected b,args:=#[] })
def wI(E:Env):List (FuncId×ag×ag)->List Deferred->Prop
 | [],l=>l=[]
 |x::xs,l=>∃d ys,PA E x d/\wI E xs ys/\l=d::ys
theorem JZ{E E':Env}(h:E.le E'){x:FuncId×ag×ag}{d:Deferred}:PA E x d->PA E' x d:=by
 rintro(⟨hx,c',a',r1,r2,q⟩|⟨hx,m,b,s,q1,q2,q3⟩)
 . exact .inl ⟨hx,c',a',kg h _ _ r1,kg h _ _ r2,q⟩
 . exact .inr ⟨hx,m,b,s,q1,(h.nm _ _ _ q2).1,q3⟩
theorem iR{E E':Env}(h:E.le E'):∀(xs:List (FuncId×ag×ag)) (ys:List Deferred),wI E xs ys->wI E' xs ys
 | [],_,r=>r
 |_::xs,_,⟨d,ys,r1,r3,q⟩=>⟨d,ys,JZ h r1,iR h xs ys r3,q⟩
theorem ij.kill{E:Env}{h:Tr O}{w w':World}{m b s:Nat}(g:Good E h w)(ht:m<fI)(ik:ew h m)(hm:E.ι m=some (b,s))
  (Ei:w'.heap.size=w.heap.size) (Hj:w'.tape=w.tape) (hos:w'.os=w.os) (oP:w'.output=w.output)
  (qf:∀x,x≠b->w'.heap[x]? =w.heap[x]?):ij E h w E (h.set m none) w':=by
 have hs:∀k o,(h.set m none).get k=some o->k≠m/\h.get k=some o:=by
  intro k o hk;rw[Tr.eO _ _ _ ht]at hk;split at hk
  . cases hk
  . rename_i q;exact⟨q,hk⟩
 have dX:∀k o,(h.set m none).get k=some o->h.get k=some o:=fun k o q=>(hs k o q).2;refine⟨E.le_refl,⟨?_,?_,?_,g.jf,fun b' c q=>⟨by rw[qf b' fun e=>(g.gI b' c q).2 m s ik (e▸hm)];exact(g.gI b' c q).1,fun k t hk=>(g.gI b' c q).2 k t (gm dX hk)⟩⟩,be,Hj,hos,oP,?_,fun k x t hk e _=>⟨k,t,mU dX hk,e,gm dX⟩,fun _ _ q=>.inl q⟩
 . intro k o hk;obtain⟨fL,hk⟩:=hs k o hk;obtain⟨b',s',h1,h2⟩:=g.rel k o hk;have hb:b'≠b:=by
    intro hb;subst hb;exact g.inj m k b' s s' (fun q=>fL q.symm) ik (by rw[hk];simp) hm h1
   exact⟨b',s',h1,hU E.le_refl rfl (qf b' hb) h2⟩
 . intro k k' x t t' fL hk tY e e';exact g.inj k k' x t t' fL (gm dX hk) (mU dX tY) e e'
 . intro k x t e;rw[Ei];exact g.mO k x t e
 . intro x _ hn;refine qf x ?_;intro hx;subst hx;exact hn m s ik hm
structure jS(E:Env)(N:Nat)(s:St)(a:Act)(w:World):Prop where
 good:Good E s.h w
 nW:qH E s.n
 fr:yA E s.fr a
 size:a.tmps.size=N
 gu:wI E s.gu a.defers
def HK(E:Env)(N:Nat)(s:St)(w:World)(x:X)(s':St)(Q:Exit->Act->World->Prop):Prop:=
 ∀E' a' w' x',ij E s.h w E' s'.h w'->(∀k,k<s.n->E'.ι k=E.ι k)->s.n<=s'.n->jS E' N s' a' w'->Nn E' x x'->Q x' a' w'
theorem HK.after{E E1:Env}{N:Nat}{s s1 s':St}{w w1:World}{x:X}{Q:Exit->Act->World->Prop}(p:HK E N s w x s' Q)(u:ij E s.h w E1 s1.h w1)(fF:∀k,k<s.n->E1.ι k=E.ι k)(hn:s.n<=s1.n):HK E1 N s1 w1 x s' Q:=
 fun E' a' w' x' u' PB o8 r rx=>p E' a' w' x' (u.trans u') (fun k hk=>by rw[PB k be];exact fF k hk) be r rx
section
variable{P:Program}{cf:fJ}{F N:Nat}{uK:Option Nat}
theorem kI(oz:jc P cf){ops:Array Oper}:∀(l:List Oper) (s:St) (x:X) (s':St),(uK=none\/∀o∈l,Bj o.op=true)->(∀o∈l,nc N o.dst)->iY P cf ops l s=some (x,s')->
  ∀(E:Env) (a:Act) (w:World) (Q:Exit->Act->World->Prop),jS E N s a w->HK E N s w x s' Q->wpListIn (fz uK) 0 P ops Q l a w
 | [],s,x,s',_,_,e,E,a,w,Q,r,hp=>by
   simp only[iY,an,aB]at e;obtain⟨rfl,rfl⟩:=e;exact hp E a w .normal (ij.refl r.good) (fun _ _=>rfl) (aA _) r trivial
 |o::rest,s,x,s',o7,tV,e,E,a,w,Q,r,hp=>by
  have TI:uK=none\/∀o∈rest,Bj o.op=true:=o7.imp _root_.id fun h o ho=>h o (by simp[ho]);have ho:=tV o (by simp);have uR:∀o∈rest,nc N o.dst:=fun o h=>tV o (by simp[h]);have TJ:nc a.tmps.size o.dst:=by rw[r.size];exact ho
  simp only[iY]at e;unfold wpListIn;have HL:∀b,iq ops o s.fr=some b->Region.wanted o (yielded ops a.tmps)=b:=fun b hb=>xh (E:=E) (fun _ _ _ d _ _ _ v hv=>r.fr d v hv) hb;have DX:∀y∈o.op.operands,mB E s.fr a.eval y:=fun y _=>iC r.good.jf r.fr y;split at e
  . rename_i hw;rw[aI (by rw[HL _ hw];simp)];split at e
    . rename_i fr rj;refine⟨fun _ _=>trivial,?_⟩;refine kI oz rest _ x s' TI uR e E _ w Q ⟨r.good,r.nW,ju r.fr rj ⟨[],rfl,rfl⟩ TJ,by rw[iB];exact r.size,by rw[gw];exact r.gu⟩ ?_;exact hp.after (ij.refl r.good) (fun _ _=>rfl) (aA _)
    . cases e
  . rename_i hw;rw[aG (HL _ hw)];split at e
    . rename_i v h n hs;split at e
      . rename_i fr rj;refine Ca r.good (r.nW _ (aA _)) DX hs fun E' w' v' q1 q2 q3 q4=>?_;have hn:s.n<=n:=by rcases q4 with⟨rfl,_⟩|rfl<;>omega
        have rQ:qH E' n:=by
         rcases q4 with⟨rfl,rfl⟩|rfl
         . exact r.nW
         . intro k hk;rw[q3 k be];exact r.nW k be
        refine kI oz rest _ x s' TI uR e E' _ w' Q ⟨q2.good,rQ,ju (jQ q2.le r.fr) rj q1 TJ,by rw[iB];exact r.size,by rw[gw];exact iR q2.le _ _ r.gu⟩ ?_;exact hp.after q2 (fun k hk=>q3 k be) hn
      . cases e
    . rename_i g args hs;split at e
      . rename_i v h n hc;split at e
        . rename_i fr rj;refine Bl oz r.good r.nW DX hs hc fun E' w' q2 q3 q4 q5=>?_;intro v' q1;refine kI oz rest _ x s' TI uR e E' _ w' Q ⟨q2.good,q4,ju (jQ q2.le r.fr) rj q1 TJ,by rw[iB];exact r.size,by rw[gw];exact iR q2.le _ _ r.gu⟩ ?_;exact hp.after q2 q3 q5
        . cases e
      . rename_i v h n hc;obtain⟨rfl,rfl⟩:=eY e;refine Bl oz r.good r.nW DX hs hc fun E' w' q2 q3 q4 q5=>?_;intro v' q1;exact hp E' a w' _ q2 q3 q5 ⟨q2.good,q4,jQ q2.le r.fr,r.size,iR q2.le _ _ r.gu⟩ ⟨v',q1,rfl⟩
      . cases e
    . rename_i g c args hs;split at e
      case isFalse=>cases e
      rename_i TK;split at e
      . rename_i fr rj;have TC:uK=none:=by
         rcases o7 with q|q
         . exact q
         . exfalso;have:=q o (by simp);rw[TK.2]at this;cases this
        refine Yp TC r.good (r.nW _ (aA _)) DX hs fun c' c7 q1 q2=>?_;refine kI oz rest _ x s' TI uR e E _ w Q ⟨r.good,r.nW,ju (a:={ a with defers:={ target:=.fn (.func g) c'.toArray,args:=c7.toArray }::a.defers }) r.fr rj ⟨[],rfl,rfl⟩ TJ,by rw[iB];exact r.size,by rw[gw];exact⟨_,a.defers,.inl ⟨TK.1,c',c7,q1,q2,rfl⟩,r.gu,rfl⟩⟩ ?_;exact hp.after (ij.refl r.good) (fun _ _=>rfl) (aA _)
      . cases e
    . rename_i v hs;obtain⟨rfl,rfl⟩:=eY e;refine Pu r.good (r.nW _ (aA _)) DX hs fun v' q1=>?_;exact hp E a w _ (ij.refl r.good) (fun _ _=>rfl) (aA _) r ⟨v',q1,rfl⟩
    . cases e
    . cases e
  . cases e
theorem oB{E:Env}{fr:Tr V}{a:Act}{c:Operand}{b:Bool}(ge:GE E)(r:yA E fr a)(e:iG fr c=some (.bool b)):a.eval c= .bool b:=by
 have:=iC ge r c _ e;simpa only[dz]using this
theorem HM(oz:jc P cf){g:Operand}{ps:Array Tmp}{assign body:Code}{s s':St}{x:X}(iA:eS N (.rangeFunc g ps assign body)=true)(e:iZ P cf F (.rangeFunc g ps assign body) s=some (x,s'))
  {E:Env} {a:Act} {w:World} {Q:Exit->Act->World->Prop} (r:jS E N s a w) (hp:HK E N s w x s' Q):(Code.rangeFunc g ps assign body).wpIn (fz none) 0 P Q a w:=by
 simp only[eS,aC]at iA;simp only[iZ]at e;split at e
 . rename_i gf lb hg;split at e
   case isFalse=>cases e
   rename_i hq;obtain⟨uJ,gD⟩:=hq;obtain⟨f',fi,HN,Nh,hfi,hlb,zO⟩:=iC r.good.jf r.fr g _ hg;simp only[x8]at Nh;subst Nh;simp only[dG]at hfi;subst hfi;refine wpIn_rangeFunc fun fn _=>?_
   let Ci:Loop:={ state:=.ready,pending:=none,fn,tmps:=a.tmps,params:=ps,assign,body,defers:=w.heap.size }
   have u1:ij E s.h w (E.put s.n w.heap.size 0 0) (s.h.set s.n (some .me)) (w.alloc (.deferred (some []))):=ij.alloc (ob:=.deferred (some [])) (o:=.me) r.good (r.nW _ (aA _)) be heap_alloc_new;have DG:(E.put s.n w.heap.size 0 0).ι (s.n+1)=none:=by rw[Env.fk be];exact r.nW _ be
   have u2:ij (E.put s.n w.heap.size 0 0) (s.h.set s.n (some .me)) (w.alloc (.deferred (some []))) ((E.put s.n w.heap.size 0 0).put (s.n+1) (w.alloc (.deferred (some []))).heap.size 0 0) ((s.h.set s.n (some .me)).set (s.n+1) (some (.loop true none s.fr ps.toList assign body))) ((w.alloc (.deferred (some []))).alloc (.loop Ci)):=
    ij.alloc (ob:=.loop Ci) (o:=.loop true none s.fr ps.toList assign body) u1.good DG gD
     ⟨Ci,heap_alloc_new,rfl,rfl,rfl,rfl,rfl,vG (Env.le_trans u1.le (Env.q8 DG fun m x t e hx=>by have:=u1.good.mO m x t e;omega)) r.fr,by rw[show Ci.tmps.size=N from r.size];exact⟨iA.2.1,iA.2.2,fun p hp=>by simpa using bn.1 iA.1 p hp⟩⟩
   rw[World.size_alloc]at u2;revert e;generalize TL:(E.put s.n w.heap.size 0 0).put (s.n+1) (w.heap.size+1) 0 0=E2 at u2;generalize Np:(s.h.set s.n (some .me)).set (s.n+1) (some (.loop true none s.fr ps.toList assign body))=h2 at u2;generalize hW1:(w.alloc (.deferred (some []))).alloc (.loop Ci)=W1 at u2;intro e;have G2:E2.ι (s.n+1)=some (w.heap.size+1,0):=by rw[<- TL];exact Env.eV
   have FY:E2.ι s.n=some (w.heap.size,0):=by rw[<- TL,Env.fk be];exact Env.eV
   have qn:∀k,k<s.n->E2.ι k=E.ι k:=fun k hk=>by rw[<- TL,Env.fk be,Env.fk be]
   have HO:qH E2 (s.n+2):=fun k hk=>by
    have hk:s.n+2<=k:=hk;rw[<- TL,Env.fk be,Env.fk be];exact r.nW k (by show s.n<=k;omega)
   have u12:=u1.trans u2;have Yx:dG E2 lb HN:=kg u12.le _ _ hlb;have PC:(invoke (.fn (.func gf) HN.toArray) #[.func (.yield (w.heap.size+1)) #[] #[]]).run P W1= .ok (.enter gf (Value.func (.yield (w.heap.size+1)) #[] #[]::HN).toArray) W1:=by
    have Yy:=pI (w:=W1) (args:=(Value.func (.yield (w.heap.size+1)) #[] #[]::HN).toArray) uJ;rw[<- Yy];simp[invoke]
   refine⟨w.heap.size+1,[{ target:=.collected w.heap.size,args:=#[] }],W1,{ target:=.fn (.func gf) HN.toArray,args:=#[.func (.yield (w.heap.size+1)) #[] #[]] },W1,gf,
    (Value.func (.yield (w.heap.size+1)) #[] #[]::HN).toArray,W1,?_,?_,fun _ _=>trivial,PC,fun hd=>by simp[fz,Fence.wide]at hd,?_⟩
   . rw[<- hW1];exact run_enterLoop_outer _ _ _ _ _
   . simp only[resolve,zO];simp[go_sem]
   . split at e
     case h_2=>cases e
     rename_i v h n hc;have Cj:=(oz gf _ h2 (s.n+2) _ h n hc E2 W1 (Value.func (.yield (w.heap.size+1)) #[] #[]::HN) ⟨_,_,⟨_,[],[],⟨_,_,G2,rfl⟩,rfl,rfl,rfl⟩,Yx,rfl⟩ u2.good HO).1 uJ;have FZ:CallsIn Fence.wide (0-1) P gf (Value.func (.yield (w.heap.size+1)) #[] #[]::HN).toArray W1 (rangePost (fz none) 0 P (w.heap.size+1) Q { a with defers:=[{ target:=.collected w.heap.size,args:=#[] }]++a.defers }):=by
      refine callsIn_wide.2 (Cj.mono ?_);rintro en w3 ⟨E3,u3,yF,PD,J0,ho⟩;cases en with
      |panicked _=>exact ho.elim
      |outgrown=>exact ho.elim
      |returned v'=>
       have Yz:E3.ι (s.n+1)=some (w.heap.size+1,0):=by rw[yF _ be];exact G2
       have hd3:E3.ι s.n=some (w.heap.size,0):=by rw[yF _ be];exact FY
       have Ep:∀(st:Bool) (pe:Option Code) (fr:Tr V) (pl:List Nat) (c1 c2:Code),h.get (s.n+1)=some (.loop st pe fr pl c1 c2)->
         ∃w4,(Instr.endLoop (w.heap.size+1)).run P w3= .ok pe w4/\
          ∀(y:X) (s1:St),s1={ s with h:=h.set (s.n+1) none,n:=n,gu:=(fI,[],[.map (some s.n)])::s.gu }->HK E N s w y s1 Q->∀y',Nn E3 y y'->Q y' { a with defers:=[{ target:=.collected w.heap.size,args:=#[] }]++a.defers } w4:=by
        intro st pe fr pl c1 c2 kD;obtain⟨b,s0,q1,rc,q2,q3,q4,_⟩:=u3.good.rel _ _ kD;rw[Yz]at q1;cases q1;have Nq:=run_endLoop (P:=P) q2 (by rw[q3];cases st<;>simp);refine⟨_,Nq.trans (aN (fun p=>Result.ok p _) q4),fun y s1 fP iD y' hy=>?_⟩;have uk:ij E3 h w3 E3 (h.set (s.n+1) none) (w3.putObj (w.heap.size+1) (.loop { rc with state:=.exhausted })):=
         ij.kill u3.good gD ⟨_,kD,rfl⟩ Yz (by simp) rfl rfl rfl fun x hx=>World.putObj_heap_other hx
        have F0:=(u12.trans u3).trans uk;subst fP;have hsn:s.n<=n:=by omega
        exact iD E3 _ _ y' F0 (fun k hk=>by rw[yF k be];exact qn k hk) hsn
         ⟨F0.good,PD,jQ F0.le r.fr,r.size,⟨_,a.defers,.inr ⟨rfl,s.n,w.heap.size,0,rfl,hd3,rfl⟩,iR F0.le _ _ r.gu,rfl⟩⟩ hy
       split at e
       . rename_i hdg G3;obtain⟨rfl,rfl⟩:=eY e;obtain⟨w4,k1,k2⟩:=Ep _ _ _ _ _ _ G3;exact⟨_,w4,k1,k2 .normal _ rfl hp .normal trivial⟩
       . rename_i hdg G3;obtain⟨rfl,rfl⟩:=eY e;obtain⟨w4,k1,k2⟩:=Ep _ _ _ _ _ _ G3;exact⟨_,w4,k1,wpIn_ret (k2 .ret _ rfl hp .ret trivial)⟩
       . rename_i id _ _ _ _ hdg G3;obtain⟨rfl,rfl⟩:=eY e;obtain⟨w4,k1,k2⟩:=Ep _ _ _ _ _ _ G3;exact⟨_,w4,k1,wpIn_exit (k2 (.exit id) _ rfl hp (.exit id) rfl)⟩
       . cases e
     exact FZ
 . cases e
theorem mD(oz:jc P cf)(hm:P.follows .mixedOrders=true):∀(c:Code) (s:St) (x:X) (s':St),(uK=none\/jM c=true)->eS N c=true->iZ P cf F c s=some (x,s')->
  ∀(E:Env) (a:Act) (w:World) (Q:Exit->Act->World->Prop),jS E N s a w->HK E N s w x s' Q->c.wpIn (fz uK) 0 P Q a w:=by
 intro c
 induction c with
 |skip=>
  intro s x s' _ _ e E a w Q r hp;simp only[iZ,an,aB]at e;obtain⟨rfl,rfl⟩:=e;exact wpIn_skip (hp E a w .normal (ij.refl r.good) (fun _ _=>rfl) (aA _) r trivial)
 |region id ops Jy=>
  intro s x s' o7 iA e E a w Q r hp;simp only[eS,aC]at iA;cases Jy with
  |false=>
   simp only[iZ]at e;refine wpIn_region_list (kI oz ops.toList s x s' (o7.imp _root_.id fun q=>by simp only[jM,bn]at q;exact q) (fun o ho d hd=>?_) e E a w Q r hp);have:=bn.1 iA.1 o ho;rw[hd]at this;simpa using this
  |true=>
   simp only[iZ]at e;have air:=JW (by simpa using iA.2);refine Py oz air hm e r.good r.nW r.fr r.size fun E' a' w' x' u fF rQ hn xV lP S8 ais hx=>?_;exact hp E' a' w' x' u fF hn ⟨u.good,rQ,xV,lP,by rw[ais,S8];exact iR u.le _ _ r.gu⟩ hx
 |seq c1 c2 Pp Pq=>
  intro s x s' o7 iA e E a w Q r hp;simp only[eS,aC]at iA;simp only[iZ]at e;refine wpIn_seq ?_;cases h1:iZ P cf F c1 s with
  |none=>simp[h1]at e
  |some p=>
   obtain⟨x1,s1⟩:=p;refine Pp s x1 s1 (o7.imp _root_.id fun q=>by simp only[jM,aC]at q;exact q.1) iA.1 h1 E a w _ r fun E' a' w' x' u fF hn r' hx=>?_;cases x1 with
   |normal=>
    simp only[h1]at e;cases x'<;>first|(exact hx.elim)|skip
    exact Pq s1 x s' (o7.imp _root_.id fun q=>by simp only[jM,aC]at q;exact q.2) iA.2 e E' a' w' Q r' (hp.after u fF hn)
   |exit i=>
    simp only[h1,an,aB]at e;obtain⟨rfl,rfl⟩:=e;cases x'<;>first|(exact hx.elim)|skip
    exact hp E' a' w' _ u fF hn r' hx
   |ret=>
    simp only[h1,an,aB]at e;obtain⟨rfl,rfl⟩:=e;cases x'<;>first|(exact hx.elim)|skip
    exact hp E' a' w' _ u fF hn r' hx
   |panic v=>
    simp only[h1,an,aB]at e;obtain⟨rfl,rfl⟩:=e;cases x'<;>first|(exact hx.elim)|skip
    exact hp E' a' w' _ u fF hn r' hx
 |cond c c1 c2 Pp Pq=>
  intro s x s' o7 iA e E a w Q r hp;simp only[eS,aC]at iA;simp only[iZ]at e;split at e
  . rename_i hc;exact wpIn_cond_true (oB r.good.jf r.fr hc) (Pp s x s' (o7.imp _root_.id fun q=>by simp only[jM,aC]at q;exact q.1) iA.1 e E a w Q r hp)
  . rename_i hc;exact wpIn_cond_false (oB r.good.jf r.fr hc) (Pq s x s' (o7.imp _root_.id fun q=>by simp only[jM,aC]at q;exact q.2) iA.2 e E a w Q r hp)
  . cases e
 |block id c ih=>
  intro s x s' o7 iA e E a w Q r hp;simp only[eS]at iA;simp only[iZ]at e;refine wpIn_block ?_;cases h1:iZ P cf F c s with
  |none=>simp[h1]at e
  |some p=>
   obtain⟨x1,s1⟩:=p;refine ih s x1 s1 (o7.imp _root_.id fun q=>by simpa only[jM]using q) iA h1 E a w _ r fun E' a' w' x' u fF hn r' hx=>?_;cases x1 with
   |normal=>
    simp only[h1,an,aB]at e;obtain⟨rfl,rfl⟩:=e;cases x'<;>first|(exact hx.elim)|skip
    exact hp E' a' w' .normal u fF hn r' trivial
   |exit i=>
    simp only[h1]at e;cases x'<;>first|(exact hx.elim)|skip
    rename_i j;have OM:i=j:=hx;subst OM;simp only[Exit.inBlock];split at e
    . rename_i q;obtain⟨rfl,rfl⟩:=eY e;rw[aG q];exact hp E' a' w' .normal u fF hn r' trivial
    . rename_i q;obtain⟨rfl,rfl⟩:=eY e;rw[aI q];exact hp E' a' w' (.exit i) u fF hn r' rfl
   |ret=>
    simp only[h1,an,aB]at e;obtain⟨rfl,rfl⟩:=e;cases x'<;>first|(exact hx.elim)|skip
    exact hp E' a' w' .ret u fF hn r' trivial
   |panic v=>
    simp only[h1,an,aB]at e;obtain⟨rfl,rfl⟩:=e;cases x'<;>first|(exact hx.elim)|skip
    exact hp E' a' w' (.panic _) u fF hn r' hx
 |loop c ih=>
  intro s x s' o7 iA e E a w Q r hp;simp only[eS]at iA;simp only[iZ]at e;refine wpIn_loop_rounds F ?_;have key:∀(k:Nat) (s:St),rounds (iZ P cf F c) k s=some (x,s')->∀(E:Env) (a:Act) (w:World),jS E N s a w->HK E N s w x s' Q->Code.roundsIn (fz uK) 0 P c Q k a w:=by
   intro k
   induction k with
   |zero=>intro s e;cases e
   |succ k ihk=>
    intro s e E a w r hp;simp only[rounds]at e;rw[roundsIn_succ];cases h1:iZ P cf F c s with
    |none=>simp[h1]at e
    |some p=>
     obtain⟨x1,s1⟩:=p;refine ih s x1 s1 (o7.imp _root_.id fun q=>by simpa only[jM]using q) iA h1 E a w _ r fun E' a' w' x' u fF hn r' hx=>?_;cases x1 with
     |normal=>
      simp only[h1]at e;cases x'<;>first|(exact hx.elim)|skip
      exact ihk s1 e E' a' w' r' (hp.after u fF hn)
     |exit i=>
      simp only[h1,an,aB]at e;obtain⟨rfl,rfl⟩:=e;cases x'<;>first|(exact hx.elim)|skip
      exact hp E' a' w' _ u fF hn r' hx
     |ret=>
      simp only[h1,an,aB]at e;obtain⟨rfl,rfl⟩:=e;cases x'<;>first|(exact hx.elim)|skip
      exact hp E' a' w' _ u fF hn r' hx
     |panic v=>
      simp only[h1,an,aB]at e;obtain⟨rfl,rfl⟩:=e;cases x'<;>first|(exact hx.elim)|skip
      exact hp E' a' w' _ u fF hn r' hx
  exact key F s e E a w r hp
 |exit id=>
  intro s x s' _ _ e E a w Q r hp;simp only[iZ,an,aB]at e;obtain⟨rfl,rfl⟩:=e;exact wpIn_exit (hp E a w (.exit id) (ij.refl r.good) (fun _ _=>rfl) (aA _) r rfl)
 |ret=>
  intro s x s' _ _ e E a w Q r hp;simp only[iZ,an,aB]at e;obtain⟨rfl,rfl⟩:=e;exact wpIn_ret (hp E a w .ret (ij.refl r.good) (fun _ _=>rfl) (aA _) r trivial)
 |rangeFunc g ps assign body _ _=>
  intro s x s' o7 iA e E a w Q r hp;have TC:uK=none:=by
   rcases o7 with q|q
   . exact q
   . cases q
  subst TC;exact HM oz iA e r hp
 |scope c _=>intro s x s' _ _ e;cases e
 |label l=>intro s x s' _ _ e;cases e
 |goto l=>intro s x s' _ _ e;cases e
 |refuse w=>intro s x s' _ _ e;cases e
def Ck(tmps:Array Value):ResultVar->Sem Value
 | .tmp t=>pure (tmps.getD t undef)
 | .cell c t=>do loadVar t (<- asAddr (tmps.getD c undef))
theorem J1(fn:Func)(tmps:Array Value):results fn tmps=(do
  let vs <- fn.results.mapM (Ck tmps)
  pure (if h:vs.size=1 then vs[0]else .tuple vs)):=by
 unfold results;congr 1
theorem AE{E:Env}{h:Tr O}{w:World}{fr:Tr V}{a:Act}(g:Good E h w)(r:yA E fr a):∀(rs:List ResultVar) (vs:ag),kZ P fr h rs=some vs->
  ∃Wz,(rs.mapM (Ck a.tmps)).run P w= .ok Wz w/\dG E vs Wz
 | [],vs,e=>by simp only[kZ,an]at e;subst e;exact⟨[],rfl,rfl⟩
 |x::rs,vs,e=>by
  simp only[kZ]at e;cases h1:FB P fr h x with
  |none=>simp[h1]at e
  |some v=>cases h2:kZ P fr h rs with
   |none=>simp[h1,h2]at e
   |some us=>
    simp only[h1,h2,an]at e;subst e;obtain⟨us',q1,q2⟩:=AE g r rs us h2;have hv:∃v',(Ck a.tmps x).run P w= .ok v' w/\dz E v v':=by
     cases x with
     |tmp t=>
      obtain⟨v',p1,p2⟩:=r t v h1;exact⟨v',by simp[Ck,p1],p2⟩
     |cell c t=>
      simp only[FB]at h1;split at h1
      . rename_i u hu;obtain⟨u',p1,p2⟩:=r c u hu;obtain⟨b,sh,rfl,v',p3,p4⟩:=BU (P:=P) g p2 h1;refine⟨v',?_,p4⟩;simp[Ck,p1,asAddr,p3]
      . cases h1
    obtain⟨v',p1,p2⟩:=hv;refine⟨v'::us',?_,v',us',p2,q2,rfl⟩;rw[List.mapM_cons];simp only[Sem.run_bind,p1,q1,Result.andThen_ok,Sem.run_pure]
theorem AF{E:Env}{h:Tr O}{w:World}{fr:Tr V}{a:Act}{fn:Func}{vs:ag}(g:Good E h w)(r:yA E fr a)(e:kZ P fr h fn.results.toList=some vs):
  ∃v',(results fn a.tmps).run P w= .ok v' w/\dz E (oneOf vs) v':=by
 obtain⟨Wz,q1,q2⟩:=AE (P:=P) g r fn.results.toList vs e;have fH:(results fn a.tmps).run P w= .ok (if h:Wz.toArray.size=1 then Wz.toArray[0]else .tuple Wz.toArray) w:=by
  rw[J1,Array.mapM_eq_mapM_toList];simp only[Sem.run_bind,Sem.run_map,q1,Result.andThen_ok,Sem.run_pure]
 refine⟨_,fH,?_⟩
 match vs,q2 with
 | [],q2=>simp only[dG]at q2;subst q2;exact⟨[],rfl,rfl⟩
 | [v],q2=>
   obtain⟨y,ys,p1,p2,rfl⟩:=q2;simp only[dG]at p2;subst p2;exact p1
 |u::v::us,q2=>
  have G2:=eK q2;rw[dif_neg (by simp only[List.size_toArray,G2,aS];omega)];exact⟨Wz,q2,rfl⟩
end
def F1(E:Env):Mode->FrameMode->Prop
 | .ret,.returning=>True
 | .zz v b,.panicking chain=>∃v',dz E v v'/\chain=[{ v:=v',recovered:=b }]
 |_,_=>False
theorem Ez{E E':Env}(h:E.le E'):∀{m:Mode} {u:FrameMode},F1 E m u->F1 E' m u
 | .ret,.returning,_=>trivial
 | .zz _ _,.panicking _,⟨v',r,q⟩=>⟨v',je h _ _ r,q⟩
 | .ret,.run,r=>r.elim
 | .ret,.panicking _,r=>r.elim
 | .zz _ _,.run,r=>r.elim
 | .zz _ _,.returning,r=>r.elim
def EA(E:Env)(N:Nat)(s:St)(w:World)(x:X)(s':St)(m':Mode)(mN:Frame)(cs:List Frame)(Q:Exit->Act->List Frame->World->Prop):Prop:=
 ∀E' a' w' x' u',ij E s.h w E' s'.h w'->(∀k,k<s.n->E'.ι k=E.ι k)->s.n<=s'.n->jS E' N s' a' w'->Nn E' x x'->F1 E' m' u'->Q x' a' ({ mN with mode:=u' }::cs) w'
theorem EA.after{E E1:Env}{N:Nat}{s s1 s':St}{w w1:World}{x:X}{m':Mode}{mN:Frame}{cs:List Frame}{Q:Exit->Act->List Frame->World->Prop}(p:EA E N s w x s' m' mN cs Q)(u:ij E s.h w E1 s1.h w1)
  (fF:∀k,k<s.n->E1.ι k=E.ι k) (hn:s.n<=s1.n):EA E1 N s1 w1 x s' m' mN cs Q:=
 fun E' a' w' x' u2 u' PB o8 r rx rm=>p E' a' w' x' u2 (u.trans u') (fun k hk=>by rw[PB k be];exact fF k hk) be r rx rm
section
variable{P:Program}{cf:fJ}{F N:Nat}
theorem F2(k n:Nat):List.range' k (n+1)=k::List.range' (k+1) n:=by simp[List.range'_succ]
theorem qo{ops:Array Oper}(mN:Frame)(cs:List Frame):∀(l:List Oper) (k:Nat) (s:St) (m:Mode) (x:X) (s':St) (m':Mode),(∀j,l[j]? =ops[k+j]?)->(∀o∈l,nc N o.dst)->qO P cf ops l s m=some (x,s',m')->
  ∀(E:Env) (a:Act) (w:World) (u:FrameMode) (Q:Exit->Act->List Frame->World->Prop),jS E N s a w->F1 E m u->EA E N s w x s' m' mN cs Q->
   wpOpsS P ops Q (List.range' k l.length) a ({ mN with mode:=u }::cs) w
 | [],k,s,m,x,s',m',_,_,e,E,a,w,u,Q,r,rm,hp=>by
   simp only[qO,an,aB]at e;obtain⟨rfl,rfl,rfl⟩:=e;exact hp E a w .normal u (ij.refl r.good) (fun _ _=>rfl) (aA _) r trivial rm
 |o::rest,k,s,m,x,s',m',kD,tV,e,E,a,w,u,Q,r,rm,hp=>by
  have ho:=tV o (by simp);have uR:∀o∈rest,nc N o.dst:=fun o h=>tV o (by simp[h]);have TJ:nc a.tmps.size o.dst:=by rw[r.size];exact ho
  have hgr:∀j,rest[j]? =ops[k+1+j]?:=fun j=>by have:=kD (j+1);simpa[cA,Nat.add_comm 1 j]using this
  have iA:ops[k]? =some o:=by have:=kD 0;simpa using this.symm
  simp only[qO]at e;simp only[aS,F2,wpOpsS,iA];have HL:∀b,iq ops o s.fr=some b->Region.wanted o (yielded ops a.tmps)=b:=fun b hb=>xh (E:=E) (fun _ _ _ d _ _ _ v hv=>r.fr d v hv) hb;have DX:∀y∈o.op.operands,mB E s.fr a.eval y:=fun y _=>iC r.good.jf r.fr y;split at e
  . rename_i hw;rw[aI (by rw[HL _ hw];simp)];split at e
    . rename_i fr rj;exact qo mN cs rest (k+1) _ m x s' m' hgr uR e E _ w u Q ⟨r.good,r.nW,ju r.fr rj ⟨[],rfl,rfl⟩ TJ,by rw[iB];exact r.size,by rw[gw];exact r.gu⟩ rm (hp.after (ij.refl r.good) (fun _ _=>rfl) (aA _))
    . cases e
  . rename_i hw;rw[aG (HL _ hw)];split at e
    . rename_i v h n hs;split at e
      . rename_i fr rj;obtain⟨E',w',v',fH,q1,q2,q3,q4⟩:=mC r.good (r.nW _ (aA _)) DX hs;have hn:s.n<=n:=by rcases q4 with⟨rfl,_⟩|rfl<;>omega
        have rQ:qH E' n:=by
         rcases q4 with⟨rfl,rfl⟩|rfl
         . exact r.nW
         . intro k hk;rw[q3 k be];exact r.nW k be
        have tU:=qo mN cs rest (k+1) _ m x s' m' hgr uR e E' (a.put o.dst v') w' u Q ⟨q2.good,rQ,ju (jQ q2.le r.fr) rj q1 TJ,by rw[iB];exact r.size,by rw[gw];exact iR q2.le _ _ r.gu⟩ (Ez q2.le rm)
         (hp.after q2 (fun k hk=>q3 k be) hn)
        rcases fH with fH|⟨fH,rfl⟩
        . rw[fH];simp only[Oper.upon_value];exact tU
        . rw[fH];simp only[Oper.upon_skip];exact tU
      . cases e
    . rename_i hs;have fH:=mC r.good (r.nW _ (aA _)) DX hs;simp only[jX]at fH;rw[fH];simp only;split at e
      . rename_i v;split at e
        . rename_i fr rj;cases u with
          |panicking chain=>
           obtain⟨v',q1,rfl⟩:=rm;simp only[recoverD];exact qo mN cs rest (k+1) _ (.zz v true) x s' m' hgr uR e E (a.put o.dst v') w (.panicking [{ v:=v',recovered:=true }]) Q ⟨r.good,r.nW,ju r.fr rj q1 TJ,by rw[iB];exact r.size,by rw[gw];exact r.gu⟩ ⟨v',q1,rfl⟩
            (hp.after (ij.refl r.good) (fun _ _=>rfl) (aA _))
          |run=>exact rm.elim
          |returning=>exact rm.elim
        . cases e
      . rename_i hnp;split at e
        . rename_i fr rj;have HP:recoverD ({ mN with mode:=u }::cs)=none:=by
           cases m with
           |ret=>cases u<;>first|(exact rm.elim)|rfl
           |zz v b=>
            cases b with
            |false=>exact absurd rfl (hnp v)
            |true=>
             cases u with
             |panicking chain=>obtain⟨v',q1,rfl⟩:=rm;rfl
             |run=>exact rm.elim
             |returning=>exact rm.elim
          rw[HP];exact qo mN cs rest (k+1) _ m x s' m' hgr uR e E (a.put o.dst .nilIface) w u Q ⟨r.good,r.nW,ju r.fr rj rfl TJ,by rw[iB];exact r.size,by rw[gw];exact r.gu⟩ rm (hp.after (ij.refl r.good) (fun _ _=>rfl) (aA _))
        . cases e
    . cases e
  . cases e
theorem DY{c:Operand}{x y:Code}{a:Act}{cs:List Frame}{w:World}{Q:Exit->Act->List Frame->World->Prop}(hc:a.eval c= .bool true)(h:x.wpS P Q a cs w):(Code.cond c x y).wpS P Q a cs w:=wpS_cond hc h
theorem Cl{c:Operand}{x y:Code}{a:Act}{cs:List Frame}{w:World}{Q:Exit->Act->List Frame->World->Prop}(hc:a.eval c= .bool false)(h:y.wpS P Q a cs w):(Code.cond c x y).wpS P Q a cs w:=wpS_cond hc h
theorem AG(oz:jc P cf)(hm:P.follows .mixedOrders=true){c:Code}{s s':St}{x:X}{m m':Mode}(iA:eS N c=true)(e:(match iZ P cf F c s with|some (x,s')=>some (x,s',m)|none=>none)=some (x,s',m'))
  {mN:Frame} {cs:List Frame} {E:Env} {a:Act} {w:World} {u:FrameMode} {Q:Exit->Act->List Frame->World->Prop} (r:jS E N s a w) (rm:F1 E m u) (hp:EA E N s w x s' m' mN cs Q):c.wpS P Q a ({ mN with mode:=u }::cs) w:=by
 cases h1:iZ P cf F c s with
 |none=>simp[h1]at e
 |some p=>
  obtain⟨x1,s1⟩:=p;simp only[h1,an,aB]at e;obtain⟨rfl,rfl,rfl⟩:=e;exact wpS_of_wp (wpIn_wide.1 (mD (uK:=none) oz hm c s x1 s1 (.inl rfl) iA h1 E a w _ r fun E' a' w' x' u' fF hn r' hx=>hp E' a' w' x' u u' fF hn r' hx (Ez u'.le rm)))
theorem AH(oz:jc P cf)(hm:P.follows .mixedOrders=true)(mN:Frame)(cs:List Frame):∀(c:Code) (s:St) (m:Mode) (x:X) (s':St) (m':Mode),eS N c=true->tM P cf F c s m=some (x,s',m')->
  ∀(E:Env) (a:Act) (w:World) (u:FrameMode) (Q:Exit->Act->List Frame->World->Prop),jS E N s a w->F1 E m u->EA E N s w x s' m' mN cs Q->c.wpS P Q a ({ mN with mode:=u }::cs) w:=by
 intro c
 induction c with
 |region id ops Jy=>
  intro s m x s' m' iA e E a w u Q r rm hp;cases Jy with
  |false=>
   simp only[tM]at e;have TM:=iA;simp only[eS,aC]at TM;have:=qo (P:=P) (cf:=cf) (ops:=ops) mN cs ops.toList 0 s m x s' m' (fun j=>by simp) (fun o ho d hd=>by
    have:=bn.1 TM.1 o ho;rw[hd]at this;simpa using this) e E a w u Q r rm hp
   exact wpS_region (by rw[List.range_eq_range',<- Array.length_toList];exact this)
  |true=>
   simp only[tM]at e;exact AG (F:=F) oz hm iA e r rm hp
 |seq c1 c2 Pp Pq=>
  intro s m x s' m' iA e E a w u Q r rm hp;simp only[eS,aC]at iA;simp only[tM]at e;refine wpS_seq ?_;cases h1:tM P cf F c1 s m with
  |none=>simp[h1]at e
  |some p=>
   obtain⟨x1,s1,m1⟩:=p;refine Pp s m x1 s1 m1 iA.1 h1 E a w u _ r rm fun E' a' w' x' u1 uu fF hn r' hx Nr=>?_;cases x1 with
   |normal=>
    simp only[h1]at e;cases x'<;>first|(exact hx.elim)|skip
    exact Pq s1 m1 x s' m' iA.2 e E' a' w' u1 Q r' Nr (hp.after uu fF hn)
   |exit i=>
    simp only[h1,an,aB]at e;obtain⟨rfl,rfl,rfl⟩:=e;cases x'<;>first|(exact hx.elim)|skip
    exact hp E' a' w' _ u1 uu fF hn r' hx Nr
   |ret=>
    simp only[h1,an,aB]at e;obtain⟨rfl,rfl,rfl⟩:=e;cases x'<;>first|(exact hx.elim)|skip
    exact hp E' a' w' _ u1 uu fF hn r' hx Nr
   |panic v=>
    simp only[h1,an,aB]at e;obtain⟨rfl,rfl,rfl⟩:=e;cases x'<;>first|(exact hx.elim)|skip
    exact hp E' a' w' _ u1 uu fF hn r' hx Nr
 |cond c c1 c2 Pp Pq=>
  intro s m x s' m' iA e E a w u Q r rm hp;simp only[eS,aC]at iA;simp only[tM]at e;split at e
  . rename_i hc;exact DY (oB r.good.jf r.fr hc) (Pp s m x s' m' iA.1 e E a w u Q r rm hp)
  . rename_i hc;exact Cl (oB r.good.jf r.fr hc) (Pq s m x s' m' iA.2 e E a w u Q r rm hp)
  . cases e
 |_=>
  intro s m x s' m' iA e E a w u Q r rm hp;simp only[tM]at e;exact AG (F:=F) oz hm iA e r rm hp
theorem uT:∀(vs:ag) (i:Nat) (t:Tr V) (k:Nat),i+vs.length<fI->(lH vs i t).get k=if i<=k/\k<i+vs.length then vs[k-i]? else t.get k
 | [],i,t,k,_=>by simp only[lH,bO];rw[aI be]
 |v::vs,i,t,k,h=>by
  simp only[aS]at h;simp only[lH,aS];rw[uT vs (i+1) _ k be,Tr.eO _ _ _ be];by_cases q:k=i
  . subst q;rw[aI be,aG rfl,aG be];simp
  . rw[aI q];by_cases q2:i+1<=k/\k<i+1+vs.length
    . rw[aG q2,aG be];have:k-i=(k-(i+1))+1:=by omega
      rw[this];simp
    . rw[aI q2,aI be]
theorem td{E:Env}{args:ag}{c7:List Value}{n:Nat}(r:dG E args c7)(hn:args.length<=n)(ht:n<fI):
  yA E (lH args 0 .nil) { tmps:=c7.toArray++Array.replicate (n-c7.toArray.size) undef,defers:=[] }/\(c7.toArray++Array.replicate (n-c7.toArray.size) undef).size=n:=by
 have hl:=eK r;refine⟨fun t v hv=>?_,by simp;omega⟩;rw[uT args 0 .nil t be]at hv;split at hv
 . rename_i hi;obtain⟨v',h1,h2⟩:=gz r _ v hv;refine⟨v',?_,h2⟩;simp only[Nat.sub_zero]at h1;rw[bQ (by simp;omega)];simpa using h1
 . cases hv
def lj(P:Program):Bool:=P.funcs.toList.all fun fn=>match fn.body with|some c=>eS fn.ntmps c|none=>true
theorem AI(h:lj P=true){f:FuncId}{fn:Func}{c:Code}(hf:P.funcs[f]? =some fn)(hb:fn.body=some c):eS fn.ntmps c=true:=by
 unfold lj at h;have:=bn.1 h fn (by rw[<- bK]at hf;exact aZ hf);rw[hb]at this;exact this
theorem Bf{f:FuncId}{fn:Func}{c:Code}{args:Array Value}{u:FrameMode}{w:World}{R:Ending->FrameMode->World->Prop}
  (hf:P.funcs[f]? =some fn) (hb:fn.body=some c)
  (h:∀(mN:Frame) (cs:List Frame),mN.mode=u->
   c.wpS P (bodyPostS P fn mN cs R) { tmps:=args++Array.replicate (fn.ntmps-args.size) undef,defers:=[] } (mN::cs) w):
  CallsDIn Fence.wide (0-1) P f args u w R:=by
 refine⟨trivial,fun mN cs hu _=>?_⟩
 let b:Frame:={ (default:Frame)with fn:=f,kind:=.deferred }
 have YA:Frame.enter P f args .deferred=
   b.at { tmps:=args++Array.replicate (fn.ntmps-args.size) undef,defers:=[] } [.code c]:=by
  simp[Frame.enter,Frame.at,hf,hb,b]
 obtain⟨e,a',cs',w',hq,PE⟩:=h mN cs hu b [] rfl rfl;rw[<- YA]at PE;cases e with
 |normal=>
  obtain⟨hd,u',rfl,v,hr,hR⟩:=hq;exact⟨.returned v,u',w',_,hR,comesIn_wide.2 (Steps.trans PE (.one step_end)),rfl,rfl,rfl,hd,fn,hf,hr⟩
 |ret=>
  obtain⟨hd,u',rfl,v,hr,hR⟩:=hq;obtain⟨ait,hs⟩:=PE;exact⟨.returned v,u',w',_,hR,comesIn_wide.2 hs,rfl,rfl,rfl,hd,fn,hf,hr⟩
 |panic chain=>
  obtain⟨hd,u',rfl,hR⟩:=hq;obtain⟨ait,hs⟩:=PE;exact⟨.panicked chain,u',w',_,hR,comesIn_wide.2 hs,rfl,rfl,rfl,hd,fn,hf⟩
 |exit id=>exact hq.elim
 |goto l=>exact hq.elim
 |outgrown=>
  obtain⟨u',hR⟩:=hq;exact⟨.outgrown,u',w',b,hR,comesIn_wide.2 (PE.resolve_left (by simp[b])),rfl,rfl,trivial⟩
theorem qQ(oz:jc P cf)(hm:P.follows .mixedOrders=true)(xp:lj P=true){fn:Func}{fr:Tr V}{a:Act}:∀(ds:List (FuncId×ag×ag)) (m:Mode) (h:Tr O) (n:Nat) (tQ:O1) (h':Tr O) (n':Nat),
  nB P cf F fn fr ds m h n=some (tQ,h',n')->∀(E:Env) (w:World) (ds':List Deferred) (u:FrameMode) (R:Ending->World->Prop),Good E h w->qH E n->yA E fr a->wI E ds ds'->F1 E m u->
   (∀E' w' en,ij E h w E' h' w'->(∀k,k<n->E'.ι k=E.ι k)->qH E' n'->n<=n'->s8 E' tQ en->R en w')->LeavesInM Fence.wide 0 P fn a.tmps R ds' u w
 | [],m,h,n,tQ,h',n',e,E,w,ds',u,R,g,hd,hf,WM,rm,hR=>by
   simp only[wI]at WM;subst WM;cases m with
   |ret=>
    cases u<;>first|(exact rm.elim)|skip
    simp only[nB]at e;split at e
    . rename_i vs hr;simp only[an,aB]at e;obtain⟨rfl,rfl,rfl⟩:=e;obtain⟨v',h1,h2⟩:=AF (P:=P) g hf hr;exact⟨v',h1,hR E w _ (ij.refl g) (fun _ _=>rfl) hd (aA _) h2⟩
    . cases e
   |zz v b=>
    cases u with
    |panicking chain=>
     obtain⟨v',q1,rfl⟩:=rm;cases b with
     |false=>
      simp only[nB,an,aB]at e;obtain⟨rfl,rfl,rfl⟩:=e;exact hR E w _ (ij.refl g) (fun _ _=>rfl) hd (aA _) ⟨v',q1,rfl⟩
     |true=>cases e
    |run=>exact rm.elim
    |returning=>exact rm.elim
 |(gf,c,args)::ds,m,h,n,tQ,h',n',e,E,w,ds',u,R,g,hd,hf,WM,rm,hR=>by
  obtain⟨d,ys,PF,r3,rfl⟩:=WM;simp only[nB]at e;have acS:u≠ .run:=by intro q;subst q;cases m<;>exact rm.elim
  split at e
  ·
   rename_i gD;rcases PF with⟨q,_⟩|⟨_,m0,b,s0,ha,iV,rfl⟩
   . exact absurd q (Nat.not_lt.2 gD)
   simp only at ha;subst ha;simp only at e;split at e
   . rename_i S8;split at e
     . rename_i fE;obtain⟨b',s',q1,q2⟩:=g.rel _ _ S8;rw[iV]at q1;cases q1;have uk:ij E h w E (h.set m0 none) (w.putObj b (.deferred none)):=ij.kill g fE ⟨_,S8,rfl⟩ iV (by simp) rfl rfl rfl fun x hx=>World.putObj_heap_other hx;exact⟨acS,.inl ⟨b,_,rfl,run_takeDeferred q2,qQ oz hm xp ds m _ n tQ h' n' e E _ ys u R uk.good hd hf r3 rm fun E2 w2 en u2 qn FY w8 ho=>hR E2 w2 en (uk.trans u2) qn FY w8 ho⟩⟩
     . cases e
   . cases e
  rename_i gD;obtain⟨c',c7,r1,r2,rfl⟩:∃c' c7,dG E c c'/\dG E args c7/\d={ target:=.fn (.func gf) c'.toArray,args:=c7.toArray }:=by
   rcases PF with⟨_,q⟩|⟨q,_⟩
   . exact q
   . exact absurd (Nat.le_of_eq q.symm) gD
  split at e
  . rename_i gn hgn;split at e
    . rename_i code hb;split at e
      . rename_i hq;obtain⟨uJ,iQ,gD⟩:=hq;have hvr:=ir r2 r1;obtain⟨xV,lP⟩:=td (n:=gn.ntmps) hvr iQ gD;have EB:=AI xp hgn hb;have next:∀(s':St) (m':Mode) (vs:ag),s'.gu=[]->kZ P s'.fr s'.h gn.results.toList=some vs->nB P cf F fn fr ds (match m' with | .zz _ true=>.ret|m=>m) s'.h s'.n=some (tQ,h',n')->
          ∀E' (a':Act) w' u',ij E h w E' s'.h w'->(∀k,k<n->E'.ι k=E.ι k)->n<=s'.n->jS E' gn.ntmps s' a' w'->F1 E' m' u'->
          a'.defers=[]/\∃v,(results gn a'.tmps).run P w'= .ok v w'/\LeavesInM Fence.wide 0 P fn a.tmps R ys (settle u') w':=by
         intro s' m' vs S8 M2 FG E' a' w' u' uu fF hn r' Nr;have aiu:a'.defers=[]:=by have:=r'.gu;rw[S8]at this;exact this
         obtain⟨v',p1,p2⟩:=AF (P:=P) r'.good r'.fr M2;refine⟨aiu,v',p1,?_⟩;refine qQ oz hm xp ds _ s'.h s'.n tQ h' n' FG E' w' ys (settle u') R r'.good r'.nW (jQ uu.le hf) (iR uu.le _ _ r3) ?_ fun E2 w2 en u2 qn FY w8 ho=>hR E2 w2 en (uu.trans u2) (fun k hk=>by rw[qn k be];exact fF k hk) FY be ho;cases m' with
         |ret=>cases u'<;>first|(exact Nr.elim)|trivial
         |zz v b=>
          cases u' with
          |panicking chain=>
           obtain⟨v2,q1,rfl⟩:=Nr;cases b with
           |false=>exact⟨v2,q1,rfl⟩
           |true=>trivial
          |run=>exact Nr.elim
          |returning=>exact Nr.elim
        have PC:(invoke (.fn (.func gf) c'.toArray) c7.toArray).run P w= .ok (.enter gf (c7++c').toArray) w:=by
         simp only[invoke];have:c7.toArray++c'.toArray=(c7++c').toArray:=by simp
         rw[this];exact pI uJ
        refine⟨acS,.inr ⟨fun hd=>by simp[Fence.wide]at hd,_,_,gf,_,rfl,PC,fun _ _=>trivial,Bf hgn hb fun mN cs acT=>?_⟩⟩;have sW:mN={ mN with mode:=u }:=by subst acT;rfl
        rw[sW];have Ns:jS E gn.ntmps { fr:=lH (args++c) 0 .nil,h:=h,n:=n,gu:=[] } { tmps:=(c7++c').toArray++Array.replicate (gn.ntmps-(c7++c').toArray.size) undef,defers:=[] } w:=⟨g,hd,xV,lP,rfl⟩;split at e
        . rename_i s' m' hx;split at e
          . rename_i S8;split at e
            . rename_i vs M2;refine AH oz hm mN cs code _ m .normal s' m' EB hx E _ w u _ Ns rm fun E' a' w' x' u' uu fF hn r' sG Nr=>?_;cases x'<;>first|(exact sG.elim)|skip
              obtain⟨k1,v,k2,k3⟩:=next s' m' vs S8 M2 e E' a' w' u' uu fF hn r' Nr
              exact⟨k1,u',rfl,v,k2,k3⟩
            . cases e
          . cases e
        . rename_i s' m' hx;split at e
          . rename_i S8;split at e
            . rename_i vs M2;refine AH oz hm mN cs code _ m .ret s' m' EB hx E _ w u _ Ns rm fun E' a' w' x' u' uu fF hn r' sG Nr=>?_;cases x'<;>first|(exact sG.elim)|skip
              obtain⟨k1,v,k2,k3⟩:=next s' m' vs S8 M2 e E' a' w' u' uu fF hn r' Nr
              exact⟨k1,u',rfl,v,k2,k3⟩
            . cases e
          . cases e
        . cases e
      . cases e
    . cases e
  . cases e
theorem HQ(oz:jc P cf)(hm:P.follows .mixedOrders=true)(xp:lj P=true){f:FuncId}{args:ag}{h:Tr O}{n:Nat}{tQ:O1}{h':Tr O}{n':Nat}(e:enter P cf F f args h n=some (tQ,h',n'))
  {E:Env} {w:World} {c7:List Value} (ra:dG E args c7) (g:Good E h w) (hd:qH E n):Calls P f c7.toArray w (jR E h n w tQ h' n'):=by
 unfold enter at e;split at e
 . rename_i fn hf;split at e
   . rename_i code hb;split at e
     . rename_i hq;obtain⟨xV,lP⟩:=td (n:=fn.ntmps) ra hq.1 hq.2;have EB:=AI xp hf hb;have Ns:jS E fn.ntmps { fr:=lH args 0 .nil,h:=h,n:=n,gu:=[] } { tmps:=c7.toArray++Array.replicate (fn.ntmps-c7.toArray.size) undef,defers:=[] } w:=⟨g,hd,xV,lP,rfl⟩;refine callsIn_wide.1 (callsIn_of_wp_marks (n:=0) hf hb trivial ?_);have Ep:∀(s:St) (m:Mode) (u:FrameMode) (E':Env) (a':Act) (w':World),nB P cf F fn s.fr s.gu m s.h s.n=some (tQ,h',n')->ij E h w E' s.h w'->(∀k,k<n->E'.ι k=E.ι k)->n<=s.n->jS E' fn.ntmps s a' w'->F1 E' m u->
         LeavesInM Fence.wide 0 P fn a'.tmps (jR E h n w tQ h' n') a'.defers u w':=by
        intro s m u E' a' w' hl uu fF hn r' rm;exact qQ oz hm xp s.gu m s.h s.n tQ h' n' hl E' w' a'.defers u _ r'.good r'.nW r'.fr r'.gu rm fun E2 w2 en u2 qn FY w8 ho=>⟨E2,uu.trans u2,fun k hk=>by rw[qn k be];exact fF k hk,FY,be,ho⟩
       split at e
       . rename_i s hx;refine mD (uK:=none) oz hm code _ _ s (.inl rfl) EB hx E _ w _ Ns fun E' a' w' x' uu fF hn r' sG=>?_;cases x'<;>first|(exact sG.elim)|skip
         exact Ep s .ret .returning E' a' w' e uu fF hn r' trivial
       . rename_i s hx;refine mD (uK:=none) oz hm code _ _ s (.inl rfl) EB hx E _ w _ Ns fun E' a' w' x' uu fF hn r' sG=>?_;cases x'<;>first|(exact sG.elim)|skip
         exact Ep s .ret .returning E' a' w' e uu fF hn r' trivial
       . rename_i v s hx;refine mD (uK:=none) oz hm code _ _ s (.inl rfl) EB hx E _ w _ Ns fun E' a' w' x' uu fF hn r' sG=>?_;cases x'<;>first|(exact sG.elim)|skip
         exact Ep s (.zz v false) _ E' a' w' e uu fF hn r' sG
       . cases e
     . cases e
   . cases e
 . cases e
theorem Cm{E:Env}:∀(ps:List Nat) (args:ag) (c7:List Value) (fr zB:Tr V) (t:Array Value),wX (Jx ps args) fr=some zB->dG E args c7->(∀p∈ps,p<t.size)->O4 E fr t->
  O4 E zB ((ps.zip c7).foldl (fun t (p,v)=>t.setIfInBounds p v) t)/\((ps.zip c7).foldl (fun t (p,v)=>t.setIfInBounds p v) t).size=t.size
 | [],args,c7,fr,zB,t,e,_,_,r=>by simp only[Jx,wX,an]at e;subst e;exact⟨by simpa using r,by simp⟩
 |p::ps,[],c7,fr,zB,t,e,ra,_,r=>by
  simp only[Jx,wX,an]at e;subst e;simp only[dG]at ra;subst ra;exact⟨by simpa using r,by simp⟩
 |p::ps,v::vs,c7,fr,zB,t,e,ra,hp,r=>by
  obtain⟨y,ys,r0,rs,rfl⟩:=ra;simp only[Jx,wX]at e;split at e
  . rename_i fE;have YB:=hp p (by simp);have h2:=Cm ps vs ys _ zB (t.setIfInBounds p y) e rs (fun q hq=>by simpa using hp q (by simp[hq])) (fun k x hx=>by
     rw[Tr.eO _ _ _ fE]at hx;by_cases q:k=p
     . subst q;rw[aG rfl]at hx;cases hx;exact⟨y,by simp[YB],r0⟩
     . rw[aI q]at hx;obtain⟨x',k1,k2⟩:=r k x hx;exact⟨x',by rw[Array.getElem?_setIfInBounds_ne (Ne.symm q)];exact k1,k2⟩)
    simp only[List.zip_cons_cons,List.foldl_cons];exact⟨h2.1,by rw[h2.2];simp⟩
  . cases e
theorem Nt(ps:Array Nat)(args:List Value)(t:Array Value):(ps.zip args.toArray).foldl (fun t (p,v)=>t.setIfInBounds p v) t=(ps.toList.zip args).foldl (fun t (p,v)=>t.setIfInBounds p v) t:=by
 rw[<- Array.foldl_toList];congr 1;simp
theorem HR(oz:jc P cf)(hm:P.follows .mixedOrders=true){m:Nat}{args:ag}{h:Tr O}{n:Nat}{tQ:O1}{h':Tr O}{n':Nat}(e:wY P cf F m args h n=some (tQ,h',n'))
  {E:Env} {w:World} {c7:List Value} (ra:dG E args c7) (g:Good E h w) (hd:qH E n) {l s0:Nat} (iV:E.ι m=some (l,s0)):YieldAt Fence.wide 0 P l c7.toArray w (jR E h n w tQ h' n'):=by
 unfold wY at e;split at e
 case h_2=>cases e
 rename_i fr ps assign body kD;split at e
 case isFalse=>cases e
 rename_i hq;obtain⟨yG,o7,hpa,hpb⟩:=hq;split at e
 case h_2=>cases e
 rename_i zB rj;obtain⟨b,s',q1,r,hb,BW,hpe,G1,aiw,aix,htr,YC,zP,acU⟩:=g.rel _ _ kD;rw[iV]at q1;cases q1;simp only[if_true]at BW;subst G1;subst aiw;subst aix;have hlw:l<w.heap.size:=(aQ.1 hb).1;have WN:ew h m:=⟨_,kD,rfl⟩;have fH:=run_yield (P:=P) (args:=c7.toArray) hb (by simp[eK ra,<- o7]);refine⟨_,_,_,_,fH,roundIn_of_wpIn trivial ?_⟩;rw[Nt];obtain⟨aiy,DU⟩:=Cm r.params.toList args c7 fr zB r.tmps rj ra acU htr;have uF:∀k o,(h.set m none).get k=some o->k≠m/\h.get k=some o:=by
  intro k o hk;rw[Tr.eO _ _ _ yG]at hk;split at hk
  . cases hk
  . rename_i q;exact⟨q,hk⟩
 have Cn:∀k o,(h.set m none).get k=some o->h.get k=some o:=fun k o q=>(uF k o q).2;split at e
 case h_2=>cases e
 rename_i s1 Tz;refine mD (uK:=some l) oz hm r.assign _ _ s1 (.inr hpa) (by rw[<- DU]at YC;exact YC) Tz E _ w _ ⟨g.sub Cn,hd,aiy,rfl,rfl⟩ fun E1 a1 w1 x1 u1 EC DG r1 aiz=>?_;cases x1<;>first|(exact aiz.elim)|skip
 have nl0:∀k t,(h.set m none).get k≠none->E.ι k≠some (l,t):=by
  intro k t hk q;obtain⟨o,ho⟩:=bf.1 hk;obtain⟨c1,c2⟩:=uF k o ho;exact g.inj m k l s0 t (fun q=>c1 q.symm) WN (by rw[c2];simp) iV q
 have nl1:∀k t,s1.h.get k≠none->E1.ι k≠some (l,t):=by
  intro k t hk q;obtain⟨m0,t0,c1,c2,_⟩:=u1.sO k l t hk q hlw;exact nl0 m0 t0 c1 c2
 have yn:w1.heap[l]? =some (.loop r):=(u1.keep l hlw fun k t hk=>nl0 k t hk.live).trans hb;have Nu:l<w1.heap.size:=(aQ.1 yn).1;refine⟨_,run_beginRound yn BW,?_⟩;generalize OO:w1.putObj l (.loop { r with state:=.busy })=w2;have Hq:w2.heap[l]? =some (.loop { r with state:=.busy }):=by rw[<- OO];exact World.putObj_heap_same Nu
 have Hu:w2.heap.size=w1.heap.size:=by rw[<- OO];simp
 have PG:∀k,k≠l->w2.heap[k]? =w1.heap[k]?:=fun k hk=>by rw[<- OO];exact World.putObj_heap_other hk
 have qp:Good E1 s1.h w2:=by
  refine⟨fun k o hk=>?_,u1.good.inj,fun k b s hk=>by rw[Hu];exact u1.good.mO k b s hk,u1.good.jf,fun b c hc=>⟨?_,(u1.good.gI b c hc).2⟩⟩
  case refine_2=>
   obtain⟨⟨el,fz,l5⟩,_⟩:=u1.good.gI b c hc;rw[PG b fun q=>by rw[q,yn]at l5;cases l5];exact⟨el,fz,l5⟩
  obtain⟨b,s,k1,k2⟩:=u1.good.rel k o hk;have fL:b≠l:=by intro q;subst q;exact nl1 k s (by rw[hk];simp) k1
  exact⟨b,s,k1,hU E1.le_refl rfl (PG b fL) k2⟩
 have hN1:a1.tmps.size=r.tmps.size:=by
  exact r1.size.trans DU
 have rest:∀(x:X) (s2:St),iZ P cf F r.body s1=some (x,s2)->∀(st:Bool) (pe:Option Code) (Q:Exit->Act->World->Prop),
   (∀x' E2 a2 w3,Nn E2 x x'->((Instr.endRound l pe).run P w3= .ok (.bool pe.isNone) (w3.putObj l (.loop { r with state:=if pe.isNone then .ready else .done,pending:=pe }))->
    (pe.isNone=st->ij E h w E2 (s2.h.set m (some (.loop st pe fr r.params.toList r.assign r.body))) (w3.putObj l (.loop { r with state:=if pe.isNone then .ready else .done,pending:=pe })))->qH E2 s2.n->n<=s2.n->(∀k,k<n->E2.ι k=E.ι k)->Q x' a2 w3))->
   r.body.wpIn (fz (some l)) 0 P Q a1 w2:=by
  intro x s2 PI st pe Q hQ;refine mD (uK:=some l) oz hm r.body s1 x s2 (.inr hpb) zP PI E1 a1 w2 Q ⟨qp,r1.nW,r1.fr,hN1,r1.gu⟩ fun E2 a2 w3 x' u2 qn w8 r2 sG=>?_;refine hQ x' E2 a2 w3 sG ?_ ?_ r2.nW (bU DG w8) (fun k hk=>by rw[qn k (bD hk DG)];exact EC k hk)
  . have hb3:w3.heap[l]? =some (.loop { r with state:=.busy }):=(u2.keep l (by rw[Hu];exact Nu) fun k t hk=>nl1 k t hk.live).trans Hq;exact run_endRound (P:=P) (r:={ r with state:=.busy }) pe hb3
  . intro aiA;have nl2:∀k t,s2.h.get k≠none->E2.ι k≠some (l,t):=by
     intro k t hk q;obtain⟨m0,t0,c1,c2,_⟩:=u2.sO k l t hk q (by rw[Hu];exact Nu);exact nl1 m0 t0 c1 c2
    have hb3:w3.heap[l]? =some (.loop { r with state:=.busy }):=(u2.keep l (by rw[Hu];exact Nu) fun k t hk=>nl1 k t hk.live).trans Hq;have Yz:l<w3.heap.size:=(aQ.1 hb3).1;have ku:E.le E2:=Env.le_trans u1.le u2.le;have PJ:E2.ι m=some (l,s0):=(ku.nm m l s0 iV).1;generalize G4:({ r with state:=if pe.isNone then .ready else .done,pending:=pe }:Loop)=r4;have acV:(w3.putObj l (.loop r4)).heap.size=w3.heap.size:=by simp
    have PK:∀k,k≠l->(w3.putObj l (.loop r4)).heap[k]? =w3.heap[k]?:=fun k hk=>World.putObj_heap_other hk;have sQ:lO E2 (w3.putObj l (.loop r4)) l s0 (.loop st pe fr r.params.toList r.assign r.body):=by
     refine⟨r4,World.putObj_heap_same Yz,?_,?_,?_,?_,?_,?_,?_⟩
     . rw[<- G4,<- aiA]
     . rw[<- G4]
     . rw[<- G4]
     . rw[<- G4]
     . rw[<- G4]
     . rw[<- G4];exact vG ku htr
     . rw[<- G4];exact⟨YC,zP,acU⟩
    have qq:∀k o,(s2.h.set m (some (.loop st pe fr r.params.toList r.assign r.body))).get k=some o->(k=m/\o= .loop st pe fr r.params.toList r.assign r.body)\/(k≠m/\s2.h.get k=some o):=by
     intro k o q;rw[Tr.eO _ _ _ yG]at q;split at q
     . rename_i c;cases q;exact .inl ⟨c,rfl⟩
     . rename_i c;exact .inr ⟨c,q⟩
    have PL:∀b c,E2.φ b=some c->b≠l:=fun b c hc q=>by
     obtain⟨⟨el,fz,l5⟩,_⟩:=u2.good.gI b c hc;rw[q,hb3]at l5;cases l5
    refine⟨ku,⟨?_,?_,?_,u2.good.jf,fun b c hc=>⟨by rw[PK b (PL b c hc)];exact(u2.good.gI b c hc).1,fun k t hk q0=>?_⟩⟩,?_,?_,?_,?_,?_,?_,?_⟩
    case refine_4=>
     obtain⟨o,hk,ho⟩:=hk;rcases qq k o hk with⟨rfl,rfl⟩|⟨c',q⟩
     . rw[PJ]at q0;cases q0;exact PL _ c hc rfl
     . exact(u2.good.gI b c hc).2 k t ⟨o,q,ho⟩ q0
    case refine_11=>
     intro b c hc;rcases u2.DF b c hc with q|q|⟨m1,t1,q1,q2⟩
     . rcases u1.DF b c q with q|q|⟨m0,t0,q1,q2⟩
       . exact .inl q
       . exact .inr (.inl q)
       . exact .inr (.inr ⟨m0,t0,gm Cn q1,q2⟩)
     . have c1:=u1.size;exact .inr (.inl be)
     . rcases bN b w.heap.size with FV|FV
       . obtain⟨m0,t0,_,f2,f3⟩:=u1.sO m1 b t1 q1.live q2 FV;exact .inr (.inr ⟨m0,t0,gm Cn (f3 q1),f2⟩)
       . exact .inr (.inl FV)
    . intro k o q;rcases qq k o q with⟨rfl,rfl⟩|⟨c,q⟩
      . exact⟨l,s0,PJ,sQ⟩
      . obtain⟨b,t,k1,k2⟩:=u2.good.rel k o q;have fL:b≠l:=by intro c;subst c;exact nl2 k t (by rw[q];simp) k1
        exact⟨b,t,k1,hU E2.le_refl rfl (PK b fL) k2⟩
    . intro k k' b t t' fL hk tY e1 e2;obtain⟨o,hk,ho⟩:=hk;obtain⟨o',tY⟩:=bf.1 tY;rcases qq k o hk with⟨rfl,rfl⟩|⟨c,q⟩
      . rcases qq k' o' tY with⟨rfl,rfl⟩|⟨c',q'⟩
        . exact fL rfl
        . rw[PJ]at e1;cases e1;exact nl2 k' t' (by rw[q'];simp) e2
      . rcases qq k' o' tY with⟨rfl,rfl⟩|⟨c',q'⟩
        . rw[PJ]at e2;cases e2;exact nl2 k t (by rw[q];simp) e1
        . exact u2.good.inj k k' b t t' fL ⟨o,q,ho⟩ (by rw[q'];simp) e1 e2
    . intro k b t q;rw[acV];exact u2.good.mO k b t q
    . rw[acV];have c1:=u1.size;have c2:=u2.size;omega
    . exact u2.tape.trans (by rw[<- OO];exact u1.tape)
    . exact u2.os.trans (by rw[<- OO];exact u1.os)
    . exact u2.output.trans (by rw[<- OO];exact u1.output)
    . intro b FV tO;have fL:b≠l:=by intro c;subst c;exact tO m s0 WN iV
      have c1:=u1.size;rw[PK b fL,u2.keep b be ?_,PG b fL,u1.keep b FV ?_]
      . intro k t hk q;exact tO k t (gm Cn hk) q
      . intro k t hk q;obtain⟨m0,t0,d1,d2,d3⟩:=u1.sO k b t hk.live q FV;exact tO m0 t0 (gm Cn (d3 hk)) d2
    . intro k b t hk q FV;obtain⟨o,hk⟩:=bf.1 hk;have c1:=u1.size;rcases qq k o hk with⟨rfl,rfl⟩|⟨c,qk⟩
      . rw[PJ]at q;cases q;exact⟨k,s0,WN.live,iV,fun _=>WN⟩
      . obtain⟨m1,t1,d1,d2,d3⟩:=u2.sO k b t (by rw[qk];simp) q be;obtain⟨m0,t0,f1,f2,f3⟩:=u1.sO m1 b t1 d1 d2 FV;exact⟨m0,t0,mU Cn f1,f2,fun z=>gm Cn (f3 (d3 (ox yG z c)))⟩
 split at e
 . rename_i s2 PI;simp only[an,aB]at e;obtain⟨rfl,rfl,rfl⟩:=e;refine rest _ s2 PI true none _ fun x' E2 a2 w3 sG fH hu rQ hn fF=>?_;cases x'<;>first|(exact sG.elim)|skip
   exact⟨_,_,fH,E2,hu rfl,fF,rQ,hn,rfl⟩
 . rename_i s2 PI;simp only[an,aB]at e;obtain⟨rfl,rfl,rfl⟩:=e;refine rest _ s2 PI false (some .ret) _ fun x' E2 a2 w3 sG fH hu rQ hn fF=>?_;cases x'<;>first|(exact sG.elim)|skip
   exact⟨_,_,fH,E2,hu rfl,fF,rQ,hn,rfl⟩
 . rename_i j s2 PI;simp only[an,aB]at e;obtain⟨rfl,rfl,rfl⟩:=e;refine rest _ s2 PI false (some (.exit j)) _ fun x' E2 a2 w3 sG fH hu rQ hn fF=>?_;cases x'<;>first|(exact sG.elim)|skip
   have:_=j:=sG.symm;subst this;exact⟨_,_,fH,E2,hu rfl,fF,rQ,hn,rfl⟩
 . cases e
theorem TN(oz:jc P cf)(hm:P.follows .mixedOrders=true)(xp:lj P=true):jc P (fun f args h n=>if f<P.funcs.size then enter P cf F f args h n else wY P cf F (f-P.funcs.size) args h n):=by
 intro f args h n tQ h' n' e E w c7 ra g hd;simp only at e;split at e
 . rename_i fE;exact⟨fun _=>HQ oz hm xp e ra g hd,fun m l s hf _=>absurd fE (by rw[hf];exact Nat.not_lt.2 (Nat.le_add_right _ _))⟩
 . rename_i zO;refine⟨fun hc=>?_,fun m l s hf iV=>?_⟩
   . exfalso;unfold callee at hc;rw[Array.getElem?_eq_none (Nat.not_lt.1 zO)]at hc;cases hc
   . subst hf;rw[Nat.add_sub_cancel_left]at e;exact HR oz hm e ra g hd iV
end
open Go.RowKit
def Co:List (Nat×Nat)->Nat->Option (Nat×Nat)
 | [],_=>none
 |p::r,m=>if p.2=m then some (p.1,0)else Co r m
def gN:Nat:=jL.length
theorem rR:∀{l:List (Nat×Nat)} {m:Nat} {q:Nat×Nat},Co l m=some q->∃p∈l,p.2=m/\q=(p.1,0)
 | [],_,_,h=>by cases h
 |p::r,m,q,h=>by
  unfold Co at h;split at h
  . rename_i hb;cases h;exact⟨p,by simp,hb,rfl⟩
  . obtain⟨p',h1,h2⟩:=rR h;exact⟨p',aJ _ h1,h2⟩
theorem Cp:∀{l:List (Nat×Nat)} {p:Nat×Nat},p∈l->(l.map (·.2)).Nodup->Co l p.2=some (p.1,0)
 |q::r,p,h,hn=>by
  unfold Co;rcases aE.1 h with rfl|h
  . rw[aG rfl]
  . simp only[bV,cg]at hn;rw[aI (fun e=>hn.1 (by rw[e];exact List.mem_map_of_mem h))];exact Cp h hn.2
theorem LJ:(jL.map (·.2)).Nodup:=by
 have h:jL.map (·.2)=List.range jL.length:=by decide
 rw[h];exact List.nodup_range
section
variable(φ:Nat->Option (Array Value)){E:Env}(w:World){h:Tr O}
theorem Bn{p:Nat×Nat}(h:p∈jL):p.2<gN:=by
 have e:jL.map (·.2)=List.range jL.length:=by decide
 have:=List.mem_map_of_mem (f:=(·.2)) h;rw[e]at this;exact List.mem_range.1 this
def TO:Env:=⟨fun m=>Co jL m,fun _=>0,φ⟩
def E0:Env:=TO fun _=>none
def YD:Prop:=∀b c,φ b=some c->∃el fz,w.heap[b]? =some (.cells c el fz)
theorem Good.fz{w:World}(g:Good E h w):YD E.φ w:=fun b c q=>(g.gI b c q).1
theorem aiC:GE (TO φ):=fun p hp=>Cp hp LJ
def WG:Prop:=∀p∈jL,p.1<w.heap.size
theorem Good.wg{w:World}(g:Good E h w):WG w:=fun p hp=>g.mO _ _ _ (g.jf p hp)
end
section
variable{φ:Nat->Option (Array Value)}{w:World}{n:Nat}
theorem PM(hw:WG w)(kQ:YD φ w):Good (TO φ) .nil w:=⟨fun m o h=>by simp[Tr.get]at h,fun m _ _ _ _ _ h=>absurd rfl h.live,fun m b s h=>by obtain⟨p,h1,_,h2⟩:=rR h;cases h2;exact hw p h1,aiC φ,fun b c q=>⟨kQ b c q,fun m s h=>absurd rfl h.live⟩⟩
theorem acW(hw:WG w):Good E0 .nil w:=PM hw fun _ _ q=>by cases q
theorem WO(hn:gN<=n):qH (TO φ) n:=fun m hm=>by
 cases q:(TO φ).ι m with
 |none=>rfl
 |some _=>obtain⟨p',h1,h2,_⟩:=rR q;have:=Bn h1;omega
theorem aiD(hn:gN<=n):qH E0 n:=WO hn
end
mutual
def V.free:V->Bool
 | .ptr (some _)=>false
 | .di (some _) _ _ _=>false
 | .map (some _)=>false
 | .fn f a c=>vD f&&(V.wJ a&&V.wJ c)
 | .iface _ x=>V.free x
 | .agg cs=>V.wJ cs
 | .eo cs=>V.wJ cs
 | .dL _ 0 []=>true
 | .dL _ _ _=>false
 | .dm _=>false
 |_=>true
def V.wJ:ag->Bool
 | []=>true
 |x::xs=>V.free x&&V.wJ xs
end
mutual
theorem Cq{E E':Env}:∀(v:V) (v':Value),v.free=true->dz E v v'->dz E' v v'
 | .bool _,_,_,r=>r
 | .int _ _,_,_,r=>r
 | .str _,_,_,r=>r
 | .ptr none,_,_,r=>r
 | .ptr (some _),_,h,_=>by simp[V.free]at h
 | .di none _ _ _,_,_,r=>r
 | .di (some _) _ _ _,_,h,_=>by simp[V.free]at h
 | .map none,_,_,r=>r
 | .map (some _),_,h,_=>by simp[V.free]at h
 | .fn f a c,_,h,⟨f',a',c',rf,ra,rc,q⟩=>by
   simp only[V.free,aC]at h;refine⟨f',a',c',?_,mJ a a' h.2.1 ra,mJ c c' h.2.2 rc,q⟩;cases f<;>first|exact rf|(simp[vD]at h;done)
 | .kA,_,_,r=>r
 | .iface _ x,_,h,⟨x',r,q⟩=>⟨x',Cq x x' (by simpa only[V.free]using h) r,q⟩
 | .nilIface,_,_,r=>r
 | .agg cs,_,h,⟨cs',r,q⟩=>⟨cs',mJ cs cs' (by simpa only[V.free]using h) r,q⟩
 | .eo cs,_,h,⟨cs',r,q⟩=>⟨cs',mJ cs cs' (by simpa only[V.free]using h) r,q⟩
 | .dL f 0 [],_,_,r=>by
   obtain⟨⟨a,cO,vs,h1,h2,h3,h4,h5⟩,h6⟩:=r;exact⟨⟨a,cO,vs,h1,h2,h3,h4,fun q=>absurd q (cE _)⟩,h6⟩
 | .dL f 0 (_::_),_,h,_=>by simp[V.free]at h
 | .dL f (_+1) _,_,h,_=>by simp[V.free]at h
 | .dm _,_,h,_=>by simp[V.free]at h
theorem mJ{E E':Env}:∀(v:ag) (v':List Value),V.wJ v=true->dG E v v'->dG E' v v'
 | [],_,_,r=>r
 |x::xs,_,h,⟨y,ys,r,rs,q⟩=>by
  simp only[V.wJ,aC]at h;exact⟨y,ys,Cq x y h.1 r,mJ xs ys h.2 rs,q⟩
end
theorem Good.below{E:Env}{h:Tr O}{w w':World}(g:Good E h w)(b:Below w.heap.size w w'):Good E h w' where
 rel:=fun m o hm=>let⟨b',s,h1,h2⟩:=g.rel m o hm;⟨b',s,h1,hU E.le_refl rfl (b.block b' (g.mO m b' s h1)) h2⟩
 inj:=g.inj
 mO:=fun m b' s hm=>bD (g.mO m b' s hm) b.size
 jf:=g.jf
 gI:=fun k c q=>⟨by rw[b.block k (by obtain⟨el,fz,e⟩:=g.fz k c q;exact(aQ.1 e).1)];exact g.fz k c q,(g.gI k c q).2⟩
theorem ij.below{E:Env}{h:Tr O}{w w':World}(g:Good E h w)(b:Below w.heap.size w w'):ij E h w E h w':=
 ⟨E.le_refl,g.below b,b.size,b.tape,b.os,b.output,fun k hk _=>b.block k hk,fun m _ s hm he _=>⟨m,s,hm,he,id⟩,fun _ _ q=>.inl q⟩
def look(f:FuncId)(args:ag):List (FuncId×ag×V)->Option V
 | []=>none
 |x::r=>match Nat.beq f x.1&&V.pA args x.2.1 with
  |true=>some x.2.2
  |false=>look f args r
theorem Cr{f:FuncId}{args:ag}{v:V}:∀{T:List (FuncId×ag×V)},look f args T=some v->(f,args,v)∈T
 | [],h=>by simp[look]at h
 |x::r,h=>by
  simp only[look]at h;split at h
  . rename_i hb;simp only[aC]at hb;simp only[an]at h;rw[aD hb.1,tc _ _ hb.2,<- h];simp
  . exact aJ _ (Cr h)
structure DZ(w0:World)(E:Env)(h:Tr O)(w:World):Prop where
 good:Good E h w
 size:w0.heap.size<=w.heap.size
 tape:w.tape=w0.tape
 os:w.os=w0.os
 output:w.output=w0.output
 keep:∀b,b<w0.heap.size->w.heap[b]? =w0.heap[b]?
 sO:∀m b s,ew h m->E.ι m=some (b,s)->b<w0.heap.size->False
theorem DZ.trans{w0:World}{E E':Env}{h h':Tr O}{w w':World}(a:DZ w0 E h w)(b:ij E h w E' h' w'):DZ w0 E' h' w' where
 good:=b.good
 size:=bU a.size b.size
 tape:=b.tape.trans a.tape
 os:=b.os.trans a.os
 output:=b.output.trans a.output
 keep:=fun x hx=>by
  rw[b.keep x (bD hx a.size) fun m s hm e=>a.sO m x s hm e hx,a.keep x hx]
 sO:=fun m x s hm e hx=>by
  obtain⟨m1,s1,_,e1,k1⟩:=b.sO m x s hm.live e (bD hx a.size);exact a.sO m1 x s1 (k1 hm) e1 hx
theorem DZ.init{E:Env}{h:Tr O}{w:World}(g:Good E h w)(hr:∀m,¬ew h m):DZ w E h w:=
 ⟨g,aA _,rfl,rfl,rfl,fun _ _=>rfl,fun m _ _ hm _ _=>hr m hm⟩
theorem DZ.below{w0:World}{E:Env}{h:Tr O}{w:World}(u:DZ w0 E h w):Below w0.heap.size w0 w:=
 ⟨u.os,u.tape,u.output,u.size,fun k hk=>u.keep k hk⟩
def TP(N:Nat)(w0:World)(s:St)(a:Act)(w:World):Prop:=∃E,jS E N s a w/\DZ w0 E s.h w
theorem TP.below{N:Nat}{w0:World}{s:St}{a:Act}{w:World}(i:TP N w0 s a w):Below w0.heap.size w0 w:=by
 obtain⟨E,_,u⟩:=i;exact u.below
def X.plain:X->Option Exit
 | .normal=>some .normal
 | .exit i=>some (.exit i)
 | .ret=>some .ret
 | .panic _=>none
mutual
def V.names:V->List Nat->List Nat
 | .ptr (some (m,_)),l=>m::l
 | .di (some (m,_)) _ _ _,l=>m::l
 | .map (some m),l=>m::l
 | .fn f a c,l=>match f with
   | .yield m=>m::V.uU a (V.uU c l)
   |_=>V.uU a (V.uU c l)
 | .iface _ x,l=>V.names x l
 | .agg cs,l=>V.uU cs l
 | .eo cs,l=>V.uU cs l
 |_,l=>l
def V.uU:ag->List Nat->List Nat
 | [],l=>l
 |x::xs,l=>V.names x (V.uU xs l)
end
def HS:List (V×V×Nat)->List Nat
 | []=>[]
 |x::xs=>V.names x.1 (V.names x.2.1 (HS xs))
def O.names:O->List Nat
 | .cells cs=>V.uU cs []
 | .map es _=>HS es
 | .nA _ _=>[]
 | .ints _ _=>[]
 | .own _ _=>[]
 | .deep _=>[]
 | .iS _ _ _=>[]
 | .A3 _ _ x=>V.names x []
 | .dD _ _=>[]
 | .me=>[]
 | .loop ..=>[]
def YE(h:Tr O):Nat->List Nat->Tr Nat->List Nat->Nat->Option (Tr Nat×List Nat×Nat)
 |0,_,_,_,_=>none
 |_+1,[],ρ,pJ,k=>some (ρ,pJ,k)
 |f+1,m::q,ρ,pJ,k=>match ρ.get m with
  |some _=>YE h f q ρ pJ k
  |none=>YE h f ((match h.get m with|some o=>o.names|none=>[])++q) (ρ.set m (some k)) (m::pJ) (k+1)
def xq:List Nat->Nat->Tr Nat->Tr Nat
 | [],_,t=>t
 |m::r,k,t=>xq r (k-1) (t.set (k-1) (some m))
def dJ(ρ back:Tr Nat)(n2 m:Nat):Option Nat:=
 match ρ.get m with
 |some k=>match back.get k with
  |some m'=>match Nat.beq m m'&&Nat.blt k n2 with
   |true=>some k
   |false=>none
  |none=>none
 |none=>none
theorem AJ{ρ back:Tr Nat}{n2 m k:Nat}(h:dJ ρ back n2 m=some k):ρ.get m=some k/\back.get k=some m/\k<n2:=by
 unfold dJ at h;split at h
 . rename_i k' h1;split at h
   . rename_i m' h2;split at h
     . rename_i hb;simp only[aC]at hb;simp only[an]at h;subst h;have e:=aD hb.1;subst e;exact⟨h1,h2,by have:=hb.2;simp[Nat.blt]at this;omega⟩
     . cases h
   . cases h
 . cases h
section
variable(ν:Nat->Option Nat)
mutual
def V.WQ:V->Option V
 | .ptr (some (m,o))=>match ν m with
   |some k=>some (.ptr (some (k,o)))
   |none=>none
 | .di (some (m,o)) l c e=>match ν m with
   |some k=>some (.di (some (k,o)) l c e)
   |none=>none
 | .map (some m)=>match ν m with
   |some k=>some (.map (some k))
   |none=>none
 | .fn f a c=>match vD f with
   |true=>match V.Nv a with
    |some a=>match V.Nv c with
     |some c=>some (.fn f a c)
     |none=>none
    |none=>none
   |false=>none
 | .iface t x=>match V.WQ x with
   |some x=>some (.iface t x)
   |none=>none
 | .agg cs=>match V.Nv cs with
   |some cs=>some (.agg cs)
   |none=>none
 | .eo cs=>match V.Nv cs with
   |some cs=>some (.eo cs)
   |none=>none
 | .bool b=>some (.bool b)
 | .int k n=>some (.int k n)
 | .str s=>some (.str s)
 | .ptr none=>some (.ptr none)
 | .di none l c e=>some (.di none l c e)
 | .map none=>some (.map none)
 | .kA=>some .kA
 | .nilIface=>some .nilIface
 | .dL f n cs=>some (.dL f n cs)
 | .dm cs=>some (.dm cs)
def V.Nv:ag->Option (ag)
 | []=>some []
 |x::xs=>match V.WQ x with
  |some x=>match V.Nv xs with
   |some xs=>some (x::xs)
   |none=>none
  |none=>none
end
def WR:List (V×V×Nat)->Option (List (V×V×Nat))
 | []=>some []
 |x::xs=>match V.WQ ν x.1,V.WQ ν x.2.1,WR xs with
  |some k,some v,some xs=>some ((k,v,x.2.2)::xs)
  |_,_,_=>none
def O.WQ:O->Option O
 | .cells cs=>match V.Nv ν cs with
   |some cs=>some (.cells cs)
   |none=>none
 | .map es c=>match WR ν es with
   |some es=>some (.map es c)
   |none=>none
 | .nA s p=>some (.nA s p)
 | .ints k ks=>some (.ints k ks)
 | .own k ks=>some (.own k ks)
 | .deep cs=>some (.deep cs)
 | .iS e f s=>some (.iS e f s)
 | .A3 t s x=>match V.WQ ν x with
   |some x=>some (.A3 t s x)
   |none=>none
 | .dD k es=>some (.dD k es)
 | .me=>none
 | .loop ..=>none
end
section
variable{ν:Nat->Option Nat}{E E':Env}(iV:∀m k,ν m=some k->E'.ι k=E.ι m)(oM:E'.β=E.β)(kQ:∀b c,E.φ b=some c->E'.φ b=some c)
include iV oM kQ
end
def J2(ν:Nat->Option Nat)(h:Tr O):List Nat->Tr O->Option (Tr O)
 | [],t=>some t
 |m::r,t=>match h.get m with
  |none=>J2 ν h r t
  |some o=>match ν m with
   |some k=>match o.WQ ν with
    |some o2=>match Nat.blt k fI with
     |true=>J2 ν h r (t.set k (some o2))
     |false=>none
    |none=>none
   |none=>none
def zQ(ν:Nat->Option Nat)(fr:Tr V):List Nat->Tr V->Option (Tr V)
 | [],t=>some t
 |m::r,t=>match fr.get m with
  |none=>zQ ν fr r t
  |some v=>match v.WQ ν with
   |some v2=>match Nat.blt m fI with
    |true=>zQ ν fr r (t.set m (some v2))
    |false=>none
   |none=>none
def rS(fr:Tr V):List Nat->List Nat
 | []=>[]
 |t::r=>match fr.get t with
  |some v=>v.names (rS fr r)
  |none=>rS fr r
def acX(back:Tr Nat)(k:Nat):Bool:=jL.all fun p=>Nat.blt p.2 k&&match back.get p.2 with
 |some o=>Nat.beq o p.2
 |none=>false
def norm(live:List Nat)(s:St):Option St:=
 match s.gu with
 | []=>match YE s.h 100000 (rS s.fr live) .nil [] 0 with
   |some (ρ,pJ,k)=>
    let ν:=dJ ρ (xq pJ k .nil) k
    match acX (xq pJ k .nil) k with
    |false=>none
    |true=>match J2 ν s.h pJ .nil with
    |some h2=>match zQ ν s.fr live .nil with
     |some xn=>some { fr:=xn,h:=h2,n:=k,gu:=[] }
     |none=>none
    |none=>none
   |none=>none
 |_=>none
section
variable(ν:Nat->Option Nat)
mutual
def V.rn:V->Option V
 | .ptr (some (m,o))=>match ν m with
   |some k=>some (.ptr (some (k,o)))
   |none=>none
 | .di (some (m,o)) l c e=>match ν m with
   |some k=>some (.di (some (k,o)) l c e)
   |none=>none
 | .map (some m)=>match ν m with
   |some k=>some (.map (some k))
   |none=>none
 | .fn f a c=>match V.DJ a with
   |some a=>match V.DJ c with
    |some c=>match f with
     | .yield m=>match ν m with
       |some k=>some (.fn (.yield k) a c)
       |none=>none
     |f=>some (.fn f a c)
    |none=>none
   |none=>none
 | .iface t x=>match V.rn x with
   |some x=>some (.iface t x)
   |none=>none
 | .agg cs=>match V.DJ cs with
   |some cs=>some (.agg cs)
   |none=>none
 | .eo cs=>match V.DJ cs with
   |some cs=>some (.eo cs)
   |none=>none
 | .bool b=>some (.bool b)
 | .int k n=>some (.int k n)
 | .str s=>some (.str s)
 | .ptr none=>some (.ptr none)
 | .di none l c e=>some (.di none l c e)
 | .map none=>some (.map none)
 | .kA=>some .kA
 | .nilIface=>some .nilIface
 | .dL f n cs=>some (.dL f n cs)
 | .dm cs=>some (.dm cs)
def V.DJ:ag->Option (ag)
 | []=>some []
 |x::xs=>match V.rn x with
  |some x=>match V.DJ xs with
   |some xs=>some (x::xs)
   |none=>none
  |none=>none
end
def PN:List (V×V×Nat)->Option (List (V×V×Nat))
 | []=>some []
 |x::xs=>match V.rn ν x.1 with
  |some k=>match V.rn ν x.2.1 with
   |some v=>match PN xs with
    |some xs=>some ((k,v,x.2.2)::xs)
    |none=>none
   |none=>none
  |none=>none
def Cs(m:Nat):Bool:=match ν m with
 |some k=>Nat.beq m k
 |none=>false
mutual
def V.still:V->Bool
 | .ptr (some (m,_))=>Cs ν m
 | .di (some (m,_)) _ _ _=>Cs ν m
 | .map (some m)=>Cs ν m
 | .fn f a c=>(match f with | .yield m=>Cs ν m|_=>true)&&(V.xu a&&V.xu c)
 | .iface _ x=>V.still x
 | .agg cs=>V.xu cs
 | .eo cs=>V.xu cs
 |_=>true
def V.xu:ag->Bool
 | []=>true
 |x::xs=>V.still x&&V.xu xs
end
def yH:Tr V->Bool
 | .nil=>true
 | .node v l r=>(match v with|some v=>V.still ν v|none=>true)&&(yH l&&yH r)
def O.rn:O->Option O
 | .cells cs=>match V.DJ ν cs with
   |some cs=>some (.cells cs)
   |none=>none
 | .map es c=>match PN ν es with
   |some es=>some (.map es c)
   |none=>none
 | .nA s p=>some (.nA s p)
 | .ints k ks=>some (.ints k ks)
 | .own k ks=>some (.own k ks)
 | .deep cs=>some (.deep cs)
 | .iS e f s=>some (.iS e f s)
 | .A3 t s x=>match V.rn ν x with
   |some x=>some (.A3 t s x)
   |none=>none
 | .dD k es=>some (.dD k es)
 | .me=>some .me
 | .loop st pe fr ps a b=>match yH ν fr with
   |true=>some (.loop st pe fr ps a b)
   |false=>none
end
mutual
theorem tf{ν:Nat->Option Nat}{E E':Env}(iV:∀m k,ν m=some k->E'.ι k=E.ι m)(oM:∀m k b s,ν m=some k->E.ι m=some (b,s)->E'.β b=E.β b)(kQ:∀b c,E.φ b=some c->E'.φ b=some c):∀(v v2:V) (v':Value),v.rn ν=some v2->dz E v v'->dz E' v2 v'
 | .bool _,v2,_,h,r=>by simp only[V.rn,an]at h;subst h;exact r
 | .int _ _,v2,_,h,r=>by simp only[V.rn,an]at h;subst h;exact r
 | .str _,v2,_,h,r=>by simp only[V.rn,an]at h;subst h;exact r
 | .ptr none,v2,_,h,r=>by simp only[V.rn,an]at h;subst h;exact r
 | .ptr (some (m,o)),v2,_,h,⟨b,s,e,q⟩=>by
   simp only[V.rn]at h;split at h
   . rename_i k hk;obtain rfl:=ek h;exact⟨b,s,(iV m k hk).trans e,q⟩
   . cases h
 | .di none _ _ _,v2,_,h,r=>by simp only[V.rn,an]at h;subst h;exact r
 | .di (some (m,o)) _ _ _,v2,_,h,⟨b,s,o',fZ,e,q1,q2,q3,q4,q5⟩=>by
   simp only[V.rn]at h;split at h
   . rename_i k hk;obtain rfl:=ek h;exact⟨b,s,o',fZ,(iV m k hk).trans e,q1,q2,q3,by rw[oM m k b s hk e];exact q4,q5⟩
   . cases h
 | .map none,v2,_,h,r=>by simp only[V.rn,an]at h;subst h;exact r
 | .map (some m),v2,_,h,⟨b,e,q⟩=>by
   simp only[V.rn]at h;split at h
   . rename_i k hk;obtain rfl:=ek h;exact⟨b,(iV m k hk).trans e,q⟩
   . cases h
 | .fn f a c,v2,_,h,⟨f',a',c',rf,ra,rc,q⟩=>by
   simp only[V.rn]at h;split at h
   . rename_i a2 ha;split at h
     . rename_i c2 hc;have ra2:=tg iV oM kQ a a2 a' ha ra;have rc2:=tg iV oM kQ c c2 c' hc rc;split at h
       . rename_i m;split at h
         . rename_i k hk;obtain rfl:=ek h;obtain⟨l,s,e,q2⟩:=rf;exact⟨f',a',c',⟨l,s,(iV m k hk).trans e,q2⟩,ra2,rc2,q⟩
         . cases h
       . obtain rfl:=ek h;refine⟨f',a',c',?_,ra2,rc2,q⟩;cases f<;>first|exact rf|(rename_i fL;exact(fL _ rfl).elim)
     . cases h
   . cases h
 | .kA,v2,_,h,r=>by simp only[V.rn,an]at h;subst h;exact r
 | .iface t x,v2,_,h,⟨x',r,q⟩=>by
   simp only[V.rn]at h;split at h
   . rename_i x2 hx;obtain rfl:=ek h;exact⟨x',tf iV oM kQ x x2 x' hx r,q⟩
   . cases h
 | .nilIface,v2,_,h,r=>by simp only[V.rn,an]at h;subst h;exact r
 | .agg cs,v2,_,h,⟨cs',r,q⟩=>by
   simp only[V.rn]at h;split at h
   . rename_i x2 hx;obtain rfl:=ek h;exact⟨cs',tg iV oM kQ cs x2 cs' hx r,q⟩
   . cases h
 | .eo cs,v2,_,h,⟨cs',r,q⟩=>by
   simp only[V.rn]at h;split at h
   . rename_i x2 hx;obtain rfl:=ek h;exact⟨cs',tg iV oM kQ cs x2 cs' hx r,q⟩
   . cases h
 | .dL f n cs,v2,_,h,r=>by
   simp only[V.rn,an]at h;subst h;exact⟨kF kQ _ _ r.1,r.2⟩
 | .dm cs,v2,_,h,⟨b,o,c,vs,e,e1,r,q⟩=>by
   simp only[V.rn,an]at h;subst h;exact⟨b,o,c,vs,e,kQ _ _ e1,iP kQ _ _ r,q⟩
theorem tg{ν:Nat->Option Nat}{E E':Env}(iV:∀m k,ν m=some k->E'.ι k=E.ι m)(oM:∀m k b s,ν m=some k->E.ι m=some (b,s)->E'.β b=E.β b)(kQ:∀b c,E.φ b=some c->E'.φ b=some c):∀(v v2:ag) (v':List Value),V.DJ ν v=some v2->dG E v v'->dG E' v2 v'
 | [],v2,_,h,r=>by simp only[V.DJ,an]at h;subst h;exact r
 |x::xs,v2,_,h,⟨y,ys,r,rs,q⟩=>by
  simp only[V.DJ]at h;split at h
  . rename_i x2 hx;split at h
    . rename_i Nw B3;obtain rfl:=ek h;exact⟨y,ys,tf iV oM kQ x x2 y hx r,tg iV oM kQ xs Nw ys B3 rs,q⟩
    . cases h
  . cases h
end
section
variable{ν:Nat->Option Nat}{E E':Env}(iV:∀m k,ν m=some k->E'.ι k=E.ι m)(oM:∀m k b s,ν m=some k->E.ι m=some (b,s)->E'.β b=E.β b)(kQ:∀b c,E.φ b=some c->E'.φ b=some c)
include iV oM kQ
theorem HT:∀(es tP:List (V×V×Nat)) (l:List MapEntry),PN ν es=some tP->kC E es l->kC E' tP l
 | [],tP,_,h,r=>by simp only[PN,an]at h;subst h;exact r
 |x::xs,tP,_,h,⟨y,ys,r1,r2,r3,rs,q⟩=>by
  simp only[PN]at h;split at h
  . rename_i k hk;split at h
    . rename_i v hv;split at h
      . rename_i Nw B3;obtain rfl:=ek h;exact⟨y,ys,tf iV oM kQ _ _ _ hk r1,tf iV oM kQ _ _ _ hv r2,r3,HT _ _ _ B3 rs,q⟩
      . cases h
    . cases h
  . cases h
end
theorem nX{ν:Nat->Option Nat}{m:Nat}(h:Cs ν m=true):ν m=some m:=by
 unfold Cs at h;split at h
 . rename_i k hk;rw[hk,aD h]
 . cases h
theorem uV{ν:Nat->Option Nat}:∀(t:Tr V),yH ν t=true->∀k v,t.get k=some v->v.still ν=true
 | .nil,_,k,v,h=>by simp[Tr.get]at h
 | .node x l r,hs,k,v,h=>by
   simp only[yH,aC]at hs;simp only[Tr.get]at h;split at h
   . subst h;exact hs.1
   . rename_i k;split at h
     . exact uV l hs.2.1 _ v h
     . exact uV r hs.2.2 _ v h
mutual
theorem zR{ν:Nat->Option Nat}{E E':Env}(iV:∀m k,ν m=some k->E'.ι k=E.ι m)(oM:∀m k b s,ν m=some k->E.ι m=some (b,s)->E'.β b=E.β b)(kQ:∀b c,E.φ b=some c->E'.φ b=some c):∀(v:V) (v':Value),v.still ν=true->dz E v v'->dz E' v v'
 | .bool _,_,_,r=>r
 | .int _ _,_,_,r=>r
 | .str _,_,_,r=>r
 | .ptr none,_,_,r=>r
 | .ptr (some (m,o)),_,h,⟨b,s,e,q⟩=>⟨b,s,(iV m m (nX h)).trans e,q⟩
 | .di none _ _ _,_,_,r=>r
 | .di (some (m,o)) _ _ _,_,h,⟨b,s,o',fZ,e,q1,q2,q3,q4,q5⟩=>⟨b,s,o',fZ,(iV m m (nX h)).trans e,q1,q2,q3,by rw[oM m m b s (nX h) e];exact q4,q5⟩
 | .map none,_,_,r=>r
 | .map (some m),_,h,⟨b,e,q⟩=>⟨b,(iV m m (nX h)).trans e,q⟩
 | .fn f a c,_,h,⟨f',a',c',rf,ra,rc,q⟩=>by
   simp only[V.still,aC]at h;refine⟨f',a',c',?_,qt iV oM kQ a a' h.2.1 ra,qt iV oM kQ c c' h.2.2 rc,q⟩;cases f with
   |yield m=>obtain⟨l,s,e,q2⟩:=rf;exact⟨l,s,(iV m m (nX h.1)).trans e,q2⟩
   |_=>exact rf
 | .kA,_,_,r=>r
 | .iface _ x,_,h,⟨x',r,q⟩=>⟨x',zR iV oM kQ x x' (by simpa only[V.still]using h) r,q⟩
 | .nilIface,_,_,r=>r
 | .agg cs,_,h,⟨cs',r,q⟩=>⟨cs',qt iV oM kQ cs cs' (by simpa only[V.still]using h) r,q⟩
 | .eo cs,_,h,⟨cs',r,q⟩=>⟨cs',qt iV oM kQ cs cs' (by simpa only[V.still]using h) r,q⟩
 | .dL _ _ _,_,_,r=>⟨kF kQ _ _ r.1,r.2⟩
 | .dm cs,_,_,⟨b,o,c,vs,e,e1,r,q⟩=>⟨b,o,c,vs,e,kQ _ _ e1,iP kQ _ _ r,q⟩
theorem qt{ν:Nat->Option Nat}{E E':Env}(iV:∀m k,ν m=some k->E'.ι k=E.ι m)(oM:∀m k b s,ν m=some k->E.ι m=some (b,s)->E'.β b=E.β b)(kQ:∀b c,E.φ b=some c->E'.φ b=some c):∀(v:ag) (v':List Value),V.xu ν v=true->dG E v v'->dG E' v v'
 | [],_,_,r=>r
 |x::xs,_,h,⟨y,ys,r,rs,q⟩=>by
  simp only[V.xu,aC]at h;exact⟨y,ys,zR iV oM kQ x y h.1 r,qt iV oM kQ xs ys h.2 rs,q⟩
end
section
variable{ν:Nat->Option Nat}{E E':Env}(iV:∀m k,ν m=some k->E'.ι k=E.ι m)(oM:∀m k b s,ν m=some k->E.ι m=some (b,s)->E'.β b=E.β b)(kQ:∀b c,E.φ b=some c->E'.φ b=some c)
include iV oM kQ
theorem Bo{w:World}{b s:Nat}(hb:E'.β b=E.β b):∀(o o2:O),o.rn ν=some o2->lO E w b s o->lO E' w b s o2
 | .cells cs,o2,h,⟨c,el,fz,h1,h2,h3,h4⟩=>by
   simp only[O.rn]at h;split at h
   . rename_i uW oQ;obtain rfl:=ek h;refine⟨c,el,fz,h1,by rw[hb];exact h2,h3,?_⟩;have:∀(cs uW:ag),V.DJ ν cs=some uW->∀(s:Nat),lY E s cs c->lY E' s uW c:=by
      intro cs
      induction cs with
      |nil=>intro uW h s r;simp only[V.DJ,an]at h;subst h;intro i v e;simp at e
      |cons x xs ih=>
       intro uW h s r;simp only[V.DJ]at h;split at h
       . rename_i x2 hx;split at h
         . rename_i Nw B3;obtain rfl:=ek h;intro i v e;cases i with
           |zero=>
            simp only[bF,an]at e;subst e;obtain⟨v',k1,k2⟩:=r 0 x (by simp);exact⟨v',k1,tf iV oM kQ _ _ _ hx k2⟩
           |succ i=>
            simp only[cu]at e;obtain⟨v',k1,k2⟩:=ih Nw B3 (s+1) (fun j v e=>by
             obtain⟨v',k1,k2⟩:=r (j+1) v (by simpa using e);exact⟨v',by rw[<- k1];congr 1;omega,k2⟩) i v e
            exact⟨v',by rw[<- k1];congr 1;omega,k2⟩
         . cases h
       . cases h
     exact this cs uW oQ s h4
   . cases h
 | .map es cl,o2,h,⟨hs,fQ,h1,h2⟩=>by
   simp only[O.rn]at h;split at h
   . rename_i tP S3;obtain rfl:=ek h;exact⟨hs,fQ,h1,HT iV oM kQ _ _ _ S3 h2⟩
   . cases h
 | .nA st p,o2,h,r=>by simp only[O.rn,an]at h;subst h;exact r
 | .ints k ks,o2,h,⟨c,el,fz,h1,h2,h3⟩=>by simp only[O.rn,an]at h;subst h;exact⟨c,el,fz,h1,by rw[hb];exact h2,h3⟩
 | .own k ks,o2,h,⟨c,el,fz,h1,h2,h3,h4⟩=>by simp only[O.rn,an]at h;subst h;exact⟨c,el,fz,h1,by rw[hb];exact h2,h3,wE h4⟩
 | .deep cs,o2,h,⟨c,el,fz,vs,h1,h2,h3,h4,h5⟩=>by simp only[O.rn,an]at h;subst h;exact⟨c,el,fz,vs,h1,by rw[hb];exact h2,h3,iP kQ _ _ h4,h5⟩
 | .iS el As t,o2,h,⟨c,fz,xs,h1,h0,h2,h3⟩=>by simp only[O.rn,an]at h;subst h;exact⟨c,fz,xs,h1,h0,by rw[hb];exact h2,h3⟩
 | .A3 t self x,o2,h,⟨hs,x',fz,h1,h2,h3,h4⟩=>by
   simp only[O.rn]at h;split at h
   . rename_i x2 hx;obtain rfl:=ek h;exact⟨hs,x',fz,h1,by rw[hb];exact h2,h3,tf iV oM kQ _ _ _ hx h4⟩
   . cases h
 | .dD kk es,o2,h,⟨hs,fQ,cl,h1,h2⟩=>by simp only[O.rn,an]at h;subst h;exact⟨hs,fQ,cl,h1,h2.mono kQ⟩
 | .me,o2,h,r=>by simp only[O.rn,an]at h;subst h;exact r
 | .loop st pe fr ps a b',o2,h,⟨r,h1,h2,h3,h4,h5,h6,h7,h8⟩=>by
   simp only[O.rn]at h;split at h
   . rename_i hs;obtain rfl:=ek h;exact⟨r,h1,h2,h3,h4,h5,h6,fun t v e=>let⟨v',k1,k2⟩:=h7 t v e;⟨v',k1,zR iV oM kQ v v' (uV fr hs t v e) k2⟩,h8⟩
   . cases h
end
theorem AK{ν:Nat->Option Nat}{o o2:O}(h:o.rn ν=some o2):o2.wr=o.wr:=by
 cases o<;>simp only[O.rn]at h<;>(try split at h)<;>first|(obtain rfl:=ek h;rfl)|cases h
def F3:Tr V->List Nat->List Nat
 | .nil,l=>l
 | .node v a b,l=>(match v with|some v=>V.names v|none=>id) (F3 a (F3 b l))
def O.nms:O->List Nat
 | .loop _ _ fr _ _ _=>F3 fr []
 |o=>o.names
def LK(h:Tr O):Nat->List Nat->Tr Nat->List Nat->Nat->Option (Tr Nat×List Nat×Nat)
 |0,_,_,_,_=>none
 |_+1,[],ρ,pJ,k=>some (ρ,pJ,k)
 |f+1,m::q,ρ,pJ,k=>match ρ.get m with
  |some _=>LK h f q ρ pJ k
  |none=>LK h f ((match h.get m with|some o=>o.nms|none=>[])++q) (ρ.set m (some k)) (m::pJ) (k+1)
def YF:Nat->Tr Nat
 |0=>.nil
 |k+1=>(YF k).set k (some k)
def J3:Nat->List Nat
 |0=>[]
 |k+1=>k::J3 k
def Ct(h:Tr O):Nat->List Nat->List Nat
 |0,l=>l
 |k+1,l=>(match h.get k with|some o=>o.nms|none=>[])++Ct h k l
def Bp(ν:Nat->Option Nat):Nat->Bool
 |0=>true
 |k+1=>Cs ν k&&Bp ν k
theorem yI{ν:Nat->Option Nat}:∀{k:Nat},Bp ν k=true->∀m,m<k->ν m=some m
 |0,_,m,hm=>by omega
 |k+1,h,m,hm=>by
  simp only[Bp,aC]at h;by_cases e:m=k
  . subst e;exact nX h.1
  . exact yI h.2 m be
def Cu(ν:Nat->Option Nat)(h:Tr O):List Nat->Tr O->Option (Tr O)
 | [],t=>some t
 |m::r,t=>match h.get m with
  |none=>Cu ν h r t
  |some o=>match ν m with
   |some k=>match o.rn ν with
    |some o2=>match Nat.blt k fI with
     |true=>Cu ν h r (t.set k (some o2))
     |false=>none
    |none=>none
   |none=>none
theorem th{ν:Nat->Option Nat}{h:Tr O}:∀(l:List Nat) (t t2:Tr O),Cu ν h l t=some t2->(∀k o2,t.get k=some o2->∃m o,ν m=some k/\h.get m=some o/\o.rn ν=some o2)->
  ∀k o2,t2.get k=some o2->∃m o,ν m=some k/\h.get m=some o/\o.rn ν=some o2
 | [],t,t2,e,ht=>by simp only[Cu,an]at e;subst e;exact ht
 |m::r,t,t2,e,ht=>by
  simp only[Cu]at e;split at e
  . exact th r t t2 e ht
  . rename_i o ho;split at e
    . rename_i k hk;split at e
      . rename_i o2 TH;split at e
        . rename_i fE;refine th r _ t2 e fun j o3 h3=>?_;rw[Tr.eO _ _ _ (by simp[Nat.blt]at fE;omega)]at h3;split at h3
          . rename_i hj;obtain rfl:=ek h3;subst hj;exact⟨m,o,hk,ho,TH⟩
          . exact ht j o3 h3
        . cases e
      . cases e
    . cases e
def xw(ν:Nat->Option Nat)(fr:Tr V):List Nat->Tr V->Option (Tr V)
 | [],t=>some t
 |m::r,t=>match fr.get m with
  |none=>xw ν fr r t
  |some v=>match v.rn ν with
   |some v2=>match Nat.blt m fI with
    |true=>xw ν fr r (t.set m (some v2))
    |false=>none
   |none=>none
theorem qR{ν:Nat->Option Nat}{fr:Tr V}:∀(l:List Nat) (t t2:Tr V),xw ν fr l t=some t2->(∀k v2,t.get k=some v2->∃v,fr.get k=some v/\v.rn ν=some v2)->
  ∀k v2,t2.get k=some v2->∃v,fr.get k=some v/\v.rn ν=some v2
 | [],t,t2,e,ht=>by simp only[xw,an]at e;subst e;exact ht
 |m::r,t,t2,e,ht=>by
  simp only[xw]at e;split at e
  . exact qR r t t2 e ht
  . rename_i v hv;split at e
    . rename_i v2 hv2;split at e
      . rename_i fE;refine qR r _ t2 e fun j o3 h3=>?_;rw[Tr.eO _ _ _ (by simp[Nat.blt]at fE;omega)]at h3;split at h3
        . rename_i hj;obtain rfl:=ek h3;subst hj;exact⟨v,hv,hv2⟩
        . exact ht j o3 h3
      . cases e
    . cases e
def Nx(ν:Nat->Option Nat):List (FuncId×ag×ag)->Option (List (FuncId×ag×ag))
 | []=>some []
 |(f,[],[.map (some m)])::r=>match Nat.beq f fI with
  |true=>match ν m with
   |some k=>match Nx ν r with
    |some r=>some ((fI,[],[.map (some k)])::r)
    |none=>none
   |none=>none
  |false=>none
 |_::_=>none
def Cv:List (FuncId×ag×ag)->List Nat->List Nat
 |(_,_,[.map (some m)])::r,l=>m::Cv r l
 |_,l=>l
theorem Cw{ν:Nat->Option Nat}{E E':Env}(iV:∀m k,ν m=some k->E'.ι k=E.ι m):∀(l l2:List (FuncId×ag×ag)) (ds:List Deferred),Nx ν l=some l2->wI E l ds->wI E' l2 ds
 | [],l2,ds,e,r=>by simp only[Nx,an]at e;subst e;exact r
 |(f,c,args)::r,l2,ds,e,h=>by
  unfold Nx at e;split at e
  . rename_i J4;cases J4
  . rename_i f' m r' J4;cases J4;split at e
    . rename_i hf;have hf:=aD hf;subst hf;split at e
      . rename_i k hk;split at e
        . rename_i r2 hr;obtain rfl:=ek e;obtain⟨d,ys,r1,r2',q⟩:=h;refine⟨d,ys,?_,Cw iV _ _ _ hr r2',q⟩;rcases r1 with⟨fE,_⟩|⟨_,m',b,s,q1,q2,q3⟩
          . exact absurd fE (cE _)
          . simp only[List.cons.injEq,V.map.injEq,an,and_true]at q1;subst q1;exact .inr ⟨rfl,k,b,s,rfl,(iV _ k hk).trans q2,q3⟩
        . cases e
      . cases e
    . cases e
  . cases e
def eU(n0:Nat)(live:List Nat)(s:St):Option St:=
 match Nat.ble n0 s.n with
 |false=>none
 |true=>match LK s.h 100000 (Ct s.h n0 (rS s.fr live++Cv s.gu [])) (YF n0) (J3 n0) n0 with
  |some (ρ,pJ,k)=>
   let ν:=dJ ρ (xq pJ k .nil) k
   match(Bp ν n0&&Nat.ble n0 k)&&Nat.ble gN n0 with
   |true=>match Cu ν s.h pJ .nil with
    |some h2=>match xw ν s.fr live .nil with
     |some xn=>match Nx ν s.gu with
      |some d2=>some { fr:=xn,h:=h2,n:=k,gu:=d2 }
      |none=>none
     |none=>none
    |none=>none
   |false=>none
  |none=>none
structure lp(n0:Nat)(E:Env)(h:Tr O)(w:World)(E':Env)(h':Tr O)(w':World):Prop where
 le:∀m b s,m<n0->E.ι m=some (b,s)->E'.ι m=some (b,s)/\E'.β b=E.β b
 low:∀m,m<n0->E'.ι m=E.ι m
 fz:∀b c,E.φ b=some c->E'.φ b=some c
 good:Good E' h' w'
 size:w.heap.size<=w'.heap.size
 tape:w'.tape=w.tape
 os:w'.os=w.os
 output:w'.output=w.output
 keep:∀b,b<w.heap.size->(∀m s,ew h m->E.ι m≠some (b,s))->w'.heap[b]? =w.heap[b]?
 sO:∀m b s,h'.get m≠none->E'.ι m=some (b,s)->b<w.heap.size->∃m0 s0,h.get m0≠none/\E.ι m0=some (b,s0)/\(ew h' m->ew h m0)
 DF:∀b c,E'.φ b=some c->E.φ b=some c\/w.heap.size<=b\/∃m s,ew h m/\E.ι m=some (b,s)
theorem lp.of{n0 n:Nat}{E E':Env}{h h':Tr O}{w w':World}(u:ij E h w E' h' w')(fF:∀m,m<n->E'.ι m=E.ι m)(hn:n0<=n):lp n0 E h w E' h' w':=
 ⟨fun m b s _ e=>u.le.nm m b s e,fun m hm=>fF m be,u.le.fz,u.good,u.size,u.tape,u.os,u.output,u.keep,u.sO,u.DF⟩
theorem lp.trans{n0:Nat}{E E1 E2:Env}{h h1 h2:Tr O}{w w1 w2:World}(a:lp n0 E h w E1 h1 w1)(b:lp n0 E1 h1 w1 E2 h2 w2):lp n0 E h w E2 h2 w2 where
 le:=fun m x s hm e=>by
  obtain⟨e1,b1⟩:=a.le m x s hm e;obtain⟨e2,b2⟩:=b.le m x s hm e1;exact⟨e2,b2.trans b1⟩
 low:=fun m hm=>(b.low m hm).trans (a.low m hm)
 fz:=fun x c e=>b.fz x c (a.fz x c e)
 good:=b.good
 size:=bU a.size b.size
 tape:=b.tape.trans a.tape
 os:=b.os.trans a.os
 output:=b.output.trans a.output
 keep:=fun x hx hn=>by
  rw[b.keep x (bD hx a.size) ?_,a.keep x hx hn];intro m s hm e;obtain⟨m0,s0,_,e0,k0⟩:=a.sO m x s hm.live e hx;exact hn m0 s0 (k0 hm) e0
 sO:=fun m x s hm e hx=>by
  obtain⟨m1,s1,k1,e1,l1⟩:=b.sO m x s hm e (bD hx a.size);obtain⟨m0,s0,k0,e0,l0⟩:=a.sO m1 x s1 k1 e1 hx;exact⟨m0,s0,k0,e0,fun q=>l0 (l1 q)⟩
 DF:=fun x c hc=>by
  rcases b.DF x c hc with q|q|⟨m,s,q1,q2⟩
  . exact a.DF x c q
  . exact .inr (.inl (bU a.size q))
  . rcases bN x w.heap.size with hx|hx
    . obtain⟨m0,s0,_,e0,k0⟩:=a.sO m x s q1.live q2 hx;exact .inr (.inr ⟨m0,s0,k0 q1,e0⟩)
    . exact .inr (.inl hx)
theorem lp.refl{n0:Nat}{E:Env}{h:Tr O}{w:World}(g:Good E h w):lp n0 E h w E h w:=
 .of (n:=n0) (ij.refl g) (fun _ _=>rfl) (aA _)
theorem lp.qi{n0:Nat}{E E':Env}{h h':Tr O}{w w':World}(u:lp n0 E h w E' h' w')(hd:qH E n0):ij E h w E' h' w':=
 ⟨⟨fun m b s e=>u.le m b s (by
  by_cases q:m<n0
  . exact q
  . rw[hd m (Nat.le_of_not_lt q)]at e;cases e) e,u.fz⟩,u.good,u.size,u.tape,u.os,u.output,u.keep,u.sO,u.DF⟩
theorem qT{n0 N:Nat}{live:List Nat}{s s2:St}{E:Env}{a:Act}{w:World}(e:eU n0 live s=some s2)(r:jS E N s a w):n0<=s.n/\n0<=s2.n/\∃E2,jS E2 N s2 a w/\lp n0 E s.h w E2 s2.h w:=by
 unfold eU at e;split at e
 . cases e
 rename_i hn;split at e
 case h_2=>cases e
 rename_i ρ pJ k ht;revert e;generalize acY:xq pJ k .nil=back;intro e;simp only at e;split at e
 case h_2=>cases e
 rename_i fF;simp only[aC]at fF;split at e
 case h_2=>cases e
 rename_i h2 hh;split at e
 case h_2=>cases e
 rename_i xn xV;split at e
 case h_2=>cases e
 rename_i d2 FY;simp only[an]at e;subst e
 let E2:Env:=⟨fun m=>if m<k then(match back.get m with|some old=>E.ι old|none=>none)else none,E.β,E.φ⟩
 have iV:∀m j,dJ ρ back k m=some j->E2.ι j=E.ι m:=by
  intro m j hj;obtain⟨_,h2,h3⟩:=AJ hj;show(if j<k then(match back.get j with|some old=>E.ι old|none=>none)else none)=_;rw[aG h3,h2]
 have yp:∀m,m<n0->E2.ι m=E.ι m:=fun m hm=>iV m m (yI fF.1.1 m hm);have Np:=th pJ .nil h2 hh (fun j o hj=>by simp[Tr.get]at hj);have qp:Good E2 h2 w:=by
  refine⟨?_,?_,?_,fun p hp=>(yp _ (bD (Bn hp) (au fF.2))).trans (r.good.jf p hp),fun b c q=>⟨(r.good.gI b c q).1,fun m s1 hm e1=>?_⟩⟩
  case refine_4=>
   obtain⟨o,ho,YG⟩:=hm;obtain⟨old,p,k1,k2,k3⟩:=Np m o ho;rw[iV old m k1]at e1;exact(r.good.gI b c q).2 old s1 ⟨p,k2,(AK k3).symm.trans YG⟩ e1
  . intro m o2 hm;obtain⟨old,o,k1,k2,k3⟩:=Np m o2 hm;obtain⟨b,s',e1,e2⟩:=r.good.rel old o k2;exact⟨b,s',(iV old m k1).trans e1,Bo iV (fun _ _ _ _ _ _=>rfl) (fun _ _ q=>q) rfl o o2 k3 e2⟩
  . intro m m' b s1 s2 fL hm sP e1 e2;obtain⟨o,ho,YG⟩:=hm;obtain⟨o',DS⟩:=bf.1 sP;obtain⟨old,p,k1,k2,k3⟩:=Np m o ho;obtain⟨A9,p',TQ,k2',_⟩:=Np m' o' DS;rw[iV old m k1]at e1;rw[iV A9 m' TQ]at e2;by_cases oy:old=A9
    . subst oy;rw[k1]at TQ;simp only[an]at TQ;exact fL TQ
    . exact r.good.inj old A9 b s1 s2 oy ⟨p,k2,(AK k3).symm.trans YG⟩ (by rw[k2'];simp) e1 e2
  . intro m b s1 e1;have e1:(if m<k then(match back.get m with|some old=>E.ι old|none=>none)else none)=some (b,s1):=e1;split at e1
    . split at e1
      . exact r.good.mO _ b s1 e1
      . cases e1
    . cases e1
 refine⟨au hn,au fF.1.2,E2,⟨qp,?_,?_,r.size,?_⟩,?_⟩
 . intro m hm;show(if m<k then _ else none)=none;rw[aI (by show ¬m<k;have:k<=m:=hm;omega)]
 . intro t v2 hv;obtain⟨v,k1,k2⟩:=qR live .nil xn xV (fun j o hj=>by simp[Tr.get]at hj) t v2 hv;obtain⟨v',h1,h2⟩:=r.fr t v k1;exact⟨v',h1,tf iV (fun _ _ _ _ _ _=>rfl) (fun _ _ q=>q) v v2 v' k2 h2⟩
 . exact Cw iV _ _ _ FY r.gu
 . refine⟨fun m b s1 hm e1=>⟨(yp m hm).trans e1,rfl⟩,yp,fun _ _ q=>q,qp,aA _,rfl,rfl,rfl,fun _ _ _=>rfl,?_,fun _ _ q=>.inl q⟩;intro m b s1 hm e1 hb;obtain⟨o,ho⟩:=bf.1 hm;obtain⟨old,p,k1,k2,k3⟩:=Np m o ho;rw[iV old m k1]at e1;refine⟨old,s1,by rw[k2];simp,e1,fun⟨o',q1,q2⟩=>⟨p,k2,?_⟩⟩;rw[ho]at q1;cases q1;exact(AK k3).symm.trans q2
def LL:Code->Bool | .seq _ _=>true|_=>false
def dO:Code->Code | .seq a _=>a|c=>c
def dY:Code->Code | .seq _ b=>b|c=>c
def PO(c:Code)(o:Operand->Bool):Bool:=match c with | .cond x _ _=>o x|_=>false
def WS:Code->Operand | .cond c _ _=>c|_=>.const (.bool true)
def LM:Code->Code | .cond _ a _=>a|c=>c
def WT:Code->Code | .cond _ _ b=>b|c=>c
def Bq:Code->Nat->Bool | .block i _,j=>Nat.beq i j|_,_=>false
def Cx:Code->Bool | .loop _=>true|_=>false
def dr:Code->Code | .block _ c=>c | .loop c=>c|c=>c
def eR:Nat->Code->Code
 |k+1,.seq a b=>.seq a (eR k b)
 |_,_=>.skip
def dh:Nat->Code->Code
 |k+1,.seq _ b=>dh k b
 |_,c=>c
def T(P:Program)(N:Nat)(w0:World)(c:Code)(s:St)(Q:Exit->St->Prop):Prop:=
 ∀(K:Exit->Act->World->Prop) (a:Act) (w:World),TP N w0 s a w->(∀y s' a' w',Q y s'->TP N w0 s' a' w'->K y a' w')->c.wp P K a w
section
variable{P:Program}{cf:fJ}{F N:Nat}{w0:World}{c:Code}{s s':St}{Q Q1:Exit->St->Prop}
def andThen(R:St->Prop)(Q:Exit->St->Prop):Exit->St->Prop
 | .normal,s=>R s
 |y,s=>Q y s
def mK(i:Nat)(Q:Exit->St->Prop):Exit->St->Prop
 | .exit j,s=>if j=i then Q .normal s else Q (.exit j) s
 |y,s=>Q y s
def ov:List (Nat×V)->Tr V->Tr V
 | [],t=>t
 |x::r,t=>(ov r t).set x.1 (some x.2)
def St.over(s:St)(l:List (Nat×V)):St:={ s with fr:=ov l s.fr }
def Tr.beq{α:Type}(eq:α->α->Bool):Tr α->Tr α->Bool
 | .nil,.nil=>true
 | .node a l r,.node b l' r'=>(match a,b with|none,none=>true|some a,some b=>eq a b|_,_=>false)&&(Tr.beq eq l l'&&Tr.beq eq r r')
 |_,_=>false
theorem Tr.beq_eq{α:Type}{eq:α->α->Bool}(h:∀a b,eq a b=true->a=b):∀(t u:Tr α),Tr.beq eq t u=true->t=u
 | .nil,.nil,_=>rfl
 | .nil,.node _ _ _,e=>by simp[Tr.beq]at e
 | .node _ _ _,.nil,e=>by simp[Tr.beq]at e
 | .node a l r,.node b l' r',e=>by
   simp only[Tr.beq,aC]at e;rw[Tr.beq_eq h l l' e.2.1,Tr.beq_eq h r r' e.2.2];cases a<;>cases b<;>first|rfl|(simp at e;done)|skip
   rw[h _ _ e.1]
def vS:List (V×V×Nat)->List (V×V×Nat)->Bool
 | [],[]=>true
 |x::xs,y::ys=>(V.beq x.1 y.1&&V.beq x.2.1 y.2.1)&&(Nat.beq x.2.2 y.2.2&&vS xs ys)
 |_,_=>false
theorem Cy:∀(a b:List (V×V×Nat)),vS a b=true->a=b
 | [],[],_=>rfl
 | [],_::_,h=>by simp[vS]at h
 |_::_,[],h=>by simp[vS]at h
 |(k,v,n)::xs,(k',v',n')::ys,h=>by
  simp only[vS,aC]at h;rw[beq_eq _ _ h.1.1,beq_eq _ _ h.1.2,aD h.2.1,Cy xs ys h.2.2]
def O.beq:O->O->Bool
 | .cells a,.cells b=>V.pA a b
 | .map a c,.map b d=>vS a b&&Nat.beq c d
 | .nA a p,.nA b q=>eE a b&&Nat.beq p q
 | .ints k a,.ints j b=>decide (k=j)&&decide (a=b)
 |_,_=>false
theorem O.beq_eq(a b:O)(h:O.beq a b=true):a=b:=by
 cases a<;>cases b<;>simp only[O.beq,aO,aC]at h
 . rw[tc _ _ h]
 . rw[Cy _ _ h.1,aD h.2]
 . rw[fT]at h;rw[eq_of_beq h.1,aD h.2]
 . rw[aH h.1,aH h.2]
def St.beq(a b:St):Bool:=Tr.beq V.beq a.fr b.fr&&(Tr.beq O.beq a.h b.h&&(Nat.beq a.n b.n&&(a.gu.isEmpty&&b.gu.isEmpty)))
theorem St.beq_eq{a b:St}(h:St.beq a b=true):a=b:=by
 simp only[St.beq,aC,List.isEmpty_iff]at h;obtain⟨h1,h2,h3,h4,h5⟩:=h;have e1:=Tr.beq_eq Go.Eng.beq_eq _ _ h1;have e2:=Tr.beq_eq O.beq_eq _ _ h2;have e3:=aD h3;cases a;cases b;simp_all
def St.cell(s:St)(m i:Nat)(v:V):St:=match s.h.get m with
 |some (.cells cs)=>match Nat.blt m fI with
  |true=>{ s with h:=s.h.set m (some (.cells (cs.set i v))) }
  |false=>s
 |_=>s
end
mutual
def V.qU:V->Bool
 | .fn (.func _) a c=>V.qu a&&V.qu c
 | .fn _ _ _=>false
 | .iface _ x=>V.qU x
 | .agg cs=>V.qu cs
 | .eo cs=>V.qu cs
 |_=>true
def V.qu:ag->Bool
 | []=>true
 |x::xs=>V.qU x&&V.qu xs
end
mutual
theorem V.beq_refl:∀v:V,v.qU=true->V.beq v v=true
 | .bool b,_=>by cases b<;>rfl
 | .int k n,_=>by simp[V.beq]
 | .str s,_=>by simp[V.beq,fT]
 | .ptr none,_=>rfl
 | .ptr (some (m,o)),_=>by simp[V.beq,qL]
 | .di none l c e,_=>by simp[V.beq,qL]
 | .di (some (m,o)) l c e,_=>by simp[V.beq,qL]
 | .map none,_=>rfl
 | .map (some m),_=>by simp[V.beq,FA]
 | .fn f a c,h=>by
   cases f<;>simp only[V.qU,aO,aC]at h;simp[V.beq,O2,V.rT a h.1,V.rT c h.2]
 | .kA,_=>rfl
 | .iface t x,h=>by simp only[V.qU]at h;simp[V.beq,V.beq_refl x h]
 | .nilIface,_=>rfl
 | .agg cs,h=>by simp only[V.qU]at h;simp[V.beq,V.rT cs h]
 | .eo cs,h=>by simp only[V.qU]at h;simp[V.beq,V.rT cs h]
 | .dL f n cs,_=>by simp[V.beq,ql cs]
 | .dm cs,_=>by simp[V.beq,ql cs]
theorem V.rT:∀vs:ag,V.qu vs=true->V.pA vs vs=true
 | [],_=>rfl
 |x::xs,h=>by simp only[V.qu,aC]at h;simp[V.pA,V.beq_refl x h.1,V.rT xs h.2]
end
inductive Ob where
 |same (a b:V)
 |call (f:FuncId) (args:ag) (v:V)
def Ob.ok(cf:fJ):Ob->Prop
 | .same a b=>a=b
 | .call f args v=>∀h n,cf f args h n=some (.ret v,h,n)
def ag6(f:FuncId)(cf:fJ):fJ:=fun g args h n=>match Nat.beq g f with
 |true=>none
 |false=>cf g args h n
end Go.Eng
