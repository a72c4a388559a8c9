/- The engine, part R: one operation of a statement that draws, in whatever order; the statement whole. No conditions: lemmas alone. -/
import Derived.Test.YtfihojpgobmmdaaGreatDoorJointW01
import Derived.OrdersIn
import Derived.Recover
import Derived.LoopN
import Derived.LoopNIn
import Derived.RangeFuncRecord
import Derived.RangeFuncIn
import Derived.RangeFuncLeaves
import Derived.Below
set_option linter.unusedVariables false
set_option linter.unusedSimpArgs false
set_option linter.unusedSectionVars false
namespace Go.Eng
open Go
section
variable{P:Program}{cf:fO}{ops:Array Oper}{n0 N lA:Nat}{h0:Tr O}{kg:Tr V}{val:Nat->V}{dz:List xy}{d:Dr}{E0:Env}{w0:World}{Bx:List Deferred}
variable{S:Nat->Bool}{ms J:Nat}{E:Env}{a:Act}{w:World}{Q:Exit->Act->World->Prop}{K:Act->World->Prop}
theorem Inv.Zi{cZ:af}(I:Inv ops n0 N lA h0 kg val dz cZ E0 w0 Bx S ms J E a w)(hl:lA<=ops.size):qL E (eD h0 (n0+ops.size) dz J).2.2:=by
 intro k hk;cases q:E.ι k with
 |none=>rfl
 |some p=>
  have hc:=I.yQ;rcases I.nZ k p q with h|⟨i,b,_,h2,h3⟩|h
  . omega
  . have:=I.Ur i h2;omega
  . omega
theorem Inv.sub(_hr:mP ops N)(hl:lA<=ops.size)(f:oC P cf ops n0 h0 kg val dz lA d)(ht:∀y∈d.cZ,n0+y.1<fN)(I:Inv ops n0 N lA h0 kg val dz d.cZ E0 w0 Bx S ms J E a w)
  {gY:Nat} (ha:∀k,ee gY k=true->S k=true):
  Sub (gL n0 d.cZ (eD h0 (n0+ops.size) dz J).1 (eD h0 (n0+ops.size) dz J).2.1 gY) (gL n0 d.cZ (eD h0 (n0+ops.size) dz J).1 (eD h0 (n0+ops.size) dz J).2.1 ms):=by
 intro k o hk;rcases jo (x:=(eD h0 (n0+ops.size) dz J).2.1) (m:=(eD h0 (n0+ops.size) dz J).1) (gY:=gY) ht f.one k with⟨i,b,h1,h2,h3,h4,h5⟩|⟨h1,h2⟩
 . rw[h5]at hk;cases hk;subst h4;exact jF ht f.one h1 (by rw[I.bits];exact ha i h2) h3
 . rw[h2]at hk;rcases jo (x:=(eD h0 (n0+ops.size) dz J).2.1) (m:=(eD h0 (n0+ops.size) dz J).1) (gY:=ms) ht f.one k with⟨i,b,g1,g2,g3,g4,g5⟩|⟨g1,g2⟩
   . subst g4;have hi:=I.Ur i (by rw[<- I.bits];exact g2);rw[I.free i be g3]at hk;cases hk
   . rw[g2];exact hk
theorem nl(hb:∀i,ee ms i=S i)(j:Nat):∀i,ee (ms|||2^j) i=(S i||decide (i=j)):=by
 intro i;rw[Aa,Cw,hb];by_cases q:i=j
 . subst q;simp
 . have:¬j=i:=fun e=>q e.symm;simp[q,this]
theorem Inv.quiet(hr:mP ops N)(_hl:lA<=ops.size)(_f:oC P cf ops n0 h0 kg val dz lA d)(I:Inv ops n0 N lA h0 kg val dz d.cZ E0 w0 Bx S ms J E a w)
  {j:Nat} {o:Oper} (ho:ops[j]? =some o) (hj:j<lA) (AV:S j=false) (hd:∀e∈o.after,Region.binds .any e=true->S e.on=true) (CA:∀(c:Nat) (e:xy),dz[c]? =some e->e.1≠j)
  {E':Env} {w':World} {v':Value} (hv:dF E' (val j) v') (hu:iy E0 h0 w0 E' (gL n0 d.cZ (eD h0 (n0+ops.size) dz J).1 (eD h0 (n0+ops.size) dz J).2.1 (ms|||2^j)) w') (kC:E.le E')
  (oA:∀k,k<n0->E'.ι k=E.ι k) (rX:∀k p,E'.ι k=some p->E.ι k=some p\/(∃b,(j,b)∈d.cZ/\k=n0+j)):
  Inv ops n0 N lA h0 kg val dz d.cZ E0 w0 Bx (fun i=>S i||decide (i=j)) (ms|||2^j) J E' (a.put o.dst v') w':=by
 obtain⟨g1,g2⟩:=I.frame hr ho kC hv;refine⟨nl I.bits j,fun i hi=>?_,fun i q hi hq e he hb=>?_,fun c e he=>?_,I.Jle,g1,g2,hu,fun k hk=>by rw[oA k hk];exact I.old k hk,fun k p hp=>?_,I.free,I.yQ,by rw[iF];exact I.size,by rw[gA];exact I.gz⟩
 . rcases bT _ _ |>.mp hi with h|h
   . exact I.Ur i h
   . simp at h;omega
 . rcases bT _ _ |>.mp hi with h|h
   . rw[I.closed i q h hq e he hb];rfl
   . simp at h;subst h;rw[ho]at hq;cases hq;rw[hd e he hb];rfl
 . rw[<- I.Gj c e he];simp[CA c e he]
 . rcases rX k p hp with h|⟨b,h1,h2⟩
   . rcases I.nZ k p h with h|⟨i,b,h1,h2,h3⟩|h
     . exact .inl h
     . exact .inr (.inl ⟨i,b,h1,by rw[h2];rfl,h3⟩)
     . exact .inr (.inr h)
   . exact .inr (.inl ⟨j,b,h1,by simp,h2⟩)
theorem Inv.adO(hr:mP ops N)(hl:lA<=ops.size)(f:oC P cf ops n0 h0 kg val dz lA d)(ht:∀y∈d.cZ,n0+y.1<fN)(I:Inv ops n0 N lA h0 kg val dz d.cZ E0 w0 Bx S ms J E a w)
  {gY:Nat} (ha:∀k,ee gY k=true->S k=true) (hm:∀k,ee (eD h0 (n0+ops.size) dz J).1 k=true->ee gY k=true) {E':Env} {h:Tr O} {w':World}
  (hu:iy E (gL n0 d.cZ (eD h0 (n0+ops.size) dz J).1 (eD h0 (n0+ops.size) dz J).2.1 gY) w E' h w') (fK:∀k,k<(eD h0 (n0+ops.size) dz J).2.2->E'.ι k=E.ι k):
  ∀i,i<ops.size->ee gY i=false->h.get (n0+i)=none:=by
 intro i hi N7;cases q:h.get (n0+i)with
 |none=>rfl
 |some o=>
  exfalso;obtain⟨b,s,h1,_⟩:=hu.good.rel _ o q;have fJ:n0+i<(eD h0 (n0+ops.size) dz J).2.2:=by have:=I.yQ;omega
  have hE:=h1;rw[fK _ fJ]at hE;have hmi:ee (eD h0 (n0+ops.size) dz J).1 i=false:=by
   cases c:ee (eD h0 (n0+ops.size) dz J).1 i with
   |false=>rfl
   |true=>rw[hm i c]at N7;cases N7
  rcases I.nZ _ _ hE with c|⟨i',b',k1,k2,k3⟩|c
  . omega
  . have:i'=i:=by omega
    subst this;have iz:(gL n0 d.cZ (eD h0 (n0+ops.size) dz J).1 (eD h0 (n0+ops.size) dz J).2.1 ms).get (n0+i')=some b':=jF ht f.one k1 (by rw[I.bits];exact k2) hmi;obtain⟨m0,s0,a1,a2,_⟩:=hu.sV (n0+i') b s (by rw[q];simp) h1 (I.qo.good.mU _ _ _ hE);have hx:(gL n0 d.cZ (eD h0 (n0+ops.size) dz J).1 (eD h0 (n0+ops.size) dz J).2.1 gY).get (n0+i')=none:=by
     rcases jo (x:=(eD h0 (n0+ops.size) dz J).2.1) (m:=(eD h0 (n0+ops.size) dz J).1) (gY:=gY) ht f.one (n0+i')with⟨i2,b2,g1,g2,g3,g4,g5⟩|⟨g1,g2⟩
     . have:i2=i':=by omega
       subst this;rw[N7]at g2;cases g2
     . rw[g2];exact I.free i' hi hmi
    have fP:m0≠n0+i':=by intro e;subst e;exact a1 hx
    have hwr:b'.wr=true:=by
     obtain⟨fr,_,_,_,_,q,_⟩:=f.BF i' _ b' k1 (bk hi);exact q
    refine I.qo.good.inj (n0+i') m0 b s s0 (fun q=>fP q.symm) ⟨b',iz,hwr⟩ ?_ hE a2;cases c:(gL n0 d.cZ (eD h0 (n0+ops.size) dz J).1 (eD h0 (n0+ops.size) dz J).2.1 gY).get m0 with
    |none=>exact absurd c a1
    |some o'=>rw[I.sub hr hl f ht ha m0 o' c];simp
  . omega
theorem Inv.effect(hr:mP ops N)(hl:lA<=ops.size)(f:oC P cf ops n0 h0 kg val dz lA d)(ht:∀y∈d.cZ,n0+y.1<fN)(I:Inv ops n0 N lA h0 kg val dz d.cZ E0 w0 Bx S ms J E a w)
  {j:Nat} {o:Oper} (ho:ops[j]? =some o) (hj:j<lA) (AV:S j=false) (hd:∀e∈o.after,Region.binds .any e=true->S e.on=true) (rU:∀b,(j,b)∉d.cZ)
  {h:Tr O} {n:Nat} (he:dz[J]? =some (j,l7 ops j,h,n)) {E':Env} {w':World} {v':Value} (hv:dF E' (val j) v')
  (hu:iy E (gL n0 d.cZ (eD h0 (n0+ops.size) dz J).1 (eD h0 (n0+ops.size) dz J).2.1 (l7 ops j)) w E' h w')
  (fK:∀k,k<(eD h0 (n0+ops.size) dz J).2.2->E'.ι k=E.ι k) (rX:qL E' n) (hn:(eD h0 (n0+ops.size) dz J).2.2<=n):
  Inv ops n0 N lA h0 kg val dz d.cZ E0 w0 Bx (fun i=>S i||decide (i=j)) (ms|||2^j) (J+1) E' (a.put o.dst v') w':=by
 have hJ:J<dz.length:=(aF.1 he).1;have iY:eD h0 (n0+ops.size) dz (J+1)=(l7 ops j,h,n):=by simp only[eD,he]
 have Bw:∀k,ee (l7 ops j) k=true->S k=true:=fun k hk=>vZ hr I.closed ho hd hk;have hm:∀k,ee (eD h0 (n0+ops.size) dz J).1 k=true->ee (l7 ops j) k=true:=by
  intro k hk;cases J with
  |zero=>simp[eD,kj]at hk
  |succ c=>
   have hc:dz[c]? =some (dz[c]'(by omega)):=ay be;simp only[eD,hc]at hk;obtain⟨_,o',_,_,h3⟩:=f.uW c _ hc;rw[h3]at hk;exact EJ hr.yO j _ k (f.chain (c+1) c _ _ be he hc) hk
 have Xx:=I.adO hr hl f ht Bw hm hu fK;obtain⟨g1,g2⟩:=I.frame hr ho hu.le hv;have hc:=I.yQ;refine⟨nl I.bits j,fun i hi=>?_,fun i q hi hq e Bv hb=>?_,fun c e Bv=>?_,hJ,g1,g2,?_,fun k hk=>?_,fun k p hp=>?_,?_,?_,by rw[iF];exact I.size,by rw[gA];exact I.gz⟩
 . rcases bT _ _ |>.mp hi with h|h
   . exact I.Ur i h
   . simp at h;omega
 . rcases bT _ _ |>.mp hi with h|h
   . rw[I.closed i q h hq e Bv hb];rfl
   . simp at h;subst h;rw[ho]at hq;cases hq;rw[hd e Bv hb];rfl
 . have h1:=I.Gj c e Bv;constructor
   . intro hs;rcases bT _ _ |>.mp hs with q|q
     . have:=h1.1 q;omega
     . simp at q;by_cases hcJ:c<J+1
       . exact hcJ
       . have:=f.chain c J e _ be Bv he;simp only at this;rw[q]at this;have:=Ks hr.yO j j this;omega
   . intro vX;by_cases q:c<J
     . rw[h1.2 q];rfl
     . have:c=J:=by omega
       subst this;rw[he]at Bv;cases Bv;simp
 . rw[iY];refine I.qo.trans (iy.frame I.qo.good (I.sub hr hl f ht Bw) hu fun k=>?_);rcases jo (x:=h) (m:=l7 ops j) (gY:=ms|||2^j) ht f.one k with⟨i,b,k1,k2,k3,k4,k5⟩|⟨k1,k2⟩
   . simp only[k5];subst k4;have hi:S i=true:=by
      rw[nl I.bits]at k2;rcases bT _ _ |>.mp k2 with q|q
      . exact q
      . simp at q;subst q;exact absurd k1 (rU b)
     have hmi:ee (eD h0 (n0+ops.size) dz J).1 i=false:=by
      cases c:ee (eD h0 (n0+ops.size) dz J).1 i with
      |false=>rfl
      |true=>rw[hm i c]at k3;cases k3
     have kD:i<ops.size:=by have:=I.Ur i hi;omega
     rw[Xx i kD k3];have hx:(gL n0 d.cZ (eD h0 (n0+ops.size) dz J).1 (eD h0 (n0+ops.size) dz J).2.1 (l7 ops j)).get (n0+i)=none:=by
      rcases jo (x:=(eD h0 (n0+ops.size) dz J).2.1) (m:=(eD h0 (n0+ops.size) dz J).1) (gY:=l7 ops j) ht f.one (n0+i)with⟨i2,b2,q1,q2,q3,q4,q5⟩|⟨q1,q2⟩
      . have:i2=i:=by omega
        subst this;rw[k3]at q2;cases q2
      . rw[q2];exact I.free i kD hmi
     simp only[hx,if_true];rw[jF ht f.one k1 (by rw[I.bits];exact hi) hmi]
   . rw[k2];cases hk:h.get k with
     |some o'=>rfl
     |none=>
      simp only;split
      . rename_i hx;rcases jo (x:=(eD h0 (n0+ops.size) dz J).2.1) (m:=(eD h0 (n0+ops.size) dz J).1) (gY:=ms) ht f.one k with⟨i,b,q1,q2,q3,q4,q5⟩|⟨q1,q2⟩
        . exfalso;subst q4;cases c:ee (l7 ops j) i with
          |false=>exact k1 i b q1 (by rw[nl I.bits];rw[I.bits]at q2;rw[q2];rfl) c rfl
          |true=>
           rw[jF ht f.one q1 c q3]at hx;cases hx
        . rw[q2];rcases jo (x:=(eD h0 (n0+ops.size) dz J).2.1) (m:=(eD h0 (n0+ops.size) dz J).1) (gY:=l7 ops j) ht f.one k with⟨i,b,r1,r2,r3,r4,r5⟩|⟨r1,r2⟩
          . rw[r5]at hx;cases hx
          . rw[r2]at hx;exact hx.symm
      . rfl
 . rw[fK k be];exact I.old k hk
 . by_cases q:k<(eD h0 (n0+ops.size) dz J).2.2
   . rw[fK k q]at hp;rcases I.nZ k p hp with h|⟨i,b,h1,h2,h3⟩|h
     . exact .inl h
     . exact .inr (.inl ⟨i,b,h1,by rw[h2];rfl,h3⟩)
     . rw[iY];exact .inr (.inr ⟨h.1,by show k<n;omega⟩)
   . rw[iY];refine .inr (.inr ⟨be,?_⟩);by_cases q2:k<n
     . exact q2
     . rw[rX k be]at hp;cases hp
 . rw[iY];exact fun i hi hb=>Xx i hi hb
 . rw[iY];simp only;omega
end
section
variable{P:Program}{cf:fO}{ops:Array Oper}{n0 N lA:Nat}{h0:Tr O}{kg:Tr V}{val:Nat->V}{dz:List xy}{d:Dr}{E0:Env}{w0:World}{Bx:List Deferred}
variable{S:Nat->Bool}{ms J:Nat}{E:Env}{a:Act}{w:World}{Q:Exit->Act->World->Prop}{K:Act->World->Prop}{uT:Option Nat}
theorem Inv.step(oB:ji P cf)(hr:mP ops N)(hl:lA<=ops.size)(f:oC P cf ops n0 h0 kg val dz lA d)(ht:∀y∈d.cZ,n0+y.1<fN)(I:Inv ops n0 N lA h0 kg val dz d.cZ E0 w0 Bx S ms J E a w)
  {j:Nat} {o:Oper} (ho:ops[j]? =some o) (hj:j<lA) (AV:S j=false) (hd:∀e∈o.after,Region.binds .any e=true->S e.on=true)
  (hk:∀J' E' a' w',Inv ops n0 N lA h0 kg val dz d.cZ E0 w0 Bx (fun i=>S i||decide (i=j)) (ms|||2^j) J' E' a' w'->K a' w'):wpOpIn (fz uT) 0 P ops Q j K a w:=by
 have hjs:j<ops.size:=by omega
 have Bw:∀k,ee (l7 ops j) k=true->S k=true:=fun k hk=>vZ hr I.closed ho hd hk;have hmj:ee (eD h0 (n0+ops.size) dz J).1 j=false:=by
  cases c:ee (eD h0 (n0+ops.size) dz J).1 j with
  |false=>rfl
  |true=>rw[I.adN hr f c]at AV;cases AV
 have uL:E.ι (n0+j)=none:=by
  cases q:E.ι (n0+j)with
  |none=>rfl
  |some p=>
   rcases I.nZ _ p q with h|⟨i,b,_,h2,h3⟩|h
   . omega
   . have:i=j:=by omega
     subst this;rw[AV]at h2;cases h2
   . omega
 have Xy:(∀b,(j,b)∉d.cZ)->∀k,(gL n0 d.cZ (eD h0 (n0+ops.size) dz J).1 (eD h0 (n0+ops.size) dz J).2.1 (ms|||2^j)).get k=
   (gL n0 d.cZ (eD h0 (n0+ops.size) dz J).1 (eD h0 (n0+ops.size) dz J).2.1 ms).get k:=by
  intro rU k;rcases jo (x:=(eD h0 (n0+ops.size) dz J).2.1) (m:=(eD h0 (n0+ops.size) dz J).1) (gY:=ms|||2^j) ht f.one k with⟨i,b,k1,k2,k3,k4,k5⟩|⟨k1,k2⟩
  . subst k4;rw[k5,jF ht f.one k1 ?_ k3];rw[nl I.bits]at k2;rcases bT _ _ |>.mp k2 with q|q
    . rw[I.bits];exact q
    . simp at q;subst q;exact absurd k1 (rU b)
  . rw[k2,qt ht fun i b q1 q2 q3=>k1 i b q1 (by rw[nl I.bits];rw[I.bits]at q2;rw[q2];rfl) q3]
 unfold wpOpIn;simp only[ho];by_cases Qh:∃b,(j,b)∈d.cZ
 ·
  obtain⟨b,hb⟩:=Qh;obtain⟨fr,f1,f2,f3,f4,f6,f5⟩:=f.BF j o b hb ho;rw[aG (I.wanted hr ho AV hd f1 f2)];refine(Ct I.qo.good uL (I.uF hr ho AV hd f1) (f5 _) fun E' w' v' q1 q2 q3 _=>hk J E' _ w' ?_);refine I.quiet hr hl f ho hj AV hd (fun c e he fP=>?_) q1 ?_ q2.le (fun k hk=>q3 k be) (fun k p hp=>?_)
  . obtain⟨_,o',h1,h2,_⟩:=f.uW c e he;rw[fP,ho]at h1;cases h1;rw[f3]at h2;cases h2
  . refine I.qo.trans (q2.ext fun k=>?_);by_cases Xz:k=n0+j
    . subst Xz;rw[Tr.mY _ _ f4,jF ht f.one hb (by rw[nl I.bits];simp) hmj]
    . rw[Tr.qj _ _ f4 Xz];rcases jo (x:=(eD h0 (n0+ops.size) dz J).2.1) (m:=(eD h0 (n0+ops.size) dz J).1) (gY:=ms|||2^j) ht f.one k with⟨i,b',k1,k2,k3,k4,k5⟩|⟨k1,k2⟩
      . subst k4;rw[k5,jF ht f.one k1 ?_ k3];rw[nl I.bits]at k2;rcases bT _ _ |>.mp k2 with q|q
        . rw[I.bits];exact q
        . simp at q;subst q;exact absurd rfl Xz
      . rw[k2,qt ht fun i b q1 q2 q3=>k1 i b q1 (by rw[nl I.bits];rw[I.bits]at q2;rw[q2];rfl) q3]
  . by_cases Xz:k=n0+j
    . exact .inr ⟨b,hb,Xz⟩
    . rw[q3 k Xz]at hp;exact .inl hp
 . have rU:∀b,(j,b)∉d.cZ:=fun b q=>Qh ⟨b,q⟩;obtain⟨fr,f1,f2⟩:=f.Zd j o hj ho;have look:iA ops o fr=some true->qQ o.op=false->dD P o fr (gL n0 d.cZ (eD h0 (n0+ops.size) dz J).1 (eD h0 (n0+ops.size) dz J).2.1 ms) (n0+j)=
     some (.val (val j) (gL n0 d.cZ (eD h0 (n0+ops.size) dz J).1 (eD h0 (n0+ops.size) dz J).2.1 ms) (n0+j))->
     (if Region.wanted o (yielded ops a.tmps)=true then o.wpIn (fz uT) 0 P a w K Q else(∀f,o.about P w a.eval=some f->(fz uT).fn f)/\K (a.put o.dst undef) w):=by
    intro hw fP hs;rw[aG (I.wanted hr ho AV hd f1 hw)];refine(Ct I.qo.good uL (I.uF hr ho AV hd f1) hs fun E' w' v' q1 q2 q3 q4=>hk J E' _ w' ?_);rcases q4 with⟨_,rfl⟩|q4
    . refine I.quiet hr hl f ho hj AV hd (fun c e he Us=>?_) q1 (I.qo.trans (q2.ext (Xy rU))) q2.le (fun _ _=>rfl) (fun _ _ hp=>.inl hp);obtain⟨_,o',h1,h2,_⟩:=f.uW c e he;rw[Us,ho]at h1;cases h1;rw[fP]at h2;cases h2
    . omega
   rcases f2 with⟨hw,hv⟩|⟨_,_,b,q3,_⟩|⟨hw,fP,uZ⟩|⟨hw,fP,xC,adQ⟩|⟨hw,CA,c,h,n,hc,fM⟩
   ·
    rw[aI (by rw[I.wanted hr ho AV hd f1 hw];simp)];refine⟨fun _ _=>trivial,?_⟩;refine hk J E _ w (I.quiet (v':=undef) hr hl f ho hj AV hd (fun c e he Us=>?_) (by rw[hv];exact⟨[],rfl,rfl⟩) (I.qo.ext (Xy rU)) E.le_refl (fun _ _=>rfl) (fun _ _ hp=>.inl hp));have Hx:=I.wanted hr ho AV hd f1 hw;have TW:=f.Ac c e o he (by rw[Us];exact ho);obtain⟨XA,g3,g4⟩:=TW;rw[Us]at g3;have Kw:=I.wanted hr ho AV hd g3 g4;rw[Hx]at Kw;cases Kw
   . exact absurd q3 (rU b)
   . exact look hw fP (uZ _)
   . have c1:∀(c':Nat) (e:xy),J<=c'->dz[c']? =some e->ee (l7 ops j) e.1=false:=by
      intro c' e vX he;cases q:ee (l7 ops j) e.1 with
      |false=>rfl
      |true=>have:=(I.Gj c' e he).1 (Bw _ q);omega
     have c2:∀(c':Nat) (e:xy),c'<J->dz[c']? =some e->ee e.2.1 j=false:=by
      intro c' e vX he;obtain⟨_,o',_,_,h3⟩:=f.uW c' e he;cases q:ee e.2.1 j with
      |false=>rfl
      |true=>
       rw[h3]at q;rw[I.gY hr ((I.Gj c' e he).2 vX) q]at AV;cases AV
     obtain⟨y,hy⟩:=adQ J I.Jle c1 c2;rcases _root_.Go.Eng.quiet fP hy with⟨u,h1,h2⟩|⟨u,b,h1,h2,h3⟩
     . cases h1;exact look hw fP (h2 _ (I.sub hr hl f ht Bw))
     . simp only[R.val.injEq]at h2;omega
   ·
    have hcJ:c=J:=by
     have h1:¬c<J:=by
      intro q;have:=(I.Gj c _ hc).2 q;simp only at this;rw[AV]at this;cases this
     by_cases q:J<c
     . have hJl:J<dz.length:=by have:=(aF.1 hc).1;omega
       have he:dz[J]? =some dz[J]:=ay hJl;have:=f.chain c J _ _ q hc he;have:=(I.Gj J _ he).1 (Bw _ this);omega
     . omega
    subst hcJ;rw[aG (I.wanted hr ho AV hd f1 hw)];have EN:=I.qo.good.sub (I.sub hr hl f ht Bw);have EO:=I.Zi hl;simp only at fM;rcases fM with hs|⟨g,args,hs,Qi⟩
    . refine Ct EN (EO _ (aA _)) (I.uF hr ho AV hd f1) hs fun E' w' v' q1 q2 q3 q4=>hk (c+1) E' _ w' ?_;refine I.effect hr hl f ht ho hj AV hd rU hc q1 q2 (fun k hk=>q3 k be) ?_ ?_
      . rcases q4 with⟨rfl,rfl⟩|rfl
        . exact EO
        . intro k hk;rw[q3 k be];exact EO k be
      . rcases q4 with⟨rfl,_⟩|rfl<;>omega
    . refine BE oB EN EO (I.uF hr ho AV hd f1) hs Qi fun E' w' q2 q3 q4 q5=>?_;intro v' q1;exact hk (c+1) E' _ w' (I.effect hr hl f ht ho hj AV hd rU hc q1 q2 q3 q4 q5)
end
theorem filter_lt{α:Type}{p q:α->Bool}{x:α}:∀{l:List α},x∈l->p x=true->q x=false->(∀y,q y=true->p y=true)->(l.filter q).length<(l.filter p).length
 | [],h,_,_,_=>by simp at h
 |y::l,h,hp,hq,hm=>by
  have kC:(l.filter q).length<=(l.filter p).length:=by
   clear h
   induction l with
   |nil=>simp
   |cons z l ih=>
    simp only[List.filter_cons];by_cases c:q z=true
    . rw[aG c,aG (hm z c)];simp;exact ih
    . rw[aI c];by_cases c2:p z=true
      . rw[aG c2];simp;omega
      . rw[aI c2];exact ih
  simp only[List.filter_cons];rcases aE.1 h with rfl|h
  . rw[aG hp,aI (by rw[hq];simp)];simp;omega
  . have ih:=filter_lt h hp hq hm;by_cases c:q y=true
    . rw[aG c,aG (hm y c)];simp;exact ih
    . rw[aI c];by_cases c2:p y=true
      . rw[aG c2];simp;omega
      . rw[aI c2];exact ih
def Zj(n:Nat)(gI:Array Bool):Nat:=((List.range n).filter fun i=>!gI.getD i false).length
theorem Ad{gI:Array Bool}{j:Nat}(hj:j<gI.size)(i:Nat):(gI.setIfInBounds j true).getD i false=(gI.getD i false||decide (i=j)):=by
 simp only[b7,Array.getElem?_setIfInBounds];by_cases q:i=j
 . subst q;simp[hj]
 . have:¬j=i:=fun e=>q e.symm;simp[q,this]
section
variable{P:Program}{cf:fO}{ops:Array Oper}{n0 N lA:Nat}{h0:Tr O}{kg:Tr V}{val:Nat->V}{dz:List xy}{d:Dr}{E0:Env}{w0:World}{Bx:List Deferred}
variable{Q:Exit->Act->World->Prop}{uT:Option Nat}
theorem EP(oB:ji P cf)(hr:mP ops N)(hl:lA<=ops.size)(f:oC P cf ops n0 h0 kg val dz lA d)(ht:∀y∈d.cZ,n0+y.1<fN)
  (hQ:lA=ops.size->∀S ms J E a w,Inv ops n0 N lA h0 kg val dz d.cZ E0 w0 Bx S ms J E a w->(∀i,i<ops.size->S i=true)->Q .normal a w)
  (hP:lA<ops.size->lA+1=ops.size/\∀S ms J E a w o,Inv ops n0 N lA h0 kg val dz d.cZ E0 w0 Bx S ms J E a w->ops[lA]? =some o->
   (∀e∈o.after,Region.binds .any e=true->S e.on=true)->∀K,wpOpIn (fz uT) 0 P ops Q lA K a w):
  ∀(fuel:Nat) (gI:Array Bool) (ms J:Nat) (E:Env) (a:Act) (w:World),gI.size=ops.size->Zj ops.size gI<=fuel->
   Inv ops n0 N lA h0 kg val dz d.cZ E0 w0 Bx (fun i=>gI.getD i false) ms J E a w->wpAnyIn (fz uT) 0 P .any ops Q fuel gI a w:=by
 have done:∀(gI:Array Bool) (ms J:Nat) (E:Env) (a:Act) (w:World),gI.size=ops.size->Inv ops n0 N lA h0 kg val dz d.cZ E0 w0 Bx (fun i=>gI.getD i false) ms J E a w->
   Region.ready .any ops gI=[]->Q .normal a w:=by
  intro gI ms J E a w hs I Gk;have all:∀i,i<ops.size->gI.getD i false=true:=by
   intro i
   induction i using Nat.strongRecOn with
   |_ i ih=>
    intro hi;cases q:gI.getD i false with
    |true=>rfl
    |false=>
     exfalso;have ho:ops[i]? =some ops[i]:=bk hi;have:i∈Region.ready .any ops gI:=mem_ready.2 ⟨by
      rw[b7,bk be]at q ⊢;exact q,ops[i],ho,fun e he hb=>by
      have:=hr.yO i _ ho e he hb;exact ih e.on this be⟩
     rw[Gk]at this;simp at this
  have Qj:lA=ops.size:=by
   by_cases q:lA<ops.size
   . have:=I.Ur lA (all lA q);omega
   . omega
  exact hQ Qj _ ms J E a w I all
 intro fuel
 induction fuel with
 |zero=>
  intro gI ms J E a w hs hu I;have Gk:Region.ready .any ops gI=[]:=by
   rw[List.eq_nil_iff_forall_not_mem];intro j hj;obtain⟨h1,o,ho,_⟩:=mem_ready.1 hj;have hjs:=(aQ.1 ho).1;have hz:Zj ops.size gI=0:=by omega
   unfold Zj at hz;have:=List.eq_nil_iff_length_eq_zero.2 hz;have hm:j∈(List.range ops.size).filter fun i=>!gI.getD i false:=List.mem_filter.2 ⟨List.mem_range.2 hjs,by
    rw[b7,bk be]at h1 ⊢;simp at h1;simp[h1]⟩
   rw[this]at hm;simp at hm
  exact⟨Gk,done gI ms J E a w hs I Gk⟩
 |succ fuel ih=>
  intro gI ms J E a w hs hu I;refine⟨done gI ms J E a w hs I,fun j hj=>?_⟩;obtain⟨h1,o,ho,hd⟩:=mem_ready.1 hj;have hjs:=(aQ.1 ho).1;have AV:gI.getD j false=false:=by
   rw[b7,bk be]at h1 ⊢;exact h1
  by_cases NV:j<lA
  . refine I.step oB hr hl f ht ho NV AV hd fun J' E' a' w' I'=>?_;refine ih _ (ms|||2^j) J' E' a' w' (by simp;exact hs) ?_ ?_
    . have:Zj ops.size (gI.setIfInBounds j true)<Zj ops.size gI:=by
       refine filter_lt (x:=j) (List.mem_range.2 hjs) (by rw[AV];rfl) (by rw[Ad be];simp) fun y hy=>?_;rw[Ad be]at hy;simp at hy ⊢;exact hy.1
      omega
    . have:(fun i=>(gI.setIfInBounds j true).getD i false)=fun i=>(gI.getD i false||decide (i=j)):=funext fun i=>Ad be i;rw[this];exact I'
  . have fJ:lA<ops.size:=by omega
    obtain⟨p1,p2⟩:=hP fJ;have:j=lA:=by omega
    subst this;exact p2 _ ms J E a w o I ho hd _
end
theorem Qk{uT:Option Nat}{P:Program}{cf:fO}{ops:Array Oper}{N id:Nat}{s s':St}{x:X}{E0:Env}{a0:Act}{w0:World}{Q:Exit->Act->World->Prop}(oB:ji P cf)(hr:mP ops N)(hm:P.follows .mixedOrders=true)
  (e:drawn P cf ops s=some (x,s')) (g:Good E0 s.h w0) (hd:qL E0 s.n) (hf:yM E0 s.fr a0) (hN:a0.tmps.size=N)
  (hq:∀E' a' w' x',iy E0 s.h w0 E' s'.h w'->(∀k,k<s.n->E'.ι k=E0.ι k)->qL E' s'.n->s.n<=s'.n->yM E' s'.fr a'->a'.tmps.size=N->a'.defers=a0.defers->s'.gz=s.gz->N6 E' x x'->Q x' a' w'):
  (Code.region id ops true).wpIn (fz uT) 0 P Q a0 w0:=by
 refine wpIn_region_any hm ?_;unfold drawn at e;split at e
 . rename_i gH;have init:=Kv (P:=P) (cf:=cf) (ops:=ops) (n0:=s.n) s.fr s.h;have start:∀(lA:Nat) (val:Nat->V) (dz:List xy) (cZ:af),Inv ops s.n N lA s.h s.fr val dz cZ E0 w0 a0.defers (fun i=>(Array.replicate ops.size false).getD i false) 0 0 E0 a0 { w0 with drawn:=w0.drawn+1 }:=by
    intro lA val dz cZ;have hS:∀i,(Array.replicate ops.size false).getD i false=false:=by
     intro i;rw[b7];by_cases q:i<ops.size
     . rw[bk (by simpa using q)];simp
     . rw[Array.getElem?_eq_none (by simpa using q)];rfl
    have Zh:∀k,(gL s.n cZ (eD s.h (s.n+ops.size) dz 0).1 (eD s.h (s.n+ops.size) dz 0).2.1 0).get k=s.h.get k:=by
     intro k;have:∀l:af,gL s.n l (eD s.h (s.n+ops.size) dz 0).1 (eD s.h (s.n+ops.size) dz 0).2.1 0=s.h:=by
      intro l
      induction l with
      |nil=>rfl
      |cons y l ih=>obtain⟨i,b⟩:=y;simp only[gL,kj,Bool.false_and,aO,cG];exact ih
     rw[this]
    refine⟨fun i=>by rw[kj,hS],fun i hi=>?_,fun j o hj=>?_,fun c e' _=>?_,aY _,fun j o t hj=>?_,fun t v hv _=>hf t v hv,(iy.drew g).ext Zh,fun _ _=>rfl,fun k p hp=>?_,fun i _ _=>?_,aA _,hN,rfl⟩
    . rw[hS]at hi;cases hi
    . rw[hS]at hj;cases hj
    . rw[hS];constructor
      . intro q;cases q
      . intro q;omega
    . rw[hS]at hj;cases hj
    . by_cases q:k<s.n
      . exact .inl q
      . rw[hd k be]at hp;cases hp
    . show s.h.get (s.n+i)=none;cases q:s.h.get (s.n+i)with
      |none=>rfl
      |some o=>
       obtain⟨b,t,h1,_⟩:=g.rel _ _ q;rw[hd _ be]at h1;cases h1
   have hu0:Zj ops.size (Array.replicate ops.size false)<=ops.size:=by
    unfold Zj;exact bU (List.length_filter_le _ _) (by simp)
   have fM:=fun(r:Dr ⊕ (Tr V×V×Tr O×Nat)) q=>EM (N:=N) hr ops.toList 0 _ _ _ r (by simp) init q;split at e
   . rename_i d XB;obtain⟨rfl,rfl⟩:=fa e;obtain⟨val,dz,f⟩:=fM _ XB;rw[show max 0 ops.size=ops.size by omega]at f;have ht:∀y∈d.cZ,s.n+y.1<fN:=fun y hy=>by have:=f.cZ y hy;omega
     refine EP oB hr (aA _) f ht (fun _ S ms J E a w I uZ=>?_) (fun q=>by omega) ops.size _ 0 0 E0 a0 _ (by simp) hu0 (start ops.size val dz d.cZ);have hJ:J=dz.length:=by
      have h1:=I.Jle;by_cases q:J<dz.length
      . have he:dz[J]? =some dz[J]:=ay q;have:=(I.Gj J _ he).1 (uZ _ (f.uW J _ he).1);omega
      . omega
     have ec1:d.cur.1=(eD s.h (s.n+ops.size) dz J).1:=by rw[hJ,f.cur]
     have ec2:d.cur.2=(eD s.h (s.n+ops.size) dz J).2.1:=by rw[hJ,f.cur]
     have en:d.n=(eD s.h (s.n+ops.size) dz J).2.2:=by rw[hJ,f.n]
     refine hq E a w .normal ?_ I.old ?_ ?_ ?_ I.size I.gz rfl trivial
     . refine I.qo.ext fun k=>?_;simp only[ec1,ec2];have adR:∀i,i<ops.size->ee (2^ops.size-1) i=true:=fun i hi=>by
        unfold ee;rw[Nat.testBit_two_pow_sub_one];simpa using hi
       rcases jo (n0:=s.n) (x:=(eD s.h (s.n+ops.size) dz J).2.1) (m:=(eD s.h (s.n+ops.size) dz J).1) (gY:=2^ops.size-1) ht f.one k with⟨i,b,k1,k2,k3,k4,k5⟩|⟨k1,k2⟩
       . subst k4;rw[k5,jF ht f.one k1 (by rw[I.bits];exact uZ i (f.cZ _ k1)) k3]
       . rw[k2,qt ht fun i b q1 q2 q3=>k1 i b q1 (adR i (f.cZ _ q1)) q3]
     . show qL E d.n;rw[en];exact I.Zi (aA _)
     . show s.n<=d.n;rw[en];have:=I.yQ;omega
     . intro t v hv;by_cases q:∃j o,j<ops.size/\ops[j]? =some o/\o.dst=some t
       . obtain⟨j,o,q1,q2,q3⟩:=q;have:=f.fr.new j o t q1 q2 q3;simp only at hv;rw[this]at hv;cases hv;exact I.f1 j o t (uZ j q1) q2 q3
       . have:=f.fr.old t fun i o hi ho TX=>q ⟨i,o,hi,ho,TX⟩;simp only at hv;rw[this]at hv;exact I.f2 t v hv fun j o hj ho TX=>q ⟨j,o,I.Ur j hj,ho,TX⟩
   . rename_i fr v h n XB;obtain⟨rfl,rfl⟩:=fa e;obtain⟨lA,o,d,val,dz,ho,f,oW⟩:=fM _ XB;have Qj:lA<ops.size:=(aQ.1 ho).1;have ht:∀y∈d.cZ,s.n+y.1<fN:=fun y hy=>by have:=f.cZ y hy;omega
     have Bw:eM d.ek o.after.toList=l7 ops lA:=by rw[f.ek];unfold l7;rw[ho]
     unfold uG at oW;simp only[Bw]at oW;split at oW
     . split at oW<;>cases oW
     . rename_i hw;split at oW
       . rename_i CA;split at oW
         . split at oW
           . split at oW<;>cases oW
           . rename_i gg args hs;split at oW
             . split at oW<;>cases oW
             . rename_i v' h' n' hc;split at oW
               . rename_i hb;simp only[an,Sum.inr.injEq,aB]at oW;obtain⟨rfl,rfl,rfl,rfl⟩:=oW;simp only[aC]at hb;have yD:=aD hb.1;have HT:=aD hb.2;have N7:∀i,i<lA->ee (l7 ops lA) i=true:=fun i hi=>by
                  have:l7 ops lA=2^lA-1:=by omega
                  rw[this];unfold ee;rw[Nat.testBit_two_pow_sub_one];simpa using hi
                 refine EP oB hr (Nat.le_of_lt Qj) f ht (fun q=>by omega) (fun _=>⟨HT,fun S ms J E a w o' I D9 Ql K=>?_⟩) ops.size _ 0 0 E0 a0 _ (by simp) hu0 (start lA val dz d.cZ);rw[ho]at D9;cases D9;have hSl:S lA=false:=by
                  cases q:S lA with
                  |false=>rfl
                  |true=>have:=I.Ur lA q;omega
                 have uZ:∀i,i<lA->S i=true:=fun i hi=>vZ hr I.closed ho Ql (N7 i hi);have hJ:J=dz.length:=by
                  have h1:=I.Jle;by_cases q:J<dz.length
                  . have he:dz[J]? =some dz[J]:=ay q;have:=(I.Gj J _ he).1 (uZ _ (f.uW J _ he).1);omega
                  . omega
                 have ec1:d.cur.1=(eD s.h (s.n+ops.size) dz J).1:=by rw[hJ,f.cur]
                 have ec2:d.cur.2=(eD s.h (s.n+ops.size) dz J).2.1:=by rw[hJ,f.cur]
                 have en:d.n=(eD s.h (s.n+ops.size) dz J).2.2:=by rw[hJ,f.n]
                 rw[ec1,ec2,en]at hs hc;have uO:=I.sub hr (Nat.le_of_lt Qj) f ht (gY:=l7 ops lA) fun k hk=>uZ k (Ks hr.yO lA k hk);have EO:=I.Zi (Nat.le_of_lt Qj);unfold wpOpIn;simp only[ho];rw[aG (I.wanted hr ho hSl Ql f.fr hw)];refine(BE oB (I.qo.good.sub uO) EO (I.uF hr ho hSl Ql f.fr) hs hc fun E' w' q2 q3 q4 q5=>?_);intro v2 hv2;have hcn:=I.yQ;refine hq E' a w' _ ?_ (fun k hk=>?_) q4 ?_ ?_ I.size I.gz rfl ⟨v2,hv2,rfl⟩
                 . refine I.qo.trans (iy.frame I.qo.good uO q2 fun k=>?_);simp only;cases hk:h'.get k with
                   |some o'=>rfl
                   |none=>
                    simp only;split
                    . rename_i hx;rcases jo (n0:=s.n) (x:=(eD s.h (s.n+ops.size) dz J).2.1) (m:=(eD s.h (s.n+ops.size) dz J).1) (gY:=ms) ht f.one k with⟨i,b,k1,k2,k3,k4,k5⟩|⟨k1,k2⟩
                      . subst k4;rw[jF ht f.one k1 (N7 i (f.cZ _ k1)) k3]at hx;cases hx
                      . rw[k2];rw[qt ht fun i b q1 q2' q3'=>k1 i b q1 (by rw[I.bits];exact uZ i (f.cZ _ q1)) q3']at hx;exact hx.symm
                    . rfl
                 . rw[q3 k be];exact I.old k hk
                 . show s.n<=n';omega
                 . refine jT q2.le ?_;intro t v hv;by_cases q:∃j o,j<lA/\ops[j]? =some o/\o.dst=some t
                   . obtain⟨j,o2,q1,q2,q3⟩:=q;have:=f.fr.new j o2 t q1 q2 q3;simp only at hv;rw[this]at hv;cases hv;exact I.f1 j o2 t (uZ j q1) q2 q3
                   . have:=f.fr.old t fun i o2 hi Ut TX=>q ⟨i,o2,hi,Ut,TX⟩;simp only at hv;rw[this]at hv;exact I.f2 t v hv fun j o2 hj Ut TX=>q ⟨j,o2,I.Ur j hj,Ut,TX⟩
               . cases oW
             . cases oW
           . cases oW
         . cases oW
       . split at oW
         . split at oW
           . split at oW
             . split at oW
               . cases oW
               . split at oW<;>cases oW
             . split at oW
               . split at oW<;>cases oW
               . cases oW
           . cases oW
         . cases oW
     . cases oW
   . cases e
 . cases e
def Qm(E:Env)(x:FuncId×ag×ag)(d:Deferred):Prop:=
 (x.1<fN/\∃c' c9,dI E x.2.1 c'/\dI E x.2.2 c9/\d={ target:=.fn (.func x.1) c'.toArray,args:=c9.toArray }) \/
 (x.1=fN/\∃m b s,x.2.2=[.map (some m)]/\E.ι m=some (b,s)/\d={ target:=.collected b,args:=#[] })
def wS(E:Env):List (FuncId×ag×ag)->List Deferred->Prop
 | [],l=>l=[]
 |x::xs,l=>∃d ys,Qm E x d/\wS E xs ys/\l=d::ys
theorem Kx{E E':Env}(h:E.le E'){x:FuncId×ag×ag}{d:Deferred}:Qm E x d->Qm E' x d:=by
 rintro(⟨hx,c',a',r1,r2,q⟩|⟨hx,m,b,s,q1,q2,q3⟩)
 . exact .inl ⟨hx,c',a',ku h _ _ r1,ku h _ _ r2,q⟩
 . exact .inr ⟨hx,m,b,s,q1,(h.nm _ _ _ q2).1,q3⟩
theorem iU{E E':Env}(h:E.le E'):∀(xs:List (FuncId×ag×ag)) (ys:List Deferred),wS E xs ys->wS E' xs ys
 | [],_,r=>r
 |_::xs,_,⟨d,ys,r1,r3,q⟩=>⟨d,ys,Kx h r1,iU h xs ys r3,q⟩
theorem iy.kill{E:Env}{h:Tr O}{w w':World}{m b s:Nat}(g:Good E h w)(ht:m<fN)(iz:eC h m)(hm:E.ι m=some (b,s))
  (ED:w'.heap.size=w.heap.size) (HP:w'.tape=w.tape) (hos:w'.os=w.os) (oU:w'.output=w.output)
  (ql:∀x,x≠b->w'.heap[x]? =w.heap[x]?):iy E h w E (h.set m none) w':=by
 have hs:∀k o,(h.set m none).get k=some o->k≠m/\h.get k=some o:=by
  intro k o hk;rw[Tr.eS _ _ _ ht]at hk;split at hk
  . cases hk
  . rename_i q;exact⟨q,hk⟩
 have dL:∀k o,(h.set m none).get k=some o->h.get k=some o:=fun k o q=>(hs k o q).2;refine⟨E.le_refl,⟨?_,?_,?_,g.jm,fun b' c q=>⟨by rw[ql b' fun e=>(g.gM b' c q).2 m s iz (e▸hm)];exact(g.gM b' c q).1,fun k t hk=>(g.gM b' c q).2 k t (gr dL hk)⟩⟩,be,HP,hos,oU,?_,fun k x t hk e _=>⟨k,t,nc dL hk,e,gr dL⟩,fun _ _ q=>.inl q⟩
 . intro k o hk;obtain⟨fP,hk⟩:=hs k o hk;obtain⟨b',s',h1,h2⟩:=g.rel k o hk;have hb:b'≠b:=by
    intro hb;subst hb;exact g.inj m k b' s s' (fun q=>fP q.symm) iz (by rw[hk];simp) hm h1
   exact⟨b',s',h1,ik E.le_refl rfl (ql b' hb) h2⟩
 . intro k k' x t t' fP hk uj e e';exact g.inj k k' x t t' fP (gr dL hk) (nc dL uj) e e'
 . intro k x t e;rw[ED];exact g.mU k x t e
 . intro x _ hn;refine ql x ?_;intro hx;subst hx;exact hn m s iz hm
structure jV(E:Env)(N:Nat)(s:St)(a:Act)(w:World):Prop where
 good:Good E s.h w
 nZ:qL E s.n
 fr:yM E s.fr a
 size:a.tmps.size=N
 gz:wS E s.gz a.defers
def Ij(E:Env)(N:Nat)(s:St)(w:World)(x:X)(s':St)(Q:Exit->Act->World->Prop):Prop:=
 ∀E' a' w' x',iy E s.h w E' s'.h w'->(∀k,k<s.n->E'.ι k=E.ι k)->s.n<=s'.n->jV E' N s' a' w'->N6 E' x x'->Q x' a' w'
theorem Ij.after{E E1:Env}{N:Nat}{s s1 s':St}{w w1:World}{x:X}{Q:Exit->Act->World->Prop}(p:Ij E N s w x s' Q)(u:iy E s.h w E1 s1.h w1)(fK:∀k,k<s.n->E1.ι k=E.ι k)(hn:s.n<=s1.n):Ij E1 N s1 w1 x s' Q:=
 fun E' a' w' x' u' Qn pC r rx=>p E' a' w' x' (u.trans u') (fun k hk=>by rw[Qn k be];exact fK k hk) be r rx
section
variable{P:Program}{cf:fO}{F N:Nat}{uT:Option Nat}
theorem kL(oB:ji P cf){ops:Array Oper}:∀(l:List Oper) (s:St) (x:X) (s':St),(uT=none\/∀o∈l,BC o.op=true)->(∀o∈l,nj N o.dst)->je P cf ops l s=some (x,s')->
  ∀(E:Env) (a:Act) (w:World) (Q:Exit->Act->World->Prop),jV E N s a w->Ij E N s w x s' Q->wpListIn (fz uT) 0 P ops Q l a w
 | [],s,x,s',_,_,e,E,a,w,Q,r,hp=>by
   simp only[je,an,aB]at e;obtain⟨rfl,rfl⟩:=e;exact hp E a w .normal (iy.refl r.good) (fun _ _=>rfl) (aA _) r trivial
 |o::rest,s,x,s',pA,ud,e,E,a,w,Q,r,hp=>by
  have Uu:uT=none\/∀o∈rest,BC o.op=true:=pA.imp _root_.id fun h o ho=>h o (by simp[ho]);have ho:=ud o (by simp);have u6:∀o∈rest,nj N o.dst:=fun o h=>ud o (by simp[h]);have Uv:nj a.tmps.size o.dst:=by rw[r.size];exact ho
  simp only[je]at e;unfold wpListIn;have Ik:∀b,iA ops o s.fr=some b->Region.wanted o (yielded ops a.tmps)=b:=fun b hb=>xw (E:=E) (fun _ _ _ d _ _ _ v hv=>r.fr d v hv) hb;have Ed:∀y∈o.op.operands,mI E s.fr a.eval y:=fun y _=>iG r.good.jm r.fr y;split at e
  . rename_i hw;rw[aI (by rw[Ik _ hw];simp)];split at e
    . rename_i fr rD;refine⟨fun _ _=>trivial,?_⟩;refine kL oB rest _ x s' Uu u6 e E _ w Q ⟨r.good,r.nZ,jA r.fr rD ⟨[],rfl,rfl⟩ Uv,by rw[iF];exact r.size,by rw[gA];exact r.gz⟩ ?_;exact hp.after (iy.refl r.good) (fun _ _=>rfl) (aA _)
    . cases e
  . rename_i hw;rw[aG (Ik _ hw)];split at e
    . rename_i v h n hs;split at e
      . rename_i fr rD;refine Ct r.good (r.nZ _ (aA _)) Ed hs fun E' w' v' q1 q2 q3 q4=>?_;have hn:s.n<=n:=by rcases q4 with⟨rfl,_⟩|rfl<;>omega
        have rX:qL E' n:=by
         rcases q4 with⟨rfl,rfl⟩|rfl
         . exact r.nZ
         . intro k hk;rw[q3 k be];exact r.nZ k be
        refine kL oB rest _ x s' Uu u6 e E' _ w' Q ⟨q2.good,rX,jA (jT q2.le r.fr) rD q1 Uv,by rw[iF];exact r.size,by rw[gA];exact iU q2.le _ _ r.gz⟩ ?_;exact hp.after q2 (fun k hk=>q3 k be) hn
      . cases e
    . rename_i g args hs;split at e
      . rename_i v h n hc;split at e
        . rename_i fr rD;refine BE oB r.good r.nZ Ed hs hc fun E' w' q2 q3 q4 q5=>?_;intro v' q1;refine kL oB rest _ x s' Uu u6 e E' _ w' Q ⟨q2.good,q4,jA (jT q2.le r.fr) rD q1 Uv,by rw[iF];exact r.size,by rw[gA];exact iU q2.le _ _ r.gz⟩ ?_;exact hp.after q2 q3 q5
        . cases e
      . rename_i v h n hc;obtain⟨rfl,rfl⟩:=fa e;refine BE oB r.good r.nZ Ed hs hc fun E' w' q2 q3 q4 q5=>?_;intro v' q1;exact hp E' a w' _ q2 q3 q5 ⟨q2.good,q4,jT q2.le r.fr,r.size,iU q2.le _ _ r.gz⟩ ⟨v',q1,rfl⟩
      . cases e
    . rename_i g c args hs;split at e
      case isFalse=>cases e
      rename_i Uw;split at e
      . rename_i fr rD;have Up:uT=none:=by
         rcases pA with q|q
         . exact q
         . exfalso;have:=q o (by simp);rw[Uw.2]at this;cases this
        refine Zc Up r.good (r.nZ _ (aA _)) Ed hs fun c' c9 q1 q2=>?_;refine kL oB rest _ x s' Uu u6 e E _ w Q ⟨r.good,r.nZ,jA (a:={ a with defers:={ target:=.fn (.func g) c'.toArray,args:=c9.toArray }::a.defers }) r.fr rD ⟨[],rfl,rfl⟩ Uv,by rw[iF];exact r.size,by rw[gA];exact⟨_,a.defers,.inl ⟨Uw.1,c',c9,q1,q2,rfl⟩,r.gz,rfl⟩⟩ ?_;exact hp.after (iy.refl r.good) (fun _ _=>rfl) (aA _)
      . cases e
    . rename_i v hs;obtain⟨rfl,rfl⟩:=fa e;refine Qf r.good (r.nZ _ (aA _)) Ed hs fun v' q1=>?_;exact hp E a w _ (iy.refl r.good) (fun _ _=>rfl) (aA _) r ⟨v',q1,rfl⟩
    . cases e
    . cases e
  . cases e
theorem oD{E:Env}{fr:Tr V}{a:Act}{c:Operand}{b:Bool}(ge:GE E)(r:yM E fr a)(e:iK fr c=some (.bool b)):a.eval c= .bool b:=by
 have:=iG ge r c _ e;simpa only[dF]using this
theorem Il(oB:ji P cf){g:Operand}{ps:Array Tmp}{assign body:Code}{s s':St}{x:X}(ic:eU N (.rangeFunc g ps assign body)=true)(e:jf P cf F (.rangeFunc g ps assign body) s=some (x,s'))
  {E:Env} {a:Act} {w:World} {Q:Exit->Act->World->Prop} (r:jV E N s a w) (hp:Ij E N s w x s' Q):(Code.rangeFunc g ps assign body).wpIn (fz none) 0 P Q a w:=by
 simp only[eU,aC]at ic;simp only[jf]at e;split at e
 . rename_i gf lb hg;split at e
   case isFalse=>cases e
   rename_i hq;obtain⟨uR,gH⟩:=hq;obtain⟨f',fi,Im,N1,hfi,hlb,Ae⟩:=iG r.good.jm r.fr g _ hg;simp only[yl]at N1;subst N1;simp only[dI]at hfi;subst hfi;refine wpIn_rangeFunc fun fn _=>?_
   let CC:Loop:={ state:=.ready,pending:=none,fn,tmps:=a.tmps,params:=ps,assign,body,defers:=w.heap.size }
   have u1:iy E s.h w (E.put s.n w.heap.size 0 0) (s.h.set s.n (some .mA)) (w.alloc (.deferred (some []))):=iy.alloc (ob:=.deferred (some [])) (o:=.mA) r.good (r.nZ _ (aA _)) be heap_alloc_new;have DW:(E.put s.n w.heap.size 0 0).ι (s.n+1)=none:=by rw[Env.fB be];exact r.nZ _ be
   have u2:iy (E.put s.n w.heap.size 0 0) (s.h.set s.n (some .mA)) (w.alloc (.deferred (some []))) ((E.put s.n w.heap.size 0 0).put (s.n+1) (w.alloc (.deferred (some []))).heap.size 0 0) ((s.h.set s.n (some .mA)).set (s.n+1) (some (.loop true none s.fr ps.toList assign body))) ((w.alloc (.deferred (some []))).alloc (.loop CC)):=
    iy.alloc (ob:=.loop CC) (o:=.loop true none s.fr ps.toList assign body) u1.good DW gH
     ⟨CC,heap_alloc_new,rfl,rfl,rfl,rfl,rfl,vO (Env.le_trans u1.le (Env.rz DW fun m x t e hx=>by have:=u1.good.mU m x t e;omega)) r.fr,by rw[show CC.tmps.size=N from r.size];exact⟨ic.2.1,ic.2.2,fun p hp=>by simpa using bn.1 ic.1 p hp⟩⟩
   rw[World.size_alloc]at u2;revert e;generalize Ux:(E.put s.n w.heap.size 0 0).put (s.n+1) (w.heap.size+1) 0 0=E2 at u2;generalize N8:(s.h.set s.n (some .mA)).set (s.n+1) (some (.loop true none s.fr ps.toList assign body))=h2 at u2;generalize hW1:(w.alloc (.deferred (some []))).alloc (.loop CC)=W1 at u2;intro e;have HB:E2.ι (s.n+1)=some (w.heap.size+1,0):=by rw[<- Ux];exact Env.eY
   have Gl:E2.ι s.n=some (w.heap.size,0):=by rw[<- Ux,Env.fB be];exact Env.eY
   have qu:∀k,k<s.n->E2.ι k=E.ι k:=fun k hk=>by rw[<- Ux,Env.fB be,Env.fB be]
   have Io:qL E2 (s.n+2):=fun k hk=>by
    have hk:s.n+2<=k:=hk;rw[<- Ux,Env.fB be,Env.fB be];exact r.nZ k (by show s.n<=k;omega)
   have u12:=u1.trans u2;have Zk:dI E2 lb Im:=ku u12.le _ _ hlb;have Qo:(invoke (.fn (.func gf) Im.toArray) #[.func (.yield (w.heap.size+1)) #[] #[]]).run P W1= .ok (.enter gf (Value.func (.yield (w.heap.size+1)) #[] #[]::Im).toArray) W1:=by
    have Zl:=pP (w:=W1) (args:=(Value.func (.yield (w.heap.size+1)) #[] #[]::Im).toArray) uR;rw[<- Zl];simp[invoke]
   refine⟨w.heap.size+1,[{ target:=.collected w.heap.size,args:=#[] }],W1,{ target:=.fn (.func gf) Im.toArray,args:=#[.func (.yield (w.heap.size+1)) #[] #[]] },W1,gf,
    (Value.func (.yield (w.heap.size+1)) #[] #[]::Im).toArray,W1,?_,?_,fun _ _=>trivial,Qo,fun hd=>by simp[fz,Fence.wide]at hd,?_⟩
   . rw[<- hW1];exact run_enterLoop_outer _ _ _ _ _
   . simp only[resolve,Ae];simp[go_sem]
   . split at e
     case h_2=>cases e
     rename_i v h n hc;have CD:=(oB gf _ h2 (s.n+2) _ h n hc E2 W1 (Value.func (.yield (w.heap.size+1)) #[] #[]::Im) ⟨_,_,⟨_,[],[],⟨_,_,HB,rfl⟩,rfl,rfl,rfl⟩,Zk,rfl⟩ u2.good Io).1 uR;have Gm:CallsIn Fence.wide (0-1) P gf (Value.func (.yield (w.heap.size+1)) #[] #[]::Im).toArray W1 (rangePost (fz none) 0 P (w.heap.size+1) Q { a with defers:=[{ target:=.collected w.heap.size,args:=#[] }]++a.defers }):=by
      refine callsIn_wide.2 (CD.mono ?_);rintro en w3 ⟨E3,u3,yR,Qp,Ky,ho⟩;cases en with
      |panicked _=>exact ho.elim
      |outgrown=>exact ho.elim
      |returned v'=>
       have Zm:E3.ι (s.n+1)=some (w.heap.size+1,0):=by rw[yR _ be];exact HB
       have hd3:E3.ι s.n=some (w.heap.size,0):=by rw[yR _ be];exact Gl
       have Cu:∀(st:Bool) (pe:Option Code) (fr:Tr V) (pl:List Nat) (c1 c2:Code),h.get (s.n+1)=some (.loop st pe fr pl c1 c2)->
         ∃w4,(Instr.endLoop (w.heap.size+1)).run P w3= .ok pe w4/\
          ∀(y:X) (s1:St),s1={ s with h:=h.set (s.n+1) none,n:=n,gz:=(fN,[],[.map (some s.n)])::s.gz }->Ij E N s w y s1 Q->∀y',N6 E3 y y'->Q y' { a with defers:=[{ target:=.collected w.heap.size,args:=#[] }]++a.defers } w4:=by
        intro st pe fr pl c1 c2 kH;obtain⟨b,s0,q1,rc,q2,q3,q4,_⟩:=u3.good.rel _ _ kH;rw[Zm]at q1;cases q1;have N9:=run_endLoop (P:=P) q2 (by rw[q3];cases st<;>simp);refine⟨_,N9.trans (aN (fun p=>Result.ok p _) q4),fun y s1 fQ iH y' hy=>?_⟩;have uk:iy E3 h w3 E3 (h.set (s.n+1) none) (w3.putObj (w.heap.size+1) (.loop { rc with state:=.exhausted })):=
         iy.kill u3.good gH ⟨_,kH,rfl⟩ Zm (by simp) rfl rfl rfl fun x hx=>World.putObj_heap_other hx
        have Gn:=(u12.trans u3).trans uk;subst fQ;have hsn:s.n<=n:=by omega
        exact iH E3 _ _ y' Gn (fun k hk=>by rw[yR k be];exact qu k hk) hsn
         ⟨Gn.good,Qp,jT Gn.le r.fr,r.size,⟨_,a.defers,.inr ⟨rfl,s.n,w.heap.size,0,rfl,hd3,rfl⟩,iU Gn.le _ _ r.gz,rfl⟩⟩ hy
       split at e
       . rename_i hdg DZ;obtain⟨rfl,rfl⟩:=fa e;obtain⟨w4,k1,k2⟩:=Cu _ _ _ _ _ _ DZ;exact⟨_,w4,k1,k2 .normal _ rfl hp .normal trivial⟩
       . rename_i hdg DZ;obtain⟨rfl,rfl⟩:=fa e;obtain⟨w4,k1,k2⟩:=Cu _ _ _ _ _ _ DZ;exact⟨_,w4,k1,wpIn_ret (k2 .ret _ rfl hp .ret trivial)⟩
       . rename_i id _ _ _ _ hdg DZ;obtain⟨rfl,rfl⟩:=fa e;obtain⟨w4,k1,k2⟩:=Cu _ _ _ _ _ _ DZ;exact⟨_,w4,k1,wpIn_exit (k2 (.exit id) _ rfl hp (.exit id) rfl)⟩
       . cases e
     exact Gm
 . cases e
theorem mK(oB:ji P cf)(hm:P.follows .mixedOrders=true):∀(c:Code) (s:St) (x:X) (s':St),(uT=none\/jP c=true)->eU N c=true->jf P cf F c s=some (x,s')->
  ∀(E:Env) (a:Act) (w:World) (Q:Exit->Act->World->Prop),jV E N s a w->Ij E N s w x s' Q->c.wpIn (fz uT) 0 P Q a w:=by
 intro c
 induction c with
 |skip=>
  intro s x s' _ _ e E a w Q r hp;simp only[jf,an,aB]at e;obtain⟨rfl,rfl⟩:=e;exact wpIn_skip (hp E a w .normal (iy.refl r.good) (fun _ _=>rfl) (aA _) r trivial)
 |region id ops J3=>
  intro s x s' pA ic e E a w Q r hp;simp only[eU,aC]at ic;cases J3 with
  |false=>
   simp only[jf]at e;refine wpIn_region_list (kL oB ops.toList s x s' (pA.imp _root_.id fun q=>by simp only[jP,bn]at q;exact q) (fun o ho d hd=>?_) e E a w Q r hp);have:=bn.1 ic.1 o ho;rw[hd]at this;simpa using this
  |true=>
   simp only[jf]at e;have ajG:=Kt (by simpa using ic.2);refine Qk oB ajG hm e r.good r.nZ r.fr r.size fun E' a' w' x' u fK rX hn ya lQ TY ajH hx=>?_;exact hp E' a' w' x' u fK hn ⟨u.good,rX,ya,lQ,by rw[ajH,TY];exact iU u.le _ _ r.gz⟩ hx
 |seq c1 c2 Qa Qb=>
  intro s x s' pA ic e E a w Q r hp;simp only[eU,aC]at ic;simp only[jf]at e;refine wpIn_seq ?_;cases h1:jf P cf F c1 s with
  |none=>simp[h1]at e
  |some p=>
   obtain⟨x1,s1⟩:=p;refine Qa s x1 s1 (pA.imp _root_.id fun q=>by simp only[jP,aC]at q;exact q.1) ic.1 h1 E a w _ r fun E' a' w' x' u fK hn r' hx=>?_;cases x1 with
   |normal=>
    simp only[h1]at e;cases x'<;>first|(exact hx.elim)|skip
    exact Qb s1 x s' (pA.imp _root_.id fun q=>by simp only[jP,aC]at q;exact q.2) ic.2 e E' a' w' Q r' (hp.after u fK hn)
   |exit i=>
    simp only[h1,an,aB]at e;obtain⟨rfl,rfl⟩:=e;cases x'<;>first|(exact hx.elim)|skip
    exact hp E' a' w' _ u fK hn r' hx
   |ret=>
    simp only[h1,an,aB]at e;obtain⟨rfl,rfl⟩:=e;cases x'<;>first|(exact hx.elim)|skip
    exact hp E' a' w' _ u fK hn r' hx
   |panic v=>
    simp only[h1,an,aB]at e;obtain⟨rfl,rfl⟩:=e;cases x'<;>first|(exact hx.elim)|skip
    exact hp E' a' w' _ u fK hn r' hx
 |cond c c1 c2 Qa Qb=>
  intro s x s' pA ic e E a w Q r hp;simp only[eU,aC]at ic;simp only[jf]at e;split at e
  . rename_i hc;exact wpIn_cond_true (oD r.good.jm r.fr hc) (Qa s x s' (pA.imp _root_.id fun q=>by simp only[jP,aC]at q;exact q.1) ic.1 e E a w Q r hp)
  . rename_i hc;exact wpIn_cond_false (oD r.good.jm r.fr hc) (Qb s x s' (pA.imp _root_.id fun q=>by simp only[jP,aC]at q;exact q.2) ic.2 e E a w Q r hp)
  . cases e
 |block id c ih=>
  intro s x s' pA ic e E a w Q r hp;simp only[eU]at ic;simp only[jf]at e;refine wpIn_block ?_;cases h1:jf P cf F c s with
  |none=>simp[h1]at e
  |some p=>
   obtain⟨x1,s1⟩:=p;refine ih s x1 s1 (pA.imp _root_.id fun q=>by simpa only[jP]using q) ic h1 E a w _ r fun E' a' w' x' u fK hn r' hx=>?_;cases x1 with
   |normal=>
    simp only[h1,an,aB]at e;obtain⟨rfl,rfl⟩:=e;cases x'<;>first|(exact hx.elim)|skip
    exact hp E' a' w' .normal u fK hn r' trivial
   |exit i=>
    simp only[h1]at e;cases x'<;>first|(exact hx.elim)|skip
    rename_i j;have Pu:i=j:=hx;subst Pu;simp only[Exit.inBlock];split at e
    . rename_i q;obtain⟨rfl,rfl⟩:=fa e;rw[aG q];exact hp E' a' w' .normal u fK hn r' trivial
    . rename_i q;obtain⟨rfl,rfl⟩:=fa e;rw[aI q];exact hp E' a' w' (.exit i) u fK hn r' rfl
   |ret=>
    simp only[h1,an,aB]at e;obtain⟨rfl,rfl⟩:=e;cases x'<;>first|(exact hx.elim)|skip
    exact hp E' a' w' .ret u fK hn r' trivial
   |panic v=>
    simp only[h1,an,aB]at e;obtain⟨rfl,rfl⟩:=e;cases x'<;>first|(exact hx.elim)|skip
    exact hp E' a' w' (.panic _) u fK hn r' hx
 |loop c ih=>
  intro s x s' pA ic e E a w Q r hp;simp only[eU]at ic;simp only[jf]at e;refine wpIn_loop_rounds F ?_;have key:∀(k:Nat) (s:St),rounds (jf P cf F c) k s=some (x,s')->∀(E:Env) (a:Act) (w:World),jV E N s a w->Ij E N s w x s' Q->Code.roundsIn (fz uT) 0 P c Q k a w:=by
   intro k
   induction k with
   |zero=>intro s e;cases e
   |succ k ihk=>
    intro s e E a w r hp;simp only[rounds]at e;rw[roundsIn_succ];cases h1:jf P cf F c s with
    |none=>simp[h1]at e
    |some p=>
     obtain⟨x1,s1⟩:=p;refine ih s x1 s1 (pA.imp _root_.id fun q=>by simpa only[jP]using q) ic h1 E a w _ r fun E' a' w' x' u fK hn r' hx=>?_;cases x1 with
     |normal=>
      simp only[h1]at e;cases x'<;>first|(exact hx.elim)|skip
      exact ihk s1 e E' a' w' r' (hp.after u fK hn)
     |exit i=>
      simp only[h1,an,aB]at e;obtain⟨rfl,rfl⟩:=e;cases x'<;>first|(exact hx.elim)|skip
      exact hp E' a' w' _ u fK hn r' hx
     |ret=>
      simp only[h1,an,aB]at e;obtain⟨rfl,rfl⟩:=e;cases x'<;>first|(exact hx.elim)|skip
      exact hp E' a' w' _ u fK hn r' hx
     |panic v=>
      simp only[h1,an,aB]at e;obtain⟨rfl,rfl⟩:=e;cases x'<;>first|(exact hx.elim)|skip
      exact hp E' a' w' _ u fK hn r' hx
  exact key F s e E a w r hp
 |exit id=>
  intro s x s' _ _ e E a w Q r hp;simp only[jf,an,aB]at e;obtain⟨rfl,rfl⟩:=e;exact wpIn_exit (hp E a w (.exit id) (iy.refl r.good) (fun _ _=>rfl) (aA _) r rfl)
 |ret=>
  intro s x s' _ _ e E a w Q r hp;simp only[jf,an,aB]at e;obtain⟨rfl,rfl⟩:=e;exact wpIn_ret (hp E a w .ret (iy.refl r.good) (fun _ _=>rfl) (aA _) r trivial)
 |rangeFunc g ps assign body _ _=>
  intro s x s' pA ic e E a w Q r hp;have Up:uT=none:=by
   rcases pA with q|q
   . exact q
   . cases q
  subst Up;exact Il oB ic e r hp
 |scope c _=>intro s x s' _ _ e;cases e
 |label l=>intro s x s' _ _ e;cases e
 |goto l=>intro s x s' _ _ e;cases e
 |refuse w=>intro s x s' _ _ e;cases e
def CE(tmps:Array Value):ResultVar->Sem Value
 | .tmp t=>pure (tmps.getD t undef)
 | .cell c t=>do loadVar t (<- asAddr (tmps.getD c undef))
theorem Kz(fn:Func)(tmps:Array Value):results fn tmps=(do
  let vs <- fn.results.mapM (CE tmps)
  pure (if h:vs.size=1 then vs[0]else .tuple vs)):=by
 unfold results;congr 1
theorem AW{E:Env}{h:Tr O}{w:World}{fr:Tr V}{a:Act}(g:Good E h w)(r:yM E fr a):∀(rs:List ResultVar) (vs:ag),lq P fr h rs=some vs->
  ∃Xr,(rs.mapM (CE a.tmps)).run P w= .ok Xr w/\dI E vs Xr
 | [],vs,e=>by simp only[lq,an]at e;subst e;exact⟨[],rfl,rfl⟩
 |x::rs,vs,e=>by
  simp only[lq]at e;cases h1:FZ P fr h x with
  |none=>simp[h1]at e
  |some v=>cases h2:lq P fr h rs with
   |none=>simp[h1,h2]at e
   |some us=>
    simp only[h1,h2,an]at e;subst e;obtain⟨us',q1,q2⟩:=AW g r rs us h2;have hv:∃v',(CE a.tmps x).run P w= .ok v' w/\dF E v v':=by
     cases x with
     |tmp t=>
      obtain⟨v',p1,p2⟩:=r t v h1;exact⟨v',by simp[CE,p1],p2⟩
     |cell c t=>
      simp only[FZ]at h1;split at h1
      . rename_i u hu;obtain⟨u',p1,p2⟩:=r c u hu;obtain⟨b,sh,rfl,v',p3,p4⟩:=Cf (P:=P) g p2 h1;refine⟨v',?_,p4⟩;simp[CE,p1,asAddr,p3]
      . cases h1
    obtain⟨v',p1,p2⟩:=hv;refine⟨v'::us',?_,v',us',p2,q2,rfl⟩;rw[List.mapM_cons];simp only[Sem.run_bind,p1,q1,Result.andThen_ok,Sem.run_pure]
theorem AX{E:Env}{h:Tr O}{w:World}{fr:Tr V}{a:Act}{fn:Func}{vs:ag}(g:Good E h w)(r:yM E fr a)(e:lq P fr h fn.results.toList=some vs):
  ∃v',(results fn a.tmps).run P w= .ok v' w/\dF E (oneOf vs) v':=by
 obtain⟨Xr,q1,q2⟩:=AW (P:=P) g r fn.results.toList vs e;have fM:(results fn a.tmps).run P w= .ok (if h:Xr.toArray.size=1 then Xr.toArray[0]else .tuple Xr.toArray) w:=by
  rw[Kz,Array.mapM_eq_mapM_toList];simp only[Sem.run_bind,Sem.run_map,q1,Result.andThen_ok,Sem.run_pure]
 refine⟨_,fM,?_⟩
 match vs,q2 with
 | [],q2=>simp only[dI]at q2;subst q2;exact⟨[],rfl,rfl⟩
 | [v],q2=>
   obtain⟨y,ys,p1,p2,rfl⟩:=q2;simp only[dI]at p2;subst p2;exact p1
 |u::v::us,q2=>
  have HB:=eL q2;rw[dif_neg (by simp only[List.size_toArray,HB,aT];omega)];exact⟨Xr,q2,rfl⟩
end
def Gp(E:Env):Mode->FrameMode->Prop
 | .ret,.returning=>True
 | .zQ v b,.panicking chain=>∃v',dF E v v'/\chain=[{ v:=v',recovered:=b }]
 |_,_=>False
theorem ER{E E':Env}(h:E.le E'):∀{m:Mode} {u:FrameMode},Gp E m u->Gp E' m u
 | .ret,.returning,_=>trivial
 | .zQ _ _,.panicking _,⟨v',r,q⟩=>⟨v',jl h _ _ r,q⟩
 | .ret,.run,r=>r.elim
 | .ret,.panicking _,r=>r.elim
 | .zQ _ _,.run,r=>r.elim
 | .zQ _ _,.returning,r=>r.elim
def ES(E:Env)(N:Nat)(s:St)(w:World)(x:X)(s':St)(m':Mode)(mT:Frame)(cs:List Frame)(Q:Exit->Act->List Frame->World->Prop):Prop:=
 ∀E' a' w' x' u',iy E s.h w E' s'.h w'->(∀k,k<s.n->E'.ι k=E.ι k)->s.n<=s'.n->jV E' N s' a' w'->N6 E' x x'->Gp E' m' u'->Q x' a' ({ mT with mode:=u' }::cs) w'
theorem ES.after{E E1:Env}{N:Nat}{s s1 s':St}{w w1:World}{x:X}{m':Mode}{mT:Frame}{cs:List Frame}{Q:Exit->Act->List Frame->World->Prop}(p:ES E N s w x s' m' mT cs Q)(u:iy E s.h w E1 s1.h w1)
  (fK:∀k,k<s.n->E1.ι k=E.ι k) (hn:s.n<=s1.n):ES E1 N s1 w1 x s' m' mT cs Q:=
 fun E' a' w' x' u2 u' Qn pC r rx rm=>p E' a' w' x' u2 (u.trans u') (fun k hk=>by rw[Qn k be];exact fK k hk) be r rx rm
section
variable{P:Program}{cf:fO}{F N:Nat}
theorem Gq(k n:Nat):List.range' k (n+1)=k::List.range' (k+1) n:=by simp[List.range'_succ]
theorem qv{ops:Array Oper}(mT:Frame)(cs:List Frame):∀(l:List Oper) (k:Nat) (s:St) (m:Mode) (x:X) (s':St) (m':Mode),(∀j,l[j]? =ops[k+j]?)->(∀o∈l,nj N o.dst)->qT P cf ops l s m=some (x,s',m')->
  ∀(E:Env) (a:Act) (w:World) (u:FrameMode) (Q:Exit->Act->List Frame->World->Prop),jV E N s a w->Gp E m u->ES E N s w x s' m' mT cs Q->
   wpOpsS P ops Q (List.range' k l.length) a ({ mT with mode:=u }::cs) w
 | [],k,s,m,x,s',m',_,_,e,E,a,w,u,Q,r,rm,hp=>by
   simp only[qT,an,aB]at e;obtain⟨rfl,rfl,rfl⟩:=e;exact hp E a w .normal u (iy.refl r.good) (fun _ _=>rfl) (aA _) r trivial rm
 |o::rest,k,s,m,x,s',m',kH,ud,e,E,a,w,u,Q,r,rm,hp=>by
  have ho:=ud o (by simp);have u6:∀o∈rest,nj N o.dst:=fun o h=>ud o (by simp[h]);have Uv:nj a.tmps.size o.dst:=by rw[r.size];exact ho
  have hgr:∀j,rest[j]? =ops[k+1+j]?:=fun j=>by have:=kH (j+1);simpa[cA,Nat.add_comm 1 j]using this
  have ic:ops[k]? =some o:=by have:=kH 0;simpa using this.symm
  simp only[qT]at e;simp only[aT,Gq,wpOpsS,ic];have Ik:∀b,iA ops o s.fr=some b->Region.wanted o (yielded ops a.tmps)=b:=fun b hb=>xw (E:=E) (fun _ _ _ d _ _ _ v hv=>r.fr d v hv) hb;have Ed:∀y∈o.op.operands,mI E s.fr a.eval y:=fun y _=>iG r.good.jm r.fr y;split at e
  . rename_i hw;rw[aI (by rw[Ik _ hw];simp)];split at e
    . rename_i fr rD;exact qv mT cs rest (k+1) _ m x s' m' hgr u6 e E _ w u Q ⟨r.good,r.nZ,jA r.fr rD ⟨[],rfl,rfl⟩ Uv,by rw[iF];exact r.size,by rw[gA];exact r.gz⟩ rm (hp.after (iy.refl r.good) (fun _ _=>rfl) (aA _))
    . cases e
  . rename_i hw;rw[aG (Ik _ hw)];split at e
    . rename_i v h n hs;split at e
      . rename_i fr rD;obtain⟨E',w',v',fM,q1,q2,q3,q4⟩:=mJ r.good (r.nZ _ (aA _)) Ed hs;have hn:s.n<=n:=by rcases q4 with⟨rfl,_⟩|rfl<;>omega
        have rX:qL E' n:=by
         rcases q4 with⟨rfl,rfl⟩|rfl
         . exact r.nZ
         . intro k hk;rw[q3 k be];exact r.nZ k be
        have uc:=qv mT cs rest (k+1) _ m x s' m' hgr u6 e E' (a.put o.dst v') w' u Q ⟨q2.good,rX,jA (jT q2.le r.fr) rD q1 Uv,by rw[iF];exact r.size,by rw[gA];exact iU q2.le _ _ r.gz⟩ (ER q2.le rm)
         (hp.after q2 (fun k hk=>q3 k be) hn)
        rcases fM with fM|⟨fM,rfl⟩
        . rw[fM];simp only[Oper.upon_value];exact uc
        . rw[fM];simp only[Oper.upon_skip];exact uc
      . cases e
    . rename_i hs;have fM:=mJ r.good (r.nZ _ (aA _)) Ed hs;simp only[kf]at fM;rw[fM];simp only;split at e
      . rename_i v;split at e
        . rename_i fr rD;cases u with
          |panicking chain=>
           obtain⟨v',q1,rfl⟩:=rm;simp only[recoverD];exact qv mT cs rest (k+1) _ (.zQ v true) x s' m' hgr u6 e E (a.put o.dst v') w (.panicking [{ v:=v',recovered:=true }]) Q ⟨r.good,r.nZ,jA r.fr rD q1 Uv,by rw[iF];exact r.size,by rw[gA];exact r.gz⟩ ⟨v',q1,rfl⟩
            (hp.after (iy.refl r.good) (fun _ _=>rfl) (aA _))
          |run=>exact rm.elim
          |returning=>exact rm.elim
        . cases e
      . rename_i hnp;split at e
        . rename_i fr rD;have Ip:recoverD ({ mT with mode:=u }::cs)=none:=by
           cases m with
           |ret=>cases u<;>first|(exact rm.elim)|rfl
           |zQ v b=>
            cases b with
            |false=>exact absurd rfl (hnp v)
            |true=>
             cases u with
             |panicking chain=>obtain⟨v',q1,rfl⟩:=rm;rfl
             |run=>exact rm.elim
             |returning=>exact rm.elim
          rw[Ip];exact qv mT cs rest (k+1) _ m x s' m' hgr u6 e E (a.put o.dst .nilIface) w u Q ⟨r.good,r.nZ,jA r.fr rD rfl Uv,by rw[iF];exact r.size,by rw[gA];exact r.gz⟩ rm (hp.after (iy.refl r.good) (fun _ _=>rfl) (aA _))
        . cases e
    . cases e
  . cases e
theorem Ee{c:Operand}{x y:Code}{a:Act}{cs:List Frame}{w:World}{Q:Exit->Act->List Frame->World->Prop}(hc:a.eval c= .bool true)(h:x.wpS P Q a cs w):(Code.cond c x y).wpS P Q a cs w:=wpS_cond hc h
theorem CF{c:Operand}{x y:Code}{a:Act}{cs:List Frame}{w:World}{Q:Exit->Act->List Frame->World->Prop}(hc:a.eval c= .bool false)(h:y.wpS P Q a cs w):(Code.cond c x y).wpS P Q a cs w:=wpS_cond hc h
theorem AY(oB:ji P cf)(hm:P.follows .mixedOrders=true){c:Code}{s s':St}{x:X}{m m':Mode}(ic:eU N c=true)(e:(match jf P cf F c s with|some (x,s')=>some (x,s',m)|none=>none)=some (x,s',m'))
  {mT:Frame} {cs:List Frame} {E:Env} {a:Act} {w:World} {u:FrameMode} {Q:Exit->Act->List Frame->World->Prop} (r:jV E N s a w) (rm:Gp E m u) (hp:ES E N s w x s' m' mT cs Q):c.wpS P Q a ({ mT with mode:=u }::cs) w:=by
 cases h1:jf P cf F c s with
 |none=>simp[h1]at e
 |some p=>
  obtain⟨x1,s1⟩:=p;simp only[h1,an,aB]at e;obtain⟨rfl,rfl,rfl⟩:=e;exact wpS_of_wp (wpIn_wide.1 (mK (uT:=none) oB hm c s x1 s1 (.inl rfl) ic h1 E a w _ r fun E' a' w' x' u' fK hn r' hx=>hp E' a' w' x' u u' fK hn r' hx (ER u'.le rm)))
theorem AZ(oB:ji P cf)(hm:P.follows .mixedOrders=true)(mT:Frame)(cs:List Frame):∀(c:Code) (s:St) (m:Mode) (x:X) (s':St) (m':Mode),eU N c=true->tS P cf F c s m=some (x,s',m')->
  ∀(E:Env) (a:Act) (w:World) (u:FrameMode) (Q:Exit->Act->List Frame->World->Prop),jV E N s a w->Gp E m u->ES E N s w x s' m' mT cs Q->c.wpS P Q a ({ mT with mode:=u }::cs) w:=by
 intro c
 induction c with
 |region id ops J3=>
  intro s m x s' m' ic e E a w u Q r rm hp;cases J3 with
  |false=>
   simp only[tS]at e;have Uy:=ic;simp only[eU,aC]at Uy;have:=qv (P:=P) (cf:=cf) (ops:=ops) mT cs ops.toList 0 s m x s' m' (fun j=>by simp) (fun o ho d hd=>by
    have:=bn.1 Uy.1 o ho;rw[hd]at this;simpa using this) e E a w u Q r rm hp
   exact wpS_region (by rw[List.range_eq_range',<- Array.length_toList];exact this)
  |true=>
   simp only[tS]at e;exact AY (F:=F) oB hm ic e r rm hp
 |seq c1 c2 Qa Qb=>
  intro s m x s' m' ic e E a w u Q r rm hp;simp only[eU,aC]at ic;simp only[tS]at e;refine wpS_seq ?_;cases h1:tS P cf F c1 s m with
  |none=>simp[h1]at e
  |some p=>
   obtain⟨x1,s1,m1⟩:=p;refine Qa s m x1 s1 m1 ic.1 h1 E a w u _ r rm fun E' a' w' x' u1 uu fK hn r' hx Oa=>?_;cases x1 with
   |normal=>
    simp only[h1]at e;cases x'<;>first|(exact hx.elim)|skip
    exact Qb s1 m1 x s' m' ic.2 e E' a' w' u1 Q r' Oa (hp.after uu fK hn)
   |exit i=>
    simp only[h1,an,aB]at e;obtain⟨rfl,rfl,rfl⟩:=e;cases x'<;>first|(exact hx.elim)|skip
    exact hp E' a' w' _ u1 uu fK hn r' hx Oa
   |ret=>
    simp only[h1,an,aB]at e;obtain⟨rfl,rfl,rfl⟩:=e;cases x'<;>first|(exact hx.elim)|skip
    exact hp E' a' w' _ u1 uu fK hn r' hx Oa
   |panic v=>
    simp only[h1,an,aB]at e;obtain⟨rfl,rfl,rfl⟩:=e;cases x'<;>first|(exact hx.elim)|skip
    exact hp E' a' w' _ u1 uu fK hn r' hx Oa
 |cond c c1 c2 Qa Qb=>
  intro s m x s' m' ic e E a w u Q r rm hp;simp only[eU,aC]at ic;simp only[tS]at e;split at e
  . rename_i hc;exact Ee (oD r.good.jm r.fr hc) (Qa s m x s' m' ic.1 e E a w u Q r rm hp)
  . rename_i hc;exact CF (oD r.good.jm r.fr hc) (Qb s m x s' m' ic.2 e E a w u Q r rm hp)
  . cases e
 |_=>
  intro s m x s' m' ic e E a w u Q r rm hp;simp only[tS]at e;exact AY (F:=F) oB hm ic e r rm hp
theorem u7:∀(vs:ag) (i:Nat) (t:Tr V) (k:Nat),i+vs.length<fN->(lP vs i t).get k=if i<=k/\k<i+vs.length then vs[k-i]? else t.get k
 | [],i,t,k,_=>by simp only[lP,bO];rw[aI be]
 |v::vs,i,t,k,h=>by
  simp only[aT]at h;simp only[lP,aT];rw[u7 vs (i+1) _ k be,Tr.eS _ _ _ be];by_cases q:k=i
  . subst q;rw[aI be,aG rfl,aG be];simp
  . rw[aI q];by_cases q2:i+1<=k/\k<i+1+vs.length
    . rw[aG q2,aG be];have:k-i=(k-(i+1))+1:=by omega
      rw[this];simp
    . rw[aI q2,aI be]
theorem tj{E:Env}{args:ag}{c9:List Value}{n:Nat}(r:dI E args c9)(hn:args.length<=n)(ht:n<fN):
  yM E (lP args 0 .nil) { tmps:=c9.toArray++Array.replicate (n-c9.toArray.size) undef,defers:=[] }/\(c9.toArray++Array.replicate (n-c9.toArray.size) undef).size=n:=by
 have hl:=eL r;refine⟨fun t v hv=>?_,by simp;omega⟩;rw[u7 args 0 .nil t be]at hv;split at hv
 . rename_i hi;obtain⟨v',h1,h2⟩:=gC r _ v hv;refine⟨v',?_,h2⟩;simp only[Nat.sub_zero]at h1;rw[bR (by simp;omega)];simpa using h1
 . cases hv
def lB(P:Program):Bool:=P.funcs.toList.all fun fn=>match fn.body with|some c=>eU fn.ntmps c|none=>true
theorem A2(h:lB P=true){f:FuncId}{fn:Func}{c:Code}(hf:P.funcs[f]? =some fn)(hb:fn.body=some c):eU fn.ntmps c=true:=by
 unfold lB at h;have:=bn.1 h fn (by rw[<- bK]at hf;exact bf hf);rw[hb]at this;exact this
theorem By{f:FuncId}{fn:Func}{c:Code}{args:Array Value}{u:FrameMode}{w:World}{R:Ending->FrameMode->World->Prop}
  (hf:P.funcs[f]? =some fn) (hb:fn.body=some c)
  (h:∀(mT:Frame) (cs:List Frame),mT.mode=u->
   c.wpS P (bodyPostS P fn mT cs R) { tmps:=args++Array.replicate (fn.ntmps-args.size) undef,defers:=[] } (mT::cs) w):
  CallsDIn Fence.wide (0-1) P f args u w R:=by
 refine⟨trivial,fun mT cs hu _=>?_⟩
 let b:Frame:={ (default:Frame)with fn:=f,kind:=.deferred }
 have Zn:Frame.enter P f args .deferred=
   b.at { tmps:=args++Array.replicate (fn.ntmps-args.size) undef,defers:=[] } [.code c]:=by
  simp[Frame.enter,Frame.at,hf,hb,b]
 obtain⟨e,a',cs',w',hq,Qq⟩:=h mT cs hu b [] rfl rfl;rw[<- Zn]at Qq;cases e with
 |normal=>
  obtain⟨hd,u',rfl,v,hr,hR⟩:=hq;exact⟨.returned v,u',w',_,hR,comesIn_wide.2 (Steps.trans Qq (.one step_end)),rfl,rfl,rfl,hd,fn,hf,hr⟩
 |ret=>
  obtain⟨hd,u',rfl,v,hr,hR⟩:=hq;obtain⟨ajI,hs⟩:=Qq;exact⟨.returned v,u',w',_,hR,comesIn_wide.2 hs,rfl,rfl,rfl,hd,fn,hf,hr⟩
 |panic chain=>
  obtain⟨hd,u',rfl,hR⟩:=hq;obtain⟨ajI,hs⟩:=Qq;exact⟨.panicked chain,u',w',_,hR,comesIn_wide.2 hs,rfl,rfl,rfl,hd,fn,hf⟩
 |exit id=>exact hq.elim
 |goto l=>exact hq.elim
 |outgrown=>
  obtain⟨u',hR⟩:=hq;exact⟨.outgrown,u',w',b,hR,comesIn_wide.2 (Qq.resolve_left (by simp[b])),rfl,rfl,trivial⟩
theorem qV(oB:ji P cf)(hm:P.follows .mixedOrders=true)(xD:lB P=true){fn:Func}{fr:Tr V}{a:Act}:∀(ds:List (FuncId×ag×ag)) (m:Mode) (h:Tr O) (n:Nat) (tV:PJ) (h':Tr O) (n':Nat),
  nF P cf F fn fr ds m h n=some (tV,h',n')->∀(E:Env) (w:World) (ds':List Deferred) (u:FrameMode) (R:Ending->World->Prop),Good E h w->qL E n->yM E fr a->wS E ds ds'->Gp E m u->
   (∀E' w' en,iy E h w E' h' w'->(∀k,k<n->E'.ι k=E.ι k)->qL E' n'->n<=n'->tf E' tV en->R en w')->LeavesInM Fence.wide 0 P fn a.tmps R ds' u w
 | [],m,h,n,tV,h',n',e,E,w,ds',u,R,g,hd,hf,XB,rm,hR=>by
   simp only[wS]at XB;subst XB;cases m with
   |ret=>
    cases u<;>first|(exact rm.elim)|skip
    simp only[nF]at e;split at e
    . rename_i vs hr;simp only[an,aB]at e;obtain⟨rfl,rfl,rfl⟩:=e;obtain⟨v',h1,h2⟩:=AX (P:=P) g hf hr;exact⟨v',h1,hR E w _ (iy.refl g) (fun _ _=>rfl) hd (aA _) h2⟩
    . cases e
   |zQ v b=>
    cases u with
    |panicking chain=>
     obtain⟨v',q1,rfl⟩:=rm;cases b with
     |false=>
      simp only[nF,an,aB]at e;obtain⟨rfl,rfl,rfl⟩:=e;exact hR E w _ (iy.refl g) (fun _ _=>rfl) hd (aA _) ⟨v',q1,rfl⟩
     |true=>cases e
    |run=>exact rm.elim
    |returning=>exact rm.elim
 |(gf,c,args)::ds,m,h,n,tV,h',n',e,E,w,ds',u,R,g,hd,hf,XB,rm,hR=>by
  obtain⟨d,ys,Qr,r3,rfl⟩:=XB;simp only[nF]at e;have adV:u≠ .run:=by intro q;subst q;cases m<;>exact rm.elim
  split at e
  ·
   rename_i gH;rcases Qr with⟨q,_⟩|⟨_,m0,b,s0,ha,jb,rfl⟩
   . exact absurd q (Nat.not_lt.2 gH)
   simp only at ha;subst ha;simp only at e;split at e
   . rename_i TY;split at e
     . rename_i fJ;obtain⟨b',s',q1,q2⟩:=g.rel _ _ TY;rw[jb]at q1;cases q1;have uk:iy E h w E (h.set m0 none) (w.putObj b (.deferred none)):=iy.kill g fJ ⟨_,TY,rfl⟩ jb (by simp) rfl rfl rfl fun x hx=>World.putObj_heap_other hx;exact⟨adV,.inl ⟨b,_,rfl,run_takeDeferred q2,qV oB hm xD ds m _ n tV h' n' e E _ ys u R uk.good hd hf r3 rm fun E2 w2 en u2 qu Gl xn ho=>hR E2 w2 en (uk.trans u2) qu Gl xn ho⟩⟩
     . cases e
   . cases e
  rename_i gH;obtain⟨c',c9,r1,r2,rfl⟩:∃c' c9,dI E c c'/\dI E args c9/\d={ target:=.fn (.func gf) c'.toArray,args:=c9.toArray }:=by
   rcases Qr with⟨_,q⟩|⟨q,_⟩
   . exact q
   . exact absurd (Nat.le_of_eq q.symm) gH
  split at e
  . rename_i gn hgn;split at e
    . rename_i code hb;split at e
      . rename_i hq;obtain⟨uR,iT,gH⟩:=hq;have hvr:=iB r2 r1;obtain⟨ya,lQ⟩:=tj (n:=gn.ntmps) hvr iT gH;have ET:=A2 xD hgn hb;have next:∀(s':St) (m':Mode) (vs:ag),s'.gz=[]->lq P s'.fr s'.h gn.results.toList=some vs->nF P cf F fn fr ds (match m' with | .zQ _ true=>.ret|m=>m) s'.h s'.n=some (tV,h',n')->
          ∀E' (a':Act) w' u',iy E h w E' s'.h w'->(∀k,k<n->E'.ι k=E.ι k)->n<=s'.n->jV E' gn.ntmps s' a' w'->Gp E' m' u'->
          a'.defers=[]/\∃v,(results gn a'.tmps).run P w'= .ok v w'/\LeavesInM Fence.wide 0 P fn a.tmps R ys (settle u') w':=by
         intro s' m' vs TY NM F4 E' a' w' u' uu fK hn r' Oa;have ajJ:a'.defers=[]:=by have:=r'.gz;rw[TY]at this;exact this
         obtain⟨v',p1,p2⟩:=AX (P:=P) r'.good r'.fr NM;refine⟨ajJ,v',p1,?_⟩;refine qV oB hm xD ds _ s'.h s'.n tV h' n' F4 E' w' ys (settle u') R r'.good r'.nZ (jT uu.le hf) (iU uu.le _ _ r3) ?_ fun E2 w2 en u2 qu Gl xn ho=>hR E2 w2 en (uu.trans u2) (fun k hk=>by rw[qu k be];exact fK k hk) Gl be ho;cases m' with
         |ret=>cases u'<;>first|(exact Oa.elim)|trivial
         |zQ v b=>
          cases u' with
          |panicking chain=>
           obtain⟨v2,q1,rfl⟩:=Oa;cases b with
           |false=>exact⟨v2,q1,rfl⟩
           |true=>trivial
          |run=>exact Oa.elim
          |returning=>exact Oa.elim
        have Qo:(invoke (.fn (.func gf) c'.toArray) c9.toArray).run P w= .ok (.enter gf (c9++c').toArray) w:=by
         simp only[invoke];have:c9.toArray++c'.toArray=(c9++c').toArray:=by simp
         rw[this];exact pP uR
        refine⟨adV,.inr ⟨fun hd=>by simp[Fence.wide]at hd,_,_,gf,_,rfl,Qo,fun _ _=>trivial,By hgn hb fun mT cs adW=>?_⟩⟩;have rR:mT={ mT with mode:=u }:=by subst adW;rfl
        rw[rR];have Oc:jV E gn.ntmps { fr:=lP (args++c) 0 .nil,h:=h,n:=n,gz:=[] } { tmps:=(c9++c').toArray++Array.replicate (gn.ntmps-(c9++c').toArray.size) undef,defers:=[] } w:=⟨g,hd,ya,lQ,rfl⟩;split at e
        . rename_i s' m' hx;split at e
          . rename_i TY;split at e
            . rename_i vs NM;refine AZ oB hm mT cs code _ m .normal s' m' ET hx E _ w u _ Oc rm fun E' a' w' x' u' uu fK hn r' sM Oa=>?_;cases x'<;>first|(exact sM.elim)|skip
              obtain⟨k1,v,k2,k3⟩:=next s' m' vs TY NM e E' a' w' u' uu fK hn r' Oa
              exact⟨k1,u',rfl,v,k2,k3⟩
            . cases e
          . cases e
        . rename_i s' m' hx;split at e
          . rename_i TY;split at e
            . rename_i vs NM;refine AZ oB hm mT cs code _ m .ret s' m' ET hx E _ w u _ Oc rm fun E' a' w' x' u' uu fK hn r' sM Oa=>?_;cases x'<;>first|(exact sM.elim)|skip
              obtain⟨k1,v,k2,k3⟩:=next s' m' vs TY NM e E' a' w' u' uu fK hn r' Oa
              exact⟨k1,u',rfl,v,k2,k3⟩
            . cases e
          . cases e
        . cases e
      . cases e
    . cases e
  . cases e
theorem Iq(oB:ji P cf)(hm:P.follows .mixedOrders=true)(xD:lB P=true){f:FuncId}{args:ag}{h:Tr O}{n:Nat}{tV:PJ}{h':Tr O}{n':Nat}(e:enter P cf F f args h n=some (tV,h',n'))
  {E:Env} {w:World} {c9:List Value} (ra:dI E args c9) (g:Good E h w) (hd:qL E n):Calls P f c9.toArray w (jU E h n w tV h' n'):=by
 unfold enter at e;split at e
 . rename_i fn hf;split at e
   . rename_i code hb;split at e
     . rename_i hq;obtain⟨ya,lQ⟩:=tj (n:=fn.ntmps) ra hq.1 hq.2;have ET:=A2 xD hf hb;have Oc:jV E fn.ntmps { fr:=lP args 0 .nil,h:=h,n:=n,gz:=[] } { tmps:=c9.toArray++Array.replicate (fn.ntmps-c9.toArray.size) undef,defers:=[] } w:=⟨g,hd,ya,lQ,rfl⟩;refine callsIn_wide.1 (callsIn_of_wp_marks (n:=0) hf hb trivial ?_);have Cu:∀(s:St) (m:Mode) (u:FrameMode) (E':Env) (a':Act) (w':World),nF P cf F fn s.fr s.gz m s.h s.n=some (tV,h',n')->iy E h w E' s.h w'->(∀k,k<n->E'.ι k=E.ι k)->n<=s.n->jV E' fn.ntmps s a' w'->Gp E' m u->
         LeavesInM Fence.wide 0 P fn a'.tmps (jU E h n w tV h' n') a'.defers u w':=by
        intro s m u E' a' w' hl uu fK hn r' rm;exact qV oB hm xD s.gz m s.h s.n tV h' n' hl E' w' a'.defers u _ r'.good r'.nZ r'.fr r'.gz rm fun E2 w2 en u2 qu Gl xn ho=>⟨E2,uu.trans u2,fun k hk=>by rw[qu k be];exact fK k hk,Gl,be,ho⟩
       split at e
       . rename_i s hx;refine mK (uT:=none) oB hm code _ _ s (.inl rfl) ET hx E _ w _ Oc fun E' a' w' x' uu fK hn r' sM=>?_;cases x'<;>first|(exact sM.elim)|skip
         exact Cu s .ret .returning E' a' w' e uu fK hn r' trivial
       . rename_i s hx;refine mK (uT:=none) oB hm code _ _ s (.inl rfl) ET hx E _ w _ Oc fun E' a' w' x' uu fK hn r' sM=>?_;cases x'<;>first|(exact sM.elim)|skip
         exact Cu s .ret .returning E' a' w' e uu fK hn r' trivial
       . rename_i v s hx;refine mK (uT:=none) oB hm code _ _ s (.inl rfl) ET hx E _ w _ Oc fun E' a' w' x' uu fK hn r' sM=>?_;cases x'<;>first|(exact sM.elim)|skip
         exact Cu s (.zQ v false) _ E' a' w' e uu fK hn r' sM
       . cases e
     . cases e
   . cases e
 . cases e
theorem CG{E:Env}:∀(ps:List Nat) (args:ag) (c9:List Value) (fr zS:Tr V) (t:Array Value),xh (J2 ps args) fr=some zS->dI E args c9->(∀p∈ps,p<t.size)->PM E fr t->
  PM E zS ((ps.zip c9).foldl (fun t (p,v)=>t.setIfInBounds p v) t)/\((ps.zip c9).foldl (fun t (p,v)=>t.setIfInBounds p v) t).size=t.size
 | [],args,c9,fr,zS,t,e,_,_,r=>by simp only[J2,xh,an]at e;subst e;exact⟨by simpa using r,by simp⟩
 |p::ps,[],c9,fr,zS,t,e,ra,_,r=>by
  simp only[J2,xh,an]at e;subst e;simp only[dI]at ra;subst ra;exact⟨by simpa using r,by simp⟩
 |p::ps,v::vs,c9,fr,zS,t,e,ra,hp,r=>by
  obtain⟨y,ys,r0,rs,rfl⟩:=ra;simp only[J2,xh]at e;split at e
  . rename_i fJ;have Zo:=hp p (by simp);have h2:=CG ps vs ys _ zS (t.setIfInBounds p y) e rs (fun q hq=>by simpa using hp q (by simp[hq])) (fun k x hx=>by
     rw[Tr.eS _ _ _ fJ]at hx;by_cases q:k=p
     . subst q;rw[aG rfl]at hx;cases hx;exact⟨y,by simp[Zo],r0⟩
     . rw[aI q]at hx;obtain⟨x',k1,k2⟩:=r k x hx;exact⟨x',by rw[Array.getElem?_setIfInBounds_ne (Ne.symm q)];exact k1,k2⟩)
    simp only[List.zip_cons_cons,List.foldl_cons];exact⟨h2.1,by rw[h2.2];simp⟩
  . cases e
theorem Od(ps:Array Nat)(args:List Value)(t:Array Value):(ps.zip args.toArray).foldl (fun t (p,v)=>t.setIfInBounds p v) t=(ps.toList.zip args).foldl (fun t (p,v)=>t.setIfInBounds p v) t:=by
 rw[<- Array.foldl_toList];congr 1;simp
theorem Ir(oB:ji P cf)(hm:P.follows .mixedOrders=true){m:Nat}{args:ag}{h:Tr O}{n:Nat}{tV:PJ}{h':Tr O}{n':Nat}(e:xj P cf F m args h n=some (tV,h',n'))
  {E:Env} {w:World} {c9:List Value} (ra:dI E args c9) (g:Good E h w) (hd:qL E n) {l s0:Nat} (jb:E.ι m=some (l,s0)):YieldAt Fence.wide 0 P l c9.toArray w (jU E h n w tV h' n'):=by
 unfold xj at e;split at e
 case h_2=>cases e
 rename_i fr ps assign body kH;split at e
 case isFalse=>cases e
 rename_i hq;obtain⟨yS,pA,hpa,hpb⟩:=hq;split at e
 case h_2=>cases e
 rename_i zS rD;obtain⟨b,s',q1,r,hb,z6,hpe,HA,ajL,ajM,htr,Zp,Af,adX⟩:=g.rel _ _ kH;rw[jb]at q1;cases q1;simp only[if_true]at z6;subst HA;subst ajL;subst ajM;have hlw:l<w.heap.size:=(aQ.1 hb).1;have XC:eC h m:=⟨_,kH,rfl⟩;have fM:=run_yield (P:=P) (args:=c9.toArray) hb (by simp[eL ra,<- pA]);refine⟨_,_,_,_,fM,roundIn_of_wpIn trivial ?_⟩;rw[Od];obtain⟨ajN,Ea⟩:=CG r.params.toList args c9 fr zS r.tmps rD ra adX htr;have uO:∀k o,(h.set m none).get k=some o->k≠m/\h.get k=some o:=by
  intro k o hk;rw[Tr.eS _ _ _ yS]at hk;split at hk
  . cases hk
  . rename_i q;exact⟨q,hk⟩
 have CH:∀k o,(h.set m none).get k=some o->h.get k=some o:=fun k o q=>(uO k o q).2;split at e
 case h_2=>cases e
 rename_i s1 Um;refine mK (uT:=some l) oB hm r.assign _ _ s1 (.inr hpa) (by rw[<- Ea]at Zp;exact Zp) Um E _ w _ ⟨g.sub CH,hd,ajN,rfl,rfl⟩ fun E1 a1 w1 x1 u1 EU DW r1 ajO=>?_;cases x1<;>first|(exact ajO.elim)|skip
 have nl0:∀k t,(h.set m none).get k≠none->E.ι k≠some (l,t):=by
  intro k t hk q;obtain⟨o,ho⟩:=bg.1 hk;obtain⟨c1,c2⟩:=uO k o ho;exact g.inj m k l s0 t (fun q=>c1 q.symm) XC (by rw[c2];simp) jb q
 have nl1:∀k t,s1.h.get k≠none->E1.ι k≠some (l,t):=by
  intro k t hk q;obtain⟨m0,t0,c1,c2,_⟩:=u1.sV k l t hk q hlw;exact nl0 m0 t0 c1 c2
 have yD:w1.heap[l]? =some (.loop r):=(u1.keep l hlw fun k t hk=>nl0 k t hk.live).trans hb;have Oe:l<w1.heap.size:=(aQ.1 yD).1;refine⟨_,run_beginRound yD z6,?_⟩;generalize Kw:w1.putObj l (.loop { r with state:=.busy })=w2;have HT:w2.heap[l]? =some (.loop { r with state:=.busy }):=by rw[<- Kw];exact World.putObj_heap_same Oe
 have HX:w2.heap.size=w1.heap.size:=by rw[<- Kw];simp
 have Qs:∀k,k≠l->w2.heap[k]? =w1.heap[k]?:=fun k hk=>by rw[<- Kw];exact World.putObj_heap_other hk
 have qw:Good E1 s1.h w2:=by
  refine⟨fun k o hk=>?_,u1.good.inj,fun k b s hk=>by rw[HX];exact u1.good.mU k b s hk,u1.good.jm,fun b c hc=>⟨?_,(u1.good.gM b c hc).2⟩⟩
  case refine_2=>
   obtain⟨⟨el,fz,mh⟩,_⟩:=u1.good.gM b c hc;rw[Qs b fun q=>by rw[q,yD]at mh;cases mh];exact⟨el,fz,mh⟩
  obtain⟨b,s,k1,k2⟩:=u1.good.rel k o hk;have fP:b≠l:=by intro q;subst q;exact nl1 k s (by rw[hk];simp) k1
  exact⟨b,s,k1,ik E1.le_refl rfl (Qs b fP) k2⟩
 have hN1:a1.tmps.size=r.tmps.size:=by
  exact r1.size.trans Ea
 have rest:∀(x:X) (s2:St),jf P cf F r.body s1=some (x,s2)->∀(st:Bool) (pe:Option Code) (Q:Exit->Act->World->Prop),
   (∀x' E2 a2 w3,N6 E2 x x'->((Instr.endRound l pe).run P w3= .ok (.bool pe.isNone) (w3.putObj l (.loop { r with state:=if pe.isNone then .ready else .done,pending:=pe }))->
    (pe.isNone=st->iy E h w E2 (s2.h.set m (some (.loop st pe fr r.params.toList r.assign r.body))) (w3.putObj l (.loop { r with state:=if pe.isNone then .ready else .done,pending:=pe })))->qL E2 s2.n->n<=s2.n->(∀k,k<n->E2.ι k=E.ι k)->Q x' a2 w3))->
   r.body.wpIn (fz (some l)) 0 P Q a1 w2:=by
  intro x s2 Qt st pe Q hQ;refine mK (uT:=some l) oB hm r.body s1 x s2 (.inr hpb) Af Qt E1 a1 w2 Q ⟨qw,r1.nZ,r1.fr,hN1,r1.gz⟩ fun E2 a2 w3 x' u2 qu xn r2 sM=>?_;refine hQ x' E2 a2 w3 sM ?_ ?_ r2.nZ (bU DW xn) (fun k hk=>by rw[qu k (bD hk DW)];exact EU k hk)
  . have hb3:w3.heap[l]? =some (.loop { r with state:=.busy }):=(u2.keep l (by rw[HX];exact Oe) fun k t hk=>nl1 k t hk.live).trans HT;exact run_endRound (P:=P) (r:={ r with state:=.busy }) pe hb3
  . intro ajP;have nl2:∀k t,s2.h.get k≠none->E2.ι k≠some (l,t):=by
     intro k t hk q;obtain⟨m0,t0,c1,c2,_⟩:=u2.sV k l t hk q (by rw[HX];exact Oe);exact nl1 m0 t0 c1 c2
    have hb3:w3.heap[l]? =some (.loop { r with state:=.busy }):=(u2.keep l (by rw[HX];exact Oe) fun k t hk=>nl1 k t hk.live).trans HT;have Zm:l<w3.heap.size:=(aQ.1 hb3).1;have kC:E.le E2:=Env.le_trans u1.le u2.le;have Qu:E2.ι m=some (l,s0):=(kC.nm m l s0 jb).1;generalize Ef:({ r with state:=if pe.isNone then .ready else .done,pending:=pe }:Loop)=r4;have adY:(w3.putObj l (.loop r4)).heap.size=w3.heap.size:=by simp
    have Qv:∀k,k≠l->(w3.putObj l (.loop r4)).heap[k]? =w3.heap[k]?:=fun k hk=>World.putObj_heap_other hk;have sX:lY E2 (w3.putObj l (.loop r4)) l s0 (.loop st pe fr r.params.toList r.assign r.body):=by
     refine⟨r4,World.putObj_heap_same Zm,?_,?_,?_,?_,?_,?_,?_⟩
     . rw[<- Ef,<- ajP]
     . rw[<- Ef]
     . rw[<- Ef]
     . rw[<- Ef]
     . rw[<- Ef]
     . rw[<- Ef];exact vO kC htr
     . rw[<- Ef];exact⟨Zp,Af,adX⟩
    have qx:∀k o,(s2.h.set m (some (.loop st pe fr r.params.toList r.assign r.body))).get k=some o->(k=m/\o= .loop st pe fr r.params.toList r.assign r.body)\/(k≠m/\s2.h.get k=some o):=by
     intro k o q;rw[Tr.eS _ _ _ yS]at q;split at q
     . rename_i c;cases q;exact .inl ⟨c,rfl⟩
     . rename_i c;exact .inr ⟨c,q⟩
    have Qw:∀b c,E2.φ b=some c->b≠l:=fun b c hc q=>by
     obtain⟨⟨el,fz,mh⟩,_⟩:=u2.good.gM b c hc;rw[q,hb3]at mh;cases mh
    refine⟨kC,⟨?_,?_,?_,u2.good.jm,fun b c hc=>⟨by rw[Qv b (Qw b c hc)];exact(u2.good.gM b c hc).1,fun k t hk q0=>?_⟩⟩,?_,?_,?_,?_,?_,?_,?_⟩
    case refine_4=>
     obtain⟨o,hk,ho⟩:=hk;rcases qx k o hk with⟨rfl,rfl⟩|⟨c',q⟩
     . rw[Qu]at q0;cases q0;exact Qw _ c hc rfl
     . exact(u2.good.gM b c hc).2 k t ⟨o,q,ho⟩ q0
    case refine_11=>
     intro b c hc;rcases u2.DU b c hc with q|q|⟨m1,t1,q1,q2⟩
     . rcases u1.DU b c q with q|q|⟨m0,t0,q1,q2⟩
       . exact .inl q
       . exact .inr (.inl q)
       . exact .inr (.inr ⟨m0,t0,gr CH q1,q2⟩)
     . have c1:=u1.size;exact .inr (.inl be)
     . rcases bN b w.heap.size with Gi|Gi
       . obtain⟨m0,t0,_,f2,f3⟩:=u1.sV m1 b t1 q1.live q2 Gi;exact .inr (.inr ⟨m0,t0,gr CH (f3 q1),f2⟩)
       . exact .inr (.inl Gi)
    . intro k o q;rcases qx k o q with⟨rfl,rfl⟩|⟨c,q⟩
      . exact⟨l,s0,Qu,sX⟩
      . obtain⟨b,t,k1,k2⟩:=u2.good.rel k o q;have fP:b≠l:=by intro c;subst c;exact nl2 k t (by rw[q];simp) k1
        exact⟨b,t,k1,ik E2.le_refl rfl (Qv b fP) k2⟩
    . intro k k' b t t' fP hk uj e1 e2;obtain⟨o,hk,ho⟩:=hk;obtain⟨o',uj⟩:=bg.1 uj;rcases qx k o hk with⟨rfl,rfl⟩|⟨c,q⟩
      . rcases qx k' o' uj with⟨rfl,rfl⟩|⟨c',q'⟩
        . exact fP rfl
        . rw[Qu]at e1;cases e1;exact nl2 k' t' (by rw[q'];simp) e2
      . rcases qx k' o' uj with⟨rfl,rfl⟩|⟨c',q'⟩
        . rw[Qu]at e2;cases e2;exact nl2 k t (by rw[q];simp) e1
        . exact u2.good.inj k k' b t t' fP ⟨o,q,ho⟩ (by rw[q'];simp) e1 e2
    . intro k b t q;rw[adY];exact u2.good.mU k b t q
    . rw[adY];have c1:=u1.size;have c2:=u2.size;omega
    . exact u2.tape.trans (by rw[<- Kw];exact u1.tape)
    . exact u2.os.trans (by rw[<- Kw];exact u1.os)
    . exact u2.output.trans (by rw[<- Kw];exact u1.output)
    . intro b Gi rU;have fP:b≠l:=by intro c;subst c;exact rU m s0 XC jb
      have c1:=u1.size;rw[Qv b fP,u2.keep b be ?_,Qs b fP,u1.keep b Gi ?_]
      . intro k t hk q;exact rU k t (gr CH hk) q
      . intro k t hk q;obtain⟨m0,t0,d1,d2,d3⟩:=u1.sV k b t hk.live q Gi;exact rU m0 t0 (gr CH (d3 hk)) d2
    . intro k b t hk q Gi;obtain⟨o,hk⟩:=bg.1 hk;have c1:=u1.size;rcases qx k o hk with⟨rfl,rfl⟩|⟨c,qk⟩
      . rw[Qu]at q;cases q;exact⟨k,s0,XC.live,jb,fun _=>XC⟩
      . obtain⟨m1,t1,d1,d2,d3⟩:=u2.sV k b t (by rw[qk];simp) q be;obtain⟨m0,t0,f1,f2,f3⟩:=u1.sV m1 b t1 d1 d2 Gi;exact⟨m0,t0,nc CH f1,f2,fun z=>gr CH (f3 (d3 (oz yS z c)))⟩
 split at e
 . rename_i s2 Qt;simp only[an,aB]at e;obtain⟨rfl,rfl,rfl⟩:=e;refine rest _ s2 Qt true none _ fun x' E2 a2 w3 sM fM hu rX hn fK=>?_;cases x'<;>first|(exact sM.elim)|skip
   exact⟨_,_,fM,E2,hu rfl,fK,rX,hn,rfl⟩
 . rename_i s2 Qt;simp only[an,aB]at e;obtain⟨rfl,rfl,rfl⟩:=e;refine rest _ s2 Qt false (some .ret) _ fun x' E2 a2 w3 sM fM hu rX hn fK=>?_;cases x'<;>first|(exact sM.elim)|skip
   exact⟨_,_,fM,E2,hu rfl,fK,rX,hn,rfl⟩
 . rename_i j s2 Qt;simp only[an,aB]at e;obtain⟨rfl,rfl,rfl⟩:=e;refine rest _ s2 Qt false (some (.exit j)) _ fun x' E2 a2 w3 sM fM hu rX hn fK=>?_;cases x'<;>first|(exact sM.elim)|skip
   have:_=j:=sM.symm;subst this;exact⟨_,_,fM,E2,hu rfl,fK,rX,hn,rfl⟩
 . cases e
theorem Uz(oB:ji P cf)(hm:P.follows .mixedOrders=true)(xD:lB P=true):ji P (fun f args h n=>if f<P.funcs.size then enter P cf F f args h n else xj P cf F (f-P.funcs.size) args h n):=by
 intro f args h n tV h' n' e E w c9 ra g hd;simp only at e;split at e
 . rename_i fJ;exact⟨fun _=>Iq oB hm xD e ra g hd,fun m l s hf _=>absurd fJ (by rw[hf];exact Nat.not_lt.2 (Nat.le_add_right _ _))⟩
 . rename_i Ae;refine⟨fun hc=>?_,fun m l s hf jb=>?_⟩
   . exfalso;unfold callee at hc;rw[Array.getElem?_eq_none (Nat.not_lt.1 Ae)]at hc;cases hc
   . subst hf;rw[Nat.add_sub_cancel_left]at e;exact Ir oB hm e ra g hd jb
end
open Go.RowKit
def CI:List (Nat×Nat)->Nat->Option (Nat×Nat)
 | [],_=>none
 |p::r,m=>if p.2=m then some (p.1,0)else CI r m
def gN:Nat:=jN.length
theorem rY:∀{l:List (Nat×Nat)} {m:Nat} {q:Nat×Nat},CI l m=some q->∃p∈l,p.2=m/\q=(p.1,0)
 | [],_,_,h=>by cases h
 |p::r,m,q,h=>by
  unfold CI at h;split at h
  . rename_i hb;cases h;exact⟨p,by simp,hb,rfl⟩
  . obtain⟨p',h1,h2⟩:=rY h;exact⟨p',aK _ h1,h2⟩
theorem CJ:∀{l:List (Nat×Nat)} {p:Nat×Nat},p∈l->(l.map (·.2)).Nodup->CI l p.2=some (p.1,0)
 |q::r,p,h,hn=>by
  unfold CI;rcases aE.1 h with rfl|h
  . rw[aG rfl]
  . simp only[bW,cg]at hn;rw[aI (fun e=>hn.1 (by rw[e];exact List.mem_map_of_mem h))];exact CJ h hn.2
theorem Mv:(jN.map (·.2)).Nodup:=by
 have h:jN.map (·.2)=List.range jN.length:=by decide
 rw[h];exact List.nodup_range
section
variable(φ:Nat->Option (Array Value)){E:Env}(w:World){h:Tr O}
theorem BG{p:Nat×Nat}(h:p∈jN):p.2<gN:=by
 have e:jN.map (·.2)=List.range jN.length:=by decide
 have:=List.mem_map_of_mem (f:=(·.2)) h;rw[e]at this;exact List.mem_range.1 this
def UA:Env:=⟨fun m=>CI jN m,fun _=>0,φ⟩
def E0:Env:=UA fun _=>none
def Zq:Prop:=∀b c,φ b=some c->∃el fz,w.heap[b]? =some (.cells c el fz)
theorem Good.fz{w:World}(g:Good E h w):Zq E.φ w:=fun b c q=>(g.gM b c q).1
theorem ajR:GE (UA φ):=fun p hp=>CJ hp Mv
def WG:Prop:=∀p∈jN,p.1<w.heap.size
theorem Good.wg{w:World}(g:Good E h w):WG w:=fun p hp=>g.mU _ _ _ (g.jm p hp)
end
section
variable{φ:Nat->Option (Array Value)}{w:World}{n:Nat}
theorem Qx(hw:WG w)(kU:Zq φ w):Good (UA φ) .nil w:=⟨fun m o h=>by simp[Tr.get]at h,fun m _ _ _ _ _ h=>absurd rfl h.live,fun m b s h=>by obtain⟨p,h1,_,h2⟩:=rY h;cases h2;exact hw p h1,ajR φ,fun b c q=>⟨kU b c q,fun m s h=>absurd rfl h.live⟩⟩
theorem adZ(hw:WG w):Good E0 .nil w:=Qx hw fun _ _ q=>by cases q
theorem XD(hn:gN<=n):qL (UA φ) n:=fun m hm=>by
 cases q:(UA φ).ι m with
 |none=>rfl
 |some _=>obtain⟨p',h1,h2,_⟩:=rY q;have:=BG h1;omega
theorem ajS(hn:gN<=n):qL E0 n:=XD hn
end
mutual
def V.free:V->Bool
 | .ptr (some _)=>false
 | .di (some _) _ _ _=>false
 | .map (some _)=>false
 | .fn f a c=>vL f&&(V.wT a&&V.wT c)
 | .iface _ x=>V.free x
 | .agg cs=>V.wT cs
 | .ef cs=>V.wT cs
 | .dM _ 0 []=>true
 | .dM _ _ _=>false
 | .dw _=>false
 |_=>true
def V.wT:ag->Bool
 | []=>true
 |x::xs=>V.free x&&V.wT xs
end
mutual
theorem CK{E E':Env}:∀(v:V) (v':Value),v.free=true->dF E v v'->dF E' v v'
 | .bool _,_,_,r=>r
 | .int _ _,_,_,r=>r
 | .str _,_,_,r=>r
 | .ptr none,_,_,r=>r
 | .ptr (some _),_,h,_=>by simp[V.free]at h
 | .di none _ _ _,_,_,r=>r
 | .di (some _) _ _ _,_,h,_=>by simp[V.free]at h
 | .map none,_,_,r=>r
 | .map (some _),_,h,_=>by simp[V.free]at h
 | .fn f a c,_,h,⟨f',a',c',rf,ra,rc,q⟩=>by
   simp only[V.free,aC]at h;refine⟨f',a',c',?_,mQ a a' h.2.1 ra,mQ c c' h.2.2 rc,q⟩;cases f<;>first|exact rf|(simp[vL]at h;done)
 | .kE,_,_,r=>r
 | .iface _ x,_,h,⟨x',r,q⟩=>⟨x',CK x x' (by simpa only[V.free]using h) r,q⟩
 | .nilIface,_,_,r=>r
 | .agg cs,_,h,⟨cs',r,q⟩=>⟨cs',mQ cs cs' (by simpa only[V.free]using h) r,q⟩
 | .ef cs,_,h,⟨cs',r,q⟩=>⟨cs',mQ cs cs' (by simpa only[V.free]using h) r,q⟩
 | .dM f 0 [],_,_,r=>by
   obtain⟨⟨a,cP,vs,h1,h2,h3,h4,h5⟩,h6⟩:=r;exact⟨⟨a,cP,vs,h1,h2,h3,h4,fun q=>absurd q (cF _)⟩,h6⟩
 | .dM f 0 (_::_),_,h,_=>by simp[V.free]at h
 | .dM f (_+1) _,_,h,_=>by simp[V.free]at h
 | .dw _,_,h,_=>by simp[V.free]at h
theorem mQ{E E':Env}:∀(v:ag) (v':List Value),V.wT v=true->dI E v v'->dI E' v v'
 | [],_,_,r=>r
 |x::xs,_,h,⟨y,ys,r,rs,q⟩=>by
  simp only[V.wT,aC]at h;exact⟨y,ys,CK x y h.1 r,mQ xs ys h.2 rs,q⟩
end
theorem Good.below{E:Env}{h:Tr O}{w w':World}(g:Good E h w)(b:Below w.heap.size w w'):Good E h w' where
 rel:=fun m o hm=>let⟨b',s,h1,h2⟩:=g.rel m o hm;⟨b',s,h1,ik E.le_refl rfl (b.block b' (g.mU m b' s h1)) h2⟩
 inj:=g.inj
 mU:=fun m b' s hm=>bD (g.mU m b' s hm) b.size
 jm:=g.jm
 gM:=fun k c q=>⟨by rw[b.block k (by obtain⟨el,fz,e⟩:=g.fz k c q;exact(aQ.1 e).1)];exact g.fz k c q,(g.gM k c q).2⟩
theorem iy.below{E:Env}{h:Tr O}{w w':World}(g:Good E h w)(b:Below w.heap.size w w'):iy E h w E h w':=
 ⟨E.le_refl,g.below b,b.size,b.tape,b.os,b.output,fun k hk _=>b.block k hk,fun m _ s hm he _=>⟨m,s,hm,he,id⟩,fun _ _ q=>.inl q⟩
def look(f:FuncId)(args:ag):List (FuncId×ag×V)->Option V
 | []=>none
 |x::r=>match Nat.beq f x.1&&V.pG args x.2.1 with
  |true=>some x.2.2
  |false=>look f args r
theorem CL{f:FuncId}{args:ag}{v:V}:∀{T:List (FuncId×ag×V)},look f args T=some v->(f,args,v)∈T
 | [],h=>by simp[look]at h
 |x::r,h=>by
  simp only[look]at h;split at h
  . rename_i hb;simp only[aC]at hb;simp only[an]at h;rw[aD hb.1,th _ _ hb.2,<- h];simp
  . exact aK _ (CL h)
structure Eg(w0:World)(E:Env)(h:Tr O)(w:World):Prop where
 good:Good E h w
 size:w0.heap.size<=w.heap.size
 tape:w.tape=w0.tape
 os:w.os=w0.os
 output:w.output=w0.output
 keep:∀b,b<w0.heap.size->w.heap[b]? =w0.heap[b]?
 sV:∀m b s,eC h m->E.ι m=some (b,s)->b<w0.heap.size->False
theorem Eg.trans{w0:World}{E E':Env}{h h':Tr O}{w w':World}(a:Eg w0 E h w)(b:iy E h w E' h' w'):Eg w0 E' h' w' where
 good:=b.good
 size:=bU a.size b.size
 tape:=b.tape.trans a.tape
 os:=b.os.trans a.os
 output:=b.output.trans a.output
 keep:=fun x hx=>by
  rw[b.keep x (bD hx a.size) fun m s hm e=>a.sV m x s hm e hx,a.keep x hx]
 sV:=fun m x s hm e hx=>by
  obtain⟨m1,s1,_,e1,k1⟩:=b.sV m x s hm.live e (bD hx a.size);exact a.sV m1 x s1 (k1 hm) e1 hx
theorem Eg.init{E:Env}{h:Tr O}{w:World}(g:Good E h w)(hr:∀m,¬eC h m):Eg w E h w:=
 ⟨g,aA _,rfl,rfl,rfl,fun _ _=>rfl,fun m _ _ hm _ _=>hr m hm⟩
theorem Eg.below{w0:World}{E:Env}{h:Tr O}{w:World}(u:Eg w0 E h w):Below w0.heap.size w0 w:=
 ⟨u.os,u.tape,u.output,u.size,fun k hk=>u.keep k hk⟩
def UB(N:Nat)(w0:World)(s:St)(a:Act)(w:World):Prop:=∃E,jV E N s a w/\Eg w0 E s.h w
theorem UB.below{N:Nat}{w0:World}{s:St}{a:Act}{w:World}(i:UB N w0 s a w):Below w0.heap.size w0 w:=by
 obtain⟨E,_,u⟩:=i;exact u.below
def X.plain:X->Option Exit
 | .normal=>some .normal
 | .exit i=>some (.exit i)
 | .ret=>some .ret
 | .panic _=>none
mutual
def V.names:V->List Nat->List Nat
 | .ptr (some (m,_)),l=>m::l
 | .di (some (m,_)) _ _ _,l=>m::l
 | .map (some m),l=>m::l
 | .fn f a c,l=>match f with
   | .yield m=>m::V.u9 a (V.u9 c l)
   |_=>V.u9 a (V.u9 c l)
 | .iface _ x,l=>V.names x l
 | .agg cs,l=>V.u9 cs l
 | .ef cs,l=>V.u9 cs l
 |_,l=>l
def V.u9:ag->List Nat->List Nat
 | [],l=>l
 |x::xs,l=>V.names x (V.u9 xs l)
end
def Is:List (V×V×Nat)->List Nat
 | []=>[]
 |x::xs=>V.names x.1 (V.names x.2.1 (Is xs))
def O.names:O->List Nat
 | .cells cs=>V.u9 cs []
 | .map es _=>Is es
 | .nE _ _=>[]
 | .ints _ _=>[]
 | .own _ _=>[]
 | .deep _=>[]
 | .iX _ _ _=>[]
 | .Bp _ _ x=>V.names x []
 | .dy _ _=>[]
 | .mA=>[]
 | .loop ..=>[]
def Zr(h:Tr O):Nat->List Nat->Tr Nat->List Nat->Nat->Option (Tr Nat×List Nat×Nat)
 |0,_,_,_,_=>none
 |_+1,[],ρ,pQ,k=>some (ρ,pQ,k)
 |f+1,m::q,ρ,pQ,k=>match ρ.get m with
  |some _=>Zr h f q ρ pQ k
  |none=>Zr h f ((match h.get m with|some o=>o.names|none=>[])++q) (ρ.set m (some k)) (m::pQ) (k+1)
def xE:List Nat->Nat->Tr Nat->Tr Nat
 | [],_,t=>t
 |m::r,k,t=>xE r (k-1) (t.set (k-1) (some m))
def dN(ρ back:Tr Nat)(n2 m:Nat):Option Nat:=
 match ρ.get m with
 |some k=>match back.get k with
  |some m'=>match Nat.beq m m'&&Nat.blt k n2 with
   |true=>some k
   |false=>none
  |none=>none
 |none=>none
theorem A3{ρ back:Tr Nat}{n2 m k:Nat}(h:dN ρ back n2 m=some k):ρ.get m=some k/\back.get k=some m/\k<n2:=by
 unfold dN at h;split at h
 . rename_i k' h1;split at h
   . rename_i m' h2;split at h
     . rename_i hb;simp only[aC]at hb;simp only[an]at h;subst h;have e:=aD hb.1;subst e;exact⟨h1,h2,by have:=hb.2;simp[Nat.blt]at this;omega⟩
     . cases h
   . cases h
 . cases h
section
variable(ν:Nat->Option Nat)
mutual
def V.XF:V->Option V
 | .ptr (some (m,o))=>match ν m with
   |some k=>some (.ptr (some (k,o)))
   |none=>none
 | .di (some (m,o)) l c e=>match ν m with
   |some k=>some (.di (some (k,o)) l c e)
   |none=>none
 | .map (some m)=>match ν m with
   |some k=>some (.map (some k))
   |none=>none
 | .fn f a c=>match vL f with
   |true=>match V.Of a with
    |some a=>match V.Of c with
     |some c=>some (.fn f a c)
     |none=>none
    |none=>none
   |false=>none
 | .iface t x=>match V.XF x with
   |some x=>some (.iface t x)
   |none=>none
 | .agg cs=>match V.Of cs with
   |some cs=>some (.agg cs)
   |none=>none
 | .ef cs=>match V.Of cs with
   |some cs=>some (.ef cs)
   |none=>none
 | .bool b=>some (.bool b)
 | .int k n=>some (.int k n)
 | .str s=>some (.str s)
 | .ptr none=>some (.ptr none)
 | .di none l c e=>some (.di none l c e)
 | .map none=>some (.map none)
 | .kE=>some .kE
 | .nilIface=>some .nilIface
 | .dM f n cs=>some (.dM f n cs)
 | .dw cs=>some (.dw cs)
def V.Of:ag->Option (ag)
 | []=>some []
 |x::xs=>match V.XF x with
  |some x=>match V.Of xs with
   |some xs=>some (x::xs)
   |none=>none
  |none=>none
end
def XG:List (V×V×Nat)->Option (List (V×V×Nat))
 | []=>some []
 |x::xs=>match V.XF ν x.1,V.XF ν x.2.1,XG xs with
  |some k,some v,some xs=>some ((k,v,x.2.2)::xs)
  |_,_,_=>none
def O.XF:O->Option O
 | .cells cs=>match V.Of ν cs with
   |some cs=>some (.cells cs)
   |none=>none
 | .map es c=>match XG ν es with
   |some es=>some (.map es c)
   |none=>none
 | .nE s p=>some (.nE s p)
 | .ints k ks=>some (.ints k ks)
 | .own k ks=>some (.own k ks)
 | .deep cs=>some (.deep cs)
 | .iX e f s=>some (.iX e f s)
 | .Bp t s x=>match V.XF ν x with
   |some x=>some (.Bp t s x)
   |none=>none
 | .dy k es=>some (.dy k es)
 | .mA=>none
 | .loop ..=>none
end
section
variable{ν:Nat->Option Nat}{E E':Env}(jb:∀m k,ν m=some k->E'.ι k=E.ι m)(oQ:E'.β=E.β)(kU:∀b c,E.φ b=some c->E'.φ b=some c)
include jb oQ kU
end
def KA(ν:Nat->Option Nat)(h:Tr O):List Nat->Tr O->Option (Tr O)
 | [],t=>some t
 |m::r,t=>match h.get m with
  |none=>KA ν h r t
  |some o=>match ν m with
   |some k=>match o.XF ν with
    |some o2=>match Nat.blt k fN with
     |true=>KA ν h r (t.set k (some o2))
     |false=>none
    |none=>none
   |none=>none
def Ag(ν:Nat->Option Nat)(fr:Tr V):List Nat->Tr V->Option (Tr V)
 | [],t=>some t
 |m::r,t=>match fr.get m with
  |none=>Ag ν fr r t
  |some v=>match v.XF ν with
   |some v2=>match Nat.blt m fN with
    |true=>Ag ν fr r (t.set m (some v2))
    |false=>none
   |none=>none
def r7(fr:Tr V):List Nat->List Nat
 | []=>[]
 |t::r=>match fr.get t with
  |some v=>v.names (r7 fr r)
  |none=>r7 fr r
def ad0(back:Tr Nat)(k:Nat):Bool:=jN.all fun p=>Nat.blt p.2 k&&match back.get p.2 with
 |some o=>Nat.beq o p.2
 |none=>false
def norm(live:List Nat)(s:St):Option St:=
 match s.gz with
 | []=>match Zr s.h 100000 (r7 s.fr live) .nil [] 0 with
   |some (ρ,pQ,k)=>
    let ν:=dN ρ (xE pQ k .nil) k
    match ad0 (xE pQ k .nil) k with
    |false=>none
    |true=>match KA ν s.h pQ .nil with
    |some h2=>match Ag ν s.fr live .nil with
     |some xB=>some { fr:=xB,h:=h2,n:=k,gz:=[] }
     |none=>none
    |none=>none
   |none=>none
 |_=>none
section
variable(ν:Nat->Option Nat)
mutual
def V.rn:V->Option V
 | .ptr (some (m,o))=>match ν m with
   |some k=>some (.ptr (some (k,o)))
   |none=>none
 | .di (some (m,o)) l c e=>match ν m with
   |some k=>some (.di (some (k,o)) l c e)
   |none=>none
 | .map (some m)=>match ν m with
   |some k=>some (.map (some k))
   |none=>none
 | .fn f a c=>match V.D0 a with
   |some a=>match V.D0 c with
    |some c=>match f with
     | .yield m=>match ν m with
       |some k=>some (.fn (.yield k) a c)
       |none=>none
     |f=>some (.fn f a c)
    |none=>none
   |none=>none
 | .iface t x=>match V.rn x with
   |some x=>some (.iface t x)
   |none=>none
 | .agg cs=>match V.D0 cs with
   |some cs=>some (.agg cs)
   |none=>none
 | .ef cs=>match V.D0 cs with
   |some cs=>some (.ef cs)
   |none=>none
 | .bool b=>some (.bool b)
 | .int k n=>some (.int k n)
 | .str s=>some (.str s)
 | .ptr none=>some (.ptr none)
 | .di none l c e=>some (.di none l c e)
 | .map none=>some (.map none)
 | .kE=>some .kE
 | .nilIface=>some .nilIface
 | .dM f n cs=>some (.dM f n cs)
 | .dw cs=>some (.dw cs)
def V.D0:ag->Option (ag)
 | []=>some []
 |x::xs=>match V.rn x with
  |some x=>match V.D0 xs with
   |some xs=>some (x::xs)
   |none=>none
  |none=>none
end
def Qy:List (V×V×Nat)->Option (List (V×V×Nat))
 | []=>some []
 |x::xs=>match V.rn ν x.1 with
  |some k=>match V.rn ν x.2.1 with
   |some v=>match Qy xs with
    |some xs=>some ((k,v,x.2.2)::xs)
    |none=>none
   |none=>none
  |none=>none
def CM(m:Nat):Bool:=match ν m with
 |some k=>Nat.beq m k
 |none=>false
mutual
def V.still:V->Bool
 | .ptr (some (m,_))=>CM ν m
 | .di (some (m,_)) _ _ _=>CM ν m
 | .map (some m)=>CM ν m
 | .fn f a c=>(match f with | .yield m=>CM ν m|_=>true)&&(V.xF a&&V.xF c)
 | .iface _ x=>V.still x
 | .agg cs=>V.xF cs
 | .ef cs=>V.xF cs
 |_=>true
def V.xF:ag->Bool
 | []=>true
 |x::xs=>V.still x&&V.xF xs
end
def yT:Tr V->Bool
 | .nil=>true
 | .node v l r=>(match v with|some v=>V.still ν v|none=>true)&&(yT l&&yT r)
def O.rn:O->Option O
 | .cells cs=>match V.D0 ν cs with
   |some cs=>some (.cells cs)
   |none=>none
 | .map es c=>match Qy ν es with
   |some es=>some (.map es c)
   |none=>none
 | .nE s p=>some (.nE s p)
 | .ints k ks=>some (.ints k ks)
 | .own k ks=>some (.own k ks)
 | .deep cs=>some (.deep cs)
 | .iX e f s=>some (.iX e f s)
 | .Bp t s x=>match V.rn ν x with
   |some x=>some (.Bp t s x)
   |none=>none
 | .dy k es=>some (.dy k es)
 | .mA=>some .mA
 | .loop st pe fr ps a b=>match yT ν fr with
   |true=>some (.loop st pe fr ps a b)
   |false=>none
end
mutual
theorem tn{ν:Nat->Option Nat}{E E':Env}(jb:∀m k,ν m=some k->E'.ι k=E.ι m)(oQ:∀m k b s,ν m=some k->E.ι m=some (b,s)->E'.β b=E.β b)(kU:∀b c,E.φ b=some c->E'.φ b=some c):∀(v v2:V) (v':Value),v.rn ν=some v2->dF E v v'->dF E' v2 v'
 | .bool _,v2,_,h,r=>by simp only[V.rn,an]at h;subst h;exact r
 | .int _ _,v2,_,h,r=>by simp only[V.rn,an]at h;subst h;exact r
 | .str _,v2,_,h,r=>by simp only[V.rn,an]at h;subst h;exact r
 | .ptr none,v2,_,h,r=>by simp only[V.rn,an]at h;subst h;exact r
 | .ptr (some (m,o)),v2,_,h,⟨b,s,e,q⟩=>by
   simp only[V.rn]at h;split at h
   . rename_i k hk;obtain rfl:=ew h;exact⟨b,s,(jb m k hk).trans e,q⟩
   . cases h
 | .di none _ _ _,v2,_,h,r=>by simp only[V.rn,an]at h;subst h;exact r
 | .di (some (m,o)) _ _ _,v2,_,h,⟨b,s,o',gj,e,q1,q2,q3,q4,q5⟩=>by
   simp only[V.rn]at h;split at h
   . rename_i k hk;obtain rfl:=ew h;exact⟨b,s,o',gj,(jb m k hk).trans e,q1,q2,q3,by rw[oQ m k b s hk e];exact q4,q5⟩
   . cases h
 | .map none,v2,_,h,r=>by simp only[V.rn,an]at h;subst h;exact r
 | .map (some m),v2,_,h,⟨b,e,q⟩=>by
   simp only[V.rn]at h;split at h
   . rename_i k hk;obtain rfl:=ew h;exact⟨b,(jb m k hk).trans e,q⟩
   . cases h
 | .fn f a c,v2,_,h,⟨f',a',c',rf,ra,rc,q⟩=>by
   simp only[V.rn]at h;split at h
   . rename_i a2 ha;split at h
     . rename_i c2 hc;have ra2:=tq jb oQ kU a a2 a' ha ra;have rc2:=tq jb oQ kU c c2 c' hc rc;split at h
       . rename_i m;split at h
         . rename_i k hk;obtain rfl:=ew h;obtain⟨l,s,e,q2⟩:=rf;exact⟨f',a',c',⟨l,s,(jb m k hk).trans e,q2⟩,ra2,rc2,q⟩
         . cases h
       . obtain rfl:=ew h;refine⟨f',a',c',?_,ra2,rc2,q⟩;cases f<;>first|exact rf|(rename_i fP;exact(fP _ rfl).elim)
     . cases h
   . cases h
 | .kE,v2,_,h,r=>by simp only[V.rn,an]at h;subst h;exact r
 | .iface t x,v2,_,h,⟨x',r,q⟩=>by
   simp only[V.rn]at h;split at h
   . rename_i x2 hx;obtain rfl:=ew h;exact⟨x',tn jb oQ kU x x2 x' hx r,q⟩
   . cases h
 | .nilIface,v2,_,h,r=>by simp only[V.rn,an]at h;subst h;exact r
 | .agg cs,v2,_,h,⟨cs',r,q⟩=>by
   simp only[V.rn]at h;split at h
   . rename_i x2 hx;obtain rfl:=ew h;exact⟨cs',tq jb oQ kU cs x2 cs' hx r,q⟩
   . cases h
 | .ef cs,v2,_,h,⟨cs',r,q⟩=>by
   simp only[V.rn]at h;split at h
   . rename_i x2 hx;obtain rfl:=ew h;exact⟨cs',tq jb oQ kU cs x2 cs' hx r,q⟩
   . cases h
 | .dM f n cs,v2,_,h,r=>by
   simp only[V.rn,an]at h;subst h;exact⟨kJ kU _ _ r.1,r.2⟩
 | .dw cs,v2,_,h,⟨b,o,c,vs,e,e1,r,q⟩=>by
   simp only[V.rn,an]at h;subst h;exact⟨b,o,c,vs,e,kU _ _ e1,iS kU _ _ r,q⟩
theorem tq{ν:Nat->Option Nat}{E E':Env}(jb:∀m k,ν m=some k->E'.ι k=E.ι m)(oQ:∀m k b s,ν m=some k->E.ι m=some (b,s)->E'.β b=E.β b)(kU:∀b c,E.φ b=some c->E'.φ b=some c):∀(v v2:ag) (v':List Value),V.D0 ν v=some v2->dI E v v'->dI E' v2 v'
 | [],v2,_,h,r=>by simp only[V.D0,an]at h;subst h;exact r
 |x::xs,v2,_,h,⟨y,ys,r,rs,q⟩=>by
  simp only[V.D0]at h;split at h
  . rename_i x2 hx;split at h
    . rename_i Og Cm;obtain rfl:=ew h;exact⟨y,ys,tn jb oQ kU x x2 y hx r,tq jb oQ kU xs Og ys Cm rs,q⟩
    . cases h
  . cases h
end
section
variable{ν:Nat->Option Nat}{E E':Env}(jb:∀m k,ν m=some k->E'.ι k=E.ι m)(oQ:∀m k b s,ν m=some k->E.ι m=some (b,s)->E'.β b=E.β b)(kU:∀b c,E.φ b=some c->E'.φ b=some c)
include jb oQ kU
theorem It:∀(es tU:List (V×V×Nat)) (l:List MapEntry),Qy ν es=some tU->kG E es l->kG E' tU l
 | [],tU,_,h,r=>by simp only[Qy,an]at h;subst h;exact r
 |x::xs,tU,_,h,⟨y,ys,r1,r2,r3,rs,q⟩=>by
  simp only[Qy]at h;split at h
  . rename_i k hk;split at h
    . rename_i v hv;split at h
      . rename_i Og Cm;obtain rfl:=ew h;exact⟨y,ys,tn jb oQ kU _ _ _ hk r1,tn jb oQ kU _ _ _ hv r2,r3,It _ _ _ Cm rs,q⟩
      . cases h
    . cases h
  . cases h
end
theorem oa{ν:Nat->Option Nat}{m:Nat}(h:CM ν m=true):ν m=some m:=by
 unfold CM at h;split at h
 . rename_i k hk;rw[hk,aD h]
 . cases h
theorem vc{ν:Nat->Option Nat}:∀(t:Tr V),yT ν t=true->∀k v,t.get k=some v->v.still ν=true
 | .nil,_,k,v,h=>by simp[Tr.get]at h
 | .node x l r,hs,k,v,h=>by
   simp only[yT,aC]at hs;simp only[Tr.get]at h;split at h
   . subst h;exact hs.1
   . rename_i k;split at h
     . exact vc l hs.2.1 _ v h
     . exact vc r hs.2.2 _ v h
mutual
theorem Ah{ν:Nat->Option Nat}{E E':Env}(jb:∀m k,ν m=some k->E'.ι k=E.ι m)(oQ:∀m k b s,ν m=some k->E.ι m=some (b,s)->E'.β b=E.β b)(kU:∀b c,E.φ b=some c->E'.φ b=some c):∀(v:V) (v':Value),v.still ν=true->dF E v v'->dF E' v v'
 | .bool _,_,_,r=>r
 | .int _ _,_,_,r=>r
 | .str _,_,_,r=>r
 | .ptr none,_,_,r=>r
 | .ptr (some (m,o)),_,h,⟨b,s,e,q⟩=>⟨b,s,(jb m m (oa h)).trans e,q⟩
 | .di none _ _ _,_,_,r=>r
 | .di (some (m,o)) _ _ _,_,h,⟨b,s,o',gj,e,q1,q2,q3,q4,q5⟩=>⟨b,s,o',gj,(jb m m (oa h)).trans e,q1,q2,q3,by rw[oQ m m b s (oa h) e];exact q4,q5⟩
 | .map none,_,_,r=>r
 | .map (some m),_,h,⟨b,e,q⟩=>⟨b,(jb m m (oa h)).trans e,q⟩
 | .fn f a c,_,h,⟨f',a',c',rf,ra,rc,q⟩=>by
   simp only[V.still,aC]at h;refine⟨f',a',c',?_,qy jb oQ kU a a' h.2.1 ra,qy jb oQ kU c c' h.2.2 rc,q⟩;cases f with
   |yield m=>obtain⟨l,s,e,q2⟩:=rf;exact⟨l,s,(jb m m (oa h.1)).trans e,q2⟩
   |_=>exact rf
 | .kE,_,_,r=>r
 | .iface _ x,_,h,⟨x',r,q⟩=>⟨x',Ah jb oQ kU x x' (by simpa only[V.still]using h) r,q⟩
 | .nilIface,_,_,r=>r
 | .agg cs,_,h,⟨cs',r,q⟩=>⟨cs',qy jb oQ kU cs cs' (by simpa only[V.still]using h) r,q⟩
 | .ef cs,_,h,⟨cs',r,q⟩=>⟨cs',qy jb oQ kU cs cs' (by simpa only[V.still]using h) r,q⟩
 | .dM _ _ _,_,_,r=>⟨kJ kU _ _ r.1,r.2⟩
 | .dw cs,_,_,⟨b,o,c,vs,e,e1,r,q⟩=>⟨b,o,c,vs,e,kU _ _ e1,iS kU _ _ r,q⟩
theorem qy{ν:Nat->Option Nat}{E E':Env}(jb:∀m k,ν m=some k->E'.ι k=E.ι m)(oQ:∀m k b s,ν m=some k->E.ι m=some (b,s)->E'.β b=E.β b)(kU:∀b c,E.φ b=some c->E'.φ b=some c):∀(v:ag) (v':List Value),V.xF ν v=true->dI E v v'->dI E' v v'
 | [],_,_,r=>r
 |x::xs,_,h,⟨y,ys,r,rs,q⟩=>by
  simp only[V.xF,aC]at h;exact⟨y,ys,Ah jb oQ kU x y h.1 r,qy jb oQ kU xs ys h.2 rs,q⟩
end
section
variable{ν:Nat->Option Nat}{E E':Env}(jb:∀m k,ν m=some k->E'.ι k=E.ι m)(oQ:∀m k b s,ν m=some k->E.ι m=some (b,s)->E'.β b=E.β b)(kU:∀b c,E.φ b=some c->E'.φ b=some c)
include jb oQ kU
theorem BH{w:World}{b s:Nat}(hb:E'.β b=E.β b):∀(o o2:O),o.rn ν=some o2->lY E w b s o->lY E' w b s o2
 | .cells cs,o2,h,⟨c,el,fz,h1,h2,h3,h4⟩=>by
   simp only[O.rn]at h;split at h
   . rename_i ve oV;obtain rfl:=ew h;refine⟨c,el,fz,h1,by rw[hb];exact h2,h3,?_⟩;have:∀(cs ve:ag),V.D0 ν cs=some ve->∀(s:Nat),l9 E s cs c->l9 E' s ve c:=by
      intro cs
      induction cs with
      |nil=>intro ve h s r;simp only[V.D0,an]at h;subst h;intro i v e;simp at e
      |cons x xs ih=>
       intro ve h s r;simp only[V.D0]at h;split at h
       . rename_i x2 hx;split at h
         . rename_i Og Cm;obtain rfl:=ew h;intro i v e;cases i with
           |zero=>
            simp only[bG,an]at e;subst e;obtain⟨v',k1,k2⟩:=r 0 x (by simp);exact⟨v',k1,tn jb oQ kU _ _ _ hx k2⟩
           |succ i=>
            simp only[cu]at e;obtain⟨v',k1,k2⟩:=ih Og Cm (s+1) (fun j v e=>by
             obtain⟨v',k1,k2⟩:=r (j+1) v (by simpa using e);exact⟨v',by rw[<- k1];congr 1;omega,k2⟩) i v e
            exact⟨v',by rw[<- k1];congr 1;omega,k2⟩
         . cases h
       . cases h
     exact this cs ve oV s h4
   . cases h
 | .map es cl,o2,h,⟨hs,fW,h1,h2⟩=>by
   simp only[O.rn]at h;split at h
   . rename_i tU TS;obtain rfl:=ew h;exact⟨hs,fW,h1,It jb oQ kU _ _ _ TS h2⟩
   . cases h
 | .nE st p,o2,h,r=>by simp only[O.rn,an]at h;subst h;exact r
 | .ints k ks,o2,h,⟨c,el,fz,h1,h2,h3⟩=>by simp only[O.rn,an]at h;subst h;exact⟨c,el,fz,h1,by rw[hb];exact h2,h3⟩
 | .own k ks,o2,h,⟨c,el,fz,h1,h2,h3,h4⟩=>by simp only[O.rn,an]at h;subst h;exact⟨c,el,fz,h1,by rw[hb];exact h2,h3,wO h4⟩
 | .deep cs,o2,h,⟨c,el,fz,vs,h1,h2,h3,h4,h5⟩=>by simp only[O.rn,an]at h;subst h;exact⟨c,el,fz,vs,h1,by rw[hb];exact h2,h3,iS kU _ _ h4,h5⟩
 | .iX el AL t,o2,h,⟨c,fz,xs,h1,h0,h2,h3⟩=>by simp only[O.rn,an]at h;subst h;exact⟨c,fz,xs,h1,h0,by rw[hb];exact h2,h3⟩
 | .Bp t self x,o2,h,⟨hs,x',fz,h1,h2,h3,h4⟩=>by
   simp only[O.rn]at h;split at h
   . rename_i x2 hx;obtain rfl:=ew h;exact⟨hs,x',fz,h1,by rw[hb];exact h2,h3,tn jb oQ kU _ _ _ hx h4⟩
   . cases h
 | .dy kk es,o2,h,⟨hs,fW,cl,h1,h2⟩=>by simp only[O.rn,an]at h;subst h;exact⟨hs,fW,cl,h1,h2.mono kU⟩
 | .mA,o2,h,r=>by simp only[O.rn,an]at h;subst h;exact r
 | .loop st pe fr ps a b',o2,h,⟨r,h1,h2,h3,h4,h5,h6,h7,h8⟩=>by
   simp only[O.rn]at h;split at h
   . rename_i hs;obtain rfl:=ew h;exact⟨r,h1,h2,h3,h4,h5,h6,fun t v e=>let⟨v',k1,k2⟩:=h7 t v e;⟨v',k1,Ah jb oQ kU v v' (vc fr hs t v e) k2⟩,h8⟩
   . cases h
end
theorem A4{ν:Nat->Option Nat}{o o2:O}(h:o.rn ν=some o2):o2.wr=o.wr:=by
 cases o<;>simp only[O.rn]at h<;>(try split at h)<;>first|(obtain rfl:=ew h;rfl)|cases h
def Gr:Tr V->List Nat->List Nat
 | .nil,l=>l
 | .node v a b,l=>(match v with|some v=>V.names v|none=>id) (Gr a (Gr b l))
def O.nms:O->List Nat
 | .loop _ _ fr _ _ _=>Gr fr []
 |o=>o.names
def Mw(h:Tr O):Nat->List Nat->Tr Nat->List Nat->Nat->Option (Tr Nat×List Nat×Nat)
 |0,_,_,_,_=>none
 |_+1,[],ρ,pQ,k=>some (ρ,pQ,k)
 |f+1,m::q,ρ,pQ,k=>match ρ.get m with
  |some _=>Mw h f q ρ pQ k
  |none=>Mw h f ((match h.get m with|some o=>o.nms|none=>[])++q) (ρ.set m (some k)) (m::pQ) (k+1)
def Zs:Nat->Tr Nat
 |0=>.nil
 |k+1=>(Zs k).set k (some k)
def KB:Nat->List Nat
 |0=>[]
 |k+1=>k::KB k
def CN(h:Tr O):Nat->List Nat->List Nat
 |0,l=>l
 |k+1,l=>(match h.get k with|some o=>o.nms|none=>[])++CN h k l
def BI(ν:Nat->Option Nat):Nat->Bool
 |0=>true
 |k+1=>CM ν k&&BI ν k
theorem yU{ν:Nat->Option Nat}:∀{k:Nat},BI ν k=true->∀m,m<k->ν m=some m
 |0,_,m,hm=>by omega
 |k+1,h,m,hm=>by
  simp only[BI,aC]at h;by_cases e:m=k
  . subst e;exact oa h.1
  . exact yU h.2 m be
def CO(ν:Nat->Option Nat)(h:Tr O):List Nat->Tr O->Option (Tr O)
 | [],t=>some t
 |m::r,t=>match h.get m with
  |none=>CO ν h r t
  |some o=>match ν m with
   |some k=>match o.rn ν with
    |some o2=>match Nat.blt k fN with
     |true=>CO ν h r (t.set k (some o2))
     |false=>none
    |none=>none
   |none=>none
theorem tr{ν:Nat->Option Nat}{h:Tr O}:∀(l:List Nat) (t t2:Tr O),CO ν h l t=some t2->(∀k o2,t.get k=some o2->∃m o,ν m=some k/\h.get m=some o/\o.rn ν=some o2)->
  ∀k o2,t2.get k=some o2->∃m o,ν m=some k/\h.get m=some o/\o.rn ν=some o2
 | [],t,t2,e,ht=>by simp only[CO,an]at e;subst e;exact ht
 |m::r,t,t2,e,ht=>by
  simp only[CO]at e;split at e
  . exact tr r t t2 e ht
  . rename_i o ho;split at e
    . rename_i k hk;split at e
      . rename_i o2 Ut;split at e
        . rename_i fJ;refine tr r _ t2 e fun j o3 h3=>?_;rw[Tr.eS _ _ _ (by simp[Nat.blt]at fJ;omega)]at h3;split at h3
          . rename_i hj;obtain rfl:=ew h3;subst hj;exact⟨m,o,hk,ho,Ut⟩
          . exact ht j o3 h3
        . cases e
      . cases e
    . cases e
def xG(ν:Nat->Option Nat)(fr:Tr V):List Nat->Tr V->Option (Tr V)
 | [],t=>some t
 |m::r,t=>match fr.get m with
  |none=>xG ν fr r t
  |some v=>match v.rn ν with
   |some v2=>match Nat.blt m fN with
    |true=>xG ν fr r (t.set m (some v2))
    |false=>none
   |none=>none
theorem qW{ν:Nat->Option Nat}{fr:Tr V}:∀(l:List Nat) (t t2:Tr V),xG ν fr l t=some t2->(∀k v2,t.get k=some v2->∃v,fr.get k=some v/\v.rn ν=some v2)->
  ∀k v2,t2.get k=some v2->∃v,fr.get k=some v/\v.rn ν=some v2
 | [],t,t2,e,ht=>by simp only[xG,an]at e;subst e;exact ht
 |m::r,t,t2,e,ht=>by
  simp only[xG]at e;split at e
  . exact qW r t t2 e ht
  . rename_i v hv;split at e
    . rename_i v2 hv2;split at e
      . rename_i fJ;refine qW r _ t2 e fun j o3 h3=>?_;rw[Tr.eS _ _ _ (by simp[Nat.blt]at fJ;omega)]at h3;split at h3
        . rename_i hj;obtain rfl:=ew h3;subst hj;exact⟨v,hv,hv2⟩
        . exact ht j o3 h3
      . cases e
    . cases e
def Oh(ν:Nat->Option Nat):List (FuncId×ag×ag)->Option (List (FuncId×ag×ag))
 | []=>some []
 |(f,[],[.map (some m)])::r=>match Nat.beq f fN with
  |true=>match ν m with
   |some k=>match Oh ν r with
    |some r=>some ((fN,[],[.map (some k)])::r)
    |none=>none
   |none=>none
  |false=>none
 |_::_=>none
def CP:List (FuncId×ag×ag)->List Nat->List Nat
 |(_,_,[.map (some m)])::r,l=>m::CP r l
 |_,l=>l
theorem CQ{ν:Nat->Option Nat}{E E':Env}(jb:∀m k,ν m=some k->E'.ι k=E.ι m):∀(l l2:List (FuncId×ag×ag)) (ds:List Deferred),Oh ν l=some l2->wS E l ds->wS E' l2 ds
 | [],l2,ds,e,r=>by simp only[Oh,an]at e;subst e;exact r
 |(f,c,args)::r,l2,ds,e,h=>by
  unfold Oh at e;split at e
  . rename_i KC;cases KC
  . rename_i f' m r' KC;cases KC;split at e
    . rename_i hf;have hf:=aD hf;subst hf;split at e
      . rename_i k hk;split at e
        . rename_i r2 hr;obtain rfl:=ew e;obtain⟨d,ys,r1,r2',q⟩:=h;refine⟨d,ys,?_,CQ jb _ _ _ hr r2',q⟩;rcases r1 with⟨fJ,_⟩|⟨_,m',b,s,q1,q2,q3⟩
          . exact absurd fJ (cF _)
          . simp only[List.cons.injEq,V.map.injEq,an,and_true]at q1;subst q1;exact .inr ⟨rfl,k,b,s,rfl,(jb _ k hk).trans q2,q3⟩
        . cases e
      . cases e
    . cases e
  . cases e
def eX(n0:Nat)(live:List Nat)(s:St):Option St:=
 match Nat.ble n0 s.n with
 |false=>none
 |true=>match Mw s.h 100000 (CN s.h n0 (r7 s.fr live++CP s.gz [])) (Zs n0) (KB n0) n0 with
  |some (ρ,pQ,k)=>
   let ν:=dN ρ (xE pQ k .nil) k
   match(BI ν n0&&Nat.ble n0 k)&&Nat.ble gN n0 with
   |true=>match CO ν s.h pQ .nil with
    |some h2=>match xG ν s.fr live .nil with
     |some xB=>match Oh ν s.gz with
      |some d2=>some { fr:=xB,h:=h2,n:=k,gz:=d2 }
      |none=>none
     |none=>none
    |none=>none
   |false=>none
  |none=>none
structure lH(n0:Nat)(E:Env)(h:Tr O)(w:World)(E':Env)(h':Tr O)(w':World):Prop where
 le:∀m b s,m<n0->E.ι m=some (b,s)->E'.ι m=some (b,s)/\E'.β b=E.β b
 low:∀m,m<n0->E'.ι m=E.ι m
 fz:∀b c,E.φ b=some c->E'.φ b=some c
 good:Good E' h' w'
 size:w.heap.size<=w'.heap.size
 tape:w'.tape=w.tape
 os:w'.os=w.os
 output:w'.output=w.output
 keep:∀b,b<w.heap.size->(∀m s,eC h m->E.ι m≠some (b,s))->w'.heap[b]? =w.heap[b]?
 sV:∀m b s,h'.get m≠none->E'.ι m=some (b,s)->b<w.heap.size->∃m0 s0,h.get m0≠none/\E.ι m0=some (b,s0)/\(eC h' m->eC h m0)
 DU:∀b c,E'.φ b=some c->E.φ b=some c\/w.heap.size<=b\/∃m s,eC h m/\E.ι m=some (b,s)
theorem lH.of{n0 n:Nat}{E E':Env}{h h':Tr O}{w w':World}(u:iy E h w E' h' w')(fK:∀m,m<n->E'.ι m=E.ι m)(hn:n0<=n):lH n0 E h w E' h' w':=
 ⟨fun m b s _ e=>u.le.nm m b s e,fun m hm=>fK m be,u.le.fz,u.good,u.size,u.tape,u.os,u.output,u.keep,u.sV,u.DU⟩
theorem lH.trans{n0:Nat}{E E1 E2:Env}{h h1 h2:Tr O}{w w1 w2:World}(a:lH n0 E h w E1 h1 w1)(b:lH n0 E1 h1 w1 E2 h2 w2):lH n0 E h w E2 h2 w2 where
 le:=fun m x s hm e=>by
  obtain⟨e1,b1⟩:=a.le m x s hm e;obtain⟨e2,b2⟩:=b.le m x s hm e1;exact⟨e2,b2.trans b1⟩
 low:=fun m hm=>(b.low m hm).trans (a.low m hm)
 fz:=fun x c e=>b.fz x c (a.fz x c e)
 good:=b.good
 size:=bU a.size b.size
 tape:=b.tape.trans a.tape
 os:=b.os.trans a.os
 output:=b.output.trans a.output
 keep:=fun x hx hn=>by
  rw[b.keep x (bD hx a.size) ?_,a.keep x hx hn];intro m s hm e;obtain⟨m0,s0,_,e0,k0⟩:=a.sV m x s hm.live e hx;exact hn m0 s0 (k0 hm) e0
 sV:=fun m x s hm e hx=>by
  obtain⟨m1,s1,k1,e1,l1⟩:=b.sV m x s hm e (bD hx a.size);obtain⟨m0,s0,k0,e0,l0⟩:=a.sV m1 x s1 k1 e1 hx;exact⟨m0,s0,k0,e0,fun q=>l0 (l1 q)⟩
 DU:=fun x c hc=>by
  rcases b.DU x c hc with q|q|⟨m,s,q1,q2⟩
  . exact a.DU x c q
  . exact .inr (.inl (bU a.size q))
  . rcases bN x w.heap.size with hx|hx
    . obtain⟨m0,s0,_,e0,k0⟩:=a.sV m x s q1.live q2 hx;exact .inr (.inr ⟨m0,s0,k0 q1,e0⟩)
    . exact .inr (.inl hx)
theorem lH.refl{n0:Nat}{E:Env}{h:Tr O}{w:World}(g:Good E h w):lH n0 E h w E h w:=
 .of (n:=n0) (iy.refl g) (fun _ _=>rfl) (aA _)
theorem lH.qo{n0:Nat}{E E':Env}{h h':Tr O}{w w':World}(u:lH n0 E h w E' h' w')(hd:qL E n0):iy E h w E' h' w':=
 ⟨⟨fun m b s e=>u.le m b s (by
  by_cases q:m<n0
  . exact q
  . rw[hd m (Nat.le_of_not_lt q)]at e;cases e) e,u.fz⟩,u.good,u.size,u.tape,u.os,u.output,u.keep,u.sV,u.DU⟩
theorem qX{n0 N:Nat}{live:List Nat}{s s2:St}{E:Env}{a:Act}{w:World}(e:eX n0 live s=some s2)(r:jV E N s a w):n0<=s.n/\n0<=s2.n/\∃E2,jV E2 N s2 a w/\lH n0 E s.h w E2 s2.h w:=by
 unfold eX at e;split at e
 . cases e
 rename_i hn;split at e
 case h_2=>cases e
 rename_i ρ pQ k ht;revert e;generalize ad1:xE pQ k .nil=back;intro e;simp only at e;split at e
 case h_2=>cases e
 rename_i fK;simp only[aC]at fK;split at e
 case h_2=>cases e
 rename_i h2 hh;split at e
 case h_2=>cases e
 rename_i xB ya;split at e
 case h_2=>cases e
 rename_i d2 Gl;simp only[an]at e;subst e
 let E2:Env:=⟨fun m=>if m<k then(match back.get m with|some old=>E.ι old|none=>none)else none,E.β,E.φ⟩
 have jb:∀m j,dN ρ back k m=some j->E2.ι j=E.ι m:=by
  intro m j hj;obtain⟨_,h2,h3⟩:=A3 hj;show(if j<k then(match back.get j with|some old=>E.ι old|none=>none)else none)=_;rw[aG h3,h2]
 have yF:∀m,m<n0->E2.ι m=E.ι m:=fun m hm=>jb m m (yU fK.1.1 m hm);have N8:=tr pQ .nil h2 hh (fun j o hj=>by simp[Tr.get]at hj);have qw:Good E2 h2 w:=by
  refine⟨?_,?_,?_,fun p hp=>(yF _ (bD (BG hp) (au fK.2))).trans (r.good.jm p hp),fun b c q=>⟨(r.good.gM b c q).1,fun m s1 hm e1=>?_⟩⟩
  case refine_4=>
   obtain⟨o,ho,Zt⟩:=hm;obtain⟨old,p,k1,k2,k3⟩:=N8 m o ho;rw[jb old m k1]at e1;exact(r.good.gM b c q).2 old s1 ⟨p,k2,(A4 k3).symm.trans Zt⟩ e1
  . intro m o2 hm;obtain⟨old,o,k1,k2,k3⟩:=N8 m o2 hm;obtain⟨b,s',e1,e2⟩:=r.good.rel old o k2;exact⟨b,s',(jb old m k1).trans e1,BH jb (fun _ _ _ _ _ _=>rfl) (fun _ _ q=>q) rfl o o2 k3 e2⟩
  . intro m m' b s1 s2 fP hm sW e1 e2;obtain⟨o,ho,Zt⟩:=hm;obtain⟨o',D9⟩:=bg.1 sW;obtain⟨old,p,k1,k2,k3⟩:=N8 m o ho;obtain⟨Bs,p',UC,k2',_⟩:=N8 m' o' D9;rw[jb old m k1]at e1;rw[jb Bs m' UC]at e2;by_cases oA:old=Bs
    . subst oA;rw[k1]at UC;simp only[an]at UC;exact fP UC
    . exact r.good.inj old Bs b s1 s2 oA ⟨p,k2,(A4 k3).symm.trans Zt⟩ (by rw[k2'];simp) e1 e2
  . intro m b s1 e1;have e1:(if m<k then(match back.get m with|some old=>E.ι old|none=>none)else none)=some (b,s1):=e1;split at e1
    . split at e1
      . exact r.good.mU _ b s1 e1
      . cases e1
    . cases e1
 refine⟨au hn,au fK.1.2,E2,⟨qw,?_,?_,r.size,?_⟩,?_⟩
 . intro m hm;show(if m<k then _ else none)=none;rw[aI (by show ¬m<k;have:k<=m:=hm;omega)]
 . intro t v2 hv;obtain⟨v,k1,k2⟩:=qW live .nil xB ya (fun j o hj=>by simp[Tr.get]at hj) t v2 hv;obtain⟨v',h1,h2⟩:=r.fr t v k1;exact⟨v',h1,tn jb (fun _ _ _ _ _ _=>rfl) (fun _ _ q=>q) v v2 v' k2 h2⟩
 . exact CQ jb _ _ _ Gl r.gz
 . refine⟨fun m b s1 hm e1=>⟨(yF m hm).trans e1,rfl⟩,yF,fun _ _ q=>q,qw,aA _,rfl,rfl,rfl,fun _ _ _=>rfl,?_,fun _ _ q=>.inl q⟩;intro m b s1 hm e1 hb;obtain⟨o,ho⟩:=bg.1 hm;obtain⟨old,p,k1,k2,k3⟩:=N8 m o ho;rw[jb old m k1]at e1;refine⟨old,s1,by rw[k2];simp,e1,fun⟨o',q1,q2⟩=>⟨p,k2,?_⟩⟩;rw[ho]at q1;cases q1;exact(A4 k3).symm.trans q2
def Mx:Code->Bool | .seq _ _=>true|_=>false
def dK:Code->Code | .seq a _=>a|c=>c
def dV:Code->Code | .seq _ b=>b|c=>c
def Qz(c:Code)(o:Operand->Bool):Bool:=match c with | .cond x _ _=>o x|_=>false
def XH:Code->Operand | .cond c _ _=>c|_=>.const (.bool true)
def My:Code->Code | .cond _ a _=>a|c=>c
def XI:Code->Code | .cond _ _ b=>b|c=>c
def BJ:Code->Nat->Bool | .block i _,j=>Nat.beq i j|_,_=>false
def CR:Code->Bool | .loop _=>true|_=>false
def dx:Code->Code | .block _ c=>c | .loop c=>c|c=>c
def eO:Nat->Code->Code
 |k+1,.seq a b=>.seq a (eO k b)
 |_,_=>.skip
def de:Nat->Code->Code
 |k+1,.seq _ b=>de k b
 |_,c=>c
def T(P:Program)(N:Nat)(w0:World)(c:Code)(s:St)(Q:Exit->St->Prop):Prop:=
 ∀(K:Exit->Act->World->Prop) (a:Act) (w:World),UB N w0 s a w->(∀y s' a' w',Q y s'->UB N w0 s' a' w'->K y a' w')->c.wp P K a w
section
variable{P:Program}{cf:fO}{F N:Nat}{w0:World}{c:Code}{s s':St}{Q Q1:Exit->St->Prop}
def andThen(R:St->Prop)(Q:Exit->St->Prop):Exit->St->Prop
 | .normal,s=>R s
 |y,s=>Q y s
def mj(i:Nat)(Q:Exit->St->Prop):Exit->St->Prop
 | .exit j,s=>if j=i then Q .normal s else Q (.exit j) s
 |y,s=>Q y s
def ov:List (Nat×V)->Tr V->Tr V
 | [],t=>t
 |x::r,t=>(ov r t).set x.1 (some x.2)
def St.over(s:St)(l:List (Nat×V)):St:={ s with fr:=ov l s.fr }
def Tr.beq{α:Type}(eq:α->α->Bool):Tr α->Tr α->Bool
 | .nil,.nil=>true
 | .node a l r,.node b l' r'=>(match a,b with|none,none=>true|some a,some b=>eq a b|_,_=>false)&&(Tr.beq eq l l'&&Tr.beq eq r r')
 |_,_=>false
theorem Tr.beq_eq{α:Type}{eq:α->α->Bool}(h:∀a b,eq a b=true->a=b):∀(t u:Tr α),Tr.beq eq t u=true->t=u
 | .nil,.nil,_=>rfl
 | .nil,.node _ _ _,e=>by simp[Tr.beq]at e
 | .node _ _ _,.nil,e=>by simp[Tr.beq]at e
 | .node a l r,.node b l' r',e=>by
   simp only[Tr.beq,aC]at e;rw[Tr.beq_eq h l l' e.2.1,Tr.beq_eq h r r' e.2.2];cases a<;>cases b<;>first|rfl|(simp at e;done)|skip
   rw[h _ _ e.1]
def v7:List (V×V×Nat)->List (V×V×Nat)->Bool
 | [],[]=>true
 |x::xs,y::ys=>(V.beq x.1 y.1&&V.beq x.2.1 y.2.1)&&(Nat.beq x.2.2 y.2.2&&v7 xs ys)
 |_,_=>false
theorem CS:∀(a b:List (V×V×Nat)),v7 a b=true->a=b
 | [],[],_=>rfl
 | [],_::_,h=>by simp[v7]at h
 |_::_,[],h=>by simp[v7]at h
 |(k,v,n)::xs,(k',v',n')::ys,h=>by
  simp only[v7,aC]at h;rw[beq_eq _ _ h.1.1,beq_eq _ _ h.1.2,aD h.2.1,CS xs ys h.2.2]
def O.beq:O->O->Bool
 | .cells a,.cells b=>V.pG a b
 | .map a c,.map b d=>v7 a b&&Nat.beq c d
 | .nE a p,.nE b q=>eG a b&&Nat.beq p q
 | .ints k a,.ints j b=>decide (k=j)&&decide (a=b)
 |_,_=>false
theorem O.beq_eq(a b:O)(h:O.beq a b=true):a=b:=by
 cases a<;>cases b<;>simp only[O.beq,aO,aC]at h
 . rw[th _ _ h]
 . rw[CS _ _ h.1,aD h.2]
 . rw[ga]at h;rw[eq_of_beq h.1,aD h.2]
 . rw[aH h.1,aH h.2]
def St.beq(a b:St):Bool:=Tr.beq V.beq a.fr b.fr&&(Tr.beq O.beq a.h b.h&&(Nat.beq a.n b.n&&(a.gz.isEmpty&&b.gz.isEmpty)))
theorem St.beq_eq{a b:St}(h:St.beq a b=true):a=b:=by
 simp only[St.beq,aC,List.isEmpty_iff]at h;obtain⟨h1,h2,h3,h4,h5⟩:=h;have e1:=Tr.beq_eq Go.Eng.beq_eq _ _ h1;have e2:=Tr.beq_eq O.beq_eq _ _ h2;have e3:=aD h3;cases a;cases b;simp_all
def St.cell(s:St)(m i:Nat)(v:V):St:=match s.h.get m with
 |some (.cells cs)=>match Nat.blt m fN with
  |true=>{ s with h:=s.h.set m (some (.cells (cs.set i v))) }
  |false=>s
 |_=>s
end
mutual
def V.qY:V->Bool
 | .fn (.func _) a c=>V.qz a&&V.qz c
 | .fn _ _ _=>false
 | .iface _ x=>V.qY x
 | .agg cs=>V.qz cs
 | .ef cs=>V.qz cs
 |_=>true
def V.qz:ag->Bool
 | []=>true
 |x::xs=>V.qY x&&V.qz xs
end
mutual
theorem V.beq_refl:∀v:V,v.qY=true->V.beq v v=true
 | .bool b,_=>by cases b<;>rfl
 | .int k n,_=>by simp[V.beq]
 | .str s,_=>by simp[V.beq,ga]
 | .ptr none,_=>rfl
 | .ptr (some (m,o)),_=>by simp[V.beq,qP]
 | .di none l c e,_=>by simp[V.beq,qP]
 | .di (some (m,o)) l c e,_=>by simp[V.beq,qP]
 | .map none,_=>rfl
 | .map (some m),_=>by simp[V.beq,FY]
 | .fn f a c,h=>by
   cases f<;>simp only[V.qY,aO,aC]at h;simp[V.beq,PK,V.r9 a h.1,V.r9 c h.2]
 | .kE,_=>rfl
 | .iface t x,h=>by simp only[V.qY]at h;simp[V.beq,V.beq_refl x h]
 | .nilIface,_=>rfl
 | .agg cs,h=>by simp only[V.qY]at h;simp[V.beq,V.r9 cs h]
 | .ef cs,h=>by simp only[V.qY]at h;simp[V.beq,V.r9 cs h]
 | .dM f n cs,_=>by simp[V.beq,qq cs]
 | .dw cs,_=>by simp[V.beq,qq cs]
theorem V.r9:∀vs:ag,V.qz vs=true->V.pG vs vs=true
 | [],_=>rfl
 |x::xs,h=>by simp only[V.qz,aC]at h;simp[V.pG,V.beq_refl x h.1,V.r9 xs h.2]
end
inductive Ob where
 |same (a b:V)
 |call (f:FuncId) (args:ag) (v:V)
def Ob.ok(cf:fO):Ob->Prop
 | .same a b=>a=b
 | .call f args v=>∀h n,cf f args h n=some (.ret v,h,n)
def aik(f:FuncId)(cf:fO):fO:=fun g args h n=>match Nat.beq g f with
 |true=>none
 |false=>cf g args h n
end Go.Eng
