/- Lemmas of the engine. No conditions. -/
import Derived.Test.YtfihojpgobmmdaaGreatDoorJointW01
import Derived.OrdersIn
import Derived.Recover
import Derived.LoopN
import Derived.LoopNIn
import Derived.RangeFuncRecord
import Derived.RangeFuncIn
import Derived.RangeFuncLeaves
import Derived.Below
set_option linter.unusedVariables false
set_option linter.unusedSimpArgs false
set_option linter.unusedSectionVars false
namespace Go.Eng
open Go
section
variable{P:Program}{cf:fT}{ops:Array Oper}{M h1 lJ:Nat}{h0:H lf}{kA:H V}{val:Nat->V}{dH:List xQ}{d:Dr}{E0:Env}{w0:World}{xV:List Deferred}
variable{fr:Nat->Bool}{ms hL:Nat}{E:Env}{a:Act}{w:World}{es:Exit->Act->World->Prop}{be:Act->World->Prop}
theorem Inv.ZJ{c7:af}(hc:Inv ops M h1 lJ h0 kA val dH c7 E0 w0 xV fr ms hL E a w)(hl:lJ<=ops.size):qH E (eF h0 (M+ops.size) dH hL).2.2:=by
 intro k hk;cases q:E.ι k with
 |none=>rfl
 |some p=>
  have I:=hc.y5;rcases hc.oz k p q with h|⟨i,b,_,B,h3⟩|h
  . omega
  . have:=hc.UP i B;omega
  . omega
theorem Inv.sub(_hr:mU ops h1)(hl:lJ<=ops.size)(f:oV P cf ops M h0 kA val dH lJ d)(ht:∀y∈d.c7,M+y.1<fP)(hc:Inv ops M h1 lJ h0 kA val dH d.c7 E0 w0 xV fr ms hL E a w)
  {iu:Nat} (ha:∀k,eo iu k=true->fr k=true):
  Sub (gY M d.c7 (eF h0 (M+ops.size) dH hL).1 (eF h0 (M+ops.size) dH hL).2.1 iu) (gY M d.c7 (eF h0 (M+ops.size) dH hL).1 (eF h0 (M+ops.size) dH hL).2.1 ms):=by
 intro k o hk;rcases ju (x:=(eF h0 (M+ops.size) dH hL).2.1) (m:=(eF h0 (M+ops.size) dH hL).1) (iu:=iu) ht f.one k with⟨i,b,N,B,h3,h4,h5⟩|⟨N,B⟩
 . rw[h5]at hk;cases hk;subst h4;exact jP ht f.one N (by rw[hc.bits];exact ha i B) h3
 . rw[B]at hk;rcases ju (x:=(eF h0 (M+ops.size) dH hL).2.1) (m:=(eF h0 (M+ops.size) dH hL).1) (iu:=ms) ht f.one k with⟨i,b,g1,g2,g3,g4,g5⟩|⟨g1,g2⟩
   . subst g4;have hi:=hc.UP i (by rw[<- hc.bits];exact g2);rw[hc.free i K g3]at hk;cases hk
   . rw[g2];exact hk
theorem nF(hb:∀i,eo ms i=fr i)(j:Nat):∀i,eo (ms|||2^j) i=(fr i||decide (i=j)):=by
 intro i;rw[Aj,CI,hb];by_cases q:i=j
 . subst q;simp
 . have:¬j=i:=fun e=>q e.symm;simp[q,this]
theorem Inv.quiet(hr:mU ops h1)(_hl:lJ<=ops.size)(_f:oV P cf ops M h0 kA val dH lJ d)(hc:Inv ops M h1 lJ h0 kA val dH d.c7 E0 w0 xV fr ms hL E a w)
  {j:Nat} {o:Oper} (ho:ops[j]? =some o) (hj:j<lJ) (Bb:fr j=false) (hd:∀e∈o.after,Region.binds .any e=true->fr e.on=true) (CM:∀(c:Nat) (e:xQ),dH[c]? =some e->e.1≠j)
  {E':Env} {w':World} {v':Value} (hv:dK E' (val j) v') (hu:iG E0 h0 w0 E' (gY M d.c7 (eF h0 (M+ops.size) dH hL).1 (eF h0 (M+ops.size) dH hL).2.1 (ms|||2^j)) w') (ku:E.le E')
  (oT:∀k,k<M->E'.ι k=E.ι k) (rX:∀k p,E'.ι k=some p->E.ι k=some p\/(∃b,(j,b)∈d.c7/\k=M+j)):
  Inv ops M h1 lJ h0 kA val dH d.c7 E0 w0 xV (fun i=>fr i||decide (i=j)) (ms|||2^j) hL E' (a.put o.dst v') w':=by
 obtain⟨g1,g2⟩:=hc.frame hr ho ku hv;refine⟨nF hc.bits j,fun i hi=>?_,fun i q hi hq e he hb=>?_,fun c e he=>?_,hc.Jle,g1,g2,hu,fun k hk=>by rw[oT k hk];exact hc.old k hk,fun k p hp=>?_,hc.free,hc.y5,by rw[iR];exact hc.size,by rw[gH];exact hc.gG⟩
 . rcases bU _ _ |>.mp hi with h|h
   . exact hc.UP i h
   . simp at h;omega
 . rcases bU _ _ |>.mp hi with h|h
   . rw[hc.closed i q h hq e he hb];rfl
   . simp at h;subst h;rw[ho]at hq;cases hq;rw[hd e he hb];rfl
 . rw[<- hc.Gr c e he];simp[CM c e he]
 . rcases rX k p hp with h|⟨b,N,B⟩
   . rcases hc.oz k p h with h|⟨i,b,N,B,h3⟩|h
     . exact .inl h
     . exact .inr (.inl ⟨i,b,N,by rw[B];rfl,h3⟩)
     . exact .inr (.inr h)
   . exact .inr (.inl ⟨j,b,N,by simp,B⟩)
theorem Inv.ad6(hr:mU ops h1)(hl:lJ<=ops.size)(f:oV P cf ops M h0 kA val dH lJ d)(ht:∀y∈d.c7,M+y.1<fP)(hc:Inv ops M h1 lJ h0 kA val dH d.c7 E0 w0 xV fr ms hL E a w)
  {iu:Nat} (ha:∀k,eo iu k=true->fr k=true) (W:∀k,eo (eF h0 (M+ops.size) dH hL).1 k=true->eo iu k=true) {E':Env} {h:H lf} {w':World}
  (hu:iG E (gY M d.c7 (eF h0 (M+ops.size) dH hL).1 (eF h0 (M+ops.size) dH hL).2.1 iu) w E' h w') (fQ:∀k,k<(eF h0 (M+ops.size) dH hL).2.2->E'.ι k=E.ι k):
  ∀i,i<ops.size->eo iu i=false->h.get (M+i)=none:=by
 intro i hi N9;cases q:h.get (M+i)with
 |none=>rfl
 |some o=>
  exfalso;obtain⟨b,s,N,_⟩:=hu.good.rel _ o q;have fI:M+i<(eF h0 (M+ops.size) dH hL).2.2:=by have:=hc.y5;omega
  have hE:=N;rw[fQ _ fI]at hE;have hmi:eo (eF h0 (M+ops.size) dH hL).1 i=false:=by
   cases c:eo (eF h0 (M+ops.size) dH hL).1 i with
   |false=>rfl
   |true=>rw[W i c]at N9;cases N9
  rcases hc.oz _ _ hE with c|⟨i',b',k1,k2,k3⟩|c
  . omega
  . have:i'=i:=by omega
    subst this;have iH:(gY M d.c7 (eF h0 (M+ops.size) dH hL).1 (eF h0 (M+ops.size) dH hL).2.1 ms).get (M+i')=some b':=jP ht f.one k1 (by rw[hc.bits];exact k2) hmi;obtain⟨m0,s0,a1,a2,_⟩:=hu.s9 (M+i') b s (by rw[q];simp) N (hc.qG.good.mK _ _ _ hE);have G:(gY M d.c7 (eF h0 (M+ops.size) dH hL).1 (eF h0 (M+ops.size) dH hL).2.1 iu).get (M+i')=none:=by
     rcases ju (x:=(eF h0 (M+ops.size) dH hL).2.1) (m:=(eF h0 (M+ops.size) dH hL).1) (iu:=iu) ht f.one (M+i')with⟨i2,b2,g1,g2,g3,g4,g5⟩|⟨g1,g2⟩
     . have:i2=i':=by omega
       subst this;rw[N9]at g2;cases g2
     . rw[g2];exact hc.free i' hi hmi
    have fU:m0≠M+i':=by intro e;subst e;exact a1 G
    have hwr:b'.wr=true:=by
     obtain⟨S,_,_,_,_,q,_⟩:=f.BS i' _ b' k1 (br hi);exact q
    refine hc.qG.good.inj (M+i') m0 b s s0 (fun q=>fU q.symm) ⟨b',iH,hwr⟩ ?_ hE a2;cases c:(gY M d.c7 (eF h0 (M+ops.size) dH hL).1 (eF h0 (M+ops.size) dH hL).2.1 iu).get m0 with
    |none=>exact absurd c a1
    |some o'=>rw[hc.sub hr hl f ht ha m0 o' c];simp
  . omega
theorem Inv.effect(hr:mU ops h1)(hl:lJ<=ops.size)(f:oV P cf ops M h0 kA val dH lJ d)(ht:∀y∈d.c7,M+y.1<fP)(hc:Inv ops M h1 lJ h0 kA val dH d.c7 E0 w0 xV fr ms hL E a w)
  {j:Nat} {o:Oper} (ho:ops[j]? =some o) (hj:j<lJ) (Bb:fr j=false) (hd:∀e∈o.after,Region.binds .any e=true->fr e.on=true) (sB:∀b,(j,b)∉d.c7)
  {h:H lf} {n:Nat} (he:dH[hL]? =some (j,mq ops j,h,n)) {E':Env} {w':World} {v':Value} (hv:dK E' (val j) v')
  (hu:iG E (gY M d.c7 (eF h0 (M+ops.size) dH hL).1 (eF h0 (M+ops.size) dH hL).2.1 (mq ops j)) w E' h w')
  (fQ:∀k,k<(eF h0 (M+ops.size) dH hL).2.2->E'.ι k=E.ι k) (rX:qH E' n) (hn:(eF h0 (M+ops.size) dH hL).2.2<=n):
  Inv ops M h1 lJ h0 kA val dH d.c7 E0 w0 xV (fun i=>fr i||decide (i=j)) (ms|||2^j) (hL+1) E' (a.put o.dst v') w':=by
 have hJ:hL<dH.length:=(aG.1 he).1;have jZ:eF h0 (M+ops.size) dH (hL+1)=(mq ops j,h,n):=by simp only[eF,he]
 have BI:∀k,eo (mq ops j) k=true->fr k=true:=fun k hk=>wC hr hc.closed ho hd hk;have W:∀k,eo (eF h0 (M+ops.size) dH hL).1 k=true->eo (mq ops j) k=true:=by
  intro k hk;cases hL with
  |zero=>simp[eF,kC]at hk
  |succ c=>
   have I:dH[c]? =some (dH[c]'(by omega)):=ay K;simp only[eF,I]at hk;obtain⟨_,o',_,_,h3⟩:=f.vl c _ I;rw[h3]at hk;exact EY hr.yZ j _ k (f.chain (c+1) c _ _ K he I) hk
 have Yj:=hc.ad6 hr hl f ht BI W hu fQ;obtain⟨g1,g2⟩:=hc.frame hr ho hu.le hv;have I:=hc.y5;refine⟨nF hc.bits j,fun i hi=>?_,fun i q hi hq e BH hb=>?_,fun c e BH=>?_,hJ,g1,g2,?_,fun k hk=>?_,fun k p hp=>?_,?_,?_,by rw[iR];exact hc.size,by rw[gH];exact hc.gG⟩
 . rcases bU _ _ |>.mp hi with h|h
   . exact hc.UP i h
   . simp at h;omega
 . rcases bU _ _ |>.mp hi with h|h
   . rw[hc.closed i q h hq e BH hb];rfl
   . simp at h;subst h;rw[ho]at hq;cases hq;rw[hd e BH hb];rfl
 . have N:=hc.Gr c e BH;constructor
   . intro hs;rcases bU _ _ |>.mp hs with q|q
     . have:=N.1 q;omega
     . simp at q;by_cases hcJ:c<hL+1
       . exact hcJ
       . have:=f.chain c hL e _ K BH he;simp only at this;rw[q]at this;have:=Kz hr.yZ j j this;omega
   . intro wz;by_cases q:c<hL
     . rw[N.2 q];rfl
     . have:c=hL:=by omega
       subst this;rw[he]at BH;cases BH;simp
 . rw[jZ];refine hc.qG.trans (iG.frame hc.qG.good (hc.sub hr hl f ht BI) hu fun k=>?_);rcases ju (x:=h) (m:=mq ops j) (iu:=ms|||2^j) ht f.one k with⟨i,b,k1,k2,k3,k4,k5⟩|⟨k1,k2⟩
   . simp only[k5];subst k4;have hi:fr i=true:=by
      rw[nF hc.bits]at k2;rcases bU _ _ |>.mp k2 with q|q
      . exact q
      . simp at q;subst q;exact absurd k1 (sB b)
     have hmi:eo (eF h0 (M+ops.size) dH hL).1 i=false:=by
      cases c:eo (eF h0 (M+ops.size) dH hL).1 i with
      |false=>rfl
      |true=>rw[W i c]at k3;cases k3
     have kI:i<ops.size:=by have:=hc.UP i hi;omega
     rw[Yj i kI k3];have G:(gY M d.c7 (eF h0 (M+ops.size) dH hL).1 (eF h0 (M+ops.size) dH hL).2.1 (mq ops j)).get (M+i)=none:=by
      rcases ju (x:=(eF h0 (M+ops.size) dH hL).2.1) (m:=(eF h0 (M+ops.size) dH hL).1) (iu:=mq ops j) ht f.one (M+i)with⟨i2,b2,q1,q2,q3,q4,q5⟩|⟨q1,q2⟩
      . have:i2=i:=by omega
        subst this;rw[k3]at q2;cases q2
      . rw[q2];exact hc.free i kI hmi
     simp only[G,if_true];rw[jP ht f.one k1 (by rw[hc.bits];exact hi) hmi]
   . rw[k2];cases hk:h.get k with
     |some o'=>rfl
     |none=>
      simp only;split
      . rename_i G;rcases ju (x:=(eF h0 (M+ops.size) dH hL).2.1) (m:=(eF h0 (M+ops.size) dH hL).1) (iu:=ms) ht f.one k with⟨i,b,q1,q2,q3,q4,q5⟩|⟨q1,q2⟩
        . exfalso;subst q4;cases c:eo (mq ops j) i with
          |false=>exact k1 i b q1 (by rw[nF hc.bits];rw[hc.bits]at q2;rw[q2];rfl) c rfl
          |true=>
           rw[jP ht f.one q1 c q3]at G;cases G
        . rw[q2];rcases ju (x:=(eF h0 (M+ops.size) dH hL).2.1) (m:=(eF h0 (M+ops.size) dH hL).1) (iu:=mq ops j) ht f.one k with⟨i,b,r1,r2,r3,r4,r5⟩|⟨r1,r2⟩
          . rw[r5]at G;cases G
          . rw[r2]at G;exact G.symm
      . rfl
 . rw[fQ k K];exact hc.old k hk
 . by_cases q:k<(eF h0 (M+ops.size) dH hL).2.2
   . rw[fQ k q]at hp;rcases hc.oz k p hp with h|⟨i,b,N,B,h3⟩|h
     . exact .inl h
     . exact .inr (.inl ⟨i,b,N,by rw[B];rfl,h3⟩)
     . rw[jZ];exact .inr (.inr ⟨h.1,by show k<n;omega⟩)
   . rw[jZ];refine .inr (.inr ⟨K,?_⟩);by_cases q2:k<n
     . exact q2
     . rw[rX k K]at hp;cases hp
 . rw[jZ];exact fun i hi hb=>Yj i hi hb
 . rw[jZ];simp only;omega
end
section
variable{P:Program}{cf:fT}{ops:Array Oper}{M h1 lJ:Nat}{h0:H lf}{kA:H V}{val:Nat->V}{dH:List xQ}{d:Dr}{E0:Env}{w0:World}{xV:List Deferred}
variable{fr:Nat->Bool}{ms hL:Nat}{E:Env}{a:Act}{w:World}{es:Exit->Act->World->Prop}{be:Act->World->Prop}{vi:Option Nat}
theorem Inv.step(oU:jq P cf)(hr:mU ops h1)(hl:lJ<=ops.size)(f:oV P cf ops M h0 kA val dH lJ d)(ht:∀y∈d.c7,M+y.1<fP)(hc:Inv ops M h1 lJ h0 kA val dH d.c7 E0 w0 xV fr ms hL E a w)
  {j:Nat} {o:Oper} (ho:ops[j]? =some o) (hj:j<lJ) (Bb:fr j=false) (hd:∀e∈o.after,Region.binds .any e=true->fr e.on=true)
  (hk:∀J' E' a' w',Inv ops M h1 lJ h0 kA val dH d.c7 E0 w0 xV (fun i=>fr i||decide (i=j)) (ms|||2^j) J' E' a' w'->be a' w'):wpOpIn (fz vi) 0 P ops es j be a w:=by
 have hjs:j<ops.size:=by omega
 have BI:∀k,eo (mq ops j) k=true->fr k=true:=fun k hk=>wC hr hc.closed ho hd hk;have hmj:eo (eF h0 (M+ops.size) dH hL).1 j=false:=by
  cases c:eo (eF h0 (M+ops.size) dH hL).1 j with
  |false=>rfl
  |true=>rw[hc.ad5 hr f c]at Bb;cases Bb
 have u7:E.ι (M+j)=none:=by
  cases q:E.ι (M+j)with
  |none=>rfl
  |some p=>
   rcases hc.oz _ p q with h|⟨i,b,_,B,h3⟩|h
   . omega
   . have:i=j:=by omega
     subst this;rw[Bb]at B;cases B
   . omega
 have Yk:(∀b,(j,b)∉d.c7)->∀k,(gY M d.c7 (eF h0 (M+ops.size) dH hL).1 (eF h0 (M+ops.size) dH hL).2.1 (ms|||2^j)).get k=
   (gY M d.c7 (eF h0 (M+ops.size) dH hL).1 (eF h0 (M+ops.size) dH hL).2.1 ms).get k:=by
  intro sB k;rcases ju (x:=(eF h0 (M+ops.size) dH hL).2.1) (m:=(eF h0 (M+ops.size) dH hL).1) (iu:=ms|||2^j) ht f.one k with⟨i,b,k1,k2,k3,k4,k5⟩|⟨k1,k2⟩
  . subst k4;rw[k5,jP ht f.one k1 ?_ k3];rw[nF hc.bits]at k2;rcases bU _ _ |>.mp k2 with q|q
    . rw[hc.bits];exact q
    . simp at q;subst q;exact absurd k1 (sB b)
  . rw[k2,qK ht fun i b q1 q2 q3=>k1 i b q1 (by rw[nF hc.bits];rw[hc.bits]at q2;rw[q2];rfl) q3]
 unfold wpOpIn;simp only[ho];by_cases hal:∃b,(j,b)∈d.c7
 ·
  obtain⟨b,hb⟩:=hal;obtain⟨S,f1,f2,f3,f4,f6,f5⟩:=f.BS j o b hb ho;rw[aH (hc.wanted hr ho Bb hd f1 f2)];refine(CG hc.qG.good u7 (hc.uW hr ho Bb hd f1) (f5 _) fun E' w' v' q1 q2 q3 _=>hk hL E' _ w' ?_);refine hc.quiet hr hl f ho hj Bb hd (fun c e he fU=>?_) q1 ?_ q2.le (fun k hk=>q3 k K) (fun k p hp=>?_)
  . obtain⟨_,o',N,B,_⟩:=f.vl c e he;rw[fU,ho]at N;cases N;rw[f3]at B;cases B
  . refine hc.qG.trans (q2.ext fun k=>?_);by_cases Yl:k=M+j
    . subst Yl;rw[H.nr _ _ f4,jP ht f.one hb (by rw[nF hc.bits];simp) hmj]
    . rw[H.qD _ _ f4 Yl];rcases ju (x:=(eF h0 (M+ops.size) dH hL).2.1) (m:=(eF h0 (M+ops.size) dH hL).1) (iu:=ms|||2^j) ht f.one k with⟨i,b',k1,k2,k3,k4,k5⟩|⟨k1,k2⟩
      . subst k4;rw[k5,jP ht f.one k1 ?_ k3];rw[nF hc.bits]at k2;rcases bU _ _ |>.mp k2 with q|q
        . rw[hc.bits];exact q
        . simp at q;subst q;exact absurd rfl Yl
      . rw[k2,qK ht fun i b q1 q2 q3=>k1 i b q1 (by rw[nF hc.bits];rw[hc.bits]at q2;rw[q2];rfl) q3]
  . by_cases Yl:k=M+j
    . exact .inr ⟨b,hb,Yl⟩
    . rw[q3 k Yl]at hp;exact .inl hp
 . have sB:∀b,(j,b)∉d.c7:=fun b q=>hal ⟨b,q⟩;obtain⟨S,f1,f2⟩:=f.ZE j o hj ho;have look:iJ ops o S=some true->rC o.op=false->dJ P o S (gY M d.c7 (eF h0 (M+ops.size) dH hL).1 (eF h0 (M+ops.size) dH hL).2.1 ms) (M+j)=
     some (.val (val j) (gY M d.c7 (eF h0 (M+ops.size) dH hL).1 (eF h0 (M+ops.size) dH hL).2.1 ms) (M+j))->
     (if Region.wanted o (yielded ops a.tmps)=true then o.wpIn (fz vi) 0 P a w be es else(∀f,o.about P w a.eval=some f->(fz vi).fn f)/\be (a.put o.dst undef) w):=by
    intro hw fU hs;rw[aH (hc.wanted hr ho Bb hd f1 hw)];refine(CG hc.qG.good u7 (hc.uW hr ho Bb hd f1) hs fun E' w' v' q1 q2 q3 q4=>hk hL E' _ w' ?_);rcases q4 with⟨_,rfl⟩|q4
    . refine hc.quiet hr hl f ho hj Bb hd (fun c e he UQ=>?_) q1 (hc.qG.trans (q2.ext (Yk sB))) q2.le (fun _ _=>rfl) (fun _ _ hp=>.inl hp);obtain⟨_,o',N,B,_⟩:=f.vl c e he;rw[UQ,ho]at N;cases N;rw[fU]at B;cases B
    . omega
   rcases f2 with⟨hw,hv⟩|⟨_,_,b,q3,_⟩|⟨hw,fU,pO⟩|⟨hw,fU,xW,ad8⟩|⟨hw,CM,c,h,n,I,fS⟩
   ·
    rw[aI (by rw[hc.wanted hr ho Bb hd f1 hw];simp)];refine⟨fun _ _=>trivial,?_⟩;refine hk hL E _ w (hc.quiet (v':=undef) hr hl f ho hj Bb hd (fun c e he UQ=>?_) (by rw[hv];exact⟨[],rfl,rfl⟩) (hc.qG.ext (Yk sB)) E.le_refl (fun _ _=>rfl) (fun _ _ hp=>.inl hp));have HE:=hc.wanted hr ho Bb hd f1 hw;have Yi:=f.Al c e o he (by rw[UQ];exact ho);obtain⟨Ym,g3,g4⟩:=Yi;rw[UQ]at g3;have PC:=hc.wanted hr ho Bb hd g3 g4;rw[HE]at PC;cases PC
   . exact absurd q3 (sB b)
   . exact look hw fU (pO _)
   . have c1:∀(c':Nat) (e:xQ),hL<=c'->dH[c']? =some e->eo (mq ops j) e.1=false:=by
      intro c' e wz he;cases q:eo (mq ops j) e.1 with
      |false=>rfl
      |true=>have:=(hc.Gr c' e he).1 (BI _ q);omega
     have c2:∀(c':Nat) (e:xQ),c'<hL->dH[c']? =some e->eo e.2.1 j=false:=by
      intro c' e wz he;obtain⟨_,o',_,_,h3⟩:=f.vl c' e he;cases q:eo e.2.1 j with
      |false=>rfl
      |true=>
       rw[h3]at q;rw[hc.iu hr ((hc.Gr c' e he).2 wz) q]at Bb;cases Bb
     obtain⟨y,hy⟩:=ad8 hL hc.Jle c1 c2;rcases _root_.Go.Eng.quiet fU hy with⟨u,N,B⟩|⟨u,b,N,B,h3⟩
     . cases N;exact look hw fU (B _ (hc.sub hr hl f ht BI))
     . simp only[nx.val.injEq]at B;omega
   ·
    have hcJ:c=hL:=by
     have N:¬c<hL:=by
      intro q;have:=(hc.Gr c _ I).2 q;simp only at this;rw[Bb]at this;cases this
     by_cases q:hL<c
     . have hJl:hL<dH.length:=by have:=(aG.1 I).1;omega
       have he:dH[hL]? =some dH[hL]:=ay hJl;have:=f.chain c hL _ _ q I he;have:=(hc.Gr hL _ he).1 (BI _ this);omega
     . omega
    subst hcJ;rw[aH (hc.wanted hr ho Bb hd f1 hw)];have E7:=hc.qG.good.sub (hc.sub hr hl f ht BI);have E9:=hc.ZJ hl;simp only at fS;rcases fS with hs|⟨g,args,hs,Qs⟩
    . refine CG E7 (E9 _ (aA _)) (hc.uW hr ho Bb hd f1) hs fun E' w' v' q1 q2 q3 q4=>hk (c+1) E' _ w' ?_;refine hc.effect hr hl f ht ho hj Bb hd sB I q1 q2 (fun k hk=>q3 k K) ?_ ?_
      . rcases q4 with⟨rfl,rfl⟩|rfl
        . exact E9
        . intro k hk;rw[q3 k K];exact E9 k K
      . rcases q4 with⟨rfl,_⟩|rfl<;>omega
    . refine BR oU E7 E9 (hc.uW hr ho Bb hd f1) hs Qs fun E' w' q2 q3 q4 q5=>?_;intro v' q1;exact hk (c+1) E' _ w' (hc.effect hr hl f ht ho hj Bb hd sB I q1 q2 q3 q4 q5)
end
theorem filter_lt{α:Type}{p q:α->Bool}{x:α}:∀{l:List α},x∈l->p x=true->q x=false->(∀y,q y=true->p y=true)->(l.filter q).length<(l.filter p).length
 | [],h,_,_,_=>by simp at h
 |y::l,h,hp,hq,W=>by
  have ku:(l.filter q).length<=(l.filter p).length:=by
   clear h
   induction l with
   |nil=>simp
   |cons z l ih=>
    simp only[List.filter_cons];by_cases c:q z=true
    . rw[aH c,aH (W z c)];simp;exact ih
    . rw[aI c];by_cases c2:p z=true
      . rw[aH c2];simp;omega
      . rw[aI c2];exact ih
  simp only[List.filter_cons];rcases aF.1 h with rfl|h
  . rw[aH hp,aI (by rw[hq];simp)];simp;omega
  . have ih:=filter_lt h hp hq W;by_cases c:q y=true
    . rw[aH c,aH (W y c)];simp;exact ih
    . rw[aI c];by_cases c2:p y=true
      . rw[aH c2];simp;omega
      . rw[aI c2];exact ih
def ZK(n:Nat)(gV:Array Bool):Nat:=((List.range n).filter fun i=>!gV.getD i false).length
theorem Am{gV:Array Bool}{j:Nat}(hj:j<gV.size)(i:Nat):(gV.setIfInBounds j true).getD i false=(gV.getD i false||decide (i=j)):=by
 simp only[cg,Array.getElem?_setIfInBounds];by_cases q:i=j
 . subst q;simp[hj]
 . have:¬j=i:=fun e=>q e.symm;simp[q,this]
section
variable{P:Program}{cf:fT}{ops:Array Oper}{M h1 lJ:Nat}{h0:H lf}{kA:H V}{val:Nat->V}{dH:List xQ}{d:Dr}{E0:Env}{w0:World}{xV:List Deferred}
variable{es:Exit->Act->World->Prop}{vi:Option Nat}
theorem Fa(oU:jq P cf)(hr:mU ops h1)(hl:lJ<=ops.size)(f:oV P cf ops M h0 kA val dH lJ d)(ht:∀y∈d.c7,M+y.1<fP)
  (hQ:lJ=ops.size->∀fr ms hL E a w,Inv ops M h1 lJ h0 kA val dH d.c7 E0 w0 xV fr ms hL E a w->(∀i,i<ops.size->fr i=true)->es .normal a w)
  (hP:lJ<ops.size->lJ+1=ops.size/\∀fr ms hL E a w o,Inv ops M h1 lJ h0 kA val dH d.c7 E0 w0 xV fr ms hL E a w->ops[lJ]? =some o->
   (∀e∈o.after,Region.binds .any e=true->fr e.on=true)->∀be,wpOpIn (fz vi) 0 P ops es lJ be a w):
  ∀(fuel:Nat) (gV:Array Bool) (ms hL:Nat) (E:Env) (a:Act) (w:World),gV.size=ops.size->ZK ops.size gV<=fuel->
   Inv ops M h1 lJ h0 kA val dH d.c7 E0 w0 xV (fun i=>gV.getD i false) ms hL E a w->wpAnyIn (fz vi) 0 P .any ops es fuel gV a w:=by
 have done:∀(gV:Array Bool) (ms hL:Nat) (E:Env) (a:Act) (w:World),gV.size=ops.size->Inv ops M h1 lJ h0 kA val dH d.c7 E0 w0 xV (fun i=>gV.getD i false) ms hL E a w->
   Region.ready .any ops gV=[]->es .normal a w:=by
  intro gV ms hL E a w hs hc Gs;have all:∀i,i<ops.size->gV.getD i false=true:=by
   intro i
   induction i using Nat.strongRecOn with
   |_ i ih=>
    intro hi;cases q:gV.getD i false with
    |true=>rfl
    |false=>
     exfalso;have ho:ops[i]? =some ops[i]:=br hi;have:i∈Region.ready .any ops gV:=mem_ready.2 ⟨by
      rw[cg,br K]at q ⊢;exact q,ops[i],ho,fun e he hb=>by
      have:=hr.yZ i _ ho e he hb;exact ih e.on this K⟩
     rw[Gs]at this;simp at this
  have Qt:lJ=ops.size:=by
   by_cases q:lJ<ops.size
   . have:=hc.UP lJ (all lJ q);omega
   . omega
  exact hQ Qt _ ms hL E a w hc all
 intro fuel
 induction fuel with
 |zero=>
  intro gV ms hL E a w hs hu hc;have Gs:Region.ready .any ops gV=[]:=by
   rw[List.eq_nil_iff_forall_not_mem];intro j hj;obtain⟨N,o,ho,_⟩:=mem_ready.1 hj;have hjs:=(aQ.1 ho).1;have hz:ZK ops.size gV=0:=by omega
   unfold ZK at hz;have:=List.eq_nil_iff_length_eq_zero.2 hz;have W:j∈(List.range ops.size).filter fun i=>!gV.getD i false:=List.mem_filter.2 ⟨List.mem_range.2 hjs,by
    rw[cg,br K]at N ⊢;simp at N;simp[N]⟩
   rw[this]at W;simp at W
  exact⟨Gs,done gV ms hL E a w hs hc Gs⟩
 |succ fuel ih=>
  intro gV ms hL E a w hs hu hc;refine⟨done gV ms hL E a w hs hc,fun j hj=>?_⟩;obtain⟨N,o,ho,hd⟩:=mem_ready.1 hj;have hjs:=(aQ.1 ho).1;have Bb:gV.getD j false=false:=by
   rw[cg,br K]at N ⊢;exact N
  by_cases Pz:j<lJ
  . refine hc.step oU hr hl f ht ho Pz Bb hd fun J' E' a' w' I'=>?_;refine ih _ (ms|||2^j) J' E' a' w' (by simp;exact hs) ?_ ?_
    . have:ZK ops.size (gV.setIfInBounds j true)<ZK ops.size gV:=by
       refine filter_lt (x:=j) (List.mem_range.2 hjs) (by rw[Bb];rfl) (by rw[Am K];simp) fun y hy=>?_;rw[Am K]at hy;simp at hy ⊢;exact hy.1
      omega
    . have:(fun i=>(gV.setIfInBounds j true).getD i false)=fun i=>(gV.getD i false||decide (i=j)):=funext fun i=>Am K i;rw[this];exact I'
  . have fI:lJ<ops.size:=by omega
    obtain⟨p1,p2⟩:=hP fI;have:j=lJ:=by omega
    subst this;exact p2 _ ms hL E a w o hc ho hd _
end
theorem Qu{vi:Option Nat}{P:Program}{cf:fT}{ops:Array Oper}{h1 id:Nat}{s s':St}{x:fl}{E0:Env}{a0:Act}{w0:World}{es:Exit->Act->World->Prop}(oU:jq P cf)(hr:mU ops h1)(W:P.follows .mixedOrders=true)
  (e:drawn P cf ops s=some (x,s')) (g:Good E0 s.h w0) (hd:qH E0 s.n) (hf:yX E0 s.S a0) (hN:a0.tmps.size=h1)
  (hq:∀E' a' w' x',iG E0 s.h w0 E' s'.h w'->(∀k,k<s.n->E'.ι k=E0.ι k)->qH E' s'.n->s.n<=s'.n->yX E' s'.S a'->a'.tmps.size=h1->a'.defers=a0.defers->s'.gG=s.gG->N8 E' x x'->es x' a' w'):
  (Code.region id ops true).wpIn (fz vi) 0 P es a0 w0:=by
 refine wpIn_region_any W ?_;unfold drawn at e;split at e
 . rename_i gT;have init:=KC (P:=P) (cf:=cf) (ops:=ops) (M:=s.n) s.S s.h;have start:∀(lJ:Nat) (val:Nat->V) (dH:List xQ) (c7:af),Inv ops s.n h1 lJ s.h s.S val dH c7 E0 w0 a0.defers (fun i=>(Array.replicate ops.size false).getD i false) 0 0 E0 a0 { w0 with drawn:=w0.drawn+1 }:=by
    intro lJ val dH c7;have hS:∀i,(Array.replicate ops.size false).getD i false=false:=by
     intro i;rw[cg];by_cases q:i<ops.size
     . rw[br (by simpa using q)];simp
     . rw[Array.getElem?_eq_none (by simpa using q)];rfl
    have ZI:∀k,(gY s.n c7 (eF s.h (s.n+ops.size) dH 0).1 (eF s.h (s.n+ops.size) dH 0).2.1 0).get k=s.h.get k:=by
     intro k;have:∀l:af,gY s.n l (eF s.h (s.n+ops.size) dH 0).1 (eF s.h (s.n+ops.size) dH 0).2.1 0=s.h:=by
      intro l
      induction l with
      |nil=>rfl
      |cons y l ih=>obtain⟨i,b⟩:=y;simp only[gY,kC,Bool.false_and,aO,cI];exact ih
     rw[this]
    refine⟨fun i=>by rw[kC,hS],fun i hi=>?_,fun j o hj=>?_,fun c e' _=>?_,aX _,fun j o t hj=>?_,fun t v hv _=>hf t v hv,(iG.drew g).ext ZI,fun _ _=>rfl,fun k p hp=>?_,fun i _ _=>?_,aA _,hN,rfl⟩
    . rw[hS]at hi;cases hi
    . rw[hS]at hj;cases hj
    . rw[hS];constructor
      . intro q;cases q
      . intro q;omega
    . rw[hS]at hj;cases hj
    . by_cases q:k<s.n
      . exact .inl q
      . rw[hd k K]at hp;cases hp
    . show s.h.get (s.n+i)=none;cases q:s.h.get (s.n+i)with
      |none=>rfl
      |some o=>
       obtain⟨b,t,N,_⟩:=g.rel _ _ q;rw[hd _ K]at N;cases N
   have hu0:ZK ops.size (Array.replicate ops.size false)<=ops.size:=by
    unfold ZK;exact bX (List.length_filter_le _ _) (by simp)
   have fS:=fun(r:Dr ⊕ (H V×V×H lf×Nat)) q=>E6 (h1:=h1) hr ops.toList 0 _ _ _ r (by simp) init q;split at e
   . rename_i d Yn;obtain⟨rfl,rfl⟩:=fg e;obtain⟨val,dH,f⟩:=fS _ Yn;rw[show max 0 ops.size=ops.size by omega]at f;have ht:∀y∈d.c7,s.n+y.1<fP:=fun y hy=>by have:=f.c7 y hy;omega
     refine Fa oU hr (aA _) f ht (fun _ fr ms hL E a w hc pO=>?_) (fun q=>by omega) ops.size _ 0 0 E0 a0 _ (by simp) hu0 (start ops.size val dH d.c7);have hJ:hL=dH.length:=by
      have N:=hc.Jle;by_cases q:hL<dH.length
      . have he:dH[hL]? =some dH[hL]:=ay q;have:=(hc.Gr hL _ he).1 (pO _ (f.vl hL _ he).1);omega
      . omega
     have ec1:d.cur.1=(eF s.h (s.n+ops.size) dH hL).1:=by rw[hJ,f.cur]
     have ec2:d.cur.2=(eF s.h (s.n+ops.size) dH hL).2.1:=by rw[hJ,f.cur]
     have en:d.n=(eF s.h (s.n+ops.size) dH hL).2.2:=by rw[hJ,f.n]
     refine hq E a w .normal ?_ hc.old ?_ ?_ ?_ hc.size hc.gG rfl trivial
     . refine hc.qG.ext fun k=>?_;simp only[ec1,ec2];have ad9:∀i,i<ops.size->eo (2^ops.size-1) i=true:=fun i hi=>by
        unfold eo;rw[Nat.testBit_two_pow_sub_one];simpa using hi
       rcases ju (M:=s.n) (x:=(eF s.h (s.n+ops.size) dH hL).2.1) (m:=(eF s.h (s.n+ops.size) dH hL).1) (iu:=2^ops.size-1) ht f.one k with⟨i,b,k1,k2,k3,k4,k5⟩|⟨k1,k2⟩
       . subst k4;rw[k5,jP ht f.one k1 (by rw[hc.bits];exact pO i (f.c7 _ k1)) k3]
       . rw[k2,qK ht fun i b q1 q2 q3=>k1 i b q1 (ad9 i (f.c7 _ q1)) q3]
     . show qH E d.n;rw[en];exact hc.ZJ (aA _)
     . show s.n<=d.n;rw[en];have:=hc.y5;omega
     . intro t v hv;by_cases q:∃j o,j<ops.size/\ops[j]? =some o/\o.dst=some t
       . obtain⟨j,o,q1,q2,q3⟩:=q;have:=f.S.new j o t q1 q2 q3;simp only at hv;rw[this]at hv;cases hv;exact hc.f1 j o t (pO j q1) q2 q3
       . have:=f.S.old t fun i o hi ho Ug=>q ⟨i,o,hi,ho,Ug⟩;simp only at hv;rw[this]at hv;exact hc.f2 t v hv fun j o hj ho Ug=>q ⟨j,o,hc.UP j hj,ho,Ug⟩
   . rename_i S v h n Yn;obtain⟨rfl,rfl⟩:=fg e;obtain⟨lJ,o,d,val,dH,ho,f,pM⟩:=fS _ Yn;have Qt:lJ<ops.size:=(aQ.1 ho).1;have ht:∀y∈d.c7,s.n+y.1<fP:=fun y hy=>by have:=f.c7 y hy;omega
     have BI:eS d.eC o.after.toList=mq ops lJ:=by rw[f.eC];unfold mq;rw[ho]
     unfold uX at pM;simp only[BI]at pM;split at pM
     . split at pM<;>cases pM
     . rename_i hw;split at pM
       . rename_i CM;split at pM
         . split at pM
           . split at pM<;>cases pM
           . rename_i gg args hs;split at pM
             . split at pM<;>cases pM
             . rename_i v' h' n' I;split at pM
               . rename_i hb;simp only[an,Sum.inr.injEq,aB]at pM;obtain⟨rfl,rfl,rfl,rfl⟩:=pM;simp only[aC]at hb;have yO:=aD hb.1;have H8:=aD hb.2;have N9:∀i,i<lJ->eo (mq ops lJ) i=true:=fun i hi=>by
                  have:mq ops lJ=2^lJ-1:=by omega
                  rw[this];unfold eo;rw[Nat.testBit_two_pow_sub_one];simpa using hi
                 refine Fa oU hr (Nat.le_of_lt Qt) f ht (fun q=>by omega) (fun _=>⟨H8,fun fr ms hL E a w o' hc Eo Qv be=>?_⟩) ops.size _ 0 0 E0 a0 _ (by simp) hu0 (start lJ val dH d.c7);rw[ho]at Eo;cases Eo;have hSl:fr lJ=false:=by
                  cases q:fr lJ with
                  |false=>rfl
                  |true=>have:=hc.UP lJ q;omega
                 have pO:∀i,i<lJ->fr i=true:=fun i hi=>wC hr hc.closed ho Qv (N9 i hi);have hJ:hL=dH.length:=by
                  have N:=hc.Jle;by_cases q:hL<dH.length
                  . have he:dH[hL]? =some dH[hL]:=ay q;have:=(hc.Gr hL _ he).1 (pO _ (f.vl hL _ he).1);omega
                  . omega
                 have ec1:d.cur.1=(eF s.h (s.n+ops.size) dH hL).1:=by rw[hJ,f.cur]
                 have ec2:d.cur.2=(eF s.h (s.n+ops.size) dH hL).2.1:=by rw[hJ,f.cur]
                 have en:d.n=(eF s.h (s.n+ops.size) dH hL).2.2:=by rw[hJ,f.n]
                 rw[ec1,ec2,en]at hs I;have nB:=hc.sub hr (Nat.le_of_lt Qt) f ht (iu:=mq ops lJ) fun k hk=>pO k (Kz hr.yZ lJ k hk);have E9:=hc.ZJ (Nat.le_of_lt Qt);unfold wpOpIn;simp only[ho];rw[aH (hc.wanted hr ho hSl Qv f.S hw)];refine(BR oU (hc.qG.good.sub nB) E9 (hc.uW hr ho hSl Qv f.S) hs I fun E' w' q2 q3 q4 q5=>?_);intro v2 hv2;have hcn:=hc.y5;refine hq E' a w' _ ?_ (fun k hk=>?_) q4 ?_ ?_ hc.size hc.gG rfl ⟨v2,hv2,rfl⟩
                 . refine hc.qG.trans (iG.frame hc.qG.good nB q2 fun k=>?_);simp only;cases hk:h'.get k with
                   |some o'=>rfl
                   |none=>
                    simp only;split
                    . rename_i G;rcases ju (M:=s.n) (x:=(eF s.h (s.n+ops.size) dH hL).2.1) (m:=(eF s.h (s.n+ops.size) dH hL).1) (iu:=ms) ht f.one k with⟨i,b,k1,k2,k3,k4,k5⟩|⟨k1,k2⟩
                      . subst k4;rw[jP ht f.one k1 (N9 i (f.c7 _ k1)) k3]at G;cases G
                      . rw[k2];rw[qK ht fun i b q1 q2' q3'=>k1 i b q1 (by rw[hc.bits];exact pO i (f.c7 _ q1)) q3']at G;exact G.symm
                    . rfl
                 . rw[q3 k K];exact hc.old k hk
                 . show s.n<=n';omega
                 . refine j9 q2.le ?_;intro t v hv;by_cases q:∃j o,j<lJ/\ops[j]? =some o/\o.dst=some t
                   . obtain⟨j,o2,q1,q2,q3⟩:=q;have:=f.S.new j o2 t q1 q2 q3;simp only at hv;rw[this]at hv;cases hv;exact hc.f1 j o2 t (pO j q1) q2 q3
                   . have:=f.S.old t fun i o2 hi UR Ug=>q ⟨i,o2,hi,UR,Ug⟩;simp only at hv;rw[this]at hv;exact hc.f2 t v hv fun j o2 hj UR Ug=>q ⟨j,o2,hc.UP j hj,UR,Ug⟩
               . cases pM
             . cases pM
           . cases pM
         . cases pM
       . split at pM
         . split at pM
           . split at pM
             . split at pM
               . cases pM
               . split at pM<;>cases pM
             . split at pM
               . split at pM<;>cases pM
               . cases pM
           . cases pM
         . cases pM
     . cases pM
   . cases e
 . cases e
def Qw(E:Env)(x:FuncId×ag×ag)(d:Deferred):Prop:=
 (x.1<fP/\∃c' de,dL E x.2.1 c'/\dL E x.2.2 de/\d={ target:=.fn (.func x.1) c'.toArray,args:=de.toArray }) \/
 (x.1=fP/\∃m b s,x.2.2=[.map (some m)]/\E.ι m=some (b,s)/\d={ target:=.collected b,args:=#[] })
def xm(E:Env):List (FuncId×ag×ag)->List Deferred->Prop
 | [],l=>l=[]
 |x::xs,l=>∃d ys,Qw E x d/\xm E xs ys/\l=d::ys
theorem KD{E E':Env}(h:E.le E'){x:FuncId×ag×ag}{d:Deferred}:Qw E x d->Qw E' x d:=by
 rintro(⟨G,c',a',r1,r2,q⟩|⟨G,m,b,s,q1,q2,q3⟩)
 . exact .inl ⟨G,c',a',kF h _ _ r1,kF h _ _ r2,q⟩
 . exact .inr ⟨G,m,b,s,q1,(h.nm _ _ _ q2).1,q3⟩
theorem je{E E':Env}(h:E.le E'):∀(xs:List (FuncId×ag×ag)) (ys:List Deferred),xm E xs ys->xm E' xs ys
 | [],_,r=>r
 |_::xs,_,⟨d,ys,r1,r3,q⟩=>⟨d,ys,KD h r1,je h xs ys r3,q⟩
theorem iG.kill{E:Env}{h:H lf}{w w':World}{m b s:Nat}(g:Good E h w)(ht:m<fP)(iH:eE h m)(W:E.ι m=some (b,s))
  (EN:w'.heap.size=w.heap.size) (HX:w'.tape=w.tape) (hos:w'.os=w.os) (pJ:w'.output=w.output)
  (qE:∀x,x≠b->w'.heap[x]? =w.heap[x]?):iG E h w E (h.set m none) w':=by
 have hs:∀k o,(h.set m none).get k=some o->k≠m/\h.get k=some o:=by
  intro k o hk;rw[H.eY _ _ _ ht]at hk;split at hk
  . cases hk
  . rename_i q;exact⟨q,hk⟩
 have dO:∀k o,(h.set m none).get k=some o->h.get k=some o:=fun k o q=>(hs k o q).2;refine⟨E.le_refl,⟨?_,?_,?_,g.jh,fun b' c q=>⟨by rw[qE b' fun e=>(g.gQ b' c q).2 m s iH (e▸W)];exact(g.gQ b' c q).1,fun k t hk=>(g.gQ b' c q).2 k t (gz dO hk)⟩⟩,K,HX,hos,pJ,?_,fun k x t hk e _=>⟨k,t,nu dO hk,e,gz dO⟩,fun _ _ q=>.inl q⟩
 . intro k o hk;obtain⟨fU,hk⟩:=hs k o hk;obtain⟨b',s',N,B⟩:=g.rel k o hk;have hb:b'≠b:=by
    intro hb;subst hb;exact g.inj m k b' s s' (fun q=>fU q.symm) iH (by rw[hk];simp) W N
   exact⟨b',s',N,gU E.le_refl rfl (qE b' hb) B⟩
 . intro k k' x t t' fU hk uH e e';exact g.inj k k' x t t' fU (gz dO hk) (nu dO uH) e e'
 . intro k x t e;rw[EN];exact g.mK k x t e
 . intro x _ hn;refine qE x ?_;intro G;subst G;exact hn m s iH W
structure kf(E:Env)(h1:Nat)(s:St)(a:Act)(w:World):Prop where
 good:Good E s.h w
 oz:qH E s.n
 S:yX E s.S a
 size:a.tmps.size=h1
 gG:xm E s.gG a.defers
def Is(E:Env)(h1:Nat)(s:St)(w:World)(x:fl)(s':St)(es:Exit->Act->World->Prop):Prop:=
 ∀E' a' w' x',iG E s.h w E' s'.h w'->(∀k,k<s.n->E'.ι k=E.ι k)->s.n<=s'.n->kf E' h1 s' a' w'->N8 E' x x'->es x' a' w'
theorem Is.after{E E1:Env}{h1:Nat}{s s1 s':St}{w w1:World}{x:fl}{es:Exit->Act->World->Prop}(p:Is E h1 s w x s' es)(u:iG E s.h w E1 s1.h w1)(fQ:∀k,k<s.n->E1.ι k=E.ι k)(hn:s.n<=s1.n):Is E1 h1 s1 w1 x s' es:=
 fun E' a' w' x' u' Qx pV r rx=>p E' a' w' x' (u.trans u') (fun k hk=>by rw[Qx k K];exact fQ k hk) K r rx
section
variable{P:Program}{cf:fT}{rt h1:Nat}{vi:Option Nat}
theorem kQ(oU:jq P cf){ops:Array Oper}:∀(l:List Oper) (s:St) (x:fl) (s':St),(vi=none\/∀o∈l,BO o.op=true)->(∀o∈l,nD h1 o.dst)->jl P cf ops l s=some (x,s')->
  ∀(E:Env) (a:Act) (w:World) (es:Exit->Act->World->Prop),kf E h1 s a w->Is E h1 s w x s' es->wpListIn (fz vi) 0 P ops es l a w
 | [],s,x,s',_,_,e,E,a,w,es,r,hp=>by
   simp only[jl,an,aB]at e;obtain⟨rfl,rfl⟩:=e;exact hp E a w .normal (iG.refl r.good) (fun _ _=>rfl) (aA _) r trivial
 |o::rest,s,x,s',oM,uB,e,E,a,w,es,r,hp=>by
  have US:vi=none\/∀o∈rest,BO o.op=true:=oM.imp _root_.id fun h o ho=>h o (by simp[ho]);have ho:=uB o (by simp);have vp:∀o∈rest,nD h1 o.dst:=fun o h=>uB o (by simp[h]);have UT:nD a.tmps.size o.dst:=by rw[r.size];exact ho
  simp only[jl]at e;unfold wpListIn;have It:∀b,iJ ops o s.S=some b->Region.wanted o (yielded ops a.tmps)=b:=fun b hb=>xO (E:=E) (fun _ _ _ d _ _ _ v hv=>r.S d v hv) hb;have Et:∀y∈o.op.operands,mN E s.S a.eval y:=fun y _=>iS r.good.jh r.S y;split at e
  . rename_i hw;rw[aI (by rw[It _ hw];simp)];split at e
    . rename_i S rV;refine⟨fun _ _=>trivial,?_⟩;refine kQ oU rest _ x s' US vp e E _ w es ⟨r.good,r.oz,jH r.S rV ⟨[],rfl,rfl⟩ UT,by rw[iR];exact r.size,by rw[gH];exact r.gG⟩ ?_;exact hp.after (iG.refl r.good) (fun _ _=>rfl) (aA _)
    . cases e
  . rename_i hw;rw[aH (It _ hw)];split at e
    . rename_i v h n hs;split at e
      . rename_i S rV;refine CG r.good (r.oz _ (aA _)) Et hs fun E' w' v' q1 q2 q3 q4=>?_;have hn:s.n<=n:=by rcases q4 with⟨rfl,_⟩|rfl<;>omega
        have rX:qH E' n:=by
         rcases q4 with⟨rfl,rfl⟩|rfl
         . exact r.oz
         . intro k hk;rw[q3 k K];exact r.oz k K
        refine kQ oU rest _ x s' US vp e E' _ w' es ⟨q2.good,rX,jH (j9 q2.le r.S) rV q1 UT,by rw[iR];exact r.size,by rw[gH];exact je q2.le _ _ r.gG⟩ ?_;exact hp.after q2 (fun k hk=>q3 k K) hn
      . cases e
    . rename_i g args hs;split at e
      . rename_i v h n I;split at e
        . rename_i S rV;refine BR oU r.good r.oz Et hs I fun E' w' q2 q3 q4 q5=>?_;intro v' q1;refine kQ oU rest _ x s' US vp e E' _ w' es ⟨q2.good,q4,jH (j9 q2.le r.S) rV q1 UT,by rw[iR];exact r.size,by rw[gH];exact je q2.le _ _ r.gG⟩ ?_;exact hp.after q2 q3 q5
        . cases e
      . rename_i v h n I;obtain⟨rfl,rfl⟩:=fg e;refine BR oU r.good r.oz Et hs I fun E' w' q2 q3 q4 q5=>?_;intro v' q1;exact hp E' a w' _ q2 q3 q5 ⟨q2.good,q4,j9 q2.le r.S,r.size,je q2.le _ _ r.gG⟩ ⟨v',q1,rfl⟩
      . cases e
    . rename_i g c args hs;split at e
      case isFalse=>cases e
      rename_i Uh;split at e
      . rename_i S rV;have UN:vi=none:=by
         rcases oM with q|q
         . exact q
         . exfalso;have:=q o (by simp);rw[Uh.2]at this;cases this
        refine ZD UN r.good (r.oz _ (aA _)) Et hs fun c' de q1 q2=>?_;refine kQ oU rest _ x s' US vp e E _ w es ⟨r.good,r.oz,jH (a:={ a with defers:={ target:=.fn (.func g) c'.toArray,args:=de.toArray }::a.defers }) r.S rV ⟨[],rfl,rfl⟩ UT,by rw[iR];exact r.size,by rw[gH];exact⟨_,a.defers,.inl ⟨Uh.1,c',de,q1,q2,rfl⟩,r.gG,rfl⟩⟩ ?_;exact hp.after (iG.refl r.good) (fun _ _=>rfl) (aA _)
      . cases e
    . rename_i v hs;obtain⟨rfl,rfl⟩:=fg e;refine Qq r.good (r.oz _ (aA _)) Et hs fun v' q1=>?_;exact hp E a w _ (iG.refl r.good) (fun _ _=>rfl) (aA _) r ⟨v',q1,rfl⟩
    . cases e
    . cases e
  . cases e
theorem oW{E:Env}{S:H V}{a:Act}{c:Operand}{b:Bool}(ge:GE E)(r:yX E S a)(e:iY S c=some (.bool b)):a.eval c= .bool b:=by
 have:=iS ge r c _ e;simpa only[dK]using this
theorem Iu(oU:jq P cf){g:Operand}{ps:Array Tmp}{assign body:Code}{s s':St}{x:fl}(iy:fc h1 (.rangeFunc g ps assign body)=true)(e:jm P cf rt (.rangeFunc g ps assign body) s=some (x,s'))
  {E:Env} {a:Act} {w:World} {es:Exit->Act->World->Prop} (r:kf E h1 s a w) (hp:Is E h1 s w x s' es):(Code.rangeFunc g ps assign body).wpIn (fz none) 0 P es a w:=by
 simp only[fc,aC]at iy;simp only[jm]at e;split at e
 . rename_i gf lb hg;split at e
   case isFalse=>cases e
   rename_i hq;obtain⟨vh,gT⟩:=hq;obtain⟨f',fi,Iv,N3,hfi,hlb,y6⟩:=iS r.good.jh r.S g _ hg;simp only[yC]at N3;subst N3;simp only[dL]at hfi;subst hfi;refine wpIn_rangeFunc fun fn _=>?_
   let CO:Loop:={ state:=.ready,pending:=none,fn,tmps:=a.tmps,params:=ps,assign,body,defers:=w.heap.size }
   have u1:iG E s.h w (E.put s.n w.heap.size 0 0) (s.h.set s.n (some .mF)) (w.alloc (.deferred (some []))):=iG.alloc (ob:=.deferred (some [])) (o:=.mF) r.good (r.oz _ (aA _)) K heap_alloc_new;have Eb:(E.put s.n w.heap.size 0 0).ι (s.n+1)=none:=by rw[Env.fF K];exact r.oz _ K
   have u2:iG (E.put s.n w.heap.size 0 0) (s.h.set s.n (some .mF)) (w.alloc (.deferred (some []))) ((E.put s.n w.heap.size 0 0).put (s.n+1) (w.alloc (.deferred (some []))).heap.size 0 0) ((s.h.set s.n (some .mF)).set (s.n+1) (some (.loop true none s.S ps.toList assign body))) ((w.alloc (.deferred (some []))).alloc (.loop CO)):=
    iG.alloc (ob:=.loop CO) (o:=.loop true none s.S ps.toList assign body) u1.good Eb gT
     ⟨CO,heap_alloc_new,rfl,rfl,rfl,rfl,rfl,wc (Env.le_trans u1.le (Env.rT Eb fun m x t e G=>by have:=u1.good.mK m x t e;omega)) r.S,by rw[show CO.tmps.size=h1 from r.size];exact⟨iy.2.1,iy.2.2,fun p hp=>by simpa using bt.1 iy.1 p hp⟩⟩
   rw[World.size_alloc]at u2;revert e;generalize UU:(E.put s.n w.heap.size 0 0).put (s.n+1) (w.heap.size+1) 0 0=E2 at u2;generalize Oa:(s.h.set s.n (some .mF)).set (s.n+1) (some (.loop true none s.S ps.toList assign body))=B at u2;generalize hW1:(w.alloc (.deferred (some []))).alloc (.loop CO)=W1 at u2;intro e;have HI:E2.ι (s.n+1)=some (w.heap.size+1,0):=by rw[<- UU];exact Env.ff
   have Gt:E2.ι s.n=some (w.heap.size,0):=by rw[<- UU,Env.fF K];exact Env.ff
   have qL:∀k,k<s.n->E2.ι k=E.ι k:=fun k hk=>by rw[<- UU,Env.fF K,Env.fF K]
   have Iw:qH E2 (s.n+2):=fun k hk=>by
    have hk:s.n+2<=k:=hk;rw[<- UU,Env.fF K,Env.fF K];exact r.oz k (by show s.n<=k;omega)
   have u12:=u1.trans u2;have ZL:dL E2 lb Iv:=kF u12.le _ _ hlb;have Qy:(invoke (.fn (.func gf) Iv.toArray) #[.func (.yield (w.heap.size+1)) #[] #[]]).run P W1= .ok (.enter gf (Value.func (.yield (w.heap.size+1)) #[] #[]::Iv).toArray) W1:=by
    have ZM:=qg (w:=W1) (args:=(Value.func (.yield (w.heap.size+1)) #[] #[]::Iv).toArray) vh;rw[<- ZM];simp[invoke]
   refine⟨w.heap.size+1,[{ target:=.collected w.heap.size,args:=#[] }],W1,{ target:=.fn (.func gf) Iv.toArray,args:=#[.func (.yield (w.heap.size+1)) #[] #[]] },W1,gf,
    (Value.func (.yield (w.heap.size+1)) #[] #[]::Iv).toArray,W1,?_,?_,fun _ _=>trivial,Qy,fun hd=>by simp[fz,Fence.wide]at hd,?_⟩
   . rw[<- hW1];exact run_enterLoop_outer _ _ _ _ _
   . simp only[resolve,y6];simp[go_sem]
   . split at e
     case h_2=>cases e
     rename_i v h n I;have CP:=(oU gf _ B (s.n+2) _ h n I E2 W1 (Value.func (.yield (w.heap.size+1)) #[] #[]::Iv) ⟨_,_,⟨_,[],[],⟨_,_,HI,rfl⟩,rfl,rfl,rfl⟩,ZL,rfl⟩ u2.good Iw).1 vh;have Gu:CallsIn Fence.wide (0-1) P gf (Value.func (.yield (w.heap.size+1)) #[] #[]::Iv).toArray W1 (rangePost (fz none) 0 P (w.heap.size+1) es { a with defers:=[{ target:=.collected w.heap.size,args:=#[] }]++a.defers }):=by
      refine callsIn_wide.2 (CP.mono ?_);rintro en w3 ⟨E3,u3,y7,Qz,KE,ho⟩;cases en with
      |panicked _=>exact ho.elim
      |outgrown=>exact ho.elim
      |returned v'=>
       have ZN:E3.ι (s.n+1)=some (w.heap.size+1,0):=by rw[y7 _ K];exact HI
       have hd3:E3.ι s.n=some (w.heap.size,0):=by rw[y7 _ K];exact Gt
       have EV:∀(st:Bool) (pe:Option Code) (S:H V) (pl:List Nat) (c1 c2:Code),h.get (s.n+1)=some (.loop st pe S pl c1 c2)->
         ∃w4,(Instr.endLoop (w.heap.size+1)).run P w3= .ok pe w4/\
          ∀(y:fl) (s1:St),s1={ s with h:=h.set (s.n+1) none,n:=n,gG:=(fP,[],[.map (some s.n)])::s.gG }->Is E h1 s w y s1 es->∀y',N8 E3 y y'->es y' { a with defers:=[{ target:=.collected w.heap.size,args:=#[] }]++a.defers } w4:=by
        intro st pe S pl c1 c2 kL;obtain⟨b,s0,q1,rc,q2,q3,q4,_⟩:=u3.good.rel _ _ kL;rw[ZN]at q1;cases q1;have Oc:=run_endLoop (P:=P) q2 (by rw[q3];cases st<;>simp);refine⟨_,Oc.trans (aN (fun p=>Result.ok p _) q4),fun y s1 gi iT y' hy=>?_⟩;have uk:iG E3 h w3 E3 (h.set (s.n+1) none) (w3.putObj (w.heap.size+1) (.loop { rc with state:=.exhausted })):=
         iG.kill u3.good gT ⟨_,kL,rfl⟩ ZN (by simp) rfl rfl rfl fun x G=>World.putObj_heap_other G
        have Gv:=(u12.trans u3).trans uk;subst gi;have hsn:s.n<=n:=by omega
        exact iT E3 _ _ y' Gv (fun k hk=>by rw[y7 k K];exact qL k hk) hsn
         ⟨Gv.good,Qz,j9 Gv.le r.S,r.size,⟨_,a.defers,.inr ⟨rfl,s.n,w.heap.size,0,rfl,hd3,rfl⟩,je Gv.le _ _ r.gG,rfl⟩⟩ hy
       split at e
       . rename_i hdg HJ;obtain⟨rfl,rfl⟩:=fg e;obtain⟨w4,k1,k2⟩:=EV _ _ _ _ _ _ HJ;exact⟨_,w4,k1,k2 .normal _ rfl hp .normal trivial⟩
       . rename_i hdg HJ;obtain⟨rfl,rfl⟩:=fg e;obtain⟨w4,k1,k2⟩:=EV _ _ _ _ _ _ HJ;exact⟨_,w4,k1,wpIn_ret (k2 .ret _ rfl hp .ret trivial)⟩
       . rename_i id _ _ _ _ hdg HJ;obtain⟨rfl,rfl⟩:=fg e;obtain⟨w4,k1,k2⟩:=EV _ _ _ _ _ _ HJ;exact⟨_,w4,k1,wpIn_exit (k2 (.exit id) _ rfl hp (.exit id) rfl)⟩
       . cases e
     exact Gu
 . cases e
theorem mP(oU:jq P cf)(W:P.follows .mixedOrders=true):∀(c:Code) (s:St) (x:fl) (s':St),(vi=none\/jV c=true)->fc h1 c=true->jm P cf rt c s=some (x,s')->
  ∀(E:Env) (a:Act) (w:World) (es:Exit->Act->World->Prop),kf E h1 s a w->Is E h1 s w x s' es->c.wpIn (fz vi) 0 P es a w:=by
 intro c
 induction c with
 |skip=>
  intro s x s' _ _ e E a w es r hp;simp only[jm,an,aB]at e;obtain⟨rfl,rfl⟩:=e;exact wpIn_skip (hp E a w .normal (iG.refl r.good) (fun _ _=>rfl) (aA _) r trivial)
 |region id ops Kb=>
  intro s x s' oM iy e E a w es r hp;simp only[fc,aC]at iy;cases Kb with
  |false=>
   simp only[jm]at e;refine wpIn_region_list (kQ oU ops.toList s x s' (oM.imp _root_.id fun q=>by simp only[jV,bt]at q;exact q) (fun o ho d hd=>?_) e E a w es r hp);have:=bt.1 iy.1 o ho;rw[hd]at this;simpa using this
  |true=>
   simp only[jm]at e;have akv:=KA (by simpa using iy.2);refine Qu oU akv W e r.good r.oz r.S r.size fun E' a' w' x' u fQ rX hn yp l8 Ui akw G=>?_;exact hp E' a' w' x' u fQ hn ⟨u.good,rX,yp,l8,by rw[akw,Ui];exact je u.le _ _ r.gG⟩ G
 |seq c1 c2 Ql Qm=>
  intro s x s' oM iy e E a w es r hp;simp only[fc,aC]at iy;simp only[jm]at e;refine wpIn_seq ?_;cases N:jm P cf rt c1 s with
  |none=>simp[N]at e
  |some p=>
   obtain⟨x1,s1⟩:=p;refine Ql s x1 s1 (oM.imp _root_.id fun q=>by simp only[jV,aC]at q;exact q.1) iy.1 N E a w _ r fun E' a' w' x' u fQ hn r' G=>?_;cases x1 with
   |normal=>
    simp only[N]at e;cases x'<;>first|(exact G.elim)|skip
    exact Qm s1 x s' (oM.imp _root_.id fun q=>by simp only[jV,aC]at q;exact q.2) iy.2 e E' a' w' es r' (hp.after u fQ hn)
   |exit i=>
    simp only[N,an,aB]at e;obtain⟨rfl,rfl⟩:=e;cases x'<;>first|(exact G.elim)|skip
    exact hp E' a' w' _ u fQ hn r' G
   |ret=>
    simp only[N,an,aB]at e;obtain⟨rfl,rfl⟩:=e;cases x'<;>first|(exact G.elim)|skip
    exact hp E' a' w' _ u fQ hn r' G
   |panic v=>
    simp only[N,an,aB]at e;obtain⟨rfl,rfl⟩:=e;cases x'<;>first|(exact G.elim)|skip
    exact hp E' a' w' _ u fQ hn r' G
 |cond c c1 c2 Ql Qm=>
  intro s x s' oM iy e E a w es r hp;simp only[fc,aC]at iy;simp only[jm]at e;split at e
  . rename_i I;exact wpIn_cond_true (oW r.good.jh r.S I) (Ql s x s' (oM.imp _root_.id fun q=>by simp only[jV,aC]at q;exact q.1) iy.1 e E a w es r hp)
  . rename_i I;exact wpIn_cond_false (oW r.good.jh r.S I) (Qm s x s' (oM.imp _root_.id fun q=>by simp only[jV,aC]at q;exact q.2) iy.2 e E a w es r hp)
  . cases e
 |block id c ih=>
  intro s x s' oM iy e E a w es r hp;simp only[fc]at iy;simp only[jm]at e;refine wpIn_block ?_;cases N:jm P cf rt c s with
  |none=>simp[N]at e
  |some p=>
   obtain⟨x1,s1⟩:=p;refine ih s x1 s1 (oM.imp _root_.id fun q=>by simpa only[jV]using q) iy N E a w _ r fun E' a' w' x' u fQ hn r' G=>?_;cases x1 with
   |normal=>
    simp only[N,an,aB]at e;obtain⟨rfl,rfl⟩:=e;cases x'<;>first|(exact G.elim)|skip
    exact hp E' a' w' .normal u fQ hn r' trivial
   |exit i=>
    simp only[N]at e;cases x'<;>first|(exact G.elim)|skip
    rename_i j;have PA:i=j:=G;subst PA;simp only[Exit.inBlock];split at e
    . rename_i q;obtain⟨rfl,rfl⟩:=fg e;rw[aH q];exact hp E' a' w' .normal u fQ hn r' trivial
    . rename_i q;obtain⟨rfl,rfl⟩:=fg e;rw[aI q];exact hp E' a' w' (.exit i) u fQ hn r' rfl
   |ret=>
    simp only[N,an,aB]at e;obtain⟨rfl,rfl⟩:=e;cases x'<;>first|(exact G.elim)|skip
    exact hp E' a' w' .ret u fQ hn r' trivial
   |panic v=>
    simp only[N,an,aB]at e;obtain⟨rfl,rfl⟩:=e;cases x'<;>first|(exact G.elim)|skip
    exact hp E' a' w' (.panic _) u fQ hn r' G
 |loop c ih=>
  intro s x s' oM iy e E a w es r hp;simp only[fc]at iy;simp only[jm]at e;refine wpIn_loop_rounds rt ?_;have key:∀(k:Nat) (s:St),rounds (jm P cf rt c) k s=some (x,s')->∀(E:Env) (a:Act) (w:World),kf E h1 s a w->Is E h1 s w x s' es->Code.roundsIn (fz vi) 0 P c es k a w:=by
   intro k
   induction k with
   |zero=>intro s e;cases e
   |succ k ihk=>
    intro s e E a w r hp;simp only[rounds]at e;rw[roundsIn_succ];cases N:jm P cf rt c s with
    |none=>simp[N]at e
    |some p=>
     obtain⟨x1,s1⟩:=p;refine ih s x1 s1 (oM.imp _root_.id fun q=>by simpa only[jV]using q) iy N E a w _ r fun E' a' w' x' u fQ hn r' G=>?_;cases x1 with
     |normal=>
      simp only[N]at e;cases x'<;>first|(exact G.elim)|skip
      exact ihk s1 e E' a' w' r' (hp.after u fQ hn)
     |exit i=>
      simp only[N,an,aB]at e;obtain⟨rfl,rfl⟩:=e;cases x'<;>first|(exact G.elim)|skip
      exact hp E' a' w' _ u fQ hn r' G
     |ret=>
      simp only[N,an,aB]at e;obtain⟨rfl,rfl⟩:=e;cases x'<;>first|(exact G.elim)|skip
      exact hp E' a' w' _ u fQ hn r' G
     |panic v=>
      simp only[N,an,aB]at e;obtain⟨rfl,rfl⟩:=e;cases x'<;>first|(exact G.elim)|skip
      exact hp E' a' w' _ u fQ hn r' G
  exact key rt s e E a w r hp
 |exit id=>
  intro s x s' _ _ e E a w es r hp;simp only[jm,an,aB]at e;obtain⟨rfl,rfl⟩:=e;exact wpIn_exit (hp E a w (.exit id) (iG.refl r.good) (fun _ _=>rfl) (aA _) r rfl)
 |ret=>
  intro s x s' _ _ e E a w es r hp;simp only[jm,an,aB]at e;obtain⟨rfl,rfl⟩:=e;exact wpIn_ret (hp E a w .ret (iG.refl r.good) (fun _ _=>rfl) (aA _) r trivial)
 |rangeFunc g ps assign body _ _=>
  intro s x s' oM iy e E a w es r hp;have UN:vi=none:=by
   rcases oM with q|q
   . exact q
   . cases q
  subst UN;exact Iu oU iy e r hp
 |scope c _=>intro s x s' _ _ e;cases e
 |label l=>intro s x s' _ _ e;cases e
 |goto l=>intro s x s' _ _ e;cases e
 |refuse w=>intro s x s' _ _ e;cases e
def CQ(tmps:Array Value):ResultVar->Sem Value
 | .tmp t=>pure (tmps.getD t undef)
 | .cell c t=>do loadVar t (<- asAddr (tmps.getD c undef))
theorem KF(fn:Func)(tmps:Array Value):results fn tmps=(do
  let vs <- fn.results.mapM (CQ tmps)
  pure (if h:vs.size=1 then vs[0]else .tuple vs)):=by
 unfold results;congr 1
theorem Bc{E:Env}{h:H lf}{w:World}{S:H V}{a:Act}(g:Good E h w)(r:yX E S a):∀(D:List ResultVar) (vs:ag),lB P S h D=some vs->
  ∃Yd,(D.mapM (CQ a.tmps)).run P w= .ok Yd w/\dL E vs Yd
 | [],vs,e=>by simp only[lB,an]at e;subst e;exact⟨[],rfl,rfl⟩
 |x::D,vs,e=>by
  simp only[lB]at e;cases N:F4 P S h x with
  |none=>simp[N]at e
  |some v=>cases B:lB P S h D with
   |none=>simp[N,B]at e
   |some us=>
    simp only[N,B,an]at e;subst e;obtain⟨us',q1,q2⟩:=Bc g r D us B;have hv:∃v',(CQ a.tmps x).run P w= .ok v' w/\dK E v v':=by
     cases x with
     |tmp t=>
      obtain⟨v',p1,p2⟩:=r t v N;exact⟨v',by simp[CQ,p1],p2⟩
     |cell c t=>
      simp only[F4]at N;split at N
      . rename_i u hu;obtain⟨u',p1,p2⟩:=r c u hu;obtain⟨b,sh,rfl,v',p3,p4⟩:=Ct (P:=P) g p2 N;refine⟨v',?_,p4⟩;simp[CQ,p1,asAddr,p3]
      . cases N
    obtain⟨v',p1,p2⟩:=hv;refine⟨v'::us',?_,v',us',p2,q2,rfl⟩;rw[List.mapM_cons];simp only[Sem.run_bind,p1,q1,Result.andThen_ok,Sem.run_pure]
theorem Bd{E:Env}{h:H lf}{w:World}{S:H V}{a:Act}{fn:Func}{vs:ag}(g:Good E h w)(r:yX E S a)(e:lB P S h fn.results.toList=some vs):
  ∃v',(results fn a.tmps).run P w= .ok v' w/\dK E (oneOf vs) v':=by
 obtain⟨Yd,q1,q2⟩:=Bc (P:=P) g r fn.results.toList vs e;have fS:(results fn a.tmps).run P w= .ok (if h:Yd.toArray.size=1 then Yd.toArray[0]else .tuple Yd.toArray) w:=by
  rw[KF,Array.mapM_eq_mapM_toList];simp only[Sem.run_bind,Sem.run_map,q1,Result.andThen_ok,Sem.run_pure]
 refine⟨_,fS,?_⟩
 match vs,q2 with
 | [],q2=>simp only[dL]at q2;subst q2;exact⟨[],rfl,rfl⟩
 | [v],q2=>
   obtain⟨y,ys,p1,p2,rfl⟩:=q2;simp only[dL]at p2;subst p2;exact p1
 |u::v::us,q2=>
  have HI:=eP q2;rw[dif_neg (by simp only[List.size_toArray,HI,aS];omega)];exact⟨Yd,q2,rfl⟩
end
def Gw(E:Env):Mode->FrameMode->Prop
 | .ret,.returning=>True
 | .z7 v b,.panicking chain=>∃v',dK E v v'/\chain=[{ v:=v',recovered:=b }]
 |_,_=>False
theorem Fb{E E':Env}(h:E.le E'):∀{m:Mode} {u:FrameMode},Gw E m u->Gw E' m u
 | .ret,.returning,_=>trivial
 | .z7 _ _,.panicking _,⟨v',r,q⟩=>⟨v',js h _ _ r,q⟩
 | .ret,.run,r=>r.elim
 | .ret,.panicking _,r=>r.elim
 | .z7 _ _,.run,r=>r.elim
 | .z7 _ _,.returning,r=>r.elim
def Fc(E:Env)(h1:Nat)(s:St)(w:World)(x:fl)(s':St)(m':Mode)(nh:Frame)(C:List Frame)(es:Exit->Act->List Frame->World->Prop):Prop:=
 ∀E' a' w' x' u',iG E s.h w E' s'.h w'->(∀k,k<s.n->E'.ι k=E.ι k)->s.n<=s'.n->kf E' h1 s' a' w'->N8 E' x x'->Gw E' m' u'->es x' a' ({ nh with mode:=u' }::C) w'
theorem Fc.after{E E1:Env}{h1:Nat}{s s1 s':St}{w w1:World}{x:fl}{m':Mode}{nh:Frame}{C:List Frame}{es:Exit->Act->List Frame->World->Prop}(p:Fc E h1 s w x s' m' nh C es)(u:iG E s.h w E1 s1.h w1)
  (fQ:∀k,k<s.n->E1.ι k=E.ι k) (hn:s.n<=s1.n):Fc E1 h1 s1 w1 x s' m' nh C es:=
 fun E' a' w' x' u2 u' Qx pV r rx rm=>p E' a' w' x' u2 (u.trans u') (fun k hk=>by rw[Qx k K];exact fQ k hk) K r rx rm
section
variable{P:Program}{cf:fT}{rt h1:Nat}
theorem Gx(k n:Nat):List.range' k (n+1)=k::List.range' (k+1) n:=by simp[List.range'_succ]
theorem qM{ops:Array Oper}(nh:Frame)(C:List Frame):∀(l:List Oper) (k:Nat) (s:St) (m:Mode) (x:fl) (s':St) (m':Mode),(∀j,l[j]? =ops[k+j]?)->(∀o∈l,nD h1 o.dst)->rE P cf ops l s m=some (x,s',m')->
  ∀(E:Env) (a:Act) (w:World) (u:FrameMode) (es:Exit->Act->List Frame->World->Prop),kf E h1 s a w->Gw E m u->Fc E h1 s w x s' m' nh C es->
   wpOpsS P ops es (List.range' k l.length) a ({ nh with mode:=u }::C) w
 | [],k,s,m,x,s',m',_,_,e,E,a,w,u,es,r,rm,hp=>by
   simp only[rE,an,aB]at e;obtain⟨rfl,rfl,rfl⟩:=e;exact hp E a w .normal u (iG.refl r.good) (fun _ _=>rfl) (aA _) r trivial rm
 |o::rest,k,s,m,x,s',m',kL,uB,e,E,a,w,u,es,r,rm,hp=>by
  have ho:=uB o (by simp);have vp:∀o∈rest,nD h1 o.dst:=fun o h=>uB o (by simp[h]);have UT:nD a.tmps.size o.dst:=by rw[r.size];exact ho
  have hgr:∀j,rest[j]? =ops[k+1+j]?:=fun j=>by have:=kL (j+1);simpa[cD,Nat.add_comm 1 j]using this
  have iy:ops[k]? =some o:=by have:=kL 0;simpa using this.symm
  simp only[rE]at e;simp only[aS,Gx,wpOpsS,iy];have It:∀b,iJ ops o s.S=some b->Region.wanted o (yielded ops a.tmps)=b:=fun b hb=>xO (E:=E) (fun _ _ _ d _ _ _ v hv=>r.S d v hv) hb;have Et:∀y∈o.op.operands,mN E s.S a.eval y:=fun y _=>iS r.good.jh r.S y;split at e
  . rename_i hw;rw[aI (by rw[It _ hw];simp)];split at e
    . rename_i S rV;exact qM nh C rest (k+1) _ m x s' m' hgr vp e E _ w u es ⟨r.good,r.oz,jH r.S rV ⟨[],rfl,rfl⟩ UT,by rw[iR];exact r.size,by rw[gH];exact r.gG⟩ rm (hp.after (iG.refl r.good) (fun _ _=>rfl) (aA _))
    . cases e
  . rename_i hw;rw[aH (It _ hw)];split at e
    . rename_i v h n hs;split at e
      . rename_i S rV;obtain⟨E',w',v',fS,q1,q2,q3,q4⟩:=mO r.good (r.oz _ (aA _)) Et hs;have hn:s.n<=n:=by rcases q4 with⟨rfl,_⟩|rfl<;>omega
        have rX:qH E' n:=by
         rcases q4 with⟨rfl,rfl⟩|rfl
         . exact r.oz
         . intro k hk;rw[q3 k K];exact r.oz k K
        have uA:=qM nh C rest (k+1) _ m x s' m' hgr vp e E' (a.put o.dst v') w' u es ⟨q2.good,rX,jH (j9 q2.le r.S) rV q1 UT,by rw[iR];exact r.size,by rw[gH];exact je q2.le _ _ r.gG⟩ (Fb q2.le rm)
         (hp.after q2 (fun k hk=>q3 k K) hn)
        rcases fS with fS|⟨fS,rfl⟩
        . rw[fS];simp only[Oper.upon_value];exact uA
        . rw[fS];simp only[Oper.upon_skip];exact uA
      . cases e
    . rename_i hs;have fS:=mO r.good (r.oz _ (aA _)) Et hs;simp only[kz]at fS;rw[fS];simp only;split at e
      . rename_i v;split at e
        . rename_i S rV;cases u with
          |panicking chain=>
           obtain⟨v',q1,rfl⟩:=rm;simp only[recoverD];exact qM nh C rest (k+1) _ (.z7 v true) x s' m' hgr vp e E (a.put o.dst v') w (.panicking [{ v:=v',recovered:=true }]) es ⟨r.good,r.oz,jH r.S rV q1 UT,by rw[iR];exact r.size,by rw[gH];exact r.gG⟩ ⟨v',q1,rfl⟩
            (hp.after (iG.refl r.good) (fun _ _=>rfl) (aA _))
          |run=>exact rm.elim
          |returning=>exact rm.elim
        . cases e
      . rename_i hnp;split at e
        . rename_i S rV;have Ix:recoverD ({ nh with mode:=u }::C)=none:=by
           cases m with
           |ret=>cases u<;>first|(exact rm.elim)|rfl
           |z7 v b=>
            cases b with
            |false=>exact absurd rfl (hnp v)
            |true=>
             cases u with
             |panicking chain=>obtain⟨v',q1,rfl⟩:=rm;rfl
             |run=>exact rm.elim
             |returning=>exact rm.elim
          rw[Ix];exact qM nh C rest (k+1) _ m x s' m' hgr vp e E (a.put o.dst .nilIface) w u es ⟨r.good,r.oz,jH r.S rV rfl UT,by rw[iR];exact r.size,by rw[gH];exact r.gG⟩ rm (hp.after (iG.refl r.good) (fun _ _=>rfl) (aA _))
        . cases e
    . cases e
  . cases e
theorem Eu{c:Operand}{x y:Code}{a:Act}{C:List Frame}{w:World}{es:Exit->Act->List Frame->World->Prop}(I:a.eval c= .bool true)(h:x.wpS P es a C w):(Code.cond c x y).wpS P es a C w:=wpS_cond I h
theorem CR{c:Operand}{x y:Code}{a:Act}{C:List Frame}{w:World}{es:Exit->Act->List Frame->World->Prop}(I:a.eval c= .bool false)(h:y.wpS P es a C w):(Code.cond c x y).wpS P es a C w:=wpS_cond I h
theorem Be(oU:jq P cf)(W:P.follows .mixedOrders=true){c:Code}{s s':St}{x:fl}{m m':Mode}(iy:fc h1 c=true)(e:(match jm P cf rt c s with|some (x,s')=>some (x,s',m)|none=>none)=some (x,s',m'))
  {nh:Frame} {C:List Frame} {E:Env} {a:Act} {w:World} {u:FrameMode} {es:Exit->Act->List Frame->World->Prop} (r:kf E h1 s a w) (rm:Gw E m u) (hp:Fc E h1 s w x s' m' nh C es):c.wpS P es a ({ nh with mode:=u }::C) w:=by
 cases N:jm P cf rt c s with
 |none=>simp[N]at e
 |some p=>
  obtain⟨x1,s1⟩:=p;simp only[N,an,aB]at e;obtain⟨rfl,rfl,rfl⟩:=e;exact wpS_of_wp (wpIn_wide.1 (mP (vi:=none) oU W c s x1 s1 (.inl rfl) iy N E a w _ r fun E' a' w' x' u' fQ hn r' G=>hp E' a' w' x' u u' fQ hn r' G (Fb u'.le rm)))
theorem Bf(oU:jq P cf)(W:P.follows .mixedOrders=true)(nh:Frame)(C:List Frame):∀(c:Code) (s:St) (m:Mode) (x:fl) (s':St) (m':Mode),fc h1 c=true->uq P cf rt c s m=some (x,s',m')->
  ∀(E:Env) (a:Act) (w:World) (u:FrameMode) (es:Exit->Act->List Frame->World->Prop),kf E h1 s a w->Gw E m u->Fc E h1 s w x s' m' nh C es->c.wpS P es a ({ nh with mode:=u }::C) w:=by
 intro c
 induction c with
 |region id ops Kb=>
  intro s m x s' m' iy e E a w u es r rm hp;cases Kb with
  |false=>
   simp only[uq]at e;have UW:=iy;simp only[fc,aC]at UW;have:=qM (P:=P) (cf:=cf) (ops:=ops) nh C ops.toList 0 s m x s' m' (fun j=>by simp) (fun o ho d hd=>by
    have:=bt.1 UW.1 o ho;rw[hd]at this;simpa using this) e E a w u es r rm hp
   exact wpS_region (by rw[List.range_eq_range',<- Array.length_toList];exact this)
  |true=>
   simp only[uq]at e;exact Be (rt:=rt) oU W iy e r rm hp
 |seq c1 c2 Ql Qm=>
  intro s m x s' m' iy e E a w u es r rm hp;simp only[fc,aC]at iy;simp only[uq]at e;refine wpS_seq ?_;cases N:uq P cf rt c1 s m with
  |none=>simp[N]at e
  |some p=>
   obtain⟨x1,s1,m1⟩:=p;refine Ql s m x1 s1 m1 iy.1 N E a w u _ r rm fun E' a' w' x' u1 uu fQ hn r' G Od=>?_;cases x1 with
   |normal=>
    simp only[N]at e;cases x'<;>first|(exact G.elim)|skip
    exact Qm s1 m1 x s' m' iy.2 e E' a' w' u1 es r' Od (hp.after uu fQ hn)
   |exit i=>
    simp only[N,an,aB]at e;obtain⟨rfl,rfl,rfl⟩:=e;cases x'<;>first|(exact G.elim)|skip
    exact hp E' a' w' _ u1 uu fQ hn r' G Od
   |ret=>
    simp only[N,an,aB]at e;obtain⟨rfl,rfl,rfl⟩:=e;cases x'<;>first|(exact G.elim)|skip
    exact hp E' a' w' _ u1 uu fQ hn r' G Od
   |panic v=>
    simp only[N,an,aB]at e;obtain⟨rfl,rfl,rfl⟩:=e;cases x'<;>first|(exact G.elim)|skip
    exact hp E' a' w' _ u1 uu fQ hn r' G Od
 |cond c c1 c2 Ql Qm=>
  intro s m x s' m' iy e E a w u es r rm hp;simp only[fc,aC]at iy;simp only[uq]at e;split at e
  . rename_i I;exact Eu (oW r.good.jh r.S I) (Ql s m x s' m' iy.1 e E a w u es r rm hp)
  . rename_i I;exact CR (oW r.good.jh r.S I) (Qm s m x s' m' iy.2 e E a w u es r rm hp)
  . cases e
 |_=>
  intro s m x s' m' iy e E a w u es r rm hp;simp only[uq]at e;exact Be (rt:=rt) oU W iy e r rm hp
theorem vr:∀(vs:ag) (i:Nat) (t:H V) (k:Nat),i+vs.length<fP->(lU vs i t).get k=if i<=k/\k<i+vs.length then vs[k-i]? else t.get k
 | [],i,t,k,_=>by simp only[lU,bR];rw[aI K]
 |v::vs,i,t,k,h=>by
  simp only[aS]at h;simp only[lU,aS];rw[vr vs (i+1) _ k K,H.eY _ _ _ K];by_cases q:k=i
  . subst q;rw[aI K,aH rfl,aH K];simp
  . rw[aI q];by_cases q2:i+1<=k/\k<i+1+vs.length
    . rw[aH q2,aH K];have:k-i=(k-(i+1))+1:=by omega
      rw[this];simp
    . rw[aI q2,aI K]
theorem tH{E:Env}{args:ag}{de:List Value}{n:Nat}(r:dL E args de)(hn:args.length<=n)(ht:n<fP):
  yX E (lU args 0 .nil) { tmps:=de.toArray++Array.replicate (n-de.toArray.size) undef,defers:=[] }/\(de.toArray++Array.replicate (n-de.toArray.size) undef).size=n:=by
 have hl:=eP r;refine⟨fun t v hv=>?_,by simp;omega⟩;rw[vr args 0 .nil t K]at hv;split at hv
 . rename_i hi;obtain⟨v',N,B⟩:=gK r _ v hv;refine⟨v',?_,B⟩;simp only[Nat.sub_zero]at N;rw[bS (by simp;omega)];simpa using N
 . cases hv
def kW(P:Program):Bool:=P.funcs.toList.all fun fn=>match fn.body with|some c=>fc fn.ntmps c|none=>true
theorem Bg(h:kW P=true){f:FuncId}{fn:Func}{c:Code}(hf:P.funcs[f]? =some fn)(hb:fn.body=some c):fc fn.ntmps c=true:=by
 unfold kW at h;have:=bt.1 h fn (by rw[<- bO]at hf;exact bf hf);rw[hb]at this;exact this
theorem BJ{f:FuncId}{fn:Func}{c:Code}{args:Array Value}{u:FrameMode}{w:World}{nx:Ending->FrameMode->World->Prop}
  (hf:P.funcs[f]? =some fn) (hb:fn.body=some c)
  (h:∀(nh:Frame) (C:List Frame),nh.mode=u->
   c.wpS P (bodyPostS P fn nh C nx) { tmps:=args++Array.replicate (fn.ntmps-args.size) undef,defers:=[] } (nh::C) w):
  CallsDIn Fence.wide (0-1) P f args u w nx:=by
 refine⟨trivial,fun nh C hu _=>?_⟩
 let b:Frame:={ (default:Frame)with fn:=f,kind:=.deferred }
 have ZO:Frame.enter P f args .deferred=
   b.at { tmps:=args++Array.replicate (fn.ntmps-args.size) undef,defers:=[] } [.code c]:=by
  simp[Frame.enter,Frame.at,hf,hb,b]
 obtain⟨e,a',cs',w',hq,QA⟩:=h nh C hu b [] rfl rfl;rw[<- ZO]at QA;cases e with
 |normal=>
  obtain⟨hd,u',rfl,v,hr,hR⟩:=hq;exact⟨.returned v,u',w',_,hR,comesIn_wide.2 (Steps.trans QA (.one step_end)),rfl,rfl,rfl,hd,fn,hf,hr⟩
 |ret=>
  obtain⟨hd,u',rfl,v,hr,hR⟩:=hq;obtain⟨akx,hs⟩:=QA;exact⟨.returned v,u',w',_,hR,comesIn_wide.2 hs,rfl,rfl,rfl,hd,fn,hf,hr⟩
 |panic chain=>
  obtain⟨hd,u',rfl,hR⟩:=hq;obtain⟨akx,hs⟩:=QA;exact⟨.panicked chain,u',w',_,hR,comesIn_wide.2 hs,rfl,rfl,rfl,hd,fn,hf⟩
 |exit id=>exact hq.elim
 |goto l=>exact hq.elim
 |outgrown=>
  obtain⟨u',hR⟩:=hq;exact⟨.outgrown,u',w',b,hR,comesIn_wide.2 (QA.resolve_left (by simp[b])),rfl,rfl,trivial⟩
theorem rI(oU:jq P cf)(W:P.follows .mixedOrders=true)(wZ:kW P=true){fn:Func}{S:H V}{a:Act}:∀(ds:List (FuncId×ag×ag)) (m:Mode) (h:H lf) (n:Nat) (uw:PV) (h':H lf) (n':Nat),
  nW P cf rt fn S ds m h n=some (uw,h',n')->∀(E:Env) (w:World) (ds':List Deferred) (u:FrameMode) (nx:Ending->World->Prop),Good E h w->qH E n->yX E S a->xm E ds ds'->Gw E m u->
   (∀E' w' en,iG E h w E' h' w'->(∀k,k<n->E'.ι k=E.ι k)->qH E' n'->n<=n'->tE E' uw en->nx en w')->LeavesInM Fence.wide 0 P fn a.tmps nx ds' u w
 | [],m,h,n,uw,h',n',e,E,w,ds',u,nx,g,hd,hf,Yn,rm,hR=>by
   simp only[xm]at Yn;subst Yn;cases m with
   |ret=>
    cases u<;>first|(exact rm.elim)|skip
    simp only[nW]at e;split at e
    . rename_i vs hr;simp only[an,aB]at e;obtain⟨rfl,rfl,rfl⟩:=e;obtain⟨v',N,B⟩:=Bd (P:=P) g hf hr;exact⟨v',N,hR E w _ (iG.refl g) (fun _ _=>rfl) hd (aA _) B⟩
    . cases e
   |z7 v b=>
    cases u with
    |panicking chain=>
     obtain⟨v',q1,rfl⟩:=rm;cases b with
     |false=>
      simp only[nW,an,aB]at e;obtain⟨rfl,rfl,rfl⟩:=e;exact hR E w _ (iG.refl g) (fun _ _=>rfl) hd (aA _) ⟨v',q1,rfl⟩
     |true=>cases e
    |run=>exact rm.elim
    |returning=>exact rm.elim
 |(gf,c,args)::ds,m,h,n,uw,h',n',e,E,w,ds',u,nx,g,hd,hf,Yn,rm,hR=>by
  obtain⟨d,ys,QB,r3,rfl⟩:=Yn;simp only[nW]at e;have aed:u≠ .run:=by intro q;subst q;cases m<;>exact rm.elim
  split at e
  ·
   rename_i gT;rcases QB with⟨q,_⟩|⟨_,m0,b,s0,ha,jj,rfl⟩
   . exact absurd q (Nat.not_lt.2 gT)
   simp only at ha;subst ha;simp only at e;split at e
   . rename_i Ui;split at e
     . rename_i fI;obtain⟨b',s',q1,q2⟩:=g.rel _ _ Ui;rw[jj]at q1;cases q1;have uk:iG E h w E (h.set m0 none) (w.putObj b (.deferred none)):=iG.kill g fI ⟨_,Ui,rfl⟩ jj (by simp) rfl rfl rfl fun x G=>World.putObj_heap_other G;exact⟨aed,.inl ⟨b,_,rfl,run_takeDeferred q2,rI oU W wZ ds m _ n uw h' n' e E _ ys u nx uk.good hd hf r3 rm fun E2 w2 en u2 qL Gt xK ho=>hR E2 w2 en (uk.trans u2) qL Gt xK ho⟩⟩
     . cases e
   . cases e
  rename_i gT;obtain⟨c',de,r1,r2,rfl⟩:∃c' de,dL E c c'/\dL E args de/\d={ target:=.fn (.func gf) c'.toArray,args:=de.toArray }:=by
   rcases QB with⟨_,q⟩|⟨q,_⟩
   . exact q
   . exact absurd (Nat.le_of_eq q.symm) gT
  split at e
  . rename_i gn hgn;split at e
    . rename_i code hb;split at e
      . rename_i hq;obtain⟨vh,iQ,gT⟩:=hq;have hvr:=iK r2 r1;obtain⟨yp,l8⟩:=tH (n:=gn.ntmps) hvr iQ gT;have Fe:=Bg wZ hgn hb;have next:∀(s':St) (m':Mode) (vs:ag),s'.gG=[]->lB P s'.S s'.h gn.results.toList=some vs->nW P cf rt fn S ds (match m' with | .z7 _ true=>.ret|m=>m) s'.h s'.n=some (uw,h',n')->
          ∀E' (a':Act) w' u',iG E h w E' s'.h w'->(∀k,k<n->E'.ι k=E.ι k)->n<=s'.n->kf E' gn.ntmps s' a' w'->Gw E' m' u'->
          a'.defers=[]/\∃v,(results gn a'.tmps).run P w'= .ok v w'/\LeavesInM Fence.wide 0 P fn a.tmps nx ys (settle u') w':=by
         intro s' m' vs Ui H6 F9 E' a' w' u' uu fQ hn r' Od;have aky:a'.defers=[]:=by have:=r'.gG;rw[Ui]at this;exact this
         obtain⟨v',p1,p2⟩:=Bd (P:=P) r'.good r'.S H6;refine⟨aky,v',p1,?_⟩;refine rI oU W wZ ds _ s'.h s'.n uw h' n' F9 E' w' ys (settle u') nx r'.good r'.oz (j9 uu.le hf) (je uu.le _ _ r3) ?_ fun E2 w2 en u2 qL Gt xK ho=>hR E2 w2 en (uu.trans u2) (fun k hk=>by rw[qL k K];exact fQ k hk) Gt K ho;cases m' with
         |ret=>cases u'<;>first|(exact Od.elim)|trivial
         |z7 v b=>
          cases u' with
          |panicking chain=>
           obtain⟨v2,q1,rfl⟩:=Od;cases b with
           |false=>exact⟨v2,q1,rfl⟩
           |true=>trivial
          |run=>exact Od.elim
          |returning=>exact Od.elim
        have Qy:(invoke (.fn (.func gf) c'.toArray) de.toArray).run P w= .ok (.enter gf (de++c').toArray) w:=by
         simp only[invoke];have:de.toArray++c'.toArray=(de++c').toArray:=by simp
         rw[this];exact qg vh
        refine⟨aed,.inr ⟨fun hd=>by simp[Fence.wide]at hd,_,_,gf,_,rfl,Qy,fun _ _=>trivial,BJ hgn hb fun nh C aee=>?_⟩⟩;have sg:nh={ nh with mode:=u }:=by subst aee;rfl
        rw[sg];have Oe:kf E gn.ntmps { S:=lU (args++c) 0 .nil,h:=h,n:=n,gG:=[] } { tmps:=(de++c').toArray++Array.replicate (gn.ntmps-(de++c').toArray.size) undef,defers:=[] } w:=⟨g,hd,yp,l8,rfl⟩;split at e
        . rename_i s' m' G;split at e
          . rename_i Ui;split at e
            . rename_i vs H6;refine Bf oU W nh C code _ m .normal s' m' Fe G E _ w u _ Oe rm fun E' a' w' x' u' uu fQ hn r' td Od=>?_;cases x'<;>first|(exact td.elim)|skip
              obtain⟨k1,v,k2,k3⟩:=next s' m' vs Ui H6 e E' a' w' u' uu fQ hn r' Od
              exact⟨k1,u',rfl,v,k2,k3⟩
            . cases e
          . cases e
        . rename_i s' m' G;split at e
          . rename_i Ui;split at e
            . rename_i vs H6;refine Bf oU W nh C code _ m .ret s' m' Fe G E _ w u _ Oe rm fun E' a' w' x' u' uu fQ hn r' td Od=>?_;cases x'<;>first|(exact td.elim)|skip
              obtain⟨k1,v,k2,k3⟩:=next s' m' vs Ui H6 e E' a' w' u' uu fQ hn r' Od
              exact⟨k1,u',rfl,v,k2,k3⟩
            . cases e
          . cases e
        . cases e
      . cases e
    . cases e
  . cases e
theorem Iy(oU:jq P cf)(W:P.follows .mixedOrders=true)(wZ:kW P=true){f:FuncId}{args:ag}{h:H lf}{n:Nat}{uw:PV}{h':H lf}{n':Nat}(e:enter P cf rt f args h n=some (uw,h',n'))
  {E:Env} {w:World} {de:List Value} (ra:dL E args de) (g:Good E h w) (hd:qH E n):Calls P f de.toArray w (jI E h n w uw h' n'):=by
 unfold enter at e;split at e
 . rename_i fn hf;split at e
   . rename_i code hb;split at e
     . rename_i hq;obtain⟨yp,l8⟩:=tH (n:=fn.ntmps) ra hq.1 hq.2;have Fe:=Bg wZ hf hb;have Oe:kf E fn.ntmps { S:=lU args 0 .nil,h:=h,n:=n,gG:=[] } { tmps:=de.toArray++Array.replicate (fn.ntmps-de.toArray.size) undef,defers:=[] } w:=⟨g,hd,yp,l8,rfl⟩;refine callsIn_wide.1 (callsIn_of_wp_marks (n:=0) hf hb trivial ?_);have EV:∀(s:St) (m:Mode) (u:FrameMode) (E':Env) (a':Act) (w':World),nW P cf rt fn s.S s.gG m s.h s.n=some (uw,h',n')->iG E h w E' s.h w'->(∀k,k<n->E'.ι k=E.ι k)->n<=s.n->kf E' fn.ntmps s a' w'->Gw E' m u->
         LeavesInM Fence.wide 0 P fn a'.tmps (jI E h n w uw h' n') a'.defers u w':=by
        intro s m u E' a' w' hl uu fQ hn r' rm;exact rI oU W wZ s.gG m s.h s.n uw h' n' hl E' w' a'.defers u _ r'.good r'.oz r'.S r'.gG rm fun E2 w2 en u2 qL Gt xK ho=>⟨E2,uu.trans u2,fun k hk=>by rw[qL k K];exact fQ k hk,Gt,K,ho⟩
       split at e
       . rename_i s G;refine mP (vi:=none) oU W code _ _ s (.inl rfl) Fe G E _ w _ Oe fun E' a' w' x' uu fQ hn r' td=>?_;cases x'<;>first|(exact td.elim)|skip
         exact EV s .ret .returning E' a' w' e uu fQ hn r' trivial
       . rename_i s G;refine mP (vi:=none) oU W code _ _ s (.inl rfl) Fe G E _ w _ Oe fun E' a' w' x' uu fQ hn r' td=>?_;cases x'<;>first|(exact td.elim)|skip
         exact EV s .ret .returning E' a' w' e uu fQ hn r' trivial
       . rename_i v s G;refine mP (vi:=none) oU W code _ _ s (.inl rfl) Fe G E _ w _ Oe fun E' a' w' x' uu fQ hn r' td=>?_;cases x'<;>first|(exact td.elim)|skip
         exact EV s (.z7 v false) _ E' a' w' e uu fQ hn r' td
       . cases e
     . cases e
   . cases e
 . cases e
theorem CS{E:Env}:∀(ps:List Nat) (args:ag) (de:List Value) (S Aa:H V) (t:Array Value),xF (Ka ps args) S=some Aa->dL E args de->(∀p∈ps,p<t.size)->PY E S t->
  PY E Aa ((ps.zip de).foldl (fun t (p,v)=>t.setIfInBounds p v) t)/\((ps.zip de).foldl (fun t (p,v)=>t.setIfInBounds p v) t).size=t.size
 | [],args,de,S,Aa,t,e,_,_,r=>by simp only[Ka,xF,an]at e;subst e;exact⟨by simpa using r,by simp⟩
 |p::ps,[],de,S,Aa,t,e,ra,_,r=>by
  simp only[Ka,xF,an]at e;subst e;simp only[dL]at ra;subst ra;exact⟨by simpa using r,by simp⟩
 |p::ps,v::vs,de,S,Aa,t,e,ra,hp,r=>by
  obtain⟨y,ys,r0,D,rfl⟩:=ra;simp only[Ka,xF]at e;split at e
  . rename_i fI;have ZP:=hp p (by simp);have B:=CS ps vs ys _ Aa (t.setIfInBounds p y) e D (fun q hq=>by simpa using hp q (by simp[hq])) (fun k x G=>by
     rw[H.eY _ _ _ fI]at G;by_cases q:k=p
     . subst q;rw[aH rfl]at G;cases G;exact⟨y,by simp[ZP],r0⟩
     . rw[aI q]at G;obtain⟨x',k1,k2⟩:=r k x G;exact⟨x',by rw[Array.getElem?_setIfInBounds_ne (Ne.symm q)];exact k1,k2⟩)
    simp only[List.zip_cons_cons,List.foldl_cons];exact⟨B.1,by rw[B.2];simp⟩
  . cases e
theorem Of(ps:Array Nat)(args:List Value)(t:Array Value):(ps.zip args.toArray).foldl (fun t (p,v)=>t.setIfInBounds p v) t=(ps.toList.zip args).foldl (fun t (p,v)=>t.setIfInBounds p v) t:=by
 rw[<- Array.foldl_toList];congr 1;simp
theorem Iz(oU:jq P cf)(W:P.follows .mixedOrders=true){m:Nat}{args:ag}{h:H lf}{n:Nat}{uw:PV}{h':H lf}{n':Nat}(e:xG P cf rt m args h n=some (uw,h',n'))
  {E:Env} {w:World} {de:List Value} (ra:dL E args de) (g:Good E h w) (hd:qH E n) {l s0:Nat} (jj:E.ι m=some (l,s0)):YieldAt Fence.wide 0 P l de.toArray w (jI E h n w uw h' n'):=by
 unfold xG at e;split at e
 case h_2=>cases e
 rename_i S ps assign body kL;split at e
 case isFalse=>cases e
 rename_i hq;obtain⟨y8,oM,hpa,hpb⟩:=hq;split at e
 case h_2=>cases e
 rename_i Aa rV;obtain⟨b,s',q1,r,hb,BC,hpe,HG,akA,akB,htr,ZQ,An,aef⟩:=g.rel _ _ kL;rw[jj]at q1;cases q1;simp only[if_true]at BC;subst HG;subst akA;subst akB;have hlw:l<w.heap.size:=(aQ.1 hb).1;have Yo:eE h m:=⟨_,kL,rfl⟩;have fS:=run_yield (P:=P) (args:=de.toArray) hb (by simp[eP ra,<- oM]);refine⟨_,_,_,_,fS,roundIn_of_wpIn trivial ?_⟩;rw[Of];obtain⟨akC,Ep⟩:=CS r.params.toList args de S Aa r.tmps rV ra aef htr;have nB:∀k o,(h.set m none).get k=some o->k≠m/\h.get k=some o:=by
  intro k o hk;rw[H.eY _ _ _ y8]at hk;split at hk
  . cases hk
  . rename_i q;exact⟨q,hk⟩
 have CT:∀k o,(h.set m none).get k=some o->h.get k=some o:=fun k o q=>(nB k o q).2;split at e
 case h_2=>cases e
 rename_i s1 UK;refine mP (vi:=some l) oU W r.assign _ _ s1 (.inr hpa) (by rw[<- Ep]at ZQ;exact ZQ) UK E _ w _ ⟨g.sub CT,hd,akC,rfl,rfl⟩ fun E1 a1 w1 x1 u1 Ff Eb r1 akD=>?_;cases x1<;>first|(exact akD.elim)|skip
 have nl0:∀k t,(h.set m none).get k≠none->E.ι k≠some (l,t):=by
  intro k t hk q;obtain⟨o,ho⟩:=bh.1 hk;obtain⟨c1,c2⟩:=nB k o ho;exact g.inj m k l s0 t (fun q=>c1 q.symm) Yo (by rw[c2];simp) jj q
 have nl1:∀k t,s1.h.get k≠none->E1.ι k≠some (l,t):=by
  intro k t hk q;obtain⟨m0,t0,c1,c2,_⟩:=u1.s9 k l t hk q hlw;exact nl0 m0 t0 c1 c2
 have yO:w1.heap[l]? =some (.loop r):=(u1.keep l hlw fun k t hk=>nl0 k t hk.live).trans hb;have Og:l<w1.heap.size:=(aQ.1 yO).1;refine⟨_,run_beginRound yO BC,?_⟩;generalize PC:w1.putObj l (.loop { r with state:=.busy })=w2;have H8:w2.heap[l]? =some (.loop { r with state:=.busy }):=by rw[<- PC];exact World.putObj_heap_same Og
 have Ic:w2.heap.size=w1.heap.size:=by rw[<- PC];simp
 have QC:∀k,k≠l->w2.heap[k]? =w1.heap[k]?:=fun k hk=>by rw[<- PC];exact World.putObj_heap_other hk
 have qN:Good E1 s1.h w2:=by
  refine⟨fun k o hk=>?_,u1.good.inj,fun k b s hk=>by rw[Ic];exact u1.good.mK k b s hk,u1.good.jh,fun b c I=>⟨?_,(u1.good.gQ b c I).2⟩⟩
  case refine_2=>
   obtain⟨⟨el,fz,mC⟩,_⟩:=u1.good.gQ b c I;rw[QC b fun q=>by rw[q,yO]at mC;cases mC];exact⟨el,fz,mC⟩
  obtain⟨b,s,k1,k2⟩:=u1.good.rel k o hk;have fU:b≠l:=by intro q;subst q;exact nl1 k s (by rw[hk];simp) k1
  exact⟨b,s,k1,gU E1.le_refl rfl (QC b fU) k2⟩
 have hN1:a1.tmps.size=r.tmps.size:=by
  exact r1.size.trans Ep
 have rest:∀(x:fl) (s2:St),jm P cf rt r.body s1=some (x,s2)->∀(st:Bool) (pe:Option Code) (es:Exit->Act->World->Prop),
   (∀x' E2 a2 w3,N8 E2 x x'->((Instr.endRound l pe).run P w3= .ok (.bool pe.isNone) (w3.putObj l (.loop { r with state:=if pe.isNone then .ready else .done,pending:=pe }))->
    (pe.isNone=st->iG E h w E2 (s2.h.set m (some (.loop st pe S r.params.toList r.assign r.body))) (w3.putObj l (.loop { r with state:=if pe.isNone then .ready else .done,pending:=pe })))->qH E2 s2.n->n<=s2.n->(∀k,k<n->E2.ι k=E.ι k)->es x' a2 w3))->
   r.body.wpIn (fz (some l)) 0 P es a1 w2:=by
  intro x s2 QD st pe es hQ;refine mP (vi:=some l) oU W r.body s1 x s2 (.inr hpb) An QD E1 a1 w2 es ⟨qN,r1.oz,r1.S,hN1,r1.gG⟩ fun E2 a2 w3 x' u2 qL xK r2 td=>?_;refine hQ x' E2 a2 w3 td ?_ ?_ r2.oz (bX Eb xK) (fun k hk=>by rw[qL k (bF hk Eb)];exact Ff k hk)
  . have hb3:w3.heap[l]? =some (.loop { r with state:=.busy }):=(u2.keep l (by rw[Ic];exact Og) fun k t hk=>nl1 k t hk.live).trans H8;exact run_endRound (P:=P) (r:={ r with state:=.busy }) pe hb3
  . intro akE;have nl2:∀k t,s2.h.get k≠none->E2.ι k≠some (l,t):=by
     intro k t hk q;obtain⟨m0,t0,c1,c2,_⟩:=u2.s9 k l t hk q (by rw[Ic];exact Og);exact nl1 m0 t0 c1 c2
    have hb3:w3.heap[l]? =some (.loop { r with state:=.busy }):=(u2.keep l (by rw[Ic];exact Og) fun k t hk=>nl1 k t hk.live).trans H8;have ZN:l<w3.heap.size:=(aQ.1 hb3).1;have ku:E.le E2:=Env.le_trans u1.le u2.le;have QE:E2.ι m=some (l,s0):=(ku.nm m l s0 jj).1;generalize HK:({ r with state:=if pe.isNone then .ready else .done,pending:=pe }:Loop)=r4;have aeg:(w3.putObj l (.loop r4)).heap.size=w3.heap.size:=by simp
    have QF:∀k,k≠l->(w3.putObj l (.loop r4)).heap[k]? =w3.heap[k]?:=fun k hk=>World.putObj_heap_other hk;have tu:l7 E2 (w3.putObj l (.loop r4)) l s0 (.loop st pe S r.params.toList r.assign r.body):=by
     refine⟨r4,World.putObj_heap_same ZN,?_,?_,?_,?_,?_,?_,?_⟩
     . rw[<- HK,<- akE]
     . rw[<- HK]
     . rw[<- HK]
     . rw[<- HK]
     . rw[<- HK]
     . rw[<- HK];exact wc ku htr
     . rw[<- HK];exact⟨ZQ,An,aef⟩
    have mW:∀k o,(s2.h.set m (some (.loop st pe S r.params.toList r.assign r.body))).get k=some o->(k=m/\o= .loop st pe S r.params.toList r.assign r.body)\/(k≠m/\s2.h.get k=some o):=by
     intro k o q;rw[H.eY _ _ _ y8]at q;split at q
     . rename_i c;cases q;exact .inl ⟨c,rfl⟩
     . rename_i c;exact .inr ⟨c,q⟩
    have QG:∀b c,E2.φ b=some c->b≠l:=fun b c I q=>by
     obtain⟨⟨el,fz,mC⟩,_⟩:=u2.good.gQ b c I;rw[q,hb3]at mC;cases mC
    refine⟨ku,⟨?_,?_,?_,u2.good.jh,fun b c I=>⟨by rw[QF b (QG b c I)];exact(u2.good.gQ b c I).1,fun k t hk q0=>?_⟩⟩,?_,?_,?_,?_,?_,?_,?_⟩
    case refine_4=>
     obtain⟨o,hk,ho⟩:=hk;rcases mW k o hk with⟨rfl,rfl⟩|⟨c',q⟩
     . rw[QE]at q0;cases q0;exact QG _ c I rfl
     . exact(u2.good.gQ b c I).2 k t ⟨o,q,ho⟩ q0
    case refine_11=>
     intro b c I;rcases u2.Ea b c I with q|q|⟨m1,t1,q1,q2⟩
     . rcases u1.Ea b c q with q|q|⟨m0,t0,q1,q2⟩
       . exact .inl q
       . exact .inr (.inl q)
       . exact .inr (.inr ⟨m0,t0,gz CT q1,q2⟩)
     . have c1:=u1.size;exact .inr (.inl K)
     . rcases bK b w.heap.size with Gq|Gq
       . obtain⟨m0,t0,_,f2,f3⟩:=u1.s9 m1 b t1 q1.live q2 Gq;exact .inr (.inr ⟨m0,t0,gz CT (f3 q1),f2⟩)
       . exact .inr (.inl Gq)
    . intro k o q;rcases mW k o q with⟨rfl,rfl⟩|⟨c,q⟩
      . exact⟨l,s0,QE,tu⟩
      . obtain⟨b,t,k1,k2⟩:=u2.good.rel k o q;have fU:b≠l:=by intro c;subst c;exact nl2 k t (by rw[q];simp) k1
        exact⟨b,t,k1,gU E2.le_refl rfl (QF b fU) k2⟩
    . intro k k' b t t' fU hk uH e1 e2;obtain⟨o,hk,ho⟩:=hk;obtain⟨o',uH⟩:=bh.1 uH;rcases mW k o hk with⟨rfl,rfl⟩|⟨c,q⟩
      . rcases mW k' o' uH with⟨rfl,rfl⟩|⟨c',q'⟩
        . exact fU rfl
        . rw[QE]at e1;cases e1;exact nl2 k' t' (by rw[q'];simp) e2
      . rcases mW k' o' uH with⟨rfl,rfl⟩|⟨c',q'⟩
        . rw[QE]at e2;cases e2;exact nl2 k t (by rw[q];simp) e1
        . exact u2.good.inj k k' b t t' fU ⟨o,q,ho⟩ (by rw[q'];simp) e1 e2
    . intro k b t q;rw[aeg];exact u2.good.mK k b t q
    . rw[aeg];have c1:=u1.size;have c2:=u2.size;omega
    . exact u2.tape.trans (by rw[<- PC];exact u1.tape)
    . exact u2.os.trans (by rw[<- PC];exact u1.os)
    . exact u2.output.trans (by rw[<- PC];exact u1.output)
    . intro b Gq sB;have fU:b≠l:=by intro c;subst c;exact sB m s0 Yo jj
      have c1:=u1.size;rw[QF b fU,u2.keep b K ?_,QC b fU,u1.keep b Gq ?_]
      . intro k t hk q;exact sB k t (gz CT hk) q
      . intro k t hk q;obtain⟨m0,t0,d1,d2,d3⟩:=u1.s9 k b t hk.live q Gq;exact sB m0 t0 (gz CT (d3 hk)) d2
    . intro k b t hk q Gq;obtain⟨o,hk⟩:=bh.1 hk;have c1:=u1.size;rcases mW k o hk with⟨rfl,rfl⟩|⟨c,qk⟩
      . rw[QE]at q;cases q;exact⟨k,s0,Yo.live,jj,fun _=>Yo⟩
      . obtain⟨m1,t1,d1,d2,d3⟩:=u2.s9 k b t (by rw[qk];simp) q K;obtain⟨m0,t0,f1,f2,f3⟩:=u1.s9 m1 b t1 d1 d2 Gq;exact⟨m0,t0,nu CT f1,f2,fun z=>gz CT (f3 (d3 (oS y8 z c)))⟩
 split at e
 . rename_i s2 QD;simp only[an,aB]at e;obtain⟨rfl,rfl,rfl⟩:=e;refine rest _ s2 QD true none _ fun x' E2 a2 w3 td fS hu rX hn fQ=>?_;cases x'<;>first|(exact td.elim)|skip
   exact⟨_,_,fS,E2,hu rfl,fQ,rX,hn,rfl⟩
 . rename_i s2 QD;simp only[an,aB]at e;obtain⟨rfl,rfl,rfl⟩:=e;refine rest _ s2 QD false (some .ret) _ fun x' E2 a2 w3 td fS hu rX hn fQ=>?_;cases x'<;>first|(exact td.elim)|skip
   exact⟨_,_,fS,E2,hu rfl,fQ,rX,hn,rfl⟩
 . rename_i j s2 QD;simp only[an,aB]at e;obtain⟨rfl,rfl,rfl⟩:=e;refine rest _ s2 QD false (some (.exit j)) _ fun x' E2 a2 w3 td fS hu rX hn fQ=>?_;cases x'<;>first|(exact td.elim)|skip
   have:_=j:=td.symm;subst this;exact⟨_,_,fS,E2,hu rfl,fQ,rX,hn,rfl⟩
 . cases e
theorem UX(oU:jq P cf)(W:P.follows .mixedOrders=true)(wZ:kW P=true):jq P (fun f args h n=>if f<P.funcs.size then enter P cf rt f args h n else xG P cf rt (f-P.funcs.size) args h n):=by
 intro f args h n uw h' n' e E w de ra g hd;simp only at e;split at e
 . rename_i fI;exact⟨fun _=>Iy oU W wZ e ra g hd,fun m l s hf _=>absurd fI (by rw[hf];exact Nat.not_lt.2 (Nat.le_add_right _ _))⟩
 . rename_i y6;refine⟨fun I=>?_,fun m l s hf jj=>?_⟩
   . exfalso;unfold callee at I;rw[Array.getElem?_eq_none (Nat.not_lt.1 y6)]at I;cases I
   . subst hf;rw[Nat.add_sub_cancel_left]at e;exact Iz oU W e ra g hd jj
end
open Go.RowKit
def CU:List (Nat×Nat)->Nat->Option (Nat×Nat)
 | [],_=>none
 |p::r,m=>if p.2=m then some (p.1,0)else CU r m
def gN:Nat:=jU.length
theorem sF:∀{l:List (Nat×Nat)} {m:Nat} {q:Nat×Nat},CU l m=some q->∃p∈l,p.2=m/\q=(p.1,0)
 | [],_,_,h=>by cases h
 |p::r,m,q,h=>by
  unfold CU at h;split at h
  . rename_i hb;cases h;exact⟨p,by simp,hb,rfl⟩
  . obtain⟨p',N,B⟩:=sF h;exact⟨p',aK _ N,B⟩
theorem CV:∀{l:List (Nat×Nat)} {p:Nat×Nat},p∈l->(l.map (·.2)).Nodup->CU l p.2=some (p.1,0)
 |q::r,p,h,hn=>by
  unfold CU;rcases aF.1 h with rfl|h
  . rw[aH rfl]
  . simp only[bY,cj]at hn;rw[aI (fun e=>hn.1 (by rw[e];exact List.mem_map_of_mem h))];exact CV h hn.2
theorem Mz:(jU.map (·.2)).Nodup:=by
 have h:jU.map (·.2)=List.range jU.length:=by decide
 rw[h];exact List.nodup_range
section
variable(φ:Nat->Option (Array Value)){E:Env}(w:World){h:H lf}
theorem BT{p:Nat×Nat}(h:p∈jU):p.2<gN:=by
 have e:jU.map (·.2)=List.range jU.length:=by decide
 have:=List.mem_map_of_mem (f:=(·.2)) h;rw[e]at this;exact List.mem_range.1 this
def Uj:Env:=⟨fun m=>CU jU m,fun _=>0,φ⟩
def E0:Env:=Uj fun _=>none
def QH:Prop:=∀b c,φ b=some c->∃el fz,w.heap[b]? =some (.cells c el fz)
theorem Good.fz{w:World}(g:Good E h w):QH E.φ w:=fun b c q=>(g.gQ b c q).1
theorem akG:GE (Uj φ):=fun p hp=>CV hp Mz
def WG:Prop:=∀p∈jU,p.1<w.heap.size
theorem Good.wg{w:World}(g:Good E h w):WG w:=fun p hp=>g.mK _ _ _ (g.jh p hp)
end
section
variable{φ:Nat->Option (Array Value)}{w:World}{n:Nat}
theorem KG(hw:WG w)(kR:QH φ w):Good (Uj φ) .nil w:=⟨fun m o h=>by simp[H.get]at h,fun m _ _ _ _ _ h=>absurd rfl h.live,fun m b s h=>by obtain⟨p,N,_,B⟩:=sF h;cases B;exact hw p N,akG φ,fun b c q=>⟨kR b c q,fun m s h=>absurd rfl h.live⟩⟩
theorem aeh(hw:WG w):Good E0 .nil w:=KG hw fun _ _ q=>by cases q
theorem QI(hn:gN<=n):qH (Uj φ) n:=fun m W=>by
 cases q:(Uj φ).ι m with
 |none=>rfl
 |some _=>obtain⟨p',N,B,_⟩:=sF q;have:=BT N;omega
theorem akH(hn:gN<=n):qH E0 n:=QI hn
end
mutual
def V.free:V->Bool
 | .ptr (some _)=>false
 | .dj (some _) _ _ _=>false
 | .map (some _)=>false
 | .fn f a c=>vZ f&&(V.xn a&&V.xn c)
 | .iface _ x=>V.free x
 | .agg C=>V.xn C
 | .ew C=>V.xn C
 | .dS _ 0 []=>true
 | .dS _ _ _=>false
 | .dx _=>false
 |_=>true
def V.xn:ag->Bool
 | []=>true
 |x::xs=>V.free x&&V.xn xs
end
mutual
theorem CW{E E':Env}:∀(v:V) (v':Value),v.free=true->dK E v v'->dK E' v v'
 | .bool _,_,_,r=>r
 | .int _ _,_,_,r=>r
 | .str _,_,_,r=>r
 | .ptr none,_,_,r=>r
 | .ptr (some _),_,h,_=>by simp[V.free]at h
 | .dj none _ _ _,_,_,r=>r
 | .dj (some _) _ _ _,_,h,_=>by simp[V.free]at h
 | .map none,_,_,r=>r
 | .map (some _),_,h,_=>by simp[V.free]at h
 | .fn f a c,_,h,⟨f',a',c',rf,ra,rc,q⟩=>by
   simp only[V.free,aC]at h;refine⟨f',a',c',?_,mX a a' h.2.1 ra,mX c c' h.2.2 rc,q⟩;cases f<;>first|exact rf|(simp[vZ]at h;done)
 | .kB,_,_,r=>r
 | .iface _ x,_,h,⟨x',r,q⟩=>⟨x',CW x x' (by simpa only[V.free]using h) r,q⟩
 | .nilIface,_,_,r=>r
 | .agg C,_,h,⟨cs',r,q⟩=>⟨cs',mX C cs' (by simpa only[V.free]using h) r,q⟩
 | .ew C,_,h,⟨cs',r,q⟩=>⟨cs',mX C cs' (by simpa only[V.free]using h) r,q⟩
 | .dS f 0 [],_,_,r=>by
   obtain⟨⟨a,A,vs,N,B,h3,h4,h5⟩,h6⟩:=r;exact⟨⟨a,A,vs,N,B,h3,h4,fun q=>absurd q (cG _)⟩,h6⟩
 | .dS f 0 (_::_),_,h,_=>by simp[V.free]at h
 | .dS f (_+1) _,_,h,_=>by simp[V.free]at h
 | .dx _,_,h,_=>by simp[V.free]at h
theorem mX{E E':Env}:∀(v:ag) (v':List Value),V.xn v=true->dL E v v'->dL E' v v'
 | [],_,_,r=>r
 |x::xs,_,h,⟨y,ys,r,D,q⟩=>by
  simp only[V.xn,aC]at h;exact⟨y,ys,CW x y h.1 r,mX xs ys h.2 D,q⟩
end
theorem Good.below{E:Env}{h:H lf}{w w':World}(g:Good E h w)(b:Below w.heap.size w w'):Good E h w' where
 rel:=fun m o W=>let⟨b',s,N,B⟩:=g.rel m o W;⟨b',s,N,gU E.le_refl rfl (b.block b' (g.mK m b' s N)) B⟩
 inj:=g.inj
 mK:=fun m b' s W=>bF (g.mK m b' s W) b.size
 jh:=g.jh
 gQ:=fun k c q=>⟨by rw[b.block k (by obtain⟨el,fz,e⟩:=g.fz k c q;exact(aQ.1 e).1)];exact g.fz k c q,(g.gQ k c q).2⟩
theorem iG.below{E:Env}{h:H lf}{w w':World}(g:Good E h w)(b:Below w.heap.size w w'):iG E h w E h w':=
 ⟨E.le_refl,g.below b,b.size,b.tape,b.os,b.output,fun k hk _=>b.block k hk,fun m _ s W he _=>⟨m,s,W,he,id⟩,fun _ _ q=>.inl q⟩
def look(f:FuncId)(args:ag):List (FuncId×ag×V)->Option V
 | []=>none
 |x::r=>match Nat.beq f x.1&&V.p9 args x.2.1 with
  |true=>some x.2.2
  |false=>look f args r
theorem CY{f:FuncId}{args:ag}{v:V}:∀{cQ:List (FuncId×ag×V)},look f args cQ=some v->(f,args,v)∈cQ
 | [],h=>by simp[look]at h
 |x::r,h=>by
  simp only[look]at h;split at h
  . rename_i hb;simp only[aC]at hb;simp only[an]at h;rw[aD hb.1,tG _ _ hb.2,<- h];simp
  . exact aK _ (CY h)
structure Ev(w0:World)(E:Env)(h:H lf)(w:World):Prop where
 good:Good E h w
 size:w0.heap.size<=w.heap.size
 tape:w.tape=w0.tape
 os:w.os=w0.os
 output:w.output=w0.output
 keep:∀b,b<w0.heap.size->w.heap[b]? =w0.heap[b]?
 s9:∀m b s,eE h m->E.ι m=some (b,s)->b<w0.heap.size->False
theorem Ev.trans{w0:World}{E E':Env}{h h':H lf}{w w':World}(a:Ev w0 E h w)(b:iG E h w E' h' w'):Ev w0 E' h' w' where
 good:=b.good
 size:=bX a.size b.size
 tape:=b.tape.trans a.tape
 os:=b.os.trans a.os
 output:=b.output.trans a.output
 keep:=fun x G=>by
  rw[b.keep x (bF G a.size) fun m s W e=>a.s9 m x s W e G,a.keep x G]
 s9:=fun m x s W e G=>by
  obtain⟨m1,s1,_,e1,k1⟩:=b.s9 m x s W.live e (bF G a.size);exact a.s9 m1 x s1 (k1 W) e1 G
theorem Ev.init{E:Env}{h:H lf}{w:World}(g:Good E h w)(hr:∀m,¬eE h m):Ev w E h w:=
 ⟨g,aA _,rfl,rfl,rfl,fun _ _=>rfl,fun m _ _ W _ _=>hr m W⟩
theorem Ev.below{w0:World}{E:Env}{h:H lf}{w:World}(u:Ev w0 E h w):Below w0.heap.size w0 w:=
 ⟨u.os,u.tape,u.output,u.size,fun k hk=>u.keep k hk⟩
def UY(h1:Nat)(w0:World)(s:St)(a:Act)(w:World):Prop:=∃E,kf E h1 s a w/\Ev w0 E s.h w
theorem UY.below{h1:Nat}{w0:World}{s:St}{a:Act}{w:World}(i:UY h1 w0 s a w):Below w0.heap.size w0 w:=by
 obtain⟨E,_,u⟩:=i;exact u.below
def fl.plain:fl->Option Exit
 | .normal=>some .normal
 | .exit i=>some (.exit i)
 | .ret=>some .ret
 | .panic _=>none
mutual
def V.names:V->List Nat->List Nat
 | .ptr (some (m,_)),l=>m::l
 | .dj (some (m,_)) _ _ _,l=>m::l
 | .map (some m),l=>m::l
 | .fn f a c,l=>match f with
   | .yield m=>m::V.vt a (V.vt c l)
   |_=>V.vt a (V.vt c l)
 | .iface _ x,l=>V.names x l
 | .agg C,l=>V.vt C l
 | .ew C,l=>V.vt C l
 |_,l=>l
def V.vt:ag->List Nat->List Nat
 | [],l=>l
 |x::xs,l=>V.names x (V.vt xs l)
end
def IA:List (V×V×Nat)->List Nat
 | []=>[]
 |x::xs=>V.names x.1 (V.names x.2.1 (IA xs))
def lf.names:lf->List Nat
 | .cells C=>V.vt C []
 | .map Q _=>IA Q
 | .nU _ _=>[]
 | .ints _ _=>[]
 | .own _ _=>[]
 | .deep _=>[]
 | .jf _ _ _=>[]
 | .AX _ _ x=>V.names x []
 | .dI _ _=>[]
 | .mF=>[]
 | .loop ..=>[]
def ZR(h:H lf):Nat->List Nat->H Nat->List Nat->Nat->Option (H Nat×List Nat×Nat)
 |0,_,_,_,_=>none
 |_+1,[],ρ,qh,k=>some (ρ,qh,k)
 |f+1,m::q,ρ,qh,k=>match ρ.get m with
  |some _=>ZR h f q ρ qh k
  |none=>ZR h f ((match h.get m with|some o=>o.names|none=>[])++q) (ρ.set m (some k)) (m::qh) (k+1)
def xX:List Nat->Nat->H Nat->H Nat
 | [],_,t=>t
 |m::r,k,t=>xX r (k-1) (t.set (k-1) (some m))
def dw(ρ back:H Nat)(n2 m:Nat):Option Nat:=
 match ρ.get m with
 |some k=>match back.get k with
  |some m'=>match Nat.beq m m'&&Nat.blt k n2 with
   |true=>some k
   |false=>none
  |none=>none
 |none=>none
theorem Bh{ρ back:H Nat}{n2 m k:Nat}(h:dw ρ back n2 m=some k):ρ.get m=some k/\back.get k=some m/\k<n2:=by
 unfold dw at h;split at h
 . rename_i k' N;split at h
   . rename_i m' B;split at h
     . rename_i hb;simp only[aC]at hb;simp only[an]at h;subst h;have e:=aD hb.1;subst e;exact⟨N,B,by have:=hb.2;simp[Nat.blt]at this;omega⟩
     . cases h
   . cases h
 . cases h
section
variable(ν:Nat->Option Nat)
mutual
def V.Yp:V->Option V
 | .ptr (some (m,o))=>match ν m with
   |some k=>some (.ptr (some (k,o)))
   |none=>none
 | .dj (some (m,o)) l c e=>match ν m with
   |some k=>some (.dj (some (k,o)) l c e)
   |none=>none
 | .map (some m)=>match ν m with
   |some k=>some (.map (some k))
   |none=>none
 | .fn f a c=>match vZ f with
   |true=>match V.Oh a with
    |some a=>match V.Oh c with
     |some c=>some (.fn f a c)
     |none=>none
    |none=>none
   |false=>none
 | .iface t x=>match V.Yp x with
   |some x=>some (.iface t x)
   |none=>none
 | .agg C=>match V.Oh C with
   |some C=>some (.agg C)
   |none=>none
 | .ew C=>match V.Oh C with
   |some C=>some (.ew C)
   |none=>none
 | .bool b=>some (.bool b)
 | .int k n=>some (.int k n)
 | .str s=>some (.str s)
 | .ptr none=>some (.ptr none)
 | .dj none l c e=>some (.dj none l c e)
 | .map none=>some (.map none)
 | .kB=>some .kB
 | .nilIface=>some .nilIface
 | .dS f n C=>some (.dS f n C)
 | .dx C=>some (.dx C)
def V.Oh:ag->Option (ag)
 | []=>some []
 |x::xs=>match V.Yp x with
  |some x=>match V.Oh xs with
   |some xs=>some (x::xs)
   |none=>none
  |none=>none
end
def Yq:List (V×V×Nat)->Option (List (V×V×Nat))
 | []=>some []
 |x::xs=>match V.Yp ν x.1,V.Yp ν x.2.1,Yq xs with
  |some k,some v,some xs=>some ((k,v,x.2.2)::xs)
  |_,_,_=>none
def lf.Yp:lf->Option lf
 | .cells C=>match V.Oh ν C with
   |some C=>some (.cells C)
   |none=>none
 | .map Q c=>match Yq ν Q with
   |some Q=>some (.map Q c)
   |none=>none
 | .nU s p=>some (.nU s p)
 | .ints k ks=>some (.ints k ks)
 | .own k ks=>some (.own k ks)
 | .deep C=>some (.deep C)
 | .jf e f s=>some (.jf e f s)
 | .AX t s x=>match V.Yp ν x with
   |some x=>some (.AX t s x)
   |none=>none
 | .dI k Q=>some (.dI k Q)
 | .mF=>none
 | .loop ..=>none
end
section
variable{ν:Nat->Option Nat}{E E':Env}(jj:∀m k,ν m=some k->E'.ι k=E.ι m)(pG:E'.β=E.β)(kR:∀b c,E.φ b=some c->E'.φ b=some c)
include jj pG kR
end
def KH(ν:Nat->Option Nat)(h:H lf):List Nat->H lf->Option (H lf)
 | [],t=>some t
 |m::r,t=>match h.get m with
  |none=>KH ν h r t
  |some o=>match ν m with
   |some k=>match o.Yp ν with
    |some o2=>match Nat.blt k fP with
     |true=>KH ν h r (t.set k (some o2))
     |false=>none
    |none=>none
   |none=>none
def Ao(ν:Nat->Option Nat)(S:H V):List Nat->H V->Option (H V)
 | [],t=>some t
 |m::r,t=>match S.get m with
  |none=>Ao ν S r t
  |some v=>match v.Yp ν with
   |some v2=>match Nat.blt m fP with
    |true=>Ao ν S r (t.set m (some v2))
    |false=>none
   |none=>none
def sG(S:H V):List Nat->List Nat
 | []=>[]
 |t::r=>match S.get t with
  |some v=>v.names (sG S r)
  |none=>sG S r
def aei(back:H Nat)(k:Nat):Bool:=jU.all fun p=>Nat.blt p.2 k&&match back.get p.2 with
 |some o=>Nat.beq o p.2
 |none=>false
def norm(live:List Nat)(s:St):Option St:=
 match s.gG with
 | []=>match ZR s.h 100000 (sG s.S live) .nil [] 0 with
   |some (ρ,qh,k)=>
    let ν:=dw ρ (xX qh k .nil) k
    match aei (xX qh k .nil) k with
    |false=>none
    |true=>match KH ν s.h qh .nil with
    |some B=>match Ao ν s.S live .nil with
     |some xU=>some { S:=xU,h:=B,n:=k,gG:=[] }
     |none=>none
    |none=>none
   |none=>none
 |_=>none
section
variable(ν:Nat->Option Nat)
mutual
def V.rn:V->Option V
 | .ptr (some (m,o))=>match ν m with
   |some k=>some (.ptr (some (k,o)))
   |none=>none
 | .dj (some (m,o)) l c e=>match ν m with
   |some k=>some (.dj (some (k,o)) l c e)
   |none=>none
 | .map (some m)=>match ν m with
   |some k=>some (.map (some k))
   |none=>none
 | .fn f a c=>match V.y9 a with
   |some a=>match V.y9 c with
    |some c=>match f with
     | .yield m=>match ν m with
       |some k=>some (.fn (.yield k) a c)
       |none=>none
     |f=>some (.fn f a c)
    |none=>none
   |none=>none
 | .iface t x=>match V.rn x with
   |some x=>some (.iface t x)
   |none=>none
 | .agg C=>match V.y9 C with
   |some C=>some (.agg C)
   |none=>none
 | .ew C=>match V.y9 C with
   |some C=>some (.ew C)
   |none=>none
 | .bool b=>some (.bool b)
 | .int k n=>some (.int k n)
 | .str s=>some (.str s)
 | .ptr none=>some (.ptr none)
 | .dj none l c e=>some (.dj none l c e)
 | .map none=>some (.map none)
 | .kB=>some .kB
 | .nilIface=>some .nilIface
 | .dS f n C=>some (.dS f n C)
 | .dx C=>some (.dx C)
def V.y9:ag->Option (ag)
 | []=>some []
 |x::xs=>match V.rn x with
  |some x=>match V.y9 xs with
   |some xs=>some (x::xs)
   |none=>none
  |none=>none
end
def QJ:List (V×V×Nat)->Option (List (V×V×Nat))
 | []=>some []
 |x::xs=>match V.rn ν x.1 with
  |some k=>match V.rn ν x.2.1 with
   |some v=>match QJ xs with
    |some xs=>some ((k,v,x.2.2)::xs)
    |none=>none
   |none=>none
  |none=>none
def CZ(m:Nat):Bool:=match ν m with
 |some k=>Nat.beq m k
 |none=>false
mutual
def V.still:V->Bool
 | .ptr (some (m,_))=>CZ ν m
 | .dj (some (m,_)) _ _ _=>CZ ν m
 | .map (some m)=>CZ ν m
 | .fn f a c=>(match f with | .yield m=>CZ ν m|_=>true)&&(V.xY a&&V.xY c)
 | .iface _ x=>V.still x
 | .agg C=>V.xY C
 | .ew C=>V.xY C
 |_=>true
def V.xY:ag->Bool
 | []=>true
 |x::xs=>V.still x&&V.xY xs
end
def za:H V->Bool
 | .nil=>true
 | .node v l r=>(match v with|some v=>V.still ν v|none=>true)&&(za l&&za r)
def lf.rn:lf->Option lf
 | .cells C=>match V.y9 ν C with
   |some C=>some (.cells C)
   |none=>none
 | .map Q c=>match QJ ν Q with
   |some Q=>some (.map Q c)
   |none=>none
 | .nU s p=>some (.nU s p)
 | .ints k ks=>some (.ints k ks)
 | .own k ks=>some (.own k ks)
 | .deep C=>some (.deep C)
 | .jf e f s=>some (.jf e f s)
 | .AX t s x=>match V.rn ν x with
   |some x=>some (.AX t s x)
   |none=>none
 | .dI k Q=>some (.dI k Q)
 | .mF=>some .mF
 | .loop st pe S ps a b=>match za ν S with
   |true=>some (.loop st pe S ps a b)
   |false=>none
end
mutual
theorem tJ{ν:Nat->Option Nat}{E E':Env}(jj:∀m k,ν m=some k->E'.ι k=E.ι m)(pG:∀m k b s,ν m=some k->E.ι m=some (b,s)->E'.β b=E.β b)(kR:∀b c,E.φ b=some c->E'.φ b=some c):∀(v v2:V) (v':Value),v.rn ν=some v2->dK E v v'->dK E' v2 v'
 | .bool _,v2,_,h,r=>by simp only[V.rn,an]at h;subst h;exact r
 | .int _ _,v2,_,h,r=>by simp only[V.rn,an]at h;subst h;exact r
 | .str _,v2,_,h,r=>by simp only[V.rn,an]at h;subst h;exact r
 | .ptr none,v2,_,h,r=>by simp only[V.rn,an]at h;subst h;exact r
 | .ptr (some (m,o)),v2,_,h,⟨b,s,e,q⟩=>by
   simp only[V.rn]at h;split at h
   . rename_i k hk;obtain rfl:=ek h;exact⟨b,s,(jj m k hk).trans e,q⟩
   . cases h
 | .dj none _ _ _,v2,_,h,r=>by simp only[V.rn,an]at h;subst h;exact r
 | .dj (some (m,o)) _ _ _,v2,_,h,⟨b,s,o',gp,e,q1,q2,q3,q4,q5⟩=>by
   simp only[V.rn]at h;split at h
   . rename_i k hk;obtain rfl:=ek h;exact⟨b,s,o',gp,(jj m k hk).trans e,q1,q2,q3,by rw[pG m k b s hk e];exact q4,q5⟩
   . cases h
 | .map none,v2,_,h,r=>by simp only[V.rn,an]at h;subst h;exact r
 | .map (some m),v2,_,h,⟨b,e,q⟩=>by
   simp only[V.rn]at h;split at h
   . rename_i k hk;obtain rfl:=ek h;exact⟨b,(jj m k hk).trans e,q⟩
   . cases h
 | .fn f a c,v2,_,h,⟨f',a',c',rf,ra,rc,q⟩=>by
   simp only[V.rn]at h;split at h
   . rename_i a2 ha;split at h
     . rename_i c2 I;have QK:=tK jj pG kR a a2 a' ha ra;have rc2:=tK jj pG kR c c2 c' I rc;split at h
       . rename_i m;split at h
         . rename_i k hk;obtain rfl:=ek h;obtain⟨l,s,e,q2⟩:=rf;exact⟨f',a',c',⟨l,s,(jj m k hk).trans e,q2⟩,QK,rc2,q⟩
         . cases h
       . obtain rfl:=ek h;refine⟨f',a',c',?_,QK,rc2,q⟩;cases f<;>first|exact rf|(rename_i fU;exact(fU _ rfl).elim)
     . cases h
   . cases h
 | .kB,v2,_,h,r=>by simp only[V.rn,an]at h;subst h;exact r
 | .iface t x,v2,_,h,⟨x',r,q⟩=>by
   simp only[V.rn]at h;split at h
   . rename_i x2 G;obtain rfl:=ek h;exact⟨x',tJ jj pG kR x x2 x' G r,q⟩
   . cases h
 | .nilIface,v2,_,h,r=>by simp only[V.rn,an]at h;subst h;exact r
 | .agg C,v2,_,h,⟨cs',r,q⟩=>by
   simp only[V.rn]at h;split at h
   . rename_i x2 G;obtain rfl:=ek h;exact⟨cs',tK jj pG kR C x2 cs' G r,q⟩
   . cases h
 | .ew C,v2,_,h,⟨cs',r,q⟩=>by
   simp only[V.rn]at h;split at h
   . rename_i x2 G;obtain rfl:=ek h;exact⟨cs',tK jj pG kR C x2 cs' G r,q⟩
   . cases h
 | .dS f n C,v2,_,h,r=>by
   simp only[V.rn,an]at h;subst h;exact⟨kO kR _ _ r.1,r.2⟩
 | .dx C,v2,_,h,⟨b,o,c,vs,e,e1,r,q⟩=>by
   simp only[V.rn,an]at h;subst h;exact⟨b,o,c,vs,e,kR _ _ e1,iD kR _ _ r,q⟩
theorem tK{ν:Nat->Option Nat}{E E':Env}(jj:∀m k,ν m=some k->E'.ι k=E.ι m)(pG:∀m k b s,ν m=some k->E.ι m=some (b,s)->E'.β b=E.β b)(kR:∀b c,E.φ b=some c->E'.φ b=some c):∀(v v2:ag) (v':List Value),V.y9 ν v=some v2->dL E v v'->dL E' v2 v'
 | [],v2,_,h,r=>by simp only[V.y9,an]at h;subst h;exact r
 |x::xs,v2,_,h,⟨y,ys,r,D,q⟩=>by
  simp only[V.y9]at h;split at h
  . rename_i x2 G;split at h
    . rename_i KI BD;obtain rfl:=ek h;exact⟨y,ys,tJ jj pG kR x x2 y G r,tK jj pG kR xs KI ys BD D,q⟩
    . cases h
  . cases h
end
section
variable{ν:Nat->Option Nat}{E E':Env}(jj:∀m k,ν m=some k->E'.ι k=E.ι m)(pG:∀m k b s,ν m=some k->E.ι m=some (b,s)->E'.β b=E.β b)(kR:∀b c,E.φ b=some c->E'.φ b=some c)
include jj pG kR
theorem IB:∀(Q uv:List (V×V×Nat)) (l:List MapEntry),QJ ν Q=some uv->kK E Q l->kK E' uv l
 | [],uv,_,h,r=>by simp only[QJ,an]at h;subst h;exact r
 |x::xs,uv,_,h,⟨y,ys,r1,r2,r3,D,q⟩=>by
  simp only[QJ]at h;split at h
  . rename_i k hk;split at h
    . rename_i v hv;split at h
      . rename_i KI BD;obtain rfl:=ek h;exact⟨y,ys,tJ jj pG kR _ _ _ hk r1,tJ jj pG kR _ _ _ hv r2,r3,IB _ _ _ BD D,q⟩
      . cases h
    . cases h
  . cases h
end
theorem oA{ν:Nat->Option Nat}{m:Nat}(h:CZ ν m=true):ν m=some m:=by
 unfold CZ at h;split at h
 . rename_i k hk;rw[hk,aD h]
 . cases h
theorem vu{ν:Nat->Option Nat}:∀(t:H V),za ν t=true->∀k v,t.get k=some v->v.still ν=true
 | .nil,_,k,v,h=>by simp[H.get]at h
 | .node x l r,hs,k,v,h=>by
   simp only[za,aC]at hs;simp only[H.get]at h;split at h
   . subst h;exact hs.1
   . rename_i k;split at h
     . exact vu l hs.2.1 _ v h
     . exact vu r hs.2.2 _ v h
mutual
theorem Ap{ν:Nat->Option Nat}{E E':Env}(jj:∀m k,ν m=some k->E'.ι k=E.ι m)(pG:∀m k b s,ν m=some k->E.ι m=some (b,s)->E'.β b=E.β b)(kR:∀b c,E.φ b=some c->E'.φ b=some c):∀(v:V) (v':Value),v.still ν=true->dK E v v'->dK E' v v'
 | .bool _,_,_,r=>r
 | .int _ _,_,_,r=>r
 | .str _,_,_,r=>r
 | .ptr none,_,_,r=>r
 | .ptr (some (m,o)),_,h,⟨b,s,e,q⟩=>⟨b,s,(jj m m (oA h)).trans e,q⟩
 | .dj none _ _ _,_,_,r=>r
 | .dj (some (m,o)) _ _ _,_,h,⟨b,s,o',gp,e,q1,q2,q3,q4,q5⟩=>⟨b,s,o',gp,(jj m m (oA h)).trans e,q1,q2,q3,by rw[pG m m b s (oA h) e];exact q4,q5⟩
 | .map none,_,_,r=>r
 | .map (some m),_,h,⟨b,e,q⟩=>⟨b,(jj m m (oA h)).trans e,q⟩
 | .fn f a c,_,h,⟨f',a',c',rf,ra,rc,q⟩=>by
   simp only[V.still,aC]at h;refine⟨f',a',c',?_,qO jj pG kR a a' h.2.1 ra,qO jj pG kR c c' h.2.2 rc,q⟩;cases f with
   |yield m=>obtain⟨l,s,e,q2⟩:=rf;exact⟨l,s,(jj m m (oA h.1)).trans e,q2⟩
   |_=>exact rf
 | .kB,_,_,r=>r
 | .iface _ x,_,h,⟨x',r,q⟩=>⟨x',Ap jj pG kR x x' (by simpa only[V.still]using h) r,q⟩
 | .nilIface,_,_,r=>r
 | .agg C,_,h,⟨cs',r,q⟩=>⟨cs',qO jj pG kR C cs' (by simpa only[V.still]using h) r,q⟩
 | .ew C,_,h,⟨cs',r,q⟩=>⟨cs',qO jj pG kR C cs' (by simpa only[V.still]using h) r,q⟩
 | .dS _ _ _,_,_,r=>⟨kO kR _ _ r.1,r.2⟩
 | .dx C,_,_,⟨b,o,c,vs,e,e1,r,q⟩=>⟨b,o,c,vs,e,kR _ _ e1,iD kR _ _ r,q⟩
theorem qO{ν:Nat->Option Nat}{E E':Env}(jj:∀m k,ν m=some k->E'.ι k=E.ι m)(pG:∀m k b s,ν m=some k->E.ι m=some (b,s)->E'.β b=E.β b)(kR:∀b c,E.φ b=some c->E'.φ b=some c):∀(v:ag) (v':List Value),V.xY ν v=true->dL E v v'->dL E' v v'
 | [],_,_,r=>r
 |x::xs,_,h,⟨y,ys,r,D,q⟩=>by
  simp only[V.xY,aC]at h;exact⟨y,ys,Ap jj pG kR x y h.1 r,qO jj pG kR xs ys h.2 D,q⟩
end
section
variable{ν:Nat->Option Nat}{E E':Env}(jj:∀m k,ν m=some k->E'.ι k=E.ι m)(pG:∀m k b s,ν m=some k->E.ι m=some (b,s)->E'.β b=E.β b)(kR:∀b c,E.φ b=some c->E'.φ b=some c)
include jj pG kR
theorem BU{w:World}{b s:Nat}(hb:E'.β b=E.β b):∀(o o2:lf),o.rn ν=some o2->l7 E w b s o->l7 E' w b s o2
 | .cells C,o2,h,⟨c,el,fz,N,B,h3,h4⟩=>by
   simp only[lf.rn]at h;split at h
   . rename_i vw nX;obtain rfl:=ek h;refine⟨c,el,fz,N,by rw[hb];exact B,h3,?_⟩;have:∀(C vw:ag),V.y9 ν C=some vw->∀(s:Nat),mz E s C c->mz E' s vw c:=by
      intro C
      induction C with
      |nil=>intro vw h s r;simp only[V.y9,an]at h;subst h;intro i v e;simp at e
      |cons x xs ih=>
       intro vw h s r;simp only[V.y9]at h;split at h
       . rename_i x2 G;split at h
         . rename_i KI BD;obtain rfl:=ek h;intro i v e;cases i with
           |zero=>
            simp only[bI,an]at e;subst e;obtain⟨v',k1,k2⟩:=r 0 x (by simp);exact⟨v',k1,tJ jj pG kR _ _ _ G k2⟩
           |succ i=>
            simp only[cB]at e;obtain⟨v',k1,k2⟩:=ih KI BD (s+1) (fun j v e=>by
             obtain⟨v',k1,k2⟩:=r (j+1) v (by simpa using e);exact⟨v',by rw[<- k1];congr 1;omega,k2⟩) i v e
            exact⟨v',by rw[<- k1];congr 1;omega,k2⟩
         . cases h
       . cases h
     exact this C vw nX s h4
   . cases h
 | .map Q cl,o2,h,⟨hs,gj,N,B⟩=>by
   simp only[lf.rn]at h;split at h
   . rename_i uv Uc;obtain rfl:=ek h;exact⟨hs,gj,N,IB jj pG kR _ _ _ Uc B⟩
   . cases h
 | .nU st p,o2,h,r=>by simp only[lf.rn,an]at h;subst h;exact r
 | .ints k ks,o2,h,⟨c,el,fz,N,B,h3⟩=>by simp only[lf.rn,an]at h;subst h;exact⟨c,el,fz,N,by rw[hb];exact B,h3⟩
 | .own k ks,o2,h,⟨c,el,fz,N,B,h3,h4⟩=>by simp only[lf.rn,an]at h;subst h;exact⟨c,el,fz,N,by rw[hb];exact B,h3,xh h4⟩
 | .deep C,o2,h,⟨c,el,fz,vs,N,B,h3,h4,h5⟩=>by simp only[lf.rn,an]at h;subst h;exact⟨c,el,fz,vs,N,by rw[hb];exact B,h3,iD kR _ _ h4,h5⟩
 | .jf el AW t,o2,h,⟨c,fz,xs,N,h0,B,h3⟩=>by simp only[lf.rn,an]at h;subst h;exact⟨c,fz,xs,N,h0,by rw[hb];exact B,h3⟩
 | .AX t self x,o2,h,⟨hs,x',fz,N,B,h3,h4⟩=>by
   simp only[lf.rn]at h;split at h
   . rename_i x2 G;obtain rfl:=ek h;exact⟨hs,x',fz,N,by rw[hb];exact B,h3,tJ jj pG kR _ _ _ G h4⟩
   . cases h
 | .dI kk Q,o2,h,⟨hs,gj,cl,N,B⟩=>by simp only[lf.rn,an]at h;subst h;exact⟨hs,gj,cl,N,B.mono kR⟩
 | .mF,o2,h,r=>by simp only[lf.rn,an]at h;subst h;exact r
 | .loop st pe S ps a b',o2,h,⟨r,N,B,h3,h4,h5,h6,h7,h8⟩=>by
   simp only[lf.rn]at h;split at h
   . rename_i hs;obtain rfl:=ek h;exact⟨r,N,B,h3,h4,h5,h6,fun t v e=>let⟨v',k1,k2⟩:=h7 t v e;⟨v',k1,Ap jj pG kR v v' (vu S hs t v e) k2⟩,h8⟩
   . cases h
end
theorem Bi{ν:Nat->Option Nat}{o o2:lf}(h:o.rn ν=some o2):o2.wr=o.wr:=by
 cases o<;>simp only[lf.rn]at h<;>(try split at h)<;>first|(obtain rfl:=ek h;rfl)|cases h
def Gy:H V->List Nat->List Nat
 | .nil,l=>l
 | .node v a b,l=>(match v with|some v=>V.names v|none=>id) (Gy a (Gy b l))
def lf.nms:lf->List Nat
 | .loop _ _ S _ _ _=>Gy S []
 |o=>o.names
def MA(h:H lf):Nat->List Nat->H Nat->List Nat->Nat->Option (H Nat×List Nat×Nat)
 |0,_,_,_,_=>none
 |_+1,[],ρ,qh,k=>some (ρ,qh,k)
 |f+1,m::q,ρ,qh,k=>match ρ.get m with
  |some _=>MA h f q ρ qh k
  |none=>MA h f ((match h.get m with|some o=>o.nms|none=>[])++q) (ρ.set m (some k)) (m::qh) (k+1)
def ZS:Nat->H Nat
 |0=>.nil
 |k+1=>(ZS k).set k (some k)
def KJ:Nat->List Nat
 |0=>[]
 |k+1=>k::KJ k
def C0(h:H lf):Nat->List Nat->List Nat
 |0,l=>l
 |k+1,l=>(match h.get k with|some o=>o.nms|none=>[])++C0 h k l
def BV(ν:Nat->Option Nat):Nat->Bool
 |0=>true
 |k+1=>CZ ν k&&BV ν k
theorem zb{ν:Nat->Option Nat}:∀{k:Nat},BV ν k=true->∀m,m<k->ν m=some m
 |0,_,m,W=>by omega
 |k+1,h,m,W=>by
  simp only[BV,aC]at h;by_cases e:m=k
  . subst e;exact oA h.1
  . exact zb h.2 m K
def C2(ν:Nat->Option Nat)(h:H lf):List Nat->H lf->Option (H lf)
 | [],t=>some t
 |m::r,t=>match h.get m with
  |none=>C2 ν h r t
  |some o=>match ν m with
   |some k=>match o.rn ν with
    |some o2=>match Nat.blt k fP with
     |true=>C2 ν h r (t.set k (some o2))
     |false=>none
    |none=>none
   |none=>none
theorem tL{ν:Nat->Option Nat}{h:H lf}:∀(l:List Nat) (t t2:H lf),C2 ν h l t=some t2->(∀k o2,t.get k=some o2->∃m o,ν m=some k/\h.get m=some o/\o.rn ν=some o2)->
  ∀k o2,t2.get k=some o2->∃m o,ν m=some k/\h.get m=some o/\o.rn ν=some o2
 | [],t,t2,e,ht=>by simp only[C2,an]at e;subst e;exact ht
 |m::r,t,t2,e,ht=>by
  simp only[C2]at e;split at e
  . exact tL r t t2 e ht
  . rename_i o ho;split at e
    . rename_i k hk;split at e
      . rename_i o2 UR;split at e
        . rename_i fI;refine tL r _ t2 e fun j o3 h3=>?_;rw[H.eY _ _ _ (by simp[Nat.blt]at fI;omega)]at h3;split at h3
          . rename_i hj;obtain rfl:=ek h3;subst hj;exact⟨m,o,hk,ho,UR⟩
          . exact ht j o3 h3
        . cases e
      . cases e
    . cases e
def xZ(ν:Nat->Option Nat)(S:H V):List Nat->H V->Option (H V)
 | [],t=>some t
 |m::r,t=>match S.get m with
  |none=>xZ ν S r t
  |some v=>match v.rn ν with
   |some v2=>match Nat.blt m fP with
    |true=>xZ ν S r (t.set m (some v2))
    |false=>none
   |none=>none
theorem rJ{ν:Nat->Option Nat}{S:H V}:∀(l:List Nat) (t t2:H V),xZ ν S l t=some t2->(∀k v2,t.get k=some v2->∃v,S.get k=some v/\v.rn ν=some v2)->
  ∀k v2,t2.get k=some v2->∃v,S.get k=some v/\v.rn ν=some v2
 | [],t,t2,e,ht=>by simp only[xZ,an]at e;subst e;exact ht
 |m::r,t,t2,e,ht=>by
  simp only[xZ]at e;split at e
  . exact rJ r t t2 e ht
  . rename_i v hv;split at e
    . rename_i v2 hv2;split at e
      . rename_i fI;refine rJ r _ t2 e fun j o3 h3=>?_;rw[H.eY _ _ _ (by simp[Nat.blt]at fI;omega)]at h3;split at h3
        . rename_i hj;obtain rfl:=ek h3;subst hj;exact⟨v,hv,hv2⟩
        . exact ht j o3 h3
      . cases e
    . cases e
def Oi(ν:Nat->Option Nat):List (FuncId×ag×ag)->Option (List (FuncId×ag×ag))
 | []=>some []
 |(f,[],[.map (some m)])::r=>match Nat.beq f fP with
  |true=>match ν m with
   |some k=>match Oi ν r with
    |some r=>some ((fP,[],[.map (some k)])::r)
    |none=>none
   |none=>none
  |false=>none
 |_::_=>none
def C3:List (FuncId×ag×ag)->List Nat->List Nat
 |(_,_,[.map (some m)])::r,l=>m::C3 r l
 |_,l=>l
theorem C4{ν:Nat->Option Nat}{E E':Env}(jj:∀m k,ν m=some k->E'.ι k=E.ι m):∀(l l2:List (FuncId×ag×ag)) (ds:List Deferred),Oi ν l=some l2->xm E l ds->xm E' l2 ds
 | [],l2,ds,e,r=>by simp only[Oi,an]at e;subst e;exact r
 |(f,c,args)::r,l2,ds,e,h=>by
  unfold Oi at e;split at e
  . rename_i KK;cases KK
  . rename_i f' m r' KK;cases KK;split at e
    . rename_i hf;have hf:=aD hf;subst hf;split at e
      . rename_i k hk;split at e
        . rename_i r2 hr;obtain rfl:=ek e;obtain⟨d,ys,r1,r2',q⟩:=h;refine⟨d,ys,?_,C4 jj _ _ _ hr r2',q⟩;rcases r1 with⟨fI,_⟩|⟨_,m',b,s,q1,q2,q3⟩
          . exact absurd fI (cG _)
          . simp only[List.cons.injEq,V.map.injEq,an,and_true]at q1;subst q1;exact .inr ⟨rfl,k,b,s,rfl,(jj _ k hk).trans q2,q3⟩
        . cases e
      . cases e
    . cases e
  . cases e
def fa(M:Nat)(live:List Nat)(s:St):Option St:=
 match Nat.ble M s.n with
 |false=>none
 |true=>match MA s.h 100000 (C0 s.h M (sG s.S live++C3 s.gG [])) (ZS M) (KJ M) M with
  |some (ρ,qh,k)=>
   let ν:=dw ρ (xX qh k .nil) k
   match(BV ν M&&Nat.ble M k)&&Nat.ble gN M with
   |true=>match C2 ν s.h qh .nil with
    |some B=>match xZ ν s.S live .nil with
     |some xU=>match Oi ν s.gG with
      |some d2=>some { S:=xU,h:=B,n:=k,gG:=d2 }
      |none=>none
     |none=>none
    |none=>none
   |false=>none
  |none=>none
structure lM(M:Nat)(E:Env)(h:H lf)(w:World)(E':Env)(h':H lf)(w':World):Prop where
 le:∀m b s,m<M->E.ι m=some (b,s)->E'.ι m=some (b,s)/\E'.β b=E.β b
 low:∀m,m<M->E'.ι m=E.ι m
 fz:∀b c,E.φ b=some c->E'.φ b=some c
 good:Good E' h' w'
 size:w.heap.size<=w'.heap.size
 tape:w'.tape=w.tape
 os:w'.os=w.os
 output:w'.output=w.output
 keep:∀b,b<w.heap.size->(∀m s,eE h m->E.ι m≠some (b,s))->w'.heap[b]? =w.heap[b]?
 s9:∀m b s,h'.get m≠none->E'.ι m=some (b,s)->b<w.heap.size->∃m0 s0,h.get m0≠none/\E.ι m0=some (b,s0)/\(eE h' m->eE h m0)
 Ea:∀b c,E'.φ b=some c->E.φ b=some c\/w.heap.size<=b\/∃m s,eE h m/\E.ι m=some (b,s)
theorem lM.of{M n:Nat}{E E':Env}{h h':H lf}{w w':World}(u:iG E h w E' h' w')(fQ:∀m,m<n->E'.ι m=E.ι m)(hn:M<=n):lM M E h w E' h' w':=
 ⟨fun m b s _ e=>u.le.nm m b s e,fun m W=>fQ m K,u.le.fz,u.good,u.size,u.tape,u.os,u.output,u.keep,u.s9,u.Ea⟩
theorem lM.trans{M:Nat}{E E1 E2:Env}{h N B:H lf}{w w1 w2:World}(a:lM M E h w E1 N w1)(b:lM M E1 N w1 E2 B w2):lM M E h w E2 B w2 where
 le:=fun m x s W e=>by
  obtain⟨e1,b1⟩:=a.le m x s W e;obtain⟨e2,b2⟩:=b.le m x s W e1;exact⟨e2,b2.trans b1⟩
 low:=fun m W=>(b.low m W).trans (a.low m W)
 fz:=fun x c e=>b.fz x c (a.fz x c e)
 good:=b.good
 size:=bX a.size b.size
 tape:=b.tape.trans a.tape
 os:=b.os.trans a.os
 output:=b.output.trans a.output
 keep:=fun x G hn=>by
  rw[b.keep x (bF G a.size) ?_,a.keep x G hn];intro m s W e;obtain⟨m0,s0,_,e0,k0⟩:=a.s9 m x s W.live e G;exact hn m0 s0 (k0 W) e0
 s9:=fun m x s W e G=>by
  obtain⟨m1,s1,k1,e1,l1⟩:=b.s9 m x s W e (bF G a.size);obtain⟨m0,s0,k0,e0,l0⟩:=a.s9 m1 x s1 k1 e1 G;exact⟨m0,s0,k0,e0,fun q=>l0 (l1 q)⟩
 Ea:=fun x c I=>by
  rcases b.Ea x c I with q|q|⟨m,s,q1,q2⟩
  . exact a.Ea x c q
  . exact .inr (.inl (bX a.size q))
  . rcases bK x w.heap.size with G|G
    . obtain⟨m0,s0,_,e0,k0⟩:=a.s9 m x s q1.live q2 G;exact .inr (.inr ⟨m0,s0,k0 q1,e0⟩)
    . exact .inr (.inl G)
theorem lM.refl{M:Nat}{E:Env}{h:H lf}{w:World}(g:Good E h w):lM M E h w E h w:=
 .of (n:=M) (iG.refl g) (fun _ _=>rfl) (aA _)
theorem lM.qG{M:Nat}{E E':Env}{h h':H lf}{w w':World}(u:lM M E h w E' h' w')(hd:qH E M):iG E h w E' h' w':=
 ⟨⟨fun m b s e=>u.le m b s (by
  by_cases q:m<M
  . exact q
  . rw[hd m (Nat.le_of_not_lt q)]at e;cases e) e,u.fz⟩,u.good,u.size,u.tape,u.os,u.output,u.keep,u.s9,u.Ea⟩
theorem rK{M h1:Nat}{live:List Nat}{s s2:St}{E:Env}{a:Act}{w:World}(e:fa M live s=some s2)(r:kf E h1 s a w):M<=s.n/\M<=s2.n/\∃E2,kf E2 h1 s2 a w/\lM M E s.h w E2 s2.h w:=by
 unfold fa at e;split at e
 . cases e
 rename_i hn;split at e
 case h_2=>cases e
 rename_i ρ qh k ht;revert e;generalize aek:xX qh k .nil=back;intro e;simp only at e;split at e
 case h_2=>cases e
 rename_i fQ;simp only[aC]at fQ;split at e
 case h_2=>cases e
 rename_i B hh;split at e
 case h_2=>cases e
 rename_i xU yp;split at e
 case h_2=>cases e
 rename_i d2 Gt;simp only[an]at e;subst e
 let E2:Env:=⟨fun m=>if m<k then(match back.get m with|some old=>E.ι old|none=>none)else none,E.β,E.φ⟩
 have jj:∀m j,dw ρ back k m=some j->E2.ι j=E.ι m:=by
  intro m j hj;obtain⟨_,B,h3⟩:=Bh hj;show(if j<k then(match back.get j with|some old=>E.ι old|none=>none)else none)=_;rw[aH h3,B]
 have yQ:∀m,m<M->E2.ι m=E.ι m:=fun m W=>jj m m (zb fQ.1.1 m W);have Oa:=tL qh .nil B hh (fun j o hj=>by simp[H.get]at hj);have qN:Good E2 B w:=by
  refine⟨?_,?_,?_,fun p hp=>(yQ _ (bF (BT hp) (au fQ.2))).trans (r.good.jh p hp),fun b c q=>⟨(r.good.gQ b c q).1,fun m s1 W e1=>?_⟩⟩
  case refine_4=>
   obtain⟨o,ho,ZT⟩:=W;obtain⟨old,p,k1,k2,k3⟩:=Oa m o ho;rw[jj old m k1]at e1;exact(r.good.gQ b c q).2 old s1 ⟨p,k2,(Bi k3).symm.trans ZT⟩ e1
  . intro m o2 W;obtain⟨old,o,k1,k2,k3⟩:=Oa m o2 W;obtain⟨b,s',e1,e2⟩:=r.good.rel old o k2;exact⟨b,s',(jj old m k1).trans e1,BU jj (fun _ _ _ _ _ _=>rfl) (fun _ _ q=>q) rfl o o2 k3 e2⟩
  . intro m m' b s1 s2 fU W tr e1 e2;obtain⟨o,ho,ZT⟩:=W;obtain⟨o',Eo⟩:=bh.1 tr;obtain⟨old,p,k1,k2,k3⟩:=Oa m o ho;obtain⟨BE,p',UZ,k2',_⟩:=Oa m' o' Eo;rw[jj old m k1]at e1;rw[jj BE m' UZ]at e2;by_cases oT:old=BE
    . subst oT;rw[k1]at UZ;simp only[an]at UZ;exact fU UZ
    . exact r.good.inj old BE b s1 s2 oT ⟨p,k2,(Bi k3).symm.trans ZT⟩ (by rw[k2'];simp) e1 e2
  . intro m b s1 e1;have e1:(if m<k then(match back.get m with|some old=>E.ι old|none=>none)else none)=some (b,s1):=e1;split at e1
    . split at e1
      . exact r.good.mK _ b s1 e1
      . cases e1
    . cases e1
 refine⟨au hn,au fQ.1.2,E2,⟨qN,?_,?_,r.size,?_⟩,?_⟩
 . intro m W;show(if m<k then _ else none)=none;rw[aI (by show ¬m<k;have:k<=m:=W;omega)]
 . intro t v2 hv;obtain⟨v,k1,k2⟩:=rJ live .nil xU yp (fun j o hj=>by simp[H.get]at hj) t v2 hv;obtain⟨v',N,B⟩:=r.S t v k1;exact⟨v',N,tJ jj (fun _ _ _ _ _ _=>rfl) (fun _ _ q=>q) v v2 v' k2 B⟩
 . exact C4 jj _ _ _ Gt r.gG
 . refine⟨fun m b s1 W e1=>⟨(yQ m W).trans e1,rfl⟩,yQ,fun _ _ q=>q,qN,aA _,rfl,rfl,rfl,fun _ _ _=>rfl,?_,fun _ _ q=>.inl q⟩;intro m b s1 W e1 hb;obtain⟨o,ho⟩:=bh.1 W;obtain⟨old,p,k1,k2,k3⟩:=Oa m o ho;rw[jj old m k1]at e1;refine⟨old,s1,by rw[k2];simp,e1,fun⟨o',q1,q2⟩=>⟨p,k2,?_⟩⟩;rw[ho]at q1;cases q1;exact(Bi k3).symm.trans q2
def MB:Code->Bool | .seq _ _=>true|_=>false
def dP:Code->Code | .seq a _=>a|c=>c
def dY:Code->Code | .seq _ b=>b|c=>c
def QL(c:Code)(o:Operand->Bool):Bool:=match c with | .cond x _ _=>o x|_=>false
def Yr:Code->Operand | .cond c _ _=>c|_=>.const (.bool true)
def MC:Code->Code | .cond _ a _=>a|c=>c
def Ys:Code->Code | .cond _ _ b=>b|c=>c
def BW:Code->Nat->Bool | .block i _,j=>Nat.beq i j|_,_=>false
def C5:Code->Bool | .loop _=>true|_=>false
def dz:Code->Code | .block _ c=>c | .loop c=>c|c=>c
def eV:Nat->Code->Code
 |k+1,.seq a b=>.seq a (eV k b)
 |_,_=>.skip
def dh:Nat->Code->Code
 |k+1,.seq _ b=>dh k b
 |_,c=>c
def cQ(P:Program)(h1:Nat)(w0:World)(c:Code)(s:St)(es:Exit->St->Prop):Prop:=
 ∀(be:Exit->Act->World->Prop) (a:Act) (w:World),UY h1 w0 s a w->(∀y s' a' w',es y s'->UY h1 w0 s' a' w'->be y a' w')->c.wp P be a w
section
variable{P:Program}{cf:fT}{rt h1:Nat}{w0:World}{c:Code}{s s':St}{es Q1:Exit->St->Prop}
def andThen(nx:St->Prop)(es:Exit->St->Prop):Exit->St->Prop
 | .normal,s=>nx s
 |y,s=>es y s
def mY(i:Nat)(es:Exit->St->Prop):Exit->St->Prop
 | .exit j,s=>if j=i then es .normal s else es (.exit j) s
 |y,s=>es y s
def ov:List (Nat×V)->H V->H V
 | [],t=>t
 |x::r,t=>(ov r t).set x.1 (some x.2)
def St.over(s:St)(l:List (Nat×V)):St:={ s with S:=ov l s.S }
def H.beq{α:Type}(eq:α->α->Bool):H α->H α->Bool
 | .nil,.nil=>true
 | .node a l r,.node b l' r'=>(match a,b with|none,none=>true|some a,some b=>eq a b|_,_=>false)&&(H.beq eq l l'&&H.beq eq r r')
 |_,_=>false
theorem H.beq_eq{α:Type}{eq:α->α->Bool}(h:∀a b,eq a b=true->a=b):∀(t u:H α),H.beq eq t u=true->t=u
 | .nil,.nil,_=>rfl
 | .nil,.node _ _ _,e=>by simp[H.beq]at e
 | .node _ _ _,.nil,e=>by simp[H.beq]at e
 | .node a l r,.node b l' r',e=>by
   simp only[H.beq,aC]at e;rw[H.beq_eq h l l' e.2.1,H.beq_eq h r r' e.2.2];cases a<;>cases b<;>first|rfl|(simp at e;done)|skip
   rw[h _ _ e.1]
def wD:List (V×V×Nat)->List (V×V×Nat)->Bool
 | [],[]=>true
 |x::xs,y::ys=>(V.beq x.1 y.1&&V.beq x.2.1 y.2.1)&&(Nat.beq x.2.2 y.2.2&&wD xs ys)
 |_,_=>false
theorem C6:∀(a b:List (V×V×Nat)),wD a b=true->a=b
 | [],[],_=>rfl
 | [],_::_,h=>by simp[wD]at h
 |_::_,[],h=>by simp[wD]at h
 |(k,v,n)::xs,(k',v',n')::ys,h=>by
  simp only[wD,aC]at h;rw[beq_eq _ _ h.1.1,beq_eq _ _ h.1.2,aD h.2.1,C6 xs ys h.2.2]
def lf.beq:lf->lf->Bool
 | .cells a,.cells b=>V.p9 a b
 | .map a c,.map b d=>wD a b&&Nat.beq c d
 | .nU a p,.nU b q=>eJ a b&&Nat.beq p q
 | .ints k a,.ints j b=>decide (k=j)&&decide (a=b)
 |_,_=>false
theorem lf.beq_eq(a b:lf)(h:lf.beq a b=true):a=b:=by
 cases a<;>cases b<;>simp only[lf.beq,aO,aC]at h
 . rw[tG _ _ h]
 . rw[C6 _ _ h.1,aD h.2]
 . rw[fV]at h;rw[eq_of_beq h.1,aD h.2]
 . rw[aE h.1,aE h.2]
def St.beq(a b:St):Bool:=H.beq V.beq a.S b.S&&(H.beq lf.beq a.h b.h&&(Nat.beq a.n b.n&&(a.gG.isEmpty&&b.gG.isEmpty)))
theorem St.beq_eq{a b:St}(h:St.beq a b=true):a=b:=by
 simp only[St.beq,aC,List.isEmpty_iff]at h;obtain⟨N,B,h3,h4,h5⟩:=h;have e1:=H.beq_eq Go.Eng.beq_eq _ _ N;have e2:=H.beq_eq lf.beq_eq _ _ B;have e3:=aD h3;cases a;cases b;simp_all
def St.cell(s:St)(m i:Nat)(v:V):St:=match s.h.get m with
 |some (.cells C)=>match Nat.blt m fP with
  |true=>{ s with h:=s.h.set m (some (.cells (C.set i v))) }
  |false=>s
 |_=>s
end
mutual
def V.rL:V->Bool
 | .fn (.func _) a c=>V.qP a&&V.qP c
 | .fn _ _ _=>false
 | .iface _ x=>V.rL x
 | .agg C=>V.qP C
 | .ew C=>V.qP C
 |_=>true
def V.qP:ag->Bool
 | []=>true
 |x::xs=>V.rL x&&V.qP xs
end
mutual
theorem V.beq_refl:∀v:V,v.rL=true->V.beq v v=true
 | .bool b,_=>by cases b<;>rfl
 | .int k n,_=>by simp[V.beq]
 | .str s,_=>by simp[V.beq,fV]
 | .ptr none,_=>rfl
 | .ptr (some (m,o)),_=>by simp[V.beq,rz]
 | .dj none l c e,_=>by simp[V.beq,rz]
 | .dj (some (m,o)) l c e,_=>by simp[V.beq,rz]
 | .map none,_=>rfl
 | .map (some m),_=>by simp[V.beq,F3]
 | .fn f a c,h=>by
   cases f<;>simp only[V.rL,aO,aC]at h;simp[V.beq,PW,V.sH a h.1,V.sH c h.2]
 | .kB,_=>rfl
 | .iface t x,h=>by simp only[V.rL]at h;simp[V.beq,V.beq_refl x h]
 | .nilIface,_=>rfl
 | .agg C,h=>by simp only[V.rL]at h;simp[V.beq,V.sH C h]
 | .ew C,h=>by simp only[V.rL]at h;simp[V.beq,V.sH C h]
 | .dS f n C,_=>by simp[V.beq,qJ C]
 | .dx C,_=>by simp[V.beq,qJ C]
theorem V.sH:∀vs:ag,V.qP vs=true->V.p9 vs vs=true
 | [],_=>rfl
 |x::xs,h=>by simp only[V.qP,aC]at h;simp[V.p9,V.beq_refl x h.1,V.sH xs h.2]
end
inductive Ob where
 |same (a b:V)
 |call (f:FuncId) (args:ag) (v:V)
def Ob.ok(cf:fT):Ob->Prop
 | .same a b=>a=b
 | .call f args v=>∀h n,cf f args h n=some (.ret v,h,n)
def ai7(f:FuncId)(cf:fT):fT:=fun g args h n=>match Nat.beq g f with
 |true=>none
 |false=>cf g args h n
end Go.Eng
