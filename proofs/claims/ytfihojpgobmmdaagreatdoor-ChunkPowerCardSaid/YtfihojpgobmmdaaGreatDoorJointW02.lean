/- Lemmas of the engine. No conditions. -/
import Derived.Test.YtfihojpgobmmdaaGreatDoorJointW01
import Derived.OrdersIn
import Derived.Recover
import Derived.LoopN
import Derived.LoopNIn
import Derived.RangeFuncRecord
import Derived.RangeFuncIn
import Derived.RangeFuncLeaves
import Derived.Below
set_option linter.unusedVariables false
set_option linter.unusedSimpArgs false
set_option linter.unusedSectionVars false
namespace Go.Eng
open Go
section
variable{P:Program}{cf:ga}{ops:Array Oper}{I rt l5:Nat}{h0:H rs}{kH:H V}{val:Nat->V}{dF:List x7}{d:Dr}{E0:Env}{w0:World}{BW:List Deferred}
variable{fr:Nat->Bool}{ms hc:Nat}{E:Env}{a:Act}{w:World}{cs:Exit->Act->World->Prop}{hL:Act->World->Prop}
theorem Inv.aan{c9:af}(n0:Inv ops I rt l5 h0 kH val dF c9 E0 w0 BW fr ms hc E a w)(hl:l5<=ops.size):rL E (eF h0 (I+ops.size) dF hc).2.2:=by
 intro k hk;cases q:E.ι k with
 |none=>rfl
 |some p=>
  have J:=n0.zu;rcases n0.oI k p q with h|⟨i,b,_,h2,h3⟩|h
  . omega
  . have:=n0.VC i h2;omega
  . omega
theorem Inv.sub(_hr:nk ops rt)(hl:l5<=ops.size)(f:pn P cf ops I h0 kH val dF l5 d)(ht:∀y∈d.c9,I+y.1<fW)(n0:Inv ops I rt l5 h0 kH val dF d.c9 E0 w0 BW fr ms hc E a w)
  {iy:Nat} (ha:∀k,eu iy k=true->fr k=true):
  Sub (gV I d.c9 (eF h0 (I+ops.size) dF hc).1 (eF h0 (I+ops.size) dF hc).2.1 iy) (gV I d.c9 (eF h0 (I+ops.size) dF hc).1 (eF h0 (I+ops.size) dF hc).2.1 ms):=by
 intro k o hk;rcases jB (x:=(eF h0 (I+ops.size) dF hc).2.1) (m:=(eF h0 (I+ops.size) dF hc).1) (iy:=iy) ht f.one k with⟨i,b,X,h2,h3,h4,h5⟩|⟨X,h2⟩
 . rw[h5]at hk;cases hk;subst h4;exact jV ht f.one X (by rw[n0.bits];exact ha i h2) h3
 . rw[h2]at hk;rcases jB (x:=(eF h0 (I+ops.size) dF hc).2.1) (m:=(eF h0 (I+ops.size) dF hc).1) (iy:=ms) ht f.one k with⟨i,b,g1,g2,g3,g4,g5⟩|⟨g1,g2⟩
   . subst g4;have hi:=n0.VC i (by rw[<- n0.bits];exact g2);rw[n0.free i L g3]at hk;cases hk
   . rw[g2];exact hk
theorem nO(hb:∀i,eu ms i=fr i)(j:Nat):∀i,eu (ms|||2^j) i=(fr i||decide (i=j)):=by
 intro i;rw[Az,C2,hb];by_cases q:i=j
 . subst q;simp
 . have:¬j=i:=fun e=>q e.symm;simp[q,this]
theorem Inv.quiet(hr:nk ops rt)(_hl:l5<=ops.size)(_f:pn P cf ops I h0 kH val dF l5 d)(n0:Inv ops I rt l5 h0 kH val dF d.c9 E0 w0 BW fr ms hc E a w)
  {j:Nat} {o:Oper} (ho:ops[j]? =some o) (hj:j<l5) (Bq:fr j=false) (hd:∀e∈o.after,Region.binds .any e=true->fr e.on=true) (C6:∀(c:Nat) (e:x7),dF[c]? =some e->e.1≠j)
  {E':Env} {w':World} {v':Value} (hv:dJ E' (val j) v') (hu:iI E0 h0 w0 E' (gV I d.c9 (eF h0 (I+ops.size) dF hc).1 (eF h0 (I+ops.size) dF hc).2.1 (ms|||2^j)) w') (kR:E.le E')
  (pb:∀k,k<I->E'.ι k=E.ι k) (sP:∀k p,E'.ι k=some p->E.ι k=some p\/(∃b,(j,b)∈d.c9/\k=I+j)):
  Inv ops I rt l5 h0 kH val dF d.c9 E0 w0 BW (fun i=>fr i||decide (i=j)) (ms|||2^j) hc E' (a.put o.dst v') w':=by
 obtain⟨g1,g2⟩:=n0.frame hr ho kR hv;refine⟨nO n0.bits j,fun i hi=>?_,fun i q hi hq e he hb=>?_,fun c e he=>?_,n0.Jle,g1,g2,hu,fun k hk=>by rw[pb k hk];exact n0.old k hk,fun k p hp=>?_,n0.free,n0.zu,by rw[iR];exact n0.size,by rw[gF];exact n0.gD⟩
 . rcases bV _ _ |>.mp hi with h|h
   . exact n0.VC i h
   . simp at h;omega
 . rcases bV _ _ |>.mp hi with h|h
   . rw[n0.closed i q h hq e he hb];rfl
   . simp at h;subst h;rw[ho]at hq;cases hq;rw[hd e he hb];rfl
 . rw[<- n0.GU c e he];simp[C6 c e he]
 . rcases sP k p hp with h|⟨b,X,h2⟩
   . rcases n0.oI k p h with h|⟨i,b,X,h2,h3⟩|h
     . exact .inl h
     . exact .inr (.inl ⟨i,b,X,by rw[h2];rfl,h3⟩)
     . exact .inr (.inr h)
   . exact .inr (.inl ⟨j,b,X,by simp,h2⟩)
theorem Inv.ae5(hr:nk ops rt)(hl:l5<=ops.size)(f:pn P cf ops I h0 kH val dF l5 d)(ht:∀y∈d.c9,I+y.1<fW)(n0:Inv ops I rt l5 h0 kH val dF d.c9 E0 w0 BW fr ms hc E a w)
  {iy:Nat} (ha:∀k,eu iy k=true->fr k=true) (W:∀k,eu (eF h0 (I+ops.size) dF hc).1 k=true->eu iy k=true) {E':Env} {h:H rs} {w':World}
  (hu:iI E (gV I d.c9 (eF h0 (I+ops.size) dF hc).1 (eF h0 (I+ops.size) dF hc).2.1 iy) w E' h w') (fT:∀k,k<(eF h0 (I+ops.size) dF hc).2.2->E'.ι k=E.ι k):
  ∀i,i<ops.size->eu iy i=false->h.get (I+i)=none:=by
 intro i hi OU;cases q:h.get (I+i)with
 |none=>rfl
 |some o=>
  exfalso;obtain⟨b,s,X,_⟩:=hu.good.rel _ o q;have fH:I+i<(eF h0 (I+ops.size) dF hc).2.2:=by have:=n0.zu;omega
  have hE:=X;rw[fT _ fH]at hE;have hmi:eu (eF h0 (I+ops.size) dF hc).1 i=false:=by
   cases c:eu (eF h0 (I+ops.size) dF hc).1 i with
   |false=>rfl
   |true=>rw[W i c]at OU;cases OU
  rcases n0.oI _ _ hE with c|⟨i',b',k1,k2,k3⟩|c
  . omega
  . have:i'=i:=by omega
    subst this;have iJ:(gV I d.c9 (eF h0 (I+ops.size) dF hc).1 (eF h0 (I+ops.size) dF hc).2.1 ms).get (I+i')=some b':=jV ht f.one k1 (by rw[n0.bits];exact k2) hmi;obtain⟨m0,s0,a1,a2,_⟩:=hu.uF (I+i') b s (by rw[q];simp) X (n0.qT.good.ny _ _ _ hE);have M:(gV I d.c9 (eF h0 (I+ops.size) dF hc).1 (eF h0 (I+ops.size) dF hc).2.1 iy).get (I+i')=none:=by
     rcases jB (x:=(eF h0 (I+ops.size) dF hc).2.1) (m:=(eF h0 (I+ops.size) dF hc).1) (iy:=iy) ht f.one (I+i')with⟨i2,b2,g1,g2,g3,g4,g5⟩|⟨g1,g2⟩
     . have:i2=i':=by omega
       subst this;rw[OU]at g2;cases g2
     . rw[g2];exact n0.free i' hi hmi
    have fS:m0≠I+i':=by intro e;subst e;exact a1 M
    have hwr:b'.wr=true:=by
     obtain⟨S,_,_,_,_,q,_⟩:=f.Cc i' _ b' k1 (bq hi);exact q
    refine n0.qT.good.inj (I+i') m0 b s s0 (fun q=>fS q.symm) ⟨b',iJ,hwr⟩ ?_ hE a2;cases c:(gV I d.c9 (eF h0 (I+ops.size) dF hc).1 (eF h0 (I+ops.size) dF hc).2.1 iy).get m0 with
    |none=>exact absurd c a1
    |some o'=>rw[n0.sub hr hl f ht ha m0 o' c];simp
  . omega
theorem Inv.effect(hr:nk ops rt)(hl:l5<=ops.size)(f:pn P cf ops I h0 kH val dF l5 d)(ht:∀y∈d.c9,I+y.1<fW)(n0:Inv ops I rt l5 h0 kH val dF d.c9 E0 w0 BW fr ms hc E a w)
  {j:Nat} {o:Oper} (ho:ops[j]? =some o) (hj:j<l5) (Bq:fr j=false) (hd:∀e∈o.after,Region.binds .any e=true->fr e.on=true) (rV:∀b,(j,b)∉d.c9)
  {h:H rs} {n:Nat} (he:dF[hc]? =some (j,mG ops j,h,n)) {E':Env} {w':World} {v':Value} (hv:dJ E' (val j) v')
  (hu:iI E (gV I d.c9 (eF h0 (I+ops.size) dF hc).1 (eF h0 (I+ops.size) dF hc).2.1 (mG ops j)) w E' h w')
  (fT:∀k,k<(eF h0 (I+ops.size) dF hc).2.2->E'.ι k=E.ι k) (sP:rL E' n) (hn:(eF h0 (I+ops.size) dF hc).2.2<=n):
  Inv ops I rt l5 h0 kH val dF d.c9 E0 w0 BW (fun i=>fr i||decide (i=j)) (ms|||2^j) (hc+1) E' (a.put o.dst v') w':=by
 have hJ:hc<dF.length:=(aH.1 he).1;have kL:eF h0 (I+ops.size) dF (hc+1)=(mG ops j,h,n):=by simp only[eF,he]
 have BV:∀k,eu (mG ops j) k=true->fr k=true:=fun k hk=>wQ hr n0.closed ho hd hk;have W:∀k,eu (eF h0 (I+ops.size) dF hc).1 k=true->eu (mG ops j) k=true:=by
  intro k hk;cases hc with
  |zero=>simp[eF,kM]at hk
  |succ c=>
   have J:dF[c]? =some (dF[c]'(by omega)):=az L;simp only[eF,J]at hk;obtain⟨_,o',_,_,h3⟩:=f.vD c _ J;rw[h3]at hk;exact Fy hr.zn j _ k (f.chain (c+1) c _ _ L he J) hk
 have YR:=n0.ae5 hr hl f ht BV W hu fT;obtain⟨g1,g2⟩:=n0.frame hr ho hu.le hv;have J:=n0.zu;refine⟨nO n0.bits j,fun i hi=>?_,fun i q hi hq e BU hb=>?_,fun c e BU=>?_,hJ,g1,g2,?_,fun k hk=>?_,fun k p hp=>?_,?_,?_,by rw[iR];exact n0.size,by rw[gF];exact n0.gD⟩
 . rcases bV _ _ |>.mp hi with h|h
   . exact n0.VC i h
   . simp at h;omega
 . rcases bV _ _ |>.mp hi with h|h
   . rw[n0.closed i q h hq e BU hb];rfl
   . simp at h;subst h;rw[ho]at hq;cases hq;rw[hd e BU hb];rfl
 . have X:=n0.GU c e BU;constructor
   . intro hs;rcases bV _ _ |>.mp hs with q|q
     . have:=X.1 q;omega
     . simp at q;by_cases hcJ:c<hc+1
       . exact hcJ
       . have:=f.chain c hc e _ L BU he;simp only at this;rw[q]at this;have:=KV hr.zn j j this;omega
   . intro wO;by_cases q:c<hc
     . rw[X.2 q];rfl
     . have:c=hc:=by omega
       subst this;rw[he]at BU;cases BU;simp
 . rw[kL];refine n0.qT.trans (iI.frame n0.qT.good (n0.sub hr hl f ht BV) hu fun k=>?_);rcases jB (x:=h) (m:=mG ops j) (iy:=ms|||2^j) ht f.one k with⟨i,b,k1,k2,k3,k4,k5⟩|⟨k1,k2⟩
   . simp only[k5];subst k4;have hi:fr i=true:=by
      rw[nO n0.bits]at k2;rcases bV _ _ |>.mp k2 with q|q
      . exact q
      . simp at q;subst q;exact absurd k1 (rV b)
     have hmi:eu (eF h0 (I+ops.size) dF hc).1 i=false:=by
      cases c:eu (eF h0 (I+ops.size) dF hc).1 i with
      |false=>rfl
      |true=>rw[W i c]at k3;cases k3
     have kS:i<ops.size:=by have:=n0.VC i hi;omega
     rw[YR i kS k3];have M:(gV I d.c9 (eF h0 (I+ops.size) dF hc).1 (eF h0 (I+ops.size) dF hc).2.1 (mG ops j)).get (I+i)=none:=by
      rcases jB (x:=(eF h0 (I+ops.size) dF hc).2.1) (m:=(eF h0 (I+ops.size) dF hc).1) (iy:=mG ops j) ht f.one (I+i)with⟨i2,b2,q1,q2,q3,q4,q5⟩|⟨q1,q2⟩
      . have:i2=i:=by omega
        subst this;rw[k3]at q2;cases q2
      . rw[q2];exact n0.free i kS hmi
     simp only[M,if_true];rw[jV ht f.one k1 (by rw[n0.bits];exact hi) hmi]
   . rw[k2];cases hk:h.get k with
     |some o'=>rfl
     |none=>
      simp only;split
      . rename_i M;rcases jB (x:=(eF h0 (I+ops.size) dF hc).2.1) (m:=(eF h0 (I+ops.size) dF hc).1) (iy:=ms) ht f.one k with⟨i,b,q1,q2,q3,q4,q5⟩|⟨q1,q2⟩
        . exfalso;subst q4;cases c:eu (mG ops j) i with
          |false=>exact k1 i b q1 (by rw[nO n0.bits];rw[n0.bits]at q2;rw[q2];rfl) c rfl
          |true=>
           rw[jV ht f.one q1 c q3]at M;cases M
        . rw[q2];rcases jB (x:=(eF h0 (I+ops.size) dF hc).2.1) (m:=(eF h0 (I+ops.size) dF hc).1) (iy:=mG ops j) ht f.one k with⟨i,b,r1,r2,r3,r4,r5⟩|⟨r1,r2⟩
          . rw[r5]at M;cases M
          . rw[r2]at M;exact M.symm
      . rfl
 . rw[fT k L];exact n0.old k hk
 . by_cases q:k<(eF h0 (I+ops.size) dF hc).2.2
   . rw[fT k q]at hp;rcases n0.oI k p hp with h|⟨i,b,X,h2,h3⟩|h
     . exact .inl h
     . exact .inr (.inl ⟨i,b,X,by rw[h2];rfl,h3⟩)
     . rw[kL];exact .inr (.inr ⟨h.1,by show k<n;omega⟩)
   . rw[kL];refine .inr (.inr ⟨L,?_⟩);by_cases q2:k<n
     . exact q2
     . rw[sP k L]at hp;cases hp
 . rw[kL];exact fun i hi hb=>YR i hi hb
 . rw[kL];simp only;omega
end
section
variable{P:Program}{cf:ga}{ops:Array Oper}{I rt l5:Nat}{h0:H rs}{kH:H V}{val:Nat->V}{dF:List x7}{d:Dr}{E0:Env}{w0:World}{BW:List Deferred}
variable{fr:Nat->Bool}{ms hc:Nat}{E:Env}{a:Act}{w:World}{cs:Exit->Act->World->Prop}{hL:Act->World->Prop}{vA:Option Nat}
theorem Inv.step(pg:jt P cf)(hr:nk ops rt)(hl:l5<=ops.size)(f:pn P cf ops I h0 kH val dF l5 d)(ht:∀y∈d.c9,I+y.1<fW)(n0:Inv ops I rt l5 h0 kH val dF d.c9 E0 w0 BW fr ms hc E a w)
  {j:Nat} {o:Oper} (ho:ops[j]? =some o) (hj:j<l5) (Bq:fr j=false) (hd:∀e∈o.after,Region.binds .any e=true->fr e.on=true)
  (hk:∀J' E' a' w',Inv ops I rt l5 h0 kH val dF d.c9 E0 w0 BW (fun i=>fr i||decide (i=j)) (ms|||2^j) J' E' a' w'->hL a' w'):wpOpIn (fz vA) 0 P ops cs j hL a w:=by
 have hjs:j<ops.size:=by omega
 have BV:∀k,eu (mG ops j) k=true->fr k=true:=fun k hk=>wQ hr n0.closed ho hd hk;have hmj:eu (eF h0 (I+ops.size) dF hc).1 j=false:=by
  cases c:eu (eF h0 (I+ops.size) dF hc).1 j with
  |false=>rfl
  |true=>rw[n0.ae4 hr f c]at Bq;cases Bq
 have vp:E.ι (I+j)=none:=by
  cases q:E.ι (I+j)with
  |none=>rfl
  |some p=>
   rcases n0.oI _ p q with h|⟨i,b,_,h2,h3⟩|h
   . omega
   . have:i=j:=by omega
     subst this;rw[Bq]at h2;cases h2
   . omega
 have YS:(∀b,(j,b)∉d.c9)->∀k,(gV I d.c9 (eF h0 (I+ops.size) dF hc).1 (eF h0 (I+ops.size) dF hc).2.1 (ms|||2^j)).get k=
   (gV I d.c9 (eF h0 (I+ops.size) dF hc).1 (eF h0 (I+ops.size) dF hc).2.1 ms).get k:=by
  intro rV k;rcases jB (x:=(eF h0 (I+ops.size) dF hc).2.1) (m:=(eF h0 (I+ops.size) dF hc).1) (iy:=ms|||2^j) ht f.one k with⟨i,b,k1,k2,k3,k4,k5⟩|⟨k1,k2⟩
  . subst k4;rw[k5,jV ht f.one k1 ?_ k3];rw[nO n0.bits]at k2;rcases bV _ _ |>.mp k2 with q|q
    . rw[n0.bits];exact q
    . simp at q;subst q;exact absurd k1 (rV b)
  . rw[k2,qW ht fun i b q1 q2 q3=>k1 i b q1 (by rw[nO n0.bits];rw[n0.bits]at q2;rw[q2];rfl) q3]
 unfold wpOpIn;simp only[ho];by_cases hal:∃b,(j,b)∈d.c9
 ·
  obtain⟨b,hb⟩:=hal;obtain⟨S,f1,f2,f3,f4,f6,f5⟩:=f.Cc j o b hb ho;rw[aF (n0.wanted hr ho Bq hd f1 f2)];refine(CZ n0.qT.good vp (n0.vj hr ho Bq hd f1) (f5 _) fun E' w' v' q1 q2 q3 _=>hk hc E' _ w' ?_);refine n0.quiet hr hl f ho hj Bq hd (fun c e he fS=>?_) q1 ?_ q2.le (fun k hk=>q3 k L) (fun k p hp=>?_)
  . obtain⟨_,o',X,h2,_⟩:=f.vD c e he;rw[fS,ho]at X;cases X;rw[f3]at h2;cases h2
  . refine n0.qT.trans (q2.ext fun k=>?_);by_cases YT:k=I+j
    . subst YT;rw[H.nE _ _ f4,jV ht f.one hb (by rw[nO n0.bits];simp) hmj]
    . rw[H.qN _ _ f4 YT];rcases jB (x:=(eF h0 (I+ops.size) dF hc).2.1) (m:=(eF h0 (I+ops.size) dF hc).1) (iy:=ms|||2^j) ht f.one k with⟨i,b',k1,k2,k3,k4,k5⟩|⟨k1,k2⟩
      . subst k4;rw[k5,jV ht f.one k1 ?_ k3];rw[nO n0.bits]at k2;rcases bV _ _ |>.mp k2 with q|q
        . rw[n0.bits];exact q
        . simp at q;subst q;exact absurd rfl YT
      . rw[k2,qW ht fun i b q1 q2 q3=>k1 i b q1 (by rw[nO n0.bits];rw[n0.bits]at q2;rw[q2];rfl) q3]
  . by_cases YT:k=I+j
    . exact .inr ⟨b,hb,YT⟩
    . rw[q3 k YT]at hp;exact .inl hp
 . have rV:∀b,(j,b)∉d.c9:=fun b q=>hal ⟨b,q⟩;obtain⟨S,f1,f2⟩:=f.aai j o hj ho;have look:iL ops o S=some true->rR o.op=false->dH P o S (gV I d.c9 (eF h0 (I+ops.size) dF hc).1 (eF h0 (I+ops.size) dF hc).2.1 ms) (I+j)=
     some (.val (val j) (gV I d.c9 (eF h0 (I+ops.size) dF hc).1 (eF h0 (I+ops.size) dF hc).2.1 ms) (I+j))->
     (if Region.wanted o (yielded ops a.tmps)=true then o.wpIn (fz vA) 0 P a w hL cs else(∀f,o.about P w a.eval=some f->(fz vA).fn f)/\hL (a.put o.dst undef) w):=by
    intro hw fS hs;rw[aF (n0.wanted hr ho Bq hd f1 hw)];refine(CZ n0.qT.good vp (n0.vj hr ho Bq hd f1) hs fun E' w' v' q1 q2 q3 q4=>hk hc E' _ w' ?_);rcases q4 with⟨_,rfl⟩|q4
    . refine n0.quiet hr hl f ho hj Bq hd (fun c e he VD=>?_) q1 (n0.qT.trans (q2.ext (YS rV))) q2.le (fun _ _=>rfl) (fun _ _ hp=>.inl hp);obtain⟨_,o',X,h2,_⟩:=f.vD c e he;rw[VD,ho]at X;cases X;rw[fS]at h2;cases h2
    . omega
   rcases f2 with⟨hw,hv⟩|⟨_,_,b,q3,_⟩|⟨hw,fS,sA⟩|⟨hw,fS,yc,ae7⟩|⟨hw,C6,c,h,n,J,fU⟩
   ·
    rw[aJ (by rw[n0.wanted hr ho Bq hd f1 hw];simp)];refine⟨fun _ _=>trivial,?_⟩;refine hk hc E _ w (n0.quiet (v':=undef) hr hl f ho hj Bq hd (fun c e he VD=>?_) (by rw[hv];exact⟨[],rfl,rfl⟩) (n0.qT.ext (YS rV)) E.le_refl (fun _ _=>rfl) (fun _ _ hp=>.inl hp));have Fq:=n0.wanted hr ho Bq hd f1 hw;have YQ:=f.AB c e o he (by rw[VD];exact ho);obtain⟨YU,g3,g4⟩:=YQ;rw[VD]at g3;have Qo:=n0.wanted hr ho Bq hd g3 g4;rw[Fq]at Qo;cases Qo
   . exact absurd q3 (rV b)
   . exact look hw fS (sA _)
   . have c1:∀(c':Nat) (e:x7),hc<=c'->dF[c']? =some e->eu (mG ops j) e.1=false:=by
      intro c' e wO he;cases q:eu (mG ops j) e.1 with
      |false=>rfl
      |true=>have:=(n0.GU c' e he).1 (BV _ q);omega
     have c2:∀(c':Nat) (e:x7),c'<hc->dF[c']? =some e->eu e.2.1 j=false:=by
      intro c' e wO he;obtain⟨_,o',_,_,h3⟩:=f.vD c' e he;cases q:eu e.2.1 j with
      |false=>rfl
      |true=>
       rw[h3]at q;rw[n0.iy hr ((n0.GU c' e he).2 wO) q]at Bq;cases Bq
     obtain⟨y,hy⟩:=ae7 hc n0.Jle c1 c2;rcases _root_.Go.Eng.quiet fS hy with⟨u,X,h2⟩|⟨u,b,X,h2,h3⟩
     . cases X;exact look hw fS (h2 _ (n0.sub hr hl f ht BV))
     . simp only[nx.val.injEq]at h2;omega
   ·
    have hcJ:c=hc:=by
     have X:¬c<hc:=by
      intro q;have:=(n0.GU c _ J).2 q;simp only at this;rw[Bq]at this;cases this
     by_cases q:hc<c
     . have hJl:hc<dF.length:=by have:=(aH.1 J).1;omega
       have he:dF[hc]? =some dF[hc]:=az hJl;have:=f.chain c hc _ _ q J he;have:=(n0.GU hc _ he).1 (BV _ this);omega
     . omega
    subst hcJ;rw[aF (n0.wanted hr ho Bq hd f1 hw)];have FC:=n0.qT.good.sub (n0.sub hr hl f ht BV);have FD:=n0.aan hl;simp only at fU;rcases fU with hs|⟨g,args,hs,Re⟩
    . refine CZ FC (FD _ (aC _)) (n0.vj hr ho Bq hd f1) hs fun E' w' v' q1 q2 q3 q4=>hk (c+1) E' _ w' ?_;refine n0.effect hr hl f ht ho hj Bq hd rV J q1 q2 (fun k hk=>q3 k L) ?_ ?_
      . rcases q4 with⟨rfl,rfl⟩|rfl
        . exact FD
        . intro k hk;rw[q3 k L];exact FD k L
      . rcases q4 with⟨rfl,_⟩|rfl<;>omega
    . refine Ca pg FC FD (n0.vj hr ho Bq hd f1) hs Re fun E' w' q2 q3 q4 q5=>?_;intro v' q1;exact hk (c+1) E' _ w' (n0.effect hr hl f ht ho hj Bq hd rV J q1 q2 q3 q4 q5)
end
theorem filter_lt{α:Type}{p q:α->Bool}{x:α}:∀{l:List α},x∈l->p x=true->q x=false->(∀y,q y=true->p y=true)->(l.filter q).length<(l.filter p).length
 | [],h,_,_,_=>by simp at h
 |y::l,h,hp,hq,W=>by
  have kR:(l.filter q).length<=(l.filter p).length:=by
   clear h
   induction l with
   |nil=>simp
   |cons z l ih=>
    simp only[List.filter_cons];by_cases c:q z=true
    . rw[aF c,aF (W z c)];simp;exact ih
    . rw[aJ c];by_cases c2:p z=true
      . rw[aF c2];simp;omega
      . rw[aJ c2];exact ih
  simp only[List.filter_cons];rcases aD.1 h with rfl|h
  . rw[aF hp,aJ (by rw[hq];simp)];simp;omega
  . have ih:=filter_lt h hp hq W;by_cases c:q y=true
    . rw[aF c,aF (W y c)];simp;exact ih
    . rw[aJ c];by_cases c2:p y=true
      . rw[aF c2];simp;omega
      . rw[aJ c2];exact ih
def unl(n:Nat)(gU:Array Bool):Nat:=((List.range n).filter fun i=>!gU.getD i false).length
theorem AD{gU:Array Bool}{j:Nat}(hj:j<gU.size)(i:Nat):(gU.setIfInBounds j true).getD i false=(gU.getD i false||decide (i=j)):=by
 simp only[ck,Array.getElem?_setIfInBounds];by_cases q:i=j
 . subst q;simp[hj]
 . have:¬j=i:=fun e=>q e.symm;simp[q,this]
section
variable{P:Program}{cf:ga}{ops:Array Oper}{I rt l5:Nat}{h0:H rs}{kH:H V}{val:Nat->V}{dF:List x7}{d:Dr}{E0:Env}{w0:World}{BW:List Deferred}
variable{cs:Exit->Act->World->Prop}{vA:Option Nat}
theorem FE(pg:jt P cf)(hr:nk ops rt)(hl:l5<=ops.size)(f:pn P cf ops I h0 kH val dF l5 d)(ht:∀y∈d.c9,I+y.1<fW)
  (hQ:l5=ops.size->∀fr ms hc E a w,Inv ops I rt l5 h0 kH val dF d.c9 E0 w0 BW fr ms hc E a w->(∀i,i<ops.size->fr i=true)->cs .normal a w)
  (hP:l5<ops.size->l5+1=ops.size/\∀fr ms hc E a w o,Inv ops I rt l5 h0 kH val dF d.c9 E0 w0 BW fr ms hc E a w->ops[l5]? =some o->
   (∀e∈o.after,Region.binds .any e=true->fr e.on=true)->∀hL,wpOpIn (fz vA) 0 P ops cs l5 hL a w):
  ∀(fuel:Nat) (gU:Array Bool) (ms hc:Nat) (E:Env) (a:Act) (w:World),gU.size=ops.size->unl ops.size gU<=fuel->
   Inv ops I rt l5 h0 kH val dF d.c9 E0 w0 BW (fun i=>gU.getD i false) ms hc E a w->wpAnyIn (fz vA) 0 P .any ops cs fuel gU a w:=by
 have done:∀(gU:Array Bool) (ms hc:Nat) (E:Env) (a:Act) (w:World),gU.size=ops.size->Inv ops I rt l5 h0 kH val dF d.c9 E0 w0 BW (fun i=>gU.getD i false) ms hc E a w->
   Region.ready .any ops gU=[]->cs .normal a w:=by
  intro gU ms hc E a w hs n0 GV;have all:∀i,i<ops.size->gU.getD i false=true:=by
   intro i
   induction i using Nat.strongRecOn with
   |_ i ih=>
    intro hi;cases q:gU.getD i false with
    |true=>rfl
    |false=>
     exfalso;have ho:ops[i]? =some ops[i]:=bq hi;have:i∈Region.ready .any ops gU:=mem_ready.2 ⟨by
      rw[ck,bq L]at q ⊢;exact q,ops[i],ho,fun e he hb=>by
      have:=hr.zn i _ ho e he hb;exact ih e.on this L⟩
     rw[GV]at this;simp at this
  have Rf:l5=ops.size:=by
   by_cases q:l5<ops.size
   . have:=n0.VC l5 (all l5 q);omega
   . omega
  exact hQ Rf _ ms hc E a w n0 all
 intro fuel
 induction fuel with
 |zero=>
  intro gU ms hc E a w hs hu n0;have GV:Region.ready .any ops gU=[]:=by
   rw[List.eq_nil_iff_forall_not_mem];intro j hj;obtain⟨X,o,ho,_⟩:=mem_ready.1 hj;have hjs:=(aS.1 ho).1;have hz:unl ops.size gU=0:=by omega
   unfold unl at hz;have:=List.eq_nil_iff_length_eq_zero.2 hz;have W:j∈(List.range ops.size).filter fun i=>!gU.getD i false:=List.mem_filter.2 ⟨List.mem_range.2 hjs,by
    rw[ck,bq L]at X ⊢;simp at X;simp[X]⟩
   rw[this]at W;simp at W
  exact⟨GV,done gU ms hc E a w hs n0 GV⟩
 |succ fuel ih=>
  intro gU ms hc E a w hs hu n0;refine⟨done gU ms hc E a w hs n0,fun j hj=>?_⟩;obtain⟨X,o,ho,hd⟩:=mem_ready.1 hj;have hjs:=(aS.1 ho).1;have Bq:gU.getD j false=false:=by
   rw[ck,bq L]at X ⊢;exact X
  by_cases Kq:j<l5
  . refine n0.step pg hr hl f ht ho Kq Bq hd fun J' E' a' w' I'=>?_;refine ih _ (ms|||2^j) J' E' a' w' (by simp;exact hs) ?_ ?_
    . have:unl ops.size (gU.setIfInBounds j true)<unl ops.size gU:=by
       refine filter_lt (x:=j) (List.mem_range.2 hjs) (by rw[Bq];rfl) (by rw[AD L];simp) fun y hy=>?_;rw[AD L]at hy;simp at hy ⊢;exact hy.1
      omega
    . have:(fun i=>(gU.setIfInBounds j true).getD i false)=fun i=>(gU.getD i false||decide (i=j)):=funext fun i=>AD L i;rw[this];exact I'
  . have fH:l5<ops.size:=by omega
    obtain⟨p1,p2⟩:=hP fH;have:j=l5:=by omega
    subst this;exact p2 _ ms hc E a w o n0 ho hd _
end
theorem Rg{vA:Option Nat}{P:Program}{cf:ga}{ops:Array Oper}{rt id:Nat}{s s':St}{x:h1}{E0:Env}{a0:Act}{w0:World}{cs:Exit->Act->World->Prop}(pg:jt P cf)(hr:nk ops rt)(W:P.follows .mixedOrders=true)
  (e:drawn P cf ops s=some (x,s')) (g:Good E0 s.h w0) (hd:rL E0 s.n) (hf:zl E0 s.S a0) (hN:a0.tmps.size=rt)
  (hq:∀E' a' w' x',iI E0 s.h w0 E' s'.h w'->(∀k,k<s.n->E'.ι k=E0.ι k)->rL E' s'.n->s.n<=s'.n->zl E' s'.S a'->a'.tmps.size=rt->a'.defers=a0.defers->s'.gD=s.gD->OT E' x x'->cs x' a' w'):
  (Code.region id ops true).wpIn (fz vA) 0 P cs a0 w0:=by
 refine wpIn_region_any W ?_;unfold drawn at e;split at e
 . rename_i gT;have ak4:=KZ (P:=P) (cf:=cf) (ops:=ops) (I:=s.n) s.S s.h;have start:∀(l5:Nat) (val:Nat->V) (dF:List x7) (c9:af),Inv ops s.n rt l5 s.h s.S val dF c9 E0 w0 a0.defers (fun i=>(Array.replicate ops.size false).getD i false) 0 0 E0 a0 { w0 with drawn:=w0.drawn+1 }:=by
    intro l5 val dF c9;have hS:∀i,(Array.replicate ops.size false).getD i false=false:=by
     intro i;rw[ck];by_cases q:i<ops.size
     . rw[bq (by simpa using q)];simp
     . rw[Array.getElem?_eq_none (by simpa using q)];rfl
    have hv0:∀k,(gV s.n c9 (eF s.h (s.n+ops.size) dF 0).1 (eF s.h (s.n+ops.size) dF 0).2.1 0).get k=s.h.get k:=by
     intro k;have:∀l:af,gV s.n l (eF s.h (s.n+ops.size) dF 0).1 (eF s.h (s.n+ops.size) dF 0).2.1 0=s.h:=by
      intro l
      induction l with
      |nil=>rfl
      |cons y l ih=>obtain⟨i,b⟩:=y;simp only[gV,kM,Bool.false_and,aP,cJ];exact ih
     rw[this]
    refine⟨fun i=>by rw[kM,hS],fun i hi=>?_,fun j o hj=>?_,fun c e' _=>?_,aX _,fun j o t hj=>?_,fun t v hv _=>hf t v hv,(iI.drew g).ext hv0,fun _ _=>rfl,fun k p hp=>?_,fun i _ _=>?_,aC _,hN,rfl⟩
    . rw[hS]at hi;cases hi
    . rw[hS]at hj;cases hj
    . rw[hS];constructor
      . intro q;cases q
      . intro q;omega
    . rw[hS]at hj;cases hj
    . by_cases q:k<s.n
      . exact .inl q
      . rw[hd k L]at hp;cases hp
    . show s.h.get (s.n+i)=none;cases q:s.h.get (s.n+i)with
      |none=>rfl
      |some o=>
       obtain⟨b,t,X,_⟩:=g.rel _ _ q;rw[hd _ L]at X;cases X
   have hu0:unl ops.size (Array.replicate ops.size false)<=ops.size:=by
    unfold unl;exact bR (List.length_filter_le _ _) (by simp)
   have fU:=fun(r:Dr ⊕ (H V×V×H rs×Nat)) q=>FB (rt:=rt) hr ops.toList 0 _ _ _ r (by simp) ak4 q;split at e
   . rename_i d YV;obtain⟨rfl,rfl⟩:=fg e;obtain⟨val,dF,f⟩:=fU _ YV;rw[show max 0 ops.size=ops.size by omega]at f;have ht:∀y∈d.c9,s.n+y.1<fW:=fun y hy=>by have:=f.c9 y hy;omega
     refine FE pg hr (aC _) f ht (fun _ fr ms hc E a w n0 sA=>?_) (fun q=>by omega) ops.size _ 0 0 E0 a0 _ (by simp) hu0 (start ops.size val dF d.c9);have hJ:hc=dF.length:=by
      have X:=n0.Jle;by_cases q:hc<dF.length
      . have he:dF[hc]? =some dF[hc]:=az q;have:=(n0.GU hc _ he).1 (sA _ (f.vD hc _ he).1);omega
      . omega
     have ec1:d.cur.1=(eF s.h (s.n+ops.size) dF hc).1:=by rw[hJ,f.cur]
     have ec2:d.cur.2=(eF s.h (s.n+ops.size) dF hc).2.1:=by rw[hJ,f.cur]
     have en:d.n=(eF s.h (s.n+ops.size) dF hc).2.2:=by rw[hJ,f.n]
     refine hq E a w .normal ?_ n0.old ?_ ?_ ?_ n0.size n0.gD rfl trivial
     . refine n0.qT.ext fun k=>?_;simp only[ec1,ec2];have ae8:∀i,i<ops.size->eu (2^ops.size-1) i=true:=fun i hi=>by
        unfold eu;rw[Nat.testBit_two_pow_sub_one];simpa using hi
       rcases jB (I:=s.n) (x:=(eF s.h (s.n+ops.size) dF hc).2.1) (m:=(eF s.h (s.n+ops.size) dF hc).1) (iy:=2^ops.size-1) ht f.one k with⟨i,b,k1,k2,k3,k4,k5⟩|⟨k1,k2⟩
       . subst k4;rw[k5,jV ht f.one k1 (by rw[n0.bits];exact sA i (f.c9 _ k1)) k3]
       . rw[k2,qW ht fun i b q1 q2 q3=>k1 i b q1 (ae8 i (f.c9 _ q1)) q3]
     . show rL E d.n;rw[en];exact n0.aan (aC _)
     . show s.n<=d.n;rw[en];have:=n0.zu;omega
     . intro t v hv;by_cases q:∃j o,j<ops.size/\ops[j]? =some o/\o.dst=some t
       . obtain⟨j,o,q1,q2,q3⟩:=q;have:=f.S.new j o t q1 q2 q3;simp only at hv;rw[this]at hv;cases hv;exact n0.f1 j o t (sA j q1) q2 q3
       . have:=f.S.old t fun i o hi ho U5=>q ⟨i,o,hi,ho,U5⟩;simp only at hv;rw[this]at hv;exact n0.f2 t v hv fun j o hj ho U5=>q ⟨j,o,n0.VC j hj,ho,U5⟩
   . rename_i S v h n YV;obtain⟨rfl,rfl⟩:=fg e;obtain⟨l5,o,d,val,dF,ho,f,pU⟩:=fU _ YV;have Rf:l5<ops.size:=(aS.1 ho).1;have ht:∀y∈d.c9,s.n+y.1<fW:=fun y hy=>by have:=f.c9 y hy;omega
     have BV:eT d.eC o.after.toList=mG ops l5:=by rw[f.eC];unfold mG;rw[ho]
     unfold vk at pU;simp only[BV]at pU;split at pU
     . split at pU<;>cases pU
     . rename_i hw;split at pU
       . rename_i C6;split at pU
         . split at pU
           . split at pU<;>cases pU
           . rename_i gg args hs;split at pU
             . split at pU<;>cases pU
             . rename_i v' h' n' J;split at pU
               . rename_i hb;simp only[an,Sum.inr.injEq,aB]at pU;obtain⟨rfl,rfl,rfl,rfl⟩:=pU;simp only[aE]at hb;have zb:=aG hb.1;have Iu:=aG hb.2;have OU:∀i,i<l5->eu (mG ops l5) i=true:=fun i hi=>by
                  have:mG ops l5=2^l5-1:=by omega
                  rw[this];unfold eu;rw[Nat.testBit_two_pow_sub_one];simpa using hi
                 refine FE pg hr (Nat.le_of_lt Rf) f ht (fun q=>by omega) (fun _=>⟨Iu,fun fr ms hc E a w o' n0 EL Rh hL=>?_⟩) ops.size _ 0 0 E0 a0 _ (by simp) hu0 (start l5 val dF d.c9);rw[ho]at EL;cases EL;have hSl:fr l5=false:=by
                  cases q:fr l5 with
                  |false=>rfl
                  |true=>have:=n0.VC l5 q;omega
                 have sA:∀i,i<l5->fr i=true:=fun i hi=>wQ hr n0.closed ho Rh (OU i hi);have hJ:hc=dF.length:=by
                  have X:=n0.Jle;by_cases q:hc<dF.length
                  . have he:dF[hc]? =some dF[hc]:=az q;have:=(n0.GU hc _ he).1 (sA _ (f.vD hc _ he).1);omega
                  . omega
                 have ec1:d.cur.1=(eF s.h (s.n+ops.size) dF hc).1:=by rw[hJ,f.cur]
                 have ec2:d.cur.2=(eF s.h (s.n+ops.size) dF hc).2.1:=by rw[hJ,f.cur]
                 have en:d.n=(eF s.h (s.n+ops.size) dF hc).2.2:=by rw[hJ,f.n]
                 rw[ec1,ec2,en]at hs J;have vw:=n0.sub hr (Nat.le_of_lt Rf) f ht (iy:=mG ops l5) fun k hk=>sA k (KV hr.zn l5 k hk);have FD:=n0.aan (Nat.le_of_lt Rf);unfold wpOpIn;simp only[ho];rw[aF (n0.wanted hr ho hSl Rh f.S hw)];refine(Ca pg (n0.qT.good.sub vw) FD (n0.vj hr ho hSl Rh f.S) hs J fun E' w' q2 q3 q4 q5=>?_);intro v2 hv2;have hcn:=n0.zu;refine hq E' a w' _ ?_ (fun k hk=>?_) q4 ?_ ?_ n0.size n0.gD rfl ⟨v2,hv2,rfl⟩
                 . refine n0.qT.trans (iI.frame n0.qT.good vw q2 fun k=>?_);simp only;cases hk:h'.get k with
                   |some o'=>rfl
                   |none=>
                    simp only;split
                    . rename_i M;rcases jB (I:=s.n) (x:=(eF s.h (s.n+ops.size) dF hc).2.1) (m:=(eF s.h (s.n+ops.size) dF hc).1) (iy:=ms) ht f.one k with⟨i,b,k1,k2,k3,k4,k5⟩|⟨k1,k2⟩
                      . subst k4;rw[jV ht f.one k1 (OU i (f.c9 _ k1)) k3]at M;cases M
                      . rw[k2];rw[qW ht fun i b q1 q2' q3'=>k1 i b q1 (by rw[n0.bits];exact sA i (f.c9 _ q1)) q3']at M;exact M.symm
                    . rfl
                 . rw[q3 k L];exact n0.old k hk
                 . show s.n<=n';omega
                 . refine ku q2.le ?_;intro t v hv;by_cases q:∃j o,j<l5/\ops[j]? =some o/\o.dst=some t
                   . obtain⟨j,o2,q1,q2,q3⟩:=q;have:=f.S.new j o2 t q1 q2 q3;simp only at hv;rw[this]at hv;cases hv;exact n0.f1 j o2 t (sA j q1) q2 q3
                   . have:=f.S.old t fun i o2 hi GW U5=>q ⟨i,o2,hi,GW,U5⟩;simp only at hv;rw[this]at hv;exact n0.f2 t v hv fun j o2 hj GW U5=>q ⟨j,o2,n0.VC j hj,GW,U5⟩
               . cases pU
             . cases pU
           . cases pU
         . cases pU
       . split at pU
         . split at pU
           . split at pU
             . split at pU
               . cases pU
               . split at pU<;>cases pU
             . split at pU
               . split at pU<;>cases pU
               . cases pU
           . cases pU
         . cases pU
     . cases pU
   . cases e
 . cases e
def Ri(E:Env)(x:FuncId×ag×ag)(d:Deferred):Prop:=
 (x.1<fW/\∃c' dm,dK E x.2.1 c'/\dK E x.2.2 dm/\d={ target:=.fn (.func x.1) c'.toArray,args:=dm.toArray }) \/
 (x.1=fW/\∃m b s,x.2.2=[.map (some m)]/\E.ι m=some (b,s)/\d={ target:=.collected b,args:=#[] })
def xz(E:Env):List (FuncId×ag×ag)->List Deferred->Prop
 | [],l=>l=[]
 |x::xs,l=>∃d ys,Ri E x d/\xz E xs ys/\l=d::ys
theorem K0{E E':Env}(h:E.le E'){x:FuncId×ag×ag}{d:Deferred}:Ri E x d->Ri E' x d:=by
 rintro(⟨M,c',a',r1,r2,q⟩|⟨M,m,b,s,q1,q2,q3⟩)
 . exact .inl ⟨M,c',a',kP h _ _ r1,kP h _ _ r2,q⟩
 . exact .inr ⟨M,m,b,s,q1,(h.nm _ _ _ q2).1,q3⟩
theorem jg{E E':Env}(h:E.le E'):∀(xs:List (FuncId×ag×ag)) (ys:List Deferred),xz E xs ys->xz E' xs ys
 | [],_,r=>r
 |_::xs,_,⟨d,ys,r1,r3,q⟩=>⟨d,ys,K0 h r1,jg h xs ys r3,q⟩
theorem iI.kill{E:Env}{h:H rs}{w w':World}{m b s:Nat}(g:Good E h w)(ht:m<fW)(iJ:eG h m)(W:E.ι m=some (b,s))
  (Fp:w'.heap.size=w.heap.size) (Iq:w'.tape=w.tape) (hos:w'.os=w.os) (pR:w'.output=w.output)
  (qO:∀x,x≠b->w'.heap[x]? =w.heap[x]?):iI E h w E (h.set m none) w':=by
 have hs:∀k o,(h.set m none).get k=some o->k≠m/\h.get k=some o:=by
  intro k o hk;rw[H.eY _ _ _ ht]at hk;split at hk
  . cases hk
  . rename_i q;exact⟨q,hk⟩
 have ek:∀k o,(h.set m none).get k=some o->h.get k=some o:=fun k o q=>(hs k o q).2;refine⟨E.le_refl,⟨?_,?_,?_,g.jy,fun b' c q=>⟨by rw[qO b' fun e=>(g.gX b' c q).2 m s iJ (e▸W)];exact(g.gX b' c q).1,fun k t hk=>(g.gX b' c q).2 k t (gA ek hk)⟩⟩,L,Iq,hos,pR,?_,fun k x t hk e _=>⟨k,t,nG ek hk,e,gA ek⟩,fun _ _ q=>.inl q⟩
 . intro k o hk;obtain⟨fS,hk⟩:=hs k o hk;obtain⟨b',s',X,h2⟩:=g.rel k o hk;have hb:b'≠b:=by
    intro hb;subst hb;exact g.inj m k b' s s' (fun q=>fS q.symm) iJ (by rw[hk];simp) W X
   exact⟨b',s',X,iF E.le_refl rfl (qO b' hb) h2⟩
 . intro k k' x t t' fS hk uT e e';exact g.inj k k' x t t' fS (gA ek hk) (nG ek uT) e e'
 . intro k x t e;rw[Fp];exact g.ny k x t e
 . intro x _ hn;refine qO x ?_;intro M;subst M;exact hn m s iJ W
structure kI(E:Env)(rt:Nat)(s:St)(a:Act)(w:World):Prop where
 good:Good E s.h w
 oI:rL E s.n
 S:zl E s.S a
 size:a.tmps.size=rt
 gD:xz E s.gD a.defers
def IP(E:Env)(rt:Nat)(s:St)(w:World)(x:h1)(s':St)(cs:Exit->Act->World->Prop):Prop:=
 ∀E' a' w' x',iI E s.h w E' s'.h w'->(∀k,k<s.n->E'.ι k=E.ι k)->s.n<=s'.n->kI E' rt s' a' w'->OT E' x x'->cs x' a' w'
theorem IP.after{E E1:Env}{rt:Nat}{s s1 s':St}{w w1:World}{x:h1}{cs:Exit->Act->World->Prop}(p:IP E rt s w x s' cs)(u:iI E s.h w E1 s1.h w1)(fT:∀k,k<s.n->E1.ι k=E.ι k)(hn:s.n<=s1.n):IP E1 rt s1 w1 x s' cs:=
 fun E' a' w' x' u' Rj qb r rx=>p E' a' w' x' (u.trans u') (fun k hk=>by rw[Rj k L];exact fT k hk) L r rx
section
variable{P:Program}{cf:ga}{fl rt:Nat}{vA:Option Nat}
theorem lp(pg:jt P cf){ops:Array Oper}:∀(l:List Oper) (s:St) (x:h1) (s':St),(vA=none\/∀o∈l,B6 o.op=true)->(∀o∈l,nM rt o.dst)->jo P cf ops l s=some (x,s')->
  ∀(E:Env) (a:Act) (w:World) (cs:Exit->Act->World->Prop),kI E rt s a w->IP E rt s w x s' cs->wpListIn (fz vA) 0 P ops cs l a w
 | [],s,x,s',_,_,e,E,a,w,cs,r,hp=>by
   simp only[jo,an,aB]at e;obtain⟨rfl,rfl⟩:=e;exact hp E a w .normal (iI.refl r.good) (fun _ _=>rfl) (aC _) r trivial
 |o::rest,s,x,s',ni,uN,e,E,a,w,cs,r,hp=>by
  have VE:vA=none\/∀o∈rest,B6 o.op=true:=ni.imp _root_.id fun h o ho=>h o (by simp[ho]);have ho:=uN o (by simp);have vG:∀o∈rest,nM rt o.dst:=fun o h=>uN o (by simp[h]);have VF:nM a.tmps.size o.dst:=by rw[r.size];exact ho
  simp only[jo]at e;unfold wpListIn;have IQ:∀b,iL ops o s.S=some b->Region.wanted o (yielded ops a.tmps)=b:=fun b hb=>x5 (E:=E) (fun _ _ _ d _ _ _ v hv=>r.S d v hv) hb;have ER:∀y∈o.op.operands,mX E s.S a.eval y:=fun y _=>iS r.good.jy r.S y;split at e
  . rename_i hw;rw[aJ (by rw[IQ _ hw];simp)];split at e
    . rename_i S sw;refine⟨fun _ _=>trivial,?_⟩;refine lp pg rest _ x s' VE vG e E _ w cs ⟨r.good,r.oI,jO r.S sw ⟨[],rfl,rfl⟩ VF,by rw[iR];exact r.size,by rw[gF];exact r.gD⟩ ?_;exact hp.after (iI.refl r.good) (fun _ _=>rfl) (aC _)
    . cases e
  . rename_i hw;rw[aF (IQ _ hw)];split at e
    . rename_i v h n hs;split at e
      . rename_i S sw;refine CZ r.good (r.oI _ (aC _)) ER hs fun E' w' v' q1 q2 q3 q4=>?_;have hn:s.n<=n:=by rcases q4 with⟨rfl,_⟩|rfl<;>omega
        have sP:rL E' n:=by
         rcases q4 with⟨rfl,rfl⟩|rfl
         . exact r.oI
         . intro k hk;rw[q3 k L];exact r.oI k L
        refine lp pg rest _ x s' VE vG e E' _ w' cs ⟨q2.good,sP,jO (ku q2.le r.S) sw q1 VF,by rw[iR];exact r.size,by rw[gF];exact jg q2.le _ _ r.gD⟩ ?_;exact hp.after q2 (fun k hk=>q3 k L) hn
      . cases e
    . rename_i g args hs;split at e
      . rename_i v h n J;split at e
        . rename_i S sw;refine Ca pg r.good r.oI ER hs J fun E' w' q2 q3 q4 q5=>?_;intro v' q1;refine lp pg rest _ x s' VE vG e E' _ w' cs ⟨q2.good,q4,jO (ku q2.le r.S) sw q1 VF,by rw[iR];exact r.size,by rw[gF];exact jg q2.le _ _ r.gD⟩ ?_;exact hp.after q2 q3 q5
        . cases e
      . rename_i v h n J;obtain⟨rfl,rfl⟩:=fg e;refine Ca pg r.good r.oI ER hs J fun E' w' q2 q3 q4 q5=>?_;intro v' q1;exact hp E' a w' _ q2 q3 q5 ⟨q2.good,q4,ku q2.le r.S,r.size,jg q2.le _ _ r.gD⟩ ⟨v',q1,rfl⟩
      . cases e
    . rename_i g c args hs;split at e
      case isFalse=>cases e
      rename_i M6;split at e
      . rename_i S sw;have VA:vA=none:=by
         rcases ni with q|q
         . exact q
         . exfalso;have:=q o (by simp);rw[M6.2]at this;cases this
        refine aah VA r.good (r.oI _ (aC _)) ER hs fun c' dm q1 q2=>?_;refine lp pg rest _ x s' VE vG e E _ w cs ⟨r.good,r.oI,jO (a:={ a with defers:={ target:=.fn (.func g) c'.toArray,args:=dm.toArray }::a.defers }) r.S sw ⟨[],rfl,rfl⟩ VF,by rw[iR];exact r.size,by rw[gF];exact⟨_,a.defers,.inl ⟨M6.1,c',dm,q1,q2,rfl⟩,r.gD,rfl⟩⟩ ?_;exact hp.after (iI.refl r.good) (fun _ _=>rfl) (aC _)
      . cases e
    . rename_i v hs;obtain⟨rfl,rfl⟩:=fg e;refine Rc r.good (r.oI _ (aC _)) ER hs fun v' q1=>?_;exact hp E a w _ (iI.refl r.good) (fun _ _=>rfl) (aC _) r ⟨v',q1,rfl⟩
    . cases e
    . cases e
  . cases e
theorem pA{E:Env}{S:H V}{a:Act}{c:Operand}{b:Bool}(ge:GE E)(r:zl E S a)(e:iX S c=some (.bool b)):a.eval c= .bool b:=by
 have:=iS ge r c _ e;simpa only[dJ]using this
theorem IS(pg:jt P cf){g:Operand}{ps:Array Tmp}{assign body:Code}{s s':St}{x:h1}(iC:fb rt (.rangeFunc g ps assign body)=true)(e:jq P cf fl (.rangeFunc g ps assign body) s=some (x,s'))
  {E:Env} {a:Act} {w:World} {cs:Exit->Act->World->Prop} (r:kI E rt s a w) (hp:IP E rt s w x s' cs):(Code.rangeFunc g ps assign body).wpIn (fz none) 0 P cs a w:=by
 simp only[fb,aE]at iC;simp only[jq]at e;split at e
 . rename_i gf lb hg;split at e
   case isFalse=>cases e
   rename_i hq;obtain⟨vz,gT⟩:=hq;obtain⟨f',fi,IT,OO,hfi,hlb,AE⟩:=iS r.good.jy r.S g _ hg;simp only[yV]at OO;subst OO;simp only[dK]at hfi;subst hfi;refine wpIn_rangeFunc fun fn _=>?_
   let C8:Loop:={ state:=.ready,pending:=none,fn,tmps:=a.tmps,params:=ps,assign,body,defers:=w.heap.size }
   have u1:iI E s.h w (E.put s.n w.heap.size 0 0) (s.h.set s.n (some .nf)) (w.alloc (.deferred (some []))):=iI.alloc (ob:=.deferred (some [])) (o:=.nf) r.good (r.oI _ (aC _)) L heap_alloc_new;have Ew:(E.put s.n w.heap.size 0 0).ι (s.n+1)=none:=by rw[Env.fG L];exact r.oI _ L
   have u2:iI (E.put s.n w.heap.size 0 0) (s.h.set s.n (some .nf)) (w.alloc (.deferred (some []))) ((E.put s.n w.heap.size 0 0).put (s.n+1) (w.alloc (.deferred (some []))).heap.size 0 0) ((s.h.set s.n (some .nf)).set (s.n+1) (some (.loop true none s.S ps.toList assign body))) ((w.alloc (.deferred (some []))).alloc (.loop C8)):=
    iI.alloc (ob:=.loop C8) (o:=.loop true none s.S ps.toList assign body) u1.good Ew gT
     ⟨C8,heap_alloc_new,rfl,rfl,rfl,rfl,rfl,wE (Env.le_trans u1.le (Env.sq Ew fun m x t e M=>by have:=u1.good.ny m x t e;omega)) r.S,by rw[show C8.tmps.size=rt from r.size];exact⟨iC.2.1,iC.2.2,fun p hp=>by simpa using bt.1 iC.1 p hp⟩⟩
   rw[World.size_alloc]at u2;revert e;generalize VG:(E.put s.n w.heap.size 0 0).put (s.n+1) (w.heap.size+1) 0 0=E2 at u2;generalize OV:(s.h.set s.n (some .nf)).set (s.n+1) (some (.loop true none s.S ps.toList assign body))=h2 at u2;generalize hW1:(w.alloc (.deferred (some []))).alloc (.loop C8)=W1 at u2;intro e;have Ex:E2.ι (s.n+1)=some (w.heap.size+1,0):=by rw[<- VG];exact Env.ff
   have GX:E2.ι s.n=some (w.heap.size,0):=by rw[<- VG,Env.fG L];exact Env.ff
   have qX:∀k,k<s.n->E2.ι k=E.ι k:=fun k hk=>by rw[<- VG,Env.fG L,Env.fG L]
   have IU:rL E2 (s.n+2):=fun k hk=>by
    have hk:s.n+2<=k:=hk;rw[<- VG,Env.fG L,Env.fG L];exact r.oI k (by show s.n<=k;omega)
   have u12:=u1.trans u2;have aaq:dK E2 lb IT:=kP u12.le _ _ hlb;have Rk:(invoke (.fn (.func gf) IT.toArray) #[.func (.yield (w.heap.size+1)) #[] #[]]).run P W1= .ok (.enter gf (Value.func (.yield (w.heap.size+1)) #[] #[]::IT).toArray) W1:=by
    have aar:=qp (w:=W1) (args:=(Value.func (.yield (w.heap.size+1)) #[] #[]::IT).toArray) vz;rw[<- aar];simp[invoke]
   refine⟨w.heap.size+1,[{ target:=.collected w.heap.size,args:=#[] }],W1,{ target:=.fn (.func gf) IT.toArray,args:=#[.func (.yield (w.heap.size+1)) #[] #[]] },W1,gf,
    (Value.func (.yield (w.heap.size+1)) #[] #[]::IT).toArray,W1,?_,?_,fun _ _=>trivial,Rk,fun hd=>by simp[fz,Fence.wide]at hd,?_⟩
   . rw[<- hW1];exact run_enterLoop_outer _ _ _ _ _
   . simp only[resolve,AE];simp[go_sem]
   . split at e
     case h_2=>cases e
     rename_i v h n J;have C9:=(pg gf _ h2 (s.n+2) _ h n J E2 W1 (Value.func (.yield (w.heap.size+1)) #[] #[]::IT) ⟨_,_,⟨_,[],[],⟨_,_,Ex,rfl⟩,rfl,rfl,rfl⟩,aaq,rfl⟩ u2.good IU).1 vz;have GY:CallsIn Fence.wide (0-1) P gf (Value.func (.yield (w.heap.size+1)) #[] #[]::IT).toArray W1 (rangePost (fz none) 0 P (w.heap.size+1) cs { a with defers:=[{ target:=.collected w.heap.size,args:=#[] }]++a.defers }):=by
      refine callsIn_wide.2 (C9.mono ?_);rintro en w3 ⟨E3,u3,zv,Rl,K1,ho⟩;cases en with
      |panicked _=>exact ho.elim
      |outgrown=>exact ho.elim
      |returned v'=>
       have hl3:E3.ι (s.n+1)=some (w.heap.size+1,0):=by rw[zv _ L];exact Ex
       have hd3:E3.ι s.n=some (w.heap.size,0):=by rw[zv _ L];exact GX
       have Fx:∀(st:Bool) (pe:Option Code) (S:H V) (pl:List Nat) (c1 c2:Code),h.get (s.n+1)=some (.loop st pe S pl c1 c2)->
         ∃w4,(Instr.endLoop (w.heap.size+1)).run P w3= .ok pe w4/\
          ∀(y:h1) (s1:St),s1={ s with h:=h.set (s.n+1) none,n:=n,gD:=(fW,[],[.map (some s.n)])::s.gD }->IP E rt s w y s1 cs->∀y',OT E3 y y'->cs y' { a with defers:=[{ target:=.collected w.heap.size,args:=#[] }]++a.defers } w4:=by
        intro st pe S pl c1 c2 kY;obtain⟨b,s0,q1,rc,q2,q3,q4,_⟩:=u3.good.rel _ _ kY;rw[hl3]at q1;cases q1;have IV:=run_endLoop (P:=P) q2 (by rw[q3];cases st<;>simp);refine⟨_,IV.trans (aL (fun p=>Result.ok p _) q4),fun y s1 fQ iT y' hy=>?_⟩;have uk:iI E3 h w3 E3 (h.set (s.n+1) none) (w3.putObj (w.heap.size+1) (.loop { rc with state:=.exhausted })):=
         iI.kill u3.good gT ⟨_,kY,rfl⟩ hl3 (by simp) rfl rfl rfl fun x M=>World.putObj_heap_other M
        have GZ:=(u12.trans u3).trans uk;subst fQ;have hsn:s.n<=n:=by omega
        exact iT E3 _ _ y' GZ (fun k hk=>by rw[zv k L];exact qX k hk) hsn
         ⟨GZ.good,Rl,ku GZ.le r.S,r.size,⟨_,a.defers,.inr ⟨rfl,s.n,w.heap.size,0,rfl,hd3,rfl⟩,jg GZ.le _ _ r.gD,rfl⟩⟩ hy
       split at e
       . rename_i hdg Ib;obtain⟨rfl,rfl⟩:=fg e;obtain⟨w4,k1,k2⟩:=Fx _ _ _ _ _ _ Ib;exact⟨_,w4,k1,k2 .normal _ rfl hp .normal trivial⟩
       . rename_i hdg Ib;obtain⟨rfl,rfl⟩:=fg e;obtain⟨w4,k1,k2⟩:=Fx _ _ _ _ _ _ Ib;exact⟨_,w4,k1,wpIn_ret (k2 .ret _ rfl hp .ret trivial)⟩
       . rename_i id _ _ _ _ hdg Ib;obtain⟨rfl,rfl⟩:=fg e;obtain⟨w4,k1,k2⟩:=Fx _ _ _ _ _ _ Ib;exact⟨_,w4,k1,wpIn_exit (k2 (.exit id) _ rfl hp (.exit id) rfl)⟩
       . cases e
     exact GY
 . cases e
theorem mZ(pg:jt P cf)(W:P.follows .mixedOrders=true):∀(c:Code) (s:St) (x:h1) (s':St),(vA=none\/ki c=true)->fb rt c=true->jq P cf fl c s=some (x,s')->
  ∀(E:Env) (a:Act) (w:World) (cs:Exit->Act->World->Prop),kI E rt s a w->IP E rt s w x s' cs->c.wpIn (fz vA) 0 P cs a w:=by
 intro c
 induction c with
 |skip=>
  intro s x s' _ _ e E a w cs r hp;simp only[jq,an,aB]at e;obtain⟨rfl,rfl⟩:=e;exact wpIn_skip (hp E a w .normal (iI.refl r.good) (fun _ _=>rfl) (aC _) r trivial)
 |region id ops Ky=>
  intro s x s' ni iC e E a w cs r hp;simp only[fb,aE]at iC;cases Ky with
  |false=>
   simp only[jq]at e;refine wpIn_region_list (lp pg ops.toList s x s' (ni.imp _root_.id fun q=>by simp only[ki,bt]at q;exact q) (fun o ho d hd=>?_) e E a w cs r hp);have:=bt.1 iC.1 o ho;rw[hd]at this;simpa using this
  |true=>
   simp only[jq]at e;have ak9:=KW (by simpa using iC.2);refine Rg pg ak9 W e r.good r.oI r.S r.size fun E' a' w' x' u fT sP hn yN mA U6 ala M=>?_;exact hp E' a' w' x' u fT hn ⟨u.good,sP,yN,mA,by rw[ala,U6];exact jg u.le _ _ r.gD⟩ M
 |seq c1 c2 Q8 Q9=>
  intro s x s' ni iC e E a w cs r hp;simp only[fb,aE]at iC;simp only[jq]at e;refine wpIn_seq ?_;cases X:jq P cf fl c1 s with
  |none=>simp[X]at e
  |some p=>
   obtain⟨x1,s1⟩:=p;refine Q8 s x1 s1 (ni.imp _root_.id fun q=>by simp only[ki,aE]at q;exact q.1) iC.1 X E a w _ r fun E' a' w' x' u fT hn r' M=>?_;cases x1 with
   |normal=>
    simp only[X]at e;cases x'<;>first|(exact M.elim)|skip
    exact Q9 s1 x s' (ni.imp _root_.id fun q=>by simp only[ki,aE]at q;exact q.2) iC.2 e E' a' w' cs r' (hp.after u fT hn)
   |exit i=>
    simp only[X,an,aB]at e;obtain⟨rfl,rfl⟩:=e;cases x'<;>first|(exact M.elim)|skip
    exact hp E' a' w' _ u fT hn r' M
   |ret=>
    simp only[X,an,aB]at e;obtain⟨rfl,rfl⟩:=e;cases x'<;>first|(exact M.elim)|skip
    exact hp E' a' w' _ u fT hn r' M
   |panic v=>
    simp only[X,an,aB]at e;obtain⟨rfl,rfl⟩:=e;cases x'<;>first|(exact M.elim)|skip
    exact hp E' a' w' _ u fT hn r' M
 |cond c c1 c2 Q8 Q9=>
  intro s x s' ni iC e E a w cs r hp;simp only[fb,aE]at iC;simp only[jq]at e;split at e
  . rename_i J;exact wpIn_cond_true (pA r.good.jy r.S J) (Q8 s x s' (ni.imp _root_.id fun q=>by simp only[ki,aE]at q;exact q.1) iC.1 e E a w cs r hp)
  . rename_i J;exact wpIn_cond_false (pA r.good.jy r.S J) (Q9 s x s' (ni.imp _root_.id fun q=>by simp only[ki,aE]at q;exact q.2) iC.2 e E a w cs r hp)
  . cases e
 |block id c ih=>
  intro s x s' ni iC e E a w cs r hp;simp only[fb]at iC;simp only[jq]at e;refine wpIn_block ?_;cases X:jq P cf fl c s with
  |none=>simp[X]at e
  |some p=>
   obtain⟨x1,s1⟩:=p;refine ih s x1 s1 (ni.imp _root_.id fun q=>by simpa only[ki]using q) iC X E a w _ r fun E' a' w' x' u fT hn r' M=>?_;cases x1 with
   |normal=>
    simp only[X,an,aB]at e;obtain⟨rfl,rfl⟩:=e;cases x'<;>first|(exact M.elim)|skip
    exact hp E' a' w' .normal u fT hn r' trivial
   |exit i=>
    simp only[X]at e;cases x'<;>first|(exact M.elim)|skip
    rename_i j;have Qm:i=j:=M;subst Qm;simp only[Exit.inBlock];split at e
    . rename_i q;obtain⟨rfl,rfl⟩:=fg e;rw[aF q];exact hp E' a' w' .normal u fT hn r' trivial
    . rename_i q;obtain⟨rfl,rfl⟩:=fg e;rw[aJ q];exact hp E' a' w' (.exit i) u fT hn r' rfl
   |ret=>
    simp only[X,an,aB]at e;obtain⟨rfl,rfl⟩:=e;cases x'<;>first|(exact M.elim)|skip
    exact hp E' a' w' .ret u fT hn r' trivial
   |panic v=>
    simp only[X,an,aB]at e;obtain⟨rfl,rfl⟩:=e;cases x'<;>first|(exact M.elim)|skip
    exact hp E' a' w' (.panic _) u fT hn r' M
 |loop c ih=>
  intro s x s' ni iC e E a w cs r hp;simp only[fb]at iC;simp only[jq]at e;refine wpIn_loop_rounds fl ?_;have key:∀(k:Nat) (s:St),rounds (jq P cf fl c) k s=some (x,s')->∀(E:Env) (a:Act) (w:World),kI E rt s a w->IP E rt s w x s' cs->Code.roundsIn (fz vA) 0 P c cs k a w:=by
   intro k
   induction k with
   |zero=>intro s e;cases e
   |succ k ihk=>
    intro s e E a w r hp;simp only[rounds]at e;rw[roundsIn_succ];cases X:jq P cf fl c s with
    |none=>simp[X]at e
    |some p=>
     obtain⟨x1,s1⟩:=p;refine ih s x1 s1 (ni.imp _root_.id fun q=>by simpa only[ki]using q) iC X E a w _ r fun E' a' w' x' u fT hn r' M=>?_;cases x1 with
     |normal=>
      simp only[X]at e;cases x'<;>first|(exact M.elim)|skip
      exact ihk s1 e E' a' w' r' (hp.after u fT hn)
     |exit i=>
      simp only[X,an,aB]at e;obtain⟨rfl,rfl⟩:=e;cases x'<;>first|(exact M.elim)|skip
      exact hp E' a' w' _ u fT hn r' M
     |ret=>
      simp only[X,an,aB]at e;obtain⟨rfl,rfl⟩:=e;cases x'<;>first|(exact M.elim)|skip
      exact hp E' a' w' _ u fT hn r' M
     |panic v=>
      simp only[X,an,aB]at e;obtain⟨rfl,rfl⟩:=e;cases x'<;>first|(exact M.elim)|skip
      exact hp E' a' w' _ u fT hn r' M
  exact key fl s e E a w r hp
 |exit id=>
  intro s x s' _ _ e E a w cs r hp;simp only[jq,an,aB]at e;obtain⟨rfl,rfl⟩:=e;exact wpIn_exit (hp E a w (.exit id) (iI.refl r.good) (fun _ _=>rfl) (aC _) r rfl)
 |ret=>
  intro s x s' _ _ e E a w cs r hp;simp only[jq,an,aB]at e;obtain⟨rfl,rfl⟩:=e;exact wpIn_ret (hp E a w .ret (iI.refl r.good) (fun _ _=>rfl) (aC _) r trivial)
 |rangeFunc g ps assign body _ _=>
  intro s x s' ni iC e E a w cs r hp;have VA:vA=none:=by
   rcases ni with q|q
   . exact q
   . cases q
  subst VA;exact IS pg iC e r hp
 |scope c _=>intro s x s' _ _ e;cases e
 |label l=>intro s x s' _ _ e;cases e
 |goto l=>intro s x s' _ _ e;cases e
 |refuse w=>intro s x s' _ _ e;cases e
def Da(tmps:Array Value):ResultVar->Sem Value
 | .tmp t=>pure (tmps.getD t undef)
 | .cell c t=>do loadVar t (<- asAddr (tmps.getD c undef))
theorem K2(fn:Func)(tmps:Array Value):results fn tmps=(do
  let vs <- fn.results.mapM (Da tmps)
  pure (if h:vs.size=1 then vs[0]else .tuple vs)):=by
 unfold results;congr 1
theorem Br{E:Env}{h:H rs}{w:World}{S:H V}{a:Act}(g:Good E h w)(r:zl E S a):∀(O:List ResultVar) (vs:ag),lY P S h O=some vs->
  ∃YK,(O.mapM (Da a.tmps)).run P w= .ok YK w/\dK E vs YK
 | [],vs,e=>by simp only[lY,an]at e;subst e;exact⟨[],rfl,rfl⟩
 |x::O,vs,e=>by
  simp only[lY]at e;cases X:Gw P S h x with
  |none=>simp[X]at e
  |some v=>cases h2:lY P S h O with
   |none=>simp[X,h2]at e
   |some us=>
    simp only[X,h2,an]at e;subst e;obtain⟨us',q1,q2⟩:=Br g r O us h2;have hv:∃v',(Da a.tmps x).run P w= .ok v' w/\dJ E v v':=by
     cases x with
     |tmp t=>
      obtain⟨v',p1,p2⟩:=r t v X;exact⟨v',by simp[Da,p1],p2⟩
     |cell c t=>
      simp only[Gw]at X;split at X
      . rename_i u hu;obtain⟨u',p1,p2⟩:=r c u hu;obtain⟨b,sh,rfl,v',p3,p4⟩:=CK (P:=P) g p2 X;refine⟨v',?_,p4⟩;simp[Da,p1,asAddr,p3]
      . cases X
    obtain⟨v',p1,p2⟩:=hv;refine⟨v'::us',?_,v',us',p2,q2,rfl⟩;rw[List.mapM_cons];simp only[Sem.run_bind,p1,q1,Result.andThen_ok,Sem.run_pure]
theorem Bs{E:Env}{h:H rs}{w:World}{S:H V}{a:Act}{fn:Func}{vs:ag}(g:Good E h w)(r:zl E S a)(e:lY P S h fn.results.toList=some vs):
  ∃v',(results fn a.tmps).run P w= .ok v' w/\dJ E (oneOf vs) v':=by
 obtain⟨YK,q1,q2⟩:=Br (P:=P) g r fn.results.toList vs e;have fU:(results fn a.tmps).run P w= .ok (if h:YK.toArray.size=1 then YK.toArray[0]else .tuple YK.toArray) w:=by
  rw[K2,Array.mapM_eq_mapM_toList];simp only[Sem.run_bind,Sem.run_map,q1,Result.andThen_ok,Sem.run_pure]
 refine⟨_,fU,?_⟩
 match vs,q2 with
 | [],q2=>simp only[dK]at q2;subst q2;exact⟨[],rfl,rfl⟩
 | [v],q2=>
   obtain⟨y,ys,p1,p2,rfl⟩:=q2;simp only[dK]at p2;subst p2;exact p1
 |u::v::us,q2=>
  have Ex:=eR q2;rw[dif_neg (by simp only[List.size_toArray,Ex,aT];omega)];exact⟨YK,q2,rfl⟩
end
def G0(E:Env):Mode->FrameMode->Prop
 | .ret,.returning=>True
 | .An v b,.panicking chain=>∃v',dJ E v v'/\chain=[{ v:=v',recovered:=b }]
 |_,_=>False
theorem FF{E E':Env}(h:E.le E'):∀{m:Mode} {u:FrameMode},G0 E m u->G0 E' m u
 | .ret,.returning,_=>trivial
 | .An _ _,.panicking _,⟨v',r,q⟩=>⟨v',jx h _ _ r,q⟩
 | .ret,.run,r=>r.elim
 | .ret,.panicking _,r=>r.elim
 | .An _ _,.run,r=>r.elim
 | .An _ _,.returning,r=>r.elim
def FG(E:Env)(rt:Nat)(s:St)(w:World)(x:h1)(s':St)(m':Mode)(nv:Frame)(Q:List Frame)(cs:Exit->Act->List Frame->World->Prop):Prop:=
 ∀E' a' w' x' u',iI E s.h w E' s'.h w'->(∀k,k<s.n->E'.ι k=E.ι k)->s.n<=s'.n->kI E' rt s' a' w'->OT E' x x'->G0 E' m' u'->cs x' a' ({ nv with mode:=u' }::Q) w'
theorem FG.after{E E1:Env}{rt:Nat}{s s1 s':St}{w w1:World}{x:h1}{m':Mode}{nv:Frame}{Q:List Frame}{cs:Exit->Act->List Frame->World->Prop}(p:FG E rt s w x s' m' nv Q cs)(u:iI E s.h w E1 s1.h w1)
  (fT:∀k,k<s.n->E1.ι k=E.ι k) (hn:s.n<=s1.n):FG E1 rt s1 w1 x s' m' nv Q cs:=
 fun E' a' w' x' u2 u' Rj qb r rx rm=>p E' a' w' x' u2 (u.trans u') (fun k hk=>by rw[Rj k L];exact fT k hk) L r rx rm
section
variable{P:Program}{cf:ga}{fl rt:Nat}
theorem G1(k n:Nat):List.range' k (n+1)=k::List.range' (k+1) n:=by simp[List.range'_succ]
theorem qY{ops:Array Oper}(nv:Frame)(Q:List Frame):∀(l:List Oper) (k:Nat) (s:St) (m:Mode) (x:h1) (s':St) (m':Mode),(∀j,l[j]? =ops[k+j]?)->(∀o∈l,nM rt o.dst)->rT P cf ops l s m=some (x,s',m')->
  ∀(E:Env) (a:Act) (w:World) (u:FrameMode) (cs:Exit->Act->List Frame->World->Prop),kI E rt s a w->G0 E m u->FG E rt s w x s' m' nv Q cs->
   wpOpsS P ops cs (List.range' k l.length) a ({ nv with mode:=u }::Q) w
 | [],k,s,m,x,s',m',_,_,e,E,a,w,u,cs,r,rm,hp=>by
   simp only[rT,an,aB]at e;obtain⟨rfl,rfl,rfl⟩:=e;exact hp E a w .normal u (iI.refl r.good) (fun _ _=>rfl) (aC _) r trivial rm
 |o::rest,k,s,m,x,s',m',kY,uN,e,E,a,w,u,cs,r,rm,hp=>by
  have ho:=uN o (by simp);have vG:∀o∈rest,nM rt o.dst:=fun o h=>uN o (by simp[h]);have VF:nM a.tmps.size o.dst:=by rw[r.size];exact ho
  have hgr:∀j,rest[j]? =ops[k+1+j]?:=fun j=>by have:=kY (j+1);simpa[cE,Nat.add_comm 1 j]using this
  have iC:ops[k]? =some o:=by have:=kY 0;simpa using this.symm
  simp only[rT]at e;simp only[aT,G1,wpOpsS,iC];have IQ:∀b,iL ops o s.S=some b->Region.wanted o (yielded ops a.tmps)=b:=fun b hb=>x5 (E:=E) (fun _ _ _ d _ _ _ v hv=>r.S d v hv) hb;have ER:∀y∈o.op.operands,mX E s.S a.eval y:=fun y _=>iS r.good.jy r.S y;split at e
  . rename_i hw;rw[aJ (by rw[IQ _ hw];simp)];split at e
    . rename_i S sw;exact qY nv Q rest (k+1) _ m x s' m' hgr vG e E _ w u cs ⟨r.good,r.oI,jO r.S sw ⟨[],rfl,rfl⟩ VF,by rw[iR];exact r.size,by rw[gF];exact r.gD⟩ rm (hp.after (iI.refl r.good) (fun _ _=>rfl) (aC _))
    . cases e
  . rename_i hw;rw[aF (IQ _ hw)];split at e
    . rename_i v h n hs;split at e
      . rename_i S sw;obtain⟨E',w',v',fU,q1,q2,q3,q4⟩:=mY r.good (r.oI _ (aC _)) ER hs;have hn:s.n<=n:=by rcases q4 with⟨rfl,_⟩|rfl<;>omega
        have sP:rL E' n:=by
         rcases q4 with⟨rfl,rfl⟩|rfl
         . exact r.oI
         . intro k hk;rw[q3 k L];exact r.oI k L
        have uM:=qY nv Q rest (k+1) _ m x s' m' hgr vG e E' (a.put o.dst v') w' u cs ⟨q2.good,sP,jO (ku q2.le r.S) sw q1 VF,by rw[iR];exact r.size,by rw[gF];exact jg q2.le _ _ r.gD⟩ (FF q2.le rm)
         (hp.after q2 (fun k hk=>q3 k L) hn)
        rcases fU with fU|⟨fU,rfl⟩
        . rw[fU];simp only[Oper.upon_value];exact uM
        . rw[fU];simp only[Oper.upon_skip];exact uM
      . cases e
    . rename_i hs;have fU:=mY r.good (r.oI _ (aC _)) ER hs;simp only[kG]at fU;rw[fU];simp only;split at e
      . rename_i v;split at e
        . rename_i S sw;cases u with
          |panicking chain=>
           obtain⟨v',q1,rfl⟩:=rm;simp only[recoverD];exact qY nv Q rest (k+1) _ (.An v true) x s' m' hgr vG e E (a.put o.dst v') w (.panicking [{ v:=v',recovered:=true }]) cs ⟨r.good,r.oI,jO r.S sw q1 VF,by rw[iR];exact r.size,by rw[gF];exact r.gD⟩ ⟨v',q1,rfl⟩
            (hp.after (iI.refl r.good) (fun _ _=>rfl) (aC _))
          |run=>exact rm.elim
          |returning=>exact rm.elim
        . cases e
      . rename_i hnp;split at e
        . rename_i S sw;have IW:recoverD ({ nv with mode:=u }::Q)=none:=by
           cases m with
           |ret=>cases u<;>first|(exact rm.elim)|rfl
           |An v b=>
            cases b with
            |false=>exact absurd rfl (hnp v)
            |true=>
             cases u with
             |panicking chain=>obtain⟨v',q1,rfl⟩:=rm;rfl
             |run=>exact rm.elim
             |returning=>exact rm.elim
          rw[IW];exact qY nv Q rest (k+1) _ m x s' m' hgr vG e E (a.put o.dst .nilIface) w u cs ⟨r.good,r.oI,jO r.S sw rfl VF,by rw[iR];exact r.size,by rw[gF];exact r.gD⟩ rm (hp.after (iI.refl r.good) (fun _ _=>rfl) (aC _))
        . cases e
    . cases e
  . cases e
theorem ES{c:Operand}{x y:Code}{a:Act}{Q:List Frame}{w:World}{cs:Exit->Act->List Frame->World->Prop}(J:a.eval c= .bool true)(h:x.wpS P cs a Q w):(Code.cond c x y).wpS P cs a Q w:=wpS_cond J h
theorem Db{c:Operand}{x y:Code}{a:Act}{Q:List Frame}{w:World}{cs:Exit->Act->List Frame->World->Prop}(J:a.eval c= .bool false)(h:y.wpS P cs a Q w):(Code.cond c x y).wpS P cs a Q w:=wpS_cond J h
theorem Bt(pg:jt P cf)(W:P.follows .mixedOrders=true){c:Code}{s s':St}{x:h1}{m m':Mode}(iC:fb rt c=true)(e:(match jq P cf fl c s with|some (x,s')=>some (x,s',m)|none=>none)=some (x,s',m'))
  {nv:Frame} {Q:List Frame} {E:Env} {a:Act} {w:World} {u:FrameMode} {cs:Exit->Act->List Frame->World->Prop} (r:kI E rt s a w) (rm:G0 E m u) (hp:FG E rt s w x s' m' nv Q cs):c.wpS P cs a ({ nv with mode:=u }::Q) w:=by
 cases X:jq P cf fl c s with
 |none=>simp[X]at e
 |some p=>
  obtain⟨x1,s1⟩:=p;simp only[X,an,aB]at e;obtain⟨rfl,rfl,rfl⟩:=e;exact wpS_of_wp (wpIn_wide.1 (mZ (vA:=none) pg W c s x1 s1 (.inl rfl) iC X E a w _ r fun E' a' w' x' u' fT hn r' M=>hp E' a' w' x' u u' fT hn r' M (FF u'.le rm)))
theorem Bu(pg:jt P cf)(W:P.follows .mixedOrders=true)(nv:Frame)(Q:List Frame):∀(c:Code) (s:St) (m:Mode) (x:h1) (s':St) (m':Mode),fb rt c=true->uE P cf fl c s m=some (x,s',m')->
  ∀(E:Env) (a:Act) (w:World) (u:FrameMode) (cs:Exit->Act->List Frame->World->Prop),kI E rt s a w->G0 E m u->FG E rt s w x s' m' nv Q cs->c.wpS P cs a ({ nv with mode:=u }::Q) w:=by
 intro c
 induction c with
 |region id ops Ky=>
  intro s m x s' m' iC e E a w u cs r rm hp;cases Ky with
  |false=>
   simp only[uE]at e;have VH:=iC;simp only[fb,aE]at VH;have:=qY (P:=P) (cf:=cf) (ops:=ops) nv Q ops.toList 0 s m x s' m' (fun j=>by simp) (fun o ho d hd=>by
    have:=bt.1 VH.1 o ho;rw[hd]at this;simpa using this) e E a w u cs r rm hp
   exact wpS_region (by rw[List.range_eq_range',<- Array.length_toList];exact this)
  |true=>
   simp only[uE]at e;exact Bt (fl:=fl) pg W iC e r rm hp
 |seq c1 c2 Q8 Q9=>
  intro s m x s' m' iC e E a w u cs r rm hp;simp only[fb,aE]at iC;simp only[uE]at e;refine wpS_seq ?_;cases X:uE P cf fl c1 s m with
  |none=>simp[X]at e
  |some p=>
   obtain⟨x1,s1,m1⟩:=p;refine Q8 s m x1 s1 m1 iC.1 X E a w u _ r rm fun E' a' w' x' u1 uu fT hn r' M OW=>?_;cases x1 with
   |normal=>
    simp only[X]at e;cases x'<;>first|(exact M.elim)|skip
    exact Q9 s1 m1 x s' m' iC.2 e E' a' w' u1 cs r' OW (hp.after uu fT hn)
   |exit i=>
    simp only[X,an,aB]at e;obtain⟨rfl,rfl,rfl⟩:=e;cases x'<;>first|(exact M.elim)|skip
    exact hp E' a' w' _ u1 uu fT hn r' M OW
   |ret=>
    simp only[X,an,aB]at e;obtain⟨rfl,rfl,rfl⟩:=e;cases x'<;>first|(exact M.elim)|skip
    exact hp E' a' w' _ u1 uu fT hn r' M OW
   |panic v=>
    simp only[X,an,aB]at e;obtain⟨rfl,rfl,rfl⟩:=e;cases x'<;>first|(exact M.elim)|skip
    exact hp E' a' w' _ u1 uu fT hn r' M OW
 |cond c c1 c2 Q8 Q9=>
  intro s m x s' m' iC e E a w u cs r rm hp;simp only[fb,aE]at iC;simp only[uE]at e;split at e
  . rename_i J;exact ES (pA r.good.jy r.S J) (Q8 s m x s' m' iC.1 e E a w u cs r rm hp)
  . rename_i J;exact Db (pA r.good.jy r.S J) (Q9 s m x s' m' iC.2 e E a w u cs r rm hp)
  . cases e
 |_=>
  intro s m x s' m' iC e E a w u cs r rm hp;simp only[uE]at e;exact Bt (fl:=fl) pg W iC e r rm hp
theorem vH:∀(vs:ag) (i:Nat) (t:H V) (k:Nat),i+vs.length<fW->(mj vs i t).get k=if i<=k/\k<i+vs.length then vs[k-i]? else t.get k
 | [],i,t,k,_=>by simp only[mj,bP];rw[aJ L]
 |v::vs,i,t,k,h=>by
  simp only[aT]at h;simp only[mj,aT];rw[vH vs (i+1) _ k L,H.eY _ _ _ L];by_cases q:k=i
  . subst q;rw[aJ L,aF rfl,aF L];simp
  . rw[aJ q];by_cases q2:i+1<=k/\k<i+1+vs.length
    . rw[aF q2,aF L];have:k-i=(k-(i+1))+1:=by omega
      rw[this];simp
    . rw[aJ q2,aJ L]
theorem tY{E:Env}{args:ag}{dm:List Value}{n:Nat}(r:dK E args dm)(hn:args.length<=n)(ht:n<fW):
  zl E (mj args 0 .nil) { tmps:=dm.toArray++Array.replicate (n-dm.toArray.size) undef,defers:=[] }/\(dm.toArray++Array.replicate (n-dm.toArray.size) undef).size=n:=by
 have hl:=eR r;refine⟨fun t v hv=>?_,by simp;omega⟩;rw[vH args 0 .nil t L]at hv;split at hv
 . rename_i hi;obtain⟨v',X,h2⟩:=gJ r _ v hv;refine⟨v',?_,h2⟩;simp only[Nat.sub_zero]at X;rw[bT (by simp;omega)];simpa using X
 . cases hv
def l6(P:Program):Bool:=P.funcs.toList.all fun fn=>match fn.body with|some c=>fb fn.ntmps c|none=>true
theorem Bv(h:l6 P=true){f:FuncId}{fn:Func}{c:Code}(hf:P.funcs[f]? =some fn)(hb:fn.body=some c):fb fn.ntmps c=true:=by
 unfold l6 at h;have:=bt.1 h fn (by rw[<- bN]at hf;exact bg hf);rw[hb]at this;exact this
theorem BX{f:FuncId}{fn:Func}{c:Code}{args:Array Value}{u:FrameMode}{w:World}{nx:Ending->FrameMode->World->Prop}
  (hf:P.funcs[f]? =some fn) (hb:fn.body=some c)
  (h:∀(nv:Frame) (Q:List Frame),nv.mode=u->
   c.wpS P (bodyPostS P fn nv Q nx) { tmps:=args++Array.replicate (fn.ntmps-args.size) undef,defers:=[] } (nv::Q) w):
  CallsDIn Fence.wide (0-1) P f args u w nx:=by
 refine⟨trivial,fun nv Q hu _=>?_⟩
 let b:Frame:={ (default:Frame)with fn:=f,kind:=.deferred }
 have aat:Frame.enter P f args .deferred=
   b.at { tmps:=args++Array.replicate (fn.ntmps-args.size) undef,defers:=[] } [.code c]:=by
  simp[Frame.enter,Frame.at,hf,hb,b]
 obtain⟨e,a',cs',w',hq,Rm⟩:=h nv Q hu b [] rfl rfl;rw[<- aat]at Rm;cases e with
 |normal=>
  obtain⟨hd,u',rfl,v,hr,hR⟩:=hq;exact⟨.returned v,u',w',_,hR,comesIn_wide.2 (Steps.trans Rm (.one step_end)),rfl,rfl,rfl,hd,fn,hf,hr⟩
 |ret=>
  obtain⟨hd,u',rfl,v,hr,hR⟩:=hq;obtain⟨alb,hs⟩:=Rm;exact⟨.returned v,u',w',_,hR,comesIn_wide.2 hs,rfl,rfl,rfl,hd,fn,hf,hr⟩
 |panic chain=>
  obtain⟨hd,u',rfl,hR⟩:=hq;obtain⟨alb,hs⟩:=Rm;exact⟨.panicked chain,u',w',_,hR,comesIn_wide.2 hs,rfl,rfl,rfl,hd,fn,hf⟩
 |exit id=>exact hq.elim
 |goto l=>exact hq.elim
 |outgrown=>
  obtain⟨u',hR⟩:=hq;exact⟨.outgrown,u',w',b,hR,comesIn_wide.2 (Rm.resolve_left (by simp[b])),rfl,rfl,trivial⟩
theorem rW(pg:jt P cf)(W:P.follows .mixedOrders=true)(yd:l6 P=true){fn:Func}{S:H V}{a:Act}:∀(ds:List (FuncId×ag×ag)) (m:Mode) (h:H rs) (n:Nat) (uH:QG) (h':H rs) (n':Nat),
  oo P cf fl fn S ds m h n=some (uH,h',n')->∀(E:Env) (w:World) (ds':List Deferred) (u:FrameMode) (nx:Ending->World->Prop),Good E h w->rL E n->zl E S a->xz E ds ds'->G0 E m u->
   (∀E' w' en,iI E h w E' h' w'->(∀k,k<n->E'.ι k=E.ι k)->rL E' n'->n<=n'->tV E' uH en->nx en w')->LeavesInM Fence.wide 0 P fn a.tmps nx ds' u w
 | [],m,h,n,uH,h',n',e,E,w,ds',u,nx,g,hd,hf,YV,rm,hR=>by
   simp only[xz]at YV;subst YV;cases m with
   |ret=>
    cases u<;>first|(exact rm.elim)|skip
    simp only[oo]at e;split at e
    . rename_i vs hr;simp only[an,aB]at e;obtain⟨rfl,rfl,rfl⟩:=e;obtain⟨v',X,h2⟩:=Bs (P:=P) g hf hr;exact⟨v',X,hR E w _ (iI.refl g) (fun _ _=>rfl) hd (aC _) h2⟩
    . cases e
   |An v b=>
    cases u with
    |panicking chain=>
     obtain⟨v',q1,rfl⟩:=rm;cases b with
     |false=>
      simp only[oo,an,aB]at e;obtain⟨rfl,rfl,rfl⟩:=e;exact hR E w _ (iI.refl g) (fun _ _=>rfl) hd (aC _) ⟨v',q1,rfl⟩
     |true=>cases e
    |run=>exact rm.elim
    |returning=>exact rm.elim
 |(gf,c,args)::ds,m,h,n,uH,h',n',e,E,w,ds',u,nx,g,hd,hf,YV,rm,hR=>by
  obtain⟨d,ys,Rn,r3,rfl⟩:=YV;simp only[oo]at e;have afc:u≠ .run:=by intro q;subst q;cases m<;>exact rm.elim
  split at e
  ·
   rename_i gT;rcases Rn with⟨q,_⟩|⟨_,m0,b,s0,ha,jl,rfl⟩
   . exact absurd q (Nat.not_lt.2 gT)
   simp only at ha;subst ha;simp only at e;split at e
   . rename_i U6;split at e
     . rename_i fH;obtain⟨b',s',q1,q2⟩:=g.rel _ _ U6;rw[jl]at q1;cases q1;have uk:iI E h w E (h.set m0 none) (w.putObj b (.deferred none)):=iI.kill g fH ⟨_,U6,rfl⟩ jl (by simp) rfl rfl rfl fun x M=>World.putObj_heap_other M;exact⟨afc,.inl ⟨b,_,rfl,run_takeDeferred q2,rW pg W yd ds m _ n uH h' n' e E _ ys u nx uk.good hd hf r3 rm fun E2 w2 en u2 qX GX xV ho=>hR E2 w2 en (uk.trans u2) qX GX xV ho⟩⟩
     . cases e
   . cases e
  rename_i gT;obtain⟨c',dm,r1,r2,rfl⟩:∃c' dm,dK E c c'/\dK E args dm/\d={ target:=.fn (.func gf) c'.toArray,args:=dm.toArray }:=by
   rcases Rn with⟨_,q⟩|⟨q,_⟩
   . exact q
   . exact absurd (Nat.le_of_eq q.symm) gT
  split at e
  . rename_i gn hgn;split at e
    . rename_i code hb;split at e
      . rename_i hq;obtain⟨vz,ja,gT⟩:=hq;have hvr:=iM r2 r1;obtain⟨yN,mA⟩:=tY (n:=gn.ntmps) hvr ja gT;have FH:=Bv yd hgn hb;have next:∀(s':St) (m':Mode) (vs:ag),s'.gD=[]->lY P s'.S s'.h gn.results.toList=some vs->oo P cf fl fn S ds (match m' with | .An _ true=>.ret|m=>m) s'.h s'.n=some (uH,h',n')->
          ∀E' (a':Act) w' u',iI E h w E' s'.h w'->(∀k,k<n->E'.ι k=E.ι k)->n<=s'.n->kI E' gn.ntmps s' a' w'->G0 E' m' u'->
          a'.defers=[]/\∃v,(results gn a'.tmps).run P w'= .ok v w'/\LeavesInM Fence.wide 0 P fn a.tmps nx ys (settle u') w':=by
         intro s' m' vs U6 GB GC E' a' w' u' uu fT hn r' OW;have alc:a'.defers=[]:=by have:=r'.gD;rw[U6]at this;exact this
         obtain⟨v',p1,p2⟩:=Bs (P:=P) r'.good r'.S GB;refine⟨alc,v',p1,?_⟩;refine rW pg W yd ds _ s'.h s'.n uH h' n' GC E' w' ys (settle u') nx r'.good r'.oI (ku uu.le hf) (jg uu.le _ _ r3) ?_ fun E2 w2 en u2 qX GX xV ho=>hR E2 w2 en (uu.trans u2) (fun k hk=>by rw[qX k L];exact fT k hk) GX L ho;cases m' with
         |ret=>cases u'<;>first|(exact OW.elim)|trivial
         |An v b=>
          cases u' with
          |panicking chain=>
           obtain⟨v2,q1,rfl⟩:=OW;cases b with
           |false=>exact⟨v2,q1,rfl⟩
           |true=>trivial
          |run=>exact OW.elim
          |returning=>exact OW.elim
        have Rk:(invoke (.fn (.func gf) c'.toArray) dm.toArray).run P w= .ok (.enter gf (dm++c').toArray) w:=by
         simp only[invoke];have:dm.toArray++c'.toArray=(dm++c').toArray:=by simp
         rw[this];exact qp vz
        refine⟨afc,.inr ⟨fun hd=>by simp[Fence.wide]at hd,_,_,gf,_,rfl,Rk,fun _ _=>trivial,BX hgn hb fun nv Q afd=>?_⟩⟩;have qn:nv={ nv with mode:=u }:=by subst afd;rfl
        rw[qn];have OX:kI E gn.ntmps { S:=mj (args++c) 0 .nil,h:=h,n:=n,gD:=[] } { tmps:=(dm++c').toArray++Array.replicate (gn.ntmps-(dm++c').toArray.size) undef,defers:=[] } w:=⟨g,hd,yN,mA,rfl⟩;split at e
        . rename_i s' m' M;split at e
          . rename_i U6;split at e
            . rename_i vs GB;refine Bu pg W nv Q code _ m .normal s' m' FH M E _ w u _ OX rm fun E' a' w' x' u' uu fT hn r' tF OW=>?_;cases x'<;>first|(exact tF.elim)|skip
              obtain⟨k1,v,k2,k3⟩:=next s' m' vs U6 GB e E' a' w' u' uu fT hn r' OW
              exact⟨k1,u',rfl,v,k2,k3⟩
            . cases e
          . cases e
        . rename_i s' m' M;split at e
          . rename_i U6;split at e
            . rename_i vs GB;refine Bu pg W nv Q code _ m .ret s' m' FH M E _ w u _ OX rm fun E' a' w' x' u' uu fT hn r' tF OW=>?_;cases x'<;>first|(exact tF.elim)|skip
              obtain⟨k1,v,k2,k3⟩:=next s' m' vs U6 GB e E' a' w' u' uu fT hn r' OW
              exact⟨k1,u',rfl,v,k2,k3⟩
            . cases e
          . cases e
        . cases e
      . cases e
    . cases e
  . cases e
theorem IX(pg:jt P cf)(W:P.follows .mixedOrders=true)(yd:l6 P=true){f:FuncId}{args:ag}{h:H rs}{n:Nat}{uH:QG}{h':H rs}{n':Nat}(e:enter P cf fl f args h n=some (uH,h',n'))
  {E:Env} {w:World} {dm:List Value} (ra:dK E args dm) (g:Good E h w) (hd:rL E n):Calls P f dm.toArray w (kz E h n w uH h' n'):=by
 unfold enter at e;split at e
 . rename_i fn hf;split at e
   . rename_i code hb;split at e
     . rename_i hq;obtain⟨yN,mA⟩:=tY (n:=fn.ntmps) ra hq.1 hq.2;have FH:=Bv yd hf hb;have OX:kI E fn.ntmps { S:=mj args 0 .nil,h:=h,n:=n,gD:=[] } { tmps:=dm.toArray++Array.replicate (fn.ntmps-dm.toArray.size) undef,defers:=[] } w:=⟨g,hd,yN,mA,rfl⟩;refine callsIn_wide.1 (callsIn_of_wp_marks (n:=0) hf hb trivial ?_);have Fx:∀(s:St) (m:Mode) (u:FrameMode) (E':Env) (a':Act) (w':World),oo P cf fl fn s.S s.gD m s.h s.n=some (uH,h',n')->iI E h w E' s.h w'->(∀k,k<n->E'.ι k=E.ι k)->n<=s.n->kI E' fn.ntmps s a' w'->G0 E' m u->
         LeavesInM Fence.wide 0 P fn a'.tmps (kz E h n w uH h' n') a'.defers u w':=by
        intro s m u E' a' w' hl uu fT hn r' rm;exact rW pg W yd s.gD m s.h s.n uH h' n' hl E' w' a'.defers u _ r'.good r'.oI r'.S r'.gD rm fun E2 w2 en u2 qX GX xV ho=>⟨E2,uu.trans u2,fun k hk=>by rw[qX k L];exact fT k hk,GX,L,ho⟩
       split at e
       . rename_i s M;refine mZ (vA:=none) pg W code _ _ s (.inl rfl) FH M E _ w _ OX fun E' a' w' x' uu fT hn r' tF=>?_;cases x'<;>first|(exact tF.elim)|skip
         exact Fx s .ret .returning E' a' w' e uu fT hn r' trivial
       . rename_i s M;refine mZ (vA:=none) pg W code _ _ s (.inl rfl) FH M E _ w _ OX fun E' a' w' x' uu fT hn r' tF=>?_;cases x'<;>first|(exact tF.elim)|skip
         exact Fx s .ret .returning E' a' w' e uu fT hn r' trivial
       . rename_i v s M;refine mZ (vA:=none) pg W code _ _ s (.inl rfl) FH M E _ w _ OX fun E' a' w' x' uu fT hn r' tF=>?_;cases x'<;>first|(exact tF.elim)|skip
         exact Fx s (.An v false) _ E' a' w' e uu fT hn r' tF
       . cases e
     . cases e
   . cases e
 . cases e
theorem Dc{E:Env}:∀(ps:List Nat) (args:ag) (dm:List Value) (S Ap:H V) (t:Array Value),xP (Kx ps args) S=some Ap->dK E args dm->(∀p∈ps,p<t.size)->QJ E S t->
  QJ E Ap ((ps.zip dm).foldl (fun t (p,v)=>t.setIfInBounds p v) t)/\((ps.zip dm).foldl (fun t (p,v)=>t.setIfInBounds p v) t).size=t.size
 | [],args,dm,S,Ap,t,e,_,_,r=>by simp only[Kx,xP,an]at e;subst e;exact⟨by simpa using r,by simp⟩
 |p::ps,[],dm,S,Ap,t,e,ra,_,r=>by
  simp only[Kx,xP,an]at e;subst e;simp only[dK]at ra;subst ra;exact⟨by simpa using r,by simp⟩
 |p::ps,v::vs,dm,S,Ap,t,e,ra,hp,r=>by
  obtain⟨y,ys,r0,O,rfl⟩:=ra;simp only[Kx,xP]at e;split at e
  . rename_i fH;have hpt:=hp p (by simp);have h2:=Dc ps vs ys _ Ap (t.setIfInBounds p y) e O (fun q hq=>by simpa using hp q (by simp[hq])) (fun k x M=>by
     rw[H.eY _ _ _ fH]at M;by_cases q:k=p
     . subst q;rw[aF rfl]at M;cases M;exact⟨y,by simp[hpt],r0⟩
     . rw[aJ q]at M;obtain⟨x',k1,k2⟩:=r k x M;exact⟨x',by rw[Array.getElem?_setIfInBounds_ne (Ne.symm q)];exact k1,k2⟩)
    simp only[List.zip_cons_cons,List.foldl_cons];exact⟨h2.1,by rw[h2.2];simp⟩
  . cases e
theorem OY(ps:Array Nat)(args:List Value)(t:Array Value):(ps.zip args.toArray).foldl (fun t (p,v)=>t.setIfInBounds p v) t=(ps.toList.zip args).foldl (fun t (p,v)=>t.setIfInBounds p v) t:=by
 rw[<- Array.foldl_toList];congr 1;simp
theorem IY(pg:jt P cf)(W:P.follows .mixedOrders=true){m:Nat}{args:ag}{h:H rs}{n:Nat}{uH:QG}{h':H rs}{n':Nat}(e:xQ P cf fl m args h n=some (uH,h',n'))
  {E:Env} {w:World} {dm:List Value} (ra:dK E args dm) (g:Good E h w) (hd:rL E n) {l s0:Nat} (jl:E.ι m=some (l,s0)):YieldAt Fence.wide 0 P l dm.toArray w (kz E h n w uH h' n'):=by
 unfold xQ at e;split at e
 case h_2=>cases e
 rename_i S ps assign body kY;split at e
 case isFalse=>cases e
 rename_i hq;obtain⟨zw,ni,hpa,hpb⟩:=hq;split at e
 case h_2=>cases e
 rename_i Ap sw;obtain⟨b,s',q1,r,hb,wF,hpe,Fw,ale,alf,htr,aav,AF,afe⟩:=g.rel _ _ kY;rw[jl]at q1;cases q1;simp only[if_true]at wF;subst Fw;subst ale;subst alf;have hlw:l<w.heap.size:=(aS.1 hb).1;have YW:eG h m:=⟨_,kY,rfl⟩;have fU:=run_yield (P:=P) (args:=dm.toArray) hb (by simp[eR ra,<- ni]);refine⟨_,_,_,_,fU,roundIn_of_wpIn trivial ?_⟩;rw[OY];obtain⟨alh,EN⟩:=Dc r.params.toList args dm S Ap r.tmps sw ra afe htr;have vw:∀k o,(h.set m none).get k=some o->k≠m/\h.get k=some o:=by
  intro k o hk;rw[H.eY _ _ _ zw]at hk;split at hk
  . cases hk
  . rename_i q;exact⟨q,hk⟩
 have Dd:∀k o,(h.set m none).get k=some o->h.get k=some o:=fun k o q=>(vw k o q).2;split at e
 case h_2=>cases e
 rename_i s1 Vx;refine mZ (vA:=some l) pg W r.assign _ _ s1 (.inr hpa) (by rw[<- EN]at aav;exact aav) Vx E _ w _ ⟨g.sub Dd,hd,alh,rfl,rfl⟩ fun E1 a1 w1 x1 u1 FI Ew r1 ali=>?_;cases x1<;>first|(exact ali.elim)|skip
 have nl0:∀k t,(h.set m none).get k≠none->E.ι k≠some (l,t):=by
  intro k t hk q;obtain⟨o,ho⟩:=bh.1 hk;obtain⟨c1,c2⟩:=vw k o ho;exact g.inj m k l s0 t (fun q=>c1 q.symm) YW (by rw[c2];simp) jl q
 have nl1:∀k t,s1.h.get k≠none->E1.ι k≠some (l,t):=by
  intro k t hk q;obtain⟨m0,t0,c1,c2,_⟩:=u1.uF k l t hk q hlw;exact nl0 m0 t0 c1 c2
 have zb:w1.heap[l]? =some (.loop r):=(u1.keep l hlw fun k t hk=>nl0 k t hk.live).trans hb;have K3:l<w1.heap.size:=(aS.1 zb).1;refine⟨_,run_beginRound zb wF,?_⟩;generalize Qo:w1.putObj l (.loop { r with state:=.busy })=w2;have Iu:w2.heap[l]? =some (.loop { r with state:=.busy }):=by rw[<- Qo];exact World.putObj_heap_same K3
 have Iy:w2.heap.size=w1.heap.size:=by rw[<- Qo];simp
 have Ro:∀k,k≠l->w2.heap[k]? =w1.heap[k]?:=fun k hk=>by rw[<- Qo];exact World.putObj_heap_other hk
 have qZ:Good E1 s1.h w2:=by
  refine⟨fun k o hk=>?_,u1.good.inj,fun k b s hk=>by rw[Iy];exact u1.good.ny k b s hk,u1.good.jy,fun b c J=>⟨?_,(u1.good.gX b c J).2⟩⟩
  case refine_2=>
   obtain⟨⟨el,fz,mJ⟩,_⟩:=u1.good.gX b c J;rw[Ro b fun q=>by rw[q,zb]at mJ;cases mJ];exact⟨el,fz,mJ⟩
  obtain⟨b,s,k1,k2⟩:=u1.good.rel k o hk;have fS:b≠l:=by intro q;subst q;exact nl1 k s (by rw[hk];simp) k1
  exact⟨b,s,k1,iF E1.le_refl rfl (Ro b fS) k2⟩
 have hN1:a1.tmps.size=r.tmps.size:=by
  exact r1.size.trans EN
 have rest:∀(x:h1) (s2:St),jq P cf fl r.body s1=some (x,s2)->∀(st:Bool) (pe:Option Code) (cs:Exit->Act->World->Prop),
   (∀x' E2 a2 w3,OT E2 x x'->((Instr.endRound l pe).run P w3= .ok (.bool pe.isNone) (w3.putObj l (.loop { r with state:=if pe.isNone then .ready else .done,pending:=pe }))->
    (pe.isNone=st->iI E h w E2 (s2.h.set m (some (.loop st pe S r.params.toList r.assign r.body))) (w3.putObj l (.loop { r with state:=if pe.isNone then .ready else .done,pending:=pe })))->rL E2 s2.n->n<=s2.n->(∀k,k<n->E2.ι k=E.ι k)->cs x' a2 w3))->
   r.body.wpIn (fz (some l)) 0 P cs a1 w2:=by
  intro x s2 Rp st pe cs hQ;refine mZ (vA:=some l) pg W r.body s1 x s2 (.inr hpb) AF Rp E1 a1 w2 cs ⟨qZ,r1.oI,r1.S,hN1,r1.gD⟩ fun E2 a2 w3 x' u2 qX xV r2 tF=>?_;refine hQ x' E2 a2 w3 tF ?_ ?_ r2.oI (bR Ew xV) (fun k hk=>by rw[qX k (bC hk Ew)];exact FI k hk)
  . have hb3:w3.heap[l]? =some (.loop { r with state:=.busy }):=(u2.keep l (by rw[Iy];exact K3) fun k t hk=>nl1 k t hk.live).trans Iu;exact run_endRound (P:=P) (r:={ r with state:=.busy }) pe hb3
  . intro alj;have nl2:∀k t,s2.h.get k≠none->E2.ι k≠some (l,t):=by
     intro k t hk q;obtain⟨m0,t0,c1,c2,_⟩:=u2.uF k l t hk q (by rw[Iy];exact K3);exact nl1 m0 t0 c1 c2
    have hb3:w3.heap[l]? =some (.loop { r with state:=.busy }):=(u2.keep l (by rw[Iy];exact K3) fun k t hk=>nl1 k t hk.live).trans Iu;have hl3:l<w3.heap.size:=(aS.1 hb3).1;have kR:E.le E2:=Env.le_trans u1.le u2.le;have Rq:E2.ι m=some (l,s0):=(kR.nm m l s0 jl).1;generalize Cd:({ r with state:=if pe.isNone then .ready else .done,pending:=pe }:Loop)=r4;have aff:(w3.putObj l (.loop r4)).heap.size=w3.heap.size:=by simp
    have Rr:∀k,k≠l->(w3.putObj l (.loop r4)).heap[k]? =w3.heap[k]?:=fun k hk=>World.putObj_heap_other hk;have tO:mC E2 (w3.putObj l (.loop r4)) l s0 (.loop st pe S r.params.toList r.assign r.body):=by
     refine⟨r4,World.putObj_heap_same hl3,?_,?_,?_,?_,?_,?_,?_⟩
     . rw[<- Cd,<- alj]
     . rw[<- Cd]
     . rw[<- Cd]
     . rw[<- Cd]
     . rw[<- Cd]
     . rw[<- Cd];exact wE kR htr
     . rw[<- Cd];exact⟨aav,AF,afe⟩
    have q7:∀k o,(s2.h.set m (some (.loop st pe S r.params.toList r.assign r.body))).get k=some o->(k=m/\o= .loop st pe S r.params.toList r.assign r.body)\/(k≠m/\s2.h.get k=some o):=by
     intro k o q;rw[H.eY _ _ _ zw]at q;split at q
     . rename_i c;cases q;exact .inl ⟨c,rfl⟩
     . rename_i c;exact .inr ⟨c,q⟩
    have Rs:∀b c,E2.φ b=some c->b≠l:=fun b c J q=>by
     obtain⟨⟨el,fz,mJ⟩,_⟩:=u2.good.gX b c J;rw[q,hb3]at mJ;cases mJ
    refine⟨kR,⟨?_,?_,?_,u2.good.jy,fun b c J=>⟨by rw[Rr b (Rs b c J)];exact(u2.good.gX b c J).1,fun k t hk q0=>?_⟩⟩,?_,?_,?_,?_,?_,?_,?_⟩
    case refine_4=>
     obtain⟨o,hk,ho⟩:=hk;rcases q7 k o hk with⟨rfl,rfl⟩|⟨c',q⟩
     . rw[Rq]at q0;cases q0;exact Rs _ c J rfl
     . exact(u2.good.gX b c J).2 k t ⟨o,q,ho⟩ q0
    case refine_11=>
     intro b c J;rcases u2.Eu b c J with q|q|⟨m1,t1,q1,q2⟩
     . rcases u1.Eu b c q with q|q|⟨m0,t0,q1,q2⟩
       . exact .inl q
       . exact .inr (.inl q)
       . exact .inr (.inr ⟨m0,t0,gA Dd q1,q2⟩)
     . have c1:=u1.size;exact .inr (.inl L)
     . rcases bO b w.heap.size with GS|GS
       . obtain⟨m0,t0,_,f2,f3⟩:=u1.uF m1 b t1 q1.live q2 GS;exact .inr (.inr ⟨m0,t0,gA Dd (f3 q1),f2⟩)
       . exact .inr (.inl GS)
    . intro k o q;rcases q7 k o q with⟨rfl,rfl⟩|⟨c,q⟩
      . exact⟨l,s0,Rq,tO⟩
      . obtain⟨b,t,k1,k2⟩:=u2.good.rel k o q;have fS:b≠l:=by intro c;subst c;exact nl2 k t (by rw[q];simp) k1
        exact⟨b,t,k1,iF E2.le_refl rfl (Rr b fS) k2⟩
    . intro k k' b t t' fS hk uT e1 e2;obtain⟨o,hk,ho⟩:=hk;obtain⟨o',uT⟩:=bh.1 uT;rcases q7 k o hk with⟨rfl,rfl⟩|⟨c,q⟩
      . rcases q7 k' o' uT with⟨rfl,rfl⟩|⟨c',q'⟩
        . exact fS rfl
        . rw[Rq]at e1;cases e1;exact nl2 k' t' (by rw[q'];simp) e2
      . rcases q7 k' o' uT with⟨rfl,rfl⟩|⟨c',q'⟩
        . rw[Rq]at e2;cases e2;exact nl2 k t (by rw[q];simp) e1
        . exact u2.good.inj k k' b t t' fS ⟨o,q,ho⟩ (by rw[q'];simp) e1 e2
    . intro k b t q;rw[aff];exact u2.good.ny k b t q
    . rw[aff];have c1:=u1.size;have c2:=u2.size;omega
    . exact u2.tape.trans (by rw[<- Qo];exact u1.tape)
    . exact u2.os.trans (by rw[<- Qo];exact u1.os)
    . exact u2.output.trans (by rw[<- Qo];exact u1.output)
    . intro b GS rV;have fS:b≠l:=by intro c;subst c;exact rV m s0 YW jl
      have c1:=u1.size;rw[Rr b fS,u2.keep b L ?_,Ro b fS,u1.keep b GS ?_]
      . intro k t hk q;exact rV k t (gA Dd hk) q
      . intro k t hk q;obtain⟨m0,t0,d1,d2,d3⟩:=u1.uF k b t hk.live q GS;exact rV m0 t0 (gA Dd (d3 hk)) d2
    . intro k b t hk q GS;obtain⟨o,hk⟩:=bh.1 hk;have c1:=u1.size;rcases q7 k o hk with⟨rfl,rfl⟩|⟨c,qk⟩
      . rw[Rq]at q;cases q;exact⟨k,s0,YW.live,jl,fun _=>YW⟩
      . obtain⟨m1,t1,d1,d2,d3⟩:=u2.uF k b t (by rw[qk];simp) q L;obtain⟨m0,t0,f1,f2,f3⟩:=u1.uF m1 b t1 d1 d2 GS;exact⟨m0,t0,nG Dd f1,f2,fun z=>gA Dd (f3 (d3 (o9 zw z c)))⟩
 split at e
 . rename_i s2 Rp;simp only[an,aB]at e;obtain⟨rfl,rfl,rfl⟩:=e;refine rest _ s2 Rp true none _ fun x' E2 a2 w3 tF fU hu sP hn fT=>?_;cases x'<;>first|(exact tF.elim)|skip
   exact⟨_,_,fU,E2,hu rfl,fT,sP,hn,rfl⟩
 . rename_i s2 Rp;simp only[an,aB]at e;obtain⟨rfl,rfl,rfl⟩:=e;refine rest _ s2 Rp false (some .ret) _ fun x' E2 a2 w3 tF fU hu sP hn fT=>?_;cases x'<;>first|(exact tF.elim)|skip
   exact⟨_,_,fU,E2,hu rfl,fT,sP,hn,rfl⟩
 . rename_i j s2 Rp;simp only[an,aB]at e;obtain⟨rfl,rfl,rfl⟩:=e;refine rest _ s2 Rp false (some (.exit j)) _ fun x' E2 a2 w3 tF fU hu sP hn fT=>?_;cases x'<;>first|(exact tF.elim)|skip
   have:_=j:=tF.symm;subst this;exact⟨_,_,fU,E2,hu rfl,fT,sP,hn,rfl⟩
 . cases e
theorem VI(pg:jt P cf)(W:P.follows .mixedOrders=true)(yd:l6 P=true):jt P (fun f args h n=>if f<P.funcs.size then enter P cf fl f args h n else xQ P cf fl (f-P.funcs.size) args h n):=by
 intro f args h n uH h' n' e E w dm ra g hd;simp only at e;split at e
 . rename_i fH;exact⟨fun _=>IX pg W yd e ra g hd,fun m l s hf _=>absurd fH (by rw[hf];exact Nat.not_lt.2 (Nat.le_add_right _ _))⟩
 . rename_i AE;refine⟨fun J=>?_,fun m l s hf jl=>?_⟩
   . exfalso;unfold callee at J;rw[Array.getElem?_eq_none (Nat.not_lt.1 AE)]at J;cases J
   . subst hf;rw[Nat.add_sub_cancel_left]at e;exact IY pg W e ra g hd jl
end
open Go.RowKit
def De:List (Nat×Nat)->Nat->Option (Nat×Nat)
 | [],_=>none
 |p::r,m=>if p.2=m then some (p.1,0)else De r m
def gN:Nat:=kf.length
theorem sQ:∀{l:List (Nat×Nat)} {m:Nat} {q:Nat×Nat},De l m=some q->∃p∈l,p.2=m/\q=(p.1,0)
 | [],_,_,h=>by cases h
 |p::r,m,q,h=>by
  unfold De at h;split at h
  . rename_i hb;cases h;exact⟨p,by simp,hb,rfl⟩
  . obtain⟨p',X,h2⟩:=sQ h;exact⟨p',aM _ X,h2⟩
theorem Df:∀{l:List (Nat×Nat)} {p:Nat×Nat},p∈l->(l.map (·.2)).Nodup->De l p.2=some (p.1,0)
 |q::r,p,h,hn=>by
  unfold De;rcases aD.1 h with rfl|h
  . rw[aF rfl]
  . simp only[bX,cn]at hn;rw[aJ (fun e=>hn.1 (by rw[e];exact List.mem_map_of_mem h))];exact Df h hn.2
theorem M7:(kf.map (·.2)).Nodup:=by
 have h:kf.map (·.2)=List.range kf.length:=by decide
 rw[h];exact List.nodup_range
section
variable(φ:Nat->Option (Array Value)){E:Env}(w:World){h:H rs}
theorem Ce{p:Nat×Nat}(h:p∈kf):p.2<gN:=by
 have e:kf.map (·.2)=List.range kf.length:=by decide
 have:=List.mem_map_of_mem (f:=(·.2)) h;rw[e]at this;exact List.mem_range.1 this
def VJ:Env:=⟨fun m=>De kf m,fun _=>0,φ⟩
def E0:Env:=VJ fun _=>none
def aaw:Prop:=∀b c,φ b=some c->∃el fz,w.heap[b]? =some (.cells c el fz)
theorem Good.fz{w:World}(g:Good E h w):aaw E.φ w:=fun b c q=>(g.gX b c q).1
theorem alm:GE (VJ φ):=fun p hp=>Df hp M7
def WG:Prop:=∀p∈kf,p.1<w.heap.size
theorem Good.wg{w:World}(g:Good E h w):WG w:=fun p hp=>g.ny _ _ _ (g.jy p hp)
end
section
variable{φ:Nat->Option (Array Value)}{w:World}{n:Nat}
theorem Rt(hw:WG w)(lJ:aaw φ w):Good (VJ φ) .nil w:=⟨fun m o h=>by simp[H.get]at h,fun m _ _ _ _ _ h=>absurd rfl h.live,fun m b s h=>by obtain⟨p,X,_,h2⟩:=sQ h;cases h2;exact hw p X,alm φ,fun b c q=>⟨lJ b c q,fun m s h=>absurd rfl h.live⟩⟩
theorem afg(hw:WG w):Good E0 .nil w:=Rt hw fun _ _ q=>by cases q
theorem YX(hn:gN<=n):rL (VJ φ) n:=fun m W=>by
 cases q:(VJ φ).ι m with
 |none=>rfl
 |some _=>obtain⟨p',X,h2,_⟩:=sQ q;have:=Ce X;omega
theorem aln(hn:gN<=n):rL E0 n:=YX hn
end
mutual
def V.free:V->Bool
 | .ptr (some _)=>false
 | .dx (some _) _ _ _=>false
 | .map (some _)=>false
 | .fn f a c=>wA f&&(V.xA a&&V.xA c)
 | .iface _ x=>V.free x
 | .agg Q=>V.xA Q
 | .ew Q=>V.xA Q
 | .dV _ 0 []=>true
 | .dV _ _ _=>false
 | .eK _=>false
 |_=>true
def V.xA:ag->Bool
 | []=>true
 |x::xs=>V.free x&&V.xA xs
end
mutual
theorem Dg{E E':Env}:∀(v:V) (v':Value),v.free=true->dJ E v v'->dJ E' v v'
 | .bool _,_,_,r=>r
 | .int _ _,_,_,r=>r
 | .str _,_,_,r=>r
 | .ptr none,_,_,r=>r
 | .ptr (some _),_,h,_=>by simp[V.free]at h
 | .dx none _ _ _,_,_,r=>r
 | .dx (some _) _ _ _,_,h,_=>by simp[V.free]at h
 | .map none,_,_,r=>r
 | .map (some _),_,h,_=>by simp[V.free]at h
 | .fn f a c,_,h,⟨f',a',c',rf,ra,rc,q⟩=>by
   simp only[V.free,aE]at h;refine⟨f',a',c',?_,nl a a' h.2.1 ra,nl c c' h.2.2 rc,q⟩;cases f<;>first|exact rf|(simp[wA]at h;done)
 | .kT,_,_,r=>r
 | .iface _ x,_,h,⟨x',r,q⟩=>⟨x',Dg x x' (by simpa only[V.free]using h) r,q⟩
 | .nilIface,_,_,r=>r
 | .agg Q,_,h,⟨cs',r,q⟩=>⟨cs',nl Q cs' (by simpa only[V.free]using h) r,q⟩
 | .ew Q,_,h,⟨cs',r,q⟩=>⟨cs',nl Q cs' (by simpa only[V.free]using h) r,q⟩
 | .dV f 0 [],_,_,r=>by
   obtain⟨⟨a,A,vs,X,h2,h3,h4,h5⟩,h6⟩:=r;exact⟨⟨a,A,vs,X,h2,h3,h4,fun q=>absurd q (cB _)⟩,h6⟩
 | .dV f 0 (_::_),_,h,_=>by simp[V.free]at h
 | .dV f (_+1) _,_,h,_=>by simp[V.free]at h
 | .eK _,_,h,_=>by simp[V.free]at h
theorem nl{E E':Env}:∀(v:ag) (v':List Value),V.xA v=true->dK E v v'->dK E' v v'
 | [],_,_,r=>r
 |x::xs,_,h,⟨y,ys,r,O,q⟩=>by
  simp only[V.xA,aE]at h;exact⟨y,ys,Dg x y h.1 r,nl xs ys h.2 O,q⟩
end
theorem Good.below{E:Env}{h:H rs}{w w':World}(g:Good E h w)(b:Below w.heap.size w w'):Good E h w' where
 rel:=fun m o W=>let⟨b',s,X,h2⟩:=g.rel m o W;⟨b',s,X,iF E.le_refl rfl (b.block b' (g.ny m b' s X)) h2⟩
 inj:=g.inj
 ny:=fun m b' s W=>bC (g.ny m b' s W) b.size
 jy:=g.jy
 gX:=fun k c q=>⟨by rw[b.block k (by obtain⟨el,fz,e⟩:=g.fz k c q;exact(aS.1 e).1)];exact g.fz k c q,(g.gX k c q).2⟩
theorem iI.below{E:Env}{h:H rs}{w w':World}(g:Good E h w)(b:Below w.heap.size w w'):iI E h w E h w':=
 ⟨E.le_refl,g.below b,b.size,b.tape,b.os,b.output,fun k hk _=>b.block k hk,fun m _ s W he _=>⟨m,s,W,he,id⟩,fun _ _ q=>.inl q⟩
def look(f:FuncId)(args:ag):List (FuncId×ag×V)->Option V
 | []=>none
 |x::r=>match Nat.beq f x.1&&V.qg args x.2.1 with
  |true=>some x.2.2
  |false=>look f args r
structure aax(w0:World)(E:Env)(h:H rs)(w:World):Prop where
 good:Good E h w
 size:w0.heap.size<=w.heap.size
 tape:w.tape=w0.tape
 os:w.os=w0.os
 output:w.output=w0.output
 keep:∀b,b<w0.heap.size->w.heap[b]? =w0.heap[b]?
 uF:∀m b s,eG h m->E.ι m=some (b,s)->b<w0.heap.size->False
theorem aax.trans{w0:World}{E E':Env}{h h':H rs}{w w':World}(a:aax w0 E h w)(b:iI E h w E' h' w'):aax w0 E' h' w' where
 good:=b.good
 size:=bR a.size b.size
 tape:=b.tape.trans a.tape
 os:=b.os.trans a.os
 output:=b.output.trans a.output
 keep:=fun x M=>by
  rw[b.keep x (bC M a.size) fun m s W e=>a.uF m x s W e M,a.keep x M]
 uF:=fun m x s W e M=>by
  obtain⟨m1,s1,_,e1,k1⟩:=b.uF m x s W.live e (bC M a.size);exact a.uF m1 x s1 (k1 W) e1 M
def h1.plain:h1->Option Exit
 | .normal=>some .normal
 | .exit i=>some (.exit i)
 | .ret=>some .ret
 | .panic _=>none
mutual
def V.names:V->List Nat->List Nat
 | .ptr (some (m,_)),l=>m::l
 | .dx (some (m,_)) _ _ _,l=>m::l
 | .map (some m),l=>m::l
 | .fn f a c,l=>match f with
   | .yield m=>m::V.vI a (V.vI c l)
   |_=>V.vI a (V.vI c l)
 | .iface _ x,l=>V.names x l
 | .agg Q,l=>V.vI Q l
 | .ew Q,l=>V.vI Q l
 |_,l=>l
def V.vI:ag->List Nat->List Nat
 | [],l=>l
 |x::xs,l=>V.names x (V.vI xs l)
end
def IZ:List (V×V×Nat)->List Nat
 | []=>[]
 |x::xs=>V.names x.1 (V.names x.2.1 (IZ xs))
def rs.names:rs->List Nat
 | .cells Q=>V.vI Q []
 | .map C _=>IZ C
 | .oh _ _=>[]
 | .ints _ _=>[]
 | .own _ _=>[]
 | .deep _=>[]
 | .ia _ _ _=>[]
 | .BO _ _ x=>V.names x []
 | .dy _ _=>[]
 | .nf=>[]
 | .loop ..=>[]
def aay(h:H rs):Nat->List Nat->H Nat->List Nat->Nat->Option (H Nat×List Nat×Nat)
 |0,_,_,_,_=>none
 |_+1,[],ρ,qq,k=>some (ρ,qq,k)
 |f+1,m::q,ρ,qq,k=>match ρ.get m with
  |some _=>aay h f q ρ qq k
  |none=>aay h f ((match h.get m with|some o=>o.names|none=>[])++q) (ρ.set m (some k)) (m::qq) (k+1)
def ye:List Nat->Nat->H Nat->H Nat
 | [],_,t=>t
 |m::r,k,t=>ye r (k-1) (t.set (k-1) (some m))
def dL(ρ back:H Nat)(n2 m:Nat):Option Nat:=
 match ρ.get m with
 |some k=>match back.get k with
  |some m'=>match Nat.beq m m'&&Nat.blt k n2 with
   |true=>some k
   |false=>none
  |none=>none
 |none=>none
theorem Bw{ρ back:H Nat}{n2 m k:Nat}(h:dL ρ back n2 m=some k):ρ.get m=some k/\back.get k=some m/\k<n2:=by
 unfold dL at h;split at h
 . rename_i k' X;split at h
   . rename_i m' h2;split at h
     . rename_i hb;simp only[aE]at hb;simp only[an]at h;subst h;have e:=aG hb.1;subst e;exact⟨X,h2,by have:=hb.2;simp[Nat.blt]at this;omega⟩
     . cases h
   . cases h
 . cases h
section
variable(ν:Nat->Option Nat)
mutual
def V.YY:V->Option V
 | .ptr (some (m,o))=>match ν m with
   |some k=>some (.ptr (some (k,o)))
   |none=>none
 | .dx (some (m,o)) l c e=>match ν m with
   |some k=>some (.dx (some (k,o)) l c e)
   |none=>none
 | .map (some m)=>match ν m with
   |some k=>some (.map (some k))
   |none=>none
 | .fn f a c=>match wA f with
   |true=>match V.OZ a with
    |some a=>match V.OZ c with
     |some c=>some (.fn f a c)
     |none=>none
    |none=>none
   |false=>none
 | .iface t x=>match V.YY x with
   |some x=>some (.iface t x)
   |none=>none
 | .agg Q=>match V.OZ Q with
   |some Q=>some (.agg Q)
   |none=>none
 | .ew Q=>match V.OZ Q with
   |some Q=>some (.ew Q)
   |none=>none
 | .bool b=>some (.bool b)
 | .int k n=>some (.int k n)
 | .str s=>some (.str s)
 | .ptr none=>some (.ptr none)
 | .dx none l c e=>some (.dx none l c e)
 | .map none=>some (.map none)
 | .kT=>some .kT
 | .nilIface=>some .nilIface
 | .dV f n Q=>some (.dV f n Q)
 | .eK Q=>some (.eK Q)
def V.OZ:ag->Option (ag)
 | []=>some []
 |x::xs=>match V.YY x with
  |some x=>match V.OZ xs with
   |some xs=>some (x::xs)
   |none=>none
  |none=>none
end
def YZ:List (V×V×Nat)->Option (List (V×V×Nat))
 | []=>some []
 |x::xs=>match V.YY ν x.1,V.YY ν x.2.1,YZ xs with
  |some k,some v,some xs=>some ((k,v,x.2.2)::xs)
  |_,_,_=>none
def rs.YY:rs->Option rs
 | .cells Q=>match V.OZ ν Q with
   |some Q=>some (.cells Q)
   |none=>none
 | .map C c=>match YZ ν C with
   |some C=>some (.map C c)
   |none=>none
 | .oh s p=>some (.oh s p)
 | .ints k ks=>some (.ints k ks)
 | .own k ks=>some (.own k ks)
 | .deep Q=>some (.deep Q)
 | .ia e f s=>some (.ia e f s)
 | .BO t s x=>match V.YY ν x with
   |some x=>some (.BO t s x)
   |none=>none
 | .dy k C=>some (.dy k C)
 | .nf=>none
 | .loop ..=>none
end
section
variable{ν:Nat->Option Nat}{E E':Env}(jl:∀m k,ν m=some k->E'.ι k=E.ι m)(pP:E'.β=E.β)(lJ:∀b c,E.φ b=some c->E'.φ b=some c)
include jl pP lJ
end
def K4(ν:Nat->Option Nat)(h:H rs):List Nat->H rs->Option (H rs)
 | [],t=>some t
 |m::r,t=>match h.get m with
  |none=>K4 ν h r t
  |some o=>match ν m with
   |some k=>match o.YY ν with
    |some o2=>match Nat.blt k fW with
     |true=>K4 ν h r (t.set k (some o2))
     |false=>none
    |none=>none
   |none=>none
def AG(ν:Nat->Option Nat)(S:H V):List Nat->H V->Option (H V)
 | [],t=>some t
 |m::r,t=>match S.get m with
  |none=>AG ν S r t
  |some v=>match v.YY ν with
   |some v2=>match Nat.blt m fW with
    |true=>AG ν S r (t.set m (some v2))
    |false=>none
   |none=>none
def sR(S:H V):List Nat->List Nat
 | []=>[]
 |t::r=>match S.get t with
  |some v=>v.names (sR S r)
  |none=>sR S r
def afh(back:H Nat)(k:Nat):Bool:=kf.all fun p=>Nat.blt p.2 k&&match back.get p.2 with
 |some o=>Nat.beq o p.2
 |none=>false
def norm(live:List Nat)(s:St):Option St:=
 match s.gD with
 | []=>match aay s.h 100000 (sR s.S live) .nil [] 0 with
   |some (ρ,qq,k)=>
    let ν:=dL ρ (ye qq k .nil) k
    match afh (ye qq k .nil) k with
    |false=>none
    |true=>match K4 ν s.h qq .nil with
    |some h2=>match AG ν s.S live .nil with
     |some yb=>some { S:=yb,h:=h2,n:=k,gD:=[] }
     |none=>none
    |none=>none
   |none=>none
 |_=>none
section
variable(ν:Nat->Option Nat)
mutual
def V.rn:V->Option V
 | .ptr (some (m,o))=>match ν m with
   |some k=>some (.ptr (some (k,o)))
   |none=>none
 | .dx (some (m,o)) l c e=>match ν m with
   |some k=>some (.dx (some (k,o)) l c e)
   |none=>none
 | .map (some m)=>match ν m with
   |some k=>some (.map (some k))
   |none=>none
 | .fn f a c=>match V.Ey a with
   |some a=>match V.Ey c with
    |some c=>match f with
     | .yield m=>match ν m with
       |some k=>some (.fn (.yield k) a c)
       |none=>none
     |f=>some (.fn f a c)
    |none=>none
   |none=>none
 | .iface t x=>match V.rn x with
   |some x=>some (.iface t x)
   |none=>none
 | .agg Q=>match V.Ey Q with
   |some Q=>some (.agg Q)
   |none=>none
 | .ew Q=>match V.Ey Q with
   |some Q=>some (.ew Q)
   |none=>none
 | .bool b=>some (.bool b)
 | .int k n=>some (.int k n)
 | .str s=>some (.str s)
 | .ptr none=>some (.ptr none)
 | .dx none l c e=>some (.dx none l c e)
 | .map none=>some (.map none)
 | .kT=>some .kT
 | .nilIface=>some .nilIface
 | .dV f n Q=>some (.dV f n Q)
 | .eK Q=>some (.eK Q)
def V.Ey:ag->Option (ag)
 | []=>some []
 |x::xs=>match V.rn x with
  |some x=>match V.Ey xs with
   |some xs=>some (x::xs)
   |none=>none
  |none=>none
end
def Ru:List (V×V×Nat)->Option (List (V×V×Nat))
 | []=>some []
 |x::xs=>match V.rn ν x.1 with
  |some k=>match V.rn ν x.2.1 with
   |some v=>match Ru xs with
    |some xs=>some ((k,v,x.2.2)::xs)
    |none=>none
   |none=>none
  |none=>none
def Dh(m:Nat):Bool:=match ν m with
 |some k=>Nat.beq m k
 |none=>false
mutual
def V.still:V->Bool
 | .ptr (some (m,_))=>Dh ν m
 | .dx (some (m,_)) _ _ _=>Dh ν m
 | .map (some m)=>Dh ν m
 | .fn f a c=>(match f with | .yield m=>Dh ν m|_=>true)&&(V.yf a&&V.yf c)
 | .iface _ x=>V.still x
 | .agg Q=>V.yf Q
 | .ew Q=>V.yf Q
 |_=>true
def V.yf:ag->Bool
 | []=>true
 |x::xs=>V.still x&&V.yf xs
end
def zx:H V->Bool
 | .nil=>true
 | .node v l r=>(match v with|some v=>V.still ν v|none=>true)&&(zx l&&zx r)
def rs.rn:rs->Option rs
 | .cells Q=>match V.Ey ν Q with
   |some Q=>some (.cells Q)
   |none=>none
 | .map C c=>match Ru ν C with
   |some C=>some (.map C c)
   |none=>none
 | .oh s p=>some (.oh s p)
 | .ints k ks=>some (.ints k ks)
 | .own k ks=>some (.own k ks)
 | .deep Q=>some (.deep Q)
 | .ia e f s=>some (.ia e f s)
 | .BO t s x=>match V.rn ν x with
   |some x=>some (.BO t s x)
   |none=>none
 | .dy k C=>some (.dy k C)
 | .nf=>some .nf
 | .loop st pe S ps a b=>match zx ν S with
   |true=>some (.loop st pe S ps a b)
   |false=>none
end
mutual
theorem tZ{ν:Nat->Option Nat}{E E':Env}(jl:∀m k,ν m=some k->E'.ι k=E.ι m)(pP:∀m k b s,ν m=some k->E.ι m=some (b,s)->E'.β b=E.β b)(lJ:∀b c,E.φ b=some c->E'.φ b=some c):∀(v v2:V) (v':Value),v.rn ν=some v2->dJ E v v'->dJ E' v2 v'
 | .bool _,v2,_,h,r=>by simp only[V.rn,an]at h;subst h;exact r
 | .int _ _,v2,_,h,r=>by simp only[V.rn,an]at h;subst h;exact r
 | .str _,v2,_,h,r=>by simp only[V.rn,an]at h;subst h;exact r
 | .ptr none,v2,_,h,r=>by simp only[V.rn,an]at h;subst h;exact r
 | .ptr (some (m,o)),v2,_,h,⟨b,s,e,q⟩=>by
   simp only[V.rn]at h;split at h
   . rename_i k hk;obtain rfl:=eE h;exact⟨b,s,(jl m k hk).trans e,q⟩
   . cases h
 | .dx none _ _ _,v2,_,h,r=>by simp only[V.rn,an]at h;subst h;exact r
 | .dx (some (m,o)) _ _ _,v2,_,h,⟨b,s,o',gq,e,q1,q2,q3,q4,q5⟩=>by
   simp only[V.rn]at h;split at h
   . rename_i k hk;obtain rfl:=eE h;exact⟨b,s,o',gq,(jl m k hk).trans e,q1,q2,q3,by rw[pP m k b s hk e];exact q4,q5⟩
   . cases h
 | .map none,v2,_,h,r=>by simp only[V.rn,an]at h;subst h;exact r
 | .map (some m),v2,_,h,⟨b,e,q⟩=>by
   simp only[V.rn]at h;split at h
   . rename_i k hk;obtain rfl:=eE h;exact⟨b,(jl m k hk).trans e,q⟩
   . cases h
 | .fn f a c,v2,_,h,⟨f',a',c',rf,ra,rc,q⟩=>by
   simp only[V.rn]at h;split at h
   . rename_i a2 ha;split at h
     . rename_i c2 J;have ra2:=uc jl pP lJ a a2 a' ha ra;have rc2:=uc jl pP lJ c c2 c' J rc;split at h
       . rename_i m;split at h
         . rename_i k hk;obtain rfl:=eE h;obtain⟨l,s,e,q2⟩:=rf;exact⟨f',a',c',⟨l,s,(jl m k hk).trans e,q2⟩,ra2,rc2,q⟩
         . cases h
       . obtain rfl:=eE h;refine⟨f',a',c',?_,ra2,rc2,q⟩;cases f<;>first|exact rf|(rename_i fS;exact(fS _ rfl).elim)
     . cases h
   . cases h
 | .kT,v2,_,h,r=>by simp only[V.rn,an]at h;subst h;exact r
 | .iface t x,v2,_,h,⟨x',r,q⟩=>by
   simp only[V.rn]at h;split at h
   . rename_i x2 M;obtain rfl:=eE h;exact⟨x',tZ jl pP lJ x x2 x' M r,q⟩
   . cases h
 | .nilIface,v2,_,h,r=>by simp only[V.rn,an]at h;subst h;exact r
 | .agg Q,v2,_,h,⟨cs',r,q⟩=>by
   simp only[V.rn]at h;split at h
   . rename_i x2 M;obtain rfl:=eE h;exact⟨cs',uc jl pP lJ Q x2 cs' M r,q⟩
   . cases h
 | .ew Q,v2,_,h,⟨cs',r,q⟩=>by
   simp only[V.rn]at h;split at h
   . rename_i x2 M;obtain rfl:=eE h;exact⟨cs',uc jl pP lJ Q x2 cs' M r,q⟩
   . cases h
 | .dV f n Q,v2,_,h,r=>by
   simp only[V.rn,an]at h;subst h;exact⟨ld lJ _ _ r.1,r.2⟩
 | .eK Q,v2,_,h,⟨b,o,c,vs,e,e1,r,q⟩=>by
   simp only[V.rn,an]at h;subst h;exact⟨b,o,c,vs,e,lJ _ _ e1,jf lJ _ _ r,q⟩
theorem uc{ν:Nat->Option Nat}{E E':Env}(jl:∀m k,ν m=some k->E'.ι k=E.ι m)(pP:∀m k b s,ν m=some k->E.ι m=some (b,s)->E'.β b=E.β b)(lJ:∀b c,E.φ b=some c->E'.φ b=some c):∀(v v2:ag) (v':List Value),V.Ey ν v=some v2->dK E v v'->dK E' v2 v'
 | [],v2,_,h,r=>by simp only[V.Ey,an]at h;subst h;exact r
 |x::xs,v2,_,h,⟨y,ys,r,O,q⟩=>by
  simp only[V.Ey]at h;split at h
  . rename_i x2 M;split at h
    . rename_i O0 CR;obtain rfl:=eE h;exact⟨y,ys,tZ jl pP lJ x x2 y M r,uc jl pP lJ xs O0 ys CR O,q⟩
    . cases h
  . cases h
end
section
variable{ν:Nat->Option Nat}{E E':Env}(jl:∀m k,ν m=some k->E'.ι k=E.ι m)(pP:∀m k b s,ν m=some k->E.ι m=some (b,s)->E'.β b=E.β b)(lJ:∀b c,E.φ b=some c->E'.φ b=some c)
include jl pP lJ
theorem I0:∀(C xx:List (V×V×Nat)) (l:List MapEntry),Ru ν C=some xx->kX E C l->kX E' xx l
 | [],xx,_,h,r=>by simp only[Ru,an]at h;subst h;exact r
 |x::xs,xx,_,h,⟨y,ys,r1,r2,r3,O,q⟩=>by
  simp only[Ru]at h;split at h
  . rename_i k hk;split at h
    . rename_i v hv;split at h
      . rename_i O0 CR;obtain rfl:=eE h;exact⟨y,ys,tZ jl pP lJ _ _ _ hk r1,tZ jl pP lJ _ _ _ hv r2,r3,I0 _ _ _ CR O,q⟩
      . cases h
    . cases h
  . cases h
end
theorem oJ{ν:Nat->Option Nat}{m:Nat}(h:Dh ν m=true):ν m=some m:=by
 unfold Dh at h;split at h
 . rename_i k hk;rw[hk,aG h]
 . cases h
theorem vJ{ν:Nat->Option Nat}:∀(t:H V),zx ν t=true->∀k v,t.get k=some v->v.still ν=true
 | .nil,_,k,v,h=>by simp[H.get]at h
 | .node x l r,hs,k,v,h=>by
   simp only[zx,aE]at hs;simp only[H.get]at h;split at h
   . subst h;exact hs.1
   . rename_i k;split at h
     . exact vJ l hs.2.1 _ v h
     . exact vJ r hs.2.2 _ v h
mutual
theorem AH{ν:Nat->Option Nat}{E E':Env}(jl:∀m k,ν m=some k->E'.ι k=E.ι m)(pP:∀m k b s,ν m=some k->E.ι m=some (b,s)->E'.β b=E.β b)(lJ:∀b c,E.φ b=some c->E'.φ b=some c):∀(v:V) (v':Value),v.still ν=true->dJ E v v'->dJ E' v v'
 | .bool _,_,_,r=>r
 | .int _ _,_,_,r=>r
 | .str _,_,_,r=>r
 | .ptr none,_,_,r=>r
 | .ptr (some (m,o)),_,h,⟨b,s,e,q⟩=>⟨b,s,(jl m m (oJ h)).trans e,q⟩
 | .dx none _ _ _,_,_,r=>r
 | .dx (some (m,o)) _ _ _,_,h,⟨b,s,o',gq,e,q1,q2,q3,q4,q5⟩=>⟨b,s,o',gq,(jl m m (oJ h)).trans e,q1,q2,q3,by rw[pP m m b s (oJ h) e];exact q4,q5⟩
 | .map none,_,_,r=>r
 | .map (some m),_,h,⟨b,e,q⟩=>⟨b,(jl m m (oJ h)).trans e,q⟩
 | .fn f a c,_,h,⟨f',a',c',rf,ra,rc,q⟩=>by
   simp only[V.still,aE]at h;refine⟨f',a',c',?_,q8 jl pP lJ a a' h.2.1 ra,q8 jl pP lJ c c' h.2.2 rc,q⟩;cases f with
   |yield m=>obtain⟨l,s,e,q2⟩:=rf;exact⟨l,s,(jl m m (oJ h.1)).trans e,q2⟩
   |_=>exact rf
 | .kT,_,_,r=>r
 | .iface _ x,_,h,⟨x',r,q⟩=>⟨x',AH jl pP lJ x x' (by simpa only[V.still]using h) r,q⟩
 | .nilIface,_,_,r=>r
 | .agg Q,_,h,⟨cs',r,q⟩=>⟨cs',q8 jl pP lJ Q cs' (by simpa only[V.still]using h) r,q⟩
 | .ew Q,_,h,⟨cs',r,q⟩=>⟨cs',q8 jl pP lJ Q cs' (by simpa only[V.still]using h) r,q⟩
 | .dV _ _ _,_,_,r=>⟨ld lJ _ _ r.1,r.2⟩
 | .eK Q,_,_,⟨b,o,c,vs,e,e1,r,q⟩=>⟨b,o,c,vs,e,lJ _ _ e1,jf lJ _ _ r,q⟩
theorem q8{ν:Nat->Option Nat}{E E':Env}(jl:∀m k,ν m=some k->E'.ι k=E.ι m)(pP:∀m k b s,ν m=some k->E.ι m=some (b,s)->E'.β b=E.β b)(lJ:∀b c,E.φ b=some c->E'.φ b=some c):∀(v:ag) (v':List Value),V.yf ν v=true->dK E v v'->dK E' v v'
 | [],_,_,r=>r
 |x::xs,_,h,⟨y,ys,r,O,q⟩=>by
  simp only[V.yf,aE]at h;exact⟨y,ys,AH jl pP lJ x y h.1 r,q8 jl pP lJ xs ys h.2 O,q⟩
end
section
variable{ν:Nat->Option Nat}{E E':Env}(jl:∀m k,ν m=some k->E'.ι k=E.ι m)(pP:∀m k b s,ν m=some k->E.ι m=some (b,s)->E'.β b=E.β b)(lJ:∀b c,E.φ b=some c->E'.φ b=some c)
include jl pP lJ
theorem Cf{w:World}{b s:Nat}(hb:E'.β b=E.β b):∀(o o2:rs),o.rn ν=some o2->mC E w b s o->mC E' w b s o2
 | .cells Q,o2,h,⟨c,el,fz,X,h2,h3,h4⟩=>by
   simp only[rs.rn]at h;split at h
   . rename_i vK pT;obtain rfl:=eE h;refine⟨c,el,fz,X,by rw[hb];exact h2,h3,?_⟩;have:∀(Q vK:ag),V.Ey ν Q=some vK->∀(s:Nat),mH E s Q c->mH E' s vK c:=by
      intro Q
      induction Q with
      |nil=>intro vK h s r;simp only[V.Ey,an]at h;subst h;intro i v e;simp at e
      |cons x xs ih=>
       intro vK h s r;simp only[V.Ey]at h;split at h
       . rename_i x2 M;split at h
         . rename_i O0 CR;obtain rfl:=eE h;intro i v e;cases i with
           |zero=>
            simp only[bK,an]at e;subst e;obtain⟨v',k1,k2⟩:=r 0 x (by simp);exact⟨v',k1,tZ jl pP lJ _ _ _ M k2⟩
           |succ i=>
            simp only[cD]at e;obtain⟨v',k1,k2⟩:=ih O0 CR (s+1) (fun j v e=>by
             obtain⟨v',k1,k2⟩:=r (j+1) v (by simpa using e);exact⟨v',by rw[<- k1];congr 1;omega,k2⟩) i v e
            exact⟨v',by rw[<- k1];congr 1;omega,k2⟩
         . cases h
       . cases h
     exact this Q vK pT s h4
   . cases h
 | .map C cl,o2,h,⟨hs,gi,X,h2⟩=>by
   simp only[rs.rn]at h;split at h
   . rename_i xx U1;obtain rfl:=eE h;exact⟨hs,gi,X,I0 jl pP lJ _ _ _ U1 h2⟩
   . cases h
 | .oh st p,o2,h,r=>by simp only[rs.rn,an]at h;subst h;exact r
 | .ints k ks,o2,h,⟨c,el,fz,X,h2,h3⟩=>by simp only[rs.rn,an]at h;subst h;exact⟨c,el,fz,X,by rw[hb];exact h2,h3⟩
 | .own k ks,o2,h,⟨c,el,fz,X,h2,h3,h4⟩=>by simp only[rs.rn,an]at h;subst h;exact⟨c,el,fz,X,by rw[hb];exact h2,h3,xq h4⟩
 | .deep Q,o2,h,⟨c,el,fz,vs,X,h2,h3,h4,h5⟩=>by simp only[rs.rn,an]at h;subst h;exact⟨c,el,fz,vs,X,by rw[hb];exact h2,h3,jf lJ _ _ h4,h5⟩
 | .ia el Bg t,o2,h,⟨c,fz,xs,X,h0,h2,h3⟩=>by simp only[rs.rn,an]at h;subst h;exact⟨c,fz,xs,X,h0,by rw[hb];exact h2,h3⟩
 | .BO t self x,o2,h,⟨hs,x',fz,X,h2,h3,h4⟩=>by
   simp only[rs.rn]at h;split at h
   . rename_i x2 M;obtain rfl:=eE h;exact⟨hs,x',fz,X,by rw[hb];exact h2,h3,tZ jl pP lJ _ _ _ M h4⟩
   . cases h
 | .dy kk C,o2,h,⟨hs,gi,cl,X,h2⟩=>by simp only[rs.rn,an]at h;subst h;exact⟨hs,gi,cl,X,h2.mono lJ⟩
 | .nf,o2,h,r=>by simp only[rs.rn,an]at h;subst h;exact r
 | .loop st pe S ps a b',o2,h,⟨r,X,h2,h3,h4,h5,h6,h7,h8⟩=>by
   simp only[rs.rn]at h;split at h
   . rename_i hs;obtain rfl:=eE h;exact⟨r,X,h2,h3,h4,h5,h6,fun t v e=>let⟨v',k1,k2⟩:=h7 t v e;⟨v',k1,AH jl pP lJ v v' (vJ S hs t v e) k2⟩,h8⟩
   . cases h
end
theorem Bx{ν:Nat->Option Nat}{o o2:rs}(h:o.rn ν=some o2):o2.wr=o.wr:=by
 cases o<;>simp only[rs.rn]at h<;>(try split at h)<;>first|(obtain rfl:=eE h;rfl)|cases h
def G2:H V->List Nat->List Nat
 | .nil,l=>l
 | .node v a b,l=>(match v with|some v=>V.names v|none=>id) (G2 a (G2 b l))
def rs.nms:rs->List Nat
 | .loop _ _ S _ _ _=>G2 S []
 |o=>o.names
def M8(h:H rs):Nat->List Nat->H Nat->List Nat->Nat->Option (H Nat×List Nat×Nat)
 |0,_,_,_,_=>none
 |_+1,[],ρ,qq,k=>some (ρ,qq,k)
 |f+1,m::q,ρ,qq,k=>match ρ.get m with
  |some _=>M8 h f q ρ qq k
  |none=>M8 h f ((match h.get m with|some o=>o.nms|none=>[])++q) (ρ.set m (some k)) (m::qq) (k+1)
def aaz:Nat->H Nat
 |0=>.nil
 |k+1=>(aaz k).set k (some k)
def K5:Nat->List Nat
 |0=>[]
 |k+1=>k::K5 k
def Di(h:H rs):Nat->List Nat->List Nat
 |0,l=>l
 |k+1,l=>(match h.get k with|some o=>o.nms|none=>[])++Di h k l
def Cg(ν:Nat->Option Nat):Nat->Bool
 |0=>true
 |k+1=>Dh ν k&&Cg ν k
theorem zy{ν:Nat->Option Nat}:∀{k:Nat},Cg ν k=true->∀m,m<k->ν m=some m
 |0,_,m,W=>by omega
 |k+1,h,m,W=>by
  simp only[Cg,aE]at h;by_cases e:m=k
  . subst e;exact oJ h.1
  . exact zy h.2 m L
def Dj(ν:Nat->Option Nat)(h:H rs):List Nat->H rs->Option (H rs)
 | [],t=>some t
 |m::r,t=>match h.get m with
  |none=>Dj ν h r t
  |some o=>match ν m with
   |some k=>match o.rn ν with
    |some o2=>match Nat.blt k fW with
     |true=>Dj ν h r (t.set k (some o2))
     |false=>none
    |none=>none
   |none=>none
theorem ud{ν:Nat->Option Nat}{h:H rs}:∀(l:List Nat) (t t2:H rs),Dj ν h l t=some t2->(∀k o2,t.get k=some o2->∃m o,ν m=some k/\h.get m=some o/\o.rn ν=some o2)->
  ∀k o2,t2.get k=some o2->∃m o,ν m=some k/\h.get m=some o/\o.rn ν=some o2
 | [],t,t2,e,ht=>by simp only[Dj,an]at e;subst e;exact ht
 |m::r,t,t2,e,ht=>by
  simp only[Dj]at e;split at e
  . exact ud r t t2 e ht
  . rename_i o ho;split at e
    . rename_i k hk;split at e
      . rename_i o2 GW;split at e
        . rename_i fH;refine ud r _ t2 e fun j o3 h3=>?_;rw[H.eY _ _ _ (by simp[Nat.blt]at fH;omega)]at h3;split at h3
          . rename_i hj;obtain rfl:=eE h3;subst hj;exact⟨m,o,hk,ho,GW⟩
          . exact ht j o3 h3
        . cases e
      . cases e
    . cases e
def yg(ν:Nat->Option Nat)(S:H V):List Nat->H V->Option (H V)
 | [],t=>some t
 |m::r,t=>match S.get m with
  |none=>yg ν S r t
  |some v=>match v.rn ν with
   |some v2=>match Nat.blt m fW with
    |true=>yg ν S r (t.set m (some v2))
    |false=>none
   |none=>none
theorem rX{ν:Nat->Option Nat}{S:H V}:∀(l:List Nat) (t t2:H V),yg ν S l t=some t2->(∀k v2,t.get k=some v2->∃v,S.get k=some v/\v.rn ν=some v2)->
  ∀k v2,t2.get k=some v2->∃v,S.get k=some v/\v.rn ν=some v2
 | [],t,t2,e,ht=>by simp only[yg,an]at e;subst e;exact ht
 |m::r,t,t2,e,ht=>by
  simp only[yg]at e;split at e
  . exact rX r t t2 e ht
  . rename_i v hv;split at e
    . rename_i v2 hv2;split at e
      . rename_i fH;refine rX r _ t2 e fun j o3 h3=>?_;rw[H.eY _ _ _ (by simp[Nat.blt]at fH;omega)]at h3;split at h3
        . rename_i hj;obtain rfl:=eE h3;subst hj;exact⟨v,hv,hv2⟩
        . exact ht j o3 h3
      . cases e
    . cases e
def O1(ν:Nat->Option Nat):List (FuncId×ag×ag)->Option (List (FuncId×ag×ag))
 | []=>some []
 |(f,[],[.map (some m)])::r=>match Nat.beq f fW with
  |true=>match ν m with
   |some k=>match O1 ν r with
    |some r=>some ((fW,[],[.map (some k)])::r)
    |none=>none
   |none=>none
  |false=>none
 |_::_=>none
def Dk:List (FuncId×ag×ag)->List Nat->List Nat
 |(_,_,[.map (some m)])::r,l=>m::Dk r l
 |_,l=>l
theorem Dl{ν:Nat->Option Nat}{E E':Env}(jl:∀m k,ν m=some k->E'.ι k=E.ι m):∀(l l2:List (FuncId×ag×ag)) (ds:List Deferred),O1 ν l=some l2->xz E l ds->xz E' l2 ds
 | [],l2,ds,e,r=>by simp only[O1,an]at e;subst e;exact r
 |(f,c,args)::r,l2,ds,e,h=>by
  unfold O1 at e;split at e
  . rename_i K6;cases K6
  . rename_i f' m r' K6;cases K6;split at e
    . rename_i hf;have hf:=aG hf;subst hf;split at e
      . rename_i k hk;split at e
        . rename_i r2 hr;obtain rfl:=eE e;obtain⟨d,ys,r1,r2',q⟩:=h;refine⟨d,ys,?_,Dl jl _ _ _ hr r2',q⟩;rcases r1 with⟨fH,_⟩|⟨_,m',b,s,q1,q2,q3⟩
          . exact absurd fH (cB _)
          . simp only[List.cons.injEq,V.map.injEq,an,and_true]at q1;subst q1;exact .inr ⟨rfl,k,b,s,rfl,(jl _ k hk).trans q2,q3⟩
        . cases e
      . cases e
    . cases e
  . cases e
def fe(I:Nat)(live:List Nat)(s:St):Option St:=
 match Nat.ble I s.n with
 |false=>none
 |true=>match M8 s.h 100000 (Di s.h I (sR s.S live++Dk s.gD [])) (aaz I) (K5 I) I with
  |some (ρ,qq,k)=>
   let ν:=dL ρ (ye qq k .nil) k
   match(Cg ν I&&Nat.ble I k)&&Nat.ble gN I with
   |true=>match Dj ν s.h qq .nil with
    |some h2=>match yg ν s.S live .nil with
     |some yb=>match O1 ν s.gD with
      |some d2=>some { S:=yb,h:=h2,n:=k,gD:=d2 }
      |none=>none
     |none=>none
    |none=>none
   |false=>none
  |none=>none
structure l7(I:Nat)(E:Env)(h:H rs)(w:World)(E':Env)(h':H rs)(w':World):Prop where
 le:∀m b s,m<I->E.ι m=some (b,s)->E'.ι m=some (b,s)/\E'.β b=E.β b
 low:∀m,m<I->E'.ι m=E.ι m
 fz:∀b c,E.φ b=some c->E'.φ b=some c
 good:Good E' h' w'
 size:w.heap.size<=w'.heap.size
 tape:w'.tape=w.tape
 os:w'.os=w.os
 output:w'.output=w.output
 keep:∀b,b<w.heap.size->(∀m s,eG h m->E.ι m≠some (b,s))->w'.heap[b]? =w.heap[b]?
 uF:∀m b s,h'.get m≠none->E'.ι m=some (b,s)->b<w.heap.size->∃m0 s0,h.get m0≠none/\E.ι m0=some (b,s0)/\(eG h' m->eG h m0)
 Eu:∀b c,E'.φ b=some c->E.φ b=some c\/w.heap.size<=b\/∃m s,eG h m/\E.ι m=some (b,s)
theorem l7.of{I n:Nat}{E E':Env}{h h':H rs}{w w':World}(u:iI E h w E' h' w')(fT:∀m,m<n->E'.ι m=E.ι m)(hn:I<=n):l7 I E h w E' h' w':=
 ⟨fun m b s _ e=>u.le.nm m b s e,fun m W=>fT m L,u.le.fz,u.good,u.size,u.tape,u.os,u.output,u.keep,u.uF,u.Eu⟩
theorem l7.trans{I:Nat}{E E1 E2:Env}{h X h2:H rs}{w w1 w2:World}(a:l7 I E h w E1 X w1)(b:l7 I E1 X w1 E2 h2 w2):l7 I E h w E2 h2 w2 where
 le:=fun m x s W e=>by
  obtain⟨e1,b1⟩:=a.le m x s W e;obtain⟨e2,b2⟩:=b.le m x s W e1;exact⟨e2,b2.trans b1⟩
 low:=fun m W=>(b.low m W).trans (a.low m W)
 fz:=fun x c e=>b.fz x c (a.fz x c e)
 good:=b.good
 size:=bR a.size b.size
 tape:=b.tape.trans a.tape
 os:=b.os.trans a.os
 output:=b.output.trans a.output
 keep:=fun x M hn=>by
  rw[b.keep x (bC M a.size) ?_,a.keep x M hn];intro m s W e;obtain⟨m0,s0,_,e0,k0⟩:=a.uF m x s W.live e M;exact hn m0 s0 (k0 W) e0
 uF:=fun m x s W e M=>by
  obtain⟨m1,s1,k1,e1,l1⟩:=b.uF m x s W e (bC M a.size);obtain⟨m0,s0,k0,e0,l0⟩:=a.uF m1 x s1 k1 e1 M;exact⟨m0,s0,k0,e0,fun q=>l0 (l1 q)⟩
 Eu:=fun x c J=>by
  rcases b.Eu x c J with q|q|⟨m,s,q1,q2⟩
  . exact a.Eu x c q
  . exact .inr (.inl (bR a.size q))
  . rcases bO x w.heap.size with M|M
    . obtain⟨m0,s0,_,e0,k0⟩:=a.uF m x s q1.live q2 M;exact .inr (.inr ⟨m0,s0,k0 q1,e0⟩)
    . exact .inr (.inl M)
theorem l7.refl{I:Nat}{E:Env}{h:H rs}{w:World}(g:Good E h w):l7 I E h w E h w:=
 .of (n:=I) (iI.refl g) (fun _ _=>rfl) (aC _)
theorem l7.qT{I:Nat}{E E':Env}{h h':H rs}{w w':World}(u:l7 I E h w E' h' w')(hd:rL E I):iI E h w E' h' w':=
 ⟨⟨fun m b s e=>u.le m b s (by
  by_cases q:m<I
  . exact q
  . rw[hd m (Nat.le_of_not_lt q)]at e;cases e) e,u.fz⟩,u.good,u.size,u.tape,u.os,u.output,u.keep,u.uF,u.Eu⟩
theorem rY{I rt:Nat}{live:List Nat}{s s2:St}{E:Env}{a:Act}{w:World}(e:fe I live s=some s2)(r:kI E rt s a w):I<=s.n/\I<=s2.n/\∃E2,kI E2 rt s2 a w/\l7 I E s.h w E2 s2.h w:=by
 unfold fe at e;split at e
 . cases e
 rename_i hn;split at e
 case h_2=>cases e
 rename_i ρ qq k ht;revert e;generalize afi:ye qq k .nil=back;intro e;simp only at e;split at e
 case h_2=>cases e
 rename_i fT;simp only[aE]at fT;split at e
 case h_2=>cases e
 rename_i h2 hh;split at e
 case h_2=>cases e
 rename_i yb yN;split at e
 case h_2=>cases e
 rename_i d2 GX;simp only[an]at e;subst e
 let E2:Env:=⟨fun m=>if m<k then(match back.get m with|some old=>E.ι old|none=>none)else none,E.β,E.φ⟩
 have jl:∀m j,dL ρ back k m=some j->E2.ι j=E.ι m:=by
  intro m j hj;obtain⟨_,h2,h3⟩:=Bw hj;show(if j<k then(match back.get j with|some old=>E.ι old|none=>none)else none)=_;rw[aF h3,h2]
 have Bm:∀m,m<I->E2.ι m=E.ι m:=fun m W=>jl m m (zy fT.1.1 m W);have OV:=ud qq .nil h2 hh (fun j o hj=>by simp[H.get]at hj);have qZ:Good E2 h2 w:=by
  refine⟨?_,?_,?_,fun p hp=>(Bm _ (bC (Ce hp) (ax fT.2))).trans (r.good.jy p hp),fun b c q=>⟨(r.good.gX b c q).1,fun m s1 W e1=>?_⟩⟩
  case refine_4=>
   obtain⟨o,ho,hwo⟩:=W;obtain⟨old,p,k1,k2,k3⟩:=OV m o ho;rw[jl old m k1]at e1;exact(r.good.gX b c q).2 old s1 ⟨p,k2,(Bx k3).symm.trans hwo⟩ e1
  . intro m o2 W;obtain⟨old,o,k1,k2,k3⟩:=OV m o2 W;obtain⟨b,s',e1,e2⟩:=r.good.rel old o k2;exact⟨b,s',(jl old m k1).trans e1,Cf jl (fun _ _ _ _ _ _=>rfl) (fun _ _ q=>q) rfl o o2 k3 e2⟩
  . intro m m' b s1 s2 fS W tN e1 e2;obtain⟨o,ho,hwo⟩:=W;obtain⟨o',EL⟩:=bh.1 tN;obtain⟨old,p,k1,k2,k3⟩:=OV m o ho;obtain⟨BR,p',VK,k2',_⟩:=OV m' o' EL;rw[jl old m k1]at e1;rw[jl BR m' VK]at e2;by_cases pb:old=BR
    . subst pb;rw[k1]at VK;simp only[an]at VK;exact fS VK
    . exact r.good.inj old BR b s1 s2 pb ⟨p,k2,(Bx k3).symm.trans hwo⟩ (by rw[k2'];simp) e1 e2
  . intro m b s1 e1;have e1:(if m<k then(match back.get m with|some old=>E.ι old|none=>none)else none)=some (b,s1):=e1;split at e1
    . split at e1
      . exact r.good.ny _ b s1 e1
      . cases e1
    . cases e1
 refine⟨ax hn,ax fT.1.2,E2,⟨qZ,?_,?_,r.size,?_⟩,?_⟩
 . intro m W;show(if m<k then _ else none)=none;rw[aJ (by show ¬m<k;have:k<=m:=W;omega)]
 . intro t v2 hv;obtain⟨v,k1,k2⟩:=rX live .nil yb yN (fun j o hj=>by simp[H.get]at hj) t v2 hv;obtain⟨v',X,h2⟩:=r.S t v k1;exact⟨v',X,tZ jl (fun _ _ _ _ _ _=>rfl) (fun _ _ q=>q) v v2 v' k2 h2⟩
 . exact Dl jl _ _ _ GX r.gD
 . refine⟨fun m b s1 W e1=>⟨(Bm m W).trans e1,rfl⟩,Bm,fun _ _ q=>q,qZ,aC _,rfl,rfl,rfl,fun _ _ _=>rfl,?_,fun _ _ q=>.inl q⟩;intro m b s1 W e1 hb;obtain⟨o,ho⟩:=bh.1 W;obtain⟨old,p,k1,k2,k3⟩:=OV m o ho;rw[jl old m k1]at e1;refine⟨old,s1,by rw[k2];simp,e1,fun⟨o',q1,q2⟩=>⟨p,k2,?_⟩⟩;rw[ho]at q1;cases q1;exact(Bx k3).symm.trans q2
def M9:Code->Bool | .seq _ _=>true|_=>false
def dS:Code->Code | .seq a _=>a|c=>c
def dU:Code->Code | .seq _ b=>b|c=>c
def Rv(c:Code)(o:Operand->Bool):Bool:=match c with | .cond x _ _=>o x|_=>false
def Y0:Code->Operand | .cond c _ _=>c|_=>.const (.bool true)
def Na:Code->Code | .cond _ a _=>a|c=>c
def Y1:Code->Code | .cond _ _ b=>b|c=>c
def Ch:Code->Nat->Bool | .block i _,j=>Nat.beq i j|_,_=>false
def Dm:Code->Bool | .loop _=>true|_=>false
def dD:Code->Code | .block _ c=>c | .loop c=>c|c=>c
def eU:Nat->Code->Code
 |k+1,.seq a b=>.seq a (eU k b)
 |_,_=>.skip
def dw:Nat->Code->Code
 |k+1,.seq _ b=>dw k b
 |_,c=>c
section
variable{P:Program}{cf:ga}{fl rt:Nat}{w0:World}{c:Code}{s s':St}{cs Q1:Exit->St->Prop}
def andThen(nx:St->Prop)(cs:Exit->St->Prop):Exit->St->Prop
 | .normal,s=>nx s
 |y,s=>cs y s
def mK(i:Nat)(cs:Exit->St->Prop):Exit->St->Prop
 | .exit j,s=>if j=i then cs .normal s else cs (.exit j) s
 |y,s=>cs y s
def H.beq{α:Type}(eq:α->α->Bool):H α->H α->Bool
 | .nil,.nil=>true
 | .node a l r,.node b l' r'=>(match a,b with|none,none=>true|some a,some b=>eq a b|_,_=>false)&&(H.beq eq l l'&&H.beq eq r r')
 |_,_=>false
def Nb:List (V×V×Nat)->List (V×V×Nat)->Bool
 | [],[]=>true
 |x::xs,y::ys=>(V.beq x.1 y.1&&V.beq x.2.1 y.2.1)&&(Nat.beq x.2.2 y.2.2&&Nb xs ys)
 |_,_=>false
def rs.beq:rs->rs->Bool
 | .cells a,.cells b=>V.qg a b
 | .map a c,.map b d=>Nb a b&&Nat.beq c d
 | .oh a p,.oh b q=>eI a b&&Nat.beq p q
 | .ints k a,.ints j b=>decide (k=j)&&decide (a=b)
 |_,_=>false
def St.beq(a b:St):Bool:=H.beq V.beq a.S b.S&&(H.beq rs.beq a.h b.h&&(Nat.beq a.n b.n&&(a.gD.isEmpty&&b.gD.isEmpty)))
end
mutual
def V.rZ:V->Bool
 | .fn (.func _) a c=>V.q9 a&&V.q9 c
 | .fn _ _ _=>false
 | .iface _ x=>V.rZ x
 | .agg Q=>V.q9 Q
 | .ew Q=>V.q9 Q
 |_=>true
def V.q9:ag->Bool
 | []=>true
 |x::xs=>V.rZ x&&V.q9 xs
end
mutual
theorem V.beq_refl:∀v:V,v.rZ=true->V.beq v v=true
 | .bool b,_=>by cases b<;>rfl
 | .int k n,_=>by simp[V.beq]
 | .str s,_=>by simp[V.beq,gr]
 | .ptr none,_=>rfl
 | .ptr (some (m,o)),_=>by simp[V.beq,rQ]
 | .dx none l c e,_=>by simp[V.beq,rQ]
 | .dx (some (m,o)) l c e,_=>by simp[V.beq,rQ]
 | .map none,_=>rfl
 | .map (some m),_=>by simp[V.beq,Gv]
 | .fn f a c,h=>by
   cases f<;>simp only[V.rZ,aP,aE]at h;simp[V.beq,QH,V.sU a h.1,V.sU c h.2]
 | .kT,_=>rfl
 | .iface t x,h=>by simp only[V.rZ]at h;simp[V.beq,V.beq_refl x h]
 | .nilIface,_=>rfl
 | .agg Q,h=>by simp only[V.rZ]at h;simp[V.beq,V.sU Q h]
 | .ew Q,h=>by simp only[V.rZ]at h;simp[V.beq,V.sU Q h]
 | .dV f n Q,_=>by simp[V.beq,qV Q]
 | .eK Q,_=>by simp[V.beq,qV Q]
theorem V.sU:∀vs:ag,V.q9 vs=true->V.qg vs vs=true
 | [],_=>rfl
 |x::xs,h=>by simp only[V.q9,aE]at h;simp[V.qg,V.beq_refl x h.1,V.sU xs h.2]
end
inductive Ob where
 |same (a b:V)
 |call (f:FuncId) (args:ag) (v:V)
def Ob.ok(cf:ga):Ob->Prop
 | .same a b=>a=b
 | .call f args v=>∀h n,cf f args h n=some (.ret v,h,n)
end Go.Eng
