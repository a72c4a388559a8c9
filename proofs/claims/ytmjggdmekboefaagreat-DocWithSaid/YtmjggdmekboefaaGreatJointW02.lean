/- Lemmas of the engine. No conditions. -/
import Derived.Test.YtmjggdmekboefaaGreatJointW01
import Derived.OrdersIn
import Derived.Recover
import Derived.LoopN
import Derived.LoopNIn
import Derived.RangeFuncRecord
import Derived.RangeFuncIn
import Derived.RangeFuncLeaves
import Derived.Below
set_option linter.unusedVariables false
set_option linter.unusedSimpArgs false
set_option linter.unusedSectionVars false
namespace Go.Eng
open Go
section
variable{P:Program}{cf:gm}{ops:Array Oper}{X hc ig:Nat}{h0:I es}{lp:I V}{val:Nat->V}{ee:List uw}{d:Dr}{E0:Env}{w0:World}{yc:List Deferred}
variable{dy:Nat->Bool}{ms hx:Nat}{E:Env}{a:Act}{w:World}{Q:Exit->Act->World->Prop}{hm:Act->World->Prop}
theorem Inv.S5{dH:af}(Tr:Inv ops X hc ig h0 lp val ee dH E0 w0 yc dy ms hx E a w)(hl:ig<=ops.size):qy E (eT h0 (X+ops.size) ee hx).2.2:=by
 intro k U;cases q:E.ι k with
 |none=>rfl
 |some p=>
  have N:=Tr.DI;rcases Tr.rD k p q with h|⟨i,b,_,C,h3⟩|h
  . omega
  . have:=Tr.O8 i C;omega
  . omega
theorem Inv.sub(_hr:lD ops hc)(hl:ig<=ops.size)(f:mH P cf ops X h0 lp val ee ig d)(ht:∀y∈d.dH,X+y.1<gy)(Tr:Inv ops X hc ig h0 lp val ee d.dH E0 w0 yc dy ms hx E a w)
  {iF:Nat} (ha:∀k,eN iF k=true->dy k=true):
  Sub (gO X d.dH (eT h0 (X+ops.size) ee hx).1 (eT h0 (X+ops.size) ee hx).2.1 iF) (gO X d.dH (eT h0 (X+ops.size) ee hx).1 (eT h0 (X+ops.size) ee hx).2.1 ms):=by
 intro k o U;rcases jg (x:=(eT h0 (X+ops.size) ee hx).2.1) (m:=(eT h0 (X+ops.size) ee hx).1) (iF:=iF) ht f.one k with⟨i,b,h1,C,h3,h4,h5⟩|⟨h1,C⟩
 . rw[h5]at U;cases U;subst h4;exact ju ht f.one h1 (by rw[Tr.bits];exact ha i C) h3
 . rw[C]at U;rcases jg (x:=(eT h0 (X+ops.size) ee hx).2.1) (m:=(eT h0 (X+ops.size) ee hx).1) (iF:=ms) ht f.one k with⟨i,b,g1,g2,g3,g4,g5⟩|⟨g1,g2⟩
   . subst g4;have hi:=Tr.O8 i (by rw[<- Tr.bits];exact g2);rw[Tr.free i S g3]at U;cases U
   . rw[g2];exact U
theorem nj(Y:∀i,eN ms i=dy i)(j:Nat):∀i,eN (ms|||2^j) i=(dy i||decide (i=j)):=by
 intro i;rw[zz,Cr,Y];by_cases q:i=j
 . subst q;simp
 . have:¬j=i:=fun e=>q e.symm;simp[q,this]
theorem Inv.quiet(hr:lD ops hc)(_hl:ig<=ops.size)(_f:mH P cf ops X h0 lp val ee ig d)(Tr:Inv ops X hc ig h0 lp val ee d.dH E0 w0 yc dy ms hx E a w)
  {j:Nat} {o:Oper} (ho:ops[j]? =some o) (hj:j<ig) (xC:dy j=false) (hd:∀e∈o.after,Region.binds .any e=true->dy e.on=true) (Cw:∀(c:Nat) (e:uw),ee[c]? =some e->e.1≠j)
  {E':Env} {w':World} {v':Value} (hv:eB E' (val j) v') (hu:jf E0 h0 w0 E' (gO X d.dH (eT h0 (X+ops.size) ee hx).1 (eT h0 (X+ops.size) ee hx).2.1 (ms|||2^j)) w') (mg:E.le E')
  (pW:∀k,k<X->E'.ι k=E.ι k) (p9:∀k p,E'.ι k=some p->E.ι k=some p\/(∃b,(j,b)∈d.dH/\k=X+j)):
  Inv ops X hc ig h0 lp val ee d.dH E0 w0 yc (fun i=>dy i||decide (i=j)) (ms|||2^j) hx E' (a.put o.dst v') w':=by
 obtain⟨g1,g2⟩:=Tr.frame hr ho mg hv;refine⟨nj Tr.bits j,fun i hi=>?_,fun i q hi hq e he Y=>?_,fun c e he=>?_,Tr.Jle,g1,g2,hu,fun k U=>by rw[pW k U];exact Tr.old k U,fun k p hp=>?_,Tr.free,Tr.DI,by rw[l9];exact Tr.size,by rw[jS];exact Tr.iE⟩
 . rcases cg _ _ |>.mp hi with h|h
   . exact Tr.O8 i h
   . simp at h;omega
 . rcases cg _ _ |>.mp hi with h|h
   . rw[Tr.closed i q h hq e he Y];rfl
   . simp at h;subst h;rw[ho]at hq;cases hq;rw[hd e he Y];rfl
 . rw[<- Tr.DY c e he];simp[Cw c e he]
 . rcases p9 k p hp with h|⟨b,h1,C⟩
   . rcases Tr.rD k p h with h|⟨i,b,h1,C,h3⟩|h
     . exact .inl h
     . exact .inr (.inl ⟨i,b,h1,by rw[C];rfl,h3⟩)
     . exact .inr (.inr h)
   . exact .inr (.inl ⟨j,b,h1,by simp,C⟩)
theorem Inv.acq(hr:lD ops hc)(hl:ig<=ops.size)(f:mH P cf ops X h0 lp val ee ig d)(ht:∀y∈d.dH,X+y.1<gy)(Tr:Inv ops X hc ig h0 lp val ee d.dH E0 w0 yc dy ms hx E a w)
  {iF:Nat} (ha:∀k,eN iF k=true->dy k=true) (K:∀k,eN (eT h0 (X+ops.size) ee hx).1 k=true->eN iF k=true) {E':Env} {h:I es} {w':World}
  (hu:jf E (gO X d.dH (eT h0 (X+ops.size) ee hx).1 (eT h0 (X+ops.size) ee hx).2.1 iF) w E' h w') (fT:∀k,k<(eT h0 (X+ops.size) ee hx).2.2->E'.ι k=E.ι k):
  ∀i,i<ops.size->eN iF i=false->h.get (X+i)=none:=by
 intro i hi HZ;cases q:h.get (X+i)with
 |none=>rfl
 |some o=>
  exfalso;obtain⟨b,s,h1,_⟩:=hu.good.rel _ o q;have eY:X+i<(eT h0 (X+ops.size) ee hx).2.2:=by have:=Tr.DI;omega
  have hE:=h1;rw[fT _ eY]at hE;have hmi:eN (eT h0 (X+ops.size) ee hx).1 i=false:=by
   cases c:eN (eT h0 (X+ops.size) ee hx).1 i with
   |false=>rfl
   |true=>rw[K i c]at HZ;cases HZ
  rcases Tr.rD _ _ hE with c|⟨i',b',k1,k2,k3⟩|c
  . omega
  . have:i'=i:=by omega
    subst this;have jm:(gO X d.dH (eT h0 (X+ops.size) ee hx).1 (eT h0 (X+ops.size) ee hx).2.1 ms).get (X+i')=some b':=ju ht f.one k1 (by rw[Tr.bits];exact k2) hmi;obtain⟨m0,s0,a1,a2,_⟩:=hu.vN (X+i') b s (by rw[q];simp) h1 (Tr.Cl.good.qt _ _ _ hE);have J:(gO X d.dH (eT h0 (X+ops.size) ee hx).1 (eT h0 (X+ops.size) ee hx).2.1 iF).get (X+i')=none:=by
     rcases jg (x:=(eT h0 (X+ops.size) ee hx).2.1) (m:=(eT h0 (X+ops.size) ee hx).1) (iF:=iF) ht f.one (X+i')with⟨i2,b2,g1,g2,g3,g4,g5⟩|⟨g1,g2⟩
     . have:i2=i':=by omega
       subst this;rw[HZ]at g2;cases g2
     . rw[g2];exact Tr.free i' hi hmi
    have jw:m0≠X+i':=by intro e;subst e;exact a1 J
    have hwr:b'.wr=true:=by
     obtain⟨T,_,_,_,_,q,_⟩:=f.Bt i' _ b' k1 (aY hi);exact q
    refine Tr.Cl.good.inj (X+i') m0 b s s0 (fun q=>jw q.symm) ⟨b',jm,hwr⟩ ?_ hE a2;cases c:(gO X d.dH (eT h0 (X+ops.size) ee hx).1 (eT h0 (X+ops.size) ee hx).2.1 iF).get m0 with
    |none=>exact absurd c a1
    |some o'=>rw[Tr.sub hr hl f ht ha m0 o' c];simp
  . omega
theorem Inv.effect(hr:lD ops hc)(hl:ig<=ops.size)(f:mH P cf ops X h0 lp val ee ig d)(ht:∀y∈d.dH,X+y.1<gy)(Tr:Inv ops X hc ig h0 lp val ee d.dH E0 w0 yc dy ms hx E a w)
  {j:Nat} {o:Oper} (ho:ops[j]? =some o) (hj:j<ig) (xC:dy j=false) (hd:∀e∈o.after,Region.binds .any e=true->dy e.on=true) (Aw:∀b,(j,b)∉d.dH)
  {h:I es} {n:Nat} (he:ee[hx]? =some (j,gT ops j,h,n)) {E':Env} {w':World} {v':Value} (hv:eB E' (val j) v')
  (hu:jf E (gO X d.dH (eT h0 (X+ops.size) ee hx).1 (eT h0 (X+ops.size) ee hx).2.1 (gT ops j)) w E' h w')
  (fT:∀k,k<(eT h0 (X+ops.size) ee hx).2.2->E'.ι k=E.ι k) (p9:qy E' n) (hn:(eT h0 (X+ops.size) ee hx).2.2<=n):
  Inv ops X hc ig h0 lp val ee d.dH E0 w0 yc (fun i=>dy i||decide (i=j)) (ms|||2^j) (hx+1) E' (a.put o.dst v') w':=by
 have hJ:hx<ee.length:=(aO.1 he).1;have ny:eT h0 (X+ops.size) ee (hx+1)=(gT ops j,h,n):=by simp only[eT,he]
 have Bd:∀k,eN (gT ops j) k=true->dy k=true:=fun k U=>rU hr Tr.closed ho hd U;have K:∀k,eN (eT h0 (X+ops.size) ee hx).1 k=true->eN (gT ops j) k=true:=by
  intro k U;cases hx with
  |zero=>simp[eT,jn]at U
  |succ c=>
   have N:ee[c]? =some (ee[c]'(by omega)):=au S;simp only[eT,N]at U;obtain⟨_,o',_,_,h3⟩:=f.tS c _ N;rw[h3]at U;exact Eu hr.wm j _ k (f.chain (c+1) c _ _ S he N) U
 have VK:=Tr.acq hr hl f ht Bd K hu fT;obtain⟨g1,g2⟩:=Tr.frame hr ho hu.le hv;have N:=Tr.DI;refine⟨nj Tr.bits j,fun i hi=>?_,fun i q hi hq e Bc Y=>?_,fun c e Bc=>?_,hJ,g1,g2,?_,fun k U=>?_,fun k p hp=>?_,?_,?_,by rw[l9];exact Tr.size,by rw[jS];exact Tr.iE⟩
 . rcases cg _ _ |>.mp hi with h|h
   . exact Tr.O8 i h
   . simp at h;omega
 . rcases cg _ _ |>.mp hi with h|h
   . rw[Tr.closed i q h hq e Bc Y];rfl
   . simp at h;subst h;rw[ho]at hq;cases hq;rw[hd e Bc Y];rfl
 . have h1:=Tr.DY c e Bc;constructor
   . intro hs;rcases cg _ _ |>.mp hs with q|q
     . have:=h1.1 q;omega
     . simp at q;by_cases hcJ:c<hx+1
       . exact hcJ
       . have:=f.chain c hx e _ S Bc he;simp only at this;rw[q]at this;have:=JZ hr.wm j j this;omega
   . intro J0;by_cases q:c<hx
     . rw[h1.2 q];rfl
     . have:c=hx:=by omega
       subst this;rw[he]at Bc;cases Bc;simp
 . rw[ny];refine Tr.Cl.trans (jf.frame Tr.Cl.good (Tr.sub hr hl f ht Bd) hu fun k=>?_);rcases jg (x:=h) (m:=gT ops j) (iF:=ms|||2^j) ht f.one k with⟨i,b,k1,k2,k3,k4,k5⟩|⟨k1,k2⟩
   . simp only[k5];subst k4;have hi:dy i=true:=by
      rw[nj Tr.bits]at k2;rcases cg _ _ |>.mp k2 with q|q
      . exact q
      . simp at q;subst q;exact absurd k1 (Aw b)
     have hmi:eN (eT h0 (X+ops.size) ee hx).1 i=false:=by
      cases c:eN (eT h0 (X+ops.size) ee hx).1 i with
      |false=>rfl
      |true=>rw[K i c]at k3;cases k3
     have jI:i<ops.size:=by have:=Tr.O8 i hi;omega
     rw[VK i jI k3];have J:(gO X d.dH (eT h0 (X+ops.size) ee hx).1 (eT h0 (X+ops.size) ee hx).2.1 (gT ops j)).get (X+i)=none:=by
      rcases jg (x:=(eT h0 (X+ops.size) ee hx).2.1) (m:=(eT h0 (X+ops.size) ee hx).1) (iF:=gT ops j) ht f.one (X+i)with⟨i2,b2,q1,q2,q3,q4,q5⟩|⟨q1,q2⟩
      . have:i2=i:=by omega
        subst this;rw[k3]at q2;cases q2
      . rw[q2];exact Tr.free i jI hmi
     simp only[J,if_true];rw[ju ht f.one k1 (by rw[Tr.bits];exact hi) hmi]
   . rw[k2];cases U:h.get k with
     |some o'=>rfl
     |none=>
      simp only;split
      . rename_i J;rcases jg (x:=(eT h0 (X+ops.size) ee hx).2.1) (m:=(eT h0 (X+ops.size) ee hx).1) (iF:=ms) ht f.one k with⟨i,b,q1,q2,q3,q4,q5⟩|⟨q1,q2⟩
        . exfalso;subst q4;cases c:eN (gT ops j) i with
          |false=>exact k1 i b q1 (by rw[nj Tr.bits];rw[Tr.bits]at q2;rw[q2];rfl) c rfl
          |true=>
           rw[ju ht f.one q1 c q3]at J;cases J
        . rw[q2];rcases jg (x:=(eT h0 (X+ops.size) ee hx).2.1) (m:=(eT h0 (X+ops.size) ee hx).1) (iF:=gT ops j) ht f.one k with⟨i,b,r1,r2,r3,r4,r5⟩|⟨r1,r2⟩
          . rw[r5]at J;cases J
          . rw[r2]at J;exact J.symm
      . rfl
 . rw[fT k S];exact Tr.old k U
 . by_cases q:k<(eT h0 (X+ops.size) ee hx).2.2
   . rw[fT k q]at hp;rcases Tr.rD k p hp with h|⟨i,b,h1,C,h3⟩|h
     . exact .inl h
     . exact .inr (.inl ⟨i,b,h1,by rw[C];rfl,h3⟩)
     . rw[ny];exact .inr (.inr ⟨h.1,by show k<n;omega⟩)
   . rw[ny];refine .inr (.inr ⟨S,?_⟩);by_cases q2:k<n
     . exact q2
     . rw[p9 k S]at hp;cases hp
 . rw[ny];exact fun i hi Y=>VK i hi Y
 . rw[ny];simp only;omega
end
section
variable{P:Program}{cf:gm}{ops:Array Oper}{X hc ig:Nat}{h0:I es}{lp:I V}{val:Nat->V}{ee:List uw}{d:Dr}{E0:Env}{w0:World}{yc:List Deferred}
variable{dy:Nat->Bool}{ms hx:Nat}{E:Env}{a:Act}{w:World}{Q:Exit->Act->World->Prop}{hm:Act->World->Prop}{rC:Option Nat}
theorem Inv.step(lK:gY P cf)(hr:lD ops hc)(hl:ig<=ops.size)(f:mH P cf ops X h0 lp val ee ig d)(ht:∀y∈d.dH,X+y.1<gy)(Tr:Inv ops X hc ig h0 lp val ee d.dH E0 w0 yc dy ms hx E a w)
  {j:Nat} {o:Oper} (ho:ops[j]? =some o) (hj:j<ig) (xC:dy j=false) (hd:∀e∈o.after,Region.binds .any e=true->dy e.on=true)
  (U:∀J' E' a' w',Inv ops X hc ig h0 lp val ee d.dH E0 w0 yc (fun i=>dy i||decide (i=j)) (ms|||2^j) J' E' a' w'->hm a' w'):wpOpIn (fz rC) 0 P ops Q j hm a w:=by
 have VL:j<ops.size:=by omega
 have Bd:∀k,eN (gT ops j) k=true->dy k=true:=fun k U=>rU hr Tr.closed ho hd U;have hmj:eN (eT h0 (X+ops.size) ee hx).1 j=false:=by
  cases c:eN (eT h0 (X+ops.size) ee hx).1 j with
  |false=>rfl
  |true=>rw[Tr.acp hr f c]at xC;cases xC
 have zl:E.ι (X+j)=none:=by
  cases q:E.ι (X+j)with
  |none=>rfl
  |some p=>
   rcases Tr.rD _ p q with h|⟨i,b,_,C,h3⟩|h
   . omega
   . have:i=j:=by omega
     subst this;rw[xC]at C;cases C
   . omega
 have VM:(∀b,(j,b)∉d.dH)->∀k,(gO X d.dH (eT h0 (X+ops.size) ee hx).1 (eT h0 (X+ops.size) ee hx).2.1 (ms|||2^j)).get k=
   (gO X d.dH (eT h0 (X+ops.size) ee hx).1 (eT h0 (X+ops.size) ee hx).2.1 ms).get k:=by
  intro Aw k;rcases jg (x:=(eT h0 (X+ops.size) ee hx).2.1) (m:=(eT h0 (X+ops.size) ee hx).1) (iF:=ms|||2^j) ht f.one k with⟨i,b,k1,k2,k3,k4,k5⟩|⟨k1,k2⟩
  . subst k4;rw[k5,ju ht f.one k1 ?_ k3];rw[nj Tr.bits]at k2;rcases cg _ _ |>.mp k2 with q|q
    . rw[Tr.bits];exact q
    . simp at q;subst q;exact absurd k1 (Aw b)
  . rw[k2,nV ht fun i b q1 q2 q3=>k1 i b q1 (by rw[nj Tr.bits];rw[Tr.bits]at q2;rw[q2];rfl) q3]
 unfold wpOpIn;simp only[ho];by_cases hal:∃b,(j,b)∈d.dH
 ·
  obtain⟨b,Y⟩:=hal;obtain⟨T,f1,f2,f3,f4,f6,f5⟩:=f.Bt j o b Y ho;rw[aD (Tr.wanted hr ho xC hd f1 f2)];refine(FB Tr.Cl.good zl (Tr.uF hr ho xC hd f1) (f5 _) fun E' w' v' q1 q2 q3 _=>U hx E' _ w' ?_);refine Tr.quiet hr hl f ho hj xC hd (fun c e he jw=>?_) q1 ?_ q2.le (fun k U=>q3 k S) (fun k p hp=>?_)
  . obtain⟨_,o',h1,C,_⟩:=f.tS c e he;rw[jw,ho]at h1;cases h1;rw[f3]at C;cases C
  . refine Tr.Cl.trans (q2.ext fun k=>?_);by_cases hkj:k=X+j
    . subst hkj;rw[I.o9 _ _ f4,ju ht f.one Y (by rw[nj Tr.bits];simp) hmj]
    . rw[I.wI _ _ f4 hkj];rcases jg (x:=(eT h0 (X+ops.size) ee hx).2.1) (m:=(eT h0 (X+ops.size) ee hx).1) (iF:=ms|||2^j) ht f.one k with⟨i,b',k1,k2,k3,k4,k5⟩|⟨k1,k2⟩
      . subst k4;rw[k5,ju ht f.one k1 ?_ k3];rw[nj Tr.bits]at k2;rcases cg _ _ |>.mp k2 with q|q
        . rw[Tr.bits];exact q
        . simp at q;subst q;exact absurd rfl hkj
      . rw[k2,nV ht fun i b q1 q2 q3=>k1 i b q1 (by rw[nj Tr.bits];rw[Tr.bits]at q2;rw[q2];rfl) q3]
  . by_cases hkj:k=X+j
    . exact .inr ⟨b,Y,hkj⟩
    . rw[q3 k hkj]at hp;exact .inl hp
 . have Aw:∀b,(j,b)∉d.dH:=fun b q=>hal ⟨b,q⟩;obtain⟨T,f1,f2⟩:=f.Xh j o hj ho;have look:gd ops o T=some true->pN o.op=false->eA P o T (gO X d.dH (eT h0 (X+ops.size) ee hx).1 (eT h0 (X+ops.size) ee hx).2.1 ms) (X+j)=
     some (.val (val j) (gO X d.dH (eT h0 (X+ops.size) ee hx).1 (eT h0 (X+ops.size) ee hx).2.1 ms) (X+j))->
     (if Region.wanted o (yielded ops a.tmps)=true then o.wpIn (fz rC) 0 P a w hm Q else(∀f,o.about P w a.eval=some f->(fz rC).fn f)/\hm (a.put o.dst undef) w):=by
    intro hw jw hs;rw[aD (Tr.wanted hr ho xC hd f1 hw)];refine(FB Tr.Cl.good zl (Tr.uF hr ho xC hd f1) hs fun E' w' v' q1 q2 q3 q4=>U hx E' _ w' ?_);rcases q4 with⟨_,rfl⟩|q4
    . refine Tr.quiet hr hl f ho hj xC hd (fun c e he M5=>?_) q1 (Tr.Cl.trans (q2.ext (VM Aw))) q2.le (fun _ _=>rfl) (fun _ _ hp=>.inl hp);obtain⟨_,o',h1,C,_⟩:=f.tS c e he;rw[M5,ho]at h1;cases h1;rw[jw]at C;cases C
    . omega
   rcases f2 with⟨hw,hv⟩|⟨_,_,b,q3,_⟩|⟨hw,jw,wX⟩|⟨hw,jw,tc,acs⟩|⟨hw,Cw,c,h,n,N,gx⟩
   ·
    rw[aA (by rw[Tr.wanted hr ho xC hd f1 hw];simp)];refine⟨fun _ _=>trivial,?_⟩;refine U hx E _ w (Tr.quiet (v':=undef) hr hl f ho hj xC hd (fun c e he M5=>?_) (by rw[hv];exact⟨[],rfl,rfl⟩) (Tr.Cl.ext (VM Aw)) E.le_refl (fun _ _=>rfl) (fun _ _ hp=>.inl hp));have JJ:=Tr.wanted hr ho xC hd f1 hw;have O7:=f.zB c e o he (by rw[M5];exact ho);obtain⟨fr3,g3,g4⟩:=O7;rw[M5]at g3;have S6:=Tr.wanted hr ho xC hd g3 g4;rw[JJ]at S6;cases S6
   . exact absurd q3 (Aw b)
   . exact look hw jw (wX _)
   . have c1:∀(c':Nat) (e:uw),hx<=c'->ee[c']? =some e->eN (gT ops j) e.1=false:=by
      intro c' e J0 he;cases q:eN (gT ops j) e.1 with
      |false=>rfl
      |true=>have:=(Tr.DY c' e he).1 (Bd _ q);omega
     have c2:∀(c':Nat) (e:uw),c'<hx->ee[c']? =some e->eN e.2.1 j=false:=by
      intro c' e J0 he;obtain⟨_,o',_,_,h3⟩:=f.tS c' e he;cases q:eN e.2.1 j with
      |false=>rfl
      |true=>
       rw[h3]at q;rw[Tr.iF hr ((Tr.DY c' e he).2 J0) q]at xC;cases xC
     obtain⟨y,hy⟩:=acs hx Tr.Jle c1 c2;rcases _root_.Go.Eng.quiet jw hy with⟨u,h1,C⟩|⟨u,b,h1,C,h3⟩
     . cases h1;exact look hw jw (C _ (Tr.sub hr hl f ht Bd))
     . simp only[s'.val.injEq]at C;omega
   ·
    have hcJ:c=hx:=by
     have h1:¬c<hx:=by
      intro q;have:=(Tr.DY c _ N).2 q;simp only at this;rw[xC]at this;cases this
     by_cases q:hx<c
     . have hJl:hx<ee.length:=by have:=(aO.1 N).1;omega
       have he:ee[hx]? =some ee[hx]:=au hJl;have:=f.chain c hx _ _ q N he;have:=(Tr.DY hx _ he).1 (Bd _ this);omega
     . omega
    subst hcJ;rw[aD (Tr.wanted hr ho xC hd f1 hw)];have VN:=Tr.Cl.good.sub (Tr.sub hr hl f ht Bd);have Ez:=Tr.S5 hl;simp only at gx;rcases gx with hs|⟨g,args,hs,acu⟩
    . refine FB VN (Ez _ (aK _)) (Tr.uF hr ho xC hd f1) hs fun E' w' v' q1 q2 q3 q4=>U (c+1) E' _ w' ?_;refine Tr.effect hr hl f ht ho hj xC hd Aw N q1 q2 (fun k U=>q3 k S) ?_ ?_
      . rcases q4 with⟨rfl,rfl⟩|rfl
        . exact Ez
        . intro k U;rw[q3 k S];exact Ez k S
      . rcases q4 with⟨rfl,_⟩|rfl<;>omega
    . refine Bs lK VN Ez (Tr.uF hr ho xC hd f1) hs acu fun E' w' q2 q3 q4 q5=>?_;intro v' q1;exact U (c+1) E' _ w' (Tr.effect hr hl f ht ho hj xC hd Aw N q1 q2 q3 q4 q5)
end
theorem filter_lt{α:Type}{p q:α->Bool}{x:α}:∀{l:List α},x∈l->p x=true->q x=false->(∀y,q y=true->p y=true)->(l.filter q).length<(l.filter p).length
 | [],h,_,_,_=>by simp at h
 |y::l,h,hp,hq,K=>by
  have mg:(l.filter q).length<=(l.filter p).length:=by
   clear h
   induction l with
   |nil=>simp
   |cons z l ih=>
    simp only[List.filter_cons];by_cases c:q z=true
    . rw[aD c,aD (K z c)];simp;exact ih
    . rw[aA c];by_cases c2:p z=true
      . rw[aD c2];simp;omega
      . rw[aA c2];exact ih
  simp only[List.filter_cons];rcases az.1 h with rfl|h
  . rw[aD hp,aA (by rw[hq];simp)];simp;omega
  . have ih:=filter_lt h hp hq K;by_cases c:q y=true
    . rw[aD c,aD (K y c)];simp;exact ih
    . rw[aA c];by_cases c2:p y=true
      . rw[aD c2];simp;omega
      . rw[aA c2];exact ih
def LB(n:Nat)(fj:Array Bool):Nat:=((List.range n).filter fun i=>!fj.getD i false).length
theorem nW{fj:Array Bool}{j:Nat}(hj:j<fj.size)(i:Nat):(fj.setIfInBounds j true).getD i false=(fj.getD i false||decide (i=j)):=by
 simp only[bK,Array.getElem?_setIfInBounds];by_cases q:i=j
 . subst q;simp[hj]
 . have:¬j=i:=fun e=>q e.symm;simp[q,this]
section
variable{P:Program}{cf:gm}{ops:Array Oper}{X hc ig:Nat}{h0:I es}{lp:I V}{val:Nat->V}{ee:List uw}{d:Dr}{E0:Env}{w0:World}{yc:List Deferred}
variable{Q:Exit->Act->World->Prop}{rC:Option Nat}
theorem EA(lK:gY P cf)(hr:lD ops hc)(hl:ig<=ops.size)(f:mH P cf ops X h0 lp val ee ig d)(ht:∀y∈d.dH,X+y.1<gy)
  (hQ:ig=ops.size->∀dy ms hx E a w,Inv ops X hc ig h0 lp val ee d.dH E0 w0 yc dy ms hx E a w->(∀i,i<ops.size->dy i=true)->Q .normal a w)
  (hP:ig<ops.size->ig+1=ops.size/\∀dy ms hx E a w o,Inv ops X hc ig h0 lp val ee d.dH E0 w0 yc dy ms hx E a w->ops[ig]? =some o->
   (∀e∈o.after,Region.binds .any e=true->dy e.on=true)->∀hm,wpOpIn (fz rC) 0 P ops Q ig hm a w):
  ∀(fuel:Nat) (fj:Array Bool) (ms hx:Nat) (E:Env) (a:Act) (w:World),fj.size=ops.size->LB ops.size fj<=fuel->
   Inv ops X hc ig h0 lp val ee d.dH E0 w0 yc (fun i=>fj.getD i false) ms hx E a w->wpAnyIn (fz rC) 0 P .any ops Q fuel fj a w:=by
 have done:∀(fj:Array Bool) (ms hx:Nat) (E:Env) (a:Act) (w:World),fj.size=ops.size->Inv ops X hc ig h0 lp val ee d.dH E0 w0 yc (fun i=>fj.getD i false) ms hx E a w->
   Region.ready .any ops fj=[]->Q .normal a w:=by
  intro fj ms hx E a w hs Tr tf;have all:∀i,i<ops.size->fj.getD i false=true:=by
   intro i
   induction i using Nat.strongRecOn with
   |_ i ih=>
    intro hi;cases q:fj.getD i false with
    |true=>rfl
    |false=>
     exfalso;have ho:ops[i]? =some ops[i]:=aY hi;have:i∈Region.ready .any ops fj:=mem_ready.2 ⟨by
      rw[bK,aY S]at q ⊢;exact q,ops[i],ho,fun e he Y=>by
      have:=hr.wm i _ ho e he Y;exact ih e.on this S⟩
     rw[tf]at this;simp at this
  have FH:ig=ops.size:=by
   by_cases q:ig<ops.size
   . have:=Tr.O8 ig (all ig q);omega
   . omega
  exact hQ FH _ ms hx E a w Tr all
 intro fuel
 induction fuel with
 |zero=>
  intro fj ms hx E a w hs hu Tr;have tf:Region.ready .any ops fj=[]:=by
   rw[List.eq_nil_iff_forall_not_mem];intro j hj;obtain⟨h1,o,ho,_⟩:=mem_ready.1 hj;have VL:=(aU.1 ho).1;have hz:LB ops.size fj=0:=by omega
   unfold LB at hz;have:=cF.2 hz;have K:j∈(List.range ops.size).filter fun i=>!fj.getD i false:=List.mem_filter.2 ⟨bN.2 VL,by
    rw[bK,aY S]at h1 ⊢;simp at h1;simp[h1]⟩
   rw[this]at K;simp at K
  exact⟨tf,done fj ms hx E a w hs Tr tf⟩
 |succ fuel ih=>
  intro fj ms hx E a w hs hu Tr;refine⟨done fj ms hx E a w hs Tr,fun j hj=>?_⟩;obtain⟨h1,o,ho,hd⟩:=mem_ready.1 hj;have VL:=(aU.1 ho).1;have xC:fj.getD j false=false:=by
   rw[bK,aY S]at h1 ⊢;exact h1
  by_cases Oi:j<ig
  . refine Tr.step lK hr hl f ht ho Oi xC hd fun J' E' a' w' I'=>?_;refine ih _ (ms|||2^j) J' E' a' w' (by simp;exact hs) ?_ ?_
    . have:LB ops.size (fj.setIfInBounds j true)<LB ops.size fj:=by
       refine filter_lt (x:=j) (bN.2 VL) (by rw[xC];rfl) (by rw[nW S];simp) fun y hy=>?_;rw[nW S]at hy;simp at hy ⊢;exact hy.1
      omega
    . have:(fun i=>(fj.setIfInBounds j true).getD i false)=fun i=>(fj.getD i false||decide (i=j)):=funext fun i=>nW S i;rw[this];exact I'
  . have eY:ig<ops.size:=by omega
    obtain⟨p1,p2⟩:=hP eY;have:j=ig:=by omega
    subst this;exact p2 _ ms hx E a w o Tr ho hd _
end
theorem O9{rC:Option Nat}{P:Program}{cf:gm}{ops:Array Oper}{hc id:Nat}{s R:St}{x:n0}{E0:Env}{a0:Act}{w0:World}{Q:Exit->Act->World->Prop}(lK:gY P cf)(hr:lD ops hc)(K:P.follows .mixedOrders=true)
  (e:drawn P cf ops s=some (x,R)) (g:Good E0 s.h w0) (hd:qy E0 s.n) (hf:wQ E0 s.T a0) (hN:a0.tmps.size=hc)
  (hq:∀E' a' w' x',jf E0 s.h w0 E' R.h w'->(∀k,k<s.n->E'.ι k=E0.ι k)->qy E' R.n->s.n<=R.n->wQ E' R.T a'->a'.tmps.size=hc->a'.defers=a0.defers->R.iE=s.iE->HY E' x x'->Q x' a' w'):
  (Code.region id ops true).wpIn (fz rC) 0 P Q a0 w0:=by
 refine wpIn_region_any K ?_;unfold drawn at e;split at e
 . rename_i gX;have Pa:=wW (P:=P) (cf:=cf) (ops:=ops) (X:=s.n) s.T s.h;have start:∀(ig:Nat) (val:Nat->V) (ee:List uw) (dH:af),Inv ops s.n hc ig s.h s.T val ee dH E0 w0 a0.defers (fun i=>(Array.replicate ops.size false).getD i false) 0 0 E0 a0 { w0 with drawn:=w0.drawn+1 }:=by
    intro ig val ee dH;have hS:∀i,(Array.replicate ops.size false).getD i false=false:=by
     intro i;rw[bK];by_cases q:i<ops.size
     . rw[aY (by simpa using q)];simp
     . rw[Array.getElem?_eq_none (by simpa using q)];rfl
    have O3:∀k,(gO s.n dH (eT s.h (s.n+ops.size) ee 0).1 (eT s.h (s.n+ops.size) ee 0).2.1 0).get k=s.h.get k:=by
     intro k;have:∀l:af,gO s.n l (eT s.h (s.n+ops.size) ee 0).1 (eT s.h (s.n+ops.size) ee 0).2.1 0=s.h:=by
      intro l
      induction l with
      |nil=>rfl
      |cons y l ih=>obtain⟨i,b⟩:=y;simp only[gO,jn,aQ,aM,cA];exact ih
     rw[this]
    refine⟨fun i=>by rw[jn,hS],fun i hi=>?_,fun j o hj=>?_,fun c e' _=>?_,aN _,fun j o t hj=>?_,fun t v hv _=>hf t v hv,(jf.drew g).ext O3,fun _ _=>rfl,fun k p hp=>?_,fun i _ _=>?_,aK _,hN,rfl⟩
    . rw[hS]at hi;cases hi
    . rw[hS]at hj;cases hj
    . rw[hS];constructor
      . intro q;cases q
      . intro q;omega
    . rw[hS]at hj;cases hj
    . by_cases q:k<s.n
      . exact .inl q
      . rw[hd k S]at hp;cases hp
    . show s.h.get (s.n+i)=none;cases q:s.h.get (s.n+i)with
      |none=>rfl
      |some o=>
       obtain⟨b,t,h1,_⟩:=g.rel _ _ q;rw[hd _ S]at h1;cases h1
   have hu0:LB ops.size (Array.replicate ops.size false)<=ops.size:=by
    unfold LB;exact bH (List.length_filter_le _ _) (by simp)
   have gx:=fun(r:Dr ⊕ (I V×V×I es×Nat)) q=>Ey (hc:=hc) hr ops.toList 0 _ _ _ r (by simp) Pa q;split at e
   . rename_i d Sz;obtain⟨rfl,rfl⟩:=gl e;obtain⟨val,ee,f⟩:=gx _ Sz;rw[show max 0 ops.size=ops.size by omega]at f;have ht:∀y∈d.dH,s.n+y.1<gy:=fun y hy=>by have:=f.dH y hy;omega
     refine EA lK hr (aK _) f ht (fun _ dy ms hx E a w Tr wX=>?_) (fun q=>by omega) ops.size _ 0 0 E0 a0 _ (by simp) hu0 (start ops.size val ee d.dH);have hJ:hx=ee.length:=by
      have h1:=Tr.Jle;by_cases q:hx<ee.length
      . have he:ee[hx]? =some ee[hx]:=au q;have:=(Tr.DY hx _ he).1 (wX _ (f.tS hx _ he).1);omega
      . omega
     have ec1:d.cur.1=(eT s.h (s.n+ops.size) ee hx).1:=by rw[hJ,f.cur]
     have ec2:d.cur.2=(eT s.h (s.n+ops.size) ee hx).2.1:=by rw[hJ,f.cur]
     have en:d.n=(eT s.h (s.n+ops.size) ee hx).2.2:=by rw[hJ,f.n]
     refine hq E a w .normal ?_ Tr.old ?_ ?_ ?_ Tr.size Tr.iE rfl trivial
     . refine Tr.Cl.ext fun k=>?_;simp only[ec1,ec2];have Pb:∀i,i<ops.size->eN (2^ops.size-1) i=true:=fun i hi=>by
        unfold eN;rw[c5];simpa using hi
       rcases jg (X:=s.n) (x:=(eT s.h (s.n+ops.size) ee hx).2.1) (m:=(eT s.h (s.n+ops.size) ee hx).1) (iF:=2^ops.size-1) ht f.one k with⟨i,b,k1,k2,k3,k4,k5⟩|⟨k1,k2⟩
       . subst k4;rw[k5,ju ht f.one k1 (by rw[Tr.bits];exact wX i (f.dH _ k1)) k3]
       . rw[k2,nV ht fun i b q1 q2 q3=>k1 i b q1 (Pb i (f.dH _ q1)) q3]
     . show qy E d.n;rw[en];exact Tr.S5 (aK _)
     . show s.n<=d.n;rw[en];have:=Tr.DI;omega
     . intro t v hv;by_cases q:∃j o,j<ops.size/\ops[j]? =some o/\o.dst=some t
       . obtain⟨j,o,q1,q2,q3⟩:=q;have:=f.T.new j o t q1 q2 q3;simp only at hv;rw[this]at hv;cases hv;exact Tr.f1 j o t (wX j q1) q2 q3
       . have:=f.T.old t fun i o hi ho LA=>q ⟨i,o,hi,ho,LA⟩;simp only at hv;rw[this]at hv;exact Tr.f2 t v hv fun j o hj ho LA=>q ⟨j,o,Tr.O8 j hj,ho,LA⟩
   . rename_i T v h n Sz;obtain⟨rfl,rfl⟩:=gl e;obtain⟨ig,o,d,val,ee,ho,f,pV⟩:=gx _ Sz;have FH:ig<ops.size:=(aU.1 ho).1;have ht:∀y∈d.dH,s.n+y.1<gy:=fun y hy=>by have:=f.dH y hy;omega
     have Bd:fA d.eS o.after.toList=gT ops ig:=by rw[f.eS];unfold gT;rw[ho]
     unfold lV at pV;simp only[Bd]at pV;split at pV
     . split at pV<;>cases pV
     . rename_i hw;split at pV
       . rename_i Cw;split at pV
         . split at pV
           . split at pV<;>cases pV
           . rename_i gg args hs;split at pV
             . split at pV<;>cases pV
             . rename_i v' h' n' N;split at pV
               . rename_i Y;simp only[aq,Sum.inr.injEq,aB]at pV;obtain⟨rfl,rfl,rfl,rfl⟩:=pV;simp only[ay]at Y;have Lx:=aJ Y.1;have Oh:=aJ Y.2;have HZ:∀i,i<ig->eN (gT ops ig) i=true:=fun i hi=>by
                  have:gT ops ig=2^ig-1:=by omega
                  rw[this];unfold eN;rw[c5];simpa using hi
                 refine EA lK hr (Nat.le_of_lt FH) f ht (fun q=>by omega) (fun _=>⟨Oh,fun dy ms hx E a w o' Tr Fv H6 hm=>?_⟩) ops.size _ 0 0 E0 a0 _ (by simp) hu0 (start ig val ee d.dH);rw[ho]at Fv;cases Fv;have hSl:dy ig=false:=by
                  cases q:dy ig with
                  |false=>rfl
                  |true=>have:=Tr.O8 ig q;omega
                 have wX:∀i,i<ig->dy i=true:=fun i hi=>rU hr Tr.closed ho H6 (HZ i hi);have hJ:hx=ee.length:=by
                  have h1:=Tr.Jle;by_cases q:hx<ee.length
                  . have he:ee[hx]? =some ee[hx]:=au q;have:=(Tr.DY hx _ he).1 (wX _ (f.tS hx _ he).1);omega
                  . omega
                 have ec1:d.cur.1=(eT s.h (s.n+ops.size) ee hx).1:=by rw[hJ,f.cur]
                 have ec2:d.cur.2=(eT s.h (s.n+ops.size) ee hx).2.1:=by rw[hJ,f.cur]
                 have en:d.n=(eT s.h (s.n+ops.size) ee hx).2.2:=by rw[hJ,f.n]
                 rw[ec1,ec2,en]at hs N;have qx:=Tr.sub hr (Nat.le_of_lt FH) f ht (iF:=gT ops ig) fun k U=>wX k (JZ hr.wm ig k U);have Ez:=Tr.S5 (Nat.le_of_lt FH);unfold wpOpIn;simp only[ho];rw[aD (Tr.wanted hr ho hSl H6 f.T hw)];refine(Bs lK (Tr.Cl.good.sub qx) Ez (Tr.uF hr ho hSl H6 f.T) hs N fun E' w' q2 q3 q4 q5=>?_);intro v2 hv2;have hcn:=Tr.DI;refine hq E' a w' _ ?_ (fun k U=>?_) q4 ?_ ?_ Tr.size Tr.iE rfl ⟨v2,hv2,rfl⟩
                 . refine Tr.Cl.trans (jf.frame Tr.Cl.good qx q2 fun k=>?_);simp only;cases U:h'.get k with
                   |some o'=>rfl
                   |none=>
                    simp only;split
                    . rename_i J;rcases jg (X:=s.n) (x:=(eT s.h (s.n+ops.size) ee hx).2.1) (m:=(eT s.h (s.n+ops.size) ee hx).1) (iF:=ms) ht f.one k with⟨i,b,k1,k2,k3,k4,k5⟩|⟨k1,k2⟩
                      . subst k4;rw[ju ht f.one k1 (HZ i (f.dH _ k1)) k3]at J;cases J
                      . rw[k2];rw[nV ht fun i b q1 q2' q3'=>k1 i b q1 (by rw[Tr.bits];exact wX i (f.dH _ q1)) q3']at J;exact J.symm
                    . rfl
                 . rw[q3 k S];exact Tr.old k U
                 . show s.n<=n';omega
                 . refine nU q2.le ?_;intro t v hv;by_cases q:∃j o,j<ig/\ops[j]? =some o/\o.dst=some t
                   . obtain⟨j,o2,q1,q2,q3⟩:=q;have:=f.T.new j o2 t q1 q2 q3;simp only at hv;rw[this]at hv;cases hv;exact Tr.f1 j o2 t (wX j q1) q2 q3
                   . have:=f.T.old t fun i o2 hi Pc LA=>q ⟨i,o2,hi,Pc,LA⟩;simp only at hv;rw[this]at hv;exact Tr.f2 t v hv fun j o2 hj Pc LA=>q ⟨j,o2,Tr.O8 j hj,Pc,LA⟩
               . cases pV
             . cases pV
           . cases pV
         . cases pV
       . split at pV
         . split at pV
           . split at pV
             . split at pV
               . cases pV
               . split at pV<;>cases pV
             . split at pV
               . split at pV<;>cases pV
               . cases pV
           . cases pV
         . cases pV
     . cases pV
   . cases e
 . cases e
def Pd(E:Env)(x:FuncId×ag×ag)(d:Deferred):Prop:=
 (x.1<gy/\∃c' dQ,eC E x.2.1 c'/\eC E x.2.2 dQ/\d={ target:=.fn (.func x.1) c'.toArray,args:=dQ.toArray }) \/
 (x.1=gy/\∃m b s,x.2.2=[.map (some m)]/\E.ι m=some (b,s)/\d={ target:=.collected b,args:=#[] })
def wo(E:Env):List (FuncId×ag×ag)->List Deferred->Prop
 | [],l=>l=[]
 |x::xs,l=>∃d ys,Pd E x d/\wo E xs ys/\l=d::ys
theorem J1{E E':Env}(h:E.le E'){x:FuncId×ag×ag}{d:Deferred}:Pd E x d->Pd E' x d:=by
 rintro(⟨J,c',a',r1,r2,q⟩|⟨J,m,b,s,q1,q2,q3⟩)
 . exact .inl ⟨J,c',a',lB h _ _ r1,lB h _ _ r2,q⟩
 . exact .inr ⟨J,m,b,s,q1,(h.nm _ _ _ q2).1,q3⟩
theorem kE{E E':Env}(h:E.le E'):∀(xs:List (FuncId×ag×ag)) (ys:List Deferred),wo E xs ys->wo E' xs ys
 | [],_,r=>r
 |_::xs,_,⟨d,ys,r1,r3,q⟩=>⟨d,ys,J1 h r1,kE h xs ys r3,q⟩
theorem jf.kill{E:Env}{h:I es}{w w':World}{m b s:Nat}(g:Good E h w)(ht:m<gy)(jm:ff h m)(K:E.ι m=some (b,s))
  (Em:w'.heap.size=w.heap.size) (Hu:w'.tape=w.tape) (hos:w'.os=w.os) (zm:w'.output=w.output)
  (pR:∀x,x≠b->w'.heap[x]? =w.heap[x]?):jf E h w E (h.set m none) w':=by
 have hs:∀k o,(h.set m none).get k=some o->k≠m/\h.get k=some o:=by
  intro k o U;rw[I.gw _ _ _ ht]at U;split at U
  . cases U
  . rename_i q;exact⟨q,U⟩
 have dX:∀k o,(h.set m none).get k=some o->h.get k=some o:=fun k o q=>(hs k o q).2;refine⟨E.le_refl,⟨?_,?_,?_,g.lj,fun b' c q=>⟨by rw[pR b' fun e=>(g.jo b' c q).2 m s jm (e▸K)];exact(g.jo b' c q).1,fun k t U=>(g.jo b' c q).2 k t (iC dX U)⟩⟩,S,Hu,hos,zm,?_,fun k x t U e _=>⟨k,t,pS dX U,e,iC dX⟩,fun _ _ q=>.inl q⟩
 . intro k o U;obtain⟨jw,U⟩:=hs k o U;obtain⟨b',R,h1,C⟩:=g.rel k o U;have Y:b'≠b:=by
    intro Y;subst Y;exact g.inj m k b' s R (fun q=>jw q.symm) jm (by rw[U];simp) K h1
   exact⟨b',R,h1,jG E.le_refl rfl (pR b' Y) C⟩
 . intro k k' x t t' jw U qU e e';exact g.inj k k' x t t' jw (iC dX U) (pS dX qU) e e'
 . intro k x t e;rw[Em];exact g.qt k x t e
 . intro x _ hn;refine pR x ?_;intro J;subst J;exact hn m s jm K
structure lq(E:Env)(hc:Nat)(s:St)(a:Act)(w:World):Prop where
 good:Good E s.h w
 rD:qy E s.n
 T:wQ E s.T a
 size:a.tmps.size=hc
 iE:wo E s.iE a.defers
def H7(E:Env)(hc:Nat)(s:St)(w:World)(x:n0)(R:St)(Q:Exit->Act->World->Prop):Prop:=
 ∀E' a' w' x',jf E s.h w E' R.h w'->(∀k,k<s.n->E'.ι k=E.ι k)->s.n<=R.n->lq E' hc R a' w'->HY E' x x'->Q x' a' w'
theorem H7.after{E E1:Env}{hc:Nat}{s s1 R:St}{w w1:World}{x:n0}{Q:Exit->Act->World->Prop}(p:H7 E hc s w x R Q)(u:jf E s.h w E1 s1.h w1)(fT:∀k,k<s.n->E1.ι k=E.ι k)(hn:s.n<=s1.n):H7 E1 hc s1 w1 x R Q:=
 fun E' a' w' x' u' Pe od r rx=>p E' a' w' x' (u.trans u') (fun k U=>by rw[Pe k S];exact fT k U) S r rx
section
variable{P:Program}{cf:gm}{iX hc:Nat}{rC:Option Nat}
theorem lM(lK:gY P cf){ops:Array Oper}:∀(l:List Oper) (s:St) (x:n0) (R:St),(rC=none\/∀o∈l,Bp o.op=true)->(∀o∈l,ng hc o.dst)->jr P cf ops l s=some (x,R)->
  ∀(E:Env) (a:Act) (w:World) (Q:Exit->Act->World->Prop),lq E hc s a w->H7 E hc s w x R Q->wpListIn (fz rC) 0 P ops Q l a w
 | [],s,x,R,_,_,e,E,a,w,Q,r,hp=>by
   simp only[jr,aq,aB]at e;obtain⟨rfl,rfl⟩:=e;exact hp E a w .normal (jf.refl r.good) (fun _ _=>rfl) (aK _) r trivial
 |o::rest,s,x,R,wh,FG,e,E,a,w,Q,r,hp=>by
  have S7:rC=none\/∀o∈rest,Bp o.op=true:=wh.imp _root_.id fun h o ho=>h o (by simp[ho]);have ho:=FG o (by simp);have yd:∀o∈rest,ng hc o.dst:=fun o h=>FG o (by simp[h]);have S9:ng a.tmps.size o.dst:=by rw[r.size];exact ho
  simp only[jr]at e;unfold wpListIn;have H8:∀b,gd ops o s.T=some b->Region.wanted o (yielded ops a.tmps)=b:=fun b Y=>wR (E:=E) (fun _ _ _ d _ _ _ v hv=>r.T d v hv) Y;have H9:∀y∈o.op.operands,nf E s.T a.eval y:=fun y _=>nh r.good.lj r.T y;split at e
  . rename_i hw;rw[aA (by rw[H8 _ hw];simp)];split at e
    . rename_i T oK;refine⟨fun _ _=>trivial,?_⟩;refine lM lK rest _ x R S7 yd e E _ w Q ⟨r.good,r.rD,ou r.T oK ⟨[],rfl,rfl⟩ S9,by rw[l9];exact r.size,by rw[jS];exact r.iE⟩ ?_;exact hp.after (jf.refl r.good) (fun _ _=>rfl) (aK _)
    . cases e
  . rename_i hw;rw[aD (H8 _ hw)];split at e
    . rename_i v h n hs;split at e
      . rename_i T oK;refine FB r.good (r.rD _ (aK _)) H9 hs fun E' w' v' q1 q2 q3 q4=>?_;have hn:s.n<=n:=by rcases q4 with⟨rfl,_⟩|rfl<;>omega
        have p9:qy E' n:=by
         rcases q4 with⟨rfl,rfl⟩|rfl
         . exact r.rD
         . intro k U;rw[q3 k S];exact r.rD k S
        refine lM lK rest _ x R S7 yd e E' _ w' Q ⟨q2.good,p9,ou (nU q2.le r.T) oK q1 S9,by rw[l9];exact r.size,by rw[jS];exact kE q2.le _ _ r.iE⟩ ?_;exact hp.after q2 (fun k U=>q3 k S) hn
      . cases e
    . rename_i g args hs;split at e
      . rename_i v h n N;split at e
        . rename_i T oK;refine Bs lK r.good r.rD H9 hs N fun E' w' q2 q3 q4 q5=>?_;intro v' q1;refine lM lK rest _ x R S7 yd e E' _ w' Q ⟨q2.good,q4,ou (nU q2.le r.T) oK q1 S9,by rw[l9];exact r.size,by rw[jS];exact kE q2.le _ _ r.iE⟩ ?_;exact hp.after q2 q3 q5
        . cases e
      . rename_i v h n N;obtain⟨rfl,rfl⟩:=gl e;refine Bs lK r.good r.rD H9 hs N fun E' w' q2 q3 q4 q5=>?_;intro v' q1;exact hp E' a w' _ q2 q3 q5 ⟨q2.good,q4,nU q2.le r.T,r.size,kE q2.le _ _ r.iE⟩ ⟨v',q1,rfl⟩
      . cases e
    . rename_i g c args hs;split at e
      case isFalse=>cases e
      rename_i hgt;split at e
      . rename_i T oK;have hrn:rC=none:=by
         rcases wh with q|q
         . exact q
         . exfalso;have:=q o (by simp);rw[hgt.2]at this;cases this
        refine Xg hrn r.good (r.rD _ (aK _)) H9 hs fun c' dQ q1 q2=>?_;refine lM lK rest _ x R S7 yd e E _ w Q ⟨r.good,r.rD,ou (a:={ a with defers:={ target:=.fn (.func g) c'.toArray,args:=dQ.toArray }::a.defers }) r.T oK ⟨[],rfl,rfl⟩ S9,by rw[l9];exact r.size,by rw[jS];exact⟨_,a.defers,.inl ⟨hgt.1,c',dQ,q1,q2,rfl⟩,r.iE,rfl⟩⟩ ?_;exact hp.after (jf.refl r.good) (fun _ _=>rfl) (aK _)
      . cases e
    . rename_i v hs;obtain⟨rfl,rfl⟩:=gl e;refine O5 r.good (r.rD _ (aK _)) H9 hs fun v' q1=>?_;exact hp E a w _ (jf.refl r.good) (fun _ _=>rfl) (aK _) r ⟨v',q1,rfl⟩
    . cases e
    . cases e
  . cases e
theorem rV{E:Env}{T:I V}{a:Act}{c:Operand}{b:Bool}(ge:GE E)(r:wQ E T a)(e:jc T c=some (.bool b)):a.eval c= .bool b:=by
 have:=nh ge r c _ e;simpa only[eB]using this
theorem Ia(lK:gY P cf){g:Operand}{ps:Array Tmp}{assign body:Code}{s R:St}{x:n0}(mN:eV hc (.rangeFunc g ps assign body)=true)(e:gH P cf iX (.rangeFunc g ps assign body) s=some (x,R))
  {E:Env} {a:Act} {w:World} {Q:Exit->Act->World->Prop} (r:lq E hc s a w) (hp:H7 E hc s w x R Q):(Code.rangeFunc g ps assign body).wpIn (fz none) 0 P Q a w:=by
 simp only[eV,ay]at mN;simp only[gH]at e;split at e
 . rename_i gf lb hg;split at e
   case isFalse=>cases e
   rename_i hq;obtain⟨Cp,gX⟩:=hq;obtain⟨f',fi,VO,Sx,hfi,hlb,Pf⟩:=nh r.good.lj r.T g _ hg;simp only[Ap]at Sx;subst Sx;simp only[eC]at hfi;subst hfi;refine wpIn_rangeFunc fun fn _=>?_
   let Pg:Loop:={ state:=.ready,pending:=none,fn,tmps:=a.tmps,params:=ps,assign,body,defers:=w.heap.size }
   have u1:jf E s.h w (E.put s.n w.heap.size 0 0) (s.h.set s.n (some .ud)) (w.alloc (.deferred (some []))):=jf.alloc (ob:=.deferred (some [])) (o:=.ud) r.good (r.rD _ (aK _)) S heap_alloc_new;have Hx:(E.put s.n w.heap.size 0 0).ι (s.n+1)=none:=by rw[Env.iy S];exact r.rD _ S
   have u2:jf (E.put s.n w.heap.size 0 0) (s.h.set s.n (some .ud)) (w.alloc (.deferred (some []))) ((E.put s.n w.heap.size 0 0).put (s.n+1) (w.alloc (.deferred (some []))).heap.size 0 0) ((s.h.set s.n (some .ud)).set (s.n+1) (some (.loop true none s.T ps.toList assign body))) ((w.alloc (.deferred (some []))).alloc (.loop Pg)):=
    jf.alloc (ob:=.loop Pg) (o:=.loop true none s.T ps.toList assign body) u1.good Hx gX
     ⟨Pg,heap_alloc_new,rfl,rfl,rfl,rfl,rfl,zj (Env.le_trans u1.le (Env.uJ Hx fun m x t e J=>by have:=u1.good.qt m x t e;omega)) r.T,by rw[show Pg.tmps.size=hc from r.size];exact⟨mN.2.1,mN.2.2,fun p hp=>by simpa using br.1 mN.1 p hp⟩⟩
   rw[World.size_alloc]at u2;revert e;generalize hE2:(E.put s.n w.heap.size 0 0).put (s.n+1) (w.heap.size+1) 0 0=E2 at u2;generalize SA:(s.h.set s.n (some .ud)).set (s.n+1) (some (.loop true none s.T ps.toList assign body))=C at u2;generalize hW1:(w.alloc (.deferred (some []))).alloc (.loop Pg)=W1 at u2;intro e;have Ph:E2.ι (s.n+1)=some (w.heap.size+1,0):=by rw[<- hE2];exact Env.ga
   have DZ:E2.ι s.n=some (w.heap.size,0):=by rw[<- hE2,Env.iy S];exact Env.ga
   have rW:∀k,k<s.n->E2.ι k=E.ι k:=fun k U=>by rw[<- hE2,Env.iy S,Env.iy S]
   have acz:qy E2 (s.n+2):=fun k U=>by
    have U:s.n+2<=k:=U;rw[<- hE2,Env.iy S,Env.iy S];exact r.rD k (by show s.n<=k;omega)
   have u12:=u1.trans u2;have ai9:eC E2 lb VO:=lB u12.le _ _ hlb;have Xk:(invoke (.fn (.func gf) VO.toArray) #[.func (.yield (w.heap.size+1)) #[] #[]]).run P W1= .ok (.enter gf (Value.func (.yield (w.heap.size+1)) #[] #[]::VO).toArray) W1:=by
    have aja:=s8 (w:=W1) (args:=(Value.func (.yield (w.heap.size+1)) #[] #[]::VO).toArray) Cp;rw[<- aja];simp[invoke]
   refine⟨w.heap.size+1,[{ target:=.collected w.heap.size,args:=#[] }],W1,{ target:=.fn (.func gf) VO.toArray,args:=#[.func (.yield (w.heap.size+1)) #[] #[]] },W1,gf,
    (Value.func (.yield (w.heap.size+1)) #[] #[]::VO).toArray,W1,?_,?_,fun _ _=>trivial,Xk,fun hd=>by simp[fz,Fence.wide]at hd,?_⟩
   . rw[<- hW1];exact run_enterLoop_outer _ _ _ _ _
   . simp only[resolve,Pf];simp[go_sem]
   . split at e
     case h_2=>cases e
     rename_i v h n N;have J2:=(lK gf _ C (s.n+2) _ h n N E2 W1 (Value.func (.yield (w.heap.size+1)) #[] #[]::VO) ⟨_,_,⟨_,[],[],⟨_,_,Ph,rfl⟩,rfl,rfl,rfl⟩,ai9,rfl⟩ u2.good acz).1 Cp;have Ta:CallsIn Fence.wide (0-1) P gf (Value.func (.yield (w.heap.size+1)) #[] #[]::VO).toArray W1 (rangePost (fz none) 0 P (w.heap.size+1) Q { a with defers:=[{ target:=.collected w.heap.size,args:=#[] }]++a.defers }):=by
      refine callsIn_wide.2 (J2.mono ?_);rintro en w3 ⟨E3,u3,Pj,acA,Oj,ho⟩;cases en with
      |panicked _=>exact ho.elim
      |outgrown=>exact ho.elim
      |returned v'=>
       have hl3:E3.ι (s.n+1)=some (w.heap.size+1,0):=by rw[Pj _ S];exact Ph
       have hd3:E3.ι s.n=some (w.heap.size,0):=by rw[Pj _ S];exact DZ
       have pX:∀(st:Bool) (pe:Option Code) (T:I V) (pl:List Nat) (c1 c2:Code),h.get (s.n+1)=some (.loop st pe T pl c1 c2)->
         ∃w4,(Instr.endLoop (w.heap.size+1)).run P w3= .ok pe w4/\
          ∀(y:n0) (s1:St),s1={ s with h:=h.set (s.n+1) none,n:=n,iE:=(gy,[],[.map (some s.n)])::s.iE }->H7 E hc s w y s1 Q->∀y',HY E3 y y'->Q y' { a with defers:=[{ target:=.collected w.heap.size,args:=#[] }]++a.defers } w4:=by
        intro st pe T pl c1 c2 pb;obtain⟨b,s0,q1,rc,q2,q3,q4,_⟩:=u3.good.rel _ _ pb;rw[hl3]at q1;cases q1;have wY:=run_endLoop (P:=P) q2 (by rw[q3];cases st<;>simp);refine⟨_,wY.trans (aI (fun p=>Result.ok p _) q4),fun y s1 oV ov y' hy=>?_⟩;have uk:jf E3 h w3 E3 (h.set (s.n+1) none) (w3.putObj (w.heap.size+1) (.loop { rc with state:=.exhausted })):=
         jf.kill u3.good gX ⟨_,pb,rfl⟩ hl3 (by simp) rfl rfl rfl fun x J=>World.putObj_heap_other J
        have Tb:=(u12.trans u3).trans uk;subst oV;have hsn:s.n<=n:=by omega
        exact ov E3 _ _ y' Tb (fun k U=>by rw[Pj k S];exact rW k U) hsn
         ⟨Tb.good,acA,nU Tb.le r.T,r.size,⟨_,a.defers,.inr ⟨rfl,s.n,w.heap.size,0,rfl,hd3,rfl⟩,kE Tb.le _ _ r.iE,rfl⟩⟩ hy
       split at e
       . rename_i hdg hlg;obtain⟨rfl,rfl⟩:=gl e;obtain⟨w4,k1,k2⟩:=pX _ _ _ _ _ _ hlg;exact⟨_,w4,k1,k2 .normal _ rfl hp .normal trivial⟩
       . rename_i hdg hlg;obtain⟨rfl,rfl⟩:=gl e;obtain⟨w4,k1,k2⟩:=pX _ _ _ _ _ _ hlg;exact⟨_,w4,k1,wpIn_ret (k2 .ret _ rfl hp .ret trivial)⟩
       . rename_i id _ _ _ _ hdg hlg;obtain⟨rfl,rfl⟩:=gl e;obtain⟨w4,k1,k2⟩:=pX _ _ _ _ _ _ hlg;exact⟨_,w4,k1,wpIn_exit (k2 (.exit id) _ rfl hp (.exit id) rfl)⟩
       . cases e
     exact Ta
 . cases e
theorem lE(lK:gY P cf)(K:P.follows .mixedOrders=true):∀(c:Code) (s:St) (x:n0) (R:St),(rC=none\/kf c=true)->eV hc c=true->gH P cf iX c s=some (x,R)->
  ∀(E:Env) (a:Act) (w:World) (Q:Exit->Act->World->Prop),lq E hc s a w->H7 E hc s w x R Q->c.wpIn (fz rC) 0 P Q a w:=by
 intro c
 induction c with
 |skip=>
  intro s x R _ _ e E a w Q r hp;simp only[gH,aq,aB]at e;obtain⟨rfl,rfl⟩:=e;exact wpIn_skip (hp E a w .normal (jf.refl r.good) (fun _ _=>rfl) (aK _) r trivial)
 |region id ops B4=>
  intro s x R wh mN e E a w Q r hp;simp only[eV,ay]at mN;cases B4 with
  |false=>
   simp only[gH]at e;refine wpIn_region_list (lM lK ops.toList s x R (wh.imp _root_.id fun q=>by simp only[kf,br]at q;exact q) (fun o ho d hd=>?_) e E a w Q r hp);have:=br.1 mN.1 o ho;rw[hd]at this;simpa using this
  |true=>
   simp only[gH]at e;have Tc:=Ct (by simpa using mN.2);refine O9 lK Tc K e r.good r.rD r.T r.size fun E' a' w' x' u fT p9 hn y9 mP Ok Xl J=>?_;exact hp E' a' w' x' u fT hn ⟨u.good,p9,y9,mP,by rw[Xl,Ok];exact kE u.le _ _ r.iE⟩ J
 |seq c1 c2 OZ O0=>
  intro s x R wh mN e E a w Q r hp;simp only[eV,ay]at mN;simp only[gH]at e;refine wpIn_seq ?_;cases h1:gH P cf iX c1 s with
  |none=>simp[h1]at e
  |some p=>
   obtain⟨x1,s1⟩:=p;refine OZ s x1 s1 (wh.imp _root_.id fun q=>by simp only[kf,ay]at q;exact q.1) mN.1 h1 E a w _ r fun E' a' w' x' u fT hn r' J=>?_;cases x1 with
   |normal=>
    simp only[h1]at e;cases x'<;>first|(exact J.elim)|skip
    exact O0 s1 x R (wh.imp _root_.id fun q=>by simp only[kf,ay]at q;exact q.2) mN.2 e E' a' w' Q r' (hp.after u fT hn)
   |exit i=>
    simp only[h1,aq,aB]at e;obtain⟨rfl,rfl⟩:=e;cases x'<;>first|(exact J.elim)|skip
    exact hp E' a' w' _ u fT hn r' J
   |ret=>
    simp only[h1,aq,aB]at e;obtain⟨rfl,rfl⟩:=e;cases x'<;>first|(exact J.elim)|skip
    exact hp E' a' w' _ u fT hn r' J
   |panic v=>
    simp only[h1,aq,aB]at e;obtain⟨rfl,rfl⟩:=e;cases x'<;>first|(exact J.elim)|skip
    exact hp E' a' w' _ u fT hn r' J
 |cond c c1 c2 OZ O0=>
  intro s x R wh mN e E a w Q r hp;simp only[eV,ay]at mN;simp only[gH]at e;split at e
  . rename_i N;exact wpIn_cond_true (rV r.good.lj r.T N) (OZ s x R (wh.imp _root_.id fun q=>by simp only[kf,ay]at q;exact q.1) mN.1 e E a w Q r hp)
  . rename_i N;exact wpIn_cond_false (rV r.good.lj r.T N) (O0 s x R (wh.imp _root_.id fun q=>by simp only[kf,ay]at q;exact q.2) mN.2 e E a w Q r hp)
  . cases e
 |block id c ih=>
  intro s x R wh mN e E a w Q r hp;simp only[eV]at mN;simp only[gH]at e;refine wpIn_block ?_;cases h1:gH P cf iX c s with
  |none=>simp[h1]at e
  |some p=>
   obtain⟨x1,s1⟩:=p;refine ih s x1 s1 (wh.imp _root_.id fun q=>by simpa only[kf]using q) mN h1 E a w _ r fun E' a' w' x' u fT hn r' J=>?_;cases x1 with
   |normal=>
    simp only[h1,aq,aB]at e;obtain⟨rfl,rfl⟩:=e;cases x'<;>first|(exact J.elim)|skip
    exact hp E' a' w' .normal u fT hn r' trivial
   |exit i=>
    simp only[h1]at e;cases x'<;>first|(exact J.elim)|skip
    rename_i j;have O1:i=j:=J;subst O1;simp only[Exit.inBlock];split at e
    . rename_i q;obtain⟨rfl,rfl⟩:=gl e;rw[aD q];exact hp E' a' w' .normal u fT hn r' trivial
    . rename_i q;obtain⟨rfl,rfl⟩:=gl e;rw[aA q];exact hp E' a' w' (.exit i) u fT hn r' rfl
   |ret=>
    simp only[h1,aq,aB]at e;obtain⟨rfl,rfl⟩:=e;cases x'<;>first|(exact J.elim)|skip
    exact hp E' a' w' .ret u fT hn r' trivial
   |panic v=>
    simp only[h1,aq,aB]at e;obtain⟨rfl,rfl⟩:=e;cases x'<;>first|(exact J.elim)|skip
    exact hp E' a' w' (.panic _) u fT hn r' J
 |loop c ih=>
  intro s x R wh mN e E a w Q r hp;simp only[eV]at mN;simp only[gH]at e;refine wpIn_loop_rounds iX ?_;have key:∀(k:Nat) (s:St),rounds (gH P cf iX c) k s=some (x,R)->∀(E:Env) (a:Act) (w:World),lq E hc s a w->H7 E hc s w x R Q->Code.roundsIn (fz rC) 0 P c Q k a w:=by
   intro k
   induction k with
   |zero=>intro s e;cases e
   |succ k ihk=>
    intro s e E a w r hp;simp only[rounds]at e;rw[roundsIn_succ];cases h1:gH P cf iX c s with
    |none=>simp[h1]at e
    |some p=>
     obtain⟨x1,s1⟩:=p;refine ih s x1 s1 (wh.imp _root_.id fun q=>by simpa only[kf]using q) mN h1 E a w _ r fun E' a' w' x' u fT hn r' J=>?_;cases x1 with
     |normal=>
      simp only[h1]at e;cases x'<;>first|(exact J.elim)|skip
      exact ihk s1 e E' a' w' r' (hp.after u fT hn)
     |exit i=>
      simp only[h1,aq,aB]at e;obtain⟨rfl,rfl⟩:=e;cases x'<;>first|(exact J.elim)|skip
      exact hp E' a' w' _ u fT hn r' J
     |ret=>
      simp only[h1,aq,aB]at e;obtain⟨rfl,rfl⟩:=e;cases x'<;>first|(exact J.elim)|skip
      exact hp E' a' w' _ u fT hn r' J
     |panic v=>
      simp only[h1,aq,aB]at e;obtain⟨rfl,rfl⟩:=e;cases x'<;>first|(exact J.elim)|skip
      exact hp E' a' w' _ u fT hn r' J
  exact key iX s e E a w r hp
 |exit id=>
  intro s x R _ _ e E a w Q r hp;simp only[gH,aq,aB]at e;obtain⟨rfl,rfl⟩:=e;exact wpIn_exit (hp E a w (.exit id) (jf.refl r.good) (fun _ _=>rfl) (aK _) r rfl)
 |ret=>
  intro s x R _ _ e E a w Q r hp;simp only[gH,aq,aB]at e;obtain⟨rfl,rfl⟩:=e;exact wpIn_ret (hp E a w .ret (jf.refl r.good) (fun _ _=>rfl) (aK _) r trivial)
 |rangeFunc g ps assign body _ _=>
  intro s x R wh mN e E a w Q r hp;have hrn:rC=none:=by
   rcases wh with q|q
   . exact q
   . cases q
  subst hrn;exact Ia lK mN e r hp
 |scope c _=>intro s x R _ _ e;cases e
 |label l=>intro s x R _ _ e;cases e
 |goto l=>intro s x R _ _ e;cases e
 |refuse w=>intro s x R _ _ e;cases e
def Cz(tmps:Array Value):ResultVar->Sem Value
 | .tmp t=>pure (tmps.getD t undef)
 | .cell c t=>do loadVar t (<- asAddr (tmps.getD c undef))
theorem J3(fn:Func)(tmps:Array Value):results fn tmps=(do
  let vs <- fn.results.mapM (Cz tmps)
  pure (if h:vs.size=1 then vs[0]else .tuple vs)):=by
 unfold results;congr 1
theorem AA{E:Env}{h:I es}{w:World}{T:I V}{a:Act}(g:Good E h w)(r:wQ E T a):∀(rs:List ResultVar) (vs:ag),kL P T h rs=some vs->
  ∃VD,(rs.mapM (Cz a.tmps)).run P w= .ok VD w/\eC E vs VD
 | [],vs,e=>by simp only[kL,aq]at e;subst e;exact⟨[],rfl,rfl⟩
 |x::rs,vs,e=>by
  simp only[kL]at e;cases h1:Fj P T h x with
  |none=>simp[h1]at e
  |some v=>cases C:kL P T h rs with
   |none=>simp[h1,C]at e
   |some us=>
    simp only[h1,C,aq]at e;subst e;obtain⟨us',q1,q2⟩:=AA g r rs us C;have hv:∃v',(Cz a.tmps x).run P w= .ok v' w/\eB E v v':=by
     cases x with
     |tmp t=>
      obtain⟨v',p1,p2⟩:=r t v h1;exact⟨v',by simp[Cz,p1],p2⟩
     |cell c t=>
      simp only[Fj]at h1;split at h1
      . rename_i u hu;obtain⟨u',p1,p2⟩:=r c u hu;obtain⟨b,sh,rfl,v',p3,p4⟩:=B9 (P:=P) g p2 h1;refine⟨v',?_,p4⟩;simp[Cz,p1,asAddr,p3]
      . cases h1
    obtain⟨v',p1,p2⟩:=hv;refine⟨v'::us',?_,v',us',p2,q2,rfl⟩;rw[List.mapM_cons];simp only[Sem.run_bind,p1,q1,Result.andThen_ok,Sem.run_pure]
theorem AB{E:Env}{h:I es}{w:World}{T:I V}{a:Act}{fn:Func}{vs:ag}(g:Good E h w)(r:wQ E T a)(e:kL P T h fn.results.toList=some vs):
  ∃v',(results fn a.tmps).run P w= .ok v' w/\eB E (oneOf vs) v':=by
 obtain⟨VD,q1,q2⟩:=AA (P:=P) g r fn.results.toList vs e;have gx:(results fn a.tmps).run P w= .ok (if h:VD.toArray.size=1 then VD.toArray[0]else .tuple VD.toArray) w:=by
  rw[J3,Array.mapM_eq_mapM_toList];simp only[Sem.run_bind,Sem.run_map,q1,Result.andThen_ok,Sem.run_pure]
 refine⟨_,gx,?_⟩
 match vs,q2 with
 | [],q2=>simp only[eC]at q2;subst q2;exact⟨[],rfl,rfl⟩
 | [v],q2=>
   obtain⟨y,ys,p1,p2,rfl⟩:=q2;simp only[eC]at p2;subst p2;exact p1
 |u::v::us,q2=>
  have Ph:=fo q2;rw[dif_neg (by simp only[List.size_toArray,Ph,aR];omega)];exact⟨VD,q2,rfl⟩
end
def D0(E:Env):Mode->FrameMode->Prop
 | .ret,.returning=>True
 | .lU v b,.panicking chain=>∃v',eB E v v'/\chain=[{ v:=v',recovered:=b }]
 |_,_=>False
theorem EB{E E':Env}(h:E.le E'):∀{m:Mode} {u:FrameMode},D0 E m u->D0 E' m u
 | .ret,.returning,_=>trivial
 | .lU _ _,.panicking _,⟨v',r,q⟩=>⟨v',jF h _ _ r,q⟩
 | .ret,.run,r=>r.elim
 | .ret,.panicking _,r=>r.elim
 | .lU _ _,.run,r=>r.elim
 | .lU _ _,.returning,r=>r.elim
def EC(E:Env)(hc:Nat)(s:St)(w:World)(x:n0)(R:St)(m':Mode)(mO:Frame)(cs:List Frame)(Q:Exit->Act->List Frame->World->Prop):Prop:=
 ∀E' a' w' x' u',jf E s.h w E' R.h w'->(∀k,k<s.n->E'.ι k=E.ι k)->s.n<=R.n->lq E' hc R a' w'->HY E' x x'->D0 E' m' u'->Q x' a' ({ mO with mode:=u' }::cs) w'
theorem EC.after{E E1:Env}{hc:Nat}{s s1 R:St}{w w1:World}{x:n0}{m':Mode}{mO:Frame}{cs:List Frame}{Q:Exit->Act->List Frame->World->Prop}(p:EC E hc s w x R m' mO cs Q)(u:jf E s.h w E1 s1.h w1)
  (fT:∀k,k<s.n->E1.ι k=E.ι k) (hn:s.n<=s1.n):EC E1 hc s1 w1 x R m' mO cs Q:=
 fun E' a' w' x' u2 u' Pe od r rx rm=>p E' a' w' x' u2 (u.trans u') (fun k U=>by rw[Pe k S];exact fT k U) S r rx rm
section
variable{P:Program}{cf:gm}{iX hc:Nat}
theorem FI(k n:Nat):List.range' k (n+1)=k::List.range' (k+1) n:=by simp[List.range'_succ]
theorem qb{ops:Array Oper}(mO:Frame)(cs:List Frame):∀(l:List Oper) (k:Nat) (s:St) (m:Mode) (x:n0) (R:St) (m':Mode),(∀j,l[j]? =ops[k+j]?)->(∀o∈l,ng hc o.dst)->qC P cf ops l s m=some (x,R,m')->
  ∀(E:Env) (a:Act) (w:World) (u:FrameMode) (Q:Exit->Act->List Frame->World->Prop),lq E hc s a w->D0 E m u->EC E hc s w x R m' mO cs Q->
   wpOpsS P ops Q (List.range' k l.length) a ({ mO with mode:=u }::cs) w
 | [],k,s,m,x,R,m',_,_,e,E,a,w,u,Q,r,rm,hp=>by
   simp only[qC,aq,aB]at e;obtain⟨rfl,rfl,rfl⟩:=e;exact hp E a w .normal u (jf.refl r.good) (fun _ _=>rfl) (aK _) r trivial rm
 |o::rest,k,s,m,x,R,m',pb,FG,e,E,a,w,u,Q,r,rm,hp=>by
  have ho:=FG o (by simp);have yd:∀o∈rest,ng hc o.dst:=fun o h=>FG o (by simp[h]);have S9:ng a.tmps.size o.dst:=by rw[r.size];exact ho
  have hgr:∀j,rest[j]? =ops[k+1+j]?:=fun j=>by have:=pb (j+1);simpa[Nat.add_assoc,Nat.add_comm 1 j]using this
  have mN:ops[k]? =some o:=by have:=pb 0;simpa using this.symm
  simp only[qC]at e;simp only[aR,FI,wpOpsS,mN];have H8:∀b,gd ops o s.T=some b->Region.wanted o (yielded ops a.tmps)=b:=fun b Y=>wR (E:=E) (fun _ _ _ d _ _ _ v hv=>r.T d v hv) Y;have H9:∀y∈o.op.operands,nf E s.T a.eval y:=fun y _=>nh r.good.lj r.T y;split at e
  . rename_i hw;rw[aA (by rw[H8 _ hw];simp)];split at e
    . rename_i T oK;exact qb mO cs rest (k+1) _ m x R m' hgr yd e E _ w u Q ⟨r.good,r.rD,ou r.T oK ⟨[],rfl,rfl⟩ S9,by rw[l9];exact r.size,by rw[jS];exact r.iE⟩ rm (hp.after (jf.refl r.good) (fun _ _=>rfl) (aK _))
    . cases e
  . rename_i hw;rw[aD (H8 _ hw)];split at e
    . rename_i v h n hs;split at e
      . rename_i T oK;obtain⟨E',w',v',gx,q1,q2,q3,q4⟩:=nT r.good (r.rD _ (aK _)) H9 hs;have hn:s.n<=n:=by rcases q4 with⟨rfl,_⟩|rfl<;>omega
        have p9:qy E' n:=by
         rcases q4 with⟨rfl,rfl⟩|rfl
         . exact r.rD
         . intro k U;rw[q3 k S];exact r.rD k S
        have x6:=qb mO cs rest (k+1) _ m x R m' hgr yd e E' (a.put o.dst v') w' u Q ⟨q2.good,p9,ou (nU q2.le r.T) oK q1 S9,by rw[l9];exact r.size,by rw[jS];exact kE q2.le _ _ r.iE⟩ (EB q2.le rm)
         (hp.after q2 (fun k U=>q3 k S) hn)
        rcases gx with gx|⟨gx,rfl⟩
        . rw[gx];simp only[Oper.upon_value];exact x6
        . rw[gx];simp only[Oper.upon_skip];exact x6
      . cases e
    . rename_i hs;have gx:=nT r.good (r.rD _ (aK _)) H9 hs;simp only[jX]at gx;rw[gx];simp only;split at e
      . rename_i v;split at e
        . rename_i T oK;cases u with
          |panicking chain=>
           obtain⟨v',q1,rfl⟩:=rm;simp only[recoverD];exact qb mO cs rest (k+1) _ (.lU v true) x R m' hgr yd e E (a.put o.dst v') w (.panicking [{ v:=v',recovered:=true }]) Q ⟨r.good,r.rD,ou r.T oK q1 S9,by rw[l9];exact r.size,by rw[jS];exact r.iE⟩ ⟨v',q1,rfl⟩
            (hp.after (jf.refl r.good) (fun _ _=>rfl) (aK _))
          |run=>exact rm.elim
          |returning=>exact rm.elim
        . cases e
      . rename_i hnp;split at e
        . rename_i T oK;have LC:recoverD ({ mO with mode:=u }::cs)=none:=by
           cases m with
           |ret=>cases u<;>first|(exact rm.elim)|rfl
           |lU v b=>
            cases b with
            |false=>exact absurd rfl (hnp v)
            |true=>
             cases u with
             |panicking chain=>obtain⟨v',q1,rfl⟩:=rm;rfl
             |run=>exact rm.elim
             |returning=>exact rm.elim
          rw[LC];exact qb mO cs rest (k+1) _ m x R m' hgr yd e E (a.put o.dst .nilIface) w u Q ⟨r.good,r.rD,ou r.T oK rfl S9,by rw[l9];exact r.size,by rw[jS];exact r.iE⟩ rm (hp.after (jf.refl r.good) (fun _ _=>rfl) (aK _))
        . cases e
    . cases e
  . cases e
section
variable{c:Operand}{x y:Code}{a:Act}
theorem D1{cs:List Frame}{w:World}{Q:Exit->Act->List Frame->World->Prop}(N:a.eval c= .bool true)(h:x.wpS P Q a cs w):(Code.cond c x y).wpS P Q a cs w:=wpS_cond N h
theorem CA{cs:List Frame}{w:World}{Q:Exit->Act->List Frame->World->Prop}(N:a.eval c= .bool false)(h:y.wpS P Q a cs w):(Code.cond c x y).wpS P Q a cs w:=wpS_cond N h
end
theorem AD(lK:gY P cf)(K:P.follows .mixedOrders=true){c:Code}{s R:St}{x:n0}{m m':Mode}(mN:eV hc c=true)(e:(match gH P cf iX c s with|some (x,R)=>some (x,R,m)|none=>none)=some (x,R,m'))
  {mO:Frame} {cs:List Frame} {E:Env} {a:Act} {w:World} {u:FrameMode} {Q:Exit->Act->List Frame->World->Prop} (r:lq E hc s a w) (rm:D0 E m u) (hp:EC E hc s w x R m' mO cs Q):c.wpS P Q a ({ mO with mode:=u }::cs) w:=by
 cases h1:gH P cf iX c s with
 |none=>simp[h1]at e
 |some p=>
  obtain⟨x1,s1⟩:=p;simp only[h1,aq,aB]at e;obtain⟨rfl,rfl,rfl⟩:=e;exact wpS_of_wp (wpIn_wide.1 (lE (rC:=none) lK K c s x1 s1 (.inl rfl) mN h1 E a w _ r fun E' a' w' x' u' fT hn r' J=>hp E' a' w' x' u u' fT hn r' J (EB u'.le rm)))
theorem AE(lK:gY P cf)(K:P.follows .mixedOrders=true)(mO:Frame)(cs:List Frame):∀(c:Code) (s:St) (m:Mode) (x:n0) (R:St) (m':Mode),eV hc c=true->ku P cf iX c s m=some (x,R,m')->
  ∀(E:Env) (a:Act) (w:World) (u:FrameMode) (Q:Exit->Act->List Frame->World->Prop),lq E hc s a w->D0 E m u->EC E hc s w x R m' mO cs Q->c.wpS P Q a ({ mO with mode:=u }::cs) w:=by
 intro c
 induction c with
 |region id ops B4=>
  intro s m x R m' mN e E a w u Q r rm hp;cases B4 with
  |false=>
   simp only[ku]at e;have Td:=mN;simp only[eV,ay]at Td;have:=qb (P:=P) (cf:=cf) (ops:=ops) mO cs ops.toList 0 s m x R m' (fun j=>by simp) (fun o ho d hd=>by
    have:=br.1 Td.1 o ho;rw[hd]at this;simpa using this) e E a w u Q r rm hp
   exact wpS_region (by rw[List.range_eq_range',<- Array.length_toList];exact this)
  |true=>
   simp only[ku]at e;exact AD (iX:=iX) lK K mN e r rm hp
 |seq c1 c2 OZ O0=>
  intro s m x R m' mN e E a w u Q r rm hp;simp only[eV,ay]at mN;simp only[ku]at e;refine wpS_seq ?_;cases h1:ku P cf iX c1 s m with
  |none=>simp[h1]at e
  |some p=>
   obtain⟨x1,s1,m1⟩:=p;refine OZ s m x1 s1 m1 mN.1 h1 E a w u _ r rm fun E' a' w' x' u1 uu fT hn r' J M6=>?_;cases x1 with
   |normal=>
    simp only[h1]at e;cases x'<;>first|(exact J.elim)|skip
    exact O0 s1 m1 x R m' mN.2 e E' a' w' u1 Q r' M6 (hp.after uu fT hn)
   |exit i=>
    simp only[h1,aq,aB]at e;obtain⟨rfl,rfl,rfl⟩:=e;cases x'<;>first|(exact J.elim)|skip
    exact hp E' a' w' _ u1 uu fT hn r' J M6
   |ret=>
    simp only[h1,aq,aB]at e;obtain⟨rfl,rfl,rfl⟩:=e;cases x'<;>first|(exact J.elim)|skip
    exact hp E' a' w' _ u1 uu fT hn r' J M6
   |panic v=>
    simp only[h1,aq,aB]at e;obtain⟨rfl,rfl,rfl⟩:=e;cases x'<;>first|(exact J.elim)|skip
    exact hp E' a' w' _ u1 uu fT hn r' J M6
 |cond c c1 c2 OZ O0=>
  intro s m x R m' mN e E a w u Q r rm hp;simp only[eV,ay]at mN;simp only[ku]at e;split at e
  . rename_i N;exact D1 (rV r.good.lj r.T N) (OZ s m x R m' mN.1 e E a w u Q r rm hp)
  . rename_i N;exact CA (rV r.good.lj r.T N) (O0 s m x R m' mN.2 e E a w u Q r rm hp)
  . cases e
 |_=>
  intro s m x R m' mN e E a w u Q r rm hp;simp only[ku]at e;exact AD (iX:=iX) lK K mN e r rm hp
theorem AF:∀(vs:ag) (i:Nat) (t:I V) (k:Nat),i+vs.length<gy->(kZ vs i t).get k=if i<=k/\k<i+vs.length then vs[k-i]? else t.get k
 | [],i,t,k,_=>by simp only[kZ,b9];rw[aA S]
 |v::vs,i,t,k,h=>by
  simp only[aR]at h;simp only[kZ,aR];rw[AF vs (i+1) _ k S,I.gw _ _ _ S];by_cases q:k=i
  . subst q;rw[aA S,aD rfl,aD S];simp
  . rw[aA q];by_cases q2:i+1<=k/\k<i+1+vs.length
    . rw[aD q2,aD S];have:k-i=(k-(i+1))+1:=by omega
      rw[this];simp
    . rw[aA q2,aA S]
theorem qd{E:Env}{args:ag}{dQ:List Value}{n:Nat}(r:eC E args dQ)(hn:args.length<=n)(ht:n<gy):
  wQ E (kZ args 0 .nil) { tmps:=dQ.toArray++Array.replicate (n-dQ.toArray.size) undef,defers:=[] }/\(dQ.toArray++Array.replicate (n-dQ.toArray.size) undef).size=n:=by
 have hl:=fo r;refine⟨fun t v hv=>?_,by simp;omega⟩;rw[AF args 0 .nil t S]at hv;split at hv
 . rename_i hi;obtain⟨v',h1,C⟩:=gW r _ v hv;refine⟨v',?_,C⟩;simp only[dr]at h1;rw[cJ (by simp;omega)];simpa using h1
 . cases hv
def jT(P:Program):Bool:=P.funcs.toList.all fun fn=>match fn.body with|some c=>eV fn.ntmps c|none=>true
theorem AG(h:jT P=true){f:FuncId}{fn:Func}{c:Code}(hf:P.funcs[f]? =some fn)(Y:fn.body=some c):eV fn.ntmps c=true:=by
 unfold jT at h;have:=br.1 h fn (by rw[<- bP]at hf;exact List.mem_of_getElem? hf);rw[Y]at this;exact this
theorem Be{f:FuncId}{fn:Func}{c:Code}{args:Array Value}{u:FrameMode}{w:World}{s':Ending->FrameMode->World->Prop}
  (hf:P.funcs[f]? =some fn) (Y:fn.body=some c)
  (h:∀(mO:Frame) (cs:List Frame),mO.mode=u->
   c.wpS P (bodyPostS P fn mO cs s') { tmps:=args++Array.replicate (fn.ntmps-args.size) undef,defers:=[] } (mO::cs) w):
  CallsDIn Fence.wide (0-1) P f args u w s':=by
 refine⟨trivial,fun mO cs hu _=>?_⟩
 let b:Frame:={ (default:Frame)with fn:=f,kind:=.deferred }
 have Xm:Frame.enter P f args .deferred=
   b.at { tmps:=args++Array.replicate (fn.ntmps-args.size) undef,defers:=[] } [.code c]:=by
  simp[Frame.enter,Frame.at,hf,Y,b]
 obtain⟨e,a',cs',w',hq,Pk⟩:=h mO cs hu b [] rfl rfl;rw[<- Xm]at Pk;cases e with
 |normal=>
  obtain⟨hd,u',rfl,v,hr,hR⟩:=hq;exact⟨.returned v,u',w',_,hR,comesIn_wide.2 (Steps.trans Pk (.one step_end)),rfl,rfl,rfl,hd,fn,hf,hr⟩
 |ret=>
  obtain⟨hd,u',rfl,v,hr,hR⟩:=hq;obtain⟨ajc,hs⟩:=Pk;exact⟨.returned v,u',w',_,hR,comesIn_wide.2 hs,rfl,rfl,rfl,hd,fn,hf,hr⟩
 |panic chain=>
  obtain⟨hd,u',rfl,hR⟩:=hq;obtain⟨ajc,hs⟩:=Pk;exact⟨.panicked chain,u',w',_,hR,comesIn_wide.2 hs,rfl,rfl,rfl,hd,fn,hf⟩
 |exit id=>exact hq.elim
 |goto l=>exact hq.elim
 |outgrown=>
  obtain⟨u',hR⟩:=hq;exact⟨.outgrown,u',w',b,hR,comesIn_wide.2 (Pk.resolve_left (by simp[b])),rfl,rfl,trivial⟩
theorem ow(lK:gY P cf)(K:P.follows .mixedOrders=true)(sJ:jT P=true){fn:Func}{T:I V}{a:Act}:∀(ds:List (FuncId×ag×ag)) (m:Mode) (h:I es) (n:Nat) (sI:qw) (h':I es) (n':Nat),
  k8 P cf iX fn T ds m h n=some (sI,h',n')->∀(E:Env) (w:World) (ds':List Deferred) (u:FrameMode) (s':Ending->World->Prop),Good E h w->qy E n->wQ E T a->wo E ds ds'->D0 E m u->
   (∀E' w' en,jf E h w E' h' w'->(∀k,k<n->E'.ι k=E.ι k)->qy E' n'->n<=n'->wS E' sI en->s' en w')->LeavesInM Fence.wide 0 P fn a.tmps s' ds' u w
 | [],m,h,n,sI,h',n',e,E,w,ds',u,s',g,hd,hf,Sz,rm,hR=>by
   simp only[wo]at Sz;subst Sz;cases m with
   |ret=>
    cases u<;>first|(exact rm.elim)|skip
    simp only[k8]at e;split at e
    . rename_i vs hr;simp only[aq,aB]at e;obtain⟨rfl,rfl,rfl⟩:=e;obtain⟨v',h1,C⟩:=AB (P:=P) g hf hr;exact⟨v',h1,hR E w _ (jf.refl g) (fun _ _=>rfl) hd (aK _) C⟩
    . cases e
   |lU v b=>
    cases u with
    |panicking chain=>
     obtain⟨v',q1,rfl⟩:=rm;cases b with
     |false=>
      simp only[k8,aq,aB]at e;obtain⟨rfl,rfl,rfl⟩:=e;exact hR E w _ (jf.refl g) (fun _ _=>rfl) hd (aK _) ⟨v',q1,rfl⟩
     |true=>cases e
    |run=>exact rm.elim
    |returning=>exact rm.elim
 |(gf,c,args)::ds,m,h,n,sI,h',n',e,E,w,ds',u,s',g,hd,hf,Sz,rm,hR=>by
  obtain⟨d,ys,SB,r3,rfl⟩:=Sz;simp only[k8]at e;have acC:u≠ .run:=by intro q;subst q;cases m<;>exact rm.elim
  split at e
  ·
   rename_i gX;rcases SB with⟨q,_⟩|⟨_,m0,b,s0,ha,jz,rfl⟩
   . exact absurd q (Nat.not_lt.2 gX)
   simp only at ha;subst ha;simp only at e;split at e
   . rename_i Ok;split at e
     . rename_i eY;obtain⟨b',R,q1,q2⟩:=g.rel _ _ Ok;rw[jz]at q1;cases q1;have uk:jf E h w E (h.set m0 none) (w.putObj b (.deferred none)):=jf.kill g eY ⟨_,Ok,rfl⟩ jz (by simp) rfl rfl rfl fun x J=>World.putObj_heap_other J;exact⟨acC,.inl ⟨b,_,rfl,run_takeDeferred q2,ow lK K sJ ds m _ n sI h' n' e E _ ys u s' uk.good hd hf r3 rm fun E2 w2 en u2 rW DZ qX ho=>hR E2 w2 en (uk.trans u2) rW DZ qX ho⟩⟩
     . cases e
   . cases e
  rename_i gX;obtain⟨c',dQ,r1,r2,rfl⟩:∃c' dQ,eC E c c'/\eC E args dQ/\d={ target:=.fn (.func gf) c'.toArray,args:=dQ.toArray }:=by
   rcases SB with⟨_,q⟩|⟨q,_⟩
   . exact q
   . exact absurd (Nat.le_of_eq q.symm) gX
  split at e
  . rename_i gn hgn;split at e
    . rename_i code Y;split at e
      . rename_i hq;obtain⟨Cp,jl,gX⟩:=hq;have hvr:=iY r2 r1;obtain⟨y9,mP⟩:=qd (n:=gn.ntmps) hvr jl gX;have ED:=AG sJ hgn Y;have next:∀(R:St) (m':Mode) (vs:ag),R.iE=[]->kL P R.T R.h gn.results.toList=some vs->k8 P cf iX fn T ds (match m' with | .lU _ true=>.ret|m=>m) R.h R.n=some (sI,h',n')->
          ∀E' (a':Act) w' u',jf E h w E' R.h w'->(∀k,k<n->E'.ι k=E.ι k)->n<=R.n->lq E' gn.ntmps R a' w'->D0 E' m' u'->
          a'.defers=[]/\∃v,(results gn a'.tmps).run P w'= .ok v w'/\LeavesInM Fence.wide 0 P fn a.tmps s' ys (settle u') w':=by
         intro R m' vs Ok WX Fp E' a' w' u' uu fT hn r' M6;have ajd:a'.defers=[]:=by have:=r'.iE;rw[Ok]at this;exact this
         obtain⟨v',p1,p2⟩:=AB (P:=P) r'.good r'.T WX;refine⟨ajd,v',p1,?_⟩;refine ow lK K sJ ds _ R.h R.n sI h' n' Fp E' w' ys (settle u') s' r'.good r'.rD (nU uu.le hf) (kE uu.le _ _ r3) ?_ fun E2 w2 en u2 rW DZ qX ho=>hR E2 w2 en (uu.trans u2) (fun k U=>by rw[rW k S];exact fT k U) DZ S ho;cases m' with
         |ret=>cases u'<;>first|(exact M6.elim)|trivial
         |lU v b=>
          cases u' with
          |panicking chain=>
           obtain⟨v2,q1,rfl⟩:=M6;cases b with
           |false=>exact⟨v2,q1,rfl⟩
           |true=>trivial
          |run=>exact M6.elim
          |returning=>exact M6.elim
        have Xk:(invoke (.fn (.func gf) c'.toArray) dQ.toArray).run P w= .ok (.enter gf (dQ++c').toArray) w:=by
         simp only[invoke];have:dQ.toArray++c'.toArray=(dQ++c').toArray:=by simp
         rw[this];exact s8 Cp
        refine⟨acC,.inr ⟨fun hd=>by simp[Fence.wide]at hd,_,_,gf,_,rfl,Xk,fun _ _=>trivial,Be hgn Y fun mO cs acD=>?_⟩⟩;have tQ:mO={ mO with mode:=u }:=by subst acD;rfl
        rw[tQ];have M7:lq E gn.ntmps { T:=kZ (args++c) 0 .nil,h:=h,n:=n,iE:=[] } { tmps:=(dQ++c').toArray++Array.replicate (gn.ntmps-(dQ++c').toArray.size) undef,defers:=[] } w:=⟨g,hd,y9,mP,rfl⟩;split at e
        . rename_i R m' J;split at e
          . rename_i Ok;split at e
            . rename_i vs WX;refine AE lK K mO cs code _ m .normal R m' ED J E _ w u _ M7 rm fun E' a' w' x' u' uu fT hn r' pE M6=>?_;cases x'<;>first|(exact pE.elim)|skip
              obtain⟨k1,v,k2,k3⟩:=next R m' vs Ok WX e E' a' w' u' uu fT hn r' M6
              exact⟨k1,u',rfl,v,k2,k3⟩
            . cases e
          . cases e
        . rename_i R m' J;split at e
          . rename_i Ok;split at e
            . rename_i vs WX;refine AE lK K mO cs code _ m .ret R m' ED J E _ w u _ M7 rm fun E' a' w' x' u' uu fT hn r' pE M6=>?_;cases x'<;>first|(exact pE.elim)|skip
              obtain⟨k1,v,k2,k3⟩:=next R m' vs Ok WX e E' a' w' u' uu fT hn r' M6
              exact⟨k1,u',rfl,v,k2,k3⟩
            . cases e
          . cases e
        . cases e
      . cases e
    . cases e
  . cases e
theorem Ib(lK:gY P cf)(K:P.follows .mixedOrders=true)(sJ:jT P=true){f:FuncId}{args:ag}{h:I es}{n:Nat}{sI:qw}{h':I es}{n':Nat}(e:enter P cf iX f args h n=some (sI,h',n'))
  {E:Env} {w:World} {dQ:List Value} (ra:eC E args dQ) (g:Good E h w) (hd:qy E n):Calls P f dQ.toArray w (jj E h n w sI h' n'):=by
 unfold enter at e;split at e
 . rename_i fn hf;split at e
   . rename_i code Y;split at e
     . rename_i hq;obtain⟨y9,mP⟩:=qd (n:=fn.ntmps) ra hq.1 hq.2;have ED:=AG sJ hf Y;have M7:lq E fn.ntmps { T:=kZ args 0 .nil,h:=h,n:=n,iE:=[] } { tmps:=dQ.toArray++Array.replicate (fn.ntmps-dQ.toArray.size) undef,defers:=[] } w:=⟨g,hd,y9,mP,rfl⟩;refine callsIn_wide.1 (callsIn_of_wp_marks (n:=0) hf Y trivial ?_);have pX:∀(s:St) (m:Mode) (u:FrameMode) (E':Env) (a':Act) (w':World),k8 P cf iX fn s.T s.iE m s.h s.n=some (sI,h',n')->jf E h w E' s.h w'->(∀k,k<n->E'.ι k=E.ι k)->n<=s.n->lq E' fn.ntmps s a' w'->D0 E' m u->
         LeavesInM Fence.wide 0 P fn a'.tmps (jj E h n w sI h' n') a'.defers u w':=by
        intro s m u E' a' w' hl uu fT hn r' rm;exact ow lK K sJ s.iE m s.h s.n sI h' n' hl E' w' a'.defers u _ r'.good r'.rD r'.T r'.iE rm fun E2 w2 en u2 rW DZ qX ho=>⟨E2,uu.trans u2,fun k U=>by rw[rW k S];exact fT k U,DZ,S,ho⟩
       split at e
       . rename_i s J;refine lE (rC:=none) lK K code _ _ s (.inl rfl) ED J E _ w _ M7 fun E' a' w' x' uu fT hn r' pE=>?_;cases x'<;>first|(exact pE.elim)|skip
         exact pX s .ret .returning E' a' w' e uu fT hn r' trivial
       . rename_i s J;refine lE (rC:=none) lK K code _ _ s (.inl rfl) ED J E _ w _ M7 fun E' a' w' x' uu fT hn r' pE=>?_;cases x'<;>first|(exact pE.elim)|skip
         exact pX s .ret .returning E' a' w' e uu fT hn r' trivial
       . rename_i v s J;refine lE (rC:=none) lK K code _ _ s (.inl rfl) ED J E _ w _ M7 fun E' a' w' x' uu fT hn r' pE=>?_;cases x'<;>first|(exact pE.elim)|skip
         exact pX s (.lU v false) _ E' a' w' e uu fT hn r' pE
       . cases e
     . cases e
   . cases e
 . cases e
theorem CB{E:Env}:∀(ps:List Nat) (args:ag) (dQ:List Value) (T Lv:I V) (t:Array Value),wF (JD ps args) T=some Lv->eC E args dQ->(∀p∈ps,p<t.size)->OH E T t->
  OH E Lv ((ps.zip dQ).foldl (fun t (p,v)=>t.setIfInBounds p v) t)/\((ps.zip dQ).foldl (fun t (p,v)=>t.setIfInBounds p v) t).size=t.size
 | [],args,dQ,T,Lv,t,e,_,_,r=>by simp only[JD,wF,aq]at e;subst e;exact⟨by simpa using r,by simp⟩
 |p::ps,[],dQ,T,Lv,t,e,ra,_,r=>by
  simp only[JD,wF,aq]at e;subst e;simp only[eC]at ra;subst ra;exact⟨by simpa using r,by simp⟩
 |p::ps,v::vs,dQ,T,Lv,t,e,ra,hp,r=>by
  obtain⟨y,ys,r0,rs,rfl⟩:=ra;simp only[JD,wF]at e;split at e
  . rename_i eY;have hpt:=hp p (by simp);have C:=CB ps vs ys _ Lv (t.setIfInBounds p y) e rs (fun q hq=>by simpa using hp q (by simp[hq])) (fun k x J=>by
     rw[I.gw _ _ _ eY]at J;by_cases q:k=p
     . subst q;rw[aD rfl]at J;cases J;exact⟨y,by simp[hpt],r0⟩
     . rw[aA q]at J;obtain⟨x',k1,k2⟩:=r k x J;exact⟨x',by rw[Array.getElem?_setIfInBounds_ne (Ne.symm q)];exact k1,k2⟩)
    simp only[List.zip_cons_cons,List.foldl_cons];exact⟨C.1,by rw[C.2];simp⟩
  . cases e
theorem M8(ps:Array Nat)(args:List Value)(t:Array Value):(ps.zip args.toArray).foldl (fun t (p,v)=>t.setIfInBounds p v) t=(ps.toList.zip args).foldl (fun t (p,v)=>t.setIfInBounds p v) t:=by
 rw[<- Array.foldl_toList];congr 1;simp
theorem Ic(lK:gY P cf)(K:P.follows .mixedOrders=true){m:Nat}{args:ag}{h:I es}{n:Nat}{sI:qw}{h':I es}{n':Nat}(e:wG P cf iX m args h n=some (sI,h',n'))
  {E:Env} {w:World} {dQ:List Value} (ra:eC E args dQ) (g:Good E h w) (hd:qy E n) {l s0:Nat} (jz:E.ι m=some (l,s0)):YieldAt Fence.wide 0 P l dQ.toArray w (jj E h n w sI h' n'):=by
 unfold wG at e;split at e
 case h_2=>cases e
 rename_i T ps assign body pb;split at e
 case isFalse=>cases e
 rename_i hq;obtain⟨hmt,wh,hpa,hpb⟩:=hq;split at e
 case h_2=>cases e
 rename_i Lv oK;obtain⟨b,R,q1,r,Y,vt,hpe,Jt,ajg,ajh,htr,Xn,acE,acF⟩:=g.rel _ _ pb;rw[jz]at q1;cases q1;simp only[if_true]at vt;subst Jt;subst ajg;subst ajh;have hlw:l<w.heap.size:=(aU.1 Y).1;have hwm:ff h m:=⟨_,pb,rfl⟩;have gx:=run_yield (P:=P) (args:=dQ.toArray) Y (by simp[fo ra,<- wh]);refine⟨_,_,_,_,gx,roundIn_of_wpIn trivial ?_⟩;rw[M8];obtain⟨aji,DU⟩:=CB r.params.toList args dQ T Lv r.tmps oK ra acF htr;have qx:∀k o,(h.set m none).get k=some o->k≠m/\h.get k=some o:=by
  intro k o U;rw[I.gw _ _ _ hmt]at U;split at U
  . cases U
  . rename_i q;exact⟨q,U⟩
 have CC:∀k o,(h.set m none).get k=some o->h.get k=some o:=fun k o q=>(qx k o q).2;split at e
 case h_2=>cases e
 rename_i s1 VH;refine lE (rC:=some l) lK K r.assign _ _ s1 (.inr hpa) (by rw[<- DU]at Xn;exact Xn) VH E _ w _ ⟨g.sub CC,hd,aji,rfl,rfl⟩ fun E1 a1 w1 x1 u1 acG Hx r1 ajj=>?_;cases x1<;>first|(exact ajj.elim)|skip
 have nl0:∀k t,(h.set m none).get k≠none->E.ι k≠some (l,t):=by
  intro k t U q;obtain⟨o,ho⟩:=bE.1 U;obtain⟨c1,c2⟩:=qx k o ho;exact g.inj m k l s0 t (fun q=>c1 q.symm) hwm (by rw[c2];simp) jz q
 have nl1:∀k t,s1.h.get k≠none->E1.ι k≠some (l,t):=by
  intro k t U q;obtain⟨m0,t0,c1,c2,_⟩:=u1.vN k l t U q hlw;exact nl0 m0 t0 c1 c2
 have Lx:w1.heap[l]? =some (.loop r):=(u1.keep l hlw fun k t U=>nl0 k t U.live).trans Y;have SC:l<w1.heap.size:=(aU.1 Lx).1;refine⟨_,run_beginRound Lx vt,?_⟩;generalize S6:w1.putObj l (.loop { r with state:=.busy })=w2;have Oh:w2.heap[l]? =some (.loop { r with state:=.busy }):=by rw[<- S6];exact World.putObj_heap_same SC
 have MU:w2.heap.size=w1.heap.size:=by rw[<- S6];simp
 have Pm:∀k,k≠l->w2.heap[k]? =w1.heap[k]?:=fun k U=>by rw[<- S6];exact World.putObj_heap_other U
 have ye:Good E1 s1.h w2:=by
  refine⟨fun k o U=>?_,u1.good.inj,fun k b s U=>by rw[MU];exact u1.good.qt k b s U,u1.good.lj,fun b c N=>⟨?_,(u1.good.jo b c N).2⟩⟩
  case refine_2=>
   obtain⟨⟨el,fz,ot⟩,_⟩:=u1.good.jo b c N;rw[Pm b fun q=>by rw[q,Lx]at ot;cases ot];exact⟨el,fz,ot⟩
  obtain⟨b,s,k1,k2⟩:=u1.good.rel k o U;have jw:b≠l:=by intro q;subst q;exact nl1 k s (by rw[U];simp) k1
  exact⟨b,s,k1,jG E1.le_refl rfl (Pm b jw) k2⟩
 have hN1:a1.tmps.size=r.tmps.size:=by
  exact r1.size.trans DU
 have rest:∀(x:n0) (s2:St),gH P cf iX r.body s1=some (x,s2)->∀(st:Bool) (pe:Option Code) (Q:Exit->Act->World->Prop),
   (∀x' E2 a2 w3,HY E2 x x'->((Instr.endRound l pe).run P w3= .ok (.bool pe.isNone) (w3.putObj l (.loop { r with state:=if pe.isNone then .ready else .done,pending:=pe }))->
    (pe.isNone=st->jf E h w E2 (s2.h.set m (some (.loop st pe T r.params.toList r.assign r.body))) (w3.putObj l (.loop { r with state:=if pe.isNone then .ready else .done,pending:=pe })))->qy E2 s2.n->n<=s2.n->(∀k,k<n->E2.ι k=E.ι k)->Q x' a2 w3))->
   r.body.wpIn (fz (some l)) 0 P Q a1 w2:=by
  intro x s2 Xo st pe Q hQ;refine lE (rC:=some l) lK K r.body s1 x s2 (.inr hpb) acE Xo E1 a1 w2 Q ⟨ye,r1.rD,r1.T,hN1,r1.iE⟩ fun E2 a2 w3 x' u2 rW qX r2 pE=>?_;refine hQ x' E2 a2 w3 pE ?_ ?_ r2.rD (bH Hx qX) (fun k U=>by rw[rW k (cG U Hx)];exact acG k U)
  . have hb3:w3.heap[l]? =some (.loop { r with state:=.busy }):=(u2.keep l (by rw[MU];exact SC) fun k t U=>nl1 k t U.live).trans Oh;exact run_endRound (P:=P) (r:={ r with state:=.busy }) pe hb3
  . intro ajk;have nl2:∀k t,s2.h.get k≠none->E2.ι k≠some (l,t):=by
     intro k t U q;obtain⟨m0,t0,c1,c2,_⟩:=u2.vN k l t U q (by rw[MU];exact SC);exact nl1 m0 t0 c1 c2
    have hb3:w3.heap[l]? =some (.loop { r with state:=.busy }):=(u2.keep l (by rw[MU];exact SC) fun k t U=>nl1 k t U.live).trans Oh;have hl3:l<w3.heap.size:=(aU.1 hb3).1;have mg:E.le E2:=Env.le_trans u1.le u2.le;have Pn:E2.ι m=some (l,s0):=(mg.nm m l s0 jz).1;generalize Xp:({ r with state:=if pe.isNone then .ready else .done,pending:=pe }:Loop)=r4;have acH:(w3.putObj l (.loop r4)).heap.size=w3.heap.size:=by simp
    have Po:∀k,k≠l->(w3.putObj l (.loop r4)).heap[k]? =w3.heap[k]?:=fun k U=>World.putObj_heap_other U;have qV:nJ E2 (w3.putObj l (.loop r4)) l s0 (.loop st pe T r.params.toList r.assign r.body):=by
     refine⟨r4,World.putObj_heap_same hl3,?_,?_,?_,?_,?_,?_,?_⟩
     . rw[<- Xp,<- ajk]
     . rw[<- Xp]
     . rw[<- Xp]
     . rw[<- Xp]
     . rw[<- Xp]
     . rw[<- Xp];exact zj mg htr
     . rw[<- Xp];exact⟨Xn,acE,acF⟩
    have tV:∀k o,(s2.h.set m (some (.loop st pe T r.params.toList r.assign r.body))).get k=some o->(k=m/\o= .loop st pe T r.params.toList r.assign r.body)\/(k≠m/\s2.h.get k=some o):=by
     intro k o q;rw[I.gw _ _ _ hmt]at q;split at q
     . rename_i c;cases q;exact .inl ⟨c,rfl⟩
     . rename_i c;exact .inr ⟨c,q⟩
    have Pp:∀b c,E2.φ b=some c->b≠l:=fun b c N q=>by
     obtain⟨⟨el,fz,ot⟩,_⟩:=u2.good.jo b c N;rw[q,hb3]at ot;cases ot
    refine⟨mg,⟨?_,?_,?_,u2.good.lj,fun b c N=>⟨by rw[Po b (Pp b c N)];exact(u2.good.jo b c N).1,fun k t U q0=>?_⟩⟩,?_,?_,?_,?_,?_,?_,?_⟩
    case refine_4=>
     obtain⟨o,U,ho⟩:=U;rcases tV k o U with⟨rfl,rfl⟩|⟨c',q⟩
     . rw[Pn]at q0;cases q0;exact Pp _ c N rfl
     . exact(u2.good.jo b c N).2 k t ⟨o,q,ho⟩ q0
    case refine_11=>
     intro b c N;rcases u2.Fm b c N with q|q|⟨m1,t1,q1,q2⟩
     . rcases u1.Fm b c q with q|q|⟨m0,t0,q1,q2⟩
       . exact .inl q
       . exact .inr (.inl q)
       . exact .inr (.inr ⟨m0,t0,iC CC q1,q2⟩)
     . have c1:=u1.size;exact .inr (.inl S)
     . rcases bj b w.heap.size with DH|DH
       . obtain⟨m0,t0,_,f2,f3⟩:=u1.vN m1 b t1 q1.live q2 DH;exact .inr (.inr ⟨m0,t0,iC CC (f3 q1),f2⟩)
       . exact .inr (.inl DH)
    . intro k o q;rcases tV k o q with⟨rfl,rfl⟩|⟨c,q⟩
      . exact⟨l,s0,Pn,qV⟩
      . obtain⟨b,t,k1,k2⟩:=u2.good.rel k o q;have jw:b≠l:=by intro c;subst c;exact nl2 k t (by rw[q];simp) k1
        exact⟨b,t,k1,jG E2.le_refl rfl (Po b jw) k2⟩
    . intro k k' b t t' jw U qU e1 e2;obtain⟨o,U,ho⟩:=U;obtain⟨o',qU⟩:=bE.1 qU;rcases tV k o U with⟨rfl,rfl⟩|⟨c,q⟩
      . rcases tV k' o' qU with⟨rfl,rfl⟩|⟨c',q'⟩
        . exact jw rfl
        . rw[Pn]at e1;cases e1;exact nl2 k' t' (by rw[q'];simp) e2
      . rcases tV k' o' qU with⟨rfl,rfl⟩|⟨c',q'⟩
        . rw[Pn]at e2;cases e2;exact nl2 k t (by rw[q];simp) e1
        . exact u2.good.inj k k' b t t' jw ⟨o,q,ho⟩ (by rw[q'];simp) e1 e2
    . intro k b t q;rw[acH];exact u2.good.qt k b t q
    . rw[acH];have c1:=u1.size;have c2:=u2.size;omega
    . exact u2.tape.trans (by rw[<- S6];exact u1.tape)
    . exact u2.os.trans (by rw[<- S6];exact u1.os)
    . exact u2.output.trans (by rw[<- S6];exact u1.output)
    . intro b DH Aw;have jw:b≠l:=by intro c;subst c;exact Aw m s0 hwm jz
      have c1:=u1.size;rw[Po b jw,u2.keep b S ?_,Pm b jw,u1.keep b DH ?_]
      . intro k t U q;exact Aw k t (iC CC U) q
      . intro k t U q;obtain⟨m0,t0,d1,d2,d3⟩:=u1.vN k b t U.live q DH;exact Aw m0 t0 (iC CC (d3 U)) d2
    . intro k b t U q DH;obtain⟨o,U⟩:=bE.1 U;have c1:=u1.size;rcases tV k o U with⟨rfl,rfl⟩|⟨c,qk⟩
      . rw[Pn]at q;cases q;exact⟨k,s0,hwm.live,jz,fun _=>hwm⟩
      . obtain⟨m1,t1,d1,d2,d3⟩:=u2.vN k b t (by rw[qk];simp) q S;obtain⟨m0,t0,f1,f2,f3⟩:=u1.vN m1 b t1 d1 d2 DH;exact⟨m0,t0,pS CC f1,f2,fun z=>iC CC (f3 (d3 (pQ hmt z c)))⟩
 split at e
 . rename_i s2 Xo;simp only[aq,aB]at e;obtain⟨rfl,rfl,rfl⟩:=e;refine rest _ s2 Xo true none _ fun x' E2 a2 w3 pE gx hu p9 hn fT=>?_;cases x'<;>first|(exact pE.elim)|skip
   exact⟨_,_,gx,E2,hu rfl,fT,p9,hn,rfl⟩
 . rename_i s2 Xo;simp only[aq,aB]at e;obtain⟨rfl,rfl,rfl⟩:=e;refine rest _ s2 Xo false (some .ret) _ fun x' E2 a2 w3 pE gx hu p9 hn fT=>?_;cases x'<;>first|(exact pE.elim)|skip
   exact⟨_,_,gx,E2,hu rfl,fT,p9,hn,rfl⟩
 . rename_i j s2 Xo;simp only[aq,aB]at e;obtain⟨rfl,rfl,rfl⟩:=e;refine rest _ s2 Xo false (some (.exit j)) _ fun x' E2 a2 w3 pE gx hu p9 hn fT=>?_;cases x'<;>first|(exact pE.elim)|skip
   have:_=j:=pE.symm;subst this;exact⟨_,_,gx,E2,hu rfl,fT,p9,hn,rfl⟩
 . cases e
theorem LD(lK:gY P cf)(K:P.follows .mixedOrders=true)(sJ:jT P=true):gY P (fun f args h n=>if f<P.funcs.size then enter P cf iX f args h n else wG P cf iX (f-P.funcs.size) args h n):=by
 intro f args h n sI h' n' e E w dQ ra g hd;simp only at e;split at e
 . rename_i eY;exact⟨fun _=>Ib lK K sJ e ra g hd,fun m l s hf _=>absurd eY (by rw[hf];exact Nat.not_lt.2 (Nat.le_add_right _ _))⟩
 . rename_i Pf;refine⟨fun N=>?_,fun m l s hf jz=>?_⟩
   . exfalso;unfold callee at N;rw[Array.getElem?_eq_none (Nat.not_lt.1 Pf)]at N;cases N
   . subst hf;rw[Nat.add_sub_cancel_left]at e;exact Ic lK K e ra g hd jz
theorem AH(K:P.follows .mixedOrders=true)(sJ:jT P=true):∀k,gY P (call P iX k)
 |0=>fun _ _ _ _ _ _ _ e=>by cases e
 |k+1=>LD (AH K sJ k) K sJ
end
open Go.RowKit
def EE:List (Nat×Nat)->Nat->Option (Nat×Nat)
 | [],_=>none
 |p::r,m=>if p.2=m then some (p.1,0)else EE r m
def gN:Nat:=uc.length
theorem zC:∀{l:List (Nat×Nat)} {m:Nat} {q:Nat×Nat},EE l m=some q->∃p∈l,p.2=m/\q=(p.1,0)
 | [],_,_,h=>by cases h
 |p::r,m,q,h=>by
  unfold EE at h;split at h
  . rename_i Y;cases h;exact⟨p,by simp,Y,rfl⟩
  . obtain⟨p',h1,C⟩:=zC h;exact⟨p',aZ _ h1,C⟩
theorem Ie:∀{l:List (Nat×Nat)} {p:Nat×Nat},p∈l->(l.map (·.2)).Nodup->EE l p.2=some (p.1,0)
 |q::r,p,h,hn=>by
  unfold EE;rcases az.1 h with rfl|h
  . rw[aD rfl]
  . simp only[bQ,List.nodup_cons]at hn;rw[aA (fun e=>hn.1 (by rw[e];exact List.mem_map_of_mem h))];exact Ie h hn.2
theorem Te:(uc.map (·.2)).Nodup:=by
 have h:uc.map (·.2)=List.range uc.length:=by decide
 rw[h];exact List.nodup_range
section
variable(φ:Nat->Option (Array Value)){E:Env}(w:World){h:I es}
theorem LF{p:Nat×Nat}(h:p∈uc):p.2<gN:=by
 have e:uc.map (·.2)=List.range uc.length:=by decide
 have:=List.mem_map_of_mem (f:=(·.2)) h;rw[e]at this;exact bN.1 this
def Bf:Env:=⟨fun m=>EE uc m,fun _=>0,φ⟩
def E0:Env:=Bf fun _=>none
def Tf:Prop:=∀b c,φ b=some c->∃el fz,w.heap[b]? =some (.cells c el fz)
theorem Good.fz{w:World}(g:Good E h w):Tf E.φ w:=fun b c q=>(g.jo b c q).1
theorem ajm:GE (Bf φ):=fun p hp=>Ie hp Te
def WG:Prop:=∀p∈uc,p.1<w.heap.size
theorem Good.wg{w:World}(g:Good E h w):WG w:=fun p hp=>g.qt _ _ _ (g.lj p hp)
end
section
variable{φ:Nat->Option (Array Value)}{w:World}{n:Nat}
theorem wZ(hw:WG w)(kT:Tf φ w):Good (Bf φ) .nil w:=⟨fun m o h=>by simp[I.get]at h,fun m _ _ _ _ _ h=>absurd rfl h.live,fun m b s h=>by obtain⟨p,h1,_,C⟩:=zC h;cases C;exact hw p h1,ajm φ,fun b c q=>⟨kT b c q,fun m s h=>absurd rfl h.live⟩⟩
theorem VP(hw:WG w):Good E0 .nil w:=wZ hw fun _ _ q=>by cases q
theorem CD(hn:gN<=n):qy (Bf φ) n:=fun m K=>by
 cases q:(Bf φ).ι m with
 |none=>rfl
 |some _=>obtain⟨p',h1,C,_⟩:=zC q;have:=LF h1;omega
theorem acJ(hn:gN<=n):qy E0 n:=CD hn
end
mutual
def V.free:V->Bool
 | .ptr (some _)=>false
 | .eZ (some _) _ _ _=>false
 | .map (some _)=>false
 | .fn f a c=>vp f&&(V.tW a&&V.tW c)
 | .iface _ x=>V.free x
 | .agg cs=>V.tW cs
 | .gV cs=>V.tW cs
 | .eE _ 0 []=>true
 | .eE _ _ _=>false
 | .dS _=>false
 |_=>true
def V.tW:ag->Bool
 | []=>true
 |x::xs=>V.free x&&V.tW xs
end
mutual
theorem uS{E E':Env}:∀(v:V) (v':Value),v.free=true->eB E v v'->eB E' v v'
 | .bool _,_,_,r=>r
 | .int _ _,_,_,r=>r
 | .str _,_,_,r=>r
 | .ptr none,_,_,r=>r
 | .ptr (some _),_,h,_=>by simp[V.free]at h
 | .eZ none _ _ _,_,_,r=>r
 | .eZ (some _) _ _ _,_,h,_=>by simp[V.free]at h
 | .map none,_,_,r=>r
 | .map (some _),_,h,_=>by simp[V.free]at h
 | .fn f a c,_,h,⟨f',a',c',rf,ra,rc,q⟩=>by
   simp only[V.free,ay]at h;refine⟨f',a',c',?_,nX a a' h.2.1 ra,nX c c' h.2.2 rc,q⟩;cases f<;>first|exact rf|(simp[vp]at h;done)
 | .kI,_,_,r=>r
 | .iface _ x,_,h,⟨x',r,q⟩=>⟨x',uS x x' (by simpa only[V.free]using h) r,q⟩
 | .nilIface,_,_,r=>r
 | .agg cs,_,h,⟨cs',r,q⟩=>⟨cs',nX cs cs' (by simpa only[V.free]using h) r,q⟩
 | .gV cs,_,h,⟨cs',r,q⟩=>⟨cs',nX cs cs' (by simpa only[V.free]using h) r,q⟩
 | .eE f 0 [],_,_,r=>by
   obtain⟨⟨a,jQ,vs,h1,C,h3,h4,h5⟩,h6⟩:=r;exact⟨⟨a,jQ,vs,h1,C,h3,h4,fun q=>absurd q (dj _)⟩,h6⟩
 | .eE f 0 (_::_),_,h,_=>by simp[V.free]at h
 | .eE f (_+1) _,_,h,_=>by simp[V.free]at h
 | .dS _,_,h,_=>by simp[V.free]at h
theorem nX{E E':Env}:∀(v:ag) (v':List Value),V.tW v=true->eC E v v'->eC E' v v'
 | [],_,_,r=>r
 |x::xs,_,h,⟨y,ys,r,rs,q⟩=>by
  simp only[V.tW,ay]at h;exact⟨y,ys,uS x y h.1 r,nX xs ys h.2 rs,q⟩
end
theorem Good.below{E:Env}{h:I es}{w w':World}(g:Good E h w)(b:Below w.heap.size w w'):Good E h w' where
 rel:=fun m o K=>let⟨b',s,h1,C⟩:=g.rel m o K;⟨b',s,h1,jG E.le_refl rfl (b.block b' (g.qt m b' s h1)) C⟩
 inj:=g.inj
 qt:=fun m b' s K=>cG (g.qt m b' s K) b.size
 lj:=g.lj
 jo:=fun k c q=>⟨by rw[b.block k (by obtain⟨el,fz,e⟩:=g.fz k c q;exact(aU.1 e).1)];exact g.fz k c q,(g.jo k c q).2⟩
theorem jf.below{E:Env}{h:I es}{w w':World}(g:Good E h w)(b:Below w.heap.size w w'):jf E h w E h w':=
 ⟨E.le_refl,g.below b,b.size,b.tape,b.os,b.output,fun k U _=>b.block k U,fun m _ s K he _=>⟨m,s,K,he,id⟩,fun _ _ q=>.inl q⟩
def look(f:FuncId)(args:ag):List (FuncId×ag×V)->Option V
 | []=>none
 |x::r=>match Nat.beq f x.1&&V.o4 args x.2.1 with
  |true=>some x.2.2
  |false=>look f args r
def FJ(P:Program)(x:FuncId×ag×V):Prop:=x.1<P.funcs.size/\V.tW x.2.1=true/\x.2.2.free=true/\∃cf h' n',gY P cf/\cf x.1 x.2.1 .nil gN=some (.ret x.2.2,h',n')
theorem If{f:FuncId}{args:ag}{v:V}:∀{fr:List (FuncId×ag×V)},look f args fr=some v->(f,args,v)∈fr
 | [],h=>by simp[look]at h
 |x::r,h=>by
  simp only[look]at h;split at h
  . rename_i Y;simp only[ay]at Y;simp only[aq]at h;rw[aJ Y.1,vz _ _ Y.2,<- h];simp
  . exact aZ _ (If h)
theorem J4{P:Program}{f:FuncId}{args:ag}{v:V}(hs:FJ P (f,args,v)){E:Env}{h:I es}{n:Nat}{w:World}{dQ:List Value}(ra:eC E args dQ)(g:Good E h w)(hd:qy E n)(N:callee P f=true):
  Calls P f dQ.toArray w (jj E h n w (.ret v) h n):=by
 obtain⟨_,ha,hv,cf,h',n',lK,e⟩:=hs;refine(lK f args .nil gN _ h' n' e E0 w dQ (nX _ _ ha ra) (VP g.wg) (acJ (aK _))).1 N |>.mono fun en w' ⟨E1,u,_,_,_,ho⟩=>?_;have U:∀b,b<w.heap.size->w'.heap[b]? =w.heap[b]?:=fun b Y=>u.keep b Y fun m s K=>absurd rfl K.live;have hfb:∀b c,E.φ b=some c->b<w.heap.size:=fun b c q=>by obtain⟨el,fz,e⟩:=g.fz b c q;exact(aU.1 e).1
 refine⟨E,⟨E.le_refl,⟨?_,g.inj,fun m b s K=>cG (g.qt m b s K) u.size,g.lj,fun b c q=>⟨by rw[U b (hfb b c q)];exact g.fz b c q,(g.jo b c q).2⟩⟩,u.size,u.tape,u.os,u.output,fun b Y _=>U b Y,fun m b s K he _=>⟨m,s,K,he,id⟩,fun _ _ q=>.inl q⟩,fun _ _=>rfl,hd,aK _,?_⟩
 . intro m o K;obtain⟨b,s,h1,C⟩:=g.rel m o K;exact⟨b,s,h1,jG E.le_refl rfl (U b (g.qt m b s h1)) C⟩
 . cases en with
   |returned v'=>exact uS _ _ hv ho
   |_=>exact ho.elim
structure Tg(w0:World)(E:Env)(h:I es)(w:World):Prop where
 good:Good E h w
 size:w0.heap.size<=w.heap.size
 tape:w.tape=w0.tape
 os:w.os=w0.os
 output:w.output=w0.output
 keep:∀b,b<w0.heap.size->w.heap[b]? =w0.heap[b]?
 vN:∀m b s,ff h m->E.ι m=some (b,s)->b<w0.heap.size->False
theorem Tg.trans{w0:World}{E E':Env}{h h':I es}{w w':World}(a:Tg w0 E h w)(b:jf E h w E' h' w'):Tg w0 E' h' w' where
 good:=b.good
 size:=bH a.size b.size
 tape:=b.tape.trans a.tape
 os:=b.os.trans a.os
 output:=b.output.trans a.output
 keep:=fun x J=>by
  rw[b.keep x (cG J a.size) fun m s K e=>a.vN m x s K e J,a.keep x J]
 vN:=fun m x s K e J=>by
  obtain⟨m1,s1,_,e1,k1⟩:=b.vN m x s K.live e (cG J a.size);exact a.vN m1 x s1 (k1 K) e1 J
def acK(hc:Nat)(w0:World)(s:St)(a:Act)(w:World):Prop:=∃E,lq E hc s a w/\Tg w0 E s.h w
def n0.plain:n0->Option Exit
 | .normal=>some .normal
 | .exit i=>some (.exit i)
 | .ret=>some .ret
 | .panic _=>none
mutual
def V.names:V->List Nat->List Nat
 | .ptr (some (m,_)),l=>m::l
 | .eZ (some (m,_)) _ _ _,l=>m::l
 | .map (some m),l=>m::l
 | .fn f a c,l=>match f with
   | .yield m=>m::V.tg a (V.tg c l)
   |_=>V.tg a (V.tg c l)
 | .iface _ x,l=>V.names x l
 | .agg cs,l=>V.tg cs l
 | .gV cs,l=>V.tg cs l
 |_,l=>l
def V.tg:ag->List Nat->List Nat
 | [],l=>l
 |x::xs,l=>V.names x (V.tg xs l)
end
def Ig:List (V×V×Nat)->List Nat
 | []=>[]
 |x::xs=>V.names x.1 (V.names x.2.1 (Ig xs))
def es.names:es->List Nat
 | .cells cs=>V.tg cs []
 | .map O _=>Ig O
 | .nB _ _=>[]
 | .ints _ _=>[]
 | .own _ _=>[]
 | .deep _=>[]
 | .vM _ _ _=>[]
 | .Hh _ _ x=>V.names x []
 | .gM _ _=>[]
 | .oI _ _=>[]
 | .ud=>[]
 | .loop ..=>[]
def Xq(h:I es):Nat->List Nat->I Nat->List Nat->Nat->Option (I Nat×List Nat×Nat)
 |0,_,_,_,_=>none
 |_+1,[],ρ,qY,k=>some (ρ,qY,k)
 |f+1,m::q,ρ,qY,k=>match ρ.get m with
  |some _=>Xq h f q ρ qY k
  |none=>Xq h f ((match h.get m with|some o=>o.names|none=>[])++q) (ρ.set m (some k)) (m::qY) (k+1)
def CE:List Nat->Nat->I Nat->I Nat
 | [],_,t=>t
 |m::r,k,t=>CE r (k-1) (t.set (k-1) (some m))
def CF(ρ CG:I Nat)(n2 m:Nat):Option Nat:=
 match ρ.get m with
 |some k=>match CG.get k with
  |some m'=>match Nat.beq m m'&&Nat.blt k n2 with
   |true=>some k
   |false=>none
  |none=>none
 |none=>none
theorem Ih{ρ CG:I Nat}{n2 m k:Nat}(h:CF ρ CG n2 m=some k):ρ.get m=some k/\CG.get k=some m/\k<n2:=by
 unfold CF at h;split at h
 . rename_i k' h1;split at h
   . rename_i m' C;split at h
     . rename_i Y;simp only[ay]at Y;simp only[aq]at h;subst h;have e:=aJ Y.1;subst e;exact⟨h1,C,by have:=Y.2;simp[Nat.blt]at this;omega⟩
     . cases h
   . cases h
 . cases h
section
variable(ν:Nat->Option Nat)
mutual
def V.VQ:V->Option V
 | .ptr (some (m,o))=>match ν m with
   |some k=>some (.ptr (some (k,o)))
   |none=>none
 | .eZ (some (m,o)) l c e=>match ν m with
   |some k=>some (.eZ (some (k,o)) l c e)
   |none=>none
 | .map (some m)=>match ν m with
   |some k=>some (.map (some k))
   |none=>none
 | .fn f a c=>match vp f with
   |true=>match V.Na a with
    |some a=>match V.Na c with
     |some c=>some (.fn f a c)
     |none=>none
    |none=>none
   |false=>none
 | .iface t x=>match V.VQ x with
   |some x=>some (.iface t x)
   |none=>none
 | .agg cs=>match V.Na cs with
   |some cs=>some (.agg cs)
   |none=>none
 | .gV cs=>match V.Na cs with
   |some cs=>some (.gV cs)
   |none=>none
 | .bool b=>some (.bool b)
 | .int k n=>some (.int k n)
 | .str s=>some (.str s)
 | .ptr none=>some (.ptr none)
 | .eZ none l c e=>some (.eZ none l c e)
 | .map none=>some (.map none)
 | .kI=>some .kI
 | .nilIface=>some .nilIface
 | .eE f n cs=>some (.eE f n cs)
 | .dS cs=>some (.dS cs)
def V.Na:ag->Option (ag)
 | []=>some []
 |x::xs=>match V.VQ x with
  |some x=>match V.Na xs with
   |some xs=>some (x::xs)
   |none=>none
  |none=>none
end
def VR:List (V×V×Nat)->Option (List (V×V×Nat))
 | []=>some []
 |x::xs=>match V.VQ ν x.1,V.VQ ν x.2.1,VR xs with
  |some k,some v,some xs=>some ((k,v,x.2.2)::xs)
  |_,_,_=>none
def es.VQ:es->Option es
 | .cells cs=>match V.Na ν cs with
   |some cs=>some (.cells cs)
   |none=>none
 | .map O c=>match VR ν O with
   |some O=>some (.map O c)
   |none=>none
 | .nB s p=>some (.nB s p)
 | .ints k ks=>some (.ints k ks)
 | .own k ks=>some (.own k ks)
 | .deep cs=>some (.deep cs)
 | .vM e f s=>some (.vM e f s)
 | .Hh t s x=>match V.VQ ν x with
   |some x=>some (.Hh t s x)
   |none=>none
 | .gM k O=>some (.gM k O)
 | .oI k O=>some (.oI k O)
 | .ud=>none
 | .loop ..=>none
end
section
variable{ν:Nat->Option Nat}{E E':Env}(jz:∀m k,ν m=some k->E'.ι k=E.ι m)(oG:E'.β=E.β)(kT:∀b c,E.φ b=some c->E'.φ b=some c)
include jz oG kT
end
def J5(ν:Nat->Option Nat)(h:I es):List Nat->I es->Option (I es)
 | [],t=>some t
 |m::r,t=>match h.get m with
  |none=>J5 ν h r t
  |some o=>match ν m with
   |some k=>match o.VQ ν with
    |some o2=>match Nat.blt k gy with
     |true=>J5 ν h r (t.set k (some o2))
     |false=>none
    |none=>none
   |none=>none
def zD(ν:Nat->Option Nat)(T:I V):List Nat->I V->Option (I V)
 | [],t=>some t
 |m::r,t=>match T.get m with
  |none=>zD ν T r t
  |some v=>match v.VQ ν with
   |some v2=>match Nat.blt m gy with
    |true=>zD ν T r (t.set m (some v2))
    |false=>none
   |none=>none
def vB(T:I V):List Nat->List Nat
 | []=>[]
 |t::r=>match T.get t with
  |some v=>v.names (vB T r)
  |none=>vB T r
def acL(CG:I Nat)(k:Nat):Bool:=uc.all fun p=>Nat.blt p.2 k&&match CG.get p.2 with
 |some o=>Nat.beq o p.2
 |none=>false
def norm(live:List Nat)(s:St):Option St:=
 match s.iE with
 | []=>match Xq s.h 100000 (vB s.T live) .nil [] 0 with
   |some (ρ,qY,k)=>
    let ν:=CF ρ (CE qY k .nil) k
    match acL (CE qY k .nil) k with
    |false=>none
    |true=>match J5 ν s.h qY .nil with
    |some C=>match zD ν s.T live .nil with
     |some O6=>some { T:=O6,h:=C,n:=k,iE:=[] }
     |none=>none
    |none=>none
   |none=>none
 |_=>none
section
variable(ν:Nat->Option Nat)
mutual
def V.rn:V->Option V
 | .ptr (some (m,o))=>match ν m with
   |some k=>some (.ptr (some (k,o)))
   |none=>none
 | .eZ (some (m,o)) l c e=>match ν m with
   |some k=>some (.eZ (some (k,o)) l c e)
   |none=>none
 | .map (some m)=>match ν m with
   |some k=>some (.map (some k))
   |none=>none
 | .fn f a c=>match V.J6 a with
   |some a=>match V.J6 c with
    |some c=>match f with
     | .yield m=>match ν m with
       |some k=>some (.fn (.yield k) a c)
       |none=>none
     |f=>some (.fn f a c)
    |none=>none
   |none=>none
 | .iface t x=>match V.rn x with
   |some x=>some (.iface t x)
   |none=>none
 | .agg cs=>match V.J6 cs with
   |some cs=>some (.agg cs)
   |none=>none
 | .gV cs=>match V.J6 cs with
   |some cs=>some (.gV cs)
   |none=>none
 | .bool b=>some (.bool b)
 | .int k n=>some (.int k n)
 | .str s=>some (.str s)
 | .ptr none=>some (.ptr none)
 | .eZ none l c e=>some (.eZ none l c e)
 | .map none=>some (.map none)
 | .kI=>some .kI
 | .nilIface=>some .nilIface
 | .eE f n cs=>some (.eE f n cs)
 | .dS cs=>some (.dS cs)
def V.J6:ag->Option (ag)
 | []=>some []
 |x::xs=>match V.rn x with
  |some x=>match V.J6 xs with
   |some xs=>some (x::xs)
   |none=>none
  |none=>none
end
def Pq:List (V×V×Nat)->Option (List (V×V×Nat))
 | []=>some []
 |x::xs=>match V.rn ν x.1 with
  |some k=>match V.rn ν x.2.1 with
   |some v=>match Pq xs with
    |some xs=>some ((k,v,x.2.2)::xs)
    |none=>none
   |none=>none
  |none=>none
def CH(m:Nat):Bool:=match ν m with
 |some k=>Nat.beq m k
 |none=>false
mutual
def V.still:V->Bool
 | .ptr (some (m,_))=>CH ν m
 | .eZ (some (m,_)) _ _ _=>CH ν m
 | .map (some m)=>CH ν m
 | .fn f a c=>(match f with | .yield m=>CH ν m|_=>true)&&(V.w6 a&&V.w6 c)
 | .iface _ x=>V.still x
 | .agg cs=>V.w6 cs
 | .gV cs=>V.w6 cs
 |_=>true
def V.w6:ag->Bool
 | []=>true
 |x::xs=>V.still x&&V.w6 xs
end
def yf:I V->Bool
 | .nil=>true
 | .node v l r=>(match v with|some v=>V.still ν v|none=>true)&&(yf l&&yf r)
def es.rn:es->Option es
 | .cells cs=>match V.J6 ν cs with
   |some cs=>some (.cells cs)
   |none=>none
 | .map O c=>match Pq ν O with
   |some O=>some (.map O c)
   |none=>none
 | .nB s p=>some (.nB s p)
 | .ints k ks=>some (.ints k ks)
 | .own k ks=>some (.own k ks)
 | .deep cs=>some (.deep cs)
 | .vM e f s=>some (.vM e f s)
 | .Hh t s x=>match V.rn ν x with
   |some x=>some (.Hh t s x)
   |none=>none
 | .gM k O=>some (.gM k O)
 | .oI k O=>some (.oI k O)
 | .ud=>some .ud
 | .loop st pe T ps a b=>match yf ν T with
   |true=>some (.loop st pe T ps a b)
   |false=>none
end
mutual
theorem uT{ν:Nat->Option Nat}{E E':Env}(jz:∀m k,ν m=some k->E'.ι k=E.ι m)(oG:∀m k b s,ν m=some k->E.ι m=some (b,s)->E'.β b=E.β b)(kT:∀b c,E.φ b=some c->E'.φ b=some c):∀(v v2:V) (v':Value),v.rn ν=some v2->eB E v v'->eB E' v2 v'
 | .bool _,v2,_,h,r=>by simp only[V.rn,aq]at h;subst h;exact r
 | .int _ _,v2,_,h,r=>by simp only[V.rn,aq]at h;subst h;exact r
 | .str _,v2,_,h,r=>by simp only[V.rn,aq]at h;subst h;exact r
 | .ptr none,v2,_,h,r=>by simp only[V.rn,aq]at h;subst h;exact r
 | .ptr (some (m,o)),v2,_,h,⟨b,s,e,q⟩=>by
   simp only[V.rn]at h;split at h
   . rename_i k U;obtain rfl:=eU h;exact⟨b,s,(jz m k U).trans e,q⟩
   . cases h
 | .eZ none _ _ _,v2,_,h,r=>by simp only[V.rn,aq]at h;subst h;exact r
 | .eZ (some (m,o)) _ _ _,v2,_,h,⟨b,s,o',gP,e,q1,q2,q3,q4,q5⟩=>by
   simp only[V.rn]at h;split at h
   . rename_i k U;obtain rfl:=eU h;exact⟨b,s,o',gP,(jz m k U).trans e,q1,q2,q3,by rw[oG m k b s U e];exact q4,q5⟩
   . cases h
 | .map none,v2,_,h,r=>by simp only[V.rn,aq]at h;subst h;exact r
 | .map (some m),v2,_,h,⟨b,e,q⟩=>by
   simp only[V.rn]at h;split at h
   . rename_i k U;obtain rfl:=eU h;exact⟨b,(jz m k U).trans e,q⟩
   . cases h
 | .fn f a c,v2,_,h,⟨f',a',c',rf,ra,rc,q⟩=>by
   simp only[V.rn]at h;split at h
   . rename_i a2 ha;split at h
     . rename_i c2 N;have VS:=th jz oG kT a a2 a' ha ra;have rc2:=th jz oG kT c c2 c' N rc;split at h
       . rename_i m;split at h
         . rename_i k U;obtain rfl:=eU h;obtain⟨l,s,e,q2⟩:=rf;exact⟨f',a',c',⟨l,s,(jz m k U).trans e,q2⟩,VS,rc2,q⟩
         . cases h
       . obtain rfl:=eU h;refine⟨f',a',c',?_,VS,rc2,q⟩;cases f<;>first|exact rf|(rename_i jw;exact(jw _ rfl).elim)
     . cases h
   . cases h
 | .kI,v2,_,h,r=>by simp only[V.rn,aq]at h;subst h;exact r
 | .iface t x,v2,_,h,⟨x',r,q⟩=>by
   simp only[V.rn]at h;split at h
   . rename_i x2 J;obtain rfl:=eU h;exact⟨x',uT jz oG kT x x2 x' J r,q⟩
   . cases h
 | .nilIface,v2,_,h,r=>by simp only[V.rn,aq]at h;subst h;exact r
 | .agg cs,v2,_,h,⟨cs',r,q⟩=>by
   simp only[V.rn]at h;split at h
   . rename_i x2 J;obtain rfl:=eU h;exact⟨cs',th jz oG kT cs x2 cs' J r,q⟩
   . cases h
 | .gV cs,v2,_,h,⟨cs',r,q⟩=>by
   simp only[V.rn]at h;split at h
   . rename_i x2 J;obtain rfl:=eU h;exact⟨cs',th jz oG kT cs x2 cs' J r,q⟩
   . cases h
 | .eE f n cs,v2,_,h,r=>by
   simp only[V.rn,aq]at h;subst h;exact⟨mE kT _ _ r.1,r.2⟩
 | .dS cs,v2,_,h,⟨b,o,c,vs,e,e1,r,q⟩=>by
   simp only[V.rn,aq]at h;subst h;exact⟨b,o,c,vs,e,kT _ _ e1,iP kT _ _ r,q⟩
theorem th{ν:Nat->Option Nat}{E E':Env}(jz:∀m k,ν m=some k->E'.ι k=E.ι m)(oG:∀m k b s,ν m=some k->E.ι m=some (b,s)->E'.β b=E.β b)(kT:∀b c,E.φ b=some c->E'.φ b=some c):∀(v v2:ag) (v':List Value),V.J6 ν v=some v2->eC E v v'->eC E' v2 v'
 | [],v2,_,h,r=>by simp only[V.J6,aq]at h;subst h;exact r
 |x::xs,v2,_,h,⟨y,ys,r,rs,q⟩=>by
  simp only[V.J6]at h;split at h
  . rename_i x2 J;split at h
    . rename_i Nb Ch;obtain rfl:=eU h;exact⟨y,ys,uT jz oG kT x x2 y J r,th jz oG kT xs Nb ys Ch rs,q⟩
    . cases h
  . cases h
end
section
variable{ν:Nat->Option Nat}{E E':Env}(jz:∀m k,ν m=some k->E'.ι k=E.ι m)(oG:∀m k b s,ν m=some k->E.ι m=some (b,s)->E'.β b=E.β b)(kT:∀b c,E.φ b=some c->E'.φ b=some c)
include jz oG kT
theorem Ii:∀(O y8:List (V×V×Nat)) (l:List MapEntry),Pq ν O=some y8->kM E O l->kM E' y8 l
 | [],y8,_,h,r=>by simp only[Pq,aq]at h;subst h;exact r
 |x::xs,y8,_,h,⟨y,ys,r1,r2,r3,rs,q⟩=>by
  simp only[Pq]at h;split at h
  . rename_i k U;split at h
    . rename_i v hv;split at h
      . rename_i Nb Ch;obtain rfl:=eU h;exact⟨y,ys,uT jz oG kT _ _ _ U r1,uT jz oG kT _ _ _ hv r2,r3,Ii _ _ _ Ch rs,q⟩
      . cases h
    . cases h
  . cases h
end
theorem nY{ν:Nat->Option Nat}{m:Nat}(h:CH ν m=true):ν m=some m:=by
 unfold CH at h;split at h
 . rename_i k U;rw[U,aJ h]
 . cases h
theorem uU{ν:Nat->Option Nat}:∀(t:I V),yf ν t=true->∀k v,t.get k=some v->v.still ν=true
 | .nil,_,k,v,h=>by simp[I.get]at h
 | .node x l r,hs,k,v,h=>by
   simp only[yf,ay]at hs;simp only[I.get]at h;split at h
   . subst h;exact hs.1
   . rename_i k;split at h
     . exact uU l hs.2.1 _ v h
     . exact uU r hs.2.2 _ v h
mutual
theorem zE{ν:Nat->Option Nat}{E E':Env}(jz:∀m k,ν m=some k->E'.ι k=E.ι m)(oG:∀m k b s,ν m=some k->E.ι m=some (b,s)->E'.β b=E.β b)(kT:∀b c,E.φ b=some c->E'.φ b=some c):∀(v:V) (v':Value),v.still ν=true->eB E v v'->eB E' v v'
 | .bool _,_,_,r=>r
 | .int _ _,_,_,r=>r
 | .str _,_,_,r=>r
 | .ptr none,_,_,r=>r
 | .ptr (some (m,o)),_,h,⟨b,s,e,q⟩=>⟨b,s,(jz m m (nY h)).trans e,q⟩
 | .eZ none _ _ _,_,_,r=>r
 | .eZ (some (m,o)) _ _ _,_,h,⟨b,s,o',gP,e,q1,q2,q3,q4,q5⟩=>⟨b,s,o',gP,(jz m m (nY h)).trans e,q1,q2,q3,by rw[oG m m b s (nY h) e];exact q4,q5⟩
 | .map none,_,_,r=>r
 | .map (some m),_,h,⟨b,e,q⟩=>⟨b,(jz m m (nY h)).trans e,q⟩
 | .fn f a c,_,h,⟨f',a',c',rf,ra,rc,q⟩=>by
   simp only[V.still,ay]at h;refine⟨f',a',c',?_,qe jz oG kT a a' h.2.1 ra,qe jz oG kT c c' h.2.2 rc,q⟩;cases f with
   |yield m=>obtain⟨l,s,e,q2⟩:=rf;exact⟨l,s,(jz m m (nY h.1)).trans e,q2⟩
   |_=>exact rf
 | .kI,_,_,r=>r
 | .iface _ x,_,h,⟨x',r,q⟩=>⟨x',zE jz oG kT x x' (by simpa only[V.still]using h) r,q⟩
 | .nilIface,_,_,r=>r
 | .agg cs,_,h,⟨cs',r,q⟩=>⟨cs',qe jz oG kT cs cs' (by simpa only[V.still]using h) r,q⟩
 | .gV cs,_,h,⟨cs',r,q⟩=>⟨cs',qe jz oG kT cs cs' (by simpa only[V.still]using h) r,q⟩
 | .eE _ _ _,_,_,r=>⟨mE kT _ _ r.1,r.2⟩
 | .dS cs,_,_,⟨b,o,c,vs,e,e1,r,q⟩=>⟨b,o,c,vs,e,kT _ _ e1,iP kT _ _ r,q⟩
theorem qe{ν:Nat->Option Nat}{E E':Env}(jz:∀m k,ν m=some k->E'.ι k=E.ι m)(oG:∀m k b s,ν m=some k->E.ι m=some (b,s)->E'.β b=E.β b)(kT:∀b c,E.φ b=some c->E'.φ b=some c):∀(v:ag) (v':List Value),V.w6 ν v=true->eC E v v'->eC E' v v'
 | [],_,_,r=>r
 |x::xs,_,h,⟨y,ys,r,rs,q⟩=>by
  simp only[V.w6,ay]at h;exact⟨y,ys,zE jz oG kT x y h.1 r,qe jz oG kT xs ys h.2 rs,q⟩
end
section
variable{ν:Nat->Option Nat}{E E':Env}(jz:∀m k,ν m=some k->E'.ι k=E.ι m)(oG:∀m k b s,ν m=some k->E.ι m=some (b,s)->E'.β b=E.β b)(kT:∀b c,E.φ b=some c->E'.φ b=some c)
include jz oG kT
theorem FK{w:World}{b s:Nat}(Y:E'.β b=E.β b):∀(o o2:es),o.rn ν=some o2->nJ E w b s o->nJ E' w b s o2
 | .cells cs,o2,h,⟨c,el,fz,h1,C,h3,h4⟩=>by
   simp only[es.rn]at h;split at h
   . rename_i Xr qu;obtain rfl:=eU h;refine⟨c,el,fz,h1,by rw[Y];exact C,h3,?_⟩;have:∀(cs Xr:ag),V.J6 ν cs=some Xr->∀(s:Nat),l8 E s cs c->l8 E' s Xr c:=by
      intro cs
      induction cs with
      |nil=>intro Xr h s r;simp only[V.J6,aq]at h;subst h;intro i v e;simp at e
      |cons x xs ih=>
       intro Xr h s r;simp only[V.J6]at h;split at h
       . rename_i x2 J;split at h
         . rename_i Nb Ch;obtain rfl:=eU h;intro i v e;cases i with
           |zero=>
            simp only[cK,aq]at e;subst e;obtain⟨v',k1,k2⟩:=r 0 x (by simp);exact⟨v',k1,uT jz oG kT _ _ _ J k2⟩
           |succ i=>
            simp only[List.getElem?_cons_succ]at e;obtain⟨v',k1,k2⟩:=ih Nb Ch (s+1) (fun j v e=>by
             obtain⟨v',k1,k2⟩:=r (j+1) v (by simpa using e);exact⟨v',by rw[<- k1];congr 1;omega,k2⟩) i v e
            exact⟨v',by rw[<- k1];congr 1;omega,k2⟩
         . cases h
       . cases h
     exact this cs Xr qu s h4
   . cases h
 | .map O cl,o2,h,⟨hs,fS,h1,C⟩=>by
   simp only[es.rn]at h;split at h
   . rename_i y8 W9;obtain rfl:=eU h;exact⟨hs,fS,h1,Ii jz oG kT _ _ _ W9 C⟩
   . cases h
 | .nB st p,o2,h,r=>by simp only[es.rn,aq]at h;subst h;exact r
 | .ints k ks,o2,h,⟨c,el,fz,h1,C,h3⟩=>by simp only[es.rn,aq]at h;subst h;exact⟨c,el,fz,h1,by rw[Y];exact C,h3⟩
 | .own k ks,o2,h,⟨c,el,fz,h1,C,h3,h4⟩=>by simp only[es.rn,aq]at h;subst h;exact⟨c,el,fz,h1,by rw[Y];exact C,h3,wc h4⟩
 | .deep cs,o2,h,⟨c,el,fz,vs,h1,C,h3,h4,h5⟩=>by simp only[es.rn,aq]at h;subst h;exact⟨c,el,fz,vs,h1,by rw[Y];exact C,h3,iP kT _ _ h4,h5⟩
 | .vM el An t,o2,h,⟨c,fz,xs,h1,h0,C,h3⟩=>by simp only[es.rn,aq]at h;subst h;exact⟨c,fz,xs,h1,h0,by rw[Y];exact C,h3⟩
 | .Hh t self x,o2,h,⟨hs,x',fz,h1,C,h3,h4⟩=>by
   simp only[es.rn]at h;split at h
   . rename_i x2 J;obtain rfl:=eU h;exact⟨hs,x',fz,h1,by rw[Y];exact C,h3,uT jz oG kT _ _ _ J h4⟩
   . cases h
 | .gM kk O,o2,h,⟨hs,fS,cl,h1,C⟩=>by simp only[es.rn,aq]at h;subst h;exact⟨hs,fS,cl,h1,C.mono kT⟩
 | .oI kk O,o2,h,⟨hs,fS,h1,C⟩=>by simp only[es.rn,aq]at h;subst h;exact⟨hs,fS,h1,C.mono kT⟩
 | .ud,o2,h,r=>by simp only[es.rn,aq]at h;subst h;exact r
 | .loop st pe T ps a b',o2,h,⟨r,h1,C,h3,h4,h5,h6,h7,h8⟩=>by
   simp only[es.rn]at h;split at h
   . rename_i hs;obtain rfl:=eU h;exact⟨r,h1,C,h3,h4,h5,h6,fun t v e=>let⟨v',k1,k2⟩:=h7 t v e;⟨v',k1,zE jz oG kT v v' (uU T hs t v e) k2⟩,h8⟩
   . cases h
end
theorem Ij{ν:Nat->Option Nat}{o o2:es}(h:o.rn ν=some o2):o2.wr=o.wr:=by
 cases o<;>simp only[es.rn]at h<;>(try split at h)<;>first|(obtain rfl:=eU h;rfl)|cases h
def FM:I V->List Nat->List Nat
 | .nil,l=>l
 | .node v a b,l=>(match v with|some v=>V.names v|none=>id) (FM a (FM b l))
def es.nms:es->List Nat
 | .loop _ _ T _ _ _=>FM T []
 |o=>o.names
def LG(h:I es):Nat->List Nat->I Nat->List Nat->Nat->Option (I Nat×List Nat×Nat)
 |0,_,_,_,_=>none
 |_+1,[],ρ,qY,k=>some (ρ,qY,k)
 |f+1,m::q,ρ,qY,k=>match ρ.get m with
  |some _=>LG h f q ρ qY k
  |none=>LG h f ((match h.get m with|some o=>o.nms|none=>[])++q) (ρ.set m (some k)) (m::qY) (k+1)
def Xs:Nat->I Nat
 |0=>.nil
 |k+1=>(Xs k).set k (some k)
def J7:Nat->List Nat
 |0=>[]
 |k+1=>k::J7 k
def Ik(h:I es):Nat->List Nat->List Nat
 |0,l=>l
 |k+1,l=>(match h.get k with|some o=>o.nms|none=>[])++Ik h k l
def Bu(ν:Nat->Option Nat):Nat->Bool
 |0=>true
 |k+1=>CH ν k&&Bu ν k
theorem yg{ν:Nat->Option Nat}:∀{k:Nat},Bu ν k=true->∀m,m<k->ν m=some m
 |0,_,m,K=>by omega
 |k+1,h,m,K=>by
  simp only[Bu,ay]at h;by_cases e:m=k
  . subst e;exact nY h.1
  . exact yg h.2 m S
def EF(ν:Nat->Option Nat)(h:I es):List Nat->I es->Option (I es)
 | [],t=>some t
 |m::r,t=>match h.get m with
  |none=>EF ν h r t
  |some o=>match ν m with
   |some k=>match o.rn ν with
    |some o2=>match Nat.blt k gy with
     |true=>EF ν h r (t.set k (some o2))
     |false=>none
    |none=>none
   |none=>none
theorem w7{ν:Nat->Option Nat}{h:I es}:∀(l:List Nat) (t t2:I es),EF ν h l t=some t2->(∀k o2,t.get k=some o2->∃m o,ν m=some k/\h.get m=some o/\o.rn ν=some o2)->
  ∀k o2,t2.get k=some o2->∃m o,ν m=some k/\h.get m=some o/\o.rn ν=some o2
 | [],t,t2,e,ht=>by simp only[EF,aq]at e;subst e;exact ht
 |m::r,t,t2,e,ht=>by
  simp only[EF]at e;split at e
  . exact w7 r t t2 e ht
  . rename_i o ho;split at e
    . rename_i k U;split at e
      . rename_i o2 Pc;split at e
        . rename_i eY;refine w7 r _ t2 e fun j o3 h3=>?_;rw[I.gw _ _ _ (by simp[Nat.blt]at eY;omega)]at h3;split at h3
          . rename_i hj;obtain rfl:=eU h3;subst hj;exact⟨m,o,U,ho,Pc⟩
          . exact ht j o3 h3
        . cases e
      . cases e
    . cases e
def zF(ν:Nat->Option Nat)(T:I V):List Nat->I V->Option (I V)
 | [],t=>some t
 |m::r,t=>match T.get m with
  |none=>zF ν T r t
  |some v=>match v.rn ν with
   |some v2=>match Nat.blt m gy with
    |true=>zF ν T r (t.set m (some v2))
    |false=>none
   |none=>none
theorem uV{ν:Nat->Option Nat}{T:I V}:∀(l:List Nat) (t t2:I V),zF ν T l t=some t2->(∀k v2,t.get k=some v2->∃v,T.get k=some v/\v.rn ν=some v2)->
  ∀k v2,t2.get k=some v2->∃v,T.get k=some v/\v.rn ν=some v2
 | [],t,t2,e,ht=>by simp only[zF,aq]at e;subst e;exact ht
 |m::r,t,t2,e,ht=>by
  simp only[zF]at e;split at e
  . exact uV r t t2 e ht
  . rename_i v hv;split at e
    . rename_i v2 hv2;split at e
      . rename_i eY;refine uV r _ t2 e fun j o3 h3=>?_;rw[I.gw _ _ _ (by simp[Nat.blt]at eY;omega)]at h3;split at h3
        . rename_i hj;obtain rfl:=eU h3;subst hj;exact⟨v,hv,hv2⟩
        . exact ht j o3 h3
      . cases e
    . cases e
def Pr(ν:Nat->Option Nat):List (FuncId×ag×ag)->Option (List (FuncId×ag×ag))
 | []=>some []
 |(f,[],[.map (some m)])::r=>match Nat.beq f gy with
  |true=>match ν m with
   |some k=>match Pr ν r with
    |some r=>some ((gy,[],[.map (some k)])::r)
    |none=>none
   |none=>none
  |false=>none
 |_::_=>none
def Il:List (FuncId×ag×ag)->List Nat->List Nat
 |(_,_,[.map (some m)])::r,l=>m::Il r l
 |_,l=>l
theorem Im{ν:Nat->Option Nat}{E E':Env}(jz:∀m k,ν m=some k->E'.ι k=E.ι m):∀(l l2:List (FuncId×ag×ag)) (ds:List Deferred),Pr ν l=some l2->wo E l ds->wo E' l2 ds
 | [],l2,ds,e,r=>by simp only[Pr,aq]at e;subst e;exact r
 |(f,c,args)::r,l2,ds,e,h=>by
  unfold Pr at e;split at e
  . rename_i heq;cases heq
  . rename_i f' m r' heq;cases heq;split at e
    . rename_i hf;have hf:=aJ hf;subst hf;split at e
      . rename_i k U;split at e
        . rename_i r2 hr;obtain rfl:=eU e;obtain⟨d,ys,r1,r2',q⟩:=h;refine⟨d,ys,?_,Im jz _ _ _ hr r2',q⟩;rcases r1 with⟨eY,_⟩|⟨_,m',b,s,q1,q2,q3⟩
          . exact absurd eY (dj _)
          . simp only[List.cons.injEq,V.map.injEq,aq,and_true]at q1;subst q1;exact .inr ⟨rfl,k,b,s,rfl,(jz _ k U).trans q2,q3⟩
        . cases e
      . cases e
    . cases e
  . cases e
def ld(X:Nat)(live:List Nat)(s:St):Option St:=
 match Nat.ble X s.n with
 |false=>none
 |true=>match LG s.h 100000 (Ik s.h X (vB s.T live++Il s.iE [])) (Xs X) (J7 X) X with
  |some (ρ,qY,k)=>
   let ν:=CF ρ (CE qY k .nil) k
   match(Bu ν X&&Nat.ble X k)&&Nat.ble gN X with
   |true=>match EF ν s.h qY .nil with
    |some C=>match zF ν s.T live .nil with
     |some O6=>match Pr ν s.iE with
      |some d2=>some { T:=O6,h:=C,n:=k,iE:=d2 }
      |none=>none
     |none=>none
    |none=>none
   |false=>none
  |none=>none
structure nk(X:Nat)(E:Env)(h:I es)(w:World)(E':Env)(h':I es)(w':World):Prop where
 le:∀m b s,m<X->E.ι m=some (b,s)->E'.ι m=some (b,s)/\E'.β b=E.β b
 low:∀m,m<X->E'.ι m=E.ι m
 fz:∀b c,E.φ b=some c->E'.φ b=some c
 good:Good E' h' w'
 size:w.heap.size<=w'.heap.size
 tape:w'.tape=w.tape
 os:w'.os=w.os
 output:w'.output=w.output
 keep:∀b,b<w.heap.size->(∀m s,ff h m->E.ι m≠some (b,s))->w'.heap[b]? =w.heap[b]?
 vN:∀m b s,h'.get m≠none->E'.ι m=some (b,s)->b<w.heap.size->∃m0 s0,h.get m0≠none/\E.ι m0=some (b,s0)/\(ff h' m->ff h m0)
 Fm:∀b c,E'.φ b=some c->E.φ b=some c\/w.heap.size<=b\/∃m s,ff h m/\E.ι m=some (b,s)
theorem nk.of{X n:Nat}{E E':Env}{h h':I es}{w w':World}(u:jf E h w E' h' w')(fT:∀m,m<n->E'.ι m=E.ι m)(hn:X<=n):nk X E h w E' h' w':=
 ⟨fun m b s _ e=>u.le.nm m b s e,fun m K=>fT m S,u.le.fz,u.good,u.size,u.tape,u.os,u.output,u.keep,u.vN,u.Fm⟩
theorem nk.trans{X:Nat}{E E1 E2:Env}{h h1 C:I es}{w w1 w2:World}(a:nk X E h w E1 h1 w1)(b:nk X E1 h1 w1 E2 C w2):nk X E h w E2 C w2 where
 le:=fun m x s K e=>by
  obtain⟨e1,b1⟩:=a.le m x s K e;obtain⟨e2,b2⟩:=b.le m x s K e1;exact⟨e2,b2.trans b1⟩
 low:=fun m K=>(b.low m K).trans (a.low m K)
 fz:=fun x c e=>b.fz x c (a.fz x c e)
 good:=b.good
 size:=bH a.size b.size
 tape:=b.tape.trans a.tape
 os:=b.os.trans a.os
 output:=b.output.trans a.output
 keep:=fun x J hn=>by
  rw[b.keep x (cG J a.size) ?_,a.keep x J hn];intro m s K e;obtain⟨m0,s0,_,e0,k0⟩:=a.vN m x s K.live e J;exact hn m0 s0 (k0 K) e0
 vN:=fun m x s K e J=>by
  obtain⟨m1,s1,k1,e1,l1⟩:=b.vN m x s K e (cG J a.size);obtain⟨m0,s0,k0,e0,l0⟩:=a.vN m1 x s1 k1 e1 J;exact⟨m0,s0,k0,e0,fun q=>l0 (l1 q)⟩
 Fm:=fun x c N=>by
  rcases b.Fm x c N with q|q|⟨m,s,q1,q2⟩
  . exact a.Fm x c q
  . exact .inr (.inl (bH a.size q))
  . rcases bj x w.heap.size with J|J
    . obtain⟨m0,s0,_,e0,k0⟩:=a.vN m x s q1.live q2 J;exact .inr (.inr ⟨m0,s0,k0 q1,e0⟩)
    . exact .inr (.inl J)
theorem nk.refl{X:Nat}{E:Env}{h:I es}{w:World}(g:Good E h w):nk X E h w E h w:=
 .of (n:=X) (jf.refl g) (fun _ _=>rfl) (aK _)
theorem nk.Cl{X:Nat}{E E':Env}{h h':I es}{w w':World}(u:nk X E h w E' h' w')(hd:qy E X):jf E h w E' h' w':=
 ⟨⟨fun m b s e=>u.le m b s (by
  by_cases q:m<X
  . exact q
  . rw[hd m (Nat.le_of_not_lt q)]at e;cases e) e,u.fz⟩,u.good,u.size,u.tape,u.os,u.output,u.keep,u.vN,u.Fm⟩
theorem ox{X hc:Nat}{live:List Nat}{s s2:St}{E:Env}{a:Act}{w:World}(e:ld X live s=some s2)(r:lq E hc s a w):X<=s.n/\X<=s2.n/\∃E2,lq E2 hc s2 a w/\nk X E s.h w E2 s2.h w:=by
 unfold ld at e;split at e
 . cases e
 rename_i hn;split at e
 case h_2=>cases e
 rename_i ρ qY k ht;revert e;generalize auC:CE qY k .nil=CG;intro e;simp only at e;split at e
 case h_2=>cases e
 rename_i fT;simp only[ay]at fT;split at e
 case h_2=>cases e
 rename_i C hh;split at e
 case h_2=>cases e
 rename_i O6 y9;split at e
 case h_2=>cases e
 rename_i d2 DZ;simp only[aq]at e;subst e
 let E2:Env:=⟨fun m=>if m<k then(match CG.get m with|some old=>E.ι old|none=>none)else none,E.β,E.φ⟩
 have jz:∀m j,CF ρ CG k m=some j->E2.ι j=E.ι m:=by
  intro m j hj;obtain⟨_,C,h3⟩:=Ih hj;show(if j<k then(match CG.get j with|some old=>E.ι old|none=>none)else none)=_;rw[aD h3,C]
 have G1:∀m,m<X->E2.ι m=E.ι m:=fun m K=>jz m m (yg fT.1.1 m K);have SA:=w7 qY .nil C hh (fun j o hj=>by simp[I.get]at hj);have ye:Good E2 C w:=by
  refine⟨?_,?_,?_,fun p hp=>(G1 _ (cG (LF hp) (aE fT.2))).trans (r.good.lj p hp),fun b c q=>⟨(r.good.jo b c q).1,fun m s1 K e1=>?_⟩⟩
  case refine_4=>
   obtain⟨o,ho,hwo⟩:=K;obtain⟨old,p,k1,k2,k3⟩:=SA m o ho;rw[jz old m k1]at e1;exact(r.good.jo b c q).2 old s1 ⟨p,k2,(Ij k3).symm.trans hwo⟩ e1
  . intro m o2 K;obtain⟨old,o,k1,k2,k3⟩:=SA m o2 K;obtain⟨b,R,e1,e2⟩:=r.good.rel old o k2;exact⟨b,R,(jz old m k1).trans e1,FK jz (fun _ _ _ _ _ _=>rfl) (fun _ _ q=>q) rfl o o2 k3 e2⟩
  . intro m m' b s1 s2 jw K tP e1 e2;obtain⟨o,ho,hwo⟩:=K;obtain⟨o',Fv⟩:=bE.1 tP;obtain⟨old,p,k1,k2,k3⟩:=SA m o ho;obtain⟨HD,p',Ps,k2',_⟩:=SA m' o' Fv;rw[jz old m k1]at e1;rw[jz HD m' Ps]at e2;by_cases pW:old=HD
    . subst pW;rw[k1]at Ps;simp only[aq]at Ps;exact jw Ps
    . exact r.good.inj old HD b s1 s2 pW ⟨p,k2,(Ij k3).symm.trans hwo⟩ (by rw[k2'];simp) e1 e2
  . intro m b s1 e1;have e1:(if m<k then(match CG.get m with|some old=>E.ι old|none=>none)else none)=some (b,s1):=e1;split at e1
    . split at e1
      . exact r.good.qt _ b s1 e1
      . cases e1
    . cases e1
 refine⟨aE hn,aE fT.1.2,E2,⟨ye,?_,?_,r.size,?_⟩,?_⟩
 . intro m K;show(if m<k then _ else none)=none;rw[aA (by show ¬m<k;have:k<=m:=K;omega)]
 . intro t v2 hv;obtain⟨v,k1,k2⟩:=uV live .nil O6 y9 (fun j o hj=>by simp[I.get]at hj) t v2 hv;obtain⟨v',h1,C⟩:=r.T t v k1;exact⟨v',h1,uT jz (fun _ _ _ _ _ _=>rfl) (fun _ _ q=>q) v v2 v' k2 C⟩
 . exact Im jz _ _ _ DZ r.iE
 . refine⟨fun m b s1 K e1=>⟨(G1 m K).trans e1,rfl⟩,G1,fun _ _ q=>q,ye,aK _,rfl,rfl,rfl,fun _ _ _=>rfl,?_,fun _ _ q=>.inl q⟩;intro m b s1 K e1 Y;obtain⟨o,ho⟩:=bE.1 K;obtain⟨old,p,k1,k2,k3⟩:=SA m o ho;rw[jz old m k1]at e1;refine⟨old,s1,by rw[k2];simp,e1,fun⟨o',q1,q2⟩=>⟨p,k2,?_⟩⟩;rw[ho]at q1;cases q1;exact(Ij k3).symm.trans q2
def qf:Code->Bool | .seq _ _=>true|_=>false
def dI:Code->Code | .seq a _=>a|c=>c
def dY:Code->Code | .seq _ b=>b|c=>c
def J8(c:Code)(o:Operand->Bool):Bool:=match c with | .cond x _ _=>o x|_=>false
def VT:Code->Operand | .cond c _ _=>c|_=>.const (.bool true)
def lF:Code->Code | .cond _ a _=>a|c=>c
def oy:Code->Code | .cond _ _ b=>b|c=>c
def nq:Code->Nat->Bool | .block i _,j=>Nat.beq i j|_,_=>false
def oL:Code->Bool | .loop _=>true|_=>false
def dK:Code->Code | .block _ c=>c | .loop c=>c|c=>c
def dU:Nat->Code->Code
 |k+1,.seq a b=>.seq a (dU k b)
 |_,_=>.skip
def dA:Nat->Code->Code
 |k+1,.seq _ b=>dA k b
 |_,c=>c
def fr(P:Program)(hc:Nat)(w0:World)(c:Code)(s:St)(Q:Exit->St->Prop):Prop:=
 ∀(hm:Exit->Act->World->Prop) (a:Act) (w:World),acK hc w0 s a w->(∀y R a' w',Q y R->acK hc w0 R a' w'->hm y a' w')->c.wp P hm a w
section
variable{P:Program}{cf:gm}{iX hc:Nat}{w0:World}{c:Code}{s R:St}{Q Q1:Exit->St->Prop}
def andThen(s':St->Prop)(Q:Exit->St->Prop):Exit->St->Prop
 | .normal,s=>s' s
 |y,s=>Q y s
def gZ(i:Nat)(Q:Exit->St->Prop):Exit->St->Prop
 | .exit j,s=>if j=i then Q .normal s else Q (.exit j) s
 |y,s=>Q y s
def TR(P:Program)(hc:Nat)(w0:World)(c:Code)(Q:Exit->St->Prop):Nat->St->Prop
 |0,_=>False
 |n+1,s=>fr P hc w0 c s (andThen (fun R=>TR P hc w0 c Q n R) Q)
def VU(f:St->Option (List (n0×St))):List (n0×St)->Option (List (n0×St))
 | []=>some []
 |(x,s)::r=>match VU f r with
  |some tl=>match x with
   | .normal=>match f s with
     |some l=>some (l++tl)
     |none=>none
   |x=>some ((x,s)::tl)
  |none=>none
def Th(i:Nat):List (n0×St)->List (n0×St)
 | []=>[]
 |(x,s)::r=>match x with
  | .exit j=>match Nat.beq j i with
    |true=>(.normal,s)::Th i r
    |false=>(.exit j,s)::Th i r
  |x=>(x,s)::Th i r
def acM(Ol:Nat->Bool):Operand->Bool
 | .tmp t=>Ol t
 |_=>false
def AI(P:Program)(cf:gm)(iX:Nat)(Ol:Nat->Bool):Code->St->Option (List (n0×St))
 | .seq a b,s=>match AI P cf iX Ol a s with
   |some l=>VU (AI P cf iX Ol b) l
   |none=>none
 | .cond c a b,s=>match jc s.T c with
   |some (.bool t)=>match acM Ol c with
    |true=>match AI P cf iX Ol a s with
     |some l1=>match AI P cf iX Ol b s with
      |some l2=>some (l1++l2)
      |none=>none
     |none=>none
    |false=>match t with
     |true=>AI P cf iX Ol a s
     |false=>AI P cf iX Ol b s
   |_=>none
 | .block i c,s=>match AI P cf iX Ol c s with
   |some l=>some (Th i l)
   |none=>none
 |c,s=>match gH P cf iX c s with
  |some r=>some [r]
  |none=>none
def I.beq{α:Type}(eq:α->α->Bool):I α->I α->Bool
 | .nil,.nil=>true
 | .node a l r,.node b l' r'=>(match a,b with|none,none=>true|some a,some b=>eq a b|_,_=>false)&&(I.beq eq l l'&&I.beq eq r r')
 |_,_=>false
def LH:List (V×V×Nat)->List (V×V×Nat)->Bool
 | [],[]=>true
 |x::xs,y::ys=>(V.beq x.1 y.1&&V.beq x.2.1 y.2.1)&&(Nat.beq x.2.2 y.2.2&&LH xs ys)
 |_,_=>false
def es.beq:es->es->Bool
 | .cells a,.cells b=>V.o4 a b
 | .map a c,.map b d=>LH a b&&Nat.beq c d
 | .nB a p,.nB b q=>mM a b&&Nat.beq p q
 | .ints k a,.ints j b=>decide (k=j)&&decide (a=b)
 |_,_=>false
def St.beq(a b:St):Bool:=I.beq V.beq a.T b.T&&(I.beq es.beq a.h b.h&&(Nat.beq a.n b.n&&(a.iE.isEmpty&&b.iE.isEmpty)))
def St.cell(s:St)(m i:Nat)(v:V):St:=match s.h.get m with
 |some (.cells cs)=>match Nat.blt m gy with
  |true=>{ s with h:=s.h.set m (some (.cells (cs.set i v))) }
  |false=>s
 |_=>s
def St.cellAt(s:St)(m i:Nat):Option V:=match s.h.get m with
 |some (.cells cs)=>match Nat.blt m gy with
  |true=>cs[i]?
  |false=>none
 |_=>none
def EG(live:List Nat)(m i:Nat)(z:V)(t:St):List (n0×St)->Option (List (Option V))
 | []=>some []
 |(.normal,s)::r=>match norm live s with
  |some s2=>match St.beq (s2.cell m i z) t with
   |true=>match EG live m i z t r with
    |some l=>some (s2.cellAt m i::l)
    |none=>none
   |false=>none
  |none=>none
 |_=>none
def Xt(P:Program)(cf:gm)(iX:Nat)(Ol:Nat->Bool)(live ks:List Nat)(m i:Nat)(z:V)(c:Code)(s t:St):Option (List (List (Option V))×List (Option V)):=
 match AI P cf iX Ol c s with
 |some l=>match EG live m i z t l with
  |some cells=>some (l.map fun p=>ks.map p.2.T.get,cells)
  |none=>none
 |none=>none
end
mutual
def V.qE:V->Bool
 | .fn (.func _) a c=>V.qg a&&V.qg c
 | .fn _ _ _=>false
 | .iface _ x=>V.qE x
 | .agg cs=>V.qg cs
 | .gV cs=>V.qg cs
 |_=>true
def V.qg:ag->Bool
 | []=>true
 |x::xs=>V.qE x&&V.qg xs
end
mutual
theorem V.beq_refl:∀v:V,v.qE=true->V.beq v v=true
 | .bool b,_=>by cases b<;>rfl
 | .int k n,_=>by simp[V.beq]
 | .str s,_=>by simp[V.beq,kD]
 | .ptr none,_=>rfl
 | .ptr (some (m,o)),_=>by simp[V.beq,qB]
 | .eZ none l c e,_=>by simp[V.beq,qB]
 | .eZ (some (m,o)) l c e,_=>by simp[V.beq,qB]
 | .map none,_=>rfl
 | .map (some m),_=>by simp[V.beq,Fi]
 | .fn f a c,h=>by
   cases f<;>simp only[V.qE,aM,ay]at h;simp[V.beq,OF,V.rX a h.1,V.rX c h.2]
 | .kI,_=>rfl
 | .iface t x,h=>by simp only[V.qE]at h;simp[V.beq,V.beq_refl x h]
 | .nilIface,_=>rfl
 | .agg cs,h=>by simp only[V.qE]at h;simp[V.beq,V.rX cs h]
 | .gV cs,h=>by simp only[V.qE]at h;simp[V.beq,V.rX cs h]
 | .eE f n cs,_=>by simp[V.beq,pZ cs]
 | .dS cs,_=>by simp[V.beq,pZ cs]
theorem V.rX:∀vs:ag,V.qg vs=true->V.o4 vs vs=true
 | [],_=>rfl
 |x::xs,h=>by simp only[V.qg,ay]at h;simp[V.o4,V.beq_refl x h.1,V.rX xs h.2]
end
inductive Ob where
 |same (a b:V)
 |call (f:FuncId) (args:ag) (v:V)
def Ob.ok(cf:gm):Ob->Prop
 | .same a b=>a=b
 | .call f args v=>∀h n,cf f args h n=some (.ret v,h,n)
end Go.Eng
