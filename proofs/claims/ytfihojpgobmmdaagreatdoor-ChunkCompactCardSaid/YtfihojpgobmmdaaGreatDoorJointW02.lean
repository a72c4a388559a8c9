/- The engine, part R: one operation of a statement that draws, in whatever order; the statement whole. No conditions: lemmas alone. -/
import Derived.Test.YtfihojpgobmmdaaGreatDoorJointW01
import Derived.OrdersIn
import Derived.Recover
import Derived.LoopN
import Derived.LoopNIn
import Derived.RangeFuncRecord
import Derived.RangeFuncIn
import Derived.RangeFuncLeaves
import Derived.Below
set_option linter.unusedVariables false
set_option linter.unusedSimpArgs false
set_option linter.unusedSectionVars false
namespace Go.Eng
open Go
section
variable{P:Program}{cf:fM}{ops:Array Oper}{n0 N lz:Nat}{h0:Tr O}{ko:Tr V}{val:Nat->V}{dy:List xw}{d:Dr}{E0:Env}{w0:World}{Bs:List Deferred}
variable{S:Nat->Bool}{ms J:Nat}{E:Env}{a:Act}{w:World}{Q:Exit->Act->World->Prop}{K:Act->World->Prop}
theorem Inv.Y4{cW:af}(I:Inv ops n0 N lz h0 ko val dy cW E0 w0 Bs S ms J E a w)(hl:lz<=ops.size):qN E (eD h0 (n0+ops.size) dy J).2.2:=by
 intro k hk;cases q:E.ι k with
 |none=>rfl
 |some p=>
  have hc:=I.yN;rcases I.oe k p q with h|⟨i,b,_,h2,h3⟩|h
  . omega
  . have:=I.Uc i h2;omega
  . omega
theorem Inv.sub(_hr:mO ops N)(hl:lz<=ops.size)(f:oG P cf ops n0 h0 ko val dy lz d)(ht:∀y∈d.cW,n0+y.1<fL)(I:Inv ops n0 N lz h0 ko val dy d.cW E0 w0 Bs S ms J E a w)
  {gX:Nat} (ha:∀k,dY gX k=true->S k=true):
  Sub (gO n0 d.cW (eD h0 (n0+ops.size) dy J).1 (eD h0 (n0+ops.size) dy J).2.1 gX) (gO n0 d.cW (eD h0 (n0+ops.size) dy J).1 (eD h0 (n0+ops.size) dy J).2.1 ms):=by
 intro k o hk;rcases jm (x:=(eD h0 (n0+ops.size) dy J).2.1) (m:=(eD h0 (n0+ops.size) dy J).1) (gX:=gX) ht f.one k with⟨i,b,h1,h2,h3,h4,h5⟩|⟨h1,h2⟩
 . rw[h5]at hk;cases hk;subst h4;exact jK ht f.one h1 (by rw[I.bits];exact ha i h2) h3
 . rw[h2]at hk;rcases jm (x:=(eD h0 (n0+ops.size) dy J).2.1) (m:=(eD h0 (n0+ops.size) dy J).1) (gX:=ms) ht f.one k with⟨i,b,g1,g2,g3,g4,g5⟩|⟨g1,g2⟩
   . subst g4;have hi:=I.Uc i (by rw[<- I.bits];exact g2);rw[I.free i be g3]at hk;cases hk
   . rw[g2];exact hk
theorem nt(hb:∀i,dY ms i=S i)(j:Nat):∀i,dY (ms|||2^j) i=(S i||decide (i=j)):=by
 intro i;rw[zY,Ct,hb];by_cases q:i=j
 . subst q;simp
 . have:¬j=i:=fun e=>q e.symm;simp[q,this]
theorem Inv.quiet(hr:mO ops N)(_hl:lz<=ops.size)(_f:oG P cf ops n0 h0 ko val dy lz d)(I:Inv ops n0 N lz h0 ko val dy d.cW E0 w0 Bs S ms J E a w)
  {j:Nat} {o:Oper} (ho:ops[j]? =some o) (hj:j<lz) (AQ:S j=false) (hd:∀e∈o.after,Region.binds .any e=true->S e.on=true) (Cx:∀(c:Nat) (e:xw),dy[c]? =some e->e.1≠j)
  {E':Env} {w':World} {v':Value} (hv:dD E' (val j) v') (hu:ir E0 h0 w0 E' (gO n0 d.cW (eD h0 (n0+ops.size) dy J).1 (eD h0 (n0+ops.size) dy J).2.1 (ms|||2^j)) w') (kE:E.le E')
  (oD:∀k,k<n0->E'.ι k=E.ι k) (rT:∀k p,E'.ι k=some p->E.ι k=some p\/(∃b,(j,b)∈d.cW/\k=n0+j)):
  Inv ops n0 N lz h0 ko val dy d.cW E0 w0 Bs (fun i=>S i||decide (i=j)) (ms|||2^j) J E' (a.put o.dst v') w':=by
 obtain⟨g1,g2⟩:=I.frame hr ho kE hv;refine⟨nt I.bits j,fun i hi=>?_,fun i q hi hq e he hb=>?_,fun c e he=>?_,I.Jle,g1,g2,hu,fun k hk=>by rw[oD k hk];exact I.old k hk,fun k p hp=>?_,I.free,I.yN,by rw[iE];exact I.size,by rw[gA];exact I.gz⟩
 . rcases bU _ _ |>.mp hi with h|h
   . exact I.Uc i h
   . simp at h;omega
 . rcases bU _ _ |>.mp hi with h|h
   . rw[I.closed i q h hq e he hb];rfl
   . simp at h;subst h;rw[ho]at hq;cases hq;rw[hd e he hb];rfl
 . rw[<- I.Gc c e he];simp[Cx c e he]
 . rcases rT k p hp with h|⟨b,h1,h2⟩
   . rcases I.oe k p h with h|⟨i,b,h1,h2,h3⟩|h
     . exact .inl h
     . exact .inr (.inl ⟨i,b,h1,by rw[h2];rfl,h3⟩)
     . exact .inr (.inr h)
   . exact .inr (.inl ⟨j,b,h1,by simp,h2⟩)
theorem Inv.adv(hr:mO ops N)(hl:lz<=ops.size)(f:oG P cf ops n0 h0 ko val dy lz d)(ht:∀y∈d.cW,n0+y.1<fL)(I:Inv ops n0 N lz h0 ko val dy d.cW E0 w0 Bs S ms J E a w)
  {gX:Nat} (ha:∀k,dY gX k=true->S k=true) (hm:∀k,dY (eD h0 (n0+ops.size) dy J).1 k=true->dY gX k=true) {E':Env} {h:Tr O} {w':World}
  (hu:ir E (gO n0 d.cW (eD h0 (n0+ops.size) dy J).1 (eD h0 (n0+ops.size) dy J).2.1 gX) w E' h w') (fJ:∀k,k<(eD h0 (n0+ops.size) dy J).2.2->E'.ι k=E.ι k):
  ∀i,i<ops.size->dY gX i=false->h.get (n0+i)=none:=by
 intro i hi NL;cases q:h.get (n0+i)with
 |none=>rfl
 |some o=>
  exfalso;obtain⟨b,s,h1,_⟩:=hu.good.rel _ o q;have fF:n0+i<(eD h0 (n0+ops.size) dy J).2.2:=by have:=I.yN;omega
  have hE:=h1;rw[fJ _ fF]at hE;have hmi:dY (eD h0 (n0+ops.size) dy J).1 i=false:=by
   cases c:dY (eD h0 (n0+ops.size) dy J).1 i with
   |false=>rfl
   |true=>rw[hm i c]at NL;cases NL
  rcases I.oe _ _ hE with c|⟨i',b',k1,k2,k3⟩|c
  . omega
  . have:i'=i:=by omega
    subst this;have iu:(gO n0 d.cW (eD h0 (n0+ops.size) dy J).1 (eD h0 (n0+ops.size) dy J).2.1 ms).get (n0+i')=some b':=jK ht f.one k1 (by rw[I.bits];exact k2) hmi;obtain⟨m0,s0,a1,a2,_⟩:=hu.sR (n0+i') b s (by rw[q];simp) h1 (I.qp.good.mW _ _ _ hE);have hx:(gO n0 d.cW (eD h0 (n0+ops.size) dy J).1 (eD h0 (n0+ops.size) dy J).2.1 gX).get (n0+i')=none:=by
     rcases jm (x:=(eD h0 (n0+ops.size) dy J).2.1) (m:=(eD h0 (n0+ops.size) dy J).1) (gX:=gX) ht f.one (n0+i')with⟨i2,b2,g1,g2,g3,g4,g5⟩|⟨g1,g2⟩
     . have:i2=i':=by omega
       subst this;rw[NL]at g2;cases g2
     . rw[g2];exact I.free i' hi hmi
    have fN:m0≠n0+i':=by intro e;subst e;exact a1 hx
    have hwr:b'.wr=true:=by
     obtain⟨fr,_,_,_,_,q,_⟩:=f.BC i' _ b' k1 (bn hi);exact q
    refine I.qp.good.inj (n0+i') m0 b s s0 (fun q=>fN q.symm) ⟨b',iu,hwr⟩ ?_ hE a2;cases c:(gO n0 d.cW (eD h0 (n0+ops.size) dy J).1 (eD h0 (n0+ops.size) dy J).2.1 gX).get m0 with
    |none=>exact absurd c a1
    |some o'=>rw[I.sub hr hl f ht ha m0 o' c];simp
  . omega
theorem Inv.effect(hr:mO ops N)(hl:lz<=ops.size)(f:oG P cf ops n0 h0 ko val dy lz d)(ht:∀y∈d.cW,n0+y.1<fL)(I:Inv ops n0 N lz h0 ko val dy d.cW E0 w0 Bs S ms J E a w)
  {j:Nat} {o:Oper} (ho:ops[j]? =some o) (hj:j<lz) (AQ:S j=false) (hd:∀e∈o.after,Region.binds .any e=true->S e.on=true) (tV:∀b,(j,b)∉d.cW)
  {h:Tr O} {n:Nat} (he:dy[J]? =some (j,lZ ops j,h,n)) {E':Env} {w':World} {v':Value} (hv:dD E' (val j) v')
  (hu:ir E (gO n0 d.cW (eD h0 (n0+ops.size) dy J).1 (eD h0 (n0+ops.size) dy J).2.1 (lZ ops j)) w E' h w')
  (fJ:∀k,k<(eD h0 (n0+ops.size) dy J).2.2->E'.ι k=E.ι k) (rT:qN E' n) (hn:(eD h0 (n0+ops.size) dy J).2.2<=n):
  Inv ops n0 N lz h0 ko val dy d.cW E0 w0 Bs (fun i=>S i||decide (i=j)) (ms|||2^j) (J+1) E' (a.put o.dst v') w':=by
 have hJ:J<dy.length:=(aF.1 he).1;have kj:eD h0 (n0+ops.size) dy (J+1)=(lZ ops j,h,n):=by simp only[eD,he]
 have Br:∀k,dY (lZ ops j) k=true->S k=true:=fun k hk=>vZ hr I.closed ho hd hk;have hm:∀k,dY (eD h0 (n0+ops.size) dy J).1 k=true->dY (lZ ops j) k=true:=by
  intro k hk;cases J with
  |zero=>simp[eD,kr]at hk
  |succ c=>
   have hc:dy[c]? =some (dy[c]'(by omega)):=ay be;simp only[eD,hc]at hk;obtain⟨_,o',_,_,h3⟩:=f.uV c _ hc;rw[h3]at hk;exact EJ hr.yL j _ k (f.chain (c+1) c _ _ be he hc) hk
 have Xp:=I.adv hr hl f ht Br hm hu fJ;obtain⟨g1,g2⟩:=I.frame hr ho hu.le hv;have hc:=I.yN;refine⟨nt I.bits j,fun i hi=>?_,fun i q hi hq e Bq hb=>?_,fun c e Bq=>?_,hJ,g1,g2,?_,fun k hk=>?_,fun k p hp=>?_,?_,?_,by rw[iE];exact I.size,by rw[gA];exact I.gz⟩
 . rcases bU _ _ |>.mp hi with h|h
   . exact I.Uc i h
   . simp at h;omega
 . rcases bU _ _ |>.mp hi with h|h
   . rw[I.closed i q h hq e Bq hb];rfl
   . simp at h;subst h;rw[ho]at hq;cases hq;rw[hd e Bq hb];rfl
 . have h1:=I.Gc c e Bq;constructor
   . intro hs;rcases bU _ _ |>.mp hs with q|q
     . have:=h1.1 q;omega
     . simp at q;by_cases hcJ:c<J+1
       . exact hcJ
       . have:=f.chain c J e _ be Bq he;simp only at this;rw[q]at this;have:=Kf hr.yL j j this;omega
   . intro o7;by_cases q:c<J
     . rw[h1.2 q];rfl
     . have:c=J:=by omega
       subst this;rw[he]at Bq;cases Bq;simp
 . rw[kj];refine I.qp.trans (ir.frame I.qp.good (I.sub hr hl f ht Br) hu fun k=>?_);rcases jm (x:=h) (m:=lZ ops j) (gX:=ms|||2^j) ht f.one k with⟨i,b,k1,k2,k3,k4,k5⟩|⟨k1,k2⟩
   . simp only[k5];subst k4;have hi:S i=true:=by
      rw[nt I.bits]at k2;rcases bU _ _ |>.mp k2 with q|q
      . exact q
      . simp at q;subst q;exact absurd k1 (tV b)
     have hmi:dY (eD h0 (n0+ops.size) dy J).1 i=false:=by
      cases c:dY (eD h0 (n0+ops.size) dy J).1 i with
      |false=>rfl
      |true=>rw[hm i c]at k3;cases k3
     have kF:i<ops.size:=by have:=I.Uc i hi;omega
     rw[Xp i kF k3];have hx:(gO n0 d.cW (eD h0 (n0+ops.size) dy J).1 (eD h0 (n0+ops.size) dy J).2.1 (lZ ops j)).get (n0+i)=none:=by
      rcases jm (x:=(eD h0 (n0+ops.size) dy J).2.1) (m:=(eD h0 (n0+ops.size) dy J).1) (gX:=lZ ops j) ht f.one (n0+i)with⟨i2,b2,q1,q2,q3,q4,q5⟩|⟨q1,q2⟩
      . have:i2=i:=by omega
        subst this;rw[k3]at q2;cases q2
      . rw[q2];exact I.free i kF hmi
     simp only[hx,if_true];rw[jK ht f.one k1 (by rw[I.bits];exact hi) hmi]
   . rw[k2];cases hk:h.get k with
     |some o'=>rfl
     |none=>
      simp only;split
      . rename_i hx;rcases jm (x:=(eD h0 (n0+ops.size) dy J).2.1) (m:=(eD h0 (n0+ops.size) dy J).1) (gX:=ms) ht f.one k with⟨i,b,q1,q2,q3,q4,q5⟩|⟨q1,q2⟩
        . exfalso;subst q4;cases c:dY (lZ ops j) i with
          |false=>exact k1 i b q1 (by rw[nt I.bits];rw[I.bits]at q2;rw[q2];rfl) c rfl
          |true=>
           rw[jK ht f.one q1 c q3]at hx;cases hx
        . rw[q2];rcases jm (x:=(eD h0 (n0+ops.size) dy J).2.1) (m:=(eD h0 (n0+ops.size) dy J).1) (gX:=lZ ops j) ht f.one k with⟨i,b,r1,r2,r3,r4,r5⟩|⟨r1,r2⟩
          . rw[r5]at hx;cases hx
          . rw[r2]at hx;exact hx.symm
      . rfl
 . rw[fJ k be];exact I.old k hk
 . by_cases q:k<(eD h0 (n0+ops.size) dy J).2.2
   . rw[fJ k q]at hp;rcases I.oe k p hp with h|⟨i,b,h1,h2,h3⟩|h
     . exact .inl h
     . exact .inr (.inl ⟨i,b,h1,by rw[h2];rfl,h3⟩)
     . rw[kj];exact .inr (.inr ⟨h.1,by show k<n;omega⟩)
   . rw[kj];refine .inr (.inr ⟨be,?_⟩);by_cases q2:k<n
     . exact q2
     . rw[rT k be]at hp;cases hp
 . rw[kj];exact fun i hi hb=>Xp i hi hb
 . rw[kj];simp only;omega
end
section
variable{P:Program}{cf:fM}{ops:Array Oper}{n0 N lz:Nat}{h0:Tr O}{ko:Tr V}{val:Nat->V}{dy:List xw}{d:Dr}{E0:Env}{w0:World}{Bs:List Deferred}
variable{S:Nat->Bool}{ms J:Nat}{E:Env}{a:Act}{w:World}{Q:Exit->Act->World->Prop}{K:Act->World->Prop}{uR:Option Nat}
theorem Inv.step(oF:je P cf)(hr:mO ops N)(hl:lz<=ops.size)(f:oG P cf ops n0 h0 ko val dy lz d)(ht:∀y∈d.cW,n0+y.1<fL)(I:Inv ops n0 N lz h0 ko val dy d.cW E0 w0 Bs S ms J E a w)
  {j:Nat} {o:Oper} (ho:ops[j]? =some o) (hj:j<lz) (AQ:S j=false) (hd:∀e∈o.after,Region.binds .any e=true->S e.on=true)
  (hk:∀J' E' a' w',Inv ops n0 N lz h0 ko val dy d.cW E0 w0 Bs (fun i=>S i||decide (i=j)) (ms|||2^j) J' E' a' w'->K a' w'):wpOpIn (fz uR) 0 P ops Q j K a w:=by
 have hjs:j<ops.size:=by omega
 have Br:∀k,dY (lZ ops j) k=true->S k=true:=fun k hk=>vZ hr I.closed ho hd hk;have hmj:dY (eD h0 (n0+ops.size) dy J).1 j=false:=by
  cases c:dY (eD h0 (n0+ops.size) dy J).1 j with
  |false=>rfl
  |true=>rw[I.adu hr f c]at AQ;cases AQ
 have uL:E.ι (n0+j)=none:=by
  cases q:E.ι (n0+j)with
  |none=>rfl
  |some p=>
   rcases I.oe _ p q with h|⟨i,b,_,h2,h3⟩|h
   . omega
   . have:i=j:=by omega
     subst this;rw[AQ]at h2;cases h2
   . omega
 have Xq:(∀b,(j,b)∉d.cW)->∀k,(gO n0 d.cW (eD h0 (n0+ops.size) dy J).1 (eD h0 (n0+ops.size) dy J).2.1 (ms|||2^j)).get k=
   (gO n0 d.cW (eD h0 (n0+ops.size) dy J).1 (eD h0 (n0+ops.size) dy J).2.1 ms).get k:=by
  intro tV k;rcases jm (x:=(eD h0 (n0+ops.size) dy J).2.1) (m:=(eD h0 (n0+ops.size) dy J).1) (gX:=ms|||2^j) ht f.one k with⟨i,b,k1,k2,k3,k4,k5⟩|⟨k1,k2⟩
  . subst k4;rw[k5,jK ht f.one k1 ?_ k3];rw[nt I.bits]at k2;rcases bU _ _ |>.mp k2 with q|q
    . rw[I.bits];exact q
    . simp at q;subst q;exact absurd k1 (tV b)
  . rw[k2,qu ht fun i b q1 q2 q3=>k1 i b q1 (by rw[nt I.bits];rw[I.bits]at q2;rw[q2];rfl) q3]
 unfold wpOpIn;simp only[ho];by_cases hal:∃b,(j,b)∈d.cW
 ·
  obtain⟨b,hb⟩:=hal;obtain⟨fr,f1,f2,f3,f4,f6,f5⟩:=f.BC j o b hb ho;rw[aG (I.wanted hr ho AQ hd f1 f2)];refine(Cr I.qp.good uL (I.uF hr ho AQ hd f1) (f5 _) fun E' w' v' q1 q2 q3 _=>hk J E' _ w' ?_);refine I.quiet hr hl f ho hj AQ hd (fun c e he fN=>?_) q1 ?_ q2.le (fun k hk=>q3 k be) (fun k p hp=>?_)
  . obtain⟨_,o',h1,h2,_⟩:=f.uV c e he;rw[fN,ho]at h1;cases h1;rw[f3]at h2;cases h2
  . refine I.qp.trans (q2.ext fun k=>?_);by_cases Xr:k=n0+j
    . subst Xr;rw[Tr.nc _ _ f4,jK ht f.one hb (by rw[nt I.bits];simp) hmj]
    . rw[Tr.ql _ _ f4 Xr];rcases jm (x:=(eD h0 (n0+ops.size) dy J).2.1) (m:=(eD h0 (n0+ops.size) dy J).1) (gX:=ms|||2^j) ht f.one k with⟨i,b',k1,k2,k3,k4,k5⟩|⟨k1,k2⟩
      . subst k4;rw[k5,jK ht f.one k1 ?_ k3];rw[nt I.bits]at k2;rcases bU _ _ |>.mp k2 with q|q
        . rw[I.bits];exact q
        . simp at q;subst q;exact absurd rfl Xr
      . rw[k2,qu ht fun i b q1 q2 q3=>k1 i b q1 (by rw[nt I.bits];rw[I.bits]at q2;rw[q2];rfl) q3]
  . by_cases Xr:k=n0+j
    . exact .inr ⟨b,hb,Xr⟩
    . rw[q3 k Xr]at hp;exact .inl hp
 . have tV:∀b,(j,b)∉d.cW:=fun b q=>hal ⟨b,q⟩;obtain⟨fr,f1,f2⟩:=f.YZ j o hj ho;have look:iy ops o fr=some true->qR o.op=false->dz P o fr (gO n0 d.cW (eD h0 (n0+ops.size) dy J).1 (eD h0 (n0+ops.size) dy J).2.1 ms) (n0+j)=
     some (.val (val j) (gO n0 d.cW (eD h0 (n0+ops.size) dy J).1 (eD h0 (n0+ops.size) dy J).2.1 ms) (n0+j))->
     (if Region.wanted o (yielded ops a.tmps)=true then o.wpIn (fz uR) 0 P a w K Q else(∀f,o.about P w a.eval=some f->(fz uR).fn f)/\K (a.put o.dst undef) w):=by
    intro hw fN hs;rw[aG (I.wanted hr ho AQ hd f1 hw)];refine(Cr I.qp.good uL (I.uF hr ho AQ hd f1) hs fun E' w' v' q1 q2 q3 q4=>hk J E' _ w' ?_);rcases q4 with⟨_,rfl⟩|q4
    . refine I.quiet hr hl f ho hj AQ hd (fun c e he Ud=>?_) q1 (I.qp.trans (q2.ext (Xq tV))) q2.le (fun _ _=>rfl) (fun _ _ hp=>.inl hp);obtain⟨_,o',h1,h2,_⟩:=f.uV c e he;rw[Ud,ho]at h1;cases h1;rw[fN]at h2;cases h2
    . omega
   rcases f2 with⟨hw,hv⟩|⟨_,_,b,q3,_⟩|⟨hw,fN,uY⟩|⟨hw,fN,xA,adx⟩|⟨hw,Cx,c,h,n,hc,fK⟩
   ·
    rw[aI (by rw[I.wanted hr ho AQ hd f1 hw];simp)];refine⟨fun _ _=>trivial,?_⟩;refine hk J E _ w (I.quiet (v':=undef) hr hl f ho hj AQ hd (fun c e he Ud=>?_) (by rw[hv];exact⟨[],rfl,rfl⟩) (I.qp.ext (Xq tV)) E.le_refl (fun _ _=>rfl) (fun _ _ hp=>.inl hp));have Hi:=I.wanted hr ho AQ hd f1 hw;have Ub:=f.z6 c e o he (by rw[Ud];exact ho);obtain⟨Xs,g3,g4⟩:=Ub;rw[Ud]at g3;have Pd:=I.wanted hr ho AQ hd g3 g4;rw[Hi]at Pd;cases Pd
   . exact absurd q3 (tV b)
   . exact look hw fN (uY _)
   . have c1:∀(c':Nat) (e:xw),J<=c'->dy[c']? =some e->dY (lZ ops j) e.1=false:=by
      intro c' e o7 he;cases q:dY (lZ ops j) e.1 with
      |false=>rfl
      |true=>have:=(I.Gc c' e he).1 (Br _ q);omega
     have c2:∀(c':Nat) (e:xw),c'<J->dy[c']? =some e->dY e.2.1 j=false:=by
      intro c' e o7 he;obtain⟨_,o',_,_,h3⟩:=f.uV c' e he;cases q:dY e.2.1 j with
      |false=>rfl
      |true=>
       rw[h3]at q;rw[I.gX hr ((I.Gc c' e he).2 o7) q]at AQ;cases AQ
     obtain⟨y,hy⟩:=adx J I.Jle c1 c2;rcases _root_.Go.Eng.quiet fN hy with⟨u,h1,h2⟩|⟨u,b,h1,h2,h3⟩
     . cases h1;exact look hw fN (h2 _ (I.sub hr hl f ht Br))
     . simp only[R.val.injEq]at h2;omega
   ·
    have hcJ:c=J:=by
     have h1:¬c<J:=by
      intro q;have:=(I.Gc c _ hc).2 q;simp only at this;rw[AQ]at this;cases this
     by_cases q:J<c
     . have hJl:J<dy.length:=by have:=(aF.1 hc).1;omega
       have he:dy[J]? =some dy[J]:=ay hJl;have:=f.chain c J _ _ q hc he;have:=(I.Gc J _ he).1 (Br _ this);omega
     . omega
    subst hcJ;rw[aG (I.wanted hr ho AQ hd f1 hw)];have EN:=I.qp.good.sub (I.sub hr hl f ht Br);have EO:=I.Y4 hl;simp only at fK;rcases fK with hs|⟨g,args,hs,PY⟩
    . refine Cr EN (EO _ (aA _)) (I.uF hr ho AQ hd f1) hs fun E' w' v' q1 q2 q3 q4=>hk (c+1) E' _ w' ?_;refine I.effect hr hl f ht ho hj AQ hd tV hc q1 q2 (fun k hk=>q3 k be) ?_ ?_
      . rcases q4 with⟨rfl,rfl⟩|rfl
        . exact EO
        . intro k hk;rw[q3 k be];exact EO k be
      . rcases q4 with⟨rfl,_⟩|rfl<;>omega
    . refine BB oF EN EO (I.uF hr ho AQ hd f1) hs PY fun E' w' q2 q3 q4 q5=>?_;intro v' q1;exact hk (c+1) E' _ w' (I.effect hr hl f ht ho hj AQ hd tV hc q1 q2 q3 q4 q5)
end
theorem filter_lt{α:Type}{p q:α->Bool}{x:α}:∀{l:List α},x∈l->p x=true->q x=false->(∀y,q y=true->p y=true)->(l.filter q).length<(l.filter p).length
 | [],h,_,_,_=>by simp at h
 |y::l,h,hp,hq,hm=>by
  have kE:(l.filter q).length<=(l.filter p).length:=by
   clear h
   induction l with
   |nil=>simp
   |cons z l ih=>
    simp only[List.filter_cons];by_cases c:q z=true
    . rw[aG c,aG (hm z c)];simp;exact ih
    . rw[aI c];by_cases c2:p z=true
      . rw[aG c2];simp;omega
      . rw[aI c2];exact ih
  simp only[List.filter_cons];rcases aE.1 h with rfl|h
  . rw[aG hp,aI (by rw[hq];simp)];simp;omega
  . have ih:=filter_lt h hp hq hm;by_cases c:q y=true
    . rw[aG c,aG (hm y c)];simp;exact ih
    . rw[aI c];by_cases c2:p y=true
      . rw[aG c2];simp;omega
      . rw[aI c2];exact ih
def Y5(n:Nat)(gK:Array Bool):Nat:=((List.range n).filter fun i=>!gK.getD i false).length
theorem z7{gK:Array Bool}{j:Nat}(hj:j<gK.size)(i:Nat):(gK.setIfInBounds j true).getD i false=(gK.getD i false||decide (i=j)):=by
 simp only[b7,Array.getElem?_setIfInBounds];by_cases q:i=j
 . subst q;simp[hj]
 . have:¬j=i:=fun e=>q e.symm;simp[q,this]
section
variable{P:Program}{cf:fM}{ops:Array Oper}{n0 N lz:Nat}{h0:Tr O}{ko:Tr V}{val:Nat->V}{dy:List xw}{d:Dr}{E0:Env}{w0:World}{Bs:List Deferred}
variable{Q:Exit->Act->World->Prop}{uR:Option Nat}
theorem EP(oF:je P cf)(hr:mO ops N)(hl:lz<=ops.size)(f:oG P cf ops n0 h0 ko val dy lz d)(ht:∀y∈d.cW,n0+y.1<fL)
  (hQ:lz=ops.size->∀S ms J E a w,Inv ops n0 N lz h0 ko val dy d.cW E0 w0 Bs S ms J E a w->(∀i,i<ops.size->S i=true)->Q .normal a w)
  (hP:lz<ops.size->lz+1=ops.size/\∀S ms J E a w o,Inv ops n0 N lz h0 ko val dy d.cW E0 w0 Bs S ms J E a w->ops[lz]? =some o->
   (∀e∈o.after,Region.binds .any e=true->S e.on=true)->∀K,wpOpIn (fz uR) 0 P ops Q lz K a w):
  ∀(fuel:Nat) (gK:Array Bool) (ms J:Nat) (E:Env) (a:Act) (w:World),gK.size=ops.size->Y5 ops.size gK<=fuel->
   Inv ops n0 N lz h0 ko val dy d.cW E0 w0 Bs (fun i=>gK.getD i false) ms J E a w->wpAnyIn (fz uR) 0 P .any ops Q fuel gK a w:=by
 have done:∀(gK:Array Bool) (ms J:Nat) (E:Env) (a:Act) (w:World),gK.size=ops.size->Inv ops n0 N lz h0 ko val dy d.cW E0 w0 Bs (fun i=>gK.getD i false) ms J E a w->
   Region.ready .any ops gK=[]->Q .normal a w:=by
  intro gK ms J E a w hs I Gd;have all:∀i,i<ops.size->gK.getD i false=true:=by
   intro i
   induction i using Nat.strongRecOn with
   |_ i ih=>
    intro hi;cases q:gK.getD i false with
    |true=>rfl
    |false=>
     exfalso;have ho:ops[i]? =some ops[i]:=bn hi;have:i∈Region.ready .any ops gK:=mem_ready.2 ⟨by
      rw[b7,bn be]at q ⊢;exact q,ops[i],ho,fun e he hb=>by
      have:=hr.yL i _ ho e he hb;exact ih e.on this be⟩
     rw[Gd]at this;simp at this
  have PZ:lz=ops.size:=by
   by_cases q:lz<ops.size
   . have:=I.Uc lz (all lz q);omega
   . omega
  exact hQ PZ _ ms J E a w I all
 intro fuel
 induction fuel with
 |zero=>
  intro gK ms J E a w hs hu I;have Gd:Region.ready .any ops gK=[]:=by
   rw[List.eq_nil_iff_forall_not_mem];intro j hj;obtain⟨h1,o,ho,_⟩:=mem_ready.1 hj;have hjs:=(aQ.1 ho).1;have hz:Y5 ops.size gK=0:=by omega
   unfold Y5 at hz;have:=List.eq_nil_iff_length_eq_zero.2 hz;have hm:j∈(List.range ops.size).filter fun i=>!gK.getD i false:=List.mem_filter.2 ⟨List.mem_range.2 hjs,by
    rw[b7,bn be]at h1 ⊢;simp at h1;simp[h1]⟩
   rw[this]at hm;simp at hm
  exact⟨Gd,done gK ms J E a w hs I Gd⟩
 |succ fuel ih=>
  intro gK ms J E a w hs hu I;refine⟨done gK ms J E a w hs I,fun j hj=>?_⟩;obtain⟨h1,o,ho,hd⟩:=mem_ready.1 hj;have hjs:=(aQ.1 ho).1;have AQ:gK.getD j false=false:=by
   rw[b7,bn be]at h1 ⊢;exact h1
  by_cases Pa:j<lz
  . refine I.step oF hr hl f ht ho Pa AQ hd fun J' E' a' w' I'=>?_;refine ih _ (ms|||2^j) J' E' a' w' (by simp;exact hs) ?_ ?_
    . have:Y5 ops.size (gK.setIfInBounds j true)<Y5 ops.size gK:=by
       refine filter_lt (x:=j) (List.mem_range.2 hjs) (by rw[AQ];rfl) (by rw[z7 be];simp) fun y hy=>?_;rw[z7 be]at hy;simp at hy ⊢;exact hy.1
      omega
    . have:(fun i=>(gK.setIfInBounds j true).getD i false)=fun i=>(gK.getD i false||decide (i=j)):=funext fun i=>z7 be i;rw[this];exact I'
  . have fF:lz<ops.size:=by omega
    obtain⟨p1,p2⟩:=hP fF;have:j=lz:=by omega
    subst this;exact p2 _ ms J E a w o I ho hd _
end
theorem P0{uR:Option Nat}{P:Program}{cf:fM}{ops:Array Oper}{N id:Nat}{s s':St}{x:X}{E0:Env}{a0:Act}{w0:World}{Q:Exit->Act->World->Prop}(oF:je P cf)(hr:mO ops N)(hm:P.follows .mixedOrders=true)
  (e:drawn P cf ops s=some (x,s')) (g:Good E0 s.h w0) (hd:qN E0 s.n) (hf:yJ E0 s.fr a0) (hN:a0.tmps.size=N)
  (hq:∀E' a' w' x',ir E0 s.h w0 E' s'.h w'->(∀k,k<s.n->E'.ι k=E0.ι k)->qN E' s'.n->s.n<=s'.n->yJ E' s'.fr a'->a'.tmps.size=N->a'.defers=a0.defers->s'.gz=s.gz->NK E' x x'->Q x' a' w'):
  (Code.region id ops true).wpIn (fz uR) 0 P Q a0 w0:=by
 refine wpIn_region_any hm ?_;unfold drawn at e;split at e
 . rename_i gJ;have init:=Ki (P:=P) (cf:=cf) (ops:=ops) (n0:=s.n) s.fr s.h;have start:∀(lz:Nat) (val:Nat->V) (dy:List xw) (cW:af),Inv ops s.n N lz s.h s.fr val dy cW E0 w0 a0.defers (fun i=>(Array.replicate ops.size false).getD i false) 0 0 E0 a0 { w0 with drawn:=w0.drawn+1 }:=by
    intro lz val dy cW;have hS:∀i,(Array.replicate ops.size false).getD i false=false:=by
     intro i;rw[b7];by_cases q:i<ops.size
     . rw[bn (by simpa using q)];simp
     . rw[Array.getElem?_eq_none (by simpa using q)];rfl
    have Y3:∀k,(gO s.n cW (eD s.h (s.n+ops.size) dy 0).1 (eD s.h (s.n+ops.size) dy 0).2.1 0).get k=s.h.get k:=by
     intro k;have:∀l:af,gO s.n l (eD s.h (s.n+ops.size) dy 0).1 (eD s.h (s.n+ops.size) dy 0).2.1 0=s.h:=by
      intro l
      induction l with
      |nil=>rfl
      |cons y l ih=>obtain⟨i,b⟩:=y;simp only[gO,kr,Bool.false_and,aO,cG];exact ih
     rw[this]
    refine⟨fun i=>by rw[kr,hS],fun i hi=>?_,fun j o hj=>?_,fun c e' _=>?_,aZ _,fun j o t hj=>?_,fun t v hv _=>hf t v hv,(ir.drew g).ext Y3,fun _ _=>rfl,fun k p hp=>?_,fun i _ _=>?_,aA _,hN,rfl⟩
    . rw[hS]at hi;cases hi
    . rw[hS]at hj;cases hj
    . rw[hS];constructor
      . intro q;cases q
      . intro q;omega
    . rw[hS]at hj;cases hj
    . by_cases q:k<s.n
      . exact .inl q
      . rw[hd k be]at hp;cases hp
    . show s.h.get (s.n+i)=none;cases q:s.h.get (s.n+i)with
      |none=>rfl
      |some o=>
       obtain⟨b,t,h1,_⟩:=g.rel _ _ q;rw[hd _ be]at h1;cases h1
   have hu0:Y5 ops.size (Array.replicate ops.size false)<=ops.size:=by
    unfold Y5;exact bV (List.length_filter_le _ _) (by simp)
   have fK:=fun(r:Dr ⊕ (Tr V×V×Tr O×Nat)) q=>EM (N:=N) hr ops.toList 0 _ _ _ r (by simp) init q;split at e
   . rename_i d Xt;obtain⟨rfl,rfl⟩:=fc e;obtain⟨val,dy,f⟩:=fK _ Xt;rw[show max 0 ops.size=ops.size by omega]at f;have ht:∀y∈d.cW,s.n+y.1<fL:=fun y hy=>by have:=f.cW y hy;omega
     refine EP oF hr (aA _) f ht (fun _ S ms J E a w I uY=>?_) (fun q=>by omega) ops.size _ 0 0 E0 a0 _ (by simp) hu0 (start ops.size val dy d.cW);have hJ:J=dy.length:=by
      have h1:=I.Jle;by_cases q:J<dy.length
      . have he:dy[J]? =some dy[J]:=ay q;have:=(I.Gc J _ he).1 (uY _ (f.uV J _ he).1);omega
      . omega
     have ec1:d.cur.1=(eD s.h (s.n+ops.size) dy J).1:=by rw[hJ,f.cur]
     have ec2:d.cur.2=(eD s.h (s.n+ops.size) dy J).2.1:=by rw[hJ,f.cur]
     have en:d.n=(eD s.h (s.n+ops.size) dy J).2.2:=by rw[hJ,f.n]
     refine hq E a w .normal ?_ I.old ?_ ?_ ?_ I.size I.gz rfl trivial
     . refine I.qp.ext fun k=>?_;simp only[ec1,ec2];have ady:∀i,i<ops.size->dY (2^ops.size-1) i=true:=fun i hi=>by
        unfold dY;rw[Nat.testBit_two_pow_sub_one];simpa using hi
       rcases jm (n0:=s.n) (x:=(eD s.h (s.n+ops.size) dy J).2.1) (m:=(eD s.h (s.n+ops.size) dy J).1) (gX:=2^ops.size-1) ht f.one k with⟨i,b,k1,k2,k3,k4,k5⟩|⟨k1,k2⟩
       . subst k4;rw[k5,jK ht f.one k1 (by rw[I.bits];exact uY i (f.cW _ k1)) k3]
       . rw[k2,qu ht fun i b q1 q2 q3=>k1 i b q1 (ady i (f.cW _ q1)) q3]
     . show qN E d.n;rw[en];exact I.Y4 (aA _)
     . show s.n<=d.n;rw[en];have:=I.yN;omega
     . intro t v hv;by_cases q:∃j o,j<ops.size/\ops[j]? =some o/\o.dst=some t
       . obtain⟨j,o,q1,q2,q3⟩:=q;have:=f.fr.new j o t q1 q2 q3;simp only at hv;rw[this]at hv;cases hv;exact I.f1 j o t (uY j q1) q2 q3
       . have:=f.fr.old t fun i o hi ho TF=>q ⟨i,o,hi,ho,TF⟩;simp only at hv;rw[this]at hv;exact I.f2 t v hv fun j o hj ho TF=>q ⟨j,o,I.Uc j hj,ho,TF⟩
   . rename_i fr v h n Xt;obtain⟨rfl,rfl⟩:=fc e;obtain⟨lz,o,d,val,dy,ho,f,o6⟩:=fK _ Xt;have PZ:lz<ops.size:=(aQ.1 ho).1;have ht:∀y∈d.cW,s.n+y.1<fL:=fun y hy=>by have:=f.cW y hy;omega
     have Br:eM d.ef o.after.toList=lZ ops lz:=by rw[f.ef];unfold lZ;rw[ho]
     unfold uG at o6;simp only[Br]at o6;split at o6
     . split at o6<;>cases o6
     . rename_i hw;split at o6
       . rename_i Cx;split at o6
         . split at o6
           . split at o6<;>cases o6
           . rename_i gg args hs;split at o6
             . split at o6<;>cases o6
             . rename_i v' h' n' hc;split at o6
               . rename_i hb;simp only[an,Sum.inr.injEq,aB]at o6;obtain⟨rfl,rfl,rfl,rfl⟩:=o6;simp only[aC]at hb;have yA:=aD hb.1;have HG:=aD hb.2;have NL:∀i,i<lz->dY (lZ ops lz) i=true:=fun i hi=>by
                  have:lZ ops lz=2^lz-1:=by omega
                  rw[this];unfold dY;rw[Nat.testBit_two_pow_sub_one];simpa using hi
                 refine EP oF hr (Nat.le_of_lt PZ) f ht (fun q=>by omega) (fun _=>⟨HG,fun S ms J E a w o' I D9 P4 K=>?_⟩) ops.size _ 0 0 E0 a0 _ (by simp) hu0 (start lz val dy d.cW);rw[ho]at D9;cases D9;have hSl:S lz=false:=by
                  cases q:S lz with
                  |false=>rfl
                  |true=>have:=I.Uc lz q;omega
                 have uY:∀i,i<lz->S i=true:=fun i hi=>vZ hr I.closed ho P4 (NL i hi);have hJ:J=dy.length:=by
                  have h1:=I.Jle;by_cases q:J<dy.length
                  . have he:dy[J]? =some dy[J]:=ay q;have:=(I.Gc J _ he).1 (uY _ (f.uV J _ he).1);omega
                  . omega
                 have ec1:d.cur.1=(eD s.h (s.n+ops.size) dy J).1:=by rw[hJ,f.cur]
                 have ec2:d.cur.2=(eD s.h (s.n+ops.size) dy J).2.1:=by rw[hJ,f.cur]
                 have en:d.n=(eD s.h (s.n+ops.size) dy J).2.2:=by rw[hJ,f.n]
                 rw[ec1,ec2,en]at hs hc;have tc:=I.sub hr (Nat.le_of_lt PZ) f ht (gX:=lZ ops lz) fun k hk=>uY k (Kf hr.yL lz k hk);have EO:=I.Y4 (Nat.le_of_lt PZ);unfold wpOpIn;simp only[ho];rw[aG (I.wanted hr ho hSl P4 f.fr hw)];refine(BB oF (I.qp.good.sub tc) EO (I.uF hr ho hSl P4 f.fr) hs hc fun E' w' q2 q3 q4 q5=>?_);intro v2 hv2;have hcn:=I.yN;refine hq E' a w' _ ?_ (fun k hk=>?_) q4 ?_ ?_ I.size I.gz rfl ⟨v2,hv2,rfl⟩
                 . refine I.qp.trans (ir.frame I.qp.good tc q2 fun k=>?_);simp only;cases hk:h'.get k with
                   |some o'=>rfl
                   |none=>
                    simp only;split
                    . rename_i hx;rcases jm (n0:=s.n) (x:=(eD s.h (s.n+ops.size) dy J).2.1) (m:=(eD s.h (s.n+ops.size) dy J).1) (gX:=ms) ht f.one k with⟨i,b,k1,k2,k3,k4,k5⟩|⟨k1,k2⟩
                      . subst k4;rw[jK ht f.one k1 (NL i (f.cW _ k1)) k3]at hx;cases hx
                      . rw[k2];rw[qu ht fun i b q1 q2' q3'=>k1 i b q1 (by rw[I.bits];exact uY i (f.cW _ q1)) q3']at hx;exact hx.symm
                    . rfl
                 . rw[q3 k be];exact I.old k hk
                 . show s.n<=n';omega
                 . refine jW q2.le ?_;intro t v hv;by_cases q:∃j o,j<lz/\ops[j]? =some o/\o.dst=some t
                   . obtain⟨j,o2,q1,q2,q3⟩:=q;have:=f.fr.new j o2 t q1 q2 q3;simp only at hv;rw[this]at hv;cases hv;exact I.f1 j o2 t (uY j q1) q2 q3
                   . have:=f.fr.old t fun i o2 hi Ue TF=>q ⟨i,o2,hi,Ue,TF⟩;simp only at hv;rw[this]at hv;exact I.f2 t v hv fun j o2 hj Ue TF=>q ⟨j,o2,I.Uc j hj,Ue,TF⟩
               . cases o6
             . cases o6
           . cases o6
         . cases o6
       . split at o6
         . split at o6
           . split at o6
             . split at o6
               . cases o6
               . split at o6<;>cases o6
             . split at o6
               . split at o6<;>cases o6
               . cases o6
           . cases o6
         . cases o6
     . cases o6
   . cases e
 . cases e
def P5(E:Env)(x:FuncId×ag×ag)(d:Deferred):Prop:=
 (x.1<fL/\∃c' c9,dI E x.2.1 c'/\dI E x.2.2 c9/\d={ target:=.fn (.func x.1) c'.toArray,args:=c9.toArray }) \/
 (x.1=fL/\∃m b s,x.2.2=[.map (some m)]/\E.ι m=some (b,s)/\d={ target:=.collected b,args:=#[] })
def wQ(E:Env):List (FuncId×ag×ag)->List Deferred->Prop
 | [],l=>l=[]
 |x::xs,l=>∃d ys,P5 E x d/\wQ E xs ys/\l=d::ys
theorem Kj{E E':Env}(h:E.le E'){x:FuncId×ag×ag}{d:Deferred}:P5 E x d->P5 E' x d:=by
 rintro(⟨hx,c',a',r1,r2,q⟩|⟨hx,m,b,s,q1,q2,q3⟩)
 . exact .inl ⟨hx,c',a',kz h _ _ r1,kz h _ _ r2,q⟩
 . exact .inr ⟨hx,m,b,s,q1,(h.nm _ _ _ q2).1,q3⟩
theorem iT{E E':Env}(h:E.le E'):∀(xs:List (FuncId×ag×ag)) (ys:List Deferred),wQ E xs ys->wQ E' xs ys
 | [],_,r=>r
 |_::xs,_,⟨d,ys,r1,r3,q⟩=>⟨d,ys,Kj h r1,iT h xs ys r3,q⟩
theorem ir.kill{E:Env}{h:Tr O}{w w':World}{m b s:Nat}(g:Good E h w)(ht:m<fL)(iu:eC h m)(hm:E.ι m=some (b,s))
  (EB:w'.heap.size=w.heap.size) (HC:w'.tape=w.tape) (hos:w'.os=w.os) (oZ:w'.output=w.output)
  (qm:∀x,x≠b->w'.heap[x]? =w.heap[x]?):ir E h w E (h.set m none) w':=by
 have hs:∀k o,(h.set m none).get k=some o->k≠m/\h.get k=some o:=by
  intro k o hk;rw[Tr.eP _ _ _ ht]at hk;split at hk
  . cases hk
  . rename_i q;exact⟨q,hk⟩
 have dL:∀k o,(h.set m none).get k=some o->h.get k=some o:=fun k o q=>(hs k o q).2;refine⟨E.le_refl,⟨?_,?_,?_,g.jj,fun b' c q=>⟨by rw[qm b' fun e=>(g.gP b' c q).2 m s iu (e▸hm)];exact(g.gP b' c q).1,fun k t hk=>(g.gP b' c q).2 k t (gw dL hk)⟩⟩,be,HC,hos,oZ,?_,fun k x t hk e _=>⟨k,t,ng dL hk,e,gw dL⟩,fun _ _ q=>.inl q⟩
 . intro k o hk;obtain⟨fN,hk⟩:=hs k o hk;obtain⟨b',s',h1,h2⟩:=g.rel k o hk;have hb:b'≠b:=by
    intro hb;subst hb;exact g.inj m k b' s s' (fun q=>fN q.symm) iu (by rw[hk];simp) hm h1
   exact⟨b',s',h1,ij E.le_refl rfl (qm b' hb) h2⟩
 . intro k k' x t t' fN hk uo e e';exact g.inj k k' x t t' fN (gw dL hk) (ng dL uo) e e'
 . intro k x t e;rw[EB];exact g.mW k x t e
 . intro x _ hn;refine qm x ?_;intro hx;subst hx;exact hn m s iu hm
structure jY(E:Env)(N:Nat)(s:St)(a:Act)(w:World):Prop where
 good:Good E s.h w
 oe:qN E s.n
 fr:yJ E s.fr a
 size:a.tmps.size=N
 gz:wQ E s.gz a.defers
def H6(E:Env)(N:Nat)(s:St)(w:World)(x:X)(s':St)(Q:Exit->Act->World->Prop):Prop:=
 ∀E' a' w' x',ir E s.h w E' s'.h w'->(∀k,k<s.n->E'.ι k=E.ι k)->s.n<=s'.n->jY E' N s' a' w'->NK E' x x'->Q x' a' w'
theorem H6.after{E E1:Env}{N:Nat}{s s1 s':St}{w w1:World}{x:X}{Q:Exit->Act->World->Prop}(p:H6 E N s w x s' Q)(u:ir E s.h w E1 s1.h w1)(fJ:∀k,k<s.n->E1.ι k=E.ι k)(hn:s.n<=s1.n):H6 E1 N s1 w1 x s' Q:=
 fun E' a' w' x' u' P6 pE r rx=>p E' a' w' x' (u.trans u') (fun k hk=>by rw[P6 k be];exact fJ k hk) be r rx
section
variable{P:Program}{cf:fM}{F N:Nat}{uR:Option Nat}
theorem kO(oF:je P cf){ops:Array Oper}:∀(l:List Oper) (s:St) (x:X) (s':St),(uR=none\/∀o∈l,By o.op=true)->(∀o∈l,nl N o.dst)->ja P cf ops l s=some (x,s')->
  ∀(E:Env) (a:Act) (w:World) (Q:Exit->Act->World->Prop),jY E N s a w->H6 E N s w x s' Q->wpListIn (fz uR) 0 P ops Q l a w
 | [],s,x,s',_,_,e,E,a,w,Q,r,hp=>by
   simp only[ja,an,aB]at e;obtain⟨rfl,rfl⟩:=e;exact hp E a w .normal (ir.refl r.good) (fun _ _=>rfl) (aA _) r trivial
 |o::rest,s,x,s',oz,uh,e,E,a,w,Q,r,hp=>by
  have Uf:uR=none\/∀o∈rest,By o.op=true:=oz.imp _root_.id fun h o ho=>h o (by simp[ho]);have ho:=uh o (by simp);have uZ:∀o∈rest,nl N o.dst:=fun o h=>uh o (by simp[h]);have Ug:nl a.tmps.size o.dst:=by rw[r.size];exact ho
  simp only[ja]at e;unfold wpListIn;have H7:∀b,iy ops o s.fr=some b->Region.wanted o (yielded ops a.tmps)=b:=fun b hb=>xq (E:=E) (fun _ _ _ d _ _ _ v hv=>r.fr d v hv) hb;have Ed:∀y∈o.op.operands,mH E s.fr a.eval y:=fun y _=>iF r.good.jj r.fr y;split at e
  . rename_i hw;rw[aI (by rw[H7 _ hw];simp)];split at e
    . rename_i fr rD;refine⟨fun _ _=>trivial,?_⟩;refine kO oF rest _ x s' Uf uZ e E _ w Q ⟨r.good,r.oe,jE r.fr rD ⟨[],rfl,rfl⟩ Ug,by rw[iE];exact r.size,by rw[gA];exact r.gz⟩ ?_;exact hp.after (ir.refl r.good) (fun _ _=>rfl) (aA _)
    . cases e
  . rename_i hw;rw[aG (H7 _ hw)];split at e
    . rename_i v h n hs;split at e
      . rename_i fr rD;refine Cr r.good (r.oe _ (aA _)) Ed hs fun E' w' v' q1 q2 q3 q4=>?_;have hn:s.n<=n:=by rcases q4 with⟨rfl,_⟩|rfl<;>omega
        have rT:qN E' n:=by
         rcases q4 with⟨rfl,rfl⟩|rfl
         . exact r.oe
         . intro k hk;rw[q3 k be];exact r.oe k be
        refine kO oF rest _ x s' Uf uZ e E' _ w' Q ⟨q2.good,rT,jE (jW q2.le r.fr) rD q1 Ug,by rw[iE];exact r.size,by rw[gA];exact iT q2.le _ _ r.gz⟩ ?_;exact hp.after q2 (fun k hk=>q3 k be) hn
      . cases e
    . rename_i g args hs;split at e
      . rename_i v h n hc;split at e
        . rename_i fr rD;refine BB oF r.good r.oe Ed hs hc fun E' w' q2 q3 q4 q5=>?_;intro v' q1;refine kO oF rest _ x s' Uf uZ e E' _ w' Q ⟨q2.good,q4,jE (jW q2.le r.fr) rD q1 Ug,by rw[iE];exact r.size,by rw[gA];exact iT q2.le _ _ r.gz⟩ ?_;exact hp.after q2 q3 q5
        . cases e
      . rename_i v h n hc;obtain⟨rfl,rfl⟩:=fc e;refine BB oF r.good r.oe Ed hs hc fun E' w' q2 q3 q4 q5=>?_;intro v' q1;exact hp E' a w' _ q2 q3 q5 ⟨q2.good,q4,jW q2.le r.fr,r.size,iT q2.le _ _ r.gz⟩ ⟨v',q1,rfl⟩
      . cases e
    . rename_i g c args hs;split at e
      case isFalse=>cases e
      rename_i Uh;split at e
      . rename_i fr rD;have T9:uR=none:=by
         rcases oz with q|q
         . exact q
         . exfalso;have:=q o (by simp);rw[Uh.2]at this;cases this
        refine YY T9 r.good (r.oe _ (aA _)) Ed hs fun c' c9 q1 q2=>?_;refine kO oF rest _ x s' Uf uZ e E _ w Q ⟨r.good,r.oe,jE (a:={ a with defers:={ target:=.fn (.func g) c'.toArray,args:=c9.toArray }::a.defers }) r.fr rD ⟨[],rfl,rfl⟩ Ug,by rw[iE];exact r.size,by rw[gA];exact⟨_,a.defers,.inl ⟨Uh.1,c',c9,q1,q2,rfl⟩,r.gz,rfl⟩⟩ ?_;exact hp.after (ir.refl r.good) (fun _ _=>rfl) (aA _)
      . cases e
    . rename_i v hs;obtain⟨rfl,rfl⟩:=fc e;refine PW r.good (r.oe _ (aA _)) Ed hs fun v' q1=>?_;exact hp E a w _ (ir.refl r.good) (fun _ _=>rfl) (aA _) r ⟨v',q1,rfl⟩
    . cases e
    . cases e
  . cases e
theorem oH{E:Env}{fr:Tr V}{a:Act}{c:Operand}{b:Bool}(ge:GE E)(r:yJ E fr a)(e:iI fr c=some (.bool b)):a.eval c= .bool b:=by
 have:=iF ge r c _ e;simpa only[dD]using this
theorem H8(oF:je P cf){g:Operand}{ps:Array Tmp}{assign body:Code}{s s':St}{x:X}(iD:eX N (.rangeFunc g ps assign body)=true)(e:jb P cf F (.rangeFunc g ps assign body) s=some (x,s'))
  {E:Env} {a:Act} {w:World} {Q:Exit->Act->World->Prop} (r:jY E N s a w) (hp:H6 E N s w x s' Q):(Code.rangeFunc g ps assign body).wpIn (fz none) 0 P Q a w:=by
 simp only[eX,aC]at iD;simp only[jb]at e;split at e
 . rename_i gf lb hg;split at e
   case isFalse=>cases e
   rename_i hq;obtain⟨uQ,gJ⟩:=hq;obtain⟨f',fi,H9,NF,hfi,hlb,zJ⟩:=iF r.good.jj r.fr g _ hg;simp only[yh]at NF;subst NF;simp only[dI]at hfi;subst hfi;refine wpIn_rangeFunc fun fn _=>?_
   let Cz:Loop:={ state:=.ready,pending:=none,fn,tmps:=a.tmps,params:=ps,assign,body,defers:=w.heap.size }
   have u1:ir E s.h w (E.put s.n w.heap.size 0 0) (s.h.set s.n (some .my)) (w.alloc (.deferred (some []))):=ir.alloc (ob:=.deferred (some [])) (o:=.my) r.good (r.oe _ (aA _)) be heap_alloc_new;have DW:(E.put s.n w.heap.size 0 0).ι (s.n+1)=none:=by rw[Env.fA be];exact r.oe _ be
   have u2:ir (E.put s.n w.heap.size 0 0) (s.h.set s.n (some .my)) (w.alloc (.deferred (some []))) ((E.put s.n w.heap.size 0 0).put (s.n+1) (w.alloc (.deferred (some []))).heap.size 0 0) ((s.h.set s.n (some .my)).set (s.n+1) (some (.loop true none s.fr ps.toList assign body))) ((w.alloc (.deferred (some []))).alloc (.loop Cz)):=
    ir.alloc (ob:=.loop Cz) (o:=.loop true none s.fr ps.toList assign body) u1.good DW gJ
     ⟨Cz,heap_alloc_new,rfl,rfl,rfl,rfl,rfl,vP (Env.le_trans u1.le (Env.rz DW fun m x t e hx=>by have:=u1.good.mW m x t e;omega)) r.fr,by rw[show Cz.tmps.size=N from r.size];exact⟨iD.2.1,iD.2.2,fun p hp=>by simpa using bq.1 iD.1 p hp⟩⟩
   rw[World.size_alloc]at u2;revert e;generalize Ui:(E.put s.n w.heap.size 0 0).put (s.n+1) (w.heap.size+1) 0 0=E2 at u2;generalize NM:(s.h.set s.n (some .my)).set (s.n+1) (some (.loop true none s.fr ps.toList assign body))=h2 at u2;generalize hW1:(w.alloc (.deferred (some []))).alloc (.loop Cz)=W1 at u2;intro e;have Hp:E2.ι (s.n+1)=some (w.heap.size+1,0):=by rw[<- Ui];exact Env.fa
   have Ge:E2.ι s.n=some (w.heap.size,0):=by rw[<- Ui,Env.fA be];exact Env.fa
   have qv:∀k,k<s.n->E2.ι k=E.ι k:=fun k hk=>by rw[<- Ui,Env.fA be,Env.fA be]
   have Ia:qN E2 (s.n+2):=fun k hk=>by
    have hk:s.n+2<=k:=hk;rw[<- Ui,Env.fA be,Env.fA be];exact r.oe k (by show s.n<=k;omega)
   have u12:=u1.trans u2;have Y6:dI E2 lb H9:=kz u12.le _ _ hlb;have P7:(invoke (.fn (.func gf) H9.toArray) #[.func (.yield (w.heap.size+1)) #[] #[]]).run P W1= .ok (.enter gf (Value.func (.yield (w.heap.size+1)) #[] #[]::H9).toArray) W1:=by
    have Y7:=pR (w:=W1) (args:=(Value.func (.yield (w.heap.size+1)) #[] #[]::H9).toArray) uQ;rw[<- Y7];simp[invoke]
   refine⟨w.heap.size+1,[{ target:=.collected w.heap.size,args:=#[] }],W1,{ target:=.fn (.func gf) H9.toArray,args:=#[.func (.yield (w.heap.size+1)) #[] #[]] },W1,gf,
    (Value.func (.yield (w.heap.size+1)) #[] #[]::H9).toArray,W1,?_,?_,fun _ _=>trivial,P7,fun hd=>by simp[fz,Fence.wide]at hd,?_⟩
   . rw[<- hW1];exact run_enterLoop_outer _ _ _ _ _
   . simp only[resolve,zJ];simp[go_sem]
   . split at e
     case h_2=>cases e
     rename_i v h n hc;have CA:=(oF gf _ h2 (s.n+2) _ h n hc E2 W1 (Value.func (.yield (w.heap.size+1)) #[] #[]::H9) ⟨_,_,⟨_,[],[],⟨_,_,Hp,rfl⟩,rfl,rfl,rfl⟩,Y6,rfl⟩ u2.good Ia).1 uQ;have Gf:CallsIn Fence.wide (0-1) P gf (Value.func (.yield (w.heap.size+1)) #[] #[]::H9).toArray W1 (rangePost (fz none) 0 P (w.heap.size+1) Q { a with defers:=[{ target:=.collected w.heap.size,args:=#[] }]++a.defers }):=by
      refine callsIn_wide.2 (CA.mono ?_);rintro en w3 ⟨E3,u3,yO,P9,Kk,ho⟩;cases en with
      |panicked _=>exact ho.elim
      |outgrown=>exact ho.elim
      |returned v'=>
       have Y8:E3.ι (s.n+1)=some (w.heap.size+1,0):=by rw[yO _ be];exact Hp
       have hd3:E3.ι s.n=some (w.heap.size,0):=by rw[yO _ be];exact Ge
       have EH:∀(st:Bool) (pe:Option Code) (fr:Tr V) (pl:List Nat) (c1 c2:Code),h.get (s.n+1)=some (.loop st pe fr pl c1 c2)->
         ∃w4,(Instr.endLoop (w.heap.size+1)).run P w3= .ok pe w4/\
          ∀(y:X) (s1:St),s1={ s with h:=h.set (s.n+1) none,n:=n,gz:=(fL,[],[.map (some s.n)])::s.gz }->H6 E N s w y s1 Q->∀y',NK E3 y y'->Q y' { a with defers:=[{ target:=.collected w.heap.size,args:=#[] }]++a.defers } w4:=by
        intro st pe fr pl c1 c2 kJ;obtain⟨b,s0,q1,rc,q2,q3,q4,_⟩:=u3.good.rel _ _ kJ;rw[Y8]at q1;cases q1;have NN:=run_endLoop (P:=P) q2 (by rw[q3];cases st<;>simp);refine⟨_,NN.trans (aM (fun p=>Result.ok p _) q4),fun y s1 fS iG y' hy=>?_⟩;have uk:ir E3 h w3 E3 (h.set (s.n+1) none) (w3.putObj (w.heap.size+1) (.loop { rc with state:=.exhausted })):=
         ir.kill u3.good gJ ⟨_,kJ,rfl⟩ Y8 (by simp) rfl rfl rfl fun x hx=>World.putObj_heap_other hx
        have Gg:=(u12.trans u3).trans uk;subst fS;have hsn:s.n<=n:=by omega
        exact iG E3 _ _ y' Gg (fun k hk=>by rw[yO k be];exact qv k hk) hsn
         ⟨Gg.good,P9,jW Gg.le r.fr,r.size,⟨_,a.defers,.inr ⟨rfl,s.n,w.heap.size,0,rfl,hd3,rfl⟩,iT Gg.le _ _ r.gz,rfl⟩⟩ hy
       split at e
       . rename_i hdg Hq;obtain⟨rfl,rfl⟩:=fc e;obtain⟨w4,k1,k2⟩:=EH _ _ _ _ _ _ Hq;exact⟨_,w4,k1,k2 .normal _ rfl hp .normal trivial⟩
       . rename_i hdg Hq;obtain⟨rfl,rfl⟩:=fc e;obtain⟨w4,k1,k2⟩:=EH _ _ _ _ _ _ Hq;exact⟨_,w4,k1,wpIn_ret (k2 .ret _ rfl hp .ret trivial)⟩
       . rename_i id _ _ _ _ hdg Hq;obtain⟨rfl,rfl⟩:=fc e;obtain⟨w4,k1,k2⟩:=EH _ _ _ _ _ _ Hq;exact⟨_,w4,k1,wpIn_exit (k2 (.exit id) _ rfl hp (.exit id) rfl)⟩
       . cases e
     exact Gf
 . cases e
theorem mJ(oF:je P cf)(hm:P.follows .mixedOrders=true):∀(c:Code) (s:St) (x:X) (s':St),(uR=none\/jS c=true)->eX N c=true->jb P cf F c s=some (x,s')->
  ∀(E:Env) (a:Act) (w:World) (Q:Exit->Act->World->Prop),jY E N s a w->H6 E N s w x s' Q->c.wpIn (fz uR) 0 P Q a w:=by
 intro c
 induction c with
 |skip=>
  intro s x s' _ _ e E a w Q r hp;simp only[jb,an,aB]at e;obtain⟨rfl,rfl⟩:=e;exact wpIn_skip (hp E a w .normal (ir.refl r.good) (fun _ _=>rfl) (aA _) r trivial)
 |region id ops JR=>
  intro s x s' oz iD e E a w Q r hp;simp only[eX,aC]at iD;cases JR with
  |false=>
   simp only[jb]at e;refine wpIn_region_list (kO oF ops.toList s x s' (oz.imp _root_.id fun q=>by simp only[jS,bq]at q;exact q) (fun o ho d hd=>?_) e E a w Q r hp);have:=bq.1 iD.1 o ho;rw[hd]at this;simpa using this
  |true=>
   simp only[jb]at e;have ajq:=Kg (by simpa using iD.2);refine P0 oF ajq hm e r.good r.oe r.fr r.size fun E' a' w' x' u fJ rT hn x8 lW TH ajr hx=>?_;exact hp E' a' w' x' u fJ hn ⟨u.good,rT,x8,lW,by rw[ajr,TH];exact iT u.le _ _ r.gz⟩ hx
 |seq c1 c2 PR PS=>
  intro s x s' oz iD e E a w Q r hp;simp only[eX,aC]at iD;simp only[jb]at e;refine wpIn_seq ?_;cases h1:jb P cf F c1 s with
  |none=>simp[h1]at e
  |some p=>
   obtain⟨x1,s1⟩:=p;refine PR s x1 s1 (oz.imp _root_.id fun q=>by simp only[jS,aC]at q;exact q.1) iD.1 h1 E a w _ r fun E' a' w' x' u fJ hn r' hx=>?_;cases x1 with
   |normal=>
    simp only[h1]at e;cases x'<;>first|(exact hx.elim)|skip
    exact PS s1 x s' (oz.imp _root_.id fun q=>by simp only[jS,aC]at q;exact q.2) iD.2 e E' a' w' Q r' (hp.after u fJ hn)
   |exit i=>
    simp only[h1,an,aB]at e;obtain⟨rfl,rfl⟩:=e;cases x'<;>first|(exact hx.elim)|skip
    exact hp E' a' w' _ u fJ hn r' hx
   |ret=>
    simp only[h1,an,aB]at e;obtain⟨rfl,rfl⟩:=e;cases x'<;>first|(exact hx.elim)|skip
    exact hp E' a' w' _ u fJ hn r' hx
   |panic v=>
    simp only[h1,an,aB]at e;obtain⟨rfl,rfl⟩:=e;cases x'<;>first|(exact hx.elim)|skip
    exact hp E' a' w' _ u fJ hn r' hx
 |cond c c1 c2 PR PS=>
  intro s x s' oz iD e E a w Q r hp;simp only[eX,aC]at iD;simp only[jb]at e;split at e
  . rename_i hc;exact wpIn_cond_true (oH r.good.jj r.fr hc) (PR s x s' (oz.imp _root_.id fun q=>by simp only[jS,aC]at q;exact q.1) iD.1 e E a w Q r hp)
  . rename_i hc;exact wpIn_cond_false (oH r.good.jj r.fr hc) (PS s x s' (oz.imp _root_.id fun q=>by simp only[jS,aC]at q;exact q.2) iD.2 e E a w Q r hp)
  . cases e
 |block id c ih=>
  intro s x s' oz iD e E a w Q r hp;simp only[eX]at iD;simp only[jb]at e;refine wpIn_block ?_;cases h1:jb P cf F c s with
  |none=>simp[h1]at e
  |some p=>
   obtain⟨x1,s1⟩:=p;refine ih s x1 s1 (oz.imp _root_.id fun q=>by simpa only[jS]using q) iD h1 E a w _ r fun E' a' w' x' u fJ hn r' hx=>?_;cases x1 with
   |normal=>
    simp only[h1,an,aB]at e;obtain⟨rfl,rfl⟩:=e;cases x'<;>first|(exact hx.elim)|skip
    exact hp E' a' w' .normal u fJ hn r' trivial
   |exit i=>
    simp only[h1]at e;cases x'<;>first|(exact hx.elim)|skip
    rename_i j;have Pb:i=j:=hx;subst Pb;simp only[Exit.inBlock];split at e
    . rename_i q;obtain⟨rfl,rfl⟩:=fc e;rw[aG q];exact hp E' a' w' .normal u fJ hn r' trivial
    . rename_i q;obtain⟨rfl,rfl⟩:=fc e;rw[aI q];exact hp E' a' w' (.exit i) u fJ hn r' rfl
   |ret=>
    simp only[h1,an,aB]at e;obtain⟨rfl,rfl⟩:=e;cases x'<;>first|(exact hx.elim)|skip
    exact hp E' a' w' .ret u fJ hn r' trivial
   |panic v=>
    simp only[h1,an,aB]at e;obtain⟨rfl,rfl⟩:=e;cases x'<;>first|(exact hx.elim)|skip
    exact hp E' a' w' (.panic _) u fJ hn r' hx
 |loop c ih=>
  intro s x s' oz iD e E a w Q r hp;simp only[eX]at iD;simp only[jb]at e;refine wpIn_loop_rounds F ?_;have key:∀(k:Nat) (s:St),rounds (jb P cf F c) k s=some (x,s')->∀(E:Env) (a:Act) (w:World),jY E N s a w->H6 E N s w x s' Q->Code.roundsIn (fz uR) 0 P c Q k a w:=by
   intro k
   induction k with
   |zero=>intro s e;cases e
   |succ k ihk=>
    intro s e E a w r hp;simp only[rounds]at e;rw[roundsIn_succ];cases h1:jb P cf F c s with
    |none=>simp[h1]at e
    |some p=>
     obtain⟨x1,s1⟩:=p;refine ih s x1 s1 (oz.imp _root_.id fun q=>by simpa only[jS]using q) iD h1 E a w _ r fun E' a' w' x' u fJ hn r' hx=>?_;cases x1 with
     |normal=>
      simp only[h1]at e;cases x'<;>first|(exact hx.elim)|skip
      exact ihk s1 e E' a' w' r' (hp.after u fJ hn)
     |exit i=>
      simp only[h1,an,aB]at e;obtain⟨rfl,rfl⟩:=e;cases x'<;>first|(exact hx.elim)|skip
      exact hp E' a' w' _ u fJ hn r' hx
     |ret=>
      simp only[h1,an,aB]at e;obtain⟨rfl,rfl⟩:=e;cases x'<;>first|(exact hx.elim)|skip
      exact hp E' a' w' _ u fJ hn r' hx
     |panic v=>
      simp only[h1,an,aB]at e;obtain⟨rfl,rfl⟩:=e;cases x'<;>first|(exact hx.elim)|skip
      exact hp E' a' w' _ u fJ hn r' hx
  exact key F s e E a w r hp
 |exit id=>
  intro s x s' _ _ e E a w Q r hp;simp only[jb,an,aB]at e;obtain⟨rfl,rfl⟩:=e;exact wpIn_exit (hp E a w (.exit id) (ir.refl r.good) (fun _ _=>rfl) (aA _) r rfl)
 |ret=>
  intro s x s' _ _ e E a w Q r hp;simp only[jb,an,aB]at e;obtain⟨rfl,rfl⟩:=e;exact wpIn_ret (hp E a w .ret (ir.refl r.good) (fun _ _=>rfl) (aA _) r trivial)
 |rangeFunc g ps assign body _ _=>
  intro s x s' oz iD e E a w Q r hp;have T9:uR=none:=by
   rcases oz with q|q
   . exact q
   . cases q
  subst T9;exact H8 oF iD e r hp
 |scope c _=>intro s x s' _ _ e;cases e
 |label l=>intro s x s' _ _ e;cases e
 |goto l=>intro s x s' _ _ e;cases e
 |refuse w=>intro s x s' _ _ e;cases e
def CB(tmps:Array Value):ResultVar->Sem Value
 | .tmp t=>pure (tmps.getD t undef)
 | .cell c t=>do loadVar t (<- asAddr (tmps.getD c undef))
theorem Kl(fn:Func)(tmps:Array Value):results fn tmps=(do
  let vs <- fn.results.mapM (CB tmps)
  pure (if h:vs.size=1 then vs[0]else .tuple vs)):=by
 unfold results;congr 1
theorem AR{E:Env}{h:Tr O}{w:World}{fr:Tr V}{a:Act}(g:Good E h w)(r:yJ E fr a):∀(rs:List ResultVar) (vs:ag),lp P fr h rs=some vs->
  ∃Xj,(rs.mapM (CB a.tmps)).run P w= .ok Xj w/\dI E vs Xj
 | [],vs,e=>by simp only[lp,an]at e;subst e;exact⟨[],rfl,rfl⟩
 |x::rs,vs,e=>by
  simp only[lp]at e;cases h1:FR P fr h x with
  |none=>simp[h1]at e
  |some v=>cases h2:lp P fr h rs with
   |none=>simp[h1,h2]at e
   |some us=>
    simp only[h1,h2,an]at e;subst e;obtain⟨us',q1,q2⟩:=AR g r rs us h2;have hv:∃v',(CB a.tmps x).run P w= .ok v' w/\dD E v v':=by
     cases x with
     |tmp t=>
      obtain⟨v',p1,p2⟩:=r t v h1;exact⟨v',by simp[CB,p1],p2⟩
     |cell c t=>
      simp only[FR]at h1;split at h1
      . rename_i u hu;obtain⟨u',p1,p2⟩:=r c u hu;obtain⟨b,sh,rfl,v',p3,p4⟩:=Cd (P:=P) g p2 h1;refine⟨v',?_,p4⟩;simp[CB,p1,asAddr,p3]
      . cases h1
    obtain⟨v',p1,p2⟩:=hv;refine⟨v'::us',?_,v',us',p2,q2,rfl⟩;rw[List.mapM_cons];simp only[Sem.run_bind,p1,q1,Result.andThen_ok,Sem.run_pure]
theorem AS{E:Env}{h:Tr O}{w:World}{fr:Tr V}{a:Act}{fn:Func}{vs:ag}(g:Good E h w)(r:yJ E fr a)(e:lp P fr h fn.results.toList=some vs):
  ∃v',(results fn a.tmps).run P w= .ok v' w/\dD E (oneOf vs) v':=by
 obtain⟨Xj,q1,q2⟩:=AR (P:=P) g r fn.results.toList vs e;have fK:(results fn a.tmps).run P w= .ok (if h:Xj.toArray.size=1 then Xj.toArray[0]else .tuple Xj.toArray) w:=by
  rw[Kl,Array.mapM_eq_mapM_toList];simp only[Sem.run_bind,Sem.run_map,q1,Result.andThen_ok,Sem.run_pure]
 refine⟨_,fK,?_⟩
 match vs,q2 with
 | [],q2=>simp only[dI]at q2;subst q2;exact⟨[],rfl,rfl⟩
 | [v],q2=>
   obtain⟨y,ys,p1,p2,rfl⟩:=q2;simp only[dI]at p2;subst p2;exact p1
 |u::v::us,q2=>
  have Hp:=eL q2;rw[dif_neg (by simp only[List.size_toArray,Hp,aS];omega)];exact⟨Xj,q2,rfl⟩
end
def Gh(E:Env):Mode->FrameMode->Prop
 | .ret,.returning=>True
 | .zM v b,.panicking chain=>∃v',dD E v v'/\chain=[{ v:=v',recovered:=b }]
 |_,_=>False
theorem ER{E E':Env}(h:E.le E'):∀{m:Mode} {u:FrameMode},Gh E m u->Gh E' m u
 | .ret,.returning,_=>trivial
 | .zM _ _,.panicking _,⟨v',r,q⟩=>⟨v',ji h _ _ r,q⟩
 | .ret,.run,r=>r.elim
 | .ret,.panicking _,r=>r.elim
 | .zM _ _,.run,r=>r.elim
 | .zM _ _,.returning,r=>r.elim
def ES(E:Env)(N:Nat)(s:St)(w:World)(x:X)(s':St)(m':Mode)(mU:Frame)(cs:List Frame)(Q:Exit->Act->List Frame->World->Prop):Prop:=
 ∀E' a' w' x' u',ir E s.h w E' s'.h w'->(∀k,k<s.n->E'.ι k=E.ι k)->s.n<=s'.n->jY E' N s' a' w'->NK E' x x'->Gh E' m' u'->Q x' a' ({ mU with mode:=u' }::cs) w'
theorem ES.after{E E1:Env}{N:Nat}{s s1 s':St}{w w1:World}{x:X}{m':Mode}{mU:Frame}{cs:List Frame}{Q:Exit->Act->List Frame->World->Prop}(p:ES E N s w x s' m' mU cs Q)(u:ir E s.h w E1 s1.h w1)
  (fJ:∀k,k<s.n->E1.ι k=E.ι k) (hn:s.n<=s1.n):ES E1 N s1 w1 x s' m' mU cs Q:=
 fun E' a' w' x' u2 u' P6 pE r rx rm=>p E' a' w' x' u2 (u.trans u') (fun k hk=>by rw[P6 k be];exact fJ k hk) be r rx rm
section
variable{P:Program}{cf:fM}{F N:Nat}
theorem Gi(k n:Nat):List.range' k (n+1)=k::List.range' (k+1) n:=by simp[List.range'_succ]
theorem qw{ops:Array Oper}(mU:Frame)(cs:List Frame):∀(l:List Oper) (k:Nat) (s:St) (m:Mode) (x:X) (s':St) (m':Mode),(∀j,l[j]? =ops[k+j]?)->(∀o∈l,nl N o.dst)->qU P cf ops l s m=some (x,s',m')->
  ∀(E:Env) (a:Act) (w:World) (u:FrameMode) (Q:Exit->Act->List Frame->World->Prop),jY E N s a w->Gh E m u->ES E N s w x s' m' mU cs Q->
   wpOpsS P ops Q (List.range' k l.length) a ({ mU with mode:=u }::cs) w
 | [],k,s,m,x,s',m',_,_,e,E,a,w,u,Q,r,rm,hp=>by
   simp only[qU,an,aB]at e;obtain⟨rfl,rfl,rfl⟩:=e;exact hp E a w .normal u (ir.refl r.good) (fun _ _=>rfl) (aA _) r trivial rm
 |o::rest,k,s,m,x,s',m',kJ,uh,e,E,a,w,u,Q,r,rm,hp=>by
  have ho:=uh o (by simp);have uZ:∀o∈rest,nl N o.dst:=fun o h=>uh o (by simp[h]);have Ug:nl a.tmps.size o.dst:=by rw[r.size];exact ho
  have hgr:∀j,rest[j]? =ops[k+1+j]?:=fun j=>by have:=kJ (j+1);simpa[cC,Nat.add_comm 1 j]using this
  have iD:ops[k]? =some o:=by have:=kJ 0;simpa using this.symm
  simp only[qU]at e;simp only[aS,Gi,wpOpsS,iD];have H7:∀b,iy ops o s.fr=some b->Region.wanted o (yielded ops a.tmps)=b:=fun b hb=>xq (E:=E) (fun _ _ _ d _ _ _ v hv=>r.fr d v hv) hb;have Ed:∀y∈o.op.operands,mH E s.fr a.eval y:=fun y _=>iF r.good.jj r.fr y;split at e
  . rename_i hw;rw[aI (by rw[H7 _ hw];simp)];split at e
    . rename_i fr rD;exact qw mU cs rest (k+1) _ m x s' m' hgr uZ e E _ w u Q ⟨r.good,r.oe,jE r.fr rD ⟨[],rfl,rfl⟩ Ug,by rw[iE];exact r.size,by rw[gA];exact r.gz⟩ rm (hp.after (ir.refl r.good) (fun _ _=>rfl) (aA _))
    . cases e
  . rename_i hw;rw[aG (H7 _ hw)];split at e
    . rename_i v h n hs;split at e
      . rename_i fr rD;obtain⟨E',w',v',fK,q1,q2,q3,q4⟩:=mI r.good (r.oe _ (aA _)) Ed hs;have hn:s.n<=n:=by rcases q4 with⟨rfl,_⟩|rfl<;>omega
        have rT:qN E' n:=by
         rcases q4 with⟨rfl,rfl⟩|rfl
         . exact r.oe
         . intro k hk;rw[q3 k be];exact r.oe k be
        have ug:=qw mU cs rest (k+1) _ m x s' m' hgr uZ e E' (a.put o.dst v') w' u Q ⟨q2.good,rT,jE (jW q2.le r.fr) rD q1 Ug,by rw[iE];exact r.size,by rw[gA];exact iT q2.le _ _ r.gz⟩ (ER q2.le rm)
         (hp.after q2 (fun k hk=>q3 k be) hn)
        rcases fK with fK|⟨fK,rfl⟩
        . rw[fK];simp only[Oper.upon_value];exact ug
        . rw[fK];simp only[Oper.upon_skip];exact ug
      . cases e
    . rename_i hs;have fK:=mI r.good (r.oe _ (aA _)) Ed hs;simp only[ki]at fK;rw[fK];simp only;split at e
      . rename_i v;split at e
        . rename_i fr rD;cases u with
          |panicking chain=>
           obtain⟨v',q1,rfl⟩:=rm;simp only[recoverD];exact qw mU cs rest (k+1) _ (.zM v true) x s' m' hgr uZ e E (a.put o.dst v') w (.panicking [{ v:=v',recovered:=true }]) Q ⟨r.good,r.oe,jE r.fr rD q1 Ug,by rw[iE];exact r.size,by rw[gA];exact r.gz⟩ ⟨v',q1,rfl⟩
            (hp.after (ir.refl r.good) (fun _ _=>rfl) (aA _))
          |run=>exact rm.elim
          |returning=>exact rm.elim
        . cases e
      . rename_i hnp;split at e
        . rename_i fr rD;have Ib:recoverD ({ mU with mode:=u }::cs)=none:=by
           cases m with
           |ret=>cases u<;>first|(exact rm.elim)|rfl
           |zM v b=>
            cases b with
            |false=>exact absurd rfl (hnp v)
            |true=>
             cases u with
             |panicking chain=>obtain⟨v',q1,rfl⟩:=rm;rfl
             |run=>exact rm.elim
             |returning=>exact rm.elim
          rw[Ib];exact qw mU cs rest (k+1) _ m x s' m' hgr uZ e E (a.put o.dst .nilIface) w u Q ⟨r.good,r.oe,jE r.fr rD rfl Ug,by rw[iE];exact r.size,by rw[gA];exact r.gz⟩ rm (hp.after (ir.refl r.good) (fun _ _=>rfl) (aA _))
        . cases e
    . cases e
  . cases e
theorem Ee{c:Operand}{x y:Code}{a:Act}{cs:List Frame}{w:World}{Q:Exit->Act->List Frame->World->Prop}(hc:a.eval c= .bool true)(h:x.wpS P Q a cs w):(Code.cond c x y).wpS P Q a cs w:=wpS_cond hc h
theorem CC{c:Operand}{x y:Code}{a:Act}{cs:List Frame}{w:World}{Q:Exit->Act->List Frame->World->Prop}(hc:a.eval c= .bool false)(h:y.wpS P Q a cs w):(Code.cond c x y).wpS P Q a cs w:=wpS_cond hc h
theorem AT(oF:je P cf)(hm:P.follows .mixedOrders=true){c:Code}{s s':St}{x:X}{m m':Mode}(iD:eX N c=true)(e:(match jb P cf F c s with|some (x,s')=>some (x,s',m)|none=>none)=some (x,s',m'))
  {mU:Frame} {cs:List Frame} {E:Env} {a:Act} {w:World} {u:FrameMode} {Q:Exit->Act->List Frame->World->Prop} (r:jY E N s a w) (rm:Gh E m u) (hp:ES E N s w x s' m' mU cs Q):c.wpS P Q a ({ mU with mode:=u }::cs) w:=by
 cases h1:jb P cf F c s with
 |none=>simp[h1]at e
 |some p=>
  obtain⟨x1,s1⟩:=p;simp only[h1,an,aB]at e;obtain⟨rfl,rfl,rfl⟩:=e;exact wpS_of_wp (wpIn_wide.1 (mJ (uR:=none) oF hm c s x1 s1 (.inl rfl) iD h1 E a w _ r fun E' a' w' x' u' fJ hn r' hx=>hp E' a' w' x' u u' fJ hn r' hx (ER u'.le rm)))
theorem AU(oF:je P cf)(hm:P.follows .mixedOrders=true)(mU:Frame)(cs:List Frame):∀(c:Code) (s:St) (m:Mode) (x:X) (s':St) (m':Mode),eX N c=true->tT P cf F c s m=some (x,s',m')->
  ∀(E:Env) (a:Act) (w:World) (u:FrameMode) (Q:Exit->Act->List Frame->World->Prop),jY E N s a w->Gh E m u->ES E N s w x s' m' mU cs Q->c.wpS P Q a ({ mU with mode:=u }::cs) w:=by
 intro c
 induction c with
 |region id ops JR=>
  intro s m x s' m' iD e E a w u Q r rm hp;cases JR with
  |false=>
   simp only[tT]at e;have Uj:=iD;simp only[eX,aC]at Uj;have:=qw (P:=P) (cf:=cf) (ops:=ops) mU cs ops.toList 0 s m x s' m' (fun j=>by simp) (fun o ho d hd=>by
    have:=bq.1 Uj.1 o ho;rw[hd]at this;simpa using this) e E a w u Q r rm hp
   exact wpS_region (by rw[List.range_eq_range',<- Array.length_toList];exact this)
  |true=>
   simp only[tT]at e;exact AT (F:=F) oF hm iD e r rm hp
 |seq c1 c2 PR PS=>
  intro s m x s' m' iD e E a w u Q r rm hp;simp only[eX,aC]at iD;simp only[tT]at e;refine wpS_seq ?_;cases h1:tT P cf F c1 s m with
  |none=>simp[h1]at e
  |some p=>
   obtain⟨x1,s1,m1⟩:=p;refine PR s m x1 s1 m1 iD.1 h1 E a w u _ r rm fun E' a' w' x' u1 uu fJ hn r' hx NO=>?_;cases x1 with
   |normal=>
    simp only[h1]at e;cases x'<;>first|(exact hx.elim)|skip
    exact PS s1 m1 x s' m' iD.2 e E' a' w' u1 Q r' NO (hp.after uu fJ hn)
   |exit i=>
    simp only[h1,an,aB]at e;obtain⟨rfl,rfl,rfl⟩:=e;cases x'<;>first|(exact hx.elim)|skip
    exact hp E' a' w' _ u1 uu fJ hn r' hx NO
   |ret=>
    simp only[h1,an,aB]at e;obtain⟨rfl,rfl,rfl⟩:=e;cases x'<;>first|(exact hx.elim)|skip
    exact hp E' a' w' _ u1 uu fJ hn r' hx NO
   |panic v=>
    simp only[h1,an,aB]at e;obtain⟨rfl,rfl,rfl⟩:=e;cases x'<;>first|(exact hx.elim)|skip
    exact hp E' a' w' _ u1 uu fJ hn r' hx NO
 |cond c c1 c2 PR PS=>
  intro s m x s' m' iD e E a w u Q r rm hp;simp only[eX,aC]at iD;simp only[tT]at e;split at e
  . rename_i hc;exact Ee (oH r.good.jj r.fr hc) (PR s m x s' m' iD.1 e E a w u Q r rm hp)
  . rename_i hc;exact CC (oH r.good.jj r.fr hc) (PS s m x s' m' iD.2 e E a w u Q r rm hp)
  . cases e
 |_=>
  intro s m x s' m' iD e E a w u Q r rm hp;simp only[tT]at e;exact AT (F:=F) oF hm iD e r rm hp
theorem u6:∀(vs:ag) (i:Nat) (t:Tr V) (k:Nat),i+vs.length<fL->(lN vs i t).get k=if i<=k/\k<i+vs.length then vs[k-i]? else t.get k
 | [],i,t,k,_=>by simp only[lN,bQ];rw[aI be]
 |v::vs,i,t,k,h=>by
  simp only[aS]at h;simp only[lN,aS];rw[u6 vs (i+1) _ k be,Tr.eP _ _ _ be];by_cases q:k=i
  . subst q;rw[aI be,aG rfl,aG be];simp
  . rw[aI q];by_cases q2:i+1<=k/\k<i+1+vs.length
    . rw[aG q2,aG be];have:k-i=(k-(i+1))+1:=by omega
      rw[this];simp
    . rw[aI q2,aI be]
theorem tj{E:Env}{args:ag}{c9:List Value}{n:Nat}(r:dI E args c9)(hn:args.length<=n)(ht:n<fL):
  yJ E (lN args 0 .nil) { tmps:=c9.toArray++Array.replicate (n-c9.toArray.size) undef,defers:=[] }/\(c9.toArray++Array.replicate (n-c9.toArray.size) undef).size=n:=by
 have hl:=eL r;refine⟨fun t v hv=>?_,by simp;omega⟩;rw[u6 args 0 .nil t be]at hv;split at hv
 . rename_i hi;obtain⟨v',h1,h2⟩:=gD r _ v hv;refine⟨v',?_,h2⟩;simp only[Nat.sub_zero]at h1;rw[bS (by simp;omega)];simpa using h1
 . cases hv
def lA(P:Program):Bool:=P.funcs.toList.all fun fn=>match fn.body with|some c=>eX fn.ntmps c|none=>true
theorem AV(h:lA P=true){f:FuncId}{fn:Func}{c:Code}(hf:P.funcs[f]? =some fn)(hb:fn.body=some c):eX fn.ntmps c=true:=by
 unfold lA at h;have:=bq.1 h fn (by rw[<- bL]at hf;exact aU hf);rw[hb]at this;exact this
theorem Bt{f:FuncId}{fn:Func}{c:Code}{args:Array Value}{u:FrameMode}{w:World}{R:Ending->FrameMode->World->Prop}
  (hf:P.funcs[f]? =some fn) (hb:fn.body=some c)
  (h:∀(mU:Frame) (cs:List Frame),mU.mode=u->
   c.wpS P (bodyPostS P fn mU cs R) { tmps:=args++Array.replicate (fn.ntmps-args.size) undef,defers:=[] } (mU::cs) w):
  CallsDIn Fence.wide (0-1) P f args u w R:=by
 refine⟨trivial,fun mU cs hu _=>?_⟩
 let b:Frame:={ (default:Frame)with fn:=f,kind:=.deferred }
 have Y9:Frame.enter P f args .deferred=
   b.at { tmps:=args++Array.replicate (fn.ntmps-args.size) undef,defers:=[] } [.code c]:=by
  simp[Frame.enter,Frame.at,hf,hb,b]
 obtain⟨e,a',cs',w',hq,Qa⟩:=h mU cs hu b [] rfl rfl;rw[<- Y9]at Qa;cases e with
 |normal=>
  obtain⟨hd,u',rfl,v,hr,hR⟩:=hq;exact⟨.returned v,u',w',_,hR,comesIn_wide.2 (Steps.trans Qa (.one step_end)),rfl,rfl,rfl,hd,fn,hf,hr⟩
 |ret=>
  obtain⟨hd,u',rfl,v,hr,hR⟩:=hq;obtain⟨ajs,hs⟩:=Qa;exact⟨.returned v,u',w',_,hR,comesIn_wide.2 hs,rfl,rfl,rfl,hd,fn,hf,hr⟩
 |panic chain=>
  obtain⟨hd,u',rfl,hR⟩:=hq;obtain⟨ajs,hs⟩:=Qa;exact⟨.panicked chain,u',w',_,hR,comesIn_wide.2 hs,rfl,rfl,rfl,hd,fn,hf⟩
 |exit id=>exact hq.elim
 |goto l=>exact hq.elim
 |outgrown=>
  obtain⟨u',hR⟩:=hq;exact⟨.outgrown,u',w',b,hR,comesIn_wide.2 (Qa.resolve_left (by simp[b])),rfl,rfl,trivial⟩
theorem qW(oF:je P cf)(hm:P.follows .mixedOrders=true)(xB:lA P=true){fn:Func}{fr:Tr V}{a:Act}:∀(ds:List (FuncId×ag×ag)) (m:Mode) (h:Tr O) (n:Nat) (tY:Ps) (h':Tr O) (n':Nat),
  nI P cf F fn fr ds m h n=some (tY,h',n')->∀(E:Env) (w:World) (ds':List Deferred) (u:FrameMode) (R:Ending->World->Prop),Good E h w->qN E n->yJ E fr a->wQ E ds ds'->Gh E m u->
   (∀E' w' en,ir E h w E' h' w'->(∀k,k<n->E'.ι k=E.ι k)->qN E' n'->n<=n'->tf E' tY en->R en w')->LeavesInM Fence.wide 0 P fn a.tmps R ds' u w
 | [],m,h,n,tY,h',n',e,E,w,ds',u,R,g,hd,hf,Xt,rm,hR=>by
   simp only[wQ]at Xt;subst Xt;cases m with
   |ret=>
    cases u<;>first|(exact rm.elim)|skip
    simp only[nI]at e;split at e
    . rename_i vs hr;simp only[an,aB]at e;obtain⟨rfl,rfl,rfl⟩:=e;obtain⟨v',h1,h2⟩:=AS (P:=P) g hf hr;exact⟨v',h1,hR E w _ (ir.refl g) (fun _ _=>rfl) hd (aA _) h2⟩
    . cases e
   |zM v b=>
    cases u with
    |panicking chain=>
     obtain⟨v',q1,rfl⟩:=rm;cases b with
     |false=>
      simp only[nI,an,aB]at e;obtain⟨rfl,rfl,rfl⟩:=e;exact hR E w _ (ir.refl g) (fun _ _=>rfl) hd (aA _) ⟨v',q1,rfl⟩
     |true=>cases e
    |run=>exact rm.elim
    |returning=>exact rm.elim
 |(gf,c,args)::ds,m,h,n,tY,h',n',e,E,w,ds',u,R,g,hd,hf,Xt,rm,hR=>by
  obtain⟨d,ys,Qb,r3,rfl⟩:=Xt;simp only[nI]at e;have adC:u≠ .run:=by intro q;subst q;cases m<;>exact rm.elim
  split at e
  ·
   rename_i gJ;rcases Qb with⟨q,_⟩|⟨_,m0,b,s0,ha,iY,rfl⟩
   . exact absurd q (Nat.not_lt.2 gJ)
   simp only at ha;subst ha;simp only at e;split at e
   . rename_i TH;split at e
     . rename_i fF;obtain⟨b',s',q1,q2⟩:=g.rel _ _ TH;rw[iY]at q1;cases q1;have uk:ir E h w E (h.set m0 none) (w.putObj b (.deferred none)):=ir.kill g fF ⟨_,TH,rfl⟩ iY (by simp) rfl rfl rfl fun x hx=>World.putObj_heap_other hx;exact⟨adC,.inl ⟨b,_,rfl,run_takeDeferred q2,qW oF hm xB ds m _ n tY h' n' e E _ ys u R uk.good hd hf r3 rm fun E2 w2 en u2 qv Ge xl ho=>hR E2 w2 en (uk.trans u2) qv Ge xl ho⟩⟩
     . cases e
   . cases e
  rename_i gJ;obtain⟨c',c9,r1,r2,rfl⟩:∃c' c9,dI E c c'/\dI E args c9/\d={ target:=.fn (.func gf) c'.toArray,args:=c9.toArray }:=by
   rcases Qb with⟨_,q⟩|⟨q,_⟩
   . exact q
   . exact absurd (Nat.le_of_eq q.symm) gJ
  split at e
  . rename_i gn hgn;split at e
    . rename_i code hb;split at e
      . rename_i hq;obtain⟨uQ,iS,gJ⟩:=hq;have hvr:=iz r2 r1;obtain⟨x8,lW⟩:=tj (n:=gn.ntmps) hvr iS gJ;have ET:=AV xB hgn hb;have next:∀(s':St) (m':Mode) (vs:ag),s'.gz=[]->lp P s'.fr s'.h gn.results.toList=some vs->nI P cf F fn fr ds (match m' with | .zM _ true=>.ret|m=>m) s'.h s'.n=some (tY,h',n')->
          ∀E' (a':Act) w' u',ir E h w E' s'.h w'->(∀k,k<n->E'.ι k=E.ι k)->n<=s'.n->jY E' gn.ntmps s' a' w'->Gh E' m' u'->
          a'.defers=[]/\∃v,(results gn a'.tmps).run P w'= .ok v w'/\LeavesInM Fence.wide 0 P fn a.tmps R ys (settle u') w':=by
         intro s' m' vs TH Nq FX E' a' w' u' uu fJ hn r' NO;have ajt:a'.defers=[]:=by have:=r'.gz;rw[TH]at this;exact this
         obtain⟨v',p1,p2⟩:=AS (P:=P) r'.good r'.fr Nq;refine⟨ajt,v',p1,?_⟩;refine qW oF hm xB ds _ s'.h s'.n tY h' n' FX E' w' ys (settle u') R r'.good r'.oe (jW uu.le hf) (iT uu.le _ _ r3) ?_ fun E2 w2 en u2 qv Ge xl ho=>hR E2 w2 en (uu.trans u2) (fun k hk=>by rw[qv k be];exact fJ k hk) Ge be ho;cases m' with
         |ret=>cases u'<;>first|(exact NO.elim)|trivial
         |zM v b=>
          cases u' with
          |panicking chain=>
           obtain⟨v2,q1,rfl⟩:=NO;cases b with
           |false=>exact⟨v2,q1,rfl⟩
           |true=>trivial
          |run=>exact NO.elim
          |returning=>exact NO.elim
        have P7:(invoke (.fn (.func gf) c'.toArray) c9.toArray).run P w= .ok (.enter gf (c9++c').toArray) w:=by
         simp only[invoke];have:c9.toArray++c'.toArray=(c9++c').toArray:=by simp
         rw[this];exact pR uQ
        refine⟨adC,.inr ⟨fun hd=>by simp[Fence.wide]at hd,_,_,gf,_,rfl,P7,fun _ _=>trivial,Bt hgn hb fun mU cs adD=>?_⟩⟩;have s7:mU={ mU with mode:=u }:=by subst adD;rfl
        rw[s7];have NP:jY E gn.ntmps { fr:=lN (args++c) 0 .nil,h:=h,n:=n,gz:=[] } { tmps:=(c9++c').toArray++Array.replicate (gn.ntmps-(c9++c').toArray.size) undef,defers:=[] } w:=⟨g,hd,x8,lW,rfl⟩;split at e
        . rename_i s' m' hx;split at e
          . rename_i TH;split at e
            . rename_i vs Nq;refine AU oF hm mU cs code _ m .normal s' m' ET hx E _ w u _ NP rm fun E' a' w' x' u' uu fJ hn r' sJ NO=>?_;cases x'<;>first|(exact sJ.elim)|skip
              obtain⟨k1,v,k2,k3⟩:=next s' m' vs TH Nq e E' a' w' u' uu fJ hn r' NO
              exact⟨k1,u',rfl,v,k2,k3⟩
            . cases e
          . cases e
        . rename_i s' m' hx;split at e
          . rename_i TH;split at e
            . rename_i vs Nq;refine AU oF hm mU cs code _ m .ret s' m' ET hx E _ w u _ NP rm fun E' a' w' x' u' uu fJ hn r' sJ NO=>?_;cases x'<;>first|(exact sJ.elim)|skip
              obtain⟨k1,v,k2,k3⟩:=next s' m' vs TH Nq e E' a' w' u' uu fJ hn r' NO
              exact⟨k1,u',rfl,v,k2,k3⟩
            . cases e
          . cases e
        . cases e
      . cases e
    . cases e
  . cases e
theorem Ic(oF:je P cf)(hm:P.follows .mixedOrders=true)(xB:lA P=true){f:FuncId}{args:ag}{h:Tr O}{n:Nat}{tY:Ps}{h':Tr O}{n':Nat}(e:enter P cf F f args h n=some (tY,h',n'))
  {E:Env} {w:World} {c9:List Value} (ra:dI E args c9) (g:Good E h w) (hd:qN E n):Calls P f c9.toArray w (jX E h n w tY h' n'):=by
 unfold enter at e;split at e
 . rename_i fn hf;split at e
   . rename_i code hb;split at e
     . rename_i hq;obtain⟨x8,lW⟩:=tj (n:=fn.ntmps) ra hq.1 hq.2;have ET:=AV xB hf hb;have NP:jY E fn.ntmps { fr:=lN args 0 .nil,h:=h,n:=n,gz:=[] } { tmps:=c9.toArray++Array.replicate (fn.ntmps-c9.toArray.size) undef,defers:=[] } w:=⟨g,hd,x8,lW,rfl⟩;refine callsIn_wide.1 (callsIn_of_wp_marks (n:=0) hf hb trivial ?_);have EH:∀(s:St) (m:Mode) (u:FrameMode) (E':Env) (a':Act) (w':World),nI P cf F fn s.fr s.gz m s.h s.n=some (tY,h',n')->ir E h w E' s.h w'->(∀k,k<n->E'.ι k=E.ι k)->n<=s.n->jY E' fn.ntmps s a' w'->Gh E' m u->
         LeavesInM Fence.wide 0 P fn a'.tmps (jX E h n w tY h' n') a'.defers u w':=by
        intro s m u E' a' w' hl uu fJ hn r' rm;exact qW oF hm xB s.gz m s.h s.n tY h' n' hl E' w' a'.defers u _ r'.good r'.oe r'.fr r'.gz rm fun E2 w2 en u2 qv Ge xl ho=>⟨E2,uu.trans u2,fun k hk=>by rw[qv k be];exact fJ k hk,Ge,be,ho⟩
       split at e
       . rename_i s hx;refine mJ (uR:=none) oF hm code _ _ s (.inl rfl) ET hx E _ w _ NP fun E' a' w' x' uu fJ hn r' sJ=>?_;cases x'<;>first|(exact sJ.elim)|skip
         exact EH s .ret .returning E' a' w' e uu fJ hn r' trivial
       . rename_i s hx;refine mJ (uR:=none) oF hm code _ _ s (.inl rfl) ET hx E _ w _ NP fun E' a' w' x' uu fJ hn r' sJ=>?_;cases x'<;>first|(exact sJ.elim)|skip
         exact EH s .ret .returning E' a' w' e uu fJ hn r' trivial
       . rename_i v s hx;refine mJ (uR:=none) oF hm code _ _ s (.inl rfl) ET hx E _ w _ NP fun E' a' w' x' uu fJ hn r' sJ=>?_;cases x'<;>first|(exact sJ.elim)|skip
         exact EH s (.zM v false) _ E' a' w' e uu fJ hn r' sJ
       . cases e
     . cases e
   . cases e
 . cases e
theorem CD{E:Env}:∀(ps:List Nat) (args:ag) (c9:List Value) (fr zO:Tr V) (t:Array Value),xe (JQ ps args) fr=some zO->dI E args c9->(∀p∈ps,p<t.size)->Pv E fr t->
  Pv E zO ((ps.zip c9).foldl (fun t (p,v)=>t.setIfInBounds p v) t)/\((ps.zip c9).foldl (fun t (p,v)=>t.setIfInBounds p v) t).size=t.size
 | [],args,c9,fr,zO,t,e,_,_,r=>by simp only[JQ,xe,an]at e;subst e;exact⟨by simpa using r,by simp⟩
 |p::ps,[],c9,fr,zO,t,e,ra,_,r=>by
  simp only[JQ,xe,an]at e;subst e;simp only[dI]at ra;subst ra;exact⟨by simpa using r,by simp⟩
 |p::ps,v::vs,c9,fr,zO,t,e,ra,hp,r=>by
  obtain⟨y,ys,r0,rs,rfl⟩:=ra;simp only[JQ,xe]at e;split at e
  . rename_i fF;have Za:=hp p (by simp);have h2:=CD ps vs ys _ zO (t.setIfInBounds p y) e rs (fun q hq=>by simpa using hp q (by simp[hq])) (fun k x hx=>by
     rw[Tr.eP _ _ _ fF]at hx;by_cases q:k=p
     . subst q;rw[aG rfl]at hx;cases hx;exact⟨y,by simp[Za],r0⟩
     . rw[aI q]at hx;obtain⟨x',k1,k2⟩:=r k x hx;exact⟨x',by rw[Array.getElem?_setIfInBounds_ne (Ne.symm q)];exact k1,k2⟩)
    simp only[List.zip_cons_cons,List.foldl_cons];exact⟨h2.1,by rw[h2.2];simp⟩
  . cases e
theorem NQ(ps:Array Nat)(args:List Value)(t:Array Value):(ps.zip args.toArray).foldl (fun t (p,v)=>t.setIfInBounds p v) t=(ps.toList.zip args).foldl (fun t (p,v)=>t.setIfInBounds p v) t:=by
 rw[<- Array.foldl_toList];congr 1;simp
theorem Ie(oF:je P cf)(hm:P.follows .mixedOrders=true){m:Nat}{args:ag}{h:Tr O}{n:Nat}{tY:Ps}{h':Tr O}{n':Nat}(e:xg P cf F m args h n=some (tY,h',n'))
  {E:Env} {w:World} {c9:List Value} (ra:dI E args c9) (g:Good E h w) (hd:qN E n) {l s0:Nat} (iY:E.ι m=some (l,s0)):YieldAt Fence.wide 0 P l c9.toArray w (jX E h n w tY h' n'):=by
 unfold xg at e;split at e
 case h_2=>cases e
 rename_i fr ps assign body kJ;split at e
 case isFalse=>cases e
 rename_i hq;obtain⟨yP,oz,hpa,hpb⟩:=hq;split at e
 case h_2=>cases e
 rename_i zO rD;obtain⟨b,s',q1,r,hb,Bm,hpe,Ho,ajv,ajw,htr,Zb,z8,adE⟩:=g.rel _ _ kJ;rw[iY]at q1;cases q1;simp only[if_true]at Bm;subst Ho;subst ajv;subst ajw;have hlw:l<w.heap.size:=(aQ.1 hb).1;have Xu:eC h m:=⟨_,kJ,rfl⟩;have fK:=run_yield (P:=P) (args:=c9.toArray) hb (by simp[eL ra,<- oz]);refine⟨_,_,_,_,fK,roundIn_of_wpIn trivial ?_⟩;rw[NQ];obtain⟨ajx,Ea⟩:=CD r.params.toList args c9 fr zO r.tmps rD ra adE htr;have tc:∀k o,(h.set m none).get k=some o->k≠m/\h.get k=some o:=by
  intro k o hk;rw[Tr.eP _ _ _ yP]at hk;split at hk
  . cases hk
  . rename_i q;exact⟨q,hk⟩
 have CE:∀k o,(h.set m none).get k=some o->h.get k=some o:=fun k o q=>(tc k o q).2;split at e
 case h_2=>cases e
 rename_i s1 T6;refine mJ (uR:=some l) oF hm r.assign _ _ s1 (.inr hpa) (by rw[<- Ea]at Zb;exact Zb) T6 E _ w _ ⟨g.sub CE,hd,ajx,rfl,rfl⟩ fun E1 a1 w1 x1 u1 EU DW r1 ajy=>?_;cases x1<;>first|(exact ajy.elim)|skip
 have nl0:∀k t,(h.set m none).get k≠none->E.ι k≠some (l,t):=by
  intro k t hk q;obtain⟨o,ho⟩:=bf.1 hk;obtain⟨c1,c2⟩:=tc k o ho;exact g.inj m k l s0 t (fun q=>c1 q.symm) Xu (by rw[c2];simp) iY q
 have nl1:∀k t,s1.h.get k≠none->E1.ι k≠some (l,t):=by
  intro k t hk q;obtain⟨m0,t0,c1,c2,_⟩:=u1.sR k l t hk q hlw;exact nl0 m0 t0 c1 c2
 have yA:w1.heap[l]? =some (.loop r):=(u1.keep l hlw fun k t hk=>nl0 k t hk.live).trans hb;have NR:l<w1.heap.size:=(aQ.1 yA).1;refine⟨_,run_beginRound yA Bm,?_⟩;generalize Pd:w1.putObj l (.loop { r with state:=.busy })=w2;have HG:w2.heap[l]? =some (.loop { r with state:=.busy }):=by rw[<- Pd];exact World.putObj_heap_same NR
 have HL:w2.heap.size=w1.heap.size:=by rw[<- Pd];simp
 have Qc:∀k,k≠l->w2.heap[k]? =w1.heap[k]?:=fun k hk=>by rw[<- Pd];exact World.putObj_heap_other hk
 have qx:Good E1 s1.h w2:=by
  refine⟨fun k o hk=>?_,u1.good.inj,fun k b s hk=>by rw[HL];exact u1.good.mW k b s hk,u1.good.jj,fun b c hc=>⟨?_,(u1.good.gP b c hc).2⟩⟩
  case refine_2=>
   obtain⟨⟨el,fz,l9⟩,_⟩:=u1.good.gP b c hc;rw[Qc b fun q=>by rw[q,yA]at l9;cases l9];exact⟨el,fz,l9⟩
  obtain⟨b,s,k1,k2⟩:=u1.good.rel k o hk;have fN:b≠l:=by intro q;subst q;exact nl1 k s (by rw[hk];simp) k1
  exact⟨b,s,k1,ij E1.le_refl rfl (Qc b fN) k2⟩
 have hN1:a1.tmps.size=r.tmps.size:=by
  exact r1.size.trans Ea
 have rest:∀(x:X) (s2:St),jb P cf F r.body s1=some (x,s2)->∀(st:Bool) (pe:Option Code) (Q:Exit->Act->World->Prop),
   (∀x' E2 a2 w3,NK E2 x x'->((Instr.endRound l pe).run P w3= .ok (.bool pe.isNone) (w3.putObj l (.loop { r with state:=if pe.isNone then .ready else .done,pending:=pe }))->
    (pe.isNone=st->ir E h w E2 (s2.h.set m (some (.loop st pe fr r.params.toList r.assign r.body))) (w3.putObj l (.loop { r with state:=if pe.isNone then .ready else .done,pending:=pe })))->qN E2 s2.n->n<=s2.n->(∀k,k<n->E2.ι k=E.ι k)->Q x' a2 w3))->
   r.body.wpIn (fz (some l)) 0 P Q a1 w2:=by
  intro x s2 Qd st pe Q hQ;refine mJ (uR:=some l) oF hm r.body s1 x s2 (.inr hpb) z8 Qd E1 a1 w2 Q ⟨qx,r1.oe,r1.fr,hN1,r1.gz⟩ fun E2 a2 w3 x' u2 qv xl r2 sJ=>?_;refine hQ x' E2 a2 w3 sJ ?_ ?_ r2.oe (bV DW xl) (fun k hk=>by rw[qv k (bE hk DW)];exact EU k hk)
  . have hb3:w3.heap[l]? =some (.loop { r with state:=.busy }):=(u2.keep l (by rw[HL];exact NR) fun k t hk=>nl1 k t hk.live).trans HG;exact run_endRound (P:=P) (r:={ r with state:=.busy }) pe hb3
  . intro ajz;have nl2:∀k t,s2.h.get k≠none->E2.ι k≠some (l,t):=by
     intro k t hk q;obtain⟨m0,t0,c1,c2,_⟩:=u2.sR k l t hk q (by rw[HL];exact NR);exact nl1 m0 t0 c1 c2
    have hb3:w3.heap[l]? =some (.loop { r with state:=.busy }):=(u2.keep l (by rw[HL];exact NR) fun k t hk=>nl1 k t hk.live).trans HG;have Y8:l<w3.heap.size:=(aQ.1 hb3).1;have kE:E.le E2:=Env.le_trans u1.le u2.le;have Qe:E2.ι m=some (l,s0):=(kE.nm m l s0 iY).1;generalize Ef:({ r with state:=if pe.isNone then .ready else .done,pending:=pe }:Loop)=r4;have adF:(w3.putObj l (.loop r4)).heap.size=w3.heap.size:=by simp
    have Qf:∀k,k≠l->(w3.putObj l (.loop r4)).heap[k]? =w3.heap[k]?:=fun k hk=>World.putObj_heap_other hk;have sV:lU E2 (w3.putObj l (.loop r4)) l s0 (.loop st pe fr r.params.toList r.assign r.body):=by
     refine⟨r4,World.putObj_heap_same Y8,?_,?_,?_,?_,?_,?_,?_⟩
     . rw[<- Ef,<- ajz]
     . rw[<- Ef]
     . rw[<- Ef]
     . rw[<- Ef]
     . rw[<- Ef]
     . rw[<- Ef];exact vP kE htr
     . rw[<- Ef];exact⟨Zb,z8,adE⟩
    have qy:∀k o,(s2.h.set m (some (.loop st pe fr r.params.toList r.assign r.body))).get k=some o->(k=m/\o= .loop st pe fr r.params.toList r.assign r.body)\/(k≠m/\s2.h.get k=some o):=by
     intro k o q;rw[Tr.eP _ _ _ yP]at q;split at q
     . rename_i c;cases q;exact .inl ⟨c,rfl⟩
     . rename_i c;exact .inr ⟨c,q⟩
    have Qg:∀b c,E2.φ b=some c->b≠l:=fun b c hc q=>by
     obtain⟨⟨el,fz,l9⟩,_⟩:=u2.good.gP b c hc;rw[q,hb3]at l9;cases l9
    refine⟨kE,⟨?_,?_,?_,u2.good.jj,fun b c hc=>⟨by rw[Qf b (Qg b c hc)];exact(u2.good.gP b c hc).1,fun k t hk q0=>?_⟩⟩,?_,?_,?_,?_,?_,?_,?_⟩
    case refine_4=>
     obtain⟨o,hk,ho⟩:=hk;rcases qy k o hk with⟨rfl,rfl⟩|⟨c',q⟩
     . rw[Qe]at q0;cases q0;exact Qg _ c hc rfl
     . exact(u2.good.gP b c hc).2 k t ⟨o,q,ho⟩ q0
    case refine_11=>
     intro b c hc;rcases u2.DV b c hc with q|q|⟨m1,t1,q1,q2⟩
     . rcases u1.DV b c q with q|q|⟨m0,t0,q1,q2⟩
       . exact .inl q
       . exact .inr (.inl q)
       . exact .inr (.inr ⟨m0,t0,gw CE q1,q2⟩)
     . have c1:=u1.size;exact .inr (.inl be)
     . rcases bP b w.heap.size with Gb|Gb
       . obtain⟨m0,t0,_,f2,f3⟩:=u1.sR m1 b t1 q1.live q2 Gb;exact .inr (.inr ⟨m0,t0,gw CE (f3 q1),f2⟩)
       . exact .inr (.inl Gb)
    . intro k o q;rcases qy k o q with⟨rfl,rfl⟩|⟨c,q⟩
      . exact⟨l,s0,Qe,sV⟩
      . obtain⟨b,t,k1,k2⟩:=u2.good.rel k o q;have fN:b≠l:=by intro c;subst c;exact nl2 k t (by rw[q];simp) k1
        exact⟨b,t,k1,ij E2.le_refl rfl (Qf b fN) k2⟩
    . intro k k' b t t' fN hk uo e1 e2;obtain⟨o,hk,ho⟩:=hk;obtain⟨o',uo⟩:=bf.1 uo;rcases qy k o hk with⟨rfl,rfl⟩|⟨c,q⟩
      . rcases qy k' o' uo with⟨rfl,rfl⟩|⟨c',q'⟩
        . exact fN rfl
        . rw[Qe]at e1;cases e1;exact nl2 k' t' (by rw[q'];simp) e2
      . rcases qy k' o' uo with⟨rfl,rfl⟩|⟨c',q'⟩
        . rw[Qe]at e2;cases e2;exact nl2 k t (by rw[q];simp) e1
        . exact u2.good.inj k k' b t t' fN ⟨o,q,ho⟩ (by rw[q'];simp) e1 e2
    . intro k b t q;rw[adF];exact u2.good.mW k b t q
    . rw[adF];have c1:=u1.size;have c2:=u2.size;omega
    . exact u2.tape.trans (by rw[<- Pd];exact u1.tape)
    . exact u2.os.trans (by rw[<- Pd];exact u1.os)
    . exact u2.output.trans (by rw[<- Pd];exact u1.output)
    . intro b Gb tV;have fN:b≠l:=by intro c;subst c;exact tV m s0 Xu iY
      have c1:=u1.size;rw[Qf b fN,u2.keep b be ?_,Qc b fN,u1.keep b Gb ?_]
      . intro k t hk q;exact tV k t (gw CE hk) q
      . intro k t hk q;obtain⟨m0,t0,d1,d2,d3⟩:=u1.sR k b t hk.live q Gb;exact tV m0 t0 (gw CE (d3 hk)) d2
    . intro k b t hk q Gb;obtain⟨o,hk⟩:=bf.1 hk;have c1:=u1.size;rcases qy k o hk with⟨rfl,rfl⟩|⟨c,qk⟩
      . rw[Qe]at q;cases q;exact⟨k,s0,Xu.live,iY,fun _=>Xu⟩
      . obtain⟨m1,t1,d1,d2,d3⟩:=u2.sR k b t (by rw[qk];simp) q be;obtain⟨m0,t0,f1,f2,f3⟩:=u1.sR m1 b t1 d1 d2 Gb;exact⟨m0,t0,ng CE f1,f2,fun z=>gw CE (f3 (d3 (oC yP z c)))⟩
 split at e
 . rename_i s2 Qd;simp only[an,aB]at e;obtain⟨rfl,rfl,rfl⟩:=e;refine rest _ s2 Qd true none _ fun x' E2 a2 w3 sJ fK hu rT hn fJ=>?_;cases x'<;>first|(exact sJ.elim)|skip
   exact⟨_,_,fK,E2,hu rfl,fJ,rT,hn,rfl⟩
 . rename_i s2 Qd;simp only[an,aB]at e;obtain⟨rfl,rfl,rfl⟩:=e;refine rest _ s2 Qd false (some .ret) _ fun x' E2 a2 w3 sJ fK hu rT hn fJ=>?_;cases x'<;>first|(exact sJ.elim)|skip
   exact⟨_,_,fK,E2,hu rfl,fJ,rT,hn,rfl⟩
 . rename_i j s2 Qd;simp only[an,aB]at e;obtain⟨rfl,rfl,rfl⟩:=e;refine rest _ s2 Qd false (some (.exit j)) _ fun x' E2 a2 w3 sJ fK hu rT hn fJ=>?_;cases x'<;>first|(exact sJ.elim)|skip
   have:_=j:=sJ.symm;subst this;exact⟨_,_,fK,E2,hu rfl,fJ,rT,hn,rfl⟩
 . cases e
theorem Uk(oF:je P cf)(hm:P.follows .mixedOrders=true)(xB:lA P=true):je P (fun f args h n=>if f<P.funcs.size then enter P cf F f args h n else xg P cf F (f-P.funcs.size) args h n):=by
 intro f args h n tY h' n' e E w c9 ra g hd;simp only at e;split at e
 . rename_i fF;exact⟨fun _=>Ic oF hm xB e ra g hd,fun m l s hf _=>absurd fF (by rw[hf];exact Nat.not_lt.2 (Nat.le_add_right _ _))⟩
 . rename_i zJ;refine⟨fun hc=>?_,fun m l s hf iY=>?_⟩
   . exfalso;unfold callee at hc;rw[Array.getElem?_eq_none (Nat.not_lt.1 zJ)]at hc;cases hc
   . subst hf;rw[Nat.add_sub_cancel_left]at e;exact Ie oF hm e ra g hd iY
end
open Go.RowKit
def CF:List (Nat×Nat)->Nat->Option (Nat×Nat)
 | [],_=>none
 |p::r,m=>if p.2=m then some (p.1,0)else CF r m
def gN:Nat:=jR.length
theorem rU:∀{l:List (Nat×Nat)} {m:Nat} {q:Nat×Nat},CF l m=some q->∃p∈l,p.2=m/\q=(p.1,0)
 | [],_,_,h=>by cases h
 |p::r,m,q,h=>by
  unfold CF at h;split at h
  . rename_i hb;cases h;exact⟨p,by simp,hb,rfl⟩
  . obtain⟨p',h1,h2⟩:=rU h;exact⟨p',aJ _ h1,h2⟩
theorem CG:∀{l:List (Nat×Nat)} {p:Nat×Nat},p∈l->(l.map (·.2)).Nodup->CF l p.2=some (p.1,0)
 |q::r,p,h,hn=>by
  unfold CF;rcases aE.1 h with rfl|h
  . rw[aG rfl]
  . simp only[bN,cg]at hn;rw[aI (fun e=>hn.1 (by rw[e];exact List.mem_map_of_mem h))];exact CG h hn.2
theorem Me:(jR.map (·.2)).Nodup:=by
 have h:jR.map (·.2)=List.range jR.length:=by decide
 rw[h];exact List.nodup_range
section
variable(φ:Nat->Option (Array Value)){E:Env}(w:World){h:Tr O}
theorem BD{p:Nat×Nat}(h:p∈jR):p.2<gN:=by
 have e:jR.map (·.2)=List.range jR.length:=by decide
 have:=List.mem_map_of_mem (f:=(·.2)) h;rw[e]at this;exact List.mem_range.1 this
def Ul:Env:=⟨fun m=>CF jR m,fun _=>0,φ⟩
def E0:Env:=Ul fun _=>none
def Zc:Prop:=∀b c,φ b=some c->∃el fz,w.heap[b]? =some (.cells c el fz)
theorem Good.fz{w:World}(g:Good E h w):Zc E.φ w:=fun b c q=>(g.gP b c q).1
theorem ajB:GE (Ul φ):=fun p hp=>CG hp Me
def WG:Prop:=∀p∈jR,p.1<w.heap.size
theorem Good.wg{w:World}(g:Good E h w):WG w:=fun p hp=>g.mW _ _ _ (g.jj p hp)
end
section
variable{φ:Nat->Option (Array Value)}{w:World}{n:Nat}
theorem Qh(hw:WG w)(kX:Zc φ w):Good (Ul φ) .nil w:=⟨fun m o h=>by simp[Tr.get]at h,fun m _ _ _ _ _ h=>absurd rfl h.live,fun m b s h=>by obtain⟨p,h1,_,h2⟩:=rU h;cases h2;exact hw p h1,ajB φ,fun b c q=>⟨kX b c q,fun m s h=>absurd rfl h.live⟩⟩
theorem adG(hw:WG w):Good E0 .nil w:=Qh hw fun _ _ q=>by cases q
theorem Xv(hn:gN<=n):qN (Ul φ) n:=fun m hm=>by
 cases q:(Ul φ).ι m with
 |none=>rfl
 |some _=>obtain⟨p',h1,h2,_⟩:=rU q;have:=BD h1;omega
theorem ajC(hn:gN<=n):qN E0 n:=Xv hn
end
mutual
def V.free:V->Bool
 | .ptr (some _)=>false
 | .dj (some _) _ _ _=>false
 | .map (some _)=>false
 | .fn f a c=>vM f&&(V.wR a&&V.wR c)
 | .iface _ x=>V.free x
 | .agg cs=>V.wR cs
 | .ew cs=>V.wR cs
 | .dO _ 0 []=>true
 | .dO _ _ _=>false
 | .dm _=>false
 |_=>true
def V.wR:ag->Bool
 | []=>true
 |x::xs=>V.free x&&V.wR xs
end
mutual
theorem CH{E E':Env}:∀(v:V) (v':Value),v.free=true->dD E v v'->dD E' v v'
 | .bool _,_,_,r=>r
 | .int _ _,_,_,r=>r
 | .str _,_,_,r=>r
 | .ptr none,_,_,r=>r
 | .ptr (some _),_,h,_=>by simp[V.free]at h
 | .dj none _ _ _,_,_,r=>r
 | .dj (some _) _ _ _,_,h,_=>by simp[V.free]at h
 | .map none,_,_,r=>r
 | .map (some _),_,h,_=>by simp[V.free]at h
 | .fn f a c,_,h,⟨f',a',c',rf,ra,rc,q⟩=>by
   simp only[V.free,aC]at h;refine⟨f',a',c',?_,mP a a' h.2.1 ra,mP c c' h.2.2 rc,q⟩;cases f<;>first|exact rf|(simp[vM]at h;done)
 | .kG,_,_,r=>r
 | .iface _ x,_,h,⟨x',r,q⟩=>⟨x',CH x x' (by simpa only[V.free]using h) r,q⟩
 | .nilIface,_,_,r=>r
 | .agg cs,_,h,⟨cs',r,q⟩=>⟨cs',mP cs cs' (by simpa only[V.free]using h) r,q⟩
 | .ew cs,_,h,⟨cs',r,q⟩=>⟨cs',mP cs cs' (by simpa only[V.free]using h) r,q⟩
 | .dO f 0 [],_,_,r=>by
   obtain⟨⟨a,cP,vs,h1,h2,h3,h4,h5⟩,h6⟩:=r;exact⟨⟨a,cP,vs,h1,h2,h3,h4,fun q=>absurd q (cF _)⟩,h6⟩
 | .dO f 0 (_::_),_,h,_=>by simp[V.free]at h
 | .dO f (_+1) _,_,h,_=>by simp[V.free]at h
 | .dm _,_,h,_=>by simp[V.free]at h
theorem mP{E E':Env}:∀(v:ag) (v':List Value),V.wR v=true->dI E v v'->dI E' v v'
 | [],_,_,r=>r
 |x::xs,_,h,⟨y,ys,r,rs,q⟩=>by
  simp only[V.wR,aC]at h;exact⟨y,ys,CH x y h.1 r,mP xs ys h.2 rs,q⟩
end
theorem Good.below{E:Env}{h:Tr O}{w w':World}(g:Good E h w)(b:Below w.heap.size w w'):Good E h w' where
 rel:=fun m o hm=>let⟨b',s,h1,h2⟩:=g.rel m o hm;⟨b',s,h1,ij E.le_refl rfl (b.block b' (g.mW m b' s h1)) h2⟩
 inj:=g.inj
 mW:=fun m b' s hm=>bE (g.mW m b' s hm) b.size
 jj:=g.jj
 gP:=fun k c q=>⟨by rw[b.block k (by obtain⟨el,fz,e⟩:=g.fz k c q;exact(aQ.1 e).1)];exact g.fz k c q,(g.gP k c q).2⟩
theorem ir.below{E:Env}{h:Tr O}{w w':World}(g:Good E h w)(b:Below w.heap.size w w'):ir E h w E h w':=
 ⟨E.le_refl,g.below b,b.size,b.tape,b.os,b.output,fun k hk _=>b.block k hk,fun m _ s hm he _=>⟨m,s,hm,he,id⟩,fun _ _ q=>.inl q⟩
def look(f:FuncId)(args:ag):List (FuncId×ag×V)->Option V
 | []=>none
 |x::r=>match Nat.beq f x.1&&V.pI args x.2.1 with
  |true=>some x.2.2
  |false=>look f args r
theorem CI{f:FuncId}{args:ag}{v:V}:∀{T:List (FuncId×ag×V)},look f args T=some v->(f,args,v)∈T
 | [],h=>by simp[look]at h
 |x::r,h=>by
  simp only[look]at h;split at h
  . rename_i hb;simp only[aC]at hb;simp only[an]at h;rw[aD hb.1,th _ _ hb.2,<- h];simp
  . exact aJ _ (CI h)
structure Eg(w0:World)(E:Env)(h:Tr O)(w:World):Prop where
 good:Good E h w
 size:w0.heap.size<=w.heap.size
 tape:w.tape=w0.tape
 os:w.os=w0.os
 output:w.output=w0.output
 keep:∀b,b<w0.heap.size->w.heap[b]? =w0.heap[b]?
 sR:∀m b s,eC h m->E.ι m=some (b,s)->b<w0.heap.size->False
theorem Eg.trans{w0:World}{E E':Env}{h h':Tr O}{w w':World}(a:Eg w0 E h w)(b:ir E h w E' h' w'):Eg w0 E' h' w' where
 good:=b.good
 size:=bV a.size b.size
 tape:=b.tape.trans a.tape
 os:=b.os.trans a.os
 output:=b.output.trans a.output
 keep:=fun x hx=>by
  rw[b.keep x (bE hx a.size) fun m s hm e=>a.sR m x s hm e hx,a.keep x hx]
 sR:=fun m x s hm e hx=>by
  obtain⟨m1,s1,_,e1,k1⟩:=b.sR m x s hm.live e (bE hx a.size);exact a.sR m1 x s1 (k1 hm) e1 hx
theorem Eg.init{E:Env}{h:Tr O}{w:World}(g:Good E h w)(hr:∀m,¬eC h m):Eg w E h w:=
 ⟨g,aA _,rfl,rfl,rfl,fun _ _=>rfl,fun m _ _ hm _ _=>hr m hm⟩
theorem Eg.below{w0:World}{E:Env}{h:Tr O}{w:World}(u:Eg w0 E h w):Below w0.heap.size w0 w:=
 ⟨u.os,u.tape,u.output,u.size,fun k hk=>u.keep k hk⟩
def Um(N:Nat)(w0:World)(s:St)(a:Act)(w:World):Prop:=∃E,jY E N s a w/\Eg w0 E s.h w
theorem Um.below{N:Nat}{w0:World}{s:St}{a:Act}{w:World}(i:Um N w0 s a w):Below w0.heap.size w0 w:=by
 obtain⟨E,_,u⟩:=i;exact u.below
def X.plain:X->Option Exit
 | .normal=>some .normal
 | .exit i=>some (.exit i)
 | .ret=>some .ret
 | .panic _=>none
mutual
def V.names:V->List Nat->List Nat
 | .ptr (some (m,_)),l=>m::l
 | .dj (some (m,_)) _ _ _,l=>m::l
 | .map (some m),l=>m::l
 | .fn f a c,l=>match f with
   | .yield m=>m::V.u7 a (V.u7 c l)
   |_=>V.u7 a (V.u7 c l)
 | .iface _ x,l=>V.names x l
 | .agg cs,l=>V.u7 cs l
 | .ew cs,l=>V.u7 cs l
 |_,l=>l
def V.u7:ag->List Nat->List Nat
 | [],l=>l
 |x::xs,l=>V.names x (V.u7 xs l)
end
def If:List (V×V×Nat)->List Nat
 | []=>[]
 |x::xs=>V.names x.1 (V.names x.2.1 (If xs))
def O.names:O->List Nat
 | .cells cs=>V.u7 cs []
 | .map es _=>If es
 | .nH _ _=>[]
 | .ints _ _=>[]
 | .own _ _=>[]
 | .deep _=>[]
 | .iU _ _ _=>[]
 | .Bj _ _ x=>V.names x []
 | .dF _ _=>[]
 | .my=>[]
 | .loop ..=>[]
def Zd(h:Tr O):Nat->List Nat->Tr Nat->List Nat->Nat->Option (Tr Nat×List Nat×Nat)
 |0,_,_,_,_=>none
 |_+1,[],ρ,pT,k=>some (ρ,pT,k)
 |f+1,m::q,ρ,pT,k=>match ρ.get m with
  |some _=>Zd h f q ρ pT k
  |none=>Zd h f ((match h.get m with|some o=>o.names|none=>[])++q) (ρ.set m (some k)) (m::pT) (k+1)
def xC:List Nat->Nat->Tr Nat->Tr Nat
 | [],_,t=>t
 |m::r,k,t=>xC r (k-1) (t.set (k-1) (some m))
def dM(ρ back:Tr Nat)(n2 m:Nat):Option Nat:=
 match ρ.get m with
 |some k=>match back.get k with
  |some m'=>match Nat.beq m m'&&Nat.blt k n2 with
   |true=>some k
   |false=>none
  |none=>none
 |none=>none
theorem AW{ρ back:Tr Nat}{n2 m k:Nat}(h:dM ρ back n2 m=some k):ρ.get m=some k/\back.get k=some m/\k<n2:=by
 unfold dM at h;split at h
 . rename_i k' h1;split at h
   . rename_i m' h2;split at h
     . rename_i hb;simp only[aC]at hb;simp only[an]at h;subst h;have e:=aD hb.1;subst e;exact⟨h1,h2,by have:=hb.2;simp[Nat.blt]at this;omega⟩
     . cases h
   . cases h
 . cases h
section
variable(ν:Nat->Option Nat)
mutual
def V.Xw:V->Option V
 | .ptr (some (m,o))=>match ν m with
   |some k=>some (.ptr (some (k,o)))
   |none=>none
 | .dj (some (m,o)) l c e=>match ν m with
   |some k=>some (.dj (some (k,o)) l c e)
   |none=>none
 | .map (some m)=>match ν m with
   |some k=>some (.map (some k))
   |none=>none
 | .fn f a c=>match vM f with
   |true=>match V.NS a with
    |some a=>match V.NS c with
     |some c=>some (.fn f a c)
     |none=>none
    |none=>none
   |false=>none
 | .iface t x=>match V.Xw x with
   |some x=>some (.iface t x)
   |none=>none
 | .agg cs=>match V.NS cs with
   |some cs=>some (.agg cs)
   |none=>none
 | .ew cs=>match V.NS cs with
   |some cs=>some (.ew cs)
   |none=>none
 | .bool b=>some (.bool b)
 | .int k n=>some (.int k n)
 | .str s=>some (.str s)
 | .ptr none=>some (.ptr none)
 | .dj none l c e=>some (.dj none l c e)
 | .map none=>some (.map none)
 | .kG=>some .kG
 | .nilIface=>some .nilIface
 | .dO f n cs=>some (.dO f n cs)
 | .dm cs=>some (.dm cs)
def V.NS:ag->Option (ag)
 | []=>some []
 |x::xs=>match V.Xw x with
  |some x=>match V.NS xs with
   |some xs=>some (x::xs)
   |none=>none
  |none=>none
end
def Xx:List (V×V×Nat)->Option (List (V×V×Nat))
 | []=>some []
 |x::xs=>match V.Xw ν x.1,V.Xw ν x.2.1,Xx xs with
  |some k,some v,some xs=>some ((k,v,x.2.2)::xs)
  |_,_,_=>none
def O.Xw:O->Option O
 | .cells cs=>match V.NS ν cs with
   |some cs=>some (.cells cs)
   |none=>none
 | .map es c=>match Xx ν es with
   |some es=>some (.map es c)
   |none=>none
 | .nH s p=>some (.nH s p)
 | .ints k ks=>some (.ints k ks)
 | .own k ks=>some (.own k ks)
 | .deep cs=>some (.deep cs)
 | .iU e f s=>some (.iU e f s)
 | .Bj t s x=>match V.Xw ν x with
   |some x=>some (.Bj t s x)
   |none=>none
 | .dF k es=>some (.dF k es)
 | .my=>none
 | .loop ..=>none
end
section
variable{ν:Nat->Option Nat}{E E':Env}(iY:∀m k,ν m=some k->E'.ι k=E.ι m)(oU:E'.β=E.β)(kX:∀b c,E.φ b=some c->E'.φ b=some c)
include iY oU kX
end
def Km(ν:Nat->Option Nat)(h:Tr O):List Nat->Tr O->Option (Tr O)
 | [],t=>some t
 |m::r,t=>match h.get m with
  |none=>Km ν h r t
  |some o=>match ν m with
   |some k=>match o.Xw ν with
    |some o2=>match Nat.blt k fL with
     |true=>Km ν h r (t.set k (some o2))
     |false=>none
    |none=>none
   |none=>none
def Aa(ν:Nat->Option Nat)(fr:Tr V):List Nat->Tr V->Option (Tr V)
 | [],t=>some t
 |m::r,t=>match fr.get m with
  |none=>Aa ν fr r t
  |some v=>match v.Xw ν with
   |some v2=>match Nat.blt m fL with
    |true=>Aa ν fr r (t.set m (some v2))
    |false=>none
   |none=>none
def rV(fr:Tr V):List Nat->List Nat
 | []=>[]
 |t::r=>match fr.get t with
  |some v=>v.names (rV fr r)
  |none=>rV fr r
def adH(back:Tr Nat)(k:Nat):Bool:=jR.all fun p=>Nat.blt p.2 k&&match back.get p.2 with
 |some o=>Nat.beq o p.2
 |none=>false
def norm(live:List Nat)(s:St):Option St:=
 match s.gz with
 | []=>match Zd s.h 100000 (rV s.fr live) .nil [] 0 with
   |some (ρ,pT,k)=>
    let ν:=dM ρ (xC pT k .nil) k
    match adH (xC pT k .nil) k with
    |false=>none
    |true=>match Km ν s.h pT .nil with
    |some h2=>match Aa ν s.fr live .nil with
     |some xz=>some { fr:=xz,h:=h2,n:=k,gz:=[] }
     |none=>none
    |none=>none
   |none=>none
 |_=>none
section
variable(ν:Nat->Option Nat)
mutual
def V.rn:V->Option V
 | .ptr (some (m,o))=>match ν m with
   |some k=>some (.ptr (some (k,o)))
   |none=>none
 | .dj (some (m,o)) l c e=>match ν m with
   |some k=>some (.dj (some (k,o)) l c e)
   |none=>none
 | .map (some m)=>match ν m with
   |some k=>some (.map (some k))
   |none=>none
 | .fn f a c=>match V.DZ a with
   |some a=>match V.DZ c with
    |some c=>match f with
     | .yield m=>match ν m with
       |some k=>some (.fn (.yield k) a c)
       |none=>none
     |f=>some (.fn f a c)
    |none=>none
   |none=>none
 | .iface t x=>match V.rn x with
   |some x=>some (.iface t x)
   |none=>none
 | .agg cs=>match V.DZ cs with
   |some cs=>some (.agg cs)
   |none=>none
 | .ew cs=>match V.DZ cs with
   |some cs=>some (.ew cs)
   |none=>none
 | .bool b=>some (.bool b)
 | .int k n=>some (.int k n)
 | .str s=>some (.str s)
 | .ptr none=>some (.ptr none)
 | .dj none l c e=>some (.dj none l c e)
 | .map none=>some (.map none)
 | .kG=>some .kG
 | .nilIface=>some .nilIface
 | .dO f n cs=>some (.dO f n cs)
 | .dm cs=>some (.dm cs)
def V.DZ:ag->Option (ag)
 | []=>some []
 |x::xs=>match V.rn x with
  |some x=>match V.DZ xs with
   |some xs=>some (x::xs)
   |none=>none
  |none=>none
end
def Qi:List (V×V×Nat)->Option (List (V×V×Nat))
 | []=>some []
 |x::xs=>match V.rn ν x.1 with
  |some k=>match V.rn ν x.2.1 with
   |some v=>match Qi xs with
    |some xs=>some ((k,v,x.2.2)::xs)
    |none=>none
   |none=>none
  |none=>none
def CJ(m:Nat):Bool:=match ν m with
 |some k=>Nat.beq m k
 |none=>false
mutual
def V.still:V->Bool
 | .ptr (some (m,_))=>CJ ν m
 | .dj (some (m,_)) _ _ _=>CJ ν m
 | .map (some m)=>CJ ν m
 | .fn f a c=>(match f with | .yield m=>CJ ν m|_=>true)&&(V.xD a&&V.xD c)
 | .iface _ x=>V.still x
 | .agg cs=>V.xD cs
 | .ew cs=>V.xD cs
 |_=>true
def V.xD:ag->Bool
 | []=>true
 |x::xs=>V.still x&&V.xD xs
end
def yQ:Tr V->Bool
 | .nil=>true
 | .node v l r=>(match v with|some v=>V.still ν v|none=>true)&&(yQ l&&yQ r)
def O.rn:O->Option O
 | .cells cs=>match V.DZ ν cs with
   |some cs=>some (.cells cs)
   |none=>none
 | .map es c=>match Qi ν es with
   |some es=>some (.map es c)
   |none=>none
 | .nH s p=>some (.nH s p)
 | .ints k ks=>some (.ints k ks)
 | .own k ks=>some (.own k ks)
 | .deep cs=>some (.deep cs)
 | .iU e f s=>some (.iU e f s)
 | .Bj t s x=>match V.rn ν x with
   |some x=>some (.Bj t s x)
   |none=>none
 | .dF k es=>some (.dF k es)
 | .my=>some .my
 | .loop st pe fr ps a b=>match yQ ν fr with
   |true=>some (.loop st pe fr ps a b)
   |false=>none
end
mutual
theorem tn{ν:Nat->Option Nat}{E E':Env}(iY:∀m k,ν m=some k->E'.ι k=E.ι m)(oU:∀m k b s,ν m=some k->E.ι m=some (b,s)->E'.β b=E.β b)(kX:∀b c,E.φ b=some c->E'.φ b=some c):∀(v v2:V) (v':Value),v.rn ν=some v2->dD E v v'->dD E' v2 v'
 | .bool _,v2,_,h,r=>by simp only[V.rn,an]at h;subst h;exact r
 | .int _ _,v2,_,h,r=>by simp only[V.rn,an]at h;subst h;exact r
 | .str _,v2,_,h,r=>by simp only[V.rn,an]at h;subst h;exact r
 | .ptr none,v2,_,h,r=>by simp only[V.rn,an]at h;subst h;exact r
 | .ptr (some (m,o)),v2,_,h,⟨b,s,e,q⟩=>by
   simp only[V.rn]at h;split at h
   . rename_i k hk;obtain rfl:=eo h;exact⟨b,s,(iY m k hk).trans e,q⟩
   . cases h
 | .dj none _ _ _,v2,_,h,r=>by simp only[V.rn,an]at h;subst h;exact r
 | .dj (some (m,o)) _ _ _,v2,_,h,⟨b,s,o',gj,e,q1,q2,q3,q4,q5⟩=>by
   simp only[V.rn]at h;split at h
   . rename_i k hk;obtain rfl:=eo h;exact⟨b,s,o',gj,(iY m k hk).trans e,q1,q2,q3,by rw[oU m k b s hk e];exact q4,q5⟩
   . cases h
 | .map none,v2,_,h,r=>by simp only[V.rn,an]at h;subst h;exact r
 | .map (some m),v2,_,h,⟨b,e,q⟩=>by
   simp only[V.rn]at h;split at h
   . rename_i k hk;obtain rfl:=eo h;exact⟨b,(iY m k hk).trans e,q⟩
   . cases h
 | .fn f a c,v2,_,h,⟨f',a',c',rf,ra,rc,q⟩=>by
   simp only[V.rn]at h;split at h
   . rename_i a2 ha;split at h
     . rename_i c2 hc;have ra2:=tq iY oU kX a a2 a' ha ra;have rc2:=tq iY oU kX c c2 c' hc rc;split at h
       . rename_i m;split at h
         . rename_i k hk;obtain rfl:=eo h;obtain⟨l,s,e,q2⟩:=rf;exact⟨f',a',c',⟨l,s,(iY m k hk).trans e,q2⟩,ra2,rc2,q⟩
         . cases h
       . obtain rfl:=eo h;refine⟨f',a',c',?_,ra2,rc2,q⟩;cases f<;>first|exact rf|(rename_i fN;exact(fN _ rfl).elim)
     . cases h
   . cases h
 | .kG,v2,_,h,r=>by simp only[V.rn,an]at h;subst h;exact r
 | .iface t x,v2,_,h,⟨x',r,q⟩=>by
   simp only[V.rn]at h;split at h
   . rename_i x2 hx;obtain rfl:=eo h;exact⟨x',tn iY oU kX x x2 x' hx r,q⟩
   . cases h
 | .nilIface,v2,_,h,r=>by simp only[V.rn,an]at h;subst h;exact r
 | .agg cs,v2,_,h,⟨cs',r,q⟩=>by
   simp only[V.rn]at h;split at h
   . rename_i x2 hx;obtain rfl:=eo h;exact⟨cs',tq iY oU kX cs x2 cs' hx r,q⟩
   . cases h
 | .ew cs,v2,_,h,⟨cs',r,q⟩=>by
   simp only[V.rn]at h;split at h
   . rename_i x2 hx;obtain rfl:=eo h;exact⟨cs',tq iY oU kX cs x2 cs' hx r,q⟩
   . cases h
 | .dO f n cs,v2,_,h,r=>by
   simp only[V.rn,an]at h;subst h;exact⟨kM kX _ _ r.1,r.2⟩
 | .dm cs,v2,_,h,⟨b,o,c,vs,e,e1,r,q⟩=>by
   simp only[V.rn,an]at h;subst h;exact⟨b,o,c,vs,e,kX _ _ e1,iR kX _ _ r,q⟩
theorem tq{ν:Nat->Option Nat}{E E':Env}(iY:∀m k,ν m=some k->E'.ι k=E.ι m)(oU:∀m k b s,ν m=some k->E.ι m=some (b,s)->E'.β b=E.β b)(kX:∀b c,E.φ b=some c->E'.φ b=some c):∀(v v2:ag) (v':List Value),V.DZ ν v=some v2->dI E v v'->dI E' v2 v'
 | [],v2,_,h,r=>by simp only[V.DZ,an]at h;subst h;exact r
 |x::xs,v2,_,h,⟨y,ys,r,rs,q⟩=>by
  simp only[V.DZ]at h;split at h
  . rename_i x2 hx;split at h
    . rename_i NT Ck;obtain rfl:=eo h;exact⟨y,ys,tn iY oU kX x x2 y hx r,tq iY oU kX xs NT ys Ck rs,q⟩
    . cases h
  . cases h
end
section
variable{ν:Nat->Option Nat}{E E':Env}(iY:∀m k,ν m=some k->E'.ι k=E.ι m)(oU:∀m k b s,ν m=some k->E.ι m=some (b,s)->E'.β b=E.β b)(kX:∀b c,E.φ b=some c->E'.φ b=some c)
include iY oU kX
theorem Ig:∀(es tX:List (V×V×Nat)) (l:List MapEntry),Qi ν es=some tX->kI E es l->kI E' tX l
 | [],tX,_,h,r=>by simp only[Qi,an]at h;subst h;exact r
 |x::xs,tX,_,h,⟨y,ys,r1,r2,r3,rs,q⟩=>by
  simp only[Qi]at h;split at h
  . rename_i k hk;split at h
    . rename_i v hv;split at h
      . rename_i NT Ck;obtain rfl:=eo h;exact⟨y,ys,tn iY oU kX _ _ _ hk r1,tn iY oU kX _ _ _ hv r2,r3,Ig _ _ _ Ck rs,q⟩
      . cases h
    . cases h
  . cases h
end
theorem og{ν:Nat->Option Nat}{m:Nat}(h:CJ ν m=true):ν m=some m:=by
 unfold CJ at h;split at h
 . rename_i k hk;rw[hk,aD h]
 . cases h
theorem u9{ν:Nat->Option Nat}:∀(t:Tr V),yQ ν t=true->∀k v,t.get k=some v->v.still ν=true
 | .nil,_,k,v,h=>by simp[Tr.get]at h
 | .node x l r,hs,k,v,h=>by
   simp only[yQ,aC]at hs;simp only[Tr.get]at h;split at h
   . subst h;exact hs.1
   . rename_i k;split at h
     . exact u9 l hs.2.1 _ v h
     . exact u9 r hs.2.2 _ v h
mutual
theorem Ab{ν:Nat->Option Nat}{E E':Env}(iY:∀m k,ν m=some k->E'.ι k=E.ι m)(oU:∀m k b s,ν m=some k->E.ι m=some (b,s)->E'.β b=E.β b)(kX:∀b c,E.φ b=some c->E'.φ b=some c):∀(v:V) (v':Value),v.still ν=true->dD E v v'->dD E' v v'
 | .bool _,_,_,r=>r
 | .int _ _,_,_,r=>r
 | .str _,_,_,r=>r
 | .ptr none,_,_,r=>r
 | .ptr (some (m,o)),_,h,⟨b,s,e,q⟩=>⟨b,s,(iY m m (og h)).trans e,q⟩
 | .dj none _ _ _,_,_,r=>r
 | .dj (some (m,o)) _ _ _,_,h,⟨b,s,o',gj,e,q1,q2,q3,q4,q5⟩=>⟨b,s,o',gj,(iY m m (og h)).trans e,q1,q2,q3,by rw[oU m m b s (og h) e];exact q4,q5⟩
 | .map none,_,_,r=>r
 | .map (some m),_,h,⟨b,e,q⟩=>⟨b,(iY m m (og h)).trans e,q⟩
 | .fn f a c,_,h,⟨f',a',c',rf,ra,rc,q⟩=>by
   simp only[V.still,aC]at h;refine⟨f',a',c',?_,qz iY oU kX a a' h.2.1 ra,qz iY oU kX c c' h.2.2 rc,q⟩;cases f with
   |yield m=>obtain⟨l,s,e,q2⟩:=rf;exact⟨l,s,(iY m m (og h.1)).trans e,q2⟩
   |_=>exact rf
 | .kG,_,_,r=>r
 | .iface _ x,_,h,⟨x',r,q⟩=>⟨x',Ab iY oU kX x x' (by simpa only[V.still]using h) r,q⟩
 | .nilIface,_,_,r=>r
 | .agg cs,_,h,⟨cs',r,q⟩=>⟨cs',qz iY oU kX cs cs' (by simpa only[V.still]using h) r,q⟩
 | .ew cs,_,h,⟨cs',r,q⟩=>⟨cs',qz iY oU kX cs cs' (by simpa only[V.still]using h) r,q⟩
 | .dO _ _ _,_,_,r=>⟨kM kX _ _ r.1,r.2⟩
 | .dm cs,_,_,⟨b,o,c,vs,e,e1,r,q⟩=>⟨b,o,c,vs,e,kX _ _ e1,iR kX _ _ r,q⟩
theorem qz{ν:Nat->Option Nat}{E E':Env}(iY:∀m k,ν m=some k->E'.ι k=E.ι m)(oU:∀m k b s,ν m=some k->E.ι m=some (b,s)->E'.β b=E.β b)(kX:∀b c,E.φ b=some c->E'.φ b=some c):∀(v:ag) (v':List Value),V.xD ν v=true->dI E v v'->dI E' v v'
 | [],_,_,r=>r
 |x::xs,_,h,⟨y,ys,r,rs,q⟩=>by
  simp only[V.xD,aC]at h;exact⟨y,ys,Ab iY oU kX x y h.1 r,qz iY oU kX xs ys h.2 rs,q⟩
end
section
variable{ν:Nat->Option Nat}{E E':Env}(iY:∀m k,ν m=some k->E'.ι k=E.ι m)(oU:∀m k b s,ν m=some k->E.ι m=some (b,s)->E'.β b=E.β b)(kX:∀b c,E.φ b=some c->E'.φ b=some c)
include iY oU kX
theorem BE{w:World}{b s:Nat}(hb:E'.β b=E.β b):∀(o o2:O),o.rn ν=some o2->lU E w b s o->lU E' w b s o2
 | .cells cs,o2,h,⟨c,el,fz,h1,h2,h3,h4⟩=>by
   simp only[O.rn]at h;split at h
   . rename_i vc o5;obtain rfl:=eo h;refine⟨c,el,fz,h1,by rw[hb];exact h2,h3,?_⟩;have:∀(cs vc:ag),V.DZ ν cs=some vc->∀(s:Nat),l7 E s cs c->l7 E' s vc c:=by
      intro cs
      induction cs with
      |nil=>intro vc h s r;simp only[V.DZ,an]at h;subst h;intro i v e;simp at e
      |cons x xs ih=>
       intro vc h s r;simp only[V.DZ]at h;split at h
       . rename_i x2 hx;split at h
         . rename_i NT Ck;obtain rfl:=eo h;intro i v e;cases i with
           |zero=>
            simp only[bG,an]at e;subst e;obtain⟨v',k1,k2⟩:=r 0 x (by simp);exact⟨v',k1,tn iY oU kX _ _ _ hx k2⟩
           |succ i=>
            simp only[cA]at e;obtain⟨v',k1,k2⟩:=ih NT Ck (s+1) (fun j v e=>by
             obtain⟨v',k1,k2⟩:=r (j+1) v (by simpa using e);exact⟨v',by rw[<- k1];congr 1;omega,k2⟩) i v e
            exact⟨v',by rw[<- k1];congr 1;omega,k2⟩
         . cases h
       . cases h
     exact this cs vc o5 s h4
   . cases h
 | .map es cl,o2,h,⟨hs,fT,h1,h2⟩=>by
   simp only[O.rn]at h;split at h
   . rename_i tX TB;obtain rfl:=eo h;exact⟨hs,fT,h1,Ig iY oU kX _ _ _ TB h2⟩
   . cases h
 | .nH st p,o2,h,r=>by simp only[O.rn,an]at h;subst h;exact r
 | .ints k ks,o2,h,⟨c,el,fz,h1,h2,h3⟩=>by simp only[O.rn,an]at h;subst h;exact⟨c,el,fz,h1,by rw[hb];exact h2,h3⟩
 | .own k ks,o2,h,⟨c,el,fz,h1,h2,h3,h4⟩=>by simp only[O.rn,an]at h;subst h;exact⟨c,el,fz,h1,by rw[hb];exact h2,h3,wM h4⟩
 | .deep cs,o2,h,⟨c,el,fz,vs,h1,h2,h3,h4,h5⟩=>by simp only[O.rn,an]at h;subst h;exact⟨c,el,fz,vs,h1,by rw[hb];exact h2,h3,iR kX _ _ h4,h5⟩
 | .iU el AH t,o2,h,⟨c,fz,xs,h1,h0,h2,h3⟩=>by simp only[O.rn,an]at h;subst h;exact⟨c,fz,xs,h1,h0,by rw[hb];exact h2,h3⟩
 | .Bj t self x,o2,h,⟨hs,x',fz,h1,h2,h3,h4⟩=>by
   simp only[O.rn]at h;split at h
   . rename_i x2 hx;obtain rfl:=eo h;exact⟨hs,x',fz,h1,by rw[hb];exact h2,h3,tn iY oU kX _ _ _ hx h4⟩
   . cases h
 | .dF kk es,o2,h,⟨hs,fT,cl,h1,h2⟩=>by simp only[O.rn,an]at h;subst h;exact⟨hs,fT,cl,h1,h2.mono kX⟩
 | .my,o2,h,r=>by simp only[O.rn,an]at h;subst h;exact r
 | .loop st pe fr ps a b',o2,h,⟨r,h1,h2,h3,h4,h5,h6,h7,h8⟩=>by
   simp only[O.rn]at h;split at h
   . rename_i hs;obtain rfl:=eo h;exact⟨r,h1,h2,h3,h4,h5,h6,fun t v e=>let⟨v',k1,k2⟩:=h7 t v e;⟨v',k1,Ab iY oU kX v v' (u9 fr hs t v e) k2⟩,h8⟩
   . cases h
end
theorem AX{ν:Nat->Option Nat}{o o2:O}(h:o.rn ν=some o2):o2.wr=o.wr:=by
 cases o<;>simp only[O.rn]at h<;>(try split at h)<;>first|(obtain rfl:=eo h;rfl)|cases h
def Gj:Tr V->List Nat->List Nat
 | .nil,l=>l
 | .node v a b,l=>(match v with|some v=>V.names v|none=>id) (Gj a (Gj b l))
def O.nms:O->List Nat
 | .loop _ _ fr _ _ _=>Gj fr []
 |o=>o.names
def Mf(h:Tr O):Nat->List Nat->Tr Nat->List Nat->Nat->Option (Tr Nat×List Nat×Nat)
 |0,_,_,_,_=>none
 |_+1,[],ρ,pT,k=>some (ρ,pT,k)
 |f+1,m::q,ρ,pT,k=>match ρ.get m with
  |some _=>Mf h f q ρ pT k
  |none=>Mf h f ((match h.get m with|some o=>o.nms|none=>[])++q) (ρ.set m (some k)) (m::pT) (k+1)
def Ze:Nat->Tr Nat
 |0=>.nil
 |k+1=>(Ze k).set k (some k)
def Kn:Nat->List Nat
 |0=>[]
 |k+1=>k::Kn k
def CK(h:Tr O):Nat->List Nat->List Nat
 |0,l=>l
 |k+1,l=>(match h.get k with|some o=>o.nms|none=>[])++CK h k l
def BF(ν:Nat->Option Nat):Nat->Bool
 |0=>true
 |k+1=>CJ ν k&&BF ν k
theorem yR{ν:Nat->Option Nat}:∀{k:Nat},BF ν k=true->∀m,m<k->ν m=some m
 |0,_,m,hm=>by omega
 |k+1,h,m,hm=>by
  simp only[BF,aC]at h;by_cases e:m=k
  . subst e;exact og h.1
  . exact yR h.2 m be
def CL(ν:Nat->Option Nat)(h:Tr O):List Nat->Tr O->Option (Tr O)
 | [],t=>some t
 |m::r,t=>match h.get m with
  |none=>CL ν h r t
  |some o=>match ν m with
   |some k=>match o.rn ν with
    |some o2=>match Nat.blt k fL with
     |true=>CL ν h r (t.set k (some o2))
     |false=>none
    |none=>none
   |none=>none
theorem tr{ν:Nat->Option Nat}{h:Tr O}:∀(l:List Nat) (t t2:Tr O),CL ν h l t=some t2->(∀k o2,t.get k=some o2->∃m o,ν m=some k/\h.get m=some o/\o.rn ν=some o2)->
  ∀k o2,t2.get k=some o2->∃m o,ν m=some k/\h.get m=some o/\o.rn ν=some o2
 | [],t,t2,e,ht=>by simp only[CL,an]at e;subst e;exact ht
 |m::r,t,t2,e,ht=>by
  simp only[CL]at e;split at e
  . exact tr r t t2 e ht
  . rename_i o ho;split at e
    . rename_i k hk;split at e
      . rename_i o2 Ue;split at e
        . rename_i fF;refine tr r _ t2 e fun j o3 h3=>?_;rw[Tr.eP _ _ _ (by simp[Nat.blt]at fF;omega)]at h3;split at h3
          . rename_i hj;obtain rfl:=eo h3;subst hj;exact⟨m,o,hk,ho,Ue⟩
          . exact ht j o3 h3
        . cases e
      . cases e
    . cases e
def xE(ν:Nat->Option Nat)(fr:Tr V):List Nat->Tr V->Option (Tr V)
 | [],t=>some t
 |m::r,t=>match fr.get m with
  |none=>xE ν fr r t
  |some v=>match v.rn ν with
   |some v2=>match Nat.blt m fL with
    |true=>xE ν fr r (t.set m (some v2))
    |false=>none
   |none=>none
theorem qX{ν:Nat->Option Nat}{fr:Tr V}:∀(l:List Nat) (t t2:Tr V),xE ν fr l t=some t2->(∀k v2,t.get k=some v2->∃v,fr.get k=some v/\v.rn ν=some v2)->
  ∀k v2,t2.get k=some v2->∃v,fr.get k=some v/\v.rn ν=some v2
 | [],t,t2,e,ht=>by simp only[xE,an]at e;subst e;exact ht
 |m::r,t,t2,e,ht=>by
  simp only[xE]at e;split at e
  . exact qX r t t2 e ht
  . rename_i v hv;split at e
    . rename_i v2 hv2;split at e
      . rename_i fF;refine qX r _ t2 e fun j o3 h3=>?_;rw[Tr.eP _ _ _ (by simp[Nat.blt]at fF;omega)]at h3;split at h3
        . rename_i hj;obtain rfl:=eo h3;subst hj;exact⟨v,hv,hv2⟩
        . exact ht j o3 h3
      . cases e
    . cases e
def NU(ν:Nat->Option Nat):List (FuncId×ag×ag)->Option (List (FuncId×ag×ag))
 | []=>some []
 |(f,[],[.map (some m)])::r=>match Nat.beq f fL with
  |true=>match ν m with
   |some k=>match NU ν r with
    |some r=>some ((fL,[],[.map (some k)])::r)
    |none=>none
   |none=>none
  |false=>none
 |_::_=>none
def CM:List (FuncId×ag×ag)->List Nat->List Nat
 |(_,_,[.map (some m)])::r,l=>m::CM r l
 |_,l=>l
theorem CN{ν:Nat->Option Nat}{E E':Env}(iY:∀m k,ν m=some k->E'.ι k=E.ι m):∀(l l2:List (FuncId×ag×ag)) (ds:List Deferred),NU ν l=some l2->wQ E l ds->wQ E' l2 ds
 | [],l2,ds,e,r=>by simp only[NU,an]at e;subst e;exact r
 |(f,c,args)::r,l2,ds,e,h=>by
  unfold NU at e;split at e
  . rename_i Ko;cases Ko
  . rename_i f' m r' Ko;cases Ko;split at e
    . rename_i hf;have hf:=aD hf;subst hf;split at e
      . rename_i k hk;split at e
        . rename_i r2 hr;obtain rfl:=eo e;obtain⟨d,ys,r1,r2',q⟩:=h;refine⟨d,ys,?_,CN iY _ _ _ hr r2',q⟩;rcases r1 with⟨fF,_⟩|⟨_,m',b,s,q1,q2,q3⟩
          . exact absurd fF (cF _)
          . simp only[List.cons.injEq,V.map.injEq,an,and_true]at q1;subst q1;exact .inr ⟨rfl,k,b,s,rfl,(iY _ k hk).trans q2,q3⟩
        . cases e
      . cases e
    . cases e
  . cases e
def e9(n0:Nat)(live:List Nat)(s:St):Option St:=
 match Nat.ble n0 s.n with
 |false=>none
 |true=>match Mf s.h 100000 (CK s.h n0 (rV s.fr live++CM s.gz [])) (Ze n0) (Kn n0) n0 with
  |some (ρ,pT,k)=>
   let ν:=dM ρ (xC pT k .nil) k
   match(BF ν n0&&Nat.ble n0 k)&&Nat.ble gN n0 with
   |true=>match CL ν s.h pT .nil with
    |some h2=>match xE ν s.fr live .nil with
     |some xz=>match NU ν s.gz with
      |some d2=>some { fr:=xz,h:=h2,n:=k,gz:=d2 }
      |none=>none
     |none=>none
    |none=>none
   |false=>none
  |none=>none
structure lB(n0:Nat)(E:Env)(h:Tr O)(w:World)(E':Env)(h':Tr O)(w':World):Prop where
 le:∀m b s,m<n0->E.ι m=some (b,s)->E'.ι m=some (b,s)/\E'.β b=E.β b
 low:∀m,m<n0->E'.ι m=E.ι m
 fz:∀b c,E.φ b=some c->E'.φ b=some c
 good:Good E' h' w'
 size:w.heap.size<=w'.heap.size
 tape:w'.tape=w.tape
 os:w'.os=w.os
 output:w'.output=w.output
 keep:∀b,b<w.heap.size->(∀m s,eC h m->E.ι m≠some (b,s))->w'.heap[b]? =w.heap[b]?
 sR:∀m b s,h'.get m≠none->E'.ι m=some (b,s)->b<w.heap.size->∃m0 s0,h.get m0≠none/\E.ι m0=some (b,s0)/\(eC h' m->eC h m0)
 DV:∀b c,E'.φ b=some c->E.φ b=some c\/w.heap.size<=b\/∃m s,eC h m/\E.ι m=some (b,s)
theorem lB.of{n0 n:Nat}{E E':Env}{h h':Tr O}{w w':World}(u:ir E h w E' h' w')(fJ:∀m,m<n->E'.ι m=E.ι m)(hn:n0<=n):lB n0 E h w E' h' w':=
 ⟨fun m b s _ e=>u.le.nm m b s e,fun m hm=>fJ m be,u.le.fz,u.good,u.size,u.tape,u.os,u.output,u.keep,u.sR,u.DV⟩
theorem lB.trans{n0:Nat}{E E1 E2:Env}{h h1 h2:Tr O}{w w1 w2:World}(a:lB n0 E h w E1 h1 w1)(b:lB n0 E1 h1 w1 E2 h2 w2):lB n0 E h w E2 h2 w2 where
 le:=fun m x s hm e=>by
  obtain⟨e1,b1⟩:=a.le m x s hm e;obtain⟨e2,b2⟩:=b.le m x s hm e1;exact⟨e2,b2.trans b1⟩
 low:=fun m hm=>(b.low m hm).trans (a.low m hm)
 fz:=fun x c e=>b.fz x c (a.fz x c e)
 good:=b.good
 size:=bV a.size b.size
 tape:=b.tape.trans a.tape
 os:=b.os.trans a.os
 output:=b.output.trans a.output
 keep:=fun x hx hn=>by
  rw[b.keep x (bE hx a.size) ?_,a.keep x hx hn];intro m s hm e;obtain⟨m0,s0,_,e0,k0⟩:=a.sR m x s hm.live e hx;exact hn m0 s0 (k0 hm) e0
 sR:=fun m x s hm e hx=>by
  obtain⟨m1,s1,k1,e1,l1⟩:=b.sR m x s hm e (bE hx a.size);obtain⟨m0,s0,k0,e0,l0⟩:=a.sR m1 x s1 k1 e1 hx;exact⟨m0,s0,k0,e0,fun q=>l0 (l1 q)⟩
 DV:=fun x c hc=>by
  rcases b.DV x c hc with q|q|⟨m,s,q1,q2⟩
  . exact a.DV x c q
  . exact .inr (.inl (bV a.size q))
  . rcases bP x w.heap.size with hx|hx
    . obtain⟨m0,s0,_,e0,k0⟩:=a.sR m x s q1.live q2 hx;exact .inr (.inr ⟨m0,s0,k0 q1,e0⟩)
    . exact .inr (.inl hx)
theorem lB.refl{n0:Nat}{E:Env}{h:Tr O}{w:World}(g:Good E h w):lB n0 E h w E h w:=
 .of (n:=n0) (ir.refl g) (fun _ _=>rfl) (aA _)
theorem lB.qp{n0:Nat}{E E':Env}{h h':Tr O}{w w':World}(u:lB n0 E h w E' h' w')(hd:qN E n0):ir E h w E' h' w':=
 ⟨⟨fun m b s e=>u.le m b s (by
  by_cases q:m<n0
  . exact q
  . rw[hd m (Nat.le_of_not_lt q)]at e;cases e) e,u.fz⟩,u.good,u.size,u.tape,u.os,u.output,u.keep,u.sR,u.DV⟩
theorem qY{n0 N:Nat}{live:List Nat}{s s2:St}{E:Env}{a:Act}{w:World}(e:e9 n0 live s=some s2)(r:jY E N s a w):n0<=s.n/\n0<=s2.n/\∃E2,jY E2 N s2 a w/\lB n0 E s.h w E2 s2.h w:=by
 unfold e9 at e;split at e
 . cases e
 rename_i hn;split at e
 case h_2=>cases e
 rename_i ρ pT k ht;revert e;generalize adI:xC pT k .nil=back;intro e;simp only at e;split at e
 case h_2=>cases e
 rename_i fJ;simp only[aC]at fJ;split at e
 case h_2=>cases e
 rename_i h2 hh;split at e
 case h_2=>cases e
 rename_i xz x8;split at e
 case h_2=>cases e
 rename_i d2 Ge;simp only[an]at e;subst e
 let E2:Env:=⟨fun m=>if m<k then(match back.get m with|some old=>E.ι old|none=>none)else none,E.β,E.φ⟩
 have iY:∀m j,dM ρ back k m=some j->E2.ι j=E.ι m:=by
  intro m j hj;obtain⟨_,h2,h3⟩:=AW hj;show(if j<k then(match back.get j with|some old=>E.ι old|none=>none)else none)=_;rw[aG h3,h2]
 have yC:∀m,m<n0->E2.ι m=E.ι m:=fun m hm=>iY m m (yR fJ.1.1 m hm);have NM:=tr pT .nil h2 hh (fun j o hj=>by simp[Tr.get]at hj);have qx:Good E2 h2 w:=by
  refine⟨?_,?_,?_,fun p hp=>(yC _ (bE (BD hp) (au fJ.2))).trans (r.good.jj p hp),fun b c q=>⟨(r.good.gP b c q).1,fun m s1 hm e1=>?_⟩⟩
  case refine_4=>
   obtain⟨o,ho,Zf⟩:=hm;obtain⟨old,p,k1,k2,k3⟩:=NM m o ho;rw[iY old m k1]at e1;exact(r.good.gP b c q).2 old s1 ⟨p,k2,(AX k3).symm.trans Zf⟩ e1
  . intro m o2 hm;obtain⟨old,o,k1,k2,k3⟩:=NM m o2 hm;obtain⟨b,s',e1,e2⟩:=r.good.rel old o k2;exact⟨b,s',(iY old m k1).trans e1,BE iY (fun _ _ _ _ _ _=>rfl) (fun _ _ q=>q) rfl o o2 k3 e2⟩
  . intro m m' b s1 s2 fN hm sU e1 e2;obtain⟨o,ho,Zf⟩:=hm;obtain⟨o',D9⟩:=bf.1 sU;obtain⟨old,p,k1,k2,k3⟩:=NM m o ho;obtain⟨Bn,p',Un,k2',_⟩:=NM m' o' D9;rw[iY old m k1]at e1;rw[iY Bn m' Un]at e2;by_cases oD:old=Bn
    . subst oD;rw[k1]at Un;simp only[an]at Un;exact fN Un
    . exact r.good.inj old Bn b s1 s2 oD ⟨p,k2,(AX k3).symm.trans Zf⟩ (by rw[k2'];simp) e1 e2
  . intro m b s1 e1;have e1:(if m<k then(match back.get m with|some old=>E.ι old|none=>none)else none)=some (b,s1):=e1;split at e1
    . split at e1
      . exact r.good.mW _ b s1 e1
      . cases e1
    . cases e1
 refine⟨au hn,au fJ.1.2,E2,⟨qx,?_,?_,r.size,?_⟩,?_⟩
 . intro m hm;show(if m<k then _ else none)=none;rw[aI (by show ¬m<k;have:k<=m:=hm;omega)]
 . intro t v2 hv;obtain⟨v,k1,k2⟩:=qX live .nil xz x8 (fun j o hj=>by simp[Tr.get]at hj) t v2 hv;obtain⟨v',h1,h2⟩:=r.fr t v k1;exact⟨v',h1,tn iY (fun _ _ _ _ _ _=>rfl) (fun _ _ q=>q) v v2 v' k2 h2⟩
 . exact CN iY _ _ _ Ge r.gz
 . refine⟨fun m b s1 hm e1=>⟨(yC m hm).trans e1,rfl⟩,yC,fun _ _ q=>q,qx,aA _,rfl,rfl,rfl,fun _ _ _=>rfl,?_,fun _ _ q=>.inl q⟩;intro m b s1 hm e1 hb;obtain⟨o,ho⟩:=bf.1 hm;obtain⟨old,p,k1,k2,k3⟩:=NM m o ho;rw[iY old m k1]at e1;refine⟨old,s1,by rw[k2];simp,e1,fun⟨o',q1,q2⟩=>⟨p,k2,?_⟩⟩;rw[ho]at q1;cases q1;exact(AX k3).symm.trans q2
def Mg:Code->Bool | .seq _ _=>true|_=>false
def dK:Code->Code | .seq a _=>a|c=>c
def ee:Code->Code | .seq _ b=>b|c=>c
def Qj(c:Code)(o:Operand->Bool):Bool:=match c with | .cond x _ _=>o x|_=>false
def Xy:Code->Operand | .cond c _ _=>c|_=>.const (.bool true)
def Mh:Code->Code | .cond _ a _=>a|c=>c
def Xz:Code->Code | .cond _ _ b=>b|c=>c
def BG:Code->Nat->Bool | .block i _,j=>Nat.beq i j|_,_=>false
def CO:Code->Bool | .loop _=>true|_=>false
def dw:Code->Code | .block _ c=>c | .loop c=>c|c=>c
def eR:Nat->Code->Code
 |k+1,.seq a b=>.seq a (eR k b)
 |_,_=>.skip
def de:Nat->Code->Code
 |k+1,.seq _ b=>de k b
 |_,c=>c
def T(P:Program)(N:Nat)(w0:World)(c:Code)(s:St)(Q:Exit->St->Prop):Prop:=
 ∀(K:Exit->Act->World->Prop) (a:Act) (w:World),Um N w0 s a w->(∀y s' a' w',Q y s'->Um N w0 s' a' w'->K y a' w')->c.wp P K a w
section
variable{P:Program}{cf:fM}{F N:Nat}{w0:World}{c:Code}{s s':St}{Q Q1:Exit->St->Prop}
def andThen(R:St->Prop)(Q:Exit->St->Prop):Exit->St->Prop
 | .normal,s=>R s
 |y,s=>Q y s
def mQ(i:Nat)(Q:Exit->St->Prop):Exit->St->Prop
 | .exit j,s=>if j=i then Q .normal s else Q (.exit j) s
 |y,s=>Q y s
def ov:List (Nat×V)->Tr V->Tr V
 | [],t=>t
 |x::r,t=>(ov r t).set x.1 (some x.2)
def St.over(s:St)(l:List (Nat×V)):St:={ s with fr:=ov l s.fr }
def Tr.beq{α:Type}(eq:α->α->Bool):Tr α->Tr α->Bool
 | .nil,.nil=>true
 | .node a l r,.node b l' r'=>(match a,b with|none,none=>true|some a,some b=>eq a b|_,_=>false)&&(Tr.beq eq l l'&&Tr.beq eq r r')
 |_,_=>false
theorem Tr.beq_eq{α:Type}{eq:α->α->Bool}(h:∀a b,eq a b=true->a=b):∀(t u:Tr α),Tr.beq eq t u=true->t=u
 | .nil,.nil,_=>rfl
 | .nil,.node _ _ _,e=>by simp[Tr.beq]at e
 | .node _ _ _,.nil,e=>by simp[Tr.beq]at e
 | .node a l r,.node b l' r',e=>by
   simp only[Tr.beq,aC]at e;rw[Tr.beq_eq h l l' e.2.1,Tr.beq_eq h r r' e.2.2];cases a<;>cases b<;>first|rfl|(simp at e;done)|skip
   rw[h _ _ e.1]
def v7:List (V×V×Nat)->List (V×V×Nat)->Bool
 | [],[]=>true
 |x::xs,y::ys=>(V.beq x.1 y.1&&V.beq x.2.1 y.2.1)&&(Nat.beq x.2.2 y.2.2&&v7 xs ys)
 |_,_=>false
theorem CP:∀(a b:List (V×V×Nat)),v7 a b=true->a=b
 | [],[],_=>rfl
 | [],_::_,h=>by simp[v7]at h
 |_::_,[],h=>by simp[v7]at h
 |(k,v,n)::xs,(k',v',n')::ys,h=>by
  simp only[v7,aC]at h;rw[beq_eq _ _ h.1.1,beq_eq _ _ h.1.2,aD h.2.1,CP xs ys h.2.2]
def O.beq:O->O->Bool
 | .cells a,.cells b=>V.pI a b
 | .map a c,.map b d=>v7 a b&&Nat.beq c d
 | .nH a p,.nH b q=>eG a b&&Nat.beq p q
 | .ints k a,.ints j b=>decide (k=j)&&decide (a=b)
 |_,_=>false
theorem O.beq_eq(a b:O)(h:O.beq a b=true):a=b:=by
 cases a<;>cases b<;>simp only[O.beq,aO,aC]at h
 . rw[th _ _ h]
 . rw[CP _ _ h.1,aD h.2]
 . rw[fR]at h;rw[eq_of_beq h.1,aD h.2]
 . rw[aH h.1,aH h.2]
def St.beq(a b:St):Bool:=Tr.beq V.beq a.fr b.fr&&(Tr.beq O.beq a.h b.h&&(Nat.beq a.n b.n&&(a.gz.isEmpty&&b.gz.isEmpty)))
theorem St.beq_eq{a b:St}(h:St.beq a b=true):a=b:=by
 simp only[St.beq,aC,List.isEmpty_iff]at h;obtain⟨h1,h2,h3,h4,h5⟩:=h;have e1:=Tr.beq_eq Go.Eng.beq_eq _ _ h1;have e2:=Tr.beq_eq O.beq_eq _ _ h2;have e3:=aD h3;cases a;cases b;simp_all
def St.cell(s:St)(m i:Nat)(v:V):St:=match s.h.get m with
 |some (.cells cs)=>match Nat.blt m fL with
  |true=>{ s with h:=s.h.set m (some (.cells (cs.set i v))) }
  |false=>s
 |_=>s
end
mutual
def V.qZ:V->Bool
 | .fn (.func _) a c=>V.qA a&&V.qA c
 | .fn _ _ _=>false
 | .iface _ x=>V.qZ x
 | .agg cs=>V.qA cs
 | .ew cs=>V.qA cs
 |_=>true
def V.qA:ag->Bool
 | []=>true
 |x::xs=>V.qZ x&&V.qA xs
end
mutual
theorem V.beq_refl:∀v:V,v.qZ=true->V.beq v v=true
 | .bool b,_=>by cases b<;>rfl
 | .int k n,_=>by simp[V.beq]
 | .str s,_=>by simp[V.beq,fR]
 | .ptr none,_=>rfl
 | .ptr (some (m,o)),_=>by simp[V.beq,qQ]
 | .dj none l c e,_=>by simp[V.beq,qQ]
 | .dj (some (m,o)) l c e,_=>by simp[V.beq,qQ]
 | .map none,_=>rfl
 | .map (some m),_=>by simp[V.beq,FQ]
 | .fn f a c,h=>by
   cases f<;>simp only[V.qZ,aO,aC]at h;simp[V.beq,Pt,V.rX a h.1,V.rX c h.2]
 | .kG,_=>rfl
 | .iface t x,h=>by simp only[V.qZ]at h;simp[V.beq,V.beq_refl x h]
 | .nilIface,_=>rfl
 | .agg cs,h=>by simp only[V.qZ]at h;simp[V.beq,V.rX cs h]
 | .ew cs,h=>by simp only[V.qZ]at h;simp[V.beq,V.rX cs h]
 | .dO f n cs,_=>by simp[V.beq,qt cs]
 | .dm cs,_=>by simp[V.beq,qt cs]
theorem V.rX:∀vs:ag,V.qA vs=true->V.pI vs vs=true
 | [],_=>rfl
 |x::xs,h=>by simp only[V.qA,aC]at h;simp[V.pI,V.beq_refl x h.1,V.rX xs h.2]
end
inductive Ob where
 |same (a b:V)
 |call (f:FuncId) (args:ag) (v:V)
def Ob.ok(cf:fM):Ob->Prop
 | .same a b=>a=b
 | .call f args v=>∀h n,cf f args h n=some (.ret v,h,n)
def ah2(f:FuncId)(cf:fM):fM:=fun g args h n=>match Nat.beq g f with
 |true=>none
 |false=>cf g args h n
end Go.Eng
