/- Lemmas of the engine. No conditions. -/
import Derived.Test.YtmjggdmekboefaaGreatJointW04
set_option linter.unusedVariables false
set_option linter.unusedSimpArgs false
set_option linter.unusedSectionVars false
namespace Go.Eng
open Go Go.RowKit
def Fp(h:I O)(m:Nat):Option (ai):=match h.get m with
 |some o=>Cl o
 |none=>none
theorem Pp{E:Env}{h:I O}{w:World}{args a2:ag}{s':ah}{dF:List Value}(g:Good E h w)(e:vu (Fp h) args=some (s',a2))(hA:∀a∈s',a)(ra:dV E args dF):
  ∃φ,RU φ w/\(∀b c,E.φ b=some c->φ b=some c)/\dV ⟨E.ι,E.β,φ⟩ a2 dF:=by
 have VU:∀m T,Fp h m=some T->∃o,h.get m=some o/\Cl o=some T:=by
  intro m T q;unfold Fp at q;split at q
  . rename_i o ho;exact⟨o,ho,q⟩
  . cases q
 have qf:∀b c,E.φ b=some c->vw E (Fp h) w b=some c:=by
  intro b c q;unfold vw;rw[aB];. exact q
  rintro⟨m,A,Q,h3⟩;obtain⟨T,qb⟩:=bA.1 Q;obtain⟨o,k1,k2⟩:=VU m T qb;exact(g.iu b c q).2 m A ⟨o,k1,A8 k2⟩ h3
 refine⟨vw E (Fp h) w,fun b c q=>?_,qf,kY (fr:=Fp h) (E:=E) (E':=⟨E.ι,E.β,vw E (Fp h) w⟩) (fun m T qb b A hb=>?_) (fun _=>rfl) rfl qf _ _ _ _ e hA ra⟩
 . unfold vw at q;split at q
   . split at q
     . rename_i c' el fz K;cases q;exact⟨el,fz,K⟩
     . cases q
   . exact g.fz b c q
 . obtain⟨o,k1,k2⟩:=VU m T qb;obtain⟨b',t,q1,q2⟩:=g.rel m o k1;rw[hb]at q1;cases q1;obtain⟨c,el,fz,vs,p1,p2,p3⟩:=Hq k2 q2;refine⟨c,vs,?_,iz qf _ _ p2,p3⟩;show vw E (Fp h) w b=some c;unfold vw;rw[aE ⟨m,A,by rw[qb];rfl,hb⟩,p1]
def vP(sp:ai->Option (ah×V)):ag->I O->Nat->Option (ah×V×I O×Nat):=fun args h n=>match vu (Fp h) args with
 |some (s',a2)=>match Ea a2 with
  |some ds=>match sp ds with
   |some (aj,v)=>match v.free with
    |true=>some (s'++aj,v,h,n)
    |false=>none
   |none=>none
  |none=>none
 |none=>none
theorem x8{P:Program}{f:FuncId}{sp:ai->Option (ah×V)}(eM:Nat.blt f P.funcs.size=true)(hp:∀ds s' v,sp ds=some (s',v)->(∀a∈s',a)->dS P f (ds.map D.jJ) v):kE P f (vP sp):=by
 refine⟨az eM,fun args h n s' v R n2 e hA E w dF ra g hd K=>?_⟩;unfold vP at e;split at e
 case h_2=>cases e
 rename_i A1 a2 e1;split at e
 case h_2=>cases e
 rename_i ds e2;split at e
 case h_2=>cases e
 rename_i aj v' e3;split at e
 case h_2=>cases e
 rename_i hf;simp only[aq,aF]at e;obtain⟨rfl,rfl,rfl,rfl⟩:=e;obtain⟨φ,mC,qf,Up⟩:=Pp g e1 (fun a ha=>hA a (by simp[ha])) ra;have ra3:=zg e2 Up;have ra4:dV (AW φ) (ds.map D.jJ) dF:=lD (E:=⟨E.ι,E.β,φ⟩) (E':=AW φ) (fun _ _ q=>q) _ _ (OA ds) ra3;exact(hp ds aj v' e3 (fun a ha=>hA a (by simp[ha])) (AW φ) .nil gN w dF ra4 (wA g.wg mC) (B6 (aK _))).mono fun en w' c=>by
  obtain⟨ho,b⟩:=qx wG c;exact uD g hd hf ho b
end Go.Eng
