/- Lemmas of the engine. No conditions. -/
import Derived.Test.YtmjggdmekboefaaGreatJointW04
set_option linter.unusedVariables false
set_option linter.unusedSimpArgs false
set_option linter.unusedSectionVars false
namespace Go.Eng
open Go Go.RowKit
def F8(h:I es)(m:Nat):Option (ai):=match h.get m with
 |some o=>CP o
 |none=>none
theorem Qz{E:Env}{h:I es}{w:World}{args a2:ag}{fm:ah}{dQ:List Value}(g:Good E h w)(e:vR (F8 h) args=some (fm,a2))(hA:∀a∈fm,a)(ra:eC E args dQ):
  ∃φ,Tf φ w/\(∀b c,E.φ b=some c->φ b=some c)/\eC ⟨E.ι,E.β,φ⟩ a2 dQ:=by
 have XF:∀m cs,F8 h m=some cs->∃o,h.get m=some o/\CP o=some cs:=by
  intro m cs q;unfold F8 at q;split at q
  . rename_i o ho;exact⟨o,ho,q⟩
  . cases q
 have qx:∀b c,E.φ b=some c->vS E (F8 h) w b=some c:=by
  intro b c q;unfold vS;rw[aA];. exact q
  rintro⟨m,R,h1,h3⟩;obtain⟨cs,qu⟩:=bI.1 h1;obtain⟨o,k1,k2⟩:=XF m cs qu;exact(g.jo b c q).2 m R ⟨o,k1,Bx k2⟩ h3
 refine⟨vS E (F8 h) w,fun b c q=>?_,qx,lG (iX:=F8 h) (E:=E) (E':=⟨E.ι,E.β,vS E (F8 h) w⟩) (fun m cs qu b R Y=>?_) (fun _=>rfl) rfl qx _ _ _ _ e hA ra⟩
 . unfold vS at q;split at q
   . split at q
     . rename_i c' el fz N;cases q;exact⟨el,fz,N⟩
     . cases q
   . exact g.fz b c q
 . obtain⟨o,k1,k2⟩:=XF m cs qu;obtain⟨b',t,q1,q2⟩:=g.rel m o k1;rw[Y]at q1;cases q1;obtain⟨c,el,fz,vs,p1,p2,p3⟩:=IB k2 q2;refine⟨c,vs,?_,iP qx _ _ p2,p3⟩;show vS E (F8 h) w b=some c;unfold vS;rw[aD ⟨m,R,by rw[qu];rfl,Y⟩,p1]
def yz(sp:ai->Option (ah×V)):ag->I es->Nat->Option (ah×V×I es×Nat):=fun args h n=>match vR (F8 h) args with
 |some (fm,a2)=>match EO a2 with
  |some ds=>match sp ds with
   |some (aj,v)=>match v.free with
    |true=>some (fm++aj,v,h,n)
    |false=>none
   |none=>none
  |none=>none
 |none=>none
theorem yA{P:Program}{f:FuncId}{sp:ai->Option (ah×V)}(eY:Nat.blt f P.funcs.size=true)(hp:∀ds fm v,sp ds=some (fm,v)->(∀a∈fm,a)->dV P f (ds.map D.kH) v):kj P f (yz sp):=by
 refine⟨aE eY,fun args h n fm v C n2 e hA E w dQ ra g hd N=>?_⟩;unfold yz at e;split at e
 case h_2=>cases e
 rename_i A1 a2 e1;split at e
 case h_2=>cases e
 rename_i ds e2;split at e
 case h_2=>cases e
 rename_i aj v' e3;split at e
 case h_2=>cases e
 rename_i hf;simp only[aq,aB]at e;obtain⟨rfl,rfl,rfl,rfl⟩:=e;obtain⟨φ,mN,qx,VS⟩:=Qz g e1 (fun a ha=>hA a (by simp[ha])) ra;have ra3:=zN e2 VS;have ra4:eC (Bf φ) (ds.map D.kH) dQ:=lN (E:=⟨E.ι,E.β,φ⟩) (E':=Bf φ) (fun _ _ q=>q) _ _ (PO ds) ra3;exact(hp ds aj v' e3 (fun a ha=>hA a (by simp[ha])) (Bf φ) .nil gN w dQ ra4 (wZ g.wg mN) (CD (aK _))).mono fun en w' c=>by
  obtain⟨ho,b⟩:=qI xb c;exact uX g hd hf ho b
end Go.Eng
