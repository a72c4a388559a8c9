/- Lemmas of the engine. No conditions. -/
import Derived.Test.YtmjggdmekboefaaGreatJointW04
set_option linter.unusedVariables false
set_option linter.unusedSimpArgs false
set_option linter.unusedSectionVars false
namespace Go.Eng
open Go Go.RowKit
def FZ(h:J h2)(m:Nat):Option (ai):=match h.get m with
 |some o=>CL o
 |none=>none
theorem P9{E:Env}{h:J h2}{w:World}{args a2:ag}{aj:ah}{dH:List Value}(g:Good E h w)(e:vM (FZ h) args=some (aj,a2))(hA:∀a∈aj,a)(ra:dZ E args dH):
  ∃φ,SO φ w/\(∀b c,E.φ b=some c->φ b=some c)/\dZ ⟨E.ι,E.β,φ⟩ a2 dH:=by
 have WM:∀m R,FZ h m=some R->∃o,h.get m=some o/\CL o=some R:=by
  intro m R q;unfold FZ at q;split at q
  . rename_i o ho;exact⟨o,ho,q⟩
  . cases q
 have qw:∀b c,E.φ b=some c->vN E (FZ h) w b=some c:=by
  intro b c q;unfold vN;rw[aB];. exact q
  rintro⟨m,X,Q,h3⟩;obtain⟨R,qq⟩:=bH.1 Q;obtain⟨o,k1,k2⟩:=WM m R qq;exact(g.iz b c q).2 m X ⟨o,k1,Bt k2⟩ h3
 refine⟨vN E (FZ h) w,fun b c q=>?_,qw,lj (n0:=FZ h) (E:=E) (E':=⟨E.ι,E.β,vN E (FZ h) w⟩) (fun m R qq b X hb=>?_) (fun _=>rfl) rfl qw _ _ _ _ e hA ra⟩
 . unfold vN at q;split at q
   . split at q
     . rename_i c' el fz B;cases q;exact⟨el,fz,B⟩
     . cases q
   . exact g.fz b c q
 . obtain⟨o,k1,k2⟩:=WM m R qq;obtain⟨b',t,q1,q2⟩:=g.rel m o k1;rw[hb]at q1;cases q1;obtain⟨c,el,fz,vs,p1,p2,p3⟩:=H8 k2 q2;refine⟨c,vs,?_,iC qw _ _ p2,p3⟩;show vN E (FZ h) w b=some c;unfold vN;rw[aG ⟨m,X,by rw[qq];rfl,hb⟩,p1]
def wo(sp:ai->Option (ah×V)):ag->J h2->Nat->Option (ah×V×J h2×Nat):=fun args h n=>match vM (FZ h) args with
 |some (aj,a2)=>match EG a2 with
  |some ds=>match sp ds with
   |some (hc,v)=>match v.free with
    |true=>some (aj++hc,v,h,n)
    |false=>none
   |none=>none
  |none=>none
 |none=>none
theorem yq{P:Program}{f:FuncId}{sp:ai->Option (ah×V)}(eO:Nat.blt f P.funcs.size=true)(hp:∀ds aj v,sp ds=some (aj,v)->(∀a∈aj,a)->dU P f (ds.map D.jQ) v):jK P f (wo sp):=by
 refine⟨az eO,fun args h n aj v O n2 e hA E w dH ra g hd B=>?_⟩;unfold wo at e;split at e
 case h_2=>cases e
 rename_i A1 a2 e1;split at e
 case h_2=>cases e
 rename_i ds e2;split at e
 case h_2=>cases e
 rename_i hc v' e3;split at e
 case h_2=>cases e
 rename_i hf;simp only[aq,aF]at e;obtain⟨rfl,rfl,rfl,rfl⟩:=e;obtain⟨φ,mc,qw,Vh⟩:=P9 g e1 (fun a ha=>hA a (by simp[ha])) ra;have ra3:=zz e2 Vh;have ra4:dZ (Bo φ) (ds.map D.jQ) dH:=lG (E:=⟨E.ι,E.β,φ⟩) (E':=Bo φ) (fun _ _ q=>q) _ _ (Pg ds) ra3;exact(hp ds hc v' e3 (fun a ha=>hA a (by simp[ha])) (Bo φ) .nil gN w dH ra4 (wR g.wg mc) (Cw (aK _))).mono fun en w' c=>by
  obtain⟨ho,b⟩:=qJ wX c;exact uR g hd hf ho b
end Go.Eng
