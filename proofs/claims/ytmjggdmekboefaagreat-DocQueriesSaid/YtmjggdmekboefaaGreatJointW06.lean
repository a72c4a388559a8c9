/- Lemmas of the engine. No conditions. -/
import Derived.Test.YtmjggdmekboefaaGreatJointW04
set_option linter.unusedVariables false
set_option linter.unusedSimpArgs false
set_option linter.unusedSectionVars false
namespace Go.Eng
open Go Go.RowKit
def Gy(h:I es)(m:Nat):Option (ai):=match h.get m with
 |some o=>Dh o
 |none=>none
theorem Rc{E:Env}{h:I es}{w:World}{args a2:ag}{hc:ah}{dZ:List Value}(g:Good E h w)(e:wu (Gy h) args=some (hc,a2))(hA:∀a∈hc,a)(ra:eK E args dZ):
  ∃φ,T3 φ w/\(∀b c,E.φ b=some c->φ b=some c)/\eK ⟨E.ι,E.β,φ⟩ a2 dZ:=by
 have Yr:∀m cs,Gy h m=some cs->∃o,h.get m=some o/\Dh o=some cs:=by
  intro m cs q;unfold Gy at q;split at q
  . rename_i o ho;exact⟨o,ho,q⟩
  . cases q
 have qJ:∀b c,E.φ b=some c->wv E (Gy h) w b=some c:=by
  intro b c q;unfold wv;rw[aD];. exact q
  rintro⟨m,T,h1,h3⟩;obtain⟨cs,qH⟩:=bR.1 h1;obtain⟨o,k1,k2⟩:=Yr m cs qH;exact(g.jG b c q).2 m T ⟨o,k1,BZ k2⟩ h3
 refine⟨wv E (Gy h) w,fun b c q=>?_,qJ,lR (fr:=Gy h) (E:=E) (E':=⟨E.ι,E.β,wv E (Gy h) w⟩) (fun m cs qH b T U=>?_) (fun _=>rfl) rfl qJ _ _ _ _ e hA ra⟩
 . unfold wv at q;split at q
   . split at q
     . rename_i c' el fz A;cases q;exact⟨el,fz,A⟩
     . cases q
   . exact g.fz b c q
 . obtain⟨o,k1,k2⟩:=Yr m cs qH;obtain⟨b',t,q1,q2⟩:=g.rel m o k1;rw[U]at q1;cases q1;obtain⟨c,el,fz,vs,p1,p2,p3⟩:=I4 k2 q2;refine⟨c,vs,?_,ja qJ _ _ p2,p3⟩;show wv E (Gy h) w b=some c;unfold wv;rw[aF ⟨m,T,by rw[qH];rfl,U⟩,p1]
def yQ(sp:ai->Option (ah×V)):ag->I es->Nat->Option (ah×V×I es×Nat):=fun args h n=>match wu (Gy h) args with
 |some (hc,a2)=>match Ff a2 with
  |some ds=>match sp ds with
   |some (aj,v)=>match v.free with
    |true=>some (hc++aj,v,h,n)
    |false=>none
   |none=>none
  |none=>none
 |none=>none
theorem yR{P:Program}{f:FuncId}{sp:ai->Option (ah×V)}(fj:Nat.blt f P.funcs.size=true)(hp:∀ds hc v,sp ds=some (hc,v)->(∀a∈hc,a)->ee P f (ds.map D.kx) v):jM P f (yQ sp):=by
 refine⟨aE fj,fun args h n hc v C n2 e hA E w dZ ra g hd A=>?_⟩;unfold yQ at e;split at e
 case h_2=>cases e
 rename_i A1 a2 e1;split at e
 case h_2=>cases e
 rename_i ds e2;split at e
 case h_2=>cases e
 rename_i aj v' e3;split at e
 case h_2=>cases e
 rename_i hf;simp only[aq,aB]at e;obtain⟨rfl,rfl,rfl,rfl⟩:=e;obtain⟨φ,mY,qJ,WC⟩:=Rc g e1 (fun a ha=>hA a (by simp[ha])) ra;have ra3:=Ah e2 WC;have ra4:eK (BH φ) (ds.map D.kx) dZ:=lZ (E:=⟨E.ι,E.β,φ⟩) (E':=BH φ) (fun _ _ q=>q) _ _ (Qo ds) ra3;exact(hp ds aj v' e3 (fun a ha=>hA a (by simp[ha])) (BH φ) .nil gN w dZ ra4 (xx g.wg mY) (C3 (aK _))).mono fun en w' c=>by
  obtain⟨ho,b⟩:=qW xB c;exact vi g hd hf ho b
end Go.Eng
