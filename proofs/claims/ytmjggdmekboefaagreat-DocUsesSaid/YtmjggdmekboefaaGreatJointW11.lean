/- Lemmas of the engine. No conditions. -/
import Derived.Test.YtmjggdmekboefaaGreatJointW04
set_option linter.unusedVariables false
set_option linter.unusedSimpArgs false
set_option linter.unusedSectionVars false
namespace Go.Eng
open Go Go.RowKit
def acP(args:ag)(h:I O):Option (List (Option Nat)):=match G6 h 100000 (V.sM args []) (RW gN) (E4 gN) gN with
 |some (_,oc,_)=>some (oc.reverse.map some)
 |none=>none
def Av(μ:Nat->Option Nat)(h:I O):List (Option Nat)->Nat->I O->Option (I O)
 | [],_,t=>some t
 |none::r,j,t=>Av μ h r (j+1) t
 |some m::r,j,t=>match h.get m with
  |some o=>match o.rn μ with
   |some o1=>match Nat.blt j fV with
    |true=>Av μ h r (j+1) (t.set j (some o1))
    |false=>none
   |none=>none
  |none=>Av μ h r (j+1) t
def HY(h:I O):List (Option Nat)->Bool
 | []=>true
 |none::r=>HY h r
 |some m::r=>(tK.any (fun p=>Nat.beq p.2 m)||(h.get m).isSome)&&HY h r
def acQ(ns:List (Option Nat)):Bool:=tK.all fun p=>match ns.getD p.2 none with
 |some k=>Nat.beq k p.2
 |none=>false
theorem yj{h:I O}:∀{ns:List (Option Nat)},HY h ns=true->∀j m,ns.getD j none=some m->(∃p∈tK,p.2=m)\/h.get m≠none
 | [],_,j,m,e=>by simp at e
 |none::r,Q,j,m,e=>by
  cases j with
  |zero=>simp at e
  |succ j=>exact yj (ns:=r) Q j m (by simpa using e)
 |some k::r,Q,j,m,e=>by
  simp only[HY,ay]at Q;cases j with
  |zero=>
   have:k=m:=by simpa using e
   subst this;rcases(bV ..).mp Q.1 with q|q
   . obtain⟨p,hp,e2⟩:=List.any_eq_true.1 q;exact .inl ⟨p,hp,aA e2⟩
   . exact .inr (by intro z;rw[z]at q;cases q)
  |succ j=>exact yj (ns:=r) Q.2 j m (by simpa using e)
theorem uQ{μ:Nat->Option Nat}{h:I O}:∀(r:List (Option Nat)) (j0:Nat) (t t2:I O),Av μ h r j0 t=some t2->∀j o1,t2.get j=some o1->t.get j=some o1\/∃i m o,j=j0+i/\r.getD i none=some m/\h.get m=some o/\o.rn μ=some o1
 | [],_,t,t2,e,j,o1,hj=>by
   simp only[Av,aq]at e;subst e;exact .inl hj
 |none::r,j0,t,t2,e,j,o1,hj=>by
  simp only[Av]at e;rcases uQ r (j0+1) t t2 e j o1 hj with q|⟨i,m,o,Q,R,h3,h4⟩
  . exact .inl q
  . exact .inr ⟨i+1,m,o,G,by simpa using R,h3,h4⟩
 |some k::r,j0,t,t2,e,j,o1,hj=>by
  simp only[Av]at e;split at e
  . rename_i o ho;split at e
    . rename_i o2 N0;split at e
      . rename_i hb;rcases uQ r (j0+1) _ t2 e j o1 hj with q|⟨i,m,o,Q,R,h3,h4⟩
        . rw[I.fF _ _ _ (az hb)]at q;split at q
          . rename_i e2;obtain rfl:=eB q;exact .inr ⟨0,k,o,G,rfl,ho,N0⟩
          . exact .inl q
        . exact .inr ⟨i+1,m,o,G,by simpa using R,h3,h4⟩
      . cases e
    . cases e
  . rcases uQ r (j0+1) t t2 e j o1 hj with q|⟨i,m,o,Q,R,h3,h4⟩
    . exact .inl q
    . exact .inr ⟨i+1,m,o,G,by simpa using R,h3,h4⟩
def wT(sp:ag->I O->Nat->Option (ah×V×I O×Nat)):ag->I O->Nat->Option (ah×V×I O×Nat):=fun args h n=>match acP args h with
 |some ns=>match acQ ns&&(zj ns&&HY h ns)with
  |true=>match V.Jb (mu ns) args,Av (mu ns) h ns 0 .nil with
   |some rP,some Q=>match sp rP Q ns.length with
    |some (s',v1,ot,Jo)=>match OE ns Q (v1,ot,Jo) h n with
     |some (v,R,n2)=>some (s',v,R,n2)
     |none=>none
    |none=>none
   |_,_=>none
  |false=>none
 |none=>none
theorem Lc{P:Program}(S:P.follows .mixedOrders=true)(r9:jC P=true){f:FuncId}{fn:Func}{code:Code}{sp:ag->I O->Nat->Option (ah×V×I O×Nat)}(eM:f<P.funcs.size)(hf:P.funcs[f]? =some fn)(hb:fn.body=some code)
  (hT:∀args h k s' v h' k',sp args h k=some (s',v,h',k')->(∀a∈s',a)->(Nat.ble args.length fn.ntmps&&Nat.blt fn.ntmps fV)=true/\TG P k fn.ntmps code (dw args h k) (fD P k fn fun a b c=>a=v/\b=h'/\c=k')):kE P f (wT sp):=by
 refine⟨eM,fun args h n s' v R n2 e hA E w dF ra g hd K=>?_⟩;unfold wT at e;split at e
 case h_2=>cases e
 rename_i ns Iq;split at e
 case h_2=>cases e
 rename_i Zd;split at e
 case h_2=>cases e
 rename_i rP Q ha1 hh1;split at e
 case h_2=>cases e
 rename_i A1 v1 ot Jo Da;split at e
 case h_2=>cases e
 rename_i v3 h3 n3 he;simp only[aq,aF]at e;obtain⟨rfl,rfl,rfl,rfl⟩:=e;simp only[ay]at Zd;obtain⟨b1,b2,b3⟩:=Zd;obtain⟨l,hTG⟩:=hT _ _ _ _ _ _ _ Da hA;refine Mo S r9 hf hb l ⟨fun p hp=>?_,b2,yj b3,fun j o1 hj=>?_⟩ ha1 he hTG ra g hd
 . have:=bq.1 b1 p hp;split at this
   . rename_i k Y;rw[Y,aA this]
   . cases this
 . rcases uQ ns 0 .nil Q hh1 j o1 hj with q|⟨i,m,o,q1,q2,q3,q4⟩
   . simp[I.get]at q
   . obtain rfl:j=i:=by omega
     exact⟨m,o,q2,q3,q4⟩
end Go.Eng
