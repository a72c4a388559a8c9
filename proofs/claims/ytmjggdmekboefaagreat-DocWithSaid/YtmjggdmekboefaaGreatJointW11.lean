/- Lemmas of the engine. No conditions. -/
import Derived.Test.YtmjggdmekboefaaGreatJointW04
set_option linter.unusedVariables false
set_option linter.unusedSimpArgs false
set_option linter.unusedSectionVars false
namespace Go.Eng
open Go Go.RowKit
def aeV(args:ag)(h:I es):Option (List (Option Nat)):=match LG h 100000 (V.tg args []) (Xs gN) (J7 gN) gN with
 |some (_,qY,_)=>some (qY.reverse.map some)
 |none=>none
def AW(μ:Nat->Option Nat)(h:I es):List (Option Nat)->Nat->I es->Option (I es)
 | [],_,t=>some t
 |none::r,j,t=>AW μ h r (j+1) t
 |some m::r,j,t=>match h.get m with
  |some o=>match o.rn μ with
   |some o1=>match Nat.blt j gy with
    |true=>AW μ h r (j+1) (t.set j (some o1))
    |false=>none
   |none=>none
  |none=>AW μ h r (j+1) t
def I4(h:I es):List (Option Nat)->Bool
 | []=>true
 |none::r=>I4 h r
 |some m::r=>(uc.any (fun p=>Nat.beq p.2 m)||(h.get m).isSome)&&I4 h r
def aeW(ns:List (Option Nat)):Bool:=uc.all fun p=>match ns.getD p.2 none with
 |some k=>Nat.beq k p.2
 |none=>false
theorem yI{h:I es}:∀{ns:List (Option Nat)},I4 h ns=true->∀j m,ns.getD j none=some m->(∃p∈uc,p.2=m)\/h.get m≠none
 | [],_,j,m,e=>by simp at e
 |none::r,h1,j,m,e=>by
  cases j with
  |zero=>simp at e
  |succ j=>exact yI (ns:=r) h1 j m (by simpa using e)
 |some k::r,h1,j,m,e=>by
  simp only[I4,ay]at h1;cases j with
  |zero=>
   have:k=m:=by simpa using e
   subst this;rcases(cg ..).mp h1.1 with q|q
   . obtain⟨p,hp,e2⟩:=List.any_eq_true.1 q;exact .inl ⟨p,hp,aJ e2⟩
   . exact .inr (by intro z;rw[z]at q;cases q)
  |succ j=>exact yI (ns:=r) h1.2 j m (by simpa using e)
theorem vi{μ:Nat->Option Nat}{h:I es}:∀(r:List (Option Nat)) (j0:Nat) (t t2:I es),AW μ h r j0 t=some t2->∀j o1,t2.get j=some o1->t.get j=some o1\/∃i m o,j=j0+i/\r.getD i none=some m/\h.get m=some o/\o.rn μ=some o1
 | [],_,t,t2,e,j,o1,hj=>by
   simp only[AW,aq]at e;subst e;exact .inl hj
 |none::r,j0,t,t2,e,j,o1,hj=>by
  simp only[AW]at e;rcases vi r (j0+1) t t2 e j o1 hj with q|⟨i,m,o,h1,C,h3,h4⟩
  . exact .inl q
  . exact .inr ⟨i+1,m,o,S,by simpa using C,h3,h4⟩
 |some k::r,j0,t,t2,e,j,o1,hj=>by
  simp only[AW]at e;split at e
  . rename_i o ho;split at e
    . rename_i o2 Pc;split at e
      . rename_i Y;rcases vi r (j0+1) _ t2 e j o1 hj with q|⟨i,m,o,h1,C,h3,h4⟩
        . rw[I.gw _ _ _ (aE Y)]at q;split at q
          . rename_i e2;obtain rfl:=eU q;exact .inr ⟨0,k,o,S,rfl,ho,Pc⟩
          . exact .inl q
        . exact .inr ⟨i+1,m,o,S,by simpa using C,h3,h4⟩
      . cases e
    . cases e
  . rcases vi r (j0+1) t t2 e j o1 hj with q|⟨i,m,o,h1,C,h3,h4⟩
    . exact .inl q
    . exact .inr ⟨i+1,m,o,S,by simpa using C,h3,h4⟩
def vX(sp:ag->I es->Nat->Option (ah×V×I es×Nat)):ag->I es->Nat->Option (ah×V×I es×Nat):=fun args h n=>match aeV args h with
 |some ns=>match aeW ns&&(zQ ns&&I4 h ns)with
  |true=>match V.J6 (mu ns) args,AW (mu ns) h ns 0 .nil with
   |some sg,some h1=>match sp sg h1 ns.length with
    |some (fm,v1,oF,Kk)=>match PU ns h1 (v1,oF,Kk) h n with
     |some (v,C,n2)=>some (fm,v,C,n2)
     |none=>none
    |none=>none
   |_,_=>none
  |false=>none
 |none=>none
theorem Gs{P:Program}(K:P.follows .mixedOrders=true)(sJ:jT P=true){f:FuncId}{fn:Func}{code:Code}{sp:ag->I es->Nat->Option (ah×V×I es×Nat)}(eY:f<P.funcs.size)(hf:P.funcs[f]? =some fn)(Y:fn.body=some code)
  (hT:∀args h k fm v h' k',sp args h k=some (fm,v,h',k')->(∀a∈fm,a)->(Nat.ble args.length fn.ntmps&&Nat.blt fn.ntmps gy)=true/\TG P k fn.ntmps code (dB args h k) (fV P k fn fun a b c=>a=v/\b=h'/\c=k')):kj P f (vX sp):=by
 refine⟨eY,fun args h n fm v C n2 e hA E w dQ ra g hd N=>?_⟩;unfold vX at e;split at e
 case h_2=>cases e
 rename_i ns Jq;split at e
 case h_2=>cases e
 rename_i hbs;split at e
 case h_2=>cases e
 rename_i sg h1 ha1 hh1;split at e
 case h_2=>cases e
 rename_i A1 v1 oF Kk Ca;split at e
 case h_2=>cases e
 rename_i v3 h3 n3 he;simp only[aq,aB]at e;obtain⟨rfl,rfl,rfl,rfl⟩:=e;simp only[ay]at hbs;obtain⟨b1,b2,b3⟩:=hbs;obtain⟨l,hTG⟩:=hT _ _ _ _ _ _ _ Ca hA;refine Np K sJ hf Y l ⟨fun p hp=>?_,b2,yI b3,fun j o1 hj=>?_⟩ ha1 he hTG ra g hd
 . have:=br.1 b1 p hp;split at this
   . rename_i k U;rw[U,aJ this]
   . cases this
 . rcases vi ns 0 .nil h1 hh1 j o1 hj with q|⟨i,m,o,q1,q2,q3,q4⟩
   . simp[I.get]at q
   . obtain rfl:j=i:=by omega
     exact⟨m,o,q2,q3,q4⟩
end Go.Eng
