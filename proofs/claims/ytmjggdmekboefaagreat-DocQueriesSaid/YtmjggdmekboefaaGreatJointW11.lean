/- Lemmas of the engine. No conditions. -/
import Derived.Test.YtmjggdmekboefaaGreatJointW04
set_option linter.unusedVariables false
set_option linter.unusedSimpArgs false
set_option linter.unusedSectionVars false
namespace Go.Eng
open Go Go.RowKit
def afA(args:ag)(h:I es):Option (List (Option Nat)):=match Mf h 100000 (V.tx args []) (Yd gN) (KB gN) gN with
 |some (_,rF,_)=>some (rF.reverse.map some)
 |none=>none
def Bt(μ:Nat->Option Nat)(h:I es):List (Option Nat)->Nat->I es->Option (I es)
 | [],_,t=>some t
 |none::r,j,t=>Bt μ h r (j+1) t
 |some m::r,j,t=>match h.get m with
  |some o=>match o.rn μ with
   |some o1=>match Nat.blt j gO with
    |true=>Bt μ h r (j+1) (t.set j (some o1))
    |false=>none
   |none=>none
  |none=>Bt μ h r (j+1) t
def Jt(h:I es):List (Option Nat)->Bool
 | []=>true
 |none::r=>Jt h r
 |some m::r=>(ux.any (fun p=>Nat.beq p.2 m)||(h.get m).isSome)&&Jt h r
def afB(ns:List (Option Nat)):Bool:=ux.all fun p=>match ns.getD p.2 none with
 |some k=>Nat.beq k p.2
 |none=>false
theorem za{h:I es}:∀{ns:List (Option Nat)},Jt h ns=true->∀j m,ns.getD j none=some m->(∃p∈ux,p.2=m)\/h.get m≠none
 | [],_,j,m,e=>by simp at e
 |none::r,h1,j,m,e=>by
  cases j with
  |zero=>simp at e
  |succ j=>exact za (ns:=r) h1 j m (by simpa using e)
 |some k::r,h1,j,m,e=>by
  simp only[Jt,ay]at h1;cases j with
  |zero=>
   have:k=m:=by simpa using e
   subst this;rcases(cq ..).mp h1.1 with q|q
   . obtain⟨p,hp,e2⟩:=List.any_eq_true.1 q;exact .inl ⟨p,hp,aJ e2⟩
   . exact .inr (by intro z;rw[z]at q;cases q)
  |succ j=>exact za (ns:=r) h1.2 j m (by simpa using e)
theorem vA{μ:Nat->Option Nat}{h:I es}:∀(r:List (Option Nat)) (j0:Nat) (t t2:I es),Bt μ h r j0 t=some t2->∀j o1,t2.get j=some o1->t.get j=some o1\/∃i m o,j=j0+i/\r.getD i none=some m/\h.get m=some o/\o.rn μ=some o1
 | [],_,t,t2,e,j,o1,hj=>by
   simp only[Bt,aq]at e;subst e;exact .inl hj
 |none::r,j0,t,t2,e,j,o1,hj=>by
  simp only[Bt]at e;rcases vA r (j0+1) t t2 e j o1 hj with q|⟨i,m,o,h1,C,h3,h4⟩
  . exact .inl q
  . exact .inr ⟨i+1,m,o,S,by simpa using C,h3,h4⟩
 |some k::r,j0,t,t2,e,j,o1,hj=>by
  simp only[Bt]at e;split at e
  . rename_i o ho;split at e
    . rename_i o2 PL;split at e
      . rename_i U;rcases vA r (j0+1) _ t2 e j o1 hj with q|⟨i,m,o,h1,C,h3,h4⟩
        . rw[I.gC _ _ _ (aE U)]at q;split at q
          . rename_i e2;obtain rfl:=eZ q;exact .inr ⟨0,k,o,S,rfl,ho,PL⟩
          . exact .inl q
        . exact .inr ⟨i+1,m,o,S,by simpa using C,h3,h4⟩
      . cases e
    . cases e
  . rcases vA r (j0+1) t t2 e j o1 hj with q|⟨i,m,o,h1,C,h3,h4⟩
    . exact .inl q
    . exact .inr ⟨i+1,m,o,S,by simpa using C,h3,h4⟩
def nG(sp:ag->I es->Nat->Option (ah×V×I es×Nat)):ag->I es->Nat->Option (ah×V×I es×Nat):=fun args h n=>match afA args h with
 |some ns=>match afB ns&&(Ak ns&&Jt h ns)with
  |true=>match V.KA (mu ns) args,Bt (mu ns) h ns 0 .nil with
   |some sH,some h1=>match sp sH h1 ns.length with
    |some (hc,v1,oU,KN)=>match Qs ns h1 (v1,oU,KN) h n with
     |some (v,C,n2)=>some (hc,v,C,n2)
     |none=>none
    |none=>none
   |_,_=>none
  |false=>none
 |none=>none
theorem GW{P:Program}(L:P.follows .mixedOrders=true)(sW:kn P=true){f:FuncId}{fn:Func}{code:Code}{sp:ag->I es->Nat->Option (ah×V×I es×Nat)}(fj:f<P.funcs.size)(hf:P.funcs[f]? =some fn)(U:fn.body=some code)
  (hT:∀args h k hc v h' k',sp args h k=some (hc,v,h',k')->(∀a∈hc,a)->(Nat.ble args.length fn.ntmps&&Nat.blt fn.ntmps gO)=true/\TG P k fn.ntmps code (dI args h k) (gi P k fn fun a b c=>a=v/\b=h'/\c=k')):jM P f (nG sp):=by
 refine⟨fj,fun args h n hc v C n2 e hA E w dZ ra g hd A=>?_⟩;unfold nG at e;split at e
 case h_2=>cases e
 rename_i ns JU;split at e
 case h_2=>cases e
 rename_i hbs;split at e
 case h_2=>cases e
 rename_i sH h1 ha1 hh1;split at e
 case h_2=>cases e
 rename_i A1 v1 oU KN D0;split at e
 case h_2=>cases e
 rename_i v3 h3 n3 he;simp only[aq,aB]at e;obtain⟨rfl,rfl,rfl,rfl⟩:=e;simp only[ay]at hbs;obtain⟨b1,b2,b3⟩:=hbs;obtain⟨l,hTG⟩:=hT _ _ _ _ _ _ _ D0 hA;refine N2 L sW hf U l ⟨fun p hp=>?_,b2,za b3,fun j o1 hj=>?_⟩ ha1 he hTG ra g hd
 . have:=bw.1 b1 p hp;split at this
   . rename_i k hk;rw[hk,aJ this]
   . cases this
 . rcases vA ns 0 .nil h1 hh1 j o1 hj with q|⟨i,m,o,q1,q2,q3,q4⟩
   . simp[I.get]at q
   . obtain rfl:j=i:=by omega
     exact⟨m,o,q2,q3,q4⟩
end Go.Eng
