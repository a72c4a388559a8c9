/- Lemmas of the engine. No conditions. -/
import Derived.Test.YtmjggdmekboefaaGreatJointW04
set_option linter.unusedVariables false
set_option linter.unusedSimpArgs false
set_option linter.unusedSectionVars false
namespace Go.Eng
open Go Go.RowKit
def adT(args:ag)(h:J h2):Option (List (Option Nat)):=match HP h 100000 (V.sZ args []) (SQ gN) (FC gN) gN with
 |some (_,oq,_)=>some (oq.reverse.map some)
 |none=>none
def AN(μ:Nat->Option Nat)(h:J h2):List (Option Nat)->Nat->J h2->Option (J h2)
 | [],_,t=>some t
 |none::r,j,t=>AN μ h r (j+1) t
 |some m::r,j,t=>match h.get m with
  |some o=>match o.rn μ with
   |some o1=>match Nat.blt j fZ with
    |true=>AN μ h r (j+1) (t.set j (some o1))
    |false=>none
   |none=>none
  |none=>AN μ h r (j+1) t
def II(h:J h2):List (Option Nat)->Bool
 | []=>true
 |none::r=>II h r
 |some m::r=>(tX.any (fun p=>Nat.beq p.2 m)||(h.get m).isSome)&&II h r
def adU(ns:List (Option Nat)):Bool:=tX.all fun p=>match ns.getD p.2 none with
 |some k=>Nat.beq k p.2
 |none=>false
theorem yD{h:J h2}:∀{ns:List (Option Nat)},II h ns=true->∀j m,ns.getD j none=some m->(∃p∈tX,p.2=m)\/h.get m≠none
 | [],_,j,m,e=>by simp at e
 |none::r,Q,j,m,e=>by
  cases j with
  |zero=>simp at e
  |succ j=>exact yD (ns:=r) Q j m (by simpa using e)
 |some k::r,Q,j,m,e=>by
  simp only[II,ay]at Q;cases j with
  |zero=>
   have:k=m:=by simpa using e
   subst this;rcases(bX ..).mp Q.1 with q|q
   . obtain⟨p,hp,e2⟩:=List.any_eq_true.1 q;exact .inl ⟨p,hp,aA e2⟩
   . exact .inr (by intro z;rw[z]at q;cases q)
  |succ j=>exact yD (ns:=r) Q.2 j m (by simpa using e)
theorem vb{μ:Nat->Option Nat}{h:J h2}:∀(r:List (Option Nat)) (j0:Nat) (t t2:J h2),AN μ h r j0 t=some t2->∀j o1,t2.get j=some o1->t.get j=some o1\/∃i m o,j=j0+i/\r.getD i none=some m/\h.get m=some o/\o.rn μ=some o1
 | [],_,t,t2,e,j,o1,hj=>by
   simp only[AN,aq]at e;subst e;exact .inl hj
 |none::r,j0,t,t2,e,j,o1,hj=>by
  simp only[AN]at e;rcases vb r (j0+1) t t2 e j o1 hj with q|⟨i,m,o,Q,O,h3,h4⟩
  . exact .inl q
  . exact .inr ⟨i+1,m,o,H,by simpa using O,h3,h4⟩
 |some k::r,j0,t,t2,e,j,o1,hj=>by
  simp only[AN]at e;split at e
  . rename_i o ho;split at e
    . rename_i o2 OK;split at e
      . rename_i hb;rcases vb r (j0+1) _ t2 e j o1 hj with q|⟨i,m,o,Q,O,h3,h4⟩
        . rw[J.fJ _ _ _ (az hb)]at q;split at q
          . rename_i e2;obtain rfl:=eH q;exact .inr ⟨0,k,o,H,rfl,ho,OK⟩
          . exact .inl q
        . exact .inr ⟨i+1,m,o,H,by simpa using O,h3,h4⟩
      . cases e
    . cases e
  . rcases vb r (j0+1) t t2 e j o1 hj with q|⟨i,m,o,Q,O,h3,h4⟩
    . exact .inl q
    . exact .inr ⟨i+1,m,o,H,by simpa using O,h3,h4⟩
def oB(sp:ag->J h2->Nat->Option (ah×V×J h2×Nat)):ag->J h2->Nat->Option (ah×V×J h2×Nat):=fun args h n=>match adT args h with
 |some ns=>match adU ns&&(zC ns&&II h ns)with
  |true=>match V.JO (mu ns) args,AN (mu ns) h ns 0 .nil with
   |some rY,some Q=>match sp rY Q ns.length with
    |some (aj,v1,oG,J2)=>match Pm ns Q (v1,oG,J2) h n with
     |some (v,O,n2)=>some (aj,v,O,n2)
     |none=>none
    |none=>none
   |_,_=>none
  |false=>none
 |none=>none
theorem LM{P:Program}(K:P.follows .mixedOrders=true)(sF:jJ P=true){f:FuncId}{fn:Func}{code:Code}{sp:ag->J h2->Nat->Option (ah×V×J h2×Nat)}(eO:f<P.funcs.size)(hf:P.funcs[f]? =some fn)(hb:fn.body=some code)
  (hT:∀args h k aj v h' k',sp args h k=some (aj,v,h',k')->(∀a∈aj,a)->(Nat.ble args.length fn.ntmps&&Nat.blt fn.ntmps fZ)=true/\TG P k fn.ntmps code (dy args h k) (fH P k fn fun a b c=>a=v/\b=h'/\c=k')):jK P f (oB sp):=by
 refine⟨eO,fun args h n aj v O n2 e hA E w dH ra g hd B=>?_⟩;unfold oB at e;split at e
 case h_2=>cases e
 rename_i ns I7;split at e
 case h_2=>cases e
 rename_i hbs;split at e
 case h_2=>cases e
 rename_i rY Q ha1 hh1;split at e
 case h_2=>cases e
 rename_i A1 v1 oG J2 DK;split at e
 case h_2=>cases e
 rename_i v3 h3 n3 he;simp only[aq,aF]at e;obtain⟨rfl,rfl,rfl,rfl⟩:=e;simp only[ay]at hbs;obtain⟨b1,b2,b3⟩:=hbs;obtain⟨l,hTG⟩:=hT _ _ _ _ _ _ _ DK hA;refine M3 K sF hf hb l ⟨fun p hp=>?_,b2,yD b3,fun j o1 hj=>?_⟩ ha1 he hTG ra g hd
 . have:=br.1 b1 p hp;split at this
   . rename_i k W;rw[W,aA this]
   . cases this
 . rcases vb ns 0 .nil Q hh1 j o1 hj with q|⟨i,m,o,q1,q2,q3,q4⟩
   . simp[J.get]at q
   . obtain rfl:j=i:=by omega
     exact⟨m,o,q2,q3,q4⟩
end Go.Eng
