/- The engine, part MG: the end of a function by its paths, with or without a return. No conditions: lemmas alone. -/
import Derived.Test.YtfihojpgobmmdaaGreatDoorJointW08
set_option linter.unusedVariables false
set_option linter.unusedSimpArgs false
set_option linter.unusedSectionVars false
namespace Go.Eng
open Go Go.RowKit
def QW(P:Program)(n0:Nat)(fn:Func)(p:X×St):oV:=match p.1 with
 | .normal=>match Ka P n0 fn p.2 with
   |some (v,h,n)=>.ret v h n
   |none=>.bad
 | .ret=>match Ka P n0 fn p.2 with
   |some (v,h,n)=>.ret v h n
   |none=>.bad
 |_=>.bad
def ad6(P:Program)(cs:eX)(H:List (Nat×oT))(F n0:Nat)(fn:Func)(c:Code)(s:St):List (List (Bool×Bool)×ah×oV):=uY (QW P n0 fn) (yK (jU P cs H F c s))
def vj(P:Program)(cs:eX)(H:List (Nat×oT))(F n0:Nat)(fn:Func)(c:Code)(s:St)(G:List (List (Bool×Bool)×ah×oV)):Prop:=yO P cs H F c s=true/\xx P cs H F c s=zY P cs H F c s/\ad6 P cs H F n0 fn c s=G
theorem ru{P:Program}{n0 N:Nat}{fn:Func}{H:List (Nat×oT)}{F:Nat}{c:Code}{s:St}{G:List (List (Bool×Bool)×ah×oV)}(X':CX P)(hm:P.follows .mixedOrders=true)(R:V->Tr O->Nat->Prop)(hc:eS N c=true)(hr:vj P X'.cs H F n0 fn c s G)
  (h:∀g∈G,(∀b∈g.1,b.1=b.2)->(∀a∈g.2.1,a)/\∃v h n,g.2.2= .ret v h n/\R v h n):TG P n0 N c s (fB P n0 fn R):=by
 obtain⟨e1,e2,e3⟩:=hr;obtain⟨l,hl⟩:=b9.1 e1;unfold xx zY at e2;unfold ad6 at e3;rw[hl]at e2 e3;simp only[yK]at e2 e3;refine Kb (X':=X') hm hc hl fun p hp ho=>?_;obtain⟨hA,v,h',n',he,hR⟩:=h (p.1.conds,p.1.TR,QW P n0 fn p.2) (e3▸rV hp) ho;refine⟨⟨yL l e2 p hp,hA⟩,?_⟩;obtain⟨pp,x,s'⟩:=p;simp only[QW]at he;cases x with
 |normal=>
  simp only at he;split at he
  . rename_i v1 h1 n1 DT;cases he;exact⟨.normal,rfl,.inl rfl,_,_,_,DT,hR⟩
  . cases he
 |ret=>
  simp only at he;split at he
  . rename_i v1 h1 n1 DT;cases he;exact⟨.ret,rfl,.inr rfl,_,_,_,DT,hR⟩
  . cases he
 |exit i=>simp only at he;cases he
 |panic _=>simp only at he;cases he
theorem xE{P:Program}{n0:Nat}{fn:Func}{R:V->Tr O->Nat->Prop}{i:Nat}{y:Exit}{s:St}(h:fB P n0 fn R y s):mK i (fB P n0 fn R) y s:=by
 rcases h.1 with rfl|rfl<;>exact h
end Go.Eng
