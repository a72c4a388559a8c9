/- The engine, part MG: the end of a function by its paths, with or without a return. No conditions: lemmas alone. -/
import Derived.Test.YtfihojpgobmmdaaGreatDoorJointW08
set_option linter.unusedVariables false
set_option linter.unusedSimpArgs false
set_option linter.unusedSectionVars false
namespace Go.Eng
open Go Go.RowKit
def RC(P:Program)(n0:Nat)(fn:Func)(p:X×St):o6:=match p.1 with
 | .normal=>match KI P n0 fn p.2 with
   |some (v,h,n)=>.ret v h n
   |none=>.bad
 | .ret=>match KI P n0 fn p.2 with
   |some (v,h,n)=>.ret v h n
   |none=>.bad
 |_=>.bad
def ae7(P:Program)(cs:e9)(H:List (Nat×oZ))(F n0:Nat)(fn:Func)(c:Code)(s:St):List (List (Bool×Bool)×ah×o6):=vg (RC P n0 fn) (yW (jX P cs H F c s))
def sB(P:Program)(cs:e9)(H:List (Nat×oZ))(F n0:Nat)(fn:Func)(c:Code)(s:St)(G:List (List (Bool×Bool)×ah×o6)):Prop:=y4 P cs H F c s=true/\xH P cs H F c s=An P cs H F c s/\ae7 P cs H F n0 fn c s=G
theorem o9{P:Program}{n0 N:Nat}{fn:Func}{H:List (Nat×oZ)}{F:Nat}{c:Code}{s:St}{G:List (List (Bool×Bool)×ah×o6)}(X':CX P)(hm:P.follows .mixedOrders=true)(R:V->Tr O->Nat->Prop)(hc:eU N c=true)(hr:sB P X'.cs H F n0 fn c s G)
  (h:∀g∈G,(∀b∈g.1,b.1=b.2)->(∀a∈g.2.1,a)/\∃v h n,g.2.2= .ret v h n/\R v h n):TG P n0 N c s (fH P n0 fn R):=by
 obtain⟨e1,e2,e3⟩:=hr;obtain⟨l,hl⟩:=b9.1 e1;unfold xH An at e2;unfold ae7 at e3;rw[hl]at e2 e3;simp only[yW]at e2 e3;refine KJ (X':=X') hm hc hl fun p hp ho=>?_;obtain⟨hA,v,h',n',he,hR⟩:=h (p.1.conds,p.1.UD,RC P n0 fn p.2) (e3▸si hp) ho;refine⟨⟨yX l e2 p hp,hA⟩,?_⟩;obtain⟨pp,x,s'⟩:=p;simp only[RC]at he;cases x with
 |normal=>
  simp only at he;split at he
  . rename_i v1 h1 n1 AR;cases he;exact⟨.normal,rfl,.inl rfl,_,_,_,AR,hR⟩
  . cases he
 |ret=>
  simp only at he;split at he
  . rename_i v1 h1 n1 AR;cases he;exact⟨.ret,rfl,.inr rfl,_,_,_,AR,hR⟩
  . cases he
 |exit i=>simp only at he;cases he
 |panic _=>simp only at he;cases he
theorem xN{P:Program}{n0:Nat}{fn:Func}{R:V->Tr O->Nat->Prop}{i:Nat}{y:Exit}{s:St}(h:fH P n0 fn R y s):mj i (fH P n0 fn R) y s:=by
 rcases h.1 with rfl|rfl<;>exact h
end Go.Eng
