/- The engine, part MG: the end of a function by its paths, with or without a return. No conditions: lemmas alone. -/
import Derived.Test.YtfihojpgobmmdaaGreatDoorJointW08
set_option linter.unusedVariables false
set_option linter.unusedSimpArgs false
set_option linter.unusedSectionVars false
namespace Go.Eng
open Go Go.RowKit
def Rm(P:Program)(n0:Nat)(fn:Func)(p:X×St):pb:=match p.1 with
 | .normal=>match Ku P n0 fn p.2 with
   |some (v,h,n)=>.ret v h n
   |none=>.bad
 | .ret=>match Ku P n0 fn p.2 with
   |some (v,h,n)=>.ret v h n
   |none=>.bad
 |_=>.bad
def aeO(P:Program)(cs:fb)(H:List (Nat×o8))(F n0:Nat)(fn:Func)(c:Code)(s:St):List (List (Bool×Bool)×ah×pb):=vf (Rm P n0 fn) (yT (j9 P cs H F c s))
def vt(P:Program)(cs:fb)(H:List (Nat×o8))(F n0:Nat)(fn:Func)(c:Code)(s:St)(G:List (List (Bool×Bool)×ah×pb)):Prop:=yX P cs H F c s=true/\xF P cs H F c s=Ah P cs H F c s/\aeO P cs H F n0 fn c s=G
theorem rF{P:Program}{n0 N:Nat}{fn:Func}{H:List (Nat×o8)}{F:Nat}{c:Code}{s:St}{G:List (List (Bool×Bool)×ah×pb)}(X':CX P)(hm:P.follows .mixedOrders=true)(R:V->Tr O->Nat->Prop)(hc:eX N c=true)(hr:vt P X'.cs H F n0 fn c s G)
  (h:∀g∈G,(∀b∈g.1,b.1=b.2)->(∀a∈g.2.1,a)/\∃v h n,g.2.2= .ret v h n/\R v h n):TG P n0 N c s (fG P n0 fn R):=by
 obtain⟨e1,e2,e3⟩:=hr;obtain⟨l,hl⟩:=b9.1 e1;unfold xF Ah at e2;unfold aeO at e3;rw[hl]at e2 e3;simp only[yT]at e2 e3;refine Kv (X':=X') hm hc hl fun p hp ho=>?_;obtain⟨hA,v,h',n',he,hR⟩:=h (p.1.conds,p.1.Uo,Rm P n0 fn p.2) (e3▸r7 hp) ho;refine⟨⟨yU l e2 p hp,hA⟩,?_⟩;obtain⟨pp,x,s'⟩:=p;simp only[Rm]at he;cases x with
 |normal=>
  simp only at he;split at he
  . rename_i v1 h1 n1 BA;cases he;exact⟨.normal,rfl,.inl rfl,_,_,_,BA,hR⟩
  . cases he
 |ret=>
  simp only at he;split at he
  . rename_i v1 h1 n1 BA;cases he;exact⟨.ret,rfl,.inr rfl,_,_,_,BA,hR⟩
  . cases he
 |exit i=>simp only at he;cases he
 |panic _=>simp only at he;cases he
theorem xM{P:Program}{n0:Nat}{fn:Func}{R:V->Tr O->Nat->Prop}{i:Nat}{y:Exit}{s:St}(h:fG P n0 fn R y s):mQ i (fG P n0 fn R) y s:=by
 rcases h.1 with rfl|rfl<;>exact h
end Go.Eng
