/- Lemmas of the engine. No conditions. -/
import Derived.Test.YtfihojpgobmmdaaGreatDoorJointW08
set_option linter.unusedVariables false
set_option linter.unusedSimpArgs false
set_option linter.unusedSectionVars false
namespace Go.Eng
open Go Go.RowKit
def RU(P:Program)(M:Nat)(fn:Func)(p:fl×St):pQ:=match p.1 with
 | .normal=>match KQ P M fn p.2 with
   |some (v,h,n)=>.ret v h n
   |none=>.bad
 | .ret=>match KQ P M fn p.2 with
   |some (v,h,n)=>.ret v h n
   |none=>.bad
 |_=>.bad
def afs(P:Program)(C:fb)(Tr:List (Nat×oZ))(rt M:Nat)(fn:Func)(c:Code)(s:St):List (List (Bool×Bool)×ah×pQ):=vy (RU P M fn) (zf (ki P C Tr rt c s))
def vJ(P:Program)(C:fb)(Tr:List (Nat×oZ))(rt M:Nat)(fn:Func)(c:Code)(s:St)(hx:List (List (Bool×Bool)×ah×pQ)):Prop:=zj P C Tr rt c s=true/\x4 P C Tr rt c s=Aw P C Tr rt c s/\afs P C Tr rt M fn c s=hx
theorem r7{P:Program}{M h1:Nat}{fn:Func}{Tr:List (Nat×oZ)}{rt:Nat}{c:Code}{s:St}{hx:List (List (Bool×Bool)×ah×pQ)}(X':CX P)(W:P.follows .mixedOrders=true)(nx:V->H lf->Nat->Prop)(I:fc h1 c=true)(hr:vJ P X'.C Tr rt M fn c s hx)
  (h:∀g∈hx,(∀b∈g.1,b.1=b.2)->(∀a∈g.2.1,a)/\∃v h n,g.2.2= .ret v h n/\nx v h n):TG P M h1 c s (fJ P M fn nx):=by
 obtain⟨e1,e2,e3⟩:=hr;obtain⟨l,hl⟩:=bW.1 e1;unfold x4 Aw at e2;unfold afs at e3;rw[hl]at e2 e3;simp only[zf]at e2 e3;refine KR (X':=X') W I hl fun p hp ho=>?_;obtain⟨hA,v,h',n',he,hR⟩:=h (p.1.conds,p.1.U0,RU P M fn p.2) (e3▸sJ hp) ho;refine⟨⟨zg l e2 p hp,hA⟩,?_⟩;obtain⟨pp,x,s'⟩:=p;simp only[RU]at he;cases x with
 |normal=>
  simp only at he;split at he
  . rename_i v1 N n1 BQ;cases he;exact⟨.normal,rfl,.inl rfl,_,_,_,BQ,hR⟩
  . cases he
 |ret=>
  simp only at he;split at he
  . rename_i v1 N n1 BQ;cases he;exact⟨.ret,rfl,.inr rfl,_,_,_,BQ,hR⟩
  . cases he
 |exit i=>simp only at he;cases he
 |panic _=>simp only at he;cases he
theorem x9{P:Program}{M:Nat}{fn:Func}{nx:V->H lf->Nat->Prop}{i:Nat}{y:Exit}{s:St}(h:fJ P M fn nx y s):mY i (fJ P M fn nx) y s:=by
 rcases h.1 with rfl|rfl<;>exact h
end Go.Eng
