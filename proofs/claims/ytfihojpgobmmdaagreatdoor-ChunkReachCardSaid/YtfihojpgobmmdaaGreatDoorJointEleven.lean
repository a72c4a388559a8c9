/- The engine, part MG: the end of a function by its paths, with or without a return. No conditions: lemmas alone. -/
import Derived.Test.YtfihojpgobmmdaaGreatDoorJointNine
set_option linter.unusedVariables false
set_option linter.unusedSimpArgs false
set_option linter.unusedSectionVars false
namespace Go.Eng
open Go Go.RowKit
def toldE (P:Program) (n0:Nat) (fn:Func) (p:X × St):ResG:=match p.1 with
 | .normal=>match retG P n0 fn p.2 with
   | some (v,h,n)=>.ret v h n
   | none=>.bad
 | .ret=>match retG P n0 fn p.2 with
   | some (v,h,n)=>.ret v h n
   | none=>.bad
 | _=>.bad
def runE (P:Program) (cs:CallS) (H:List (Nat × Fix)) (F n0:Nat) (fn:Func) (c:Code) (s:St):List (List (Bool × Bool) × List Prop × ResG):=tells (toldE P n0 fn) (orNil (codeX P cs H F c s))
def EndIs (P:Program) (cs:CallS) (H:List (Nat × Fix)) (F n0:Nat) (fn:Func) (c:Code) (s:St) (G:List (List (Bool × Bool) × List Prop × ResG)):Prop:=runOk P cs H F c s=true∧runL P cs H F c s=runR P cs H F c s∧runE P cs H F n0 fn c s=G
theorem TG_end {P:Program} {n0 N:Nat} {fn:Func} {H:List (Nat × Fix)} {F:Nat} {c:Code} {s:St} {G:List (List (Bool × Bool) × List Prop × ResG)} (X':CX P) (hm:P.follows .mixedOrders=true) (R:V→Tr O→Nat→Prop) (hc:codeOk N c=true) (hr:EndIs P X'.cs H F n0 fn c s G)
  (h:∀ g ∈ G,(∀ b ∈ g.1,b.1=b.2)→(∀ a ∈ g.2.1,a)∧∃ v h n,g.2.2= .ret v h n∧R v h n):TG P n0 N c s (RetG P n0 fn R):=by
 obtain ⟨e1,e2,e3⟩:=hr
 obtain ⟨l,hl⟩:=Option.isSome_iff_exists.1 e1
 unfold runL runR at e2
 unfold runE at e3
 rw [hl] at e2 e3
 simp only [orNil] at e2 e3
 refine TG_sym (X':=X') hm hc hl fun p hp ho=>?_
 obtain ⟨hA,v,h',n',he,hR⟩:=h (p.1.conds,p.1.asr,toldE P n0 fn p.2) (e3 ▸ tells_mem hp) ho
 refine ⟨⟨same_ok l e2 p hp,hA⟩,?_⟩
 obtain ⟨pp,x,s'⟩:=p
 simp only [toldE] at he
 cases x with
 | normal=>
   simp only at he
   split at he
   · rename_i v1 h1 n1 hr1
     cases he
     exact ⟨.normal,rfl,.inl rfl,_,_,_,hr1,hR⟩
   · cases he
 | ret=>
   simp only at he
   split at he
   · rename_i v1 h1 n1 hr1
     cases he
     exact ⟨.ret,rfl,.inr rfl,_,_,_,hr1,hR⟩
   · cases he
 | exit i=>simp only at he; cases he
 | panic _=>simp only at he; cases he
theorem RetG_outOf {P:Program} {n0:Nat} {fn:Func} {R:V→Tr O→Nat→Prop} {i:Nat} {y:Exit} {s:St} (h:RetG P n0 fn R y s):outOf i (RetG P n0 fn R) y s:=by
 rcases h.1 with rfl | rfl <;> exact h
end Go.Eng
