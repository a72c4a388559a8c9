/- The Chunk laws: sanity: pieces. No conditions. -/
import Derived.Test.YtfihojpgobmmdaaGreatDoorJointW11
import Derived.Test.YtfihojpgobmmdaaGreatDoorJointW12
set_option linter.unusedVariables false
set_option linter.unusedSimpArgs false
set_option linter.unusedSectionVars false
namespace Go.Proofs.YtfihojpgobmmdaaGreatDoor
open Go Go.Eng
noncomputable abbrev Up:Code:=dU Tryz.f13
def mE:ae:=[(.str dA,eA)]
def EU(fr:List (Nat×V))(p:jm):St:=eG ((1,.ptr (some (3,0)))::fr) (eu p) 7
def p1:jm:=pS 9 9 rA 0 1 0 mE []
def p2:jm:=pS 50 50 ad4 0 2 0 tP []
def p3:jm:=pS 91 91 N0 0 2 0 tP Ui
def p4:jm:=pS 100 100 (N0++rZ) 0 3 0 esS Ui
def p5:jm:=pS 91 91 N0 91 2 0 tP Ui
def eW:D:=pO [119] [] 2
def es3:ae:=[(.str dA,eA),(.str dB,eB),(.str dW,eW)]
def p6:jm:=pS 100 100 (N0++rW) 91 3 0 es3 Ui
def p7:jm:=pS 91 100 (N0++rW) 91 2 0 tP Ui
abbrev tZ:V:=.int .i64 0
theorem fR{f:FuncId}{args nE:ag}{ns:List (Option Nat)}{h h1 h2 mh:Tr O}{n n2 Ik:Nat}{v v1:V}(k:ve ns h h1)(ka:V.DJ (mu ns) args=some nE)(he:D0 ns h1 (v1,mh,Ik) h n=some (v,h2,n2))
  (hc:cT ak f nE h1 ns.length v1 mh Ik):cT ak f args h n v h2 n2:=by
 intro E w c7 ra g hd;obtain⟨g1,d1⟩:=LW g k;have ra1:dG (E.pick ns) nE c7:=tg (E':=E.pick ns) Qk (fun _ _ _ _ _ _=>rfl) (fun _ _ q=>q) _ _ _ ka ra;exact(hc _ w c7 ra1 g1 d1).mono fun en w' c=>LX g hd k he c
def ns7:List (Option Nat):=[some 0,some 1,some 2,some 3,some 4,some 5,some 6]
def m1:Tr O:=adU 9 rA 0 1 0 mE []
noncomputable abbrev W16:jJ:=W15
theorem Gu:fU ak W16:=QY
noncomputable abbrev Te:eX:=gC ak W16 H0 1000 40
noncomputable abbrev XL:CX ak:=CX.of mo po Gu H0 1000 40
end Go.Proofs.YtfihojpgobmmdaaGreatDoor
