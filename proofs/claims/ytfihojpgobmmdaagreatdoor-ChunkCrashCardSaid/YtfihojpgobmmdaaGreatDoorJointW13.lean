/- The Chunk laws: sanity: pieces. No conditions. -/
import Derived.Test.YtfihojpgobmmdaaGreatDoorJointW11
import Derived.Test.YtfihojpgobmmdaaGreatDoorJointW12
set_option linter.unusedVariables false
set_option linter.unusedSimpArgs false
set_option linter.unusedSectionVars false
namespace Go.Proofs.YtfihojpgobmmdaaGreatDoor
open Go Go.Eng
noncomputable abbrev Vd:Code:=dS Tryz.f13
def lI:ae:=[(.str dA,eA)]
def Fk(fr:List (Nat×V))(p:gX):St:=eF ((1,.ptr (some (3,0)))::fr) (eu p) 7
def p1:gX:=pS 9 9 rA 0 1 0 lI []
def p2:gX:=pS 50 50 ae5 0 2 0 tU []
def p3:gX:=pS 91 91 ON 0 2 0 tU U6
def p4:gX:=pS 100 100 (ON++rZ) 0 3 0 esS U6
def p5:gX:=pS 91 91 ON 91 2 0 tU U6
def eW:D:=pU [119] [] 2
def es3:ae:=[(.str dA,eA),(.str dB,eB),(.str dW,eW)]
def p6:gX:=pS 100 100 (ON++rW) 91 3 0 es3 U6
def p7:gX:=pS 91 100 (ON++rW) 91 2 0 tU U6
abbrev um:V:=.int .i64 0
theorem fL{f:FuncId}{args nH:ag}{ns:List (Option Nat)}{h h1 h2 mB:Tr O}{n n2 IP:Nat}{v v1:V}(k:vn ns h h1)(ka:V.D0 (mu ns) args=some nH)(he:Eh ns h1 (v1,mB,IP) h n=some (v,h2,n2))
  (hc:cU ak f nH h1 ns.length v1 mB IP):cU ak f args h n v h2 n2:=by
 intro E w c9 ra g hd;obtain⟨g1,d1⟩:=MG g k;have ra1:dI (E.pick ns) nH c9:=tq (E':=E.pick ns) Q3 (fun _ _ _ _ _ _=>rfl) (fun _ _ q=>q) _ _ _ ka ra;exact(hc _ w c9 ra1 g1 d1).mono fun en w' c=>MH g hd k he c
def ns7:List (Option Nat):=[some 0,some 1,some 2,some 3,some 4,some 5,some 6]
def m1:Tr O:=aeV 9 rA 0 1 0 lI []
noncomputable abbrev W16:jL:=W15
theorem GS:gd ak W16:=RE
noncomputable abbrev T4:e9:=gG ak W16 H0 1000 40
noncomputable abbrev XL:CX ak:=CX.of mo po GS H0 1000 40
end Go.Proofs.YtfihojpgobmmdaaGreatDoor
