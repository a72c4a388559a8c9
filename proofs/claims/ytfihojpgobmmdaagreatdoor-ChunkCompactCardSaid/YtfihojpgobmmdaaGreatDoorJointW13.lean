/- The Chunk laws: sanity: pieces. No conditions. -/
import Derived.Test.YtfihojpgobmmdaaGreatDoorJointW11
import Derived.Test.YtfihojpgobmmdaaGreatDoorJointW12
set_option linter.unusedVariables false
set_option linter.unusedSimpArgs false
set_option linter.unusedSectionVars false
namespace Go.Proofs.YtfihojpgobmmdaaGreatDoor
open Go Go.Eng
noncomputable abbrev UY:Code:=dP Tryz.f13
def mK:ae:=[(.str dA,eA)]
def Fj(fr:List (Nat×V))(p:iw):St:=eF ((1,.ptr (some (3,0)))::fr) (eu p) 7
def p1:iw:=pS 9 9 rA 0 1 0 mK []
def p2:iw:=pS 50 50 aeM 0 2 0 tX []
def p3:iw:=pS 91 91 Oo 0 2 0 tX UQ
def p4:iw:=pS 100 100 (Oo++rZ) 0 3 0 esS UQ
def p5:iw:=pS 91 91 Oo 91 2 0 tX UQ
def eW:D:=pW [119] [] 2
def es3:ae:=[(.str dA,eA),(.str dB,eB),(.str dW,eW)]
def p6:iw:=pS 100 100 (Oo++rW) 91 3 0 es3 UQ
def p7:iw:=pS 91 100 (Oo++rW) 91 2 0 tX UQ
abbrev qJ:V:=.int .i64 0
theorem fV{f:FuncId}{args nL:ag}{ns:List (Option Nat)}{h h1 h2 mz:Tr O}{n n2 IB:Nat}{v v1:V}(k:vl ns h h1)(ka:V.DZ (mu ns) args=some nL)(he:Eh ns h1 (v1,mz,IB) h n=some (v,h2,n2))
  (hc:cU ak f nL h1 ns.length v1 mz IB):cU ak f args h n v h2 n2:=by
 intro E w c9 ra g hd;obtain⟨g1,d1⟩:=Mp g k;have ra1:dI (E.pick ns) nL c9:=tq (E':=E.pick ns) QJ (fun _ _ _ _ _ _=>rfl) (fun _ _ q=>q) _ _ _ ka ra;exact(hc _ w c9 ra1 g1 d1).mono fun en w' c=>Mq g hd k he c
def ns7:List (Option Nat):=[some 0,some 1,some 2,some 3,some 4,some 5,some 6]
def m1:Tr O:=aeC 9 rA 0 1 0 mK []
noncomputable abbrev W16:jQ:=W15
theorem GL:gd ak W16:=Ro
noncomputable abbrev TN:fb:=gI ak W16 H0 1000 40
noncomputable abbrev XL:CX ak:=CX.of mo po GL H0 1000 40
end Go.Proofs.YtfihojpgobmmdaaGreatDoor
