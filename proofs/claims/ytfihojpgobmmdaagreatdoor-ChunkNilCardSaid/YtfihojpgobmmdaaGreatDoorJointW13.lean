/- Lemmas on the chunk store. No conditions. -/
import Derived.Test.YtfihojpgobmmdaaGreatDoorJointW11
set_option linter.unusedVariables false
set_option linter.unusedSimpArgs false
set_option linter.unusedSectionVars false
namespace Go.Proofs.YtfihojpgobmmdaaGreatDoor
open Go Go.Eng
noncomputable abbrev Vy:Code:=dN Tryz.f13
def mQ:ae:=[(.str dA,eA)]
def Fw(S:List (Nat×V))(p:gZ):St:=eG ((1,.ptr (some (3,0)))::S) (eu p) 7
def p1:gZ:=pS 9 9 rA 0 1 0 mQ []
def p2:gZ:=pS 50 50 afq 0 2 0 uv []
def p3:gZ:=pS 91 91 OO 0 2 0 uv Vr
def p4:gZ:=pS 100 100 (OO++rZ) 0 3 0 esS Vr
def p5:gZ:=pS 91 91 OO 91 2 0 uv Vr
def eW:rs:=oF [119] [] 2
def es3:ae:=[(.str dA,eA),(.str dB,eB),(.str dW,eW)]
def p6:gZ:=pS 100 100 (OO++rW) 91 3 0 es3 Vr
def p7:gZ:=pS 91 100 (OO++rW) 91 2 0 uv Vr
abbrev qu:V:=.int .i64 0
theorem gm{f:FuncId}{args ld:ag}{ns:List (Option Nat)}{h N B mA:H lf}{n n2 HL:Nat}{v v1:V}(k:rY ns h N)(ka:V.y9 (mu ns) args=some ld)(he:BK ns N (v1,mA,HL) h n=some (v,B,n2))
  (I:cW ak f ld N ns.length v1 mA HL):cW ak f args h n v B n2:=by
 intro E w de ra g hd;obtain⟨g1,d1⟩:=ML g k;have ra1:dL (E.pick ns) ld de:=tK (E':=E.pick ns) Rf (fun _ _ _ _ _ _=>rfl) (fun _ _ q=>q) _ _ _ ka ra;exact(I _ w de ra1 g1 d1).mono fun en w' c=>MM g hd k he c
def ns7:List (Option Nat):=[some 0,some 1,some 2,some 3,some 4,some 5,some 6]
def m1:H lf:=afg 9 rA 0 1 0 mQ []
noncomputable abbrev W16:jQ:=W15
theorem G1:gl ak W16:=RW
noncomputable abbrev Un:fb:=gP ak W16 H0 1000 40
noncomputable abbrev XL:CX ak:=CX.of mo po G1 H0 1000 40
end Go.Proofs.YtfihojpgobmmdaaGreatDoor
