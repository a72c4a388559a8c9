/- FilterMorphology: its pieces. No conditions. -/
import Derived.Test.YtadejpmecljjpaaFlFourteen
set_option linter.unusedVariables false
set_option linter.unusedSimpArgs false
set_option linter.unusedSectionVars false
namespace Go.Proofs.Ytadejpmecljjpaa
open Go Go.Eng
abbrev apK (k n X0 Y0 X1 a b c e : Int) (px : List Int) : List Int := apO X0 Y0 X1 a b c e px k n 0 0 [] 0 []
def asK (k n X0 Y0 X1 Y1 a b c e : Int) (N : Nat) (px : List Int) : List Prop := fa0 0 [] 0 [] ++ [N * 4 ≤ px.length, apErr X0 Y0 X1 Y1 a b c e N k n 0 0 0 [] 0 [] = 0, emptyB a b c e = false]
section
variable (nF nM : Bool) (fs ms : List Int) (a b c e X0 Y0 X1 Y1 : Int) (N : Nat) (px : List Int) (n : Nat)
def moG (q0 q1 q2 q3 : Int) (n : Nat) : Q4 := growQ (smX q0) (smX q1) (smW q0 q2) (smW q1 q3) (Int.ofNat n)
def moR (nM : Bool) (ms : List Int) (lM : Nat) (G : Q4) : List Int := outR (imgQ (cutN (ln nM lM)) (rw' nM ms)) (arQ G).toNat
def moL (nM : Bool) (lM cM : Nat) : List V := [slA nM 1 lM cM, slA nM 1 lM cM, .int .i64 (Int.ofNat (ln nM lM)), .int .i64 (cutI (ln nM lM)), cutV nM 1 lM cM]
variable (M : Nat) (ol oh om : List Int)
end
end Go.Proofs.Ytadejpmecljjpaa
