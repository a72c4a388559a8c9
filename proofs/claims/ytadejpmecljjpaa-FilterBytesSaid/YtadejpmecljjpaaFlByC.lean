/- FilterBytes: its pieces. No conditions. -/
import Derived.Test.YtadejpmecljjpaaFlByB
set_option linter.unusedVariables false
set_option linter.unusedSimpArgs false
set_option linter.unusedSectionVars false
namespace Go.Proofs.Ytadejpmecljjpaa
open Go Go.Eng
noncomputable abbrev WBy (md : Md) : CtrW := addW 17 (readW specSam) (addW 36 (readW specEq) (addW 25 (specMd md) (WL md)))
theorem WBy_ok (md : Md) : CtrWOk Try.prog (WBy md) := addW_ok (readW_ok one_Sam) (addW_ok (readW_ok one_Eq) (addW_ok (one_Md md) (WL_ok md)))
noncomputable abbrev csBy (md : Md) : CallS := callX Try.prog (WBy md) H0 1000 40
noncomputable abbrev XBy (md : Md) : CX Try.prog := CX.of mo po (WBy_ok md) H0 1000 40
noncomputable abbrev cdBy : Code := bodyOf Try.f10
noncomputable abbrev tlBy : Code := tailN 9 cdBy
noncomputable abbrev lpBy : Code := seqL tlBy
noncomputable abbrev loBy : Code := inner (seqR lpBy)
noncomputable abbrev enBy : Code := seqR tlBy
def c30 (l : Nat) : Int := if 30 < Int.ofNat l then 30 else Int.ofNat l
def c60 (l : Nat) : Int := if 60 < Int.ofNat l then 60 else Int.ofNat l
def cut30 (l : Nat) : Nat := (c30 l).toNat
def slC (b : Bool) (pos l c : Nat) : V := match b with | true => .slc none 0 0 0 | false => .slc (some (pos, 0)) (cut30 l) c 1
section
variable (nK nC nA nB nF nM : Bool) (ks cs ka ca fs ms : List Int) (cl : Cl) (k r d v : Int) (l : Nat) (gs : List Int) (lK cK lC cC lA cA lB cB lF cF lM cM : Nat) (fk fr fd fv gk gr gd gv q0 q1 q2 q3 : Int)
def rows6 : List (Nat × O) := opQ nK 0 ks ++ (opQ nC 1 cs ++ (opQ nA 2 ka ++ (opQ nB 3 ca ++ (opQ nF 4 fs ++ opQ nM 5 ms))))
def fBV : V := FV fk fr (slC nK 0 lK cK) fd fv (slC nC 1 lC cC)
def gBV : V := FV gk gr (slC nA 2 lA cA) gd gv (slC nB 3 lB cB)
def aBV : V := .agg [slA nF 4 lF cF, slA nM 5 lM cM, .int .i64 q0, .int .i64 q1, .int .i64 q2, .int .i64 q3]
def p6 (cl : Cl) : Nat := mN cl 7
variable (a b c e X0 Y0 X1 Y1 : Int) (N : Nat) (px : List Int) (M : Nat) (ox : List Int)
def frB0 : List (Nat × V) := [(7, .bool true), (8, .ptr (some (6, 0))), (9, .ptr (some (p6 cl, 0))), (10, .ptr (some (p6 cl + 1, 0))), (13, .ptr (some (p6 cl + 3, 0))), (3, .ptr (some (p6 cl + 5, 0))), (4, .ptr (some (p6 cl + 6, 0))), (5, .ptr (some (p6 cl + 7, 0)))]
def sQ0 : St := stG (frB0 cl) (hL (rows6 nK nC nA nB nF nM ks cs ka ca fs ms ++ ([(6, fbO 7 k r d v cl l)] ++ mO cl 7 gs ++ [(p6 cl, bx4 a b c e), (p6 cl + 1, imO (p6 cl + 2) X0 Y0 X1 Y1 N), (p6 cl + 2, .own .u8 px), (p6 cl + 3, imO (p6 cl + 4) X0 Y0 X1 Y1 N), (p6 cl + 4, .own .u8 px),
  (p6 cl + 5, .cells (fBV nK nC lK cK lC cC fk fr fd fv).cells), (p6 cl + 6, .cells (gBV nA nB lA cA lB cB gk gr gd gv).cells), (p6 cl + 7, .cells (aBV nF nM lF cF lM cM q0 q1 q2 q3).cells)]))) (p6 cl + 8)
def frB1 : List (Nat × V) := [(7, .bool true), (8, .ptr (some (6, 0))), (10, .ptr (some (p6 cl, 0))), (13, .ptr (some (p6 cl + 2, 0))), (3, .ptr (some (p6 cl + 4, 0))), (4, .ptr (some (p6 cl + 5, 0))), (5, .ptr (some (p6 cl + 6, 0))), (14, .ptr (some (p6 cl + 7, 0))), (15, .int .i64 0)]
def lsB1 : List (Nat × O) := rows6 nK nC nA nB nF nM ks cs ka ca fs ms ++ ([(6, fbO 7 k r d v cl l)] ++ mO cl 7 gs ++ [(p6 cl, imO (p6 cl + 1) X0 Y0 X1 Y1 N), (p6 cl + 1, .own .u8 px), (p6 cl + 2, imO (p6 cl + 3) X0 Y0 X1 Y1 N), (p6 cl + 3, .own .u8 px),
  (p6 cl + 4, .cells (fBV nK nC lK cK lC cC fk fr fd fv).cells), (p6 cl + 5, .cells (gBV nA nB lA cA lB cB gk gr gd gv).cells), (p6 cl + 6, .cells (aBV nF nM lF cF lM cM q0 q1 q2 q3).cells), (p6 cl + 7, imO (p6 cl + 8) a b c e M), (p6 cl + 8, .own .u8 ox)])
def sQ1 : St := stG (frB1 cl) (hL (lsB1 nK nC nA nB nF nM ks cs ka ca fs ms cl k r d v l gs lK cK lC cC lA cA lB cB lF cF lM cM fk fr fd fv gk gr gd gv q0 q1 q2 q3 a b c e X0 Y0 X1 Y1 N px M ox)) (p6 cl + 9)
def sQ2 (i : Nat) : St := stG (frB1 cl ++ [(16, .int .i64 (Int.ofNat i))]) (hL (lsB1 nK nC nA nB nF nM ks cs ka ca fs ms cl k r d v l gs lK cK lC cC lA cA lB cB lF cF lM cM fk fr fd fv gk gr gd gv q0 q1 q2 q3 a b c e X0 Y0 X1 Y1 N px M ox)) (p6 cl + 9)
abbrev mdB : Md := ⟨cl, k, r, d, v, l, gs⟩
def stBy : St := startSt [FV fk fr (slA nK 0 lK cK) fd fv (slA nC 1 lC cC), FV gk gr (slA nA 2 lA cA) gd gv (slA nB 3 lB cB), aBV nF nM lF cF lM cM q0 q1 q2 q3] (rH [rwI nK ks, rwI nC cs, rwI nA ka, rwI nB ca, rwI nF fs, rwI nM ms]) 6
def byM : List Prop := [ln nM lM ≤ (rw' nM ms).length, MadeIs (rw' nF fs) (min 60 (ln nF lF)) (mdB cl k r d v l gs)]
def by1 : List Prop := [capI (c30 (ln nK lK)) (ln nK cK), capI (c30 (ln nC lC)) (ln nC cC), capI (c30 (ln nA lA)) (ln nA cA), capI (c30 (ln nB lB)) (ln nB cB)] ++ (byM nF nM fs ms cl k r d v l gs lF lM ++ byM nF nM fs ms cl k r d v l gs lF lM)
def by_1T : Prop := RunIs Try.prog (csBy (mdB cl k r d v l gs)) [] 1000 6 Try.f10 [7, 8, 9, 10, 13, 3, 4, 5] (headN 8 cdBy) (stBy nK nC nA nB nF nM ks cs ka ca fs ms lK cK lC cC lA cA lB cB lF cF lM cM fk fr fd fv gk gr gd gv q0 q1 q2 q3) []
    [([], by1 nK nC nA nB nF nM fs ms cl k r d v l gs lK cK lC cC lA cA lB cB lF lM, .to .normal (sQ0 nK nC nA nB nF nM ks cs ka ca fs ms cl k r d v l gs lK cK lC cC lA cA lB cB lF cF lM cM fk fr fd fv gk gr gd gv q0 q1 q2 q3 (smX q0) (smX q1) (smW q0 q2) (smW q1 q3)
      (ndM true (mdB cl k r d v l gs) q0 q1 q2 q3).1 (ndM true (mdB cl k r d v l gs) q0 q1 q2 q3).2.1 (ndM true (mdB cl k r d v l gs) q0 q1 q2 q3).2.2.1 (ndM true (mdB cl k r d v l gs) q0 q1 q2 q3).2.2.2
      (arQ (ndM true (mdB cl k r d v l gs) q0 q1 q2 q3)).toNat (outR (imgQ (cutN (ln nM lM)) (rw' nM ms)) (arQ (ndM true (mdB cl k r d v l gs) q0 q1 q2 q3)).toNat)))]
theorem by_1K : by_1T nK nC nA nB nF nM ks cs ka ca fs ms .K k r d v l gs lK cK lC cC lA cA lB cB lF cF lM cM fk fr fd fv gk gr gd gv q0 q1 q2 q3 := by
  unfold by_1T RunIs; cases nK <;> cases nC <;> cases nA <;> cases nB <;> cases nF <;> cases nM <;> kernel_rfl
theorem by_1C : by_1T nK nC nA nB nF nM ks cs ka ca fs ms .C k r d v l gs lK cK lC cC lA cA lB cB lF cF lM cM fk fr fd fv gk gr gd gv q0 q1 q2 q3 := by
  unfold by_1T RunIs; cases nK <;> cases nC <;> cases nA <;> cases nB <;> cases nF <;> cases nM <;> kernel_rfl
theorem by_1o : by_1T nK nC nA nB nF nM ks cs ka ca fs ms .o k r d v l gs lK cK lC cC lA cA lB cB lF cF lM cM fk fr fd fv gk gr gd gv q0 q1 q2 q3 := by
  unfold by_1T RunIs; cases nK <;> cases nC <;> cases nA <;> cases nB <;> cases nF <;> cases nM <;> kernel_rfl
theorem by_1 : by_1T nK nC nA nB nF nM ks cs ka ca fs ms cl k r d v l gs lK cK lC cC lA cA lB cB lF cF lM cM fk fr fd fv gk gr gd gv q0 q1 q2 q3 := by
  cases cl with
  | K => exact by_1K nK nC nA nB nF nM ks cs ka ca fs ms k r d v l gs lK cK lC cC lA cA lB cB lF cF lM cM fk fr fd fv gk gr gd gv q0 q1 q2 q3
  | C => exact by_1C nK nC nA nB nF nM ks cs ka ca fs ms k r d v l gs lK cK lC cC lA cA lB cB lF cF lM cM fk fr fd fv gk gr gd gv q0 q1 q2 q3
  | o => exact by_1o nK nC nA nB nF nM ks cs ka ca fs ms k r d v l gs lK cK lC cC lA cA lB cB lF cF lM cM fk fr fd fv gk gr gd gv q0 q1 q2 q3
end
end Go.Proofs.Ytadejpmecljjpaa
