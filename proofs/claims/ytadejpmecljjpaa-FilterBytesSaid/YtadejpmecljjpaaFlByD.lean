/- FilterBytes: its pieces, the rest. No conditions. -/
import Derived.Test.YtadejpmecljjpaaFlByC
set_option linter.unusedVariables false
set_option linter.unusedSimpArgs false
set_option linter.unusedSectionVars false
namespace Go.Proofs.Ytadejpmecljjpaa
open Go Go.Eng
section
variable (nK nC nA nB nF nM : Bool) (ks cs ka ca fs ms : List Int) (cl : Cl) (k r d v : Int) (l : Nat) (gs : List Int) (lK cK lC cC lA cA lB cB lF cF lM cM : Nat) (fk fr fd fv gk gr gd gv q0 q1 q2 q3 : Int)
variable (a b c e X0 Y0 X1 Y1 : Int) (N : Nat) (px : List Int) (M : Nat) (ox : List Int)
def by_2T : Prop := RunIs Try.prog (csBy (mdB cl k r d v l gs)) [] 1000 6 Try.f10 [7, 8, 10, 13, 3, 4, 5, 14, 15] (headN 1 (tailN 8 cdBy)) (sQ0 nK nC nA nB nF nM ks cs ka ca fs ms cl k r d v l gs lK cK lC cC lA cA lB cB lF cF lM cM fk fr fd fv gk gr gd gv q0 q1 q2 q3 a b c e X0 Y0 X1 Y1 N px) []
    [([], fa5 (mdB cl k r d v l gs) ++ asC cl k r d v l gs X0 Y0 X1 Y1 a b c e N px, .to .normal (sQ1 nK nC nA nB nF nM ks cs ka ca fs ms cl k r d v l gs lK cK lC cC lA cA lB cB lF cF lM cM fk fr fd fv gk gr gd gv q0 q1 q2 q3 a b c e X0 Y0 X1 Y1 N px (rcN a b c e) (outC cl k r d v l gs X0 Y0 X1 a b c e px)))]
theorem by_2K : by_2T nK nC nA nB nF nM ks cs ka ca fs ms .K k r d v l gs lK cK lC cC lA cA lB cB lF cF lM cM fk fr fd fv gk gr gd gv q0 q1 q2 q3 a b c e X0 Y0 X1 Y1 N px := by
  unfold by_2T RunIs; cases nK <;> cases nC <;> cases nA <;> cases nB <;> cases nF <;> cases nM <;> kernel_rfl
theorem by_2C : by_2T nK nC nA nB nF nM ks cs ka ca fs ms .C k r d v l gs lK cK lC cC lA cA lB cB lF cF lM cM fk fr fd fv gk gr gd gv q0 q1 q2 q3 a b c e X0 Y0 X1 Y1 N px := by
  unfold by_2T RunIs; cases nK <;> cases nC <;> cases nA <;> cases nB <;> cases nF <;> cases nM <;> kernel_rfl
theorem by_2o : by_2T nK nC nA nB nF nM ks cs ka ca fs ms .o k r d v l gs lK cK lC cC lA cA lB cB lF cF lM cM fk fr fd fv gk gr gd gv q0 q1 q2 q3 a b c e X0 Y0 X1 Y1 N px := by
  unfold by_2T RunIs; cases nK <;> cases nC <;> cases nA <;> cases nB <;> cases nF <;> cases nM <;> kernel_rfl
theorem by_2 : by_2T nK nC nA nB nF nM ks cs ka ca fs ms cl k r d v l gs lK cK lC cC lA cA lB cB lF cF lM cM fk fr fd fv gk gr gd gv q0 q1 q2 q3 a b c e X0 Y0 X1 Y1 N px := by
  cases cl with
  | K => exact by_2K nK nC nA nB nF nM ks cs ka ca fs ms k r d v l gs lK cK lC cC lA cA lB cB lF cF lM cM fk fr fd fv gk gr gd gv q0 q1 q2 q3 a b c e X0 Y0 X1 Y1 N px
  | C => exact by_2C nK nC nA nB nF nM ks cs ka ca fs ms k r d v l gs lK cK lC cC lA cA lB cB lF cF lM cM fk fr fd fv gk gr gd gv q0 q1 q2 q3 a b c e X0 Y0 X1 Y1 N px
  | o => exact by_2o nK nC nA nB nF nM ks cs ka ca fs ms k r d v l gs lK cK lC cC lA cA lB cB lF cF lM cM fk fr fd fv gk gr gd gv q0 q1 q2 q3 a b c e X0 Y0 X1 Y1 N px
def by_3T : Prop := RunIs Try.prog (csBy (mdB cl k r d v l gs)) [] 1000 6 Try.f10 [7, 8, 10, 13, 3, 4, 5, 14, 15, 16] (seqL lpBy) (sQ1 nK nC nA nB nF nM ks cs ka ca fs ms cl k r d v l gs lK cK lC cC lA cA lB cB lF cF lM cM fk fr fd fv gk gr gd gv q0 q1 q2 q3 a b c e X0 Y0 X1 Y1 N px M ox) [] [([], [], .to .normal (sQ2 nK nC nA nB nF nM ks cs ka ca fs ms cl k r d v l gs lK cK lC cC lA cA lB cB lF cF lM cM fk fr fd fv gk gr gd gv q0 q1 q2 q3 a b c e X0 Y0 X1 Y1 N px M ox 0))]
theorem by_3K : by_3T nK nC nA nB nF nM ks cs ka ca fs ms .K k r d v l gs lK cK lC cC lA cA lB cB lF cF lM cM fk fr fd fv gk gr gd gv q0 q1 q2 q3 a b c e X0 Y0 X1 Y1 N px M ox := by
  unfold by_3T RunIs; cases nK <;> cases nC <;> cases nA <;> cases nB <;> cases nF <;> cases nM <;> kernel_rfl
theorem by_3C : by_3T nK nC nA nB nF nM ks cs ka ca fs ms .C k r d v l gs lK cK lC cC lA cA lB cB lF cF lM cM fk fr fd fv gk gr gd gv q0 q1 q2 q3 a b c e X0 Y0 X1 Y1 N px M ox := by
  unfold by_3T RunIs; cases nK <;> cases nC <;> cases nA <;> cases nB <;> cases nF <;> cases nM <;> kernel_rfl
theorem by_3o : by_3T nK nC nA nB nF nM ks cs ka ca fs ms .o k r d v l gs lK cK lC cC lA cA lB cB lF cF lM cM fk fr fd fv gk gr gd gv q0 q1 q2 q3 a b c e X0 Y0 X1 Y1 N px M ox := by
  unfold by_3T RunIs; cases nK <;> cases nC <;> cases nA <;> cases nB <;> cases nF <;> cases nM <;> kernel_rfl
theorem by_3 : by_3T nK nC nA nB nF nM ks cs ka ca fs ms cl k r d v l gs lK cK lC cC lA cA lB cB lF cF lM cM fk fr fd fv gk gr gd gv q0 q1 q2 q3 a b c e X0 Y0 X1 Y1 N px M ox := by
  cases cl with
  | K => exact by_3K nK nC nA nB nF nM ks cs ka ca fs ms k r d v l gs lK cK lC cC lA cA lB cB lF cF lM cM fk fr fd fv gk gr gd gv q0 q1 q2 q3 a b c e X0 Y0 X1 Y1 N px M ox
  | C => exact by_3C nK nC nA nB nF nM ks cs ka ca fs ms k r d v l gs lK cK lC cC lA cA lB cB lF cF lM cM fk fr fd fv gk gr gd gv q0 q1 q2 q3 a b c e X0 Y0 X1 Y1 N px M ox
  | o => exact by_3o nK nC nA nB nF nM ks cs ka ca fs ms k r d v l gs lK cK lC cC lA cA lB cB lF cF lM cM fk fr fd fv gk gr gd gv q0 q1 q2 q3 a b c e X0 Y0 X1 Y1 N px M ox
def by_4T (i : Nat) : Prop := RunIs Try.prog (csBy (mdB cl k r d v l gs)) [(75, .split), (16, .give (.int .i64 (Int.ofNat (i + 1))))] 1000 6 Try.f10 [7, 8, 10, 13, 3, 4, 5, 14, 15, 16] (inner loBy) (sQ2 nK nC nA nB nF nM ks cs ka ca fs ms cl k r d v l gs lK cK lC cC lA cA lB cB lF cF lM cM fk fr fd fv gk gr gd gv q0 q1 q2 q3 a b c e X0 Y0 X1 Y1 N px M ox i) []
    [([(decide (Int.ofNat i < (M : Int)), true)], [0 ≤ Int.ofNat i ∧ Int.ofNat i < (M : Int), 0 + (Int.ofNat i).toNat * 4 + 4 ≤ ox.length, upP (Int.ofNat i) (Int.ofNat (i + 1))], .to .normal (sQ2 nK nC nA nB nF nM ks cs ka ca fs ms cl k r d v l gs lK cK lC cC lA cA lB cB lF cF lM cM fk fr fd fv gk gr gd gv q0 q1 q2 q3 a b c e X0 Y0 X1 Y1 N px M (putI ox (0 + i * 4) [1, 0, 0, 77]) (i + 1))),
     ([(decide (Int.ofNat i < (M : Int)), false)], [], .to (.exit 0) (sQ2 nK nC nA nB nF nM ks cs ka ca fs ms cl k r d v l gs lK cK lC cC lA cA lB cB lF cF lM cM fk fr fd fv gk gr gd gv q0 q1 q2 q3 a b c e X0 Y0 X1 Y1 N px M ox i))]
theorem by_4K (i : Nat) : by_4T nK nC nA nB nF nM ks cs ka ca fs ms .K k r d v l gs lK cK lC cC lA cA lB cB lF cF lM cM fk fr fd fv gk gr gd gv q0 q1 q2 q3 a b c e X0 Y0 X1 Y1 N px M ox i := by
  unfold by_4T RunIs; cases nK <;> cases nC <;> cases nA <;> cases nB <;> cases nF <;> cases nM <;> kernel_rfl
theorem by_4C (i : Nat) : by_4T nK nC nA nB nF nM ks cs ka ca fs ms .C k r d v l gs lK cK lC cC lA cA lB cB lF cF lM cM fk fr fd fv gk gr gd gv q0 q1 q2 q3 a b c e X0 Y0 X1 Y1 N px M ox i := by
  unfold by_4T RunIs; cases nK <;> cases nC <;> cases nA <;> cases nB <;> cases nF <;> cases nM <;> kernel_rfl
theorem by_4o (i : Nat) : by_4T nK nC nA nB nF nM ks cs ka ca fs ms .o k r d v l gs lK cK lC cC lA cA lB cB lF cF lM cM fk fr fd fv gk gr gd gv q0 q1 q2 q3 a b c e X0 Y0 X1 Y1 N px M ox i := by
  unfold by_4T RunIs; cases nK <;> cases nC <;> cases nA <;> cases nB <;> cases nF <;> cases nM <;> kernel_rfl
theorem by_4 (i : Nat) : by_4T nK nC nA nB nF nM ks cs ka ca fs ms cl k r d v l gs lK cK lC cC lA cA lB cB lF cF lM cM fk fr fd fv gk gr gd gv q0 q1 q2 q3 a b c e X0 Y0 X1 Y1 N px M ox i := by
  cases cl with
  | K => exact by_4K nK nC nA nB nF nM ks cs ka ca fs ms k r d v l gs lK cK lC cC lA cA lB cB lF cF lM cM fk fr fd fv gk gr gd gv q0 q1 q2 q3 a b c e X0 Y0 X1 Y1 N px M ox i
  | C => exact by_4C nK nC nA nB nF nM ks cs ka ca fs ms k r d v l gs lK cK lC cC lA cA lB cB lF cF lM cM fk fr fd fv gk gr gd gv q0 q1 q2 q3 a b c e X0 Y0 X1 Y1 N px M ox i
  | o => exact by_4o nK nC nA nB nF nM ks cs ka ca fs ms k r d v l gs lK cK lC cC lA cA lB cB lF cF lM cM fk fr fd fv gk gr gd gv q0 q1 q2 q3 a b c e X0 Y0 X1 Y1 N px M ox i
abbrev cu (n : Bool) (l : Nat) : Nat := cut30 (ln n l)
noncomputable abbrev eqSelf : Bool := eqFB k r d v (glK cl l) (grK cl gs) (glC cl l) (grC cl gs) k r d v (glK cl l) (grK cl gs) (glC cl l) (grC cl gs)
def eqF6 (lK : Nat) (ks : List Int) (lC : Nat) (cs : List Int) (lA : Nat) (ka : List Int) (lB : Nat) (ca : List Int) : List Prop := [lK ≤ ks.length, lC ≤ cs.length, lA ≤ ka.length, lB ≤ ca.length, lK ≤ 1000, lC ≤ 1000]
abbrev byS (lK : Nat) (ks : List Int) (lC : Nat) (cs : List Int) (k r d v : Int) : List UInt8 := bytesS k r d v (ks.take lK) (cs.take lC)
noncomputable def by5 : List Prop := capI (c60 (ln nF lF)) (ln nF cF) :: (MadeIs (rw' nF fs) (c60 (ln nF lF)).toNat (mdB cl k r d v l gs) :: (smOk X0 Y0 X1 Y1 X0 Y0 X1 Y1 N N px px ++ (eqF6 (glK cl l) (grK cl gs) (glC cl l) (grC cl gs) (glK cl l) (grK cl gs) (glC cl l) (grC cl gs) ++ (pBq (eqSelf cl k r d v l gs) true ::
  (fa0 (cu nK lK) (rw' nK ks) (cu nC lC) (rw' nC cs) ++ (fa0 (cu nA lA) (rw' nA ka) (cu nB lB) (rw' nB ca) ++ (eqF6 (cu nK lK) (rw' nK ks) (cu nC lC) (rw' nC cs) (cu nA lA) (rw' nA ka) (cu nB lB) (rw' nB ca) ++
  (pBq (beqB (byS (cu nK lK) (rw' nK ks) (cu nC lC) (rw' nC cs) fk fr fd fv) (byS (cu nA lA) (rw' nA ka) (cu nB lB) (rw' nB ca) gk gr gd gv) == eqFB fk fr fd fv (cu nK lK) (rw' nK ks) (cu nC lC) (rw' nC cs) gk gr gd gv (cu nA lA) (rw' nA ka) (cu nB lB) (rw' nB ca)) true ::
  (fa5 (mdB cl k r d v l gs) ++ (fa5 (mdB cl k r d v l gs) ++ [pBq (beqB (byS (glK cl l) (grK cl gs) (glC cl l) (grC cl gs) k r d v) (byS (glK cl l) (grK cl gs) (glC cl l) (grC cl gs) k r d v)) true]))))))))))
def by5L : List V := [gBV nA nB lA cA lB cB gk gr gd gv, fBV nK nC lK cK lC cC fk fr fd fv, fBV nK nC lK cK lC cC fk fr fd fv, gBV nA nB lA cA lB cB gk gr gd gv, gBV nA nB lA cA lB cB gk gr gd gv, mdV (p6 cl + 9) (mdB cl k r d v l gs)]
def by_5T (i : Nat) : Prop := RunIs Try.prog (csBy (mdB cl k r d v l gs)) [(97, .give (.bool true)), (116, .give (.bool true)), (123, .give (.bool true))] 1000 6 Try.f10 [] enBy (sQ2 nK nC nA nB nF nM ks cs ka ca fs ms cl k r d v l gs lK cK lC cC lA cA lB cB lF cF lM cM fk fr fd fv gk gr gd gv q0 q1 q2 q3 a b c e X0 Y0 X1 Y1 N px M ox i) (by5L nK nC nA nB cl k r d v l gs lK cK lC cC lA cA lB cB fk fr fd fv gk gr gd gv)
    [([], by5 nK nC nA nB nF ks cs ka ca fs cl k r d v l gs lK lC lA lB lF cF fk fr fd fv gk gr gd gv X0 Y0 X1 Y1 N px, .ret (.bool true) (hL (rows6 nK nC nA nB nF nM ks cs ka ca fs ms)) 6)]
theorem by_5K (i : Nat) : by_5T nK nC nA nB nF nM ks cs ka ca fs ms .K k r d v l gs lK cK lC cC lA cA lB cB lF cF lM cM fk fr fd fv gk gr gd gv q0 q1 q2 q3 a b c e X0 Y0 X1 Y1 N px M ox i := by
  unfold by_5T RunIs; cases nK <;> cases nC <;> cases nA <;> cases nB <;> cases nF <;> cases nM <;> kernel_rfl
theorem by_5C (i : Nat) : by_5T nK nC nA nB nF nM ks cs ka ca fs ms .C k r d v l gs lK cK lC cC lA cA lB cB lF cF lM cM fk fr fd fv gk gr gd gv q0 q1 q2 q3 a b c e X0 Y0 X1 Y1 N px M ox i := by
  unfold by_5T RunIs; cases nK <;> cases nC <;> cases nA <;> cases nB <;> cases nF <;> cases nM <;> kernel_rfl
theorem by_5o (i : Nat) : by_5T nK nC nA nB nF nM ks cs ka ca fs ms .o k r d v l gs lK cK lC cC lA cA lB cB lF cF lM cM fk fr fd fv gk gr gd gv q0 q1 q2 q3 a b c e X0 Y0 X1 Y1 N px M ox i := by
  unfold by_5T RunIs; cases nK <;> cases nC <;> cases nA <;> cases nB <;> cases nF <;> cases nM <;> kernel_rfl
theorem by_5 (i : Nat) : by_5T nK nC nA nB nF nM ks cs ka ca fs ms cl k r d v l gs lK cK lC cC lA cA lB cB lF cF lM cM fk fr fd fv gk gr gd gv q0 q1 q2 q3 a b c e X0 Y0 X1 Y1 N px M ox i := by
  cases cl with
  | K => exact by_5K nK nC nA nB nF nM ks cs ka ca fs ms k r d v l gs lK cK lC cC lA cA lB cB lF cF lM cM fk fr fd fv gk gr gd gv q0 q1 q2 q3 a b c e X0 Y0 X1 Y1 N px M ox i
  | C => exact by_5C nK nC nA nB nF nM ks cs ka ca fs ms k r d v l gs lK cK lC cC lA cA lB cB lF cF lM cM fk fr fd fv gk gr gd gv q0 q1 q2 q3 a b c e X0 Y0 X1 Y1 N px M ox i
  | o => exact by_5o nK nC nA nB nF nM ks cs ka ca fs ms k r d v l gs lK cK lC cC lA cA lB cB lF cF lM cM fk fr fd fv gk gr gd gv q0 q1 q2 q3 a b c e X0 Y0 X1 Y1 N px M ox i
end
end Go.Proofs.Ytadejpmecljjpaa
