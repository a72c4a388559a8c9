/- FilterApply: the law's second part. No conditions. -/
import Derived.Test.YtadejpmecljjpaaFlApJ
set_option linter.unusedVariables false
set_option linter.unusedSimpArgs false
set_option linter.unusedSectionVars false
namespace Go.Proofs.Ytadejpmecljjpaa
open Go Go.Eng
set_option linter.unusedVariables false
section
variable (nF nM nK nC : Bool) (fs ms ks cs : List Int) (cl : Cl) (k r d v : Int) (l : Nat) (gs : List Int) (gk gr gd gv : Int) (mK cK mC cC : Nat) (a b c e X0 Y0 X1 Y1 : Int) (N : Nat) (px : List Int) (A B C E : Int) (M : Nat) (ox : List Int) (h : Bool) (oy : List Int) (z y : Int)
theorem fa_D : RunIs Try.prog (csQe 1) [] 1000 4 Try.f3 [7, 8, 9, 10, 5, 12, 13, 14, 15, 16, 17, 19] (headN 1 (tailN 10 cdFA)) (sF3 nF nM nK nC fs ms ks cs cl k r d v l gs a b c e X0 Y0 X1 Y1 N px A B C E M ox h oy z) []
    [([], fa5 ⟨cl, k, r, d, v, l, gs⟩ ++ [erF cl k r d v l gs X0 Y0 X1 Y1 a b c e (N - 1) = 1, (1 : Int) ≠ 0], .to .normal (sF4 nF nM nK nC fs ms ks cs cl k r d v l gs a b c e X0 Y0 X1 Y1 N px A B C E M ox h oy z))] := by
  unfold RunIs; cases cl <;> cases h <;> cases nF <;> cases nM <;> cases nK <;> cases nC <;> kernel_rfl
theorem fa_Ek : RunIs Try.prog csQk [] 1000 4 Try.f3 [7, 8, 9, 10, 5, 12, 13, 14, 15, 16, 17, 19, 21] (headN 1 (tailN 11 cdFA)) (sF4 nF nM nK nC fs ms ks cs cl k r d v l gs a b c e X0 Y0 X1 Y1 N px A B C E M ox h oy z) []
    [([], fa5 ⟨cl, k, r, d, v, l, gs⟩ ++ askF cl k r d v l gs X0 Y0 X1 Y1 A B C E N px, .to .normal (sF5 nF nM nK nC fs ms ks cs cl k r d v l gs a b c e X0 Y0 X1 Y1 N px A B C E M ox h oy z 0))] := by
  unfold RunIs; cases cl <;> cases h <;> cases nF <;> cases nM <;> cases nK <;> cases nC <;> kernel_rfl
theorem fa_En : RunIs Try.prog csQn [] 1000 4 Try.f3 [7, 8, 9, 10, 5, 12, 13, 14, 15, 16, 17, 19, 21] (headN 1 (tailN 11 cdFA)) (sF4 nF nM nK nC fs ms ks cs cl k r d v l gs a b c e X0 Y0 X1 Y1 N px A B C E M ox h oy z) []
    [([], fa5 ⟨cl, k, r, d, v, l, gs⟩ ++ [N * 4 ≤ px.length, erF cl k r d v l gs X0 Y0 X1 Y1 A B C E N = 0, emptyB A B C E = true], .to .normal (sF5 nF nM nK nC fs ms ks cs cl k r d v l gs a b c e X0 Y0 X1 Y1 N px A B C E M ox h oy z 0))] := by
  unfold RunIs; cases cl <;> cases h <;> cases nF <;> cases nM <;> cases nK <;> cases nC <;> kernel_rfl
theorem fa_Ee : RunIs Try.prog (csQe y) [] 1000 4 Try.f3 [7, 8, 9, 10, 5, 12, 13, 14, 15, 16, 17, 19, 21] (headN 1 (tailN 11 cdFA)) (sF4 nF nM nK nC fs ms ks cs cl k r d v l gs a b c e X0 Y0 X1 Y1 N px A B C E M ox h oy z) []
    [([], fa5 ⟨cl, k, r, d, v, l, gs⟩ ++ [erF cl k r d v l gs X0 Y0 X1 Y1 A B C E N = y, y ≠ 0], .to .normal (sF5 nF nM nK nC fs ms ks cs cl k r d v l gs a b c e X0 Y0 X1 Y1 N px A B C E M ox h oy z y))] := by
  unfold RunIs; cases cl <;> cases h <;> cases nF <;> cases nM <;> cases nK <;> cases nC <;> kernel_rfl
theorem fa_F : RunIs Try.prog csQn [] 1000 4 Try.f3 [7, 8, 9, 10, 5, 12, 13, 14, 15, 16, 17, 19, 21, 22, 23] (headN 1 (tailN 12 cdFA)) (sF5 nF nM nK nC fs ms ks cs cl k r d v l gs a b c e X0 Y0 X1 Y1 N px A B C E M ox h oy z y) []
    [([], fa5 ⟨cl, k, r, d, v, l, gs⟩ ++ [N * 4 ≤ px.length, erF cl k r d v l gs X0 Y0 X1 Y1 a 0 a 0 N = 0, emptyB a 0 a 0 = true], .to .normal (sF6 nF nM nK nC fs ms ks cs cl k r d v l gs a b c e X0 Y0 X1 Y1 N px A B C E M ox h oy z y))] := by
  unfold RunIs; cases cl <;> cases h <;> cases nF <;> cases nM <;> cases nK <;> cases nC <;> kernel_rfl
end
end Go.Proofs.Ytadejpmecljjpaa
