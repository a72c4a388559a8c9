/- FilterApply: the law's third part. No conditions. -/
import Derived.Test.YtadejpmecljjpaaFlApJ
set_option linter.unusedVariables false
set_option linter.unusedSimpArgs false
set_option linter.unusedSectionVars false
namespace Go.Proofs.Ytadejpmecljjpaa
open Go Go.Eng
set_option linter.unusedVariables false
section
variable (nF nM nK nC : Bool) (fs ms ks cs : List Int) (cl : Cl) (k r d v : Int) (l : Nat) (gs : List Int) (gk gr gd gv : Int) (mK cK mC cC : Nat) (a b c e X0 Y0 X1 Y1 : Int) (N : Nat) (px : List Int) (A B C E : Int) (M : Nat) (ox : List Int) (h : Bool) (oy : List Int) (z y : Int)
def smG : List Prop := match h with | true => smOk 0 0 0 0 0 0 0 0 0 0 [] [] | false => smOk a b c e a b c e M M oy oy
abbrev finA : List Prop := [V.bool ((0 : Int) == 0) = V.bool true, V.bool (zOf h z == zOf h z) = V.bool true, V.bool (rcE (a, 0, a, 0) a 0 a 0) = V.bool true]
abbrev faR : Tr O := hL (rows4 nF nM nK nC fs ms ks cs)
theorem fa_Gn : RunIs Try.prog csQk [(117, .give (.bool false)), (135, .give (.bool true)), (141, .give (.bool true)), (159, .give (.bool true))] 1000 4 Try.f3 [] (tailN 13 cdFA) (sF6 nF nM nK nC fs ms ks cs cl k r d v l gs a b c e X0 Y0 X1 Y1 N px A B C E M ox h oy z y) []
    [([], smOk a b c e a b c e M M ox ox ++ (smG a b c e M h oy ++ (pBq (!emptyB A B C E) false :: finA a h z)), .ret (.bool true) (faR nF nM nK nC fs ms ks cs) 4)] := by
  unfold RunIs; cases cl <;> cases h <;> cases nF <;> cases nM <;> cases nK <;> cases nC <;> kernel_rfl
theorem fa_Gk : RunIs Try.prog csQk [(117, .give (.bool true)), (125, .give (.bool false)), (135, .give (.bool true)), (141, .give (.bool true)), (159, .give (.bool true))] 1000 4 Try.f3 [] (tailN 13 cdFA) (sF6 nF nM nK nC fs ms ks cs cl k r d v l gs a b c e X0 Y0 X1 Y1 N px A B C E M ox h oy z 0) []
    [([], smOk a b c e a b c e M M ox ox ++ (smG a b c e M h oy ++ (pBq (!emptyB A B C E) true :: (fa5 ⟨cl, k, r, d, v, l, gs⟩ ++ (okR cl k r d v l gs X0 Y0 X1 Y1 N px A B C E ++ (pBq ((0 : Int) != 0) false :: finA a h z))))), .ret (.bool true) (faR nF nM nK nC fs ms ks cs) 4)] := by
  unfold RunIs; cases cl <;> cases h <;> cases nF <;> cases nM <;> cases nK <;> cases nC <;> kernel_rfl
theorem fa_Ge : RunIs Try.prog (csQe y) [(117, .give (.bool true)), (125, .give (.bool false)), (135, .give (.bool true)), (141, .give (.bool true)), (159, .give (.bool true))] 1000 4 Try.f3 [] (tailN 13 cdFA) (sF6 nF nM nK nC fs ms ks cs cl k r d v l gs a b c e X0 Y0 X1 Y1 N px A B C E M ox h oy z y) []
    [([], smOk a b c e a b c e M M ox ox ++ (smG a b c e M h oy ++ (pBq (!emptyB A B C E) true :: (fa5 ⟨cl, k, r, d, v, l, gs⟩ ++ ([erF cl k r d v l gs X0 Y0 X1 Y1 A B C E N = y, y ≠ 0] ++ (pBq (y != y) false :: finA a h z))))), .ret (.bool true) (faR nF nM nK nC fs ms ks cs) 4)] := by
  unfold RunIs; cases cl <;> cases h <;> cases nF <;> cases nM <;> cases nK <;> cases nC <;> kernel_rfl
end
end Go.Proofs.Ytadejpmecljjpaa
