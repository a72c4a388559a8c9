/- FilterMorphology: the whole function. No conditions. -/
import Derived.Test.YtadejpmecljjpaaFlMoP
set_option linter.unusedVariables false
set_option linter.unusedSimpArgs false
set_option linter.unusedSectionVars false
namespace Go.Proofs.Ytadejpmecljjpaa
open Go Go.Eng
theorem asK_ok {k n X0 Y0 X1 Y1 a b c e : Int} {N : Nat} {px : List Int} (h1 : N * 4 ≤ px.length) (h2 : apErr X0 Y0 X1 Y1 a b c e N k n 0 0 0 [] 0 [] = 0) (h3 : emptyB a b c e = false) : ∀ p ∈ asK k n X0 Y0 X1 Y1 a b c e N px, p := by
  intro p hp
  rcases List.mem_append.1 hp with hp | hp
  · simp only [fa0, List.mem_cons, List.not_mem_nil, or_false] at hp
    rcases hp with rfl | rfl | rfl | rfl
    · exact Nat.le_refl 0
    · exact Nat.zero_le _
    · exact Nat.le_refl 0
    · exact Nat.zero_le _
  · simp only [List.mem_cons, List.not_mem_nil, or_false] at hp
    rcases hp with rfl | rfl | rfl
    · exact h1
    · exact h2
    · exact h3
section
variable (nF nM : Bool) (fs ms : List Int) (lF cF lM cM : Nat) (q0 q1 q2 q3 b0 : Int)
end
end Go.Proofs.Ytadejpmecljjpaa
