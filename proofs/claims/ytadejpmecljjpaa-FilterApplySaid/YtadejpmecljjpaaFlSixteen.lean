/- FilterIdentity: the identity curve of 257 points. No conditions. -/
import Derived.Test.YtadejpmecljjpaaFlFifteen
set_option linter.unusedVariables false
set_option linter.unusedSimpArgs false
set_option linter.unusedSectionVars false
namespace Go.Proofs.Ytadejpmecljjpaa
open Go Go.Eng
end Go.Proofs.Ytadejpmecljjpaa
namespace Go.Proofs.Ytadejpmecljjpaa
open Go Go.Eng
abbrev kK (n : Nat) : Nat := (2 * n + 1) * (2 * n + 1)
section
variable (nF nM : Bool) (fs ms : List Int) (a b c e X0 Y0 X1 Y1 : Int) (N : Nat) (px : List Int) (n : Nat) (dv b1 : Int)
def plB (f : Bool) (ot : List Int) : O := match f with | true => .cells [] | false => .own .u8 ot
variable (m : Nat) (o : O)
end
end Go.Proofs.Ytadejpmecljjpaa
namespace Go.Proofs.Ytadejpmecljjpaa
open Go Go.Eng
structure Cln (q : Q4) : Prop where
  r : 0 ≤ q.1 ∧ q.1 ≤ 255
  g : 0 ≤ q.2.1 ∧ q.2.1 ≤ 255
  b : 0 ≤ q.2.2.1 ∧ q.2.2.1 ≤ 255
  a : 0 ≤ q.2.2.2 ∧ q.2.2.2 ≤ 255
  c : clQ q = q
theorem Cln.zero {q : Q4} (h : Cln q) (ha : q.2.2.2 = 0) : q = (0, 0, 0, 0) := by
  have := h.c
  unfold clQ at this
  rw [if_pos ha] at this
  exact this.symm
theorem cln_z : Cln (0, 0, 0, 0) := ⟨⟨Int.le_refl _, by show (0 : Int) ≤ 255; omega⟩, ⟨Int.le_refl _, by show (0 : Int) ≤ 255; omega⟩, ⟨Int.le_refl _, by show (0 : Int) ≤ 255; omega⟩, ⟨Int.le_refl _, by show (0 : Int) ≤ 255; omega⟩, rfl⟩
theorem madeA_rng (x : Int) : 0 ≤ madeA x ∧ madeA x ≤ 255 := by
  unfold madeA
  split
  · omega
  · split
    · omega
    · exact u8w_rng _
theorem imgQ_cln (l : Nat) (ss : List Int) (i : Nat) : Cln (imgQ l ss i) := by
  unfold imgQ
  by_cases h : (madeQ (imgN l ss i)).2.2.2 = 0
  · have : clQ (madeQ (imgN l ss i)) = (0, 0, 0, 0) := by unfold clQ; rw [if_pos h]
    rw [this]; exact cln_z
  · have e : clQ (madeQ (imgN l ss i)) = madeQ (imgN l ss i) := by unfold clQ; rw [if_neg h]
    exact ⟨by rw [e]; exact u8w_rng _, by rw [e]; exact u8w_rng _, by rw [e]; exact u8w_rng _, by rw [e]; exact madeA_rng _, clQ_id _⟩
section
variable {k r d v : Int} {ks : List Int} {lC : Nat} {cs : List Int} {g : Nat → Q4}
theorem mul_le_mul' {a b A B : Int} (h1 : 0 ≤ a) (h2 : a ≤ A) (h3 : 0 ≤ b) (h4 : b ≤ B) : 0 ≤ a * b ∧ a * b ≤ A * B := ⟨Int.mul_nonneg h1 h3, Int.mul_le_mul h2 h4 h3 (by omega)⟩
end
end Go.Proofs.Ytadejpmecljjpaa
