/- The engine, part IN: data that come in, as deep values. No conditions: lemmas alone. -/
import Derived.Test.YtmjggdmekboefaaGreatDoorJointFive
import Derived.ProofKit
import Derived.OpenShut
set_option linter.unusedVariables false
set_option linter.unusedSimpArgs false
set_option linter.unusedSectionVars false
namespace Go.Eng
open Go Go.ChangeShapes Go.WideShapes
inductive Ty where
  | bool
  | int (k : IntKind)
  | str
  | slc (e : Ty)
  | agg (fs : List Ty)
  deriving Inhabited
mutual
/-- cells of such a datum -/
def Ty.ok : Ty → List D → Prop
  | .bool, ds => ∃ b, ds = [.bool b]
  | .int k, ds => ∃ n, ds = [.int k n] ∧ (Lit.int k n).wf = true
  | .str, ds => ∃ s, ds = [.str s] ∧ s.length ≤ maxLen
  | .slc e, ds => ∃ rows : List (List D), ds = [.lst rows.length rows.flatten] ∧ rows.length ≤ maxLen ∧ ∀ r ∈ rows, Ty.ok e r
  | .agg fs, ds => Ty.oks fs ds
def Ty.oks : List Ty → List D → Prop
  | [], ds => ds = []
  | f :: fs, ds => ∃ a b, ds = a ++ b ∧ Ty.ok f a ∧ Ty.oks fs b
end
def phiW (w : World) (b : Nat) : Option (Array Value) := match w.heap[b]? with
  | some (.cells c _ _) => some c
  | _ => none
theorem phiW_ok (w : World) : FzOk (phiW w) w := by
  intro b c q
  unfold phiW at q
  split at q
  · rename_i c' el fz h; cases q; exact ⟨el, fz, h⟩
  · cases q
section
variable {H : Type} {enc : TypeId × Value → H} {P : Program} {w : World} {spare : Nat → Bool} {held : Bool}
end
end Go.Eng
