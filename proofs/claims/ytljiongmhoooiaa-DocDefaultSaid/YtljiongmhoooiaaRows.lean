/-
  No cell of these rows narrows 'for every input' (looked for: loops, veiled, ifaces, maps, wideKeys, modest, calm, conditions, laid).
  DERIVED. THE GIVEN ROWS OF THIS SEAT. 2 by the template 'for every input the law returns true; each argument reads behind the call as it read before'; 0 by the template 'total and deterministic' (their statements: YtljiongmhoooiaaTotals.lean).
  GIVEN WITH THE SEED: the statements are not yours to turn. If you find one false, say at which input.
  Laid BY PROGRAM, IN A SANDBOX (cutbox-rows.mjs): the forced cells as the released guide's own fill.sh prints them over the translation 1bcc737109c02068… (all of the seat's roots in one cut). By AI agents, Wed Nov 11 2026. No macro, syntax, notation, axiom, sorry.
-/
import Derived.Test.YtljiongmhoooiaaChecked
import GoSem.Claim
import GoSem.ClaimJoined
import GoSem.ClaimMapViews
import Derived.JoinedTies
import Derived.KernelRfl
namespace Go.Proofs.Ytljiongmhoooiaa
/- THE CELL 'sum', in the pinned program and in every row, IS THE sha256 OF THE DUMP (.gsa) THAT YtljiongmhoooiaaProg.lean LOADS. Nothing in Lean hashes anything: it is a label: what it is worth is what the hold of that sum in a sandbox is worth. -/
noncomputable def Try.pinned : Pinned := { name := "ytljiongmhoooiaa", sum := "1bcc737109c020683647a60cb5c2a46b90bee720b0072a8661dbf18957d29a0f", checked := Try.checked }
namespace Rows
def none {H : Type} : Left H := { results := [], args := [] }

/-- 'gouachelaw16.DocDepth': WHATEVER THE INPUT: true; the input reads as it did. -/
def docDepthSpec : ChangeSpec := { name := "docDepth", fn := fun _ => fun
  | [d1, d2, d3] => { results := [.lit (.bool true)], args := [d1, d2, d3] }
  | _ => none }
def docDepthRow : OpenClaim := { program := "ytljiongmhoooiaa", sum := "1bcc737109c020683647a60cb5c2a46b90bee720b0072a8661dbf18957d29a0f", func := "gouache/gouachelaw16.DocDepth", spec := "docDepth", inPlace := ["internal/bytealg.IndexByteString", "internal/bytealg.IndexString"], unfollowed := true, recurses := true, named := ["internal/bytealg.MaxLen"], apart := false }
def DocDepthSaid : Prop := docDepthRow.holds Try.pinned (OpenSpec.ofChange docDepthSpec)

/-- ITS FALSE NEIGHBOUR: 'it returns false'. Refute it at one input. -/
def docDepthWrong : ChangeSpec := { name := "docDepth", fn := fun _ => fun
  | [d1, d2, d3] => { results := [.lit (.bool false)], args := [d1, d2, d3] }
  | _ => none }
def DocDepthWrongFalsely : Prop := docDepthRow.holds Try.pinned (OpenSpec.ofChange docDepthWrong)

/-- 'gouachelaw16.DocDefault': WHATEVER THE INPUT: true; the input reads as it did. -/
def docDefaultSpec : ChangeSpec := { name := "docDefault", fn := fun _ => fun
  | [d] => { results := [.lit (.bool true)], args := [d] }
  | _ => none }
def docDefaultRow : OpenClaim := { program := "ytljiongmhoooiaa", sum := "1bcc737109c020683647a60cb5c2a46b90bee720b0072a8661dbf18957d29a0f", func := "gouache/gouachelaw16.DocDefault", spec := "docDefault", inPlace := ["internal/bytealg.IndexByteString", "internal/bytealg.IndexString"], unfollowed := true, recurses := true, named := ["internal/bytealg.MaxLen"], apart := false }
def DocDefaultSaid : Prop := docDefaultRow.holds Try.pinned (OpenSpec.ofChange docDefaultSpec)

/-- ITS FALSE NEIGHBOUR: 'it returns false'. Refute it at one input. -/
def docDefaultWrong : ChangeSpec := { name := "docDefault", fn := fun _ => fun
  | [d] => { results := [.lit (.bool false)], args := [d] }
  | _ => none }
def DocDefaultWrongFalsely : Prop := docDefaultRow.holds Try.pinned (OpenSpec.ofChange docDefaultWrong)

/- THE SECOND FORM. 'bulk': how many values and letters a reading holds, each counted each time it is reached (what is shared counts as often as it is met; a slice's spare places count too). A statement '..UptoSaid' is the law's where the arguments, and the package variables that the reading takes, are together of bulk at most 1048576: NARROWER than '..Said'. Prove '..Said' where nothing that the law and all that it calls make is longer than what came in: it says more and counts as full. Else prove '..UptoSaid'. A law counts once. -/
mutual
def uptoBulk {H : Type} : DataW H → Nat
  | .lit (.string bytes) => bytes.length + 1
  | .lit _ => 1
  | .nil => 1
  | .ptr d => uptoBulk d + 1
  | .slice elems spare => uptoBulkAll elems + uptoBulkAll spare + 1
  | .agg parts => uptoBulkAll parts + 1
  | .iface _ d => uptoBulk d + 1
  | .map entries => uptoBulkEntries entries + 1
  | .held _ => 1
def uptoBulkAll {H : Type} : List (DataW H) → Nat
  | [] => 0
  | d :: r => uptoBulk d + uptoBulkAll r
def uptoBulkEntries {H : Type} : List (Lit × DataW H) → Nat
  | [] => 0
  | x :: r => uptoBulkEntry x + uptoBulkEntries r
def uptoBulkEntry {H : Type} : Lit × DataW H → Nat
  | (.string bytes, d) => bytes.length + uptoBulk d + 1
  | (_, d) => uptoBulk d + 1
 end
def uptoSmall : (H : Type) → List (DataW H) → Bool := fun _ ds => decide (uptoBulkAll ds ≤ 1048576)
def OpenSpec.upto (s : _root_.Go.ChangeSpec) : _root_.Go.OpenSpec := { _root_.Go.OpenSpec.ofChange s with cond := some uptoSmall }

/-- 'gouachelaw16.DocDepth', WHERE WHAT IT READS IS OF BULK AT MOST 1048576: true; the input reads as it did. -/
def docDepthUptoRow : OpenClaim := { program := "ytljiongmhoooiaa", sum := "1bcc737109c020683647a60cb5c2a46b90bee720b0072a8661dbf18957d29a0f", func := "gouache/gouachelaw16.DocDepth", spec := "docDepth", inPlace := ["internal/bytealg.IndexByteString", "internal/bytealg.IndexString"], unfollowed := true, recurses := true, named := ["internal/bytealg.MaxLen"], apart := false, narrowed := true }
def DocDepthUptoSaid : Prop := docDepthUptoRow.holds Try.pinned (OpenSpec.upto docDepthSpec)

/-- 'gouachelaw16.DocDefault', WHERE WHAT IT READS IS OF BULK AT MOST 1048576: true; the input reads as it did. -/
def docDefaultUptoRow : OpenClaim := { program := "ytljiongmhoooiaa", sum := "1bcc737109c020683647a60cb5c2a46b90bee720b0072a8661dbf18957d29a0f", func := "gouache/gouachelaw16.DocDefault", spec := "docDefault", inPlace := ["internal/bytealg.IndexByteString", "internal/bytealg.IndexString"], unfollowed := true, recurses := true, named := ["internal/bytealg.MaxLen"], apart := false, narrowed := true }
def DocDefaultUptoSaid : Prop := docDefaultUptoRow.holds Try.pinned (OpenSpec.upto docDefaultSpec)

end Rows
end Go.Proofs.Ytljiongmhoooiaa
