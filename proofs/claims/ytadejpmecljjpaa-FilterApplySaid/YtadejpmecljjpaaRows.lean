/-
  No cell of these rows narrows 'for every input' (looked for: loops, veiled, ifaces, maps, wideKeys, modest, calm, conditions, laid).
  DERIVED. THE GIVEN ROWS OF THIS SEAT. 10 by the template 'for every input the law returns true; each argument reads behind the call as it read before'; 0 by the template 'total and deterministic' (their statements: YtadejpmecljjpaaTotals.lean).
  GIVEN WITH THE SEED: the statements are not yours to turn. If you find one false, say at which input.
  Laid BY PROGRAM, IN A SANDBOX (cutbox-rows.mjs): the forced cells as the released guide's own fill.sh prints them over the translation 894708d215d90cc2… (all of the seat's roots in one cut). By AI agents, Wed Nov 11 2026. No macro, syntax, notation, axiom, sorry.
-/
import Derived.Test.YtadejpmecljjpaaChecked
import GoSem.Claim
import GoSem.ClaimJoined
import GoSem.ClaimMapViews
import Derived.JoinedTies
import Derived.KernelRfl
namespace Go.Proofs.Ytadejpmecljjpaa
/- THE CELL 'sum', in the pinned program and in every row, IS THE sha256 OF THE DUMP (.gsa) THAT YtadejpmecljjpaaProg.lean LOADS. Nothing in Lean hashes anything: it is a label: what it is worth is what the hold of that sum in a sandbox is worth. -/
noncomputable def Try.pinned : Pinned := { name := "ytadejpmecljjpaa", sum := "894708d215d90cc20e3235f58f22089c8ec3af44111f82f227d9c8847709f6b0", checked := Try.checked }
namespace Rows
def none {H : Type} : Left H := { results := [], args := [] }

/-- 'gouachelaw13.FilterApply': WHATEVER THE INPUT: true; the input reads as it did. -/
def filterApplySpec : ChangeSpec := { name := "filterApply", fn := fun _ => fun
  | [d1, d2, d3] => { results := [.lit (.bool true)], args := [d1, d2, d3] }
  | _ => none }
def filterApplyRow : OpenClaim := { program := "ytadejpmecljjpaa", sum := "894708d215d90cc20e3235f58f22089c8ec3af44111f82f227d9c8847709f6b0", func := "gouache/gouachelaw13.FilterApply", spec := "filterApply", unfollowed := true, recurses := true, apart := false }
def FilterApplySaid : Prop := filterApplyRow.holds Try.pinned (OpenSpec.ofChange filterApplySpec)

/-- ITS FALSE NEIGHBOUR: 'it returns false'. Refute it at one input. -/
def filterApplyWrong : ChangeSpec := { name := "filterApply", fn := fun _ => fun
  | [d1, d2, d3] => { results := [.lit (.bool false)], args := [d1, d2, d3] }
  | _ => none }
def FilterApplyWrongFalsely : Prop := filterApplyRow.holds Try.pinned (OpenSpec.ofChange filterApplyWrong)

/-- 'gouachelaw13.FilterShift': WHATEVER THE INPUT: true; the input reads as it did. -/
def filterShiftSpec : ChangeSpec := { name := "filterShift", fn := fun _ => fun
  | [d1, d2] => { results := [.lit (.bool true)], args := [d1, d2] }
  | _ => none }
def filterShiftRow : OpenClaim := { program := "ytadejpmecljjpaa", sum := "894708d215d90cc20e3235f58f22089c8ec3af44111f82f227d9c8847709f6b0", func := "gouache/gouachelaw13.FilterShift", spec := "filterShift", unfollowed := true, recurses := true, apart := false }
def FilterShiftSaid : Prop := filterShiftRow.holds Try.pinned (OpenSpec.ofChange filterShiftSpec)

/-- ITS FALSE NEIGHBOUR: 'it returns false'. Refute it at one input. -/
def filterShiftWrong : ChangeSpec := { name := "filterShift", fn := fun _ => fun
  | [d1, d2] => { results := [.lit (.bool false)], args := [d1, d2] }
  | _ => none }
def FilterShiftWrongFalsely : Prop := filterShiftRow.holds Try.pinned (OpenSpec.ofChange filterShiftWrong)

/-- 'gouachelaw13.FilterMorphology': WHATEVER THE INPUT: true; the input reads as it did. -/
def filterMorphologySpec : ChangeSpec := { name := "filterMorphology", fn := fun _ => fun
  | [d1, d2] => { results := [.lit (.bool true)], args := [d1, d2] }
  | _ => none }
def filterMorphologyRow : OpenClaim := { program := "ytadejpmecljjpaa", sum := "894708d215d90cc20e3235f58f22089c8ec3af44111f82f227d9c8847709f6b0", func := "gouache/gouachelaw13.FilterMorphology", spec := "filterMorphology", unfollowed := true, recurses := true, apart := false }
def FilterMorphologySaid : Prop := filterMorphologyRow.holds Try.pinned (OpenSpec.ofChange filterMorphologySpec)

/-- ITS FALSE NEIGHBOUR: 'it returns false'. Refute it at one input. -/
def filterMorphologyWrong : ChangeSpec := { name := "filterMorphology", fn := fun _ => fun
  | [d1, d2] => { results := [.lit (.bool false)], args := [d1, d2] }
  | _ => none }
def FilterMorphologyWrongFalsely : Prop := filterMorphologyRow.holds Try.pinned (OpenSpec.ofChange filterMorphologyWrong)

/-- 'gouachelaw13.FilterAreas': WHATEVER THE INPUT: true; the input reads as it did. -/
def filterAreasSpec : ChangeSpec := { name := "filterAreas", fn := fun _ => fun
  | [d1, d2, d3] => { results := [.lit (.bool true)], args := [d1, d2, d3] }
  | _ => none }
def filterAreasRow : OpenClaim := { program := "ytadejpmecljjpaa", sum := "894708d215d90cc20e3235f58f22089c8ec3af44111f82f227d9c8847709f6b0", func := "gouache/gouachelaw13.FilterAreas", spec := "filterAreas", unfollowed := true, recurses := true, apart := false }
def FilterAreasSaid : Prop := filterAreasRow.holds Try.pinned (OpenSpec.ofChange filterAreasSpec)

/-- ITS FALSE NEIGHBOUR: 'it returns false'. Refute it at one input. -/
def filterAreasWrong : ChangeSpec := { name := "filterAreas", fn := fun _ => fun
  | [d1, d2, d3] => { results := [.lit (.bool false)], args := [d1, d2, d3] }
  | _ => none }
def FilterAreasWrongFalsely : Prop := filterAreasRow.holds Try.pinned (OpenSpec.ofChange filterAreasWrong)

/-- 'gouachelaw13.FilterLocality': WHATEVER THE INPUT: true; the input reads as it did. -/
def filterLocalitySpec : ChangeSpec := { name := "filterLocality", fn := fun _ => fun
  | [d1, d2, d3] => { results := [.lit (.bool true)], args := [d1, d2, d3] }
  | _ => none }
def filterLocalityRow : OpenClaim := { program := "ytadejpmecljjpaa", sum := "894708d215d90cc20e3235f58f22089c8ec3af44111f82f227d9c8847709f6b0", func := "gouache/gouachelaw13.FilterLocality", spec := "filterLocality", unfollowed := true, recurses := true, apart := false }
def FilterLocalitySaid : Prop := filterLocalityRow.holds Try.pinned (OpenSpec.ofChange filterLocalitySpec)

/-- ITS FALSE NEIGHBOUR: 'it returns false'. Refute it at one input. -/
def filterLocalityWrong : ChangeSpec := { name := "filterLocality", fn := fun _ => fun
  | [d1, d2, d3] => { results := [.lit (.bool false)], args := [d1, d2, d3] }
  | _ => none }
def FilterLocalityWrongFalsely : Prop := filterLocalityRow.holds Try.pinned (OpenSpec.ofChange filterLocalityWrong)

/-- 'gouachelaw13.FilterClear': WHATEVER THE INPUT: true; the input reads as it did. -/
def filterClearSpec : ChangeSpec := { name := "filterClear", fn := fun _ => fun
  | [d1, d2] => { results := [.lit (.bool true)], args := [d1, d2] }
  | _ => none }
def filterClearRow : OpenClaim := { program := "ytadejpmecljjpaa", sum := "894708d215d90cc20e3235f58f22089c8ec3af44111f82f227d9c8847709f6b0", func := "gouache/gouachelaw13.FilterClear", spec := "filterClear", unfollowed := true, recurses := true, apart := false }
def FilterClearSaid : Prop := filterClearRow.holds Try.pinned (OpenSpec.ofChange filterClearSpec)

/-- ITS FALSE NEIGHBOUR: 'it returns false'. Refute it at one input. -/
def filterClearWrong : ChangeSpec := { name := "filterClear", fn := fun _ => fun
  | [d1, d2] => { results := [.lit (.bool false)], args := [d1, d2] }
  | _ => none }
def FilterClearWrongFalsely : Prop := filterClearRow.holds Try.pinned (OpenSpec.ofChange filterClearWrong)

/-- 'gouachelaw13.FilterLocal': WHATEVER THE INPUT: true; the input reads as it did. -/
def filterLocalSpec : ChangeSpec := { name := "filterLocal", fn := fun _ => fun
  | [d] => { results := [.lit (.bool true)], args := [d] }
  | _ => none }
def filterLocalRow : OpenClaim := { program := "ytadejpmecljjpaa", sum := "894708d215d90cc20e3235f58f22089c8ec3af44111f82f227d9c8847709f6b0", func := "gouache/gouachelaw13.FilterLocal", spec := "filterLocal", unfollowed := true, recurses := true, apart := false }
def FilterLocalSaid : Prop := filterLocalRow.holds Try.pinned (OpenSpec.ofChange filterLocalSpec)

/-- ITS FALSE NEIGHBOUR: 'it returns false'. Refute it at one input. -/
def filterLocalWrong : ChangeSpec := { name := "filterLocal", fn := fun _ => fun
  | [d] => { results := [.lit (.bool false)], args := [d] }
  | _ => none }
def FilterLocalWrongFalsely : Prop := filterLocalRow.holds Try.pinned (OpenSpec.ofChange filterLocalWrong)

/-- 'gouachelaw13.FilterBytes': WHATEVER THE INPUT: true; the input reads as it did. -/
def filterBytesSpec : ChangeSpec := { name := "filterBytes", fn := fun _ => fun
  | [d1, d2, d3] => { results := [.lit (.bool true)], args := [d1, d2, d3] }
  | _ => none }
def filterBytesRow : OpenClaim := { program := "ytadejpmecljjpaa", sum := "894708d215d90cc20e3235f58f22089c8ec3af44111f82f227d9c8847709f6b0", func := "gouache/gouachelaw13.FilterBytes", spec := "filterBytes", unfollowed := true, recurses := true, apart := false }
def FilterBytesSaid : Prop := filterBytesRow.holds Try.pinned (OpenSpec.ofChange filterBytesSpec)

/-- ITS FALSE NEIGHBOUR: 'it returns false'. Refute it at one input. -/
def filterBytesWrong : ChangeSpec := { name := "filterBytes", fn := fun _ => fun
  | [d1, d2, d3] => { results := [.lit (.bool false)], args := [d1, d2, d3] }
  | _ => none }
def FilterBytesWrongFalsely : Prop := filterBytesRow.holds Try.pinned (OpenSpec.ofChange filterBytesWrong)

/-- 'gouachelaw13.FilterValid': WHATEVER THE INPUT: true; the input reads as it did. -/
def filterValidSpec : ChangeSpec := { name := "filterValid", fn := fun _ => fun
  | [d1, d2, d3] => { results := [.lit (.bool true)], args := [d1, d2, d3] }
  | _ => none }
def filterValidRow : OpenClaim := { program := "ytadejpmecljjpaa", sum := "894708d215d90cc20e3235f58f22089c8ec3af44111f82f227d9c8847709f6b0", func := "gouache/gouachelaw13.FilterValid", spec := "filterValid", unfollowed := true, recurses := true, apart := false }
def FilterValidSaid : Prop := filterValidRow.holds Try.pinned (OpenSpec.ofChange filterValidSpec)

/-- ITS FALSE NEIGHBOUR: 'it returns false'. Refute it at one input. -/
def filterValidWrong : ChangeSpec := { name := "filterValid", fn := fun _ => fun
  | [d1, d2, d3] => { results := [.lit (.bool false)], args := [d1, d2, d3] }
  | _ => none }
def FilterValidWrongFalsely : Prop := filterValidRow.holds Try.pinned (OpenSpec.ofChange filterValidWrong)

/-- 'gouachelaw13.FilterIdentity': WHATEVER THE INPUT: true; the input reads as it did. -/
def filterIdentitySpec : ChangeSpec := { name := "filterIdentity", fn := fun _ => fun
  | [d1, d2, d3] => { results := [.lit (.bool true)], args := [d1, d2, d3] }
  | _ => none }
def filterIdentityRow : OpenClaim := { program := "ytadejpmecljjpaa", sum := "894708d215d90cc20e3235f58f22089c8ec3af44111f82f227d9c8847709f6b0", func := "gouache/gouachelaw13.FilterIdentity", spec := "filterIdentity", unfollowed := true, recurses := true, apart := false }
def FilterIdentitySaid : Prop := filterIdentityRow.holds Try.pinned (OpenSpec.ofChange filterIdentitySpec)

/-- ITS FALSE NEIGHBOUR: 'it returns false'. Refute it at one input. -/
def filterIdentityWrong : ChangeSpec := { name := "filterIdentity", fn := fun _ => fun
  | [d1, d2, d3] => { results := [.lit (.bool false)], args := [d1, d2, d3] }
  | _ => none }
def FilterIdentityWrongFalsely : Prop := filterIdentityRow.holds Try.pinned (OpenSpec.ofChange filterIdentityWrong)

/- THE SECOND FORM. 'bulk': how many values and letters a reading holds, each counted each time it is reached (what is shared counts as often as it is met; a slice's spare places count too). A statement '..UptoSaid' is the law's where the arguments, and the package variables that the reading takes, are together of bulk at most 1048576: NARROWER than '..Said'. Prove '..Said' where nothing that the law and all that it calls make is longer than what came in: it says more and counts as full. Else prove '..UptoSaid'. A law counts once. -/
mutual
def uptoBulk {H : Type} : DataW H → Nat
  | .lit (.string bytes) => bytes.length + 1
  | .lit _ => 1
  | .nil => 1
  | .ptr d => uptoBulk d + 1
  | .slice elems spare => uptoBulkAll elems + uptoBulkAll spare + 1
  | .agg parts => uptoBulkAll parts + 1
  | .iface _ d => uptoBulk d + 1
  | .map entries => uptoBulkEntries entries + 1
  | .held _ => 1
def uptoBulkAll {H : Type} : List (DataW H) → Nat
  | [] => 0
  | d :: r => uptoBulk d + uptoBulkAll r
def uptoBulkEntries {H : Type} : List (Lit × DataW H) → Nat
  | [] => 0
  | x :: r => uptoBulkEntry x + uptoBulkEntries r
def uptoBulkEntry {H : Type} : Lit × DataW H → Nat
  | (.string bytes, d) => bytes.length + uptoBulk d + 1
  | (_, d) => uptoBulk d + 1
 end
def uptoSmall : (H : Type) → List (DataW H) → Bool := fun _ ds => decide (uptoBulkAll ds ≤ 1048576)
def OpenSpec.upto (s : _root_.Go.ChangeSpec) : _root_.Go.OpenSpec := { _root_.Go.OpenSpec.ofChange s with cond := some uptoSmall }

/-- 'gouachelaw13.FilterApply', WHERE WHAT IT READS IS OF BULK AT MOST 1048576: true; the input reads as it did. -/
def filterApplyUptoRow : OpenClaim := { program := "ytadejpmecljjpaa", sum := "894708d215d90cc20e3235f58f22089c8ec3af44111f82f227d9c8847709f6b0", func := "gouache/gouachelaw13.FilterApply", spec := "filterApply", unfollowed := true, recurses := true, apart := false, narrowed := true }
def FilterApplyUptoSaid : Prop := filterApplyUptoRow.holds Try.pinned (OpenSpec.upto filterApplySpec)

/-- 'gouachelaw13.FilterShift', WHERE WHAT IT READS IS OF BULK AT MOST 1048576: true; the input reads as it did. -/
def filterShiftUptoRow : OpenClaim := { program := "ytadejpmecljjpaa", sum := "894708d215d90cc20e3235f58f22089c8ec3af44111f82f227d9c8847709f6b0", func := "gouache/gouachelaw13.FilterShift", spec := "filterShift", unfollowed := true, recurses := true, apart := false, narrowed := true }
def FilterShiftUptoSaid : Prop := filterShiftUptoRow.holds Try.pinned (OpenSpec.upto filterShiftSpec)

/-- 'gouachelaw13.FilterMorphology', WHERE WHAT IT READS IS OF BULK AT MOST 1048576: true; the input reads as it did. -/
def filterMorphologyUptoRow : OpenClaim := { program := "ytadejpmecljjpaa", sum := "894708d215d90cc20e3235f58f22089c8ec3af44111f82f227d9c8847709f6b0", func := "gouache/gouachelaw13.FilterMorphology", spec := "filterMorphology", unfollowed := true, recurses := true, apart := false, narrowed := true }
def FilterMorphologyUptoSaid : Prop := filterMorphologyUptoRow.holds Try.pinned (OpenSpec.upto filterMorphologySpec)

/-- 'gouachelaw13.FilterAreas', WHERE WHAT IT READS IS OF BULK AT MOST 1048576: true; the input reads as it did. -/
def filterAreasUptoRow : OpenClaim := { program := "ytadejpmecljjpaa", sum := "894708d215d90cc20e3235f58f22089c8ec3af44111f82f227d9c8847709f6b0", func := "gouache/gouachelaw13.FilterAreas", spec := "filterAreas", unfollowed := true, recurses := true, apart := false, narrowed := true }
def FilterAreasUptoSaid : Prop := filterAreasUptoRow.holds Try.pinned (OpenSpec.upto filterAreasSpec)

/-- 'gouachelaw13.FilterLocality', WHERE WHAT IT READS IS OF BULK AT MOST 1048576: true; the input reads as it did. -/
def filterLocalityUptoRow : OpenClaim := { program := "ytadejpmecljjpaa", sum := "894708d215d90cc20e3235f58f22089c8ec3af44111f82f227d9c8847709f6b0", func := "gouache/gouachelaw13.FilterLocality", spec := "filterLocality", unfollowed := true, recurses := true, apart := false, narrowed := true }
def FilterLocalityUptoSaid : Prop := filterLocalityUptoRow.holds Try.pinned (OpenSpec.upto filterLocalitySpec)

/-- 'gouachelaw13.FilterClear', WHERE WHAT IT READS IS OF BULK AT MOST 1048576: true; the input reads as it did. -/
def filterClearUptoRow : OpenClaim := { program := "ytadejpmecljjpaa", sum := "894708d215d90cc20e3235f58f22089c8ec3af44111f82f227d9c8847709f6b0", func := "gouache/gouachelaw13.FilterClear", spec := "filterClear", unfollowed := true, recurses := true, apart := false, narrowed := true }
def FilterClearUptoSaid : Prop := filterClearUptoRow.holds Try.pinned (OpenSpec.upto filterClearSpec)

/-- 'gouachelaw13.FilterLocal', WHERE WHAT IT READS IS OF BULK AT MOST 1048576: true; the input reads as it did. -/
def filterLocalUptoRow : OpenClaim := { program := "ytadejpmecljjpaa", sum := "894708d215d90cc20e3235f58f22089c8ec3af44111f82f227d9c8847709f6b0", func := "gouache/gouachelaw13.FilterLocal", spec := "filterLocal", unfollowed := true, recurses := true, apart := false, narrowed := true }
def FilterLocalUptoSaid : Prop := filterLocalUptoRow.holds Try.pinned (OpenSpec.upto filterLocalSpec)

/-- 'gouachelaw13.FilterBytes', WHERE WHAT IT READS IS OF BULK AT MOST 1048576: true; the input reads as it did. -/
def filterBytesUptoRow : OpenClaim := { program := "ytadejpmecljjpaa", sum := "894708d215d90cc20e3235f58f22089c8ec3af44111f82f227d9c8847709f6b0", func := "gouache/gouachelaw13.FilterBytes", spec := "filterBytes", unfollowed := true, recurses := true, apart := false, narrowed := true }
def FilterBytesUptoSaid : Prop := filterBytesUptoRow.holds Try.pinned (OpenSpec.upto filterBytesSpec)

/-- 'gouachelaw13.FilterValid', WHERE WHAT IT READS IS OF BULK AT MOST 1048576: true; the input reads as it did. -/
def filterValidUptoRow : OpenClaim := { program := "ytadejpmecljjpaa", sum := "894708d215d90cc20e3235f58f22089c8ec3af44111f82f227d9c8847709f6b0", func := "gouache/gouachelaw13.FilterValid", spec := "filterValid", unfollowed := true, recurses := true, apart := false, narrowed := true }
def FilterValidUptoSaid : Prop := filterValidUptoRow.holds Try.pinned (OpenSpec.upto filterValidSpec)

/-- 'gouachelaw13.FilterIdentity', WHERE WHAT IT READS IS OF BULK AT MOST 1048576: true; the input reads as it did. -/
def filterIdentityUptoRow : OpenClaim := { program := "ytadejpmecljjpaa", sum := "894708d215d90cc20e3235f58f22089c8ec3af44111f82f227d9c8847709f6b0", func := "gouache/gouachelaw13.FilterIdentity", spec := "filterIdentity", unfollowed := true, recurses := true, apart := false, narrowed := true }
def FilterIdentityUptoSaid : Prop := filterIdentityUptoRow.holds Try.pinned (OpenSpec.upto filterIdentitySpec)

end Rows
end Go.Proofs.Ytadejpmecljjpaa
