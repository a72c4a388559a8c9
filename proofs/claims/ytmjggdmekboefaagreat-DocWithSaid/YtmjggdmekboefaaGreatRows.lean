/-
  No cell of these rows narrows 'for every input' (looked for: loops, veiled, ifaces, maps, wideKeys, modest, calm, conditions, laid).
  DERIVED. THE GIVEN ROWS OF THIS SEAT. 5 by the template 'for every input the law returns true; each argument reads behind the call as it read before'; 0 by the template 'total and deterministic' (their statements: YtmjggdmekboefaaGreatTotals.lean).
  GIVEN WITH THE SEED: the statements are not yours to turn. If you find one false, say at which input.
  Laid BY PROGRAM, IN A SANDBOX (cutbox-rows.mjs): the forced cells as the released guide's own fill.sh prints them over the translation 6a2b4d1b7ab916d1… (all of the seat's roots in one cut). By AI agents, Wed Nov 11 2026. No macro, syntax, notation, axiom, sorry.
-/
import Derived.Test.YtmjggdmekboefaaGreatChecked
import GoSem.Claim
import GoSem.ClaimJoined
import GoSem.ClaimMapViews
import Derived.JoinedTies
import Derived.KernelRfl
namespace Go.Proofs.YtmjggdmekboefaaGreat
/- THE CELL 'sum', in the pinned program and in every row, IS THE sha256 OF THE DUMP (.gsa) THAT YtmjggdmekboefaaGreatProg.lean LOADS. Nothing in Lean hashes anything: it is a label: what it is worth is what the hold of that sum in a sandbox is worth. -/
noncomputable def Tryz.pinned : Pinned := { name := "ytmjggdmekboefaagreat", sum := "6a2b4d1b7ab916d1b85b41c70d1e82fefe6434be587aa007e8af5cfb8d4a5a10", checked := Tryz.checked }
namespace Rows
def none {H : Type} : Left H := { results := [], args := [] }

/-- 'gouachelaw16.DocWith': WHATEVER THE INPUT: true; the input reads as it did. -/
def docWithSpec : ChangeSpec := { name := "docWith", fn := fun _ => fun
  | [d1, d2] => { results := [.lit (.bool true)], args := [d1, d2] }
  | _ => none }
def docWithRow : OpenClaim := { program := "ytmjggdmekboefaagreat", sum := "6a2b4d1b7ab916d1b85b41c70d1e82fefe6434be587aa007e8af5cfb8d4a5a10", func := "gouache/gouachelaw16.DocWith", spec := "docWith", inPlace := ["internal/bytealg.IndexByteString", "internal/bytealg.IndexString"], unfollowed := true, recurses := true, named := ["internal/bytealg.MaxLen"], apart := false }
def DocWithSaid : Prop := docWithRow.holds Tryz.pinned (OpenSpec.ofChange docWithSpec)

/-- ITS FALSE NEIGHBOUR: 'it returns false'. Refute it at one input. -/
def docWithWrong : ChangeSpec := { name := "docWith", fn := fun _ => fun
  | [d1, d2] => { results := [.lit (.bool false)], args := [d1, d2] }
  | _ => none }
def DocWithWrongFalsely : Prop := docWithRow.holds Tryz.pinned (OpenSpec.ofChange docWithWrong)

/-- 'gouachelaw16.DocUses': WHATEVER THE INPUT: true; the input reads as it did. -/
def docUsesSpec : ChangeSpec := { name := "docUses", fn := fun _ => fun
  | [d] => { results := [.lit (.bool true)], args := [d] }
  | _ => none }
def docUsesRow : OpenClaim := { program := "ytmjggdmekboefaagreat", sum := "6a2b4d1b7ab916d1b85b41c70d1e82fefe6434be587aa007e8af5cfb8d4a5a10", func := "gouache/gouachelaw16.DocUses", spec := "docUses", inPlace := ["internal/bytealg.IndexByteString", "internal/bytealg.IndexString"], unfollowed := true, recurses := true, named := ["internal/bytealg.MaxLen"], apart := false }
def DocUsesSaid : Prop := docUsesRow.holds Tryz.pinned (OpenSpec.ofChange docUsesSpec)

/-- ITS FALSE NEIGHBOUR: 'it returns false'. Refute it at one input. -/
def docUsesWrong : ChangeSpec := { name := "docUses", fn := fun _ => fun
  | [d] => { results := [.lit (.bool false)], args := [d] }
  | _ => none }
def DocUsesWrongFalsely : Prop := docUsesRow.holds Tryz.pinned (OpenSpec.ofChange docUsesWrong)

/-- 'gouachelaw16.DocOrder': WHATEVER THE INPUT: true; the input reads as it did. -/
def docOrderSpec : ChangeSpec := { name := "docOrder", fn := fun _ => fun
  | [d] => { results := [.lit (.bool true)], args := [d] }
  | _ => none }
def docOrderRow : OpenClaim := { program := "ytmjggdmekboefaagreat", sum := "6a2b4d1b7ab916d1b85b41c70d1e82fefe6434be587aa007e8af5cfb8d4a5a10", func := "gouache/gouachelaw16.DocOrder", spec := "docOrder", inPlace := ["internal/bytealg.IndexByteString", "internal/bytealg.IndexString"], unfollowed := true, recurses := true, named := ["internal/bytealg.MaxLen"], apart := false }
def DocOrderSaid : Prop := docOrderRow.holds Tryz.pinned (OpenSpec.ofChange docOrderSpec)

/-- ITS FALSE NEIGHBOUR: 'it returns false'. Refute it at one input. -/
def docOrderWrong : ChangeSpec := { name := "docOrder", fn := fun _ => fun
  | [d] => { results := [.lit (.bool false)], args := [d] }
  | _ => none }
def DocOrderWrongFalsely : Prop := docOrderRow.holds Tryz.pinned (OpenSpec.ofChange docOrderWrong)

/-- 'gouachelaw16.DocQueries': WHATEVER THE INPUT: true; the input reads as it did. -/
def docQueriesSpec : ChangeSpec := { name := "docQueries", fn := fun _ => fun
  | [d1, d2, d3] => { results := [.lit (.bool true)], args := [d1, d2, d3] }
  | _ => none }
def docQueriesRow : OpenClaim := { program := "ytmjggdmekboefaagreat", sum := "6a2b4d1b7ab916d1b85b41c70d1e82fefe6434be587aa007e8af5cfb8d4a5a10", func := "gouache/gouachelaw16.DocQueries", spec := "docQueries", inPlace := ["internal/bytealg.IndexByteString", "internal/bytealg.IndexString"], unfollowed := true, recurses := true, named := ["internal/bytealg.MaxLen"], apart := false }
def DocQueriesSaid : Prop := docQueriesRow.holds Tryz.pinned (OpenSpec.ofChange docQueriesSpec)

/-- ITS FALSE NEIGHBOUR: 'it returns false'. Refute it at one input. -/
def docQueriesWrong : ChangeSpec := { name := "docQueries", fn := fun _ => fun
  | [d1, d2, d3] => { results := [.lit (.bool false)], args := [d1, d2, d3] }
  | _ => none }
def DocQueriesWrongFalsely : Prop := docQueriesRow.holds Tryz.pinned (OpenSpec.ofChange docQueriesWrong)

/-- 'gouachelaw16.DocRead': WHATEVER THE INPUT: true; the input reads as it did. -/
def docReadSpec : ChangeSpec := { name := "docRead", fn := fun _ => fun
  | [d1, d2, d3] => { results := [.lit (.bool true)], args := [d1, d2, d3] }
  | _ => none }
def docReadRow : OpenClaim := { program := "ytmjggdmekboefaagreat", sum := "6a2b4d1b7ab916d1b85b41c70d1e82fefe6434be587aa007e8af5cfb8d4a5a10", func := "gouache/gouachelaw16.DocRead", spec := "docRead", inPlace := ["internal/bytealg.IndexByteString", "internal/bytealg.IndexString", "internal/abi.NoEscape"], unfollowed := true, recurses := true, named := ["internal/bytealg.MaxLen"], apart := false }
def DocReadSaid : Prop := docReadRow.holds Tryz.pinned (OpenSpec.ofChange docReadSpec)

/-- ITS FALSE NEIGHBOUR: 'it returns false'. Refute it at one input. -/
def docReadWrong : ChangeSpec := { name := "docRead", fn := fun _ => fun
  | [d1, d2, d3] => { results := [.lit (.bool false)], args := [d1, d2, d3] }
  | _ => none }
def DocReadWrongFalsely : Prop := docReadRow.holds Tryz.pinned (OpenSpec.ofChange docReadWrong)

/- THE SECOND FORM. 'bulk': how many values and letters a reading holds, each counted each time it is reached (what is shared counts as often as it is met; a slice's spare places count too). A statement '..UptoSaid' is the law's where the arguments, and the package variables that the reading takes, are together of bulk at most 1048576: NARROWER than '..Said'. Prove '..Said' where nothing that the law and all that it calls make is longer than what came in: it says more and counts as full. Else prove '..UptoSaid'. A law counts once. -/
mutual
def uptoBulk {H : Type} : DataW H → Nat
  | .lit (.string bytes) => bytes.length + 1
  | .lit _ => 1
  | .nil => 1
  | .ptr d => uptoBulk d + 1
  | .slice elems spare => uptoBulkAll elems + uptoBulkAll spare + 1
  | .agg parts => uptoBulkAll parts + 1
  | .iface _ d => uptoBulk d + 1
  | .map entries => uptoBulkEntries entries + 1
  | .held _ => 1
def uptoBulkAll {H : Type} : List (DataW H) → Nat
  | [] => 0
  | d :: r => uptoBulk d + uptoBulkAll r
def uptoBulkEntries {H : Type} : List (Lit × DataW H) → Nat
  | [] => 0
  | x :: r => uptoBulkEntry x + uptoBulkEntries r
def uptoBulkEntry {H : Type} : Lit × DataW H → Nat
  | (.string bytes, d) => bytes.length + uptoBulk d + 1
  | (_, d) => uptoBulk d + 1
 end
def uptoSmall : (H : Type) → List (DataW H) → Bool := fun _ ds => decide (uptoBulkAll ds ≤ 1048576)
def OpenSpec.upto (s : _root_.Go.ChangeSpec) : _root_.Go.OpenSpec := { _root_.Go.OpenSpec.ofChange s with cond := some uptoSmall }

/-- 'gouachelaw16.DocWith', WHERE WHAT IT READS IS OF BULK AT MOST 1048576: true; the input reads as it did. -/
def docWithUptoRow : OpenClaim := { program := "ytmjggdmekboefaagreat", sum := "6a2b4d1b7ab916d1b85b41c70d1e82fefe6434be587aa007e8af5cfb8d4a5a10", func := "gouache/gouachelaw16.DocWith", spec := "docWith", inPlace := ["internal/bytealg.IndexByteString", "internal/bytealg.IndexString"], unfollowed := true, recurses := true, named := ["internal/bytealg.MaxLen"], apart := false, narrowed := true }
def DocWithUptoSaid : Prop := docWithUptoRow.holds Tryz.pinned (OpenSpec.upto docWithSpec)

/-- 'gouachelaw16.DocUses', WHERE WHAT IT READS IS OF BULK AT MOST 1048576: true; the input reads as it did. -/
def docUsesUptoRow : OpenClaim := { program := "ytmjggdmekboefaagreat", sum := "6a2b4d1b7ab916d1b85b41c70d1e82fefe6434be587aa007e8af5cfb8d4a5a10", func := "gouache/gouachelaw16.DocUses", spec := "docUses", inPlace := ["internal/bytealg.IndexByteString", "internal/bytealg.IndexString"], unfollowed := true, recurses := true, named := ["internal/bytealg.MaxLen"], apart := false, narrowed := true }
def DocUsesUptoSaid : Prop := docUsesUptoRow.holds Tryz.pinned (OpenSpec.upto docUsesSpec)

/-- 'gouachelaw16.DocOrder', WHERE WHAT IT READS IS OF BULK AT MOST 1048576: true; the input reads as it did. -/
def docOrderUptoRow : OpenClaim := { program := "ytmjggdmekboefaagreat", sum := "6a2b4d1b7ab916d1b85b41c70d1e82fefe6434be587aa007e8af5cfb8d4a5a10", func := "gouache/gouachelaw16.DocOrder", spec := "docOrder", inPlace := ["internal/bytealg.IndexByteString", "internal/bytealg.IndexString"], unfollowed := true, recurses := true, named := ["internal/bytealg.MaxLen"], apart := false, narrowed := true }
def DocOrderUptoSaid : Prop := docOrderUptoRow.holds Tryz.pinned (OpenSpec.upto docOrderSpec)

/-- 'gouachelaw16.DocQueries', WHERE WHAT IT READS IS OF BULK AT MOST 1048576: true; the input reads as it did. -/
def docQueriesUptoRow : OpenClaim := { program := "ytmjggdmekboefaagreat", sum := "6a2b4d1b7ab916d1b85b41c70d1e82fefe6434be587aa007e8af5cfb8d4a5a10", func := "gouache/gouachelaw16.DocQueries", spec := "docQueries", inPlace := ["internal/bytealg.IndexByteString", "internal/bytealg.IndexString"], unfollowed := true, recurses := true, named := ["internal/bytealg.MaxLen"], apart := false, narrowed := true }
def DocQueriesUptoSaid : Prop := docQueriesUptoRow.holds Tryz.pinned (OpenSpec.upto docQueriesSpec)

/-- 'gouachelaw16.DocRead', WHERE WHAT IT READS IS OF BULK AT MOST 1048576: true; the input reads as it did. -/
def docReadUptoRow : OpenClaim := { program := "ytmjggdmekboefaagreat", sum := "6a2b4d1b7ab916d1b85b41c70d1e82fefe6434be587aa007e8af5cfb8d4a5a10", func := "gouache/gouachelaw16.DocRead", spec := "docRead", inPlace := ["internal/bytealg.IndexByteString", "internal/bytealg.IndexString", "internal/abi.NoEscape"], unfollowed := true, recurses := true, named := ["internal/bytealg.MaxLen"], apart := false, narrowed := true }
def DocReadUptoSaid : Prop := docReadUptoRow.holds Tryz.pinned (OpenSpec.upto docReadSpec)

end Rows
end Go.Proofs.YtmjggdmekboefaaGreat
