/-
  NARROWER THAN 'FOR EVERY INPUT', by the rows' own cells (each row's printed sentence says how): ChunkReach: laid · ChunkOnce: laid · ChunkCapacity: laid · ChunkRoots: laid · ChunkErrors: laid · ChunkPlays: laid · ChunkCrash: laid · ChunkCompact: laid · ChunkPower: laid · ChunkNil: laid.
  DERIVED. THE GIVEN ROWS OF THIS SEAT. 10 by the template 'for every input the law returns true; each argument reads behind the call as it read before'; 0 by the template 'total and deterministic' (their statements: YtfihojpgobmmdaaGreatDoorTotals.lean).
  GIVEN WITH THE SEED: the statements are not yours to turn. If you find one false, say at which input.
  Laid BY PROGRAM, IN A SANDBOX (cutbox-rows.mjs): the forced cells as the released guide's own fill.sh prints them over the translation 4b40aedbad387b82… (all of the seat's roots in one cut). By AI agents, Wed Nov 11 2026. No macro, syntax, notation, axiom, sorry.
-/
import Derived.Test.YtfihojpgobmmdaaGreatDoorChecked
import GoSem.Claim
import GoSem.ClaimJoined
import GoSem.ClaimMapViews
import Derived.JoinedTies
import Derived.KernelRfl
namespace Go.Proofs.YtfihojpgobmmdaaGreatDoor
/- THE CELL 'sum', in the pinned program and in every row, IS THE sha256 OF THE DUMP (.gsa) THAT YtfihojpgobmmdaaGreatDoorProg.lean LOADS. Nothing in Lean hashes anything: it is a label: what it is worth is what the hold of that sum in a sandbox is worth. -/
noncomputable def Tryz.pinned : Pinned := { name := "ytfihojpgobmmdaagreatdoor", sum := "4b40aedbad387b8202393fa48196a734a4f9195a6e9efd0c565119a1e65b753d", checked := Tryz.checked }
namespace Rows
def none {H : Type} : Left H := { results := [], args := [] }

/- WHAT THE LISTED PACKAGE-LEVEL VARIABLES READ AS WHEN THE CALL BEGINS. Each datum BY PROGRAM (the guide's laid-datum.mjs) off the statement by which the dump's own 'gosem.cut.vars' lays the variable. In a bare row this is a premise. The card (YtfihojpgobmmdaaGreatDoorCards.lean) ties it to the program's text. -/
def laid_gouache_digest_round {H : Type} : DataW H := .agg [.lit (.int .u32 1116352408), .lit (.int .u32 1899447441), .lit (.int .u32 3049323471), .lit (.int .u32 3921009573), .lit (.int .u32 961987163), .lit (.int .u32 1508970993), .lit (.int .u32 2453635748), .lit (.int .u32 2870763221), .lit (.int .u32 3624381080), .lit (.int .u32 310598401), .lit (.int .u32 607225278), .lit (.int .u32 1426881987), .lit (.int .u32 1925078388), .lit (.int .u32 2162078206), .lit (.int .u32 2614888103), .lit (.int .u32 3248222580), .lit (.int .u32 3835390401), .lit (.int .u32 4022224774), .lit (.int .u32 264347078), .lit (.int .u32 604807628), .lit (.int .u32 770255983), .lit (.int .u32 1249150122), .lit (.int .u32 1555081692), .lit (.int .u32 1996064986), .lit (.int .u32 2554220882), .lit (.int .u32 2821834349), .lit (.int .u32 2952996808), .lit (.int .u32 3210313671), .lit (.int .u32 3336571891), .lit (.int .u32 3584528711), .lit (.int .u32 113926993), .lit (.int .u32 338241895), .lit (.int .u32 666307205), .lit (.int .u32 773529912), .lit (.int .u32 1294757372), .lit (.int .u32 1396182291), .lit (.int .u32 1695183700), .lit (.int .u32 1986661051), .lit (.int .u32 2177026350), .lit (.int .u32 2456956037), .lit (.int .u32 2730485921), .lit (.int .u32 2820302411), .lit (.int .u32 3259730800), .lit (.int .u32 3345764771), .lit (.int .u32 3516065817), .lit (.int .u32 3600352804), .lit (.int .u32 4094571909), .lit (.int .u32 275423344), .lit (.int .u32 430227734), .lit (.int .u32 506948616), .lit (.int .u32 659060556), .lit (.int .u32 883997877), .lit (.int .u32 958139571), .lit (.int .u32 1322822218), .lit (.int .u32 1537002063), .lit (.int .u32 1747873779), .lit (.int .u32 1955562222), .lit (.int .u32 2024104815), .lit (.int .u32 2227730452), .lit (.int .u32 2361852424), .lit (.int .u32 2428436474), .lit (.int .u32 2756734187), .lit (.int .u32 3204031479), .lit (.int .u32 3329325298)]
def laid_gouache_digest_start {H : Type} : DataW H := .agg [.lit (.int .u32 1779033703), .lit (.int .u32 3144134277), .lit (.int .u32 1013904242), .lit (.int .u32 2773480762), .lit (.int .u32 1359893119), .lit (.int .u32 2600822924), .lit (.int .u32 528734635), .lit (.int .u32 1541459225)]

/-- 'gouachelaw22.ChunkReach': WHATEVER THE INPUT: true; the input reads as it did. -/
def chunkReachSpec : ChangeSpec := { name := "chunkReach", fn := fun _ => fun
  | [d1, d2, d3] => { results := [.lit (.bool true)], args := [d1, d2, d3] }
  | _ => none }
def chunkReachRow : OpenClaim := { program := "ytfihojpgobmmdaagreatdoor", sum := "4b40aedbad387b8202393fa48196a734a4f9195a6e9efd0c565119a1e65b753d", func := "gouache/gouachelaw22.ChunkReach", spec := "chunkReach", inPlace := ["internal/abi.NoEscape", "internal/bytealg.MakeNoZero"], unfollowed := true, recurses := true, named := ["gouache/digest.start", "gouache/digest.round"], apart := false, laid := [("gouache/digest.round", laid_gouache_digest_round), ("gouache/digest.start", laid_gouache_digest_start)] }
def ChunkReachSaid : Prop := chunkReachRow.holds Tryz.pinned (OpenSpec.ofChange chunkReachSpec)

/-- ITS FALSE NEIGHBOUR: 'it returns false'. Refute it at one input. -/
def chunkReachWrong : ChangeSpec := { name := "chunkReach", fn := fun _ => fun
  | [d1, d2, d3] => { results := [.lit (.bool false)], args := [d1, d2, d3] }
  | _ => none }
def ChunkReachWrongFalsely : Prop := chunkReachRow.holds Tryz.pinned (OpenSpec.ofChange chunkReachWrong)

/-- 'gouachelaw22.ChunkOnce': WHATEVER THE INPUT: true; the input reads as it did. -/
def chunkOnceSpec : ChangeSpec := { name := "chunkOnce", fn := fun _ => fun
  | [d] => { results := [.lit (.bool true)], args := [d] }
  | _ => none }
def chunkOnceRow : OpenClaim := { program := "ytfihojpgobmmdaagreatdoor", sum := "4b40aedbad387b8202393fa48196a734a4f9195a6e9efd0c565119a1e65b753d", func := "gouache/gouachelaw22.ChunkOnce", spec := "chunkOnce", inPlace := ["internal/abi.NoEscape", "internal/bytealg.MakeNoZero"], unfollowed := true, recurses := true, named := ["gouache/digest.start", "gouache/digest.round"], apart := false, laid := [("gouache/digest.round", laid_gouache_digest_round), ("gouache/digest.start", laid_gouache_digest_start)] }
def ChunkOnceSaid : Prop := chunkOnceRow.holds Tryz.pinned (OpenSpec.ofChange chunkOnceSpec)

/-- ITS FALSE NEIGHBOUR: 'it returns false'. Refute it at one input. -/
def chunkOnceWrong : ChangeSpec := { name := "chunkOnce", fn := fun _ => fun
  | [d] => { results := [.lit (.bool false)], args := [d] }
  | _ => none }
def ChunkOnceWrongFalsely : Prop := chunkOnceRow.holds Tryz.pinned (OpenSpec.ofChange chunkOnceWrong)

/-- 'gouachelaw22.ChunkCapacity': WHATEVER THE INPUT: true; the input reads as it did. -/
def chunkCapacitySpec : ChangeSpec := { name := "chunkCapacity", fn := fun _ => fun
  | [d1, d2] => { results := [.lit (.bool true)], args := [d1, d2] }
  | _ => none }
def chunkCapacityRow : OpenClaim := { program := "ytfihojpgobmmdaagreatdoor", sum := "4b40aedbad387b8202393fa48196a734a4f9195a6e9efd0c565119a1e65b753d", func := "gouache/gouachelaw22.ChunkCapacity", spec := "chunkCapacity", inPlace := ["internal/abi.NoEscape", "internal/bytealg.MakeNoZero"], unfollowed := true, recurses := true, named := ["gouache/digest.start", "gouache/digest.round"], apart := false, laid := [("gouache/digest.round", laid_gouache_digest_round), ("gouache/digest.start", laid_gouache_digest_start)] }
def ChunkCapacitySaid : Prop := chunkCapacityRow.holds Tryz.pinned (OpenSpec.ofChange chunkCapacitySpec)

/-- ITS FALSE NEIGHBOUR: 'it returns false'. Refute it at one input. -/
def chunkCapacityWrong : ChangeSpec := { name := "chunkCapacity", fn := fun _ => fun
  | [d1, d2] => { results := [.lit (.bool false)], args := [d1, d2] }
  | _ => none }
def ChunkCapacityWrongFalsely : Prop := chunkCapacityRow.holds Tryz.pinned (OpenSpec.ofChange chunkCapacityWrong)

/-- 'gouachelaw22.ChunkRoots': WHATEVER THE INPUT: true; the input reads as it did. -/
def chunkRootsSpec : ChangeSpec := { name := "chunkRoots", fn := fun _ => fun
  | [d] => { results := [.lit (.bool true)], args := [d] }
  | _ => none }
def chunkRootsRow : OpenClaim := { program := "ytfihojpgobmmdaagreatdoor", sum := "4b40aedbad387b8202393fa48196a734a4f9195a6e9efd0c565119a1e65b753d", func := "gouache/gouachelaw22.ChunkRoots", spec := "chunkRoots", inPlace := ["internal/abi.NoEscape", "internal/bytealg.MakeNoZero"], unfollowed := true, recurses := true, named := ["gouache/digest.start", "gouache/digest.round"], apart := false, laid := [("gouache/digest.round", laid_gouache_digest_round), ("gouache/digest.start", laid_gouache_digest_start)] }
def ChunkRootsSaid : Prop := chunkRootsRow.holds Tryz.pinned (OpenSpec.ofChange chunkRootsSpec)

/-- ITS FALSE NEIGHBOUR: 'it returns false'. Refute it at one input. -/
def chunkRootsWrong : ChangeSpec := { name := "chunkRoots", fn := fun _ => fun
  | [d] => { results := [.lit (.bool false)], args := [d] }
  | _ => none }
def ChunkRootsWrongFalsely : Prop := chunkRootsRow.holds Tryz.pinned (OpenSpec.ofChange chunkRootsWrong)

/-- 'gouachelaw22.ChunkErrors': WHATEVER THE INPUT: true; the input reads as it did. -/
def chunkErrorsSpec : ChangeSpec := { name := "chunkErrors", fn := fun _ => fun
  | [d1, d2, d3] => { results := [.lit (.bool true)], args := [d1, d2, d3] }
  | _ => none }
def chunkErrorsRow : OpenClaim := { program := "ytfihojpgobmmdaagreatdoor", sum := "4b40aedbad387b8202393fa48196a734a4f9195a6e9efd0c565119a1e65b753d", func := "gouache/gouachelaw22.ChunkErrors", spec := "chunkErrors", inPlace := ["internal/abi.NoEscape", "internal/bytealg.MakeNoZero"], unfollowed := true, recurses := true, named := ["gouache/digest.start", "gouache/digest.round"], apart := false, laid := [("gouache/digest.round", laid_gouache_digest_round), ("gouache/digest.start", laid_gouache_digest_start)] }
def ChunkErrorsSaid : Prop := chunkErrorsRow.holds Tryz.pinned (OpenSpec.ofChange chunkErrorsSpec)

/-- ITS FALSE NEIGHBOUR: 'it returns false'. Refute it at one input. -/
def chunkErrorsWrong : ChangeSpec := { name := "chunkErrors", fn := fun _ => fun
  | [d1, d2, d3] => { results := [.lit (.bool false)], args := [d1, d2, d3] }
  | _ => none }
def ChunkErrorsWrongFalsely : Prop := chunkErrorsRow.holds Tryz.pinned (OpenSpec.ofChange chunkErrorsWrong)

/-- 'gouachelaw22.ChunkPlays': WHATEVER THE INPUT: true; the input reads as it did. -/
def chunkPlaysSpec : ChangeSpec := { name := "chunkPlays", fn := fun _ => fun
  | [d] => { results := [.lit (.bool true)], args := [d] }
  | _ => none }
def chunkPlaysRow : OpenClaim := { program := "ytfihojpgobmmdaagreatdoor", sum := "4b40aedbad387b8202393fa48196a734a4f9195a6e9efd0c565119a1e65b753d", func := "gouache/gouachelaw22.ChunkPlays", spec := "chunkPlays", inPlace := ["internal/abi.NoEscape", "internal/bytealg.MakeNoZero"], unfollowed := true, recurses := true, named := ["gouache/digest.start", "gouache/digest.round"], apart := false, laid := [("gouache/digest.round", laid_gouache_digest_round), ("gouache/digest.start", laid_gouache_digest_start)] }
def ChunkPlaysSaid : Prop := chunkPlaysRow.holds Tryz.pinned (OpenSpec.ofChange chunkPlaysSpec)

/-- ITS FALSE NEIGHBOUR: 'it returns false'. Refute it at one input. -/
def chunkPlaysWrong : ChangeSpec := { name := "chunkPlays", fn := fun _ => fun
  | [d] => { results := [.lit (.bool false)], args := [d] }
  | _ => none }
def ChunkPlaysWrongFalsely : Prop := chunkPlaysRow.holds Tryz.pinned (OpenSpec.ofChange chunkPlaysWrong)

/-- 'gouachelaw22.ChunkCrash': WHATEVER THE INPUT: true; the input reads as it did. -/
def chunkCrashSpec : ChangeSpec := { name := "chunkCrash", fn := fun _ => fun
  | [d1, d2] => { results := [.lit (.bool true)], args := [d1, d2] }
  | _ => none }
def chunkCrashRow : OpenClaim := { program := "ytfihojpgobmmdaagreatdoor", sum := "4b40aedbad387b8202393fa48196a734a4f9195a6e9efd0c565119a1e65b753d", func := "gouache/gouachelaw22.ChunkCrash", spec := "chunkCrash", inPlace := ["internal/abi.NoEscape", "internal/bytealg.MakeNoZero"], unfollowed := true, recurses := true, named := ["gouache/digest.start", "gouache/digest.round"], apart := false, laid := [("gouache/digest.round", laid_gouache_digest_round), ("gouache/digest.start", laid_gouache_digest_start)] }
def ChunkCrashSaid : Prop := chunkCrashRow.holds Tryz.pinned (OpenSpec.ofChange chunkCrashSpec)

/-- ITS FALSE NEIGHBOUR: 'it returns false'. Refute it at one input. -/
def chunkCrashWrong : ChangeSpec := { name := "chunkCrash", fn := fun _ => fun
  | [d1, d2] => { results := [.lit (.bool false)], args := [d1, d2] }
  | _ => none }
def ChunkCrashWrongFalsely : Prop := chunkCrashRow.holds Tryz.pinned (OpenSpec.ofChange chunkCrashWrong)

/-- 'gouachelaw22.ChunkCompact': WHATEVER THE INPUT: true; the input reads as it did. -/
def chunkCompactSpec : ChangeSpec := { name := "chunkCompact", fn := fun _ => fun
  | [d] => { results := [.lit (.bool true)], args := [d] }
  | _ => none }
def chunkCompactRow : OpenClaim := { program := "ytfihojpgobmmdaagreatdoor", sum := "4b40aedbad387b8202393fa48196a734a4f9195a6e9efd0c565119a1e65b753d", func := "gouache/gouachelaw22.ChunkCompact", spec := "chunkCompact", inPlace := ["internal/abi.NoEscape", "internal/bytealg.MakeNoZero"], unfollowed := true, recurses := true, named := ["gouache/digest.start", "gouache/digest.round"], apart := false, laid := [("gouache/digest.round", laid_gouache_digest_round), ("gouache/digest.start", laid_gouache_digest_start)] }
def ChunkCompactSaid : Prop := chunkCompactRow.holds Tryz.pinned (OpenSpec.ofChange chunkCompactSpec)

/-- ITS FALSE NEIGHBOUR: 'it returns false'. Refute it at one input. -/
def chunkCompactWrong : ChangeSpec := { name := "chunkCompact", fn := fun _ => fun
  | [d] => { results := [.lit (.bool false)], args := [d] }
  | _ => none }
def ChunkCompactWrongFalsely : Prop := chunkCompactRow.holds Tryz.pinned (OpenSpec.ofChange chunkCompactWrong)

/-- 'gouachelaw22.ChunkPower': WHATEVER THE INPUT: true; the input reads as it did. -/
def chunkPowerSpec : ChangeSpec := { name := "chunkPower", fn := fun _ => fun
  | [d1, d2, d3] => { results := [.lit (.bool true)], args := [d1, d2, d3] }
  | _ => none }
def chunkPowerRow : OpenClaim := { program := "ytfihojpgobmmdaagreatdoor", sum := "4b40aedbad387b8202393fa48196a734a4f9195a6e9efd0c565119a1e65b753d", func := "gouache/gouachelaw22.ChunkPower", spec := "chunkPower", inPlace := ["internal/abi.NoEscape", "internal/bytealg.MakeNoZero"], unfollowed := true, recurses := true, named := ["gouache/digest.start", "gouache/digest.round"], apart := false, laid := [("gouache/digest.round", laid_gouache_digest_round), ("gouache/digest.start", laid_gouache_digest_start)] }
def ChunkPowerSaid : Prop := chunkPowerRow.holds Tryz.pinned (OpenSpec.ofChange chunkPowerSpec)

/-- ITS FALSE NEIGHBOUR: 'it returns false'. Refute it at one input. -/
def chunkPowerWrong : ChangeSpec := { name := "chunkPower", fn := fun _ => fun
  | [d1, d2, d3] => { results := [.lit (.bool false)], args := [d1, d2, d3] }
  | _ => none }
def ChunkPowerWrongFalsely : Prop := chunkPowerRow.holds Tryz.pinned (OpenSpec.ofChange chunkPowerWrong)

/-- 'gouachelaw22.ChunkNil': WHATEVER THE INPUT: true; the input reads as it did. -/
def chunkNilSpec : ChangeSpec := { name := "chunkNil", fn := fun _ => fun
  | [d] => { results := [.lit (.bool true)], args := [d] }
  | _ => none }
def chunkNilRow : OpenClaim := { program := "ytfihojpgobmmdaagreatdoor", sum := "4b40aedbad387b8202393fa48196a734a4f9195a6e9efd0c565119a1e65b753d", func := "gouache/gouachelaw22.ChunkNil", spec := "chunkNil", inPlace := ["internal/abi.NoEscape", "internal/bytealg.MakeNoZero"], unfollowed := true, recurses := true, named := ["gouache/digest.start", "gouache/digest.round"], apart := false, laid := [("gouache/digest.round", laid_gouache_digest_round), ("gouache/digest.start", laid_gouache_digest_start)] }
def ChunkNilSaid : Prop := chunkNilRow.holds Tryz.pinned (OpenSpec.ofChange chunkNilSpec)

/-- ITS FALSE NEIGHBOUR: 'it returns false'. Refute it at one input. -/
def chunkNilWrong : ChangeSpec := { name := "chunkNil", fn := fun _ => fun
  | [d] => { results := [.lit (.bool false)], args := [d] }
  | _ => none }
def ChunkNilWrongFalsely : Prop := chunkNilRow.holds Tryz.pinned (OpenSpec.ofChange chunkNilWrong)

/- THE SECOND FORM. 'bulk': how many values and letters a reading holds, each counted each time it is reached (what is shared counts as often as it is met; a slice's spare places count too). A statement '..UptoSaid' is the law's where the arguments, and the package variables that the reading takes, are together of bulk at most 1048576: NARROWER than '..Said'. Prove '..Said' where nothing that the law and all that it calls make is longer than what came in: it says more and counts as full. Else prove '..UptoSaid'. A law counts once. -/
mutual
def uptoBulk {H : Type} : DataW H → Nat
  | .lit (.string bytes) => bytes.length + 1
  | .lit _ => 1
  | .nil => 1
  | .ptr d => uptoBulk d + 1
  | .slice elems spare => uptoBulkAll elems + uptoBulkAll spare + 1
  | .agg parts => uptoBulkAll parts + 1
  | .iface _ d => uptoBulk d + 1
  | .map entries => uptoBulkEntries entries + 1
  | .held _ => 1
def uptoBulkAll {H : Type} : List (DataW H) → Nat
  | [] => 0
  | d :: r => uptoBulk d + uptoBulkAll r
def uptoBulkEntries {H : Type} : List (Lit × DataW H) → Nat
  | [] => 0
  | x :: r => uptoBulkEntry x + uptoBulkEntries r
def uptoBulkEntry {H : Type} : Lit × DataW H → Nat
  | (.string bytes, d) => bytes.length + uptoBulk d + 1
  | (_, d) => uptoBulk d + 1
 end
def uptoSmall : (H : Type) → List (DataW H) → Bool := fun _ ds => decide (uptoBulkAll ds ≤ 1048576)
def OpenSpec.upto (s : _root_.Go.ChangeSpec) : _root_.Go.OpenSpec := { _root_.Go.OpenSpec.ofChange s with cond := some uptoSmall }

/-- 'gouachelaw22.ChunkReach', WHERE WHAT IT READS IS OF BULK AT MOST 1048576: true; the input reads as it did. -/
def chunkReachUptoRow : OpenClaim := { program := "ytfihojpgobmmdaagreatdoor", sum := "4b40aedbad387b8202393fa48196a734a4f9195a6e9efd0c565119a1e65b753d", func := "gouache/gouachelaw22.ChunkReach", spec := "chunkReach", inPlace := ["internal/abi.NoEscape", "internal/bytealg.MakeNoZero"], unfollowed := true, recurses := true, named := ["gouache/digest.start", "gouache/digest.round"], apart := false, laid := [("gouache/digest.round", laid_gouache_digest_round), ("gouache/digest.start", laid_gouache_digest_start)], narrowed := true }
def ChunkReachUptoSaid : Prop := chunkReachUptoRow.holds Tryz.pinned (OpenSpec.upto chunkReachSpec)

/-- 'gouachelaw22.ChunkOnce', WHERE WHAT IT READS IS OF BULK AT MOST 1048576: true; the input reads as it did. -/
def chunkOnceUptoRow : OpenClaim := { program := "ytfihojpgobmmdaagreatdoor", sum := "4b40aedbad387b8202393fa48196a734a4f9195a6e9efd0c565119a1e65b753d", func := "gouache/gouachelaw22.ChunkOnce", spec := "chunkOnce", inPlace := ["internal/abi.NoEscape", "internal/bytealg.MakeNoZero"], unfollowed := true, recurses := true, named := ["gouache/digest.start", "gouache/digest.round"], apart := false, laid := [("gouache/digest.round", laid_gouache_digest_round), ("gouache/digest.start", laid_gouache_digest_start)], narrowed := true }
def ChunkOnceUptoSaid : Prop := chunkOnceUptoRow.holds Tryz.pinned (OpenSpec.upto chunkOnceSpec)

/-- 'gouachelaw22.ChunkCapacity', WHERE WHAT IT READS IS OF BULK AT MOST 1048576: true; the input reads as it did. -/
def chunkCapacityUptoRow : OpenClaim := { program := "ytfihojpgobmmdaagreatdoor", sum := "4b40aedbad387b8202393fa48196a734a4f9195a6e9efd0c565119a1e65b753d", func := "gouache/gouachelaw22.ChunkCapacity", spec := "chunkCapacity", inPlace := ["internal/abi.NoEscape", "internal/bytealg.MakeNoZero"], unfollowed := true, recurses := true, named := ["gouache/digest.start", "gouache/digest.round"], apart := false, laid := [("gouache/digest.round", laid_gouache_digest_round), ("gouache/digest.start", laid_gouache_digest_start)], narrowed := true }
def ChunkCapacityUptoSaid : Prop := chunkCapacityUptoRow.holds Tryz.pinned (OpenSpec.upto chunkCapacitySpec)

/-- 'gouachelaw22.ChunkRoots', WHERE WHAT IT READS IS OF BULK AT MOST 1048576: true; the input reads as it did. -/
def chunkRootsUptoRow : OpenClaim := { program := "ytfihojpgobmmdaagreatdoor", sum := "4b40aedbad387b8202393fa48196a734a4f9195a6e9efd0c565119a1e65b753d", func := "gouache/gouachelaw22.ChunkRoots", spec := "chunkRoots", inPlace := ["internal/abi.NoEscape", "internal/bytealg.MakeNoZero"], unfollowed := true, recurses := true, named := ["gouache/digest.start", "gouache/digest.round"], apart := false, laid := [("gouache/digest.round", laid_gouache_digest_round), ("gouache/digest.start", laid_gouache_digest_start)], narrowed := true }
def ChunkRootsUptoSaid : Prop := chunkRootsUptoRow.holds Tryz.pinned (OpenSpec.upto chunkRootsSpec)

/-- 'gouachelaw22.ChunkErrors', WHERE WHAT IT READS IS OF BULK AT MOST 1048576: true; the input reads as it did. -/
def chunkErrorsUptoRow : OpenClaim := { program := "ytfihojpgobmmdaagreatdoor", sum := "4b40aedbad387b8202393fa48196a734a4f9195a6e9efd0c565119a1e65b753d", func := "gouache/gouachelaw22.ChunkErrors", spec := "chunkErrors", inPlace := ["internal/abi.NoEscape", "internal/bytealg.MakeNoZero"], unfollowed := true, recurses := true, named := ["gouache/digest.start", "gouache/digest.round"], apart := false, laid := [("gouache/digest.round", laid_gouache_digest_round), ("gouache/digest.start", laid_gouache_digest_start)], narrowed := true }
def ChunkErrorsUptoSaid : Prop := chunkErrorsUptoRow.holds Tryz.pinned (OpenSpec.upto chunkErrorsSpec)

/-- 'gouachelaw22.ChunkPlays', WHERE WHAT IT READS IS OF BULK AT MOST 1048576: true; the input reads as it did. -/
def chunkPlaysUptoRow : OpenClaim := { program := "ytfihojpgobmmdaagreatdoor", sum := "4b40aedbad387b8202393fa48196a734a4f9195a6e9efd0c565119a1e65b753d", func := "gouache/gouachelaw22.ChunkPlays", spec := "chunkPlays", inPlace := ["internal/abi.NoEscape", "internal/bytealg.MakeNoZero"], unfollowed := true, recurses := true, named := ["gouache/digest.start", "gouache/digest.round"], apart := false, laid := [("gouache/digest.round", laid_gouache_digest_round), ("gouache/digest.start", laid_gouache_digest_start)], narrowed := true }
def ChunkPlaysUptoSaid : Prop := chunkPlaysUptoRow.holds Tryz.pinned (OpenSpec.upto chunkPlaysSpec)

/-- 'gouachelaw22.ChunkCrash', WHERE WHAT IT READS IS OF BULK AT MOST 1048576: true; the input reads as it did. -/
def chunkCrashUptoRow : OpenClaim := { program := "ytfihojpgobmmdaagreatdoor", sum := "4b40aedbad387b8202393fa48196a734a4f9195a6e9efd0c565119a1e65b753d", func := "gouache/gouachelaw22.ChunkCrash", spec := "chunkCrash", inPlace := ["internal/abi.NoEscape", "internal/bytealg.MakeNoZero"], unfollowed := true, recurses := true, named := ["gouache/digest.start", "gouache/digest.round"], apart := false, laid := [("gouache/digest.round", laid_gouache_digest_round), ("gouache/digest.start", laid_gouache_digest_start)], narrowed := true }
def ChunkCrashUptoSaid : Prop := chunkCrashUptoRow.holds Tryz.pinned (OpenSpec.upto chunkCrashSpec)

/-- 'gouachelaw22.ChunkCompact', WHERE WHAT IT READS IS OF BULK AT MOST 1048576: true; the input reads as it did. -/
def chunkCompactUptoRow : OpenClaim := { program := "ytfihojpgobmmdaagreatdoor", sum := "4b40aedbad387b8202393fa48196a734a4f9195a6e9efd0c565119a1e65b753d", func := "gouache/gouachelaw22.ChunkCompact", spec := "chunkCompact", inPlace := ["internal/abi.NoEscape", "internal/bytealg.MakeNoZero"], unfollowed := true, recurses := true, named := ["gouache/digest.start", "gouache/digest.round"], apart := false, laid := [("gouache/digest.round", laid_gouache_digest_round), ("gouache/digest.start", laid_gouache_digest_start)], narrowed := true }
def ChunkCompactUptoSaid : Prop := chunkCompactUptoRow.holds Tryz.pinned (OpenSpec.upto chunkCompactSpec)

/-- 'gouachelaw22.ChunkPower', WHERE WHAT IT READS IS OF BULK AT MOST 1048576: true; the input reads as it did. -/
def chunkPowerUptoRow : OpenClaim := { program := "ytfihojpgobmmdaagreatdoor", sum := "4b40aedbad387b8202393fa48196a734a4f9195a6e9efd0c565119a1e65b753d", func := "gouache/gouachelaw22.ChunkPower", spec := "chunkPower", inPlace := ["internal/abi.NoEscape", "internal/bytealg.MakeNoZero"], unfollowed := true, recurses := true, named := ["gouache/digest.start", "gouache/digest.round"], apart := false, laid := [("gouache/digest.round", laid_gouache_digest_round), ("gouache/digest.start", laid_gouache_digest_start)], narrowed := true }
def ChunkPowerUptoSaid : Prop := chunkPowerUptoRow.holds Tryz.pinned (OpenSpec.upto chunkPowerSpec)

/-- 'gouachelaw22.ChunkNil', WHERE WHAT IT READS IS OF BULK AT MOST 1048576: true; the input reads as it did. -/
def chunkNilUptoRow : OpenClaim := { program := "ytfihojpgobmmdaagreatdoor", sum := "4b40aedbad387b8202393fa48196a734a4f9195a6e9efd0c565119a1e65b753d", func := "gouache/gouachelaw22.ChunkNil", spec := "chunkNil", inPlace := ["internal/abi.NoEscape", "internal/bytealg.MakeNoZero"], unfollowed := true, recurses := true, named := ["gouache/digest.start", "gouache/digest.round"], apart := false, laid := [("gouache/digest.round", laid_gouache_digest_round), ("gouache/digest.start", laid_gouache_digest_start)], narrowed := true }
def ChunkNilUptoSaid : Prop := chunkNilUptoRow.holds Tryz.pinned (OpenSpec.upto chunkNilSpec)

end Rows
end Go.Proofs.YtfihojpgobmmdaaGreatDoor
