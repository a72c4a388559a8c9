/-
  DERIVED. GIVEN WITH THE SEED: THE CARDS: each row of YtfihojpgobmmdaaGreatDoorRows.lean that lists a variable, with what it lists TIED to the program's text (the seventh form; the later family's looks); each row that meets fmt, with fmt's text TOLD by the authors' own Lean function (tested against real Go, not proved from fmt's source: count such statements apart). THE CARD IS WHAT COUNTS. Prove the row's statement (the work); the ties are given (YtfihojpgobmmdaaGreatDoorTie.lean); close each card by the builder's one call (the guide's Derived/Test/ToyasCard.lean, 'card_holds'). Laid BY PROGRAM, IN A SANDBOX (cutbox-door.mjs). By AI agents, Wed Nov 11 2026. No macro, syntax, notation, axiom, sorry.
-/
import Derived.Test.YtfihojpgobmmdaaGreatDoorRows
import GoSem.ClaimSeven
namespace Go.Proofs.YtfihojpgobmmdaaGreatDoor
namespace Rows

/-- THE TIED CARD OF 'gouachelaw22.ChunkReach'. -/
def chunkReachCard : Claim7 := { stood := { row := chunkReachRow, standIns := [], harness := (true, "7ee92a69701328ef72c66acf2e6a75b6a936c5ba0de6763e72f6a031fbc6b552"), looks := false }, kinds := [], alts := [], laidByText := true, laidKinds := [.data, .data], laidTests := true, laidLooks := .later }
def ChunkReachCardSaid : Prop := Claim7.holds Tryz.pinned (.plain (OpenSpec.ofChange chunkReachSpec)) chunkReachCard

/-- THE TIED CARD OF 'gouachelaw22.ChunkOnce'. -/
def chunkOnceCard : Claim7 := { stood := { row := chunkOnceRow, standIns := [], harness := (true, "7ee92a69701328ef72c66acf2e6a75b6a936c5ba0de6763e72f6a031fbc6b552"), looks := false }, kinds := [], alts := [], laidByText := true, laidKinds := [.data, .data], laidTests := true, laidLooks := .later }
def ChunkOnceCardSaid : Prop := Claim7.holds Tryz.pinned (.plain (OpenSpec.ofChange chunkOnceSpec)) chunkOnceCard

/-- THE TIED CARD OF 'gouachelaw22.ChunkCapacity'. -/
def chunkCapacityCard : Claim7 := { stood := { row := chunkCapacityRow, standIns := [], harness := (true, "7ee92a69701328ef72c66acf2e6a75b6a936c5ba0de6763e72f6a031fbc6b552"), looks := false }, kinds := [], alts := [], laidByText := true, laidKinds := [.data, .data], laidTests := true, laidLooks := .later }
def ChunkCapacityCardSaid : Prop := Claim7.holds Tryz.pinned (.plain (OpenSpec.ofChange chunkCapacitySpec)) chunkCapacityCard

/-- THE TIED CARD OF 'gouachelaw22.ChunkRoots'. -/
def chunkRootsCard : Claim7 := { stood := { row := chunkRootsRow, standIns := [], harness := (true, "7ee92a69701328ef72c66acf2e6a75b6a936c5ba0de6763e72f6a031fbc6b552"), looks := false }, kinds := [], alts := [], laidByText := true, laidKinds := [.data, .data], laidTests := true, laidLooks := .later }
def ChunkRootsCardSaid : Prop := Claim7.holds Tryz.pinned (.plain (OpenSpec.ofChange chunkRootsSpec)) chunkRootsCard

/-- THE TIED CARD OF 'gouachelaw22.ChunkErrors'. -/
def chunkErrorsCard : Claim7 := { stood := { row := chunkErrorsRow, standIns := [], harness := (true, "7ee92a69701328ef72c66acf2e6a75b6a936c5ba0de6763e72f6a031fbc6b552"), looks := false }, kinds := [], alts := [], laidByText := true, laidKinds := [.data, .data], laidTests := true, laidLooks := .later }
def ChunkErrorsCardSaid : Prop := Claim7.holds Tryz.pinned (.plain (OpenSpec.ofChange chunkErrorsSpec)) chunkErrorsCard

/-- THE TIED CARD OF 'gouachelaw22.ChunkPlays'. -/
def chunkPlaysCard : Claim7 := { stood := { row := chunkPlaysRow, standIns := [], harness := (true, "7ee92a69701328ef72c66acf2e6a75b6a936c5ba0de6763e72f6a031fbc6b552"), looks := false }, kinds := [], alts := [], laidByText := true, laidKinds := [.data, .data], laidTests := true, laidLooks := .later }
def ChunkPlaysCardSaid : Prop := Claim7.holds Tryz.pinned (.plain (OpenSpec.ofChange chunkPlaysSpec)) chunkPlaysCard

/-- THE TIED CARD OF 'gouachelaw22.ChunkCrash'. -/
def chunkCrashCard : Claim7 := { stood := { row := chunkCrashRow, standIns := [], harness := (true, "7ee92a69701328ef72c66acf2e6a75b6a936c5ba0de6763e72f6a031fbc6b552"), looks := false }, kinds := [], alts := [], laidByText := true, laidKinds := [.data, .data], laidTests := true, laidLooks := .later }
def ChunkCrashCardSaid : Prop := Claim7.holds Tryz.pinned (.plain (OpenSpec.ofChange chunkCrashSpec)) chunkCrashCard

/-- THE TIED CARD OF 'gouachelaw22.ChunkCompact'. -/
def chunkCompactCard : Claim7 := { stood := { row := chunkCompactRow, standIns := [], harness := (true, "7ee92a69701328ef72c66acf2e6a75b6a936c5ba0de6763e72f6a031fbc6b552"), looks := false }, kinds := [], alts := [], laidByText := true, laidKinds := [.data, .data], laidTests := true, laidLooks := .later }
def ChunkCompactCardSaid : Prop := Claim7.holds Tryz.pinned (.plain (OpenSpec.ofChange chunkCompactSpec)) chunkCompactCard

/-- THE TIED CARD OF 'gouachelaw22.ChunkPower'. -/
def chunkPowerCard : Claim7 := { stood := { row := chunkPowerRow, standIns := [], harness := (true, "7ee92a69701328ef72c66acf2e6a75b6a936c5ba0de6763e72f6a031fbc6b552"), looks := false }, kinds := [], alts := [], laidByText := true, laidKinds := [.data, .data], laidTests := true, laidLooks := .later }
def ChunkPowerCardSaid : Prop := Claim7.holds Tryz.pinned (.plain (OpenSpec.ofChange chunkPowerSpec)) chunkPowerCard

/-- THE TIED CARD OF 'gouachelaw22.ChunkNil'. -/
def chunkNilCard : Claim7 := { stood := { row := chunkNilRow, standIns := [], harness := (true, "7ee92a69701328ef72c66acf2e6a75b6a936c5ba0de6763e72f6a031fbc6b552"), looks := false }, kinds := [], alts := [], laidByText := true, laidKinds := [.data, .data], laidTests := true, laidLooks := .later }
def ChunkNilCardSaid : Prop := Claim7.holds Tryz.pinned (.plain (OpenSpec.ofChange chunkNilSpec)) chunkNilCard

/-- THE SECOND FORM's CARD OF 'gouachelaw22.ChunkReach'. -/
def chunkReachUptoCard : Claim7 := { stood := { row := chunkReachUptoRow, standIns := [], harness := (true, "7ee92a69701328ef72c66acf2e6a75b6a936c5ba0de6763e72f6a031fbc6b552"), looks := false }, kinds := [], alts := [], laidByText := true, laidKinds := [.data, .data], laidTests := true, laidLooks := .later }
def ChunkReachUptoCardSaid : Prop := Claim7.holds Tryz.pinned (.plain (OpenSpec.upto chunkReachSpec)) chunkReachUptoCard

/-- THE SECOND FORM's CARD OF 'gouachelaw22.ChunkOnce'. -/
def chunkOnceUptoCard : Claim7 := { stood := { row := chunkOnceUptoRow, standIns := [], harness := (true, "7ee92a69701328ef72c66acf2e6a75b6a936c5ba0de6763e72f6a031fbc6b552"), looks := false }, kinds := [], alts := [], laidByText := true, laidKinds := [.data, .data], laidTests := true, laidLooks := .later }
def ChunkOnceUptoCardSaid : Prop := Claim7.holds Tryz.pinned (.plain (OpenSpec.upto chunkOnceSpec)) chunkOnceUptoCard

/-- THE SECOND FORM's CARD OF 'gouachelaw22.ChunkCapacity'. -/
def chunkCapacityUptoCard : Claim7 := { stood := { row := chunkCapacityUptoRow, standIns := [], harness := (true, "7ee92a69701328ef72c66acf2e6a75b6a936c5ba0de6763e72f6a031fbc6b552"), looks := false }, kinds := [], alts := [], laidByText := true, laidKinds := [.data, .data], laidTests := true, laidLooks := .later }
def ChunkCapacityUptoCardSaid : Prop := Claim7.holds Tryz.pinned (.plain (OpenSpec.upto chunkCapacitySpec)) chunkCapacityUptoCard

/-- THE SECOND FORM's CARD OF 'gouachelaw22.ChunkRoots'. -/
def chunkRootsUptoCard : Claim7 := { stood := { row := chunkRootsUptoRow, standIns := [], harness := (true, "7ee92a69701328ef72c66acf2e6a75b6a936c5ba0de6763e72f6a031fbc6b552"), looks := false }, kinds := [], alts := [], laidByText := true, laidKinds := [.data, .data], laidTests := true, laidLooks := .later }
def ChunkRootsUptoCardSaid : Prop := Claim7.holds Tryz.pinned (.plain (OpenSpec.upto chunkRootsSpec)) chunkRootsUptoCard

/-- THE SECOND FORM's CARD OF 'gouachelaw22.ChunkErrors'. -/
def chunkErrorsUptoCard : Claim7 := { stood := { row := chunkErrorsUptoRow, standIns := [], harness := (true, "7ee92a69701328ef72c66acf2e6a75b6a936c5ba0de6763e72f6a031fbc6b552"), looks := false }, kinds := [], alts := [], laidByText := true, laidKinds := [.data, .data], laidTests := true, laidLooks := .later }
def ChunkErrorsUptoCardSaid : Prop := Claim7.holds Tryz.pinned (.plain (OpenSpec.upto chunkErrorsSpec)) chunkErrorsUptoCard

/-- THE SECOND FORM's CARD OF 'gouachelaw22.ChunkPlays'. -/
def chunkPlaysUptoCard : Claim7 := { stood := { row := chunkPlaysUptoRow, standIns := [], harness := (true, "7ee92a69701328ef72c66acf2e6a75b6a936c5ba0de6763e72f6a031fbc6b552"), looks := false }, kinds := [], alts := [], laidByText := true, laidKinds := [.data, .data], laidTests := true, laidLooks := .later }
def ChunkPlaysUptoCardSaid : Prop := Claim7.holds Tryz.pinned (.plain (OpenSpec.upto chunkPlaysSpec)) chunkPlaysUptoCard

/-- THE SECOND FORM's CARD OF 'gouachelaw22.ChunkCrash'. -/
def chunkCrashUptoCard : Claim7 := { stood := { row := chunkCrashUptoRow, standIns := [], harness := (true, "7ee92a69701328ef72c66acf2e6a75b6a936c5ba0de6763e72f6a031fbc6b552"), looks := false }, kinds := [], alts := [], laidByText := true, laidKinds := [.data, .data], laidTests := true, laidLooks := .later }
def ChunkCrashUptoCardSaid : Prop := Claim7.holds Tryz.pinned (.plain (OpenSpec.upto chunkCrashSpec)) chunkCrashUptoCard

/-- THE SECOND FORM's CARD OF 'gouachelaw22.ChunkCompact'. -/
def chunkCompactUptoCard : Claim7 := { stood := { row := chunkCompactUptoRow, standIns := [], harness := (true, "7ee92a69701328ef72c66acf2e6a75b6a936c5ba0de6763e72f6a031fbc6b552"), looks := false }, kinds := [], alts := [], laidByText := true, laidKinds := [.data, .data], laidTests := true, laidLooks := .later }
def ChunkCompactUptoCardSaid : Prop := Claim7.holds Tryz.pinned (.plain (OpenSpec.upto chunkCompactSpec)) chunkCompactUptoCard

/-- THE SECOND FORM's CARD OF 'gouachelaw22.ChunkPower'. -/
def chunkPowerUptoCard : Claim7 := { stood := { row := chunkPowerUptoRow, standIns := [], harness := (true, "7ee92a69701328ef72c66acf2e6a75b6a936c5ba0de6763e72f6a031fbc6b552"), looks := false }, kinds := [], alts := [], laidByText := true, laidKinds := [.data, .data], laidTests := true, laidLooks := .later }
def ChunkPowerUptoCardSaid : Prop := Claim7.holds Tryz.pinned (.plain (OpenSpec.upto chunkPowerSpec)) chunkPowerUptoCard

/-- THE SECOND FORM's CARD OF 'gouachelaw22.ChunkNil'. -/
def chunkNilUptoCard : Claim7 := { stood := { row := chunkNilUptoRow, standIns := [], harness := (true, "7ee92a69701328ef72c66acf2e6a75b6a936c5ba0de6763e72f6a031fbc6b552"), looks := false }, kinds := [], alts := [], laidByText := true, laidKinds := [.data, .data], laidTests := true, laidLooks := .later }
def ChunkNilUptoCardSaid : Prop := Claim7.holds Tryz.pinned (.plain (OpenSpec.upto chunkNilSpec)) chunkNilUptoCard
end Rows
end Go.Proofs.YtfihojpgobmmdaaGreatDoor
