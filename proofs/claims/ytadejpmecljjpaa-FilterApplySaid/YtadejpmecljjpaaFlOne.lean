/- Filter laws anew, part A: numbers as bytes. No conditions. -/
import Derived.Test.YtadejpmecljjpaaEngSeven
import Derived.Test.YtadejpmecljjpaaEngFive
set_option linter.unusedVariables false
set_option linter.unusedSimpArgs false
set_option linter.unusedSectionVars false
namespace Go.Proofs.Ytadejpmecljjpaa
open Go Go.Eng
noncomputable abbrev W0 : CtrW := joinW (memoW specs) (ofCtrS S13)
theorem W0_ok : CtrWOk Try.prog W0 := joinW_ok (memoW_ok specs_ok) (ofCtrS_ok S13_ok)
abbrev H0 : FuncId → List (Nat × Fix) := fun _ => []
noncomputable abbrev cs0 : CallS := callX Try.prog W0 H0 1000 40
noncomputable abbrev X0 : CX Try.prog := CX.of mo po W0_ok H0 1000 40
noncomputable abbrev cdV : Code := bodyOf Try.f82
noncomputable abbrev cdW : Code := bodyOf Try.f63
theorem rV_in (x : Int) : RunIs Try.prog cs0 [] 1000 0 Try.f82 [3, 4] (headN 3 cdV) (startSt [.int .i64 x] .nil 0)
    []
    [([],
      [],
      .to .normal (stG [(3, .slc none 0 0 0), (4, .int .u64 (IntKind.u64.wrap x))] (hL []) 0))]
  := by unfold RunIs; kernel_rfl
theorem rW_in (x : Int) : RunIs Try.prog cs0 [] 1000 0 Try.f63 [3, 4] (headN 3 cdW) (startSt [.int .i64 x] .nil 0)
    []
    [([],
      [],
      .to .normal (stG [(3, .slc (some (0, 0)) 0 0 1), (4, .int .u64 (IntKind.u64.wrap x))] (hL [(0, .cells [])]) 1))]
  := by unfold RunIs; kernel_rfl
noncomputable abbrev lpV : Code := seqL (tailN 3 cdV)
noncomputable abbrev lpW : Code := seqL (tailN 3 cdW)
noncomputable abbrev bdV : Code := inner (inner lpV)
noncomputable abbrev bdW : Code := inner (inner lpW)
noncomputable abbrev endV : Code := seqR (tailN 3 cdV)
noncomputable abbrev endW : Code := seqR (tailN 3 cdW)
theorem rV_0 (u : Int) : RunIs Try.prog cs0 [(8, .split)] 1000 0 Try.f82 [3, 4] (bdV) (stG [(3, .slc none 0 0 0), (4, .int .u64 u)] (hL []) 0)
    []
    [([((decide (u ≥ (128 : Int))), true)],
      [],
      .to .normal (stG [(3, .slc (some (0, 0)) 1 1 1), (4, .int .u64 (u.fdiv (128 : Int)))] (hL [(0, .cells [.int .u8 (IntKind.u8.wrap ↑(BitVec.ofInt (8 : Nat) (IntKind.u8.wrap u) ||| BitVec.ofInt (8 : Nat) (128 : Int)).toNat)])]) 1)),
    ([((decide (u ≥ (128 : Int))), false)],
      [],
      .to (.exit 0) (stG [(3, .slc none 0 0 0), (4, .int .u64 u)] (hL []) 0))]
  := by unfold RunIs; kernel_rfl
theorem eV_0 (u : Int) : RunIs Try.prog cs0 [] 1000 0 Try.f82 [] (endV) (stG [(3, .slc none 0 0 0), (4, .int .u64 u)] (hL []) 0)
    []
    [([],
      [],
      .ret (.str ([UInt8.ofNat (IntKind.u8.wrap u).toNat])) (hL []) 0)]
  := by unfold RunIs; kernel_rfl
theorem rV_1 (u : Int) (b0 : Int) : RunIs Try.prog cs0 [(8, .split)] 1000 0 Try.f82 [3, 4] (bdV) (stG [(3, .slc (some (0, 0)) 1 1 1), (4, .int .u64 u)] (hL [(0, .cells [.int .u8 b0])]) 1)
    []
    [([((decide (u ≥ (128 : Int))), true)],
      [],
      .to .normal (stG [(3, .slc (some (0, 0)) 2 2 1), (4, .int .u64 (u.fdiv (128 : Int)))] (hL [(0, .cells [.int .u8 b0, .int .u8 (IntKind.u8.wrap ↑(BitVec.ofInt (8 : Nat) (IntKind.u8.wrap u) ||| BitVec.ofInt (8 : Nat) (128 : Int)).toNat)])]) 1)),
    ([((decide (u ≥ (128 : Int))), false)],
      [],
      .to (.exit 0) (stG [(3, .slc (some (0, 0)) 1 1 1), (4, .int .u64 u)] (hL [(0, .cells [.int .u8 b0])]) 1))]
  := by unfold RunIs; kernel_rfl
theorem eV_1 (u : Int) (b0 : Int) : RunIs Try.prog cs0 [] 1000 0 Try.f82 [] (endV) (stG [(3, .slc (some (0, 0)) 1 1 1), (4, .int .u64 u)] (hL [(0, .cells [.int .u8 b0])]) 1)
    []
    [([],
      [],
      .ret (.str ([UInt8.ofNat b0.toNat, UInt8.ofNat (IntKind.u8.wrap u).toNat])) (hL []) 0)]
  := by unfold RunIs; kernel_rfl
theorem rV_2 (u : Int) (b0 b1 : Int) : RunIs Try.prog cs0 [(8, .split)] 1000 0 Try.f82 [3, 4] (bdV) (stG [(3, .slc (some (0, 0)) 2 2 1), (4, .int .u64 u)] (hL [(0, .cells [.int .u8 b0, .int .u8 b1])]) 1)
    []
    [([((decide (u ≥ (128 : Int))), true)],
      [],
      .to .normal (stG [(3, .slc (some (0, 0)) 3 3 1), (4, .int .u64 (u.fdiv (128 : Int)))] (hL [(0, .cells [.int .u8 b0, .int .u8 b1, .int .u8 (IntKind.u8.wrap ↑(BitVec.ofInt (8 : Nat) (IntKind.u8.wrap u) ||| BitVec.ofInt (8 : Nat) (128 : Int)).toNat)])]) 1)),
    ([((decide (u ≥ (128 : Int))), false)],
      [],
      .to (.exit 0) (stG [(3, .slc (some (0, 0)) 2 2 1), (4, .int .u64 u)] (hL [(0, .cells [.int .u8 b0, .int .u8 b1])]) 1))]
  := by unfold RunIs; kernel_rfl
theorem eV_2 (u : Int) (b0 b1 : Int) : RunIs Try.prog cs0 [] 1000 0 Try.f82 [] (endV) (stG [(3, .slc (some (0, 0)) 2 2 1), (4, .int .u64 u)] (hL [(0, .cells [.int .u8 b0, .int .u8 b1])]) 1)
    []
    [([],
      [],
      .ret (.str ([UInt8.ofNat b0.toNat, UInt8.ofNat b1.toNat, UInt8.ofNat (IntKind.u8.wrap u).toNat])) (hL []) 0)]
  := by unfold RunIs; kernel_rfl
theorem rV_3 (u : Int) (b0 b1 b2 : Int) : RunIs Try.prog cs0 [(8, .split)] 1000 0 Try.f82 [3, 4] (bdV) (stG [(3, .slc (some (0, 0)) 3 3 1), (4, .int .u64 u)] (hL [(0, .cells [.int .u8 b0, .int .u8 b1, .int .u8 b2])]) 1)
    []
    [([((decide (u ≥ (128 : Int))), true)],
      [],
      .to .normal (stG [(3, .slc (some (0, 0)) 4 4 1), (4, .int .u64 (u.fdiv (128 : Int)))] (hL [(0, .cells [.int .u8 b0, .int .u8 b1, .int .u8 b2, .int .u8 (IntKind.u8.wrap ↑(BitVec.ofInt (8 : Nat) (IntKind.u8.wrap u) ||| BitVec.ofInt (8 : Nat) (128 : Int)).toNat)])]) 1)),
    ([((decide (u ≥ (128 : Int))), false)],
      [],
      .to (.exit 0) (stG [(3, .slc (some (0, 0)) 3 3 1), (4, .int .u64 u)] (hL [(0, .cells [.int .u8 b0, .int .u8 b1, .int .u8 b2])]) 1))]
  := by unfold RunIs; kernel_rfl
theorem eV_3 (u : Int) (b0 b1 b2 : Int) : RunIs Try.prog cs0 [] 1000 0 Try.f82 [] (endV) (stG [(3, .slc (some (0, 0)) 3 3 1), (4, .int .u64 u)] (hL [(0, .cells [.int .u8 b0, .int .u8 b1, .int .u8 b2])]) 1)
    []
    [([],
      [],
      .ret (.str ([UInt8.ofNat b0.toNat, UInt8.ofNat b1.toNat, UInt8.ofNat b2.toNat, UInt8.ofNat (IntKind.u8.wrap u).toNat])) (hL []) 0)]
  := by unfold RunIs; kernel_rfl
theorem rV_4 (u : Int) (b0 b1 b2 b3 : Int) : RunIs Try.prog cs0 [(8, .split)] 1000 0 Try.f82 [3, 4] (bdV) (stG [(3, .slc (some (0, 0)) 4 4 1), (4, .int .u64 u)] (hL [(0, .cells [.int .u8 b0, .int .u8 b1, .int .u8 b2, .int .u8 b3])]) 1)
    []
    [([((decide (u ≥ (128 : Int))), true)],
      [],
      .to .normal (stG [(3, .slc (some (0, 0)) 5 5 1), (4, .int .u64 (u.fdiv (128 : Int)))] (hL [(0, .cells [.int .u8 b0, .int .u8 b1, .int .u8 b2, .int .u8 b3, .int .u8 (IntKind.u8.wrap ↑(BitVec.ofInt (8 : Nat) (IntKind.u8.wrap u) ||| BitVec.ofInt (8 : Nat) (128 : Int)).toNat)])]) 1)),
    ([((decide (u ≥ (128 : Int))), false)],
      [],
      .to (.exit 0) (stG [(3, .slc (some (0, 0)) 4 4 1), (4, .int .u64 u)] (hL [(0, .cells [.int .u8 b0, .int .u8 b1, .int .u8 b2, .int .u8 b3])]) 1))]
  := by unfold RunIs; kernel_rfl
theorem eV_4 (u : Int) (b0 b1 b2 b3 : Int) : RunIs Try.prog cs0 [] 1000 0 Try.f82 [] (endV) (stG [(3, .slc (some (0, 0)) 4 4 1), (4, .int .u64 u)] (hL [(0, .cells [.int .u8 b0, .int .u8 b1, .int .u8 b2, .int .u8 b3])]) 1)
    []
    [([],
      [],
      .ret (.str ([UInt8.ofNat b0.toNat, UInt8.ofNat b1.toNat, UInt8.ofNat b2.toNat, UInt8.ofNat b3.toNat, UInt8.ofNat (IntKind.u8.wrap u).toNat])) (hL []) 0)]
  := by unfold RunIs; kernel_rfl
theorem rV_5 (u : Int) (b0 b1 b2 b3 b4 : Int) : RunIs Try.prog cs0 [(8, .split)] 1000 0 Try.f82 [3, 4] (bdV) (stG [(3, .slc (some (0, 0)) 5 5 1), (4, .int .u64 u)] (hL [(0, .cells [.int .u8 b0, .int .u8 b1, .int .u8 b2, .int .u8 b3, .int .u8 b4])]) 1)
    []
    [([((decide (u ≥ (128 : Int))), true)],
      [],
      .to .normal (stG [(3, .slc (some (0, 0)) 6 6 1), (4, .int .u64 (u.fdiv (128 : Int)))] (hL [(0, .cells [.int .u8 b0, .int .u8 b1, .int .u8 b2, .int .u8 b3, .int .u8 b4, .int .u8 (IntKind.u8.wrap ↑(BitVec.ofInt (8 : Nat) (IntKind.u8.wrap u) ||| BitVec.ofInt (8 : Nat) (128 : Int)).toNat)])]) 1)),
    ([((decide (u ≥ (128 : Int))), false)],
      [],
      .to (.exit 0) (stG [(3, .slc (some (0, 0)) 5 5 1), (4, .int .u64 u)] (hL [(0, .cells [.int .u8 b0, .int .u8 b1, .int .u8 b2, .int .u8 b3, .int .u8 b4])]) 1))]
  := by unfold RunIs; kernel_rfl
theorem eV_5 (u : Int) (b0 b1 b2 b3 b4 : Int) : RunIs Try.prog cs0 [] 1000 0 Try.f82 [] (endV) (stG [(3, .slc (some (0, 0)) 5 5 1), (4, .int .u64 u)] (hL [(0, .cells [.int .u8 b0, .int .u8 b1, .int .u8 b2, .int .u8 b3, .int .u8 b4])]) 1)
    []
    [([],
      [],
      .ret (.str ([UInt8.ofNat b0.toNat, UInt8.ofNat b1.toNat, UInt8.ofNat b2.toNat, UInt8.ofNat b3.toNat, UInt8.ofNat b4.toNat, UInt8.ofNat (IntKind.u8.wrap u).toNat])) (hL []) 0)]
  := by unfold RunIs; kernel_rfl
theorem rV_6 (u : Int) (b0 b1 b2 b3 b4 b5 : Int) : RunIs Try.prog cs0 [(8, .split)] 1000 0 Try.f82 [3, 4] (bdV) (stG [(3, .slc (some (0, 0)) 6 6 1), (4, .int .u64 u)] (hL [(0, .cells [.int .u8 b0, .int .u8 b1, .int .u8 b2, .int .u8 b3, .int .u8 b4, .int .u8 b5])]) 1)
    []
    [([((decide (u ≥ (128 : Int))), true)],
      [],
      .to .normal (stG [(3, .slc (some (0, 0)) 7 7 1), (4, .int .u64 (u.fdiv (128 : Int)))] (hL [(0, .cells [.int .u8 b0, .int .u8 b1, .int .u8 b2, .int .u8 b3, .int .u8 b4, .int .u8 b5, .int .u8 (IntKind.u8.wrap ↑(BitVec.ofInt (8 : Nat) (IntKind.u8.wrap u) ||| BitVec.ofInt (8 : Nat) (128 : Int)).toNat)])]) 1)),
    ([((decide (u ≥ (128 : Int))), false)],
      [],
      .to (.exit 0) (stG [(3, .slc (some (0, 0)) 6 6 1), (4, .int .u64 u)] (hL [(0, .cells [.int .u8 b0, .int .u8 b1, .int .u8 b2, .int .u8 b3, .int .u8 b4, .int .u8 b5])]) 1))]
  := by unfold RunIs; kernel_rfl
theorem eV_6 (u : Int) (b0 b1 b2 b3 b4 b5 : Int) : RunIs Try.prog cs0 [] 1000 0 Try.f82 [] (endV) (stG [(3, .slc (some (0, 0)) 6 6 1), (4, .int .u64 u)] (hL [(0, .cells [.int .u8 b0, .int .u8 b1, .int .u8 b2, .int .u8 b3, .int .u8 b4, .int .u8 b5])]) 1)
    []
    [([],
      [],
      .ret (.str ([UInt8.ofNat b0.toNat, UInt8.ofNat b1.toNat, UInt8.ofNat b2.toNat, UInt8.ofNat b3.toNat, UInt8.ofNat b4.toNat, UInt8.ofNat b5.toNat, UInt8.ofNat (IntKind.u8.wrap u).toNat])) (hL []) 0)]
  := by unfold RunIs; kernel_rfl
theorem rV_7 (u : Int) (b0 b1 b2 b3 b4 b5 b6 : Int) : RunIs Try.prog cs0 [(8, .split)] 1000 0 Try.f82 [3, 4] (bdV) (stG [(3, .slc (some (0, 0)) 7 7 1), (4, .int .u64 u)] (hL [(0, .cells [.int .u8 b0, .int .u8 b1, .int .u8 b2, .int .u8 b3, .int .u8 b4, .int .u8 b5, .int .u8 b6])]) 1)
    []
    [([((decide (u ≥ (128 : Int))), true)],
      [],
      .to .normal (stG [(3, .slc (some (0, 0)) 8 8 1), (4, .int .u64 (u.fdiv (128 : Int)))] (hL [(0, .cells [.int .u8 b0, .int .u8 b1, .int .u8 b2, .int .u8 b3, .int .u8 b4, .int .u8 b5, .int .u8 b6, .int .u8 (IntKind.u8.wrap ↑(BitVec.ofInt (8 : Nat) (IntKind.u8.wrap u) ||| BitVec.ofInt (8 : Nat) (128 : Int)).toNat)])]) 1)),
    ([((decide (u ≥ (128 : Int))), false)],
      [],
      .to (.exit 0) (stG [(3, .slc (some (0, 0)) 7 7 1), (4, .int .u64 u)] (hL [(0, .cells [.int .u8 b0, .int .u8 b1, .int .u8 b2, .int .u8 b3, .int .u8 b4, .int .u8 b5, .int .u8 b6])]) 1))]
  := by unfold RunIs; kernel_rfl
theorem eV_7 (u : Int) (b0 b1 b2 b3 b4 b5 b6 : Int) : RunIs Try.prog cs0 [] 1000 0 Try.f82 [] (endV) (stG [(3, .slc (some (0, 0)) 7 7 1), (4, .int .u64 u)] (hL [(0, .cells [.int .u8 b0, .int .u8 b1, .int .u8 b2, .int .u8 b3, .int .u8 b4, .int .u8 b5, .int .u8 b6])]) 1)
    []
    [([],
      [],
      .ret (.str ([UInt8.ofNat b0.toNat, UInt8.ofNat b1.toNat, UInt8.ofNat b2.toNat, UInt8.ofNat b3.toNat, UInt8.ofNat b4.toNat, UInt8.ofNat b5.toNat, UInt8.ofNat b6.toNat, UInt8.ofNat (IntKind.u8.wrap u).toNat])) (hL []) 0)]
  := by unfold RunIs; kernel_rfl
theorem rV_8 (u : Int) (b0 b1 b2 b3 b4 b5 b6 b7 : Int) : RunIs Try.prog cs0 [(8, .split)] 1000 0 Try.f82 [3, 4] (bdV) (stG [(3, .slc (some (0, 0)) 8 8 1), (4, .int .u64 u)] (hL [(0, .cells [.int .u8 b0, .int .u8 b1, .int .u8 b2, .int .u8 b3, .int .u8 b4, .int .u8 b5, .int .u8 b6, .int .u8 b7])]) 1)
    []
    [([((decide (u ≥ (128 : Int))), true)],
      [],
      .to .normal (stG [(3, .slc (some (0, 0)) 9 9 1), (4, .int .u64 (u.fdiv (128 : Int)))] (hL [(0, .cells [.int .u8 b0, .int .u8 b1, .int .u8 b2, .int .u8 b3, .int .u8 b4, .int .u8 b5, .int .u8 b6, .int .u8 b7, .int .u8 (IntKind.u8.wrap ↑(BitVec.ofInt (8 : Nat) (IntKind.u8.wrap u) ||| BitVec.ofInt (8 : Nat) (128 : Int)).toNat)])]) 1)),
    ([((decide (u ≥ (128 : Int))), false)],
      [],
      .to (.exit 0) (stG [(3, .slc (some (0, 0)) 8 8 1), (4, .int .u64 u)] (hL [(0, .cells [.int .u8 b0, .int .u8 b1, .int .u8 b2, .int .u8 b3, .int .u8 b4, .int .u8 b5, .int .u8 b6, .int .u8 b7])]) 1))]
  := by unfold RunIs; kernel_rfl
theorem eV_8 (u : Int) (b0 b1 b2 b3 b4 b5 b6 b7 : Int) : RunIs Try.prog cs0 [] 1000 0 Try.f82 [] (endV) (stG [(3, .slc (some (0, 0)) 8 8 1), (4, .int .u64 u)] (hL [(0, .cells [.int .u8 b0, .int .u8 b1, .int .u8 b2, .int .u8 b3, .int .u8 b4, .int .u8 b5, .int .u8 b6, .int .u8 b7])]) 1)
    []
    [([],
      [],
      .ret (.str ([UInt8.ofNat b0.toNat, UInt8.ofNat b1.toNat, UInt8.ofNat b2.toNat, UInt8.ofNat b3.toNat, UInt8.ofNat b4.toNat, UInt8.ofNat b5.toNat, UInt8.ofNat b6.toNat, UInt8.ofNat b7.toNat, UInt8.ofNat (IntKind.u8.wrap u).toNat])) (hL []) 0)]
  := by unfold RunIs; kernel_rfl
theorem rV_9 (u : Int) (b0 b1 b2 b3 b4 b5 b6 b7 b8 : Int) : RunIs Try.prog cs0 [(8, .split)] 1000 0 Try.f82 [3, 4] (bdV) (stG [(3, .slc (some (0, 0)) 9 9 1), (4, .int .u64 u)] (hL [(0, .cells [.int .u8 b0, .int .u8 b1, .int .u8 b2, .int .u8 b3, .int .u8 b4, .int .u8 b5, .int .u8 b6, .int .u8 b7, .int .u8 b8])]) 1)
    []
    [([((decide (u ≥ (128 : Int))), true)],
      [],
      .to .normal (stG [(3, .slc (some (0, 0)) 10 10 1), (4, .int .u64 (u.fdiv (128 : Int)))] (hL [(0, .cells [.int .u8 b0, .int .u8 b1, .int .u8 b2, .int .u8 b3, .int .u8 b4, .int .u8 b5, .int .u8 b6, .int .u8 b7, .int .u8 b8, .int .u8 (IntKind.u8.wrap ↑(BitVec.ofInt (8 : Nat) (IntKind.u8.wrap u) ||| BitVec.ofInt (8 : Nat) (128 : Int)).toNat)])]) 1)),
    ([((decide (u ≥ (128 : Int))), false)],
      [],
      .to (.exit 0) (stG [(3, .slc (some (0, 0)) 9 9 1), (4, .int .u64 u)] (hL [(0, .cells [.int .u8 b0, .int .u8 b1, .int .u8 b2, .int .u8 b3, .int .u8 b4, .int .u8 b5, .int .u8 b6, .int .u8 b7, .int .u8 b8])]) 1))]
  := by unfold RunIs; kernel_rfl
theorem eV_9 (u : Int) (b0 b1 b2 b3 b4 b5 b6 b7 b8 : Int) : RunIs Try.prog cs0 [] 1000 0 Try.f82 [] (endV) (stG [(3, .slc (some (0, 0)) 9 9 1), (4, .int .u64 u)] (hL [(0, .cells [.int .u8 b0, .int .u8 b1, .int .u8 b2, .int .u8 b3, .int .u8 b4, .int .u8 b5, .int .u8 b6, .int .u8 b7, .int .u8 b8])]) 1)
    []
    [([],
      [],
      .ret (.str ([UInt8.ofNat b0.toNat, UInt8.ofNat b1.toNat, UInt8.ofNat b2.toNat, UInt8.ofNat b3.toNat, UInt8.ofNat b4.toNat, UInt8.ofNat b5.toNat, UInt8.ofNat b6.toNat, UInt8.ofNat b7.toNat, UInt8.ofNat b8.toNat, UInt8.ofNat (IntKind.u8.wrap u).toNat])) (hL []) 0)]
  := by unfold RunIs; kernel_rfl
theorem rW_0 (u : Int) : RunIs Try.prog cs0 [(9, .split)] 1000 0 Try.f63 [3, 4] (bdW) (stG [(3, .slc (some (0, 0)) 0 0 1), (4, .int .u64 u)] (hL [(0, .cells [])]) 1)
    []
    [([((decide (u ≥ (128 : Int))), true)],
      [((128 : Int) ≠ (0 : Int))],
      .to .normal (stG [(3, .slc (some (0, 0)) 1 1 1), (4, .int .u64 (IntKind.u64.wrap (u.tdiv (128 : Int))))] (hL [(0, .cells [.int .u8 (IntKind.u8.wrap (IntKind.u64.wrap (u.tmod (128 : Int) + (128 : Int))))])]) 1)),
    ([((decide (u ≥ (128 : Int))), false)],
      [],
      .to (.exit 0) (stG [(3, .slc (some (0, 0)) 0 0 1), (4, .int .u64 u)] (hL [(0, .cells [])]) 1))]
  := by unfold RunIs; kernel_rfl
theorem eW_0 (u : Int) : RunIs Try.prog cs0 [] 1000 0 Try.f63 [] (endW) (stG [(3, .slc (some (0, 0)) 0 0 1), (4, .int .u64 u)] (hL [(0, .cells [])]) 1)
    []
    [([],
      [],
      .ret (.str ([UInt8.ofNat (IntKind.u8.wrap u).toNat])) (hL []) 0)]
  := by unfold RunIs; kernel_rfl
theorem rW_1 (u : Int) (b0 : Int) : RunIs Try.prog cs0 [(9, .split)] 1000 0 Try.f63 [3, 4] (bdW) (stG [(3, .slc (some (0, 0)) 1 1 1), (4, .int .u64 u)] (hL [(0, .cells [.int .u8 b0])]) 1)
    []
    [([((decide (u ≥ (128 : Int))), true)],
      [((128 : Int) ≠ (0 : Int))],
      .to .normal (stG [(3, .slc (some (0, 0)) 2 2 1), (4, .int .u64 (IntKind.u64.wrap (u.tdiv (128 : Int))))] (hL [(0, .cells [.int .u8 b0, .int .u8 (IntKind.u8.wrap (IntKind.u64.wrap (u.tmod (128 : Int) + (128 : Int))))])]) 1)),
    ([((decide (u ≥ (128 : Int))), false)],
      [],
      .to (.exit 0) (stG [(3, .slc (some (0, 0)) 1 1 1), (4, .int .u64 u)] (hL [(0, .cells [.int .u8 b0])]) 1))]
  := by unfold RunIs; kernel_rfl
theorem eW_1 (u : Int) (b0 : Int) : RunIs Try.prog cs0 [] 1000 0 Try.f63 [] (endW) (stG [(3, .slc (some (0, 0)) 1 1 1), (4, .int .u64 u)] (hL [(0, .cells [.int .u8 b0])]) 1)
    []
    [([],
      [],
      .ret (.str ([UInt8.ofNat b0.toNat, UInt8.ofNat (IntKind.u8.wrap u).toNat])) (hL []) 0)]
  := by unfold RunIs; kernel_rfl
theorem rW_2 (u : Int) (b0 b1 : Int) : RunIs Try.prog cs0 [(9, .split)] 1000 0 Try.f63 [3, 4] (bdW) (stG [(3, .slc (some (0, 0)) 2 2 1), (4, .int .u64 u)] (hL [(0, .cells [.int .u8 b0, .int .u8 b1])]) 1)
    []
    [([((decide (u ≥ (128 : Int))), true)],
      [((128 : Int) ≠ (0 : Int))],
      .to .normal (stG [(3, .slc (some (0, 0)) 3 3 1), (4, .int .u64 (IntKind.u64.wrap (u.tdiv (128 : Int))))] (hL [(0, .cells [.int .u8 b0, .int .u8 b1, .int .u8 (IntKind.u8.wrap (IntKind.u64.wrap (u.tmod (128 : Int) + (128 : Int))))])]) 1)),
    ([((decide (u ≥ (128 : Int))), false)],
      [],
      .to (.exit 0) (stG [(3, .slc (some (0, 0)) 2 2 1), (4, .int .u64 u)] (hL [(0, .cells [.int .u8 b0, .int .u8 b1])]) 1))]
  := by unfold RunIs; kernel_rfl
theorem eW_2 (u : Int) (b0 b1 : Int) : RunIs Try.prog cs0 [] 1000 0 Try.f63 [] (endW) (stG [(3, .slc (some (0, 0)) 2 2 1), (4, .int .u64 u)] (hL [(0, .cells [.int .u8 b0, .int .u8 b1])]) 1)
    []
    [([],
      [],
      .ret (.str ([UInt8.ofNat b0.toNat, UInt8.ofNat b1.toNat, UInt8.ofNat (IntKind.u8.wrap u).toNat])) (hL []) 0)]
  := by unfold RunIs; kernel_rfl
theorem rW_3 (u : Int) (b0 b1 b2 : Int) : RunIs Try.prog cs0 [(9, .split)] 1000 0 Try.f63 [3, 4] (bdW) (stG [(3, .slc (some (0, 0)) 3 3 1), (4, .int .u64 u)] (hL [(0, .cells [.int .u8 b0, .int .u8 b1, .int .u8 b2])]) 1)
    []
    [([((decide (u ≥ (128 : Int))), true)],
      [((128 : Int) ≠ (0 : Int))],
      .to .normal (stG [(3, .slc (some (0, 0)) 4 4 1), (4, .int .u64 (IntKind.u64.wrap (u.tdiv (128 : Int))))] (hL [(0, .cells [.int .u8 b0, .int .u8 b1, .int .u8 b2, .int .u8 (IntKind.u8.wrap (IntKind.u64.wrap (u.tmod (128 : Int) + (128 : Int))))])]) 1)),
    ([((decide (u ≥ (128 : Int))), false)],
      [],
      .to (.exit 0) (stG [(3, .slc (some (0, 0)) 3 3 1), (4, .int .u64 u)] (hL [(0, .cells [.int .u8 b0, .int .u8 b1, .int .u8 b2])]) 1))]
  := by unfold RunIs; kernel_rfl
theorem eW_3 (u : Int) (b0 b1 b2 : Int) : RunIs Try.prog cs0 [] 1000 0 Try.f63 [] (endW) (stG [(3, .slc (some (0, 0)) 3 3 1), (4, .int .u64 u)] (hL [(0, .cells [.int .u8 b0, .int .u8 b1, .int .u8 b2])]) 1)
    []
    [([],
      [],
      .ret (.str ([UInt8.ofNat b0.toNat, UInt8.ofNat b1.toNat, UInt8.ofNat b2.toNat, UInt8.ofNat (IntKind.u8.wrap u).toNat])) (hL []) 0)]
  := by unfold RunIs; kernel_rfl
theorem rW_4 (u : Int) (b0 b1 b2 b3 : Int) : RunIs Try.prog cs0 [(9, .split)] 1000 0 Try.f63 [3, 4] (bdW) (stG [(3, .slc (some (0, 0)) 4 4 1), (4, .int .u64 u)] (hL [(0, .cells [.int .u8 b0, .int .u8 b1, .int .u8 b2, .int .u8 b3])]) 1)
    []
    [([((decide (u ≥ (128 : Int))), true)],
      [((128 : Int) ≠ (0 : Int))],
      .to .normal (stG [(3, .slc (some (0, 0)) 5 5 1), (4, .int .u64 (IntKind.u64.wrap (u.tdiv (128 : Int))))] (hL [(0, .cells [.int .u8 b0, .int .u8 b1, .int .u8 b2, .int .u8 b3, .int .u8 (IntKind.u8.wrap (IntKind.u64.wrap (u.tmod (128 : Int) + (128 : Int))))])]) 1)),
    ([((decide (u ≥ (128 : Int))), false)],
      [],
      .to (.exit 0) (stG [(3, .slc (some (0, 0)) 4 4 1), (4, .int .u64 u)] (hL [(0, .cells [.int .u8 b0, .int .u8 b1, .int .u8 b2, .int .u8 b3])]) 1))]
  := by unfold RunIs; kernel_rfl
theorem eW_4 (u : Int) (b0 b1 b2 b3 : Int) : RunIs Try.prog cs0 [] 1000 0 Try.f63 [] (endW) (stG [(3, .slc (some (0, 0)) 4 4 1), (4, .int .u64 u)] (hL [(0, .cells [.int .u8 b0, .int .u8 b1, .int .u8 b2, .int .u8 b3])]) 1)
    []
    [([],
      [],
      .ret (.str ([UInt8.ofNat b0.toNat, UInt8.ofNat b1.toNat, UInt8.ofNat b2.toNat, UInt8.ofNat b3.toNat, UInt8.ofNat (IntKind.u8.wrap u).toNat])) (hL []) 0)]
  := by unfold RunIs; kernel_rfl
theorem rW_5 (u : Int) (b0 b1 b2 b3 b4 : Int) : RunIs Try.prog cs0 [(9, .split)] 1000 0 Try.f63 [3, 4] (bdW) (stG [(3, .slc (some (0, 0)) 5 5 1), (4, .int .u64 u)] (hL [(0, .cells [.int .u8 b0, .int .u8 b1, .int .u8 b2, .int .u8 b3, .int .u8 b4])]) 1)
    []
    [([((decide (u ≥ (128 : Int))), true)],
      [((128 : Int) ≠ (0 : Int))],
      .to .normal (stG [(3, .slc (some (0, 0)) 6 6 1), (4, .int .u64 (IntKind.u64.wrap (u.tdiv (128 : Int))))] (hL [(0, .cells [.int .u8 b0, .int .u8 b1, .int .u8 b2, .int .u8 b3, .int .u8 b4, .int .u8 (IntKind.u8.wrap (IntKind.u64.wrap (u.tmod (128 : Int) + (128 : Int))))])]) 1)),
    ([((decide (u ≥ (128 : Int))), false)],
      [],
      .to (.exit 0) (stG [(3, .slc (some (0, 0)) 5 5 1), (4, .int .u64 u)] (hL [(0, .cells [.int .u8 b0, .int .u8 b1, .int .u8 b2, .int .u8 b3, .int .u8 b4])]) 1))]
  := by unfold RunIs; kernel_rfl
theorem eW_5 (u : Int) (b0 b1 b2 b3 b4 : Int) : RunIs Try.prog cs0 [] 1000 0 Try.f63 [] (endW) (stG [(3, .slc (some (0, 0)) 5 5 1), (4, .int .u64 u)] (hL [(0, .cells [.int .u8 b0, .int .u8 b1, .int .u8 b2, .int .u8 b3, .int .u8 b4])]) 1)
    []
    [([],
      [],
      .ret (.str ([UInt8.ofNat b0.toNat, UInt8.ofNat b1.toNat, UInt8.ofNat b2.toNat, UInt8.ofNat b3.toNat, UInt8.ofNat b4.toNat, UInt8.ofNat (IntKind.u8.wrap u).toNat])) (hL []) 0)]
  := by unfold RunIs; kernel_rfl
theorem rW_6 (u : Int) (b0 b1 b2 b3 b4 b5 : Int) : RunIs Try.prog cs0 [(9, .split)] 1000 0 Try.f63 [3, 4] (bdW) (stG [(3, .slc (some (0, 0)) 6 6 1), (4, .int .u64 u)] (hL [(0, .cells [.int .u8 b0, .int .u8 b1, .int .u8 b2, .int .u8 b3, .int .u8 b4, .int .u8 b5])]) 1)
    []
    [([((decide (u ≥ (128 : Int))), true)],
      [((128 : Int) ≠ (0 : Int))],
      .to .normal (stG [(3, .slc (some (0, 0)) 7 7 1), (4, .int .u64 (IntKind.u64.wrap (u.tdiv (128 : Int))))] (hL [(0, .cells [.int .u8 b0, .int .u8 b1, .int .u8 b2, .int .u8 b3, .int .u8 b4, .int .u8 b5, .int .u8 (IntKind.u8.wrap (IntKind.u64.wrap (u.tmod (128 : Int) + (128 : Int))))])]) 1)),
    ([((decide (u ≥ (128 : Int))), false)],
      [],
      .to (.exit 0) (stG [(3, .slc (some (0, 0)) 6 6 1), (4, .int .u64 u)] (hL [(0, .cells [.int .u8 b0, .int .u8 b1, .int .u8 b2, .int .u8 b3, .int .u8 b4, .int .u8 b5])]) 1))]
  := by unfold RunIs; kernel_rfl
theorem eW_6 (u : Int) (b0 b1 b2 b3 b4 b5 : Int) : RunIs Try.prog cs0 [] 1000 0 Try.f63 [] (endW) (stG [(3, .slc (some (0, 0)) 6 6 1), (4, .int .u64 u)] (hL [(0, .cells [.int .u8 b0, .int .u8 b1, .int .u8 b2, .int .u8 b3, .int .u8 b4, .int .u8 b5])]) 1)
    []
    [([],
      [],
      .ret (.str ([UInt8.ofNat b0.toNat, UInt8.ofNat b1.toNat, UInt8.ofNat b2.toNat, UInt8.ofNat b3.toNat, UInt8.ofNat b4.toNat, UInt8.ofNat b5.toNat, UInt8.ofNat (IntKind.u8.wrap u).toNat])) (hL []) 0)]
  := by unfold RunIs; kernel_rfl
theorem rW_7 (u : Int) (b0 b1 b2 b3 b4 b5 b6 : Int) : RunIs Try.prog cs0 [(9, .split)] 1000 0 Try.f63 [3, 4] (bdW) (stG [(3, .slc (some (0, 0)) 7 7 1), (4, .int .u64 u)] (hL [(0, .cells [.int .u8 b0, .int .u8 b1, .int .u8 b2, .int .u8 b3, .int .u8 b4, .int .u8 b5, .int .u8 b6])]) 1)
    []
    [([((decide (u ≥ (128 : Int))), true)],
      [((128 : Int) ≠ (0 : Int))],
      .to .normal (stG [(3, .slc (some (0, 0)) 8 8 1), (4, .int .u64 (IntKind.u64.wrap (u.tdiv (128 : Int))))] (hL [(0, .cells [.int .u8 b0, .int .u8 b1, .int .u8 b2, .int .u8 b3, .int .u8 b4, .int .u8 b5, .int .u8 b6, .int .u8 (IntKind.u8.wrap (IntKind.u64.wrap (u.tmod (128 : Int) + (128 : Int))))])]) 1)),
    ([((decide (u ≥ (128 : Int))), false)],
      [],
      .to (.exit 0) (stG [(3, .slc (some (0, 0)) 7 7 1), (4, .int .u64 u)] (hL [(0, .cells [.int .u8 b0, .int .u8 b1, .int .u8 b2, .int .u8 b3, .int .u8 b4, .int .u8 b5, .int .u8 b6])]) 1))]
  := by unfold RunIs; kernel_rfl
theorem eW_7 (u : Int) (b0 b1 b2 b3 b4 b5 b6 : Int) : RunIs Try.prog cs0 [] 1000 0 Try.f63 [] (endW) (stG [(3, .slc (some (0, 0)) 7 7 1), (4, .int .u64 u)] (hL [(0, .cells [.int .u8 b0, .int .u8 b1, .int .u8 b2, .int .u8 b3, .int .u8 b4, .int .u8 b5, .int .u8 b6])]) 1)
    []
    [([],
      [],
      .ret (.str ([UInt8.ofNat b0.toNat, UInt8.ofNat b1.toNat, UInt8.ofNat b2.toNat, UInt8.ofNat b3.toNat, UInt8.ofNat b4.toNat, UInt8.ofNat b5.toNat, UInt8.ofNat b6.toNat, UInt8.ofNat (IntKind.u8.wrap u).toNat])) (hL []) 0)]
  := by unfold RunIs; kernel_rfl
theorem rW_8 (u : Int) (b0 b1 b2 b3 b4 b5 b6 b7 : Int) : RunIs Try.prog cs0 [(9, .split)] 1000 0 Try.f63 [3, 4] (bdW) (stG [(3, .slc (some (0, 0)) 8 8 1), (4, .int .u64 u)] (hL [(0, .cells [.int .u8 b0, .int .u8 b1, .int .u8 b2, .int .u8 b3, .int .u8 b4, .int .u8 b5, .int .u8 b6, .int .u8 b7])]) 1)
    []
    [([((decide (u ≥ (128 : Int))), true)],
      [((128 : Int) ≠ (0 : Int))],
      .to .normal (stG [(3, .slc (some (0, 0)) 9 9 1), (4, .int .u64 (IntKind.u64.wrap (u.tdiv (128 : Int))))] (hL [(0, .cells [.int .u8 b0, .int .u8 b1, .int .u8 b2, .int .u8 b3, .int .u8 b4, .int .u8 b5, .int .u8 b6, .int .u8 b7, .int .u8 (IntKind.u8.wrap (IntKind.u64.wrap (u.tmod (128 : Int) + (128 : Int))))])]) 1)),
    ([((decide (u ≥ (128 : Int))), false)],
      [],
      .to (.exit 0) (stG [(3, .slc (some (0, 0)) 8 8 1), (4, .int .u64 u)] (hL [(0, .cells [.int .u8 b0, .int .u8 b1, .int .u8 b2, .int .u8 b3, .int .u8 b4, .int .u8 b5, .int .u8 b6, .int .u8 b7])]) 1))]
  := by unfold RunIs; kernel_rfl
theorem eW_8 (u : Int) (b0 b1 b2 b3 b4 b5 b6 b7 : Int) : RunIs Try.prog cs0 [] 1000 0 Try.f63 [] (endW) (stG [(3, .slc (some (0, 0)) 8 8 1), (4, .int .u64 u)] (hL [(0, .cells [.int .u8 b0, .int .u8 b1, .int .u8 b2, .int .u8 b3, .int .u8 b4, .int .u8 b5, .int .u8 b6, .int .u8 b7])]) 1)
    []
    [([],
      [],
      .ret (.str ([UInt8.ofNat b0.toNat, UInt8.ofNat b1.toNat, UInt8.ofNat b2.toNat, UInt8.ofNat b3.toNat, UInt8.ofNat b4.toNat, UInt8.ofNat b5.toNat, UInt8.ofNat b6.toNat, UInt8.ofNat b7.toNat, UInt8.ofNat (IntKind.u8.wrap u).toNat])) (hL []) 0)]
  := by unfold RunIs; kernel_rfl
theorem rW_9 (u : Int) (b0 b1 b2 b3 b4 b5 b6 b7 b8 : Int) : RunIs Try.prog cs0 [(9, .split)] 1000 0 Try.f63 [3, 4] (bdW) (stG [(3, .slc (some (0, 0)) 9 9 1), (4, .int .u64 u)] (hL [(0, .cells [.int .u8 b0, .int .u8 b1, .int .u8 b2, .int .u8 b3, .int .u8 b4, .int .u8 b5, .int .u8 b6, .int .u8 b7, .int .u8 b8])]) 1)
    []
    [([((decide (u ≥ (128 : Int))), true)],
      [((128 : Int) ≠ (0 : Int))],
      .to .normal (stG [(3, .slc (some (0, 0)) 10 10 1), (4, .int .u64 (IntKind.u64.wrap (u.tdiv (128 : Int))))] (hL [(0, .cells [.int .u8 b0, .int .u8 b1, .int .u8 b2, .int .u8 b3, .int .u8 b4, .int .u8 b5, .int .u8 b6, .int .u8 b7, .int .u8 b8, .int .u8 (IntKind.u8.wrap (IntKind.u64.wrap (u.tmod (128 : Int) + (128 : Int))))])]) 1)),
    ([((decide (u ≥ (128 : Int))), false)],
      [],
      .to (.exit 0) (stG [(3, .slc (some (0, 0)) 9 9 1), (4, .int .u64 u)] (hL [(0, .cells [.int .u8 b0, .int .u8 b1, .int .u8 b2, .int .u8 b3, .int .u8 b4, .int .u8 b5, .int .u8 b6, .int .u8 b7, .int .u8 b8])]) 1))]
  := by unfold RunIs; kernel_rfl
theorem eW_9 (u : Int) (b0 b1 b2 b3 b4 b5 b6 b7 b8 : Int) : RunIs Try.prog cs0 [] 1000 0 Try.f63 [] (endW) (stG [(3, .slc (some (0, 0)) 9 9 1), (4, .int .u64 u)] (hL [(0, .cells [.int .u8 b0, .int .u8 b1, .int .u8 b2, .int .u8 b3, .int .u8 b4, .int .u8 b5, .int .u8 b6, .int .u8 b7, .int .u8 b8])]) 1)
    []
    [([],
      [],
      .ret (.str ([UInt8.ofNat b0.toNat, UInt8.ofNat b1.toNat, UInt8.ofNat b2.toNat, UInt8.ofNat b3.toNat, UInt8.ofNat b4.toNat, UInt8.ofNat b5.toNat, UInt8.ofNat b6.toNat, UInt8.ofNat b7.toNat, UInt8.ofNat b8.toNat, UInt8.ofNat (IntKind.u8.wrap u).toNat])) (hL []) 0)]
  := by unfold RunIs; kernel_rfl
end Go.Proofs.Ytadejpmecljjpaa
namespace Go.Proofs.Ytadejpmecljjpaa
open Go Go.Eng
def varL : Nat → Nat → List UInt8
  | 0, u => [UInt8.ofNat u]
  | k + 1, u => if 128 ≤ u then UInt8.ofNat (u % 128 + 128) :: varL k (u / 128) else [UInt8.ofNat u]
def varS (x : Int) : List UInt8 := varL 9 (IntKind.u64.wrap x).toNat
def toB (b : Int) : UInt8 := UInt8.ofNat b.toNat
def SV (bs : List Int) (u : Int) : St := match bs with
  | [] => stG [(3, .slc none 0 0 0), (4, .int .u64 u)] (hL []) 0
  | bs => stG [(3, .slc (some (0, 0)) bs.length bs.length 1), (4, .int .u64 u)] (hL [(0, .cells (bs.map (.int .u8)))]) 1
def SW (bs : List Int) (u : Int) : St := stG [(3, .slc (some (0, 0)) bs.length bs.length 1), (4, .int .u64 u)] (hL [(0, .cells (bs.map (.int .u8)))]) 1
def nbV (u : Int) : Int := IntKind.u8.wrap ↑(BitVec.ofInt 8 (IntKind.u8.wrap u) ||| BitVec.ofInt 8 128).toNat
def nbW (u : Int) : Int := IntKind.u8.wrap (IntKind.u64.wrap (u.tmod 128 + 128))
theorem stepV (u : Int) : ∀ bs : List Int, bs.length ≤ 9 → RunIs Try.prog cs0 [(8, .split)] 1000 0 Try.f82 [3, 4] bdV (SV bs u) [] [([(decide (u ≥ (128 : Int)), true)], [], .to .normal (SV (bs ++ [nbV u]) (u.fdiv 128))), ([(decide (u ≥ (128 : Int)), false)], [], .to (.exit 0) (SV bs u))]
  | [], _ => rV_0 u
  | [a], _ => rV_1 u a
  | [a, b], _ => rV_2 u a b
  | [a, b, c], _ => rV_3 u a b c
  | [a, b, c, d], _ => rV_4 u a b c d
  | [a, b, c, d, e], _ => rV_5 u a b c d e
  | [a, b, c, d, e, f], _ => rV_6 u a b c d e f
  | [a, b, c, d, e, f, g], _ => rV_7 u a b c d e f g
  | [a, b, c, d, e, f, g, h], _ => rV_8 u a b c d e f g h
  | [a, b, c, d, e, f, g, h, i], _ => rV_9 u a b c d e f g h i
  | _ :: _ :: _ :: _ :: _ :: _ :: _ :: _ :: _ :: _ :: _, h => by simp only [List.length_cons] at h; omega
theorem endV_is (u : Int) : ∀ bs : List Int, bs.length ≤ 9 → ∃ h n, RunIs Try.prog cs0 [] 1000 0 Try.f82 [] endV (SV bs u) [] [([], [], .ret (.str (bs.map toB ++ [toB (IntKind.u8.wrap u)])) h n)]
  | [], _ => ⟨_, _, eV_0 u⟩
  | [a], _ => ⟨_, _, eV_1 u a⟩
  | [a, b], _ => ⟨_, _, eV_2 u a b⟩
  | [a, b, c], _ => ⟨_, _, eV_3 u a b c⟩
  | [a, b, c, d], _ => ⟨_, _, eV_4 u a b c d⟩
  | [a, b, c, d, e], _ => ⟨_, _, eV_5 u a b c d e⟩
  | [a, b, c, d, e, f], _ => ⟨_, _, eV_6 u a b c d e f⟩
  | [a, b, c, d, e, f, g], _ => ⟨_, _, eV_7 u a b c d e f g⟩
  | [a, b, c, d, e, f, g, h], _ => ⟨_, _, eV_8 u a b c d e f g h⟩
  | [a, b, c, d, e, f, g, h, i], _ => ⟨_, _, eV_9 u a b c d e f g h i⟩
  | _ :: _ :: _ :: _ :: _ :: _ :: _ :: _ :: _ :: _ :: _, h => by simp only [List.length_cons] at h; omega
theorem stepW (u : Int) : ∀ bs : List Int, bs.length ≤ 9 → RunIs Try.prog cs0 [(9, .split)] 1000 0 Try.f63 [3, 4] bdW (SW bs u) [] [([(decide (u ≥ (128 : Int)), true)], [(128 : Int) ≠ 0], .to .normal (SW (bs ++ [nbW u]) (IntKind.u64.wrap (u.tdiv 128)))), ([(decide (u ≥ (128 : Int)), false)], [], .to (.exit 0) (SW bs u))]
  | [], _ => rW_0 u
  | [a], _ => rW_1 u a
  | [a, b], _ => rW_2 u a b
  | [a, b, c], _ => rW_3 u a b c
  | [a, b, c, d], _ => rW_4 u a b c d
  | [a, b, c, d, e], _ => rW_5 u a b c d e
  | [a, b, c, d, e, f], _ => rW_6 u a b c d e f
  | [a, b, c, d, e, f, g], _ => rW_7 u a b c d e f g
  | [a, b, c, d, e, f, g, h], _ => rW_8 u a b c d e f g h
  | [a, b, c, d, e, f, g, h, i], _ => rW_9 u a b c d e f g h i
  | _ :: _ :: _ :: _ :: _ :: _ :: _ :: _ :: _ :: _ :: _, h => by simp only [List.length_cons] at h; omega
theorem endW_is (u : Int) : ∀ bs : List Int, bs.length ≤ 9 → ∃ h n, RunIs Try.prog cs0 [] 1000 0 Try.f63 [] endW (SW bs u) [] [([], [], .ret (.str (bs.map toB ++ [toB (IntKind.u8.wrap u)])) h n)]
  | [], _ => ⟨_, _, eW_0 u⟩
  | [a], _ => ⟨_, _, eW_1 u a⟩
  | [a, b], _ => ⟨_, _, eW_2 u a b⟩
  | [a, b, c], _ => ⟨_, _, eW_3 u a b c⟩
  | [a, b, c, d], _ => ⟨_, _, eW_4 u a b c d⟩
  | [a, b, c, d, e], _ => ⟨_, _, eW_5 u a b c d e⟩
  | [a, b, c, d, e, f], _ => ⟨_, _, eW_6 u a b c d e f⟩
  | [a, b, c, d, e, f, g], _ => ⟨_, _, eW_7 u a b c d e f g⟩
  | [a, b, c, d, e, f, g, h], _ => ⟨_, _, eW_8 u a b c d e f g h⟩
  | [a, b, c, d, e, f, g, h, i], _ => ⟨_, _, eW_9 u a b c d e f g h i⟩
  | _ :: _ :: _ :: _ :: _ :: _ :: _ :: _ :: _ :: _ :: _, h => by simp only [List.length_cons] at h; omega
theorem u8_wrap (x : Int) : IntKind.u8.wrap x = x % 256 := by
  show Int.emod x 256 = x % 256
  rfl
theorem u64_wrap (x : Int) : IntKind.u64.wrap x = x % 18446744073709551616 := by
  show Int.emod x 18446744073709551616 = _
  rfl
theorem or128 : ∀ n : Nat, n < 256 → ((BitVec.ofInt 8 (n : Int) ||| BitVec.ofInt 8 128).toNat) = n % 128 + 128 := by decide +kernel
theorem toB_V (u : Nat) : toB (nbV (u : Int)) = UInt8.ofNat (u % 128 + 128) := by
  unfold toB nbV
  rw [u8_wrap (u : Int)]
  have h1 : ((u : Int) % 256) = ((u % 256 : Nat) : Int) := by omega
  rw [h1, or128 _ (by omega), u8_wrap]
  have : (((u % 256 % 128 + 128 : Nat) : Int) % 256).toNat = u % 128 + 128 := by omega
  rw [this]
theorem toB_W (u : Nat) : toB (nbW (u : Int)) = UInt8.ofNat (u % 128 + 128) := by
  unfold toB nbW
  rw [u8_wrap, u64_wrap]
  have h0 : (u : Int).tmod 128 = ((u % 128 : Nat) : Int) := by rw [Int.tmod_eq_emod_of_nonneg (by omega)]; omega
  rw [h0]
  have : ((((u % 128 : Nat) : Int) + 128) % 18446744073709551616 % 256).toNat = u % 128 + 128 := by omega
  rw [this]
theorem toB_end (u : Nat) : toB (IntKind.u8.wrap (u : Int)) = UInt8.ofNat u := by
  unfold toB
  rw [u8_wrap]
  have : ((u : Int) % 256).toNat = u % 256 := by omega
  rw [this]
  apply UInt8.toNat_inj.1
  simp
theorem fdiv128 (u : Nat) : (u : Int).fdiv 128 = ((u / 128 : Nat) : Int) := by
  rw [Int.fdiv_eq_ediv_of_nonneg _ (by omega)]; omega
theorem tdiv128 (u : Nat) (h : u < 18446744073709551616) : IntKind.u64.wrap ((u : Int).tdiv 128) = ((u / 128 : Nat) : Int) := by
  rw [Int.tdiv_eq_ediv_of_nonneg (by omega), u64_wrap]; omega
def loopQ (sf : List Int → Int → St) (r : List UInt8) (y : Exit) (s' : St) : Prop := y = .exit 0 ∧ ∃ bs u, normG 0 [3, 4] s' = some (sf bs u) ∧ bs.length ≤ 9 ∧ bs.map toB ++ [toB (IntKind.u8.wrap u)] = r
theorem loopV (u : Nat) (hu : u < 18446744073709551616) : TG Try.prog 0 Try.f82.ntmps (inner lpV) (SV [] u) (loopQ SV (varL 9 u)) := by
  refine TG_loopI X0 mo [3, 4] anyR (fun k s => ∃ bs v, k = 9 - bs.length ∧ bs.length ≤ 9 ∧ s = SV bs (v : Nat) ∧ v < 2 * 128 ^ (9 - bs.length) ∧ bs.map toB ++ varL (9 - bs.length) v = varL 9 u) (F := 1000) (fn := Try.f82) (by kernel_rfl) (by kernel_rfl) ?_ 9 ⟨[], u, rfl, by simp, rfl, by simpa using hu, rfl⟩
  rintro k s ⟨bs, v, hk, hb, rfl, hv, he⟩
  refine ⟨_, _, _, stepV v bs hb, fun g hg hc => ?_⟩
  simp only [List.mem_cons, List.not_mem_nil, or_false] at hg
  rcases hg with rfl | rfl
  · have h1 : decide ((v : Int) ≥ 128) = true := hc _ (List.mem_singleton.2 rfl)
    have h1 : 128 ≤ v := by have := of_decide_eq_true h1; omega
    have hlt : bs.length < 9 := by
      rcases Nat.lt_or_ge bs.length 9 with h | h
      · exact h
      · have : 9 - bs.length = 0 := by omega
        rw [this] at hv; omega
    obtain ⟨j, hj⟩ : ∃ j, 9 - bs.length = j + 1 := ⟨8 - bs.length, by omega⟩
    refine ⟨by simp, 9 - (bs.length + 1), by omega, bs ++ [nbV v], v / 128, by simp, by simp; omega, by rw [fdiv128], ?_, ?_⟩
    · have e2 : 9 - (bs ++ [nbV v]).length = j := by simp; omega
      rw [e2]
      rw [hj, Nat.pow_succ] at hv
      omega
    · have e2 : 9 - (bs ++ [nbV v]).length = j := by simp; omega
      rw [e2]
      rw [hj] at he
      rw [← he]
      simp only [varL, if_pos h1, List.map_append, List.map_cons, List.map_nil, toB_V, List.append_assoc, List.cons_append, List.nil_append]
  · have h1 : decide ((v : Int) ≥ 128) = false := hc _ (List.mem_singleton.2 rfl)
    have h1 : ¬ 128 ≤ v := by have := of_decide_eq_false h1; omega
    refine ⟨by simp, fun s' hs' => ⟨rfl, bs, v, hs', hb, ?_⟩⟩
    rw [← he, toB_end]
    cases h : 9 - bs.length with
    | zero => rfl
    | succ j => simp only [varL, if_neg h1]
theorem loopW (u : Nat) (hu : u < 18446744073709551616) : TG Try.prog 0 Try.f63.ntmps (inner lpW) (SW [] u) (loopQ SW (varL 9 u)) := by
  refine TG_loopI X0 mo [3, 4] anyR (fun k s => ∃ bs v, k = 9 - bs.length ∧ bs.length ≤ 9 ∧ s = SW bs (v : Nat) ∧ v < 2 * 128 ^ (9 - bs.length) ∧ bs.map toB ++ varL (9 - bs.length) v = varL 9 u) (F := 1000) (fn := Try.f63) (by kernel_rfl) (by kernel_rfl) ?_ 9 ⟨[], u, rfl, by simp, rfl, by simpa using hu, rfl⟩
  rintro k s ⟨bs, v, hk, hb, rfl, hv, he⟩
  refine ⟨_, _, _, stepW v bs hb, fun g hg hc => ?_⟩
  simp only [List.mem_cons, List.not_mem_nil, or_false] at hg
  have hvs : v < 18446744073709551616 := by
    have : 128 ^ (9 - bs.length) ≤ 128 ^ 9 := Nat.pow_le_pow_right (by omega) (by omega)
    omega
  rcases hg with rfl | rfl
  · have h1 : decide ((v : Int) ≥ 128) = true := hc _ (List.mem_singleton.2 rfl)
    have h1 : 128 ≤ v := by have := of_decide_eq_true h1; omega
    have hlt : bs.length < 9 := by
      rcases Nat.lt_or_ge bs.length 9 with h | h
      · exact h
      · have : 9 - bs.length = 0 := by omega
        rw [this] at hv; omega
    obtain ⟨j, hj⟩ : ∃ j, 9 - bs.length = j + 1 := ⟨8 - bs.length, by omega⟩
    refine ⟨by simp, 9 - (bs.length + 1), by omega, bs ++ [nbW v], v / 128, by simp, by simp; omega, by rw [tdiv128 v hvs], ?_, ?_⟩
    · have e2 : 9 - (bs ++ [nbW v]).length = j := by simp; omega
      rw [e2]
      rw [hj, Nat.pow_succ] at hv
      omega
    · have e2 : 9 - (bs ++ [nbW v]).length = j := by simp; omega
      rw [e2]
      rw [hj] at he
      rw [← he]
      simp only [varL, if_pos h1, List.map_append, List.map_cons, List.map_nil, toB_W, List.append_assoc, List.cons_append, List.nil_append]
  · have h1 : decide ((v : Int) ≥ 128) = false := hc _ (List.mem_singleton.2 rfl)
    have h1 : ¬ 128 ≤ v := by have := of_decide_eq_false h1; omega
    refine ⟨by simp, fun s' hs' => ⟨rfl, bs, v, hs', hb, ?_⟩⟩
    rw [← he, toB_end]
    cases h : 9 - bs.length with
    | zero => rfl
    | succ j => simp only [varL, if_neg h1]
theorem u64_nat (x : Int) : IntKind.u64.wrap x = ((IntKind.u64.wrap x).toNat : Int) ∧ (IntKind.u64.wrap x).toNat < 18446744073709551616 := by
  rw [u64_wrap]; omega
theorem tgV (x : Int) : TG Try.prog 0 Try.f82.ntmps cdV (startSt [.int .i64 x] .nil 0) (RetG Try.prog 0 Try.f82 fun a _ _ => a = .str (varS x)) := by
  refine TG_isN1 3 X0 mo (by kernel_rfl) (rV_in x) (by simp) ?_
  refine TG_seq' (by kernel_rfl) ?_
  refine TG_block (i := 0) (by kernel_rfl) ?_
  have e : stG [(3, .slc none 0 0 0), (4, .int .u64 (IntKind.u64.wrap x))] (hL []) 0 = SV [] ((IntKind.u64.wrap x).toNat : Int) := by rw [← (u64_nat x).1]; rfl
  rw [e]
  refine TG_mono (loopV _ (u64_nat x).2) ?_
  rintro y s' ⟨rfl, bs, u, hs, hb, hr⟩
  obtain ⟨h, n, hi⟩ := endV_is u bs hb
  simp only [outOf, if_pos]
  refine TG_norm hs (TG_ret X0 mo _ (by kernel_rfl) hi fun g hg _ => ?_)
  rw [List.mem_singleton] at hg; subst hg
  exact ⟨by simp, _, _, _, rfl, by rw [hr]; rfl⟩
theorem tgW (x : Int) : TG Try.prog 0 Try.f63.ntmps cdW (startSt [.int .i64 x] .nil 0) (RetG Try.prog 0 Try.f63 fun a _ _ => a = .str (varS x)) := by
  refine TG_isN1 3 X0 mo (by kernel_rfl) (rW_in x) (by simp) ?_
  refine TG_seq' (by kernel_rfl) ?_
  refine TG_block (i := 0) (by kernel_rfl) ?_
  have e : stG [(3, .slc (some (0, 0)) 0 0 1), (4, .int .u64 (IntKind.u64.wrap x))] (hL [(0, .cells [])]) 1 = SW [] ((IntKind.u64.wrap x).toNat : Int) := by rw [← (u64_nat x).1]; rfl
  rw [e]
  refine TG_mono (loopW _ (u64_nat x).2) ?_
  rintro y s' ⟨rfl, bs, u, hs, hb, hr⟩
  obtain ⟨h, n, hi⟩ := endW_is u bs hb
  simp only [outOf, if_pos]
  refine TG_norm hs (TG_ret X0 mo _ (by kernel_rfl) hi fun g hg _ => ?_)
  rw [List.mem_singleton] at hg; subst hg
  exact ⟨by simp, _, _, _, rfl, by rw [hr]; rfl⟩
def specVar : List V → Option (List Prop × V)
  | [.int .i64 x] => some ([], .str (varS x))
  | _ => none
theorem one_V : OneW Try.prog 82 (pureW specVar) := by
  refine pureW_ok (Nat.le_of_ble_eq_true (by kernel_rfl)) fun args A v e => ?_
  unfold specVar at e
  split at e
  · rename_i x
    simp only [Option.some.injEq, Prod.mk.injEq] at e; obtain ⟨rfl, rfl⟩ := e
    exact ⟨rfl, rfl, fun _ => pure_calls mo po Try.func82 (by kernel_rfl) (by kernel_rfl) rfl (tgV x)⟩
  · cases e
theorem one_W : OneW Try.prog 63 (pureW specVar) := by
  refine pureW_ok (Nat.le_of_ble_eq_true (by kernel_rfl)) fun args A v e => ?_
  unfold specVar at e
  split at e
  · rename_i x
    simp only [Option.some.injEq, Prod.mk.injEq] at e; obtain ⟨rfl, rfl⟩ := e
    exact ⟨rfl, rfl, fun _ => pure_calls mo po Try.func63 (by kernel_rfl) (by kernel_rfl) rfl (tgW x)⟩
  · cases e
noncomputable abbrev W1 : CtrW := addW 82 (pureW specVar) (addW 63 (pureW specVar) W0)
theorem W1_ok : CtrWOk Try.prog W1 := addW_ok one_V (addW_ok one_W W0_ok)
noncomputable abbrev X1 : CX Try.prog := CX.of mo po W1_ok H0 1000 40
end Go.Proofs.Ytadejpmecljjpaa
namespace Go.Proofs.Ytadejpmecljjpaa
open Go Go.Eng
end Go.Proofs.Ytadejpmecljjpaa
namespace Go.Proofs.Ytadejpmecljjpaa
open Go Go.Eng
def numsS (l : List Int) : List UInt8 := l.flatMap varS
theorem varL_len : ∀ k u, (varL k u).length ≤ k + 1
  | 0, u => by simp [varL]
  | k + 1, u => by
    simp only [varL]
    split
    · have := varL_len k (u / 128); simp only [List.length_cons]; omega
    · simp
theorem varS_len (x : Int) : (varS x).length ≤ 10 := varL_len 9 _
def specN : List V → Tr O → Option (List Prop × V)
  | [v], h => match rowOf h v with
    | some (l, ks) => some ([l ≤ ks.length, l ≤ 1000], .str (numsS (ks.take l)))
    | none => none
  | _, _ => none
noncomputable abbrev W2 : CtrW := addW 56 (readW specN) W1
noncomputable abbrev cs2 : CallS := callX Try.prog W2 H0 1000 40
end Go.Proofs.Ytadejpmecljjpaa
