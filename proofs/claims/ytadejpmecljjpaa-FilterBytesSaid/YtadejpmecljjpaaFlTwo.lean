/- Filter laws anew, part E: the bytes of a filter, both ways: runs. No conditions. -/
import Derived.Test.YtadejpmecljjpaaFlOne
set_option linter.unusedVariables false
set_option linter.unusedSimpArgs false
set_option linter.unusedSectionVars false
namespace Go.Proofs.Ytadejpmecljjpaa
open Go Go.Eng
noncomputable abbrev cdB : Code := bodyOf Try.f37
noncomputable abbrev cdR : Code := bodyOf Try.f41
noncomputable abbrev a1R : Code := seqL (tailN 2 cdR)
noncomputable abbrev lp1R : Code := seqR a1R
noncomputable abbrev bd1R : Code := inner (inner lp1R)
noncomputable abbrev a2R : Code := seqL (tailN 4 cdR)
noncomputable abbrev lp2R : Code := seqR a2R
noncomputable abbrev bd2R : Code := inner (inner lp2R)
noncomputable abbrev endR : Code := seqR (tailN 4 cdR)
section
variable (nK nC : Bool) (k r d v : Int) (lK cK zK lC cC zC : Nat) (ks cs : List Int)
def boxB : O := .cells [.int .i64 k, .int .i64 r, sK nK lK cK zK, .int .i64 d, .int .i64 v, sC nC lC cC zC]
def hB : Tr O := hL ((match nK with | true => [] | false => [(0, .ints .i64 ks)]) ++ ((match nC with | true => [] | false => [(1, .ints .i64 cs)]) ++ [(2, boxB nK nC k r d v lK cK zK lC cC zC)]))
def SB (l : List (Nat × V)) : St := stG ((1, .ptr (some (2, 0))) :: l) (hB nK nC k r d v lK cK zK lC cC zC ks cs) 3
end
theorem rB_TT (k r d v : Int) (lK cK zK lC cC zC : Nat) (ks cs : List Int) : RunIs Try.prog cs2 [] 1000 2 Try.f37 [] (cdB) (startSt [FV k r (sK true lK cK zK) d v (sC true lC cC zC)] (hF true true ks cs) 2)
    [.slc none 0 cK zK, .int .i64 d, .int .i64 d, .int .i64 v, .int .i64 v, .slc none 0 cC zC, .slc none 0 cC zC, .int .i64 0, .int .i64 0, .slc none 0 cC zC, .slc none 0 cC zC, .slc none 0 cC zC]
    [([],
      [((3 : Nat) ≤ [k, r, (0 : Int)].length), ((3 : Nat) ≤ (1000 : Nat)), ((0 : Nat) ≤ (0 : Nat)), ((0 : Nat) ≤ (1000 : Nat)), ((numsS (List.take (3 : Nat) [k, r, (0 : Int)])).length + (0 : Nat) ≤ (9223372036854775807 : Nat)), ((3 : Nat) ≤ [d, v, (0 : Int)].length), ((3 : Nat) ≤ (1000 : Nat)), ((numsS (List.take (3 : Nat) [k, r, (0 : Int)]) ++ numsS (List.take (0 : Nat) [])).length + (numsS (List.take (3 : Nat) [d, v, (0 : Int)])).length ≤ (9223372036854775807 : Nat)), ((0 : Nat) ≤ (0 : Nat)), ((0 : Nat) ≤ (1000 : Nat)), ((numsS (List.take (3 : Nat) [k, r, (0 : Int)]) ++ numsS (List.take (0 : Nat) []) ++ numsS (List.take (3 : Nat) [d, v, (0 : Int)])).length + (0 : Nat) ≤ (9223372036854775807 : Nat))],
      .ret (.str (numsS (List.take (3 : Nat) [k, r, (0 : Int)]) ++ numsS (List.take (0 : Nat) []) ++ numsS (List.take (3 : Nat) [d, v, (0 : Int)]) ++ numsS (List.take (0 : Nat) []))) (hL []) 2)]
  := by unfold RunIs; kernel_rfl
theorem rR1_TT (k r d v : Int) (lK cK zK lC cC zC : Nat) (ks cs : List Int) : RunIs Try.prog cs2 [] 1000 2 Try.f41 [1, 3] (headN 2 cdR) (startSt [FV k r (sK true lK cK zK) d v (sC true lC cC zC)] (hF true true ks cs) 2)
    [.int .i64 r, .slc none 0 cK zK, .slc none 0 cK zK, .int .i64 0, .int .i64 0]
    [([],
      [((varS k).length + (varS r).length ≤ (9223372036854775807 : Nat)), ((varS k ++ varS r).length + (1 : Nat) ≤ (9223372036854775807 : Nat))],
      .to .normal (stG [(1, .ptr (some (2, 0))), (3, .str (varS k ++ varS r ++ varS (0 : Int)))] (hL [(2, .cells [.int .i64 k, .int .i64 r, .slc none 0 cK zK, .int .i64 d, .int .i64 v, .slc none 0 cC zC])]) 3))]
  := by unfold RunIs; kernel_rfl
theorem rR2_TT (k r d v : Int) (lK cK zK lC cC zC : Nat) (ks cs : List Int) (acc : List UInt8) : RunIs Try.prog cs2 [] 1000 2 Try.f41 [1, 3] (a1R) (SB true true k r d v lK cK zK lC cC zC ks cs [(3, .str acc)])
    []
    [([],
      [],
      .to .normal (stG [(1, .ptr (some (2, 0))), (3, .str (acc))] (hL [(2, .cells [.int .i64 k, .int .i64 r, .slc none 0 cK zK, .int .i64 d, .int .i64 v, .slc none 0 cC zC])]) 3))]
  := by unfold RunIs; kernel_rfl
theorem rR4_TT (k r d v : Int) (lK cK zK lC cC zC : Nat) (ks cs : List Int) (acc : List UInt8) : RunIs Try.prog cs2 [] 1000 2 Try.f41 [1, 3] (headN 1 (tailN 3 cdR)) (SB true true k r d v lK cK zK lC cC zC ks cs [(3, .str acc)])
    [.int .i64 v, .slc none 0 cC zC, .slc none 0 cC zC, .int .i64 0, .int .i64 0]
    [([],
      [(acc.length + (varS d).length ≤ (9223372036854775807 : Nat)), ((acc ++ varS d).length + (varS v).length ≤ (9223372036854775807 : Nat)), ((acc ++ varS d ++ varS v).length + (1 : Nat) ≤ (9223372036854775807 : Nat))],
      .to .normal (stG [(1, .ptr (some (2, 0))), (3, .str (acc ++ varS d ++ varS v ++ varS (0 : Int)))] (hL [(2, .cells [.int .i64 k, .int .i64 r, .slc none 0 cK zK, .int .i64 d, .int .i64 v, .slc none 0 cC zC])]) 3))]
  := by unfold RunIs; kernel_rfl
theorem rR5_TT (k r d v : Int) (lK cK zK lC cC zC : Nat) (ks cs : List Int) (acc : List UInt8) : RunIs Try.prog cs2 [] 1000 2 Try.f41 [1, 3] (a2R) (SB true true k r d v lK cK zK lC cC zC ks cs [(3, .str acc)])
    []
    [([],
      [],
      .to .normal (stG [(1, .ptr (some (2, 0))), (3, .str (acc))] (hL [(2, .cells [.int .i64 k, .int .i64 r, .slc none 0 cK zK, .int .i64 d, .int .i64 v, .slc none 0 cC zC])]) 3))]
  := by unfold RunIs; kernel_rfl
theorem rR7_TT (k r d v : Int) (lK cK zK lC cC zC : Nat) (ks cs : List Int) (acc : List UInt8) : RunIs Try.prog cs2 [] 1000 2 Try.f41 [] (endR) (SB true true k r d v lK cK zK lC cC zC ks cs [(3, .str acc)])
    []
    [([],
      [],
      .ret (.str (acc)) (hL []) 2)]
  := by unfold RunIs; kernel_rfl
theorem rB_TF (k r d v : Int) (lK cK zK lC cC zC : Nat) (ks cs : List Int) : RunIs Try.prog cs2 [] 1000 2 Try.f37 [] (cdB) (startSt [FV k r (sK true lK cK zK) d v (sC false lC cC zC)] (hF true false ks cs) 2)
    [.slc none 0 cK zK, .int .i64 d, .int .i64 d, .int .i64 v, .int .i64 v, .slc (some (1, 0)) lC cC 1, .slc (some (1, 0)) lC cC 1, .int .i64 (↑lC), .int .i64 (↑lC), .slc (some (1, 0)) lC cC 1, .slc (some (1, 0)) lC cC 1, .slc (some (1, 0)) lC cC 1]
    [([],
      [((3 : Nat) ≤ [k, r, (0 : Int)].length), ((3 : Nat) ≤ (1000 : Nat)), ((0 : Nat) ≤ (0 : Nat)), ((0 : Nat) ≤ (1000 : Nat)), ((numsS (List.take (3 : Nat) [k, r, (0 : Int)])).length + (0 : Nat) ≤ (9223372036854775807 : Nat)), ((3 : Nat) ≤ [d, v, ↑lC].length), ((3 : Nat) ≤ (1000 : Nat)), ((numsS (List.take (3 : Nat) [k, r, (0 : Int)]) ++ numsS (List.take (0 : Nat) [])).length + (numsS (List.take (3 : Nat) [d, v, ↑lC])).length ≤ (9223372036854775807 : Nat)), (lC ≤ cs.length), (lC ≤ (1000 : Nat)), ((numsS (List.take (3 : Nat) [k, r, (0 : Int)]) ++ numsS (List.take (0 : Nat) []) ++ numsS (List.take (3 : Nat) [d, v, ↑lC])).length + (numsS (List.take lC cs)).length ≤ (9223372036854775807 : Nat))],
      .ret (.str (numsS (List.take (3 : Nat) [k, r, (0 : Int)]) ++ numsS (List.take (0 : Nat) []) ++ numsS (List.take (3 : Nat) [d, v, ↑lC]) ++ numsS (List.take lC cs))) (hL [(1, .ints .i64 (cs))]) 2)]
  := by unfold RunIs; kernel_rfl
theorem rR1_TF (k r d v : Int) (lK cK zK lC cC zC : Nat) (ks cs : List Int) : RunIs Try.prog cs2 [] 1000 2 Try.f41 [1, 3] (headN 2 cdR) (startSt [FV k r (sK true lK cK zK) d v (sC false lC cC zC)] (hF true false ks cs) 2)
    [.int .i64 r, .slc none 0 cK zK, .slc none 0 cK zK, .int .i64 0, .int .i64 0]
    [([],
      [((varS k).length + (varS r).length ≤ (9223372036854775807 : Nat)), ((varS k ++ varS r).length + (1 : Nat) ≤ (9223372036854775807 : Nat))],
      .to .normal (stG [(1, .ptr (some (2, 0))), (3, .str (varS k ++ varS r ++ varS (0 : Int)))] (hL [(1, .ints .i64 (cs)), (2, .cells [.int .i64 k, .int .i64 r, .slc none 0 cK zK, .int .i64 d, .int .i64 v, .slc (some (1, 0)) lC cC 1])]) 3))]
  := by unfold RunIs; kernel_rfl
theorem rR2_TF (k r d v : Int) (lK cK zK lC cC zC : Nat) (ks cs : List Int) (acc : List UInt8) : RunIs Try.prog cs2 [] 1000 2 Try.f41 [1, 3] (a1R) (SB true false k r d v lK cK zK lC cC zC ks cs [(3, .str acc)])
    []
    [([],
      [],
      .to .normal (stG [(1, .ptr (some (2, 0))), (3, .str (acc))] (hL [(1, .ints .i64 (cs)), (2, .cells [.int .i64 k, .int .i64 r, .slc none 0 cK zK, .int .i64 d, .int .i64 v, .slc (some (1, 0)) lC cC 1])]) 3))]
  := by unfold RunIs; kernel_rfl
theorem rR4_TF (k r d v : Int) (lK cK zK lC cC zC : Nat) (ks cs : List Int) (acc : List UInt8) : RunIs Try.prog cs2 [] 1000 2 Try.f41 [1, 3] (headN 1 (tailN 3 cdR)) (SB true false k r d v lK cK zK lC cC zC ks cs [(3, .str acc)])
    [.int .i64 v, .slc (some (1, 0)) lC cC 1, .slc (some (1, 0)) lC cC 1, .int .i64 (↑lC), .int .i64 (↑lC)]
    [([],
      [(acc.length + (varS d).length ≤ (9223372036854775807 : Nat)), ((acc ++ varS d).length + (varS v).length ≤ (9223372036854775807 : Nat)), ((acc ++ varS d ++ varS v).length + (varS ↑lC).length ≤ (9223372036854775807 : Nat))],
      .to .normal (stG [(1, .ptr (some (2, 0))), (3, .str (acc ++ varS d ++ varS v ++ varS ↑lC))] (hL [(1, .ints .i64 (cs)), (2, .cells [.int .i64 k, .int .i64 r, .slc none 0 cK zK, .int .i64 d, .int .i64 v, .slc (some (1, 0)) lC cC 1])]) 3))]
  := by unfold RunIs; kernel_rfl
theorem rR5_TF (k r d v : Int) (lK cK zK lC cC zC : Nat) (ks cs : List Int) (acc : List UInt8) : RunIs Try.prog cs2 [] 1000 2 Try.f41 [1, 3, 5] (seqL a2R) (SB true false k r d v lK cK zK lC cC zC ks cs [(3, .str acc)])
    []
    [([],
      [],
      .to .normal (stG [(1, .ptr (some (2, 0))), (3, .str (acc)), (5, .int .i64 0)] (hL [(1, .ints .i64 (cs)), (2, .cells [.int .i64 k, .int .i64 r, .slc none 0 cK zK, .int .i64 d, .int .i64 v, .slc (some (1, 0)) lC cC 1])]) 3))]
  := by unfold RunIs; kernel_rfl
theorem rR6_TF (k r d v : Int) (lK cK zK lC cC zC : Nat) (ks cs : List Int) (acc : List UInt8) (i : Nat) : RunIs Try.prog cs2 [(51, .split), (53, .give (.int .i64 (Int.ofNat (i + 1))))] 1000 2 Try.f41 [1, 3, 5] (bd2R) (SB true false k r d v lK cK zK lC cC zC ks cs [(3, .str acc), (5, .int .i64 (Int.ofNat i))])
    []
    [([((decide (Int.ofNat i < ↑lC)), true)],
      [((0 : Int) ≤ Int.ofNat i ∧ Int.ofNat i < ↑lC), ((0 : Nat) + (Int.ofNat i).toNat * (1 : Nat) < cs.length), (acc.length + (varS (cs.getD ((0 : Nat) + (Int.ofNat i).toNat * (1 : Nat)) (0 : Int))).length ≤ (9223372036854775807 : Nat)), (V.int IntKind.i64 (IntKind.i64.wrap (Int.ofNat i + (1 : Int))) = V.int IntKind.i64 (Int.ofNat (i + (1 : Nat))))],
      .to .normal (stG [(1, .ptr (some (2, 0))), (3, .str (acc ++ varS (cs.getD ((0 : Nat) + (Int.ofNat i).toNat * (1 : Nat)) (0 : Int)))), (5, .int .i64 (Int.ofNat (i + (1 : Nat))))] (hL [(1, .ints .i64 (cs)), (2, .cells [.int .i64 k, .int .i64 r, .slc none 0 cK zK, .int .i64 d, .int .i64 v, .slc (some (1, 0)) lC cC 1])]) 3)),
    ([((decide (Int.ofNat i < ↑lC)), false)],
      [],
      .to (.exit 2) (stG [(1, .ptr (some (2, 0))), (3, .str (acc)), (5, .int .i64 (Int.ofNat i))] (hL [(1, .ints .i64 (cs)), (2, .cells [.int .i64 k, .int .i64 r, .slc none 0 cK zK, .int .i64 d, .int .i64 v, .slc (some (1, 0)) lC cC 1])]) 3))]
  := by unfold RunIs; kernel_rfl
theorem rR7_TF (k r d v : Int) (lK cK zK lC cC zC : Nat) (ks cs : List Int) (acc : List UInt8) : RunIs Try.prog cs2 [] 1000 2 Try.f41 [] (endR) (SB true false k r d v lK cK zK lC cC zC ks cs [(3, .str acc)])
    []
    [([],
      [],
      .ret (.str (acc)) (hL [(1, .ints .i64 (cs))]) 2)]
  := by unfold RunIs; kernel_rfl
theorem rB_FT (k r d v : Int) (lK cK zK lC cC zC : Nat) (ks cs : List Int) : RunIs Try.prog cs2 [] 1000 2 Try.f37 [] (cdB) (startSt [FV k r (sK false lK cK zK) d v (sC true lC cC zC)] (hF false true ks cs) 2)
    [.slc (some (0, 0)) lK cK 1, .int .i64 d, .int .i64 d, .int .i64 v, .int .i64 v, .slc none 0 cC zC, .slc none 0 cC zC, .int .i64 0, .int .i64 0, .slc none 0 cC zC, .slc none 0 cC zC, .slc none 0 cC zC]
    [([],
      [((3 : Nat) ≤ [k, r, ↑lK].length), ((3 : Nat) ≤ (1000 : Nat)), (lK ≤ ks.length), (lK ≤ (1000 : Nat)), ((numsS (List.take (3 : Nat) [k, r, ↑lK])).length + (numsS (List.take lK ks)).length ≤ (9223372036854775807 : Nat)), ((3 : Nat) ≤ [d, v, (0 : Int)].length), ((3 : Nat) ≤ (1000 : Nat)), ((numsS (List.take (3 : Nat) [k, r, ↑lK]) ++ numsS (List.take lK ks)).length + (numsS (List.take (3 : Nat) [d, v, (0 : Int)])).length ≤ (9223372036854775807 : Nat)), ((0 : Nat) ≤ (0 : Nat)), ((0 : Nat) ≤ (1000 : Nat)), ((numsS (List.take (3 : Nat) [k, r, ↑lK]) ++ numsS (List.take lK ks) ++ numsS (List.take (3 : Nat) [d, v, (0 : Int)])).length + (0 : Nat) ≤ (9223372036854775807 : Nat))],
      .ret (.str (numsS (List.take (3 : Nat) [k, r, ↑lK]) ++ numsS (List.take lK ks) ++ numsS (List.take (3 : Nat) [d, v, (0 : Int)]) ++ numsS (List.take (0 : Nat) []))) (hL [(0, .ints .i64 (ks))]) 2)]
  := by unfold RunIs; kernel_rfl
theorem rR1_FT (k r d v : Int) (lK cK zK lC cC zC : Nat) (ks cs : List Int) : RunIs Try.prog cs2 [] 1000 2 Try.f41 [1, 3] (headN 2 cdR) (startSt [FV k r (sK false lK cK zK) d v (sC true lC cC zC)] (hF false true ks cs) 2)
    [.int .i64 r, .slc (some (0, 0)) lK cK 1, .slc (some (0, 0)) lK cK 1, .int .i64 (↑lK), .int .i64 (↑lK)]
    [([],
      [((varS k).length + (varS r).length ≤ (9223372036854775807 : Nat)), ((varS k ++ varS r).length + (varS ↑lK).length ≤ (9223372036854775807 : Nat))],
      .to .normal (stG [(1, .ptr (some (2, 0))), (3, .str (varS k ++ varS r ++ varS ↑lK))] (hL [(0, .ints .i64 (ks)), (2, .cells [.int .i64 k, .int .i64 r, .slc (some (0, 0)) lK cK 1, .int .i64 d, .int .i64 v, .slc none 0 cC zC])]) 3))]
  := by unfold RunIs; kernel_rfl
theorem rR2_FT (k r d v : Int) (lK cK zK lC cC zC : Nat) (ks cs : List Int) (acc : List UInt8) : RunIs Try.prog cs2 [] 1000 2 Try.f41 [1, 3, 4] (seqL a1R) (SB false true k r d v lK cK zK lC cC zC ks cs [(3, .str acc)])
    []
    [([],
      [],
      .to .normal (stG [(1, .ptr (some (2, 0))), (3, .str (acc)), (4, .int .i64 0)] (hL [(0, .ints .i64 (ks)), (2, .cells [.int .i64 k, .int .i64 r, .slc (some (0, 0)) lK cK 1, .int .i64 d, .int .i64 v, .slc none 0 cC zC])]) 3))]
  := by unfold RunIs; kernel_rfl
theorem rR3_FT (k r d v : Int) (lK cK zK lC cC zC : Nat) (ks cs : List Int) (acc : List UInt8) (i : Nat) : RunIs Try.prog cs2 [(22, .split), (24, .give (.int .i64 (Int.ofNat (i + 1))))] 1000 2 Try.f41 [1, 3, 4] (bd1R) (SB false true k r d v lK cK zK lC cC zC ks cs [(3, .str acc), (4, .int .i64 (Int.ofNat i))])
    []
    [([((decide (Int.ofNat i < ↑lK)), true)],
      [((0 : Int) ≤ Int.ofNat i ∧ Int.ofNat i < ↑lK), ((0 : Nat) + (Int.ofNat i).toNat * (1 : Nat) < ks.length), (acc.length + (varS (ks.getD ((0 : Nat) + (Int.ofNat i).toNat * (1 : Nat)) (0 : Int))).length ≤ (9223372036854775807 : Nat)), (V.int IntKind.i64 (IntKind.i64.wrap (Int.ofNat i + (1 : Int))) = V.int IntKind.i64 (Int.ofNat (i + (1 : Nat))))],
      .to .normal (stG [(1, .ptr (some (2, 0))), (3, .str (acc ++ varS (ks.getD ((0 : Nat) + (Int.ofNat i).toNat * (1 : Nat)) (0 : Int)))), (4, .int .i64 (Int.ofNat (i + (1 : Nat))))] (hL [(0, .ints .i64 (ks)), (2, .cells [.int .i64 k, .int .i64 r, .slc (some (0, 0)) lK cK 1, .int .i64 d, .int .i64 v, .slc none 0 cC zC])]) 3)),
    ([((decide (Int.ofNat i < ↑lK)), false)],
      [],
      .to (.exit 0) (stG [(1, .ptr (some (2, 0))), (3, .str (acc)), (4, .int .i64 (Int.ofNat i))] (hL [(0, .ints .i64 (ks)), (2, .cells [.int .i64 k, .int .i64 r, .slc (some (0, 0)) lK cK 1, .int .i64 d, .int .i64 v, .slc none 0 cC zC])]) 3))]
  := by unfold RunIs; kernel_rfl
theorem rR4_FT (k r d v : Int) (lK cK zK lC cC zC : Nat) (ks cs : List Int) (acc : List UInt8) : RunIs Try.prog cs2 [] 1000 2 Try.f41 [1, 3] (headN 1 (tailN 3 cdR)) (SB false true k r d v lK cK zK lC cC zC ks cs [(3, .str acc)])
    [.int .i64 v, .slc none 0 cC zC, .slc none 0 cC zC, .int .i64 0, .int .i64 0]
    [([],
      [(acc.length + (varS d).length ≤ (9223372036854775807 : Nat)), ((acc ++ varS d).length + (varS v).length ≤ (9223372036854775807 : Nat)), ((acc ++ varS d ++ varS v).length + (1 : Nat) ≤ (9223372036854775807 : Nat))],
      .to .normal (stG [(1, .ptr (some (2, 0))), (3, .str (acc ++ varS d ++ varS v ++ varS (0 : Int)))] (hL [(0, .ints .i64 (ks)), (2, .cells [.int .i64 k, .int .i64 r, .slc (some (0, 0)) lK cK 1, .int .i64 d, .int .i64 v, .slc none 0 cC zC])]) 3))]
  := by unfold RunIs; kernel_rfl
theorem rR5_FT (k r d v : Int) (lK cK zK lC cC zC : Nat) (ks cs : List Int) (acc : List UInt8) : RunIs Try.prog cs2 [] 1000 2 Try.f41 [1, 3] (a2R) (SB false true k r d v lK cK zK lC cC zC ks cs [(3, .str acc)])
    []
    [([],
      [],
      .to .normal (stG [(1, .ptr (some (2, 0))), (3, .str (acc))] (hL [(0, .ints .i64 (ks)), (2, .cells [.int .i64 k, .int .i64 r, .slc (some (0, 0)) lK cK 1, .int .i64 d, .int .i64 v, .slc none 0 cC zC])]) 3))]
  := by unfold RunIs; kernel_rfl
theorem rR7_FT (k r d v : Int) (lK cK zK lC cC zC : Nat) (ks cs : List Int) (acc : List UInt8) : RunIs Try.prog cs2 [] 1000 2 Try.f41 [] (endR) (SB false true k r d v lK cK zK lC cC zC ks cs [(3, .str acc)])
    []
    [([],
      [],
      .ret (.str (acc)) (hL [(0, .ints .i64 (ks))]) 2)]
  := by unfold RunIs; kernel_rfl
theorem rB_FF (k r d v : Int) (lK cK zK lC cC zC : Nat) (ks cs : List Int) : RunIs Try.prog cs2 [] 1000 2 Try.f37 [] (cdB) (startSt [FV k r (sK false lK cK zK) d v (sC false lC cC zC)] (hF false false ks cs) 2)
    [.slc (some (0, 0)) lK cK 1, .int .i64 d, .int .i64 d, .int .i64 v, .int .i64 v, .slc (some (1, 0)) lC cC 1, .slc (some (1, 0)) lC cC 1, .int .i64 (↑lC), .int .i64 (↑lC), .slc (some (1, 0)) lC cC 1, .slc (some (1, 0)) lC cC 1, .slc (some (1, 0)) lC cC 1]
    [([],
      [((3 : Nat) ≤ [k, r, ↑lK].length), ((3 : Nat) ≤ (1000 : Nat)), (lK ≤ ks.length), (lK ≤ (1000 : Nat)), ((numsS (List.take (3 : Nat) [k, r, ↑lK])).length + (numsS (List.take lK ks)).length ≤ (9223372036854775807 : Nat)), ((3 : Nat) ≤ [d, v, ↑lC].length), ((3 : Nat) ≤ (1000 : Nat)), ((numsS (List.take (3 : Nat) [k, r, ↑lK]) ++ numsS (List.take lK ks)).length + (numsS (List.take (3 : Nat) [d, v, ↑lC])).length ≤ (9223372036854775807 : Nat)), (lC ≤ cs.length), (lC ≤ (1000 : Nat)), ((numsS (List.take (3 : Nat) [k, r, ↑lK]) ++ numsS (List.take lK ks) ++ numsS (List.take (3 : Nat) [d, v, ↑lC])).length + (numsS (List.take lC cs)).length ≤ (9223372036854775807 : Nat))],
      .ret (.str (numsS (List.take (3 : Nat) [k, r, ↑lK]) ++ numsS (List.take lK ks) ++ numsS (List.take (3 : Nat) [d, v, ↑lC]) ++ numsS (List.take lC cs))) (hL [(0, .ints .i64 (ks)), (1, .ints .i64 (cs))]) 2)]
  := by unfold RunIs; kernel_rfl
theorem rR1_FF (k r d v : Int) (lK cK zK lC cC zC : Nat) (ks cs : List Int) : RunIs Try.prog cs2 [] 1000 2 Try.f41 [1, 3] (headN 2 cdR) (startSt [FV k r (sK false lK cK zK) d v (sC false lC cC zC)] (hF false false ks cs) 2)
    [.int .i64 r, .slc (some (0, 0)) lK cK 1, .slc (some (0, 0)) lK cK 1, .int .i64 (↑lK), .int .i64 (↑lK)]
    [([],
      [((varS k).length + (varS r).length ≤ (9223372036854775807 : Nat)), ((varS k ++ varS r).length + (varS ↑lK).length ≤ (9223372036854775807 : Nat))],
      .to .normal (stG [(1, .ptr (some (2, 0))), (3, .str (varS k ++ varS r ++ varS ↑lK))] (hL [(0, .ints .i64 (ks)), (1, .ints .i64 (cs)), (2, .cells [.int .i64 k, .int .i64 r, .slc (some (0, 0)) lK cK 1, .int .i64 d, .int .i64 v, .slc (some (1, 0)) lC cC 1])]) 3))]
  := by unfold RunIs; kernel_rfl
theorem rR2_FF (k r d v : Int) (lK cK zK lC cC zC : Nat) (ks cs : List Int) (acc : List UInt8) : RunIs Try.prog cs2 [] 1000 2 Try.f41 [1, 3, 4] (seqL a1R) (SB false false k r d v lK cK zK lC cC zC ks cs [(3, .str acc)])
    []
    [([],
      [],
      .to .normal (stG [(1, .ptr (some (2, 0))), (3, .str (acc)), (4, .int .i64 0)] (hL [(0, .ints .i64 (ks)), (1, .ints .i64 (cs)), (2, .cells [.int .i64 k, .int .i64 r, .slc (some (0, 0)) lK cK 1, .int .i64 d, .int .i64 v, .slc (some (1, 0)) lC cC 1])]) 3))]
  := by unfold RunIs; kernel_rfl
theorem rR3_FF (k r d v : Int) (lK cK zK lC cC zC : Nat) (ks cs : List Int) (acc : List UInt8) (i : Nat) : RunIs Try.prog cs2 [(22, .split), (24, .give (.int .i64 (Int.ofNat (i + 1))))] 1000 2 Try.f41 [1, 3, 4] (bd1R) (SB false false k r d v lK cK zK lC cC zC ks cs [(3, .str acc), (4, .int .i64 (Int.ofNat i))])
    []
    [([((decide (Int.ofNat i < ↑lK)), true)],
      [((0 : Int) ≤ Int.ofNat i ∧ Int.ofNat i < ↑lK), ((0 : Nat) + (Int.ofNat i).toNat * (1 : Nat) < ks.length), (acc.length + (varS (ks.getD ((0 : Nat) + (Int.ofNat i).toNat * (1 : Nat)) (0 : Int))).length ≤ (9223372036854775807 : Nat)), (V.int IntKind.i64 (IntKind.i64.wrap (Int.ofNat i + (1 : Int))) = V.int IntKind.i64 (Int.ofNat (i + (1 : Nat))))],
      .to .normal (stG [(1, .ptr (some (2, 0))), (3, .str (acc ++ varS (ks.getD ((0 : Nat) + (Int.ofNat i).toNat * (1 : Nat)) (0 : Int)))), (4, .int .i64 (Int.ofNat (i + (1 : Nat))))] (hL [(0, .ints .i64 (ks)), (1, .ints .i64 (cs)), (2, .cells [.int .i64 k, .int .i64 r, .slc (some (0, 0)) lK cK 1, .int .i64 d, .int .i64 v, .slc (some (1, 0)) lC cC 1])]) 3)),
    ([((decide (Int.ofNat i < ↑lK)), false)],
      [],
      .to (.exit 0) (stG [(1, .ptr (some (2, 0))), (3, .str (acc)), (4, .int .i64 (Int.ofNat i))] (hL [(0, .ints .i64 (ks)), (1, .ints .i64 (cs)), (2, .cells [.int .i64 k, .int .i64 r, .slc (some (0, 0)) lK cK 1, .int .i64 d, .int .i64 v, .slc (some (1, 0)) lC cC 1])]) 3))]
  := by unfold RunIs; kernel_rfl
theorem rR4_FF (k r d v : Int) (lK cK zK lC cC zC : Nat) (ks cs : List Int) (acc : List UInt8) : RunIs Try.prog cs2 [] 1000 2 Try.f41 [1, 3] (headN 1 (tailN 3 cdR)) (SB false false k r d v lK cK zK lC cC zC ks cs [(3, .str acc)])
    [.int .i64 v, .slc (some (1, 0)) lC cC 1, .slc (some (1, 0)) lC cC 1, .int .i64 (↑lC), .int .i64 (↑lC)]
    [([],
      [(acc.length + (varS d).length ≤ (9223372036854775807 : Nat)), ((acc ++ varS d).length + (varS v).length ≤ (9223372036854775807 : Nat)), ((acc ++ varS d ++ varS v).length + (varS ↑lC).length ≤ (9223372036854775807 : Nat))],
      .to .normal (stG [(1, .ptr (some (2, 0))), (3, .str (acc ++ varS d ++ varS v ++ varS ↑lC))] (hL [(0, .ints .i64 (ks)), (1, .ints .i64 (cs)), (2, .cells [.int .i64 k, .int .i64 r, .slc (some (0, 0)) lK cK 1, .int .i64 d, .int .i64 v, .slc (some (1, 0)) lC cC 1])]) 3))]
  := by unfold RunIs; kernel_rfl
theorem rR5_FF (k r d v : Int) (lK cK zK lC cC zC : Nat) (ks cs : List Int) (acc : List UInt8) : RunIs Try.prog cs2 [] 1000 2 Try.f41 [1, 3, 5] (seqL a2R) (SB false false k r d v lK cK zK lC cC zC ks cs [(3, .str acc)])
    []
    [([],
      [],
      .to .normal (stG [(1, .ptr (some (2, 0))), (3, .str (acc)), (5, .int .i64 0)] (hL [(0, .ints .i64 (ks)), (1, .ints .i64 (cs)), (2, .cells [.int .i64 k, .int .i64 r, .slc (some (0, 0)) lK cK 1, .int .i64 d, .int .i64 v, .slc (some (1, 0)) lC cC 1])]) 3))]
  := by unfold RunIs; kernel_rfl
theorem rR6_FF (k r d v : Int) (lK cK zK lC cC zC : Nat) (ks cs : List Int) (acc : List UInt8) (i : Nat) : RunIs Try.prog cs2 [(51, .split), (53, .give (.int .i64 (Int.ofNat (i + 1))))] 1000 2 Try.f41 [1, 3, 5] (bd2R) (SB false false k r d v lK cK zK lC cC zC ks cs [(3, .str acc), (5, .int .i64 (Int.ofNat i))])
    []
    [([((decide (Int.ofNat i < ↑lC)), true)],
      [((0 : Int) ≤ Int.ofNat i ∧ Int.ofNat i < ↑lC), ((0 : Nat) + (Int.ofNat i).toNat * (1 : Nat) < cs.length), (acc.length + (varS (cs.getD ((0 : Nat) + (Int.ofNat i).toNat * (1 : Nat)) (0 : Int))).length ≤ (9223372036854775807 : Nat)), (V.int IntKind.i64 (IntKind.i64.wrap (Int.ofNat i + (1 : Int))) = V.int IntKind.i64 (Int.ofNat (i + (1 : Nat))))],
      .to .normal (stG [(1, .ptr (some (2, 0))), (3, .str (acc ++ varS (cs.getD ((0 : Nat) + (Int.ofNat i).toNat * (1 : Nat)) (0 : Int)))), (5, .int .i64 (Int.ofNat (i + (1 : Nat))))] (hL [(0, .ints .i64 (ks)), (1, .ints .i64 (cs)), (2, .cells [.int .i64 k, .int .i64 r, .slc (some (0, 0)) lK cK 1, .int .i64 d, .int .i64 v, .slc (some (1, 0)) lC cC 1])]) 3)),
    ([((decide (Int.ofNat i < ↑lC)), false)],
      [],
      .to (.exit 2) (stG [(1, .ptr (some (2, 0))), (3, .str (acc)), (5, .int .i64 (Int.ofNat i))] (hL [(0, .ints .i64 (ks)), (1, .ints .i64 (cs)), (2, .cells [.int .i64 k, .int .i64 r, .slc (some (0, 0)) lK cK 1, .int .i64 d, .int .i64 v, .slc (some (1, 0)) lC cC 1])]) 3))]
  := by unfold RunIs; kernel_rfl
theorem rR7_FF (k r d v : Int) (lK cK zK lC cC zC : Nat) (ks cs : List Int) (acc : List UInt8) : RunIs Try.prog cs2 [] 1000 2 Try.f41 [] (endR) (SB false false k r d v lK cK zK lC cC zC ks cs [(3, .str acc)])
    []
    [([],
      [],
      .ret (.str (acc)) (hL [(0, .ints .i64 (ks)), (1, .ints .i64 (cs))]) 2)]
  := by unfold RunIs; kernel_rfl
end Go.Proofs.Ytadejpmecljjpaa
namespace Go.Proofs.Ytadejpmecljjpaa
open Go Go.Eng
def flatF (k r d v : Int) (kk cc : List Int) : List Int := [k, r, Int.ofNat kk.length] ++ kk ++ [d, v, Int.ofNat cc.length] ++ cc
def bytesS (k r d v : Int) (kk cc : List Int) : List UInt8 := numsS (flatF k r d v kk cc)
theorem numsS_app (a b : List Int) : numsS (a ++ b) = numsS a ++ numsS b := by simp [numsS]
theorem numsS_three (a b c : Int) : numsS [a, b, c] = varS a ++ varS b ++ varS c := by simp [numsS]
section
variable (nK nC : Bool) (k r d v : Int) (lK cK zK lC cC zC : Nat) (ks cs : List Int)
variable {nK nC}
theorem tgB (h1 : ln nK lK ≤ (rw' nK ks).length) (h2 : ln nK lK ≤ 1000) (h3 : ln nC lC ≤ (rw' nC cs).length) (h4 : ln nC lC ≤ 1000) :
    TG Try.prog 2 Try.f37.ntmps cdB (startSt [FV k r (sK nK lK cK zK) d v (sC nC lC cC zC)] (hF nK nC ks cs) 2) (RetG Try.prog 2 Try.f37 fun a _ _ => a = .str (bytesS k r d v ((rw' nK ks).take (ln nK lK)) ((rw' nC cs).take (ln nC lC)))) := by
  have hlen : ∀ (b : Bool) (l : Nat) (x : List Int), ln b l ≤ (rw' b x).length → ((rw' b x).take (ln b l)).length = ln b l := fun b l x h => by rw [List.length_take]; omega
  have e : bytesS k r d v ((rw' nK ks).take (ln nK lK)) ((rw' nC cs).take (ln nC lC)) = numsS [k, r, Int.ofNat (ln nK lK)] ++ numsS ((rw' nK ks).take (ln nK lK)) ++ numsS [d, v, Int.ofNat (ln nC lC)] ++ numsS ((rw' nC cs).take (ln nC lC)) := by
    unfold bytesS flatF
    rw [numsS_app, numsS_app, numsS_app, hlen nK lK ks h1, hlen nC lC cs h3]
  rw [e]
  have b1 := numsS_len [k, r, Int.ofNat (ln nK lK)]
  have b2 := numsS_len ((rw' nK ks).take (ln nK lK))
  have b3 := numsS_len [d, v, Int.ofNat (ln nC lC)]
  have b4 := numsS_len ((rw' nC cs).take (ln nC lC))
  rw [hlen nK lK ks h1] at b2
  rw [hlen nC lC cs h3] at b4
  have c1 := numsS_len [k, r, (0 : Int)]
  have c3 := numsS_len [d, v, (0 : Int)]
  simp only [List.length_cons, List.length_nil] at b1 b3 c1 c3
  have b2 : (numsS ((rw' nK ks).take (ln nK lK))).length ≤ 10000 := by omega
  have b4 : (numsS ((rw' nC cs).take (ln nC lC))).length ≤ 10000 := by omega
  cases nK <;> cases nC
  · refine TG_ret X2 mo _ (by kernel_rfl) (rB_FF k r d v lK cK zK lC cC zC ks cs) fun g hg _ => ?_
    rw [List.mem_singleton] at hg; subst hg
    refine ⟨?_, _, _, _, rfl, rfl⟩
    simp only [List.mem_cons, List.not_mem_nil, or_false]
    rintro a (rfl | rfl | rfl | rfl | rfl | rfl | rfl | rfl | rfl | rfl | rfl) <;> first | exact h1 | exact h2 | exact h3 | exact h4 | exact Nat.le_of_ble_eq_true rfl | (simp only [List.length_append, List.take, ln, rw', Int.ofNat_eq_natCast] at b1 b2 b3 b4 ⊢; omega)
  · refine TG_ret X2 mo _ (by kernel_rfl) (rB_FT k r d v lK cK zK lC cC zC ks cs) fun g hg _ => ?_
    rw [List.mem_singleton] at hg; subst hg
    refine ⟨?_, _, _, _, rfl, rfl⟩
    simp only [List.mem_cons, List.not_mem_nil, or_false]
    rintro a (rfl | rfl | rfl | rfl | rfl | rfl | rfl | rfl | rfl | rfl | rfl) <;> first | exact h1 | exact h2 | exact h3 | exact h4 | exact Nat.le_of_ble_eq_true rfl | (simp only [List.length_append, List.take, ln, rw', Int.ofNat_eq_natCast] at b1 b2 b3 b4 ⊢; omega)
  · refine TG_ret X2 mo _ (by kernel_rfl) (rB_TF k r d v lK cK zK lC cC zC ks cs) fun g hg _ => ?_
    rw [List.mem_singleton] at hg; subst hg
    refine ⟨?_, _, _, _, rfl, rfl⟩
    simp only [List.mem_cons, List.not_mem_nil, or_false]
    rintro a (rfl | rfl | rfl | rfl | rfl | rfl | rfl | rfl | rfl | rfl | rfl) <;> first | exact h1 | exact h2 | exact h3 | exact h4 | exact Nat.le_of_ble_eq_true rfl | (simp only [List.length_append, List.take, ln, rw', Int.ofNat_eq_natCast] at b1 b2 b3 b4 ⊢; omega)
  · refine TG_ret X2 mo _ (by kernel_rfl) (rB_TT k r d v lK cK zK lC cC zC ks cs) fun g hg _ => ?_
    rw [List.mem_singleton] at hg; subst hg
    refine ⟨?_, _, _, _, rfl, rfl⟩
    simp only [List.mem_cons, List.not_mem_nil, or_false]
    rintro a (rfl | rfl | rfl | rfl | rfl | rfl | rfl | rfl | rfl | rfl | rfl) <;> first | exact h1 | exact h2 | exact h3 | exact h4 | exact Nat.le_of_ble_eq_true rfl | (simp only [List.length_append, List.take, ln, rw', Int.ofNat_eq_natCast] at b1 b2 b3 b4 ⊢; omega)
end
section
variable (nK nC : Bool) (k r d v : Int) (lK cK zK lC cC zC : Nat) (ks cs : List Int)
abbrev sB (l : List (Nat × V)) : St := SB nK nC k r d v lK cK zK lC cC zC ks cs l
theorem R1 : ∃ L, RunIs Try.prog cs2 [] 1000 2 Try.f41 [1, 3] (headN 2 cdR) (startSt [FV k r (sK nK lK cK zK) d v (sC nC lC cC zC)] (hF nK nC ks cs) 2) L
    [([], [((varS k).length + (varS r).length ≤ 9223372036854775807), ((varS k ++ varS r).length + (varS (Int.ofNat (ln nK lK))).length ≤ 9223372036854775807)], .to .normal (sB nK nC k r d v lK cK zK lC cC zC ks cs [(3, .str (varS k ++ varS r ++ varS (Int.ofNat (ln nK lK))))]))] := by
  cases nK <;> cases nC
  · exact ⟨_, rR1_FF k r d v lK cK zK lC cC zC ks cs⟩
  · exact ⟨_, rR1_FT k r d v lK cK zK lC cC zC ks cs⟩
  · exact ⟨_, rR1_TF k r d v lK cK zK lC cC zC ks cs⟩
  · exact ⟨_, rR1_TT k r d v lK cK zK lC cC zC ks cs⟩
theorem R4 (acc : List UInt8) : ∃ L, RunIs Try.prog cs2 [] 1000 2 Try.f41 [1, 3] (headN 1 (tailN 3 cdR)) (sB nK nC k r d v lK cK zK lC cC zC ks cs [(3, .str acc)]) L
    [([], [(acc.length + (varS d).length ≤ 9223372036854775807), ((acc ++ varS d).length + (varS v).length ≤ 9223372036854775807), ((acc ++ varS d ++ varS v).length + (varS (Int.ofNat (ln nC lC))).length ≤ 9223372036854775807)], .to .normal (sB nK nC k r d v lK cK zK lC cC zC ks cs [(3, .str (acc ++ varS d ++ varS v ++ varS (Int.ofNat (ln nC lC))))]))] := by
  cases nK <;> cases nC
  · exact ⟨_, rR4_FF k r d v lK cK zK lC cC zC ks cs acc⟩
  · exact ⟨_, rR4_FT k r d v lK cK zK lC cC zC ks cs acc⟩
  · exact ⟨_, rR4_TF k r d v lK cK zK lC cC zC ks cs acc⟩
  · exact ⟨_, rR4_TT k r d v lK cK zK lC cC zC ks cs acc⟩
theorem R7 (acc : List UInt8) : ∃ h n, RunIs Try.prog cs2 [] 1000 2 Try.f41 [] endR (sB nK nC k r d v lK cK zK lC cC zC ks cs [(3, .str acc)]) [] [([], [], .ret (.str acc) h n)] := by
  cases nK <;> cases nC
  · exact ⟨_, _, rR7_FF k r d v lK cK zK lC cC zC ks cs acc⟩
  · exact ⟨_, _, rR7_FT k r d v lK cK zK lC cC zC ks cs acc⟩
  · exact ⟨_, _, rR7_TF k r d v lK cK zK lC cC zC ks cs acc⟩
  · exact ⟨_, _, rR7_TT k r d v lK cK zK lC cC zC ks cs acc⟩
theorem R2t (acc : List UInt8) : RunIs Try.prog cs2 [] 1000 2 Try.f41 [1, 3] a1R (sB true nC k r d v lK cK zK lC cC zC ks cs [(3, .str acc)]) [] [([], [], .to .normal (sB true nC k r d v lK cK zK lC cC zC ks cs [(3, .str acc)]))] := by
  cases nC
  · exact rR2_TF k r d v lK cK zK lC cC zC ks cs acc
  · exact rR2_TT k r d v lK cK zK lC cC zC ks cs acc
theorem R2f (acc : List UInt8) : RunIs Try.prog cs2 [] 1000 2 Try.f41 [1, 3, 4] (seqL a1R) (sB false nC k r d v lK cK zK lC cC zC ks cs [(3, .str acc)]) [] [([], [], .to .normal (sB false nC k r d v lK cK zK lC cC zC ks cs [(3, .str acc), (4, .int .i64 (Int.ofNat 0))]))] := by
  cases nC
  · exact rR2_FF k r d v lK cK zK lC cC zC ks cs acc
  · exact rR2_FT k r d v lK cK zK lC cC zC ks cs acc
abbrev stepP (l : Nat) (ks : List Int) (acc : List UInt8) (i : Nat) : List Prop := [((0 : Int) ≤ Int.ofNat i ∧ Int.ofNat i < Int.ofNat l), ((0 : Nat) + (Int.ofNat i).toNat * (1 : Nat) < ks.length), (acc.length + (varS (ks.getD ((0 : Nat) + (Int.ofNat i).toNat * (1 : Nat)) (0 : Int))).length ≤ (9223372036854775807 : Nat)), (V.int IntKind.i64 (IntKind.i64.wrap (Int.ofNat i + (1 : Int))) = V.int IntKind.i64 (Int.ofNat (i + (1 : Nat))))]
theorem R3 (acc : List UInt8) (i : Nat) : RunIs Try.prog cs2 [(22, .split), (24, .give (.int .i64 (Int.ofNat (i + 1))))] 1000 2 Try.f41 [1, 3, 4] bd1R (sB false nC k r d v lK cK zK lC cC zC ks cs [(3, .str acc), (4, .int .i64 (Int.ofNat i))]) []
    [([(decide (Int.ofNat i < Int.ofNat lK), true)], stepP lK ks acc i, .to .normal (sB false nC k r d v lK cK zK lC cC zC ks cs [(3, .str (acc ++ varS (ks.getD ((0 : Nat) + (Int.ofNat i).toNat * (1 : Nat)) (0 : Int)))), (4, .int .i64 (Int.ofNat (i + 1)))])),
     ([(decide (Int.ofNat i < Int.ofNat lK), false)], [], .to (.exit 0) (sB false nC k r d v lK cK zK lC cC zC ks cs [(3, .str acc), (4, .int .i64 (Int.ofNat i))]))] := by
  cases nC
  · exact rR3_FF k r d v lK cK zK lC cC zC ks cs acc i
  · exact rR3_FT k r d v lK cK zK lC cC zC ks cs acc i
theorem R5t (acc : List UInt8) : RunIs Try.prog cs2 [] 1000 2 Try.f41 [1, 3] a2R (sB nK true k r d v lK cK zK lC cC zC ks cs [(3, .str acc)]) [] [([], [], .to .normal (sB nK true k r d v lK cK zK lC cC zC ks cs [(3, .str acc)]))] := by
  cases nK
  · exact rR5_FT k r d v lK cK zK lC cC zC ks cs acc
  · exact rR5_TT k r d v lK cK zK lC cC zC ks cs acc
theorem R5f (acc : List UInt8) : RunIs Try.prog cs2 [] 1000 2 Try.f41 [1, 3, 5] (seqL a2R) (sB nK false k r d v lK cK zK lC cC zC ks cs [(3, .str acc)]) [] [([], [], .to .normal (sB nK false k r d v lK cK zK lC cC zC ks cs [(3, .str acc), (5, .int .i64 (Int.ofNat 0))]))] := by
  cases nK
  · exact rR5_FF k r d v lK cK zK lC cC zC ks cs acc
  · exact rR5_TF k r d v lK cK zK lC cC zC ks cs acc
theorem R6 (acc : List UInt8) (i : Nat) : RunIs Try.prog cs2 [(51, .split), (53, .give (.int .i64 (Int.ofNat (i + 1))))] 1000 2 Try.f41 [1, 3, 5] bd2R (sB nK false k r d v lK cK zK lC cC zC ks cs [(3, .str acc), (5, .int .i64 (Int.ofNat i))]) []
    [([(decide (Int.ofNat i < Int.ofNat lC), true)], stepP lC cs acc i, .to .normal (sB nK false k r d v lK cK zK lC cC zC ks cs [(3, .str (acc ++ varS (cs.getD ((0 : Nat) + (Int.ofNat i).toNat * (1 : Nat)) (0 : Int)))), (5, .int .i64 (Int.ofNat (i + 1)))])),
     ([(decide (Int.ofNat i < Int.ofNat lC), false)], [], .to (.exit 2) (sB nK false k r d v lK cK zK lC cC zC ks cs [(3, .str acc), (5, .int .i64 (Int.ofNat i))]))] := by
  cases nK
  · exact rR6_FF k r d v lK cK zK lC cC zC ks cs acc i
  · exact rR6_TF k r d v lK cK zK lC cC zC ks cs acc i
theorem step_ok {l : Nat} {ks : List Int} {acc : List UInt8} {i : Nat} (hi : i < l) (hl : l ≤ ks.length) (hb : l ≤ 1000) (ha : acc.length ≤ 100000) : ∀ a ∈ stepP l ks acc i, a := by
  simp only [stepP, List.mem_cons, List.not_mem_nil, or_false]
  rintro a (rfl | rfl | rfl | rfl)
  · exact in_ofNat hi
  · show 0 + i * 1 < ks.length; omega
  · have h2 := varS_len (ks.getD ((0 : Nat) + (Int.ofNat i).toNat * (1 : Nat)) (0 : Int))
    omega
  · exact up_ok (by omega)
variable {nK nC}
def toS (t : St) (s' : St) : Prop := ∃ L S, normG 2 L s' = some S ∧ ∃ L', normG 2 L' S = some t
theorem TG_toS {N : Nat} {c : Code} {s' t : St} {Q : Exit → St → Prop} (h : toS t s') (k : TG Try.prog 2 N c t Q) : TG Try.prog 2 N c s' Q := by
  obtain ⟨L, S, h1, L', h2⟩ := h
  exact TG_norm h1 (TG_norm h2 k)
theorem toS_self {t s' : St} {L L' : List Nat} (h : normG 2 L s' = some t) (k : normG 2 L' t = some t) : toS t s' := ⟨L, t, h, L', k⟩
theorem part1 (acc : List UInt8) (ha : acc.length ≤ 50000) (hl : ln nK lK ≤ (rw' nK ks).length) (hb : ln nK lK ≤ 1000) :
    TG Try.prog 2 Try.f41.ntmps a1R (sB nK nC k r d v lK cK zK lC cC zC ks cs [(3, .str acc)]) (fun y s' => y = .normal ∧ toS (sB nK nC k r d v lK cK zK lC cC zC ks cs [(3, .str (acc ++ numsS ((rw' nK ks).take (ln nK lK))))]) s') := by
  cases nK with
  | true =>
    refine TG_is X2 mo anyR (by kernel_rfl) (R2t nC k r d v lK cK zK lC cC zC ks cs acc) fun g hg _ => ?_
    rw [List.mem_singleton] at hg; subst hg
    refine ⟨by simp, fun s' hs' => ⟨rfl, ?_⟩⟩
    have e : acc ++ numsS ((rw' true ks).take (ln true lK)) = acc := by simp [numsS]
    rw [e]
    exact toS_self hs' (L' := [1, 3]) (by cases nC <;> kernel_rfl)
  | false =>
    refine TG_isSeq X2 mo anyR (by kernel_rfl) (by kernel_rfl) (R2f nC k r d v lK cK zK lC cC zC ks cs acc) fun g hg _ => ?_
    rw [List.mem_singleton] at hg; subst hg
    refine ⟨by simp, fun s' hs' => TG_norm hs' ?_⟩
    refine TG_block (i := 0) (by kernel_rfl) ?_
    refine TG_loopI X2 mo [1, 3, 4] anyR (fun k' s => ∃ i, k' = lK - i ∧ i ≤ lK ∧ s = sB false nC k r d v lK cK zK lC cC zC ks cs [(3, .str (acc ++ numsS (ks.take i))), (4, .int .i64 (Int.ofNat i))]) (F := 1000) (fn := Try.f41) (by kernel_rfl) (by kernel_rfl) ?_ lK ⟨0, rfl, Nat.zero_le _, by simp [numsS]⟩
    rintro k' s ⟨i, hk, hi, rfl⟩
    refine ⟨_, _, _, R3 nC k r d v lK cK zK lC cC zC ks cs _ i, fun g hg hc => ?_⟩
    simp only [List.mem_cons, List.not_mem_nil, or_false] at hg
    rcases hg with rfl | rfl
    · have hil := lt_ofNat (hc _ (List.mem_singleton.2 rfl))
      refine ⟨step_ok hil hl hb ?_, lK - (i + 1), by omega, i + 1, rfl, hil, by rw [numsS_succ (Nat.lt_of_lt_of_le hil hl), List.append_assoc]⟩
      have h1 := numsS_len (ks.take i)
      have h3 : (ks.take i).length ≤ i := by simp; omega
      have : ln false lK = lK := rfl
      simp only [List.length_append]; omega
    · have hil := nlt_ofNat (hc _ (List.mem_singleton.2 rfl))
      have : i = lK := by omega
      subst this
      refine ⟨by simp, fun s' hs' => ?_⟩
      simp only [outOf, if_pos]
      exact ⟨trivial, _, _, hs', [1, 3], by cases nC <;> kernel_rfl⟩
theorem part2 (acc : List UInt8) (ha : acc.length ≤ 50000) (hl : ln nC lC ≤ (rw' nC cs).length) (hb : ln nC lC ≤ 1000) :
    TG Try.prog 2 Try.f41.ntmps a2R (sB nK nC k r d v lK cK zK lC cC zC ks cs [(3, .str acc)]) (fun y s' => y = .normal ∧ toS (sB nK nC k r d v lK cK zK lC cC zC ks cs [(3, .str (acc ++ numsS ((rw' nC cs).take (ln nC lC))))]) s') := by
  cases nC with
  | true =>
    refine TG_is X2 mo anyR (by kernel_rfl) (R5t nK k r d v lK cK zK lC cC zC ks cs acc) fun g hg _ => ?_
    rw [List.mem_singleton] at hg; subst hg
    refine ⟨by simp, fun s' hs' => ⟨rfl, ?_⟩⟩
    have e : acc ++ numsS ((rw' true cs).take (ln true lC)) = acc := by simp [numsS]
    rw [e]
    exact toS_self hs' (L' := [1, 3]) (by cases nK <;> kernel_rfl)
  | false =>
    refine TG_isSeq X2 mo anyR (by kernel_rfl) (by kernel_rfl) (R5f nK k r d v lK cK zK lC cC zC ks cs acc) fun g hg _ => ?_
    rw [List.mem_singleton] at hg; subst hg
    refine ⟨by simp, fun s' hs' => TG_norm hs' ?_⟩
    refine TG_block (i := 2) (by kernel_rfl) ?_
    refine TG_loopI X2 mo [1, 3, 5] anyR (fun k' s => ∃ i, k' = lC - i ∧ i ≤ lC ∧ s = sB nK false k r d v lK cK zK lC cC zC ks cs [(3, .str (acc ++ numsS (cs.take i))), (5, .int .i64 (Int.ofNat i))]) (F := 1000) (fn := Try.f41) (by kernel_rfl) (by kernel_rfl) ?_ lC ⟨0, rfl, Nat.zero_le _, by simp [numsS]⟩
    rintro k' s ⟨i, hk, hi, rfl⟩
    refine ⟨_, _, _, R6 nK k r d v lK cK zK lC cC zC ks cs _ i, fun g hg hc => ?_⟩
    simp only [List.mem_cons, List.not_mem_nil, or_false] at hg
    rcases hg with rfl | rfl
    · have hil := lt_ofNat (hc _ (List.mem_singleton.2 rfl))
      refine ⟨step_ok hil hl hb ?_, lC - (i + 1), by omega, i + 1, rfl, hil, by rw [numsS_succ (Nat.lt_of_lt_of_le hil hl), List.append_assoc]⟩
      have h1 := numsS_len (cs.take i)
      have h3 : (cs.take i).length ≤ i := by simp; omega
      have : ln false lC = lC := rfl
      simp only [List.length_append]; omega
    · have hil := nlt_ofNat (hc _ (List.mem_singleton.2 rfl))
      have : i = lC := by omega
      subst this
      refine ⟨by simp, fun s' hs' => ?_⟩
      simp only [outOf, if_pos]
      exact ⟨trivial, _, _, hs', [1, 3], by cases nK <;> kernel_rfl⟩
theorem tgR (h1 : ln nK lK ≤ (rw' nK ks).length) (h2 : ln nK lK ≤ 1000) (h3 : ln nC lC ≤ (rw' nC cs).length) (h4 : ln nC lC ≤ 1000) :
    TG Try.prog 2 Try.f41.ntmps cdR (startSt [FV k r (sK nK lK cK zK) d v (sC nC lC cC zC)] (hF nK nC ks cs) 2) (RetG Try.prog 2 Try.f41 fun a _ _ => a = .str (bytesS k r d v ((rw' nK ks).take (ln nK lK)) ((rw' nC cs).take (ln nC lC)))) := by
  have hlen : ∀ (b : Bool) (l : Nat) (x : List Int), ln b l ≤ (rw' b x).length → ((rw' b x).take (ln b l)).length = ln b l := fun b l x h => by rw [List.length_take]; omega
  have v1 := varS_len k
  have v2 := varS_len r
  have v3 := varS_len (Int.ofNat (ln nK lK))
  have v4 := varS_len d
  have v5 := varS_len v
  have v6 := varS_len (Int.ofNat (ln nC lC))
  have b2 := numsS_len ((rw' nK ks).take (ln nK lK))
  have b4 := numsS_len ((rw' nC cs).take (ln nC lC))
  rw [hlen nK lK ks h1] at b2
  rw [hlen nC lC cs h3] at b4
  obtain ⟨L1, r1⟩ := R1 nK nC k r d v lK cK zK lC cC zC ks cs
  refine TG_isN1 2 X2 mo (by kernel_rfl) r1 ?_ ?_
  · simp only [List.mem_cons, List.not_mem_nil, or_false]
    rintro a (rfl | rfl) <;> (try simp only [List.length_append]) <;> omega
  refine TG_seq' (by kernel_rfl) (TG_mono (part1 k r d v lK cK zK lC cC zC ks cs _ ?_ h1 h2) ?_)
  · simp only [List.length_append]; omega
  rintro y s' ⟨rfl, hs⟩
  refine TG_toS hs ?_
  obtain ⟨L4, r4⟩ := R4 nK nC k r d v lK cK zK lC cC zC ks cs (varS k ++ varS r ++ varS (Int.ofNat (ln nK lK)) ++ numsS ((rw' nK ks).take (ln nK lK)))
  refine TG_isN1 1 X2 mo (by kernel_rfl) r4 ?_ ?_
  · simp only [List.mem_cons, List.not_mem_nil, or_false]
    rintro a (rfl | rfl | rfl) <;> (try simp only [List.length_append]) <;> omega
  refine TG_seq' (by kernel_rfl) (TG_mono (part2 k r d v lK cK zK lC cC zC ks cs _ ?_ h3 h4) ?_)
  · simp only [List.length_append]; omega
  rintro y s' ⟨rfl, hs⟩
  refine TG_toS hs ?_
  obtain ⟨h, n, r7⟩ := R7 nK nC k r d v lK cK zK lC cC zC ks cs (varS k ++ varS r ++ varS (Int.ofNat (ln nK lK)) ++ numsS ((rw' nK ks).take (ln nK lK)) ++ varS d ++ varS v ++ varS (Int.ofNat (ln nC lC)) ++ numsS ((rw' nC cs).take (ln nC lC)))
  refine TG_ret X2 mo _ (by kernel_rfl) r7 fun g hg _ => ?_
  rw [List.mem_singleton] at hg; subst hg
  refine ⟨by simp, _, _, _, rfl, ?_⟩
  unfold bytesS flatF
  rw [numsS_app, numsS_app, numsS_app, numsS_three, numsS_three, hlen nK lK ks h1, hlen nC lC cs h3]
  simp only [List.append_assoc]
end
theorem nil_any {E E' : Env} {l c z : Nat} {y : Value} (q : vrel E (.slc none l c z) y) : vrel E' (.slc none l c z) y := q
theorem pureFG {f : FuncId} {fn : Func} {code : Code} (hlt : f < Try.prog.funcs.size) (hf : Try.prog.funcs[f]? = some fn) (hb : fn.body = some code) {R : RF}
    (hX : ∀ k r d v lK ks lC cs X u, R k r d v lK ks lC cs X = some u → u.free = true ∧ V.frees X = true ∧ (Nat.ble (X.length + 1) fn.ntmps && Nat.blt fn.ntmps top) = true)
    (run : ∀ k r d v lK ks lC cs X u (nK nC : Bool) cK zK cC zC, R k r d v (ln nK lK) (rw' nK ks) (ln nC lC) (rw' nC cs) X = some u → ln nK lK ≤ (rw' nK ks).length → ln nK lK ≤ 1000 → ln nC lC ≤ (rw' nC cs).length → ln nC lC ≤ 1000 →
      TG Try.prog 2 fn.ntmps code (startSt (FV k r (sK nK lK cK zK) d v (sC nC lC cC zC) :: X) (hF nK nC ks cs) 2) (RetG Try.prog 2 fn fun a _ _ => a = u)) : PureA Try.prog f (specF R) := by
  refine ⟨hlt, fun args h A u e => ?_⟩
  unfold specF at e
  split at e
  · rename_i k r vK d v vC X
    split at e
    · rename_i lK ks hK
      split at e
      · rename_i lC cs hC
        split at e
        · rename_i u' hR
          simp only [Option.some.injEq, Prod.mk.injEq] at e; obtain ⟨rfl, rfl⟩ := e
          obtain ⟨hu, hXf, hlen⟩ := hX _ _ _ _ _ _ _ _ _ _ hR
          refine ⟨hu, fun hA E n w args' ra g hd hc => ?_⟩
          have h1 := hA (lK ≤ ks.length) (by simp)
          have h2 := hA (lK ≤ 1000) (by simp)
          have h3 := hA (lC ≤ cs.length) (by simp)
          have h4 := hA (lC ≤ 1000) (by simp)
          obtain ⟨y, ys, r0, rs, rfl⟩ := ra
          rcases rowOf_cases hK with ⟨cK, zK, rfl, rfl, rfl⟩ | ⟨mK, cK, rfl, hmK⟩ <;> rcases rowOf_cases hC with ⟨cC, zC, rfl, rfl, rfl⟩ | ⟨mC, cC, rfl, hmC⟩
          · obtain ⟨g2, d2, n2⟩ := two_ok (a := none) (b := none) (x := none) (y := none) g (fun k e => by cases e) (fun k e => by cases e)
            exact read_calls mo po hf hb (by exact hlen) (run k r d v 0 [] 0 [] X _ true true cK zK cC zC hR h1 h2 h3 h4) g2 d2 n2 ⟨y, ys, filter_rel (fun _ q => nil_any q) (fun _ q => nil_any q) r0, frees_noE hXf rs, rfl⟩
          · obtain ⟨g2, d2, n2⟩ := two_ok (a := none) (b := some mC) (x := none) (y := some cs) g (fun k e => by cases e) (fun k e => by cases e; exact ⟨mC, rfl, hmC⟩)
            exact read_calls mo po hf hb (by exact hlen) (run k r d v 0 [] lC cs X _ true false cK zK cC 0 hR h1 h2 h3 h4) g2 d2 n2 ⟨y, ys, filter_rel (fun _ q => nil_any q) (fun _ q => two_slc1 q) r0, frees_noE hXf rs, rfl⟩
          · obtain ⟨g2, d2, n2⟩ := two_ok (a := some mK) (b := none) (x := some ks) (y := none) g (fun k e => by cases e; exact ⟨mK, rfl, hmK⟩) (fun k e => by cases e)
            exact read_calls mo po hf hb (by exact hlen) (run k r d v lK ks 0 [] X _ false true cK 0 cC zC hR h1 h2 h3 h4) g2 d2 n2 ⟨y, ys, filter_rel (fun _ q => two_slc0 q) (fun _ q => nil_any q) r0, frees_noE hXf rs, rfl⟩
          · obtain ⟨g2, d2, n2⟩ := two_ok (a := some mK) (b := some mC) (x := some ks) (y := some cs) g (fun k e => by cases e; exact ⟨mK, rfl, hmK⟩) (fun k e => by cases e; exact ⟨mC, rfl, hmC⟩)
            exact read_calls mo po hf hb (by exact hlen) (run k r d v lK ks lC cs X _ false false cK 0 cC 0 hR h1 h2 h3 h4) g2 d2 n2 ⟨y, ys, filter_rel (fun _ q => two_slc0 q) (fun _ q => two_slc1 q) r0, frees_noE hXf rs, rfl⟩
        · cases e
      · cases e
    · cases e
  · cases e
def RBy : RF := fun k r d v lK ks lC cs X => match X with
  | [] => some (.str (bytesS k r d v (ks.take lK) (cs.take lC)))
  | _ => none
theorem RBy_X {k r d v : Int} {lK : Nat} {ks : List Int} {lC : Nat} {cs : List Int} {X : List V} {u : V} (h : RBy k r d v lK ks lC cs X = some u) : X = [] ∧ u = .str (bytesS k r d v (ks.take lK) (cs.take lC)) := by
  unfold RBy at h
  split at h
  · cases h; exact ⟨rfl, rfl⟩
  · cases h
theorem pB : PureA Try.prog 37 (specF RBy) := by
  refine pureFG (Nat.le_of_ble_eq_true (by kernel_rfl)) Try.func37 (code := cdB) (by kernel_rfl) (fun k r d v lK ks lC cs X u h => ?_) (fun k r d v lK ks lC cs X u nK nC cK zK cC zC h h1 h2 h3 h4 => ?_)
  · obtain ⟨rfl, rfl⟩ := RBy_X h; exact ⟨rfl, rfl, by kernel_rfl⟩
  · obtain ⟨rfl, rfl⟩ := RBy_X h; exact tgB k r d v lK cK zK lC cC zC ks cs h1 h2 h3 h4
theorem pR : PureA Try.prog 41 (specF RBy) := by
  refine pureFG (Nat.le_of_ble_eq_true (by kernel_rfl)) Try.func41 (code := cdR) (by kernel_rfl) (fun k r d v lK ks lC cs X u h => ?_) (fun k r d v lK ks lC cs X u nK nC cK zK cC zC h h1 h2 h3 h4 => ?_)
  · obtain ⟨rfl, rfl⟩ := RBy_X h; exact ⟨rfl, rfl, by kernel_rfl⟩
  · obtain ⟨rfl, rfl⟩ := RBy_X h; exact tgR k r d v lK cK zK lC cC zC ks cs h1 h2 h3 h4
noncomputable abbrev W3 : CtrW := addW 37 (readW (specF RBy)) (addW 41 (readW (specF RBy)) W2)
theorem W3_ok : CtrWOk Try.prog W3 := addW_ok (readW_ok pB) (addW_ok (readW_ok pR) W2_ok)
noncomputable abbrev cs3 : CallS := callX Try.prog W3 H0 1000 40
noncomputable abbrev X3 : CX Try.prog := CX.of mo po W3_ok H0 1000 40
end Go.Proofs.Ytadejpmecljjpaa
namespace Go.Proofs.Ytadejpmecljjpaa
open Go Go.Eng
noncomputable abbrev cdLo : Code := bodyOf Try.f35
noncomputable abbrev cdCl : Code := bodyOf Try.f34
noncomputable abbrev cdLr : Code := bodyOf Try.f40
theorem rLo_TT (k r d v : Int) (lK cK zK lC cC zC : Nat) (ks cs : List Int) : RunIs Try.prog cs3 [(4, .split), (8, .split), (13, .split)] 1000 2 Try.f35 [] (cdLo) (startSt [FV k r (sK true lK cK zK) d v (sC true lC cC zC)] (hF true true ks cs) 2)
    []
    [([((validB k r d v (0 : Nat) [] (0 : Nat) []), true), ((r == (0 : Int)), true), ((k != (8 : Int)), true)],
      [((0 : Nat) ≤ (0 : Nat)), ((0 : Nat) ≤ (1000 : Nat)), ((0 : Nat) ≤ (0 : Nat)), ((0 : Nat) ≤ (1000 : Nat))],
      .ret (.bool true) (hL []) 2),
    ([((validB k r d v (0 : Nat) [] (0 : Nat) []), true), ((r == (0 : Int)), true), ((k != (8 : Int)), false)],
      [((0 : Nat) ≤ (0 : Nat)), ((0 : Nat) ≤ (1000 : Nat)), ((0 : Nat) ≤ (0 : Nat)), ((0 : Nat) ≤ (1000 : Nat))],
      .ret (.bool (v == (0 : Int))) (hL []) 2),
    ([((validB k r d v (0 : Nat) [] (0 : Nat) []), true), ((r == (0 : Int)), false)],
      [((0 : Nat) ≤ (0 : Nat)), ((0 : Nat) ≤ (1000 : Nat)), ((0 : Nat) ≤ (0 : Nat)), ((0 : Nat) ≤ (1000 : Nat))],
      .ret (.bool false) (hL []) 2),
    ([((validB k r d v (0 : Nat) [] (0 : Nat) []), false)],
      [((0 : Nat) ≤ (0 : Nat)), ((0 : Nat) ≤ (1000 : Nat)), ((0 : Nat) ≤ (0 : Nat)), ((0 : Nat) ≤ (1000 : Nat))],
      .ret (.bool false) (hL []) 2)]
  := by unfold RunIs; kernel_rfl
theorem rCl_TT (k r d v : Int) (lK cK zK lC cC zC : Nat) (ks cs : List Int) : RunIs Try.prog cs3 [] 1000 2 Try.f34 [] (cdCl) (startSt [FV k r (sK true lK cK zK) d v (sC true lC cC zC)] (hF true true ks cs) 2)
    []
    [([],
      [((0 : Nat) ≤ (0 : Nat)), ((0 : Nat) ≤ (1000 : Nat)), ((0 : Nat) ≤ (0 : Nat)), ((0 : Nat) ≤ (1000 : Nat))],
      .ret (.bool (validB k r d v (0 : Nat) [] (0 : Nat) [])) (hL []) 2)]
  := by unfold RunIs; kernel_rfl
theorem rLr_TT (k r d v : Int) (lK cK zK lC cC zC : Nat) (ks cs : List Int) : RunIs Try.prog cs3 [(5, .split), (10, .split), (15, .split)] 1000 2 Try.f40 [] (cdLr) (startSt [FV k r (sK true lK cK zK) d v (sC true lC cC zC)] (hF true true ks cs) 2)
    []
    [([((validB k r d v (0 : Nat) [] (0 : Nat) []), true), ((r == (0 : Int)), true), ((k != (8 : Int)), true)],
      [((0 : Nat) ≤ (0 : Nat)), ((0 : Nat) ≤ (1000 : Nat)), ((0 : Nat) ≤ (0 : Nat)), ((0 : Nat) ≤ (1000 : Nat))],
      .ret (.bool true) (hL []) 2),
    ([((validB k r d v (0 : Nat) [] (0 : Nat) []), true), ((r == (0 : Int)), true), ((k != (8 : Int)), false)],
      [((0 : Nat) ≤ (0 : Nat)), ((0 : Nat) ≤ (1000 : Nat)), ((0 : Nat) ≤ (0 : Nat)), ((0 : Nat) ≤ (1000 : Nat))],
      .ret (.bool (v == (0 : Int))) (hL []) 2),
    ([((validB k r d v (0 : Nat) [] (0 : Nat) []), true), ((r == (0 : Int)), false)],
      [((0 : Nat) ≤ (0 : Nat)), ((0 : Nat) ≤ (1000 : Nat)), ((0 : Nat) ≤ (0 : Nat)), ((0 : Nat) ≤ (1000 : Nat))],
      .ret (.bool false) (hL []) 2),
    ([((validB k r d v (0 : Nat) [] (0 : Nat) []), false)],
      [((0 : Nat) ≤ (0 : Nat)), ((0 : Nat) ≤ (1000 : Nat)), ((0 : Nat) ≤ (0 : Nat)), ((0 : Nat) ≤ (1000 : Nat))],
      .ret (.bool false) (hL []) 2)]
  := by unfold RunIs; kernel_rfl
theorem rLo_TF (k r d v : Int) (lK cK zK lC cC zC : Nat) (ks cs : List Int) : RunIs Try.prog cs3 [(4, .split), (8, .split), (13, .split)] 1000 2 Try.f35 [] (cdLo) (startSt [FV k r (sK true lK cK zK) d v (sC false lC cC zC)] (hF true false ks cs) 2)
    []
    [([((validB k r d v (0 : Nat) [] lC cs), true), ((r == (0 : Int)), true), ((k != (8 : Int)), true)],
      [((0 : Nat) ≤ (0 : Nat)), ((0 : Nat) ≤ (1000 : Nat)), (lC ≤ cs.length), (lC ≤ (1000 : Nat))],
      .ret (.bool true) (hL [(1, .ints .i64 (cs))]) 2),
    ([((validB k r d v (0 : Nat) [] lC cs), true), ((r == (0 : Int)), true), ((k != (8 : Int)), false)],
      [((0 : Nat) ≤ (0 : Nat)), ((0 : Nat) ≤ (1000 : Nat)), (lC ≤ cs.length), (lC ≤ (1000 : Nat))],
      .ret (.bool (v == (0 : Int))) (hL [(1, .ints .i64 (cs))]) 2),
    ([((validB k r d v (0 : Nat) [] lC cs), true), ((r == (0 : Int)), false)],
      [((0 : Nat) ≤ (0 : Nat)), ((0 : Nat) ≤ (1000 : Nat)), (lC ≤ cs.length), (lC ≤ (1000 : Nat))],
      .ret (.bool false) (hL [(1, .ints .i64 (cs))]) 2),
    ([((validB k r d v (0 : Nat) [] lC cs), false)],
      [((0 : Nat) ≤ (0 : Nat)), ((0 : Nat) ≤ (1000 : Nat)), (lC ≤ cs.length), (lC ≤ (1000 : Nat))],
      .ret (.bool false) (hL [(1, .ints .i64 (cs))]) 2)]
  := by unfold RunIs; kernel_rfl
theorem rCl_TF (k r d v : Int) (lK cK zK lC cC zC : Nat) (ks cs : List Int) : RunIs Try.prog cs3 [] 1000 2 Try.f34 [] (cdCl) (startSt [FV k r (sK true lK cK zK) d v (sC false lC cC zC)] (hF true false ks cs) 2)
    []
    [([],
      [((0 : Nat) ≤ (0 : Nat)), ((0 : Nat) ≤ (1000 : Nat)), (lC ≤ cs.length), (lC ≤ (1000 : Nat))],
      .ret (.bool (validB k r d v (0 : Nat) [] lC cs)) (hL [(1, .ints .i64 (cs))]) 2)]
  := by unfold RunIs; kernel_rfl
theorem rLr_TF (k r d v : Int) (lK cK zK lC cC zC : Nat) (ks cs : List Int) : RunIs Try.prog cs3 [(5, .split), (10, .split), (15, .split)] 1000 2 Try.f40 [] (cdLr) (startSt [FV k r (sK true lK cK zK) d v (sC false lC cC zC)] (hF true false ks cs) 2)
    []
    [([((validB k r d v (0 : Nat) [] lC cs), true), ((r == (0 : Int)), true), ((k != (8 : Int)), true)],
      [((0 : Nat) ≤ (0 : Nat)), ((0 : Nat) ≤ (1000 : Nat)), (lC ≤ cs.length), (lC ≤ (1000 : Nat))],
      .ret (.bool true) (hL [(1, .ints .i64 (cs))]) 2),
    ([((validB k r d v (0 : Nat) [] lC cs), true), ((r == (0 : Int)), true), ((k != (8 : Int)), false)],
      [((0 : Nat) ≤ (0 : Nat)), ((0 : Nat) ≤ (1000 : Nat)), (lC ≤ cs.length), (lC ≤ (1000 : Nat))],
      .ret (.bool (v == (0 : Int))) (hL [(1, .ints .i64 (cs))]) 2),
    ([((validB k r d v (0 : Nat) [] lC cs), true), ((r == (0 : Int)), false)],
      [((0 : Nat) ≤ (0 : Nat)), ((0 : Nat) ≤ (1000 : Nat)), (lC ≤ cs.length), (lC ≤ (1000 : Nat))],
      .ret (.bool false) (hL [(1, .ints .i64 (cs))]) 2),
    ([((validB k r d v (0 : Nat) [] lC cs), false)],
      [((0 : Nat) ≤ (0 : Nat)), ((0 : Nat) ≤ (1000 : Nat)), (lC ≤ cs.length), (lC ≤ (1000 : Nat))],
      .ret (.bool false) (hL [(1, .ints .i64 (cs))]) 2)]
  := by unfold RunIs; kernel_rfl
theorem rLo_FT (k r d v : Int) (lK cK zK lC cC zC : Nat) (ks cs : List Int) : RunIs Try.prog cs3 [(4, .split), (8, .split), (13, .split)] 1000 2 Try.f35 [] (cdLo) (startSt [FV k r (sK false lK cK zK) d v (sC true lC cC zC)] (hF false true ks cs) 2)
    []
    [([((validB k r d v lK ks (0 : Nat) []), true), ((r == (0 : Int)), true), ((k != (8 : Int)), true)],
      [(lK ≤ ks.length), (lK ≤ (1000 : Nat)), ((0 : Nat) ≤ (0 : Nat)), ((0 : Nat) ≤ (1000 : Nat))],
      .ret (.bool true) (hL [(0, .ints .i64 (ks))]) 2),
    ([((validB k r d v lK ks (0 : Nat) []), true), ((r == (0 : Int)), true), ((k != (8 : Int)), false)],
      [(lK ≤ ks.length), (lK ≤ (1000 : Nat)), ((0 : Nat) ≤ (0 : Nat)), ((0 : Nat) ≤ (1000 : Nat))],
      .ret (.bool (v == (0 : Int))) (hL [(0, .ints .i64 (ks))]) 2),
    ([((validB k r d v lK ks (0 : Nat) []), true), ((r == (0 : Int)), false)],
      [(lK ≤ ks.length), (lK ≤ (1000 : Nat)), ((0 : Nat) ≤ (0 : Nat)), ((0 : Nat) ≤ (1000 : Nat))],
      .ret (.bool false) (hL [(0, .ints .i64 (ks))]) 2),
    ([((validB k r d v lK ks (0 : Nat) []), false)],
      [(lK ≤ ks.length), (lK ≤ (1000 : Nat)), ((0 : Nat) ≤ (0 : Nat)), ((0 : Nat) ≤ (1000 : Nat))],
      .ret (.bool false) (hL [(0, .ints .i64 (ks))]) 2)]
  := by unfold RunIs; kernel_rfl
theorem rCl_FT (k r d v : Int) (lK cK zK lC cC zC : Nat) (ks cs : List Int) : RunIs Try.prog cs3 [] 1000 2 Try.f34 [] (cdCl) (startSt [FV k r (sK false lK cK zK) d v (sC true lC cC zC)] (hF false true ks cs) 2)
    []
    [([],
      [(lK ≤ ks.length), (lK ≤ (1000 : Nat)), ((0 : Nat) ≤ (0 : Nat)), ((0 : Nat) ≤ (1000 : Nat))],
      .ret (.bool (validB k r d v lK ks (0 : Nat) [])) (hL [(0, .ints .i64 (ks))]) 2)]
  := by unfold RunIs; kernel_rfl
theorem rLr_FT (k r d v : Int) (lK cK zK lC cC zC : Nat) (ks cs : List Int) : RunIs Try.prog cs3 [(5, .split), (10, .split), (15, .split)] 1000 2 Try.f40 [] (cdLr) (startSt [FV k r (sK false lK cK zK) d v (sC true lC cC zC)] (hF false true ks cs) 2)
    []
    [([((validB k r d v lK ks (0 : Nat) []), true), ((r == (0 : Int)), true), ((k != (8 : Int)), true)],
      [(lK ≤ ks.length), (lK ≤ (1000 : Nat)), ((0 : Nat) ≤ (0 : Nat)), ((0 : Nat) ≤ (1000 : Nat))],
      .ret (.bool true) (hL [(0, .ints .i64 (ks))]) 2),
    ([((validB k r d v lK ks (0 : Nat) []), true), ((r == (0 : Int)), true), ((k != (8 : Int)), false)],
      [(lK ≤ ks.length), (lK ≤ (1000 : Nat)), ((0 : Nat) ≤ (0 : Nat)), ((0 : Nat) ≤ (1000 : Nat))],
      .ret (.bool (v == (0 : Int))) (hL [(0, .ints .i64 (ks))]) 2),
    ([((validB k r d v lK ks (0 : Nat) []), true), ((r == (0 : Int)), false)],
      [(lK ≤ ks.length), (lK ≤ (1000 : Nat)), ((0 : Nat) ≤ (0 : Nat)), ((0 : Nat) ≤ (1000 : Nat))],
      .ret (.bool false) (hL [(0, .ints .i64 (ks))]) 2),
    ([((validB k r d v lK ks (0 : Nat) []), false)],
      [(lK ≤ ks.length), (lK ≤ (1000 : Nat)), ((0 : Nat) ≤ (0 : Nat)), ((0 : Nat) ≤ (1000 : Nat))],
      .ret (.bool false) (hL [(0, .ints .i64 (ks))]) 2)]
  := by unfold RunIs; kernel_rfl
theorem rLo_FF (k r d v : Int) (lK cK zK lC cC zC : Nat) (ks cs : List Int) : RunIs Try.prog cs3 [(4, .split), (8, .split), (13, .split)] 1000 2 Try.f35 [] (cdLo) (startSt [FV k r (sK false lK cK zK) d v (sC false lC cC zC)] (hF false false ks cs) 2)
    []
    [([((validB k r d v lK ks lC cs), true), ((r == (0 : Int)), true), ((k != (8 : Int)), true)],
      [(lK ≤ ks.length), (lK ≤ (1000 : Nat)), (lC ≤ cs.length), (lC ≤ (1000 : Nat))],
      .ret (.bool true) (hL [(0, .ints .i64 (ks)), (1, .ints .i64 (cs))]) 2),
    ([((validB k r d v lK ks lC cs), true), ((r == (0 : Int)), true), ((k != (8 : Int)), false)],
      [(lK ≤ ks.length), (lK ≤ (1000 : Nat)), (lC ≤ cs.length), (lC ≤ (1000 : Nat))],
      .ret (.bool (v == (0 : Int))) (hL [(0, .ints .i64 (ks)), (1, .ints .i64 (cs))]) 2),
    ([((validB k r d v lK ks lC cs), true), ((r == (0 : Int)), false)],
      [(lK ≤ ks.length), (lK ≤ (1000 : Nat)), (lC ≤ cs.length), (lC ≤ (1000 : Nat))],
      .ret (.bool false) (hL [(0, .ints .i64 (ks)), (1, .ints .i64 (cs))]) 2),
    ([((validB k r d v lK ks lC cs), false)],
      [(lK ≤ ks.length), (lK ≤ (1000 : Nat)), (lC ≤ cs.length), (lC ≤ (1000 : Nat))],
      .ret (.bool false) (hL [(0, .ints .i64 (ks)), (1, .ints .i64 (cs))]) 2)]
  := by unfold RunIs; kernel_rfl
theorem rCl_FF (k r d v : Int) (lK cK zK lC cC zC : Nat) (ks cs : List Int) : RunIs Try.prog cs3 [] 1000 2 Try.f34 [] (cdCl) (startSt [FV k r (sK false lK cK zK) d v (sC false lC cC zC)] (hF false false ks cs) 2)
    []
    [([],
      [(lK ≤ ks.length), (lK ≤ (1000 : Nat)), (lC ≤ cs.length), (lC ≤ (1000 : Nat))],
      .ret (.bool (validB k r d v lK ks lC cs)) (hL [(0, .ints .i64 (ks)), (1, .ints .i64 (cs))]) 2)]
  := by unfold RunIs; kernel_rfl
theorem rLr_FF (k r d v : Int) (lK cK zK lC cC zC : Nat) (ks cs : List Int) : RunIs Try.prog cs3 [(5, .split), (10, .split), (15, .split)] 1000 2 Try.f40 [] (cdLr) (startSt [FV k r (sK false lK cK zK) d v (sC false lC cC zC)] (hF false false ks cs) 2)
    []
    [([((validB k r d v lK ks lC cs), true), ((r == (0 : Int)), true), ((k != (8 : Int)), true)],
      [(lK ≤ ks.length), (lK ≤ (1000 : Nat)), (lC ≤ cs.length), (lC ≤ (1000 : Nat))],
      .ret (.bool true) (hL [(0, .ints .i64 (ks)), (1, .ints .i64 (cs))]) 2),
    ([((validB k r d v lK ks lC cs), true), ((r == (0 : Int)), true), ((k != (8 : Int)), false)],
      [(lK ≤ ks.length), (lK ≤ (1000 : Nat)), (lC ≤ cs.length), (lC ≤ (1000 : Nat))],
      .ret (.bool (v == (0 : Int))) (hL [(0, .ints .i64 (ks)), (1, .ints .i64 (cs))]) 2),
    ([((validB k r d v lK ks lC cs), true), ((r == (0 : Int)), false)],
      [(lK ≤ ks.length), (lK ≤ (1000 : Nat)), (lC ≤ cs.length), (lC ≤ (1000 : Nat))],
      .ret (.bool false) (hL [(0, .ints .i64 (ks)), (1, .ints .i64 (cs))]) 2),
    ([((validB k r d v lK ks lC cs), false)],
      [(lK ≤ ks.length), (lK ≤ (1000 : Nat)), (lC ≤ cs.length), (lC ≤ (1000 : Nat))],
      .ret (.bool false) (hL [(0, .ints .i64 (ks)), (1, .ints .i64 (cs))]) 2)]
  := by unfold RunIs; kernel_rfl
end Go.Proofs.Ytadejpmecljjpaa
namespace Go.Proofs.Ytadejpmecljjpaa
open Go Go.Eng
def localB (vb : Bool) (k r v : Int) : Bool := vb && ((r == 0) && ((k != 8) || (v == 0)))
def RLo : RF := fun k r d v lK ks lC cs X => match X with
  | [] => some (.bool (localB (validB k r d v lK ks lC cs) k r v))
  | _ => none
theorem RLo_X {k r d v : Int} {lK : Nat} {ks : List Int} {lC : Nat} {cs : List Int} {X : List V} {u : V} (h : RLo k r d v lK ks lC cs X = some u) : X = [] ∧ u = .bool (localB (validB k r d v lK ks lC cs) k r v) := by
  unfold RLo at h
  split at h
  · cases h; exact ⟨rfl, rfl⟩
  · cases h
theorem RCl_X {k r d v : Int} {lK : Nat} {ks : List Int} {lC : Nat} {cs : List Int} {X : List V} {u : V} (h : R21 k r d v lK ks lC cs X = some u) : X = [] ∧ u = .bool (validB k r d v lK ks lC cs) := by
  unfold R21 at h
  split at h
  · cases h; exact ⟨rfl, rfl⟩
  · cases h
theorem four_ok {l : Nat} {ks : List Int} {m : Nat} {cs : List Int} (h1 : l ≤ ks.length) (h2 : l ≤ 1000) (h3 : m ≤ cs.length) (h4 : m ≤ 1000) : ∀ a ∈ [(l ≤ ks.length), (l ≤ (1000 : Nat)), (m ≤ cs.length), (m ≤ (1000 : Nat))], a := by
  simp only [List.mem_cons, List.not_mem_nil, or_false]
  rintro a (rfl | rfl | rfl | rfl) <;> assumption
section
variable {nK nC : Bool} (k r d v : Int) (lK cK zK lC cC zC : Nat) (ks cs : List Int)
theorem tgLo (h1 : ln nK lK ≤ (rw' nK ks).length) (h2 : ln nK lK ≤ 1000) (h3 : ln nC lC ≤ (rw' nC cs).length) (h4 : ln nC lC ≤ 1000) :
    TG Try.prog 2 Try.f35.ntmps cdLo (startSt [FV k r (sK nK lK cK zK) d v (sC nC lC cC zC)] (hF nK nC ks cs) 2) (RetG Try.prog 2 Try.f35 fun a _ _ => a = .bool (localB (validB k r d v (ln nK lK) (rw' nK ks) (ln nC lC) (rw' nC cs)) k r v)) := by
  cases nK <;> cases nC
  · refine TG_ret X3 mo _ (by kernel_rfl) (rLo_FF k r d v lK cK zK lC cC zC ks cs) fun g hg hc => ?_
    simp only [List.mem_cons, List.not_mem_nil, or_false] at hg
    rcases hg with rfl | rfl | rfl | rfl <;> refine ⟨four_ok h1 h2 h3 h4, _, _, _, rfl, ?_⟩ <;> simp only [List.mem_cons, List.not_mem_nil, or_false, forall_eq_or_imp, forall_eq] at hc <;> simp only [localB, ln, rw'] <;> generalize validB k r d v lK ks lC cs = vb at hc ⊢ <;> simp_all
  · refine TG_ret X3 mo _ (by kernel_rfl) (rLo_FT k r d v lK cK zK lC cC zC ks cs) fun g hg hc => ?_
    simp only [List.mem_cons, List.not_mem_nil, or_false] at hg
    rcases hg with rfl | rfl | rfl | rfl <;> refine ⟨four_ok h1 h2 h3 h4, _, _, _, rfl, ?_⟩ <;> simp only [List.mem_cons, List.not_mem_nil, or_false, forall_eq_or_imp, forall_eq] at hc <;> simp only [localB, ln, rw'] <;> generalize validB k r d v lK ks 0 [] = vb at hc ⊢ <;> simp_all
  · refine TG_ret X3 mo _ (by kernel_rfl) (rLo_TF k r d v lK cK zK lC cC zC ks cs) fun g hg hc => ?_
    simp only [List.mem_cons, List.not_mem_nil, or_false] at hg
    rcases hg with rfl | rfl | rfl | rfl <;> refine ⟨four_ok h1 h2 h3 h4, _, _, _, rfl, ?_⟩ <;> simp only [List.mem_cons, List.not_mem_nil, or_false, forall_eq_or_imp, forall_eq] at hc <;> simp only [localB, ln, rw'] <;> generalize validB k r d v 0 [] lC cs = vb at hc ⊢ <;> simp_all
  · refine TG_ret X3 mo _ (by kernel_rfl) (rLo_TT k r d v lK cK zK lC cC zC ks cs) fun g hg hc => ?_
    simp only [List.mem_cons, List.not_mem_nil, or_false] at hg
    rcases hg with rfl | rfl | rfl | rfl <;> refine ⟨four_ok h1 h2 h3 h4, _, _, _, rfl, ?_⟩ <;> simp only [List.mem_cons, List.not_mem_nil, or_false, forall_eq_or_imp, forall_eq] at hc <;> simp only [localB, ln, rw'] <;> generalize validB k r d v 0 [] 0 [] = vb at hc ⊢ <;> simp_all
theorem tgLr (h1 : ln nK lK ≤ (rw' nK ks).length) (h2 : ln nK lK ≤ 1000) (h3 : ln nC lC ≤ (rw' nC cs).length) (h4 : ln nC lC ≤ 1000) :
    TG Try.prog 2 Try.f40.ntmps cdLr (startSt [FV k r (sK nK lK cK zK) d v (sC nC lC cC zC)] (hF nK nC ks cs) 2) (RetG Try.prog 2 Try.f40 fun a _ _ => a = .bool (localB (validB k r d v (ln nK lK) (rw' nK ks) (ln nC lC) (rw' nC cs)) k r v)) := by
  cases nK <;> cases nC
  · refine TG_ret X3 mo _ (by kernel_rfl) (rLr_FF k r d v lK cK zK lC cC zC ks cs) fun g hg hc => ?_
    simp only [List.mem_cons, List.not_mem_nil, or_false] at hg
    rcases hg with rfl | rfl | rfl | rfl <;> refine ⟨four_ok h1 h2 h3 h4, _, _, _, rfl, ?_⟩ <;> simp only [List.mem_cons, List.not_mem_nil, or_false, forall_eq_or_imp, forall_eq] at hc <;> simp only [localB, ln, rw'] <;> generalize validB k r d v lK ks lC cs = vb at hc ⊢ <;> simp_all
  · refine TG_ret X3 mo _ (by kernel_rfl) (rLr_FT k r d v lK cK zK lC cC zC ks cs) fun g hg hc => ?_
    simp only [List.mem_cons, List.not_mem_nil, or_false] at hg
    rcases hg with rfl | rfl | rfl | rfl <;> refine ⟨four_ok h1 h2 h3 h4, _, _, _, rfl, ?_⟩ <;> simp only [List.mem_cons, List.not_mem_nil, or_false, forall_eq_or_imp, forall_eq] at hc <;> simp only [localB, ln, rw'] <;> generalize validB k r d v lK ks 0 [] = vb at hc ⊢ <;> simp_all
  · refine TG_ret X3 mo _ (by kernel_rfl) (rLr_TF k r d v lK cK zK lC cC zC ks cs) fun g hg hc => ?_
    simp only [List.mem_cons, List.not_mem_nil, or_false] at hg
    rcases hg with rfl | rfl | rfl | rfl <;> refine ⟨four_ok h1 h2 h3 h4, _, _, _, rfl, ?_⟩ <;> simp only [List.mem_cons, List.not_mem_nil, or_false, forall_eq_or_imp, forall_eq] at hc <;> simp only [localB, ln, rw'] <;> generalize validB k r d v 0 [] lC cs = vb at hc ⊢ <;> simp_all
  · refine TG_ret X3 mo _ (by kernel_rfl) (rLr_TT k r d v lK cK zK lC cC zC ks cs) fun g hg hc => ?_
    simp only [List.mem_cons, List.not_mem_nil, or_false] at hg
    rcases hg with rfl | rfl | rfl | rfl <;> refine ⟨four_ok h1 h2 h3 h4, _, _, _, rfl, ?_⟩ <;> simp only [List.mem_cons, List.not_mem_nil, or_false, forall_eq_or_imp, forall_eq] at hc <;> simp only [localB, ln, rw'] <;> generalize validB k r d v 0 [] 0 [] = vb at hc ⊢ <;> simp_all
theorem tgCl (h1 : ln nK lK ≤ (rw' nK ks).length) (h2 : ln nK lK ≤ 1000) (h3 : ln nC lC ≤ (rw' nC cs).length) (h4 : ln nC lC ≤ 1000) :
    TG Try.prog 2 Try.f34.ntmps cdCl (startSt [FV k r (sK nK lK cK zK) d v (sC nC lC cC zC)] (hF nK nC ks cs) 2) (RetG Try.prog 2 Try.f34 fun a _ _ => a = .bool (validB k r d v (ln nK lK) (rw' nK ks) (ln nC lC) (rw' nC cs))) := by
  cases nK <;> cases nC
  · refine TG_ret X3 mo _ (by kernel_rfl) (rCl_FF k r d v lK cK zK lC cC zC ks cs) fun g hg hc => ?_
    rw [List.mem_singleton] at hg; subst hg
    exact ⟨four_ok h1 h2 h3 h4, _, _, _, rfl, rfl⟩
  · refine TG_ret X3 mo _ (by kernel_rfl) (rCl_FT k r d v lK cK zK lC cC zC ks cs) fun g hg hc => ?_
    rw [List.mem_singleton] at hg; subst hg
    exact ⟨four_ok h1 h2 h3 h4, _, _, _, rfl, rfl⟩
  · refine TG_ret X3 mo _ (by kernel_rfl) (rCl_TF k r d v lK cK zK lC cC zC ks cs) fun g hg hc => ?_
    rw [List.mem_singleton] at hg; subst hg
    exact ⟨four_ok h1 h2 h3 h4, _, _, _, rfl, rfl⟩
  · refine TG_ret X3 mo _ (by kernel_rfl) (rCl_TT k r d v lK cK zK lC cC zC ks cs) fun g hg hc => ?_
    rw [List.mem_singleton] at hg; subst hg
    exact ⟨four_ok h1 h2 h3 h4, _, _, _, rfl, rfl⟩
end
theorem pLo : PureA Try.prog 35 (specF RLo) := by
  refine pureFG (Nat.le_of_ble_eq_true (by kernel_rfl)) Try.func35 (code := cdLo) (by kernel_rfl) (fun k r d v lK ks lC cs X u h => ?_) (fun k r d v lK ks lC cs X u nK nC cK zK cC zC h h1 h2 h3 h4 => ?_)
  · obtain ⟨rfl, rfl⟩ := RLo_X h; exact ⟨rfl, rfl, by kernel_rfl⟩
  · obtain ⟨rfl, rfl⟩ := RLo_X h; exact tgLo k r d v lK cK zK lC cC zC ks cs h1 h2 h3 h4
theorem pLr : PureA Try.prog 40 (specF RLo) := by
  refine pureFG (Nat.le_of_ble_eq_true (by kernel_rfl)) Try.func40 (code := cdLr) (by kernel_rfl) (fun k r d v lK ks lC cs X u h => ?_) (fun k r d v lK ks lC cs X u nK nC cK zK cC zC h h1 h2 h3 h4 => ?_)
  · obtain ⟨rfl, rfl⟩ := RLo_X h; exact ⟨rfl, rfl, by kernel_rfl⟩
  · obtain ⟨rfl, rfl⟩ := RLo_X h; exact tgLr k r d v lK cK zK lC cC zC ks cs h1 h2 h3 h4
theorem pCl : PureA Try.prog 34 (specF R21) := by
  refine pureFG (Nat.le_of_ble_eq_true (by kernel_rfl)) Try.func34 (code := cdCl) (by kernel_rfl) (fun k r d v lK ks lC cs X u h => ?_) (fun k r d v lK ks lC cs X u nK nC cK zK cC zC h h1 h2 h3 h4 => ?_)
  · obtain ⟨rfl, rfl⟩ := RCl_X h; exact ⟨rfl, rfl, by kernel_rfl⟩
  · obtain ⟨rfl, rfl⟩ := RCl_X h; exact tgCl k r d v lK cK zK lC cC zC ks cs h1 h2 h3 h4
noncomputable abbrev W4 : CtrW := addW 35 (readW (specF RLo)) (addW 40 (readW (specF RLo)) (addW 34 (readW (specF R21)) W3))
theorem W4_ok : CtrWOk Try.prog W4 := addW_ok (readW_ok pLo) (addW_ok (readW_ok pLr) (addW_ok (readW_ok pCl) W3_ok))
noncomputable abbrev cs4 : CallS := callX Try.prog W4 H0 1000 40
noncomputable abbrev X4 : CX Try.prog := CX.of mo po W4_ok H0 1000 40
end Go.Proofs.Ytadejpmecljjpaa
