/- The Chunk laws: ChunkOnce, its pieces. No conditions. -/
import Derived.Test.YtfihojpgobmmdaaGreatDoorJointFourteen
import Derived.Test.YtfihojpgobmmdaaGreatDoorJointFifteen
set_option linter.unusedVariables false
set_option linter.unusedSimpArgs false
set_option linter.unusedSectionVars false
namespace Go.Proofs.YtfihojpgobmmdaaGreatDoor
open Go Go.Eng
noncomputable abbrev cdOn : Code := bodyOf Tryz.f4
noncomputable abbrev tlOn : Code := tailN 4 cdOn
noncomputable abbrev lpOn : Code := seqL tlOn
noncomputable abbrev rdOn : Code := inner (inner (seqR lpOn))
noncomputable abbrev bdOn : Code := inner (seqL (seqR rdOn))
abbrev P3 : V := .ptr (some (3, 0))
abbrev nilS : V := .slc none 0 0 0
def stO (f : Bool) (l : List (List UInt8)) (r : List (Nat × V)) (h : Tr O) (n : Nat) : St := stG ((0, .lst f l.length (strs l)) :: (3, .bool true) :: (4, P3) :: r) h n
noncomputable abbrev pn15 (a : List V) (h : Tr O) (n : Nat) (r : V × Tr O × Nat) : CallS := pinS csL 15 a h n r
abbrev one1 (b : List UInt8) : V := .lst false 1 [.str b]
def hJ (d : List UInt8) (p : Sto) : Tr O := (memS p).set 7 (some (.cells [.str d]))
theorem oa_1 (f : Bool) (l : List (List UInt8)) : ∃ L, RunIs Tryz.prog csL [] 1000 3 Tryz.f4 [0, 3, 4, 5] (headN 4 cdOn) (startSt [.lst f l.length (strs l)] (hSR gS gR) 3) L
    [([],
      [(gS = gS), (gR = gR)],
      .to .normal (stG [(0, .lst f (l.length) (strs l)), (3, .bool true), (4, .ptr (some (3, 0))), (5, .slc none 0 0 0)] (hL [(0, .ints .u32 gS), (1, .ints .u32 gR), (3, .cells [.slc none 0 0 0, .int .i64 0, .map (some 4), .map (some 5), .int .i64 0, .bool false, .bool false, .int .i64 0]), (4, .map [] 0), (5, .map [] 0)]) 6))]
  := RunIs.of (by kernel_rfl) (by kernel_rfl) (by kernel_rfl)
theorem oa_2 (f : Bool) (l : List (List UInt8)) : ∃ L, RunIs Tryz.prog csL [(6, .give (.int .i64 (Int.ofNat 0)))] 1000 3 Tryz.f4 [0, 3, 4, 5, 6] (seqL lpOn) (stO f l [(5, nilS)] (mem0 0 0 0 [] []) 6) L
    [([],
      [(V.int IntKind.i64 (0 : Int) = V.int IntKind.i64 (0 : Int))],
      .to .normal (stG [(0, .lst f (l.length) (strs l)), (3, .bool true), (4, .ptr (some (3, 0))), (5, .slc none 0 0 0), (6, .int .i64 0)] (hL [(0, .ints .u32 gS), (1, .ints .u32 gR), (3, .cells [.slc none 0 0 0, .int .i64 0, .map (some 4), .map (some 5), .int .i64 0, .bool false, .bool false, .int .i64 0]), (4, .mapD none []), (5, .mapD none [])]) 6))]
  := RunIs.of (by kernel_rfl) (by kernel_rfl) (by kernel_rfl)
theorem oa_3n (f : Bool) (l : List (List UInt8)) (i : Nat) : ∃ L, RunIs Tryz.prog csL [(23, .split), (26, .split)] 1000 3 Tryz.f4 [0, 3, 4, 5, 6] (seqL rdOn) (stO f l [(5, nilS), (6, .int .i64 (Int.ofNat i))] (mem0 0 0 0 [] []) 6) L
    [([((decide (Int.ofNat i < (Int.ofNat l.length))), true), ((decide (Int.ofNat i < (12 : Int))), true)],
      [],
      .to .normal (stG [(0, .lst f (l.length) (strs l)), (3, .bool true), (4, .ptr (some (3, 0))), (5, .slc none 0 0 0), (6, .int .i64 (Int.ofNat i))] (hL [(0, .ints .u32 gS), (1, .ints .u32 gR), (3, .cells [.slc none 0 0 0, .int .i64 0, .map (some 4), .map (some 5), .int .i64 0, .bool false, .bool false, .int .i64 0]), (4, .mapD none []), (5, .mapD none [])]) 6)),
    ([((decide (Int.ofNat i < (Int.ofNat l.length))), true), ((decide (Int.ofNat i < (12 : Int))), false)],
      [],
      .to (.exit 0) (stG [(0, .lst f (l.length) (strs l)), (3, .bool true), (4, .ptr (some (3, 0))), (5, .slc none 0 0 0), (6, .int .i64 (Int.ofNat i))] (hL [(0, .ints .u32 gS), (1, .ints .u32 gR), (3, .cells [.slc none 0 0 0, .int .i64 0, .map (some 4), .map (some 5), .int .i64 0, .bool false, .bool false, .int .i64 0]), (4, .mapD none []), (5, .mapD none [])]) 6)),
    ([((decide (Int.ofNat i < (Int.ofNat l.length))), false)],
      [],
      .to (.exit 0) (stG [(0, .lst f (l.length) (strs l)), (3, .bool true), (4, .ptr (some (3, 0))), (5, .slc none 0 0 0), (6, .int .i64 (Int.ofNat i))] (hL [(0, .ints .u32 gS), (1, .ints .u32 gR), (3, .cells [.slc none 0 0 0, .int .i64 0, .map (some 4), .map (some 5), .int .i64 0, .bool false, .bool false, .int .i64 0]), (4, .mapD none []), (5, .mapD none [])]) 6))]
  := RunIs.of (by kernel_rfl) (by kernel_rfl) (by kernel_rfl)
theorem oa_3s (f : Bool) (l : List (List UInt8)) (i : Nat) (b : List UInt8) (p : Sto) (len cap : Nat) (lg : List UInt8) (fl nx lf : Int) (es : List (D × D)) : ∃ L, RunIs Tryz.prog csL [(23, .split), (26, .split)] 1000 3 Tryz.f4 [0, 3, 4, 5, 6] (seqL rdOn) (stO f l [(5, one1 b), (6, .int .i64 (Int.ofNat i))] (memS (pS len cap lg fl nx lf es [])) 7) L
    [([((decide (Int.ofNat i < (Int.ofNat l.length))), true), ((decide (Int.ofNat i < (12 : Int))), true)],
      [],
      .to .normal (stG [(0, .lst f (l.length) (strs l)), (3, .bool true), (4, .ptr (some (3, 0))), (5, .lst false 1 [.str b]), (6, .int .i64 (Int.ofNat i))] (memS (pS len cap lg fl nx lf es [])) 7)),
    ([((decide (Int.ofNat i < (Int.ofNat l.length))), true), ((decide (Int.ofNat i < (12 : Int))), false)],
      [],
      .to (.exit 0) (stG [(0, .lst f (l.length) (strs l)), (3, .bool true), (4, .ptr (some (3, 0))), (5, .lst false 1 [.str b]), (6, .int .i64 (Int.ofNat i))] (memS (pS len cap lg fl nx lf es [])) 7)),
    ([((decide (Int.ofNat i < (Int.ofNat l.length))), false)],
      [],
      .to (.exit 0) (stG [(0, .lst f (l.length) (strs l)), (3, .bool true), (4, .ptr (some (3, 0))), (5, .lst false 1 [.str b]), (6, .int .i64 (Int.ofNat i))] (memS (pS len cap lg fl nx lf es [])) 7))]
  := RunIs.of (by kernel_rfl) (by kernel_rfl) (by kernel_rfl)
theorem oa_7n (f : Bool) (l : List (List UInt8)) (i : Nat) (x d : List UInt8) : ∃ L, RunIs Tryz.prog csL [(32, .give (.fptr [.str x])), (36, .give (.fptr [.str x])), (40, .give (.str d))] 1000 3 Tryz.f4 [0, 3, 4, 5, 6, 7] (seqL bdOn) (stO f l [(5, nilS), (6, .int .i64 (Int.ofNat i))] (mem0 0 0 0 [] []) 6) L
    [([],
      [((0 : Int) ≤ Int.ofNat i ∧ Int.ofNat i < (Int.ofNat l.length)), ((strs l).length = l.length * 1), (V.fptr (cellsAt (strs l) ((Int.ofNat i).toNat * 1) 1) = V.fptr [D.str x]), ((0 : Int) ≤ Int.ofNat i ∧ Int.ofNat i < (Int.ofNat l.length)), ((strs l).length = l.length * 1), (V.fptr (cellsAt (strs l) ((Int.ofNat i).toNat * 1) 1) = V.fptr [D.str x]), (((0 : Int) ≤ if (200 : Int) < (Int.ofNat x.length) then (200 : Int) else (Int.ofNat x.length)) ∧ (if (200 : Int) < (Int.ofNat x.length) then (200 : Int) else (Int.ofNat x.length)) ≤ (Int.ofNat x.length)), (V.str (List.drop 0 (List.take (if (200 : Int) < (Int.ofNat x.length) then (200 : Int) else (Int.ofNat x.length)).toNat x)) = V.str d)],
      .to .normal (stG [(0, .lst f (l.length) (strs l)), (3, .bool true), (4, .ptr (some (3, 0))), (5, .slc none 0 0 0), (6, .int .i64 (Int.ofNat i)), (7, .str d)] (hL [(0, .ints .u32 gS), (1, .ints .u32 gR), (3, .cells [.slc none 0 0 0, .int .i64 0, .map (some 4), .map (some 5), .int .i64 0, .bool false, .bool false, .int .i64 0]), (4, .mapD none []), (5, .mapD none [])]) 6))]
  := RunIs.of (by kernel_rfl) (by kernel_rfl) (by kernel_rfl)
theorem oa_7s (f : Bool) (l : List (List UInt8)) (i : Nat) (x d b : List UInt8) (len cap : Nat) (lg : List UInt8) (fl nx lf : Int) (es : List (D × D)) : ∃ L, RunIs Tryz.prog csL [(32, .give (.fptr [.str x])), (36, .give (.fptr [.str x])), (40, .give (.str d))] 1000 3 Tryz.f4 [0, 3, 4, 5, 6, 7] (seqL bdOn) (stO f l [(5, one1 b), (6, .int .i64 (Int.ofNat i))] (memS (pS len cap lg fl nx lf es [])) 7) L
    [([],
      [((0 : Int) ≤ Int.ofNat i ∧ Int.ofNat i < (Int.ofNat l.length)), ((strs l).length = l.length * 1), (V.fptr (cellsAt (strs l) ((Int.ofNat i).toNat * 1) 1) = V.fptr [D.str x]), ((0 : Int) ≤ Int.ofNat i ∧ Int.ofNat i < (Int.ofNat l.length)), ((strs l).length = l.length * 1), (V.fptr (cellsAt (strs l) ((Int.ofNat i).toNat * 1) 1) = V.fptr [D.str x]), (((0 : Int) ≤ if (200 : Int) < (Int.ofNat x.length) then (200 : Int) else (Int.ofNat x.length)) ∧ (if (200 : Int) < (Int.ofNat x.length) then (200 : Int) else (Int.ofNat x.length)) ≤ (Int.ofNat x.length)), (V.str (List.drop 0 (List.take (if (200 : Int) < (Int.ofNat x.length) then (200 : Int) else (Int.ofNat x.length)).toNat x)) = V.str d)],
      .to .normal (stG [(0, .lst f (l.length) (strs l)), (3, .bool true), (4, .ptr (some (3, 0))), (5, .lst false 1 [.str b]), (6, .int .i64 (Int.ofNat i)), (7, .str d)] (memS (pS len cap lg fl nx lf es [])) 7))]
  := RunIs.of (by kernel_rfl) (by kernel_rfl) (by kernel_rfl)
theorem oa_8n (f : Bool) (l : List (List UInt8)) (i : Nat) (d a : List UInt8) (n : Nat) (lg : List UInt8) (nx : Int) (es : List (D × D)) : ∃ L, RunIs Tryz.prog (pn15 [P3, .str d, nilS] (mem0 0 0 0 [] []) 6 (.tup [.str a, okE], mem0w n lg 0 nx 0 es [], 7)) [] 1000 3 Tryz.f4 [0, 3, 4, 5, 6, 7, 8, 9] (seqL (tailN 1 bdOn)) (stO f l [(5, nilS), (6, .int .i64 (Int.ofNat i)), (7, .str d)] (mem0 0 0 0 [] []) 6) L
    [([],
      [(([.ptr (some (3, 0)), .str d, .slc none 0 0 0] : List V) = [.ptr (some (3, 0)), .str d, .slc none 0 0 0] ∧ (hL [(0, .ints .u32 gS), (1, .ints .u32 gR), (3, .cells [.slc none 0 0 0, .int .i64 0, .map (some 4), .map (some 5), .int .i64 0, .bool false, .bool false, .int .i64 0]), (4, .mapD none []), (5, .mapD none [])]) = (hL [(0, .ints .u32 gS), (1, .ints .u32 gR), (3, .cells [.slc none 0 0 0, .int .i64 0, .map (some 4), .map (some 5), .int .i64 0, .bool false, .bool false, .int .i64 0]), (4, .mapD none []), (5, .mapD none [])]) ∧ 6 = 6)],
      .to .normal (stG [(0, .lst f (l.length) (strs l)), (3, .bool true), (4, .ptr (some (3, 0))), (5, .slc none 0 0 0), (6, .int .i64 (Int.ofNat i)), (7, .str d), (8, .str a), (9, .int .i64 0)] (memS (pS n n lg 0 nx 0 es [])) 7))]
  := RunIs.of (by kernel_rfl) (by kernel_rfl) (by kernel_rfl)
theorem oa_8o (f : Bool) (l : List (List UInt8)) (i : Nat) (d a b : List UInt8) (len cap : Nat) (lg : List UInt8) (fl nx lf : Int) (es : List (D × D)) : ∃ L, RunIs Tryz.prog (pn15 [P3, .str d, nilS] (memS (pS len cap lg fl nx lf es [])) 7 (.tup [.str a, okE], memS (pS len cap lg fl nx lf es []), 7)) [] 1000 3 Tryz.f4 [0, 3, 4, 5, 6, 7, 8, 9] (seqL (tailN 1 bdOn)) (stO f l [(5, one1 b), (6, .int .i64 (Int.ofNat i)), (7, .str d)] (memS (pS len cap lg fl nx lf es [])) 7) L
    [([],
      [(([.ptr (some (3, 0)), .str d, .slc none 0 0 0] : List V) = [.ptr (some (3, 0)), .str d, .slc none 0 0 0] ∧ (memS (pS len cap lg fl nx lf es [])) = (memS (pS len cap lg fl nx lf es [])) ∧ 7 = 7)],
      .to .normal (stG [(0, .lst f (l.length) (strs l)), (3, .bool true), (4, .ptr (some (3, 0))), (5, .lst false 1 [.str b]), (6, .int .i64 (Int.ofNat i)), (7, .str d), (8, .str a), (9, .int .i64 0)] (memS (pS len cap lg fl nx lf es [])) 7))]
  := RunIs.of (by kernel_rfl) (by kernel_rfl) (by kernel_rfl)
theorem oa_8w (f : Bool) (l : List (List UInt8)) (i : Nat) (d a b : List UInt8) (len cap : Nat) (lg : List UInt8) (fl nx lf : Int) (es : List (D × D)) (n : Nat) (lg2 : List UInt8) (nx2 : Int) (es2 : List (D × D)) : ∃ L, RunIs Tryz.prog (pn15 [P3, .str d, nilS] (memS (pS len cap lg fl nx lf es [])) 7 (.tup [.str a, okE], memNw n lg2 fl nx2 lf es2 [], 8)) [] 1000 3 Tryz.f4 [0, 3, 4, 5, 6, 7, 8, 9] (seqL (tailN 1 bdOn)) (stO f l [(5, one1 b), (6, .int .i64 (Int.ofNat i)), (7, .str d)] (memS (pS len cap lg fl nx lf es [])) 7) L
    [([],
      [(([.ptr (some (3, 0)), .str d, .slc none 0 0 0] : List V) = [.ptr (some (3, 0)), .str d, .slc none 0 0 0] ∧ (memS (pS len cap lg fl nx lf es [])) = (memS (pS len cap lg fl nx lf es [])) ∧ 7 = 7)],
      .to .normal (stG [(0, .lst f (l.length) (strs l)), (3, .bool true), (4, .ptr (some (3, 0))), (5, .lst false 1 [.str b]), (6, .int .i64 (Int.ofNat i)), (7, .str d), (8, .str a), (9, .int .i64 0)] (memS (pS n n lg2 fl nx2 lf es2 [])) 7))]
  := RunIs.of (by kernel_rfl) (by kernel_rfl) (by kernel_rfl)
theorem oa_9n (f : Bool) (l : List (List UInt8)) (i : Nat) (d a c : List UInt8) (len cap : Nat) (lg : List UInt8) (fl nx lf : Int) (es : List (D × D)) : ∃ L, RunIs Tryz.prog (pn15 [P3, .str d, nilS] (memS (pS len cap lg fl nx lf es [])) 7 (.tup [.str c, okE], memS (pS len cap lg fl nx lf es []), 7)) [] 1000 3 Tryz.f4 [0, 3, 4, 5, 6, 7, 8, 9, 10, 11] (seqL (tailN 2 bdOn)) (stO f l [(5, nilS), (6, .int .i64 (Int.ofNat i)), (7, .str d), (8, .str a), (9, okE)] (memS (pS len cap lg fl nx lf es [])) 7) L
    [([],
      [(([.ptr (some (3, 0)), .str d, .slc none 0 0 0] : List V) = [.ptr (some (3, 0)), .str d, .slc none 0 0 0] ∧ (memS (pS len cap lg fl nx lf es [])) = (memS (pS len cap lg fl nx lf es [])) ∧ 7 = 7)],
      .to .normal (stG [(0, .lst f (l.length) (strs l)), (3, .bool true), (4, .ptr (some (3, 0))), (5, .slc none 0 0 0), (6, .int .i64 (Int.ofNat i)), (7, .str d), (8, .str a), (9, .int .i64 0), (10, .str c), (11, .int .i64 0)] (memS (pS len cap lg fl nx lf es [])) 7))]
  := RunIs.of (by kernel_rfl) (by kernel_rfl) (by kernel_rfl)
theorem oa_9o (f : Bool) (l : List (List UInt8)) (i : Nat) (d a b c : List UInt8) (len cap : Nat) (lg : List UInt8) (fl nx lf : Int) (es : List (D × D)) : ∃ L, RunIs Tryz.prog (pn15 [P3, .str d, one1 b] (memS (pS len cap lg fl nx lf es [])) 7 (.tup [.str c, okE], memS (pS len cap lg fl nx lf es []), 7)) [] 1000 3 Tryz.f4 [0, 3, 4, 5, 6, 7, 8, 9, 10, 11] (seqL (tailN 2 bdOn)) (stO f l [(5, one1 b), (6, .int .i64 (Int.ofNat i)), (7, .str d), (8, .str a), (9, okE)] (memS (pS len cap lg fl nx lf es [])) 7) L
    [([],
      [(([.ptr (some (3, 0)), .str d, .lst false 1 [.str b]] : List V) = [.ptr (some (3, 0)), .str d, .lst false 1 [.str b]] ∧ (memS (pS len cap lg fl nx lf es [])) = (memS (pS len cap lg fl nx lf es [])) ∧ 7 = 7)],
      .to .normal (stG [(0, .lst f (l.length) (strs l)), (3, .bool true), (4, .ptr (some (3, 0))), (5, .lst false 1 [.str b]), (6, .int .i64 (Int.ofNat i)), (7, .str d), (8, .str a), (9, .int .i64 0), (10, .str c), (11, .int .i64 0)] (memS (pS len cap lg fl nx lf es [])) 7))]
  := RunIs.of (by kernel_rfl) (by kernel_rfl) (by kernel_rfl)
theorem oa_9w (f : Bool) (l : List (List UInt8)) (i : Nat) (d a b c : List UInt8) (len cap : Nat) (lg : List UInt8) (fl nx lf : Int) (es : List (D × D)) (n : Nat) (lg2 : List UInt8) (nx2 : Int) (es2 : List (D × D)) : ∃ L, RunIs Tryz.prog (pn15 [P3, .str d, one1 b] (memS (pS len cap lg fl nx lf es [])) 7 (.tup [.str c, okE], memNw n lg2 fl nx2 lf es2 [], 8)) [] 1000 3 Tryz.f4 [0, 3, 4, 5, 6, 7, 8, 9, 10, 11] (seqL (tailN 2 bdOn)) (stO f l [(5, one1 b), (6, .int .i64 (Int.ofNat i)), (7, .str d), (8, .str a), (9, okE)] (memS (pS len cap lg fl nx lf es [])) 7) L
    [([],
      [(([.ptr (some (3, 0)), .str d, .lst false 1 [.str b]] : List V) = [.ptr (some (3, 0)), .str d, .lst false 1 [.str b]] ∧ (memS (pS len cap lg fl nx lf es [])) = (memS (pS len cap lg fl nx lf es [])) ∧ 7 = 7)],
      .to .normal (stG [(0, .lst f (l.length) (strs l)), (3, .bool true), (4, .ptr (some (3, 0))), (5, .lst false 1 [.str b]), (6, .int .i64 (Int.ofNat i)), (7, .str d), (8, .str a), (9, .int .i64 0), (10, .str c), (11, .int .i64 0)] (memS (pS n n lg2 fl nx2 lf es2 [])) 7))]
  := RunIs.of (by kernel_rfl) (by kernel_rfl) (by kernel_rfl)
theorem oa_10n (f : Bool) (l : List (List UInt8)) (i : Nat) (d a c : List UInt8) (len cap : Nat) (lg : List UInt8) (fl nx lf : Int) (es : List (D × D)) : ∃ L, RunIs Tryz.prog csL [] 1000 3 Tryz.f4 [0, 3, 4, 5, 6, 7, 8, 9, 10, 11, 12, 13] (headN 2 (tailN 3 bdOn)) (stO f l [(5, nilS), (6, .int .i64 (Int.ofNat i)), (7, .str d), (8, .str a), (9, okE), (10, .str c), (11, okE)] (memS (pS len cap lg fl nx lf es [])) 7) L
    [([],
      [],
      .to .normal (stG [(0, .lst f (l.length) (strs l)), (3, .bool true), (4, .ptr (some (3, 0))), (5, .slc none 0 0 0), (6, .int .i64 (Int.ofNat i)), (7, .str d), (8, .str a), (9, .int .i64 0), (10, .str c), (11, .int .i64 0), (12, .int .i64 ((Int.ofNat es.length))), (13, .int .i64 ((Int.ofNat len)))] (memS (pS len cap lg fl nx lf es [])) 7))]
  := RunIs.of (by kernel_rfl) (by kernel_rfl) (by kernel_rfl)
theorem oa_10l (f : Bool) (l : List (List UInt8)) (i : Nat) (d a b c : List UInt8) (len cap : Nat) (lg : List UInt8) (fl nx lf : Int) (es : List (D × D)) : ∃ L, RunIs Tryz.prog csL [] 1000 3 Tryz.f4 [0, 3, 4, 5, 6, 7, 8, 9, 10, 11, 12, 13] (headN 2 (tailN 3 bdOn)) (stO f l [(5, one1 b), (6, .int .i64 (Int.ofNat i)), (7, .str d), (8, .str a), (9, okE), (10, .str c), (11, okE)] (memS (pS len cap lg fl nx lf es [])) 7) L
    [([],
      [],
      .to .normal (stG [(0, .lst f (l.length) (strs l)), (3, .bool true), (4, .ptr (some (3, 0))), (5, .lst false 1 [.str b]), (6, .int .i64 (Int.ofNat i)), (7, .str d), (8, .str a), (9, .int .i64 0), (10, .str c), (11, .int .i64 0), (12, .int .i64 ((Int.ofNat es.length))), (13, .int .i64 ((Int.ofNat len)))] (memS (pS len cap lg fl nx lf es [])) 7))]
  := RunIs.of (by kernel_rfl) (by kernel_rfl) (by kernel_rfl)
theorem oa_12n (f : Bool) (l : List (List UInt8)) (i : Nat) (d a c : List UInt8) (len cap : Nat) (lg : List UInt8) (fl nx lf : Int) (es : List (D × D)) : ∃ L, RunIs Tryz.prog (pn15 [P3, .str d, nilS] (memS (pS len cap lg fl nx lf es [])) 7 (.tup [.str c, okE], memS (pS len cap lg fl nx lf es []), 7)) [] 1000 3 Tryz.f4 [0, 3, 4, 6, 7, 8, 9, 10, 11, 12, 13, 14, 15] (seqL (tailN 5 bdOn)) (stO f l [(5, nilS), (6, .int .i64 (Int.ofNat i)), (7, .str d), (8, .str a), (9, okE), (10, .str c), (11, okE), (12, .int .i64 (Int.ofNat es.length)), (13, .int .i64 (Int.ofNat len))] (memS (pS len cap lg fl nx lf es [])) 7) L
    [([],
      [(([.ptr (some (3, 0)), .str d, .slc none 0 0 0] : List V) = [.ptr (some (3, 0)), .str d, .slc none 0 0 0] ∧ (memS (pS len cap lg fl nx lf es [])) = (memS (pS len cap lg fl nx lf es [])) ∧ 7 = 7)],
      .to .normal (stG [(0, .lst f (l.length) (strs l)), (3, .bool true), (4, .ptr (some (3, 0))), (6, .int .i64 (Int.ofNat i)), (7, .str d), (8, .str a), (9, .int .i64 0), (10, .str c), (11, .int .i64 0), (12, .int .i64 (Int.ofNat es.length)), (13, .int .i64 (Int.ofNat len)), (14, .str c), (15, .int .i64 0)] (memS (pS len cap lg fl nx lf es [])) 7))]
  := RunIs.of (by kernel_rfl) (by kernel_rfl) (by kernel_rfl)
theorem oa_12l (f : Bool) (l : List (List UInt8)) (i : Nat) (d a b c : List UInt8) (len cap : Nat) (lg : List UInt8) (fl nx lf : Int) (es : List (D × D)) : ∃ L, RunIs Tryz.prog (pn15 [P3, .str d, one1 b] (memS (pS len cap lg fl nx lf es [])) 7 (.tup [.str c, okE], memS (pS len cap lg fl nx lf es []), 7)) [] 1000 3 Tryz.f4 [0, 3, 4, 6, 7, 8, 9, 10, 11, 12, 13, 14, 15] (seqL (tailN 5 bdOn)) (stO f l [(5, one1 b), (6, .int .i64 (Int.ofNat i)), (7, .str d), (8, .str a), (9, okE), (10, .str c), (11, okE), (12, .int .i64 (Int.ofNat es.length)), (13, .int .i64 (Int.ofNat len))] (memS (pS len cap lg fl nx lf es [])) 7) L
    [([],
      [(([.ptr (some (3, 0)), .str d, .lst false 1 [.str b]] : List V) = [.ptr (some (3, 0)), .str d, .lst false 1 [.str b]] ∧ (memS (pS len cap lg fl nx lf es [])) = (memS (pS len cap lg fl nx lf es [])) ∧ 7 = 7)],
      .to .normal (stG [(0, .lst f (l.length) (strs l)), (3, .bool true), (4, .ptr (some (3, 0))), (6, .int .i64 (Int.ofNat i)), (7, .str d), (8, .str a), (9, .int .i64 0), (10, .str c), (11, .int .i64 0), (12, .int .i64 (Int.ofNat es.length)), (13, .int .i64 (Int.ofNat len)), (14, .str c), (15, .int .i64 0)] (memS (pS len cap lg fl nx lf es [])) 7))]
  := RunIs.of (by kernel_rfl) (by kernel_rfl) (by kernel_rfl)
theorem oa_13 (f : Bool) (l : List (List UInt8)) (i : Nat) (d a c : List UInt8) (len cap : Nat) (lg : List UInt8) (fl nx lf : Int) (es : List (D × D)) : ∃ L, RunIs Tryz.prog (pn15 [P3, .str d, nilS] (memS (pS len cap lg fl nx lf es [])) 7 (.tup [.str a, okE], memS (pS len cap lg fl nx lf es []), 7)) [] 1000 3 Tryz.f4 [0, 3, 4, 6, 7, 8, 9, 10, 11, 12, 13, 14, 15, 16, 17] (seqL (tailN 6 bdOn)) (stO f l [(6, .int .i64 (Int.ofNat i)), (7, .str d), (8, .str a), (9, okE), (10, .str c), (11, okE), (12, .int .i64 (Int.ofNat es.length)), (13, .int .i64 (Int.ofNat len)), (14, .str c), (15, okE)] (memS (pS len cap lg fl nx lf es [])) 7) L
    [([],
      [(([.ptr (some (3, 0)), .str d, .slc none 0 0 0] : List V) = [.ptr (some (3, 0)), .str d, .slc none 0 0 0] ∧ (memS (pS len cap lg fl nx lf es [])) = (memS (pS len cap lg fl nx lf es [])) ∧ 7 = 7)],
      .to .normal (stG [(0, .lst f (l.length) (strs l)), (3, .bool true), (4, .ptr (some (3, 0))), (6, .int .i64 (Int.ofNat i)), (7, .str d), (8, .str a), (9, .int .i64 0), (10, .str c), (11, .int .i64 0), (12, .int .i64 (Int.ofNat es.length)), (13, .int .i64 (Int.ofNat len)), (14, .str c), (15, .int .i64 0), (16, .str a), (17, .int .i64 0)] (memS (pS len cap lg fl nx lf es [])) 7))]
  := RunIs.of (by kernel_rfl) (by kernel_rfl) (by kernel_rfl)
theorem oa_14 (f : Bool) (l : List (List UInt8)) (i : Nat) (d a c : List UInt8) (len cap : Nat) (lg : List UInt8) (fl nx lf : Int) (es : List (D × D)) : ∃ L, RunIs Tryz.prog (pinS csL 22 [.slc (some (7, 0)) 1 1 1] (hJ d (pS len cap lg fl nx lf es [])) 8 (.str a, (hJ d (pS len cap lg fl nx lf es [])).set 7 none, 8)) [(88, .give (.bool false)), (93, .give (.bool false)), (100, .give (.bool false)), (106, .give (.bool false)), (112, .give (.bool false))] 1000 3 Tryz.f4 [0, 3, 4, 6, 10] (seqL (tailN 7 bdOn)) (stO f l [(6, .int .i64 (Int.ofNat i)), (7, .str d), (8, .str a), (9, okE), (10, .str c), (11, okE), (12, .int .i64 (Int.ofNat es.length)), (13, .int .i64 (Int.ofNat len)), (14, .str c), (15, okE), (16, .str a), (17, okE)] (memS (pS len cap lg fl nx lf es [])) 7) L
    [([],
      [((V.bool !beqB a a) = V.bool false), ((V.bool !beqB c c) = V.bool false), (([.slc (some (7, 0)) 1 1 1] : List V) = [.slc (some (7, 0)) 1 1 1] ∧ (hL (memL (pS len cap lg fl nx lf es []) ++ [(7, .cells [.str d])])) = (hL (memL (pS len cap lg fl nx lf es []) ++ [(7, .cells [.str d])])) ∧ 8 = 8), ((V.bool !beqB a a) = V.bool false), (V.bool ((Int.ofNat es.length) != Int.ofNat es.length) = V.bool false), (V.bool ((Int.ofNat len) != Int.ofNat len) = V.bool false)],
      .to .normal (stG [(0, .lst f (l.length) (strs l)), (3, .bool true), (4, .ptr (some (3, 0))), (6, .int .i64 (Int.ofNat i)), (10, .str c)] (memS (pS len cap lg fl nx lf es [])) 7))]
  := RunIs.of (by kernel_rfl) (by kernel_rfl) (by kernel_rfl)
theorem oa_16 (f : Bool) (l : List (List UInt8)) (i : Nat) (c : List UInt8) (len cap : Nat) (lg : List UInt8) (fl nx lf : Int) (es : List (D × D)) : ∃ L, RunIs Tryz.prog csL [] 1000 3 Tryz.f4 [0, 3, 4, 5, 6] (seqR (tailN 7 bdOn)) (stO f l [(6, .int .i64 (Int.ofNat i)), (10, .str c)] (memS (pS len cap lg fl nx lf es [])) 7) L
    [([],
      [],
      .to .normal (stG [(0, .lst f (l.length) (strs l)), (3, .bool true), (4, .ptr (some (3, 0))), (5, .slc (some (7, 0)) 1 1 1), (6, .int .i64 (Int.ofNat i))] (hL (memL (pS len cap lg fl nx lf es []) ++ [(7, .cells [.str c])])) 8))]
  := RunIs.of (by kernel_rfl) (by kernel_rfl) (by kernel_rfl)
theorem oa_6 (f : Bool) (l : List (List UInt8)) (i : Nat) (b : List UInt8) (len cap : Nat) (lg : List UInt8) (fl nx lf : Int) (es : List (D × D)) : ∃ L, RunIs Tryz.prog csL [(29, .give (.int .i64 (Int.ofNat (i + 1))))] 1000 3 Tryz.f4 [0, 3, 4, 5, 6] (seqR (seqR rdOn)) (stO f l [(5, one1 b), (6, .int .i64 (Int.ofNat i))] (memS (pS len cap lg fl nx lf es [])) 7) L
    [([],
      [(V.int IntKind.i64 (IntKind.i64.wrap (Int.ofNat i + (1 : Int))) = V.int IntKind.i64 (Int.ofNat (i + 1)))],
      .to .normal (stG [(0, .lst f (l.length) (strs l)), (3, .bool true), (4, .ptr (some (3, 0))), (5, .lst false 1 [.str b]), (6, .int .i64 (Int.ofNat (i + 1)))] (memS (pS len cap lg fl nx lf es [])) 7))]
  := RunIs.of (by kernel_rfl) (by kernel_rfl) (by kernel_rfl)
theorem oa_en (f : Bool) (l : List (List UInt8)) (i : Nat) (b : List UInt8) (len cap : Nat) (lg : List UInt8) (fl nx lf : Int) (es : List (D × D)) : ∃ L, RunIs Tryz.prog csL [] 1000 3 Tryz.f4 [] (seqR tlOn) (stO f l [(5, one1 b), (6, .int .i64 (Int.ofNat i))] (memS (pS len cap lg fl nx lf es [])) 7) L
    [([],
      [],
      .ret (.bool true) (hL [(0, .ints .u32 gS), (1, .ints .u32 gR)]) 3)]
  := RunIs.of (by kernel_rfl) (by kernel_rfl) (by kernel_rfl)
theorem oa_e0 (f : Bool) (l : List (List UInt8)) (i : Nat) : ∃ L, RunIs Tryz.prog csL [] 1000 3 Tryz.f4 [] (seqR tlOn) (stO f l [(5, nilS), (6, .int .i64 (Int.ofNat i))] (mem0 0 0 0 [] []) 6) L
    [([],
      [],
      .ret (.bool true) (hL [(0, .ints .u32 gS), (1, .ints .u32 gR)]) 3)]
  := RunIs.of (by kernel_rfl) (by kernel_rfl) (by kernel_rfl)
end Go.Proofs.YtfihojpgobmmdaaGreatDoor
namespace Go.Proofs.YtfihojpgobmmdaaGreatDoor
open Go Go.Eng
theorem keyStr (x : List UInt8) (d : D) : keyEqD (.str x) d = true ↔ d = .str x := by
  cases d <;> simp [keyEqD, beqB_eq]
  exact eq_comm
theorem keyStrF {x : List UInt8} {d : D} (h : d ≠ .str x) : keyEqD (.str x) d = false := by
  cases q : keyEqD (.str x) d with
  | false => rfl
  | true => exact absurd ((keyStr x d).1 q) h
open Classical in
theorem lookD_cons (x : List UInt8) (e : D × D) (es : List (D × D)) : lookD (.str x) (e :: es) = if e.1 = .str x then some e.2 else lookD (.str x) es := by
  simp only [lookD]
  by_cases h : e.1 = .str x
  · rw [if_pos h, (keyStr x e.1).2 h]
  · rw [if_neg h, keyStrF h]
open Classical in
theorem updD_cons (x : List UInt8) (v : D) (e : D × D) (es : List (D × D)) : updD (.str x) v (e :: es) = if e.1 = .str x then (.str x, v) :: es else e :: updD (.str x) v es := by
  simp only [updD]
  by_cases h : e.1 = .str x
  · rw [if_pos h, (keyStr x e.1).2 h]
  · rw [if_neg h, keyStrF h]
theorem look_upd (x y : List UInt8) (v : D) : ∀ es : List (D × D), lookD (.str x) (updD (.str y) v es) = if x = y then some v else lookD (.str x) es
  | [] => by
    show lookD (.str x) [(.str y, v)] = _
    rw [lookD_cons]
    by_cases h : x = y
    · rw [if_pos h, if_pos (by rw [h])]
    · rw [if_neg h, if_neg (by intro q; simp only [D.str.injEq] at q; exact h q.symm)]
  | e :: es => by
    rw [updD_cons]
    by_cases he : e.1 = .str y
    · rw [if_pos he, lookD_cons, lookD_cons]
      by_cases h : x = y
      · rw [if_pos h, if_pos (by rw [h])]
      · rw [if_neg h, if_neg (by intro q; simp only [D.str.injEq] at q; exact h q.symm), if_neg (by rw [he]; intro q; simp only [D.str.injEq] at q; exact h q.symm)]
    · rw [if_neg he, lookD_cons, lookD_cons, look_upd x y v es]
      by_cases h : x = y
      · subst h
        rw [if_neg he, if_pos rfl, if_pos rfl]
      · rw [if_neg h, if_neg h]
def Ent (es : List (D × D)) : Prop := ∀ x, lookD (.str x) es = none ∨ Has es x
theorem ent_nil : Ent [] := fun _ => .inl rfl
theorem has_upd {es : List (D × D)} {x y : List UInt8} {d : List UInt8} {rs : List (List UInt8)} {k : Int} (h : Has es x) : Has (updD (.str y) (entD d rs k) es) x := by
  unfold Has at h ⊢
  rw [look_upd]
  by_cases q : x = y
  · rw [if_pos q]; exact ⟨_, _, _, rfl⟩
  · rw [if_neg q]; exact h
theorem has_upd_self {es : List (D × D)} {y : List UInt8} {d : List UInt8} {rs : List (List UInt8)} {k : Int} : Has (updD (.str y) (entD d rs k) es) y := by
  unfold Has
  rw [look_upd, if_pos rfl]; exact ⟨_, _, _, rfl⟩
theorem ent_upd {es : List (D × D)} {y : List UInt8} {d : List UInt8} {rs : List (List UInt8)} {k : Int} (h : Ent es) : Ent (updD (.str y) (entD d rs k) es) := by
  intro x
  rw [look_upd]
  by_cases q : x = y
  · subst q; exact .inr has_upd_self
  · rw [if_neg q]
    rcases h x with h | h
    · exact .inl h
    · exact .inr (has_upd h)
end Go.Proofs.YtfihojpgobmmdaaGreatDoor
namespace Go.Proofs.YtfihojpgobmmdaaGreatDoor
open Go Go.Eng
theorem call22a (d : List UInt8) (p : Sto) (hp : ∃ len cap lg fl nx lf es, p = pS len cap lg fl nx lf es []) (hd : d.length ≤ 65536) : CallIs Tryz.prog 22 [.slc (some (7, 0)) 1 1 1] (hJ d p) 8 (.str (nameOf d [])) ((hJ d p).set 7 none) 8 := by
  obtain ⟨len, cap, lg, fl, nx, lf, es, rfl⟩ := hp
  refine CallIs.frz (ms := [7]) (A := [[D.str d].length = 1 * 1]) (args2 := [one1 d]) (h2 := (hJ d (pS len cap lg fl nx lf es [])).set 7 none) (by kernel_rfl) (by kernel_rfl) (fun a ha => by rw [List.mem_singleton] at ha; subst ha; rfl) ?_
  intro E w args' ra g hd2
  refine one_Jo.2 _ _ _ ([gS = gS, gR = gR] ++ [[D.str d] = strs (strL [D.str d]), 1 = (strL [D.str d]).length, 0 < 1, 1 ≤ 1000000000, (joinB (strL [D.str d])).length ≤ 1000000000]) _ _ _ (by kernel_rfl) ?_ E w args' ra g hd2 (by kernel_rfl)
  have hj := joinB_cons_le d [] (by simp)
  simp only [List.length_nil] at hj
  repeat' (first | exact all_nil | refine List.forall_mem_cons.2 ⟨?_, ?_⟩)
  all_goals first | rfl | decide | skip
  show (joinB [d]).length ≤ _; omega
theorem beqB_self (a : List UInt8) : V.bool (!beqB a a) = V.bool false := by rw [beqB_eq]; simp
theorem bne_self' {α : Type} [BEq α] [LawfulBEq α] (a : α) : V.bool (a != a) = V.bool false := by simp
structure InvS (B len cap : Nat) (lg : List UInt8) (es : List (D × D)) : Prop where
  hln : len = lg.length
  hcp : 0 < cap
  hle : len ≤ B
  hen : Ent es
abbrev iV (i : Nat) : V := .int .i64 (Int.ofNat i)
abbrev mS (len cap : Nat) (lg : List UInt8) (nx : Int) (es : List (D × D)) : Tr O := memS (pS len cap lg 0 nx 0 es [])
def PostB (f : Bool) (l : List (List UInt8)) (i : Nat) (s' : St) : Prop := ∃ L c len cap lg nx es, InvS ((i + 1) * 600) len cap lg es ∧ Has es c ∧ c.length = 32 ∧
  normG 3 L s' = some (stO f l [(5, .slc (some (7, 0)) 1 1 1), (6, iV i)] (hL (memL (pS len cap lg 0 nx 0 es []) ++ [(7, .cells [.str c])])) 8)
def lvOf : Option (List UInt8) → V
  | none => nilS
  | some b => one1 b
def rsOf : Option (List UInt8) → List (List UInt8)
  | none => []
  | some b => [b]
def lvOk (es : List (D × D)) : Option (List UInt8) → Prop
  | none => True
  | some b => Has es b ∧ b.length = 32
section
variable (f : Bool) (l : List (List UInt8)) (i : Nat) (d : List UInt8) (hd : d.length ≤ 200)
theorem lt22 : 22 < Tryz.prog.funcs.size := Nat.le_of_ble_eq_true (by kernel_rfl)
theorem lt15 : 15 < Tryz.prog.funcs.size := Nat.le_of_ble_eq_true (by kernel_rfl)
abbrev QB (y : Exit) (s' : St) : Prop := y = .normal ∧ PostB f l i s'
variable {len cap : Nat} {lg : List UInt8} {nx : Int} {es : List (D × D)}
include hd in
theorem tgO14 (c : List UInt8) (inv : InvS ((i + 1) * 600) len cap lg es) (hc : Has es c) (hcl : c.length = 32) : TG Tryz.prog 3 Tryz.f4.ntmps (tailN 7 bdOn)
    (stO f l [(6, iV i), (7, .str d), (8, .str (nameOf d [])), (9, okE), (10, .str c), (11, okE), (12, iV es.length), (13, iV len), (14, .str c), (15, okE), (16, .str (nameOf d [])), (17, okE)] (mS len cap lg nx es) 7) (QB f l i) := by
  refine TG_seq' (by kernel_rfl) ?_
  obtain ⟨L, hr⟩ := oa_14 f l i d (nameOf d []) c len cap lg 0 nx 0 es
  refine TG_is (XL.pin lt22 (call22a d (pS len cap lg 0 nx 0 es []) ⟨_, _, _, _, _, _, _, rfl⟩ (by omega))) mo anyR (by kernel_rfl) hr fun g hg _ => ?_
  rw [List.mem_singleton] at hg; subst hg
  refine ⟨?_, fun s' hs' => TG_norm hs' ?_⟩
  · repeat' (first | exact all_nil | refine List.forall_mem_cons.2 ⟨?_, ?_⟩)
    all_goals first | exact beqB_self _ | exact pinEq | exact bne_self' _
  obtain ⟨L2, hr2⟩ := oa_16 f l i c len cap lg 0 nx 0 es
  refine TG_is XL mo anyR (by kernel_rfl) hr2 fun g hg _ => ?_
  rw [List.mem_singleton] at hg; subst hg
  exact ⟨all_nil, fun s' hs' => ⟨rfl, _, c, len, cap, lg, nx, es, inv, hc, hcl, hs'⟩⟩
include hd in
theorem tgO13 (c : List UInt8) (inv : InvS ((i + 1) * 600) len cap lg es) (ha : Has es (nameOf d [])) (hc : Has es c) (hcl : c.length = 32) : TG Tryz.prog 3 Tryz.f4.ntmps (tailN 6 bdOn)
    (stO f l [(6, iV i), (7, .str d), (8, .str (nameOf d [])), (9, okE), (10, .str c), (11, okE), (12, iV es.length), (13, iV len), (14, .str c), (15, okE)] (mS len cap lg nx es) 7) (QB f l i) := by
  refine TG_seq' (by kernel_rfl) ?_
  obtain ⟨L, hr⟩ := oa_13 f l i d (nameOf d []) c len cap lg 0 nx 0 es
  refine TG_is (XL.pin lt15 (put_old0 d len cap lg 0 nx 0 es [] (by omega) ha)) mo anyR (by kernel_rfl) hr fun g hg _ => ?_
  rw [List.mem_singleton] at hg; subst hg
  refine ⟨fun a ha => ?_, fun s' hs' => TG_norm hs' ?_⟩
  · rw [List.mem_singleton] at ha; subst ha; exact pinEq
  exact tgO14 f l i d hd c inv hc hcl
include hd in
theorem tgO12 (lv : Option (List UInt8)) (inv : InvS ((i + 1) * 600) len cap lg es) (hlv : lvOk es lv) (ha : Has es (nameOf d [])) (hc : Has es (nameOf d (rsOf lv))) : TG Tryz.prog 3 Tryz.f4.ntmps (tailN 5 bdOn)
    (stO f l [(5, lvOf lv), (6, iV i), (7, .str d), (8, .str (nameOf d [])), (9, okE), (10, .str (nameOf d (rsOf lv))), (11, okE), (12, iV es.length), (13, iV len)] (mS len cap lg nx es) 7) (QB f l i) := by
  refine TG_seq' (by kernel_rfl) ?_
  cases lv with
  | none =>
    obtain ⟨L, hr⟩ := oa_12n f l i d (nameOf d []) (nameOf d []) len cap lg 0 nx 0 es
    refine TG_is (XL.pin lt15 (put_old0 d len cap lg 0 nx 0 es [] (by omega) ha)) mo anyR (by kernel_rfl) hr fun g hg _ => ?_
    rw [List.mem_singleton] at hg; subst hg
    refine ⟨fun a ha => ?_, fun s' hs' => TG_norm hs' ?_⟩
    · rw [List.mem_singleton] at ha; subst ha; exact pinEq
    exact tgO13 f l i d hd _ inv ha hc (nameOf_len _ _)
  | some b =>
    obtain ⟨L, hr⟩ := oa_12l f l i d (nameOf d []) b (nameOf d [b]) len cap lg 0 nx 0 es
    refine TG_is (XL.pin lt15 (put_oldL d len cap lg 0 nx 0 es [] false [b] (by omega) (by simp) (fun x hx => by rw [List.mem_singleton] at hx; rw [hx]; exact hlv.2) (fun x hx => by rw [List.mem_singleton] at hx; rw [hx]; exact hlv.1) hc)) mo anyR (by kernel_rfl) hr fun g hg _ => ?_
    rw [List.mem_singleton] at hg; subst hg
    refine ⟨fun a ha => ?_, fun s' hs' => TG_norm hs' ?_⟩
    · rw [List.mem_singleton] at ha; subst ha; exact pinEq
    exact tgO13 f l i d hd _ inv ha hc (nameOf_len _ _)
include hd in
theorem tgO10 (lv : Option (List UInt8)) (inv : InvS ((i + 1) * 600) len cap lg es) (hlv : lvOk es lv) (ha : Has es (nameOf d [])) (hc : Has es (nameOf d (rsOf lv))) : TG Tryz.prog 3 Tryz.f4.ntmps (tailN 3 bdOn)
    (stO f l [(5, lvOf lv), (6, iV i), (7, .str d), (8, .str (nameOf d [])), (9, okE), (10, .str (nameOf d (rsOf lv))), (11, okE)] (mS len cap lg nx es) 7) (QB f l i) := by
  cases lv with
  | none =>
    obtain ⟨L, hr⟩ := oa_10n f l i d (nameOf d []) (nameOf d []) len cap lg 0 nx 0 es
    refine TG_isN1 2 XL mo (by kernel_rfl) hr all_nil ?_
    exact tgO12 f l i d hd none inv hlv ha hc
  | some b =>
    obtain ⟨L, hr⟩ := oa_10l f l i d (nameOf d []) b (nameOf d [b]) len cap lg 0 nx 0 es
    refine TG_isN1 2 XL mo (by kernel_rfl) hr all_nil ?_
    exact tgO12 f l i d hd (some b) inv hlv ha hc
include hd in
theorem tgO9 (lv : Option (List UInt8)) (hz : lv = none → True) (inv : InvS (i * 600 + 220) len cap lg es) (hi : i ≤ 12) (hlv : lvOk es lv) (ha : Has es (nameOf d [])) : TG Tryz.prog 3 Tryz.f4.ntmps (tailN 2 bdOn)
    (stO f l [(5, lvOf lv), (6, iV i), (7, .str d), (8, .str (nameOf d [])), (9, okE)] (mS len cap lg nx es) 7) (QB f l i) := by
  refine TG_seq' (by kernel_rfl) ?_
  have hB : InvS ((i + 1) * 600) len cap lg es := ⟨inv.hln, inv.hcp, by have := inv.hle; omega, inv.hen⟩
  cases lv with
  | none =>
    obtain ⟨L, hr⟩ := oa_9n f l i d (nameOf d []) (nameOf d []) len cap lg 0 nx 0 es
    refine TG_is (XL.pin lt15 (put_old0 d len cap lg 0 nx 0 es [] (by omega) ha)) mo anyR (by kernel_rfl) hr fun g hg _ => ?_
    rw [List.mem_singleton] at hg; subst hg
    refine ⟨fun a ha => ?_, fun s' hs' => TG_norm hs' ?_⟩
    · rw [List.mem_singleton] at ha; subst ha; exact pinEq
    exact tgO10 f l i d hd none hB hlv ha ha
  | some b =>
    have h32 : ∀ x ∈ [b], x.length = 32 := fun x hx => by rw [List.mem_singleton] at hx; rw [hx]; exact hlv.2
    have hks : ∀ x ∈ [b], Has es x := fun x hx => by rw [List.mem_singleton] at hx; rw [hx]; exact hlv.1
    rcases inv.hen (nameOf d [b]) with hnew | hold
    · have hrl := recB_lenr d h32
      have hle := inv.hle
      simp only [List.length_singleton] at hrl
      obtain ⟨L, hr⟩ := oa_9w f l i d (nameOf d []) b (nameOf d [b]) len cap lg 0 nx 0 es (len + (recB d [b]).length) (lg ++ recB d [b]) (IntKind.i64.wrap (nx + 1)) (updD (.str (nameOf d [b])) (entD d [b] nx) es)
      refine TG_is (XL.pin lt15 (put_newL d len cap lg 0 nx 0 es [] false [b] (by omega) (by simp) (by simp) h32 hks hnew inv.hcp inv.hln (by omega))) mo anyR (by kernel_rfl) hr fun g hg _ => ?_
      rw [List.mem_singleton] at hg; subst hg
      refine ⟨fun a ha => ?_, fun s' hs' => TG_norm hs' ?_⟩
      · rw [List.mem_singleton] at ha; subst ha; exact pinEq
      exact tgO10 f l i d hd (some b) ⟨by rw [List.length_append, inv.hln], by have := (recB_len d [b]).1; omega, by omega, ent_upd inv.hen⟩ ⟨has_upd hlv.1, hlv.2⟩ (has_upd ha) has_upd_self
    · obtain ⟨L, hr⟩ := oa_9o f l i d (nameOf d []) b (nameOf d [b]) len cap lg 0 nx 0 es
      refine TG_is (XL.pin lt15 (put_oldL d len cap lg 0 nx 0 es [] false [b] (by omega) (by simp) h32 hks hold)) mo anyR (by kernel_rfl) hr fun g hg _ => ?_
      rw [List.mem_singleton] at hg; subst hg
      refine ⟨fun a ha => ?_, fun s' hs' => TG_norm hs' ?_⟩
      · rw [List.mem_singleton] at ha; subst ha; exact pinEq
      exact tgO10 f l i d hd (some b) hB hlv ha hold
include hd in
theorem tgO8s (b : List UInt8) (inv : InvS (i * 600) len cap lg es) (hi : i ≤ 12) (hb : Has es b) (hbl : b.length = 32) : TG Tryz.prog 3 Tryz.f4.ntmps (tailN 1 bdOn)
    (stO f l [(5, one1 b), (6, iV i), (7, .str d)] (mS len cap lg nx es) 7) (QB f l i) := by
  refine TG_seq' (by kernel_rfl) ?_
  have hB : InvS (i * 600 + 220) len cap lg es := ⟨inv.hln, inv.hcp, Nat.le_trans inv.hle (Nat.le_add_right _ _), inv.hen⟩
  rcases inv.hen (nameOf d []) with hnew | hold
  · have hrl := recB_lenr d (rs := []) (by simp)
    have hle := inv.hle
    simp only [List.length_nil] at hrl
    obtain ⟨L, hr⟩ := oa_8w f l i d (nameOf d []) b len cap lg 0 nx 0 es (len + (recB d []).length) (lg ++ recB d []) (IntKind.i64.wrap (nx + 1)) (updD (.str (nameOf d [])) (entD d [] nx) es)
    refine TG_is (XL.pin lt15 (put_new0 d len cap lg 0 nx 0 es [] (by omega) hnew inv.hcp inv.hln (by omega))) mo anyR (by kernel_rfl) hr fun g hg _ => ?_
    rw [List.mem_singleton] at hg; subst hg
    refine ⟨fun a ha => ?_, fun s' hs' => TG_norm hs' ?_⟩
    · rw [List.mem_singleton] at ha; subst ha; exact pinEq
    exact tgO9 f l i d hd (some b) (fun _ => trivial) ⟨by rw [List.length_append, inv.hln], by have := (recB_len d []).1; omega, by omega, ent_upd inv.hen⟩ hi ⟨has_upd hb, hbl⟩ has_upd_self
  · obtain ⟨L, hr⟩ := oa_8o f l i d (nameOf d []) b len cap lg 0 nx 0 es
    refine TG_is (XL.pin lt15 (put_old0 d len cap lg 0 nx 0 es [] (by omega) hold)) mo anyR (by kernel_rfl) hr fun g hg _ => ?_
    rw [List.mem_singleton] at hg; subst hg
    refine ⟨fun a ha => ?_, fun s' hs' => TG_norm hs' ?_⟩
    · rw [List.mem_singleton] at ha; subst ha; exact pinEq
    exact tgO9 f l i d hd (some b) (fun _ => trivial) hB hi ⟨hb, hbl⟩ hold
include hd in
theorem tgO8n (hi : i ≤ 12) : TG Tryz.prog 3 Tryz.f4.ntmps (tailN 1 bdOn) (stO f l [(5, nilS), (6, iV i), (7, .str d)] (mem0 0 0 0 [] []) 6) (QB f l i) := by
  refine TG_seq' (by kernel_rfl) ?_
  have hrl := recB_lenr d (rs := []) (by simp)
  have hr0 := (recB_len d []).1
  simp only [List.length_nil] at hrl
  obtain ⟨L, hr⟩ := oa_8n f l i d (nameOf d []) (recB d []).length (recB d []) (IntKind.i64.wrap (0 + 1)) (updD (.str (nameOf d [])) (entD d [] 0) [])
  refine TG_is (XL.pin lt15 (put_first d 0 0 0 [] [] (by omega) rfl)) mo anyR (by kernel_rfl) hr fun g hg _ => ?_
  rw [List.mem_singleton] at hg; subst hg
  refine ⟨fun a ha => ?_, fun s' hs' => TG_norm hs' ?_⟩
  · rw [List.mem_singleton] at ha; subst ha; exact pinEq
  exact tgO9 f l i d hd none (fun _ => trivial) ⟨rfl, hr0, by omega, ent_upd ent_nil⟩ hi trivial has_upd_self
end
theorem take200 (x : List UInt8) : List.drop 0 (List.take (if (200 : Int) < (Int.ofNat x.length) then (200 : Int) else (Int.ofNat x.length)).toNat x) = x.take 200 := by
  rw [List.drop_zero]
  split
  · rfl
  · rename_i h
    have : x.length ≤ 200 := by have h : ¬ ((200 : Int) < (x.length : Int)) := h; omega
    rw [List.take_of_length_le this, List.take_of_length_le (by simp)]
section
variable (f : Bool) (l : List (List UInt8))
def InvO (i : Nat) (s : St) : Prop := (i = 0 ∧ ∃ L, normG 3 L s = some (stO f l [(5, nilS), (6, iV 0)] (mem0 0 0 0 [] []) 6)) ∨
  ∃ L b len cap lg nx es, InvS (i * 600) len cap lg es ∧ Has es b ∧ b.length = 32 ∧ normG 3 L s = some (stO f l [(5, one1 b), (6, iV i)] (mS len cap lg nx es) 7)
theorem tgO7 (i : Nat) (hi : i < 12) (hl : i < l.length) (s : St) (h : InvO f l i s) : TG Tryz.prog 3 Tryz.f4.ntmps bdOn s (QB f l i) := by
  obtain ⟨x, hx⟩ : ∃ x, l[i]? = some x := ⟨_, List.getElem?_eq_getElem hl⟩
  have hO : ∀ n : Nat, Int.ofNat n = (n : Int) := fun _ => rfl
  have hA : ∀ a ∈ [((0 : Int) ≤ Int.ofNat i ∧ Int.ofNat i < (Int.ofNat l.length)), ((strs l).length = l.length * 1), (V.fptr (cellsAt (strs l) ((Int.ofNat i).toNat * 1) 1) = V.fptr [D.str x]), ((0 : Int) ≤ Int.ofNat i ∧ Int.ofNat i < (Int.ofNat l.length)), ((strs l).length = l.length * 1), (V.fptr (cellsAt (strs l) ((Int.ofNat i).toNat * 1) 1) = V.fptr [D.str x]), (((0 : Int) ≤ if (200 : Int) < (Int.ofNat x.length) then (200 : Int) else (Int.ofNat x.length)) ∧ (if (200 : Int) < (Int.ofNat x.length) then (200 : Int) else (Int.ofNat x.length)) ≤ (Int.ofNat x.length)), (V.str (List.drop 0 (List.take (if (200 : Int) < (Int.ofNat x.length) then (200 : Int) else (Int.ofNat x.length)).toNat x)) = V.str (x.take 200))], a := by
    have h1 : (0 : Int) ≤ Int.ofNat i ∧ Int.ofNat i < (Int.ofNat l.length) := ⟨Int.natCast_nonneg _, by rw [hO, hO]; omega⟩
    have h2 : (strs l).length = l.length * 1 := by rw [strs_len, Nat.mul_one]
    have h3 := congrArg V.fptr (cellsAt_strs hx)
    repeat' (first | exact all_nil | refine List.forall_mem_cons.2 ⟨?_, ?_⟩)
    all_goals first | exact h1 | exact h2 | exact h3 | skip
    · rw [hO]; split <;> constructor <;> omega
    · rw [take200]
  rcases h with ⟨rfl, L, hs⟩ | ⟨L, b, len, cap, lg, nx, es, inv, hb, hbl, hs⟩
  · refine TG_norm hs ?_
    refine TG_seq' (by kernel_rfl) ?_
    obtain ⟨L, hr⟩ := oa_7n f l 0 x (x.take 200)
    refine TG_is XL mo anyR (by kernel_rfl) hr fun g hg _ => ?_
    rw [List.mem_singleton] at hg; subst hg
    exact ⟨hA, fun s' hs' => TG_norm hs' (tgO8n f l 0 (x.take 200) (by rw [List.length_take]; omega) (by omega))⟩
  · refine TG_norm hs ?_
    refine TG_seq' (by kernel_rfl) ?_
    obtain ⟨L, hr⟩ := oa_7s f l i x (x.take 200) b len cap lg 0 nx 0 es
    refine TG_is XL mo anyR (by kernel_rfl) hr fun g hg _ => ?_
    rw [List.mem_singleton] at hg; subst hg
    exact ⟨hA, fun s' hs' => TG_norm hs' (tgO8s f l i (x.take 200) (by rw [List.length_take]; omega) b inv (by omega) hb hbl)⟩
theorem tgOr (i : Nat) (hi : i ≤ 12) (s : St) (h : InvO f l i s) : TG Tryz.prog 3 Tryz.f4.ntmps rdOn s (andThen (fun s' => i < 12 ∧ InvO f l (i + 1) s') fun y s' => y = .exit 0 ∧ InvO f l i s') := by
  have hO : ∀ n : Nat, Int.ofNat n = (n : Int) := fun _ => rfl
  refine TG_seq' (by kernel_rfl) ?_
  have key : ∀ s', i < 12 → i < l.length → InvO f l i s' → TG Tryz.prog 3 Tryz.f4.ntmps (seqR rdOn) s' (andThen (fun s' => i < 12 ∧ InvO f l (i + 1) s') fun y s' => y = .exit 0 ∧ InvO f l i s') := by
    intro s' h1 h2 h3
    refine TG_seq' (by kernel_rfl) ?_
    refine TG_block (i := 1) (by kernel_rfl) (TG_mono (tgO7 f l i h1 h2 s' h3) ?_)
    rintro y s2 ⟨rfl, L, c, len, cap, lg, nx, es, inv, hc, hcl, hs⟩
    show TG _ _ _ _ _ _
    refine TG_norm hs ?_
    refine TG_frz [7] (A := [[D.str c].length = 1 * 1]) (s2 := { stO f l [(5, one1 c), (6, iV i)] (mS len cap lg nx es) 8 with h := (hL (memL (pS len cap lg 0 nx 0 es []) ++ [(7, .cells [.str c])])).set 7 none }) (by kernel_rfl) (fun x hx => by rw [List.mem_singleton] at hx; subst hx; rfl) ?_
    refine TG_norm (live := [0, 3, 4, 5, 6]) (s2 := stO f l [(5, one1 c), (6, iV i)] (mS len cap lg nx es) 7) (by kernel_rfl) ?_
    obtain ⟨L, hr⟩ := oa_6 f l i c len cap lg 0 nx 0 es
    refine TG_is XL mo anyR (by kernel_rfl) hr fun g hg _ => ?_
    rw [List.mem_singleton] at hg; subst hg
    refine ⟨fun a ha => ?_, fun s' hs' => ⟨h1, .inr ⟨_, c, len, cap, lg, nx, es, inv, hc, hcl, hs'⟩⟩⟩
    rw [List.mem_singleton] at ha; subst ha
    exact ieq_ok (by rw [hO]; omega) (by omega)
  rcases h with ⟨rfl, L, hs⟩ | ⟨L, b, len, cap, lg, nx, es, inv, hb, hbl, hs⟩
  · refine TG_norm hs ?_
    obtain ⟨L, hr⟩ := oa_3n f l 0
    refine TG_is XL mo anyR (by kernel_rfl) hr fun g hg hc => ?_
    simp only [List.mem_cons, List.not_mem_nil, or_false] at hg
    rcases hg with rfl | rfl | rfl
    · have c1 := of_decide_eq_true (hc _ (List.mem_cons_self ..))
      refine ⟨all_nil, fun s' hs' => key s' (by omega) (by simp only [hO] at c1; omega) (.inl ⟨rfl, _, hs'⟩)⟩
    · exact ⟨all_nil, fun s' hs' => ⟨rfl, .inl ⟨rfl, _, hs'⟩⟩⟩
    · exact ⟨all_nil, fun s' hs' => ⟨rfl, .inl ⟨rfl, _, hs'⟩⟩⟩
  · refine TG_norm hs ?_
    obtain ⟨L, hr⟩ := oa_3s f l i b (pS 0 0 [] 0 0 0 [] []) len cap lg 0 nx 0 es
    refine TG_is XL mo anyR (by kernel_rfl) hr fun g hg hc => ?_
    simp only [List.mem_cons, List.not_mem_nil, or_false] at hg
    rcases hg with rfl | rfl | rfl
    · have c1 := of_decide_eq_true (hc _ (List.mem_cons_self ..))
      have c2 := of_decide_eq_true (hc _ (List.mem_cons_of_mem _ (List.mem_cons_self ..)))
      simp only [hO] at c1 c2
      refine ⟨all_nil, fun s' hs' => key s' (by omega) (by omega) (.inr ⟨_, b, len, cap, lg, nx, es, inv, hb, hbl, hs'⟩)⟩
    · exact ⟨all_nil, fun s' hs' => ⟨rfl, .inr ⟨_, b, len, cap, lg, nx, es, inv, hb, hbl, hs'⟩⟩⟩
    · exact ⟨all_nil, fun s' hs' => ⟨rfl, .inr ⟨_, b, len, cap, lg, nx, es, inv, hb, hbl, hs'⟩⟩⟩
theorem tgOn : TG Tryz.prog 3 Tryz.f4.ntmps cdOn (startSt [.lst f l.length (strs l)] (hSR gS gR) 3) (RetG Tryz.prog 3 Tryz.f4 fun u _ _ => u = .bool true) := by
  obtain ⟨L1, hr1⟩ := oa_1 f l
  refine TG_isN1 4 XL mo (by kernel_rfl) hr1 (fun a ha => ?_) ?_
  · simp only [List.mem_cons, List.not_mem_nil, or_false] at ha
    rcases ha with rfl | rfl <;> first | rfl | trivial
  refine TG_map [(4, none), (5, none)] (s2 := stO f l [(5, nilS)] (mem0 0 0 0 [] []) 6) (by kernel_rfl) ?_
  refine TG_seq' (by kernel_rfl) ?_
  refine TG_seq' (by kernel_rfl) ?_
  obtain ⟨L2, hr2⟩ := oa_2 f l
  refine TG_is XL mo anyR (by kernel_rfl) hr2 fun g hg _ => ?_
  rw [List.mem_singleton] at hg; subst hg
  refine ⟨fun a ha => by rw [List.mem_singleton] at ha; subst ha; rfl, fun s' hs' => ?_⟩
  refine TG_block (i := 0) (by kernel_rfl) (TG_mono (Q1 := fun y s' => y = .exit 0 ∧ ∃ i, InvO f l i s') (TG_loop_inv (fun k s => ∃ i, k = 12 - i ∧ i ≤ 12 ∧ InvO f l i s) (by kernel_rfl) ?_ 12 ⟨0, rfl, by omega, .inl ⟨rfl, _, hs'⟩⟩) ?_)
  · rintro k s1 ⟨i, hk, hi, h1⟩
    refine TG_mono (tgOr f l i hi s1 h1) fun y s2 h2 => ?_
    cases y with
    | normal =>
      obtain ⟨h3, h4⟩ := h2
      exact ⟨12 - (i + 1), by omega, i + 1, rfl, by omega, h4⟩
    | _ => first | exact ⟨h2.1, i, h2.2⟩ | (obtain ⟨h3, h4⟩ := h2; cases h3)
  rintro y s2 ⟨rfl, i, h2⟩
  rw [outOf_exit]
  simp only [andThen]
  rcases h2 with ⟨_, L, hs⟩ | ⟨L, b, len, cap, lg, nx, es, inv, hb, hbl, hs⟩
  · refine TG_norm hs ?_
    obtain ⟨L5, hr5⟩ := oa_e0 f l 0
    refine TG_ret XL mo _ (by kernel_rfl) hr5 fun g hg _ => ?_
    rw [List.mem_singleton] at hg; subst hg
    exact ⟨all_nil, _, _, _, rfl, rfl⟩
  · refine TG_norm hs ?_
    obtain ⟨L5, hr5⟩ := oa_en f l i b len cap lg 0 nx 0 es
    refine TG_ret XL mo _ (by kernel_rfl) hr5 fun g hg _ => ?_
    rw [List.mem_singleton] at hg; subst hg
    exact ⟨all_nil, _, _, _, rfl, rfl⟩
end
end Go.Proofs.YtfihojpgobmmdaaGreatDoor
