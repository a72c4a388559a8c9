/- The Chunk laws: ChunkRoots, its pieces. No conditions. -/
import Derived.Test.YtfihojpgobmmdaaGreatDoorJointEighteen
set_option linter.unusedVariables false
set_option linter.unusedSimpArgs false
set_option linter.unusedSectionVars false
namespace Go.Proofs.YtfihojpgobmmdaaGreatDoor
open Go Go.Eng
noncomputable abbrev cdRs : Code := bodyOf Tryz.f6
noncomputable abbrev lpRs : Code := seqL (tailN 4 cdRs)
noncomputable abbrev rdRs : Code := inner (inner (seqR lpRs))
noncomputable abbrev bdRs : Code := inner (seqL (seqR rdRs))
noncomputable abbrev lqRs : Code := seqL (tailN 6 cdRs)
noncomputable abbrev rqRs : Code := inner (inner (seqR lqRs))
noncomputable abbrev bqRs : Code := inner (seqL (seqR rqRs))
def emG (ns : List (Option Nat)) (h1 : Tr O) (r : V × Tr O × Nat) (h : Tr O) (n : Nat) : Tr O := match embW ns h1 r h n with
  | some x => x.2.1
  | none => .nil
def hS (p : Sto) (ls : List (D × D)) (r : List (Nat × O)) : Tr O := hL (memL p ++ [(7, .mapD none ls)] ++ r)
def hN (ls : List (D × D)) (r : List (Nat × O)) : Tr O := hL ([(0, .ints .u32 gS), (1, .ints .u32 gR), (3, .cells [nilS, .int .i64 0, .map (some 4), .map (some 5), .int .i64 0, .bool false, .bool false, .int .i64 0]), (4, .mapD none []), (5, .mapD none []), (6, .mapD none ls)] ++ r)
def nsN : List (Option Nat) := [some 0, some 1, some 2, some 3, none, some 4, some 5]
def ns6 : List (Option Nat) := [some 0, some 1, some 2, some 3, some 4, some 5]
def stR (f : Bool) (l : List (List UInt8)) (r : List (Nat × V)) (h : Tr O) (n : Nat) : St := stG ((0, .lst f l.length (strs l)) :: (3, .bool true) :: (4, P3) :: r) h n
abbrev mp (k : Nat) : V := .map (some k)
theorem rs_1 (f : Bool) (l : List (List UInt8)) : ∃ L, RunIs Tryz.prog csL [] 1000 3 Tryz.f6 [0, 3, 4, 5] (headN 4 cdRs) (startSt [.lst f l.length (strs l)] (hSR gS gR) 3) L
    [([],
      [(gS = gS), (gR = gR)],
      .to .normal (stG [(0, .lst f (l.length) (strs l)), (3, .bool true), (4, .ptr (some (3, 0))), (5, .map (some 6))] (hL [(0, .ints .u32 gS), (1, .ints .u32 gR), (3, .cells [.slc none 0 0 0, .int .i64 0, .map (some 4), .map (some 5), .int .i64 0, .bool false, .bool false, .int .i64 0]), (4, .map [] 0), (5, .map [] 0), (6, .map [] 0)]) 7))]
  := RunIs.of (by kernel_rfl) (by kernel_rfl) (by kernel_rfl)
theorem rs_2 (f : Bool) (l : List (List UInt8)) : ∃ L, RunIs Tryz.prog csL [(6, .give (nV 0))] 1000 3 Tryz.f6 [0, 3, 4, 5, 6] (seqL lpRs) (stR f l [(5, mp 6)] (hN [] []) 7) L
    [([],
      [(V.int IntKind.i64 (0 : Int) = nV 0)],
      .to .normal (stG [(0, .lst f (l.length) (strs l)), (3, .bool true), (4, .ptr (some (3, 0))), (5, .map (some 6)), (6, .int .i64 0)] (hL [(0, .ints .u32 gS), (1, .ints .u32 gR), (3, .cells [.slc none 0 0 0, .int .i64 0, .map (some 4), .map (some 5), .int .i64 0, .bool false, .bool false, .int .i64 0]), (4, .mapD none []), (5, .mapD none []), (6, .mapD none [])]) 7))]
  := RunIs.of (by kernel_rfl) (by kernel_rfl) (by kernel_rfl)
theorem rs_3n (f : Bool) (l : List (List UInt8)) (i : Nat) : ∃ L, RunIs Tryz.prog csL [(24, .split), (27, .split)] 1000 3 Tryz.f6 [0, 3, 4, 5, 6] (seqL rdRs) (stR f l [(5, mp 6), (6, nV i)] (hN [] []) 7) L
    [([((decide (Int.ofNat i < (Int.ofNat l.length))), true), ((decide (Int.ofNat i < (80 : Int))), true)],
      [],
      .to .normal (stG [(0, .lst f (l.length) (strs l)), (3, .bool true), (4, .ptr (some (3, 0))), (5, .map (some 6)), (6, .int .i64 (Int.ofNat i))] (hL [(0, .ints .u32 gS), (1, .ints .u32 gR), (3, .cells [.slc none 0 0 0, .int .i64 0, .map (some 4), .map (some 5), .int .i64 0, .bool false, .bool false, .int .i64 0]), (4, .mapD none []), (5, .mapD none []), (6, .mapD none [])]) 7)),
    ([((decide (Int.ofNat i < (Int.ofNat l.length))), true), ((decide (Int.ofNat i < (80 : Int))), false)],
      [],
      .to (.exit 0) (stG [(0, .lst f (l.length) (strs l)), (3, .bool true), (4, .ptr (some (3, 0))), (5, .map (some 6)), (6, .int .i64 (Int.ofNat i))] (hL [(0, .ints .u32 gS), (1, .ints .u32 gR), (3, .cells [.slc none 0 0 0, .int .i64 0, .map (some 4), .map (some 5), .int .i64 0, .bool false, .bool false, .int .i64 0]), (4, .mapD none []), (5, .mapD none []), (6, .mapD none [])]) 7)),
    ([((decide (Int.ofNat i < (Int.ofNat l.length))), false)],
      [],
      .to (.exit 0) (stG [(0, .lst f (l.length) (strs l)), (3, .bool true), (4, .ptr (some (3, 0))), (5, .map (some 6)), (6, .int .i64 (Int.ofNat i))] (hL [(0, .ints .u32 gS), (1, .ints .u32 gR), (3, .cells [.slc none 0 0 0, .int .i64 0, .map (some 4), .map (some 5), .int .i64 0, .bool false, .bool false, .int .i64 0]), (4, .mapD none []), (5, .mapD none []), (6, .mapD none [])]) 7))]
  := RunIs.of (by kernel_rfl) (by kernel_rfl) (by kernel_rfl)
theorem rs_7n (f : Bool) (l : List (List UInt8)) (i : Nat) (x d : List UInt8) : ∃ L, RunIs Tryz.prog csL [(33, .give (.fptr [.str x])), (37, .give (.fptr [.str x])), (41, .give (.str d))] 1000 3 Tryz.f6 [0, 3, 4, 5, 6, 7] (seqL bdRs) (stR f l [(5, mp 6), (6, nV i)] (hN [] []) 7) L
    [([],
      [((0 : Int) ≤ Int.ofNat i ∧ Int.ofNat i < (Int.ofNat l.length)), ((strs l).length = l.length * 1), (V.fptr (cellsAt (strs l) ((Int.ofNat i).toNat * 1) 1) = V.fptr [D.str x]), ((0 : Int) ≤ Int.ofNat i ∧ Int.ofNat i < (Int.ofNat l.length)), ((strs l).length = l.length * 1), (V.fptr (cellsAt (strs l) ((Int.ofNat i).toNat * 1) 1) = V.fptr [D.str x]), (((0 : Int) ≤ if (64 : Int) < (Int.ofNat x.length) then (64 : Int) else (Int.ofNat x.length)) ∧ (if (64 : Int) < (Int.ofNat x.length) then (64 : Int) else (Int.ofNat x.length)) ≤ (Int.ofNat x.length)), (V.str (List.drop 0 (List.take (if (64 : Int) < (Int.ofNat x.length) then (64 : Int) else (Int.ofNat x.length)).toNat x)) = V.str d)],
      .to .normal (stG [(0, .lst f (l.length) (strs l)), (3, .bool true), (4, .ptr (some (3, 0))), (5, .map (some 6)), (6, .int .i64 (Int.ofNat i)), (7, .str d)] (hL [(0, .ints .u32 gS), (1, .ints .u32 gR), (3, .cells [.slc none 0 0 0, .int .i64 0, .map (some 4), .map (some 5), .int .i64 0, .bool false, .bool false, .int .i64 0]), (4, .mapD none []), (5, .mapD none []), (6, .mapD none [])]) 7))]
  := RunIs.of (by kernel_rfl) (by kernel_rfl) (by kernel_rfl)
theorem rs_3s (f : Bool) (l : List (List UInt8)) (i : Nat) (len cap : Nat) (lg : List UInt8) (nx : Int) (es rt : List (D × D)) (ls : List (D × D)) : ∃ L, RunIs Tryz.prog csL [(24, .split), (27, .split)] 1000 3 Tryz.f6 [0, 3, 4, 5, 6] (seqL rdRs) (stR f l [(5, mp 7), (6, nV i)] (hS (mQ len cap lg nx es rt) ls []) 8) L
    [([((decide (Int.ofNat i < (Int.ofNat l.length))), true), ((decide (Int.ofNat i < (80 : Int))), true)],
      [],
      .to .normal (stG [(0, .lst f (l.length) (strs l)), (3, .bool true), (4, .ptr (some (3, 0))), (5, .map (some 7)), (6, .int .i64 (Int.ofNat i))] (hL (memL (pS len cap lg (0) nx (0) es rt) ++ [(7, .mapD none ls)])) 8)),
    ([((decide (Int.ofNat i < (Int.ofNat l.length))), true), ((decide (Int.ofNat i < (80 : Int))), false)],
      [],
      .to (.exit 0) (stG [(0, .lst f (l.length) (strs l)), (3, .bool true), (4, .ptr (some (3, 0))), (5, .map (some 7)), (6, .int .i64 (Int.ofNat i))] (hL (memL (pS len cap lg (0) nx (0) es rt) ++ [(7, .mapD none ls)])) 8)),
    ([((decide (Int.ofNat i < (Int.ofNat l.length))), false)],
      [],
      .to (.exit 0) (stG [(0, .lst f (l.length) (strs l)), (3, .bool true), (4, .ptr (some (3, 0))), (5, .map (some 7)), (6, .int .i64 (Int.ofNat i))] (hL (memL (pS len cap lg (0) nx (0) es rt) ++ [(7, .mapD none ls)])) 8))]
  := RunIs.of (by kernel_rfl) (by kernel_rfl) (by kernel_rfl)
theorem rs_7s (f : Bool) (l : List (List UInt8)) (i : Nat) (x d : List UInt8) (len cap : Nat) (lg : List UInt8) (nx : Int) (es rt : List (D × D)) (ls : List (D × D)) : ∃ L, RunIs Tryz.prog csL [(33, .give (.fptr [.str x])), (37, .give (.fptr [.str x])), (41, .give (.str d))] 1000 3 Tryz.f6 [0, 3, 4, 5, 6, 7] (seqL bdRs) (stR f l [(5, mp 7), (6, nV i)] (hS (mQ len cap lg nx es rt) ls []) 8) L
    [([],
      [((0 : Int) ≤ Int.ofNat i ∧ Int.ofNat i < (Int.ofNat l.length)), ((strs l).length = l.length * 1), (V.fptr (cellsAt (strs l) ((Int.ofNat i).toNat * 1) 1) = V.fptr [D.str x]), ((0 : Int) ≤ Int.ofNat i ∧ Int.ofNat i < (Int.ofNat l.length)), ((strs l).length = l.length * 1), (V.fptr (cellsAt (strs l) ((Int.ofNat i).toNat * 1) 1) = V.fptr [D.str x]), (((0 : Int) ≤ if (64 : Int) < (Int.ofNat x.length) then (64 : Int) else (Int.ofNat x.length)) ∧ (if (64 : Int) < (Int.ofNat x.length) then (64 : Int) else (Int.ofNat x.length)) ≤ (Int.ofNat x.length)), (V.str (List.drop 0 (List.take (if (64 : Int) < (Int.ofNat x.length) then (64 : Int) else (Int.ofNat x.length)).toNat x)) = V.str d)],
      .to .normal (stG [(0, .lst f (l.length) (strs l)), (3, .bool true), (4, .ptr (some (3, 0))), (5, .map (some 7)), (6, .int .i64 (Int.ofNat i)), (7, .str d)] (hL (memL (pS len cap lg (0) nx (0) es rt) ++ [(7, .mapD none ls)])) 8))]
  := RunIs.of (by kernel_rfl) (by kernel_rfl) (by kernel_rfl)
theorem rs_8n (f : Bool) (l : List (List UInt8)) (i : Nat) (d z a : List UInt8) (len2 : Nat) (lg2 : List UInt8) (nx2 : Int) (es2 rt2 : List (D × D)) : ∃ L, RunIs Tryz.prog (pn15 [P3, .str z, nilS] (hN [] [(7, .cells [.int .u8 (IntKind.u8.wrap (Int.ofNat i))])]) 8 (.tup [.str a, okE], emG ns6 (mem0 0 0 0 [] []) (.tup [.str a, okE], mem0w len2 lg2 0 nx2 0 es2 [], 7) (hN [] [(7, .cells [.int .u8 (IntKind.u8.wrap (Int.ofNat i))])]) 8, 9)) [(47, .give (.str z))] 1000 3 Tryz.f6 [0, 3, 4, 5, 6, 7, 8, 9] (seqL (tailN 1 bdRs)) (stR f l [(5, mp 6), (6, nV i), (7, .str d)] (hN [] []) 7) L
    [([],
      [(V.str [UInt8.ofNat (IntKind.u8.wrap (Int.ofNat i)).toNat] = V.str z), (([.ptr (some (3, 0)), .str z, .slc none 0 0 0] : List V) = [.ptr (some (3, 0)), .str z, .slc none 0 0 0] ∧ (hL [(0, .ints .u32 gS), (1, .ints .u32 gR), (3, .cells [.slc none 0 0 0, .int .i64 0, .map (some 4), .map (some 5), .int .i64 0, .bool false, .bool false, .int .i64 0]), (4, .mapD none []), (5, .mapD none []), (6, .mapD none []), (7, .cells [.int .u8 (IntKind.u8.wrap (Int.ofNat i))])]) = (hL [(0, .ints .u32 gS), (1, .ints .u32 gR), (3, .cells [.slc none 0 0 0, .int .i64 0, .map (some 4), .map (some 5), .int .i64 0, .bool false, .bool false, .int .i64 0]), (4, .mapD none []), (5, .mapD none []), (6, .mapD none []), (7, .cells [.int .u8 (IntKind.u8.wrap (Int.ofNat i))])]) ∧ 8 = 8)],
      .to .normal (stG [(0, .lst f (l.length) (strs l)), (3, .bool true), (4, .ptr (some (3, 0))), (5, .map (some 7)), (6, .int .i64 (Int.ofNat i)), (7, .str d), (8, .str a), (9, .int .i64 0)] (hL (memL (pS len2 len2 lg2 0 nx2 0 es2 []) ++ [(7, .mapD none [])])) 8))]
  := RunIs.of (by kernel_rfl) (by kernel_rfl) (by kernel_rfl)
theorem rs_8o (f : Bool) (l : List (List UInt8)) (i : Nat) (d z a : List UInt8) (len cap : Nat) (lg : List UInt8) (nx : Int) (es rt : List (D × D)) (ls : List (D × D)) : ∃ L, RunIs Tryz.prog (pn15 [P3, .str z, nilS] (hS (mQ len cap lg nx es rt) ls [(8, .cells [.int .u8 (IntKind.u8.wrap (Int.ofNat i))])]) 9 (.tup [.str a, okE], emG ns7 (memS (mQ len cap lg nx es rt)) (.tup [.str a, okE], memS (mQ len cap lg nx es rt), 7) (hS (mQ len cap lg nx es rt) ls [(8, .cells [.int .u8 (IntKind.u8.wrap (Int.ofNat i))])]) 9, 9)) [(47, .give (.str z))] 1000 3 Tryz.f6 [0, 3, 4, 5, 6, 7, 8, 9] (seqL (tailN 1 bdRs)) (stR f l [(5, mp 7), (6, nV i), (7, .str d)] (hS (mQ len cap lg nx es rt) ls []) 8) L
    [([],
      [(V.str [UInt8.ofNat (IntKind.u8.wrap (Int.ofNat i)).toNat] = V.str z), (([.ptr (some (3, 0)), .str z, .slc none 0 0 0] : List V) = [.ptr (some (3, 0)), .str z, .slc none 0 0 0] ∧ (hL (memL (pS len cap lg (0) nx (0) es rt) ++ [(7, .mapD none ls), (8, .cells [.int .u8 (IntKind.u8.wrap (Int.ofNat i))])])) = (hL (memL (pS len cap lg (0) nx (0) es rt) ++ [(7, .mapD none ls), (8, .cells [.int .u8 (IntKind.u8.wrap (Int.ofNat i))])])) ∧ 9 = 9)],
      .to .normal (stG [(0, .lst f (l.length) (strs l)), (3, .bool true), (4, .ptr (some (3, 0))), (5, .map (some 7)), (6, .int .i64 (Int.ofNat i)), (7, .str d), (8, .str a), (9, .int .i64 0)] (hL (memL (pS len cap lg (0) nx (0) es rt) ++ [(7, .mapD none ls)])) 8))]
  := RunIs.of (by kernel_rfl) (by kernel_rfl) (by kernel_rfl)
theorem rs_8w (f : Bool) (l : List (List UInt8)) (i : Nat) (d z a : List UInt8) (len cap : Nat) (lg : List UInt8) (nx : Int) (es rt : List (D × D)) (ls : List (D × D)) (len2 : Nat) (lg2 : List UInt8) (nx2 : Int) (es2 rt2 : List (D × D)) : ∃ L, RunIs Tryz.prog (pn15 [P3, .str z, nilS] (hS (mQ len cap lg nx es rt) ls [(8, .cells [.int .u8 (IntKind.u8.wrap (Int.ofNat i))])]) 9 (.tup [.str a, okE], emG ns7 (memS (mQ len cap lg nx es rt)) (.tup [.str a, okE], memNw len2 lg2 0 nx2 0 es2 rt2, 8) (hS (mQ len cap lg nx es rt) ls [(8, .cells [.int .u8 (IntKind.u8.wrap (Int.ofNat i))])]) 9, 10)) [(47, .give (.str z))] 1000 3 Tryz.f6 [0, 3, 4, 5, 6, 7, 8, 9] (seqL (tailN 1 bdRs)) (stR f l [(5, mp 7), (6, nV i), (7, .str d)] (hS (mQ len cap lg nx es rt) ls []) 8) L
    [([],
      [(V.str [UInt8.ofNat (IntKind.u8.wrap (Int.ofNat i)).toNat] = V.str z), (([.ptr (some (3, 0)), .str z, .slc none 0 0 0] : List V) = [.ptr (some (3, 0)), .str z, .slc none 0 0 0] ∧ (hL (memL (pS len cap lg (0) nx (0) es rt) ++ [(7, .mapD none ls), (8, .cells [.int .u8 (IntKind.u8.wrap (Int.ofNat i))])])) = (hL (memL (pS len cap lg (0) nx (0) es rt) ++ [(7, .mapD none ls), (8, .cells [.int .u8 (IntKind.u8.wrap (Int.ofNat i))])])) ∧ 9 = 9)],
      .to .normal (stG [(0, .lst f (l.length) (strs l)), (3, .bool true), (4, .ptr (some (3, 0))), (5, .map (some 7)), (6, .int .i64 (Int.ofNat i)), (7, .str d), (8, .str a), (9, .int .i64 0)] (hL (memL (pS len2 len2 lg2 0 nx2 0 es2 rt2) ++ [(7, .mapD none ls)])) 8))]
  := RunIs.of (by kernel_rfl) (by kernel_rfl) (by kernel_rfl)
theorem rs_9o (f : Bool) (l : List (List UInt8)) (i : Nat) (d a : List UInt8) (e : Int) (len cap : Nat) (lg : List UInt8) (nx : Int) (es rt : List (D × D)) (ls : List (D × D)) : ∃ L, RunIs Tryz.prog (pinS csL 16 [P3, .str d, .str a] (hS (mQ len cap lg nx es rt) ls []) 8 (eV e, emG ns7 (memS (mQ len cap lg nx es rt)) (eV e, memS (mQ len cap lg nx es rt), 7) (hS (mQ len cap lg nx es rt) ls []) 8, 8)) [] 1000 3 Tryz.f6 [0, 3, 4, 5, 6, 7, 8, 9, 10] (seqL (tailN 2 bdRs)) (stR f l [(5, mp 7), (6, nV i), (7, .str d), (8, .str a), (9, okE)] (hS (mQ len cap lg nx es rt) ls []) 8) L
    [([],
      [(([.ptr (some (3, 0)), .str d, .str a] : List V) = [.ptr (some (3, 0)), .str d, .str a] ∧ (hL (memL (pS len cap lg (0) nx (0) es rt) ++ [(7, .mapD none ls)])) = (hL (memL (pS len cap lg (0) nx (0) es rt) ++ [(7, .mapD none ls)])) ∧ 8 = 8)],
      .to .normal (stG [(0, .lst f (l.length) (strs l)), (3, .bool true), (4, .ptr (some (3, 0))), (5, .map (some 7)), (6, .int .i64 (Int.ofNat i)), (7, .str d), (8, .str a), (9, .int .i64 0), (10, .int .i64 e)] (hL (memL (pS len cap lg (0) nx (0) es rt) ++ [(7, .mapD none ls)])) 8))]
  := RunIs.of (by kernel_rfl) (by kernel_rfl) (by kernel_rfl)
theorem rs_9w (f : Bool) (l : List (List UInt8)) (i : Nat) (d a : List UInt8) (e : Int) (len cap : Nat) (lg : List UInt8) (nx : Int) (es rt : List (D × D)) (ls : List (D × D)) (len2 : Nat) (lg2 : List UInt8) (nx2 : Int) (es2 rt2 : List (D × D)) : ∃ L, RunIs Tryz.prog (pinS csL 16 [P3, .str d, .str a] (hS (mQ len cap lg nx es rt) ls []) 8 (eV e, emG ns7 (memS (mQ len cap lg nx es rt)) (eV e, memNw len2 lg2 0 nx2 0 es2 rt2, 8) (hS (mQ len cap lg nx es rt) ls []) 8, 9)) [] 1000 3 Tryz.f6 [0, 3, 4, 5, 6, 7, 8, 9, 10] (seqL (tailN 2 bdRs)) (stR f l [(5, mp 7), (6, nV i), (7, .str d), (8, .str a), (9, okE)] (hS (mQ len cap lg nx es rt) ls []) 8) L
    [([],
      [(([.ptr (some (3, 0)), .str d, .str a] : List V) = [.ptr (some (3, 0)), .str d, .str a] ∧ (hL (memL (pS len cap lg (0) nx (0) es rt) ++ [(7, .mapD none ls)])) = (hL (memL (pS len cap lg (0) nx (0) es rt) ++ [(7, .mapD none ls)])) ∧ 8 = 8)],
      .to .normal (stG [(0, .lst f (l.length) (strs l)), (3, .bool true), (4, .ptr (some (3, 0))), (5, .map (some 7)), (6, .int .i64 (Int.ofNat i)), (7, .str d), (8, .str a), (9, .int .i64 0), (10, .int .i64 e)] (hL (memL (pS len2 len2 lg2 0 nx2 0 es2 rt2) ++ [(7, .mapD none ls)])) 8))]
  := RunIs.of (by kernel_rfl) (by kernel_rfl) (by kernel_rfl)
theorem rs_10a (f : Bool) (l : List (List UInt8)) (i : Nat) (d a : List UInt8) (e : Int) (len cap : Nat) (lg : List UInt8) (nx : Int) (es rt : List (D × D)) (ls : List (D × D)) : ∃ L, RunIs Tryz.prog csL [(56, .give (.bool true))] 1000 3 Tryz.f6 [0, 3, 4, 5, 6, 7, 8, 9, 10, 11] (headN 2 (tailN 3 bdRs)) (stR f l [(5, mp 7), (6, nV i), (7, .str d), (8, .str a), (9, okE), (10, eV e)] (hS (mQ len cap lg nx es rt) ls []) 8) L
    [([],
      [(V.bool (beqB d ([] : List UInt8)) = V.bool true)],
      .to .normal (stG [(0, .lst f (l.length) (strs l)), (3, .bool true), (4, .ptr (some (3, 0))), (5, .map (some 7)), (6, .int .i64 (Int.ofNat i)), (7, .str d), (8, .str a), (9, .int .i64 0), (10, .int .i64 e), (11, .int .i64 1)] (hL (memL (pS len cap lg (0) nx (0) es rt) ++ [(7, .mapD none ls)])) 8))]
  := RunIs.of (by kernel_rfl) (by kernel_rfl) (by kernel_rfl)
theorem rs_10b (f : Bool) (l : List (List UInt8)) (i : Nat) (d a : List UInt8) (e : Int) (w : List UInt8) (len cap : Nat) (lg : List UInt8) (nx : Int) (es rt : List (D × D)) (ls : List (D × D)) : ∃ L, RunIs Tryz.prog csL [(56, .give (.bool false)), (59, .give (.str w)), (60, .give (.bool false))] 1000 3 Tryz.f6 [0, 3, 4, 5, 6, 7, 8, 9, 10, 11] (headN 2 (tailN 3 bdRs)) (stR f l [(5, mp 7), (6, nV i), (7, .str d), (8, .str a), (9, okE), (10, eV e)] (hS (mQ len cap lg nx es rt) ls []) 8) L
    [([],
      [(V.bool (beqB d ([] : List UInt8)) = V.bool false), ((if false = true then V.tup [D.valV (V.str ([] : List UInt8)) (lookD (D.str d) ls), V.bool (lookD (D.str d) ls).isSome] else D.valV (V.str ([] : List UInt8)) (lookD (D.str d) ls)) = V.str w), (V.bool (beqB w ([] : List UInt8)) = V.bool false)],
      .to .normal (stG [(0, .lst f (l.length) (strs l)), (3, .bool true), (4, .ptr (some (3, 0))), (5, .map (some 7)), (6, .int .i64 (Int.ofNat i)), (7, .str d), (8, .str a), (9, .int .i64 0), (10, .int .i64 e), (11, .int .i64 0)] (hL (memL (pS len cap lg (0) nx (0) es rt) ++ [(7, .mapD none ls)])) 8))]
  := RunIs.of (by kernel_rfl) (by kernel_rfl) (by kernel_rfl)
theorem rs_10c (f : Bool) (l : List (List UInt8)) (i : Nat) (d a : List UInt8) (e : Int) (len cap : Nat) (lg : List UInt8) (nx : Int) (es rt : List (D × D)) (ls : List (D × D)) : ∃ L, RunIs Tryz.prog csL [(56, .give (.bool false)), (59, .give (.str [])), (60, .give (.bool true)), (64, .give (.bool true))] 1000 3 Tryz.f6 [0, 3, 4, 5, 6, 7, 8, 9, 10, 11] (headN 2 (tailN 3 bdRs)) (stR f l [(5, mp 7), (6, nV i), (7, .str d), (8, .str a), (9, okE), (10, eV e)] (hS (mQ len cap lg nx es rt) ls []) 8) L
    [([],
      [(V.bool (beqB d ([] : List UInt8)) = V.bool false), ((if false = true then V.tup [D.valV (V.str ([] : List UInt8)) (lookD (D.str d) ls), V.bool (lookD (D.str d) ls).isSome] else D.valV (V.str ([] : List UInt8)) (lookD (D.str d) ls)) = V.str []), (V.bool (beqB [] ([] : List UInt8)) = V.bool true), (V.bool (decide ((Int.ofNat ls.length) ≥ (64 : Int))) = V.bool true)],
      .to .normal (stG [(0, .lst f (l.length) (strs l)), (3, .bool true), (4, .ptr (some (3, 0))), (5, .map (some 7)), (6, .int .i64 (Int.ofNat i)), (7, .str d), (8, .str a), (9, .int .i64 0), (10, .int .i64 e), (11, .int .i64 2)] (hL (memL (pS len cap lg (0) nx (0) es rt) ++ [(7, .mapD none ls)])) 8))]
  := RunIs.of (by kernel_rfl) (by kernel_rfl) (by kernel_rfl)
theorem rs_10d (f : Bool) (l : List (List UInt8)) (i : Nat) (d a : List UInt8) (e : Int) (len cap : Nat) (lg : List UInt8) (nx : Int) (es rt : List (D × D)) (ls : List (D × D)) : ∃ L, RunIs Tryz.prog csL [(56, .give (.bool false)), (59, .give (.str [])), (60, .give (.bool true)), (64, .give (.bool false))] 1000 3 Tryz.f6 [0, 3, 4, 5, 6, 7, 8, 9, 10, 11] (headN 2 (tailN 3 bdRs)) (stR f l [(5, mp 7), (6, nV i), (7, .str d), (8, .str a), (9, okE), (10, eV e)] (hS (mQ len cap lg nx es rt) ls []) 8) L
    [([],
      [(V.bool (beqB d ([] : List UInt8)) = V.bool false), ((if false = true then V.tup [D.valV (V.str ([] : List UInt8)) (lookD (D.str d) ls), V.bool (lookD (D.str d) ls).isSome] else D.valV (V.str ([] : List UInt8)) (lookD (D.str d) ls)) = V.str []), (V.bool (beqB [] ([] : List UInt8)) = V.bool true), (V.bool (decide ((Int.ofNat ls.length) ≥ (64 : Int))) = V.bool false)],
      .to .normal (stG [(0, .lst f (l.length) (strs l)), (3, .bool true), (4, .ptr (some (3, 0))), (5, .map (some 7)), (6, .int .i64 (Int.ofNat i)), (7, .str d), (8, .str a), (9, .int .i64 0), (10, .int .i64 e), (11, .int .i64 0)] (hL (memL (pS len cap lg (0) nx (0) es rt) ++ [(7, .mapD none ls)])) 8))]
  := RunIs.of (by kernel_rfl) (by kernel_rfl) (by kernel_rfl)
theorem rs_15 (f : Bool) (l : List (List UInt8)) (i : Nat) (d a : List UInt8) (e : Int) (len cap : Nat) (lg : List UInt8) (nx : Int) (es rt : List (D × D)) (ls : List (D × D)) : ∃ L, RunIs Tryz.prog csL [(71, .give (.bool false))] 1000 3 Tryz.f6 [0, 3, 4, 5, 6, 7, 8, 10] (seqL (tailN 5 bdRs)) (stR f l [(5, mp 7), (6, nV i), (7, .str d), (8, .str a), (9, okE), (10, eV e), (11, eV e)] (hS (mQ len cap lg nx es rt) ls []) 8) L
    [([],
      [(V.bool (e != e) = V.bool false)],
      .to .normal (stG [(0, .lst f (l.length) (strs l)), (3, .bool true), (4, .ptr (some (3, 0))), (5, .map (some 7)), (6, .int .i64 (Int.ofNat i)), (7, .str d), (8, .str a), (10, .int .i64 e)] (hL (memL (pS len cap lg (0) nx (0) es rt) ++ [(7, .mapD none ls)])) 8))]
  := RunIs.of (by kernel_rfl) (by kernel_rfl) (by kernel_rfl)
theorem rs_17y (f : Bool) (l : List (List UInt8)) (i : Nat) (d a : List UInt8) (e : Int) (len cap : Nat) (lg : List UInt8) (nx : Int) (es rt : List (D × D)) (ls : List (D × D)) : ∃ L, RunIs Tryz.prog csL [(74, .give (.bool true))] 1000 3 Tryz.f6 [0, 3, 4, 5, 6] (seqR (tailN 5 bdRs)) (stR f l [(5, mp 7), (6, nV i), (7, .str d), (8, .str a), (10, eV e)] (hS (mQ len cap lg nx es rt) ls []) 8) L
    [([],
      [(V.bool (e == (0 : Int)) = V.bool true)],
      .to .normal (stG [(0, .lst f (l.length) (strs l)), (3, .bool true), (4, .ptr (some (3, 0))), (5, .map (some 7)), (6, .int .i64 (Int.ofNat i))] (hL (memL (pS len cap lg (0) nx (0) es rt) ++ [(7, .mapD none (updD (D.str d) (D.str a) ls))])) 8))]
  := RunIs.of (by kernel_rfl) (by kernel_rfl) (by kernel_rfl)
theorem rs_17n (f : Bool) (l : List (List UInt8)) (i : Nat) (d a : List UInt8) (e : Int) (len cap : Nat) (lg : List UInt8) (nx : Int) (es rt : List (D × D)) (ls : List (D × D)) : ∃ L, RunIs Tryz.prog csL [(74, .give (.bool false))] 1000 3 Tryz.f6 [0, 3, 4, 5, 6] (seqR (tailN 5 bdRs)) (stR f l [(5, mp 7), (6, nV i), (7, .str d), (8, .str a), (10, eV e)] (hS (mQ len cap lg nx es rt) ls []) 8) L
    [([],
      [(V.bool (e == (0 : Int)) = V.bool false)],
      .to .normal (stG [(0, .lst f (l.length) (strs l)), (3, .bool true), (4, .ptr (some (3, 0))), (5, .map (some 7)), (6, .int .i64 (Int.ofNat i))] (hL (memL (pS len cap lg (0) nx (0) es rt) ++ [(7, .mapD none ls)])) 8))]
  := RunIs.of (by kernel_rfl) (by kernel_rfl) (by kernel_rfl)
theorem rs_6 (f : Bool) (l : List (List UInt8)) (i : Nat) (len cap : Nat) (lg : List UInt8) (nx : Int) (es rt : List (D × D)) (ls : List (D × D)) : ∃ L, RunIs Tryz.prog csL [(30, .give (nV (i + 1)))] 1000 3 Tryz.f6 [0, 3, 4, 5, 6] (seqR (seqR rdRs)) (stR f l [(5, mp 7), (6, nV i)] (hS (mQ len cap lg nx es rt) ls []) 8) L
    [([],
      [(V.int IntKind.i64 (IntKind.i64.wrap (Int.ofNat i + (1 : Int))) = nV (i + 1))],
      .to .normal (stG [(0, .lst f (l.length) (strs l)), (3, .bool true), (4, .ptr (some (3, 0))), (5, .map (some 7)), (6, .int .i64 (Int.ofNat (i + 1)))] (hL (memL (pS len cap lg (0) nx (0) es rt) ++ [(7, .mapD none ls)])) 8))]
  := RunIs.of (by kernel_rfl) (by kernel_rfl) (by kernel_rfl)
theorem rs_19d (f : Bool) (l : List (List UInt8)) (n : Nat) (cs : List D) (len cap : Nat) (lg : List UInt8) (nx : Int) (es rt : List (D × D)) (ls : List (D × D)) : ∃ L, RunIs Tryz.prog (pinS csL 23 [P3] (hS (mQ len cap lg nx es rt) ls []) 8 (.slc (some (8, 0)) n n 1, emG ns7 (memS (mQ len cap lg nx es rt)) (.slc (some (7, 0)) n n 1, hKf len cap lg 0 nx 0 es rt [(7, .deep cs)], 8) (hS (mQ len cap lg nx es rt) ls []) 8, 9)) [] 1000 3 Tryz.f6 [3, 4, 5, 12] (seqL (tailN 5 cdRs)) (stG [(3, .bool true), (4, P3), (5, mp 7)] (hS (mQ len cap lg nx es rt) ls []) 8) L
    [([],
      [(([.ptr (some (3, 0))] : List V) = [.ptr (some (3, 0))] ∧ (hL (memL (pS len cap lg (0) nx (0) es rt) ++ [(7, .mapD none ls)])) = (hL (memL (pS len cap lg (0) nx (0) es rt) ++ [(7, .mapD none ls)])) ∧ 8 = 8)],
      .to .normal (stG [(3, .bool true), (4, .ptr (some (3, 0))), (5, .map (some 7)), (12, .slc (some (8, 0)) n n 1)] (hL (memL (pS len cap lg ((0 : Int)) nx ((0 : Int)) es rt) ++ [(7, .mapD none ls), (8, .deep cs)])) 9))]
  := RunIs.of (by kernel_rfl) (by kernel_rfl) (by kernel_rfl)
theorem rs_19c (f : Bool) (l : List (List UInt8)) (x : List UInt8) (len cap : Nat) (lg : List UInt8) (nx : Int) (es rt : List (D × D)) (ls : List (D × D)) : ∃ L, RunIs Tryz.prog (pinS csL 23 [P3] (hS (mQ len cap lg nx es rt) ls []) 8 (.slc (some (8, 0)) 1 1 1, emG ns7 (memS (mQ len cap lg nx es rt)) (.slc (some (7, 0)) 1 1 1, hKf len cap lg 0 nx 0 es rt [(7, .cells [.str x])], 8) (hS (mQ len cap lg nx es rt) ls []) 8, 9)) [] 1000 3 Tryz.f6 [3, 4, 5, 12] (seqL (tailN 5 cdRs)) (stG [(3, .bool true), (4, P3), (5, mp 7)] (hS (mQ len cap lg nx es rt) ls []) 8) L
    [([],
      [(([.ptr (some (3, 0))] : List V) = [.ptr (some (3, 0))] ∧ (hL (memL (pS len cap lg (0) nx (0) es rt) ++ [(7, .mapD none ls)])) = (hL (memL (pS len cap lg (0) nx (0) es rt) ++ [(7, .mapD none ls)])) ∧ 8 = 8)],
      .to .normal (stG [(3, .bool true), (4, .ptr (some (3, 0))), (5, .map (some 7)), (12, .slc (some (8, 0)) 1 1 1)] (hL (memL (pS len cap lg ((0 : Int)) nx ((0 : Int)) es rt) ++ [(7, .mapD none ls), (8, .cells [.str x])])) 9))]
  := RunIs.of (by kernel_rfl) (by kernel_rfl) (by kernel_rfl)
theorem rs_19e (f : Bool) (l : List (List UInt8)) (len cap : Nat) (lg : List UInt8) (nx : Int) (es rt : List (D × D)) (ls : List (D × D)) : ∃ L, RunIs Tryz.prog (pinS csL 23 [P3] (hS (mQ len cap lg nx es rt) ls []) 8 (nilS, emG ns7 (memS (mQ len cap lg nx es rt)) (nilS, hKf len cap lg 0 nx 0 es rt [], 7) (hS (mQ len cap lg nx es rt) ls []) 8, 8)) [] 1000 3 Tryz.f6 [3, 4, 5, 12] (seqL (tailN 5 cdRs)) (stG [(3, .bool true), (4, P3), (5, mp 7)] (hS (mQ len cap lg nx es rt) ls []) 8) L
    [([],
      [(([.ptr (some (3, 0))] : List V) = [.ptr (some (3, 0))] ∧ (hL (memL (pS len cap lg (0) nx (0) es rt) ++ [(7, .mapD none ls)])) = (hL (memL (pS len cap lg (0) nx (0) es rt) ++ [(7, .mapD none ls)])) ∧ 8 = 8)],
      .to .normal (stG [(3, .bool true), (4, .ptr (some (3, 0))), (5, .map (some 7)), (12, .slc none 0 0 0)] (hL (memL (pS len cap lg ((0 : Int)) nx ((0 : Int)) es rt) ++ [(7, .mapD none ls)])) 8))]
  := RunIs.of (by kernel_rfl) (by kernel_rfl) (by kernel_rfl)
theorem rs_20l (f : Bool) (l : List (List UInt8)) (n : Nat) (ks : List (List UInt8)) (len cap : Nat) (lg : List UInt8) (nx : Int) (es rt : List (D × D)) (ls : List (D × D)) : ∃ L, RunIs Tryz.prog csL [(13, .give (nV 0))] 1000 3 Tryz.f6 [3, 4, 5, 12, 13] (seqL lqRs) (stG [(3, .bool true), (4, P3), (5, mp 7), (12, .lst false n (strs ks))] (hS (mQ len cap lg nx es rt) ls []) 8) L
    [([],
      [(V.int IntKind.i64 (0 : Int) = nV 0)],
      .to .normal (stG [(3, .bool true), (4, .ptr (some (3, 0))), (5, .map (some 7)), (12, .lst false n (strs ks)), (13, .int .i64 0)] (hL (memL (pS len cap lg (0) nx (0) es rt) ++ [(7, .mapD none ls)])) 8))]
  := RunIs.of (by kernel_rfl) (by kernel_rfl) (by kernel_rfl)
theorem rs_21l (f : Bool) (l : List (List UInt8)) (n : Nat) (ks : List (List UInt8)) (i : Nat) (len cap : Nat) (lg : List UInt8) (nx : Int) (es rt : List (D × D)) (ls : List (D × D)) : ∃ L, RunIs Tryz.prog csL [(83, .split)] 1000 3 Tryz.f6 [3, 4, 5, 12, 13] (seqL rqRs) (stG [(3, .bool true), (4, P3), (5, mp 7), (12, .lst false n (strs ks)), (13, nV i)] (hS (mQ len cap lg nx es rt) ls []) 8) L
    [([((decide (Int.ofNat i < (Int.ofNat n))), true)],
      [],
      .to .normal (stG [(3, .bool true), (4, .ptr (some (3, 0))), (5, .map (some 7)), (12, .lst false n (strs ks)), (13, .int .i64 (Int.ofNat i))] (hL (memL (pS len cap lg (0) nx (0) es rt) ++ [(7, .mapD none ls)])) 8)),
    ([((decide (Int.ofNat i < (Int.ofNat n))), false)],
      [],
      .to (.exit 2) (stG [(3, .bool true), (4, .ptr (some (3, 0))), (5, .map (some 7)), (12, .lst false n (strs ks)), (13, .int .i64 (Int.ofNat i))] (hL (memL (pS len cap lg (0) nx (0) es rt) ++ [(7, .mapD none ls)])) 8))]
  := RunIs.of (by kernel_rfl) (by kernel_rfl) (by kernel_rfl)
theorem rs_20e (f : Bool) (l : List (List UInt8)) (len cap : Nat) (lg : List UInt8) (nx : Int) (es rt : List (D × D)) (ls : List (D × D)) : ∃ L, RunIs Tryz.prog csL [(13, .give (nV 0))] 1000 3 Tryz.f6 [3, 4, 5, 12, 13] (seqL lqRs) (stG [(3, .bool true), (4, P3), (5, mp 7), (12, nilS)] (hS (mQ len cap lg nx es rt) ls []) 8) L
    [([],
      [(V.int IntKind.i64 (0 : Int) = nV 0)],
      .to .normal (stG [(3, .bool true), (4, .ptr (some (3, 0))), (5, .map (some 7)), (12, .slc none 0 0 0), (13, .int .i64 0)] (hL (memL (pS len cap lg (0) nx (0) es rt) ++ [(7, .mapD none ls)])) 8))]
  := RunIs.of (by kernel_rfl) (by kernel_rfl) (by kernel_rfl)
theorem rs_21e (f : Bool) (l : List (List UInt8)) (i : Nat) (len cap : Nat) (lg : List UInt8) (nx : Int) (es rt : List (D × D)) (ls : List (D × D)) : ∃ L, RunIs Tryz.prog csL [(83, .split)] 1000 3 Tryz.f6 [3, 4, 5, 12, 13] (seqL rqRs) (stG [(3, .bool true), (4, P3), (5, mp 7), (12, nilS), (13, nV i)] (hS (mQ len cap lg nx es rt) ls []) 8) L
    [([((decide (Int.ofNat i < (0 : Int))), true)],
      [],
      .to .normal (stG [(3, .bool true), (4, .ptr (some (3, 0))), (5, .map (some 7)), (12, .slc none 0 0 0), (13, .int .i64 (Int.ofNat i))] (hL (memL (pS len cap lg (0) nx (0) es rt) ++ [(7, .mapD none ls)])) 8)),
    ([((decide (Int.ofNat i < (0 : Int))), false)],
      [],
      .to (.exit 2) (stG [(3, .bool true), (4, .ptr (some (3, 0))), (5, .map (some 7)), (12, .slc none 0 0 0), (13, .int .i64 (Int.ofNat i))] (hL (memL (pS len cap lg (0) nx (0) es rt) ++ [(7, .mapD none ls)])) 8))]
  := RunIs.of (by kernel_rfl) (by kernel_rfl) (by kernel_rfl)
theorem rs_23 (f : Bool) (l : List (List UInt8)) (n : Nat) (ks : List (List UInt8)) (i : Nat) (x d : List UInt8) (len cap : Nat) (lg : List UInt8) (nx : Int) (es rt : List (D × D)) (ls : List (D × D)) : ∃ L, RunIs Tryz.prog (pinS csL 24 [P3, .str x] (hS (mQ len cap lg nx es rt) ls []) 8 (.tup [.str d, .bool true], emG ns7 (memS (mQ len cap lg nx es rt)) (.tup [.str d, .bool true], memS (mQ len cap lg nx es rt), 7) (hS (mQ len cap lg nx es rt) ls []) 8, 8)) [(90, .give (.fptr [.str x]))] 1000 3 Tryz.f6 [3, 4, 5, 12, 13, 14, 15] (seqL bqRs) (stG [(3, .bool true), (4, P3), (5, mp 7), (12, .lst false n (strs ks)), (13, nV i)] (hS (mQ len cap lg nx es rt) ls []) 8) L
    [([],
      [((0 : Int) ≤ Int.ofNat i ∧ Int.ofNat i < (Int.ofNat n)), ((strs ks).length = n * 1), (V.fptr (cellsAt (strs ks) ((Int.ofNat i).toNat * 1) 1) = V.fptr [D.str x]), (([.ptr (some (3, 0)), .str x] : List V) = [.ptr (some (3, 0)), .str x] ∧ (hL (memL (pS len cap lg (0) nx (0) es rt) ++ [(7, .mapD none ls)])) = (hL (memL (pS len cap lg (0) nx (0) es rt) ++ [(7, .mapD none ls)])) ∧ 8 = 8)],
      .to .normal (stG [(3, .bool true), (4, .ptr (some (3, 0))), (5, .map (some 7)), (12, .lst false n (strs ks)), (13, .int .i64 (Int.ofNat i)), (14, .str d), (15, .bool true)] (hL (memL (pS len cap lg (0) nx (0) es rt) ++ [(7, .mapD none ls)])) 8))]
  := RunIs.of (by kernel_rfl) (by kernel_rfl) (by kernel_rfl)
theorem rs_24 (f : Bool) (l : List (List UInt8)) (n : Nat) (ks : List (List UInt8)) (i : Nat) (x y d : List UInt8) (len cap : Nat) (lg : List UInt8) (nx : Int) (es rt : List (D × D)) (ls : List (D × D)) : ∃ L, RunIs Tryz.prog csL [(101, .give (.fptr [.str y])), (105, .give (.fptr [.str x])), (107, .give (.bool false)), (115, .give (.bool false)), (122, .give (.fptr [.str x])), (124, .give (.str d)), (125, .give (.bool false)), (96, .split)] 1000 3 Tryz.f6 [3, 4, 5, 12, 13] (seqR bqRs) (stG [(3, .bool true), (4, P3), (5, mp 7), (12, .lst false n (strs ks)), (13, nV i), (14, .str d), (15, .bool true)] (hS (mQ len cap lg nx es rt) ls []) 8) L
    [([((decide (Int.ofNat i > (0 : Int))), true)],
      [((0 : Int) ≤ IntKind.i64.wrap (Int.ofNat i - (1 : Int)) ∧ IntKind.i64.wrap (Int.ofNat i - (1 : Int)) < (Int.ofNat n)), ((strs ks).length = n * 1), (V.fptr (cellsAt (strs ks) ((IntKind.i64.wrap (Int.ofNat i - (1 : Int))).toNat * 1) 1) = V.fptr [D.str y]), ((0 : Int) ≤ Int.ofNat i ∧ Int.ofNat i < (Int.ofNat n)), ((strs ks).length = n * 1), (V.fptr (cellsAt (strs ks) ((Int.ofNat i).toNat * 1) 1) = V.fptr [D.str x]), ((V.bool !ltB y x) = V.bool false), (V.bool (beqB d ([] : List UInt8)) = V.bool false), ((0 : Int) ≤ Int.ofNat i ∧ Int.ofNat i < (Int.ofNat n)), ((strs ks).length = n * 1), (V.fptr (cellsAt (strs ks) ((Int.ofNat i).toNat * 1) 1) = V.fptr [D.str x]), ((if false = true then V.tup [D.valV (V.str ([] : List UInt8)) (lookD (D.str x) ls), V.bool (lookD (D.str x) ls).isSome] else D.valV (V.str ([] : List UInt8)) (lookD (D.str x) ls)) = V.str d), ((V.bool !beqB d d) = V.bool false)],
      .to .normal (stG [(3, .bool true), (4, .ptr (some (3, 0))), (5, .map (some 7)), (12, .lst false n (strs ks)), (13, .int .i64 (Int.ofNat i))] (hL (memL (pS len cap lg (0) nx (0) es rt) ++ [(7, .mapD none ls)])) 8)),
    ([((decide (Int.ofNat i > (0 : Int))), false)],
      [(V.bool (beqB d ([] : List UInt8)) = V.bool false), ((0 : Int) ≤ Int.ofNat i ∧ Int.ofNat i < (Int.ofNat n)), ((strs ks).length = n * 1), (V.fptr (cellsAt (strs ks) ((Int.ofNat i).toNat * 1) 1) = V.fptr [D.str x]), ((if false = true then V.tup [D.valV (V.str ([] : List UInt8)) (lookD (D.str x) ls), V.bool (lookD (D.str x) ls).isSome] else D.valV (V.str ([] : List UInt8)) (lookD (D.str x) ls)) = V.str d), ((V.bool !beqB d d) = V.bool false)],
      .to .normal (stG [(3, .bool true), (4, .ptr (some (3, 0))), (5, .map (some 7)), (12, .lst false n (strs ks)), (13, .int .i64 (Int.ofNat i))] (hL (memL (pS len cap lg (0) nx (0) es rt) ++ [(7, .mapD none ls)])) 8))]
  := RunIs.of (by kernel_rfl) (by kernel_rfl) (by kernel_rfl)
theorem rs_22 (f : Bool) (l : List (List UInt8)) (n : Nat) (ks : List (List UInt8)) (i : Nat) (len cap : Nat) (lg : List UInt8) (nx : Int) (es rt : List (D × D)) (ls : List (D × D)) : ∃ L, RunIs Tryz.prog csL [(85, .give (nV (i + 1)))] 1000 3 Tryz.f6 [3, 4, 5, 12, 13] (seqR (seqR rqRs)) (stG [(3, .bool true), (4, P3), (5, mp 7), (12, .lst false n (strs ks)), (13, nV i)] (hS (mQ len cap lg nx es rt) ls []) 8) L
    [([],
      [(V.int IntKind.i64 (IntKind.i64.wrap (Int.ofNat i + (1 : Int))) = nV (i + 1))],
      .to .normal (stG [(3, .bool true), (4, .ptr (some (3, 0))), (5, .map (some 7)), (12, .lst false n (strs ks)), (13, .int .i64 (Int.ofNat (i + 1)))] (hL (memL (pS len cap lg (0) nx (0) es rt) ++ [(7, .mapD none ls)])) 8))]
  := RunIs.of (by kernel_rfl) (by kernel_rfl) (by kernel_rfl)
theorem rs_26l (f : Bool) (l : List (List UInt8)) (n : Nat) (ks : List (List UInt8)) (len cap : Nat) (lg : List UInt8) (nx : Int) (es rt : List (D × D)) (ls : List (D × D)) : ∃ L, RunIs Tryz.prog (pinS csL 24 [P3, .str []] (hS (mQ len cap lg nx es rt) ls []) 8 (.tup [.str [], .bool false], emG ns7 (memS (mQ len cap lg nx es rt)) (.tup [.str [], .bool false], memS (mQ len cap lg nx es rt), 7) (hS (mQ len cap lg nx es rt) ls []) 8, 8)) [(138, .give (.bool true))] 1000 3 Tryz.f6 [] (tailN 7 cdRs) (stG [(3, .bool true), (4, P3), (5, mp 7), (12, .lst false n (strs ks))] (hS (mQ len cap lg nx es rt) ls []) 8) L
    [([],
      [(([.ptr (some (3, 0)), .str []] : List V) = [.ptr (some (3, 0)), .str []] ∧ (hL (memL (pS len cap lg (0) nx (0) es rt) ++ [(7, .mapD none ls)])) = (hL (memL (pS len cap lg (0) nx (0) es rt) ++ [(7, .mapD none ls)])) ∧ 8 = 8), (V.bool ((Int.ofNat n) == (Int.ofNat ls.length)) = V.bool true)],
      .ret (.bool true) (hL [(0, .ints .u32 gS), (1, .ints .u32 gR)]) 3)]
  := RunIs.of (by kernel_rfl) (by kernel_rfl) (by kernel_rfl)
theorem rs_26e (f : Bool) (l : List (List UInt8)) (len cap : Nat) (lg : List UInt8) (nx : Int) (es rt : List (D × D)) (ls : List (D × D)) : ∃ L, RunIs Tryz.prog (pinS csL 24 [P3, .str []] (hS (mQ len cap lg nx es rt) ls []) 8 (.tup [.str [], .bool false], emG ns7 (memS (mQ len cap lg nx es rt)) (.tup [.str [], .bool false], memS (mQ len cap lg nx es rt), 7) (hS (mQ len cap lg nx es rt) ls []) 8, 8)) [(138, .give (.bool true))] 1000 3 Tryz.f6 [] (tailN 7 cdRs) (stG [(3, .bool true), (4, P3), (5, mp 7), (12, nilS)] (hS (mQ len cap lg nx es rt) ls []) 8) L
    [([],
      [(([.ptr (some (3, 0)), .str []] : List V) = [.ptr (some (3, 0)), .str []] ∧ (hL (memL (pS len cap lg (0) nx (0) es rt) ++ [(7, .mapD none ls)])) = (hL (memL (pS len cap lg (0) nx (0) es rt) ++ [(7, .mapD none ls)])) ∧ 8 = 8), (V.bool ((0 : Int) == (Int.ofNat ls.length)) = V.bool true)],
      .ret (.bool true) (hL [(0, .ints .u32 gS), (1, .ints .u32 gR)]) 3)]
  := RunIs.of (by kernel_rfl) (by kernel_rfl) (by kernel_rfl)
theorem rs_19N (f : Bool) (l : List (List UInt8)) : ∃ L, RunIs Tryz.prog (pinS csL 23 [P3] (hN [] []) 7 (nilS, emG nsN (memS (pN 0 0 0 [] [])) (nilS, memS (pN 0 0 0 [] []), 7) (hN [] []) 7, 7)) [] 1000 3 Tryz.f6 [3, 4, 5, 12] (seqL (tailN 5 cdRs)) (stG [(3, .bool true), (4, P3), (5, mp 6)] (hN [] []) 7) L
    [([],
      [(([.ptr (some (3, 0))] : List V) = [.ptr (some (3, 0))] ∧ (hL [(0, .ints .u32 gS), (1, .ints .u32 gR), (3, .cells [.slc none 0 0 0, .int .i64 0, .map (some 4), .map (some 5), .int .i64 0, .bool false, .bool false, .int .i64 0]), (4, .mapD none []), (5, .mapD none []), (6, .mapD none [])]) = (hL [(0, .ints .u32 gS), (1, .ints .u32 gR), (3, .cells [.slc none 0 0 0, .int .i64 0, .map (some 4), .map (some 5), .int .i64 0, .bool false, .bool false, .int .i64 0]), (4, .mapD none []), (5, .mapD none []), (6, .mapD none [])]) ∧ 7 = 7)],
      .to .normal (stG [(3, .bool true), (4, .ptr (some (3, 0))), (5, .map (some 6)), (12, .slc none 0 0 0)] (hL [(0, .ints .u32 gS), (1, .ints .u32 gR), (3, .cells [.slc none 0 0 0, .int .i64 0, .map (some 4), .map (some 5), .int .i64 0, .bool false, .bool false, .int .i64 0]), (4, .mapD none []), (5, .mapD none []), (6, .mapD none [])]) 7))]
  := RunIs.of (by kernel_rfl) (by kernel_rfl) (by kernel_rfl)
theorem rs_20N (f : Bool) (l : List (List UInt8)) : ∃ L, RunIs Tryz.prog csL [(13, .give (nV 0))] 1000 3 Tryz.f6 [3, 4, 5, 12, 13] (seqL lqRs) (stG [(3, .bool true), (4, P3), (5, mp 6), (12, nilS)] (hN [] []) 7) L
    [([],
      [(V.int IntKind.i64 (0 : Int) = nV 0)],
      .to .normal (stG [(3, .bool true), (4, .ptr (some (3, 0))), (5, .map (some 6)), (12, .slc none 0 0 0), (13, .int .i64 0)] (hL [(0, .ints .u32 gS), (1, .ints .u32 gR), (3, .cells [.slc none 0 0 0, .int .i64 0, .map (some 4), .map (some 5), .int .i64 0, .bool false, .bool false, .int .i64 0]), (4, .mapD none []), (5, .mapD none []), (6, .mapD none [])]) 7))]
  := RunIs.of (by kernel_rfl) (by kernel_rfl) (by kernel_rfl)
theorem rs_21N (f : Bool) (l : List (List UInt8)) : ∃ L, RunIs Tryz.prog csL [] 1000 3 Tryz.f6 [3, 4, 5, 12, 13] (seqL rqRs) (stG [(3, .bool true), (4, P3), (5, mp 6), (12, nilS), (13, nV 0)] (hN [] []) 7) L
    [([],
      [],
      .to (.exit 2) (stG [(3, .bool true), (4, .ptr (some (3, 0))), (5, .map (some 6)), (12, .slc none 0 0 0), (13, .int .i64 0)] (hL [(0, .ints .u32 gS), (1, .ints .u32 gR), (3, .cells [.slc none 0 0 0, .int .i64 0, .map (some 4), .map (some 5), .int .i64 0, .bool false, .bool false, .int .i64 0]), (4, .mapD none []), (5, .mapD none []), (6, .mapD none [])]) 7))]
  := RunIs.of (by kernel_rfl) (by kernel_rfl) (by kernel_rfl)
theorem rs_26N (f : Bool) (l : List (List UInt8)) : ∃ L, RunIs Tryz.prog (pinS csL 24 [P3, .str []] (hN [] []) 7 (.tup [.str [], .bool false], emG nsN (memS (pN 0 0 0 [] [])) (.tup [.str [], .bool false], memS (pN 0 0 0 [] []), 7) (hN [] []) 7, 7)) [(138, .give (.bool true))] 1000 3 Tryz.f6 [] (tailN 7 cdRs) (stG [(3, .bool true), (4, P3), (5, mp 6), (12, nilS)] (hN [] []) 7) L
    [([],
      [(([.ptr (some (3, 0)), .str []] : List V) = [.ptr (some (3, 0)), .str []] ∧ (hL [(0, .ints .u32 gS), (1, .ints .u32 gR), (3, .cells [.slc none 0 0 0, .int .i64 0, .map (some 4), .map (some 5), .int .i64 0, .bool false, .bool false, .int .i64 0]), (4, .mapD none []), (5, .mapD none []), (6, .mapD none [])]) = (hL [(0, .ints .u32 gS), (1, .ints .u32 gR), (3, .cells [.slc none 0 0 0, .int .i64 0, .map (some 4), .map (some 5), .int .i64 0, .bool false, .bool false, .int .i64 0]), (4, .mapD none []), (5, .mapD none []), (6, .mapD none [])]) ∧ 7 = 7), (V.bool ((0 : Int) == (0 : Int)) = V.bool true)],
      .ret (.bool true) (hL [(0, .ints .u32 gS), (1, .ints .u32 gR)]) 3)]
  := RunIs.of (by kernel_rfl) (by kernel_rfl) (by kernel_rfl)
theorem ro_n (fl nx lf : Int) (es : List (D × D)) : ∃ L, RunIs Tryz.prog (csQ []) [] 1000 7 Tryz.f24 [] (bodyOf Tryz.f24) (startSt [P3, .str []] (memS (pN fl nx lf es [])) 7) L
    [([],
      [],
      .ret (.tup [.str [], .bool false]) (hL [(0, .ints .u32 gS), (1, .ints .u32 gR), (3, .cells [.slc none 0 0 0, .int .i64 ((pN fl nx lf es []).fl), .map (some 5), .map (some 6), .int .i64 ((pN fl nx lf es []).nx), .bool false, .bool false, .int .i64 ((pN fl nx lf es []).lf)]), (5, .mapD none ((pN fl nx lf es []).es)), (6, .mapD none [])]) 7)]
  := RunIs.of (by kernel_rfl) (by kernel_rfl) (by kernel_rfl)
end Go.Proofs.YtfihojpgobmmdaaGreatDoor
namespace Go.Proofs.YtfihojpgobmmdaaGreatDoor
open Go Go.Eng
theorem ltB_lt : ∀ {a b : List UInt8}, a < b → ltB a b = true
  | _, [], h => by simp at h
  | [], _ :: _, _ => rfl
  | a :: x, b :: y, h => by
    simp only [ltB]
    rcases List.cons_lt_cons_iff.1 h with h1 | ⟨h1, h2⟩
    · have : Nat.blt a.toNat b.toNat = true := Nat.ble_eq_true_of_le h1
      rw [this]
    · subst h1
      have e1 : Nat.blt a.toNat a.toNat = false := by
        cases q : Nat.blt a.toNat a.toNat with
        | false => rfl
        | true => exact absurd (Nat.le_of_ble_eq_true q) (Nat.not_succ_le_self _)
      rw [e1, Nat.beq_refl]
      exact ltB_lt h2
theorem lt_of_le_ne {a b : List UInt8} (h : a ≤ b) (hne : a ≠ b) : a < b := by
  by_cases q : a < b
  · exact q
  · exact absurd (leB_anti h (List.not_lt.1 q)) hne
structure RtI (rt : List (D × D)) : Prop where
  keys : KeyS rt
  nd : (keysOf rt).Nodup
  val : ∀ n, lookD (.str n) rt = none ∨ ∃ d, lookD (.str n) rt = some (.str d) ∧ d.length = 32
  emp : lookD (.str []) rt = none
theorem RtI.nil : RtI [] := ⟨(fun _ h => nomatch h), List.Pairwise.nil, fun _ => .inl rfl, rfl⟩
theorem RtI.rte {rt : List (D × D)} (h : RtI rt) : RtE rt := fun n => (h.val n).imp id fun ⟨d, h, _⟩ => ⟨d, h⟩
theorem keysOf_upd {rt : List (D × D)} (h : KeyS rt) (n : List UInt8) (v : D) : keysOf (updD (.str n) v rt) = if n ∈ keysOf rt then keysOf rt else keysOf rt ++ [n] := by
  have h1 := updD_keys (kk := none) (k := .str n) (v := v) rfl rt fun e he => by obtain ⟨k, hk⟩ := h e he; rw [hk]; rfl
  have e0 : ∀ l : List (D × D), keysOf l = (l.map (·.1)).map D.strB := fun l => by unfold keysOf; rw [List.map_map]; rfl
  have hmem : (D.str n ∈ rt.map (·.1)) ↔ n ∈ keysOf rt := by
    rw [keysOf_str h]
    unfold strs
    constructor
    · intro q
      obtain ⟨x, hx, hx2⟩ := List.mem_map.1 q
      cases hx2; exact hx
    · intro q; exact List.mem_map.2 ⟨n, q, rfl⟩
  rw [e0, h1]
  by_cases q : n ∈ keysOf rt
  · rw [if_pos (hmem.2 q), if_pos q, ← e0]
  · rw [if_neg (fun z => q (hmem.1 z)), if_neg q, List.map_append, ← e0]; rfl
theorem RtI.upd {rt : List (D × D)} (h : RtI rt) {n d : List UInt8} (hn : n ≠ []) (hd : d.length = 32) : RtI (updD (.str n) (.str d) rt) := by
  have hk := keysOf_upd h.keys n (.str d)
  refine ⟨fun e he => ?_, ?_, fun x => ?_, ?_⟩
  · have hm : e.1 ∈ (updD (.str n) (.str d) rt).map (·.1) := List.mem_map.2 ⟨e, he, rfl⟩
    have h1 := updD_keys (kk := none) (k := .str n) (v := .str d) rfl rt fun e he => by obtain ⟨k, hk⟩ := h.keys e he; rw [hk]; rfl
    rw [h1] at hm
    split at hm
    · obtain ⟨e', he', hq⟩ := List.mem_map.1 hm
      obtain ⟨k, hk⟩ := h.keys e' he'
      exact ⟨k, hq ▸ hk⟩
    · rcases List.mem_append.1 hm with hm | hm
      · obtain ⟨e', he', hq⟩ := List.mem_map.1 hm
        obtain ⟨k, hk⟩ := h.keys e' he'
        exact ⟨k, hq ▸ hk⟩
      · rw [List.mem_singleton] at hm; exact ⟨n, hm⟩
  · rw [hk]
    split
    · exact h.nd
    · rename_i hq
      rw [List.nodup_append]
      exact ⟨h.nd, by simp, fun a ha b hb => by rw [List.mem_singleton] at hb; subst hb; rintro rfl; exact hq ha⟩
  · rw [look_upd]
    by_cases q : x = n
    · rw [if_pos q]; exact .inr ⟨d, rfl, hd⟩
    · rw [if_neg q]; exact h.val x
  · rw [look_upd, if_neg (fun q => hn q.symm)]; exact h.emp
theorem look_key {rt : List (D × D)} (h : KeyS rt) {x : List UInt8} (hx : x ∈ keysOf rt) : lookD (.str x) rt ≠ none := by
  induction rt with
  | nil => cases hx
  | cons e rt ih =>
    rw [lookD_cons]
    split
    · simp
    · rename_i hne
      have hx : x ∈ D.strB e.1 :: keysOf rt := hx
      rcases List.mem_cons.1 hx with rfl | hx
      · obtain ⟨k, hk⟩ := h e (by simp)
        rw [hk] at hne
        exact absurd rfl hne
      · exact ih (fun e' he' => h e' (List.mem_cons_of_mem _ he')) hx
theorem upd_same {rt : List (D × D)} {n d : List UInt8} (h : KeyS rt) (hl : lookD (.str n) rt = some (.str d)) : updD (.str n) (.str d) rt = rt := by
  induction rt with
  | nil => cases hl
  | cons e rt ih =>
    rw [lookD_cons] at hl
    rw [updD_cons]
    split at hl
    · rename_i he
      rw [if_pos he]
      obtain ⟨e1, e2⟩ := e
      have he : e1 = .str n := he
      have hl : some e2 = some (D.str d) := hl
      cases hl; subst he; rfl
    · rename_i he
      rw [if_neg he, ih (fun e' he' => h e' (List.mem_cons_of_mem _ he')) hl]
section
variable (f : Bool) (l : List (List UInt8))
abbrev FinR : Exit → St → Prop := RetG Tryz.prog 3 Tryz.f6 fun u _ _ => u = .bool true
structure InvQ (B len cap : Nat) (lg : List UInt8) (es rt : List (D × D)) : Prop where
  inv : InvS B len cap lg es
  rti : RtI rt
  r64 : rt.length ≤ 64
def InvR (i : Nat) (s : St) : Prop := (i = 0 ∧ ∃ L, normG 3 L s = some (stR f l [(5, mp 6), (6, nV 0)] (hN [] []) 7)) ∨
  ∃ L len cap lg nx es rt, InvQ (i * 200) len cap lg es rt ∧ normG 3 L s = some (stR f l [(5, mp 7), (6, nV i)] (hS (mQ len cap lg nx es rt) rt []) 8)
theorem pickS (len cap : Nat) (lg : List UInt8) (nx : Int) (es rt ls : List (D × D)) (r : List (Nat × O)) (ht : tabs (hS (mQ len cap lg nx es rt) ls r) = some (gS, gR)) (hs : stoAt (hS (mQ len cap lg nx es rt) ls r) 3 = some (ns7, mQ len cap lg nx es rt)) : PickOk ns7 (hS (mQ len cap lg nx es rt) ls r) (memS (mQ len cap lg nx es rt)) :=
  (sto_pick (m := 3) hs ht (by kernel_rfl)).1
variable {len cap : Nat} {lg : List UInt8} {nx : Int} {es rt : List (D × D)}
def PostR (i : Nat) (s' : St) : Prop := ∃ L len cap lg nx es rt, InvQ ((i + 1) * 200) len cap lg es rt ∧ normG 3 L s' = some (stR f l [(5, mp 7), (6, nV i)] (hS (mQ len cap lg nx es rt) rt []) 8)
abbrev QR (i : Nat) (y : Exit) (s' : St) : Prop := y = .normal ∧ PostR f l i s'
theorem tR17y (i : Nat) (d a : List UInt8) (h : InvQ ((i + 1) * 200) len cap lg es (updD (.str d) (.str a) rt)) : TG Tryz.prog 3 Tryz.f6.ntmps (seqR (tailN 5 bdRs)) (stR f l [(5, mp 7), (6, nV i), (7, .str d), (8, .str a), (10, eV 0)] (hS (mQ len cap lg nx es (updD (.str d) (.str a) rt)) rt []) 8) (QR f l i) := by
  obtain ⟨L, hr⟩ := rs_17y f l i d a 0 len cap lg nx es (updD (.str d) (.str a) rt) rt
  refine TG_is XL mo anyR (by kernel_rfl) hr fun g hg _ => ?_
  rw [List.mem_singleton] at hg; subst hg
  exact ⟨fun p hp => by rw [List.mem_singleton] at hp; subst hp; rfl, fun s' hs' => ⟨rfl, _, len, cap, lg, nx, es, _, h, hs'⟩⟩
theorem tR17n (i : Nat) (d a : List UInt8) (e : Int) (he : e ≠ 0) (h : InvQ ((i + 1) * 200) len cap lg es rt) : TG Tryz.prog 3 Tryz.f6.ntmps (seqR (tailN 5 bdRs)) (stR f l [(5, mp 7), (6, nV i), (7, .str d), (8, .str a), (10, eV e)] (hS (mQ len cap lg nx es rt) rt []) 8) (QR f l i) := by
  obtain ⟨L, hr⟩ := rs_17n f l i d a e len cap lg nx es rt rt
  refine TG_is XL mo anyR (by kernel_rfl) hr fun g hg _ => ?_
  rw [List.mem_singleton] at hg; subst hg
  exact ⟨fun p hp => by rw [List.mem_singleton] at hp; subst hp; exact veq_f he, fun s' hs' => ⟨rfl, _, len, cap, lg, nx, es, _, h, hs'⟩⟩
theorem tR15 (i : Nat) (d a : List UInt8) (e : Int) (ls : List (D × D)) (h : TG Tryz.prog 3 Tryz.f6.ntmps (seqR (tailN 5 bdRs)) (stR f l [(5, mp 7), (6, nV i), (7, .str d), (8, .str a), (10, eV e)] (hS (mQ len cap lg nx es rt) ls []) 8) (QR f l i)) : TG Tryz.prog 3 Tryz.f6.ntmps (tailN 5 bdRs) (stR f l [(5, mp 7), (6, nV i), (7, .str d), (8, .str a), (9, okE), (10, eV e), (11, eV e)] (hS (mQ len cap lg nx es rt) ls []) 8) (QR f l i) := by
  refine TG_seq' (by kernel_rfl) ?_
  obtain ⟨L, hr⟩ := rs_15 f l i d a e len cap lg nx es rt ls
  refine TG_is XL mo anyR (by kernel_rfl) hr fun g hg _ => ?_
  rw [List.mem_singleton] at hg; subst hg
  refine ⟨fun p hp => ?_, fun s' hs' => TG_norm hs' h⟩
  rw [List.mem_singleton] at hp; subst hp
  exact bne_self' e
theorem tR9 (i : Nat) (hi : i < 80) (d a : List UInt8) (hd : d.length ≤ 64) (ha : Has es a) (hal : a.length = 32) (h : InvQ (i * 200 + 60) len cap lg es rt) : TG Tryz.prog 3 Tryz.f6.ntmps (tailN 2 bdRs) (stR f l [(5, mp 7), (6, nV i), (7, .str d), (8, .str a), (9, okE)] (hS (mQ len cap lg nx es rt) rt []) 8) (QR f l i) := by
  have hO : ∀ n : Nat, Int.ofNat n = (n : Int) := fun _ => rfl
  have hle := h.inv.hle
  have hpick := pickS len cap lg nx es rt rt [] (by kernel_rfl) (by kernel_rfl)
  refine TG_seq' (by kernel_rfl) ?_
  have old : ∀ e : Int, CallIs Tryz.prog 16 [P3, .str d, .str a] (memS (mQ len cap lg nx es rt)) 7 (eV e) (memS (mQ len cap lg nx es rt)) 7 → TG Tryz.prog 3 Tryz.f6.ntmps (tailN 3 bdRs) (stR f l [(5, mp 7), (6, nV i), (7, .str d), (8, .str a), (9, okE), (10, eV e)] (hS (mQ len cap lg nx es rt) rt []) 8) (QR f l i) → TG Tryz.prog 3 Tryz.f6.ntmps (seqL (tailN 2 bdRs)) (stR f l [(5, mp 7), (6, nV i), (7, .str d), (8, .str a), (9, okE)] (hS (mQ len cap lg nx es rt) rt []) 8) (andThen (fun s' => TG Tryz.prog 3 Tryz.f6.ntmps (seqR (tailN 2 bdRs)) s' (QR f l i)) (QR f l i)) := by
    intro e hc ht
    obtain ⟨L, hr⟩ := rs_9o f l i d a e len cap lg nx es rt rt
    refine TG_is (XL.pin lt16 (own_callIs hpick (by kernel_rfl) (by kernel_rfl) hc)) mo anyR (by kernel_rfl) hr fun g hg _ => ?_
    rw [List.mem_singleton] at hg; subst hg
    exact ⟨fun p hp => by rw [List.mem_singleton] at hp; subst hp; exact pinEq, fun s' hs' => TG_norm hs' ht⟩
  by_cases h0 : d = []
  · refine old 1 (root_arg d a len cap lg 0 nx 0 es rt h.rti.rte (fun q => q.1 h0)) ?_
    obtain ⟨L, hr⟩ := rs_10a f l i d a 1 len cap lg nx es rt rt
    refine TG_isN1 2 XL mo (by kernel_rfl) hr (fun p hp => by rw [List.mem_singleton] at hp; subst hp; exact vq_t h0) ?_
    exact tR15 f l i d a 1 rt (tR17n f l i d a 1 (by decide) ⟨invS_mono h.inv (by omega), h.rti, h.r64⟩)
  · have hn : nOk d := ⟨h0, hd⟩
    have hb := namB32 (n := d) (d := a) hd (by omega)
    have hap : ∀ rt2, InvQ (i * 200 + 60) len cap lg es rt → RtI rt2 → rt2.length ≤ 64 → InvQ ((i + 1) * 200) (len + (namB d a).length) (len + (namB d a).length) (lg ++ namB d a) es rt2 := fun rt2 h h2 h3 => ⟨invS_mono (invS_app h.inv hb.2 hb.1 h.inv.hen) (by omega), h2, h3⟩
    have new : CallIs Tryz.prog 16 [P3, .str d, .str a] (memS (mQ len cap lg nx es rt)) 7 (eV 0) (memNw (len + (namB d a).length) (lg ++ namB d a) 0 nx 0 es (updD (.str d) (.str a) rt)) 8 → TG Tryz.prog 3 Tryz.f6.ntmps (tailN 3 bdRs) (stR f l [(5, mp 7), (6, nV i), (7, .str d), (8, .str a), (9, okE), (10, eV 0)] (hS (mQ (len + (namB d a).length) (len + (namB d a).length) (lg ++ namB d a) nx es (updD (.str d) (.str a) rt)) rt []) 8) (QR f l i) → TG Tryz.prog 3 Tryz.f6.ntmps (seqL (tailN 2 bdRs)) (stR f l [(5, mp 7), (6, nV i), (7, .str d), (8, .str a), (9, okE)] (hS (mQ len cap lg nx es rt) rt []) 8) (andThen (fun s' => TG Tryz.prog 3 Tryz.f6.ntmps (seqR (tailN 2 bdRs)) s' (QR f l i)) (QR f l i)) := by
      intro hc ht
      obtain ⟨L, hr⟩ := rs_9w f l i d a 0 len cap lg nx es rt rt (len + (namB d a).length) (lg ++ namB d a) nx es (updD (.str d) (.str a) rt)
      refine TG_is (XL.pin lt16 (own_callIs hpick (by kernel_rfl) (by kernel_rfl) hc)) mo anyR (by kernel_rfl) hr fun g hg _ => ?_
      rw [List.mem_singleton] at hg; subst hg
      exact ⟨fun p hp => by rw [List.mem_singleton] at hp; subst hp; exact pinEq, fun s' hs' => TG_norm hs' ht⟩
    rcases h.rti.val d with h1 | ⟨w, h1, hw⟩
    · by_cases h64 : 64 ≤ rt.length
      · refine old 2 (root_many d a len cap lg 0 nx 0 es rt hn (ne32 hal) ha h1 h64) ?_
        obtain ⟨L, hr⟩ := rs_10c f l i d a 2 len cap lg nx es rt rt
        refine TG_isN1 2 XL mo (by kernel_rfl) hr ?_ (tR15 f l i d a 2 rt (tR17n f l i d a 2 (by decide) ⟨invS_mono h.inv (by omega), h.rti, h.r64⟩))
        refine List.forall_mem_cons.2 ⟨vq_f h0, List.forall_mem_cons.2 ⟨?_, List.forall_mem_cons.2 ⟨?_, List.forall_mem_cons.2 ⟨?_, all_nil⟩⟩⟩⟩
        · rw [h1]; rfl
        · rfl
        · exact vb_t (by rw [hO]; omega)
      · refine new (root_new d a len cap lg 0 nx 0 es rt hn (ne32 hal) (by omega) ha h1 (by omega) h.inv.hcp h.inv.hln (by omega)) ?_
        obtain ⟨L, hr⟩ := rs_10d f l i d a 0 (len + (namB d a).length) (len + (namB d a).length) (lg ++ namB d a) nx es (updD (.str d) (.str a) rt) rt
        refine TG_isN1 2 XL mo (by kernel_rfl) hr ?_ (tR15 f l i d a 0 rt (tR17y f l i d a (hap _ h (h.rti.upd h0 hal) (Nat.le_trans (upd_len d (.str a) rt) (by omega)))))
        refine List.forall_mem_cons.2 ⟨vq_f h0, List.forall_mem_cons.2 ⟨?_, List.forall_mem_cons.2 ⟨?_, List.forall_mem_cons.2 ⟨?_, all_nil⟩⟩⟩⟩
        · rw [h1]; rfl
        · rfl
        · exact vb_f (by rw [hO]; omega)
    · have hlk : (updD (.str d) (.str a) rt).length = rt.length := by
        have hk := keysOf_upd h.rti.keys d (.str a)
        have hmem : d ∈ keysOf rt := by
          by_cases q : d ∈ keysOf rt
          · exact q
          · exfalso
            have hnone : lookD (.str d) rt = none := by
              have key : ∀ rt : List (D × D), KeyS rt → d ∉ keysOf rt → lookD (.str d) rt = none := by
                intro rt
                induction rt with
                | nil => intro _ _; rfl
                | cons e rt ih =>
                  intro hk hq
                  rw [lookD_cons, if_neg, ih (fun e' he' => hk e' (List.mem_cons_of_mem _ he')) (fun z => hq (List.mem_cons_of_mem _ z))]
                  intro he
                  exact hq (List.mem_cons.2 (.inl (by show d = D.strB e.1; rw [he]; rfl)))
              exact key rt h.rti.keys q
            rw [hnone] at h1; cases h1
        rw [if_pos hmem] at hk
        have := congrArg List.length hk
        rwa [keysOf_len, keysOf_len] at this
      have hw0 : ¬ w = [] := ne32 hw
      by_cases h4 : a = w
      · subst h4
        refine old 0 (root_same d a len cap lg 0 nx 0 es rt hn (ne32 hal) ha h1) ?_
        obtain ⟨L, hr⟩ := rs_10b f l i d a 0 a len cap lg nx es rt rt
        have hus := upd_same h.rti.keys h1
        refine TG_isN1 2 XL mo (by kernel_rfl) hr ?_ ?_
        · refine List.forall_mem_cons.2 ⟨vq_f h0, List.forall_mem_cons.2 ⟨?_, List.forall_mem_cons.2 ⟨vq_f hw0, all_nil⟩⟩⟩
          rw [h1]; rfl
        · have ht := tR17y f l i d a (len := len) (cap := cap) (lg := lg) (nx := nx) (es := es) (rt := rt) (by rw [hus]; exact ⟨invS_mono h.inv (by omega), h.rti, h.r64⟩)
          rw [hus] at ht
          exact tR15 f l i d a 0 rt ht
      · refine new (root_upd d a len cap lg 0 nx 0 es rt w hn (ne32 hal) (by omega) ha h1 h4 h.inv.hcp h.inv.hln (by omega)) ?_
        obtain ⟨L, hr⟩ := rs_10b f l i d a 0 w (len + (namB d a).length) (len + (namB d a).length) (lg ++ namB d a) nx es (updD (.str d) (.str a) rt) rt
        refine TG_isN1 2 XL mo (by kernel_rfl) hr ?_ (tR15 f l i d a 0 rt (tR17y f l i d a (hap _ h (h.rti.upd h0 hal) (by rw [hlk]; exact h.r64))))
        refine List.forall_mem_cons.2 ⟨vq_f h0, List.forall_mem_cons.2 ⟨?_, List.forall_mem_cons.2 ⟨vq_f hw0, all_nil⟩⟩⟩
        rw [h1]; rfl
def byteS (i : Nat) : List UInt8 := [UInt8.ofNat (IntKind.u8.wrap (Int.ofNat i)).toNat]
abbrev byteO (i : Nat) : List (Nat × O) := [(8, .cells [.int .u8 (IntKind.u8.wrap (Int.ofNat i))])]
theorem tR8s (i : Nat) (hi : i < 80) (d : List UInt8) (hd : d.length ≤ 64) (h : InvQ (i * 200) len cap lg es rt) : TG Tryz.prog 3 Tryz.f6.ntmps (tailN 1 bdRs) (stR f l [(5, mp 7), (6, nV i), (7, .str d)] (hS (mQ len cap lg nx es rt) rt []) 8) (QR f l i) := by
  have hle := h.inv.hle
  have hpick := pickS len cap lg nx es rt rt (byteO i) (by kernel_rfl) (by kernel_rfl)
  have hz : (byteS i).length = 1 := rfl
  refine TG_seq' (by kernel_rfl) ?_
  rcases h.inv.hen (nameOf (byteS i) []) with hnew | hold
  · have hrl := recB_lenr (byteS i) (rs := []) (by simp)
    simp only [List.length_nil] at hrl
    have hc := put_new0 (byteS i) len cap lg 0 nx 0 es rt (by omega) hnew h.inv.hcp h.inv.hln (by omega)
    obtain ⟨L, hr⟩ := rs_8w f l i d (byteS i) (nameOf (byteS i) []) len cap lg nx es rt rt (len + (recB (byteS i) []).length) (lg ++ recB (byteS i) []) (IntKind.i64.wrap (nx + 1)) (updD (.str (nameOf (byteS i) [])) (entD (byteS i) [] nx) es) rt
    refine TG_is (XL.pin lt15 (own_callIs hpick (by kernel_rfl) (by kernel_rfl) hc)) mo anyR (by kernel_rfl) hr fun g hg _ => ?_
    rw [List.mem_singleton] at hg; subst hg
    refine ⟨List.forall_mem_cons.2 ⟨rfl, List.forall_mem_cons.2 ⟨pinEq, all_nil⟩⟩, fun s' hs' => TG_norm hs' (tR9 f l i hi d (nameOf (byteS i) []) hd has_upd_self (nameOf_len _ _) ⟨invS_mono (invS_app h.inv (recB_len _ _).1 (m := 21) (by omega) (ent_upd h.inv.hen)) (by omega), h.rti, h.r64⟩)⟩
  · have hc := put_old0 (byteS i) len cap lg 0 nx 0 es rt (by omega) hold
    obtain ⟨L, hr⟩ := rs_8o f l i d (byteS i) (nameOf (byteS i) []) len cap lg nx es rt rt
    refine TG_is (XL.pin lt15 (own_callIs hpick (by kernel_rfl) (by kernel_rfl) hc)) mo anyR (by kernel_rfl) hr fun g hg _ => ?_
    rw [List.mem_singleton] at hg; subst hg
    exact ⟨List.forall_mem_cons.2 ⟨rfl, List.forall_mem_cons.2 ⟨pinEq, all_nil⟩⟩, fun s' hs' => TG_norm hs' (tR9 f l i hi d (nameOf (byteS i) []) hd hold (nameOf_len _ _) ⟨invS_mono h.inv (by omega), h.rti, h.r64⟩)⟩
theorem pick0 (r : List (Nat × O)) (hg : ∀ j, j < 6 → (hN [] r).get j = (hN [] []).get j) : PickOk ns6 (hN [] r) (mem0 0 0 0 [] []) := by
  refine pick_list (fun q hq => ?_) (fun q hq => ?_) (by kernel_rfl) (fun j k hj => ?_) ?_
  · simp only [List.mem_cons, List.not_mem_nil, or_false] at hq
    rcases hq with rfl | rfl | rfl | rfl | rfl <;> exact Nat.le_of_ble_eq_true rfl
  · simp only [gtab, List.mem_cons, List.not_mem_nil, or_false] at hq
    rcases hq with rfl | rfl | rfl <;> rfl
  · match j, hj with
    | 0, hj => cases hj; exact .inl ⟨(0, 0), by simp [gtab], rfl⟩
    | 1, hj => cases hj; exact .inl ⟨(1, 1), by simp [gtab], rfl⟩
    | 2, hj => cases hj; exact .inl ⟨(2, 2), by simp [gtab], rfl⟩
    | 3, hj => cases hj; exact .inr (by rw [hg 3 (by decide)]; exact fun h => nomatch h)
    | 4, hj => cases hj; exact .inr (by rw [hg 4 (by decide)]; exact fun h => nomatch h)
    | 5, hj => cases hj; exact .inr (by rw [hg 5 (by decide)]; exact fun h => nomatch h)
    | j + 6, hj => simp [ns6] at hj
  · intro q hq
    simp only [List.mem_cons, List.not_mem_nil, or_false] at hq
    rcases hq with rfl | rfl | rfl | rfl | rfl
    · exact ⟨0, .ints .u32 gS, rfl, (hg 0 (by decide)).trans (by kernel_rfl), by kernel_rfl⟩
    · exact ⟨1, .ints .u32 gR, rfl, (hg 1 (by decide)).trans (by kernel_rfl), by kernel_rfl⟩
    · exact ⟨3, .cells [nilS, .int .i64 0, .map (some 4), .map (some 5), .int .i64 0, .bool false, .bool false, .int .i64 0], rfl, (hg 3 (by decide)).trans (by kernel_rfl), by kernel_rfl⟩
    · exact ⟨4, .mapD none [], rfl, (hg 4 (by decide)).trans (by kernel_rfl), by kernel_rfl⟩
    · exact ⟨5, .mapD none [], rfl, (hg 5 (by decide)).trans (by kernel_rfl), by kernel_rfl⟩
theorem tR8n (i : Nat) (hi : i < 80) (d : List UInt8) (hd : d.length ≤ 64) : TG Tryz.prog 3 Tryz.f6.ntmps (tailN 1 bdRs) (stR f l [(5, mp 6), (6, nV i), (7, .str d)] (hN [] []) 7) (QR f l i) := by
  have hz : (byteS i).length = 1 := rfl
  have hpick := pick0 [(7, .cells [.int .u8 (IntKind.u8.wrap (Int.ofNat i))])] (fun j hj => by
    rcases j with _ | _ | _ | _ | _ | _ | j
    · kernel_rfl
    · kernel_rfl
    · kernel_rfl
    · kernel_rfl
    · kernel_rfl
    · kernel_rfl
    · omega)
  refine TG_seq' (by kernel_rfl) ?_
  have hrl := recB_lenr (byteS i) (rs := []) (by simp)
  have hr0 := (recB_len (byteS i) []).1
  simp only [List.length_nil] at hrl
  have hc := put_first (byteS i) 0 0 0 [] [] (by omega) rfl
  obtain ⟨L, hr⟩ := rs_8n f l i d (byteS i) (nameOf (byteS i) []) (recB (byteS i) []).length (recB (byteS i) []) (IntKind.i64.wrap (0 + 1)) (updD (.str (nameOf (byteS i) [])) (entD (byteS i) [] 0) []) []
  refine TG_is (XL.pin lt15 (own_callIs hpick (by kernel_rfl) (by kernel_rfl) hc)) mo anyR (by kernel_rfl) hr fun g hg _ => ?_
  rw [List.mem_singleton] at hg; subst hg
  exact ⟨List.forall_mem_cons.2 ⟨rfl, List.forall_mem_cons.2 ⟨pinEq, all_nil⟩⟩, fun s' hs' => TG_norm hs' (tR9 f l i hi d (nameOf (byteS i) []) hd has_upd_self (nameOf_len _ _) ⟨⟨rfl, hr0, by omega, ent_upd ent_nil⟩, RtI.nil, by decide⟩)⟩
end
end Go.Proofs.YtfihojpgobmmdaaGreatDoor
namespace Go.Proofs.YtfihojpgobmmdaaGreatDoor
open Go Go.Eng
theorem take64 (x : List UInt8) : List.drop 0 (List.take (if (64 : Int) < (Int.ofNat x.length) then (64 : Int) else (Int.ofNat x.length)).toNat x) = x.take 64 := by
  rw [List.drop_zero]
  split
  · rfl
  · rename_i h
    have : x.length ≤ 64 := by have h : ¬ ((64 : Int) < (x.length : Int)) := h; omega
    rw [List.take_of_length_le this, List.take_of_length_le (by simp)]
section
variable (f : Bool) (l : List (List UInt8))
theorem tR7 (i : Nat) (hi : i < 80) (hl : i < l.length) (s : St) (h : InvR f l i s) : TG Tryz.prog 3 Tryz.f6.ntmps bdRs s (QR f l i) := by
  obtain ⟨x, hx⟩ : ∃ x, l[i]? = some x := ⟨_, List.getElem?_eq_getElem hl⟩
  have hO : ∀ n : Nat, Int.ofNat n = (n : Int) := fun _ => rfl
  have hA : ∀ a ∈ [((0 : Int) ≤ Int.ofNat i ∧ Int.ofNat i < (Int.ofNat l.length)), ((strs l).length = l.length * 1), (V.fptr (cellsAt (strs l) ((Int.ofNat i).toNat * 1) 1) = V.fptr [D.str x]), ((0 : Int) ≤ Int.ofNat i ∧ Int.ofNat i < (Int.ofNat l.length)), ((strs l).length = l.length * 1), (V.fptr (cellsAt (strs l) ((Int.ofNat i).toNat * 1) 1) = V.fptr [D.str x]), (((0 : Int) ≤ if (64 : Int) < (Int.ofNat x.length) then (64 : Int) else (Int.ofNat x.length)) ∧ (if (64 : Int) < (Int.ofNat x.length) then (64 : Int) else (Int.ofNat x.length)) ≤ (Int.ofNat x.length)), (V.str (List.drop 0 (List.take (if (64 : Int) < (Int.ofNat x.length) then (64 : Int) else (Int.ofNat x.length)).toNat x)) = V.str (x.take 64))], a := by
    have h1 : (0 : Int) ≤ Int.ofNat i ∧ Int.ofNat i < (Int.ofNat l.length) := ⟨Int.natCast_nonneg _, by rw [hO, hO]; omega⟩
    have h2 : (strs l).length = l.length * 1 := by rw [strs_len, Nat.mul_one]
    have h3 := congrArg V.fptr (cellsAt_strs hx)
    repeat' (first | exact all_nil | refine List.forall_mem_cons.2 ⟨?_, ?_⟩)
    all_goals first | exact h1 | exact h2 | exact h3 | skip
    · rw [hO]; split <;> constructor <;> omega
    · rw [take64]
  have hd : (x.take 64).length ≤ 64 := by rw [List.length_take]; omega
  rcases h with ⟨rfl, L, hs⟩ | ⟨L, len, cap, lg, nx, es, rt, inv, hs⟩
  · refine TG_norm hs ?_
    refine TG_seq' (by kernel_rfl) ?_
    obtain ⟨L, hr⟩ := rs_7n f l 0 x (x.take 64)
    refine TG_is XL mo anyR (by kernel_rfl) hr fun g hg _ => ?_
    rw [List.mem_singleton] at hg; subst hg
    exact ⟨hA, fun s' hs' => TG_norm hs' (tR8n f l 0 hi (x.take 64) hd)⟩
  · refine TG_norm hs ?_
    refine TG_seq' (by kernel_rfl) ?_
    obtain ⟨L, hr⟩ := rs_7s f l i x (x.take 64) len cap lg nx es rt rt
    refine TG_is XL mo anyR (by kernel_rfl) hr fun g hg _ => ?_
    rw [List.mem_singleton] at hg; subst hg
    exact ⟨hA, fun s' hs' => TG_norm hs' (tR8s f l i hi (x.take 64) hd inv)⟩
theorem tRr (i : Nat) (s : St) (h : InvR f l i s) : TG Tryz.prog 3 Tryz.f6.ntmps rdRs s (andThen (fun s' => i < 80 ∧ InvR f l (i + 1) s') fun y s' => y = .exit 0 ∧ InvR f l i s') := by
  have hO : ∀ n : Nat, Int.ofNat n = (n : Int) := fun _ => rfl
  refine TG_seq' (by kernel_rfl) ?_
  have key : ∀ s', i < 80 → i < l.length → InvR f l i s' → TG Tryz.prog 3 Tryz.f6.ntmps (seqR rdRs) s' (andThen (fun s' => i < 80 ∧ InvR f l (i + 1) s') fun y s' => y = .exit 0 ∧ InvR f l i s') := by
    intro s' h1 h2 h3
    refine TG_seq' (by kernel_rfl) ?_
    refine TG_block (i := 1) (by kernel_rfl) (TG_mono (tR7 f l i h1 h2 s' h3) ?_)
    rintro y s2 ⟨rfl, L, len, cap, lg, nx, es, rt, inv, hs⟩
    show TG _ _ _ _ _ _
    refine TG_norm hs ?_
    obtain ⟨L, hr⟩ := rs_6 f l i len cap lg nx es rt rt
    refine TG_is XL mo anyR (by kernel_rfl) hr fun g hg _ => ?_
    rw [List.mem_singleton] at hg; subst hg
    refine ⟨fun a ha => ?_, fun s' hs' => ⟨h1, .inr ⟨_, len, cap, lg, nx, es, rt, inv, hs'⟩⟩⟩
    rw [List.mem_singleton] at ha; subst ha
    exact ieq_ok (by rw [hO]; omega) (by omega)
  rcases h with ⟨rfl, L, hs⟩ | ⟨L, len, cap, lg, nx, es, rt, inv, hs⟩
  · refine TG_norm hs ?_
    obtain ⟨L, hr⟩ := rs_3n f l 0
    refine TG_is XL mo anyR (by kernel_rfl) hr fun g hg hc => ?_
    simp only [List.mem_cons, List.not_mem_nil, or_false] at hg
    rcases hg with rfl | rfl | rfl
    · have c1 := of_decide_eq_true (hc _ (List.mem_cons_self ..))
      refine ⟨all_nil, fun s' hs' => key s' (by omega) (by simp only [hO] at c1; omega) (.inl ⟨rfl, _, hs'⟩)⟩
    · exact ⟨all_nil, fun s' hs' => ⟨rfl, .inl ⟨rfl, _, hs'⟩⟩⟩
    · exact ⟨all_nil, fun s' hs' => ⟨rfl, .inl ⟨rfl, _, hs'⟩⟩⟩
  · refine TG_norm hs ?_
    obtain ⟨L, hr⟩ := rs_3s f l i len cap lg nx es rt rt
    refine TG_is XL mo anyR (by kernel_rfl) hr fun g hg hc => ?_
    simp only [List.mem_cons, List.not_mem_nil, or_false] at hg
    rcases hg with rfl | rfl | rfl
    · have c1 := of_decide_eq_true (hc _ (List.mem_cons_self ..))
      have c2 := of_decide_eq_true (hc _ (List.mem_cons_of_mem _ (List.mem_cons_self ..)))
      simp only [hO] at c1 c2
      refine ⟨all_nil, fun s' hs' => key s' (by omega) (by omega) (.inr ⟨_, len, cap, lg, nx, es, rt, inv, hs'⟩)⟩
    · exact ⟨all_nil, fun s' hs' => ⟨rfl, .inr ⟨_, len, cap, lg, nx, es, rt, inv, hs'⟩⟩⟩
    · exact ⟨all_nil, fun s' hs' => ⟨rfl, .inr ⟨_, len, cap, lg, nx, es, rt, inv, hs'⟩⟩⟩
def stT (k : Nat) (r : List (Nat × V)) (h : Tr O) (n : Nat) : St := stG ((3, .bool true) :: (4, P3) :: (5, mp k) :: r) h n
variable {len cap : Nat} {lg : List UInt8} {nx : Int} {es rt : List (D × D)}
theorem lt24 : 24 < Tryz.prog.funcs.size := Nat.le_of_ble_eq_true (by kernel_rfl)
theorem lt23 : 23 < Tryz.prog.funcs.size := Nat.le_of_ble_eq_true (by kernel_rfl)
include f l in
theorem tR26l (h : RtI rt) : TG Tryz.prog 3 Tryz.f6.ntmps (tailN 7 cdRs) (stT 7 [(12, .lst false (sortS (keysOf rt)).length (strs (sortS (keysOf rt))))] (hS (mQ len cap lg nx es rt) rt []) 8) FinR := by
  obtain ⟨L, hr⟩ := rs_26l f l (sortS (keysOf rt)).length (sortS (keysOf rt)) len cap lg nx es rt rt
  refine TG_ret (XL.pin lt24 (own_callIs (pickS len cap lg nx es rt rt [] (by kernel_rfl) (by kernel_rfl)) (by kernel_rfl) (by kernel_rfl) (rootof_no len cap lg 0 nx 0 es rt [] h.emp))) mo _ (by kernel_rfl) hr fun g hg _ => ?_
  rw [List.mem_singleton] at hg; subst hg
  refine ⟨List.forall_mem_cons.2 ⟨pinEq, List.forall_mem_cons.2 ⟨veq_t ?_, all_nil⟩⟩, _, _, _, rfl, rfl⟩
  rw [sortS_len, keysOf_len]
include f l in
theorem tR20l (h : RtI rt) (hr64 : rt.length ≤ 64) : TG Tryz.prog 3 Tryz.f6.ntmps (tailN 6 cdRs) (stT 7 [(12, .lst false (sortS (keysOf rt)).length (strs (sortS (keysOf rt))))] (hS (mQ len cap lg nx es rt) rt []) 8) FinR := by
  have hO : ∀ n : Nat, Int.ofNat n = (n : Int) := fun _ => rfl
  have hks : ∀ x ∈ sortS (keysOf rt), x ∈ keysOf rt := fun x hx => (sortS_perm _).mem_iff.1 hx
  have hnd : (sortS (keysOf rt)).Nodup := (sortS_perm _).symm.nodup h.nd
  have hpw := sortS_pair (keysOf rt)
  have hlen : (sortS (keysOf rt)).length ≤ 64 := by rw [sortS_len, keysOf_len]; exact hr64
  have hend := tR26l f l (len := len) (cap := cap) (lg := lg) (nx := nx) (es := es) h
  generalize sortS (keysOf rt) = ks at *
  refine TG_seq' (by kernel_rfl) ?_
  refine TG_seq' (by kernel_rfl) ?_
  obtain ⟨L2, hr2⟩ := rs_20l f l ks.length ks len cap lg nx es rt rt
  refine TG_is XL mo anyR (by kernel_rfl) hr2 fun q hq _ => ?_
  rw [List.mem_singleton] at hq; subst hq
  refine ⟨fun p hp => by rw [List.mem_singleton] at hp; subst hp; rfl, fun s' hs' => ?_⟩
  let SH : Nat → St := fun i => stT 7 [(12, .lst false ks.length (strs ks)), (13, nV i)] (hS (mQ len cap lg nx es rt) rt []) 8
  have hs0 : normG 3 [3, 4, 5, 12, 13] s' = some (SH 0) := hs'
  refine TG_block (i := 2) (by kernel_rfl) (TG_mono (Q1 := fun z s' => z = .exit 2 ∧ ∃ L i, normG 3 L s' = some (SH i)) (TG_loop_inv (fun k' s => ∃ i, k' = ks.length - i ∧ i ≤ ks.length ∧ ∃ L, normG 3 L s = some (SH i)) (by kernel_rfl) ?_ ks.length ⟨0, rfl, Nat.zero_le _, _, hs0⟩) ?_)
  · rintro k' s1 ⟨i, hk', hi, L, hs1⟩
    refine TG_norm hs1 ?_
    refine TG_seq' (by kernel_rfl) ?_
    obtain ⟨L3, hr3⟩ := rs_21l f l ks.length ks i len cap lg nx es rt rt
    refine TG_is XL mo anyR (by kernel_rfl) hr3 fun q hq hc => ?_
    simp only [List.mem_cons, List.not_mem_nil, or_false] at hq
    rcases hq with rfl | rfl
    · have c1 := of_decide_eq_true (hc _ (List.mem_cons_self ..))
      simp only [hO] at c1
      have hlt : i < ks.length := by omega
      have hx : ks[i]? = some ks[i] := List.getElem?_eq_getElem hlt
      generalize ks[i] = x at hx
      have hxm : x ∈ ks := List.mem_of_getElem? hx
      obtain ⟨d, hd, hdl⟩ : ∃ d, lookD (.str x) rt = some (.str d) ∧ d.length = 32 := by
        rcases h.val x with q | q
        · exact absurd q (look_key h.keys (hks x hxm))
        · exact q
      refine ⟨all_nil, fun s' hs' => TG_norm hs' ?_⟩
      refine TG_seq' (by kernel_rfl) ?_
      refine TG_block (i := 3) (by kernel_rfl) ?_
      refine TG_seq' (by kernel_rfl) ?_
      have h1 : (0 : Int) ≤ Int.ofNat i ∧ Int.ofNat i < (Int.ofNat ks.length) := ⟨Int.natCast_nonneg _, by rw [hO, hO]; omega⟩
      have h2 : (strs ks).length = ks.length * 1 := by rw [strs_len, Nat.mul_one]
      have h3 := congrArg V.fptr (cellsAt_strs hx)
      obtain ⟨L4, hr4⟩ := rs_23 f l ks.length ks i x d len cap lg nx es rt rt
      refine TG_is (XL.pin lt24 (own_callIs (pickS len cap lg nx es rt rt [] (by kernel_rfl) (by kernel_rfl)) (by kernel_rfl) (by kernel_rfl) (rootof_yes len cap lg 0 nx 0 es rt x d hd))) mo anyR (by kernel_rfl) hr4 fun q hq _ => ?_
      rw [List.mem_singleton] at hq; subst hq
      refine ⟨List.forall_mem_cons.2 ⟨h1, List.forall_mem_cons.2 ⟨h2, List.forall_mem_cons.2 ⟨h3, List.forall_mem_cons.2 ⟨pinEq, all_nil⟩⟩⟩⟩, fun s' hs' => TG_norm hs' ?_⟩
      obtain ⟨y, hy⟩ : ∃ y, 0 < i → ks[i - 1]? = some y := by
        by_cases q : 0 < i
        · exact ⟨ks[i - 1], fun _ => List.getElem?_eq_getElem (by omega)⟩
        · exact ⟨[], fun z => absurd z q⟩
      obtain ⟨L5, hr5⟩ := rs_24 f l ks.length ks i x y d len cap lg nx es rt rt
      have h4 : (if false = true then V.tup [D.valV (V.str ([] : List UInt8)) (lookD (D.str x) rt), V.bool (lookD (D.str x) rt).isSome] else D.valV (V.str ([] : List UInt8)) (lookD (D.str x) rt)) = V.str d := by rw [hd]; rfl
      have fin : ∀ s', normG 3 [3, 4, 5, 12, 13] s' = some (SH i) → TG Tryz.prog 3 Tryz.f6.ntmps (seqR (seqR rqRs)) s' (andThen (fun s' => ∃ k'2, k'2 < k' ∧ ∃ i, k'2 = ks.length - i ∧ i ≤ ks.length ∧ ∃ L, normG 3 L s' = some (SH i)) fun z s' => z = .exit 2 ∧ ∃ L i, normG 3 L s' = some (SH i)) := by
        intro s' hs'
        refine TG_norm hs' ?_
        obtain ⟨L6, hr6⟩ := rs_22 f l ks.length ks i len cap lg nx es rt rt
        refine TG_is XL mo anyR (by kernel_rfl) hr6 fun q hq _ => ?_
        rw [List.mem_singleton] at hq; subst hq
        refine ⟨fun p hp => ?_, fun s' hs' => ⟨ks.length - (i + 1), by omega, i + 1, rfl, by omega, _, hs'⟩⟩
        rw [List.mem_singleton] at hp; subst hp
        exact ieq_ok (by rw [hO]; omega) (by omega)
      refine TG_is XL mo anyR (by kernel_rfl) hr5 fun q hq hc => ?_
      simp only [List.mem_cons, List.not_mem_nil, or_false] at hq
      rcases hq with rfl | rfl
      · have c2 := of_decide_eq_true (hc _ (List.mem_cons_self ..))
        simp only [hO] at c2
        have hi0 : 0 < i := by omega
        have hyx := hy hi0
        have hw : IntKind.i64.wrap (Int.ofNat i - (1 : Int)) = Int.ofNat (i - 1) := by
          rw [wrap_id (by rw [hO]; omega) (by rw [hO]; omega), hO, hO]; omega
        refine ⟨?_, fun s' hs' => fin s' hs'⟩
        rw [hw]
        refine List.forall_mem_cons.2 ⟨⟨Int.natCast_nonneg _, by rw [hO, hO]; omega⟩, List.forall_mem_cons.2 ⟨h2, List.forall_mem_cons.2 ⟨congrArg V.fptr (cellsAt_strs hyx), List.forall_mem_cons.2 ⟨h1, List.forall_mem_cons.2 ⟨h2, List.forall_mem_cons.2 ⟨h3, List.forall_mem_cons.2 ⟨?_, List.forall_mem_cons.2 ⟨vq_f (ne32 hdl), List.forall_mem_cons.2 ⟨h1, List.forall_mem_cons.2 ⟨h2, List.forall_mem_cons.2 ⟨h3, List.forall_mem_cons.2 ⟨h4, List.forall_mem_cons.2 ⟨beqB_self d, all_nil⟩⟩⟩⟩⟩⟩⟩⟩⟩⟩⟩⟩⟩
        have hle : y ≤ x := by
          obtain ⟨q1, q2⟩ := List.getElem?_eq_some_iff.1 hyx
          obtain ⟨q3, q4⟩ := List.getElem?_eq_some_iff.1 hx
          have := List.pairwise_iff_getElem.1 hpw (i - 1) i q1 q3 (by omega)
          rw [q2, q4] at this; exact this
        have hne : y ≠ x := by
          obtain ⟨q1, q2⟩ := List.getElem?_eq_some_iff.1 hyx
          obtain ⟨q3, q4⟩ := List.getElem?_eq_some_iff.1 hx
          have := List.pairwise_iff_getElem.1 hnd (i - 1) i q1 q3 (by omega)
          rw [q2, q4] at this; exact this
        rw [ltB_lt (lt_of_le_ne hle hne)]; rfl
      · refine ⟨?_, fun s' hs' => fin s' hs'⟩
        exact List.forall_mem_cons.2 ⟨vq_f (ne32 hdl), List.forall_mem_cons.2 ⟨h1, List.forall_mem_cons.2 ⟨h2, List.forall_mem_cons.2 ⟨h3, List.forall_mem_cons.2 ⟨h4, List.forall_mem_cons.2 ⟨beqB_self d, all_nil⟩⟩⟩⟩⟩⟩
    · exact ⟨all_nil, fun s' hs' => ⟨rfl, _, i, hs'⟩⟩
  rintro y s2 ⟨rfl, L, i, hs2⟩
  rw [outOf_exit]
  simp only [andThen]
  refine TG_norm hs2 ?_
  refine TG_norm (live := [3, 4, 5, 12]) (s2 := stT 7 [(12, .lst false ks.length (strs ks))] (hS (mQ len cap lg nx es rt) rt []) 8) (by kernel_rfl) hend
end
end Go.Proofs.YtfihojpgobmmdaaGreatDoor
namespace Go.Proofs.YtfihojpgobmmdaaGreatDoor
open Go Go.Eng
theorem pickN (nl : List (Nat × O)) (hg : ∀ j, j < 6 → (hN [] nl).get j = (hN [] []).get j) : PickOk nsN (hN [] nl) (memS (pN 0 0 0 [] [])) := by
  refine pick_list (fun q hq => ?_) (fun q hq => ?_) (by kernel_rfl) (fun j k hj => ?_) ?_
  · have hq : q ∈ ([(0, O.ints .u32 gS), (1, .ints .u32 gR), (3, .cells (stoC 4 5 6 (pN 0 0 0 [] []))), (5, .mapD none []), (6, .mapD none [])] : List (Nat × O)) := hq
    simp only [List.mem_cons, List.not_mem_nil, or_false] at hq
    rcases hq with rfl | rfl | rfl | rfl | rfl <;> exact Nat.le_of_ble_eq_true rfl
  · simp only [gtab, List.mem_cons, List.not_mem_nil, or_false] at hq
    rcases hq with rfl | rfl | rfl <;> rfl
  · match j, hj with
    | 0, hj => cases hj; exact .inl ⟨(0, 0), by simp [gtab], rfl⟩
    | 1, hj => cases hj; exact .inl ⟨(1, 1), by simp [gtab], rfl⟩
    | 2, hj => cases hj; exact .inl ⟨(2, 2), by simp [gtab], rfl⟩
    | 3, hj => cases hj; exact .inr (by rw [hg 3 (by decide)]; exact fun h => nomatch h)
    | 4, hj => cases hj
    | 5, hj => cases hj; exact .inr (by rw [hg 4 (by decide)]; exact fun h => nomatch h)
    | 6, hj => cases hj; exact .inr (by rw [hg 5 (by decide)]; exact fun h => nomatch h)
    | j + 7, hj => simp [nsN] at hj
  · intro q hq
    have hq : q ∈ ([(0, O.ints .u32 gS), (1, .ints .u32 gR), (3, .cells (stoC 4 5 6 (pN 0 0 0 [] []))), (5, .mapD none []), (6, .mapD none [])] : List (Nat × O)) := hq
    simp only [List.mem_cons, List.not_mem_nil, or_false] at hq
    rcases hq with rfl | rfl | rfl | rfl | rfl
    · exact ⟨0, .ints .u32 gS, rfl, (hg 0 (by decide)).trans (by kernel_rfl), by kernel_rfl⟩
    · exact ⟨1, .ints .u32 gR, rfl, (hg 1 (by decide)).trans (by kernel_rfl), by kernel_rfl⟩
    · exact ⟨3, .cells [nilS, .int .i64 0, .map (some 4), .map (some 5), .int .i64 0, .bool false, .bool false, .int .i64 0], rfl, (hg 3 (by decide)).trans (by kernel_rfl), by kernel_rfl⟩
    · exact ⟨4, .mapD none [], rfl, (hg 4 (by decide)).trans (by kernel_rfl), by kernel_rfl⟩
    · exact ⟨5, .mapD none [], rfl, (hg 5 (by decide)).trans (by kernel_rfl), by kernel_rfl⟩
section
variable (f : Bool) (l : List (List UInt8))
include f l in
theorem tR5n : TG Tryz.prog 3 Tryz.f6.ntmps (tailN 5 cdRs) (stT 6 [] (hN [] []) 7) FinR := by
  have hp := pickN [] fun _ _ => rfl
  refine TG_seq' (by kernel_rfl) ?_
  obtain ⟨L1, hr1⟩ := rs_19N f l
  refine TG_is (XL.pin lt23 (own_callIs hp (by kernel_rfl) (by kernel_rfl) (call23n 0 0 0 []))) mo anyR (by kernel_rfl) hr1 fun q hq _ => ?_
  rw [List.mem_singleton] at hq; subst hq
  refine ⟨fun p hp => by rw [List.mem_singleton] at hp; subst hp; exact pinEq, fun s' hs' => TG_norm hs' ?_⟩
  refine TG_seq' (by kernel_rfl) ?_
  refine TG_seq' (by kernel_rfl) ?_
  obtain ⟨L2, hr2⟩ := rs_20N f l
  refine TG_is XL mo anyR (by kernel_rfl) hr2 fun q hq _ => ?_
  rw [List.mem_singleton] at hq; subst hq
  refine ⟨fun p hp => by rw [List.mem_singleton] at hp; subst hp; rfl, fun s' hs' => ?_⟩
  refine TG_block (i := 2) (by kernel_rfl) (TG_mono (Q1 := fun z s' => z = .exit 2 ∧ normG 3 [3, 4, 5, 12, 13] s' = some (stT 6 [(12, nilS), (13, nV 0)] (hN [] []) 7)) (TG_loop_inv (fun _ s => normG 3 [3, 4, 5, 12, 13] s = some (stT 6 [(12, nilS), (13, nV 0)] (hN [] []) 7)) (by kernel_rfl) ?_ 0 hs') ?_)
  · intro k' s1 hs1
    refine TG_norm hs1 ?_
    refine TG_seq' (by kernel_rfl) ?_
    obtain ⟨L3, hr3⟩ := rs_21N f l
    refine TG_is XL mo anyR (by kernel_rfl) hr3 fun q hq _ => ?_
    rw [List.mem_singleton] at hq; subst hq
    exact ⟨all_nil, fun s' hs' => ⟨rfl, hs'⟩⟩
  rintro y s2 ⟨rfl, hs2⟩
  rw [outOf_exit]
  simp only [andThen]
  refine TG_norm hs2 ?_
  refine TG_norm (live := [3, 4, 5, 12]) (s2 := stT 6 [(12, nilS)] (hN [] []) 7) (by kernel_rfl) ?_
  have hro : CallIs Tryz.prog 24 [P3, .str []] (memS (pN 0 0 0 [] [])) 7 (.tup [.str [], .bool false]) (memS (pN 0 0 0 [] [])) 7 := by
    refine callIs_of_TG Tryz.func24 (code := bodyOf Tryz.f24) (by kernel_rfl) (by kernel_rfl) ?_
    obtain ⟨L, hr⟩ := ro_n 0 0 0 []
    refine TG_ret (XQ []) mo _ (by kernel_rfl) hr fun g hg _ => ?_
    rw [List.mem_singleton] at hg; subst hg
    exact ⟨all_nil, _, _, _, rfl, rfl, rfl, rfl⟩
  obtain ⟨L5, hr5⟩ := rs_26N f l
  refine TG_ret (XL.pin lt24 (own_callIs hp (by kernel_rfl) (by kernel_rfl) hro)) mo _ (by kernel_rfl) hr5 fun q hq _ => ?_
  rw [List.mem_singleton] at hq; subst hq
  exact ⟨List.forall_mem_cons.2 ⟨pinEq, List.forall_mem_cons.2 ⟨veq_t rfl, all_nil⟩⟩, _, _, _, rfl, rfl⟩
variable {len cap : Nat} {lg : List UInt8} {nx : Int} {es rt : List (D × D)}
include f l in
theorem tR5s (h : RtI rt) (hr64 : rt.length ≤ 64) : TG Tryz.prog 3 Tryz.f6.ntmps (tailN 5 cdRs) (stT 7 [] (hS (mQ len cap lg nx es rt) rt []) 8) FinR := by
  have hp := pickS len cap lg nx es rt rt [] (by kernel_rfl) (by kernel_rfl)
  have hc := call23g len cap lg 0 nx 0 es rt h.keys (by omega)
  have hend := tR20l f l (len := len) (cap := cap) (lg := lg) (nx := nx) (es := es) h hr64
  have hkl : (sortS (keysOf rt)).length = rt.length := by rw [sortS_len, keysOf_len]
  refine TG_seq' (by kernel_rfl) ?_
  match hks : sortS (keysOf rt), hc, hend with
  | [], hc, _ =>
    have hrt : rt = [] := by rw [hks] at hkl; exact List.length_eq_zero_iff.1 hkl.symm
    subst hrt
    obtain ⟨L1, hr1⟩ := rs_19e f l len cap lg nx es [] []
    refine TG_is (XL.pin lt23 (own_callIs hp (by kernel_rfl) (by kernel_rfl) hc)) mo anyR (by kernel_rfl) hr1 fun q hq _ => ?_
    rw [List.mem_singleton] at hq; subst hq
    refine ⟨fun p hp => by rw [List.mem_singleton] at hp; subst hp; exact pinEq, fun s' hs' => TG_norm hs' ?_⟩
    refine TG_seq' (by kernel_rfl) ?_
    refine TG_seq' (by kernel_rfl) ?_
    obtain ⟨L2, hr2⟩ := rs_20e f l len cap lg nx es [] []
    refine TG_is XL mo anyR (by kernel_rfl) hr2 fun q hq _ => ?_
    rw [List.mem_singleton] at hq; subst hq
    refine ⟨fun p hp => by rw [List.mem_singleton] at hp; subst hp; rfl, fun s' hs' => ?_⟩
    refine TG_block (i := 2) (by kernel_rfl) (TG_mono (Q1 := fun z s' => z = .exit 2 ∧ normG 3 [3, 4, 5, 12, 13] s' = some (stT 7 [(12, nilS), (13, nV 0)] (hS (mQ len cap lg nx es []) [] []) 8)) (TG_loop_inv (fun _ s => normG 3 [3, 4, 5, 12, 13] s = some (stT 7 [(12, nilS), (13, nV 0)] (hS (mQ len cap lg nx es []) [] []) 8)) (by kernel_rfl) ?_ 0 hs') ?_)
    · intro k' s1 hs1
      refine TG_norm hs1 ?_
      refine TG_seq' (by kernel_rfl) ?_
      obtain ⟨L3, hr3⟩ := rs_21e f l 0 len cap lg nx es [] []
      refine TG_is XL mo anyR (by kernel_rfl) hr3 fun q hq hc => ?_
      simp only [List.mem_cons, List.not_mem_nil, or_false] at hq
      rcases hq with rfl | rfl
      · exact absurd (hc (decide (Int.ofNat 0 < (0 : Int)), true) (List.mem_cons_self ..)) (by decide)
      · exact ⟨all_nil, fun s' hs' => ⟨rfl, hs'⟩⟩
    rintro y s2 ⟨rfl, hs2⟩
    rw [outOf_exit]
    simp only [andThen]
    refine TG_norm hs2 ?_
    refine TG_norm (live := [3, 4, 5, 12]) (s2 := stT 7 [(12, nilS)] (hS (mQ len cap lg nx es []) [] []) 8) (by kernel_rfl) ?_
    obtain ⟨L5, hr5⟩ := rs_26e f l len cap lg nx es [] []
    refine TG_ret (XL.pin lt24 (own_callIs hp (by kernel_rfl) (by kernel_rfl) (rootof_no len cap lg 0 nx 0 es [] [] h.emp))) mo _ (by kernel_rfl) hr5 fun q hq _ => ?_
    rw [List.mem_singleton] at hq; subst hq
    exact ⟨List.forall_mem_cons.2 ⟨pinEq, List.forall_mem_cons.2 ⟨veq_t rfl, all_nil⟩⟩, _, _, _, rfl, rfl⟩
  | [x], hc, hend =>
    obtain ⟨L1, hr1⟩ := rs_19c f l x len cap lg nx es rt rt
    refine TG_is (XL.pin lt23 (own_callIs hp (by kernel_rfl) (by kernel_rfl) hc)) mo anyR (by kernel_rfl) hr1 fun q hq _ => ?_
    rw [List.mem_singleton] at hq; subst hq
    refine ⟨fun p hp => by rw [List.mem_singleton] at hp; subst hp; exact pinEq, fun s' hs' => TG_norm hs' ?_⟩
    refine TG_deep [8] (s2 := stT 7 [(12, .slc (some (8, 0)) 1 1 1)] (hS (mQ len cap lg nx es rt) rt [(8, .deep [.str x])]) 9) (by kernel_rfl) ?_
    refine TG_frz [8] (A := [[D.str x].length = 1 * 1]) (s2 := { stT 7 [(12, .lst false 1 [.str x])] (hS (mQ len cap lg nx es rt) rt []) 9 with h := (hS (mQ len cap lg nx es rt) rt [(8, .deep [.str x])]).set 8 none }) (by kernel_rfl) (fun p hp => by rw [List.mem_singleton] at hp; subst hp; rfl) ?_
    exact TG_norm (live := [3, 4, 5, 12]) (s2 := stT 7 [(12, .lst false 1 [.str x])] (hS (mQ len cap lg nx es rt) rt []) 8) (by kernel_rfl) hend
  | x :: y :: ks, hc, hend =>
    obtain ⟨L1, hr1⟩ := rs_19d f l (x :: y :: ks).length (strs (x :: y :: ks)) len cap lg nx es rt rt
    refine TG_is (XL.pin lt23 (own_callIs hp (by kernel_rfl) (by kernel_rfl) hc)) mo anyR (by kernel_rfl) hr1 fun q hq _ => ?_
    rw [List.mem_singleton] at hq; subst hq
    refine ⟨fun p hp => by rw [List.mem_singleton] at hp; subst hp; exact pinEq, fun s' hs' => TG_norm hs' ?_⟩
    have hsl := strs_len (x :: y :: ks)
    generalize (x :: y :: ks) = kk at *
    refine TG_frz [8] (A := [(strs kk).length = kk.length * 1]) (s2 := { stT 7 [(12, .lst false kk.length (strs kk))] (hS (mQ len cap lg nx es rt) rt []) 9 with h := (hS (mQ len cap lg nx es rt) rt [(8, .deep (strs kk))]).set 8 none }) (by kernel_rfl) (fun p hp => by rw [List.mem_singleton] at hp; subst hp; rw [hsl, Nat.mul_one]) ?_
    exact TG_norm (live := [3, 4, 5, 12]) (s2 := stT 7 [(12, .lst false kk.length (strs kk))] (hS (mQ len cap lg nx es rt) rt []) 8) (by kernel_rfl) hend
theorem tgRs : TG Tryz.prog 3 Tryz.f6.ntmps cdRs (startSt [.lst f l.length (strs l)] (hSR gS gR) 3) FinR := by
  obtain ⟨L1, hr1⟩ := rs_1 f l
  refine TG_isN1 4 XL mo (by kernel_rfl) hr1 (fun a ha => ?_) ?_
  · simp only [List.mem_cons, List.not_mem_nil, or_false] at ha
    rcases ha with rfl | rfl <;> first | rfl | trivial
  refine TG_map [(4, none), (5, none), (6, none)] (s2 := stR f l [(5, mp 6)] (hN [] []) 7) (by kernel_rfl) ?_
  refine TG_seq' (by kernel_rfl) ?_
  refine TG_seq' (by kernel_rfl) ?_
  obtain ⟨L2, hr2⟩ := rs_2 f l
  refine TG_is XL mo anyR (by kernel_rfl) hr2 fun g hg _ => ?_
  rw [List.mem_singleton] at hg; subst hg
  refine ⟨fun a ha => by rw [List.mem_singleton] at ha; subst ha; rfl, fun s' hs' => ?_⟩
  refine TG_block (i := 0) (by kernel_rfl) (TG_mono (Q1 := fun y s' => y = .exit 0 ∧ ∃ i, InvR f l i s') (TG_loop_inv (fun k s => ∃ i, k = 80 - i ∧ InvR f l i s) (by kernel_rfl) ?_ 80 ⟨0, rfl, .inl ⟨rfl, _, hs'⟩⟩) ?_)
  · rintro k s1 ⟨i, hk, h1⟩
    refine TG_mono (tRr f l i s1 h1) fun y s2 h2 => ?_
    cases y with
    | normal =>
      obtain ⟨h3, h4⟩ := h2
      exact ⟨80 - (i + 1), by omega, i + 1, rfl, h4⟩
    | _ => first | exact ⟨h2.1, i, h2.2⟩ | (obtain ⟨h3, h4⟩ := h2; cases h3)
  rintro y s2 ⟨rfl, i, h2⟩
  rw [outOf_exit]
  simp only [andThen]
  rcases h2 with ⟨_, L, hs⟩ | ⟨L, len, cap, lg, nx, es, rt, inv, hs⟩
  · refine TG_norm hs ?_
    exact TG_norm (live := [3, 4, 5]) (s2 := stT 6 [] (hN [] []) 7) (by kernel_rfl) (tR5n f l)
  · refine TG_norm hs ?_
    exact TG_norm (live := [3, 4, 5]) (s2 := stT 7 [] (hS (mQ len cap lg nx es rt) rt []) 8) (by kernel_rfl) (tR5s f l inv.rti inv.r64)
end
end Go.Proofs.YtfihojpgobmmdaaGreatDoor
