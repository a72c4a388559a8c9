/- FilterClear: its pieces. No conditions. -/
import Derived.Test.YtadejpmecljjpaaFlThirteen
set_option linter.unusedVariables false
set_option linter.unusedSimpArgs false
set_option linter.unusedSectionVars false
namespace Go.Proofs.Ytadejpmecljjpaa
open Go Go.Eng
noncomputable abbrev cdFc : Code := bodyOf Try.f8
noncomputable abbrev lpFc : Code := seqL (tailN 6 cdFc)
noncomputable abbrev loFc : Code := inner (seqR lpFc)
noncomputable abbrev bdFc : Code := inner loFc
noncomputable abbrev tlFc : Code := seqR (tailN 6 cdFc)
noncomputable abbrev lqFc : Code := seqL (tailN 4 tlFc)
noncomputable abbrev loF2 : Code := inner (seqR lqFc)
noncomputable abbrev bdF2 : Code := inner loF2
noncomputable abbrev enFc : Code := seqR (tailN 4 tlFc)
def frC0 (cl : Cl) : List (Nat × V) := [(5, .bool true), (6, .ptr (some (2, 0))), (7, .ptr (some (pF cl, 0))), (8, .ptr (some (pF cl + 1, 0)))]
section
variable (nF nM : Bool) (fs ms : List Int) (cl : Cl) (k r d v : Int) (l : Nat) (gs : List Int) (a b c e X0 Y0 X1 Y1 : Int) (N : Nat) (px : List Int) (p0 p1 p2 : Int)
def pxO (p0 p1 p2 p3 : Int) : O := .cells [.int .u8 p0, .int .u8 p1, .int .u8 p2, .int .u8 p3]
def sC0 : St := stG (frC0 cl ++ [(3, .ptr (some (pF cl + 3, 0)))]) (hL (lsMd nF nM fs ms cl k r d v l gs a b c e X0 Y0 X1 Y1 N px ++ [(pF cl + 3, pxO p0 p1 p2 255)])) (pF cl + 4)
def frC1 (cl : Cl) : List (Nat × V) := frC0 cl ++ [(9, .ptr (some (pF cl + 3, 0))), (10, .ptr (some (pF cl + 5, 0)))]
variable (N' : Nat) (ze fu : List Int)
def lsC1 : List (Nat × O) := lsMd nF nM fs ms cl k r d v l gs a b c e X0 Y0 X1 Y1 N px ++ [(pF cl + 3, imO (pF cl + 4) X0 Y0 X1 Y1 N'), (pF cl + 4, .own .u8 ze), (pF cl + 5, imO (pF cl + 6) X0 Y0 X1 Y1 N'), (pF cl + 6, .own .u8 fu)]
def sC1 : St := stG (frC1 cl ++ [(3, .ptr (some (pF cl + 7, 0)))]) (hL (lsC1 nF nM fs ms cl k r d v l gs a b c e X0 Y0 X1 Y1 N px N' ze fu ++ [(pF cl + 7, pxO p0 p1 p2 255)])) (pF cl + 8)
def sC2 (i : Nat) : St := stG (frC1 cl ++ [(3, .ptr (some (pF cl + 7, 0))), (11, .int .i64 (Int.ofNat i))]) (hL (lsC1 nF nM fs ms cl k r d v l gs a b c e X0 Y0 X1 Y1 N px N' ze fu ++ [(pF cl + 7, pxO p0 p1 p2 255)])) (pF cl + 8)
def frC3 : List (Nat × V) := [(5, .bool true), (12, .ptr (some (2, 0))), (14, .ptr (some (4, 0))), (16, .ptr (some (6, 0)))]
variable (M : Nat) (ox oy oz : List Int)
def lsC3 : List (Nat × O) := rowsM nF nM fs ms ++ [(2, imO 3 a b c e M), (3, .own .u8 ox), (4, imO 5 a b c e M), (5, .own .u8 oy), (6, imO 7 a b c e M), (7, .own .u8 oz)]
def sC3 : St := stG frC3 (hL (lsC3 nF nM fs ms a b c e M ox oy oz)) 8
def sC4 (i : Nat) : St := stG (frC3 ++ [(18, .int .i64 (Int.ofNat i))]) (hL (lsC3 nF nM fs ms a b c e M ox oy oz)) 8
theorem cl_1 (lF cF lM cM : Nat) (q0 q1 q2 q3 p3 : Int) : RunIs Try.prog (csL' (mdC cl k r d v l gs)) [] 1000 2 Try.f8 [5, 6, 7, 8, 3] (headN 4 cdFc) (startSt [askV nF nM lF cF lM cM q0 q1 q2 q3, .agg [.int .u8 p0, .int .u8 p1, .int .u8 p2, .int .u8 p3]] (rH [rwI nF fs, rwI nM ms]) 2) []
    [([], [ln nM lM ≤ (rw' nM ms).length, MadeIs (rw' nF fs) (min 60 (ln nF lF)) (mdC cl k r d v l gs)], .to .normal (sC0 nF nM fs ms cl k r d v l gs (smX q0) (smX q1) (smW q0 q2) (smW q1 q3)
      (ndM true (mdC cl k r d v l gs) q0 q1 q2 q3).1 (ndM true (mdC cl k r d v l gs) q0 q1 q2 q3).2.1 (ndM true (mdC cl k r d v l gs) q0 q1 q2 q3).2.2.1 (ndM true (mdC cl k r d v l gs) q0 q1 q2 q3).2.2.2
      (arQ (ndM true (mdC cl k r d v l gs) q0 q1 q2 q3)).toNat (outR (imgQ (cutN (ln nM lM)) (rw' nM ms)) (arQ (ndM true (mdC cl k r d v l gs) q0 q1 q2 q3)).toNat) p0 p1 p2))] := by
  unfold RunIs; cases cl <;> cases nF <;> cases nM <;> kernel_rfl
theorem cl_2 : RunIs Try.prog (csL' (mdC cl k r d v l gs)) [] 1000 2 Try.f8 [5, 6, 7, 8, 9, 10, 3] (headN 2 (tailN 4 cdFc)) (sC0 nF nM fs ms cl k r d v l gs a b c e X0 Y0 X1 Y1 N px p0 p1 p2) []
    [([], [wP N, wP N], .to .normal (sC1 nF nM fs ms cl k r d v l gs a b c e X0 Y0 X1 Y1 N px p0 p1 p2 (wN N) (repI z4 (wN N)) (repI z4 (wN N))))] := by
  unfold RunIs; cases cl <;> cases nF <;> cases nM <;> kernel_rfl
theorem cl_3 : RunIs Try.prog (csL' (mdC cl k r d v l gs)) [] 1000 2 Try.f8 [5, 6, 7, 8, 9, 10, 3, 11] (seqL lpFc) (sC1 nF nM fs ms cl k r d v l gs a b c e X0 Y0 X1 Y1 N px p0 p1 p2 N' ze fu) []
    [([], [], .to .normal (sC2 nF nM fs ms cl k r d v l gs a b c e X0 Y0 X1 Y1 N px p0 p1 p2 N' ze fu 0))] := by
  unfold RunIs; cases cl <;> cases nF <;> cases nM <;> kernel_rfl
theorem cl_4 (i : Nat) : RunIs Try.prog (csL' (mdC cl k r d v l gs)) [(45, .split), (11, .give (.int .i64 (Int.ofNat (i + 1))))] 1000 2 Try.f8 [5, 6, 7, 8, 9, 10, 3, 11] bdFc (sC2 nF nM fs ms cl k r d v l gs a b c e X0 Y0 X1 Y1 N px p0 p1 p2 N' ze fu i) []
    [([(decide (Int.ofNat i < (N : Int)), true)], [0 ≤ Int.ofNat i ∧ Int.ofNat i < (N' : Int), 0 + (Int.ofNat i).toNat * 4 + 4 ≤ fu.length, upP (Int.ofNat i) (Int.ofNat (i + 1))],
      .to .normal (sC2 nF nM fs ms cl k r d v l gs a b c e X0 Y0 X1 Y1 N px p0 p1 p2 N' ze (putI fu (0 + i * 4) (q4l (p0, p1, p2, 255))) (i + 1))),
     ([(decide (Int.ofNat i < (N : Int)), false)], [], .to (.exit 0) (sC2 nF nM fs ms cl k r d v l gs a b c e X0 Y0 X1 Y1 N px p0 p1 p2 N' ze fu i))] := by
  unfold RunIs; cases cl <;> cases nF <;> cases nM <;> kernel_rfl
def cl5 : List Prop := fa5 (mdC cl k r d v l gs) ++ (asC cl k r d v l gs X0 Y0 X1 Y1 a b c e N px ++ (fa5 (mdC cl k r d v l gs) ++ (asC cl k r d v l gs X0 Y0 X1 Y1 a b c e N' ze ++ (fa5 (mdC cl k r d v l gs) ++ (asC cl k r d v l gs X0 Y0 X1 Y1 a b c e N' fu ++
  ([pBq ((0 : Int) != 0) false, pBq ((0 : Int) != 0) false, pBq ((0 : Int) != 0) false, pBq ((rcN a b c e : Int) != (rcN a b c e : Int)) false, pBq ((rcN a b c e : Int) != (rcN a b c e : Int)) false] ++ (fa5 (mdC cl k r d v l gs) ++ [pBq (!vBC cl k r d v l gs) false])))))))
theorem cl_5 (i : Nat) : RunIs Try.prog (csL' (mdC cl k r d v l gs)) [(75, .give (.bool false)), (78, .give (.bool false)), (82, .give (.bool false)), (91, .give (.bool false)), (100, .give (.bool false)), (105, .give (.bool false))] 1000 2 Try.f8 [5, 12, 14, 16] (headN 4 tlFc) (sC2 nF nM fs ms cl k r d v l gs a b c e X0 Y0 X1 Y1 N px p0 p1 p2 N' ze fu i) []
    [([], cl5 cl k r d v l gs a b c e X0 Y0 X1 Y1 N px N' ze fu, .to .normal (sC3 nF nM fs ms a b c e (rcN a b c e) (outC cl k r d v l gs X0 Y0 X1 a b c e px) (outC cl k r d v l gs X0 Y0 X1 a b c e ze) (outC cl k r d v l gs X0 Y0 X1 a b c e fu)))] := by
  unfold RunIs; cases cl <;> cases nF <;> cases nM <;> kernel_rfl
theorem cl_6 : RunIs Try.prog (csL' (mdC cl k r d v l gs)) [] 1000 2 Try.f8 [5, 12, 14, 16, 18] (seqL lqFc) (sC3 nF nM fs ms a b c e M ox oy oz) []
    [([], [], .to .normal (sC4 nF nM fs ms a b c e M ox oy oz 0))] := by
  unfold RunIs; cases nF <;> cases nM <;> kernel_rfl
def cl7 (i : Nat) : List Prop := [0 ≤ Int.ofNat i ∧ Int.ofNat i < (M : Int), 0 + (Int.ofNat i).toNat * 4 + 4 ≤ oy.length, pBq (!q4E (g4 oy (0 + i * 4)) (0, 0, 0, 0)) false, 0 ≤ Int.ofNat i ∧ Int.ofNat i < (M : Int), 0 + (Int.ofNat i).toNat * 4 + 4 ≤ oz.length, (0 : Int) ≤ 0 ∧ (0 : Int) < (M : Int), 4 ≤ oz.length,
  pBq (!q4E (g4 oz (0 + i * 4)) (g4 oz (0 + 0 * 4))) false, 0 ≤ Int.ofNat i ∧ Int.ofNat i < (M : Int), 0 + (Int.ofNat i).toNat * 4 + 4 ≤ ox.length, 0 ≤ Int.ofNat i ∧ Int.ofNat i < (M : Int), 0 + (Int.ofNat i).toNat * 4 + 4 ≤ ox.length, 0 + (Int.ofNat i).toNat * 4 + 4 ≤ ox.length,
  pBq (!q4E (g4 ox (0 + i * 4)) (clQ (g4 ox (0 + i * 4)))) false, upP (Int.ofNat i) (Int.ofNat (i + 1))]
theorem cl_7 (i : Nat) : RunIs Try.prog (csL' (mdC cl k r d v l gs)) [(111, .split), (120, .give (.bool false)), (131, .give (.bool false)), (145, .give (.bool false)), (18, .give (.int .i64 (Int.ofNat (i + 1))))] 1000 2 Try.f8 [5, 12, 14, 16, 18] bdF2 (sC4 nF nM fs ms a b c e M ox oy oz i) [aggInts .u8 ox (0 + (Int.ofNat i).toNat * 4) 4, .slc (some (3, 0)) M M 4]
    [([(decide (Int.ofNat i < (M : Int)), true)], cl7 M ox oy oz i, .to .normal (sC4 nF nM fs ms a b c e M ox oy oz (i + 1))),
     ([(decide (Int.ofNat i < (M : Int)), false)], [], .to (.exit 2) (sC4 nF nM fs ms a b c e M ox oy oz i))] := by
  unfold RunIs; cases nF <;> cases nM <;> kernel_rfl
theorem cl_8 (i : Nat) : ∃ h n, RunIs Try.prog (csL' (mdC cl k r d v l gs)) [] 1000 2 Try.f8 [] enFc (sC4 nF nM fs ms a b c e M ox oy oz i) []
    [([], [], .ret (.bool true) h n)] := by
  refine ⟨hL (rowsM nF nM fs ms), 2, ?_⟩
  unfold RunIs; cases nF <;> cases nM <;> kernel_rfl
end
end Go.Proofs.Ytadejpmecljjpaa
