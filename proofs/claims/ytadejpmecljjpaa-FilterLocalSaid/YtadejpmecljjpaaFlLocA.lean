/- FilterLocal: its pieces. No conditions. -/
import Derived.Test.YtadejpmecljjpaaFlTwelve
set_option linter.unusedVariables false
set_option linter.unusedSimpArgs false
set_option linter.unusedSectionVars false
namespace Go.Proofs.Ytadejpmecljjpaa
open Go Go.Eng
noncomputable abbrev cdFl : Code := bodyOf Try.f9
noncomputable abbrev lpFl : Code := seqL (tailN 6 cdFl)
noncomputable abbrev loFl : Code := inner (seqR lpFl)
noncomputable abbrev bdFl : Code := inner loFl
noncomputable abbrev enFl : Code := seqR (tailN 6 cdFl)
def frMd (cl : Cl) : List (Nat × V) := [(2, .bool false), (3, .bool true), (4, .ptr (some (2, 0))), (5, .ptr (some (pF cl, 0))), (6, .ptr (some (pF cl + 1, 0)))]
def frLo (cl : Cl) : List (Nat × V) := [(3, .bool true), (4, .ptr (some (2, 0))), (5, .ptr (some (pF cl, 0))), (6, .ptr (some (pF cl + 1, 0))), (7, .ptr (some (pF cl + 3, 0)))]
section
variable (nF nM : Bool) (fs ms : List Int) (cl : Cl) (k r d v : Int) (l : Nat) (gs : List Int) (a b c e X0 Y0 X1 Y1 : Int) (N : Nat) (px : List Int)
def sMd : St := stG (frMd cl) (hL (lsMd nF nM fs ms cl k r d v l gs a b c e X0 Y0 X1 Y1 N px)) (pF cl + 3)
variable (M : Nat) (ox : List Int)
def lsLo : List (Nat × O) := lsMd nF nM fs ms cl k r d v l gs a b c e X0 Y0 X1 Y1 N px ++ [(pF cl + 3, imO (pF cl + 4) a b c e M), (pF cl + 4, .own .u8 ox)]
def sLo0 : St := stG (frLo cl) (hL (lsLo nF nM fs ms cl k r d v l gs a b c e X0 Y0 X1 Y1 N px M ox)) (pF cl + 5)
def sLo (i : Nat) : St := stG (frLo cl ++ [(9, .int .i64 (Int.ofNat i))]) (hL (lsLo nF nM fs ms cl k r d v l gs a b c e X0 Y0 X1 Y1 N px M ox)) (pF cl + 5)
abbrev md7 : Md := ⟨cl, k, r, d, v, l, gs⟩
abbrev vB7 : Bool := validB k r d v (glK cl l) (grK cl gs) (glC cl l) (grC cl gs)
abbrev err7 (X0 Y0 X1 Y1 a b c e : Int) (N : Nat) : Int := apErr X0 Y0 X1 Y1 a b c e N k r d v (glK cl l) (grK cl gs) (glC cl l) (grC cl gs)
abbrev out7 (X0 Y0 X1 a b c e : Int) (px : List Int) : List Int := apO X0 Y0 X1 a b c e px k r d v (grK cl gs) (glC cl l) (grC cl gs)
def loA (i : Nat) : Int := w64 (Int.ofNat i + 1)
def loW (i : Nat) : Nat := (loA i).toNat - (Int.ofNat i).toNat
def loP (i N : Nat) : List Prop := [0 ≤ loA i ∧ loA i ≤ Int.ofNat N, 0 ≤ Int.ofNat i ∧ Int.ofNat i ≤ Int.ofNat (loA i).toNat]
def asA (X0 Y0 X1 Y1 a b c e : Int) (N : Nat) (px : List Int) : List Prop := [N * 4 ≤ px.length, err7 cl k r d v l gs X0 Y0 X1 Y1 a b c e N = 0, emptyB a b c e = false, pBq ((0 : Int) != 0) false]
def loO (i : Nat) : List Int := out7 cl k r d v l gs (Int.ofNat i) 0 (loA i) (Int.ofNat i) 0 (loA i) 1 (px.drop (0 + (Int.ofNat i).toNat * 4))
theorem lo_1 (lF cF lM cM : Nat) (q0 q1 q2 q3 : Int) : RunIs Try.prog (csL' (md7 cl k r d v l gs)) [] 1000 2 Try.f9 [2, 3, 4, 5, 6] (headN 3 cdFl) (startSt [askV nF nM lF cF lM cM q0 q1 q2 q3] (rH [rwI nF fs, rwI nM ms]) 2) []
    [([], [ln nM lM ≤ (rw' nM ms).length, MadeIs (rw' nF fs) (min 60 (ln nF lF)) (md7 cl k r d v l gs)], .to .normal (sMd nF nM fs ms cl k r d v l gs (smX q0) (smX q1) (smW q0 q2) (smW q1 q3)
      (ndM true (md7 cl k r d v l gs) q0 q1 q2 q3).1 (ndM true (md7 cl k r d v l gs) q0 q1 q2 q3).2.1 (ndM true (md7 cl k r d v l gs) q0 q1 q2 q3).2.2.1 (ndM true (md7 cl k r d v l gs) q0 q1 q2 q3).2.2.2
      (arQ (ndM true (md7 cl k r d v l gs) q0 q1 q2 q3)).toNat (outR (imgQ (cutN (ln nM lM)) (rw' nM ms)) (arQ (ndM true (md7 cl k r d v l gs) q0 q1 q2 q3)).toNat)))] := by
  unfold RunIs; cases cl <;> cases nF <;> cases nM <;> kernel_rfl
theorem lo_2a : RunIs Try.prog (csL' (md7 cl k r d v l gs)) [(21, .give (.bool true))] 1000 2 Try.f9 [] (tailN 3 cdFl) (sMd nF nM fs ms cl k r d v l gs a b c e X0 Y0 X1 Y1 N px) []
    [([], fa5 (md7 cl k r d v l gs) ++ [pBq (!localB (vB7 cl k r d v l gs) k r v) true], .ret (.bool true) (hL (rowsM nF nM fs ms)) 2)] := by
  unfold RunIs; cases cl <;> cases nF <;> cases nM <;> kernel_rfl
theorem lo_2 : RunIs Try.prog (csL' (md7 cl k r d v l gs)) [(21, .give (.bool false)), (31, .give (.bool false)), (37, .give (.bool false)), (44, .give (.bool false)), (53, .give (.bool false))] 1000 2 Try.f9 [3, 4, 5, 6, 7] (headN 3 (tailN 3 cdFl)) (sMd nF nM fs ms cl k r d v l gs a b c e X0 Y0 X1 Y1 N px) [RC4 a b c e, RC4 a b c e]
    [([], fa5 (md7 cl k r d v l gs) ++ (pBq (!localB (vB7 cl k r d v l gs) k r v) false :: (fa5 (md7 cl k r d v l gs) ++ (asA cl k r d v l gs X0 Y0 X1 Y1 a b c e N px ++ (fa5 (md7 cl k r d v l gs) ++ (pBq (!rcE (areaQ (vB7 cl k r d v l gs) k r v a b c e (-1)) a b c e) false :: (fa5 (md7 cl k r d v l gs) ++ [pBq (!rcE (areaQ (vB7 cl k r d v l gs) k r v a b c e 1) a b c e) false, pBq ((rcN a b c e : Int) != N) false])))))),
      .to .normal (sLo0 nF nM fs ms cl k r d v l gs a b c e X0 Y0 X1 Y1 N px (rcN a b c e) (out7 cl k r d v l gs X0 Y0 X1 a b c e px)))] := by
  unfold RunIs; cases cl <;> cases nF <;> cases nM <;> kernel_rfl
theorem lo_3 : RunIs Try.prog (csL' (md7 cl k r d v l gs)) [] 1000 2 Try.f9 [3, 4, 5, 6, 7, 9] (seqL lpFl) (sLo0 nF nM fs ms cl k r d v l gs a b c e X0 Y0 X1 Y1 N px M ox) []
    [([], [], .to .normal (sLo nF nM fs ms cl k r d v l gs a b c e X0 Y0 X1 Y1 N px M ox 0))] := by
  unfold RunIs; cases cl <;> cases nF <;> cases nM <;> kernel_rfl
def loL (i : Nat) : List V := [.agg [.int .i64 k, .int .i64 r, mkK cl 3 l, .int .i64 d, .int .i64 v, mkC cl 3 l], .slc (some (pF cl + 2, 0)) N N 4, .slc (some (pF cl + 2, 0 + (Int.ofNat i).toNat * 4)) (loW i) (N - (Int.ofNat i).toNat) 4, .slc (some (pF cl + 2, 0 + (Int.ofNat i).toNat * 4)) (loW i) (N - (Int.ofNat i).toNat) 4, .slc (some (pF cl + 2, 0)) N N 4, .agg [.int .i64 k, .int .i64 r, mkK cl 3 l, .int .i64 d, .int .i64 v, mkC cl 3 l]]
def loC (i : Nat) : List Prop := loP i N ++ (loP i N ++ (loP i N ++ (fa5 (md7 cl k r d v l gs) ++ (asA cl k r d v l gs (Int.ofNat i) 0 (loA i) 1 (Int.ofNat i) 0 (loA i) 1 (loW i) (px.drop (0 + (Int.ofNat i).toNat * 4)) ++
  [pBq ((rcN (Int.ofNat i) 0 (loA i) 1 : Int) != 1) false, (0 : Int) ≤ 0 ∧ (0 : Int) < (rcN (Int.ofNat i) 0 (loA i) 1 : Int), 4 ≤ (loO cl k r d v l gs px i).length, 0 ≤ Int.ofNat i ∧ Int.ofNat i < (M : Int), 0 + (Int.ofNat i).toNat * 4 + 4 ≤ ox.length,
   pBq (!px4B (loO cl k r d v l gs px i) 0 ox (0 + (Int.ofNat i).toNat * 4)) false, upP (Int.ofNat i) (Int.ofNat (i + 1))]))))
theorem lo_4 (i : Nat) : RunIs Try.prog (csL' (md7 cl k r d v l gs)) [(59, .split), (79, .give (.bool false)), (84, .give (.bool false)), (96, .give (.bool false)), (9, .give (.int .i64 (Int.ofNat (i + 1))))] 1000 2 Try.f9 [3, 4, 5, 6, 7, 9] bdFl (sLo nF nM fs ms cl k r d v l gs a b c e X0 Y0 X1 Y1 N px M ox i) (loL cl k r d v l N i)
    [([(decide (Int.ofNat i < (N : Int)), true)], loC cl k r d v l gs N px M ox i, .to .normal (sLo nF nM fs ms cl k r d v l gs a b c e X0 Y0 X1 Y1 N px M ox (i + 1))),
     ([(decide (Int.ofNat i < (N : Int)), false)], [], .to (.exit 0) (sLo nF nM fs ms cl k r d v l gs a b c e X0 Y0 X1 Y1 N px M ox i))] := by
  unfold RunIs; cases cl <;> cases nF <;> cases nM <;> kernel_rfl
theorem lo_5 (i : Nat) : ∃ h n, RunIs Try.prog (csL' (md7 cl k r d v l gs)) [] 1000 2 Try.f9 [] enFl (sLo nF nM fs ms cl k r d v l gs a b c e X0 Y0 X1 Y1 N px M ox i) []
    [([], [], .ret (.bool true) h n)] := by
  refine ⟨hL (rowsM nF nM fs ms), 2, ?_⟩
  unfold RunIs; cases cl <;> cases nF <;> cases nM <;> kernel_rfl
end
end Go.Proofs.Ytadejpmecljjpaa
