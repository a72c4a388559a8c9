/- FilterShift: its pieces. No conditions. -/
import Derived.Test.YtadejpmecljjpaaFlTwelve
set_option linter.unusedVariables false
set_option linter.unusedSimpArgs false
set_option linter.unusedSectionVars false
namespace Go.Proofs.Ytadejpmecljjpaa
open Go Go.Eng
noncomputable abbrev cdSh : Code := bodyOf Try.f4
noncomputable abbrev lpSh : Code := seqL (tailN 8 cdSh)
noncomputable abbrev loSh : Code := inner (seqR lpSh)
noncomputable abbrev bdSh : Code := inner loSh
noncomputable abbrev enSh : Code := seqR (tailN 8 cdSh)
def frSh (cl : Cl) (dx dy : Int) : List (Nat × V) := [(5, .bool true), (6, .ptr (some (2, 0))), (7, .ptr (some (pF cl, 0))), (8, .ptr (some (pF cl + 1, 0))), (9, .int .i64 dx), (10, .int .i64 dy)]
def frS2 (cl : Cl) : List (Nat × V) := [(5, .bool true), (6, .ptr (some (2, 0))), (7, .ptr (some (pF cl, 0))), (8, .ptr (some (pF cl + 1, 0))), (11, .ptr (some (pF cl + 3, 0))), (13, .ptr (some (pF cl + 5, 0)))]
section
variable (nF nM : Bool) (fs ms : List Int) (cl : Cl) (k r d v : Int) (l : Nat) (gs : List Int) (a b c e X0 Y0 X1 Y1 : Int) (N : Nat) (px : List Int)
abbrev mdS : Md := ⟨cl, k, r, d, v, l, gs⟩
abbrev vBS : Bool := validB k r d v (glK cl l) (grK cl gs) (glC cl l) (grC cl gs)
abbrev errS (X0 Y0 X1 Y1 a b c e : Int) (N : Nat) : Int := apErr X0 Y0 X1 Y1 a b c e N k r d v (glK cl l) (grK cl gs) (glC cl l) (grC cl gs)
abbrev outS (X0 Y0 X1 a b c e : Int) (px : List Int) : List Int := apO X0 Y0 X1 a b c e px k r d v (grK cl gs) (glC cl l) (grC cl gs)
def asS (X0 Y0 X1 Y1 a b c e : Int) (N : Nat) (px : List Int) : List Prop := [N * 4 ≤ px.length, errS cl k r d v l gs X0 Y0 X1 Y1 a b c e N = 0, emptyB a b c e = false]
def sSh (dx dy : Int) : St := stG (frSh cl dx dy) (hL (lsMd nF nM fs ms cl k r d v l gs a b c e X0 Y0 X1 Y1 N px)) (pF cl + 3)
variable (M : Nat) (ox : List Int) (A B C E : Int) (M2 : Nat) (oy : List Int)
def lsS2 : List (Nat × O) := lsMd nF nM fs ms cl k r d v l gs a b c e X0 Y0 X1 Y1 N px ++ [(pF cl + 3, imO (pF cl + 4) a b c e M), (pF cl + 4, .own .u8 ox), (pF cl + 5, imO (pF cl + 6) A B C E M2), (pF cl + 6, .own .u8 oy)]
def sS20 : St := stG (frS2 cl) (hL (lsS2 nF nM fs ms cl k r d v l gs a b c e X0 Y0 X1 Y1 N px M ox A B C E M2 oy)) (pF cl + 7)
def sS2 (i : Nat) : St := stG (frS2 cl ++ [(15, .int .i64 (Int.ofNat i))]) (hL (lsS2 nF nM fs ms cl k r d v l gs a b c e X0 Y0 X1 Y1 N px M ox A B C E M2 oy)) (pF cl + 7)
theorem sh_1 (lF cF lM cM : Nat) (q0 q1 q2 q3 b0 b1 : Int) : RunIs Try.prog (csL' (mdS cl k r d v l gs)) [] 1000 2 Try.f4 [5, 6, 7, 8, 9, 10] (headN 5 cdSh) (startSt [askV nF nM lF cF lM cM q0 q1 q2 q3, .agg [.int .i64 b0, .int .i64 b1]] (rH [rwI nF fs, rwI nM ms]) 2) []
    [([], [ln nM lM ≤ (rw' nM ms).length, MadeIs (rw' nF fs) (min 60 (ln nF lF)) (mdS cl k r d v l gs)], .to .normal (sSh nF nM fs ms cl k r d v l gs (smX q0) (smX q1) (smW q0 q2) (smW q1 q3)
      (ndM true (mdS cl k r d v l gs) q0 q1 q2 q3).1 (ndM true (mdS cl k r d v l gs) q0 q1 q2 q3).2.1 (ndM true (mdS cl k r d v l gs) q0 q1 q2 q3).2.2.1 (ndM true (mdS cl k r d v l gs) q0 q1 q2 q3).2.2.2
      (arQ (ndM true (mdS cl k r d v l gs) q0 q1 q2 q3)).toNat (outR (imgQ (cutN (ln nM lM)) (rw' nM ms)) (arQ (ndM true (mdS cl k r d v l gs) q0 q1 q2 q3)).toNat) (mask 65535 b0) (mask 65535 b1)))] := by
  unfold RunIs; cases cl <;> cases nF <;> cases nM <;> kernel_rfl
def mvR (q : Q4) (X : Q4) (N : Nat) (px : List Int) : List Prop := asS cl k r d v l gs X.1 X.2.1 X.2.2.1 X.2.2.2 q.1 q.2.1 q.2.2.1 q.2.2.2 N px
def shL2 (dx dy : Int) : List V := [.agg [.int .i64 k, .int .i64 r, mkK cl 3 l, .int .i64 d, .int .i64 v, mkC cl 3 l], .slc (some (pF cl + 2, 0)) N N 4, RC4 a b c e, .slc (some (pF cl + 2, 0)) N N 4, .agg [.int .i64 k, .int .i64 r, mkK cl 3 l, .int .i64 d, .int .i64 v, mkC cl 3 l], RC4 (moveQ a b c e dx dy).1 (moveQ a b c e dx dy).2.1 (moveQ a b c e dx dy).2.2.1 (moveQ a b c e dx dy).2.2.2]
theorem sh_2 (dx dy : Int) : RunIs Try.prog (csL' (mdS cl k r d v l gs)) [(57, .give (.bool false)), (60, .give (.bool false)), (69, .give (.bool false)), (78, .give (.bool false))] 1000 2 Try.f4 [5, 6, 7, 8, 11, 13] (headN 3 (tailN 5 cdSh)) (sSh nF nM fs ms cl k r d v l gs a b c e X0 Y0 X1 Y1 N px dx dy) (shL2 cl k r d v l a b c e N dx dy)
    [([], fa5 (mdS cl k r d v l gs) ++ (asS cl k r d v l gs X0 Y0 X1 Y1 a b c e N px ++ (fa5 (mdS cl k r d v l gs) ++ (mvR cl k r d v l gs (moveQ a b c e dx dy) (moveQ X0 Y0 X1 Y1 dx dy) N px ++
      [pBq ((0 : Int) != 0) false, pBq ((0 : Int) != 0) false, pBq ((rcN a b c e : Int) != (rcN (moveQ a b c e dx dy).1 (moveQ a b c e dx dy).2.1 (moveQ a b c e dx dy).2.2.1 (moveQ a b c e dx dy).2.2.2 : Int)) false, pBq (!rcE (moveQ a b c e dx dy) (moveQ a b c e dx dy).1 (moveQ a b c e dx dy).2.1 (moveQ a b c e dx dy).2.2.1 (moveQ a b c e dx dy).2.2.2) false]))),
      .to .normal (sS20 nF nM fs ms cl k r d v l gs a b c e X0 Y0 X1 Y1 N px (rcN a b c e) (outS cl k r d v l gs X0 Y0 X1 a b c e px)
        (moveQ a b c e dx dy).1 (moveQ a b c e dx dy).2.1 (moveQ a b c e dx dy).2.2.1 (moveQ a b c e dx dy).2.2.2 (rcN (moveQ a b c e dx dy).1 (moveQ a b c e dx dy).2.1 (moveQ a b c e dx dy).2.2.1 (moveQ a b c e dx dy).2.2.2)
        (outS cl k r d v l gs (moveQ X0 Y0 X1 Y1 dx dy).1 (moveQ X0 Y0 X1 Y1 dx dy).2.1 (moveQ X0 Y0 X1 Y1 dx dy).2.2.1 (moveQ a b c e dx dy).1 (moveQ a b c e dx dy).2.1 (moveQ a b c e dx dy).2.2.1 (moveQ a b c e dx dy).2.2.2 px)))] := by
  unfold RunIs; cases cl <;> cases nF <;> cases nM <;> kernel_rfl
theorem sh_3 : RunIs Try.prog (csL' (mdS cl k r d v l gs)) [] 1000 2 Try.f4 [5, 6, 7, 8, 11, 13, 15] (seqL lpSh) (sS20 nF nM fs ms cl k r d v l gs a b c e X0 Y0 X1 Y1 N px M ox A B C E M2 oy) []
    [([], [], .to .normal (sS2 nF nM fs ms cl k r d v l gs a b c e X0 Y0 X1 Y1 N px M ox A B C E M2 oy 0))] := by
  unfold RunIs; cases cl <;> cases nF <;> cases nM <;> kernel_rfl
def atX (a c : Int) (i : Nat) : Int := w64 (a + (Int.ofNat i).tmod (w64 (c - a)))
def atY (a b c : Int) (i : Nat) : Int := w64 (b + w64 ((Int.ofNat i).tdiv (w64 (c - a))))
abbrev atX1 (a c : Int) (i : Nat) : Int := w64 (atX a c i + 1)
abbrev atY1 (a b c : Int) (i : Nat) : Int := w64 (atY a b c i + 1)
def shO (i : Nat) : List Int := outS cl k r d v l gs X0 Y0 X1 (atX a c i) (atY a b c i) (atX1 a c i) (atY1 a b c i) px
def shC (i : Nat) : List Prop := [w64 (c - a) ≠ 0, w64 (c - a) ≠ 0] ++ (fa5 (mdS cl k r d v l gs) ++ (asS cl k r d v l gs X0 Y0 X1 Y1 (atX a c i) (atY a b c i) (atX1 a c i) (atY1 a b c i) N px ++
  [pBq ((0 : Int) != 0) false, pBq ((rcN (atX a c i) (atY a b c i) (atX1 a c i) (atY1 a b c i) : Int) != 1) false, (0 : Int) ≤ 0 ∧ (0 : Int) < (rcN (atX a c i) (atY a b c i) (atX1 a c i) (atY1 a b c i) : Int), 4 ≤ (shO cl k r d v l gs a b c X0 Y0 X1 px i).length, 0 ≤ Int.ofNat i ∧ Int.ofNat i < (M : Int), 0 + (Int.ofNat i).toNat * 4 + 4 ≤ ox.length,
   pBq (!px4B (shO cl k r d v l gs a b c X0 Y0 X1 px i) 0 ox (0 + (Int.ofNat i).toNat * 4)) false, 0 ≤ Int.ofNat i ∧ Int.ofNat i < (M2 : Int), 0 + (Int.ofNat i).toNat * 4 + 4 ≤ oy.length, 0 ≤ Int.ofNat i ∧ Int.ofNat i < (M : Int), 0 + (Int.ofNat i).toNat * 4 + 4 ≤ ox.length,
   pBq (!px4B oy (0 + (Int.ofNat i).toNat * 4) ox (0 + (Int.ofNat i).toNat * 4)) false, upP (Int.ofNat i) (Int.ofNat (i + 1))]))
theorem sh_4 (i : Nat) : RunIs Try.prog (csL' (mdS cl k r d v l gs)) [(84, .split), (116, .give (.bool false)), (121, .give (.bool false)), (133, .give (.bool false)), (146, .give (.bool false)), (15, .give (.int .i64 (Int.ofNat (i + 1))))] 1000 2 Try.f4 [5, 6, 7, 8, 11, 13, 15] bdSh (sS2 nF nM fs ms cl k r d v l gs a b c e X0 Y0 X1 Y1 N px M ox A B C E M2 oy i) []
    [([(decide (Int.ofNat i < (M : Int)), true)], shC cl k r d v l gs a b c X0 Y0 X1 Y1 N px M ox M2 oy i, .to .normal (sS2 nF nM fs ms cl k r d v l gs a b c e X0 Y0 X1 Y1 N px M ox A B C E M2 oy (i + 1))),
     ([(decide (Int.ofNat i < (M : Int)), false)], [], .to (.exit 0) (sS2 nF nM fs ms cl k r d v l gs a b c e X0 Y0 X1 Y1 N px M ox A B C E M2 oy i))] := by
  unfold RunIs; cases cl <;> cases nF <;> cases nM <;> kernel_rfl
theorem sh_5 (i : Nat) : ∃ h n, RunIs Try.prog (csL' (mdS cl k r d v l gs)) [] 1000 2 Try.f4 [] enSh (sS2 nF nM fs ms cl k r d v l gs a b c e X0 Y0 X1 Y1 N px M ox A B C E M2 oy i) []
    [([], [], .ret (.bool true) h n)] := by
  refine ⟨hL (rowsM nF nM fs ms), 2, ?_⟩
  unfold RunIs; cases cl <;> cases nF <;> cases nM <;> kernel_rfl
end
end Go.Proofs.Ytadejpmecljjpaa
