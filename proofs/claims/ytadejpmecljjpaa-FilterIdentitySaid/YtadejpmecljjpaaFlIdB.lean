/- FilterIdentity: its pieces. No conditions. -/
import Derived.Test.YtadejpmecljjpaaFlIdA
set_option linter.unusedVariables false
set_option linter.unusedSimpArgs false
set_option linter.unusedSectionVars false
namespace Go.Proofs.Ytadejpmecljjpaa
open Go Go.Eng
noncomputable abbrev WId : CtrW := addW 17 (readW specSam) (addW 43 specLi (addW 23 specIm (addW 15 (apSpec SOk) WH)))
theorem WId_ok : CtrWOk Try.prog WId := addW_ok (readW_ok one_Sam) (addW_ok one_Li (addW_ok one_Im (addW_ok one_ApOk WH_ok)))
noncomputable abbrev csId : CallS := callX Try.prog WId H0 1000 40
noncomputable abbrev XId : CX Try.prog := CX.of mo po WId_ok H0 1000 40
noncomputable abbrev cdId : Code := bodyOf Try.f12
noncomputable abbrev tlId : Code := tailN 8 cdId
noncomputable abbrev lpId : Code := seqL tlId
noncomputable abbrev olId : Code := inner (seqR lpId)
noncomputable abbrev enId : Code := seqR tlId
abbrev kK (n : Nat) : Nat := (2 * n + 1) * (2 * n + 1)
def kerL (n : Nat) (dv : Int) : List Int := putI (repI [0] (kK n)) (0 + (kK n / 2) * 1) [dv]
section
variable (nF nM : Bool) (fs ms : List Int) (a b c e X0 Y0 X1 Y1 : Int) (N : Nat) (px : List Int) (n : Nat) (dv b1 : Int)
def frI0 : List (Nat × V) := [(7, .bool true), (10, .ptr (some (2, 0))), (11, .ptr (some (3, 0))), (9, .slc (some (5, 0)) (kK n) (kK n) 1), (8, .int .i64 (Int.ofNat n)), (2, .int .u8 b1)]
def lsI0 : List (Nat × O) := rowsM nF nM fs ms ++ [(2, bx4 a b c e), (3, imO 4 X0 Y0 X1 Y1 N), (4, .own .u8 px), (5, .own .i64 (kerL n dv))]
def sI0 : St := stG (frI0 n b1) (hL (lsI0 nF nM fs ms a b c e X0 Y0 X1 Y1 N px n dv)) 6
def plB (f : Bool) (ot : List Int) : O := match f with | true => .cells [] | false => .own .u8 ot
variable (m : Nat) (o : O)
def frI1 : List (Nat × V) := frI0 n b1 ++ [(12, .slc (some (6, 0)) m m 4)]
def sI1 : St := stG (frI1 n b1 m) (hL (lsI0 nF nM fs ms a b c e X0 Y0 X1 Y1 N px n dv ++ [(6, o)])) 7
def sIy (y : Int) : St := stG (frI1 n b1 m ++ [(13, .int .i64 y)]) (hL (lsI0 nF nM fs ms a b c e X0 Y0 X1 Y1 N px n dv ++ [(6, o)])) 7
def sIx (y x : Int) : St := stG (frI1 n b1 m ++ [(13, .int .i64 y), (14, .int .i64 x)]) (hL (lsI0 nF nM fs ms a b c e X0 Y0 X1 Y1 N px n dv ++ [(6, o)])) 7
abbrev kI (n : Nat) : Int := Int.ofNat (kK n)
def id1 (lM cM : Nat) (q0 q1 q2 q3 b0 : Int) : List Prop := [V.int .i64 (w64 (b0.tmod 3)) = V.int .i64 (Int.ofNat n), 0 ≤ kI n ∧ kI n ≤ kI n ∧ 8 * kI n ≤ 281474976710656, (2 : Int) ≠ 0, V.int .i64 (w64 (1 + w64 b1)) = V.int .i64 dv, 0 ≤ Int.ofNat (kK n / 2) ∧ Int.ofNat (kK n / 2) < kI n, 0 + (kK n / 2) * 1 + 1 ≤ (repI [0] (kK n)).length,
  capI (cutI (ln nM lM)) (ln nM cM), capI (cutI (ln nM lM)) (ln nM cM), cutN (ln nM lM) ≤ (rw' nM ms).length, cutN (ln nM lM) ≤ 1000000, 0 < arQ (moG q0 q1 q2 q3 n), arQ (moG q0 q1 q2 q3 n) ≤ 1000000]
theorem id_1 (hn : n = 0 ∨ n = 1 ∨ n = 2) (lF cF lM cM : Nat) (q0 q1 q2 q3 b0 : Int) : RunIs Try.prog csId [(8, .give (.int .i64 (Int.ofNat n))), (44, .give (.int .i64 dv))] 1000 2 Try.f12 [7, 10, 11, 9, 8, 2] (headN 7 cdId) (startSt [askV nF nM lF cF lM cM q0 q1 q2 q3, .int .u8 b0, .int .u8 b1] (rH [rwI nF fs, rwI nM ms]) 2) (moL nM lM cM)
    [([], id1 nM ms n dv b1 lM cM q0 q1 q2 q3 b0, .to .normal (sI0 nF nM fs ms (smX q0) (smX q1) (smW q0 q2) (smW q1 q3) (moG q0 q1 q2 q3 n).1 (moG q0 q1 q2 q3 n).2.1 (moG q0 q1 q2 q3 n).2.2.1 (moG q0 q1 q2 q3 n).2.2.2 (arQ (moG q0 q1 q2 q3 n)).toNat (moR nM ms lM (moG q0 q1 q2 q3 n)) n dv b1))] := by
  unfold RunIs; rcases hn with rfl | rfl | rfl <;> cases nF <;> cases nM <;> kernel_rfl
theorem id_2 : RunIs Try.prog csId [] 1000 2 Try.f12 [7, 10, 11, 9, 8, 2, 12] (headN 1 (tailN 7 cdId)) (sI0 nF nM fs ms a b c e X0 Y0 X1 Y1 N px n dv b1) []
    [([], [], .to .normal (sI1 nF nM fs ms a b c e X0 Y0 X1 Y1 N px n dv b1 0 (plB true [])))] := by
  unfold RunIs; cases nF <;> cases nM <;> kernel_rfl
theorem id_3 (f : Bool) (ot : List Int) : RunIs Try.prog csId [] 1000 2 Try.f12 [7, 10, 11, 9, 8, 2, 12, 13] (seqL lpId) (sI1 nF nM fs ms a b c e X0 Y0 X1 Y1 N px n dv b1 m (plB f ot)) []
    [([], [], .to .normal (sIy nF nM fs ms a b c e X0 Y0 X1 Y1 N px n dv b1 m (plB f ot) b))] := by
  unfold RunIs; cases f <;> cases nF <;> cases nM <;> kernel_rfl
theorem id_y1 (f : Bool) (ot : List Int) (y : Int) : RunIs Try.prog csId [(66, .split)] 1000 2 Try.f12 [7, 10, 11, 9, 8, 2, 12, 13] (seqL (inner olId)) (sIy nF nM fs ms a b c e X0 Y0 X1 Y1 N px n dv b1 m (plB f ot) y) []
    [([(decide (y < e), true)], [], .to .normal (sIy nF nM fs ms a b c e X0 Y0 X1 Y1 N px n dv b1 m (plB f ot) y)), ([(decide (y < e), false)], [], .to (.exit 0) (sIy nF nM fs ms a b c e X0 Y0 X1 Y1 N px n dv b1 m (plB f ot) y))] := by
  unfold RunIs; cases f <;> cases nF <;> cases nM <;> kernel_rfl
theorem id_y2 (f : Bool) (ot : List Int) (y : Int) : RunIs Try.prog csId [] 1000 2 Try.f12 [7, 10, 11, 9, 8, 2, 12, 13, 14] (seqL (gI olId)) (sIy nF nM fs ms a b c e X0 Y0 X1 Y1 N px n dv b1 m (plB f ot) y) []
    [([], [], .to .normal (sIx nF nM fs ms a b c e X0 Y0 X1 Y1 N px n dv b1 m (plB f ot) y a))] := by
  unfold RunIs; cases f <;> cases nF <;> cases nM <;> kernel_rfl
theorem id_y3 (f : Bool) (ot : List Int) (y x : Int) : RunIs Try.prog csId [(13, .give (.int .i64 (y + 1)))] 1000 2 Try.f12 [7, 10, 11, 9, 8, 2, 12, 13] (seqR (gB1 olId)) (sIx nF nM fs ms a b c e X0 Y0 X1 Y1 N px n dv b1 m (plB f ot) y x) []
    [([], [upP y (y + 1)], .to .normal (sIy nF nM fs ms a b c e X0 Y0 X1 Y1 N px n dv b1 m (plB f ot) (y + 1)))] := by
  unfold RunIs; cases f <;> cases nF <;> cases nM <;> kernel_rfl
theorem id_n (f : Bool) (ot : List Int) (y : Int) : normG 2 [7, 10, 11, 9, 8, 2, 12, 13] (sIy nF nM fs ms a b c e X0 Y0 X1 Y1 N px n dv b1 m (plB f ot) y) = some (sIy nF nM fs ms a b c e X0 Y0 X1 Y1 N px n dv b1 m (plB f ot) y) := by
  cases f <;> cases nF <;> cases nM <;> kernel_rfl
theorem id_x0 (y x : Int) : RunIs Try.prog csId [(74, .split), (14, .give (.int .i64 (x + 1)))] 1000 2 Try.f12 [7, 10, 11, 9, 8, 2, 12, 13, 14] (inner (gL olId)) (sIx nF nM fs ms a b c e X0 Y0 X1 Y1 N px n dv b1 0 (plB true []) y x) []
    [([(decide (x < c), true)], atA N px (idxE X0 Y0 X1 x y) ++ [upP x (x + 1)], .to .normal (sIx nF nM fs ms a b c e X0 Y0 X1 Y1 N px n dv b1 1 (px4 (pixQ px (idxE X0 Y0 X1 x y))) y (x + 1))),
     ([(decide (x < c), false)], [], .to (.exit 2) (sIx nF nM fs ms a b c e X0 Y0 X1 Y1 N px n dv b1 0 (plB true []) y x))] := by
  unfold RunIs; cases nF <;> cases nM <;> kernel_rfl
theorem id_xs (ot : List Int) (y x : Int) : RunIs Try.prog csId [(74, .split), (14, .give (.int .i64 (x + 1)))] 1000 2 Try.f12 [7, 10, 11, 9, 8, 2, 12, 13, 14] (inner (gL olId)) (sIx nF nM fs ms a b c e X0 Y0 X1 Y1 N px n dv b1 m (plB false ot) y x) []
    [([(decide (x < c), true)], atA N px (idxE X0 Y0 X1 x y) ++ (cnA m ot ++ [upP x (x + 1)]), .to .normal (sIx nF nM fs ms a b c e X0 Y0 X1 Y1 N px n dv b1 (m + 1) (plB false (outA m ot (pixQ px (idxE X0 Y0 X1 x y)))) y (x + 1))),
     ([(decide (x < c), false)], [], .to (.exit 2) (sIx nF nM fs ms a b c e X0 Y0 X1 Y1 N px n dv b1 m (plB false ot) y x))] := by
  unfold RunIs; cases nF <;> cases nM <;> kernel_rfl
theorem id_own (q : Q4) (y x : Int) : ownS [(6, .u8)] (sIx nF nM fs ms a b c e X0 Y0 X1 Y1 N px n dv b1 1 (px4 q) y x) = some (sIx nF nM fs ms a b c e X0 Y0 X1 Y1 N px n dv b1 1 (plB false (outA 0 [] q)) y x) := by
  cases nF <;> cases nM <;> kernel_rfl
def asF (X0 Y0 X1 Y1 a b c e : Int) (N : Nat) (px : List Int) (k r d v : Int) (lK : Nat) (ks : List Int) (lC : Nat) (cs : List Int) : List Prop := fa0 lK ks lC cs ++ [N * 4 ≤ px.length, apErr X0 Y0 X1 Y1 a b c e N k r d v lK ks lC cs = 0, emptyB a b c e = false]
def idS (X0 Y0 X1 Y1 a b c e : Int) (N : Nat) (px : List Int) (m : Nat) (ot : List Int) (i : Nat) (k r d v : Int) (lK : Nat) (ks : List Int) (lC : Nat) (cs : List Int) : List Prop :=
  (0 ≤ Int.ofNat i ∧ Int.ofNat i < 6) :: (asF X0 Y0 X1 Y1 a b c e N px k r d v lK ks lC cs ++ (smOk a b c e a b c e (rcN a b c e) m (apO X0 Y0 X1 a b c e px k r d v ks lC cs) ot ++ [pBq ((0 : Int) != 0) false, pBq (!true) false]))
def id7 (ot : List Int) : List Prop := [V.int .i64 (w64 (1 + w64 b1)) = V.int .i64 dv] ++ (idS X0 Y0 X1 Y1 a b c e N px m ot 0 1 (Int.ofNat n) dv 0 (kK n) (kerL n dv) 0 [] ++ (idS X0 Y0 X1 Y1 a b c e N px m ot 1 2 0 0 0 0 [] 0 [] ++ (idS X0 Y0 X1 Y1 a b c e N px m ot 2 3 0 0 0 0 [] 0 [] ++ (idS X0 Y0 X1 Y1 a b c e N px m ot 3 4 0 0 0 0 [] 0 [] ++
  (idS X0 Y0 X1 Y1 a b c e N px m ot 4 8 0 0 0 0 [] 0 [] ++ (idS X0 Y0 X1 Y1 a b c e N px m ot 5 5 0 0 0 0 [] 257 lineL ++ (asK 6 0 a b c e a b c e m ot ++ (asK 6 0 a b c e a b c e (rcN a b c e) (apK 6 0 a b c a b c e ot) ++
  (smOk a b c e a b c e (rcN a b c e) m (apK 6 0 a b c a b c e (apK 6 0 a b c a b c e ot)) ot ++ [pBq ((0 : Int) == 0) true, pBq ((0 : Int) == 0) true])))))))))
theorem id_7 (ot : List Int) (y : Int) : ∃ h n', RunIs Try.prog csId [(91, .give (.int .i64 dv)), (120, .give (.bool false)), (123, .give (.bool false)), (145, .give (.bool true)), (149, .give (.bool true))] 1000 2 Try.f12 [] enId (sIy nF nM fs ms a b c e X0 Y0 X1 Y1 N px n dv b1 m (plB false ot) y) []
    [([], id7 a b c e X0 Y0 X1 Y1 N px n dv b1 m ot, .ret (.bool true) h n')] := by
  refine ⟨hL (rowsM nF nM fs ms), 2, ?_⟩
  unfold RunIs; cases nF <;> cases nM <;> kernel_rfl
end
end Go.Proofs.Ytadejpmecljjpaa
