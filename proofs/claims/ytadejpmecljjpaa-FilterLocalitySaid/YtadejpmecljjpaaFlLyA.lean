/- FilterLocality: its pieces. No conditions. -/
import Derived.Test.YtadejpmecljjpaaFlFourteen
set_option linter.unusedVariables false
set_option linter.unusedSimpArgs false
set_option linter.unusedSectionVars false
namespace Go.Proofs.Ytadejpmecljjpaa
open Go Go.Eng
noncomputable abbrev WY (md : Md) : CtrW := addW 17 (readW specSam) (addW 31 specGr (WL md))
theorem WY_ok (md : Md) : CtrWOk Try.prog (WY md) := addW_ok (readW_ok one_Sam) (addW_ok one_Gr (WL_ok md))
noncomputable abbrev csY (md : Md) : CallS := callX Try.prog (WY md) H0 1000 40
noncomputable abbrev XY (md : Md) : CX Try.prog := CX.of mo po (WY_ok md) H0 1000 40
noncomputable abbrev cdLy : Code := bodyOf Try.f7
noncomputable abbrev tlLy : Code := tailN 13 cdLy
noncomputable abbrev lpLy : Code := seqL tlLy
noncomputable abbrev loLy : Code := inner (seqR lpLy)
noncomputable abbrev enLy : Code := seqR tlLy
def pG (b : Nat) (cl : Cl) : Nat := mN cl (b + 1)
def frY0 (cl : Cl) : List (Nat × V) := [(7, .bool true), (8, .ptr (some (3, 0))), (9, .ptr (some (pG 3 cl, 0))), (10, .ptr (some (pG 3 cl + 1, 0)))]
abbrev slS := slA
section
variable (nF nM nS : Bool) (fs ms ss : List Int) (cl : Cl) (k r d v : Int) (l : Nat) (gs : List Int) (a b c e X0 Y0 X1 Y1 : Int) (N : Nat) (px : List Int) (lS cS : Nat) (b0 b1 : Int)
def rows3 : List (Nat × O) := opQ nF 0 fs ++ (opQ nM 1 ms ++ opQ nS 2 ss)
def lsM3 : List (Nat × O) := rows3 nF nM nS fs ms ss ++ ([(3, fbO 4 k r d v cl l)] ++ mO cl 4 gs ++ [(pG 3 cl, bx4 a b c e), (pG 3 cl + 1, imO (pG 3 cl + 2) X0 Y0 X1 Y1 N), (pG 3 cl + 2, .own .u8 px)])
def q2O (b0 b1 : Int) : O := .cells [.int .i64 b0, .int .i64 b1]
def sY0 : St := stG (frY0 cl ++ [(1, slS nS 2 lS cS), (5, .ptr (some (pG 3 cl + 3, 0)))]) (hL (lsM3 nF nM nS fs ms ss cl k r d v l gs a b c e X0 Y0 X1 Y1 N px ++ [(pG 3 cl + 3, q2O b0 b1)])) (pG 3 cl + 4)
variable (M : Nat) (ox oy : List Int)
def frY1 (cl : Cl) : List (Nat × V) := frY0 cl ++ [(11, .ptr (some (pG 3 cl + 3, 0))), (12, .int .i64 0), (13, .ptr (some (pG 3 cl + 5, 0))), (14, .int .i64 0)]
def lsY1 : List (Nat × O) := lsM3 nF nM nS fs ms ss cl k r d v l gs a b c e X0 Y0 X1 Y1 N px ++ [(pG 3 cl + 3, imO (pG 3 cl + 4) a b c e M), (pG 3 cl + 4, .own .u8 ox), (pG 3 cl + 5, imO (pG 3 cl + 6) a b c e M), (pG 3 cl + 6, .own .u8 oy)]
def sY1 : St := stG (frY1 cl ++ [(5, .ptr (some (pG 3 cl + 7, 0)))]) (hL (lsY1 nF nM nS fs ms ss cl k r d v l gs a b c e X0 Y0 X1 Y1 N px M ox oy ++ [(pG 3 cl + 7, q2O b0 b1)])) (pG 3 cl + 8)
def sY2 (t : Nat) : St := stG (frY1 cl ++ [(15, .int .i64 (Int.ofNat t)), (5, .ptr (some (pG 3 cl + 7, 0)))]) (hL (lsY1 nF nM nS fs ms ss cl k r d v l gs a b c e X0 Y0 X1 Y1 N px M ox oy ++ [(pG 3 cl + 7, q2O b0 b1)])) (pG 3 cl + 8)
variable (N' : Nat) (nx : List Int)
def sY3 (t : Nat) : St := stG (frY1 cl ++ [(15, .int .i64 (Int.ofNat t)), (16, .ptr (some (pG 3 cl + 7, 0)))]) (hL (lsY1 nF nM nS fs ms ss cl k r d v l gs a b c e X0 Y0 X1 Y1 N px M ox oy ++ [(pG 3 cl + 7, imO (pG 3 cl + 8) X0 Y0 X1 Y1 N'), (pG 3 cl + 8, .own .u8 nx)])) (pG 3 cl + 9)
variable (oz : List Int)
def lsY4 : List (Nat × O) := lsY1 nF nM nS fs ms ss cl k r d v l gs a b c e X0 Y0 X1 Y1 N px M ox oy ++ [(pG 3 cl + 7, imO (pG 3 cl + 8) a b c e M), (pG 3 cl + 8, .own .u8 oz)]
def sY4 (t : Nat) : St := stG (frY1 cl ++ [(15, .int .i64 (Int.ofNat t)), (17, .ptr (some (pG 3 cl + 7, 0))), (18, .int .i64 0)]) (hL (lsY4 nF nM nS fs ms ss cl k r d v l gs a b c e X0 Y0 X1 Y1 N px M ox oy oz)) (pG 3 cl + 9)
def frY5 : List (Nat × V) := [(7, .bool true), (9, .ptr (some (3, 0))), (11, .ptr (some (4, 0))), (17, .ptr (some (6, 0))), (21, .ptr (some (8, 0)))]
def sY5 (A B C D : Int) : St := stG frY5 (hL (rows3 nF nM nS fs ms ss ++ [(3, bx4 a b c e), (4, imO 5 a b c e M), (5, .own .u8 ox), (6, imO 7 a b c e M), (7, .own .u8 oz), (8, bx4 A B C D)])) 9
def sY6 (A B C D : Int) (i : Nat) : St := stG (frY5 ++ [(22, .int .i64 (Int.ofNat i))]) (hL (rows3 nF nM nS fs ms ss ++ [(3, bx4 a b c e), (4, imO 5 a b c e M), (5, .own .u8 ox), (6, imO 7 a b c e M), (7, .own .u8 oz), (8, bx4 A B C D)])) 9
theorem ly_1 (lF cF lM cM : Nat) (q0 q1 q2 q3 : Int) : RunIs Try.prog (csY (mdC cl k r d v l gs)) [] 1000 3 Try.f7 [7, 8, 9, 10, 1, 5] (headN 3 cdLy) (startSt [askV nF nM lF cF lM cM q0 q1 q2 q3, slS nS 2 lS cS, .agg [.int .i64 b0, .int .i64 b1]] (rH [rwI nF fs, rwI nM ms, rwI nS ss]) 3) []
    [([], [ln nM lM ≤ (rw' nM ms).length, MadeIs (rw' nF fs) (min 60 (ln nF lF)) (mdC cl k r d v l gs)], .to .normal (sY0 nF nM nS fs ms ss cl k r d v l gs (smX q0) (smX q1) (smW q0 q2) (smW q1 q3)
      (ndM true (mdC cl k r d v l gs) q0 q1 q2 q3).1 (ndM true (mdC cl k r d v l gs) q0 q1 q2 q3).2.1 (ndM true (mdC cl k r d v l gs) q0 q1 q2 q3).2.2.1 (ndM true (mdC cl k r d v l gs) q0 q1 q2 q3).2.2.2
      (arQ (ndM true (mdC cl k r d v l gs) q0 q1 q2 q3)).toNat (outR (imgQ (cutN (ln nM lM)) (rw' nM ms)) (arQ (ndM true (mdC cl k r d v l gs) q0 q1 q2 q3)).toNat) lS cS b0 b1))] := by
  unfold RunIs; cases cl <;> cases nF <;> cases nM <;> cases nS <;> kernel_rfl
abbrev flV : V := .agg [.int .i64 k, .int .i64 r, mkK cl 4 l, .int .i64 d, .int .i64 v, mkC cl 4 l]
abbrev gxS (X0 Y0 X1 Y1 : Int) (px : List Int) (lS : Nat) (ss : List Int) : List Int := grow2 X0 Y0 X1 Y1 px (outR (imgQ (cutN lS) ss) (rcN (X0 - 2) (Y0 - 2) (X1 + 2) (Y1 + 2))) (rcN X0 Y0 X1 Y1)
def ly2 : List Prop := fa5 (mdC cl k r d v l gs) ++ (asC cl k r d v l gs X0 Y0 X1 Y1 a b c e N px ++ (capI (cutI (ln nS lS)) (ln nS cS) :: (grOk X0 Y0 X1 Y1 N px (cutN (ln nS lS)) (rw' nS ss) ++ (fa5 (mdC cl k r d v l gs) ++
  asC cl k r d v l gs (X0 - 2) (Y0 - 2) (X1 + 2) (Y1 + 2) a b c e (rcN (X0 - 2) (Y0 - 2) (X1 + 2) (Y1 + 2)) (gxS X0 Y0 X1 Y1 px (ln nS lS) (rw' nS ss))))))
theorem ly_2 : RunIs Try.prog (csY (mdC cl k r d v l gs)) [] 1000 3 Try.f7 [7, 8, 9, 10, 11, 12, 13, 14, 5] (headN 2 (tailN 3 cdLy)) (sY0 nF nM nS fs ms ss cl k r d v l gs a b c e X0 Y0 X1 Y1 N px lS cS b0 b1) [flV cl k r d v l, RC4 a b c e]
    [([], ly2 nS ss cl k r d v l gs a b c e X0 Y0 X1 Y1 N px lS cS, .to .normal (sY1 nF nM nS fs ms ss cl k r d v l gs a b c e X0 Y0 X1 Y1 N px b0 b1 (rcN a b c e) (outC cl k r d v l gs X0 Y0 X1 a b c e px) (outC cl k r d v l gs (X0 - 2) (Y0 - 2) (X1 + 2) a b c e (gxS X0 Y0 X1 Y1 px (ln nS lS) (rw' nS ss)))))] := by
  unfold RunIs; cases cl <;> cases nF <;> cases nM <;> cases nS <;> kernel_rfl
theorem ly_3 (t : Nat) : RunIs Try.prog (csY (mdC cl k r d v l gs)) [(15, .give (.int .i64 (Int.ofNat t)))] 1000 3 Try.f7 [7, 8, 9, 10, 11, 12, 13, 14, 15, 5] (headN 1 (tailN 5 cdLy)) (sY1 nF nM nS fs ms ss cl k r d v l gs a b c e X0 Y0 X1 Y1 N px b0 b1 M ox oy) []
    [([], [(N : Int) ≠ 0, (N : Int) ≠ 0, V.int .i64 ((w64 (b0.tmod N + N)).tmod N) = V.int .i64 (Int.ofNat t)], .to .normal (sY2 nF nM nS fs ms ss cl k r d v l gs a b c e X0 Y0 X1 Y1 N px b0 b1 M ox oy t))] := by
  unfold RunIs; cases cl <;> cases nF <;> cases nM <;> cases nS <;> kernel_rfl
theorem ly_4 (t : Nat) : RunIs Try.prog (csY (mdC cl k r d v l gs)) [] 1000 3 Try.f7 [7, 8, 9, 10, 11, 12, 13, 14, 15, 16] (headN 2 (tailN 6 cdLy)) (sY2 nF nM nS fs ms ss cl k r d v l gs a b c e X0 Y0 X1 Y1 N px b0 b1 M ox oy t) [RC4 X0 Y0 X1 Y1, .slc (some (pG 3 cl + 17, 0)) (0 + N) (0 + N) 4, .slc (some (pG 3 cl + 17, 0)) (0 + N) (0 + N) 4]
    [([], [0 < N, 0 + N * 4 ≤ px.length, 0 < N, roomy (0 + N) 4 4 = true, 0 ≤ Int.ofNat t ∧ Int.ofNat t < ((0 + N : Nat) : Int), 0 + (Int.ofNat t).toNat * 4 + 4 ≤ ([] ++ (px.drop 0).take (N * 4)).length],
      .to .normal (sY3 nF nM nS fs ms ss cl k r d v l gs a b c e X0 Y0 X1 Y1 N px M ox oy (0 + N) (putI ([] ++ (px.drop 0).take (N * 4)) (0 + t * 4) (q4l (clQ (madeQ b1)))) t))] := by
  unfold RunIs; cases cl <;> cases nF <;> cases nM <;> cases nS <;> kernel_rfl
theorem ly_5 (t : Nat) : RunIs Try.prog (csY (mdC cl k r d v l gs)) [] 1000 3 Try.f7 [7, 8, 9, 10, 11, 12, 13, 14, 15, 17, 18] (headN 1 (tailN 8 cdLy)) (sY3 nF nM nS fs ms ss cl k r d v l gs a b c e X0 Y0 X1 Y1 N px (rcN a b c e) ox oy N nx t) []
    [([], fa5 (mdC cl k r d v l gs) ++ asC cl k r d v l gs X0 Y0 X1 Y1 a b c e N nx, .to .normal (sY4 nF nM nS fs ms ss cl k r d v l gs a b c e X0 Y0 X1 Y1 N px (rcN a b c e) ox oy (outC cl k r d v l gs X0 Y0 X1 a b c e nx) t))] := by
  unfold RunIs; cases cl <;> cases nF <;> cases nM <;> cases nS <;> kernel_rfl
def atP (X0 X1 : Int) (t : Nat) : Int := w64 (X0 + (Int.ofNat t).tmod (w64 (X1 - X0)))
def atS (X0 Y0 X1 : Int) (t : Nat) : Int := w64 (Y0 + w64 ((Int.ofNat t).tdiv (w64 (X1 - X0))))
abbrev spQ (vb : Bool) (k r v X0 Y0 X1 : Int) (t : Nat) : Q4 := areaQ vb k r v (atP X0 X1 t) (atS X0 Y0 X1 t) (w64 (atP X0 X1 t + 1)) (w64 (atS X0 Y0 X1 t + 1)) 1
theorem ly_6 (t : Nat) : RunIs Try.prog (csY (mdC cl k r d v l gs)) [(92, .give (.bool false)), (95, .give (.bool false)), (99, .give (.bool false)), (112, .give (.bool false))] 1000 3 Try.f7 [7, 9, 11, 17, 21] (headN 4 (tailN 9 cdLy)) (sY4 nF nM nS fs ms ss cl k r d v l gs a b c e X0 Y0 X1 Y1 N px M ox oy oz t) [flV cl k r d v l]
    [([], smOk a b c e a b c e M M ox oy ++ ([pBq ((0 : Int) != 0) false, pBq ((0 : Int) != 0) false, pBq ((0 : Int) != 0) false, pBq ((M : Int) != (M : Int)) false, w64 (X1 - X0) ≠ 0, w64 (X1 - X0) ≠ 0] ++ fa5 (mdC cl k r d v l gs)),
      .to .normal (sY5 nF nM nS fs ms ss a b c e M ox oz (spQ (vBC cl k r d v l gs) k r v X0 Y0 X1 t).1 (spQ (vBC cl k r d v l gs) k r v X0 Y0 X1 t).2.1 (spQ (vBC cl k r d v l gs) k r v X0 Y0 X1 t).2.2.1 (spQ (vBC cl k r d v l gs) k r v X0 Y0 X1 t).2.2.2))] := by
  unfold RunIs; cases cl <;> cases nF <;> cases nM <;> cases nS <;> kernel_rfl
theorem ly_8 (A B C D : Int) : RunIs Try.prog (csY (mdC cl k r d v l gs)) [] 1000 3 Try.f7 [7, 9, 11, 17, 21, 22] (seqL lpLy) (sY5 nF nM nS fs ms ss a b c e M ox oz A B C D) []
    [([], [], .to .normal (sY6 nF nM nS fs ms ss a b c e M ox oz A B C D 0))] := by
  unfold RunIs; cases nF <;> cases nM <;> cases nS <;> kernel_rfl
def ly9a (i : Nat) : List Prop := [w64 (c - a) ≠ 0, w64 (c - a) ≠ 0, 0 ≤ Int.ofNat i ∧ Int.ofNat i < (M : Int), 0 + (Int.ofNat i).toNat * 4 + 4 ≤ ox.length, 0 ≤ Int.ofNat i ∧ Int.ofNat i < (M : Int), 0 + (Int.ofNat i).toNat * 4 + 4 ≤ oz.length]
abbrev neB (i : Nat) : Bool := !q4E (g4 ox (0 + i * 4)) (g4 oz (0 + i * 4))
theorem ly_9 (A B C D : Int) (i : Nat) : RunIs Try.prog (csY (mdC cl k r d v l gs)) [(142, .split), (179, .split), (182, .give (.bool false)), (22, .give (.int .i64 (Int.ofNat (i + 1))))] 1000 3 Try.f7 [7, 9, 11, 17, 21, 22] (inner loLy) (sY6 nF nM nS fs ms ss a b c e M ox oz A B C D i) []
    [([(decide (Int.ofNat i < (M : Int)), true), (neB ox oz i, true)], ly9a a c M ox oz i ++ [pBq (!insideB (atP a c i) (atS a b c i) (w64 (atP a c i + 1)) (w64 (atS a b c i + 1)) A B C D) false, upP (Int.ofNat i) (Int.ofNat (i + 1))], .to .normal (sY6 nF nM nS fs ms ss a b c e M ox oz A B C D (i + 1))),
     ([(decide (Int.ofNat i < (M : Int)), true), (neB ox oz i, false)], ly9a a c M ox oz i ++ [upP (Int.ofNat i) (Int.ofNat (i + 1))], .to .normal (sY6 nF nM nS fs ms ss a b c e M ox oz A B C D (i + 1))),
     ([(decide (Int.ofNat i < (M : Int)), false)], [], .to (.exit 0) (sY6 nF nM nS fs ms ss a b c e M ox oz A B C D i))] := by
  unfold RunIs; cases nF <;> cases nM <;> cases nS <;> kernel_rfl
theorem ly_10 (A B C D : Int) (i : Nat) : ∃ h n, RunIs Try.prog (csY (mdC cl k r d v l gs)) [] 1000 3 Try.f7 [] enLy (sY6 nF nM nS fs ms ss a b c e M ox oz A B C D i) []
    [([], [], .ret (.bool true) h n)] := by
  refine ⟨hL (rows3 nF nM nS fs ms ss), 3, ?_⟩
  unfold RunIs; cases nF <;> cases nM <;> cases nS <;> kernel_rfl
end
end Go.Proofs.Ytadejpmecljjpaa
