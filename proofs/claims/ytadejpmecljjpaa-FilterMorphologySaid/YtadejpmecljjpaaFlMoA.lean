/- FilterMorphology: its pieces. No conditions. -/
import Derived.Test.YtadejpmecljjpaaFlFourteen
set_option linter.unusedVariables false
set_option linter.unusedSimpArgs false
set_option linter.unusedSectionVars false
namespace Go.Proofs.Ytadejpmecljjpaa
open Go Go.Eng
noncomputable abbrev WMo : CtrW := addW 17 (readW specSam) (addW 22 specOp (addW 23 specIm (addW 15 (apSpec SOk) WH)))
theorem WMo_ok : CtrWOk Try.prog WMo := addW_ok (readW_ok one_Sam) (addW_ok one_Op (addW_ok one_Im (addW_ok one_ApOk WH_ok)))
noncomputable abbrev csMo : CallS := callX Try.prog WMo H0 1000 40
noncomputable abbrev XMo : CX Try.prog := CX.of mo po WMo_ok H0 1000 40
noncomputable abbrev cdMo : Code := bodyOf Try.f5
noncomputable abbrev tlMo : Code := tailN 15 cdMo
noncomputable abbrev lpMo : Code := seqL tlMo
noncomputable abbrev loMo : Code := inner (seqR lpMo)
noncomputable abbrev enMo : Code := seqR tlMo
abbrev apK (k n X0 Y0 X1 a b c e : Int) (px : List Int) : List Int := apO X0 Y0 X1 a b c e px k n 0 0 [] 0 []
def asK (k n X0 Y0 X1 Y1 a b c e : Int) (N : Nat) (px : List Int) : List Prop := fa0 0 [] 0 [] ++ [N * 4 ≤ px.length, apErr X0 Y0 X1 Y1 a b c e N k n 0 0 0 [] 0 [] = 0, emptyB a b c e = false]
section
variable (nF nM : Bool) (fs ms : List Int) (a b c e X0 Y0 X1 Y1 : Int) (N : Nat) (px : List Int) (n : Nat)
def frM0 : List (Nat × V) := [(5, .bool true), (6, .int .i64 (Int.ofNat n)), (7, .ptr (some (2, 0))), (8, .ptr (some (3, 0)))]
def sM0 : St := stG (frM0 n) (hL (rowsM nF nM fs ms ++ [(2, bx4 a b c e), (3, imO 4 X0 Y0 X1 Y1 N), (4, .own .u8 px)])) 5
def moG (q0 q1 q2 q3 : Int) (n : Nat) : Q4 := growQ (smX q0) (smX q1) (smW q0 q2) (smW q1 q3) (Int.ofNat n)
def moR (nM : Bool) (ms : List Int) (lM : Nat) (G : Q4) : List Int := outR (imgQ (cutN (ln nM lM)) (rw' nM ms)) (arQ G).toNat
def moL (nM : Bool) (lM cM : Nat) : List V := [slA nM 1 lM cM, slA nM 1 lM cM, .int .i64 (Int.ofNat (ln nM lM)), .int .i64 (cutI (ln nM lM)), cutV nM 1 lM cM]
theorem mo_1 (lF cF lM cM : Nat) (q0 q1 q2 q3 b0 : Int) : RunIs Try.prog csMo [(6, .give (.int .i64 (Int.ofNat n)))] 1000 2 Try.f5 [5, 6, 7, 8] (headN 5 cdMo) (startSt [askV nF nM lF cF lM cM q0 q1 q2 q3, .int .u8 b0] (rH [rwI nF fs, rwI nM ms]) 2) (moL nM lM cM)
    [([], [V.int .i64 (w64 (b0.tmod 4)) = V.int .i64 (Int.ofNat n), capI (cutI (ln nM lM)) (ln nM cM), capI (cutI (ln nM lM)) (ln nM cM), cutN (ln nM lM) ≤ (rw' nM ms).length, cutN (ln nM lM) ≤ 1000000, 0 < arQ (moG q0 q1 q2 q3 n), arQ (moG q0 q1 q2 q3 n) ≤ 1000000] ++ opOk (arQ (moG q0 q1 q2 q3 n)).toNat (moR nM ms lM (moG q0 q1 q2 q3 n)),
      .to .normal (sM0 nF nM fs ms (smX q0) (smX q1) (smW q0 q2) (smW q1 q3) (moG q0 q1 q2 q3 n).1 (moG q0 q1 q2 q3 n).2.1 (moG q0 q1 q2 q3 n).2.2.1 (moG q0 q1 q2 q3 n).2.2.2 (arQ (moG q0 q1 q2 q3 n)).toNat
        (orow ((moR nM ms lM (moG q0 q1 q2 q3 n)).take ((arQ (moG q0 q1 q2 q3 n)).toNat * 4)) (arQ (moG q0 q1 q2 q3 n)).toNat) n))] := by
  unfold RunIs; cases nF <;> cases nM <;> kernel_rfl
def mo2 : List Prop := asK 6 0 X0 Y0 X1 Y1 X0 Y0 X1 Y1 N px ++ (asK 3 (Int.ofNat n) X0 Y0 X1 Y1 a b c e N px ++ (asK 4 (Int.ofNat n) X0 Y0 X1 Y1 a b c e N px ++ (asK 2 (Int.ofNat n) X0 Y0 X1 Y1 a b c e N px ++
  (asK 3 (Int.ofNat n) X0 Y0 X1 Y1 a b c e (rcN X0 Y0 X1 Y1) (apK 6 0 X0 Y0 X1 X0 Y0 X1 Y1 px) ++ (asK 6 0 a b c e a b c e (rcN a b c e) (apK 4 (Int.ofNat n) X0 Y0 X1 a b c e px) ++
  ([pBq ((0 : Int) != 0) false, pBq ((0 : Int) != 0) false, pBq ((0 : Int) != 0) false, pBq ((0 : Int) != 0) false, pBq ((0 : Int) != 0) false, pBq ((0 : Int) != 0) false] ++
  (smOk a b c e a b c e (rcN a b c e) (rcN a b c e) (apK 3 (Int.ofNat n) X0 Y0 X1 a b c e (apK 6 0 X0 Y0 X1 X0 Y0 X1 Y1 px)) (apK 6 0 a b c a b c e (apK 4 (Int.ofNat n) X0 Y0 X1 a b c e px)) ++
  [pBq ((rcN a b c e : Int) != (rcN a b c e : Int)) false, pBq ((rcN a b c e : Int) != (rcN a b c e : Int)) false])))))))
variable (M : Nat) (ol oh om : List Int)
def frM1 : List (Nat × V) := [(5, .bool true), (12, .ptr (some (2, 0))), (14, .ptr (some (4, 0))), (16, .ptr (some (6, 0)))]
def lsM1 : List (Nat × O) := rowsM nF nM fs ms ++ [(2, imO 3 a b c e M), (3, .own .u8 ol), (4, imO 5 a b c e M), (5, .own .u8 oh), (6, imO 7 a b c e M), (7, .own .u8 om)]
def sM1 : St := stG frM1 (hL (lsM1 nF nM fs ms a b c e M ol oh om)) 8
def sM2 (i : Nat) : St := stG (frM1 ++ [(23, .int .i64 (Int.ofNat i))]) (hL (lsM1 nF nM fs ms a b c e M ol oh om)) 8
theorem mo_2 : RunIs Try.prog csMo [(95, .give (.bool false)), (98, .give (.bool false)), (102, .give (.bool false)), (106, .give (.bool false)), (110, .give (.bool false)), (114, .give (.bool false)), (128, .give (.bool false)), (137, .give (.bool false))] 1000 2 Try.f5 [5, 12, 14, 16] (headN 10 (tailN 5 cdMo)) (sM0 nF nM fs ms a b c e X0 Y0 X1 Y1 N px n) []
    [([], mo2 a b c e X0 Y0 X1 Y1 N px n, .to .normal (sM1 nF nM fs ms a b c e (rcN a b c e) (apK 3 (Int.ofNat n) X0 Y0 X1 a b c e px) (apK 4 (Int.ofNat n) X0 Y0 X1 a b c e px) (apK 2 (Int.ofNat n) X0 Y0 X1 a b c e px)))] := by
  unfold RunIs; cases nF <;> cases nM <;> kernel_rfl
theorem mo_3 : RunIs Try.prog csMo [] 1000 2 Try.f5 [5, 12, 14, 16, 23] (seqL lpMo) (sM1 nF nM fs ms a b c e M ol oh om) [] [([], [], .to .normal (sM2 nF nM fs ms a b c e M ol oh om 0))] := by
  unfold RunIs; cases nF <;> cases nM <;> kernel_rfl
abbrev gtB (x y : Int) : Bool := decide (x > y)
def mo4 (i : Nat) : List Prop := [0 ≤ Int.ofNat i ∧ Int.ofNat i < (M : Int), 0 + (Int.ofNat i).toNat * 4 + 4 ≤ ol.length, 0 ≤ Int.ofNat i ∧ Int.ofNat i < (M : Int), 0 + (Int.ofNat i).toNat * 4 + 4 ≤ om.length, 0 ≤ Int.ofNat i ∧ Int.ofNat i < (M : Int), 0 + (Int.ofNat i).toNat * 4 + 4 ≤ oh.length,
  pBq (gtB (g4 ol (0 + i * 4)).1 (g4 om (0 + i * 4)).1) false, pBq (gtB (g4 om (0 + i * 4)).1 (g4 oh (0 + i * 4)).1) false, pBq (gtB (g4 ol (0 + i * 4)).2.1 (g4 om (0 + i * 4)).2.1) false, pBq (gtB (g4 om (0 + i * 4)).2.1 (g4 oh (0 + i * 4)).2.1) false,
  pBq (gtB (g4 ol (0 + i * 4)).2.2.1 (g4 om (0 + i * 4)).2.2.1) false, pBq (gtB (g4 om (0 + i * 4)).2.2.1 (g4 oh (0 + i * 4)).2.2.1) false, pBq ((g4 om (0 + i * 4)).2.2.2 != 255) false, upP (Int.ofNat i) (Int.ofNat (i + 1))]
theorem mo_4 (i : Nat) : RunIs Try.prog csMo [(143, .split), (165, .give (.bool false)), (171, .give (.bool false)), (178, .give (.bool false)), (185, .give (.bool false)), (192, .give (.bool false)), (199, .give (.bool false)), (204, .give (.bool false)), (23, .give (.int .i64 (Int.ofNat (i + 1))))] 1000 2 Try.f5 [5, 12, 14, 16, 23] (inner loMo) (sM2 nF nM fs ms a b c e M ol oh om i) []
    [([(decide (Int.ofNat i < (M : Int)), true)], mo4 M ol oh om i, .to .normal (sM2 nF nM fs ms a b c e M ol oh om (i + 1))),
     ([(decide (Int.ofNat i < (M : Int)), false)], [], .to (.exit 0) (sM2 nF nM fs ms a b c e M ol oh om i))] := by
  unfold RunIs; cases nF <;> cases nM <;> kernel_rfl
theorem mo_5 (i : Nat) : ∃ h n, RunIs Try.prog csMo [] 1000 2 Try.f5 [] enMo (sM2 nF nM fs ms a b c e M ol oh om i) [] [([], [], .ret (.bool true) h n)] := by
  refine ⟨hL (rowsM nF nM fs ms), 2, ?_⟩
  unfold RunIs; cases nF <;> cases nM <;> kernel_rfl
end
end Go.Proofs.Ytadejpmecljjpaa
