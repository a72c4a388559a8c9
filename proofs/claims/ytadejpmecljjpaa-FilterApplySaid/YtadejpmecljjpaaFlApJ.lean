/- FilterApply: the law's first part. No conditions. -/
import Derived.Test.YtadejpmecljjpaaFlApH
set_option linter.unusedVariables false
set_option linter.unusedSimpArgs false
set_option linter.unusedSectionVars false
namespace Go.Proofs.Ytadejpmecljjpaa
open Go Go.Eng
set_option linter.unusedVariables false
noncomputable abbrev WQ0 : CtrW := addW 17 (readW specSam) WH
theorem WQ0_ok : CtrWOk Try.prog WQ0 := addW_ok (readW_ok one_Sam) WH_ok
noncomputable abbrev WQm (md : Md) : CtrW := addW 14 (specMade md) WQ0
theorem WQm_ok (md : Md) : CtrWOk Try.prog (WQm md) := addW_ok (one_Made md) WQ0_ok
noncomputable abbrev csQm (md : Md) : CallS := callX Try.prog (WQm md) H0 1000 40
noncomputable abbrev XQm (md : Md) : CX Try.prog := CX.of mo po (WQm_ok md) H0 1000 40
noncomputable abbrev WQk : CtrW := addW 16 (apSpec ROk) (addW 15 (apSpec SOk) WQ0)
theorem WQk_ok : CtrWOk Try.prog WQk := addW_ok one_RaOk (addW_ok one_ApOk WQ0_ok)
noncomputable abbrev csQk : CallS := callX Try.prog WQk H0 1000 40
noncomputable abbrev XQk : CX Try.prog := CX.of mo po WQk_ok H0 1000 40
noncomputable abbrev WQe (z : Int) : CtrW := addW 16 (apSpec (REr z)) (addW 15 (apSpec (SEr z)) WQ0)
theorem WQe_ok (z : Int) : CtrWOk Try.prog (WQe z) := addW_ok (one_RaEr z) (addW_ok (one_ApEr z) WQ0_ok)
noncomputable abbrev csQe (z : Int) : CallS := callX Try.prog (WQe z) H0 1000 40
noncomputable abbrev XQe (z : Int) : CX Try.prog := CX.of mo po (WQe_ok z) H0 1000 40
noncomputable abbrev WQn : CtrW := addW 15 (apSpec SEm) WQ0
theorem WQn_ok : CtrWOk Try.prog WQn := addW_ok one_ApEm WQ0_ok
noncomputable abbrev csQn : CallS := callX Try.prog WQn H0 1000 40
noncomputable abbrev XQn : CX Try.prog := CX.of mo po WQn_ok H0 1000 40
noncomputable abbrev cdFA : Code := bodyOf Try.f3
def p5 (cl : Cl) : Nat := mN cl 5
def slG (b : Bool) (pos m c : Nat) : V := match b with | true => .slc none 0 0 0 | false => .slc (some (pos, 0)) m c 1
def gotO (pos : Nat) (a b c e : Int) (M : Nat) : O := .cells [.int .i64 a, .int .i64 b, .int .i64 c, .int .i64 e, .slc (some (pos, 0)) M M 4, .int .i64 0]
def noO : O := .cells [.int .i64 0, .int .i64 0, .int .i64 0, .int .i64 0, .slc none 0 0 0]
def rerO (z : Int) : O := .cells [.int .i64 0, .int .i64 0, .int .i64 0, .int .i64 0, .slc none 0 0 0, .int .i64 z]
def zOf (h : Bool) (z : Int) : Int := match h with | true => z | false => 0
def nG (h : Bool) (p : Nat) : Nat := match h with | true => p + 1 | false => p + 2
def nE (h : Bool) (p : Nat) : Nat := match h with | true => p + 2 | false => p + 4
def gBl (h : Bool) (p : Nat) (a b c e : Int) (M : Nat) (oy : List Int) (z : Int) : List (Nat × O) := match h with | true => [(p, noO), (p + 1, rerO z)] | false => [(p, imO (p + 1) a b c e M), (p + 1, .own .u8 oy), (p + 2, gotO (p + 3) a b c e M), (p + 3, .own .u8 oy)]
def k60 (l : Nat) : Int := if 60 < Int.ofNat l then 60 else Int.ofNat l
def k300 (l : Nat) : Int := if 300 < Int.ofNat l then 300 else Int.ofNat l
abbrev erF (cl : Cl) (k r d v : Int) (l : Nat) (gs : List Int) (X0 Y0 X1 Y1 a b c e : Int) (N : Nat) : Int := apErr X0 Y0 X1 Y1 a b c e N k r d v (glK cl l) (grK cl gs) (glC cl l) (grC cl gs)
abbrev ouF (cl : Cl) (k r d v : Int) (l : Nat) (gs : List Int) (X0 Y0 X1 a b c e : Int) (px : List Int) : List Int := apO X0 Y0 X1 a b c e px k r d v (grK cl gs) (glC cl l) (grC cl gs)
def askF (cl : Cl) (k r d v : Int) (l : Nat) (gs : List Int) (X0 Y0 X1 Y1 a b c e : Int) (N : Nat) (px : List Int) : List Prop := [N * 4 ≤ px.length, erF cl k r d v l gs X0 Y0 X1 Y1 a b c e N = 0, emptyB a b c e = false]
section
variable (nF nM nK nC : Bool) (fs ms ks cs : List Int) (cl : Cl) (k r d v : Int) (l : Nat) (gs : List Int) (gk gr gd gv : Int) (mK cK mC cC : Nat) (a b c e X0 Y0 X1 Y1 : Int) (N : Nat) (px : List Int) (A B C E : Int) (M : Nat) (ox : List Int) (h : Bool) (oy : List Int) (z y : Int)
abbrev stFA (lF cF lM cM lK lC : Nat) (q0 q1 q2 q3 : Int) : St := startSt [askV nF nM lF cF lM cM q0 q1 q2 q3, FV gk gr (slA nK 2 lK cK) gd gv (slA nC 3 lC cC), RC4 A B C E] (rH [rwI nF fs, rwI nM ms, rwI nK ks, rwI nC cs]) 4
def rows4 : List (Nat × O) := opQ nF 0 fs ++ (opQ nM 1 ms ++ (opQ nK 2 ks ++ opQ nC 3 cs))
def lsF0 : List (Nat × O) := rows4 nF nM nK nC fs ms ks cs ++ ([(4, fbO 5 k r d v cl l)] ++ mO cl 5 gs ++ [(p5 cl, bx4 a b c e), (p5 cl + 1, imO (p5 cl + 2) X0 Y0 X1 Y1 N), (p5 cl + 2, .own .u8 px)])
def shO' (pos : Nat) (X0 Y0 X1 Y1 : Int) (N : Nat) : O := .cells [.int .i64 X0, .int .i64 Y0, .int .i64 X1, .int .i64 Y1, .slc (some (pos, 0)) (N - 1) N 4]
def lsF1 : List (Nat × O) := lsF0 nF nM nK nC fs ms ks cs cl k r d v l gs a b c e X0 Y0 X1 Y1 N px ++ [(p5 cl + 3, shO' (p5 cl + 2) X0 Y0 X1 Y1 N), (p5 cl + 4, .cells (FV gk gr (slG nK 2 mK cK) gd gv (slG nC 3 mC cC)).cells), (p5 cl + 5, bx4 A B C E)]
def frF1 : List (Nat × V) := [(7, .bool true), (8, .ptr (some (4, 0))), (9, .ptr (some (p5 cl, 0))), (10, .ptr (some (p5 cl + 1, 0))), (11, .ptr (some (p5 cl + 3, 0))), (4, .ptr (some (p5 cl + 4, 0))), (5, .ptr (some (p5 cl + 5, 0)))]
def sF1 : St := stG (frF1 cl) (hL (lsF1 nF nM nK nC fs ms ks cs cl k r d v l gs gk gr gd gv mK cK mC cC a b c e X0 Y0 X1 Y1 N px A B C E)) (p5 cl + 6)
def lsF2 : List (Nat × O) := lsF1 nF nM nK nC fs ms ks cs cl k r d v l gs gk gr gd gv mK cK mC cC a b c e X0 Y0 X1 Y1 N px A B C E ++ [(p5 cl + 6, imO (p5 cl + 7) a b c e M), (p5 cl + 7, .own .u8 ox), (p5 cl + 8, gotO (p5 cl + 9) a b c e M), (p5 cl + 9, .own .u8 ox)]
def sF2 : St := stG (frF1 cl ++ [(12, .ptr (some (p5 cl + 6, 0))), (13, .int .i64 0), (14, .ptr (some (p5 cl + 8, 0)))]) (hL (lsF2 nF nM nK nC fs ms ks cs cl k r d v l gs gk gr gd gv mK cK mC cC a b c e X0 Y0 X1 Y1 N px A B C E M ox)) (p5 cl + 10)
def frF3 : List (Nat × V) := [(7, .bool true), (8, .ptr (some (4, 0))), (9, .ptr (some (p5 cl, 0))), (10, .ptr (some (p5 cl + 1, 0))), (5, .ptr (some (p5 cl + 3, 0))), (12, .ptr (some (p5 cl + 4, 0))), (13, .int .i64 0), (14, .ptr (some (p5 cl + 6, 0))), (15, .ptr (some (p5 cl + 8, 0))), (16, .int .i64 (zOf h z)), (17, .ptr (some (nG h (p5 cl + 8), 0)))]
def lsF3 : List (Nat × O) := lsF0 nF nM nK nC fs ms ks cs cl k r d v l gs a b c e X0 Y0 X1 Y1 N px ++ ([(p5 cl + 3, bx4 A B C E), (p5 cl + 4, imO (p5 cl + 5) a b c e M), (p5 cl + 5, .own .u8 ox), (p5 cl + 6, gotO (p5 cl + 7) a b c e M), (p5 cl + 7, .own .u8 ox)] ++ gBl h (p5 cl + 8) a b c e M oy z)
def sF3 : St := stG (frF3 cl h z ++ [(11, .ptr (some (nE h (p5 cl + 8), 0)))]) (hL (lsF3 nF nM nK nC fs ms ks cs cl k r d v l gs a b c e X0 Y0 X1 Y1 N px A B C E M ox h oy z ++ [(nE h (p5 cl + 8), shO' (p5 cl + 2) X0 Y0 X1 Y1 N)])) (nE h (p5 cl + 8) + 1)
def sF4 : St := stG (frF3 cl h z ++ [(19, .int .i64 1)]) (hL (lsF3 nF nM nK nC fs ms ks cs cl k r d v l gs a b c e X0 Y0 X1 Y1 N px A B C E M ox h oy z)) (nE h (p5 cl + 8))
def sF5 : St := stG (frF3 cl h z ++ [(19, .int .i64 1), (21, .int .i64 y)]) (hL (lsF3 nF nM nK nC fs ms ks cs cl k r d v l gs a b c e X0 Y0 X1 Y1 N px A B C E M ox h oy z)) (nE h (p5 cl + 8))
def emO (a : Int) : O := .cells [.int .i64 a, .int .i64 0, .int .i64 a, .int .i64 0, .slc none 0 0 0]
def sF6 : St := stG (frF3 cl h z ++ [(19, .int .i64 1), (21, .int .i64 y), (22, .ptr (some (nE h (p5 cl + 8), 0))), (23, .int .i64 0)]) (hL (lsF3 nF nM nK nC fs ms ks cs cl k r d v l gs a b c e X0 Y0 X1 Y1 N px A B C E M ox h oy z ++ [(nE h (p5 cl + 8), emO a)])) (nE h (p5 cl + 8) + 1)
def faA (lM lF lK lC : Nat) (N : Nat) : List Prop := [ln nM lM ≤ (rw' nM ms).length, MadeIs (rw' nF fs) (min 60 (ln nF lF)) ⟨cl, k, r, d, v, l, gs⟩, capI (k60 (ln nK lK)) (ln nK cK), capI (k300 (ln nC lC)) (ln nC cC), V.int .i64 (w64 (Int.ofNat N - 1)) = V.int .i64 (Int.ofNat (N - 1)), 0 ≤ Int.ofNat (N - 1) ∧ Int.ofNat (N - 1) ≤ Int.ofNat N]
theorem fa_A (lF cF lM cM lK lC : Nat) (q0 q1 q2 q3 : Int) : RunIs Try.prog (csQm ⟨cl, k, r, d, v, l, gs⟩) [(55, .give (.int .i64 (Int.ofNat ((arQ (ndM true ⟨cl, k, r, d, v, l, gs⟩ q0 q1 q2 q3)).toNat - 1))))] 1000 4 Try.f3 [7, 8, 9, 10, 11, 4, 5] (headN 6 cdFA) (stFA nF nM nK nC fs ms ks cs gk gr gd gv cK cC A B C E lF cF lM cM lK lC q0 q1 q2 q3) []
    [([], faA nF nM nK nC fs ms cl k r d v l gs cK cC lM lF lK lC (arQ (ndM true ⟨cl, k, r, d, v, l, gs⟩ q0 q1 q2 q3)).toNat, .to .normal (sF1 nF nM nK nC fs ms ks cs cl k r d v l gs gk gr gd gv (k60 lK).toNat cK (k300 lC).toNat cC (smX q0) (smX q1) (smW q0 q2) (smW q1 q3) (ndM true ⟨cl, k, r, d, v, l, gs⟩ q0 q1 q2 q3).1 (ndM true ⟨cl, k, r, d, v, l, gs⟩ q0 q1 q2 q3).2.1 (ndM true ⟨cl, k, r, d, v, l, gs⟩ q0 q1 q2 q3).2.2.1 (ndM true ⟨cl, k, r, d, v, l, gs⟩ q0 q1 q2 q3).2.2.2 (arQ (ndM true ⟨cl, k, r, d, v, l, gs⟩ q0 q1 q2 q3)).toNat (outR (imgQ (cutN (ln nM lM)) (rw' nM ms)) (arQ (ndM true ⟨cl, k, r, d, v, l, gs⟩ q0 q1 q2 q3)).toNat) A B C E))] := by
  unfold RunIs; cases cl <;> cases nF <;> cases nM <;> cases nK <;> cases nC <;> kernel_rfl
def okR (a b c e : Int) : List Prop := [N * 4 ≤ px.length, u8r px, erF cl k r d v l gs X0 Y0 X1 Y1 a b c e N = 0, emptyB a b c e = false]
theorem fa_B : RunIs Try.prog csQk [] 1000 4 Try.f3 [7, 8, 9, 10, 11, 4, 5, 12, 13, 14] (headN 2 (tailN 6 cdFA)) (sF1 nF nM nK nC fs ms ks cs cl k r d v l gs gk gr gd gv mK cK mC cC a b c e X0 Y0 X1 Y1 N px A B C E) []
    [([], fa5 ⟨cl, k, r, d, v, l, gs⟩ ++ (askF cl k r d v l gs X0 Y0 X1 Y1 a b c e N px ++ (fa5 ⟨cl, k, r, d, v, l, gs⟩ ++ okR cl k r d v l gs X0 Y0 X1 Y1 N px a b c e)), .to .normal (sF2 nF nM nK nC fs ms ks cs cl k r d v l gs gk gr gd gv mK cK mC cC a b c e X0 Y0 X1 Y1 N px A B C E (rcN a b c e) (ouF cl k r d v l gs X0 Y0 X1 a b c e px)))] := by
  unfold RunIs; cases cl <;> cases nF <;> cases nM <;> cases nK <;> cases nC <;> kernel_rfl
theorem fa_Ck : RunIs Try.prog csQk [] 1000 4 Try.f3 [7, 8, 9, 10, 5, 12, 13, 14, 15, 16, 17, 11] (headN 2 (tailN 8 cdFA)) (sF2 nF nM nK nC fs ms ks cs cl k r d v l gs gk gr gd gv mK cK mC cC a b c e X0 Y0 X1 Y1 N px A B C E (rcN a b c e) ox) []
    [([], fa4 nK nC mK mC ks cs ++ ([N * 4 ≤ px.length, aE nK nC X0 Y0 X1 Y1 a b c e N gk gr gd gv mK mC ks cs = 0, emptyB a b c e = false] ++ (fa4 nK nC mK mC ks cs ++ [N * 4 ≤ px.length, u8r px, aE nK nC X0 Y0 X1 Y1 a b c e N gk gr gd gv mK mC ks cs = 0, emptyB a b c e = false])), .to .normal (sF3 nF nM nK nC fs ms ks cs cl k r d v l gs a b c e X0 Y0 X1 Y1 N px A B C E (rcN a b c e) ox false (apO X0 Y0 X1 a b c e px gk gr gd gv (rw' nK ks) (ln nC mC) (rw' nC cs)) z))] := by
  unfold RunIs; cases cl <;> cases nF <;> cases nM <;> cases nK <;> cases nC <;> kernel_rfl
theorem fa_Ce : RunIs Try.prog (csQe z) [] 1000 4 Try.f3 [7, 8, 9, 10, 5, 12, 13, 14, 15, 16, 17, 11] (headN 2 (tailN 8 cdFA)) (sF2 nF nM nK nC fs ms ks cs cl k r d v l gs gk gr gd gv mK cK mC cC a b c e X0 Y0 X1 Y1 N px A B C E (rcN a b c e) ox) []
    [([], fa4 nK nC mK mC ks cs ++ ([aE nK nC X0 Y0 X1 Y1 a b c e N gk gr gd gv mK mC ks cs = z, z ≠ 0] ++ (fa4 nK nC mK mC ks cs ++ [aE nK nC X0 Y0 X1 Y1 a b c e N gk gr gd gv mK mC ks cs = z, z ≠ 0])), .to .normal (sF3 nF nM nK nC fs ms ks cs cl k r d v l gs a b c e X0 Y0 X1 Y1 N px A B C E (rcN a b c e) ox true oy z))] := by
  unfold RunIs; cases cl <;> cases nF <;> cases nM <;> cases nK <;> cases nC <;> kernel_rfl
end
end Go.Proofs.Ytadejpmecljjpaa
